/- Lemmas about the typed texts (joined: SSeal5 SFrame1 S8). -/
import Derived.Test.YthiccnmplgdheaaG9
import Derived.Test.YthiccnmplgdheaaG5
import Derived.Test.YthiccnmplgdheaaG2
/- Chapter 4: what is closed is opened; steps are one to one; the chapter's example. -/
set_option linter.unusedVariables false
set_option linter.unusedSimpArgs false
namespace Go.Abs
open Go
theorem bbT_ok {h : H} {s : Sl} {l : List UInt8} (hs : BufB h s l) (w : WF h) (hl : 0 < l.length) (hc : s.cap = l.length) (hl2 : l.length < B63) : bbT h s = some (s, h) := by
  rcases hs.tip with ht | ⟨a, r, e, ha, hobj, hsp, hver, hnro, hoff, hcap⟩
  · have := (Rd.nil hs.rd ht).1; rw [hs.rd.len] at this; omega
  obtain ⟨b, n, c⟩ := s
  simp only at ha hc
  subst ha hc
  have key : convA (DSE 0 tyB) h 1 1 (encSl ⟨some a, n, l.length⟩) = some (.val (.slice (some a) n l.length) h) := by
    unfold convA encSl
    simp only [show (DSE 0 tyB).ty.get 1 = some ⟨1, 24, .slice none 0 0, .slice 0, false⟩ from DSE_s 0 _, DSE_e, show tyB.desc = .int .u8 from rfl, capK_exact hl2, hobj]
    have : (Nat.beq 1 1 && Nat.blt 0 l.length && h.nro.ble a.block) = true := by
      simp only [Bool.and_eq_true, Nat.ble_eq, Nat.blt_eq]; exact ⟨⟨rfl, hl⟩, hnro⟩
    rw [this]; rfl
  unfold bbT
  rw [key]; rfl
end Go.Abs
namespace Go.Proofs.Ythiccnmplgdheaa.T
open Go Go.Abs Go.Proofs
theorem mk_mk (h0 : Int) : ∀ (l : List UInt8) (i : Nat), mk h0 i (mk h0 i l) = l
  | [], _ => rfl
  | b :: t, i => by
    simp only [mk, mk_mk h0 t, UInt8.xor_assoc, UInt8.xor_self, UInt8.xor_zero]
theorem open_close (key num : Int) (head body : List UInt8) : openV key num head (closeV key num head body) = some body := by
  unfold openV
  have hl := closeV_length key num head body
  rw [hl, if_neg (by omega), Nat.add_sub_cancel]
  unfold closeV
  have hm := mk_length (stepV key num) body 0
  rw [List.take_append_of_le_length (by omega), List.take_of_length_le (by omega), List.drop_append_of_le_length (by omega), List.drop_of_length_le (by omega), List.nil_append, if_pos rfl, mk_mk]
/-! steps are one to one -/
theorem mul_inj {x y : BitVec 64} (h : x * 15485907386658061715#64 = y * 15485907386658061715#64) : x = y := by
  have e : 15485907386658061715#64 * 14982988110149298331#64 = 1#64 := by decide +kernel
  have : x * 15485907386658061715#64 * 14982988110149298331#64 = y * 15485907386658061715#64 * 14982988110149298331#64 := by rw [h]
  rwa [BitVec.mul_assoc, BitVec.mul_assoc, e, BitVec.mul_one, BitVec.mul_one] at this
theorem rot_nat (h : BitVec 64) : (h <<< 13 ||| h >>> 51).toNat = h.toNat % 2 ^ 51 * 2 ^ 13 + h.toNat / 2 ^ 51 := by
  have hl := h.isLt
  rw [BitVec.toNat_or, BitVec.toNat_shiftLeft, BitVec.toNat_ushiftRight, Nat.shiftRight_eq_div_pow, Nat.shiftLeft_eq]
  have e : h.toNat * 2 ^ 13 % 2 ^ 64 = (h.toNat % 2 ^ 51) * 2 ^ 13 := by omega
  rw [e]
  have := Nat.shiftLeft_add_eq_or_of_lt (show h.toNat / 2 ^ 51 < 2 ^ 13 by omega) (h.toNat % 2 ^ 51)
  rw [Nat.shiftLeft_eq] at this
  exact this.symm
theorem rot_inj {x y : BitVec 64} (h : (x <<< 13 ||| x >>> 51) = (y <<< 13 ||| y >>> 51)) : x = y := by
  have hx := rot_nat x
  have hy := rot_nat y
  rw [h, hy] at hx
  apply BitVec.eq_of_toNat_eq
  have lx := x.isLt
  have ly := y.isLt
  have dx := Nat.div_add_mod x.toNat (2 ^ 51)
  have dy := Nat.div_add_mod y.toNat (2 ^ 51)
  have ax : x.toNat / 2 ^ 51 < 8192 := by omega
  have ay : y.toNat / 2 ^ 51 < 8192 := by omega
  rw [← dx, ← dy]
  generalize x.toNat / 2 ^ 51 = a at *
  generalize y.toNat / 2 ^ 51 = b at *
  generalize x.toNat % 2 ^ 51 = c at *
  generalize y.toNat % 2 ^ 51 = d at *
  have : a = b ∧ c = d := by omega
  rw [this.1, this.2]
theorem xor_inj_l {a b c : BitVec 64} (h : a ^^^ c = b ^^^ c) : a = b := by
  have : a ^^^ c ^^^ c = b ^^^ c ^^^ c := by rw [h]
  rwa [BitVec.xor_assoc, BitVec.xor_assoc, BitVec.xor_self, BitVec.xor_zero, BitVec.xor_zero] at this
theorem xor_inj_r {a b c : BitVec 64} (h : c ^^^ a = c ^^^ b) : a = b := by
  rw [BitVec.xor_comm c a, BitVec.xor_comm c b] at h; exact xor_inj_l h
theorem ofInt_inj {x y : Int} (hx : U64 x) (hy : U64 y) (h : BitVec.ofInt 64 x = BitVec.ofInt 64 y) : x = y := by
  have := congrArg BitVec.toNat h
  simp only [BitVec.toNat_ofInt] at this
  unfold U64 at hx hy
  omega
theorem toNat_inj {x y : BitVec 64} (h : ((x.toNat : Nat) : Int) = (y.toNat : Int)) : x = y := BitVec.eq_of_toNat_eq (by omega)
theorem stepV_inj_l {g h c : Int} (hg : U64 g) (hh : U64 h) (e : stepV g c = stepV h c) : g = h := by
  have := toNat_inj e
  unfold stepB at this
  exact ofInt_inj hg hh (rot_inj (xor_inj_l (mul_inj this)))
theorem stepV_inj_b {g c d : Int} (e : stepV g c = stepV g d) : BitVec.ofInt 64 c = BitVec.ofInt 64 d := by
  have := toNat_inj e
  unfold stepB at this
  exact xor_inj_r (mul_inj this)
theorem stepV_inj_r {g c d : Int} (hc : U64 c) (hd : U64 d) (e : stepV g c = stepV g d) : c = d := ofInt_inj hc hd (stepV_inj_b e)
theorem bytesTag_inj : ∀ (l : List UInt8) {a b : Int}, U64 a → U64 b → bytesTag a l = bytesTag b l → a = b
  | [], a, b, _, _, e => e
  | c :: l, a, b, ha, hb, e => stepV_inj_l ha hb (bytesTag_inj l (stepV_rng a c.toNat) (stepV_rng b c.toNat) e)
theorem partTag_inj (l : List UInt8) {a b : Int} (ha : U64 a) (hb : U64 b) (e : partTag a l = partTag b l) : a = b :=
  bytesTag_inj l ha hb (stepV_inj_l (bytesTag_rng l a ha) (bytesTag_rng l b hb) e)
theorem tagV_inj : ∀ (ls : List (List UInt8)) {a b : Int}, U64 a → U64 b → tagV a ls = tagV b ls → a = b
  | [], a, b, _, _, e => e
  | l :: ls, a, b, ha, hb, e => partTag_inj l ha hb (tagV_inj ls (stepV_rng _ _) (stepV_rng _ _) e)
theorem be_inj : ∀ (m x y : Nat), x < 256 ^ m → y < 256 ^ m → be m x = be m y → x = y
  | 0, x, y, hx, hy, _ => by simp at hx hy; omega
  | m + 1, x, y, hx, hy, e => by
    have hbx := val_be (m + 1) x
    have hby := val_be (m + 1) y
    rw [Nat.div_eq_of_lt hx] at hbx
    rw [Nat.div_eq_of_lt hy] at hby
    rw [← hbx, ← hby, e]
theorem tagL_inj {k1 k2 n1 n2 : Int} {h1 h2 m1 m2 : List UInt8} (e : tagL k1 n1 h1 m1 = tagL k2 n2 h2 m2) : tagV (stepV k1 n1) [h1, m1] = tagV (stepV k2 n2) [h2, m2] := by
  have r1 := tagV_rng [h1, m1] _ (stepV_rng k1 n1)
  have r2 := tagV_rng [h2, m2] _ (stepV_rng k2 n2)
  have p : (256 : Nat) ^ 8 = 18446744073709551616 := by decide
  unfold U64 at r1 r2
  have := be_inj 8 _ _ (by rw [p]; omega) (by rw [p]; omega) e
  omega
/-! the chapter's example -/
end Go.Proofs.Ythiccnmplgdheaa.T
/- Chapter 5's functions over the typed texts: frames in memory, bare, same, may. -/
set_option linter.unusedVariables false
set_option linter.unusedSimpArgs false
namespace Go.Proofs.Ythiccnmplgdheaa.T
open Go Go.Abs Go.Proofs
abbrev F9 := Int × Int × Int × Int × Int × Int × Bool × Sl × Sl
abbrev zF : List Z := [.int .i64, .int .i64, .int .i64, .int .i64, .int .i64, .int .i64, .bool, .sl, .sl]
abbrev f9L (x : F9) : List Value := [.int .i64 x.1, .int .i64 x.2.1, .int .i64 x.2.2.1, .int .i64 x.2.2.2.1, .int .i64 x.2.2.2.2.1, .int .i64 x.2.2.2.2.2.1, .bool x.2.2.2.2.2.2.1, .slice x.2.2.2.2.2.2.2.1.base x.2.2.2.2.2.2.2.1.len x.2.2.2.2.2.2.2.1.cap, .slice x.2.2.2.2.2.2.2.2.base x.2.2.2.2.2.2.2.2.len x.2.2.2.2.2.2.2.2.cap]
def f90 : F9 := (0, 0, 0, 0, 0, 0, false, ⟨none, 0, 0⟩, ⟨none, 0, 0⟩)
theorem PO.ldF {α : Type} {Q : α → Prop} {h : H} {b : Nat} {x : F9} {f : F9 → Option α} (B : Box h b (f9L x)) (p : PO (f x) Q) : PO (bindO (Abs.ldZ [.int .i64, .int .i64, .int .i64, .int .i64, .int .i64, .int .i64, .bool, .sl, .sl] h ⟨b, 0, some 0⟩) f) Q := .op (B.ldZ zF x rfl) p
/-- two boxes, the second one written -/
structure TB (h0 : H) (b b2 : Nat) (L : List Value) (h : H) (L2 : List Value) : Prop where
  ex : EX h0 h
  hb : h0.size ≤ b2
  ne : ¬ b = b2
  box : Box h b L
  box2 : Box h b2 L2
section
variable {α : Type} {Q : α → Prop} {h0 h : H} {b b2 i : Nat} {L L2 : List Value}
theorem TB.ldI {k : IntKind} {n : Int} {f : Int → Option α} (t : TB h0 b b2 L h L2) (hi : L[i]? = some (.int k n)) (p : PO (f n) Q) : PO (bindO (Abs.ldI k h (add ⟨b, 0, some 0⟩ i)) f) Q := .ldI t.box hi p
theorem TB.ldB {n : Bool} {f : Bool → Option α} (t : TB h0 b b2 L h L2) (hi : L[i]? = some (.bool n)) (p : PO (f n) Q) : PO (bindO (Abs.ldB h (add ⟨b, 0, some 0⟩ i)) f) Q := .ldB t.box hi p
theorem TB.ldL {n : Sl} {f : Sl → Option α} (t : TB h0 b b2 L h L2) (hi : L[i]? = some (encSl n)) (p : PO (f n) Q) : PO (bindO (Abs.ldL h (add ⟨b, 0, some 0⟩ i)) f) Q := .ldL t.box hi p
theorem TB.st1 {v : Value} {f : H → Option α} (t : TB h0 b b2 L h L2) (hi : i < L2.length) (ho : oneC v = true) (p : ∀ h', TB h0 b b2 L h' (L2.set i v) → PO (f h') Q) : PO (bindO (Abs.st1 h (add ⟨b2, 0, some 0⟩ i) v) f) Q :=
  PO.st1 t.box2 t.ex.wf hi ho fun h' B u z w => p h' ⟨u.ex0 t.ex (fun A hA e => by have := t.hb; omega), t.hb, t.ne, Box.ku u t.ne t.box, B⟩
theorem TB.cast {h0 h : H} {b b2 : Nat} {L L2 L2' : List Value} (t : TB h0 b b2 L h L2) (e : L2 = L2') : TB h0 b b2 L h L2' := e ▸ t
end
def bareX (x : F9) : F9 :=
  if x.1 = 2 then (x.1, 0, 0, 0, 0, 0, false, ⟨none, 0, 0⟩, x.2.2.2.2.2.2.2.2)
  else if x.1 = 3 then (x.1, x.2.1, x.2.2.1, 0, 0, 0, x.2.2.2.2.2.2.1, x.2.2.2.2.2.2.2.1, ⟨none, 0, 0⟩)
  else if x.1 = 4 then (x.1, x.2.1, x.2.2.1, x.2.2.2.1, x.2.2.2.2.1, 0, false, ⟨none, 0, 0⟩, ⟨none, 0, 0⟩)
  else if x.1 = 5 ∨ x.1 = 7 then (x.1, x.2.1, 0, x.2.2.2.1, 0, 0, false, ⟨none, 0, 0⟩, ⟨none, 0, 0⟩)
  else if x.1 = 6 ∨ x.1 = 12 then (x.1, 0, 0, x.2.2.2.1, 0, 0, false, ⟨none, 0, 0⟩, ⟨none, 0, 0⟩)
  else if x.1 = 8 then (x.1, 0, 0, x.2.2.2.1, 0, 0, x.2.2.2.2.2.2.1, ⟨none, 0, 0⟩, ⟨none, 0, 0⟩)
  else if x.1 = 9 then (x.1, 0, 0, 0, 0, 0, false, x.2.2.2.2.2.2.2.1, ⟨none, 0, 0⟩)
  else if x.1 = 10 ∨ x.1 = 11 then (x.1, x.2.1, 0, 0, 0, 0, false, ⟨none, 0, 0⟩, ⟨none, 0, 0⟩)
  else (x.1, 0, 0, 0, 0, 0, false, ⟨none, 0, 0⟩, ⟨none, 0, 0⟩)
end Go.Proofs.Ythiccnmplgdheaa.T
/- A slice of byte slices as a parameter. -/
set_option linter.unusedVariables false
set_option linter.unusedSimpArgs false
namespace Go.Abs
open Go Go.ChangeShapes Go.WideShapes Go.RowKit
abbrev Part := Option Addr × Nat × Nat × List Int
def IsPart (W : World) (y : Part) : Prop := IsRow .u8 W y.1 y.2.1 y.2.2.1 y.2.2.2 ∧ y.2.1 ≤ 140737488351232
def IsRowS (W : World) (a : Option Addr) (len cap : Nat) (xs : List Part) : Prop :=
  (a = none ∧ len = 0 ∧ cap = 0 ∧ xs = []) ∨
  ∃ x, a = some x ∧ len ≤ cap ∧ cap ≤ maxLen ∧ xs.length = len ∧ ∀ i y, xs[i]? = some y → W.cell? (x.add i) = some (.slice y.1 y.2.1 y.2.2.1) ∧ IsPart W y
theorem weights_all {H : Type} {P : Program} {e : TypeId} : ∀ {ds : List (DataW H)} {d : DataW H}, d ∈ ds → ∀ n ∈ d.weights P e, n ∈ DataW.weightsAll P e ds
  | x :: r, d, hd, n, hn => by
    unfold DataW.weightsAll
    rw [List.mem_append]
    rcases List.mem_cons.1 hd with rfl | hd
    · exact .inl hn
    · exact .inr (weights_all hd n hn)
theorem isRowS_of {H : Type} {enc : TypeId × Value → H} {P : Program} {W : World} {t e b : TypeId} {a : Option Addr} {len cap : Nat} {d : DataW H} {ps : List MemPlace} {ts : List TypeId} {ds : List (DataW H)} {j : Nat}
    (hsz : (DataW.weightsEach P ts ds).all (· ≤ reachBytes) = true) (ht : ts[j]? = some t) (hd : ds[j]? = some d)
    (hu : P.underlying t = some (.slice e)) (he : P.underlying e = some (.slice b)) (hc : P.cellsOf e = 1) (hB : P.bytesOf e = 24) (hb : P.underlying b = some (.int .u8)) (hcb : P.cellsOf b = 1) (hBb : P.bytesOf b = 1)
    (h : DataW.Trod enc P W 0 (fun _ => true) true t (.slice a len cap) d ps) : ∃ xs, IsRowS W a len cap xs ∧ len * 24 ≤ 140737488351232 := by
  obtain ⟨fuel, hf⟩ := h
  rcases DataW.trod_slice hu hf with ⟨hcs, _⟩ | ⟨x, l, c, elems, rest, n, rfl, hcs, hx, _, hl, hm, hlen, hel, hsp, _⟩
  · simp [Value.cells] at hcs
    obtain ⟨rfl, rfl, rfl⟩ := hcs
    exact ⟨[], .inl ⟨rfl, rfl, rfl, rfl⟩, by simp⟩
  · simp [Value.cells] at hcs
    obtain ⟨rfl, rfl, rfl⟩ := hcs
    obtain ⟨hx1, _⟩ := Prod.mk.inj hx
    subst hx1
    have z := sized_slice hsz ht hd hu
    rw [hB] at z
    have hz : (reachBytes : Nat) = 140737488351232 := by decide
    simp only [List.length_map] at z
    have each : ∀ i, i < len → ∃ y : Part, W.cell? (x.add i) = some (.slice y.1 y.2.1 y.2.2.1) ∧ IsPart W y := by
      intro i hi
      have h1 := hel i hi
      obtain ⟨el, hel1⟩ : ∃ el, elems[i]? = some el := ⟨elems[i]'(by omega), List.getElem?_eq_getElem (by omega)⟩
      rw [hel1, hc, Nat.mul_one, Option.bind_eq_some_iff] at h1
      obtain ⟨cs', h2, h3⟩ := h1
      have hw : (DataW.weightsEach P [e] [el.1]).all (· ≤ reachBytes) = true := by
        rw [List.all_eq_true]
        intro m hm'
        refine List.all_eq_true.1 hsz m (DataW.weights_mem_each ht hd m ?_)
        simp only [DataW.weights, hu, List.mem_cons, List.mem_append]
        refine .inr (.inl (weights_all (d := el.1) (List.mem_map.2 ⟨el, List.mem_of_getElem? hel1, rfl⟩) m ?_))
        simpa [DataW.weightsEach] using hm'
      rcases open_ints he hb hcb h3 with ⟨hcs', _⟩ | ⟨x', l', c', zs, hcs', _⟩
      · subst hcs'
        refine ⟨(none, 0, 0, []), cell_of_cells?_one h2, .inl ⟨rfl, rfl, rfl, rfl⟩, by simp⟩
      · subst hcs'
        have hT : DataW.Trod enc P W 0 (fun _ => true) true e (.slice (some x') l' c') el.1 el.2 := ⟨n, by simpa [Value.cells] using h3⟩
        obtain ⟨zs', hz'⟩ := isRow_of he hb hcb hT
        have hle := sized_ints (j := 0) hw rfl rfl he hb hcb hBb hT
        exact ⟨(some x', l', c', zs'), cell_of_cells?_one h2, hz', by simpa using hle⟩
    have hf : ∃ f : Nat → Part, ∀ i, i < len → W.cell? (x.add i) = some (.slice (f i).1 (f i).2.1 (f i).2.2.1) ∧ IsPart W (f i) :=
      ⟨fun i => if hi : i < len then Classical.choose (each i hi) else (none, 0, 0, []), fun i hi => by
        simp only [dif_pos hi]; exact Classical.choose_spec (each i hi)⟩
    obtain ⟨f, hf⟩ := hf
    refine ⟨(List.range len).map f, .inr ⟨x, rfl, hl, hm, by simp, fun i y hy => ?_⟩, by omega⟩
    rw [List.getElem?_map, Option.map_eq_some_iff] at hy
    obtain ⟨k, hk, rfl⟩ := hy
    obtain ⟨hk1, hk2⟩ := List.getElem?_eq_some_iff.1 hk
    rw [List.getElem_range] at hk2
    subst hk2
    exact hf i (by simpa using hk1)
theorem isRowS_vr {W : World} {a : Option Addr} {len cap : Nat} {xs : List Part} (h : IsRowS W a len cap xs) : VR (impR W) (encSl (argSl a len)) (.slice a len cap) := by
  rcases h with ⟨rfl, rfl, rfl, rfl⟩ | ⟨x, rfl, h1, h2, h3, h4⟩
  · exact .slice0
  · refine .slice _ _ _ _ _ ?_
    show SR _ _ len x cap (capK ANY)
    rw [capK_ANY]
    refine ⟨h1, ?_⟩
    rcases Nat.eq_zero_or_pos len with h0 | h0
    · exact .inl h0
    · right
      have := (h4 0 (xs[0]'(by omega)) (List.getElem?_eq_getElem (by omega))).1
      rw [show x.add 0 = x by simp [Addr.add]] at this
      exact okA_ar (okA_of_cell this)
theorem part_abs {W : World} {y : Part} (h : IsPart W y) : absV W (.slice y.1 y.2.1 y.2.2.1) = some (encSl (argSl y.1 y.2.1)) := by
  obtain ⟨a, l, c, zs⟩ := y
  rcases h.1 with ⟨h1, h2, h3, _⟩ | ⟨x, h1, h2, h3, h4, h5, _⟩
  · simp only at h1 h2 h3
    subst h1; subst h2; subst h3
    rfl
  · simp only at h1 h2 h3 h4 h5
    subst h1
    have hk : (l.ble c && (l.beq 0 || okA W x)) = true := by
      simp only [Bool.and_eq_true, Nat.ble_eq, Bool.or_eq_true, nbeq_eq]
      refine ⟨h2, ?_⟩
      rcases Nat.eq_zero_or_pos l with h0 | h0
      · exact .inl h0
      · right
        have := h5 0 (by omega)
        rw [show x.add 0 = x by simp [Addr.add]] at this
        exact okA_of_cell this
    simp only [absV, hk, cond_true]
    rfl
theorem isRowS_rd {W : World} {a : Option Addr} {len cap : Nat} {xs : List Part} (h : IsRowS W a len cap xs) : RdS (impH W) (argSl a len) (xs.map fun y => argSl y.1 y.2.1) := by
  rcases h with ⟨rfl, rfl, rfl, rfl⟩ | ⟨x, rfl, h1, h2, h3, h4⟩
  · exact rd_nil 1 _
  · refine ⟨by simp [argSl]; omega, fun hn => by simp [argSl] at hn, fun b hb i v hi => ?_, fun _ => by unfold CapOK argSl; simp only [capK_ANY]⟩
    simp only [argSl, Option.some.injEq] at hb
    subst hb
    rw [List.map_map, List.getElem?_map, Option.map_eq_some_iff] at hi
    obtain ⟨y, hy, rfl⟩ := hi
    obtain ⟨hc, hp⟩ := h4 i y hy
    obtain ⟨g1, g2, g3⟩ := imp_ld hc (part_abs hp)
    have hb : (x.add i).block = x.block := by unfold Addr.add; split <;> rfl
    have ho : (x.add i).off = x.off + i := by unfold Addr.add; split <;> simp_all
    rw [hb] at g1 g3
    rw [ho] at g3
    exact ⟨g1, by simpa [add] using g3⟩
theorem parts_rd {W : World} : ∀ (xs : List Part), (∀ y ∈ xs, IsPart W y) → RdBs (impH W) (xs.map fun y => argSl y.1 y.2.1) (xs.map fun y => bytesIn (y.2.2.2.take y.2.1))
  | [], _ => trivial
  | y :: xs, h => ⟨⟨isRow_rdB (h y (List.mem_cons_self ..)).1, by
      have := bytesIn_len y.2.2.2 y.2.1
      have := (h y (List.mem_cons_self ..)).2
      show (bytesIn (y.2.2.2.take y.2.1)).length ≤ 2 ^ 47
      omega⟩, parts_rd xs fun z hz => h z (List.mem_cons_of_mem _ hz)⟩
theorem isRowS_parts {W : World} {a : Option Addr} {len cap : Nat} {xs : List Part} (h : IsRowS W a len cap xs) : ∀ y ∈ xs, IsPart W y := by
  rcases h with ⟨_, _, _, rfl⟩ | ⟨x, _, _, _, _, h4⟩
  · intro y hy; simp at hy
  · intro y hy
    obtain ⟨i, hi⟩ := List.getElem?_of_mem hy
    exact (h4 i y hi).2
theorem isRowS_len {W : World} {a : Option Addr} {len cap : Nat} {xs : List Part} (h : IsRowS W a len cap xs) : xs.length = len := by
  rcases h with ⟨_, rfl, _, rfl⟩ | ⟨x, _, _, _, h3, _⟩
  · rfl
  · exact h3
end Go.Abs
