/- Lemmas about the typed texts (joined: SSeal5 SFrame1 SRef1). -/
import Derived.Test.YtaebjajbogedkaaG10
import Derived.Test.YtaebjajbogedkaaG6
import Derived.Test.YtaebjajbogedkaaG8
import Derived.Test.YtaebjajbogedkaaG9
/- Chapter 4: what is closed is opened; steps are one to one; the chapter's example. -/
set_option linter.unusedVariables false
set_option linter.unusedSimpArgs false
namespace Go.Abs
open Go
theorem bbT_ok {h : H} {s : Sl} {l : List UInt8} (hs : BufB h s l) (w : WF h) (hl : 0 < l.length) (hc : s.cap = l.length) (hl2 : l.length < B63) : bbT h s = some (s, h) := by
  rcases hs.tip with ht | ⟨a, r, e, ha, hobj, hsp, hver, hnro, hoff, hcap⟩
  · have := (Rd.nil hs.rd ht).1; rw [hs.rd.len] at this; omega
  obtain ⟨b, n, c⟩ := s
  simp only at ha hc
  subst ha hc
  have key : convA (DSE 0 tyB) h 1 1 (encSl ⟨some a, n, l.length⟩) = some (.val (.slice (some a) n l.length) h) := by
    unfold convA encSl
    simp only [show (DSE 0 tyB).ty.get 1 = some ⟨1, 24, .slice none 0 0, .slice 0, false⟩ from DSE_s 0 _, DSE_e, show tyB.desc = .int .u8 from rfl, capK_exact hl2, hobj]
    have : (Nat.beq 1 1 && Nat.blt 0 l.length && h.nro.ble a.block) = true := by
      simp only [Bool.and_eq_true, Nat.ble_eq, Nat.blt_eq]; exact ⟨⟨rfl, hl⟩, hnro⟩
    rw [this]; rfl
  unfold bbT
  rw [key]; rfl
end Go.Abs
namespace Go.Proofs.Ytaebjajbogedkaa.T
open Go Go.Abs Go.Proofs
theorem mk_mk (h0 : Int) : ∀ (l : List UInt8) (i : Nat), mk h0 i (mk h0 i l) = l
  | [], _ => rfl
  | b :: t, i => by
    simp only [mk, mk_mk h0 t, UInt8.xor_assoc, UInt8.xor_self, UInt8.xor_zero]
theorem open_close (key num : Int) (head body : List UInt8) : openV key num head (closeV key num head body) = some body := by
  unfold openV
  have hl := closeV_length key num head body
  rw [hl, if_neg (by omega), Nat.add_sub_cancel]
  unfold closeV
  have hm := mk_length (stepV key num) body 0
  rw [List.take_append_of_le_length (by omega), List.take_of_length_le (by omega), List.drop_append_of_le_length (by omega), List.drop_of_length_le (by omega), List.nil_append, if_pos rfl, mk_mk]
/-! steps are one to one -/
theorem mul_inj {x y : BitVec 64} (h : x * 15485907386658061715#64 = y * 15485907386658061715#64) : x = y := by
  have e : 15485907386658061715#64 * 14982988110149298331#64 = 1#64 := by decide +kernel
  have : x * 15485907386658061715#64 * 14982988110149298331#64 = y * 15485907386658061715#64 * 14982988110149298331#64 := by rw [h]
  rwa [BitVec.mul_assoc, BitVec.mul_assoc, e, BitVec.mul_one, BitVec.mul_one] at this
theorem rot_nat (h : BitVec 64) : (h <<< 13 ||| h >>> 51).toNat = h.toNat % 2 ^ 51 * 2 ^ 13 + h.toNat / 2 ^ 51 := by
  have hl := h.isLt
  rw [BitVec.toNat_or, BitVec.toNat_shiftLeft, BitVec.toNat_ushiftRight, Nat.shiftRight_eq_div_pow, Nat.shiftLeft_eq]
  have e : h.toNat * 2 ^ 13 % 2 ^ 64 = (h.toNat % 2 ^ 51) * 2 ^ 13 := by omega
  rw [e]
  have := Nat.shiftLeft_add_eq_or_of_lt (show h.toNat / 2 ^ 51 < 2 ^ 13 by omega) (h.toNat % 2 ^ 51)
  rw [Nat.shiftLeft_eq] at this
  exact this.symm
theorem rot_inj {x y : BitVec 64} (h : (x <<< 13 ||| x >>> 51) = (y <<< 13 ||| y >>> 51)) : x = y := by
  have hx := rot_nat x
  have hy := rot_nat y
  rw [h, hy] at hx
  apply BitVec.eq_of_toNat_eq
  have lx := x.isLt
  have ly := y.isLt
  have dx := Nat.div_add_mod x.toNat (2 ^ 51)
  have dy := Nat.div_add_mod y.toNat (2 ^ 51)
  have ax : x.toNat / 2 ^ 51 < 8192 := by omega
  have ay : y.toNat / 2 ^ 51 < 8192 := by omega
  rw [← dx, ← dy]
  generalize x.toNat / 2 ^ 51 = a at *
  generalize y.toNat / 2 ^ 51 = b at *
  generalize x.toNat % 2 ^ 51 = c at *
  generalize y.toNat % 2 ^ 51 = d at *
  have : a = b ∧ c = d := by omega
  rw [this.1, this.2]
theorem xor_inj_l {a b c : BitVec 64} (h : a ^^^ c = b ^^^ c) : a = b := by
  have : a ^^^ c ^^^ c = b ^^^ c ^^^ c := by rw [h]
  rwa [BitVec.xor_assoc, BitVec.xor_assoc, BitVec.xor_self, BitVec.xor_zero, BitVec.xor_zero] at this
theorem xor_inj_r {a b c : BitVec 64} (h : c ^^^ a = c ^^^ b) : a = b := by
  rw [BitVec.xor_comm c a, BitVec.xor_comm c b] at h; exact xor_inj_l h
theorem ofInt_inj {x y : Int} (hx : U64 x) (hy : U64 y) (h : BitVec.ofInt 64 x = BitVec.ofInt 64 y) : x = y := by
  have := congrArg BitVec.toNat h
  simp only [BitVec.toNat_ofInt] at this
  unfold U64 at hx hy
  omega
theorem toNat_inj {x y : BitVec 64} (h : ((x.toNat : Nat) : Int) = (y.toNat : Int)) : x = y := BitVec.eq_of_toNat_eq (by omega)
theorem stepV_inj_l {g h c : Int} (hg : U64 g) (hh : U64 h) (e : stepV g c = stepV h c) : g = h := by
  have := toNat_inj e
  unfold stepB at this
  exact ofInt_inj hg hh (rot_inj (xor_inj_l (mul_inj this)))
theorem stepV_inj_b {g c d : Int} (e : stepV g c = stepV g d) : BitVec.ofInt 64 c = BitVec.ofInt 64 d := by
  have := toNat_inj e
  unfold stepB at this
  exact xor_inj_r (mul_inj this)
theorem stepV_inj_r {g c d : Int} (hc : U64 c) (hd : U64 d) (e : stepV g c = stepV g d) : c = d := ofInt_inj hc hd (stepV_inj_b e)
theorem bytesTag_inj : ∀ (l : List UInt8) {a b : Int}, U64 a → U64 b → bytesTag a l = bytesTag b l → a = b
  | [], a, b, _, _, e => e
  | c :: l, a, b, ha, hb, e => stepV_inj_l ha hb (bytesTag_inj l (stepV_rng a c.toNat) (stepV_rng b c.toNat) e)
theorem partTag_inj (l : List UInt8) {a b : Int} (ha : U64 a) (hb : U64 b) (e : partTag a l = partTag b l) : a = b :=
  bytesTag_inj l ha hb (stepV_inj_l (bytesTag_rng l a ha) (bytesTag_rng l b hb) e)
theorem tagV_inj : ∀ (ls : List (List UInt8)) {a b : Int}, U64 a → U64 b → tagV a ls = tagV b ls → a = b
  | [], a, b, _, _, e => e
  | l :: ls, a, b, ha, hb, e => partTag_inj l ha hb (tagV_inj ls (stepV_rng _ _) (stepV_rng _ _) e)
theorem be_inj : ∀ (m x y : Nat), x < 256 ^ m → y < 256 ^ m → be m x = be m y → x = y
  | 0, x, y, hx, hy, _ => by simp at hx hy; omega
  | m + 1, x, y, hx, hy, e => by
    have hbx := val_be (m + 1) x
    have hby := val_be (m + 1) y
    rw [Nat.div_eq_of_lt hx] at hbx
    rw [Nat.div_eq_of_lt hy] at hby
    rw [← hbx, ← hby, e]
theorem tagL_inj {k1 k2 n1 n2 : Int} {h1 h2 m1 m2 : List UInt8} (e : tagL k1 n1 h1 m1 = tagL k2 n2 h2 m2) : tagV (stepV k1 n1) [h1, m1] = tagV (stepV k2 n2) [h2, m2] := by
  have r1 := tagV_rng [h1, m1] _ (stepV_rng k1 n1)
  have r2 := tagV_rng [h2, m2] _ (stepV_rng k2 n2)
  have p : (256 : Nat) ^ 8 = 18446744073709551616 := by decide
  unfold U64 at r1 r2
  have := be_inj 8 _ _ (by rw [p]; omega) (by rw [p]; omega) e
  omega
/-! the chapter's example -/
end Go.Proofs.Ytaebjajbogedkaa.T
/- Chapter 5's functions over the typed texts: frames in memory, bare, same, may. -/
set_option linter.unusedVariables false
set_option linter.unusedSimpArgs false
namespace Go.Proofs.Ytaebjajbogedkaa.T
open Go Go.Abs Go.Proofs
abbrev F9 := Int × Int × Int × Int × Int × Int × Bool × Sl × Sl
abbrev zF : List Z := [.int .i64, .int .i64, .int .i64, .int .i64, .int .i64, .int .i64, .bool, .sl, .sl]
abbrev f9L (x : F9) : List Value := [.int .i64 x.1, .int .i64 x.2.1, .int .i64 x.2.2.1, .int .i64 x.2.2.2.1, .int .i64 x.2.2.2.2.1, .int .i64 x.2.2.2.2.2.1, .bool x.2.2.2.2.2.2.1, .slice x.2.2.2.2.2.2.2.1.base x.2.2.2.2.2.2.2.1.len x.2.2.2.2.2.2.2.1.cap, .slice x.2.2.2.2.2.2.2.2.base x.2.2.2.2.2.2.2.2.len x.2.2.2.2.2.2.2.2.cap]
def f90 : F9 := (0, 0, 0, 0, 0, 0, false, ⟨none, 0, 0⟩, ⟨none, 0, 0⟩)
theorem PO.ldF {α : Type} {Q : α → Prop} {h : H} {b : Nat} {x : F9} {f : F9 → Option α} (B : Box h b (f9L x)) (p : PO (f x) Q) : PO (bindO (Abs.ldZ [.int .i64, .int .i64, .int .i64, .int .i64, .int .i64, .int .i64, .bool, .sl, .sl] h ⟨b, 0, some 0⟩) f) Q := .op (B.ldZ zF x rfl) p
/-- two boxes, the second one written -/
structure TB (h0 : H) (b b2 : Nat) (L : List Value) (h : H) (L2 : List Value) : Prop where
  ex : EX h0 h
  hb : h0.size ≤ b2
  ne : ¬ b = b2
  box : Box h b L
  box2 : Box h b2 L2
section
variable {α : Type} {Q : α → Prop} {h0 h : H} {b b2 i : Nat} {L L2 : List Value}
theorem TB.ldI {k : IntKind} {n : Int} {f : Int → Option α} (t : TB h0 b b2 L h L2) (hi : L[i]? = some (.int k n)) (p : PO (f n) Q) : PO (bindO (Abs.ldI k h (add ⟨b, 0, some 0⟩ i)) f) Q := .ldI t.box hi p
theorem TB.ldB {n : Bool} {f : Bool → Option α} (t : TB h0 b b2 L h L2) (hi : L[i]? = some (.bool n)) (p : PO (f n) Q) : PO (bindO (Abs.ldB h (add ⟨b, 0, some 0⟩ i)) f) Q := .ldB t.box hi p
theorem TB.ldL {n : Sl} {f : Sl → Option α} (t : TB h0 b b2 L h L2) (hi : L[i]? = some (encSl n)) (p : PO (f n) Q) : PO (bindO (Abs.ldL h (add ⟨b, 0, some 0⟩ i)) f) Q := .ldL t.box hi p
theorem TB.st1 {v : Value} {f : H → Option α} (t : TB h0 b b2 L h L2) (hi : i < L2.length) (ho : oneC v = true) (p : ∀ h', TB h0 b b2 L h' (L2.set i v) → PO (f h') Q) : PO (bindO (Abs.st1 h (add ⟨b2, 0, some 0⟩ i) v) f) Q :=
  PO.st1 t.box2 t.ex.wf hi ho fun h' B u z w => p h' ⟨u.ex0 t.ex (fun A hA e => by have := t.hb; omega), t.hb, t.ne, Box.ku u t.ne t.box, B⟩
theorem TB.cast {h0 h : H} {b b2 : Nat} {L L2 L2' : List Value} (t : TB h0 b b2 L h L2) (e : L2 = L2') : TB h0 b b2 L h L2' := e ▸ t
end
def bareX (x : F9) : F9 :=
  if x.1 = 2 then (x.1, 0, 0, 0, 0, 0, false, ⟨none, 0, 0⟩, x.2.2.2.2.2.2.2.2)
  else if x.1 = 3 then (x.1, x.2.1, x.2.2.1, 0, 0, 0, x.2.2.2.2.2.2.1, x.2.2.2.2.2.2.2.1, ⟨none, 0, 0⟩)
  else if x.1 = 4 then (x.1, x.2.1, x.2.2.1, x.2.2.2.1, x.2.2.2.2.1, 0, false, ⟨none, 0, 0⟩, ⟨none, 0, 0⟩)
  else if x.1 = 5 ∨ x.1 = 7 then (x.1, x.2.1, 0, x.2.2.2.1, 0, 0, false, ⟨none, 0, 0⟩, ⟨none, 0, 0⟩)
  else if x.1 = 6 ∨ x.1 = 12 then (x.1, 0, 0, x.2.2.2.1, 0, 0, false, ⟨none, 0, 0⟩, ⟨none, 0, 0⟩)
  else if x.1 = 8 then (x.1, 0, 0, x.2.2.2.1, 0, 0, x.2.2.2.2.2.2.1, ⟨none, 0, 0⟩, ⟨none, 0, 0⟩)
  else if x.1 = 9 then (x.1, 0, 0, 0, 0, 0, false, x.2.2.2.2.2.2.2.1, ⟨none, 0, 0⟩)
  else if x.1 = 10 ∨ x.1 = 11 then (x.1, x.2.1, 0, 0, 0, 0, false, ⟨none, 0, 0⟩, ⟨none, 0, 0⟩)
  else (x.1, 0, 0, 0, 0, 0, false, ⟨none, 0, 0⟩, ⟨none, 0, 0⟩)
end Go.Proofs.Ytaebjajbogedkaa.T
/- The reference's functions of chapter 1 over the typed texts. -/
set_option linter.unusedVariables false
set_option linter.unusedSimpArgs false
namespace Go.Proofs.Ytaebjajbogedkaa.T
open Go Go.Abs Go.Proofs
theorem szs_nonneg : ∀ (zs : List Int) (t : Int), szs zs = some t → 0 ≤ t
  | [], t, h => by simp [szs] at h; omega
  | n :: l, t, h => by
    unfold szs at h
    split at h
    · simp only [Option.map_eq_some_iff] at h
      obtain ⟨u, h1, h2⟩ := h
      have := szs_nonneg l u h1
      have := sz_pos n
      omega
    · simp at h
theorem szs_all : ∀ zs : List Int, (szs zs).isSome = true ↔ ∀ x ∈ zs, okN x
  | [] => by simp [szs]
  | n :: l => by
    have ih := szs_all l
    unfold szs
    by_cases hn : okN n
    · simp [hn, ih]
    · simp [hn]
theorem szV_neg (zs : List Int) : szV zs < 0 ↔ ¬ ∀ x ∈ zs, okN x := by
  rw [← szs_all]
  unfold szV
  cases hz : szs zs with
  | none => simp
  | some t => have := szs_nonneg zs t hz; simp; omega
/-! bytes put -/
theorem byte_atk (k' : IntKind) {x : Int} (h0 : 0 ≤ x) (m : Nat) (hm : m < 8) : ∃ y, shrT .i64 x k' (8 * (m : Int)) = some y ∧ IntKind.wrap .u8 y = ((UInt8.ofNat (x.toNat / 256 ^ m)).toNat : Int) := by
  obtain ⟨y, e1, e2⟩ := byte_at h0 m hm
  refine ⟨y, ?_, e2⟩
  rw [shrT_ok _ _ _ (by omega)] at e1 ⊢
  exact e1
theorem app_one {h0 h : H} {out : Sl} {l : List UInt8} (bv : UInt8) (hb : BufB h out l) (hx : EX h0 h) (hf : Fr h0.size out) (hl : l.length + 1 ≤ 2 ^ 47) :
    ∃ out1 h2, appT 5 1 1 (newAt (grow h 1) h.size (row 5 [.int .u8 (bv.toNat : Int)])) out ⟨some ⟨h.size, 0, some 0⟩, 1, 1⟩ = some (out1, h2) ∧ BufB h2 out1 (l ++ [bv]) ∧ EX h0 h2 ∧ Fr h0.size out1 := by
  rw [show row 5 [Value.int .u8 (bv.toNat : Int)] = row 5 (vB [bv]) from rfl]
  have x1 := wf_new hx.wf 5 (vB [bv])
  have b1 : BufB _ ⟨some ⟨h.size, 0, some 0⟩, 1, 1⟩ [bv] := bufB_new hx.wf 5 [bv] (by simp [B63])
  generalize newAt (grow h 1) h.size (row 5 (vB [bv])) = h1 at x1 b1 ⊢
  generalize (⟨some ⟨h.size, 0, some 0⟩, 1, 1⟩ : Sl) = s1 at b1 ⊢
  obtain ⟨out1, h2, e3, k3, x3, b3, _, f3⟩ := appB_ok (e := 5) x1.wf (hb.ex hx.wf x1) b1.rd (by simp; omega)
  exact ⟨out1, h2, e3, b3, x3 _ (hx.trans x1) hf, f3 _ (hx.trans x1).size hf⟩
theorem add_kind (b : UInt8) (k : Nat) (hb : b.toNat < 64) (hk : k < 4) : IntKind.wrap .u8 ((b.toNat : Int) + (k * 64 : Nat)) = ((b ||| UInt8.ofNat (k * 64)).toNat : Int) := by
  rw [or_kind b k hb hk, wu8_mod]; omega
theorem kd_sz {x : Int} (h : okN x) : (kd x = 0 ∧ sz x = 1) ∨ (kd x = 1 ∧ sz x = 2) ∨ (kd x = 2 ∧ sz x = 4) ∨ (kd x = 3 ∧ sz x = 8) := by
  unfold okN at h
  unfold kd sz
  rw [if_neg (by omega), if_neg (by omega)]
  (repeat' split) <;> simp
theorem top_lt {x : Int} (h : okN x) : x.toNat / 256 ^ ((sz x).toNat - 1) < 64 := by
  have h' := h
  unfold okN at h'
  have h1 : (64 : Nat) * 256 ^ 0 = 64 ∧ 64 * 256 ^ 1 = 16384 ∧ 64 * 256 ^ 3 = 1073741824 ∧ 64 * 256 ^ 7 = 4611686018427387904 := by decide
  apply Nat.div_lt_of_lt_mul
  rw [Nat.mul_comm]
  rcases sz_cases x with hs | hs | hs | hs <;> rw [hs] <;> simp only [Int.toNat_one, Int.reduceToNat, Nat.reduceSub] <;> unfold sz at hs <;> (repeat' split at hs) <;> omega
end Go.Proofs.Ytaebjajbogedkaa.T
