/- Lemmas about the typed texts (joined: SFrame1 S8 SRef1). -/
import Derived.Test.YthiccnmplgdheaaG5
import Derived.Test.YthiccnmplgdheaaG9
import Derived.Test.YthiccnmplgdheaaG2
import Derived.Test.YthiccnmplgdheaaG7
import Derived.Test.YthiccnmplgdheaaG8
/- Chapter 5's functions over the typed texts: frames in memory, bare, same, may. -/
set_option linter.unusedVariables false
set_option linter.unusedSimpArgs false
namespace Go.Proofs.Ythiccnmplgdheaa.T
open Go Go.Abs Go.Proofs
abbrev F9 := Int × Int × Int × Int × Int × Int × Bool × Sl × Sl
abbrev zF : List Z := [.int .i64, .int .i64, .int .i64, .int .i64, .int .i64, .int .i64, .bool, .sl, .sl]
abbrev f9L (x : F9) : List Value := [.int .i64 x.1, .int .i64 x.2.1, .int .i64 x.2.2.1, .int .i64 x.2.2.2.1, .int .i64 x.2.2.2.2.1, .int .i64 x.2.2.2.2.2.1, .bool x.2.2.2.2.2.2.1, .slice x.2.2.2.2.2.2.2.1.base x.2.2.2.2.2.2.2.1.len x.2.2.2.2.2.2.2.1.cap, .slice x.2.2.2.2.2.2.2.2.base x.2.2.2.2.2.2.2.2.len x.2.2.2.2.2.2.2.2.cap]
def f90 : F9 := (0, 0, 0, 0, 0, 0, false, ⟨none, 0, 0⟩, ⟨none, 0, 0⟩)
theorem PO.ldF {α : Type} {Q : α → Prop} {h : H} {b : Nat} {x : F9} {f : F9 → Option α} (B : Box h b (f9L x)) (p : PO (f x) Q) : PO (bindO (Abs.ldZ [.int .i64, .int .i64, .int .i64, .int .i64, .int .i64, .int .i64, .bool, .sl, .sl] h ⟨b, 0, some 0⟩) f) Q := .op (B.ldZ zF x rfl) p
/-- two boxes, the second one written -/
structure TB (h0 : H) (b b2 : Nat) (L : List Value) (h : H) (L2 : List Value) : Prop where
  ex : EX h0 h
  hb : h0.size ≤ b2
  ne : ¬ b = b2
  box : Box h b L
  box2 : Box h b2 L2
section
variable {α : Type} {Q : α → Prop} {h0 h : H} {b b2 i : Nat} {L L2 : List Value}
theorem TB.ldI {k : IntKind} {n : Int} {f : Int → Option α} (t : TB h0 b b2 L h L2) (hi : L[i]? = some (.int k n)) (p : PO (f n) Q) : PO (bindO (Abs.ldI k h (add ⟨b, 0, some 0⟩ i)) f) Q := .ldI t.box hi p
theorem TB.ldB {n : Bool} {f : Bool → Option α} (t : TB h0 b b2 L h L2) (hi : L[i]? = some (.bool n)) (p : PO (f n) Q) : PO (bindO (Abs.ldB h (add ⟨b, 0, some 0⟩ i)) f) Q := .ldB t.box hi p
theorem TB.ldL {n : Sl} {f : Sl → Option α} (t : TB h0 b b2 L h L2) (hi : L[i]? = some (encSl n)) (p : PO (f n) Q) : PO (bindO (Abs.ldL h (add ⟨b, 0, some 0⟩ i)) f) Q := .ldL t.box hi p
theorem TB.st1 {v : Value} {f : H → Option α} (t : TB h0 b b2 L h L2) (hi : i < L2.length) (ho : oneC v = true) (p : ∀ h', TB h0 b b2 L h' (L2.set i v) → PO (f h') Q) : PO (bindO (Abs.st1 h (add ⟨b2, 0, some 0⟩ i) v) f) Q :=
  PO.st1 t.box2 t.ex.wf hi ho fun h' B u z w => p h' ⟨u.ex0 t.ex (fun A hA e => by have := t.hb; omega), t.hb, t.ne, Box.ku u t.ne t.box, B⟩
theorem TB.cast {h0 h : H} {b b2 : Nat} {L L2 L2' : List Value} (t : TB h0 b b2 L h L2) (e : L2 = L2') : TB h0 b b2 L h L2' := e ▸ t
end
def bareX (x : F9) : F9 :=
  if x.1 = 2 then (x.1, 0, 0, 0, 0, 0, false, ⟨none, 0, 0⟩, x.2.2.2.2.2.2.2.2)
  else if x.1 = 3 then (x.1, x.2.1, x.2.2.1, 0, 0, 0, x.2.2.2.2.2.2.1, x.2.2.2.2.2.2.2.1, ⟨none, 0, 0⟩)
  else if x.1 = 4 then (x.1, x.2.1, x.2.2.1, x.2.2.2.1, x.2.2.2.2.1, 0, false, ⟨none, 0, 0⟩, ⟨none, 0, 0⟩)
  else if x.1 = 5 ∨ x.1 = 7 then (x.1, x.2.1, 0, x.2.2.2.1, 0, 0, false, ⟨none, 0, 0⟩, ⟨none, 0, 0⟩)
  else if x.1 = 6 ∨ x.1 = 12 then (x.1, 0, 0, x.2.2.2.1, 0, 0, false, ⟨none, 0, 0⟩, ⟨none, 0, 0⟩)
  else if x.1 = 8 then (x.1, 0, 0, x.2.2.2.1, 0, 0, x.2.2.2.2.2.2.1, ⟨none, 0, 0⟩, ⟨none, 0, 0⟩)
  else if x.1 = 9 then (x.1, 0, 0, 0, 0, 0, false, x.2.2.2.2.2.2.2.1, ⟨none, 0, 0⟩)
  else if x.1 = 10 ∨ x.1 = 11 then (x.1, x.2.1, 0, 0, 0, 0, false, ⟨none, 0, 0⟩, ⟨none, 0, 0⟩)
  else (x.1, 0, 0, 0, 0, 0, false, ⟨none, 0, 0⟩, ⟨none, 0, 0⟩)
theorem bare_f {h : H} (w : WF h) (x : F9) : PO (frame_bare x h) (fun (a, h1) => a = bareX x ∧ EX h h1) := by
  unfold frame_bare
  refine PO.newB w fun h1 x1 B1 z1 w1 => PO.newB w1 fun h2 x2 B2 z2 w2 => .ldI (Box.kx x2 B1) rfl (PO.newB w2 fun h3 x3 B3 z3 w3 => PO.stZ B3 w3 rfl rfl fun h4 B4 u4 z4 w4 => ?_)
  have y4 : EX h2 h4 := u4.ex0 x3 (fun A hA e => by omega)
  have t0 : TB h2 h.size h2.size (f9L x) h4 (f9L (x.1, 0, 0, 0, 0, 0, false, ⟨none, 0, 0⟩, ⟨none, 0, 0⟩)) := ⟨y4, Nat.le_refl _, by omega, Box.kx y4 (Box.kx x2 B1), B4⟩
  refine PO.join (fun s => s.1 = (some ⟨h1.size, 0, some 0⟩, some ⟨h2.size, 0, some 0⟩) ∧ TB h2 h.size h2.size (f9L x) s.2 (f9L (bareX x))) ?_ ?_
  · clear B1 B2 B3 B4 u4 y4 x3 w3 w4
    repeat' (first
      | refine PO.chk (by simp [slEq_self]) ?_
      | refine .condE (fun e => ?_) (fun e => ?_)
      | refine TB.ldI (by assumption) rfl ?_
      | refine TB.ldB (by assumption) rfl ?_
      | refine TB.ldL (by assumption) rfl ?_
      | refine TB.st1 (by assumption) (by simp) rfl (fun h' t => ?_)
      | refine PO.retL ⟨rfl, TB.cast (by assumption) ?_⟩)
    all_goals (first | (exfalso; omega) | simp [bareX, *])
  · rintro ⟨s, h5⟩ ⟨rfl, t5⟩
    have t : TB h2 h.size h2.size (f9L x) h5 (f9L (bareX x)) := t5
    refine .ptr (PO.ldF t.box2 (.ptr (PO.stZ (Box.kx t.ex B2) t.ex.wf rfl rfl fun h6 B6 u6 z6 w6 => .ptr (PO.ldF B6 (.ret ⟨rfl, ?_⟩)))))
    exact u6.ex0 ((x1.trans x2).trans t.ex) (fun A hA e => by have := x1.size; omega)
end Go.Proofs.Ythiccnmplgdheaa.T
/- A slice of byte slices as a parameter. -/
set_option linter.unusedVariables false
set_option linter.unusedSimpArgs false
namespace Go.Abs
open Go Go.ChangeShapes Go.WideShapes Go.RowKit
abbrev Part := Option Addr × Nat × Nat × List Int
def IsPart (W : World) (y : Part) : Prop := IsRow .u8 W y.1 y.2.1 y.2.2.1 y.2.2.2 ∧ y.2.1 ≤ 140737488351232
def IsRowS (W : World) (a : Option Addr) (len cap : Nat) (xs : List Part) : Prop :=
  (a = none ∧ len = 0 ∧ cap = 0 ∧ xs = []) ∨
  ∃ x, a = some x ∧ len ≤ cap ∧ cap ≤ maxLen ∧ xs.length = len ∧ ∀ i y, xs[i]? = some y → W.cell? (x.add i) = some (.slice y.1 y.2.1 y.2.2.1) ∧ IsPart W y
theorem weights_all {H : Type} {P : Program} {e : TypeId} : ∀ {ds : List (DataW H)} {d : DataW H}, d ∈ ds → ∀ n ∈ d.weights P e, n ∈ DataW.weightsAll P e ds
  | x :: r, d, hd, n, hn => by
    unfold DataW.weightsAll
    rw [List.mem_append]
    rcases List.mem_cons.1 hd with rfl | hd
    · exact .inl hn
    · exact .inr (weights_all hd n hn)
theorem isRowS_of {H : Type} {enc : TypeId × Value → H} {P : Program} {W : World} {t e b : TypeId} {a : Option Addr} {len cap : Nat} {d : DataW H} {ps : List MemPlace} {ts : List TypeId} {ds : List (DataW H)} {j : Nat}
    (hsz : (DataW.weightsEach P ts ds).all (· ≤ reachBytes) = true) (ht : ts[j]? = some t) (hd : ds[j]? = some d)
    (hu : P.underlying t = some (.slice e)) (he : P.underlying e = some (.slice b)) (hc : P.cellsOf e = 1) (hB : P.bytesOf e = 24) (hb : P.underlying b = some (.int .u8)) (hcb : P.cellsOf b = 1) (hBb : P.bytesOf b = 1)
    (h : DataW.Trod enc P W 0 (fun _ => true) true t (.slice a len cap) d ps) : ∃ xs, IsRowS W a len cap xs ∧ len * 24 ≤ 140737488351232 := by
  obtain ⟨fuel, hf⟩ := h
  rcases DataW.trod_slice hu hf with ⟨hcs, _⟩ | ⟨x, l, c, elems, rest, n, rfl, hcs, hx, _, hl, hm, hlen, hel, hsp, _⟩
  · simp [Value.cells] at hcs
    obtain ⟨rfl, rfl, rfl⟩ := hcs
    exact ⟨[], .inl ⟨rfl, rfl, rfl, rfl⟩, by simp⟩
  · simp [Value.cells] at hcs
    obtain ⟨rfl, rfl, rfl⟩ := hcs
    obtain ⟨hx1, _⟩ := Prod.mk.inj hx
    subst hx1
    have z := sized_slice hsz ht hd hu
    rw [hB] at z
    have hz : (reachBytes : Nat) = 140737488351232 := by decide
    simp only [List.length_map] at z
    have each : ∀ i, i < len → ∃ y : Part, W.cell? (x.add i) = some (.slice y.1 y.2.1 y.2.2.1) ∧ IsPart W y := by
      intro i hi
      have h1 := hel i hi
      obtain ⟨el, hel1⟩ : ∃ el, elems[i]? = some el := ⟨elems[i]'(by omega), List.getElem?_eq_getElem (by omega)⟩
      rw [hel1, hc, Nat.mul_one, Option.bind_eq_some_iff] at h1
      obtain ⟨cs', h2, h3⟩ := h1
      have hw : (DataW.weightsEach P [e] [el.1]).all (· ≤ reachBytes) = true := by
        rw [List.all_eq_true]
        intro m hm'
        refine List.all_eq_true.1 hsz m (DataW.weights_mem_each ht hd m ?_)
        simp only [DataW.weights, hu, List.mem_cons, List.mem_append]
        refine .inr (.inl (weights_all (d := el.1) (List.mem_map.2 ⟨el, List.mem_of_getElem? hel1, rfl⟩) m ?_))
        simpa [DataW.weightsEach] using hm'
      rcases open_ints he hb hcb h3 with ⟨hcs', _⟩ | ⟨x', l', c', zs, hcs', _⟩
      · subst hcs'
        refine ⟨(none, 0, 0, []), cell_of_cells?_one h2, .inl ⟨rfl, rfl, rfl, rfl⟩, by simp⟩
      · subst hcs'
        have hT : DataW.Trod enc P W 0 (fun _ => true) true e (.slice (some x') l' c') el.1 el.2 := ⟨n, by simpa [Value.cells] using h3⟩
        obtain ⟨zs', hz'⟩ := isRow_of he hb hcb hT
        have hle := sized_ints (j := 0) hw rfl rfl he hb hcb hBb hT
        exact ⟨(some x', l', c', zs'), cell_of_cells?_one h2, hz', by simpa using hle⟩
    have hf : ∃ f : Nat → Part, ∀ i, i < len → W.cell? (x.add i) = some (.slice (f i).1 (f i).2.1 (f i).2.2.1) ∧ IsPart W (f i) :=
      ⟨fun i => if hi : i < len then Classical.choose (each i hi) else (none, 0, 0, []), fun i hi => by
        simp only [dif_pos hi]; exact Classical.choose_spec (each i hi)⟩
    obtain ⟨f, hf⟩ := hf
    refine ⟨(List.range len).map f, .inr ⟨x, rfl, hl, hm, by simp, fun i y hy => ?_⟩, by omega⟩
    rw [List.getElem?_map, Option.map_eq_some_iff] at hy
    obtain ⟨k, hk, rfl⟩ := hy
    obtain ⟨hk1, hk2⟩ := List.getElem?_eq_some_iff.1 hk
    rw [List.getElem_range] at hk2
    subst hk2
    exact hf i (by simpa using hk1)
theorem isRowS_vr {W : World} {a : Option Addr} {len cap : Nat} {xs : List Part} (h : IsRowS W a len cap xs) : VR (impR W) (encSl (argSl a len)) (.slice a len cap) := by
  rcases h with ⟨rfl, rfl, rfl, rfl⟩ | ⟨x, rfl, h1, h2, h3, h4⟩
  · exact .slice0
  · refine .slice _ _ _ _ _ ?_
    show SR _ _ len x cap (capK ANY)
    rw [capK_ANY]
    refine ⟨h1, ?_⟩
    rcases Nat.eq_zero_or_pos len with h0 | h0
    · exact .inl h0
    · right
      have := (h4 0 (xs[0]'(by omega)) (List.getElem?_eq_getElem (by omega))).1
      rw [show x.add 0 = x by simp [Addr.add]] at this
      exact okA_ar (okA_of_cell this)
theorem part_abs {W : World} {y : Part} (h : IsPart W y) : absV W (.slice y.1 y.2.1 y.2.2.1) = some (encSl (argSl y.1 y.2.1)) := by
  obtain ⟨a, l, c, zs⟩ := y
  rcases h.1 with ⟨h1, h2, h3, _⟩ | ⟨x, h1, h2, h3, h4, h5, _⟩
  · simp only at h1 h2 h3
    subst h1; subst h2; subst h3
    rfl
  · simp only at h1 h2 h3 h4 h5
    subst h1
    have hk : (l.ble c && (l.beq 0 || okA W x)) = true := by
      simp only [Bool.and_eq_true, Nat.ble_eq, Bool.or_eq_true, nbeq_eq]
      refine ⟨h2, ?_⟩
      rcases Nat.eq_zero_or_pos l with h0 | h0
      · exact .inl h0
      · right
        have := h5 0 (by omega)
        rw [show x.add 0 = x by simp [Addr.add]] at this
        exact okA_of_cell this
    simp only [absV, hk, cond_true]
    rfl
theorem isRowS_rd {W : World} {a : Option Addr} {len cap : Nat} {xs : List Part} (h : IsRowS W a len cap xs) : RdS (impH W) (argSl a len) (xs.map fun y => argSl y.1 y.2.1) := by
  rcases h with ⟨rfl, rfl, rfl, rfl⟩ | ⟨x, rfl, h1, h2, h3, h4⟩
  · exact rd_nil 1 _
  · refine ⟨by simp [argSl]; omega, fun hn => by simp [argSl] at hn, fun b hb i v hi => ?_, fun _ => by unfold CapOK argSl; simp only [capK_ANY]⟩
    simp only [argSl, Option.some.injEq] at hb
    subst hb
    rw [List.map_map, List.getElem?_map, Option.map_eq_some_iff] at hi
    obtain ⟨y, hy, rfl⟩ := hi
    obtain ⟨hc, hp⟩ := h4 i y hy
    obtain ⟨g1, g2, g3⟩ := imp_ld hc (part_abs hp)
    have hb : (x.add i).block = x.block := by unfold Addr.add; split <;> rfl
    have ho : (x.add i).off = x.off + i := by unfold Addr.add; split <;> simp_all
    rw [hb] at g1 g3
    rw [ho] at g3
    exact ⟨g1, by simpa [add] using g3⟩
theorem parts_rd {W : World} : ∀ (xs : List Part), (∀ y ∈ xs, IsPart W y) → RdBs (impH W) (xs.map fun y => argSl y.1 y.2.1) (xs.map fun y => bytesIn (y.2.2.2.take y.2.1))
  | [], _ => trivial
  | y :: xs, h => ⟨⟨isRow_rdB (h y (List.mem_cons_self ..)).1, by
      have := bytesIn_len y.2.2.2 y.2.1
      have := (h y (List.mem_cons_self ..)).2
      show (bytesIn (y.2.2.2.take y.2.1)).length ≤ 2 ^ 47
      omega⟩, parts_rd xs fun z hz => h z (List.mem_cons_of_mem _ hz)⟩
theorem isRowS_parts {W : World} {a : Option Addr} {len cap : Nat} {xs : List Part} (h : IsRowS W a len cap xs) : ∀ y ∈ xs, IsPart W y := by
  rcases h with ⟨_, _, _, rfl⟩ | ⟨x, _, _, _, _, h4⟩
  · intro y hy; simp at hy
  · intro y hy
    obtain ⟨i, hi⟩ := List.getElem?_of_mem hy
    exact (h4 i y hi).2
theorem isRowS_len {W : World} {a : Option Addr} {len cap : Nat} {xs : List Part} (h : IsRowS W a len cap xs) : xs.length = len := by
  rcases h with ⟨_, rfl, _, rfl⟩ | ⟨x, _, _, _, h3, _⟩
  · rfl
  · exact h3
end Go.Abs
/- The reference's functions of chapter 1 over the typed texts. -/
set_option linter.unusedVariables false
set_option linter.unusedSimpArgs false
namespace Go.Proofs.Ythiccnmplgdheaa.T
open Go Go.Abs Go.Proofs
theorem szs_nonneg : ∀ (zs : List Int) (t : Int), szs zs = some t → 0 ≤ t
  | [], t, h => by simp [szs] at h; omega
  | n :: l, t, h => by
    unfold szs at h
    split at h
    · simp only [Option.map_eq_some_iff] at h
      obtain ⟨u, h1, h2⟩ := h
      have := szs_nonneg l u h1
      have := sz_pos n
      omega
    · simp at h
theorem szs_all : ∀ zs : List Int, (szs zs).isSome = true ↔ ∀ x ∈ zs, okN x
  | [] => by simp [szs]
  | n :: l => by
    have ih := szs_all l
    unfold szs
    by_cases hn : okN n
    · simp [hn, ih]
    · simp [hn]
theorem szV_neg (zs : List Int) : szV zs < 0 ↔ ¬ ∀ x ∈ zs, okN x := by
  rw [← szs_all]
  unfold szV
  cases hz : szs zs with
  | none => simp
  | some t => have := szs_nonneg zs t hz; simp; omega
/-! bytes put -/
theorem byte_atk (k' : IntKind) {x : Int} (h0 : 0 ≤ x) (m : Nat) (hm : m < 8) : ∃ y, shrT .i64 x k' (8 * (m : Int)) = some y ∧ IntKind.wrap .u8 y = ((UInt8.ofNat (x.toNat / 256 ^ m)).toNat : Int) := by
  obtain ⟨y, e1, e2⟩ := byte_at h0 m hm
  refine ⟨y, ?_, e2⟩
  rw [shrT_ok _ _ _ (by omega)] at e1 ⊢
  exact e1
theorem app_one {h0 h : H} {out : Sl} {l : List UInt8} (bv : UInt8) (hb : BufB h out l) (hx : EX h0 h) (hf : Fr h0.size out) (hl : l.length + 1 ≤ 2 ^ 47) :
    ∃ out1 h2, appT 5 1 1 (newAt (grow h 1) h.size (row 5 [.int .u8 (bv.toNat : Int)])) out ⟨some ⟨h.size, 0, some 0⟩, 1, 1⟩ = some (out1, h2) ∧ BufB h2 out1 (l ++ [bv]) ∧ EX h0 h2 ∧ Fr h0.size out1 := by
  rw [show row 5 [Value.int .u8 (bv.toNat : Int)] = row 5 (vB [bv]) from rfl]
  have x1 := wf_new hx.wf 5 (vB [bv])
  have b1 : BufB _ ⟨some ⟨h.size, 0, some 0⟩, 1, 1⟩ [bv] := bufB_new hx.wf 5 [bv] (by simp [B63])
  generalize newAt (grow h 1) h.size (row 5 (vB [bv])) = h1 at x1 b1 ⊢
  generalize (⟨some ⟨h.size, 0, some 0⟩, 1, 1⟩ : Sl) = s1 at b1 ⊢
  obtain ⟨out1, h2, e3, k3, x3, b3, _, f3⟩ := appB_ok (e := 5) x1.wf (hb.ex hx.wf x1) b1.rd (by simp; omega)
  exact ⟨out1, h2, e3, b3, x3 _ (hx.trans x1) hf, f3 _ (hx.trans x1).size hf⟩
theorem add_kind (b : UInt8) (k : Nat) (hb : b.toNat < 64) (hk : k < 4) : IntKind.wrap .u8 ((b.toNat : Int) + (k * 64 : Nat)) = ((b ||| UInt8.ofNat (k * 64)).toNat : Int) := by
  rw [or_kind b k hb hk, wu8_mod]; omega
theorem kd_sz {x : Int} (h : okN x) : (kd x = 0 ∧ sz x = 1) ∨ (kd x = 1 ∧ sz x = 2) ∨ (kd x = 2 ∧ sz x = 4) ∨ (kd x = 3 ∧ sz x = 8) := by
  unfold okN at h
  unfold kd sz
  rw [if_neg (by omega), if_neg (by omega)]
  (repeat' split) <;> simp
theorem top_lt {x : Int} (h : okN x) : x.toNat / 256 ^ ((sz x).toNat - 1) < 64 := by
  have h' := h
  unfold okN at h'
  have h1 : (64 : Nat) * 256 ^ 0 = 64 ∧ 64 * 256 ^ 1 = 16384 ∧ 64 * 256 ^ 3 = 1073741824 ∧ 64 * 256 ^ 7 = 4611686018427387904 := by decide
  apply Nat.div_lt_of_lt_mul
  rw [Nat.mul_comm]
  rcases sz_cases x with hs | hs | hs | hs <;> rw [hs] <;> simp only [Int.toNat_one, Int.reduceToNat, Nat.reduceSub] <;> unfold sz at hs <;> (repeat' split at hs) <;> omega
end Go.Proofs.Ythiccnmplgdheaa.T
