/- Lemmas about the typed texts (joined: S8 SRef1 SRef2). -/
import Derived.Test.YtaebjajbogedkaaG2
import Derived.Test.YtaebjajbogedkaaG9
import Derived.Test.YtaebjajbogedkaaG8
/- A slice of byte slices as a parameter. -/
set_option linter.unusedVariables false
set_option linter.unusedSimpArgs false
namespace Go.Abs
open Go Go.ChangeShapes Go.WideShapes Go.RowKit
abbrev Part := Option Addr × Nat × Nat × List Int
def IsPart (W : World) (y : Part) : Prop := IsRow .u8 W y.1 y.2.1 y.2.2.1 y.2.2.2 ∧ y.2.1 ≤ 140737488351232
def IsRowS (W : World) (a : Option Addr) (len cap : Nat) (xs : List Part) : Prop :=
  (a = none ∧ len = 0 ∧ cap = 0 ∧ xs = []) ∨
  ∃ x, a = some x ∧ len ≤ cap ∧ cap ≤ maxLen ∧ xs.length = len ∧ ∀ i y, xs[i]? = some y → W.cell? (x.add i) = some (.slice y.1 y.2.1 y.2.2.1) ∧ IsPart W y
theorem weights_all {H : Type} {P : Program} {e : TypeId} : ∀ {ds : List (DataW H)} {d : DataW H}, d ∈ ds → ∀ n ∈ d.weights P e, n ∈ DataW.weightsAll P e ds
  | x :: r, d, hd, n, hn => by
    unfold DataW.weightsAll
    rw [List.mem_append]
    rcases List.mem_cons.1 hd with rfl | hd
    · exact .inl hn
    · exact .inr (weights_all hd n hn)
theorem isRowS_of {H : Type} {enc : TypeId × Value → H} {P : Program} {W : World} {t e b : TypeId} {a : Option Addr} {len cap : Nat} {d : DataW H} {ps : List MemPlace} {ts : List TypeId} {ds : List (DataW H)} {j : Nat}
    (hsz : (DataW.weightsEach P ts ds).all (· ≤ reachBytes) = true) (ht : ts[j]? = some t) (hd : ds[j]? = some d)
    (hu : P.underlying t = some (.slice e)) (he : P.underlying e = some (.slice b)) (hc : P.cellsOf e = 1) (hB : P.bytesOf e = 24) (hb : P.underlying b = some (.int .u8)) (hcb : P.cellsOf b = 1) (hBb : P.bytesOf b = 1)
    (h : DataW.Trod enc P W 0 (fun _ => true) true t (.slice a len cap) d ps) : ∃ xs, IsRowS W a len cap xs ∧ len * 24 ≤ 140737488351232 := by
  obtain ⟨fuel, hf⟩ := h
  rcases DataW.trod_slice hu hf with ⟨hcs, _⟩ | ⟨x, l, c, elems, rest, n, rfl, hcs, hx, _, hl, hm, hlen, hel, hsp, _⟩
  · simp [Value.cells] at hcs
    obtain ⟨rfl, rfl, rfl⟩ := hcs
    exact ⟨[], .inl ⟨rfl, rfl, rfl, rfl⟩, by simp⟩
  · simp [Value.cells] at hcs
    obtain ⟨rfl, rfl, rfl⟩ := hcs
    obtain ⟨hx1, _⟩ := Prod.mk.inj hx
    subst hx1
    have z := sized_slice hsz ht hd hu
    rw [hB] at z
    have hz : (reachBytes : Nat) = 140737488351232 := by decide
    simp only [List.length_map] at z
    have each : ∀ i, i < len → ∃ y : Part, W.cell? (x.add i) = some (.slice y.1 y.2.1 y.2.2.1) ∧ IsPart W y := by
      intro i hi
      have h1 := hel i hi
      obtain ⟨el, hel1⟩ : ∃ el, elems[i]? = some el := ⟨elems[i]'(by omega), List.getElem?_eq_getElem (by omega)⟩
      rw [hel1, hc, Nat.mul_one, Option.bind_eq_some_iff] at h1
      obtain ⟨cs', h2, h3⟩ := h1
      have hw : (DataW.weightsEach P [e] [el.1]).all (· ≤ reachBytes) = true := by
        rw [List.all_eq_true]
        intro m hm'
        refine List.all_eq_true.1 hsz m (DataW.weights_mem_each ht hd m ?_)
        simp only [DataW.weights, hu, List.mem_cons, List.mem_append]
        refine .inr (.inl (weights_all (d := el.1) (List.mem_map.2 ⟨el, List.mem_of_getElem? hel1, rfl⟩) m ?_))
        simpa [DataW.weightsEach] using hm'
      rcases open_ints he hb hcb h3 with ⟨hcs', _⟩ | ⟨x', l', c', zs, hcs', _⟩
      · subst hcs'
        refine ⟨(none, 0, 0, []), cell_of_cells?_one h2, .inl ⟨rfl, rfl, rfl, rfl⟩, by simp⟩
      · subst hcs'
        have hT : DataW.Trod enc P W 0 (fun _ => true) true e (.slice (some x') l' c') el.1 el.2 := ⟨n, by simpa [Value.cells] using h3⟩
        obtain ⟨zs', hz'⟩ := isRow_of he hb hcb hT
        have hle := sized_ints (j := 0) hw rfl rfl he hb hcb hBb hT
        exact ⟨(some x', l', c', zs'), cell_of_cells?_one h2, hz', by simpa using hle⟩
    have hf : ∃ f : Nat → Part, ∀ i, i < len → W.cell? (x.add i) = some (.slice (f i).1 (f i).2.1 (f i).2.2.1) ∧ IsPart W (f i) :=
      ⟨fun i => if hi : i < len then Classical.choose (each i hi) else (none, 0, 0, []), fun i hi => by
        simp only [dif_pos hi]; exact Classical.choose_spec (each i hi)⟩
    obtain ⟨f, hf⟩ := hf
    refine ⟨(List.range len).map f, .inr ⟨x, rfl, hl, hm, by simp, fun i y hy => ?_⟩, by omega⟩
    rw [List.getElem?_map, Option.map_eq_some_iff] at hy
    obtain ⟨k, hk, rfl⟩ := hy
    obtain ⟨hk1, hk2⟩ := List.getElem?_eq_some_iff.1 hk
    rw [List.getElem_range] at hk2
    subst hk2
    exact hf i (by simpa using hk1)
theorem isRowS_vr {W : World} {a : Option Addr} {len cap : Nat} {xs : List Part} (h : IsRowS W a len cap xs) : VR (impR W) (encSl (argSl a len)) (.slice a len cap) := by
  rcases h with ⟨rfl, rfl, rfl, rfl⟩ | ⟨x, rfl, h1, h2, h3, h4⟩
  · exact .slice0
  · refine .slice _ _ _ _ _ ?_
    show SR _ _ len x cap (capK ANY)
    rw [capK_ANY]
    refine ⟨h1, ?_⟩
    rcases Nat.eq_zero_or_pos len with h0 | h0
    · exact .inl h0
    · right
      have := (h4 0 (xs[0]'(by omega)) (List.getElem?_eq_getElem (by omega))).1
      rw [show x.add 0 = x by simp [Addr.add]] at this
      exact okA_ar (okA_of_cell this)
theorem part_abs {W : World} {y : Part} (h : IsPart W y) : absV W (.slice y.1 y.2.1 y.2.2.1) = some (encSl (argSl y.1 y.2.1)) := by
  obtain ⟨a, l, c, zs⟩ := y
  rcases h.1 with ⟨h1, h2, h3, _⟩ | ⟨x, h1, h2, h3, h4, h5, _⟩
  · simp only at h1 h2 h3
    subst h1; subst h2; subst h3
    rfl
  · simp only at h1 h2 h3 h4 h5
    subst h1
    have hk : (l.ble c && (l.beq 0 || okA W x)) = true := by
      simp only [Bool.and_eq_true, Nat.ble_eq, Bool.or_eq_true, nbeq_eq]
      refine ⟨h2, ?_⟩
      rcases Nat.eq_zero_or_pos l with h0 | h0
      · exact .inl h0
      · right
        have := h5 0 (by omega)
        rw [show x.add 0 = x by simp [Addr.add]] at this
        exact okA_of_cell this
    simp only [absV, hk, cond_true]
    rfl
theorem isRowS_rd {W : World} {a : Option Addr} {len cap : Nat} {xs : List Part} (h : IsRowS W a len cap xs) : RdS (impH W) (argSl a len) (xs.map fun y => argSl y.1 y.2.1) := by
  rcases h with ⟨rfl, rfl, rfl, rfl⟩ | ⟨x, rfl, h1, h2, h3, h4⟩
  · exact rd_nil 1 _
  · refine ⟨by simp [argSl]; omega, fun hn => by simp [argSl] at hn, fun b hb i v hi => ?_, fun _ => by unfold CapOK argSl; simp only [capK_ANY]⟩
    simp only [argSl, Option.some.injEq] at hb
    subst hb
    rw [List.map_map, List.getElem?_map, Option.map_eq_some_iff] at hi
    obtain ⟨y, hy, rfl⟩ := hi
    obtain ⟨hc, hp⟩ := h4 i y hy
    obtain ⟨g1, g2, g3⟩ := imp_ld hc (part_abs hp)
    have hb : (x.add i).block = x.block := by unfold Addr.add; split <;> rfl
    have ho : (x.add i).off = x.off + i := by unfold Addr.add; split <;> simp_all
    rw [hb] at g1 g3
    rw [ho] at g3
    exact ⟨g1, by simpa [add] using g3⟩
theorem parts_rd {W : World} : ∀ (xs : List Part), (∀ y ∈ xs, IsPart W y) → RdBs (impH W) (xs.map fun y => argSl y.1 y.2.1) (xs.map fun y => bytesIn (y.2.2.2.take y.2.1))
  | [], _ => trivial
  | y :: xs, h => ⟨⟨isRow_rdB (h y (List.mem_cons_self ..)).1, by
      have := bytesIn_len y.2.2.2 y.2.1
      have := (h y (List.mem_cons_self ..)).2
      show (bytesIn (y.2.2.2.take y.2.1)).length ≤ 2 ^ 47
      omega⟩, parts_rd xs fun z hz => h z (List.mem_cons_of_mem _ hz)⟩
theorem isRowS_parts {W : World} {a : Option Addr} {len cap : Nat} {xs : List Part} (h : IsRowS W a len cap xs) : ∀ y ∈ xs, IsPart W y := by
  rcases h with ⟨_, _, _, rfl⟩ | ⟨x, _, _, _, _, h4⟩
  · intro y hy; simp at hy
  · intro y hy
    obtain ⟨i, hi⟩ := List.getElem?_of_mem hy
    exact (h4 i y hi).2
theorem isRowS_len {W : World} {a : Option Addr} {len cap : Nat} {xs : List Part} (h : IsRowS W a len cap xs) : xs.length = len := by
  rcases h with ⟨_, rfl, _, rfl⟩ | ⟨x, _, _, _, h3, _⟩
  · rfl
  · exact h3
end Go.Abs
/- The reference's functions of chapter 1 over the typed texts. -/
set_option linter.unusedVariables false
set_option linter.unusedSimpArgs false
namespace Go.Proofs.Ytaebjajbogedkaa.T
open Go Go.Abs Go.Proofs
theorem szs_nonneg : ∀ (zs : List Int) (t : Int), szs zs = some t → 0 ≤ t
  | [], t, h => by simp [szs] at h; omega
  | n :: l, t, h => by
    unfold szs at h
    split at h
    · simp only [Option.map_eq_some_iff] at h
      obtain ⟨u, h1, h2⟩ := h
      have := szs_nonneg l u h1
      have := sz_pos n
      omega
    · simp at h
theorem szs_all : ∀ zs : List Int, (szs zs).isSome = true ↔ ∀ x ∈ zs, okN x
  | [] => by simp [szs]
  | n :: l => by
    have ih := szs_all l
    unfold szs
    by_cases hn : okN n
    · simp [hn, ih]
    · simp [hn]
theorem szV_neg (zs : List Int) : szV zs < 0 ↔ ¬ ∀ x ∈ zs, okN x := by
  rw [← szs_all]
  unfold szV
  cases hz : szs zs with
  | none => simp
  | some t => have := szs_nonneg zs t hz; simp; omega
/-! bytes put -/
theorem byte_atk (k' : IntKind) {x : Int} (h0 : 0 ≤ x) (m : Nat) (hm : m < 8) : ∃ y, shrT .i64 x k' (8 * (m : Int)) = some y ∧ IntKind.wrap .u8 y = ((UInt8.ofNat (x.toNat / 256 ^ m)).toNat : Int) := by
  obtain ⟨y, e1, e2⟩ := byte_at h0 m hm
  refine ⟨y, ?_, e2⟩
  rw [shrT_ok _ _ _ (by omega)] at e1 ⊢
  exact e1
theorem app_one {h0 h : H} {out : Sl} {l : List UInt8} (bv : UInt8) (hb : BufB h out l) (hx : EX h0 h) (hf : Fr h0.size out) (hl : l.length + 1 ≤ 2 ^ 47) :
    ∃ out1 h2, appT 5 1 1 (newAt (grow h 1) h.size (row 5 [.int .u8 (bv.toNat : Int)])) out ⟨some ⟨h.size, 0, some 0⟩, 1, 1⟩ = some (out1, h2) ∧ BufB h2 out1 (l ++ [bv]) ∧ EX h0 h2 ∧ Fr h0.size out1 := by
  rw [show row 5 [Value.int .u8 (bv.toNat : Int)] = row 5 (vB [bv]) from rfl]
  have x1 := wf_new hx.wf 5 (vB [bv])
  have b1 : BufB _ ⟨some ⟨h.size, 0, some 0⟩, 1, 1⟩ [bv] := bufB_new hx.wf 5 [bv] (by simp [B63])
  generalize newAt (grow h 1) h.size (row 5 (vB [bv])) = h1 at x1 b1 ⊢
  generalize (⟨some ⟨h.size, 0, some 0⟩, 1, 1⟩ : Sl) = s1 at b1 ⊢
  obtain ⟨out1, h2, e3, k3, x3, b3, _, f3⟩ := appB_ok (e := 5) x1.wf (hb.ex hx.wf x1) b1.rd (by simp; omega)
  exact ⟨out1, h2, e3, b3, x3 _ (hx.trans x1) hf, f3 _ (hx.trans x1).size hf⟩
theorem add_kind (b : UInt8) (k : Nat) (hb : b.toNat < 64) (hk : k < 4) : IntKind.wrap .u8 ((b.toNat : Int) + (k * 64 : Nat)) = ((b ||| UInt8.ofNat (k * 64)).toNat : Int) := by
  rw [or_kind b k hb hk, wu8_mod]; omega
theorem kd_sz {x : Int} (h : okN x) : (kd x = 0 ∧ sz x = 1) ∨ (kd x = 1 ∧ sz x = 2) ∨ (kd x = 2 ∧ sz x = 4) ∨ (kd x = 3 ∧ sz x = 8) := by
  unfold okN at h
  unfold kd sz
  rw [if_neg (by omega), if_neg (by omega)]
  (repeat' split) <;> simp
theorem top_lt {x : Int} (h : okN x) : x.toNat / 256 ^ ((sz x).toNat - 1) < 64 := by
  have h' := h
  unfold okN at h'
  have h1 : (64 : Nat) * 256 ^ 0 = 64 ∧ 64 * 256 ^ 1 = 16384 ∧ 64 * 256 ^ 3 = 1073741824 ∧ 64 * 256 ^ 7 = 4611686018427387904 := by decide
  apply Nat.div_lt_of_lt_mul
  rw [Nat.mul_comm]
  rcases sz_cases x with hs | hs | hs | hs <;> rw [hs] <;> simp only [Int.toNat_one, Int.reduceToNat, Nat.reduceSub] <;> unfold sz at hs <;> (repeat' split at hs) <;> omega
end Go.Proofs.Ytaebjajbogedkaa.T
/- The reference's functions of chapter 1 over the typed texts: numbers put, taken. -/
set_option linter.unusedVariables false
set_option linter.unusedSimpArgs false
namespace Go.Proofs.Ytaebjajbogedkaa.T
open Go Go.Abs Go.Proofs
theorem app_new {h : H} {x : Sl} {l : List UInt8} (w : WF h) (hr : RdB h x l) (hl : l.length ≤ 2 ^ 47) :
    ∃ s' h', appT 5 1 1 (newAt (grow h 1) h.size (row 5 [])) ⟨some ⟨h.size, 0, some 0⟩, 0, 0⟩ x = some (s', h') ∧ EX h h' ∧ BufB h' s' l ∧ Fr h.size s' := by
  have x1 := wf_new w 5 (vB [])
  have b1 := bufB_new w 5 [] (by decide)
  rw [show row 5 [] = row 5 (vB []) from rfl]
  have f1 := fr_new h 0 0
  simp only [List.length_nil] at b1
  generalize newAt (grow h 1) h.size (row 5 (vB [])) = h1 at x1 b1 ⊢
  generalize (⟨some ⟨h.size, 0, some 0⟩, 0, 0⟩ : Sl) = s1 at b1 f1 ⊢
  obtain ⟨s', h', e2, k2, x2, b2, _, f2⟩ := appB_ok (e := 5) x1.wf b1 (hr.ex x1) (by simpa using hl)
  exact ⟨s', h', e2, x2 _ x1 f1, by simpa using b2, f2 _ x1.size f1⟩
def putV (l : List UInt8) (zs : List Int) : List UInt8 := if szV zs < 0 then [] else l ++ encs zs
/-! a number taken -/
/-! numbers taken one behind the other -/
end Go.Proofs.Ytaebjajbogedkaa.T
