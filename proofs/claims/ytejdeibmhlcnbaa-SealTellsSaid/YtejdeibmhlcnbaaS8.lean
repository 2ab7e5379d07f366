/- A slice of byte slices as a parameter. -/
import Derived.Test.YtejdeibmhlcnbaaS5
import Derived.Test.YtejdeibmhlcnbaaSSeal2
set_option linter.unusedVariables false
set_option linter.unusedSimpArgs false
namespace Go.Abs
open Go Go.ChangeShapes Go.WideShapes Go.RowKit
abbrev Part := Option Addr × Nat × Nat × List Int
def IsPart (W : World) (y : Part) : Prop := IsRow .u8 W y.1 y.2.1 y.2.2.1 y.2.2.2 ∧ y.2.1 ≤ 140737488351232
def IsRowS (W : World) (a : Option Addr) (len cap : Nat) (xs : List Part) : Prop :=
  (a = none ∧ len = 0 ∧ cap = 0 ∧ xs = []) ∨
  ∃ x, a = some x ∧ len ≤ cap ∧ cap ≤ maxLen ∧ xs.length = len ∧ ∀ i y, xs[i]? = some y → W.cell? (x.add i) = some (.slice y.1 y.2.1 y.2.2.1) ∧ IsPart W y
theorem weights_all {H : Type} {P : Program} {e : TypeId} : ∀ {ds : List (DataW H)} {d : DataW H}, d ∈ ds → ∀ n ∈ d.weights P e, n ∈ DataW.weightsAll P e ds
  | x :: r, d, hd, n, hn => by
    unfold DataW.weightsAll
    rw [List.mem_append]
    rcases List.mem_cons.1 hd with rfl | hd
    · exact .inl hn
    · exact .inr (weights_all hd n hn)
theorem isRowS_of {H : Type} {enc : TypeId × Value → H} {P : Program} {W : World} {t e b : TypeId} {a : Option Addr} {len cap : Nat} {d : DataW H} {ps : List MemPlace} {ts : List TypeId} {ds : List (DataW H)} {j : Nat}
    (hsz : (DataW.weightsEach P ts ds).all (· ≤ reachBytes) = true) (ht : ts[j]? = some t) (hd : ds[j]? = some d)
    (hu : P.underlying t = some (.slice e)) (he : P.underlying e = some (.slice b)) (hc : P.cellsOf e = 1) (hB : P.bytesOf e = 24) (hb : P.underlying b = some (.int .u8)) (hcb : P.cellsOf b = 1) (hBb : P.bytesOf b = 1)
    (h : DataW.Trod enc P W 0 (fun _ => true) true t (.slice a len cap) d ps) : ∃ xs, IsRowS W a len cap xs ∧ len * 24 ≤ 140737488351232 := by
  obtain ⟨fuel, hf⟩ := h
  rcases DataW.trod_slice hu hf with ⟨hcs, _⟩ | ⟨x, l, c, elems, rest, n, rfl, hcs, hx, _, hl, hm, hlen, hel, hsp, _⟩
  · simp [Value.cells] at hcs
    obtain ⟨rfl, rfl, rfl⟩ := hcs
    exact ⟨[], .inl ⟨rfl, rfl, rfl, rfl⟩, by simp⟩
  · simp [Value.cells] at hcs
    obtain ⟨rfl, rfl, rfl⟩ := hcs
    obtain ⟨hx1, _⟩ := Prod.mk.inj hx
    subst hx1
    have z := sized_slice hsz ht hd hu
    rw [hB] at z
    have hz : (reachBytes : Nat) = 140737488351232 := by decide
    simp only [List.length_map] at z
    have each : ∀ i, i < len → ∃ y : Part, W.cell? (x.add i) = some (.slice y.1 y.2.1 y.2.2.1) ∧ IsPart W y := by
      intro i hi
      have h1 := hel i hi
      obtain ⟨el, hel1⟩ : ∃ el, elems[i]? = some el := ⟨elems[i]'(by omega), List.getElem?_eq_getElem (by omega)⟩
      rw [hel1, hc, Nat.mul_one, Option.bind_eq_some_iff] at h1
      obtain ⟨cs', h2, h3⟩ := h1
      have hw : (DataW.weightsEach P [e] [el.1]).all (· ≤ reachBytes) = true := by
        rw [List.all_eq_true]
        intro m hm'
        refine List.all_eq_true.1 hsz m (DataW.weights_mem_each ht hd m ?_)
        simp only [DataW.weights, hu, List.mem_cons, List.mem_append]
        refine .inr (.inl (weights_all (d := el.1) (List.mem_map.2 ⟨el, List.mem_of_getElem? hel1, rfl⟩) m ?_))
        simpa [DataW.weightsEach] using hm'
      rcases open_ints he hb hcb h3 with ⟨hcs', _⟩ | ⟨x', l', c', zs, hcs', _⟩
      · subst hcs'
        refine ⟨(none, 0, 0, []), cell_of_cells?_one h2, .inl ⟨rfl, rfl, rfl, rfl⟩, by simp⟩
      · subst hcs'
        have hT : DataW.Trod enc P W 0 (fun _ => true) true e (.slice (some x') l' c') el.1 el.2 := ⟨n, by simpa [Value.cells] using h3⟩
        obtain ⟨zs', hz'⟩ := isRow_of he hb hcb hT
        have hle := sized_ints (j := 0) hw rfl rfl he hb hcb hBb hT
        exact ⟨(some x', l', c', zs'), cell_of_cells?_one h2, hz', by simpa using hle⟩
    have hf : ∃ f : Nat → Part, ∀ i, i < len → W.cell? (x.add i) = some (.slice (f i).1 (f i).2.1 (f i).2.2.1) ∧ IsPart W (f i) :=
      ⟨fun i => if hi : i < len then Classical.choose (each i hi) else (none, 0, 0, []), fun i hi => by
        simp only [dif_pos hi]; exact Classical.choose_spec (each i hi)⟩
    obtain ⟨f, hf⟩ := hf
    refine ⟨(List.range len).map f, .inr ⟨x, rfl, hl, hm, by simp, fun i y hy => ?_⟩, by omega⟩
    rw [List.getElem?_map, Option.map_eq_some_iff] at hy
    obtain ⟨k, hk, rfl⟩ := hy
    obtain ⟨hk1, hk2⟩ := List.getElem?_eq_some_iff.1 hk
    rw [List.getElem_range] at hk2
    subst hk2
    exact hf i (by simpa using hk1)
theorem isRowS_vr {W : World} {a : Option Addr} {len cap : Nat} {xs : List Part} (h : IsRowS W a len cap xs) : VR (impR W) (encSl (argSl a len)) (.slice a len cap) := by
  rcases h with ⟨rfl, rfl, rfl, rfl⟩ | ⟨x, rfl, h1, h2, h3, h4⟩
  · exact .slice0
  · refine .slice _ _ _ _ _ ?_
    show SR _ _ len x cap (capK ANY)
    rw [capK_ANY]
    refine ⟨h1, ?_⟩
    rcases Nat.eq_zero_or_pos len with h0 | h0
    · exact .inl h0
    · right
      have := (h4 0 (xs[0]'(by omega)) (List.getElem?_eq_getElem (by omega))).1
      rw [show x.add 0 = x by simp [Addr.add]] at this
      exact okA_ar (okA_of_cell this)
theorem part_abs {W : World} {y : Part} (h : IsPart W y) : absV W (.slice y.1 y.2.1 y.2.2.1) = some (encSl (argSl y.1 y.2.1)) := by
  obtain ⟨a, l, c, zs⟩ := y
  rcases h.1 with ⟨h1, h2, h3, _⟩ | ⟨x, h1, h2, h3, h4, h5, _⟩
  · simp only at h1 h2 h3
    subst h1; subst h2; subst h3
    rfl
  · simp only at h1 h2 h3 h4 h5
    subst h1
    have hk : (l.ble c && (l.beq 0 || okA W x)) = true := by
      simp only [Bool.and_eq_true, Nat.ble_eq, Bool.or_eq_true, nbeq_eq]
      refine ⟨h2, ?_⟩
      rcases Nat.eq_zero_or_pos l with h0 | h0
      · exact .inl h0
      · right
        have := h5 0 (by omega)
        rw [show x.add 0 = x by simp [Addr.add]] at this
        exact okA_of_cell this
    simp only [absV, hk, cond_true]
    rfl
theorem isRowS_rd {W : World} {a : Option Addr} {len cap : Nat} {xs : List Part} (h : IsRowS W a len cap xs) : RdS (impH W) (argSl a len) (xs.map fun y => argSl y.1 y.2.1) := by
  rcases h with ⟨rfl, rfl, rfl, rfl⟩ | ⟨x, rfl, h1, h2, h3, h4⟩
  · exact rd_nil 1 _
  · refine ⟨by simp [argSl]; omega, fun hn => by simp [argSl] at hn, fun b hb i v hi => ?_, fun _ => by unfold CapOK argSl; simp only [capK_ANY]⟩
    simp only [argSl, Option.some.injEq] at hb
    subst hb
    rw [List.map_map, List.getElem?_map, Option.map_eq_some_iff] at hi
    obtain ⟨y, hy, rfl⟩ := hi
    obtain ⟨hc, hp⟩ := h4 i y hy
    obtain ⟨g1, g2, g3⟩ := imp_ld hc (part_abs hp)
    have hb : (x.add i).block = x.block := by unfold Addr.add; split <;> rfl
    have ho : (x.add i).off = x.off + i := by unfold Addr.add; split <;> simp_all
    rw [hb] at g1 g3
    rw [ho] at g3
    exact ⟨g1, by simpa [add] using g3⟩
theorem parts_rd {W : World} : ∀ (xs : List Part), (∀ y ∈ xs, IsPart W y) → RdBs (impH W) (xs.map fun y => argSl y.1 y.2.1) (xs.map fun y => bytesIn (y.2.2.2.take y.2.1))
  | [], _ => trivial
  | y :: xs, h => ⟨⟨isRow_rdB (h y (List.mem_cons_self ..)).1, by
      have := bytesIn_len y.2.2.2 y.2.1
      have := (h y (List.mem_cons_self ..)).2
      show (bytesIn (y.2.2.2.take y.2.1)).length ≤ 2 ^ 47
      omega⟩, parts_rd xs fun z hz => h z (List.mem_cons_of_mem _ hz)⟩
theorem isRowS_parts {W : World} {a : Option Addr} {len cap : Nat} {xs : List Part} (h : IsRowS W a len cap xs) : ∀ y ∈ xs, IsPart W y := by
  rcases h with ⟨_, _, _, rfl⟩ | ⟨x, _, _, _, _, h4⟩
  · intro y hy; simp at hy
  · intro y hy
    obtain ⟨i, hi⟩ := List.getElem?_of_mem hy
    exact (h4 i y hi).2
theorem isRowS_len {W : World} {a : Option Addr} {len cap : Nat} {xs : List Part} (h : IsRowS W a len cap xs) : xs.length = len := by
  rcases h with ⟨_, rfl, _, rfl⟩ | ⟨x, _, _, _, h3, _⟩
  · rfl
  · exact h3
end Go.Abs
