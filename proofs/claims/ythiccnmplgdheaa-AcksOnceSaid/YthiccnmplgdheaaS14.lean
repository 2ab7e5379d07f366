/- A slice of bools as a parameter. -/
-- SEAT b
import Derived.Test.YthiccnmplgdheaaS5
import Derived.Deep.Grids
set_option linter.unusedVariables false
set_option linter.unusedSimpArgs false
namespace Go.Abs
open Go Go.ChangeShapes Go.WideShapes
def IsRowO (w : World) (a : Option Addr) (len cap : Nat) (bs : List Bool) : Prop :=
  (a = none ∧ len = 0 ∧ cap = 0 ∧ bs = []) ∨
  ∃ x, a = some x ∧ len ≤ cap ∧ cap ≤ maxLen ∧ bs.length = cap ∧ ∀ i, i < bs.length → w.cell? (x.add i) = some (.bool (bs.getD i false))
theorem isRowO_of {H : Type} {enc : TypeId × Value → H} {P : Program} {W : World} {t e : TypeId} {a : Option Addr} {len cap : Nat} {d : DataW H} {ps : List MemPlace} (hu : P.underlying t = some (.slice e)) (he : P.underlying e = some .bool) (hc : P.cellsOf e = 1)
    (h : DataW.Trod enc P W 0 (fun _ => true) true t (.slice a len cap) d ps) : ∃ bs, IsRowO W a len cap bs := by
  obtain ⟨fuel, hf⟩ := h
  rcases Go.Deep.open_bools hu he hc hf with ⟨hcs, _⟩ | ⟨x, l, c, B, hcs, _, hl, hm, _, hcell⟩
  · simp [Value.cells] at hcs
    obtain ⟨rfl, rfl, rfl⟩ := hcs
    exact ⟨[], .inl ⟨rfl, rfl, rfl, rfl⟩⟩
  · simp [Value.cells] at hcs
    obtain ⟨rfl, rfl, rfl⟩ := hcs
    refine ⟨(List.range cap).map B, .inr ⟨_, rfl, hl, hm, by simp, fun i hi => ?_⟩⟩
    have hi' : i < cap := by simpa using hi
    rw [hcell i hi', List.getD_eq_getElem?_getD, List.getElem?_map, List.getElem?_range hi']
    rfl
theorem isRowO_vr {W : World} {a : Option Addr} {len cap : Nat} {bs : List Bool} (h : IsRowO W a len cap bs) : VR (impR W) (encSl (argSl a len)) (.slice a len cap) := by
  rcases h with ⟨rfl, rfl, rfl, rfl⟩ | ⟨x, rfl, h1, h2, h3, h4⟩
  · exact .slice0
  · refine .slice _ _ _ _ _ ?_
    show SR _ _ len x cap (capK ANY)
    rw [capK_ANY]
    refine ⟨h1, ?_⟩
    rcases Nat.eq_zero_or_pos len with h0 | h0
    · exact .inl h0
    · right
      have := h4 0 (by omega)
      rw [show x.add 0 = x by simp [Addr.add]] at this
      exact okA_ar (okA_of_cell this)
theorem isRowO_rd {W : World} {a : Option Addr} {len cap : Nat} {bs : List Bool} (h : IsRowO W a len cap bs) : Rd 1 (impH W) (argSl a len) ((bs.take len).map .bool) := by
  rcases h with ⟨rfl, rfl, rfl, rfl⟩ | ⟨x, rfl, h1, h2, h3, h4⟩
  · exact rd_nil 1 _
  · refine ⟨by simp [argSl]; omega, fun hn => by simp [argSl] at hn, fun b hb i v hi => ?_, fun _ => by unfold CapOK argSl; simp only [capK_ANY]⟩
    simp only [argSl, Option.some.injEq] at hb
    subst hb
    have hlt := (List.getElem?_eq_some_iff.1 hi).1
    have hlt : i < len ∧ i < bs.length := by simp at hlt; omega
    have hv : v = .bool (bs.getD i false) := by
      rw [List.getElem?_map, List.getElem?_take_of_lt hlt.1] at hi
      simp [List.getD, hlt.2] at hi ⊢
      exact hi.symm
    subst hv
    have hc := h4 i hlt.2
    obtain ⟨g1, g2, g3⟩ := imp_ld hc (u := .bool (bs.getD i false)) rfl
    have hb : (x.add i).block = x.block := by unfold Addr.add; split <;> rfl
    have ho : (x.add i).off = x.off + i := by unfold Addr.add; split <;> simp_all
    rw [hb] at g1 g3
    rw [ho] at g3
    exact ⟨g1, by simpa [add] using g3⟩
theorem bools_len {W : World} {a : Option Addr} {len cap : Nat} {bs : List Bool} (h : IsRowO W a len cap bs) : (bs.take len).length ≤ maxLen := by
  rcases h with ⟨rfl, rfl, rfl, rfl⟩ | ⟨x, rfl, h1, h2, h3, h4⟩
  · simp
  · simp; omega
end Go.Abs
