/- Lemmas about the typed texts (joined: S16). -/
import Derived.Test.YthiccnmplgdheaaG25
import Derived.Test.YthiccnmplgdheaaG17
set_option linter.unusedVariables false
set_option linter.unusedSimpArgs false
namespace Go.Abs
open Go Go.ChangeShapes Go.WideShapes Go.RowKit
theorem row_abs {k : IntKind} {W : World} {y : Part} (h : IsRow k W y.1 y.2.1 y.2.2.1 y.2.2.2) : absV W (.slice y.1 y.2.1 y.2.2.1) = some (encSl (argSl y.1 y.2.1)) := by
  obtain ⟨a, l, c, zs⟩ := y
  rcases h with ⟨h1, h2, h3, _⟩ | ⟨x, h1, h2, h3, h4, h5, _⟩
  · simp only at h1 h2 h3
    subst h1; subst h2; subst h3
    rfl
  · simp only at h1 h2 h3 h4 h5
    subst h1
    have hk : (l.ble c && (l.beq 0 || okA W x)) = true := by
      simp only [Bool.and_eq_true, Nat.ble_eq, Bool.or_eq_true, nbeq_eq]
      refine ⟨h2, ?_⟩
      rcases Nat.eq_zero_or_pos l with h0 | h0
      · exact .inl h0
      · right
        have := h5 0 (by omega)
        rw [show x.add 0 = x by simp [Addr.add]] at this
        exact okA_of_cell this
    simp only [absV, hk, cond_true]
    rfl
theorem addB (x : Addr) (i : Nat) : (x.add i).block = x.block := by unfold Addr.add; split <;> rfl
theorem addO (x : Addr) (i : Nat) : (x.add i).off = x.off + i := by unfold Addr.add; split <;> simp_all
theorem isRowW_vr {W : World} {a : Option Addr} {len cap : Nat} {ys : List RawA} (h : IsRowW W a len cap ys) : VR (impR W) (encSl (argSl a len)) (.slice a len cap) := by
  rcases h with ⟨rfl, rfl, rfl, rfl⟩ | ⟨x, rfl, h1, h2, h3, h4⟩
  · exact .slice0
  · refine .slice _ _ _ _ _ ?_
    show SR _ _ len x cap (capK ANY)
    rw [capK_ANY]
    refine ⟨h1, ?_⟩
    rcases Nat.eq_zero_or_pos len with h0 | h0
    · exact .inl h0
    · right
      have := ((h4 0 (ys[0]'(by omega)) (List.getElem?_eq_getElem (by omega))).1)
      have := (World.cells?_some this).2.2 0 (by omega)
      rw [show (x.add (0 * 9)).add 0 = x by simp [Addr.add]] at this
      exact okA_ar (okA_of_cell this)
theorem isRowW_len {W : World} {a : Option Addr} {len cap : Nat} {ys : List RawA} (h : IsRowW W a len cap ys) : ys.length = len := by
  rcases h with ⟨_, rfl, _, rfl⟩ | ⟨x, _, _, _, h3, _⟩
  · rfl
  · exact h3
theorem isRowW_each {W : World} {a : Option Addr} {len cap : Nat} {ys : List RawA} (h : IsRowW W a len cap ys) : ∀ y ∈ ys, IsRaw W y := by
  rcases h with ⟨_, _, _, rfl⟩ | ⟨x, _, _, _, _, h4⟩
  · intro y hy; simp at hy
  · intro y hy
    obtain ⟨i, hi⟩ := List.getElem?_of_mem hy
    exact (h4 i y hi).2
end Go.Abs
namespace Go.Proofs.Ythiccnmplgdheaa.T
open Go Go.Abs Go.Proofs
def rawX (y : RawA) : F9 := (y.k, y.id, y.off, y.a, y.b, y.bend, y.fin, argSl y.data.1 y.data.2.1, argSl y.spans.1 y.spans.2.1)
def rawV (y : RawA) : RV := ⟨y.k, y.id, y.off, y.a, y.b, y.bend, y.fin, bytesIn (y.data.2.2.2.take y.data.2.1), y.spans.2.2.2.take y.spans.2.1⟩
theorem fsV_idx {xs : List F9} {i : Nat} {v : Value} (h : (fsV xs)[i]? = some v) : ∃ q r, i = q * 9 + r /\ r < 9 /\ q < xs.length /\ (f9L (xs.getD q f90))[r]? = some v := by
  have hi := (List.getElem?_eq_some_iff.1 h).1
  rw [fsV_length] at hi
  refine ⟨i / 9, i % 9, by omega, Nat.mod_lt _ (by omega), by omega, ?_⟩
  rw [<- fsV_get xs (i / 9) (by omega), List.getElem?_take_of_lt (Nat.mod_lt _ (by omega)), List.getElem?_drop, show i / 9 * 9 + i % 9 = i by omega]
  exact h
theorem raw_abs {W : World} {y : RawA} (h : IsRaw W y) {r : Nat} {v : Value} (hv : (f9L (rawX y))[r]? = some v) : ∃ u, (rawCells y)[r]? = some u /\ absV W u = some v := by
  have hd := row_abs h.1.1
  have hs := row_abs h.2.1
  have hr : r < 9 := (List.getElem?_eq_some_iff.1 hv).1
  rcases (by omega : r = 0 \/ r = 1 \/ r = 2 \/ r = 3 \/ r = 4 \/ r = 5 \/ r = 6 \/ r = 7 \/ r = 8) with rfl | rfl | rfl | rfl | rfl | rfl | rfl | rfl | rfl
  all_goals first
    | exact ⟨_, rfl, by rw [<- hv]; rfl⟩
    | exact ⟨_, rfl, by rw [<- hv]; exact hd⟩
    | exact ⟨_, rfl, by rw [<- hv]; exact hs⟩
theorem isRowW_rd {W : World} {a : Option Addr} {len cap : Nat} {ys : List RawA} (h : IsRowW W a len cap ys) : RdW (impH W) (argSl a len) (ys.map rawX) (ys.map rawV) := by
  have hl := isRowW_len h
  refine ⟨?_, ?_⟩
  · rcases h with ⟨rfl, rfl, rfl, rfl⟩ | ⟨x, rfl, h1, h2, h3, h4⟩
    · exact rd_nil 9 _
    · refine ⟨by rw [fsV_length]; simp [argSl]; omega, fun hn => by simp [argSl] at hn, fun b hb i v hi => ?_, fun _ => by unfold CapOK argSl; simp only [capK_ANY]⟩
      simp only [argSl, Option.some.injEq] at hb
      subst hb
      obtain ⟨q, r, rfl, hr, hq, hv⟩ := fsV_idx hi
      simp only [List.length_map] at hq
      have hy : ys[q]? = some (ys[q]'hq) := List.getElem?_eq_getElem hq
      obtain ⟨hc, hp⟩ := h4 q _ hy
      have he : (ys.map rawX).getD q f90 = rawX (ys[q]'hq) := by
        rw [List.getD_eq_getElem?_getD, List.getElem?_map, hy]; rfl
      rw [he] at hv
      obtain ⟨u, hu, ha⟩ := raw_abs hp hv
      have hcell := (World.cells?_some hc).2.2 r hr
      rw [hu] at hcell
      obtain ⟨g1, g2, g3⟩ := imp_ld hcell ha
      have hb : ((x.add (q * 9)).add r).block = x.block := by rw [addB, addB]
      have ho : ((x.add (q * 9)).add r).off = x.off + (q * 9 + r) := by rw [addO, addO, Nat.add_assoc]
      rw [hb] at g1 g3
      rw [ho] at g3
      exact ⟨g1, by simpa [add] using g3⟩
  · have he := isRowW_each h
    clear h hl
    induction ys with
    | nil => trivial
    | cons y ys ih =>
      have hy := he y (by simp)
      exact ⟨⟨⟨rfl, rfl, rfl, rfl, rfl, rfl, rfl⟩, isRow_rdB hy.1.1, isRow_rd hy.2.1⟩, ih fun z hz => he z (by simp [hz])⟩
theorem isRowW_sz {W : World} {a : Option Addr} {len cap : Nat} {ys : List RawA} (h : IsRowW W a len cap ys) : WzOK (ys.map rawV) := by
  intro v hv
  obtain ⟨y, hy, rfl⟩ := List.mem_map.1 hv
  have h1 := isRowW_each h y hy
  have h2 := h1.1.2
  have h3 := h1.2.2
  have h4 := bytesIn_len y.data.2.2.2 y.data.2.1
  have h5 := ints_len y.spans.2.2.2 y.spans.2.1
  exact ⟨by show (bytesIn (y.data.2.2.2.take y.data.2.1)).length <= _; omega, by show (y.spans.2.2.2.take y.spans.2.1).length <= _; omega⟩
end Go.Proofs.Ythiccnmplgdheaa.T
