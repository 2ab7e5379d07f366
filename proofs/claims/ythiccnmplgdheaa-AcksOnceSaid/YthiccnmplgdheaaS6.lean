/- Laws of memory for the typed texts: rows that are laid at reserved blocks (regions of open order). -/
import Derived.Test.YthiccnmplgdheaaS4
set_option linter.unusedVariables false
set_option linter.unusedSimpArgs false
namespace Go.Abs
open Go
theorem ex_grow {h : H} (w : WF h) (k : Nat) : EX h (grow h k) :=
  ⟨Nat.le_add_right _ _, rfl, ⟨Nat.le_trans w.nro (Nat.le_add_right _ _), fun A hA => w.top A (Nat.le_trans (Nat.le_add_right _ _) hA), w.arr⟩, fun _ _ => rfl⟩
theorem ex_growIf {h : H} (w : WF h) (k : Nat) : EX h (growIf h k) := by rw [growIf_eq]; exact ex_grow w k
theorem growIf_size (h : H) (k : Nat) : (growIf h k).size = h.size + k := by rw [growIf_eq]; rfl
theorem ex_tick {h : H} (w : WF h) (k : Nat) : EX h (tickIf k h) := by
  unfold tickIf
  cases k.beq 0
  · exact ⟨Nat.le_refl _, rfl, ⟨w.nro, w.top, w.arr⟩, fun _ _ => rfl⟩
  · exact EX.refl w
theorem addP_nil (mask n0 : Nat) (h : H) : addP mask n0 [] h = h := rfl
theorem addP_off {mask n0 i : Nat} {ob : AObj} {l : List (Nat × AObj)} {h : H} (hm : mask.testBit i = false) : addP mask n0 ((i, ob) :: l) h = addP mask n0 l h := by
  show (bif mask.testBit i then _ else _) = _
  rw [hm]; rfl
theorem addP_new {mask n0 i : Nat} {ob : AObj} {l : List (Nat × AObj)} {h : H} (hm : mask.testBit i = true) (hn : h.objs.get (n0 + i) = none) : addP mask n0 ((i, ob) :: l) h = addP mask n0 l (newAt h (n0 + i) ob) := by
  show (bif mask.testBit i then (match h.objs.get (n0 + i) with | none => _ | some _ => _) else _) = _
  rw [hm, hn]; rfl
theorem addP_old {mask n0 i : Nat} {ob : AObj} {l : List (Nat × AObj)} {h : H} (hm : mask.testBit i = true) (hn : h.objs.get (n0 + i) ≠ none) : addP mask n0 ((i, ob) :: l) h = addP mask n0 l h := by
  show (bif mask.testBit i then (match h.objs.get (n0 + i) with | none => _ | some _ => _) else _) = _
  rw [hm]
  cases hg : h.objs.get (n0 + i) with
  | none => exact absurd hg hn
  | some o => rfl
theorem newAt_get (h : H) (B : Nat) (ob : AObj) (A : Nat) : (newAt h B ob).objs.get A = if A = B then some ob else h.objs.get A := Tr.get_set _ _ _ _
/-- a row laid at a block that is reserved -/
theorem wf_at {h : H} (w : WF h) {B : Nat} (hB : B < h.size) (e : TypeId) (l : List Value) : WF (newAt h B (row e l)) := by
  refine ⟨w.nro, fun A hA => ?_, fun A r hr i c hc => ?_⟩
  · have hA' : h.size ≤ A := hA
    rw [newAt_get, if_neg (by omega)]; exact w.top A hA'
  · rw [newAt_get] at hr
    split at hr
    · simp only [row, Option.some.injEq, AObj.arr.injEq] at hr
      subst hr
      simp only [get_ofL] at hc
      cases hl : l[i]? with
      | none => rw [hl] at hc; simp at hc
      | some v => exact (List.getElem?_eq_some_iff.1 hl).1
    · exact w.arr A r hr i c hc
theorem ex_at {h0 h : H} (w : WF h) (x : EX h0 h) {B : Nat} (h0B : h0.size ≤ B) (hB : B < h.size) (e : TypeId) (l : List Value) : EX h0 (newAt h B (row e l)) :=
  ⟨x.size, x.nro, wf_at w hB e l, fun A hA => by rw [newAt_get, if_neg (by omega)]; exact x.same A hA⟩
theorem rd_at {sz : Nat} {h : H} {B : Nat} (hn : h.objs.get B = none) (e : TypeId) (l : List Value) {s : Sl} {m : List Value} (r : Rd sz h s m) : Rd sz (newAt h B (row e l)) s m := by
  refine ⟨r.len, r.nil, fun a ha i v hi => ?_, r.cap⟩
  obtain ⟨h1, h2⟩ := r.ld a ha i v hi
  refine ⟨h1, ?_⟩
  rw [ldCell_eq] at h2 ⊢
  rw [newAt_get]
  split
  · rename_i e'; rw [e', hn] at h2; simp [ldO] at h2
  · exact h2
theorem buf_at {sz : Nat} {h : H} {B : Nat} (hn : h.objs.get B = none) (e : TypeId) (l : List Value) {s : Sl} {m : List Value} (r : Buf sz h s m) : Buf sz (newAt h B (row e l)) s m := by
  refine ⟨rd_at hn e l r.rd, ?_⟩
  rcases r.tip with ht | ⟨a, q, e', h1, h2, h3, h4, h5, h6, h7⟩
  · exact .inl ht
  · refine .inr ⟨a, q, e', h1, ?_, h3, h4, h5, h6, h7⟩
    rw [newAt_get, if_neg (by intro e; rw [e, hn] at h2; simp at h2)]; exact h2
theorem buf_row_at {h : H} {B : Nat} (hnro : h.nro ≤ B) (hB : B < h.size) (e : TypeId) (k : IntKind) (zs : List Int) (hz : zs.length < B63) : Buf 1 (newAt h B (row e (zs.map (.int k)))) ⟨some ⟨B, 0, some 0⟩, zs.length, zs.length⟩ (zs.map (.int k)) := by
  refine ⟨⟨by simp, fun h => by simp at h, fun a ha i v hi => ?_, fun _ => by unfold CapOK; rw [capK_exact hz]; exact Nat.le_refl _⟩, .inr ⟨_, ⟨e, (zs.map (Value.int k)).length, 0, ofL (zs.map (.int k))⟩, 0, rfl, ?_, rfl, rfl, hnro, by simp, by simp only [capK_exact hz]⟩⟩
  · simp only [Option.some.injEq] at ha
    subst ha
    refine ⟨hB, ?_⟩
    rw [ldCell_eq]
    show ldO ((newAt h B (row e (zs.map (Value.int k)))).objs.get B) _ = _
    rw [newAt_get, if_pos rfl]
    simp only [row, ldO, add, get_ofL, Nat.zero_add, hi, Option.map_some]
    rfl
  · rw [newAt_get, if_pos rfl]; rfl
theorem fr_at (B n : Nat) {m : Nat} (h : m ≤ B) (c : Nat) : Fr m ⟨some ⟨B, 0, some 0⟩, n, c⟩ := fun a ha => by
  simp only [Option.some.injEq] at ha; subst ha; exact h
end Go.Abs
