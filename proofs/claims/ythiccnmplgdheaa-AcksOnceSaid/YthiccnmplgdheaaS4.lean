/- Laws of memory for the typed texts: stores into buffers; new rows; counting loops. -/
import Derived.Test.YthiccnmplgdheaaS3
set_option linter.unusedVariables false
set_option linter.unusedSimpArgs false
namespace Go.Abs
open Go
theorem RdI.mono {k : IntKind} {h h' : H} {s : Sl} {zs : List Int} (r : RdI k h s zs) (x : KP h h') : RdI k h' s zs := Rd.mono r x
theorem RdI.ex {k : IntKind} {h h' : H} {s : Sl} {zs : List Int} (x : EX h h') (r : RdI k h s zs) : RdI k h' s zs := Rd.ex x r
theorem newO_eq {α : Type} (ob : AObj) (h : H) (f : Nat → H → Option α) : newO ob h f = f h.size (newAt (grow h 1) h.size ob) := rfl
/-- a store into a buffer -/
theorem st1_buf {h h0 : H} {s : Sl} {l : List Value} {i : Nat} {v : Value} {a : Addr} (hs : Buf 1 h s l) (ha : s.base = some a) (hi : i < l.length) (ho : oneC v = true) (w : WF h) :
    ∃ h', st1 h (add a i) v = some h' ∧ WF h' ∧ Buf 1 h' s (l.set i v) ∧ (∀ h0, EX h0 h → Fr h0.size s → EX h0 h') ∧ (∀ s' l', Rd 1 h s' l' → (∀ a', s'.base = some a' → a'.block ≠ a.block) → Rd 1 h' s' l') := by
  rcases hs.tip with ht | ⟨a', r, e, ha', hobj, hsp, hver, hnro, hoff, hcap⟩
  · rw [ht] at ha; simp at ha
  rw [ha] at ha'
  simp only [Option.some.injEq] at ha'
  subst ha'
  have hll := hs.rd.len
  have hlt : a.block < h.size := by
    rcases Nat.lt_or_ge a.block h.size with x | x
    · exact x
    · rw [w.top _ x] at hobj; simp at hobj
  have hc : stCell h (add a i) v = some { h with tick := h.tick + 1, objs := h.objs.set a.block (.arr { r with cells := r.cells.set (a.off + i) ⟨v, e⟩ }) } := by
    unfold stCell
    simp only [add, hobj, hsp]
    have : (e.beq r.ver && h.nro.ble a.block && (a.off + i).blt r.size && oneC v) = true := by
      simp only [Bool.and_eq_true, nbeq_eq, Nat.ble_eq, Nat.blt_eq]
      exact ⟨⟨⟨hver.symm, hnro⟩, by omega⟩, ho⟩
    rw [this]; rfl
  have get : ∀ B, ({ h with tick := h.tick + 1, objs := h.objs.set a.block (.arr { r with cells := r.cells.set (a.off + i) ⟨v, e⟩ }) } : H).objs.get B = if B = a.block then some (.arr { r with cells := r.cells.set (a.off + i) ⟨v, e⟩ }) else h.objs.get B := fun B => Tr.get_set _ _ _ _
  have wf' : WF { h with tick := h.tick + 1, objs := h.objs.set a.block (.arr { r with cells := r.cells.set (a.off + i) ⟨v, e⟩ }) } := by
    refine ⟨w.nro, fun B hB => ?_, fun B r' hr j c hj => ?_⟩
    · have hB' : h.size ≤ B := hB
      rw [get, if_neg (by omega)]; exact w.top B hB'
    · rw [get] at hr
      split at hr
      · simp only [Option.some.injEq, AObj.arr.injEq] at hr
        subst hr
        simp only [Tr.get_set] at hj ⊢
        split at hj
        · omega
        · exact w.arr a.block r hobj j c hj
      · exact w.arr B r' hr j c hj
  have ldo : ∀ b : Addr, b.block ≠ a.block → ldCell { h with tick := h.tick + 1, objs := h.objs.set a.block (.arr { r with cells := r.cells.set (a.off + i) ⟨v, e⟩ }) } b = ldCell h b := by
    intro b hb
    rw [ldCell_eq, ldCell_eq, get, if_neg hb]
  refine ⟨_, by unfold st1 stCells; rw [hc]; rfl, wf', ⟨⟨by simpa using hll, hs.rd.nil, fun b hb j u hj => ?_, hs.rd.cap⟩, ?_⟩, fun h0 hx hf => ?_, fun s' l' hr hne => ?_⟩
  · rw [ha] at hb
    simp only [Option.some.injEq] at hb
    subst hb
    refine ⟨hlt, ?_⟩
    rw [ldCell_eq]
    show ldO ((Tr.set h.objs a.block _).get a.block) _ = some u
    rw [Tr.get_set, if_pos rfl]
    simp only [ldO, add, hsp, Tr.get_set]
    rw [List.getElem?_set] at hj
    by_cases hij : i = j
    · subst hij
      rw [if_pos rfl] at hj
      rw [if_pos hi] at hj
      rw [if_pos rfl]
      have : e.ble e = true := by simp
      simp only [this, cond_true]
      exact hj
    · rw [if_neg hij] at hj
      rw [if_neg (by omega)]
      have := (hs.rd.ld a ha j u hj).2
      rw [ldCell_eq] at this
      simp only [ldO, add, hobj, hsp] at this
      exact this
  · refine .inr ⟨a, { r with cells := r.cells.set (a.off + i) ⟨v, e⟩ }, e, ha, ?_, hsp, hver, hnro, hoff, hcap⟩
    show (Tr.set _ _ _).get _ = _
    rw [Tr.get_set, if_pos rfl]
  · have hb := hf a ha
    exact ⟨hx.size, hx.nro, wf', fun B hB => by rw [get, if_neg (by omega)]; exact hx.same B hB⟩
  · refine ⟨hr.len, hr.nil, fun b hb j u hj => ?_, hr.cap⟩
    obtain ⟨g1, g2⟩ := hr.ld b hb j u hj
    refine ⟨g1, ?_⟩
    exact (ldo (add b j) (hne b hb)).trans g2
theorem st1_bufB {h : H} {s : Sl} {l : List UInt8} {i : Nat} {v : UInt8} {a : Addr} (hs : BufB h s l) (ha : s.base = some a) (hi : i < l.length) (w : WF h) :
    ∃ h', st1 h (add a i) (.int .u8 (v.toNat : Int)) = some h' ∧ WF h' ∧ BufB h' s (l.set i v) ∧ (∀ h0, EX h0 h → Fr h0.size s → EX h0 h') := by
  obtain ⟨h', a1, a0, a2, a3, _⟩ := st1_buf (h0 := h) (v := .int .u8 (v.toNat : Int)) hs ha (by simpa [vB] using hi) rfl w
  refine ⟨h', a1, a0, ?_, a3⟩
  unfold BufB
  have : vB (l.set i v) = (vB l).set i (.int .u8 (v.toNat : Int)) := by simp [vB, List.map_set]
  rw [this]; exact a2
/-- a new row -/
theorem bufI_new {h : H} (w : WF h) (e : TypeId) (k : IntKind) (zs : List Int) (hz : zs.length < B63) : Buf 1 (newAt (grow h 1) h.size (row e (zs.map (.int k)))) ⟨some ⟨h.size, 0, some 0⟩, zs.length, zs.length⟩ (zs.map (.int k)) :=
  buf_new w e 1 _ _ _ (by simp) (by unfold CapOK; rw [capK_exact hz]; exact Nat.le_refl _) (by rw [capK_exact hz])
theorem bufB_new {h : H} (w : WF h) (e : TypeId) (l : List UInt8) (hz : l.length < B63) : BufB (newAt (grow h 1) h.size (row e (vB l))) ⟨some ⟨h.size, 0, some 0⟩, l.length, l.length⟩ l :=
  buf_new w e 1 _ _ _ (by simp [vB]) (by unfold CapOK; rw [capK_exact hz]; exact Nat.le_refl _) (by rw [capK_exact hz])
theorem eqLT_nil (s : Sl) (hs : s.base = none → s.len = 0 ∧ s.cap = 0) : eqLT s ⟨none, 0, 0⟩ = some s.base.isNone := by
  obtain ⟨b, l, c⟩ := s
  cases b with
  | none => rfl
  | some a => rfl
theorem fr_new (h : H) (n c : Nat) : Fr h.size ⟨some ⟨h.size, 0, some 0⟩, n, c⟩ := fun a ha => by
  simp only [Option.some.injEq] at ha; subst ha; exact Nat.le_refl _
theorem fr_nil (n : Nat) : Fr n ⟨none, 0, 0⟩ := fun a ha => by simp at ha
theorem Fr.mono {n m : Nat} {s : Sl} (h : Fr n s) (hm : m ≤ n) : Fr m s := fun a ha => Nat.le_trans hm (h a ha)
end Go.Abs
