/- Lemmas about the typed texts (joined: S4 S6 S7). -/
import Derived.Test.YthiccnmplgdheaaG1
/- Laws of memory for the typed texts: stores into buffers; new rows; counting loops. -/
set_option linter.unusedVariables false
set_option linter.unusedSimpArgs false
namespace Go.Abs
open Go
theorem RdI.mono {k : IntKind} {h h' : H} {s : Sl} {zs : List Int} (r : RdI k h s zs) (x : KP h h') : RdI k h' s zs := Rd.mono r x
theorem RdI.ex {k : IntKind} {h h' : H} {s : Sl} {zs : List Int} (x : EX h h') (r : RdI k h s zs) : RdI k h' s zs := Rd.ex x r
theorem newO_eq {α : Type} (ob : AObj) (h : H) (f : Nat → H → Option α) : newO ob h f = f h.size (newAt (grow h 1) h.size ob) := rfl
/-- a store into a buffer -/
theorem st1_buf {h h0 : H} {s : Sl} {l : List Value} {i : Nat} {v : Value} {a : Addr} (hs : Buf 1 h s l) (ha : s.base = some a) (hi : i < l.length) (ho : oneC v = true) (w : WF h) :
    ∃ h', st1 h (add a i) v = some h' ∧ WF h' ∧ Buf 1 h' s (l.set i v) ∧ (∀ h0, EX h0 h → Fr h0.size s → EX h0 h') ∧ (∀ s' l', Rd 1 h s' l' → (∀ a', s'.base = some a' → a'.block ≠ a.block) → Rd 1 h' s' l') := by
  rcases hs.tip with ht | ⟨a', r, e, ha', hobj, hsp, hver, hnro, hoff, hcap⟩
  · rw [ht] at ha; simp at ha
  rw [ha] at ha'
  simp only [Option.some.injEq] at ha'
  subst ha'
  have hll := hs.rd.len
  have hlt : a.block < h.size := by
    rcases Nat.lt_or_ge a.block h.size with x | x
    · exact x
    · rw [w.top _ x] at hobj; simp at hobj
  have hc : stCell h (add a i) v = some { h with tick := h.tick + 1, objs := h.objs.set a.block (.arr { r with cells := r.cells.set (a.off + i) ⟨v, e⟩ }) } := by
    unfold stCell
    simp only [add, hobj, hsp]
    have : (e.beq r.ver && h.nro.ble a.block && (a.off + i).blt r.size && oneC v) = true := by
      simp only [Bool.and_eq_true, nbeq_eq, Nat.ble_eq, Nat.blt_eq]
      exact ⟨⟨⟨hver.symm, hnro⟩, by omega⟩, ho⟩
    rw [this]; rfl
  have get : ∀ B, ({ h with tick := h.tick + 1, objs := h.objs.set a.block (.arr { r with cells := r.cells.set (a.off + i) ⟨v, e⟩ }) } : H).objs.get B = if B = a.block then some (.arr { r with cells := r.cells.set (a.off + i) ⟨v, e⟩ }) else h.objs.get B := fun B => Tr.get_set _ _ _ _
  have wf' : WF { h with tick := h.tick + 1, objs := h.objs.set a.block (.arr { r with cells := r.cells.set (a.off + i) ⟨v, e⟩ }) } := by
    refine ⟨w.nro, fun B hB => ?_, fun B r' hr j c hj => ?_⟩
    · have hB' : h.size ≤ B := hB
      rw [get, if_neg (by omega)]; exact w.top B hB'
    · rw [get] at hr
      split at hr
      · simp only [Option.some.injEq, AObj.arr.injEq] at hr
        subst hr
        simp only [Tr.get_set] at hj ⊢
        split at hj
        · omega
        · exact w.arr a.block r hobj j c hj
      · exact w.arr B r' hr j c hj
  have ldo : ∀ b : Addr, b.block ≠ a.block → ldCell { h with tick := h.tick + 1, objs := h.objs.set a.block (.arr { r with cells := r.cells.set (a.off + i) ⟨v, e⟩ }) } b = ldCell h b := by
    intro b hb
    rw [ldCell_eq, ldCell_eq, get, if_neg hb]
  refine ⟨_, by unfold st1 stCells; rw [hc]; rfl, wf', ⟨⟨by simpa using hll, hs.rd.nil, fun b hb j u hj => ?_, hs.rd.cap⟩, ?_⟩, fun h0 hx hf => ?_, fun s' l' hr hne => ?_⟩
  · rw [ha] at hb
    simp only [Option.some.injEq] at hb
    subst hb
    refine ⟨hlt, ?_⟩
    rw [ldCell_eq]
    show ldO ((Tr.set h.objs a.block _).get a.block) _ = some u
    rw [Tr.get_set, if_pos rfl]
    simp only [ldO, add, hsp, Tr.get_set]
    rw [List.getElem?_set] at hj
    by_cases hij : i = j
    · subst hij
      rw [if_pos rfl] at hj
      rw [if_pos hi] at hj
      rw [if_pos rfl]
      have : e.ble e = true := by simp
      simp only [this, cond_true]
      exact hj
    · rw [if_neg hij] at hj
      rw [if_neg (by omega)]
      have := (hs.rd.ld a ha j u hj).2
      rw [ldCell_eq] at this
      simp only [ldO, add, hobj, hsp] at this
      exact this
  · refine .inr ⟨a, { r with cells := r.cells.set (a.off + i) ⟨v, e⟩ }, e, ha, ?_, hsp, hver, hnro, hoff, hcap⟩
    show (Tr.set _ _ _).get _ = _
    rw [Tr.get_set, if_pos rfl]
  · have hb := hf a ha
    exact ⟨hx.size, hx.nro, wf', fun B hB => by rw [get, if_neg (by omega)]; exact hx.same B hB, hx.st⟩
  · refine ⟨hr.len, hr.nil, fun b hb j u hj => ?_, hr.cap⟩
    obtain ⟨g1, g2⟩ := hr.ld b hb j u hj
    refine ⟨g1, ?_⟩
    exact (ldo (add b j) (hne b hb)).trans g2
theorem st1_bufB {h : H} {s : Sl} {l : List UInt8} {i : Nat} {v : UInt8} {a : Addr} (hs : BufB h s l) (ha : s.base = some a) (hi : i < l.length) (w : WF h) :
    ∃ h', st1 h (add a i) (.int .u8 (v.toNat : Int)) = some h' ∧ WF h' ∧ BufB h' s (l.set i v) ∧ (∀ h0, EX h0 h → Fr h0.size s → EX h0 h') := by
  obtain ⟨h', a1, a0, a2, a3, _⟩ := st1_buf (h0 := h) (v := .int .u8 (v.toNat : Int)) hs ha (by simpa [vB] using hi) rfl w
  refine ⟨h', a1, a0, ?_, a3⟩
  unfold BufB
  have : vB (l.set i v) = (vB l).set i (.int .u8 (v.toNat : Int)) := by simp [vB, List.map_set]
  rw [this]; exact a2
/-- a new row -/
theorem bufI_new {h : H} (w : WF h) (e : TypeId) (k : IntKind) (zs : List Int) (hz : zs.length < B63) : Buf 1 (newAt (grow h 1) h.size (row e (zs.map (.int k)))) ⟨some ⟨h.size, 0, some 0⟩, zs.length, zs.length⟩ (zs.map (.int k)) :=
  buf_new w e 1 _ _ _ (by simp) (by unfold CapOK; rw [capK_exact hz]; exact Nat.le_refl _) (by rw [capK_exact hz])
theorem bufB_new {h : H} (w : WF h) (e : TypeId) (l : List UInt8) (hz : l.length < B63) : BufB (newAt (grow h 1) h.size (row e (vB l))) ⟨some ⟨h.size, 0, some 0⟩, l.length, l.length⟩ l :=
  buf_new w e 1 _ _ _ (by simp [vB]) (by unfold CapOK; rw [capK_exact hz]; exact Nat.le_refl _) (by rw [capK_exact hz])
theorem eqLT_nil (s : Sl) (hs : s.base = none → s.len = 0 ∧ s.cap = 0) : eqLT s ⟨none, 0, 0⟩ = some s.base.isNone := by
  obtain ⟨b, l, c⟩ := s
  cases b with
  | none => rfl
  | some a => rfl
theorem fr_new (h : H) (n c : Nat) : Fr h.size ⟨some ⟨h.size, 0, some 0⟩, n, c⟩ := fun a ha => by
  simp only [Option.some.injEq] at ha; subst ha; exact Nat.le_refl _
theorem fr_nil (n : Nat) : Fr n ⟨none, 0, 0⟩ := fun a ha => by simp at ha
theorem Fr.mono {n m : Nat} {s : Sl} (h : Fr n s) (hm : m ≤ n) : Fr m s := fun a ha => Nat.le_trans hm (h a ha)
end Go.Abs
/- Laws of memory for the typed texts: rows that are laid at reserved blocks (regions of open order). -/
set_option linter.unusedVariables false
set_option linter.unusedSimpArgs false
namespace Go.Abs
open Go
theorem ex_grow {h : H} (w : WF h) (k : Nat) : EX h (grow h k) :=
  ⟨Nat.le_add_right _ _, rfl, ⟨Nat.le_trans w.nro (Nat.le_add_right _ _), fun A hA => w.top A (Nat.le_trans (Nat.le_add_right _ _) hA), w.arr⟩, fun _ _ => rfl, rfl⟩
theorem ex_growIf {h : H} (w : WF h) (k : Nat) : EX h (growIf h k) := by rw [growIf_eq]; exact ex_grow w k
theorem growIf_size (h : H) (k : Nat) : (growIf h k).size = h.size + k := by rw [growIf_eq]; rfl
theorem ex_tick {h : H} (w : WF h) (k : Nat) : EX h (tickIf k h) := by
  unfold tickIf
  cases k.beq 0
  · exact ⟨Nat.le_refl _, rfl, ⟨w.nro, w.top, w.arr⟩, fun _ _ => rfl, rfl⟩
  · exact EX.refl w
theorem addP_nil (mask n0 : Nat) (h : H) : addP mask n0 [] h = h := rfl
theorem addP_off {mask n0 i : Nat} {ob : AObj} {l : List (Nat × AObj)} {h : H} (hm : mask.testBit i = false) : addP mask n0 ((i, ob) :: l) h = addP mask n0 l h := by
  show (bif mask.testBit i then _ else _) = _
  rw [hm]; rfl
theorem addP_new {mask n0 i : Nat} {ob : AObj} {l : List (Nat × AObj)} {h : H} (hm : mask.testBit i = true) (hn : h.objs.get (n0 + i) = none) : addP mask n0 ((i, ob) :: l) h = addP mask n0 l (newAt h (n0 + i) ob) := by
  show (bif mask.testBit i then (match h.objs.get (n0 + i) with | none => _ | some _ => _) else _) = _
  rw [hm, hn]; rfl
theorem addP_old {mask n0 i : Nat} {ob : AObj} {l : List (Nat × AObj)} {h : H} (hm : mask.testBit i = true) (hn : h.objs.get (n0 + i) ≠ none) : addP mask n0 ((i, ob) :: l) h = addP mask n0 l h := by
  show (bif mask.testBit i then (match h.objs.get (n0 + i) with | none => _ | some _ => _) else _) = _
  rw [hm]
  cases hg : h.objs.get (n0 + i) with
  | none => exact absurd hg hn
  | some o => rfl
theorem newAt_get (h : H) (B : Nat) (ob : AObj) (A : Nat) : (newAt h B ob).objs.get A = if A = B then some ob else h.objs.get A := Tr.get_set _ _ _ _
/-- a row laid at a block that is reserved -/
theorem wf_at {h : H} (w : WF h) {B : Nat} (hB : B < h.size) (e : TypeId) (l : List Value) : WF (newAt h B (row e l)) := by
  refine ⟨w.nro, fun A hA => ?_, fun A r hr i c hc => ?_⟩
  · have hA' : h.size ≤ A := hA
    rw [newAt_get, if_neg (by omega)]; exact w.top A hA'
  · rw [newAt_get] at hr
    split at hr
    · simp only [row, Option.some.injEq, AObj.arr.injEq] at hr
      subst hr
      simp only [get_ofL] at hc
      cases hl : l[i]? with
      | none => rw [hl] at hc; simp at hc
      | some v => exact (List.getElem?_eq_some_iff.1 hl).1
    · exact w.arr A r hr i c hc
theorem ex_at {h0 h : H} (w : WF h) (x : EX h0 h) {B : Nat} (h0B : h0.size ≤ B) (hB : B < h.size) (e : TypeId) (l : List Value) : EX h0 (newAt h B (row e l)) :=
  ⟨x.size, x.nro, wf_at w hB e l, fun A hA => by rw [newAt_get, if_neg (by omega)]; exact x.same A hA, x.st⟩
theorem rd_at {sz : Nat} {h : H} {B : Nat} (hn : h.objs.get B = none) (e : TypeId) (l : List Value) {s : Sl} {m : List Value} (r : Rd sz h s m) : Rd sz (newAt h B (row e l)) s m := by
  refine ⟨r.len, r.nil, fun a ha i v hi => ?_, r.cap⟩
  obtain ⟨h1, h2⟩ := r.ld a ha i v hi
  refine ⟨h1, ?_⟩
  rw [ldCell_eq] at h2 ⊢
  rw [newAt_get]
  split
  · rename_i e'; rw [e', hn] at h2; simp [ldO] at h2
  · exact h2
theorem buf_at {sz : Nat} {h : H} {B : Nat} (hn : h.objs.get B = none) (e : TypeId) (l : List Value) {s : Sl} {m : List Value} (r : Buf sz h s m) : Buf sz (newAt h B (row e l)) s m := by
  refine ⟨rd_at hn e l r.rd, ?_⟩
  rcases r.tip with ht | ⟨a, q, e', h1, h2, h3, h4, h5, h6, h7⟩
  · exact .inl ht
  · refine .inr ⟨a, q, e', h1, ?_, h3, h4, h5, h6, h7⟩
    rw [newAt_get, if_neg (by intro e; rw [e, hn] at h2; simp at h2)]; exact h2
theorem buf_row_at {h : H} {B : Nat} (hnro : h.nro ≤ B) (hB : B < h.size) (e : TypeId) (k : IntKind) (zs : List Int) (hz : zs.length < B63) : Buf 1 (newAt h B (row e (zs.map (.int k)))) ⟨some ⟨B, 0, some 0⟩, zs.length, zs.length⟩ (zs.map (.int k)) := by
  refine ⟨⟨by simp, fun h => by simp at h, fun a ha i v hi => ?_, fun _ => by unfold CapOK; rw [capK_exact hz]; exact Nat.le_refl _⟩, .inr ⟨_, ⟨e, (zs.map (Value.int k)).length, 0, ofL (zs.map (.int k))⟩, 0, rfl, ?_, rfl, rfl, hnro, by simp, by simp only [capK_exact hz]⟩⟩
  · simp only [Option.some.injEq] at ha
    subst ha
    refine ⟨hB, ?_⟩
    rw [ldCell_eq]
    show ldO ((newAt h B (row e (zs.map (Value.int k)))).objs.get B) _ = _
    rw [newAt_get, if_pos rfl]
    simp only [row, ldO, add, get_ofL, Nat.zero_add, hi, Option.map_some]
    rfl
  · rw [newAt_get, if_pos rfl]; rfl
theorem fr_at (B n : Nat) {m : Nat} (h : m ≤ B) (c : Nat) : Fr m ⟨some ⟨B, 0, some 0⟩, n, c⟩ := fun a ha => by
  simp only [Option.some.injEq] at ha; subst ha; exact h
end Go.Abs
/- Laws of memory for the typed texts: buffers with room behind them. -/
set_option linter.unusedVariables false
set_option linter.unusedSimpArgs false
namespace Go.Abs
open Go
/-- what may be written, and appended to while there is room -/
structure BufW (sz : Nat) (h : H) (s : Sl) (l : List Value) (room : Nat) : Prop where
  rd : Rd sz h s l
  tip : ∃ a r e, s.base = some a ∧ h.objs.get a.block = some (.arr r) ∧ a.spot = some e ∧ r.ver = e ∧ h.nro ≤ a.block ∧ a.off + (s.len + room) * sz ≤ r.size ∧ capK s.cap = .unk sz
theorem stCell_st {h h' : H} {a : Addr} {v : Value} (e : stCell h a v = some h') : h'.st = h.st := by
  unfold stCell at e
  split at e
  · rename_i r ev _ _
    cases hb : (ev.beq r.ver && h.nro.ble a.block && a.off.blt r.size && oneC v) <;> rw [hb] at e
    · simp at e
    · cases e; rfl
  · simp at e
theorem stCells_st : ∀ (vs : List Value) {h h' : H} {a : Addr}, stCells h a vs = some h' → h'.st = h.st
  | [], h, h', a, e => by cases e; rfl
  | v :: vs, h, h', a, e => by
    unfold stCells at e
    split at e
    · rename_i h1 e1; exact (stCells_st vs e).trans (stCell_st e1)
    · simp at e
theorem stCells_ok : ∀ (vs : List Value) (h : H) (a : Addr) (r : Arr) (e : Nat), WF h → h.objs.get a.block = some (.arr r) → a.spot = some e → r.ver = e → h.nro ≤ a.block → a.off + vs.length ≤ r.size → vs.all oneC = true →
    ∃ h' r', stCells h a vs = some h' ∧ h'.objs.get a.block = some (.arr r') ∧ r'.ver = e ∧ r'.size = r.size ∧ h'.size = h.size ∧ h'.nro = h.nro ∧ WF h' ∧ (∀ B, B ≠ a.block → h'.objs.get B = h.objs.get B) ∧
      ∀ i, r'.cells.get i = if a.off ≤ i ∧ i < a.off + vs.length then (vs[i - a.off]?).map (⟨·, e⟩) else r.cells.get i
  | [], h, a, r, e, w, ho, hs, hv, hn, hl, hc => ⟨h, r, rfl, ho, hv, rfl, rfl, rfl, w, fun _ _ => rfl, fun i => by
      rw [if_neg]; simp⟩
  | v :: vs, h, a, r, e, w, ho, hs, hv, hn, hl, hc => by
    simp only [List.all_cons, Bool.and_eq_true] at hc
    simp only [List.length_cons] at hl
    have hlt : a.block < h.size := by
      rcases Nat.lt_or_ge a.block h.size with x | x
      · exact x
      · rw [w.top _ x] at ho; simp at ho
    have h1 : stCell h a v = some { h with tick := h.tick + 1, objs := h.objs.set a.block (.arr { r with cells := r.cells.set a.off ⟨v, e⟩ }) } := by
      unfold stCell
      rw [ho, hs]
      have : (e.beq r.ver && h.nro.ble a.block && a.off.blt r.size && oneC v) = true := by
        simp only [Bool.and_eq_true, nbeq_eq, Nat.ble_eq, Nat.blt_eq]
        exact ⟨⟨⟨hv.symm, hn⟩, by omega⟩, hc.1⟩
      simp only [this, cond_true]
    have get : ∀ B, ({ h with tick := h.tick + 1, objs := h.objs.set a.block (.arr { r with cells := r.cells.set a.off ⟨v, e⟩ }) } : H).objs.get B = if B = a.block then some (.arr { r with cells := r.cells.set a.off ⟨v, e⟩ }) else h.objs.get B := fun B => Tr.get_set _ _ _ _
    have w1 : WF { h with tick := h.tick + 1, objs := h.objs.set a.block (.arr { r with cells := r.cells.set a.off ⟨v, e⟩ }) } := by
      refine ⟨w.nro, fun B hB => ?_, fun B r' hr j c hj => ?_⟩
      · have hB' : h.size ≤ B := hB
        rw [get, if_neg (by omega)]; exact w.top B hB'
      · rw [get] at hr
        split at hr
        · simp only [Option.some.injEq, AObj.arr.injEq] at hr
          subst hr
          simp only [Tr.get_set] at hj ⊢
          split at hj
          · omega
          · exact w.arr a.block r ho j c hj
        · exact w.arr B r' hr j c hj
    obtain ⟨h', r', e1, g1, g2, g3, g4, g5, g6, g7, g8⟩ := stCells_ok vs _ (add a 1) { r with cells := r.cells.set a.off ⟨v, e⟩ } e w1 (by show (Tr.set _ _ _).get _ = _; rw [Tr.get_set]; exact if_pos rfl) hs hv hn (by simp only [add]; omega) hc.2
    refine ⟨h', r', by unfold stCells; rw [h1]; exact e1, g1, g2, g3, g4, g5, g6, fun B hB => by rw [g7 B hB, get, if_neg hB], fun i => ?_⟩
    have g8' : r'.cells.get i = if a.off + 1 ≤ i ∧ i < a.off + 1 + vs.length then (vs[i - (a.off + 1)]?).map (⟨·, e⟩) else (r.cells.set a.off ⟨v, e⟩).get i := g8 i
    rw [g8', Tr.get_set]
    simp only [List.length_cons]
    by_cases hi : i = a.off
    · subst hi
      rw [if_neg (by omega), if_pos rfl, if_pos (by omega)]; simp
    · by_cases hr : a.off + 1 ≤ i ∧ i < a.off + 1 + vs.length
      · rw [if_pos hr, if_pos (by omega)]
        rw [show i - a.off = (i - (a.off + 1)) + 1 by omega]; simp
      · rw [if_neg hr, if_neg hi, if_neg (by omega)]
/-- append within the room -/
theorem appW_ok {e bytes : Nat} {h : H} {s x : Sl} {l m : List Value} {room : Nat} (w : WF h) (hs : BufW 1 h s l room) (hx : Rd 1 h x m) (ho : m.all oneC = true) (hr : x.len ≤ room) (hb : (s.len + x.len) * bytes ≤ 2 ^ 47) (hb2 : s.len + x.len ≤ 2 ^ 62) :
    ∃ s' h', appT e 1 bytes h s x = some (s', h') ∧ BufW 1 h' s' (l ++ m) (room - x.len) ∧ s'.base = s.base ∧ ∀ h0, EX h0 h → Fr h0.size s → EX h0 h' := by
  obtain ⟨rdl, a, r, ev, ha, hobj, hsp, hver, hnro, hoff, hcap⟩ := hs
  obtain ⟨b, len, cap⟩ := s
  simp only at ha hoff hcap
  subst ha
  have hll := rdl.len
  have hml := hx.len
  simp only at hll
  have hA : appA (DSE e (tyS 1 bytes .nilFunc)) h #[e + 1, e + 1] (encSl ⟨some a, len, cap⟩) (encSl x) = appR h e (tyS 1 bytes .nilFunc) (encSl ⟨some a, len, cap⟩) m x.len := by
    have hf := hx.first
    unfold appA
    rw [show (#[e + 1, e + 1] : Array TypeId)[0]? = some (e + 1) from rfl, show (#[e + 1, e + 1] : Array TypeId)[1]? = some (e + 1) from rfl]
    simp only [elem_DSE, DSE_s]
    unfold encSl at hf ⊢
    simp only [show (tyS 1 bytes .nilFunc).size = 1 from rfl, hf, ho, cond_true]
  by_cases hn : x.len = 0
  · have hm0 : m = [] := List.eq_nil_of_length_eq_zero (by omega)
    subst hm0
    refine ⟨⟨some a, len, cap⟩, h, ?_, ⟨by simpa using rdl, a, r, ev, rfl, hobj, hsp, hver, hnro, by simp only; omega, hcap⟩, rfl, fun _ x _ => x⟩
    unfold appT
    rw [hA]
    unfold appR encSl
    simp only [hn, show Nat.beq 0 0 = true from rfl, cond_true]
    rfl
  · have hlt : a.block < h.size := by
      rcases Nat.lt_or_ge a.block h.size with y | y
      · exact y
      · rw [w.top _ y] at hobj; simp at hobj
    obtain ⟨h', r', e1, g1, g2, g3, g4, g5, g6, g7, g8⟩ := stCells_ok m h (add a len) r ev w hobj hsp hver hnro (by simp only [add]; omega) ho
    have hbb : (((len + x.len) * (tyS 1 bytes .nilFunc).bytes).ble (2 ^ 47) && (len + x.len).ble (2 ^ 62)) = true := by
      simp only [Bool.and_eq_true, Nat.ble_eq]; exact ⟨hb, hb2⟩
    have c1 : (ev.beq r.ver && h.nro.ble a.block && (a.off + len * 1).ble r.size && Nat.blt 0 1) = true := by
      simp only [Bool.and_eq_true, nbeq_eq, Nat.ble_eq, Nat.blt_eq]
      exact ⟨⟨⟨hver.symm, hnro⟩, by omega⟩, by omega⟩
    have c2 : (a.off + (len + x.len) * 1).ble r.size = true := by simp only [Nat.ble_eq]; omega
    have hR : appR h e (tyS 1 bytes .nilFunc) (encSl ⟨some a, len, cap⟩) m x.len = some (.val (.slice (some a) (len + x.len) cap) h') := by
      unfold appR encSl
      simp only [nbeq_f hn, cond_false, hbb, Bool.not_true, hcap, show (tyS 1 bytes .nilFunc).size = 1 from rfl, show Nat.beq 1 1 = true from rfl, cond_true, hobj, hsp, c1, c2]
      rw [Nat.mul_one, e1]; rfl
    refine ⟨⟨some a, len + x.len, cap⟩, h', ?_, ⟨⟨by simp; omega, fun y => by simp at y, fun p hp i v hi => ?_, fun _ => by unfold CapOK; rw [hcap]⟩, a, r', ev, rfl, g1, hsp, g2, by rw [g5]; exact hnro, by simp only [g3]; omega, hcap⟩, rfl, fun h0 x0 hf => ?_⟩
    · unfold appT; rw [hA, hR]; rfl
    · simp only [Option.some.injEq] at hp
      subst hp
      refine ⟨by rw [g4]; exact hlt, ?_⟩
      rw [ldCell_eq]
      show ldO (h'.objs.get a.block) _ = some v
      rw [show h'.objs.get a.block = some (.arr r') from g1]
      have g8' : ∀ j, r'.cells.get j = if a.off + len ≤ j ∧ j < a.off + len + m.length then (m[j - (a.off + len)]?).map (⟨·, ev⟩) else r.cells.get j := g8
      simp only [ldO, add, hsp]
      rw [g8']
      by_cases hi2 : i < l.length
      · rw [List.getElem?_append_left hi2] at hi
        have hl := (rdl.ld a rfl i v hi).2
        rw [ldCell_eq] at hl
        simp only [add, hobj, ldO, hsp] at hl
        rw [if_neg (by omega)]
        exact hl
      · have hi3 := (List.getElem?_eq_some_iff.1 hi).1
        simp at hi3
        rw [List.getElem?_append_right (by omega)] at hi
        rw [if_pos (by omega), show a.off + i - (a.off + len) = i - l.length by omega, hi]
        simp only [Option.map_some]
        have : ev.ble ev = true := by simp
        rw [this]; rfl
    · have hfa := hf a rfl
      exact ⟨by rw [g4]; exact x0.size, g5.trans x0.nro, g6, fun B hB => by rw [g7 B (by simp only [add]; omega)]; exact x0.same B hB, (stCells_st _ e1).trans x0.st⟩
/-- a store -/
theorem st1_w {h : H} {s : Sl} {l : List Value} {i room : Nat} {v : Value} {a : Addr} (hs : BufW 1 h s l room) (ha : s.base = some a) (hi : i < l.length) (ho : oneC v = true) (w : WF h) :
    ∃ h', st1 h (add a i) v = some h' ∧ WF h' ∧ BufW 1 h' s (l.set i v) room ∧ (∀ h0, EX h0 h → Fr h0.size s → EX h0 h') := by
  obtain ⟨rdl, a', r, e, ha', hobj, hsp, hver, hnro, hoff, hcap⟩ := hs
  rw [ha] at ha'
  simp only [Option.some.injEq] at ha'
  subst ha'
  have hll := rdl.len
  have hlt : a.block < h.size := by
    rcases Nat.lt_or_ge a.block h.size with y | y
    · exact y
    · rw [w.top _ y] at hobj; simp at hobj
  obtain ⟨h', r', e1, g1, g2, g3, g4, g5, g6, g7, g8⟩ := stCells_ok [v] h (add a i) r e w hobj hsp hver hnro (by simp only [add, List.length_cons, List.length_nil]; omega) (by simpa using ho)
  refine ⟨h', e1, g6, ⟨⟨by simpa using hll, rdl.nil, fun p hp j u hj => ?_, rdl.cap⟩, a, r', e, ha, g1, hsp, g2, by rw [g5]; exact hnro, by rw [g3]; exact hoff, hcap⟩, fun h0 x0 hf => ?_⟩
  · rw [ha] at hp
    simp only [Option.some.injEq] at hp
    subst hp
    refine ⟨by rw [g4]; exact hlt, ?_⟩
    rw [ldCell_eq]
    show ldO (h'.objs.get a.block) _ = some u
    rw [show h'.objs.get a.block = some (.arr r') from g1]
    have g8' : ∀ j, r'.cells.get j = if a.off + i ≤ j ∧ j < a.off + i + 1 then (([v] : List Value)[j - (a.off + i)]?).map (⟨·, e⟩) else r.cells.get j := g8
    simp only [ldO, add, hsp]
    rw [g8']
    rw [List.getElem?_set] at hj
    by_cases hij : i = j
    · subst hij
      rw [if_pos rfl, if_pos hi] at hj
      rw [if_pos (by omega)]
      simp only [Nat.sub_self, List.getElem?_cons_zero, Option.map_some]
      have : e.ble e = true := by simp
      rw [this]; exact hj
    · rw [if_neg hij] at hj
      rw [if_neg (by omega)]
      have := (rdl.ld a ha j u hj).2
      rw [ldCell_eq] at this
      simp only [ldO, add, hobj, hsp] at this
      exact this
  · have hfa := hf a ha
    exact ⟨by rw [g4]; exact x0.size, g5.trans x0.nro, g6, fun B hB => by rw [g7 B (by simp only [add]; omega)]; exact x0.same B hB, (stCells_st _ e1).trans x0.st⟩
end Go.Abs
