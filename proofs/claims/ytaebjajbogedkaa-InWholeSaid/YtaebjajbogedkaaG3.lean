/- Lemmas about the typed texts (joined: S7 S9 S10). -/
import Derived.Test.YtaebjajbogedkaaG2
/- Laws of memory for the typed texts: buffers with room behind them. -/
set_option linter.unusedVariables false
set_option linter.unusedSimpArgs false
namespace Go.Abs
open Go
/-- what may be written, and appended to while there is room -/
structure BufW (sz : Nat) (h : H) (s : Sl) (l : List Value) (room : Nat) : Prop where
  rd : Rd sz h s l
  tip : ∃ a r e, s.base = some a ∧ h.objs.get a.block = some (.arr r) ∧ a.spot = some e ∧ r.ver = e ∧ h.nro ≤ a.block ∧ a.off + (s.len + room) * sz ≤ r.size ∧ capK s.cap = .unk sz
theorem stCell_st {h h' : H} {a : Addr} {v : Value} (e : stCell h a v = some h') : h'.st = h.st := by
  unfold stCell at e
  split at e
  · rename_i r ev _ _
    cases hb : (ev.beq r.ver && h.nro.ble a.block && a.off.blt r.size && oneC v) <;> rw [hb] at e
    · simp at e
    · cases e; rfl
  · simp at e
theorem stCells_st : ∀ (vs : List Value) {h h' : H} {a : Addr}, stCells h a vs = some h' → h'.st = h.st
  | [], h, h', a, e => by cases e; rfl
  | v :: vs, h, h', a, e => by
    unfold stCells at e
    split at e
    · rename_i h1 e1; exact (stCells_st vs e).trans (stCell_st e1)
    · simp at e
theorem stCells_ok : ∀ (vs : List Value) (h : H) (a : Addr) (r : Arr) (e : Nat), WF h → h.objs.get a.block = some (.arr r) → a.spot = some e → r.ver = e → h.nro ≤ a.block → a.off + vs.length ≤ r.size → vs.all oneC = true →
    ∃ h' r', stCells h a vs = some h' ∧ h'.objs.get a.block = some (.arr r') ∧ r'.ver = e ∧ r'.size = r.size ∧ h'.size = h.size ∧ h'.nro = h.nro ∧ WF h' ∧ (∀ B, B ≠ a.block → h'.objs.get B = h.objs.get B) ∧
      ∀ i, r'.cells.get i = if a.off ≤ i ∧ i < a.off + vs.length then (vs[i - a.off]?).map (⟨·, e⟩) else r.cells.get i
  | [], h, a, r, e, w, ho, hs, hv, hn, hl, hc => ⟨h, r, rfl, ho, hv, rfl, rfl, rfl, w, fun _ _ => rfl, fun i => by
      rw [if_neg]; simp⟩
  | v :: vs, h, a, r, e, w, ho, hs, hv, hn, hl, hc => by
    simp only [List.all_cons, Bool.and_eq_true] at hc
    simp only [List.length_cons] at hl
    have hlt : a.block < h.size := by
      rcases Nat.lt_or_ge a.block h.size with x | x
      · exact x
      · rw [w.top _ x] at ho; simp at ho
    have h1 : stCell h a v = some { h with tick := h.tick + 1, objs := h.objs.set a.block (.arr { r with cells := r.cells.set a.off ⟨v, e⟩ }) } := by
      unfold stCell
      rw [ho, hs]
      have : (e.beq r.ver && h.nro.ble a.block && a.off.blt r.size && oneC v) = true := by
        simp only [Bool.and_eq_true, nbeq_eq, Nat.ble_eq, Nat.blt_eq]
        exact ⟨⟨⟨hv.symm, hn⟩, by omega⟩, hc.1⟩
      simp only [this, cond_true]
    have get : ∀ B, ({ h with tick := h.tick + 1, objs := h.objs.set a.block (.arr { r with cells := r.cells.set a.off ⟨v, e⟩ }) } : H).objs.get B = if B = a.block then some (.arr { r with cells := r.cells.set a.off ⟨v, e⟩ }) else h.objs.get B := fun B => Tr.get_set _ _ _ _
    have w1 : WF { h with tick := h.tick + 1, objs := h.objs.set a.block (.arr { r with cells := r.cells.set a.off ⟨v, e⟩ }) } := by
      refine ⟨w.nro, fun B hB => ?_, fun B r' hr j c hj => ?_⟩
      · have hB' : h.size ≤ B := hB
        rw [get, if_neg (by omega)]; exact w.top B hB'
      · rw [get] at hr
        split at hr
        · simp only [Option.some.injEq, AObj.arr.injEq] at hr
          subst hr
          simp only [Tr.get_set] at hj ⊢
          split at hj
          · omega
          · exact w.arr a.block r ho j c hj
        · exact w.arr B r' hr j c hj
    obtain ⟨h', r', e1, g1, g2, g3, g4, g5, g6, g7, g8⟩ := stCells_ok vs _ (add a 1) { r with cells := r.cells.set a.off ⟨v, e⟩ } e w1 (by show (Tr.set _ _ _).get _ = _; rw [Tr.get_set]; exact if_pos rfl) hs hv hn (by simp only [add]; omega) hc.2
    refine ⟨h', r', by unfold stCells; rw [h1]; exact e1, g1, g2, g3, g4, g5, g6, fun B hB => by rw [g7 B hB, get, if_neg hB], fun i => ?_⟩
    have g8' : r'.cells.get i = if a.off + 1 ≤ i ∧ i < a.off + 1 + vs.length then (vs[i - (a.off + 1)]?).map (⟨·, e⟩) else (r.cells.set a.off ⟨v, e⟩).get i := g8 i
    rw [g8', Tr.get_set]
    simp only [List.length_cons]
    by_cases hi : i = a.off
    · subst hi
      rw [if_neg (by omega), if_pos rfl, if_pos (by omega)]; simp
    · by_cases hr : a.off + 1 ≤ i ∧ i < a.off + 1 + vs.length
      · rw [if_pos hr, if_pos (by omega)]
        rw [show i - a.off = (i - (a.off + 1)) + 1 by omega]; simp
      · rw [if_neg hr, if_neg hi, if_neg (by omega)]
/-- append within the room -/
theorem appW_ok {e bytes : Nat} {h : H} {s x : Sl} {l m : List Value} {room : Nat} (w : WF h) (hs : BufW 1 h s l room) (hx : Rd 1 h x m) (ho : m.all oneC = true) (hr : x.len ≤ room) (hb : (s.len + x.len) * bytes ≤ 2 ^ 47) (hb2 : s.len + x.len ≤ 2 ^ 62) :
    ∃ s' h', appT e 1 bytes h s x = some (s', h') ∧ BufW 1 h' s' (l ++ m) (room - x.len) ∧ s'.base = s.base ∧ ∀ h0, EX h0 h → Fr h0.size s → EX h0 h' := by
  obtain ⟨rdl, a, r, ev, ha, hobj, hsp, hver, hnro, hoff, hcap⟩ := hs
  obtain ⟨b, len, cap⟩ := s
  simp only at ha hoff hcap
  subst ha
  have hll := rdl.len
  have hml := hx.len
  simp only at hll
  have hA : appA (DSE e (tyS 1 bytes .nilFunc)) h #[e + 1, e + 1] (encSl ⟨some a, len, cap⟩) (encSl x) = appR h e (tyS 1 bytes .nilFunc) (encSl ⟨some a, len, cap⟩) m x.len := by
    have hf := hx.first
    unfold appA
    rw [show (#[e + 1, e + 1] : Array TypeId)[0]? = some (e + 1) from rfl, show (#[e + 1, e + 1] : Array TypeId)[1]? = some (e + 1) from rfl]
    simp only [elem_DSE, DSE_s]
    unfold encSl at hf ⊢
    simp only [show (tyS 1 bytes .nilFunc).size = 1 from rfl, hf, ho, cond_true]
  by_cases hn : x.len = 0
  · have hm0 : m = [] := List.eq_nil_of_length_eq_zero (by omega)
    subst hm0
    refine ⟨⟨some a, len, cap⟩, h, ?_, ⟨by simpa using rdl, a, r, ev, rfl, hobj, hsp, hver, hnro, by simp only; omega, hcap⟩, rfl, fun _ x _ => x⟩
    unfold appT
    rw [hA]
    unfold appR encSl
    simp only [hn, show Nat.beq 0 0 = true from rfl, cond_true]
    rfl
  · have hlt : a.block < h.size := by
      rcases Nat.lt_or_ge a.block h.size with y | y
      · exact y
      · rw [w.top _ y] at hobj; simp at hobj
    obtain ⟨h', r', e1, g1, g2, g3, g4, g5, g6, g7, g8⟩ := stCells_ok m h (add a len) r ev w hobj hsp hver hnro (by simp only [add]; omega) ho
    have hbb : (((len + x.len) * (tyS 1 bytes .nilFunc).bytes).ble (2 ^ 47) && (len + x.len).ble (2 ^ 62)) = true := by
      simp only [Bool.and_eq_true, Nat.ble_eq]; exact ⟨hb, hb2⟩
    have c1 : (ev.beq r.ver && h.nro.ble a.block && (a.off + len * 1).ble r.size && Nat.blt 0 1) = true := by
      simp only [Bool.and_eq_true, nbeq_eq, Nat.ble_eq, Nat.blt_eq]
      exact ⟨⟨⟨hver.symm, hnro⟩, by omega⟩, by omega⟩
    have c2 : (a.off + (len + x.len) * 1).ble r.size = true := by simp only [Nat.ble_eq]; omega
    have hR : appR h e (tyS 1 bytes .nilFunc) (encSl ⟨some a, len, cap⟩) m x.len = some (.val (.slice (some a) (len + x.len) cap) h') := by
      unfold appR encSl
      simp only [nbeq_f hn, cond_false, hbb, Bool.not_true, hcap, show (tyS 1 bytes .nilFunc).size = 1 from rfl, show Nat.beq 1 1 = true from rfl, cond_true, hobj, hsp, c1, c2]
      rw [Nat.mul_one, e1]; rfl
    refine ⟨⟨some a, len + x.len, cap⟩, h', ?_, ⟨⟨by simp; omega, fun y => by simp at y, fun p hp i v hi => ?_, fun _ => by unfold CapOK; rw [hcap]⟩, a, r', ev, rfl, g1, hsp, g2, by rw [g5]; exact hnro, by simp only [g3]; omega, hcap⟩, rfl, fun h0 x0 hf => ?_⟩
    · unfold appT; rw [hA, hR]; rfl
    · simp only [Option.some.injEq] at hp
      subst hp
      refine ⟨by rw [g4]; exact hlt, ?_⟩
      rw [ldCell_eq]
      show ldO (h'.objs.get a.block) _ = some v
      rw [show h'.objs.get a.block = some (.arr r') from g1]
      have g8' : ∀ j, r'.cells.get j = if a.off + len ≤ j ∧ j < a.off + len + m.length then (m[j - (a.off + len)]?).map (⟨·, ev⟩) else r.cells.get j := g8
      simp only [ldO, add, hsp]
      rw [g8']
      by_cases hi2 : i < l.length
      · rw [List.getElem?_append_left hi2] at hi
        have hl := (rdl.ld a rfl i v hi).2
        rw [ldCell_eq] at hl
        simp only [add, hobj, ldO, hsp] at hl
        rw [if_neg (by omega)]
        exact hl
      · have hi3 := (List.getElem?_eq_some_iff.1 hi).1
        simp at hi3
        rw [List.getElem?_append_right (by omega)] at hi
        rw [if_pos (by omega), show a.off + i - (a.off + len) = i - l.length by omega, hi]
        simp only [Option.map_some]
        have : ev.ble ev = true := by simp
        rw [this]; rfl
    · have hfa := hf a rfl
      exact ⟨by rw [g4]; exact x0.size, g5.trans x0.nro, g6, fun B hB => by rw [g7 B (by simp only [add]; omega)]; exact x0.same B hB, (stCells_st _ e1).trans x0.st⟩
/-- a store -/
theorem st1_w {h : H} {s : Sl} {l : List Value} {i room : Nat} {v : Value} {a : Addr} (hs : BufW 1 h s l room) (ha : s.base = some a) (hi : i < l.length) (ho : oneC v = true) (w : WF h) :
    ∃ h', st1 h (add a i) v = some h' ∧ WF h' ∧ BufW 1 h' s (l.set i v) room ∧ (∀ h0, EX h0 h → Fr h0.size s → EX h0 h') := by
  obtain ⟨rdl, a', r, e, ha', hobj, hsp, hver, hnro, hoff, hcap⟩ := hs
  rw [ha] at ha'
  simp only [Option.some.injEq] at ha'
  subst ha'
  have hll := rdl.len
  have hlt : a.block < h.size := by
    rcases Nat.lt_or_ge a.block h.size with y | y
    · exact y
    · rw [w.top _ y] at hobj; simp at hobj
  obtain ⟨h', r', e1, g1, g2, g3, g4, g5, g6, g7, g8⟩ := stCells_ok [v] h (add a i) r e w hobj hsp hver hnro (by simp only [add, List.length_cons, List.length_nil]; omega) (by simpa using ho)
  refine ⟨h', e1, g6, ⟨⟨by simpa using hll, rdl.nil, fun p hp j u hj => ?_, rdl.cap⟩, a, r', e, ha, g1, hsp, g2, by rw [g5]; exact hnro, by rw [g3]; exact hoff, hcap⟩, fun h0 x0 hf => ?_⟩
  · rw [ha] at hp
    simp only [Option.some.injEq] at hp
    subst hp
    refine ⟨by rw [g4]; exact hlt, ?_⟩
    rw [ldCell_eq]
    show ldO (h'.objs.get a.block) _ = some u
    rw [show h'.objs.get a.block = some (.arr r') from g1]
    have g8' : ∀ j, r'.cells.get j = if a.off + i ≤ j ∧ j < a.off + i + 1 then (([v] : List Value)[j - (a.off + i)]?).map (⟨·, e⟩) else r.cells.get j := g8
    simp only [ldO, add, hsp]
    rw [g8']
    rw [List.getElem?_set] at hj
    by_cases hij : i = j
    · subst hij
      rw [if_pos rfl, if_pos hi] at hj
      rw [if_pos (by omega)]
      simp only [Nat.sub_self, List.getElem?_cons_zero, Option.map_some]
      have : e.ble e = true := by simp
      rw [this]; exact hj
    · rw [if_neg hij] at hj
      rw [if_neg (by omega)]
      have := (rdl.ld a ha j u hj).2
      rw [ldCell_eq] at this
      simp only [ldO, add, hobj, hsp] at this
      exact this
  · have hfa := hf a ha
    exact ⟨by rw [g4]; exact x0.size, g5.trans x0.nro, g6, fun B hB => by rw [g7 B (by simp only [add]; omega)]; exact x0.same B hB, (stCells_st _ e1).trans x0.st⟩
end Go.Abs
/- Laws of memory for the typed texts: rows that are known whole (boxes of variables); heaps that differ at some blocks alone. -/
set_option linter.unusedVariables false
set_option linter.unusedSimpArgs false
namespace Go.Abs
open Go
/-- a heap that goes on; what was there stays, but at the blocks of S -/
structure UP (S : Nat → Prop) (h h' : H) : Prop where
  size : h.size ≤ h'.size
  nro : h'.nro = h.nro
  wf : WF h'
  same : ∀ A, A < h.size → ¬ S A → h'.objs.get A = h.objs.get A
  st : h'.st = h.st
theorem EX.up {h h' : H} {S : Nat → Prop} (x : EX h h') : UP S h h' := ⟨x.size, x.nro, x.wf, fun A hA _ => x.same A hA, x.st⟩
theorem UP.ex0 {h0 h h' : H} {S : Nat → Prop} (u : UP S h h') (x : EX h0 h) (hS : ∀ A, A < h0.size → ¬ S A) : EX h0 h' :=
  ⟨Nat.le_trans x.size u.size, u.nro.trans x.nro, u.wf, fun A hA => (u.same A (Nat.lt_of_lt_of_le hA x.size) (hS A hA)).trans (x.same A hA), u.st.trans x.st⟩
theorem UP.trans {h h1 h2 : H} {S T : Nat → Prop} (a : UP S h h1) (b : UP T h1 h2) (hT : ∀ A, A < h.size → T A → S A) : UP S h h2 :=
  ⟨Nat.le_trans a.size b.size, b.nro.trans a.nro, b.wf, fun A hA hn => (b.same A (Nat.lt_of_lt_of_le hA a.size) (fun t => hn (hT A hA t))).trans (a.same A hA hn), b.st.trans a.st⟩
theorem UP.ex {h h1 h2 : H} {S : Nat → Prop} (a : UP S h h1) (x : EX h1 h2) : UP S h h2 := a.trans (T := fun _ => False) x.up (fun _ _ t => t.elim)
theorem EX.trans_up {h h1 h2 : H} {S : Nat → Prop} (x : EX h h1) (b : UP S h1 h2) : UP S h h2 := (x.up (S := S)).trans b (fun _ _ t => t)
theorem UP.mono {h h1 : H} {S T : Nat → Prop} (a : UP S h h1) (hS : ∀ A, A < h.size → S A → T A) : UP T h h1 :=
  ⟨a.size, a.nro, a.wf, fun A hA hn => a.same A hA fun s => hn (hS A hA s), a.st⟩
theorem UP.refl {h : H} {S : Nat → Prop} (w : WF h) : UP S h h := (EX.refl w).up
theorem lt_of_get {h : H} (w : WF h) {A : Nat} {o : AObj} (e : h.objs.get A = some o) : A < h.size := by
  rcases Nat.lt_or_ge A h.size with x | x
  · exact x
  · rw [w.top A x] at e; simp at e
theorem lt_of_ld {h : H} (w : WF h) {a : Addr} {v : Value} (e : ldCell h a = some v) : a.block < h.size := by
  rcases Nat.lt_or_ge a.block h.size with x | x
  · exact x
  · rw [ldCell_eq, w.top _ x] at e; simp [ldO] at e
theorem UP.ld {h h' : H} {S : Nat → Prop} (u : UP S h h') {a : Addr} {v : Value} (hlt : a.block < h.size) (hn : ¬ S a.block) (e : ldCell h a = some v) : ldCell h' a = some v := by
  rw [ldCell_eq] at e ⊢; rw [u.same _ hlt hn]; exact e
theorem Rd.up {sz : Nat} {h h' : H} {S : Nat → Prop} {s : Sl} {l : List Value} (r : Rd sz h s l) (u : UP S h h') (hn : ∀ a, s.base = some a → ¬ S a.block) : Rd sz h' s l :=
  ⟨r.len, r.nil, fun a ha i v hi => let ⟨h1, h2⟩ := r.ld a ha i v hi; ⟨Nat.lt_of_lt_of_le h1 u.size, u.ld (a := add a i) h1 (hn a ha) h2⟩, r.cap⟩
theorem Buf.up {sz : Nat} {h h' : H} {S : Nat → Prop} {s : Sl} {l : List Value} (w : WF h) (r : Buf sz h s l) (u : UP S h h') (hn : ∀ a, s.base = some a → ¬ S a.block) : Buf sz h' s l := by
  refine ⟨r.rd.up u hn, ?_⟩
  rcases r.tip with ht | ⟨a, q, e, h1, h2, h3, h4, h5, h6, h7⟩
  · exact .inl ht
  · exact .inr ⟨a, q, e, h1, (u.same _ (lt_of_get w h2) (hn a h1)).trans h2, h3, h4, by rw [u.nro]; exact h5, h6, h7⟩
/-! boxes -/
structure Box (h : H) (b : Nat) (l : List Value) : Prop where
  get : ∃ e c, h.objs.get b = some (.arr ⟨e, l.length, 0, c⟩) ∧ ∀ i v, l[i]? = some v → c.get i = some ⟨v, 0⟩
  nro : h.nro ≤ b
  blt : b < h.size
theorem Box.lt {h : H} {b : Nat} {l : List Value} (B : Box h b l) (w : WF h) : b < h.size := B.blt
theorem Box.up {h h' : H} {S : Nat → Prop} {b : Nat} {l : List Value} (B : Box h b l) (w : WF h) (u : UP S h h') (hn : ¬ S b) : Box h' b l := by
  obtain ⟨e, c, h1, h2⟩ := B.get
  exact ⟨⟨e, c, (u.same b B.blt hn).trans h1, h2⟩, by rw [u.nro]; exact B.nro, Nat.lt_of_lt_of_le B.blt u.size⟩
theorem Box.ku {h h' : H} {S : Nat → Prop} {b : Nat} {l : List Value} (u : UP S h h') (hn : ¬ S b) (B : Box h b l) : Box h' b l := by
  obtain ⟨e, c, h1, h2⟩ := B.get
  exact ⟨⟨e, c, (u.same b B.blt hn).trans h1, h2⟩, by rw [u.nro]; exact B.nro, Nat.lt_of_lt_of_le B.blt u.size⟩
theorem Box.kx {h h' : H} {b : Nat} {l : List Value} (x : EX h h') (B : Box h b l) : Box h' b l := B.ku (x.up (S := fun _ => False)) id
theorem Rd.kx {sz : Nat} {h h' : H} {s : Sl} {l : List Value} (x : EX h h') (r : Rd sz h s l) : Rd sz h' s l := r.ex x
/-- a slice that was there ahead of the row that is written -/
theorem Rd.old {sz b : Nat} {h0 h h' : H} {s : Sl} {l : List Value} (u : UP (· = b) h h') (r0 : Rd sz h0 s l) (hb : h0.size ≤ b) (r : Rd sz h s l) : Rd sz h' s l :=
  ⟨r.len, r.nil, fun a ha i v hi => let ⟨h1, h2⟩ := r.ld a ha i v hi; ⟨Nat.lt_of_lt_of_le h1 u.size, u.ld (a := add a i) h1 (fun e => by have := (r0.ld a ha i v hi).1; have e' : a.block = b := e; omega) h2⟩, r.cap⟩
theorem Box.ex {h h' : H} {b : Nat} {l : List Value} (B : Box h b l) (w : WF h) (x : EX h h') : Box h' b l := B.up w (x.up (S := fun _ => False)) id
theorem Box.ld {h : H} {b : Nat} {l : List Value} (B : Box h b l) {i : Nat} {v : Value} (hi : l[i]? = some v) : ldCell h (add ⟨b, 0, some 0⟩ i) = some v := by
  obtain ⟨e, c, h1, h2⟩ := B.get
  rw [ldCell_eq]
  show ldO (h.objs.get b) _ = _
  rw [h1]
  simp only [ldO, add, Nat.zero_add, h2 i v hi]; rfl
theorem Box.ld0 {h : H} {b : Nat} {l : List Value} (B : Box h b l) {v : Value} (hi : l[0]? = some v) : ldCell h ⟨b, 0, some 0⟩ = some v := B.ld hi
theorem Z.dec_enc' : ∀ (z : Z) (x : z.T), z.dec (z.enc x) = some x
  | .int k, x => by simp [Z.dec, Z.enc, asInt]
  | .bool, x => rfl
  | .str, x => rfl
  | .ptr, x => rfl
  | .sl, x => rfl
  | .map, x => rfl
  | .any, x => rfl
  | .clo f n, x => by
    have : ∀ (n : Nat) (x : CloT n), decClo n (encClo n x) = some x := by
      intro n
      induction n using Nat.strongRecOn with
      | _ n ih =>
        match n with
        | 0 => intro x; rfl
        | 1 => intro x; rfl
        | n + 2 => intro x; simp only [encClo, decClo, asPtr0]; rw [ih (n + 1) (by omega)]
    simp only [Z.dec, Z.enc, asClo, Nat.beq_refl, cond_true]
    exact this n x
theorem decL_encL : ∀ (zs : List Z) (x : ZT zs), decL zs (encL zs x) = some x
  | [], x => rfl
  | [z], x => z.dec_enc' x
  | z :: z' :: zs, x => by simp only [encL, decL, z.dec_enc', decL_encL (z' :: zs) x.2]; rfl
theorem encL_length : ∀ (zs : List Z) (x : ZT zs), (encL zs x).length = zs.length
  | [], x => rfl
  | [z], x => rfl
  | z :: z' :: zs, x => by simp only [encL, List.length_cons, encL_length (z' :: zs) x.2]
theorem ldZ_of {zs : List Z} {h : H} {a : Addr} {x : ZT zs} (e : ldCells h a zs.length = some (encL zs x)) : ldZ zs h a = some x := by
  unfold ldZ
  rw [e]
  simp only [Option.map_some, decO, decV, cond_true]
  exact decL_encL zs x
theorem Box.cells {h : H} {b : Nat} {l : List Value} (B : Box h b l) (k n : Nat) (hk : k + n ≤ l.length) : ldCells h (add ⟨b, 0, some 0⟩ k) n = some ((l.drop k).take n) := by
  have hl : ((l.drop k).take n).length = n := by simp; omega
  have := ldCells_of (h := h) ((l.drop k).take n) (add ⟨b, 0, some 0⟩ k) (fun i v hi => by
    have hlt := (List.getElem?_eq_some_iff.1 hi).1
    rw [hl] at hlt
    rw [List.getElem?_take_of_lt hlt, List.getElem?_drop] at hi
    rw [add_add]
    exact B.ld hi)
  rwa [hl] at this
theorem Box.ldZ {h : H} {b : Nat} {l : List Value} (B : Box h b l) (zs : List Z) (x : ZT zs) (hl : l = encL zs x) : Abs.ldZ zs h ⟨b, 0, some 0⟩ = some x := by
  refine ldZ_of ?_
  have h1 := encL_length zs x
  have := B.cells 0 zs.length (by rw [hl, h1]; omega)
  rw [addA_zero] at this
  rw [this, hl, List.drop_zero, ← h1, List.take_length]
theorem Box.ldZat {h : H} {b : Nat} {l : List Value} (B : Box h b l) (k : Nat) (zs : List Z) (x : ZT zs) (hl : (l.drop k).take zs.length = encL zs x) : Abs.ldZ zs h (add ⟨b, 0, some 0⟩ k) = some x := by
  refine ldZ_of ?_
  have h1 := encL_length zs x
  have h2 : zs.length ≤ (l.drop k).length := by rw [← h1, ← hl]; simp; omega
  rcases Nat.eq_zero_or_pos zs.length with h0 | h0
  · rw [h0] at hl ⊢; rw [← hl]; rfl
  · have := B.cells k zs.length (by simp at h2; omega)
    rw [this, hl]
section
variable {h : H} {b : Nat} {l : List Value} {i : Nat}
theorem Box.ldI (B : Box h b l) {k : IntKind} {n : Int} (hi : l[i]? = some (.int k n)) : Abs.ldI k h (add ⟨b, 0, some 0⟩ i) = some n := ldI_of (B.ld hi)
theorem Box.ldI0 (B : Box h b l) {k : IntKind} {n : Int} (hi : l[0]? = some (.int k n)) : Abs.ldI k h ⟨b, 0, some 0⟩ = some n := ldI_of (B.ld hi)
theorem ldB_of {h : H} {a : Addr} {n : Bool} (e : ldCell h a = some (.bool n)) : Abs.ldB h a = some n := by unfold Abs.ldB; rw [e]; rfl
theorem ldP_of {h : H} {a : Addr} {n : Option Addr} (e : ldCell h a = some (.pointer n)) : Abs.ldP h a = some n := by unfold Abs.ldP; rw [e]; rfl
theorem ldS_of {h : H} {a : Addr} {n : ByteArray} (e : ldCell h a = some (.string n)) : Abs.ldS h a = some n := by unfold Abs.ldS; rw [e]; rfl
theorem ldM_of {h : H} {a : Addr} {n : Option Nat} (e : ldCell h a = some (.map n)) : Abs.ldM h a = some n := by unfold Abs.ldM; rw [e]; rfl
theorem Box.ldB (B : Box h b l) {n : Bool} (hi : l[i]? = some (.bool n)) : Abs.ldB h (add ⟨b, 0, some 0⟩ i) = some n := ldB_of (B.ld hi)
theorem Box.ldP (B : Box h b l) {n : Option Addr} (hi : l[i]? = some (.pointer n)) : Abs.ldP h (add ⟨b, 0, some 0⟩ i) = some n := ldP_of (B.ld hi)
theorem Box.ldL (B : Box h b l) {n : Sl} (hi : l[i]? = some (encSl n)) : Abs.ldL h (add ⟨b, 0, some 0⟩ i) = some n := ldL_of (B.ld hi)
theorem Box.ldL0 (B : Box h b l) {n : Sl} (hi : l[0]? = some (encSl n)) : Abs.ldL h ⟨b, 0, some 0⟩ = some n := ldL_of (B.ld hi)
theorem Box.ldB0 (B : Box h b l) {n : Bool} (hi : l[0]? = some (.bool n)) : Abs.ldB h ⟨b, 0, some 0⟩ = some n := ldB_of (B.ld hi)
theorem Box.ldP0 (B : Box h b l) {n : Option Addr} (hi : l[0]? = some (.pointer n)) : Abs.ldP h ⟨b, 0, some 0⟩ = some n := ldP_of (B.ld hi)
end
/-! new boxes -/
theorem box_row {h : H} (w : WF h) (e : TypeId) (l : List Value) : EX h (newAt (grow h 1) h.size (row e l)) ∧ Box (newAt (grow h 1) h.size (row e l)) h.size l := by
  refine ⟨wf_new w e l, ⟨⟨e, ofL l, ?_, fun i v hi => ?_⟩, w.nro, Nat.lt_succ_self _⟩⟩
  · show (Tr.set _ _ _).get _ = _
    rw [Tr.get_set, if_pos rfl]; rfl
  · rw [get_ofL, hi]; rfl
theorem box_at {h : H} {B : Nat} (hn : h.nro ≤ B) (hB : B < h.size) (e : TypeId) (l : List Value) : Box (newAt h B (row e l)) B l := by
  refine ⟨⟨e, ofL l, ?_, fun i v hi => ?_⟩, hn, hB⟩
  · rw [newAt_get, if_pos rfl]; rfl
  · rw [get_ofL, hi]; rfl
theorem newO_box {α : Type} {h : H} (w : WF h) (e : TypeId) (l : List Value) (f : Nat → H → Option α) : ∃ h1, newO (row e l) h f = f h.size h1 ∧ EX h h1 ∧ Box h1 h.size l ∧ h1.size = h.size + 1 :=
  ⟨_, rfl, (box_row w e l).1, (box_row w e l).2, rfl⟩
/-! stores -/
theorem Box.stC {h : H} {b : Nat} {l : List Value} (B : Box h b l) (w : WF h) (k : Nat) (vs : List Value) (hk : k + vs.length ≤ l.length) (ho : vs.all oneC = true) :
    ∃ h', stCells h (add ⟨b, 0, some 0⟩ k) vs = some h' ∧ Box h' b (l.take k ++ vs ++ l.drop (k + vs.length)) ∧ UP (· = b) h h' ∧ h'.size = h.size := by
  obtain ⟨e, c, h1, h2⟩ := B.get
  obtain ⟨h', r', e1, g1, g2, g3, g4, g5, g6, g7, g8⟩ := stCells_ok vs h (add ⟨b, 0, some 0⟩ k) ⟨e, l.length, 0, c⟩ 0 w h1 rfl rfl B.nro (by simp only [add]; omega) ho
  refine ⟨h', e1, ⟨⟨r'.elem, r'.cells, ?_, fun i v hi => ?_⟩, by rw [g5]; exact B.nro, by rw [g4]; exact B.blt⟩, ⟨Nat.le_of_eq g4.symm, g5, g6, fun A _ hA => g7 A hA, stCells_st _ e1⟩, g4⟩
  · have g1' : h'.objs.get b = some (.arr r') := g1
    rw [g1']
    have : (l.take k ++ vs ++ l.drop (k + vs.length)).length = l.length := by simp; omega
    rw [this]
    have hs : r'.size = l.length := g3
    cases r'; simp only at g2 hs ⊢; rw [g2, hs]
  · have g8' : ∀ i, r'.cells.get i = if 0 + k ≤ i ∧ i < 0 + k + vs.length then (vs[i - (0 + k)]?).map (⟨·, 0⟩) else c.get i := g8
    rw [g8']
    by_cases hi1 : i < k
    · rw [if_neg (by omega)]
      rw [List.append_assoc, List.getElem?_append_left (by simp; omega), List.getElem?_take_of_lt hi1] at hi
      exact h2 i v hi
    · by_cases hi2 : i < k + vs.length
      · rw [if_pos (by omega)]
        rw [List.append_assoc, List.getElem?_append_right (by simp; omega), List.getElem?_append_left (by simp; omega)] at hi
        have : i - (List.take k l).length = i - (0 + k) := by simp; omega
        rw [this] at hi
        rw [hi]; rfl
      · rw [if_neg (by omega)]
        rw [List.getElem?_append_right (by simp; omega), List.getElem?_drop] at hi
        have : k + vs.length + (i - (List.take k l ++ vs).length) = i := by simp; omega
        rw [this] at hi
        exact h2 i v hi
theorem take_set_drop {α : Type} (l : List α) (i : Nat) (v : α) (h : i < l.length) : l.take i ++ [v] ++ l.drop (i + 1) = l.set i v := by
  rw [List.set_eq_take_append_cons_drop, if_pos h]; simp
theorem Box.st1 {h : H} {b : Nat} {l : List Value} (B : Box h b l) (w : WF h) {i : Nat} {v : Value} (hi : i < l.length) (ho : oneC v = true) :
    ∃ h', Abs.st1 h (add ⟨b, 0, some 0⟩ i) v = some h' ∧ Box h' b (l.set i v) ∧ UP (· = b) h h' ∧ h'.size = h.size := by
  obtain ⟨h', e, B', u, hs⟩ := B.stC w i [v] (by simp only [List.length_cons, List.length_nil]; omega) (by simpa using ho)
  refine ⟨h', e, ?_, u, hs⟩
  rwa [List.length_singleton, take_set_drop l i v hi] at B'
theorem Box.st10 {h : H} {b : Nat} {l : List Value} (B : Box h b l) (w : WF h) {v : Value} (hi : 0 < l.length) (ho : oneC v = true) :
    ∃ h', Abs.st1 h ⟨b, 0, some 0⟩ v = some h' ∧ Box h' b (l.set 0 v) ∧ UP (· = b) h h' ∧ h'.size = h.size := B.st1 w hi ho
theorem oneC_enc : ∀ (z : Z) (x : z.T), (∀ v, z ≠ .any ∨ oneC v = true) → oneC (z.enc x) = true
  | .int k, x, _ => rfl
  | .bool, x, _ => rfl
  | .str, x, _ => rfl
  | .ptr, x, _ => rfl
  | .sl, x, _ => rfl
  | .map, x, _ => rfl
  | .any, x, h => by rcases h x with h | h; exact absurd rfl h; exact h
  | .clo f n, x, _ => rfl
def noAny : List Z → Bool
  | [] => true
  | .any :: _ => false
  | _ :: zs => noAny zs
theorem oneC_encL : ∀ (zs : List Z) (x : ZT zs), noAny zs = true → (encL zs x).all oneC = true
  | [], x, _ => rfl
  | [z], x, h => by
    have : z ≠ .any := by rintro rfl; simp [noAny] at h
    simp only [encL, List.all_cons, List.all_nil, Bool.and_true]
    exact oneC_enc z x (fun _ => .inl this)
  | z :: z' :: zs, x, h => by
    have hz : z ≠ .any := by rintro rfl; simp [noAny] at h
    have h2 : noAny (z' :: zs) = true := by cases z <;> first | exact absurd rfl hz | exact h
    simp only [encL, List.all_cons, oneC_enc z x.1 (fun _ => .inl hz), oneC_encL (z' :: zs) x.2 h2, Bool.and_self]
theorem Box.stZ {h : H} {b : Nat} {l : List Value} (B : Box h b l) (w : WF h) (zs : List Z) (x : ZT zs) (hl : zs.length = l.length) (hn : noAny zs = true) :
    ∃ h', Abs.stZ zs h ⟨b, 0, some 0⟩ x = some h' ∧ Box h' b (encL zs x) ∧ UP (· = b) h h' ∧ h'.size = h.size := by
  have h1 := encL_length zs x
  obtain ⟨h', e, B', u, hs⟩ := B.stC w 0 (encL zs x) (by omega) (oneC_encL zs x hn)
  rw [addA_zero] at e
  refine ⟨h', e, ?_, u, hs⟩
  rw [List.take_zero, List.nil_append, Nat.zero_add, h1, hl, List.drop_length, List.append_nil] at B'
  exact B'
theorem Box.stZat {h : H} {b : Nat} {l : List Value} (B : Box h b l) (w : WF h) (k : Nat) (zs : List Z) (x : ZT zs) (hl : k + zs.length ≤ l.length) (hn : noAny zs = true) :
    ∃ h', Abs.stZ zs h (add ⟨b, 0, some 0⟩ k) x = some h' ∧ Box h' b (l.take k ++ encL zs x ++ l.drop (k + zs.length)) ∧ UP (· = b) h h' ∧ h'.size = h.size := by
  have h1 := encL_length zs x
  obtain ⟨h', e, B', u, hs⟩ := B.stC w k (encL zs x) (by omega) (oneC_encL zs x hn)
  rw [h1] at B'
  exact ⟨h', e, B', u, hs⟩
/-! small words -/
@[simp] theorem inr?_some {α β : Type} (x : α) : (inr? (some x) : Option (β ⊕ α)) = some (.inr x) := rfl
@[simp] theorem inr?_none {α β : Type} : (inr? (none : Option α) : Option (β ⊕ α)) = none := rfl
theorem joinO_ite {α β : Type} (c : Prop) [Decidable c] (a b : Option (β ⊕ α)) (f : β → Option α) : joinO (if c then a else b) f = if c then joinO a f else joinO b f := by split <;> rfl
theorem ixAT_ok {n sz : Nat} (a : Addr) {i : Int} (h0 : 0 ≤ i) (h1 : i < n) : ixAT n sz a i = some (add a (i.toNat * sz)) := by
  have hi : idxAddr (DAR n sz) 0 (.pointer (some a)) (.int .i64 i) = some (.pointer (some (add a (i.toNat * sz)))) := by
    have hd := idx_in .i64 h0 h1
    have e0 : (DAR n sz).ty.get 0 = some ⟨n * sz, 0, .nilFunc, .array n 1, false⟩ := by
      unfold DAR; simp only; rw [Tr.get_set, if_neg (by omega), Tr.get_set, if_pos rfl]
    have e1 : (DAR n sz).ty.get 1 = some (tyS sz 0 .nilFunc) := by
      unfold DAR; simp only; rw [Tr.get_set, if_pos rfl]
    unfold idxAddr
    simp only [e0, e1, hd]; rfl
  unfold ixAT
  rw [hi]; rfl
theorem bits_self (n : Int) : (n == n) = true := by simp
theorem slEq_self (s : Sl) : slEq s.base s.len s.cap s.base s.len s.cap = true := by simp [slEq]
end Go.Abs
/- A logic for the typed texts: what a text answers. -/
set_option linter.unusedVariables false
set_option linter.unusedSimpArgs false
namespace Go.Abs
open Go
/-- it answers, and the answer is so -/
def PO {β : Type} (m : Option β) (Q : β → Prop) : Prop := ∃ b, m = some b ∧ Q b
section
variable {α β γ σ ρ : Type} {Q : α → Prop}
theorem PO.ret {b : α} (h : Q b) : PO (some b) Q := ⟨b, rfl, h⟩
theorem PO.mono {m : Option α} {P : α → Prop} (p : PO m P) (h : ∀ b, P b → Q b) : PO m Q := let ⟨b, e, hb⟩ := p; ⟨b, e, h b hb⟩
theorem PO.and {m : Option α} {P : α → Prop} (p : PO m P) (q : PO m Q) : PO m (fun b => P b ∧ Q b) := by
  obtain ⟨b, e, h1⟩ := p
  obtain ⟨b', e', h2⟩ := q
  rw [e] at e'; cases e'
  exact ⟨b, e, h1, h2⟩
theorem PO.call {m : Option (β × H)} {f : β → H → Option α} {P : β × H → Prop} (p : PO m P) (k : ∀ a h1, P (a, h1) → PO (f a h1) Q) : PO (bind2 m f) Q := by
  obtain ⟨⟨a, h1⟩, rfl, hp⟩ := p; exact k a h1 hp
theorem PO.callE {m : Option (β × H)} {f : β → H → Option α} {a : β} {h1 : H} (e : m = some (a, h1)) (k : PO (f a h1) Q) : PO (bind2 m f) Q := by subst e; exact k
theorem PO.op {m : Option β} {f : β → Option α} {x : β} (e : m = some x) (k : PO (f x) Q) : PO (bindO m f) Q := by subst e; exact k
theorem PO.opP {m : Option β} {f : β → Option α} {P : β → Prop} (p : PO m P) (k : ∀ x, P x → PO (f x) Q) : PO (bindO m f) Q := by
  obtain ⟨a, rfl, hp⟩ := p; exact k a hp
theorem PO.letO {x : β} {f : β → Option α} (k : PO (f x) Q) : PO (Abs.letO x f) Q := k
theorem PO.ptr {a : Addr} {f : Addr → Option α} (k : PO (f a) Q) : PO (ptrK (some a) f) Q := k
theorem PO.cond {b : Bool} {x y : Option α} (h1 : b = true → PO x Q) (h2 : b = false → PO y Q) : PO (condK b x y) Q := by cases b <;> simp_all
theorem PO.condD {p : Prop} [Decidable p] {x y : Option α} (h1 : p → PO x Q) (h2 : ¬ p → PO y Q) : PO (condK (decide p) x y) Q := by by_cases h : p <;> simp_all
theorem PO.condND {p : Prop} [Decidable p] {x y : Option α} (h1 : ¬ p → PO x Q) (h2 : p → PO y Q) : PO (condK (!decide p) x y) Q := by by_cases h : p <;> simp_all
theorem PO.condN {b : Bool} {x y : Option α} (h1 : b = false → PO x Q) (h2 : b = true → PO y Q) : PO (condK (!b) x y) Q := by cases b <;> simp_all
theorem PO.condE {β : Type} [DecidableEq β] {a b : β} {x y : Option α} (h1 : a = b → PO x Q) (h2 : a ≠ b → PO y Q) : PO (condK (a == b) x y) Q := by by_cases h : a = b <;> simp_all
theorem PO.condNE {β : Type} [DecidableEq β] {a b : β} {x y : Option α} (h1 : a ≠ b → PO x Q) (h2 : a = b → PO y Q) : PO (condK (a != b) x y) Q := by by_cases h : a = b <;> simp_all
theorem PO.condT {x y : Option α} (k : PO x Q) : PO (condK true x y) Q := k
theorem PO.condF {x y : Option α} (k : PO y Q) : PO (condK false x y) Q := k
theorem PO.chk {b : Bool} {x : Option α} (h : b = true) (k : PO x Q) : PO (condK b x none) Q := by subst h; exact k
theorem PO.join {m : Option (β ⊕ α)} {f : β → Option α} (P : β → Prop) (p : PO m (Sum.elim P Q)) (k : ∀ x, P x → PO (f x) Q) : PO (joinO m f) Q := by
  obtain ⟨b, rfl, hb⟩ := p
  cases b with
  | inl x => exact k x hb
  | inr r => exact .ret hb
theorem PO.joinD {m : Option (β ⊕ α)} {f : β → Option α} (p : PO m (Sum.elim (fun x => PO (f x) Q) Q)) : PO (joinO m f) Q := PO.join _ p fun _ h => h
theorem PO.retL {P : β → Prop} {x : β} (h : P x) : PO (some (Sum.inl x)) (Sum.elim P Q) := ⟨_, rfl, h⟩
theorem PO.retR {P : β → Prop} {x : α} (h : Q x) : PO (some (Sum.inr x)) (Sum.elim P Q) := ⟨_, rfl, h⟩
theorem PO.inr {P : β → Prop} {m : Option α} (h : PO m Q) : PO (inr? m) (Sum.elim P Q) := by
  obtain ⟨b, rfl, hb⟩ := h; exact ⟨_, rfl, hb⟩
theorem PO.loop {step : σ → Option (σ ⊕ α)} (I : Nat → σ → Prop) (k : ∀ n s, I n s → PO (step s) (Sum.elim (fun s' => ∃ n', n' < n ∧ I n' s') Q)) : ∀ n s, I n s → PO (loopO step s) Q := by
  intro n
  induction n using Nat.strongRecOn with
  | _ n ih =>
    intro s hs
    obtain ⟨b, e, hb⟩ := k n s hs
    rw [loopO_eq, e]
    cases b with
    | inl s' => obtain ⟨n', h1, h2⟩ := hb; exact ih n' h1 s' h2
    | inr r => exact .ret hb
/-! rows -/
variable {h : H} {b i : Nat} {l : List Value}
theorem PO.newB {e : TypeId} {f : Nat → H → Option α} (w : WF h) (k : ∀ h1, EX h h1 → Box h1 h.size l → h1.size = h.size + 1 → WF h1 → PO (f h.size h1) Q) : PO (newO (row e l) h f) Q :=
  k _ (box_row w e l).1 (box_row w e l).2 rfl (box_row w e l).1.wf
theorem PO.ldI {k : IntKind} {n : Int} {f : Int → Option α} (B : Box h b l) (hi : l[i]? = some (.int k n)) (p : PO (f n) Q) : PO (bindO (Abs.ldI k h (Abs.add ⟨b, 0, some 0⟩ i)) f) Q := .op (B.ldI hi) p
theorem PO.ldI0 {k : IntKind} {n : Int} {f : Int → Option α} (B : Box h b l) (hi : l[0]? = some (.int k n)) (p : PO (f n) Q) : PO (bindO (Abs.ldI k h ⟨b, 0, some 0⟩) f) Q := .op (B.ldI0 hi) p
theorem PO.ldB {n : Bool} {f : Bool → Option α} (B : Box h b l) (hi : l[i]? = some (.bool n)) (p : PO (f n) Q) : PO (bindO (Abs.ldB h (Abs.add ⟨b, 0, some 0⟩ i)) f) Q := .op (B.ldB hi) p
theorem PO.ldB0 {n : Bool} {f : Bool → Option α} (B : Box h b l) (hi : l[0]? = some (.bool n)) (p : PO (f n) Q) : PO (bindO (Abs.ldB h ⟨b, 0, some 0⟩) f) Q := .op (B.ldB0 hi) p
theorem PO.ldL {n : Sl} {f : Sl → Option α} (B : Box h b l) (hi : l[i]? = some (encSl n)) (p : PO (f n) Q) : PO (bindO (Abs.ldL h (Abs.add ⟨b, 0, some 0⟩ i)) f) Q := .op (B.ldL hi) p
theorem PO.ldL0 {n : Sl} {f : Sl → Option α} (B : Box h b l) (hi : l[0]? = some (encSl n)) (p : PO (f n) Q) : PO (bindO (Abs.ldL h ⟨b, 0, some 0⟩) f) Q := .op (B.ldL0 hi) p
theorem PO.ldP {n : Option Addr} {f : Option Addr → Option α} (B : Box h b l) (hi : l[i]? = some (.pointer n)) (p : PO (f n) Q) : PO (bindO (Abs.ldP h (Abs.add ⟨b, 0, some 0⟩ i)) f) Q := .op (B.ldP hi) p
theorem PO.ldP0 {n : Option Addr} {f : Option Addr → Option α} (B : Box h b l) (hi : l[0]? = some (.pointer n)) (p : PO (f n) Q) : PO (bindO (Abs.ldP h ⟨b, 0, some 0⟩) f) Q := .op (B.ldP0 hi) p
theorem PO.ldZ {zs : List Z} {x : ZT zs} {f : ZT zs → Option α} (B : Box h b l) (hl : l = encL zs x) (p : PO (f x) Q) : PO (bindO (Abs.ldZ zs h ⟨b, 0, some 0⟩) f) Q := .op (B.ldZ zs x hl) p
theorem PO.ldZ2 {k1 k2 : IntKind} {a1 a2 : Int} {f : Int × Int → Option α} (B : Box h b [.int k1 a1, .int k2 a2]) (p : PO (f (a1, a2)) Q) : PO (bindO (Abs.ldZ [.int k1, .int k2] h ⟨b, 0, some 0⟩) f) Q := .op (B.ldZ [.int k1, .int k2] (a1, a2) rfl) p
theorem PO.ldZ5 {a1 a2 a3 a4 a5 : Int} {f : Int × Int × Int × Int × Int → Option α} (B : Box h b [.int .i64 a1, .int .i64 a2, .int .i64 a3, .int .i64 a4, .int .i64 a5]) (p : PO (f (a1, a2, a3, a4, a5)) Q) : PO (bindO (Abs.ldZ [.int .i64, .int .i64, .int .i64, .int .i64, .int .i64] h ⟨b, 0, some 0⟩) f) Q := .op (B.ldZ [.int .i64, .int .i64, .int .i64, .int .i64, .int .i64] (a1, a2, a3, a4, a5) rfl) p
theorem PO.st1 {v : Value} {f : H → Option α} (B : Box h b l) (w : WF h) (hi : i < l.length) (ho : oneC v = true) (p : ∀ h', Box h' b (l.set i v) → UP (· = b) h h' → h'.size = h.size → WF h' → PO (f h') Q) : PO (bindO (Abs.st1 h (Abs.add ⟨b, 0, some 0⟩ i) v) f) Q := by
  obtain ⟨h', e, B', u, hs⟩ := B.st1 w hi ho
  exact .op e (p h' B' u hs u.wf)
theorem PO.st10 {v : Value} {f : H → Option α} (B : Box h b l) (w : WF h) (hi : 0 < l.length) (ho : oneC v = true) (p : ∀ h', Box h' b (l.set 0 v) → UP (· = b) h h' → h'.size = h.size → WF h' → PO (f h') Q) : PO (bindO (Abs.st1 h ⟨b, 0, some 0⟩ v) f) Q := by
  obtain ⟨h', e, B', u, hs⟩ := B.st10 w hi ho
  exact .op e (p h' B' u hs u.wf)
theorem PO.stZ {zs : List Z} {x : ZT zs} {f : H → Option α} (B : Box h b l) (w : WF h) (hl : zs.length = l.length) (hn : noAny zs = true) (p : ∀ h', Box h' b (encL zs x) → UP (· = b) h h' → h'.size = h.size → WF h' → PO (f h') Q) : PO (bindO (Abs.stZ zs h ⟨b, 0, some 0⟩ x) f) Q := by
  obtain ⟨h', e, B', u, hs⟩ := B.stZ w zs x hl hn
  exact .op e (p h' B' u hs u.wf)
end
end Go.Abs
