/- Laws of memory for the typed texts: buffers with room behind them. -/
import Derived.Test.YthiccnmplgdheaaS6
set_option linter.unusedVariables false
set_option linter.unusedSimpArgs false
namespace Go.Abs
open Go
/-- what may be written, and appended to while there is room -/
structure BufW (sz : Nat) (h : H) (s : Sl) (l : List Value) (room : Nat) : Prop where
  rd : Rd sz h s l
  tip : ∃ a r e, s.base = some a ∧ h.objs.get a.block = some (.arr r) ∧ a.spot = some e ∧ r.ver = e ∧ h.nro ≤ a.block ∧ a.off + (s.len + room) * sz ≤ r.size ∧ capK s.cap = .unk sz
theorem stCells_ok : ∀ (vs : List Value) (h : H) (a : Addr) (r : Arr) (e : Nat), WF h → h.objs.get a.block = some (.arr r) → a.spot = some e → r.ver = e → h.nro ≤ a.block → a.off + vs.length ≤ r.size → vs.all oneC = true →
    ∃ h' r', stCells h a vs = some h' ∧ h'.objs.get a.block = some (.arr r') ∧ r'.ver = e ∧ r'.size = r.size ∧ h'.size = h.size ∧ h'.nro = h.nro ∧ WF h' ∧ (∀ B, B ≠ a.block → h'.objs.get B = h.objs.get B) ∧
      ∀ i, r'.cells.get i = if a.off ≤ i ∧ i < a.off + vs.length then (vs[i - a.off]?).map (⟨·, e⟩) else r.cells.get i
  | [], h, a, r, e, w, ho, hs, hv, hn, hl, hc => ⟨h, r, rfl, ho, hv, rfl, rfl, rfl, w, fun _ _ => rfl, fun i => by
      rw [if_neg]; simp⟩
  | v :: vs, h, a, r, e, w, ho, hs, hv, hn, hl, hc => by
    simp only [List.all_cons, Bool.and_eq_true] at hc
    simp only [List.length_cons] at hl
    have hlt : a.block < h.size := by
      rcases Nat.lt_or_ge a.block h.size with x | x
      · exact x
      · rw [w.top _ x] at ho; simp at ho
    have h1 : stCell h a v = some { h with tick := h.tick + 1, objs := h.objs.set a.block (.arr { r with cells := r.cells.set a.off ⟨v, e⟩ }) } := by
      unfold stCell
      rw [ho, hs]
      have : (e.beq r.ver && h.nro.ble a.block && a.off.blt r.size && oneC v) = true := by
        simp only [Bool.and_eq_true, nbeq_eq, Nat.ble_eq, Nat.blt_eq]
        exact ⟨⟨⟨hv.symm, hn⟩, by omega⟩, hc.1⟩
      simp only [this, cond_true]
    have get : ∀ B, ({ h with tick := h.tick + 1, objs := h.objs.set a.block (.arr { r with cells := r.cells.set a.off ⟨v, e⟩ }) } : H).objs.get B = if B = a.block then some (.arr { r with cells := r.cells.set a.off ⟨v, e⟩ }) else h.objs.get B := fun B => Tr.get_set _ _ _ _
    have w1 : WF { h with tick := h.tick + 1, objs := h.objs.set a.block (.arr { r with cells := r.cells.set a.off ⟨v, e⟩ }) } := by
      refine ⟨w.nro, fun B hB => ?_, fun B r' hr j c hj => ?_⟩
      · have hB' : h.size ≤ B := hB
        rw [get, if_neg (by omega)]; exact w.top B hB'
      · rw [get] at hr
        split at hr
        · simp only [Option.some.injEq, AObj.arr.injEq] at hr
          subst hr
          simp only [Tr.get_set] at hj ⊢
          split at hj
          · omega
          · exact w.arr a.block r ho j c hj
        · exact w.arr B r' hr j c hj
    obtain ⟨h', r', e1, g1, g2, g3, g4, g5, g6, g7, g8⟩ := stCells_ok vs _ (add a 1) { r with cells := r.cells.set a.off ⟨v, e⟩ } e w1 (by show (Tr.set _ _ _).get _ = _; rw [Tr.get_set]; exact if_pos rfl) hs hv hn (by simp only [add]; omega) hc.2
    refine ⟨h', r', by unfold stCells; rw [h1]; exact e1, g1, g2, g3, g4, g5, g6, fun B hB => by rw [g7 B hB, get, if_neg hB], fun i => ?_⟩
    have g8' : r'.cells.get i = if a.off + 1 ≤ i ∧ i < a.off + 1 + vs.length then (vs[i - (a.off + 1)]?).map (⟨·, e⟩) else (r.cells.set a.off ⟨v, e⟩).get i := g8 i
    rw [g8', Tr.get_set]
    simp only [List.length_cons]
    by_cases hi : i = a.off
    · subst hi
      rw [if_neg (by omega), if_pos rfl, if_pos (by omega)]; simp
    · by_cases hr : a.off + 1 ≤ i ∧ i < a.off + 1 + vs.length
      · rw [if_pos hr, if_pos (by omega)]
        rw [show i - a.off = (i - (a.off + 1)) + 1 by omega]; simp
      · rw [if_neg hr, if_neg hi, if_neg (by omega)]
/-- append within the room -/
theorem appW_ok {e bytes : Nat} {h : H} {s x : Sl} {l m : List Value} {room : Nat} (w : WF h) (hs : BufW 1 h s l room) (hx : Rd 1 h x m) (ho : m.all oneC = true) (hr : x.len ≤ room) (hb : (s.len + x.len) * bytes ≤ 2 ^ 47) (hb2 : s.len + x.len ≤ 2 ^ 62) :
    ∃ s' h', appT e 1 bytes h s x = some (s', h') ∧ BufW 1 h' s' (l ++ m) (room - x.len) ∧ s'.base = s.base ∧ ∀ h0, EX h0 h → Fr h0.size s → EX h0 h' := by
  obtain ⟨rdl, a, r, ev, ha, hobj, hsp, hver, hnro, hoff, hcap⟩ := hs
  obtain ⟨b, len, cap⟩ := s
  simp only at ha hoff hcap
  subst ha
  have hll := rdl.len
  have hml := hx.len
  simp only at hll
  have hA : appA (DSE e (tyS 1 bytes .nilFunc)) h #[e + 1, e + 1] (encSl ⟨some a, len, cap⟩) (encSl x) = appR h e (tyS 1 bytes .nilFunc) (encSl ⟨some a, len, cap⟩) m x.len := by
    have hf := hx.first
    unfold appA
    rw [show (#[e + 1, e + 1] : Array TypeId)[0]? = some (e + 1) from rfl, show (#[e + 1, e + 1] : Array TypeId)[1]? = some (e + 1) from rfl]
    simp only [elem_DSE, DSE_s]
    unfold encSl at hf ⊢
    simp only [show (tyS 1 bytes .nilFunc).size = 1 from rfl, hf, ho, cond_true]
  by_cases hn : x.len = 0
  · have hm0 : m = [] := List.eq_nil_of_length_eq_zero (by omega)
    subst hm0
    refine ⟨⟨some a, len, cap⟩, h, ?_, ⟨by simpa using rdl, a, r, ev, rfl, hobj, hsp, hver, hnro, by simp only; omega, hcap⟩, rfl, fun _ x _ => x⟩
    unfold appT
    rw [hA]
    unfold appR encSl
    simp only [hn, show Nat.beq 0 0 = true from rfl, cond_true]
    rfl
  · have hlt : a.block < h.size := by
      rcases Nat.lt_or_ge a.block h.size with y | y
      · exact y
      · rw [w.top _ y] at hobj; simp at hobj
    obtain ⟨h', r', e1, g1, g2, g3, g4, g5, g6, g7, g8⟩ := stCells_ok m h (add a len) r ev w hobj hsp hver hnro (by simp only [add]; omega) ho
    have hbb : (((len + x.len) * (tyS 1 bytes .nilFunc).bytes).ble (2 ^ 47) && (len + x.len).ble (2 ^ 62)) = true := by
      simp only [Bool.and_eq_true, Nat.ble_eq]; exact ⟨hb, hb2⟩
    have c1 : (ev.beq r.ver && h.nro.ble a.block && (a.off + len * 1).ble r.size && Nat.blt 0 1) = true := by
      simp only [Bool.and_eq_true, nbeq_eq, Nat.ble_eq, Nat.blt_eq]
      exact ⟨⟨⟨hver.symm, hnro⟩, by omega⟩, by omega⟩
    have c2 : (a.off + (len + x.len) * 1).ble r.size = true := by simp only [Nat.ble_eq]; omega
    have hR : appR h e (tyS 1 bytes .nilFunc) (encSl ⟨some a, len, cap⟩) m x.len = some (.val (.slice (some a) (len + x.len) cap) h') := by
      unfold appR encSl
      simp only [nbeq_f hn, cond_false, hbb, Bool.not_true, hcap, show (tyS 1 bytes .nilFunc).size = 1 from rfl, show Nat.beq 1 1 = true from rfl, cond_true, hobj, hsp, c1, c2]
      rw [Nat.mul_one, e1]; rfl
    refine ⟨⟨some a, len + x.len, cap⟩, h', ?_, ⟨⟨by simp; omega, fun y => by simp at y, fun p hp i v hi => ?_, fun _ => by unfold CapOK; rw [hcap]⟩, a, r', ev, rfl, g1, hsp, g2, by rw [g5]; exact hnro, by simp only [g3]; omega, hcap⟩, rfl, fun h0 x0 hf => ?_⟩
    · unfold appT; rw [hA, hR]; rfl
    · simp only [Option.some.injEq] at hp
      subst hp
      refine ⟨by rw [g4]; exact hlt, ?_⟩
      rw [ldCell_eq]
      show ldO (h'.objs.get a.block) _ = some v
      rw [show h'.objs.get a.block = some (.arr r') from g1]
      have g8' : ∀ j, r'.cells.get j = if a.off + len ≤ j ∧ j < a.off + len + m.length then (m[j - (a.off + len)]?).map (⟨·, ev⟩) else r.cells.get j := g8
      simp only [ldO, add, hsp]
      rw [g8']
      by_cases hi2 : i < l.length
      · rw [List.getElem?_append_left hi2] at hi
        have hl := (rdl.ld a rfl i v hi).2
        rw [ldCell_eq] at hl
        simp only [add, hobj, ldO, hsp] at hl
        rw [if_neg (by omega)]
        exact hl
      · have hi3 := (List.getElem?_eq_some_iff.1 hi).1
        simp at hi3
        rw [List.getElem?_append_right (by omega)] at hi
        rw [if_pos (by omega), show a.off + i - (a.off + len) = i - l.length by omega, hi]
        simp only [Option.map_some]
        have : ev.ble ev = true := by simp
        rw [this]; rfl
    · have hfa := hf a rfl
      exact ⟨by rw [g4]; exact x0.size, g5.trans x0.nro, g6, fun B hB => by rw [g7 B (by simp only [add]; omega)]; exact x0.same B hB⟩
/-- a store -/
theorem st1_w {h : H} {s : Sl} {l : List Value} {i room : Nat} {v : Value} {a : Addr} (hs : BufW 1 h s l room) (ha : s.base = some a) (hi : i < l.length) (ho : oneC v = true) (w : WF h) :
    ∃ h', st1 h (add a i) v = some h' ∧ WF h' ∧ BufW 1 h' s (l.set i v) room ∧ (∀ h0, EX h0 h → Fr h0.size s → EX h0 h') := by
  obtain ⟨rdl, a', r, e, ha', hobj, hsp, hver, hnro, hoff, hcap⟩ := hs
  rw [ha] at ha'
  simp only [Option.some.injEq] at ha'
  subst ha'
  have hll := rdl.len
  have hlt : a.block < h.size := by
    rcases Nat.lt_or_ge a.block h.size with y | y
    · exact y
    · rw [w.top _ y] at hobj; simp at hobj
  obtain ⟨h', r', e1, g1, g2, g3, g4, g5, g6, g7, g8⟩ := stCells_ok [v] h (add a i) r e w hobj hsp hver hnro (by simp only [add, List.length_cons, List.length_nil]; omega) (by simpa using ho)
  refine ⟨h', e1, g6, ⟨⟨by simpa using hll, rdl.nil, fun p hp j u hj => ?_, rdl.cap⟩, a, r', e, ha, g1, hsp, g2, by rw [g5]; exact hnro, by rw [g3]; exact hoff, hcap⟩, fun h0 x0 hf => ?_⟩
  · rw [ha] at hp
    simp only [Option.some.injEq] at hp
    subst hp
    refine ⟨by rw [g4]; exact hlt, ?_⟩
    rw [ldCell_eq]
    show ldO (h'.objs.get a.block) _ = some u
    rw [show h'.objs.get a.block = some (.arr r') from g1]
    have g8' : ∀ j, r'.cells.get j = if a.off + i ≤ j ∧ j < a.off + i + 1 then (([v] : List Value)[j - (a.off + i)]?).map (⟨·, e⟩) else r.cells.get j := g8
    simp only [ldO, add, hsp]
    rw [g8']
    rw [List.getElem?_set] at hj
    by_cases hij : i = j
    · subst hij
      rw [if_pos rfl, if_pos hi] at hj
      rw [if_pos (by omega)]
      simp only [Nat.sub_self, List.getElem?_cons_zero, Option.map_some]
      have : e.ble e = true := by simp
      rw [this]; exact hj
    · rw [if_neg hij] at hj
      rw [if_neg (by omega)]
      have := (rdl.ld a ha j u hj).2
      rw [ldCell_eq] at this
      simp only [ldO, add, hobj, hsp] at this
      exact this
  · have hfa := hf a ha
    exact ⟨by rw [g4]; exact x0.size, g5.trans x0.nro, g6, fun B hB => by rw [g7 B (by simp only [add]; omega)]; exact x0.same B hB⟩
end Go.Abs
