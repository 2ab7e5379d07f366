/- Lemmas about the typed texts (joined: S1 S2 S3). -/
import Derived.Test.YtaebjajbogedkaaAbsF
/- Laws of memory for the typed texts: heaps that extend one another, slices that read as lists, buffers that are appended to and written. -/
set_option linter.unusedVariables false
set_option linter.unusedSimpArgs false
namespace Go.Abs
open Go
def ldO : Option AObj → Addr → Option Value
  | some (.arr r), a => match a.spot with
    | some e => match r.cells.get a.off with
      | some c => bif c.lo.ble e then some c.v else none
      | none => none
    | none => none
  | _, _ => none
theorem ldCell_eq (h : H) (a : Addr) : ldCell h a = ldO (h.objs.get a.block) a := by
  obtain ⟨b, o, sp⟩ := a
  unfold ldCell ldO
  cases h.objs.get b with
  | none => rfl
  | some o => cases o with
    | map es => rfl
    | arr r => cases sp <;> rfl
structure WF (h : H) : Prop where
  nro : h.nro ≤ h.size
  top : ∀ A, h.size ≤ A → h.objs.get A = none
  arr : ∀ A r, h.objs.get A = some (.arr r) → ∀ i c, r.cells.get i = some c → i < r.size
structure KP (h h' : H) : Prop where
  size : h.size ≤ h'.size
  nro : h'.nro = h.nro
  wf : WF h'
  ld : ∀ a v, a.block < h.size → ldCell h a = some v → ldCell h' a = some v
  non : ∀ A, A < h.size → h.objs.get A = none → h'.objs.get A = none
  som : ∀ A, h.objs.get A ≠ none → h'.objs.get A ≠ none
  st : h'.st = h.st
theorem KP.refl {h : H} (w : WF h) : KP h h := ⟨Nat.le_refl _, rfl, w, fun _ _ _ x => x, fun _ _ x => x, fun _ x => x, rfl⟩
theorem KP.trans {h h1 h2 : H} (a : KP h h1) (b : KP h1 h2) : KP h h2 :=
  ⟨Nat.le_trans a.size b.size, b.nro.trans a.nro, b.wf, fun p v hp hl => b.ld p v (Nat.lt_of_lt_of_le hp a.size) (a.ld p v hp hl), fun A hA hn => b.non A (Nat.lt_of_lt_of_le hA a.size) (a.non A hA hn), fun A x => b.som A (a.som A x), b.st.trans a.st⟩
/-- a heap that has more blocks; what was there stays as it was -/
structure EX (h h' : H) : Prop where
  size : h.size ≤ h'.size
  nro : h'.nro = h.nro
  wf : WF h'
  same : ∀ A, A < h.size → h'.objs.get A = h.objs.get A
  st : h'.st = h.st
theorem EX.refl {h : H} (w : WF h) : EX h h := ⟨Nat.le_refl _, rfl, w, fun _ _ => rfl, rfl⟩
theorem EX.trans {h h1 h2 : H} (a : EX h h1) (b : EX h1 h2) : EX h h2 :=
  ⟨Nat.le_trans a.size b.size, b.nro.trans a.nro, b.wf, fun A hA => (b.same A (Nat.lt_of_lt_of_le hA a.size)).trans (a.same A hA), b.st.trans a.st⟩
theorem EX.kp {h h' : H} (w : WF h) (x : EX h h') : KP h h' :=
  ⟨x.size, x.nro, x.wf, fun a v ha hl => by rw [ldCell_eq] at hl ⊢; rw [x.same _ ha]; exact hl, fun A hA hn => by rw [x.same A hA]; exact hn, fun A hs => by
    rcases Nat.lt_or_ge A h.size with y | y
    · rw [x.same A y]; exact hs
    · exact absurd (w.top A y) hs, x.st⟩
theorem EX.ld {h h' : H} (x : EX h h') (a : Addr) (v : Value) (ha : a.block < h.size) (hl : ldCell h a = some v) : ldCell h' a = some v := by
  rw [ldCell_eq] at hl ⊢; rw [x.same _ ha]; exact hl
/-- fresh: behind an older heap -/
def Fr (n : Nat) (s : Sl) : Prop := ∀ a, s.base = some a → n ≤ a.block
/-! lists of cells -/
theorem add_add (a : Addr) (i j : Nat) : add (add a i) j = add a (i + j) := by simp [add, Nat.add_assoc]
theorem addA_zero (a : Addr) : add a 0 = a := by simp [add]
theorem ldCells_of {h : H} : ∀ (l : List Value) (a : Addr), (∀ i v, l[i]? = some v → ldCell h (add a i) = some v) → ldCells h a l.length = some l
  | [], a, _ => rfl
  | x :: l, a, g => by
    have h1 := g 0 x rfl
    rw [addA_zero] at h1
    have ih := ldCells_of (h := h) l (add a 1) (fun i v hi => by rw [add_add]; have := g (i + 1) v (by simpa using hi); rwa [Nat.add_comm] at this)
    simp [ldCells, h1, ih]
theorem ldCells_get {h : H} : ∀ (n : Nat) (a : Addr) (l : List Value), ldCells h a n = some l → l.length = n ∧ ∀ i v, l[i]? = some v → ldCell h (add a i) = some v
  | 0, a, l, e => by simp [ldCells] at e; subst e; exact ⟨rfl, fun i v hi => by simp at hi⟩
  | n + 1, a, l, e => by
    simp only [ldCells] at e
    split at e
    · rename_i v hv
      split at e
      · rename_i l' hl'
        simp only [Option.some.injEq] at e
        subst e
        obtain ⟨h1, h2⟩ := ldCells_get n (add a 1) l' hl'
        refine ⟨by simp [h1], fun i w hi => ?_⟩
        cases i with
        | zero => simp at hi; subst hi; rw [addA_zero]; exact hv
        | succ i => have := h2 i w (by simpa using hi); rw [add_add] at this; rwa [Nat.add_comm] at this
      · simp at e
    · simp at e
/-! slices that read as lists (of cells) -/
def CapOK (sz len cap : Nat) : Prop := match capK cap with
  | .exact k => len ≤ k
  | .unk z => z = sz
  | .unk0 z => z = sz ∧ len = 0
  | .any => True
structure Rd (sz : Nat) (h : H) (s : Sl) (l : List Value) : Prop where
  len : l.length = s.len * sz
  nil : s.base = none → s.len = 0 ∧ s.cap = 0
  ld : ∀ a, s.base = some a → ∀ i v, l[i]? = some v → a.block < h.size ∧ ldCell h (add a i) = some v
  cap : s.base ≠ none → CapOK sz s.len s.cap
theorem Rd.mono {sz : Nat} {h h' : H} {s : Sl} {l : List Value} (r : Rd sz h s l) (x : KP h h') : Rd sz h' s l :=
  ⟨r.len, r.nil, fun a ha i v hi => let ⟨h1, h2⟩ := r.ld a ha i v hi; ⟨Nat.lt_of_lt_of_le h1 x.size, x.ld _ v h1 h2⟩, r.cap⟩
theorem Rd.ex {sz : Nat} {h h' : H} {s : Sl} {l : List Value} (x : EX h h') (r : Rd sz h s l) : Rd sz h' s l :=
  ⟨r.len, r.nil, fun a ha i v hi => let ⟨h1, h2⟩ := r.ld a ha i v hi; ⟨Nat.lt_of_lt_of_le h1 x.size, x.ld _ v h1 h2⟩, r.cap⟩
theorem rd_nil (sz : Nat) (h : H) : Rd sz h ⟨none, 0, 0⟩ [] := ⟨by simp, fun _ => ⟨rfl, rfl⟩, fun a ha => by simp at ha, fun h => absurd rfl h⟩
theorem Rd.nilOf {sz : Nat} {h : H} {s : Sl} {l : List Value} (r : Rd sz h s l) (hn : s.base = none) : l = [] ∧ s = ⟨none, 0, 0⟩ := by
  obtain ⟨h1, h2⟩ := r.nil hn
  have := r.len
  rw [h1] at this
  refine ⟨List.eq_nil_of_length_eq_zero (by simpa using this), ?_⟩
  cases s; simp_all
theorem Rd.cells {sz : Nat} {h : H} {s : Sl} {l : List Value} (r : Rd sz h s l) {a : Addr} (ha : s.base = some a) : ldCells h a (s.len * sz) = some l := by
  rw [← r.len]; exact ldCells_of l a fun i v hi => (r.ld a ha i v hi).2
theorem Rd.first {sz : Nat} {h : H} {s : Sl} {l : List Value} (r : Rd sz h s l) : firstA h sz s.len (encSl s) = some l := by
  obtain ⟨b, n, c⟩ := s
  cases b with
  | none =>
    obtain ⟨h1, h2⟩ := r.nilOf rfl
    simp only [Sl.mk.injEq] at h2
    obtain ⟨_, rfl, rfl⟩ := h2
    subst h1; rfl
  | some a => exact r.cells rfl
/-! buffers: what may be appended to and written -/
structure Buf (sz : Nat) (h : H) (s : Sl) (l : List Value) : Prop where
  rd : Rd sz h s l
  tip : s.base = none ∨ ∃ a r e, s.base = some a ∧ h.objs.get a.block = some (.arr r) ∧ a.spot = some e ∧ r.ver = e ∧ h.nro ≤ a.block ∧ a.off + s.len * sz = r.size ∧ (match capK s.cap with | .exact k => k = s.len | .any => False | _ => True)
theorem buf_nil (sz : Nat) (h : H) : Buf sz h ⟨none, 0, 0⟩ [] := ⟨rd_nil sz h, .inl rfl⟩
theorem Buf.ex {sz : Nat} {h h' : H} {s : Sl} {l : List Value} (w : WF h) (x : EX h h') (r : Buf sz h s l) : Buf sz h' s l := by
  refine ⟨r.rd.ex x, ?_⟩
  rcases r.tip with ht | ⟨a, q, e, h1, h2, h3, h4, h5, h6, h7⟩
  · exact .inl ht
  · have : a.block < h.size := by
      rcases Nat.lt_or_ge a.block h.size with y | y
      · exact y
      · rw [w.top _ y] at h2; simp at h2
    exact .inr ⟨a, q, e, h1, (x.same _ this).trans h2, h3, h4, by rw [x.nro]; exact h5, h6, h7⟩
/-! new blocks -/
theorem wf_new {h : H} (w : WF h) (e : TypeId) (l : List Value) : EX h (newAt (grow h 1) h.size (row e l)) := by
  have get : ∀ A, (newAt (grow h 1) h.size (row e l)).objs.get A = if A = h.size then some (row e l) else h.objs.get A := fun A => Tr.get_set _ _ _ _
  refine ⟨by simp [newAt, grow], rfl, ⟨by have := w.nro; simp [newAt, grow]; omega, fun A hA => ?_, fun A r hr i c hc => ?_⟩, fun A hA => ?_, rfl⟩
  · have hA' : h.size + 1 ≤ A := hA
    rw [get, if_neg (by omega)]; exact w.top A (by omega)
  · rw [get] at hr
    split at hr
    · simp only [row, Option.some.injEq, AObj.arr.injEq] at hr
      subst hr
      simp only [get_ofL] at hc
      cases hl : l[i]? with
      | none => rw [hl] at hc; simp at hc
      | some v => exact (List.getElem?_eq_some_iff.1 hl).1
    · exact w.arr A r hr i c hc
  · rw [get, if_neg (by omega)]
theorem ld_new {h : H} (e : TypeId) (l : List Value) (i : Nat) (v : Value) (hi : l[i]? = some v) : ldCell (newAt (grow h 1) h.size (row e l)) ⟨h.size, i, some 0⟩ = some v := by
  rw [ldCell_eq]
  have : (newAt (grow h 1) h.size (row e l)).objs.get h.size = some (row e l) := by
    show (Tr.set _ _ _).get _ = _
    rw [Tr.get_set, if_pos rfl]
  show ldO ((newAt (grow h 1) h.size (row e l)).objs.get h.size) _ = _
  rw [this]
  simp only [row, ldO, get_ofL, hi]
  rfl
theorem rd_new {h : H} (e : TypeId) (sz n cap : Nat) (l : List Value) (hl : l.length = n * sz) (hc : CapOK sz n cap) : Rd sz (newAt (grow h 1) h.size (row e l)) ⟨some ⟨h.size, 0, some 0⟩, n, cap⟩ l := by
  refine ⟨hl, fun h => by simp at h, fun a ha i v hi => ?_, fun _ => hc⟩
  simp only [Option.some.injEq] at ha
  subst ha
  refine ⟨by simp [newAt, grow], ?_⟩
  have := ld_new (h := h) e l i v hi
  simpa [add] using this
theorem buf_new {h : H} (w : WF h) (e : TypeId) (sz n cap : Nat) (l : List Value) (hl : l.length = n * sz) (hc : CapOK sz n cap) (hk : match capK cap with | .exact k => k = n | .any => False | _ => True) : Buf sz (newAt (grow h 1) h.size (row e l)) ⟨some ⟨h.size, 0, some 0⟩, n, cap⟩ l := by
  refine ⟨rd_new e sz n cap l hl hc, .inr ⟨_, ⟨e, l.length, 0, ofL l⟩, 0, rfl, ?_, rfl, rfl, w.nro, ?_, hk⟩⟩
  · show (Tr.set _ _ _).get _ = _
    rw [Tr.get_set, if_pos rfl]; rfl
  · simp [hl]
/-! append in place -/
theorem ex_tip {h : H} (w : WF h) {A : Nat} {r : Arr} (hA : h.objs.get A = some (.arr r)) (l : List Value) (e' : Nat) : 
    KP h { h with tick := h.tick + 1, objs := h.objs.set A (.arr { r with size := r.size + l.length, ver := e', cells := setL r.cells r.size e' l }) } := by
  have hlt : A < h.size := by
    rcases Nat.lt_or_ge A h.size with x | x
    · exact x
    · rw [w.top A x] at hA; simp at hA
  refine ⟨Nat.le_refl _, rfl, ⟨w.nro, fun B hB => ?_, fun B r' hr i c hc => ?_⟩, fun a v ha hl => ?_, fun B hB hn => ?_, fun B hn => ?_, rfl⟩
  · show (Tr.set _ _ _).get _ = _
    have hB' : h.size ≤ B := hB
    rw [Tr.get_set, if_neg (by omega)]; exact w.top B hB'
  · replace hr : (Tr.set h.objs A _).get B = some (.arr r') := hr
    rw [Tr.get_set] at hr
    split at hr
    · simp only [Option.some.injEq, AObj.arr.injEq] at hr
      subst hr
      simp only [get_setL] at hc ⊢
      split at hc
      · omega
      · have := w.arr A r hA i c hc; omega
    · exact w.arr B r' hr i c hc
  · rw [ldCell_eq] at hl ⊢
    show ldO ((Tr.set h.objs A _).get a.block) a = some v
    rw [Tr.get_set]
    split
    · rename_i e; rw [e, hA] at hl
      unfold ldO at hl ⊢
      simp only at hl ⊢
      split at hl
      · rename_i sp hsp
        split at hl
        · rename_i c hc
          have := w.arr A r hA _ c hc
          rw [get_setL, if_neg (by omega), hc]
          exact hl
        · simp at hl
      · simp at hl
    · exact hl
  · show (Tr.set _ _ _).get _ = _
    rw [Tr.get_set, if_neg (by intro e; subst e; rw [hA] at hn; simp at hn)]; exact hn
  · show (Tr.set _ _ _).get _ ≠ none
    rw [Tr.get_set]
    split
    · simp
    · exact hn
theorem ex_tip0 {h0 h : H} (x0 : EX h0 h) {A : Nat} (hA : h0.size ≤ A) {h' : H} (k : KP h h') {ob : AObj} (ho : h'.objs = h.objs.set A ob) : EX h0 h' :=
  ⟨Nat.le_trans x0.size k.size, k.nro.trans x0.nro, k.wf, fun B hB => by rw [ho, Tr.get_set, if_neg (by omega)]; exact x0.same B hB, k.st.trans x0.st⟩
theorem slEta (s : Sl) : (⟨s.base, s.len, s.cap⟩ : Sl) = s := rfl
def decSl : Option OpR → H → Option (Sl × H)
  | some (.val (.slice a l c) h'), _ => some (⟨a, l, c⟩, h')
  | some (.new ob mk), h => match mk h.size with
    | .slice a l c => some (⟨a, l, c⟩, newAt (grow h 1) h.size ob)
    | _ => none
  | _, _ => none
/-- append -/
theorem appR_buf {e sz bytes : Nat} (hz : 0 < sz) (hz2 : sz < B63) {h : H} {s : Sl} {l m : List Value} {n : Nat} (w : WF h) (hs : Buf sz h s l) (hm : m.length = n * sz) (hb : (s.len + n) * bytes ≤ 2 ^ 47) (hb2 : s.len + n ≤ 2 ^ 62) (z : Value) :
    ∃ s' h', decR slY h (appR h e (tyS sz bytes z) (encSl s) m n) = some (s', h') ∧ KP h h' ∧ (∀ h0, EX h0 h → Fr h0.size s → EX h0 h') ∧ Buf sz h' s' (l ++ m) ∧ s'.len = s.len + n ∧ (n = 0 ∧ s' = s ∧ h' = h ∨ ∃ a', s'.base = some a' ∧ (h.size ≤ a'.block ∨ ∃ a, s.base = some a ∧ a.block = a'.block)) := by
  obtain ⟨b, len, cap⟩ := s
  unfold appR encSl
  simp only
  by_cases hn : n = 0
  · subst hn
    have : m = [] := List.eq_nil_of_length_eq_zero (by simpa using hm)
    subst this
    refine ⟨⟨b, len, cap⟩, h, rfl, KP.refl w, fun _ x _ => x, by simpa using hs, rfl, .inl ⟨rfl, rfl, rfl⟩⟩
  have hnb : n.beq 0 = false := nbeq_f hn
  have hbb : (((len + n) * bytes).ble (2 ^ 47) && (len + n).ble (2 ^ 62)) = true := by simp only [Bool.and_eq_true, Nat.ble_eq]; exact ⟨hb, hb2⟩
  have hbb' : (((len + n) * (tyS sz bytes z).bytes).ble (2 ^ 47) && (len + n).ble (2 ^ 62)) = true := hbb
  rw [hnb, hbb']
  simp only [Bool.not_true, cond_false]
  cases b with
  | none =>
    obtain ⟨h1, h2⟩ := hs.rd.nilOf rfl
    simp only [Sl.mk.injEq] at h2
    obtain ⟨_, rfl, rfl⟩ := h2
    subst h1
    refine ⟨⟨some ⟨h.size, 0, some 0⟩, n, UNK sz⟩, _, rfl, (wf_new w e m).kp w, fun _ x _ => x.trans (wf_new w e m), ?_, by simp, .inr ⟨_, rfl, .inl (Nat.le_refl _)⟩⟩
    rw [List.nil_append]
    exact buf_new w e sz n (UNK sz) m hm (by unfold CapOK; rw [capK_UNK _ hz2]) (by rw [capK_UNK _ hz2]; trivial)
  | some a =>
    rcases hs.tip with ht | ⟨a', r, ev, ha, hobj, hsp, hver, hnro, hoff, hcap⟩
    · simp at ht
    simp only [Option.some.injEq] at ha
    subst ha
    have hcells := hs.rd.cells (a := a) rfl
    simp only at hcells hoff hcap
    have hll := hs.rd.len
    simp only at hll
    simp only [show (tyS sz bytes z).size = sz from rfl]
    have mul : (len + n) * sz = len * sz + n * sz := Nat.add_mul _ _ _
    have npos : 0 < n * sz := Nat.mul_pos (by omega) hz
    cases hck : capK cap with
    | any => rw [hck] at hcap; exact hcap.elim
    | exact k =>
      rw [hck] at hcap
      simp only at hcap
      subst hcap
      have hle : (k + n).ble k = false := by rw [Bool.eq_false_iff]; intro x; simp only [Nat.ble_eq] at x; omega
      simp only [hle, cond_false, hcells]
      refine ⟨⟨some ⟨h.size, 0, some 0⟩, k + n, UNK sz⟩, _, rfl, (wf_new w e (l ++ m)).kp w, fun _ x _ => x.trans (wf_new w e (l ++ m)), ?_, rfl, .inr ⟨_, rfl, .inl (Nat.le_refl _)⟩⟩
      exact buf_new w e sz (k + n) (UNK sz) (l ++ m) (by simp; omega) (by unfold CapOK; rw [capK_UNK _ hz2]) (by rw [capK_UNK _ hz2]; trivial)
    | unk z' =>
      have hzz : z' = sz := by have := hs.rd.cap (by simp); unfold CapOK at this; rw [hck] at this; exact this
      subst hzz
      have c1 : (ev.beq r.ver && h.nro.ble a.block && (a.off + len * z').ble r.size && (0).blt z') = true := by
        simp only [Bool.and_eq_true, nbeq_eq, Nat.ble_eq, Nat.blt_eq]
        exact ⟨⟨⟨hver.symm, hnro⟩, by omega⟩, hz⟩
      have c2 : (a.off + (len + n) * z').ble r.size = false := by rw [Bool.eq_false_iff]; intro x; simp only [Nat.ble_eq] at x; omega
      simp only [nbeq_t rfl, cond_true, hobj, hsp, c1, c2, cond_false]
      have hsz : a.off + (len + n) * z' = r.size + m.length := by omega
      have kp : KP h { h with tick := h.tick + 1, objs := h.objs.set a.block (.arr { r with size := a.off + (len + n) * z', ver := ev + 1, cells := setL r.cells (a.off + len * z') (ev + 1) m }) } := by
        rw [hsz, hoff]; exact ex_tip w hobj m (ev + 1)
      refine ⟨⟨some ⟨a.block, a.off, some (ev + 1)⟩, len + n, cap⟩, _, rfl, kp, fun h0 x0 hf => ex_tip0 x0 (hf a rfl) kp rfl, ⟨⟨?_, fun x => by simp at x, ?_, fun _ => ?_⟩, ?_⟩, rfl, .inr ⟨_, rfl, .inr ⟨a, rfl, rfl⟩⟩⟩
      · simp; omega
      · intro p hp i v hi
        simp only [Option.some.injEq] at hp
        subst hp
        refine ⟨?_, ?_⟩
        · show a.block < h.size
          rcases Nat.lt_or_ge a.block h.size with x | x
          · exact x
          · rw [w.top _ x] at hobj; simp at hobj
        · rw [ldCell_eq]
          show ldO ((Tr.set h.objs a.block _).get a.block) _ = some v
          rw [Tr.get_set, if_pos rfl]
          simp only [ldO, add, get_setL, hoff]
          by_cases hi2 : i < l.length
          · rw [List.getElem?_append_left hi2] at hi
            have hl := (hs.rd.ld a rfl i v hi).2
            rw [ldCell_eq] at hl
            simp only [add, hobj, ldO, hsp] at hl
            rw [if_neg (by omega)]
            cases hc : r.cells.get (a.off + i) with
            | none => rw [hc] at hl; simp at hl
            | some c =>
              rw [hc] at hl
              simp only at hl ⊢
              cases hlo : c.lo.ble ev with
              | false => rw [hlo] at hl; simp at hl
              | true =>
                rw [hlo] at hl
                have : c.lo.ble (ev + 1) = true := by simp only [Nat.ble_eq] at hlo ⊢; omega
                rw [this]; exact hl
          · have hi3 := (List.getElem?_eq_some_iff.1 hi).1
            simp at hi3
            rw [List.getElem?_append_right (by omega)] at hi
            rw [if_pos (by omega), show a.off + i - r.size = i - l.length by omega, hi]
            simp only [Option.map_some]
            have : (ev + 1).ble (ev + 1) = true := by simp
            rw [this]; rfl
      · unfold CapOK; rw [hck]
      · refine .inr ⟨⟨a.block, a.off, some (ev + 1)⟩, { r with size := a.off + (len + n) * z', ver := ev + 1, cells := setL r.cells (a.off + len * z') (ev + 1) m }, ev + 1, rfl, ?_, rfl, rfl, hnro, ?_, by simp only [hck]⟩
        · show (Tr.set _ _ _).get _ = _
          rw [Tr.get_set, if_pos rfl]
        · rfl
    | unk0 z' =>
      have hzz : z' = sz ∧ len = 0 := by have := hs.rd.cap (by simp); unfold CapOK at this; rw [hck] at this; exact this
      obtain ⟨rfl, rfl⟩ := hzz
      have c1 : (ev.beq r.ver && h.nro.ble a.block && (a.off + 0 * z').ble r.size && r.size.blt (a.off + (0 + n) * z') && (0).blt z') = true := by
        simp only [Bool.and_eq_true, nbeq_eq, Nat.ble_eq, Nat.blt_eq]
        exact ⟨⟨⟨⟨hver.symm, hnro⟩, by omega⟩, by omega⟩, hz⟩
      simp only [nbeq_t rfl, cond_true, hobj, hsp, c1]
      have hsz : a.off + (0 + n) * z' = r.size + m.length := by omega
      have hl0 : l = [] := List.eq_nil_of_length_eq_zero (by simpa using hll)
      subst hl0
      have kp : KP h { h with tick := h.tick + 1, objs := h.objs.set a.block (.arr { r with size := a.off + (0 + n) * z', ver := ev + 1, cells := setL r.cells (a.off + 0 * z') (ev + 1) m }) } := by
        rw [hsz, hoff]; exact ex_tip w hobj m (ev + 1)
      refine ⟨⟨some ⟨a.block, a.off, some (ev + 1)⟩, 0 + n, UNK z'⟩, _, rfl, kp, fun h0 x0 hf => ex_tip0 x0 (hf a rfl) kp rfl, ⟨⟨?_, fun x => by simp at x, ?_, fun _ => ?_⟩, ?_⟩, rfl, .inr ⟨_, rfl, .inr ⟨a, rfl, rfl⟩⟩⟩
      · simp; omega
      · intro p hp i v hi
        simp only [Option.some.injEq] at hp
        subst hp
        refine ⟨?_, ?_⟩
        · show a.block < h.size
          rcases Nat.lt_or_ge a.block h.size with x | x
          · exact x
          · rw [w.top _ x] at hobj; simp at hobj
        · rw [ldCell_eq]
          show ldO ((Tr.set h.objs a.block _).get a.block) _ = some v
          rw [Tr.get_set, if_pos rfl]
          simp only [ldO, add, get_setL, hoff]
          rw [List.nil_append] at hi
          have hi3 := (List.getElem?_eq_some_iff.1 hi).1
          rw [if_pos (by omega), show a.off + i - r.size = i by omega, hi]
          simp only [Option.map_some]
          have : (ev + 1).ble (ev + 1) = true := by simp
          rw [this]; rfl
      · unfold CapOK; rw [capK_UNK _ hz2]
      · refine .inr ⟨⟨a.block, a.off, some (ev + 1)⟩, { r with size := a.off + (0 + n) * z', ver := ev + 1, cells := setL r.cells (a.off + 0 * z') (ev + 1) m }, ev + 1, rfl, ?_, rfl, rfl, hnro, ?_, by simp only [capK_UNK _ hz2]⟩
        · show (Tr.set _ _ _).get _ = _
          rw [Tr.get_set, if_pos rfl]
        · rfl
end Go.Abs
/- Laws of memory for the typed texts: append, indexing, slicing, stores, strings. -/
set_option linter.unusedVariables false
set_option linter.unusedSimpArgs false
namespace Go.Abs
open Go
theorem DSE_e (e : TypeId) (j : TyI) : (DSE e j).ty.get e = some j := by
  unfold DSE; rw [Tr.get_set, if_neg (by omega), Tr.get_set, if_neg (by omega), Tr.get_set, if_pos rfl]
theorem DSE_s (e : TypeId) (j : TyI) : (DSE e j).ty.get (e + 1) = some ⟨1, 24, .slice none 0 0, .slice e, false⟩ := by
  unfold DSE; rw [Tr.get_set, if_neg (by omega), Tr.get_set, if_pos rfl]
theorem DSE_t (e : TypeId) (j : TyI) : (DSE e j).ty.get (e + 2) = some ⟨1, 16, .string .empty, .string, false⟩ := by
  unfold DSE; rw [Tr.get_set, if_pos rfl]
theorem elem_DSE (e : TypeId) (j : TyI) : elemOf (DSE e j) (e + 1) = some (e, j) := by
  unfold elemOf; rw [DSE_s]; simp [DSE_e]
theorem appT_ok {e sz bytes : Nat} (hz : 0 < sz) (hz2 : sz < B63) {h : H} {s x : Sl} {l m : List Value} (w : WF h) (hs : Buf sz h s l) (hx : Rd sz h x m) (ho : m.all oneC = true) (hb : (s.len + x.len) * bytes ≤ 2 ^ 47) (hb2 : s.len + x.len ≤ 2 ^ 62) :
    ∃ s' h', appT e sz bytes h s x = some (s', h') ∧ KP h h' ∧ (∀ h0, EX h0 h → Fr h0.size s → EX h0 h') ∧ Buf sz h' s' (l ++ m) ∧ s'.len = s.len + x.len ∧ ∀ n, n ≤ h.size → Fr n s → Fr n s' := by
  obtain ⟨s', h', h1, h2, h2', h3, h4, h5⟩ := appR_buf (e := e) hz hz2 w hs hx.len hb hb2 .nilFunc
  refine ⟨s', h', ?_, h2, h2', h3, h4, ?_⟩
  · have hA : appA (DSE e (tyS sz bytes .nilFunc)) h #[e + 1, e + 1] (encSl s) (encSl x) = appR h e (tyS sz bytes .nilFunc) (encSl s) m x.len := by
      have hf := hx.first
      unfold appA
      rw [show (#[e + 1, e + 1] : Array TypeId)[0]? = some (e + 1) from rfl, show (#[e + 1, e + 1] : Array TypeId)[1]? = some (e + 1) from rfl]
      simp only [elem_DSE, DSE_s]
      unfold encSl at hf ⊢
      simp only [show (tyS sz bytes .nilFunc).size = sz from rfl, hf, ho, cond_true]
    unfold appT
    rw [hA]
    exact h1
  · intro n hn hf a ha
    rcases h5 with ⟨_, rfl, _⟩ | ⟨a', ha', h6⟩
    · exact hf a ha
    · rw [ha'] at ha; cases ha
      rcases h6 with h6 | ⟨b, hb1, hb2⟩
      · omega
      · have := hf b hb1; omega
/-! indexing -/
theorem idx_in {n : Nat} {i : Int} (k : IntKind) (h0 : 0 ≤ i) (h1 : i < n) : idx n (.int k i) = some i.toNat := by
  unfold idx; simp [h0, h1]
theorem ixT_ok {sz : Nat} {h : H} {s : Sl} {l : List Value} (r : Rd sz h s l) {i : Int} (h0 : 0 ≤ i) (h1 : i < s.len) : ∃ a, s.base = some a ∧ ixT sz s i = some (add a (i.toNat * sz)) := by
  obtain ⟨b, n, c⟩ := s
  cases b with
  | none => have := (r.nil rfl).1; simp only at this h1; omega
  | some a =>
    refine ⟨a, rfl, ?_⟩
    have hi : idxAddr (DSE 0 (tyS sz 0 .nilFunc)) 1 (encSl ⟨some a, n, c⟩) (.int .i64 i) = some (.pointer (some (add a (i.toNat * sz)))) := by
      have hd := idx_in .i64 h0 h1
      unfold idxAddr encSl
      simp only [show (DSE 0 (tyS sz 0 .nilFunc)).ty.get 1 = some ⟨1, 24, .slice none 0 0, .slice 0, false⟩ from DSE_s 0 _, DSE_e] at hd ⊢
      rw [hd]; rfl
    unfold ixT
    rw [hi]; rfl
theorem ldI_of {k : IntKind} {h : H} {a : Addr} {n : Int} (e : ldCell h a = some (.int k n)) : ldI k h a = some n := by
  unfold ldI; rw [e]; simp [decO, decV, decL, Z.dec, asInt]; rfl
theorem ldL_of {h : H} {a : Addr} {s : Sl} (e : ldCell h a = some (encSl s)) : ldL h a = some s := by
  unfold ldL; rw [e]; rfl
/-- whole numbers -/
def RdI (k : IntKind) (h : H) (s : Sl) (zs : List Int) : Prop := Rd 1 h s (zs.map (.int k))
theorem RdI.len {k : IntKind} {h : H} {s : Sl} {zs : List Int} (r : RdI k h s zs) : s.len = zs.length := by
  have := Rd.len r; simpa using this.symm
theorem RdI.at {k : IntKind} {h : H} {s : Sl} {zs : List Int} (r : RdI k h s zs) {i : Int} (h0 : 0 ≤ i) (h1 : i < zs.length) : ∃ a, s.base = some a ∧ ixT 1 s i = some (add a i.toNat) ∧ ldI k h (add a i.toNat) = some (zs.getD i.toNat 0) := by
  obtain ⟨a, ha, hi⟩ := ixT_ok r h0 (by rw [r.len]; exact h1)
  refine ⟨a, ha, by simpa using hi, ldI_of (Rd.ld r a ha i.toNat _ ?_).2⟩
  have : i.toNat < zs.length := by omega
  simp [List.getD, this]
/-- bytes -/
def vB (l : List UInt8) : List Value := l.map fun b => .int .u8 (b.toNat : Int)
def RdB (h : H) (s : Sl) (l : List UInt8) : Prop := Rd 1 h s (vB l)
def BufB (h : H) (s : Sl) (l : List UInt8) : Prop := Buf 1 h s (vB l)
theorem RdB.len {h : H} {s : Sl} {l : List UInt8} (r : RdB h s l) : s.len = l.length := by
  have := Rd.len r; simpa [vB] using this.symm
theorem RdB.mono {h h' : H} {s : Sl} {l : List UInt8} (r : RdB h s l) (x : KP h h') : RdB h' s l := Rd.mono r x
theorem RdB.ex {h h' : H} {s : Sl} {l : List UInt8} (x : EX h h') (r : RdB h s l) : RdB h' s l := Rd.ex x r
theorem BufB.ex {h h' : H} {s : Sl} {l : List UInt8} (w : WF h) (x : EX h h') (r : BufB h s l) : BufB h' s l := Buf.ex w x r
theorem RdB.at {h : H} {s : Sl} {l : List UInt8} (r : RdB h s l) {i : Int} (h0 : 0 ≤ i) (h1 : i < l.length) : ∃ a, s.base = some a ∧ ixT 1 s i = some (add a i.toNat) ∧ ldI .u8 h (add a i.toNat) = some ((l.getD i.toNat 0).toNat : Int) := by
  obtain ⟨a, ha, hi⟩ := ixT_ok r h0 (by rw [r.len]; exact h1)
  refine ⟨a, ha, by simpa using hi, ldI_of (Rd.ld r a ha i.toNat _ ?_).2⟩
  have : i.toNat < l.length := by omega
  simp [vB, List.getD, this]
theorem oneC_vB (l : List UInt8) : (vB l).all oneC = true := by
  simp [vB, oneC]
theorem oneC_ints (k : IntKind) (l : List Int) : (l.map (Value.int k)).all oneC = true := by
  simp [oneC]
theorem BufB.rd {h : H} {s : Sl} {l : List UInt8} (r : BufB h s l) : RdB h s l := Buf.rd r
theorem vB_append (a b : List UInt8) : vB (a ++ b) = vB a ++ vB b := by simp [vB]
theorem appB_ok {e : Nat} {h : H} {s x : Sl} {l m : List UInt8} (w : WF h) (hs : BufB h s l) (hx : RdB h x m) (hb : l.length + m.length ≤ 2 ^ 47) :
    ∃ s' h', appT e 1 1 h s x = some (s', h') ∧ KP h h' ∧ (∀ h0, EX h0 h → Fr h0.size s → EX h0 h') ∧ BufB h' s' (l ++ m) ∧ s'.len = s.len + x.len ∧ ∀ n, n ≤ h.size → Fr n s → Fr n s' := by
  have h1 := hs.rd.len; have h2 := hx.len
  obtain ⟨s', h', a, b, b', c, d, f⟩ := appT_ok (e := e) (bytes := 1) (by omega) (by unfold B63; omega) w hs hx (oneC_vB m) (by omega) (by omega)
  exact ⟨s', h', a, b, b', by unfold BufB; rw [vB_append]; exact c, d, f⟩
/-! slicing -/
theorem bnd_int {y : Nat} {i : Int} {k : IntKind} (h0 : 0 ≤ i) (h1 : i ≤ y) : bnd y (.int k i) = some i.toNat := by
  unfold bnd; simp [h0, h1]
theorem bndO_none (y d : Nat) : bndO y d none = some d := rfl
theorem bndO_int {y d : Nat} {i : Int} {k : IntKind} (h0 : 0 ≤ i) (h1 : i ≤ y) : bndO y d (some (.int k i)) = some i.toNat := by
  unfold bndO bnd; simp [h0, h1]
theorem capLow_ge (h : H) (a : Addr) {sz len cap : Nat} (hc : CapOK sz len cap) : len ≤ capLow h a len sz (capK cap) := by
  unfold CapOK at hc
  cases hk : capK cap with
  | exact k => rw [hk] at hc; exact hc
  | unk z =>
    unfold capLow
    simp only
    split
    · rw [cond_eq_ite]; split
      · exact Nat.le_max_left _ _
      · exact Nat.le_refl _
    · exact Nat.le_refl _
  | unk0 z => exact Nat.le_refl _
  | any => exact Nat.le_refl _
theorem ld_shift {sz : Nat} {h : H} {s : Sl} {l : List Value} (r : Rd sz h s l) {a : Addr} (ha : s.base = some a) (lo n : Nat) : ∀ i v, ((l.drop (lo * sz)).take (n * sz))[i]? = some v → a.block < h.size ∧ ldCell h (add (add a (lo * sz)) i) = some v := by
  intro i v hi
  rw [add_add]
  have hlt := (List.getElem?_eq_some_iff.1 hi).1
  simp at hlt
  rw [List.getElem?_take_of_lt (by omega), List.getElem?_drop] at hi
  exact r.ld a ha _ v hi
theorem slT_of {sz : Nat} {h : H} {s : Sl} {lo hi mx : Option Int} {b : Option Addr} {l c : Nat} (e : slA (DSE 0 (tyS sz 0 .nilFunc)) h 1 (encSl s) (lo.map (.int .i64)) (hi.map (.int .i64)) (mx.map (.int .i64)) = some (.slice b l c)) : slT sz h s lo hi mx = some ⟨b, l, c⟩ := by
  unfold slT; rw [e]; rfl
/-- the part of a slice: it hangs on the slice alone -/
def slV (sz : Nat) (s : Sl) (L N : Nat) : Sl := match s.base with
  | none => ⟨none, 0, 0⟩
  | some a => match capK s.cap with
    | .exact k => ⟨some (bif k.beq L then a else add a (L * sz)), N - L, k - L⟩
    | .unk z => bif L.beq 0 then ⟨some a, N, s.cap⟩ else bif N.beq L then ⟨some (add a (L * sz)), 0, UNK0 z⟩ else ⟨some (add a (L * sz)), N - L, s.cap⟩
    | .unk0 _ => ⟨some a, N, s.cap⟩
    | .any => ⟨some (add a (L * sz)), N - L, s.cap⟩
theorem slT_ok {sz : Nat} (hz : 0 < sz) (hz2 : sz < B63) {h : H} {s : Sl} {l : List Value} (r : Rd sz h s l) {lo hi : Option Int} {L N : Nat} (h1 : ∀ d, bndO N d (lo.map (.int .i64)) = some (if lo.isNone then d else L)) (h1' : lo.isNone = true → L = 0) (h2 : ∀ y, s.len ≤ y → bndO y s.len (hi.map (.int .i64)) = some N) (hLN : L ≤ N) (hN : N ≤ s.len) :
    ∃ s', slT sz h s lo hi none = some s' ∧ Rd sz h s' ((l.drop (L * sz)).take ((N - L) * sz)) ∧ s'.len = N - L ∧ s' = slV sz s L N ∧ ∀ n, Fr n s → Fr n s' := by
  obtain ⟨b, len, cap⟩ := s
  have hlo : bndO N 0 (lo.map (.int .i64)) = some L := by
    rw [h1 0]; split
    · rename_i hh; rw [h1' hh]
    · rfl
  have hll := r.len
  simp only at hll h2 hN
  have hlen : ((l.drop (L * sz)).take ((N - L) * sz)).length = (N - L) * sz := by
    have : N * sz ≤ len * sz := Nat.mul_le_mul_right _ hN
    have e : (N - L) * sz = N * sz - L * sz := Nat.sub_mul _ _ _
    have : L * sz ≤ N * sz := Nat.mul_le_mul_right _ hLN
    simp; omega
  suffices key : ∃ b' l' c', slA (DSE 0 (tyS sz 0 .nilFunc)) h 1 (encSl ⟨b, len, cap⟩) (lo.map (.int .i64)) (hi.map (.int .i64)) none = some (.slice b' l' c') ∧ Rd sz h ⟨b', l', c'⟩ ((l.drop (L * sz)).take ((N - L) * sz)) ∧ l' = N - L ∧ (⟨b', l', c'⟩ : Sl) = slV sz ⟨b, len, cap⟩ L N ∧ ∀ n, Fr n ⟨b, len, cap⟩ → Fr n ⟨b', l', c'⟩ by
    obtain ⟨b', l', c', k1, k2, k3, k5, k4⟩ := key
    exact ⟨_, slT_of k1, k2, k3, k5, k4⟩
  unfold slA encSl
  simp only [show (DSE 0 (tyS sz 0 .nilFunc)).ty.get 1 = some ⟨1, 24, .slice none 0 0, .slice 0, false⟩ from DSE_s 0 _, DSE_e]
  cases b with
  | none =>
    obtain ⟨e1, e2⟩ := r.nilOf rfl
    simp only [Sl.mk.injEq] at e2
    obtain ⟨_, rfl, rfl⟩ := e2
    subst e1
    obtain rfl : N = 0 := by omega
    obtain rfl : L = 0 := by omega
    have := h2 0 (Nat.le_refl _)
    simp only [bndO_none, this, hlo]
    refine ⟨none, 0, 0, rfl, by simpa using rd_nil sz h, rfl, rfl, fun n hf => by intro a ha; simp at ha⟩
  | some a =>
    have hcap := r.cap (by simp)
    simp only at hcap
    have hcl := capLow_ge h a hcap
    have e2 := h2 _ hcl
    simp only [DSE_e, show (tyS sz 0 .nilFunc).size = sz from rfl, e2, hlo]
    cases hk : capK cap with
    | exact k =>
      simp only
      have hck : len ≤ k := by unfold CapOK at hcap; rw [hk] at hcap; exact hcap
      have hk63 := capK_exact_lt hk
      have hkk : k - L < B63 := by omega
      refine ⟨_, _, _, rfl, ⟨hlen, fun x => by simp at x, ?_, fun _ => ?_⟩, rfl, by simp [slV, hk, *], ?_⟩
      · intro p hp i v hi
        simp only [Option.some.injEq] at hp
        subst hp
        obtain ⟨g1, g2⟩ := ld_shift r (a := a) rfl L (N - L) i v hi
        cases hkl : k.beq L with
        | false => exact ⟨g1, g2⟩
        | true =>
          have : k = L := Nat.eq_of_beq_eq_true hkl
          have hlt := (List.getElem?_eq_some_iff.1 hi).1
          rw [hlen, show N - L = 0 by omega] at hlt
          simp at hlt
      · unfold CapOK; rw [capK_exact hkk]; simp only; omega
      · intro n hf p hp
        simp only [Option.some.injEq] at hp
        subst hp
        have := hf a rfl
        cases k.beq L <;> exact this
    | unk z =>
      have hzz : z = sz := by unfold CapOK at hcap; rw [hk] at hcap; exact hcap
      subst hzz
      simp only
      cases hl0 : L.beq 0 with
      | true =>
        have : L = 0 := Nat.eq_of_beq_eq_true hl0
        subst this
        refine ⟨_, _, _, rfl, ⟨hlen, fun x => by simp at x, ?_, fun _ => ?_⟩, rfl, by simp [slV, hk, *], ?_⟩
        · intro p hp i v hi
          simp only [Option.some.injEq] at hp
          subst hp
          have := ld_shift r (a := a) rfl 0 (N - 0) i v hi
          simpa [addA_zero] using this
        · unfold CapOK; rw [hk]
        · intro n hf p hp; simp only [Option.some.injEq] at hp; subst hp; exact hf a rfl
      | false =>
        simp only [nbeq_t rfl, Bool.not_true, cond_false]
        cases hnl : N.beq L with
        | true =>
          have : N = L := Nat.eq_of_beq_eq_true hnl
          subst this
          refine ⟨some (add a (N * z)), 0, UNK0 z, rfl, ⟨by simp, fun x => by simp at x, ?_, fun _ => ?_⟩, by simp, by simp [slV, hk, *], ?_⟩
          · intro p hp i v hi; simp at hi
          · unfold CapOK; rw [capK_UNK0 _ hz2]; exact ⟨rfl, rfl⟩
          · intro n hf p hp; simp only [Option.some.injEq] at hp; subst hp; exact hf a rfl
        | false =>
          refine ⟨_, _, _, rfl, ⟨hlen, fun x => by simp at x, ?_, fun _ => ?_⟩, rfl, by simp [slV, hk, *], ?_⟩
          · intro p hp i v hi
            simp only [Option.some.injEq] at hp
            subst hp
            exact ld_shift r (a := a) rfl L (N - L) i v hi
          · unfold CapOK; rw [hk]
          · intro n hf p hp; simp only [Option.some.injEq] at hp; subst hp; exact hf a rfl
    | unk0 z =>
      have hzz : z = sz ∧ len = 0 := by unfold CapOK at hcap; rw [hk] at hcap; exact hcap
      obtain ⟨rfl, rfl⟩ := hzz
      obtain rfl : N = 0 := by omega
      obtain rfl : L = 0 := by omega
      simp only [show Nat.beq 0 0 = true from rfl, cond_true]
      refine ⟨_, _, _, rfl, ⟨hlen, fun x => by simp at x, ?_, fun _ => ?_⟩, rfl, by simp [slV, hk, *], ?_⟩
      · intro p hp i v hi; simp at hi
      · unfold CapOK; rw [hk]; exact ⟨rfl, rfl⟩
      · intro n hf p hp; simp only [Option.some.injEq] at hp; subst hp; exact hf a rfl
    | any =>
      simp only
      refine ⟨_, _, _, rfl, ⟨hlen, fun x => by simp at x, ?_, fun _ => ?_⟩, rfl, by simp [slV, hk, *], ?_⟩
      · intro p hp i v hi
        simp only [Option.some.injEq] at hp
        subst hp
        exact ld_shift r (a := a) rfl L (N - L) i v hi
      · unfold CapOK; rw [hk]; trivial
      · intro n hf p hp; simp only [Option.some.injEq] at hp; subst hp; exact hf a rfl
theorem sl_lohi {sz : Nat} (hz : 0 < sz) (hz2 : sz < B63) {h : H} {s : Sl} {l : List Value} (r : Rd sz h s l) {lo hi : Int} (h0 : 0 ≤ lo) (h1 : lo ≤ hi) (h2 : hi ≤ s.len) :
    ∃ s', slT sz h s (some lo) (some hi) none = some s' ∧ Rd sz h s' ((l.drop (lo.toNat * sz)).take ((hi.toNat - lo.toNat) * sz)) ∧ s'.len = hi.toNat - lo.toNat ∧ s' = slV sz s lo.toNat hi.toNat ∧ ∀ n, Fr n s → Fr n s' :=
  slT_ok hz hz2 r (fun d => by rw [Option.map_some, bndO_int h0 (by omega)]; rfl) (by simp) (fun y hy => by rw [Option.map_some, bndO_int (by omega) (by omega)]) (by omega) (by omega)
theorem sl_hi {sz : Nat} (hz : 0 < sz) (hz2 : sz < B63) {h : H} {s : Sl} {l : List Value} (r : Rd sz h s l) {hi : Int} (h1 : 0 ≤ hi) (h2 : hi ≤ s.len) :
    ∃ s', slT sz h s none (some hi) none = some s' ∧ Rd sz h s' (l.take (hi.toNat * sz)) ∧ s'.len = hi.toNat ∧ s' = slV sz s 0 hi.toNat ∧ ∀ n, Fr n s → Fr n s' := by
  have := slT_ok (lo := none) (hi := some hi) (L := 0) (N := hi.toNat) hz hz2 r (fun d => rfl) (fun _ => rfl) (fun y hy => by rw [Option.map_some, bndO_int (by omega) (by omega)]) (by omega) (by omega)
  simpa using this
theorem sl_lo {sz : Nat} (hz : 0 < sz) (hz2 : sz < B63) {h : H} {s : Sl} {l : List Value} (r : Rd sz h s l) {lo : Int} (h0 : 0 ≤ lo) (h1 : lo ≤ s.len) :
    ∃ s', slT sz h s (some lo) none none = some s' ∧ Rd sz h s' (l.drop (lo.toNat * sz)) ∧ s'.len = s.len - lo.toNat ∧ s' = slV sz s lo.toNat s.len ∧ ∀ n, Fr n s → Fr n s' := by
  have := slT_ok (lo := some lo) (hi := none) (L := lo.toNat) (N := s.len) hz hz2 r (fun d => by rw [Option.map_some, bndO_int h0 (by omega)]; rfl) (by simp) (fun y hy => rfl) (by omega) (by omega)
  have e : (l.drop (lo.toNat * sz)).take ((s.len - lo.toNat) * sz) = l.drop (lo.toNat * sz) := by
    apply List.take_of_length_le
    have := r.len
    have : (s.len - lo.toNat) * sz = s.len * sz - lo.toNat * sz := Nat.sub_mul _ _ _
    simp; omega
  rwa [e] at this
/-- Clip -/
theorem clip_ok {sz : Nat} (hz : 0 < sz) (hz2 : sz < B63) {h : H} {s : Sl} {l : List Value} (r : Rd sz h s l) (hl : s.len < B63) :
    ∃ s', slT sz h s none (some (s.len : Int)) (some (s.len : Int)) = some s' ∧ Rd sz h s' l ∧ s'.len = s.len ∧ (s.base = none → s'.base = none) ∧ ∀ n, Fr n s → Fr n s' := by
  obtain ⟨b, len, cap⟩ := s
  suffices key : ∃ b' l' c', slA (DSE 0 (tyS sz 0 .nilFunc)) h 1 (encSl ⟨b, len, cap⟩) none (some (.int .i64 (len : Int))) (some (.int .i64 (len : Int))) = some (.slice b' l' c') ∧ Rd sz h ⟨b', l', c'⟩ l ∧ l' = len ∧ (b = none → b' = none) ∧ ∀ n, Fr n ⟨b, len, cap⟩ → Fr n ⟨b', l', c'⟩ by
    obtain ⟨b', l', c', k1, k2, k3, k4, k5⟩ := key
    exact ⟨_, slT_of k1, k2, k3, k4, k5⟩
  unfold slA encSl
  simp only [show (DSE 0 (tyS sz 0 .nilFunc)).ty.get 1 = some ⟨1, 24, .slice none 0 0, .slice 0, false⟩ from DSE_s 0 _, DSE_e]
  cases b with
  | none =>
    obtain ⟨e1, e2⟩ := r.nilOf rfl
    simp only [Sl.mk.injEq] at e2
    obtain ⟨_, rfl, rfl⟩ := e2
    subst e1
    exact ⟨none, 0, 0, rfl, rd_nil sz h, rfl, fun _ => rfl, fun n hf a ha => by simp at ha⟩
  | some a =>
    have hcap := r.cap (by simp)
    simp only at hcap hl
    have hcl := capLow_ge h a hcap
    have b1 : bnd (capLow h a len sz (capK cap)) (.int .i64 (len : Int)) = some len := by
      have := bnd_int (y := capLow h a len sz (capK cap)) (i := (len : Int)) (k := .i64) (by omega) (by omega)
      simpa using this
    have b2 : bnd len (.int .i64 (len : Int)) = some len := by
      have := bnd_int (y := len) (i := (len : Int)) (k := .i64) (by omega) (by omega)
      simpa using this
    have u0 : (isUnk0 (capK cap) && !Nat.beq 0 0 || !len.blt B63) = false := by
      simp only [show Nat.beq 0 0 = true from rfl, Bool.not_true, Bool.and_false, Bool.false_or, Bool.not_eq_false']
      simp only [Nat.blt_eq]; exact hl
    simp only [DSE_e, show (tyS sz 0 .nilFunc).size = sz from rfl, b1, b2, bndO_none, u0, cond_false]
    refine ⟨some (bif len.beq 0 then a else add a (0 * sz)), len - 0, len - 0, rfl, ⟨by simpa using r.len, fun x => by simp at x, ?_, fun _ => ?_⟩, rfl, fun x => by simp at x, ?_⟩
    · intro p hp i v hi
      simp only [Option.some.injEq] at hp
      subst hp
      have := r.ld a rfl i v hi
      cases len.beq 0 <;> simpa [addA_zero] using this
    · unfold CapOK; rw [Nat.sub_zero, capK_exact hl]; exact Nat.le_refl _
    · intro n hf p hp
      simp only [Option.some.injEq] at hp
      subst hp
      have := hf a rfl
      cases len.beq 0 <;> simpa [add] using this
/-! strings -/
def bsOf (l : List UInt8) : ByteArray := ⟨l.toArray⟩
theorem bytesOf_vB : ∀ (l : List UInt8) (s : ByteArray), bytesOf (vB l) s = some ⟨s.data ++ l.toArray⟩
  | [], s => by simp [vB, bytesOf]
  | b :: l, s => by
    have := bytesOf_vB l (s.push b)
    simp only [vB, List.map_cons, bytesOf] at this ⊢
    have e : UInt8.ofNat ((b.toNat : Int).toNat) = b := by simp
    rw [e, this]
    simp [ByteArray.push]
theorem strT_ok {h : H} {s : Sl} {l : List UInt8} (r : RdB h s l) : strT h s = some (bsOf l, h) := by
  obtain ⟨b, len, cap⟩ := s
  suffices key : convA (DSE 0 tyB) h 1 2 (encSl ⟨b, len, cap⟩) = some (.val (.string (bsOf l)) h) by
    unfold strT; rw [key]; rfl
  unfold convA encSl
  simp only [show (DSE 0 tyB).ty.get 1 = some ⟨1, 24, .slice none 0 0, .slice 0, false⟩ from DSE_s 0 _, show (DSE 0 tyB).ty.get 2 = some ⟨1, 16, .string .empty, .string, false⟩ from DSE_t 0 _, DSE_e]
  cases b with
  | none =>
    obtain ⟨e1, e2⟩ := Rd.nilOf r rfl
    simp only [Sl.mk.injEq] at e2
    obtain ⟨_, rfl, rfl⟩ := e2
    have : l = [] := by simpa [vB] using e1
    subst this
    rfl
  | some a =>
    have hc := Rd.cells r (a := a) rfl
    simp only [Nat.mul_one] at hc
    simp only [DSE_e, tyB, hc, bytesOf_vB]
    simp [bsOf]; try rfl
theorem bsOf_toList (l : List UInt8) : (bsOf l).data.toList = l := by simp [bsOf]
end Go.Abs
/- A world, taken in: the machine's heap whose blocks are the world's, all of them to be read alone; laws with slices as parameters. -/
set_option linter.unusedVariables false
set_option linter.unusedSimpArgs false
namespace Go.Abs
open Go Go.RowKit
def trOf {α : Type} (f : Nat → Option α) : Nat → Tr α
  | 0 => .leaf
  | n + 1 => match f n with
    | some a => (trOf f n).set n a
    | none => trOf f n
theorem get_trOf {α : Type} (f : Nat → Option α) : ∀ (n i : Nat), (trOf f n).get i = if i < n then f i else none
  | 0, i => by simp [trOf, Tr.get]
  | n + 1, i => by
    have ih := get_trOf f n i
    unfold trOf
    cases hf : f n with
    | none =>
      simp only
      rw [ih]
      by_cases h1 : i = n
      · subst h1; simp [hf]
      · by_cases h2 : i < n
        · rw [if_pos h2, if_pos (by omega)]
        · rw [if_neg h2, if_neg (by omega)]
    | some a =>
      simp only
      rw [Tr.get_set]
      by_cases h1 : i = n
      · subst h1; simp [hf]
      · rw [if_neg h1, ih]
        by_cases h2 : i < n
        · rw [if_pos h2, if_pos (by omega)]
        · rw [if_neg h2, if_neg (by omega)]
def okA (W : World) (a : Addr) : Bool := a.spot.isNone && (match W.heap[a.block]? with | some (.cells _ _ _) => true | _ => false)
def absV (W : World) : Value → Option Value
  | .bool b => some (.bool b)
  | .int k n => some (.int k n)
  | .string s => some (.string s)
  | .pointer none => some (.pointer none)
  | .pointer (some a) => bif okA W a then some (.pointer (some ⟨a.block, a.off, some 0⟩)) else none
  | .slice none l c => bif l.beq 0 && c.beq 0 then some (.slice none 0 0) else none
  | .slice (some a) l c => bif l.ble c && (l.beq 0 || okA W a) then some (.slice (some ⟨a.block, a.off, some 0⟩) l ANY) else none
  | _ => none
def impArr (W : World) (el : TypeId) (cs : Array Value) : Arr :=
  ⟨el, cs.size, 1, trOf (fun i => (cs[i]?).map fun v => match absV W v with | some u => ⟨u, 0⟩ | none => ⟨.bool false, 1⟩) cs.size⟩
def impO (W : World) (A : Nat) : Option AObj := match W.heap[A]? with
  | some (.cells cs el _) => some (.arr (impArr W el cs))
  | _ => none
def impH (W : World) : H := ⟨W.heap.size, 0, W.heap.size, trOf (impO W) W.heap.size, false⟩
def impR (W : World) : Ren := fun A e => if e = 0 then (match W.heap[A]? with
  | some (.cells cs _ _) => some ⟨A, 0, 0, 0, cs.size⟩
  | _ => none) else none
theorem impR_some {W : World} {A e : Nat} {L : Loc} (h : impR W A e = some L) : e = 0 ∧ ∃ cs el f, W.heap[A]? = some (.cells cs el f) ∧ L = ⟨A, 0, 0, 0, cs.size⟩ ∧ A < W.heap.size := by
  unfold impR at h
  split at h
  · rename_i he
    split at h
    · rename_i cs el f hc
      simp only [Option.some.injEq] at h
      exact ⟨he, cs, el, f, hc, h.symm, (Array.getElem?_eq_some_iff.1 hc).1⟩
    · simp at h
  · simp at h
theorem okA_ar {W : World} {a : Addr} (h : okA W a = true) : AR (impR W) ⟨a.block, a.off, some 0⟩ a := by
  unfold okA at h
  simp only [Bool.and_eq_true, Option.isNone_iff_eq_none] at h
  obtain ⟨h1, h2⟩ := h
  split at h2
  · rename_i cs el f hc
    exact ⟨⟨a.block, 0, 0, 0, cs.size⟩, 0, rfl, by simp [impR, hc], rfl, h1, Nat.zero_le _, by simp⟩
  · simp at h2
theorem capK_ANY : capK ANY = .any := by
  unfold capK ANY B63; rfl
theorem absV_ok {W : World} {v u : Value} (h : absV W v = some u) : VR (impR W) u v := by
  cases v <;> try (simp [absV] at h; done)
  · simp only [absV, Option.some.injEq] at h; subst h; exact .bool _
  · simp only [absV, Option.some.injEq] at h; subst h; exact .int _ _
  · simp only [absV, Option.some.injEq] at h; subst h; exact .string _
  · rename_i a
    cases a with
    | none => simp only [absV, Option.some.injEq] at h; subst h; exact .ptr0
    | some a =>
      simp only [absV] at h
      rw [cond_eq_ite] at h
      split at h
      · rename_i hk; cases h; exact .ptr _ _ (okA_ar hk)
      · simp at h
  · rename_i a l c
    cases a with
    | none =>
      simp only [absV] at h
      rw [cond_eq_ite] at h
      split at h
      · rename_i hk; cases h
        simp only [Bool.and_eq_true, nbeq_eq] at hk
        obtain ⟨rfl, rfl⟩ := hk
        exact .slice0
      · simp at h
    | some a =>
      simp only [absV] at h
      rw [cond_eq_ite] at h
      split at h
      · rename_i hk; cases h
        simp only [Bool.and_eq_true, Nat.ble_eq, Bool.or_eq_true, nbeq_eq] at hk
        refine .slice _ _ _ _ _ ?_
        rw [capK_ANY]
        exact ⟨hk.1, hk.2.imp id okA_ar⟩
      · simp at h
theorem imp_get (W : World) (A : Nat) : (impH W).objs.get A = impO W A := by
  show (trOf (impO W) W.heap.size).get A = _
  rw [get_trOf]
  split
  · rfl
  · rename_i h
    unfold impO
    have : W.heap[A]? = none := by simp; omega
    rw [this]
theorem impO_arr {W : World} {A : Nat} {ob : AObj} (h : impO W A = some ob) : ∃ cs el f, W.heap[A]? = some (.cells cs el f) ∧ ob = .arr (impArr W el cs) := by
  unfold impO at h
  split at h
  · rename_i cs el f hc; simp only [Option.some.injEq] at h; exact ⟨cs, el, f, hc, h.symm⟩
  · simp at h
theorem impArr_get {W : World} {el : TypeId} {cs : Array Value} {i : Nat} {c : Cell} (h : (impArr W el cs).cells.get i = some c) : ∃ v, cs[i]? = some v ∧ i < cs.size ∧ c = (match absV W v with | some u => ⟨u, 0⟩ | none => ⟨.bool false, 1⟩) := by
  simp only [impArr, get_trOf] at h
  split at h
  · rename_i hi
    simp only [Option.map_eq_some_iff] at h
    obtain ⟨v, h1, h2⟩ := h
    exact ⟨v, h1, hi, h2.symm⟩
  · simp at h
theorem imp_wr (W : World) : WR (impR W) (impH W) W := by
  refine ⟨fun A e L h => ?_, fun A e L A' e' L' h h' hne hcb => ?_, fun A ob h => ?_, fun A ob h => ?_, Nat.le_refl _⟩
  · obtain ⟨_, cs, el, f, h1, rfl, h2⟩ := impR_some h; exact ⟨h2, h2⟩
  · obtain ⟨_, cs, el, f, h1, rfl, h2⟩ := impR_some h
    obtain ⟨_, cs', el', f', h1', rfl, h2'⟩ := impR_some h'
    exact absurd hcb hne
  · rw [imp_get] at h
    obtain ⟨cs, el, f, hc, rfl⟩ := impO_arr h
    have hlt : A < W.heap.size := (Array.getElem?_eq_some_iff.1 hc).1
    have hno : ¬ ((impH W).nro ≤ A) := by show ¬ (W.heap.size ≤ A); omega
    refine ⟨fun e L hL => ?_, fun ho => absurd ho hno, fun i hi => ?_, fun i c hi => ?_⟩
    · obtain ⟨rfl, cs', el', f', h1, rfl, h2⟩ := impR_some hL
      rw [hc] at h1
      simp only [Option.some.injEq, Obj.cells.injEq] at h1
      obtain ⟨rfl, rfl, rfl⟩ := h1
      refine ⟨Nat.zero_le _, fun h => by simp [impArr] at h, cs, el, f, hc, rfl, fun ho => absurd ho hno, fun i c hi hlo _ => ?_⟩
      obtain ⟨v, h1, h2, h3⟩ := impArr_get hi
      refine ⟨v, by simpa using h1, ?_⟩
      cases ha : absV W v with
      | none => rw [ha] at h3; subst h3; simp at hlo
      | some u => rw [ha] at h3; subst h3; exact absV_ok ha
    · have hi' : i < cs.size := hi
      refine ⟨(match absV W cs[i] with | some u => ⟨u, 0⟩ | none => ⟨.bool false, 1⟩), ?_⟩
      simp only [impArr, get_trOf, if_pos hi', Array.getElem?_eq_getElem hi', Option.map_some]
    · obtain ⟨v, h1, h2, h3⟩ := impArr_get hi
      refine ⟨h2, ?_⟩
      rw [h3]
      cases absV W v <;> simp [impArr]
  · rw [imp_get] at h
    obtain ⟨cs, el, f, hc, rfl⟩ := impO_arr h
    exact (Array.getElem?_eq_some_iff.1 hc).1
theorem imp_wf (W : World) : WF (impH W) := by
  refine ⟨Nat.le_refl _, fun A hA => ?_, fun A r h i c hc => ?_⟩
  · have hA' : W.heap.size ≤ A := hA
    rw [imp_get]; unfold impO
    have : W.heap[A]? = none := by simp; omega
    rw [this]
  · rw [imp_get] at h
    obtain ⟨cs, el, f, hc', h2⟩ := impO_arr h
    simp only [AObj.arr.injEq] at h2
    subst h2
    obtain ⟨v, h1, h2, h3⟩ := impArr_get hc
    exact h2
theorem imp_ld {W : World} {c : Addr} {v u : Value} (h : W.cell? c = some v) (ha : absV W v = some u) : c.block < W.heap.size ∧ c.spot = none ∧ ldCell (impH W) ⟨c.block, c.off, some 0⟩ = some u := by
  unfold World.cell? at h
  split at h
  · rename_i cs el f hc
    split at h
    · simp at h
    · rename_i hs
      have hlt := (Array.getElem?_eq_some_iff.1 hc).1
      refine ⟨hlt, by simpa using hs, ?_⟩
      rw [ldCell_eq, imp_get]
      simp only [impO, hc, ldO, impArr, get_trOf]
      have h2 := (Array.getElem?_eq_some_iff.1 h).1
      rw [if_pos h2, h]
      simp only [Option.map_some, ha]
      rfl
  · simp at h
/-- a law, its parameters taken in from the world -/
theorem world_law {P : Program} {D : Data} (hD : DOk P D) (hov : OvOK P D) {f : Nat} {args : List Value} {h' : H} {W : World} {args' : Array Value} (he : Ev D f args (impH W) (.bool true) h') (ha : VRs (impR W) args args'.toList) : Calls P f args' W fun e w' => e = .returned (.bool true) ∧ Below W.heap.size W w' := by
  refine (calls_of_ev hD hov he (imp_wr W) ha).mono ?_
  rintro e w' ⟨v', ρ', rfl, hv, hwr, hx⟩
  cases hv
  refine ⟨rfl, hx.os, hx.tape, hx.output, hx.grow, fun b hb => hx.frame b hb fun A e L x _ hn => ?_⟩
  obtain ⟨_, cs, el, f, h1, rfl, h2⟩ := impR_some x
  have : W.heap.size ≤ A := hn
  omega
/-! slices of whole numbers as parameters -/
def IsRow (k : IntKind) (w : World) (a : Option Addr) (len cap : Nat) (zs : List Int) : Prop :=
  (a = none ∧ len = 0 ∧ cap = 0 ∧ zs = []) ∨
  ∃ x, a = some x ∧ len ≤ cap ∧ cap ≤ maxLen ∧ zs.length = cap ∧ (∀ i, i < zs.length → w.cell? (x.add i) = some (.int k (zs.getD i 0))) ∧ ∀ n ∈ zs, (Lit.int k n).wf = true
def argSl (a : Option Addr) (len : Nat) : Sl := match a with
  | none => ⟨none, 0, 0⟩
  | some x => ⟨some ⟨x.block, x.off, some 0⟩, len, ANY⟩
theorem okA_of_cell {W : World} {c : Addr} {v : Value} (h : W.cell? c = some v) : okA W c = true := by
  unfold World.cell? at h
  split at h
  · rename_i cs el f hc
    split at h
    · simp at h
    · rename_i hs; unfold okA; rw [hc]; simpa using hs
  · simp at h
theorem isRow_vr {k : IntKind} {W : World} {a : Option Addr} {len cap : Nat} {zs : List Int} (h : IsRow k W a len cap zs) : VR (impR W) (encSl (argSl a len)) (.slice a len cap) := by
  rcases h with ⟨rfl, rfl, rfl, rfl⟩ | ⟨x, rfl, h1, h2, h3, h4, h5⟩
  · exact .slice0
  · refine .slice _ _ _ _ _ ?_
    show SR _ _ len x cap (capK ANY)
    rw [capK_ANY]
    refine ⟨h1, ?_⟩
    rcases Nat.eq_zero_or_pos len with h0 | h0
    · exact .inl h0
    · right
      have := h4 0 (by omega)
      rw [show x.add 0 = x by simp [Addr.add]] at this
      exact okA_ar (okA_of_cell this)
theorem isRow_rd {k : IntKind} {W : World} {a : Option Addr} {len cap : Nat} {zs : List Int} (h : IsRow k W a len cap zs) : RdI k (impH W) (argSl a len) (zs.take len) := by
  rcases h with ⟨rfl, rfl, rfl, rfl⟩ | ⟨x, rfl, h1, h2, h3, h4, h5⟩
  · exact rd_nil 1 _
  · refine ⟨by simp [argSl]; omega, fun hn => by simp [argSl] at hn, fun b hb i v hi => ?_, fun _ => by unfold CapOK argSl; simp only [capK_ANY]⟩
    simp only [argSl, Option.some.injEq] at hb
    subst hb
    have hlt := (List.getElem?_eq_some_iff.1 hi).1
    have hlt : i < len ∧ i < zs.length := by simp at hlt; omega
    have hv : v = .int k (zs.getD i 0) := by
      rw [List.getElem?_map, List.getElem?_take_of_lt hlt.1] at hi
      simp [List.getD, hlt.2] at hi ⊢
      exact hi.symm
    subst hv
    have hc := h4 i hlt.2
    obtain ⟨g1, g2, g3⟩ := imp_ld hc (u := .int k (zs.getD i 0)) rfl
    have hb : (x.add i).block = x.block := by unfold Addr.add; split <;> rfl
    have ho : (x.add i).off = x.off + i := by unfold Addr.add; split <;> simp_all
    rw [hb] at g1 g3
    rw [ho] at g3
    exact ⟨g1, by simpa [add] using g3⟩
/-- bytes as a parameter -/
def bytesIn (zs : List Int) : List UInt8 := zs.map fun n => UInt8.ofNat n.toNat
theorem isRow_rdB {W : World} {a : Option Addr} {len cap : Nat} {zs : List Int} (h : IsRow .u8 W a len cap zs) : RdB (impH W) (argSl a len) (bytesIn (zs.take len)) := by
  have hr := isRow_rd h
  have hw : ∀ n ∈ zs.take len, 0 ≤ n ∧ n < 256 := by
    intro n hn
    rcases h with ⟨rfl, rfl, rfl, rfl⟩ | ⟨x, rfl, h1, h2, h3, h4, h5⟩
    · simp at hn
    · have := h5 n (List.mem_of_mem_take hn)
      simp [Lit.wf, IntKind.has, IntKind.min, IntKind.max, IntKind.signed, IntKind.bits] at this
      omega
  unfold RdB vB bytesIn
  rw [List.map_map]
  unfold RdI at hr
  have e : (zs.take len).map (Value.int .u8) = (zs.take len).map ((fun b : UInt8 => Value.int .u8 (b.toNat : Int)) ∘ fun n => UInt8.ofNat n.toNat) := by
    apply List.map_congr_left
    intro n hn
    obtain ⟨h0, h1⟩ := hw n hn
    simp only [Function.comp]
    congr 1
    have : (UInt8.ofNat n.toNat).toNat = n.toNat := by simp [UInt8.toNat_ofNat']; omega
    rw [this]; omega
  rw [← e]; exact hr
end Go.Abs
