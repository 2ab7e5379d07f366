/- Laws of memory for the typed texts: heaps that extend one another, slices that read as lists, buffers that are appended to and written. -/
import Derived.Test.YthiccnmplgdheaaAbsF
set_option linter.unusedVariables false
set_option linter.unusedSimpArgs false
namespace Go.Abs
open Go
def ldO : Option AObj → Addr → Option Value
  | some (.arr r), a => match a.spot with
    | some e => match r.cells.get a.off with
      | some c => bif c.lo.ble e then some c.v else none
      | none => none
    | none => none
  | _, _ => none
theorem ldCell_eq (h : H) (a : Addr) : ldCell h a = ldO (h.objs.get a.block) a := by
  obtain ⟨b, o, sp⟩ := a
  unfold ldCell ldO
  cases h.objs.get b with
  | none => rfl
  | some o => cases o with
    | map es => rfl
    | arr r => cases sp <;> rfl
structure WF (h : H) : Prop where
  nro : h.nro ≤ h.size
  top : ∀ A, h.size ≤ A → h.objs.get A = none
  arr : ∀ A r, h.objs.get A = some (.arr r) → ∀ i c, r.cells.get i = some c → i < r.size
structure KP (h h' : H) : Prop where
  size : h.size ≤ h'.size
  nro : h'.nro = h.nro
  wf : WF h'
  ld : ∀ a v, a.block < h.size → ldCell h a = some v → ldCell h' a = some v
  non : ∀ A, A < h.size → h.objs.get A = none → h'.objs.get A = none
  som : ∀ A, h.objs.get A ≠ none → h'.objs.get A ≠ none
theorem KP.refl {h : H} (w : WF h) : KP h h := ⟨Nat.le_refl _, rfl, w, fun _ _ _ x => x, fun _ _ x => x, fun _ x => x⟩
theorem KP.trans {h h1 h2 : H} (a : KP h h1) (b : KP h1 h2) : KP h h2 :=
  ⟨Nat.le_trans a.size b.size, b.nro.trans a.nro, b.wf, fun p v hp hl => b.ld p v (Nat.lt_of_lt_of_le hp a.size) (a.ld p v hp hl), fun A hA hn => b.non A (Nat.lt_of_lt_of_le hA a.size) (a.non A hA hn), fun A x => b.som A (a.som A x)⟩
/-- a heap that has more blocks; what was there stays as it was -/
structure EX (h h' : H) : Prop where
  size : h.size ≤ h'.size
  nro : h'.nro = h.nro
  wf : WF h'
  same : ∀ A, A < h.size → h'.objs.get A = h.objs.get A
theorem EX.refl {h : H} (w : WF h) : EX h h := ⟨Nat.le_refl _, rfl, w, fun _ _ => rfl⟩
theorem EX.trans {h h1 h2 : H} (a : EX h h1) (b : EX h1 h2) : EX h h2 :=
  ⟨Nat.le_trans a.size b.size, b.nro.trans a.nro, b.wf, fun A hA => (b.same A (Nat.lt_of_lt_of_le hA a.size)).trans (a.same A hA)⟩
theorem EX.kp {h h' : H} (w : WF h) (x : EX h h') : KP h h' :=
  ⟨x.size, x.nro, x.wf, fun a v ha hl => by rw [ldCell_eq] at hl ⊢; rw [x.same _ ha]; exact hl, fun A hA hn => by rw [x.same A hA]; exact hn, fun A hs => by
    rcases Nat.lt_or_ge A h.size with y | y
    · rw [x.same A y]; exact hs
    · exact absurd (w.top A y) hs⟩
theorem EX.ld {h h' : H} (x : EX h h') (a : Addr) (v : Value) (ha : a.block < h.size) (hl : ldCell h a = some v) : ldCell h' a = some v := by
  rw [ldCell_eq] at hl ⊢; rw [x.same _ ha]; exact hl
/-- fresh: behind an older heap -/
def Fr (n : Nat) (s : Sl) : Prop := ∀ a, s.base = some a → n ≤ a.block
/-! lists of cells -/
theorem add_add (a : Addr) (i j : Nat) : add (add a i) j = add a (i + j) := by simp [add, Nat.add_assoc]
theorem addA_zero (a : Addr) : add a 0 = a := by simp [add]
theorem ldCells_of {h : H} : ∀ (l : List Value) (a : Addr), (∀ i v, l[i]? = some v → ldCell h (add a i) = some v) → ldCells h a l.length = some l
  | [], a, _ => rfl
  | x :: l, a, g => by
    have h1 := g 0 x rfl
    rw [addA_zero] at h1
    have ih := ldCells_of (h := h) l (add a 1) (fun i v hi => by rw [add_add]; have := g (i + 1) v (by simpa using hi); rwa [Nat.add_comm] at this)
    simp [ldCells, h1, ih]
theorem ldCells_get {h : H} : ∀ (n : Nat) (a : Addr) (l : List Value), ldCells h a n = some l → l.length = n ∧ ∀ i v, l[i]? = some v → ldCell h (add a i) = some v
  | 0, a, l, e => by simp [ldCells] at e; subst e; exact ⟨rfl, fun i v hi => by simp at hi⟩
  | n + 1, a, l, e => by
    simp only [ldCells] at e
    split at e
    · rename_i v hv
      split at e
      · rename_i l' hl'
        simp only [Option.some.injEq] at e
        subst e
        obtain ⟨h1, h2⟩ := ldCells_get n (add a 1) l' hl'
        refine ⟨by simp [h1], fun i w hi => ?_⟩
        cases i with
        | zero => simp at hi; subst hi; rw [addA_zero]; exact hv
        | succ i => have := h2 i w (by simpa using hi); rw [add_add] at this; rwa [Nat.add_comm] at this
      · simp at e
    · simp at e
/-! slices that read as lists (of cells) -/
def CapOK (sz len cap : Nat) : Prop := match capK cap with
  | .exact k => len ≤ k
  | .unk z => z = sz
  | .unk0 z => z = sz ∧ len = 0
  | .any => True
structure Rd (sz : Nat) (h : H) (s : Sl) (l : List Value) : Prop where
  len : l.length = s.len * sz
  nil : s.base = none → s.len = 0 ∧ s.cap = 0
  ld : ∀ a, s.base = some a → ∀ i v, l[i]? = some v → a.block < h.size ∧ ldCell h (add a i) = some v
  cap : s.base ≠ none → CapOK sz s.len s.cap
theorem Rd.mono {sz : Nat} {h h' : H} {s : Sl} {l : List Value} (r : Rd sz h s l) (x : KP h h') : Rd sz h' s l :=
  ⟨r.len, r.nil, fun a ha i v hi => let ⟨h1, h2⟩ := r.ld a ha i v hi; ⟨Nat.lt_of_lt_of_le h1 x.size, x.ld _ v h1 h2⟩, r.cap⟩
theorem Rd.ex {sz : Nat} {h h' : H} {s : Sl} {l : List Value} (x : EX h h') (r : Rd sz h s l) : Rd sz h' s l :=
  ⟨r.len, r.nil, fun a ha i v hi => let ⟨h1, h2⟩ := r.ld a ha i v hi; ⟨Nat.lt_of_lt_of_le h1 x.size, x.ld _ v h1 h2⟩, r.cap⟩
theorem rd_nil (sz : Nat) (h : H) : Rd sz h ⟨none, 0, 0⟩ [] := ⟨by simp, fun _ => ⟨rfl, rfl⟩, fun a ha => by simp at ha, fun h => absurd rfl h⟩
theorem Rd.nilOf {sz : Nat} {h : H} {s : Sl} {l : List Value} (r : Rd sz h s l) (hn : s.base = none) : l = [] ∧ s = ⟨none, 0, 0⟩ := by
  obtain ⟨h1, h2⟩ := r.nil hn
  have := r.len
  rw [h1] at this
  refine ⟨List.eq_nil_of_length_eq_zero (by simpa using this), ?_⟩
  cases s; simp_all
theorem Rd.cells {sz : Nat} {h : H} {s : Sl} {l : List Value} (r : Rd sz h s l) {a : Addr} (ha : s.base = some a) : ldCells h a (s.len * sz) = some l := by
  rw [← r.len]; exact ldCells_of l a fun i v hi => (r.ld a ha i v hi).2
theorem Rd.first {sz : Nat} {h : H} {s : Sl} {l : List Value} (r : Rd sz h s l) : firstA h sz s.len (encSl s) = some l := by
  obtain ⟨b, n, c⟩ := s
  cases b with
  | none =>
    obtain ⟨h1, h2⟩ := r.nilOf rfl
    simp only [Sl.mk.injEq] at h2
    obtain ⟨_, rfl, rfl⟩ := h2
    subst h1; rfl
  | some a => exact r.cells rfl
/-! buffers: what may be appended to and written -/
structure Buf (sz : Nat) (h : H) (s : Sl) (l : List Value) : Prop where
  rd : Rd sz h s l
  tip : s.base = none ∨ ∃ a r e, s.base = some a ∧ h.objs.get a.block = some (.arr r) ∧ a.spot = some e ∧ r.ver = e ∧ h.nro ≤ a.block ∧ a.off + s.len * sz = r.size ∧ (match capK s.cap with | .exact k => k = s.len | .any => False | _ => True)
theorem buf_nil (sz : Nat) (h : H) : Buf sz h ⟨none, 0, 0⟩ [] := ⟨rd_nil sz h, .inl rfl⟩
theorem Buf.ex {sz : Nat} {h h' : H} {s : Sl} {l : List Value} (w : WF h) (x : EX h h') (r : Buf sz h s l) : Buf sz h' s l := by
  refine ⟨r.rd.ex x, ?_⟩
  rcases r.tip with ht | ⟨a, q, e, h1, h2, h3, h4, h5, h6, h7⟩
  · exact .inl ht
  · have : a.block < h.size := by
      rcases Nat.lt_or_ge a.block h.size with y | y
      · exact y
      · rw [w.top _ y] at h2; simp at h2
    exact .inr ⟨a, q, e, h1, (x.same _ this).trans h2, h3, h4, by rw [x.nro]; exact h5, h6, h7⟩
/-! new blocks -/
theorem wf_new {h : H} (w : WF h) (e : TypeId) (l : List Value) : EX h (newAt (grow h 1) h.size (row e l)) := by
  have get : ∀ A, (newAt (grow h 1) h.size (row e l)).objs.get A = if A = h.size then some (row e l) else h.objs.get A := fun A => Tr.get_set _ _ _ _
  refine ⟨by simp [newAt, grow], rfl, ⟨by have := w.nro; simp [newAt, grow]; omega, fun A hA => ?_, fun A r hr i c hc => ?_⟩, fun A hA => ?_⟩
  · have hA' : h.size + 1 ≤ A := hA
    rw [get, if_neg (by omega)]; exact w.top A (by omega)
  · rw [get] at hr
    split at hr
    · simp only [row, Option.some.injEq, AObj.arr.injEq] at hr
      subst hr
      simp only [get_ofL] at hc
      cases hl : l[i]? with
      | none => rw [hl] at hc; simp at hc
      | some v => exact (List.getElem?_eq_some_iff.1 hl).1
    · exact w.arr A r hr i c hc
  · rw [get, if_neg (by omega)]
theorem ld_new {h : H} (e : TypeId) (l : List Value) (i : Nat) (v : Value) (hi : l[i]? = some v) : ldCell (newAt (grow h 1) h.size (row e l)) ⟨h.size, i, some 0⟩ = some v := by
  rw [ldCell_eq]
  have : (newAt (grow h 1) h.size (row e l)).objs.get h.size = some (row e l) := by
    show (Tr.set _ _ _).get _ = _
    rw [Tr.get_set, if_pos rfl]
  show ldO ((newAt (grow h 1) h.size (row e l)).objs.get h.size) _ = _
  rw [this]
  simp only [row, ldO, get_ofL, hi]
  rfl
theorem rd_new {h : H} (e : TypeId) (sz n cap : Nat) (l : List Value) (hl : l.length = n * sz) (hc : CapOK sz n cap) : Rd sz (newAt (grow h 1) h.size (row e l)) ⟨some ⟨h.size, 0, some 0⟩, n, cap⟩ l := by
  refine ⟨hl, fun h => by simp at h, fun a ha i v hi => ?_, fun _ => hc⟩
  simp only [Option.some.injEq] at ha
  subst ha
  refine ⟨by simp [newAt, grow], ?_⟩
  have := ld_new (h := h) e l i v hi
  simpa [add] using this
theorem buf_new {h : H} (w : WF h) (e : TypeId) (sz n cap : Nat) (l : List Value) (hl : l.length = n * sz) (hc : CapOK sz n cap) (hk : match capK cap with | .exact k => k = n | .any => False | _ => True) : Buf sz (newAt (grow h 1) h.size (row e l)) ⟨some ⟨h.size, 0, some 0⟩, n, cap⟩ l := by
  refine ⟨rd_new e sz n cap l hl hc, .inr ⟨_, ⟨e, l.length, 0, ofL l⟩, 0, rfl, ?_, rfl, rfl, w.nro, ?_, hk⟩⟩
  · show (Tr.set _ _ _).get _ = _
    rw [Tr.get_set, if_pos rfl]; rfl
  · simp [hl]
/-! append in place -/
theorem ex_tip {h : H} (w : WF h) {A : Nat} {r : Arr} (hA : h.objs.get A = some (.arr r)) (l : List Value) (e' : Nat) : 
    KP h { h with tick := h.tick + 1, objs := h.objs.set A (.arr { r with size := r.size + l.length, ver := e', cells := setL r.cells r.size e' l }) } := by
  have hlt : A < h.size := by
    rcases Nat.lt_or_ge A h.size with x | x
    · exact x
    · rw [w.top A x] at hA; simp at hA
  refine ⟨Nat.le_refl _, rfl, ⟨w.nro, fun B hB => ?_, fun B r' hr i c hc => ?_⟩, fun a v ha hl => ?_, fun B hB hn => ?_, fun B hn => ?_⟩
  · show (Tr.set _ _ _).get _ = _
    have hB' : h.size ≤ B := hB
    rw [Tr.get_set, if_neg (by omega)]; exact w.top B hB'
  · replace hr : (Tr.set h.objs A _).get B = some (.arr r') := hr
    rw [Tr.get_set] at hr
    split at hr
    · simp only [Option.some.injEq, AObj.arr.injEq] at hr
      subst hr
      simp only [get_setL] at hc ⊢
      split at hc
      · omega
      · have := w.arr A r hA i c hc; omega
    · exact w.arr B r' hr i c hc
  · rw [ldCell_eq] at hl ⊢
    show ldO ((Tr.set h.objs A _).get a.block) a = some v
    rw [Tr.get_set]
    split
    · rename_i e; rw [e, hA] at hl
      unfold ldO at hl ⊢
      simp only at hl ⊢
      split at hl
      · rename_i sp hsp
        split at hl
        · rename_i c hc
          have := w.arr A r hA _ c hc
          rw [get_setL, if_neg (by omega), hc]
          exact hl
        · simp at hl
      · simp at hl
    · exact hl
  · show (Tr.set _ _ _).get _ = _
    rw [Tr.get_set, if_neg (by intro e; subst e; rw [hA] at hn; simp at hn)]; exact hn
  · show (Tr.set _ _ _).get _ ≠ none
    rw [Tr.get_set]
    split
    · simp
    · exact hn
theorem ex_tip0 {h0 h : H} (x0 : EX h0 h) {A : Nat} (hA : h0.size ≤ A) {h' : H} (k : KP h h') {ob : AObj} (ho : h'.objs = h.objs.set A ob) : EX h0 h' :=
  ⟨Nat.le_trans x0.size k.size, k.nro.trans x0.nro, k.wf, fun B hB => by rw [ho, Tr.get_set, if_neg (by omega)]; exact x0.same B hB⟩
theorem slEta (s : Sl) : (⟨s.base, s.len, s.cap⟩ : Sl) = s := rfl
def decSl : Option OpR → H → Option (Sl × H)
  | some (.val (.slice a l c) h'), _ => some (⟨a, l, c⟩, h')
  | some (.new ob mk), h => match mk h.size with
    | .slice a l c => some (⟨a, l, c⟩, newAt (grow h 1) h.size ob)
    | _ => none
  | _, _ => none
/-- append -/
theorem appR_buf {e sz bytes : Nat} (hz : 0 < sz) (hz2 : sz < B63) {h : H} {s : Sl} {l m : List Value} {n : Nat} (w : WF h) (hs : Buf sz h s l) (hm : m.length = n * sz) (hb : (s.len + n) * bytes ≤ 2 ^ 47) (hb2 : s.len + n ≤ 2 ^ 62) (z : Value) :
    ∃ s' h', decR slY h (appR h e (tyS sz bytes z) (encSl s) m n) = some (s', h') ∧ KP h h' ∧ (∀ h0, EX h0 h → Fr h0.size s → EX h0 h') ∧ Buf sz h' s' (l ++ m) ∧ s'.len = s.len + n ∧ (n = 0 ∧ s' = s ∧ h' = h ∨ ∃ a', s'.base = some a' ∧ (h.size ≤ a'.block ∨ ∃ a, s.base = some a ∧ a.block = a'.block)) := by
  obtain ⟨b, len, cap⟩ := s
  unfold appR encSl
  simp only
  by_cases hn : n = 0
  · subst hn
    have : m = [] := List.eq_nil_of_length_eq_zero (by simpa using hm)
    subst this
    refine ⟨⟨b, len, cap⟩, h, rfl, KP.refl w, fun _ x _ => x, by simpa using hs, rfl, .inl ⟨rfl, rfl, rfl⟩⟩
  have hnb : n.beq 0 = false := nbeq_f hn
  have hbb : (((len + n) * bytes).ble (2 ^ 47) && (len + n).ble (2 ^ 62)) = true := by simp only [Bool.and_eq_true, Nat.ble_eq]; exact ⟨hb, hb2⟩
  have hbb' : (((len + n) * (tyS sz bytes z).bytes).ble (2 ^ 47) && (len + n).ble (2 ^ 62)) = true := hbb
  rw [hnb, hbb']
  simp only [Bool.not_true, cond_false]
  cases b with
  | none =>
    obtain ⟨h1, h2⟩ := hs.rd.nilOf rfl
    simp only [Sl.mk.injEq] at h2
    obtain ⟨_, rfl, rfl⟩ := h2
    subst h1
    refine ⟨⟨some ⟨h.size, 0, some 0⟩, n, UNK sz⟩, _, rfl, (wf_new w e m).kp w, fun _ x _ => x.trans (wf_new w e m), ?_, by simp, .inr ⟨_, rfl, .inl (Nat.le_refl _)⟩⟩
    rw [List.nil_append]
    exact buf_new w e sz n (UNK sz) m hm (by unfold CapOK; rw [capK_UNK _ hz2]) (by rw [capK_UNK _ hz2]; trivial)
  | some a =>
    rcases hs.tip with ht | ⟨a', r, ev, ha, hobj, hsp, hver, hnro, hoff, hcap⟩
    · simp at ht
    simp only [Option.some.injEq] at ha
    subst ha
    have hcells := hs.rd.cells (a := a) rfl
    simp only at hcells hoff hcap
    have hll := hs.rd.len
    simp only at hll
    simp only [show (tyS sz bytes z).size = sz from rfl]
    have mul : (len + n) * sz = len * sz + n * sz := Nat.add_mul _ _ _
    have npos : 0 < n * sz := Nat.mul_pos (by omega) hz
    cases hck : capK cap with
    | any => rw [hck] at hcap; exact hcap.elim
    | exact k =>
      rw [hck] at hcap
      simp only at hcap
      subst hcap
      have hle : (k + n).ble k = false := by rw [Bool.eq_false_iff]; intro x; simp only [Nat.ble_eq] at x; omega
      simp only [hle, cond_false, hcells]
      refine ⟨⟨some ⟨h.size, 0, some 0⟩, k + n, UNK sz⟩, _, rfl, (wf_new w e (l ++ m)).kp w, fun _ x _ => x.trans (wf_new w e (l ++ m)), ?_, rfl, .inr ⟨_, rfl, .inl (Nat.le_refl _)⟩⟩
      exact buf_new w e sz (k + n) (UNK sz) (l ++ m) (by simp; omega) (by unfold CapOK; rw [capK_UNK _ hz2]) (by rw [capK_UNK _ hz2]; trivial)
    | unk z' =>
      have hzz : z' = sz := by have := hs.rd.cap (by simp); unfold CapOK at this; rw [hck] at this; exact this
      subst hzz
      have c1 : (ev.beq r.ver && h.nro.ble a.block && (a.off + len * z').ble r.size && (0).blt z') = true := by
        simp only [Bool.and_eq_true, nbeq_eq, Nat.ble_eq, Nat.blt_eq]
        exact ⟨⟨⟨hver.symm, hnro⟩, by omega⟩, hz⟩
      have c2 : (a.off + (len + n) * z').ble r.size = false := by rw [Bool.eq_false_iff]; intro x; simp only [Nat.ble_eq] at x; omega
      simp only [nbeq_t rfl, cond_true, hobj, hsp, c1, c2, cond_false]
      have hsz : a.off + (len + n) * z' = r.size + m.length := by omega
      have kp : KP h { h with tick := h.tick + 1, objs := h.objs.set a.block (.arr { r with size := a.off + (len + n) * z', ver := ev + 1, cells := setL r.cells (a.off + len * z') (ev + 1) m }) } := by
        rw [hsz, hoff]; exact ex_tip w hobj m (ev + 1)
      refine ⟨⟨some ⟨a.block, a.off, some (ev + 1)⟩, len + n, cap⟩, _, rfl, kp, fun h0 x0 hf => ex_tip0 x0 (hf a rfl) kp rfl, ⟨⟨?_, fun x => by simp at x, ?_, fun _ => ?_⟩, ?_⟩, rfl, .inr ⟨_, rfl, .inr ⟨a, rfl, rfl⟩⟩⟩
      · simp; omega
      · intro p hp i v hi
        simp only [Option.some.injEq] at hp
        subst hp
        refine ⟨?_, ?_⟩
        · show a.block < h.size
          rcases Nat.lt_or_ge a.block h.size with x | x
          · exact x
          · rw [w.top _ x] at hobj; simp at hobj
        · rw [ldCell_eq]
          show ldO ((Tr.set h.objs a.block _).get a.block) _ = some v
          rw [Tr.get_set, if_pos rfl]
          simp only [ldO, add, get_setL, hoff]
          by_cases hi2 : i < l.length
          · rw [List.getElem?_append_left hi2] at hi
            have hl := (hs.rd.ld a rfl i v hi).2
            rw [ldCell_eq] at hl
            simp only [add, hobj, ldO, hsp] at hl
            rw [if_neg (by omega)]
            cases hc : r.cells.get (a.off + i) with
            | none => rw [hc] at hl; simp at hl
            | some c =>
              rw [hc] at hl
              simp only at hl ⊢
              cases hlo : c.lo.ble ev with
              | false => rw [hlo] at hl; simp at hl
              | true =>
                rw [hlo] at hl
                have : c.lo.ble (ev + 1) = true := by simp only [Nat.ble_eq] at hlo ⊢; omega
                rw [this]; exact hl
          · have hi3 := (List.getElem?_eq_some_iff.1 hi).1
            simp at hi3
            rw [List.getElem?_append_right (by omega)] at hi
            rw [if_pos (by omega), show a.off + i - r.size = i - l.length by omega, hi]
            simp only [Option.map_some]
            have : (ev + 1).ble (ev + 1) = true := by simp
            rw [this]; rfl
      · unfold CapOK; rw [hck]
      · refine .inr ⟨⟨a.block, a.off, some (ev + 1)⟩, { r with size := a.off + (len + n) * z', ver := ev + 1, cells := setL r.cells (a.off + len * z') (ev + 1) m }, ev + 1, rfl, ?_, rfl, rfl, hnro, ?_, by simp only [hck]⟩
        · show (Tr.set _ _ _).get _ = _
          rw [Tr.get_set, if_pos rfl]
        · rfl
    | unk0 z' =>
      have hzz : z' = sz ∧ len = 0 := by have := hs.rd.cap (by simp); unfold CapOK at this; rw [hck] at this; exact this
      obtain ⟨rfl, rfl⟩ := hzz
      have c1 : (ev.beq r.ver && h.nro.ble a.block && (a.off + 0 * z').ble r.size && r.size.blt (a.off + (0 + n) * z') && (0).blt z') = true := by
        simp only [Bool.and_eq_true, nbeq_eq, Nat.ble_eq, Nat.blt_eq]
        exact ⟨⟨⟨⟨hver.symm, hnro⟩, by omega⟩, by omega⟩, hz⟩
      simp only [nbeq_t rfl, cond_true, hobj, hsp, c1]
      have hsz : a.off + (0 + n) * z' = r.size + m.length := by omega
      have hl0 : l = [] := List.eq_nil_of_length_eq_zero (by simpa using hll)
      subst hl0
      have kp : KP h { h with tick := h.tick + 1, objs := h.objs.set a.block (.arr { r with size := a.off + (0 + n) * z', ver := ev + 1, cells := setL r.cells (a.off + 0 * z') (ev + 1) m }) } := by
        rw [hsz, hoff]; exact ex_tip w hobj m (ev + 1)
      refine ⟨⟨some ⟨a.block, a.off, some (ev + 1)⟩, 0 + n, UNK z'⟩, _, rfl, kp, fun h0 x0 hf => ex_tip0 x0 (hf a rfl) kp rfl, ⟨⟨?_, fun x => by simp at x, ?_, fun _ => ?_⟩, ?_⟩, rfl, .inr ⟨_, rfl, .inr ⟨a, rfl, rfl⟩⟩⟩
      · simp; omega
      · intro p hp i v hi
        simp only [Option.some.injEq] at hp
        subst hp
        refine ⟨?_, ?_⟩
        · show a.block < h.size
          rcases Nat.lt_or_ge a.block h.size with x | x
          · exact x
          · rw [w.top _ x] at hobj; simp at hobj
        · rw [ldCell_eq]
          show ldO ((Tr.set h.objs a.block _).get a.block) _ = some v
          rw [Tr.get_set, if_pos rfl]
          simp only [ldO, add, get_setL, hoff]
          rw [List.nil_append] at hi
          have hi3 := (List.getElem?_eq_some_iff.1 hi).1
          rw [if_pos (by omega), show a.off + i - r.size = i by omega, hi]
          simp only [Option.map_some]
          have : (ev + 1).ble (ev + 1) = true := by simp
          rw [this]; rfl
      · unfold CapOK; rw [capK_UNK _ hz2]
      · refine .inr ⟨⟨a.block, a.off, some (ev + 1)⟩, { r with size := a.off + (0 + n) * z', ver := ev + 1, cells := setL r.cells (a.off + 0 * z') (ev + 1) m }, ev + 1, rfl, ?_, rfl, rfl, hnro, ?_, by simp only [capK_UNK _ hz2]⟩
        · show (Tr.set _ _ _).get _ = _
          rw [Tr.get_set, if_pos rfl]
        · rfl
end Go.Abs
