/- Lemmas about the typed texts (joined: S11 SSpan1 S12). -/
import Derived.Test.YtaebjajbogedkaaG3
/- The logic for the typed texts, further: heaps that are put together (regions of open order); rows as slices; checks. -/
set_option linter.unusedVariables false
set_option linter.unusedSimpArgs false
namespace Go.Abs
open Go
section
variable {α : Type} {Q : α → Prop} {h : H} {f : H → Option α} {mask n0 i k : Nat} {ob : AObj} {cs : List (Nat × AObj)}
theorem PO.letGrow (w : WF h) (p : ∀ h1, EX h h1 → h1.size = h.size + k → WF h1 → (∀ i, i < k → h1.objs.get (h.size + i) = none) → PO (f h1) Q) : PO (letH (growIf h k) f) Q := by
  refine p _ (ex_growIf w k) (growIf_size h k) (ex_growIf w k).wf fun i hi => ?_
  rw [growIf_eq]
  exact w.top _ (Nat.le_add_right _ _)
theorem PO.letTick (w : WF h) (p : ∀ h1, EX h h1 → h1.size = h.size → WF h1 → PO (f h1) Q) : PO (letH (tickIf k h) f) Q := by
  refine p _ (ex_tick w k) ?_ (ex_tick w k).wf
  unfold tickIf; cases k.beq 0 <;> rfl
theorem PO.addNil (p : PO (f h) Q) : PO (letH (addP mask n0 [] h) f) Q := p
theorem PO.addOff (hm : mask.testBit i = false) (p : PO (letH (addP mask n0 cs h) f) Q) : PO (letH (addP mask n0 ((i, ob) :: cs) h) f) Q := by rw [addP_off hm]; exact p
theorem PO.addOld (hn : h.objs.get (n0 + i) ≠ none) (p : PO (letH (addP mask n0 cs h) f) Q) : PO (letH (addP mask n0 ((i, ob) :: cs) h) f) Q := by
  cases hm : mask.testBit i with
  | false => exact .addOff hm p
  | true => rw [addP_old hm hn]; exact p
end
/-- a heap with one row more, at a block that is reserved -/
structure NW (B : Nat) (h h' : H) : Prop where
  up : UP (· = B) h h'
  non : h.objs.get B = none
  size : h'.size = h.size
theorem NW.wf {B : Nat} {h h' : H} (n : NW B h h') : WF h' := n.up.wf
theorem NW.box {B b : Nat} {h h' : H} {l : List Value} (n : NW B h h') (w : WF h) (x : Box h b l) : Box h' b l := by
  refine x.up w n.up fun e => ?_
  obtain ⟨t, c, h1, _⟩ := x.get
  rw [e, n.non] at h1; simp at h1
theorem NW.kb {B b : Nat} {h h' : H} {l : List Value} (n : NW B h h') (x : Box h b l) : Box h' b l := by
  refine Box.ku n.up (fun e => ?_) x
  obtain ⟨t, c, h1, _⟩ := x.get
  rw [e, n.non] at h1; simp at h1
theorem NW.ldk {B : Nat} {h h' : H} (n : NW B h h') {a : Addr} {v : Value} (hlt : a.block < h.size) (e : ldCell h a = some v) : ldCell h' a = some v := by
  refine n.up.ld hlt (fun x => ?_) e
  rw [ldCell_eq, x, n.non] at e; simp [ldO] at e
theorem NW.kr {B sz : Nat} {h h' : H} {s : Sl} {l : List Value} (n : NW B h h') (r : Rd sz h s l) : Rd sz h' s l :=
  ⟨r.len, r.nil, fun a ha i v hi => let ⟨h1, h2⟩ := r.ld a ha i v hi; ⟨by rw [n.size]; exact h1, n.ldk (a := add a i) h1 h2⟩, r.cap⟩
/-- cells of other kinds lie elsewhere -/
theorem Rd.kbox {sz b : Nat} {h h' : H} {s : Sl} {l L : List Value} (w : WF h) (B : Box h b L) (u : UP (· = b) h h') (hd : ∀ v ∈ l, v ∉ L) (r : Rd sz h s l) : Rd sz h' s l :=
  ⟨r.len, r.nil, fun a ha i v hi => by
    obtain ⟨h1, h2⟩ := r.ld a ha i v hi
    refine ⟨Nat.lt_of_lt_of_le h1 u.size, u.ld (a := add a i) h1 (fun e => ?_) h2⟩
    have e' : a.block = b := e
    obtain ⟨t, c, g1, g2⟩ := B.get
    rw [ldCell_eq] at h2
    simp only [add, e', g1] at h2
    unfold ldO at h2
    simp only at h2
    split at h2
    · rename_i sp hsp
      split at h2
      · rename_i cl hcl
        have hlt := w.arr b _ g1 _ _ hcl
        simp only at hlt
        have hg := g2 (a.off + i) _ (List.getElem?_eq_getElem hlt)
        rw [hg] at hcl
        cases hcl
        simp only [Nat.zero_le, Nat.ble_eq, show Nat.ble 0 sp = true by simp, cond_true, Option.some.injEq] at h2
        exact hd v (List.mem_of_getElem? hi) (h2 ▸ List.getElem_mem hlt)
      · simp at h2
    · simp at h2, r.cap⟩
theorem RdB.kbox {b : Nat} {h h' : H} {s : Sl} {l : List UInt8} {L : List Value} (w : WF h) (B : Box h b L) (u : UP (· = b) h h') (hd : ∀ v ∈ L, ∀ n, v ≠ .int .u8 n) (r : RdB h s l) : RdB h' s l :=
  Rd.kbox w B u (fun v hv hL => by
    unfold vB at hv
    obtain ⟨n, _, e⟩ := List.mem_map.1 hv
    exact hd v hL _ e.symm) r
theorem NW.ld {B : Nat} {h h' : H} (n : NW B h h') (w : WF h) {a : Addr} {v : Value} (e : ldCell h a = some v) : ldCell h' a = some v := by
  refine n.up.ld (lt_of_ld w e) (fun x => ?_) e
  rw [ldCell_eq, x, n.non] at e; simp [ldO] at e
theorem NW.rd {B sz : Nat} {h h' : H} {s : Sl} {l : List Value} (n : NW B h h') (w : WF h) (r : Rd sz h s l) : Rd sz h' s l :=
  ⟨r.len, r.nil, fun a ha i v hi => let ⟨h1, h2⟩ := r.ld a ha i v hi; ⟨by rw [n.size]; exact h1, n.ld w h2⟩, r.cap⟩
theorem NW.buf {B sz : Nat} {h h' : H} {s : Sl} {l : List Value} (n : NW B h h') (w : WF h) (r : Buf sz h s l) : Buf sz h' s l := by
  refine ⟨n.rd w r.rd, ?_⟩
  rcases r.tip with ht | ⟨a, q, e, h1, h2, h3, h4, h5, h6, h7⟩
  · exact .inl ht
  · exact .inr ⟨a, q, e, h1, (n.up.same _ (lt_of_get w h2) (fun x => by rw [x, n.non] at h2; simp at h2)).trans h2, h3, h4, by rw [n.up.nro]; exact h5, h6, h7⟩
theorem NW.nn {B C : Nat} {h h' : H} (n : NW B h h') (hC : C < h.size) (hne : ¬ C = B) (e : h.objs.get C = none) : h'.objs.get C = none := (n.up.same C hC hne).trans e
theorem NW.ex0 {B : Nat} {h0 h h' : H} (n : NW B h h') (x : EX h0 h) (hB : h0.size ≤ B) : EX h0 h' := n.up.ex0 x (fun A hA e => by omega)
theorem EX.nn {C : Nat} {h h' : H} (x : EX h h') (hC : C < h.size) (e : h.objs.get C = none) : h'.objs.get C = none := (x.same C hC).trans e
theorem Box.ne {h : H} {b : Nat} {l : List Value} (B : Box h b l) : h.objs.get b ≠ none := by
  obtain ⟨e, c, h1, _⟩ := B.get; rw [h1]; simp
theorem Box.rd {h : H} {b sz n cap : Nat} {l : List Value} (B : Box h b l) (w : WF h) (hl : l.length = n * sz) (hc : CapOK sz n cap) : Rd sz h ⟨some ⟨b, 0, some 0⟩, n, cap⟩ l := by
  refine ⟨hl, fun h => by simp at h, fun a ha i v hi => ?_, fun _ => hc⟩
  simp only [Option.some.injEq] at ha
  subst ha
  exact ⟨B.lt w, B.ld hi⟩
theorem Box.buf {h : H} {b sz n : Nat} {l : List Value} (B : Box h b l) (w : WF h) (hl : l.length = n * sz) (hn : n < B63) : Buf sz h ⟨some ⟨b, 0, some 0⟩, n, n⟩ l := by
  refine ⟨B.rd w hl (by unfold CapOK; rw [capK_exact hn]; exact Nat.le_refl _), .inr ?_⟩
  obtain ⟨e, c, h1, h2⟩ := B.get
  exact ⟨_, _, 0, rfl, h1, rfl, rfl, B.nro, by simp only [Nat.zero_add]; exact hl.symm, by simp only [capK_exact hn]⟩
section
variable {α : Type} {Q : α → Prop} {h : H} {f : H → Option α} {mask n0 i k : Nat} {cs : List (Nat × AObj)}
theorem PO.addNew {e : TypeId} {vs : List Value} (w : WF h) (hm : mask.testBit i = true) (hn : h.objs.get (n0 + i) = none) (hB : n0 + i < h.size) (hr : h.nro ≤ n0 + i) (p : ∀ h1, NW (n0 + i) h h1 → Box h1 (n0 + i) vs → PO (letH (addP mask n0 cs h1) f) Q) : PO (letH (addP mask n0 ((i, row e vs) :: cs) h) f) Q := by
  rw [addP_new hm hn]
  refine p _ ⟨⟨Nat.le_refl _, rfl, wf_at w hB e vs, fun A hA hne => by rw [newAt_get, if_neg hne], rfl⟩, hn, rfl⟩ (box_at hr hB e vs)
theorem PO.ixI {k : IntKind} {s : Sl} {zs : List Int} {j : Int} {g : Addr → Option α} (r : RdI k h s zs) (h0 : 0 ≤ j) (h1 : j < zs.length) (p : ∀ a, Abs.ldI k h a = some (zs.getD j.toNat 0) → PO (g a) Q) : PO (bindO (ixT 1 s j) g) Q := by
  obtain ⟨a, _, e, e2⟩ := r.at h0 h1
  exact .op e (p _ e2)
theorem PO.ixB {s : Sl} {zs : List UInt8} {j : Int} {g : Addr → Option α} (r : RdB h s zs) (h0 : 0 ≤ j) (h1 : j < zs.length) (p : ∀ a, Abs.ldI .u8 h a = some ((zs.getD j.toNat 0).toNat : Int) → PO (g a) Q) : PO (bindO (ixT 1 s j) g) Q := by
  obtain ⟨a, _, e, e2⟩ := r.at h0 h1
  exact .op e (p _ e2)
theorem PO.chk' {b : Bool} {x y : Option α} (h : b = true) (k : PO x Q) : PO (condK b x y) Q := by subst h; exact k
theorem PO.chkV {v : Value} {x : Option α} (hp : plain v = true) (p : PO x Q) : PO (condK (veq v v) x none) Q := .chk (plain_veq hp) p
end
end Go.Abs
/- Sets of numbers as runs: the plain laws of adding and dropping. -/
set_option linter.unusedVariables false
set_option linter.unusedSimpArgs false
namespace Go.Abs
open Go
abbrev Run := Int × Int
/-- runs that rise and do not touch: above lo, up to e -/
def Nrm : Int → Int → List Run → Prop
  | _, _, [] => True
  | lo, e, r :: l => lo < r.1 ∧ r.1 < r.2 ∧ r.2 ≤ e ∧ Nrm r.2 e l
def mem (l : List Run) (n : Int) : Prop := ∃ r ∈ l, r.1 ≤ n ∧ n < r.2
instance (l : List Run) (n : Int) : Decidable (mem l n) := by unfold mem; infer_instance
def memB (l : List Run) (n : Int) : Bool := l.any fun r => decide (r.1 ≤ n) && decide (n < r.2)
theorem memB_iff (l : List Run) (n : Int) : memB l n = true ↔ mem l n := by simp [memB, mem]
theorem mem_nil (n : Int) : mem [] n ↔ False := by simp [mem]
theorem mem_cons (r : Run) (l : List Run) (n : Int) : mem (r :: l) n ↔ (r.1 ≤ n ∧ n < r.2) ∨ mem l n := by simp [mem]
theorem mem_app (a b : List Run) (n : Int) : mem (a ++ b) n ↔ mem a n ∨ mem b n := by
  simp only [mem, List.mem_append]
  constructor
  · rintro ⟨r, h | h, x⟩
    · exact .inl ⟨r, h, x⟩
    · exact .inr ⟨r, h, x⟩
  · rintro (⟨r, h, x⟩ | ⟨r, h, x⟩)
    · exact ⟨r, .inl h, x⟩
    · exact ⟨r, .inr h, x⟩
theorem Nrm.mono : ∀ {l : List Run} {lo lo' e e' : Int}, Nrm lo e l → lo' ≤ lo → e ≤ e' → Nrm lo' e' l
  | [], _, _, _, _, _, _, _ => trivial
  | r :: l, lo, lo', e, e', ⟨h1, h2, h3, h4⟩, a, b => ⟨by omega, h2, by omega, Nrm.mono h4 (Int.le_refl _) b⟩
theorem Nrm.low : ∀ {l : List Run} {lo e : Int}, Nrm lo e l → ∀ r ∈ l, lo < r.1 ∧ r.1 < r.2 ∧ r.2 ≤ e
  | r :: l, lo, e, ⟨h1, h2, h3, h4⟩, q, hq => by
    rcases List.mem_cons.1 hq with rfl | hq
    · exact ⟨h1, h2, h3⟩
    · have := Nrm.low h4 q hq; omega
def addR : Int → Int → Bool → List Run → List Run
  | f, t, done, [] => if done then [] else [(f, t)]
  | f, t, done, r :: l => if r.2 < f then r :: addR f t done l else if r.1 > t then (if done then [r] else [(f, t), r]) ++ addR f t true l else addR (min f r.1) (max t r.2) done l
theorem addR_cons (f t : Int) (done : Bool) (r : Run) (l : List Run) : addR f t done (r :: l) = if r.2 < f then r :: addR f t done l else if r.1 > t then (if done then [r] else [(f, t), r]) ++ addR f t true l else addR (min f r.1) (max t r.2) done l := rfl
theorem addR_done : ∀ (l : List Run) (f t : Int), f ≤ t → (∀ r ∈ l, t < r.1 ∧ r.1 < r.2) → addR f t true l = l
  | [], f, t, _, _ => by simp [addR]
  | r :: l, f, t, h, hl => by
    have h1 := hl r (List.mem_cons_self ..)
    unfold addR
    rw [if_neg (by omega), if_pos (by omega), addR_done l f t h fun q hq => hl q (List.mem_cons_of_mem _ hq)]
    rfl
theorem addR_mem : ∀ (l : List Run) (lo e f t n : Int), Nrm lo e l → f < t → (mem (addR f t false l) n ↔ mem l n ∨ (f ≤ n ∧ n < t))
  | [], lo, e, f, t, n, _, _ => by simp [addR, mem]
  | r :: l, lo, e, f, t, n, ⟨h1, h2, h3, h4⟩, hft => by
    unfold addR
    by_cases c1 : r.2 < f
    · rw [if_pos c1, mem_cons, addR_mem l _ _ f t n h4 hft, mem_cons, or_assoc]
    · rw [if_neg c1]
      by_cases c2 : r.1 > t
      · rw [if_pos c2, addR_done l f t (by omega) fun q hq => by have := h4.low q hq; omega]
        simp only [Bool.false_eq_true, if_false, List.cons_append, List.nil_append, mem_cons]
        rw [or_comm]
      · rw [if_neg c2, addR_mem l _ _ _ _ n h4 (by omega), mem_cons]
        constructor
        · rintro (h | h)
          · exact .inl (.inr h)
          · by_cases hh : f ≤ n ∧ n < t
            · exact .inr hh
            · exact .inl (.inl (by omega))
        · rintro ((h | h) | h)
          · exact .inr (by omega)
          · exact .inl h
          · exact .inr (by omega)
theorem addR_nrm : ∀ (l : List Run) (lo e f t : Int), Nrm lo e l → lo < f → f < t → t ≤ e → Nrm lo e (addR f t false l)
  | [], lo, e, f, t, _, h1, h2, h3 => ⟨h1, h2, h3, trivial⟩
  | r :: l, lo, e, f, t, ⟨h1, h2, h3, h4⟩, a, b, c => by
    unfold addR
    by_cases c1 : r.2 < f
    · rw [if_pos c1]; exact ⟨h1, h2, h3, addR_nrm l _ _ f t h4 c1 b c⟩
    · rw [if_neg c1]
      by_cases c2 : r.1 > t
      · rw [if_pos c2, addR_done l f t (by omega) fun q hq => by have := h4.low q hq; omega]
        exact ⟨a, b, c, c2, h2, h3, h4⟩
      · rw [if_neg c2]
        exact addR_nrm l _ _ _ _ (h4.mono (by omega) (Int.le_refl _)) (by omega) (by omega) (by omega)
theorem addR_length : ∀ (l : List Run) (f t : Int) (done : Bool), (addR f t done l).length ≤ l.length + 1
  | [], f, t, done => by cases done <;> simp [addR]
  | r :: l, f, t, done => by
    unfold addR
    split
    · have := addR_length l f t done; simp; omega
    · split
      · have := addR_length' l f t
        cases done <;> simp <;> omega
      · have := addR_length l (min f r.1) (max t r.2) done; simp; omega
where
  addR_length' : ∀ (l : List Run) (f t : Int), (addR f t true l).length ≤ l.length
    | [], f, t => by simp [addR]
    | r :: l, f, t => by
      unfold addR
      split
      · have := addR_length' l f t; simp; omega
      · split
        · have := addR_length' l f t; simp; omega
        · have := addR_length' l (min f r.1) (max t r.2); simp; omega
def dropR (f t : Int) : List Run → List Run
  | [] => []
  | r :: l => (if r.1 < min r.2 f then [(r.1, min r.2 f)] else []) ++ (if max r.1 t < r.2 then [(max r.1 t, r.2)] else []) ++ dropR f t l
theorem dropR_mem (f t n : Int) : ∀ (l : List Run) (lo e : Int), Nrm lo e l → f < t → (mem (dropR f t l) n ↔ mem l n ∧ ¬ (f ≤ n ∧ n < t))
  | [], lo, e, _, _ => by simp [dropR, mem]
  | r :: l, lo, e, ⟨h1, h2, h3, h4⟩, hft => by
    unfold dropR
    rw [mem_app, mem_app, dropR_mem f t n l _ _ h4 hft, mem_cons, or_and_right]
    refine or_congr ?_ Iff.rfl
    have one : ∀ a b : Int, mem (if a < b then [(a, b)] else []) n ↔ a ≤ n ∧ n < b := by
      intro a b
      by_cases h : a < b
      · rw [if_pos h, mem_cons, mem_nil]; simp
      · rw [if_neg h, mem_nil]; exact ⟨fun x => x.elim, fun x => absurd (Int.lt_of_le_of_lt x.1 x.2) h⟩
    rw [one, one]
    constructor
    · rintro (⟨a, b⟩ | ⟨a, b⟩)
      · exact ⟨⟨a, by omega⟩, by omega⟩
      · exact ⟨⟨by omega, b⟩, by omega⟩
    · rintro ⟨⟨a, b⟩, c⟩
      by_cases hh : n < f
      · exact .inl ⟨a, by omega⟩
      · exact .inr ⟨by omega, b⟩
theorem dropR_nrm (f t : Int) : ∀ (l : List Run) (lo e : Int), Nrm lo e l → f < t → Nrm lo e (dropR f t l)
  | [], lo, e, _, _ => trivial
  | r :: l, lo, e, ⟨h1, h2, h3, h4⟩, hft => by
    have ih := dropR_nrm f t l _ _ h4 hft
    unfold dropR
    by_cases c1 : r.1 < min r.2 f <;> by_cases c2 : max r.1 t < r.2 <;> simp only [c1, c2, if_true, if_false, List.cons_append, List.nil_append]
    · exact ⟨h1, c1, by omega, by show min r.2 f < max r.1 t; omega, c2, h3, ih⟩
    · exact ⟨h1, c1, by omega, ih.mono (by show min r.2 f ≤ r.2; omega) (Int.le_refl _)⟩
    · exact ⟨by show lo < max r.1 t; omega, c2, h3, ih⟩
    · exact ih.mono (by omega) (Int.le_refl _)
theorem dropR_length (f t : Int) : ∀ l : List Run, (dropR f t l).length ≤ 2 * l.length
  | [] => by simp [dropR]
  | r :: l => by
    have := dropR_length f t l
    unfold dropR
    split <;> split <;> simp <;> omega
def cntR : List Run → Int
  | [] => 0
  | r :: l => (r.2 - r.1) + cntR l
theorem cntR_le : ∀ {l : List Run} {lo e : Int}, Nrm lo e l → lo < e → 0 ≤ cntR l ∧ cntR l ≤ e - lo - 1
  | [], lo, e, _, h => ⟨Int.le_refl _, by show (0 : Int) ≤ _; omega⟩
  | r :: l, lo, e, ⟨h1, h2, h3, h4⟩, h => by
    unfold cntR
    by_cases c : r.2 < e
    · have := cntR_le h4 c; omega
    · have : l = [] := by
        cases l with
        | nil => rfl
        | cons q l => have := h4.1; have := h4.2.1; have := h4.2.2.1; omega
      subst this
      simp only [cntR]; omega
theorem Nrm.of_mem : ∀ {l : List Run} {lo e lo' e' : Int}, Nrm lo e l → (∀ n, mem l n → lo' < n ∧ n < e') → Nrm lo' e' l
  | [], _, _, _, _, _, _ => trivial
  | r :: l, lo, e, lo', e', ⟨h1, h2, h3, h4⟩, h => by
    have a := h r.1 ((mem_cons _ _ _).2 (.inl ⟨Int.le_refl _, h2⟩))
    have b := h (r.2 - 1) ((mem_cons _ _ _).2 (.inl ⟨by omega, by omega⟩))
    refine ⟨a.1, h2, by omega, Nrm.of_mem (lo := r.2) (e := e) h4 fun n hn => ⟨?_, (h n ((mem_cons _ _ _).2 (.inr hn))).2⟩⟩
    obtain ⟨q, hq, x, y⟩ := hn
    have := h4.low q hq; omega
end Go.Abs
/- Runs (pairs of whole numbers) in memory. -/
set_option linter.unusedVariables false
set_option linter.unusedSimpArgs false
namespace Go.Abs
open Go
def runsV : List Run → List Value
  | [] => []
  | r :: l => .int .i64 r.1 :: .int .i64 r.2 :: runsV l
theorem runsV_app : ∀ (a b : List Run), runsV (a ++ b) = runsV a ++ runsV b
  | [], b => rfl
  | r :: a, b => by simp [runsV, runsV_app a b]
theorem runsV_length : ∀ l : List Run, (runsV l).length = l.length * 2
  | [] => rfl
  | r :: l => by simp [runsV, runsV_length l]; omega
theorem runsV_oneC : ∀ l : List Run, (runsV l).all oneC = true
  | [] => rfl
  | r :: l => by simp [runsV, oneC, runsV_oneC l]
theorem runsV_get : ∀ (l : List Run) (j : Nat), j < l.length → (runsV l)[j * 2]? = some (.int .i64 (l.getD j (0, 0)).1) ∧ (runsV l)[j * 2 + 1]? = some (.int .i64 (l.getD j (0, 0)).2)
  | r :: l, 0, _ => ⟨rfl, rfl⟩
  | r :: l, j + 1, h => by
    have := runsV_get l j (by simpa using h)
    rw [show (j + 1) * 2 = j * 2 + 1 + 1 by omega]
    simpa [runsV] using this
def RdR (h : H) (s : Sl) (l : List Run) : Prop := Rd 2 h s (runsV l)
def BufR (h : H) (s : Sl) (l : List Run) : Prop := Buf 2 h s (runsV l)
theorem RdR.len {h : H} {s : Sl} {l : List Run} (r : RdR h s l) : s.len = l.length := by
  have := Rd.len r; rw [runsV_length] at this; omega
theorem RdR.ex {h h' : H} {s : Sl} {l : List Run} (x : EX h h') (r : RdR h s l) : RdR h' s l := Rd.ex x r
theorem BufR.rd {h : H} {s : Sl} {l : List Run} (r : BufR h s l) : RdR h s l := Buf.rd r
theorem BufR.ex {h h' : H} {s : Sl} {l : List Run} (w : WF h) (x : EX h h') (r : BufR h s l) : BufR h' s l := Buf.ex w x r
theorem ldCells2 {h : H} {a : Addr} {u v : Value} (h1 : ldCell h (add a 0) = some u) (h2 : ldCell h (add a 1) = some v) : ldCells h a 2 = some [u, v] := by
  rw [addA_zero] at h1
  simp only [ldCells, h1, h2]
theorem PO.ixR {α : Type} {Q : α → Prop} {h : H} {s : Sl} {l : List Run} {j : Int} {g : Addr → Option α} (r : RdR h s l) (h0 : 0 ≤ j) (h1 : j < l.length)
    (p : ∀ a b, s.base = some b → a = add b (j.toNat * 2) → Abs.ldZ [.int .i64, .int .i64] h a = some (l.getD j.toNat (0, 0)) → Abs.ldI .i64 h (add a 0) = some (l.getD j.toNat (0, 0)).1 → Abs.ldI .i64 h (add a 1) = some (l.getD j.toNat (0, 0)).2 → PO (g a) Q) : PO (bindO (ixT 2 s j) g) Q := by
  obtain ⟨a, ha, e⟩ := ixT_ok r h0 (by rw [RdR.len r]; exact h1)
  obtain ⟨g1, g2⟩ := runsV_get l j.toNat (by omega)
  have l1 : ldCell h (add (add a (j.toNat * 2)) 0) = some (.int .i64 (l.getD j.toNat (0, 0)).1) := by rw [add_add]; exact (Rd.ld r a ha _ _ g1).2
  have l2 : ldCell h (add (add a (j.toNat * 2)) 1) = some (.int .i64 (l.getD j.toNat (0, 0)).2) := by rw [add_add]; exact (Rd.ld r a ha _ _ g2).2
  exact .op e (p _ a ha rfl (ldZ_of (zs := [.int .i64, .int .i64]) (x := l.getD j.toNat (0, 0)) (ldCells2 l1 l2)) (ldI_of l1) (ldI_of l2))
theorem PO.ixA {α : Type} {Q : α → Prop} {n sz : Nat} {a : Addr} {i : Int} {g : Addr → Option α} (h0 : 0 ≤ i) (h1 : i < n) (p : PO (g (add a (i.toNat * sz))) Q) : PO (bindO (ixAT n sz a i) g) Q := .op (ixAT_ok a h0 h1) p
theorem PO.appR1 {α : Type} {Q : α → Prop} {h0 h : H} {out : Sl} {l : List Run} {x y : Int} {g : Sl → H → Option α} (hb : BufR h out l) (hx : EX h0 h) (hf : Fr h0.size out) (hl : l.length + 1 ≤ 2 ^ 42)
    (k : ∀ out1 h2, BufR h2 out1 (l ++ [(x, y)]) → EX h0 h2 → Fr h0.size out1 → KP h h2 → PO (g out1 h2) Q) : PO (newO (row 100 [.int .i64 x, .int .i64 y]) h fun b h1 => bind2 (appT 100 2 16 h1 out ⟨some ⟨b, 0, some 0⟩, 1, 1⟩) g) Q := by
  refine PO.newB hx.wf fun h1 x1 B1 z1 w1 => ?_
  have r1 : RdR h1 ⟨some ⟨h.size, 0, some 0⟩, 1, 1⟩ [(x, y)] := B1.rd w1 rfl (by unfold CapOK; rw [capK_exact (by unfold B63; omega)]; exact Nat.le_refl _)
  have hb1 : BufR h1 out l := hb.ex hx.wf x1
  have hlen := RdR.len hb1.rd
  obtain ⟨s', h', e, k1, x2, b2, _, f2⟩ := appT_ok (e := 100) (bytes := 16) (by omega) (by unfold B63; omega) w1 hb1 r1 (runsV_oneC _) (by simp only; omega) (by simp only; omega)
  refine PO.callE e (k s' h' ?_ (x2 _ (hx.trans x1) hf) (f2 _ (hx.trans x1).size hf) ((x1.kp hx.wf).trans k1))
  unfold BufR; rw [runsV_app]; exact b2
theorem PO.ldR1 {α : Type} {Q : α → Prop} {h : H} {a : Addr} {c : Nat} {r : Run} {g : Int × Int → Option α} (hr : RdR h ⟨some a, 1, c⟩ [r]) (p : PO (g r) Q) : PO (bindO (Abs.ldZ [.int .i64, .int .i64] h a) g) Q :=
  .op (ldZ_of (zs := [.int .i64, .int .i64]) (x := r) (ldCells2 (Rd.ld hr a rfl 0 _ rfl).2 (Rd.ld hr a rfl 1 _ rfl).2)) p
theorem Box.r1 {h : H} {b : Nat} {r : Run} (B : Box h b [.int .i64 r.1, .int .i64 r.2]) (w : WF h) : RdR h ⟨some ⟨b, 0, some 0⟩, 1, 1⟩ [r] := B.rd w rfl (by unfold CapOK; rw [capK_exact (by unfold B63; omega)]; exact Nat.le_refl _)
theorem RdR.mono {h h' : H} {s : Sl} {l : List Run} (x : KP h h') (r : RdR h s l) : RdR h' s l := Rd.mono r x
end Go.Abs
