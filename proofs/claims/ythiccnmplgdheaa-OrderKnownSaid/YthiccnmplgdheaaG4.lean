/- Lemmas about the typed texts (joined: SSpan1 S12 S13). -/
import Derived.Test.YthiccnmplgdheaaG3
/- Sets of numbers as runs: the plain laws of adding and dropping. -/
set_option linter.unusedVariables false
set_option linter.unusedSimpArgs false
namespace Go.Abs
open Go
abbrev Run := Int × Int
/-- runs that rise and do not touch: above lo, up to e -/
def Nrm : Int → Int → List Run → Prop
  | _, _, [] => True
  | lo, e, r :: l => lo < r.1 ∧ r.1 < r.2 ∧ r.2 ≤ e ∧ Nrm r.2 e l
def mem (l : List Run) (n : Int) : Prop := ∃ r ∈ l, r.1 ≤ n ∧ n < r.2
instance (l : List Run) (n : Int) : Decidable (mem l n) := by unfold mem; infer_instance
def memB (l : List Run) (n : Int) : Bool := l.any fun r => decide (r.1 ≤ n) && decide (n < r.2)
theorem memB_iff (l : List Run) (n : Int) : memB l n = true ↔ mem l n := by simp [memB, mem]
theorem mem_nil (n : Int) : mem [] n ↔ False := by simp [mem]
theorem mem_cons (r : Run) (l : List Run) (n : Int) : mem (r :: l) n ↔ (r.1 ≤ n ∧ n < r.2) ∨ mem l n := by simp [mem]
theorem mem_app (a b : List Run) (n : Int) : mem (a ++ b) n ↔ mem a n ∨ mem b n := by
  simp only [mem, List.mem_append]
  constructor
  · rintro ⟨r, h | h, x⟩
    · exact .inl ⟨r, h, x⟩
    · exact .inr ⟨r, h, x⟩
  · rintro (⟨r, h, x⟩ | ⟨r, h, x⟩)
    · exact ⟨r, .inl h, x⟩
    · exact ⟨r, .inr h, x⟩
theorem Nrm.mono : ∀ {l : List Run} {lo lo' e e' : Int}, Nrm lo e l → lo' ≤ lo → e ≤ e' → Nrm lo' e' l
  | [], _, _, _, _, _, _, _ => trivial
  | r :: l, lo, lo', e, e', ⟨h1, h2, h3, h4⟩, a, b => ⟨by omega, h2, by omega, Nrm.mono h4 (Int.le_refl _) b⟩
theorem Nrm.low : ∀ {l : List Run} {lo e : Int}, Nrm lo e l → ∀ r ∈ l, lo < r.1 ∧ r.1 < r.2 ∧ r.2 ≤ e
  | r :: l, lo, e, ⟨h1, h2, h3, h4⟩, q, hq => by
    rcases List.mem_cons.1 hq with rfl | hq
    · exact ⟨h1, h2, h3⟩
    · have := Nrm.low h4 q hq; omega
def addR : Int → Int → Bool → List Run → List Run
  | f, t, done, [] => if done then [] else [(f, t)]
  | f, t, done, r :: l => if r.2 < f then r :: addR f t done l else if r.1 > t then (if done then [r] else [(f, t), r]) ++ addR f t true l else addR (min f r.1) (max t r.2) done l
theorem addR_cons (f t : Int) (done : Bool) (r : Run) (l : List Run) : addR f t done (r :: l) = if r.2 < f then r :: addR f t done l else if r.1 > t then (if done then [r] else [(f, t), r]) ++ addR f t true l else addR (min f r.1) (max t r.2) done l := rfl
theorem addR_done : ∀ (l : List Run) (f t : Int), f ≤ t → (∀ r ∈ l, t < r.1 ∧ r.1 < r.2) → addR f t true l = l
  | [], f, t, _, _ => by simp [addR]
  | r :: l, f, t, h, hl => by
    have h1 := hl r (List.mem_cons_self ..)
    unfold addR
    rw [if_neg (by omega), if_pos (by omega), addR_done l f t h fun q hq => hl q (List.mem_cons_of_mem _ hq)]
    rfl
theorem addR_mem : ∀ (l : List Run) (lo e f t n : Int), Nrm lo e l → f < t → (mem (addR f t false l) n ↔ mem l n ∨ (f ≤ n ∧ n < t))
  | [], lo, e, f, t, n, _, _ => by simp [addR, mem]
  | r :: l, lo, e, f, t, n, ⟨h1, h2, h3, h4⟩, hft => by
    unfold addR
    by_cases c1 : r.2 < f
    · rw [if_pos c1, mem_cons, addR_mem l _ _ f t n h4 hft, mem_cons, or_assoc]
    · rw [if_neg c1]
      by_cases c2 : r.1 > t
      · rw [if_pos c2, addR_done l f t (by omega) fun q hq => by have := h4.low q hq; omega]
        simp only [Bool.false_eq_true, if_false, List.cons_append, List.nil_append, mem_cons]
        rw [or_comm]
      · rw [if_neg c2, addR_mem l _ _ _ _ n h4 (by omega), mem_cons]
        constructor
        · rintro (h | h)
          · exact .inl (.inr h)
          · by_cases hh : f ≤ n ∧ n < t
            · exact .inr hh
            · exact .inl (.inl (by omega))
        · rintro ((h | h) | h)
          · exact .inr (by omega)
          · exact .inl h
          · exact .inr (by omega)
theorem addR_nrm : ∀ (l : List Run) (lo e f t : Int), Nrm lo e l → lo < f → f < t → t ≤ e → Nrm lo e (addR f t false l)
  | [], lo, e, f, t, _, h1, h2, h3 => ⟨h1, h2, h3, trivial⟩
  | r :: l, lo, e, f, t, ⟨h1, h2, h3, h4⟩, a, b, c => by
    unfold addR
    by_cases c1 : r.2 < f
    · rw [if_pos c1]; exact ⟨h1, h2, h3, addR_nrm l _ _ f t h4 c1 b c⟩
    · rw [if_neg c1]
      by_cases c2 : r.1 > t
      · rw [if_pos c2, addR_done l f t (by omega) fun q hq => by have := h4.low q hq; omega]
        exact ⟨a, b, c, c2, h2, h3, h4⟩
      · rw [if_neg c2]
        exact addR_nrm l _ _ _ _ (h4.mono (by omega) (Int.le_refl _)) (by omega) (by omega) (by omega)
theorem addR_length : ∀ (l : List Run) (f t : Int) (done : Bool), (addR f t done l).length ≤ l.length + 1
  | [], f, t, done => by cases done <;> simp [addR]
  | r :: l, f, t, done => by
    unfold addR
    split
    · have := addR_length l f t done; simp; omega
    · split
      · have := addR_length' l f t
        cases done <;> simp <;> omega
      · have := addR_length l (min f r.1) (max t r.2) done; simp; omega
where
  addR_length' : ∀ (l : List Run) (f t : Int), (addR f t true l).length ≤ l.length
    | [], f, t => by simp [addR]
    | r :: l, f, t => by
      unfold addR
      split
      · have := addR_length' l f t; simp; omega
      · split
        · have := addR_length' l f t; simp; omega
        · have := addR_length' l (min f r.1) (max t r.2); simp; omega
def dropR (f t : Int) : List Run → List Run
  | [] => []
  | r :: l => (if r.1 < min r.2 f then [(r.1, min r.2 f)] else []) ++ (if max r.1 t < r.2 then [(max r.1 t, r.2)] else []) ++ dropR f t l
theorem dropR_mem (f t n : Int) : ∀ (l : List Run) (lo e : Int), Nrm lo e l → f < t → (mem (dropR f t l) n ↔ mem l n ∧ ¬ (f ≤ n ∧ n < t))
  | [], lo, e, _, _ => by simp [dropR, mem]
  | r :: l, lo, e, ⟨h1, h2, h3, h4⟩, hft => by
    unfold dropR
    rw [mem_app, mem_app, dropR_mem f t n l _ _ h4 hft, mem_cons, or_and_right]
    refine or_congr ?_ Iff.rfl
    have one : ∀ a b : Int, mem (if a < b then [(a, b)] else []) n ↔ a ≤ n ∧ n < b := by
      intro a b
      by_cases h : a < b
      · rw [if_pos h, mem_cons, mem_nil]; simp
      · rw [if_neg h, mem_nil]; exact ⟨fun x => x.elim, fun x => absurd (Int.lt_of_le_of_lt x.1 x.2) h⟩
    rw [one, one]
    constructor
    · rintro (⟨a, b⟩ | ⟨a, b⟩)
      · exact ⟨⟨a, by omega⟩, by omega⟩
      · exact ⟨⟨by omega, b⟩, by omega⟩
    · rintro ⟨⟨a, b⟩, c⟩
      by_cases hh : n < f
      · exact .inl ⟨a, by omega⟩
      · exact .inr ⟨by omega, b⟩
theorem dropR_nrm (f t : Int) : ∀ (l : List Run) (lo e : Int), Nrm lo e l → f < t → Nrm lo e (dropR f t l)
  | [], lo, e, _, _ => trivial
  | r :: l, lo, e, ⟨h1, h2, h3, h4⟩, hft => by
    have ih := dropR_nrm f t l _ _ h4 hft
    unfold dropR
    by_cases c1 : r.1 < min r.2 f <;> by_cases c2 : max r.1 t < r.2 <;> simp only [c1, c2, if_true, if_false, List.cons_append, List.nil_append]
    · exact ⟨h1, c1, by omega, by show min r.2 f < max r.1 t; omega, c2, h3, ih⟩
    · exact ⟨h1, c1, by omega, ih.mono (by show min r.2 f ≤ r.2; omega) (Int.le_refl _)⟩
    · exact ⟨by show lo < max r.1 t; omega, c2, h3, ih⟩
    · exact ih.mono (by omega) (Int.le_refl _)
theorem dropR_length (f t : Int) : ∀ l : List Run, (dropR f t l).length ≤ 2 * l.length
  | [] => by simp [dropR]
  | r :: l => by
    have := dropR_length f t l
    unfold dropR
    split <;> split <;> simp <;> omega
def cntR : List Run → Int
  | [] => 0
  | r :: l => (r.2 - r.1) + cntR l
theorem cntR_le : ∀ {l : List Run} {lo e : Int}, Nrm lo e l → lo < e → 0 ≤ cntR l ∧ cntR l ≤ e - lo - 1
  | [], lo, e, _, h => ⟨Int.le_refl _, by show (0 : Int) ≤ _; omega⟩
  | r :: l, lo, e, ⟨h1, h2, h3, h4⟩, h => by
    unfold cntR
    by_cases c : r.2 < e
    · have := cntR_le h4 c; omega
    · have : l = [] := by
        cases l with
        | nil => rfl
        | cons q l => have := h4.1; have := h4.2.1; have := h4.2.2.1; omega
      subst this
      simp only [cntR]; omega
theorem Nrm.of_mem : ∀ {l : List Run} {lo e lo' e' : Int}, Nrm lo e l → (∀ n, mem l n → lo' < n ∧ n < e') → Nrm lo' e' l
  | [], _, _, _, _, _, _ => trivial
  | r :: l, lo, e, lo', e', ⟨h1, h2, h3, h4⟩, h => by
    have a := h r.1 ((mem_cons _ _ _).2 (.inl ⟨Int.le_refl _, h2⟩))
    have b := h (r.2 - 1) ((mem_cons _ _ _).2 (.inl ⟨by omega, by omega⟩))
    refine ⟨a.1, h2, by omega, Nrm.of_mem (lo := r.2) (e := e) h4 fun n hn => ⟨?_, (h n ((mem_cons _ _ _).2 (.inr hn))).2⟩⟩
    obtain ⟨q, hq, x, y⟩ := hn
    have := h4.low q hq; omega
end Go.Abs
/- Runs (pairs of whole numbers) in memory. -/
set_option linter.unusedVariables false
set_option linter.unusedSimpArgs false
namespace Go.Abs
open Go
def runsV : List Run → List Value
  | [] => []
  | r :: l => .int .i64 r.1 :: .int .i64 r.2 :: runsV l
theorem runsV_app : ∀ (a b : List Run), runsV (a ++ b) = runsV a ++ runsV b
  | [], b => rfl
  | r :: a, b => by simp [runsV, runsV_app a b]
theorem runsV_length : ∀ l : List Run, (runsV l).length = l.length * 2
  | [] => rfl
  | r :: l => by simp [runsV, runsV_length l]; omega
theorem runsV_oneC : ∀ l : List Run, (runsV l).all oneC = true
  | [] => rfl
  | r :: l => by simp [runsV, oneC, runsV_oneC l]
theorem runsV_get : ∀ (l : List Run) (j : Nat), j < l.length → (runsV l)[j * 2]? = some (.int .i64 (l.getD j (0, 0)).1) ∧ (runsV l)[j * 2 + 1]? = some (.int .i64 (l.getD j (0, 0)).2)
  | r :: l, 0, _ => ⟨rfl, rfl⟩
  | r :: l, j + 1, h => by
    have := runsV_get l j (by simpa using h)
    rw [show (j + 1) * 2 = j * 2 + 1 + 1 by omega]
    simpa [runsV] using this
def RdR (h : H) (s : Sl) (l : List Run) : Prop := Rd 2 h s (runsV l)
def BufR (h : H) (s : Sl) (l : List Run) : Prop := Buf 2 h s (runsV l)
theorem RdR.len {h : H} {s : Sl} {l : List Run} (r : RdR h s l) : s.len = l.length := by
  have := Rd.len r; rw [runsV_length] at this; omega
theorem RdR.ex {h h' : H} {s : Sl} {l : List Run} (x : EX h h') (r : RdR h s l) : RdR h' s l := Rd.ex x r
theorem BufR.rd {h : H} {s : Sl} {l : List Run} (r : BufR h s l) : RdR h s l := Buf.rd r
theorem BufR.ex {h h' : H} {s : Sl} {l : List Run} (w : WF h) (x : EX h h') (r : BufR h s l) : BufR h' s l := Buf.ex w x r
theorem ldCells2 {h : H} {a : Addr} {u v : Value} (h1 : ldCell h (add a 0) = some u) (h2 : ldCell h (add a 1) = some v) : ldCells h a 2 = some [u, v] := by
  rw [addA_zero] at h1
  simp only [ldCells, h1, h2]
theorem PO.ixR {α : Type} {Q : α → Prop} {h : H} {s : Sl} {l : List Run} {j : Int} {g : Addr → Option α} (r : RdR h s l) (h0 : 0 ≤ j) (h1 : j < l.length)
    (p : ∀ a b, s.base = some b → a = add b (j.toNat * 2) → Abs.ldZ [.int .i64, .int .i64] h a = some (l.getD j.toNat (0, 0)) → Abs.ldI .i64 h (add a 0) = some (l.getD j.toNat (0, 0)).1 → Abs.ldI .i64 h (add a 1) = some (l.getD j.toNat (0, 0)).2 → PO (g a) Q) : PO (bindO (ixT 2 s j) g) Q := by
  obtain ⟨a, ha, e⟩ := ixT_ok r h0 (by rw [RdR.len r]; exact h1)
  obtain ⟨g1, g2⟩ := runsV_get l j.toNat (by omega)
  have l1 : ldCell h (add (add a (j.toNat * 2)) 0) = some (.int .i64 (l.getD j.toNat (0, 0)).1) := by rw [add_add]; exact (Rd.ld r a ha _ _ g1).2
  have l2 : ldCell h (add (add a (j.toNat * 2)) 1) = some (.int .i64 (l.getD j.toNat (0, 0)).2) := by rw [add_add]; exact (Rd.ld r a ha _ _ g2).2
  exact .op e (p _ a ha rfl (ldZ_of (zs := [.int .i64, .int .i64]) (x := l.getD j.toNat (0, 0)) (ldCells2 l1 l2)) (ldI_of l1) (ldI_of l2))
theorem PO.ixA {α : Type} {Q : α → Prop} {n sz : Nat} {a : Addr} {i : Int} {g : Addr → Option α} (h0 : 0 ≤ i) (h1 : i < n) (p : PO (g (add a (i.toNat * sz))) Q) : PO (bindO (ixAT n sz a i) g) Q := .op (ixAT_ok a h0 h1) p
theorem PO.appR1 {α : Type} {Q : α → Prop} {h0 h : H} {out : Sl} {l : List Run} {x y : Int} {g : Sl → H → Option α} (hb : BufR h out l) (hx : EX h0 h) (hf : Fr h0.size out) (hl : l.length + 1 ≤ 2 ^ 42)
    (k : ∀ out1 h2, BufR h2 out1 (l ++ [(x, y)]) → EX h0 h2 → Fr h0.size out1 → KP h h2 → PO (g out1 h2) Q) : PO (newO (row 36 [.int .i64 x, .int .i64 y]) h fun b h1 => bind2 (appT 36 2 16 h1 out ⟨some ⟨b, 0, some 0⟩, 1, 1⟩) g) Q := by
  refine PO.newB hx.wf fun h1 x1 B1 z1 w1 => ?_
  have r1 : RdR h1 ⟨some ⟨h.size, 0, some 0⟩, 1, 1⟩ [(x, y)] := B1.rd w1 rfl (by unfold CapOK; rw [capK_exact (by unfold B63; omega)]; exact Nat.le_refl _)
  have hb1 : BufR h1 out l := hb.ex hx.wf x1
  have hlen := RdR.len hb1.rd
  obtain ⟨s', h', e, k1, x2, b2, _, f2⟩ := appT_ok (e := 36) (bytes := 16) (by omega) (by unfold B63; omega) w1 hb1 r1 (runsV_oneC _) (by simp only; omega) (by simp only; omega)
  refine PO.callE e (k s' h' ?_ (x2 _ (hx.trans x1) hf) (f2 _ (hx.trans x1).size hf) ((x1.kp hx.wf).trans k1))
  unfold BufR; rw [runsV_app]; exact b2
theorem PO.ldR1 {α : Type} {Q : α → Prop} {h : H} {a : Addr} {c : Nat} {r : Run} {g : Int × Int → Option α} (hr : RdR h ⟨some a, 1, c⟩ [r]) (p : PO (g r) Q) : PO (bindO (Abs.ldZ [.int .i64, .int .i64] h a) g) Q :=
  .op (ldZ_of (zs := [.int .i64, .int .i64]) (x := r) (ldCells2 (Rd.ld hr a rfl 0 _ rfl).2 (Rd.ld hr a rfl 1 _ rfl).2)) p
theorem Box.r1 {h : H} {b : Nat} {r : Run} (B : Box h b [.int .i64 r.1, .int .i64 r.2]) (w : WF h) : RdR h ⟨some ⟨b, 0, some 0⟩, 1, 1⟩ [r] := B.rd w rfl (by unfold CapOK; rw [capK_exact (by unfold B63; omega)]; exact Nat.le_refl _)
theorem RdR.mono {h h' : H} {s : Sl} {l : List Run} (x : KP h h') (r : RdR h s l) : RdR h' s l := Rd.mono r x
end Go.Abs
/- Slices that may be written in place. -/
set_option linter.unusedVariables false
set_option linter.unusedSimpArgs false
namespace Go.Abs
open Go
/-- a slice whose row is at its newest version: it may be written -/
structure OwnS (sz : Nat) (h : H) (s : Sl) (l : List Value) : Prop where
  rd : Rd sz h s l
  tip : ∀ a, s.base = some a → ∃ r e, h.objs.get a.block = some (.arr r) ∧ a.spot = some e ∧ r.ver = e ∧ h.nro ≤ a.block ∧ a.off + l.length ≤ r.size
theorem OwnS.ex {sz : Nat} {h h' : H} {s : Sl} {l : List Value} (w : WF h) (x : EX h h') (o : OwnS sz h s l) : OwnS sz h' s l := by
  refine ⟨o.rd.ex x, fun a ha => ?_⟩
  obtain ⟨r, e, h1, h2, h3, h4, h5⟩ := o.tip a ha
  exact ⟨r, e, (x.same _ (lt_of_get w h1)).trans h1, h2, h3, by rw [x.nro]; exact h4, h5⟩
theorem Buf.own {sz : Nat} {h : H} {s : Sl} {l : List Value} (b : Buf sz h s l) : OwnS sz h s l := by
  refine ⟨b.rd, fun a ha => ?_⟩
  rcases b.tip with ht | ⟨a', r, e, h1, h2, h3, h4, h5, h6, _⟩
  · rw [ht] at ha; simp at ha
  · rw [ha] at h1; cases h1
    have := b.rd.len
    exact ⟨r, e, h2, h3, h4, h5, by omega⟩
theorem OwnS.nil (sz : Nat) (h : H) : OwnS sz h ⟨none, 0, 0⟩ [] := ⟨rd_nil sz h, fun a ha => by simp at ha⟩
/-- another slice on the same place, no longer -/
theorem OwnS.sub {sz : Nat} {h : H} {s s' : Sl} {l l' : List Value} (o : OwnS sz h s l) (hb : s'.base = s.base) (r : Rd sz h s' l') (hl : l'.length ≤ l.length) : OwnS sz h s' l' := by
  refine ⟨r, fun a ha => ?_⟩
  obtain ⟨r', e, h1, h2, h3, h4, h5⟩ := o.tip a (hb ▸ ha)
  exact ⟨r', e, h1, h2, h3, h4, by omega⟩
theorem OwnS.stC {sz : Nat} {h : H} {s : Sl} {l : List Value} {a : Addr} (o : OwnS sz h s l) (w : WF h) (ha : s.base = some a) (k : Nat) (vs : List Value) (hk : k + vs.length ≤ l.length) (ho : vs.all oneC = true) :
    ∃ h', stCells h (add a k) vs = some h' ∧ OwnS sz h' s (l.take k ++ vs ++ l.drop (k + vs.length)) ∧ UP (· = a.block) h h' ∧ h'.size = h.size := by
  obtain ⟨r, e, h1, h2, h3, h4, h5⟩ := o.tip a ha
  obtain ⟨h', r', e1, g1, g2, g3, g4, g5, g6, g7, g8⟩ := stCells_ok vs h (add a k) r e w h1 h2 h3 h4 (by simp only [add]; omega) ho
  have hlen : (l.take k ++ vs ++ l.drop (k + vs.length)).length = l.length := by simp; omega
  refine ⟨h', e1, ⟨⟨by rw [hlen]; exact o.rd.len, o.rd.nil, fun p hp i v hi => ?_, o.rd.cap⟩, fun p hp => ?_⟩, ⟨Nat.le_of_eq g4.symm, g5, g6, fun A _ hA => g7 A hA, stCells_st _ e1⟩, g4⟩
  · rw [ha] at hp; cases hp
    have hil := (List.getElem?_eq_some_iff.1 hi).1
    rw [hlen] at hil
    refine ⟨by rw [g4]; exact lt_of_get w h1, ?_⟩
    rw [ldCell_eq]
    show ldO (h'.objs.get a.block) _ = some v
    rw [show h'.objs.get a.block = some (.arr r') from g1]
    have g8' : ∀ j, r'.cells.get j = if a.off + k ≤ j ∧ j < a.off + k + vs.length then (vs[j - (a.off + k)]?).map (⟨·, e⟩) else r.cells.get j := g8
    simp only [ldO, add, h2]
    rw [g8']
    by_cases hi1 : i < k
    · rw [if_neg (by omega)]
      rw [List.append_assoc, List.getElem?_append_left (by simp; omega), List.getElem?_take_of_lt hi1] at hi
      have := (o.rd.ld a ha i v hi).2
      rw [ldCell_eq] at this
      simp only [ldO, add, h1, h2] at this
      exact this
    · by_cases hi2 : i < k + vs.length
      · rw [if_pos (by omega)]
        rw [List.append_assoc, List.getElem?_append_right (by simp; omega), List.getElem?_append_left (by simp; omega)] at hi
        have : i - (List.take k l).length = a.off + i - (a.off + k) := by simp; omega
        rw [this] at hi
        rw [hi]
        simp only [Option.map_some]
        have : e.ble e = true := by simp
        rw [this]; rfl
      · rw [if_neg (by omega)]
        rw [List.getElem?_append_right (by simp; omega), List.getElem?_drop] at hi
        have : k + vs.length + (i - (List.take k l ++ vs).length) = i := by simp; omega
        rw [this] at hi
        have := (o.rd.ld a ha i v hi).2
        rw [ldCell_eq] at this
        simp only [ldO, add, h1, h2] at this
        exact this
  · rw [ha] at hp; cases hp
    exact ⟨r', e, g1, h2, g2, by rw [g5]; exact h4, by rw [hlen, g3]; exact h5⟩
theorem slV_base (sz : Nat) (s : Sl) (N : Nat) : (slV sz s 0 N).base = s.base := by
  unfold slV
  cases hb : s.base with
  | none => rfl
  | some a =>
    simp only
    cases capK s.cap with
    | exact k => cases h : k.beq 0 <;> simp [addA_zero]
    | unk z => rfl
    | unk0 z => rfl
    | any => simp [addA_zero]
theorem clip_base {sz : Nat} (hz : 0 < sz) (hz2 : sz < B63) {h : H} {s : Sl} {l : List Value} (r : Rd sz h s l) (hl : s.len < B63) :
    ∃ s', slT sz h s none (some (s.len : Int)) (some (s.len : Int)) = some s' ∧ Rd sz h s' l ∧ s'.len = s.len ∧ s'.base = s.base := by
  obtain ⟨s', e, r', h1, h2, h3⟩ := clip_ok hz hz2 r hl
  refine ⟨s', e, r', h1, ?_⟩
  obtain ⟨b, len, cap⟩ := s
  cases b with
  | none => exact h2 rfl
  | some a =>
    have hcap := r.cap (by simp)
    simp only at hcap hl
    have hcl := capLow_ge h a hcap
    have b1 : bnd (capLow h a len sz (capK cap)) (.int .i64 (len : Int)) = some len := by
      have := bnd_int (y := capLow h a len sz (capK cap)) (i := (len : Int)) (k := .i64) (by omega) (by omega)
      simpa using this
    have b2 : bnd len (.int .i64 (len : Int)) = some len := by
      have := bnd_int (y := len) (i := (len : Int)) (k := .i64) (by omega) (by omega)
      simpa using this
    have u0 : (isUnk0 (capK cap) && !Nat.beq 0 0 || !len.blt B63) = false := by
      simp only [show Nat.beq 0 0 = true from rfl, Bool.not_true, Bool.and_false, Bool.false_or, Bool.not_eq_false']
      simp only [Nat.blt_eq]; exact hl
    have : slA (DSE 0 (tyS sz 0 .nilFunc)) h 1 (encSl ⟨some a, len, cap⟩) none (some (.int .i64 (len : Int))) (some (.int .i64 (len : Int))) = some (.slice (some (bif len.beq 0 then a else add a (0 * sz))) (len - 0) (len - 0)) := by
      unfold slA encSl
      simp only [show (DSE 0 (tyS sz 0 .nilFunc)).ty.get 1 = some ⟨1, 24, .slice none 0 0, .slice 0, false⟩ from DSE_s 0 _, DSE_e]
      simp only [DSE_e, show (tyS sz 0 .nilFunc).size = sz from rfl, b1, b2, bndO_none, u0, cond_false]
    have e2 := slT_of (lo := none) (hi := some (len : Int)) (mx := some (len : Int)) this
    simp only at e
    rw [e] at e2
    have e3 := Option.some.inj e2
    rw [e3]
    simp only [Nat.zero_mul, addA_zero]
    cases len.beq 0 <;> rfl
end Go.Abs
