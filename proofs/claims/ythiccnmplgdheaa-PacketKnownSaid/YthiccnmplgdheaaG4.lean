/- Lemmas about the typed texts (joined: SSpan1 S12 SPnum). -/
import Derived.Test.YthiccnmplgdheaaG3
import Derived.Test.YthiccnmplgdheaaTxt
import Derived.Test.YthiccnmplgdheaaAbsF
/- Sets of numbers as runs: the plain laws of adding and dropping. -/
set_option linter.unusedVariables false
set_option linter.unusedSimpArgs false
namespace Go.Abs
open Go
abbrev Run := Int × Int
/-- runs that rise and do not touch: above lo, up to e -/
def Nrm : Int → Int → List Run → Prop
  | _, _, [] => True
  | lo, e, r :: l => lo < r.1 ∧ r.1 < r.2 ∧ r.2 ≤ e ∧ Nrm r.2 e l
def mem (l : List Run) (n : Int) : Prop := ∃ r ∈ l, r.1 ≤ n ∧ n < r.2
instance (l : List Run) (n : Int) : Decidable (mem l n) := by unfold mem; infer_instance
def memB (l : List Run) (n : Int) : Bool := l.any fun r => decide (r.1 ≤ n) && decide (n < r.2)
theorem memB_iff (l : List Run) (n : Int) : memB l n = true ↔ mem l n := by simp [memB, mem]
theorem mem_nil (n : Int) : mem [] n ↔ False := by simp [mem]
theorem mem_cons (r : Run) (l : List Run) (n : Int) : mem (r :: l) n ↔ (r.1 ≤ n ∧ n < r.2) ∨ mem l n := by simp [mem]
theorem mem_app (a b : List Run) (n : Int) : mem (a ++ b) n ↔ mem a n ∨ mem b n := by
  simp only [mem, List.mem_append]
  constructor
  · rintro ⟨r, h | h, x⟩
    · exact .inl ⟨r, h, x⟩
    · exact .inr ⟨r, h, x⟩
  · rintro (⟨r, h, x⟩ | ⟨r, h, x⟩)
    · exact ⟨r, .inl h, x⟩
    · exact ⟨r, .inr h, x⟩
theorem Nrm.mono : ∀ {l : List Run} {lo lo' e e' : Int}, Nrm lo e l → lo' ≤ lo → e ≤ e' → Nrm lo' e' l
  | [], _, _, _, _, _, _, _ => trivial
  | r :: l, lo, lo', e, e', ⟨h1, h2, h3, h4⟩, a, b => ⟨by omega, h2, by omega, Nrm.mono h4 (Int.le_refl _) b⟩
theorem Nrm.low : ∀ {l : List Run} {lo e : Int}, Nrm lo e l → ∀ r ∈ l, lo < r.1 ∧ r.1 < r.2 ∧ r.2 ≤ e
  | r :: l, lo, e, ⟨h1, h2, h3, h4⟩, q, hq => by
    rcases List.mem_cons.1 hq with rfl | hq
    · exact ⟨h1, h2, h3⟩
    · have := Nrm.low h4 q hq; omega
def addR : Int → Int → Bool → List Run → List Run
  | f, t, done, [] => if done then [] else [(f, t)]
  | f, t, done, r :: l => if r.2 < f then r :: addR f t done l else if r.1 > t then (if done then [r] else [(f, t), r]) ++ addR f t true l else addR (min f r.1) (max t r.2) done l
theorem addR_cons (f t : Int) (done : Bool) (r : Run) (l : List Run) : addR f t done (r :: l) = if r.2 < f then r :: addR f t done l else if r.1 > t then (if done then [r] else [(f, t), r]) ++ addR f t true l else addR (min f r.1) (max t r.2) done l := rfl
theorem addR_done : ∀ (l : List Run) (f t : Int), f ≤ t → (∀ r ∈ l, t < r.1 ∧ r.1 < r.2) → addR f t true l = l
  | [], f, t, _, _ => by simp [addR]
  | r :: l, f, t, h, hl => by
    have h1 := hl r (List.mem_cons_self ..)
    unfold addR
    rw [if_neg (by omega), if_pos (by omega), addR_done l f t h fun q hq => hl q (List.mem_cons_of_mem _ hq)]
    rfl
theorem addR_mem : ∀ (l : List Run) (lo e f t n : Int), Nrm lo e l → f < t → (mem (addR f t false l) n ↔ mem l n ∨ (f ≤ n ∧ n < t))
  | [], lo, e, f, t, n, _, _ => by simp [addR, mem]
  | r :: l, lo, e, f, t, n, ⟨h1, h2, h3, h4⟩, hft => by
    unfold addR
    by_cases c1 : r.2 < f
    · rw [if_pos c1, mem_cons, addR_mem l _ _ f t n h4 hft, mem_cons, or_assoc]
    · rw [if_neg c1]
      by_cases c2 : r.1 > t
      · rw [if_pos c2, addR_done l f t (by omega) fun q hq => by have := h4.low q hq; omega]
        simp only [Bool.false_eq_true, if_false, List.cons_append, List.nil_append, mem_cons]
        rw [or_comm]
      · rw [if_neg c2, addR_mem l _ _ _ _ n h4 (by omega), mem_cons]
        constructor
        · rintro (h | h)
          · exact .inl (.inr h)
          · by_cases hh : f ≤ n ∧ n < t
            · exact .inr hh
            · exact .inl (.inl (by omega))
        · rintro ((h | h) | h)
          · exact .inr (by omega)
          · exact .inl h
          · exact .inr (by omega)
theorem addR_nrm : ∀ (l : List Run) (lo e f t : Int), Nrm lo e l → lo < f → f < t → t ≤ e → Nrm lo e (addR f t false l)
  | [], lo, e, f, t, _, h1, h2, h3 => ⟨h1, h2, h3, trivial⟩
  | r :: l, lo, e, f, t, ⟨h1, h2, h3, h4⟩, a, b, c => by
    unfold addR
    by_cases c1 : r.2 < f
    · rw [if_pos c1]; exact ⟨h1, h2, h3, addR_nrm l _ _ f t h4 c1 b c⟩
    · rw [if_neg c1]
      by_cases c2 : r.1 > t
      · rw [if_pos c2, addR_done l f t (by omega) fun q hq => by have := h4.low q hq; omega]
        exact ⟨a, b, c, c2, h2, h3, h4⟩
      · rw [if_neg c2]
        exact addR_nrm l _ _ _ _ (h4.mono (by omega) (Int.le_refl _)) (by omega) (by omega) (by omega)
theorem addR_length : ∀ (l : List Run) (f t : Int) (done : Bool), (addR f t done l).length ≤ l.length + 1
  | [], f, t, done => by cases done <;> simp [addR]
  | r :: l, f, t, done => by
    unfold addR
    split
    · have := addR_length l f t done; simp; omega
    · split
      · have := addR_length' l f t
        cases done <;> simp <;> omega
      · have := addR_length l (min f r.1) (max t r.2) done; simp; omega
where
  addR_length' : ∀ (l : List Run) (f t : Int), (addR f t true l).length ≤ l.length
    | [], f, t => by simp [addR]
    | r :: l, f, t => by
      unfold addR
      split
      · have := addR_length' l f t; simp; omega
      · split
        · have := addR_length' l f t; simp; omega
        · have := addR_length' l (min f r.1) (max t r.2); simp; omega
def dropR (f t : Int) : List Run → List Run
  | [] => []
  | r :: l => (if r.1 < min r.2 f then [(r.1, min r.2 f)] else []) ++ (if max r.1 t < r.2 then [(max r.1 t, r.2)] else []) ++ dropR f t l
theorem dropR_mem (f t n : Int) : ∀ (l : List Run) (lo e : Int), Nrm lo e l → f < t → (mem (dropR f t l) n ↔ mem l n ∧ ¬ (f ≤ n ∧ n < t))
  | [], lo, e, _, _ => by simp [dropR, mem]
  | r :: l, lo, e, ⟨h1, h2, h3, h4⟩, hft => by
    unfold dropR
    rw [mem_app, mem_app, dropR_mem f t n l _ _ h4 hft, mem_cons, or_and_right]
    refine or_congr ?_ Iff.rfl
    have one : ∀ a b : Int, mem (if a < b then [(a, b)] else []) n ↔ a ≤ n ∧ n < b := by
      intro a b
      by_cases h : a < b
      · rw [if_pos h, mem_cons, mem_nil]; simp
      · rw [if_neg h, mem_nil]; exact ⟨fun x => x.elim, fun x => absurd (Int.lt_of_le_of_lt x.1 x.2) h⟩
    rw [one, one]
    constructor
    · rintro (⟨a, b⟩ | ⟨a, b⟩)
      · exact ⟨⟨a, by omega⟩, by omega⟩
      · exact ⟨⟨by omega, b⟩, by omega⟩
    · rintro ⟨⟨a, b⟩, c⟩
      by_cases hh : n < f
      · exact .inl ⟨a, by omega⟩
      · exact .inr ⟨by omega, b⟩
theorem dropR_nrm (f t : Int) : ∀ (l : List Run) (lo e : Int), Nrm lo e l → f < t → Nrm lo e (dropR f t l)
  | [], lo, e, _, _ => trivial
  | r :: l, lo, e, ⟨h1, h2, h3, h4⟩, hft => by
    have ih := dropR_nrm f t l _ _ h4 hft
    unfold dropR
    by_cases c1 : r.1 < min r.2 f <;> by_cases c2 : max r.1 t < r.2 <;> simp only [c1, c2, if_true, if_false, List.cons_append, List.nil_append]
    · exact ⟨h1, c1, by omega, by show min r.2 f < max r.1 t; omega, c2, h3, ih⟩
    · exact ⟨h1, c1, by omega, ih.mono (by show min r.2 f ≤ r.2; omega) (Int.le_refl _)⟩
    · exact ⟨by show lo < max r.1 t; omega, c2, h3, ih⟩
    · exact ih.mono (by omega) (Int.le_refl _)
theorem dropR_length (f t : Int) : ∀ l : List Run, (dropR f t l).length ≤ 2 * l.length
  | [] => by simp [dropR]
  | r :: l => by
    have := dropR_length f t l
    unfold dropR
    split <;> split <;> simp <;> omega
def cntR : List Run → Int
  | [] => 0
  | r :: l => (r.2 - r.1) + cntR l
theorem cntR_le : ∀ {l : List Run} {lo e : Int}, Nrm lo e l → lo < e → 0 ≤ cntR l ∧ cntR l ≤ e - lo - 1
  | [], lo, e, _, h => ⟨Int.le_refl _, by show (0 : Int) ≤ _; omega⟩
  | r :: l, lo, e, ⟨h1, h2, h3, h4⟩, h => by
    unfold cntR
    by_cases c : r.2 < e
    · have := cntR_le h4 c; omega
    · have : l = [] := by
        cases l with
        | nil => rfl
        | cons q l => have := h4.1; have := h4.2.1; have := h4.2.2.1; omega
      subst this
      simp only [cntR]; omega
theorem Nrm.of_mem : ∀ {l : List Run} {lo e lo' e' : Int}, Nrm lo e l → (∀ n, mem l n → lo' < n ∧ n < e') → Nrm lo' e' l
  | [], _, _, _, _, _, _ => trivial
  | r :: l, lo, e, lo', e', ⟨h1, h2, h3, h4⟩, h => by
    have a := h r.1 ((mem_cons _ _ _).2 (.inl ⟨Int.le_refl _, h2⟩))
    have b := h (r.2 - 1) ((mem_cons _ _ _).2 (.inl ⟨by omega, by omega⟩))
    refine ⟨a.1, h2, by omega, Nrm.of_mem (lo := r.2) (e := e) h4 fun n hn => ⟨?_, (h n ((mem_cons _ _ _).2 (.inr hn))).2⟩⟩
    obtain ⟨q, hq, x, y⟩ := hn
    have := h4.low q hq; omega
end Go.Abs
/- Runs (pairs of whole numbers) in memory. -/
set_option linter.unusedVariables false
set_option linter.unusedSimpArgs false
namespace Go.Abs
open Go
def runsV : List Run → List Value
  | [] => []
  | r :: l => .int .i64 r.1 :: .int .i64 r.2 :: runsV l
theorem runsV_app : ∀ (a b : List Run), runsV (a ++ b) = runsV a ++ runsV b
  | [], b => rfl
  | r :: a, b => by simp [runsV, runsV_app a b]
theorem runsV_length : ∀ l : List Run, (runsV l).length = l.length * 2
  | [] => rfl
  | r :: l => by simp [runsV, runsV_length l]; omega
theorem runsV_oneC : ∀ l : List Run, (runsV l).all oneC = true
  | [] => rfl
  | r :: l => by simp [runsV, oneC, runsV_oneC l]
theorem runsV_get : ∀ (l : List Run) (j : Nat), j < l.length → (runsV l)[j * 2]? = some (.int .i64 (l.getD j (0, 0)).1) ∧ (runsV l)[j * 2 + 1]? = some (.int .i64 (l.getD j (0, 0)).2)
  | r :: l, 0, _ => ⟨rfl, rfl⟩
  | r :: l, j + 1, h => by
    have := runsV_get l j (by simpa using h)
    rw [show (j + 1) * 2 = j * 2 + 1 + 1 by omega]
    simpa [runsV] using this
def RdR (h : H) (s : Sl) (l : List Run) : Prop := Rd 2 h s (runsV l)
def BufR (h : H) (s : Sl) (l : List Run) : Prop := Buf 2 h s (runsV l)
theorem RdR.len {h : H} {s : Sl} {l : List Run} (r : RdR h s l) : s.len = l.length := by
  have := Rd.len r; rw [runsV_length] at this; omega
theorem RdR.ex {h h' : H} {s : Sl} {l : List Run} (x : EX h h') (r : RdR h s l) : RdR h' s l := Rd.ex x r
theorem BufR.rd {h : H} {s : Sl} {l : List Run} (r : BufR h s l) : RdR h s l := Buf.rd r
theorem BufR.ex {h h' : H} {s : Sl} {l : List Run} (w : WF h) (x : EX h h') (r : BufR h s l) : BufR h' s l := Buf.ex w x r
theorem ldCells2 {h : H} {a : Addr} {u v : Value} (h1 : ldCell h (add a 0) = some u) (h2 : ldCell h (add a 1) = some v) : ldCells h a 2 = some [u, v] := by
  rw [addA_zero] at h1
  simp only [ldCells, h1, h2]
theorem PO.ixR {α : Type} {Q : α → Prop} {h : H} {s : Sl} {l : List Run} {j : Int} {g : Addr → Option α} (r : RdR h s l) (h0 : 0 ≤ j) (h1 : j < l.length)
    (p : ∀ a b, s.base = some b → a = add b (j.toNat * 2) → Abs.ldZ [.int .i64, .int .i64] h a = some (l.getD j.toNat (0, 0)) → Abs.ldI .i64 h (add a 0) = some (l.getD j.toNat (0, 0)).1 → Abs.ldI .i64 h (add a 1) = some (l.getD j.toNat (0, 0)).2 → PO (g a) Q) : PO (bindO (ixT 2 s j) g) Q := by
  obtain ⟨a, ha, e⟩ := ixT_ok r h0 (by rw [RdR.len r]; exact h1)
  obtain ⟨g1, g2⟩ := runsV_get l j.toNat (by omega)
  have l1 : ldCell h (add (add a (j.toNat * 2)) 0) = some (.int .i64 (l.getD j.toNat (0, 0)).1) := by rw [add_add]; exact (Rd.ld r a ha _ _ g1).2
  have l2 : ldCell h (add (add a (j.toNat * 2)) 1) = some (.int .i64 (l.getD j.toNat (0, 0)).2) := by rw [add_add]; exact (Rd.ld r a ha _ _ g2).2
  exact .op e (p _ a ha rfl (ldZ_of (zs := [.int .i64, .int .i64]) (x := l.getD j.toNat (0, 0)) (ldCells2 l1 l2)) (ldI_of l1) (ldI_of l2))
theorem PO.ixA {α : Type} {Q : α → Prop} {n sz : Nat} {a : Addr} {i : Int} {g : Addr → Option α} (h0 : 0 ≤ i) (h1 : i < n) (p : PO (g (add a (i.toNat * sz))) Q) : PO (bindO (ixAT n sz a i) g) Q := .op (ixAT_ok a h0 h1) p
theorem PO.appR1 {α : Type} {Q : α → Prop} {h0 h : H} {out : Sl} {l : List Run} {x y : Int} {g : Sl → H → Option α} (hb : BufR h out l) (hx : EX h0 h) (hf : Fr h0.size out) (hl : l.length + 1 ≤ 2 ^ 42)
    (k : ∀ out1 h2, BufR h2 out1 (l ++ [(x, y)]) → EX h0 h2 → Fr h0.size out1 → KP h h2 → PO (g out1 h2) Q) : PO (newO (row 36 [.int .i64 x, .int .i64 y]) h fun b h1 => bind2 (appT 36 2 16 h1 out ⟨some ⟨b, 0, some 0⟩, 1, 1⟩) g) Q := by
  refine PO.newB hx.wf fun h1 x1 B1 z1 w1 => ?_
  have r1 : RdR h1 ⟨some ⟨h.size, 0, some 0⟩, 1, 1⟩ [(x, y)] := B1.rd w1 rfl (by unfold CapOK; rw [capK_exact (by unfold B63; omega)]; exact Nat.le_refl _)
  have hb1 : BufR h1 out l := hb.ex hx.wf x1
  have hlen := RdR.len hb1.rd
  obtain ⟨s', h', e, k1, x2, b2, _, f2⟩ := appT_ok (e := 36) (bytes := 16) (by omega) (by unfold B63; omega) w1 hb1 r1 (runsV_oneC _) (by simp only; omega) (by simp only; omega)
  refine PO.callE e (k s' h' ?_ (x2 _ (hx.trans x1) hf) (f2 _ (hx.trans x1).size hf) ((x1.kp hx.wf).trans k1))
  unfold BufR; rw [runsV_app]; exact b2
theorem PO.ldR1 {α : Type} {Q : α → Prop} {h : H} {a : Addr} {c : Nat} {r : Run} {g : Int × Int → Option α} (hr : RdR h ⟨some a, 1, c⟩ [r]) (p : PO (g r) Q) : PO (bindO (Abs.ldZ [.int .i64, .int .i64] h a) g) Q :=
  .op (ldZ_of (zs := [.int .i64, .int .i64]) (x := r) (ldCells2 (Rd.ld hr a rfl 0 _ rfl).2 (Rd.ld hr a rfl 1 _ rfl).2)) p
theorem Box.r1 {h : H} {b : Nat} {r : Run} (B : Box h b [.int .i64 r.1, .int .i64 r.2]) (w : WF h) : RdR h ⟨some ⟨b, 0, some 0⟩, 1, 1⟩ [r] := B.rd w rfl (by unfold CapOK; rw [capK_exact (by unfold B63; omega)]; exact Nat.le_refl _)
theorem RdR.mono {h h' : H} {s : Sl} {l : List Run} (x : KP h h') (r : RdR h s l) : RdR h' s l := Rd.mono r x
end Go.Abs
/- Chapter 2's functions, what they tell; the laws PnumMonotone and PnumBack over the typed texts. -/
set_option linter.unusedVariables false
set_option linter.unusedSimpArgs false
namespace Go.Proofs.Ythiccnmplgdheaa.T
open Go Go.Abs Go.Proofs
theorem rest_f (a m : Int) (hp : 0 < m) (h2 : m ≤ 4611686018427387904) (h : H) : pnum_rest a m h = some (a % m, h) := by
  have h3 := tmod_pos a m hp
  have h5 := Int.tmod_eq_emod (a := a) (b := m)
  have h6 := Int.emod_nonneg a (Int.ne_of_gt hp)
  have h7 := Int.emod_lt_of_pos a hp
  unfold pnum_rest
  rw [remT_ok _ _ (by omega)]
  simp only [bindO_some, condK_eq, decide_eq_true_eq]
  split at h3
  · rename_i hc; rw [if_pos hc]; simp only [joinO_inl]; rw [w64 (by omega) (by omega), h3]
  · rename_i hc; rw [if_neg hc]; simp only [joinO_inl]; rw [h3]
def sp (k : Int) : Int := if k = 1 then 256 else if k = 2 then 65536 else if k = 3 then 16777216 else 4294967296
theorem span_f (k : Int) (h1 : 1 ≤ k) (h2 : k ≤ 4) (h : H) : pnum_span k h = some (sp k, h) := by
  unfold pnum_span P.pnum_span pnum_within
  have e : (if (if (4 : Int) < k then 4 else k) > 1 then (if (4 : Int) < k then 4 else k) else 1) = k := by
    rw [if_neg (by omega : ¬ (4 : Int) < k)]; split <;> omega
  simp only [letO_eq, bind2_some, e]
  rw [w64 (by omega) (by omega), shlT_ok _ _ _ (by omega)]
  rcases (by omega : k = 1 ∨ k = 2 ∨ k = 3 ∨ k = 4) with rfl | rfl | rfl | rfl <;> rfl
theorem sp_pos (k : Int) : 0 < sp k ∧ sp k ≤ 4294967296 := by unfold sp; (repeat' split) <;> omega
theorem cut_f (n k : Int) (h1 : 1 ≤ k) (h2 : k ≤ 4) (h : H) : pnum_Cut n k h = some (n % sp k, h) := by
  have hp := sp_pos k
  unfold pnum_Cut P.pnum_Cut
  rw [span_f k h1 h2]; simp only [bind2_some]
  rw [rest_f _ _ hp.1 (by omega)]; rfl
def bk (cut by_ x : Int) : Int :=
  if x + (cut - x) % by_ - by_ < 0 then x + (cut - x) % by_
  else if x + (cut - x) % by_ ≤ 4611686018427387903 then
    (if (cut - x) % by_ ≤ by_ - (cut - x) % by_ then x + (cut - x) % by_ else x + (cut - x) % by_ - by_)
  else x + (cut - x) % by_ - by_
theorem back_f (cut k x : Int) (h1 : 1 ≤ k) (h2 : k ≤ 4) (hx : 0 ≤ x) (hx2 : x ≤ 4611686018427387903) (h : H) : pnum_Back cut k x h = some (bk cut (sp k) x, h) := by
  have hp := sp_pos k
  unfold pnum_Back P.pnum_Back
  rw [span_f k h1 h2]; simp only [bind2_some]
  have hw : pnum_within x 0 4611686018427387903 h = some (x, h) := by
    unfold pnum_within
    have e : (if (if (4611686018427387903 : Int) < x then 4611686018427387903 else x) > 0 then (if (4611686018427387903 : Int) < x then 4611686018427387903 else x) else 0) = x := by
      rw [if_neg (by omega : ¬ (4611686018427387903 : Int) < x)]; split <;> omega
    simp only [letO_eq, e]
  rw [hw]; simp only [bind2_some]
  rw [cut_f cut k h1 h2]; simp only [bind2_some]
  rw [rest_f x _ hp.1 (by omega)]; simp only [bind2_some]
  generalize sp k = b at hp ⊢
  have e1 := Int.emod_nonneg cut (Int.ne_of_gt hp.1)
  have e2 := Int.emod_lt_of_pos cut hp.1
  have e3 := Int.emod_nonneg x (Int.ne_of_gt hp.1)
  have e4 := Int.emod_lt_of_pos x hp.1
  rw [w64 (by omega) (by omega), rest_f _ _ hp.1 (by omega), ← Int.sub_emod]
  simp only [bind2_some, letO_eq]
  have e5 := Int.emod_nonneg (cut - x) (Int.ne_of_gt hp.1)
  have e6 := Int.emod_lt_of_pos (cut - x) hp.1
  unfold bk
  generalize (cut - x) % b = r at *
  rw [w64 (n := x + r) (by omega) (by omega), w64 (n := x + r - b) (by omega) (by omega), w64 (n := x + r - x) (by omega) (by omega), w64 (n := x - (x + r - b)) (by omega) (by omega)]
  have e7 : x + r - x = r := by omega
  have e8 : x - (x + r - b) = b - r := by omega
  simp only [e7, e8, condK_eq, decide_eq_true_eq]
  split
  · rfl
  · split
    · split <;> rfl
    · rfl
def nb (d : Int) : Int := if d ≤ 128 then 1 else if d ≤ 32768 then 2 else if d ≤ 8388608 then 3 else 4
theorem bytes_f (n a : Int) (h1 : a < n) (h2 : n - a < 4611686018427387904) (h : H) : pnum_Bytes n a h = some (nb (n - a), h) := by
  have hs1 : pnum_span 1 h = some (256, h) := span_f 1 (by omega) (by omega) h
  have hs2 : pnum_span 2 h = some (65536, h) := span_f 2 (by omega) (by omega) h
  have hs3 : pnum_span 3 h = some (16777216, h) := span_f 3 (by omega) (by omega) h
  have hd : IntKind.wrap .u64 (IntKind.wrap .u64 n - IntKind.wrap .u64 a) = n - a := by
    rw [wu64_mod, wu64_mod, wu64_mod]; omega
  have t1 : IntKind.wrap .u64 (IntKind.wrap .i64 (Int.tdiv 256 2)) = 128 := by decide +kernel
  have t2 : IntKind.wrap .u64 (IntKind.wrap .i64 (Int.tdiv 65536 2)) = 32768 := by decide +kernel
  have t3 : IntKind.wrap .u64 (IntKind.wrap .i64 (Int.tdiv 16777216 2)) = 8388608 := by decide +kernel
  have hle : ¬ n ≤ a := by omega
  unfold pnum_Bytes P.pnum_Bytes nb
  rw [loopO_eq]
  simp only [P.pnum_Bytes_l1, condK_eq, decide_eq_true_eq, hle, if_false, letO_eq, hd, hs1, bind2_some, t1, joinO_inl, show (1 : Int) < 4 by omega, if_true]
  by_cases c1 : n - a ≤ 128
  · simp [c1]
  simp only [c1, if_false]
  rw [w64 (by omega) (by omega), loopO_eq]
  simp only [P.pnum_Bytes_l1, condK_eq, decide_eq_true_eq, hle, if_false, letO_eq, hd, show (1 : Int) + 1 = 2 by omega, hs2, bind2_some, t2, joinO_inl, show (2 : Int) < 4 by omega, if_true]
  by_cases c2 : n - a ≤ 32768
  · simp [c2]
  simp only [c2, if_false]
  rw [w64 (by omega) (by omega), loopO_eq]
  simp only [P.pnum_Bytes_l1, condK_eq, decide_eq_true_eq, hle, if_false, letO_eq, hd, show (2 : Int) + 1 = 3 by omega, hs3, bind2_some, t3, joinO_inl, show (3 : Int) < 4 by omega, if_true]
  by_cases c3 : n - a ≤ 8388608
  · simp [c3]
  simp only [c3, if_false]
  rw [w64 (by omega) (by omega), loopO_eq]
  simp only [P.pnum_Bytes_l1, condK_eq, decide_eq_true_eq, show (3 : Int) + 1 = 4 by omega, show ¬ (4 : Int) < 4 by omega, if_false]
theorem nb_mono (d e : Int) (h : d ≤ e) : nb d ≤ nb e := by
  unfold nb; (repeat' split) <;> omega
def mn (k j : Int) : Int := if j < k then j else k
theorem sp_min (k j : Int) (hk : 1 ≤ k) (hk2 : k ≤ 4) (hj : 1 ≤ j) (hj2 : j ≤ 4) (x : Int) : x % sp k % sp j = x % sp (mn k j) := by
  rcases (by omega : k = 1 ∨ k = 2 ∨ k = 3 ∨ k = 4) with rfl | rfl | rfl | rfl <;> rcases (by omega : j = 1 ∨ j = 2 ∨ j = 3 ∨ j = 4) with rfl | rfl | rfl | rfl <;> simp [sp, mn] <;> omega
theorem sp_shl (k : Int) (hk : 1 ≤ k) (hk2 : k ≤ 4) : shlT .i64 1 .u64 (IntKind.wrap .u64 (IntKind.wrap .i64 (8 * k))) = some (sp k) := by
  rcases (by omega : k = 1 ∨ k = 2 ∨ k = 3 ∨ k = 4) with rfl | rfl | rfl | rfl <;> decide +kernel
theorem bk_self (n x s : Int) (hs : 0 < s) (h1 : 0 ≤ x) (h2 : x ≤ n) (h3 : 2 * (n - x) ≤ s) (h4 : n ≤ 4611686018427387903) (h5 : n - x < s) : bk (n % s) s x = n := by
  have e : (n % s - x) % s = n - x := by
    rw [Int.emod_sub_emod]
    exact Int.emod_eq_of_lt (by omega) h5
  unfold bk
  rw [e]
  have e2 : x + (n - x) = n := by omega
  rw [e2]
  split
  · rfl
  · rw [if_pos (by omega)]
end Go.Proofs.Ythiccnmplgdheaa.T
