/- Sets of numbers as runs: the plain laws of adding and dropping. -/
-- SEAT b
import Derived.Test.YthiccnmplgdheaaS11
set_option linter.unusedVariables false
set_option linter.unusedSimpArgs false
namespace Go.Abs
open Go
abbrev Run := Int × Int
/-- runs that rise and do not touch: above lo, up to e -/
def Nrm : Int → Int → List Run → Prop
  | _, _, [] => True
  | lo, e, r :: l => lo < r.1 ∧ r.1 < r.2 ∧ r.2 ≤ e ∧ Nrm r.2 e l
def mem (l : List Run) (n : Int) : Prop := ∃ r ∈ l, r.1 ≤ n ∧ n < r.2
instance (l : List Run) (n : Int) : Decidable (mem l n) := by unfold mem; infer_instance
def memB (l : List Run) (n : Int) : Bool := l.any fun r => decide (r.1 ≤ n) && decide (n < r.2)
theorem memB_iff (l : List Run) (n : Int) : memB l n = true ↔ mem l n := by simp [memB, mem]
theorem mem_nil (n : Int) : mem [] n ↔ False := by simp [mem]
theorem mem_cons (r : Run) (l : List Run) (n : Int) : mem (r :: l) n ↔ (r.1 ≤ n ∧ n < r.2) ∨ mem l n := by simp [mem]
theorem mem_app (a b : List Run) (n : Int) : mem (a ++ b) n ↔ mem a n ∨ mem b n := by
  simp only [mem, List.mem_append]
  constructor
  · rintro ⟨r, h | h, x⟩
    · exact .inl ⟨r, h, x⟩
    · exact .inr ⟨r, h, x⟩
  · rintro (⟨r, h, x⟩ | ⟨r, h, x⟩)
    · exact ⟨r, .inl h, x⟩
    · exact ⟨r, .inr h, x⟩
theorem Nrm.mono : ∀ {l : List Run} {lo lo' e e' : Int}, Nrm lo e l → lo' ≤ lo → e ≤ e' → Nrm lo' e' l
  | [], _, _, _, _, _, _, _ => trivial
  | r :: l, lo, lo', e, e', ⟨h1, h2, h3, h4⟩, a, b => ⟨by omega, h2, by omega, Nrm.mono h4 (Int.le_refl _) b⟩
theorem Nrm.low : ∀ {l : List Run} {lo e : Int}, Nrm lo e l → ∀ r ∈ l, lo < r.1 ∧ r.1 < r.2 ∧ r.2 ≤ e
  | r :: l, lo, e, ⟨h1, h2, h3, h4⟩, q, hq => by
    rcases List.mem_cons.1 hq with rfl | hq
    · exact ⟨h1, h2, h3⟩
    · have := Nrm.low h4 q hq; omega
def addR : Int → Int → Bool → List Run → List Run
  | f, t, done, [] => if done then [] else [(f, t)]
  | f, t, done, r :: l => if r.2 < f then r :: addR f t done l else if r.1 > t then (if done then [r] else [(f, t), r]) ++ addR f t true l else addR (min f r.1) (max t r.2) done l
theorem addR_cons (f t : Int) (done : Bool) (r : Run) (l : List Run) : addR f t done (r :: l) = if r.2 < f then r :: addR f t done l else if r.1 > t then (if done then [r] else [(f, t), r]) ++ addR f t true l else addR (min f r.1) (max t r.2) done l := rfl
theorem addR_done : ∀ (l : List Run) (f t : Int), f ≤ t → (∀ r ∈ l, t < r.1 ∧ r.1 < r.2) → addR f t true l = l
  | [], f, t, _, _ => by simp [addR]
  | r :: l, f, t, h, hl => by
    have h1 := hl r (List.mem_cons_self ..)
    unfold addR
    rw [if_neg (by omega), if_pos (by omega), addR_done l f t h fun q hq => hl q (List.mem_cons_of_mem _ hq)]
    rfl
theorem addR_mem : ∀ (l : List Run) (lo e f t n : Int), Nrm lo e l → f < t → (mem (addR f t false l) n ↔ mem l n ∨ (f ≤ n ∧ n < t))
  | [], lo, e, f, t, n, _, _ => by simp [addR, mem]
  | r :: l, lo, e, f, t, n, ⟨h1, h2, h3, h4⟩, hft => by
    unfold addR
    by_cases c1 : r.2 < f
    · rw [if_pos c1, mem_cons, addR_mem l _ _ f t n h4 hft, mem_cons, or_assoc]
    · rw [if_neg c1]
      by_cases c2 : r.1 > t
      · rw [if_pos c2, addR_done l f t (by omega) fun q hq => by have := h4.low q hq; omega]
        simp only [Bool.false_eq_true, if_false, List.cons_append, List.nil_append, mem_cons]
        rw [or_comm]
      · rw [if_neg c2, addR_mem l _ _ _ _ n h4 (by omega), mem_cons]
        constructor
        · rintro (h | h)
          · exact .inl (.inr h)
          · by_cases hh : f ≤ n ∧ n < t
            · exact .inr hh
            · exact .inl (.inl (by omega))
        · rintro ((h | h) | h)
          · exact .inr (by omega)
          · exact .inl h
          · exact .inr (by omega)
theorem addR_nrm : ∀ (l : List Run) (lo e f t : Int), Nrm lo e l → lo < f → f < t → t ≤ e → Nrm lo e (addR f t false l)
  | [], lo, e, f, t, _, h1, h2, h3 => ⟨h1, h2, h3, trivial⟩
  | r :: l, lo, e, f, t, ⟨h1, h2, h3, h4⟩, a, b, c => by
    unfold addR
    by_cases c1 : r.2 < f
    · rw [if_pos c1]; exact ⟨h1, h2, h3, addR_nrm l _ _ f t h4 c1 b c⟩
    · rw [if_neg c1]
      by_cases c2 : r.1 > t
      · rw [if_pos c2, addR_done l f t (by omega) fun q hq => by have := h4.low q hq; omega]
        exact ⟨a, b, c, c2, h2, h3, h4⟩
      · rw [if_neg c2]
        exact addR_nrm l _ _ _ _ (h4.mono (by omega) (Int.le_refl _)) (by omega) (by omega) (by omega)
theorem addR_length : ∀ (l : List Run) (f t : Int) (done : Bool), (addR f t done l).length ≤ l.length + 1
  | [], f, t, done => by cases done <;> simp [addR]
  | r :: l, f, t, done => by
    unfold addR
    split
    · have := addR_length l f t done; simp; omega
    · split
      · have := addR_length' l f t
        cases done <;> simp <;> omega
      · have := addR_length l (min f r.1) (max t r.2) done; simp; omega
where
  addR_length' : ∀ (l : List Run) (f t : Int), (addR f t true l).length ≤ l.length
    | [], f, t => by simp [addR]
    | r :: l, f, t => by
      unfold addR
      split
      · have := addR_length' l f t; simp; omega
      · split
        · have := addR_length' l f t; simp; omega
        · have := addR_length' l (min f r.1) (max t r.2); simp; omega
def dropR (f t : Int) : List Run → List Run
  | [] => []
  | r :: l => (if r.1 < min r.2 f then [(r.1, min r.2 f)] else []) ++ (if max r.1 t < r.2 then [(max r.1 t, r.2)] else []) ++ dropR f t l
theorem dropR_mem (f t n : Int) : ∀ (l : List Run) (lo e : Int), Nrm lo e l → f < t → (mem (dropR f t l) n ↔ mem l n ∧ ¬ (f ≤ n ∧ n < t))
  | [], lo, e, _, _ => by simp [dropR, mem]
  | r :: l, lo, e, ⟨h1, h2, h3, h4⟩, hft => by
    unfold dropR
    rw [mem_app, mem_app, dropR_mem f t n l _ _ h4 hft, mem_cons, or_and_right]
    refine or_congr ?_ Iff.rfl
    have one : ∀ a b : Int, mem (if a < b then [(a, b)] else []) n ↔ a ≤ n ∧ n < b := by
      intro a b
      by_cases h : a < b
      · rw [if_pos h, mem_cons, mem_nil]; simp
      · rw [if_neg h, mem_nil]; exact ⟨fun x => x.elim, fun x => absurd (Int.lt_of_le_of_lt x.1 x.2) h⟩
    rw [one, one]
    constructor
    · rintro (⟨a, b⟩ | ⟨a, b⟩)
      · exact ⟨⟨a, by omega⟩, by omega⟩
      · exact ⟨⟨by omega, b⟩, by omega⟩
    · rintro ⟨⟨a, b⟩, c⟩
      by_cases hh : n < f
      · exact .inl ⟨a, by omega⟩
      · exact .inr ⟨by omega, b⟩
theorem dropR_nrm (f t : Int) : ∀ (l : List Run) (lo e : Int), Nrm lo e l → f < t → Nrm lo e (dropR f t l)
  | [], lo, e, _, _ => trivial
  | r :: l, lo, e, ⟨h1, h2, h3, h4⟩, hft => by
    have ih := dropR_nrm f t l _ _ h4 hft
    unfold dropR
    by_cases c1 : r.1 < min r.2 f <;> by_cases c2 : max r.1 t < r.2 <;> simp only [c1, c2, if_true, if_false, List.cons_append, List.nil_append]
    · exact ⟨h1, c1, by omega, by show min r.2 f < max r.1 t; omega, c2, h3, ih⟩
    · exact ⟨h1, c1, by omega, ih.mono (by show min r.2 f ≤ r.2; omega) (Int.le_refl _)⟩
    · exact ⟨by show lo < max r.1 t; omega, c2, h3, ih⟩
    · exact ih.mono (by omega) (Int.le_refl _)
theorem dropR_length (f t : Int) : ∀ l : List Run, (dropR f t l).length ≤ 2 * l.length
  | [] => by simp [dropR]
  | r :: l => by
    have := dropR_length f t l
    unfold dropR
    split <;> split <;> simp <;> omega
def cntR : List Run → Int
  | [] => 0
  | r :: l => (r.2 - r.1) + cntR l
theorem cntR_le : ∀ {l : List Run} {lo e : Int}, Nrm lo e l → lo < e → 0 ≤ cntR l ∧ cntR l ≤ e - lo - 1
  | [], lo, e, _, h => ⟨Int.le_refl _, by show (0 : Int) ≤ _; omega⟩
  | r :: l, lo, e, ⟨h1, h2, h3, h4⟩, h => by
    unfold cntR
    by_cases c : r.2 < e
    · have := cntR_le h4 c; omega
    · have : l = [] := by
        cases l with
        | nil => rfl
        | cons q l => have := h4.1; have := h4.2.1; have := h4.2.2.1; omega
      subst this
      simp only [cntR]; omega
theorem Nrm.of_mem : ∀ {l : List Run} {lo e lo' e' : Int}, Nrm lo e l → (∀ n, mem l n → lo' < n ∧ n < e') → Nrm lo' e' l
  | [], _, _, _, _, _, _ => trivial
  | r :: l, lo, e, lo', e', ⟨h1, h2, h3, h4⟩, h => by
    have a := h r.1 ((mem_cons _ _ _).2 (.inl ⟨Int.le_refl _, h2⟩))
    have b := h (r.2 - 1) ((mem_cons _ _ _).2 (.inl ⟨by omega, by omega⟩))
    refine ⟨a.1, h2, by omega, Nrm.of_mem (lo := r.2) (e := e) h4 fun n hn => ⟨?_, (h n ((mem_cons _ _ _).2 (.inr hn))).2⟩⟩
    obtain ⟨q, hq, x, y⟩ := hn
    have := h4.low q hq; omega
end Go.Abs
