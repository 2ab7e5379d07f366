/- Lemmas about the typed texts (joined: SPnum SSpan2 SSpan3). -/
import Derived.Test.YthiccnmplgdheaaTxt
import Derived.Test.YthiccnmplgdheaaAbsF
import Derived.Test.YthiccnmplgdheaaG4
/- Chapter 2's functions, what they tell; the laws PnumMonotone and PnumBack over the typed texts. -/
set_option linter.unusedVariables false
set_option linter.unusedSimpArgs false
namespace Go.Proofs.Ythiccnmplgdheaa.T
open Go Go.Abs Go.Proofs
theorem pick_f (a m : Int) (hp : 0 < m) (h2 : m ≤ 4611686018427387904) (h : H) : hand_Pick a m h = some (a % m, h) := by
  have h3 := tmod_pos a m hp
  have h5 := Int.tmod_eq_emod (a := a) (b := m)
  have h6 := Int.emod_nonneg a (Int.ne_of_gt hp)
  have h7 := Int.emod_lt_of_pos a hp
  unfold hand_Pick
  rw [remT_ok _ _ (by omega)]
  simp only [bindO_some, condK_eq, decide_eq_true_eq]
  split at h3
  · rename_i hc; rw [if_pos hc]; simp only [joinO_inl]; rw [w64 (by omega) (by omega), h3]
  · rename_i hc; rw [if_neg hc]; simp only [joinO_inl]; rw [h3]
theorem rest_f (a m : Int) (hp : 0 < m) (h2 : m ≤ 4611686018427387904) (h : H) : pnum_rest a m h = some (a % m, h) := by
  have h3 := tmod_pos a m hp
  have h5 := Int.tmod_eq_emod (a := a) (b := m)
  have h6 := Int.emod_nonneg a (Int.ne_of_gt hp)
  have h7 := Int.emod_lt_of_pos a hp
  unfold pnum_rest
  rw [remT_ok _ _ (by omega)]
  simp only [bindO_some, condK_eq, decide_eq_true_eq]
  split at h3
  · rename_i hc; rw [if_pos hc]; simp only [joinO_inl]; rw [w64 (by omega) (by omega), h3]
  · rename_i hc; rw [if_neg hc]; simp only [joinO_inl]; rw [h3]
def sp (k : Int) : Int := if k = 1 then 256 else if k = 2 then 65536 else if k = 3 then 16777216 else 4294967296
theorem span_f (k : Int) (h1 : 1 ≤ k) (h2 : k ≤ 4) (h : H) : pnum_span k h = some (sp k, h) := by
  unfold pnum_span P.pnum_span pnum_within
  have e : (if (if (4 : Int) < k then 4 else k) > 1 then (if (4 : Int) < k then 4 else k) else 1) = k := by
    rw [if_neg (by omega : ¬ (4 : Int) < k)]; split <;> omega
  simp only [letO_eq, bind2_some, e]
  rw [w64 (by omega) (by omega), shlT_ok _ _ _ (by omega)]
  rcases (by omega : k = 1 ∨ k = 2 ∨ k = 3 ∨ k = 4) with rfl | rfl | rfl | rfl <;> rfl
theorem sp_pos (k : Int) : 0 < sp k ∧ sp k ≤ 4294967296 := by unfold sp; (repeat' split) <;> omega
theorem cut_f (n k : Int) (h1 : 1 ≤ k) (h2 : k ≤ 4) (h : H) : pnum_Cut n k h = some (n % sp k, h) := by
  have hp := sp_pos k
  unfold pnum_Cut P.pnum_Cut
  rw [span_f k h1 h2]; simp only [bind2_some]
  rw [rest_f _ _ hp.1 (by omega)]; rfl
def bk (cut by_ x : Int) : Int :=
  if x + (cut - x) % by_ - by_ < 0 then x + (cut - x) % by_
  else if x + (cut - x) % by_ ≤ 4611686018427387903 then
    (if (cut - x) % by_ ≤ by_ - (cut - x) % by_ then x + (cut - x) % by_ else x + (cut - x) % by_ - by_)
  else x + (cut - x) % by_ - by_
theorem back_f (cut k x : Int) (h1 : 1 ≤ k) (h2 : k ≤ 4) (hx : 0 ≤ x) (hx2 : x ≤ 4611686018427387903) (h : H) : pnum_Back cut k x h = some (bk cut (sp k) x, h) := by
  have hp := sp_pos k
  unfold pnum_Back P.pnum_Back
  rw [span_f k h1 h2]; simp only [bind2_some]
  have hw : pnum_within x 0 4611686018427387903 h = some (x, h) := by
    unfold pnum_within
    have e : (if (if (4611686018427387903 : Int) < x then 4611686018427387903 else x) > 0 then (if (4611686018427387903 : Int) < x then 4611686018427387903 else x) else 0) = x := by
      rw [if_neg (by omega : ¬ (4611686018427387903 : Int) < x)]; split <;> omega
    simp only [letO_eq, e]
  rw [hw]; simp only [bind2_some]
  rw [cut_f cut k h1 h2]; simp only [bind2_some]
  rw [rest_f x _ hp.1 (by omega)]; simp only [bind2_some]
  generalize sp k = b at hp ⊢
  have e1 := Int.emod_nonneg cut (Int.ne_of_gt hp.1)
  have e2 := Int.emod_lt_of_pos cut hp.1
  have e3 := Int.emod_nonneg x (Int.ne_of_gt hp.1)
  have e4 := Int.emod_lt_of_pos x hp.1
  rw [w64 (by omega) (by omega), rest_f _ _ hp.1 (by omega), ← Int.sub_emod]
  simp only [bind2_some, letO_eq]
  have e5 := Int.emod_nonneg (cut - x) (Int.ne_of_gt hp.1)
  have e6 := Int.emod_lt_of_pos (cut - x) hp.1
  unfold bk
  generalize (cut - x) % b = r at *
  rw [w64 (n := x + r) (by omega) (by omega), w64 (n := x + r - b) (by omega) (by omega), w64 (n := x + r - x) (by omega) (by omega), w64 (n := x - (x + r - b)) (by omega) (by omega)]
  have e7 : x + r - x = r := by omega
  have e8 : x - (x + r - b) = b - r := by omega
  simp only [e7, e8, condK_eq, decide_eq_true_eq]
  split
  · rfl
  · split
    · split <;> rfl
    · rfl
def nb (d : Int) : Int := if d ≤ 128 then 1 else if d ≤ 32768 then 2 else if d ≤ 8388608 then 3 else 4
theorem nb_mono (d e : Int) (h : d ≤ e) : nb d ≤ nb e := by
  unfold nb; (repeat' split) <;> omega
theorem bk_self (n x s : Int) (hs : 0 < s) (h1 : 0 ≤ x) (h2 : x ≤ n) (h3 : 2 * (n - x) ≤ s) (h4 : n ≤ 4611686018427387903) (h5 : n - x < s) : bk (n % s) s x = n := by
  have e : (n % s - x) % s = n - x := by
    rw [Int.emod_sub_emod]
    exact Int.emod_eq_of_lt (by omega) h5
  unfold bk
  rw [e]
  have e2 : x + (n - x) = n := by omega
  rw [e2]
  split
  · rfl
  · rw [if_pos (by omega)]
end Go.Proofs.Ythiccnmplgdheaa.T
/- Sets of numbers over the typed texts: runs in memory, Has, Add. -/
set_option linter.unusedVariables false
set_option linter.unusedSimpArgs false
namespace Go.Proofs.Ythiccnmplgdheaa.T
open Go Go.Abs Go.Proofs
/-! Has -/
/-- a set: the cell k of a box holds its runs -/
structure SetAt (h : H) (b k : Nat) (L : List Value) (l : List Run) : Prop where
  ex : ∃ s, L[k]? = some (encSl s) ∧ RdR h s l ∧ ∀ a, s.base = some a → a.block ≠ b
  box : Box h b L
theorem SetAt.kx {h h' : H} {b k : Nat} {L : List Value} {l : List Run} (x : EX h h') (S : SetAt h b k L l) : SetAt h' b k L l := by
  obtain ⟨s, h1, h2, h3⟩ := S.ex
  exact ⟨⟨s, h1, h2.ex x, h3⟩, Box.kx x S.box⟩
/-! Add -/
def brg (n : Int) : Int := max 0 (min n 4611686018427387904)
end Go.Proofs.Ythiccnmplgdheaa.T
/- Sets of numbers over the typed texts: Add, Drop, Count, Spans. -/
set_option linter.unusedVariables false
set_option linter.unusedSimpArgs false
namespace Go.Proofs.Ythiccnmplgdheaa.T
open Go Go.Abs Go.Proofs
def addS (f t : Int) (l : List Run) : List Run := if brg f < brg t then addR (brg f) (brg t) false l else l
def dropS (f t : Int) (l : List Run) : List Run := if brg f < brg t then dropR (brg f) (brg t) l else l
/-! Count -/
end Go.Proofs.Ythiccnmplgdheaa.T
