/- Chapter 2's functions, what they tell; the laws PnumMonotone and PnumBack over the typed texts. -/
import Derived.Test.YthiccnmplgdheaaTxt
import Derived.Test.YthiccnmplgdheaaAbsF
set_option linter.unusedVariables false
set_option linter.unusedSimpArgs false
namespace Go.Proofs.Ythiccnmplgdheaa.T
open Go Go.Abs Go.Proofs
theorem pick_f (a m : Int) (hp : 0 < m) (h2 : m ≤ 4611686018427387904) (h : H) : hand_Pick a m h = some (a % m, h) := by
  have h3 := tmod_pos a m hp
  have h5 := Int.tmod_eq_emod (a := a) (b := m)
  have h6 := Int.emod_nonneg a (Int.ne_of_gt hp)
  have h7 := Int.emod_lt_of_pos a hp
  unfold hand_Pick
  rw [remT_ok _ _ (by omega)]
  simp only [bindO_some, condK_eq, decide_eq_true_eq]
  split at h3
  · rename_i hc; rw [if_pos hc]; simp only [joinO_inl]; rw [w64 (by omega) (by omega), h3]
  · rename_i hc; rw [if_neg hc]; simp only [joinO_inl]; rw [h3]
def sp (k : Int) : Int := if k = 1 then 256 else if k = 2 then 65536 else if k = 3 then 16777216 else 4294967296
theorem sp_pos (k : Int) : 0 < sp k ∧ sp k ≤ 4294967296 := by unfold sp; (repeat' split) <;> omega
def bk (cut by_ x : Int) : Int :=
  if x + (cut - x) % by_ - by_ < 0 then x + (cut - x) % by_
  else if x + (cut - x) % by_ ≤ 4611686018427387903 then
    (if (cut - x) % by_ ≤ by_ - (cut - x) % by_ then x + (cut - x) % by_ else x + (cut - x) % by_ - by_)
  else x + (cut - x) % by_ - by_
def nb (d : Int) : Int := if d ≤ 128 then 1 else if d ≤ 32768 then 2 else if d ≤ 8388608 then 3 else 4
theorem nb_mono (d e : Int) (h : d ≤ e) : nb d ≤ nb e := by
  unfold nb; (repeat' split) <;> omega
def mn (k j : Int) : Int := if j < k then j else k
theorem sp_min (k j : Int) (hk : 1 ≤ k) (hk2 : k ≤ 4) (hj : 1 ≤ j) (hj2 : j ≤ 4) (x : Int) : x % sp k % sp j = x % sp (mn k j) := by
  rcases (by omega : k = 1 ∨ k = 2 ∨ k = 3 ∨ k = 4) with rfl | rfl | rfl | rfl <;> rcases (by omega : j = 1 ∨ j = 2 ∨ j = 3 ∨ j = 4) with rfl | rfl | rfl | rfl <;> simp [sp, mn] <;> omega
theorem sp_shl (k : Int) (hk : 1 ≤ k) (hk2 : k ≤ 4) : shlT .i64 1 .u64 (IntKind.wrap .u64 (IntKind.wrap .i64 (8 * k))) = some (sp k) := by
  rcases (by omega : k = 1 ∨ k = 2 ∨ k = 3 ∨ k = 4) with rfl | rfl | rfl | rfl <;> decide +kernel
theorem bk_self (n x s : Int) (hs : 0 < s) (h1 : 0 ≤ x) (h2 : x ≤ n) (h3 : 2 * (n - x) ≤ s) (h4 : n ≤ 4611686018427387903) (h5 : n - x < s) : bk (n % s) s x = n := by
  have e : (n % s - x) % s = n - x := by
    rw [Int.emod_sub_emod]
    exact Int.emod_eq_of_lt (by omega) h5
  unfold bk
  rw [e]
  have e2 : x + (n - x) = n := by omega
  rw [e2]
  split
  · rfl
  · rw [if_pos (by omega)]
end Go.Proofs.Ythiccnmplgdheaa.T
