/- Chapter 2's functions, what they tell; the laws PnumMonotone and PnumBack over the typed texts. -/
import Derived.Test.YtejdeibmhlcnbaaTxt
import Derived.Test.YtejdeibmhlcnbaaAbsF
set_option linter.unusedVariables false
set_option linter.unusedSimpArgs false
namespace Go.Proofs.Ytejdeibmhlcnbaa.T
open Go Go.Abs Go.Proofs
theorem rest_f (a m : Int) (hp : 0 < m) (h2 : m ≤ 4611686018427387904) (h : H) : pnum_rest a m h = some (a % m, h) := by
  have h3 := tmod_pos a m hp
  have h5 := Int.tmod_eq_emod (a := a) (b := m)
  have h6 := Int.emod_nonneg a (Int.ne_of_gt hp)
  have h7 := Int.emod_lt_of_pos a hp
  unfold pnum_rest
  rw [remT_ok _ _ (by omega)]
  simp only [bindO_some, condK_eq, decide_eq_true_eq]
  split at h3
  · rename_i hc; rw [if_pos hc]; simp only [joinO_inl]; rw [w64 (by omega) (by omega), h3]
  · rename_i hc; rw [if_neg hc]; simp only [joinO_inl]; rw [h3]
theorem pick_f (a m : Int) (hp : 0 < m) (h2 : m ≤ 4611686018427387904) (h : H) : hand_Pick a m h = some (a % m, h) := rest_f a m hp h2 h
def sp (k : Int) : Int := if k = 1 then 256 else if k = 2 then 65536 else if k = 3 then 16777216 else 4294967296
theorem span_f (k : Int) (h1 : 1 ≤ k) (h2 : k ≤ 4) (h : H) : pnum_span k h = some (sp k, h) := by
  unfold pnum_span P.pnum_span pnum_within
  have e : (if (if (4 : Int) < k then 4 else k) > 1 then (if (4 : Int) < k then 4 else k) else 1) = k := by
    rw [if_neg (by omega : ¬ (4 : Int) < k)]; split <;> omega
  simp only [letO_eq, bind2_some, e]
  rw [w64 (by omega) (by omega), shlT_ok _ _ _ (by omega)]
  rcases (by omega : k = 1 ∨ k = 2 ∨ k = 3 ∨ k = 4) with rfl | rfl | rfl | rfl <;> rfl
theorem sp_pos (k : Int) : 0 < sp k ∧ sp k ≤ 4294967296 := by unfold sp; (repeat' split) <;> omega
theorem cut_f (n k : Int) (h1 : 1 ≤ k) (h2 : k ≤ 4) (h : H) : pnum_Cut n k h = some (n % sp k, h) := by
  have hp := sp_pos k
  unfold pnum_Cut P.pnum_Cut
  rw [span_f k h1 h2]; simp only [bind2_some]
  rw [rest_f _ _ hp.1 (by omega)]; rfl
def bk (cut by_ x : Int) : Int :=
  if x + (cut - x) % by_ - by_ < 0 then x + (cut - x) % by_
  else if x + (cut - x) % by_ ≤ 4611686018427387903 then
    (if (cut - x) % by_ ≤ by_ - (cut - x) % by_ then x + (cut - x) % by_ else x + (cut - x) % by_ - by_)
  else x + (cut - x) % by_ - by_
theorem back_f (cut k x : Int) (h1 : 1 ≤ k) (h2 : k ≤ 4) (hx : 0 ≤ x) (hx2 : x ≤ 4611686018427387903) (h : H) : pnum_Back cut k x h = some (bk cut (sp k) x, h) := by
  have hp := sp_pos k
  unfold pnum_Back P.pnum_Back
  rw [span_f k h1 h2]; simp only [bind2_some]
  have hw : pnum_within x 0 4611686018427387903 h = some (x, h) := by
    unfold pnum_within
    have e : (if (if (4611686018427387903 : Int) < x then 4611686018427387903 else x) > 0 then (if (4611686018427387903 : Int) < x then 4611686018427387903 else x) else 0) = x := by
      rw [if_neg (by omega : ¬ (4611686018427387903 : Int) < x)]; split <;> omega
    simp only [letO_eq, e]
  rw [hw]; simp only [bind2_some]
  rw [cut_f cut k h1 h2]; simp only [bind2_some]
  rw [rest_f x _ hp.1 (by omega)]; simp only [bind2_some]
  generalize sp k = b at hp ⊢
  have e1 := Int.emod_nonneg cut (Int.ne_of_gt hp.1)
  have e2 := Int.emod_lt_of_pos cut hp.1
  have e3 := Int.emod_nonneg x (Int.ne_of_gt hp.1)
  have e4 := Int.emod_lt_of_pos x hp.1
  rw [w64 (by omega) (by omega), rest_f _ _ hp.1 (by omega), ← Int.sub_emod]
  simp only [bind2_some, letO_eq]
  have e5 := Int.emod_nonneg (cut - x) (Int.ne_of_gt hp.1)
  have e6 := Int.emod_lt_of_pos (cut - x) hp.1
  unfold bk
  generalize (cut - x) % b = r at *
  rw [w64 (n := x + r) (by omega) (by omega), w64 (n := x + r - b) (by omega) (by omega), w64 (n := x + r - x) (by omega) (by omega), w64 (n := x - (x + r - b)) (by omega) (by omega)]
  have e7 : x + r - x = r := by omega
  have e8 : x - (x + r - b) = b - r := by omega
  simp only [e7, e8, condK_eq, decide_eq_true_eq]
  split
  · rfl
  · split
    · split <;> rfl
    · rfl
def nb (d : Int) : Int := if d ≤ 128 then 1 else if d ≤ 32768 then 2 else if d ≤ 8388608 then 3 else 4
theorem bytes_f (n a : Int) (h1 : a < n) (h2 : n - a < 4611686018427387904) (h : H) : pnum_Bytes n a h = some (nb (n - a), h) := by
  have hs1 : pnum_span 1 h = some (256, h) := span_f 1 (by omega) (by omega) h
  have hs2 : pnum_span 2 h = some (65536, h) := span_f 2 (by omega) (by omega) h
  have hs3 : pnum_span 3 h = some (16777216, h) := span_f 3 (by omega) (by omega) h
  have hd : IntKind.wrap .u64 (IntKind.wrap .u64 n - IntKind.wrap .u64 a) = n - a := by
    rw [wu64_mod, wu64_mod, wu64_mod]; omega
  have t1 : IntKind.wrap .u64 (IntKind.wrap .i64 (Int.tdiv 256 2)) = 128 := by decide +kernel
  have t2 : IntKind.wrap .u64 (IntKind.wrap .i64 (Int.tdiv 65536 2)) = 32768 := by decide +kernel
  have t3 : IntKind.wrap .u64 (IntKind.wrap .i64 (Int.tdiv 16777216 2)) = 8388608 := by decide +kernel
  have hle : ¬ n ≤ a := by omega
  unfold pnum_Bytes P.pnum_Bytes nb
  rw [loopO_eq]
  simp only [P.pnum_Bytes_l1, condK_eq, decide_eq_true_eq, hle, if_false, letO_eq, hd, hs1, bind2_some, t1, joinO_inl, show (1 : Int) < 4 by omega, if_true]
  by_cases c1 : n - a ≤ 128
  · simp [c1]
  simp only [c1, if_false]
  rw [w64 (by omega) (by omega), loopO_eq]
  simp only [P.pnum_Bytes_l1, condK_eq, decide_eq_true_eq, hle, if_false, letO_eq, hd, show (1 : Int) + 1 = 2 by omega, hs2, bind2_some, t2, joinO_inl, show (2 : Int) < 4 by omega, if_true]
  by_cases c2 : n - a ≤ 32768
  · simp [c2]
  simp only [c2, if_false]
  rw [w64 (by omega) (by omega), loopO_eq]
  simp only [P.pnum_Bytes_l1, condK_eq, decide_eq_true_eq, hle, if_false, letO_eq, hd, show (2 : Int) + 1 = 3 by omega, hs3, bind2_some, t3, joinO_inl, show (3 : Int) < 4 by omega, if_true]
  by_cases c3 : n - a ≤ 8388608
  · simp [c3]
  simp only [c3, if_false]
  rw [w64 (by omega) (by omega), loopO_eq]
  simp only [P.pnum_Bytes_l1, condK_eq, decide_eq_true_eq, show (3 : Int) + 1 = 4 by omega, show ¬ (4 : Int) < 4 by omega, if_false]
theorem known2_f (h : H) : law2_known h = some (true, h) := by
  unfold law2_known P.law2_known
  rw [back_f 39730 2 2821665003 (by omega) (by omega) (by omega) (by omega)]
  simp only [bind2_some]
  rw [bytes_f 0 (-1) (by omega) (by omega)]
  simp only [bind2_some, condK_eq]
  rw [if_pos (by decide +kernel), show (nb (0 - -1) == 1) = true by decide +kernel]
theorem nb_mono (d e : Int) (h : d ≤ e) : nb d ≤ nb e := by
  unfold nb; (repeat' split) <;> omega
def mn (k j : Int) : Int := if j < k then j else k
theorem sp_min (k j : Int) (hk : 1 ≤ k) (hk2 : k ≤ 4) (hj : 1 ≤ j) (hj2 : j ≤ 4) (x : Int) : x % sp k % sp j = x % sp (mn k j) := by
  rcases (by omega : k = 1 ∨ k = 2 ∨ k = 3 ∨ k = 4) with rfl | rfl | rfl | rfl <;> rcases (by omega : j = 1 ∨ j = 2 ∨ j = 3 ∨ j = 4) with rfl | rfl | rfl | rfl <;> simp [sp, mn] <;> omega
theorem sp_shl (k : Int) (hk : 1 ≤ k) (hk2 : k ≤ 4) : shlT .i64 1 .u64 (IntKind.wrap .u64 (IntKind.wrap .i64 (8 * k))) = some (sp k) := by
  rcases (by omega : k = 1 ∨ k = 2 ∨ k = 3 ∨ k = 4) with rfl | rfl | rfl | rfl <;> decide +kernel
theorem PnumMonotone (a0 a1 a2 a3 a4 a5 : Int) (h : H) : law2_PnumMonotone a0 a1 a2 a3 a4 a5 h = some (true, h) := by
  unfold law2_PnumMonotone P.law2_PnumMonotone
  rw [pick_f a0 _ (by omega) (by omega)]; simp only [bind2_some]
  rw [pick_f a1 _ (by omega) (by omega)]; simp only [bind2_some]
  rw [pick_f a2 _ (by omega) (by omega)]; simp only [bind2_some]
  rw [pick_f a3 _ (by omega) (by omega)]; simp only [bind2_some]
  rw [pick_f a4 4 (by omega) (by omega)]; simp only [bind2_some]
  rw [pick_f a5 4 (by omega) (by omega), bind2_some, known2_f, bind2_some]
  simp only [condK_eq, if_true]
  have h0 := Int.emod_nonneg a0 (show (1099511627776 : Int) ≠ 0 by omega)
  have h0' := Int.emod_lt_of_pos a0 (show (0 : Int) < 1099511627776 by omega)
  have h1 := Int.emod_nonneg a1 (show (1099511627776 : Int) ≠ 0 by omega)
  have h1' := Int.emod_lt_of_pos a1 (show (0 : Int) < 1099511627776 by omega)
  have h2 := Int.emod_nonneg a2 (show (8589934592 : Int) ≠ 0 by omega)
  have h2' := Int.emod_lt_of_pos a2 (show (0 : Int) < 8589934592 by omega)
  have h3 := Int.emod_nonneg a3 (show (1048576 : Int) ≠ 0 by omega)
  have h3' := Int.emod_lt_of_pos a3 (show (0 : Int) < 1048576 by omega)
  obtain ⟨k, hk⟩ : ∃ k, 1 + a4 % 4 = k := ⟨_, rfl⟩
  obtain ⟨j, hj⟩ : ∃ k, 1 + a5 % 4 = k := ⟨_, rfl⟩
  have hk1 : 1 ≤ k ∧ k ≤ 4 := by omega
  have hj1 : 1 ≤ j ∧ j ≤ 4 := by omega
  have ek : IntKind.wrap .i64 (1 + a4 % 4) = k := by rw [w64 (by omega) (by omega)]; exact hk
  have ej : IntKind.wrap .i64 (1 + a5 % 4) = j := by rw [w64 (by omega) (by omega)]; exact hj
  rw [ek, ej]
  clear ek ej
  generalize a0 % 1099511627776 = x at *
  generalize a1 % 1099511627776 = y at *
  generalize a2 % 8589934592 = d at *
  generalize a3 % 1048576 = m at *
  have e1 : IntKind.wrap .i64 (x + IntKind.wrap .i64 (1 + d)) = x + (1 + d) := by rw [w64 (n := 1 + d) (by omega) (by omega), w64 (by omega) (by omega)]
  have e2 : IntKind.wrap .i64 (y + IntKind.wrap .i64 (1 + d)) = y + (1 + d) := by rw [w64 (n := 1 + d) (by omega) (by omega), w64 (by omega) (by omega)]
  have e3 : IntKind.wrap .i64 (y + IntKind.wrap .i64 (IntKind.wrap .i64 (1 + d) + m)) = y + (1 + d + m) := by rw [w64 (n := 1 + d) (by omega) (by omega), w64 (n := 1 + d + m) (by omega) (by omega), w64 (by omega) (by omega)]
  have f1 : x + (1 + d) - x = 1 + d := by omega
  have f2 : y + (1 + d) - y = 1 + d := by omega
  have f3 : y + (1 + d + m) - y = 1 + d + m := by omega
  have g := sp_pos k
  have hm : 1 ≤ mn k j ∧ mn k j ≤ 4 := by unfold mn; split <;> omega
  have hmn : (if j < k then j else k) = mn k j := rfl
  rw [e1, e2, e3, bytes_f _ _ (by omega) (by omega)]; simp only [bind2_some, letO_eq]
  rw [bytes_f _ _ (by omega) (by omega)]; simp only [bind2_some]
  rw [f1, f2]
  simp only [beq_self_eq_true, if_true]
  rw [bytes_f _ _ (by omega) (by omega)]; simp only [bind2_some]
  rw [bytes_f _ _ (by omega) (by omega)]; simp only [bind2_some]
  rw [f1, f3]
  simp only [beq_self_eq_true, if_true, decide_eq_true (nb_mono _ _ (show 1 + d ≤ 1 + d + m by omega))]
  rw [cut_f x k hk1.1 hk1.2]; simp only [bind2_some]
  rw [cut_f _ j hj1.1 hj1.2]; simp only [bind2_some]
  rw [hmn, cut_f x (mn k j) hm.1 hm.2]; simp only [bind2_some]
  rw [sp_min k j hk1.1 hk1.2 hj1.1 hj1.2]
  simp only [beq_self_eq_true, if_true]
  rw [cut_f x k hk1.1 hk1.2]; simp only [bind2_some]
  rw [sp_shl k hk1.1 hk1.2]
  simp only [bindO_some, decide_eq_true (Int.emod_lt_of_pos x g.1)]
theorem bk_self (n x s : Int) (hs : 0 < s) (h1 : 0 ≤ x) (h2 : x ≤ n) (h3 : 2 * (n - x) ≤ s) (h4 : n ≤ 4611686018427387903) (h5 : n - x < s) : bk (n % s) s x = n := by
  have e : (n % s - x) % s = n - x := by
    rw [Int.emod_sub_emod]
    exact Int.emod_eq_of_lt (by omega) h5
  unfold bk
  rw [e]
  have e2 : x + (n - x) = n := by omega
  rw [e2]
  split
  · rfl
  · rw [if_pos (by omega)]
theorem PnumBack (a0 a1 a2 a3 a4 : Int) (h : H) : law2_PnumBack a0 a1 a2 a3 a4 h = some (true, h) := by
  unfold law2_PnumBack P.law2_PnumBack
  rw [pick_f a0 _ (by omega) (by omega)]; simp only [bind2_some]
  rw [pick_f a4 _ (by omega) (by omega)]; simp only [bind2_some]
  have h0 := Int.emod_nonneg a0 (show (1099511627776 : Int) ≠ 0 by omega)
  have h0' := Int.emod_lt_of_pos a0 (show (0 : Int) < 1099511627776 by omega)
  obtain ⟨s, hs, hs1, hs2⟩ : ∃ s, ixIT .i64 [128, 32768, 8388608, 2147483648] (a4 % 4) = some s ∧ 0 < s ∧ s ≤ 2147483648 := by
    rcases (by omega : a4 % 4 = 0 ∨ a4 % 4 = 1 ∨ a4 % 4 = 2 ∨ a4 % 4 = 3) with e | e | e | e <;> rw [e] <;> exact ⟨_, rfl, by omega, by omega⟩
  rw [hs]; simp only [bindO_some]
  rw [pick_f a1 _ hs1 (by omega)]; simp only [bind2_some, letO_eq]
  have h1 := Int.emod_nonneg a1 (Int.ne_of_gt hs1)
  have h1' := Int.emod_lt_of_pos a1 hs1
  generalize a1 % s = f at *
  generalize a0 % 1099511627776 = a at *
  rw [w64 (n := a - 1) (by omega) (by omega), w64 (n := 1 + f) (by omega) (by omega), w64 (n := a - 1 + (1 + f)) (by omega) (by omega)]
  rw [bytes_f _ _ (by omega) (by omega)]; simp only [bind2_some]
  rw [show a - 1 + (1 + f) - (a - 1) = 1 + f by omega]
  rw [pick_f a2 _ (by omega) (by omega)]; simp only [bind2_some]
  have h2 := Int.emod_nonneg a2 (show 1 + f ≠ 0 by omega)
  have h2' := Int.emod_lt_of_pos a2 (show 0 < 1 + f by omega)
  generalize a2 % (1 + f) = g at *
  rw [w64 (n := a - 1 + 1) (by omega) (by omega), w64 (n := a - 1 + 1 + g) (by omega) (by omega)]
  have hk : 1 ≤ nb (1 + f) ∧ nb (1 + f) ≤ 4 := by unfold nb; (repeat' split) <;> omega
  have hkf : 2 * f < sp (nb (1 + f)) ∧ (nb (1 + f) = 1 ∨ sp (nb (1 + f) - 1) < 2 * (1 + f)) := by
    unfold nb sp; (repeat' split) <;> omega
  generalize nb (1 + f) = k at *
  have e8 : (if (if k > 0 then k else 0) < 4 then (if k > 0 then k else 0) else 4) = k := by
    (repeat' split) <;> omega
  rw [e8, w64 (n := 5 - k) (by omega) (by omega), pick_f a3 _ (by omega) (by omega)]; simp only [bind2_some]
  have h3 := Int.emod_nonneg a3 (show 5 - k ≠ 0 by omega)
  have h3' := Int.emod_lt_of_pos a3 (show 0 < 5 - k by omega)
  generalize a3 % (5 - k) = m at *
  rw [known2_f]; simp only [bind2_some, condK_eq, if_true, decide_eq_true_eq]
  rw [if_pos hk.1, if_pos hk.2, cut_f _ k hk.1 hk.2]; simp only [bind2_some]
  have hpk := sp_pos k
  rw [back_f _ k _ hk.1 hk.2 (by omega) (by omega)]; simp only [bind2_some]
  rw [bk_self _ _ _ hpk.1 (by omega) (by omega) (by omega) (by omega) (by omega)]
  simp only [beq_self_eq_true, if_true]
  rw [w64 (n := k + m) (by omega) (by omega), cut_f _ (k + m) (by omega) (by omega)]; simp only [bind2_some]
  have hpj := sp_pos (k + m)
  have hmo : sp k ≤ sp (k + m) := by unfold sp; (repeat' split) <;> omega
  rw [back_f _ (k + m) _ (by omega) (by omega) (by omega) (by omega)]; simp only [bind2_some]
  rw [bk_self _ _ _ hpj.1 (by omega) (by omega) (by omega) (by omega) (by omega)]
  simp only [beq_self_eq_true, if_true, beq_iff_eq]
  split
  · rfl
  · rename_i hk1
    rw [w64 (n := k - 1) (by omega) (by omega), sp_shl (k - 1) (by omega) (by omega)]
    simp only [bindO_some]
    rw [w64 (n := 2 * (1 + f)) (by omega) (by omega), decide_eq_true (show 2 * (1 + f) > sp (k - 1) by omega)]
end Go.Proofs.Ytejdeibmhlcnbaa.T
