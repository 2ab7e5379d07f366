/- The pure law of PnumStays: for all integers of Go's int the printed function of the law answers true, with rounds enough. -/
import Derived.Test.YtejdeibmhlcnbaaPPnumStaysx1
namespace Go.Proofs.Ytejdeibmhlcnbaa.Pure
open Go.RowKit Go.Proofs.Ytejdeibmhlcnbaa.PPnumStays Go.Proofs.YtejdeibmhlcnbaaW.PrintWords Go.Proofs.YtejdeibmhlcnbaaW.PrintLast Go.Proofs.YtejdeibmhlcnbaaW.PrintMore

set_option linter.unusedVariables false
theorem wrap_id {n : Int} (h : -9223372036854775808 ≤ n) (h2 : n < 9223372036854775808) : wrap64 n = n := by
  unfold wrap64; omega
theorem tmod_pos (a m : Int) (h : 0 < m) : (if Int.tmod a m < 0 then Int.tmod a m + m else Int.tmod a m) = a % m := by
  have h1 := Int.tmod_eq_emod (a := a) (b := m)
  have h2 := Int.emod_nonneg a (Int.ne_of_gt h)
  have h3 := Int.emod_lt_of_pos a h
  by_cases hc : 0 ≤ a ∨ m ∣ a
  · rw [if_pos hc] at h1
    rw [h1, if_neg (by omega)]; omega
  · rw [if_neg hc] at h1
    have h4 : 0 < a % m := by
      rcases Int.lt_or_eq_of_le h2 with h | h
      · exact h
      · exact absurd (Or.inr (Int.dvd_of_emod_eq_zero h.symm)) hc
    rw [h1, if_pos (by omega)]; omega
theorem rest_f (a m : Int) (h : 0 < m) (h2 : m ≤ 4611686018427387904) : pnum_rest.f a m = some (a % m) := by
  have h3 := tmod_pos a m h
  unfold pnum_rest.f
  rw [if_neg (by omega)]
  have h5 := Int.tmod_eq_emod (a := a) (b := m)
  have h6 := Int.emod_nonneg a (Int.ne_of_gt h)
  have h7 := Int.emod_lt_of_pos a h
  split at h3
  · rename_i hc; rw [if_pos hc, wrap_id (by omega) (by omega), h3]
  · rename_i hc; rw [if_neg hc, h3]
theorem pick_f (a m : Int) (h : 0 < m) (h2 : m ≤ 4611686018427387904) : argosyhand_Pick.f a m = some (a % m) := rest_f a m h h2
def sp (k : Int) : Int := if k = 1 then 256 else if k = 2 then 65536 else if k = 3 then 16777216 else 4294967296
theorem span_f (k : Int) (h : 1 ≤ k) (h2 : k ≤ 4) : pnum_span.f k = some (sp k) := by
  rcases (by omega : k = 1 ∨ k = 2 ∨ k = 3 ∨ k = 4) with rfl | rfl | rfl | rfl <;> decide +kernel
theorem sp_pos (k : Int) : 0 < sp k ∧ sp k ≤ 4294967296 := by unfold sp; (repeat' split) <;> omega
theorem cut_f (n k : Int) (h : 1 ≤ k) (h2 : k ≤ 4) : pnum_Cut.f n k = some (n % sp k) := by
  have hp := sp_pos k
  unfold pnum_Cut.f
  rw [span_f k h h2]; simp only [Option.bind_some]
  rw [rest_f _ _ hp.1 (by omega)]; rfl
def bk (cut by_ x : Int) : Int :=
  if x + (cut - x) % by_ - by_ < 0 then x + (cut - x) % by_
  else if x + (cut - x) % by_ ≤ 4611686018427387903 then
    (if (cut - x) % by_ ≤ by_ - (cut - x) % by_ then x + (cut - x) % by_ else x + (cut - x) % by_ - by_)
  else x + (cut - x) % by_ - by_
theorem back_f (cut k x : Int) (h : 1 ≤ k) (h2 : k ≤ 4) (hx : 0 ≤ x) (hx2 : x ≤ 4611686018427387903) : pnum_Back.f cut k x = some (bk cut (sp k) x) := by
  have hp := sp_pos k
  unfold pnum_Back.f
  rw [span_f k h h2]; simp only [Option.bind_some]
  have hw : pnum_within.f x 0 4611686018427387903 = some x := by
    have m1 : mn x 4611686018427387903 = x := by unfold mn; rw [if_neg (by omega)]
    have m2 : mx 0 x = x := by unfold mx; split <;> omega
    unfold pnum_within.f; rw [m1, m2]
  rw [hw]; simp only [Option.bind_some]
  rw [cut_f cut k h h2]; simp only [Option.bind_some]
  rw [rest_f x _ hp.1 (by omega)]; simp only [Option.bind_some]
  generalize sp k = b at hp ⊢
  have e1 := Int.emod_nonneg cut (Int.ne_of_gt hp.1)
  have e2 := Int.emod_lt_of_pos cut hp.1
  have e3 := Int.emod_nonneg x (Int.ne_of_gt hp.1)
  have e4 := Int.emod_lt_of_pos x hp.1
  rw [wrap_id (by omega) (by omega), rest_f _ _ hp.1 (by omega), ← Int.sub_emod]
  simp only [Option.bind_some]
  have e5 := Int.emod_nonneg (cut - x) (Int.ne_of_gt hp.1)
  have e6 := Int.emod_lt_of_pos (cut - x) hp.1
  unfold bk
  generalize (cut - x) % b = r at *
  rw [wrap_id (n := x + r) (by omega) (by omega), wrap_id (n := x + r - b) (by omega) (by omega), wrap_id (n := x + r - x) (by omega) (by omega), wrap_id (n := x - (x + r - b)) (by omega) (by omega)]
  have e7 : x + r - x = r := by omega
  have e8 : x - (x + r - b) = b - r := by omega
  rw [e7, e8]
  split
  · rfl
  · split
    · split <;> rfl
    · rfl
def nb (d : Int) : Int := if d ≤ 128 then 1 else if d ≤ 32768 then 2 else if d ≤ 8388608 then 3 else 4
theorem u64_id {n : Int} (h : 0 ≤ n) (h2 : n < 18446744073709551616) : IntKind.u64.wrap n = n := by
  simp [IntKind.wrap, IntKind.bits, IntKind.signed]; omega
theorem u64_sub {n a : Int} : IntKind.u64.wrap (IntKind.u64.wrap n - IntKind.u64.wrap a) = (n - a) % 18446744073709551616 := by
  simp [IntKind.wrap, IntKind.bits, IntKind.signed]
theorem bytes_f (n a : Int) (h : a < n) (h2 : n - a < 4611686018427387904) : pnum_Bytes.f 5 n a = some (nb (n - a)) := by
  have hs1 : pnum_span.f 1 = some 256 := span_f 1 (by omega) (by omega)
  have hs2 : pnum_span.f 2 = some 65536 := span_f 2 (by omega) (by omega)
  have hs3 : pnum_span.f 3 = some 16777216 := span_f 3 (by omega) (by omega)
  have hd : (n - a) % 18446744073709551616 = n - a := by omega
  have t1 : IntKind.u64.wrap (wrap64 (Int.tdiv 256 2)) = 128 := by decide +kernel
  have t2 : IntKind.u64.wrap (wrap64 (Int.tdiv 65536 2)) = 32768 := by decide +kernel
  have t3 : IntKind.u64.wrap (wrap64 (Int.tdiv 16777216 2)) = 8388608 := by decide +kernel
  have w1 : wrap64 (1 + 1) = 2 := by decide +kernel
  have w2 : wrap64 (2 + 1) = 3 := by decide +kernel
  have w3 : wrap64 (3 + 1) = 4 := by decide +kernel
  unfold pnum_Bytes.f nb
  have hle : ¬ n ≤ a := by omega
  simp only [pnum_Bytes.l0, hle, if_false, hs1, hs2, hs3, Option.bind_some, u64_sub, hd, t1, t2, t3, w1, w2, w3, show (1 : Int) < 4 from by omega, show (2 : Int) < 4 from by omega, show (3 : Int) < 4 from by omega, show ¬ (4 : Int) < 4 from by omega, if_true]
  (repeat' split) <;> first | rfl | omega
theorem known_f : argosylaw2_known.f 5 = some true := by
  unfold argosylaw2_known.f
  rw [back_f 39730 2 2821665003 (by omega) (by omega) (by omega) (by omega), bytes_f 0 (-1) (by omega) (by omega)]
  decide +kernel
theorem num_f (a : Int) (h : -9223372036854775808 ≤ a) (h2 : a ≤ 9223372036854775807) : ∃ r, argosyhand_Num.f a = some r := by
  unfold argosyhand_Num.f
  rw [pick_f _ 3 (by omega) (by omega), pick_f a 9 (by omega) (by omega)]
  simp only [Option.bind_some]
  (repeat' split) <;> first | exact ⟨_, rfl⟩ | (rw [pick_f _ 500 (by omega) (by omega)]; exact ⟨_, rfl⟩)
theorem may_f (a : Int) (h : -9223372036854775808 ≤ a) (h2 : a ≤ 9223372036854775807) : ∃ r, argosyhand_May.f a = some r ∧ 0 ≤ r ∧ r ≤ 4611686018427387903 := by
  obtain ⟨r, hr⟩ := num_f a h h2
  unfold argosyhand_May.f argosyref1_May.f
  rw [hr]; simp only [Option.bind_some]
  by_cases c : 0 ≤ r
  · rw [if_pos c]; simp only [Option.bind_some]
    by_cases d : r ≤ 4611686018427387903
    · rw [if_pos (by simpa using d)]; exact ⟨r, rfl, c, d⟩
    · rw [if_neg (by simpa using d), pick_f a 1048576 (by omega) (by omega)]
      exact ⟨_, rfl, by omega, by omega⟩
  · rw [if_neg c]; simp only [Option.bind_some]
    rw [if_neg (by simp), pick_f a 1048576 (by omega) (by omega)]
    exact ⟨_, rfl, by omega, by omega⟩
theorem bk_range (c b x : Int) (hb : 0 < b) (hb2 : b ≤ 4294967296) (hx : 0 ≤ x) (hx2 : x ≤ 4611686018427387903) : 0 ≤ bk c b x ∧ bk c b x ≤ 4611686018427387903 := by
  have e5 := Int.emod_nonneg (c - x) (Int.ne_of_gt hb)
  have e6 := Int.emod_lt_of_pos (c - x) hb
  unfold bk
  generalize (c - x) % b = r at *
  (repeat' split) <;> omega
theorem bk_mod (c b x : Int) (hb : 0 < b) : (c - bk c b x) % b = 0 := by
  have e := Int.emod_add_mul_ediv (c - x) b
  unfold bk
  generalize (c - x) / b = q at *
  generalize (c - x) % b = r at *
  have z : (c - (x + r)) % b = 0 := by
    have : c - (x + r) = b * q := by omega
    rw [this]; exact Int.mul_emod_right b q
  have z2 : (c - (x + r - b)) % b = 0 := by
    have : c - (x + r - b) = b * (q + 1) := by rw [Int.mul_add]; omega
    rw [this]; exact Int.mul_emod_right b _
  (repeat' split) <;> assumption
theorem bk_self (c b n : Int) (hb : 0 < b) (h : (c - n) % b = 0) (hn : 0 ≤ n) (hn2 : n ≤ 4611686018427387903) : bk c b n = n := by
  unfold bk; rw [h]
  (repeat' split) <;> omega
theorem cut_self (x b : Int) (hb : 0 < b) : (x % b - x) % b = 0 := by
  rw [Int.sub_emod, Int.emod_emod, Int.sub_self]; exact Int.zero_emod b
theorem PnumStays : argosylaw2_PnumStays.Pure := by
  intro a0 a1 a2 w0 w1 w2
  have b0 : -9223372036854775808 ≤ a0 ∧ a0 ≤ 9223372036854775807 := by
    simpa [Lit.wf, IntKind.min, IntKind.max, IntKind.signed, IntKind.bits] using w0
  refine ⟨5, ?_⟩
  obtain ⟨x, hx, hx0, hx1⟩ := may_f a0 b0.1 b0.2
  unfold argosylaw2_PnumStays.f
  rw [pick_f a2 4 (by omega) (by omega), hx, known_f]
  simp only [Option.bind_some]
  obtain ⟨k, hk⟩ : ∃ k, wrap64 (1 + a2 % 4) = k := ⟨_, rfl⟩
  have hk1 : 1 ≤ k ∧ k ≤ 4 := by rw [← hk, wrap_id (by omega) (by omega)]; omega
  rw [hk]
  have hp := sp_pos k
  rw [back_f a1 k x hk1.1 hk1.2 hx0 hx1, cut_f x k hk1.1 hk1.2, cut_f 0 k hk1.1 hk1.2, cut_f _ k hk1.1 hk1.2]
  simp only [Option.bind_some, if_true]
  rw [back_f _ k x hk1.1 hk1.2 hx0 hx1, back_f _ k 0 hk1.1 hk1.2 (by omega) (by omega), back_f _ k 4611686018427387903 hk1.1 hk1.2 (by omega) (by omega)]
  simp only [Option.bind_some]
  have hr := bk_range a1 (sp k) x hp.1 hp.2 hx0 hx1
  rw [bk_self _ _ x hp.1 (cut_self x _ hp.1) hx0 hx1, bk_self _ _ 0 hp.1 (cut_self 0 _ hp.1) (by omega) (by omega), bk_self _ _ 4611686018427387903 hp.1 (cut_self _ _ hp.1) (by omega) (by omega)]
  rw [if_pos rfl, if_pos rfl, if_pos rfl, if_pos hr.1, if_pos hr.2, back_f _ k _ hk1.1 hk1.2 hr.1 hr.2]
  simp only [Option.bind_some]
  rw [bk_self _ _ _ hp.1 (bk_mod a1 _ x hp.1) hr.1 hr.2]
  simp

end Go.Proofs.Ytejdeibmhlcnbaa.Pure
