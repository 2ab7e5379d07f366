/- The law SealApart over the typed texts (where the two bodies together are no longer than the machine's append takes). -/
import Derived.Test.YtejdeibmhlcnbaaLSealWays
set_option linter.unusedVariables false
set_option linter.unusedSimpArgs false
namespace Go.Proofs.Ytejdeibmhlcnbaa.T
open Go Go.Abs Go.Proofs
theorem stepV_inj_n {k a b : Int} (ha : -9223372036854775808 ≤ a ∧ a ≤ 9223372036854775807) (hb : -9223372036854775808 ≤ b ∧ b ≤ 9223372036854775807) (e : stepV k a = stepV k b) : a = b := by
  have h1 : stepV k (IntKind.wrap .u64 a) = stepV k (IntKind.wrap .u64 b) := by rw [stepV_wrap, stepV_wrap, e]
  rw [wu64_mod, wu64_mod] at h1
  have h2 := stepV_inj_r (by unfold U64; omega) (by unfold U64; omega) h1
  omega
theorem stepV_eqn {k a b : Int} (ha : -9223372036854775808 ≤ a ∧ a ≤ 9223372036854775807) (hb : -9223372036854775808 ≤ b ∧ b ≤ 9223372036854775807) : decide (stepV k a = stepV k b) = (a == b) := by
  rw [beq_dec]
  by_cases h : a = b
  · simp [h]
  · have : stepV k a ≠ stepV k b := fun e => h (stepV_inj_n ha hb e)
    simp [h, this]
theorem rdB_take {h : H} {s : Sl} {l : List UInt8} (r : RdB h s l) {n : Nat} (hn : n ≤ l.length) : ∃ s', slT 1 h s none (some (n : Int)) none = some s' ∧ RdB h s' (l.take n) := by
  obtain ⟨s', e, r', _⟩ := sl_hi (hi := (n : Int)) (by omega) (by unfold B63; omega) r (by omega) (by rw [r.len]; omega)
  refine ⟨s', e, ?_⟩
  unfold RdB vB
  rw [List.map_take]
  simpa [vB] using r'
theorem SealApart (key num m : Int) (body more head : Sl) (h : H) (w : WF h) (hk : 0 ≤ key ∧ key < 18446744073709551616) (hn : -9223372036854775808 ≤ num ∧ num ≤ 9223372036854775807) (hm : -9223372036854775808 ≤ m ∧ m ≤ 9223372036854775807)
    (bl : List UInt8) (h1 : RdB h body bl) (l1 : bl.length ≤ 140737488351232) (ml : List UInt8) (h2 : RdB h more ml) (l2 : ml.length ≤ 140737488351232) (hl : List UInt8) (h3 : RdB h head hl) (l3 : hl.length ≤ 140737488351232) (hsum : bl.length + ml.length ≤ 140737488351232) : ∃ h', law4_SealApart key num m body more head h = some (true, h') := by
  unfold law4_SealApart P.law4_SealApart
  obtain ⟨s0, g0, e0, x0, r0, _⟩ := Mask_f (num := num) w h1 (by omega) hk
  rw [e0, bind2_some]
  simp only
  rw [h1.len]
  obtain ⟨s1, g1, e1, x1, b1, f1⟩ := Few_f x0.wf (h1.ex x0) (by omega) (n := (bl.length : Int)) (by omega)
  rw [e1, bind2_some]
  rw [Int.toNat_natCast, List.take_of_length_le (by omega)] at b1
  simp only
  obtain ⟨s2, g2, e2, k2, x2, b2, _, _⟩ := appB_ok (e := 5) x1.wf b1 ((h2.ex x0).ex x1) (by omega)
  rw [e2, bind2_some]
  simp only
  have x02 : EX g0 g2 := x2 _ x1 f1
  obtain ⟨s3, g3, e3, x3, r3, _⟩ := Mask_f (num := num) x02.wf b2.rd (by rw [List.length_append]; omega) hk
  rw [e3, bind2_some]
  simp only
  have x03 := x02.trans x3
  have xa := x0.trans x03
  have r03 := r0.ex x03
  have hl0 := mk_length (stepV key num) bl 0
  have hl3 := mk_length (stepV key num) (bl ++ ml) 0
  rw [List.length_append] at hl3
  rw [r0.len, hl0, r3.len, hl3, h2.len, w64 (by omega) (by omega)]
  simp only [condK_eq, bne_self_eq_false, Bool.false_eq_true, if_false, letO_eq]
  have hc : ((((bl.length + ml.length : Nat) : Int)) != ((bl.length : Int) + (ml.length : Int))) = false := by simp
  rw [hc]
  simp only [Bool.false_eq_true, if_false]
  obtain ⟨s4, e4, r4⟩ := rdB_take r3 (n := bl.length) (by omega)
  have htk : (mk (stepV key num) 0 (bl ++ ml)).take bl.length = mk (stepV key num) 0 bl := by
    rw [mk_append, List.take_append_of_le_length (by omega), List.take_of_length_le (by omega)]
  rw [htk] at r4
  rw [e4, bindO_some, strT_ok r4, bind2_some, strT_ok r03, bind2_some]
  simp only [beq_self_eq_true, Bool.not_true, joinO_inl, Bool.false_eq_true, if_false]
  have hh := h3.ex xa
  have hb := h1.ex xa
  have wf3 := xa.wf
  obtain ⟨s5, g5, room5, e5, x5, b5, _⟩ := Close_f (num := num) wf3 hh hb (by omega) (by omega) hk
  rw [e5, bind2_some]
  simp only
  have r5 : RdB g5 s5 (closeV key num hl bl) := b5.rd
  obtain ⟨s6, g6, room6, e6, x6, b6, _⟩ := Close_f (num := m) x5.wf (hh.ex x5) (hb.ex x5) (by omega) (by omega) hk
  rw [e6, bind2_some]
  simp only
  have r6 : RdB g6 s6 (closeV key m hl bl) := b6.rd
  have c1 := closeV_length key num hl bl
  have c2 := closeV_length key m hl bl
  obtain ⟨s7, g7, e7, x7, _⟩ := Open_f (num := m) x6.wf ((hh.ex x5).ex x6) r6 (by omega) (by omega) hk
  rw [e7, bind2_some]
  simp only
  obtain ⟨s8, g8, e8, x8, _⟩ := Open_f (num := num) x7.wf (((hh.ex x5).ex x6).ex x7) (r6.ex x7) (by omega) (by omega) hk
  rw [e8, bind2_some]
  simp only
  obtain ⟨g9, e9, x9⟩ := known4_f x8.wf
  rw [e9, bind2_some, open_close, open_close2, stepV_eqn hn hm]
  rw [r5.len, r6.len, c1, c2]
  simp only [if_true, Option.isSome_some, beq_self_eq_true]
  have x59 := ((x6.trans x7).trans x8).trans x9
  obtain ⟨s10, e10, r10⟩ := rdB_take (r5.ex x59) (n := bl.length) (by omega)
  have htk2 : (closeV key num hl bl).take bl.length = mk (stepV key num) 0 bl := by
    unfold closeV
    rw [List.take_append_of_le_length (by omega), List.take_of_length_le (by omega)]
  rw [htk2] at r10
  rw [h1.len, e10, bindO_some, strT_ok r10, bind2_some, strT_ok ((r03.ex x5).ex x59), bind2_some]
  simp only [beq_self_eq_true]
  exact ⟨_, rfl⟩
theorem SealApartU (key num m : Int) (body more head : Sl) (h : H) (w : WF h) (hk : 0 ≤ key ∧ key < 18446744073709551616) (hn : -9223372036854775808 ≤ num ∧ num ≤ 9223372036854775807) (hm : -9223372036854775808 ≤ m ∧ m ≤ 9223372036854775807)
    (bl : List UInt8) (h1 : RdB h body bl) (l1 : bl.length ≤ 1048576) (ml : List UInt8) (h2 : RdB h more ml) (l2 : ml.length ≤ 1048576) (hl : List UInt8) (h3 : RdB h head hl) (l3 : hl.length ≤ 1048576) : ∃ h', law4_SealApart key num m body more head h = some (true, h') :=
  SealApart key num m body more head h w hk hn hm bl h1 (by omega) ml h2 (by omega) hl h3 (by omega) (by omega)
end Go.Proofs.Ytejdeibmhlcnbaa.T
