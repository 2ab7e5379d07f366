/- The law VarintLong over the typed text. -/
import Derived.Test.YtejdeibmhlcnbaaLVarShort
set_option linter.unusedVariables false
set_option linter.unusedSimpArgs false
namespace Go.Abs
open Go
theorem mkT_ok {e : Nat} {h : H} (w : WF h) {k : Nat} (hk : k ≤ 2 ^ 40) : ∃ h', mkT e 1 1 (.int .u8 0) h (k : Int) (k : Int) = some (⟨some ⟨h.size, 0, some 0⟩, k, k⟩, h') ∧ EX h h' ∧ BufB h' ⟨some ⟨h.size, 0, some 0⟩, k, k⟩ (List.replicate k 0) := by
  have hz : zeros (.int .u8 0) k = vB (List.replicate k 0) := by
    unfold zeros vB
    have : (Value.int .u8 0).cells.toList = [Value.int .u8 0] := rfl
    rw [this, List.map_replicate]
    induction k with
    | zero => rfl
    | succ k ih => rw [List.replicate_succ, List.flatten_cons, ih (by omega), List.replicate_succ]; rfl
  have key : mkSl (DSE e (tyS 1 1 (.int .u8 0))) (e + 1) (.int .i64 (k : Int)) (.int .i64 (k : Int)) = some (.new (row e (vB (List.replicate k 0))) fun A => .slice (some ⟨A, 0, some 0⟩) k k) := by
    unfold mkSl
    rw [elem_DSE]
    have : (decide ((0 : Int) ≤ (k : Int)) && decide ((k : Int) ≤ (k : Int)) && decide ((k : Int) * (((tyS 1 1 (.int .u8 0)).bytes : Nat) + 1) ≤ 2 ^ 46)) = true := by
      have e1 : ((k : Int) * (((tyS 1 1 (.int .u8 0)).bytes : Nat) + 1) ≤ 2 ^ 46) := by
        show (k : Int) * (((1 : Nat) : Int) + 1) ≤ 2 ^ 46
        omega
      rw [decide_eq_true (show (0 : Int) ≤ (k : Int) by omega), decide_eq_true (show (k : Int) ≤ (k : Int) by omega), decide_eq_true e1]; rfl
    simp only [this, cond_true, Int.toNat_natCast]
    rw [← hz]; rfl
  refine ⟨newAt (grow h 1) h.size (row e (vB (List.replicate k 0))), ?_, wf_new w e _, ?_⟩
  · unfold mkT; rw [key]; rfl
  · have := bufB_new w e (List.replicate k 0) (by simp [B63]; omega)
    simpa using this
end Go.Abs
namespace Go.Proofs.Ytejdeibmhlcnbaa.T
open Go Go.Abs Go.Proofs
theorem val_be : ∀ (m n : Nat), val (n / 256 ^ m) (be m n) = n
  | 0, n => by simp [val, be]
  | m + 1, n => by
    have ih := val_be m n
    have hb : (UInt8.ofNat (n / 256 ^ m)).toNat = n / 256 ^ m % 256 := UInt8.toNat_ofNat'
    have e : n / 256 ^ (m + 1) * 256 + n / 256 ^ m % 256 = n / 256 ^ m := by
      rw [Nat.pow_succ, ← Nat.div_div_eq_div_mul]; omega
    simp only [val, be, List.foldl_cons, hb, e] at ih ⊢
    exact ih
theorem long_loop {n : Int} {N : Nat} {fm : Int} {behind : Sl} {k : Nat} {b : Sl} {h0 : H} (hk : k ≤ 8) : ∀ (j : Nat) (h : H), j ≤ k → BufB h b (List.replicate j 0 ++ be (k - j) N) → EX h0 h → Fr h0.size b →
    ∃ h', loopO law1_VarintLong_l1 ((n, (fm, (behind, ((k : Int), (b, (((N / 256 ^ (k - j) : Nat) : Int), (j : Int) - 1)))))), h) = some (Sum.inl ((n, (fm, (behind, ((k : Int), b)))), h')) ∧ BufB h' b (be k N) ∧ EX h0 h'
  | 0, h, hj, hb, hx, hf => by
    refine ⟨h, ?_, by simpa using hb, hx⟩
    rw [loopO_eq]
    simp only [P.law1_VarintLong_l1, condK_eq, decide_eq_true_eq, show ¬ ((((0 : Nat) : Int)) - 1 ≥ 0) by omega, if_false]
  | j + 1, h, hj, hb, hx, hf => by
    have hlen : (List.replicate (j + 1) (0 : UInt8) ++ be (k - (j + 1)) N).length = k := by simp [be_length]; omega
    obtain ⟨a, ha, e1, _⟩ := hb.rd.at (i := (j : Int)) (by omega) (by rw [hlen]; omega)
    simp only [Int.toNat_natCast] at e1
    rw [loopO_eq]
    simp only [P.law1_VarintLong_l1, condK_eq, decide_eq_true_eq]
    rw [show (((j + 1 : Nat) : Int)) - 1 = (j : Int) by omega, if_pos (by omega), e1, bindO_some]
    have eb : IntKind.wrap .u8 ((N / 256 ^ (k - (j + 1)) : Nat) : Int) = ((UInt8.ofNat (N / 256 ^ (k - (j + 1)))).toNat : Int) := by
      rw [wu8_mod, UInt8.toNat_ofNat']; exact (Int.natCast_emod _ 256).symm
    rw [eb]
    obtain ⟨h1, e2, w1, b1, x1⟩ := st1_bufB (v := UInt8.ofNat (N / 256 ^ (k - (j + 1)))) hb ha (i := j) (by rw [hlen]; omega) hx.wf
    rw [e2, bindO_some]
    have hset : (List.replicate (j + 1) (0 : UInt8) ++ be (k - (j + 1)) N).set j (UInt8.ofNat (N / 256 ^ (k - (j + 1)))) = List.replicate j 0 ++ be (k - j) N := by
      rw [List.replicate_succ', List.append_assoc, List.set_append_right _ _ (by simp)]
      obtain ⟨m, hm⟩ : ∃ m, k - j = m + 1 := ⟨k - j - 1, by omega⟩
      rw [hm, show k - (j + 1) = m by omega]
      simp [be]
    rw [hset] at b1
    have ed : Int.fdiv ((N / 256 ^ (k - (j + 1)) : Nat) : Int) 256 = ((N / 256 ^ (k - j) : Nat) : Int) := by
      rw [fdiv_pos _ (by omega), show k - j = k - (j + 1) + 1 by omega, Nat.pow_succ, ← Nat.div_div_eq_div_mul]
      exact (Int.natCast_ediv _ 256).symm
    rw [ed, w64 (by omega) (by omega)]
    exact long_loop hk j h1 (by omega) b1 (x1 _ hx hf) hf
theorem add8 (a b : Nat) (h : a + b < 256) : IntKind.wrap .u8 (((UInt8.ofNat a).toNat : Int) + IntKind.wrap .u8 (IntKind.wrap .i64 (b : Int))) = ((UInt8.ofNat (a + b)).toNat : Int) := by
  rw [UInt8.toNat_ofNat', UInt8.toNat_ofNat', w64 (by omega) (by omega), wu8 (n := (b : Int)) (by omega) (by omega), wu8 (by omega) (by omega)]
  omega
theorem VarintLong (n form : Int) (behind : Sl) (h : H) (w : WF h) (_ : -9223372036854775808 ≤ n ∧ n ≤ 9223372036854775807) (_ : -9223372036854775808 ≤ form ∧ form ≤ 9223372036854775807) (l : List UInt8) (hr : RdB h behind l) (hl : l.length ≤ 140737488351232) : ∃ h', law1_VarintLong n form behind h = some (true, h') := by
  unfold law1_VarintLong P.law1_VarintLong
  rw [pick_f _ 4 (by omega) (by omega), bind2_some]
  have f0 := Int.emod_nonneg form (show (4 : Int) ≠ 0 by omega)
  have f1 := Int.emod_lt_of_pos form (show (0 : Int) < 4 by omega)
  simp only
  obtain ⟨q, hq⟩ : ∃ q : Nat, form % 4 = (q : Int) := ⟨(form % 4).toNat, by omega⟩
  rw [hq] at f0 f1 ⊢
  have hk : shlT .i64 1 .u64 (IntKind.wrap .u64 (q : Int)) = some ((2 ^ q : Nat) : Int) := by
    rcases (by omega : q = 0 ∨ q = 1 ∨ q = 2 ∨ q = 3) with rfl | rfl | rfl | rfl <;> rfl
  rw [hk, bindO_some, May_f, bind2_some]
  have hok := mayV_ok n
  generalize mayV n = x at *
  simp only
  have hk8 : 1 ≤ 2 ^ q ∧ 2 ^ q ≤ 8 := by
    rcases (by omega : q = 0 ∨ q = 1 ∨ q = 2 ∨ q = 3) with rfl | rfl | rfl | rfl <;> decide
  have hpq : ∀ y : Int, 0 ≤ y → sz y ≤ ((2 ^ q : Nat) : Int) → okN y → y.toNat < 64 * 256 ^ (2 ^ q - 1) := by
    intro y h0 h1 h2
    unfold okN at h2
    unfold sz at h1
    rcases (by omega : q = 0 ∨ q = 1 ∨ q = 2 ∨ q = 3) with rfl | rfl | rfl | rfl <;> simp only [Nat.reducePow, Nat.reduceSub, Nat.reduceMul] at h1 ⊢ <;> (repeat' split at h1) <;> omega
  -- the number that is laid
  rw [newO_eq]
  obtain ⟨x1, b1⟩ := one_new x w
  generalize newAt (grow h 1) h.size (row 3 [.int .i64 x]) = h1 at x1 b1 ⊢
  rw [Size_f (zs := [x]) b1.rd (by simp), bind2_some, szV_one hok]
  simp only
  obtain ⟨y, hy0, hys, hy⟩ : ∃ y : Int, okN y ∧ sz y ≤ ((2 ^ q : Nat) : Int) ∧ condK (decide (sz x > ((2 ^ q : Nat) : Int))) (bind2 (hand_Pick x 64 h1) fun (x4 : Int) (h4 : H) => some (Sum.inl ((x4, ((q : Int), (behind, ((2 ^ q : Nat) : Int)))), h4))) (some (Sum.inl ((x, ((q : Int), (behind, ((2 ^ q : Nat) : Int)))), h1))) = (some (Sum.inl ((y, ((q : Int), (behind, ((2 ^ q : Nat) : Int)))), h1)) : Option (((Int × (Int × (Sl × Int))) × H) ⊕ (Bool × H))) := by
    by_cases hc : sz x > ((2 ^ q : Nat) : Int)
    · refine ⟨x % 64, ?_, ?_, ?_⟩
      · unfold okN; omega
      · have : sz (x % 64) = 1 := by unfold sz; rw [if_pos (by omega)]
        omega
      · rw [pick_f _ 64 (by omega) (by omega), condK_eq, decide_eq_true hc]; rfl
    · exact ⟨x, hok, by omega, by rw [condK_eq, decide_eq_false hc]; rfl⟩
  rw [hy, joinO_inl]
  simp only
  generalize hK : 2 ^ q = k at *
  have hN := hpq y hy0.1 hys hy0
  obtain ⟨N, rfl⟩ : ∃ N : Nat, y = (N : Int) := ⟨y.toNat, (Int.toNat_of_nonneg hy0.1).symm⟩
  rw [Int.toNat_natCast] at hN
  obtain ⟨h2, e2, x2, b2⟩ := mkT_ok (e := 5) x1.wf (k := k) (by omega)
  have f2 := fr_new h1 k k
  rw [e2, bind2_some]
  generalize (⟨some ⟨h1.size, 0, some 0⟩, k, k⟩ : Sl) = b at b2 f2 ⊢
  simp only
  rw [w64 (n := (k : Int) - 1) (by omega) (by omega)]
  obtain ⟨h3, e3, b3, x3⟩ := long_loop (n := (N : Int)) (N := N) (fm := (q : Int)) (behind := behind) (b := b) (h0 := h1) (k := k) (by omega) k h2 (Nat.le_refl _) (by simpa [be] using b2) x2 f2
  rw [Nat.sub_self, Nat.pow_zero, Nat.div_one] at e3
  simp only [law1_VarintLong_l1] at e3
  rw [e3, joinO_inl]
  simp only
  obtain ⟨m, rfl⟩ : ∃ m, k = m + 1 := ⟨k - 1, by omega⟩
  have hb0 : be (m + 1) N = UInt8.ofNat (N / 256 ^ m) :: be m N := rfl
  rw [hb0] at b3
  rw [Nat.add_sub_cancel] at hN
  have hdv : N / 256 ^ m < 64 := Nat.div_lt_of_lt_mul (by rw [Nat.mul_comm]; exact hN)
  obtain ⟨d, hd⟩ : ∃ d, N / 256 ^ m = d := ⟨_, rfl⟩
  rw [hd] at hdv b3
  obtain ⟨a, ha, e4, e5⟩ := b3.rd.at (i := 0) (by omega) (by simp)
  simp only [Int.toNat_zero, List.getD_cons_zero] at e4 e5
  rw [e4, bindO_some, e5, bindO_some, letO_eq, bindO_some]
  rw [show (q : Int) * 64 = ((q * 64 : Nat) : Int) by omega, add8 _ _ (by omega)]
  obtain ⟨h4, e6, w4, b4, x4⟩ := st1_bufB (v := UInt8.ofNat (d + q * 64)) b3 ha (i := 0) (by simp) x3.wf
  rw [e6, bindO_some]
  have hx4 := x4 _ x3 f2
  simp only [List.set_cons_zero] at b4
  generalize hc : UInt8.ofNat (d + q * 64) = c at *
  have hcn : c.toNat = d + q * 64 := by rw [← hc, UInt8.toNat_ofNat']; omega
  have hts : tsz c = m + 1 := by
    unfold tsz; rw [hcn, ← hK]; congr 1; omega
  have hx14 := x1.trans hx4
  have hbl : (be m N).length = m := be_length m N
  obtain ⟨s5, h5, e7, k7, x7, b5, _, f5⟩ := appB_ok (e := 5) w4 b4 (hr.ex hx14) (by simp [hbl]; omega)
  rw [e7, bind2_some]
  simp only
  have hx5 := x7 _ hx4 f2
  obtain ⟨r, h6, e8, x8, r8⟩ := Take_f hx5.wf b5.rd (by simp [hbl]; omega)
  have htk : tk ((c :: be m N) ++ l) = ((N : Int), l, 0) := by
    rw [List.cons_append]
    simp only [tk]
    rw [if_neg (by rw [hts]; simp [hbl]), hts, Nat.add_sub_cancel]
    have e1 : (be m N ++ l).take m = be m N := by
      rw [List.take_append_of_le_length (by omega), List.take_of_length_le (by omega)]
    have e2 : (be m N ++ l).drop m = l := by
      rw [List.drop_append_of_le_length (by omega), List.drop_of_length_le (by omega)]; rfl
    rw [e1, e2, hcn, show (d + q * 64) % 64 = d by omega, ← hd, val_be]
  rw [htk] at e8 r8
  rw [e8, bind2_some]
  simp only
  have rb6 : RdB h6 b (c :: be m N) := (b4.rd.mono k7).ex x8
  rw [show ((m + 1 : Nat) : Int) - 1 = (m : Int) by omega, w64 (n := (m : Int)) (by omega) (by omega)]
  obtain ⟨s7, e9, r9, l9, _⟩ := sl_hi (hi := (m : Int)) (by omega) (by unfold B63; omega) rb6 (by omega) (by rw [rb6.len]; simp [hbl]; omega)
  rw [e9, bindO_some]
  have r9' : RdB h6 s7 ((c :: be m N).take m) := by
    unfold RdB vB
    rw [List.map_take]
    simpa [vB] using r9
  obtain ⟨r2, h7, e10, x10, r10⟩ := Take_f x8.wf r9' (by simp [hbl]; omega)
  have htk2 : (tk ((c :: be m N).take m)).2.2 = 3 := by
    cases m with
    | zero => rfl
    | succ m' =>
      rw [List.take_succ_cons]
      simp only [tk]
      rw [if_pos (by rw [hts]; simp; omega)]
  rw [e10, bind2_some, htk2]
  simp only
  obtain ⟨h8, e11, x11⟩ := known1_f x10.wf
  rw [e11, bind2_some]
  have hx8 := ((x8.trans x10).trans x11)
  have r8' : RdB h8 r l := (r8.ex x10).ex x11
  have rl : RdB h8 behind l := (((hr.ex hx14).mono k7).ex hx8)
  simp only [condK_eq, if_true, beq_self_eq_true]
  rw [strT_ok r8', bind2_some]
  simp only
  rw [strT_ok rl, bind2_some]
  simp only [beq_self_eq_true, if_true]
  exact ⟨h8, rfl⟩
end Go.Proofs.Ytejdeibmhlcnbaa.T
