/- The law VarintShortest over the typed text. -/
import Derived.Test.YtejdeibmhlcnbaaSVar3
set_option linter.unusedVariables false
set_option linter.unusedSimpArgs false
namespace Go.Proofs.Ytejdeibmhlcnbaa.T
open Go Go.Abs Go.Proofs
theorem sz_cases (x : Int) : sz x = 1 ∨ sz x = 2 ∨ sz x = 4 ∨ sz x = 8 := by unfold sz; (repeat' split) <;> omega
theorem sz_mono {x y : Int} (h : x ≤ y) : sz x ≤ sz y := by unfold sz; (repeat' split) <;> omega
theorem szV_one {x : Int} (h : okN x) : szV [x] = sz x := by
  unfold szV szs szs
  rw [if_pos h]; simp
/-- a row of one number -/
theorem one_new (x : Int) {h : H} (w : WF h) : EX h (newAt (grow h 1) h.size (row 3 [.int .i64 x])) ∧ Buf 1 (newAt (grow h 1) h.size (row 3 [.int .i64 x])) ⟨some ⟨h.size, 0, some 0⟩, 1, 1⟩ ([x].map (.int .i64)) :=
  ⟨wf_new w 3 ([x].map (Value.int .i64)), bufI_new w 3 .i64 [x] (by simp [B63])⟩
theorem tk_sz (l : List UInt8) (hl : (tk l).2.2 = 0) : okN (tk l).1 ∧ sz (tk l).1 ≤ (l.length : Int) - ((tk l).2.1.length : Int) := by
  cases l with
  | nil => simp [tk] at hl
  | cons c t =>
    obtain ⟨e3, s1, s2⟩ := tsz_shl c
    by_cases hsh : t.length + 1 < tsz c
    · simp [tk, hsh] at hl
    · simp only [tk, hsh, if_false]
      have hv := val_lt (t.take (tsz c - 1)) (c.toNat % 64) 64 (by omega)
      have hlt : (t.take (tsz c - 1)).length = tsz c - 1 := by simp; omega
      rw [hlt] at hv
      have hs : tsz c = 1 ∨ tsz c = 2 ∨ tsz c = 4 ∨ tsz c = 8 := by
        unfold tsz
        have hq : c.toNat / 64 < 4 := by have := c.toNat_lt; omega
        generalize c.toNat / 64 = q at hq
        rcases (by omega : q = 0 ∨ q = 1 ∨ q = 2 ∨ q = 3) with rfl | rfl | rfl | rfl <;> decide
      have hd : (t.drop (tsz c - 1)).length = t.length - (tsz c - 1) := by simp
      rw [hd]
      generalize val (c.toNat % 64) (t.take (tsz c - 1)) = v at hv
      have : (64 : Nat) * 256 ^ 0 = 64 ∧ 64 * 256 ^ 1 = 16384 ∧ 64 * 256 ^ 3 = 1073741824 ∧ 64 * 256 ^ 7 = 4611686018427387904 := by decide
      unfold okN sz
      simp only [List.length_cons]
      rcases hs with hs | hs | hs | hs <;> rw [hs] at hv ⊢ hsh <;> simp only [Nat.sub_self, Nat.add_one_sub_one, Nat.reduceSub] at hv ⊢ <;> (refine ⟨by omega, ?_⟩) <;> (repeat' split) <;> omega
theorem VarintShortest (n m : Int) (b : Sl) (h : H) (w : WF h) (_ : -9223372036854775808 ≤ n ∧ n ≤ 9223372036854775807) (_ : -9223372036854775808 ≤ m ∧ m ≤ 9223372036854775807) (l : List UInt8) (hr : RdB h b l) (hl : l.length ≤ 140737488351232) : ∃ h', law1_VarintShortest n m b h = some (true, h') := by
  unfold law1_VarintShortest P.law1_VarintShortest
  rw [May_f, bind2_some, May_f, bind2_some]
  simp only
  have ok1 := mayV_ok n
  have ok2 := mayV_ok m
  generalize mayV n = x at *
  generalize mayV m = y at *
  rw [newO_eq]
  obtain ⟨x1, b1⟩ := one_new x w
  generalize newAt (grow h 1) h.size (row 3 [.int .i64 x]) = h1 at x1 b1 ⊢
  rw [Size_f (zs := [x]) b1.rd (by simp), bind2_some, szV_one ok1]
  simp only
  rw [newO_eq]
  obtain ⟨x2, b2⟩ := one_new y x1.wf
  generalize newAt (grow h1 1) h1.size (row 3 [.int .i64 y]) = h2 at x2 b2 ⊢
  rw [Size_f (zs := [y]) b2.rd (by simp), bind2_some, szV_one ok2]
  simp only
  have hx2 := x1.trans x2
  have hput : ∃ s h4, varint_Put ⟨none, 0, 0⟩ ⟨some ⟨h2.size, 0, some 0⟩, 1, 1⟩ (newAt (grow h2 1) h2.size (row 3 [.int .i64 x])) = some (s, h4) ∧ EX h2 h4 ∧ s.len = (sz x).toNat := by
    obtain ⟨x3, b3⟩ := one_new x x2.wf
    obtain ⟨s', h4, e4, x4, r4, _⟩ := Put_f (l := []) (zs := [x]) x3.wf (rd_nil 1 _) b3.rd (by simp) (by simpa using ok1)
    refine ⟨s', h4, e4, x3.trans x4, ?_⟩
    rw [r4.len]; simp [encs, enc_length]
  obtain ⟨s4, h4, e4, x4, l4⟩ := hput
  have hs1 := sz_pos x
  have fin : ∃ h', (condK false (some (false, h4)) (bind2 (varint_Take b h4) fun ((x5, x6, x7) : Int × Sl × Int) (h7 : H) =>
    bind2 (law1_known h7) fun (x8 : Bool) (h8 : H) =>
    condK x8 (
      condK (x7 != 0) (
        some (true, h8)) (
        newO (row 3 [(.int .i64 x5)]) h8 fun (b4 : Nat) (h9 : H) =>
        bind2 (varint_Size (⟨(some (⟨b4, 0, (some 0)⟩ : Addr)), 1, 1⟩ : Sl) h9) fun (x9 : Int) (h10 : H) =>
        letO ((decide ((x9 ≤ (IntKind.wrap .i64 (((b.len : Nat) : Int) - ((x6.len : Nat) : Int))))))) fun (x10 : Bool) =>
        some (x10, h10))) (
      some (false, h8)))) = some (true, h') := by
    have hx4 := hx2.trans x4
    obtain ⟨r, h5, e5, x5, r5⟩ := Take_f hx4.wf (hr.ex hx4) (by omega)
    rw [e5, condK_eq, if_neg (by simp), bind2_some]
    simp only
    obtain ⟨h6, e6, x6⟩ := known1_f x5.wf
    rw [e6, bind2_some, condK_eq, if_pos rfl]
    by_cases hk : (tk l).2.2 = 0
    · obtain ⟨k1, k2⟩ := tk_sz l hk
      rw [hk, condK_eq, if_neg (by decide)]
      rw [newO_eq]
      obtain ⟨x7, b7⟩ := one_new (tk l).1 x6.wf
      generalize newAt (grow h6 1) h6.size (row 3 [.int .i64 (tk l).1]) = h7 at x7 b7 ⊢
      rw [Size_f (zs := [(tk l).1]) b7.rd (by simp), bind2_some, szV_one k1, letO_eq, hr.len, r5.len]
      have := (tk l).2.1.length
      refine ⟨h7, ?_⟩
      have hle : (tk l).2.1.length ≤ l.length := by
        have := sz_pos (tk l).1; omega
      rw [w64 (by omega) (by omega), decide_eq_true k2]
    · have : ((tk l).2.2 != 0) = true := by simp [hk]
      rw [condK_eq, if_pos this]
      exact ⟨_, rfl⟩
  have hne : (((s4.len : Nat) : Int) != sz x) = false := by rw [l4]; simp; omega
  have hmono := fun hxy : x ≤ y => sz_mono hxy
  have step : ∀ X : Option (((Sl × Bool) × H) ⊕ (Bool × H)), X = some (Sum.inl ((b, false), h4)) → ∃ h', joinO X (fun q : ((Sl × Bool) × H) => match q with
    | ((b3, x4), h6) => condK x4 (some (false, h6)) (bind2 (varint_Take b3 h6) fun ((x5, x6, x7) : Int × Sl × Int) (h7 : H) =>
    bind2 (law1_known h7) fun (x8 : Bool) (h8 : H) =>
    condK x8 (
      condK (x7 != 0) (
        some (true, h8)) (
        newO (row 3 [(.int .i64 x5)]) h8 fun (b4 : Nat) (h9 : H) =>
        bind2 (varint_Size (⟨(some (⟨b4, 0, (some 0)⟩ : Addr)), 1, 1⟩ : Sl) h9) fun (x9 : Int) (h10 : H) =>
        letO ((decide ((x9 ≤ (IntKind.wrap .i64 (((b3.len : Nat) : Int) - ((x6.len : Nat) : Int))))))) fun (x10 : Bool) =>
        some (x10, h10))) (
      some (false, h8)))) = some (true, h') := by
    intro X hX
    rw [hX]
    exact fin
  apply step
  simp only [newO_eq, e4, bind2_some, hne, condK_eq]
  by_cases hxy : x ≤ y
  · have := hmono hxy
    simp only [hxy, decide_true, if_true, decide_eq_false (show ¬ sz x > sz y by omega), Bool.false_eq_true, if_false]
    rcases sz_cases x with hs | hs | hs | hs <;> rw [hs] <;> rfl
  · simp only [hxy, decide_false, Bool.false_eq_true, if_false]
    rcases sz_cases x with hs | hs | hs | hs <;> rw [hs] <;> rfl
end Go.Proofs.Ytejdeibmhlcnbaa.T
