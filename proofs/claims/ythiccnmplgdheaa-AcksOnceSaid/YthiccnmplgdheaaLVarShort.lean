/- The law VarintShortest over the typed text. -/
import Derived.Test.YthiccnmplgdheaaSVar3
set_option linter.unusedVariables false
set_option linter.unusedSimpArgs false
namespace Go.Proofs.Ythiccnmplgdheaa.T
open Go Go.Abs Go.Proofs
theorem sz_cases (x : Int) : sz x = 1 ∨ sz x = 2 ∨ sz x = 4 ∨ sz x = 8 := by unfold sz; (repeat' split) <;> omega
theorem sz_mono {x y : Int} (h : x ≤ y) : sz x ≤ sz y := by unfold sz; (repeat' split) <;> omega
theorem szV_one {x : Int} (h : okN x) : szV [x] = sz x := by
  unfold szV szs szs
  rw [if_pos h]; simp
/-- a row of one number -/
theorem one_new (x : Int) {h : H} (w : WF h) : EX h (newAt (grow h 1) h.size (row 3 [.int .i64 x])) ∧ Buf 1 (newAt (grow h 1) h.size (row 3 [.int .i64 x])) ⟨some ⟨h.size, 0, some 0⟩, 1, 1⟩ ([x].map (.int .i64)) :=
  ⟨wf_new w 3 ([x].map (Value.int .i64)), bufI_new w 3 .i64 [x] (by simp [B63])⟩
theorem tk_sz (l : List UInt8) (hl : (tk l).2.2 = 0) : okN (tk l).1 ∧ sz (tk l).1 ≤ (l.length : Int) - ((tk l).2.1.length : Int) := by
  cases l with
  | nil => simp [tk] at hl
  | cons c t =>
    obtain ⟨e3, s1, s2⟩ := tsz_shl c
    by_cases hsh : t.length + 1 < tsz c
    · simp [tk, hsh] at hl
    · simp only [tk, hsh, if_false]
      have hv := val_lt (t.take (tsz c - 1)) (c.toNat % 64) 64 (by omega)
      have hlt : (t.take (tsz c - 1)).length = tsz c - 1 := by simp; omega
      rw [hlt] at hv
      have hs : tsz c = 1 ∨ tsz c = 2 ∨ tsz c = 4 ∨ tsz c = 8 := by
        unfold tsz
        have hq : c.toNat / 64 < 4 := by have := c.toNat_lt; omega
        generalize c.toNat / 64 = q at hq
        rcases (by omega : q = 0 ∨ q = 1 ∨ q = 2 ∨ q = 3) with rfl | rfl | rfl | rfl <;> decide
      have hd : (t.drop (tsz c - 1)).length = t.length - (tsz c - 1) := by simp
      rw [hd]
      generalize val (c.toNat % 64) (t.take (tsz c - 1)) = v at hv
      have : (64 : Nat) * 256 ^ 0 = 64 ∧ 64 * 256 ^ 1 = 16384 ∧ 64 * 256 ^ 3 = 1073741824 ∧ 64 * 256 ^ 7 = 4611686018427387904 := by decide
      unfold okN sz
      simp only [List.length_cons]
      rcases hs with hs | hs | hs | hs <;> rw [hs] at hv ⊢ hsh <;> simp only [Nat.sub_self, Nat.add_one_sub_one, Nat.reduceSub] at hv ⊢ <;> (refine ⟨by omega, ?_⟩) <;> (repeat' split) <;> omega
end Go.Proofs.Ythiccnmplgdheaa.T
