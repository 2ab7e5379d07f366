/- The law VarintLong over the typed text. -/
import Derived.Test.YthiccnmplgdheaaLVarShort
set_option linter.unusedVariables false
set_option linter.unusedSimpArgs false
namespace Go.Abs
open Go
theorem mkT_ok {e : Nat} {h : H} (w : WF h) {k : Nat} (hk : k ≤ 2 ^ 40) : ∃ h', mkT e 1 1 (.int .u8 0) h (k : Int) (k : Int) = some (⟨some ⟨h.size, 0, some 0⟩, k, k⟩, h') ∧ EX h h' ∧ BufB h' ⟨some ⟨h.size, 0, some 0⟩, k, k⟩ (List.replicate k 0) := by
  have hz : zeros (.int .u8 0) k = vB (List.replicate k 0) := by
    unfold zeros vB
    have : (Value.int .u8 0).cells.toList = [Value.int .u8 0] := rfl
    rw [this, List.map_replicate]
    induction k with
    | zero => rfl
    | succ k ih => rw [List.replicate_succ, List.flatten_cons, ih (by omega), List.replicate_succ]; rfl
  have key : mkSl (DSE e (tyS 1 1 (.int .u8 0))) (e + 1) (.int .i64 (k : Int)) (.int .i64 (k : Int)) = some (.new (row e (vB (List.replicate k 0))) fun A => .slice (some ⟨A, 0, some 0⟩) k k) := by
    unfold mkSl
    rw [elem_DSE]
    have : (decide ((0 : Int) ≤ (k : Int)) && decide ((k : Int) ≤ (k : Int)) && decide ((k : Int) * (((tyS 1 1 (.int .u8 0)).bytes : Nat) + 1) ≤ 2 ^ 46)) = true := by
      have e1 : ((k : Int) * (((tyS 1 1 (.int .u8 0)).bytes : Nat) + 1) ≤ 2 ^ 46) := by
        show (k : Int) * (((1 : Nat) : Int) + 1) ≤ 2 ^ 46
        omega
      rw [decide_eq_true (show (0 : Int) ≤ (k : Int) by omega), decide_eq_true (show (k : Int) ≤ (k : Int) by omega), decide_eq_true e1]; rfl
    simp only [this, cond_true, Int.toNat_natCast]
    rw [← hz]; rfl
  refine ⟨newAt (grow h 1) h.size (row e (vB (List.replicate k 0))), ?_, wf_new w e _, ?_⟩
  · unfold mkT; rw [key]; rfl
  · have := bufB_new w e (List.replicate k 0) (by simp [B63]; omega)
    simpa using this
end Go.Abs
namespace Go.Proofs.Ythiccnmplgdheaa.T
open Go Go.Abs Go.Proofs
theorem val_be : ∀ (m n : Nat), val (n / 256 ^ m) (be m n) = n
  | 0, n => by simp [val, be]
  | m + 1, n => by
    have ih := val_be m n
    have hb : (UInt8.ofNat (n / 256 ^ m)).toNat = n / 256 ^ m % 256 := UInt8.toNat_ofNat'
    have e : n / 256 ^ (m + 1) * 256 + n / 256 ^ m % 256 = n / 256 ^ m := by
      rw [Nat.pow_succ, ← Nat.div_div_eq_div_mul]; omega
    simp only [val, be, List.foldl_cons, hb, e] at ih ⊢
    exact ih
theorem add8 (a b : Nat) (h : a + b < 256) : IntKind.wrap .u8 (((UInt8.ofNat a).toNat : Int) + IntKind.wrap .u8 (IntKind.wrap .i64 (b : Int))) = ((UInt8.ofNat (a + b)).toNat : Int) := by
  rw [UInt8.toNat_ofNat', UInt8.toNat_ofNat', w64 (by omega) (by omega), wu8 (n := (b : Int)) (by omega) (by omega), wu8 (by omega) (by omega)]
  omega
end Go.Proofs.Ythiccnmplgdheaa.T
