/- Lemmas about the typed texts (joined: LVarBack LVarNone SSeal1). -/
import Derived.Test.YthiccnmplgdheaaG7
import Derived.Test.YthiccnmplgdheaaG2
import Derived.Test.YthiccnmplgdheaaG3
/- The law VarintBack over the typed text. -/
set_option linter.unusedVariables false
set_option linter.unusedSimpArgs false
namespace Go.Proofs.Ythiccnmplgdheaa.T
open Go Go.Abs Go.Proofs
end Go.Proofs.Ythiccnmplgdheaa.T
/- The law VarintNone over the typed text. -/
set_option linter.unusedVariables false
set_option linter.unusedSimpArgs false
namespace Go.Proofs.Ythiccnmplgdheaa.T
open Go Go.Abs Go.Proofs
end Go.Proofs.Ythiccnmplgdheaa.T
/- Chapter 4's functions over the typed texts: steps, tags. -/
set_option linter.unusedVariables false
set_option linter.unusedSimpArgs false
namespace Go.Proofs.Ythiccnmplgdheaa.T
open Go Go.Abs Go.Proofs
/-- a step, on words of 64 bits -/
def stepB (h c : BitVec 64) : BitVec 64 := ((h <<< 13 ||| h >>> 51) ^^^ c) * 15485907386658061715#64
def stepV (h c : Int) : Int := ((stepB (BitVec.ofInt 64 h) (BitVec.ofInt 64 c)).toNat : Int)
theorem k13 : IntKind.wrap .u64 ((BitVec.toNat ((BitVec.ofInt 64 (IntKind.wrap .u64 13)) &&& (BitVec.ofInt 64 63)) : Nat) : Int) = 13 := by decide +kernel
theorem k51 : IntKind.wrap .u64 (64 - 13) = 51 := by decide +kernel
theorem shl13 (n : Int) : shlT .u64 n .u64 13 = some (IntKind.wrap .u64 (n * 2 ^ 13)) := by
  rw [shlT_ok _ _ _ (by omega), show min (13 : Int).toNat IntKind.u64.bits = 13 by decide]
theorem shr51 (n : Int) : shrT .u64 n .u64 51 = some (n / 2 ^ 51) := by
  rw [shrT_ok _ _ _ (by omega), show min (51 : Int).toNat IntKind.u64.bits = 51 by decide, fdiv_pos _ (by decide)]
theorem bv13 (n : Nat) : BitVec.ofInt 64 (IntKind.wrap .u64 ((n : Int) * 2 ^ 13)) = BitVec.ofInt 64 (n : Int) <<< 13 := by
  apply BitVec.eq_of_toNat_eq
  rw [wu64_mod]
  simp only [BitVec.toNat_shiftLeft, BitVec.ofInt_natCast, BitVec.toNat_ofNat, BitVec.toNat_ofInt, Nat.shiftLeft_eq]
  omega
theorem bv51 (n : Nat) (h : n < 18446744073709551616) : BitVec.ofInt 64 ((n : Int) / 2 ^ 51) = BitVec.ofInt 64 (n : Int) >>> 51 := by
  apply BitVec.eq_of_toNat_eq
  simp only [BitVec.toNat_ushiftRight, BitVec.ofInt_natCast, BitVec.toNat_ofNat, BitVec.toNat_ofInt, Nat.shiftRight_eq_div_pow]
  omega
theorem wbv (z : BitVec 64) : IntKind.wrap .u64 ((z.toNat : Nat) : Int) = (z.toNat : Int) := by
  have hz := z.isLt
  exact wu64 (by omega) (by omega)
theorem rot_f (x : Int) (h0 : 0 ≤ x) (h1 : x < 18446744073709551616) (h : H) : math_bits_RotateLeft64 x 13 h = some (((BitVec.ofInt 64 x <<< 13 ||| BitVec.ofInt 64 x >>> 51).toNat : Int), h) := by
  obtain ⟨n, rfl⟩ : ∃ n : Nat, x = n := ⟨x.toNat, (Int.toNat_of_nonneg h0).symm⟩
  rw [← bv13, ← bv51 n (by omega)]
  unfold math_bits_RotateLeft64
  rw [k13]
  simp only [letO_eq, shl13, bindO_some, k51, shr51, wbv]
theorem Step_f (x c : Int) (h0 : 0 ≤ x) (h1 : x < 18446744073709551616) (h : H) : seal_Step x c h = some (stepV x c, h) := by
  unfold seal_Step P.seal_Step
  rw [rot_f x h0 h1, bind2_some]
  simp only [letO_eq]
  have e : ∀ y : BitVec 64, BitVec.ofInt 64 ((y.toNat : Nat) : Int) = y := by
    intro y
    apply BitVec.eq_of_toNat_eq
    rw [BitVec.ofInt_natCast, BitVec.toNat_ofNat]
    exact Nat.mod_eq_of_lt y.isLt
  rw [e]
  unfold stepV stepB
  generalize (BitVec.ofInt 64 x <<< 13 ||| BitVec.ofInt 64 x >>> 51) ^^^ BitVec.ofInt 64 c = z
  have hz := z.isLt
  rw [wu64 (n := (z.toNat : Int)) (by omega) (by omega), wu64_mod]
  have hm : (z * 15485907386658061715#64).toNat = z.toNat * 15485907386658061715 % 2 ^ 64 := by
    rw [BitVec.toNat_mul]; rfl
  rw [hm]
  congr 2
theorem stepV_rng (x c : Int) : 0 ≤ stepV x c ∧ stepV x c < 18446744073709551616 := by
  unfold stepV
  have := (stepB (BitVec.ofInt 64 x) (BitVec.ofInt 64 c)).isLt
  omega
theorem wrap_ofInt (c : Int) : BitVec.ofInt 64 (IntKind.wrap .u64 c) = BitVec.ofInt 64 c := by
  rw [wu64_mod]
  apply BitVec.eq_of_toNat_eq
  simp only [BitVec.toNat_ofInt]
  omega
theorem stepV_wrap (x c : Int) : stepV x (IntKind.wrap .u64 c) = stepV x c := by unfold stepV; rw [wrap_ofInt]
end Go.Proofs.Ythiccnmplgdheaa.T
