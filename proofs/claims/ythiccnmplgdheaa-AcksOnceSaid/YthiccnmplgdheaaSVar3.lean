/- Chapter 1's functions over the typed texts: a number taken; numbers that may be; the chapter's example. -/
import Derived.Test.YthiccnmplgdheaaSVar2
set_option linter.unusedVariables false
set_option linter.unusedSimpArgs false
namespace Go.Proofs.Ythiccnmplgdheaa.T
open Go Go.Abs Go.Proofs
theorem and63 : ∀ b : Nat, b < 256 → IntKind.wrap .u8 ((BitVec.toNat ((BitVec.ofInt 8 (b : Int)) &&& (BitVec.ofInt 8 63)) : Nat) : Int) = ((b % 64 : Nat) : Int) := by decide +kernel
theorem or64 (n c : Nat) (hn : n < 2 ^ 54) (hc : c < 256) : IntKind.wrap .i64 ((BitVec.toNat ((BitVec.ofInt 64 (IntKind.wrap .i64 ((n : Int) * 256))) ||| (BitVec.ofInt 64 (IntKind.wrap .i64 (c : Int)))) : Nat) : Int) = ((n * 256 + c : Nat) : Int) := by
  rw [w64 (n := (n : Int) * 256) (by omega) (by omega), w64 (n := (c : Int)) (by omega) (by omega)]
  have e1 : BitVec.ofInt 64 ((n : Int) * 256) = BitVec.ofNat 64 (n * 256) := by
    rw [show (n : Int) * 256 = ((n * 256 : Nat) : Int) by omega]; exact BitVec.ofInt_natCast _ _
  have e2 : BitVec.ofInt 64 (c : Int) = BitVec.ofNat 64 c := BitVec.ofInt_natCast _ _
  rw [e1, e2, BitVec.toNat_or, BitVec.toNat_ofNat, BitVec.toNat_ofNat, Nat.mod_eq_of_lt (by omega), Nat.mod_eq_of_lt (by omega)]
  have e3 : n * 256 ||| c = n * 256 + c := by
    have := Nat.shiftLeft_add_eq_or_of_lt (show c < 2 ^ 8 by omega) n
    rw [Nat.shiftLeft_eq] at this
    exact this.symm
  rw [e3, w64 (by omega) (by omega)]
def val (n : Nat) (l : List UInt8) : Nat := l.foldl (fun n c => n * 256 + c.toNat) n
theorem val_lt : ∀ (l : List UInt8) (n B : Nat), n < B → val n l < B * 256 ^ l.length
  | [], n, B, h => by simpa [val] using h
  | c :: l, n, B, h => by
    have hc := c.toNat_lt
    have := val_lt l (n * 256 + c.toNat) (B * 256) (by omega)
    simp only [val, List.foldl_cons, List.length_cons, Nat.pow_succ] at this ⊢
    rw [Nat.mul_assoc, Nat.mul_comm 256] at this
    exact this
def tsz (b : UInt8) : Nat := 2 ^ (b.toNat / 64)
def tk : List UInt8 → Int × List UInt8 × Int
  | [] => (0, [], 3)
  | b :: t => if t.length + 1 < tsz b then (0, [], 3) else ((val (b.toNat % 64) (t.take (tsz b - 1)) : Nat), t.drop (tsz b - 1), 0)
theorem tsz_shl (b : UInt8) : shlT .i64 1 .u8 (Int.fdiv (b.toNat : Int) 64) = some (tsz b : Int) ∧ 1 ≤ tsz b ∧ tsz b ≤ 8 := by
  have hb := b.toNat_lt
  have e : Int.fdiv (b.toNat : Int) 64 = ((b.toNat / 64 : Nat) : Int) := by rw [fdiv_pos _ (by omega)]; omega
  rw [e]
  unfold tsz
  have hq : b.toNat / 64 < 4 := by omega
  generalize b.toNat / 64 = q at hq
  rcases (by omega : q = 0 ∨ q = 1 ∨ q = 2 ∨ q = 3) with rfl | rfl | rfl | rfl <;> exact ⟨rfl, by decide, by decide⟩
/-! numbers that may be -/
def numV (n : Int) : Int :=
  if n % 9 = 0 then 64 + (IntKind.wrap .i64 (n.tdiv 9) % 3 - 1) else if n % 9 = 1 then 16384 + (IntKind.wrap .i64 (n.tdiv 9) % 3 - 1) else if n % 9 = 2 then 1073741824 + (IntKind.wrap .i64 (n.tdiv 9) % 3 - 1)
  else if n % 9 = 3 then 4611686018427387903 + (IntKind.wrap .i64 (n.tdiv 9) % 3 - 1) else if n % 9 = 4 then n else IntKind.wrap .i64 (n.tdiv 9) % 500
def mayV (n : Int) : Int := if okN (numV n) then numV n else n % 1048576
theorem mayV_ok (n : Int) : okN (mayV n) := by
  unfold mayV
  split
  · assumption
  · have h3 := Int.emod_nonneg n (show (1048576 : Int) ≠ 0 by omega)
    have h3' := Int.emod_lt_of_pos n (show (0 : Int) < 1048576 by omega)
    unfold okN; omega
/-! the chapter's example -/
theorem bs_eq (a b : List UInt8) : ((bsOf a).toList == (bsOf b).toList) = decide (a = b) := by
  rw [ByteArray.toList_eq, ByteArray.toList_eq, bsOf_toList, bsOf_toList]
  by_cases e : a = b
  · simp [e]
  · simp [e]
end Go.Proofs.Ythiccnmplgdheaa.T
