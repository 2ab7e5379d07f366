/- Chapter 1's functions over the typed texts: kinds, sizes, bytes. -/
import Derived.Test.YthiccnmplgdheaaSPnum
import Derived.Test.YthiccnmplgdheaaS4
set_option linter.unusedVariables false
set_option linter.unusedSimpArgs false
namespace Go.Proofs.Ythiccnmplgdheaa.T
open Go Go.Abs Go.Proofs
def tt (x : Nat) : Nat := if x < 1 then 0 else if x < 2 then 1 else if x < 4 then 2 else if x < 8 then 3 else if x < 16 then 4 else if x < 32 then 5 else if x < 64 then 6 else if x < 128 then 7 else 8
def tbl : ByteArray := ⟨#[0, 1, 2, 2, 3, 3, 3, 3, 4, 4, 4, 4, 4, 4, 4, 4, 5, 5, 5, 5, 5, 5, 5, 5, 5, 5, 5, 5, 5, 5, 5, 5, 6, 6, 6, 6, 6, 6, 6, 6, 6, 6, 6, 6, 6, 6, 6, 6, 6, 6, 6, 6, 6, 6, 6, 6, 6, 6, 6, 6, 6, 6, 6, 6, 7, 7, 7, 7, 7, 7, 7, 7, 7, 7, 7, 7, 7, 7, 7, 7, 7, 7, 7, 7, 7, 7, 7, 7, 7, 7, 7, 7, 7, 7, 7, 7, 7, 7, 7, 7, 7, 7, 7, 7, 7, 7, 7, 7, 7, 7, 7, 7, 7, 7, 7, 7, 7, 7, 7, 7, 7, 7, 7, 7, 7, 7, 7, 7, 8, 8, 8, 8, 8, 8, 8, 8, 8, 8, 8, 8, 8, 8, 8, 8, 8, 8, 8, 8, 8, 8, 8, 8, 8, 8, 8, 8, 8, 8, 8, 8, 8, 8, 8, 8, 8, 8, 8, 8, 8, 8, 8, 8, 8, 8, 8, 8, 8, 8, 8, 8, 8, 8, 8, 8, 8, 8, 8, 8, 8, 8, 8, 8, 8, 8, 8, 8, 8, 8, 8, 8, 8, 8, 8, 8, 8, 8, 8, 8, 8, 8, 8, 8, 8, 8, 8, 8, 8, 8, 8, 8, 8, 8, 8, 8, 8, 8, 8, 8, 8, 8, 8, 8, 8, 8, 8, 8, 8, 8, 8, 8, 8, 8, 8, 8, 8, 8, 8, 8, 8, 8, 8, 8, 8, 8, 8, 8]⟩
theorem tbl_all : ∀ x : Nat, x < 256 → ixST tbl (x : Int) = some (tt x : Int) := by decide +kernel
theorem tbl_at {x : Int} (h0 : 0 ≤ x) (h1 : x < 256) : ixST tbl x = some (tt x.toNat : Int) := by
  have := tbl_all x.toNat (by omega)
  rwa [Int.toNat_of_nonneg h0] at this
theorem fdiv_pos (a : Int) {b : Int} (hb : 0 ≤ b) : Int.fdiv a b = a / b := Int.fdiv_eq_ediv_of_nonneg a hb
/-- how many bits a number has, as far as the kinds ask -/
theorem sh_step (c d x n : Int) (hc : 0 < c) (hd : 0 ≤ d) (hd2 : d ≤ 32) (hn : 0 ≤ n) (hn2 : n ≤ 64) (h0 : 0 ≤ x) {α : Type} (h : H) : ∃ y m, condK (decide (x ≥ c)) (some (Sum.inl (((Int.fdiv x c, IntKind.wrap .i64 (n + d))), h))) (some (Sum.inl ((x, n), h))) = (some (Sum.inl ((y, m), h)) : Option (((Int × Int) × H) ⊕ α)) ∧ ((m = n ∧ y = x ∧ x < c) ∨ (m = n + d ∧ y = x / c ∧ c ≤ x)) := by
  by_cases g : x ≥ c
  · refine ⟨x / c, n + d, ?_, .inr ⟨rfl, rfl, g⟩⟩
    rw [fdiv_pos x (by omega), w64 (by omega) (by omega), condK_eq, decide_eq_true g]; rfl
  · refine ⟨x, n, ?_, .inl ⟨rfl, rfl, by omega⟩⟩
    rw [condK_eq, decide_eq_false g]; rfl
set_option maxRecDepth 100000 in
def kd (n : Int) : Int := if n < 0 then -1 else if n > 4611686018427387903 then -1 else if n < 64 then 0 else if n < 16384 then 1 else if n < 1073741824 then 2 else 3
end Go.Proofs.Ythiccnmplgdheaa.T
