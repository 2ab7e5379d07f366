/- Lemmas about the typed texts (joined: LVarBack LVarNone SSeal1). -/
import Derived.Test.YtaebjajbogedkaaG8
import Derived.Test.YtaebjajbogedkaaG2
import Derived.Test.YtaebjajbogedkaaG3
/- The law VarintBack over the typed text. -/
set_option linter.unusedVariables false
set_option linter.unusedSimpArgs false
namespace Go.Proofs.Ytaebjajbogedkaa.T
open Go Go.Abs Go.Proofs
theorem szV_encs : ∀ (ns : List Int), (∀ x ∈ ns, okN x) → szs ns = some ((encs ns).length : Int)
  | [], _ => rfl
  | x :: ns, h => by
    have ih := szV_encs ns (fun y hy => h y (List.mem_cons_of_mem _ hy))
    have hx := h x (List.mem_cons_self ..)
    have hs := sz_pos x
    have he := enc_length x
    unfold szs
    rw [if_pos hx, ih]
    simp only [Option.map_some, encs, List.length_append, Option.some.injEq]
    omega
theorem encs_append : ∀ (a b : List Int), encs (a ++ b) = encs a ++ encs b
  | [], b => rfl
  | x :: a, b => by simp [encs, encs_append a b]
end Go.Proofs.Ytaebjajbogedkaa.T
/- The law VarintNone over the typed text. -/
set_option linter.unusedVariables false
set_option linter.unusedSimpArgs false
namespace Go.Proofs.Ytaebjajbogedkaa.T
open Go Go.Abs Go.Proofs
theorem tks_more : ∀ (ns : List Int) (j : Nat), (∀ x ∈ ns, okN x) → tks (ns.length + (j + 1)) (encs ns) = none
  | [], j, _ => by
    rw [show ([] : List Int).length + (j + 1) = j + 1 by simp]
    rfl
  | x :: ns, j, h => by
    have hx := tk_enc (h x (List.mem_cons_self ..)) (encs ns)
    have ih := tks_more ns j (fun y hy => h y (List.mem_cons_of_mem _ hy))
    rw [show (x :: ns).length + (j + 1) = (ns.length + (j + 1)) + 1 by simp; omega]
    show (if _ then _ else _) = _
    rw [show encs (x :: ns) = enc x ++ encs ns from rfl, hx, if_pos rfl, ih]; rfl
theorem szs_bad : ∀ (ns : List Int), (∃ x ∈ ns, ¬ okN x) → szs ns = none
  | [], ⟨x, hx, _⟩ => by simp at hx
  | y :: ns, ⟨x, hx, hn⟩ => by
    unfold szs
    by_cases hy : okN y
    · rw [if_pos hy]
      rw [List.mem_cons] at hx
      rcases hx with rfl | hx
      · exact absurd hy hn
      · rw [szs_bad ns ⟨x, hx, hn⟩]; rfl
    · rw [if_neg hy]
end Go.Proofs.Ytaebjajbogedkaa.T
/- Chapter 4's functions over the typed texts: steps, tags. -/
set_option linter.unusedVariables false
set_option linter.unusedSimpArgs false
namespace Go.Proofs.Ytaebjajbogedkaa.T
open Go Go.Abs Go.Proofs
/-- a step, on words of 64 bits -/
def stepB (h c : BitVec 64) : BitVec 64 := ((h <<< 13 ||| h >>> 51) ^^^ c) * 15485907386658061715#64
def stepV (h c : Int) : Int := ((stepB (BitVec.ofInt 64 h) (BitVec.ofInt 64 c)).toNat : Int)
theorem k13 : IntKind.wrap .u64 ((BitVec.toNat ((BitVec.ofInt 64 (IntKind.wrap .u64 13)) &&& (BitVec.ofInt 64 63)) : Nat) : Int) = 13 := by decide +kernel
theorem k51 : IntKind.wrap .u64 (64 - 13) = 51 := by decide +kernel
theorem shl13 (n : Int) : shlT .u64 n .u64 13 = some (IntKind.wrap .u64 (n * 2 ^ 13)) := by
  rw [shlT_ok _ _ _ (by omega), show min (13 : Int).toNat IntKind.u64.bits = 13 by decide]
theorem shr51 (n : Int) : shrT .u64 n .u64 51 = some (n / 2 ^ 51) := by
  rw [shrT_ok _ _ _ (by omega), show min (51 : Int).toNat IntKind.u64.bits = 51 by decide, fdiv_pos _ (by decide)]
theorem bv13 (n : Nat) : BitVec.ofInt 64 (IntKind.wrap .u64 ((n : Int) * 2 ^ 13)) = BitVec.ofInt 64 (n : Int) <<< 13 := by
  apply BitVec.eq_of_toNat_eq
  rw [wu64_mod]
  simp only [BitVec.toNat_shiftLeft, BitVec.ofInt_natCast, BitVec.toNat_ofNat, BitVec.toNat_ofInt, Nat.shiftLeft_eq]
  omega
theorem bv51 (n : Nat) (h : n < 18446744073709551616) : BitVec.ofInt 64 ((n : Int) / 2 ^ 51) = BitVec.ofInt 64 (n : Int) >>> 51 := by
  apply BitVec.eq_of_toNat_eq
  simp only [BitVec.toNat_ushiftRight, BitVec.ofInt_natCast, BitVec.toNat_ofNat, BitVec.toNat_ofInt, Nat.shiftRight_eq_div_pow]
  omega
theorem wbv (z : BitVec 64) : IntKind.wrap .u64 ((z.toNat : Nat) : Int) = (z.toNat : Int) := by
  have hz := z.isLt
  exact wu64 (by omega) (by omega)
theorem stepV_rng (x c : Int) : 0 ≤ stepV x c ∧ stepV x c < 18446744073709551616 := by
  unfold stepV
  have := (stepB (BitVec.ofInt 64 x) (BitVec.ofInt 64 c)).isLt
  omega
theorem wrap_ofInt (c : Int) : BitVec.ofInt 64 (IntKind.wrap .u64 c) = BitVec.ofInt 64 c := by
  rw [wu64_mod]
  apply BitVec.eq_of_toNat_eq
  simp only [BitVec.toNat_ofInt]
  omega
theorem stepV_wrap (x c : Int) : stepV x (IntKind.wrap .u64 c) = stepV x c := by unfold stepV; rw [wrap_ofInt]
end Go.Proofs.Ytaebjajbogedkaa.T
