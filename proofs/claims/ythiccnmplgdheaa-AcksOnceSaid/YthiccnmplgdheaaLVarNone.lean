/- The law VarintNone over the typed text. -/
import Derived.Test.YthiccnmplgdheaaLVarBack
import Derived.Test.YthiccnmplgdheaaS6
set_option linter.unusedVariables false
set_option linter.unusedSimpArgs false
namespace Go.Proofs.Ythiccnmplgdheaa.T
open Go Go.Abs Go.Proofs
theorem tks_more : ∀ (ns : List Int) (j : Nat), (∀ x ∈ ns, okN x) → tks (ns.length + (j + 1)) (encs ns) = none
  | [], j, _ => by
    rw [show ([] : List Int).length + (j + 1) = j + 1 by simp]
    rfl
  | x :: ns, j, h => by
    have hx := tk_enc (h x (List.mem_cons_self ..)) (encs ns)
    have ih := tks_more ns j (fun y hy => h y (List.mem_cons_of_mem _ hy))
    rw [show (x :: ns).length + (j + 1) = (ns.length + (j + 1)) + 1 by simp; omega]
    show (if _ then _ else _) = _
    rw [show encs (x :: ns) = enc x ++ encs ns from rfl, hx, if_pos rfl, ih]; rfl
theorem szs_bad : ∀ (ns : List Int), (∃ x ∈ ns, ¬ okN x) → szs ns = none
  | [], ⟨x, hx, _⟩ => by simp at hx
  | y :: ns, ⟨x, hx, hn⟩ => by
    unfold szs
    by_cases hy : okN y
    · rw [if_pos hy]
      rw [List.mem_cons] at hx
      rcases hx with rfl | hx
      · exact absurd hy hn
      · rw [szs_bad ns ⟨x, hx, hn⟩]; rfl
    · rw [if_neg hy]
end Go.Proofs.Ythiccnmplgdheaa.T
