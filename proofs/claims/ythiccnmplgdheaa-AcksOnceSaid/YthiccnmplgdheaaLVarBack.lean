/- The law VarintBack over the typed text. -/
import Derived.Test.YthiccnmplgdheaaSVar4
set_option linter.unusedVariables false
set_option linter.unusedSimpArgs false
namespace Go.Proofs.Ythiccnmplgdheaa.T
open Go Go.Abs Go.Proofs
theorem szV_encs : ∀ (ns : List Int), (∀ x ∈ ns, okN x) → szs ns = some ((encs ns).length : Int)
  | [], _ => rfl
  | x :: ns, h => by
    have ih := szV_encs ns (fun y hy => h y (List.mem_cons_of_mem _ hy))
    have hx := h x (List.mem_cons_self ..)
    have hs := sz_pos x
    have he := enc_length x
    unfold szs
    rw [if_pos hx, ih]
    simp only [Option.map_some, encs, List.length_append, Option.some.injEq]
    omega
theorem encs_append : ∀ (a b : List Int), encs (a ++ b) = encs a ++ encs b
  | [], b => rfl
  | x :: a, b => by simp [encs, encs_append a b]
end Go.Proofs.Ythiccnmplgdheaa.T
