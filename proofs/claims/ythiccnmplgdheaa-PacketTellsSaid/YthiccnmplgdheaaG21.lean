/- Lemmas about the typed texts (joined: SRR3 LFrame1 LFrame2). -/
import Derived.Test.YthiccnmplgdheaaG20
set_option linter.unusedVariables false
set_option linter.unusedSimpArgs false
namespace Go.Proofs.Ythiccnmplgdheaa.T
open Go Go.Abs Go.Proofs
def kv1 : FV := ⟨1, 0, 0, 0, 0, 0, false, [], []⟩
theorem szok_of {vs : List FV} (h : ∀ v ∈ vs, FR v) : SzOK vs := fun v hv => by
  have h1 := (h v hv).1.2.2.2
  refine ⟨by omega, ?_⟩
  have hs := (h v hv).1.2.1.2.2.2.2.2.2.2
  by_cases h2 : v.kind = 2
  · have := (h v hv).2
    unfold FR1 at this
    rw [if_pos h2] at this
    have := this.2.2
    omega
  · have : v.spans = [] := by
      rw [hs]
      unfold bareV
      rw [if_neg h2]
      (repeat' split) <;> rfl
    rw [this]; simp
end Go.Proofs.Ythiccnmplgdheaa.T
