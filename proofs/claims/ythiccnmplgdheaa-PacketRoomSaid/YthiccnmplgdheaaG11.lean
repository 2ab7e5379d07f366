/- Lemmas about the typed texts (joined: LSealWays LSealApart LSealBack). -/
import Derived.Test.YthiccnmplgdheaaG10
import Derived.Test.YthiccnmplgdheaaG5
/- The laws SealWays and SealParts over the typed texts. -/
set_option linter.unusedVariables false
set_option linter.unusedSimpArgs false
namespace Go.Proofs.Ythiccnmplgdheaa.T
open Go Go.Abs Go.Proofs
end Go.Proofs.Ythiccnmplgdheaa.T
/- The law SealApart over the typed texts (where the two bodies together are no longer than the machine's append takes). -/
set_option linter.unusedVariables false
set_option linter.unusedSimpArgs false
namespace Go.Proofs.Ythiccnmplgdheaa.T
open Go Go.Abs Go.Proofs
end Go.Proofs.Ythiccnmplgdheaa.T
/- The law SealBack over the typed texts. -/
set_option linter.unusedVariables false
set_option linter.unusedSimpArgs false
namespace Go.Proofs.Ythiccnmplgdheaa.T
open Go Go.Abs Go.Proofs
/-! one byte that is another one -/
end Go.Proofs.Ythiccnmplgdheaa.T
