/- Facts about the law WorldKnown's code that the row asks (each decided by the kernel); no condition. -/
import Derived.Test.YtahokmlfnkakiaaGreatRows
import Derived.WalkKit
import Derived.ProofKit
import Derived.OpenShut
import Derived.ShutString
import Derived.ChangeOld
import Derived.Below
import Derived.SizedLaws
set_option maxRecDepth 1000000
namespace Go.Proofs.YtahokmlfnkakiaaGreat.worldKnown
open Go Go.ChangeShapes Go.WideShapes Go.ChangeAt Go.RowKit
theorem closed : joinedFacts Tryz.pinned.checked.prog 6 Tryz.f6 Rows.worldKnownSpec Rows.worldKnownRow = true := by kernel_rfl
theorem named : Tryz.pinned.checked.prog.funcNamed Rows.worldKnownRow.func = some 6 := by kernel_rfl
end Go.Proofs.YtahokmlfnkakiaaGreat.worldKnown
