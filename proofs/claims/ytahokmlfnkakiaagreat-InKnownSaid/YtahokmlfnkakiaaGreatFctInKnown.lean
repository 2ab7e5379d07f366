/- Facts about the law InKnown's code that the row asks (each decided by the kernel); no condition. -/
import Derived.Test.YtahokmlfnkakiaaGreatRows
import Derived.WalkKit
import Derived.ProofKit
import Derived.OpenShut
import Derived.ShutString
import Derived.ChangeOld
import Derived.Below
import Derived.SizedLaws
set_option maxRecDepth 1000000
namespace Go.Proofs.YtahokmlfnkakiaaGreat.inKnown
open Go Go.ChangeShapes Go.WideShapes Go.ChangeAt Go.RowKit
theorem closed : joinedFacts Tryz.pinned.checked.prog 4 Tryz.f4 Rows.inKnownSpec Rows.inKnownRow = true := by kernel_rfl
theorem named : Tryz.pinned.checked.prog.funcNamed Rows.inKnownRow.func = some 4 := by kernel_rfl
end Go.Proofs.YtahokmlfnkakiaaGreat.inKnown
