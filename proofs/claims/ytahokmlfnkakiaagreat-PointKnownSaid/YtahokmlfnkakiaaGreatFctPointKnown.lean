/- Facts about the law PointKnown's code that the row asks (each decided by the kernel); no condition. -/
import Derived.Test.YtahokmlfnkakiaaGreatRows
import Derived.WalkKit
import Derived.ProofKit
import Derived.OpenShut
import Derived.ShutString
import Derived.ChangeOld
import Derived.Below
import Derived.SizedLaws
set_option maxRecDepth 1000000
namespace Go.Proofs.YtahokmlfnkakiaaGreat.pointKnown
open Go Go.ChangeShapes Go.WideShapes Go.ChangeAt Go.RowKit
theorem closed : joinedFacts Tryz.pinned.checked.prog 5 Tryz.f5 Rows.pointKnownSpec Rows.pointKnownRow = true := by kernel_rfl
theorem named : Tryz.pinned.checked.prog.funcNamed Rows.pointKnownRow.func = some 5 := by kernel_rfl
end Go.Proofs.YtahokmlfnkakiaaGreat.pointKnown
