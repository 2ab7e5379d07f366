/- Facts about the law SendFresh's code that the row asks (each decided by the kernel); no condition. -/
import Derived.Test.YtaebjajbogedkaaRows
import Derived.WalkKit
import Derived.ProofKit
import Derived.OpenShut
import Derived.ShutString
import Derived.ChangeOld
import Derived.Below
import Derived.SizedLaws
import Derived.JoinedCond
set_option maxRecDepth 1000000
namespace Go.Proofs.Ytaebjajbogedkaa.sendFresh
open Go Go.ChangeShapes Go.WideShapes Go.ChangeAt Go.RowKit
theorem closed : joinedFacts Try.pinned.checked.prog 3 Try.f3 Rows.sendFreshSpec Rows.sendFreshUptoRow = true := by kernel_rfl
theorem named : Try.pinned.checked.prog.funcNamed Rows.sendFreshUptoRow.func = some 3 := by kernel_rfl
end Go.Proofs.Ytaebjajbogedkaa.sendFresh
