/- Facts about the law SendAll's code that the row asks (each decided by the kernel); no condition. -/
import Derived.Test.YtaebjajbogedkaaRows
import Derived.WalkKit
import Derived.ProofKit
import Derived.OpenShut
import Derived.ShutString
import Derived.ChangeOld
import Derived.Below
import Derived.SizedLaws
set_option maxRecDepth 1000000
namespace Go.Proofs.Ytaebjajbogedkaa.sendAll
open Go Go.ChangeShapes Go.WideShapes Go.ChangeAt Go.RowKit
theorem closed : joinedFacts Try.pinned.checked.prog 4 Try.f4 Rows.sendAllSpec Rows.sendAllRow = true := by kernel_rfl
theorem named : Try.pinned.checked.prog.funcNamed Rows.sendAllRow.func = some 4 := by kernel_rfl
end Go.Proofs.Ytaebjajbogedkaa.sendAll
