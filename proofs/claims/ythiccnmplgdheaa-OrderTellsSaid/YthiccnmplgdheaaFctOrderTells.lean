/- Facts about the law OrderTells's code that the row asks (each decided by the kernel); no condition. -/
import Derived.Test.YthiccnmplgdheaaRows
import Derived.WalkKit
import Derived.ProofKit
import Derived.OpenShut
import Derived.ShutString
import Derived.ChangeOld
import Derived.Below
import Derived.SizedLaws
set_option maxRecDepth 1000000
namespace Go.Proofs.Ythiccnmplgdheaa.orderTells
open Go Go.ChangeShapes Go.WideShapes Go.ChangeAt Go.RowKit
theorem closed : joinedFacts Try.pinned.checked.prog 15 Try.f15 Rows.orderTellsSpec Rows.orderTellsRow = true := by kernel_rfl
theorem named : Try.pinned.checked.prog.funcNamed Rows.orderTellsRow.func = some 15 := by kernel_rfl
end Go.Proofs.Ythiccnmplgdheaa.orderTells
