/- Facts about the law OrderEarliest's code that the row asks (each decided by the kernel); no condition. -/
import Derived.Test.YthiccnmplgdheaaRows
import Derived.WalkKit
import Derived.ProofKit
import Derived.OpenShut
import Derived.ShutString
import Derived.ChangeOld
import Derived.Below
import Derived.SizedLaws
set_option maxRecDepth 1000000
namespace Go.Proofs.Ythiccnmplgdheaa.orderEarliest
open Go Go.ChangeShapes Go.WideShapes Go.ChangeAt Go.RowKit
theorem closed : joinedFacts Try.pinned.checked.prog 16 Try.f16 Rows.orderEarliestSpec Rows.orderEarliestRow = true := by kernel_rfl
theorem named : Try.pinned.checked.prog.funcNamed Rows.orderEarliestRow.func = some 16 := by kernel_rfl
end Go.Proofs.Ythiccnmplgdheaa.orderEarliest
