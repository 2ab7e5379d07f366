/- Facts about the law HeadTells's code that the row asks (each decided by the kernel); no condition. -/
import Derived.Test.YthiccnmplgdheaaRows
import Derived.WalkKit
import Derived.ProofKit
import Derived.OpenShut
import Derived.ShutString
import Derived.ChangeOld
import Derived.Below
import Derived.SizedLaws
import Derived.JoinedCond
set_option maxRecDepth 1000000
namespace Go.Proofs.Ythiccnmplgdheaa.headTells
open Go Go.ChangeShapes Go.WideShapes Go.ChangeAt Go.RowKit
theorem closed : joinedFacts Try.pinned.checked.prog 7 Try.f7 Rows.headTellsSpec Rows.headTellsUptoRow = true := by kernel_rfl
theorem named : Try.pinned.checked.prog.funcNamed Rows.headTellsUptoRow.func = some 7 := by kernel_rfl
end Go.Proofs.Ythiccnmplgdheaa.headTells
