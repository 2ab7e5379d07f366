/- Facts about the law PacketTells's code that the row asks (each decided by the kernel); no condition. -/
import Derived.Test.YthiccnmplgdheaaRows
import Derived.WalkKit
import Derived.ProofKit
import Derived.OpenShut
import Derived.ShutString
import Derived.ChangeOld
import Derived.Below
import Derived.SizedLaws
set_option maxRecDepth 1000000
namespace Go.Proofs.Ythiccnmplgdheaa.packetTells
open Go Go.ChangeShapes Go.WideShapes Go.ChangeAt Go.RowKit
theorem closed : joinedFacts Try.pinned.checked.prog 18 Try.f18 Rows.packetTellsSpec Rows.packetTellsRow = true := by kernel_rfl
theorem named : Try.pinned.checked.prog.funcNamed Rows.packetTellsRow.func = some 18 := by kernel_rfl
end Go.Proofs.Ythiccnmplgdheaa.packetTells
