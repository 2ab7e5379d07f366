/- Facts about the law OutRooms's code that the row asks (each decided by the kernel); no condition. -/
import Derived.Test.YtlikepnpamejmaaGreatRows
import Derived.WalkKit
import Derived.ProofKit
import Derived.OpenShut
import Derived.ShutString
import Derived.ChangeOld
import Derived.Below
import Derived.SizedLaws
set_option maxRecDepth 1000000
namespace Go.Proofs.YtlikepnpamejmaaGreat.outRooms
open Go Go.ChangeShapes Go.WideShapes Go.ChangeAt Go.RowKit
theorem closed : joinedFacts Tryz.pinned.checked.prog 3 Tryz.f3 Rows.outRoomsSpec Rows.outRoomsRow = true := by kernel_rfl
theorem named : Tryz.pinned.checked.prog.funcNamed Rows.outRoomsRow.func = some 3 := by kernel_rfl
end Go.Proofs.YtlikepnpamejmaaGreat.outRooms
