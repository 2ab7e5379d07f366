/- A closed law's run, its calls taken as they were seen. -/
import Derived.Test.YtahokmlfnkakiaaGreatK3D
import Derived.Test.YtahokmlfnkakiaaGreatK3C0
import Derived.Test.YtahokmlfnkakiaaGreatK3C2
import Derived.Test.YtahokmlfnkakiaaGreatK3C3
import Derived.Test.YtahokmlfnkakiaaGreatK3C4
import Derived.Test.YtahokmlfnkakiaaGreatK3C5
import Derived.KernelRfl
set_option linter.unusedVariables false
set_option maxRecDepth 1000000
namespace Go.Proofs.YtahokmlfnkakiaaGreat.R3
open Go Go.Abs Go.Proofs Go.Proofs.YtahokmlfnkakiaaGreat
theorem ml : isTrue (callA (DSn Ov.D 3000 [e0, e1, e5, e7, e8]) 3000 3 [] H0) = true := by kernel_rfl
theorem law (W : World) : Calls Tryz.prog 3 #[] W fun e w' => e = .returned (.bool true) ∧ Go.RowKit.Below W.heap.size W w' := closed_law (dm_dok Ov.dok 3000 [e0, e1, e5, e7, e8]) (dm_ov Ov.dok Ov.ovok (seen_cons s0 (seen_cons s1 (seen_cons s5 (seen_cons s7 (seen_cons s8 seen_nil)))))) ml W
end Go.Proofs.YtahokmlfnkakiaaGreat.R3
