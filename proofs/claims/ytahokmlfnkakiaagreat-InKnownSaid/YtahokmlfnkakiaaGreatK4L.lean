/- A closed law's run, its calls taken as they were seen. -/
import Derived.Test.YtahokmlfnkakiaaGreatK4D
import Derived.Test.YtahokmlfnkakiaaGreatK4C0
import Derived.Test.YtahokmlfnkakiaaGreatK4C1
import Derived.Test.YtahokmlfnkakiaaGreatK4C2
import Derived.KernelRfl
set_option linter.unusedVariables false
set_option maxRecDepth 1000000
namespace Go.Proofs.YtahokmlfnkakiaaGreat.R4
open Go Go.Abs Go.Proofs Go.Proofs.YtahokmlfnkakiaaGreat
theorem ml : isTrue (callA (DSn Ov.D 3000 [e0, e1, e2, e3]) 3000 4 [] H0) = true := by kernel_rfl
theorem law (W : World) : Calls Tryz.prog 4 #[] W fun e w' => e = .returned (.bool true) ∧ Go.RowKit.Below W.heap.size W w' := closed_law (dm_dok Ov.dok 3000 [e0, e1, e2, e3]) (dm_ov Ov.dok Ov.ovok (seen_cons s0 (seen_cons s1 (seen_cons s2 (seen_cons s3 seen_nil))))) ml W
end Go.Proofs.YtahokmlfnkakiaaGreat.R4
