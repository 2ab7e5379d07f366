/- A closed law's run, its calls taken as they were seen. -/
import Derived.Test.YtahokmlfnkakiaaGreatK6D
import Derived.Test.YtahokmlfnkakiaaGreatK6C0
import Derived.Test.YtahokmlfnkakiaaGreatK6C1
import Derived.Test.YtahokmlfnkakiaaGreatK6C2
import Derived.KernelRfl
set_option linter.unusedVariables false
set_option maxRecDepth 1000000
namespace Go.Proofs.YtahokmlfnkakiaaGreat.R6
open Go Go.Abs Go.Proofs Go.Proofs.YtahokmlfnkakiaaGreat
theorem ml : isTrue (callA (DSn Ov.D 3000 [e0, e1, e2, e3, e4]) 3000 6 [] H0) = true := by kernel_rfl
theorem law (W : World) : Calls Tryz.prog 6 #[] W fun e w' => e = .returned (.bool true) ∧ Go.RowKit.Below W.heap.size W w' := closed_law (dm_dok Ov.dok 3000 [e0, e1, e2, e3, e4]) (dm_ov Ov.dok Ov.ovok (seen_cons s0 (seen_cons s1 (seen_cons s2 (seen_cons s3 (seen_cons s4 seen_nil)))))) ml W
end Go.Proofs.YtahokmlfnkakiaaGreat.R6
