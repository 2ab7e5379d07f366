/- A closed law's run, its calls taken as they were seen. -/
import Derived.Test.YtahokmlfnkakiaaGreatK5D
import Derived.Test.YtahokmlfnkakiaaGreatK5C0
import Derived.Test.YtahokmlfnkakiaaGreatK5C12
import Derived.Test.YtahokmlfnkakiaaGreatK5C13
import Derived.Test.YtahokmlfnkakiaaGreatK5C14
import Derived.Test.YtahokmlfnkakiaaGreatK5C15
import Derived.Test.YtahokmlfnkakiaaGreatK5E
import Derived.KernelRfl
set_option linter.unusedVariables false
set_option maxRecDepth 1000000
namespace Go.Proofs.YtahokmlfnkakiaaGreat.R5
open Go Go.Abs Go.Proofs Go.Proofs.YtahokmlfnkakiaaGreat
theorem ml : isTrue (callA (DSn Ov.D 3000 [e0, e150, e142, e143, e146, e151, e147, e148, e149]) 3000 5 [] H0) = true := by kernel_rfl
theorem law (W : World) : Calls Tryz.prog 5 #[] W fun e w' => e = .returned (.bool true) ∧ Go.RowKit.Below W.heap.size W w' := closed_law (dm_dok Ov.dok 3000 [e0, e150, e142, e143, e146, e151, e147, e148, e149]) (dm_ov Ov.dok Ov.ovok (seen_cons s0 (seen_cons s150 (seen_cons s142 (seen_cons s143 (seen_cons s146 (seen_cons s151 (seen_cons s147 (seen_cons s148 (seen_cons s149 seen_nil)))))))))) ml W
end Go.Proofs.YtahokmlfnkakiaaGreat.R5
