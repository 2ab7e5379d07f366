/- Calls of a closed law, checked by the kernel: each was seen as it is written down. -/
import Derived.Test.YtahokmlfnkakiaaGreatK5D
import Derived.Test.YtahokmlfnkakiaaGreatK5C9
import Derived.Test.YtahokmlfnkakiaaGreatK5C10
import Derived.Test.YtahokmlfnkakiaaGreatK5C11
import Derived.KernelRfl
set_option linter.unusedVariables false
set_option maxRecDepth 1000000
namespace Go.Proofs.YtahokmlfnkakiaaGreat.R5
open Go Go.Abs Go.Proofs Go.Proofs.YtahokmlfnkakiaaGreat
theorem m1 : e1.ok (callA (DSn Ov.D 3000 [e2, e139, e141]) 3000 e1.f e1.args e1.h) = true := by kernel_rfl
theorem s1 : e1.Is Tryz.prog := seen_of Ov.dok Ov.ovok (seen_cons s2 (seen_cons s139 (seen_cons s141 seen_nil))) m1
end Go.Proofs.YtahokmlfnkakiaaGreat.R5
