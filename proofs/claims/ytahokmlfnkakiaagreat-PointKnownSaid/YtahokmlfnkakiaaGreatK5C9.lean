/- Calls of a closed law, checked by the kernel: each was seen as it is written down. -/
import Derived.Test.YtahokmlfnkakiaaGreatK5D
import Derived.Test.YtahokmlfnkakiaaGreatK5C3
import Derived.Test.YtahokmlfnkakiaaGreatK5C4
import Derived.Test.YtahokmlfnkakiaaGreatK5C8
import Derived.KernelRfl
set_option linter.unusedVariables false
set_option maxRecDepth 1000000
namespace Go.Proofs.YtahokmlfnkakiaaGreat.R5
open Go Go.Abs Go.Proofs Go.Proofs.YtahokmlfnkakiaaGreat
theorem m2 : e2.ok (callA (DSn Ov.D 3000 [e3, e39, e40]) 3000 e2.f e2.args e2.h) = true := by kernel_rfl
theorem s2 : e2.Is Tryz.prog := seen_of Ov.dok Ov.ovok (seen_cons s3 (seen_cons s39 (seen_cons s40 seen_nil))) m2
end Go.Proofs.YtahokmlfnkakiaaGreat.R5
