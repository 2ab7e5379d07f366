/- Calls of a closed law, checked by the kernel: each was seen as it is written down. -/
import Derived.Test.YtahokmlfnkakiaaGreatK3D
import Derived.Test.YtahokmlfnkakiaaGreatK3C4
import Derived.KernelRfl
set_option linter.unusedVariables false
set_option maxRecDepth 1000000
namespace Go.Proofs.YtahokmlfnkakiaaGreat.R3
open Go Go.Abs Go.Proofs Go.Proofs.YtahokmlfnkakiaaGreat
theorem m8 : e8.ok (callA (DSn Ov.D 3000 [e9]) 3000 e8.f e8.args e8.h) = true := by kernel_rfl
theorem s8 : e8.Is Tryz.prog := seen_of Ov.dok Ov.ovok (seen_cons s9 seen_nil) m8
end Go.Proofs.YtahokmlfnkakiaaGreat.R3
