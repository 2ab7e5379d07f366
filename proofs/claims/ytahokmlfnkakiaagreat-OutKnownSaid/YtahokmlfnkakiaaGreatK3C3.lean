/- Calls of a closed law, checked by the kernel: each was seen as it is written down. -/
import Derived.Test.YtahokmlfnkakiaaGreatK3D
import Derived.KernelRfl
set_option linter.unusedVariables false
set_option maxRecDepth 1000000
namespace Go.Proofs.YtahokmlfnkakiaaGreat.R3
open Go Go.Abs Go.Proofs Go.Proofs.YtahokmlfnkakiaaGreat
theorem m6 : e6.ok (callA (DSn Ov.D 3000 []) 3000 e6.f e6.args e6.h) = true := by kernel_rfl
theorem s6 : e6.Is Tryz.prog := seen_of Ov.dok Ov.ovok seen_nil m6
theorem m5 : e5.ok (callA (DSn Ov.D 3000 [e6]) 3000 e5.f e5.args e5.h) = true := by kernel_rfl
theorem s5 : e5.Is Tryz.prog := seen_of Ov.dok Ov.ovok (seen_cons s6 seen_nil) m5
end Go.Proofs.YtahokmlfnkakiaaGreat.R3
