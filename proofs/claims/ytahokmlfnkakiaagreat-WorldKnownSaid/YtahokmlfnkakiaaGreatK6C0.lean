/- Calls of a closed law, checked by the kernel: each was seen as it is written down. -/
import Derived.Test.YtahokmlfnkakiaaGreatK6D
import Derived.KernelRfl
set_option linter.unusedVariables false
set_option maxRecDepth 1000000
namespace Go.Proofs.YtahokmlfnkakiaaGreat.R6
open Go Go.Abs Go.Proofs Go.Proofs.YtahokmlfnkakiaaGreat
theorem m0 : e0.ok (callA (DSn Ov.D 3000 []) 3000 e0.f e0.args e0.h) = true := by kernel_rfl
theorem s0 : e0.Is Tryz.prog := seen_of Ov.dok Ov.ovok seen_nil m0
end Go.Proofs.YtahokmlfnkakiaaGreat.R6
