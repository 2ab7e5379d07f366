/- Calls of a closed law, checked by the kernel: each was seen as it is written down. -/
import Derived.Test.YtahokmlfnkakiaaGreatK5D
import Derived.KernelRfl
set_option linter.unusedVariables false
set_option maxRecDepth 1000000
namespace Go.Proofs.YtahokmlfnkakiaaGreat.R5
open Go Go.Abs Go.Proofs Go.Proofs.YtahokmlfnkakiaaGreat
theorem m141 : e141.ok (callA (DSn Ov.D 3000 []) 3000 e141.f e141.args e141.h) = true := by kernel_rfl
theorem s141 : e141.Is Tryz.prog := seen_of Ov.dok Ov.ovok seen_nil m141
end Go.Proofs.YtahokmlfnkakiaaGreat.R5
