/- Calls of a closed law, checked by the kernel: each was seen as it is written down. -/
import Derived.Test.YtahokmlfnkakiaaGreatK5D
import Derived.KernelRfl
set_option linter.unusedVariables false
set_option maxRecDepth 1000000
namespace Go.Proofs.YtahokmlfnkakiaaGreat.R5
open Go Go.Abs Go.Proofs Go.Proofs.YtahokmlfnkakiaaGreat
theorem m140 : e140.ok (callA (DSn Ov.D 3000 []) 3000 e140.f e140.args e140.h) = true := by kernel_rfl
theorem s140 : e140.Is Tryz.prog := seen_of Ov.dok Ov.ovok seen_nil m140
theorem m139 : e139.ok (callA (DSn Ov.D 3000 [e140]) 3000 e139.f e139.args e139.h) = true := by kernel_rfl
theorem s139 : e139.Is Tryz.prog := seen_of Ov.dok Ov.ovok (seen_cons s140 seen_nil) m139
end Go.Proofs.YtahokmlfnkakiaaGreat.R5
