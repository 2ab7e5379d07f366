/- Calls of a closed law, checked by the kernel: each was seen as it is written down. -/
import Derived.Test.YtahokmlfnkakiaaGreatK6D
import Derived.KernelRfl
set_option linter.unusedVariables false
set_option maxRecDepth 1000000
namespace Go.Proofs.YtahokmlfnkakiaaGreat.R6
open Go Go.Abs Go.Proofs Go.Proofs.YtahokmlfnkakiaaGreat
theorem m3 : e3.ok (callA (DSn Ov.D 3000 []) 3000 e3.f e3.args e3.h) = true := by kernel_rfl
theorem s3 : e3.Is Tryz.prog := seen_of Ov.dok Ov.ovok seen_nil m3
theorem m4 : e4.ok (callA (DSn Ov.D 3000 []) 3000 e4.f e4.args e4.h) = true := by kernel_rfl
theorem s4 : e4.Is Tryz.prog := seen_of Ov.dok Ov.ovok seen_nil m4
end Go.Proofs.YtahokmlfnkakiaaGreat.R6
