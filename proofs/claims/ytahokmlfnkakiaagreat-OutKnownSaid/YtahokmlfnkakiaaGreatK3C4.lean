/- Calls of a closed law, checked by the kernel: each was seen as it is written down. -/
import Derived.Test.YtahokmlfnkakiaaGreatK3D
import Derived.KernelRfl
set_option linter.unusedVariables false
set_option maxRecDepth 1000000
namespace Go.Proofs.YtahokmlfnkakiaaGreat.R3
open Go Go.Abs Go.Proofs Go.Proofs.YtahokmlfnkakiaaGreat
theorem m7 : e7.ok (callA (DSn Ov.D 3000 []) 3000 e7.f e7.args e7.h) = true := by kernel_rfl
theorem s7 : e7.Is Tryz.prog := seen_of Ov.dok Ov.ovok seen_nil m7
theorem m9 : e9.ok (callA (DSn Ov.D 3000 []) 3000 e9.f e9.args e9.h) = true := by kernel_rfl
theorem s9 : e9.Is Tryz.prog := seen_of Ov.dok Ov.ovok seen_nil m9
end Go.Proofs.YtahokmlfnkakiaaGreat.R3
