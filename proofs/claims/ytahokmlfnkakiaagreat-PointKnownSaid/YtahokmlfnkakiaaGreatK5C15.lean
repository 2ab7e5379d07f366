/- Calls of a closed law, checked by the kernel: each was seen as it is written down. -/
import Derived.Test.YtahokmlfnkakiaaGreatK5D
import Derived.KernelRfl
set_option linter.unusedVariables false
set_option maxRecDepth 1000000
namespace Go.Proofs.YtahokmlfnkakiaaGreat.R5
open Go Go.Abs Go.Proofs Go.Proofs.YtahokmlfnkakiaaGreat
theorem m148 : e148.ok (callA (DSn Ov.D 3000 []) 3000 e148.f e148.args e148.h) = true := by kernel_rfl
theorem s148 : e148.Is Tryz.prog := seen_of Ov.dok Ov.ovok seen_nil m148
theorem m149 : e149.ok (callA (DSn Ov.D 3000 []) 3000 e149.f e149.args e149.h) = true := by kernel_rfl
theorem s149 : e149.Is Tryz.prog := seen_of Ov.dok Ov.ovok seen_nil m149
end Go.Proofs.YtahokmlfnkakiaaGreat.R5
