/- Calls of a closed law, checked by the kernel: each was seen as it is written down. -/
import Derived.Test.YtahokmlfnkakiaaGreatK6D
import Derived.KernelRfl
set_option linter.unusedVariables false
set_option maxRecDepth 1000000
namespace Go.Proofs.YtahokmlfnkakiaaGreat.R6
open Go Go.Abs Go.Proofs Go.Proofs.YtahokmlfnkakiaaGreat
theorem m1 : e1.ok (callA (DSn Ov.D 3000 []) 3000 e1.f e1.args e1.h) = true := by kernel_rfl
theorem s1 : e1.Is Tryz.prog := seen_of Ov.dok Ov.ovok seen_nil m1
theorem m2 : e2.ok (callA (DSn Ov.D 3000 []) 3000 e2.f e2.args e2.h) = true := by kernel_rfl
theorem s2 : e2.Is Tryz.prog := seen_of Ov.dok Ov.ovok seen_nil m2
end Go.Proofs.YtahokmlfnkakiaaGreat.R6
