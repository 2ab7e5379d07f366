/- Calls of a closed law, checked by the kernel: each was seen as it is written down. -/
import Derived.Test.YtahokmlfnkakiaaGreatK5D
import Derived.KernelRfl
set_option linter.unusedVariables false
set_option maxRecDepth 1000000
namespace Go.Proofs.YtahokmlfnkakiaaGreat.R5
open Go Go.Abs Go.Proofs Go.Proofs.YtahokmlfnkakiaaGreat
theorem m142 : e142.ok (callA (DSn Ov.D 3000 []) 3000 e142.f e142.args e142.h) = true := by kernel_rfl
theorem s142 : e142.Is Tryz.prog := seen_of Ov.dok Ov.ovok seen_nil m142
theorem m145 : e145.ok (callA (DSn Ov.D 3000 []) 3000 e145.f e145.args e145.h) = true := by kernel_rfl
theorem s145 : e145.Is Tryz.prog := seen_of Ov.dok Ov.ovok seen_nil m145
theorem m144 : e144.ok (callA (DSn Ov.D 3000 [e145]) 3000 e144.f e144.args e144.h) = true := by kernel_rfl
theorem s144 : e144.Is Tryz.prog := seen_of Ov.dok Ov.ovok (seen_cons s145 seen_nil) m144
end Go.Proofs.YtahokmlfnkakiaaGreat.R5
