/- Calls of a closed law, checked by the kernel: each was seen as it is written down. -/
import Derived.Test.YtahokmlfnkakiaaGreatK5D
import Derived.Test.YtahokmlfnkakiaaGreatK5C13
import Derived.KernelRfl
set_option linter.unusedVariables false
set_option maxRecDepth 1000000
namespace Go.Proofs.YtahokmlfnkakiaaGreat.R5
open Go Go.Abs Go.Proofs Go.Proofs.YtahokmlfnkakiaaGreat
theorem m143 : e143.ok (callA (DSn Ov.D 3000 [e144]) 3000 e143.f e143.args e143.h) = true := by kernel_rfl
theorem s143 : e143.Is Tryz.prog := seen_of Ov.dok Ov.ovok (seen_cons s144 seen_nil) m143
theorem m146 : e146.ok (callA (DSn Ov.D 3000 []) 3000 e146.f e146.args e146.h) = true := by kernel_rfl
theorem s146 : e146.Is Tryz.prog := seen_of Ov.dok Ov.ovok seen_nil m146
theorem m147 : e147.ok (callA (DSn Ov.D 3000 []) 3000 e147.f e147.args e147.h) = true := by kernel_rfl
theorem s147 : e147.Is Tryz.prog := seen_of Ov.dok Ov.ovok seen_nil m147
end Go.Proofs.YtahokmlfnkakiaaGreat.R5
