/- Calls of a closed law, checked by the kernel: each was seen as it is written down. -/
import Derived.Test.YtahokmlfnkakiaaGreatK5D
import Derived.KernelRfl
set_option linter.unusedVariables false
set_option maxRecDepth 1000000
namespace Go.Proofs.YtahokmlfnkakiaaGreat.R5
open Go Go.Abs Go.Proofs Go.Proofs.YtahokmlfnkakiaaGreat
theorem m0 : e0.ok (callA (DSn Ov.D 3000 []) 3000 e0.f e0.args e0.h) = true := by kernel_rfl
theorem s0 : e0.Is Tryz.prog := seen_of Ov.dok Ov.ovok seen_nil m0
theorem m4 : e4.ok (callA (DSn Ov.D 3000 []) 3000 e4.f e4.args e4.h) = true := by kernel_rfl
theorem s4 : e4.Is Tryz.prog := seen_of Ov.dok Ov.ovok seen_nil m4
theorem m5 : e5.ok (callA (DSn Ov.D 3000 []) 3000 e5.f e5.args e5.h) = true := by kernel_rfl
theorem s5 : e5.Is Tryz.prog := seen_of Ov.dok Ov.ovok seen_nil m5
theorem m6 : e6.ok (callA (DSn Ov.D 3000 []) 3000 e6.f e6.args e6.h) = true := by kernel_rfl
theorem s6 : e6.Is Tryz.prog := seen_of Ov.dok Ov.ovok seen_nil m6
theorem m7 : e7.ok (callA (DSn Ov.D 3000 []) 3000 e7.f e7.args e7.h) = true := by kernel_rfl
theorem s7 : e7.Is Tryz.prog := seen_of Ov.dok Ov.ovok seen_nil m7
theorem m8 : e8.ok (callA (DSn Ov.D 3000 []) 3000 e8.f e8.args e8.h) = true := by kernel_rfl
theorem s8 : e8.Is Tryz.prog := seen_of Ov.dok Ov.ovok seen_nil m8
theorem m9 : e9.ok (callA (DSn Ov.D 3000 []) 3000 e9.f e9.args e9.h) = true := by kernel_rfl
theorem s9 : e9.Is Tryz.prog := seen_of Ov.dok Ov.ovok seen_nil m9
end Go.Proofs.YtahokmlfnkakiaaGreat.R5
