/- Calls of a closed law, checked by the kernel: each was seen as it is written down. -/
import Derived.Test.YtahokmlfnkakiaaGreatK5D
import Derived.KernelRfl
set_option linter.unusedVariables false
set_option maxRecDepth 1000000
namespace Go.Proofs.YtahokmlfnkakiaaGreat.R5
open Go Go.Abs Go.Proofs Go.Proofs.YtahokmlfnkakiaaGreat
theorem m25 : e25.ok (callA (DSn Ov.D 3000 []) 3000 e25.f e25.args e25.h) = true := by kernel_rfl
theorem s25 : e25.Is Tryz.prog := seen_of Ov.dok Ov.ovok seen_nil m25
theorem m26 : e26.ok (callA (DSn Ov.D 3000 []) 3000 e26.f e26.args e26.h) = true := by kernel_rfl
theorem s26 : e26.Is Tryz.prog := seen_of Ov.dok Ov.ovok seen_nil m26
theorem m27 : e27.ok (callA (DSn Ov.D 3000 []) 3000 e27.f e27.args e27.h) = true := by kernel_rfl
theorem s27 : e27.Is Tryz.prog := seen_of Ov.dok Ov.ovok seen_nil m27
theorem m28 : e28.ok (callA (DSn Ov.D 3000 []) 3000 e28.f e28.args e28.h) = true := by kernel_rfl
theorem s28 : e28.Is Tryz.prog := seen_of Ov.dok Ov.ovok seen_nil m28
theorem m29 : e29.ok (callA (DSn Ov.D 3000 []) 3000 e29.f e29.args e29.h) = true := by kernel_rfl
theorem s29 : e29.Is Tryz.prog := seen_of Ov.dok Ov.ovok seen_nil m29
theorem m30 : e30.ok (callA (DSn Ov.D 3000 []) 3000 e30.f e30.args e30.h) = true := by kernel_rfl
theorem s30 : e30.Is Tryz.prog := seen_of Ov.dok Ov.ovok seen_nil m30
theorem m31 : e31.ok (callA (DSn Ov.D 3000 []) 3000 e31.f e31.args e31.h) = true := by kernel_rfl
theorem s31 : e31.Is Tryz.prog := seen_of Ov.dok Ov.ovok seen_nil m31
theorem m32 : e32.ok (callA (DSn Ov.D 3000 []) 3000 e32.f e32.args e32.h) = true := by kernel_rfl
theorem s32 : e32.Is Tryz.prog := seen_of Ov.dok Ov.ovok seen_nil m32
theorem m33 : e33.ok (callA (DSn Ov.D 3000 []) 3000 e33.f e33.args e33.h) = true := by kernel_rfl
theorem s33 : e33.Is Tryz.prog := seen_of Ov.dok Ov.ovok seen_nil m33
theorem m34 : e34.ok (callA (DSn Ov.D 3000 []) 3000 e34.f e34.args e34.h) = true := by kernel_rfl
theorem s34 : e34.Is Tryz.prog := seen_of Ov.dok Ov.ovok seen_nil m34
theorem m35 : e35.ok (callA (DSn Ov.D 3000 []) 3000 e35.f e35.args e35.h) = true := by kernel_rfl
theorem s35 : e35.Is Tryz.prog := seen_of Ov.dok Ov.ovok seen_nil m35
theorem m36 : e36.ok (callA (DSn Ov.D 3000 []) 3000 e36.f e36.args e36.h) = true := by kernel_rfl
theorem s36 : e36.Is Tryz.prog := seen_of Ov.dok Ov.ovok seen_nil m36
theorem m37 : e37.ok (callA (DSn Ov.D 3000 []) 3000 e37.f e37.args e37.h) = true := by kernel_rfl
theorem s37 : e37.Is Tryz.prog := seen_of Ov.dok Ov.ovok seen_nil m37
theorem m38 : e38.ok (callA (DSn Ov.D 3000 []) 3000 e38.f e38.args e38.h) = true := by kernel_rfl
theorem s38 : e38.Is Tryz.prog := seen_of Ov.dok Ov.ovok seen_nil m38
end Go.Proofs.YtahokmlfnkakiaaGreat.R5
