/- Calls of a closed law, checked by the kernel: each was seen as it is written down. -/
import Derived.Test.YtahokmlfnkakiaaGreatK5D
import Derived.KernelRfl
set_option linter.unusedVariables false
set_option maxRecDepth 1000000
namespace Go.Proofs.YtahokmlfnkakiaaGreat.R5
open Go Go.Abs Go.Proofs Go.Proofs.YtahokmlfnkakiaaGreat
theorem m10 : e10.ok (callA (DSn Ov.D 3000 []) 3000 e10.f e10.args e10.h) = true := by kernel_rfl
theorem s10 : e10.Is Tryz.prog := seen_of Ov.dok Ov.ovok seen_nil m10
theorem m11 : e11.ok (callA (DSn Ov.D 3000 []) 3000 e11.f e11.args e11.h) = true := by kernel_rfl
theorem s11 : e11.Is Tryz.prog := seen_of Ov.dok Ov.ovok seen_nil m11
theorem m12 : e12.ok (callA (DSn Ov.D 3000 []) 3000 e12.f e12.args e12.h) = true := by kernel_rfl
theorem s12 : e12.Is Tryz.prog := seen_of Ov.dok Ov.ovok seen_nil m12
theorem m13 : e13.ok (callA (DSn Ov.D 3000 []) 3000 e13.f e13.args e13.h) = true := by kernel_rfl
theorem s13 : e13.Is Tryz.prog := seen_of Ov.dok Ov.ovok seen_nil m13
theorem m14 : e14.ok (callA (DSn Ov.D 3000 []) 3000 e14.f e14.args e14.h) = true := by kernel_rfl
theorem s14 : e14.Is Tryz.prog := seen_of Ov.dok Ov.ovok seen_nil m14
theorem m15 : e15.ok (callA (DSn Ov.D 3000 []) 3000 e15.f e15.args e15.h) = true := by kernel_rfl
theorem s15 : e15.Is Tryz.prog := seen_of Ov.dok Ov.ovok seen_nil m15
theorem m16 : e16.ok (callA (DSn Ov.D 3000 []) 3000 e16.f e16.args e16.h) = true := by kernel_rfl
theorem s16 : e16.Is Tryz.prog := seen_of Ov.dok Ov.ovok seen_nil m16
theorem m17 : e17.ok (callA (DSn Ov.D 3000 []) 3000 e17.f e17.args e17.h) = true := by kernel_rfl
theorem s17 : e17.Is Tryz.prog := seen_of Ov.dok Ov.ovok seen_nil m17
theorem m18 : e18.ok (callA (DSn Ov.D 3000 []) 3000 e18.f e18.args e18.h) = true := by kernel_rfl
theorem s18 : e18.Is Tryz.prog := seen_of Ov.dok Ov.ovok seen_nil m18
theorem m19 : e19.ok (callA (DSn Ov.D 3000 []) 3000 e19.f e19.args e19.h) = true := by kernel_rfl
theorem s19 : e19.Is Tryz.prog := seen_of Ov.dok Ov.ovok seen_nil m19
theorem m20 : e20.ok (callA (DSn Ov.D 3000 []) 3000 e20.f e20.args e20.h) = true := by kernel_rfl
theorem s20 : e20.Is Tryz.prog := seen_of Ov.dok Ov.ovok seen_nil m20
theorem m21 : e21.ok (callA (DSn Ov.D 3000 []) 3000 e21.f e21.args e21.h) = true := by kernel_rfl
theorem s21 : e21.Is Tryz.prog := seen_of Ov.dok Ov.ovok seen_nil m21
theorem m22 : e22.ok (callA (DSn Ov.D 3000 []) 3000 e22.f e22.args e22.h) = true := by kernel_rfl
theorem s22 : e22.Is Tryz.prog := seen_of Ov.dok Ov.ovok seen_nil m22
theorem m23 : e23.ok (callA (DSn Ov.D 3000 []) 3000 e23.f e23.args e23.h) = true := by kernel_rfl
theorem s23 : e23.Is Tryz.prog := seen_of Ov.dok Ov.ovok seen_nil m23
theorem m24 : e24.ok (callA (DSn Ov.D 3000 []) 3000 e24.f e24.args e24.h) = true := by kernel_rfl
theorem s24 : e24.Is Tryz.prog := seen_of Ov.dok Ov.ovok seen_nil m24
end Go.Proofs.YtahokmlfnkakiaaGreat.R5
