/- Calls of a closed law, checked by the kernel: each was seen as it is written down. -/
import Derived.Test.YtahokmlfnkakiaaGreatK5D
import Derived.KernelRfl
set_option linter.unusedVariables false
set_option maxRecDepth 1000000
namespace Go.Proofs.YtahokmlfnkakiaaGreat.R5
open Go Go.Abs Go.Proofs Go.Proofs.YtahokmlfnkakiaaGreat
theorem m58 : e58.ok (callA (DSn Ov.D 3000 []) 3000 e58.f e58.args e58.h) = true := by kernel_rfl
theorem s58 : e58.Is Tryz.prog := seen_of Ov.dok Ov.ovok seen_nil m58
theorem m59 : e59.ok (callA (DSn Ov.D 3000 []) 3000 e59.f e59.args e59.h) = true := by kernel_rfl
theorem s59 : e59.Is Tryz.prog := seen_of Ov.dok Ov.ovok seen_nil m59
theorem m60 : e60.ok (callA (DSn Ov.D 3000 []) 3000 e60.f e60.args e60.h) = true := by kernel_rfl
theorem s60 : e60.Is Tryz.prog := seen_of Ov.dok Ov.ovok seen_nil m60
theorem m61 : e61.ok (callA (DSn Ov.D 3000 []) 3000 e61.f e61.args e61.h) = true := by kernel_rfl
theorem s61 : e61.Is Tryz.prog := seen_of Ov.dok Ov.ovok seen_nil m61
theorem m62 : e62.ok (callA (DSn Ov.D 3000 []) 3000 e62.f e62.args e62.h) = true := by kernel_rfl
theorem s62 : e62.Is Tryz.prog := seen_of Ov.dok Ov.ovok seen_nil m62
theorem m63 : e63.ok (callA (DSn Ov.D 3000 []) 3000 e63.f e63.args e63.h) = true := by kernel_rfl
theorem s63 : e63.Is Tryz.prog := seen_of Ov.dok Ov.ovok seen_nil m63
theorem m64 : e64.ok (callA (DSn Ov.D 3000 []) 3000 e64.f e64.args e64.h) = true := by kernel_rfl
theorem s64 : e64.Is Tryz.prog := seen_of Ov.dok Ov.ovok seen_nil m64
theorem m65 : e65.ok (callA (DSn Ov.D 3000 []) 3000 e65.f e65.args e65.h) = true := by kernel_rfl
theorem s65 : e65.Is Tryz.prog := seen_of Ov.dok Ov.ovok seen_nil m65
theorem m66 : e66.ok (callA (DSn Ov.D 3000 []) 3000 e66.f e66.args e66.h) = true := by kernel_rfl
theorem s66 : e66.Is Tryz.prog := seen_of Ov.dok Ov.ovok seen_nil m66
theorem m67 : e67.ok (callA (DSn Ov.D 3000 []) 3000 e67.f e67.args e67.h) = true := by kernel_rfl
theorem s67 : e67.Is Tryz.prog := seen_of Ov.dok Ov.ovok seen_nil m67
theorem m68 : e68.ok (callA (DSn Ov.D 3000 []) 3000 e68.f e68.args e68.h) = true := by kernel_rfl
theorem s68 : e68.Is Tryz.prog := seen_of Ov.dok Ov.ovok seen_nil m68
theorem m69 : e69.ok (callA (DSn Ov.D 3000 []) 3000 e69.f e69.args e69.h) = true := by kernel_rfl
theorem s69 : e69.Is Tryz.prog := seen_of Ov.dok Ov.ovok seen_nil m69
theorem m70 : e70.ok (callA (DSn Ov.D 3000 []) 3000 e70.f e70.args e70.h) = true := by kernel_rfl
theorem s70 : e70.Is Tryz.prog := seen_of Ov.dok Ov.ovok seen_nil m70
theorem m71 : e71.ok (callA (DSn Ov.D 3000 []) 3000 e71.f e71.args e71.h) = true := by kernel_rfl
theorem s71 : e71.Is Tryz.prog := seen_of Ov.dok Ov.ovok seen_nil m71
theorem m72 : e72.ok (callA (DSn Ov.D 3000 []) 3000 e72.f e72.args e72.h) = true := by kernel_rfl
theorem s72 : e72.Is Tryz.prog := seen_of Ov.dok Ov.ovok seen_nil m72
theorem m73 : e73.ok (callA (DSn Ov.D 3000 []) 3000 e73.f e73.args e73.h) = true := by kernel_rfl
theorem s73 : e73.Is Tryz.prog := seen_of Ov.dok Ov.ovok seen_nil m73
theorem m74 : e74.ok (callA (DSn Ov.D 3000 []) 3000 e74.f e74.args e74.h) = true := by kernel_rfl
theorem s74 : e74.Is Tryz.prog := seen_of Ov.dok Ov.ovok seen_nil m74
theorem m75 : e75.ok (callA (DSn Ov.D 3000 []) 3000 e75.f e75.args e75.h) = true := by kernel_rfl
theorem s75 : e75.Is Tryz.prog := seen_of Ov.dok Ov.ovok seen_nil m75
theorem m76 : e76.ok (callA (DSn Ov.D 3000 []) 3000 e76.f e76.args e76.h) = true := by kernel_rfl
theorem s76 : e76.Is Tryz.prog := seen_of Ov.dok Ov.ovok seen_nil m76
theorem m77 : e77.ok (callA (DSn Ov.D 3000 []) 3000 e77.f e77.args e77.h) = true := by kernel_rfl
theorem s77 : e77.Is Tryz.prog := seen_of Ov.dok Ov.ovok seen_nil m77
end Go.Proofs.YtahokmlfnkakiaaGreat.R5
