/- Calls of a closed law, checked by the kernel: each was seen as it is written down. -/
import Derived.Test.YtahokmlfnkakiaaGreatK5D
import Derived.KernelRfl
set_option linter.unusedVariables false
set_option maxRecDepth 1000000
namespace Go.Proofs.YtahokmlfnkakiaaGreat.R5
open Go Go.Abs Go.Proofs Go.Proofs.YtahokmlfnkakiaaGreat
theorem m104 : e104.ok (callA (DSn Ov.D 3000 []) 3000 e104.f e104.args e104.h) = true := by kernel_rfl
theorem s104 : e104.Is Tryz.prog := seen_of Ov.dok Ov.ovok seen_nil m104
theorem m105 : e105.ok (callA (DSn Ov.D 3000 []) 3000 e105.f e105.args e105.h) = true := by kernel_rfl
theorem s105 : e105.Is Tryz.prog := seen_of Ov.dok Ov.ovok seen_nil m105
theorem m106 : e106.ok (callA (DSn Ov.D 3000 []) 3000 e106.f e106.args e106.h) = true := by kernel_rfl
theorem s106 : e106.Is Tryz.prog := seen_of Ov.dok Ov.ovok seen_nil m106
theorem m107 : e107.ok (callA (DSn Ov.D 3000 []) 3000 e107.f e107.args e107.h) = true := by kernel_rfl
theorem s107 : e107.Is Tryz.prog := seen_of Ov.dok Ov.ovok seen_nil m107
theorem m108 : e108.ok (callA (DSn Ov.D 3000 []) 3000 e108.f e108.args e108.h) = true := by kernel_rfl
theorem s108 : e108.Is Tryz.prog := seen_of Ov.dok Ov.ovok seen_nil m108
theorem m109 : e109.ok (callA (DSn Ov.D 3000 []) 3000 e109.f e109.args e109.h) = true := by kernel_rfl
theorem s109 : e109.Is Tryz.prog := seen_of Ov.dok Ov.ovok seen_nil m109
theorem m110 : e110.ok (callA (DSn Ov.D 3000 []) 3000 e110.f e110.args e110.h) = true := by kernel_rfl
theorem s110 : e110.Is Tryz.prog := seen_of Ov.dok Ov.ovok seen_nil m110
theorem m111 : e111.ok (callA (DSn Ov.D 3000 []) 3000 e111.f e111.args e111.h) = true := by kernel_rfl
theorem s111 : e111.Is Tryz.prog := seen_of Ov.dok Ov.ovok seen_nil m111
theorem m112 : e112.ok (callA (DSn Ov.D 3000 []) 3000 e112.f e112.args e112.h) = true := by kernel_rfl
theorem s112 : e112.Is Tryz.prog := seen_of Ov.dok Ov.ovok seen_nil m112
theorem m113 : e113.ok (callA (DSn Ov.D 3000 []) 3000 e113.f e113.args e113.h) = true := by kernel_rfl
theorem s113 : e113.Is Tryz.prog := seen_of Ov.dok Ov.ovok seen_nil m113
theorem m114 : e114.ok (callA (DSn Ov.D 3000 []) 3000 e114.f e114.args e114.h) = true := by kernel_rfl
theorem s114 : e114.Is Tryz.prog := seen_of Ov.dok Ov.ovok seen_nil m114
theorem m115 : e115.ok (callA (DSn Ov.D 3000 []) 3000 e115.f e115.args e115.h) = true := by kernel_rfl
theorem s115 : e115.Is Tryz.prog := seen_of Ov.dok Ov.ovok seen_nil m115
theorem m116 : e116.ok (callA (DSn Ov.D 3000 []) 3000 e116.f e116.args e116.h) = true := by kernel_rfl
theorem s116 : e116.Is Tryz.prog := seen_of Ov.dok Ov.ovok seen_nil m116
theorem m117 : e117.ok (callA (DSn Ov.D 3000 []) 3000 e117.f e117.args e117.h) = true := by kernel_rfl
theorem s117 : e117.Is Tryz.prog := seen_of Ov.dok Ov.ovok seen_nil m117
theorem m118 : e118.ok (callA (DSn Ov.D 3000 []) 3000 e118.f e118.args e118.h) = true := by kernel_rfl
theorem s118 : e118.Is Tryz.prog := seen_of Ov.dok Ov.ovok seen_nil m118
theorem m119 : e119.ok (callA (DSn Ov.D 3000 []) 3000 e119.f e119.args e119.h) = true := by kernel_rfl
theorem s119 : e119.Is Tryz.prog := seen_of Ov.dok Ov.ovok seen_nil m119
theorem m120 : e120.ok (callA (DSn Ov.D 3000 []) 3000 e120.f e120.args e120.h) = true := by kernel_rfl
theorem s120 : e120.Is Tryz.prog := seen_of Ov.dok Ov.ovok seen_nil m120
theorem m121 : e121.ok (callA (DSn Ov.D 3000 []) 3000 e121.f e121.args e121.h) = true := by kernel_rfl
theorem s121 : e121.Is Tryz.prog := seen_of Ov.dok Ov.ovok seen_nil m121
theorem m122 : e122.ok (callA (DSn Ov.D 3000 []) 3000 e122.f e122.args e122.h) = true := by kernel_rfl
theorem s122 : e122.Is Tryz.prog := seen_of Ov.dok Ov.ovok seen_nil m122
theorem m123 : e123.ok (callA (DSn Ov.D 3000 []) 3000 e123.f e123.args e123.h) = true := by kernel_rfl
theorem s123 : e123.Is Tryz.prog := seen_of Ov.dok Ov.ovok seen_nil m123
theorem m124 : e124.ok (callA (DSn Ov.D 3000 []) 3000 e124.f e124.args e124.h) = true := by kernel_rfl
theorem s124 : e124.Is Tryz.prog := seen_of Ov.dok Ov.ovok seen_nil m124
theorem m125 : e125.ok (callA (DSn Ov.D 3000 []) 3000 e125.f e125.args e125.h) = true := by kernel_rfl
theorem s125 : e125.Is Tryz.prog := seen_of Ov.dok Ov.ovok seen_nil m125
theorem m126 : e126.ok (callA (DSn Ov.D 3000 []) 3000 e126.f e126.args e126.h) = true := by kernel_rfl
theorem s126 : e126.Is Tryz.prog := seen_of Ov.dok Ov.ovok seen_nil m126
theorem m127 : e127.ok (callA (DSn Ov.D 3000 []) 3000 e127.f e127.args e127.h) = true := by kernel_rfl
theorem s127 : e127.Is Tryz.prog := seen_of Ov.dok Ov.ovok seen_nil m127
theorem m128 : e128.ok (callA (DSn Ov.D 3000 []) 3000 e128.f e128.args e128.h) = true := by kernel_rfl
theorem s128 : e128.Is Tryz.prog := seen_of Ov.dok Ov.ovok seen_nil m128
theorem m129 : e129.ok (callA (DSn Ov.D 3000 []) 3000 e129.f e129.args e129.h) = true := by kernel_rfl
theorem s129 : e129.Is Tryz.prog := seen_of Ov.dok Ov.ovok seen_nil m129
theorem m130 : e130.ok (callA (DSn Ov.D 3000 []) 3000 e130.f e130.args e130.h) = true := by kernel_rfl
theorem s130 : e130.Is Tryz.prog := seen_of Ov.dok Ov.ovok seen_nil m130
theorem m131 : e131.ok (callA (DSn Ov.D 3000 []) 3000 e131.f e131.args e131.h) = true := by kernel_rfl
theorem s131 : e131.Is Tryz.prog := seen_of Ov.dok Ov.ovok seen_nil m131
theorem m132 : e132.ok (callA (DSn Ov.D 3000 []) 3000 e132.f e132.args e132.h) = true := by kernel_rfl
theorem s132 : e132.Is Tryz.prog := seen_of Ov.dok Ov.ovok seen_nil m132
theorem m133 : e133.ok (callA (DSn Ov.D 3000 []) 3000 e133.f e133.args e133.h) = true := by kernel_rfl
theorem s133 : e133.Is Tryz.prog := seen_of Ov.dok Ov.ovok seen_nil m133
theorem m134 : e134.ok (callA (DSn Ov.D 3000 []) 3000 e134.f e134.args e134.h) = true := by kernel_rfl
theorem s134 : e134.Is Tryz.prog := seen_of Ov.dok Ov.ovok seen_nil m134
theorem m135 : e135.ok (callA (DSn Ov.D 3000 []) 3000 e135.f e135.args e135.h) = true := by kernel_rfl
theorem s135 : e135.Is Tryz.prog := seen_of Ov.dok Ov.ovok seen_nil m135
theorem m136 : e136.ok (callA (DSn Ov.D 3000 []) 3000 e136.f e136.args e136.h) = true := by kernel_rfl
theorem s136 : e136.Is Tryz.prog := seen_of Ov.dok Ov.ovok seen_nil m136
theorem m137 : e137.ok (callA (DSn Ov.D 3000 []) 3000 e137.f e137.args e137.h) = true := by kernel_rfl
theorem s137 : e137.Is Tryz.prog := seen_of Ov.dok Ov.ovok seen_nil m137
theorem m138 : e138.ok (callA (DSn Ov.D 3000 []) 3000 e138.f e138.args e138.h) = true := by kernel_rfl
theorem s138 : e138.Is Tryz.prog := seen_of Ov.dok Ov.ovok seen_nil m138
end Go.Proofs.YtahokmlfnkakiaaGreat.R5
