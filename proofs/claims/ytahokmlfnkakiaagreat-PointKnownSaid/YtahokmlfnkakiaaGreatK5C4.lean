/- Calls of a closed law, checked by the kernel: each was seen as it is written down. -/
import Derived.Test.YtahokmlfnkakiaaGreatK5D
import Derived.KernelRfl
set_option linter.unusedVariables false
set_option maxRecDepth 1000000
namespace Go.Proofs.YtahokmlfnkakiaaGreat.R5
open Go Go.Abs Go.Proofs Go.Proofs.YtahokmlfnkakiaaGreat
theorem m39 : e39.ok (callA (DSn Ov.D 3000 []) 3000 e39.f e39.args e39.h) = true := by kernel_rfl
theorem s39 : e39.Is Tryz.prog := seen_of Ov.dok Ov.ovok seen_nil m39
theorem m41 : e41.ok (callA (DSn Ov.D 3000 []) 3000 e41.f e41.args e41.h) = true := by kernel_rfl
theorem s41 : e41.Is Tryz.prog := seen_of Ov.dok Ov.ovok seen_nil m41
theorem m42 : e42.ok (callA (DSn Ov.D 3000 []) 3000 e42.f e42.args e42.h) = true := by kernel_rfl
theorem s42 : e42.Is Tryz.prog := seen_of Ov.dok Ov.ovok seen_nil m42
theorem m43 : e43.ok (callA (DSn Ov.D 3000 []) 3000 e43.f e43.args e43.h) = true := by kernel_rfl
theorem s43 : e43.Is Tryz.prog := seen_of Ov.dok Ov.ovok seen_nil m43
theorem m44 : e44.ok (callA (DSn Ov.D 3000 []) 3000 e44.f e44.args e44.h) = true := by kernel_rfl
theorem s44 : e44.Is Tryz.prog := seen_of Ov.dok Ov.ovok seen_nil m44
theorem m45 : e45.ok (callA (DSn Ov.D 3000 []) 3000 e45.f e45.args e45.h) = true := by kernel_rfl
theorem s45 : e45.Is Tryz.prog := seen_of Ov.dok Ov.ovok seen_nil m45
theorem m46 : e46.ok (callA (DSn Ov.D 3000 []) 3000 e46.f e46.args e46.h) = true := by kernel_rfl
theorem s46 : e46.Is Tryz.prog := seen_of Ov.dok Ov.ovok seen_nil m46
theorem m47 : e47.ok (callA (DSn Ov.D 3000 []) 3000 e47.f e47.args e47.h) = true := by kernel_rfl
theorem s47 : e47.Is Tryz.prog := seen_of Ov.dok Ov.ovok seen_nil m47
theorem m48 : e48.ok (callA (DSn Ov.D 3000 []) 3000 e48.f e48.args e48.h) = true := by kernel_rfl
theorem s48 : e48.Is Tryz.prog := seen_of Ov.dok Ov.ovok seen_nil m48
theorem m49 : e49.ok (callA (DSn Ov.D 3000 []) 3000 e49.f e49.args e49.h) = true := by kernel_rfl
theorem s49 : e49.Is Tryz.prog := seen_of Ov.dok Ov.ovok seen_nil m49
theorem m50 : e50.ok (callA (DSn Ov.D 3000 []) 3000 e50.f e50.args e50.h) = true := by kernel_rfl
theorem s50 : e50.Is Tryz.prog := seen_of Ov.dok Ov.ovok seen_nil m50
theorem m51 : e51.ok (callA (DSn Ov.D 3000 []) 3000 e51.f e51.args e51.h) = true := by kernel_rfl
theorem s51 : e51.Is Tryz.prog := seen_of Ov.dok Ov.ovok seen_nil m51
theorem m52 : e52.ok (callA (DSn Ov.D 3000 []) 3000 e52.f e52.args e52.h) = true := by kernel_rfl
theorem s52 : e52.Is Tryz.prog := seen_of Ov.dok Ov.ovok seen_nil m52
theorem m53 : e53.ok (callA (DSn Ov.D 3000 []) 3000 e53.f e53.args e53.h) = true := by kernel_rfl
theorem s53 : e53.Is Tryz.prog := seen_of Ov.dok Ov.ovok seen_nil m53
theorem m54 : e54.ok (callA (DSn Ov.D 3000 []) 3000 e54.f e54.args e54.h) = true := by kernel_rfl
theorem s54 : e54.Is Tryz.prog := seen_of Ov.dok Ov.ovok seen_nil m54
theorem m55 : e55.ok (callA (DSn Ov.D 3000 []) 3000 e55.f e55.args e55.h) = true := by kernel_rfl
theorem s55 : e55.Is Tryz.prog := seen_of Ov.dok Ov.ovok seen_nil m55
theorem m56 : e56.ok (callA (DSn Ov.D 3000 []) 3000 e56.f e56.args e56.h) = true := by kernel_rfl
theorem s56 : e56.Is Tryz.prog := seen_of Ov.dok Ov.ovok seen_nil m56
theorem m57 : e57.ok (callA (DSn Ov.D 3000 []) 3000 e57.f e57.args e57.h) = true := by kernel_rfl
theorem s57 : e57.Is Tryz.prog := seen_of Ov.dok Ov.ovok seen_nil m57
end Go.Proofs.YtahokmlfnkakiaaGreat.R5
