/- Calls of a closed law, checked by the kernel: each was seen as it is written down. -/
import Derived.Test.YtahokmlfnkakiaaGreatK5D
import Derived.KernelRfl
set_option linter.unusedVariables false
set_option maxRecDepth 1000000
namespace Go.Proofs.YtahokmlfnkakiaaGreat.R5
open Go Go.Abs Go.Proofs Go.Proofs.YtahokmlfnkakiaaGreat
theorem m78 : e78.ok (callA (DSn Ov.D 3000 []) 3000 e78.f e78.args e78.h) = true := by kernel_rfl
theorem s78 : e78.Is Tryz.prog := seen_of Ov.dok Ov.ovok seen_nil m78
theorem m79 : e79.ok (callA (DSn Ov.D 3000 []) 3000 e79.f e79.args e79.h) = true := by kernel_rfl
theorem s79 : e79.Is Tryz.prog := seen_of Ov.dok Ov.ovok seen_nil m79
theorem m80 : e80.ok (callA (DSn Ov.D 3000 []) 3000 e80.f e80.args e80.h) = true := by kernel_rfl
theorem s80 : e80.Is Tryz.prog := seen_of Ov.dok Ov.ovok seen_nil m80
theorem m81 : e81.ok (callA (DSn Ov.D 3000 []) 3000 e81.f e81.args e81.h) = true := by kernel_rfl
theorem s81 : e81.Is Tryz.prog := seen_of Ov.dok Ov.ovok seen_nil m81
theorem m82 : e82.ok (callA (DSn Ov.D 3000 []) 3000 e82.f e82.args e82.h) = true := by kernel_rfl
theorem s82 : e82.Is Tryz.prog := seen_of Ov.dok Ov.ovok seen_nil m82
theorem m83 : e83.ok (callA (DSn Ov.D 3000 []) 3000 e83.f e83.args e83.h) = true := by kernel_rfl
theorem s83 : e83.Is Tryz.prog := seen_of Ov.dok Ov.ovok seen_nil m83
theorem m84 : e84.ok (callA (DSn Ov.D 3000 []) 3000 e84.f e84.args e84.h) = true := by kernel_rfl
theorem s84 : e84.Is Tryz.prog := seen_of Ov.dok Ov.ovok seen_nil m84
theorem m85 : e85.ok (callA (DSn Ov.D 3000 []) 3000 e85.f e85.args e85.h) = true := by kernel_rfl
theorem s85 : e85.Is Tryz.prog := seen_of Ov.dok Ov.ovok seen_nil m85
theorem m86 : e86.ok (callA (DSn Ov.D 3000 []) 3000 e86.f e86.args e86.h) = true := by kernel_rfl
theorem s86 : e86.Is Tryz.prog := seen_of Ov.dok Ov.ovok seen_nil m86
theorem m87 : e87.ok (callA (DSn Ov.D 3000 []) 3000 e87.f e87.args e87.h) = true := by kernel_rfl
theorem s87 : e87.Is Tryz.prog := seen_of Ov.dok Ov.ovok seen_nil m87
theorem m88 : e88.ok (callA (DSn Ov.D 3000 []) 3000 e88.f e88.args e88.h) = true := by kernel_rfl
theorem s88 : e88.Is Tryz.prog := seen_of Ov.dok Ov.ovok seen_nil m88
theorem m89 : e89.ok (callA (DSn Ov.D 3000 []) 3000 e89.f e89.args e89.h) = true := by kernel_rfl
theorem s89 : e89.Is Tryz.prog := seen_of Ov.dok Ov.ovok seen_nil m89
theorem m90 : e90.ok (callA (DSn Ov.D 3000 []) 3000 e90.f e90.args e90.h) = true := by kernel_rfl
theorem s90 : e90.Is Tryz.prog := seen_of Ov.dok Ov.ovok seen_nil m90
theorem m91 : e91.ok (callA (DSn Ov.D 3000 []) 3000 e91.f e91.args e91.h) = true := by kernel_rfl
theorem s91 : e91.Is Tryz.prog := seen_of Ov.dok Ov.ovok seen_nil m91
theorem m92 : e92.ok (callA (DSn Ov.D 3000 []) 3000 e92.f e92.args e92.h) = true := by kernel_rfl
theorem s92 : e92.Is Tryz.prog := seen_of Ov.dok Ov.ovok seen_nil m92
theorem m93 : e93.ok (callA (DSn Ov.D 3000 []) 3000 e93.f e93.args e93.h) = true := by kernel_rfl
theorem s93 : e93.Is Tryz.prog := seen_of Ov.dok Ov.ovok seen_nil m93
theorem m94 : e94.ok (callA (DSn Ov.D 3000 []) 3000 e94.f e94.args e94.h) = true := by kernel_rfl
theorem s94 : e94.Is Tryz.prog := seen_of Ov.dok Ov.ovok seen_nil m94
theorem m95 : e95.ok (callA (DSn Ov.D 3000 []) 3000 e95.f e95.args e95.h) = true := by kernel_rfl
theorem s95 : e95.Is Tryz.prog := seen_of Ov.dok Ov.ovok seen_nil m95
theorem m96 : e96.ok (callA (DSn Ov.D 3000 []) 3000 e96.f e96.args e96.h) = true := by kernel_rfl
theorem s96 : e96.Is Tryz.prog := seen_of Ov.dok Ov.ovok seen_nil m96
theorem m97 : e97.ok (callA (DSn Ov.D 3000 []) 3000 e97.f e97.args e97.h) = true := by kernel_rfl
theorem s97 : e97.Is Tryz.prog := seen_of Ov.dok Ov.ovok seen_nil m97
theorem m98 : e98.ok (callA (DSn Ov.D 3000 []) 3000 e98.f e98.args e98.h) = true := by kernel_rfl
theorem s98 : e98.Is Tryz.prog := seen_of Ov.dok Ov.ovok seen_nil m98
theorem m99 : e99.ok (callA (DSn Ov.D 3000 []) 3000 e99.f e99.args e99.h) = true := by kernel_rfl
theorem s99 : e99.Is Tryz.prog := seen_of Ov.dok Ov.ovok seen_nil m99
theorem m100 : e100.ok (callA (DSn Ov.D 3000 []) 3000 e100.f e100.args e100.h) = true := by kernel_rfl
theorem s100 : e100.Is Tryz.prog := seen_of Ov.dok Ov.ovok seen_nil m100
theorem m101 : e101.ok (callA (DSn Ov.D 3000 []) 3000 e101.f e101.args e101.h) = true := by kernel_rfl
theorem s101 : e101.Is Tryz.prog := seen_of Ov.dok Ov.ovok seen_nil m101
theorem m102 : e102.ok (callA (DSn Ov.D 3000 []) 3000 e102.f e102.args e102.h) = true := by kernel_rfl
theorem s102 : e102.Is Tryz.prog := seen_of Ov.dok Ov.ovok seen_nil m102
theorem m103 : e103.ok (callA (DSn Ov.D 3000 []) 3000 e103.f e103.args e103.h) = true := by kernel_rfl
theorem s103 : e103.Is Tryz.prog := seen_of Ov.dok Ov.ovok seen_nil m103
end Go.Proofs.YtahokmlfnkakiaaGreat.R5
