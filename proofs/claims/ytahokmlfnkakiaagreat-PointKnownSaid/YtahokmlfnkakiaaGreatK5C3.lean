/- Calls of a closed law, checked by the kernel: each was seen as it is written down. -/
import Derived.Test.YtahokmlfnkakiaaGreatK5D
import Derived.Test.YtahokmlfnkakiaaGreatK5C0
import Derived.Test.YtahokmlfnkakiaaGreatK5C1
import Derived.Test.YtahokmlfnkakiaaGreatK5C2
import Derived.KernelRfl
set_option linter.unusedVariables false
set_option maxRecDepth 1000000
namespace Go.Proofs.YtahokmlfnkakiaaGreat.R5
open Go Go.Abs Go.Proofs Go.Proofs.YtahokmlfnkakiaaGreat
theorem m3 : e3.ok (callA (DSn Ov.D 3000 [e4, e5, e6, e7, e8, e9, e10, e11, e12, e13, e14, e15, e16, e17, e18, e19, e20, e21, e22, e23, e24, e25, e26, e27, e28, e29, e30, e31, e32, e33, e34, e35, e36, e37, e38]) 3000 e3.f e3.args e3.h) = true := by kernel_rfl
theorem s3 : e3.Is Tryz.prog := seen_of Ov.dok Ov.ovok (seen_cons s4 (seen_cons s5 (seen_cons s6 (seen_cons s7 (seen_cons s8 (seen_cons s9 (seen_cons s10 (seen_cons s11 (seen_cons s12 (seen_cons s13 (seen_cons s14 (seen_cons s15 (seen_cons s16 (seen_cons s17 (seen_cons s18 (seen_cons s19 (seen_cons s20 (seen_cons s21 (seen_cons s22 (seen_cons s23 (seen_cons s24 (seen_cons s25 (seen_cons s26 (seen_cons s27 (seen_cons s28 (seen_cons s29 (seen_cons s30 (seen_cons s31 (seen_cons s32 (seen_cons s33 (seen_cons s34 (seen_cons s35 (seen_cons s36 (seen_cons s37 (seen_cons s38 seen_nil))))))))))))))))))))))))))))))))))) m3
end Go.Proofs.YtahokmlfnkakiaaGreat.R5
