/- Lemmas about the typed texts (joined: SHead2 SHead3 SHead4). -/
import Derived.Test.YthiccnmplgdheaaG4
import Derived.Test.YthiccnmplgdheaaG13
set_option linter.unusedVariables false
set_option linter.unusedSimpArgs false
namespace Go.Proofs.Ythiccnmplgdheaa.T
open Go Go.Abs Go.Proofs
theorem clipB_f {h : H} {s : Sl} {l : List UInt8} (hr : RdB h s l) (hl : l.length <= 2 ^ 47) : ∃ s', slices_Clip_byte s h = some (s', h) /\ RdB h s' l /\ ∀ n, Fr n s -> Fr n s' := by
  obtain ⟨s3, e3, r3, _, _, f3⟩ := clip_ok (by omega) (by unfold B63; omega) hr (by rw [RdB.len hr]; unfold B63; omega)
  refine ⟨s3, ?_, r3, f3⟩
  unfold slices_Clip_byte
  rw [e3, bindO_some]
end Go.Proofs.Ythiccnmplgdheaa.T
