/- The law AcksAnswer: for every input the call returns true, and each argument reads as it did; no condition. -/
import Derived.Test.YthiccnmplgdheaaRows
import Derived.Test.YthiccnmplgdheaaFctAcksAnswer
import Derived.Test.YthiccnmplgdheaaG18
import Derived.Test.YthiccnmplgdheaaG2
import Derived.WalkKit
import Derived.ProofKit
import Derived.OpenShut
import Derived.ShutString
import Derived.ChangeOld
import Derived.Below
import Derived.Carry
import Derived.SizedLaws
set_option linter.unusedVariables false
set_option maxRecDepth 1000000
namespace Go.Proofs.Ythiccnmplgdheaa.acksAnswer
open Go Go.ChangeShapes Go.WideShapes Go.ChangeAt Go.RowKit
theorem own : ownKnob Try.prog.godebug = none := by kernel_rfl
theorem laidOut : laidOutB Try.prog = true := by kernel_rfl
theorem walk (W : World) (a0 : Option Addr) (len0 cap0 : Nat) (z0 : List Int) (w0 : Abs.IsRow .i64 W a0 len0 cap0 z0) (y0 : len0 * 8 ≤ 140737488351232) : Calls Try.prog 12 #[.slice a0 len0 cap0] W fun e w' => e = .returned (.bool true) ∧ Below W.heap.size W w' := by
  obtain ⟨h', e⟩ := T.AcksAnswer (Abs.argSl a0 len0) (Abs.impH W) (Abs.imp_wf W) (z0.take len0) (Abs.isRow_rd w0) (by have := Abs.ints_len z0 len0; omega) (Abs.isRow_i64 w0)
  exact Abs.world_law Tab.dok Tab.ovok (args := [Abs.encSl (Abs.argSl a0 len0)]) (h' := h') (T.ok_12 (Abs.argSl a0 len0) (Abs.impH W) true h' e) (.cons (Abs.isRow_vr w0) (.nil))
theorem lifted (os : Os) (started : os.Started) (H : Type) (enc : TypeId × Value → H) :
    ReturnsInHanded {} Try.checked os 12 .any (Rows.acksAnswerSpec.pre6 enc Try.prog Try.f12 Rows.acksAnswerRow.domain false) (Rows.acksAnswerSpec.post enc Try.prog Try.f12 false true false false) := by
  refine returnsInHanded_of_change_sized (C := Try.checked) own started (by kernel_rfl) Try.func12
    (ChangeSpec.witness6 (enc := enc) (C := Try.checked) false ⟨#[], #[.slice none 0 0], []⟩ 8 (by kernel_rfl) (by kernel_rfl) (by kernel_rfl) (by kernel_rfl)) ?_
  intro W base args ds gs before hval0 hW hcnd hsz0 _
  have hsz : (DataW.weightsEach Try.prog (Try.f12.params.toList ++ Rows.acksAnswerSpec.plain.varTypes Try.prog) (ds ++ gs)).all (· ≤ reachBytes) = true := hsz0
  have hval : ∀ (j : Nat) t v, Try.f12.params[j]? = some t → args[j]? = some v → Value.okWide Try.prog W .any base t v := hval0
  have hW' := hW
  obtain ⟨p, q, hA0, hV, rfl, hfz, hnd⟩ := hW
  have hA : DataW.TrodAll enc Try.prog W 0 (fun _ => true) true Try.f12.params.toList args.toList ds p := hA0
  rw [Try.params12] at hA hval hsz
  obtain ⟨v0, vs0, d0, ds0, p0, q0, hargs, rfl, rfl, h0, r0⟩ := trodAll_cons hA
  obtain ⟨rfl, rfl, rfl⟩ := trodAll_nil r0
  obtain rfl : args = #[v0] := by cases args; simp_all
  obtain ⟨rfl, rfl⟩ := trodVars_none hV
  obtain ⟨a0, len0, cap0, rfl⟩ := okWide_slice Try.underlying22 (hval 0 22 v0 rfl rfl)
  have k0 := h0
  have lt0 : ∀ x ∈ p0, x.block < W.heap.size := by obtain ⟨m, hm⟩ := k0; exact DataW.trod_lt m _ _ _ hm
  obtain ⟨z0, w0⟩ := Abs.isRow_of Try.underlying22 Try.underlying3 (by kernel_rfl) h0
  have y0 : len0 * 8 ≤ 140737488351232 := Abs.sized_ints hsz (j := 0) (t := 22) rfl rfl Try.underlying22 Try.underlying3 (by kernel_rfl) (by kernel_rfl) h0
  clear hA0 hval0 hsz0 hsz
  refine (walk W a0 len0 cap0 z0 w0 y0).mono fun e W' ⟨he, bel⟩ => ?_
  subst he
  exact ⟨_, rfl, _, _, _, [], _, [], hW', trodAll_mk1 (shut_bool Try.underlying4 _), (trodAll_cons_mk (Below.trod laidOut (by kernel_rfl) (of_decide_eq_true (by kernel_rfl)) k0 bel lt0) trodAll_mk0), rfl, bel.frame _, fun h => by cases h⟩
theorem over : Rows.acksAnswerRow.holds Try.pinned (OpenSpec.ofChange Rows.acksAnswerSpec) :=
  OpenClaim.holds_of_wide 12 Try.f12 rfl rfl rfl rfl rfl rfl rfl ⟨rfl, rfl, rfl, rfl, rfl⟩ rfl rfl rfl rfl rfl named Try.func12 closed
    (of_decide_eq_true (by kernel_rfl)) (by unfold Func.isWrapper; first | (rw [if_pos (by decide +kernel)]; kernel_rfl) | (rw [if_neg (by decide +kernel)]; exact ⟨rfl, rfl⟩))
    (fun os started H enc _ => lifted os started H enc)
theorem proved : Rows.AcksAnswerSaid := over
end Go.Proofs.Ythiccnmplgdheaa.acksAnswer
namespace Go.Proofs.Ythiccnmplgdheaa
theorem acksAnswer_holds : Rows.AcksAnswerSaid := acksAnswer.proved
#print axioms acksAnswer_holds
end Go.Proofs.Ythiccnmplgdheaa
