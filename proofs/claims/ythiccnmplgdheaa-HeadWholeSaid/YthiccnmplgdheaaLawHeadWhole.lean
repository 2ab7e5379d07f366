/- The law HeadWhole: for every input the call returns true, and each argument reads as it did; no condition. -/
import Derived.Test.YthiccnmplgdheaaRows
import Derived.Test.YthiccnmplgdheaaFctHeadWhole
import Derived.Test.YthiccnmplgdheaaLHead2
import Derived.Test.YthiccnmplgdheaaS5
import Derived.WalkKit
import Derived.ProofKit
import Derived.OpenShut
import Derived.ShutString
import Derived.ChangeOld
import Derived.Below
import Derived.Carry
import Derived.SizedLaws
set_option linter.unusedVariables false
set_option maxRecDepth 1000000
namespace Go.Proofs.Ythiccnmplgdheaa.headWhole
open Go Go.ChangeShapes Go.WideShapes Go.ChangeAt Go.RowKit
theorem own : ownKnob Try.prog.godebug = none := by kernel_rfl
theorem laidOut : laidOutB Try.prog = true := by kernel_rfl
theorem walk (W : World) (a0 : Int) (a1 : Int) (a2 : Int) (a3 : Option Addr) (len3 cap3 : Nat) (z3 : List Int) (a4 : Option Addr) (len4 cap4 : Nat) (z4 : List Int) (w0 : (Lit.int .i64 a0).wf = true) (w1 : (Lit.int .i64 a1).wf = true) (w2 : (Lit.int .i64 a2).wf = true) (w3 : Abs.IsRow .u8 W a3 len3 cap3 z3) (y3 : len3 * 1 ≤ 140737488351232) (w4 : Abs.IsRow .u8 W a4 len4 cap4 z4) (y4 : len4 * 1 ≤ 140737488351232) : Calls Try.prog 8 #[.int .i64 a0, .int .i64 a1, .int .i64 a2, .slice a3 len3 cap3, .slice a4 len4 cap4] W fun e w' => e = .returned (.bool true) ∧ Below W.heap.size W w' := by
  obtain ⟨h', e⟩ := T.HeadWhole (a0) (a1) (a2) (Abs.argSl a3 len3) (Abs.argSl a4 len4) (Abs.impH W) (Abs.imp_wf W) (Abs.wf_i64 w0) (Abs.wf_i64 w1) (Abs.wf_i64 w2) (Abs.bytesIn (z3.take len3)) (Abs.isRow_rdB w3) (by have := Abs.bytesIn_len z3 len3; omega) (Abs.bytesIn (z4.take len4)) (Abs.isRow_rdB w4) (by have := Abs.bytesIn_len z4 len4; omega)
  exact Abs.world_law Tab.dok Tab.ovok (args := [.int .i64 a0, .int .i64 a1, .int .i64 a2, Abs.encSl (Abs.argSl a3 len3), Abs.encSl (Abs.argSl a4 len4)]) (h' := h') (T.ok_8 (a0, a1, a2, Abs.argSl a3 len3, Abs.argSl a4 len4) (Abs.impH W) true h' e) (.cons (.int _ _) (.cons (.int _ _) (.cons (.int _ _) (.cons (Abs.isRow_vr w3) (.cons (Abs.isRow_vr w4) (.nil))))))
theorem lifted (os : Os) (started : os.Started) (H : Type) (enc : TypeId × Value → H) :
    ReturnsInHanded {} Try.checked os 8 .any (Rows.headWholeSpec.pre6 enc Try.prog Try.f8 Rows.headWholeRow.domain false) (Rows.headWholeSpec.post enc Try.prog Try.f8 false true false false) := by
  refine returnsInHanded_of_change_sized (C := Try.checked) own started (by kernel_rfl) Try.func8
    (ChangeSpec.witness6 (enc := enc) (C := Try.checked) false ⟨#[], #[.int .i64 0, .int .i64 0, .int .i64 0, .slice none 0 0, .slice none 0 0], []⟩ 8 (by kernel_rfl) (by kernel_rfl) (by kernel_rfl) (by kernel_rfl)) ?_
  intro W base args ds gs before hval0 hW hcnd hsz0 _
  have hsz : (DataW.weightsEach Try.prog (Try.f8.params.toList ++ Rows.headWholeSpec.plain.varTypes Try.prog) (ds ++ gs)).all (· ≤ reachBytes) = true := hsz0
  have hval : ∀ (j : Nat) t v, Try.f8.params[j]? = some t → args[j]? = some v → Value.okWide Try.prog W .any base t v := hval0
  have hW' := hW
  obtain ⟨p, q, hA0, hV, rfl, hfz, hnd⟩ := hW
  have hA : DataW.TrodAll enc Try.prog W 0 (fun _ => true) true Try.f8.params.toList args.toList ds p := hA0
  rw [Try.params8] at hA hval hsz
  obtain ⟨v0, vs0, d0, ds0, p0, q0, hargs, rfl, rfl, h0, r0⟩ := trodAll_cons hA
  obtain ⟨v1, vs1, d1, ds1, p1, q1, rfl, rfl, rfl, h1, r1⟩ := trodAll_cons r0
  obtain ⟨v2, vs2, d2, ds2, p2, q2, rfl, rfl, rfl, h2, r2⟩ := trodAll_cons r1
  obtain ⟨v3, vs3, d3, ds3, p3, q3, rfl, rfl, rfl, h3, r3⟩ := trodAll_cons r2
  obtain ⟨v4, vs4, d4, ds4, p4, q4, rfl, rfl, rfl, h4, r4⟩ := trodAll_cons r3
  obtain ⟨rfl, rfl, rfl⟩ := trodAll_nil r4
  obtain rfl : args = #[v0, v1, v2, v3, v4] := by cases args; simp_all
  obtain ⟨rfl, rfl⟩ := trodVars_none hV
  obtain ⟨a0, rfl, rfl, rfl, w0⟩ := open_int Try.underlying3 (hval 0 3 v0 rfl rfl) h0
  obtain ⟨a1, rfl, rfl, rfl, w1⟩ := open_int Try.underlying3 (hval 1 3 v1 rfl rfl) h1
  obtain ⟨a2, rfl, rfl, rfl, w2⟩ := open_int Try.underlying3 (hval 2 3 v2 rfl rfl) h2
  obtain ⟨a3, len3, cap3, rfl⟩ := okWide_slice Try.underlying30 (hval 3 30 v3 rfl rfl)
  have k3 := h3
  have lt3 : ∀ x ∈ p3, x.block < W.heap.size := by obtain ⟨m, hm⟩ := k3; exact DataW.trod_lt m _ _ _ hm
  obtain ⟨z3, w3⟩ := Abs.isRow_of Try.underlying30 Try.underlying5 (by kernel_rfl) h3
  have y3 : len3 * 1 ≤ 140737488351232 := Abs.sized_ints hsz (j := 3) (t := 30) rfl rfl Try.underlying30 Try.underlying5 (by kernel_rfl) (by kernel_rfl) h3
  obtain ⟨a4, len4, cap4, rfl⟩ := okWide_slice Try.underlying30 (hval 4 30 v4 rfl rfl)
  have k4 := h4
  have lt4 : ∀ x ∈ p4, x.block < W.heap.size := by obtain ⟨m, hm⟩ := k4; exact DataW.trod_lt m _ _ _ hm
  obtain ⟨z4, w4⟩ := Abs.isRow_of Try.underlying30 Try.underlying5 (by kernel_rfl) h4
  have y4 : len4 * 1 ≤ 140737488351232 := Abs.sized_ints hsz (j := 4) (t := 30) rfl rfl Try.underlying30 Try.underlying5 (by kernel_rfl) (by kernel_rfl) h4
  clear hA0 hval0 hsz0 hsz
  refine (walk W a0 a1 a2 a3 len3 cap3 z3 a4 len4 cap4 z4 w0 w1 w2 w3 y3 w4 y4).mono fun e W' ⟨he, bel⟩ => ?_
  subst he
  exact ⟨_, rfl, _, _, _, [], _, [], hW', trodAll_mk1 (shut_bool Try.underlying4 _), (trodAll_cons_mk (shut_int Try.underlying3 w0) (trodAll_cons_mk (shut_int Try.underlying3 w1) (trodAll_cons_mk (shut_int Try.underlying3 w2) (trodAll_cons_mk (Below.trod laidOut (by kernel_rfl) (of_decide_eq_true (by kernel_rfl)) k3 bel lt3) (trodAll_cons_mk (Below.trod laidOut (by kernel_rfl) (of_decide_eq_true (by kernel_rfl)) k4 bel lt4) trodAll_mk0))))), rfl, bel.frame _, fun h => by cases h⟩
theorem over : Rows.headWholeRow.holds Try.pinned (OpenSpec.ofChange Rows.headWholeSpec) :=
  OpenClaim.holds_of_wide 8 Try.f8 rfl rfl rfl rfl rfl rfl rfl ⟨rfl, rfl, rfl, rfl, rfl⟩ rfl rfl rfl rfl rfl named Try.func8 closed
    (of_decide_eq_true (by kernel_rfl)) (by unfold Func.isWrapper; first | (rw [if_pos (by decide +kernel)]; kernel_rfl) | (rw [if_neg (by decide +kernel)]; exact ⟨rfl, rfl⟩))
    (fun os started H enc _ => lifted os started H enc)
theorem proved : Rows.HeadWholeSaid := over
end Go.Proofs.Ythiccnmplgdheaa.headWhole
namespace Go.Proofs.Ythiccnmplgdheaa
theorem headWhole_holds : Rows.HeadWholeSaid := headWhole.proved
#print axioms headWhole_holds
end Go.Proofs.Ythiccnmplgdheaa
