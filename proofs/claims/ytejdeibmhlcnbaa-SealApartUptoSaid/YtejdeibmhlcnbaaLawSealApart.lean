/- The law SealApart: for every input of which what is read is of bulk at most 1048576 the call returns true, and each argument reads as it did; no other condition. -/
import Derived.Test.YtejdeibmhlcnbaaRows
import Derived.Test.YtejdeibmhlcnbaaLSealApart
import Derived.Test.YtejdeibmhlcnbaaS5
import Derived.WalkKit
import Derived.ProofKit
import Derived.OpenShut
import Derived.ShutString
import Derived.ChangeOld
import Derived.Below
import Derived.Carry
import Derived.SizedLaws
import Derived.JoinedCond
set_option linter.unusedVariables false
set_option maxRecDepth 1000000
namespace Go.Proofs.Ytejdeibmhlcnbaa.sealApart
open Go Go.ChangeShapes Go.WideShapes Go.ChangeAt Go.RowKit
theorem own : ownKnob Try.prog.godebug = none := by kernel_rfl
theorem laidOut : laidOutB Try.prog = true := by kernel_rfl
theorem walk (W : World) (a0 : Int) (a1 : Int) (a2 : Int) (a3 : Option Addr) (len3 cap3 : Nat) (z3 : List Int) (a4 : Option Addr) (len4 cap4 : Nat) (z4 : List Int) (a5 : Option Addr) (len5 cap5 : Nat) (z5 : List Int) (w0 : (Lit.int .u64 a0).wf = true) (w1 : (Lit.int .i64 a1).wf = true) (w2 : (Lit.int .i64 a2).wf = true) (w3 : Abs.IsRow .u8 W a3 len3 cap3 z3) (y3 : len3 ≤ 1048576) (w4 : Abs.IsRow .u8 W a4 len4 cap4 z4) (y4 : len4 ≤ 1048576) (w5 : Abs.IsRow .u8 W a5 len5 cap5 z5) (y5 : len5 ≤ 1048576) : Calls Try.prog 12 #[.int .u64 a0, .int .i64 a1, .int .i64 a2, .slice a3 len3 cap3, .slice a4 len4 cap4, .slice a5 len5 cap5] W fun e w' => e = .returned (.bool true) ∧ Below W.heap.size W w' := by
  obtain ⟨h', e⟩ := T.SealApartU (a0) (a1) (a2) (Abs.argSl a3 len3) (Abs.argSl a4 len4) (Abs.argSl a5 len5) (Abs.impH W) (Abs.imp_wf W) (Abs.wf_u64 w0) (Abs.wf_i64 w1) (Abs.wf_i64 w2) (Abs.bytesIn (z3.take len3)) (Abs.isRow_rdB w3) (by have := Abs.bytesIn_len z3 len3; omega) (Abs.bytesIn (z4.take len4)) (Abs.isRow_rdB w4) (by have := Abs.bytesIn_len z4 len4; omega) (Abs.bytesIn (z5.take len5)) (Abs.isRow_rdB w5) (by have := Abs.bytesIn_len z5 len5; omega)
  exact Abs.world_law Tab.dok Tab.ovok (args := [.int .u64 a0, .int .i64 a1, .int .i64 a2, Abs.encSl (Abs.argSl a3 len3), Abs.encSl (Abs.argSl a4 len4), Abs.encSl (Abs.argSl a5 len5)]) (h' := h') (T.ok_12 (a0, a1, a2, Abs.argSl a3 len3, Abs.argSl a4 len4, Abs.argSl a5 len5) (Abs.impH W) true h' e) (.cons (.int _ _) (.cons (.int _ _) (.cons (.int _ _) (.cons (Abs.isRow_vr w3) (.cons (Abs.isRow_vr w4) (.cons (Abs.isRow_vr w5) (.nil)))))))
theorem bulk_lits {H : Type} (k : IntKind) : ∀ zs : List Int, Rows.uptoBulkAll (lits (H := H) k zs) = zs.length
  | [] => by simp [lits, Rows.uptoBulkAll]
  | z :: zs => by
    have := bulk_lits (H := H) k zs
    simp only [lits, List.map_cons, Rows.uptoBulkAll, Rows.uptoBulk, List.length_cons] at this ⊢
    omega
theorem bulk_ints {H : Type} {enc : TypeId × Value → H} {P : Program} {W : World} {base : Nat} {spare : Nat → Bool} {held : Bool} {t e : TypeId} {k : IntKind} {a : Option Addr} {len cap : Nat} {d : DataW H} {ps : List MemPlace} (hu : P.underlying t = some (.slice e)) (he : P.underlying e = some (.int k)) (hc : P.cellsOf e = 1)
    (h : DataW.Trod enc P W base spare held t (.slice a len cap) d ps) : len ≤ Rows.uptoBulk d := by
  obtain ⟨fuel, hf⟩ := h
  rcases open_ints hu he hc hf with ⟨hcs, _⟩ | ⟨x, l, c, zs, hcs, _, hl, _, hz, hx, _, _⟩
  · simp [Value.cells] at hcs
    obtain ⟨rfl, rfl, rfl⟩ := hcs
    exact Nat.zero_le _
  · simp [Value.cells] at hcs
    obtain ⟨rfl, rfl, rfl⟩ := hcs
    obtain ⟨hx, _⟩ := Prod.mk.inj hx
    subst hx
    simp only [Rows.uptoBulk, bulk_lits]
    have hl2 : len ≤ zs.length := by
      rw [hz]
      split
      · exact hl
      · exact Nat.le_refl _
    rw [List.length_take]
    omega
theorem lifted (os : Os) (started : os.Started) (H : Type) (enc : TypeId × Value → H) (F0 : Stop.Interp) :
    ReturnsInHanded {} Try.checked os 12 .any ((Rows.OpenSpec.upto Rows.sealApartSpec).pre6 enc Try.prog Try.f12 Rows.sealApartUptoRow.domain false) (((Rows.OpenSpec.upto Rows.sealApartSpec).at F0).post enc Try.prog Try.f12 false true false false) := by
  refine returnsInHanded_of_cond (C := Try.checked) (s := Rows.OpenSpec.upto Rows.sealApartSpec) (k := Rows.uptoSmall) rfl own started (by kernel_rfl) Try.func12
    (OpenSpec.witness (enc := enc) (C := Try.checked) (s := Rows.OpenSpec.upto Rows.sealApartSpec) (k := Rows.uptoSmall) rfl false ⟨#[], #[.int .u64 0, .int .i64 0, .int .i64 0, .slice none 0 0, .slice none 0 0, .slice none 0 0], []⟩ 8 (by kernel_rfl) (by kernel_rfl) (by kernel_rfl)
      (x := ([.lit (.int .u64 0), .lit (.int .i64 0), .lit (.int .i64 0), .nil, .nil, .nil], [], [])) (by kernel_rfl) (by kernel_rfl) (decide_eq_true (by simp [Rows.uptoBulkAll, Rows.uptoBulk]))) ?_
  intro W base args ds gs before hval0 hW _ hk _
  have hval : ∀ (j : Nat) t v, Try.f12.params[j]? = some t → args[j]? = some v → Value.okWide Try.prog W .any base t v := hval0
  have hW' := hW
  obtain ⟨p, q, hA0, hV, rfl, hfz, hnd⟩ := hW
  have hA : DataW.TrodAll enc Try.prog W 0 (fun _ => true) true Try.f12.params.toList args.toList ds p := hA0
  rw [Try.params12] at hA hval
  obtain ⟨v0, vs0, d0, ds0, p0, q0, hargs, rfl, rfl, h0, r0⟩ := trodAll_cons hA
  obtain ⟨v1, vs1, d1, ds1, p1, q1, rfl, rfl, rfl, h1, r1⟩ := trodAll_cons r0
  obtain ⟨v2, vs2, d2, ds2, p2, q2, rfl, rfl, rfl, h2, r2⟩ := trodAll_cons r1
  obtain ⟨v3, vs3, d3, ds3, p3, q3, rfl, rfl, rfl, h3, r3⟩ := trodAll_cons r2
  obtain ⟨v4, vs4, d4, ds4, p4, q4, rfl, rfl, rfl, h4, r4⟩ := trodAll_cons r3
  obtain ⟨v5, vs5, d5, ds5, p5, q5, rfl, rfl, rfl, h5, r5⟩ := trodAll_cons r4
  obtain ⟨rfl, rfl, rfl⟩ := trodAll_nil r5
  obtain rfl : args = #[v0, v1, v2, v3, v4, v5] := by cases args; simp_all
  obtain ⟨rfl, rfl⟩ := trodVars_none hV
  obtain ⟨a0, rfl, rfl, rfl, w0⟩ := open_int Try.underlying39 (hval 0 39 v0 rfl rfl) h0
  obtain ⟨a1, rfl, rfl, rfl, w1⟩ := open_int Try.underlying3 (hval 1 3 v1 rfl rfl) h1
  obtain ⟨a2, rfl, rfl, rfl, w2⟩ := open_int Try.underlying3 (hval 2 3 v2 rfl rfl) h2
  obtain ⟨a3, len3, cap3, rfl⟩ := okWide_slice Try.underlying31 (hval 3 31 v3 rfl rfl)
  have k3 := h3
  have lt3 : ∀ x ∈ p3, x.block < W.heap.size := by obtain ⟨m, hm⟩ := k3; exact DataW.trod_lt m _ _ _ hm
  obtain ⟨z3, w3⟩ := Abs.isRow_of Try.underlying31 Try.underlying5 (by kernel_rfl) h3
  have u3 := bulk_ints Try.underlying31 Try.underlying5 (by kernel_rfl) h3
  obtain ⟨a4, len4, cap4, rfl⟩ := okWide_slice Try.underlying31 (hval 4 31 v4 rfl rfl)
  have k4 := h4
  have lt4 : ∀ x ∈ p4, x.block < W.heap.size := by obtain ⟨m, hm⟩ := k4; exact DataW.trod_lt m _ _ _ hm
  obtain ⟨z4, w4⟩ := Abs.isRow_of Try.underlying31 Try.underlying5 (by kernel_rfl) h4
  have u4 := bulk_ints Try.underlying31 Try.underlying5 (by kernel_rfl) h4
  obtain ⟨a5, len5, cap5, rfl⟩ := okWide_slice Try.underlying31 (hval 5 31 v5 rfl rfl)
  have k5 := h5
  have lt5 : ∀ x ∈ p5, x.block < W.heap.size := by obtain ⟨m, hm⟩ := k5; exact DataW.trod_lt m _ _ _ hm
  obtain ⟨z5, w5⟩ := Abs.isRow_of Try.underlying31 Try.underlying5 (by kernel_rfl) h5
  have u5 := bulk_ints Try.underlying31 Try.underlying5 (by kernel_rfl) h5
  clear hA0 hval0
  have hk2 := of_decide_eq_true hk
  simp only [List.append_nil, Rows.uptoBulkAll] at hk2
  have y3 : len3 ≤ 1048576 := by omega
  have y4 : len4 ≤ 1048576 := by omega
  have y5 : len5 ≤ 1048576 := by omega
  refine (walk W a0 a1 a2 a3 len3 cap3 z3 a4 len4 cap4 z4 a5 len5 cap5 z5 w0 w1 w2 w3 y3 w4 y4 w5 y5).mono fun e W' ⟨he, bel⟩ => ?_
  subst he
  exact ⟨_, rfl, _, _, _, [], _, [], hW', trodAll_mk1 (shut_bool Try.underlying4 _), (trodAll_cons_mk (shut_int Try.underlying39 w0) (trodAll_cons_mk (shut_int Try.underlying3 w1) (trodAll_cons_mk (shut_int Try.underlying3 w2) (trodAll_cons_mk (Below.trod laidOut (by kernel_rfl) (of_decide_eq_true (by kernel_rfl)) k3 bel lt3) (trodAll_cons_mk (Below.trod laidOut (by kernel_rfl) (of_decide_eq_true (by kernel_rfl)) k4 bel lt4) (trodAll_cons_mk (Below.trod laidOut (by kernel_rfl) (of_decide_eq_true (by kernel_rfl)) k5 bel lt5) trodAll_mk0)))))), rfl, bel.frame _, fun h => by cases h⟩
theorem over : Rows.sealApartUptoRow.holds Try.pinned (Rows.OpenSpec.upto Rows.sealApartSpec) :=
  OpenClaim.holds_of_cond 12 Try.f12 rfl rfl rfl rfl rfl rfl rfl ⟨rfl, rfl, rfl, rfl, rfl⟩ rfl rfl rfl rfl rfl (by kernel_rfl) Try.func12 (by kernel_rfl)
    (of_decide_eq_true (by kernel_rfl)) (by unfold Func.isWrapper; first | (rw [if_pos (by decide +kernel)]; kernel_rfl) | (rw [if_neg (by decide +kernel)]; exact ⟨rfl, rfl⟩))
    (fun os started H enc _ F => lifted os started H enc F)
theorem proved : Rows.SealApartUptoSaid := over
end Go.Proofs.Ytejdeibmhlcnbaa.sealApart
namespace Go.Proofs.Ytejdeibmhlcnbaa
theorem sealApartUpto_holds : Rows.SealApartUptoSaid := sealApart.proved
#print axioms sealApartUpto_holds
end Go.Proofs.Ytejdeibmhlcnbaa
