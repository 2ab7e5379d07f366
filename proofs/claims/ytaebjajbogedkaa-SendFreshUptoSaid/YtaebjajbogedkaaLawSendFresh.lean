/- The law SendFresh: for every input of which what is read is of bulk at most 1048576 the call returns true, and each argument reads as it did; no other condition. -/
import Derived.Test.YtaebjajbogedkaaRows
import Derived.Test.YtaebjajbogedkaaFctSendFresh
import Derived.Test.YtaebjajbogedkaaG20
import Derived.Test.YtaebjajbogedkaaG2
import Derived.Test.YtaebjajbogedkaaG17
import Derived.WalkKit
import Derived.ProofKit
import Derived.OpenShut
import Derived.ShutString
import Derived.ChangeOld
import Derived.Below
import Derived.Carry
import Derived.SizedLaws
import Derived.JoinedCond
set_option linter.unusedVariables false
set_option maxRecDepth 1000000
namespace Go.Proofs.Ytaebjajbogedkaa.sendFresh
open Go Go.ChangeShapes Go.WideShapes Go.ChangeAt Go.RowKit
theorem own : ownKnob Try.prog.godebug = none := by kernel_rfl
theorem laidOut : laidOutB Try.prog = true := by kernel_rfl
theorem walk (W : World) (a0 : Int) (a1 : Option Addr) (len1 cap1 : Nat) (z1 : List Abs.CallD4) (w0 : (Lit.int .i64 a0).wf = true) (w1 : Abs.IsRowD4 W a1 len1 cap1 z1) (y1 : len1 ≤ 1048576) : Calls Try.prog 3 #[.int .i64 a0, .slice a1 len1 cap1] W fun e w' => e = .returned (.bool true) ∧ Below W.heap.size W w' := by
  obtain ⟨h', e⟩ := T.SendFreshU (a0) (Abs.argSl a1 len1) (Abs.impH W) (Abs.imp_wf W) (Abs.wf_i64 w0) _ (Abs.isRowD4_rd w1) (by have := Abs.isRowD4_len w1; rw [List.length_map]; omega)
  exact Abs.world_law Tab.dok Tab.ovok (args := [.int .i64 a0, Abs.encSl (Abs.argSl a1 len1)]) (h' := h') (T.ok_3 (a0, Abs.argSl a1 len1) (Abs.impH W) true h' e) (.cons (.int _ _) (.cons (Abs.isRowD4_vr w1) (.nil)))
theorem bulk_lits {H : Type} (k : IntKind) : ∀ zs : List Int, Rows.uptoBulkAll (lits (H := H) k zs) = zs.length
  | [] => by simp [lits, Rows.uptoBulkAll]
  | z :: zs => by
    have := bulk_lits (H := H) k zs
    simp only [lits, List.map_cons, Rows.uptoBulkAll, Rows.uptoBulk, List.length_cons] at this ⊢
    omega
theorem bulk_ints {H : Type} {enc : TypeId × Value → H} {P : Program} {W : World} {base : Nat} {spare : Nat → Bool} {held : Bool} {t e : TypeId} {k : IntKind} {a : Option Addr} {len cap : Nat} {d : DataW H} {ps : List MemPlace} (hu : P.underlying t = some (.slice e)) (he : P.underlying e = some (.int k)) (hc : P.cellsOf e = 1)
    (h : DataW.Trod enc P W base spare held t (.slice a len cap) d ps) : len ≤ Rows.uptoBulk d := by
  obtain ⟨fuel, hf⟩ := h
  rcases open_ints hu he hc hf with ⟨hcs, _⟩ | ⟨x, l, c, zs, hcs, _, hl, _, hz, hx, _, _⟩
  · simp [Value.cells] at hcs
    obtain ⟨rfl, rfl, rfl⟩ := hcs
    exact Nat.zero_le _
  · simp [Value.cells] at hcs
    obtain ⟨rfl, rfl, rfl⟩ := hcs
    obtain ⟨hx, _⟩ := Prod.mk.inj hx
    subst hx
    simp only [Rows.uptoBulk, bulk_lits]
    have hl2 : len ≤ zs.length := by
      rw [hz]
      split
      · exact hl
      · exact Nat.le_refl _
    rw [List.length_take]
    omega
theorem bulk_sum {H : Type} : ∀ (es : List (DataW H)), es.length ≤ Rows.uptoBulkAll es
  | [] => by simp
  | d :: es => by
    have h1 := bulk_sum es
    have h2 : 1 ≤ Rows.uptoBulk d := by unfold Rows.uptoBulk; split <;> omega
    simp only [List.length_cons, Rows.uptoBulkAll]; omega
theorem bulk_one {H : Type} : ∀ (es : List (DataW H)) (i : Nat) (d : DataW H), es[i]? = some d → Rows.uptoBulk d ≤ Rows.uptoBulkAll es := by
  intro es
  induction es with
  | nil => intro i d hd; simp at hd
  | cons e0 es ih =>
    intro i d hd
    cases i with
    | zero => simp at hd; subst hd; simp only [Rows.uptoBulkAll]; omega
    | succ i => have := ih i d (by simpa using hd); simp only [Rows.uptoBulkAll]; omega
open Abs in
theorem isRowDU_of {H : Type} {enc : TypeId × Value → H} {P : Program} {W : World} {t e tI tU tS : TypeId} {fs : Array Field} {a : Option Addr} {len cap : Nat} {d : DataW H} {ps : List MemPlace}
    (hu : P.underlying t = some (.slice e)) (he : P.underlying e = some (.struct fs)) (hF : fs.toList.map (fun f => (f.type, f.offset)) = fldsD4 tI tS)
    (hc : P.cellsOf e = 5) (hI : P.underlying tI = some (.int .i64)) (cI : P.cellsOf tI = 1) (hU : P.underlying tU = some (.int .u8)) (cU : P.cellsOf tU = 1) (hS : P.underlying tS = some (.slice tU)) (cS : P.cellsOf tS = 1)
    (h : DataW.Trod enc P W 0 (fun _ => true) true t (.slice a len cap) d ps) (hk : Rows.uptoBulk d ≤ 1048576) : ∃ ys, IsRowD4 W a len cap ys ∧ len ≤ Rows.uptoBulk d := by
  obtain ⟨fuel, hf⟩ := h
  rcases DataW.trod_slice hu hf with ⟨hcs, _⟩ | ⟨x, l, c, elems, rest, n, rfl, hcs, hx, _, hl, hm, hlen, hel, hsp, _⟩
  · simp [Value.cells] at hcs
    obtain ⟨rfl, rfl, rfl⟩ := hcs
    exact ⟨[], .inl ⟨rfl, rfl, rfl, rfl⟩, by simp⟩
  · simp [Value.cells] at hcs
    obtain ⟨rfl, rfl, rfl⟩ := hcs
    obtain ⟨hx1, _⟩ := Prod.mk.inj hx
    subst hx1
    have hbk : Rows.uptoBulkAll (elems.map (·.1)) ≤ Rows.uptoBulk (.slice (elems.map (·.1)) (rest.map (·.1))) := by simp only [Rows.uptoBulk]; omega
    have fget : ∀ (i : Nat) (p : TypeId × Nat), (fldsD4 tI tS)[i]? = some p → ∃ f : Field, fs[i]? = some f ∧ f.type = p.1 ∧ f.offset = p.2 := by
      intro i p hp
      rw [← hF, List.getElem?_map, Option.map_eq_some_iff] at hp
      obtain ⟨f, h1, rfl⟩ := hp
      exact ⟨f, by simpa using h1, rfl, rfl⟩
    have fsz : fs.size = 5 := by have := congrArg List.length hF; simpa using this
    have each : ∀ i, i < len → ∃ y : CallD4, W.cells? 0 (x.add (i * 5)) 5 = some (cellsD4 y) ∧ IsByts4 W y.l := by
      intro i hi
      have h1 := hel i hi
      obtain ⟨el, hel1⟩ : ∃ el, elems[i]? = some el := ⟨elems[i]'(by omega), List.getElem?_eq_getElem (by omega)⟩
      rw [hel1, hc, Option.bind_eq_some_iff] at h1
      obtain ⟨cs', h2, h3⟩ := h1
      have hmap : (elems.map (·.1))[i]? = some el.1 := by rw [List.getElem?_map, hel1]; rfl
      have hle := bulk_one _ i el.1 hmap
      obtain ⟨xs, n', rfl, rfl, hl9, hxl, hxf⟩ := DataW.trod_struct he h3
      rw [hc] at hl9
      rw [fsz] at hxl
      have fld : ∀ (i : Nat) (p : TypeId × Nat), (fldsD4 tI tS)[i]? = some p → ∃ y, xs[i]? = some y ∧ DataW.trod enc P W 0 (fun _ => true) true n' p.1 ((cs'.drop p.2).take (P.cellsOf p.1)) = some y := by
        intro i p hp
        obtain ⟨f, h1, h2, h3⟩ := fget i p hp
        have hi9 : i < 5 := (List.getElem?_eq_some_iff.1 hp).1
        have := hxf i f h1
        rw [h2, h3] at this
        exact ⟨xs[i]'(by omega), List.getElem?_eq_getElem (by omega), by rw [this]; exact List.getElem?_eq_getElem (by omega)⟩
      have int : ∀ (i : Nat), (fldsD4 tI tS)[i]? = some (tI, i) → ∃ m : Int, cs'[i]? = some (.int .i64 m) := by
        intro i hp
        obtain ⟨y, _, hy⟩ := fld i _ hp
        rw [cI] at hy
        obtain ⟨m, hm, _⟩ := DataW.trod_int hI hy
        exact ⟨m, one_of_take hm⟩
      obtain ⟨m0, c0⟩ := int 0 rfl
      obtain ⟨m1, c1⟩ := int 1 rfl
      obtain ⟨m2, c2⟩ := int 2 rfl
      obtain ⟨m3, c3⟩ := int 3 rfl
      obtain ⟨y8, hx8, hy8⟩ := fld 4 (tS, 4) rfl
      rw [cS] at hy8
      have hb8 : Rows.uptoBulk y8.1 ≤ Rows.uptoBulkAll (xs.map (·.1)) := bulk_one _ 4 y8.1 (by rw [List.getElem?_map, hx8]; rfl)
      simp only [Rows.uptoBulk] at hle
      obtain ⟨p8, hp8, hs8⟩ : ∃ y : Part, (cs'.drop 4).take 1 = [.slice y.1 y.2.1 y.2.2.1] ∧ IsByts4 W y := by
        rcases open_ints hS hU cU hy8 with ⟨hcs', _⟩ | ⟨x', l', c', zs, hcs', _⟩
        · exact ⟨(none, 0, 0, []), hcs', .inl ⟨rfl, rfl, rfl, rfl⟩, by simp⟩
        · rw [hcs'] at hy8
          have hT : DataW.Trod enc P W 0 (fun _ => true) true tS (.slice (some x') l' c') y8.1 y8.2 := ⟨n', by simpa [Value.cells] using hy8⟩
          obtain ⟨zs', hz'⟩ := isRow_of hS hU cU hT
          have hb2 := bulk_ints hS hU cU hT
          exact ⟨(some x', l', c', zs'), hcs', hz', by show l' * 1 ≤ _; omega⟩
      refine ⟨⟨m0, m1, m2, m3, p8⟩, ?_, hs8⟩
      rw [h2]
      exact congrArg some (listD4 hl9 c0 c1 c2 c3 (one_of_take hp8))
    have hf : ∃ f : Nat → CallD4, ∀ i, i < len → W.cells? 0 (x.add (i * 5)) 5 = some (cellsD4 (f i)) ∧ IsByts4 W (f i).l :=
      ⟨fun i => if hi : i < len then Classical.choose (each i hi) else ⟨0, 0, 0, 0, (none, 0, 0, [])⟩, fun i hi => by
        simp only [dif_pos hi]; exact Classical.choose_spec (each i hi)⟩
    obtain ⟨f, hf⟩ := hf
    refine ⟨(List.range len).map f, .inr ⟨x, rfl, hl, hm, by simp, fun i y hy => ?_⟩, ?_⟩
    · rw [List.getElem?_map, Option.map_eq_some_iff] at hy
      obtain ⟨k, hk, rfl⟩ := hy
      obtain ⟨hk1, hk2⟩ := List.getElem?_eq_some_iff.1 hk
      rw [List.getElem_range] at hk2
      subst hk2
      exact hf i (by simpa using hk1)
    · have := bulk_sum (elems.map (·.1))
      simp only [List.length_map] at this
      omega
theorem lifted (os : Os) (started : os.Started) (H : Type) (enc : TypeId × Value → H) (F0 : Stop.Interp) :
    ReturnsInHanded {} Try.checked os 3 .any ((Rows.OpenSpec.upto Rows.sendFreshSpec).pre6 enc Try.prog Try.f3 Rows.sendFreshUptoRow.domain false) (((Rows.OpenSpec.upto Rows.sendFreshSpec).at F0).post enc Try.prog Try.f3 false true false false) := by
  refine returnsInHanded_of_cond (C := Try.checked) (s := Rows.OpenSpec.upto Rows.sendFreshSpec) (k := Rows.uptoSmall) rfl own started (by kernel_rfl) Try.func3
    (OpenSpec.witness (enc := enc) (C := Try.checked) (s := Rows.OpenSpec.upto Rows.sendFreshSpec) (k := Rows.uptoSmall) rfl false ⟨#[], #[.int .i64 0, .slice none 0 0], []⟩ 8 (by kernel_rfl) (by kernel_rfl) (by kernel_rfl)
      (x := ([.lit (.int .i64 0), .nil], [], [])) (by kernel_rfl) (by kernel_rfl) (decide_eq_true (by simp [Rows.uptoBulkAll, Rows.uptoBulk]))) ?_
  intro W base args ds gs before hval0 hW _ hk _
  have hval : ∀ (j : Nat) t v, Try.f3.params[j]? = some t → args[j]? = some v → Value.okWide Try.prog W .any base t v := hval0
  have hW' := hW
  obtain ⟨p, q, hA0, hV, rfl, hfz, hnd⟩ := hW
  have hA : DataW.TrodAll enc Try.prog W 0 (fun _ => true) true Try.f3.params.toList args.toList ds p := hA0
  rw [Try.params3] at hA hval
  obtain ⟨v0, vs0, d0, ds0, p0, q0, hargs, rfl, rfl, h0, r0⟩ := trodAll_cons hA
  obtain ⟨v1, vs1, d1, ds1, p1, q1, rfl, rfl, rfl, h1, r1⟩ := trodAll_cons r0
  obtain ⟨rfl, rfl, rfl⟩ := trodAll_nil r1
  obtain rfl : args = #[v0, v1] := by cases args; simp_all
  obtain ⟨rfl, rfl⟩ := trodVars_none hV
  obtain ⟨a0, rfl, rfl, rfl, w0⟩ := open_int Try.underlying3 (hval 0 3 v0 rfl rfl) h0
  obtain ⟨a1, len1, cap1, rfl⟩ := okWide_slice Try.underlying22 (hval 1 22 v1 rfl rfl)
  have k1 := h1
  have lt1 : ∀ x ∈ p1, x.block < W.heap.size := by obtain ⟨m, hm⟩ := k1; exact DataW.trod_lt m _ _ _ hm
  have kk1 := of_decide_eq_true hk
  simp only [List.append_nil, Rows.uptoBulkAll] at kk1
  obtain ⟨z1, w1, u1⟩ := isRowDU_of (tI := 3) (tS := 29) Try.underlying22 Try.underlying33 rfl (by kernel_rfl) Try.underlying3 (by kernel_rfl) Try.underlying5 (by kernel_rfl) Try.underlying29 (by kernel_rfl) h1 (by omega)
  clear hA0 hval0
  have hk2 := of_decide_eq_true hk
  simp only [List.append_nil, Rows.uptoBulkAll] at hk2
  have y1 : len1 ≤ 1048576 := by omega
  refine (walk W a0 a1 len1 cap1 z1 w0 w1 y1).mono fun e W' ⟨he, bel⟩ => ?_
  subst he
  exact ⟨_, rfl, _, _, _, [], _, [], hW', trodAll_mk1 (shut_bool Try.underlying4 _), (trodAll_cons_mk (shut_int Try.underlying3 w0) (trodAll_cons_mk (Below.trod laidOut (by kernel_rfl) (of_decide_eq_true (by kernel_rfl)) k1 bel lt1) trodAll_mk0)), rfl, bel.frame _, fun h => by cases h⟩
theorem over : Rows.sendFreshUptoRow.holds Try.pinned (Rows.OpenSpec.upto Rows.sendFreshSpec) :=
  OpenClaim.holds_of_cond 3 Try.f3 rfl rfl rfl rfl rfl rfl rfl ⟨rfl, rfl, rfl, rfl, rfl⟩ rfl rfl rfl rfl rfl named Try.func3 closed
    (of_decide_eq_true (by kernel_rfl)) (by unfold Func.isWrapper; first | (rw [if_pos (by decide +kernel)]; kernel_rfl) | (rw [if_neg (by decide +kernel)]; exact ⟨rfl, rfl⟩))
    (fun os started H enc _ F => lifted os started H enc F)
theorem proved : Rows.SendFreshUptoSaid := over
end Go.Proofs.Ytaebjajbogedkaa.sendFresh
namespace Go.Proofs.Ytaebjajbogedkaa
theorem sendFreshUpto_holds : Rows.SendFreshUptoSaid := sendFresh.proved
#print axioms sendFreshUpto_holds
end Go.Proofs.Ytaebjajbogedkaa
