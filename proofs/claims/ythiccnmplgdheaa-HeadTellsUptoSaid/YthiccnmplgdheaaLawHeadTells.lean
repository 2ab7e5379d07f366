/- The law HeadTells: for every input of which what is read is of bulk at most 1048576 the call returns true, and each argument reads as it did; no other condition. -/
import Derived.Test.YthiccnmplgdheaaRows
import Derived.Test.YthiccnmplgdheaaFctHeadTells
import Derived.Test.YthiccnmplgdheaaG17
import Derived.Test.YthiccnmplgdheaaG2
import Derived.Test.YthiccnmplgdheaaG10
import Derived.WalkKit
import Derived.ProofKit
import Derived.OpenShut
import Derived.ShutString
import Derived.ChangeOld
import Derived.Below
import Derived.Carry
import Derived.SizedLaws
import Derived.JoinedCond
set_option linter.unusedVariables false
set_option maxRecDepth 1000000
namespace Go.Proofs.Ythiccnmplgdheaa.headTells
open Go Go.ChangeShapes Go.WideShapes Go.ChangeAt Go.RowKit
theorem own : ownKnob Try.prog.godebug = none := by kernel_rfl
theorem laidOut : laidOutB Try.prog = true := by kernel_rfl
theorem parts_cat : ∀ xs : List Abs.Part, (T.cat (xs.map fun y => Abs.bytesIn (y.2.2.2.take y.2.1))).length ≤ (xs.map fun y => y.2.1).sum
  | [] => by simp [T.cat]
  | y :: xs => by
    have h1 := parts_cat xs
    have h2 := Abs.bytesIn_len y.2.2.2 y.2.1
    simp only [List.map_cons, T.cat, List.length_append, List.sum_cons]
    omega
theorem walk (W : World) (a0 : Int) (a1 : Int) (a2 : Int) (a3 : Int) (a4 : Int) (a5 : Option Addr) (len5 cap5 : Nat) (z5 : List Int) (a6 : Option Addr) (len6 cap6 : Nat) (z6 : List Int) (a7 : Int) (a8 : Int) (a9 : Int) (a10 : Option Addr) (len10 cap10 : Nat) (z10 : List Abs.Part) (w0 : (Lit.int .i64 a0).wf = true) (w1 : (Lit.int .i64 a1).wf = true) (w2 : (Lit.int .i64 a2).wf = true) (w3 : (Lit.int .i64 a3).wf = true) (w4 : (Lit.int .i64 a4).wf = true) (w5 : Abs.IsRow .u8 W a5 len5 cap5 z5) (y5 : len5 ≤ 1048576) (w6 : Abs.IsRow .u8 W a6 len6 cap6 z6) (y6 : len6 ≤ 1048576) (w7 : (Lit.int .i64 a7).wf = true) (w8 : (Lit.int .i64 a8).wf = true) (w9 : (Lit.int .u8 a9).wf = true) (w10 : Abs.IsRowS W a10 len10 cap10 z10) (y10 : len10 ≤ 1048576) (s10 : (z10.map fun y => y.2.1).sum ≤ 1048576) : Calls Try.prog 7 #[.int .i64 a0, .int .i64 a1, .int .i64 a2, .int .i64 a3, .int .i64 a4, .slice a5 len5 cap5, .slice a6 len6 cap6, .int .i64 a7, .int .i64 a8, .int .u8 a9, .slice a10 len10 cap10] W fun e w' => e = .returned (.bool true) ∧ Below W.heap.size W w' := by
  obtain ⟨h', e⟩ := T.HeadTellsU (a0) (a1) (a2) (a3) (a4) (Abs.argSl a5 len5) (Abs.argSl a6 len6) (a7) (a8) (a9) (Abs.argSl a10 len10) (Abs.impH W) (Abs.imp_wf W) (Abs.wf_i64 w0) (Abs.wf_i64 w1) (Abs.wf_i64 w2) (Abs.wf_i64 w3) (Abs.wf_i64 w4) (Abs.bytesIn (z5.take len5)) (Abs.isRow_rdB w5) (by have := Abs.bytesIn_len z5 len5; omega) (Abs.bytesIn (z6.take len6)) (Abs.isRow_rdB w6) (by have := Abs.bytesIn_len z6 len6; omega) (Abs.wf_i64 w7) (Abs.wf_i64 w8) (Abs.wf_u8 w9) _ _ (Abs.isRowS_rd w10) (Abs.parts_rd z10 (Abs.isRowS_parts w10)) (by have := Abs.isRowS_len w10; rw [List.length_map]; omega) (by have := parts_cat z10; omega)
  exact Abs.world_law Tab.dok Tab.ovok (args := [.int .i64 a0, .int .i64 a1, .int .i64 a2, .int .i64 a3, .int .i64 a4, Abs.encSl (Abs.argSl a5 len5), Abs.encSl (Abs.argSl a6 len6), .int .i64 a7, .int .i64 a8, .int .u8 a9, Abs.encSl (Abs.argSl a10 len10)]) (h' := h') (T.ok_7 (a0, a1, a2, a3, a4, Abs.argSl a5 len5, Abs.argSl a6 len6, a7, a8, a9, Abs.argSl a10 len10) (Abs.impH W) true h' e) (.cons (.int _ _) (.cons (.int _ _) (.cons (.int _ _) (.cons (.int _ _) (.cons (.int _ _) (.cons (Abs.isRow_vr w5) (.cons (Abs.isRow_vr w6) (.cons (.int _ _) (.cons (.int _ _) (.cons (.int _ _) (.cons (Abs.isRowS_vr w10) (.nil))))))))))))
theorem bulk_lits {H : Type} (k : IntKind) : ∀ zs : List Int, Rows.uptoBulkAll (lits (H := H) k zs) = zs.length
  | [] => by simp [lits, Rows.uptoBulkAll]
  | z :: zs => by
    have := bulk_lits (H := H) k zs
    simp only [lits, List.map_cons, Rows.uptoBulkAll, Rows.uptoBulk, List.length_cons] at this ⊢
    omega
theorem bulk_ints {H : Type} {enc : TypeId × Value → H} {P : Program} {W : World} {base : Nat} {spare : Nat → Bool} {held : Bool} {t e : TypeId} {k : IntKind} {a : Option Addr} {len cap : Nat} {d : DataW H} {ps : List MemPlace} (hu : P.underlying t = some (.slice e)) (he : P.underlying e = some (.int k)) (hc : P.cellsOf e = 1)
    (h : DataW.Trod enc P W base spare held t (.slice a len cap) d ps) : len ≤ Rows.uptoBulk d := by
  obtain ⟨fuel, hf⟩ := h
  rcases open_ints hu he hc hf with ⟨hcs, _⟩ | ⟨x, l, c, zs, hcs, _, hl, _, hz, hx, _, _⟩
  · simp [Value.cells] at hcs
    obtain ⟨rfl, rfl, rfl⟩ := hcs
    exact Nat.zero_le _
  · simp [Value.cells] at hcs
    obtain ⟨rfl, rfl, rfl⟩ := hcs
    obtain ⟨hx, _⟩ := Prod.mk.inj hx
    subst hx
    simp only [Rows.uptoBulk, bulk_lits]
    have hl2 : len ≤ zs.length := by
      rw [hz]
      split
      · exact hl
      · exact Nat.le_refl _
    rw [List.length_take]
    omega
theorem bulk_sum {H : Type} : ∀ (es : List (DataW H)) (f : Nat → Nat), (∀ (i : Nat) (d : DataW H), es[i]? = some d → f i ≤ Rows.uptoBulk d) → ((List.range es.length).map f).sum ≤ Rows.uptoBulkAll es
  | [], f, _ => by simp [Rows.uptoBulkAll]
  | d :: es, f, h => by
    have h1 := bulk_sum es (fun i => f (i + 1)) fun i d hd => h (i + 1) d (by simpa using hd)
    have h2 := h 0 d rfl
    simp only [List.length_cons, List.range_succ_eq_map, List.map_cons, List.map_map, List.sum_cons, Rows.uptoBulkAll]
    have e : (f ∘ Nat.succ) = fun i => f (i + 1) := rfl
    rw [e]; omega
theorem isRowSU_of {H : Type} {enc : TypeId × Value → H} {P : Program} {W : World} {t e b : TypeId} {a : Option Addr} {len cap : Nat} {d : DataW H} {ps : List MemPlace}
    (hu : P.underlying t = some (.slice e)) (he : P.underlying e = some (.slice b)) (hc : P.cellsOf e = 1) (hb : P.underlying b = some (.int .u8)) (hcb : P.cellsOf b = 1)
    (h : DataW.Trod enc P W 0 (fun _ => true) true t (.slice a len cap) d ps) (hk : Rows.uptoBulk d ≤ 1048576) : ∃ xs, Abs.IsRowS W a len cap xs ∧ len ≤ Rows.uptoBulk d ∧ (xs.map fun y => y.2.1).sum ≤ Rows.uptoBulk d := by
  obtain ⟨fuel, hf⟩ := h
  rcases DataW.trod_slice hu hf with ⟨hcs, _⟩ | ⟨x, l, c, elems, rest, n, rfl, hcs, hx, _, hl, hm, hlen, hel, hsp, _⟩
  · simp [Value.cells] at hcs
    obtain ⟨rfl, rfl, rfl⟩ := hcs
    exact ⟨[], .inl ⟨rfl, rfl, rfl, rfl⟩, by simp, by simp⟩
  · simp [Value.cells] at hcs
    obtain ⟨rfl, rfl, rfl⟩ := hcs
    obtain ⟨hx1, _⟩ := Prod.mk.inj hx
    subst hx1
    have hbk : Rows.uptoBulkAll (elems.map (·.1)) ≤ Rows.uptoBulk (.slice (elems.map (·.1)) (rest.map (·.1))) := by simp only [Rows.uptoBulk]; omega
    have one : ∀ (es : List (DataW H)) (i : Nat) (d : DataW H), es[i]? = some d → Rows.uptoBulk d ≤ Rows.uptoBulkAll es := by
      intro es
      induction es with
      | nil => intro i d hd; simp at hd
      | cons e0 es ih =>
        intro i d hd
        cases i with
        | zero => simp at hd; subst hd; simp only [Rows.uptoBulkAll]; omega
        | succ i => have := ih i d (by simpa using hd); simp only [Rows.uptoBulkAll]; omega
    have each : ∀ i, i < len → ∃ y : Abs.Part, (W.cell? (x.add i) = some (.slice y.1 y.2.1 y.2.2.1) ∧ Abs.IsPart W y) ∧ ∀ d, (elems.map (·.1))[i]? = some d → y.2.1 ≤ Rows.uptoBulk d := by
      intro i hi
      have h1 := hel i hi
      obtain ⟨el, hel1⟩ : ∃ el, elems[i]? = some el := ⟨elems[i]'(by omega), List.getElem?_eq_getElem (by omega)⟩
      rw [hel1, hc, Nat.mul_one, Option.bind_eq_some_iff] at h1
      obtain ⟨cs', h2, h3⟩ := h1
      have hmap : (elems.map (·.1))[i]? = some el.1 := by rw [List.getElem?_map, hel1]; rfl
      have hle := one _ i el.1 hmap
      rcases open_ints he hb hcb h3 with ⟨hcs', _⟩ | ⟨x', l', c', zs, hcs', _⟩
      · subst hcs'
        exact ⟨(none, 0, 0, []), ⟨cell_of_cells?_one h2, .inl ⟨rfl, rfl, rfl, rfl⟩, by simp⟩, fun d _ => Nat.zero_le _⟩
      · subst hcs'
        have hT : DataW.Trod enc P W 0 (fun _ => true) true e (.slice (some x') l' c') el.1 el.2 := ⟨n, by simpa [Value.cells] using h3⟩
        obtain ⟨zs', hz'⟩ := Abs.isRow_of he hb hcb hT
        have hb2 := bulk_ints he hb hcb hT
        exact ⟨(some x', l', c', zs'), ⟨cell_of_cells?_one h2, hz', by simp only; omega⟩, fun d hd => by rw [hmap] at hd; cases hd; exact hb2⟩
    have hf : ∃ f : Nat → Abs.Part, ∀ i, i < len → (W.cell? (x.add i) = some (.slice (f i).1 (f i).2.1 (f i).2.2.1) ∧ Abs.IsPart W (f i)) ∧ ∀ d, (elems.map (·.1))[i]? = some d → (f i).2.1 ≤ Rows.uptoBulk d :=
      ⟨fun i => if hi : i < len then Classical.choose (each i hi) else (none, 0, 0, []), fun i hi => by
        simp only [dif_pos hi]; exact Classical.choose_spec (each i hi)⟩
    obtain ⟨f, hf⟩ := hf
    refine ⟨(List.range len).map f, .inr ⟨x, rfl, hl, hm, by simp, fun i y hy => ?_⟩, ?_, ?_⟩
    · rw [List.getElem?_map, Option.map_eq_some_iff] at hy
      obtain ⟨k, hk, rfl⟩ := hy
      obtain ⟨hk1, hk2⟩ := List.getElem?_eq_some_iff.1 hk
      rw [List.getElem_range] at hk2
      subst hk2
      exact (hf i (by simpa using hk1)).1
    · have hb1 := bulk_sum (elems.map (·.1)) (fun _ => 1) (fun i d _ => by unfold Rows.uptoBulk; split <;> omega)
      have hs1 : ∀ n : Nat, ((List.range n).map fun _ => 1).sum = n := by intro n; induction n with | zero => rfl | succ n ih => rw [List.range_succ]; simp [ih]
      rw [hs1] at hb1
      simp only [List.length_map] at hb1
      omega
    · have hb1 := bulk_sum (elems.map (·.1)) (fun i => (f i).2.1) (fun i d hd => (hf i (by have := (List.getElem?_eq_some_iff.1 hd).1; simp at this; omega)).2 d hd)
      simp only [List.length_map, hlen] at hb1
      rw [List.map_map]
      exact Nat.le_trans hb1 hbk
theorem lifted (os : Os) (started : os.Started) (H : Type) (enc : TypeId × Value → H) (F0 : Stop.Interp) :
    ReturnsInHanded {} Try.checked os 7 .any ((Rows.OpenSpec.upto Rows.headTellsSpec).pre6 enc Try.prog Try.f7 Rows.headTellsUptoRow.domain false) (((Rows.OpenSpec.upto Rows.headTellsSpec).at F0).post enc Try.prog Try.f7 false true false false) := by
  refine returnsInHanded_of_cond (C := Try.checked) (s := Rows.OpenSpec.upto Rows.headTellsSpec) (k := Rows.uptoSmall) rfl own started (by kernel_rfl) Try.func7
    (OpenSpec.witness (enc := enc) (C := Try.checked) (s := Rows.OpenSpec.upto Rows.headTellsSpec) (k := Rows.uptoSmall) rfl false ⟨#[], #[.int .i64 0, .int .i64 0, .int .i64 0, .int .i64 0, .int .i64 0, .slice none 0 0, .slice none 0 0, .int .i64 0, .int .i64 0, .int .u8 0, .slice none 0 0], []⟩ 8 (by kernel_rfl) (by kernel_rfl) (by kernel_rfl)
      (x := ([.lit (.int .i64 0), .lit (.int .i64 0), .lit (.int .i64 0), .lit (.int .i64 0), .lit (.int .i64 0), .nil, .nil, .lit (.int .i64 0), .lit (.int .i64 0), .lit (.int .u8 0), .nil], [], [])) (by kernel_rfl) (by kernel_rfl) (decide_eq_true (by simp [Rows.uptoBulkAll, Rows.uptoBulk]))) ?_
  intro W base args ds gs before hval0 hW _ hk _
  have hval : ∀ (j : Nat) t v, Try.f7.params[j]? = some t → args[j]? = some v → Value.okWide Try.prog W .any base t v := hval0
  have hW' := hW
  obtain ⟨p, q, hA0, hV, rfl, hfz, hnd⟩ := hW
  have hA : DataW.TrodAll enc Try.prog W 0 (fun _ => true) true Try.f7.params.toList args.toList ds p := hA0
  rw [Try.params7] at hA hval
  obtain ⟨v0, vs0, d0, ds0, p0, q0, hargs, rfl, rfl, h0, r0⟩ := trodAll_cons hA
  obtain ⟨v1, vs1, d1, ds1, p1, q1, rfl, rfl, rfl, h1, r1⟩ := trodAll_cons r0
  obtain ⟨v2, vs2, d2, ds2, p2, q2, rfl, rfl, rfl, h2, r2⟩ := trodAll_cons r1
  obtain ⟨v3, vs3, d3, ds3, p3, q3, rfl, rfl, rfl, h3, r3⟩ := trodAll_cons r2
  obtain ⟨v4, vs4, d4, ds4, p4, q4, rfl, rfl, rfl, h4, r4⟩ := trodAll_cons r3
  obtain ⟨v5, vs5, d5, ds5, p5, q5, rfl, rfl, rfl, h5, r5⟩ := trodAll_cons r4
  obtain ⟨v6, vs6, d6, ds6, p6, q6, rfl, rfl, rfl, h6, r6⟩ := trodAll_cons r5
  obtain ⟨v7, vs7, d7, ds7, p7, q7, rfl, rfl, rfl, h7, r7⟩ := trodAll_cons r6
  obtain ⟨v8, vs8, d8, ds8, p8, q8, rfl, rfl, rfl, h8, r8⟩ := trodAll_cons r7
  obtain ⟨v9, vs9, d9, ds9, p9, q9, rfl, rfl, rfl, h9, r9⟩ := trodAll_cons r8
  obtain ⟨v10, vs10, d10, ds10, p10, q10, rfl, rfl, rfl, h10, r10⟩ := trodAll_cons r9
  obtain ⟨rfl, rfl, rfl⟩ := trodAll_nil r10
  obtain rfl : args = #[v0, v1, v2, v3, v4, v5, v6, v7, v8, v9, v10] := by cases args; simp_all
  obtain ⟨rfl, rfl⟩ := trodVars_none hV
  obtain ⟨a0, rfl, rfl, rfl, w0⟩ := open_int Try.underlying3 (hval 0 3 v0 rfl rfl) h0
  obtain ⟨a1, rfl, rfl, rfl, w1⟩ := open_int Try.underlying3 (hval 1 3 v1 rfl rfl) h1
  obtain ⟨a2, rfl, rfl, rfl, w2⟩ := open_int Try.underlying3 (hval 2 3 v2 rfl rfl) h2
  obtain ⟨a3, rfl, rfl, rfl, w3⟩ := open_int Try.underlying3 (hval 3 3 v3 rfl rfl) h3
  obtain ⟨a4, rfl, rfl, rfl, w4⟩ := open_int Try.underlying3 (hval 4 3 v4 rfl rfl) h4
  obtain ⟨a5, len5, cap5, rfl⟩ := okWide_slice Try.underlying30 (hval 5 30 v5 rfl rfl)
  have k5 := h5
  have lt5 : ∀ x ∈ p5, x.block < W.heap.size := by obtain ⟨m, hm⟩ := k5; exact DataW.trod_lt m _ _ _ hm
  obtain ⟨z5, w5⟩ := Abs.isRow_of Try.underlying30 Try.underlying5 (by kernel_rfl) h5
  have u5 := bulk_ints Try.underlying30 Try.underlying5 (by kernel_rfl) h5
  obtain ⟨a6, len6, cap6, rfl⟩ := okWide_slice Try.underlying30 (hval 6 30 v6 rfl rfl)
  have k6 := h6
  have lt6 : ∀ x ∈ p6, x.block < W.heap.size := by obtain ⟨m, hm⟩ := k6; exact DataW.trod_lt m _ _ _ hm
  obtain ⟨z6, w6⟩ := Abs.isRow_of Try.underlying30 Try.underlying5 (by kernel_rfl) h6
  have u6 := bulk_ints Try.underlying30 Try.underlying5 (by kernel_rfl) h6
  obtain ⟨a7, rfl, rfl, rfl, w7⟩ := open_int Try.underlying3 (hval 7 3 v7 rfl rfl) h7
  obtain ⟨a8, rfl, rfl, rfl, w8⟩ := open_int Try.underlying3 (hval 8 3 v8 rfl rfl) h8
  obtain ⟨a9, rfl, rfl, rfl, w9⟩ := open_int Try.underlying5 (hval 9 5 v9 rfl rfl) h9
  obtain ⟨a10, len10, cap10, rfl⟩ := okWide_slice Try.underlying50 (hval 10 50 v10 rfl rfl)
  have k10 := h10
  have lt10 : ∀ x ∈ p10, x.block < W.heap.size := by obtain ⟨m, hm⟩ := k10; exact DataW.trod_lt m _ _ _ hm
  have kk10 := of_decide_eq_true hk
  simp only [List.append_nil, Rows.uptoBulkAll] at kk10
  obtain ⟨z10, w10, u10, uu10⟩ := isRowSU_of Try.underlying50 Try.underlying30 (by kernel_rfl) Try.underlying5 (by kernel_rfl) h10 (by omega)
  clear hA0 hval0
  have hk2 := of_decide_eq_true hk
  simp only [List.append_nil, Rows.uptoBulkAll] at hk2
  have y5 : len5 ≤ 1048576 := by omega
  have y6 : len6 ≤ 1048576 := by omega
  have y10 : len10 ≤ 1048576 := by omega
  have s10 : (z10.map fun y => y.2.1).sum ≤ 1048576 := by omega
  refine (walk W a0 a1 a2 a3 a4 a5 len5 cap5 z5 a6 len6 cap6 z6 a7 a8 a9 a10 len10 cap10 z10 w0 w1 w2 w3 w4 w5 y5 w6 y6 w7 w8 w9 w10 y10 s10).mono fun e W' ⟨he, bel⟩ => ?_
  subst he
  exact ⟨_, rfl, _, _, _, [], _, [], hW', trodAll_mk1 (shut_bool Try.underlying4 _), (trodAll_cons_mk (shut_int Try.underlying3 w0) (trodAll_cons_mk (shut_int Try.underlying3 w1) (trodAll_cons_mk (shut_int Try.underlying3 w2) (trodAll_cons_mk (shut_int Try.underlying3 w3) (trodAll_cons_mk (shut_int Try.underlying3 w4) (trodAll_cons_mk (Below.trod laidOut (by kernel_rfl) (of_decide_eq_true (by kernel_rfl)) k5 bel lt5) (trodAll_cons_mk (Below.trod laidOut (by kernel_rfl) (of_decide_eq_true (by kernel_rfl)) k6 bel lt6) (trodAll_cons_mk (shut_int Try.underlying3 w7) (trodAll_cons_mk (shut_int Try.underlying3 w8) (trodAll_cons_mk (shut_int Try.underlying5 w9) (trodAll_cons_mk (Below.trod laidOut (by kernel_rfl) (of_decide_eq_true (by kernel_rfl)) k10 bel lt10) trodAll_mk0))))))))))), rfl, bel.frame _, fun h => by cases h⟩
theorem over : Rows.headTellsUptoRow.holds Try.pinned (Rows.OpenSpec.upto Rows.headTellsSpec) :=
  OpenClaim.holds_of_cond 7 Try.f7 rfl rfl rfl rfl rfl rfl rfl ⟨rfl, rfl, rfl, rfl, rfl⟩ rfl rfl rfl rfl rfl named Try.func7 closed
    (of_decide_eq_true (by kernel_rfl)) (by unfold Func.isWrapper; first | (rw [if_pos (by decide +kernel)]; kernel_rfl) | (rw [if_neg (by decide +kernel)]; exact ⟨rfl, rfl⟩))
    (fun os started H enc _ F => lifted os started H enc F)
theorem proved : Rows.HeadTellsUptoSaid := over
end Go.Proofs.Ythiccnmplgdheaa.headTells
namespace Go.Proofs.Ythiccnmplgdheaa
theorem headTellsUpto_holds : Rows.HeadTellsUptoSaid := headTells.proved
#print axioms headTellsUpto_holds
end Go.Proofs.Ythiccnmplgdheaa
