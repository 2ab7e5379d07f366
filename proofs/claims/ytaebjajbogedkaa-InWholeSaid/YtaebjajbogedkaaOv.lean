/- a box's Late, at maps with no entry: it hands back nothing, and what was there stays. -/
import Derived.Test.YtaebjajbogedkaaAbsH
import Derived.Test.YtaebjajbogedkaaTab
import Derived.Shelf.SlSortCmp.NoneTotal
import Derived.Test.YtaebjajbogedkaaChecked
set_option linter.unusedVariables false
set_option maxRecDepth 100000
namespace Go.Proofs
def Try.collect_ren : Go.Shelf.Ren := ⟨fun | 8 => 105 | 11 => 109 | n => n, fun | 26 => 3 | 28 => 159 | 24 => 52 | 0 => 0 | 33 => 44 | 4 => 4 | n => n, fun | n => n⟩
theorem Try.collect : Go.Proofs.SlLaysZI.n8 Try.prog Try.collect_ren where
  mixed := by kernel_rfl
  f8 := ⟨"slices.Collect[int]", by decide, Try.func105.trans (congrArg some (by kernel_rfl))⟩
  f11 := ⟨"slices.AppendSeq[[]int,int]", by decide, Try.func109.trans (congrArg some (by kernel_rfl))⟩
  t0 := Try.underlying0
  a0 := Try.isAgg0
  z0 := Try.sizeOf0
  v0 := Try.zeroValue0
  t24 := Try.underlying52
  a24 := Try.isAgg52
  z24 := Try.sizeOf52
  v24 := Try.zeroValue52
  t26 := Try.underlying3
  a26 := Try.isAgg3
  z26 := Try.sizeOf3
  v26 := Try.zeroValue3
  t28 := Try.underlying159
  a28 := Try.isAgg159
  z28 := Try.sizeOf159
  v28 := Try.zeroValue159
  i26 := by kernel_rfl
def Try.keys_ren : Go.Shelf.Ren := ⟨fun | 10 => 107 | n => n, fun | 33 => 44 | 23 => 79 | 0 => 0 | 4 => 4 | 26 => 3 | 3 => 3 | n => n, fun | n => n⟩
theorem Try.keys : Go.Proofs.SlLaysZI.n10 Try.prog Try.keys_ren where
  mixed := by kernel_rfl
  f10 := ⟨"maps.Keys[map[int]int,int,int]$1", by decide, Try.func107.trans (congrArg some (by kernel_rfl))⟩
  t0 := Try.underlying0
  a0 := Try.isAgg0
  z0 := Try.sizeOf0
  v0 := Try.zeroValue0
  t4 := Try.underlying4
  a4 := Try.isAgg4
  z4 := Try.sizeOf4
  v4 := Try.zeroValue4
  t23 := Try.underlying79
  a23 := Try.isAgg79
  z23 := Try.sizeOf79
  v23 := Try.zeroValue79
  t26 := Try.underlying3
  a26 := Try.isAgg3
  z26 := Try.sizeOf3
  v26 := Try.zeroValue3
  t33 := Try.underlying44
  a33 := Try.isAgg44
  z33 := Try.sizeOf44
  v33 := Try.zeroValue44
def Try.sortF_ren : Go.Shelf.Ren := ⟨fun | 6 => 106 | 15 => 95 | 14 => 110 | 28 => 103 | 29 => 104 | 20 => 111 | 21 => 112 | 22 => 113 | 23 => 114 | 24 => 115 | 25 => 116 | 26 => 117 | 27 => 118 | 46 => 119 | 47 => 120 | 48 => 121 | 49 => 122 | 50 => 123 | 57 => 124 | n => n, fun | 22 => 52 | 24 => 3 | 25 => 26 | 3 => 3 | 39 => 140 | 0 => 0 | 53 => 162 | 55 => 164 | 4 => 4 | 46 => 171 | 45 => 170 | 50 => 80 | 5 => 5 | 9 => 9 | 66 => 176 | 70 => 180 | 76 => 182 | 77 => 97 | n => n, fun | n => n⟩
theorem Try.sortF : Go.Proofs.SlLaysF.n6 Try.prog Try.sortF_ren where
  mixed := by kernel_rfl
  f6 := ⟨"slices.SortFunc[[]int,int]", by decide, Try.func106.trans (congrArg some (by kernel_rfl))⟩
  f14 := ⟨"slices.pdqsortCmpFunc[int]", by decide, Try.func110.trans (congrArg some (by kernel_rfl))⟩
  f15 := Try.func95.trans (congrArg some (by kernel_rfl))
  f20 := ⟨"slices.insertionSortCmpFunc[int]", by decide, Try.func111.trans (congrArg some (by kernel_rfl))⟩
  f21 := ⟨"slices.heapSortCmpFunc[int]", by decide, Try.func112.trans (congrArg some (by kernel_rfl))⟩
  f22 := ⟨"slices.breakPatternsCmpFunc[int]", by decide, Try.func113.trans (congrArg some (by kernel_rfl))⟩
  f23 := ⟨"slices.choosePivotCmpFunc[int]", by decide, Try.func114.trans (congrArg some (by kernel_rfl))⟩
  f24 := ⟨"slices.reverseRangeCmpFunc[int]", by decide, Try.func115.trans (congrArg some (by kernel_rfl))⟩
  f25 := ⟨"slices.partialInsertionSortCmpFunc[int]", by decide, Try.func116.trans (congrArg some (by kernel_rfl))⟩
  f26 := ⟨"slices.partitionEqualCmpFunc[int]", by decide, Try.func117.trans (congrArg some (by kernel_rfl))⟩
  f27 := ⟨"slices.partitionCmpFunc[int]", by decide, Try.func118.trans (congrArg some (by kernel_rfl))⟩
  f28 := Try.func103.trans (congrArg some (by kernel_rfl))
  f29 := Try.func104.trans (congrArg some (by kernel_rfl))
  f46 := ⟨"slices.siftDownCmpFunc[int]", by decide, Try.func119.trans (congrArg some (by kernel_rfl))⟩
  f47 := Try.func120.trans (congrArg some (by kernel_rfl))
  f48 := Try.func121.trans (congrArg some (by kernel_rfl))
  f49 := ⟨"slices.medianAdjacentCmpFunc[int]", by decide, Try.func122.trans (congrArg some (by kernel_rfl))⟩
  f50 := ⟨"slices.medianCmpFunc[int]", by decide, Try.func123.trans (congrArg some (by kernel_rfl))⟩
  f57 := ⟨"slices.order2CmpFunc[int]", by decide, Try.func124.trans (congrArg some (by kernel_rfl))⟩
  t0 := Try.underlying0
  a0 := Try.isAgg0
  z0 := Try.sizeOf0
  v0 := Try.zeroValue0
  t3 := Try.underlying3
  a3 := Try.isAgg3
  z3 := Try.sizeOf3
  v3 := Try.zeroValue3
  t4 := Try.underlying4
  a4 := Try.isAgg4
  z4 := Try.sizeOf4
  v4 := Try.zeroValue4
  t5 := Try.underlying5
  a5 := Try.isAgg5
  z5 := Try.sizeOf5
  v5 := Try.zeroValue5
  t9 := Try.underlying9
  a9 := Try.isAgg9
  z9 := Try.sizeOf9
  v9 := Try.zeroValue9
  t22 := Try.underlying52
  a22 := Try.isAgg52
  z22 := Try.sizeOf52
  v22 := Try.zeroValue52
  a24 := Try.isAgg3
  z24 := Try.sizeOf3
  t25 := Try.underlying26
  a25 := Try.isAgg26
  z25 := Try.sizeOf26
  v25 := Try.zeroValue26
  t39 := Try.underlying140
  a39 := Try.isAgg140
  z39 := Try.sizeOf140
  v39 := Try.zeroValue140
  t45 := Try.underlying170
  a45 := Try.isAgg170
  z45 := Try.sizeOf170
  v45 := Try.zeroValue170
  t46 := Try.underlying171
  a46 := Try.isAgg171
  z46 := Try.sizeOf171
  v46 := Try.zeroValue171
  t50 := Try.underlying80
  a50 := Try.isAgg80
  z50 := Try.sizeOf80
  v50 := Try.zeroValue80
  t53 := Try.underlying162
  a53 := Try.isAgg162
  z53 := Try.sizeOf162
  v53 := Try.zeroValue162
  t55 := Try.underlying164
  a55 := Try.isAgg164
  z55 := Try.sizeOf164
  v55 := Try.zeroValue164
  t66 := Try.underlying176
  a66 := Try.isAgg176
  z66 := Try.sizeOf176
  v66 := Try.zeroValue176
  t70 := Try.underlying180
  a70 := Try.isAgg180
  z70 := Try.sizeOf180
  v70 := Try.zeroValue180
  t76 := Try.underlying182
  a76 := Try.isAgg182
  z76 := Try.sizeOf182
  v76 := Try.zeroValue182
  t77 := Try.underlying97
  a77 := Try.isAgg97
  z77 := Try.sizeOf97
  v77 := Try.zeroValue97

end Go.Proofs
namespace Go.Proofs.Ytaebjajbogedkaa.Ov
open Go Go.Abs Go.Proofs Go.Sort Go.RowKit Go.Maps Go.Shelf
set_option maxHeartbeats 2000000 in
theorem walk98 (ks : List Int) (hN : ks.length ≤ maxLen) (hNb : ks.length * 8 ≤ 140737488355328) (w : World) (c : Addr)
    (hseq : SeqGives Fence.wide 3 Try.prog 107 #[.pointer (some c)] encZ (fun ss : List Int => ss.Perm ks) ks.length w)
    (g : Nat) (cb : Array Value) (eg : ∀ args w, (callFunc g args).run Try.prog w = .ok (.enter g args) w) [Inhabited {x : Int // x ∈ ks}] {cf : Int → Int → Int} {l : List Int} (hT : Srt cf ks l)
    (hcmp : ∀ (W : World) (blk : Nat), Below w.heap.size w W → w.heap.size ≤ blk → CmpLays1 Try.prog g cb (fun x : {x : Int // x ∈ ks} => Value.int .i64 x.1) (fun x y => cf x.1 y.1) blk 0 ks.length W) :
    Calls Try.prog 98 #[.func (.func 107) #[] #[.pointer (some c)], .func (.func g) #[] cb] w fun e w' =>
      ∃ (W : World) (blk cap : Nat) (cur : Array Value) (m : Nat) (d : Array {x : Int // x ∈ ks}) (os : Array Obj), Below w.heap.size w W ∧ w.heap.size ≤ blk ∧ W.heap[blk]? = some (.cells cur 3 (0, 0)) ∧ d.size ≤ cap ∧ cur.size = cap ∧
        d.toList.map (fun x : {x : Int // x ∈ ks} => Value.int .i64 x.1) = l.map (Value.int .i64) ∧ e = .returned (.slice (some ⟨blk, 0, none⟩) d.size cap) ∧ w' = sortWorld (fun x : {x : Int // x ∈ ks} => Value.int .i64 x.1) W blk 0 m d os := by
  have hks : ks ≠ [] := by
    intro e
    obtain ⟨x, hx⟩ := (default : {x : Int // x ∈ ks})
    rw [e] at hx; cases hx
  have cC := (callsIn_wide (n := 5)).1 (AnyZI.collect_in Try.collect Fence.wide 5 trivial trivial rfl (by omega) 107 #[.pointer (some c)] trivial (enters_of Try.func107 (by kernel_rfl) rfl) _ ks.length hN hNb w hseq)
  change Calls Try.prog 105 _ _ _ at cC
  go_enter Try.func98, Try.ntmps98
  go_wp2_with (first | (go_at_call 105; refine cC.mono ?_; rintro e W ⟨v, ss, rfl, hS, hrow, hnil, hb⟩))
  rcases hrow.2 with ⟨rfl, hz⟩ | ⟨gb, cap, cur, rfl, hbase, hgb, r1, r2, r3, r4⟩
  · exfalso
    have hss : ss = [] := List.eq_nil_of_length_eq_zero hz
    subst hss
    exact hks (List.eq_nil_of_length_eq_zero (by simpa using hS.length_eq.symm))
  · have hH := withK_holds hS (holds_of_block_i hgb (by simpa using r4))
    have hgl : gb < W.heap.size := (Array.getElem?_eq_some_iff.1 hgb).1
    have hdz : (withK hS).size = ss.length := withK_size hS
    have hkl : ss.length = ks.length := hS.length_eq
    obtain ⟨o1, _⟩ := sortsTo_swo hT.perm hT.pw hT.irr
    have cS := Any.slices_SortFunc Try.sortF (fun x : {x : Int // x ∈ ks} => Value.int .i64 x.1) (fun _ => rfl) (fun x y => cf x.1 y.1) o1 g cb gb 0 cap (withK hS) W eg (by rw [hdz, hkl]; exact hcmp W gb hb hbase) hH hgl (by omega)
    change Calls Try.prog 106 _ _ _ at cS
    rw [hdz] at cS
    go_wp2_with (go_at_call 106; refine cS.mono ?_; rintro e w' ⟨rfl, d', nn, os, q1, q2, rfl⟩)
    go_ret
    obtain ⟨s1, s2⟩ := withK_sorted hS hT.perm hT.pw hT.irr (by rw [hdz]; exact q1) (by rw [hdz]; exact q2)
    exact ⟨W, gb, cap, cur, nn, d', os, hb, hbase, hgb, by omega, by omega, s1, by rw [s2, hkl]; rfl, rfl⟩
set_option maxHeartbeats 2000000 in
theorem walk98_nil (w : World) (c : Addr) (hseq : SeqGives Fence.wide 3 Try.prog 107 #[.pointer (some c)] encZ (fun ss : List Int => ss = []) 0 w) (g : Nat) (cb : Array Value) :
    Calls Try.prog 98 #[.func (.func 107) #[] #[.pointer (some c)], .func (.func g) #[] cb] w fun e w' => e = .returned (.slice none 0 0) ∧ Below w.heap.size w w' := by
  have cC := (callsIn_wide (n := 5)).1 (AnyZI.collect_in Try.collect Fence.wide 5 trivial trivial rfl (by omega) 107 #[.pointer (some c)] trivial (enters_of Try.func107 (by kernel_rfl) rfl) _ 0 (Nat.zero_le _) (by omega) w hseq)
  change Calls Try.prog 105 _ _ _ at cC
  have cS : ∀ W, Calls Try.prog 106 #[.slice none 0 0, .func (.func g) #[] cb] W fun e w' => e = .returned (.tuple #[]) ∧ w' = W := fun W => AnyF.slices_SortFunc_none (P := Try.prog) (ρ := Try.sortF_ren) { Try.sortF with } none 0 _ W
  go_enter Try.func98, Try.ntmps98
  go_wp2_with (first | (go_at_call 105; refine cC.mono ?_; rintro e W ⟨v, ss, rfl, rfl, hrow, hnil, hb⟩; obtain rfl : v = .slice none 0 0 := hnil.2 rfl) | (go_at_call 106; refine (cS _).mono ?_; rintro e w' ⟨rfl, rfl⟩))
  go_ret
  exact ⟨rfl, hb⟩

theorem w1 : Walk1 Try.prog 98 107 3 := fun ks hN hNb w c hseq g cb eg _ cf l hT hcmp => walk98 ks hN hNb w c hseq g cb eg hT hcmp
theorem w0 : Walk0 Try.prog 98 107 := fun w c hseq g cb => walk98_nil w c hseq g cb
def run : FuncId → List Value → Int → Int → H → Option Int := fun _ _ _ _ _ => none
theorem runs : RunsOK Try.prog run := by
  intro g cb x y h c hr
  cases hr
noncomputable def ov98 : List Value → H → Option (Value × H) := ovSortedC 107 3 run
noncomputable def D1 : Abs.Data := { fn := Tab.fn, ty := Tab.ty, ov := fun f => bif f.beq 98 then some ov98 else none }
theorem dok1 : DOk Try.prog D1 := ⟨fun f F h => Tab.dok.1 f F h, fun t i h => Tab.dok.2 t i h, fun t i h hf => Tab.dok.3 t i h hf, Tab.dok.4⟩
theorem ovok1 : OvOK Try.prog D1 := by
  intro f g h
  simp only [D1] at h
  cases hf : f.beq 98 <;> rw [hf] at h
  · simp at h
  have hf := Nat.eq_of_beq_eq_true hf
  subst hf
  simp only [cond_true, Option.some.injEq] at h
  subst h
  exact fun args h v h' hr => ovSorted_ok Try.keys rfl w1 w0 runs args h v h' (ovSortedC_le hr)
/-- a box with empty maps, all of it only to be read -/
def HS : H := ⟨3, 0, 3, ((Tr.leaf.set 0 (.arr ⟨3, 3, 1, ((Tr.leaf.set 0 ⟨.bool false, 1⟩).set 1 ⟨.map (some 1), 0⟩).set 2 ⟨.map (some 2), 0⟩⟩)).set 1 (.map [])).set 2 (.map []), false⟩
def subR (ρ : Abs.Ren) (p m m2 : Nat) : Abs.Ren := fun A e => match A, e with
  | 0, 0 => ρ p 0
  | 1, 0 => ρ m 0
  | 2, 0 => ρ m2 0
  | _, _ => none
theorem subR_inv {ρ : Abs.Ren} {p m m2 A e : Nat} {L : Abs.Loc} (h : subR ρ p m m2 A e = some L) : e = 0 ∧ ((A = 0 ∧ ρ p 0 = some L) ∨ (A = 1 ∧ ρ m 0 = some L) ∨ (A = 2 ∧ ρ m2 0 = some L)) := by
  unfold subR at h
  split at h
  · exact ⟨rfl, .inl ⟨rfl, h⟩⟩
  · exact ⟨rfl, .inr (.inl ⟨rfl, h⟩)⟩
  · exact ⟨rfl, .inr (.inr ⟨rfl, h⟩)⟩
  · cases h
theorem mapE {ρ ρ' : Abs.Ren} {w : World} {n n' m A : Nat} (h : ObjR ρ w n m (.map [])) (hs : ∀ e L, ρ' A e = some L → e = 0 ∧ ρ m 0 = some L) : ObjR ρ' w n' A (.map []) := by
  intro e L x
  obtain ⟨rfl, y⟩ := hs e L x
  obtain ⟨_, es', clk, q1, q2, q3⟩ := h 0 L y
  refine ⟨rfl, es', clk, q1, ?_, q3⟩
  cases hl : es'.toList with
  | nil => trivial
  | cons a b => rw [hl] at q2; exact q2.elim
theorem HS_wr {ρ : Abs.Ren} {h : H} {w : World} (hw : WR ρ h w) {p m m2 : Nat} (e1 : ldCell h ⟨p, 1, some 0⟩ = some (.map (some m))) (e2 : ldCell h ⟨p, 2, some 0⟩ = some (.map (some m2))) (e3 : h.objs.get m = some (.map [])) (e4 : h.objs.get m2 = some (.map [])) : WR (subR ρ p m m2) HS w := by
  refine ⟨fun A e L x => ?_, fun A e L A' e' L' x x' _ _ => ?_, fun A ob ho => ?_, fun A ob ho => ?_, Nat.le_refl 3⟩
  · obtain ⟨_, ⟨rfl, y⟩ | ⟨rfl, y⟩ | ⟨rfl, y⟩⟩ := subR_inv x <;> exact ⟨by decide, (hw.dom _ _ _ y).2⟩
  · constructor
    · obtain ⟨_, ⟨rfl, y⟩ | ⟨rfl, y⟩ | ⟨rfl, y⟩⟩ := subR_inv x <;> decide
    · obtain ⟨_, ⟨rfl, y⟩ | ⟨rfl, y⟩ | ⟨rfl, y⟩⟩ := subR_inv x' <;> decide
  · simp only [HS, Tr.get_set, Tr.get_leaf] at ho
    split at ho
    · rename_i hA; subst hA; cases ho
      refine mapE (hw.obj _ _ e4) fun e L x => ?_
      obtain ⟨h0, ⟨h1, y⟩ | ⟨h1, y⟩ | ⟨h1, y⟩⟩ := subR_inv x
      · exact absurd h1 (by decide)
      · exact absurd h1 (by decide)
      · exact ⟨h0, y⟩
    split at ho
    · rename_i hA; subst hA; cases ho
      refine mapE (hw.obj _ _ e3) fun e L x => ?_
      obtain ⟨h0, ⟨h1, y⟩ | ⟨h1, y⟩ | ⟨h1, y⟩⟩ := subR_inv x
      · exact absurd h1 (by decide)
      · exact ⟨h0, y⟩
      · exact absurd h1 (by decide)
    split at ho
    · rename_i hA; subst hA; cases ho
      refine ⟨fun e L x => ?_, fun ho => absurd ho (by decide), fun i hi => ?_, fun i c hc => ?_⟩
      · obtain ⟨h0, ⟨h1, y⟩ | ⟨h1, y⟩ | ⟨h1, y⟩⟩ := subR_inv x
        · subst h0
          unfold ldCell at e1 e2
          cases hob : h.objs.get p with
          | none => simp [hob] at e1
          | some ob =>
            cases ob with
            | map es => simp [hob] at e1
            | arr r =>
              have hr := hw.obj _ _ hob
              obtain ⟨_, _, cs, el, f, q1, q2, q3, q4⟩ := hr.loc 0 L y
              simp only [hob] at e1 e2
              refine ⟨by decide, fun h => absurd h (by decide), cs, el, f, q1, q2, fun ho => absurd ho (by decide), fun i c hc hlo hao => ?_⟩
              simp only [Tr.get_set, Tr.get_leaf] at hc
              split at hc
              · rename_i hi; subst hi; cases hc
                cases hg : r.cells.get 2 with
                | none => simp [hg] at e2
                | some c2 =>
                  simp only [hg] at e2
                  cases hb : c2.lo.ble 0 <;> rw [hb] at e2
                  · simp at e2
                  simp only [cond_true, Option.some.injEq] at e2
                  obtain ⟨v', g1, g2⟩ := q4 2 c2 hg (Nat.le_of_ble_eq_true hb) hao
                  rw [e2] at g2
                  cases g2 with
                  | map _ L2 hL2 => exact ⟨_, g1, .map 2 L2 hL2⟩
              split at hc
              · rename_i hi; subst hi; cases hc
                cases hg : r.cells.get 1 with
                | none => simp [hg] at e1
                | some c2 =>
                  simp only [hg] at e1
                  cases hb : c2.lo.ble 0 <;> rw [hb] at e1
                  · simp at e1
                  simp only [cond_true, Option.some.injEq] at e1
                  obtain ⟨v', g1, g2⟩ := q4 1 c2 hg (Nat.le_of_ble_eq_true hb) hao
                  rw [e1] at g2
                  cases g2 with
                  | map _ L2 hL2 => exact ⟨_, g1, .map 1 L2 hL2⟩
              split at hc
              · cases hc; exact absurd hlo (by decide)
              · cases hc
        · exact absurd h1 (by decide)
        · exact absurd h1 (by decide)
      · have hi : i < 3 := hi
        simp only [Tr.get_set, Tr.get_leaf]
        match i, hi with
        | 0, _ => exact ⟨_, rfl⟩
        | 1, _ => exact ⟨_, rfl⟩
        | 2, _ => exact ⟨_, rfl⟩
      · simp only [Tr.get_set, Tr.get_leaf] at hc
        split at hc
        · rename_i hi; subst hi; cases hc; decide
        split at hc
        · rename_i hi; subst hi; cases hc; decide
        split at hc
        · rename_i hi; subst hi; cases hc; decide
        · cases hc
    · cases ho
  · simp only [HS, Tr.get_set, Tr.get_leaf] at ho
    show A < 3
    split at ho
    · omega
    split at ho
    · omega
    split at ho
    · omega
    · cases ho
/-- what is told of the small box holds of any -/
theorem emp_ok {P : Program} {call : List Value → H → Option (Value × H)} {f : FuncId} {now : Int} (hc : ∀ args h v h', call args h = some (v, h') → (h' = h ∨ h.tick < h'.tick) ∧ ∀ (ρ : Abs.Ren) w (args' : Array Value), WR ρ h w → VRs ρ args args'.toList → Calls P f args' w (CallPost ρ h w v h'))
    {h1 : H} (e : call [.pointer (some ⟨0, 0, some 0⟩), .int .i64 now] HS = some (.slice none 0 0, h1))
    {h : H} {p m m2 : Nat} (e1 : ldCell h ⟨p, 1, some 0⟩ = some (.map (some m))) (e2 : ldCell h ⟨p, 2, some 0⟩ = some (.map (some m2))) (e3 : h.objs.get m = some (.map [])) (e4 : h.objs.get m2 = some (.map [])) (hst : h.st = false)
    (ρ : Abs.Ren) (w : World) (args' : Array Value) (hw : WR ρ h w) (ha : VRs ρ [.pointer (some ⟨p, 0, some 0⟩), .int .i64 now] args'.toList) : Calls P f args' w (CallPost ρ h w (.slice none 0 0) h) := by
  have hw' := HS_wr hw e1 e2 e3 e4
  have ha' : VRs (subR ρ p m m2) [.pointer (some ⟨0, 0, some 0⟩), .int .i64 now] args'.toList := by
    generalize args'.toList = l at ha
    cases ha with
    | cons hp hr =>
      cases hp with
      | ptr _ c har =>
        obtain ⟨L, ee, he, hL, c1⟩ := har
        cases he
        refine .cons (.ptr _ c ⟨L, 0, rfl, hL, c1⟩) ?_
        cases hr with
        | cons hi hn => cases hi; cases hn; exact .cons (.int _ _) .nil
  refine ((hc _ _ _ _ e).2 _ w args' hw' ha').mono ?_
  rintro en w' ⟨v', ρ2, rfl, hv, hw2, hx⟩
  cases hv
  have hb : ∀ b, b < w.heap.size → w'.heap[b]? = w.heap[b]? := fun b hb => hx.frame b hb fun A e L g1 g2 g3 => absurd (hw'.dom A e L g1).1 (Nat.not_lt_of_le g3)
  exact ⟨_, ρ, rfl, .slice0, ⟨fun A e L x => ⟨(hw.dom A e L x).1, Nat.lt_of_lt_of_le (hw.dom A e L x).2 hx.grow⟩, hw.dis, fun A ob ho => (hw.obj A ob ho).keep (Abs.Ren.le_refl _) (fun _ _ h => h) (fun e L x => hb _ (hw.dom A e L x).2), hw.lt, hw.nro⟩,
    ⟨Abs.Ren.le_refl _, rfl, Nat.le_refl _, fun _ _ => Iff.rfl, (fun _ _ _ h1 h2 => by rw [h1] at h2; cases h2), (fun _ _ _ h1 h2 => by rw [h1] at h2; cases h2), hx.grow, fun b hlt _ => hb b hlt, hx.os, hx.tape, hx.output, rfl, fun s => by rw [hst] at s; cases s⟩⟩
def mapE? (h : H) (a : Addr) : Bool := match ldCell h a with
  | some (.map (some r)) => (match h.objs.get r with
    | some (.map []) => true
    | _ => false)
  | _ => false
theorem mapE?_inv {h : H} {a : Addr} (e : mapE? h a = true) : ∃ m, ldCell h a = some (.map (some m)) ∧ h.objs.get m = some (.map []) := by
  unfold mapE? at e
  split at e
  · rename_i r h1
    split at e
    · rename_i h2; exact ⟨r, h1, h2⟩
    · cases e
  · cases e
def ov36 (args : List Value) (h : H) : Option (Value × H) := match args with
  | [.pointer (some ⟨p, 0, some 0⟩), .int .i64 99] => bif !h.st && mapE? h ⟨p, 1, some 0⟩ && mapE? h ⟨p, 2, some 0⟩ then some (.slice none 0 0, h) else none
  | _ => none
def nilR : Option (Value × H) → Bool
  | some (.slice none 0 0, _) => true
  | _ => false
theorem late0 : nilR (ovRange D1 3000 36 [.pointer (some ⟨0, 0, some 0⟩), .int .i64 99] HS) = true := by kernel_rfl
theorem late1 : ∃ h1, ovRange D1 3000 36 [.pointer (some ⟨0, 0, some 0⟩), .int .i64 99] HS = some (.slice none 0 0, h1) := by
  have h := late0
  unfold nilR at h
  split at h
  · rename_i h1 e; exact ⟨h1, e⟩
  · cases h
noncomputable def D : Abs.Data := { D1 with ov := fun f => bif f.beq 36 then some ov36 else D1.ov f }
theorem dok : DOk Try.prog D := ⟨fun f F h => Tab.dok.1 f F h, fun t i h => Tab.dok.2 t i h, fun t i h hf => Tab.dok.3 t i h hf, Tab.dok.4⟩
theorem ovok : OvOK Try.prog D := by
  intro f g h
  simp only [D] at h
  cases hf : f.beq 36 <;> rw [hf] at h
  · exact ovok1 f g h
  · have hf := Nat.eq_of_beq_eq_true hf
    subst hf
    simp only [cond_true, Option.some.injEq] at h
    subst h
    intro args h v h' hr
    unfold ov36 at hr
    split at hr
    case h_2 => cases hr
    rename_i p
    cases hb : (!h.st && mapE? h ⟨p, 1, some 0⟩ && mapE? h ⟨p, 2, some 0⟩) <;> rw [hb] at hr
    · cases hr
    simp only [cond_true, Option.some.injEq, Prod.mk.injEq] at hr
    obtain ⟨rfl, rfl⟩ := hr
    simp only [Bool.and_eq_true, Bool.not_eq_true'] at hb
    obtain ⟨⟨hst, hb1⟩, hb2⟩ := hb
    obtain ⟨m, e1, e3⟩ := mapE?_inv hb1
    obtain ⟨m2, e2, e4⟩ := mapE?_inv hb2
    obtain ⟨h1, e⟩ := late1
    exact ⟨.inl rfl, fun ρ w args' hw ha => emp_ok (ovRange_ok dok1 ovok1 3000 36) e e1 e2 e3 e4 hst ρ w args' hw ha⟩

end Go.Proofs.Ytaebjajbogedkaa.Ov
