/- slices.SortedFunc over the keys of a map: what it hands back; no condition on the map's order. -/
import Derived.Test.YthiccnmplgdheaaAbsG
import Derived.Test.YthiccnmplgdheaaCmp
import Derived.Test.YthiccnmplgdheaaTab
import Derived.Shelf.SlSortCmp.NoneTotal
import Derived.Test.YthiccnmplgdheaaChecked
set_option linter.unusedVariables false
set_option maxRecDepth 100000
namespace Go.Proofs
def Try.collect_ren : Go.Shelf.Ren := ⟨fun | 8 => 162 | 11 => 181 | n => n, fun | 26 => 3 | 28 => 146 | 24 => 22 | 0 => 0 | 33 => 44 | 4 => 4 | n => n, fun | n => n⟩
theorem Try.collect : Go.Proofs.SlLaysZI.n8 Try.prog Try.collect_ren where
  mixed := by kernel_rfl
  f8 := ⟨"slices.Collect[int]", by decide, Try.func162.trans (congrArg some (by kernel_rfl))⟩
  f11 := ⟨"slices.AppendSeq[[]int,int]", by decide, Try.func181.trans (congrArg some (by kernel_rfl))⟩
  t0 := Try.underlying0
  a0 := Try.isAgg0
  z0 := Try.sizeOf0
  v0 := Try.zeroValue0
  t24 := Try.underlying22
  a24 := Try.isAgg22
  z24 := Try.sizeOf22
  v24 := Try.zeroValue22
  t26 := Try.underlying3
  a26 := Try.isAgg3
  z26 := Try.sizeOf3
  v26 := Try.zeroValue3
  t28 := Try.underlying146
  a28 := Try.isAgg146
  z28 := Try.sizeOf146
  v28 := Try.zeroValue146
  i26 := by kernel_rfl
def Try.keys_ren : Go.Shelf.Ren := ⟨fun | 10 => 164 | n => n, fun | 33 => 44 | 23 => 81 | 0 => 0 | 4 => 4 | 26 => 3 | 3 => 3 | n => n, fun | n => n⟩
theorem Try.keys : Go.Proofs.SlLaysZI.n10 Try.prog Try.keys_ren where
  mixed := by kernel_rfl
  f10 := ⟨"maps.Keys[map[int]int,int,int]$1", by decide, Try.func164.trans (congrArg some (by kernel_rfl))⟩
  t0 := Try.underlying0
  a0 := Try.isAgg0
  z0 := Try.sizeOf0
  v0 := Try.zeroValue0
  t4 := Try.underlying4
  a4 := Try.isAgg4
  z4 := Try.sizeOf4
  v4 := Try.zeroValue4
  t23 := Try.underlying81
  a23 := Try.isAgg81
  z23 := Try.sizeOf81
  v23 := Try.zeroValue81
  t26 := Try.underlying3
  a26 := Try.isAgg3
  z26 := Try.sizeOf3
  v26 := Try.zeroValue3
  t33 := Try.underlying44
  a33 := Try.isAgg44
  z33 := Try.sizeOf44
  v33 := Try.zeroValue44
def Try.sortF_ren : Go.Shelf.Ren := ⟨fun | 6 => 163 | 15 => 180 | 14 => 182 | 28 => 187 | 29 => 188 | 20 => 189 | 21 => 190 | 22 => 191 | 23 => 192 | 24 => 193 | 25 => 194 | 26 => 195 | 27 => 196 | 46 => 198 | 47 => 199 | 48 => 200 | 49 => 201 | 50 => 202 | 57 => 203 | n => n, fun | 22 => 22 | 24 => 3 | 25 => 28 | 3 => 3 | 39 => 151 | 0 => 0 | 53 => 193 | 55 => 103 | 4 => 4 | 46 => 197 | 45 => 196 | 50 => 92 | 5 => 5 | 9 => 9 | 66 => 203 | 70 => 171 | 76 => 208 | 77 => 123 | n => n, fun | n => n⟩
theorem Try.sortF : Go.Proofs.SlLaysF.n6 Try.prog Try.sortF_ren where
  mixed := by kernel_rfl
  f6 := ⟨"slices.SortFunc[[]int,int]", by decide, Try.func163.trans (congrArg some (by kernel_rfl))⟩
  f14 := ⟨"slices.pdqsortCmpFunc[int]", by decide, Try.func182.trans (congrArg some (by kernel_rfl))⟩
  f15 := Try.func180.trans (congrArg some (by kernel_rfl))
  f20 := ⟨"slices.insertionSortCmpFunc[int]", by decide, Try.func189.trans (congrArg some (by kernel_rfl))⟩
  f21 := ⟨"slices.heapSortCmpFunc[int]", by decide, Try.func190.trans (congrArg some (by kernel_rfl))⟩
  f22 := ⟨"slices.breakPatternsCmpFunc[int]", by decide, Try.func191.trans (congrArg some (by kernel_rfl))⟩
  f23 := ⟨"slices.choosePivotCmpFunc[int]", by decide, Try.func192.trans (congrArg some (by kernel_rfl))⟩
  f24 := ⟨"slices.reverseRangeCmpFunc[int]", by decide, Try.func193.trans (congrArg some (by kernel_rfl))⟩
  f25 := ⟨"slices.partialInsertionSortCmpFunc[int]", by decide, Try.func194.trans (congrArg some (by kernel_rfl))⟩
  f26 := ⟨"slices.partitionEqualCmpFunc[int]", by decide, Try.func195.trans (congrArg some (by kernel_rfl))⟩
  f27 := ⟨"slices.partitionCmpFunc[int]", by decide, Try.func196.trans (congrArg some (by kernel_rfl))⟩
  f28 := Try.func187.trans (congrArg some (by kernel_rfl))
  f29 := Try.func188.trans (congrArg some (by kernel_rfl))
  f46 := ⟨"slices.siftDownCmpFunc[int]", by decide, Try.func198.trans (congrArg some (by kernel_rfl))⟩
  f47 := Try.func199.trans (congrArg some (by kernel_rfl))
  f48 := Try.func200.trans (congrArg some (by kernel_rfl))
  f49 := ⟨"slices.medianAdjacentCmpFunc[int]", by decide, Try.func201.trans (congrArg some (by kernel_rfl))⟩
  f50 := ⟨"slices.medianCmpFunc[int]", by decide, Try.func202.trans (congrArg some (by kernel_rfl))⟩
  f57 := ⟨"slices.order2CmpFunc[int]", by decide, Try.func203.trans (congrArg some (by kernel_rfl))⟩
  t0 := Try.underlying0
  a0 := Try.isAgg0
  z0 := Try.sizeOf0
  v0 := Try.zeroValue0
  t3 := Try.underlying3
  a3 := Try.isAgg3
  z3 := Try.sizeOf3
  v3 := Try.zeroValue3
  t4 := Try.underlying4
  a4 := Try.isAgg4
  z4 := Try.sizeOf4
  v4 := Try.zeroValue4
  t5 := Try.underlying5
  a5 := Try.isAgg5
  z5 := Try.sizeOf5
  v5 := Try.zeroValue5
  t9 := Try.underlying9
  a9 := Try.isAgg9
  z9 := Try.sizeOf9
  v9 := Try.zeroValue9
  t22 := Try.underlying22
  a22 := Try.isAgg22
  z22 := Try.sizeOf22
  v22 := Try.zeroValue22
  a24 := Try.isAgg3
  z24 := Try.sizeOf3
  t25 := Try.underlying28
  a25 := Try.isAgg28
  z25 := Try.sizeOf28
  v25 := Try.zeroValue28
  t39 := Try.underlying151
  a39 := Try.isAgg151
  z39 := Try.sizeOf151
  v39 := Try.zeroValue151
  t45 := Try.underlying196
  a45 := Try.isAgg196
  z45 := Try.sizeOf196
  v45 := Try.zeroValue196
  t46 := Try.underlying197
  a46 := Try.isAgg197
  z46 := Try.sizeOf197
  v46 := Try.zeroValue197
  t50 := Try.underlying92
  a50 := Try.isAgg92
  z50 := Try.sizeOf92
  v50 := Try.zeroValue92
  t53 := Try.underlying193
  a53 := Try.isAgg193
  z53 := Try.sizeOf193
  v53 := Try.zeroValue193
  t55 := Try.underlying103
  a55 := Try.isAgg103
  z55 := Try.sizeOf103
  v55 := Try.zeroValue103
  t66 := Try.underlying203
  a66 := Try.isAgg203
  z66 := Try.sizeOf203
  v66 := Try.zeroValue203
  t70 := Try.underlying171
  a70 := Try.isAgg171
  z70 := Try.sizeOf171
  v70 := Try.zeroValue171
  t76 := Try.underlying208
  a76 := Try.isAgg208
  z76 := Try.sizeOf208
  v76 := Try.zeroValue208
  t77 := Try.underlying123
  a77 := Try.isAgg123
  z77 := Try.sizeOf123
  v77 := Try.zeroValue123
end Go.Proofs
namespace Go.Proofs.Ythiccnmplgdheaa.Ov
open Go Go.Abs Go.Proofs Go.Sort Go.RowKit Go.Maps Go.Shelf
set_option maxHeartbeats 2000000 in
theorem walk117 (ks : List Int) (hN : ks.length ≤ maxLen) (hNb : ks.length * 8 ≤ 140737488355328) (w : World) (c : Addr)
    (hseq : SeqGives Fence.wide 3 Try.prog 164 #[.pointer (some c)] encZ (fun ss : List Int => ss.Perm ks) ks.length w)
    (g : Nat) (cb : Array Value) (eg : ∀ args w, (callFunc g args).run Try.prog w = .ok (.enter g args) w) [Inhabited {x : Int // x ∈ ks}] {cf : Int → Int → Int} {l : List Int} (hT : Srt cf ks l)
    (hcmp : ∀ (W : World) (blk : Nat), Below w.heap.size w W → w.heap.size ≤ blk → CmpLays1 Try.prog g cb (fun x : {x : Int // x ∈ ks} => Value.int .i64 x.1) (fun x y => cf x.1 y.1) blk 0 ks.length W) :
    Calls Try.prog 117 #[.func (.func 164) #[] #[.pointer (some c)], .func (.func g) #[] cb] w fun e w' =>
      ∃ (W : World) (blk cap : Nat) (cur : Array Value) (m : Nat) (d : Array {x : Int // x ∈ ks}) (os : Array Obj), Below w.heap.size w W ∧ w.heap.size ≤ blk ∧ W.heap[blk]? = some (.cells cur 3 (0, 0)) ∧ d.size ≤ cap ∧ cur.size = cap ∧
        d.toList.map (fun x : {x : Int // x ∈ ks} => Value.int .i64 x.1) = l.map (Value.int .i64) ∧ e = .returned (.slice (some ⟨blk, 0, none⟩) d.size cap) ∧ w' = sortWorld (fun x : {x : Int // x ∈ ks} => Value.int .i64 x.1) W blk 0 m d os := by
  have hks : ks ≠ [] := by
    intro e
    obtain ⟨x, hx⟩ := (default : {x : Int // x ∈ ks})
    rw [e] at hx; cases hx
  have cC := (callsIn_wide (n := 5)).1 (AnyZI.collect_in Try.collect Fence.wide 5 trivial trivial rfl (by omega) 164 #[.pointer (some c)] trivial (enters_of Try.func164 (by kernel_rfl) rfl) _ ks.length hN hNb w hseq)
  change Calls Try.prog 162 _ _ _ at cC
  go_enter Try.func117, Try.ntmps117
  go_wp2_with (first | (go_at_call 162; refine cC.mono ?_; rintro e W ⟨v, ss, rfl, hS, hrow, hnil, hb⟩))
  rcases hrow.2 with ⟨rfl, hz⟩ | ⟨gb, cap, cur, rfl, hbase, hgb, r1, r2, r3, r4⟩
  · exfalso
    have hss : ss = [] := List.eq_nil_of_length_eq_zero hz
    subst hss
    exact hks (List.eq_nil_of_length_eq_zero (by simpa using hS.length_eq.symm))
  · have hH := withK_holds hS (holds_of_block_i hgb (by simpa using r4))
    have hgl : gb < W.heap.size := (Array.getElem?_eq_some_iff.1 hgb).1
    have hdz : (withK hS).size = ss.length := withK_size hS
    have hkl : ss.length = ks.length := hS.length_eq
    obtain ⟨o1, _⟩ := sortsTo_swo hT.perm hT.pw hT.irr
    have cS := Any.slices_SortFunc Try.sortF (fun x : {x : Int // x ∈ ks} => Value.int .i64 x.1) (fun _ => rfl) (fun x y => cf x.1 y.1) o1 g cb gb 0 cap (withK hS) W eg (by rw [hdz, hkl]; exact hcmp W gb hb hbase) hH hgl (by omega)
    change Calls Try.prog 163 _ _ _ at cS
    rw [hdz] at cS
    go_wp2_with (go_at_call 163; refine cS.mono ?_; rintro e w' ⟨rfl, d', nn, os, q1, q2, rfl⟩)
    go_ret
    obtain ⟨s1, s2⟩ := withK_sorted hS hT.perm hT.pw hT.irr (by rw [hdz]; exact q1) (by rw [hdz]; exact q2)
    exact ⟨W, gb, cap, cur, nn, d', os, hb, hbase, hgb, by omega, by omega, s1, by rw [s2, hkl]; rfl, rfl⟩
set_option maxHeartbeats 2000000 in
theorem walk117_nil (w : World) (c : Addr) (hseq : SeqGives Fence.wide 3 Try.prog 164 #[.pointer (some c)] encZ (fun ss : List Int => ss = []) 0 w) (g : Nat) (cb : Array Value) :
    Calls Try.prog 117 #[.func (.func 164) #[] #[.pointer (some c)], .func (.func g) #[] cb] w fun e w' => e = .returned (.slice none 0 0) ∧ Below w.heap.size w w' := by
  have cC := (callsIn_wide (n := 5)).1 (AnyZI.collect_in Try.collect Fence.wide 5 trivial trivial rfl (by omega) 164 #[.pointer (some c)] trivial (enters_of Try.func164 (by kernel_rfl) rfl) _ 0 (Nat.zero_le _) (by omega) w hseq)
  change Calls Try.prog 162 _ _ _ at cC
  have cS : ∀ W, Calls Try.prog 163 #[.slice none 0 0, .func (.func g) #[] cb] W fun e w' => e = .returned (.tuple #[]) ∧ w' = W := fun W => AnyF.slices_SortFunc_none (P := Try.prog) (ρ := Try.sortF_ren) { Try.sortF with } none 0 _ W
  go_enter Try.func117, Try.ntmps117
  go_wp2_with (first | (go_at_call 162; refine cC.mono ?_; rintro e W ⟨v, ss, rfl, rfl, hrow, hnil, hb⟩; obtain rfl : v = .slice none 0 0 := hnil.2 rfl) | (go_at_call 163; refine (cS _).mono ?_; rintro e w' ⟨rfl, rfl⟩))
  go_ret
  exact ⟨rfl, hb⟩

theorem w1 : Walk1 Try.prog 117 164 3 := fun ks hN hNb w c hseq g cb eg _ cf l hT hcmp => walk117 ks hN hNb w c hseq g cb eg hT hcmp
theorem w0 : Walk0 Try.prog 117 164 := fun w c hseq g cb => walk117_nil w c hseq g cb
noncomputable def run : FuncId → List Value → Int → Int → H → Option Int := fun g cb x y h => bif g.beq 119 then (match cb with
  | [.pointer p] => (TC.order_Order_All_1 x y p h).map (·.1)
  | _ => none) else none
theorem runs : RunsOK Try.prog run := by
  intro g cb x y h c hr
  unfold run at hr
  cases hg : g.beq 119 <;> rw [hg] at hr
  · simp at hr
  have hg := Nat.eq_of_beq_eq_true hg
  subst hg
  simp only [cond_true] at hr
  split at hr
  case h_2 => simp at hr
  rename_i p
  rw [Option.map_eq_some_iff] at hr
  obtain ⟨⟨c', h'⟩, h1, h2⟩ := hr
  simp only at h2
  subst h2
  exact ⟨enters_of Try.func119 (by kernel_rfl) rfl, h', fun ρ w args' hw ha => calls_of_ev Tab.dok Tab.ovok (TC.ok_119 (x, y, p) h c' h' h1) hw ha⟩
noncomputable def ov117 : List Value → H → Option (Value × H) := ovSorted 164 3 run
noncomputable def D : Abs.Data := { fn := Tab.fn, ty := Tab.ty, ov := fun f => bif f.beq 117 then some ov117 else none }
theorem dok : DOk Try.prog D := ⟨fun f F h => Tab.dok.1 f F h, fun t i h => Tab.dok.2 t i h, fun t i h hf => Tab.dok.3 t i h hf, Tab.dok.4⟩
theorem ovok : OvOK Try.prog D := by
  intro f g h
  simp only [D] at h
  cases hf : f.beq 117 <;> rw [hf] at h
  · simp at h
  have hf := Nat.eq_of_beq_eq_true hf
  subst hf
  simp only [cond_true, Option.some.injEq] at h
  subst h
  exact ovSorted_ok Try.keys rfl w1 w0 runs

end Go.Proofs.Ythiccnmplgdheaa.Ov
