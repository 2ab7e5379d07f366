/- slices.SortedFunc over the keys of a map: what it hands back; no condition on the map's order. -/
import Derived.Test.YtlikepnpamejmaaGreatAbsG
import Derived.Test.YtlikepnpamejmaaGreatCmp
import Derived.Test.YtlikepnpamejmaaGreatTab
import Derived.Shelf.SlSortCmp.NoneTotal
import Derived.Test.YtlikepnpamejmaaGreatChecked
set_option linter.unusedVariables false
set_option maxRecDepth 100000
namespace Go.Proofs
def Tryz.collect_ren : Go.Shelf.Ren := ⟨fun | 8 => 36 | 11 => 57 | n => n, fun | 26 => 3 | 28 => 60 | 24 => 22 | 0 => 0 | 33 => 106 | 4 => 4 | n => n, fun | n => n⟩
theorem Tryz.collect : Go.Proofs.SlLaysZI.n8 Tryz.prog Tryz.collect_ren where
  mixed := by kernel_rfl
  f8 := ⟨"slices.Collect[int]", by decide, Tryz.func36.trans (congrArg some (by kernel_rfl))⟩
  f11 := ⟨"slices.AppendSeq[[]int,int]", by decide, Tryz.func57.trans (congrArg some (by kernel_rfl))⟩
  t0 := Tryz.underlying0
  a0 := Tryz.isAgg0
  z0 := Tryz.sizeOf0
  v0 := Tryz.zeroValue0
  t24 := Tryz.underlying22
  a24 := Tryz.isAgg22
  z24 := Tryz.sizeOf22
  v24 := Tryz.zeroValue22
  t26 := Tryz.underlying3
  a26 := Tryz.isAgg3
  z26 := Tryz.sizeOf3
  v26 := Tryz.zeroValue3
  t28 := Tryz.underlying60
  a28 := Tryz.isAgg60
  z28 := Tryz.sizeOf60
  v28 := Tryz.zeroValue60
  i26 := by kernel_rfl
def Tryz.keys_ren : Go.Shelf.Ren := ⟨fun | 10 => 38 | n => n, fun | 33 => 106 | 23 => 33 | 0 => 0 | 4 => 4 | 26 => 3 | 3 => 3 | n => n, fun | n => n⟩
theorem Tryz.keys : Go.Proofs.SlLaysZI.n10 Tryz.prog Tryz.keys_ren where
  mixed := by kernel_rfl
  f10 := ⟨"maps.Keys[map[int]int,int,int]$1", by decide, Tryz.func38.trans (congrArg some (by kernel_rfl))⟩
  t0 := Tryz.underlying0
  a0 := Tryz.isAgg0
  z0 := Tryz.sizeOf0
  v0 := Tryz.zeroValue0
  t4 := Tryz.underlying4
  a4 := Tryz.isAgg4
  z4 := Tryz.sizeOf4
  v4 := Tryz.zeroValue4
  t23 := Tryz.underlying33
  a23 := Tryz.isAgg33
  z23 := Tryz.sizeOf33
  v23 := Tryz.zeroValue33
  t26 := Tryz.underlying3
  a26 := Tryz.isAgg3
  z26 := Tryz.sizeOf3
  v26 := Tryz.zeroValue3
  t33 := Tryz.underlying106
  a33 := Tryz.isAgg106
  z33 := Tryz.sizeOf106
  v33 := Tryz.zeroValue106
def Tryz.sortF_ren : Go.Shelf.Ren := ⟨fun | 6 => 37 | 15 => 59 | 14 => 58 | 28 => 87 | 29 => 88 | 20 => 79 | 21 => 80 | 22 => 81 | 23 => 82 | 24 => 83 | 25 => 84 | 26 => 85 | 27 => 86 | 46 => 100 | 47 => 101 | 48 => 102 | 49 => 103 | 50 => 104 | 57 => 107 | n => n, fun | 22 => 22 | 24 => 3 | 25 => 26 | 3 => 3 | 39 => 135 | 0 => 0 | 53 => 163 | 55 => 42 | 4 => 4 | 46 => 156 | 45 => 155 | 50 => 160 | 5 => 5 | 9 => 9 | 66 => 178 | 70 => 182 | 76 => 186 | 77 => 152 | n => n, fun | n => n⟩
theorem Tryz.sortF : Go.Proofs.SlLaysF.n6 Tryz.prog Tryz.sortF_ren where
  mixed := by kernel_rfl
  f6 := ⟨"slices.SortFunc[[]int,int]", by decide, Tryz.func37.trans (congrArg some (by kernel_rfl))⟩
  f14 := ⟨"slices.pdqsortCmpFunc[int]", by decide, Tryz.func58.trans (congrArg some (by kernel_rfl))⟩
  f15 := Tryz.func59.trans (congrArg some (by kernel_rfl))
  f20 := ⟨"slices.insertionSortCmpFunc[int]", by decide, Tryz.func79.trans (congrArg some (by kernel_rfl))⟩
  f21 := ⟨"slices.heapSortCmpFunc[int]", by decide, Tryz.func80.trans (congrArg some (by kernel_rfl))⟩
  f22 := ⟨"slices.breakPatternsCmpFunc[int]", by decide, Tryz.func81.trans (congrArg some (by kernel_rfl))⟩
  f23 := ⟨"slices.choosePivotCmpFunc[int]", by decide, Tryz.func82.trans (congrArg some (by kernel_rfl))⟩
  f24 := ⟨"slices.reverseRangeCmpFunc[int]", by decide, Tryz.func83.trans (congrArg some (by kernel_rfl))⟩
  f25 := ⟨"slices.partialInsertionSortCmpFunc[int]", by decide, Tryz.func84.trans (congrArg some (by kernel_rfl))⟩
  f26 := ⟨"slices.partitionEqualCmpFunc[int]", by decide, Tryz.func85.trans (congrArg some (by kernel_rfl))⟩
  f27 := ⟨"slices.partitionCmpFunc[int]", by decide, Tryz.func86.trans (congrArg some (by kernel_rfl))⟩
  f28 := Tryz.func87.trans (congrArg some (by kernel_rfl))
  f29 := Tryz.func88.trans (congrArg some (by kernel_rfl))
  f46 := ⟨"slices.siftDownCmpFunc[int]", by decide, Tryz.func100.trans (congrArg some (by kernel_rfl))⟩
  f47 := Tryz.func101.trans (congrArg some (by kernel_rfl))
  f48 := Tryz.func102.trans (congrArg some (by kernel_rfl))
  f49 := ⟨"slices.medianAdjacentCmpFunc[int]", by decide, Tryz.func103.trans (congrArg some (by kernel_rfl))⟩
  f50 := ⟨"slices.medianCmpFunc[int]", by decide, Tryz.func104.trans (congrArg some (by kernel_rfl))⟩
  f57 := ⟨"slices.order2CmpFunc[int]", by decide, Tryz.func107.trans (congrArg some (by kernel_rfl))⟩
  t0 := Tryz.underlying0
  a0 := Tryz.isAgg0
  z0 := Tryz.sizeOf0
  v0 := Tryz.zeroValue0
  t3 := Tryz.underlying3
  a3 := Tryz.isAgg3
  z3 := Tryz.sizeOf3
  v3 := Tryz.zeroValue3
  t4 := Tryz.underlying4
  a4 := Tryz.isAgg4
  z4 := Tryz.sizeOf4
  v4 := Tryz.zeroValue4
  t5 := Tryz.underlying5
  a5 := Tryz.isAgg5
  z5 := Tryz.sizeOf5
  v5 := Tryz.zeroValue5
  t9 := Tryz.underlying9
  a9 := Tryz.isAgg9
  z9 := Tryz.sizeOf9
  v9 := Tryz.zeroValue9
  t22 := Tryz.underlying22
  a22 := Tryz.isAgg22
  z22 := Tryz.sizeOf22
  v22 := Tryz.zeroValue22
  a24 := Tryz.isAgg3
  z24 := Tryz.sizeOf3
  t25 := Tryz.underlying26
  a25 := Tryz.isAgg26
  z25 := Tryz.sizeOf26
  v25 := Tryz.zeroValue26
  t39 := Tryz.underlying135
  a39 := Tryz.isAgg135
  z39 := Tryz.sizeOf135
  v39 := Tryz.zeroValue135
  t45 := Tryz.underlying155
  a45 := Tryz.isAgg155
  z45 := Tryz.sizeOf155
  v45 := Tryz.zeroValue155
  t46 := Tryz.underlying156
  a46 := Tryz.isAgg156
  z46 := Tryz.sizeOf156
  v46 := Tryz.zeroValue156
  t50 := Tryz.underlying160
  a50 := Tryz.isAgg160
  z50 := Tryz.sizeOf160
  v50 := Tryz.zeroValue160
  t53 := Tryz.underlying163
  a53 := Tryz.isAgg163
  z53 := Tryz.sizeOf163
  v53 := Tryz.zeroValue163
  t55 := Tryz.underlying42
  a55 := Tryz.isAgg42
  z55 := Tryz.sizeOf42
  v55 := Tryz.zeroValue42
  t66 := Tryz.underlying178
  a66 := Tryz.isAgg178
  z66 := Tryz.sizeOf178
  v66 := Tryz.zeroValue178
  t70 := Tryz.underlying182
  a70 := Tryz.isAgg182
  z70 := Tryz.sizeOf182
  v70 := Tryz.zeroValue182
  t76 := Tryz.underlying186
  a76 := Tryz.isAgg186
  z76 := Tryz.sizeOf186
  v76 := Tryz.zeroValue186
  t77 := Tryz.underlying152
  a77 := Tryz.isAgg152
  z77 := Tryz.sizeOf152
  v77 := Tryz.zeroValue152
end Go.Proofs
namespace Go.Proofs.YtlikepnpamejmaaGreat.Ov
open Go Go.Abs Go.Proofs Go.Sort Go.RowKit Go.Maps Go.Shelf
set_option maxHeartbeats 2000000 in
theorem walk16 (ks : List Int) (hN : ks.length ≤ maxLen) (hNb : ks.length * 8 ≤ 140737488355328) (w : World) (c : Addr)
    (hseq : SeqGives Fence.wide 3 Tryz.prog 38 #[.pointer (some c)] encZ (fun ss : List Int => ss.Perm ks) ks.length w)
    (g : Nat) (cb : Array Value) (eg : ∀ args w, (callFunc g args).run Tryz.prog w = .ok (.enter g args) w) [Inhabited {x : Int // x ∈ ks}] {cf : Int → Int → Int} {l : List Int} (hT : Srt cf ks l)
    (hcmp : ∀ (W : World) (blk : Nat), Below w.heap.size w W → w.heap.size ≤ blk → CmpLays1 Tryz.prog g cb (fun x : {x : Int // x ∈ ks} => Value.int .i64 x.1) (fun x y => cf x.1 y.1) blk 0 ks.length W) :
    Calls Tryz.prog 16 #[.func (.func 38) #[] #[.pointer (some c)], .func (.func g) #[] cb] w fun e w' =>
      ∃ (W : World) (blk cap : Nat) (cur : Array Value) (m : Nat) (d : Array {x : Int // x ∈ ks}) (os : Array Obj), Below w.heap.size w W ∧ w.heap.size ≤ blk ∧ W.heap[blk]? = some (.cells cur 3 (0, 0)) ∧ d.size ≤ cap ∧ cur.size = cap ∧
        d.toList.map (fun x : {x : Int // x ∈ ks} => Value.int .i64 x.1) = l.map (Value.int .i64) ∧ e = .returned (.slice (some ⟨blk, 0, none⟩) d.size cap) ∧ w' = sortWorld (fun x : {x : Int // x ∈ ks} => Value.int .i64 x.1) W blk 0 m d os := by
  have hks : ks ≠ [] := by
    intro e
    obtain ⟨x, hx⟩ := (default : {x : Int // x ∈ ks})
    rw [e] at hx; cases hx
  have cC := (callsIn_wide (n := 5)).1 (AnyZI.collect_in Tryz.collect Fence.wide 5 trivial trivial rfl (by omega) 38 #[.pointer (some c)] trivial (enters_of Tryz.func38 (by kernel_rfl) rfl) _ ks.length hN hNb w hseq)
  change Calls Tryz.prog 36 _ _ _ at cC
  go_enter Tryz.func16, Tryz.ntmps16
  go_wp2_with (first | (go_at_call 36; refine cC.mono ?_; rintro e W ⟨v, ss, rfl, hS, hrow, hnil, hb⟩))
  rcases hrow.2 with ⟨rfl, hz⟩ | ⟨gb, cap, cur, rfl, hbase, hgb, r1, r2, r3, r4⟩
  · exfalso
    have hss : ss = [] := List.eq_nil_of_length_eq_zero hz
    subst hss
    exact hks (List.eq_nil_of_length_eq_zero (by simpa using hS.length_eq.symm))
  · have hH := withK_holds hS (holds_of_block_i hgb (by simpa using r4))
    have hgl : gb < W.heap.size := (Array.getElem?_eq_some_iff.1 hgb).1
    have hdz : (withK hS).size = ss.length := withK_size hS
    have hkl : ss.length = ks.length := hS.length_eq
    obtain ⟨o1, _⟩ := sortsTo_swo hT.perm hT.pw hT.irr
    have cS := Any.slices_SortFunc Tryz.sortF (fun x : {x : Int // x ∈ ks} => Value.int .i64 x.1) (fun _ => rfl) (fun x y => cf x.1 y.1) o1 g cb gb 0 cap (withK hS) W eg (by rw [hdz, hkl]; exact hcmp W gb hb hbase) hH hgl (by omega)
    change Calls Tryz.prog 37 _ _ _ at cS
    rw [hdz] at cS
    go_wp2_with (go_at_call 37; refine cS.mono ?_; rintro e w' ⟨rfl, d', nn, os, q1, q2, rfl⟩)
    go_ret
    obtain ⟨s1, s2⟩ := withK_sorted hS hT.perm hT.pw hT.irr (by rw [hdz]; exact q1) (by rw [hdz]; exact q2)
    exact ⟨W, gb, cap, cur, nn, d', os, hb, hbase, hgb, by omega, by omega, s1, by rw [s2, hkl]; rfl, rfl⟩
set_option maxHeartbeats 2000000 in
theorem walk16_nil (w : World) (c : Addr) (hseq : SeqGives Fence.wide 3 Tryz.prog 38 #[.pointer (some c)] encZ (fun ss : List Int => ss = []) 0 w) (g : Nat) (cb : Array Value) :
    Calls Tryz.prog 16 #[.func (.func 38) #[] #[.pointer (some c)], .func (.func g) #[] cb] w fun e w' => e = .returned (.slice none 0 0) ∧ Below w.heap.size w w' := by
  have cC := (callsIn_wide (n := 5)).1 (AnyZI.collect_in Tryz.collect Fence.wide 5 trivial trivial rfl (by omega) 38 #[.pointer (some c)] trivial (enters_of Tryz.func38 (by kernel_rfl) rfl) _ 0 (Nat.zero_le _) (by omega) w hseq)
  change Calls Tryz.prog 36 _ _ _ at cC
  have cS : ∀ W, Calls Tryz.prog 37 #[.slice none 0 0, .func (.func g) #[] cb] W fun e w' => e = .returned (.tuple #[]) ∧ w' = W := fun W => AnyF.slices_SortFunc_none (P := Tryz.prog) (ρ := Tryz.sortF_ren) { Tryz.sortF with } none 0 _ W
  go_enter Tryz.func16, Tryz.ntmps16
  go_wp2_with (first | (go_at_call 36; refine cC.mono ?_; rintro e W ⟨v, ss, rfl, rfl, hrow, hnil, hb⟩; obtain rfl : v = .slice none 0 0 := hnil.2 rfl) | (go_at_call 37; refine (cS _).mono ?_; rintro e w' ⟨rfl, rfl⟩))
  go_ret
  exact ⟨rfl, hb⟩

theorem w1 : Walk1 Tryz.prog 16 38 3 := fun ks hN hNb w c hseq g cb eg _ cf l hT hcmp => walk16 ks hN hNb w c hseq g cb eg hT hcmp
theorem w0 : Walk0 Tryz.prog 16 38 := fun w c hseq g cb => walk16_nil w c hseq g cb
noncomputable def run : FuncId → List Value → Int → Int → H → Option Int := fun g cb x y h => bif g.beq 18 then (match cb with
  | [.pointer p] => (TC.order_Order_All_1 x y p h).map (·.1)
  | _ => none) else none
theorem runs : RunsOK Tryz.prog run := by
  intro g cb x y h c hr
  unfold run at hr
  cases hg : g.beq 18 <;> rw [hg] at hr
  · simp at hr
  have hg := Nat.eq_of_beq_eq_true hg
  subst hg
  simp only [cond_true] at hr
  split at hr
  case h_2 => simp at hr
  rename_i p
  rw [Option.map_eq_some_iff] at hr
  obtain ⟨⟨c', h'⟩, h1, h2⟩ := hr
  simp only at h2
  subst h2
  exact ⟨enters_of Tryz.func18 (by kernel_rfl) rfl, h', fun ρ w args' hw ha => calls_of_ev Tab.dok Tab.ovok (TC.ok_18 (x, y, p) h c' h' h1) hw ha⟩
noncomputable def ov16 : List Value → H → Option (Value × H) := ovSorted 38 3 run
noncomputable def D : Abs.Data := { fn := Tab.fn, ty := Tab.ty, ov := fun f => bif f.beq 16 then some ov16 else none }
theorem dok : DOk Tryz.prog D := ⟨fun f F h => Tab.dok.1 f F h, fun t i h => Tab.dok.2 t i h, fun t i h hf => Tab.dok.3 t i h hf, Tab.dok.4⟩
theorem ovok : OvOK Tryz.prog D := by
  intro f g h
  simp only [D] at h
  cases hf : f.beq 16 <;> rw [hf] at h
  · simp at h
  have hf := Nat.eq_of_beq_eq_true hf
  subst hf
  simp only [cond_true, Option.some.injEq] at h
  subst h
  exact ovSorted_ok Tryz.keys rfl w1 w0 runs

end Go.Proofs.YtlikepnpamejmaaGreat.Ov
