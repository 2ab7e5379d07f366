/- slices.SortedFunc and slices.Sorted over the keys of a map: what they hand back; no condition on the map's order. -/
import Derived.Test.YtahokmlfnkakiaaGreatAbsH
import Derived.Test.YtahokmlfnkakiaaGreatTab
import Derived.Shelf.SlSortCmp.NoneTotal
import Derived.Shelf.SlIterI.Sorted
import Derived.Shelf.SortM.Plain
import Derived.Shelf.SortM.SortNone
import Derived.Test.YtahokmlfnkakiaaGreatChecked
set_option linter.unusedVariables false
set_option maxRecDepth 100000
namespace Go.Proofs
def Tryz.collect_ren : Go.Shelf.Ren := ⟨fun | 8 => 191 | 11 => 254 | n => n, fun | 26 => 3 | 28 => 213 | 24 => 85 | 0 => 0 | 33 => 147 | 4 => 4 | n => n, fun | n => n⟩
theorem Tryz.collect : Go.Proofs.SlLaysZI.n8 Tryz.prog Tryz.collect_ren where
  mixed := by kernel_rfl
  f8 := ⟨"slices.Collect[int]", by decide, Tryz.func191.trans (congrArg some (by kernel_rfl))⟩
  f11 := ⟨"slices.AppendSeq[[]int,int]", by decide, Tryz.func254.trans (congrArg some (by kernel_rfl))⟩
  t0 := Tryz.underlying0
  a0 := Tryz.isAgg0
  z0 := Tryz.sizeOf0
  v0 := Tryz.zeroValue0
  t24 := Tryz.underlying85
  a24 := Tryz.isAgg85
  z24 := Tryz.sizeOf85
  v24 := Tryz.zeroValue85
  t26 := Tryz.underlying3
  a26 := Tryz.isAgg3
  z26 := Tryz.sizeOf3
  v26 := Tryz.zeroValue3
  t28 := Tryz.underlying213
  a28 := Tryz.isAgg213
  z28 := Tryz.sizeOf213
  v28 := Tryz.zeroValue213
  i26 := by kernel_rfl
def Tryz.keysA_ren : Go.Shelf.Ren := ⟨fun | 10 => 193 | n => n, fun | 33 => 147 | 23 => 81 | 0 => 0 | 4 => 4 | 26 => 3 | 3 => 3 | n => n, fun | n => n⟩
theorem Tryz.keysA : Go.Proofs.SlLaysZI.n10 Tryz.prog Tryz.keysA_ren where
  mixed := by kernel_rfl
  f10 := ⟨"maps.Keys[map[int]int,int,int]$1", by decide, Tryz.func193.trans (congrArg some (by kernel_rfl))⟩
  t0 := Tryz.underlying0
  a0 := Tryz.isAgg0
  z0 := Tryz.sizeOf0
  v0 := Tryz.zeroValue0
  t4 := Tryz.underlying4
  a4 := Tryz.isAgg4
  z4 := Tryz.sizeOf4
  v4 := Tryz.zeroValue4
  t23 := Tryz.underlying81
  a23 := Tryz.isAgg81
  z23 := Tryz.sizeOf81
  v23 := Tryz.zeroValue81
  t26 := Tryz.underlying3
  a26 := Tryz.isAgg3
  z26 := Tryz.sizeOf3
  v26 := Tryz.zeroValue3
  t33 := Tryz.underlying147
  a33 := Tryz.isAgg147
  z33 := Tryz.sizeOf147
  v33 := Tryz.zeroValue147
def Tryz.keysB_ren : Go.Shelf.Ren := ⟨fun | 10 => 285 | n => n, fun | 33 => 147 | 23 => 204 | 0 => 0 | 4 => 4 | 26 => 3 | 3 => 257 | n => n, fun | n => n⟩
theorem Tryz.keysB : Go.Proofs.SlLaysZI.n10 Tryz.prog Tryz.keysB_ren where
  mixed := by kernel_rfl
  f10 := ⟨"maps.Keys[map[int]*argosy/recv.Stream,int,*argosy/recv.Stream]$1", by decide, Tryz.func285.trans (congrArg some (by kernel_rfl))⟩
  t0 := Tryz.underlying0
  a0 := Tryz.isAgg0
  z0 := Tryz.sizeOf0
  v0 := Tryz.zeroValue0
  t4 := Tryz.underlying4
  a4 := Tryz.isAgg4
  z4 := Tryz.sizeOf4
  v4 := Tryz.zeroValue4
  t23 := Tryz.underlying204
  a23 := Tryz.isAgg204
  z23 := Tryz.sizeOf204
  v23 := Tryz.zeroValue204
  t26 := Tryz.underlying3
  a26 := Tryz.isAgg3
  z26 := Tryz.sizeOf3
  v26 := Tryz.zeroValue3
  t33 := Tryz.underlying147
  a33 := Tryz.isAgg147
  z33 := Tryz.sizeOf147
  v33 := Tryz.zeroValue147
def Tryz.keysC_ren : Go.Shelf.Ren := ⟨fun | 10 => 299 | n => n, fun | 33 => 147 | 23 => 203 | 0 => 0 | 4 => 4 | 26 => 3 | 3 => 167 | n => n, fun | n => n⟩
theorem Tryz.keysC : Go.Proofs.SlLaysZI.n10 Tryz.prog Tryz.keysC_ren where
  mixed := by kernel_rfl
  f10 := ⟨"maps.Keys[map[int]*argosy/send.Stream,int,*argosy/send.Stream]$1", by decide, Tryz.func299.trans (congrArg some (by kernel_rfl))⟩
  t0 := Tryz.underlying0
  a0 := Tryz.isAgg0
  z0 := Tryz.sizeOf0
  v0 := Tryz.zeroValue0
  t4 := Tryz.underlying4
  a4 := Tryz.isAgg4
  z4 := Tryz.sizeOf4
  v4 := Tryz.zeroValue4
  t23 := Tryz.underlying203
  a23 := Tryz.isAgg203
  z23 := Tryz.sizeOf203
  v23 := Tryz.zeroValue203
  t26 := Tryz.underlying3
  a26 := Tryz.isAgg3
  z26 := Tryz.sizeOf3
  v26 := Tryz.zeroValue3
  t33 := Tryz.underlying147
  a33 := Tryz.isAgg147
  z33 := Tryz.sizeOf147
  v33 := Tryz.zeroValue147
def Tryz.sortF_ren : Go.Shelf.Ren := ⟨fun | 6 => 192 | 15 => 233 | 14 => 255 | 28 => 270 | 29 => 271 | 20 => 286 | 21 => 287 | 22 => 288 | 23 => 289 | 24 => 290 | 25 => 291 | 26 => 292 | 27 => 293 | 46 => 308 | 47 => 309 | 48 => 310 | 49 => 311 | 50 => 312 | 57 => 325 | n => n, fun | 22 => 85 | 24 => 3 | 25 => 215 | 3 => 3 | 39 => 244 | 0 => 0 | 53 => 339 | 55 => 26 | 4 => 4 | 46 => 351 | 45 => 350 | 50 => 79 | 5 => 5 | 9 => 9 | 66 => 365 | 70 => 343 | 76 => 377 | 77 => 158 | n => n, fun | n => n⟩
theorem Tryz.sortF : Go.Proofs.SlLaysF.n6 Tryz.prog Tryz.sortF_ren where
  mixed := by kernel_rfl
  f6 := ⟨"slices.SortFunc[[]int,int]", by decide, Tryz.func192.trans (congrArg some (by kernel_rfl))⟩
  f14 := ⟨"slices.pdqsortCmpFunc[int]", by decide, Tryz.func255.trans (congrArg some (by kernel_rfl))⟩
  f15 := Tryz.func233.trans (congrArg some (by kernel_rfl))
  f20 := ⟨"slices.insertionSortCmpFunc[int]", by decide, Tryz.func286.trans (congrArg some (by kernel_rfl))⟩
  f21 := ⟨"slices.heapSortCmpFunc[int]", by decide, Tryz.func287.trans (congrArg some (by kernel_rfl))⟩
  f22 := ⟨"slices.breakPatternsCmpFunc[int]", by decide, Tryz.func288.trans (congrArg some (by kernel_rfl))⟩
  f23 := ⟨"slices.choosePivotCmpFunc[int]", by decide, Tryz.func289.trans (congrArg some (by kernel_rfl))⟩
  f24 := ⟨"slices.reverseRangeCmpFunc[int]", by decide, Tryz.func290.trans (congrArg some (by kernel_rfl))⟩
  f25 := ⟨"slices.partialInsertionSortCmpFunc[int]", by decide, Tryz.func291.trans (congrArg some (by kernel_rfl))⟩
  f26 := ⟨"slices.partitionEqualCmpFunc[int]", by decide, Tryz.func292.trans (congrArg some (by kernel_rfl))⟩
  f27 := ⟨"slices.partitionCmpFunc[int]", by decide, Tryz.func293.trans (congrArg some (by kernel_rfl))⟩
  f28 := Tryz.func270.trans (congrArg some (by kernel_rfl))
  f29 := Tryz.func271.trans (congrArg some (by kernel_rfl))
  f46 := ⟨"slices.siftDownCmpFunc[int]", by decide, Tryz.func308.trans (congrArg some (by kernel_rfl))⟩
  f47 := Tryz.func309.trans (congrArg some (by kernel_rfl))
  f48 := Tryz.func310.trans (congrArg some (by kernel_rfl))
  f49 := ⟨"slices.medianAdjacentCmpFunc[int]", by decide, Tryz.func311.trans (congrArg some (by kernel_rfl))⟩
  f50 := ⟨"slices.medianCmpFunc[int]", by decide, Tryz.func312.trans (congrArg some (by kernel_rfl))⟩
  f57 := ⟨"slices.order2CmpFunc[int]", by decide, Tryz.func325.trans (congrArg some (by kernel_rfl))⟩
  t0 := Tryz.underlying0
  a0 := Tryz.isAgg0
  z0 := Tryz.sizeOf0
  v0 := Tryz.zeroValue0
  t3 := Tryz.underlying3
  a3 := Tryz.isAgg3
  z3 := Tryz.sizeOf3
  v3 := Tryz.zeroValue3
  t4 := Tryz.underlying4
  a4 := Tryz.isAgg4
  z4 := Tryz.sizeOf4
  v4 := Tryz.zeroValue4
  t5 := Tryz.underlying5
  a5 := Tryz.isAgg5
  z5 := Tryz.sizeOf5
  v5 := Tryz.zeroValue5
  t9 := Tryz.underlying9
  a9 := Tryz.isAgg9
  z9 := Tryz.sizeOf9
  v9 := Tryz.zeroValue9
  t22 := Tryz.underlying85
  a22 := Tryz.isAgg85
  z22 := Tryz.sizeOf85
  v22 := Tryz.zeroValue85
  a24 := Tryz.isAgg3
  z24 := Tryz.sizeOf3
  t25 := Tryz.underlying215
  a25 := Tryz.isAgg215
  z25 := Tryz.sizeOf215
  v25 := Tryz.zeroValue215
  t39 := Tryz.underlying244
  a39 := Tryz.isAgg244
  z39 := Tryz.sizeOf244
  v39 := Tryz.zeroValue244
  t45 := Tryz.underlying350
  a45 := Tryz.isAgg350
  z45 := Tryz.sizeOf350
  v45 := Tryz.zeroValue350
  t46 := Tryz.underlying351
  a46 := Tryz.isAgg351
  z46 := Tryz.sizeOf351
  v46 := Tryz.zeroValue351
  t50 := Tryz.underlying79
  a50 := Tryz.isAgg79
  z50 := Tryz.sizeOf79
  v50 := Tryz.zeroValue79
  t53 := Tryz.underlying339
  a53 := Tryz.isAgg339
  z53 := Tryz.sizeOf339
  v53 := Tryz.zeroValue339
  t55 := Tryz.underlying26
  a55 := Tryz.isAgg26
  z55 := Tryz.sizeOf26
  v55 := Tryz.zeroValue26
  t66 := Tryz.underlying365
  a66 := Tryz.isAgg365
  z66 := Tryz.sizeOf365
  v66 := Tryz.zeroValue365
  t70 := Tryz.underlying343
  a70 := Tryz.isAgg343
  z70 := Tryz.sizeOf343
  v70 := Tryz.zeroValue343
  t76 := Tryz.underlying377
  a76 := Tryz.isAgg377
  z76 := Tryz.sizeOf377
  v76 := Tryz.zeroValue377
  t77 := Tryz.underlying158
  a77 := Tryz.isAgg158
  z77 := Tryz.sizeOf158
  v77 := Tryz.zeroValue158
def Tryz.sorted_ren : Go.Shelf.Ren := ⟨fun | 6 => 248 | 8 => 191 | 9 => 284 | 11 => 254 | 13 => 233 | 12 => 307 | 23 => 270 | 24 => 271 | 14 => 316 | 15 => 317 | 16 => 318 | 17 => 319 | 18 => 320 | 19 => 321 | 20 => 322 | 21 => 323 | 22 => 324 | 25 => 326 | 26 => 309 | 27 => 310 | 28 => 327 | 29 => 328 | 30 => 194 | 31 => 329 | n => n, fun | 26 => 3 | 28 => 213 | 24 => 85 | 0 => 0 | 3 => 3 | 37 => 244 | 48 => 339 | 50 => 26 | 4 => 4 | 40 => 351 | 39 => 350 | 45 => 79 | 5 => 5 | 9 => 9 | 51 => 365 | 55 => 343 | 57 => 377 | 58 => 158 | 33 => 147 | n => n, fun | n => n⟩
theorem Tryz.sorted : Go.Proofs.SlLaysZI.n6 Tryz.prog Tryz.sorted_ren where
  mixed := by kernel_rfl
  f6 := ⟨"slices.Sorted[int]", by decide, Tryz.func248.trans (congrArg some (by kernel_rfl))⟩
  f8 := ⟨"slices.Collect[int]", by decide, Tryz.func191.trans (congrArg some (by kernel_rfl))⟩
  f11 := ⟨"slices.AppendSeq[[]int,int]", by decide, Tryz.func254.trans (congrArg some (by kernel_rfl))⟩
  t0 := Tryz.underlying0
  a0 := Tryz.isAgg0
  z0 := Tryz.sizeOf0
  v0 := Tryz.zeroValue0
  t24 := Tryz.underlying85
  a24 := Tryz.isAgg85
  z24 := Tryz.sizeOf85
  v24 := Tryz.zeroValue85
  t26 := Tryz.underlying3
  a26 := Tryz.isAgg3
  z26 := Tryz.sizeOf3
  v26 := Tryz.zeroValue3
  t28 := Tryz.underlying213
  a28 := Tryz.isAgg213
  z28 := Tryz.sizeOf213
  v28 := Tryz.zeroValue213
  i26 := by kernel_rfl
def Tryz.sortI_ren : Go.Shelf.Ren := ⟨fun | 5 => 284 | 8 => 233 | 7 => 307 | 19 => 270 | 20 => 271 | 10 => 316 | 11 => 317 | 12 => 318 | 13 => 319 | 14 => 320 | 15 => 321 | 16 => 322 | 17 => 323 | 18 => 324 | 30 => 326 | 31 => 309 | 32 => 310 | 33 => 327 | 34 => 328 | 35 => 194 | 40 => 329 | n => n, fun | 23 => 85 | 25 => 3 | 3 => 3 | 32 => 244 | 22 => 85 | 0 => 0 | 44 => 339 | 46 => 26 | 4 => 4 | 36 => 351 | 35 => 350 | 41 => 79 | 5 => 5 | 9 => 9 | 53 => 365 | 57 => 343 | 63 => 377 | 64 => 158 | n => n, fun | n => n⟩
theorem Tryz.sortI : Go.Proofs.SlLaysM.n5 Tryz.prog Tryz.sortI_ren where
  mixed := by kernel_rfl
  f5 := ⟨"slices.Sort[[]int,int]", by decide, Tryz.func284.trans (congrArg some (by kernel_rfl))⟩
  f7 := ⟨"slices.pdqsortOrdered[int]", by decide, Tryz.func307.trans (congrArg some (by kernel_rfl))⟩
  f8 := Tryz.func233.trans (congrArg some (by kernel_rfl))
  f10 := ⟨"slices.insertionSortOrdered[int]", by decide, Tryz.func316.trans (congrArg some (by kernel_rfl))⟩
  f11 := ⟨"slices.heapSortOrdered[int]", by decide, Tryz.func317.trans (congrArg some (by kernel_rfl))⟩
  f12 := ⟨"slices.breakPatternsOrdered[int]", by decide, Tryz.func318.trans (congrArg some (by kernel_rfl))⟩
  f13 := ⟨"slices.choosePivotOrdered[int]", by decide, Tryz.func319.trans (congrArg some (by kernel_rfl))⟩
  f14 := ⟨"slices.reverseRangeOrdered[int]", by decide, Tryz.func320.trans (congrArg some (by kernel_rfl))⟩
  f15 := ⟨"slices.partialInsertionSortOrdered[int]", by decide, Tryz.func321.trans (congrArg some (by kernel_rfl))⟩
  f16 := ⟨"cmp.Less[int]", by decide, Tryz.func322.trans (congrArg some (by kernel_rfl))⟩
  f17 := ⟨"slices.partitionEqualOrdered[int]", by decide, Tryz.func323.trans (congrArg some (by kernel_rfl))⟩
  f18 := ⟨"slices.partitionOrdered[int]", by decide, Tryz.func324.trans (congrArg some (by kernel_rfl))⟩
  f19 := Tryz.func270.trans (congrArg some (by kernel_rfl))
  f20 := Tryz.func271.trans (congrArg some (by kernel_rfl))
  f30 := ⟨"slices.siftDownOrdered[int]", by decide, Tryz.func326.trans (congrArg some (by kernel_rfl))⟩
  f31 := Tryz.func309.trans (congrArg some (by kernel_rfl))
  f32 := Tryz.func310.trans (congrArg some (by kernel_rfl))
  f33 := ⟨"slices.medianAdjacentOrdered[int]", by decide, Tryz.func327.trans (congrArg some (by kernel_rfl))⟩
  f34 := ⟨"slices.medianOrdered[int]", by decide, Tryz.func328.trans (congrArg some (by kernel_rfl))⟩
  f35 := ⟨"cmp.isNaN[int]", by decide, Tryz.func194.trans (congrArg some (by kernel_rfl))⟩
  f40 := ⟨"slices.order2Ordered[int]", by decide, Tryz.func329.trans (congrArg some (by kernel_rfl))⟩
  t0 := Tryz.underlying0
  a0 := Tryz.isAgg0
  z0 := Tryz.sizeOf0
  v0 := Tryz.zeroValue0
  t3 := Tryz.underlying3
  a3 := Tryz.isAgg3
  z3 := Tryz.sizeOf3
  v3 := Tryz.zeroValue3
  t4 := Tryz.underlying4
  a4 := Tryz.isAgg4
  z4 := Tryz.sizeOf4
  v4 := Tryz.zeroValue4
  t5 := Tryz.underlying5
  a5 := Tryz.isAgg5
  z5 := Tryz.sizeOf5
  v5 := Tryz.zeroValue5
  t9 := Tryz.underlying9
  a9 := Tryz.isAgg9
  z9 := Tryz.sizeOf9
  v9 := Tryz.zeroValue9
  t22 := Tryz.underlying85
  a22 := Tryz.isAgg85
  z22 := Tryz.sizeOf85
  v22 := Tryz.zeroValue85
  t23 := Tryz.underlying85
  a23 := Tryz.isAgg85
  z23 := Tryz.sizeOf85
  v23 := Tryz.zeroValue85
  t25 := Tryz.underlying3
  a25 := Tryz.isAgg3
  z25 := Tryz.sizeOf3
  v25 := Tryz.zeroValue3
  t32 := Tryz.underlying244
  a32 := Tryz.isAgg244
  z32 := Tryz.sizeOf244
  v32 := Tryz.zeroValue244
  t35 := Tryz.underlying350
  a35 := Tryz.isAgg350
  z35 := Tryz.sizeOf350
  v35 := Tryz.zeroValue350
  t36 := Tryz.underlying351
  a36 := Tryz.isAgg351
  z36 := Tryz.sizeOf351
  v36 := Tryz.zeroValue351
  t41 := Tryz.underlying79
  a41 := Tryz.isAgg79
  z41 := Tryz.sizeOf79
  v41 := Tryz.zeroValue79
  t44 := Tryz.underlying339
  a44 := Tryz.isAgg339
  z44 := Tryz.sizeOf339
  v44 := Tryz.zeroValue339
  t46 := Tryz.underlying26
  a46 := Tryz.isAgg26
  z46 := Tryz.sizeOf26
  v46 := Tryz.zeroValue26
  t53 := Tryz.underlying365
  a53 := Tryz.isAgg365
  z53 := Tryz.sizeOf365
  v53 := Tryz.zeroValue365
  t57 := Tryz.underlying343
  a57 := Tryz.isAgg343
  z57 := Tryz.sizeOf343
  v57 := Tryz.zeroValue343
  t63 := Tryz.underlying377
  a63 := Tryz.isAgg377
  z63 := Tryz.sizeOf377
  v63 := Tryz.zeroValue377
  t64 := Tryz.underlying158
  a64 := Tryz.isAgg158
  z64 := Tryz.sizeOf158
  v64 := Tryz.zeroValue158

end Go.Proofs
namespace Go.Proofs.YtahokmlfnkakiaaGreat.Ov
open Go Go.Abs Go.Proofs Go.Sort Go.RowKit Go.Maps Go.Shelf
set_option maxHeartbeats 2000000 in
theorem walk117 (ks : List Int) (hN : ks.length ≤ maxLen) (hNb : ks.length * 8 ≤ 140737488355328) (w : World) (c : Addr)
    (hseq : SeqGives Fence.wide 3 Tryz.prog 193 #[.pointer (some c)] encZ (fun ss : List Int => ss.Perm ks) ks.length w)
    (g : Nat) (cb : Array Value) (eg : ∀ args w, (callFunc g args).run Tryz.prog w = .ok (.enter g args) w) [Inhabited {x : Int // x ∈ ks}] {cf : Int → Int → Int} {l : List Int} (hT : Srt cf ks l)
    (hcmp : ∀ (W : World) (blk : Nat), Below w.heap.size w W → w.heap.size ≤ blk → CmpLays1 Tryz.prog g cb (fun x : {x : Int // x ∈ ks} => Value.int .i64 x.1) (fun x y => cf x.1 y.1) blk 0 ks.length W) :
    Calls Tryz.prog 117 #[.func (.func 193) #[] #[.pointer (some c)], .func (.func g) #[] cb] w fun e w' =>
      ∃ (W : World) (blk cap : Nat) (cur : Array Value) (m : Nat) (d : Array {x : Int // x ∈ ks}) (os : Array Obj), Below w.heap.size w W ∧ w.heap.size ≤ blk ∧ W.heap[blk]? = some (.cells cur 3 (0, 0)) ∧ d.size ≤ cap ∧ cur.size = cap ∧
        d.toList.map (fun x : {x : Int // x ∈ ks} => Value.int .i64 x.1) = l.map (Value.int .i64) ∧ e = .returned (.slice (some ⟨blk, 0, none⟩) d.size cap) ∧ w' = sortWorld (fun x : {x : Int // x ∈ ks} => Value.int .i64 x.1) W blk 0 m d os := by
  have hks : ks ≠ [] := by
    intro e
    obtain ⟨x, hx⟩ := (default : {x : Int // x ∈ ks})
    rw [e] at hx; cases hx
  have cC := (callsIn_wide (n := 5)).1 (AnyZI.collect_in Tryz.collect Fence.wide 5 trivial trivial rfl (by omega) 193 #[.pointer (some c)] trivial (enters_of Tryz.func193 (by kernel_rfl) rfl) _ ks.length hN hNb w hseq)
  change Calls Tryz.prog 191 _ _ _ at cC
  go_enter Tryz.func117, Tryz.ntmps117
  go_wp2_with (first | (go_at_call 191; refine cC.mono ?_; rintro e W ⟨v, ss, rfl, hS, hrow, hnil, hb⟩))
  rcases hrow.2 with ⟨rfl, hz⟩ | ⟨gb, cap, cur, rfl, hbase, hgb, r1, r2, r3, r4⟩
  · exfalso
    have hss : ss = [] := List.eq_nil_of_length_eq_zero hz
    subst hss
    exact hks (List.eq_nil_of_length_eq_zero (by simpa using hS.length_eq.symm))
  · have hH := withK_holds hS (holds_of_block_i hgb (by simpa using r4))
    have hgl : gb < W.heap.size := (Array.getElem?_eq_some_iff.1 hgb).1
    have hdz : (withK hS).size = ss.length := withK_size hS
    have hkl : ss.length = ks.length := hS.length_eq
    obtain ⟨o1, _⟩ := sortsTo_swo hT.perm hT.pw hT.irr
    have cS := Any.slices_SortFunc Tryz.sortF (fun x : {x : Int // x ∈ ks} => Value.int .i64 x.1) (fun _ => rfl) (fun x y => cf x.1 y.1) o1 g cb gb 0 cap (withK hS) W eg (by rw [hdz, hkl]; exact hcmp W gb hb hbase) hH hgl (by omega)
    change Calls Tryz.prog 192 _ _ _ at cS
    rw [hdz] at cS
    go_wp2_with (go_at_call 192; refine cS.mono ?_; rintro e w' ⟨rfl, d', nn, os, q1, q2, rfl⟩)
    go_ret
    obtain ⟨s1, s2⟩ := withK_sorted hS hT.perm hT.pw hT.irr (by rw [hdz]; exact q1) (by rw [hdz]; exact q2)
    exact ⟨W, gb, cap, cur, nn, d', os, hb, hbase, hgb, by omega, by omega, s1, by rw [s2, hkl]; rfl, rfl⟩
set_option maxHeartbeats 2000000 in
theorem walk117_nil (w : World) (c : Addr) (hseq : SeqGives Fence.wide 3 Tryz.prog 193 #[.pointer (some c)] encZ (fun ss : List Int => ss = []) 0 w) (g : Nat) (cb : Array Value) :
    Calls Tryz.prog 117 #[.func (.func 193) #[] #[.pointer (some c)], .func (.func g) #[] cb] w fun e w' => e = .returned (.slice none 0 0) ∧ Below w.heap.size w w' := by
  have cC := (callsIn_wide (n := 5)).1 (AnyZI.collect_in Tryz.collect Fence.wide 5 trivial trivial rfl (by omega) 193 #[.pointer (some c)] trivial (enters_of Tryz.func193 (by kernel_rfl) rfl) _ 0 (Nat.zero_le _) (by omega) w hseq)
  change Calls Tryz.prog 191 _ _ _ at cC
  have cS : ∀ W, Calls Tryz.prog 192 #[.slice none 0 0, .func (.func g) #[] cb] W fun e w' => e = .returned (.tuple #[]) ∧ w' = W := fun W => AnyF.slices_SortFunc_none (P := Tryz.prog) (ρ := Tryz.sortF_ren) { Tryz.sortF with } none 0 _ W
  go_enter Tryz.func117, Tryz.ntmps117
  go_wp2_with (first | (go_at_call 191; refine cC.mono ?_; rintro e W ⟨v, ss, rfl, rfl, hrow, hnil, hb⟩; obtain rfl : v = .slice none 0 0 := hnil.2 rfl) | (go_at_call 192; refine (cS _).mono ?_; rintro e w' ⟨rfl, rfl⟩))
  go_ret
  exact ⟨rfl, hb⟩

theorem w1 : Walk1 Tryz.prog 117 193 3 := fun ks hN hNb w c hseq g cb eg _ cf l hT hcmp => walk117 ks hN hNb w c hseq g cb eg hT hcmp
theorem w0 : Walk0 Tryz.prog 117 193 := fun w c hseq g cb => walk117_nil w c hseq g cb
theorem sortsI (m : Nat) : AnyZI.SortsIn Tryz.prog Tryz.sorted_ren Fence.wide m :=
  ⟨fun blk off cap ss W hH hblk hsz => callsIn_wide.2 (AnyM.slices_Sort_int Tryz.sortI blk off cap ss W hH hblk hsz),
   fun p cap W => callsIn_wide.2 (AnyM.slices_Sort_int_none Tryz.sortI p cap W)⟩
theorem wS {kf : FuncId} (ek : ∀ args w, (callFunc kf args).run Tryz.prog w = .ok (.enter kf args) w) : WalkS Tryz.prog 248 kf 3 := fun S N hN hNb w c hseq => by
  have cS := AnyZI.sorted_in Tryz.sorted Fence.wide 5 trivial trivial trivial trivial rfl (by omega) (sortsI _) (enters_of Tryz.func284 (by kernel_rfl) rfl) kf #[.pointer (some c)] trivial ek S N hN hNb w hseq
  change CallsIn _ _ Tryz.prog 248 _ _ _ at cS
  exact callsIn_wide.1 cS
noncomputable def run : FuncId → List Value → Int → Int → H → Option Int := fun g cb x y h => bif g.beq 119 then (match callA Tab.D 200 119 (.int .i64 x :: .int .i64 y :: cb) h with
  | some (.int .i64 c, _) => some c
  | _ => none) else none
theorem runs : RunsOK Tryz.prog run := by
  intro g cb x y h c hr
  unfold run at hr
  cases hg : g.beq 119 <;> rw [hg] at hr
  · simp at hr
  have hg := Nat.eq_of_beq_eq_true hg
  subst hg
  simp only [cond_true] at hr
  split at hr
  case h_2 => simp at hr
  rename_i c' h' h1
  cases hr
  exact ⟨enters_of Tryz.func119 (by kernel_rfl) rfl, h', fun ρ w args' hw ha => callA_ok Tab.dok Tab.ovok 200 _ _ _ _ _ h1 ρ w args' hw ha⟩
noncomputable def ov117 : List Value → H → Option (Value × H) := ovSortedC 193 3 run
noncomputable def ov248 : List Value → H → Option (Value × H) := ovSortS [193, 285, 299] 3
noncomputable def D1 : Abs.Data := { fn := Tab.fn, ty := Tab.ty, ov := fun f => bif f.beq 117 then some ov117 else bif f.beq 248 then some ov248 else none }
theorem dok1 : DOk Tryz.prog D1 := ⟨fun f F h => Tab.dok.1 f F h, fun t i h => Tab.dok.2 t i h, fun t i h hf => Tab.dok.3 t i h hf, Tab.dok.4⟩
theorem ovok1 : OvOK Tryz.prog D1 := by
  intro f g h
  simp only [D1] at h
  cases hf : f.beq 117 <;> rw [hf] at h
  · cases hf : f.beq 248 <;> rw [hf] at h
    · simp at h
    · have hf := Nat.eq_of_beq_eq_true hf
      subst hf
      simp only [cond_true, cond_false, Option.some.injEq] at h
      subst h
      refine ovSortS_ok (et := 3) ?_ ?_
      · simp only [List.forall_mem_cons]
        exact ⟨⟨_, Tryz.keysA, rfl⟩, ⟨_, Tryz.keysB, rfl⟩, ⟨_, Tryz.keysC, rfl⟩, fun _ h => nomatch h⟩
      · simp only [List.forall_mem_cons]
        exact ⟨wS (enters_of Tryz.func193 (by kernel_rfl) rfl), wS (enters_of Tryz.func285 (by kernel_rfl) rfl), wS (enters_of Tryz.func299 (by kernel_rfl) rfl), fun _ h => nomatch h⟩
  · have hf := Nat.eq_of_beq_eq_true hf
    subst hf
    simp only [cond_true, Option.some.injEq] at h
    subst h
    exact fun args h v h' hr => ovSorted_ok Tryz.keysA rfl w1 w0 runs args h v h' (ovSortedC_le hr)
noncomputable def ov20 : List Value → H → Option (Value × H) := ovRange D1 3000 20
noncomputable def D : Abs.Data := { D1 with ov := fun f => bif f.beq 20 then some ov20 else D1.ov f }
theorem dok : DOk Tryz.prog D := ⟨fun f F h => Tab.dok.1 f F h, fun t i h => Tab.dok.2 t i h, fun t i h hf => Tab.dok.3 t i h hf, Tab.dok.4⟩
theorem ovok : OvOK Tryz.prog D := by
  intro f g h
  simp only [D] at h
  cases hf : f.beq 20 <;> rw [hf] at h
  · exact ovok1 f g h
  · have hf := Nat.eq_of_beq_eq_true hf
    subst hf
    simp only [cond_true, Option.some.injEq] at h
    subst h
    exact ovRange_ok dok1 ovok1 3000 20

end Go.Proofs.YtahokmlfnkakiaaGreat.Ov
