/- The typed texts of the program's functions, printed by a program of this session (wip/KPrint.lean) out of the machine's own definitions; each is the machine's own run, by the kernel's reduction. -/
import Derived.Test.YtejdeibmhlcnbaaTxt
import Derived.Test.YtejdeibmhlcnbaaSIx
import Derived.KernelRfl
set_option linter.unusedVariables false
set_option maxRecDepth 1000000
namespace Go.Proofs.Ytejdeibmhlcnbaa.T
open Go Go.Abs Go.Proofs
/-! law4_SealTells -/
noncomputable def P.law4_SealTells_l1 (seal_Close : Int → Int → Sl → Sl → H → Option ((Sl) × H)) (seal_Step : Int → Int → H → Option ((Int) × H)) (ref1_Step : Int → Int → H → Option ((Int) × H)) (seal_Tag : Int → Sl → H → Option ((Int) × H)) (ref1_Tag : Int → Sl → H → Option ((Int) × H)) (seal_Mask : Int → Int → Sl → H → Option ((Sl) × H)) (ref1_Mask : Int → Int → Sl → H → Option ((Sl) × H)) (ref1_Close : Int → Int → Sl → Sl → H → Option ((Sl) × H)) (hand_Pick : Int → Int → H → Option ((Int) × H)) (seal_Open : Int → Int → Sl → Sl → H → Option ((Sl × Bool) × H)) (ref1_Open : Int → Int → Sl → Sl → H → Option ((Sl × Bool) × H)) (law4_known : H → Option ((Bool) × H)) : ((Int × (Int × (Sl × ((Sl × Sl) × Int)))) × H) → Option (((Int × (Int × (Sl × ((Sl × Sl) × Int)))) × H) ⊕ ((PUnit × H) ⊕ (Bool × H))) := fun ((key, (num, (head, ((x0, x1), x2)))), h0) =>
  condK (decide ((x2 < 2))) (
    bindO (ixVT ⟨false, [.sl]⟩ [(.slice x0.base x0.len x0.cap), (.slice x1.base x1.len x1.cap)] x2) fun (x3 : Sl) =>
    bind2 (seal_Open key num head x3 h0) fun ((x4, x5) : Sl × Bool) (h1 : H) =>
    bind2 (ref1_Open key num head x3 h1) fun ((x6, x7) : Sl × Bool) (h2 : H) =>
    joinO (
      condK (!(x5 == x7)) (
        some (Sum.inl ((key, (num, (head, ((x0, x1), (x2, true))))), h2))) (
        bind2 (strT h2 x4) fun (x8 : ByteArray) (h3 : H) =>
        bind2 (strT h3 x6) fun (x9 : ByteArray) (h4 : H) =>
        some (Sum.inl ((key, (num, (head, ((x0, x1), (x2, (!(x8.toList == x9.toList))))))), h4)))) fun (((key1, (num1, (head1, ((x8, x9), (x10, x11))))), h3) : ((Int × (Int × (Sl × ((Sl × Sl) × (Int × Bool))))) × H)) =>
    condK x11 (
      some (Sum.inr (Sum.inr (false, h3)))) (
      some (Sum.inl ((key1, (num1, (head1, ((x8, x9), (IntKind.wrap .i64 (x10 + 1)))))), h3)))) (
    some (Sum.inr (Sum.inl ((), h0))))

noncomputable def P.law4_SealTells (seal_Close : Int → Int → Sl → Sl → H → Option ((Sl) × H)) (seal_Step : Int → Int → H → Option ((Int) × H)) (ref1_Step : Int → Int → H → Option ((Int) × H)) (seal_Tag : Int → Sl → H → Option ((Int) × H)) (ref1_Tag : Int → Sl → H → Option ((Int) × H)) (seal_Mask : Int → Int → Sl → H → Option ((Sl) × H)) (ref1_Mask : Int → Int → Sl → H → Option ((Sl) × H)) (ref1_Close : Int → Int → Sl → Sl → H → Option ((Sl) × H)) (hand_Pick : Int → Int → H → Option ((Int) × H)) (seal_Open : Int → Int → Sl → Sl → H → Option ((Sl × Bool) × H)) (ref1_Open : Int → Int → Sl → Sl → H → Option ((Sl × Bool) × H)) (law4_known : H → Option ((Bool) × H)) (key : Int) (h0 : Int) (c : Int) (num : Int) (head : Sl) (body : Sl) (parts : Sl) (at' : Int) (with' : Int) (h : H) : Option (Bool × H) :=
  bind2 (seal_Close key num head body h) fun (x0 : Sl) (h1 : H) =>
  joinO (
    bind2 (seal_Step h0 c h1) fun (x1 : Int) (h2 : H) =>
    bind2 (ref1_Step h0 c h2) fun (x2 : Int) (h3 : H) =>
    condK (x1 != x2) (
      some (Sum.inl ((key, (num, (head, (body, (at', (with', (x0, true))))))), h3))) (
      bind2 (seal_Tag key parts h3) fun (x3 : Int) (h4 : H) =>
      bind2 (ref1_Tag key parts h4) fun (x4 : Int) (h5 : H) =>
      condK (x3 != x4) (
        some (Sum.inl ((key, (num, (head, (body, (at', (with', (x0, true))))))), h5))) (
        bind2 (seal_Mask key num body h5) fun (x5 : Sl) (h6 : H) =>
        bind2 (strT h6 x5) fun (x6 : ByteArray) (h7 : H) =>
        bind2 (ref1_Mask key num body h6) fun (x7 : Sl) (h8 : H) =>
        bind2 (strT h8 x7) fun (x8 : ByteArray) (h9 : H) =>
        condK (!(x6.toList == x8.toList)) (
          bind2 (strT h8 x5) fun (x9 : ByteArray) (h10 : H) =>
          condK (x9.data.toList == x6.data.toList) (
            some (Sum.inl ((key, (num, (head, (body, (at', (with', (x0, true))))))), h8))) none) (
          bind2 (strT h8 x0) fun (x10 : ByteArray) (h11 : H) =>
          bind2 (ref1_Close key num head body h8) fun (x11 : Sl) (h12 : H) =>
          bind2 (strT h12 x11) fun (x12 : ByteArray) (h13 : H) =>
          bind2 (strT h12 x0) fun (x13 : ByteArray) (h14 : H) =>
          condK (x13.data.toList == x10.data.toList) (
            bind2 (strT h8 x5) fun (x14 : ByteArray) (h15 : H) =>
            condK (x14.data.toList == x6.data.toList) (
              some (Sum.inl ((key, (num, (head, (body, (at', (with', (x0, (!(x10.toList == x12.toList))))))))), h12))) none) none)))) fun (((key1, (num1, (head1, (body1, (at'1, (with'1, (x1, x2))))))), h2) : ((Int × (Int × (Sl × (Sl × (Int × (Int × (Sl × Bool))))))) × H)) =>
  condK x2 (
    some (false, h2)) (
    joinO (
      joinO (
        condK (decide ((((x1.len : Nat) : Int) > 0))) (
          some (Sum.inl ((key1, (num1, (head1, (body1, (at'1, (with'1, (x1, ((Int.tmod at'1 2) == 0)))))))), h2))) (
          some (Sum.inl ((key1, (num1, (head1, (body1, (at'1, (with'1, (x1, false))))))), h2)))) fun (((key2, (num2, (head2, (body2, (at'2, (with'2, (x3, x4))))))), h3) : ((Int × (Int × (Sl × (Sl × (Int × (Int × (Sl × Bool))))))) × H)) =>
      condK x4 (
        bind2 (hand_Pick at'2 ((x3.len : Nat) : Int) h3) fun (x5 : Int) (h4 : H) =>
        bindO (ixT 1 x3 x5) fun (a0 : Addr) =>
        bindO (ldI .u8 h4 a0) fun (x6 : Int) =>
        letO ((IntKind.wrap .u8 (((BitVec.toNat ((BitVec.ofInt 8 x6) ^^^ (BitVec.ofInt 8 with'2))) : Nat) : Int))) fun (x7 : Int) =>
        bindO (ixT 1 x3 x5) fun (a1 : Addr) =>
        bindO (st1 h4 a1 (.int .u8 x7)) fun (h5 : H) =>
        some (Sum.inl ((key2, (num2, (head2, (body2, (at'2, x3))))), h5))) (
        some (Sum.inl ((key2, (num2, (head2, (body2, (at'2, x3))))), h3)))) fun (((key2, (num2, (head2, (body2, (at'2, x3))))), h3) : ((Int × (Int × (Sl × (Sl × (Int × Sl))))) × H)) =>
    joinO (
      condK ((Int.tmod at'2 5) == 4) (
        bind2 (hand_Pick at'2 (IntKind.wrap .i64 (((x3.len : Nat) : Int) + 1)) h3) fun (x4 : Int) (h4 : H) =>
        bindO (slT 1 h4 x3 none (some x4) none) fun (x5 : Sl) =>
        some (Sum.inl ((key2, (num2, (head2, (body2, x5)))), h4))) (
        some (Sum.inl ((key2, (num2, (head2, (body2, x3)))), h3)))) fun (((key3, (num3, (head3, (body3, x4)))), h4) : ((Int × (Int × (Sl × (Sl × Sl)))) × H)) =>
    joinO (
      loopO (P.law4_SealTells_l1 seal_Close seal_Step ref1_Step seal_Tag ref1_Tag seal_Mask ref1_Mask ref1_Close hand_Pick seal_Open ref1_Open law4_known) ((key3, (num3, (head3, ((x4, body3), 0)))), h4)) fun (((), h5) : (PUnit × H)) =>
    bind2 (law4_known h5) fun (x5 : Bool) (h6 : H) =>
    some (x5, h6))
noncomputable abbrev law4_SealTells_l1 := P.law4_SealTells_l1 seal_Close seal_Step ref1_Step seal_Tag ref1_Tag seal_Mask ref1_Mask ref1_Close hand_Pick seal_Open ref1_Open law4_known
noncomputable def law4_SealTells : Int → Int → Int → Int → Sl → Sl → Sl → Int → Int → H → Option ((Bool) × H) := P.law4_SealTells seal_Close seal_Step ref1_Step seal_Tag ref1_Tag seal_Mask ref1_Mask ref1_Close hand_Pick seal_Open ref1_Open law4_known
noncomputable def ann_9 : Ann := ⟨fun i => bif i.beq 6 then some ⟨[0, 3, 4, 5, 7, 19], [⟨false, [.int .u64]⟩, ⟨false, [.int .i64]⟩, ⟨false, [.sl]⟩, ⟨false, [.sl]⟩, ⟨false, [.int .i64]⟩, ⟨false, [.sl]⟩]⟩ else bif i.beq 8 then some ⟨[0, 3, 4, 5, 19], [⟨false, [.int .u64]⟩, ⟨false, [.int .i64]⟩, ⟨false, [.sl]⟩, ⟨false, [.sl]⟩, ⟨false, [.sl]⟩]⟩ else bif i.beq 16 then some ⟨[], []⟩ else none, fun i => bif i.beq 9 then some ⟨[0, 3, 4, 101, 102], [⟨false, [.int .u64]⟩, ⟨false, [.int .i64]⟩, ⟨false, [.sl]⟩, ⟨true, [.sl, .sl]⟩, ⟨false, [.int .i64]⟩]⟩ else none, fun i => bif i.beq 2 then some ⟨[0, 3, 4, 5, 7, 8, 19, 70], [⟨false, [.int .u64]⟩, ⟨false, [.int .i64]⟩, ⟨false, [.sl]⟩, ⟨false, [.sl]⟩, ⟨false, [.int .i64]⟩, ⟨false, [.int .u8]⟩, ⟨false, [.sl]⟩, ⟨false, [.bool]⟩]⟩ else bif i.beq 4 then some ⟨[0, 3, 4, 5, 7, 8, 19, 78], [⟨false, [.int .u64]⟩, ⟨false, [.int .i64]⟩, ⟨false, [.sl]⟩, ⟨false, [.sl]⟩, ⟨false, [.int .i64]⟩, ⟨false, [.int .u8]⟩, ⟨false, [.sl]⟩, ⟨false, [.bool]⟩]⟩ else bif i.beq 13 then some ⟨[0, 3, 4, 101, 102, 130], [⟨false, [.int .u64]⟩, ⟨false, [.int .i64]⟩, ⟨false, [.sl]⟩, ⟨true, [.sl, .sl]⟩, ⟨false, [.int .i64]⟩, ⟨false, [.bool]⟩]⟩ else none⟩
noncomputable def E_9 : Ent := ⟨9, [⟨false, [.int .u64]⟩, ⟨false, [.int .u64]⟩, ⟨false, [.int .u64]⟩, ⟨false, [.int .i64]⟩, ⟨false, [.sl]⟩, ⟨false, [.sl]⟩, ⟨false, [.sl]⟩, ⟨false, [.int .i64]⟩, ⟨false, [.int .u8]⟩], [⟨false, [.bool]⟩], fun (x : Int × Int × Int × Int × Sl × Sl × Sl × Int × Int) h => law4_SealTells x.1 x.2.1 x.2.2.1 x.2.2.2.1 x.2.2.2.2.1 x.2.2.2.2.2.1 x.2.2.2.2.2.2.1 x.2.2.2.2.2.2.2.1 x.2.2.2.2.2.2.2.2 h⟩
theorem eq_9 (seal_Close : Int → Int → Sl → Sl → H → Option ((Sl) × H)) (seal_Step : Int → Int → H → Option ((Int) × H)) (ref1_Step : Int → Int → H → Option ((Int) × H)) (seal_Tag : Int → Sl → H → Option ((Int) × H)) (ref1_Tag : Int → Sl → H → Option ((Int) × H)) (seal_Mask : Int → Int → Sl → H → Option ((Sl) × H)) (ref1_Mask : Int → Int → Sl → H → Option ((Sl) × H)) (ref1_Close : Int → Int → Sl → Sl → H → Option ((Sl) × H)) (hand_Pick : Int → Int → H → Option ((Int) × H)) (seal_Open : Int → Int → Sl → Sl → H → Option ((Sl × Bool) × H)) (ref1_Open : Int → Int → Sl → Sl → H → Option ((Sl × Bool) × H)) (law4_known : H → Option ((Bool) × H)) : (fun (x : PT E_9.ps) (h : H) => runFK Go.Proofs.Ytejdeibmhlcnbaa.Tab.D (lstK [⟨28, [⟨false, [.int .u64]⟩, ⟨false, [.int .i64]⟩, ⟨false, [.sl]⟩, ⟨false, [.sl]⟩], [⟨false, [.sl]⟩], fun (x : Int × Int × Sl × Sl) h => seal_Close x.1 x.2.1 x.2.2.1 x.2.2.2 h⟩, ⟨31, [⟨false, [.int .u64]⟩, ⟨false, [.int .u64]⟩], [⟨false, [.int .u64]⟩], fun (x : Int × Int) h => seal_Step x.1 x.2 h⟩, ⟨34, [⟨false, [.int .u64]⟩, ⟨false, [.int .u64]⟩], [⟨false, [.int .u64]⟩], fun (x : Int × Int) h => ref1_Step x.1 x.2 h⟩, ⟨32, [⟨false, [.int .u64]⟩, ⟨false, [.sl]⟩], [⟨false, [.int .u64]⟩], fun (x : Int × Sl) h => seal_Tag x.1 x.2 h⟩, ⟨35, [⟨false, [.int .u64]⟩, ⟨false, [.sl]⟩], [⟨false, [.int .u64]⟩], fun (x : Int × Sl) h => ref1_Tag x.1 x.2 h⟩, ⟨33, [⟨false, [.int .u64]⟩, ⟨false, [.int .i64]⟩, ⟨false, [.sl]⟩], [⟨false, [.sl]⟩], fun (x : Int × Int × Sl) h => seal_Mask x.1 x.2.1 x.2.2 h⟩, ⟨36, [⟨false, [.int .u64]⟩, ⟨false, [.int .i64]⟩, ⟨false, [.sl]⟩], [⟨false, [.sl]⟩], fun (x : Int × Int × Sl) h => ref1_Mask x.1 x.2.1 x.2.2 h⟩, ⟨37, [⟨false, [.int .u64]⟩, ⟨false, [.int .i64]⟩, ⟨false, [.sl]⟩, ⟨false, [.sl]⟩], [⟨false, [.sl]⟩], fun (x : Int × Int × Sl × Sl) h => ref1_Close x.1 x.2.1 x.2.2.1 x.2.2.2 h⟩, ⟨18, [⟨false, [.int .i64]⟩, ⟨false, [.int .i64]⟩], [⟨false, [.int .i64]⟩], fun (x : Int × Int) h => hand_Pick x.1 x.2 h⟩, ⟨29, [⟨false, [.int .u64]⟩, ⟨false, [.int .i64]⟩, ⟨false, [.sl]⟩, ⟨false, [.sl]⟩], [⟨false, [.sl]⟩, ⟨false, [.bool]⟩], fun (x : Int × Int × Sl × Sl) h => seal_Open x.1 x.2.1 x.2.2.1 x.2.2.2 h⟩, ⟨38, [⟨false, [.int .u64]⟩, ⟨false, [.int .i64]⟩, ⟨false, [.sl]⟩, ⟨false, [.sl]⟩], [⟨false, [.sl]⟩, ⟨false, [.bool]⟩], fun (x : Int × Int × Sl × Sl) h => ref1_Open x.1 x.2.1 x.2.2.1 x.2.2.2 h⟩, ⟨30, [], [⟨false, [.bool]⟩], fun (x : Unit) h => law4_known h⟩]) ann_9 Try.f9 (Try.f9.body.getD .skip) E_9.ys (encP E_9.ps x) h) = (fun (x : Int × Int × Int × Int × Sl × Sl × Sl × Int × Int) h => P.law4_SealTells seal_Close seal_Step ref1_Step seal_Tag ref1_Tag seal_Mask ref1_Mask ref1_Close hand_Pick seal_Open ref1_Open law4_known x.1 x.2.1 x.2.2.1 x.2.2.2.1 x.2.2.2.2.1 x.2.2.2.2.2.1 x.2.2.2.2.2.2.1 x.2.2.2.2.2.2.2.1 x.2.2.2.2.2.2.2.2 h) := by kernel_rfl
theorem ok_9 : E_9.ok Go.Proofs.Ytejdeibmhlcnbaa.Tab.D := fun x h y h' e => runFK_ok (lstK_ok [E_28, E_31, E_34, E_32, E_35, E_33, E_36, E_37, E_18, E_29, E_38, E_30] (List.forall_mem_cons.2 ⟨ok_28, List.forall_mem_cons.2 ⟨ok_31, List.forall_mem_cons.2 ⟨ok_34, List.forall_mem_cons.2 ⟨ok_32, List.forall_mem_cons.2 ⟨ok_35, List.forall_mem_cons.2 ⟨ok_33, List.forall_mem_cons.2 ⟨ok_36, List.forall_mem_cons.2 ⟨ok_37, List.forall_mem_cons.2 ⟨ok_18, List.forall_mem_cons.2 ⟨ok_29, List.forall_mem_cons.2 ⟨ok_38, List.forall_mem_cons.2 ⟨ok_30, fun E h => nomatch h⟩⟩⟩⟩⟩⟩⟩⟩⟩⟩⟩⟩)) (A := ann_9) (by kernel_rfl) (show Go.Proofs.Ytejdeibmhlcnbaa.Tab.D.fn.get 9 = some Try.f9 by kernel_rfl) (show Try.f9.body = some (Try.f9.body.getD .skip) by kernel_rfl) ((congrFun (congrFun (eq_9 seal_Close seal_Step ref1_Step seal_Tag ref1_Tag seal_Mask ref1_Mask ref1_Close hand_Pick seal_Open ref1_Open law4_known) x) h).trans e)
/-! law1_VarintTells -/
noncomputable def P.law1_VarintTells_l2 (hand_Few : Sl → Int → H → Option ((Sl) × H)) (law1_nums : Sl → H → Option ((Sl) × H)) (varint_Put : Sl → Sl → H → Option ((Sl) × H)) (ref1_Put : Sl → Sl → H → Option ((Sl) × H)) (varint_Size : Sl → H → Option ((Int) × H)) (ref1_Size : Sl → H → Option ((Int) × H)) (hand_May : Int → H → Option ((Int) × H)) (hand_Pick : Int → Int → H → Option ((Int) × H)) (varint_Take : Sl → H → Option ((Int × Sl × Int) × H)) (ref1_Take : Sl → H → Option ((Int × Sl × Int) × H)) (varint_Takes : Sl → Int → H → Option ((Sl × Sl × Int) × H)) (ref1_Takes : Sl → Int → H → Option ((Sl × Sl × Int) × H)) (law1_known : H → Option ((Bool) × H)) : ((Int × (Int × (Int × (Int × (Sl × (Sl × ((Sl × (Sl × Sl)) × (Int × (Int × Int))))))))) × H) → Option (((Int × (Int × (Int × (Int × (Sl × (Sl × ((Sl × (Sl × Sl)) × (Int × (Int × Int))))))))) × H) ⊕ (((Int × (Int × (Int × (Int × ((Sl × (Sl × Sl)) × Int))))) × H) ⊕ (((Int × (Int × (Int × (Int × ((Sl × (Sl × Sl)) × Int))))) × H) ⊕ ((PUnit × H) ⊕ (Bool × H))))) := fun ((cut, (count, (at', (with', (t, (v, ((x0, (x1, x2)), (x3, (x4, x5))))))))), h0) =>
  condK (decide ((x5 < x4))) (
    bindO (ixT 1 t x5) fun (a0 : Addr) =>
    bindO (ldI .i64 h0 a0) fun (x6 : Int) =>
    bindO (ixT 1 v x5) fun (a1 : Addr) =>
    bindO (ldI .i64 h0 a1) fun (x7 : Int) =>
    condK (x6 != x7) (
      some (Sum.inr (Sum.inr (Sum.inr (Sum.inr (false, h0)))))) (
      some (Sum.inl ((cut, (count, (at', (with', (t, (v, ((x0, (x1, x2)), (x3, (x4, (IntKind.wrap .i64 (x5 + 1))))))))))), h0)))) (
    some (Sum.inr (Sum.inl ((cut, (count, (at', (with', ((x0, (x1, x2)), x3))))), h0))))

noncomputable def P.law1_VarintTells_l1 (hand_Few : Sl → Int → H → Option ((Sl) × H)) (law1_nums : Sl → H → Option ((Sl) × H)) (varint_Put : Sl → Sl → H → Option ((Sl) × H)) (ref1_Put : Sl → Sl → H → Option ((Sl) × H)) (varint_Size : Sl → H → Option ((Int) × H)) (ref1_Size : Sl → H → Option ((Int) × H)) (hand_May : Int → H → Option ((Int) × H)) (hand_Pick : Int → Int → H → Option ((Int) × H)) (varint_Take : Sl → H → Option ((Int × Sl × Int) × H)) (ref1_Take : Sl → H → Option ((Int × Sl × Int) × H)) (varint_Takes : Sl → Int → H → Option ((Sl × Sl × Int) × H)) (ref1_Takes : Sl → Int → H → Option ((Sl × Sl × Int) × H)) (law1_known : H → Option ((Bool) × H)) : ((Int × (Int × (Int × (Int × ((Sl × (Sl × Sl)) × Int))))) × H) → Option (((Int × (Int × (Int × (Int × ((Sl × (Sl × Sl)) × Int))))) × H) ⊕ ((PUnit × H) ⊕ (Bool × H))) := fun ((cut, (count, (at', (with', ((x0, (x1, x2)), x3))))), h0) =>
  condK (decide ((x3 < 3))) (
    joinO (
      bindO (ixVT ⟨false, [.sl]⟩ [(.slice x0.base x0.len x0.cap), (.slice x1.base x1.len x1.cap), (.slice x2.base x2.len x2.cap)] x3) fun (x4 : Sl) =>
      bind2 (hand_Few x4 60 h0) fun (x5 : Sl) (h1 : H) =>
      joinO (
        joinO (
          condK (decide ((((x5.len : Nat) : Int) > 0))) (
            some (Sum.inl ((cut, (count, (at', (with', (x5, ((x0, (x1, x2)), (x3, ((Int.tmod at' 3) == 0)))))))), h1))) (
            some (Sum.inl ((cut, (count, (at', (with', (x5, ((x0, (x1, x2)), (x3, false))))))), h1)))) fun (((cut1, (count1, (at'1, (with'1, (w, ((x6, (x7, x8)), (x9, x10))))))), h2) : ((Int × (Int × (Int × (Int × (Sl × ((Sl × (Sl × Sl)) × (Int × Bool))))))) × H)) =>
        condK x10 (
          bind2 (hand_Pick at'1 ((w.len : Nat) : Int) h2) fun (x11 : Int) (h3 : H) =>
          bindO (ixT 1 w x11) fun (a0 : Addr) =>
          bindO (ldI .u8 h3 a0) fun (x12 : Int) =>
          letO ((IntKind.wrap .u8 (((BitVec.toNat ((BitVec.ofInt 8 x12) ^^^ (BitVec.ofInt 8 with'1))) : Nat) : Int))) fun (x13 : Int) =>
          bindO (ixT 1 w x11) fun (a1 : Addr) =>
          bindO (st1 h3 a1 (.int .u8 x13)) fun (h4 : H) =>
          some (Sum.inl ((cut1, (count1, (at'1, (with'1, (w, ((x6, (x7, x8)), x9)))))), h4))) (
          some (Sum.inl ((cut1, (count1, (at'1, (with'1, (w, ((x6, (x7, x8)), x9)))))), h2)))) fun (((cut1, (count1, (at'1, (with'1, (w, ((x6, (x7, x8)), x9)))))), h2) : ((Int × (Int × (Int × (Int × (Sl × ((Sl × (Sl × Sl)) × Int)))))) × H)) =>
      joinO (
        condK ((Int.tmod cut1 4) == 0) (
          bind2 (hand_Pick cut1 (IntKind.wrap .i64 (((w.len : Nat) : Int) + 1)) h2) fun (x10 : Int) (h3 : H) =>
          bindO (slT 1 h3 w none (some x10) none) fun (x11 : Sl) =>
          some (Sum.inl ((cut1, (count1, (at'1, (with'1, (x11, ((x6, (x7, x8)), x9)))))), h3))) (
          some (Sum.inl ((cut1, (count1, (at'1, (with'1, (w, ((x6, (x7, x8)), x9)))))), h2)))) fun (((cut2, (count2, (at'2, (with'2, (w1, ((x10, (x11, x12)), x13)))))), h3) : ((Int × (Int × (Int × (Int × (Sl × ((Sl × (Sl × Sl)) × Int)))))) × H)) =>
      bind2 (varint_Take w1 h3) fun ((x14, x15, x16) : Int × Sl × Int) (h4 : H) =>
      bind2 (ref1_Take w1 h4) fun ((x17, x18, x19) : Int × Sl × Int) (h5 : H) =>
      bind2 (hand_Pick count2 9 h5) fun (x20 : Int) (h6 : H) =>
      bind2 (varint_Takes w1 (IntKind.wrap .i64 (x20 - 2)) h6) fun ((x21, x22, x23) : Sl × Sl × Int) (h7 : H) =>
      bind2 (ref1_Takes w1 (IntKind.wrap .i64 (x20 - 2)) h7) fun ((x24, x25, x26) : Sl × Sl × Int) (h8 : H) =>
      joinO (
        condK (x14 != x17) (
          some (Sum.inl ((cut2, (count2, (at'2, (with'2, (x21, (x24, ((x10, (x11, x12)), (x13, true)))))))), h8))) (
          bind2 (strT h8 x15) fun (x27 : ByteArray) (h9 : H) =>
          bind2 (strT h9 x18) fun (x28 : ByteArray) (h10 : H) =>
          condK (!(x27.toList == x28.toList)) (
            some (Sum.inl ((cut2, (count2, (at'2, (with'2, (x21, (x24, ((x10, (x11, x12)), (x13, true)))))))), h10))) (
            condK (x16 != x19) (
              some (Sum.inl ((cut2, (count2, (at'2, (with'2, (x21, (x24, ((x10, (x11, x12)), (x13, true)))))))), h10))) (
              condK (((x21.len : Nat) : Int) != ((x24.len : Nat) : Int)) (
                some (Sum.inl ((cut2, (count2, (at'2, (with'2, (x21, (x24, ((x10, (x11, x12)), (x13, true)))))))), h10))) (
                bind2 (strT h10 x22) fun (x29 : ByteArray) (h11 : H) =>
                bind2 (strT h11 x25) fun (x30 : ByteArray) (h12 : H) =>
                condK (!(x29.toList == x30.toList)) (
                  some (Sum.inl ((cut2, (count2, (at'2, (with'2, (x21, (x24, ((x10, (x11, x12)), (x13, true)))))))), h12))) (
                  some (Sum.inl ((cut2, (count2, (at'2, (with'2, (x21, (x24, ((x10, (x11, x12)), (x13, (x23 != x26))))))))), h12)))))))) fun (((cut3, (count3, (at'3, (with'3, (t, (v, ((x27, (x28, x29)), (x30, x31)))))))), h9) : ((Int × (Int × (Int × (Int × (Sl × (Sl × ((Sl × (Sl × Sl)) × (Int × Bool)))))))) × H)) =>
      condK x31 (
        some (Sum.inr (Sum.inr (Sum.inr (false, h9))))) (
        loopO (P.law1_VarintTells_l2 hand_Few law1_nums varint_Put ref1_Put varint_Size ref1_Size hand_May hand_Pick varint_Take ref1_Take varint_Takes ref1_Takes law1_known) ((cut3, (count3, (at'3, (with'3, (t, (v, ((x27, (x28, x29)), (x30, (((t.len : Nat) : Int), 0))))))))), h9))) fun (((cut1, (count1, (at'1, (with'1, ((x4, (x5, x6)), x7))))), h1) : ((Int × (Int × (Int × (Int × ((Sl × (Sl × Sl)) × Int))))) × H)) =>
    some (Sum.inl ((cut1, (count1, (at'1, (with'1, ((x4, (x5, x6)), (IntKind.wrap .i64 (x7 + 1))))))), h1))) (
    some (Sum.inr (Sum.inl ((), h0))))

noncomputable def P.law1_VarintTells (hand_Few : Sl → Int → H → Option ((Sl) × H)) (law1_nums : Sl → H → Option ((Sl) × H)) (varint_Put : Sl → Sl → H → Option ((Sl) × H)) (ref1_Put : Sl → Sl → H → Option ((Sl) × H)) (varint_Size : Sl → H → Option ((Int) × H)) (ref1_Size : Sl → H → Option ((Int) × H)) (hand_May : Int → H → Option ((Int) × H)) (hand_Pick : Int → Int → H → Option ((Int) × H)) (varint_Take : Sl → H → Option ((Int × Sl × Int) × H)) (ref1_Take : Sl → H → Option ((Int × Sl × Int) × H)) (varint_Takes : Sl → Int → H → Option ((Sl × Sl × Int) × H)) (ref1_Takes : Sl → Int → H → Option ((Sl × Sl × Int) × H)) (law1_known : H → Option ((Bool) × H)) (b : Sl) (l : Sl) (more : Sl) (cut : Int) (count : Int) (at' : Int) (with' : Int) (h : H) : Option (Bool × H) :=
  bind2 (hand_Few b 20 h) fun (x0 : Sl) (h0 : H) =>
  bind2 (law1_nums l h0) fun (x1 : Sl) (h1 : H) =>
  bind2 (varint_Put x0 x1 h1) fun (x2 : Sl) (h2 : H) =>
  bind2 (ref1_Put x0 x1 h2) fun (x3 : Sl) (h3 : H) =>
  joinO (
    bind2 (strT h3 x2) fun (x4 : ByteArray) (h4 : H) =>
    bind2 (strT h4 x3) fun (x5 : ByteArray) (h5 : H) =>
    condK (!(x4.toList == x5.toList)) (
      some (Sum.inl ((b, (more, (cut, (count, (at', (with', (x1, true))))))), h5))) (
      bind2 (varint_Size x1 h5) fun (x6 : Int) (h6 : H) =>
      bind2 (ref1_Size x1 h6) fun (x7 : Int) (h7 : H) =>
      some (Sum.inl ((b, (more, (cut, (count, (at', (with', (x1, (x6 != x7)))))))), h7)))) fun (((b1, (more1, (cut1, (count1, (at'1, (with'1, (n, x4))))))), h4) : ((Sl × (Sl × (Int × (Int × (Int × (Int × (Sl × Bool))))))) × H)) =>
  condK x4 (
    some (false, h4)) (
    joinO (
      bind2 (ref1_Put (⟨none, 0, 0⟩ : Sl) n h4) fun (x5 : Sl) (h5 : H) =>
      bind2 (hand_May at'1 h5) fun (x6 : Int) (h6 : H) =>
      newO (row 3 [(.int .i64 x6)]) h6 fun (b2 : Nat) (h7 : H) =>
      bind2 (ref1_Put (⟨none, 0, 0⟩ : Sl) (⟨(some (⟨b2, 0, (some 0)⟩ : Addr)), 1, 1⟩ : Sl) h7) fun (x7 : Sl) (h8 : H) =>
      bind2 (appT 5 1 1 h8 x7 more1) fun (x8 : Sl) (h9 : H) =>
      loopO (P.law1_VarintTells_l1 hand_Few law1_nums varint_Put ref1_Put varint_Size ref1_Size hand_May hand_Pick varint_Take ref1_Take varint_Takes ref1_Takes law1_known) ((cut1, (count1, (at'1, (with'1, ((b1, (x5, x8)), 0))))), h9)) fun (((), h5) : (PUnit × H)) =>
    bind2 (law1_known h5) fun (x5 : Bool) (h6 : H) =>
    some (x5, h6))
noncomputable abbrev law1_VarintTells_l2 := P.law1_VarintTells_l2 hand_Few law1_nums varint_Put ref1_Put varint_Size ref1_Size hand_May hand_Pick varint_Take ref1_Take varint_Takes ref1_Takes law1_known
noncomputable abbrev law1_VarintTells_l1 := P.law1_VarintTells_l1 hand_Few law1_nums varint_Put ref1_Put varint_Size ref1_Size hand_May hand_Pick varint_Take ref1_Take varint_Takes ref1_Takes law1_known
noncomputable def law1_VarintTells : Sl → Sl → Sl → Int → Int → Int → Int → H → Option ((Bool) × H) := P.law1_VarintTells hand_Few law1_nums varint_Put ref1_Put varint_Size ref1_Size hand_May hand_Pick varint_Take ref1_Take varint_Takes ref1_Takes law1_known
noncomputable def ann_15 : Ann := ⟨fun i => bif i.beq 13 then some ⟨[3, 4, 5, 6, 21, 67, 68], [⟨false, [.int .i64]⟩, ⟨false, [.int .i64]⟩, ⟨false, [.int .i64]⟩, ⟨false, [.int .u8]⟩, ⟨false, [.sl]⟩, ⟨true, [.sl, .sl, .sl]⟩, ⟨false, [.int .i64]⟩]⟩ else bif i.beq 15 then some ⟨[3, 4, 5, 6, 21, 67, 68], [⟨false, [.int .i64]⟩, ⟨false, [.int .i64]⟩, ⟨false, [.int .i64]⟩, ⟨false, [.int .u8]⟩, ⟨false, [.sl]⟩, ⟨true, [.sl, .sl, .sl]⟩, ⟨false, [.int .i64]⟩]⟩ else bif i.beq 28 then some ⟨[3, 4, 5, 6, 67, 68], [⟨false, [.int .i64]⟩, ⟨false, [.int .i64]⟩, ⟨false, [.int .i64]⟩, ⟨false, [.int .u8]⟩, ⟨true, [.sl, .sl, .sl]⟩, ⟨false, [.int .i64]⟩]⟩ else bif i.beq 29 then some ⟨[], []⟩ else none, fun i => bif i.beq 8 then some ⟨[3, 4, 5, 6, 67, 68], [⟨false, [.int .i64]⟩, ⟨false, [.int .i64]⟩, ⟨false, [.int .i64]⟩, ⟨false, [.int .u8]⟩, ⟨true, [.sl, .sl, .sl]⟩, ⟨false, [.int .i64]⟩]⟩ else bif i.beq 23 then some ⟨[3, 4, 5, 6, 29, 32, 67, 68, 165, 166], [⟨false, [.int .i64]⟩, ⟨false, [.int .i64]⟩, ⟨false, [.int .i64]⟩, ⟨false, [.int .u8]⟩, ⟨false, [.sl]⟩, ⟨false, [.sl]⟩, ⟨true, [.sl, .sl, .sl]⟩, ⟨false, [.int .i64]⟩, ⟨false, [.int .i64]⟩, ⟨false, [.int .i64]⟩]⟩ else none, fun i => bif i.beq 5 then some ⟨[0, 2, 3, 4, 5, 6, 16, 57], [⟨false, [.sl]⟩, ⟨false, [.sl]⟩, ⟨false, [.int .i64]⟩, ⟨false, [.int .i64]⟩, ⟨false, [.int .i64]⟩, ⟨false, [.int .u8]⟩, ⟨false, [.sl]⟩, ⟨false, [.bool]⟩]⟩ else bif i.beq 11 then some ⟨[3, 4, 5, 6, 21, 67, 68, 80], [⟨false, [.int .i64]⟩, ⟨false, [.int .i64]⟩, ⟨false, [.int .i64]⟩, ⟨false, [.int .u8]⟩, ⟨false, [.sl]⟩, ⟨true, [.sl, .sl, .sl]⟩, ⟨false, [.int .i64]⟩, ⟨false, [.bool]⟩]⟩ else bif i.beq 20 then some ⟨[3, 4, 5, 6, 29, 32, 67, 68, 163], [⟨false, [.int .i64]⟩, ⟨false, [.int .i64]⟩, ⟨false, [.int .i64]⟩, ⟨false, [.int .u8]⟩, ⟨false, [.sl]⟩, ⟨false, [.sl]⟩, ⟨true, [.sl, .sl, .sl]⟩, ⟨false, [.int .i64]⟩, ⟨false, [.bool]⟩]⟩ else none⟩
noncomputable def E_15 : Ent := ⟨15, [⟨false, [.sl]⟩, ⟨false, [.sl]⟩, ⟨false, [.sl]⟩, ⟨false, [.int .i64]⟩, ⟨false, [.int .i64]⟩, ⟨false, [.int .i64]⟩, ⟨false, [.int .u8]⟩], [⟨false, [.bool]⟩], fun (x : Sl × Sl × Sl × Int × Int × Int × Int) h => law1_VarintTells x.1 x.2.1 x.2.2.1 x.2.2.2.1 x.2.2.2.2.1 x.2.2.2.2.2.1 x.2.2.2.2.2.2 h⟩
theorem eq_15 (hand_Few : Sl → Int → H → Option ((Sl) × H)) (law1_nums : Sl → H → Option ((Sl) × H)) (varint_Put : Sl → Sl → H → Option ((Sl) × H)) (ref1_Put : Sl → Sl → H → Option ((Sl) × H)) (varint_Size : Sl → H → Option ((Int) × H)) (ref1_Size : Sl → H → Option ((Int) × H)) (hand_May : Int → H → Option ((Int) × H)) (hand_Pick : Int → Int → H → Option ((Int) × H)) (varint_Take : Sl → H → Option ((Int × Sl × Int) × H)) (ref1_Take : Sl → H → Option ((Int × Sl × Int) × H)) (varint_Takes : Sl → Int → H → Option ((Sl × Sl × Int) × H)) (ref1_Takes : Sl → Int → H → Option ((Sl × Sl × Int) × H)) (law1_known : H → Option ((Bool) × H)) : (fun (x : PT E_15.ps) (h : H) => runFK Go.Proofs.Ytejdeibmhlcnbaa.Tab.D (lstK [⟨39, [⟨false, [.sl]⟩, ⟨false, [.int .i64]⟩], [⟨false, [.sl]⟩], fun (x : Sl × Int) h => hand_Few x.1 x.2 h⟩, ⟨41, [⟨false, [.sl]⟩], [⟨false, [.sl]⟩], fun (x : Sl) h => law1_nums x h⟩, ⟨25, [⟨false, [.sl]⟩, ⟨false, [.sl]⟩], [⟨false, [.sl]⟩], fun (x : Sl × Sl) h => varint_Put x.1 x.2 h⟩, ⟨42, [⟨false, [.sl]⟩, ⟨false, [.sl]⟩], [⟨false, [.sl]⟩], fun (x : Sl × Sl) h => ref1_Put x.1 x.2 h⟩, ⟨24, [⟨false, [.sl]⟩], [⟨false, [.int .i64]⟩], fun (x : Sl) h => varint_Size x h⟩, ⟨43, [⟨false, [.sl]⟩], [⟨false, [.int .i64]⟩], fun (x : Sl) h => ref1_Size x h⟩, ⟨23, [⟨false, [.int .i64]⟩], [⟨false, [.int .i64]⟩], fun (x : Int) h => hand_May x h⟩, ⟨18, [⟨false, [.int .i64]⟩, ⟨false, [.int .i64]⟩], [⟨false, [.int .i64]⟩], fun (x : Int × Int) h => hand_Pick x.1 x.2 h⟩, ⟨26, [⟨false, [.sl]⟩], [⟨false, [.int .i64]⟩, ⟨false, [.sl]⟩, ⟨false, [.int .i64]⟩], fun (x : Sl) h => varint_Take x h⟩, ⟨44, [⟨false, [.sl]⟩], [⟨false, [.int .i64]⟩, ⟨false, [.sl]⟩, ⟨false, [.int .i64]⟩], fun (x : Sl) h => ref1_Take x h⟩, ⟨40, [⟨false, [.sl]⟩, ⟨false, [.int .i64]⟩], [⟨false, [.sl]⟩, ⟨false, [.sl]⟩, ⟨false, [.int .i64]⟩], fun (x : Sl × Int) h => varint_Takes x.1 x.2 h⟩, ⟨45, [⟨false, [.sl]⟩, ⟨false, [.int .i64]⟩], [⟨false, [.sl]⟩, ⟨false, [.sl]⟩, ⟨false, [.int .i64]⟩], fun (x : Sl × Int) h => ref1_Takes x.1 x.2 h⟩, ⟨27, [], [⟨false, [.bool]⟩], fun (x : Unit) h => law1_known h⟩]) ann_15 Try.f15 (Try.f15.body.getD .skip) E_15.ys (encP E_15.ps x) h) = (fun (x : Sl × Sl × Sl × Int × Int × Int × Int) h => P.law1_VarintTells hand_Few law1_nums varint_Put ref1_Put varint_Size ref1_Size hand_May hand_Pick varint_Take ref1_Take varint_Takes ref1_Takes law1_known x.1 x.2.1 x.2.2.1 x.2.2.2.1 x.2.2.2.2.1 x.2.2.2.2.2.1 x.2.2.2.2.2.2 h) := by kernel_rfl
theorem ok_15 : E_15.ok Go.Proofs.Ytejdeibmhlcnbaa.Tab.D := fun x h y h' e => runFK_ok (lstK_ok [E_39, E_41, E_25, E_42, E_24, E_43, E_23, E_18, E_26, E_44, E_40, E_45, E_27] (List.forall_mem_cons.2 ⟨ok_39, List.forall_mem_cons.2 ⟨ok_41, List.forall_mem_cons.2 ⟨ok_25, List.forall_mem_cons.2 ⟨ok_42, List.forall_mem_cons.2 ⟨ok_24, List.forall_mem_cons.2 ⟨ok_43, List.forall_mem_cons.2 ⟨ok_23, List.forall_mem_cons.2 ⟨ok_18, List.forall_mem_cons.2 ⟨ok_26, List.forall_mem_cons.2 ⟨ok_44, List.forall_mem_cons.2 ⟨ok_40, List.forall_mem_cons.2 ⟨ok_45, List.forall_mem_cons.2 ⟨ok_27, fun E h => nomatch h⟩⟩⟩⟩⟩⟩⟩⟩⟩⟩⟩⟩⟩)) (A := ann_15) (by kernel_rfl) (show Go.Proofs.Ytejdeibmhlcnbaa.Tab.D.fn.get 15 = some Try.f15 by kernel_rfl) (show Try.f15.body = some (Try.f15.body.getD .skip) by kernel_rfl) ((congrFun (congrFun (eq_15 hand_Few law1_nums varint_Put ref1_Put varint_Size ref1_Size hand_May hand_Pick varint_Take ref1_Take varint_Takes ref1_Takes law1_known) x) h).trans e)
end Go.Proofs.Ytejdeibmhlcnbaa.T
