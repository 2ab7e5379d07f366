/- The typed texts of the program's functions, printed by a program of this session (wip/KPrint.lean) out of the machine's own definitions; each is the machine's own run, by the kernel's reduction. -/
import Derived.Test.YthiccnmplgdheaaTxt0
import Derived.Test.YthiccnmplgdheaaAbsF
import Derived.Test.YthiccnmplgdheaaTab
import Derived.KernelRfl
set_option linter.unusedVariables false
set_option maxRecDepth 1000000
namespace Go.Proofs.Ythiccnmplgdheaa.T
open Go Go.Abs Go.Proofs
/-! law6_PacketMany -/
noncomputable def P.law6_PacketMany_l3 (hand_Pick : Int → Int → H → Option ((Int) × H)) (hand_Right : Sl → Int → H → Option ((Sl) × H)) (packet_Lay : Int → Int → Int → Sl → H → Option ((Sl × Int) × H)) (law6_known : H → Option ((Bool) × H)) (packet_Read : Int → Int → Sl → H → Option ((Int × Sl × Int) × H)) (ref1_SameFrames : Sl → Sl → H → Option ((Bool) × H)) : ((Int × (Int × (Sl × ((Option Addr) × (Int × (Sl × (Int × Int))))))) × H) → Option (((Int × (Int × (Sl × ((Option Addr) × (Int × (Sl × (Int × Int))))))) × H) ⊕ ((PUnit × H) ⊕ (Bool × H))) := fun ((key, (first, (f, (all, (newest, (x0, (x1, x2))))))), h0) =>
  condK (decide ((x2 < x1))) (
    bindO (ixT 1 x0 x2) fun (a0 : Addr) =>
    bindO (ldI .i64 h0 a0) fun (x3 : Int) =>
    bind2 (hand_Pick x3 20 h0) fun (x4 : Int) (h1 : H) =>
    ptrK all fun (a1 : Addr) =>
    bindO (ixAT 20 1 a1 x4) fun (a2 : Addr) =>
    bindO (ldL h1 a2) fun (x5 : Sl) =>
    bind2 (packet_Read key (IntKind.wrap .i64 (newest + 1)) x5 h1) fun ((x6, x7, x8) : Int × Sl × Int) (h2 : H) =>
    joinO (
      condK (x8 != 0) (
        some (Sum.inl ((key, (first, (f, (all, (newest, (x6, (x0, (x1, (x2, true))))))))), h2))) (
        condK (x6 != (IntKind.wrap .i64 (first + x4))) (
          some (Sum.inl ((key, (first, (f, (all, (newest, (x6, (x0, (x1, (x2, true))))))))), h2))) (
          letO ((((x7.len : Nat) : Int) != (IntKind.wrap .i64 (1 + ((f.len : Nat) : Int))))) fun (x9 : Bool) =>
          condK x9 (
            some (Sum.inl ((key, (first, (f, (all, (newest, (x6, (x0, (x1, (x2, true))))))))), h2))) (
            bindO (ixT 9 x7 0) fun (a3 : Addr) =>
            bindO (ldI .i64 h2 (add a3 1)) fun (x10 : Int) =>
            condK (x10 != x4) (
              some (Sum.inl ((key, (first, (f, (all, (newest, (x6, (x0, (x1, (x2, true))))))))), h2))) (
              bindO (slT 9 h2 x7 (some 1) none none) fun (x11 : Sl) =>
              bind2 (ref1_SameFrames x11 f h2) fun (x12 : Bool) (h3 : H) =>
              some (Sum.inl ((key, (first, (f, (all, (newest, (x6, (x0, (x1, (x2, (!x12)))))))))), h3))))))) fun (((key1, (first1, (f1, (all1, (newest1, (n, (x9, (x10, (x11, x12))))))))), h3) : ((Int × (Int × (Sl × ((Option Addr) × (Int × (Int × (Sl × (Int × (Int × Bool))))))))) × H)) =>
    condK x12 (
      some (Sum.inr (Sum.inr (false, h3)))) (
      some (Sum.inl ((key1, (first1, (f1, (all1, ((if (n > newest1) then n else newest1), (x9, (x10, (IntKind.wrap .i64 (x11 + 1))))))))), h3)))) (
    some (Sum.inr (Sum.inl ((), h0))))

noncomputable def P.law6_PacketMany_l2 (hand_Pick : Int → Int → H → Option ((Int) × H)) (hand_Right : Sl → Int → H → Option ((Sl) × H)) (packet_Lay : Int → Int → Int → Sl → H → Option ((Sl × Int) × H)) (law6_known : H → Option ((Bool) × H)) (packet_Read : Int → Int → Sl → H → Option ((Int × Sl × Int) × H)) (ref1_SameFrames : Sl → Sl → H → Option ((Bool) × H)) : ((Int × (Int × (Sl × (Sl × ((Option Addr) × (Int × (Sl × (Int × Int)))))))) × H) → Option (((Int × (Int × (Sl × (Sl × ((Option Addr) × (Int × (Sl × (Int × Int)))))))) × H) ⊕ (((Int × (Int × (Sl × (Sl × ((Option Addr) × Int))))) × H) ⊕ (((Int × (Int × (Sl × (Sl × ((Option Addr) × Int))))) × H) ⊕ (((Int × (Int × (Sl × (Sl × (Option Addr))))) × H) ⊕ (Bool × H))))) := fun ((key, (first, (order, (f, (all, (i, (b, (j, x0)))))))), h0) =>
  condK (decide ((j < i))) (
    ptrK all fun (a0 : Addr) =>
    bindO (ixAT 20 1 a0 j) fun (a1 : Addr) =>
    bindO (ldL h0 a1) fun (x1 : Sl) =>
    bind2 (strT h0 x1) fun (x2 : ByteArray) (h1 : H) =>
    bind2 (strT h0 b) fun (x3 : ByteArray) (h2 : H) =>
    condK (x2.toList == x3.toList) (
      some (Sum.inr (Sum.inr (Sum.inr (Sum.inr (false, h0)))))) (
      some (Sum.inl ((key, (first, (order, (f, (all, (i, (b, ((IntKind.wrap .i64 (j + 1)), x0)))))))), h0)))) (
    some (Sum.inr (Sum.inl ((key, (first, (order, (f, (all, x0))))), h0))))

noncomputable def P.law6_PacketMany_l1 (hand_Pick : Int → Int → H → Option ((Int) × H)) (hand_Right : Sl → Int → H → Option ((Sl) × H)) (packet_Lay : Int → Int → Int → Sl → H → Option ((Sl × Int) × H)) (law6_known : H → Option ((Bool) × H)) (packet_Read : Int → Int → Sl → H → Option ((Int × Sl × Int) × H)) (ref1_SameFrames : Sl → Sl → H → Option ((Bool) × H)) : ((Int × (Int × (Sl × (Sl × ((Option Addr) × Int))))) × H) → Option (((Int × (Int × (Sl × (Sl × ((Option Addr) × Int))))) × H) ⊕ (((Int × (Int × (Sl × (Sl × (Option Addr))))) × H) ⊕ (Bool × H))) := fun ((key, (first, (order, (f, (all, x0))))), h0) =>
  condK (decide ((x0 < 20))) (
    joinO (
      newO (row 33 [(.int .i64 10), (.int .i64 x0), (.int .i64 0), (.int .i64 0), (.int .i64 0), (.int .i64 0), (.bool false), (.slice none 0 0), (.slice none 0 0)]) h0 fun (b : Nat) (h1 : H) =>
      bind2 (appT 33 9 104 h1 (⟨(some (⟨b, 0, (some 0)⟩ : Addr)), 1, 1⟩ : Sl) f) fun (x1 : Sl) (h2 : H) =>
      bind2 (packet_Lay key (IntKind.wrap .i64 (first + x0)) (IntKind.wrap .i64 (first - 1)) x1 h2) fun ((x2, x3) : Sl × Int) (h3 : H) =>
      condK (x3 != 0) (
        joinO (
          bind2 (law6_known h3) fun (x4 : Bool) (h4 : H) =>
          condK x4 (
            some (Sum.inl ((x3 == 9), h4))) (
            some (Sum.inl (false, h4)))) fun ((x4, h4) : (Bool × H)) =>
        some (Sum.inr (Sum.inr (Sum.inr (x4, h4))))) (
        ptrK all fun (a0 : Addr) =>
        bindO (ixAT 20 1 a0 x0) fun (a1 : Addr) =>
        bindO (st1 h3 a1 (.slice x2.base x2.len x2.cap)) fun (h5 : H) =>
        loopO (P.law6_PacketMany_l2 hand_Pick hand_Right packet_Lay law6_known packet_Read ref1_SameFrames) ((key, (first, (order, (f, (all, (x0, (x2, (0, x0)))))))), h5))) fun (((key1, (first1, (order1, (f1, (all1, x1))))), h1) : ((Int × (Int × (Sl × (Sl × ((Option Addr) × Int))))) × H)) =>
    some (Sum.inl ((key1, (first1, (order1, (f1, (all1, (IntKind.wrap .i64 (x1 + 1))))))), h1))) (
    some (Sum.inr (Sum.inl ((key, (first, (order, (f, all)))), h0))))

noncomputable def P.law6_PacketMany (hand_Pick : Int → Int → H → Option ((Int) × H)) (hand_Right : Sl → Int → H → Option ((Sl) × H)) (packet_Lay : Int → Int → Int → Sl → H → Option ((Sl × Int) × H)) (law6_known : H → Option ((Bool) × H)) (packet_Read : Int → Int → Sl → H → Option ((Int × Sl × Int) × H)) (ref1_SameFrames : Sl → Sl → H → Option ((Bool) × H)) (key : Int) (first : Int) (order : Sl) (l : Sl) (h : H) : Option (Bool × H) :=
  bind2 (hand_Pick first 1073741824 h) fun (x0 : Int) (h0 : H) =>
  bind2 (hand_Right l 1 h0) fun (x1 : Sl) (h1 : H) =>
  newO (row 111 [(.slice none 0 0), (.slice none 0 0), (.slice none 0 0), (.slice none 0 0), (.slice none 0 0), (.slice none 0 0), (.slice none 0 0), (.slice none 0 0), (.slice none 0 0), (.slice none 0 0), (.slice none 0 0), (.slice none 0 0), (.slice none 0 0), (.slice none 0 0), (.slice none 0 0), (.slice none 0 0), (.slice none 0 0), (.slice none 0 0), (.slice none 0 0), (.slice none 0 0)]) h1 fun (b : Nat) (h2 : H) =>
  joinO (
    loopO (P.law6_PacketMany_l1 hand_Pick hand_Right packet_Lay law6_known packet_Read ref1_SameFrames) ((key, (x0, (order, (x1, ((some (⟨b, 0, (some 0)⟩ : Addr)), 0))))), h2)) fun (((key1, (first1, (order1, (f, all)))), h3) : ((Int × (Int × (Sl × (Sl × (Option Addr))))) × H)) =>
  joinO (
    loopO (P.law6_PacketMany_l3 hand_Pick hand_Right packet_Lay law6_known packet_Read ref1_SameFrames) ((key1, (first1, (f, (all, ((IntKind.wrap .i64 (first1 - 1)), (order1, (((order1.len : Nat) : Int), 0))))))), h3)) fun (((), h4) : (PUnit × H)) =>
  bind2 (law6_known h4) fun (x2 : Bool) (h5 : H) =>
  some (x2, h5)
noncomputable abbrev law6_PacketMany_l3 := P.law6_PacketMany_l3 hand_Pick hand_Right packet_Lay law6_known packet_Read ref1_SameFrames
noncomputable abbrev law6_PacketMany_l2 := P.law6_PacketMany_l2 hand_Pick hand_Right packet_Lay law6_known packet_Read ref1_SameFrames
noncomputable abbrev law6_PacketMany_l1 := P.law6_PacketMany_l1 hand_Pick hand_Right packet_Lay law6_known packet_Read ref1_SameFrames
noncomputable def law6_PacketMany : Int → Int → Sl → Sl → H → Option ((Bool) × H) := P.law6_PacketMany hand_Pick hand_Right packet_Lay law6_known packet_Read ref1_SameFrames
noncomputable def ann_21 : Ann := ⟨fun i => bif i.beq 16 then some ⟨[0, 1, 2, 9, 10, 26], [⟨false, [.int .u64]⟩, ⟨false, [.int .i64]⟩, ⟨false, [.sl]⟩, ⟨false, [.sl]⟩, ⟨false, [.ptr]⟩, ⟨false, [.int .i64]⟩]⟩ else bif i.beq 17 then some ⟨[0, 1, 2, 9, 10], [⟨false, [.int .u64]⟩, ⟨false, [.int .i64]⟩, ⟨false, [.sl]⟩, ⟨false, [.sl]⟩, ⟨false, [.ptr]⟩]⟩ else bif i.beq 27 then some ⟨[], []⟩ else none, fun i => bif i.beq 5 then some ⟨[0, 1, 2, 9, 10, 26], [⟨false, [.int .u64]⟩, ⟨false, [.int .i64]⟩, ⟨false, [.sl]⟩, ⟨false, [.sl]⟩, ⟨false, [.ptr]⟩, ⟨false, [.int .i64]⟩]⟩ else bif i.beq 12 then some ⟨[0, 1, 2, 9, 10, 11, 12, 14, 26], [⟨false, [.int .u64]⟩, ⟨false, [.int .i64]⟩, ⟨false, [.sl]⟩, ⟨false, [.sl]⟩, ⟨false, [.ptr]⟩, ⟨false, [.int .i64]⟩, ⟨false, [.sl]⟩, ⟨false, [.int .i64]⟩, ⟨false, [.int .i64]⟩]⟩ else bif i.beq 19 then some ⟨[0, 1, 9, 10, 15, 69, 70, 71], [⟨false, [.int .u64]⟩, ⟨false, [.int .i64]⟩, ⟨false, [.sl]⟩, ⟨false, [.ptr]⟩, ⟨false, [.int .i64]⟩, ⟨false, [.sl]⟩, ⟨false, [.int .i64]⟩, ⟨false, [.int .i64]⟩]⟩ else none, fun i => bif i.beq 9 then some ⟨[8], [⟨false, [.bool]⟩]⟩ else bif i.beq 23 then some ⟨[0, 1, 9, 10, 15, 19, 69, 70, 71, 119], [⟨false, [.int .u64]⟩, ⟨false, [.int .i64]⟩, ⟨false, [.sl]⟩, ⟨false, [.ptr]⟩, ⟨false, [.int .i64]⟩, ⟨false, [.int .i64]⟩, ⟨false, [.sl]⟩, ⟨false, [.int .i64]⟩, ⟨false, [.int .i64]⟩, ⟨false, [.bool]⟩]⟩ else none⟩
noncomputable def E_21 : Ent := ⟨21, [⟨false, [.int .u64]⟩, ⟨false, [.int .i64]⟩, ⟨false, [.sl]⟩, ⟨false, [.sl]⟩], [⟨false, [.bool]⟩], fun (x : Int × Int × Sl × Sl) h => law6_PacketMany x.1 x.2.1 x.2.2.1 x.2.2.2 h⟩
theorem eq_21 (hand_Pick : Int → Int → H → Option ((Int) × H)) (hand_Right : Sl → Int → H → Option ((Sl) × H)) (packet_Lay : Int → Int → Int → Sl → H → Option ((Sl × Int) × H)) (law6_known : H → Option ((Bool) × H)) (packet_Read : Int → Int → Sl → H → Option ((Int × Sl × Int) × H)) (ref1_SameFrames : Sl → Sl → H → Option ((Bool) × H)) : (fun (x : PT E_21.ps) (h : H) => runFK Go.Proofs.Ythiccnmplgdheaa.Tab.D (lstK [⟨24, [⟨false, [.int .i64]⟩, ⟨false, [.int .i64]⟩], [⟨false, [.int .i64]⟩], fun (x : Int × Int) h => hand_Pick x.1 x.2 h⟩, ⟨52, [⟨false, [.sl]⟩, ⟨false, [.int .i64]⟩], [⟨false, [.sl]⟩], fun (x : Sl × Int) h => hand_Right x.1 x.2 h⟩, ⟨72, [⟨false, [.int .u64]⟩, ⟨false, [.int .i64]⟩, ⟨false, [.int .i64]⟩, ⟨false, [.sl]⟩], [⟨false, [.sl]⟩, ⟨false, [.int .i64]⟩], fun (x : Int × Int × Int × Sl) h => packet_Lay x.1 x.2.1 x.2.2.1 x.2.2.2 h⟩, ⟨74, [], [⟨false, [.bool]⟩], fun (x : Unit) h => law6_known h⟩, ⟨73, [⟨false, [.int .u64]⟩, ⟨false, [.int .i64]⟩, ⟨false, [.sl]⟩], [⟨false, [.int .i64]⟩, ⟨false, [.sl]⟩, ⟨false, [.int .i64]⟩], fun (x : Int × Int × Sl) h => packet_Read x.1 x.2.1 x.2.2 h⟩, ⟨81, [⟨false, [.sl]⟩, ⟨false, [.sl]⟩], [⟨false, [.bool]⟩], fun (x : Sl × Sl) h => ref1_SameFrames x.1 x.2 h⟩]) ann_21 Try.f21 (Try.f21.body.getD .skip) E_21.ys (encP E_21.ps x) h) = (fun (x : Int × Int × Sl × Sl) h => P.law6_PacketMany hand_Pick hand_Right packet_Lay law6_known packet_Read ref1_SameFrames x.1 x.2.1 x.2.2.1 x.2.2.2 h) := by kernel_rfl
theorem ok_21 : E_21.ok Go.Proofs.Ythiccnmplgdheaa.Tab.D := fun x h y h' e => runFK_ok (lstK_ok [E_24, E_52, E_72, E_74, E_73, E_81] (List.forall_mem_cons.2 ⟨ok_24, List.forall_mem_cons.2 ⟨ok_52, List.forall_mem_cons.2 ⟨ok_72, List.forall_mem_cons.2 ⟨ok_74, List.forall_mem_cons.2 ⟨ok_73, List.forall_mem_cons.2 ⟨ok_81, fun E h => nomatch h⟩⟩⟩⟩⟩⟩)) (A := ann_21) (by kernel_rfl) (show Go.Proofs.Ythiccnmplgdheaa.Tab.D.fn.get 21 = some Try.f21 by kernel_rfl) (show Try.f21.body = some (Try.f21.body.getD .skip) by kernel_rfl) ((congrFun (congrFun (eq_21 hand_Pick hand_Right packet_Lay law6_known packet_Read ref1_SameFrames) x) h).trans e)
end Go.Proofs.Ythiccnmplgdheaa.T
