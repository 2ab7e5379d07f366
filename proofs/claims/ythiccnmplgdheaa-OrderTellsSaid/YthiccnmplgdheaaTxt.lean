/- The typed texts of the program's functions, printed by a program of this session (wip/KPrint.lean) out of the machine's own definitions; each is the machine's own run, by the kernel's reduction. -/
import Derived.Test.YthiccnmplgdheaaOv
import Derived.KernelRfl
set_option linter.unusedVariables false
set_option maxRecDepth 1000000
namespace Go.Proofs.Ythiccnmplgdheaa.T
open Go Go.Abs Go.Proofs
/-! hand_Pick -/
noncomputable def hand_Pick (n : Int) (m : Int) (h : H) : Option (Int × H) :=
  bindO (remT .i64 n m) fun (x0 : Int) =>
  joinO (
    condK (decide ((x0 < 0))) (
      some (Sum.inl ((IntKind.wrap .i64 (x0 + m)), h))) (
      some (Sum.inl (x0, h)))) fun ((n1, h0) : (Int × H)) =>
  some (n1, h0)
noncomputable def ann_24 : Ann := ⟨fun i => bif i.beq 4 then some ⟨[0], [⟨false, [.int .i64]⟩]⟩ else none, fun _ => none, fun _ => none⟩
noncomputable def E_24 : Ent := ⟨24, [⟨false, [.int .i64]⟩, ⟨false, [.int .i64]⟩], [⟨false, [.int .i64]⟩], fun (x : Int × Int) h => hand_Pick x.1 x.2 h⟩
theorem eq_24  : (fun (x : PT E_24.ps) (h : H) => runFK Go.Proofs.Ythiccnmplgdheaa.Ov.D (lstK []) ann_24 Try.f24 (Try.f24.body.getD .skip) E_24.ys (encP E_24.ps x) h) = (fun (x : Int × Int) h => hand_Pick x.1 x.2 h) := by kernel_rfl
theorem ok_24 : E_24.ok Go.Proofs.Ythiccnmplgdheaa.Ov.D := fun x h y h' e => runFK_ok (lstK_ok [] (fun E h => nomatch h)) (A := ann_24) (by kernel_rfl) (show Go.Proofs.Ythiccnmplgdheaa.Ov.D.fn.get 24 = some Try.f24 by kernel_rfl) (show Try.f24.body = some (Try.f24.body.getD .skip) by kernel_rfl) ((congrFun (congrFun (eq_24 ) x) h).trans e)
/-! slices_Clip_int -/
noncomputable def slices_Clip_int (s : Sl) (h : H) : Option (Sl × H) :=
  bindO (slT 1 h s none (some ((s.len : Nat) : Int)) (some ((s.len : Nat) : Int))) fun (x0 : Sl) =>
  some (x0, h)
noncomputable def ann_116 : Ann := ⟨fun _ => none, fun _ => none, fun _ => none⟩
noncomputable def E_116 : Ent := ⟨116, [⟨false, [.sl]⟩], [⟨false, [.sl]⟩], fun (x : Sl) h => slices_Clip_int x h⟩
theorem eq_116  : (fun (x : PT E_116.ps) (h : H) => runFK Go.Proofs.Ythiccnmplgdheaa.Ov.D (lstK []) ann_116 Try.f116 (Try.f116.body.getD .skip) E_116.ys (encP E_116.ps x) h) = (fun (x : Sl) h => slices_Clip_int x h) := by kernel_rfl
theorem ok_116 : E_116.ok Go.Proofs.Ythiccnmplgdheaa.Ov.D := fun x h y h' e => runFK_ok (lstK_ok [] (fun E h => nomatch h)) (A := ann_116) (by kernel_rfl) (show Go.Proofs.Ythiccnmplgdheaa.Ov.D.fn.get 116 = some Try.f116 by kernel_rfl) (show Try.f116.body = some (Try.f116.body.getD .skip) by kernel_rfl) ((congrFun (congrFun (eq_116 ) x) h).trans e)
/-! order_Order_Put -/
noncomputable def order_Order_Put (o : Option Addr) (deadline : Int) (id : Int) (h : H) : Option (Unit × H) :=
  joinO (
    ptrK o fun (a0 : Addr) =>
    bindO (ldM h (add a0 0)) fun (x0 : Option Nat) =>
    bindO (eqMT x0 none) fun (x1 : Bool) =>
    condK x1 (
      newO (.map []) h fun (b : Nat) (h0 : H) =>
      ptrK o fun (a1 : Addr) =>
      bindO (st1 h0 (add a1 0) (.map (some b))) fun (h1 : H) =>
      some (Sum.inl ((o, (deadline, id)), h1))) (
      some (Sum.inl ((o, (deadline, id)), h)))) fun (((o1, (deadline1, id1)), h0) : (((Option Addr) × (Int × Int)) × H)) =>
  ptrK o1 fun (a0 : Addr) =>
  bindO (ldM h0 (add a0 0)) fun (x0 : Option Nat) =>
  bindO (updT .i64 ⟨false, [.int .i64]⟩ h0 x0 id1 ((deadline1) : Int)) fun (h1 : H) =>
  some ((), h1)
noncomputable def ann_59 : Ann := ⟨fun i => bif i.beq 2 then some ⟨[0, 1, 2], [⟨false, [.ptr]⟩, ⟨false, [.int .i64]⟩, ⟨false, [.int .i64]⟩]⟩ else none, fun _ => none, fun _ => none⟩
noncomputable def E_59 : Ent := ⟨59, [⟨false, [.ptr]⟩, ⟨false, [.int .i64]⟩, ⟨false, [.int .i64]⟩], [], fun (x : Option Addr × Int × Int) h => order_Order_Put x.1 x.2.1 x.2.2 h⟩
theorem eq_59  : (fun (x : PT E_59.ps) (h : H) => runFK Go.Proofs.Ythiccnmplgdheaa.Ov.D (lstK []) ann_59 Try.f59 (Try.f59.body.getD .skip) E_59.ys (encP E_59.ps x) h) = (fun (x : Option Addr × Int × Int) h => order_Order_Put x.1 x.2.1 x.2.2 h) := by kernel_rfl
theorem ok_59 : E_59.ok Go.Proofs.Ythiccnmplgdheaa.Ov.D := fun x h y h' e => runFK_ok (lstK_ok [] (fun E h => nomatch h)) (A := ann_59) (by kernel_rfl) (show Go.Proofs.Ythiccnmplgdheaa.Ov.D.fn.get 59 = some Try.f59 by kernel_rfl) (show Try.f59.body = some (Try.f59.body.getD .skip) by kernel_rfl) ((congrFun (congrFun (eq_59 ) x) h).trans e)
/-! maps_Keys_map_int_int_int_int -/
noncomputable def maps_Keys_map_int_int_int_int (m : Option Nat) (h : H) : Option (Value × H) :=
  newO (row 81 [(.map m)]) h fun (b : Nat) (h0 : H) =>
  some ((.func (.func 164) #[] #[(.pointer (some (⟨b, 0, (some 0)⟩ : Addr)))]), h0)
noncomputable def ann_118 : Ann := ⟨fun _ => none, fun _ => none, fun _ => none⟩
noncomputable def E_118 : Ent := ⟨118, [⟨false, [.map]⟩], [⟨false, [.any]⟩], fun (x : Option Nat) h => maps_Keys_map_int_int_int_int x h⟩
theorem eq_118  : (fun (x : PT E_118.ps) (h : H) => runFK Go.Proofs.Ythiccnmplgdheaa.Ov.D (lstK []) ann_118 Try.f118 (Try.f118.body.getD .skip) E_118.ys (encP E_118.ps x) h) = (fun (x : Option Nat) h => maps_Keys_map_int_int_int_int x h) := by kernel_rfl
theorem ok_118 : E_118.ok Go.Proofs.Ythiccnmplgdheaa.Ov.D := fun x h y h' e => runFK_ok (lstK_ok [] (fun E h => nomatch h)) (A := ann_118) (by kernel_rfl) (show Go.Proofs.Ythiccnmplgdheaa.Ov.D.fn.get 118 = some Try.f118 by kernel_rfl) (show Try.f118.body = some (Try.f118.body.getD .skip) by kernel_rfl) ((congrFun (congrFun (eq_118 ) x) h).trans e)
/-! slices_SortedFunc_int_order_Order_All_1 (told by an override) -/
noncomputable def slices_SortedFunc_int_order_Order_All_1 : Value → Option Addr → H → Option ((Sl) × H) := fun s c1 h => slO (Go.Proofs.Ythiccnmplgdheaa.Ov.ov117 [s, (Z.enc (.clo 119 1) c1)] h)
noncomputable def E_117c119 : Ent := ⟨117, [⟨false, [.any]⟩, ⟨false, [.clo 119 1]⟩], [⟨false, [.sl]⟩], fun (x : Value × Option Addr) h => slices_SortedFunc_int_order_Order_All_1 x.1 x.2 h⟩
theorem ok_117c119 : E_117c119.ok Go.Proofs.Ythiccnmplgdheaa.Ov.D := fun x h y h' e => ov_ok (f := 117) (g := Go.Proofs.Ythiccnmplgdheaa.Ov.ov117) (by kernel_rfl) (args := [x.1, (Z.enc (.clo 119 1) x.2)]) e
/-! order_Order_All -/
noncomputable def P.order_Order_All (maps_Keys_map_int_int_int_int : Option Nat → H → Option ((Value) × H)) (slices_SortedFunc_int_order_Order_All_1 : Value → Option Addr → H → Option ((Sl) × H)) (slices_Clip_int : Sl → H → Option ((Sl) × H)) (o : Option Addr) (h : H) : Option (Sl × H) :=
  newO (row 142 [(.pointer o)]) h fun (b : Nat) (h0 : H) =>
  bindO (ldP h0 (⟨b, 0, (some 0)⟩ : Addr)) fun (x0 : Option Addr) =>
  ptrK x0 fun (a0 : Addr) =>
  bindO (ldM h0 (add a0 0)) fun (x1 : Option Nat) =>
  bind2 (maps_Keys_map_int_int_int_int x1 h0) fun (x2 : Value) (h1 : H) =>
  bind2 (slices_SortedFunc_int_order_Order_All_1 x2 (some (⟨b, 0, (some 0)⟩ : Addr)) h1) fun (x3 : Sl) (h2 : H) =>
  bind2 (slices_Clip_int x3 h2) fun (x4 : Sl) (h3 : H) =>
  some (x4, h3)
noncomputable def order_Order_All : Option Addr → H → Option ((Sl) × H) := P.order_Order_All maps_Keys_map_int_int_int_int slices_SortedFunc_int_order_Order_All_1 slices_Clip_int
noncomputable def ann_61 : Ann := ⟨fun _ => none, fun _ => none, fun _ => none⟩
noncomputable def E_61 : Ent := ⟨61, [⟨false, [.ptr]⟩], [⟨false, [.sl]⟩], fun (x : Option Addr) h => order_Order_All x h⟩
theorem eq_61 (maps_Keys_map_int_int_int_int : Option Nat → H → Option ((Value) × H)) (slices_SortedFunc_int_order_Order_All_1 : Value → Option Addr → H → Option ((Sl) × H)) (slices_Clip_int : Sl → H → Option ((Sl) × H)) : (fun (x : PT E_61.ps) (h : H) => runFK Go.Proofs.Ythiccnmplgdheaa.Ov.D (lstK [⟨118, [⟨false, [.map]⟩], [⟨false, [.any]⟩], fun (x : Option Nat) h => maps_Keys_map_int_int_int_int x h⟩, ⟨117, [⟨false, [.any]⟩, ⟨false, [.clo 119 1]⟩], [⟨false, [.sl]⟩], fun (x : Value × Option Addr) h => slices_SortedFunc_int_order_Order_All_1 x.1 x.2 h⟩, ⟨116, [⟨false, [.sl]⟩], [⟨false, [.sl]⟩], fun (x : Sl) h => slices_Clip_int x h⟩]) ann_61 Try.f61 (Try.f61.body.getD .skip) E_61.ys (encP E_61.ps x) h) = (fun (x : Option Addr) h => P.order_Order_All maps_Keys_map_int_int_int_int slices_SortedFunc_int_order_Order_All_1 slices_Clip_int x h) := by kernel_rfl
theorem ok_61 : E_61.ok Go.Proofs.Ythiccnmplgdheaa.Ov.D := fun x h y h' e => runFK_ok (lstK_ok [E_118, E_117c119, E_116] (List.forall_mem_cons.2 ⟨ok_118, List.forall_mem_cons.2 ⟨ok_117c119, List.forall_mem_cons.2 ⟨ok_116, fun E h => nomatch h⟩⟩⟩)) (A := ann_61) (by kernel_rfl) (show Go.Proofs.Ythiccnmplgdheaa.Ov.D.fn.get 61 = some Try.f61 by kernel_rfl) (show Try.f61.body = some (Try.f61.body.getD .skip) by kernel_rfl) ((congrFun (congrFun (eq_61 maps_Keys_map_int_int_int_int slices_SortedFunc_int_order_Order_All_1 slices_Clip_int) x) h).trans e)
/-! law20_same -/
noncomputable def law20_same_l1 : ((Sl × (Sl × (Int × Int))) × H) → Option (((Sl × (Sl × (Int × Int))) × H) ⊕ (Bool × H)) := fun ((a0, (b, (x0, x1))), h0) =>
  condK (decide ((x1 < x0))) (
    bindO (ixT 1 a0 x1) fun (a1 : Addr) =>
    bindO (ldI .i64 h0 a1) fun (x2 : Int) =>
    bindO (ixT 1 b x1) fun (a2 : Addr) =>
    bindO (ldI .i64 h0 a2) fun (x3 : Int) =>
    condK (x2 != x3) (
      some (Sum.inr (false, h0))) (
      some (Sum.inl ((a0, (b, (x0, (IntKind.wrap .i64 (x1 + 1))))), h0)))) (
    some (Sum.inr (true, h0)))

noncomputable def law20_same (a0 : Sl) (b : Sl) (h : H) : Option (Bool × H) :=
  condK (((a0.len : Nat) : Int) != ((b.len : Nat) : Int)) (
    some (false, h)) (
    loopO law20_same_l1 ((a0, (b, (((a0.len : Nat) : Int), 0))), h))
noncomputable def ann_60 : Ann := ⟨fun _ => none, fun i => bif i.beq 4 then some ⟨[0, 1, 12, 13], [⟨false, [.sl]⟩, ⟨false, [.sl]⟩, ⟨false, [.int .i64]⟩, ⟨false, [.int .i64]⟩]⟩ else none, fun _ => none⟩
noncomputable def E_60 : Ent := ⟨60, [⟨false, [.sl]⟩, ⟨false, [.sl]⟩], [⟨false, [.bool]⟩], fun (x : Sl × Sl) h => law20_same x.1 x.2 h⟩
theorem eq_60  : (fun (x : PT E_60.ps) (h : H) => runFK Go.Proofs.Ythiccnmplgdheaa.Ov.D (lstK []) ann_60 Try.f60 (Try.f60.body.getD .skip) E_60.ys (encP E_60.ps x) h) = (fun (x : Sl × Sl) h => law20_same x.1 x.2 h) := by kernel_rfl
theorem ok_60 : E_60.ok Go.Proofs.Ythiccnmplgdheaa.Ov.D := fun x h y h' e => runFK_ok (lstK_ok [] (fun E h => nomatch h)) (A := ann_60) (by kernel_rfl) (show Go.Proofs.Ythiccnmplgdheaa.Ov.D.fn.get 60 = some Try.f60 by kernel_rfl) (show Try.f60.body = some (Try.f60.body.getD .skip) by kernel_rfl) ((congrFun (congrFun (eq_60 ) x) h).trans e)
/-! order_Order_Drop -/
noncomputable def order_Order_Drop_l1 : (((Option Addr) × (Int × (Sl × (Int × Int)))) × H) → Option ((((Option Addr) × (Int × (Sl × (Int × Int)))) × H) ⊕ ((((Option Addr) × Int) × H) ⊕ (Int × H))) := fun ((o, (before, (x0, (x1, x2)))), h0) =>
  condK (decide ((x2 < x1))) (
    bindO (ixT 1 x0 x2) fun (a0 : Addr) =>
    bindO (ldI .i64 h0 a0) fun (x3 : Int) =>
    ptrK o fun (a1 : Addr) =>
    bindO (ldM h0 (add a1 0)) fun (x4 : Option Nat) =>
    bindO (delT .i64 h0 x4 x3) fun (h1 : H) =>
    some (Sum.inl ((o, (before, (x0, (x1, (IntKind.wrap .i64 (x2 + 1)))))), h1))) (
    some (Sum.inr (Sum.inl ((o, before), h0))))

noncomputable def order_Order_Drop (o : Option Addr) (ids : Sl) (h : H) : Option (Int × H) :=
  ptrK o fun (a0 : Addr) =>
  bindO (ldM h (add a0 0)) fun (x0 : Option Nat) =>
  bindO (lenMT h x0) fun (x1 : Int) =>
  joinO (
    loopO order_Order_Drop_l1 ((o, (x1, (ids, (((ids.len : Nat) : Int), 0)))), h)) fun (((o1, before), h0) : (((Option Addr) × Int) × H)) =>
  ptrK o1 fun (a1 : Addr) =>
  bindO (ldM h0 (add a1 0)) fun (x2 : Option Nat) =>
  bindO (lenMT h0 x2) fun (x3 : Int) =>
  some ((IntKind.wrap .i64 (before - x3)), h0)
noncomputable def ann_62 : Ann := ⟨fun i => bif i.beq 7 then some ⟨[0, 5], [⟨false, [.ptr]⟩, ⟨false, [.int .i64]⟩]⟩ else none, fun i => bif i.beq 3 then some ⟨[0, 5, 13, 14, 15], [⟨false, [.ptr]⟩, ⟨false, [.int .i64]⟩, ⟨false, [.sl]⟩, ⟨false, [.int .i64]⟩, ⟨false, [.int .i64]⟩]⟩ else none, fun _ => none⟩
noncomputable def E_62 : Ent := ⟨62, [⟨false, [.ptr]⟩, ⟨false, [.sl]⟩], [⟨false, [.int .i64]⟩], fun (x : Option Addr × Sl) h => order_Order_Drop x.1 x.2 h⟩
theorem eq_62  : (fun (x : PT E_62.ps) (h : H) => runFK Go.Proofs.Ythiccnmplgdheaa.Ov.D (lstK []) ann_62 Try.f62 (Try.f62.body.getD .skip) E_62.ys (encP E_62.ps x) h) = (fun (x : Option Addr × Sl) h => order_Order_Drop x.1 x.2 h) := by kernel_rfl
theorem ok_62 : E_62.ok Go.Proofs.Ythiccnmplgdheaa.Ov.D := fun x h y h' e => runFK_ok (lstK_ok [] (fun E h => nomatch h)) (A := ann_62) (by kernel_rfl) (show Go.Proofs.Ythiccnmplgdheaa.Ov.D.fn.get 62 = some Try.f62 by kernel_rfl) (show Try.f62.body = some (Try.f62.body.getD .skip) by kernel_rfl) ((congrFun (congrFun (eq_62 ) x) h).trans e)
/-! order_Order_First -/
noncomputable def P.order_Order_First (order_Order_All : Option Addr → H → Option ((Sl) × H)) (o : Option Addr) (h : H) : Option ((Int × Bool) × H) :=
  bind2 (order_Order_All o h) fun (x0 : Sl) (h0 : H) =>
  condK (((x0.len : Nat) : Int) == 0) (
    some ((0, false), h0)) (
    bindO (ixT 1 x0 0) fun (a0 : Addr) =>
    bindO (ldI .i64 h0 a0) fun (x1 : Int) =>
    some ((x1, true), h0))
noncomputable def order_Order_First : Option Addr → H → Option ((Int × Bool) × H) := P.order_Order_First order_Order_All
noncomputable def ann_64 : Ann := ⟨fun _ => none, fun _ => none, fun _ => none⟩
noncomputable def E_64 : Ent := ⟨64, [⟨false, [.ptr]⟩], [⟨false, [.int .i64]⟩, ⟨false, [.bool]⟩], fun (x : Option Addr) h => order_Order_First x h⟩
theorem eq_64 (order_Order_All : Option Addr → H → Option ((Sl) × H)) : (fun (x : PT E_64.ps) (h : H) => runFK Go.Proofs.Ythiccnmplgdheaa.Ov.D (lstK [⟨61, [⟨false, [.ptr]⟩], [⟨false, [.sl]⟩], fun (x : Option Addr) h => order_Order_All x h⟩]) ann_64 Try.f64 (Try.f64.body.getD .skip) E_64.ys (encP E_64.ps x) h) = (fun (x : Option Addr) h => P.order_Order_First order_Order_All x h) := by kernel_rfl
theorem ok_64 : E_64.ok Go.Proofs.Ythiccnmplgdheaa.Ov.D := fun x h y h' e => runFK_ok (lstK_ok [E_61] (List.forall_mem_cons.2 ⟨ok_61, fun E h => nomatch h⟩)) (A := ann_64) (by kernel_rfl) (show Go.Proofs.Ythiccnmplgdheaa.Ov.D.fn.get 64 = some Try.f64 by kernel_rfl) (show Try.f64.body = some (Try.f64.body.getD .skip) by kernel_rfl) ((congrFun (congrFun (eq_64 order_Order_All) x) h).trans e)
/-! law20_known -/
noncomputable def P.law20_known (order_Order_Put : Option Addr → Int → Int → H → Option ((Unit) × H)) (order_Order_First : Option Addr → H → Option ((Int × Bool) × H)) (order_Order_All : Option Addr → H → Option ((Sl) × H)) (law20_same : Sl → Sl → H → Option ((Bool) × H))  (h : H) : Option (Bool × H) :=
  newO (row 83 [(.map none)]) h fun (b : Nat) (h0 : H) =>
  bindO (stZ [.map] h0 (⟨b, 0, (some 0)⟩ : Addr) ((none) : Option Nat)) fun (h1 : H) =>
  bind2 (order_Order_Put (some (⟨b, 0, (some 0)⟩ : Addr)) 5 1 h1) fun (_ : Unit) (h2 : H) =>
  bind2 (order_Order_Put (some (⟨b, 0, (some 0)⟩ : Addr)) 3 2 h2) fun (_ : Unit) (h3 : H) =>
  bind2 (order_Order_First (some (⟨b, 0, (some 0)⟩ : Addr)) h3) fun ((x0, x1) : Int × Bool) (h4 : H) =>
  bind2 (order_Order_All (some (⟨b, 0, (some 0)⟩ : Addr)) h4) fun (x2 : Sl) (h5 : H) =>
  newO (row 3 [(.int .i64 2), (.int .i64 1)]) h5 fun (b1 : Nat) (h6 : H) =>
  bind2 (law20_same x2 (⟨(some (⟨b1, 0, (some 0)⟩ : Addr)), 2, 2⟩ : Sl) h6) fun (x3 : Bool) (h7 : H) =>
  condK x3 (
    condK x1 (
      some ((x0 == 2), h7)) (
      some (false, h7))) (
    some (false, h7))
noncomputable def law20_known : H → Option ((Bool) × H) := P.law20_known order_Order_Put order_Order_First order_Order_All law20_same
noncomputable def ann_63 : Ann := ⟨fun _ => none, fun _ => none, fun _ => none⟩
noncomputable def E_63 : Ent := ⟨63, [], [⟨false, [.bool]⟩], fun (x : Unit) h => law20_known h⟩
theorem eq_63 (order_Order_Put : Option Addr → Int → Int → H → Option ((Unit) × H)) (order_Order_First : Option Addr → H → Option ((Int × Bool) × H)) (order_Order_All : Option Addr → H → Option ((Sl) × H)) (law20_same : Sl → Sl → H → Option ((Bool) × H)) : (fun (x : PT E_63.ps) (h : H) => runFK Go.Proofs.Ythiccnmplgdheaa.Ov.D (lstK [⟨59, [⟨false, [.ptr]⟩, ⟨false, [.int .i64]⟩, ⟨false, [.int .i64]⟩], [], fun (x : Option Addr × Int × Int) h => order_Order_Put x.1 x.2.1 x.2.2 h⟩, ⟨64, [⟨false, [.ptr]⟩], [⟨false, [.int .i64]⟩, ⟨false, [.bool]⟩], fun (x : Option Addr) h => order_Order_First x h⟩, ⟨61, [⟨false, [.ptr]⟩], [⟨false, [.sl]⟩], fun (x : Option Addr) h => order_Order_All x h⟩, ⟨60, [⟨false, [.sl]⟩, ⟨false, [.sl]⟩], [⟨false, [.bool]⟩], fun (x : Sl × Sl) h => law20_same x.1 x.2 h⟩]) ann_63 Try.f63 (Try.f63.body.getD .skip) E_63.ys (encP E_63.ps x) h) = (fun (x : Unit) h => P.law20_known order_Order_Put order_Order_First order_Order_All law20_same  h) := by kernel_rfl
theorem ok_63 : E_63.ok Go.Proofs.Ythiccnmplgdheaa.Ov.D := fun x h y h' e => runFK_ok (lstK_ok [E_59, E_64, E_61, E_60] (List.forall_mem_cons.2 ⟨ok_59, List.forall_mem_cons.2 ⟨ok_64, List.forall_mem_cons.2 ⟨ok_61, List.forall_mem_cons.2 ⟨ok_60, fun E h => nomatch h⟩⟩⟩⟩)) (A := ann_63) (by kernel_rfl) (show Go.Proofs.Ythiccnmplgdheaa.Ov.D.fn.get 63 = some Try.f63 by kernel_rfl) (show Try.f63.body = some (Try.f63.body.getD .skip) by kernel_rfl) ((congrFun (congrFun (eq_63 order_Order_Put order_Order_First order_Order_All law20_same) x) h).trans e)
/-! order_Order_Deadline -/
noncomputable def order_Order_Deadline (o : Option Addr) (id : Int) (h : H) : Option ((Int × Bool) × H) :=
  ptrK o fun (a0 : Addr) =>
  bindO (ldM h (add a0 0)) fun (x0 : Option Nat) =>
  bindO (lookOT .i64 ⟨false, [.int .i64]⟩ (.int .i64 0) h x0 id) fun ((x1, ok) : (Int) × Bool) =>
  some ((x1, ok), h)
noncomputable def ann_65 : Ann := ⟨fun _ => none, fun _ => none, fun _ => none⟩
noncomputable def E_65 : Ent := ⟨65, [⟨false, [.ptr]⟩, ⟨false, [.int .i64]⟩], [⟨false, [.int .i64]⟩, ⟨false, [.bool]⟩], fun (x : Option Addr × Int) h => order_Order_Deadline x.1 x.2 h⟩
theorem eq_65  : (fun (x : PT E_65.ps) (h : H) => runFK Go.Proofs.Ythiccnmplgdheaa.Ov.D (lstK []) ann_65 Try.f65 (Try.f65.body.getD .skip) E_65.ys (encP E_65.ps x) h) = (fun (x : Option Addr × Int) h => order_Order_Deadline x.1 x.2 h) := by kernel_rfl
theorem ok_65 : E_65.ok Go.Proofs.Ythiccnmplgdheaa.Ov.D := fun x h y h' e => runFK_ok (lstK_ok [] (fun E h => nomatch h)) (A := ann_65) (by kernel_rfl) (show Go.Proofs.Ythiccnmplgdheaa.Ov.D.fn.get 65 = some Try.f65 by kernel_rfl) (show Try.f65.body = some (Try.f65.body.getD .skip) by kernel_rfl) ((congrFun (congrFun (eq_65 ) x) h).trans e)
/-! order_Order_Late_1 -/
noncomputable def order_Order_Late_1 (id : Int) (x0 : Option Addr) (x1 : Option Addr) (h : H) : Option (Bool × H) :=
  ptrK x0 fun (a0 : Addr) =>
  bindO (ldP h a0) fun (x2 : Option Addr) =>
  ptrK x2 fun (a1 : Addr) =>
  bindO (ldM h (add a1 0)) fun (x3 : Option Nat) =>
  bindO (lookT .i64 ⟨false, [.int .i64]⟩ (.int .i64 0) h x3 id) fun (x4 : Int) =>
  ptrK x1 fun (a2 : Addr) =>
  bindO (ldI .i64 h a2) fun (x5 : Int) =>
  some ((decide ((x4 ≥ x5))), h)
noncomputable def ann_123 : Ann := ⟨fun _ => none, fun _ => none, fun _ => none⟩
noncomputable def E_123 : Ent := ⟨123, [⟨false, [.int .i64]⟩, ⟨false, [.ptr]⟩, ⟨false, [.ptr]⟩], [⟨false, [.bool]⟩], fun (x : Int × Option Addr × Option Addr) h => order_Order_Late_1 x.1 x.2.1 x.2.2 h⟩
theorem eq_123  : (fun (x : PT E_123.ps) (h : H) => runFK Go.Proofs.Ythiccnmplgdheaa.Ov.D (lstK []) ann_123 Try.f123 (Try.f123.body.getD .skip) E_123.ys (encP E_123.ps x) h) = (fun (x : Int × Option Addr × Option Addr) h => order_Order_Late_1 x.1 x.2.1 x.2.2 h) := by kernel_rfl
theorem ok_123 : E_123.ok Go.Proofs.Ythiccnmplgdheaa.Ov.D := fun x h y h' e => runFK_ok (lstK_ok [] (fun E h => nomatch h)) (A := ann_123) (by kernel_rfl) (show Go.Proofs.Ythiccnmplgdheaa.Ov.D.fn.get 123 = some Try.f123 by kernel_rfl) (show Try.f123.body = some (Try.f123.body.getD .skip) by kernel_rfl) ((congrFun (congrFun (eq_123 ) x) h).trans e)
/-! slices_IndexFunc_int_order_Order_Late_1 -/
noncomputable def P.slices_IndexFunc_int_order_Order_Late_1_l1 (order_Order_Late_1 : Int → Option Addr → Option Addr → H → Option ((Bool) × H)) : ((Sl × (((Option Addr) × (Option Addr)) × (Int × Int))) × H) → Option (((Sl × (((Option Addr) × (Option Addr)) × (Int × Int))) × H) ⊕ (Int × H)) := fun ((s, ((f, x0), (x1, x2))), h0) =>
  condK (decide ((x2 < x1))) (
    bindO (ixT 1 s x2) fun (a0 : Addr) =>
    bindO (ldI .i64 h0 a0) fun (x3 : Int) =>
    bind2 (order_Order_Late_1 x3 f x0 h0) fun (x4 : Bool) (h1 : H) =>
    condK x4 (
      some (Sum.inr (x2, h1))) (
      some (Sum.inl ((s, ((f, x0), (x1, (IntKind.wrap .i64 (x2 + 1))))), h1)))) (
    some (Sum.inr ((-1), h0)))

noncomputable def P.slices_IndexFunc_int_order_Order_Late_1 (order_Order_Late_1 : Int → Option Addr → Option Addr → H → Option ((Bool) × H)) (s : Sl) (f : Option Addr × Option Addr) (h : H) : Option (Int × H) :=
  loopO (P.slices_IndexFunc_int_order_Order_Late_1_l1 order_Order_Late_1) ((s, ((f.1, f.2), (((s.len : Nat) : Int), 0))), h)
noncomputable abbrev slices_IndexFunc_int_order_Order_Late_1_l1 := P.slices_IndexFunc_int_order_Order_Late_1_l1 order_Order_Late_1
noncomputable def slices_IndexFunc_int_order_Order_Late_1 : Sl → (Option Addr × Option Addr) → H → Option ((Int) × H) := P.slices_IndexFunc_int_order_Order_Late_1 order_Order_Late_1
noncomputable def ann_166c123 : Ann := ⟨fun _ => none, fun i => bif i.beq 2 then some ⟨[0, 1, 7, 8], [⟨false, [.sl]⟩, ⟨false, [.clo 123 2]⟩, ⟨false, [.int .i64]⟩, ⟨false, [.int .i64]⟩]⟩ else none, fun _ => none⟩
noncomputable def E_166c123 : Ent := ⟨166, [⟨false, [.sl]⟩, ⟨false, [.clo 123 2]⟩], [⟨false, [.int .i64]⟩], fun (x : Sl × ((Option Addr × Option Addr))) h => slices_IndexFunc_int_order_Order_Late_1 x.1 x.2 h⟩
theorem eq_166c123 (order_Order_Late_1 : Int → Option Addr → Option Addr → H → Option ((Bool) × H)) : (fun (x : PT E_166c123.ps) (h : H) => runFK Go.Proofs.Ythiccnmplgdheaa.Ov.D (lstK [⟨123, [⟨false, [.int .i64]⟩, ⟨false, [.ptr]⟩, ⟨false, [.ptr]⟩], [⟨false, [.bool]⟩], fun (x : Int × Option Addr × Option Addr) h => order_Order_Late_1 x.1 x.2.1 x.2.2 h⟩]) ann_166c123 Try.f166 (Try.f166.body.getD .skip) E_166c123.ys (encP E_166c123.ps x) h) = (fun (x : Sl × ((Option Addr × Option Addr))) h => P.slices_IndexFunc_int_order_Order_Late_1 order_Order_Late_1 x.1 x.2 h) := by kernel_rfl
theorem ok_166c123 : E_166c123.ok Go.Proofs.Ythiccnmplgdheaa.Ov.D := fun x h y h' e => runFK_ok (lstK_ok [E_123] (List.forall_mem_cons.2 ⟨ok_123, fun E h => nomatch h⟩)) (A := ann_166c123) (by kernel_rfl) (show Go.Proofs.Ythiccnmplgdheaa.Ov.D.fn.get 166 = some Try.f166 by kernel_rfl) (show Try.f166.body = some (Try.f166.body.getD .skip) by kernel_rfl) ((congrFun (congrFun (eq_166c123 order_Order_Late_1) x) h).trans e)
/-! slices_DeleteFunc_int_order_Order_Late_1 -/
noncomputable def P.slices_DeleteFunc_int_order_Order_Late_1_l1 (slices_IndexFunc_int_order_Order_Late_1 : Sl → (Option Addr × Option Addr) → H → Option ((Int) × H)) (order_Order_Late_1 : Int → Option Addr → Option Addr → H → Option ((Bool) × H)) : ((Sl × (((Option Addr) × (Option Addr)) × (Int × Int))) × H) → Option (((Sl × (((Option Addr) × (Option Addr)) × (Int × Int))) × H) ⊕ (((Sl × Int) × H) ⊕ (Sl × H))) := fun ((s, ((del, i), (j, x0))), h0) =>
  condK (decide ((x0 < ((s.len : Nat) : Int)))) (
    joinO (
      bindO (ixT 1 s x0) fun (a0 : Addr) =>
      bindO (ldI .i64 h0 a0) fun (x1 : Int) =>
      bind2 (order_Order_Late_1 x1 del i h0) fun (x2 : Bool) (h1 : H) =>
      condK (!x2) (
        bindO (ixT 1 s j) fun (a1 : Addr) =>
        bindO (st1 h1 a1 (.int .i64 x1)) fun (h2 : H) =>
        some (Sum.inl ((s, ((del, i), ((IntKind.wrap .i64 (j + 1)), x0))), h2))) (
        some (Sum.inl ((s, ((del, i), (j, x0))), h1)))) fun (((s1, ((del1, i1), (j1, x1))), h1) : ((Sl × (((Option Addr) × (Option Addr)) × (Int × Int))) × H)) =>
    some (Sum.inl ((s1, ((del1, i1), (j1, (IntKind.wrap .i64 (x1 + 1))))), h1))) (
    some (Sum.inr (Sum.inl ((s, j), h0))))

noncomputable def P.slices_DeleteFunc_int_order_Order_Late_1 (slices_IndexFunc_int_order_Order_Late_1 : Sl → (Option Addr × Option Addr) → H → Option ((Int) × H)) (order_Order_Late_1 : Int → Option Addr → Option Addr → H → Option ((Bool) × H)) (s : Sl) (del : Option Addr × Option Addr) (h : H) : Option (Sl × H) :=
  bind2 (slices_IndexFunc_int_order_Order_Late_1 s (del.1, del.2) h) fun (x0 : Int) (h0 : H) =>
  condK (x0 == (-1)) (
    some (s, h0)) (
    joinO (
      loopO (P.slices_DeleteFunc_int_order_Order_Late_1_l1 slices_IndexFunc_int_order_Order_Late_1 order_Order_Late_1) ((s, ((del.1, del.2), (x0, (IntKind.wrap .i64 (x0 + 1))))), h0)) fun (((s1, i), h1) : ((Sl × Int) × H)) =>
    bindO (slT 1 h1 s1 (some i) none none) fun (x1 : Sl) =>
    bindO (clrT 1 (.int .i64 0) h1 x1) fun (h2 : H) =>
    bindO (slT 1 h2 s1 none (some i) none) fun (x2 : Sl) =>
    some (x2, h2))
noncomputable abbrev slices_DeleteFunc_int_order_Order_Late_1_l1 := P.slices_DeleteFunc_int_order_Order_Late_1_l1 slices_IndexFunc_int_order_Order_Late_1 order_Order_Late_1
noncomputable def slices_DeleteFunc_int_order_Order_Late_1 : Sl → (Option Addr × Option Addr) → H → Option ((Sl) × H) := P.slices_DeleteFunc_int_order_Order_Late_1 slices_IndexFunc_int_order_Order_Late_1 order_Order_Late_1
noncomputable def ann_122c123 : Ann := ⟨fun i => bif i.beq 6 then some ⟨[0, 1, 5, 6], [⟨false, [.sl]⟩, ⟨false, [.clo 123 2]⟩, ⟨false, [.int .i64]⟩, ⟨false, [.int .i64]⟩]⟩ else bif i.beq 11 then some ⟨[0, 5], [⟨false, [.sl]⟩, ⟨false, [.int .i64]⟩]⟩ else none, fun i => bif i.beq 5 then some ⟨[0, 1, 5, 6], [⟨false, [.sl]⟩, ⟨false, [.clo 123 2]⟩, ⟨false, [.int .i64]⟩, ⟨false, [.int .i64]⟩]⟩ else none, fun _ => none⟩
noncomputable def E_122c123 : Ent := ⟨122, [⟨false, [.sl]⟩, ⟨false, [.clo 123 2]⟩], [⟨false, [.sl]⟩], fun (x : Sl × ((Option Addr × Option Addr))) h => slices_DeleteFunc_int_order_Order_Late_1 x.1 x.2 h⟩
theorem eq_122c123 (slices_IndexFunc_int_order_Order_Late_1 : Sl → (Option Addr × Option Addr) → H → Option ((Int) × H)) (order_Order_Late_1 : Int → Option Addr → Option Addr → H → Option ((Bool) × H)) : (fun (x : PT E_122c123.ps) (h : H) => runFK Go.Proofs.Ythiccnmplgdheaa.Ov.D (lstK [⟨166, [⟨false, [.sl]⟩, ⟨false, [.clo 123 2]⟩], [⟨false, [.int .i64]⟩], fun (x : Sl × ((Option Addr × Option Addr))) h => slices_IndexFunc_int_order_Order_Late_1 x.1 x.2 h⟩, ⟨123, [⟨false, [.int .i64]⟩, ⟨false, [.ptr]⟩, ⟨false, [.ptr]⟩], [⟨false, [.bool]⟩], fun (x : Int × Option Addr × Option Addr) h => order_Order_Late_1 x.1 x.2.1 x.2.2 h⟩]) ann_122c123 Try.f122 (Try.f122.body.getD .skip) E_122c123.ys (encP E_122c123.ps x) h) = (fun (x : Sl × ((Option Addr × Option Addr))) h => P.slices_DeleteFunc_int_order_Order_Late_1 slices_IndexFunc_int_order_Order_Late_1 order_Order_Late_1 x.1 x.2 h) := by kernel_rfl
theorem ok_122c123 : E_122c123.ok Go.Proofs.Ythiccnmplgdheaa.Ov.D := fun x h y h' e => runFK_ok (lstK_ok [E_166c123, E_123] (List.forall_mem_cons.2 ⟨ok_166c123, List.forall_mem_cons.2 ⟨ok_123, fun E h => nomatch h⟩⟩)) (A := ann_122c123) (by kernel_rfl) (show Go.Proofs.Ythiccnmplgdheaa.Ov.D.fn.get 122 = some Try.f122 by kernel_rfl) (show Try.f122.body = some (Try.f122.body.getD .skip) by kernel_rfl) ((congrFun (congrFun (eq_122c123 slices_IndexFunc_int_order_Order_Late_1 order_Order_Late_1) x) h).trans e)
/-! order_Order_Late -/
noncomputable def P.order_Order_Late (order_Order_All : Option Addr → H → Option ((Sl) × H)) (slices_DeleteFunc_int_order_Order_Late_1 : Sl → (Option Addr × Option Addr) → H → Option ((Sl) × H)) (slices_Clip_int : Sl → H → Option ((Sl) × H)) (o : Option Addr) (now : Int) (h : H) : Option (Sl × H) :=
  newO (row 142 [(.pointer o)]) h fun (b : Nat) (h0 : H) =>
  newO (row 3 [(.int .i64 now)]) h0 fun (b1 : Nat) (h1 : H) =>
  bindO (ldP h1 (⟨b, 0, (some 0)⟩ : Addr)) fun (x0 : Option Addr) =>
  bind2 (order_Order_All x0 h1) fun (x1 : Sl) (h2 : H) =>
  bind2 (slices_DeleteFunc_int_order_Order_Late_1 x1 ((some (⟨b, 0, (some 0)⟩ : Addr)), (some (⟨b1, 0, (some 0)⟩ : Addr))) h2) fun (x2 : Sl) (h3 : H) =>
  bind2 (slices_Clip_int x2 h3) fun (x3 : Sl) (h4 : H) =>
  some (x3, h4)
noncomputable def order_Order_Late : Option Addr → Int → H → Option ((Sl) × H) := P.order_Order_Late order_Order_All slices_DeleteFunc_int_order_Order_Late_1 slices_Clip_int
noncomputable def ann_66 : Ann := ⟨fun _ => none, fun _ => none, fun _ => none⟩
noncomputable def E_66 : Ent := ⟨66, [⟨false, [.ptr]⟩, ⟨false, [.int .i64]⟩], [⟨false, [.sl]⟩], fun (x : Option Addr × Int) h => order_Order_Late x.1 x.2 h⟩
theorem eq_66 (order_Order_All : Option Addr → H → Option ((Sl) × H)) (slices_DeleteFunc_int_order_Order_Late_1 : Sl → (Option Addr × Option Addr) → H → Option ((Sl) × H)) (slices_Clip_int : Sl → H → Option ((Sl) × H)) : (fun (x : PT E_66.ps) (h : H) => runFK Go.Proofs.Ythiccnmplgdheaa.Ov.D (lstK [⟨61, [⟨false, [.ptr]⟩], [⟨false, [.sl]⟩], fun (x : Option Addr) h => order_Order_All x h⟩, ⟨122, [⟨false, [.sl]⟩, ⟨false, [.clo 123 2]⟩], [⟨false, [.sl]⟩], fun (x : Sl × ((Option Addr × Option Addr))) h => slices_DeleteFunc_int_order_Order_Late_1 x.1 x.2 h⟩, ⟨116, [⟨false, [.sl]⟩], [⟨false, [.sl]⟩], fun (x : Sl) h => slices_Clip_int x h⟩]) ann_66 Try.f66 (Try.f66.body.getD .skip) E_66.ys (encP E_66.ps x) h) = (fun (x : Option Addr × Int) h => P.order_Order_Late order_Order_All slices_DeleteFunc_int_order_Order_Late_1 slices_Clip_int x.1 x.2 h) := by kernel_rfl
theorem ok_66 : E_66.ok Go.Proofs.Ythiccnmplgdheaa.Ov.D := fun x h y h' e => runFK_ok (lstK_ok [E_61, E_122c123, E_116] (List.forall_mem_cons.2 ⟨ok_61, List.forall_mem_cons.2 ⟨ok_122c123, List.forall_mem_cons.2 ⟨ok_116, fun E h => nomatch h⟩⟩⟩)) (A := ann_66) (by kernel_rfl) (show Go.Proofs.Ythiccnmplgdheaa.Ov.D.fn.get 66 = some Try.f66 by kernel_rfl) (show Try.f66.body = some (Try.f66.body.getD .skip) by kernel_rfl) ((congrFun (congrFun (eq_66 order_Order_All slices_DeleteFunc_int_order_Order_Late_1 slices_Clip_int) x) h).trans e)
/-! ref18_Order_Drop -/
noncomputable def ref18_Order_Drop_l1 : (((Option Addr) × (Int × (Sl × Int))) × H) → Option ((((Option Addr) × (Int × (Sl × Int))) × H) ⊕ ((((Option Addr) × Sl) × H) ⊕ (Bool × H))) := fun ((o, (id, (out, i))), h0) =>
  ptrK o fun (a0 : Addr) =>
  bindO (ldL h0 (add a0 0)) fun (x0 : Sl) =>
  condK (decide ((i < ((x0.len : Nat) : Int)))) (
    joinO (
      ptrK o fun (a1 : Addr) =>
      bindO (ldL h0 (add a1 0)) fun (x1 : Sl) =>
      bindO (ixT 2 x1 i) fun (a2 : Addr) =>
      bindO (ldI .i64 h0 (add a2 1)) fun (x2 : Int) =>
      condK (x2 != id) (
        ptrK o fun (a3 : Addr) =>
        bindO (ldL h0 (add a3 0)) fun (x3 : Sl) =>
        bindO (ixT 2 x3 i) fun (a4 : Addr) =>
        bindO (ldZ [.int .i64, .int .i64] h0 a4) fun ((x4, x5) : Int × Int) =>
        newO (row 100 [(.int .i64 x4), (.int .i64 x5)]) h0 fun (b : Nat) (h1 : H) =>
        bind2 (appT 100 2 16 h1 out (⟨(some (⟨b, 0, (some 0)⟩ : Addr)), 1, 1⟩ : Sl)) fun (x6 : Sl) (h2 : H) =>
        some (Sum.inl ((o, (id, (x6, i))), h2))) (
        some (Sum.inl ((o, (id, (out, i))), h0)))) fun (((o1, (id1, (out1, i1))), h1) : (((Option Addr) × (Int × (Sl × Int))) × H)) =>
    some (Sum.inl ((o1, (id1, (out1, (IntKind.wrap .i64 (i1 + 1))))), h1))) (
    some (Sum.inr (Sum.inl ((o, out), h0))))

noncomputable def ref18_Order_Drop (o : Option Addr) (id : Int) (h : H) : Option (Bool × H) :=
  joinO (
    loopO ref18_Order_Drop_l1 ((o, (id, ((⟨none, 0, 0⟩ : Sl), 0))), h)) fun (((o1, out), h0) : (((Option Addr) × Sl) × H)) =>
  ptrK o1 fun (a0 : Addr) =>
  bindO (ldL h0 (add a0 0)) fun (x0 : Sl) =>
  ptrK o1 fun (a1 : Addr) =>
  bindO (st1 h0 (add a1 0) (.slice out.base out.len out.cap)) fun (h1 : H) =>
  some ((decide ((((out.len : Nat) : Int) < ((x0.len : Nat) : Int)))), h1)
noncomputable def ann_67 : Ann := ⟨fun i => bif i.beq 4 then some ⟨[0, 1, 5, 6], [⟨false, [.ptr]⟩, ⟨false, [.int .i64]⟩, ⟨false, [.sl]⟩, ⟨false, [.int .i64]⟩]⟩ else bif i.beq 7 then some ⟨[0, 5], [⟨false, [.ptr]⟩, ⟨false, [.sl]⟩]⟩ else none, fun i => bif i.beq 3 then some ⟨[0, 1, 5, 6], [⟨false, [.ptr]⟩, ⟨false, [.int .i64]⟩, ⟨false, [.sl]⟩, ⟨false, [.int .i64]⟩]⟩ else none, fun _ => none⟩
noncomputable def E_67 : Ent := ⟨67, [⟨false, [.ptr]⟩, ⟨false, [.int .i64]⟩], [⟨false, [.bool]⟩], fun (x : Option Addr × Int) h => ref18_Order_Drop x.1 x.2 h⟩
theorem eq_67  : (fun (x : PT E_67.ps) (h : H) => runFK Go.Proofs.Ythiccnmplgdheaa.Ov.D (lstK []) ann_67 Try.f67 (Try.f67.body.getD .skip) E_67.ys (encP E_67.ps x) h) = (fun (x : Option Addr × Int) h => ref18_Order_Drop x.1 x.2 h) := by kernel_rfl
theorem ok_67 : E_67.ok Go.Proofs.Ythiccnmplgdheaa.Ov.D := fun x h y h' e => runFK_ok (lstK_ok [] (fun E h => nomatch h)) (A := ann_67) (by kernel_rfl) (show Go.Proofs.Ythiccnmplgdheaa.Ov.D.fn.get 67 = some Try.f67 by kernel_rfl) (show Try.f67.body = some (Try.f67.body.getD .skip) by kernel_rfl) ((congrFun (congrFun (eq_67 ) x) h).trans e)
/-! ref18_Order_Put -/
noncomputable def P.ref18_Order_Put_l1 (ref18_Order_Drop : Option Addr → Int → H → Option ((Bool) × H)) : (((Option Addr) × (Int × (Int × (Sl × (Bool × Int))))) × H) → Option ((((Option Addr) × (Int × (Int × (Sl × (Bool × Int))))) × H) ⊕ ((((Option Addr) × (Int × (Int × (Sl × Bool)))) × H) ⊕ (PUnit × H))) := fun ((o, (deadline, (id, (out, (done, i))))), h0) =>
  ptrK o fun (a0 : Addr) =>
  bindO (ldL h0 (add a0 0)) fun (x0 : Sl) =>
  condK (decide ((i < ((x0.len : Nat) : Int)))) (
    ptrK o fun (a1 : Addr) =>
    bindO (ldL h0 (add a1 0)) fun (x1 : Sl) =>
    bindO (ixT 2 x1 i) fun (a2 : Addr) =>
    bindO (ldZ [.int .i64, .int .i64] h0 a2) fun ((x2, x3) : Int × Int) =>
    newO (row 100 [(.int .i64 0), (.int .i64 0)]) h0 fun (b : Nat) (h1 : H) =>
    bindO (stZ [.int .i64, .int .i64] h1 (⟨b, 0, (some 0)⟩ : Addr) ((x2, x3) : Int × Int)) fun (h2 : H) =>
    joinO (
      joinO (
        condK (!done) (
          bindO (ldI .i64 h2 (add (⟨b, 0, (some 0)⟩ : Addr) 0)) fun (x4 : Int) =>
          condK (decide ((deadline < x4))) (
            some (Sum.inl ((o, (deadline, (id, (out, (done, (i, ((some (⟨b, 0, (some 0)⟩ : Addr)), true))))))), h2))) (
            bindO (ldI .i64 h2 (add (⟨b, 0, (some 0)⟩ : Addr) 0)) fun (x5 : Int) =>
            condK (deadline == x5) (
              bindO (ldI .i64 h2 (add (⟨b, 0, (some 0)⟩ : Addr) 1)) fun (x6 : Int) =>
              some (Sum.inl ((o, (deadline, (id, (out, (done, (i, ((some (⟨b, 0, (some 0)⟩ : Addr)), (decide ((id < x6)))))))))), h2))) (
              some (Sum.inl ((o, (deadline, (id, (out, (done, (i, ((some (⟨b, 0, (some 0)⟩ : Addr)), false))))))), h2))))) (
          some (Sum.inl ((o, (deadline, (id, (out, (done, (i, ((some (⟨b, 0, (some 0)⟩ : Addr)), false))))))), h2)))) fun (((o1, (deadline1, (id1, (out1, (done1, (i1, (x4, x5))))))), h3) : (((Option Addr) × (Int × (Int × (Sl × (Bool × (Int × ((Option Addr) × Bool))))))) × H)) =>
      condK x5 (
        newO (row 100 [(.int .i64 deadline1), (.int .i64 id1)]) h3 fun (b1 : Nat) (h4 : H) =>
        bind2 (appT 100 2 16 h4 out1 (⟨(some (⟨b1, 0, (some 0)⟩ : Addr)), 1, 1⟩ : Sl)) fun (x6 : Sl) (h5 : H) =>
        some (Sum.inl ((o1, (deadline1, (id1, (x6, (true, (i1, x4)))))), h5))) (
        some (Sum.inl ((o1, (deadline1, (id1, (out1, (done1, (i1, x4)))))), h3)))) fun (((o1, (deadline1, (id1, (out1, (done1, (i1, x4)))))), h3) : (((Option Addr) × (Int × (Int × (Sl × (Bool × (Int × (Option Addr))))))) × H)) =>
    ptrK x4 fun (a3 : Addr) =>
    bindO (ldZ [.int .i64, .int .i64] h3 a3) fun ((x5, x6) : Int × Int) =>
    newO (row 100 [(.int .i64 x5), (.int .i64 x6)]) h3 fun (b1 : Nat) (h4 : H) =>
    bind2 (appT 100 2 16 h4 out1 (⟨(some (⟨b1, 0, (some 0)⟩ : Addr)), 1, 1⟩ : Sl)) fun (x7 : Sl) (h5 : H) =>
    some (Sum.inl ((o1, (deadline1, (id1, (x7, (done1, (IntKind.wrap .i64 (i1 + 1))))))), h5))) (
    some (Sum.inr (Sum.inl ((o, (deadline, (id, (out, done)))), h0))))

noncomputable def P.ref18_Order_Put (ref18_Order_Drop : Option Addr → Int → H → Option ((Bool) × H)) (o : Option Addr) (deadline : Int) (id : Int) (h : H) : Option (Unit × H) :=
  bind2 (ref18_Order_Drop o id h) fun (x0 : Bool) (h0 : H) =>
  joinO (
    loopO (P.ref18_Order_Put_l1 ref18_Order_Drop) ((o, (deadline, (id, ((⟨none, 0, 0⟩ : Sl), (false, 0))))), h0)) fun (((o1, (deadline1, (id1, (out, done)))), h1) : (((Option Addr) × (Int × (Int × (Sl × Bool)))) × H)) =>
  joinO (
    condK (!done) (
      newO (row 100 [(.int .i64 deadline1), (.int .i64 id1)]) h1 fun (b : Nat) (h2 : H) =>
      bind2 (appT 100 2 16 h2 out (⟨(some (⟨b, 0, (some 0)⟩ : Addr)), 1, 1⟩ : Sl)) fun (x1 : Sl) (h3 : H) =>
      some (Sum.inl ((o1, x1), h3))) (
      some (Sum.inl ((o1, out), h1)))) fun (((o2, out1), h2) : (((Option Addr) × Sl) × H)) =>
  ptrK o2 fun (a0 : Addr) =>
  bindO (st1 h2 (add a0 0) (.slice out1.base out1.len out1.cap)) fun (h3 : H) =>
  some ((), h3)
noncomputable abbrev ref18_Order_Put_l1 := P.ref18_Order_Put_l1 ref18_Order_Drop
noncomputable def ref18_Order_Put : Option Addr → Int → Int → H → Option ((Unit) × H) := P.ref18_Order_Put ref18_Order_Drop
noncomputable def ann_68 : Ann := ⟨fun i => bif i.beq 10 then some ⟨[0, 1, 2, 6, 7, 8, 9], [⟨false, [.ptr]⟩, ⟨false, [.int .i64]⟩, ⟨false, [.int .i64]⟩, ⟨false, [.sl]⟩, ⟨false, [.bool]⟩, ⟨false, [.int .i64]⟩, ⟨false, [.ptr]⟩]⟩ else bif i.beq 11 then some ⟨[0, 1, 2, 6, 7], [⟨false, [.ptr]⟩, ⟨false, [.int .i64]⟩, ⟨false, [.int .i64]⟩, ⟨false, [.sl]⟩, ⟨false, [.bool]⟩]⟩ else bif i.beq 13 then some ⟨[0, 6], [⟨false, [.ptr]⟩, ⟨false, [.sl]⟩]⟩ else none, fun i => bif i.beq 4 then some ⟨[0, 1, 2, 6, 7, 8], [⟨false, [.ptr]⟩, ⟨false, [.int .i64]⟩, ⟨false, [.int .i64]⟩, ⟨false, [.sl]⟩, ⟨false, [.bool]⟩, ⟨false, [.int .i64]⟩]⟩ else none, fun i => bif i.beq 7 then some ⟨[0, 1, 2, 6, 7, 8, 9, 48], [⟨false, [.ptr]⟩, ⟨false, [.int .i64]⟩, ⟨false, [.int .i64]⟩, ⟨false, [.sl]⟩, ⟨false, [.bool]⟩, ⟨false, [.int .i64]⟩, ⟨false, [.ptr]⟩, ⟨false, [.bool]⟩]⟩ else none⟩
noncomputable def E_68 : Ent := ⟨68, [⟨false, [.ptr]⟩, ⟨false, [.int .i64]⟩, ⟨false, [.int .i64]⟩], [], fun (x : Option Addr × Int × Int) h => ref18_Order_Put x.1 x.2.1 x.2.2 h⟩
theorem eq_68 (ref18_Order_Drop : Option Addr → Int → H → Option ((Bool) × H)) : (fun (x : PT E_68.ps) (h : H) => runFK Go.Proofs.Ythiccnmplgdheaa.Ov.D (lstK [⟨67, [⟨false, [.ptr]⟩, ⟨false, [.int .i64]⟩], [⟨false, [.bool]⟩], fun (x : Option Addr × Int) h => ref18_Order_Drop x.1 x.2 h⟩]) ann_68 Try.f68 (Try.f68.body.getD .skip) E_68.ys (encP E_68.ps x) h) = (fun (x : Option Addr × Int × Int) h => P.ref18_Order_Put ref18_Order_Drop x.1 x.2.1 x.2.2 h) := by kernel_rfl
theorem ok_68 : E_68.ok Go.Proofs.Ythiccnmplgdheaa.Ov.D := fun x h y h' e => runFK_ok (lstK_ok [E_67] (List.forall_mem_cons.2 ⟨ok_67, fun E h => nomatch h⟩)) (A := ann_68) (by kernel_rfl) (show Go.Proofs.Ythiccnmplgdheaa.Ov.D.fn.get 68 = some Try.f68 by kernel_rfl) (show Try.f68.body = some (Try.f68.body.getD .skip) by kernel_rfl) ((congrFun (congrFun (eq_68 ref18_Order_Drop) x) h).trans e)
/-! ref18_Order_Deadline -/
noncomputable def ref18_Order_Deadline_l1 : (((Option Addr) × (Int × Int)) × H) → Option ((((Option Addr) × (Int × Int)) × H) ⊕ ((PUnit × H) ⊕ ((Int × Bool) × H))) := fun ((o, (id, i)), h0) =>
  ptrK o fun (a0 : Addr) =>
  bindO (ldL h0 (add a0 0)) fun (x0 : Sl) =>
  condK (decide ((i < ((x0.len : Nat) : Int)))) (
    ptrK o fun (a1 : Addr) =>
    bindO (ldL h0 (add a1 0)) fun (x1 : Sl) =>
    bindO (ixT 2 x1 i) fun (a2 : Addr) =>
    bindO (ldI .i64 h0 (add a2 1)) fun (x2 : Int) =>
    condK (x2 == id) (
      ptrK o fun (a3 : Addr) =>
      bindO (ldL h0 (add a3 0)) fun (x3 : Sl) =>
      bindO (ixT 2 x3 i) fun (a4 : Addr) =>
      bindO (ldI .i64 h0 (add a4 0)) fun (x4 : Int) =>
      some (Sum.inr (Sum.inr ((x4, true), h0)))) (
      some (Sum.inl ((o, (id, (IntKind.wrap .i64 (i + 1)))), h0)))) (
    some (Sum.inr (Sum.inl ((), h0))))

noncomputable def ref18_Order_Deadline (o : Option Addr) (id : Int) (h : H) : Option ((Int × Bool) × H) :=
  joinO (
    loopO ref18_Order_Deadline_l1 ((o, (id, 0)), h)) fun (((), h0) : (PUnit × H)) =>
  some ((0, false), h0)
noncomputable def ann_69 : Ann := ⟨fun i => bif i.beq 6 then some ⟨[], []⟩ else none, fun i => bif i.beq 2 then some ⟨[0, 1, 6], [⟨false, [.ptr]⟩, ⟨false, [.int .i64]⟩, ⟨false, [.int .i64]⟩]⟩ else none, fun _ => none⟩
noncomputable def E_69 : Ent := ⟨69, [⟨false, [.ptr]⟩, ⟨false, [.int .i64]⟩], [⟨false, [.int .i64]⟩, ⟨false, [.bool]⟩], fun (x : Option Addr × Int) h => ref18_Order_Deadline x.1 x.2 h⟩
theorem eq_69  : (fun (x : PT E_69.ps) (h : H) => runFK Go.Proofs.Ythiccnmplgdheaa.Ov.D (lstK []) ann_69 Try.f69 (Try.f69.body.getD .skip) E_69.ys (encP E_69.ps x) h) = (fun (x : Option Addr × Int) h => ref18_Order_Deadline x.1 x.2 h) := by kernel_rfl
theorem ok_69 : E_69.ok Go.Proofs.Ythiccnmplgdheaa.Ov.D := fun x h y h' e => runFK_ok (lstK_ok [] (fun E h => nomatch h)) (A := ann_69) (by kernel_rfl) (show Go.Proofs.Ythiccnmplgdheaa.Ov.D.fn.get 69 = some Try.f69 by kernel_rfl) (show Try.f69.body = some (Try.f69.body.getD .skip) by kernel_rfl) ((congrFun (congrFun (eq_69 ) x) h).trans e)
/-! ref18_Order_All -/
noncomputable def ref18_Order_All_l1 : (((Option Addr) × (Sl × Int)) × H) → Option ((((Option Addr) × (Sl × Int)) × H) ⊕ ((Sl × H) ⊕ (Sl × H))) := fun ((o, (out, i)), h0) =>
  ptrK o fun (a0 : Addr) =>
  bindO (ldL h0 (add a0 0)) fun (x0 : Sl) =>
  condK (decide ((i < ((x0.len : Nat) : Int)))) (
    ptrK o fun (a1 : Addr) =>
    bindO (ldL h0 (add a1 0)) fun (x1 : Sl) =>
    bindO (ixT 2 x1 i) fun (a2 : Addr) =>
    bindO (ldI .i64 h0 (add a2 1)) fun (x2 : Int) =>
    newO (row 3 [(.int .i64 x2)]) h0 fun (b : Nat) (h1 : H) =>
    bind2 (appT 3 1 8 h1 out (⟨(some (⟨b, 0, (some 0)⟩ : Addr)), 1, 1⟩ : Sl)) fun (x3 : Sl) (h2 : H) =>
    some (Sum.inl ((o, (x3, (IntKind.wrap .i64 (i + 1)))), h2))) (
    some (Sum.inr (Sum.inl (out, h0))))

noncomputable def ref18_Order_All (o : Option Addr) (h : H) : Option (Sl × H) :=
  joinO (
    loopO ref18_Order_All_l1 ((o, ((⟨none, 0, 0⟩ : Sl), 0)), h)) fun ((out, h0) : (Sl × H)) =>
  some (out, h0)
noncomputable def ann_70 : Ann := ⟨fun i => bif i.beq 6 then some ⟨[3], [⟨false, [.sl]⟩]⟩ else none, fun i => bif i.beq 3 then some ⟨[0, 3, 4], [⟨false, [.ptr]⟩, ⟨false, [.sl]⟩, ⟨false, [.int .i64]⟩]⟩ else none, fun _ => none⟩
noncomputable def E_70 : Ent := ⟨70, [⟨false, [.ptr]⟩], [⟨false, [.sl]⟩], fun (x : Option Addr) h => ref18_Order_All x h⟩
theorem eq_70  : (fun (x : PT E_70.ps) (h : H) => runFK Go.Proofs.Ythiccnmplgdheaa.Ov.D (lstK []) ann_70 Try.f70 (Try.f70.body.getD .skip) E_70.ys (encP E_70.ps x) h) = (fun (x : Option Addr) h => ref18_Order_All x h) := by kernel_rfl
theorem ok_70 : E_70.ok Go.Proofs.Ythiccnmplgdheaa.Ov.D := fun x h y h' e => runFK_ok (lstK_ok [] (fun E h => nomatch h)) (A := ann_70) (by kernel_rfl) (show Go.Proofs.Ythiccnmplgdheaa.Ov.D.fn.get 70 = some Try.f70 by kernel_rfl) (show Try.f70.body = some (Try.f70.body.getD .skip) by kernel_rfl) ((congrFun (congrFun (eq_70 ) x) h).trans e)
/-! ref18_Order_Late -/
noncomputable def ref18_Order_Late_l1 : (((Option Addr) × (Int × (Sl × Int))) × H) → Option ((((Option Addr) × (Int × (Sl × Int))) × H) ⊕ ((Sl × H) ⊕ (Sl × H))) := fun ((o, (now, (out, i))), h0) =>
  ptrK o fun (a0 : Addr) =>
  bindO (ldL h0 (add a0 0)) fun (x0 : Sl) =>
  condK (decide ((i < ((x0.len : Nat) : Int)))) (
    joinO (
      ptrK o fun (a1 : Addr) =>
      bindO (ldL h0 (add a1 0)) fun (x1 : Sl) =>
      bindO (ixT 2 x1 i) fun (a2 : Addr) =>
      bindO (ldI .i64 h0 (add a2 0)) fun (x2 : Int) =>
      condK (decide ((x2 < now))) (
        ptrK o fun (a3 : Addr) =>
        bindO (ldL h0 (add a3 0)) fun (x3 : Sl) =>
        bindO (ixT 2 x3 i) fun (a4 : Addr) =>
        bindO (ldI .i64 h0 (add a4 1)) fun (x4 : Int) =>
        newO (row 3 [(.int .i64 x4)]) h0 fun (b : Nat) (h1 : H) =>
        bind2 (appT 3 1 8 h1 out (⟨(some (⟨b, 0, (some 0)⟩ : Addr)), 1, 1⟩ : Sl)) fun (x5 : Sl) (h2 : H) =>
        some (Sum.inl ((o, (now, (x5, i))), h2))) (
        some (Sum.inl ((o, (now, (out, i))), h0)))) fun (((o1, (now1, (out1, i1))), h1) : (((Option Addr) × (Int × (Sl × Int))) × H)) =>
    some (Sum.inl ((o1, (now1, (out1, (IntKind.wrap .i64 (i1 + 1))))), h1))) (
    some (Sum.inr (Sum.inl (out, h0))))

noncomputable def ref18_Order_Late (o : Option Addr) (now : Int) (h : H) : Option (Sl × H) :=
  joinO (
    loopO ref18_Order_Late_l1 ((o, (now, ((⟨none, 0, 0⟩ : Sl), 0))), h)) fun ((out, h0) : (Sl × H)) =>
  some (out, h0)
noncomputable def ann_71 : Ann := ⟨fun i => bif i.beq 4 then some ⟨[0, 1, 5, 6], [⟨false, [.ptr]⟩, ⟨false, [.int .i64]⟩, ⟨false, [.sl]⟩, ⟨false, [.int .i64]⟩]⟩ else bif i.beq 7 then some ⟨[5], [⟨false, [.sl]⟩]⟩ else none, fun i => bif i.beq 3 then some ⟨[0, 1, 5, 6], [⟨false, [.ptr]⟩, ⟨false, [.int .i64]⟩, ⟨false, [.sl]⟩, ⟨false, [.int .i64]⟩]⟩ else none, fun _ => none⟩
noncomputable def E_71 : Ent := ⟨71, [⟨false, [.ptr]⟩, ⟨false, [.int .i64]⟩], [⟨false, [.sl]⟩], fun (x : Option Addr × Int) h => ref18_Order_Late x.1 x.2 h⟩
theorem eq_71  : (fun (x : PT E_71.ps) (h : H) => runFK Go.Proofs.Ythiccnmplgdheaa.Ov.D (lstK []) ann_71 Try.f71 (Try.f71.body.getD .skip) E_71.ys (encP E_71.ps x) h) = (fun (x : Option Addr × Int) h => ref18_Order_Late x.1 x.2 h) := by kernel_rfl
theorem ok_71 : E_71.ok Go.Proofs.Ythiccnmplgdheaa.Ov.D := fun x h y h' e => runFK_ok (lstK_ok [] (fun E h => nomatch h)) (A := ann_71) (by kernel_rfl) (show Go.Proofs.Ythiccnmplgdheaa.Ov.D.fn.get 71 = some Try.f71 by kernel_rfl) (show Try.f71.body = some (Try.f71.body.getD .skip) by kernel_rfl) ((congrFun (congrFun (eq_71 ) x) h).trans e)
/-! law20_OrderTells -/
noncomputable def P.law20_OrderTells_l2 (hand_Pick : Int → Int → H → Option ((Int) × H)) (ref18_Order_Drop : Option Addr → Int → H → Option ((Bool) × H)) (order_Order_Drop : Option Addr → Sl → H → Option ((Int) × H)) (order_Order_Put : Option Addr → Int → Int → H → Option ((Unit) × H)) (ref18_Order_Put : Option Addr → Int → Int → H → Option ((Unit) × H)) (order_Order_Deadline : Option Addr → Int → H → Option ((Int × Bool) × H)) (ref18_Order_Deadline : Option Addr → Int → H → Option ((Int × Bool) × H)) (order_Order_First : Option Addr → H → Option ((Int × Bool) × H)) (order_Order_All : Option Addr → H → Option ((Sl) × H)) (ref18_Order_All : Option Addr → H → Option ((Sl) × H)) (law20_same : Sl → Sl → H → Option ((Bool) × H)) (law20_known : H → Option ((Bool) × H)) (order_Order_Late : Option Addr → Int → H → Option ((Sl) × H)) (ref18_Order_Late : Option Addr → Int → H → Option ((Sl) × H)) : ((Int × ((Option Addr) × ((Option Addr) × ((Option Addr) × (Int × (Int × (Sl × (Int × (Sl × (Int × Int)))))))))) × H) → Option (((Int × ((Option Addr) × ((Option Addr) × ((Option Addr) × (Int × (Int × (Sl × (Int × (Sl × (Int × Int)))))))))) × H) ⊕ (((Int × ((Option Addr) × ((Option Addr) × (Int × (Int × (Sl × (Sl × (Int × Int)))))))) × H) ⊕ (((Int × ((Option Addr) × ((Option Addr) × (Int × (Sl × (Int × Int)))))) × H) ⊕ (((Int × ((Option Addr) × ((Option Addr) × (Sl × (Int × Int))))) × H) ⊕ (((Int × ((Option Addr) × ((Option Addr) × (Sl × (Int × Int))))) × H) ⊕ (((Int × ((Option Addr) × (Option Addr))) × H) ⊕ (Bool × H))))))) := fun ((now, (o, (r, (x0, (id, (n, (l, (i, (x1, (x2, x3)))))))))), h0) =>
  joinO (
    ptrK x0 fun (a0 : Addr) =>
    bindO (ldL h0 (add a0 3)) fun (x4 : Sl) =>
    condK (decide ((i < ((x4.len : Nat) : Int)))) (
      some (Sum.inl ((now, (o, (r, (x0, (id, (n, (l, (i, (x1, (x2, (x3, (decide ((i < 4)))))))))))))), h0))) (
      some (Sum.inl ((now, (o, (r, (x0, (id, (n, (l, (i, (x1, (x2, (x3, false))))))))))), h0)))) fun (((now1, (o1, (r1, (x4, (id1, (n1, (l1, (i1, (x5, (x6, (x7, x8))))))))))), h1) : ((Int × ((Option Addr) × ((Option Addr) × ((Option Addr) × (Int × (Int × (Sl × (Int × (Sl × (Int × (Int × Bool))))))))))) × H)) =>
  condK x8 (
    joinO (
      ptrK x4 fun (a0 : Addr) =>
      bindO (ldL h1 (add a0 3)) fun (x9 : Sl) =>
      bindO (ixT 1 x9 i1) fun (a1 : Addr) =>
      bindO (ldI .i64 h1 a1) fun (x10 : Int) =>
      bind2 (hand_Pick x10 20 h1) fun (x11 : Int) (h2 : H) =>
      newO (row 3 [(.int .i64 (IntKind.wrap .i64 (x11 - 3)))]) h2 fun (b : Nat) (h3 : H) =>
      bind2 (appT 3 1 8 h3 l1 (⟨(some (⟨b, 0, (some 0)⟩ : Addr)), 1, 1⟩ : Sl)) fun (x12 : Sl) (h4 : H) =>
      bindO (ixT 1 x12 i1) fun (a2 : Addr) =>
      bindO (ldI .i64 h4 a2) fun (x13 : Int) =>
      bind2 (ref18_Order_Drop r1 x13 h4) fun (x14 : Bool) (h5 : H) =>
      condK x14 (
        some (Sum.inl ((now1, (o1, (r1, (x4, (id1, ((IntKind.wrap .i64 (n1 + 1)), (x12, (i1, (x5, (x6, x7)))))))))), h5))) (
        some (Sum.inl ((now1, (o1, (r1, (x4, (id1, (n1, (x12, (i1, (x5, (x6, x7)))))))))), h5)))) fun (((now2, (o2, (r2, (x9, (id2, (n2, (l2, (i2, (x10, (x11, x12)))))))))), h2) : ((Int × ((Option Addr) × ((Option Addr) × ((Option Addr) × (Int × (Int × (Sl × (Int × (Sl × (Int × Int)))))))))) × H)) =>
    some (Sum.inl ((now2, (o2, (r2, (x9, (id2, (n2, (l2, ((IntKind.wrap .i64 (i2 + 1)), (x10, (x11, x12)))))))))), h2))) (
    some (Sum.inr (Sum.inl ((now1, (o1, (r1, (id1, (n1, (l1, (x5, (x6, x7)))))))), h1))))

noncomputable def P.law20_OrderTells_l1 (hand_Pick : Int → Int → H → Option ((Int) × H)) (ref18_Order_Drop : Option Addr → Int → H → Option ((Bool) × H)) (order_Order_Drop : Option Addr → Sl → H → Option ((Int) × H)) (order_Order_Put : Option Addr → Int → Int → H → Option ((Unit) × H)) (ref18_Order_Put : Option Addr → Int → Int → H → Option ((Unit) × H)) (order_Order_Deadline : Option Addr → Int → H → Option ((Int × Bool) × H)) (ref18_Order_Deadline : Option Addr → Int → H → Option ((Int × Bool) × H)) (order_Order_First : Option Addr → H → Option ((Int × Bool) × H)) (order_Order_All : Option Addr → H → Option ((Sl) × H)) (ref18_Order_All : Option Addr → H → Option ((Sl) × H)) (law20_same : Sl → Sl → H → Option ((Bool) × H)) (law20_known : H → Option ((Bool) × H)) (order_Order_Late : Option Addr → Int → H → Option ((Sl) × H)) (ref18_Order_Late : Option Addr → Int → H → Option ((Sl) × H)) : ((Int × ((Option Addr) × ((Option Addr) × (Sl × (Int × Int))))) × H) → Option (((Int × ((Option Addr) × ((Option Addr) × (Sl × (Int × Int))))) × H) ⊕ (((Int × ((Option Addr) × (Option Addr))) × H) ⊕ (Bool × H))) := fun ((now, (o, (r, (x0, (x1, x2))))), h0) =>
  condK (decide ((x2 < x1))) (
    joinO (
      bindO (ixT 4 x0 x2) fun (a0 : Addr) =>
      bindO (ldZ [.int .i64, .int .i64, .int .i64, .sl] h0 a0) fun ((x3, x4, x5, x6) : Int × Int × Int × Sl) =>
      newO (row 86 [(.int .i64 0), (.int .i64 0), (.int .i64 0), (.slice none 0 0)]) h0 fun (b : Nat) (h1 : H) =>
      bindO (stZ [.int .i64, .int .i64, .int .i64, .sl] h1 (⟨b, 0, (some 0)⟩ : Addr) ((x3, x4, x5, x6) : Int × Int × Int × Sl)) fun (h2 : H) =>
      bindO (ldI .i64 h2 (add (⟨b, 0, (some 0)⟩ : Addr) 1)) fun (x7 : Int) =>
      bind2 (hand_Pick x7 20 h2) fun (x8 : Int) (h3 : H) =>
      joinO (
        bindO (ldI .i64 h3 (add (⟨b, 0, (some 0)⟩ : Addr) 0)) fun (x9 : Int) =>
        bind2 (hand_Pick x9 4 h3) fun (x10 : Int) (h4 : H) =>
        condK (x10 == 0) (
          joinO (
            loopO (P.law20_OrderTells_l2 hand_Pick ref18_Order_Drop order_Order_Drop order_Order_Put ref18_Order_Put order_Order_Deadline ref18_Order_Deadline order_Order_First order_Order_All ref18_Order_All law20_same law20_known order_Order_Late ref18_Order_Late) ((now, (o, (r, ((some (⟨b, 0, (some 0)⟩ : Addr)), ((IntKind.wrap .i64 (x8 - 3)), (0, ((⟨none, 0, 0⟩ : Sl), (0, (x0, (x1, x2)))))))))), h4)) fun (((now1, (o1, (r1, (id, (n, (l, (x11, (x12, x13)))))))), h5) : ((Int × ((Option Addr) × ((Option Addr) × (Int × (Int × (Sl × (Sl × (Int × Int)))))))) × H)) =>
          bind2 (order_Order_Drop o1 l h5) fun (x14 : Int) (h6 : H) =>
          condK (x14 != n) (
            some (Sum.inr (Sum.inr (Sum.inr (Sum.inr (false, h6)))))) (
            some (Sum.inl ((now1, (o1, (r1, (id, (x11, (x12, x13)))))), h6)))) (
          bindO (ldI .i64 h4 (add (⟨b, 0, (some 0)⟩ : Addr) 2)) fun (x15 : Int) =>
          bind2 (hand_Pick x15 30 h4) fun (x16 : Int) (h7 : H) =>
          joinO (
            bindO (ldI .i64 h7 (add (⟨b, 0, (some 0)⟩ : Addr) 2)) fun (x17 : Int) =>
            bind2 (hand_Pick x17 13 h7) fun (x18 : Int) (h8 : H) =>
            condK (x18 == 12) (
              bindO (ldI .i64 h8 (add (⟨b, 0, (some 0)⟩ : Addr) 2)) fun (x19 : Int) =>
              some (Sum.inl ((now, (o, (r, ((IntKind.wrap .i64 (x8 - 3)), (x19, (x0, (x1, x2))))))), h8))) (
              some (Sum.inl ((now, (o, (r, ((IntKind.wrap .i64 (x8 - 3)), (x16, (x0, (x1, x2))))))), h8)))) fun (((now2, (o2, (r2, (id1, (d, (x17, (x18, x19))))))), h8) : ((Int × ((Option Addr) × ((Option Addr) × (Int × (Int × (Sl × (Int × Int))))))) × H)) =>
          bind2 (order_Order_Put o2 d id1 h8) fun (_ : Unit) (h9 : H) =>
          bind2 (ref18_Order_Put r2 d id1 h9) fun (_ : Unit) (h10 : H) =>
          some (Sum.inl ((now2, (o2, (r2, (id1, (x17, (x18, x19)))))), h10)))) fun (((now1, (o1, (r1, (id, (x9, (x10, x11)))))), h4) : ((Int × ((Option Addr) × ((Option Addr) × (Int × (Sl × (Int × Int)))))) × H)) =>
      bind2 (order_Order_Deadline o1 id h4) fun ((x12, x13) : Int × Bool) (h5 : H) =>
      bind2 (ref18_Order_Deadline r1 id h5) fun ((x14, x15) : Int × Bool) (h6 : H) =>
      bind2 (order_Order_First o1 h6) fun ((x16, x17) : Int × Bool) (h7 : H) =>
      joinO (
        condK (x12 != x14) (
          some (Sum.inl ((now1, (o1, (r1, (x9, (x10, (x11, true)))))), h7))) (
          condK (!(x13 == x15)) (
            some (Sum.inl ((now1, (o1, (r1, (x9, (x10, (x11, true)))))), h7))) (
            ptrK r1 fun (a1 : Addr) =>
            bindO (ldL h7 (add a1 0)) fun (x18 : Sl) =>
            condK (!(x17 == (decide ((((x18.len : Nat) : Int) > 0))))) (
              some (Sum.inl ((now1, (o1, (r1, (x9, (x10, (x11, true)))))), h7))) (
              condK x17 (
                ptrK r1 fun (a2 : Addr) =>
                bindO (ldL h7 (add a2 0)) fun (x19 : Sl) =>
                bindO (ixT 2 x19 0) fun (a3 : Addr) =>
                bindO (ldI .i64 h7 (add a3 1)) fun (x20 : Int) =>
                condK (x16 != x20) (
                  some (Sum.inl ((now1, (o1, (r1, (x9, (x10, (x11, true)))))), h7))) (
                  bind2 (order_Order_All o1 h7) fun (x21 : Sl) (h8 : H) =>
                  bind2 (ref18_Order_All r1 h8) fun (x22 : Sl) (h9 : H) =>
                  bind2 (law20_same x21 x22 h9) fun (x23 : Bool) (h10 : H) =>
                  some (Sum.inl ((now1, (o1, (r1, (x9, (x10, (x11, (!x23))))))), h10)))) (
                bind2 (order_Order_All o1 h7) fun (x24 : Sl) (h11 : H) =>
                bind2 (ref18_Order_All r1 h11) fun (x25 : Sl) (h12 : H) =>
                bind2 (law20_same x24 x25 h12) fun (x26 : Bool) (h13 : H) =>
                some (Sum.inl ((now1, (o1, (r1, (x9, (x10, (x11, (!x26))))))), h13))))))) fun (((now2, (o2, (r2, (x18, (x19, (x20, x21)))))), h8) : ((Int × ((Option Addr) × ((Option Addr) × (Sl × (Int × (Int × Bool)))))) × H)) =>
      condK x21 (
        some (Sum.inr (Sum.inr (Sum.inr (false, h8))))) (
        some (Sum.inl ((now2, (o2, (r2, (x18, (x19, x20))))), h8)))) fun (((now1, (o1, (r1, (x3, (x4, x5))))), h1) : ((Int × ((Option Addr) × ((Option Addr) × (Sl × (Int × Int))))) × H)) =>
    some (Sum.inl ((now1, (o1, (r1, (x3, (x4, (IntKind.wrap .i64 (x5 + 1))))))), h1))) (
    some (Sum.inr (Sum.inl ((now, (o, r)), h0))))

noncomputable def P.law20_OrderTells (hand_Pick : Int → Int → H → Option ((Int) × H)) (ref18_Order_Drop : Option Addr → Int → H → Option ((Bool) × H)) (order_Order_Drop : Option Addr → Sl → H → Option ((Int) × H)) (order_Order_Put : Option Addr → Int → Int → H → Option ((Unit) × H)) (ref18_Order_Put : Option Addr → Int → Int → H → Option ((Unit) × H)) (order_Order_Deadline : Option Addr → Int → H → Option ((Int × Bool) × H)) (ref18_Order_Deadline : Option Addr → Int → H → Option ((Int × Bool) × H)) (order_Order_First : Option Addr → H → Option ((Int × Bool) × H)) (order_Order_All : Option Addr → H → Option ((Sl) × H)) (ref18_Order_All : Option Addr → H → Option ((Sl) × H)) (law20_same : Sl → Sl → H → Option ((Bool) × H)) (law20_known : H → Option ((Bool) × H)) (order_Order_Late : Option Addr → Int → H → Option ((Sl) × H)) (ref18_Order_Late : Option Addr → Int → H → Option ((Sl) × H)) (calls : Sl) (now : Int) (h : H) : Option (Bool × H) :=
  newO (row 83 [(.map none)]) h fun (b : Nat) (h0 : H) =>
  bindO (stZ [.map] h0 (⟨b, 0, (some 0)⟩ : Addr) ((none) : Option Nat)) fun (h1 : H) =>
  newO (row 98 [(.slice none 0 0)]) h1 fun (b1 : Nat) (h2 : H) =>
  bindO (stZ [.sl] h2 (⟨b1, 0, (some 0)⟩ : Addr) (((⟨none, 0, 0⟩ : Sl)) : Sl)) fun (h3 : H) =>
  joinO (
    loopO (P.law20_OrderTells_l1 hand_Pick ref18_Order_Drop order_Order_Drop order_Order_Put ref18_Order_Put order_Order_Deadline ref18_Order_Deadline order_Order_First order_Order_All ref18_Order_All law20_same law20_known order_Order_Late ref18_Order_Late) ((now, ((some (⟨b, 0, (some 0)⟩ : Addr)), ((some (⟨b1, 0, (some 0)⟩ : Addr)), (calls, (((calls.len : Nat) : Int), 0))))), h3)) fun (((now1, (o, r)), h4) : ((Int × ((Option Addr) × (Option Addr))) × H)) =>
  bind2 (law20_known h4) fun (x0 : Bool) (h5 : H) =>
  condK x0 (
    bind2 (order_Order_Late o now1 h5) fun (x1 : Sl) (h6 : H) =>
    bind2 (ref18_Order_Late r now1 h6) fun (x2 : Sl) (h7 : H) =>
    bind2 (law20_same x1 x2 h7) fun (x3 : Bool) (h8 : H) =>
    condK x3 (
      bind2 (hand_Pick now1 40 h8) fun (x4 : Int) (h9 : H) =>
      bind2 (order_Order_Late o x4 h9) fun (x5 : Sl) (h10 : H) =>
      bind2 (hand_Pick now1 40 h10) fun (x6 : Int) (h11 : H) =>
      bind2 (ref18_Order_Late r x6 h11) fun (x7 : Sl) (h12 : H) =>
      bind2 (law20_same x5 x7 h12) fun (x8 : Bool) (h13 : H) =>
      some (x8, h13)) (
      some (false, h8))) (
    some (false, h5))
noncomputable abbrev law20_OrderTells_l2 := P.law20_OrderTells_l2 hand_Pick ref18_Order_Drop order_Order_Drop order_Order_Put ref18_Order_Put order_Order_Deadline ref18_Order_Deadline order_Order_First order_Order_All ref18_Order_All law20_same law20_known order_Order_Late ref18_Order_Late
noncomputable abbrev law20_OrderTells_l1 := P.law20_OrderTells_l1 hand_Pick ref18_Order_Drop order_Order_Drop order_Order_Put ref18_Order_Put order_Order_Deadline ref18_Order_Deadline order_Order_First order_Order_All ref18_Order_All law20_same law20_known order_Order_Late ref18_Order_Late
noncomputable def law20_OrderTells : Sl → Int → H → Option ((Bool) × H) := P.law20_OrderTells hand_Pick ref18_Order_Drop order_Order_Drop order_Order_Put ref18_Order_Put order_Order_Deadline ref18_Order_Deadline order_Order_First order_Order_All ref18_Order_All law20_same law20_known order_Order_Late ref18_Order_Late
noncomputable def ann_15 : Ann := ⟨fun i => bif i.beq 12 then some ⟨[1, 5, 6, 8, 9, 10, 11, 12, 22, 23, 24], [⟨false, [.int .i64]⟩, ⟨false, [.ptr]⟩, ⟨false, [.ptr]⟩, ⟨false, [.ptr]⟩, ⟨false, [.int .i64]⟩, ⟨false, [.int .i64]⟩, ⟨false, [.sl]⟩, ⟨false, [.int .i64]⟩, ⟨false, [.sl]⟩, ⟨false, [.int .i64]⟩, ⟨false, [.int .i64]⟩]⟩ else bif i.beq 16 then some ⟨[1, 5, 6, 9, 10, 11, 22, 23, 24], [⟨false, [.int .i64]⟩, ⟨false, [.ptr]⟩, ⟨false, [.ptr]⟩, ⟨false, [.int .i64]⟩, ⟨false, [.int .i64]⟩, ⟨false, [.sl]⟩, ⟨false, [.sl]⟩, ⟨false, [.int .i64]⟩, ⟨false, [.int .i64]⟩]⟩ else bif i.beq 21 then some ⟨[1, 5, 6, 9, 13, 22, 23, 24], [⟨false, [.int .i64]⟩, ⟨false, [.ptr]⟩, ⟨false, [.ptr]⟩, ⟨false, [.int .i64]⟩, ⟨false, [.int .i64]⟩, ⟨false, [.sl]⟩, ⟨false, [.int .i64]⟩, ⟨false, [.int .i64]⟩]⟩ else bif i.beq 23 then some ⟨[1, 5, 6, 9, 22, 23, 24], [⟨false, [.int .i64]⟩, ⟨false, [.ptr]⟩, ⟨false, [.ptr]⟩, ⟨false, [.int .i64]⟩, ⟨false, [.sl]⟩, ⟨false, [.int .i64]⟩, ⟨false, [.int .i64]⟩]⟩ else bif i.beq 28 then some ⟨[1, 5, 6, 22, 23, 24], [⟨false, [.int .i64]⟩, ⟨false, [.ptr]⟩, ⟨false, [.ptr]⟩, ⟨false, [.sl]⟩, ⟨false, [.int .i64]⟩, ⟨false, [.int .i64]⟩]⟩ else bif i.beq 29 then some ⟨[1, 5, 6], [⟨false, [.int .i64]⟩, ⟨false, [.ptr]⟩, ⟨false, [.ptr]⟩]⟩ else none, fun i => bif i.beq 4 then some ⟨[1, 5, 6, 22, 23, 24], [⟨false, [.int .i64]⟩, ⟨false, [.ptr]⟩, ⟨false, [.ptr]⟩, ⟨false, [.sl]⟩, ⟨false, [.int .i64]⟩, ⟨false, [.int .i64]⟩]⟩ else bif i.beq 11 then some ⟨[1, 5, 6, 8, 9, 10, 11, 12, 22, 23, 24], [⟨false, [.int .i64]⟩, ⟨false, [.ptr]⟩, ⟨false, [.ptr]⟩, ⟨false, [.ptr]⟩, ⟨false, [.int .i64]⟩, ⟨false, [.int .i64]⟩, ⟨false, [.sl]⟩, ⟨false, [.int .i64]⟩, ⟨false, [.sl]⟩, ⟨false, [.int .i64]⟩, ⟨false, [.int .i64]⟩]⟩ else none, fun i => bif i.beq 11 then some ⟨[1, 5, 6, 8, 9, 10, 11, 12, 22, 23, 24, 44], [⟨false, [.int .i64]⟩, ⟨false, [.ptr]⟩, ⟨false, [.ptr]⟩, ⟨false, [.ptr]⟩, ⟨false, [.int .i64]⟩, ⟨false, [.int .i64]⟩, ⟨false, [.sl]⟩, ⟨false, [.int .i64]⟩, ⟨false, [.sl]⟩, ⟨false, [.int .i64]⟩, ⟨false, [.int .i64]⟩, ⟨false, [.bool]⟩]⟩ else bif i.beq 26 then some ⟨[1, 5, 6, 22, 23, 24, 130], [⟨false, [.int .i64]⟩, ⟨false, [.ptr]⟩, ⟨false, [.ptr]⟩, ⟨false, [.sl]⟩, ⟨false, [.int .i64]⟩, ⟨false, [.int .i64]⟩, ⟨false, [.bool]⟩]⟩ else none⟩
noncomputable def E_15 : Ent := ⟨15, [⟨false, [.sl]⟩, ⟨false, [.int .i64]⟩], [⟨false, [.bool]⟩], fun (x : Sl × Int) h => law20_OrderTells x.1 x.2 h⟩
theorem eq_15 (hand_Pick : Int → Int → H → Option ((Int) × H)) (ref18_Order_Drop : Option Addr → Int → H → Option ((Bool) × H)) (order_Order_Drop : Option Addr → Sl → H → Option ((Int) × H)) (order_Order_Put : Option Addr → Int → Int → H → Option ((Unit) × H)) (ref18_Order_Put : Option Addr → Int → Int → H → Option ((Unit) × H)) (order_Order_Deadline : Option Addr → Int → H → Option ((Int × Bool) × H)) (ref18_Order_Deadline : Option Addr → Int → H → Option ((Int × Bool) × H)) (order_Order_First : Option Addr → H → Option ((Int × Bool) × H)) (order_Order_All : Option Addr → H → Option ((Sl) × H)) (ref18_Order_All : Option Addr → H → Option ((Sl) × H)) (law20_same : Sl → Sl → H → Option ((Bool) × H)) (law20_known : H → Option ((Bool) × H)) (order_Order_Late : Option Addr → Int → H → Option ((Sl) × H)) (ref18_Order_Late : Option Addr → Int → H → Option ((Sl) × H)) : (fun (x : PT E_15.ps) (h : H) => runFK Go.Proofs.Ythiccnmplgdheaa.Ov.D (lstK [⟨24, [⟨false, [.int .i64]⟩, ⟨false, [.int .i64]⟩], [⟨false, [.int .i64]⟩], fun (x : Int × Int) h => hand_Pick x.1 x.2 h⟩, ⟨67, [⟨false, [.ptr]⟩, ⟨false, [.int .i64]⟩], [⟨false, [.bool]⟩], fun (x : Option Addr × Int) h => ref18_Order_Drop x.1 x.2 h⟩, ⟨62, [⟨false, [.ptr]⟩, ⟨false, [.sl]⟩], [⟨false, [.int .i64]⟩], fun (x : Option Addr × Sl) h => order_Order_Drop x.1 x.2 h⟩, ⟨59, [⟨false, [.ptr]⟩, ⟨false, [.int .i64]⟩, ⟨false, [.int .i64]⟩], [], fun (x : Option Addr × Int × Int) h => order_Order_Put x.1 x.2.1 x.2.2 h⟩, ⟨68, [⟨false, [.ptr]⟩, ⟨false, [.int .i64]⟩, ⟨false, [.int .i64]⟩], [], fun (x : Option Addr × Int × Int) h => ref18_Order_Put x.1 x.2.1 x.2.2 h⟩, ⟨65, [⟨false, [.ptr]⟩, ⟨false, [.int .i64]⟩], [⟨false, [.int .i64]⟩, ⟨false, [.bool]⟩], fun (x : Option Addr × Int) h => order_Order_Deadline x.1 x.2 h⟩, ⟨69, [⟨false, [.ptr]⟩, ⟨false, [.int .i64]⟩], [⟨false, [.int .i64]⟩, ⟨false, [.bool]⟩], fun (x : Option Addr × Int) h => ref18_Order_Deadline x.1 x.2 h⟩, ⟨64, [⟨false, [.ptr]⟩], [⟨false, [.int .i64]⟩, ⟨false, [.bool]⟩], fun (x : Option Addr) h => order_Order_First x h⟩, ⟨61, [⟨false, [.ptr]⟩], [⟨false, [.sl]⟩], fun (x : Option Addr) h => order_Order_All x h⟩, ⟨70, [⟨false, [.ptr]⟩], [⟨false, [.sl]⟩], fun (x : Option Addr) h => ref18_Order_All x h⟩, ⟨60, [⟨false, [.sl]⟩, ⟨false, [.sl]⟩], [⟨false, [.bool]⟩], fun (x : Sl × Sl) h => law20_same x.1 x.2 h⟩, ⟨63, [], [⟨false, [.bool]⟩], fun (x : Unit) h => law20_known h⟩, ⟨66, [⟨false, [.ptr]⟩, ⟨false, [.int .i64]⟩], [⟨false, [.sl]⟩], fun (x : Option Addr × Int) h => order_Order_Late x.1 x.2 h⟩, ⟨71, [⟨false, [.ptr]⟩, ⟨false, [.int .i64]⟩], [⟨false, [.sl]⟩], fun (x : Option Addr × Int) h => ref18_Order_Late x.1 x.2 h⟩]) ann_15 Try.f15 (Try.f15.body.getD .skip) E_15.ys (encP E_15.ps x) h) = (fun (x : Sl × Int) h => P.law20_OrderTells hand_Pick ref18_Order_Drop order_Order_Drop order_Order_Put ref18_Order_Put order_Order_Deadline ref18_Order_Deadline order_Order_First order_Order_All ref18_Order_All law20_same law20_known order_Order_Late ref18_Order_Late x.1 x.2 h) := by kernel_rfl
theorem ok_15 : E_15.ok Go.Proofs.Ythiccnmplgdheaa.Ov.D := fun x h y h' e => runFK_ok (lstK_ok [E_24, E_67, E_62, E_59, E_68, E_65, E_69, E_64, E_61, E_70, E_60, E_63, E_66, E_71] (List.forall_mem_cons.2 ⟨ok_24, List.forall_mem_cons.2 ⟨ok_67, List.forall_mem_cons.2 ⟨ok_62, List.forall_mem_cons.2 ⟨ok_59, List.forall_mem_cons.2 ⟨ok_68, List.forall_mem_cons.2 ⟨ok_65, List.forall_mem_cons.2 ⟨ok_69, List.forall_mem_cons.2 ⟨ok_64, List.forall_mem_cons.2 ⟨ok_61, List.forall_mem_cons.2 ⟨ok_70, List.forall_mem_cons.2 ⟨ok_60, List.forall_mem_cons.2 ⟨ok_63, List.forall_mem_cons.2 ⟨ok_66, List.forall_mem_cons.2 ⟨ok_71, fun E h => nomatch h⟩⟩⟩⟩⟩⟩⟩⟩⟩⟩⟩⟩⟩⟩)) (A := ann_15) (by kernel_rfl) (show Go.Proofs.Ythiccnmplgdheaa.Ov.D.fn.get 15 = some Try.f15 by kernel_rfl) (show Try.f15.body = some (Try.f15.body.getD .skip) by kernel_rfl) ((congrFun (congrFun (eq_15 hand_Pick ref18_Order_Drop order_Order_Drop order_Order_Put ref18_Order_Put order_Order_Deadline ref18_Order_Deadline order_Order_First order_Order_All ref18_Order_All law20_same law20_known order_Order_Late ref18_Order_Late) x) h).trans e)
end Go.Proofs.Ythiccnmplgdheaa.T
