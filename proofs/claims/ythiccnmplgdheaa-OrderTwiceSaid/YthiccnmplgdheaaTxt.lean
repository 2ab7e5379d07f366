/- The typed texts of the program's functions, printed by a program of this session (wip/KPrint.lean) out of the machine's own definitions; each is the machine's own run, by the kernel's reduction. -/
import Derived.Test.YthiccnmplgdheaaOv
import Derived.KernelRfl
set_option linter.unusedVariables false
set_option maxRecDepth 1000000
namespace Go.Proofs.Ythiccnmplgdheaa.T
open Go Go.Abs Go.Proofs
/-! hand_Pick -/
noncomputable def hand_Pick (n : Int) (m : Int) (h : H) : Option (Int × H) :=
  bindO (remT .i64 n m) fun (x0 : Int) =>
  joinO (
    condK (decide ((x0 < 0))) (
      some (Sum.inl ((IntKind.wrap .i64 (x0 + m)), h))) (
      some (Sum.inl (x0, h)))) fun ((n1, h0) : (Int × H)) =>
  some (n1, h0)
noncomputable def ann_24 : Ann := ⟨fun i => bif i.beq 4 then some ⟨[0], [⟨false, [.int .i64]⟩]⟩ else none, fun _ => none, fun _ => none⟩
noncomputable def E_24 : Ent := ⟨24, [⟨false, [.int .i64]⟩, ⟨false, [.int .i64]⟩], [⟨false, [.int .i64]⟩], fun (x : Int × Int) h => hand_Pick x.1 x.2 h⟩
theorem eq_24  : (fun (x : PT E_24.ps) (h : H) => runFK Go.Proofs.Ythiccnmplgdheaa.Ov.D (lstK []) ann_24 Try.f24 (Try.f24.body.getD .skip) E_24.ys (encP E_24.ps x) h) = (fun (x : Int × Int) h => hand_Pick x.1 x.2 h) := by kernel_rfl
theorem ok_24 : E_24.ok Go.Proofs.Ythiccnmplgdheaa.Ov.D := fun x h y h' e => runFK_ok (lstK_ok [] (fun E h => nomatch h)) (A := ann_24) (by kernel_rfl) (show Go.Proofs.Ythiccnmplgdheaa.Ov.D.fn.get 24 = some Try.f24 by kernel_rfl) (show Try.f24.body = some (Try.f24.body.getD .skip) by kernel_rfl) ((congrFun (congrFun (eq_24 ) x) h).trans e)
/-! slices_Clip_int -/
noncomputable def slices_Clip_int (s : Sl) (h : H) : Option (Sl × H) :=
  bindO (slT 1 h s none (some ((s.len : Nat) : Int)) (some ((s.len : Nat) : Int))) fun (x0 : Sl) =>
  some (x0, h)
noncomputable def ann_116 : Ann := ⟨fun _ => none, fun _ => none, fun _ => none⟩
noncomputable def E_116 : Ent := ⟨116, [⟨false, [.sl]⟩], [⟨false, [.sl]⟩], fun (x : Sl) h => slices_Clip_int x h⟩
theorem eq_116  : (fun (x : PT E_116.ps) (h : H) => runFK Go.Proofs.Ythiccnmplgdheaa.Ov.D (lstK []) ann_116 Try.f116 (Try.f116.body.getD .skip) E_116.ys (encP E_116.ps x) h) = (fun (x : Sl) h => slices_Clip_int x h) := by kernel_rfl
theorem ok_116 : E_116.ok Go.Proofs.Ythiccnmplgdheaa.Ov.D := fun x h y h' e => runFK_ok (lstK_ok [] (fun E h => nomatch h)) (A := ann_116) (by kernel_rfl) (show Go.Proofs.Ythiccnmplgdheaa.Ov.D.fn.get 116 = some Try.f116 by kernel_rfl) (show Try.f116.body = some (Try.f116.body.getD .skip) by kernel_rfl) ((congrFun (congrFun (eq_116 ) x) h).trans e)
/-! order_Order_Put -/
noncomputable def order_Order_Put (o : Option Addr) (deadline : Int) (id : Int) (h : H) : Option (Unit × H) :=
  joinO (
    ptrK o fun (a0 : Addr) =>
    bindO (ldM h (add a0 0)) fun (x0 : Option Nat) =>
    bindO (eqMT x0 none) fun (x1 : Bool) =>
    condK x1 (
      newO (.map []) h fun (b : Nat) (h0 : H) =>
      ptrK o fun (a1 : Addr) =>
      bindO (st1 h0 (add a1 0) (.map (some b))) fun (h1 : H) =>
      some (Sum.inl ((o, (deadline, id)), h1))) (
      some (Sum.inl ((o, (deadline, id)), h)))) fun (((o1, (deadline1, id1)), h0) : (((Option Addr) × (Int × Int)) × H)) =>
  ptrK o1 fun (a0 : Addr) =>
  bindO (ldM h0 (add a0 0)) fun (x0 : Option Nat) =>
  bindO (updT .i64 ⟨false, [.int .i64]⟩ h0 x0 id1 ((deadline1) : Int)) fun (h1 : H) =>
  some ((), h1)
noncomputable def ann_59 : Ann := ⟨fun i => bif i.beq 2 then some ⟨[0, 1, 2], [⟨false, [.ptr]⟩, ⟨false, [.int .i64]⟩, ⟨false, [.int .i64]⟩]⟩ else none, fun _ => none, fun _ => none⟩
noncomputable def E_59 : Ent := ⟨59, [⟨false, [.ptr]⟩, ⟨false, [.int .i64]⟩, ⟨false, [.int .i64]⟩], [], fun (x : Option Addr × Int × Int) h => order_Order_Put x.1 x.2.1 x.2.2 h⟩
theorem eq_59  : (fun (x : PT E_59.ps) (h : H) => runFK Go.Proofs.Ythiccnmplgdheaa.Ov.D (lstK []) ann_59 Try.f59 (Try.f59.body.getD .skip) E_59.ys (encP E_59.ps x) h) = (fun (x : Option Addr × Int × Int) h => order_Order_Put x.1 x.2.1 x.2.2 h) := by kernel_rfl
theorem ok_59 : E_59.ok Go.Proofs.Ythiccnmplgdheaa.Ov.D := fun x h y h' e => runFK_ok (lstK_ok [] (fun E h => nomatch h)) (A := ann_59) (by kernel_rfl) (show Go.Proofs.Ythiccnmplgdheaa.Ov.D.fn.get 59 = some Try.f59 by kernel_rfl) (show Try.f59.body = some (Try.f59.body.getD .skip) by kernel_rfl) ((congrFun (congrFun (eq_59 ) x) h).trans e)
/-! maps_Keys_map_int_int_int_int -/
noncomputable def maps_Keys_map_int_int_int_int (m : Option Nat) (h : H) : Option (Value × H) :=
  newO (row 81 [(.map m)]) h fun (b : Nat) (h0 : H) =>
  some ((.func (.func 164) #[] #[(.pointer (some (⟨b, 0, (some 0)⟩ : Addr)))]), h0)
noncomputable def ann_118 : Ann := ⟨fun _ => none, fun _ => none, fun _ => none⟩
noncomputable def E_118 : Ent := ⟨118, [⟨false, [.map]⟩], [⟨false, [.any]⟩], fun (x : Option Nat) h => maps_Keys_map_int_int_int_int x h⟩
theorem eq_118  : (fun (x : PT E_118.ps) (h : H) => runFK Go.Proofs.Ythiccnmplgdheaa.Ov.D (lstK []) ann_118 Try.f118 (Try.f118.body.getD .skip) E_118.ys (encP E_118.ps x) h) = (fun (x : Option Nat) h => maps_Keys_map_int_int_int_int x h) := by kernel_rfl
theorem ok_118 : E_118.ok Go.Proofs.Ythiccnmplgdheaa.Ov.D := fun x h y h' e => runFK_ok (lstK_ok [] (fun E h => nomatch h)) (A := ann_118) (by kernel_rfl) (show Go.Proofs.Ythiccnmplgdheaa.Ov.D.fn.get 118 = some Try.f118 by kernel_rfl) (show Try.f118.body = some (Try.f118.body.getD .skip) by kernel_rfl) ((congrFun (congrFun (eq_118 ) x) h).trans e)
/-! slices_SortedFunc_int_order_Order_All_1 (told by an override) -/
noncomputable def slices_SortedFunc_int_order_Order_All_1 : Value → Option Addr → H → Option ((Sl) × H) := fun s c1 h => slO (Go.Proofs.Ythiccnmplgdheaa.Ov.ov117 [s, (Z.enc (.clo 119 1) c1)] h)
noncomputable def E_117c119 : Ent := ⟨117, [⟨false, [.any]⟩, ⟨false, [.clo 119 1]⟩], [⟨false, [.sl]⟩], fun (x : Value × Option Addr) h => slices_SortedFunc_int_order_Order_All_1 x.1 x.2 h⟩
theorem ok_117c119 : E_117c119.ok Go.Proofs.Ythiccnmplgdheaa.Ov.D := fun x h y h' e => ov_ok (f := 117) (g := Go.Proofs.Ythiccnmplgdheaa.Ov.ov117) (by kernel_rfl) (args := [x.1, (Z.enc (.clo 119 1) x.2)]) e
/-! order_Order_All -/
noncomputable def P.order_Order_All (maps_Keys_map_int_int_int_int : Option Nat → H → Option ((Value) × H)) (slices_SortedFunc_int_order_Order_All_1 : Value → Option Addr → H → Option ((Sl) × H)) (slices_Clip_int : Sl → H → Option ((Sl) × H)) (o : Option Addr) (h : H) : Option (Sl × H) :=
  newO (row 142 [(.pointer o)]) h fun (b : Nat) (h0 : H) =>
  bindO (ldP h0 (⟨b, 0, (some 0)⟩ : Addr)) fun (x0 : Option Addr) =>
  ptrK x0 fun (a0 : Addr) =>
  bindO (ldM h0 (add a0 0)) fun (x1 : Option Nat) =>
  bind2 (maps_Keys_map_int_int_int_int x1 h0) fun (x2 : Value) (h1 : H) =>
  bind2 (slices_SortedFunc_int_order_Order_All_1 x2 (some (⟨b, 0, (some 0)⟩ : Addr)) h1) fun (x3 : Sl) (h2 : H) =>
  bind2 (slices_Clip_int x3 h2) fun (x4 : Sl) (h3 : H) =>
  some (x4, h3)
noncomputable def order_Order_All : Option Addr → H → Option ((Sl) × H) := P.order_Order_All maps_Keys_map_int_int_int_int slices_SortedFunc_int_order_Order_All_1 slices_Clip_int
noncomputable def ann_61 : Ann := ⟨fun _ => none, fun _ => none, fun _ => none⟩
noncomputable def E_61 : Ent := ⟨61, [⟨false, [.ptr]⟩], [⟨false, [.sl]⟩], fun (x : Option Addr) h => order_Order_All x h⟩
theorem eq_61 (maps_Keys_map_int_int_int_int : Option Nat → H → Option ((Value) × H)) (slices_SortedFunc_int_order_Order_All_1 : Value → Option Addr → H → Option ((Sl) × H)) (slices_Clip_int : Sl → H → Option ((Sl) × H)) : (fun (x : PT E_61.ps) (h : H) => runFK Go.Proofs.Ythiccnmplgdheaa.Ov.D (lstK [⟨118, [⟨false, [.map]⟩], [⟨false, [.any]⟩], fun (x : Option Nat) h => maps_Keys_map_int_int_int_int x h⟩, ⟨117, [⟨false, [.any]⟩, ⟨false, [.clo 119 1]⟩], [⟨false, [.sl]⟩], fun (x : Value × Option Addr) h => slices_SortedFunc_int_order_Order_All_1 x.1 x.2 h⟩, ⟨116, [⟨false, [.sl]⟩], [⟨false, [.sl]⟩], fun (x : Sl) h => slices_Clip_int x h⟩]) ann_61 Try.f61 (Try.f61.body.getD .skip) E_61.ys (encP E_61.ps x) h) = (fun (x : Option Addr) h => P.order_Order_All maps_Keys_map_int_int_int_int slices_SortedFunc_int_order_Order_All_1 slices_Clip_int x h) := by kernel_rfl
theorem ok_61 : E_61.ok Go.Proofs.Ythiccnmplgdheaa.Ov.D := fun x h y h' e => runFK_ok (lstK_ok [E_118, E_117c119, E_116] (List.forall_mem_cons.2 ⟨ok_118, List.forall_mem_cons.2 ⟨ok_117c119, List.forall_mem_cons.2 ⟨ok_116, fun E h => nomatch h⟩⟩⟩)) (A := ann_61) (by kernel_rfl) (show Go.Proofs.Ythiccnmplgdheaa.Ov.D.fn.get 61 = some Try.f61 by kernel_rfl) (show Try.f61.body = some (Try.f61.body.getD .skip) by kernel_rfl) ((congrFun (congrFun (eq_61 maps_Keys_map_int_int_int_int slices_SortedFunc_int_order_Order_All_1 slices_Clip_int) x) h).trans e)
/-! law20_same -/
noncomputable def law20_same_l1 : ((Sl × (Sl × (Int × Int))) × H) → Option (((Sl × (Sl × (Int × Int))) × H) ⊕ (Bool × H)) := fun ((a0, (b, (x0, x1))), h0) =>
  condK (decide ((x1 < x0))) (
    bindO (ixT 1 a0 x1) fun (a1 : Addr) =>
    bindO (ldI .i64 h0 a1) fun (x2 : Int) =>
    bindO (ixT 1 b x1) fun (a2 : Addr) =>
    bindO (ldI .i64 h0 a2) fun (x3 : Int) =>
    condK (x2 != x3) (
      some (Sum.inr (false, h0))) (
      some (Sum.inl ((a0, (b, (x0, (IntKind.wrap .i64 (x1 + 1))))), h0)))) (
    some (Sum.inr (true, h0)))

noncomputable def law20_same (a0 : Sl) (b : Sl) (h : H) : Option (Bool × H) :=
  condK (((a0.len : Nat) : Int) != ((b.len : Nat) : Int)) (
    some (false, h)) (
    loopO law20_same_l1 ((a0, (b, (((a0.len : Nat) : Int), 0))), h))
noncomputable def ann_60 : Ann := ⟨fun _ => none, fun i => bif i.beq 4 then some ⟨[0, 1, 12, 13], [⟨false, [.sl]⟩, ⟨false, [.sl]⟩, ⟨false, [.int .i64]⟩, ⟨false, [.int .i64]⟩]⟩ else none, fun _ => none⟩
noncomputable def E_60 : Ent := ⟨60, [⟨false, [.sl]⟩, ⟨false, [.sl]⟩], [⟨false, [.bool]⟩], fun (x : Sl × Sl) h => law20_same x.1 x.2 h⟩
theorem eq_60  : (fun (x : PT E_60.ps) (h : H) => runFK Go.Proofs.Ythiccnmplgdheaa.Ov.D (lstK []) ann_60 Try.f60 (Try.f60.body.getD .skip) E_60.ys (encP E_60.ps x) h) = (fun (x : Sl × Sl) h => law20_same x.1 x.2 h) := by kernel_rfl
theorem ok_60 : E_60.ok Go.Proofs.Ythiccnmplgdheaa.Ov.D := fun x h y h' e => runFK_ok (lstK_ok [] (fun E h => nomatch h)) (A := ann_60) (by kernel_rfl) (show Go.Proofs.Ythiccnmplgdheaa.Ov.D.fn.get 60 = some Try.f60 by kernel_rfl) (show Try.f60.body = some (Try.f60.body.getD .skip) by kernel_rfl) ((congrFun (congrFun (eq_60 ) x) h).trans e)
/-! order_Order_Drop -/
noncomputable def order_Order_Drop_l1 : (((Option Addr) × (Int × (Sl × (Int × Int)))) × H) → Option ((((Option Addr) × (Int × (Sl × (Int × Int)))) × H) ⊕ ((((Option Addr) × Int) × H) ⊕ (Int × H))) := fun ((o, (before, (x0, (x1, x2)))), h0) =>
  condK (decide ((x2 < x1))) (
    bindO (ixT 1 x0 x2) fun (a0 : Addr) =>
    bindO (ldI .i64 h0 a0) fun (x3 : Int) =>
    ptrK o fun (a1 : Addr) =>
    bindO (ldM h0 (add a1 0)) fun (x4 : Option Nat) =>
    bindO (delT .i64 h0 x4 x3) fun (h1 : H) =>
    some (Sum.inl ((o, (before, (x0, (x1, (IntKind.wrap .i64 (x2 + 1)))))), h1))) (
    some (Sum.inr (Sum.inl ((o, before), h0))))

noncomputable def order_Order_Drop (o : Option Addr) (ids : Sl) (h : H) : Option (Int × H) :=
  ptrK o fun (a0 : Addr) =>
  bindO (ldM h (add a0 0)) fun (x0 : Option Nat) =>
  bindO (lenMT h x0) fun (x1 : Int) =>
  joinO (
    loopO order_Order_Drop_l1 ((o, (x1, (ids, (((ids.len : Nat) : Int), 0)))), h)) fun (((o1, before), h0) : (((Option Addr) × Int) × H)) =>
  ptrK o1 fun (a1 : Addr) =>
  bindO (ldM h0 (add a1 0)) fun (x2 : Option Nat) =>
  bindO (lenMT h0 x2) fun (x3 : Int) =>
  some ((IntKind.wrap .i64 (before - x3)), h0)
noncomputable def ann_62 : Ann := ⟨fun i => bif i.beq 7 then some ⟨[0, 5], [⟨false, [.ptr]⟩, ⟨false, [.int .i64]⟩]⟩ else none, fun i => bif i.beq 3 then some ⟨[0, 5, 13, 14, 15], [⟨false, [.ptr]⟩, ⟨false, [.int .i64]⟩, ⟨false, [.sl]⟩, ⟨false, [.int .i64]⟩, ⟨false, [.int .i64]⟩]⟩ else none, fun _ => none⟩
noncomputable def E_62 : Ent := ⟨62, [⟨false, [.ptr]⟩, ⟨false, [.sl]⟩], [⟨false, [.int .i64]⟩], fun (x : Option Addr × Sl) h => order_Order_Drop x.1 x.2 h⟩
theorem eq_62  : (fun (x : PT E_62.ps) (h : H) => runFK Go.Proofs.Ythiccnmplgdheaa.Ov.D (lstK []) ann_62 Try.f62 (Try.f62.body.getD .skip) E_62.ys (encP E_62.ps x) h) = (fun (x : Option Addr × Sl) h => order_Order_Drop x.1 x.2 h) := by kernel_rfl
theorem ok_62 : E_62.ok Go.Proofs.Ythiccnmplgdheaa.Ov.D := fun x h y h' e => runFK_ok (lstK_ok [] (fun E h => nomatch h)) (A := ann_62) (by kernel_rfl) (show Go.Proofs.Ythiccnmplgdheaa.Ov.D.fn.get 62 = some Try.f62 by kernel_rfl) (show Try.f62.body = some (Try.f62.body.getD .skip) by kernel_rfl) ((congrFun (congrFun (eq_62 ) x) h).trans e)
/-! order_Order_First -/
noncomputable def P.order_Order_First (order_Order_All : Option Addr → H → Option ((Sl) × H)) (o : Option Addr) (h : H) : Option ((Int × Bool) × H) :=
  bind2 (order_Order_All o h) fun (x0 : Sl) (h0 : H) =>
  condK (((x0.len : Nat) : Int) == 0) (
    some ((0, false), h0)) (
    bindO (ixT 1 x0 0) fun (a0 : Addr) =>
    bindO (ldI .i64 h0 a0) fun (x1 : Int) =>
    some ((x1, true), h0))
noncomputable def order_Order_First : Option Addr → H → Option ((Int × Bool) × H) := P.order_Order_First order_Order_All
noncomputable def ann_64 : Ann := ⟨fun _ => none, fun _ => none, fun _ => none⟩
noncomputable def E_64 : Ent := ⟨64, [⟨false, [.ptr]⟩], [⟨false, [.int .i64]⟩, ⟨false, [.bool]⟩], fun (x : Option Addr) h => order_Order_First x h⟩
theorem eq_64 (order_Order_All : Option Addr → H → Option ((Sl) × H)) : (fun (x : PT E_64.ps) (h : H) => runFK Go.Proofs.Ythiccnmplgdheaa.Ov.D (lstK [⟨61, [⟨false, [.ptr]⟩], [⟨false, [.sl]⟩], fun (x : Option Addr) h => order_Order_All x h⟩]) ann_64 Try.f64 (Try.f64.body.getD .skip) E_64.ys (encP E_64.ps x) h) = (fun (x : Option Addr) h => P.order_Order_First order_Order_All x h) := by kernel_rfl
theorem ok_64 : E_64.ok Go.Proofs.Ythiccnmplgdheaa.Ov.D := fun x h y h' e => runFK_ok (lstK_ok [E_61] (List.forall_mem_cons.2 ⟨ok_61, fun E h => nomatch h⟩)) (A := ann_64) (by kernel_rfl) (show Go.Proofs.Ythiccnmplgdheaa.Ov.D.fn.get 64 = some Try.f64 by kernel_rfl) (show Try.f64.body = some (Try.f64.body.getD .skip) by kernel_rfl) ((congrFun (congrFun (eq_64 order_Order_All) x) h).trans e)
/-! law20_known -/
noncomputable def P.law20_known (order_Order_Put : Option Addr → Int → Int → H → Option ((Unit) × H)) (order_Order_First : Option Addr → H → Option ((Int × Bool) × H)) (order_Order_All : Option Addr → H → Option ((Sl) × H)) (law20_same : Sl → Sl → H → Option ((Bool) × H))  (h : H) : Option (Bool × H) :=
  newO (row 83 [(.map none)]) h fun (b : Nat) (h0 : H) =>
  bindO (stZ [.map] h0 (⟨b, 0, (some 0)⟩ : Addr) ((none) : Option Nat)) fun (h1 : H) =>
  bind2 (order_Order_Put (some (⟨b, 0, (some 0)⟩ : Addr)) 5 1 h1) fun (_ : Unit) (h2 : H) =>
  bind2 (order_Order_Put (some (⟨b, 0, (some 0)⟩ : Addr)) 3 2 h2) fun (_ : Unit) (h3 : H) =>
  bind2 (order_Order_First (some (⟨b, 0, (some 0)⟩ : Addr)) h3) fun ((x0, x1) : Int × Bool) (h4 : H) =>
  bind2 (order_Order_All (some (⟨b, 0, (some 0)⟩ : Addr)) h4) fun (x2 : Sl) (h5 : H) =>
  newO (row 3 [(.int .i64 2), (.int .i64 1)]) h5 fun (b1 : Nat) (h6 : H) =>
  bind2 (law20_same x2 (⟨(some (⟨b1, 0, (some 0)⟩ : Addr)), 2, 2⟩ : Sl) h6) fun (x3 : Bool) (h7 : H) =>
  condK x3 (
    condK x1 (
      some ((x0 == 2), h7)) (
      some (false, h7))) (
    some (false, h7))
noncomputable def law20_known : H → Option ((Bool) × H) := P.law20_known order_Order_Put order_Order_First order_Order_All law20_same
noncomputable def ann_63 : Ann := ⟨fun _ => none, fun _ => none, fun _ => none⟩
noncomputable def E_63 : Ent := ⟨63, [], [⟨false, [.bool]⟩], fun (x : Unit) h => law20_known h⟩
theorem eq_63 (order_Order_Put : Option Addr → Int → Int → H → Option ((Unit) × H)) (order_Order_First : Option Addr → H → Option ((Int × Bool) × H)) (order_Order_All : Option Addr → H → Option ((Sl) × H)) (law20_same : Sl → Sl → H → Option ((Bool) × H)) : (fun (x : PT E_63.ps) (h : H) => runFK Go.Proofs.Ythiccnmplgdheaa.Ov.D (lstK [⟨59, [⟨false, [.ptr]⟩, ⟨false, [.int .i64]⟩, ⟨false, [.int .i64]⟩], [], fun (x : Option Addr × Int × Int) h => order_Order_Put x.1 x.2.1 x.2.2 h⟩, ⟨64, [⟨false, [.ptr]⟩], [⟨false, [.int .i64]⟩, ⟨false, [.bool]⟩], fun (x : Option Addr) h => order_Order_First x h⟩, ⟨61, [⟨false, [.ptr]⟩], [⟨false, [.sl]⟩], fun (x : Option Addr) h => order_Order_All x h⟩, ⟨60, [⟨false, [.sl]⟩, ⟨false, [.sl]⟩], [⟨false, [.bool]⟩], fun (x : Sl × Sl) h => law20_same x.1 x.2 h⟩]) ann_63 Try.f63 (Try.f63.body.getD .skip) E_63.ys (encP E_63.ps x) h) = (fun (x : Unit) h => P.law20_known order_Order_Put order_Order_First order_Order_All law20_same  h) := by kernel_rfl
theorem ok_63 : E_63.ok Go.Proofs.Ythiccnmplgdheaa.Ov.D := fun x h y h' e => runFK_ok (lstK_ok [E_59, E_64, E_61, E_60] (List.forall_mem_cons.2 ⟨ok_59, List.forall_mem_cons.2 ⟨ok_64, List.forall_mem_cons.2 ⟨ok_61, List.forall_mem_cons.2 ⟨ok_60, fun E h => nomatch h⟩⟩⟩⟩)) (A := ann_63) (by kernel_rfl) (show Go.Proofs.Ythiccnmplgdheaa.Ov.D.fn.get 63 = some Try.f63 by kernel_rfl) (show Try.f63.body = some (Try.f63.body.getD .skip) by kernel_rfl) ((congrFun (congrFun (eq_63 order_Order_Put order_Order_First order_Order_All law20_same) x) h).trans e)
/-! law20_OrderTwice -/
noncomputable def P.law20_OrderTwice_l3 (hand_Pick : Int → Int → H → Option ((Int) × H)) (order_Order_Put : Option Addr → Int → Int → H → Option ((Unit) × H)) (order_Order_All : Option Addr → H → Option ((Sl) × H)) (law20_same : Sl → Sl → H → Option ((Bool) × H)) (order_Order_Drop : Option Addr → Sl → H → Option ((Int) × H)) (law20_known : H → Option ((Bool) × H)) : (((Option Addr) × ((Option Addr) × ((Option Addr) × (Sl × (Int × (Sl × (Int × Int))))))) × H) → Option ((((Option Addr) × ((Option Addr) × ((Option Addr) × (Sl × (Int × (Sl × (Int × Int))))))) × H) ⊕ ((((Option Addr) × ((Option Addr) × (Sl × Int))) × H) ⊕ (Bool × H))) := fun ((a0, (b, (ids, (l, (n, (x0, (x1, x2))))))), h0) =>
  condK (decide ((x2 < x1))) (
    bindO (ixT 1 x0 x2) fun (a1 : Addr) =>
    bindO (ldI .i64 h0 a1) fun (x3 : Int) =>
    bind2 (hand_Pick x3 33 h0) fun (x4 : Int) (h1 : H) =>
    newO (row 3 [(.int .i64 x4)]) h1 fun (b1 : Nat) (h2 : H) =>
    bind2 (appT 3 1 8 h2 l (⟨(some (⟨b1, 0, (some 0)⟩ : Addr)), 1, 1⟩ : Sl)) fun (x5 : Sl) (h3 : H) =>
    joinO (
      joinO (
        condK (decide ((x4 < 30))) (
          ptrK ids fun (a2 : Addr) =>
          bindO (ixAT 30 1 a2 x4) fun (a3 : Addr) =>
          bindO (ldB h3 a3) fun (x6 : Bool) =>
          some (Sum.inl ((a0, (b, (ids, (x5, (n, (x4, (x0, (x1, (x2, x6))))))))), h3))) (
          some (Sum.inl ((a0, (b, (ids, (x5, (n, (x4, (x0, (x1, (x2, false))))))))), h3)))) fun (((a2, (b2, (ids1, (l1, (n1, (id, (x6, (x7, (x8, x9))))))))), h4) : (((Option Addr) × ((Option Addr) × ((Option Addr) × (Sl × (Int × (Int × (Sl × (Int × (Int × Bool))))))))) × H)) =>
      condK x9 (
        ptrK ids1 fun (a3 : Addr) =>
        bindO (ixAT 30 1 a3 id) fun (a4 : Addr) =>
        bindO (st1 h4 a4 (.bool false)) fun (h5 : H) =>
        some (Sum.inl ((a2, (b2, (ids1, (l1, ((IntKind.wrap .i64 (n1 + 1)), (id, (x6, (x7, x8)))))))), h5))) (
        some (Sum.inl ((a2, (b2, (ids1, (l1, (n1, (id, (x6, (x7, x8)))))))), h4)))) fun (((a2, (b2, (ids1, (l1, (n1, (id, (x6, (x7, x8)))))))), h4) : (((Option Addr) × ((Option Addr) × ((Option Addr) × (Sl × (Int × (Int × (Sl × (Int × Int)))))))) × H)) =>
    newO (row 3 [(.int .i64 id)]) h4 fun (b3 : Nat) (h5 : H) =>
    bind2 (order_Order_Drop a2 (⟨(some (⟨b3, 0, (some 0)⟩ : Addr)), 1, 1⟩ : Sl) h5) fun (x9 : Int) (h6 : H) =>
    some (Sum.inl ((a2, (b2, (ids1, (l1, (n1, (x6, (x7, (IntKind.wrap .i64 (x8 + 1))))))))), h6))) (
    some (Sum.inr (Sum.inl ((a0, (b, (l, n))), h0))))

noncomputable def P.law20_OrderTwice_l2 (hand_Pick : Int → Int → H → Option ((Int) × H)) (order_Order_Put : Option Addr → Int → Int → H → Option ((Unit) × H)) (order_Order_All : Option Addr → H → Option ((Sl) × H)) (law20_same : Sl → Sl → H → Option ((Bool) × H)) (order_Order_Drop : Option Addr → Sl → H → Option ((Int) × H)) (law20_known : H → Option ((Bool) × H)) : ((Sl × (Sl × ((Option Addr) × ((Option Addr) × ((Option Addr) × (Int × (Int × Int))))))) × H) → Option (((Sl × (Sl × ((Option Addr) × ((Option Addr) × ((Option Addr) × (Int × (Int × Int))))))) × H) ⊕ (((Sl × ((Option Addr) × ((Option Addr) × (Option Addr)))) × H) ⊕ (Bool × H))) := fun ((calls, (drops, (a0, (b, (ids, (k, (x0, x1))))))), h0) =>
  condK (decide ((x1 < x0))) (
    joinO (
      bindO (remT .i64 (IntKind.wrap .i64 (x1 + k)) ((calls.len : Nat) : Int)) fun (x2 : Int) =>
      condK (decide (((IntKind.wrap .i64 (x2 + 30)) < ((calls.len : Nat) : Int)))) (
        some (Sum.inl ((calls, (drops, (a0, (b, (ids, (k, (x0, x1))))))), h0))) (
        bindO (ixT 4 calls x2) fun (a1 : Addr) =>
        bindO (ldI .i64 h0 (add a1 2)) fun (x3 : Int) =>
        bind2 (hand_Pick x3 12 h0) fun (x4 : Int) (h1 : H) =>
        bind2 (order_Order_Put b x4 (Int.tmod x2 30) h1) fun (_ : Unit) (h2 : H) =>
        some (Sum.inl ((calls, (drops, (a0, (b, (ids, (k, (x0, x1))))))), h2)))) fun (((calls1, (drops1, (a1, (b1, (ids1, (k1, (x2, x3))))))), h1) : ((Sl × (Sl × ((Option Addr) × ((Option Addr) × ((Option Addr) × (Int × (Int × Int))))))) × H)) =>
    some (Sum.inl ((calls1, (drops1, (a1, (b1, (ids1, (k1, (x2, (IntKind.wrap .i64 (x3 + 1))))))))), h1))) (
    some (Sum.inr (Sum.inl ((drops, (a0, (b, ids))), h0))))

noncomputable def P.law20_OrderTwice_l1 (hand_Pick : Int → Int → H → Option ((Int) × H)) (order_Order_Put : Option Addr → Int → Int → H → Option ((Unit) × H)) (order_Order_All : Option Addr → H → Option ((Sl) × H)) (law20_same : Sl → Sl → H → Option ((Bool) × H)) (order_Order_Drop : Option Addr → Sl → H → Option ((Int) × H)) (law20_known : H → Option ((Bool) × H)) : ((Sl × (Sl × ((Option Addr) × ((Option Addr) × ((Option Addr) × (Int × (Int × Int))))))) × H) → Option (((Sl × (Sl × ((Option Addr) × ((Option Addr) × ((Option Addr) × (Int × (Int × Int))))))) × H) ⊕ (((Sl × (Sl × ((Option Addr) × ((Option Addr) × ((Option Addr) × Int))))) × H) ⊕ (Bool × H))) := fun ((calls, (drops, (a0, (b, (ids, (k, (x0, x1))))))), h0) =>
  condK (decide ((x1 < x0))) (
    bindO (ixT 4 calls x1) fun (a1 : Addr) =>
    bindO (ldZ [.int .i64, .int .i64, .int .i64, .sl] h0 a1) fun ((x2, x3, x4, x5) : Int × Int × Int × Sl) =>
    newO (row 86 [(.int .i64 0), (.int .i64 0), (.int .i64 0), (.slice none 0 0)]) h0 fun (b1 : Nat) (h1 : H) =>
    bindO (stZ [.int .i64, .int .i64, .int .i64, .sl] h1 (⟨b1, 0, (some 0)⟩ : Addr) ((x2, x3, x4, x5) : Int × Int × Int × Sl)) fun (h2 : H) =>
    bindO (ldI .i64 h2 (add (⟨b1, 0, (some 0)⟩ : Addr) 2)) fun (x6 : Int) =>
    bind2 (hand_Pick x6 12 h2) fun (x7 : Int) (h3 : H) =>
    bind2 (order_Order_Put a0 x7 (Int.tmod x1 30) h3) fun (_ : Unit) (h4 : H) =>
    ptrK ids fun (a2 : Addr) =>
    bindO (ixAT 30 1 a2 (Int.tmod x1 30)) fun (a3 : Addr) =>
    bindO (st1 h4 a3 (.bool true)) fun (h5 : H) =>
    some (Sum.inl ((calls, (drops, (a0, (b, (ids, (k, (x0, (IntKind.wrap .i64 (x1 + 1))))))))), h5))) (
    some (Sum.inr (Sum.inl ((calls, (drops, (a0, (b, (ids, k))))), h0))))

noncomputable def P.law20_OrderTwice (hand_Pick : Int → Int → H → Option ((Int) × H)) (order_Order_Put : Option Addr → Int → Int → H → Option ((Unit) × H)) (order_Order_All : Option Addr → H → Option ((Sl) × H)) (law20_same : Sl → Sl → H → Option ((Bool) × H)) (order_Order_Drop : Option Addr → Sl → H → Option ((Int) × H)) (law20_known : H → Option ((Bool) × H)) (calls : Sl) (turn : Int) (drops : Sl) (h : H) : Option (Bool × H) :=
  newO (row 83 [(.map none)]) h fun (b : Nat) (h0 : H) =>
  bindO (stZ [.map] h0 (⟨b, 0, (some 0)⟩ : Addr) ((none) : Option Nat)) fun (h1 : H) =>
  newO (row 83 [(.map none)]) h1 fun (b1 : Nat) (h2 : H) =>
  bindO (stZ [.map] h2 (⟨b1, 0, (some 0)⟩ : Addr) ((none) : Option Nat)) fun (h3 : H) =>
  newO (row 84 [(.bool false), (.bool false), (.bool false), (.bool false), (.bool false), (.bool false), (.bool false), (.bool false), (.bool false), (.bool false), (.bool false), (.bool false), (.bool false), (.bool false), (.bool false), (.bool false), (.bool false), (.bool false), (.bool false), (.bool false), (.bool false), (.bool false), (.bool false), (.bool false), (.bool false), (.bool false), (.bool false), (.bool false), (.bool false), (.bool false)]) h3 fun (b2 : Nat) (h4 : H) =>
  bind2 (hand_Pick turn (IntKind.wrap .i64 (((calls.len : Nat) : Int) + 1)) h4) fun (x0 : Int) (h5 : H) =>
  joinO (
    loopO (P.law20_OrderTwice_l1 hand_Pick order_Order_Put order_Order_All law20_same order_Order_Drop law20_known) ((calls, (drops, ((some (⟨b, 0, (some 0)⟩ : Addr)), ((some (⟨b1, 0, (some 0)⟩ : Addr)), ((some (⟨b2, 0, (some 0)⟩ : Addr)), (x0, (((calls.len : Nat) : Int), 0))))))), h5)) fun (((calls1, (drops1, (a0, (b3, (ids, k))))), h6) : ((Sl × (Sl × ((Option Addr) × ((Option Addr) × ((Option Addr) × Int))))) × H)) =>
  joinO (
    loopO (P.law20_OrderTwice_l2 hand_Pick order_Order_Put order_Order_All law20_same order_Order_Drop law20_known) ((calls1, (drops1, (a0, (b3, (ids, (k, (((calls1.len : Nat) : Int), 0))))))), h6)) fun (((drops2, (a1, (b4, ids1))), h7) : ((Sl × ((Option Addr) × ((Option Addr) × (Option Addr)))) × H)) =>
  bind2 (order_Order_All a1 h7) fun (x1 : Sl) (h8 : H) =>
  bind2 (order_Order_All b4 h8) fun (x2 : Sl) (h9 : H) =>
  bind2 (law20_same x1 x2 h9) fun (x3 : Bool) (h10 : H) =>
  condK (!x3) (
    some (false, h10)) (
    joinO (
      loopO (P.law20_OrderTwice_l3 hand_Pick order_Order_Put order_Order_All law20_same order_Order_Drop law20_known) ((a1, (b4, (ids1, ((⟨none, 0, 0⟩ : Sl), (0, (drops2, (((drops2.len : Nat) : Int), 0))))))), h10)) fun (((a2, (b5, (l, n))), h11) : (((Option Addr) × ((Option Addr) × (Sl × Int))) × H)) =>
    bind2 (law20_known h11) fun (x4 : Bool) (h12 : H) =>
    condK x4 (
      bind2 (order_Order_Drop b5 l h12) fun (x5 : Int) (h13 : H) =>
      condK (x5 == n) (
        bind2 (order_Order_All a2 h13) fun (x6 : Sl) (h14 : H) =>
        bind2 (order_Order_All b5 h14) fun (x7 : Sl) (h15 : H) =>
        bind2 (law20_same x6 x7 h15) fun (x8 : Bool) (h16 : H) =>
        some (x8, h16)) (
        some (false, h13))) (
      some (false, h12)))
noncomputable abbrev law20_OrderTwice_l3 := P.law20_OrderTwice_l3 hand_Pick order_Order_Put order_Order_All law20_same order_Order_Drop law20_known
noncomputable abbrev law20_OrderTwice_l2 := P.law20_OrderTwice_l2 hand_Pick order_Order_Put order_Order_All law20_same order_Order_Drop law20_known
noncomputable abbrev law20_OrderTwice_l1 := P.law20_OrderTwice_l1 hand_Pick order_Order_Put order_Order_All law20_same order_Order_Drop law20_known
noncomputable def law20_OrderTwice : Sl → Int → Sl → H → Option ((Bool) × H) := P.law20_OrderTwice hand_Pick order_Order_Put order_Order_All law20_same order_Order_Drop law20_known
noncomputable def ann_13 : Ann := ⟨fun i => bif i.beq 13 then some ⟨[0, 2, 7, 8, 9, 10], [⟨false, [.sl]⟩, ⟨false, [.sl]⟩, ⟨false, [.ptr]⟩, ⟨false, [.ptr]⟩, ⟨false, [.ptr]⟩, ⟨false, [.int .i64]⟩]⟩ else bif i.beq 19 then some ⟨[0, 2, 7, 8, 9, 10, 48, 49], [⟨false, [.sl]⟩, ⟨false, [.sl]⟩, ⟨false, [.ptr]⟩, ⟨false, [.ptr]⟩, ⟨false, [.ptr]⟩, ⟨false, [.int .i64]⟩, ⟨false, [.int .i64]⟩, ⟨false, [.int .i64]⟩]⟩ else bif i.beq 20 then some ⟨[2, 7, 8, 9], [⟨false, [.sl]⟩, ⟨false, [.ptr]⟩, ⟨false, [.ptr]⟩, ⟨false, [.ptr]⟩]⟩ else bif i.beq 32 then some ⟨[7, 8, 9, 16, 17, 20, 77, 78, 79], [⟨false, [.ptr]⟩, ⟨false, [.ptr]⟩, ⟨false, [.ptr]⟩, ⟨false, [.sl]⟩, ⟨false, [.int .i64]⟩, ⟨false, [.int .i64]⟩, ⟨false, [.sl]⟩, ⟨false, [.int .i64]⟩, ⟨false, [.int .i64]⟩]⟩ else bif i.beq 34 then some ⟨[7, 8, 16, 17], [⟨false, [.ptr]⟩, ⟨false, [.ptr]⟩, ⟨false, [.sl]⟩, ⟨false, [.int .i64]⟩]⟩ else none, fun i => bif i.beq 6 then some ⟨[0, 2, 7, 8, 9, 10, 29, 30], [⟨false, [.sl]⟩, ⟨false, [.sl]⟩, ⟨false, [.ptr]⟩, ⟨false, [.ptr]⟩, ⟨false, [.ptr]⟩, ⟨false, [.int .i64]⟩, ⟨false, [.int .i64]⟩, ⟨false, [.int .i64]⟩]⟩ else bif i.beq 14 then some ⟨[0, 2, 7, 8, 9, 10, 48, 49], [⟨false, [.sl]⟩, ⟨false, [.sl]⟩, ⟨false, [.ptr]⟩, ⟨false, [.ptr]⟩, ⟨false, [.ptr]⟩, ⟨false, [.int .i64]⟩, ⟨false, [.int .i64]⟩, ⟨false, [.int .i64]⟩]⟩ else bif i.beq 25 then some ⟨[7, 8, 9, 16, 17, 77, 78, 79], [⟨false, [.ptr]⟩, ⟨false, [.ptr]⟩, ⟨false, [.ptr]⟩, ⟨false, [.sl]⟩, ⟨false, [.int .i64]⟩, ⟨false, [.sl]⟩, ⟨false, [.int .i64]⟩, ⟨false, [.int .i64]⟩]⟩ else none, fun i => bif i.beq 29 then some ⟨[7, 8, 9, 16, 17, 20, 77, 78, 79, 95], [⟨false, [.ptr]⟩, ⟨false, [.ptr]⟩, ⟨false, [.ptr]⟩, ⟨false, [.sl]⟩, ⟨false, [.int .i64]⟩, ⟨false, [.int .i64]⟩, ⟨false, [.sl]⟩, ⟨false, [.int .i64]⟩, ⟨false, [.int .i64]⟩, ⟨false, [.bool]⟩]⟩ else none⟩
noncomputable def E_13 : Ent := ⟨13, [⟨false, [.sl]⟩, ⟨false, [.int .i64]⟩, ⟨false, [.sl]⟩], [⟨false, [.bool]⟩], fun (x : Sl × Int × Sl) h => law20_OrderTwice x.1 x.2.1 x.2.2 h⟩
theorem eq_13 (hand_Pick : Int → Int → H → Option ((Int) × H)) (order_Order_Put : Option Addr → Int → Int → H → Option ((Unit) × H)) (order_Order_All : Option Addr → H → Option ((Sl) × H)) (law20_same : Sl → Sl → H → Option ((Bool) × H)) (order_Order_Drop : Option Addr → Sl → H → Option ((Int) × H)) (law20_known : H → Option ((Bool) × H)) : (fun (x : PT E_13.ps) (h : H) => runFK Go.Proofs.Ythiccnmplgdheaa.Ov.D (lstK [⟨24, [⟨false, [.int .i64]⟩, ⟨false, [.int .i64]⟩], [⟨false, [.int .i64]⟩], fun (x : Int × Int) h => hand_Pick x.1 x.2 h⟩, ⟨59, [⟨false, [.ptr]⟩, ⟨false, [.int .i64]⟩, ⟨false, [.int .i64]⟩], [], fun (x : Option Addr × Int × Int) h => order_Order_Put x.1 x.2.1 x.2.2 h⟩, ⟨61, [⟨false, [.ptr]⟩], [⟨false, [.sl]⟩], fun (x : Option Addr) h => order_Order_All x h⟩, ⟨60, [⟨false, [.sl]⟩, ⟨false, [.sl]⟩], [⟨false, [.bool]⟩], fun (x : Sl × Sl) h => law20_same x.1 x.2 h⟩, ⟨62, [⟨false, [.ptr]⟩, ⟨false, [.sl]⟩], [⟨false, [.int .i64]⟩], fun (x : Option Addr × Sl) h => order_Order_Drop x.1 x.2 h⟩, ⟨63, [], [⟨false, [.bool]⟩], fun (x : Unit) h => law20_known h⟩]) ann_13 Try.f13 (Try.f13.body.getD .skip) E_13.ys (encP E_13.ps x) h) = (fun (x : Sl × Int × Sl) h => P.law20_OrderTwice hand_Pick order_Order_Put order_Order_All law20_same order_Order_Drop law20_known x.1 x.2.1 x.2.2 h) := by kernel_rfl
theorem ok_13 : E_13.ok Go.Proofs.Ythiccnmplgdheaa.Ov.D := fun x h y h' e => runFK_ok (lstK_ok [E_24, E_59, E_61, E_60, E_62, E_63] (List.forall_mem_cons.2 ⟨ok_24, List.forall_mem_cons.2 ⟨ok_59, List.forall_mem_cons.2 ⟨ok_61, List.forall_mem_cons.2 ⟨ok_60, List.forall_mem_cons.2 ⟨ok_62, List.forall_mem_cons.2 ⟨ok_63, fun E h => nomatch h⟩⟩⟩⟩⟩⟩)) (A := ann_13) (by kernel_rfl) (show Go.Proofs.Ythiccnmplgdheaa.Ov.D.fn.get 13 = some Try.f13 by kernel_rfl) (show Try.f13.body = some (Try.f13.body.getD .skip) by kernel_rfl) ((congrFun (congrFun (eq_13 hand_Pick order_Order_Put order_Order_All law20_same order_Order_Drop law20_known) x) h).trans e)
end Go.Proofs.Ythiccnmplgdheaa.T
