/- The typed texts of the program's functions, printed by a program of this session (wip/KPrint.lean) out of the machine's own definitions; each is the machine's own run, by the kernel's reduction. -/
import Derived.Test.YtlikepnpamejmaaGreatAbsF
import Derived.Test.YtlikepnpamejmaaGreatTab
import Derived.KernelRfl
set_option linter.unusedVariables false
set_option maxRecDepth 1000000
namespace Go.Proofs.YtlikepnpamejmaaGreat.TC
open Go Go.Abs Go.Proofs
/-! cmp_isNaN_int -/
noncomputable def cmp_isNaN_int (x0 : Int) (h : H) : Option (Bool × H) :=
  some ((x0 != x0), h)
noncomputable def ann_39 : Ann := ⟨fun _ => none, fun _ => none, fun _ => none⟩
noncomputable def E_39 : Ent := ⟨39, [⟨false, [.int .i64]⟩], [⟨false, [.bool]⟩], fun (x : Int) h => cmp_isNaN_int x h⟩
theorem eq_39  : (fun (x : PT E_39.ps) (h : H) => runFK Go.Proofs.YtlikepnpamejmaaGreat.Tab.D (lstK []) ann_39 Tryz.f39 (Tryz.f39.body.getD .skip) E_39.ys (encP E_39.ps x) h) = (fun (x : Int) h => cmp_isNaN_int x h) := by kernel_rfl
theorem ok_39 : E_39.ok Go.Proofs.YtlikepnpamejmaaGreat.Tab.D := fun x h y h' e => runFK_ok (lstK_ok [] (fun E h => nomatch h)) (A := ann_39) (by kernel_rfl) (show Go.Proofs.YtlikepnpamejmaaGreat.Tab.D.fn.get 39 = some Tryz.f39 by kernel_rfl) (show Tryz.f39.body = some (Tryz.f39.body.getD .skip) by kernel_rfl) ((congrFun (congrFun (eq_39 ) x) h).trans e)
/-! cmp_Compare_int -/
noncomputable def P.cmp_Compare_int (cmp_isNaN_int : Int → H → Option ((Bool) × H)) (x0 : Int) (y : Int) (h : H) : Option (Int × H) :=
  bind2 (cmp_isNaN_int x0 h) fun (x1 : Bool) (h0 : H) =>
  bind2 (cmp_isNaN_int y h0) fun (x2 : Bool) (h1 : H) =>
  condK x1 (
    condK x2 (
      some (0, h1)) (
      some ((-1), h1))) (
    condK x2 (
      some (1, h1)) (
      condK (decide ((x0 < y))) (
        some ((-1), h1)) (
        condK (decide ((x0 > y))) (
          some (1, h1)) (
          some (0, h1)))))
noncomputable def cmp_Compare_int : Int → Int → H → Option ((Int) × H) := P.cmp_Compare_int cmp_isNaN_int
noncomputable def ann_20 : Ann := ⟨fun _ => none, fun _ => none, fun _ => none⟩
noncomputable def E_20 : Ent := ⟨20, [⟨false, [.int .i64]⟩, ⟨false, [.int .i64]⟩], [⟨false, [.int .i64]⟩], fun (x : Int × Int) h => cmp_Compare_int x.1 x.2 h⟩
theorem eq_20 (cmp_isNaN_int : Int → H → Option ((Bool) × H)) : (fun (x : PT E_20.ps) (h : H) => runFK Go.Proofs.YtlikepnpamejmaaGreat.Tab.D (lstK [⟨39, [⟨false, [.int .i64]⟩], [⟨false, [.bool]⟩], fun (x : Int) h => cmp_isNaN_int x h⟩]) ann_20 Tryz.f20 (Tryz.f20.body.getD .skip) E_20.ys (encP E_20.ps x) h) = (fun (x : Int × Int) h => P.cmp_Compare_int cmp_isNaN_int x.1 x.2 h) := by kernel_rfl
theorem ok_20 : E_20.ok Go.Proofs.YtlikepnpamejmaaGreat.Tab.D := fun x h y h' e => runFK_ok (lstK_ok [E_39] (List.forall_mem_cons.2 ⟨ok_39, fun E h => nomatch h⟩)) (A := ann_20) (by kernel_rfl) (show Go.Proofs.YtlikepnpamejmaaGreat.Tab.D.fn.get 20 = some Tryz.f20 by kernel_rfl) (show Tryz.f20.body = some (Tryz.f20.body.getD .skip) by kernel_rfl) ((congrFun (congrFun (eq_20 cmp_isNaN_int) x) h).trans e)
/-! cmp_Or_int -/
noncomputable def cmp_Or_int_l1 : ((Int × (Sl × (Int × Int))) × H) → Option (((Int × (Sl × (Int × Int))) × H) ⊕ ((Int × H) ⊕ (Int × H))) := fun ((zero, (x0, (x1, x2))), h0) =>
  condK (decide ((x2 < x1))) (
    bindO (ixT 1 x0 x2) fun (a0 : Addr) =>
    bindO (ldI .i64 h0 a0) fun (x3 : Int) =>
    condK (x3 != zero) (
      some (Sum.inr (Sum.inr (x3, h0)))) (
      some (Sum.inl ((zero, (x0, (x1, (IntKind.wrap .i64 (x2 + 1))))), h0)))) (
    some (Sum.inr (Sum.inl (zero, h0))))

noncomputable def cmp_Or_int (vals : Sl) (h : H) : Option (Int × H) :=
  joinO (
    loopO cmp_Or_int_l1 ((0, (vals, (((vals.len : Nat) : Int), 0))), h)) fun ((zero, h0) : (Int × H)) =>
  some (zero, h0)
noncomputable def ann_19 : Ann := ⟨fun i => bif i.beq 8 then some ⟨[3], [⟨false, [.int .i64]⟩]⟩ else none, fun i => bif i.beq 3 then some ⟨[3, 6, 7, 8], [⟨false, [.int .i64]⟩, ⟨false, [.sl]⟩, ⟨false, [.int .i64]⟩, ⟨false, [.int .i64]⟩]⟩ else none, fun _ => none⟩
noncomputable def E_19 : Ent := ⟨19, [⟨false, [.sl]⟩], [⟨false, [.int .i64]⟩], fun (x : Sl) h => cmp_Or_int x h⟩
theorem eq_19  : (fun (x : PT E_19.ps) (h : H) => runFK Go.Proofs.YtlikepnpamejmaaGreat.Tab.D (lstK []) ann_19 Tryz.f19 (Tryz.f19.body.getD .skip) E_19.ys (encP E_19.ps x) h) = (fun (x : Sl) h => cmp_Or_int x h) := by kernel_rfl
theorem ok_19 : E_19.ok Go.Proofs.YtlikepnpamejmaaGreat.Tab.D := fun x h y h' e => runFK_ok (lstK_ok [] (fun E h => nomatch h)) (A := ann_19) (by kernel_rfl) (show Go.Proofs.YtlikepnpamejmaaGreat.Tab.D.fn.get 19 = some Tryz.f19 by kernel_rfl) (show Tryz.f19.body = some (Tryz.f19.body.getD .skip) by kernel_rfl) ((congrFun (congrFun (eq_19 ) x) h).trans e)
/-! order_Order_All_1 -/
noncomputable def P.order_Order_All_1 (cmp_Compare_int : Int → Int → H → Option ((Int) × H)) (cmp_Or_int : Sl → H → Option ((Int) × H)) (a0 : Int) (b : Int) (x0 : Option Addr) (h : H) : Option (Int × H) :=
  ptrK x0 fun (a1 : Addr) =>
  letH (growIf h 19) fun (h0 : H) =>
  bindO (ldP h0 a1) fun (x1 : Option Addr) =>
  ptrK x1 fun (a2 : Addr) =>
  bindO (ldM h0 (add a2 0)) fun (x2 : Option Nat) =>
  bindO (lookT .i64 ⟨false, [.int .i64]⟩ (.int .i64 0) h0 x2 a0) fun (x3 : Int) =>
  ptrK x0 fun (a3 : Addr) =>
  bindO (ldP h0 a3) fun (x4 : Option Addr) =>
  ptrK x4 fun (a4 : Addr) =>
  bindO (ldM h0 (add a4 0)) fun (x5 : Option Nat) =>
  bindO (lookT .i64 ⟨false, [.int .i64]⟩ (.int .i64 0) h0 x5 b) fun (x6 : Int) =>
  bind2 (cmp_Compare_int x3 x6 h0) fun (x7 : Int) (h1 : H) =>
  bind2 (cmp_Compare_int a0 b h1) fun (x8 : Int) (h2 : H) =>
  letH (addP 131071 h.size [(16, (row 3 [(.int .i64 x7), (.int .i64 x8)]))] h2) fun (h3 : H) =>
  bind2 (cmp_Or_int (⟨(some (⟨(h.size + 16), 0, (some 0)⟩ : Addr)), 2, 2⟩ : Sl) h3) fun (x9 : Int) (h4 : H) =>
  letH (addP 524287 h.size [(16, (row 3 [(.int .i64 x7), (.int .i64 x8)]))] h4) fun (h5 : H) =>
  letH (tickIf 19 h5) fun (h6 : H) =>
  some (x9, h6)
noncomputable def order_Order_All_1 : Int → Int → Option Addr → H → Option ((Int) × H) := P.order_Order_All_1 cmp_Compare_int cmp_Or_int
noncomputable def ann_18 : Ann := ⟨fun _ => none, fun _ => none, fun _ => none⟩
noncomputable def E_18 : Ent := ⟨18, [⟨false, [.int .i64]⟩, ⟨false, [.int .i64]⟩, ⟨false, [.ptr]⟩], [⟨false, [.int .i64]⟩], fun (x : Int × Int × Option Addr) h => order_Order_All_1 x.1 x.2.1 x.2.2 h⟩
theorem eq_18 (cmp_Compare_int : Int → Int → H → Option ((Int) × H)) (cmp_Or_int : Sl → H → Option ((Int) × H)) : (fun (x : PT E_18.ps) (h : H) => runFK Go.Proofs.YtlikepnpamejmaaGreat.Tab.D (lstK [⟨20, [⟨false, [.int .i64]⟩, ⟨false, [.int .i64]⟩], [⟨false, [.int .i64]⟩], fun (x : Int × Int) h => cmp_Compare_int x.1 x.2 h⟩, ⟨19, [⟨false, [.sl]⟩], [⟨false, [.int .i64]⟩], fun (x : Sl) h => cmp_Or_int x h⟩]) ann_18 Tryz.f18 (Tryz.f18.body.getD .skip) E_18.ys (encP E_18.ps x) h) = (fun (x : Int × Int × Option Addr) h => P.order_Order_All_1 cmp_Compare_int cmp_Or_int x.1 x.2.1 x.2.2 h) := by kernel_rfl
theorem ok_18 : E_18.ok Go.Proofs.YtlikepnpamejmaaGreat.Tab.D := fun x h y h' e => runFK_ok (lstK_ok [E_20, E_19] (List.forall_mem_cons.2 ⟨ok_20, List.forall_mem_cons.2 ⟨ok_19, fun E h => nomatch h⟩⟩)) (A := ann_18) (by kernel_rfl) (show Go.Proofs.YtlikepnpamejmaaGreat.Tab.D.fn.get 18 = some Tryz.f18 by kernel_rfl) (show Tryz.f18.body = some (Tryz.f18.body.getD .skip) by kernel_rfl) ((congrFun (congrFun (eq_18 cmp_Compare_int cmp_Or_int) x) h).trans e)
end Go.Proofs.YtlikepnpamejmaaGreat.TC
