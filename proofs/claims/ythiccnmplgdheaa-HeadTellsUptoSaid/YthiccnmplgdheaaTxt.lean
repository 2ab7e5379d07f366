/- The typed texts of the program's functions, printed by a program of this session (wip/KPrint.lean) out of the machine's own definitions; each is the machine's own run, by the kernel's reduction. -/
import Derived.Test.YthiccnmplgdheaaAbsF
import Derived.Test.YthiccnmplgdheaaTab
import Derived.KernelRfl
set_option linter.unusedVariables false
set_option maxRecDepth 1000000
namespace Go.Proofs.Ythiccnmplgdheaa.T
open Go Go.Abs Go.Proofs
/-! hand_Pick -/
noncomputable def hand_Pick (n : Int) (m : Int) (h : H) : Option (Int × H) :=
  bindO (remT .i64 n m) fun (x0 : Int) =>
  joinO (
    condK (decide ((x0 < 0))) (
      some (Sum.inl ((IntKind.wrap .i64 (x0 + m)), h))) (
      some (Sum.inl (x0, h)))) fun ((n1, h0) : (Int × H)) =>
  some (n1, h0)
noncomputable def ann_24 : Ann := ⟨fun i => bif i.beq 4 then some ⟨[0], [⟨false, [.int .i64]⟩]⟩ else none, fun _ => none, fun _ => none⟩
noncomputable def E_24 : Ent := ⟨24, [⟨false, [.int .i64]⟩, ⟨false, [.int .i64]⟩], [⟨false, [.int .i64]⟩], fun (x : Int × Int) h => hand_Pick x.1 x.2 h⟩
theorem eq_24  : (fun (x : PT E_24.ps) (h : H) => runFK Go.Proofs.Ythiccnmplgdheaa.Tab.D (lstK []) ann_24 Try.f24 (Try.f24.body.getD .skip) E_24.ys (encP E_24.ps x) h) = (fun (x : Int × Int) h => hand_Pick x.1 x.2 h) := by kernel_rfl
theorem ok_24 : E_24.ok Go.Proofs.Ythiccnmplgdheaa.Tab.D := fun x h y h' e => runFK_ok (lstK_ok [] (fun E h => nomatch h)) (A := ann_24) (by kernel_rfl) (show Go.Proofs.Ythiccnmplgdheaa.Tab.D.fn.get 24 = some Try.f24 by kernel_rfl) (show Try.f24.body = some (Try.f24.body.getD .skip) by kernel_rfl) ((congrFun (congrFun (eq_24 ) x) h).trans e)
/-! head_pieces -/
noncomputable def head_pieces (size : Int) (h : H) : Option (Int × H) :=
  letO ((IntKind.wrap .i64 (Int.tdiv (IntKind.wrap .i64 ((IntKind.wrap .i64 (size + 80)) - 1)) 80))) fun (x0 : Int) =>
  some (x0, h)
noncomputable def ann_95 : Ann := ⟨fun _ => none, fun _ => none, fun _ => none⟩
noncomputable def E_95 : Ent := ⟨95, [⟨false, [.int .i64]⟩], [⟨false, [.int .i64]⟩], fun (x : Int) h => head_pieces x h⟩
theorem eq_95  : (fun (x : PT E_95.ps) (h : H) => runFK Go.Proofs.Ythiccnmplgdheaa.Tab.D (lstK []) ann_95 Try.f95 (Try.f95.body.getD .skip) E_95.ys (encP E_95.ps x) h) = (fun (x : Int) h => head_pieces x h) := by kernel_rfl
theorem ok_95 : E_95.ok Go.Proofs.Ythiccnmplgdheaa.Tab.D := fun x h y h' e => runFK_ok (lstK_ok [] (fun E h => nomatch h)) (A := ann_95) (by kernel_rfl) (show Go.Proofs.Ythiccnmplgdheaa.Tab.D.fn.get 95 = some Try.f95 by kernel_rfl) (show Try.f95.body = some (Try.f95.body.getD .skip) by kernel_rfl) ((congrFun (congrFun (eq_95 ) x) h).trans e)
/-! head_Right -/
noncomputable def P.head_Right (head_pieces : Int → H → Option ((Int) × H)) (h0 : Int × Int × Int × Int × Int) (h : H) : Option (Bool × H) :=
  newO (row 46 [(.int .i64 h0.1), (.int .i64 h0.2.1), (.int .i64 h0.2.2.1), (.int .i64 h0.2.2.2.1), (.int .i64 h0.2.2.2.2)]) h fun (b : Nat) (h1 : H) =>
  joinO (
    bindO (ldI .i64 h1 (add (⟨b, 0, (some 0)⟩ : Addr) 0)) fun (x0 : Int) =>
    condK (decide ((x0 < 0))) (
      some (Sum.inl (((some (⟨b, 0, (some 0)⟩ : Addr)), true), h1))) (
      bindO (ldI .i64 h1 (add (⟨b, 0, (some 0)⟩ : Addr) 0)) fun (x1 : Int) =>
      condK (decide ((x1 ≥ 40))) (
        some (Sum.inl (((some (⟨b, 0, (some 0)⟩ : Addr)), true), h1))) (
        bindO (ldI .i64 h1 (add (⟨b, 0, (some 0)⟩ : Addr) 1)) fun (x2 : Int) =>
        condK (decide ((x2 < 0))) (
          some (Sum.inl (((some (⟨b, 0, (some 0)⟩ : Addr)), true), h1))) (
          bindO (ldI .i64 h1 (add (⟨b, 0, (some 0)⟩ : Addr) 1)) fun (x3 : Int) =>
          some (Sum.inl (((some (⟨b, 0, (some 0)⟩ : Addr)), (decide ((x3 > 4611686018427387903)))), h1)))))) fun (((h2, x0), h3) : (((Option Addr) × Bool) × H)) =>
  condK x0 (
    some (false, h3)) (
    joinO (
      ptrK h2 fun (a0 : Addr) =>
      bindO (ldI .i64 h3 (add a0 4)) fun (x1 : Int) =>
      condK (decide ((x1 < 1))) (
        some (Sum.inl ((h2, true), h3))) (
        ptrK h2 fun (a1 : Addr) =>
        bindO (ldI .i64 h3 (add a1 4)) fun (x2 : Int) =>
        condK (decide ((x2 > 600))) (
          some (Sum.inl ((h2, true), h3))) (
          ptrK h2 fun (a2 : Addr) =>
          bindO (ldI .i64 h3 (add a2 2)) fun (x3 : Int) =>
          ptrK h2 fun (a3 : Addr) =>
          bindO (ldI .i64 h3 (add a3 4)) fun (x4 : Int) =>
          bind2 (head_pieces x4 h3) fun (x5 : Int) (h4 : H) =>
          bindO (ldI .i64 h4 (add a2 2)) fun (x6 : Int) =>
          condK (x6 == x3) (
            some (Sum.inl ((h2, (x3 != x5)), h4))) none))) fun (((h4, x1), h5) : (((Option Addr) × Bool) × H)) =>
    condK x1 (
      some (false, h5)) (
      ptrK h4 fun (a0 : Addr) =>
      bindO (ldI .i64 h5 (add a0 3)) fun (x2 : Int) =>
      condK (decide ((x2 ≥ 0))) (
        ptrK h4 fun (a1 : Addr) =>
        bindO (ldI .i64 h5 (add a1 3)) fun (x3 : Int) =>
        ptrK h4 fun (a2 : Addr) =>
        bindO (ldI .i64 h5 (add a2 2)) fun (x4 : Int) =>
        some ((decide ((x3 < x4))), h5)) (
        some (false, h5))))
noncomputable def head_Right : (Int × Int × Int × Int × Int) → H → Option ((Bool) × H) := P.head_Right head_pieces
noncomputable def ann_39 : Ann := ⟨fun _ => none, fun _ => none, fun i => bif i.beq 1 then some ⟨[1, 3], [⟨false, [.ptr]⟩, ⟨false, [.bool]⟩]⟩ else bif i.beq 3 then some ⟨[1, 22], [⟨false, [.ptr]⟩, ⟨false, [.bool]⟩]⟩ else none⟩
noncomputable def E_39 : Ent := ⟨39, [⟨true, [.int .i64, .int .i64, .int .i64, .int .i64, .int .i64]⟩], [⟨false, [.bool]⟩], fun (x : (Int × Int × Int × Int × Int)) h => head_Right x h⟩
theorem eq_39 (head_pieces : Int → H → Option ((Int) × H)) : (fun (x : PT E_39.ps) (h : H) => runFK Go.Proofs.Ythiccnmplgdheaa.Tab.D (lstK [⟨95, [⟨false, [.int .i64]⟩], [⟨false, [.int .i64]⟩], fun (x : Int) h => head_pieces x h⟩]) ann_39 Try.f39 (Try.f39.body.getD .skip) E_39.ys (encP E_39.ps x) h) = (fun (x : (Int × Int × Int × Int × Int)) h => P.head_Right head_pieces x h) := by kernel_rfl
theorem ok_39 : E_39.ok Go.Proofs.Ythiccnmplgdheaa.Tab.D := fun x h y h' e => runFK_ok (lstK_ok [E_95] (List.forall_mem_cons.2 ⟨ok_95, fun E h => nomatch h⟩)) (A := ann_39) (by kernel_rfl) (show Go.Proofs.Ythiccnmplgdheaa.Tab.D.fn.get 39 = some Try.f39 by kernel_rfl) (show Try.f39.body = some (Try.f39.body.getD .skip) by kernel_rfl) ((congrFun (congrFun (eq_39 head_pieces) x) h).trans e)
/-! head_Of -/
noncomputable def P.head_Of (head_pieces : Int → H → Option ((Int) × H)) (head_Right : (Int × Int × Int × Int × Int) → H → Option ((Bool) × H)) (id : Int) (deadline : Int) (size : Int) (h : H) : Option ((Int × Int × Int × Int × Int) × H) :=
  newO (row 46 [(.int .i64 0), (.int .i64 0), (.int .i64 0), (.int .i64 0), (.int .i64 0)]) h fun (b : Nat) (h0 : H) =>
  newO (row 46 [(.int .i64 0), (.int .i64 0), (.int .i64 0), (.int .i64 0), (.int .i64 0)]) h0 fun (b1 : Nat) (h1 : H) =>
  bindO (stZ [.int .i64, .int .i64, .int .i64, .int .i64, .int .i64] h1 (⟨b1, 0, (some 0)⟩ : Addr) ((id, deadline, 0, 0, size) : Int × Int × Int × Int × Int)) fun (h2 : H) =>
  joinO (
    joinO (
      condK (decide ((size ≥ 1))) (
        some (Sum.inl ((size, ((some (⟨b, 0, (some 0)⟩ : Addr)), ((some (⟨b1, 0, (some 0)⟩ : Addr)), (decide ((size ≤ 600)))))), h2))) (
        some (Sum.inl ((size, ((some (⟨b, 0, (some 0)⟩ : Addr)), ((some (⟨b1, 0, (some 0)⟩ : Addr)), false))), h2)))) fun (((size1, (x0, (h3, x1))), h4) : ((Int × ((Option Addr) × ((Option Addr) × Bool))) × H)) =>
    condK x1 (
      bind2 (head_pieces size1 h4) fun (x2 : Int) (h5 : H) =>
      ptrK h3 fun (a0 : Addr) =>
      bindO (st1 h5 (add a0 2) (.int .i64 x2)) fun (h6 : H) =>
      some (Sum.inl ((x0, h3), h6))) (
      some (Sum.inl ((x0, h3), h4)))) fun (((x0, h3), h4) : (((Option Addr) × (Option Addr)) × H)) =>
  ptrK h3 fun (a0 : Addr) =>
  bindO (ldZ [.int .i64, .int .i64, .int .i64, .int .i64, .int .i64] h4 a0) fun ((x1, x2, x3, x4, x5) : Int × Int × Int × Int × Int) =>
  bind2 (head_Right (x1, x2, x3, x4, x5) h4) fun (x6 : Bool) (h5 : H) =>
  condK (!x6) (
    ptrK x0 fun (a1 : Addr) =>
    bindO (stZ [.int .i64, .int .i64, .int .i64, .int .i64, .int .i64] h5 a1 ((0, 0, 0, 0, 0) : Int × Int × Int × Int × Int)) fun (h6 : H) =>
    ptrK x0 fun (a2 : Addr) =>
    bindO (ldZ [.int .i64, .int .i64, .int .i64, .int .i64, .int .i64] h6 a2) fun ((x7, x8, x9, x10, x11) : Int × Int × Int × Int × Int) =>
    some ((x7, (x8, (x9, (x10, x11)))), h6)) (
    ptrK h3 fun (a3 : Addr) =>
    bindO (ldZ [.int .i64, .int .i64, .int .i64, .int .i64, .int .i64] h5 a3) fun ((x12, x13, x14, x15, x16) : Int × Int × Int × Int × Int) =>
    ptrK x0 fun (a4 : Addr) =>
    bindO (stZ [.int .i64, .int .i64, .int .i64, .int .i64, .int .i64] h5 a4 ((x12, x13, x14, x15, x16) : Int × Int × Int × Int × Int)) fun (h7 : H) =>
    ptrK x0 fun (a5 : Addr) =>
    bindO (ldZ [.int .i64, .int .i64, .int .i64, .int .i64, .int .i64] h7 a5) fun ((x17, x18, x19, x20, x21) : Int × Int × Int × Int × Int) =>
    some ((x17, (x18, (x19, (x20, x21)))), h7))
noncomputable def head_Of : Int → Int → Int → H → Option (((Int × Int × Int × Int × Int)) × H) := P.head_Of head_pieces head_Right
noncomputable def ann_31 : Ann := ⟨fun i => bif i.beq 4 then some ⟨[6, 7], [⟨false, [.ptr]⟩, ⟨false, [.ptr]⟩]⟩ else none, fun _ => none, fun i => bif i.beq 2 then some ⟨[2, 6, 7, 17], [⟨false, [.int .i64]⟩, ⟨false, [.ptr]⟩, ⟨false, [.ptr]⟩, ⟨false, [.bool]⟩]⟩ else none⟩
noncomputable def E_31 : Ent := ⟨31, [⟨false, [.int .i64]⟩, ⟨false, [.int .i64]⟩, ⟨false, [.int .i64]⟩], [⟨true, [.int .i64, .int .i64, .int .i64, .int .i64, .int .i64]⟩], fun (x : Int × Int × Int) h => head_Of x.1 x.2.1 x.2.2 h⟩
theorem eq_31 (head_pieces : Int → H → Option ((Int) × H)) (head_Right : (Int × Int × Int × Int × Int) → H → Option ((Bool) × H)) : (fun (x : PT E_31.ps) (h : H) => runFK Go.Proofs.Ythiccnmplgdheaa.Tab.D (lstK [⟨95, [⟨false, [.int .i64]⟩], [⟨false, [.int .i64]⟩], fun (x : Int) h => head_pieces x h⟩, ⟨39, [⟨true, [.int .i64, .int .i64, .int .i64, .int .i64, .int .i64]⟩], [⟨false, [.bool]⟩], fun (x : (Int × Int × Int × Int × Int)) h => head_Right x h⟩]) ann_31 Try.f31 (Try.f31.body.getD .skip) E_31.ys (encP E_31.ps x) h) = (fun (x : Int × Int × Int) h => P.head_Of head_pieces head_Right x.1 x.2.1 x.2.2 h) := by kernel_rfl
theorem ok_31 : E_31.ok Go.Proofs.Ythiccnmplgdheaa.Tab.D := fun x h y h' e => runFK_ok (lstK_ok [E_95, E_39] (List.forall_mem_cons.2 ⟨ok_95, List.forall_mem_cons.2 ⟨ok_39, fun E h => nomatch h⟩⟩)) (A := ann_31) (by kernel_rfl) (show Go.Proofs.Ythiccnmplgdheaa.Tab.D.fn.get 31 = some Try.f31 by kernel_rfl) (show Try.f31.body = some (Try.f31.body.getD .skip) by kernel_rfl) ((congrFun (congrFun (eq_31 head_pieces head_Right) x) h).trans e)
/-! hand_Text -/
noncomputable def hand_Text_l1 : ((Sl × (Int × (Sl × Int))) × H) → Option (((Sl × (Int × (Sl × Int))) × H) ⊕ ((Sl × H) ⊕ (Sl × H))) := fun ((b, (n, (out, i))), h0) =>
  condK (decide ((i < n))) (
    joinO (
      condK (decide ((((b.len : Nat) : Int) > 0))) (
        bindO (remT .i64 i ((b.len : Nat) : Int)) fun (x0 : Int) =>
        bindO (ixT 1 b x0) fun (a0 : Addr) =>
        bindO (ldI .u8 h0 a0) fun (x1 : Int) =>
        letO ((IntKind.wrap .u8 ((IntKind.wrap .u8 (IntKind.wrap .i64 (i * 7))) + x1))) fun (x2 : Int) =>
        some (Sum.inl ((b, (n, (out, (i, x2)))), h0))) (
        some (Sum.inl ((b, (n, (out, (i, (IntKind.wrap .u8 (IntKind.wrap .i64 (i * 7))))))), h0)))) fun (((b1, (n1, (out1, (i1, c)))), h1) : ((Sl × (Int × (Sl × (Int × Int)))) × H)) =>
    newO (row 5 [(.int .u8 c)]) h1 fun (b2 : Nat) (h2 : H) =>
    bind2 (appT 5 1 1 h2 out1 (⟨(some (⟨b2, 0, (some 0)⟩ : Addr)), 1, 1⟩ : Sl)) fun (x0 : Sl) (h3 : H) =>
    some (Sum.inl ((b1, (n1, (x0, (IntKind.wrap .i64 (i1 + 1))))), h3))) (
    some (Sum.inr (Sum.inl (out, h0))))

noncomputable def hand_Text (b : Sl) (n : Int) (h : H) : Option (Sl × H) :=
  joinO (
    loopO hand_Text_l1 ((b, (n, ((⟨none, 0, 0⟩ : Sl), 0))), h)) fun ((out, h0) : (Sl × H)) =>
  some (out, h0)
noncomputable def ann_33 : Ann := ⟨fun i => bif i.beq 8 then some ⟨[0, 1, 5, 6, 7], [⟨false, [.sl]⟩, ⟨false, [.int .i64]⟩, ⟨false, [.sl]⟩, ⟨false, [.int .i64]⟩, ⟨false, [.int .u8]⟩]⟩ else bif i.beq 9 then some ⟨[5], [⟨false, [.sl]⟩]⟩ else none, fun i => bif i.beq 3 then some ⟨[0, 1, 5, 6], [⟨false, [.sl]⟩, ⟨false, [.int .i64]⟩, ⟨false, [.sl]⟩, ⟨false, [.int .i64]⟩]⟩ else none, fun _ => none⟩
noncomputable def E_33 : Ent := ⟨33, [⟨false, [.sl]⟩, ⟨false, [.int .i64]⟩], [⟨false, [.sl]⟩], fun (x : Sl × Int) h => hand_Text x.1 x.2 h⟩
theorem eq_33  : (fun (x : PT E_33.ps) (h : H) => runFK Go.Proofs.Ythiccnmplgdheaa.Tab.D (lstK []) ann_33 Try.f33 (Try.f33.body.getD .skip) E_33.ys (encP E_33.ps x) h) = (fun (x : Sl × Int) h => hand_Text x.1 x.2 h) := by kernel_rfl
theorem ok_33 : E_33.ok Go.Proofs.Ythiccnmplgdheaa.Tab.D := fun x h y h' e => runFK_ok (lstK_ok [] (fun E h => nomatch h)) (A := ann_33) (by kernel_rfl) (show Go.Proofs.Ythiccnmplgdheaa.Tab.D.fn.get 33 = some Try.f33 by kernel_rfl) (show Try.f33.body = some (Try.f33.body.getD .skip) by kernel_rfl) ((congrFun (congrFun (eq_33 ) x) h).trans e)
/-! head_bounds -/
noncomputable def head_bounds (h0 : Int × Int × Int × Int × Int) (h : H) : Option ((Int × Int) × H) :=
  newO (row 46 [(.int .i64 h0.1), (.int .i64 h0.2.1), (.int .i64 h0.2.2.1), (.int .i64 h0.2.2.2.1), (.int .i64 h0.2.2.2.2)]) h fun (b : Nat) (h1 : H) =>
  bindO (ldI .i64 h1 (add (⟨b, 0, (some 0)⟩ : Addr) 3)) fun (x0 : Int) =>
  bindO (ldI .i64 h1 (add (⟨b, 0, (some 0)⟩ : Addr) 4)) fun (x1 : Int) =>
  letO ((if (x1 < (IntKind.wrap .i64 ((IntKind.wrap .i64 (x0 * 80)) + 80))) then x1 else (IntKind.wrap .i64 ((IntKind.wrap .i64 (x0 * 80)) + 80)))) fun (x2 : Int) =>
  some (((IntKind.wrap .i64 (x0 * 80)), x2), h1)
noncomputable def ann_96 : Ann := ⟨fun _ => none, fun _ => none, fun _ => none⟩
noncomputable def E_96 : Ent := ⟨96, [⟨true, [.int .i64, .int .i64, .int .i64, .int .i64, .int .i64]⟩], [⟨false, [.int .i64]⟩, ⟨false, [.int .i64]⟩], fun (x : (Int × Int × Int × Int × Int)) h => head_bounds x h⟩
theorem eq_96  : (fun (x : PT E_96.ps) (h : H) => runFK Go.Proofs.Ythiccnmplgdheaa.Tab.D (lstK []) ann_96 Try.f96 (Try.f96.body.getD .skip) E_96.ys (encP E_96.ps x) h) = (fun (x : (Int × Int × Int × Int × Int)) h => head_bounds x h) := by kernel_rfl
theorem ok_96 : E_96.ok Go.Proofs.Ythiccnmplgdheaa.Tab.D := fun x h y h' e => runFK_ok (lstK_ok [] (fun E h => nomatch h)) (A := ann_96) (by kernel_rfl) (show Go.Proofs.Ythiccnmplgdheaa.Tab.D.fn.get 96 = some Try.f96 by kernel_rfl) (show Try.f96.body = some (Try.f96.body.getD .skip) by kernel_rfl) ((congrFun (congrFun (eq_96 ) x) h).trans e)
/-! slices_Clone_byte -/
noncomputable def slices_Clone_byte (s : Sl) (h : H) : Option (Sl × H) :=
  bindO (eqLT s (⟨none, 0, 0⟩ : Sl)) fun (x0 : Bool) =>
  condK x0 (
    some ((⟨none, 0, 0⟩ : Sl), h)) (
    newO (row 5 []) h fun (b : Nat) (h0 : H) =>
    bind2 (appT 5 1 1 h0 (⟨(some (⟨b, 0, (some 0)⟩ : Addr)), 0, 0⟩ : Sl) s) fun (x1 : Sl) (h1 : H) =>
    some (x1, h1))
noncomputable def ann_98 : Ann := ⟨fun _ => none, fun _ => none, fun _ => none⟩
noncomputable def E_98 : Ent := ⟨98, [⟨false, [.sl]⟩], [⟨false, [.sl]⟩], fun (x : Sl) h => slices_Clone_byte x h⟩
theorem eq_98  : (fun (x : PT E_98.ps) (h : H) => runFK Go.Proofs.Ythiccnmplgdheaa.Tab.D (lstK []) ann_98 Try.f98 (Try.f98.body.getD .skip) E_98.ys (encP E_98.ps x) h) = (fun (x : Sl) h => slices_Clone_byte x h) := by kernel_rfl
theorem ok_98 : E_98.ok Go.Proofs.Ythiccnmplgdheaa.Tab.D := fun x h y h' e => runFK_ok (lstK_ok [] (fun E h => nomatch h)) (A := ann_98) (by kernel_rfl) (show Go.Proofs.Ythiccnmplgdheaa.Tab.D.fn.get 98 = some Try.f98 by kernel_rfl) (show Try.f98.body = some (Try.f98.body.getD .skip) by kernel_rfl) ((congrFun (congrFun (eq_98 ) x) h).trans e)
/-! slices_Clip_byte -/
noncomputable def slices_Clip_byte (s : Sl) (h : H) : Option (Sl × H) :=
  bindO (slT 1 h s none (some ((s.len : Nat) : Int)) (some ((s.len : Nat) : Int))) fun (x0 : Sl) =>
  some (x0, h)
noncomputable def ann_97 : Ann := ⟨fun _ => none, fun _ => none, fun _ => none⟩
noncomputable def E_97 : Ent := ⟨97, [⟨false, [.sl]⟩], [⟨false, [.sl]⟩], fun (x : Sl) h => slices_Clip_byte x h⟩
theorem eq_97  : (fun (x : PT E_97.ps) (h : H) => runFK Go.Proofs.Ythiccnmplgdheaa.Tab.D (lstK []) ann_97 Try.f97 (Try.f97.body.getD .skip) E_97.ys (encP E_97.ps x) h) = (fun (x : Sl) h => slices_Clip_byte x h) := by kernel_rfl
theorem ok_97 : E_97.ok Go.Proofs.Ythiccnmplgdheaa.Tab.D := fun x h y h' e => runFK_ok (lstK_ok [] (fun E h => nomatch h)) (A := ann_97) (by kernel_rfl) (show Go.Proofs.Ythiccnmplgdheaa.Tab.D.fn.get 97 = some Try.f97 by kernel_rfl) (show Try.f97.body = some (Try.f97.body.getD .skip) by kernel_rfl) ((congrFun (congrFun (eq_97 ) x) h).trans e)
/-! head_Part -/
noncomputable def P.head_Part (head_Right : (Int × Int × Int × Int × Int) → H → Option ((Bool) × H)) (head_bounds : (Int × Int × Int × Int × Int) → H → Option ((Int × Int) × H)) (slices_Clone_byte : Sl → H → Option ((Sl) × H)) (slices_Clip_byte : Sl → H → Option ((Sl) × H)) (h0 : Int × Int × Int × Int × Int) (b : Sl) (h : H) : Option (Sl × H) :=
  newO (row 46 [(.int .i64 h0.1), (.int .i64 h0.2.1), (.int .i64 h0.2.2.1), (.int .i64 h0.2.2.2.1), (.int .i64 h0.2.2.2.2)]) h fun (b1 : Nat) (h1 : H) =>
  joinO (
    bindO (ldZ [.int .i64, .int .i64, .int .i64, .int .i64, .int .i64] h1 (⟨b1, 0, (some 0)⟩ : Addr)) fun ((x0, x1, x2, x3, x4) : Int × Int × Int × Int × Int) =>
    bind2 (head_Right (x0, x1, x2, x3, x4) h1) fun (x5 : Bool) (h2 : H) =>
    condK (!x5) (
      some (Sum.inl ((b, ((some (⟨b1, 0, (some 0)⟩ : Addr)), true)), h2))) (
      bindO (ldI .i64 h2 (add (⟨b1, 0, (some 0)⟩ : Addr) 4)) fun (x6 : Int) =>
      some (Sum.inl ((b, ((some (⟨b1, 0, (some 0)⟩ : Addr)), (((b.len : Nat) : Int) != x6))), h2)))) fun (((b2, (h2, x0)), h3) : ((Sl × ((Option Addr) × Bool)) × H)) =>
  condK x0 (
    some ((⟨none, 0, 0⟩ : Sl), h3)) (
    ptrK h2 fun (a0 : Addr) =>
    bindO (ldZ [.int .i64, .int .i64, .int .i64, .int .i64, .int .i64] h3 a0) fun ((x1, x2, x3, x4, x5) : Int × Int × Int × Int × Int) =>
    bind2 (head_bounds (x1, x2, x3, x4, x5) h3) fun ((x6, x7) : Int × Int) (h4 : H) =>
    bindO (slT 1 h4 b2 (some x6) (some x7) none) fun (x8 : Sl) =>
    bind2 (slices_Clone_byte x8 h4) fun (x9 : Sl) (h5 : H) =>
    bind2 (slices_Clip_byte x9 h5) fun (x10 : Sl) (h6 : H) =>
    some (x10, h6))
noncomputable def head_Part : (Int × Int × Int × Int × Int) → Sl → H → Option ((Sl) × H) := P.head_Part head_Right head_bounds slices_Clone_byte slices_Clip_byte
noncomputable def ann_32 : Ann := ⟨fun _ => none, fun _ => none, fun i => bif i.beq 1 then some ⟨[1, 2, 16], [⟨false, [.sl]⟩, ⟨false, [.ptr]⟩, ⟨false, [.bool]⟩]⟩ else none⟩
noncomputable def E_32 : Ent := ⟨32, [⟨true, [.int .i64, .int .i64, .int .i64, .int .i64, .int .i64]⟩, ⟨false, [.sl]⟩], [⟨false, [.sl]⟩], fun (x : ((Int × Int × Int × Int × Int)) × Sl) h => head_Part x.1 x.2 h⟩
theorem eq_32 (head_Right : (Int × Int × Int × Int × Int) → H → Option ((Bool) × H)) (head_bounds : (Int × Int × Int × Int × Int) → H → Option ((Int × Int) × H)) (slices_Clone_byte : Sl → H → Option ((Sl) × H)) (slices_Clip_byte : Sl → H → Option ((Sl) × H)) : (fun (x : PT E_32.ps) (h : H) => runFK Go.Proofs.Ythiccnmplgdheaa.Tab.D (lstK [⟨39, [⟨true, [.int .i64, .int .i64, .int .i64, .int .i64, .int .i64]⟩], [⟨false, [.bool]⟩], fun (x : (Int × Int × Int × Int × Int)) h => head_Right x h⟩, ⟨96, [⟨true, [.int .i64, .int .i64, .int .i64, .int .i64, .int .i64]⟩], [⟨false, [.int .i64]⟩, ⟨false, [.int .i64]⟩], fun (x : (Int × Int × Int × Int × Int)) h => head_bounds x h⟩, ⟨98, [⟨false, [.sl]⟩], [⟨false, [.sl]⟩], fun (x : Sl) h => slices_Clone_byte x h⟩, ⟨97, [⟨false, [.sl]⟩], [⟨false, [.sl]⟩], fun (x : Sl) h => slices_Clip_byte x h⟩]) ann_32 Try.f32 (Try.f32.body.getD .skip) E_32.ys (encP E_32.ps x) h) = (fun (x : ((Int × Int × Int × Int × Int)) × Sl) h => P.head_Part head_Right head_bounds slices_Clone_byte slices_Clip_byte x.1 x.2 h) := by kernel_rfl
theorem ok_32 : E_32.ok Go.Proofs.Ythiccnmplgdheaa.Tab.D := fun x h y h' e => runFK_ok (lstK_ok [E_39, E_96, E_98, E_97] (List.forall_mem_cons.2 ⟨ok_39, List.forall_mem_cons.2 ⟨ok_96, List.forall_mem_cons.2 ⟨ok_98, List.forall_mem_cons.2 ⟨ok_97, fun E h => nomatch h⟩⟩⟩⟩)) (A := ann_32) (by kernel_rfl) (show Go.Proofs.Ythiccnmplgdheaa.Tab.D.fn.get 32 = some Try.f32 by kernel_rfl) (show Try.f32.body = some (Try.f32.body.getD .skip) by kernel_rfl) ((congrFun (congrFun (eq_32 head_Right head_bounds slices_Clone_byte slices_Clip_byte) x) h).trans e)
/-! slices_Grow_byte -/
noncomputable def slices_Grow_byte (s : Sl) (n : Int) (h : H) : Option (Sl × H) :=
  joinO (
    condK (decide ((n < 0))) (
      none) (
      some (Sum.inl ((s, n), h)))) fun (((s1, n1), h0) : ((Sl × Int) × H)) =>
  joinO (
    bindO (capT s1) fun (x0 : Int) =>
    letO ((IntKind.wrap .i64 (n1 - (IntKind.wrap .i64 (x0 - ((s1.len : Nat) : Int)))))) fun (x1 : Int) =>
    condK (decide ((x1 > 0))) (
      bindO (capT s1) fun (x2 : Int) =>
      bindO (slT 1 h0 s1 none (some x2) none) fun (x3 : Sl) =>
      bind2 (appNT 5 1 1 (.int .u8 0) h0 x3 x1) fun (x4 : Sl) (h1 : H) =>
      bindO (slT 1 h1 x4 none (some ((s1.len : Nat) : Int)) none) fun (x5 : Sl) =>
      some (Sum.inl (x5, h1))) (
      some (Sum.inl (s1, h0)))) fun ((s2, h1) : (Sl × H)) =>
  some (s2, h1)
noncomputable def ann_149 : Ann := ⟨fun i => bif i.beq 3 then some ⟨[0, 1], [⟨false, [.sl]⟩, ⟨false, [.int .i64]⟩]⟩ else bif i.beq 6 then some ⟨[0], [⟨false, [.sl]⟩]⟩ else none, fun _ => none, fun _ => none⟩
noncomputable def E_149 : Ent := ⟨149, [⟨false, [.sl]⟩, ⟨false, [.int .i64]⟩], [⟨false, [.sl]⟩], fun (x : Sl × Int) h => slices_Grow_byte x.1 x.2 h⟩
theorem eq_149  : (fun (x : PT E_149.ps) (h : H) => runFK Go.Proofs.Ythiccnmplgdheaa.Tab.D (lstK []) ann_149 Try.f149 (Try.f149.body.getD .skip) E_149.ys (encP E_149.ps x) h) = (fun (x : Sl × Int) h => slices_Grow_byte x.1 x.2 h) := by kernel_rfl
theorem ok_149 : E_149.ok Go.Proofs.Ythiccnmplgdheaa.Tab.D := fun x h y h' e => runFK_ok (lstK_ok [] (fun E h => nomatch h)) (A := ann_149) (by kernel_rfl) (show Go.Proofs.Ythiccnmplgdheaa.Tab.D.fn.get 149 = some Try.f149 by kernel_rfl) (show Try.f149.body = some (Try.f149.body.getD .skip) by kernel_rfl) ((congrFun (congrFun (eq_149 ) x) h).trans e)
/-! slices_Concat_byte -/
noncomputable def P.slices_Concat_byte_l2 (slices_Grow_byte : Sl → Int → H → Option ((Sl) × H)) : ((Sl × (Sl × (Int × Int))) × H) → Option (((Sl × (Sl × (Int × Int))) × H) ⊕ ((Sl × H) ⊕ (Sl × H))) := fun ((newslice, (x0, (x1, x2))), h0) =>
  condK (decide ((x2 < x1))) (
    bindO (ixT 1 x0 x2) fun (a0 : Addr) =>
    bindO (ldL h0 a0) fun (x3 : Sl) =>
    bind2 (appT 5 1 1 h0 newslice x3) fun (x4 : Sl) (h1 : H) =>
    some (Sum.inl ((x4, (x0, (x1, (IntKind.wrap .i64 (x2 + 1))))), h1))) (
    some (Sum.inr (Sum.inl (newslice, h0))))

noncomputable def P.slices_Concat_byte_l1 (slices_Grow_byte : Sl → Int → H → Option ((Sl) × H)) : ((Sl × (Int × (Sl × (Int × Int)))) × H) → Option (((Sl × (Int × (Sl × (Int × Int)))) × H) ⊕ (((Sl × Int) × H) ⊕ (Sl × H))) := fun ((slices, (size, (x0, (x1, x2)))), h0) =>
  condK (decide ((x2 < x1))) (
    joinO (
      bindO (ixT 1 x0 x2) fun (a0 : Addr) =>
      bindO (ldL h0 a0) fun (x3 : Sl) =>
      condK (decide (((IntKind.wrap .i64 (size + ((x3.len : Nat) : Int))) < 0))) (
        none) (
        some (Sum.inl ((slices, ((IntKind.wrap .i64 (size + ((x3.len : Nat) : Int))), (x0, (x1, x2)))), h0)))) fun (((slices1, (size1, (x3, (x4, x5)))), h1) : ((Sl × (Int × (Sl × (Int × Int)))) × H)) =>
    some (Sum.inl ((slices1, (size1, (x3, (x4, (IntKind.wrap .i64 (x5 + 1)))))), h1))) (
    some (Sum.inr (Sum.inl ((slices, size), h0))))

noncomputable def P.slices_Concat_byte (slices_Grow_byte : Sl → Int → H → Option ((Sl) × H)) (slices : Sl) (h : H) : Option (Sl × H) :=
  joinO (
    loopO (P.slices_Concat_byte_l1 slices_Grow_byte) ((slices, (0, (slices, (((slices.len : Nat) : Int), 0)))), h)) fun (((slices1, size), h0) : ((Sl × Int) × H)) =>
  bind2 (slices_Grow_byte (⟨none, 0, 0⟩ : Sl) size h0) fun (x0 : Sl) (h1 : H) =>
  joinO (
    loopO (P.slices_Concat_byte_l2 slices_Grow_byte) ((x0, (slices1, (((slices1.len : Nat) : Int), 0))), h1)) fun ((newslice, h2) : (Sl × H)) =>
  some (newslice, h2)
noncomputable abbrev slices_Concat_byte_l2 := P.slices_Concat_byte_l2 slices_Grow_byte
noncomputable abbrev slices_Concat_byte_l1 := P.slices_Concat_byte_l1 slices_Grow_byte
noncomputable def slices_Concat_byte : Sl → H → Option ((Sl) × H) := P.slices_Concat_byte slices_Grow_byte
noncomputable def ann_99 : Ann := ⟨fun i => bif i.beq 8 then some ⟨[0, 3, 9, 10, 11], [⟨false, [.sl]⟩, ⟨false, [.int .i64]⟩, ⟨false, [.sl]⟩, ⟨false, [.int .i64]⟩, ⟨false, [.int .i64]⟩]⟩ else bif i.beq 9 then some ⟨[0, 3], [⟨false, [.sl]⟩, ⟨false, [.int .i64]⟩]⟩ else bif i.beq 15 then some ⟨[6], [⟨false, [.sl]⟩]⟩ else none, fun i => bif i.beq 3 then some ⟨[0, 3, 9, 10, 11], [⟨false, [.sl]⟩, ⟨false, [.int .i64]⟩, ⟨false, [.sl]⟩, ⟨false, [.int .i64]⟩, ⟨false, [.int .i64]⟩]⟩ else bif i.beq 11 then some ⟨[6, 25, 26, 27], [⟨false, [.sl]⟩, ⟨false, [.sl]⟩, ⟨false, [.int .i64]⟩, ⟨false, [.int .i64]⟩]⟩ else none, fun _ => none⟩
noncomputable def E_99 : Ent := ⟨99, [⟨false, [.sl]⟩], [⟨false, [.sl]⟩], fun (x : Sl) h => slices_Concat_byte x h⟩
theorem eq_99 (slices_Grow_byte : Sl → Int → H → Option ((Sl) × H)) : (fun (x : PT E_99.ps) (h : H) => runFK Go.Proofs.Ythiccnmplgdheaa.Tab.D (lstK [⟨149, [⟨false, [.sl]⟩, ⟨false, [.int .i64]⟩], [⟨false, [.sl]⟩], fun (x : Sl × Int) h => slices_Grow_byte x.1 x.2 h⟩]) ann_99 Try.f99 (Try.f99.body.getD .skip) E_99.ys (encP E_99.ps x) h) = (fun (x : Sl) h => P.slices_Concat_byte slices_Grow_byte x h) := by kernel_rfl
theorem ok_99 : E_99.ok Go.Proofs.Ythiccnmplgdheaa.Tab.D := fun x h y h' e => runFK_ok (lstK_ok [E_149] (List.forall_mem_cons.2 ⟨ok_149, fun E h => nomatch h⟩)) (A := ann_99) (by kernel_rfl) (show Go.Proofs.Ythiccnmplgdheaa.Tab.D.fn.get 99 = some Try.f99 by kernel_rfl) (show Try.f99.body = some (Try.f99.body.getD .skip) by kernel_rfl) ((congrFun (congrFun (eq_99 slices_Grow_byte) x) h).trans e)
/-! math_bits_Len32 -/
noncomputable def math_bits_Len32 (x0 : Int) (h : H) : Option (Int × H) :=
  joinO (
    condK (decide ((x0 ≥ 65536))) (
      some (Sum.inl (((Int.fdiv x0 65536), 16), h))) (
      some (Sum.inl ((x0, 0), h)))) fun (((x1, n), h0) : ((Int × Int) × H)) =>
  joinO (
    condK (decide ((x1 ≥ 256))) (
      some (Sum.inl (((Int.fdiv x1 256), (IntKind.wrap .i64 (n + 8))), h0))) (
      some (Sum.inl ((x1, n), h0)))) fun (((x2, n1), h1) : ((Int × Int) × H)) =>
  bindO (ixST (⟨#[0, 1, 2, 2, 3, 3, 3, 3, 4, 4, 4, 4, 4, 4, 4, 4, 5, 5, 5, 5, 5, 5, 5, 5, 5, 5, 5, 5, 5, 5, 5, 5, 6, 6, 6, 6, 6, 6, 6, 6, 6, 6, 6, 6, 6, 6, 6, 6, 6, 6, 6, 6, 6, 6, 6, 6, 6, 6, 6, 6, 6, 6, 6, 6, 7, 7, 7, 7, 7, 7, 7, 7, 7, 7, 7, 7, 7, 7, 7, 7, 7, 7, 7, 7, 7, 7, 7, 7, 7, 7, 7, 7, 7, 7, 7, 7, 7, 7, 7, 7, 7, 7, 7, 7, 7, 7, 7, 7, 7, 7, 7, 7, 7, 7, 7, 7, 7, 7, 7, 7, 7, 7, 7, 7, 7, 7, 7, 7, 8, 8, 8, 8, 8, 8, 8, 8, 8, 8, 8, 8, 8, 8, 8, 8, 8, 8, 8, 8, 8, 8, 8, 8, 8, 8, 8, 8, 8, 8, 8, 8, 8, 8, 8, 8, 8, 8, 8, 8, 8, 8, 8, 8, 8, 8, 8, 8, 8, 8, 8, 8, 8, 8, 8, 8, 8, 8, 8, 8, 8, 8, 8, 8, 8, 8, 8, 8, 8, 8, 8, 8, 8, 8, 8, 8, 8, 8, 8, 8, 8, 8, 8, 8, 8, 8, 8, 8, 8, 8, 8, 8, 8, 8, 8, 8, 8, 8, 8, 8, 8, 8, 8, 8, 8, 8, 8, 8, 8, 8, 8, 8, 8, 8, 8, 8, 8, 8, 8, 8, 8, 8, 8, 8, 8, 8, 8, 8]⟩ : ByteArray) (IntKind.wrap .u8 x2)) fun (x3 : Int) =>
  some ((IntKind.wrap .i64 (n1 + (IntKind.wrap .i64 x3))), h1)
noncomputable def ann_187 : Ann := ⟨fun i => bif i.beq 4 then some ⟨[0, 2], [⟨false, [.int .u32]⟩, ⟨false, [.int .i64]⟩]⟩ else bif i.beq 7 then some ⟨[0, 2], [⟨false, [.int .u32]⟩, ⟨false, [.int .i64]⟩]⟩ else none, fun _ => none, fun _ => none⟩
noncomputable def E_187 : Ent := ⟨187, [⟨false, [.int .u32]⟩], [⟨false, [.int .i64]⟩], fun (x : Int) h => math_bits_Len32 x h⟩
theorem eq_187  : (fun (x : PT E_187.ps) (h : H) => runFK Go.Proofs.Ythiccnmplgdheaa.Tab.D (lstK []) ann_187 Try.f187 (Try.f187.body.getD .skip) E_187.ys (encP E_187.ps x) h) = (fun (x : Int) h => math_bits_Len32 x h) := by kernel_rfl
theorem ok_187 : E_187.ok Go.Proofs.Ythiccnmplgdheaa.Tab.D := fun x h y h' e => runFK_ok (lstK_ok [] (fun E h => nomatch h)) (A := ann_187) (by kernel_rfl) (show Go.Proofs.Ythiccnmplgdheaa.Tab.D.fn.get 187 = some Try.f187 by kernel_rfl) (show Try.f187.body = some (Try.f187.body.getD .skip) by kernel_rfl) ((congrFun (congrFun (eq_187 ) x) h).trans e)
/-! math_bits_Len64 -/
noncomputable def math_bits_Len64 (x0 : Int) (h : H) : Option (Int × H) :=
  joinO (
    condK (decide ((x0 ≥ 4294967296))) (
      some (Sum.inl (((Int.fdiv x0 4294967296), 32), h))) (
      some (Sum.inl ((x0, 0), h)))) fun (((x1, n), h0) : ((Int × Int) × H)) =>
  joinO (
    condK (decide ((x1 ≥ 65536))) (
      some (Sum.inl (((Int.fdiv x1 65536), (IntKind.wrap .i64 (n + 16))), h0))) (
      some (Sum.inl ((x1, n), h0)))) fun (((x2, n1), h1) : ((Int × Int) × H)) =>
  joinO (
    condK (decide ((x2 ≥ 256))) (
      some (Sum.inl (((Int.fdiv x2 256), (IntKind.wrap .i64 (n1 + 8))), h1))) (
      some (Sum.inl ((x2, n1), h1)))) fun (((x3, n2), h2) : ((Int × Int) × H)) =>
  bindO (ixST (⟨#[0, 1, 2, 2, 3, 3, 3, 3, 4, 4, 4, 4, 4, 4, 4, 4, 5, 5, 5, 5, 5, 5, 5, 5, 5, 5, 5, 5, 5, 5, 5, 5, 6, 6, 6, 6, 6, 6, 6, 6, 6, 6, 6, 6, 6, 6, 6, 6, 6, 6, 6, 6, 6, 6, 6, 6, 6, 6, 6, 6, 6, 6, 6, 6, 7, 7, 7, 7, 7, 7, 7, 7, 7, 7, 7, 7, 7, 7, 7, 7, 7, 7, 7, 7, 7, 7, 7, 7, 7, 7, 7, 7, 7, 7, 7, 7, 7, 7, 7, 7, 7, 7, 7, 7, 7, 7, 7, 7, 7, 7, 7, 7, 7, 7, 7, 7, 7, 7, 7, 7, 7, 7, 7, 7, 7, 7, 7, 7, 8, 8, 8, 8, 8, 8, 8, 8, 8, 8, 8, 8, 8, 8, 8, 8, 8, 8, 8, 8, 8, 8, 8, 8, 8, 8, 8, 8, 8, 8, 8, 8, 8, 8, 8, 8, 8, 8, 8, 8, 8, 8, 8, 8, 8, 8, 8, 8, 8, 8, 8, 8, 8, 8, 8, 8, 8, 8, 8, 8, 8, 8, 8, 8, 8, 8, 8, 8, 8, 8, 8, 8, 8, 8, 8, 8, 8, 8, 8, 8, 8, 8, 8, 8, 8, 8, 8, 8, 8, 8, 8, 8, 8, 8, 8, 8, 8, 8, 8, 8, 8, 8, 8, 8, 8, 8, 8, 8, 8, 8, 8, 8, 8, 8, 8, 8, 8, 8, 8, 8, 8, 8, 8, 8, 8, 8, 8, 8]⟩ : ByteArray) (IntKind.wrap .u8 x3)) fun (x4 : Int) =>
  some ((IntKind.wrap .i64 (n2 + (IntKind.wrap .i64 x4))), h2)
noncomputable def ann_188 : Ann := ⟨fun i => bif i.beq 4 then some ⟨[0, 2], [⟨false, [.int .u64]⟩, ⟨false, [.int .i64]⟩]⟩ else bif i.beq 7 then some ⟨[0, 2], [⟨false, [.int .u64]⟩, ⟨false, [.int .i64]⟩]⟩ else bif i.beq 10 then some ⟨[0, 2], [⟨false, [.int .u64]⟩, ⟨false, [.int .i64]⟩]⟩ else none, fun _ => none, fun _ => none⟩
noncomputable def E_188 : Ent := ⟨188, [⟨false, [.int .u64]⟩], [⟨false, [.int .i64]⟩], fun (x : Int) h => math_bits_Len64 x h⟩
theorem eq_188  : (fun (x : PT E_188.ps) (h : H) => runFK Go.Proofs.Ythiccnmplgdheaa.Tab.D (lstK []) ann_188 Try.f188 (Try.f188.body.getD .skip) E_188.ys (encP E_188.ps x) h) = (fun (x : Int) h => math_bits_Len64 x h) := by kernel_rfl
theorem ok_188 : E_188.ok Go.Proofs.Ythiccnmplgdheaa.Tab.D := fun x h y h' e => runFK_ok (lstK_ok [] (fun E h => nomatch h)) (A := ann_188) (by kernel_rfl) (show Go.Proofs.Ythiccnmplgdheaa.Tab.D.fn.get 188 = some Try.f188 by kernel_rfl) (show Try.f188.body = some (Try.f188.body.getD .skip) by kernel_rfl) ((congrFun (congrFun (eq_188 ) x) h).trans e)
/-! math_bits_Len -/
noncomputable def P.math_bits_Len (math_bits_Len32 : Int → H → Option ((Int) × H)) (math_bits_Len64 : Int → H → Option ((Int) × H)) (x0 : Int) (h : H) : Option (Int × H) :=
  bind2 (math_bits_Len64 x0 h) fun (x1 : Int) (h0 : H) =>
  some (x1, h0)
noncomputable def math_bits_Len : Int → H → Option ((Int) × H) := P.math_bits_Len math_bits_Len32 math_bits_Len64
noncomputable def ann_180 : Ann := ⟨fun _ => none, fun _ => none, fun _ => none⟩
noncomputable def E_180 : Ent := ⟨180, [⟨false, [.int .u64]⟩], [⟨false, [.int .i64]⟩], fun (x : Int) h => math_bits_Len x h⟩
theorem eq_180 (math_bits_Len32 : Int → H → Option ((Int) × H)) (math_bits_Len64 : Int → H → Option ((Int) × H)) : (fun (x : PT E_180.ps) (h : H) => runFK Go.Proofs.Ythiccnmplgdheaa.Tab.D (lstK [⟨187, [⟨false, [.int .u32]⟩], [⟨false, [.int .i64]⟩], fun (x : Int) h => math_bits_Len32 x h⟩, ⟨188, [⟨false, [.int .u64]⟩], [⟨false, [.int .i64]⟩], fun (x : Int) h => math_bits_Len64 x h⟩]) ann_180 Try.f180 (Try.f180.body.getD .skip) E_180.ys (encP E_180.ps x) h) = (fun (x : Int) h => P.math_bits_Len math_bits_Len32 math_bits_Len64 x h) := by kernel_rfl
theorem ok_180 : E_180.ok Go.Proofs.Ythiccnmplgdheaa.Tab.D := fun x h y h' e => runFK_ok (lstK_ok [E_187, E_188] (List.forall_mem_cons.2 ⟨ok_187, List.forall_mem_cons.2 ⟨ok_188, fun E h => nomatch h⟩⟩)) (A := ann_180) (by kernel_rfl) (show Go.Proofs.Ythiccnmplgdheaa.Tab.D.fn.get 180 = some Try.f180 by kernel_rfl) (show Try.f180.body = some (Try.f180.body.getD .skip) by kernel_rfl) ((congrFun (congrFun (eq_180 math_bits_Len32 math_bits_Len64) x) h).trans e)
/-! varint_kind -/
noncomputable def P.varint_kind_l1 (math_bits_Len : Int → H → Option ((Int) × H)) : ((Int × Int) × H) → Option (((Int × Int) × H) ⊕ (Int × H)) := fun ((n, x0), h0) =>
  condK (decide ((x0 < 3))) (
    bind2 (math_bits_Len (IntKind.wrap .u64 n) h0) fun (x1 : Int) (h1 : H) =>
    bindO (shlT .i64 8 .i64 x0) fun (x2 : Int) =>
    condK (decide ((x1 ≤ (IntKind.wrap .i64 (x2 - 2))))) (
      some (Sum.inr (x0, h1))) (
      some (Sum.inl ((n, (IntKind.wrap .i64 (x0 + 1))), h1)))) (
    some (Sum.inr (3, h0)))

noncomputable def P.varint_kind (math_bits_Len : Int → H → Option ((Int) × H)) (n : Int) (h : H) : Option (Int × H) :=
  joinO (
    condK (decide ((n < 0))) (
      some (Sum.inl ((n, true), h))) (
      some (Sum.inl ((n, (decide ((n > 4611686018427387903)))), h)))) fun (((n1, x0), h0) : ((Int × Bool) × H)) =>
  condK x0 (
    some ((-1), h0)) (
    loopO (P.varint_kind_l1 math_bits_Len) ((n1, 0), h0))
noncomputable abbrev varint_kind_l1 := P.varint_kind_l1 math_bits_Len
noncomputable def varint_kind : Int → H → Option ((Int) × H) := P.varint_kind math_bits_Len
noncomputable def ann_150 : Ann := ⟨fun _ => none, fun i => bif i.beq 4 then some ⟨[0, 10], [⟨false, [.int .i64]⟩, ⟨false, [.int .i64]⟩]⟩ else none, fun i => bif i.beq 1 then some ⟨[0, 9], [⟨false, [.int .i64]⟩, ⟨false, [.bool]⟩]⟩ else none⟩
noncomputable def E_150 : Ent := ⟨150, [⟨false, [.int .i64]⟩], [⟨false, [.int .i64]⟩], fun (x : Int) h => varint_kind x h⟩
theorem eq_150 (math_bits_Len : Int → H → Option ((Int) × H)) : (fun (x : PT E_150.ps) (h : H) => runFK Go.Proofs.Ythiccnmplgdheaa.Tab.D (lstK [⟨180, [⟨false, [.int .u64]⟩], [⟨false, [.int .i64]⟩], fun (x : Int) h => math_bits_Len x h⟩]) ann_150 Try.f150 (Try.f150.body.getD .skip) E_150.ys (encP E_150.ps x) h) = (fun (x : Int) h => P.varint_kind math_bits_Len x h) := by kernel_rfl
theorem ok_150 : E_150.ok Go.Proofs.Ythiccnmplgdheaa.Tab.D := fun x h y h' e => runFK_ok (lstK_ok [E_180] (List.forall_mem_cons.2 ⟨ok_180, fun E h => nomatch h⟩)) (A := ann_150) (by kernel_rfl) (show Go.Proofs.Ythiccnmplgdheaa.Tab.D.fn.get 150 = some Try.f150 by kernel_rfl) (show Try.f150.body = some (Try.f150.body.getD .skip) by kernel_rfl) ((congrFun (congrFun (eq_150 math_bits_Len) x) h).trans e)
/-! varint_Put -/
noncomputable def P.varint_Put_l2 (slices_Clone_byte : Sl → H → Option ((Sl) × H)) (varint_kind : Int → H → Option ((Int) × H)) (slices_Clip_byte : Sl → H → Option ((Sl) × H)) : ((Sl × (Int × (Int × (Int × (Int × (Sl × (Int × Int))))))) × H) → Option (((Sl × (Int × (Int × (Int × (Int × (Sl × (Int × Int))))))) × H) ⊕ (((Sl × (Int × (Int × (Sl × (Int × Int))))) × H) ⊕ (((Sl × (Sl × (Int × Int))) × H) ⊕ (((Sl × (Sl × (Int × Int))) × H) ⊕ ((Sl × H) ⊕ (Sl × H)))))) := fun ((out, (x0, (k, (first, (at', (x1, (x2, x3))))))), h0) =>
  condK (decide ((at' ≥ 0))) (
    bindO (shrT .i64 x0 .i64 at') fun (x4 : Int) =>
    newO (row 5 [(.int .u8 (IntKind.wrap .u8 x4))]) h0 fun (b : Nat) (h1 : H) =>
    bind2 (appT 5 1 1 h1 out (⟨(some (⟨b, 0, (some 0)⟩ : Addr)), 1, 1⟩ : Sl)) fun (x5 : Sl) (h2 : H) =>
    some (Sum.inl ((x5, (x0, (k, (first, ((IntKind.wrap .i64 (at' - 8)), (x1, (x2, x3))))))), h2))) (
    some (Sum.inr (Sum.inl ((out, (k, (first, (x1, (x2, x3))))), h0))))

noncomputable def P.varint_Put_l1 (slices_Clone_byte : Sl → H → Option ((Sl) × H)) (varint_kind : Int → H → Option ((Int) × H)) (slices_Clip_byte : Sl → H → Option ((Sl) × H)) : ((Sl × (Sl × (Int × Int))) × H) → Option (((Sl × (Sl × (Int × Int))) × H) ⊕ ((Sl × H) ⊕ (Sl × H))) := fun ((out, (x0, (x1, x2))), h0) =>
  condK (decide ((x2 < x1))) (
    joinO (
      bindO (ixT 1 x0 x2) fun (a0 : Addr) =>
      bindO (ldI .i64 h0 a0) fun (x3 : Int) =>
      bind2 (varint_kind x3 h0) fun (x4 : Int) (h1 : H) =>
      condK (decide ((x4 < 0))) (
        some (Sum.inr (Sum.inr (Sum.inr ((⟨none, 0, 0⟩ : Sl), h1))))) (
        joinO (
          bindO (shlT .i64 8 .i64 x4) fun (x5 : Int) =>
          loopO (P.varint_Put_l2 slices_Clone_byte varint_kind slices_Clip_byte) ((out, (x3, (x4, (((out.len : Nat) : Int), ((IntKind.wrap .i64 (x5 - 8)), (x0, (x1, x2))))))), h1)) fun (((out1, (k, (first, (x5, (x6, x7))))), h2) : ((Sl × (Int × (Int × (Sl × (Int × Int))))) × H)) =>
        bindO (ixT 1 out1 first) fun (a1 : Addr) =>
        bindO (ldI .u8 h2 a1) fun (x8 : Int) =>
        letO ((IntKind.wrap .u8 (((BitVec.toNat ((BitVec.ofInt 8 x8) ||| (BitVec.ofInt 8 (IntKind.wrap .u8 (IntKind.wrap .i64 (k * 64)))))) : Nat) : Int))) fun (x9 : Int) =>
        bindO (ixT 1 out1 first) fun (a2 : Addr) =>
        bindO (st1 h2 a2 (.int .u8 x9)) fun (h3 : H) =>
        some (Sum.inl ((out1, (x5, (x6, x7))), h3)))) fun (((out1, (x3, (x4, x5))), h1) : ((Sl × (Sl × (Int × Int))) × H)) =>
    some (Sum.inl ((out1, (x3, (x4, (IntKind.wrap .i64 (x5 + 1))))), h1))) (
    some (Sum.inr (Sum.inl (out, h0))))

noncomputable def P.varint_Put (slices_Clone_byte : Sl → H → Option ((Sl) × H)) (varint_kind : Int → H → Option ((Int) × H)) (slices_Clip_byte : Sl → H → Option ((Sl) × H)) (b : Sl) (n : Sl) (h : H) : Option (Sl × H) :=
  bind2 (slices_Clone_byte b h) fun (x0 : Sl) (h0 : H) =>
  joinO (
    loopO (P.varint_Put_l1 slices_Clone_byte varint_kind slices_Clip_byte) ((x0, (n, (((n.len : Nat) : Int), 0))), h0)) fun ((out, h1) : (Sl × H)) =>
  bind2 (slices_Clip_byte out h1) fun (x1 : Sl) (h2 : H) =>
  some (x1, h2)
noncomputable abbrev varint_Put_l2 := P.varint_Put_l2 slices_Clone_byte varint_kind slices_Clip_byte
noncomputable abbrev varint_Put_l1 := P.varint_Put_l1 slices_Clone_byte varint_kind slices_Clip_byte
noncomputable def varint_Put : Sl → Sl → H → Option ((Sl) × H) := P.varint_Put slices_Clone_byte varint_kind slices_Clip_byte
noncomputable def ann_100 : Ann := ⟨fun i => bif i.beq 13 then some ⟨[5, 8, 9, 13, 14, 15], [⟨false, [.sl]⟩, ⟨false, [.int .i64]⟩, ⟨false, [.int .i64]⟩, ⟨false, [.sl]⟩, ⟨false, [.int .i64]⟩, ⟨false, [.int .i64]⟩]⟩ else bif i.beq 14 then some ⟨[5, 13, 14, 15], [⟨false, [.sl]⟩, ⟨false, [.sl]⟩, ⟨false, [.int .i64]⟩, ⟨false, [.int .i64]⟩]⟩ else bif i.beq 15 then some ⟨[5], [⟨false, [.sl]⟩]⟩ else none, fun i => bif i.beq 3 then some ⟨[5, 13, 14, 15], [⟨false, [.sl]⟩, ⟨false, [.sl]⟩, ⟨false, [.int .i64]⟩, ⟨false, [.int .i64]⟩]⟩ else bif i.beq 10 then some ⟨[5, 7, 8, 9, 10, 13, 14, 15], [⟨false, [.sl]⟩, ⟨false, [.int .i64]⟩, ⟨false, [.int .i64]⟩, ⟨false, [.int .i64]⟩, ⟨false, [.int .i64]⟩, ⟨false, [.sl]⟩, ⟨false, [.int .i64]⟩, ⟨false, [.int .i64]⟩]⟩ else none, fun _ => none⟩
noncomputable def E_100 : Ent := ⟨100, [⟨false, [.sl]⟩, ⟨false, [.sl]⟩], [⟨false, [.sl]⟩], fun (x : Sl × Sl) h => varint_Put x.1 x.2 h⟩
theorem eq_100 (slices_Clone_byte : Sl → H → Option ((Sl) × H)) (varint_kind : Int → H → Option ((Int) × H)) (slices_Clip_byte : Sl → H → Option ((Sl) × H)) : (fun (x : PT E_100.ps) (h : H) => runFK Go.Proofs.Ythiccnmplgdheaa.Tab.D (lstK [⟨98, [⟨false, [.sl]⟩], [⟨false, [.sl]⟩], fun (x : Sl) h => slices_Clone_byte x h⟩, ⟨150, [⟨false, [.int .i64]⟩], [⟨false, [.int .i64]⟩], fun (x : Int) h => varint_kind x h⟩, ⟨97, [⟨false, [.sl]⟩], [⟨false, [.sl]⟩], fun (x : Sl) h => slices_Clip_byte x h⟩]) ann_100 Try.f100 (Try.f100.body.getD .skip) E_100.ys (encP E_100.ps x) h) = (fun (x : Sl × Sl) h => P.varint_Put slices_Clone_byte varint_kind slices_Clip_byte x.1 x.2 h) := by kernel_rfl
theorem ok_100 : E_100.ok Go.Proofs.Ythiccnmplgdheaa.Tab.D := fun x h y h' e => runFK_ok (lstK_ok [E_98, E_150, E_97] (List.forall_mem_cons.2 ⟨ok_98, List.forall_mem_cons.2 ⟨ok_150, List.forall_mem_cons.2 ⟨ok_97, fun E h => nomatch h⟩⟩⟩)) (A := ann_100) (by kernel_rfl) (show Go.Proofs.Ythiccnmplgdheaa.Tab.D.fn.get 100 = some Try.f100 by kernel_rfl) (show Try.f100.body = some (Try.f100.body.getD .skip) by kernel_rfl) ((congrFun (congrFun (eq_100 slices_Clone_byte varint_kind slices_Clip_byte) x) h).trans e)
/-! head_Lay -/
noncomputable def P.head_Lay (slices_Concat_byte : Sl → H → Option ((Sl) × H)) (head_Right : (Int × Int × Int × Int × Int) → H → Option ((Bool) × H)) (head_bounds : (Int × Int × Int × Int × Int) → H → Option ((Int × Int) × H)) (varint_Put : Sl → Sl → H → Option ((Sl) × H)) (h0 : Int × Int × Int × Int × Int) (parts : Sl) (h : H) : Option (Sl × H) :=
  newO (row 46 [(.int .i64 h0.1), (.int .i64 h0.2.1), (.int .i64 h0.2.2.1), (.int .i64 h0.2.2.2.1), (.int .i64 h0.2.2.2.2)]) h fun (b : Nat) (h1 : H) =>
  bind2 (slices_Concat_byte parts h1) fun (x0 : Sl) (h2 : H) =>
  bindO (ldZ [.int .i64, .int .i64, .int .i64, .int .i64, .int .i64] h2 (⟨b, 0, (some 0)⟩ : Addr)) fun ((x1, x2, x3, x4, x5) : Int × Int × Int × Int × Int) =>
  bind2 (head_Right (x1, x2, x3, x4, x5) h2) fun (x6 : Bool) (h3 : H) =>
  condK (!x6) (
    some ((⟨none, 0, 0⟩ : Sl), h3)) (
    bindO (ldZ [.int .i64, .int .i64, .int .i64, .int .i64, .int .i64] h3 (⟨b, 0, (some 0)⟩ : Addr)) fun ((x7, x8, x9, x10, x11) : Int × Int × Int × Int × Int) =>
    bind2 (head_bounds (x7, x8, x9, x10, x11) h3) fun ((x12, x13) : Int × Int) (h4 : H) =>
    condK (((x0.len : Nat) : Int) != (IntKind.wrap .i64 (x13 - x12))) (
      some ((⟨none, 0, 0⟩ : Sl), h4)) (
      bindO (ldI .i64 h4 (add (⟨b, 0, (some 0)⟩ : Addr) 0)) fun (x14 : Int) =>
      bindO (ldI .i64 h4 (add (⟨b, 0, (some 0)⟩ : Addr) 1)) fun (x15 : Int) =>
      bindO (ldI .i64 h4 (add (⟨b, 0, (some 0)⟩ : Addr) 2)) fun (x16 : Int) =>
      bindO (ldI .i64 h4 (add (⟨b, 0, (some 0)⟩ : Addr) 3)) fun (x17 : Int) =>
      bindO (ldI .i64 h4 (add (⟨b, 0, (some 0)⟩ : Addr) 4)) fun (x18 : Int) =>
      newO (row 3 [(.int .i64 x14), (.int .i64 x15), (.int .i64 x16), (.int .i64 x17), (.int .i64 x18)]) h4 fun (b1 : Nat) (h5 : H) =>
      bind2 (varint_Put (⟨none, 0, 0⟩ : Sl) (⟨(some (⟨b1, 0, (some 0)⟩ : Addr)), 5, 5⟩ : Sl) h5) fun (x19 : Sl) (h6 : H) =>
      newO (row 30 [(.slice x19.base x19.len x19.cap), (.slice x0.base x0.len x0.cap)]) h6 fun (b2 : Nat) (h7 : H) =>
      bind2 (slices_Concat_byte (⟨(some (⟨b2, 0, (some 0)⟩ : Addr)), 2, 2⟩ : Sl) h7) fun (x20 : Sl) (h8 : H) =>
      some (x20, h8)))
noncomputable def head_Lay : (Int × Int × Int × Int × Int) → Sl → H → Option ((Sl) × H) := P.head_Lay slices_Concat_byte head_Right head_bounds varint_Put
noncomputable def ann_35 : Ann := ⟨fun _ => none, fun _ => none, fun _ => none⟩
noncomputable def E_35 : Ent := ⟨35, [⟨true, [.int .i64, .int .i64, .int .i64, .int .i64, .int .i64]⟩, ⟨false, [.sl]⟩], [⟨false, [.sl]⟩], fun (x : ((Int × Int × Int × Int × Int)) × Sl) h => head_Lay x.1 x.2 h⟩
theorem eq_35 (slices_Concat_byte : Sl → H → Option ((Sl) × H)) (head_Right : (Int × Int × Int × Int × Int) → H → Option ((Bool) × H)) (head_bounds : (Int × Int × Int × Int × Int) → H → Option ((Int × Int) × H)) (varint_Put : Sl → Sl → H → Option ((Sl) × H)) : (fun (x : PT E_35.ps) (h : H) => runFK Go.Proofs.Ythiccnmplgdheaa.Tab.D (lstK [⟨99, [⟨false, [.sl]⟩], [⟨false, [.sl]⟩], fun (x : Sl) h => slices_Concat_byte x h⟩, ⟨39, [⟨true, [.int .i64, .int .i64, .int .i64, .int .i64, .int .i64]⟩], [⟨false, [.bool]⟩], fun (x : (Int × Int × Int × Int × Int)) h => head_Right x h⟩, ⟨96, [⟨true, [.int .i64, .int .i64, .int .i64, .int .i64, .int .i64]⟩], [⟨false, [.int .i64]⟩, ⟨false, [.int .i64]⟩], fun (x : (Int × Int × Int × Int × Int)) h => head_bounds x h⟩, ⟨100, [⟨false, [.sl]⟩, ⟨false, [.sl]⟩], [⟨false, [.sl]⟩], fun (x : Sl × Sl) h => varint_Put x.1 x.2 h⟩]) ann_35 Try.f35 (Try.f35.body.getD .skip) E_35.ys (encP E_35.ps x) h) = (fun (x : ((Int × Int × Int × Int × Int)) × Sl) h => P.head_Lay slices_Concat_byte head_Right head_bounds varint_Put x.1 x.2 h) := by kernel_rfl
theorem ok_35 : E_35.ok Go.Proofs.Ythiccnmplgdheaa.Tab.D := fun x h y h' e => runFK_ok (lstK_ok [E_99, E_39, E_96, E_100] (List.forall_mem_cons.2 ⟨ok_99, List.forall_mem_cons.2 ⟨ok_39, List.forall_mem_cons.2 ⟨ok_96, List.forall_mem_cons.2 ⟨ok_100, fun E h => nomatch h⟩⟩⟩⟩)) (A := ann_35) (by kernel_rfl) (show Go.Proofs.Ythiccnmplgdheaa.Tab.D.fn.get 35 = some Try.f35 by kernel_rfl) (show Try.f35.body = some (Try.f35.body.getD .skip) by kernel_rfl) ((congrFun (congrFun (eq_35 slices_Concat_byte head_Right head_bounds varint_Put) x) h).trans e)
/-! varint_Take -/
noncomputable def P.varint_Take_l1 (slices_Clone_byte : Sl → H → Option ((Sl) × H)) : ((Sl × (Int × (Int × (Sl × (Int × Int))))) × H) → Option (((Sl × (Int × (Int × (Sl × (Int × Int))))) × H) ⊕ (((Sl × (Int × Int)) × H) ⊕ ((Int × (Sl × Int)) × H))) := fun ((b, (n, (size, (x0, (x1, x2))))), h0) =>
  condK (decide ((x2 < x1))) (
    bindO (ixT 1 x0 x2) fun (a0 : Addr) =>
    bindO (ldI .u8 h0 a0) fun (x3 : Int) =>
    letO ((IntKind.wrap .i64 (((BitVec.toNat ((BitVec.ofInt 64 (IntKind.wrap .i64 (n * 256))) ||| (BitVec.ofInt 64 (IntKind.wrap .i64 x3)))) : Nat) : Int))) fun (x4 : Int) =>
    some (Sum.inl ((b, (x4, (size, (x0, (x1, (IntKind.wrap .i64 (x2 + 1))))))), h0))) (
    some (Sum.inr (Sum.inl ((b, (n, size)), h0))))

noncomputable def P.varint_Take (slices_Clone_byte : Sl → H → Option ((Sl) × H)) (b : Sl) (h : H) : Option ((Int × Sl × Int) × H) :=
  joinO (
    condK (((b.len : Nat) : Int) == 0) (
      some (Sum.inl ((b, true), h))) (
      bindO (ixT 1 b 0) fun (a0 : Addr) =>
      bindO (ldI .u8 h a0) fun (x0 : Int) =>
      bindO (shlT .i64 1 .u8 (Int.fdiv x0 64)) fun (x1 : Int) =>
      some (Sum.inl ((b, (decide ((((b.len : Nat) : Int) < x1)))), h)))) fun (((b1, x0), h0) : ((Sl × Bool) × H)) =>
  condK x0 (
    some ((0, ((⟨none, 0, 0⟩ : Sl), 3)), h0)) (
    bindO (ixT 1 b1 0) fun (a0 : Addr) =>
    bindO (ldI .u8 h0 a0) fun (x1 : Int) =>
    bindO (shlT .i64 1 .u8 (Int.fdiv x1 64)) fun (x2 : Int) =>
    bindO (ixT 1 b1 0) fun (a1 : Addr) =>
    bindO (ldI .u8 h0 a1) fun (x3 : Int) =>
    letO ((IntKind.wrap .u8 (((BitVec.toNat ((BitVec.ofInt 8 x3) &&& (BitVec.ofInt 8 63))) : Nat) : Int))) fun (x4 : Int) =>
    joinO (
      bindO (slT 1 h0 b1 (some 1) (some x2) none) fun (x5 : Sl) =>
      loopO (P.varint_Take_l1 slices_Clone_byte) ((b1, ((IntKind.wrap .i64 x4), (x2, (x5, (((x5.len : Nat) : Int), 0))))), h0)) fun (((b2, (n, size)), h1) : ((Sl × (Int × Int)) × H)) =>
    bindO (slT 1 h1 b2 (some size) none none) fun (x5 : Sl) =>
    bind2 (slices_Clone_byte x5 h1) fun (x6 : Sl) (h2 : H) =>
    some ((n, (x6, 0)), h2))
noncomputable abbrev varint_Take_l1 := P.varint_Take_l1 slices_Clone_byte
noncomputable def varint_Take : Sl → H → Option ((Int × Sl × Int) × H) := P.varint_Take slices_Clone_byte
noncomputable def ann_151 : Ann := ⟨fun i => bif i.beq 10 then some ⟨[0, 2, 5], [⟨false, [.sl]⟩, ⟨false, [.int .i64]⟩, ⟨false, [.int .i64]⟩]⟩ else none, fun i => bif i.beq 6 then some ⟨[0, 2, 5, 33, 34, 35], [⟨false, [.sl]⟩, ⟨false, [.int .i64]⟩, ⟨false, [.int .i64]⟩, ⟨false, [.sl]⟩, ⟨false, [.int .i64]⟩, ⟨false, [.int .i64]⟩]⟩ else none, fun i => bif i.beq 1 then some ⟨[0, 20], [⟨false, [.sl]⟩, ⟨false, [.bool]⟩]⟩ else none⟩
noncomputable def E_151 : Ent := ⟨151, [⟨false, [.sl]⟩], [⟨false, [.int .i64]⟩, ⟨false, [.sl]⟩, ⟨false, [.int .i64]⟩], fun (x : Sl) h => varint_Take x h⟩
theorem eq_151 (slices_Clone_byte : Sl → H → Option ((Sl) × H)) : (fun (x : PT E_151.ps) (h : H) => runFK Go.Proofs.Ythiccnmplgdheaa.Tab.D (lstK [⟨98, [⟨false, [.sl]⟩], [⟨false, [.sl]⟩], fun (x : Sl) h => slices_Clone_byte x h⟩]) ann_151 Try.f151 (Try.f151.body.getD .skip) E_151.ys (encP E_151.ps x) h) = (fun (x : Sl) h => P.varint_Take slices_Clone_byte x h) := by kernel_rfl
theorem ok_151 : E_151.ok Go.Proofs.Ythiccnmplgdheaa.Tab.D := fun x h y h' e => runFK_ok (lstK_ok [E_98] (List.forall_mem_cons.2 ⟨ok_98, fun E h => nomatch h⟩)) (A := ann_151) (by kernel_rfl) (show Go.Proofs.Ythiccnmplgdheaa.Tab.D.fn.get 151 = some Try.f151 by kernel_rfl) (show Try.f151.body = some (Try.f151.body.getD .skip) by kernel_rfl) ((congrFun (congrFun (eq_151 slices_Clone_byte) x) h).trans e)
/-! slices_Clip_int -/
noncomputable def slices_Clip_int (s : Sl) (h : H) : Option (Sl × H) :=
  bindO (slT 1 h s none (some ((s.len : Nat) : Int)) (some ((s.len : Nat) : Int))) fun (x0 : Sl) =>
  some (x0, h)
noncomputable def ann_116 : Ann := ⟨fun _ => none, fun _ => none, fun _ => none⟩
noncomputable def E_116 : Ent := ⟨116, [⟨false, [.sl]⟩], [⟨false, [.sl]⟩], fun (x : Sl) h => slices_Clip_int x h⟩
theorem eq_116  : (fun (x : PT E_116.ps) (h : H) => runFK Go.Proofs.Ythiccnmplgdheaa.Tab.D (lstK []) ann_116 Try.f116 (Try.f116.body.getD .skip) E_116.ys (encP E_116.ps x) h) = (fun (x : Sl) h => slices_Clip_int x h) := by kernel_rfl
theorem ok_116 : E_116.ok Go.Proofs.Ythiccnmplgdheaa.Tab.D := fun x h y h' e => runFK_ok (lstK_ok [] (fun E h => nomatch h)) (A := ann_116) (by kernel_rfl) (show Go.Proofs.Ythiccnmplgdheaa.Tab.D.fn.get 116 = some Try.f116 by kernel_rfl) (show Try.f116.body = some (Try.f116.body.getD .skip) by kernel_rfl) ((congrFun (congrFun (eq_116 ) x) h).trans e)
/-! varint_Takes -/
noncomputable def P.varint_Takes_l1 (slices_Clone_byte : Sl → H → Option ((Sl) × H)) (varint_Take : Sl → H → Option ((Int × Sl × Int) × H)) (slices_Clip_int : Sl → H → Option ((Sl) × H)) : ((Sl × (Sl × (Int × Int))) × H) → Option (((Sl × (Sl × (Int × Int))) × H) ⊕ (((Sl × Sl) × H) ⊕ ((Sl × (Sl × Int)) × H))) := fun ((l, (rest, (x0, x1))), h0) =>
  condK (decide ((x1 < x0))) (
    bind2 (varint_Take rest h0) fun ((x2, x3, x4) : Int × Sl × Int) (h1 : H) =>
    condK (x4 != 0) (
      some (Sum.inr (Sum.inr (((⟨none, 0, 0⟩ : Sl), ((⟨none, 0, 0⟩ : Sl), x4)), h1)))) (
      newO (row 3 [(.int .i64 x2)]) h1 fun (b : Nat) (h2 : H) =>
      bind2 (appT 3 1 8 h2 l (⟨(some (⟨b, 0, (some 0)⟩ : Addr)), 1, 1⟩ : Sl)) fun (x5 : Sl) (h3 : H) =>
      some (Sum.inl ((x5, (x3, (x0, (IntKind.wrap .i64 (x1 + 1))))), h3)))) (
    some (Sum.inr (Sum.inl ((l, rest), h0))))

noncomputable def P.varint_Takes (slices_Clone_byte : Sl → H → Option ((Sl) × H)) (varint_Take : Sl → H → Option ((Int × Sl × Int) × H)) (slices_Clip_int : Sl → H → Option ((Sl) × H)) (b : Sl) (count : Int) (h : H) : Option ((Sl × Sl × Int) × H) :=
  bind2 (slices_Clone_byte b h) fun (x0 : Sl) (h0 : H) =>
  joinO (
    loopO (P.varint_Takes_l1 slices_Clone_byte varint_Take slices_Clip_int) (((⟨none, 0, 0⟩ : Sl), (x0, ((if (count > 0) then count else 0), 0))), h0)) fun (((l, rest), h1) : ((Sl × Sl) × H)) =>
  bind2 (slices_Clip_int l h1) fun (x1 : Sl) (h2 : H) =>
  some ((x1, (rest, 0)), h2)
noncomputable abbrev varint_Takes_l1 := P.varint_Takes_l1 slices_Clone_byte varint_Take slices_Clip_int
noncomputable def varint_Takes : Sl → Int → H → Option ((Sl × Sl × Int) × H) := P.varint_Takes slices_Clone_byte varint_Take slices_Clip_int
noncomputable def ann_101 : Ann := ⟨fun i => bif i.beq 10 then some ⟨[4, 5], [⟨false, [.sl]⟩, ⟨false, [.sl]⟩]⟩ else none, fun i => bif i.beq 3 then some ⟨[4, 5, 11, 12], [⟨false, [.sl]⟩, ⟨false, [.sl]⟩, ⟨false, [.int .i64]⟩, ⟨false, [.int .i64]⟩]⟩ else none, fun _ => none⟩
noncomputable def E_101 : Ent := ⟨101, [⟨false, [.sl]⟩, ⟨false, [.int .i64]⟩], [⟨false, [.sl]⟩, ⟨false, [.sl]⟩, ⟨false, [.int .i64]⟩], fun (x : Sl × Int) h => varint_Takes x.1 x.2 h⟩
theorem eq_101 (slices_Clone_byte : Sl → H → Option ((Sl) × H)) (varint_Take : Sl → H → Option ((Int × Sl × Int) × H)) (slices_Clip_int : Sl → H → Option ((Sl) × H)) : (fun (x : PT E_101.ps) (h : H) => runFK Go.Proofs.Ythiccnmplgdheaa.Tab.D (lstK [⟨98, [⟨false, [.sl]⟩], [⟨false, [.sl]⟩], fun (x : Sl) h => slices_Clone_byte x h⟩, ⟨151, [⟨false, [.sl]⟩], [⟨false, [.int .i64]⟩, ⟨false, [.sl]⟩, ⟨false, [.int .i64]⟩], fun (x : Sl) h => varint_Take x h⟩, ⟨116, [⟨false, [.sl]⟩], [⟨false, [.sl]⟩], fun (x : Sl) h => slices_Clip_int x h⟩]) ann_101 Try.f101 (Try.f101.body.getD .skip) E_101.ys (encP E_101.ps x) h) = (fun (x : Sl × Int) h => P.varint_Takes slices_Clone_byte varint_Take slices_Clip_int x.1 x.2 h) := by kernel_rfl
theorem ok_101 : E_101.ok Go.Proofs.Ythiccnmplgdheaa.Tab.D := fun x h y h' e => runFK_ok (lstK_ok [E_98, E_151, E_116] (List.forall_mem_cons.2 ⟨ok_98, List.forall_mem_cons.2 ⟨ok_151, List.forall_mem_cons.2 ⟨ok_116, fun E h => nomatch h⟩⟩⟩)) (A := ann_101) (by kernel_rfl) (show Go.Proofs.Ythiccnmplgdheaa.Tab.D.fn.get 101 = some Try.f101 by kernel_rfl) (show Try.f101.body = some (Try.f101.body.getD .skip) by kernel_rfl) ((congrFun (congrFun (eq_101 slices_Clone_byte varint_Take slices_Clip_int) x) h).trans e)
/-! head_Read -/
noncomputable def P.head_Read (varint_Takes : Sl → Int → H → Option ((Sl × Sl × Int) × H)) (head_Right : (Int × Int × Int × Int × Int) → H → Option ((Bool) × H)) (head_bounds : (Int × Int × Int × Int × Int) → H → Option ((Int × Int) × H)) (b : Sl) (h : H) : Option (((Int × Int × Int × Int × Int) × Sl × Int) × H) :=
  newO (row 46 [(.int .i64 0), (.int .i64 0), (.int .i64 0), (.int .i64 0), (.int .i64 0)]) h fun (b1 : Nat) (h0 : H) =>
  bind2 (varint_Takes b 5 h0) fun ((x0, x1, x2) : Sl × Sl × Int) (h1 : H) =>
  condK (x2 != 0) (
    bindO (stZ [.int .i64, .int .i64, .int .i64, .int .i64, .int .i64] h1 (⟨b1, 0, (some 0)⟩ : Addr) ((0, 0, 0, 0, 0) : Int × Int × Int × Int × Int)) fun (h2 : H) =>
    bindO (ldZ [.int .i64, .int .i64, .int .i64, .int .i64, .int .i64] h2 (⟨b1, 0, (some 0)⟩ : Addr)) fun ((x3, x4, x5, x6, x7) : Int × Int × Int × Int × Int) =>
    some (((x3, (x4, (x5, (x6, x7)))), ((⟨none, 0, 0⟩ : Sl), x2)), h2)) (
    letH (growIf h1 18) fun (h3 : H) =>
    bindO (ixT 1 x0 0) fun (a0 : Addr) =>
    bindO (ldI .i64 h3 a0) fun (x8 : Int) =>
    bindO (ixT 1 x0 1) fun (a1 : Addr) =>
    bindO (ldI .i64 h3 a1) fun (x9 : Int) =>
    bindO (ixT 1 x0 2) fun (a2 : Addr) =>
    bindO (ldI .i64 h3 a2) fun (x10 : Int) =>
    bindO (ixT 1 x0 3) fun (a3 : Addr) =>
    bindO (ldI .i64 h3 a3) fun (x11 : Int) =>
    bindO (ixT 1 x0 4) fun (a4 : Addr) =>
    bindO (ldI .i64 h3 a4) fun (x12 : Int) =>
    letH (addP 131071 h1.size [(16, (row 46 [(.int .i64 0), (.int .i64 0), (.int .i64 0), (.int .i64 0), (.int .i64 0)]))] h3) fun (h4 : H) =>
    bindO (stZ [.int .i64, .int .i64, .int .i64, .int .i64, .int .i64] h4 (⟨(h1.size + 16), 0, (some 0)⟩ : Addr) ((x8, x9, x10, x11, x12) : Int × Int × Int × Int × Int)) fun (h5 : H) =>
    letH (addP 262143 h1.size [(16, (row 46 [(.int .i64 0), (.int .i64 0), (.int .i64 0), (.int .i64 0), (.int .i64 0)]))] h5) fun (h6 : H) =>
    letH (tickIf 18 h6) fun (h7 : H) =>
    bindO (ldZ [.int .i64, .int .i64, .int .i64, .int .i64, .int .i64] h7 (⟨(h1.size + 16), 0, (some 0)⟩ : Addr)) fun ((x13, x14, x15, x16, x17) : Int × Int × Int × Int × Int) =>
    bind2 (head_Right (x13, x14, x15, x16, x17) h7) fun (x18 : Bool) (h8 : H) =>
    condK (!x18) (
      bindO (stZ [.int .i64, .int .i64, .int .i64, .int .i64, .int .i64] h8 (⟨b1, 0, (some 0)⟩ : Addr) ((0, 0, 0, 0, 0) : Int × Int × Int × Int × Int)) fun (h9 : H) =>
      bindO (ldZ [.int .i64, .int .i64, .int .i64, .int .i64, .int .i64] h9 (⟨b1, 0, (some 0)⟩ : Addr)) fun ((x19, x20, x21, x22, x23) : Int × Int × Int × Int × Int) =>
      some (((x19, (x20, (x21, (x22, x23)))), ((⟨none, 0, 0⟩ : Sl), 2)), h9)) (
      bindO (ldZ [.int .i64, .int .i64, .int .i64, .int .i64, .int .i64] h8 (⟨(h1.size + 16), 0, (some 0)⟩ : Addr)) fun ((x24, x25, x26, x27, x28) : Int × Int × Int × Int × Int) =>
      bind2 (head_bounds (x24, x25, x26, x27, x28) h8) fun ((x29, x30) : Int × Int) (h10 : H) =>
      condK (((x1.len : Nat) : Int) != (IntKind.wrap .i64 (x30 - x29))) (
        bindO (stZ [.int .i64, .int .i64, .int .i64, .int .i64, .int .i64] h10 (⟨b1, 0, (some 0)⟩ : Addr) ((0, 0, 0, 0, 0) : Int × Int × Int × Int × Int)) fun (h11 : H) =>
        bindO (ldZ [.int .i64, .int .i64, .int .i64, .int .i64, .int .i64] h11 (⟨b1, 0, (some 0)⟩ : Addr)) fun ((x31, x32, x33, x34, x35) : Int × Int × Int × Int × Int) =>
        some (((x31, (x32, (x33, (x34, x35)))), ((⟨none, 0, 0⟩ : Sl), 2)), h11)) (
        bindO (ldZ [.int .i64, .int .i64, .int .i64, .int .i64, .int .i64] h10 (⟨(h1.size + 16), 0, (some 0)⟩ : Addr)) fun ((x36, x37, x38, x39, x40) : Int × Int × Int × Int × Int) =>
        bindO (stZ [.int .i64, .int .i64, .int .i64, .int .i64, .int .i64] h10 (⟨b1, 0, (some 0)⟩ : Addr) ((x36, x37, x38, x39, x40) : Int × Int × Int × Int × Int)) fun (h12 : H) =>
        bindO (ldZ [.int .i64, .int .i64, .int .i64, .int .i64, .int .i64] h12 (⟨b1, 0, (some 0)⟩ : Addr)) fun ((x41, x42, x43, x44, x45) : Int × Int × Int × Int × Int) =>
        some (((x41, (x42, (x43, (x44, x45)))), (x1, 0)), h12))))
noncomputable def head_Read : Sl → H → Option ((((Int × Int × Int × Int × Int)) × Sl × Int) × H) := P.head_Read varint_Takes head_Right head_bounds
noncomputable def ann_36 : Ann := ⟨fun _ => none, fun _ => none, fun _ => none⟩
noncomputable def E_36 : Ent := ⟨36, [⟨false, [.sl]⟩], [⟨true, [.int .i64, .int .i64, .int .i64, .int .i64, .int .i64]⟩, ⟨false, [.sl]⟩, ⟨false, [.int .i64]⟩], fun (x : Sl) h => head_Read x h⟩
theorem eq_36 (varint_Takes : Sl → Int → H → Option ((Sl × Sl × Int) × H)) (head_Right : (Int × Int × Int × Int × Int) → H → Option ((Bool) × H)) (head_bounds : (Int × Int × Int × Int × Int) → H → Option ((Int × Int) × H)) : (fun (x : PT E_36.ps) (h : H) => runFK Go.Proofs.Ythiccnmplgdheaa.Tab.D (lstK [⟨101, [⟨false, [.sl]⟩, ⟨false, [.int .i64]⟩], [⟨false, [.sl]⟩, ⟨false, [.sl]⟩, ⟨false, [.int .i64]⟩], fun (x : Sl × Int) h => varint_Takes x.1 x.2 h⟩, ⟨39, [⟨true, [.int .i64, .int .i64, .int .i64, .int .i64, .int .i64]⟩], [⟨false, [.bool]⟩], fun (x : (Int × Int × Int × Int × Int)) h => head_Right x h⟩, ⟨96, [⟨true, [.int .i64, .int .i64, .int .i64, .int .i64, .int .i64]⟩], [⟨false, [.int .i64]⟩, ⟨false, [.int .i64]⟩], fun (x : (Int × Int × Int × Int × Int)) h => head_bounds x h⟩]) ann_36 Try.f36 (Try.f36.body.getD .skip) E_36.ys (encP E_36.ps x) h) = (fun (x : Sl) h => P.head_Read varint_Takes head_Right head_bounds x h) := by kernel_rfl
theorem ok_36 : E_36.ok Go.Proofs.Ythiccnmplgdheaa.Tab.D := fun x h y h' e => runFK_ok (lstK_ok [E_101, E_39, E_96] (List.forall_mem_cons.2 ⟨ok_101, List.forall_mem_cons.2 ⟨ok_39, List.forall_mem_cons.2 ⟨ok_96, fun E h => nomatch h⟩⟩⟩)) (A := ann_36) (by kernel_rfl) (show Go.Proofs.Ythiccnmplgdheaa.Tab.D.fn.get 36 = some Try.f36 by kernel_rfl) (show Try.f36.body = some (Try.f36.body.getD .skip) by kernel_rfl) ((congrFun (congrFun (eq_36 varint_Takes head_Right head_bounds) x) h).trans e)
/-! law18_known -/
noncomputable def P.law18_known (head_Of : Int → Int → Int → H → Option (((Int × Int × Int × Int × Int)) × H)) (head_Lay : (Int × Int × Int × Int × Int) → Sl → H → Option ((Sl) × H)) (head_Read : Sl → H → Option ((((Int × Int × Int × Int × Int)) × Sl × Int) × H))  (h : H) : Option (Bool × H) :=
  bind2 (head_Of 3 9 81 h) fun ((x0, x1, x2, x3, x4) : Int × Int × Int × Int × Int) (h0 : H) =>
  newO (row 46 [(.int .i64 0), (.int .i64 0), (.int .i64 0), (.int .i64 0), (.int .i64 0)]) h0 fun (b : Nat) (h1 : H) =>
  bindO (stZ [.int .i64, .int .i64, .int .i64, .int .i64, .int .i64] h1 (⟨b, 0, (some 0)⟩ : Addr) ((x0, x1, x2, x3, x4) : Int × Int × Int × Int × Int)) fun (h2 : H) =>
  letH (growIf h2 5) fun (h3 : H) =>
  bindO (ldZ [.int .i64, .int .i64, .int .i64, .int .i64, .int .i64] h3 (⟨b, 0, (some 0)⟩ : Addr)) fun ((x5, x6, x7, x8, x9) : Int × Int × Int × Int × Int) =>
  letH (addP 7 h2.size [(1, (row 5 [(.int .u8 0), (.int .u8 0), (.int .u8 0), (.int .u8 0), (.int .u8 0), (.int .u8 0), (.int .u8 0), (.int .u8 0), (.int .u8 0), (.int .u8 0), (.int .u8 0), (.int .u8 0), (.int .u8 0), (.int .u8 0), (.int .u8 0), (.int .u8 0), (.int .u8 0), (.int .u8 0), (.int .u8 0), (.int .u8 0), (.int .u8 0), (.int .u8 0), (.int .u8 0), (.int .u8 0), (.int .u8 0), (.int .u8 0), (.int .u8 0), (.int .u8 0), (.int .u8 0), (.int .u8 0), (.int .u8 0), (.int .u8 0), (.int .u8 0), (.int .u8 0), (.int .u8 0), (.int .u8 0), (.int .u8 0), (.int .u8 0), (.int .u8 0), (.int .u8 0), (.int .u8 0), (.int .u8 0), (.int .u8 0), (.int .u8 0), (.int .u8 0), (.int .u8 0), (.int .u8 0), (.int .u8 0), (.int .u8 0), (.int .u8 0), (.int .u8 0), (.int .u8 0), (.int .u8 0), (.int .u8 0), (.int .u8 0), (.int .u8 0), (.int .u8 0), (.int .u8 0), (.int .u8 0), (.int .u8 0), (.int .u8 0), (.int .u8 0), (.int .u8 0), (.int .u8 0), (.int .u8 0), (.int .u8 0), (.int .u8 0), (.int .u8 0), (.int .u8 0), (.int .u8 0), (.int .u8 0), (.int .u8 0), (.int .u8 0), (.int .u8 0), (.int .u8 0), (.int .u8 0), (.int .u8 0), (.int .u8 0), (.int .u8 0), (.int .u8 0)])), (2, (row 30 [(.slice (some (⟨(h2.size + 1), 0, (some 0)⟩ : Addr)) 80 80)]))] h3) fun (h4 : H) =>
  bind2 (head_Lay (x5, x6, x7, x8, x9) (⟨(some (⟨(h2.size + 2), 0, (some 0)⟩ : Addr)), 1, 1⟩ : Sl) h4) fun (x10 : Sl) (h5 : H) =>
  letH (addP 31 h2.size [(1, (row 5 [(.int .u8 0), (.int .u8 0), (.int .u8 0), (.int .u8 0), (.int .u8 0), (.int .u8 0), (.int .u8 0), (.int .u8 0), (.int .u8 0), (.int .u8 0), (.int .u8 0), (.int .u8 0), (.int .u8 0), (.int .u8 0), (.int .u8 0), (.int .u8 0), (.int .u8 0), (.int .u8 0), (.int .u8 0), (.int .u8 0), (.int .u8 0), (.int .u8 0), (.int .u8 0), (.int .u8 0), (.int .u8 0), (.int .u8 0), (.int .u8 0), (.int .u8 0), (.int .u8 0), (.int .u8 0), (.int .u8 0), (.int .u8 0), (.int .u8 0), (.int .u8 0), (.int .u8 0), (.int .u8 0), (.int .u8 0), (.int .u8 0), (.int .u8 0), (.int .u8 0), (.int .u8 0), (.int .u8 0), (.int .u8 0), (.int .u8 0), (.int .u8 0), (.int .u8 0), (.int .u8 0), (.int .u8 0), (.int .u8 0), (.int .u8 0), (.int .u8 0), (.int .u8 0), (.int .u8 0), (.int .u8 0), (.int .u8 0), (.int .u8 0), (.int .u8 0), (.int .u8 0), (.int .u8 0), (.int .u8 0), (.int .u8 0), (.int .u8 0), (.int .u8 0), (.int .u8 0), (.int .u8 0), (.int .u8 0), (.int .u8 0), (.int .u8 0), (.int .u8 0), (.int .u8 0), (.int .u8 0), (.int .u8 0), (.int .u8 0), (.int .u8 0), (.int .u8 0), (.int .u8 0), (.int .u8 0), (.int .u8 0), (.int .u8 0), (.int .u8 0)])), (2, (row 30 [(.slice (some (⟨(h2.size + 1), 0, (some 0)⟩ : Addr)) 80 80)]))] h5) fun (h6 : H) =>
  letH (tickIf 5 h6) fun (h7 : H) =>
  bind2 (head_Read x10 h7) fun (((x11, x12, x13, x14, x15), x16, x17) : (Int × Int × Int × Int × Int) × Sl × Int) (h8 : H) =>
  newO (row 46 [(.int .i64 0), (.int .i64 0), (.int .i64 0), (.int .i64 0), (.int .i64 0)]) h8 fun (b1 : Nat) (h9 : H) =>
  bindO (stZ [.int .i64, .int .i64, .int .i64, .int .i64, .int .i64] h9 (⟨b1, 0, (some 0)⟩ : Addr) ((x11, x12, x13, x14, x15) : Int × Int × Int × Int × Int)) fun (h10 : H) =>
  bindO (ldI .i64 h10 (add (⟨b, 0, (some 0)⟩ : Addr) 2)) fun (x18 : Int) =>
  condK (x18 == 2) (
    bindO (ldI .i64 h10 (add (⟨b, 0, (some 0)⟩ : Addr) 4)) fun (x19 : Int) =>
    condK (x19 == 81) (
      condK (((x10.len : Nat) : Int) == 86) (
        condK (x17 == 0) (
          bindO (ldZ [.int .i64, .int .i64, .int .i64, .int .i64, .int .i64] h10 (⟨b1, 0, (some 0)⟩ : Addr)) fun ((x20, x21, x22, x23, x24) : Int × Int × Int × Int × Int) =>
          bindO (ldZ [.int .i64, .int .i64, .int .i64, .int .i64, .int .i64] h10 (⟨b, 0, (some 0)⟩ : Addr)) fun ((x25, x26, x27, x28, x29) : Int × Int × Int × Int × Int) =>
          letO (((x20 == x25) && ((x21 == x26) && ((x22 == x27) && ((x23 == x28) && ((x24 == x29) && true)))))) fun (x30 : Bool) =>
          condK x30 (
            some ((((x16.len : Nat) : Int) == 80), h10)) (
            some (false, h10))) (
          some (false, h10))) (
        some (false, h10))) (
      some (false, h10))) (
    some (false, h10))
noncomputable def law18_known : H → Option ((Bool) × H) := P.law18_known head_Of head_Lay head_Read
noncomputable def ann_34 : Ann := ⟨fun _ => none, fun _ => none, fun _ => none⟩
noncomputable def E_34 : Ent := ⟨34, [], [⟨false, [.bool]⟩], fun (x : Unit) h => law18_known h⟩
theorem eq_34 (head_Of : Int → Int → Int → H → Option (((Int × Int × Int × Int × Int)) × H)) (head_Lay : (Int × Int × Int × Int × Int) → Sl → H → Option ((Sl) × H)) (head_Read : Sl → H → Option ((((Int × Int × Int × Int × Int)) × Sl × Int) × H)) : (fun (x : PT E_34.ps) (h : H) => runFK Go.Proofs.Ythiccnmplgdheaa.Tab.D (lstK [⟨31, [⟨false, [.int .i64]⟩, ⟨false, [.int .i64]⟩, ⟨false, [.int .i64]⟩], [⟨true, [.int .i64, .int .i64, .int .i64, .int .i64, .int .i64]⟩], fun (x : Int × Int × Int) h => head_Of x.1 x.2.1 x.2.2 h⟩, ⟨35, [⟨true, [.int .i64, .int .i64, .int .i64, .int .i64, .int .i64]⟩, ⟨false, [.sl]⟩], [⟨false, [.sl]⟩], fun (x : ((Int × Int × Int × Int × Int)) × Sl) h => head_Lay x.1 x.2 h⟩, ⟨36, [⟨false, [.sl]⟩], [⟨true, [.int .i64, .int .i64, .int .i64, .int .i64, .int .i64]⟩, ⟨false, [.sl]⟩, ⟨false, [.int .i64]⟩], fun (x : Sl) h => head_Read x h⟩]) ann_34 Try.f34 (Try.f34.body.getD .skip) E_34.ys (encP E_34.ps x) h) = (fun (x : Unit) h => P.law18_known head_Of head_Lay head_Read  h) := by kernel_rfl
theorem ok_34 : E_34.ok Go.Proofs.Ythiccnmplgdheaa.Tab.D := fun x h y h' e => runFK_ok (lstK_ok [E_31, E_35, E_36] (List.forall_mem_cons.2 ⟨ok_31, List.forall_mem_cons.2 ⟨ok_35, List.forall_mem_cons.2 ⟨ok_36, fun E h => nomatch h⟩⟩⟩)) (A := ann_34) (by kernel_rfl) (show Go.Proofs.Ythiccnmplgdheaa.Tab.D.fn.get 34 = some Try.f34 by kernel_rfl) (show Try.f34.body = some (Try.f34.body.getD .skip) by kernel_rfl) ((congrFun (congrFun (eq_34 head_Of head_Lay head_Read) x) h).trans e)
/-! head_Short -/
noncomputable def P.head_Short (head_Right : (Int × Int × Int × Int × Int) → H → Option ((Bool) × H)) (varint_Put : Sl → Sl → H → Option ((Sl) × H)) (h0 : Int × Int × Int × Int × Int) (h : H) : Option (Sl × H) :=
  newO (row 46 [(.int .i64 h0.1), (.int .i64 h0.2.1), (.int .i64 h0.2.2.1), (.int .i64 h0.2.2.2.1), (.int .i64 h0.2.2.2.2)]) h fun (b : Nat) (h1 : H) =>
  bindO (ldZ [.int .i64, .int .i64, .int .i64, .int .i64, .int .i64] h1 (⟨b, 0, (some 0)⟩ : Addr)) fun ((x0, x1, x2, x3, x4) : Int × Int × Int × Int × Int) =>
  bind2 (head_Right (x0, x1, x2, x3, x4) h1) fun (x5 : Bool) (h2 : H) =>
  condK (!x5) (
    some ((⟨none, 0, 0⟩ : Sl), h2)) (
    bindO (ldI .i64 h2 (add (⟨b, 0, (some 0)⟩ : Addr) 0)) fun (x6 : Int) =>
    bindO (ldI .i64 h2 (add (⟨b, 0, (some 0)⟩ : Addr) 1)) fun (x7 : Int) =>
    bindO (ldI .i64 h2 (add (⟨b, 0, (some 0)⟩ : Addr) 4)) fun (x8 : Int) =>
    newO (row 3 [(.int .i64 x6), (.int .i64 x7), (.int .i64 x8)]) h2 fun (b1 : Nat) (h3 : H) =>
    bind2 (varint_Put (⟨none, 0, 0⟩ : Sl) (⟨(some (⟨b1, 0, (some 0)⟩ : Addr)), 3, 3⟩ : Sl) h3) fun (x9 : Sl) (h4 : H) =>
    some (x9, h4))
noncomputable def head_Short : (Int × Int × Int × Int × Int) → H → Option ((Sl) × H) := P.head_Short head_Right varint_Put
noncomputable def ann_37 : Ann := ⟨fun _ => none, fun _ => none, fun _ => none⟩
noncomputable def E_37 : Ent := ⟨37, [⟨true, [.int .i64, .int .i64, .int .i64, .int .i64, .int .i64]⟩], [⟨false, [.sl]⟩], fun (x : (Int × Int × Int × Int × Int)) h => head_Short x h⟩
theorem eq_37 (head_Right : (Int × Int × Int × Int × Int) → H → Option ((Bool) × H)) (varint_Put : Sl → Sl → H → Option ((Sl) × H)) : (fun (x : PT E_37.ps) (h : H) => runFK Go.Proofs.Ythiccnmplgdheaa.Tab.D (lstK [⟨39, [⟨true, [.int .i64, .int .i64, .int .i64, .int .i64, .int .i64]⟩], [⟨false, [.bool]⟩], fun (x : (Int × Int × Int × Int × Int)) h => head_Right x h⟩, ⟨100, [⟨false, [.sl]⟩, ⟨false, [.sl]⟩], [⟨false, [.sl]⟩], fun (x : Sl × Sl) h => varint_Put x.1 x.2 h⟩]) ann_37 Try.f37 (Try.f37.body.getD .skip) E_37.ys (encP E_37.ps x) h) = (fun (x : (Int × Int × Int × Int × Int)) h => P.head_Short head_Right varint_Put x h) := by kernel_rfl
theorem ok_37 : E_37.ok Go.Proofs.Ythiccnmplgdheaa.Tab.D := fun x h y h' e => runFK_ok (lstK_ok [E_39, E_100] (List.forall_mem_cons.2 ⟨ok_39, List.forall_mem_cons.2 ⟨ok_100, fun E h => nomatch h⟩⟩)) (A := ann_37) (by kernel_rfl) (show Go.Proofs.Ythiccnmplgdheaa.Tab.D.fn.get 37 = some Try.f37 by kernel_rfl) (show Try.f37.body = some (Try.f37.body.getD .skip) by kernel_rfl) ((congrFun (congrFun (eq_37 head_Right varint_Put) x) h).trans e)
/-! head_ReadShort -/
noncomputable def P.head_ReadShort (varint_Takes : Sl → Int → H → Option ((Sl × Sl × Int) × H)) (head_Of : Int → Int → Int → H → Option (((Int × Int × Int × Int × Int)) × H)) (b : Sl) (h : H) : Option (((Int × Int × Int × Int × Int) × Int × Int) × H) :=
  newO (row 46 [(.int .i64 0), (.int .i64 0), (.int .i64 0), (.int .i64 0), (.int .i64 0)]) h fun (b1 : Nat) (h0 : H) =>
  bind2 (varint_Takes b 3 h0) fun ((x0, x1, x2) : Sl × Sl × Int) (h1 : H) =>
  condK (x2 != 0) (
    bindO (stZ [.int .i64, .int .i64, .int .i64, .int .i64, .int .i64] h1 (⟨b1, 0, (some 0)⟩ : Addr) ((0, 0, 0, 0, 0) : Int × Int × Int × Int × Int)) fun (h2 : H) =>
    bindO (ldZ [.int .i64, .int .i64, .int .i64, .int .i64, .int .i64] h2 (⟨b1, 0, (some 0)⟩ : Addr)) fun ((x3, x4, x5, x6, x7) : Int × Int × Int × Int × Int) =>
    some (((x3, (x4, (x5, (x6, x7)))), (0, x2)), h2)) (
    bindO (ixT 1 x0 0) fun (a0 : Addr) =>
    bindO (ldI .i64 h1 a0) fun (x8 : Int) =>
    bindO (ixT 1 x0 1) fun (a1 : Addr) =>
    bindO (ldI .i64 h1 a1) fun (x9 : Int) =>
    bindO (ixT 1 x0 2) fun (a2 : Addr) =>
    bindO (ldI .i64 h1 a2) fun (x10 : Int) =>
    bind2 (head_Of x8 x9 x10 h1) fun ((x11, x12, x13, x14, x15) : Int × Int × Int × Int × Int) (h3 : H) =>
    bindO (stZ [.int .i64, .int .i64, .int .i64, .int .i64, .int .i64] h3 (⟨b1, 0, (some 0)⟩ : Addr) ((x11, x12, x13, x14, x15) : Int × Int × Int × Int × Int)) fun (h4 : H) =>
    bindO (ldZ [.int .i64, .int .i64, .int .i64, .int .i64, .int .i64] h4 (⟨b1, 0, (some 0)⟩ : Addr)) fun ((x16, x17, x18, x19, x20) : Int × Int × Int × Int × Int) =>
    letO (((x16 == 0) && ((x17 == 0) && ((x18 == 0) && ((x19 == 0) && ((x20 == 0) && true)))))) fun (x21 : Bool) =>
    condK x21 (
      bindO (stZ [.int .i64, .int .i64, .int .i64, .int .i64, .int .i64] h4 (⟨b1, 0, (some 0)⟩ : Addr) ((0, 0, 0, 0, 0) : Int × Int × Int × Int × Int)) fun (h5 : H) =>
      bindO (ldZ [.int .i64, .int .i64, .int .i64, .int .i64, .int .i64] h5 (⟨b1, 0, (some 0)⟩ : Addr)) fun ((x22, x23, x24, x25, x26) : Int × Int × Int × Int × Int) =>
      some (((x22, (x23, (x24, (x25, x26)))), (0, 2)), h5)) (
      bindO (ldZ [.int .i64, .int .i64, .int .i64, .int .i64, .int .i64] h4 (⟨b1, 0, (some 0)⟩ : Addr)) fun ((x27, x28, x29, x30, x31) : Int × Int × Int × Int × Int) =>
      bindO (stZ [.int .i64, .int .i64, .int .i64, .int .i64, .int .i64] h4 (⟨b1, 0, (some 0)⟩ : Addr) ((x27, x28, x29, x30, x31) : Int × Int × Int × Int × Int)) fun (h6 : H) =>
      bindO (ldZ [.int .i64, .int .i64, .int .i64, .int .i64, .int .i64] h6 (⟨b1, 0, (some 0)⟩ : Addr)) fun ((x32, x33, x34, x35, x36) : Int × Int × Int × Int × Int) =>
      some (((x32, (x33, (x34, (x35, x36)))), ((IntKind.wrap .i64 (((b.len : Nat) : Int) - ((x1.len : Nat) : Int))), 0)), h6)))
noncomputable def head_ReadShort : Sl → H → Option ((((Int × Int × Int × Int × Int)) × Int × Int) × H) := P.head_ReadShort varint_Takes head_Of
noncomputable def ann_38 : Ann := ⟨fun _ => none, fun _ => none, fun _ => none⟩
noncomputable def E_38 : Ent := ⟨38, [⟨false, [.sl]⟩], [⟨true, [.int .i64, .int .i64, .int .i64, .int .i64, .int .i64]⟩, ⟨false, [.int .i64]⟩, ⟨false, [.int .i64]⟩], fun (x : Sl) h => head_ReadShort x h⟩
theorem eq_38 (varint_Takes : Sl → Int → H → Option ((Sl × Sl × Int) × H)) (head_Of : Int → Int → Int → H → Option (((Int × Int × Int × Int × Int)) × H)) : (fun (x : PT E_38.ps) (h : H) => runFK Go.Proofs.Ythiccnmplgdheaa.Tab.D (lstK [⟨101, [⟨false, [.sl]⟩, ⟨false, [.int .i64]⟩], [⟨false, [.sl]⟩, ⟨false, [.sl]⟩, ⟨false, [.int .i64]⟩], fun (x : Sl × Int) h => varint_Takes x.1 x.2 h⟩, ⟨31, [⟨false, [.int .i64]⟩, ⟨false, [.int .i64]⟩, ⟨false, [.int .i64]⟩], [⟨true, [.int .i64, .int .i64, .int .i64, .int .i64, .int .i64]⟩], fun (x : Int × Int × Int) h => head_Of x.1 x.2.1 x.2.2 h⟩]) ann_38 Try.f38 (Try.f38.body.getD .skip) E_38.ys (encP E_38.ps x) h) = (fun (x : Sl) h => P.head_ReadShort varint_Takes head_Of x h) := by kernel_rfl
theorem ok_38 : E_38.ok Go.Proofs.Ythiccnmplgdheaa.Tab.D := fun x h y h' e => runFK_ok (lstK_ok [E_101, E_31] (List.forall_mem_cons.2 ⟨ok_101, List.forall_mem_cons.2 ⟨ok_31, fun E h => nomatch h⟩⟩)) (A := ann_38) (by kernel_rfl) (show Go.Proofs.Ythiccnmplgdheaa.Tab.D.fn.get 38 = some Try.f38 by kernel_rfl) (show Try.f38.body = some (Try.f38.body.getD .skip) by kernel_rfl) ((congrFun (congrFun (eq_38 varint_Takes head_Of) x) h).trans e)
/-! hand_Num -/
noncomputable def P.hand_Num (hand_Pick : Int → Int → H → Option ((Int) × H)) (n : Int) (h : H) : Option (Int × H) :=
  bind2 (hand_Pick (IntKind.wrap .i64 (Int.tdiv n 9)) 3 h) fun (x0 : Int) (h0 : H) =>
  bind2 (hand_Pick n 9 h0) fun (x1 : Int) (h1 : H) =>
  condK (x1 == 0) (
    some ((IntKind.wrap .i64 (64 + (IntKind.wrap .i64 (x0 - 1)))), h1)) (
    condK (x1 == 1) (
      some ((IntKind.wrap .i64 (16384 + (IntKind.wrap .i64 (x0 - 1)))), h1)) (
      condK (x1 == 2) (
        some ((IntKind.wrap .i64 (1073741824 + (IntKind.wrap .i64 (x0 - 1)))), h1)) (
        condK (x1 == 3) (
          letO ((IntKind.wrap .i64 (4611686018427387903 + (IntKind.wrap .i64 (x0 - 1))))) fun (x2 : Int) =>
          some (x2, h1)) (
          condK (x1 == 4) (
            some (n, h1)) (
            bind2 (hand_Pick (IntKind.wrap .i64 (Int.tdiv n 9)) 500 h1) fun (x3 : Int) (h2 : H) =>
            some (x3, h2))))))
noncomputable def hand_Num : Int → H → Option ((Int) × H) := P.hand_Num hand_Pick
noncomputable def ann_45 : Ann := ⟨fun _ => none, fun _ => none, fun _ => none⟩
noncomputable def E_45 : Ent := ⟨45, [⟨false, [.int .i64]⟩], [⟨false, [.int .i64]⟩], fun (x : Int) h => hand_Num x h⟩
theorem eq_45 (hand_Pick : Int → Int → H → Option ((Int) × H)) : (fun (x : PT E_45.ps) (h : H) => runFK Go.Proofs.Ythiccnmplgdheaa.Tab.D (lstK [⟨24, [⟨false, [.int .i64]⟩, ⟨false, [.int .i64]⟩], [⟨false, [.int .i64]⟩], fun (x : Int × Int) h => hand_Pick x.1 x.2 h⟩]) ann_45 Try.f45 (Try.f45.body.getD .skip) E_45.ys (encP E_45.ps x) h) = (fun (x : Int) h => P.hand_Num hand_Pick x h) := by kernel_rfl
theorem ok_45 : E_45.ok Go.Proofs.Ythiccnmplgdheaa.Tab.D := fun x h y h' e => runFK_ok (lstK_ok [E_24] (List.forall_mem_cons.2 ⟨ok_24, fun E h => nomatch h⟩)) (A := ann_45) (by kernel_rfl) (show Go.Proofs.Ythiccnmplgdheaa.Tab.D.fn.get 45 = some Try.f45 by kernel_rfl) (show Try.f45.body = some (Try.f45.body.getD .skip) by kernel_rfl) ((congrFun (congrFun (eq_45 hand_Pick) x) h).trans e)
/-! ref1_May -/
noncomputable def ref1_May (n : Int) (h : H) : Option (Bool × H) :=
  condK (decide ((n ≥ 0))) (
    some ((decide ((n ≤ 4611686018427387903))), h)) (
    some (false, h))
noncomputable def ann_103 : Ann := ⟨fun _ => none, fun _ => none, fun _ => none⟩
noncomputable def E_103 : Ent := ⟨103, [⟨false, [.int .i64]⟩], [⟨false, [.bool]⟩], fun (x : Int) h => ref1_May x h⟩
theorem eq_103  : (fun (x : PT E_103.ps) (h : H) => runFK Go.Proofs.Ythiccnmplgdheaa.Tab.D (lstK []) ann_103 Try.f103 (Try.f103.body.getD .skip) E_103.ys (encP E_103.ps x) h) = (fun (x : Int) h => ref1_May x h) := by kernel_rfl
theorem ok_103 : E_103.ok Go.Proofs.Ythiccnmplgdheaa.Tab.D := fun x h y h' e => runFK_ok (lstK_ok [] (fun E h => nomatch h)) (A := ann_103) (by kernel_rfl) (show Go.Proofs.Ythiccnmplgdheaa.Tab.D.fn.get 103 = some Try.f103 by kernel_rfl) (show Try.f103.body = some (Try.f103.body.getD .skip) by kernel_rfl) ((congrFun (congrFun (eq_103 ) x) h).trans e)
/-! hand_May -/
noncomputable def P.hand_May (hand_Num : Int → H → Option ((Int) × H)) (ref1_May : Int → H → Option ((Bool) × H)) (hand_Pick : Int → Int → H → Option ((Int) × H)) (n : Int) (h : H) : Option (Int × H) :=
  bind2 (hand_Num n h) fun (x0 : Int) (h0 : H) =>
  bind2 (ref1_May x0 h0) fun (x1 : Bool) (h1 : H) =>
  condK (!x1) (
    bind2 (hand_Pick n 1048576 h1) fun (x2 : Int) (h2 : H) =>
    some (x2, h2)) (
    some (x0, h1))
noncomputable def hand_May : Int → H → Option ((Int) × H) := P.hand_May hand_Num ref1_May hand_Pick
noncomputable def ann_48 : Ann := ⟨fun _ => none, fun _ => none, fun _ => none⟩
noncomputable def E_48 : Ent := ⟨48, [⟨false, [.int .i64]⟩], [⟨false, [.int .i64]⟩], fun (x : Int) h => hand_May x h⟩
theorem eq_48 (hand_Num : Int → H → Option ((Int) × H)) (ref1_May : Int → H → Option ((Bool) × H)) (hand_Pick : Int → Int → H → Option ((Int) × H)) : (fun (x : PT E_48.ps) (h : H) => runFK Go.Proofs.Ythiccnmplgdheaa.Tab.D (lstK [⟨45, [⟨false, [.int .i64]⟩], [⟨false, [.int .i64]⟩], fun (x : Int) h => hand_Num x h⟩, ⟨103, [⟨false, [.int .i64]⟩], [⟨false, [.bool]⟩], fun (x : Int) h => ref1_May x h⟩, ⟨24, [⟨false, [.int .i64]⟩, ⟨false, [.int .i64]⟩], [⟨false, [.int .i64]⟩], fun (x : Int × Int) h => hand_Pick x.1 x.2 h⟩]) ann_48 Try.f48 (Try.f48.body.getD .skip) E_48.ys (encP E_48.ps x) h) = (fun (x : Int) h => P.hand_May hand_Num ref1_May hand_Pick x h) := by kernel_rfl
theorem ok_48 : E_48.ok Go.Proofs.Ythiccnmplgdheaa.Tab.D := fun x h y h' e => runFK_ok (lstK_ok [E_45, E_103, E_24] (List.forall_mem_cons.2 ⟨ok_45, List.forall_mem_cons.2 ⟨ok_103, List.forall_mem_cons.2 ⟨ok_24, fun E h => nomatch h⟩⟩⟩)) (A := ann_48) (by kernel_rfl) (show Go.Proofs.Ythiccnmplgdheaa.Tab.D.fn.get 48 = some Try.f48 by kernel_rfl) (show Try.f48.body = some (Try.f48.body.getD .skip) by kernel_rfl) ((congrFun (congrFun (eq_48 hand_Num ref1_May hand_Pick) x) h).trans e)
/-! ref18_count -/
noncomputable def ref18_count (size : Int) (h : H) : Option (Int × H) :=
  letO ((IntKind.wrap .i64 (Int.tdiv (IntKind.wrap .i64 ((IntKind.wrap .i64 (size + 80)) - 1)) 80))) fun (x0 : Int) =>
  some (x0, h)
noncomputable def ann_104 : Ann := ⟨fun _ => none, fun _ => none, fun _ => none⟩
noncomputable def E_104 : Ent := ⟨104, [⟨false, [.int .i64]⟩], [⟨false, [.int .i64]⟩], fun (x : Int) h => ref18_count x h⟩
theorem eq_104  : (fun (x : PT E_104.ps) (h : H) => runFK Go.Proofs.Ythiccnmplgdheaa.Tab.D (lstK []) ann_104 Try.f104 (Try.f104.body.getD .skip) E_104.ys (encP E_104.ps x) h) = (fun (x : Int) h => ref18_count x h) := by kernel_rfl
theorem ok_104 : E_104.ok Go.Proofs.Ythiccnmplgdheaa.Tab.D := fun x h y h' e => runFK_ok (lstK_ok [] (fun E h => nomatch h)) (A := ann_104) (by kernel_rfl) (show Go.Proofs.Ythiccnmplgdheaa.Tab.D.fn.get 104 = some Try.f104 by kernel_rfl) (show Try.f104.body = some (Try.f104.body.getD .skip) by kernel_rfl) ((congrFun (congrFun (eq_104 ) x) h).trans e)
/-! ref18_Right -/
noncomputable def P.ref18_Right (ref1_May : Int → H → Option ((Bool) × H)) (ref18_count : Int → H → Option ((Int) × H)) (h0 : Int × Int × Int × Int × Int) (h : H) : Option (Bool × H) :=
  newO (row 46 [(.int .i64 h0.1), (.int .i64 h0.2.1), (.int .i64 h0.2.2.1), (.int .i64 h0.2.2.2.1), (.int .i64 h0.2.2.2.2)]) h fun (b : Nat) (h1 : H) =>
  bindO (ldI .i64 h1 (add (⟨b, 0, (some 0)⟩ : Addr) 0)) fun (x0 : Int) =>
  condK (decide ((x0 ≥ 0))) (
    bindO (ldI .i64 h1 (add (⟨b, 0, (some 0)⟩ : Addr) 0)) fun (x1 : Int) =>
    condK (decide ((x1 < 40))) (
      bindO (ldI .i64 h1 (add (⟨b, 0, (some 0)⟩ : Addr) 1)) fun (x2 : Int) =>
      bind2 (ref1_May x2 h1) fun (x3 : Bool) (h2 : H) =>
      condK x3 (
        bindO (ldI .i64 h2 (add (⟨b, 0, (some 0)⟩ : Addr) 4)) fun (x4 : Int) =>
        condK (decide ((x4 ≥ 1))) (
          bindO (ldI .i64 h2 (add (⟨b, 0, (some 0)⟩ : Addr) 4)) fun (x5 : Int) =>
          condK (decide ((x5 ≤ 600))) (
            bindO (ldI .i64 h2 (add (⟨b, 0, (some 0)⟩ : Addr) 2)) fun (x6 : Int) =>
            bindO (ldI .i64 h2 (add (⟨b, 0, (some 0)⟩ : Addr) 4)) fun (x7 : Int) =>
            bind2 (ref18_count x7 h2) fun (x8 : Int) (h3 : H) =>
            condK (x6 == x8) (
              bindO (ldI .i64 h3 (add (⟨b, 0, (some 0)⟩ : Addr) 3)) fun (x9 : Int) =>
              condK (decide ((x9 ≥ 0))) (
                bindO (ldI .i64 h3 (add (⟨b, 0, (some 0)⟩ : Addr) 3)) fun (x10 : Int) =>
                bindO (ldI .i64 h3 (add (⟨b, 0, (some 0)⟩ : Addr) 2)) fun (x11 : Int) =>
                bindO (ldI .i64 h3 (add (⟨b, 0, (some 0)⟩ : Addr) 2)) fun (x12 : Int) =>
                condK (x12 == x6) (
                  some ((decide ((x10 < x11))), h3)) none) (
                bindO (ldI .i64 h3 (add (⟨b, 0, (some 0)⟩ : Addr) 2)) fun (x13 : Int) =>
                condK (x13 == x6) (
                  some (false, h3)) none)) (
              bindO (ldI .i64 h3 (add (⟨b, 0, (some 0)⟩ : Addr) 2)) fun (x14 : Int) =>
              condK (x14 == x6) (
                some (false, h3)) none)) (
            some (false, h2))) (
          some (false, h2))) (
        some (false, h2))) (
      some (false, h1))) (
    some (false, h1))
noncomputable def ref18_Right : (Int × Int × Int × Int × Int) → H → Option ((Bool) × H) := P.ref18_Right ref1_May ref18_count
noncomputable def ann_43 : Ann := ⟨fun _ => none, fun _ => none, fun _ => none⟩
noncomputable def E_43 : Ent := ⟨43, [⟨true, [.int .i64, .int .i64, .int .i64, .int .i64, .int .i64]⟩], [⟨false, [.bool]⟩], fun (x : (Int × Int × Int × Int × Int)) h => ref18_Right x h⟩
theorem eq_43 (ref1_May : Int → H → Option ((Bool) × H)) (ref18_count : Int → H → Option ((Int) × H)) : (fun (x : PT E_43.ps) (h : H) => runFK Go.Proofs.Ythiccnmplgdheaa.Tab.D (lstK [⟨103, [⟨false, [.int .i64]⟩], [⟨false, [.bool]⟩], fun (x : Int) h => ref1_May x h⟩, ⟨104, [⟨false, [.int .i64]⟩], [⟨false, [.int .i64]⟩], fun (x : Int) h => ref18_count x h⟩]) ann_43 Try.f43 (Try.f43.body.getD .skip) E_43.ys (encP E_43.ps x) h) = (fun (x : (Int × Int × Int × Int × Int)) h => P.ref18_Right ref1_May ref18_count x h) := by kernel_rfl
theorem ok_43 : E_43.ok Go.Proofs.Ythiccnmplgdheaa.Tab.D := fun x h y h' e => runFK_ok (lstK_ok [E_103, E_104] (List.forall_mem_cons.2 ⟨ok_103, List.forall_mem_cons.2 ⟨ok_104, fun E h => nomatch h⟩⟩)) (A := ann_43) (by kernel_rfl) (show Go.Proofs.Ythiccnmplgdheaa.Tab.D.fn.get 43 = some Try.f43 by kernel_rfl) (show Try.f43.body = some (Try.f43.body.getD .skip) by kernel_rfl) ((congrFun (congrFun (eq_43 ref1_May ref18_count) x) h).trans e)
/-! ref18_Of -/
noncomputable def P.ref18_Of (ref18_count : Int → H → Option ((Int) × H)) (ref18_Right : (Int × Int × Int × Int × Int) → H → Option ((Bool) × H)) (id : Int) (deadline : Int) (size : Int) (h : H) : Option ((Int × Int × Int × Int × Int) × H) :=
  newO (row 46 [(.int .i64 0), (.int .i64 0), (.int .i64 0), (.int .i64 0), (.int .i64 0)]) h fun (b : Nat) (h0 : H) =>
  newO (row 46 [(.int .i64 0), (.int .i64 0), (.int .i64 0), (.int .i64 0), (.int .i64 0)]) h0 fun (b1 : Nat) (h1 : H) =>
  bindO (stZ [.int .i64, .int .i64, .int .i64, .int .i64, .int .i64] h1 (⟨b1, 0, (some 0)⟩ : Addr) ((id, deadline, 0, 0, size) : Int × Int × Int × Int × Int)) fun (h2 : H) =>
  joinO (
    joinO (
      condK (decide ((size ≥ 1))) (
        some (Sum.inl ((size, ((some (⟨b, 0, (some 0)⟩ : Addr)), ((some (⟨b1, 0, (some 0)⟩ : Addr)), (decide ((size ≤ 600)))))), h2))) (
        some (Sum.inl ((size, ((some (⟨b, 0, (some 0)⟩ : Addr)), ((some (⟨b1, 0, (some 0)⟩ : Addr)), false))), h2)))) fun (((size1, (x0, (h3, x1))), h4) : ((Int × ((Option Addr) × ((Option Addr) × Bool))) × H)) =>
    condK x1 (
      bind2 (ref18_count size1 h4) fun (x2 : Int) (h5 : H) =>
      ptrK h3 fun (a0 : Addr) =>
      bindO (st1 h5 (add a0 2) (.int .i64 x2)) fun (h6 : H) =>
      some (Sum.inl ((x0, h3), h6))) (
      some (Sum.inl ((x0, h3), h4)))) fun (((x0, h3), h4) : (((Option Addr) × (Option Addr)) × H)) =>
  ptrK h3 fun (a0 : Addr) =>
  bindO (ldZ [.int .i64, .int .i64, .int .i64, .int .i64, .int .i64] h4 a0) fun ((x1, x2, x3, x4, x5) : Int × Int × Int × Int × Int) =>
  bind2 (ref18_Right (x1, x2, x3, x4, x5) h4) fun (x6 : Bool) (h5 : H) =>
  condK (!x6) (
    ptrK x0 fun (a1 : Addr) =>
    bindO (stZ [.int .i64, .int .i64, .int .i64, .int .i64, .int .i64] h5 a1 ((0, 0, 0, 0, 0) : Int × Int × Int × Int × Int)) fun (h6 : H) =>
    ptrK x0 fun (a2 : Addr) =>
    bindO (ldZ [.int .i64, .int .i64, .int .i64, .int .i64, .int .i64] h6 a2) fun ((x7, x8, x9, x10, x11) : Int × Int × Int × Int × Int) =>
    some ((x7, (x8, (x9, (x10, x11)))), h6)) (
    ptrK h3 fun (a3 : Addr) =>
    bindO (ldZ [.int .i64, .int .i64, .int .i64, .int .i64, .int .i64] h5 a3) fun ((x12, x13, x14, x15, x16) : Int × Int × Int × Int × Int) =>
    ptrK x0 fun (a4 : Addr) =>
    bindO (stZ [.int .i64, .int .i64, .int .i64, .int .i64, .int .i64] h5 a4 ((x12, x13, x14, x15, x16) : Int × Int × Int × Int × Int)) fun (h7 : H) =>
    ptrK x0 fun (a5 : Addr) =>
    bindO (ldZ [.int .i64, .int .i64, .int .i64, .int .i64, .int .i64] h7 a5) fun ((x17, x18, x19, x20, x21) : Int × Int × Int × Int × Int) =>
    some ((x17, (x18, (x19, (x20, x21)))), h7))
noncomputable def ref18_Of : Int → Int → Int → H → Option (((Int × Int × Int × Int × Int)) × H) := P.ref18_Of ref18_count ref18_Right
noncomputable def ann_46 : Ann := ⟨fun i => bif i.beq 4 then some ⟨[6, 7], [⟨false, [.ptr]⟩, ⟨false, [.ptr]⟩]⟩ else none, fun _ => none, fun i => bif i.beq 2 then some ⟨[2, 6, 7, 17], [⟨false, [.int .i64]⟩, ⟨false, [.ptr]⟩, ⟨false, [.ptr]⟩, ⟨false, [.bool]⟩]⟩ else none⟩
noncomputable def E_46 : Ent := ⟨46, [⟨false, [.int .i64]⟩, ⟨false, [.int .i64]⟩, ⟨false, [.int .i64]⟩], [⟨true, [.int .i64, .int .i64, .int .i64, .int .i64, .int .i64]⟩], fun (x : Int × Int × Int) h => ref18_Of x.1 x.2.1 x.2.2 h⟩
theorem eq_46 (ref18_count : Int → H → Option ((Int) × H)) (ref18_Right : (Int × Int × Int × Int × Int) → H → Option ((Bool) × H)) : (fun (x : PT E_46.ps) (h : H) => runFK Go.Proofs.Ythiccnmplgdheaa.Tab.D (lstK [⟨104, [⟨false, [.int .i64]⟩], [⟨false, [.int .i64]⟩], fun (x : Int) h => ref18_count x h⟩, ⟨43, [⟨true, [.int .i64, .int .i64, .int .i64, .int .i64, .int .i64]⟩], [⟨false, [.bool]⟩], fun (x : (Int × Int × Int × Int × Int)) h => ref18_Right x h⟩]) ann_46 Try.f46 (Try.f46.body.getD .skip) E_46.ys (encP E_46.ps x) h) = (fun (x : Int × Int × Int) h => P.ref18_Of ref18_count ref18_Right x.1 x.2.1 x.2.2 h) := by kernel_rfl
theorem ok_46 : E_46.ok Go.Proofs.Ythiccnmplgdheaa.Tab.D := fun x h y h' e => runFK_ok (lstK_ok [E_104, E_43] (List.forall_mem_cons.2 ⟨ok_104, List.forall_mem_cons.2 ⟨ok_43, fun E h => nomatch h⟩⟩)) (A := ann_46) (by kernel_rfl) (show Go.Proofs.Ythiccnmplgdheaa.Tab.D.fn.get 46 = some Try.f46 by kernel_rfl) (show Try.f46.body = some (Try.f46.body.getD .skip) by kernel_rfl) ((congrFun (congrFun (eq_46 ref18_count ref18_Right) x) h).trans e)
/-! hand_Head -/
noncomputable def P.hand_Head (hand_Pick : Int → Int → H → Option ((Int) × H)) (hand_May : Int → H → Option ((Int) × H)) (ref18_Of : Int → Int → Int → H → Option (((Int × Int × Int × Int × Int)) × H)) (id : Int) (deadline : Int) (size : Int) (index : Int) (bend : Int) (h : H) : Option ((Int × Int × Int × Int × Int) × H) :=
  newO (row 46 [(.int .i64 0), (.int .i64 0), (.int .i64 0), (.int .i64 0), (.int .i64 0)]) h fun (b : Nat) (h0 : H) =>
  bind2 (hand_Pick id 40 h0) fun (x0 : Int) (h1 : H) =>
  bind2 (hand_May deadline h1) fun (x1 : Int) (h2 : H) =>
  bind2 (hand_Pick size 600 h2) fun (x2 : Int) (h3 : H) =>
  bind2 (ref18_Of x0 x1 (IntKind.wrap .i64 (1 + x2)) h3) fun ((x3, x4, x5, x6, x7) : Int × Int × Int × Int × Int) (h4 : H) =>
  newO (row 46 [(.int .i64 0), (.int .i64 0), (.int .i64 0), (.int .i64 0), (.int .i64 0)]) h4 fun (b1 : Nat) (h5 : H) =>
  bindO (stZ [.int .i64, .int .i64, .int .i64, .int .i64, .int .i64] h5 (⟨b1, 0, (some 0)⟩ : Addr) ((x3, x4, x5, x6, x7) : Int × Int × Int × Int × Int)) fun (h6 : H) =>
  bindO (ldI .i64 h6 (add (⟨b1, 0, (some 0)⟩ : Addr) 2)) fun (x8 : Int) =>
  bind2 (hand_Pick index x8 h6) fun (x9 : Int) (h7 : H) =>
  bindO (st1 h7 (add (⟨b1, 0, (some 0)⟩ : Addr) 3) (.int .i64 x9)) fun (h8 : H) =>
  bind2 (hand_Pick (IntKind.wrap .i64 (Int.tdiv bend 12)) 60 h8) fun (x10 : Int) (h9 : H) =>
  joinO (
    bind2 (hand_Pick bend 12 h9) fun (x11 : Int) (h10 : H) =>
    condK (x11 == 8) (
      bindO (st1 h10 (add (⟨b1, 0, (some 0)⟩ : Addr) 0) (.int .i64 (IntKind.wrap .i64 (x10 - 5)))) fun (h11 : H) =>
      some (Sum.inl (((some (⟨b, 0, (some 0)⟩ : Addr)), (some (⟨b1, 0, (some 0)⟩ : Addr))), h11))) (
      condK (x11 == 9) (
        bind2 (hand_Pick (IntKind.wrap .i64 (x10 - 5)) 12 h10) fun (x12 : Int) (h12 : H) =>
        bindO (st1 h12 (add (⟨b1, 0, (some 0)⟩ : Addr) 2) (.int .i64 (IntKind.wrap .i64 (x12 - 1)))) fun (h13 : H) =>
        some (Sum.inl (((some (⟨b, 0, (some 0)⟩ : Addr)), (some (⟨b1, 0, (some 0)⟩ : Addr))), h13))) (
        condK (x11 == 10) (
          bind2 (hand_Pick (IntKind.wrap .i64 (x10 - 5)) 12 h10) fun (x13 : Int) (h14 : H) =>
          bindO (st1 h14 (add (⟨b1, 0, (some 0)⟩ : Addr) 3) (.int .i64 (IntKind.wrap .i64 (x13 - 1)))) fun (h15 : H) =>
          some (Sum.inl (((some (⟨b, 0, (some 0)⟩ : Addr)), (some (⟨b1, 0, (some 0)⟩ : Addr))), h15))) (
          condK (x11 == 11) (
            bind2 (hand_Pick bend 700 h10) fun (x14 : Int) (h16 : H) =>
            bindO (st1 h16 (add (⟨b1, 0, (some 0)⟩ : Addr) 4) (.int .i64 (IntKind.wrap .i64 (x14 - 20)))) fun (h17 : H) =>
            some (Sum.inl (((some (⟨b, 0, (some 0)⟩ : Addr)), (some (⟨b1, 0, (some 0)⟩ : Addr))), h17))) (
            some (Sum.inl (((some (⟨b, 0, (some 0)⟩ : Addr)), (some (⟨b1, 0, (some 0)⟩ : Addr))), h10))))))) fun (((x11, h10), h11) : (((Option Addr) × (Option Addr)) × H)) =>
  ptrK h10 fun (a0 : Addr) =>
  bindO (ldZ [.int .i64, .int .i64, .int .i64, .int .i64, .int .i64] h11 a0) fun ((x12, x13, x14, x15, x16) : Int × Int × Int × Int × Int) =>
  ptrK x11 fun (a1 : Addr) =>
  bindO (stZ [.int .i64, .int .i64, .int .i64, .int .i64, .int .i64] h11 a1 ((x12, x13, x14, x15, x16) : Int × Int × Int × Int × Int)) fun (h12 : H) =>
  ptrK x11 fun (a2 : Addr) =>
  bindO (ldZ [.int .i64, .int .i64, .int .i64, .int .i64, .int .i64] h12 a2) fun ((x17, x18, x19, x20, x21) : Int × Int × Int × Int × Int) =>
  some ((x17, (x18, (x19, (x20, x21)))), h12)
noncomputable def hand_Head : Int → Int → Int → Int → Int → H → Option (((Int × Int × Int × Int × Int)) × H) := P.hand_Head hand_Pick hand_May ref18_Of
noncomputable def ann_40 : Ann := ⟨fun i => bif i.beq 13 then some ⟨[10, 11], [⟨false, [.ptr]⟩, ⟨false, [.ptr]⟩]⟩ else none, fun _ => none, fun _ => none⟩
noncomputable def E_40 : Ent := ⟨40, [⟨false, [.int .i64]⟩, ⟨false, [.int .i64]⟩, ⟨false, [.int .i64]⟩, ⟨false, [.int .i64]⟩, ⟨false, [.int .i64]⟩], [⟨true, [.int .i64, .int .i64, .int .i64, .int .i64, .int .i64]⟩], fun (x : Int × Int × Int × Int × Int) h => hand_Head x.1 x.2.1 x.2.2.1 x.2.2.2.1 x.2.2.2.2 h⟩
theorem eq_40 (hand_Pick : Int → Int → H → Option ((Int) × H)) (hand_May : Int → H → Option ((Int) × H)) (ref18_Of : Int → Int → Int → H → Option (((Int × Int × Int × Int × Int)) × H)) : (fun (x : PT E_40.ps) (h : H) => runFK Go.Proofs.Ythiccnmplgdheaa.Tab.D (lstK [⟨24, [⟨false, [.int .i64]⟩, ⟨false, [.int .i64]⟩], [⟨false, [.int .i64]⟩], fun (x : Int × Int) h => hand_Pick x.1 x.2 h⟩, ⟨48, [⟨false, [.int .i64]⟩], [⟨false, [.int .i64]⟩], fun (x : Int) h => hand_May x h⟩, ⟨46, [⟨false, [.int .i64]⟩, ⟨false, [.int .i64]⟩, ⟨false, [.int .i64]⟩], [⟨true, [.int .i64, .int .i64, .int .i64, .int .i64, .int .i64]⟩], fun (x : Int × Int × Int) h => ref18_Of x.1 x.2.1 x.2.2 h⟩]) ann_40 Try.f40 (Try.f40.body.getD .skip) E_40.ys (encP E_40.ps x) h) = (fun (x : Int × Int × Int × Int × Int) h => P.hand_Head hand_Pick hand_May ref18_Of x.1 x.2.1 x.2.2.1 x.2.2.2.1 x.2.2.2.2 h) := by kernel_rfl
theorem ok_40 : E_40.ok Go.Proofs.Ythiccnmplgdheaa.Tab.D := fun x h y h' e => runFK_ok (lstK_ok [E_24, E_48, E_46] (List.forall_mem_cons.2 ⟨ok_24, List.forall_mem_cons.2 ⟨ok_48, List.forall_mem_cons.2 ⟨ok_46, fun E h => nomatch h⟩⟩⟩)) (A := ann_40) (by kernel_rfl) (show Go.Proofs.Ythiccnmplgdheaa.Tab.D.fn.get 40 = some Try.f40 by kernel_rfl) (show Try.f40.body = some (Try.f40.body.getD .skip) by kernel_rfl) ((congrFun (congrFun (eq_40 hand_Pick hand_May ref18_Of) x) h).trans e)
/-! ref18_bounds -/
noncomputable def ref18_bounds (h0 : Int × Int × Int × Int × Int) (h : H) : Option ((Int × Int) × H) :=
  newO (row 46 [(.int .i64 h0.1), (.int .i64 h0.2.1), (.int .i64 h0.2.2.1), (.int .i64 h0.2.2.2.1), (.int .i64 h0.2.2.2.2)]) h fun (b : Nat) (h1 : H) =>
  bindO (ldI .i64 h1 (add (⟨b, 0, (some 0)⟩ : Addr) 3)) fun (x0 : Int) =>
  bindO (ldI .i64 h1 (add (⟨b, 0, (some 0)⟩ : Addr) 4)) fun (x1 : Int) =>
  bindO (ldI .i64 h1 (add (⟨b, 0, (some 0)⟩ : Addr) 3)) fun (x2 : Int) =>
  letO ((if ((IntKind.wrap .i64 ((IntKind.wrap .i64 (x2 + 1)) * 80)) < x1) then (IntKind.wrap .i64 ((IntKind.wrap .i64 (x2 + 1)) * 80)) else x1)) fun (x3 : Int) =>
  some (((IntKind.wrap .i64 (x0 * 80)), x3), h1)
noncomputable def ann_102 : Ann := ⟨fun _ => none, fun _ => none, fun _ => none⟩
noncomputable def E_102 : Ent := ⟨102, [⟨true, [.int .i64, .int .i64, .int .i64, .int .i64, .int .i64]⟩], [⟨false, [.int .i64]⟩, ⟨false, [.int .i64]⟩], fun (x : (Int × Int × Int × Int × Int)) h => ref18_bounds x h⟩
theorem eq_102  : (fun (x : PT E_102.ps) (h : H) => runFK Go.Proofs.Ythiccnmplgdheaa.Tab.D (lstK []) ann_102 Try.f102 (Try.f102.body.getD .skip) E_102.ys (encP E_102.ps x) h) = (fun (x : (Int × Int × Int × Int × Int)) h => ref18_bounds x h) := by kernel_rfl
theorem ok_102 : E_102.ok Go.Proofs.Ythiccnmplgdheaa.Tab.D := fun x h y h' e => runFK_ok (lstK_ok [] (fun E h => nomatch h)) (A := ann_102) (by kernel_rfl) (show Go.Proofs.Ythiccnmplgdheaa.Tab.D.fn.get 102 = some Try.f102 by kernel_rfl) (show Try.f102.body = some (Try.f102.body.getD .skip) by kernel_rfl) ((congrFun (congrFun (eq_102 ) x) h).trans e)
/-! ref18_Part -/
noncomputable def P.ref18_Part (ref18_Right : (Int × Int × Int × Int × Int) → H → Option ((Bool) × H)) (ref18_bounds : (Int × Int × Int × Int × Int) → H → Option ((Int × Int) × H)) (h0 : Int × Int × Int × Int × Int) (b : Sl) (h : H) : Option (Sl × H) :=
  newO (row 46 [(.int .i64 h0.1), (.int .i64 h0.2.1), (.int .i64 h0.2.2.1), (.int .i64 h0.2.2.2.1), (.int .i64 h0.2.2.2.2)]) h fun (b1 : Nat) (h1 : H) =>
  joinO (
    bindO (ldZ [.int .i64, .int .i64, .int .i64, .int .i64, .int .i64] h1 (⟨b1, 0, (some 0)⟩ : Addr)) fun ((x0, x1, x2, x3, x4) : Int × Int × Int × Int × Int) =>
    bind2 (ref18_Right (x0, x1, x2, x3, x4) h1) fun (x5 : Bool) (h2 : H) =>
    condK (!x5) (
      some (Sum.inl ((b, ((some (⟨b1, 0, (some 0)⟩ : Addr)), true)), h2))) (
      bindO (ldI .i64 h2 (add (⟨b1, 0, (some 0)⟩ : Addr) 4)) fun (x6 : Int) =>
      some (Sum.inl ((b, ((some (⟨b1, 0, (some 0)⟩ : Addr)), (((b.len : Nat) : Int) != x6))), h2)))) fun (((b2, (h2, x0)), h3) : ((Sl × ((Option Addr) × Bool)) × H)) =>
  condK x0 (
    some ((⟨none, 0, 0⟩ : Sl), h3)) (
    ptrK h2 fun (a0 : Addr) =>
    bindO (ldZ [.int .i64, .int .i64, .int .i64, .int .i64, .int .i64] h3 a0) fun ((x1, x2, x3, x4, x5) : Int × Int × Int × Int × Int) =>
    bind2 (ref18_bounds (x1, x2, x3, x4, x5) h3) fun ((x6, x7) : Int × Int) (h4 : H) =>
    newO (row 5 []) h4 fun (b3 : Nat) (h5 : H) =>
    bindO (slT 1 h5 b2 (some x6) (some x7) none) fun (x8 : Sl) =>
    bind2 (appT 5 1 1 h5 (⟨(some (⟨b3, 0, (some 0)⟩ : Addr)), 0, 0⟩ : Sl) x8) fun (x9 : Sl) (h6 : H) =>
    some (x9, h6))
noncomputable def ref18_Part : (Int × Int × Int × Int × Int) → Sl → H → Option ((Sl) × H) := P.ref18_Part ref18_Right ref18_bounds
noncomputable def ann_41 : Ann := ⟨fun _ => none, fun _ => none, fun i => bif i.beq 1 then some ⟨[1, 2, 16], [⟨false, [.sl]⟩, ⟨false, [.ptr]⟩, ⟨false, [.bool]⟩]⟩ else none⟩
noncomputable def E_41 : Ent := ⟨41, [⟨true, [.int .i64, .int .i64, .int .i64, .int .i64, .int .i64]⟩, ⟨false, [.sl]⟩], [⟨false, [.sl]⟩], fun (x : ((Int × Int × Int × Int × Int)) × Sl) h => ref18_Part x.1 x.2 h⟩
theorem eq_41 (ref18_Right : (Int × Int × Int × Int × Int) → H → Option ((Bool) × H)) (ref18_bounds : (Int × Int × Int × Int × Int) → H → Option ((Int × Int) × H)) : (fun (x : PT E_41.ps) (h : H) => runFK Go.Proofs.Ythiccnmplgdheaa.Tab.D (lstK [⟨43, [⟨true, [.int .i64, .int .i64, .int .i64, .int .i64, .int .i64]⟩], [⟨false, [.bool]⟩], fun (x : (Int × Int × Int × Int × Int)) h => ref18_Right x h⟩, ⟨102, [⟨true, [.int .i64, .int .i64, .int .i64, .int .i64, .int .i64]⟩], [⟨false, [.int .i64]⟩, ⟨false, [.int .i64]⟩], fun (x : (Int × Int × Int × Int × Int)) h => ref18_bounds x h⟩]) ann_41 Try.f41 (Try.f41.body.getD .skip) E_41.ys (encP E_41.ps x) h) = (fun (x : ((Int × Int × Int × Int × Int)) × Sl) h => P.ref18_Part ref18_Right ref18_bounds x.1 x.2 h) := by kernel_rfl
theorem ok_41 : E_41.ok Go.Proofs.Ythiccnmplgdheaa.Tab.D := fun x h y h' e => runFK_ok (lstK_ok [E_43, E_102] (List.forall_mem_cons.2 ⟨ok_43, List.forall_mem_cons.2 ⟨ok_102, fun E h => nomatch h⟩⟩)) (A := ann_41) (by kernel_rfl) (show Go.Proofs.Ythiccnmplgdheaa.Tab.D.fn.get 41 = some Try.f41 by kernel_rfl) (show Try.f41.body = some (Try.f41.body.getD .skip) by kernel_rfl) ((congrFun (congrFun (eq_41 ref18_Right ref18_bounds) x) h).trans e)
/-! ref1_size -/
noncomputable def P.ref1_size (ref1_May : Int → H → Option ((Bool) × H)) (n : Int) (h : H) : Option (Int × H) :=
  bind2 (ref1_May n h) fun (x0 : Bool) (h0 : H) =>
  condK (!x0) (
    some ((-1), h0)) (
    condK (decide ((n < 64))) (
      some (1, h0)) (
      condK (decide ((n < 16384))) (
        some (2, h0)) (
        condK (decide ((n < 1073741824))) (
          some (4, h0)) (
          some (8, h0)))))
noncomputable def ref1_size : Int → H → Option ((Int) × H) := P.ref1_size ref1_May
noncomputable def ann_152 : Ann := ⟨fun _ => none, fun _ => none, fun _ => none⟩
noncomputable def E_152 : Ent := ⟨152, [⟨false, [.int .i64]⟩], [⟨false, [.int .i64]⟩], fun (x : Int) h => ref1_size x h⟩
theorem eq_152 (ref1_May : Int → H → Option ((Bool) × H)) : (fun (x : PT E_152.ps) (h : H) => runFK Go.Proofs.Ythiccnmplgdheaa.Tab.D (lstK [⟨103, [⟨false, [.int .i64]⟩], [⟨false, [.bool]⟩], fun (x : Int) h => ref1_May x h⟩]) ann_152 Try.f152 (Try.f152.body.getD .skip) E_152.ys (encP E_152.ps x) h) = (fun (x : Int) h => P.ref1_size ref1_May x h) := by kernel_rfl
theorem ok_152 : E_152.ok Go.Proofs.Ythiccnmplgdheaa.Tab.D := fun x h y h' e => runFK_ok (lstK_ok [E_103] (List.forall_mem_cons.2 ⟨ok_103, fun E h => nomatch h⟩)) (A := ann_152) (by kernel_rfl) (show Go.Proofs.Ythiccnmplgdheaa.Tab.D.fn.get 152 = some Try.f152 by kernel_rfl) (show Try.f152.body = some (Try.f152.body.getD .skip) by kernel_rfl) ((congrFun (congrFun (eq_152 ref1_May) x) h).trans e)
/-! ref1_Size -/
noncomputable def P.ref1_Size_l1 (ref1_May : Int → H → Option ((Bool) × H)) (ref1_size : Int → H → Option ((Int) × H)) : ((Sl × (Int × Int)) × H) → Option (((Sl × (Int × Int)) × H) ⊕ ((Int × H) ⊕ (Int × H))) := fun ((l, (sum, i)), h0) =>
  condK (decide ((i < ((l.len : Nat) : Int)))) (
    bindO (ixT 1 l i) fun (a0 : Addr) =>
    bindO (ldI .i64 h0 a0) fun (x0 : Int) =>
    bind2 (ref1_May x0 h0) fun (x1 : Bool) (h1 : H) =>
    condK (!x1) (
      some (Sum.inr (Sum.inr ((-1), h1)))) (
      bindO (ixT 1 l i) fun (a1 : Addr) =>
      bindO (ldI .i64 h1 a1) fun (x2 : Int) =>
      bind2 (ref1_size x2 h1) fun (x3 : Int) (h2 : H) =>
      some (Sum.inl ((l, ((IntKind.wrap .i64 (sum + x3)), (IntKind.wrap .i64 (i + 1)))), h2)))) (
    some (Sum.inr (Sum.inl (sum, h0))))

noncomputable def P.ref1_Size (ref1_May : Int → H → Option ((Bool) × H)) (ref1_size : Int → H → Option ((Int) × H)) (l : Sl) (h : H) : Option (Int × H) :=
  joinO (
    loopO (P.ref1_Size_l1 ref1_May ref1_size) ((l, (0, 0)), h)) fun ((sum, h0) : (Int × H)) =>
  some (sum, h0)
noncomputable abbrev ref1_Size_l1 := P.ref1_Size_l1 ref1_May ref1_size
noncomputable def ref1_Size : Sl → H → Option ((Int) × H) := P.ref1_Size ref1_May ref1_size
noncomputable def ann_105 : Ann := ⟨fun i => bif i.beq 8 then some ⟨[3], [⟨false, [.int .i64]⟩]⟩ else none, fun i => bif i.beq 3 then some ⟨[0, 3, 4], [⟨false, [.sl]⟩, ⟨false, [.int .i64]⟩, ⟨false, [.int .i64]⟩]⟩ else none, fun _ => none⟩
noncomputable def E_105 : Ent := ⟨105, [⟨false, [.sl]⟩], [⟨false, [.int .i64]⟩], fun (x : Sl) h => ref1_Size x h⟩
theorem eq_105 (ref1_May : Int → H → Option ((Bool) × H)) (ref1_size : Int → H → Option ((Int) × H)) : (fun (x : PT E_105.ps) (h : H) => runFK Go.Proofs.Ythiccnmplgdheaa.Tab.D (lstK [⟨103, [⟨false, [.int .i64]⟩], [⟨false, [.bool]⟩], fun (x : Int) h => ref1_May x h⟩, ⟨152, [⟨false, [.int .i64]⟩], [⟨false, [.int .i64]⟩], fun (x : Int) h => ref1_size x h⟩]) ann_105 Try.f105 (Try.f105.body.getD .skip) E_105.ys (encP E_105.ps x) h) = (fun (x : Sl) h => P.ref1_Size ref1_May ref1_size x h) := by kernel_rfl
theorem ok_105 : E_105.ok Go.Proofs.Ythiccnmplgdheaa.Tab.D := fun x h y h' e => runFK_ok (lstK_ok [E_103, E_152] (List.forall_mem_cons.2 ⟨ok_103, List.forall_mem_cons.2 ⟨ok_152, fun E h => nomatch h⟩⟩)) (A := ann_105) (by kernel_rfl) (show Go.Proofs.Ythiccnmplgdheaa.Tab.D.fn.get 105 = some Try.f105 by kernel_rfl) (show Try.f105.body = some (Try.f105.body.getD .skip) by kernel_rfl) ((congrFun (congrFun (eq_105 ref1_May ref1_size) x) h).trans e)
/-! ref1_put -/
noncomputable def P.ref1_put_l1 (ref1_size : Int → H → Option ((Int) × H)) : ((Sl × (Int × (Int × Int))) × H) → Option (((Sl × (Int × (Int × Int))) × H) ⊕ ((Sl × H) ⊕ (Sl × H))) := fun ((b, (n, (k, i))), h0) =>
  condK (decide ((i ≥ 0))) (
    bindO (shrT .i64 n .u64 (IntKind.wrap .u64 (IntKind.wrap .i64 (8 * i)))) fun (x0 : Int) =>
    joinO (
      condK (i == (IntKind.wrap .i64 (k - 1))) (
        condK (k == 2) (
          some (Sum.inl ((b, (n, (k, (i, (IntKind.wrap .u8 ((IntKind.wrap .u8 x0) + 64)))))), h0))) (
          condK (k == 4) (
            some (Sum.inl ((b, (n, (k, (i, (IntKind.wrap .u8 ((IntKind.wrap .u8 x0) + 128)))))), h0))) (
            condK (k == 8) (
              some (Sum.inl ((b, (n, (k, (i, (IntKind.wrap .u8 ((IntKind.wrap .u8 x0) + 192)))))), h0))) (
              some (Sum.inl ((b, (n, (k, (i, (IntKind.wrap .u8 x0))))), h0)))))) (
        some (Sum.inl ((b, (n, (k, (i, (IntKind.wrap .u8 x0))))), h0)))) fun (((b1, (n1, (k1, (i1, c)))), h1) : ((Sl × (Int × (Int × (Int × Int)))) × H)) =>
    newO (row 5 [(.int .u8 c)]) h1 fun (b2 : Nat) (h2 : H) =>
    bind2 (appT 5 1 1 h2 b1 (⟨(some (⟨b2, 0, (some 0)⟩ : Addr)), 1, 1⟩ : Sl)) fun (x1 : Sl) (h3 : H) =>
    some (Sum.inl ((x1, (n1, (k1, (IntKind.wrap .i64 (i1 - 1))))), h3))) (
    some (Sum.inr (Sum.inl (b, h0))))

noncomputable def P.ref1_put (ref1_size : Int → H → Option ((Int) × H)) (b : Sl) (n : Int) (h : H) : Option (Sl × H) :=
  bind2 (ref1_size n h) fun (x0 : Int) (h0 : H) =>
  joinO (
    loopO (P.ref1_put_l1 ref1_size) ((b, (n, (x0, (IntKind.wrap .i64 (x0 - 1))))), h0)) fun ((b1, h1) : (Sl × H)) =>
  some (b1, h1)
noncomputable abbrev ref1_put_l1 := P.ref1_put_l1 ref1_size
noncomputable def ref1_put : Sl → Int → H → Option ((Sl) × H) := P.ref1_put ref1_size
noncomputable def ann_106 : Ann := ⟨fun i => bif i.beq 14 then some ⟨[0, 1, 5, 6, 7], [⟨false, [.sl]⟩, ⟨false, [.int .i64]⟩, ⟨false, [.int .i64]⟩, ⟨false, [.int .i64]⟩, ⟨false, [.int .u8]⟩]⟩ else bif i.beq 15 then some ⟨[0], [⟨false, [.sl]⟩]⟩ else none, fun i => bif i.beq 3 then some ⟨[0, 1, 5, 6], [⟨false, [.sl]⟩, ⟨false, [.int .i64]⟩, ⟨false, [.int .i64]⟩, ⟨false, [.int .i64]⟩]⟩ else none, fun _ => none⟩
noncomputable def E_106 : Ent := ⟨106, [⟨false, [.sl]⟩, ⟨false, [.int .i64]⟩], [⟨false, [.sl]⟩], fun (x : Sl × Int) h => ref1_put x.1 x.2 h⟩
theorem eq_106 (ref1_size : Int → H → Option ((Int) × H)) : (fun (x : PT E_106.ps) (h : H) => runFK Go.Proofs.Ythiccnmplgdheaa.Tab.D (lstK [⟨152, [⟨false, [.int .i64]⟩], [⟨false, [.int .i64]⟩], fun (x : Int) h => ref1_size x h⟩]) ann_106 Try.f106 (Try.f106.body.getD .skip) E_106.ys (encP E_106.ps x) h) = (fun (x : Sl × Int) h => P.ref1_put ref1_size x.1 x.2 h) := by kernel_rfl
theorem ok_106 : E_106.ok Go.Proofs.Ythiccnmplgdheaa.Tab.D := fun x h y h' e => runFK_ok (lstK_ok [E_152] (List.forall_mem_cons.2 ⟨ok_152, fun E h => nomatch h⟩)) (A := ann_106) (by kernel_rfl) (show Go.Proofs.Ythiccnmplgdheaa.Tab.D.fn.get 106 = some Try.f106 by kernel_rfl) (show Try.f106.body = some (Try.f106.body.getD .skip) by kernel_rfl) ((congrFun (congrFun (eq_106 ref1_size) x) h).trans e)
/-! ref1_Put -/
noncomputable def P.ref1_Put_l1 (ref1_Size : Sl → H → Option ((Int) × H)) (ref1_put : Sl → Int → H → Option ((Sl) × H)) : ((Sl × (Sl × Int)) × H) → Option (((Sl × (Sl × Int)) × H) ⊕ ((Sl × H) ⊕ (Sl × H))) := fun ((l, (out, i)), h0) =>
  condK (decide ((i < ((l.len : Nat) : Int)))) (
    bindO (ixT 1 l i) fun (a0 : Addr) =>
    bindO (ldI .i64 h0 a0) fun (x0 : Int) =>
    bind2 (ref1_put out x0 h0) fun (x1 : Sl) (h1 : H) =>
    some (Sum.inl ((l, (x1, (IntKind.wrap .i64 (i + 1)))), h1))) (
    some (Sum.inr (Sum.inl (out, h0))))

noncomputable def P.ref1_Put (ref1_Size : Sl → H → Option ((Int) × H)) (ref1_put : Sl → Int → H → Option ((Sl) × H)) (b : Sl) (l : Sl) (h : H) : Option (Sl × H) :=
  bind2 (ref1_Size l h) fun (x0 : Int) (h0 : H) =>
  condK (decide ((x0 < 0))) (
    some ((⟨none, 0, 0⟩ : Sl), h0)) (
    newO (row 5 []) h0 fun (b1 : Nat) (h1 : H) =>
    bind2 (appT 5 1 1 h1 (⟨(some (⟨b1, 0, (some 0)⟩ : Addr)), 0, 0⟩ : Sl) b) fun (x1 : Sl) (h2 : H) =>
    joinO (
      loopO (P.ref1_Put_l1 ref1_Size ref1_put) ((l, (x1, 0)), h2)) fun ((out, h3) : (Sl × H)) =>
    some (out, h3))
noncomputable abbrev ref1_Put_l1 := P.ref1_Put_l1 ref1_Size ref1_put
noncomputable def ref1_Put : Sl → Sl → H → Option ((Sl) × H) := P.ref1_Put ref1_Size ref1_put
noncomputable def ann_47 : Ann := ⟨fun i => bif i.beq 8 then some ⟨[5], [⟨false, [.sl]⟩]⟩ else none, fun i => bif i.beq 5 then some ⟨[1, 5, 6], [⟨false, [.sl]⟩, ⟨false, [.sl]⟩, ⟨false, [.int .i64]⟩]⟩ else none, fun _ => none⟩
noncomputable def E_47 : Ent := ⟨47, [⟨false, [.sl]⟩, ⟨false, [.sl]⟩], [⟨false, [.sl]⟩], fun (x : Sl × Sl) h => ref1_Put x.1 x.2 h⟩
theorem eq_47 (ref1_Size : Sl → H → Option ((Int) × H)) (ref1_put : Sl → Int → H → Option ((Sl) × H)) : (fun (x : PT E_47.ps) (h : H) => runFK Go.Proofs.Ythiccnmplgdheaa.Tab.D (lstK [⟨105, [⟨false, [.sl]⟩], [⟨false, [.int .i64]⟩], fun (x : Sl) h => ref1_Size x h⟩, ⟨106, [⟨false, [.sl]⟩, ⟨false, [.int .i64]⟩], [⟨false, [.sl]⟩], fun (x : Sl × Int) h => ref1_put x.1 x.2 h⟩]) ann_47 Try.f47 (Try.f47.body.getD .skip) E_47.ys (encP E_47.ps x) h) = (fun (x : Sl × Sl) h => P.ref1_Put ref1_Size ref1_put x.1 x.2 h) := by kernel_rfl
theorem ok_47 : E_47.ok Go.Proofs.Ythiccnmplgdheaa.Tab.D := fun x h y h' e => runFK_ok (lstK_ok [E_105, E_106] (List.forall_mem_cons.2 ⟨ok_105, List.forall_mem_cons.2 ⟨ok_106, fun E h => nomatch h⟩⟩)) (A := ann_47) (by kernel_rfl) (show Go.Proofs.Ythiccnmplgdheaa.Tab.D.fn.get 47 = some Try.f47 by kernel_rfl) (show Try.f47.body = some (Try.f47.body.getD .skip) by kernel_rfl) ((congrFun (congrFun (eq_47 ref1_Size ref1_put) x) h).trans e)
/-! ref18_Lay -/
noncomputable def P.ref18_Lay_l1 (ref18_Right : (Int × Int × Int × Int × Int) → H → Option ((Bool) × H)) (ref1_Put : Sl → Sl → H → Option ((Sl) × H)) (ref18_bounds : (Int × Int × Int × Int × Int) → H → Option ((Int × Int) × H)) : ((Sl × ((Option Addr) × (Sl × (Int × Int)))) × H) → Option (((Sl × ((Option Addr) × (Sl × (Int × Int)))) × H) ⊕ ((((Option Addr) × (Sl × Int)) × H) ⊕ (Sl × H))) := fun ((parts, (h0, (out, (n, i)))), h1) =>
  condK (decide ((i < ((parts.len : Nat) : Int)))) (
    bindO (ixT 1 parts i) fun (a0 : Addr) =>
    bindO (ldL h1 a0) fun (x0 : Sl) =>
    bind2 (appT 5 1 1 h1 out x0) fun (x1 : Sl) (h2 : H) =>
    some (Sum.inl ((parts, (h0, (x1, (n, (IntKind.wrap .i64 (i + 1)))))), h2))) (
    some (Sum.inr (Sum.inl ((h0, (out, n)), h1))))

noncomputable def P.ref18_Lay (ref18_Right : (Int × Int × Int × Int × Int) → H → Option ((Bool) × H)) (ref1_Put : Sl → Sl → H → Option ((Sl) × H)) (ref18_bounds : (Int × Int × Int × Int × Int) → H → Option ((Int × Int) × H)) (h0 : Int × Int × Int × Int × Int) (parts : Sl) (h : H) : Option (Sl × H) :=
  newO (row 46 [(.int .i64 h0.1), (.int .i64 h0.2.1), (.int .i64 h0.2.2.1), (.int .i64 h0.2.2.2.1), (.int .i64 h0.2.2.2.2)]) h fun (b : Nat) (h1 : H) =>
  bindO (ldZ [.int .i64, .int .i64, .int .i64, .int .i64, .int .i64] h1 (⟨b, 0, (some 0)⟩ : Addr)) fun ((x0, x1, x2, x3, x4) : Int × Int × Int × Int × Int) =>
  bind2 (ref18_Right (x0, x1, x2, x3, x4) h1) fun (x5 : Bool) (h2 : H) =>
  condK (!x5) (
    some ((⟨none, 0, 0⟩ : Sl), h2)) (
    bindO (ldI .i64 h2 (add (⟨b, 0, (some 0)⟩ : Addr) 0)) fun (x6 : Int) =>
    bindO (ldI .i64 h2 (add (⟨b, 0, (some 0)⟩ : Addr) 1)) fun (x7 : Int) =>
    bindO (ldI .i64 h2 (add (⟨b, 0, (some 0)⟩ : Addr) 2)) fun (x8 : Int) =>
    bindO (ldI .i64 h2 (add (⟨b, 0, (some 0)⟩ : Addr) 3)) fun (x9 : Int) =>
    bindO (ldI .i64 h2 (add (⟨b, 0, (some 0)⟩ : Addr) 4)) fun (x10 : Int) =>
    newO (row 3 [(.int .i64 x6), (.int .i64 x7), (.int .i64 x8), (.int .i64 x9), (.int .i64 x10)]) h2 fun (b1 : Nat) (h3 : H) =>
    bind2 (ref1_Put (⟨none, 0, 0⟩ : Sl) (⟨(some (⟨b1, 0, (some 0)⟩ : Addr)), 5, 5⟩ : Sl) h3) fun (x11 : Sl) (h4 : H) =>
    joinO (
      loopO (P.ref18_Lay_l1 ref18_Right ref1_Put ref18_bounds) ((parts, ((some (⟨b, 0, (some 0)⟩ : Addr)), (x11, (((x11.len : Nat) : Int), 0)))), h4)) fun (((h5, (out, n)), h6) : (((Option Addr) × (Sl × Int)) × H)) =>
    ptrK h5 fun (a0 : Addr) =>
    bindO (ldZ [.int .i64, .int .i64, .int .i64, .int .i64, .int .i64] h6 a0) fun ((x12, x13, x14, x15, x16) : Int × Int × Int × Int × Int) =>
    bind2 (ref18_bounds (x12, x13, x14, x15, x16) h6) fun ((x17, x18) : Int × Int) (h7 : H) =>
    letO (((IntKind.wrap .i64 (((out.len : Nat) : Int) - n)) != (IntKind.wrap .i64 (x18 - x17)))) fun (x19 : Bool) =>
    condK x19 (
      some ((⟨none, 0, 0⟩ : Sl), h7)) (
      some (out, h7)))
noncomputable abbrev ref18_Lay_l1 := P.ref18_Lay_l1 ref18_Right ref1_Put ref18_bounds
noncomputable def ref18_Lay : (Int × Int × Int × Int × Int) → Sl → H → Option ((Sl) × H) := P.ref18_Lay ref18_Right ref1_Put ref18_bounds
noncomputable def ann_42 : Ann := ⟨fun i => bif i.beq 9 then some ⟨[2, 5, 6], [⟨false, [.ptr]⟩, ⟨false, [.sl]⟩, ⟨false, [.int .i64]⟩]⟩ else none, fun i => bif i.beq 6 then some ⟨[1, 2, 5, 6, 7], [⟨false, [.sl]⟩, ⟨false, [.ptr]⟩, ⟨false, [.sl]⟩, ⟨false, [.int .i64]⟩, ⟨false, [.int .i64]⟩]⟩ else none, fun _ => none⟩
noncomputable def E_42 : Ent := ⟨42, [⟨true, [.int .i64, .int .i64, .int .i64, .int .i64, .int .i64]⟩, ⟨false, [.sl]⟩], [⟨false, [.sl]⟩], fun (x : ((Int × Int × Int × Int × Int)) × Sl) h => ref18_Lay x.1 x.2 h⟩
theorem eq_42 (ref18_Right : (Int × Int × Int × Int × Int) → H → Option ((Bool) × H)) (ref1_Put : Sl → Sl → H → Option ((Sl) × H)) (ref18_bounds : (Int × Int × Int × Int × Int) → H → Option ((Int × Int) × H)) : (fun (x : PT E_42.ps) (h : H) => runFK Go.Proofs.Ythiccnmplgdheaa.Tab.D (lstK [⟨43, [⟨true, [.int .i64, .int .i64, .int .i64, .int .i64, .int .i64]⟩], [⟨false, [.bool]⟩], fun (x : (Int × Int × Int × Int × Int)) h => ref18_Right x h⟩, ⟨47, [⟨false, [.sl]⟩, ⟨false, [.sl]⟩], [⟨false, [.sl]⟩], fun (x : Sl × Sl) h => ref1_Put x.1 x.2 h⟩, ⟨102, [⟨true, [.int .i64, .int .i64, .int .i64, .int .i64, .int .i64]⟩], [⟨false, [.int .i64]⟩, ⟨false, [.int .i64]⟩], fun (x : (Int × Int × Int × Int × Int)) h => ref18_bounds x h⟩]) ann_42 Try.f42 (Try.f42.body.getD .skip) E_42.ys (encP E_42.ps x) h) = (fun (x : ((Int × Int × Int × Int × Int)) × Sl) h => P.ref18_Lay ref18_Right ref1_Put ref18_bounds x.1 x.2 h) := by kernel_rfl
theorem ok_42 : E_42.ok Go.Proofs.Ythiccnmplgdheaa.Tab.D := fun x h y h' e => runFK_ok (lstK_ok [E_43, E_47, E_102] (List.forall_mem_cons.2 ⟨ok_43, List.forall_mem_cons.2 ⟨ok_47, List.forall_mem_cons.2 ⟨ok_102, fun E h => nomatch h⟩⟩⟩)) (A := ann_42) (by kernel_rfl) (show Go.Proofs.Ythiccnmplgdheaa.Tab.D.fn.get 42 = some Try.f42 by kernel_rfl) (show Try.f42.body = some (Try.f42.body.getD .skip) by kernel_rfl) ((congrFun (congrFun (eq_42 ref18_Right ref1_Put ref18_bounds) x) h).trans e)
/-! ref18_Short -/
noncomputable def P.ref18_Short (ref18_Right : (Int × Int × Int × Int × Int) → H → Option ((Bool) × H)) (ref1_Put : Sl → Sl → H → Option ((Sl) × H)) (h0 : Int × Int × Int × Int × Int) (h : H) : Option (Sl × H) :=
  newO (row 46 [(.int .i64 h0.1), (.int .i64 h0.2.1), (.int .i64 h0.2.2.1), (.int .i64 h0.2.2.2.1), (.int .i64 h0.2.2.2.2)]) h fun (b : Nat) (h1 : H) =>
  bindO (ldZ [.int .i64, .int .i64, .int .i64, .int .i64, .int .i64] h1 (⟨b, 0, (some 0)⟩ : Addr)) fun ((x0, x1, x2, x3, x4) : Int × Int × Int × Int × Int) =>
  bind2 (ref18_Right (x0, x1, x2, x3, x4) h1) fun (x5 : Bool) (h2 : H) =>
  condK (!x5) (
    some ((⟨none, 0, 0⟩ : Sl), h2)) (
    bindO (ldI .i64 h2 (add (⟨b, 0, (some 0)⟩ : Addr) 0)) fun (x6 : Int) =>
    bindO (ldI .i64 h2 (add (⟨b, 0, (some 0)⟩ : Addr) 1)) fun (x7 : Int) =>
    bindO (ldI .i64 h2 (add (⟨b, 0, (some 0)⟩ : Addr) 4)) fun (x8 : Int) =>
    newO (row 3 [(.int .i64 x6), (.int .i64 x7), (.int .i64 x8)]) h2 fun (b1 : Nat) (h3 : H) =>
    bind2 (ref1_Put (⟨none, 0, 0⟩ : Sl) (⟨(some (⟨b1, 0, (some 0)⟩ : Addr)), 3, 3⟩ : Sl) h3) fun (x9 : Sl) (h4 : H) =>
    some (x9, h4))
noncomputable def ref18_Short : (Int × Int × Int × Int × Int) → H → Option ((Sl) × H) := P.ref18_Short ref18_Right ref1_Put
noncomputable def ann_44 : Ann := ⟨fun _ => none, fun _ => none, fun _ => none⟩
noncomputable def E_44 : Ent := ⟨44, [⟨true, [.int .i64, .int .i64, .int .i64, .int .i64, .int .i64]⟩], [⟨false, [.sl]⟩], fun (x : (Int × Int × Int × Int × Int)) h => ref18_Short x h⟩
theorem eq_44 (ref18_Right : (Int × Int × Int × Int × Int) → H → Option ((Bool) × H)) (ref1_Put : Sl → Sl → H → Option ((Sl) × H)) : (fun (x : PT E_44.ps) (h : H) => runFK Go.Proofs.Ythiccnmplgdheaa.Tab.D (lstK [⟨43, [⟨true, [.int .i64, .int .i64, .int .i64, .int .i64, .int .i64]⟩], [⟨false, [.bool]⟩], fun (x : (Int × Int × Int × Int × Int)) h => ref18_Right x h⟩, ⟨47, [⟨false, [.sl]⟩, ⟨false, [.sl]⟩], [⟨false, [.sl]⟩], fun (x : Sl × Sl) h => ref1_Put x.1 x.2 h⟩]) ann_44 Try.f44 (Try.f44.body.getD .skip) E_44.ys (encP E_44.ps x) h) = (fun (x : (Int × Int × Int × Int × Int)) h => P.ref18_Short ref18_Right ref1_Put x h) := by kernel_rfl
theorem ok_44 : E_44.ok Go.Proofs.Ythiccnmplgdheaa.Tab.D := fun x h y h' e => runFK_ok (lstK_ok [E_43, E_47] (List.forall_mem_cons.2 ⟨ok_43, List.forall_mem_cons.2 ⟨ok_47, fun E h => nomatch h⟩⟩)) (A := ann_44) (by kernel_rfl) (show Go.Proofs.Ythiccnmplgdheaa.Tab.D.fn.get 44 = some Try.f44 by kernel_rfl) (show Try.f44.body = some (Try.f44.body.getD .skip) by kernel_rfl) ((congrFun (congrFun (eq_44 ref18_Right ref1_Put) x) h).trans e)
/-! hand_Few -/
noncomputable def hand_Few (b : Sl) (n : Int) (h : H) : Option (Sl × H) :=
  joinO (
    condK (decide ((((b.len : Nat) : Int) > n))) (
      bindO (slT 1 h b none (some n) none) fun (x0 : Sl) =>
      some (Sum.inl (x0, h))) (
      some (Sum.inl (b, h)))) fun ((b1, h0) : (Sl × H)) =>
  newO (row 5 []) h0 fun (b2 : Nat) (h1 : H) =>
  bind2 (appT 5 1 1 h1 (⟨(some (⟨b2, 0, (some 0)⟩ : Addr)), 0, 0⟩ : Sl) b1) fun (x0 : Sl) (h2 : H) =>
  some (x0, h2)
noncomputable def ann_49 : Ann := ⟨fun i => bif i.beq 3 then some ⟨[0], [⟨false, [.sl]⟩]⟩ else none, fun _ => none, fun _ => none⟩
noncomputable def E_49 : Ent := ⟨49, [⟨false, [.sl]⟩, ⟨false, [.int .i64]⟩], [⟨false, [.sl]⟩], fun (x : Sl × Int) h => hand_Few x.1 x.2 h⟩
theorem eq_49  : (fun (x : PT E_49.ps) (h : H) => runFK Go.Proofs.Ythiccnmplgdheaa.Tab.D (lstK []) ann_49 Try.f49 (Try.f49.body.getD .skip) E_49.ys (encP E_49.ps x) h) = (fun (x : Sl × Int) h => hand_Few x.1 x.2 h) := by kernel_rfl
theorem ok_49 : E_49.ok Go.Proofs.Ythiccnmplgdheaa.Tab.D := fun x h y h' e => runFK_ok (lstK_ok [] (fun E h => nomatch h)) (A := ann_49) (by kernel_rfl) (show Go.Proofs.Ythiccnmplgdheaa.Tab.D.fn.get 49 = some Try.f49 by kernel_rfl) (show Try.f49.body = some (Try.f49.body.getD .skip) by kernel_rfl) ((congrFun (congrFun (eq_49 ) x) h).trans e)
/-! ref1_Take -/
noncomputable def ref1_Take_l2 : ((Sl × (Int × (Int × Int))) × H) → Option (((Sl × (Int × (Int × Int))) × H) ⊕ (((Sl × (Int × Int)) × H) ⊕ ((Int × (Sl × Int)) × H))) := fun ((b, (k, (n, i))), h0) =>
  condK (decide ((i < k))) (
    bindO (ixT 1 b i) fun (a0 : Addr) =>
    bindO (ldI .u8 h0 a0) fun (x0 : Int) =>
    letO ((IntKind.wrap .i64 ((IntKind.wrap .i64 (256 * n)) + (IntKind.wrap .i64 x0)))) fun (x1 : Int) =>
    some (Sum.inl ((b, (k, (x1, (IntKind.wrap .i64 (i + 1))))), h0))) (
    some (Sum.inr (Sum.inl ((b, (k, n)), h0))))

noncomputable def ref1_Take_l1 : ((Sl × (Int × Int)) × H) → Option (((Sl × (Int × Int)) × H) ⊕ (((Sl × Int) × H) ⊕ ((Int × (Sl × Int)) × H))) := fun ((b, (k, i)), h0) =>
  condK (decide ((i > 0))) (
    some (Sum.inl ((b, ((IntKind.wrap .i64 (2 * k)), (IntKind.wrap .u8 (i - 1)))), h0))) (
    some (Sum.inr (Sum.inl ((b, k), h0))))

noncomputable def ref1_Take (b : Sl) (h : H) : Option ((Int × Sl × Int) × H) :=
  condK (((b.len : Nat) : Int) == 0) (
    some ((0, ((⟨none, 0, 0⟩ : Sl), 3)), h)) (
    joinO (
      bindO (ixT 1 b 0) fun (a0 : Addr) =>
      bindO (ldI .u8 h a0) fun (x0 : Int) =>
      loopO ref1_Take_l1 ((b, (1, (IntKind.wrap .u8 (Int.tdiv x0 64)))), h)) fun (((b1, k), h0) : ((Sl × Int) × H)) =>
    condK (decide ((((b1.len : Nat) : Int) < k))) (
      some ((0, ((⟨none, 0, 0⟩ : Sl), 3)), h0)) (
      bindO (ixT 1 b1 0) fun (a0 : Addr) =>
      bindO (ldI .u8 h0 a0) fun (x0 : Int) =>
      joinO (
        loopO ref1_Take_l2 ((b1, (k, ((IntKind.wrap .i64 (Int.tmod x0 64)), 1))), h0)) fun (((b2, (k1, n)), h1) : ((Sl × (Int × Int)) × H)) =>
      newO (row 5 []) h1 fun (b3 : Nat) (h2 : H) =>
      bindO (slT 1 h2 b2 (some k1) none none) fun (x1 : Sl) =>
      bind2 (appT 5 1 1 h2 (⟨(some (⟨b3, 0, (some 0)⟩ : Addr)), 0, 0⟩ : Sl) x1) fun (x2 : Sl) (h3 : H) =>
      some ((n, (x2, 0)), h3)))
noncomputable def ann_153 : Ann := ⟨fun i => bif i.beq 8 then some ⟨[0, 5], [⟨false, [.sl]⟩, ⟨false, [.int .i64]⟩]⟩ else bif i.beq 15 then some ⟨[0, 5, 7], [⟨false, [.sl]⟩, ⟨false, [.int .i64]⟩, ⟨false, [.int .i64]⟩]⟩ else none, fun i => bif i.beq 5 then some ⟨[0, 5, 6], [⟨false, [.sl]⟩, ⟨false, [.int .i64]⟩, ⟨false, [.int .u8]⟩]⟩ else bif i.beq 12 then some ⟨[0, 5, 7, 8], [⟨false, [.sl]⟩, ⟨false, [.int .i64]⟩, ⟨false, [.int .i64]⟩, ⟨false, [.int .i64]⟩]⟩ else none, fun _ => none⟩
noncomputable def E_153 : Ent := ⟨153, [⟨false, [.sl]⟩], [⟨false, [.int .i64]⟩, ⟨false, [.sl]⟩, ⟨false, [.int .i64]⟩], fun (x : Sl) h => ref1_Take x h⟩
theorem eq_153  : (fun (x : PT E_153.ps) (h : H) => runFK Go.Proofs.Ythiccnmplgdheaa.Tab.D (lstK []) ann_153 Try.f153 (Try.f153.body.getD .skip) E_153.ys (encP E_153.ps x) h) = (fun (x : Sl) h => ref1_Take x h) := by kernel_rfl
theorem ok_153 : E_153.ok Go.Proofs.Ythiccnmplgdheaa.Tab.D := fun x h y h' e => runFK_ok (lstK_ok [] (fun E h => nomatch h)) (A := ann_153) (by kernel_rfl) (show Go.Proofs.Ythiccnmplgdheaa.Tab.D.fn.get 153 = some Try.f153 by kernel_rfl) (show Try.f153.body = some (Try.f153.body.getD .skip) by kernel_rfl) ((congrFun (congrFun (eq_153 ) x) h).trans e)
/-! ref1_Takes -/
noncomputable def P.ref1_Takes_l1 (ref1_Take : Sl → H → Option ((Int × Sl × Int) × H)) : ((Int × (Sl × (Sl × Int))) × H) → Option (((Int × (Sl × (Sl × Int))) × H) ⊕ (((Sl × Sl) × H) ⊕ ((Sl × (Sl × Int)) × H))) := fun ((count, (out, (rest, i))), h0) =>
  condK (decide ((i < count))) (
    bind2 (ref1_Take rest h0) fun ((x0, x1, x2) : Int × Sl × Int) (h1 : H) =>
    condK (x2 != 0) (
      some (Sum.inr (Sum.inr (((⟨none, 0, 0⟩ : Sl), ((⟨none, 0, 0⟩ : Sl), x2)), h1)))) (
      newO (row 3 [(.int .i64 x0)]) h1 fun (b : Nat) (h2 : H) =>
      bind2 (appT 3 1 8 h2 out (⟨(some (⟨b, 0, (some 0)⟩ : Addr)), 1, 1⟩ : Sl)) fun (x3 : Sl) (h3 : H) =>
      some (Sum.inl ((count, (x3, (x1, (IntKind.wrap .i64 (i + 1))))), h3)))) (
    some (Sum.inr (Sum.inl ((out, rest), h0))))

noncomputable def P.ref1_Takes (ref1_Take : Sl → H → Option ((Int × Sl × Int) × H)) (b : Sl) (count : Int) (h : H) : Option ((Sl × Sl × Int) × H) :=
  newO (row 5 []) h fun (b1 : Nat) (h0 : H) =>
  bind2 (appT 5 1 1 h0 (⟨(some (⟨b1, 0, (some 0)⟩ : Addr)), 0, 0⟩ : Sl) b) fun (x0 : Sl) (h1 : H) =>
  joinO (
    loopO (P.ref1_Takes_l1 ref1_Take) ((count, ((⟨none, 0, 0⟩ : Sl), (x0, 0))), h1)) fun (((out, rest), h2) : ((Sl × Sl) × H)) =>
  some ((out, (rest, 0)), h2)
noncomputable abbrev ref1_Takes_l1 := P.ref1_Takes_l1 ref1_Take
noncomputable def ref1_Takes : Sl → Int → H → Option ((Sl × Sl × Int) × H) := P.ref1_Takes ref1_Take
noncomputable def ann_107 : Ann := ⟨fun i => bif i.beq 11 then some ⟨[7, 8], [⟨false, [.sl]⟩, ⟨false, [.sl]⟩]⟩ else none, fun i => bif i.beq 4 then some ⟨[1, 7, 8, 9], [⟨false, [.int .i64]⟩, ⟨false, [.sl]⟩, ⟨false, [.sl]⟩, ⟨false, [.int .i64]⟩]⟩ else none, fun _ => none⟩
noncomputable def E_107 : Ent := ⟨107, [⟨false, [.sl]⟩, ⟨false, [.int .i64]⟩], [⟨false, [.sl]⟩, ⟨false, [.sl]⟩, ⟨false, [.int .i64]⟩], fun (x : Sl × Int) h => ref1_Takes x.1 x.2 h⟩
theorem eq_107 (ref1_Take : Sl → H → Option ((Int × Sl × Int) × H)) : (fun (x : PT E_107.ps) (h : H) => runFK Go.Proofs.Ythiccnmplgdheaa.Tab.D (lstK [⟨153, [⟨false, [.sl]⟩], [⟨false, [.int .i64]⟩, ⟨false, [.sl]⟩, ⟨false, [.int .i64]⟩], fun (x : Sl) h => ref1_Take x h⟩]) ann_107 Try.f107 (Try.f107.body.getD .skip) E_107.ys (encP E_107.ps x) h) = (fun (x : Sl × Int) h => P.ref1_Takes ref1_Take x.1 x.2 h) := by kernel_rfl
theorem ok_107 : E_107.ok Go.Proofs.Ythiccnmplgdheaa.Tab.D := fun x h y h' e => runFK_ok (lstK_ok [E_153] (List.forall_mem_cons.2 ⟨ok_153, fun E h => nomatch h⟩)) (A := ann_107) (by kernel_rfl) (show Go.Proofs.Ythiccnmplgdheaa.Tab.D.fn.get 107 = some Try.f107 by kernel_rfl) (show Try.f107.body = some (Try.f107.body.getD .skip) by kernel_rfl) ((congrFun (congrFun (eq_107 ref1_Take) x) h).trans e)
/-! ref18_Read -/
noncomputable def P.ref18_Read (ref1_Takes : Sl → Int → H → Option ((Sl × Sl × Int) × H)) (ref18_Right : (Int × Int × Int × Int × Int) → H → Option ((Bool) × H)) (ref18_bounds : (Int × Int × Int × Int × Int) → H → Option ((Int × Int) × H)) (b : Sl) (h : H) : Option (((Int × Int × Int × Int × Int) × Sl × Int) × H) :=
  newO (row 46 [(.int .i64 0), (.int .i64 0), (.int .i64 0), (.int .i64 0), (.int .i64 0)]) h fun (b1 : Nat) (h0 : H) =>
  bind2 (ref1_Takes b 5 h0) fun ((x0, x1, x2) : Sl × Sl × Int) (h1 : H) =>
  condK (x2 != 0) (
    bindO (stZ [.int .i64, .int .i64, .int .i64, .int .i64, .int .i64] h1 (⟨b1, 0, (some 0)⟩ : Addr) ((0, 0, 0, 0, 0) : Int × Int × Int × Int × Int)) fun (h2 : H) =>
    bindO (ldZ [.int .i64, .int .i64, .int .i64, .int .i64, .int .i64] h2 (⟨b1, 0, (some 0)⟩ : Addr)) fun ((x3, x4, x5, x6, x7) : Int × Int × Int × Int × Int) =>
    some (((x3, (x4, (x5, (x6, x7)))), ((⟨none, 0, 0⟩ : Sl), 3)), h2)) (
    letH (growIf h1 18) fun (h3 : H) =>
    bindO (ixT 1 x0 0) fun (a0 : Addr) =>
    bindO (ldI .i64 h3 a0) fun (x8 : Int) =>
    bindO (ixT 1 x0 1) fun (a1 : Addr) =>
    bindO (ldI .i64 h3 a1) fun (x9 : Int) =>
    bindO (ixT 1 x0 2) fun (a2 : Addr) =>
    bindO (ldI .i64 h3 a2) fun (x10 : Int) =>
    bindO (ixT 1 x0 3) fun (a3 : Addr) =>
    bindO (ldI .i64 h3 a3) fun (x11 : Int) =>
    bindO (ixT 1 x0 4) fun (a4 : Addr) =>
    bindO (ldI .i64 h3 a4) fun (x12 : Int) =>
    letH (addP 131071 h1.size [(16, (row 46 [(.int .i64 0), (.int .i64 0), (.int .i64 0), (.int .i64 0), (.int .i64 0)]))] h3) fun (h4 : H) =>
    bindO (stZ [.int .i64, .int .i64, .int .i64, .int .i64, .int .i64] h4 (⟨(h1.size + 16), 0, (some 0)⟩ : Addr) ((x8, x9, x10, x11, x12) : Int × Int × Int × Int × Int)) fun (h5 : H) =>
    letH (addP 262143 h1.size [(16, (row 46 [(.int .i64 0), (.int .i64 0), (.int .i64 0), (.int .i64 0), (.int .i64 0)]))] h5) fun (h6 : H) =>
    letH (tickIf 18 h6) fun (h7 : H) =>
    bindO (ldZ [.int .i64, .int .i64, .int .i64, .int .i64, .int .i64] h7 (⟨(h1.size + 16), 0, (some 0)⟩ : Addr)) fun ((x13, x14, x15, x16, x17) : Int × Int × Int × Int × Int) =>
    bind2 (ref18_Right (x13, x14, x15, x16, x17) h7) fun (x18 : Bool) (h8 : H) =>
    condK (!x18) (
      bindO (stZ [.int .i64, .int .i64, .int .i64, .int .i64, .int .i64] h8 (⟨b1, 0, (some 0)⟩ : Addr) ((0, 0, 0, 0, 0) : Int × Int × Int × Int × Int)) fun (h9 : H) =>
      bindO (ldZ [.int .i64, .int .i64, .int .i64, .int .i64, .int .i64] h9 (⟨b1, 0, (some 0)⟩ : Addr)) fun ((x19, x20, x21, x22, x23) : Int × Int × Int × Int × Int) =>
      some (((x19, (x20, (x21, (x22, x23)))), ((⟨none, 0, 0⟩ : Sl), 2)), h9)) (
      bindO (ldZ [.int .i64, .int .i64, .int .i64, .int .i64, .int .i64] h8 (⟨(h1.size + 16), 0, (some 0)⟩ : Addr)) fun ((x24, x25, x26, x27, x28) : Int × Int × Int × Int × Int) =>
      bind2 (ref18_bounds (x24, x25, x26, x27, x28) h8) fun ((x29, x30) : Int × Int) (h10 : H) =>
      condK (((x1.len : Nat) : Int) != (IntKind.wrap .i64 (x30 - x29))) (
        bindO (stZ [.int .i64, .int .i64, .int .i64, .int .i64, .int .i64] h10 (⟨b1, 0, (some 0)⟩ : Addr) ((0, 0, 0, 0, 0) : Int × Int × Int × Int × Int)) fun (h11 : H) =>
        bindO (ldZ [.int .i64, .int .i64, .int .i64, .int .i64, .int .i64] h11 (⟨b1, 0, (some 0)⟩ : Addr)) fun ((x31, x32, x33, x34, x35) : Int × Int × Int × Int × Int) =>
        some (((x31, (x32, (x33, (x34, x35)))), ((⟨none, 0, 0⟩ : Sl), 2)), h11)) (
        bindO (ldZ [.int .i64, .int .i64, .int .i64, .int .i64, .int .i64] h10 (⟨(h1.size + 16), 0, (some 0)⟩ : Addr)) fun ((x36, x37, x38, x39, x40) : Int × Int × Int × Int × Int) =>
        bindO (stZ [.int .i64, .int .i64, .int .i64, .int .i64, .int .i64] h10 (⟨b1, 0, (some 0)⟩ : Addr) ((x36, x37, x38, x39, x40) : Int × Int × Int × Int × Int)) fun (h12 : H) =>
        bindO (ldZ [.int .i64, .int .i64, .int .i64, .int .i64, .int .i64] h12 (⟨b1, 0, (some 0)⟩ : Addr)) fun ((x41, x42, x43, x44, x45) : Int × Int × Int × Int × Int) =>
        some (((x41, (x42, (x43, (x44, x45)))), (x1, 0)), h12))))
noncomputable def ref18_Read : Sl → H → Option ((((Int × Int × Int × Int × Int)) × Sl × Int) × H) := P.ref18_Read ref1_Takes ref18_Right ref18_bounds
noncomputable def ann_50 : Ann := ⟨fun _ => none, fun _ => none, fun _ => none⟩
noncomputable def E_50 : Ent := ⟨50, [⟨false, [.sl]⟩], [⟨true, [.int .i64, .int .i64, .int .i64, .int .i64, .int .i64]⟩, ⟨false, [.sl]⟩, ⟨false, [.int .i64]⟩], fun (x : Sl) h => ref18_Read x h⟩
theorem eq_50 (ref1_Takes : Sl → Int → H → Option ((Sl × Sl × Int) × H)) (ref18_Right : (Int × Int × Int × Int × Int) → H → Option ((Bool) × H)) (ref18_bounds : (Int × Int × Int × Int × Int) → H → Option ((Int × Int) × H)) : (fun (x : PT E_50.ps) (h : H) => runFK Go.Proofs.Ythiccnmplgdheaa.Tab.D (lstK [⟨107, [⟨false, [.sl]⟩, ⟨false, [.int .i64]⟩], [⟨false, [.sl]⟩, ⟨false, [.sl]⟩, ⟨false, [.int .i64]⟩], fun (x : Sl × Int) h => ref1_Takes x.1 x.2 h⟩, ⟨43, [⟨true, [.int .i64, .int .i64, .int .i64, .int .i64, .int .i64]⟩], [⟨false, [.bool]⟩], fun (x : (Int × Int × Int × Int × Int)) h => ref18_Right x h⟩, ⟨102, [⟨true, [.int .i64, .int .i64, .int .i64, .int .i64, .int .i64]⟩], [⟨false, [.int .i64]⟩, ⟨false, [.int .i64]⟩], fun (x : (Int × Int × Int × Int × Int)) h => ref18_bounds x h⟩]) ann_50 Try.f50 (Try.f50.body.getD .skip) E_50.ys (encP E_50.ps x) h) = (fun (x : Sl) h => P.ref18_Read ref1_Takes ref18_Right ref18_bounds x h) := by kernel_rfl
theorem ok_50 : E_50.ok Go.Proofs.Ythiccnmplgdheaa.Tab.D := fun x h y h' e => runFK_ok (lstK_ok [E_107, E_43, E_102] (List.forall_mem_cons.2 ⟨ok_107, List.forall_mem_cons.2 ⟨ok_43, List.forall_mem_cons.2 ⟨ok_102, fun E h => nomatch h⟩⟩⟩)) (A := ann_50) (by kernel_rfl) (show Go.Proofs.Ythiccnmplgdheaa.Tab.D.fn.get 50 = some Try.f50 by kernel_rfl) (show Try.f50.body = some (Try.f50.body.getD .skip) by kernel_rfl) ((congrFun (congrFun (eq_50 ref1_Takes ref18_Right ref18_bounds) x) h).trans e)
/-! ref18_ReadShort -/
noncomputable def P.ref18_ReadShort (ref1_Takes : Sl → Int → H → Option ((Sl × Sl × Int) × H)) (ref18_Of : Int → Int → Int → H → Option (((Int × Int × Int × Int × Int)) × H)) (b : Sl) (h : H) : Option (((Int × Int × Int × Int × Int) × Int × Int) × H) :=
  newO (row 46 [(.int .i64 0), (.int .i64 0), (.int .i64 0), (.int .i64 0), (.int .i64 0)]) h fun (b1 : Nat) (h0 : H) =>
  bind2 (ref1_Takes b 3 h0) fun ((x0, x1, x2) : Sl × Sl × Int) (h1 : H) =>
  condK (x2 != 0) (
    bindO (stZ [.int .i64, .int .i64, .int .i64, .int .i64, .int .i64] h1 (⟨b1, 0, (some 0)⟩ : Addr) ((0, 0, 0, 0, 0) : Int × Int × Int × Int × Int)) fun (h2 : H) =>
    bindO (ldZ [.int .i64, .int .i64, .int .i64, .int .i64, .int .i64] h2 (⟨b1, 0, (some 0)⟩ : Addr)) fun ((x3, x4, x5, x6, x7) : Int × Int × Int × Int × Int) =>
    some (((x3, (x4, (x5, (x6, x7)))), (0, 3)), h2)) (
    letH (growIf h1 12) fun (h3 : H) =>
    bindO (ixT 1 x0 0) fun (a0 : Addr) =>
    bindO (ldI .i64 h3 a0) fun (x8 : Int) =>
    bindO (ixT 1 x0 1) fun (a1 : Addr) =>
    bindO (ldI .i64 h3 a1) fun (x9 : Int) =>
    bindO (ixT 1 x0 2) fun (a2 : Addr) =>
    bindO (ldI .i64 h3 a2) fun (x10 : Int) =>
    bind2 (ref18_Of x8 x9 x10 h3) fun ((x11, x12, x13, x14, x15) : Int × Int × Int × Int × Int) (h4 : H) =>
    letH (addP 2047 h1.size [(10, (row 46 [(.int .i64 0), (.int .i64 0), (.int .i64 0), (.int .i64 0), (.int .i64 0)]))] h4) fun (h5 : H) =>
    bindO (stZ [.int .i64, .int .i64, .int .i64, .int .i64, .int .i64] h5 (⟨(h1.size + 10), 0, (some 0)⟩ : Addr) ((x11, x12, x13, x14, x15) : Int × Int × Int × Int × Int)) fun (h6 : H) =>
    letH (addP 4095 h1.size [(10, (row 46 [(.int .i64 0), (.int .i64 0), (.int .i64 0), (.int .i64 0), (.int .i64 0)]))] h6) fun (h7 : H) =>
    letH (tickIf 12 h7) fun (h8 : H) =>
    bindO (ldI .i64 h8 (add (⟨(h1.size + 10), 0, (some 0)⟩ : Addr) 4)) fun (x16 : Int) =>
    condK (x16 == 0) (
      bindO (stZ [.int .i64, .int .i64, .int .i64, .int .i64, .int .i64] h8 (⟨b1, 0, (some 0)⟩ : Addr) ((0, 0, 0, 0, 0) : Int × Int × Int × Int × Int)) fun (h9 : H) =>
      bindO (ldZ [.int .i64, .int .i64, .int .i64, .int .i64, .int .i64] h9 (⟨b1, 0, (some 0)⟩ : Addr)) fun ((x17, x18, x19, x20, x21) : Int × Int × Int × Int × Int) =>
      some (((x17, (x18, (x19, (x20, x21)))), (0, 2)), h9)) (
      bindO (ldZ [.int .i64, .int .i64, .int .i64, .int .i64, .int .i64] h8 (⟨(h1.size + 10), 0, (some 0)⟩ : Addr)) fun ((x22, x23, x24, x25, x26) : Int × Int × Int × Int × Int) =>
      bindO (stZ [.int .i64, .int .i64, .int .i64, .int .i64, .int .i64] h8 (⟨b1, 0, (some 0)⟩ : Addr) ((x22, x23, x24, x25, x26) : Int × Int × Int × Int × Int)) fun (h10 : H) =>
      bindO (ldZ [.int .i64, .int .i64, .int .i64, .int .i64, .int .i64] h10 (⟨b1, 0, (some 0)⟩ : Addr)) fun ((x27, x28, x29, x30, x31) : Int × Int × Int × Int × Int) =>
      some (((x27, (x28, (x29, (x30, x31)))), ((IntKind.wrap .i64 (((b.len : Nat) : Int) - ((x1.len : Nat) : Int))), 0)), h10)))
noncomputable def ref18_ReadShort : Sl → H → Option ((((Int × Int × Int × Int × Int)) × Int × Int) × H) := P.ref18_ReadShort ref1_Takes ref18_Of
noncomputable def ann_51 : Ann := ⟨fun _ => none, fun _ => none, fun _ => none⟩
noncomputable def E_51 : Ent := ⟨51, [⟨false, [.sl]⟩], [⟨true, [.int .i64, .int .i64, .int .i64, .int .i64, .int .i64]⟩, ⟨false, [.int .i64]⟩, ⟨false, [.int .i64]⟩], fun (x : Sl) h => ref18_ReadShort x h⟩
theorem eq_51 (ref1_Takes : Sl → Int → H → Option ((Sl × Sl × Int) × H)) (ref18_Of : Int → Int → Int → H → Option (((Int × Int × Int × Int × Int)) × H)) : (fun (x : PT E_51.ps) (h : H) => runFK Go.Proofs.Ythiccnmplgdheaa.Tab.D (lstK [⟨107, [⟨false, [.sl]⟩, ⟨false, [.int .i64]⟩], [⟨false, [.sl]⟩, ⟨false, [.sl]⟩, ⟨false, [.int .i64]⟩], fun (x : Sl × Int) h => ref1_Takes x.1 x.2 h⟩, ⟨46, [⟨false, [.int .i64]⟩, ⟨false, [.int .i64]⟩, ⟨false, [.int .i64]⟩], [⟨true, [.int .i64, .int .i64, .int .i64, .int .i64, .int .i64]⟩], fun (x : Int × Int × Int) h => ref18_Of x.1 x.2.1 x.2.2 h⟩]) ann_51 Try.f51 (Try.f51.body.getD .skip) E_51.ys (encP E_51.ps x) h) = (fun (x : Sl) h => P.ref18_ReadShort ref1_Takes ref18_Of x h) := by kernel_rfl
theorem ok_51 : E_51.ok Go.Proofs.Ythiccnmplgdheaa.Tab.D := fun x h y h' e => runFK_ok (lstK_ok [E_107, E_46] (List.forall_mem_cons.2 ⟨ok_107, List.forall_mem_cons.2 ⟨ok_46, fun E h => nomatch h⟩⟩)) (A := ann_51) (by kernel_rfl) (show Go.Proofs.Ythiccnmplgdheaa.Tab.D.fn.get 51 = some Try.f51 by kernel_rfl) (show Try.f51.body = some (Try.f51.body.getD .skip) by kernel_rfl) ((congrFun (congrFun (eq_51 ref1_Takes ref18_Of) x) h).trans e)
/-! law18_HeadTells -/
noncomputable def P.law18_HeadTells_l1 (hand_Head : Int → Int → Int → Int → Int → H → Option (((Int × Int × Int × Int × Int)) × H)) (hand_Text : Sl → Int → H → Option ((Sl) × H)) (ref18_Part : (Int × Int × Int × Int × Int) → Sl → H → Option ((Sl) × H)) (hand_Pick : Int → Int → H → Option ((Int) × H)) (head_Lay : (Int × Int × Int × Int × Int) → Sl → H → Option ((Sl) × H)) (ref18_Lay : (Int × Int × Int × Int × Int) → Sl → H → Option ((Sl) × H)) (head_Right : (Int × Int × Int × Int × Int) → H → Option ((Bool) × H)) (ref18_Right : (Int × Int × Int × Int × Int) → H → Option ((Bool) × H)) (head_Part : (Int × Int × Int × Int × Int) → Sl → H → Option ((Sl) × H)) (head_Short : (Int × Int × Int × Int × Int) → H → Option ((Sl) × H)) (ref18_Short : (Int × Int × Int × Int × Int) → H → Option ((Sl) × H)) (hand_Num : Int → H → Option ((Int) × H)) (head_Of : Int → Int → Int → H → Option (((Int × Int × Int × Int × Int)) × H)) (ref18_Of : Int → Int → Int → H → Option (((Int × Int × Int × Int × Int)) × H)) (hand_May : Int → H → Option ((Int) × H)) (ref1_Put : Sl → Sl → H → Option ((Sl) × H)) (hand_Few : Sl → Int → H → Option ((Sl) × H)) (head_Read : Sl → H → Option ((((Int × Int × Int × Int × Int)) × Sl × Int) × H)) (ref18_Read : Sl → H → Option ((((Int × Int × Int × Int × Int)) × Sl × Int) × H)) (head_ReadShort : Sl → H → Option ((((Int × Int × Int × Int × Int)) × Int × Int) × H)) (ref18_ReadShort : Sl → H → Option ((((Int × Int × Int × Int × Int)) × Int × Int) × H)) (law18_known : H → Option ((Bool) × H)) : ((Int × (Int × (Int × ((Sl × (Sl × (Sl × Sl))) × Int)))) × H) → Option (((Int × (Int × (Int × ((Sl × (Sl × (Sl × Sl))) × Int)))) × H) ⊕ ((PUnit × H) ⊕ (Bool × H))) := fun ((cut, (at', (with', ((x0, (x1, (x2, x3))), x4)))), h0) =>
  condK (decide ((x4 < 4))) (
    bindO (ixVT ⟨false, [.sl]⟩ [(.slice x0.base x0.len x0.cap), (.slice x1.base x1.len x1.cap), (.slice x2.base x2.len x2.cap), (.slice x3.base x3.len x3.cap)] x4) fun (x5 : Sl) =>
    bind2 (hand_Few x5 800 h0) fun (x6 : Sl) (h1 : H) =>
    joinO (
      joinO (
        condK (decide ((((x6.len : Nat) : Int) > 0))) (
          some (Sum.inl ((cut, (at', (with', (x6, ((x0, (x1, (x2, x3))), (x4, ((Int.tmod at' 3) == 0))))))), h1))) (
          some (Sum.inl ((cut, (at', (with', (x6, ((x0, (x1, (x2, x3))), (x4, false)))))), h1)))) fun (((cut1, (at'1, (with'1, (w, ((x7, (x8, (x9, x10))), (x11, x12)))))), h2) : ((Int × (Int × (Int × (Sl × ((Sl × (Sl × (Sl × Sl))) × (Int × Bool)))))) × H)) =>
      condK x12 (
        bind2 (hand_Pick (IntKind.wrap .i64 (Int.tdiv at'1 3)) ((w.len : Nat) : Int) h2) fun (x13 : Int) (h3 : H) =>
        bindO (ixT 1 w x13) fun (a0 : Addr) =>
        bindO (ldI .u8 h3 a0) fun (x14 : Int) =>
        letO ((IntKind.wrap .u8 (((BitVec.toNat ((BitVec.ofInt 8 x14) ^^^ (BitVec.ofInt 8 with'1))) : Nat) : Int))) fun (x15 : Int) =>
        bindO (ixT 1 w x13) fun (a1 : Addr) =>
        bindO (st1 h3 a1 (.int .u8 x15)) fun (h4 : H) =>
        some (Sum.inl ((cut1, (at'1, (with'1, (w, ((x7, (x8, (x9, x10))), x11))))), h4))) (
        some (Sum.inl ((cut1, (at'1, (with'1, (w, ((x7, (x8, (x9, x10))), x11))))), h2)))) fun (((cut1, (at'1, (with'1, (w, ((x7, (x8, (x9, x10))), x11))))), h2) : ((Int × (Int × (Int × (Sl × ((Sl × (Sl × (Sl × Sl))) × Int))))) × H)) =>
    joinO (
      condK ((Int.tmod cut1 4) == 0) (
        bind2 (hand_Pick (IntKind.wrap .i64 (Int.tdiv cut1 4)) (IntKind.wrap .i64 (((w.len : Nat) : Int) + 1)) h2) fun (x12 : Int) (h3 : H) =>
        bindO (slT 1 h3 w none (some x12) none) fun (x13 : Sl) =>
        some (Sum.inl ((cut1, (at'1, (with'1, (x13, ((x7, (x8, (x9, x10))), x11))))), h3))) (
        some (Sum.inl ((cut1, (at'1, (with'1, (w, ((x7, (x8, (x9, x10))), x11))))), h2)))) fun (((cut2, (at'2, (with'2, (w1, ((x12, (x13, (x14, x15))), x16))))), h3) : ((Int × (Int × (Int × (Sl × ((Sl × (Sl × (Sl × Sl))) × Int))))) × H)) =>
    bind2 (head_Read w1 h3) fun (((x17, x18, x19, x20, x21), x22, x23) : (Int × Int × Int × Int × Int) × Sl × Int) (h4 : H) =>
    newO (row 46 [(.int .i64 0), (.int .i64 0), (.int .i64 0), (.int .i64 0), (.int .i64 0)]) h4 fun (b : Nat) (h5 : H) =>
    bindO (stZ [.int .i64, .int .i64, .int .i64, .int .i64, .int .i64] h5 (⟨b, 0, (some 0)⟩ : Addr) ((x17, x18, x19, x20, x21) : Int × Int × Int × Int × Int)) fun (h6 : H) =>
    bind2 (ref18_Read w1 h6) fun (((x24, x25, x26, x27, x28), x29, x30) : (Int × Int × Int × Int × Int) × Sl × Int) (h7 : H) =>
    newO (row 46 [(.int .i64 0), (.int .i64 0), (.int .i64 0), (.int .i64 0), (.int .i64 0)]) h7 fun (b1 : Nat) (h8 : H) =>
    bindO (stZ [.int .i64, .int .i64, .int .i64, .int .i64, .int .i64] h8 (⟨b1, 0, (some 0)⟩ : Addr) ((x24, x25, x26, x27, x28) : Int × Int × Int × Int × Int)) fun (h9 : H) =>
    bind2 (head_ReadShort w1 h9) fun (((x31, x32, x33, x34, x35), x36, x37) : (Int × Int × Int × Int × Int) × Int × Int) (h10 : H) =>
    newO (row 46 [(.int .i64 0), (.int .i64 0), (.int .i64 0), (.int .i64 0), (.int .i64 0)]) h10 fun (b2 : Nat) (h11 : H) =>
    bindO (stZ [.int .i64, .int .i64, .int .i64, .int .i64, .int .i64] h11 (⟨b2, 0, (some 0)⟩ : Addr) ((x31, x32, x33, x34, x35) : Int × Int × Int × Int × Int)) fun (h12 : H) =>
    bind2 (ref18_ReadShort w1 h12) fun (((x38, x39, x40, x41, x42), x43, x44) : (Int × Int × Int × Int × Int) × Int × Int) (h13 : H) =>
    newO (row 46 [(.int .i64 0), (.int .i64 0), (.int .i64 0), (.int .i64 0), (.int .i64 0)]) h13 fun (b3 : Nat) (h14 : H) =>
    bindO (stZ [.int .i64, .int .i64, .int .i64, .int .i64, .int .i64] h14 (⟨b3, 0, (some 0)⟩ : Addr) ((x38, x39, x40, x41, x42) : Int × Int × Int × Int × Int)) fun (h15 : H) =>
    joinO (
      bindO (ldZ [.int .i64, .int .i64, .int .i64, .int .i64, .int .i64] h15 (⟨b, 0, (some 0)⟩ : Addr)) fun ((x45, x46, x47, x48, x49) : Int × Int × Int × Int × Int) =>
      bindO (ldZ [.int .i64, .int .i64, .int .i64, .int .i64, .int .i64] h15 (⟨b1, 0, (some 0)⟩ : Addr)) fun ((x50, x51, x52, x53, x54) : Int × Int × Int × Int × Int) =>
      letO ((!((x45 == x50) && ((x46 == x51) && ((x47 == x52) && ((x48 == x53) && ((x49 == x54) && true))))))) fun (x55 : Bool) =>
      condK x55 (
        some (Sum.inl ((cut2, (at'2, (with'2, ((x12, (x13, (x14, x15))), (x16, true))))), h15))) (
        bind2 (strT h15 x22) fun (x56 : ByteArray) (h16 : H) =>
        bind2 (strT h16 x29) fun (x57 : ByteArray) (h17 : H) =>
        condK (!(x56.toList == x57.toList)) (
          some (Sum.inl ((cut2, (at'2, (with'2, ((x12, (x13, (x14, x15))), (x16, true))))), h17))) (
          condK (x23 != x30) (
            some (Sum.inl ((cut2, (at'2, (with'2, ((x12, (x13, (x14, x15))), (x16, true))))), h17))) (
            bindO (ldZ [.int .i64, .int .i64, .int .i64, .int .i64, .int .i64] h17 (⟨b2, 0, (some 0)⟩ : Addr)) fun ((x58, x59, x60, x61, x62) : Int × Int × Int × Int × Int) =>
            bindO (ldZ [.int .i64, .int .i64, .int .i64, .int .i64, .int .i64] h17 (⟨b3, 0, (some 0)⟩ : Addr)) fun ((x63, x64, x65, x66, x67) : Int × Int × Int × Int × Int) =>
            letO ((!((x58 == x63) && ((x59 == x64) && ((x60 == x65) && ((x61 == x66) && ((x62 == x67) && true))))))) fun (x68 : Bool) =>
            condK x68 (
              some (Sum.inl ((cut2, (at'2, (with'2, ((x12, (x13, (x14, x15))), (x16, true))))), h17))) (
              condK (x36 != x43) (
                some (Sum.inl ((cut2, (at'2, (with'2, ((x12, (x13, (x14, x15))), (x16, true))))), h17))) (
                some (Sum.inl ((cut2, (at'2, (with'2, ((x12, (x13, (x14, x15))), (x16, (x37 != x44)))))), h17)))))))) fun (((cut3, (at'3, (with'3, ((x45, (x46, (x47, x48))), (x49, x50))))), h16) : ((Int × (Int × (Int × ((Sl × (Sl × (Sl × Sl))) × (Int × Bool))))) × H)) =>
    condK x50 (
      some (Sum.inr (Sum.inr (false, h16)))) (
      some (Sum.inl ((cut3, (at'3, (with'3, ((x45, (x46, (x47, x48))), (IntKind.wrap .i64 (x49 + 1)))))), h16)))) (
    some (Sum.inr (Sum.inl ((), h0))))

noncomputable def P.law18_HeadTells (hand_Head : Int → Int → Int → Int → Int → H → Option (((Int × Int × Int × Int × Int)) × H)) (hand_Text : Sl → Int → H → Option ((Sl) × H)) (ref18_Part : (Int × Int × Int × Int × Int) → Sl → H → Option ((Sl) × H)) (hand_Pick : Int → Int → H → Option ((Int) × H)) (head_Lay : (Int × Int × Int × Int × Int) → Sl → H → Option ((Sl) × H)) (ref18_Lay : (Int × Int × Int × Int × Int) → Sl → H → Option ((Sl) × H)) (head_Right : (Int × Int × Int × Int × Int) → H → Option ((Bool) × H)) (ref18_Right : (Int × Int × Int × Int × Int) → H → Option ((Bool) × H)) (head_Part : (Int × Int × Int × Int × Int) → Sl → H → Option ((Sl) × H)) (head_Short : (Int × Int × Int × Int × Int) → H → Option ((Sl) × H)) (ref18_Short : (Int × Int × Int × Int × Int) → H → Option ((Sl) × H)) (hand_Num : Int → H → Option ((Int) × H)) (head_Of : Int → Int → Int → H → Option (((Int × Int × Int × Int × Int)) × H)) (ref18_Of : Int → Int → Int → H → Option (((Int × Int × Int × Int × Int)) × H)) (hand_May : Int → H → Option ((Int) × H)) (ref1_Put : Sl → Sl → H → Option ((Sl) × H)) (hand_Few : Sl → Int → H → Option ((Sl) × H)) (head_Read : Sl → H → Option ((((Int × Int × Int × Int × Int)) × Sl × Int) × H)) (ref18_Read : Sl → H → Option ((((Int × Int × Int × Int × Int)) × Sl × Int) × H)) (head_ReadShort : Sl → H → Option ((((Int × Int × Int × Int × Int)) × Int × Int) × H)) (ref18_ReadShort : Sl → H → Option ((((Int × Int × Int × Int × Int)) × Int × Int) × H)) (law18_known : H → Option ((Bool) × H)) (id : Int) (deadline : Int) (size : Int) (index : Int) (bend : Int) (payload : Sl) (raw : Sl) (cut : Int) (at' : Int) (with' : Int) (parts : Sl) (h : H) : Option (Bool × H) :=
  bind2 (hand_Head id deadline size index bend h) fun ((x0, x1, x2, x3, x4) : Int × Int × Int × Int × Int) (h0 : H) =>
  newO (row 46 [(.int .i64 0), (.int .i64 0), (.int .i64 0), (.int .i64 0), (.int .i64 0)]) h0 fun (b : Nat) (h1 : H) =>
  bindO (stZ [.int .i64, .int .i64, .int .i64, .int .i64, .int .i64] h1 (⟨b, 0, (some 0)⟩ : Addr) ((x0, x1, x2, x3, x4) : Int × Int × Int × Int × Int)) fun (h2 : H) =>
  bindO (ldI .i64 h2 (add (⟨b, 0, (some 0)⟩ : Addr) 4)) fun (x5 : Int) =>
  letO ((if ((if (700 < x5) then 700 else x5) > 0) then (if (700 < x5) then 700 else x5) else 0)) fun (x6 : Int) =>
  bind2 (hand_Text payload x6 h2) fun (x7 : Sl) (h3 : H) =>
  joinO (
    condK ((Int.tmod cut 7) == 6) (
      some (Sum.inl ((id, (deadline, (size, (index, (bend, (payload, (raw, (cut, (at', (with', (parts, ((some (⟨b, 0, (some 0)⟩ : Addr)), payload)))))))))))), h3))) (
      some (Sum.inl ((id, (deadline, (size, (index, (bend, (payload, (raw, (cut, (at', (with', (parts, ((some (⟨b, 0, (some 0)⟩ : Addr)), x7)))))))))))), h3)))) fun (((id1, (deadline1, (size1, (index1, (bend1, (payload1, (raw1, (cut1, (at'1, (with'1, (parts1, (h4, b1)))))))))))), h5) : ((Int × (Int × (Int × (Int × (Int × (Sl × (Sl × (Int × (Int × (Int × (Sl × ((Option Addr) × Sl)))))))))))) × H)) =>
  ptrK h4 fun (a0 : Addr) =>
  bindO (ldZ [.int .i64, .int .i64, .int .i64, .int .i64, .int .i64] h5 a0) fun ((x8, x9, x10, x11, x12) : Int × Int × Int × Int × Int) =>
  bind2 (ref18_Part (x8, x9, x10, x11, x12) b1 h5) fun (x13 : Sl) (h6 : H) =>
  bind2 (hand_Pick cut1 (IntKind.wrap .i64 (((x13.len : Nat) : Int) + 1)) h6) fun (x14 : Int) (h7 : H) =>
  ptrK h4 fun (a1 : Addr) =>
  letH (growIf h7 10) fun (h8 : H) =>
  bindO (ldZ [.int .i64, .int .i64, .int .i64, .int .i64, .int .i64] h8 a1) fun ((x15, x16, x17, x18, x19) : Int × Int × Int × Int × Int) =>
  bindO (slT 1 h8 x13 none (some x14) none) fun (x20 : Sl) =>
  bindO (slT 1 h8 x13 (some x14) none none) fun (x21 : Sl) =>
  letH (addP 255 h7.size [(7, (row 30 [(.slice x20.base x20.len x20.cap), (.slice x21.base x21.len x21.cap)]))] h8) fun (h9 : H) =>
  bind2 (head_Lay (x15, x16, x17, x18, x19) (⟨(some (⟨(h7.size + 7), 0, (some 0)⟩ : Addr)), 2, 2⟩ : Sl) h9) fun (x22 : Sl) (h10 : H) =>
  ptrK h4 fun (a2 : Addr) =>
  letH (addP 1023 h7.size [(7, (row 30 [(.slice x20.base x20.len x20.cap), (.slice x21.base x21.len x21.cap)]))] h10) fun (h11 : H) =>
  letH (tickIf 10 h11) fun (h12 : H) =>
  letH (growIf h12 10) fun (h13 : H) =>
  bindO (ldZ [.int .i64, .int .i64, .int .i64, .int .i64, .int .i64] h13 a2) fun ((x23, x24, x25, x26, x27) : Int × Int × Int × Int × Int) =>
  bindO (slT 1 h13 x13 none (some x14) none) fun (x28 : Sl) =>
  bindO (slT 1 h13 x13 (some x14) none none) fun (x29 : Sl) =>
  letH (addP 255 h12.size [(7, (row 30 [(.slice x28.base x28.len x28.cap), (.slice x29.base x29.len x29.cap)]))] h13) fun (h14 : H) =>
  bind2 (ref18_Lay (x23, x24, x25, x26, x27) (⟨(some (⟨(h12.size + 7), 0, (some 0)⟩ : Addr)), 2, 2⟩ : Sl) h14) fun (x30 : Sl) (h15 : H) =>
  joinO (
    ptrK h4 fun (a3 : Addr) =>
    letH (addP 1023 h12.size [(7, (row 30 [(.slice x28.base x28.len x28.cap), (.slice x29.base x29.len x29.cap)]))] h15) fun (h16 : H) =>
    letH (tickIf 10 h16) fun (h17 : H) =>
    bindO (ldZ [.int .i64, .int .i64, .int .i64, .int .i64, .int .i64] h17 a3) fun ((x31, x32, x33, x34, x35) : Int × Int × Int × Int × Int) =>
    bind2 (head_Right (x31, x32, x33, x34, x35) h17) fun (x36 : Bool) (h18 : H) =>
    ptrK h4 fun (a4 : Addr) =>
    bindO (ldZ [.int .i64, .int .i64, .int .i64, .int .i64, .int .i64] h18 a4) fun ((x37, x38, x39, x40, x41) : Int × Int × Int × Int × Int) =>
    bind2 (ref18_Right (x37, x38, x39, x40, x41) h18) fun (x42 : Bool) (h19 : H) =>
    condK (!(x36 == x42)) (
      ptrK h4 fun (a5 : Addr) =>
      bindO (ldZ [.int .i64, .int .i64, .int .i64, .int .i64, .int .i64] h17 a5) fun ((x43, x44, x45, x46, x47) : Int × Int × Int × Int × Int) =>
      condK (veq (.agg #[(.int .i64 x37), (.int .i64 x38), (.int .i64 x39), (.int .i64 x40), (.int .i64 x41)]) (.agg #[(.int .i64 x43), (.int .i64 x44), (.int .i64 x45), (.int .i64 x46), (.int .i64 x47)])) (
        some (Sum.inl ((id1, (deadline1, (size1, (index1, (bend1, (payload1, (raw1, (cut1, (at'1, (with'1, (h4, (x30, true)))))))))))), h19))) none) (
      ptrK h4 fun (a6 : Addr) =>
      bindO (ldZ [.int .i64, .int .i64, .int .i64, .int .i64, .int .i64] h19 a6) fun ((x48, x49, x50, x51, x52) : Int × Int × Int × Int × Int) =>
      bind2 (head_Part (x48, x49, x50, x51, x52) b1 h19) fun (x53 : Sl) (h20 : H) =>
      bind2 (strT h20 x53) fun (x54 : ByteArray) (h21 : H) =>
      bind2 (strT h20 x13) fun (x55 : ByteArray) (h22 : H) =>
      condK (!(x54.toList == x55.toList)) (
        bind2 (strT h19 x13) fun (x56 : ByteArray) (h23 : H) =>
        condK (x56.data.toList == x55.data.toList) (
          ptrK h4 fun (a7 : Addr) =>
          bindO (ldZ [.int .i64, .int .i64, .int .i64, .int .i64, .int .i64] h17 a7) fun ((x57, x58, x59, x60, x61) : Int × Int × Int × Int × Int) =>
          condK (veq (.agg #[(.int .i64 x37), (.int .i64 x38), (.int .i64 x39), (.int .i64 x40), (.int .i64 x41)]) (.agg #[(.int .i64 x57), (.int .i64 x58), (.int .i64 x59), (.int .i64 x60), (.int .i64 x61)])) (
            some (Sum.inl ((id1, (deadline1, (size1, (index1, (bend1, (payload1, (raw1, (cut1, (at'1, (with'1, (h4, (x30, true)))))))))))), h20))) none) none) (
        bind2 (strT h20 x22) fun (x62 : ByteArray) (h24 : H) =>
        bind2 (strT h20 x30) fun (x63 : ByteArray) (h25 : H) =>
        condK (!(x62.toList == x63.toList)) (
          bind2 (strT h19 x13) fun (x64 : ByteArray) (h26 : H) =>
          condK (x64.data.toList == x55.data.toList) (
            ptrK h4 fun (a8 : Addr) =>
            bindO (ldZ [.int .i64, .int .i64, .int .i64, .int .i64, .int .i64] h17 a8) fun ((x65, x66, x67, x68, x69) : Int × Int × Int × Int × Int) =>
            condK (veq (.agg #[(.int .i64 x37), (.int .i64 x38), (.int .i64 x39), (.int .i64 x40), (.int .i64 x41)]) (.agg #[(.int .i64 x65), (.int .i64 x66), (.int .i64 x67), (.int .i64 x68), (.int .i64 x69)])) (
              some (Sum.inl ((id1, (deadline1, (size1, (index1, (bend1, (payload1, (raw1, (cut1, (at'1, (with'1, (h4, (x30, true)))))))))))), h20))) none) none) (
          ptrK h4 fun (a9 : Addr) =>
          bindO (ldZ [.int .i64, .int .i64, .int .i64, .int .i64, .int .i64] h20 a9) fun ((x70, x71, x72, x73, x74) : Int × Int × Int × Int × Int) =>
          bind2 (head_Lay (x70, x71, x72, x73, x74) parts1 h20) fun (x75 : Sl) (h27 : H) =>
          bind2 (strT h27 x75) fun (x76 : ByteArray) (h28 : H) =>
          ptrK h4 fun (a10 : Addr) =>
          bindO (ldZ [.int .i64, .int .i64, .int .i64, .int .i64, .int .i64] h27 a10) fun ((x77, x78, x79, x80, x81) : Int × Int × Int × Int × Int) =>
          bind2 (ref18_Lay (x77, x78, x79, x80, x81) parts1 h27) fun (x82 : Sl) (h29 : H) =>
          bind2 (strT h29 x82) fun (x83 : ByteArray) (h30 : H) =>
          condK (!(x76.toList == x83.toList)) (
            ptrK h4 fun (a11 : Addr) =>
            bindO (ldZ [.int .i64, .int .i64, .int .i64, .int .i64, .int .i64] h20 a11) fun ((x84, x85, x86, x87, x88) : Int × Int × Int × Int × Int) =>
            condK (veq (.agg #[(.int .i64 x77), (.int .i64 x78), (.int .i64 x79), (.int .i64 x80), (.int .i64 x81)]) (.agg #[(.int .i64 x84), (.int .i64 x85), (.int .i64 x86), (.int .i64 x87), (.int .i64 x88)])) (
              bind2 (strT h29 x75) fun (x89 : ByteArray) (h31 : H) =>
              condK (x89.data.toList == x76.data.toList) (
                bind2 (strT h19 x13) fun (x90 : ByteArray) (h32 : H) =>
                condK (x90.data.toList == x55.data.toList) (
                  ptrK h4 fun (a12 : Addr) =>
                  bindO (ldZ [.int .i64, .int .i64, .int .i64, .int .i64, .int .i64] h17 a12) fun ((x91, x92, x93, x94, x95) : Int × Int × Int × Int × Int) =>
                  condK (veq (.agg #[(.int .i64 x37), (.int .i64 x38), (.int .i64 x39), (.int .i64 x40), (.int .i64 x41)]) (.agg #[(.int .i64 x91), (.int .i64 x92), (.int .i64 x93), (.int .i64 x94), (.int .i64 x95)])) (
                    some (Sum.inl ((id1, (deadline1, (size1, (index1, (bend1, (payload1, (raw1, (cut1, (at'1, (with'1, (h4, (x30, true)))))))))))), h29))) none) none) none) none) (
            ptrK h4 fun (a13 : Addr) =>
            bindO (ldZ [.int .i64, .int .i64, .int .i64, .int .i64, .int .i64] h29 a13) fun ((x96, x97, x98, x99, x100) : Int × Int × Int × Int × Int) =>
            bind2 (head_Short (x96, x97, x98, x99, x100) h29) fun (x101 : Sl) (h33 : H) =>
            bind2 (strT h33 x101) fun (x102 : ByteArray) (h34 : H) =>
            ptrK h4 fun (a14 : Addr) =>
            bindO (ldZ [.int .i64, .int .i64, .int .i64, .int .i64, .int .i64] h33 a14) fun ((x103, x104, x105, x106, x107) : Int × Int × Int × Int × Int) =>
            bind2 (ref18_Short (x103, x104, x105, x106, x107) h33) fun (x108 : Sl) (h35 : H) =>
            bind2 (strT h35 x108) fun (x109 : ByteArray) (h36 : H) =>
            ptrK h4 fun (a15 : Addr) =>
            bindO (ldZ [.int .i64, .int .i64, .int .i64, .int .i64, .int .i64] h29 a15) fun ((x110, x111, x112, x113, x114) : Int × Int × Int × Int × Int) =>
            condK (veq (.agg #[(.int .i64 x103), (.int .i64 x104), (.int .i64 x105), (.int .i64 x106), (.int .i64 x107)]) (.agg #[(.int .i64 x110), (.int .i64 x111), (.int .i64 x112), (.int .i64 x113), (.int .i64 x114)])) (
              bind2 (strT h35 x101) fun (x115 : ByteArray) (h37 : H) =>
              condK (x115.data.toList == x102.data.toList) (
                ptrK h4 fun (a16 : Addr) =>
                bindO (ldZ [.int .i64, .int .i64, .int .i64, .int .i64, .int .i64] h20 a16) fun ((x116, x117, x118, x119, x120) : Int × Int × Int × Int × Int) =>
                condK (veq (.agg #[(.int .i64 x77), (.int .i64 x78), (.int .i64 x79), (.int .i64 x80), (.int .i64 x81)]) (.agg #[(.int .i64 x116), (.int .i64 x117), (.int .i64 x118), (.int .i64 x119), (.int .i64 x120)])) (
                  bind2 (strT h29 x75) fun (x121 : ByteArray) (h38 : H) =>
                  condK (x121.data.toList == x76.data.toList) (
                    bind2 (strT h19 x13) fun (x122 : ByteArray) (h39 : H) =>
                    condK (x122.data.toList == x55.data.toList) (
                      ptrK h4 fun (a17 : Addr) =>
                      bindO (ldZ [.int .i64, .int .i64, .int .i64, .int .i64, .int .i64] h17 a17) fun ((x123, x124, x125, x126, x127) : Int × Int × Int × Int × Int) =>
                      condK (veq (.agg #[(.int .i64 x37), (.int .i64 x38), (.int .i64 x39), (.int .i64 x40), (.int .i64 x41)]) (.agg #[(.int .i64 x123), (.int .i64 x124), (.int .i64 x125), (.int .i64 x126), (.int .i64 x127)])) (
                        some (Sum.inl ((id1, (deadline1, (size1, (index1, (bend1, (payload1, (raw1, (cut1, (at'1, (with'1, (h4, (x30, (!(x102.toList == x109.toList)))))))))))))), h35))) none) none) none) none) none) none))))) fun (((id2, (deadline2, (size2, (index2, (bend2, (payload2, (raw2, (cut2, (at'2, (with'2, (h16, (y, x31)))))))))))), h17) : ((Int × (Int × (Int × (Int × (Int × (Sl × (Sl × (Int × (Int × (Int × ((Option Addr) × (Sl × Bool)))))))))))) × H)) =>
  condK x31 (
    some (false, h17)) (
    bind2 (hand_Pick id2 44 h17) fun (x32 : Int) (h18 : H) =>
    bind2 (hand_Num deadline2 h18) fun (x33 : Int) (h19 : H) =>
    bind2 (hand_Pick size2 610 h19) fun (x34 : Int) (h20 : H) =>
    bind2 (head_Of (IntKind.wrap .i64 (x32 - 2)) x33 (IntKind.wrap .i64 (x34 - 4)) h20) fun ((x35, x36, x37, x38, x39) : Int × Int × Int × Int × Int) (h21 : H) =>
    bind2 (hand_Num deadline2 h21) fun (x40 : Int) (h22 : H) =>
    bind2 (hand_Pick size2 610 h22) fun (x41 : Int) (h23 : H) =>
    bind2 (ref18_Of (IntKind.wrap .i64 (x32 - 2)) x40 (IntKind.wrap .i64 (x41 - 4)) h23) fun ((x42, x43, x44, x45, x46) : Int × Int × Int × Int × Int) (h24 : H) =>
    letO ((!((x35 == x42) && ((x36 == x43) && ((x37 == x44) && ((x38 == x45) && ((x39 == x46) && true))))))) fun (x47 : Bool) =>
    condK x47 (
      some (false, h24)) (
      bind2 (hand_Pick id2 44 h24) fun (x48 : Int) (h25 : H) =>
      bind2 (hand_May deadline2 h25) fun (x49 : Int) (h26 : H) =>
      bind2 (hand_Pick bend2 9 h26) fun (x50 : Int) (h27 : H) =>
      bind2 (hand_Pick index2 9 h27) fun (x51 : Int) (h28 : H) =>
      bind2 (hand_Pick size2 620 h28) fun (x52 : Int) (h29 : H) =>
      newO (row 3 [(.int .i64 x48), (.int .i64 x49), (.int .i64 x50), (.int .i64 x51), (.int .i64 x52)]) h29 fun (b2 : Nat) (h30 : H) =>
      bind2 (ref1_Put (⟨none, 0, 0⟩ : Sl) (⟨(some (⟨b2, 0, (some 0)⟩ : Addr)), 5, 5⟩ : Sl) h30) fun (x53 : Sl) (h31 : H) =>
      joinO (
        bind2 (appT 5 1 1 h31 x53 payload2) fun (x54 : Sl) (h32 : H) =>
        ptrK h16 fun (a3 : Addr) =>
        bindO (ldZ [.int .i64, .int .i64, .int .i64, .int .i64, .int .i64] h32 a3) fun ((x55, x56, x57, x58, x59) : Int × Int × Int × Int × Int) =>
        bind2 (ref18_Short (x55, x56, x57, x58, x59) h32) fun (x60 : Sl) (h33 : H) =>
        ptrK h16 fun (a4 : Addr) =>
        bindO (ldZ [.int .i64, .int .i64, .int .i64, .int .i64, .int .i64] h31 a4) fun ((x61, x62, x63, x64, x65) : Int × Int × Int × Int × Int) =>
        condK (veq (.agg #[(.int .i64 x55), (.int .i64 x56), (.int .i64 x57), (.int .i64 x58), (.int .i64 x59)]) (.agg #[(.int .i64 x61), (.int .i64 x62), (.int .i64 x63), (.int .i64 x64), (.int .i64 x65)])) (
          loopO (P.law18_HeadTells_l1 hand_Head hand_Text ref18_Part hand_Pick head_Lay ref18_Lay head_Right ref18_Right head_Part head_Short ref18_Short hand_Num head_Of ref18_Of hand_May ref1_Put hand_Few head_Read ref18_Read head_ReadShort ref18_ReadShort law18_known) ((cut2, (at'2, (with'2, ((y, (raw2, (x54, x60))), 0)))), h33)) none) fun (((), h32) : (PUnit × H)) =>
      bind2 (law18_known h32) fun (x54 : Bool) (h33 : H) =>
      some (x54, h33)))
noncomputable abbrev law18_HeadTells_l1 := P.law18_HeadTells_l1 hand_Head hand_Text ref18_Part hand_Pick head_Lay ref18_Lay head_Right ref18_Right head_Part head_Short ref18_Short hand_Num head_Of ref18_Of hand_May ref1_Put hand_Few head_Read ref18_Read head_ReadShort ref18_ReadShort law18_known
noncomputable def law18_HeadTells : Int → Int → Int → Int → Int → Sl → Sl → Int → Int → Int → Sl → H → Option ((Bool) × H) := P.law18_HeadTells hand_Head hand_Text ref18_Part hand_Pick head_Lay ref18_Lay head_Right ref18_Right head_Part head_Short ref18_Short hand_Num head_Of ref18_Of hand_May ref1_Put hand_Few head_Read ref18_Read head_ReadShort ref18_ReadShort law18_known
noncomputable def ann_7 : Ann := ⟨fun i => bif i.beq 5 then some ⟨[0, 1, 2, 3, 4, 5, 6, 7, 8, 9, 10, 23, 24], [⟨false, [.int .i64]⟩, ⟨false, [.int .i64]⟩, ⟨false, [.int .i64]⟩, ⟨false, [.int .i64]⟩, ⟨false, [.int .i64]⟩, ⟨false, [.sl]⟩, ⟨false, [.sl]⟩, ⟨false, [.int .i64]⟩, ⟨false, [.int .i64]⟩, ⟨false, [.int .u8]⟩, ⟨false, [.sl]⟩, ⟨false, [.ptr]⟩, ⟨false, [.sl]⟩]⟩ else bif i.beq 21 then some ⟨[7, 8, 9, 33, 166, 167], [⟨false, [.int .i64]⟩, ⟨false, [.int .i64]⟩, ⟨false, [.int .u8]⟩, ⟨false, [.sl]⟩, ⟨true, [.sl, .sl, .sl, .sl]⟩, ⟨false, [.int .i64]⟩]⟩ else bif i.beq 23 then some ⟨[7, 8, 9, 33, 166, 167], [⟨false, [.int .i64]⟩, ⟨false, [.int .i64]⟩, ⟨false, [.int .u8]⟩, ⟨false, [.sl]⟩, ⟨true, [.sl, .sl, .sl, .sl]⟩, ⟨false, [.int .i64]⟩]⟩ else bif i.beq 30 then some ⟨[], []⟩ else none, fun i => bif i.beq 16 then some ⟨[7, 8, 9, 166, 167], [⟨false, [.int .i64]⟩, ⟨false, [.int .i64]⟩, ⟨false, [.int .u8]⟩, ⟨true, [.sl, .sl, .sl, .sl]⟩, ⟨false, [.int .i64]⟩]⟩ else none, fun i => bif i.beq 9 then some ⟨[0, 1, 2, 3, 4, 5, 6, 7, 8, 9, 23, 28, 128], [⟨false, [.int .i64]⟩, ⟨false, [.int .i64]⟩, ⟨false, [.int .i64]⟩, ⟨false, [.int .i64]⟩, ⟨false, [.int .i64]⟩, ⟨false, [.sl]⟩, ⟨false, [.sl]⟩, ⟨false, [.int .i64]⟩, ⟨false, [.int .i64]⟩, ⟨false, [.int .u8]⟩, ⟨false, [.ptr]⟩, ⟨false, [.sl]⟩, ⟨false, [.bool]⟩]⟩ else bif i.beq 19 then some ⟨[7, 8, 9, 33, 166, 167, 179], [⟨false, [.int .i64]⟩, ⟨false, [.int .i64]⟩, ⟨false, [.int .u8]⟩, ⟨false, [.sl]⟩, ⟨true, [.sl, .sl, .sl, .sl]⟩, ⟨false, [.int .i64]⟩, ⟨false, [.bool]⟩]⟩ else bif i.beq 27 then some ⟨[7, 8, 9, 166, 167, 255], [⟨false, [.int .i64]⟩, ⟨false, [.int .i64]⟩, ⟨false, [.int .u8]⟩, ⟨true, [.sl, .sl, .sl, .sl]⟩, ⟨false, [.int .i64]⟩, ⟨false, [.bool]⟩]⟩ else none⟩
noncomputable def E_7 : Ent := ⟨7, [⟨false, [.int .i64]⟩, ⟨false, [.int .i64]⟩, ⟨false, [.int .i64]⟩, ⟨false, [.int .i64]⟩, ⟨false, [.int .i64]⟩, ⟨false, [.sl]⟩, ⟨false, [.sl]⟩, ⟨false, [.int .i64]⟩, ⟨false, [.int .i64]⟩, ⟨false, [.int .u8]⟩, ⟨false, [.sl]⟩], [⟨false, [.bool]⟩], fun (x : Int × Int × Int × Int × Int × Sl × Sl × Int × Int × Int × Sl) h => law18_HeadTells x.1 x.2.1 x.2.2.1 x.2.2.2.1 x.2.2.2.2.1 x.2.2.2.2.2.1 x.2.2.2.2.2.2.1 x.2.2.2.2.2.2.2.1 x.2.2.2.2.2.2.2.2.1 x.2.2.2.2.2.2.2.2.2.1 x.2.2.2.2.2.2.2.2.2.2 h⟩
theorem eq_7 (hand_Head : Int → Int → Int → Int → Int → H → Option (((Int × Int × Int × Int × Int)) × H)) (hand_Text : Sl → Int → H → Option ((Sl) × H)) (ref18_Part : (Int × Int × Int × Int × Int) → Sl → H → Option ((Sl) × H)) (hand_Pick : Int → Int → H → Option ((Int) × H)) (head_Lay : (Int × Int × Int × Int × Int) → Sl → H → Option ((Sl) × H)) (ref18_Lay : (Int × Int × Int × Int × Int) → Sl → H → Option ((Sl) × H)) (head_Right : (Int × Int × Int × Int × Int) → H → Option ((Bool) × H)) (ref18_Right : (Int × Int × Int × Int × Int) → H → Option ((Bool) × H)) (head_Part : (Int × Int × Int × Int × Int) → Sl → H → Option ((Sl) × H)) (head_Short : (Int × Int × Int × Int × Int) → H → Option ((Sl) × H)) (ref18_Short : (Int × Int × Int × Int × Int) → H → Option ((Sl) × H)) (hand_Num : Int → H → Option ((Int) × H)) (head_Of : Int → Int → Int → H → Option (((Int × Int × Int × Int × Int)) × H)) (ref18_Of : Int → Int → Int → H → Option (((Int × Int × Int × Int × Int)) × H)) (hand_May : Int → H → Option ((Int) × H)) (ref1_Put : Sl → Sl → H → Option ((Sl) × H)) (hand_Few : Sl → Int → H → Option ((Sl) × H)) (head_Read : Sl → H → Option ((((Int × Int × Int × Int × Int)) × Sl × Int) × H)) (ref18_Read : Sl → H → Option ((((Int × Int × Int × Int × Int)) × Sl × Int) × H)) (head_ReadShort : Sl → H → Option ((((Int × Int × Int × Int × Int)) × Int × Int) × H)) (ref18_ReadShort : Sl → H → Option ((((Int × Int × Int × Int × Int)) × Int × Int) × H)) (law18_known : H → Option ((Bool) × H)) : (fun (x : PT E_7.ps) (h : H) => runFK Go.Proofs.Ythiccnmplgdheaa.Tab.D (lstK [⟨40, [⟨false, [.int .i64]⟩, ⟨false, [.int .i64]⟩, ⟨false, [.int .i64]⟩, ⟨false, [.int .i64]⟩, ⟨false, [.int .i64]⟩], [⟨true, [.int .i64, .int .i64, .int .i64, .int .i64, .int .i64]⟩], fun (x : Int × Int × Int × Int × Int) h => hand_Head x.1 x.2.1 x.2.2.1 x.2.2.2.1 x.2.2.2.2 h⟩, ⟨33, [⟨false, [.sl]⟩, ⟨false, [.int .i64]⟩], [⟨false, [.sl]⟩], fun (x : Sl × Int) h => hand_Text x.1 x.2 h⟩, ⟨41, [⟨true, [.int .i64, .int .i64, .int .i64, .int .i64, .int .i64]⟩, ⟨false, [.sl]⟩], [⟨false, [.sl]⟩], fun (x : ((Int × Int × Int × Int × Int)) × Sl) h => ref18_Part x.1 x.2 h⟩, ⟨24, [⟨false, [.int .i64]⟩, ⟨false, [.int .i64]⟩], [⟨false, [.int .i64]⟩], fun (x : Int × Int) h => hand_Pick x.1 x.2 h⟩, ⟨35, [⟨true, [.int .i64, .int .i64, .int .i64, .int .i64, .int .i64]⟩, ⟨false, [.sl]⟩], [⟨false, [.sl]⟩], fun (x : ((Int × Int × Int × Int × Int)) × Sl) h => head_Lay x.1 x.2 h⟩, ⟨42, [⟨true, [.int .i64, .int .i64, .int .i64, .int .i64, .int .i64]⟩, ⟨false, [.sl]⟩], [⟨false, [.sl]⟩], fun (x : ((Int × Int × Int × Int × Int)) × Sl) h => ref18_Lay x.1 x.2 h⟩, ⟨39, [⟨true, [.int .i64, .int .i64, .int .i64, .int .i64, .int .i64]⟩], [⟨false, [.bool]⟩], fun (x : (Int × Int × Int × Int × Int)) h => head_Right x h⟩, ⟨43, [⟨true, [.int .i64, .int .i64, .int .i64, .int .i64, .int .i64]⟩], [⟨false, [.bool]⟩], fun (x : (Int × Int × Int × Int × Int)) h => ref18_Right x h⟩, ⟨32, [⟨true, [.int .i64, .int .i64, .int .i64, .int .i64, .int .i64]⟩, ⟨false, [.sl]⟩], [⟨false, [.sl]⟩], fun (x : ((Int × Int × Int × Int × Int)) × Sl) h => head_Part x.1 x.2 h⟩, ⟨37, [⟨true, [.int .i64, .int .i64, .int .i64, .int .i64, .int .i64]⟩], [⟨false, [.sl]⟩], fun (x : (Int × Int × Int × Int × Int)) h => head_Short x h⟩, ⟨44, [⟨true, [.int .i64, .int .i64, .int .i64, .int .i64, .int .i64]⟩], [⟨false, [.sl]⟩], fun (x : (Int × Int × Int × Int × Int)) h => ref18_Short x h⟩, ⟨45, [⟨false, [.int .i64]⟩], [⟨false, [.int .i64]⟩], fun (x : Int) h => hand_Num x h⟩, ⟨31, [⟨false, [.int .i64]⟩, ⟨false, [.int .i64]⟩, ⟨false, [.int .i64]⟩], [⟨true, [.int .i64, .int .i64, .int .i64, .int .i64, .int .i64]⟩], fun (x : Int × Int × Int) h => head_Of x.1 x.2.1 x.2.2 h⟩, ⟨46, [⟨false, [.int .i64]⟩, ⟨false, [.int .i64]⟩, ⟨false, [.int .i64]⟩], [⟨true, [.int .i64, .int .i64, .int .i64, .int .i64, .int .i64]⟩], fun (x : Int × Int × Int) h => ref18_Of x.1 x.2.1 x.2.2 h⟩, ⟨48, [⟨false, [.int .i64]⟩], [⟨false, [.int .i64]⟩], fun (x : Int) h => hand_May x h⟩, ⟨47, [⟨false, [.sl]⟩, ⟨false, [.sl]⟩], [⟨false, [.sl]⟩], fun (x : Sl × Sl) h => ref1_Put x.1 x.2 h⟩, ⟨49, [⟨false, [.sl]⟩, ⟨false, [.int .i64]⟩], [⟨false, [.sl]⟩], fun (x : Sl × Int) h => hand_Few x.1 x.2 h⟩, ⟨36, [⟨false, [.sl]⟩], [⟨true, [.int .i64, .int .i64, .int .i64, .int .i64, .int .i64]⟩, ⟨false, [.sl]⟩, ⟨false, [.int .i64]⟩], fun (x : Sl) h => head_Read x h⟩, ⟨50, [⟨false, [.sl]⟩], [⟨true, [.int .i64, .int .i64, .int .i64, .int .i64, .int .i64]⟩, ⟨false, [.sl]⟩, ⟨false, [.int .i64]⟩], fun (x : Sl) h => ref18_Read x h⟩, ⟨38, [⟨false, [.sl]⟩], [⟨true, [.int .i64, .int .i64, .int .i64, .int .i64, .int .i64]⟩, ⟨false, [.int .i64]⟩, ⟨false, [.int .i64]⟩], fun (x : Sl) h => head_ReadShort x h⟩, ⟨51, [⟨false, [.sl]⟩], [⟨true, [.int .i64, .int .i64, .int .i64, .int .i64, .int .i64]⟩, ⟨false, [.int .i64]⟩, ⟨false, [.int .i64]⟩], fun (x : Sl) h => ref18_ReadShort x h⟩, ⟨34, [], [⟨false, [.bool]⟩], fun (x : Unit) h => law18_known h⟩]) ann_7 Try.f7 (Try.f7.body.getD .skip) E_7.ys (encP E_7.ps x) h) = (fun (x : Int × Int × Int × Int × Int × Sl × Sl × Int × Int × Int × Sl) h => P.law18_HeadTells hand_Head hand_Text ref18_Part hand_Pick head_Lay ref18_Lay head_Right ref18_Right head_Part head_Short ref18_Short hand_Num head_Of ref18_Of hand_May ref1_Put hand_Few head_Read ref18_Read head_ReadShort ref18_ReadShort law18_known x.1 x.2.1 x.2.2.1 x.2.2.2.1 x.2.2.2.2.1 x.2.2.2.2.2.1 x.2.2.2.2.2.2.1 x.2.2.2.2.2.2.2.1 x.2.2.2.2.2.2.2.2.1 x.2.2.2.2.2.2.2.2.2.1 x.2.2.2.2.2.2.2.2.2.2 h) := by kernel_rfl
theorem ok_7 : E_7.ok Go.Proofs.Ythiccnmplgdheaa.Tab.D := fun x h y h' e => runFK_ok (lstK_ok [E_40, E_33, E_41, E_24, E_35, E_42, E_39, E_43, E_32, E_37, E_44, E_45, E_31, E_46, E_48, E_47, E_49, E_36, E_50, E_38, E_51, E_34] (List.forall_mem_cons.2 ⟨ok_40, List.forall_mem_cons.2 ⟨ok_33, List.forall_mem_cons.2 ⟨ok_41, List.forall_mem_cons.2 ⟨ok_24, List.forall_mem_cons.2 ⟨ok_35, List.forall_mem_cons.2 ⟨ok_42, List.forall_mem_cons.2 ⟨ok_39, List.forall_mem_cons.2 ⟨ok_43, List.forall_mem_cons.2 ⟨ok_32, List.forall_mem_cons.2 ⟨ok_37, List.forall_mem_cons.2 ⟨ok_44, List.forall_mem_cons.2 ⟨ok_45, List.forall_mem_cons.2 ⟨ok_31, List.forall_mem_cons.2 ⟨ok_46, List.forall_mem_cons.2 ⟨ok_48, List.forall_mem_cons.2 ⟨ok_47, List.forall_mem_cons.2 ⟨ok_49, List.forall_mem_cons.2 ⟨ok_36, List.forall_mem_cons.2 ⟨ok_50, List.forall_mem_cons.2 ⟨ok_38, List.forall_mem_cons.2 ⟨ok_51, List.forall_mem_cons.2 ⟨ok_34, fun E h => nomatch h⟩⟩⟩⟩⟩⟩⟩⟩⟩⟩⟩⟩⟩⟩⟩⟩⟩⟩⟩⟩⟩⟩)) (A := ann_7) (by kernel_rfl) (show Go.Proofs.Ythiccnmplgdheaa.Tab.D.fn.get 7 = some Try.f7 by kernel_rfl) (show Try.f7.body = some (Try.f7.body.getD .skip) by kernel_rfl) ((congrFun (congrFun (eq_7 hand_Head hand_Text ref18_Part hand_Pick head_Lay ref18_Lay head_Right ref18_Right head_Part head_Short ref18_Short hand_Num head_Of ref18_Of hand_May ref1_Put hand_Few head_Read ref18_Read head_ReadShort ref18_ReadShort law18_known) x) h).trans e)
end Go.Proofs.Ythiccnmplgdheaa.T
