/- The typed texts of the program's functions, printed by a program of this session (wip/KPrint.lean) out of the machine's own definitions; each is the machine's own run, by the kernel's reduction. -/
import Derived.Test.YthiccnmplgdheaaAbsF
import Derived.Test.YthiccnmplgdheaaTab
import Derived.KernelRfl
set_option linter.unusedVariables false
set_option maxRecDepth 1000000
namespace Go.Proofs.Ythiccnmplgdheaa.T
open Go Go.Abs Go.Proofs
/-! hand_Pick -/
noncomputable def hand_Pick (n : Int) (m : Int) (h : H) : Option (Int × H) :=
  bindO (remT .i64 n m) fun (x0 : Int) =>
  joinO (
    condK (decide ((x0 < 0))) (
      some (Sum.inl ((IntKind.wrap .i64 (x0 + m)), h))) (
      some (Sum.inl (x0, h)))) fun ((n1, h0) : (Int × H)) =>
  some (n1, h0)
noncomputable def ann_24 : Ann := ⟨fun i => bif i.beq 4 then some ⟨[0], [⟨false, [.int .i64]⟩]⟩ else none, fun _ => none, fun _ => none⟩
noncomputable def E_24 : Ent := ⟨24, [⟨false, [.int .i64]⟩, ⟨false, [.int .i64]⟩], [⟨false, [.int .i64]⟩], fun (x : Int × Int) h => hand_Pick x.1 x.2 h⟩
theorem eq_24  : (fun (x : PT E_24.ps) (h : H) => runFK Go.Proofs.Ythiccnmplgdheaa.Tab.D (lstK []) ann_24 Try.f24 (Try.f24.body.getD .skip) E_24.ys (encP E_24.ps x) h) = (fun (x : Int × Int) h => hand_Pick x.1 x.2 h) := by kernel_rfl
theorem ok_24 : E_24.ok Go.Proofs.Ythiccnmplgdheaa.Tab.D := fun x h y h' e => runFK_ok (lstK_ok [] (fun E h => nomatch h)) (A := ann_24) (by kernel_rfl) (show Go.Proofs.Ythiccnmplgdheaa.Tab.D.fn.get 24 = some Try.f24 by kernel_rfl) (show Try.f24.body = some (Try.f24.body.getD .skip) by kernel_rfl) ((congrFun (congrFun (eq_24 ) x) h).trans e)
/-! head_pieces -/
noncomputable def head_pieces (size : Int) (h : H) : Option (Int × H) :=
  letO ((IntKind.wrap .i64 (Int.tdiv (IntKind.wrap .i64 ((IntKind.wrap .i64 (size + 80)) - 1)) 80))) fun (x0 : Int) =>
  some (x0, h)
noncomputable def ann_95 : Ann := ⟨fun _ => none, fun _ => none, fun _ => none⟩
noncomputable def E_95 : Ent := ⟨95, [⟨false, [.int .i64]⟩], [⟨false, [.int .i64]⟩], fun (x : Int) h => head_pieces x h⟩
theorem eq_95  : (fun (x : PT E_95.ps) (h : H) => runFK Go.Proofs.Ythiccnmplgdheaa.Tab.D (lstK []) ann_95 Try.f95 (Try.f95.body.getD .skip) E_95.ys (encP E_95.ps x) h) = (fun (x : Int) h => head_pieces x h) := by kernel_rfl
theorem ok_95 : E_95.ok Go.Proofs.Ythiccnmplgdheaa.Tab.D := fun x h y h' e => runFK_ok (lstK_ok [] (fun E h => nomatch h)) (A := ann_95) (by kernel_rfl) (show Go.Proofs.Ythiccnmplgdheaa.Tab.D.fn.get 95 = some Try.f95 by kernel_rfl) (show Try.f95.body = some (Try.f95.body.getD .skip) by kernel_rfl) ((congrFun (congrFun (eq_95 ) x) h).trans e)
/-! head_Right -/
noncomputable def P.head_Right (head_pieces : Int → H → Option ((Int) × H)) (h0 : Int × Int × Int × Int × Int) (h : H) : Option (Bool × H) :=
  newO (row 46 [(.int .i64 h0.1), (.int .i64 h0.2.1), (.int .i64 h0.2.2.1), (.int .i64 h0.2.2.2.1), (.int .i64 h0.2.2.2.2)]) h fun (b : Nat) (h1 : H) =>
  joinO (
    bindO (ldI .i64 h1 (add (⟨b, 0, (some 0)⟩ : Addr) 0)) fun (x0 : Int) =>
    condK (decide ((x0 < 0))) (
      some (Sum.inl (((some (⟨b, 0, (some 0)⟩ : Addr)), true), h1))) (
      bindO (ldI .i64 h1 (add (⟨b, 0, (some 0)⟩ : Addr) 0)) fun (x1 : Int) =>
      condK (decide ((x1 ≥ 40))) (
        some (Sum.inl (((some (⟨b, 0, (some 0)⟩ : Addr)), true), h1))) (
        bindO (ldI .i64 h1 (add (⟨b, 0, (some 0)⟩ : Addr) 1)) fun (x2 : Int) =>
        condK (decide ((x2 < 0))) (
          some (Sum.inl (((some (⟨b, 0, (some 0)⟩ : Addr)), true), h1))) (
          bindO (ldI .i64 h1 (add (⟨b, 0, (some 0)⟩ : Addr) 1)) fun (x3 : Int) =>
          some (Sum.inl (((some (⟨b, 0, (some 0)⟩ : Addr)), (decide ((x3 > 4611686018427387903)))), h1)))))) fun (((h2, x0), h3) : (((Option Addr) × Bool) × H)) =>
  condK x0 (
    some (false, h3)) (
    joinO (
      ptrK h2 fun (a0 : Addr) =>
      bindO (ldI .i64 h3 (add a0 4)) fun (x1 : Int) =>
      condK (decide ((x1 < 1))) (
        some (Sum.inl ((h2, true), h3))) (
        ptrK h2 fun (a1 : Addr) =>
        bindO (ldI .i64 h3 (add a1 4)) fun (x2 : Int) =>
        condK (decide ((x2 > 600))) (
          some (Sum.inl ((h2, true), h3))) (
          ptrK h2 fun (a2 : Addr) =>
          bindO (ldI .i64 h3 (add a2 2)) fun (x3 : Int) =>
          ptrK h2 fun (a3 : Addr) =>
          bindO (ldI .i64 h3 (add a3 4)) fun (x4 : Int) =>
          bind2 (head_pieces x4 h3) fun (x5 : Int) (h4 : H) =>
          bindO (ldI .i64 h4 (add a2 2)) fun (x6 : Int) =>
          condK (x6 == x3) (
            some (Sum.inl ((h2, (x3 != x5)), h4))) none))) fun (((h4, x1), h5) : (((Option Addr) × Bool) × H)) =>
    condK x1 (
      some (false, h5)) (
      ptrK h4 fun (a0 : Addr) =>
      bindO (ldI .i64 h5 (add a0 3)) fun (x2 : Int) =>
      condK (decide ((x2 ≥ 0))) (
        ptrK h4 fun (a1 : Addr) =>
        bindO (ldI .i64 h5 (add a1 3)) fun (x3 : Int) =>
        ptrK h4 fun (a2 : Addr) =>
        bindO (ldI .i64 h5 (add a2 2)) fun (x4 : Int) =>
        some ((decide ((x3 < x4))), h5)) (
        some (false, h5))))
noncomputable def head_Right : (Int × Int × Int × Int × Int) → H → Option ((Bool) × H) := P.head_Right head_pieces
noncomputable def ann_39 : Ann := ⟨fun _ => none, fun _ => none, fun i => bif i.beq 1 then some ⟨[1, 3], [⟨false, [.ptr]⟩, ⟨false, [.bool]⟩]⟩ else bif i.beq 3 then some ⟨[1, 22], [⟨false, [.ptr]⟩, ⟨false, [.bool]⟩]⟩ else none⟩
noncomputable def E_39 : Ent := ⟨39, [⟨true, [.int .i64, .int .i64, .int .i64, .int .i64, .int .i64]⟩], [⟨false, [.bool]⟩], fun (x : (Int × Int × Int × Int × Int)) h => head_Right x h⟩
theorem eq_39 (head_pieces : Int → H → Option ((Int) × H)) : (fun (x : PT E_39.ps) (h : H) => runFK Go.Proofs.Ythiccnmplgdheaa.Tab.D (lstK [⟨95, [⟨false, [.int .i64]⟩], [⟨false, [.int .i64]⟩], fun (x : Int) h => head_pieces x h⟩]) ann_39 Try.f39 (Try.f39.body.getD .skip) E_39.ys (encP E_39.ps x) h) = (fun (x : (Int × Int × Int × Int × Int)) h => P.head_Right head_pieces x h) := by kernel_rfl
theorem ok_39 : E_39.ok Go.Proofs.Ythiccnmplgdheaa.Tab.D := fun x h y h' e => runFK_ok (lstK_ok [E_95] (List.forall_mem_cons.2 ⟨ok_95, fun E h => nomatch h⟩)) (A := ann_39) (by kernel_rfl) (show Go.Proofs.Ythiccnmplgdheaa.Tab.D.fn.get 39 = some Try.f39 by kernel_rfl) (show Try.f39.body = some (Try.f39.body.getD .skip) by kernel_rfl) ((congrFun (congrFun (eq_39 head_pieces) x) h).trans e)
/-! head_Of -/
noncomputable def P.head_Of (head_pieces : Int → H → Option ((Int) × H)) (head_Right : (Int × Int × Int × Int × Int) → H → Option ((Bool) × H)) (id : Int) (deadline : Int) (size : Int) (h : H) : Option ((Int × Int × Int × Int × Int) × H) :=
  newO (row 46 [(.int .i64 0), (.int .i64 0), (.int .i64 0), (.int .i64 0), (.int .i64 0)]) h fun (b : Nat) (h0 : H) =>
  newO (row 46 [(.int .i64 0), (.int .i64 0), (.int .i64 0), (.int .i64 0), (.int .i64 0)]) h0 fun (b1 : Nat) (h1 : H) =>
  bindO (stZ [.int .i64, .int .i64, .int .i64, .int .i64, .int .i64] h1 (⟨b1, 0, (some 0)⟩ : Addr) ((id, deadline, 0, 0, size) : Int × Int × Int × Int × Int)) fun (h2 : H) =>
  joinO (
    joinO (
      condK (decide ((size ≥ 1))) (
        some (Sum.inl ((size, ((some (⟨b, 0, (some 0)⟩ : Addr)), ((some (⟨b1, 0, (some 0)⟩ : Addr)), (decide ((size ≤ 600)))))), h2))) (
        some (Sum.inl ((size, ((some (⟨b, 0, (some 0)⟩ : Addr)), ((some (⟨b1, 0, (some 0)⟩ : Addr)), false))), h2)))) fun (((size1, (x0, (h3, x1))), h4) : ((Int × ((Option Addr) × ((Option Addr) × Bool))) × H)) =>
    condK x1 (
      bind2 (head_pieces size1 h4) fun (x2 : Int) (h5 : H) =>
      ptrK h3 fun (a0 : Addr) =>
      bindO (st1 h5 (add a0 2) (.int .i64 x2)) fun (h6 : H) =>
      some (Sum.inl ((x0, h3), h6))) (
      some (Sum.inl ((x0, h3), h4)))) fun (((x0, h3), h4) : (((Option Addr) × (Option Addr)) × H)) =>
  ptrK h3 fun (a0 : Addr) =>
  bindO (ldZ [.int .i64, .int .i64, .int .i64, .int .i64, .int .i64] h4 a0) fun ((x1, x2, x3, x4, x5) : Int × Int × Int × Int × Int) =>
  bind2 (head_Right (x1, x2, x3, x4, x5) h4) fun (x6 : Bool) (h5 : H) =>
  condK (!x6) (
    ptrK x0 fun (a1 : Addr) =>
    bindO (stZ [.int .i64, .int .i64, .int .i64, .int .i64, .int .i64] h5 a1 ((0, 0, 0, 0, 0) : Int × Int × Int × Int × Int)) fun (h6 : H) =>
    ptrK x0 fun (a2 : Addr) =>
    bindO (ldZ [.int .i64, .int .i64, .int .i64, .int .i64, .int .i64] h6 a2) fun ((x7, x8, x9, x10, x11) : Int × Int × Int × Int × Int) =>
    some ((x7, (x8, (x9, (x10, x11)))), h6)) (
    ptrK h3 fun (a3 : Addr) =>
    bindO (ldZ [.int .i64, .int .i64, .int .i64, .int .i64, .int .i64] h5 a3) fun ((x12, x13, x14, x15, x16) : Int × Int × Int × Int × Int) =>
    ptrK x0 fun (a4 : Addr) =>
    bindO (stZ [.int .i64, .int .i64, .int .i64, .int .i64, .int .i64] h5 a4 ((x12, x13, x14, x15, x16) : Int × Int × Int × Int × Int)) fun (h7 : H) =>
    ptrK x0 fun (a5 : Addr) =>
    bindO (ldZ [.int .i64, .int .i64, .int .i64, .int .i64, .int .i64] h7 a5) fun ((x17, x18, x19, x20, x21) : Int × Int × Int × Int × Int) =>
    some ((x17, (x18, (x19, (x20, x21)))), h7))
noncomputable def head_Of : Int → Int → Int → H → Option (((Int × Int × Int × Int × Int)) × H) := P.head_Of head_pieces head_Right
noncomputable def ann_31 : Ann := ⟨fun i => bif i.beq 4 then some ⟨[6, 7], [⟨false, [.ptr]⟩, ⟨false, [.ptr]⟩]⟩ else none, fun _ => none, fun i => bif i.beq 2 then some ⟨[2, 6, 7, 17], [⟨false, [.int .i64]⟩, ⟨false, [.ptr]⟩, ⟨false, [.ptr]⟩, ⟨false, [.bool]⟩]⟩ else none⟩
noncomputable def E_31 : Ent := ⟨31, [⟨false, [.int .i64]⟩, ⟨false, [.int .i64]⟩, ⟨false, [.int .i64]⟩], [⟨true, [.int .i64, .int .i64, .int .i64, .int .i64, .int .i64]⟩], fun (x : Int × Int × Int) h => head_Of x.1 x.2.1 x.2.2 h⟩
theorem eq_31 (head_pieces : Int → H → Option ((Int) × H)) (head_Right : (Int × Int × Int × Int × Int) → H → Option ((Bool) × H)) : (fun (x : PT E_31.ps) (h : H) => runFK Go.Proofs.Ythiccnmplgdheaa.Tab.D (lstK [⟨95, [⟨false, [.int .i64]⟩], [⟨false, [.int .i64]⟩], fun (x : Int) h => head_pieces x h⟩, ⟨39, [⟨true, [.int .i64, .int .i64, .int .i64, .int .i64, .int .i64]⟩], [⟨false, [.bool]⟩], fun (x : (Int × Int × Int × Int × Int)) h => head_Right x h⟩]) ann_31 Try.f31 (Try.f31.body.getD .skip) E_31.ys (encP E_31.ps x) h) = (fun (x : Int × Int × Int) h => P.head_Of head_pieces head_Right x.1 x.2.1 x.2.2 h) := by kernel_rfl
theorem ok_31 : E_31.ok Go.Proofs.Ythiccnmplgdheaa.Tab.D := fun x h y h' e => runFK_ok (lstK_ok [E_95, E_39] (List.forall_mem_cons.2 ⟨ok_95, List.forall_mem_cons.2 ⟨ok_39, fun E h => nomatch h⟩⟩)) (A := ann_31) (by kernel_rfl) (show Go.Proofs.Ythiccnmplgdheaa.Tab.D.fn.get 31 = some Try.f31 by kernel_rfl) (show Try.f31.body = some (Try.f31.body.getD .skip) by kernel_rfl) ((congrFun (congrFun (eq_31 head_pieces head_Right) x) h).trans e)
/-! hand_Text -/
noncomputable def hand_Text_l1 : ((Sl × (Int × (Sl × Int))) × H) → Option (((Sl × (Int × (Sl × Int))) × H) ⊕ ((Sl × H) ⊕ (Sl × H))) := fun ((b, (n, (out, i))), h0) =>
  condK (decide ((i < n))) (
    joinO (
      condK (decide ((((b.len : Nat) : Int) > 0))) (
        bindO (remT .i64 i ((b.len : Nat) : Int)) fun (x0 : Int) =>
        bindO (ixT 1 b x0) fun (a0 : Addr) =>
        bindO (ldI .u8 h0 a0) fun (x1 : Int) =>
        letO ((IntKind.wrap .u8 ((IntKind.wrap .u8 (IntKind.wrap .i64 (i * 7))) + x1))) fun (x2 : Int) =>
        some (Sum.inl ((b, (n, (out, (i, x2)))), h0))) (
        some (Sum.inl ((b, (n, (out, (i, (IntKind.wrap .u8 (IntKind.wrap .i64 (i * 7))))))), h0)))) fun (((b1, (n1, (out1, (i1, c)))), h1) : ((Sl × (Int × (Sl × (Int × Int)))) × H)) =>
    newO (row 5 [(.int .u8 c)]) h1 fun (b2 : Nat) (h2 : H) =>
    bind2 (appT 5 1 1 h2 out1 (⟨(some (⟨b2, 0, (some 0)⟩ : Addr)), 1, 1⟩ : Sl)) fun (x0 : Sl) (h3 : H) =>
    some (Sum.inl ((b1, (n1, (x0, (IntKind.wrap .i64 (i1 + 1))))), h3))) (
    some (Sum.inr (Sum.inl (out, h0))))

noncomputable def hand_Text (b : Sl) (n : Int) (h : H) : Option (Sl × H) :=
  joinO (
    loopO hand_Text_l1 ((b, (n, ((⟨none, 0, 0⟩ : Sl), 0))), h)) fun ((out, h0) : (Sl × H)) =>
  some (out, h0)
noncomputable def ann_33 : Ann := ⟨fun i => bif i.beq 8 then some ⟨[0, 1, 5, 6, 7], [⟨false, [.sl]⟩, ⟨false, [.int .i64]⟩, ⟨false, [.sl]⟩, ⟨false, [.int .i64]⟩, ⟨false, [.int .u8]⟩]⟩ else bif i.beq 9 then some ⟨[5], [⟨false, [.sl]⟩]⟩ else none, fun i => bif i.beq 3 then some ⟨[0, 1, 5, 6], [⟨false, [.sl]⟩, ⟨false, [.int .i64]⟩, ⟨false, [.sl]⟩, ⟨false, [.int .i64]⟩]⟩ else none, fun _ => none⟩
noncomputable def E_33 : Ent := ⟨33, [⟨false, [.sl]⟩, ⟨false, [.int .i64]⟩], [⟨false, [.sl]⟩], fun (x : Sl × Int) h => hand_Text x.1 x.2 h⟩
theorem eq_33  : (fun (x : PT E_33.ps) (h : H) => runFK Go.Proofs.Ythiccnmplgdheaa.Tab.D (lstK []) ann_33 Try.f33 (Try.f33.body.getD .skip) E_33.ys (encP E_33.ps x) h) = (fun (x : Sl × Int) h => hand_Text x.1 x.2 h) := by kernel_rfl
theorem ok_33 : E_33.ok Go.Proofs.Ythiccnmplgdheaa.Tab.D := fun x h y h' e => runFK_ok (lstK_ok [] (fun E h => nomatch h)) (A := ann_33) (by kernel_rfl) (show Go.Proofs.Ythiccnmplgdheaa.Tab.D.fn.get 33 = some Try.f33 by kernel_rfl) (show Try.f33.body = some (Try.f33.body.getD .skip) by kernel_rfl) ((congrFun (congrFun (eq_33 ) x) h).trans e)
/-! head_bounds -/
noncomputable def head_bounds (h0 : Int × Int × Int × Int × Int) (h : H) : Option ((Int × Int) × H) :=
  newO (row 46 [(.int .i64 h0.1), (.int .i64 h0.2.1), (.int .i64 h0.2.2.1), (.int .i64 h0.2.2.2.1), (.int .i64 h0.2.2.2.2)]) h fun (b : Nat) (h1 : H) =>
  bindO (ldI .i64 h1 (add (⟨b, 0, (some 0)⟩ : Addr) 3)) fun (x0 : Int) =>
  bindO (ldI .i64 h1 (add (⟨b, 0, (some 0)⟩ : Addr) 4)) fun (x1 : Int) =>
  letO ((if (x1 < (IntKind.wrap .i64 ((IntKind.wrap .i64 (x0 * 80)) + 80))) then x1 else (IntKind.wrap .i64 ((IntKind.wrap .i64 (x0 * 80)) + 80)))) fun (x2 : Int) =>
  some (((IntKind.wrap .i64 (x0 * 80)), x2), h1)
noncomputable def ann_96 : Ann := ⟨fun _ => none, fun _ => none, fun _ => none⟩
noncomputable def E_96 : Ent := ⟨96, [⟨true, [.int .i64, .int .i64, .int .i64, .int .i64, .int .i64]⟩], [⟨false, [.int .i64]⟩, ⟨false, [.int .i64]⟩], fun (x : (Int × Int × Int × Int × Int)) h => head_bounds x h⟩
theorem eq_96  : (fun (x : PT E_96.ps) (h : H) => runFK Go.Proofs.Ythiccnmplgdheaa.Tab.D (lstK []) ann_96 Try.f96 (Try.f96.body.getD .skip) E_96.ys (encP E_96.ps x) h) = (fun (x : (Int × Int × Int × Int × Int)) h => head_bounds x h) := by kernel_rfl
theorem ok_96 : E_96.ok Go.Proofs.Ythiccnmplgdheaa.Tab.D := fun x h y h' e => runFK_ok (lstK_ok [] (fun E h => nomatch h)) (A := ann_96) (by kernel_rfl) (show Go.Proofs.Ythiccnmplgdheaa.Tab.D.fn.get 96 = some Try.f96 by kernel_rfl) (show Try.f96.body = some (Try.f96.body.getD .skip) by kernel_rfl) ((congrFun (congrFun (eq_96 ) x) h).trans e)
/-! slices_Clone_byte -/
noncomputable def slices_Clone_byte (s : Sl) (h : H) : Option (Sl × H) :=
  bindO (eqLT s (⟨none, 0, 0⟩ : Sl)) fun (x0 : Bool) =>
  condK x0 (
    some ((⟨none, 0, 0⟩ : Sl), h)) (
    newO (row 5 []) h fun (b : Nat) (h0 : H) =>
    bind2 (appT 5 1 1 h0 (⟨(some (⟨b, 0, (some 0)⟩ : Addr)), 0, 0⟩ : Sl) s) fun (x1 : Sl) (h1 : H) =>
    some (x1, h1))
noncomputable def ann_98 : Ann := ⟨fun _ => none, fun _ => none, fun _ => none⟩
noncomputable def E_98 : Ent := ⟨98, [⟨false, [.sl]⟩], [⟨false, [.sl]⟩], fun (x : Sl) h => slices_Clone_byte x h⟩
theorem eq_98  : (fun (x : PT E_98.ps) (h : H) => runFK Go.Proofs.Ythiccnmplgdheaa.Tab.D (lstK []) ann_98 Try.f98 (Try.f98.body.getD .skip) E_98.ys (encP E_98.ps x) h) = (fun (x : Sl) h => slices_Clone_byte x h) := by kernel_rfl
theorem ok_98 : E_98.ok Go.Proofs.Ythiccnmplgdheaa.Tab.D := fun x h y h' e => runFK_ok (lstK_ok [] (fun E h => nomatch h)) (A := ann_98) (by kernel_rfl) (show Go.Proofs.Ythiccnmplgdheaa.Tab.D.fn.get 98 = some Try.f98 by kernel_rfl) (show Try.f98.body = some (Try.f98.body.getD .skip) by kernel_rfl) ((congrFun (congrFun (eq_98 ) x) h).trans e)
/-! slices_Clip_byte -/
noncomputable def slices_Clip_byte (s : Sl) (h : H) : Option (Sl × H) :=
  bindO (slT 1 h s none (some ((s.len : Nat) : Int)) (some ((s.len : Nat) : Int))) fun (x0 : Sl) =>
  some (x0, h)
noncomputable def ann_97 : Ann := ⟨fun _ => none, fun _ => none, fun _ => none⟩
noncomputable def E_97 : Ent := ⟨97, [⟨false, [.sl]⟩], [⟨false, [.sl]⟩], fun (x : Sl) h => slices_Clip_byte x h⟩
theorem eq_97  : (fun (x : PT E_97.ps) (h : H) => runFK Go.Proofs.Ythiccnmplgdheaa.Tab.D (lstK []) ann_97 Try.f97 (Try.f97.body.getD .skip) E_97.ys (encP E_97.ps x) h) = (fun (x : Sl) h => slices_Clip_byte x h) := by kernel_rfl
theorem ok_97 : E_97.ok Go.Proofs.Ythiccnmplgdheaa.Tab.D := fun x h y h' e => runFK_ok (lstK_ok [] (fun E h => nomatch h)) (A := ann_97) (by kernel_rfl) (show Go.Proofs.Ythiccnmplgdheaa.Tab.D.fn.get 97 = some Try.f97 by kernel_rfl) (show Try.f97.body = some (Try.f97.body.getD .skip) by kernel_rfl) ((congrFun (congrFun (eq_97 ) x) h).trans e)
/-! head_Part -/
noncomputable def P.head_Part (head_Right : (Int × Int × Int × Int × Int) → H → Option ((Bool) × H)) (head_bounds : (Int × Int × Int × Int × Int) → H → Option ((Int × Int) × H)) (slices_Clone_byte : Sl → H → Option ((Sl) × H)) (slices_Clip_byte : Sl → H → Option ((Sl) × H)) (h0 : Int × Int × Int × Int × Int) (b : Sl) (h : H) : Option (Sl × H) :=
  newO (row 46 [(.int .i64 h0.1), (.int .i64 h0.2.1), (.int .i64 h0.2.2.1), (.int .i64 h0.2.2.2.1), (.int .i64 h0.2.2.2.2)]) h fun (b1 : Nat) (h1 : H) =>
  joinO (
    bindO (ldZ [.int .i64, .int .i64, .int .i64, .int .i64, .int .i64] h1 (⟨b1, 0, (some 0)⟩ : Addr)) fun ((x0, x1, x2, x3, x4) : Int × Int × Int × Int × Int) =>
    bind2 (head_Right (x0, x1, x2, x3, x4) h1) fun (x5 : Bool) (h2 : H) =>
    condK (!x5) (
      some (Sum.inl ((b, ((some (⟨b1, 0, (some 0)⟩ : Addr)), true)), h2))) (
      bindO (ldI .i64 h2 (add (⟨b1, 0, (some 0)⟩ : Addr) 4)) fun (x6 : Int) =>
      some (Sum.inl ((b, ((some (⟨b1, 0, (some 0)⟩ : Addr)), (((b.len : Nat) : Int) != x6))), h2)))) fun (((b2, (h2, x0)), h3) : ((Sl × ((Option Addr) × Bool)) × H)) =>
  condK x0 (
    some ((⟨none, 0, 0⟩ : Sl), h3)) (
    ptrK h2 fun (a0 : Addr) =>
    bindO (ldZ [.int .i64, .int .i64, .int .i64, .int .i64, .int .i64] h3 a0) fun ((x1, x2, x3, x4, x5) : Int × Int × Int × Int × Int) =>
    bind2 (head_bounds (x1, x2, x3, x4, x5) h3) fun ((x6, x7) : Int × Int) (h4 : H) =>
    bindO (slT 1 h4 b2 (some x6) (some x7) none) fun (x8 : Sl) =>
    bind2 (slices_Clone_byte x8 h4) fun (x9 : Sl) (h5 : H) =>
    bind2 (slices_Clip_byte x9 h5) fun (x10 : Sl) (h6 : H) =>
    some (x10, h6))
noncomputable def head_Part : (Int × Int × Int × Int × Int) → Sl → H → Option ((Sl) × H) := P.head_Part head_Right head_bounds slices_Clone_byte slices_Clip_byte
noncomputable def ann_32 : Ann := ⟨fun _ => none, fun _ => none, fun i => bif i.beq 1 then some ⟨[1, 2, 16], [⟨false, [.sl]⟩, ⟨false, [.ptr]⟩, ⟨false, [.bool]⟩]⟩ else none⟩
noncomputable def E_32 : Ent := ⟨32, [⟨true, [.int .i64, .int .i64, .int .i64, .int .i64, .int .i64]⟩, ⟨false, [.sl]⟩], [⟨false, [.sl]⟩], fun (x : ((Int × Int × Int × Int × Int)) × Sl) h => head_Part x.1 x.2 h⟩
theorem eq_32 (head_Right : (Int × Int × Int × Int × Int) → H → Option ((Bool) × H)) (head_bounds : (Int × Int × Int × Int × Int) → H → Option ((Int × Int) × H)) (slices_Clone_byte : Sl → H → Option ((Sl) × H)) (slices_Clip_byte : Sl → H → Option ((Sl) × H)) : (fun (x : PT E_32.ps) (h : H) => runFK Go.Proofs.Ythiccnmplgdheaa.Tab.D (lstK [⟨39, [⟨true, [.int .i64, .int .i64, .int .i64, .int .i64, .int .i64]⟩], [⟨false, [.bool]⟩], fun (x : (Int × Int × Int × Int × Int)) h => head_Right x h⟩, ⟨96, [⟨true, [.int .i64, .int .i64, .int .i64, .int .i64, .int .i64]⟩], [⟨false, [.int .i64]⟩, ⟨false, [.int .i64]⟩], fun (x : (Int × Int × Int × Int × Int)) h => head_bounds x h⟩, ⟨98, [⟨false, [.sl]⟩], [⟨false, [.sl]⟩], fun (x : Sl) h => slices_Clone_byte x h⟩, ⟨97, [⟨false, [.sl]⟩], [⟨false, [.sl]⟩], fun (x : Sl) h => slices_Clip_byte x h⟩]) ann_32 Try.f32 (Try.f32.body.getD .skip) E_32.ys (encP E_32.ps x) h) = (fun (x : ((Int × Int × Int × Int × Int)) × Sl) h => P.head_Part head_Right head_bounds slices_Clone_byte slices_Clip_byte x.1 x.2 h) := by kernel_rfl
theorem ok_32 : E_32.ok Go.Proofs.Ythiccnmplgdheaa.Tab.D := fun x h y h' e => runFK_ok (lstK_ok [E_39, E_96, E_98, E_97] (List.forall_mem_cons.2 ⟨ok_39, List.forall_mem_cons.2 ⟨ok_96, List.forall_mem_cons.2 ⟨ok_98, List.forall_mem_cons.2 ⟨ok_97, fun E h => nomatch h⟩⟩⟩⟩)) (A := ann_32) (by kernel_rfl) (show Go.Proofs.Ythiccnmplgdheaa.Tab.D.fn.get 32 = some Try.f32 by kernel_rfl) (show Try.f32.body = some (Try.f32.body.getD .skip) by kernel_rfl) ((congrFun (congrFun (eq_32 head_Right head_bounds slices_Clone_byte slices_Clip_byte) x) h).trans e)
/-! slices_Grow_byte -/
noncomputable def slices_Grow_byte (s : Sl) (n : Int) (h : H) : Option (Sl × H) :=
  joinO (
    condK (decide ((n < 0))) (
      none) (
      some (Sum.inl ((s, n), h)))) fun (((s1, n1), h0) : ((Sl × Int) × H)) =>
  joinO (
    bindO (capT s1) fun (x0 : Int) =>
    letO ((IntKind.wrap .i64 (n1 - (IntKind.wrap .i64 (x0 - ((s1.len : Nat) : Int)))))) fun (x1 : Int) =>
    condK (decide ((x1 > 0))) (
      bindO (capT s1) fun (x2 : Int) =>
      bindO (slT 1 h0 s1 none (some x2) none) fun (x3 : Sl) =>
      bind2 (appNT 5 1 1 (.int .u8 0) h0 x3 x1) fun (x4 : Sl) (h1 : H) =>
      bindO (slT 1 h1 x4 none (some ((s1.len : Nat) : Int)) none) fun (x5 : Sl) =>
      some (Sum.inl (x5, h1))) (
      some (Sum.inl (s1, h0)))) fun ((s2, h1) : (Sl × H)) =>
  some (s2, h1)
noncomputable def ann_149 : Ann := ⟨fun i => bif i.beq 3 then some ⟨[0, 1], [⟨false, [.sl]⟩, ⟨false, [.int .i64]⟩]⟩ else bif i.beq 6 then some ⟨[0], [⟨false, [.sl]⟩]⟩ else none, fun _ => none, fun _ => none⟩
noncomputable def E_149 : Ent := ⟨149, [⟨false, [.sl]⟩, ⟨false, [.int .i64]⟩], [⟨false, [.sl]⟩], fun (x : Sl × Int) h => slices_Grow_byte x.1 x.2 h⟩
theorem eq_149  : (fun (x : PT E_149.ps) (h : H) => runFK Go.Proofs.Ythiccnmplgdheaa.Tab.D (lstK []) ann_149 Try.f149 (Try.f149.body.getD .skip) E_149.ys (encP E_149.ps x) h) = (fun (x : Sl × Int) h => slices_Grow_byte x.1 x.2 h) := by kernel_rfl
theorem ok_149 : E_149.ok Go.Proofs.Ythiccnmplgdheaa.Tab.D := fun x h y h' e => runFK_ok (lstK_ok [] (fun E h => nomatch h)) (A := ann_149) (by kernel_rfl) (show Go.Proofs.Ythiccnmplgdheaa.Tab.D.fn.get 149 = some Try.f149 by kernel_rfl) (show Try.f149.body = some (Try.f149.body.getD .skip) by kernel_rfl) ((congrFun (congrFun (eq_149 ) x) h).trans e)
/-! slices_Concat_byte -/
noncomputable def P.slices_Concat_byte_l2 (slices_Grow_byte : Sl → Int → H → Option ((Sl) × H)) : ((Sl × (Sl × (Int × Int))) × H) → Option (((Sl × (Sl × (Int × Int))) × H) ⊕ ((Sl × H) ⊕ (Sl × H))) := fun ((newslice, (x0, (x1, x2))), h0) =>
  condK (decide ((x2 < x1))) (
    bindO (ixT 1 x0 x2) fun (a0 : Addr) =>
    bindO (ldL h0 a0) fun (x3 : Sl) =>
    bind2 (appT 5 1 1 h0 newslice x3) fun (x4 : Sl) (h1 : H) =>
    some (Sum.inl ((x4, (x0, (x1, (IntKind.wrap .i64 (x2 + 1))))), h1))) (
    some (Sum.inr (Sum.inl (newslice, h0))))

noncomputable def P.slices_Concat_byte_l1 (slices_Grow_byte : Sl → Int → H → Option ((Sl) × H)) : ((Sl × (Int × (Sl × (Int × Int)))) × H) → Option (((Sl × (Int × (Sl × (Int × Int)))) × H) ⊕ (((Sl × Int) × H) ⊕ (Sl × H))) := fun ((slices, (size, (x0, (x1, x2)))), h0) =>
  condK (decide ((x2 < x1))) (
    joinO (
      bindO (ixT 1 x0 x2) fun (a0 : Addr) =>
      bindO (ldL h0 a0) fun (x3 : Sl) =>
      condK (decide (((IntKind.wrap .i64 (size + ((x3.len : Nat) : Int))) < 0))) (
        none) (
        some (Sum.inl ((slices, ((IntKind.wrap .i64 (size + ((x3.len : Nat) : Int))), (x0, (x1, x2)))), h0)))) fun (((slices1, (size1, (x3, (x4, x5)))), h1) : ((Sl × (Int × (Sl × (Int × Int)))) × H)) =>
    some (Sum.inl ((slices1, (size1, (x3, (x4, (IntKind.wrap .i64 (x5 + 1)))))), h1))) (
    some (Sum.inr (Sum.inl ((slices, size), h0))))

noncomputable def P.slices_Concat_byte (slices_Grow_byte : Sl → Int → H → Option ((Sl) × H)) (slices : Sl) (h : H) : Option (Sl × H) :=
  joinO (
    loopO (P.slices_Concat_byte_l1 slices_Grow_byte) ((slices, (0, (slices, (((slices.len : Nat) : Int), 0)))), h)) fun (((slices1, size), h0) : ((Sl × Int) × H)) =>
  bind2 (slices_Grow_byte (⟨none, 0, 0⟩ : Sl) size h0) fun (x0 : Sl) (h1 : H) =>
  joinO (
    loopO (P.slices_Concat_byte_l2 slices_Grow_byte) ((x0, (slices1, (((slices1.len : Nat) : Int), 0))), h1)) fun ((newslice, h2) : (Sl × H)) =>
  some (newslice, h2)
noncomputable abbrev slices_Concat_byte_l2 := P.slices_Concat_byte_l2 slices_Grow_byte
noncomputable abbrev slices_Concat_byte_l1 := P.slices_Concat_byte_l1 slices_Grow_byte
noncomputable def slices_Concat_byte : Sl → H → Option ((Sl) × H) := P.slices_Concat_byte slices_Grow_byte
noncomputable def ann_99 : Ann := ⟨fun i => bif i.beq 8 then some ⟨[0, 3, 9, 10, 11], [⟨false, [.sl]⟩, ⟨false, [.int .i64]⟩, ⟨false, [.sl]⟩, ⟨false, [.int .i64]⟩, ⟨false, [.int .i64]⟩]⟩ else bif i.beq 9 then some ⟨[0, 3], [⟨false, [.sl]⟩, ⟨false, [.int .i64]⟩]⟩ else bif i.beq 15 then some ⟨[6], [⟨false, [.sl]⟩]⟩ else none, fun i => bif i.beq 3 then some ⟨[0, 3, 9, 10, 11], [⟨false, [.sl]⟩, ⟨false, [.int .i64]⟩, ⟨false, [.sl]⟩, ⟨false, [.int .i64]⟩, ⟨false, [.int .i64]⟩]⟩ else bif i.beq 11 then some ⟨[6, 25, 26, 27], [⟨false, [.sl]⟩, ⟨false, [.sl]⟩, ⟨false, [.int .i64]⟩, ⟨false, [.int .i64]⟩]⟩ else none, fun _ => none⟩
noncomputable def E_99 : Ent := ⟨99, [⟨false, [.sl]⟩], [⟨false, [.sl]⟩], fun (x : Sl) h => slices_Concat_byte x h⟩
theorem eq_99 (slices_Grow_byte : Sl → Int → H → Option ((Sl) × H)) : (fun (x : PT E_99.ps) (h : H) => runFK Go.Proofs.Ythiccnmplgdheaa.Tab.D (lstK [⟨149, [⟨false, [.sl]⟩, ⟨false, [.int .i64]⟩], [⟨false, [.sl]⟩], fun (x : Sl × Int) h => slices_Grow_byte x.1 x.2 h⟩]) ann_99 Try.f99 (Try.f99.body.getD .skip) E_99.ys (encP E_99.ps x) h) = (fun (x : Sl) h => P.slices_Concat_byte slices_Grow_byte x h) := by kernel_rfl
theorem ok_99 : E_99.ok Go.Proofs.Ythiccnmplgdheaa.Tab.D := fun x h y h' e => runFK_ok (lstK_ok [E_149] (List.forall_mem_cons.2 ⟨ok_149, fun E h => nomatch h⟩)) (A := ann_99) (by kernel_rfl) (show Go.Proofs.Ythiccnmplgdheaa.Tab.D.fn.get 99 = some Try.f99 by kernel_rfl) (show Try.f99.body = some (Try.f99.body.getD .skip) by kernel_rfl) ((congrFun (congrFun (eq_99 slices_Grow_byte) x) h).trans e)
/-! math_bits_Len32 -/
noncomputable def math_bits_Len32 (x0 : Int) (h : H) : Option (Int × H) :=
  joinO (
    condK (decide ((x0 ≥ 65536))) (
      some (Sum.inl (((Int.fdiv x0 65536), 16), h))) (
      some (Sum.inl ((x0, 0), h)))) fun (((x1, n), h0) : ((Int × Int) × H)) =>
  joinO (
    condK (decide ((x1 ≥ 256))) (
      some (Sum.inl (((Int.fdiv x1 256), (IntKind.wrap .i64 (n + 8))), h0))) (
      some (Sum.inl ((x1, n), h0)))) fun (((x2, n1), h1) : ((Int × Int) × H)) =>
  bindO (ixST (⟨#[0, 1, 2, 2, 3, 3, 3, 3, 4, 4, 4, 4, 4, 4, 4, 4, 5, 5, 5, 5, 5, 5, 5, 5, 5, 5, 5, 5, 5, 5, 5, 5, 6, 6, 6, 6, 6, 6, 6, 6, 6, 6, 6, 6, 6, 6, 6, 6, 6, 6, 6, 6, 6, 6, 6, 6, 6, 6, 6, 6, 6, 6, 6, 6, 7, 7, 7, 7, 7, 7, 7, 7, 7, 7, 7, 7, 7, 7, 7, 7, 7, 7, 7, 7, 7, 7, 7, 7, 7, 7, 7, 7, 7, 7, 7, 7, 7, 7, 7, 7, 7, 7, 7, 7, 7, 7, 7, 7, 7, 7, 7, 7, 7, 7, 7, 7, 7, 7, 7, 7, 7, 7, 7, 7, 7, 7, 7, 7, 8, 8, 8, 8, 8, 8, 8, 8, 8, 8, 8, 8, 8, 8, 8, 8, 8, 8, 8, 8, 8, 8, 8, 8, 8, 8, 8, 8, 8, 8, 8, 8, 8, 8, 8, 8, 8, 8, 8, 8, 8, 8, 8, 8, 8, 8, 8, 8, 8, 8, 8, 8, 8, 8, 8, 8, 8, 8, 8, 8, 8, 8, 8, 8, 8, 8, 8, 8, 8, 8, 8, 8, 8, 8, 8, 8, 8, 8, 8, 8, 8, 8, 8, 8, 8, 8, 8, 8, 8, 8, 8, 8, 8, 8, 8, 8, 8, 8, 8, 8, 8, 8, 8, 8, 8, 8, 8, 8, 8, 8, 8, 8, 8, 8, 8, 8, 8, 8, 8, 8, 8, 8, 8, 8, 8, 8, 8, 8]⟩ : ByteArray) (IntKind.wrap .u8 x2)) fun (x3 : Int) =>
  some ((IntKind.wrap .i64 (n1 + (IntKind.wrap .i64 x3))), h1)
noncomputable def ann_187 : Ann := ⟨fun i => bif i.beq 4 then some ⟨[0, 2], [⟨false, [.int .u32]⟩, ⟨false, [.int .i64]⟩]⟩ else bif i.beq 7 then some ⟨[0, 2], [⟨false, [.int .u32]⟩, ⟨false, [.int .i64]⟩]⟩ else none, fun _ => none, fun _ => none⟩
noncomputable def E_187 : Ent := ⟨187, [⟨false, [.int .u32]⟩], [⟨false, [.int .i64]⟩], fun (x : Int) h => math_bits_Len32 x h⟩
theorem eq_187  : (fun (x : PT E_187.ps) (h : H) => runFK Go.Proofs.Ythiccnmplgdheaa.Tab.D (lstK []) ann_187 Try.f187 (Try.f187.body.getD .skip) E_187.ys (encP E_187.ps x) h) = (fun (x : Int) h => math_bits_Len32 x h) := by kernel_rfl
theorem ok_187 : E_187.ok Go.Proofs.Ythiccnmplgdheaa.Tab.D := fun x h y h' e => runFK_ok (lstK_ok [] (fun E h => nomatch h)) (A := ann_187) (by kernel_rfl) (show Go.Proofs.Ythiccnmplgdheaa.Tab.D.fn.get 187 = some Try.f187 by kernel_rfl) (show Try.f187.body = some (Try.f187.body.getD .skip) by kernel_rfl) ((congrFun (congrFun (eq_187 ) x) h).trans e)
/-! math_bits_Len64 -/
noncomputable def math_bits_Len64 (x0 : Int) (h : H) : Option (Int × H) :=
  joinO (
    condK (decide ((x0 ≥ 4294967296))) (
      some (Sum.inl (((Int.fdiv x0 4294967296), 32), h))) (
      some (Sum.inl ((x0, 0), h)))) fun (((x1, n), h0) : ((Int × Int) × H)) =>
  joinO (
    condK (decide ((x1 ≥ 65536))) (
      some (Sum.inl (((Int.fdiv x1 65536), (IntKind.wrap .i64 (n + 16))), h0))) (
      some (Sum.inl ((x1, n), h0)))) fun (((x2, n1), h1) : ((Int × Int) × H)) =>
  joinO (
    condK (decide ((x2 ≥ 256))) (
      some (Sum.inl (((Int.fdiv x2 256), (IntKind.wrap .i64 (n1 + 8))), h1))) (
      some (Sum.inl ((x2, n1), h1)))) fun (((x3, n2), h2) : ((Int × Int) × H)) =>
  bindO (ixST (⟨#[0, 1, 2, 2, 3, 3, 3, 3, 4, 4, 4, 4, 4, 4, 4, 4, 5, 5, 5, 5, 5, 5, 5, 5, 5, 5, 5, 5, 5, 5, 5, 5, 6, 6, 6, 6, 6, 6, 6, 6, 6, 6, 6, 6, 6, 6, 6, 6, 6, 6, 6, 6, 6, 6, 6, 6, 6, 6, 6, 6, 6, 6, 6, 6, 7, 7, 7, 7, 7, 7, 7, 7, 7, 7, 7, 7, 7, 7, 7, 7, 7, 7, 7, 7, 7, 7, 7, 7, 7, 7, 7, 7, 7, 7, 7, 7, 7, 7, 7, 7, 7, 7, 7, 7, 7, 7, 7, 7, 7, 7, 7, 7, 7, 7, 7, 7, 7, 7, 7, 7, 7, 7, 7, 7, 7, 7, 7, 7, 8, 8, 8, 8, 8, 8, 8, 8, 8, 8, 8, 8, 8, 8, 8, 8, 8, 8, 8, 8, 8, 8, 8, 8, 8, 8, 8, 8, 8, 8, 8, 8, 8, 8, 8, 8, 8, 8, 8, 8, 8, 8, 8, 8, 8, 8, 8, 8, 8, 8, 8, 8, 8, 8, 8, 8, 8, 8, 8, 8, 8, 8, 8, 8, 8, 8, 8, 8, 8, 8, 8, 8, 8, 8, 8, 8, 8, 8, 8, 8, 8, 8, 8, 8, 8, 8, 8, 8, 8, 8, 8, 8, 8, 8, 8, 8, 8, 8, 8, 8, 8, 8, 8, 8, 8, 8, 8, 8, 8, 8, 8, 8, 8, 8, 8, 8, 8, 8, 8, 8, 8, 8, 8, 8, 8, 8, 8, 8]⟩ : ByteArray) (IntKind.wrap .u8 x3)) fun (x4 : Int) =>
  some ((IntKind.wrap .i64 (n2 + (IntKind.wrap .i64 x4))), h2)
noncomputable def ann_188 : Ann := ⟨fun i => bif i.beq 4 then some ⟨[0, 2], [⟨false, [.int .u64]⟩, ⟨false, [.int .i64]⟩]⟩ else bif i.beq 7 then some ⟨[0, 2], [⟨false, [.int .u64]⟩, ⟨false, [.int .i64]⟩]⟩ else bif i.beq 10 then some ⟨[0, 2], [⟨false, [.int .u64]⟩, ⟨false, [.int .i64]⟩]⟩ else none, fun _ => none, fun _ => none⟩
noncomputable def E_188 : Ent := ⟨188, [⟨false, [.int .u64]⟩], [⟨false, [.int .i64]⟩], fun (x : Int) h => math_bits_Len64 x h⟩
theorem eq_188  : (fun (x : PT E_188.ps) (h : H) => runFK Go.Proofs.Ythiccnmplgdheaa.Tab.D (lstK []) ann_188 Try.f188 (Try.f188.body.getD .skip) E_188.ys (encP E_188.ps x) h) = (fun (x : Int) h => math_bits_Len64 x h) := by kernel_rfl
theorem ok_188 : E_188.ok Go.Proofs.Ythiccnmplgdheaa.Tab.D := fun x h y h' e => runFK_ok (lstK_ok [] (fun E h => nomatch h)) (A := ann_188) (by kernel_rfl) (show Go.Proofs.Ythiccnmplgdheaa.Tab.D.fn.get 188 = some Try.f188 by kernel_rfl) (show Try.f188.body = some (Try.f188.body.getD .skip) by kernel_rfl) ((congrFun (congrFun (eq_188 ) x) h).trans e)
/-! math_bits_Len -/
noncomputable def P.math_bits_Len (math_bits_Len32 : Int → H → Option ((Int) × H)) (math_bits_Len64 : Int → H → Option ((Int) × H)) (x0 : Int) (h : H) : Option (Int × H) :=
  bind2 (math_bits_Len64 x0 h) fun (x1 : Int) (h0 : H) =>
  some (x1, h0)
noncomputable def math_bits_Len : Int → H → Option ((Int) × H) := P.math_bits_Len math_bits_Len32 math_bits_Len64
noncomputable def ann_180 : Ann := ⟨fun _ => none, fun _ => none, fun _ => none⟩
noncomputable def E_180 : Ent := ⟨180, [⟨false, [.int .u64]⟩], [⟨false, [.int .i64]⟩], fun (x : Int) h => math_bits_Len x h⟩
theorem eq_180 (math_bits_Len32 : Int → H → Option ((Int) × H)) (math_bits_Len64 : Int → H → Option ((Int) × H)) : (fun (x : PT E_180.ps) (h : H) => runFK Go.Proofs.Ythiccnmplgdheaa.Tab.D (lstK [⟨187, [⟨false, [.int .u32]⟩], [⟨false, [.int .i64]⟩], fun (x : Int) h => math_bits_Len32 x h⟩, ⟨188, [⟨false, [.int .u64]⟩], [⟨false, [.int .i64]⟩], fun (x : Int) h => math_bits_Len64 x h⟩]) ann_180 Try.f180 (Try.f180.body.getD .skip) E_180.ys (encP E_180.ps x) h) = (fun (x : Int) h => P.math_bits_Len math_bits_Len32 math_bits_Len64 x h) := by kernel_rfl
theorem ok_180 : E_180.ok Go.Proofs.Ythiccnmplgdheaa.Tab.D := fun x h y h' e => runFK_ok (lstK_ok [E_187, E_188] (List.forall_mem_cons.2 ⟨ok_187, List.forall_mem_cons.2 ⟨ok_188, fun E h => nomatch h⟩⟩)) (A := ann_180) (by kernel_rfl) (show Go.Proofs.Ythiccnmplgdheaa.Tab.D.fn.get 180 = some Try.f180 by kernel_rfl) (show Try.f180.body = some (Try.f180.body.getD .skip) by kernel_rfl) ((congrFun (congrFun (eq_180 math_bits_Len32 math_bits_Len64) x) h).trans e)
/-! varint_kind -/
noncomputable def P.varint_kind_l1 (math_bits_Len : Int → H → Option ((Int) × H)) : ((Int × Int) × H) → Option (((Int × Int) × H) ⊕ (Int × H)) := fun ((n, x0), h0) =>
  condK (decide ((x0 < 3))) (
    bind2 (math_bits_Len (IntKind.wrap .u64 n) h0) fun (x1 : Int) (h1 : H) =>
    bindO (shlT .i64 8 .i64 x0) fun (x2 : Int) =>
    condK (decide ((x1 ≤ (IntKind.wrap .i64 (x2 - 2))))) (
      some (Sum.inr (x0, h1))) (
      some (Sum.inl ((n, (IntKind.wrap .i64 (x0 + 1))), h1)))) (
    some (Sum.inr (3, h0)))

noncomputable def P.varint_kind (math_bits_Len : Int → H → Option ((Int) × H)) (n : Int) (h : H) : Option (Int × H) :=
  joinO (
    condK (decide ((n < 0))) (
      some (Sum.inl ((n, true), h))) (
      some (Sum.inl ((n, (decide ((n > 4611686018427387903)))), h)))) fun (((n1, x0), h0) : ((Int × Bool) × H)) =>
  condK x0 (
    some ((-1), h0)) (
    loopO (P.varint_kind_l1 math_bits_Len) ((n1, 0), h0))
noncomputable abbrev varint_kind_l1 := P.varint_kind_l1 math_bits_Len
noncomputable def varint_kind : Int → H → Option ((Int) × H) := P.varint_kind math_bits_Len
noncomputable def ann_150 : Ann := ⟨fun _ => none, fun i => bif i.beq 4 then some ⟨[0, 10], [⟨false, [.int .i64]⟩, ⟨false, [.int .i64]⟩]⟩ else none, fun i => bif i.beq 1 then some ⟨[0, 9], [⟨false, [.int .i64]⟩, ⟨false, [.bool]⟩]⟩ else none⟩
noncomputable def E_150 : Ent := ⟨150, [⟨false, [.int .i64]⟩], [⟨false, [.int .i64]⟩], fun (x : Int) h => varint_kind x h⟩
theorem eq_150 (math_bits_Len : Int → H → Option ((Int) × H)) : (fun (x : PT E_150.ps) (h : H) => runFK Go.Proofs.Ythiccnmplgdheaa.Tab.D (lstK [⟨180, [⟨false, [.int .u64]⟩], [⟨false, [.int .i64]⟩], fun (x : Int) h => math_bits_Len x h⟩]) ann_150 Try.f150 (Try.f150.body.getD .skip) E_150.ys (encP E_150.ps x) h) = (fun (x : Int) h => P.varint_kind math_bits_Len x h) := by kernel_rfl
theorem ok_150 : E_150.ok Go.Proofs.Ythiccnmplgdheaa.Tab.D := fun x h y h' e => runFK_ok (lstK_ok [E_180] (List.forall_mem_cons.2 ⟨ok_180, fun E h => nomatch h⟩)) (A := ann_150) (by kernel_rfl) (show Go.Proofs.Ythiccnmplgdheaa.Tab.D.fn.get 150 = some Try.f150 by kernel_rfl) (show Try.f150.body = some (Try.f150.body.getD .skip) by kernel_rfl) ((congrFun (congrFun (eq_150 math_bits_Len) x) h).trans e)
/-! varint_Put -/
noncomputable def P.varint_Put_l2 (slices_Clone_byte : Sl → H → Option ((Sl) × H)) (varint_kind : Int → H → Option ((Int) × H)) (slices_Clip_byte : Sl → H → Option ((Sl) × H)) : ((Sl × (Int × (Int × (Int × (Int × (Sl × (Int × Int))))))) × H) → Option (((Sl × (Int × (Int × (Int × (Int × (Sl × (Int × Int))))))) × H) ⊕ (((Sl × (Int × (Int × (Sl × (Int × Int))))) × H) ⊕ (((Sl × (Sl × (Int × Int))) × H) ⊕ (((Sl × (Sl × (Int × Int))) × H) ⊕ ((Sl × H) ⊕ (Sl × H)))))) := fun ((out, (x0, (k, (first, (at', (x1, (x2, x3))))))), h0) =>
  condK (decide ((at' ≥ 0))) (
    bindO (shrT .i64 x0 .i64 at') fun (x4 : Int) =>
    newO (row 5 [(.int .u8 (IntKind.wrap .u8 x4))]) h0 fun (b : Nat) (h1 : H) =>
    bind2 (appT 5 1 1 h1 out (⟨(some (⟨b, 0, (some 0)⟩ : Addr)), 1, 1⟩ : Sl)) fun (x5 : Sl) (h2 : H) =>
    some (Sum.inl ((x5, (x0, (k, (first, ((IntKind.wrap .i64 (at' - 8)), (x1, (x2, x3))))))), h2))) (
    some (Sum.inr (Sum.inl ((out, (k, (first, (x1, (x2, x3))))), h0))))

noncomputable def P.varint_Put_l1 (slices_Clone_byte : Sl → H → Option ((Sl) × H)) (varint_kind : Int → H → Option ((Int) × H)) (slices_Clip_byte : Sl → H → Option ((Sl) × H)) : ((Sl × (Sl × (Int × Int))) × H) → Option (((Sl × (Sl × (Int × Int))) × H) ⊕ ((Sl × H) ⊕ (Sl × H))) := fun ((out, (x0, (x1, x2))), h0) =>
  condK (decide ((x2 < x1))) (
    joinO (
      bindO (ixT 1 x0 x2) fun (a0 : Addr) =>
      bindO (ldI .i64 h0 a0) fun (x3 : Int) =>
      bind2 (varint_kind x3 h0) fun (x4 : Int) (h1 : H) =>
      condK (decide ((x4 < 0))) (
        some (Sum.inr (Sum.inr (Sum.inr ((⟨none, 0, 0⟩ : Sl), h1))))) (
        joinO (
          bindO (shlT .i64 8 .i64 x4) fun (x5 : Int) =>
          loopO (P.varint_Put_l2 slices_Clone_byte varint_kind slices_Clip_byte) ((out, (x3, (x4, (((out.len : Nat) : Int), ((IntKind.wrap .i64 (x5 - 8)), (x0, (x1, x2))))))), h1)) fun (((out1, (k, (first, (x5, (x6, x7))))), h2) : ((Sl × (Int × (Int × (Sl × (Int × Int))))) × H)) =>
        bindO (ixT 1 out1 first) fun (a1 : Addr) =>
        bindO (ldI .u8 h2 a1) fun (x8 : Int) =>
        letO ((IntKind.wrap .u8 (((BitVec.toNat ((BitVec.ofInt 8 x8) ||| (BitVec.ofInt 8 (IntKind.wrap .u8 (IntKind.wrap .i64 (k * 64)))))) : Nat) : Int))) fun (x9 : Int) =>
        bindO (ixT 1 out1 first) fun (a2 : Addr) =>
        bindO (st1 h2 a2 (.int .u8 x9)) fun (h3 : H) =>
        some (Sum.inl ((out1, (x5, (x6, x7))), h3)))) fun (((out1, (x3, (x4, x5))), h1) : ((Sl × (Sl × (Int × Int))) × H)) =>
    some (Sum.inl ((out1, (x3, (x4, (IntKind.wrap .i64 (x5 + 1))))), h1))) (
    some (Sum.inr (Sum.inl (out, h0))))

noncomputable def P.varint_Put (slices_Clone_byte : Sl → H → Option ((Sl) × H)) (varint_kind : Int → H → Option ((Int) × H)) (slices_Clip_byte : Sl → H → Option ((Sl) × H)) (b : Sl) (n : Sl) (h : H) : Option (Sl × H) :=
  bind2 (slices_Clone_byte b h) fun (x0 : Sl) (h0 : H) =>
  joinO (
    loopO (P.varint_Put_l1 slices_Clone_byte varint_kind slices_Clip_byte) ((x0, (n, (((n.len : Nat) : Int), 0))), h0)) fun ((out, h1) : (Sl × H)) =>
  bind2 (slices_Clip_byte out h1) fun (x1 : Sl) (h2 : H) =>
  some (x1, h2)
noncomputable abbrev varint_Put_l2 := P.varint_Put_l2 slices_Clone_byte varint_kind slices_Clip_byte
noncomputable abbrev varint_Put_l1 := P.varint_Put_l1 slices_Clone_byte varint_kind slices_Clip_byte
noncomputable def varint_Put : Sl → Sl → H → Option ((Sl) × H) := P.varint_Put slices_Clone_byte varint_kind slices_Clip_byte
noncomputable def ann_100 : Ann := ⟨fun i => bif i.beq 13 then some ⟨[5, 8, 9, 13, 14, 15], [⟨false, [.sl]⟩, ⟨false, [.int .i64]⟩, ⟨false, [.int .i64]⟩, ⟨false, [.sl]⟩, ⟨false, [.int .i64]⟩, ⟨false, [.int .i64]⟩]⟩ else bif i.beq 14 then some ⟨[5, 13, 14, 15], [⟨false, [.sl]⟩, ⟨false, [.sl]⟩, ⟨false, [.int .i64]⟩, ⟨false, [.int .i64]⟩]⟩ else bif i.beq 15 then some ⟨[5], [⟨false, [.sl]⟩]⟩ else none, fun i => bif i.beq 3 then some ⟨[5, 13, 14, 15], [⟨false, [.sl]⟩, ⟨false, [.sl]⟩, ⟨false, [.int .i64]⟩, ⟨false, [.int .i64]⟩]⟩ else bif i.beq 10 then some ⟨[5, 7, 8, 9, 10, 13, 14, 15], [⟨false, [.sl]⟩, ⟨false, [.int .i64]⟩, ⟨false, [.int .i64]⟩, ⟨false, [.int .i64]⟩, ⟨false, [.int .i64]⟩, ⟨false, [.sl]⟩, ⟨false, [.int .i64]⟩, ⟨false, [.int .i64]⟩]⟩ else none, fun _ => none⟩
noncomputable def E_100 : Ent := ⟨100, [⟨false, [.sl]⟩, ⟨false, [.sl]⟩], [⟨false, [.sl]⟩], fun (x : Sl × Sl) h => varint_Put x.1 x.2 h⟩
theorem eq_100 (slices_Clone_byte : Sl → H → Option ((Sl) × H)) (varint_kind : Int → H → Option ((Int) × H)) (slices_Clip_byte : Sl → H → Option ((Sl) × H)) : (fun (x : PT E_100.ps) (h : H) => runFK Go.Proofs.Ythiccnmplgdheaa.Tab.D (lstK [⟨98, [⟨false, [.sl]⟩], [⟨false, [.sl]⟩], fun (x : Sl) h => slices_Clone_byte x h⟩, ⟨150, [⟨false, [.int .i64]⟩], [⟨false, [.int .i64]⟩], fun (x : Int) h => varint_kind x h⟩, ⟨97, [⟨false, [.sl]⟩], [⟨false, [.sl]⟩], fun (x : Sl) h => slices_Clip_byte x h⟩]) ann_100 Try.f100 (Try.f100.body.getD .skip) E_100.ys (encP E_100.ps x) h) = (fun (x : Sl × Sl) h => P.varint_Put slices_Clone_byte varint_kind slices_Clip_byte x.1 x.2 h) := by kernel_rfl
theorem ok_100 : E_100.ok Go.Proofs.Ythiccnmplgdheaa.Tab.D := fun x h y h' e => runFK_ok (lstK_ok [E_98, E_150, E_97] (List.forall_mem_cons.2 ⟨ok_98, List.forall_mem_cons.2 ⟨ok_150, List.forall_mem_cons.2 ⟨ok_97, fun E h => nomatch h⟩⟩⟩)) (A := ann_100) (by kernel_rfl) (show Go.Proofs.Ythiccnmplgdheaa.Tab.D.fn.get 100 = some Try.f100 by kernel_rfl) (show Try.f100.body = some (Try.f100.body.getD .skip) by kernel_rfl) ((congrFun (congrFun (eq_100 slices_Clone_byte varint_kind slices_Clip_byte) x) h).trans e)
/-! head_Lay -/
noncomputable def P.head_Lay (slices_Concat_byte : Sl → H → Option ((Sl) × H)) (head_Right : (Int × Int × Int × Int × Int) → H → Option ((Bool) × H)) (head_bounds : (Int × Int × Int × Int × Int) → H → Option ((Int × Int) × H)) (varint_Put : Sl → Sl → H → Option ((Sl) × H)) (h0 : Int × Int × Int × Int × Int) (parts : Sl) (h : H) : Option (Sl × H) :=
  newO (row 46 [(.int .i64 h0.1), (.int .i64 h0.2.1), (.int .i64 h0.2.2.1), (.int .i64 h0.2.2.2.1), (.int .i64 h0.2.2.2.2)]) h fun (b : Nat) (h1 : H) =>
  bind2 (slices_Concat_byte parts h1) fun (x0 : Sl) (h2 : H) =>
  bindO (ldZ [.int .i64, .int .i64, .int .i64, .int .i64, .int .i64] h2 (⟨b, 0, (some 0)⟩ : Addr)) fun ((x1, x2, x3, x4, x5) : Int × Int × Int × Int × Int) =>
  bind2 (head_Right (x1, x2, x3, x4, x5) h2) fun (x6 : Bool) (h3 : H) =>
  condK (!x6) (
    some ((⟨none, 0, 0⟩ : Sl), h3)) (
    bindO (ldZ [.int .i64, .int .i64, .int .i64, .int .i64, .int .i64] h3 (⟨b, 0, (some 0)⟩ : Addr)) fun ((x7, x8, x9, x10, x11) : Int × Int × Int × Int × Int) =>
    bind2 (head_bounds (x7, x8, x9, x10, x11) h3) fun ((x12, x13) : Int × Int) (h4 : H) =>
    condK (((x0.len : Nat) : Int) != (IntKind.wrap .i64 (x13 - x12))) (
      some ((⟨none, 0, 0⟩ : Sl), h4)) (
      bindO (ldI .i64 h4 (add (⟨b, 0, (some 0)⟩ : Addr) 0)) fun (x14 : Int) =>
      bindO (ldI .i64 h4 (add (⟨b, 0, (some 0)⟩ : Addr) 1)) fun (x15 : Int) =>
      bindO (ldI .i64 h4 (add (⟨b, 0, (some 0)⟩ : Addr) 2)) fun (x16 : Int) =>
      bindO (ldI .i64 h4 (add (⟨b, 0, (some 0)⟩ : Addr) 3)) fun (x17 : Int) =>
      bindO (ldI .i64 h4 (add (⟨b, 0, (some 0)⟩ : Addr) 4)) fun (x18 : Int) =>
      newO (row 3 [(.int .i64 x14), (.int .i64 x15), (.int .i64 x16), (.int .i64 x17), (.int .i64 x18)]) h4 fun (b1 : Nat) (h5 : H) =>
      bind2 (varint_Put (⟨none, 0, 0⟩ : Sl) (⟨(some (⟨b1, 0, (some 0)⟩ : Addr)), 5, 5⟩ : Sl) h5) fun (x19 : Sl) (h6 : H) =>
      newO (row 30 [(.slice x19.base x19.len x19.cap), (.slice x0.base x0.len x0.cap)]) h6 fun (b2 : Nat) (h7 : H) =>
      bind2 (slices_Concat_byte (⟨(some (⟨b2, 0, (some 0)⟩ : Addr)), 2, 2⟩ : Sl) h7) fun (x20 : Sl) (h8 : H) =>
      some (x20, h8)))
noncomputable def head_Lay : (Int × Int × Int × Int × Int) → Sl → H → Option ((Sl) × H) := P.head_Lay slices_Concat_byte head_Right head_bounds varint_Put
noncomputable def ann_35 : Ann := ⟨fun _ => none, fun _ => none, fun _ => none⟩
noncomputable def E_35 : Ent := ⟨35, [⟨true, [.int .i64, .int .i64, .int .i64, .int .i64, .int .i64]⟩, ⟨false, [.sl]⟩], [⟨false, [.sl]⟩], fun (x : ((Int × Int × Int × Int × Int)) × Sl) h => head_Lay x.1 x.2 h⟩
theorem eq_35 (slices_Concat_byte : Sl → H → Option ((Sl) × H)) (head_Right : (Int × Int × Int × Int × Int) → H → Option ((Bool) × H)) (head_bounds : (Int × Int × Int × Int × Int) → H → Option ((Int × Int) × H)) (varint_Put : Sl → Sl → H → Option ((Sl) × H)) : (fun (x : PT E_35.ps) (h : H) => runFK Go.Proofs.Ythiccnmplgdheaa.Tab.D (lstK [⟨99, [⟨false, [.sl]⟩], [⟨false, [.sl]⟩], fun (x : Sl) h => slices_Concat_byte x h⟩, ⟨39, [⟨true, [.int .i64, .int .i64, .int .i64, .int .i64, .int .i64]⟩], [⟨false, [.bool]⟩], fun (x : (Int × Int × Int × Int × Int)) h => head_Right x h⟩, ⟨96, [⟨true, [.int .i64, .int .i64, .int .i64, .int .i64, .int .i64]⟩], [⟨false, [.int .i64]⟩, ⟨false, [.int .i64]⟩], fun (x : (Int × Int × Int × Int × Int)) h => head_bounds x h⟩, ⟨100, [⟨false, [.sl]⟩, ⟨false, [.sl]⟩], [⟨false, [.sl]⟩], fun (x : Sl × Sl) h => varint_Put x.1 x.2 h⟩]) ann_35 Try.f35 (Try.f35.body.getD .skip) E_35.ys (encP E_35.ps x) h) = (fun (x : ((Int × Int × Int × Int × Int)) × Sl) h => P.head_Lay slices_Concat_byte head_Right head_bounds varint_Put x.1 x.2 h) := by kernel_rfl
theorem ok_35 : E_35.ok Go.Proofs.Ythiccnmplgdheaa.Tab.D := fun x h y h' e => runFK_ok (lstK_ok [E_99, E_39, E_96, E_100] (List.forall_mem_cons.2 ⟨ok_99, List.forall_mem_cons.2 ⟨ok_39, List.forall_mem_cons.2 ⟨ok_96, List.forall_mem_cons.2 ⟨ok_100, fun E h => nomatch h⟩⟩⟩⟩)) (A := ann_35) (by kernel_rfl) (show Go.Proofs.Ythiccnmplgdheaa.Tab.D.fn.get 35 = some Try.f35 by kernel_rfl) (show Try.f35.body = some (Try.f35.body.getD .skip) by kernel_rfl) ((congrFun (congrFun (eq_35 slices_Concat_byte head_Right head_bounds varint_Put) x) h).trans e)
/-! varint_Take -/
noncomputable def P.varint_Take_l1 (slices_Clone_byte : Sl → H → Option ((Sl) × H)) : ((Sl × (Int × (Int × (Sl × (Int × Int))))) × H) → Option (((Sl × (Int × (Int × (Sl × (Int × Int))))) × H) ⊕ (((Sl × (Int × Int)) × H) ⊕ ((Int × (Sl × Int)) × H))) := fun ((b, (n, (size, (x0, (x1, x2))))), h0) =>
  condK (decide ((x2 < x1))) (
    bindO (ixT 1 x0 x2) fun (a0 : Addr) =>
    bindO (ldI .u8 h0 a0) fun (x3 : Int) =>
    letO ((IntKind.wrap .i64 (((BitVec.toNat ((BitVec.ofInt 64 (IntKind.wrap .i64 (n * 256))) ||| (BitVec.ofInt 64 (IntKind.wrap .i64 x3)))) : Nat) : Int))) fun (x4 : Int) =>
    some (Sum.inl ((b, (x4, (size, (x0, (x1, (IntKind.wrap .i64 (x2 + 1))))))), h0))) (
    some (Sum.inr (Sum.inl ((b, (n, size)), h0))))

noncomputable def P.varint_Take (slices_Clone_byte : Sl → H → Option ((Sl) × H)) (b : Sl) (h : H) : Option ((Int × Sl × Int) × H) :=
  joinO (
    condK (((b.len : Nat) : Int) == 0) (
      some (Sum.inl ((b, true), h))) (
      bindO (ixT 1 b 0) fun (a0 : Addr) =>
      bindO (ldI .u8 h a0) fun (x0 : Int) =>
      bindO (shlT .i64 1 .u8 (Int.fdiv x0 64)) fun (x1 : Int) =>
      some (Sum.inl ((b, (decide ((((b.len : Nat) : Int) < x1)))), h)))) fun (((b1, x0), h0) : ((Sl × Bool) × H)) =>
  condK x0 (
    some ((0, ((⟨none, 0, 0⟩ : Sl), 3)), h0)) (
    bindO (ixT 1 b1 0) fun (a0 : Addr) =>
    bindO (ldI .u8 h0 a0) fun (x1 : Int) =>
    bindO (shlT .i64 1 .u8 (Int.fdiv x1 64)) fun (x2 : Int) =>
    bindO (ixT 1 b1 0) fun (a1 : Addr) =>
    bindO (ldI .u8 h0 a1) fun (x3 : Int) =>
    letO ((IntKind.wrap .u8 (((BitVec.toNat ((BitVec.ofInt 8 x3) &&& (BitVec.ofInt 8 63))) : Nat) : Int))) fun (x4 : Int) =>
    joinO (
      bindO (slT 1 h0 b1 (some 1) (some x2) none) fun (x5 : Sl) =>
      loopO (P.varint_Take_l1 slices_Clone_byte) ((b1, ((IntKind.wrap .i64 x4), (x2, (x5, (((x5.len : Nat) : Int), 0))))), h0)) fun (((b2, (n, size)), h1) : ((Sl × (Int × Int)) × H)) =>
    bindO (slT 1 h1 b2 (some size) none none) fun (x5 : Sl) =>
    bind2 (slices_Clone_byte x5 h1) fun (x6 : Sl) (h2 : H) =>
    some ((n, (x6, 0)), h2))
noncomputable abbrev varint_Take_l1 := P.varint_Take_l1 slices_Clone_byte
noncomputable def varint_Take : Sl → H → Option ((Int × Sl × Int) × H) := P.varint_Take slices_Clone_byte
noncomputable def ann_151 : Ann := ⟨fun i => bif i.beq 10 then some ⟨[0, 2, 5], [⟨false, [.sl]⟩, ⟨false, [.int .i64]⟩, ⟨false, [.int .i64]⟩]⟩ else none, fun i => bif i.beq 6 then some ⟨[0, 2, 5, 33, 34, 35], [⟨false, [.sl]⟩, ⟨false, [.int .i64]⟩, ⟨false, [.int .i64]⟩, ⟨false, [.sl]⟩, ⟨false, [.int .i64]⟩, ⟨false, [.int .i64]⟩]⟩ else none, fun i => bif i.beq 1 then some ⟨[0, 20], [⟨false, [.sl]⟩, ⟨false, [.bool]⟩]⟩ else none⟩
noncomputable def E_151 : Ent := ⟨151, [⟨false, [.sl]⟩], [⟨false, [.int .i64]⟩, ⟨false, [.sl]⟩, ⟨false, [.int .i64]⟩], fun (x : Sl) h => varint_Take x h⟩
theorem eq_151 (slices_Clone_byte : Sl → H → Option ((Sl) × H)) : (fun (x : PT E_151.ps) (h : H) => runFK Go.Proofs.Ythiccnmplgdheaa.Tab.D (lstK [⟨98, [⟨false, [.sl]⟩], [⟨false, [.sl]⟩], fun (x : Sl) h => slices_Clone_byte x h⟩]) ann_151 Try.f151 (Try.f151.body.getD .skip) E_151.ys (encP E_151.ps x) h) = (fun (x : Sl) h => P.varint_Take slices_Clone_byte x h) := by kernel_rfl
theorem ok_151 : E_151.ok Go.Proofs.Ythiccnmplgdheaa.Tab.D := fun x h y h' e => runFK_ok (lstK_ok [E_98] (List.forall_mem_cons.2 ⟨ok_98, fun E h => nomatch h⟩)) (A := ann_151) (by kernel_rfl) (show Go.Proofs.Ythiccnmplgdheaa.Tab.D.fn.get 151 = some Try.f151 by kernel_rfl) (show Try.f151.body = some (Try.f151.body.getD .skip) by kernel_rfl) ((congrFun (congrFun (eq_151 slices_Clone_byte) x) h).trans e)
/-! slices_Clip_int -/
noncomputable def slices_Clip_int (s : Sl) (h : H) : Option (Sl × H) :=
  bindO (slT 1 h s none (some ((s.len : Nat) : Int)) (some ((s.len : Nat) : Int))) fun (x0 : Sl) =>
  some (x0, h)
noncomputable def ann_116 : Ann := ⟨fun _ => none, fun _ => none, fun _ => none⟩
noncomputable def E_116 : Ent := ⟨116, [⟨false, [.sl]⟩], [⟨false, [.sl]⟩], fun (x : Sl) h => slices_Clip_int x h⟩
theorem eq_116  : (fun (x : PT E_116.ps) (h : H) => runFK Go.Proofs.Ythiccnmplgdheaa.Tab.D (lstK []) ann_116 Try.f116 (Try.f116.body.getD .skip) E_116.ys (encP E_116.ps x) h) = (fun (x : Sl) h => slices_Clip_int x h) := by kernel_rfl
theorem ok_116 : E_116.ok Go.Proofs.Ythiccnmplgdheaa.Tab.D := fun x h y h' e => runFK_ok (lstK_ok [] (fun E h => nomatch h)) (A := ann_116) (by kernel_rfl) (show Go.Proofs.Ythiccnmplgdheaa.Tab.D.fn.get 116 = some Try.f116 by kernel_rfl) (show Try.f116.body = some (Try.f116.body.getD .skip) by kernel_rfl) ((congrFun (congrFun (eq_116 ) x) h).trans e)
/-! varint_Takes -/
noncomputable def P.varint_Takes_l1 (slices_Clone_byte : Sl → H → Option ((Sl) × H)) (varint_Take : Sl → H → Option ((Int × Sl × Int) × H)) (slices_Clip_int : Sl → H → Option ((Sl) × H)) : ((Sl × (Sl × (Int × Int))) × H) → Option (((Sl × (Sl × (Int × Int))) × H) ⊕ (((Sl × Sl) × H) ⊕ ((Sl × (Sl × Int)) × H))) := fun ((l, (rest, (x0, x1))), h0) =>
  condK (decide ((x1 < x0))) (
    bind2 (varint_Take rest h0) fun ((x2, x3, x4) : Int × Sl × Int) (h1 : H) =>
    condK (x4 != 0) (
      some (Sum.inr (Sum.inr (((⟨none, 0, 0⟩ : Sl), ((⟨none, 0, 0⟩ : Sl), x4)), h1)))) (
      newO (row 3 [(.int .i64 x2)]) h1 fun (b : Nat) (h2 : H) =>
      bind2 (appT 3 1 8 h2 l (⟨(some (⟨b, 0, (some 0)⟩ : Addr)), 1, 1⟩ : Sl)) fun (x5 : Sl) (h3 : H) =>
      some (Sum.inl ((x5, (x3, (x0, (IntKind.wrap .i64 (x1 + 1))))), h3)))) (
    some (Sum.inr (Sum.inl ((l, rest), h0))))

noncomputable def P.varint_Takes (slices_Clone_byte : Sl → H → Option ((Sl) × H)) (varint_Take : Sl → H → Option ((Int × Sl × Int) × H)) (slices_Clip_int : Sl → H → Option ((Sl) × H)) (b : Sl) (count : Int) (h : H) : Option ((Sl × Sl × Int) × H) :=
  bind2 (slices_Clone_byte b h) fun (x0 : Sl) (h0 : H) =>
  joinO (
    loopO (P.varint_Takes_l1 slices_Clone_byte varint_Take slices_Clip_int) (((⟨none, 0, 0⟩ : Sl), (x0, ((if (count > 0) then count else 0), 0))), h0)) fun (((l, rest), h1) : ((Sl × Sl) × H)) =>
  bind2 (slices_Clip_int l h1) fun (x1 : Sl) (h2 : H) =>
  some ((x1, (rest, 0)), h2)
noncomputable abbrev varint_Takes_l1 := P.varint_Takes_l1 slices_Clone_byte varint_Take slices_Clip_int
noncomputable def varint_Takes : Sl → Int → H → Option ((Sl × Sl × Int) × H) := P.varint_Takes slices_Clone_byte varint_Take slices_Clip_int
noncomputable def ann_101 : Ann := ⟨fun i => bif i.beq 10 then some ⟨[4, 5], [⟨false, [.sl]⟩, ⟨false, [.sl]⟩]⟩ else none, fun i => bif i.beq 3 then some ⟨[4, 5, 11, 12], [⟨false, [.sl]⟩, ⟨false, [.sl]⟩, ⟨false, [.int .i64]⟩, ⟨false, [.int .i64]⟩]⟩ else none, fun _ => none⟩
noncomputable def E_101 : Ent := ⟨101, [⟨false, [.sl]⟩, ⟨false, [.int .i64]⟩], [⟨false, [.sl]⟩, ⟨false, [.sl]⟩, ⟨false, [.int .i64]⟩], fun (x : Sl × Int) h => varint_Takes x.1 x.2 h⟩
theorem eq_101 (slices_Clone_byte : Sl → H → Option ((Sl) × H)) (varint_Take : Sl → H → Option ((Int × Sl × Int) × H)) (slices_Clip_int : Sl → H → Option ((Sl) × H)) : (fun (x : PT E_101.ps) (h : H) => runFK Go.Proofs.Ythiccnmplgdheaa.Tab.D (lstK [⟨98, [⟨false, [.sl]⟩], [⟨false, [.sl]⟩], fun (x : Sl) h => slices_Clone_byte x h⟩, ⟨151, [⟨false, [.sl]⟩], [⟨false, [.int .i64]⟩, ⟨false, [.sl]⟩, ⟨false, [.int .i64]⟩], fun (x : Sl) h => varint_Take x h⟩, ⟨116, [⟨false, [.sl]⟩], [⟨false, [.sl]⟩], fun (x : Sl) h => slices_Clip_int x h⟩]) ann_101 Try.f101 (Try.f101.body.getD .skip) E_101.ys (encP E_101.ps x) h) = (fun (x : Sl × Int) h => P.varint_Takes slices_Clone_byte varint_Take slices_Clip_int x.1 x.2 h) := by kernel_rfl
theorem ok_101 : E_101.ok Go.Proofs.Ythiccnmplgdheaa.Tab.D := fun x h y h' e => runFK_ok (lstK_ok [E_98, E_151, E_116] (List.forall_mem_cons.2 ⟨ok_98, List.forall_mem_cons.2 ⟨ok_151, List.forall_mem_cons.2 ⟨ok_116, fun E h => nomatch h⟩⟩⟩)) (A := ann_101) (by kernel_rfl) (show Go.Proofs.Ythiccnmplgdheaa.Tab.D.fn.get 101 = some Try.f101 by kernel_rfl) (show Try.f101.body = some (Try.f101.body.getD .skip) by kernel_rfl) ((congrFun (congrFun (eq_101 slices_Clone_byte varint_Take slices_Clip_int) x) h).trans e)
/-! head_Read -/
noncomputable def P.head_Read (varint_Takes : Sl → Int → H → Option ((Sl × Sl × Int) × H)) (head_Right : (Int × Int × Int × Int × Int) → H → Option ((Bool) × H)) (head_bounds : (Int × Int × Int × Int × Int) → H → Option ((Int × Int) × H)) (b : Sl) (h : H) : Option (((Int × Int × Int × Int × Int) × Sl × Int) × H) :=
  newO (row 46 [(.int .i64 0), (.int .i64 0), (.int .i64 0), (.int .i64 0), (.int .i64 0)]) h fun (b1 : Nat) (h0 : H) =>
  bind2 (varint_Takes b 5 h0) fun ((x0, x1, x2) : Sl × Sl × Int) (h1 : H) =>
  condK (x2 != 0) (
    bindO (stZ [.int .i64, .int .i64, .int .i64, .int .i64, .int .i64] h1 (⟨b1, 0, (some 0)⟩ : Addr) ((0, 0, 0, 0, 0) : Int × Int × Int × Int × Int)) fun (h2 : H) =>
    bindO (ldZ [.int .i64, .int .i64, .int .i64, .int .i64, .int .i64] h2 (⟨b1, 0, (some 0)⟩ : Addr)) fun ((x3, x4, x5, x6, x7) : Int × Int × Int × Int × Int) =>
    some (((x3, (x4, (x5, (x6, x7)))), ((⟨none, 0, 0⟩ : Sl), x2)), h2)) (
    letH (growIf h1 18) fun (h3 : H) =>
    bindO (ixT 1 x0 0) fun (a0 : Addr) =>
    bindO (ldI .i64 h3 a0) fun (x8 : Int) =>
    bindO (ixT 1 x0 1) fun (a1 : Addr) =>
    bindO (ldI .i64 h3 a1) fun (x9 : Int) =>
    bindO (ixT 1 x0 2) fun (a2 : Addr) =>
    bindO (ldI .i64 h3 a2) fun (x10 : Int) =>
    bindO (ixT 1 x0 3) fun (a3 : Addr) =>
    bindO (ldI .i64 h3 a3) fun (x11 : Int) =>
    bindO (ixT 1 x0 4) fun (a4 : Addr) =>
    bindO (ldI .i64 h3 a4) fun (x12 : Int) =>
    letH (addP 131071 h1.size [(16, (row 46 [(.int .i64 0), (.int .i64 0), (.int .i64 0), (.int .i64 0), (.int .i64 0)]))] h3) fun (h4 : H) =>
    bindO (stZ [.int .i64, .int .i64, .int .i64, .int .i64, .int .i64] h4 (⟨(h1.size + 16), 0, (some 0)⟩ : Addr) ((x8, x9, x10, x11, x12) : Int × Int × Int × Int × Int)) fun (h5 : H) =>
    letH (addP 262143 h1.size [(16, (row 46 [(.int .i64 0), (.int .i64 0), (.int .i64 0), (.int .i64 0), (.int .i64 0)]))] h5) fun (h6 : H) =>
    letH (tickIf 18 h6) fun (h7 : H) =>
    bindO (ldZ [.int .i64, .int .i64, .int .i64, .int .i64, .int .i64] h7 (⟨(h1.size + 16), 0, (some 0)⟩ : Addr)) fun ((x13, x14, x15, x16, x17) : Int × Int × Int × Int × Int) =>
    bind2 (head_Right (x13, x14, x15, x16, x17) h7) fun (x18 : Bool) (h8 : H) =>
    condK (!x18) (
      bindO (stZ [.int .i64, .int .i64, .int .i64, .int .i64, .int .i64] h8 (⟨b1, 0, (some 0)⟩ : Addr) ((0, 0, 0, 0, 0) : Int × Int × Int × Int × Int)) fun (h9 : H) =>
      bindO (ldZ [.int .i64, .int .i64, .int .i64, .int .i64, .int .i64] h9 (⟨b1, 0, (some 0)⟩ : Addr)) fun ((x19, x20, x21, x22, x23) : Int × Int × Int × Int × Int) =>
      some (((x19, (x20, (x21, (x22, x23)))), ((⟨none, 0, 0⟩ : Sl), 2)), h9)) (
      bindO (ldZ [.int .i64, .int .i64, .int .i64, .int .i64, .int .i64] h8 (⟨(h1.size + 16), 0, (some 0)⟩ : Addr)) fun ((x24, x25, x26, x27, x28) : Int × Int × Int × Int × Int) =>
      bind2 (head_bounds (x24, x25, x26, x27, x28) h8) fun ((x29, x30) : Int × Int) (h10 : H) =>
      condK (((x1.len : Nat) : Int) != (IntKind.wrap .i64 (x30 - x29))) (
        bindO (stZ [.int .i64, .int .i64, .int .i64, .int .i64, .int .i64] h10 (⟨b1, 0, (some 0)⟩ : Addr) ((0, 0, 0, 0, 0) : Int × Int × Int × Int × Int)) fun (h11 : H) =>
        bindO (ldZ [.int .i64, .int .i64, .int .i64, .int .i64, .int .i64] h11 (⟨b1, 0, (some 0)⟩ : Addr)) fun ((x31, x32, x33, x34, x35) : Int × Int × Int × Int × Int) =>
        some (((x31, (x32, (x33, (x34, x35)))), ((⟨none, 0, 0⟩ : Sl), 2)), h11)) (
        bindO (ldZ [.int .i64, .int .i64, .int .i64, .int .i64, .int .i64] h10 (⟨(h1.size + 16), 0, (some 0)⟩ : Addr)) fun ((x36, x37, x38, x39, x40) : Int × Int × Int × Int × Int) =>
        bindO (stZ [.int .i64, .int .i64, .int .i64, .int .i64, .int .i64] h10 (⟨b1, 0, (some 0)⟩ : Addr) ((x36, x37, x38, x39, x40) : Int × Int × Int × Int × Int)) fun (h12 : H) =>
        bindO (ldZ [.int .i64, .int .i64, .int .i64, .int .i64, .int .i64] h12 (⟨b1, 0, (some 0)⟩ : Addr)) fun ((x41, x42, x43, x44, x45) : Int × Int × Int × Int × Int) =>
        some (((x41, (x42, (x43, (x44, x45)))), (x1, 0)), h12))))
noncomputable def head_Read : Sl → H → Option ((((Int × Int × Int × Int × Int)) × Sl × Int) × H) := P.head_Read varint_Takes head_Right head_bounds
noncomputable def ann_36 : Ann := ⟨fun _ => none, fun _ => none, fun _ => none⟩
noncomputable def E_36 : Ent := ⟨36, [⟨false, [.sl]⟩], [⟨true, [.int .i64, .int .i64, .int .i64, .int .i64, .int .i64]⟩, ⟨false, [.sl]⟩, ⟨false, [.int .i64]⟩], fun (x : Sl) h => head_Read x h⟩
theorem eq_36 (varint_Takes : Sl → Int → H → Option ((Sl × Sl × Int) × H)) (head_Right : (Int × Int × Int × Int × Int) → H → Option ((Bool) × H)) (head_bounds : (Int × Int × Int × Int × Int) → H → Option ((Int × Int) × H)) : (fun (x : PT E_36.ps) (h : H) => runFK Go.Proofs.Ythiccnmplgdheaa.Tab.D (lstK [⟨101, [⟨false, [.sl]⟩, ⟨false, [.int .i64]⟩], [⟨false, [.sl]⟩, ⟨false, [.sl]⟩, ⟨false, [.int .i64]⟩], fun (x : Sl × Int) h => varint_Takes x.1 x.2 h⟩, ⟨39, [⟨true, [.int .i64, .int .i64, .int .i64, .int .i64, .int .i64]⟩], [⟨false, [.bool]⟩], fun (x : (Int × Int × Int × Int × Int)) h => head_Right x h⟩, ⟨96, [⟨true, [.int .i64, .int .i64, .int .i64, .int .i64, .int .i64]⟩], [⟨false, [.int .i64]⟩, ⟨false, [.int .i64]⟩], fun (x : (Int × Int × Int × Int × Int)) h => head_bounds x h⟩]) ann_36 Try.f36 (Try.f36.body.getD .skip) E_36.ys (encP E_36.ps x) h) = (fun (x : Sl) h => P.head_Read varint_Takes head_Right head_bounds x h) := by kernel_rfl
theorem ok_36 : E_36.ok Go.Proofs.Ythiccnmplgdheaa.Tab.D := fun x h y h' e => runFK_ok (lstK_ok [E_101, E_39, E_96] (List.forall_mem_cons.2 ⟨ok_101, List.forall_mem_cons.2 ⟨ok_39, List.forall_mem_cons.2 ⟨ok_96, fun E h => nomatch h⟩⟩⟩)) (A := ann_36) (by kernel_rfl) (show Go.Proofs.Ythiccnmplgdheaa.Tab.D.fn.get 36 = some Try.f36 by kernel_rfl) (show Try.f36.body = some (Try.f36.body.getD .skip) by kernel_rfl) ((congrFun (congrFun (eq_36 varint_Takes head_Right head_bounds) x) h).trans e)
/-! law18_known -/
noncomputable def P.law18_known (head_Of : Int → Int → Int → H → Option (((Int × Int × Int × Int × Int)) × H)) (head_Lay : (Int × Int × Int × Int × Int) → Sl → H → Option ((Sl) × H)) (head_Read : Sl → H → Option ((((Int × Int × Int × Int × Int)) × Sl × Int) × H))  (h : H) : Option (Bool × H) :=
  bind2 (head_Of 3 9 81 h) fun ((x0, x1, x2, x3, x4) : Int × Int × Int × Int × Int) (h0 : H) =>
  newO (row 46 [(.int .i64 0), (.int .i64 0), (.int .i64 0), (.int .i64 0), (.int .i64 0)]) h0 fun (b : Nat) (h1 : H) =>
  bindO (stZ [.int .i64, .int .i64, .int .i64, .int .i64, .int .i64] h1 (⟨b, 0, (some 0)⟩ : Addr) ((x0, x1, x2, x3, x4) : Int × Int × Int × Int × Int)) fun (h2 : H) =>
  letH (growIf h2 5) fun (h3 : H) =>
  bindO (ldZ [.int .i64, .int .i64, .int .i64, .int .i64, .int .i64] h3 (⟨b, 0, (some 0)⟩ : Addr)) fun ((x5, x6, x7, x8, x9) : Int × Int × Int × Int × Int) =>
  letH (addP 7 h2.size [(1, (row 5 [(.int .u8 0), (.int .u8 0), (.int .u8 0), (.int .u8 0), (.int .u8 0), (.int .u8 0), (.int .u8 0), (.int .u8 0), (.int .u8 0), (.int .u8 0), (.int .u8 0), (.int .u8 0), (.int .u8 0), (.int .u8 0), (.int .u8 0), (.int .u8 0), (.int .u8 0), (.int .u8 0), (.int .u8 0), (.int .u8 0), (.int .u8 0), (.int .u8 0), (.int .u8 0), (.int .u8 0), (.int .u8 0), (.int .u8 0), (.int .u8 0), (.int .u8 0), (.int .u8 0), (.int .u8 0), (.int .u8 0), (.int .u8 0), (.int .u8 0), (.int .u8 0), (.int .u8 0), (.int .u8 0), (.int .u8 0), (.int .u8 0), (.int .u8 0), (.int .u8 0), (.int .u8 0), (.int .u8 0), (.int .u8 0), (.int .u8 0), (.int .u8 0), (.int .u8 0), (.int .u8 0), (.int .u8 0), (.int .u8 0), (.int .u8 0), (.int .u8 0), (.int .u8 0), (.int .u8 0), (.int .u8 0), (.int .u8 0), (.int .u8 0), (.int .u8 0), (.int .u8 0), (.int .u8 0), (.int .u8 0), (.int .u8 0), (.int .u8 0), (.int .u8 0), (.int .u8 0), (.int .u8 0), (.int .u8 0), (.int .u8 0), (.int .u8 0), (.int .u8 0), (.int .u8 0), (.int .u8 0), (.int .u8 0), (.int .u8 0), (.int .u8 0), (.int .u8 0), (.int .u8 0), (.int .u8 0), (.int .u8 0), (.int .u8 0), (.int .u8 0)])), (2, (row 30 [(.slice (some (⟨(h2.size + 1), 0, (some 0)⟩ : Addr)) 80 80)]))] h3) fun (h4 : H) =>
  bind2 (head_Lay (x5, x6, x7, x8, x9) (⟨(some (⟨(h2.size + 2), 0, (some 0)⟩ : Addr)), 1, 1⟩ : Sl) h4) fun (x10 : Sl) (h5 : H) =>
  letH (addP 31 h2.size [(1, (row 5 [(.int .u8 0), (.int .u8 0), (.int .u8 0), (.int .u8 0), (.int .u8 0), (.int .u8 0), (.int .u8 0), (.int .u8 0), (.int .u8 0), (.int .u8 0), (.int .u8 0), (.int .u8 0), (.int .u8 0), (.int .u8 0), (.int .u8 0), (.int .u8 0), (.int .u8 0), (.int .u8 0), (.int .u8 0), (.int .u8 0), (.int .u8 0), (.int .u8 0), (.int .u8 0), (.int .u8 0), (.int .u8 0), (.int .u8 0), (.int .u8 0), (.int .u8 0), (.int .u8 0), (.int .u8 0), (.int .u8 0), (.int .u8 0), (.int .u8 0), (.int .u8 0), (.int .u8 0), (.int .u8 0), (.int .u8 0), (.int .u8 0), (.int .u8 0), (.int .u8 0), (.int .u8 0), (.int .u8 0), (.int .u8 0), (.int .u8 0), (.int .u8 0), (.int .u8 0), (.int .u8 0), (.int .u8 0), (.int .u8 0), (.int .u8 0), (.int .u8 0), (.int .u8 0), (.int .u8 0), (.int .u8 0), (.int .u8 0), (.int .u8 0), (.int .u8 0), (.int .u8 0), (.int .u8 0), (.int .u8 0), (.int .u8 0), (.int .u8 0), (.int .u8 0), (.int .u8 0), (.int .u8 0), (.int .u8 0), (.int .u8 0), (.int .u8 0), (.int .u8 0), (.int .u8 0), (.int .u8 0), (.int .u8 0), (.int .u8 0), (.int .u8 0), (.int .u8 0), (.int .u8 0), (.int .u8 0), (.int .u8 0), (.int .u8 0), (.int .u8 0)])), (2, (row 30 [(.slice (some (⟨(h2.size + 1), 0, (some 0)⟩ : Addr)) 80 80)]))] h5) fun (h6 : H) =>
  letH (tickIf 5 h6) fun (h7 : H) =>
  bind2 (head_Read x10 h7) fun (((x11, x12, x13, x14, x15), x16, x17) : (Int × Int × Int × Int × Int) × Sl × Int) (h8 : H) =>
  newO (row 46 [(.int .i64 0), (.int .i64 0), (.int .i64 0), (.int .i64 0), (.int .i64 0)]) h8 fun (b1 : Nat) (h9 : H) =>
  bindO (stZ [.int .i64, .int .i64, .int .i64, .int .i64, .int .i64] h9 (⟨b1, 0, (some 0)⟩ : Addr) ((x11, x12, x13, x14, x15) : Int × Int × Int × Int × Int)) fun (h10 : H) =>
  bindO (ldI .i64 h10 (add (⟨b, 0, (some 0)⟩ : Addr) 2)) fun (x18 : Int) =>
  condK (x18 == 2) (
    bindO (ldI .i64 h10 (add (⟨b, 0, (some 0)⟩ : Addr) 4)) fun (x19 : Int) =>
    condK (x19 == 81) (
      condK (((x10.len : Nat) : Int) == 86) (
        condK (x17 == 0) (
          bindO (ldZ [.int .i64, .int .i64, .int .i64, .int .i64, .int .i64] h10 (⟨b1, 0, (some 0)⟩ : Addr)) fun ((x20, x21, x22, x23, x24) : Int × Int × Int × Int × Int) =>
          bindO (ldZ [.int .i64, .int .i64, .int .i64, .int .i64, .int .i64] h10 (⟨b, 0, (some 0)⟩ : Addr)) fun ((x25, x26, x27, x28, x29) : Int × Int × Int × Int × Int) =>
          letO (((x20 == x25) && ((x21 == x26) && ((x22 == x27) && ((x23 == x28) && ((x24 == x29) && true)))))) fun (x30 : Bool) =>
          condK x30 (
            some ((((x16.len : Nat) : Int) == 80), h10)) (
            some (false, h10))) (
          some (false, h10))) (
        some (false, h10))) (
      some (false, h10))) (
    some (false, h10))
noncomputable def law18_known : H → Option ((Bool) × H) := P.law18_known head_Of head_Lay head_Read
noncomputable def ann_34 : Ann := ⟨fun _ => none, fun _ => none, fun _ => none⟩
noncomputable def E_34 : Ent := ⟨34, [], [⟨false, [.bool]⟩], fun (x : Unit) h => law18_known h⟩
theorem eq_34 (head_Of : Int → Int → Int → H → Option (((Int × Int × Int × Int × Int)) × H)) (head_Lay : (Int × Int × Int × Int × Int) → Sl → H → Option ((Sl) × H)) (head_Read : Sl → H → Option ((((Int × Int × Int × Int × Int)) × Sl × Int) × H)) : (fun (x : PT E_34.ps) (h : H) => runFK Go.Proofs.Ythiccnmplgdheaa.Tab.D (lstK [⟨31, [⟨false, [.int .i64]⟩, ⟨false, [.int .i64]⟩, ⟨false, [.int .i64]⟩], [⟨true, [.int .i64, .int .i64, .int .i64, .int .i64, .int .i64]⟩], fun (x : Int × Int × Int) h => head_Of x.1 x.2.1 x.2.2 h⟩, ⟨35, [⟨true, [.int .i64, .int .i64, .int .i64, .int .i64, .int .i64]⟩, ⟨false, [.sl]⟩], [⟨false, [.sl]⟩], fun (x : ((Int × Int × Int × Int × Int)) × Sl) h => head_Lay x.1 x.2 h⟩, ⟨36, [⟨false, [.sl]⟩], [⟨true, [.int .i64, .int .i64, .int .i64, .int .i64, .int .i64]⟩, ⟨false, [.sl]⟩, ⟨false, [.int .i64]⟩], fun (x : Sl) h => head_Read x h⟩]) ann_34 Try.f34 (Try.f34.body.getD .skip) E_34.ys (encP E_34.ps x) h) = (fun (x : Unit) h => P.law18_known head_Of head_Lay head_Read  h) := by kernel_rfl
theorem ok_34 : E_34.ok Go.Proofs.Ythiccnmplgdheaa.Tab.D := fun x h y h' e => runFK_ok (lstK_ok [E_31, E_35, E_36] (List.forall_mem_cons.2 ⟨ok_31, List.forall_mem_cons.2 ⟨ok_35, List.forall_mem_cons.2 ⟨ok_36, fun E h => nomatch h⟩⟩⟩)) (A := ann_34) (by kernel_rfl) (show Go.Proofs.Ythiccnmplgdheaa.Tab.D.fn.get 34 = some Try.f34 by kernel_rfl) (show Try.f34.body = some (Try.f34.body.getD .skip) by kernel_rfl) ((congrFun (congrFun (eq_34 head_Of head_Lay head_Read) x) h).trans e)
/-! head_Short -/
noncomputable def P.head_Short (head_Right : (Int × Int × Int × Int × Int) → H → Option ((Bool) × H)) (varint_Put : Sl → Sl → H → Option ((Sl) × H)) (h0 : Int × Int × Int × Int × Int) (h : H) : Option (Sl × H) :=
  newO (row 46 [(.int .i64 h0.1), (.int .i64 h0.2.1), (.int .i64 h0.2.2.1), (.int .i64 h0.2.2.2.1), (.int .i64 h0.2.2.2.2)]) h fun (b : Nat) (h1 : H) =>
  bindO (ldZ [.int .i64, .int .i64, .int .i64, .int .i64, .int .i64] h1 (⟨b, 0, (some 0)⟩ : Addr)) fun ((x0, x1, x2, x3, x4) : Int × Int × Int × Int × Int) =>
  bind2 (head_Right (x0, x1, x2, x3, x4) h1) fun (x5 : Bool) (h2 : H) =>
  condK (!x5) (
    some ((⟨none, 0, 0⟩ : Sl), h2)) (
    bindO (ldI .i64 h2 (add (⟨b, 0, (some 0)⟩ : Addr) 0)) fun (x6 : Int) =>
    bindO (ldI .i64 h2 (add (⟨b, 0, (some 0)⟩ : Addr) 1)) fun (x7 : Int) =>
    bindO (ldI .i64 h2 (add (⟨b, 0, (some 0)⟩ : Addr) 4)) fun (x8 : Int) =>
    newO (row 3 [(.int .i64 x6), (.int .i64 x7), (.int .i64 x8)]) h2 fun (b1 : Nat) (h3 : H) =>
    bind2 (varint_Put (⟨none, 0, 0⟩ : Sl) (⟨(some (⟨b1, 0, (some 0)⟩ : Addr)), 3, 3⟩ : Sl) h3) fun (x9 : Sl) (h4 : H) =>
    some (x9, h4))
noncomputable def head_Short : (Int × Int × Int × Int × Int) → H → Option ((Sl) × H) := P.head_Short head_Right varint_Put
noncomputable def ann_37 : Ann := ⟨fun _ => none, fun _ => none, fun _ => none⟩
noncomputable def E_37 : Ent := ⟨37, [⟨true, [.int .i64, .int .i64, .int .i64, .int .i64, .int .i64]⟩], [⟨false, [.sl]⟩], fun (x : (Int × Int × Int × Int × Int)) h => head_Short x h⟩
theorem eq_37 (head_Right : (Int × Int × Int × Int × Int) → H → Option ((Bool) × H)) (varint_Put : Sl → Sl → H → Option ((Sl) × H)) : (fun (x : PT E_37.ps) (h : H) => runFK Go.Proofs.Ythiccnmplgdheaa.Tab.D (lstK [⟨39, [⟨true, [.int .i64, .int .i64, .int .i64, .int .i64, .int .i64]⟩], [⟨false, [.bool]⟩], fun (x : (Int × Int × Int × Int × Int)) h => head_Right x h⟩, ⟨100, [⟨false, [.sl]⟩, ⟨false, [.sl]⟩], [⟨false, [.sl]⟩], fun (x : Sl × Sl) h => varint_Put x.1 x.2 h⟩]) ann_37 Try.f37 (Try.f37.body.getD .skip) E_37.ys (encP E_37.ps x) h) = (fun (x : (Int × Int × Int × Int × Int)) h => P.head_Short head_Right varint_Put x h) := by kernel_rfl
theorem ok_37 : E_37.ok Go.Proofs.Ythiccnmplgdheaa.Tab.D := fun x h y h' e => runFK_ok (lstK_ok [E_39, E_100] (List.forall_mem_cons.2 ⟨ok_39, List.forall_mem_cons.2 ⟨ok_100, fun E h => nomatch h⟩⟩)) (A := ann_37) (by kernel_rfl) (show Go.Proofs.Ythiccnmplgdheaa.Tab.D.fn.get 37 = some Try.f37 by kernel_rfl) (show Try.f37.body = some (Try.f37.body.getD .skip) by kernel_rfl) ((congrFun (congrFun (eq_37 head_Right varint_Put) x) h).trans e)
/-! head_ReadShort -/
noncomputable def P.head_ReadShort (varint_Takes : Sl → Int → H → Option ((Sl × Sl × Int) × H)) (head_Of : Int → Int → Int → H → Option (((Int × Int × Int × Int × Int)) × H)) (b : Sl) (h : H) : Option (((Int × Int × Int × Int × Int) × Int × Int) × H) :=
  newO (row 46 [(.int .i64 0), (.int .i64 0), (.int .i64 0), (.int .i64 0), (.int .i64 0)]) h fun (b1 : Nat) (h0 : H) =>
  bind2 (varint_Takes b 3 h0) fun ((x0, x1, x2) : Sl × Sl × Int) (h1 : H) =>
  condK (x2 != 0) (
    bindO (stZ [.int .i64, .int .i64, .int .i64, .int .i64, .int .i64] h1 (⟨b1, 0, (some 0)⟩ : Addr) ((0, 0, 0, 0, 0) : Int × Int × Int × Int × Int)) fun (h2 : H) =>
    bindO (ldZ [.int .i64, .int .i64, .int .i64, .int .i64, .int .i64] h2 (⟨b1, 0, (some 0)⟩ : Addr)) fun ((x3, x4, x5, x6, x7) : Int × Int × Int × Int × Int) =>
    some (((x3, (x4, (x5, (x6, x7)))), (0, x2)), h2)) (
    bindO (ixT 1 x0 0) fun (a0 : Addr) =>
    bindO (ldI .i64 h1 a0) fun (x8 : Int) =>
    bindO (ixT 1 x0 1) fun (a1 : Addr) =>
    bindO (ldI .i64 h1 a1) fun (x9 : Int) =>
    bindO (ixT 1 x0 2) fun (a2 : Addr) =>
    bindO (ldI .i64 h1 a2) fun (x10 : Int) =>
    bind2 (head_Of x8 x9 x10 h1) fun ((x11, x12, x13, x14, x15) : Int × Int × Int × Int × Int) (h3 : H) =>
    bindO (stZ [.int .i64, .int .i64, .int .i64, .int .i64, .int .i64] h3 (⟨b1, 0, (some 0)⟩ : Addr) ((x11, x12, x13, x14, x15) : Int × Int × Int × Int × Int)) fun (h4 : H) =>
    bindO (ldZ [.int .i64, .int .i64, .int .i64, .int .i64, .int .i64] h4 (⟨b1, 0, (some 0)⟩ : Addr)) fun ((x16, x17, x18, x19, x20) : Int × Int × Int × Int × Int) =>
    letO (((x16 == 0) && ((x17 == 0) && ((x18 == 0) && ((x19 == 0) && ((x20 == 0) && true)))))) fun (x21 : Bool) =>
    condK x21 (
      bindO (stZ [.int .i64, .int .i64, .int .i64, .int .i64, .int .i64] h4 (⟨b1, 0, (some 0)⟩ : Addr) ((0, 0, 0, 0, 0) : Int × Int × Int × Int × Int)) fun (h5 : H) =>
      bindO (ldZ [.int .i64, .int .i64, .int .i64, .int .i64, .int .i64] h5 (⟨b1, 0, (some 0)⟩ : Addr)) fun ((x22, x23, x24, x25, x26) : Int × Int × Int × Int × Int) =>
      some (((x22, (x23, (x24, (x25, x26)))), (0, 2)), h5)) (
      bindO (ldZ [.int .i64, .int .i64, .int .i64, .int .i64, .int .i64] h4 (⟨b1, 0, (some 0)⟩ : Addr)) fun ((x27, x28, x29, x30, x31) : Int × Int × Int × Int × Int) =>
      bindO (stZ [.int .i64, .int .i64, .int .i64, .int .i64, .int .i64] h4 (⟨b1, 0, (some 0)⟩ : Addr) ((x27, x28, x29, x30, x31) : Int × Int × Int × Int × Int)) fun (h6 : H) =>
      bindO (ldZ [.int .i64, .int .i64, .int .i64, .int .i64, .int .i64] h6 (⟨b1, 0, (some 0)⟩ : Addr)) fun ((x32, x33, x34, x35, x36) : Int × Int × Int × Int × Int) =>
      some (((x32, (x33, (x34, (x35, x36)))), ((IntKind.wrap .i64 (((b.len : Nat) : Int) - ((x1.len : Nat) : Int))), 0)), h6)))
noncomputable def head_ReadShort : Sl → H → Option ((((Int × Int × Int × Int × Int)) × Int × Int) × H) := P.head_ReadShort varint_Takes head_Of
noncomputable def ann_38 : Ann := ⟨fun _ => none, fun _ => none, fun _ => none⟩
noncomputable def E_38 : Ent := ⟨38, [⟨false, [.sl]⟩], [⟨true, [.int .i64, .int .i64, .int .i64, .int .i64, .int .i64]⟩, ⟨false, [.int .i64]⟩, ⟨false, [.int .i64]⟩], fun (x : Sl) h => head_ReadShort x h⟩
theorem eq_38 (varint_Takes : Sl → Int → H → Option ((Sl × Sl × Int) × H)) (head_Of : Int → Int → Int → H → Option (((Int × Int × Int × Int × Int)) × H)) : (fun (x : PT E_38.ps) (h : H) => runFK Go.Proofs.Ythiccnmplgdheaa.Tab.D (lstK [⟨101, [⟨false, [.sl]⟩, ⟨false, [.int .i64]⟩], [⟨false, [.sl]⟩, ⟨false, [.sl]⟩, ⟨false, [.int .i64]⟩], fun (x : Sl × Int) h => varint_Takes x.1 x.2 h⟩, ⟨31, [⟨false, [.int .i64]⟩, ⟨false, [.int .i64]⟩, ⟨false, [.int .i64]⟩], [⟨true, [.int .i64, .int .i64, .int .i64, .int .i64, .int .i64]⟩], fun (x : Int × Int × Int) h => head_Of x.1 x.2.1 x.2.2 h⟩]) ann_38 Try.f38 (Try.f38.body.getD .skip) E_38.ys (encP E_38.ps x) h) = (fun (x : Sl) h => P.head_ReadShort varint_Takes head_Of x h) := by kernel_rfl
theorem ok_38 : E_38.ok Go.Proofs.Ythiccnmplgdheaa.Tab.D := fun x h y h' e => runFK_ok (lstK_ok [E_101, E_31] (List.forall_mem_cons.2 ⟨ok_101, List.forall_mem_cons.2 ⟨ok_31, fun E h => nomatch h⟩⟩)) (A := ann_38) (by kernel_rfl) (show Go.Proofs.Ythiccnmplgdheaa.Tab.D.fn.get 38 = some Try.f38 by kernel_rfl) (show Try.f38.body = some (Try.f38.body.getD .skip) by kernel_rfl) ((congrFun (congrFun (eq_38 varint_Takes head_Of) x) h).trans e)
/-! hand_Num -/
noncomputable def P.hand_Num (hand_Pick : Int → Int → H → Option ((Int) × H)) (n : Int) (h : H) : Option (Int × H) :=
  bind2 (hand_Pick (IntKind.wrap .i64 (Int.tdiv n 9)) 3 h) fun (x0 : Int) (h0 : H) =>
  bind2 (hand_Pick n 9 h0) fun (x1 : Int) (h1 : H) =>
  condK (x1 == 0) (
    some ((IntKind.wrap .i64 (64 + (IntKind.wrap .i64 (x0 - 1)))), h1)) (
    condK (x1 == 1) (
      some ((IntKind.wrap .i64 (16384 + (IntKind.wrap .i64 (x0 - 1)))), h1)) (
      condK (x1 == 2) (
        some ((IntKind.wrap .i64 (1073741824 + (IntKind.wrap .i64 (x0 - 1)))), h1)) (
        condK (x1 == 3) (
          letO ((IntKind.wrap .i64 (4611686018427387903 + (IntKind.wrap .i64 (x0 - 1))))) fun (x2 : Int) =>
          some (x2, h1)) (
          condK (x1 == 4) (
            some (n, h1)) (
            bind2 (hand_Pick (IntKind.wrap .i64 (Int.tdiv n 9)) 500 h1) fun (x3 : Int) (h2 : H) =>
            some (x3, h2))))))
noncomputable def hand_Num : Int → H → Option ((Int) × H) := P.hand_Num hand_Pick
noncomputable def ann_45 : Ann := ⟨fun _ => none, fun _ => none, fun _ => none⟩
noncomputable def E_45 : Ent := ⟨45, [⟨false, [.int .i64]⟩], [⟨false, [.int .i64]⟩], fun (x : Int) h => hand_Num x h⟩
theorem eq_45 (hand_Pick : Int → Int → H → Option ((Int) × H)) : (fun (x : PT E_45.ps) (h : H) => runFK Go.Proofs.Ythiccnmplgdheaa.Tab.D (lstK [⟨24, [⟨false, [.int .i64]⟩, ⟨false, [.int .i64]⟩], [⟨false, [.int .i64]⟩], fun (x : Int × Int) h => hand_Pick x.1 x.2 h⟩]) ann_45 Try.f45 (Try.f45.body.getD .skip) E_45.ys (encP E_45.ps x) h) = (fun (x : Int) h => P.hand_Num hand_Pick x h) := by kernel_rfl
theorem ok_45 : E_45.ok Go.Proofs.Ythiccnmplgdheaa.Tab.D := fun x h y h' e => runFK_ok (lstK_ok [E_24] (List.forall_mem_cons.2 ⟨ok_24, fun E h => nomatch h⟩)) (A := ann_45) (by kernel_rfl) (show Go.Proofs.Ythiccnmplgdheaa.Tab.D.fn.get 45 = some Try.f45 by kernel_rfl) (show Try.f45.body = some (Try.f45.body.getD .skip) by kernel_rfl) ((congrFun (congrFun (eq_45 hand_Pick) x) h).trans e)
/-! ref1_May -/
noncomputable def ref1_May (n : Int) (h : H) : Option (Bool × H) :=
  condK (decide ((n ≥ 0))) (
    some ((decide ((n ≤ 4611686018427387903))), h)) (
    some (false, h))
noncomputable def ann_103 : Ann := ⟨fun _ => none, fun _ => none, fun _ => none⟩
noncomputable def E_103 : Ent := ⟨103, [⟨false, [.int .i64]⟩], [⟨false, [.bool]⟩], fun (x : Int) h => ref1_May x h⟩
theorem eq_103  : (fun (x : PT E_103.ps) (h : H) => runFK Go.Proofs.Ythiccnmplgdheaa.Tab.D (lstK []) ann_103 Try.f103 (Try.f103.body.getD .skip) E_103.ys (encP E_103.ps x) h) = (fun (x : Int) h => ref1_May x h) := by kernel_rfl
theorem ok_103 : E_103.ok Go.Proofs.Ythiccnmplgdheaa.Tab.D := fun x h y h' e => runFK_ok (lstK_ok [] (fun E h => nomatch h)) (A := ann_103) (by kernel_rfl) (show Go.Proofs.Ythiccnmplgdheaa.Tab.D.fn.get 103 = some Try.f103 by kernel_rfl) (show Try.f103.body = some (Try.f103.body.getD .skip) by kernel_rfl) ((congrFun (congrFun (eq_103 ) x) h).trans e)
/-! hand_May -/
noncomputable def P.hand_May (hand_Num : Int → H → Option ((Int) × H)) (ref1_May : Int → H → Option ((Bool) × H)) (hand_Pick : Int → Int → H → Option ((Int) × H)) (n : Int) (h : H) : Option (Int × H) :=
  bind2 (hand_Num n h) fun (x0 : Int) (h0 : H) =>
  bind2 (ref1_May x0 h0) fun (x1 : Bool) (h1 : H) =>
  condK (!x1) (
    bind2 (hand_Pick n 1048576 h1) fun (x2 : Int) (h2 : H) =>
    some (x2, h2)) (
    some (x0, h1))
noncomputable def hand_May : Int → H → Option ((Int) × H) := P.hand_May hand_Num ref1_May hand_Pick
noncomputable def ann_48 : Ann := ⟨fun _ => none, fun _ => none, fun _ => none⟩
noncomputable def E_48 : Ent := ⟨48, [⟨false, [.int .i64]⟩], [⟨false, [.int .i64]⟩], fun (x : Int) h => hand_May x h⟩
theorem eq_48 (hand_Num : Int → H → Option ((Int) × H)) (ref1_May : Int → H → Option ((Bool) × H)) (hand_Pick : Int → Int → H → Option ((Int) × H)) : (fun (x : PT E_48.ps) (h : H) => runFK Go.Proofs.Ythiccnmplgdheaa.Tab.D (lstK [⟨45, [⟨false, [.int .i64]⟩], [⟨false, [.int .i64]⟩], fun (x : Int) h => hand_Num x h⟩, ⟨103, [⟨false, [.int .i64]⟩], [⟨false, [.bool]⟩], fun (x : Int) h => ref1_May x h⟩, ⟨24, [⟨false, [.int .i64]⟩, ⟨false, [.int .i64]⟩], [⟨false, [.int .i64]⟩], fun (x : Int × Int) h => hand_Pick x.1 x.2 h⟩]) ann_48 Try.f48 (Try.f48.body.getD .skip) E_48.ys (encP E_48.ps x) h) = (fun (x : Int) h => P.hand_May hand_Num ref1_May hand_Pick x h) := by kernel_rfl
theorem ok_48 : E_48.ok Go.Proofs.Ythiccnmplgdheaa.Tab.D := fun x h y h' e => runFK_ok (lstK_ok [E_45, E_103, E_24] (List.forall_mem_cons.2 ⟨ok_45, List.forall_mem_cons.2 ⟨ok_103, List.forall_mem_cons.2 ⟨ok_24, fun E h => nomatch h⟩⟩⟩)) (A := ann_48) (by kernel_rfl) (show Go.Proofs.Ythiccnmplgdheaa.Tab.D.fn.get 48 = some Try.f48 by kernel_rfl) (show Try.f48.body = some (Try.f48.body.getD .skip) by kernel_rfl) ((congrFun (congrFun (eq_48 hand_Num ref1_May hand_Pick) x) h).trans e)
/-! hand_Few -/
noncomputable def hand_Few (b : Sl) (n : Int) (h : H) : Option (Sl × H) :=
  joinO (
    condK (decide ((((b.len : Nat) : Int) > n))) (
      bindO (slT 1 h b none (some n) none) fun (x0 : Sl) =>
      some (Sum.inl (x0, h))) (
      some (Sum.inl (b, h)))) fun ((b1, h0) : (Sl × H)) =>
  newO (row 5 []) h0 fun (b2 : Nat) (h1 : H) =>
  bind2 (appT 5 1 1 h1 (⟨(some (⟨b2, 0, (some 0)⟩ : Addr)), 0, 0⟩ : Sl) b1) fun (x0 : Sl) (h2 : H) =>
  some (x0, h2)
noncomputable def ann_49 : Ann := ⟨fun i => bif i.beq 3 then some ⟨[0], [⟨false, [.sl]⟩]⟩ else none, fun _ => none, fun _ => none⟩
noncomputable def E_49 : Ent := ⟨49, [⟨false, [.sl]⟩, ⟨false, [.int .i64]⟩], [⟨false, [.sl]⟩], fun (x : Sl × Int) h => hand_Few x.1 x.2 h⟩
theorem eq_49  : (fun (x : PT E_49.ps) (h : H) => runFK Go.Proofs.Ythiccnmplgdheaa.Tab.D (lstK []) ann_49 Try.f49 (Try.f49.body.getD .skip) E_49.ys (encP E_49.ps x) h) = (fun (x : Sl × Int) h => hand_Few x.1 x.2 h) := by kernel_rfl
theorem ok_49 : E_49.ok Go.Proofs.Ythiccnmplgdheaa.Tab.D := fun x h y h' e => runFK_ok (lstK_ok [] (fun E h => nomatch h)) (A := ann_49) (by kernel_rfl) (show Go.Proofs.Ythiccnmplgdheaa.Tab.D.fn.get 49 = some Try.f49 by kernel_rfl) (show Try.f49.body = some (Try.f49.body.getD .skip) by kernel_rfl) ((congrFun (congrFun (eq_49 ) x) h).trans e)
/-! law18_HeadWhole -/
noncomputable def P.law18_HeadWhole_l1 (hand_Pick : Int → Int → H → Option ((Int) × H)) (hand_May : Int → H → Option ((Int) × H)) (head_Of : Int → Int → Int → H → Option (((Int × Int × Int × Int × Int)) × H)) (hand_Text : Sl → Int → H → Option ((Sl) × H)) (law18_known : H → Option ((Bool) × H)) (head_Right : (Int × Int × Int × Int × Int) → H → Option ((Bool) × H)) (head_Part : (Int × Int × Int × Int × Int) → Sl → H → Option ((Sl) × H)) (head_Lay : (Int × Int × Int × Int × Int) → Sl → H → Option ((Sl) × H)) (head_Read : Sl → H → Option ((((Int × Int × Int × Int × Int)) × Sl × Int) × H)) (head_Short : (Int × Int × Int × Int × Int) → H → Option ((Sl) × H)) (hand_Few : Sl → Int → H → Option ((Sl) × H)) (head_ReadShort : Sl → H → Option ((((Int × Int × Int × Int × Int)) × Int × Int) × H)) : ((Sl × ((Option Addr) × (Sl × (Sl × Int)))) × H) → Option (((Sl × ((Option Addr) × (Sl × (Sl × Int)))) × H) ⊕ (((Sl × ((Option Addr) × (Sl × Sl))) × H) ⊕ (Bool × H))) := fun ((behind, (h0, (b, (all, k)))), h1) =>
  ptrK h0 fun (a0 : Addr) =>
  bindO (ldI .i64 h1 (add a0 2)) fun (x0 : Int) =>
  condK (decide ((k < x0))) (
    ptrK h0 fun (a1 : Addr) =>
    bindO (st1 h1 (add a1 3) (.int .i64 k)) fun (h2 : H) =>
    ptrK h0 fun (a2 : Addr) =>
    bindO (ldZ [.int .i64, .int .i64, .int .i64, .int .i64, .int .i64] h2 a2) fun ((x1, x2, x3, x4, x5) : Int × Int × Int × Int × Int) =>
    bind2 (head_Part (x1, x2, x3, x4, x5) b h2) fun (x6 : Sl) (h3 : H) =>
    ptrK h0 fun (a3 : Addr) =>
    bindO (ldZ [.int .i64, .int .i64, .int .i64, .int .i64, .int .i64] h3 a3) fun ((x7, x8, x9, x10, x11) : Int × Int × Int × Int × Int) =>
    newO (row 30 [(.slice x6.base x6.len x6.cap)]) h3 fun (b1 : Nat) (h4 : H) =>
    bind2 (head_Lay (x7, x8, x9, x10, x11) (⟨(some (⟨b1, 0, (some 0)⟩ : Addr)), 1, 1⟩ : Sl) h4) fun (x12 : Sl) (h5 : H) =>
    bind2 (head_Read x12 h5) fun (((x13, x14, x15, x16, x17), x18, x19) : (Int × Int × Int × Int × Int) × Sl × Int) (h6 : H) =>
    newO (row 46 [(.int .i64 0), (.int .i64 0), (.int .i64 0), (.int .i64 0), (.int .i64 0)]) h6 fun (b2 : Nat) (h7 : H) =>
    bindO (stZ [.int .i64, .int .i64, .int .i64, .int .i64, .int .i64] h7 (⟨b2, 0, (some 0)⟩ : Addr) ((x13, x14, x15, x16, x17) : Int × Int × Int × Int × Int)) fun (h8 : H) =>
    joinO (
      condK (x19 != 0) (
        some (Sum.inl ((behind, (h0, (b, (all, (k, (x6, true)))))), h8))) (
        bindO (ldZ [.int .i64, .int .i64, .int .i64, .int .i64, .int .i64] h8 (⟨b2, 0, (some 0)⟩ : Addr)) fun ((x20, x21, x22, x23, x24) : Int × Int × Int × Int × Int) =>
        ptrK h0 fun (a4 : Addr) =>
        bindO (ldZ [.int .i64, .int .i64, .int .i64, .int .i64, .int .i64] h8 a4) fun ((x25, x26, x27, x28, x29) : Int × Int × Int × Int × Int) =>
        letO ((!((x20 == x25) && ((x21 == x26) && ((x22 == x27) && ((x23 == x28) && ((x24 == x29) && true))))))) fun (x30 : Bool) =>
        condK x30 (
          some (Sum.inl ((behind, (h0, (b, (all, (k, (x6, true)))))), h8))) (
          bind2 (strT h8 x18) fun (x31 : ByteArray) (h9 : H) =>
          bind2 (strT h9 x6) fun (x32 : ByteArray) (h10 : H) =>
          condK (!(x31.toList == x32.toList)) (
            some (Sum.inl ((behind, (h0, (b, (all, (k, (x6, true)))))), h10))) (
            condK (((x6.len : Nat) : Int) == 0) (
              some (Sum.inl ((behind, (h0, (b, (all, (k, (x6, true)))))), h10))) (
              condK (decide ((((x6.len : Nat) : Int) > 80))) (
                some (Sum.inl ((behind, (h0, (b, (all, (k, (x6, true)))))), h10))) (
                ptrK h0 fun (a5 : Addr) =>
                bindO (ldI .i64 h10 (add a5 2)) fun (x33 : Int) =>
                condK (decide (((IntKind.wrap .i64 (k + 1)) < x33))) (
                  condK (((x6.len : Nat) : Int) != 80) (
                    some (Sum.inl ((behind, (h0, (b, (all, (k, (x6, true)))))), h10))) (
                    some (Sum.inl ((behind, (h0, (b, (all, (k, (x6, (decide ((((x12.len : Nat) : Int) > 116))))))))), h10)))) (
                  some (Sum.inl ((behind, (h0, (b, (all, (k, (x6, (decide ((((x12.len : Nat) : Int) > 116))))))))), h10))))))))) fun (((behind1, (h9, (b3, (all1, (k1, (p, x20)))))), h10) : ((Sl × ((Option Addr) × (Sl × (Sl × (Int × (Sl × Bool)))))) × H)) =>
    condK x20 (
      some (Sum.inr (Sum.inr (false, h10)))) (
      bind2 (appT 5 1 1 h10 all1 p) fun (x21 : Sl) (h11 : H) =>
      some (Sum.inl ((behind1, (h9, (b3, (x21, (IntKind.wrap .i64 (k1 + 1)))))), h11)))) (
    some (Sum.inr (Sum.inl ((behind, (h0, (b, all))), h1))))

noncomputable def P.law18_HeadWhole (hand_Pick : Int → Int → H → Option ((Int) × H)) (hand_May : Int → H → Option ((Int) × H)) (head_Of : Int → Int → Int → H → Option (((Int × Int × Int × Int × Int)) × H)) (hand_Text : Sl → Int → H → Option ((Sl) × H)) (law18_known : H → Option ((Bool) × H)) (head_Right : (Int × Int × Int × Int × Int) → H → Option ((Bool) × H)) (head_Part : (Int × Int × Int × Int × Int) → Sl → H → Option ((Sl) × H)) (head_Lay : (Int × Int × Int × Int × Int) → Sl → H → Option ((Sl) × H)) (head_Read : Sl → H → Option ((((Int × Int × Int × Int × Int)) × Sl × Int) × H)) (head_Short : (Int × Int × Int × Int × Int) → H → Option ((Sl) × H)) (hand_Few : Sl → Int → H → Option ((Sl) × H)) (head_ReadShort : Sl → H → Option ((((Int × Int × Int × Int × Int)) × Int × Int) × H)) (id : Int) (deadline : Int) (size : Int) (payload : Sl) (behind : Sl) (h : H) : Option (Bool × H) :=
  bind2 (hand_Pick size 600 h) fun (x0 : Int) (h0 : H) =>
  bind2 (hand_Pick id 40 h0) fun (x1 : Int) (h1 : H) =>
  bind2 (hand_May deadline h1) fun (x2 : Int) (h2 : H) =>
  bind2 (head_Of x1 x2 (IntKind.wrap .i64 (1 + x0)) h2) fun ((x3, x4, x5, x6, x7) : Int × Int × Int × Int × Int) (h3 : H) =>
  newO (row 46 [(.int .i64 0), (.int .i64 0), (.int .i64 0), (.int .i64 0), (.int .i64 0)]) h3 fun (b : Nat) (h4 : H) =>
  bindO (stZ [.int .i64, .int .i64, .int .i64, .int .i64, .int .i64] h4 (⟨b, 0, (some 0)⟩ : Addr) ((x3, x4, x5, x6, x7) : Int × Int × Int × Int × Int)) fun (h5 : H) =>
  bind2 (hand_Text payload (IntKind.wrap .i64 (1 + x0)) h5) fun (x8 : Sl) (h6 : H) =>
  joinO (
    bind2 (law18_known h6) fun (x9 : Bool) (h7 : H) =>
    condK (!x9) (
      some (Sum.inl ((behind, ((some (⟨b, 0, (some 0)⟩ : Addr)), (x8, true))), h7))) (
      bindO (ldZ [.int .i64, .int .i64, .int .i64, .int .i64, .int .i64] h7 (⟨b, 0, (some 0)⟩ : Addr)) fun ((x10, x11, x12, x13, x14) : Int × Int × Int × Int × Int) =>
      bind2 (head_Right (x10, x11, x12, x13, x14) h7) fun (x15 : Bool) (h8 : H) =>
      condK (!x15) (
        some (Sum.inl ((behind, ((some (⟨b, 0, (some 0)⟩ : Addr)), (x8, true))), h8))) (
        bindO (ldI .i64 h8 (add (⟨b, 0, (some 0)⟩ : Addr) 2)) fun (x16 : Int) =>
        condK (decide ((x16 < 1))) (
          some (Sum.inl ((behind, ((some (⟨b, 0, (some 0)⟩ : Addr)), (x8, true))), h8))) (
          bindO (ldI .i64 h8 (add (⟨b, 0, (some 0)⟩ : Addr) 2)) fun (x17 : Int) =>
          some (Sum.inl ((behind, ((some (⟨b, 0, (some 0)⟩ : Addr)), (x8, (decide ((x17 > 8)))))), h8)))))) fun (((behind1, (h7, (b1, x9))), h8) : ((Sl × ((Option Addr) × (Sl × Bool))) × H)) =>
  condK x9 (
    some (false, h8)) (
    joinO (
      loopO (P.law18_HeadWhole_l1 hand_Pick hand_May head_Of hand_Text law18_known head_Right head_Part head_Lay head_Read head_Short hand_Few head_ReadShort) ((behind1, (h7, (b1, ((⟨none, 0, 0⟩ : Sl), 0)))), h8)) fun (((behind2, (h9, (b2, all))), h10) : ((Sl × ((Option Addr) × (Sl × Sl))) × H)) =>
    ptrK h9 fun (a0 : Addr) =>
    bindO (st1 h10 (add a0 3) (.int .i64 0)) fun (h11 : H) =>
    ptrK h9 fun (a1 : Addr) =>
    bindO (ldZ [.int .i64, .int .i64, .int .i64, .int .i64, .int .i64] h11 a1) fun ((x10, x11, x12, x13, x14) : Int × Int × Int × Int × Int) =>
    bind2 (head_Short (x10, x11, x12, x13, x14) h11) fun (x15 : Sl) (h12 : H) =>
    bind2 (hand_Few x15 ((x15.len : Nat) : Int) h12) fun (x16 : Sl) (h13 : H) =>
    bind2 (appT 5 1 1 h13 x16 behind2) fun (x17 : Sl) (h14 : H) =>
    bind2 (head_ReadShort x17 h14) fun (((x18, x19, x20, x21, x22), x23, x24) : (Int × Int × Int × Int × Int) × Int × Int) (h15 : H) =>
    newO (row 46 [(.int .i64 0), (.int .i64 0), (.int .i64 0), (.int .i64 0), (.int .i64 0)]) h15 fun (b3 : Nat) (h16 : H) =>
    bindO (stZ [.int .i64, .int .i64, .int .i64, .int .i64, .int .i64] h16 (⟨b3, 0, (some 0)⟩ : Addr) ((x18, x19, x20, x21, x22) : Int × Int × Int × Int × Int)) fun (h17 : H) =>
    bind2 (strT h17 all) fun (x25 : ByteArray) (h18 : H) =>
    bind2 (strT h18 b2) fun (x26 : ByteArray) (h19 : H) =>
    condK (x25.toList == x26.toList) (
      condK (x24 == 0) (
        bindO (ldZ [.int .i64, .int .i64, .int .i64, .int .i64, .int .i64] h19 (⟨b3, 0, (some 0)⟩ : Addr)) fun ((x27, x28, x29, x30, x31) : Int × Int × Int × Int × Int) =>
        ptrK h9 fun (a2 : Addr) =>
        bindO (ldZ [.int .i64, .int .i64, .int .i64, .int .i64, .int .i64] h19 a2) fun ((x32, x33, x34, x35, x36) : Int × Int × Int × Int × Int) =>
        letO (((x27 == x32) && ((x28 == x33) && ((x29 == x34) && ((x30 == x35) && ((x31 == x36) && true)))))) fun (x37 : Bool) =>
        condK x37 (
          some ((x23 == ((x15.len : Nat) : Int)), h19)) (
          some (false, h19))) (
        some (false, h19))) (
      some (false, h19)))
noncomputable abbrev law18_HeadWhole_l1 := P.law18_HeadWhole_l1 hand_Pick hand_May head_Of hand_Text law18_known head_Right head_Part head_Lay head_Read head_Short hand_Few head_ReadShort
noncomputable def law18_HeadWhole : Int → Int → Int → Sl → Sl → H → Option ((Bool) × H) := P.law18_HeadWhole hand_Pick hand_May head_Of hand_Text law18_known head_Right head_Part head_Lay head_Read head_Short hand_Few head_ReadShort
noncomputable def ann_8 : Ann := ⟨fun i => bif i.beq 17 then some ⟨[4, 12, 13, 14], [⟨false, [.sl]⟩, ⟨false, [.ptr]⟩, ⟨false, [.sl]⟩, ⟨false, [.sl]⟩]⟩ else none, fun i => bif i.beq 8 then some ⟨[4, 12, 13, 14, 15], [⟨false, [.sl]⟩, ⟨false, [.ptr]⟩, ⟨false, [.sl]⟩, ⟨false, [.sl]⟩, ⟨false, [.int .i64]⟩]⟩ else none, fun i => bif i.beq 4 then some ⟨[4, 12, 13, 53], [⟨false, [.sl]⟩, ⟨false, [.ptr]⟩, ⟨false, [.sl]⟩, ⟨false, [.bool]⟩]⟩ else bif i.beq 14 then some ⟨[4, 12, 13, 14, 15, 16, 115], [⟨false, [.sl]⟩, ⟨false, [.ptr]⟩, ⟨false, [.sl]⟩, ⟨false, [.sl]⟩, ⟨false, [.int .i64]⟩, ⟨false, [.sl]⟩, ⟨false, [.bool]⟩]⟩ else none⟩
noncomputable def E_8 : Ent := ⟨8, [⟨false, [.int .i64]⟩, ⟨false, [.int .i64]⟩, ⟨false, [.int .i64]⟩, ⟨false, [.sl]⟩, ⟨false, [.sl]⟩], [⟨false, [.bool]⟩], fun (x : Int × Int × Int × Sl × Sl) h => law18_HeadWhole x.1 x.2.1 x.2.2.1 x.2.2.2.1 x.2.2.2.2 h⟩
theorem eq_8 (hand_Pick : Int → Int → H → Option ((Int) × H)) (hand_May : Int → H → Option ((Int) × H)) (head_Of : Int → Int → Int → H → Option (((Int × Int × Int × Int × Int)) × H)) (hand_Text : Sl → Int → H → Option ((Sl) × H)) (law18_known : H → Option ((Bool) × H)) (head_Right : (Int × Int × Int × Int × Int) → H → Option ((Bool) × H)) (head_Part : (Int × Int × Int × Int × Int) → Sl → H → Option ((Sl) × H)) (head_Lay : (Int × Int × Int × Int × Int) → Sl → H → Option ((Sl) × H)) (head_Read : Sl → H → Option ((((Int × Int × Int × Int × Int)) × Sl × Int) × H)) (head_Short : (Int × Int × Int × Int × Int) → H → Option ((Sl) × H)) (hand_Few : Sl → Int → H → Option ((Sl) × H)) (head_ReadShort : Sl → H → Option ((((Int × Int × Int × Int × Int)) × Int × Int) × H)) : (fun (x : PT E_8.ps) (h : H) => runFK Go.Proofs.Ythiccnmplgdheaa.Tab.D (lstK [⟨24, [⟨false, [.int .i64]⟩, ⟨false, [.int .i64]⟩], [⟨false, [.int .i64]⟩], fun (x : Int × Int) h => hand_Pick x.1 x.2 h⟩, ⟨48, [⟨false, [.int .i64]⟩], [⟨false, [.int .i64]⟩], fun (x : Int) h => hand_May x h⟩, ⟨31, [⟨false, [.int .i64]⟩, ⟨false, [.int .i64]⟩, ⟨false, [.int .i64]⟩], [⟨true, [.int .i64, .int .i64, .int .i64, .int .i64, .int .i64]⟩], fun (x : Int × Int × Int) h => head_Of x.1 x.2.1 x.2.2 h⟩, ⟨33, [⟨false, [.sl]⟩, ⟨false, [.int .i64]⟩], [⟨false, [.sl]⟩], fun (x : Sl × Int) h => hand_Text x.1 x.2 h⟩, ⟨34, [], [⟨false, [.bool]⟩], fun (x : Unit) h => law18_known h⟩, ⟨39, [⟨true, [.int .i64, .int .i64, .int .i64, .int .i64, .int .i64]⟩], [⟨false, [.bool]⟩], fun (x : (Int × Int × Int × Int × Int)) h => head_Right x h⟩, ⟨32, [⟨true, [.int .i64, .int .i64, .int .i64, .int .i64, .int .i64]⟩, ⟨false, [.sl]⟩], [⟨false, [.sl]⟩], fun (x : ((Int × Int × Int × Int × Int)) × Sl) h => head_Part x.1 x.2 h⟩, ⟨35, [⟨true, [.int .i64, .int .i64, .int .i64, .int .i64, .int .i64]⟩, ⟨false, [.sl]⟩], [⟨false, [.sl]⟩], fun (x : ((Int × Int × Int × Int × Int)) × Sl) h => head_Lay x.1 x.2 h⟩, ⟨36, [⟨false, [.sl]⟩], [⟨true, [.int .i64, .int .i64, .int .i64, .int .i64, .int .i64]⟩, ⟨false, [.sl]⟩, ⟨false, [.int .i64]⟩], fun (x : Sl) h => head_Read x h⟩, ⟨37, [⟨true, [.int .i64, .int .i64, .int .i64, .int .i64, .int .i64]⟩], [⟨false, [.sl]⟩], fun (x : (Int × Int × Int × Int × Int)) h => head_Short x h⟩, ⟨49, [⟨false, [.sl]⟩, ⟨false, [.int .i64]⟩], [⟨false, [.sl]⟩], fun (x : Sl × Int) h => hand_Few x.1 x.2 h⟩, ⟨38, [⟨false, [.sl]⟩], [⟨true, [.int .i64, .int .i64, .int .i64, .int .i64, .int .i64]⟩, ⟨false, [.int .i64]⟩, ⟨false, [.int .i64]⟩], fun (x : Sl) h => head_ReadShort x h⟩]) ann_8 Try.f8 (Try.f8.body.getD .skip) E_8.ys (encP E_8.ps x) h) = (fun (x : Int × Int × Int × Sl × Sl) h => P.law18_HeadWhole hand_Pick hand_May head_Of hand_Text law18_known head_Right head_Part head_Lay head_Read head_Short hand_Few head_ReadShort x.1 x.2.1 x.2.2.1 x.2.2.2.1 x.2.2.2.2 h) := by kernel_rfl
theorem ok_8 : E_8.ok Go.Proofs.Ythiccnmplgdheaa.Tab.D := fun x h y h' e => runFK_ok (lstK_ok [E_24, E_48, E_31, E_33, E_34, E_39, E_32, E_35, E_36, E_37, E_49, E_38] (List.forall_mem_cons.2 ⟨ok_24, List.forall_mem_cons.2 ⟨ok_48, List.forall_mem_cons.2 ⟨ok_31, List.forall_mem_cons.2 ⟨ok_33, List.forall_mem_cons.2 ⟨ok_34, List.forall_mem_cons.2 ⟨ok_39, List.forall_mem_cons.2 ⟨ok_32, List.forall_mem_cons.2 ⟨ok_35, List.forall_mem_cons.2 ⟨ok_36, List.forall_mem_cons.2 ⟨ok_37, List.forall_mem_cons.2 ⟨ok_49, List.forall_mem_cons.2 ⟨ok_38, fun E h => nomatch h⟩⟩⟩⟩⟩⟩⟩⟩⟩⟩⟩⟩)) (A := ann_8) (by kernel_rfl) (show Go.Proofs.Ythiccnmplgdheaa.Tab.D.fn.get 8 = some Try.f8 by kernel_rfl) (show Try.f8.body = some (Try.f8.body.getD .skip) by kernel_rfl) ((congrFun (congrFun (eq_8 hand_Pick hand_May head_Of hand_Text law18_known head_Right head_Part head_Lay head_Read head_Short hand_Few head_ReadShort) x) h).trans e)
end Go.Proofs.Ythiccnmplgdheaa.T
