/- The typed texts of the program's functions, printed by a program of this session (wip/KPrint.lean) out of the machine's own definitions; each is the machine's own run, by the kernel's reduction. -/
import Derived.Test.YtaebjajbogedkaaAbsF
import Derived.Test.YtaebjajbogedkaaTab
import Derived.KernelRfl
set_option linter.unusedVariables false
set_option maxRecDepth 1000000
namespace Go.Proofs.Ytaebjajbogedkaa.T
open Go Go.Abs Go.Proofs
/-! send_New -/
noncomputable def send_New (id : Int) (h : H) : Option (Option Addr × H) :=
  newO (row 42 [(.int .i64 400), (.int .i64 0), (.int .i64 id), (.slice none 0 0), (.slice none 0 0), (.slice none 0 0), (.bool false), (.bool false), (.bool false), (.bool false), (.bool false), (.bool false), (.bool false), (.bool false), (.int .i64 0), (.int .i64 0)]) h fun (b : Nat) (h0 : H) =>
  some ((some (⟨b, 0, (some 0)⟩ : Addr)), h0)
noncomputable def ann_10 : Ann := ⟨fun _ => none, fun _ => none, fun _ => none⟩
noncomputable def E_10 : Ent := ⟨10, [⟨false, [.int .i64]⟩], [⟨false, [.ptr]⟩], fun (x : Int) h => send_New x h⟩
theorem eq_10  : (fun (x : PT E_10.ps) (h : H) => runFK Go.Proofs.Ytaebjajbogedkaa.Tab.D (lstK []) ann_10 Try.f10 (Try.f10.body.getD .skip) E_10.ys (encP E_10.ps x) h) = (fun (x : Int) h => send_New x h) := by kernel_rfl
theorem ok_10 : E_10.ok Go.Proofs.Ytaebjajbogedkaa.Tab.D := fun x h y h' e => runFK_ok (lstK_ok [] (fun E h => nomatch h)) (A := ann_10) (by kernel_rfl) (show Go.Proofs.Ytaebjajbogedkaa.Tab.D.fn.get 10 = some Try.f10 by kernel_rfl) (show Try.f10.body = some (Try.f10.body.getD .skip) by kernel_rfl) ((congrFun (congrFun (eq_10 ) x) h).trans e)
/-! send_Stream_Write -/
noncomputable def send_Stream_Write (s : Option Addr) (b : Sl) (h : H) : Option (Int × H) :=
  joinO (
    ptrK s fun (a0 : Addr) =>
    bindO (ldB h (add a0 6)) fun (x0 : Bool) =>
    condK x0 (
      some (Sum.inl ((s, (b, true)), h))) (
      ptrK s fun (a1 : Addr) =>
      bindO (ldB h (add a1 7)) fun (x1 : Bool) =>
      some (Sum.inl ((s, (b, x1)), h)))) fun (((s1, (b1, x0)), h0) : (((Option Addr) × (Sl × Bool)) × H)) =>
  condK x0 (
    some (6, h0)) (
    ptrK s1 fun (a0 : Addr) =>
    bindO (ldL h0 (add a0 3)) fun (x1 : Sl) =>
    letO ((decide (((IntKind.wrap .i64 (((x1.len : Nat) : Int) + ((b1.len : Nat) : Int))) > 4000)))) fun (x2 : Bool) =>
    condK x2 (
      some (9, h0)) (
      ptrK s1 fun (a1 : Addr) =>
      bindO (ldL h0 (add a1 3)) fun (x3 : Sl) =>
      bind2 (appT 5 1 1 h0 x3 b1) fun (x4 : Sl) (h1 : H) =>
      ptrK s1 fun (a2 : Addr) =>
      bindO (st1 h1 (add a2 3) (.slice x4.base x4.len x4.cap)) fun (h2 : H) =>
      some (0, h2)))
noncomputable def ann_13 : Ann := ⟨fun _ => none, fun _ => none, fun i => bif i.beq 1 then some ⟨[0, 1, 5], [⟨false, [.ptr]⟩, ⟨false, [.sl]⟩, ⟨false, [.bool]⟩]⟩ else none⟩
noncomputable def E_13 : Ent := ⟨13, [⟨false, [.ptr]⟩, ⟨false, [.sl]⟩], [⟨false, [.int .i64]⟩], fun (x : Option Addr × Sl) h => send_Stream_Write x.1 x.2 h⟩
theorem eq_13  : (fun (x : PT E_13.ps) (h : H) => runFK Go.Proofs.Ytaebjajbogedkaa.Tab.D (lstK []) ann_13 Try.f13 (Try.f13.body.getD .skip) E_13.ys (encP E_13.ps x) h) = (fun (x : Option Addr × Sl) h => send_Stream_Write x.1 x.2 h) := by kernel_rfl
theorem ok_13 : E_13.ok Go.Proofs.Ytaebjajbogedkaa.Tab.D := fun x h y h' e => runFK_ok (lstK_ok [] (fun E h => nomatch h)) (A := ann_13) (by kernel_rfl) (show Go.Proofs.Ytaebjajbogedkaa.Tab.D.fn.get 13 = some Try.f13 by kernel_rfl) (show Try.f13.body = some (Try.f13.body.getD .skip) by kernel_rfl) ((congrFun (congrFun (eq_13 ) x) h).trans e)
/-! send_Stream_Finish -/
noncomputable def send_Stream_Finish (s : Option Addr) (h : H) : Option (Int × H) :=
  joinO (
    ptrK s fun (a0 : Addr) =>
    bindO (ldB h (add a0 6)) fun (x0 : Bool) =>
    condK x0 (
      some (Sum.inl ((s, true), h))) (
      ptrK s fun (a1 : Addr) =>
      bindO (ldB h (add a1 7)) fun (x1 : Bool) =>
      some (Sum.inl ((s, x1), h)))) fun (((s1, x0), h0) : (((Option Addr) × Bool) × H)) =>
  condK x0 (
    some (6, h0)) (
    ptrK s1 fun (a0 : Addr) =>
    bindO (st1 h0 (add a0 6) (.bool true)) fun (h1 : H) =>
    ptrK s1 fun (a1 : Addr) =>
    bindO (st1 h1 (add (add a1 8) 1) (.bool true)) fun (h2 : H) =>
    some (0, h2))
noncomputable def ann_20 : Ann := ⟨fun _ => none, fun _ => none, fun i => bif i.beq 1 then some ⟨[0, 12], [⟨false, [.ptr]⟩, ⟨false, [.bool]⟩]⟩ else none⟩
noncomputable def E_20 : Ent := ⟨20, [⟨false, [.ptr]⟩], [⟨false, [.int .i64]⟩], fun (x : Option Addr) h => send_Stream_Finish x h⟩
theorem eq_20  : (fun (x : PT E_20.ps) (h : H) => runFK Go.Proofs.Ytaebjajbogedkaa.Tab.D (lstK []) ann_20 Try.f20 (Try.f20.body.getD .skip) E_20.ys (encP E_20.ps x) h) = (fun (x : Option Addr) h => send_Stream_Finish x h) := by kernel_rfl
theorem ok_20 : E_20.ok Go.Proofs.Ytaebjajbogedkaa.Tab.D := fun x h y h' e => runFK_ok (lstK_ok [] (fun E h => nomatch h)) (A := ann_20) (by kernel_rfl) (show Go.Proofs.Ytaebjajbogedkaa.Tab.D.fn.get 20 = some Try.f20 by kernel_rfl) (show Try.f20.body = some (Try.f20.body.getD .skip) by kernel_rfl) ((congrFun (congrFun (eq_20 ) x) h).trans e)
/-! slices_Clone_2_int_2_int -/
noncomputable def slices_Clone_2_int_2_int (s : Sl) (h : H) : Option (Sl × H) :=
  bindO (eqLT s (⟨none, 0, 0⟩ : Sl)) fun (x0 : Bool) =>
  condK x0 (
    some ((⟨none, 0, 0⟩ : Sl), h)) (
    newO (row 100 []) h fun (b : Nat) (h0 : H) =>
    bind2 (appT 100 2 16 h0 (⟨(some (⟨b, 0, (some 0)⟩ : Addr)), 0, 0⟩ : Sl) s) fun (x1 : Sl) (h1 : H) =>
    some (x1, h1))
noncomputable def ann_90 : Ann := ⟨fun _ => none, fun _ => none, fun _ => none⟩
noncomputable def E_90 : Ent := ⟨90, [⟨false, [.sl]⟩], [⟨false, [.sl]⟩], fun (x : Sl) h => slices_Clone_2_int_2_int x h⟩
theorem eq_90  : (fun (x : PT E_90.ps) (h : H) => runFK Go.Proofs.Ytaebjajbogedkaa.Tab.D (lstK []) ann_90 Try.f90 (Try.f90.body.getD .skip) E_90.ys (encP E_90.ps x) h) = (fun (x : Sl) h => slices_Clone_2_int_2_int x h) := by kernel_rfl
theorem ok_90 : E_90.ok Go.Proofs.Ytaebjajbogedkaa.Tab.D := fun x h y h' e => runFK_ok (lstK_ok [] (fun E h => nomatch h)) (A := ann_90) (by kernel_rfl) (show Go.Proofs.Ytaebjajbogedkaa.Tab.D.fn.get 90 = some Try.f90 by kernel_rfl) (show Try.f90.body = some (Try.f90.body.getD .skip) by kernel_rfl) ((congrFun (congrFun (eq_90 ) x) h).trans e)
/-! slices_Clip_2_int_2_int -/
noncomputable def slices_Clip_2_int_2_int (s : Sl) (h : H) : Option (Sl × H) :=
  bindO (slT 2 h s none (some ((s.len : Nat) : Int)) (some ((s.len : Nat) : Int))) fun (x0 : Sl) =>
  some (x0, h)
noncomputable def ann_71 : Ann := ⟨fun _ => none, fun _ => none, fun _ => none⟩
noncomputable def E_71 : Ent := ⟨71, [⟨false, [.sl]⟩], [⟨false, [.sl]⟩], fun (x : Sl) h => slices_Clip_2_int_2_int x h⟩
theorem eq_71  : (fun (x : PT E_71.ps) (h : H) => runFK Go.Proofs.Ytaebjajbogedkaa.Tab.D (lstK []) ann_71 Try.f71 (Try.f71.body.getD .skip) E_71.ys (encP E_71.ps x) h) = (fun (x : Sl) h => slices_Clip_2_int_2_int x h) := by kernel_rfl
theorem ok_71 : E_71.ok Go.Proofs.Ytaebjajbogedkaa.Tab.D := fun x h y h' e => runFK_ok (lstK_ok [] (fun E h => nomatch h)) (A := ann_71) (by kernel_rfl) (show Go.Proofs.Ytaebjajbogedkaa.Tab.D.fn.get 71 = some Try.f71 by kernel_rfl) (show Try.f71.body = some (Try.f71.body.getD .skip) by kernel_rfl) ((congrFun (congrFun (eq_71 ) x) h).trans e)
/-! spans_Set_Spans -/
noncomputable def P.spans_Set_Spans (slices_Clone_2_int_2_int : Sl → H → Option ((Sl) × H)) (slices_Clip_2_int_2_int : Sl → H → Option ((Sl) × H)) (s : Option Addr) (h : H) : Option (Sl × H) :=
  ptrK s fun (a0 : Addr) =>
  bindO (ldL h (add a0 0)) fun (x0 : Sl) =>
  bind2 (slices_Clone_2_int_2_int x0 h) fun (x1 : Sl) (h0 : H) =>
  bind2 (slices_Clip_2_int_2_int x1 h0) fun (x2 : Sl) (h1 : H) =>
  some (x2, h1)
noncomputable def spans_Set_Spans : Option Addr → H → Option ((Sl) × H) := P.spans_Set_Spans slices_Clone_2_int_2_int slices_Clip_2_int_2_int
noncomputable def ann_72 : Ann := ⟨fun _ => none, fun _ => none, fun _ => none⟩
noncomputable def E_72 : Ent := ⟨72, [⟨false, [.ptr]⟩], [⟨false, [.sl]⟩], fun (x : Option Addr) h => spans_Set_Spans x h⟩
theorem eq_72 (slices_Clone_2_int_2_int : Sl → H → Option ((Sl) × H)) (slices_Clip_2_int_2_int : Sl → H → Option ((Sl) × H)) : (fun (x : PT E_72.ps) (h : H) => runFK Go.Proofs.Ytaebjajbogedkaa.Tab.D (lstK [⟨90, [⟨false, [.sl]⟩], [⟨false, [.sl]⟩], fun (x : Sl) h => slices_Clone_2_int_2_int x h⟩, ⟨71, [⟨false, [.sl]⟩], [⟨false, [.sl]⟩], fun (x : Sl) h => slices_Clip_2_int_2_int x h⟩]) ann_72 Try.f72 (Try.f72.body.getD .skip) E_72.ys (encP E_72.ps x) h) = (fun (x : Option Addr) h => P.spans_Set_Spans slices_Clone_2_int_2_int slices_Clip_2_int_2_int x h) := by kernel_rfl
theorem ok_72 : E_72.ok Go.Proofs.Ytaebjajbogedkaa.Tab.D := fun x h y h' e => runFK_ok (lstK_ok [E_90, E_71] (List.forall_mem_cons.2 ⟨ok_90, List.forall_mem_cons.2 ⟨ok_71, fun E h => nomatch h⟩⟩)) (A := ann_72) (by kernel_rfl) (show Go.Proofs.Ytaebjajbogedkaa.Tab.D.fn.get 72 = some Try.f72 by kernel_rfl) (show Try.f72.body = some (Try.f72.body.getD .skip) by kernel_rfl) ((congrFun (congrFun (eq_72 slices_Clone_2_int_2_int slices_Clip_2_int_2_int) x) h).trans e)
/-! send_Stream_may -/
noncomputable def send_Stream_may (s : Option Addr) (h : H) : Option (Int × H) :=
  ptrK s fun (a0 : Addr) =>
  bindO (ldB h (add a0 7)) fun (x0 : Bool) =>
  condK x0 (
    ptrK s fun (a1 : Addr) =>
    bindO (ldI .i64 h (add a1 15)) fun (x1 : Int) =>
    some (x1, h)) (
    ptrK s fun (a2 : Addr) =>
    bindO (ldL h (add a2 3)) fun (x2 : Sl) =>
    some (((x2.len : Nat) : Int), h))
noncomputable def ann_73 : Ann := ⟨fun _ => none, fun _ => none, fun _ => none⟩
noncomputable def E_73 : Ent := ⟨73, [⟨false, [.ptr]⟩], [⟨false, [.int .i64]⟩], fun (x : Option Addr) h => send_Stream_may x h⟩
theorem eq_73  : (fun (x : PT E_73.ps) (h : H) => runFK Go.Proofs.Ytaebjajbogedkaa.Tab.D (lstK []) ann_73 Try.f73 (Try.f73.body.getD .skip) E_73.ys (encP E_73.ps x) h) = (fun (x : Option Addr) h => send_Stream_may x h) := by kernel_rfl
theorem ok_73 : E_73.ok Go.Proofs.Ytaebjajbogedkaa.Tab.D := fun x h y h' e => runFK_ok (lstK_ok [] (fun E h => nomatch h)) (A := ann_73) (by kernel_rfl) (show Go.Proofs.Ytaebjajbogedkaa.Tab.D.fn.get 73 = some Try.f73 by kernel_rfl) (show Try.f73.body = some (Try.f73.body.getD .skip) by kernel_rfl) ((congrFun (congrFun (eq_73 ) x) h).trans e)
/-! slices_Clone_byte -/
noncomputable def slices_Clone_byte (s : Sl) (h : H) : Option (Sl × H) :=
  bindO (eqLT s (⟨none, 0, 0⟩ : Sl)) fun (x0 : Bool) =>
  condK x0 (
    some ((⟨none, 0, 0⟩ : Sl), h)) (
    newO (row 5 []) h fun (b : Nat) (h0 : H) =>
    bind2 (appT 5 1 1 h0 (⟨(some (⟨b, 0, (some 0)⟩ : Addr)), 0, 0⟩ : Sl) s) fun (x1 : Sl) (h1 : H) =>
    some (x1, h1))
noncomputable def ann_70 : Ann := ⟨fun _ => none, fun _ => none, fun _ => none⟩
noncomputable def E_70 : Ent := ⟨70, [⟨false, [.sl]⟩], [⟨false, [.sl]⟩], fun (x : Sl) h => slices_Clone_byte x h⟩
theorem eq_70  : (fun (x : PT E_70.ps) (h : H) => runFK Go.Proofs.Ytaebjajbogedkaa.Tab.D (lstK []) ann_70 Try.f70 (Try.f70.body.getD .skip) E_70.ys (encP E_70.ps x) h) = (fun (x : Sl) h => slices_Clone_byte x h) := by kernel_rfl
theorem ok_70 : E_70.ok Go.Proofs.Ytaebjajbogedkaa.Tab.D := fun x h y h' e => runFK_ok (lstK_ok [] (fun E h => nomatch h)) (A := ann_70) (by kernel_rfl) (show Go.Proofs.Ytaebjajbogedkaa.Tab.D.fn.get 70 = some Try.f70 by kernel_rfl) (show Try.f70.body = some (Try.f70.body.getD .skip) by kernel_rfl) ((congrFun (congrFun (eq_70 ) x) h).trans e)
/-! slices_Clip_byte -/
noncomputable def slices_Clip_byte (s : Sl) (h : H) : Option (Sl × H) :=
  bindO (slT 1 h s none (some ((s.len : Nat) : Int)) (some ((s.len : Nat) : Int))) fun (x0 : Sl) =>
  some (x0, h)
noncomputable def ann_69 : Ann := ⟨fun _ => none, fun _ => none, fun _ => none⟩
noncomputable def E_69 : Ent := ⟨69, [⟨false, [.sl]⟩], [⟨false, [.sl]⟩], fun (x : Sl) h => slices_Clip_byte x h⟩
theorem eq_69  : (fun (x : PT E_69.ps) (h : H) => runFK Go.Proofs.Ytaebjajbogedkaa.Tab.D (lstK []) ann_69 Try.f69 (Try.f69.body.getD .skip) E_69.ys (encP E_69.ps x) h) = (fun (x : Sl) h => slices_Clip_byte x h) := by kernel_rfl
theorem ok_69 : E_69.ok Go.Proofs.Ytaebjajbogedkaa.Tab.D := fun x h y h' e => runFK_ok (lstK_ok [] (fun E h => nomatch h)) (A := ann_69) (by kernel_rfl) (show Go.Proofs.Ytaebjajbogedkaa.Tab.D.fn.get 69 = some Try.f69 by kernel_rfl) (show Try.f69.body = some (Try.f69.body.getD .skip) by kernel_rfl) ((congrFun (congrFun (eq_69 ) x) h).trans e)
/-! send_Stream_frame -/
noncomputable def P.send_Stream_frame (slices_Clone_byte : Sl → H → Option ((Sl) × H)) (slices_Clip_byte : Sl → H → Option ((Sl) × H)) (s : Option Addr) (from' : Int) (to : Int) (h : H) : Option ((Int × Int × Int × Int × Int × Int × Bool × Sl × Sl) × H) :=
  newO (row 47 [(.int .i64 0), (.int .i64 0), (.int .i64 0), (.int .i64 0), (.int .i64 0), (.int .i64 0), (.bool false), (.slice none 0 0), (.slice none 0 0)]) h fun (b : Nat) (h0 : H) =>
  joinO (
    ptrK s fun (a0 : Addr) =>
    bindO (ldB h0 (add a0 6)) fun (x0 : Bool) =>
    condK x0 (
      ptrK s fun (a1 : Addr) =>
      bindO (ldB h0 (add a1 7)) fun (x1 : Bool) =>
      condK (!x1) (
        ptrK s fun (a2 : Addr) =>
        bindO (ldL h0 (add a2 3)) fun (x2 : Sl) =>
        some (Sum.inl ((s, (from', (to, ((some (⟨b, 0, (some 0)⟩ : Addr)), (to == ((x2.len : Nat) : Int)))))), h0))) (
        some (Sum.inl ((s, (from', (to, ((some (⟨b, 0, (some 0)⟩ : Addr)), false)))), h0)))) (
      some (Sum.inl ((s, (from', (to, ((some (⟨b, 0, (some 0)⟩ : Addr)), false)))), h0)))) fun (((s1, (from'1, (to1, (x0, ends)))), h1) : (((Option Addr) × (Int × (Int × ((Option Addr) × Bool)))) × H)) =>
  ptrK s1 fun (a0 : Addr) =>
  bindO (ldI .i64 h1 (add a0 2)) fun (x1 : Int) =>
  ptrK s1 fun (a1 : Addr) =>
  bindO (ldL h1 (add a1 3)) fun (x2 : Sl) =>
  bindO (slT 1 h1 x2 (some from'1) (some to1) none) fun (x3 : Sl) =>
  bind2 (slices_Clone_byte x3 h1) fun (x4 : Sl) (h2 : H) =>
  bind2 (slices_Clip_byte x4 h2) fun (x5 : Sl) (h3 : H) =>
  ptrK x0 fun (a2 : Addr) =>
  bindO (stZ [.int .i64, .int .i64, .int .i64, .int .i64, .int .i64, .int .i64, .bool, .sl, .sl] h3 a2 ((3, x1, from'1, 0, 0, 0, ends, x5, (⟨none, 0, 0⟩ : Sl)) : Int × Int × Int × Int × Int × Int × Bool × Sl × Sl)) fun (h4 : H) =>
  bindO (ldI .i64 h3 (add a0 2)) fun (x6 : Int) =>
  condK (x6 == x1) (
    bindO (ldI .i64 h2 (add a0 2)) fun (x7 : Int) =>
    condK (x7 == x1) (
      ptrK x0 fun (a3 : Addr) =>
      bindO (ldZ [.int .i64, .int .i64, .int .i64, .int .i64, .int .i64, .int .i64, .bool, .sl, .sl] h4 a3) fun ((x8, x9, x10, x11, x12, x13, x14, x15, x16) : Int × Int × Int × Int × Int × Int × Bool × Sl × Sl) =>
      some ((x8, (x9, (x10, (x11, (x12, (x13, (x14, (x15, x16)))))))), h4)) none) none
noncomputable def send_Stream_frame : Option Addr → Int → Int → H → Option (((Int × Int × Int × Int × Int × Int × Bool × Sl × Sl)) × H) := P.send_Stream_frame slices_Clone_byte slices_Clip_byte
noncomputable def ann_75 : Ann := ⟨fun _ => none, fun _ => none, fun i => bif i.beq 1 then some ⟨[0, 1, 2, 6, 7], [⟨false, [.ptr]⟩, ⟨false, [.int .i64]⟩, ⟨false, [.int .i64]⟩, ⟨false, [.ptr]⟩, ⟨false, [.bool]⟩]⟩ else none⟩
noncomputable def E_75 : Ent := ⟨75, [⟨false, [.ptr]⟩, ⟨false, [.int .i64]⟩, ⟨false, [.int .i64]⟩], [⟨true, [.int .i64, .int .i64, .int .i64, .int .i64, .int .i64, .int .i64, .bool, .sl, .sl]⟩], fun (x : Option Addr × Int × Int) h => send_Stream_frame x.1 x.2.1 x.2.2 h⟩
theorem eq_75 (slices_Clone_byte : Sl → H → Option ((Sl) × H)) (slices_Clip_byte : Sl → H → Option ((Sl) × H)) : (fun (x : PT E_75.ps) (h : H) => runFK Go.Proofs.Ytaebjajbogedkaa.Tab.D (lstK [⟨70, [⟨false, [.sl]⟩], [⟨false, [.sl]⟩], fun (x : Sl) h => slices_Clone_byte x h⟩, ⟨69, [⟨false, [.sl]⟩], [⟨false, [.sl]⟩], fun (x : Sl) h => slices_Clip_byte x h⟩]) ann_75 Try.f75 (Try.f75.body.getD .skip) E_75.ys (encP E_75.ps x) h) = (fun (x : Option Addr × Int × Int) h => P.send_Stream_frame slices_Clone_byte slices_Clip_byte x.1 x.2.1 x.2.2 h) := by kernel_rfl
theorem ok_75 : E_75.ok Go.Proofs.Ytaebjajbogedkaa.Tab.D := fun x h y h' e => runFK_ok (lstK_ok [E_70, E_69] (List.forall_mem_cons.2 ⟨ok_70, List.forall_mem_cons.2 ⟨ok_69, fun E h => nomatch h⟩⟩)) (A := ann_75) (by kernel_rfl) (show Go.Proofs.Ytaebjajbogedkaa.Tab.D.fn.get 75 = some Try.f75 by kernel_rfl) (show Try.f75.body = some (Try.f75.body.getD .skip) by kernel_rfl) ((congrFun (congrFun (eq_75 slices_Clone_byte slices_Clip_byte) x) h).trans e)
/-! frame_bare -/
noncomputable def frame_bare (f : Int × Int × Int × Int × Int × Int × Bool × Sl × Sl) (h : H) : Option ((Int × Int × Int × Int × Int × Int × Bool × Sl × Sl) × H) :=
  newO (row 47 [(.int .i64 f.1), (.int .i64 f.2.1), (.int .i64 f.2.2.1), (.int .i64 f.2.2.2.1), (.int .i64 f.2.2.2.2.1), (.int .i64 f.2.2.2.2.2.1), (.bool f.2.2.2.2.2.2.1), (.slice f.2.2.2.2.2.2.2.1.base f.2.2.2.2.2.2.2.1.len f.2.2.2.2.2.2.2.1.cap), (.slice f.2.2.2.2.2.2.2.2.base f.2.2.2.2.2.2.2.2.len f.2.2.2.2.2.2.2.2.cap)]) h fun (b : Nat) (h0 : H) =>
  newO (row 47 [(.int .i64 0), (.int .i64 0), (.int .i64 0), (.int .i64 0), (.int .i64 0), (.int .i64 0), (.bool false), (.slice none 0 0), (.slice none 0 0)]) h0 fun (b1 : Nat) (h1 : H) =>
  bindO (ldI .i64 h1 (add (⟨b, 0, (some 0)⟩ : Addr) 0)) fun (x0 : Int) =>
  newO (row 47 [(.int .i64 0), (.int .i64 0), (.int .i64 0), (.int .i64 0), (.int .i64 0), (.int .i64 0), (.bool false), (.slice none 0 0), (.slice none 0 0)]) h1 fun (b2 : Nat) (h2 : H) =>
  bindO (stZ [.int .i64, .int .i64, .int .i64, .int .i64, .int .i64, .int .i64, .bool, .sl, .sl] h2 (⟨b2, 0, (some 0)⟩ : Addr) ((x0, 0, 0, 0, 0, 0, false, (⟨none, 0, 0⟩ : Sl), (⟨none, 0, 0⟩ : Sl)) : Int × Int × Int × Int × Int × Int × Bool × Sl × Sl)) fun (h3 : H) =>
  joinO (
    bindO (ldI .i64 h3 (add (⟨b, 0, (some 0)⟩ : Addr) 0)) fun (x1 : Int) =>
    condK (x1 == 2) (
      bindO (ldL h3 (add (⟨b, 0, (some 0)⟩ : Addr) 8)) fun (x2 : Sl) =>
      bindO (st1 h3 (add (⟨b2, 0, (some 0)⟩ : Addr) 8) (.slice x2.base x2.len x2.cap)) fun (h4 : H) =>
      some (Sum.inl (((some (⟨b1, 0, (some 0)⟩ : Addr)), (some (⟨b2, 0, (some 0)⟩ : Addr))), h4))) (
      condK (x1 == 3) (
        bindO (ldI .i64 h3 (add (⟨b, 0, (some 0)⟩ : Addr) 1)) fun (x3 : Int) =>
        bindO (ldI .i64 h3 (add (⟨b, 0, (some 0)⟩ : Addr) 2)) fun (x4 : Int) =>
        bindO (ldB h3 (add (⟨b, 0, (some 0)⟩ : Addr) 6)) fun (x5 : Bool) =>
        bindO (ldL h3 (add (⟨b, 0, (some 0)⟩ : Addr) 7)) fun (x6 : Sl) =>
        bindO (st1 h3 (add (⟨b2, 0, (some 0)⟩ : Addr) 1) (.int .i64 x3)) fun (h5 : H) =>
        bindO (st1 h5 (add (⟨b2, 0, (some 0)⟩ : Addr) 2) (.int .i64 x4)) fun (h6 : H) =>
        bindO (st1 h6 (add (⟨b2, 0, (some 0)⟩ : Addr) 6) (.bool x5)) fun (h7 : H) =>
        bindO (st1 h7 (add (⟨b2, 0, (some 0)⟩ : Addr) 7) (.slice x6.base x6.len x6.cap)) fun (h8 : H) =>
        bindO (ldL h7 (add (⟨b, 0, (some 0)⟩ : Addr) 7)) fun (x7 : Sl) =>
        condK (slEq x7.base x7.len x7.cap x6.base x6.len x6.cap) (
          bindO (ldL h6 (add (⟨b, 0, (some 0)⟩ : Addr) 7)) fun (x8 : Sl) =>
          condK (slEq x8.base x8.len x8.cap x6.base x6.len x6.cap) (
            bindO (ldL h5 (add (⟨b, 0, (some 0)⟩ : Addr) 7)) fun (x9 : Sl) =>
            condK (slEq x9.base x9.len x9.cap x6.base x6.len x6.cap) (
              bindO (ldB h6 (add (⟨b, 0, (some 0)⟩ : Addr) 6)) fun (x10 : Bool) =>
              condK (x10 == x5) (
                bindO (ldB h5 (add (⟨b, 0, (some 0)⟩ : Addr) 6)) fun (x11 : Bool) =>
                condK (x11 == x5) (
                  bindO (ldI .i64 h5 (add (⟨b, 0, (some 0)⟩ : Addr) 2)) fun (x12 : Int) =>
                  condK (x12 == x4) (
                    some (Sum.inl (((some (⟨b1, 0, (some 0)⟩ : Addr)), (some (⟨b2, 0, (some 0)⟩ : Addr))), h8))) none) none) none) none) none) none) (
        condK (x1 == 4) (
          bindO (ldI .i64 h3 (add (⟨b, 0, (some 0)⟩ : Addr) 1)) fun (x13 : Int) =>
          bindO (ldI .i64 h3 (add (⟨b, 0, (some 0)⟩ : Addr) 3)) fun (x14 : Int) =>
          bindO (ldI .i64 h3 (add (⟨b, 0, (some 0)⟩ : Addr) 2)) fun (x15 : Int) =>
          bindO (ldI .i64 h3 (add (⟨b, 0, (some 0)⟩ : Addr) 4)) fun (x16 : Int) =>
          bindO (st1 h3 (add (⟨b2, 0, (some 0)⟩ : Addr) 1) (.int .i64 x13)) fun (h9 : H) =>
          bindO (st1 h9 (add (⟨b2, 0, (some 0)⟩ : Addr) 3) (.int .i64 x14)) fun (h10 : H) =>
          bindO (st1 h10 (add (⟨b2, 0, (some 0)⟩ : Addr) 2) (.int .i64 x15)) fun (h11 : H) =>
          bindO (st1 h11 (add (⟨b2, 0, (some 0)⟩ : Addr) 4) (.int .i64 x16)) fun (h12 : H) =>
          bindO (ldI .i64 h11 (add (⟨b, 0, (some 0)⟩ : Addr) 4)) fun (x17 : Int) =>
          condK (x17 == x16) (
            bindO (ldI .i64 h10 (add (⟨b, 0, (some 0)⟩ : Addr) 4)) fun (x18 : Int) =>
            condK (x18 == x16) (
              bindO (ldI .i64 h9 (add (⟨b, 0, (some 0)⟩ : Addr) 4)) fun (x19 : Int) =>
              condK (x19 == x16) (
                bindO (ldI .i64 h10 (add (⟨b, 0, (some 0)⟩ : Addr) 2)) fun (x20 : Int) =>
                condK (x20 == x15) (
                  bindO (ldI .i64 h9 (add (⟨b, 0, (some 0)⟩ : Addr) 2)) fun (x21 : Int) =>
                  condK (x21 == x15) (
                    bindO (ldI .i64 h9 (add (⟨b, 0, (some 0)⟩ : Addr) 3)) fun (x22 : Int) =>
                    condK (x22 == x14) (
                      some (Sum.inl (((some (⟨b1, 0, (some 0)⟩ : Addr)), (some (⟨b2, 0, (some 0)⟩ : Addr))), h12))) none) none) none) none) none) none) (
          condK (x1 == 5) (
            condK (x1 == 5) (
              bindO (ldI .i64 h3 (add (⟨b, 0, (some 0)⟩ : Addr) 1)) fun (x23 : Int) =>
              bindO (ldI .i64 h3 (add (⟨b, 0, (some 0)⟩ : Addr) 3)) fun (x24 : Int) =>
              bindO (st1 h3 (add (⟨b2, 0, (some 0)⟩ : Addr) 1) (.int .i64 x23)) fun (h13 : H) =>
              bindO (st1 h13 (add (⟨b2, 0, (some 0)⟩ : Addr) 3) (.int .i64 x24)) fun (h14 : H) =>
              bindO (ldI .i64 h13 (add (⟨b, 0, (some 0)⟩ : Addr) 3)) fun (x25 : Int) =>
              condK (x25 == x24) (
                some (Sum.inl (((some (⟨b1, 0, (some 0)⟩ : Addr)), (some (⟨b2, 0, (some 0)⟩ : Addr))), h14))) none) (
              condK (x1 == 6) (
                condK (x1 == 6) (
                  bindO (ldI .i64 h3 (add (⟨b, 0, (some 0)⟩ : Addr) 3)) fun (x26 : Int) =>
                  bindO (st1 h3 (add (⟨b2, 0, (some 0)⟩ : Addr) 3) (.int .i64 x26)) fun (h15 : H) =>
                  some (Sum.inl (((some (⟨b1, 0, (some 0)⟩ : Addr)), (some (⟨b2, 0, (some 0)⟩ : Addr))), h15))) (
                  condK (x1 == 8) (
                    bindO (ldI .i64 h3 (add (⟨b, 0, (some 0)⟩ : Addr) 3)) fun (x27 : Int) =>
                    bindO (ldB h3 (add (⟨b, 0, (some 0)⟩ : Addr) 6)) fun (x28 : Bool) =>
                    bindO (st1 h3 (add (⟨b2, 0, (some 0)⟩ : Addr) 3) (.int .i64 x27)) fun (h16 : H) =>
                    bindO (st1 h16 (add (⟨b2, 0, (some 0)⟩ : Addr) 6) (.bool x28)) fun (h17 : H) =>
                    bindO (ldB h16 (add (⟨b, 0, (some 0)⟩ : Addr) 6)) fun (x29 : Bool) =>
                    condK (x29 == x28) (
                      some (Sum.inl (((some (⟨b1, 0, (some 0)⟩ : Addr)), (some (⟨b2, 0, (some 0)⟩ : Addr))), h17))) none) (
                    condK (x1 == 9) (
                      bindO (ldL h3 (add (⟨b, 0, (some 0)⟩ : Addr) 7)) fun (x30 : Sl) =>
                      bindO (st1 h3 (add (⟨b2, 0, (some 0)⟩ : Addr) 7) (.slice x30.base x30.len x30.cap)) fun (h18 : H) =>
                      some (Sum.inl (((some (⟨b1, 0, (some 0)⟩ : Addr)), (some (⟨b2, 0, (some 0)⟩ : Addr))), h18))) (
                      condK (x1 == 10) (
                        condK (x1 == 10) (
                          bindO (ldI .i64 h3 (add (⟨b, 0, (some 0)⟩ : Addr) 1)) fun (x31 : Int) =>
                          bindO (st1 h3 (add (⟨b2, 0, (some 0)⟩ : Addr) 1) (.int .i64 x31)) fun (h19 : H) =>
                          some (Sum.inl (((some (⟨b1, 0, (some 0)⟩ : Addr)), (some (⟨b2, 0, (some 0)⟩ : Addr))), h19))) (
                          some (Sum.inl (((some (⟨b1, 0, (some 0)⟩ : Addr)), (some (⟨b2, 0, (some 0)⟩ : Addr))), h3)))) (
                        condK (x1 == 11) (
                          bindO (ldI .i64 h3 (add (⟨b, 0, (some 0)⟩ : Addr) 1)) fun (x32 : Int) =>
                          bindO (st1 h3 (add (⟨b2, 0, (some 0)⟩ : Addr) 1) (.int .i64 x32)) fun (h20 : H) =>
                          some (Sum.inl (((some (⟨b1, 0, (some 0)⟩ : Addr)), (some (⟨b2, 0, (some 0)⟩ : Addr))), h20))) (
                          some (Sum.inl (((some (⟨b1, 0, (some 0)⟩ : Addr)), (some (⟨b2, 0, (some 0)⟩ : Addr))), h3)))))))) (
                condK (x1 == 12) (
                  bindO (ldI .i64 h3 (add (⟨b, 0, (some 0)⟩ : Addr) 3)) fun (x33 : Int) =>
                  bindO (st1 h3 (add (⟨b2, 0, (some 0)⟩ : Addr) 3) (.int .i64 x33)) fun (h21 : H) =>
                  some (Sum.inl (((some (⟨b1, 0, (some 0)⟩ : Addr)), (some (⟨b2, 0, (some 0)⟩ : Addr))), h21))) (
                  condK (x1 == 8) (
                    bindO (ldI .i64 h3 (add (⟨b, 0, (some 0)⟩ : Addr) 3)) fun (x34 : Int) =>
                    bindO (ldB h3 (add (⟨b, 0, (some 0)⟩ : Addr) 6)) fun (x35 : Bool) =>
                    bindO (st1 h3 (add (⟨b2, 0, (some 0)⟩ : Addr) 3) (.int .i64 x34)) fun (h22 : H) =>
                    bindO (st1 h22 (add (⟨b2, 0, (some 0)⟩ : Addr) 6) (.bool x35)) fun (h23 : H) =>
                    bindO (ldB h22 (add (⟨b, 0, (some 0)⟩ : Addr) 6)) fun (x36 : Bool) =>
                    condK (x36 == x35) (
                      some (Sum.inl (((some (⟨b1, 0, (some 0)⟩ : Addr)), (some (⟨b2, 0, (some 0)⟩ : Addr))), h23))) none) (
                    condK (x1 == 9) (
                      bindO (ldL h3 (add (⟨b, 0, (some 0)⟩ : Addr) 7)) fun (x37 : Sl) =>
                      bindO (st1 h3 (add (⟨b2, 0, (some 0)⟩ : Addr) 7) (.slice x37.base x37.len x37.cap)) fun (h24 : H) =>
                      some (Sum.inl (((some (⟨b1, 0, (some 0)⟩ : Addr)), (some (⟨b2, 0, (some 0)⟩ : Addr))), h24))) (
                      condK (x1 == 10) (
                        condK (x1 == 10) (
                          bindO (ldI .i64 h3 (add (⟨b, 0, (some 0)⟩ : Addr) 1)) fun (x38 : Int) =>
                          bindO (st1 h3 (add (⟨b2, 0, (some 0)⟩ : Addr) 1) (.int .i64 x38)) fun (h25 : H) =>
                          some (Sum.inl (((some (⟨b1, 0, (some 0)⟩ : Addr)), (some (⟨b2, 0, (some 0)⟩ : Addr))), h25))) (
                          some (Sum.inl (((some (⟨b1, 0, (some 0)⟩ : Addr)), (some (⟨b2, 0, (some 0)⟩ : Addr))), h3)))) (
                        condK (x1 == 11) (
                          bindO (ldI .i64 h3 (add (⟨b, 0, (some 0)⟩ : Addr) 1)) fun (x39 : Int) =>
                          bindO (st1 h3 (add (⟨b2, 0, (some 0)⟩ : Addr) 1) (.int .i64 x39)) fun (h26 : H) =>
                          some (Sum.inl (((some (⟨b1, 0, (some 0)⟩ : Addr)), (some (⟨b2, 0, (some 0)⟩ : Addr))), h26))) (
                          some (Sum.inl (((some (⟨b1, 0, (some 0)⟩ : Addr)), (some (⟨b2, 0, (some 0)⟩ : Addr))), h3)))))))))) (
            condK (x1 == 7) (
              bindO (ldI .i64 h3 (add (⟨b, 0, (some 0)⟩ : Addr) 1)) fun (x40 : Int) =>
              bindO (ldI .i64 h3 (add (⟨b, 0, (some 0)⟩ : Addr) 3)) fun (x41 : Int) =>
              bindO (st1 h3 (add (⟨b2, 0, (some 0)⟩ : Addr) 1) (.int .i64 x40)) fun (h27 : H) =>
              bindO (st1 h27 (add (⟨b2, 0, (some 0)⟩ : Addr) 3) (.int .i64 x41)) fun (h28 : H) =>
              bindO (ldI .i64 h27 (add (⟨b, 0, (some 0)⟩ : Addr) 3)) fun (x42 : Int) =>
              condK (x42 == x41) (
                some (Sum.inl (((some (⟨b1, 0, (some 0)⟩ : Addr)), (some (⟨b2, 0, (some 0)⟩ : Addr))), h28))) none) (
              condK (x1 == 6) (
                condK (x1 == 6) (
                  bindO (ldI .i64 h3 (add (⟨b, 0, (some 0)⟩ : Addr) 3)) fun (x43 : Int) =>
                  bindO (st1 h3 (add (⟨b2, 0, (some 0)⟩ : Addr) 3) (.int .i64 x43)) fun (h29 : H) =>
                  some (Sum.inl (((some (⟨b1, 0, (some 0)⟩ : Addr)), (some (⟨b2, 0, (some 0)⟩ : Addr))), h29))) (
                  condK (x1 == 8) (
                    bindO (ldI .i64 h3 (add (⟨b, 0, (some 0)⟩ : Addr) 3)) fun (x44 : Int) =>
                    bindO (ldB h3 (add (⟨b, 0, (some 0)⟩ : Addr) 6)) fun (x45 : Bool) =>
                    bindO (st1 h3 (add (⟨b2, 0, (some 0)⟩ : Addr) 3) (.int .i64 x44)) fun (h30 : H) =>
                    bindO (st1 h30 (add (⟨b2, 0, (some 0)⟩ : Addr) 6) (.bool x45)) fun (h31 : H) =>
                    bindO (ldB h30 (add (⟨b, 0, (some 0)⟩ : Addr) 6)) fun (x46 : Bool) =>
                    condK (x46 == x45) (
                      some (Sum.inl (((some (⟨b1, 0, (some 0)⟩ : Addr)), (some (⟨b2, 0, (some 0)⟩ : Addr))), h31))) none) (
                    condK (x1 == 9) (
                      bindO (ldL h3 (add (⟨b, 0, (some 0)⟩ : Addr) 7)) fun (x47 : Sl) =>
                      bindO (st1 h3 (add (⟨b2, 0, (some 0)⟩ : Addr) 7) (.slice x47.base x47.len x47.cap)) fun (h32 : H) =>
                      some (Sum.inl (((some (⟨b1, 0, (some 0)⟩ : Addr)), (some (⟨b2, 0, (some 0)⟩ : Addr))), h32))) (
                      condK (x1 == 10) (
                        condK (x1 == 10) (
                          bindO (ldI .i64 h3 (add (⟨b, 0, (some 0)⟩ : Addr) 1)) fun (x48 : Int) =>
                          bindO (st1 h3 (add (⟨b2, 0, (some 0)⟩ : Addr) 1) (.int .i64 x48)) fun (h33 : H) =>
                          some (Sum.inl (((some (⟨b1, 0, (some 0)⟩ : Addr)), (some (⟨b2, 0, (some 0)⟩ : Addr))), h33))) (
                          some (Sum.inl (((some (⟨b1, 0, (some 0)⟩ : Addr)), (some (⟨b2, 0, (some 0)⟩ : Addr))), h3)))) (
                        condK (x1 == 11) (
                          bindO (ldI .i64 h3 (add (⟨b, 0, (some 0)⟩ : Addr) 1)) fun (x49 : Int) =>
                          bindO (st1 h3 (add (⟨b2, 0, (some 0)⟩ : Addr) 1) (.int .i64 x49)) fun (h34 : H) =>
                          some (Sum.inl (((some (⟨b1, 0, (some 0)⟩ : Addr)), (some (⟨b2, 0, (some 0)⟩ : Addr))), h34))) (
                          some (Sum.inl (((some (⟨b1, 0, (some 0)⟩ : Addr)), (some (⟨b2, 0, (some 0)⟩ : Addr))), h3)))))))) (
                condK (x1 == 12) (
                  bindO (ldI .i64 h3 (add (⟨b, 0, (some 0)⟩ : Addr) 3)) fun (x50 : Int) =>
                  bindO (st1 h3 (add (⟨b2, 0, (some 0)⟩ : Addr) 3) (.int .i64 x50)) fun (h35 : H) =>
                  some (Sum.inl (((some (⟨b1, 0, (some 0)⟩ : Addr)), (some (⟨b2, 0, (some 0)⟩ : Addr))), h35))) (
                  condK (x1 == 8) (
                    bindO (ldI .i64 h3 (add (⟨b, 0, (some 0)⟩ : Addr) 3)) fun (x51 : Int) =>
                    bindO (ldB h3 (add (⟨b, 0, (some 0)⟩ : Addr) 6)) fun (x52 : Bool) =>
                    bindO (st1 h3 (add (⟨b2, 0, (some 0)⟩ : Addr) 3) (.int .i64 x51)) fun (h36 : H) =>
                    bindO (st1 h36 (add (⟨b2, 0, (some 0)⟩ : Addr) 6) (.bool x52)) fun (h37 : H) =>
                    bindO (ldB h36 (add (⟨b, 0, (some 0)⟩ : Addr) 6)) fun (x53 : Bool) =>
                    condK (x53 == x52) (
                      some (Sum.inl (((some (⟨b1, 0, (some 0)⟩ : Addr)), (some (⟨b2, 0, (some 0)⟩ : Addr))), h37))) none) (
                    condK (x1 == 9) (
                      bindO (ldL h3 (add (⟨b, 0, (some 0)⟩ : Addr) 7)) fun (x54 : Sl) =>
                      bindO (st1 h3 (add (⟨b2, 0, (some 0)⟩ : Addr) 7) (.slice x54.base x54.len x54.cap)) fun (h38 : H) =>
                      some (Sum.inl (((some (⟨b1, 0, (some 0)⟩ : Addr)), (some (⟨b2, 0, (some 0)⟩ : Addr))), h38))) (
                      condK (x1 == 10) (
                        condK (x1 == 10) (
                          bindO (ldI .i64 h3 (add (⟨b, 0, (some 0)⟩ : Addr) 1)) fun (x55 : Int) =>
                          bindO (st1 h3 (add (⟨b2, 0, (some 0)⟩ : Addr) 1) (.int .i64 x55)) fun (h39 : H) =>
                          some (Sum.inl (((some (⟨b1, 0, (some 0)⟩ : Addr)), (some (⟨b2, 0, (some 0)⟩ : Addr))), h39))) (
                          some (Sum.inl (((some (⟨b1, 0, (some 0)⟩ : Addr)), (some (⟨b2, 0, (some 0)⟩ : Addr))), h3)))) (
                        condK (x1 == 11) (
                          bindO (ldI .i64 h3 (add (⟨b, 0, (some 0)⟩ : Addr) 1)) fun (x56 : Int) =>
                          bindO (st1 h3 (add (⟨b2, 0, (some 0)⟩ : Addr) 1) (.int .i64 x56)) fun (h40 : H) =>
                          some (Sum.inl (((some (⟨b1, 0, (some 0)⟩ : Addr)), (some (⟨b2, 0, (some 0)⟩ : Addr))), h40))) (
                          some (Sum.inl (((some (⟨b1, 0, (some 0)⟩ : Addr)), (some (⟨b2, 0, (some 0)⟩ : Addr))), h3)))))))))))))) fun (((x1, out), h4) : (((Option Addr) × (Option Addr)) × H)) =>
  ptrK out fun (a0 : Addr) =>
  bindO (ldZ [.int .i64, .int .i64, .int .i64, .int .i64, .int .i64, .int .i64, .bool, .sl, .sl] h4 a0) fun ((x2, x3, x4, x5, x6, x7, x8, x9, x10) : Int × Int × Int × Int × Int × Int × Bool × Sl × Sl) =>
  ptrK x1 fun (a1 : Addr) =>
  bindO (stZ [.int .i64, .int .i64, .int .i64, .int .i64, .int .i64, .int .i64, .bool, .sl, .sl] h4 a1 ((x2, x3, x4, x5, x6, x7, x8, x9, x10) : Int × Int × Int × Int × Int × Int × Bool × Sl × Sl)) fun (h5 : H) =>
  ptrK x1 fun (a2 : Addr) =>
  bindO (ldZ [.int .i64, .int .i64, .int .i64, .int .i64, .int .i64, .int .i64, .bool, .sl, .sl] h5 a2) fun ((x11, x12, x13, x14, x15, x16, x17, x18, x19) : Int × Int × Int × Int × Int × Int × Bool × Sl × Sl) =>
  some ((x11, (x12, (x13, (x14, (x15, (x16, (x17, (x18, x19)))))))), h5)
noncomputable def ann_77 : Ann := ⟨fun i => bif i.beq 22 then some ⟨[2, 3], [⟨false, [.ptr]⟩, ⟨false, [.ptr]⟩]⟩ else none, fun _ => none, fun _ => none⟩
noncomputable def E_77 : Ent := ⟨77, [⟨true, [.int .i64, .int .i64, .int .i64, .int .i64, .int .i64, .int .i64, .bool, .sl, .sl]⟩], [⟨true, [.int .i64, .int .i64, .int .i64, .int .i64, .int .i64, .int .i64, .bool, .sl, .sl]⟩], fun (x : (Int × Int × Int × Int × Int × Int × Bool × Sl × Sl)) h => frame_bare x h⟩
theorem eq_77  : (fun (x : PT E_77.ps) (h : H) => runFK Go.Proofs.Ytaebjajbogedkaa.Tab.D (lstK []) ann_77 Try.f77 (Try.f77.body.getD .skip) E_77.ys (encP E_77.ps x) h) = (fun (x : (Int × Int × Int × Int × Int × Int × Bool × Sl × Sl)) h => frame_bare x h) := by kernel_rfl
theorem ok_77 : E_77.ok Go.Proofs.Ytaebjajbogedkaa.Tab.D := fun x h y h' e => runFK_ok (lstK_ok [] (fun E h => nomatch h)) (A := ann_77) (by kernel_rfl) (show Go.Proofs.Ytaebjajbogedkaa.Tab.D.fn.get 77 = some Try.f77 by kernel_rfl) (show Try.f77.body = some (Try.f77.body.getD .skip) by kernel_rfl) ((congrFun (congrFun (eq_77 ) x) h).trans e)
/-! slices_Equal_byte -/
noncomputable def slices_Equal_byte_l1 : ((Sl × (Sl × (Int × Int))) × H) → Option (((Sl × (Sl × (Int × Int))) × H) ⊕ (Bool × H)) := fun ((s1, (s2, (x0, x1))), h0) =>
  condK (decide ((x1 < x0))) (
    bindO (ixT 1 s1 x1) fun (a0 : Addr) =>
    bindO (ldI .u8 h0 a0) fun (x2 : Int) =>
    bindO (ixT 1 s2 x1) fun (a1 : Addr) =>
    bindO (ldI .u8 h0 a1) fun (x3 : Int) =>
    condK (x2 != x3) (
      some (Sum.inr (false, h0))) (
      some (Sum.inl ((s1, (s2, (x0, (IntKind.wrap .i64 (x1 + 1))))), h0)))) (
    some (Sum.inr (true, h0)))

noncomputable def slices_Equal_byte (s1 : Sl) (s2 : Sl) (h : H) : Option (Bool × H) :=
  condK (((s1.len : Nat) : Int) != ((s2.len : Nat) : Int)) (
    some (false, h)) (
    loopO slices_Equal_byte_l1 ((s1, (s2, (((s1.len : Nat) : Int), 0))), h))
noncomputable def ann_91 : Ann := ⟨fun _ => none, fun i => bif i.beq 4 then some ⟨[0, 1, 12, 13], [⟨false, [.sl]⟩, ⟨false, [.sl]⟩, ⟨false, [.int .i64]⟩, ⟨false, [.int .i64]⟩]⟩ else none, fun _ => none⟩
noncomputable def E_91 : Ent := ⟨91, [⟨false, [.sl]⟩, ⟨false, [.sl]⟩], [⟨false, [.bool]⟩], fun (x : Sl × Sl) h => slices_Equal_byte x.1 x.2 h⟩
theorem eq_91  : (fun (x : PT E_91.ps) (h : H) => runFK Go.Proofs.Ytaebjajbogedkaa.Tab.D (lstK []) ann_91 Try.f91 (Try.f91.body.getD .skip) E_91.ys (encP E_91.ps x) h) = (fun (x : Sl × Sl) h => slices_Equal_byte x.1 x.2 h) := by kernel_rfl
theorem ok_91 : E_91.ok Go.Proofs.Ytaebjajbogedkaa.Tab.D := fun x h y h' e => runFK_ok (lstK_ok [] (fun E h => nomatch h)) (A := ann_91) (by kernel_rfl) (show Go.Proofs.Ytaebjajbogedkaa.Tab.D.fn.get 91 = some Try.f91 by kernel_rfl) (show Try.f91.body = some (Try.f91.body.getD .skip) by kernel_rfl) ((congrFun (congrFun (eq_91 ) x) h).trans e)
/-! slices_Equal_2_int_2_int -/
noncomputable def slices_Equal_2_int_2_int_l1 : ((Sl × (Sl × (Int × Int))) × H) → Option (((Sl × (Sl × (Int × Int))) × H) ⊕ (Bool × H)) := fun ((s1, (s2, (x0, x1))), h0) =>
  condK (decide ((x1 < x0))) (
    bindO (ixT 2 s1 x1) fun (a0 : Addr) =>
    bindO (ldZ [.int .i64, .int .i64] h0 a0) fun ((x2, x3) : Int × Int) =>
    bindO (ixT 2 s2 x1) fun (a1 : Addr) =>
    bindO (ldZ [.int .i64, .int .i64] h0 a1) fun ((x4, x5) : Int × Int) =>
    condK (!((x2 == x4) && ((x3 == x5) && true))) (
      some (Sum.inr (false, h0))) (
      some (Sum.inl ((s1, (s2, (x0, (IntKind.wrap .i64 (x1 + 1))))), h0)))) (
    some (Sum.inr (true, h0)))

noncomputable def slices_Equal_2_int_2_int (s1 : Sl) (s2 : Sl) (h : H) : Option (Bool × H) :=
  condK (((s1.len : Nat) : Int) != ((s2.len : Nat) : Int)) (
    some (false, h)) (
    loopO slices_Equal_2_int_2_int_l1 ((s1, (s2, (((s1.len : Nat) : Int), 0))), h))
noncomputable def ann_92 : Ann := ⟨fun _ => none, fun i => bif i.beq 4 then some ⟨[0, 1, 12, 13], [⟨false, [.sl]⟩, ⟨false, [.sl]⟩, ⟨false, [.int .i64]⟩, ⟨false, [.int .i64]⟩]⟩ else none, fun _ => none⟩
noncomputable def E_92 : Ent := ⟨92, [⟨false, [.sl]⟩, ⟨false, [.sl]⟩], [⟨false, [.bool]⟩], fun (x : Sl × Sl) h => slices_Equal_2_int_2_int x.1 x.2 h⟩
theorem eq_92  : (fun (x : PT E_92.ps) (h : H) => runFK Go.Proofs.Ytaebjajbogedkaa.Tab.D (lstK []) ann_92 Try.f92 (Try.f92.body.getD .skip) E_92.ys (encP E_92.ps x) h) = (fun (x : Sl × Sl) h => slices_Equal_2_int_2_int x.1 x.2 h) := by kernel_rfl
theorem ok_92 : E_92.ok Go.Proofs.Ytaebjajbogedkaa.Tab.D := fun x h y h' e => runFK_ok (lstK_ok [] (fun E h => nomatch h)) (A := ann_92) (by kernel_rfl) (show Go.Proofs.Ytaebjajbogedkaa.Tab.D.fn.get 92 = some Try.f92 by kernel_rfl) (show Try.f92.body = some (Try.f92.body.getD .skip) by kernel_rfl) ((congrFun (congrFun (eq_92 ) x) h).trans e)
/-! frame_same -/
noncomputable def P.frame_same (slices_Equal_byte : Sl → Sl → H → Option ((Bool) × H)) (slices_Equal_2_int_2_int : Sl → Sl → H → Option ((Bool) × H)) (a0 : Int × Int × Int × Int × Int × Int × Bool × Sl × Sl) (b : Int × Int × Int × Int × Int × Int × Bool × Sl × Sl) (h : H) : Option (Bool × H) :=
  newO (row 47 [(.int .i64 a0.1), (.int .i64 a0.2.1), (.int .i64 a0.2.2.1), (.int .i64 a0.2.2.2.1), (.int .i64 a0.2.2.2.2.1), (.int .i64 a0.2.2.2.2.2.1), (.bool a0.2.2.2.2.2.2.1), (.slice a0.2.2.2.2.2.2.2.1.base a0.2.2.2.2.2.2.2.1.len a0.2.2.2.2.2.2.2.1.cap), (.slice a0.2.2.2.2.2.2.2.2.base a0.2.2.2.2.2.2.2.2.len a0.2.2.2.2.2.2.2.2.cap)]) h fun (b1 : Nat) (h0 : H) =>
  newO (row 47 [(.int .i64 b.1), (.int .i64 b.2.1), (.int .i64 b.2.2.1), (.int .i64 b.2.2.2.1), (.int .i64 b.2.2.2.2.1), (.int .i64 b.2.2.2.2.2.1), (.bool b.2.2.2.2.2.2.1), (.slice b.2.2.2.2.2.2.2.1.base b.2.2.2.2.2.2.2.1.len b.2.2.2.2.2.2.2.1.cap), (.slice b.2.2.2.2.2.2.2.2.base b.2.2.2.2.2.2.2.2.len b.2.2.2.2.2.2.2.2.cap)]) h0 fun (b2 : Nat) (h1 : H) =>
  bindO (ldI .i64 h1 (add (⟨b1, 0, (some 0)⟩ : Addr) 0)) fun (x0 : Int) =>
  bindO (ldI .i64 h1 (add (⟨b2, 0, (some 0)⟩ : Addr) 0)) fun (x1 : Int) =>
  condK (x0 == x1) (
    bindO (ldI .i64 h1 (add (⟨b1, 0, (some 0)⟩ : Addr) 1)) fun (x2 : Int) =>
    bindO (ldI .i64 h1 (add (⟨b2, 0, (some 0)⟩ : Addr) 1)) fun (x3 : Int) =>
    condK (x2 == x3) (
      bindO (ldI .i64 h1 (add (⟨b1, 0, (some 0)⟩ : Addr) 2)) fun (x4 : Int) =>
      bindO (ldI .i64 h1 (add (⟨b2, 0, (some 0)⟩ : Addr) 2)) fun (x5 : Int) =>
      condK (x4 == x5) (
        bindO (ldI .i64 h1 (add (⟨b1, 0, (some 0)⟩ : Addr) 3)) fun (x6 : Int) =>
        bindO (ldI .i64 h1 (add (⟨b2, 0, (some 0)⟩ : Addr) 3)) fun (x7 : Int) =>
        condK (x6 == x7) (
          bindO (ldI .i64 h1 (add (⟨b1, 0, (some 0)⟩ : Addr) 4)) fun (x8 : Int) =>
          bindO (ldI .i64 h1 (add (⟨b2, 0, (some 0)⟩ : Addr) 4)) fun (x9 : Int) =>
          condK (x8 == x9) (
            bindO (ldB h1 (add (⟨b1, 0, (some 0)⟩ : Addr) 6)) fun (x10 : Bool) =>
            bindO (ldB h1 (add (⟨b2, 0, (some 0)⟩ : Addr) 6)) fun (x11 : Bool) =>
            condK (x10 == x11) (
              bindO (ldL h1 (add (⟨b1, 0, (some 0)⟩ : Addr) 7)) fun (x12 : Sl) =>
              bindO (ldL h1 (add (⟨b2, 0, (some 0)⟩ : Addr) 7)) fun (x13 : Sl) =>
              bind2 (slices_Equal_byte x12 x13 h1) fun (x14 : Bool) (h2 : H) =>
              condK x14 (
                bindO (ldL h2 (add (⟨b1, 0, (some 0)⟩ : Addr) 8)) fun (x15 : Sl) =>
                bindO (ldL h2 (add (⟨b2, 0, (some 0)⟩ : Addr) 8)) fun (x16 : Sl) =>
                bind2 (slices_Equal_2_int_2_int x15 x16 h2) fun (x17 : Bool) (h3 : H) =>
                some (x17, h3)) (
                some (false, h2))) (
              some (false, h1))) (
            some (false, h1))) (
          some (false, h1))) (
        some (false, h1))) (
      some (false, h1))) (
    some (false, h1))
noncomputable def frame_same : (Int × Int × Int × Int × Int × Int × Bool × Sl × Sl) → (Int × Int × Int × Int × Int × Int × Bool × Sl × Sl) → H → Option ((Bool) × H) := P.frame_same slices_Equal_byte slices_Equal_2_int_2_int
noncomputable def ann_76 : Ann := ⟨fun _ => none, fun _ => none, fun _ => none⟩
noncomputable def E_76 : Ent := ⟨76, [⟨true, [.int .i64, .int .i64, .int .i64, .int .i64, .int .i64, .int .i64, .bool, .sl, .sl]⟩, ⟨true, [.int .i64, .int .i64, .int .i64, .int .i64, .int .i64, .int .i64, .bool, .sl, .sl]⟩], [⟨false, [.bool]⟩], fun (x : ((Int × Int × Int × Int × Int × Int × Bool × Sl × Sl)) × ((Int × Int × Int × Int × Int × Int × Bool × Sl × Sl))) h => frame_same x.1 x.2 h⟩
theorem eq_76 (slices_Equal_byte : Sl → Sl → H → Option ((Bool) × H)) (slices_Equal_2_int_2_int : Sl → Sl → H → Option ((Bool) × H)) : (fun (x : PT E_76.ps) (h : H) => runFK Go.Proofs.Ytaebjajbogedkaa.Tab.D (lstK [⟨91, [⟨false, [.sl]⟩, ⟨false, [.sl]⟩], [⟨false, [.bool]⟩], fun (x : Sl × Sl) h => slices_Equal_byte x.1 x.2 h⟩, ⟨92, [⟨false, [.sl]⟩, ⟨false, [.sl]⟩], [⟨false, [.bool]⟩], fun (x : Sl × Sl) h => slices_Equal_2_int_2_int x.1 x.2 h⟩]) ann_76 Try.f76 (Try.f76.body.getD .skip) E_76.ys (encP E_76.ps x) h) = (fun (x : ((Int × Int × Int × Int × Int × Int × Bool × Sl × Sl)) × ((Int × Int × Int × Int × Int × Int × Bool × Sl × Sl))) h => P.frame_same slices_Equal_byte slices_Equal_2_int_2_int x.1 x.2 h) := by kernel_rfl
theorem ok_76 : E_76.ok Go.Proofs.Ytaebjajbogedkaa.Tab.D := fun x h y h' e => runFK_ok (lstK_ok [E_91, E_92] (List.forall_mem_cons.2 ⟨ok_91, List.forall_mem_cons.2 ⟨ok_92, fun E h => nomatch h⟩⟩)) (A := ann_76) (by kernel_rfl) (show Go.Proofs.Ytaebjajbogedkaa.Tab.D.fn.get 76 = some Try.f76 by kernel_rfl) (show Try.f76.body = some (Try.f76.body.getD .skip) by kernel_rfl) ((congrFun (congrFun (eq_76 slices_Equal_byte slices_Equal_2_int_2_int) x) h).trans e)
/-! frame_may_1 -/
noncomputable def frame_may_1 (n : Int) (h : H) : Option (Bool × H) :=
  condK (decide ((n < 0))) (
    some (true, h)) (
    some ((decide ((n > 4611686018427387903))), h))
noncomputable def ann_94 : Ann := ⟨fun _ => none, fun _ => none, fun _ => none⟩
noncomputable def E_94 : Ent := ⟨94, [⟨false, [.int .i64]⟩], [⟨false, [.bool]⟩], fun (x : Int) h => frame_may_1 x h⟩
theorem eq_94  : (fun (x : PT E_94.ps) (h : H) => runFK Go.Proofs.Ytaebjajbogedkaa.Tab.D (lstK []) ann_94 Try.f94 (Try.f94.body.getD .skip) E_94.ys (encP E_94.ps x) h) = (fun (x : Int) h => frame_may_1 x h) := by kernel_rfl
theorem ok_94 : E_94.ok Go.Proofs.Ytaebjajbogedkaa.Tab.D := fun x h y h' e => runFK_ok (lstK_ok [] (fun E h => nomatch h)) (A := ann_94) (by kernel_rfl) (show Go.Proofs.Ytaebjajbogedkaa.Tab.D.fn.get 94 = some Try.f94 by kernel_rfl) (show Try.f94.body = some (Try.f94.body.getD .skip) by kernel_rfl) ((congrFun (congrFun (eq_94 ) x) h).trans e)
/-! slices_IndexFunc_int_frame_may_1 -/
noncomputable def P.slices_IndexFunc_int_frame_may_1_l1 (frame_may_1 : Int → H → Option ((Bool) × H)) : ((Sl × (PUnit × (Int × Int))) × H) → Option (((Sl × (PUnit × (Int × Int))) × H) ⊕ (Int × H)) := fun ((s, ((), (f, x0))), h0) =>
  condK (decide ((x0 < f))) (
    bindO (ixT 1 s x0) fun (a0 : Addr) =>
    bindO (ldI .i64 h0 a0) fun (x1 : Int) =>
    bind2 (frame_may_1 x1 h0) fun (x2 : Bool) (h1 : H) =>
    condK x2 (
      some (Sum.inr (x0, h1))) (
      some (Sum.inl ((s, ((), (f, (IntKind.wrap .i64 (x0 + 1))))), h1)))) (
    some (Sum.inr ((-1), h0)))

noncomputable def P.slices_IndexFunc_int_frame_may_1 (frame_may_1 : Int → H → Option ((Bool) × H)) (s : Sl) (f : Unit) (h : H) : Option (Int × H) :=
  loopO (P.slices_IndexFunc_int_frame_may_1_l1 frame_may_1) ((s, ((), (((s.len : Nat) : Int), 0))), h)
noncomputable abbrev slices_IndexFunc_int_frame_may_1_l1 := P.slices_IndexFunc_int_frame_may_1_l1 frame_may_1
noncomputable def slices_IndexFunc_int_frame_may_1 : Sl → Unit → H → Option ((Int) × H) := P.slices_IndexFunc_int_frame_may_1 frame_may_1
noncomputable def ann_97c94 : Ann := ⟨fun _ => none, fun i => bif i.beq 2 then some ⟨[0, 1, 7, 8], [⟨false, [.sl]⟩, ⟨false, [.clo 94 0]⟩, ⟨false, [.int .i64]⟩, ⟨false, [.int .i64]⟩]⟩ else none, fun _ => none⟩
noncomputable def E_97c94 : Ent := ⟨97, [⟨false, [.sl]⟩, ⟨false, [.clo 94 0]⟩], [⟨false, [.int .i64]⟩], fun (x : Sl × Unit) h => slices_IndexFunc_int_frame_may_1 x.1 x.2 h⟩
theorem eq_97c94 (frame_may_1 : Int → H → Option ((Bool) × H)) : (fun (x : PT E_97c94.ps) (h : H) => runFK Go.Proofs.Ytaebjajbogedkaa.Tab.D (lstK [⟨94, [⟨false, [.int .i64]⟩], [⟨false, [.bool]⟩], fun (x : Int) h => frame_may_1 x h⟩]) ann_97c94 Try.f97 (Try.f97.body.getD .skip) E_97c94.ys (encP E_97c94.ps x) h) = (fun (x : Sl × Unit) h => P.slices_IndexFunc_int_frame_may_1 frame_may_1 x.1 x.2 h) := by kernel_rfl
theorem ok_97c94 : E_97c94.ok Go.Proofs.Ytaebjajbogedkaa.Tab.D := fun x h y h' e => runFK_ok (lstK_ok [E_94] (List.forall_mem_cons.2 ⟨ok_94, fun E h => nomatch h⟩)) (A := ann_97c94) (by kernel_rfl) (show Go.Proofs.Ytaebjajbogedkaa.Tab.D.fn.get 97 = some Try.f97 by kernel_rfl) (show Try.f97.body = some (Try.f97.body.getD .skip) by kernel_rfl) ((congrFun (congrFun (eq_97c94 frame_may_1) x) h).trans e)
/-! slices_ContainsFunc_int_frame_may_1 -/
noncomputable def P.slices_ContainsFunc_int_frame_may_1 (slices_IndexFunc_int_frame_may_1 : Sl → Unit → H → Option ((Int) × H)) (s : Sl) (f : Unit) (h : H) : Option (Bool × H) :=
  bind2 (slices_IndexFunc_int_frame_may_1 s () h) fun (x0 : Int) (h0 : H) =>
  some ((decide ((x0 ≥ 0))), h0)
noncomputable def slices_ContainsFunc_int_frame_may_1 : Sl → Unit → H → Option ((Bool) × H) := P.slices_ContainsFunc_int_frame_may_1 slices_IndexFunc_int_frame_may_1
noncomputable def ann_93c94 : Ann := ⟨fun _ => none, fun _ => none, fun _ => none⟩
noncomputable def E_93c94 : Ent := ⟨93, [⟨false, [.sl]⟩, ⟨false, [.clo 94 0]⟩], [⟨false, [.bool]⟩], fun (x : Sl × Unit) h => slices_ContainsFunc_int_frame_may_1 x.1 x.2 h⟩
theorem eq_93c94 (slices_IndexFunc_int_frame_may_1 : Sl → Unit → H → Option ((Int) × H)) : (fun (x : PT E_93c94.ps) (h : H) => runFK Go.Proofs.Ytaebjajbogedkaa.Tab.D (lstK [⟨97, [⟨false, [.sl]⟩, ⟨false, [.clo 94 0]⟩], [⟨false, [.int .i64]⟩], fun (x : Sl × Unit) h => slices_IndexFunc_int_frame_may_1 x.1 x.2 h⟩]) ann_93c94 Try.f93 (Try.f93.body.getD .skip) E_93c94.ys (encP E_93c94.ps x) h) = (fun (x : Sl × Unit) h => P.slices_ContainsFunc_int_frame_may_1 slices_IndexFunc_int_frame_may_1 x.1 x.2 h) := by kernel_rfl
theorem ok_93c94 : E_93c94.ok Go.Proofs.Ytaebjajbogedkaa.Tab.D := fun x h y h' e => runFK_ok (lstK_ok [E_97c94] (List.forall_mem_cons.2 ⟨ok_97c94, fun E h => nomatch h⟩)) (A := ann_93c94) (by kernel_rfl) (show Go.Proofs.Ytaebjajbogedkaa.Tab.D.fn.get 93 = some Try.f93 by kernel_rfl) (show Try.f93.body = some (Try.f93.body.getD .skip) by kernel_rfl) ((congrFun (congrFun (eq_93c94 slices_IndexFunc_int_frame_may_1) x) h).trans e)
/-! frame_may -/
noncomputable def P.frame_may (slices_ContainsFunc_int_frame_may_1 : Sl → Unit → H → Option ((Bool) × H)) (l : Sl) (h : H) : Option (Bool × H) :=
  bind2 (slices_ContainsFunc_int_frame_may_1 l () h) fun (x0 : Bool) (h0 : H) =>
  some ((!x0), h0)
noncomputable def frame_may : Sl → H → Option ((Bool) × H) := P.frame_may slices_ContainsFunc_int_frame_may_1
noncomputable def ann_78 : Ann := ⟨fun _ => none, fun _ => none, fun _ => none⟩
noncomputable def E_78 : Ent := ⟨78, [⟨false, [.sl]⟩], [⟨false, [.bool]⟩], fun (x : Sl) h => frame_may x h⟩
theorem eq_78 (slices_ContainsFunc_int_frame_may_1 : Sl → Unit → H → Option ((Bool) × H)) : (fun (x : PT E_78.ps) (h : H) => runFK Go.Proofs.Ytaebjajbogedkaa.Tab.D (lstK [⟨93, [⟨false, [.sl]⟩, ⟨false, [.clo 94 0]⟩], [⟨false, [.bool]⟩], fun (x : Sl × Unit) h => slices_ContainsFunc_int_frame_may_1 x.1 x.2 h⟩]) ann_78 Try.f78 (Try.f78.body.getD .skip) E_78.ys (encP E_78.ps x) h) = (fun (x : Sl) h => P.frame_may slices_ContainsFunc_int_frame_may_1 x h) := by kernel_rfl
theorem ok_78 : E_78.ok Go.Proofs.Ytaebjajbogedkaa.Tab.D := fun x h y h' e => runFK_ok (lstK_ok [E_93c94] (List.forall_mem_cons.2 ⟨ok_93c94, fun E h => nomatch h⟩)) (A := ann_78) (by kernel_rfl) (show Go.Proofs.Ytaebjajbogedkaa.Tab.D.fn.get 78 = some Try.f78 by kernel_rfl) (show Try.f78.body = some (Try.f78.body.getD .skip) by kernel_rfl) ((congrFun (congrFun (eq_78 slices_ContainsFunc_int_frame_may_1) x) h).trans e)
/-! frame_rightSpans -/
noncomputable def P.frame_rightSpans_l1 (frame_may : Sl → H → Option ((Bool) × H)) : ((Sl × (Sl × (Int × Int))) × H) → Option (((Sl × (Sl × (Int × Int))) × H) ⊕ ((Sl × H) ⊕ (Bool × H))) := fun ((l, (x0, (x1, x2))), h0) =>
  condK (decide ((x2 < x1))) (
    bindO (ixT 2 x0 x2) fun (a0 : Addr) =>
    bindO (ldZ [.int .i64, .int .i64] h0 a0) fun ((x3, x4) : Int × Int) =>
    newO (row 100 [(.int .i64 0), (.int .i64 0)]) h0 fun (b : Nat) (h1 : H) =>
    bindO (stZ [.int .i64, .int .i64] h1 (⟨b, 0, (some 0)⟩ : Addr) ((x3, x4) : Int × Int)) fun (h2 : H) =>
    joinO (
      letH (growIf h2 30) fun (h3 : H) =>
      bindO (ixAT 2 1 (⟨b, 0, (some 0)⟩ : Addr) 0) fun (a1 : Addr) =>
      bindO (ldI .i64 h3 a1) fun (x5 : Int) =>
      bindO (ixAT 2 1 (⟨b, 0, (some 0)⟩ : Addr) 1) fun (a2 : Addr) =>
      bindO (ldI .i64 h3 a2) fun (x6 : Int) =>
      letH (addP 31 h2.size [(4, (row 3 [(.int .i64 x5), (.int .i64 x6)]))] h3) fun (h4 : H) =>
      bind2 (frame_may (⟨(some (⟨(h2.size + 4), 0, (some 0)⟩ : Addr)), 2, 2⟩ : Sl) h4) fun (x7 : Bool) (h5 : H) =>
      condK (!x7) (
        letH (addP 1073741823 h2.size [(4, (row 3 [(.int .i64 x5), (.int .i64 x6)]))] h5) fun (h6 : H) =>
        letH (tickIf 30 h6) fun (h7 : H) =>
        some (Sum.inl ((l, (x0, (x1, (x2, true)))), h7))) (
        bindO (ixAT 2 1 (⟨b, 0, (some 0)⟩ : Addr) 0) fun (a3 : Addr) =>
        letH (addP 511 h2.size [(4, (row 3 [(.int .i64 x5), (.int .i64 x6)]))] h5) fun (h8 : H) =>
        bindO (ldI .i64 h8 a3) fun (x8 : Int) =>
        bindO (ixAT 2 1 (⟨b, 0, (some 0)⟩ : Addr) 1) fun (a4 : Addr) =>
        letH (addP 1279 h2.size [(4, (row 3 [(.int .i64 x5), (.int .i64 x6)]))] h5) fun (h9 : H) =>
        bindO (ldI .i64 h9 a4) fun (x9 : Int) =>
        condK (decide ((x8 > x9))) (
          letH (addP 1073741823 h2.size [(4, (row 3 [(.int .i64 x5), (.int .i64 x6)]))] h5) fun (h10 : H) =>
          letH (tickIf 30 h10) fun (h11 : H) =>
          some (Sum.inl ((l, (x0, (x1, (x2, true)))), h11))) (
          condK (decide ((x2 > 0))) (
            bindO (ixT 2 l (IntKind.wrap .i64 (x2 - 1))) fun (a5 : Addr) =>
            bindO (ixAT 2 1 a5 0) fun (a6 : Addr) =>
            letH (addP 8388607 h2.size [(4, (row 3 [(.int .i64 x5), (.int .i64 x6)]))] h5) fun (h12 : H) =>
            bindO (ldI .i64 h12 a6) fun (x10 : Int) =>
            bindO (ixAT 2 1 (⟨b, 0, (some 0)⟩ : Addr) 1) fun (a7 : Addr) =>
            letH (addP 17039359 h2.size [(4, (row 3 [(.int .i64 x5), (.int .i64 x6)]))] h5) fun (h13 : H) =>
            bindO (ldI .i64 h13 a7) fun (x11 : Int) =>
            letH (addP 1073741823 h2.size [(4, (row 3 [(.int .i64 x5), (.int .i64 x6)]))] h5) fun (h14 : H) =>
            letH (tickIf 30 h14) fun (h15 : H) =>
            some (Sum.inl ((l, (x0, (x1, (x2, (decide (((IntKind.wrap .i64 (x10 - x11)) < 2))))))), h15))) (
            letH (addP 1073741823 h2.size [(4, (row 3 [(.int .i64 x5), (.int .i64 x6)]))] h5) fun (h16 : H) =>
            letH (tickIf 30 h16) fun (h17 : H) =>
            some (Sum.inl ((l, (x0, (x1, (x2, false)))), h17)))))) fun (((l1, (x5, (x6, (x7, x8)))), h3) : ((Sl × (Sl × (Int × (Int × Bool)))) × H)) =>
    condK x8 (
      some (Sum.inr (Sum.inr (false, h3)))) (
      some (Sum.inl ((l1, (x5, (x6, (IntKind.wrap .i64 (x7 + 1))))), h3)))) (
    some (Sum.inr (Sum.inl (l, h0))))

noncomputable def P.frame_rightSpans (frame_may : Sl → H → Option ((Bool) × H)) (l : Sl) (h : H) : Option (Bool × H) :=
  joinO (
    loopO (P.frame_rightSpans_l1 frame_may) ((l, (l, (((l.len : Nat) : Int), 0))), h)) fun ((l1, h0) : (Sl × H)) =>
  condK (decide ((((l1.len : Nat) : Int) ≥ 1))) (
    some ((decide ((((l1.len : Nat) : Int) ≤ 8))), h0)) (
    some (false, h0))
noncomputable abbrev frame_rightSpans_l1 := P.frame_rightSpans_l1 frame_may
noncomputable def frame_rightSpans : Sl → H → Option ((Bool) × H) := P.frame_rightSpans frame_may
noncomputable def ann_79 : Ann := ⟨fun i => bif i.beq 7 then some ⟨[0], [⟨false, [.sl]⟩]⟩ else none, fun i => bif i.beq 2 then some ⟨[0, 5, 6, 7], [⟨false, [.sl]⟩, ⟨false, [.sl]⟩, ⟨false, [.int .i64]⟩, ⟨false, [.int .i64]⟩]⟩ else none, fun i => bif i.beq 4 then some ⟨[0, 5, 6, 7, 41], [⟨false, [.sl]⟩, ⟨false, [.sl]⟩, ⟨false, [.int .i64]⟩, ⟨false, [.int .i64]⟩, ⟨false, [.bool]⟩]⟩ else none⟩
noncomputable def E_79 : Ent := ⟨79, [⟨false, [.sl]⟩], [⟨false, [.bool]⟩], fun (x : Sl) h => frame_rightSpans x h⟩
theorem eq_79 (frame_may : Sl → H → Option ((Bool) × H)) : (fun (x : PT E_79.ps) (h : H) => runFK Go.Proofs.Ytaebjajbogedkaa.Tab.D (lstK [⟨78, [⟨false, [.sl]⟩], [⟨false, [.bool]⟩], fun (x : Sl) h => frame_may x h⟩]) ann_79 Try.f79 (Try.f79.body.getD .skip) E_79.ys (encP E_79.ps x) h) = (fun (x : Sl) h => P.frame_rightSpans frame_may x h) := by kernel_rfl
theorem ok_79 : E_79.ok Go.Proofs.Ytaebjajbogedkaa.Tab.D := fun x h y h' e => runFK_ok (lstK_ok [E_78] (List.forall_mem_cons.2 ⟨ok_78, fun E h => nomatch h⟩)) (A := ann_79) (by kernel_rfl) (show Go.Proofs.Ytaebjajbogedkaa.Tab.D.fn.get 79 = some Try.f79 by kernel_rfl) (show Try.f79.body = some (Try.f79.body.getD .skip) by kernel_rfl) ((congrFun (congrFun (eq_79 frame_may) x) h).trans e)
/-! frame_Right -/
noncomputable def P.frame_Right (frame_bare : (Int × Int × Int × Int × Int × Int × Bool × Sl × Sl) → H → Option (((Int × Int × Int × Int × Int × Int × Bool × Sl × Sl)) × H)) (frame_same : (Int × Int × Int × Int × Int × Int × Bool × Sl × Sl) → (Int × Int × Int × Int × Int × Int × Bool × Sl × Sl) → H → Option ((Bool) × H)) (frame_may : Sl → H → Option ((Bool) × H)) (frame_rightSpans : Sl → H → Option ((Bool) × H)) (f : Int × Int × Int × Int × Int × Int × Bool × Sl × Sl) (h : H) : Option (Bool × H) :=
  newO (row 47 [(.int .i64 f.1), (.int .i64 f.2.1), (.int .i64 f.2.2.1), (.int .i64 f.2.2.2.1), (.int .i64 f.2.2.2.2.1), (.int .i64 f.2.2.2.2.2.1), (.bool f.2.2.2.2.2.2.1), (.slice f.2.2.2.2.2.2.2.1.base f.2.2.2.2.2.2.2.1.len f.2.2.2.2.2.2.2.1.cap), (.slice f.2.2.2.2.2.2.2.2.base f.2.2.2.2.2.2.2.2.len f.2.2.2.2.2.2.2.2.cap)]) h fun (b : Nat) (h0 : H) =>
  joinO (
    letH (growIf h0 34) fun (h1 : H) =>
    bindO (ldI .i64 h1 (add (⟨b, 0, (some 0)⟩ : Addr) 0)) fun (x0 : Int) =>
    condK (decide ((x0 < 1))) (
      letH (tickIf 34 h1) fun (h2 : H) =>
      some (Sum.inl (((some (⟨b, 0, (some 0)⟩ : Addr)), true), h2))) (
      bindO (ldI .i64 h1 (add (⟨b, 0, (some 0)⟩ : Addr) 0)) fun (x1 : Int) =>
      condK (decide ((x1 > 12))) (
        letH (tickIf 34 h1) fun (h3 : H) =>
        some (Sum.inl (((some (⟨b, 0, (some 0)⟩ : Addr)), true), h3))) (
        bindO (ldZ [.int .i64, .int .i64, .int .i64, .int .i64, .int .i64, .int .i64, .bool, .sl, .sl] h1 (⟨b, 0, (some 0)⟩ : Addr)) fun ((x2, x3, x4, x5, x6, x7, x8, x9, x10) : Int × Int × Int × Int × Int × Int × Bool × Sl × Sl) =>
        bindO (ldZ [.int .i64, .int .i64, .int .i64, .int .i64, .int .i64, .int .i64, .bool, .sl, .sl] h1 (⟨b, 0, (some 0)⟩ : Addr)) fun ((x11, x12, x13, x14, x15, x16, x17, x18, x19) : Int × Int × Int × Int × Int × Int × Bool × Sl × Sl) =>
        bind2 (frame_bare (x11, x12, x13, x14, x15, x16, x17, x18, x19) h1) fun ((x20, x21, x22, x23, x24, x25, x26, x27, x28) : Int × Int × Int × Int × Int × Int × Bool × Sl × Sl) (h4 : H) =>
        bind2 (frame_same (x2, x3, x4, x5, x6, x7, x8, x9, x10) (x20, x21, x22, x23, x24, x25, x26, x27, x28) h4) fun (x29 : Bool) (h5 : H) =>
        condK (!x29) (
          bindO (ldZ [.int .i64, .int .i64, .int .i64, .int .i64, .int .i64, .int .i64, .bool, .sl, .sl] h4 (⟨b, 0, (some 0)⟩ : Addr)) fun ((x30, x31, x32, x33, x34, x35, x36, x37, x38) : Int × Int × Int × Int × Int × Int × Bool × Sl × Sl) =>
          condK (veq (.agg #[(.int .i64 x2), (.int .i64 x3), (.int .i64 x4), (.int .i64 x5), (.int .i64 x6), (.int .i64 x7), (.bool x8), (.slice x9.base x9.len x9.cap), (.slice x10.base x10.len x10.cap)]) (.agg #[(.int .i64 x30), (.int .i64 x31), (.int .i64 x32), (.int .i64 x33), (.int .i64 x34), (.int .i64 x35), (.bool x36), (.slice x37.base x37.len x37.cap), (.slice x38.base x38.len x38.cap)])) (
            letH (tickIf 34 h5) fun (h6 : H) =>
            some (Sum.inl (((some (⟨b, 0, (some 0)⟩ : Addr)), true), h6))) none) (
          bindO (ldI .i64 h5 (add (⟨b, 0, (some 0)⟩ : Addr) 1)) fun (x39 : Int) =>
          bindO (ldI .i64 h5 (add (⟨b, 0, (some 0)⟩ : Addr) 2)) fun (x40 : Int) =>
          bindO (ldI .i64 h5 (add (⟨b, 0, (some 0)⟩ : Addr) 3)) fun (x41 : Int) =>
          bindO (ldI .i64 h5 (add (⟨b, 0, (some 0)⟩ : Addr) 4)) fun (x42 : Int) =>
          letH (addP 33554431 h0.size [(24, (row 3 [(.int .i64 x39), (.int .i64 x40), (.int .i64 x41), (.int .i64 x42)]))] h5) fun (h7 : H) =>
          bind2 (frame_may (⟨(some (⟨(h0.size + 24), 0, (some 0)⟩ : Addr)), 4, 4⟩ : Sl) h7) fun (x43 : Bool) (h8 : H) =>
          condK (!x43) (
            letH (addP 511 h0.size [(24, (row 3 [(.int .i64 x39), (.int .i64 x40), (.int .i64 x41), (.int .i64 x42)]))] h4) fun (h9 : H) =>
            bindO (ldZ [.int .i64, .int .i64, .int .i64, .int .i64, .int .i64, .int .i64, .bool, .sl, .sl] h9 (⟨b, 0, (some 0)⟩ : Addr)) fun ((x44, x45, x46, x47, x48, x49, x50, x51, x52) : Int × Int × Int × Int × Int × Int × Bool × Sl × Sl) =>
            condK (veq (.agg #[(.int .i64 x2), (.int .i64 x3), (.int .i64 x4), (.int .i64 x5), (.int .i64 x6), (.int .i64 x7), (.bool x8), (.slice x9.base x9.len x9.cap), (.slice x10.base x10.len x10.cap)]) (.agg #[(.int .i64 x44), (.int .i64 x45), (.int .i64 x46), (.int .i64 x47), (.int .i64 x48), (.int .i64 x49), (.bool x50), (.slice x51.base x51.len x51.cap), (.slice x52.base x52.len x52.cap)])) (
              letH (addP 17179869183 h0.size [(24, (row 3 [(.int .i64 x39), (.int .i64 x40), (.int .i64 x41), (.int .i64 x42)]))] h8) fun (h10 : H) =>
              letH (tickIf 34 h10) fun (h11 : H) =>
              some (Sum.inl (((some (⟨b, 0, (some 0)⟩ : Addr)), true), h11))) none) (
            letH (addP 1073741823 h0.size [(24, (row 3 [(.int .i64 x39), (.int .i64 x40), (.int .i64 x41), (.int .i64 x42)]))] h8) fun (h12 : H) =>
            bindO (ldL h12 (add (⟨b, 0, (some 0)⟩ : Addr) 7)) fun (x53 : Sl) =>
            letH (addP 2147483647 h0.size [(24, (row 3 [(.int .i64 x39), (.int .i64 x40), (.int .i64 x41), (.int .i64 x42)]))] h8) fun (h13 : H) =>
            letH (addP 511 h0.size [(24, (row 3 [(.int .i64 x39), (.int .i64 x40), (.int .i64 x41), (.int .i64 x42)]))] h4) fun (h14 : H) =>
            bindO (ldZ [.int .i64, .int .i64, .int .i64, .int .i64, .int .i64, .int .i64, .bool, .sl, .sl] h14 (⟨b, 0, (some 0)⟩ : Addr)) fun ((x54, x55, x56, x57, x58, x59, x60, x61, x62) : Int × Int × Int × Int × Int × Int × Bool × Sl × Sl) =>
            condK (veq (.agg #[(.int .i64 x2), (.int .i64 x3), (.int .i64 x4), (.int .i64 x5), (.int .i64 x6), (.int .i64 x7), (.bool x8), (.slice x9.base x9.len x9.cap), (.slice x10.base x10.len x10.cap)]) (.agg #[(.int .i64 x54), (.int .i64 x55), (.int .i64 x56), (.int .i64 x57), (.int .i64 x58), (.int .i64 x59), (.bool x60), (.slice x61.base x61.len x61.cap), (.slice x62.base x62.len x62.cap)])) (
              letH (addP 17179869183 h0.size [(24, (row 3 [(.int .i64 x39), (.int .i64 x40), (.int .i64 x41), (.int .i64 x42)]))] h8) fun (h15 : H) =>
              letH (tickIf 34 h15) fun (h16 : H) =>
              some (Sum.inl (((some (⟨b, 0, (some 0)⟩ : Addr)), (decide ((((x53.len : Nat) : Int) > 120)))), h16))) none))))) fun (((f1, x0), h1) : (((Option Addr) × Bool) × H)) =>
  condK x0 (
    some (false, h1)) (
    ptrK f1 fun (a0 : Addr) =>
    bindO (ldI .i64 h1 (add a0 0)) fun (x1 : Int) =>
    condK (x1 == 2) (
      ptrK f1 fun (a1 : Addr) =>
      bindO (ldL h1 (add a1 8)) fun (x2 : Sl) =>
      bind2 (frame_rightSpans x2 h1) fun (x3 : Bool) (h2 : H) =>
      some (x3, h2)) (
      condK (x1 == 3) (
        ptrK f1 fun (a2 : Addr) =>
        bindO (ldI .i64 h1 (add a2 2)) fun (x4 : Int) =>
        ptrK f1 fun (a3 : Addr) =>
        bindO (ldL h1 (add a3 7)) fun (x5 : Sl) =>
        letO ((decide ((x4 ≤ (IntKind.wrap .i64 (4611686018427387903 - ((x5.len : Nat) : Int))))))) fun (x6 : Bool) =>
        some (x6, h1)) (
        condK (x1 == 4) (
          ptrK f1 fun (a4 : Addr) =>
          bindO (ldI .i64 h1 (add a4 4)) fun (x7 : Int) =>
          ptrK f1 fun (a5 : Addr) =>
          bindO (ldI .i64 h1 (add a5 2)) fun (x8 : Int) =>
          some ((decide ((x7 ≤ x8))), h1)) (
          condK (x1 == 9) (
            ptrK f1 fun (a6 : Addr) =>
            bindO (ldL h1 (add a6 7)) fun (x9 : Sl) =>
            some ((decide ((((x9.len : Nat) : Int) > 0))), h1)) (
            some (true, h1))))))
noncomputable def frame_Right : (Int × Int × Int × Int × Int × Int × Bool × Sl × Sl) → H → Option ((Bool) × H) := P.frame_Right frame_bare frame_same frame_may frame_rightSpans
noncomputable def ann_45 : Ann := ⟨fun _ => none, fun _ => none, fun i => bif i.beq 1 then some ⟨[1, 36], [⟨false, [.ptr]⟩, ⟨false, [.bool]⟩]⟩ else none⟩
noncomputable def E_45 : Ent := ⟨45, [⟨true, [.int .i64, .int .i64, .int .i64, .int .i64, .int .i64, .int .i64, .bool, .sl, .sl]⟩], [⟨false, [.bool]⟩], fun (x : (Int × Int × Int × Int × Int × Int × Bool × Sl × Sl)) h => frame_Right x h⟩
theorem eq_45 (frame_bare : (Int × Int × Int × Int × Int × Int × Bool × Sl × Sl) → H → Option (((Int × Int × Int × Int × Int × Int × Bool × Sl × Sl)) × H)) (frame_same : (Int × Int × Int × Int × Int × Int × Bool × Sl × Sl) → (Int × Int × Int × Int × Int × Int × Bool × Sl × Sl) → H → Option ((Bool) × H)) (frame_may : Sl → H → Option ((Bool) × H)) (frame_rightSpans : Sl → H → Option ((Bool) × H)) : (fun (x : PT E_45.ps) (h : H) => runFK Go.Proofs.Ytaebjajbogedkaa.Tab.D (lstK [⟨77, [⟨true, [.int .i64, .int .i64, .int .i64, .int .i64, .int .i64, .int .i64, .bool, .sl, .sl]⟩], [⟨true, [.int .i64, .int .i64, .int .i64, .int .i64, .int .i64, .int .i64, .bool, .sl, .sl]⟩], fun (x : (Int × Int × Int × Int × Int × Int × Bool × Sl × Sl)) h => frame_bare x h⟩, ⟨76, [⟨true, [.int .i64, .int .i64, .int .i64, .int .i64, .int .i64, .int .i64, .bool, .sl, .sl]⟩, ⟨true, [.int .i64, .int .i64, .int .i64, .int .i64, .int .i64, .int .i64, .bool, .sl, .sl]⟩], [⟨false, [.bool]⟩], fun (x : ((Int × Int × Int × Int × Int × Int × Bool × Sl × Sl)) × ((Int × Int × Int × Int × Int × Int × Bool × Sl × Sl))) h => frame_same x.1 x.2 h⟩, ⟨78, [⟨false, [.sl]⟩], [⟨false, [.bool]⟩], fun (x : Sl) h => frame_may x h⟩, ⟨79, [⟨false, [.sl]⟩], [⟨false, [.bool]⟩], fun (x : Sl) h => frame_rightSpans x h⟩]) ann_45 Try.f45 (Try.f45.body.getD .skip) E_45.ys (encP E_45.ps x) h) = (fun (x : (Int × Int × Int × Int × Int × Int × Bool × Sl × Sl)) h => P.frame_Right frame_bare frame_same frame_may frame_rightSpans x h) := by kernel_rfl
theorem ok_45 : E_45.ok Go.Proofs.Ytaebjajbogedkaa.Tab.D := fun x h y h' e => runFK_ok (lstK_ok [E_77, E_76, E_78, E_79] (List.forall_mem_cons.2 ⟨ok_77, List.forall_mem_cons.2 ⟨ok_76, List.forall_mem_cons.2 ⟨ok_78, List.forall_mem_cons.2 ⟨ok_79, fun E h => nomatch h⟩⟩⟩⟩)) (A := ann_45) (by kernel_rfl) (show Go.Proofs.Ytaebjajbogedkaa.Tab.D.fn.get 45 = some Try.f45 by kernel_rfl) (show Try.f45.body = some (Try.f45.body.getD .skip) by kernel_rfl) ((congrFun (congrFun (eq_45 frame_bare frame_same frame_may frame_rightSpans) x) h).trans e)
/-! frame_flag -/
noncomputable def frame_flag (fin : Bool) (h : H) : Option (Int × H) :=
  condK fin (
    some (1, h)) (
    some (0, h))
noncomputable def ann_81 : Ann := ⟨fun _ => none, fun _ => none, fun _ => none⟩
noncomputable def E_81 : Ent := ⟨81, [⟨false, [.bool]⟩], [⟨false, [.int .i64]⟩], fun (x : Bool) h => frame_flag x h⟩
theorem eq_81  : (fun (x : PT E_81.ps) (h : H) => runFK Go.Proofs.Ytaebjajbogedkaa.Tab.D (lstK []) ann_81 Try.f81 (Try.f81.body.getD .skip) E_81.ys (encP E_81.ps x) h) = (fun (x : Bool) h => frame_flag x h) := by kernel_rfl
theorem ok_81 : E_81.ok Go.Proofs.Ytaebjajbogedkaa.Tab.D := fun x h y h' e => runFK_ok (lstK_ok [] (fun E h => nomatch h)) (A := ann_81) (by kernel_rfl) (show Go.Proofs.Ytaebjajbogedkaa.Tab.D.fn.get 81 = some Try.f81 by kernel_rfl) (show Try.f81.body = some (Try.f81.body.getD .skip) by kernel_rfl) ((congrFun (congrFun (eq_81 ) x) h).trans e)
/-! frame_numbers -/
noncomputable def P.frame_numbers_l1 (frame_flag : Bool → H → Option ((Int) × H)) : (((Option Addr) × (Sl × (Sl × (Int × Int)))) × H) → Option ((((Option Addr) × (Sl × (Sl × (Int × Int)))) × H) ⊕ ((Sl × H) ⊕ (((Option Addr) × H) ⊕ (Sl × H)))) := fun ((f, (out, (x0, (x1, x2)))), h0) =>
  condK (decide ((x2 < x1))) (
    joinO (
      bindO (ixT 2 x0 x2) fun (a0 : Addr) =>
      bindO (ldZ [.int .i64, .int .i64] h0 a0) fun ((x3, x4) : Int × Int) =>
      newO (row 100 [(.int .i64 0), (.int .i64 0)]) h0 fun (b : Nat) (h1 : H) =>
      bindO (stZ [.int .i64, .int .i64] h1 (⟨b, 0, (some 0)⟩ : Addr) ((x3, x4) : Int × Int)) fun (h2 : H) =>
      condK (x2 == 0) (
        bindO (ixAT 2 1 (⟨b, 0, (some 0)⟩ : Addr) 1) fun (a1 : Addr) =>
        bindO (ldI .i64 h2 a1) fun (x5 : Int) =>
        bindO (ixAT 2 1 (⟨b, 0, (some 0)⟩ : Addr) 1) fun (a2 : Addr) =>
        bindO (ldI .i64 h2 a2) fun (x6 : Int) =>
        bindO (ixAT 2 1 (⟨b, 0, (some 0)⟩ : Addr) 0) fun (a3 : Addr) =>
        bindO (ldI .i64 h2 a3) fun (x7 : Int) =>
        newO (row 3 [(.int .i64 x5), (.int .i64 (IntKind.wrap .i64 (x6 - x7)))]) h2 fun (b1 : Nat) (h3 : H) =>
        bind2 (appT 3 1 8 h3 out (⟨(some (⟨b1, 0, (some 0)⟩ : Addr)), 2, 2⟩ : Sl)) fun (x8 : Sl) (h4 : H) =>
        some (Sum.inl ((f, (x8, (x0, (x1, x2)))), h4))) (
        ptrK f fun (a4 : Addr) =>
        letH (growIf h2 19) fun (h5 : H) =>
        bindO (ldL h5 (add a4 8)) fun (x9 : Sl) =>
        bindO (ixT 2 x9 (IntKind.wrap .i64 (x2 - 1))) fun (a5 : Addr) =>
        bindO (ixAT 2 1 a5 0) fun (a6 : Addr) =>
        bindO (ldI .i64 h5 a6) fun (x10 : Int) =>
        bindO (ixAT 2 1 (⟨b, 0, (some 0)⟩ : Addr) 1) fun (a7 : Addr) =>
        bindO (ldI .i64 h5 a7) fun (x11 : Int) =>
        bindO (ixAT 2 1 (⟨b, 0, (some 0)⟩ : Addr) 1) fun (a8 : Addr) =>
        bindO (ldI .i64 h5 a8) fun (x12 : Int) =>
        bindO (ixAT 2 1 (⟨b, 0, (some 0)⟩ : Addr) 0) fun (a9 : Addr) =>
        bindO (ldI .i64 h5 a9) fun (x13 : Int) =>
        letH (addP 131071 h2.size [(16, (row 3 [(.int .i64 (IntKind.wrap .i64 (x10 - x11))), (.int .i64 (IntKind.wrap .i64 (x12 - x13)))]))] h5) fun (h6 : H) =>
        bind2 (appT 3 1 8 h6 out (⟨(some (⟨(h2.size + 16), 0, (some 0)⟩ : Addr)), 2, 2⟩ : Sl)) fun (x14 : Sl) (h7 : H) =>
        letH (addP 524287 h2.size [(16, (row 3 [(.int .i64 (IntKind.wrap .i64 (x10 - x11))), (.int .i64 (IntKind.wrap .i64 (x12 - x13)))]))] h7) fun (h8 : H) =>
        letH (tickIf 19 h8) fun (h9 : H) =>
        some (Sum.inl ((f, (x14, (x0, (x1, x2)))), h9)))) fun (((f1, (out1, (x3, (x4, x5)))), h1) : (((Option Addr) × (Sl × (Sl × (Int × Int)))) × H)) =>
    some (Sum.inl ((f1, (out1, (x3, (x4, (IntKind.wrap .i64 (x5 + 1)))))), h1))) (
    some (Sum.inr (Sum.inl (out, h0))))

noncomputable def P.frame_numbers (frame_flag : Bool → H → Option ((Int) × H)) (f : Int × Int × Int × Int × Int × Int × Bool × Sl × Sl) (h : H) : Option (Sl × H) :=
  newO (row 47 [(.int .i64 f.1), (.int .i64 f.2.1), (.int .i64 f.2.2.1), (.int .i64 f.2.2.2.1), (.int .i64 f.2.2.2.2.1), (.int .i64 f.2.2.2.2.2.1), (.bool f.2.2.2.2.2.2.1), (.slice f.2.2.2.2.2.2.2.1.base f.2.2.2.2.2.2.2.1.len f.2.2.2.2.2.2.2.1.cap), (.slice f.2.2.2.2.2.2.2.2.base f.2.2.2.2.2.2.2.2.len f.2.2.2.2.2.2.2.2.cap)]) h fun (b : Nat) (h0 : H) =>
  joinO (
    bindO (ldI .i64 h0 (add (⟨b, 0, (some 0)⟩ : Addr) 0)) fun (x0 : Int) =>
    condK (x0 == 2) (
      bindO (ldI .i64 h0 (add (⟨b, 0, (some 0)⟩ : Addr) 0)) fun (x1 : Int) =>
      bindO (ldL h0 (add (⟨b, 0, (some 0)⟩ : Addr) 8)) fun (x2 : Sl) =>
      newO (row 3 [(.int .i64 x1), (.int .i64 ((x2.len : Nat) : Int))]) h0 fun (b1 : Nat) (h1 : H) =>
      joinO (
        bindO (ldL h1 (add (⟨b, 0, (some 0)⟩ : Addr) 8)) fun (x3 : Sl) =>
        loopO (P.frame_numbers_l1 frame_flag) (((some (⟨b, 0, (some 0)⟩ : Addr)), ((⟨(some (⟨b1, 0, (some 0)⟩ : Addr)), 2, 2⟩ : Sl), (x3, (((x3.len : Nat) : Int), 0)))), h1)) fun ((out, h2) : (Sl × H)) =>
      some (Sum.inr (out, h2))) (
      condK (x0 == 3) (
        letH (growIf h0 14) fun (h3 : H) =>
        bindO (ldI .i64 h3 (add (⟨b, 0, (some 0)⟩ : Addr) 0)) fun (x3 : Int) =>
        bindO (ldI .i64 h3 (add (⟨b, 0, (some 0)⟩ : Addr) 1)) fun (x4 : Int) =>
        bindO (ldI .i64 h3 (add (⟨b, 0, (some 0)⟩ : Addr) 2)) fun (x5 : Int) =>
        bindO (ldB h3 (add (⟨b, 0, (some 0)⟩ : Addr) 6)) fun (x6 : Bool) =>
        bind2 (frame_flag x6 h3) fun (x7 : Int) (h4 : H) =>
        bindO (ldL h4 (add (⟨b, 0, (some 0)⟩ : Addr) 7)) fun (x8 : Sl) =>
        letH (addP 1536 h0.size [(12, (row 3 [(.int .i64 x3), (.int .i64 x4), (.int .i64 x5), (.int .i64 x7), (.int .i64 ((x8.len : Nat) : Int))]))] h3) fun (h5 : H) =>
        condK (((x8.len : Nat) : Int) == ((x8.len : Nat) : Int)) (
          letH (addP 512 h0.size [(12, (row 3 [(.int .i64 x3), (.int .i64 x4), (.int .i64 x5), (.int .i64 x7), (.int .i64 ((x8.len : Nat) : Int))]))] h3) fun (h6 : H) =>
          bindO (ldL h6 (add (⟨b, 0, (some 0)⟩ : Addr) 7)) fun (x9 : Sl) =>
          condK (slEq x9.base x9.len x9.cap x8.base x8.len x8.cap) (
            letH (addP 16 h0.size [(12, (row 3 [(.int .i64 x3), (.int .i64 x4), (.int .i64 x5), (.int .i64 x7), (.int .i64 ((x8.len : Nat) : Int))]))] h4) fun (h7 : H) =>
            bindO (ldI .i64 h7 (add (⟨b, 0, (some 0)⟩ : Addr) 2)) fun (x10 : Int) =>
            condK (x10 == x5) (
              letH (addP 4 h0.size [(12, (row 3 [(.int .i64 x3), (.int .i64 x4), (.int .i64 x5), (.int .i64 x7), (.int .i64 ((x8.len : Nat) : Int))]))] h4) fun (h8 : H) =>
              bindO (ldI .i64 h8 (add (⟨b, 0, (some 0)⟩ : Addr) 1)) fun (x11 : Int) =>
              condK (x11 == x4) (
                letH (addP 1 h0.size [(12, (row 3 [(.int .i64 x3), (.int .i64 x4), (.int .i64 x5), (.int .i64 x7), (.int .i64 ((x8.len : Nat) : Int))]))] h4) fun (h9 : H) =>
                bindO (ldI .i64 h9 (add (⟨b, 0, (some 0)⟩ : Addr) 0)) fun (x12 : Int) =>
                condK (x12 == x3) (
                  letH (addP 16383 h0.size [(12, (row 3 [(.int .i64 x3), (.int .i64 x4), (.int .i64 x5), (.int .i64 x7), (.int .i64 ((x8.len : Nat) : Int))]))] h4) fun (h10 : H) =>
                  letH (tickIf 14 h10) fun (h11 : H) =>
                  some (Sum.inr ((⟨(some (⟨(h0.size + 12), 0, (some 0)⟩ : Addr)), 5, 5⟩ : Sl), h11))) none) none) none) none) none) (
        condK (x0 == 4) (
          bindO (ldI .i64 h0 (add (⟨b, 0, (some 0)⟩ : Addr) 0)) fun (x13 : Int) =>
          bindO (ldI .i64 h0 (add (⟨b, 0, (some 0)⟩ : Addr) 1)) fun (x14 : Int) =>
          bindO (ldI .i64 h0 (add (⟨b, 0, (some 0)⟩ : Addr) 3)) fun (x15 : Int) =>
          bindO (ldI .i64 h0 (add (⟨b, 0, (some 0)⟩ : Addr) 2)) fun (x16 : Int) =>
          bindO (ldI .i64 h0 (add (⟨b, 0, (some 0)⟩ : Addr) 4)) fun (x17 : Int) =>
          newO (row 3 [(.int .i64 x13), (.int .i64 x14), (.int .i64 x15), (.int .i64 x16), (.int .i64 x17)]) h0 fun (b2 : Nat) (h12 : H) =>
          some (Sum.inr ((⟨(some (⟨b2, 0, (some 0)⟩ : Addr)), 5, 5⟩ : Sl), h12))) (
          condK (x0 == 5) (
            condK (x0 == 5) (
              bindO (ldI .i64 h0 (add (⟨b, 0, (some 0)⟩ : Addr) 0)) fun (x18 : Int) =>
              bindO (ldI .i64 h0 (add (⟨b, 0, (some 0)⟩ : Addr) 1)) fun (x19 : Int) =>
              bindO (ldI .i64 h0 (add (⟨b, 0, (some 0)⟩ : Addr) 3)) fun (x20 : Int) =>
              newO (row 3 [(.int .i64 x18), (.int .i64 x19), (.int .i64 x20)]) h0 fun (b3 : Nat) (h13 : H) =>
              some (Sum.inr ((⟨(some (⟨b3, 0, (some 0)⟩ : Addr)), 3, 3⟩ : Sl), h13))) (
              condK (x0 == 6) (
                condK (x0 == 6) (
                  bindO (ldI .i64 h0 (add (⟨b, 0, (some 0)⟩ : Addr) 0)) fun (x21 : Int) =>
                  bindO (ldI .i64 h0 (add (⟨b, 0, (some 0)⟩ : Addr) 3)) fun (x22 : Int) =>
                  newO (row 3 [(.int .i64 x21), (.int .i64 x22)]) h0 fun (b4 : Nat) (h14 : H) =>
                  some (Sum.inr ((⟨(some (⟨b4, 0, (some 0)⟩ : Addr)), 2, 2⟩ : Sl), h14))) (
                  condK (x0 == 8) (
                    letH (growIf h0 9) fun (h15 : H) =>
                    bindO (ldI .i64 h15 (add (⟨b, 0, (some 0)⟩ : Addr) 0)) fun (x23 : Int) =>
                    bindO (ldI .i64 h15 (add (⟨b, 0, (some 0)⟩ : Addr) 3)) fun (x24 : Int) =>
                    bindO (ldB h15 (add (⟨b, 0, (some 0)⟩ : Addr) 6)) fun (x25 : Bool) =>
                    bind2 (frame_flag x25 h15) fun (x26 : Int) (h16 : H) =>
                    letH (addP 4 h0.size [(7, (row 3 [(.int .i64 x23), (.int .i64 x24), (.int .i64 x26)]))] h16) fun (h17 : H) =>
                    bindO (ldI .i64 h17 (add (⟨b, 0, (some 0)⟩ : Addr) 3)) fun (x27 : Int) =>
                    condK (x27 == x24) (
                      letH (addP 1 h0.size [(7, (row 3 [(.int .i64 x23), (.int .i64 x24), (.int .i64 x26)]))] h16) fun (h18 : H) =>
                      bindO (ldI .i64 h18 (add (⟨b, 0, (some 0)⟩ : Addr) 0)) fun (x28 : Int) =>
                      condK (x28 == x23) (
                        letH (addP 511 h0.size [(7, (row 3 [(.int .i64 x23), (.int .i64 x24), (.int .i64 x26)]))] h16) fun (h19 : H) =>
                        letH (tickIf 9 h19) fun (h20 : H) =>
                        some (Sum.inr ((⟨(some (⟨(h0.size + 7), 0, (some 0)⟩ : Addr)), 3, 3⟩ : Sl), h20))) none) none) (
                    condK (x0 == 9) (
                      bindO (ldI .i64 h0 (add (⟨b, 0, (some 0)⟩ : Addr) 0)) fun (x29 : Int) =>
                      bindO (ldL h0 (add (⟨b, 0, (some 0)⟩ : Addr) 7)) fun (x30 : Sl) =>
                      newO (row 3 [(.int .i64 x29), (.int .i64 ((x30.len : Nat) : Int))]) h0 fun (b5 : Nat) (h21 : H) =>
                      some (Sum.inr ((⟨(some (⟨b5, 0, (some 0)⟩ : Addr)), 2, 2⟩ : Sl), h21))) (
                      condK (x0 == 10) (
                        condK (x0 == 10) (
                          bindO (ldI .i64 h0 (add (⟨b, 0, (some 0)⟩ : Addr) 0)) fun (x31 : Int) =>
                          bindO (ldI .i64 h0 (add (⟨b, 0, (some 0)⟩ : Addr) 1)) fun (x32 : Int) =>
                          newO (row 3 [(.int .i64 x31), (.int .i64 x32)]) h0 fun (b6 : Nat) (h22 : H) =>
                          some (Sum.inr ((⟨(some (⟨b6, 0, (some 0)⟩ : Addr)), 2, 2⟩ : Sl), h22))) (
                          some (Sum.inl ((some (⟨b, 0, (some 0)⟩ : Addr)), h0)))) (
                        condK (x0 == 11) (
                          bindO (ldI .i64 h0 (add (⟨b, 0, (some 0)⟩ : Addr) 0)) fun (x33 : Int) =>
                          bindO (ldI .i64 h0 (add (⟨b, 0, (some 0)⟩ : Addr) 1)) fun (x34 : Int) =>
                          newO (row 3 [(.int .i64 x33), (.int .i64 x34)]) h0 fun (b7 : Nat) (h23 : H) =>
                          some (Sum.inr ((⟨(some (⟨b7, 0, (some 0)⟩ : Addr)), 2, 2⟩ : Sl), h23))) (
                          some (Sum.inl ((some (⟨b, 0, (some 0)⟩ : Addr)), h0)))))))) (
                condK (x0 == 12) (
                  bindO (ldI .i64 h0 (add (⟨b, 0, (some 0)⟩ : Addr) 0)) fun (x35 : Int) =>
                  bindO (ldI .i64 h0 (add (⟨b, 0, (some 0)⟩ : Addr) 3)) fun (x36 : Int) =>
                  newO (row 3 [(.int .i64 x35), (.int .i64 x36)]) h0 fun (b8 : Nat) (h24 : H) =>
                  some (Sum.inr ((⟨(some (⟨b8, 0, (some 0)⟩ : Addr)), 2, 2⟩ : Sl), h24))) (
                  condK (x0 == 8) (
                    letH (growIf h0 9) fun (h25 : H) =>
                    bindO (ldI .i64 h25 (add (⟨b, 0, (some 0)⟩ : Addr) 0)) fun (x37 : Int) =>
                    bindO (ldI .i64 h25 (add (⟨b, 0, (some 0)⟩ : Addr) 3)) fun (x38 : Int) =>
                    bindO (ldB h25 (add (⟨b, 0, (some 0)⟩ : Addr) 6)) fun (x39 : Bool) =>
                    bind2 (frame_flag x39 h25) fun (x40 : Int) (h26 : H) =>
                    letH (addP 4 h0.size [(7, (row 3 [(.int .i64 x37), (.int .i64 x38), (.int .i64 x40)]))] h26) fun (h27 : H) =>
                    bindO (ldI .i64 h27 (add (⟨b, 0, (some 0)⟩ : Addr) 3)) fun (x41 : Int) =>
                    condK (x41 == x38) (
                      letH (addP 1 h0.size [(7, (row 3 [(.int .i64 x37), (.int .i64 x38), (.int .i64 x40)]))] h26) fun (h28 : H) =>
                      bindO (ldI .i64 h28 (add (⟨b, 0, (some 0)⟩ : Addr) 0)) fun (x42 : Int) =>
                      condK (x42 == x37) (
                        letH (addP 511 h0.size [(7, (row 3 [(.int .i64 x37), (.int .i64 x38), (.int .i64 x40)]))] h26) fun (h29 : H) =>
                        letH (tickIf 9 h29) fun (h30 : H) =>
                        some (Sum.inr ((⟨(some (⟨(h0.size + 7), 0, (some 0)⟩ : Addr)), 3, 3⟩ : Sl), h30))) none) none) (
                    condK (x0 == 9) (
                      bindO (ldI .i64 h0 (add (⟨b, 0, (some 0)⟩ : Addr) 0)) fun (x43 : Int) =>
                      bindO (ldL h0 (add (⟨b, 0, (some 0)⟩ : Addr) 7)) fun (x44 : Sl) =>
                      newO (row 3 [(.int .i64 x43), (.int .i64 ((x44.len : Nat) : Int))]) h0 fun (b9 : Nat) (h31 : H) =>
                      some (Sum.inr ((⟨(some (⟨b9, 0, (some 0)⟩ : Addr)), 2, 2⟩ : Sl), h31))) (
                      condK (x0 == 10) (
                        condK (x0 == 10) (
                          bindO (ldI .i64 h0 (add (⟨b, 0, (some 0)⟩ : Addr) 0)) fun (x45 : Int) =>
                          bindO (ldI .i64 h0 (add (⟨b, 0, (some 0)⟩ : Addr) 1)) fun (x46 : Int) =>
                          newO (row 3 [(.int .i64 x45), (.int .i64 x46)]) h0 fun (b10 : Nat) (h32 : H) =>
                          some (Sum.inr ((⟨(some (⟨b10, 0, (some 0)⟩ : Addr)), 2, 2⟩ : Sl), h32))) (
                          some (Sum.inl ((some (⟨b, 0, (some 0)⟩ : Addr)), h0)))) (
                        condK (x0 == 11) (
                          bindO (ldI .i64 h0 (add (⟨b, 0, (some 0)⟩ : Addr) 0)) fun (x47 : Int) =>
                          bindO (ldI .i64 h0 (add (⟨b, 0, (some 0)⟩ : Addr) 1)) fun (x48 : Int) =>
                          newO (row 3 [(.int .i64 x47), (.int .i64 x48)]) h0 fun (b11 : Nat) (h33 : H) =>
                          some (Sum.inr ((⟨(some (⟨b11, 0, (some 0)⟩ : Addr)), 2, 2⟩ : Sl), h33))) (
                          some (Sum.inl ((some (⟨b, 0, (some 0)⟩ : Addr)), h0)))))))))) (
            condK (x0 == 7) (
              bindO (ldI .i64 h0 (add (⟨b, 0, (some 0)⟩ : Addr) 0)) fun (x49 : Int) =>
              bindO (ldI .i64 h0 (add (⟨b, 0, (some 0)⟩ : Addr) 1)) fun (x50 : Int) =>
              bindO (ldI .i64 h0 (add (⟨b, 0, (some 0)⟩ : Addr) 3)) fun (x51 : Int) =>
              newO (row 3 [(.int .i64 x49), (.int .i64 x50), (.int .i64 x51)]) h0 fun (b12 : Nat) (h34 : H) =>
              some (Sum.inr ((⟨(some (⟨b12, 0, (some 0)⟩ : Addr)), 3, 3⟩ : Sl), h34))) (
              condK (x0 == 6) (
                condK (x0 == 6) (
                  bindO (ldI .i64 h0 (add (⟨b, 0, (some 0)⟩ : Addr) 0)) fun (x52 : Int) =>
                  bindO (ldI .i64 h0 (add (⟨b, 0, (some 0)⟩ : Addr) 3)) fun (x53 : Int) =>
                  newO (row 3 [(.int .i64 x52), (.int .i64 x53)]) h0 fun (b13 : Nat) (h35 : H) =>
                  some (Sum.inr ((⟨(some (⟨b13, 0, (some 0)⟩ : Addr)), 2, 2⟩ : Sl), h35))) (
                  condK (x0 == 8) (
                    letH (growIf h0 9) fun (h36 : H) =>
                    bindO (ldI .i64 h36 (add (⟨b, 0, (some 0)⟩ : Addr) 0)) fun (x54 : Int) =>
                    bindO (ldI .i64 h36 (add (⟨b, 0, (some 0)⟩ : Addr) 3)) fun (x55 : Int) =>
                    bindO (ldB h36 (add (⟨b, 0, (some 0)⟩ : Addr) 6)) fun (x56 : Bool) =>
                    bind2 (frame_flag x56 h36) fun (x57 : Int) (h37 : H) =>
                    letH (addP 4 h0.size [(7, (row 3 [(.int .i64 x54), (.int .i64 x55), (.int .i64 x57)]))] h37) fun (h38 : H) =>
                    bindO (ldI .i64 h38 (add (⟨b, 0, (some 0)⟩ : Addr) 3)) fun (x58 : Int) =>
                    condK (x58 == x55) (
                      letH (addP 1 h0.size [(7, (row 3 [(.int .i64 x54), (.int .i64 x55), (.int .i64 x57)]))] h37) fun (h39 : H) =>
                      bindO (ldI .i64 h39 (add (⟨b, 0, (some 0)⟩ : Addr) 0)) fun (x59 : Int) =>
                      condK (x59 == x54) (
                        letH (addP 511 h0.size [(7, (row 3 [(.int .i64 x54), (.int .i64 x55), (.int .i64 x57)]))] h37) fun (h40 : H) =>
                        letH (tickIf 9 h40) fun (h41 : H) =>
                        some (Sum.inr ((⟨(some (⟨(h0.size + 7), 0, (some 0)⟩ : Addr)), 3, 3⟩ : Sl), h41))) none) none) (
                    condK (x0 == 9) (
                      bindO (ldI .i64 h0 (add (⟨b, 0, (some 0)⟩ : Addr) 0)) fun (x60 : Int) =>
                      bindO (ldL h0 (add (⟨b, 0, (some 0)⟩ : Addr) 7)) fun (x61 : Sl) =>
                      newO (row 3 [(.int .i64 x60), (.int .i64 ((x61.len : Nat) : Int))]) h0 fun (b14 : Nat) (h42 : H) =>
                      some (Sum.inr ((⟨(some (⟨b14, 0, (some 0)⟩ : Addr)), 2, 2⟩ : Sl), h42))) (
                      condK (x0 == 10) (
                        condK (x0 == 10) (
                          bindO (ldI .i64 h0 (add (⟨b, 0, (some 0)⟩ : Addr) 0)) fun (x62 : Int) =>
                          bindO (ldI .i64 h0 (add (⟨b, 0, (some 0)⟩ : Addr) 1)) fun (x63 : Int) =>
                          newO (row 3 [(.int .i64 x62), (.int .i64 x63)]) h0 fun (b15 : Nat) (h43 : H) =>
                          some (Sum.inr ((⟨(some (⟨b15, 0, (some 0)⟩ : Addr)), 2, 2⟩ : Sl), h43))) (
                          some (Sum.inl ((some (⟨b, 0, (some 0)⟩ : Addr)), h0)))) (
                        condK (x0 == 11) (
                          bindO (ldI .i64 h0 (add (⟨b, 0, (some 0)⟩ : Addr) 0)) fun (x64 : Int) =>
                          bindO (ldI .i64 h0 (add (⟨b, 0, (some 0)⟩ : Addr) 1)) fun (x65 : Int) =>
                          newO (row 3 [(.int .i64 x64), (.int .i64 x65)]) h0 fun (b16 : Nat) (h44 : H) =>
                          some (Sum.inr ((⟨(some (⟨b16, 0, (some 0)⟩ : Addr)), 2, 2⟩ : Sl), h44))) (
                          some (Sum.inl ((some (⟨b, 0, (some 0)⟩ : Addr)), h0)))))))) (
                condK (x0 == 12) (
                  bindO (ldI .i64 h0 (add (⟨b, 0, (some 0)⟩ : Addr) 0)) fun (x66 : Int) =>
                  bindO (ldI .i64 h0 (add (⟨b, 0, (some 0)⟩ : Addr) 3)) fun (x67 : Int) =>
                  newO (row 3 [(.int .i64 x66), (.int .i64 x67)]) h0 fun (b17 : Nat) (h45 : H) =>
                  some (Sum.inr ((⟨(some (⟨b17, 0, (some 0)⟩ : Addr)), 2, 2⟩ : Sl), h45))) (
                  condK (x0 == 8) (
                    letH (growIf h0 9) fun (h46 : H) =>
                    bindO (ldI .i64 h46 (add (⟨b, 0, (some 0)⟩ : Addr) 0)) fun (x68 : Int) =>
                    bindO (ldI .i64 h46 (add (⟨b, 0, (some 0)⟩ : Addr) 3)) fun (x69 : Int) =>
                    bindO (ldB h46 (add (⟨b, 0, (some 0)⟩ : Addr) 6)) fun (x70 : Bool) =>
                    bind2 (frame_flag x70 h46) fun (x71 : Int) (h47 : H) =>
                    letH (addP 4 h0.size [(7, (row 3 [(.int .i64 x68), (.int .i64 x69), (.int .i64 x71)]))] h47) fun (h48 : H) =>
                    bindO (ldI .i64 h48 (add (⟨b, 0, (some 0)⟩ : Addr) 3)) fun (x72 : Int) =>
                    condK (x72 == x69) (
                      letH (addP 1 h0.size [(7, (row 3 [(.int .i64 x68), (.int .i64 x69), (.int .i64 x71)]))] h47) fun (h49 : H) =>
                      bindO (ldI .i64 h49 (add (⟨b, 0, (some 0)⟩ : Addr) 0)) fun (x73 : Int) =>
                      condK (x73 == x68) (
                        letH (addP 511 h0.size [(7, (row 3 [(.int .i64 x68), (.int .i64 x69), (.int .i64 x71)]))] h47) fun (h50 : H) =>
                        letH (tickIf 9 h50) fun (h51 : H) =>
                        some (Sum.inr ((⟨(some (⟨(h0.size + 7), 0, (some 0)⟩ : Addr)), 3, 3⟩ : Sl), h51))) none) none) (
                    condK (x0 == 9) (
                      bindO (ldI .i64 h0 (add (⟨b, 0, (some 0)⟩ : Addr) 0)) fun (x74 : Int) =>
                      bindO (ldL h0 (add (⟨b, 0, (some 0)⟩ : Addr) 7)) fun (x75 : Sl) =>
                      newO (row 3 [(.int .i64 x74), (.int .i64 ((x75.len : Nat) : Int))]) h0 fun (b18 : Nat) (h52 : H) =>
                      some (Sum.inr ((⟨(some (⟨b18, 0, (some 0)⟩ : Addr)), 2, 2⟩ : Sl), h52))) (
                      condK (x0 == 10) (
                        condK (x0 == 10) (
                          bindO (ldI .i64 h0 (add (⟨b, 0, (some 0)⟩ : Addr) 0)) fun (x76 : Int) =>
                          bindO (ldI .i64 h0 (add (⟨b, 0, (some 0)⟩ : Addr) 1)) fun (x77 : Int) =>
                          newO (row 3 [(.int .i64 x76), (.int .i64 x77)]) h0 fun (b19 : Nat) (h53 : H) =>
                          some (Sum.inr ((⟨(some (⟨b19, 0, (some 0)⟩ : Addr)), 2, 2⟩ : Sl), h53))) (
                          some (Sum.inl ((some (⟨b, 0, (some 0)⟩ : Addr)), h0)))) (
                        condK (x0 == 11) (
                          bindO (ldI .i64 h0 (add (⟨b, 0, (some 0)⟩ : Addr) 0)) fun (x78 : Int) =>
                          bindO (ldI .i64 h0 (add (⟨b, 0, (some 0)⟩ : Addr) 1)) fun (x79 : Int) =>
                          newO (row 3 [(.int .i64 x78), (.int .i64 x79)]) h0 fun (b20 : Nat) (h54 : H) =>
                          some (Sum.inr ((⟨(some (⟨b20, 0, (some 0)⟩ : Addr)), 2, 2⟩ : Sl), h54))) (
                          some (Sum.inl ((some (⟨b, 0, (some 0)⟩ : Addr)), h0)))))))))))))) fun ((f1, h1) : ((Option Addr) × H)) =>
  ptrK f1 fun (a0 : Addr) =>
  bindO (ldI .i64 h1 (add a0 0)) fun (x0 : Int) =>
  newO (row 3 [(.int .i64 x0)]) h1 fun (b1 : Nat) (h2 : H) =>
  some ((⟨(some (⟨b1, 0, (some 0)⟩ : Addr)), 1, 1⟩ : Sl), h2)
noncomputable abbrev frame_numbers_l1 := P.frame_numbers_l1 frame_flag
noncomputable def frame_numbers : (Int × Int × Int × Int × Int × Int × Bool × Sl × Sl) → H → Option ((Sl) × H) := P.frame_numbers frame_flag
noncomputable def ann_47 : Ann := ⟨fun i => bif i.beq 10 then some ⟨[1, 3, 17, 18, 19], [⟨false, [.ptr]⟩, ⟨false, [.sl]⟩, ⟨false, [.sl]⟩, ⟨false, [.int .i64]⟩, ⟨false, [.int .i64]⟩]⟩ else bif i.beq 11 then some ⟨[3], [⟨false, [.sl]⟩]⟩ else bif i.beq 29 then some ⟨[1], [⟨false, [.ptr]⟩]⟩ else none, fun i => bif i.beq 5 then some ⟨[1, 3, 17, 18, 19], [⟨false, [.ptr]⟩, ⟨false, [.sl]⟩, ⟨false, [.sl]⟩, ⟨false, [.int .i64]⟩, ⟨false, [.int .i64]⟩]⟩ else none, fun _ => none⟩
noncomputable def E_47 : Ent := ⟨47, [⟨true, [.int .i64, .int .i64, .int .i64, .int .i64, .int .i64, .int .i64, .bool, .sl, .sl]⟩], [⟨false, [.sl]⟩], fun (x : (Int × Int × Int × Int × Int × Int × Bool × Sl × Sl)) h => frame_numbers x h⟩
theorem eq_47 (frame_flag : Bool → H → Option ((Int) × H)) : (fun (x : PT E_47.ps) (h : H) => runFK Go.Proofs.Ytaebjajbogedkaa.Tab.D (lstK [⟨81, [⟨false, [.bool]⟩], [⟨false, [.int .i64]⟩], fun (x : Bool) h => frame_flag x h⟩]) ann_47 Try.f47 (Try.f47.body.getD .skip) E_47.ys (encP E_47.ps x) h) = (fun (x : (Int × Int × Int × Int × Int × Int × Bool × Sl × Sl)) h => P.frame_numbers frame_flag x h) := by kernel_rfl
theorem ok_47 : E_47.ok Go.Proofs.Ytaebjajbogedkaa.Tab.D := fun x h y h' e => runFK_ok (lstK_ok [E_81] (List.forall_mem_cons.2 ⟨ok_81, fun E h => nomatch h⟩)) (A := ann_47) (by kernel_rfl) (show Go.Proofs.Ytaebjajbogedkaa.Tab.D.fn.get 47 = some Try.f47 by kernel_rfl) (show Try.f47.body = some (Try.f47.body.getD .skip) by kernel_rfl) ((congrFun (congrFun (eq_47 frame_flag) x) h).trans e)
/-! math_bits_Len32 -/
noncomputable def math_bits_Len32 (x0 : Int) (h : H) : Option (Int × H) :=
  joinO (
    condK (decide ((x0 ≥ 65536))) (
      some (Sum.inl (((Int.fdiv x0 65536), 16), h))) (
      some (Sum.inl ((x0, 0), h)))) fun (((x1, n), h0) : ((Int × Int) × H)) =>
  joinO (
    condK (decide ((x1 ≥ 256))) (
      some (Sum.inl (((Int.fdiv x1 256), (IntKind.wrap .i64 (n + 8))), h0))) (
      some (Sum.inl ((x1, n), h0)))) fun (((x2, n1), h1) : ((Int × Int) × H)) =>
  bindO (ixST (⟨#[0, 1, 2, 2, 3, 3, 3, 3, 4, 4, 4, 4, 4, 4, 4, 4, 5, 5, 5, 5, 5, 5, 5, 5, 5, 5, 5, 5, 5, 5, 5, 5, 6, 6, 6, 6, 6, 6, 6, 6, 6, 6, 6, 6, 6, 6, 6, 6, 6, 6, 6, 6, 6, 6, 6, 6, 6, 6, 6, 6, 6, 6, 6, 6, 7, 7, 7, 7, 7, 7, 7, 7, 7, 7, 7, 7, 7, 7, 7, 7, 7, 7, 7, 7, 7, 7, 7, 7, 7, 7, 7, 7, 7, 7, 7, 7, 7, 7, 7, 7, 7, 7, 7, 7, 7, 7, 7, 7, 7, 7, 7, 7, 7, 7, 7, 7, 7, 7, 7, 7, 7, 7, 7, 7, 7, 7, 7, 7, 8, 8, 8, 8, 8, 8, 8, 8, 8, 8, 8, 8, 8, 8, 8, 8, 8, 8, 8, 8, 8, 8, 8, 8, 8, 8, 8, 8, 8, 8, 8, 8, 8, 8, 8, 8, 8, 8, 8, 8, 8, 8, 8, 8, 8, 8, 8, 8, 8, 8, 8, 8, 8, 8, 8, 8, 8, 8, 8, 8, 8, 8, 8, 8, 8, 8, 8, 8, 8, 8, 8, 8, 8, 8, 8, 8, 8, 8, 8, 8, 8, 8, 8, 8, 8, 8, 8, 8, 8, 8, 8, 8, 8, 8, 8, 8, 8, 8, 8, 8, 8, 8, 8, 8, 8, 8, 8, 8, 8, 8, 8, 8, 8, 8, 8, 8, 8, 8, 8, 8, 8, 8, 8, 8, 8, 8, 8, 8]⟩ : ByteArray) (IntKind.wrap .u8 x2)) fun (x3 : Int) =>
  some ((IntKind.wrap .i64 (n1 + (IntKind.wrap .i64 x3))), h1)
noncomputable def ann_103 : Ann := ⟨fun i => bif i.beq 4 then some ⟨[0, 2], [⟨false, [.int .u32]⟩, ⟨false, [.int .i64]⟩]⟩ else bif i.beq 7 then some ⟨[0, 2], [⟨false, [.int .u32]⟩, ⟨false, [.int .i64]⟩]⟩ else none, fun _ => none, fun _ => none⟩
noncomputable def E_103 : Ent := ⟨103, [⟨false, [.int .u32]⟩], [⟨false, [.int .i64]⟩], fun (x : Int) h => math_bits_Len32 x h⟩
theorem eq_103  : (fun (x : PT E_103.ps) (h : H) => runFK Go.Proofs.Ytaebjajbogedkaa.Tab.D (lstK []) ann_103 Try.f103 (Try.f103.body.getD .skip) E_103.ys (encP E_103.ps x) h) = (fun (x : Int) h => math_bits_Len32 x h) := by kernel_rfl
theorem ok_103 : E_103.ok Go.Proofs.Ytaebjajbogedkaa.Tab.D := fun x h y h' e => runFK_ok (lstK_ok [] (fun E h => nomatch h)) (A := ann_103) (by kernel_rfl) (show Go.Proofs.Ytaebjajbogedkaa.Tab.D.fn.get 103 = some Try.f103 by kernel_rfl) (show Try.f103.body = some (Try.f103.body.getD .skip) by kernel_rfl) ((congrFun (congrFun (eq_103 ) x) h).trans e)
/-! math_bits_Len64 -/
noncomputable def math_bits_Len64 (x0 : Int) (h : H) : Option (Int × H) :=
  joinO (
    condK (decide ((x0 ≥ 4294967296))) (
      some (Sum.inl (((Int.fdiv x0 4294967296), 32), h))) (
      some (Sum.inl ((x0, 0), h)))) fun (((x1, n), h0) : ((Int × Int) × H)) =>
  joinO (
    condK (decide ((x1 ≥ 65536))) (
      some (Sum.inl (((Int.fdiv x1 65536), (IntKind.wrap .i64 (n + 16))), h0))) (
      some (Sum.inl ((x1, n), h0)))) fun (((x2, n1), h1) : ((Int × Int) × H)) =>
  joinO (
    condK (decide ((x2 ≥ 256))) (
      some (Sum.inl (((Int.fdiv x2 256), (IntKind.wrap .i64 (n1 + 8))), h1))) (
      some (Sum.inl ((x2, n1), h1)))) fun (((x3, n2), h2) : ((Int × Int) × H)) =>
  bindO (ixST (⟨#[0, 1, 2, 2, 3, 3, 3, 3, 4, 4, 4, 4, 4, 4, 4, 4, 5, 5, 5, 5, 5, 5, 5, 5, 5, 5, 5, 5, 5, 5, 5, 5, 6, 6, 6, 6, 6, 6, 6, 6, 6, 6, 6, 6, 6, 6, 6, 6, 6, 6, 6, 6, 6, 6, 6, 6, 6, 6, 6, 6, 6, 6, 6, 6, 7, 7, 7, 7, 7, 7, 7, 7, 7, 7, 7, 7, 7, 7, 7, 7, 7, 7, 7, 7, 7, 7, 7, 7, 7, 7, 7, 7, 7, 7, 7, 7, 7, 7, 7, 7, 7, 7, 7, 7, 7, 7, 7, 7, 7, 7, 7, 7, 7, 7, 7, 7, 7, 7, 7, 7, 7, 7, 7, 7, 7, 7, 7, 7, 8, 8, 8, 8, 8, 8, 8, 8, 8, 8, 8, 8, 8, 8, 8, 8, 8, 8, 8, 8, 8, 8, 8, 8, 8, 8, 8, 8, 8, 8, 8, 8, 8, 8, 8, 8, 8, 8, 8, 8, 8, 8, 8, 8, 8, 8, 8, 8, 8, 8, 8, 8, 8, 8, 8, 8, 8, 8, 8, 8, 8, 8, 8, 8, 8, 8, 8, 8, 8, 8, 8, 8, 8, 8, 8, 8, 8, 8, 8, 8, 8, 8, 8, 8, 8, 8, 8, 8, 8, 8, 8, 8, 8, 8, 8, 8, 8, 8, 8, 8, 8, 8, 8, 8, 8, 8, 8, 8, 8, 8, 8, 8, 8, 8, 8, 8, 8, 8, 8, 8, 8, 8, 8, 8, 8, 8, 8, 8]⟩ : ByteArray) (IntKind.wrap .u8 x3)) fun (x4 : Int) =>
  some ((IntKind.wrap .i64 (n2 + (IntKind.wrap .i64 x4))), h2)
noncomputable def ann_104 : Ann := ⟨fun i => bif i.beq 4 then some ⟨[0, 2], [⟨false, [.int .u64]⟩, ⟨false, [.int .i64]⟩]⟩ else bif i.beq 7 then some ⟨[0, 2], [⟨false, [.int .u64]⟩, ⟨false, [.int .i64]⟩]⟩ else bif i.beq 10 then some ⟨[0, 2], [⟨false, [.int .u64]⟩, ⟨false, [.int .i64]⟩]⟩ else none, fun _ => none, fun _ => none⟩
noncomputable def E_104 : Ent := ⟨104, [⟨false, [.int .u64]⟩], [⟨false, [.int .i64]⟩], fun (x : Int) h => math_bits_Len64 x h⟩
theorem eq_104  : (fun (x : PT E_104.ps) (h : H) => runFK Go.Proofs.Ytaebjajbogedkaa.Tab.D (lstK []) ann_104 Try.f104 (Try.f104.body.getD .skip) E_104.ys (encP E_104.ps x) h) = (fun (x : Int) h => math_bits_Len64 x h) := by kernel_rfl
theorem ok_104 : E_104.ok Go.Proofs.Ytaebjajbogedkaa.Tab.D := fun x h y h' e => runFK_ok (lstK_ok [] (fun E h => nomatch h)) (A := ann_104) (by kernel_rfl) (show Go.Proofs.Ytaebjajbogedkaa.Tab.D.fn.get 104 = some Try.f104 by kernel_rfl) (show Try.f104.body = some (Try.f104.body.getD .skip) by kernel_rfl) ((congrFun (congrFun (eq_104 ) x) h).trans e)
/-! math_bits_Len -/
noncomputable def P.math_bits_Len (math_bits_Len32 : Int → H → Option ((Int) × H)) (math_bits_Len64 : Int → H → Option ((Int) × H)) (x0 : Int) (h : H) : Option (Int × H) :=
  bind2 (math_bits_Len64 x0 h) fun (x1 : Int) (h0 : H) =>
  some (x1, h0)
noncomputable def math_bits_Len : Int → H → Option ((Int) × H) := P.math_bits_Len math_bits_Len32 math_bits_Len64
noncomputable def ann_95 : Ann := ⟨fun _ => none, fun _ => none, fun _ => none⟩
noncomputable def E_95 : Ent := ⟨95, [⟨false, [.int .u64]⟩], [⟨false, [.int .i64]⟩], fun (x : Int) h => math_bits_Len x h⟩
theorem eq_95 (math_bits_Len32 : Int → H → Option ((Int) × H)) (math_bits_Len64 : Int → H → Option ((Int) × H)) : (fun (x : PT E_95.ps) (h : H) => runFK Go.Proofs.Ytaebjajbogedkaa.Tab.D (lstK [⟨103, [⟨false, [.int .u32]⟩], [⟨false, [.int .i64]⟩], fun (x : Int) h => math_bits_Len32 x h⟩, ⟨104, [⟨false, [.int .u64]⟩], [⟨false, [.int .i64]⟩], fun (x : Int) h => math_bits_Len64 x h⟩]) ann_95 Try.f95 (Try.f95.body.getD .skip) E_95.ys (encP E_95.ps x) h) = (fun (x : Int) h => P.math_bits_Len math_bits_Len32 math_bits_Len64 x h) := by kernel_rfl
theorem ok_95 : E_95.ok Go.Proofs.Ytaebjajbogedkaa.Tab.D := fun x h y h' e => runFK_ok (lstK_ok [E_103, E_104] (List.forall_mem_cons.2 ⟨ok_103, List.forall_mem_cons.2 ⟨ok_104, fun E h => nomatch h⟩⟩)) (A := ann_95) (by kernel_rfl) (show Go.Proofs.Ytaebjajbogedkaa.Tab.D.fn.get 95 = some Try.f95 by kernel_rfl) (show Try.f95.body = some (Try.f95.body.getD .skip) by kernel_rfl) ((congrFun (congrFun (eq_95 math_bits_Len32 math_bits_Len64) x) h).trans e)
/-! varint_kind -/
noncomputable def P.varint_kind_l1 (math_bits_Len : Int → H → Option ((Int) × H)) : ((Int × Int) × H) → Option (((Int × Int) × H) ⊕ (Int × H)) := fun ((n, x0), h0) =>
  condK (decide ((x0 < 3))) (
    bind2 (math_bits_Len (IntKind.wrap .u64 n) h0) fun (x1 : Int) (h1 : H) =>
    bindO (shlT .i64 8 .i64 x0) fun (x2 : Int) =>
    condK (decide ((x1 ≤ (IntKind.wrap .i64 (x2 - 2))))) (
      some (Sum.inr (x0, h1))) (
      some (Sum.inl ((n, (IntKind.wrap .i64 (x0 + 1))), h1)))) (
    some (Sum.inr (3, h0)))

noncomputable def P.varint_kind (math_bits_Len : Int → H → Option ((Int) × H)) (n : Int) (h : H) : Option (Int × H) :=
  joinO (
    condK (decide ((n < 0))) (
      some (Sum.inl ((n, true), h))) (
      some (Sum.inl ((n, (decide ((n > 4611686018427387903)))), h)))) fun (((n1, x0), h0) : ((Int × Bool) × H)) =>
  condK x0 (
    some ((-1), h0)) (
    loopO (P.varint_kind_l1 math_bits_Len) ((n1, 0), h0))
noncomputable abbrev varint_kind_l1 := P.varint_kind_l1 math_bits_Len
noncomputable def varint_kind : Int → H → Option ((Int) × H) := P.varint_kind math_bits_Len
noncomputable def ann_80 : Ann := ⟨fun _ => none, fun i => bif i.beq 4 then some ⟨[0, 10], [⟨false, [.int .i64]⟩, ⟨false, [.int .i64]⟩]⟩ else none, fun i => bif i.beq 1 then some ⟨[0, 9], [⟨false, [.int .i64]⟩, ⟨false, [.bool]⟩]⟩ else none⟩
noncomputable def E_80 : Ent := ⟨80, [⟨false, [.int .i64]⟩], [⟨false, [.int .i64]⟩], fun (x : Int) h => varint_kind x h⟩
theorem eq_80 (math_bits_Len : Int → H → Option ((Int) × H)) : (fun (x : PT E_80.ps) (h : H) => runFK Go.Proofs.Ytaebjajbogedkaa.Tab.D (lstK [⟨95, [⟨false, [.int .u64]⟩], [⟨false, [.int .i64]⟩], fun (x : Int) h => math_bits_Len x h⟩]) ann_80 Try.f80 (Try.f80.body.getD .skip) E_80.ys (encP E_80.ps x) h) = (fun (x : Int) h => P.varint_kind math_bits_Len x h) := by kernel_rfl
theorem ok_80 : E_80.ok Go.Proofs.Ytaebjajbogedkaa.Tab.D := fun x h y h' e => runFK_ok (lstK_ok [E_95] (List.forall_mem_cons.2 ⟨ok_95, fun E h => nomatch h⟩)) (A := ann_80) (by kernel_rfl) (show Go.Proofs.Ytaebjajbogedkaa.Tab.D.fn.get 80 = some Try.f80 by kernel_rfl) (show Try.f80.body = some (Try.f80.body.getD .skip) by kernel_rfl) ((congrFun (congrFun (eq_80 math_bits_Len) x) h).trans e)
/-! varint_Size -/
noncomputable def P.varint_Size_l1 (varint_kind : Int → H → Option ((Int) × H)) : ((Int × (Sl × (Int × Int))) × H) → Option (((Int × (Sl × (Int × Int))) × H) ⊕ ((Int × H) ⊕ (Int × H))) := fun ((sum, (x0, (x1, x2))), h0) =>
  condK (decide ((x2 < x1))) (
    bindO (ixT 1 x0 x2) fun (a0 : Addr) =>
    bindO (ldI .i64 h0 a0) fun (x3 : Int) =>
    bind2 (varint_kind x3 h0) fun (x4 : Int) (h1 : H) =>
    condK (decide ((x4 < 0))) (
      some (Sum.inr (Sum.inr ((-1), h1)))) (
      bindO (shlT .i64 1 .i64 x4) fun (x5 : Int) =>
      some (Sum.inl (((IntKind.wrap .i64 (sum + x5)), (x0, (x1, (IntKind.wrap .i64 (x2 + 1))))), h1)))) (
    some (Sum.inr (Sum.inl (sum, h0))))

noncomputable def P.varint_Size (varint_kind : Int → H → Option ((Int) × H)) (n : Sl) (h : H) : Option (Int × H) :=
  joinO (
    loopO (P.varint_Size_l1 varint_kind) ((0, (n, (((n.len : Nat) : Int), 0))), h)) fun ((sum, h0) : (Int × H)) =>
  some (sum, h0)
noncomputable abbrev varint_Size_l1 := P.varint_Size_l1 varint_kind
noncomputable def varint_Size : Sl → H → Option ((Int) × H) := P.varint_Size varint_kind
noncomputable def ann_46 : Ann := ⟨fun i => bif i.beq 10 then some ⟨[3], [⟨false, [.int .i64]⟩]⟩ else none, fun i => bif i.beq 3 then some ⟨[3, 7, 8, 9], [⟨false, [.int .i64]⟩, ⟨false, [.sl]⟩, ⟨false, [.int .i64]⟩, ⟨false, [.int .i64]⟩]⟩ else none, fun _ => none⟩
noncomputable def E_46 : Ent := ⟨46, [⟨false, [.sl]⟩], [⟨false, [.int .i64]⟩], fun (x : Sl) h => varint_Size x h⟩
theorem eq_46 (varint_kind : Int → H → Option ((Int) × H)) : (fun (x : PT E_46.ps) (h : H) => runFK Go.Proofs.Ytaebjajbogedkaa.Tab.D (lstK [⟨80, [⟨false, [.int .i64]⟩], [⟨false, [.int .i64]⟩], fun (x : Int) h => varint_kind x h⟩]) ann_46 Try.f46 (Try.f46.body.getD .skip) E_46.ys (encP E_46.ps x) h) = (fun (x : Sl) h => P.varint_Size varint_kind x h) := by kernel_rfl
theorem ok_46 : E_46.ok Go.Proofs.Ytaebjajbogedkaa.Tab.D := fun x h y h' e => runFK_ok (lstK_ok [E_80] (List.forall_mem_cons.2 ⟨ok_80, fun E h => nomatch h⟩)) (A := ann_46) (by kernel_rfl) (show Go.Proofs.Ytaebjajbogedkaa.Tab.D.fn.get 46 = some Try.f46 by kernel_rfl) (show Try.f46.body = some (Try.f46.body.getD .skip) by kernel_rfl) ((congrFun (congrFun (eq_46 varint_kind) x) h).trans e)
/-! frame_Size -/
noncomputable def P.frame_Size (frame_Right : (Int × Int × Int × Int × Int × Int × Bool × Sl × Sl) → H → Option ((Bool) × H)) (frame_numbers : (Int × Int × Int × Int × Int × Int × Bool × Sl × Sl) → H → Option ((Sl) × H)) (varint_Size : Sl → H → Option ((Int) × H)) (f : Int × Int × Int × Int × Int × Int × Bool × Sl × Sl) (h : H) : Option (Int × H) :=
  newO (row 47 [(.int .i64 f.1), (.int .i64 f.2.1), (.int .i64 f.2.2.1), (.int .i64 f.2.2.2.1), (.int .i64 f.2.2.2.2.1), (.int .i64 f.2.2.2.2.2.1), (.bool f.2.2.2.2.2.2.1), (.slice f.2.2.2.2.2.2.2.1.base f.2.2.2.2.2.2.2.1.len f.2.2.2.2.2.2.2.1.cap), (.slice f.2.2.2.2.2.2.2.2.base f.2.2.2.2.2.2.2.2.len f.2.2.2.2.2.2.2.2.cap)]) h fun (b : Nat) (h0 : H) =>
  bindO (ldZ [.int .i64, .int .i64, .int .i64, .int .i64, .int .i64, .int .i64, .bool, .sl, .sl] h0 (⟨b, 0, (some 0)⟩ : Addr)) fun ((x0, x1, x2, x3, x4, x5, x6, x7, x8) : Int × Int × Int × Int × Int × Int × Bool × Sl × Sl) =>
  bind2 (frame_Right (x0, x1, x2, x3, x4, x5, x6, x7, x8) h0) fun (x9 : Bool) (h1 : H) =>
  condK (!x9) (
    some ((-1), h1)) (
    bindO (ldZ [.int .i64, .int .i64, .int .i64, .int .i64, .int .i64, .int .i64, .bool, .sl, .sl] h1 (⟨b, 0, (some 0)⟩ : Addr)) fun ((x10, x11, x12, x13, x14, x15, x16, x17, x18) : Int × Int × Int × Int × Int × Int × Bool × Sl × Sl) =>
    bind2 (frame_numbers (x10, x11, x12, x13, x14, x15, x16, x17, x18) h1) fun (x19 : Sl) (h2 : H) =>
    bind2 (varint_Size x19 h2) fun (x20 : Int) (h3 : H) =>
    bindO (ldL h3 (add (⟨b, 0, (some 0)⟩ : Addr) 7)) fun (x21 : Sl) =>
    condK (((x21.len : Nat) : Int) == ((x21.len : Nat) : Int)) (
      condK (((x21.len : Nat) : Int) == ((x21.len : Nat) : Int)) (
        bindO (ldL h2 (add (⟨b, 0, (some 0)⟩ : Addr) 7)) fun (x22 : Sl) =>
        condK (slEq x22.base x22.len x22.cap x21.base x21.len x21.cap) (
          bindO (ldL h1 (add (⟨b, 0, (some 0)⟩ : Addr) 7)) fun (x23 : Sl) =>
          condK (slEq x23.base x23.len x23.cap x21.base x21.len x21.cap) (
            some ((IntKind.wrap .i64 (x20 + ((x21.len : Nat) : Int))), h3)) none) none) none) none)
noncomputable def frame_Size : (Int × Int × Int × Int × Int × Int × Bool × Sl × Sl) → H → Option ((Int) × H) := P.frame_Size frame_Right frame_numbers varint_Size
noncomputable def ann_22 : Ann := ⟨fun _ => none, fun _ => none, fun _ => none⟩
noncomputable def E_22 : Ent := ⟨22, [⟨true, [.int .i64, .int .i64, .int .i64, .int .i64, .int .i64, .int .i64, .bool, .sl, .sl]⟩], [⟨false, [.int .i64]⟩], fun (x : (Int × Int × Int × Int × Int × Int × Bool × Sl × Sl)) h => frame_Size x h⟩
theorem eq_22 (frame_Right : (Int × Int × Int × Int × Int × Int × Bool × Sl × Sl) → H → Option ((Bool) × H)) (frame_numbers : (Int × Int × Int × Int × Int × Int × Bool × Sl × Sl) → H → Option ((Sl) × H)) (varint_Size : Sl → H → Option ((Int) × H)) : (fun (x : PT E_22.ps) (h : H) => runFK Go.Proofs.Ytaebjajbogedkaa.Tab.D (lstK [⟨45, [⟨true, [.int .i64, .int .i64, .int .i64, .int .i64, .int .i64, .int .i64, .bool, .sl, .sl]⟩], [⟨false, [.bool]⟩], fun (x : (Int × Int × Int × Int × Int × Int × Bool × Sl × Sl)) h => frame_Right x h⟩, ⟨47, [⟨true, [.int .i64, .int .i64, .int .i64, .int .i64, .int .i64, .int .i64, .bool, .sl, .sl]⟩], [⟨false, [.sl]⟩], fun (x : (Int × Int × Int × Int × Int × Int × Bool × Sl × Sl)) h => frame_numbers x h⟩, ⟨46, [⟨false, [.sl]⟩], [⟨false, [.int .i64]⟩], fun (x : Sl) h => varint_Size x h⟩]) ann_22 Try.f22 (Try.f22.body.getD .skip) E_22.ys (encP E_22.ps x) h) = (fun (x : (Int × Int × Int × Int × Int × Int × Bool × Sl × Sl)) h => P.frame_Size frame_Right frame_numbers varint_Size x h) := by kernel_rfl
theorem ok_22 : E_22.ok Go.Proofs.Ytaebjajbogedkaa.Tab.D := fun x h y h' e => runFK_ok (lstK_ok [E_45, E_47, E_46] (List.forall_mem_cons.2 ⟨ok_45, List.forall_mem_cons.2 ⟨ok_47, List.forall_mem_cons.2 ⟨ok_46, fun E h => nomatch h⟩⟩⟩)) (A := ann_22) (by kernel_rfl) (show Go.Proofs.Ytaebjajbogedkaa.Tab.D.fn.get 22 = some Try.f22 by kernel_rfl) (show Try.f22.body = some (Try.f22.body.getD .skip) by kernel_rfl) ((congrFun (congrFun (eq_22 frame_Right frame_numbers varint_Size) x) h).trans e)
/-! send_Stream_fit -/
noncomputable def P.send_Stream_fit_l1 (send_Stream_frame : Option Addr → Int → Int → H → Option (((Int × Int × Int × Int × Int × Int × Bool × Sl × Sl)) × H)) (frame_Size : (Int × Int × Int × Int × Int × Int × Bool × Sl × Sl) → H → Option ((Int) × H)) : (((Option Addr) × (Int × (Int × (Int × (Option Addr))))) × H) → Option ((((Option Addr) × (Int × (Int × (Int × (Option Addr))))) × H) ⊕ (((Option Addr) × H) ⊕ (((Int × (Int × (Int × (Int × (Int × (Int × (Bool × (Sl × Sl)))))))) × Bool) × H))) := fun ((s, (from', (to, (room, x0)))), h0) =>
  condK (decide ((to > from'))) (
    bind2 (send_Stream_frame s from' to h0) fun ((x1, x2, x3, x4, x5, x6, x7, x8, x9) : Int × Int × Int × Int × Int × Int × Bool × Sl × Sl) (h1 : H) =>
    newO (row 47 [(.int .i64 0), (.int .i64 0), (.int .i64 0), (.int .i64 0), (.int .i64 0), (.int .i64 0), (.bool false), (.slice none 0 0), (.slice none 0 0)]) h1 fun (b : Nat) (h2 : H) =>
    bindO (stZ [.int .i64, .int .i64, .int .i64, .int .i64, .int .i64, .int .i64, .bool, .sl, .sl] h2 (⟨b, 0, (some 0)⟩ : Addr) ((x1, x2, x3, x4, x5, x6, x7, x8, x9) : Int × Int × Int × Int × Int × Int × Bool × Sl × Sl)) fun (h3 : H) =>
    bindO (ldZ [.int .i64, .int .i64, .int .i64, .int .i64, .int .i64, .int .i64, .bool, .sl, .sl] h3 (⟨b, 0, (some 0)⟩ : Addr)) fun ((x10, x11, x12, x13, x14, x15, x16, x17, x18) : Int × Int × Int × Int × Int × Int × Bool × Sl × Sl) =>
    bind2 (frame_Size (x10, x11, x12, x13, x14, x15, x16, x17, x18) h3) fun (x19 : Int) (h4 : H) =>
    condK (decide ((x19 ≤ room))) (
      bindO (ldZ [.int .i64, .int .i64, .int .i64, .int .i64, .int .i64, .int .i64, .bool, .sl, .sl] h4 (⟨b, 0, (some 0)⟩ : Addr)) fun ((x20, x21, x22, x23, x24, x25, x26, x27, x28) : Int × Int × Int × Int × Int × Int × Bool × Sl × Sl) =>
      ptrK x0 fun (a0 : Addr) =>
      bindO (stZ [.int .i64, .int .i64, .int .i64, .int .i64, .int .i64, .int .i64, .bool, .sl, .sl] h4 a0 ((x20, x21, x22, x23, x24, x25, x26, x27, x28) : Int × Int × Int × Int × Int × Int × Bool × Sl × Sl)) fun (h5 : H) =>
      inr? (
        inr? (
          ptrK x0 fun (a1 : Addr) =>
          bindO (ldZ [.int .i64, .int .i64, .int .i64, .int .i64, .int .i64, .int .i64, .bool, .sl, .sl] h5 a1) fun ((x29, x30, x31, x32, x33, x34, x35, x36, x37) : Int × Int × Int × Int × Int × Int × Bool × Sl × Sl) =>
          some (((x29, (x30, (x31, (x32, (x33, (x34, (x35, (x36, x37)))))))), true), h5)))) (
      some (Sum.inl ((s, (from', ((IntKind.wrap .i64 (to - 1)), (room, x0)))), h4)))) (
    some (Sum.inr (Sum.inl (x0, h0))))

noncomputable def P.send_Stream_fit (send_Stream_frame : Option Addr → Int → Int → H → Option (((Int × Int × Int × Int × Int × Int × Bool × Sl × Sl)) × H)) (frame_Size : (Int × Int × Int × Int × Int × Int × Bool × Sl × Sl) → H → Option ((Int) × H)) (s : Option Addr) (from' : Int) (to : Int) (room : Int) (h : H) : Option (((Int × Int × Int × Int × Int × Int × Bool × Sl × Sl) × Bool) × H) :=
  newO (row 47 [(.int .i64 0), (.int .i64 0), (.int .i64 0), (.int .i64 0), (.int .i64 0), (.int .i64 0), (.bool false), (.slice none 0 0), (.slice none 0 0)]) h fun (b : Nat) (h0 : H) =>
  joinO (
    letO ((if ((IntKind.wrap .i64 (from' + 120)) < to) then (IntKind.wrap .i64 (from' + 120)) else to)) fun (x0 : Int) =>
    loopO (P.send_Stream_fit_l1 send_Stream_frame frame_Size) ((s, (from', (x0, (room, (some (⟨b, 0, (some 0)⟩ : Addr)))))), h0)) fun ((x0, h1) : ((Option Addr) × H)) =>
  ptrK x0 fun (a0 : Addr) =>
  bindO (stZ [.int .i64, .int .i64, .int .i64, .int .i64, .int .i64, .int .i64, .bool, .sl, .sl] h1 a0 ((0, 0, 0, 0, 0, 0, false, (⟨none, 0, 0⟩ : Sl), (⟨none, 0, 0⟩ : Sl)) : Int × Int × Int × Int × Int × Int × Bool × Sl × Sl)) fun (h2 : H) =>
  ptrK x0 fun (a1 : Addr) =>
  bindO (ldZ [.int .i64, .int .i64, .int .i64, .int .i64, .int .i64, .int .i64, .bool, .sl, .sl] h2 a1) fun ((x1, x2, x3, x4, x5, x6, x7, x8, x9) : Int × Int × Int × Int × Int × Int × Bool × Sl × Sl) =>
  some (((x1, (x2, (x3, (x4, (x5, (x6, (x7, (x8, x9)))))))), false), h2)
noncomputable abbrev send_Stream_fit_l1 := P.send_Stream_fit_l1 send_Stream_frame frame_Size
noncomputable def send_Stream_fit : Option Addr → Int → Int → Int → H → Option ((((Int × Int × Int × Int × Int × Int × Bool × Sl × Sl)) × Bool) × H) := P.send_Stream_fit send_Stream_frame frame_Size
noncomputable def ann_74 : Ann := ⟨fun i => bif i.beq 7 then some ⟨[8], [⟨false, [.ptr]⟩]⟩ else none, fun i => bif i.beq 2 then some ⟨[0, 1, 2, 3, 8], [⟨false, [.ptr]⟩, ⟨false, [.int .i64]⟩, ⟨false, [.int .i64]⟩, ⟨false, [.int .i64]⟩, ⟨false, [.ptr]⟩]⟩ else none, fun _ => none⟩
noncomputable def E_74 : Ent := ⟨74, [⟨false, [.ptr]⟩, ⟨false, [.int .i64]⟩, ⟨false, [.int .i64]⟩, ⟨false, [.int .i64]⟩], [⟨true, [.int .i64, .int .i64, .int .i64, .int .i64, .int .i64, .int .i64, .bool, .sl, .sl]⟩, ⟨false, [.bool]⟩], fun (x : Option Addr × Int × Int × Int) h => send_Stream_fit x.1 x.2.1 x.2.2.1 x.2.2.2 h⟩
theorem eq_74 (send_Stream_frame : Option Addr → Int → Int → H → Option (((Int × Int × Int × Int × Int × Int × Bool × Sl × Sl)) × H)) (frame_Size : (Int × Int × Int × Int × Int × Int × Bool × Sl × Sl) → H → Option ((Int) × H)) : (fun (x : PT E_74.ps) (h : H) => runFK Go.Proofs.Ytaebjajbogedkaa.Tab.D (lstK [⟨75, [⟨false, [.ptr]⟩, ⟨false, [.int .i64]⟩, ⟨false, [.int .i64]⟩], [⟨true, [.int .i64, .int .i64, .int .i64, .int .i64, .int .i64, .int .i64, .bool, .sl, .sl]⟩], fun (x : Option Addr × Int × Int) h => send_Stream_frame x.1 x.2.1 x.2.2 h⟩, ⟨22, [⟨true, [.int .i64, .int .i64, .int .i64, .int .i64, .int .i64, .int .i64, .bool, .sl, .sl]⟩], [⟨false, [.int .i64]⟩], fun (x : (Int × Int × Int × Int × Int × Int × Bool × Sl × Sl)) h => frame_Size x h⟩]) ann_74 Try.f74 (Try.f74.body.getD .skip) E_74.ys (encP E_74.ps x) h) = (fun (x : Option Addr × Int × Int × Int) h => P.send_Stream_fit send_Stream_frame frame_Size x.1 x.2.1 x.2.2.1 x.2.2.2 h) := by kernel_rfl
theorem ok_74 : E_74.ok Go.Proofs.Ytaebjajbogedkaa.Tab.D := fun x h y h' e => runFK_ok (lstK_ok [E_75, E_22] (List.forall_mem_cons.2 ⟨ok_75, List.forall_mem_cons.2 ⟨ok_22, fun E h => nomatch h⟩⟩)) (A := ann_74) (by kernel_rfl) (show Go.Proofs.Ytaebjajbogedkaa.Tab.D.fn.get 74 = some Try.f74 by kernel_rfl) (show Try.f74.body = some (Try.f74.body.getD .skip) by kernel_rfl) ((congrFun (congrFun (eq_74 send_Stream_frame frame_Size) x) h).trans e)
/-! credit_Credit_Left -/
noncomputable def credit_Credit_Left (c : Option Addr) (h : H) : Option (Int × H) :=
  ptrK c fun (a0 : Addr) =>
  bindO (ldI .i64 h (add a0 0)) fun (x0 : Int) =>
  ptrK c fun (a1 : Addr) =>
  bindO (ldI .i64 h (add a1 1)) fun (x1 : Int) =>
  letO ((if ((IntKind.wrap .i64 (x0 - x1)) > 0) then (IntKind.wrap .i64 (x0 - x1)) else 0)) fun (x2 : Int) =>
  some (x2, h)
noncomputable def ann_15 : Ann := ⟨fun _ => none, fun _ => none, fun _ => none⟩
noncomputable def E_15 : Ent := ⟨15, [⟨false, [.ptr]⟩], [⟨false, [.int .i64]⟩], fun (x : Option Addr) h => credit_Credit_Left x h⟩
theorem eq_15  : (fun (x : PT E_15.ps) (h : H) => runFK Go.Proofs.Ytaebjajbogedkaa.Tab.D (lstK []) ann_15 Try.f15 (Try.f15.body.getD .skip) E_15.ys (encP E_15.ps x) h) = (fun (x : Option Addr) h => credit_Credit_Left x h) := by kernel_rfl
theorem ok_15 : E_15.ok Go.Proofs.Ytaebjajbogedkaa.Tab.D := fun x h y h' e => runFK_ok (lstK_ok [] (fun E h => nomatch h)) (A := ann_15) (by kernel_rfl) (show Go.Proofs.Ytaebjajbogedkaa.Tab.D.fn.get 15 = some Try.f15 by kernel_rfl) (show Try.f15.body = some (Try.f15.body.getD .skip) by kernel_rfl) ((congrFun (congrFun (eq_15 ) x) h).trans e)
/-! send_Stream_next -/
noncomputable def P.send_Stream_next_l1 (spans_Set_Spans : Option Addr → H → Option ((Sl) × H)) (send_Stream_may : Option Addr → H → Option ((Int) × H)) (send_Stream_fit : Option Addr → Int → Int → Int → H → Option ((((Int × Int × Int × Int × Int × Int × Bool × Sl × Sl)) × Bool) × H)) (credit_Credit_Left : Option Addr → H → Option ((Int) × H)) (send_Stream_frame : Option Addr → Int → Int → H → Option (((Int × Int × Int × Int × Int × Int × Bool × Sl × Sl)) × H)) (frame_Size : (Int × Int × Int × Int × Int × Int × Bool × Sl × Sl) → H → Option ((Int) × H)) : (((Option Addr) × (Int × (Int × ((Option Addr) × (Sl × (Int × Int)))))) × H) → Option ((((Option Addr) × (Int × (Int × ((Option Addr) × (Sl × (Int × Int)))))) × H) ⊕ ((((Option Addr) × (Int × (Int × (Option Addr)))) × H) ⊕ (((Int × (Int × (Int × (Int × (Int × (Int × (Bool × (Sl × Sl)))))))) × Bool) × H))) := fun ((s, (room, (most, (x0, (x1, (x2, x3)))))), h0) =>
  condK (decide ((x3 < x2))) (
    bindO (ixT 2 x1 x3) fun (a0 : Addr) =>
    bindO (ldZ [.int .i64, .int .i64] h0 a0) fun ((x4, x5) : Int × Int) =>
    newO (row 100 [(.int .i64 0), (.int .i64 0)]) h0 fun (b : Nat) (h1 : H) =>
    bindO (stZ [.int .i64, .int .i64] h1 (⟨b, 0, (some 0)⟩ : Addr) ((x4, x5) : Int × Int)) fun (h2 : H) =>
    bindO (ixAT 2 1 (⟨b, 0, (some 0)⟩ : Addr) 0) fun (a1 : Addr) =>
    bindO (ldI .i64 h2 a1) fun (x6 : Int) =>
    bind2 (send_Stream_may s h2) fun (x7 : Int) (h3 : H) =>
    bindO (ldI .i64 h3 a1) fun (x8 : Int) =>
    condK (x8 == x6) (
      condK (decide ((x6 < x7))) (
        bindO (ixAT 2 1 (⟨b, 0, (some 0)⟩ : Addr) 0) fun (a2 : Addr) =>
        bindO (ldI .i64 h3 a2) fun (x9 : Int) =>
        bindO (ixAT 2 1 (⟨b, 0, (some 0)⟩ : Addr) 1) fun (a3 : Addr) =>
        bindO (ldI .i64 h3 a3) fun (x10 : Int) =>
        bind2 (send_Stream_may s h3) fun (x11 : Int) (h4 : H) =>
        bind2 (send_Stream_fit s x9 (if (x11 < x10) then x11 else x10) room h4) fun (((x12, x13, x14, x15, x16, x17, x18, x19, x20), x21) : (Int × Int × Int × Int × Int × Int × Bool × Sl × Sl) × Bool) (h5 : H) =>
        ptrK x0 fun (a4 : Addr) =>
        bindO (stZ [.int .i64, .int .i64, .int .i64, .int .i64, .int .i64, .int .i64, .bool, .sl, .sl] h5 a4 ((x12, x13, x14, x15, x16, x17, x18, x19, x20) : Int × Int × Int × Int × Int × Int × Bool × Sl × Sl)) fun (h6 : H) =>
        bindO (ldI .i64 h4 a3) fun (x22 : Int) =>
        condK (x22 == x10) (
          bindO (ldI .i64 h4 a2) fun (x23 : Int) =>
          condK (x23 == x9) (
            inr? (
              inr? (
                ptrK x0 fun (a5 : Addr) =>
                bindO (ldZ [.int .i64, .int .i64, .int .i64, .int .i64, .int .i64, .int .i64, .bool, .sl, .sl] h6 a5) fun ((x24, x25, x26, x27, x28, x29, x30, x31, x32) : Int × Int × Int × Int × Int × Int × Bool × Sl × Sl) =>
                some (((x24, (x25, (x26, (x27, (x28, (x29, (x30, (x31, x32)))))))), x21), h6)))) none) none) (
        some (Sum.inl ((s, (room, (most, (x0, (x1, (x2, (IntKind.wrap .i64 (x3 + 1)))))))), h3)))) none) (
    some (Sum.inr (Sum.inl ((s, (room, (most, x0))), h0))))

noncomputable def P.send_Stream_next (spans_Set_Spans : Option Addr → H → Option ((Sl) × H)) (send_Stream_may : Option Addr → H → Option ((Int) × H)) (send_Stream_fit : Option Addr → Int → Int → Int → H → Option ((((Int × Int × Int × Int × Int × Int × Bool × Sl × Sl)) × Bool) × H)) (credit_Credit_Left : Option Addr → H → Option ((Int) × H)) (send_Stream_frame : Option Addr → Int → Int → H → Option (((Int × Int × Int × Int × Int × Int × Bool × Sl × Sl)) × H)) (frame_Size : (Int × Int × Int × Int × Int × Int × Bool × Sl × Sl) → H → Option ((Int) × H)) (s : Option Addr) (room : Int) (most : Int) (h : H) : Option (((Int × Int × Int × Int × Int × Int × Bool × Sl × Sl) × Bool) × H) :=
  newO (row 47 [(.int .i64 0), (.int .i64 0), (.int .i64 0), (.int .i64 0), (.int .i64 0), (.int .i64 0), (.bool false), (.slice none 0 0), (.slice none 0 0)]) h fun (b : Nat) (h0 : H) =>
  joinO (
    ptrK s fun (a0 : Addr) =>
    bind2 (spans_Set_Spans (some (add a0 4)) h0) fun (x0 : Sl) (h1 : H) =>
    loopO (P.send_Stream_next_l1 spans_Set_Spans send_Stream_may send_Stream_fit credit_Credit_Left send_Stream_frame frame_Size) ((s, (room, (most, ((some (⟨b, 0, (some 0)⟩ : Addr)), (x0, (((x0.len : Nat) : Int), 0)))))), h1)) fun (((s1, (room1, (most1, x0))), h1) : (((Option Addr) × (Int × (Int × (Option Addr)))) × H)) =>
  bind2 (send_Stream_may s1 h1) fun (x1 : Int) (h2 : H) =>
  ptrK s1 fun (a0 : Addr) =>
  bindO (ldI .i64 h2 (add (add a0 0) 1)) fun (x2 : Int) =>
  ptrK s1 fun (a1 : Addr) =>
  bind2 (credit_Credit_Left (some (add a1 0)) h2) fun (x3 : Int) (h3 : H) =>
  letO ((if ((if (x3 < most1) then x3 else most1) > 0) then (if (x3 < most1) then x3 else most1) else 0)) fun (x4 : Int) =>
  letO ((if ((IntKind.wrap .i64 (x2 + x4)) < x1) then (IntKind.wrap .i64 (x2 + x4)) else x1)) fun (x5 : Int) =>
  bindO (ldI .i64 h3 (add (add a0 0) 1)) fun (x6 : Int) =>
  condK (x6 == x2) (
    bindO (ldI .i64 h1 (add (add a0 0) 1)) fun (x7 : Int) =>
    condK (x7 == x2) (
      ptrK s1 fun (a2 : Addr) =>
      bindO (ldI .i64 h3 (add (add a2 0) 1)) fun (x8 : Int) =>
      condK (decide ((x5 > x8))) (
        ptrK s1 fun (a3 : Addr) =>
        bindO (ldI .i64 h3 (add (add a3 0) 1)) fun (x9 : Int) =>
        bind2 (send_Stream_fit s1 x9 x5 room1 h3) fun (((x10, x11, x12, x13, x14, x15, x16, x17, x18), x19) : (Int × Int × Int × Int × Int × Int × Bool × Sl × Sl) × Bool) (h4 : H) =>
        ptrK x0 fun (a4 : Addr) =>
        bindO (stZ [.int .i64, .int .i64, .int .i64, .int .i64, .int .i64, .int .i64, .bool, .sl, .sl] h4 a4 ((x10, x11, x12, x13, x14, x15, x16, x17, x18) : Int × Int × Int × Int × Int × Int × Bool × Sl × Sl)) fun (h5 : H) =>
        ptrK x0 fun (a5 : Addr) =>
        bindO (ldZ [.int .i64, .int .i64, .int .i64, .int .i64, .int .i64, .int .i64, .bool, .sl, .sl] h5 a5) fun ((x20, x21, x22, x23, x24, x25, x26, x27, x28) : Int × Int × Int × Int × Int × Int × Bool × Sl × Sl) =>
        some (((x20, (x21, (x22, (x23, (x24, (x25, (x26, (x27, x28)))))))), x19), h5)) (
        joinO (
          ptrK s1 fun (a6 : Addr) =>
          letH (growIf h3 14) fun (h6 : H) =>
          bindO (ldL h6 (add a6 3)) fun (x29 : Sl) =>
          ptrK s1 fun (a7 : Addr) =>
          bindO (ldL h6 (add a7 3)) fun (x30 : Sl) =>
          bind2 (send_Stream_frame s1 ((x29.len : Nat) : Int) ((x30.len : Nat) : Int) h6) fun ((x31, x32, x33, x34, x35, x36, x37, x38, x39) : Int × Int × Int × Int × Int × Int × Bool × Sl × Sl) (h7 : H) =>
          letH (addP 8191 h3.size [(12, (row 47 [(.int .i64 0), (.int .i64 0), (.int .i64 0), (.int .i64 0), (.int .i64 0), (.int .i64 0), (.bool false), (.slice none 0 0), (.slice none 0 0)]))] h7) fun (h8 : H) =>
          bindO (stZ [.int .i64, .int .i64, .int .i64, .int .i64, .int .i64, .int .i64, .bool, .sl, .sl] h8 (⟨(h3.size + 12), 0, (some 0)⟩ : Addr) ((x31, x32, x33, x34, x35, x36, x37, x38, x39) : Int × Int × Int × Int × Int × Int × Bool × Sl × Sl)) fun (h9 : H) =>
          letH (addP 16383 h3.size [(12, (row 47 [(.int .i64 0), (.int .i64 0), (.int .i64 0), (.int .i64 0), (.int .i64 0), (.int .i64 0), (.bool false), (.slice none 0 0), (.slice none 0 0)]))] h9) fun (h10 : H) =>
          letH (tickIf 14 h10) fun (h11 : H) =>
          bindO (ldB h11 (add (⟨(h3.size + 12), 0, (some 0)⟩ : Addr) 6)) fun (x40 : Bool) =>
          condK x40 (
            ptrK s1 fun (a8 : Addr) =>
            bindO (ldI .i64 h11 (add (add a8 0) 1)) fun (x41 : Int) =>
            ptrK s1 fun (a9 : Addr) =>
            bindO (ldL h11 (add a9 3)) fun (x42 : Sl) =>
            condK (x41 == ((x42.len : Nat) : Int)) (
              ptrK s1 fun (a10 : Addr) =>
              bindO (ldB h11 (add (add a10 8) 1)) fun (x43 : Bool) =>
              condK x43 (
                bindO (ldZ [.int .i64, .int .i64, .int .i64, .int .i64, .int .i64, .int .i64, .bool, .sl, .sl] h11 (⟨(h3.size + 12), 0, (some 0)⟩ : Addr)) fun ((x44, x45, x46, x47, x48, x49, x50, x51, x52) : Int × Int × Int × Int × Int × Int × Bool × Sl × Sl) =>
                bind2 (frame_Size (x44, x45, x46, x47, x48, x49, x50, x51, x52) h11) fun (x53 : Int) (h12 : H) =>
                condK (decide ((x53 ≤ room1))) (
                  bindO (ldZ [.int .i64, .int .i64, .int .i64, .int .i64, .int .i64, .int .i64, .bool, .sl, .sl] h12 (⟨(h3.size + 12), 0, (some 0)⟩ : Addr)) fun ((x54, x55, x56, x57, x58, x59, x60, x61, x62) : Int × Int × Int × Int × Int × Int × Bool × Sl × Sl) =>
                  ptrK x0 fun (a11 : Addr) =>
                  bindO (stZ [.int .i64, .int .i64, .int .i64, .int .i64, .int .i64, .int .i64, .bool, .sl, .sl] h12 a11 ((x54, x55, x56, x57, x58, x59, x60, x61, x62) : Int × Int × Int × Int × Int × Int × Bool × Sl × Sl)) fun (h13 : H) =>
                  inr? (
                    ptrK x0 fun (a12 : Addr) =>
                    bindO (ldZ [.int .i64, .int .i64, .int .i64, .int .i64, .int .i64, .int .i64, .bool, .sl, .sl] h13 a12) fun ((x63, x64, x65, x66, x67, x68, x69, x70, x71) : Int × Int × Int × Int × Int × Int × Bool × Sl × Sl) =>
                    some (((x63, (x64, (x65, (x66, (x67, (x68, (x69, (x70, x71)))))))), true), h13))) (
                  some (Sum.inl (x0, h12)))) (
                some (Sum.inl (x0, h11)))) (
              some (Sum.inl (x0, h11)))) (
            some (Sum.inl (x0, h11)))) fun ((x29, h6) : ((Option Addr) × H)) =>
        ptrK x29 fun (a6 : Addr) =>
        bindO (stZ [.int .i64, .int .i64, .int .i64, .int .i64, .int .i64, .int .i64, .bool, .sl, .sl] h6 a6 ((0, 0, 0, 0, 0, 0, false, (⟨none, 0, 0⟩ : Sl), (⟨none, 0, 0⟩ : Sl)) : Int × Int × Int × Int × Int × Int × Bool × Sl × Sl)) fun (h7 : H) =>
        ptrK x29 fun (a7 : Addr) =>
        bindO (ldZ [.int .i64, .int .i64, .int .i64, .int .i64, .int .i64, .int .i64, .bool, .sl, .sl] h7 a7) fun ((x30, x31, x32, x33, x34, x35, x36, x37, x38) : Int × Int × Int × Int × Int × Int × Bool × Sl × Sl) =>
        some (((x30, (x31, (x32, (x33, (x34, (x35, (x36, (x37, x38)))))))), false), h7))) none) none
noncomputable abbrev send_Stream_next_l1 := P.send_Stream_next_l1 spans_Set_Spans send_Stream_may send_Stream_fit credit_Credit_Left send_Stream_frame frame_Size
noncomputable def send_Stream_next : Option Addr → Int → Int → H → Option ((((Int × Int × Int × Int × Int × Int × Bool × Sl × Sl)) × Bool) × H) := P.send_Stream_next spans_Set_Spans send_Stream_may send_Stream_fit credit_Credit_Left send_Stream_frame frame_Size
noncomputable def ann_42 : Ann := ⟨fun i => bif i.beq 7 then some ⟨[0, 1, 2, 6], [⟨false, [.ptr]⟩, ⟨false, [.int .i64]⟩, ⟨false, [.int .i64]⟩, ⟨false, [.ptr]⟩]⟩ else bif i.beq 13 then some ⟨[6], [⟨false, [.ptr]⟩]⟩ else none, fun i => bif i.beq 2 then some ⟨[0, 1, 2, 6, 15, 16, 17], [⟨false, [.ptr]⟩, ⟨false, [.int .i64]⟩, ⟨false, [.int .i64]⟩, ⟨false, [.ptr]⟩, ⟨false, [.sl]⟩, ⟨false, [.int .i64]⟩, ⟨false, [.int .i64]⟩]⟩ else none, fun _ => none⟩
noncomputable def E_42 : Ent := ⟨42, [⟨false, [.ptr]⟩, ⟨false, [.int .i64]⟩, ⟨false, [.int .i64]⟩], [⟨true, [.int .i64, .int .i64, .int .i64, .int .i64, .int .i64, .int .i64, .bool, .sl, .sl]⟩, ⟨false, [.bool]⟩], fun (x : Option Addr × Int × Int) h => send_Stream_next x.1 x.2.1 x.2.2 h⟩
theorem eq_42 (spans_Set_Spans : Option Addr → H → Option ((Sl) × H)) (send_Stream_may : Option Addr → H → Option ((Int) × H)) (send_Stream_fit : Option Addr → Int → Int → Int → H → Option ((((Int × Int × Int × Int × Int × Int × Bool × Sl × Sl)) × Bool) × H)) (credit_Credit_Left : Option Addr → H → Option ((Int) × H)) (send_Stream_frame : Option Addr → Int → Int → H → Option (((Int × Int × Int × Int × Int × Int × Bool × Sl × Sl)) × H)) (frame_Size : (Int × Int × Int × Int × Int × Int × Bool × Sl × Sl) → H → Option ((Int) × H)) : (fun (x : PT E_42.ps) (h : H) => runFK Go.Proofs.Ytaebjajbogedkaa.Tab.D (lstK [⟨72, [⟨false, [.ptr]⟩], [⟨false, [.sl]⟩], fun (x : Option Addr) h => spans_Set_Spans x h⟩, ⟨73, [⟨false, [.ptr]⟩], [⟨false, [.int .i64]⟩], fun (x : Option Addr) h => send_Stream_may x h⟩, ⟨74, [⟨false, [.ptr]⟩, ⟨false, [.int .i64]⟩, ⟨false, [.int .i64]⟩, ⟨false, [.int .i64]⟩], [⟨true, [.int .i64, .int .i64, .int .i64, .int .i64, .int .i64, .int .i64, .bool, .sl, .sl]⟩, ⟨false, [.bool]⟩], fun (x : Option Addr × Int × Int × Int) h => send_Stream_fit x.1 x.2.1 x.2.2.1 x.2.2.2 h⟩, ⟨15, [⟨false, [.ptr]⟩], [⟨false, [.int .i64]⟩], fun (x : Option Addr) h => credit_Credit_Left x h⟩, ⟨75, [⟨false, [.ptr]⟩, ⟨false, [.int .i64]⟩, ⟨false, [.int .i64]⟩], [⟨true, [.int .i64, .int .i64, .int .i64, .int .i64, .int .i64, .int .i64, .bool, .sl, .sl]⟩], fun (x : Option Addr × Int × Int) h => send_Stream_frame x.1 x.2.1 x.2.2 h⟩, ⟨22, [⟨true, [.int .i64, .int .i64, .int .i64, .int .i64, .int .i64, .int .i64, .bool, .sl, .sl]⟩], [⟨false, [.int .i64]⟩], fun (x : (Int × Int × Int × Int × Int × Int × Bool × Sl × Sl)) h => frame_Size x h⟩]) ann_42 Try.f42 (Try.f42.body.getD .skip) E_42.ys (encP E_42.ps x) h) = (fun (x : Option Addr × Int × Int) h => P.send_Stream_next spans_Set_Spans send_Stream_may send_Stream_fit credit_Credit_Left send_Stream_frame frame_Size x.1 x.2.1 x.2.2 h) := by kernel_rfl
theorem ok_42 : E_42.ok Go.Proofs.Ytaebjajbogedkaa.Tab.D := fun x h y h' e => runFK_ok (lstK_ok [E_72, E_73, E_74, E_15, E_75, E_22] (List.forall_mem_cons.2 ⟨ok_72, List.forall_mem_cons.2 ⟨ok_73, List.forall_mem_cons.2 ⟨ok_74, List.forall_mem_cons.2 ⟨ok_15, List.forall_mem_cons.2 ⟨ok_75, List.forall_mem_cons.2 ⟨ok_22, fun E h => nomatch h⟩⟩⟩⟩⟩⟩)) (A := ann_42) (by kernel_rfl) (show Go.Proofs.Ytaebjajbogedkaa.Tab.D.fn.get 42 = some Try.f42 by kernel_rfl) (show Try.f42.body = some (Try.f42.body.getD .skip) by kernel_rfl) ((congrFun (congrFun (eq_42 spans_Set_Spans send_Stream_may send_Stream_fit credit_Credit_Left send_Stream_frame frame_Size) x) h).trans e)
/-! spans_bring -/
noncomputable def spans_bring (n : Int) (h : H) : Option (Int × H) :=
  letO ((if ((if (4611686018427387904 < n) then 4611686018427387904 else n) > 0) then (if (4611686018427387904 < n) then 4611686018427387904 else n) else 0)) fun (x0 : Int) =>
  some (x0, h)
noncomputable def ann_48 : Ann := ⟨fun _ => none, fun _ => none, fun _ => none⟩
noncomputable def E_48 : Ent := ⟨48, [⟨false, [.int .i64]⟩], [⟨false, [.int .i64]⟩], fun (x : Int) h => spans_bring x h⟩
theorem eq_48  : (fun (x : PT E_48.ps) (h : H) => runFK Go.Proofs.Ytaebjajbogedkaa.Tab.D (lstK []) ann_48 Try.f48 (Try.f48.body.getD .skip) E_48.ys (encP E_48.ps x) h) = (fun (x : Int) h => spans_bring x h) := by kernel_rfl
theorem ok_48 : E_48.ok Go.Proofs.Ytaebjajbogedkaa.Tab.D := fun x h y h' e => runFK_ok (lstK_ok [] (fun E h => nomatch h)) (A := ann_48) (by kernel_rfl) (show Go.Proofs.Ytaebjajbogedkaa.Tab.D.fn.get 48 = some Try.f48 by kernel_rfl) (show Try.f48.body = some (Try.f48.body.getD .skip) by kernel_rfl) ((congrFun (congrFun (eq_48 ) x) h).trans e)
/-! spans_Set_Drop -/
noncomputable def P.spans_Set_Drop_l1 (spans_bring : Int → H → Option ((Int) × H)) : (((Option Addr) × (Int × (Int × (Sl × (Sl × (Int × Int)))))) × H) → Option ((((Option Addr) × (Int × (Int × (Sl × (Sl × (Int × Int)))))) × H) ⊕ ((((Option Addr) × Sl) × H) ⊕ (PUnit × H))) := fun ((s, (from', (to, (out, (x0, (x1, x2)))))), h0) =>
  condK (decide ((x2 < x1))) (
    joinO (
      bindO (ixT 2 x0 x2) fun (a0 : Addr) =>
      bindO (ldZ [.int .i64, .int .i64] h0 a0) fun ((x3, x4) : Int × Int) =>
      newO (row 100 [(.int .i64 0), (.int .i64 0)]) h0 fun (b : Nat) (h1 : H) =>
      bindO (stZ [.int .i64, .int .i64] h1 (⟨b, 0, (some 0)⟩ : Addr) ((x3, x4) : Int × Int)) fun (h2 : H) =>
      joinO (
        bindO (ixAT 2 1 (⟨b, 0, (some 0)⟩ : Addr) 1) fun (a1 : Addr) =>
        bindO (ldI .i64 h2 a1) fun (x5 : Int) =>
        bindO (ixAT 2 1 (⟨b, 0, (some 0)⟩ : Addr) 0) fun (a2 : Addr) =>
        bindO (ldI .i64 h2 a2) fun (x6 : Int) =>
        condK (decide ((x6 < (if (from' < x5) then from' else x5)))) (
          bindO (ixAT 2 1 (⟨b, 0, (some 0)⟩ : Addr) 0) fun (a3 : Addr) =>
          bindO (ldI .i64 h2 a3) fun (x7 : Int) =>
          newO (row 100 [(.int .i64 x7), (.int .i64 (if (from' < x5) then from' else x5))]) h2 fun (b1 : Nat) (h3 : H) =>
          bind2 (appT 100 2 16 h3 out (⟨(some (⟨b1, 0, (some 0)⟩ : Addr)), 1, 1⟩ : Sl)) fun (x8 : Sl) (h4 : H) =>
          some (Sum.inl ((s, (from', (to, (x8, ((some (⟨b, 0, (some 0)⟩ : Addr)), (x0, (x1, x2))))))), h4))) (
          some (Sum.inl ((s, (from', (to, (out, ((some (⟨b, 0, (some 0)⟩ : Addr)), (x0, (x1, x2))))))), h2)))) fun (((s1, (from'1, (to1, (out1, (r, (x5, (x6, x7))))))), h3) : (((Option Addr) × (Int × (Int × (Sl × ((Option Addr) × (Sl × (Int × Int))))))) × H)) =>
      ptrK r fun (a1 : Addr) =>
      bindO (ixAT 2 1 a1 0) fun (a2 : Addr) =>
      bindO (ldI .i64 h3 a2) fun (x8 : Int) =>
      ptrK r fun (a3 : Addr) =>
      bindO (ixAT 2 1 a3 1) fun (a4 : Addr) =>
      bindO (ldI .i64 h3 a4) fun (x9 : Int) =>
      condK (decide (((if (to1 > x8) then to1 else x8) < x9))) (
        ptrK r fun (a5 : Addr) =>
        bindO (ixAT 2 1 a5 1) fun (a6 : Addr) =>
        bindO (ldI .i64 h3 a6) fun (x10 : Int) =>
        newO (row 100 [(.int .i64 (if (to1 > x8) then to1 else x8)), (.int .i64 x10)]) h3 fun (b1 : Nat) (h4 : H) =>
        bind2 (appT 100 2 16 h4 out1 (⟨(some (⟨b1, 0, (some 0)⟩ : Addr)), 1, 1⟩ : Sl)) fun (x11 : Sl) (h5 : H) =>
        some (Sum.inl ((s1, (from'1, (to1, (x11, (x5, (x6, x7)))))), h5))) (
        some (Sum.inl ((s1, (from'1, (to1, (out1, (x5, (x6, x7)))))), h3)))) fun (((s1, (from'1, (to1, (out1, (x3, (x4, x5)))))), h1) : (((Option Addr) × (Int × (Int × (Sl × (Sl × (Int × Int)))))) × H)) =>
    some (Sum.inl ((s1, (from'1, (to1, (out1, (x3, (x4, (IntKind.wrap .i64 (x5 + 1)))))))), h1))) (
    some (Sum.inr (Sum.inl ((s, out), h0))))

noncomputable def P.spans_Set_Drop (spans_bring : Int → H → Option ((Int) × H)) (s : Option Addr) (from' : Int) (to : Int) (h : H) : Option (Unit × H) :=
  bind2 (spans_bring from' h) fun (x0 : Int) (h0 : H) =>
  bind2 (spans_bring to h0) fun (x1 : Int) (h1 : H) =>
  condK (decide ((x0 ≥ x1))) (
    some ((), h1)) (
    joinO (
      ptrK s fun (a0 : Addr) =>
      bindO (ldL h1 (add a0 0)) fun (x2 : Sl) =>
      loopO (P.spans_Set_Drop_l1 spans_bring) ((s, (x0, (x1, ((⟨none, 0, 0⟩ : Sl), (x2, (((x2.len : Nat) : Int), 0)))))), h1)) fun (((s1, out), h2) : (((Option Addr) × Sl) × H)) =>
    ptrK s1 fun (a0 : Addr) =>
    bindO (st1 h2 (add a0 0) (.slice out.base out.len out.cap)) fun (h3 : H) =>
    some ((), h3))
noncomputable abbrev spans_Set_Drop_l1 := P.spans_Set_Drop_l1 spans_bring
noncomputable def spans_Set_Drop : Option Addr → Int → Int → H → Option ((Unit) × H) := P.spans_Set_Drop spans_bring
noncomputable def ann_43 : Ann := ⟨fun i => bif i.beq 9 then some ⟨[0, 1, 2, 6, 8, 21, 22, 23], [⟨false, [.ptr]⟩, ⟨false, [.int .i64]⟩, ⟨false, [.int .i64]⟩, ⟨false, [.sl]⟩, ⟨false, [.ptr]⟩, ⟨false, [.sl]⟩, ⟨false, [.int .i64]⟩, ⟨false, [.int .i64]⟩]⟩ else bif i.beq 12 then some ⟨[0, 1, 2, 6, 21, 22, 23], [⟨false, [.ptr]⟩, ⟨false, [.int .i64]⟩, ⟨false, [.int .i64]⟩, ⟨false, [.sl]⟩, ⟨false, [.sl]⟩, ⟨false, [.int .i64]⟩, ⟨false, [.int .i64]⟩]⟩ else bif i.beq 13 then some ⟨[0, 6], [⟨false, [.ptr]⟩, ⟨false, [.sl]⟩]⟩ else none, fun i => bif i.beq 4 then some ⟨[0, 1, 2, 6, 21, 22, 23], [⟨false, [.ptr]⟩, ⟨false, [.int .i64]⟩, ⟨false, [.int .i64]⟩, ⟨false, [.sl]⟩, ⟨false, [.sl]⟩, ⟨false, [.int .i64]⟩, ⟨false, [.int .i64]⟩]⟩ else none, fun _ => none⟩
noncomputable def E_43 : Ent := ⟨43, [⟨false, [.ptr]⟩, ⟨false, [.int .i64]⟩, ⟨false, [.int .i64]⟩], [], fun (x : Option Addr × Int × Int) h => spans_Set_Drop x.1 x.2.1 x.2.2 h⟩
theorem eq_43 (spans_bring : Int → H → Option ((Int) × H)) : (fun (x : PT E_43.ps) (h : H) => runFK Go.Proofs.Ytaebjajbogedkaa.Tab.D (lstK [⟨48, [⟨false, [.int .i64]⟩], [⟨false, [.int .i64]⟩], fun (x : Int) h => spans_bring x h⟩]) ann_43 Try.f43 (Try.f43.body.getD .skip) E_43.ys (encP E_43.ps x) h) = (fun (x : Option Addr × Int × Int) h => P.spans_Set_Drop spans_bring x.1 x.2.1 x.2.2 h) := by kernel_rfl
theorem ok_43 : E_43.ok Go.Proofs.Ytaebjajbogedkaa.Tab.D := fun x h y h' e => runFK_ok (lstK_ok [E_48] (List.forall_mem_cons.2 ⟨ok_48, fun E h => nomatch h⟩)) (A := ann_43) (by kernel_rfl) (show Go.Proofs.Ytaebjajbogedkaa.Tab.D.fn.get 43 = some Try.f43 by kernel_rfl) (show Try.f43.body = some (Try.f43.body.getD .skip) by kernel_rfl) ((congrFun (congrFun (eq_43 spans_bring) x) h).trans e)
/-! credit_Credit_Use -/
noncomputable def P.credit_Credit_Use (credit_Credit_Left : Option Addr → H → Option ((Int) × H)) (c : Option Addr) (n : Int) (h : H) : Option (Bool × H) :=
  joinO (
    condK (decide ((n < 0))) (
      some (Sum.inl ((c, (n, true)), h))) (
      bind2 (credit_Credit_Left c h) fun (x0 : Int) (h0 : H) =>
      some (Sum.inl ((c, (n, (decide ((n > x0))))), h0)))) fun (((c1, (n1, x0)), h0) : (((Option Addr) × (Int × Bool)) × H)) =>
  condK x0 (
    some (false, h0)) (
    ptrK c1 fun (a0 : Addr) =>
    bindO (ldI .i64 h0 (add a0 1)) fun (x1 : Int) =>
    ptrK c1 fun (a1 : Addr) =>
    bindO (st1 h0 (add a1 1) (.int .i64 (IntKind.wrap .i64 (x1 + n1)))) fun (h1 : H) =>
    some (true, h1))
noncomputable def credit_Credit_Use : Option Addr → Int → H → Option ((Bool) × H) := P.credit_Credit_Use credit_Credit_Left
noncomputable def ann_44 : Ann := ⟨fun _ => none, fun _ => none, fun i => bif i.beq 1 then some ⟨[0, 1, 12], [⟨false, [.ptr]⟩, ⟨false, [.int .i64]⟩, ⟨false, [.bool]⟩]⟩ else none⟩
noncomputable def E_44 : Ent := ⟨44, [⟨false, [.ptr]⟩, ⟨false, [.int .i64]⟩], [⟨false, [.bool]⟩], fun (x : Option Addr × Int) h => credit_Credit_Use x.1 x.2 h⟩
theorem eq_44 (credit_Credit_Left : Option Addr → H → Option ((Int) × H)) : (fun (x : PT E_44.ps) (h : H) => runFK Go.Proofs.Ytaebjajbogedkaa.Tab.D (lstK [⟨15, [⟨false, [.ptr]⟩], [⟨false, [.int .i64]⟩], fun (x : Option Addr) h => credit_Credit_Left x h⟩]) ann_44 Try.f44 (Try.f44.body.getD .skip) E_44.ys (encP E_44.ps x) h) = (fun (x : Option Addr × Int) h => P.credit_Credit_Use credit_Credit_Left x.1 x.2 h) := by kernel_rfl
theorem ok_44 : E_44.ok Go.Proofs.Ytaebjajbogedkaa.Tab.D := fun x h y h' e => runFK_ok (lstK_ok [E_15] (List.forall_mem_cons.2 ⟨ok_15, fun E h => nomatch h⟩)) (A := ann_44) (by kernel_rfl) (show Go.Proofs.Ytaebjajbogedkaa.Tab.D.fn.get 44 = some Try.f44 by kernel_rfl) (show Try.f44.body = some (Try.f44.body.getD .skip) by kernel_rfl) ((congrFun (congrFun (eq_44 credit_Credit_Left) x) h).trans e)
/-! send_Stream_Next -/
noncomputable def P.send_Stream_Next (send_Stream_next : Option Addr → Int → Int → H → Option ((((Int × Int × Int × Int × Int × Int × Bool × Sl × Sl)) × Bool) × H)) (spans_Set_Drop : Option Addr → Int → Int → H → Option ((Unit) × H)) (credit_Credit_Use : Option Addr → Int → H → Option ((Bool) × H)) (s : Option Addr) (room : Int) (most : Int) (h : H) : Option (((Int × Int × Int × Int × Int × Int × Bool × Sl × Sl) × Int × Bool) × H) :=
  newO (row 47 [(.int .i64 0), (.int .i64 0), (.int .i64 0), (.int .i64 0), (.int .i64 0), (.int .i64 0), (.bool false), (.slice none 0 0), (.slice none 0 0)]) h fun (b : Nat) (h0 : H) =>
  bind2 (send_Stream_next s room most h0) fun (((x0, x1, x2, x3, x4, x5, x6, x7, x8), x9) : (Int × Int × Int × Int × Int × Int × Bool × Sl × Sl) × Bool) (h1 : H) =>
  bindO (stZ [.int .i64, .int .i64, .int .i64, .int .i64, .int .i64, .int .i64, .bool, .sl, .sl] h1 (⟨b, 0, (some 0)⟩ : Addr) ((x0, x1, x2, x3, x4, x5, x6, x7, x8) : Int × Int × Int × Int × Int × Int × Bool × Sl × Sl)) fun (h2 : H) =>
  condK (!x9) (
    bindO (stZ [.int .i64, .int .i64, .int .i64, .int .i64, .int .i64, .int .i64, .bool, .sl, .sl] h2 (⟨b, 0, (some 0)⟩ : Addr) ((0, 0, 0, 0, 0, 0, false, (⟨none, 0, 0⟩ : Sl), (⟨none, 0, 0⟩ : Sl)) : Int × Int × Int × Int × Int × Int × Bool × Sl × Sl)) fun (h3 : H) =>
    bindO (ldZ [.int .i64, .int .i64, .int .i64, .int .i64, .int .i64, .int .i64, .bool, .sl, .sl] h3 (⟨b, 0, (some 0)⟩ : Addr)) fun ((x10, x11, x12, x13, x14, x15, x16, x17, x18) : Int × Int × Int × Int × Int × Int × Bool × Sl × Sl) =>
    some (((x10, (x11, (x12, (x13, (x14, (x15, (x16, (x17, x18)))))))), (0, false)), h3)) (
    bindO (ldI .i64 h2 (add (⟨b, 0, (some 0)⟩ : Addr) 2)) fun (x19 : Int) =>
    bindO (ldL h2 (add (⟨b, 0, (some 0)⟩ : Addr) 7)) fun (x20 : Sl) =>
    ptrK s fun (a0 : Addr) =>
    bindO (ldI .i64 h2 (add (⟨b, 0, (some 0)⟩ : Addr) 2)) fun (x21 : Int) =>
    bind2 (spans_Set_Drop (some (add a0 4)) x21 (IntKind.wrap .i64 (x19 + ((x20.len : Nat) : Int))) h2) fun (_ : Unit) (h4 : H) =>
    ptrK s fun (a1 : Addr) =>
    bindO (ldI .i64 h4 (add (add a1 0) 1)) fun (x22 : Int) =>
    letO ((IntKind.wrap .i64 ((IntKind.wrap .i64 (x19 + ((x20.len : Nat) : Int))) - x22))) fun (x23 : Int) =>
    ptrK s fun (a2 : Addr) =>
    bind2 (credit_Credit_Use (some (add a2 0)) (if (x23 > 0) then x23 else 0) h4) fun (x24 : Bool) (h5 : H) =>
    joinO (
      bindO (ldB h5 (add (⟨b, 0, (some 0)⟩ : Addr) 6)) fun (x25 : Bool) =>
      condK x25 (
        ptrK s fun (a3 : Addr) =>
        bindO (st1 h5 (add (add a3 8) 0) (.bool true)) fun (h6 : H) =>
        ptrK s fun (a4 : Addr) =>
        bindO (st1 h6 (add (add a4 8) 1) (.bool false)) fun (h7 : H) =>
        some (Sum.inl (((some (⟨b, 0, (some 0)⟩ : Addr)), (if (x23 > 0) then x23 else 0)), h7))) (
        some (Sum.inl (((some (⟨b, 0, (some 0)⟩ : Addr)), (if (x23 > 0) then x23 else 0)), h5)))) fun (((f, fresh), h6) : (((Option Addr) × Int) × H)) =>
    ptrK f fun (a3 : Addr) =>
    bindO (ldZ [.int .i64, .int .i64, .int .i64, .int .i64, .int .i64, .int .i64, .bool, .sl, .sl] h6 a3) fun ((x25, x26, x27, x28, x29, x30, x31, x32, x33) : Int × Int × Int × Int × Int × Int × Bool × Sl × Sl) =>
    ptrK f fun (a4 : Addr) =>
    bindO (stZ [.int .i64, .int .i64, .int .i64, .int .i64, .int .i64, .int .i64, .bool, .sl, .sl] h6 a4 ((x25, x26, x27, x28, x29, x30, x31, x32, x33) : Int × Int × Int × Int × Int × Int × Bool × Sl × Sl)) fun (h7 : H) =>
    ptrK f fun (a5 : Addr) =>
    bindO (ldZ [.int .i64, .int .i64, .int .i64, .int .i64, .int .i64, .int .i64, .bool, .sl, .sl] h7 a5) fun ((x34, x35, x36, x37, x38, x39, x40, x41, x42) : Int × Int × Int × Int × Int × Int × Bool × Sl × Sl) =>
    some (((x34, (x35, (x36, (x37, (x38, (x39, (x40, (x41, x42)))))))), (fresh, true)), h7))
noncomputable def send_Stream_Next : Option Addr → Int → Int → H → Option ((((Int × Int × Int × Int × Int × Int × Bool × Sl × Sl)) × Int × Bool) × H) := P.send_Stream_Next send_Stream_next spans_Set_Drop credit_Credit_Use
noncomputable def ann_18 : Ann := ⟨fun i => bif i.beq 10 then some ⟨[6, 7], [⟨false, [.ptr]⟩, ⟨false, [.int .i64]⟩]⟩ else none, fun _ => none, fun _ => none⟩
noncomputable def E_18 : Ent := ⟨18, [⟨false, [.ptr]⟩, ⟨false, [.int .i64]⟩, ⟨false, [.int .i64]⟩], [⟨true, [.int .i64, .int .i64, .int .i64, .int .i64, .int .i64, .int .i64, .bool, .sl, .sl]⟩, ⟨false, [.int .i64]⟩, ⟨false, [.bool]⟩], fun (x : Option Addr × Int × Int) h => send_Stream_Next x.1 x.2.1 x.2.2 h⟩
theorem eq_18 (send_Stream_next : Option Addr → Int → Int → H → Option ((((Int × Int × Int × Int × Int × Int × Bool × Sl × Sl)) × Bool) × H)) (spans_Set_Drop : Option Addr → Int → Int → H → Option ((Unit) × H)) (credit_Credit_Use : Option Addr → Int → H → Option ((Bool) × H)) : (fun (x : PT E_18.ps) (h : H) => runFK Go.Proofs.Ytaebjajbogedkaa.Tab.D (lstK [⟨42, [⟨false, [.ptr]⟩, ⟨false, [.int .i64]⟩, ⟨false, [.int .i64]⟩], [⟨true, [.int .i64, .int .i64, .int .i64, .int .i64, .int .i64, .int .i64, .bool, .sl, .sl]⟩, ⟨false, [.bool]⟩], fun (x : Option Addr × Int × Int) h => send_Stream_next x.1 x.2.1 x.2.2 h⟩, ⟨43, [⟨false, [.ptr]⟩, ⟨false, [.int .i64]⟩, ⟨false, [.int .i64]⟩], [], fun (x : Option Addr × Int × Int) h => spans_Set_Drop x.1 x.2.1 x.2.2 h⟩, ⟨44, [⟨false, [.ptr]⟩, ⟨false, [.int .i64]⟩], [⟨false, [.bool]⟩], fun (x : Option Addr × Int) h => credit_Credit_Use x.1 x.2 h⟩]) ann_18 Try.f18 (Try.f18.body.getD .skip) E_18.ys (encP E_18.ps x) h) = (fun (x : Option Addr × Int × Int) h => P.send_Stream_Next send_Stream_next spans_Set_Drop credit_Credit_Use x.1 x.2.1 x.2.2 h) := by kernel_rfl
theorem ok_18 : E_18.ok Go.Proofs.Ytaebjajbogedkaa.Tab.D := fun x h y h' e => runFK_ok (lstK_ok [E_42, E_43, E_44] (List.forall_mem_cons.2 ⟨ok_42, List.forall_mem_cons.2 ⟨ok_43, List.forall_mem_cons.2 ⟨ok_44, fun E h => nomatch h⟩⟩⟩)) (A := ann_18) (by kernel_rfl) (show Go.Proofs.Ytaebjajbogedkaa.Tab.D.fn.get 18 = some Try.f18 by kernel_rfl) (show Try.f18.body = some (Try.f18.body.getD .skip) by kernel_rfl) ((congrFun (congrFun (eq_18 send_Stream_next spans_Set_Drop credit_Credit_Use) x) h).trans e)
/-! law13_known -/
noncomputable def P.law13_known (send_New : Int → H → Option ((Option Addr) × H)) (send_Stream_Write : Option Addr → Sl → H → Option ((Int) × H)) (send_Stream_Finish : Option Addr → H → Option ((Int) × H)) (send_Stream_Next : Option Addr → Int → Int → H → Option ((((Int × Int × Int × Int × Int × Int × Bool × Sl × Sl)) × Int × Bool) × H))  (h : H) : Option (Bool × H) :=
  bind2 (send_New 4 h) fun (x0 : Option Addr) (h0 : H) =>
  joinO (
    bindO (eqPT x0 none) fun (x1 : Bool) =>
    condK x1 (
      some (Sum.inl ((x0, true), h0))) (
      newO (row 5 [(.int .u8 97), (.int .u8 98), (.int .u8 99)]) h0 fun (b : Nat) (h1 : H) =>
      bind2 (bbT h1 (⟨(some (⟨b, 0, (some 0)⟩ : Addr)), 3, 3⟩ : Sl)) fun (x2 : Sl) (h2 : H) =>
      bind2 (send_Stream_Write x0 x2 h2) fun (x3 : Int) (h3 : H) =>
      condK (x3 != 0) (
        some (Sum.inl ((x0, true), h3))) (
        bind2 (send_Stream_Finish x0 h3) fun (x4 : Int) (h4 : H) =>
        some (Sum.inl ((x0, (x4 != 0)), h4))))) fun (((s, x1), h1) : (((Option Addr) × Bool) × H)) =>
  condK x1 (
    some (false, h1)) (
    bind2 (send_Stream_Next s 99 99 h1) fun (((x2, x3, x4, x5, x6, x7, x8, x9, x10), x11, x12) : (Int × Int × Int × Int × Int × Int × Bool × Sl × Sl) × Int × Bool) (h2 : H) =>
    newO (row 47 [(.int .i64 0), (.int .i64 0), (.int .i64 0), (.int .i64 0), (.int .i64 0), (.int .i64 0), (.bool false), (.slice none 0 0), (.slice none 0 0)]) h2 fun (b : Nat) (h3 : H) =>
    bindO (stZ [.int .i64, .int .i64, .int .i64, .int .i64, .int .i64, .int .i64, .bool, .sl, .sl] h3 (⟨b, 0, (some 0)⟩ : Addr) ((x2, x3, x4, x5, x6, x7, x8, x9, x10) : Int × Int × Int × Int × Int × Int × Bool × Sl × Sl)) fun (h4 : H) =>
    condK x12 (
      condK (x11 == 3) (
        bindO (ldI .i64 h4 (add (⟨b, 0, (some 0)⟩ : Addr) 0)) fun (x13 : Int) =>
        condK (x13 == 3) (
          bindO (ldI .i64 h4 (add (⟨b, 0, (some 0)⟩ : Addr) 1)) fun (x14 : Int) =>
          condK (x14 == 4) (
            bindO (ldI .i64 h4 (add (⟨b, 0, (some 0)⟩ : Addr) 2)) fun (x15 : Int) =>
            condK (x15 == 0) (
              bindO (ldL h4 (add (⟨b, 0, (some 0)⟩ : Addr) 7)) fun (x16 : Sl) =>
              bind2 (strT h4 x16) fun (x17 : ByteArray) (h5 : H) =>
              condK (x17.toList == (⟨#[97, 98, 99]⟩ : ByteArray).toList) (
                bindO (ldB h5 (add (⟨b, 0, (some 0)⟩ : Addr) 6)) fun (x18 : Bool) =>
                condK x18 (
                  ptrK s fun (a0 : Addr) =>
                  bindO (ldI .i64 h5 (add (add a0 0) 1)) fun (x19 : Int) =>
                  condK (x19 == 3) (
                    ptrK s fun (a1 : Addr) =>
                    bindO (ldI .i64 h5 (add (add a1 0) 0)) fun (x20 : Int) =>
                    some ((x20 == 400), h5)) (
                    some (false, h5))) (
                  some (false, h5))) (
                some (false, h5))) (
              some (false, h4))) (
            some (false, h4))) (
          some (false, h4))) (
        some (false, h4))) (
      some (false, h4)))
noncomputable def law13_known : H → Option ((Bool) × H) := P.law13_known send_New send_Stream_Write send_Stream_Finish send_Stream_Next
noncomputable def ann_11 : Ann := ⟨fun _ => none, fun _ => none, fun i => bif i.beq 2 then some ⟨[1, 19], [⟨false, [.ptr]⟩, ⟨false, [.bool]⟩]⟩ else none⟩
noncomputable def E_11 : Ent := ⟨11, [], [⟨false, [.bool]⟩], fun (x : Unit) h => law13_known h⟩
theorem eq_11 (send_New : Int → H → Option ((Option Addr) × H)) (send_Stream_Write : Option Addr → Sl → H → Option ((Int) × H)) (send_Stream_Finish : Option Addr → H → Option ((Int) × H)) (send_Stream_Next : Option Addr → Int → Int → H → Option ((((Int × Int × Int × Int × Int × Int × Bool × Sl × Sl)) × Int × Bool) × H)) : (fun (x : PT E_11.ps) (h : H) => runFK Go.Proofs.Ytaebjajbogedkaa.Tab.D (lstK [⟨10, [⟨false, [.int .i64]⟩], [⟨false, [.ptr]⟩], fun (x : Int) h => send_New x h⟩, ⟨13, [⟨false, [.ptr]⟩, ⟨false, [.sl]⟩], [⟨false, [.int .i64]⟩], fun (x : Option Addr × Sl) h => send_Stream_Write x.1 x.2 h⟩, ⟨20, [⟨false, [.ptr]⟩], [⟨false, [.int .i64]⟩], fun (x : Option Addr) h => send_Stream_Finish x h⟩, ⟨18, [⟨false, [.ptr]⟩, ⟨false, [.int .i64]⟩, ⟨false, [.int .i64]⟩], [⟨true, [.int .i64, .int .i64, .int .i64, .int .i64, .int .i64, .int .i64, .bool, .sl, .sl]⟩, ⟨false, [.int .i64]⟩, ⟨false, [.bool]⟩], fun (x : Option Addr × Int × Int) h => send_Stream_Next x.1 x.2.1 x.2.2 h⟩]) ann_11 Try.f11 (Try.f11.body.getD .skip) E_11.ys (encP E_11.ps x) h) = (fun (x : Unit) h => P.law13_known send_New send_Stream_Write send_Stream_Finish send_Stream_Next  h) := by kernel_rfl
theorem ok_11 : E_11.ok Go.Proofs.Ytaebjajbogedkaa.Tab.D := fun x h y h' e => runFK_ok (lstK_ok [E_10, E_13, E_20, E_18] (List.forall_mem_cons.2 ⟨ok_10, List.forall_mem_cons.2 ⟨ok_13, List.forall_mem_cons.2 ⟨ok_20, List.forall_mem_cons.2 ⟨ok_18, fun E h => nomatch h⟩⟩⟩⟩)) (A := ann_11) (by kernel_rfl) (show Go.Proofs.Ytaebjajbogedkaa.Tab.D.fn.get 11 = some Try.f11 by kernel_rfl) (show Try.f11.body = some (Try.f11.body.getD .skip) by kernel_rfl) ((congrFun (congrFun (eq_11 send_New send_Stream_Write send_Stream_Finish send_Stream_Next) x) h).trans e)
/-! hand_Pick -/
noncomputable def hand_Pick (n : Int) (m : Int) (h : H) : Option (Int × H) :=
  bindO (remT .i64 n m) fun (x0 : Int) =>
  joinO (
    condK (decide ((x0 < 0))) (
      some (Sum.inl ((IntKind.wrap .i64 (x0 + m)), h))) (
      some (Sum.inl (x0, h)))) fun ((n1, h0) : (Int × H)) =>
  some (n1, h0)
noncomputable def ann_12 : Ann := ⟨fun i => bif i.beq 4 then some ⟨[0], [⟨false, [.int .i64]⟩]⟩ else none, fun _ => none, fun _ => none⟩
noncomputable def E_12 : Ent := ⟨12, [⟨false, [.int .i64]⟩, ⟨false, [.int .i64]⟩], [⟨false, [.int .i64]⟩], fun (x : Int × Int) h => hand_Pick x.1 x.2 h⟩
theorem eq_12  : (fun (x : PT E_12.ps) (h : H) => runFK Go.Proofs.Ytaebjajbogedkaa.Tab.D (lstK []) ann_12 Try.f12 (Try.f12.body.getD .skip) E_12.ys (encP E_12.ps x) h) = (fun (x : Int × Int) h => hand_Pick x.1 x.2 h) := by kernel_rfl
theorem ok_12 : E_12.ok Go.Proofs.Ytaebjajbogedkaa.Tab.D := fun x h y h' e => runFK_ok (lstK_ok [] (fun E h => nomatch h)) (A := ann_12) (by kernel_rfl) (show Go.Proofs.Ytaebjajbogedkaa.Tab.D.fn.get 12 = some Try.f12 by kernel_rfl) (show Try.f12.body = some (Try.f12.body.getD .skip) by kernel_rfl) ((congrFun (congrFun (eq_12 ) x) h).trans e)
/-! send_Stream_sent -/
noncomputable def send_Stream_sent (s : Option Addr) (f : Int × Int × Int × Int × Int × Int × Bool × Sl × Sl) (h : H) : Option ((Int × Int) × H) :=
  newO (row 47 [(.int .i64 f.1), (.int .i64 f.2.1), (.int .i64 f.2.2.1), (.int .i64 f.2.2.2.1), (.int .i64 f.2.2.2.2.1), (.int .i64 f.2.2.2.2.2.1), (.bool f.2.2.2.2.2.2.1), (.slice f.2.2.2.2.2.2.2.1.base f.2.2.2.2.2.2.2.1.len f.2.2.2.2.2.2.2.1.cap), (.slice f.2.2.2.2.2.2.2.2.base f.2.2.2.2.2.2.2.2.len f.2.2.2.2.2.2.2.2.cap)]) h fun (b : Nat) (h0 : H) =>
  bindO (ldI .i64 h0 (add (⟨b, 0, (some 0)⟩ : Addr) 2)) fun (x0 : Int) =>
  ptrK s fun (a0 : Addr) =>
  bindO (ldI .i64 h0 (add (add a0 0) 1)) fun (x1 : Int) =>
  condK (decide ((x0 > x1))) (
    some ((0, 0), h0)) (
    bindO (ldI .i64 h0 (add (⟨b, 0, (some 0)⟩ : Addr) 2)) fun (x2 : Int) =>
    ptrK s fun (a1 : Addr) =>
    bindO (ldI .i64 h0 (add (add a1 0) 1)) fun (x3 : Int) =>
    bindO (ldI .i64 h0 (add (⟨b, 0, (some 0)⟩ : Addr) 2)) fun (x4 : Int) =>
    bindO (ldL h0 (add (⟨b, 0, (some 0)⟩ : Addr) 7)) fun (x5 : Sl) =>
    letO ((if ((IntKind.wrap .i64 (x4 + ((x5.len : Nat) : Int))) < x3) then (IntKind.wrap .i64 (x4 + ((x5.len : Nat) : Int))) else x3)) fun (x6 : Int) =>
    some ((x2, x6), h0))
noncomputable def ann_39 : Ann := ⟨fun _ => none, fun _ => none, fun _ => none⟩
noncomputable def E_39 : Ent := ⟨39, [⟨false, [.ptr]⟩, ⟨true, [.int .i64, .int .i64, .int .i64, .int .i64, .int .i64, .int .i64, .bool, .sl, .sl]⟩], [⟨false, [.int .i64]⟩, ⟨false, [.int .i64]⟩], fun (x : Option Addr × ((Int × Int × Int × Int × Int × Int × Bool × Sl × Sl))) h => send_Stream_sent x.1 x.2 h⟩
theorem eq_39  : (fun (x : PT E_39.ps) (h : H) => runFK Go.Proofs.Ytaebjajbogedkaa.Tab.D (lstK []) ann_39 Try.f39 (Try.f39.body.getD .skip) E_39.ys (encP E_39.ps x) h) = (fun (x : Option Addr × ((Int × Int × Int × Int × Int × Int × Bool × Sl × Sl))) h => send_Stream_sent x.1 x.2 h) := by kernel_rfl
theorem ok_39 : E_39.ok Go.Proofs.Ytaebjajbogedkaa.Tab.D := fun x h y h' e => runFK_ok (lstK_ok [] (fun E h => nomatch h)) (A := ann_39) (by kernel_rfl) (show Go.Proofs.Ytaebjajbogedkaa.Tab.D.fn.get 39 = some Try.f39 by kernel_rfl) (show Try.f39.body = some (Try.f39.body.getD .skip) by kernel_rfl) ((congrFun (congrFun (eq_39 ) x) h).trans e)
/-! spans_Set_Gaps -/
noncomputable def P.spans_Set_Gaps_l1 (spans_bring : Int → H → Option ((Int) × H)) (slices_Clip_2_int_2_int : Sl → H → Option ((Sl) × H)) : ((Int × (Int × (Sl × (Sl × (Int × Int))))) × H) → Option (((Int × (Int × (Sl × (Sl × (Int × Int))))) × H) ⊕ (((Int × (Int × Sl)) × H) ⊕ (Sl × H))) := fun ((from', (to, (out, (x0, (x1, x2))))), h0) =>
  condK (decide ((x2 < x1))) (
    bindO (ixT 2 x0 x2) fun (a0 : Addr) =>
    bindO (ldZ [.int .i64, .int .i64] h0 a0) fun ((x3, x4) : Int × Int) =>
    newO (row 100 [(.int .i64 0), (.int .i64 0)]) h0 fun (b : Nat) (h1 : H) =>
    bindO (stZ [.int .i64, .int .i64] h1 (⟨b, 0, (some 0)⟩ : Addr) ((x3, x4) : Int × Int)) fun (h2 : H) =>
    joinO (
      bindO (ixAT 2 1 (⟨b, 0, (some 0)⟩ : Addr) 0) fun (a1 : Addr) =>
      bindO (ldI .i64 h2 a1) fun (x5 : Int) =>
      condK (decide ((from' < (if (to < x5) then to else x5)))) (
        newO (row 100 [(.int .i64 from'), (.int .i64 (if (to < x5) then to else x5))]) h2 fun (b1 : Nat) (h3 : H) =>
        bind2 (appT 100 2 16 h3 out (⟨(some (⟨b1, 0, (some 0)⟩ : Addr)), 1, 1⟩ : Sl)) fun (x6 : Sl) (h4 : H) =>
        some (Sum.inl ((from', (to, (x6, ((some (⟨b, 0, (some 0)⟩ : Addr)), (x0, (x1, x2)))))), h4))) (
        some (Sum.inl ((from', (to, (out, ((some (⟨b, 0, (some 0)⟩ : Addr)), (x0, (x1, x2)))))), h2)))) fun (((from'1, (to1, (out1, (r, (x5, (x6, x7)))))), h3) : ((Int × (Int × (Sl × ((Option Addr) × (Sl × (Int × Int)))))) × H)) =>
    ptrK r fun (a1 : Addr) =>
    bindO (ixAT 2 1 a1 1) fun (a2 : Addr) =>
    bindO (ldI .i64 h3 a2) fun (x8 : Int) =>
    some (Sum.inl (((if (x8 > from'1) then x8 else from'1), (to1, (out1, (x5, (x6, (IntKind.wrap .i64 (x7 + 1))))))), h3))) (
    some (Sum.inr (Sum.inl ((from', (to, out)), h0))))

noncomputable def P.spans_Set_Gaps (spans_bring : Int → H → Option ((Int) × H)) (slices_Clip_2_int_2_int : Sl → H → Option ((Sl) × H)) (s : Option Addr) (from' : Int) (to : Int) (h : H) : Option (Sl × H) :=
  bind2 (spans_bring from' h) fun (x0 : Int) (h0 : H) =>
  bind2 (spans_bring to h0) fun (x1 : Int) (h1 : H) =>
  joinO (
    ptrK s fun (a0 : Addr) =>
    bindO (ldL h1 (add a0 0)) fun (x2 : Sl) =>
    loopO (P.spans_Set_Gaps_l1 spans_bring slices_Clip_2_int_2_int) ((x0, (x1, ((⟨none, 0, 0⟩ : Sl), (x2, (((x2.len : Nat) : Int), 0))))), h1)) fun (((from'1, (to1, out)), h2) : ((Int × (Int × Sl)) × H)) =>
  joinO (
    condK (decide ((from'1 < to1))) (
      newO (row 100 [(.int .i64 from'1), (.int .i64 to1)]) h2 fun (b : Nat) (h3 : H) =>
      bind2 (appT 100 2 16 h3 out (⟨(some (⟨b, 0, (some 0)⟩ : Addr)), 1, 1⟩ : Sl)) fun (x2 : Sl) (h4 : H) =>
      some (Sum.inl (x2, h4))) (
      some (Sum.inl (out, h2)))) fun ((out1, h3) : (Sl × H)) =>
  bind2 (slices_Clip_2_int_2_int out1 h3) fun (x2 : Sl) (h4 : H) =>
  some (x2, h4)
noncomputable abbrev spans_Set_Gaps_l1 := P.spans_Set_Gaps_l1 spans_bring slices_Clip_2_int_2_int
noncomputable def spans_Set_Gaps : Option Addr → Int → Int → H → Option ((Sl) × H) := P.spans_Set_Gaps spans_bring slices_Clip_2_int_2_int
noncomputable def ann_40 : Ann := ⟨fun i => bif i.beq 9 then some ⟨[1, 2, 7, 9, 18, 19, 20], [⟨false, [.int .i64]⟩, ⟨false, [.int .i64]⟩, ⟨false, [.sl]⟩, ⟨false, [.ptr]⟩, ⟨false, [.sl]⟩, ⟨false, [.int .i64]⟩, ⟨false, [.int .i64]⟩]⟩ else bif i.beq 11 then some ⟨[1, 2, 7], [⟨false, [.int .i64]⟩, ⟨false, [.int .i64]⟩, ⟨false, [.sl]⟩]⟩ else bif i.beq 13 then some ⟨[7], [⟨false, [.sl]⟩]⟩ else none, fun i => bif i.beq 4 then some ⟨[1, 2, 7, 18, 19, 20], [⟨false, [.int .i64]⟩, ⟨false, [.int .i64]⟩, ⟨false, [.sl]⟩, ⟨false, [.sl]⟩, ⟨false, [.int .i64]⟩, ⟨false, [.int .i64]⟩]⟩ else none, fun _ => none⟩
noncomputable def E_40 : Ent := ⟨40, [⟨false, [.ptr]⟩, ⟨false, [.int .i64]⟩, ⟨false, [.int .i64]⟩], [⟨false, [.sl]⟩], fun (x : Option Addr × Int × Int) h => spans_Set_Gaps x.1 x.2.1 x.2.2 h⟩
theorem eq_40 (spans_bring : Int → H → Option ((Int) × H)) (slices_Clip_2_int_2_int : Sl → H → Option ((Sl) × H)) : (fun (x : PT E_40.ps) (h : H) => runFK Go.Proofs.Ytaebjajbogedkaa.Tab.D (lstK [⟨48, [⟨false, [.int .i64]⟩], [⟨false, [.int .i64]⟩], fun (x : Int) h => spans_bring x h⟩, ⟨71, [⟨false, [.sl]⟩], [⟨false, [.sl]⟩], fun (x : Sl) h => slices_Clip_2_int_2_int x h⟩]) ann_40 Try.f40 (Try.f40.body.getD .skip) E_40.ys (encP E_40.ps x) h) = (fun (x : Option Addr × Int × Int) h => P.spans_Set_Gaps spans_bring slices_Clip_2_int_2_int x.1 x.2.1 x.2.2 h) := by kernel_rfl
theorem ok_40 : E_40.ok Go.Proofs.Ytaebjajbogedkaa.Tab.D := fun x h y h' e => runFK_ok (lstK_ok [E_48, E_71] (List.forall_mem_cons.2 ⟨ok_48, List.forall_mem_cons.2 ⟨ok_71, fun E h => nomatch h⟩⟩)) (A := ann_40) (by kernel_rfl) (show Go.Proofs.Ytaebjajbogedkaa.Tab.D.fn.get 40 = some Try.f40 by kernel_rfl) (show Try.f40.body = some (Try.f40.body.getD .skip) by kernel_rfl) ((congrFun (congrFun (eq_40 spans_bring slices_Clip_2_int_2_int) x) h).trans e)
/-! spans_Set_Add -/
noncomputable def P.spans_Set_Add_l1 (spans_bring : Int → H → Option ((Int) × H)) : (((Option Addr) × (Int × (Int × (Sl × (Bool × (Sl × (Int × Int))))))) × H) → Option ((((Option Addr) × (Int × (Int × (Sl × (Bool × (Sl × (Int × Int))))))) × H) ⊕ ((((Option Addr) × (Int × (Int × (Sl × Bool)))) × H) ⊕ (PUnit × H))) := fun ((s, (from', (to, (out, (done, (x0, (x1, x2))))))), h0) =>
  condK (decide ((x2 < x1))) (
    joinO (
      bindO (ixT 2 x0 x2) fun (a0 : Addr) =>
      bindO (ldZ [.int .i64, .int .i64] h0 a0) fun ((x3, x4) : Int × Int) =>
      newO (row 100 [(.int .i64 0), (.int .i64 0)]) h0 fun (b : Nat) (h1 : H) =>
      bindO (stZ [.int .i64, .int .i64] h1 (⟨b, 0, (some 0)⟩ : Addr) ((x3, x4) : Int × Int)) fun (h2 : H) =>
      bindO (ixAT 2 1 (⟨b, 0, (some 0)⟩ : Addr) 1) fun (a1 : Addr) =>
      bindO (ldI .i64 h2 a1) fun (x5 : Int) =>
      condK (decide ((x5 < from'))) (
        bindO (ldZ [.int .i64, .int .i64] h2 (⟨b, 0, (some 0)⟩ : Addr)) fun ((x6, x7) : Int × Int) =>
        newO (row 100 [(.int .i64 x6), (.int .i64 x7)]) h2 fun (b1 : Nat) (h3 : H) =>
        bind2 (appT 100 2 16 h3 out (⟨(some (⟨b1, 0, (some 0)⟩ : Addr)), 1, 1⟩ : Sl)) fun (x8 : Sl) (h4 : H) =>
        some (Sum.inl ((s, (from', (to, (x8, (done, (x0, (x1, x2))))))), h4))) (
        bindO (ixAT 2 1 (⟨b, 0, (some 0)⟩ : Addr) 0) fun (a2 : Addr) =>
        bindO (ldI .i64 h2 a2) fun (x9 : Int) =>
        condK (decide ((x9 > to))) (
          joinO (
            condK (!done) (
              newO (row 100 [(.int .i64 from'), (.int .i64 to)]) h2 fun (b2 : Nat) (h5 : H) =>
              bind2 (appT 100 2 16 h5 out (⟨(some (⟨b2, 0, (some 0)⟩ : Addr)), 1, 1⟩ : Sl)) fun (x10 : Sl) (h6 : H) =>
              some (Sum.inl ((s, (from', (to, (x10, ((some (⟨b, 0, (some 0)⟩ : Addr)), (x0, (x1, x2))))))), h6))) (
              some (Sum.inl ((s, (from', (to, (out, ((some (⟨b, 0, (some 0)⟩ : Addr)), (x0, (x1, x2))))))), h2)))) fun (((s1, (from'1, (to1, (out1, (r, (x10, (x11, x12))))))), h5) : (((Option Addr) × (Int × (Int × (Sl × ((Option Addr) × (Sl × (Int × Int))))))) × H)) =>
          ptrK r fun (a3 : Addr) =>
          bindO (ldZ [.int .i64, .int .i64] h5 a3) fun ((x13, x14) : Int × Int) =>
          newO (row 100 [(.int .i64 x13), (.int .i64 x14)]) h5 fun (b2 : Nat) (h6 : H) =>
          bind2 (appT 100 2 16 h6 out1 (⟨(some (⟨b2, 0, (some 0)⟩ : Addr)), 1, 1⟩ : Sl)) fun (x15 : Sl) (h7 : H) =>
          some (Sum.inl ((s1, (from'1, (to1, (x15, (true, (x10, (x11, x12))))))), h7))) (
          bindO (ixAT 2 1 (⟨b, 0, (some 0)⟩ : Addr) 0) fun (a4 : Addr) =>
          bindO (ldI .i64 h2 a4) fun (x16 : Int) =>
          bindO (ixAT 2 1 (⟨b, 0, (some 0)⟩ : Addr) 1) fun (a5 : Addr) =>
          bindO (ldI .i64 h2 a5) fun (x17 : Int) =>
          some (Sum.inl ((s, ((if (x16 < from') then x16 else from'), ((if (x17 > to) then x17 else to), (out, (done, (x0, (x1, x2))))))), h2))))) fun (((s1, (from'1, (to1, (out1, (done1, (x3, (x4, x5))))))), h1) : (((Option Addr) × (Int × (Int × (Sl × (Bool × (Sl × (Int × Int))))))) × H)) =>
    some (Sum.inl ((s1, (from'1, (to1, (out1, (done1, (x3, (x4, (IntKind.wrap .i64 (x5 + 1))))))))), h1))) (
    some (Sum.inr (Sum.inl ((s, (from', (to, (out, done)))), h0))))

noncomputable def P.spans_Set_Add (spans_bring : Int → H → Option ((Int) × H)) (s : Option Addr) (from' : Int) (to : Int) (h : H) : Option (Unit × H) :=
  bind2 (spans_bring from' h) fun (x0 : Int) (h0 : H) =>
  bind2 (spans_bring to h0) fun (x1 : Int) (h1 : H) =>
  condK (decide ((x0 ≥ x1))) (
    some ((), h1)) (
    joinO (
      ptrK s fun (a0 : Addr) =>
      bindO (ldL h1 (add a0 0)) fun (x2 : Sl) =>
      loopO (P.spans_Set_Add_l1 spans_bring) ((s, (x0, (x1, ((⟨none, 0, 0⟩ : Sl), (false, (x2, (((x2.len : Nat) : Int), 0))))))), h1)) fun (((s1, (from'1, (to1, (out, done)))), h2) : (((Option Addr) × (Int × (Int × (Sl × Bool)))) × H)) =>
    joinO (
      condK (!done) (
        newO (row 100 [(.int .i64 from'1), (.int .i64 to1)]) h2 fun (b : Nat) (h3 : H) =>
        bind2 (appT 100 2 16 h3 out (⟨(some (⟨b, 0, (some 0)⟩ : Addr)), 1, 1⟩ : Sl)) fun (x2 : Sl) (h4 : H) =>
        some (Sum.inl ((s1, x2), h4))) (
        some (Sum.inl ((s1, out), h2)))) fun (((s2, out1), h3) : (((Option Addr) × Sl) × H)) =>
    ptrK s2 fun (a0 : Addr) =>
    bindO (st1 h3 (add a0 0) (.slice out1.base out1.len out1.cap)) fun (h4 : H) =>
    some ((), h4))
noncomputable abbrev spans_Set_Add_l1 := P.spans_Set_Add_l1 spans_bring
noncomputable def spans_Set_Add : Option Addr → Int → Int → H → Option ((Unit) × H) := P.spans_Set_Add spans_bring
noncomputable def ann_24 : Ann := ⟨fun i => bif i.beq 13 then some ⟨[0, 1, 2, 6, 9, 20, 21, 22], [⟨false, [.ptr]⟩, ⟨false, [.int .i64]⟩, ⟨false, [.int .i64]⟩, ⟨false, [.sl]⟩, ⟨false, [.ptr]⟩, ⟨false, [.sl]⟩, ⟨false, [.int .i64]⟩, ⟨false, [.int .i64]⟩]⟩ else bif i.beq 15 then some ⟨[0, 1, 2, 6, 7, 20, 21, 22], [⟨false, [.ptr]⟩, ⟨false, [.int .i64]⟩, ⟨false, [.int .i64]⟩, ⟨false, [.sl]⟩, ⟨false, [.bool]⟩, ⟨false, [.sl]⟩, ⟨false, [.int .i64]⟩, ⟨false, [.int .i64]⟩]⟩ else bif i.beq 16 then some ⟨[0, 1, 2, 6, 7], [⟨false, [.ptr]⟩, ⟨false, [.int .i64]⟩, ⟨false, [.int .i64]⟩, ⟨false, [.sl]⟩, ⟨false, [.bool]⟩]⟩ else bif i.beq 18 then some ⟨[0, 6], [⟨false, [.ptr]⟩, ⟨false, [.sl]⟩]⟩ else none, fun i => bif i.beq 5 then some ⟨[0, 1, 2, 6, 7, 20, 21, 22], [⟨false, [.ptr]⟩, ⟨false, [.int .i64]⟩, ⟨false, [.int .i64]⟩, ⟨false, [.sl]⟩, ⟨false, [.bool]⟩, ⟨false, [.sl]⟩, ⟨false, [.int .i64]⟩, ⟨false, [.int .i64]⟩]⟩ else none, fun _ => none⟩
noncomputable def E_24 : Ent := ⟨24, [⟨false, [.ptr]⟩, ⟨false, [.int .i64]⟩, ⟨false, [.int .i64]⟩], [], fun (x : Option Addr × Int × Int) h => spans_Set_Add x.1 x.2.1 x.2.2 h⟩
theorem eq_24 (spans_bring : Int → H → Option ((Int) × H)) : (fun (x : PT E_24.ps) (h : H) => runFK Go.Proofs.Ytaebjajbogedkaa.Tab.D (lstK [⟨48, [⟨false, [.int .i64]⟩], [⟨false, [.int .i64]⟩], fun (x : Int) h => spans_bring x h⟩]) ann_24 Try.f24 (Try.f24.body.getD .skip) E_24.ys (encP E_24.ps x) h) = (fun (x : Option Addr × Int × Int) h => P.spans_Set_Add spans_bring x.1 x.2.1 x.2.2 h) := by kernel_rfl
theorem ok_24 : E_24.ok Go.Proofs.Ytaebjajbogedkaa.Tab.D := fun x h y h' e => runFK_ok (lstK_ok [E_48] (List.forall_mem_cons.2 ⟨ok_48, fun E h => nomatch h⟩)) (A := ann_24) (by kernel_rfl) (show Go.Proofs.Ytaebjajbogedkaa.Tab.D.fn.get 24 = some Try.f24 by kernel_rfl) (show Try.f24.body = some (Try.f24.body.getD .skip) by kernel_rfl) ((congrFun (congrFun (eq_24 spans_bring) x) h).trans e)
/-! send_Stream_ended -/
noncomputable def send_Stream_ended (s : Option Addr) (f : Int × Int × Int × Int × Int × Int × Bool × Sl × Sl) (h : H) : Option (Bool × H) :=
  newO (row 47 [(.int .i64 f.1), (.int .i64 f.2.1), (.int .i64 f.2.2.1), (.int .i64 f.2.2.2.1), (.int .i64 f.2.2.2.2.1), (.int .i64 f.2.2.2.2.2.1), (.bool f.2.2.2.2.2.2.1), (.slice f.2.2.2.2.2.2.2.1.base f.2.2.2.2.2.2.2.1.len f.2.2.2.2.2.2.2.1.cap), (.slice f.2.2.2.2.2.2.2.2.base f.2.2.2.2.2.2.2.2.len f.2.2.2.2.2.2.2.2.cap)]) h fun (b : Nat) (h0 : H) =>
  bindO (ldB h0 (add (⟨b, 0, (some 0)⟩ : Addr) 6)) fun (x0 : Bool) =>
  condK x0 (
    ptrK s fun (a0 : Addr) =>
    bindO (ldB h0 (add (add a0 8) 0)) fun (x1 : Bool) =>
    condK x1 (
      bindO (ldI .i64 h0 (add (⟨b, 0, (some 0)⟩ : Addr) 2)) fun (x2 : Int) =>
      ptrK s fun (a1 : Addr) =>
      bindO (ldL h0 (add a1 3)) fun (x3 : Sl) =>
      bindO (ldL h0 (add (⟨b, 0, (some 0)⟩ : Addr) 7)) fun (x4 : Sl) =>
      letO ((x2 == (IntKind.wrap .i64 (((x3.len : Nat) : Int) - ((x4.len : Nat) : Int))))) fun (x5 : Bool) =>
      some (x5, h0)) (
      some (false, h0))) (
    some (false, h0))
noncomputable def ann_41 : Ann := ⟨fun _ => none, fun _ => none, fun _ => none⟩
noncomputable def E_41 : Ent := ⟨41, [⟨false, [.ptr]⟩, ⟨true, [.int .i64, .int .i64, .int .i64, .int .i64, .int .i64, .int .i64, .bool, .sl, .sl]⟩], [⟨false, [.bool]⟩], fun (x : Option Addr × ((Int × Int × Int × Int × Int × Int × Bool × Sl × Sl))) h => send_Stream_ended x.1 x.2 h⟩
theorem eq_41  : (fun (x : PT E_41.ps) (h : H) => runFK Go.Proofs.Ytaebjajbogedkaa.Tab.D (lstK []) ann_41 Try.f41 (Try.f41.body.getD .skip) E_41.ys (encP E_41.ps x) h) = (fun (x : Option Addr × ((Int × Int × Int × Int × Int × Int × Bool × Sl × Sl))) h => send_Stream_ended x.1 x.2 h) := by kernel_rfl
theorem ok_41 : E_41.ok Go.Proofs.Ytaebjajbogedkaa.Tab.D := fun x h y h' e => runFK_ok (lstK_ok [] (fun E h => nomatch h)) (A := ann_41) (by kernel_rfl) (show Go.Proofs.Ytaebjajbogedkaa.Tab.D.fn.get 41 = some Try.f41 by kernel_rfl) (show Try.f41.body = some (Try.f41.body.getD .skip) by kernel_rfl) ((congrFun (congrFun (eq_41 ) x) h).trans e)
/-! send_Stream_Lost -/
noncomputable def P.send_Stream_Lost_l1 (send_Stream_sent : Option Addr → (Int × Int × Int × Int × Int × Int × Bool × Sl × Sl) → H → Option ((Int × Int) × H)) (spans_Set_Gaps : Option Addr → Int → Int → H → Option ((Sl) × H)) (spans_Set_Add : Option Addr → Int → Int → H → Option ((Unit) × H)) (send_Stream_ended : Option Addr → (Int × Int × Int × Int × Int × Int × Bool × Sl × Sl) → H → Option ((Bool) × H)) : (((Option Addr) × ((Option Addr) × (Sl × (Int × Int)))) × H) → Option ((((Option Addr) × ((Option Addr) × (Sl × (Int × Int)))) × H) ⊕ ((((Option Addr) × (Option Addr)) × H) ⊕ (PUnit × H))) := fun ((s, (f, (x0, (x1, x2)))), h0) =>
  condK (decide ((x2 < x1))) (
    bindO (ixT 2 x0 x2) fun (a0 : Addr) =>
    bindO (ldZ [.int .i64, .int .i64] h0 a0) fun ((x3, x4) : Int × Int) =>
    newO (row 100 [(.int .i64 0), (.int .i64 0)]) h0 fun (b : Nat) (h1 : H) =>
    bindO (stZ [.int .i64, .int .i64] h1 (⟨b, 0, (some 0)⟩ : Addr) ((x3, x4) : Int × Int)) fun (h2 : H) =>
    ptrK s fun (a1 : Addr) =>
    bindO (ixAT 2 1 (⟨b, 0, (some 0)⟩ : Addr) 0) fun (a2 : Addr) =>
    bindO (ldI .i64 h2 a2) fun (x5 : Int) =>
    bindO (ixAT 2 1 (⟨b, 0, (some 0)⟩ : Addr) 1) fun (a3 : Addr) =>
    bindO (ldI .i64 h2 a3) fun (x6 : Int) =>
    bind2 (spans_Set_Add (some (add a1 4)) x5 x6 h2) fun (_ : Unit) (h3 : H) =>
    some (Sum.inl ((s, (f, (x0, (x1, (IntKind.wrap .i64 (x2 + 1)))))), h3))) (
    some (Sum.inr (Sum.inl ((s, f), h0))))

noncomputable def P.send_Stream_Lost (send_Stream_sent : Option Addr → (Int × Int × Int × Int × Int × Int × Bool × Sl × Sl) → H → Option ((Int × Int) × H)) (spans_Set_Gaps : Option Addr → Int → Int → H → Option ((Sl) × H)) (spans_Set_Add : Option Addr → Int → Int → H → Option ((Unit) × H)) (send_Stream_ended : Option Addr → (Int × Int × Int × Int × Int × Int × Bool × Sl × Sl) → H → Option ((Bool) × H)) (s : Option Addr) (f : Int × Int × Int × Int × Int × Int × Bool × Sl × Sl) (h : H) : Option (Unit × H) :=
  newO (row 47 [(.int .i64 f.1), (.int .i64 f.2.1), (.int .i64 f.2.2.1), (.int .i64 f.2.2.2.1), (.int .i64 f.2.2.2.2.1), (.int .i64 f.2.2.2.2.2.1), (.bool f.2.2.2.2.2.2.1), (.slice f.2.2.2.2.2.2.2.1.base f.2.2.2.2.2.2.2.1.len f.2.2.2.2.2.2.2.1.cap), (.slice f.2.2.2.2.2.2.2.2.base f.2.2.2.2.2.2.2.2.len f.2.2.2.2.2.2.2.2.cap)]) h fun (b : Nat) (h0 : H) =>
  bindO (ldI .i64 h0 (add (⟨b, 0, (some 0)⟩ : Addr) 1)) fun (x0 : Int) =>
  ptrK s fun (a0 : Addr) =>
  bindO (ldI .i64 h0 (add a0 2)) fun (x1 : Int) =>
  condK (x0 != x1) (
    some ((), h0)) (
    bindO (ldI .i64 h0 (add (⟨b, 0, (some 0)⟩ : Addr) 0)) fun (x2 : Int) =>
    condK (x2 == 3) (
      bindO (ldZ [.int .i64, .int .i64, .int .i64, .int .i64, .int .i64, .int .i64, .bool, .sl, .sl] h0 (⟨b, 0, (some 0)⟩ : Addr)) fun ((x3, x4, x5, x6, x7, x8, x9, x10, x11) : Int × Int × Int × Int × Int × Int × Bool × Sl × Sl) =>
      bind2 (send_Stream_sent s (x3, x4, x5, x6, x7, x8, x9, x10, x11) h0) fun ((x12, x13) : Int × Int) (h1 : H) =>
      joinO (
        ptrK s fun (a1 : Addr) =>
        bind2 (spans_Set_Gaps (some (add a1 5)) x12 x13 h1) fun (x14 : Sl) (h2 : H) =>
        loopO (P.send_Stream_Lost_l1 send_Stream_sent spans_Set_Gaps spans_Set_Add send_Stream_ended) ((s, ((some (⟨b, 0, (some 0)⟩ : Addr)), (x14, (((x14.len : Nat) : Int), 0)))), h2)) fun (((s1, f1), h2) : (((Option Addr) × (Option Addr)) × H)) =>
      ptrK f1 fun (a1 : Addr) =>
      bindO (ldZ [.int .i64, .int .i64, .int .i64, .int .i64, .int .i64, .int .i64, .bool, .sl, .sl] h2 a1) fun ((x14, x15, x16, x17, x18, x19, x20, x21, x22) : Int × Int × Int × Int × Int × Int × Bool × Sl × Sl) =>
      bind2 (send_Stream_ended s1 (x14, x15, x16, x17, x18, x19, x20, x21, x22) h2) fun (x23 : Bool) (h3 : H) =>
      condK x23 (
        ptrK s1 fun (a2 : Addr) =>
        bindO (ldB h3 (add (add a2 8) 2)) fun (x24 : Bool) =>
        condK (!x24) (
          ptrK s1 fun (a3 : Addr) =>
          bindO (st1 h3 (add (add a3 8) 1) (.bool true)) fun (h4 : H) =>
          some ((), h4)) (
          some ((), h3))) (
        some ((), h3))) (
      bindO (ldI .i64 h0 (add (⟨b, 0, (some 0)⟩ : Addr) 0)) fun (x25 : Int) =>
      condK (x25 == 4) (
        ptrK s fun (a4 : Addr) =>
        bindO (ldB h0 (add a4 7)) fun (x26 : Bool) =>
        condK x26 (
          bindO (ldI .i64 h0 (add (⟨b, 0, (some 0)⟩ : Addr) 4)) fun (x27 : Int) =>
          ptrK s fun (a5 : Addr) =>
          bindO (ldI .i64 h0 (add a5 15)) fun (x28 : Int) =>
          condK (x27 == x28) (
            ptrK s fun (a6 : Addr) =>
            bindO (ldB h0 (add (add a6 11) 0)) fun (x29 : Bool) =>
            condK x29 (
              ptrK s fun (a7 : Addr) =>
              bindO (ldB h0 (add (add a7 11) 2)) fun (x30 : Bool) =>
              condK (!x30) (
                ptrK s fun (a8 : Addr) =>
                bindO (st1 h0 (add (add a8 11) 1) (.bool true)) fun (h5 : H) =>
                some ((), h5)) (
                some ((), h0))) (
              some ((), h0))) (
            some ((), h0))) (
          some ((), h0))) (
        some ((), h0))))
noncomputable abbrev send_Stream_Lost_l1 := P.send_Stream_Lost_l1 send_Stream_sent spans_Set_Gaps spans_Set_Add send_Stream_ended
noncomputable def send_Stream_Lost : Option Addr → (Int × Int × Int × Int × Int × Int × Bool × Sl × Sl) → H → Option ((Unit) × H) := P.send_Stream_Lost send_Stream_sent spans_Set_Gaps spans_Set_Add send_Stream_ended
noncomputable def ann_17 : Ann := ⟨fun i => bif i.beq 9 then some ⟨[0, 3], [⟨false, [.ptr]⟩, ⟨false, [.ptr]⟩]⟩ else none, fun i => bif i.beq 5 then some ⟨[0, 3, 31, 32, 33], [⟨false, [.ptr]⟩, ⟨false, [.ptr]⟩, ⟨false, [.sl]⟩, ⟨false, [.int .i64]⟩, ⟨false, [.int .i64]⟩]⟩ else none, fun _ => none⟩
noncomputable def E_17 : Ent := ⟨17, [⟨false, [.ptr]⟩, ⟨true, [.int .i64, .int .i64, .int .i64, .int .i64, .int .i64, .int .i64, .bool, .sl, .sl]⟩], [], fun (x : Option Addr × ((Int × Int × Int × Int × Int × Int × Bool × Sl × Sl))) h => send_Stream_Lost x.1 x.2 h⟩
theorem eq_17 (send_Stream_sent : Option Addr → (Int × Int × Int × Int × Int × Int × Bool × Sl × Sl) → H → Option ((Int × Int) × H)) (spans_Set_Gaps : Option Addr → Int → Int → H → Option ((Sl) × H)) (spans_Set_Add : Option Addr → Int → Int → H → Option ((Unit) × H)) (send_Stream_ended : Option Addr → (Int × Int × Int × Int × Int × Int × Bool × Sl × Sl) → H → Option ((Bool) × H)) : (fun (x : PT E_17.ps) (h : H) => runFK Go.Proofs.Ytaebjajbogedkaa.Tab.D (lstK [⟨39, [⟨false, [.ptr]⟩, ⟨true, [.int .i64, .int .i64, .int .i64, .int .i64, .int .i64, .int .i64, .bool, .sl, .sl]⟩], [⟨false, [.int .i64]⟩, ⟨false, [.int .i64]⟩], fun (x : Option Addr × ((Int × Int × Int × Int × Int × Int × Bool × Sl × Sl))) h => send_Stream_sent x.1 x.2 h⟩, ⟨40, [⟨false, [.ptr]⟩, ⟨false, [.int .i64]⟩, ⟨false, [.int .i64]⟩], [⟨false, [.sl]⟩], fun (x : Option Addr × Int × Int) h => spans_Set_Gaps x.1 x.2.1 x.2.2 h⟩, ⟨24, [⟨false, [.ptr]⟩, ⟨false, [.int .i64]⟩, ⟨false, [.int .i64]⟩], [], fun (x : Option Addr × Int × Int) h => spans_Set_Add x.1 x.2.1 x.2.2 h⟩, ⟨41, [⟨false, [.ptr]⟩, ⟨true, [.int .i64, .int .i64, .int .i64, .int .i64, .int .i64, .int .i64, .bool, .sl, .sl]⟩], [⟨false, [.bool]⟩], fun (x : Option Addr × ((Int × Int × Int × Int × Int × Int × Bool × Sl × Sl))) h => send_Stream_ended x.1 x.2 h⟩]) ann_17 Try.f17 (Try.f17.body.getD .skip) E_17.ys (encP E_17.ps x) h) = (fun (x : Option Addr × ((Int × Int × Int × Int × Int × Int × Bool × Sl × Sl))) h => P.send_Stream_Lost send_Stream_sent spans_Set_Gaps spans_Set_Add send_Stream_ended x.1 x.2 h) := by kernel_rfl
theorem ok_17 : E_17.ok Go.Proofs.Ytaebjajbogedkaa.Tab.D := fun x h y h' e => runFK_ok (lstK_ok [E_39, E_40, E_24, E_41] (List.forall_mem_cons.2 ⟨ok_39, List.forall_mem_cons.2 ⟨ok_40, List.forall_mem_cons.2 ⟨ok_24, List.forall_mem_cons.2 ⟨ok_41, fun E h => nomatch h⟩⟩⟩⟩)) (A := ann_17) (by kernel_rfl) (show Go.Proofs.Ytaebjajbogedkaa.Tab.D.fn.get 17 = some Try.f17 by kernel_rfl) (show Try.f17.body = some (Try.f17.body.getD .skip) by kernel_rfl) ((congrFun (congrFun (eq_17 send_Stream_sent spans_Set_Gaps spans_Set_Add send_Stream_ended) x) h).trans e)
/-! hand_Few -/
noncomputable def hand_Few (b : Sl) (n : Int) (h : H) : Option (Sl × H) :=
  joinO (
    condK (decide ((((b.len : Nat) : Int) > n))) (
      bindO (slT 1 h b none (some n) none) fun (x0 : Sl) =>
      some (Sum.inl (x0, h))) (
      some (Sum.inl (b, h)))) fun ((b1, h0) : (Sl × H)) =>
  newO (row 5 []) h0 fun (b2 : Nat) (h1 : H) =>
  bind2 (appT 5 1 1 h1 (⟨(some (⟨b2, 0, (some 0)⟩ : Addr)), 0, 0⟩ : Sl) b1) fun (x0 : Sl) (h2 : H) =>
  some (x0, h2)
noncomputable def ann_19 : Ann := ⟨fun i => bif i.beq 3 then some ⟨[0], [⟨false, [.sl]⟩]⟩ else none, fun _ => none, fun _ => none⟩
noncomputable def E_19 : Ent := ⟨19, [⟨false, [.sl]⟩, ⟨false, [.int .i64]⟩], [⟨false, [.sl]⟩], fun (x : Sl × Int) h => hand_Few x.1 x.2 h⟩
theorem eq_19  : (fun (x : PT E_19.ps) (h : H) => runFK Go.Proofs.Ytaebjajbogedkaa.Tab.D (lstK []) ann_19 Try.f19 (Try.f19.body.getD .skip) E_19.ys (encP E_19.ps x) h) = (fun (x : Sl × Int) h => hand_Few x.1 x.2 h) := by kernel_rfl
theorem ok_19 : E_19.ok Go.Proofs.Ytaebjajbogedkaa.Tab.D := fun x h y h' e => runFK_ok (lstK_ok [] (fun E h => nomatch h)) (A := ann_19) (by kernel_rfl) (show Go.Proofs.Ytaebjajbogedkaa.Tab.D.fn.get 19 = some Try.f19 by kernel_rfl) (show Try.f19.body = some (Try.f19.body.getD .skip) by kernel_rfl) ((congrFun (congrFun (eq_19 ) x) h).trans e)
/-! spans_Set_All -/
noncomputable def P.spans_Set_All (spans_Set_Gaps : Option Addr → Int → Int → H → Option ((Sl) × H)) (s : Option Addr) (from' : Int) (to : Int) (h : H) : Option (Bool × H) :=
  bind2 (spans_Set_Gaps s from' to h) fun (x0 : Sl) (h0 : H) =>
  some ((((x0.len : Nat) : Int) == 0), h0)
noncomputable def spans_Set_All : Option Addr → Int → Int → H → Option ((Bool) × H) := P.spans_Set_All spans_Set_Gaps
noncomputable def ann_25 : Ann := ⟨fun _ => none, fun _ => none, fun _ => none⟩
noncomputable def E_25 : Ent := ⟨25, [⟨false, [.ptr]⟩, ⟨false, [.int .i64]⟩, ⟨false, [.int .i64]⟩], [⟨false, [.bool]⟩], fun (x : Option Addr × Int × Int) h => spans_Set_All x.1 x.2.1 x.2.2 h⟩
theorem eq_25 (spans_Set_Gaps : Option Addr → Int → Int → H → Option ((Sl) × H)) : (fun (x : PT E_25.ps) (h : H) => runFK Go.Proofs.Ytaebjajbogedkaa.Tab.D (lstK [⟨40, [⟨false, [.ptr]⟩, ⟨false, [.int .i64]⟩, ⟨false, [.int .i64]⟩], [⟨false, [.sl]⟩], fun (x : Option Addr × Int × Int) h => spans_Set_Gaps x.1 x.2.1 x.2.2 h⟩]) ann_25 Try.f25 (Try.f25.body.getD .skip) E_25.ys (encP E_25.ps x) h) = (fun (x : Option Addr × Int × Int) h => P.spans_Set_All spans_Set_Gaps x.1 x.2.1 x.2.2 h) := by kernel_rfl
theorem ok_25 : E_25.ok Go.Proofs.Ytaebjajbogedkaa.Tab.D := fun x h y h' e => runFK_ok (lstK_ok [E_40] (List.forall_mem_cons.2 ⟨ok_40, fun E h => nomatch h⟩)) (A := ann_25) (by kernel_rfl) (show Go.Proofs.Ytaebjajbogedkaa.Tab.D.fn.get 25 = some Try.f25 by kernel_rfl) (show Try.f25.body = some (Try.f25.body.getD .skip) by kernel_rfl) ((congrFun (congrFun (eq_25 spans_Set_Gaps) x) h).trans e)
/-! send_Stream_Done -/
noncomputable def P.send_Stream_Done (spans_Set_All : Option Addr → Int → Int → H → Option ((Bool) × H)) (s : Option Addr) (h : H) : Option (Bool × H) :=
  joinO (
    ptrK s fun (a0 : Addr) =>
    bindO (ldB h (add a0 6)) fun (x0 : Bool) =>
    condK x0 (
      ptrK s fun (a1 : Addr) =>
      bindO (ldB h (add (add a1 8) 2)) fun (x1 : Bool) =>
      condK x1 (
        ptrK s fun (a2 : Addr) =>
        ptrK s fun (a3 : Addr) =>
        bindO (ldL h (add a3 3)) fun (x2 : Sl) =>
        bind2 (spans_Set_All (some (add a2 5)) 0 ((x2.len : Nat) : Int) h) fun (x3 : Bool) (h0 : H) =>
        some (Sum.inl ((s, x3), h0))) (
        some (Sum.inl ((s, false), h)))) (
      some (Sum.inl ((s, false), h)))) fun (((s1, whole), h0) : (((Option Addr) × Bool) × H)) =>
  condK whole (
    some (true, h0)) (
    ptrK s1 fun (a0 : Addr) =>
    bindO (ldB h0 (add a0 7)) fun (x0 : Bool) =>
    condK x0 (
      ptrK s1 fun (a1 : Addr) =>
      bindO (ldB h0 (add (add a1 11) 2)) fun (x1 : Bool) =>
      condK x1 (
        ptrK s1 fun (a2 : Addr) =>
        ptrK s1 fun (a3 : Addr) =>
        bindO (ldI .i64 h0 (add a3 15)) fun (x2 : Int) =>
        bind2 (spans_Set_All (some (add a2 5)) 0 x2 h0) fun (x3 : Bool) (h1 : H) =>
        some (x3, h1)) (
        some (false, h0))) (
      some (false, h0)))
noncomputable def send_Stream_Done : Option Addr → H → Option ((Bool) × H) := P.send_Stream_Done spans_Set_All
noncomputable def ann_21 : Ann := ⟨fun _ => none, fun _ => none, fun i => bif i.beq 1 then some ⟨[0, 3], [⟨false, [.ptr]⟩, ⟨false, [.bool]⟩]⟩ else none⟩
noncomputable def E_21 : Ent := ⟨21, [⟨false, [.ptr]⟩], [⟨false, [.bool]⟩], fun (x : Option Addr) h => send_Stream_Done x h⟩
theorem eq_21 (spans_Set_All : Option Addr → Int → Int → H → Option ((Bool) × H)) : (fun (x : PT E_21.ps) (h : H) => runFK Go.Proofs.Ytaebjajbogedkaa.Tab.D (lstK [⟨25, [⟨false, [.ptr]⟩, ⟨false, [.int .i64]⟩, ⟨false, [.int .i64]⟩], [⟨false, [.bool]⟩], fun (x : Option Addr × Int × Int) h => spans_Set_All x.1 x.2.1 x.2.2 h⟩]) ann_21 Try.f21 (Try.f21.body.getD .skip) E_21.ys (encP E_21.ps x) h) = (fun (x : Option Addr) h => P.send_Stream_Done spans_Set_All x h) := by kernel_rfl
theorem ok_21 : E_21.ok Go.Proofs.Ytaebjajbogedkaa.Tab.D := fun x h y h' e => runFK_ok (lstK_ok [E_25] (List.forall_mem_cons.2 ⟨ok_25, fun E h => nomatch h⟩)) (A := ann_21) (by kernel_rfl) (show Go.Proofs.Ytaebjajbogedkaa.Tab.D.fn.get 21 = some Try.f21 by kernel_rfl) (show Try.f21.body = some (Try.f21.body.getD .skip) by kernel_rfl) ((congrFun (congrFun (eq_21 spans_Set_All) x) h).trans e)
/-! send_Stream_Acked -/
noncomputable def P.send_Stream_Acked (send_Stream_sent : Option Addr → (Int × Int × Int × Int × Int × Int × Bool × Sl × Sl) → H → Option ((Int × Int) × H)) (spans_Set_Add : Option Addr → Int → Int → H → Option ((Unit) × H)) (spans_Set_Drop : Option Addr → Int → Int → H → Option ((Unit) × H)) (send_Stream_ended : Option Addr → (Int × Int × Int × Int × Int × Int × Bool × Sl × Sl) → H → Option ((Bool) × H)) (s : Option Addr) (f : Int × Int × Int × Int × Int × Int × Bool × Sl × Sl) (h : H) : Option (Unit × H) :=
  newO (row 47 [(.int .i64 f.1), (.int .i64 f.2.1), (.int .i64 f.2.2.1), (.int .i64 f.2.2.2.1), (.int .i64 f.2.2.2.2.1), (.int .i64 f.2.2.2.2.2.1), (.bool f.2.2.2.2.2.2.1), (.slice f.2.2.2.2.2.2.2.1.base f.2.2.2.2.2.2.2.1.len f.2.2.2.2.2.2.2.1.cap), (.slice f.2.2.2.2.2.2.2.2.base f.2.2.2.2.2.2.2.2.len f.2.2.2.2.2.2.2.2.cap)]) h fun (b : Nat) (h0 : H) =>
  bindO (ldI .i64 h0 (add (⟨b, 0, (some 0)⟩ : Addr) 1)) fun (x0 : Int) =>
  ptrK s fun (a0 : Addr) =>
  bindO (ldI .i64 h0 (add a0 2)) fun (x1 : Int) =>
  condK (x0 != x1) (
    some ((), h0)) (
    bindO (ldI .i64 h0 (add (⟨b, 0, (some 0)⟩ : Addr) 0)) fun (x2 : Int) =>
    condK (x2 == 3) (
      bindO (ldZ [.int .i64, .int .i64, .int .i64, .int .i64, .int .i64, .int .i64, .bool, .sl, .sl] h0 (⟨b, 0, (some 0)⟩ : Addr)) fun ((x3, x4, x5, x6, x7, x8, x9, x10, x11) : Int × Int × Int × Int × Int × Int × Bool × Sl × Sl) =>
      bind2 (send_Stream_sent s (x3, x4, x5, x6, x7, x8, x9, x10, x11) h0) fun ((x12, x13) : Int × Int) (h1 : H) =>
      ptrK s fun (a1 : Addr) =>
      bind2 (spans_Set_Add (some (add a1 5)) x12 x13 h1) fun (_ : Unit) (h2 : H) =>
      ptrK s fun (a2 : Addr) =>
      bind2 (spans_Set_Drop (some (add a2 4)) x12 x13 h2) fun (_ : Unit) (h3 : H) =>
      bindO (ldZ [.int .i64, .int .i64, .int .i64, .int .i64, .int .i64, .int .i64, .bool, .sl, .sl] h3 (⟨b, 0, (some 0)⟩ : Addr)) fun ((x14, x15, x16, x17, x18, x19, x20, x21, x22) : Int × Int × Int × Int × Int × Int × Bool × Sl × Sl) =>
      bind2 (send_Stream_ended s (x14, x15, x16, x17, x18, x19, x20, x21, x22) h3) fun (x23 : Bool) (h4 : H) =>
      condK x23 (
        ptrK s fun (a3 : Addr) =>
        bindO (st1 h4 (add (add a3 8) 2) (.bool true)) fun (h5 : H) =>
        ptrK s fun (a4 : Addr) =>
        bindO (st1 h5 (add (add a4 8) 1) (.bool false)) fun (h6 : H) =>
        some ((), h6)) (
        some ((), h4))) (
      joinO (
        bindO (ldI .i64 h0 (add (⟨b, 0, (some 0)⟩ : Addr) 0)) fun (x24 : Int) =>
        condK (x24 == 4) (
          ptrK s fun (a5 : Addr) =>
          bindO (ldB h0 (add a5 7)) fun (x25 : Bool) =>
          condK x25 (
            bindO (ldI .i64 h0 (add (⟨b, 0, (some 0)⟩ : Addr) 4)) fun (x26 : Int) =>
            ptrK s fun (a6 : Addr) =>
            bindO (ldI .i64 h0 (add a6 15)) fun (x27 : Int) =>
            condK (x26 == x27) (
              ptrK s fun (a7 : Addr) =>
              bindO (ldB h0 (add (add a7 11) 0)) fun (x28 : Bool) =>
              some (Sum.inl ((s, x28), h0))) (
              some (Sum.inl ((s, false), h0)))) (
            some (Sum.inl ((s, false), h0)))) (
          some (Sum.inl ((s, false), h0)))) fun (((s1, x24), h7) : (((Option Addr) × Bool) × H)) =>
      condK x24 (
        ptrK s1 fun (a5 : Addr) =>
        bindO (st1 h7 (add (add a5 11) 2) (.bool true)) fun (h8 : H) =>
        ptrK s1 fun (a6 : Addr) =>
        bindO (st1 h8 (add (add a6 11) 1) (.bool false)) fun (h9 : H) =>
        some ((), h9)) (
        some ((), h7))))
noncomputable def send_Stream_Acked : Option Addr → (Int × Int × Int × Int × Int × Int × Bool × Sl × Sl) → H → Option ((Unit) × H) := P.send_Stream_Acked send_Stream_sent spans_Set_Add spans_Set_Drop send_Stream_ended
noncomputable def ann_23 : Ann := ⟨fun _ => none, fun _ => none, fun i => bif i.beq 8 then some ⟨[0, 47], [⟨false, [.ptr]⟩, ⟨false, [.bool]⟩]⟩ else none⟩
noncomputable def E_23 : Ent := ⟨23, [⟨false, [.ptr]⟩, ⟨true, [.int .i64, .int .i64, .int .i64, .int .i64, .int .i64, .int .i64, .bool, .sl, .sl]⟩], [], fun (x : Option Addr × ((Int × Int × Int × Int × Int × Int × Bool × Sl × Sl))) h => send_Stream_Acked x.1 x.2 h⟩
theorem eq_23 (send_Stream_sent : Option Addr → (Int × Int × Int × Int × Int × Int × Bool × Sl × Sl) → H → Option ((Int × Int) × H)) (spans_Set_Add : Option Addr → Int → Int → H → Option ((Unit) × H)) (spans_Set_Drop : Option Addr → Int → Int → H → Option ((Unit) × H)) (send_Stream_ended : Option Addr → (Int × Int × Int × Int × Int × Int × Bool × Sl × Sl) → H → Option ((Bool) × H)) : (fun (x : PT E_23.ps) (h : H) => runFK Go.Proofs.Ytaebjajbogedkaa.Tab.D (lstK [⟨39, [⟨false, [.ptr]⟩, ⟨true, [.int .i64, .int .i64, .int .i64, .int .i64, .int .i64, .int .i64, .bool, .sl, .sl]⟩], [⟨false, [.int .i64]⟩, ⟨false, [.int .i64]⟩], fun (x : Option Addr × ((Int × Int × Int × Int × Int × Int × Bool × Sl × Sl))) h => send_Stream_sent x.1 x.2 h⟩, ⟨24, [⟨false, [.ptr]⟩, ⟨false, [.int .i64]⟩, ⟨false, [.int .i64]⟩], [], fun (x : Option Addr × Int × Int) h => spans_Set_Add x.1 x.2.1 x.2.2 h⟩, ⟨43, [⟨false, [.ptr]⟩, ⟨false, [.int .i64]⟩, ⟨false, [.int .i64]⟩], [], fun (x : Option Addr × Int × Int) h => spans_Set_Drop x.1 x.2.1 x.2.2 h⟩, ⟨41, [⟨false, [.ptr]⟩, ⟨true, [.int .i64, .int .i64, .int .i64, .int .i64, .int .i64, .int .i64, .bool, .sl, .sl]⟩], [⟨false, [.bool]⟩], fun (x : Option Addr × ((Int × Int × Int × Int × Int × Int × Bool × Sl × Sl))) h => send_Stream_ended x.1 x.2 h⟩]) ann_23 Try.f23 (Try.f23.body.getD .skip) E_23.ys (encP E_23.ps x) h) = (fun (x : Option Addr × ((Int × Int × Int × Int × Int × Int × Bool × Sl × Sl))) h => P.send_Stream_Acked send_Stream_sent spans_Set_Add spans_Set_Drop send_Stream_ended x.1 x.2 h) := by kernel_rfl
theorem ok_23 : E_23.ok Go.Proofs.Ytaebjajbogedkaa.Tab.D := fun x h y h' e => runFK_ok (lstK_ok [E_39, E_24, E_43, E_41] (List.forall_mem_cons.2 ⟨ok_39, List.forall_mem_cons.2 ⟨ok_24, List.forall_mem_cons.2 ⟨ok_43, List.forall_mem_cons.2 ⟨ok_41, fun E h => nomatch h⟩⟩⟩⟩)) (A := ann_23) (by kernel_rfl) (show Go.Proofs.Ytaebjajbogedkaa.Tab.D.fn.get 23 = some Try.f23 by kernel_rfl) (show Try.f23.body = some (Try.f23.body.getD .skip) by kernel_rfl) ((congrFun (congrFun (eq_23 send_Stream_sent spans_Set_Add spans_Set_Drop send_Stream_ended) x) h).trans e)
/-! law13_SendAll -/
noncomputable def P.law13_SendAll_l2 (send_New : Int → H → Option ((Option Addr) × H)) (law13_known : H → Option ((Bool) × H)) (hand_Few : Sl → Int → H → Option ((Sl) × H)) (send_Stream_Write : Option Addr → Sl → H → Option ((Int) × H)) (send_Stream_Finish : Option Addr → H → Option ((Int) × H)) (send_Stream_Done : Option Addr → H → Option ((Bool) × H)) (hand_Pick : Int → Int → H → Option ((Int) × H)) (send_Stream_Next : Option Addr → Int → Int → H → Option ((((Int × Int × Int × Int × Int × Int × Bool × Sl × Sl)) × Int × Bool) × H)) (frame_Size : (Int × Int × Int × Int × Int × Int × Bool × Sl × Sl) → H → Option ((Int) × H)) (send_Stream_Lost : Option Addr → (Int × Int × Int × Int × Int × Int × Bool × Sl × Sl) → H → Option ((Unit) × H)) (send_Stream_Acked : Option Addr → (Int × Int × Int × Int × Int × Int × Bool × Sl × Sl) → H → Option ((Unit) × H)) (spans_Set_Add : Option Addr → Int → Int → H → Option ((Unit) × H)) (spans_Set_All : Option Addr → Int → Int → H → Option ((Bool) × H)) : ((Sl × (Sl × ((Option Addr) × (Sl × ((Option Addr) × (Bool × Int)))))) × H) → Option (((Sl × (Sl × ((Option Addr) × (Sl × ((Option Addr) × (Bool × Int)))))) × H) ⊕ ((((Option Addr) × (Sl × ((Option Addr) × Bool))) × H) ⊕ (Bool × H))) := fun ((fates, (rooms, (s, (all, (came, (fin, i)))))), h0) =>
  joinO (
    condK (decide ((i < 400))) (
      bind2 (send_Stream_Done s h0) fun (x0 : Bool) (h1 : H) =>
      some (Sum.inl ((fates, (rooms, (s, (all, (came, (fin, (i, (!x0)))))))), h1))) (
      some (Sum.inl ((fates, (rooms, (s, (all, (came, (fin, (i, false))))))), h0)))) fun (((fates1, (rooms1, (s1, (all1, (came1, (fin1, (i1, x0))))))), h1) : ((Sl × (Sl × ((Option Addr) × (Sl × ((Option Addr) × (Bool × (Int × Bool))))))) × H)) =>
  condK x0 (
    joinO (
      joinO (
        joinO (
          condK (decide ((i1 < ((rooms1.len : Nat) : Int)))) (
            some (Sum.inl ((fates1, (rooms1, (s1, (all1, (came1, (fin1, (i1, (60, (decide ((i1 < 60))))))))))), h1))) (
            some (Sum.inl ((fates1, (rooms1, (s1, (all1, (came1, (fin1, (i1, (60, false)))))))), h1)))) fun (((fates2, (rooms2, (s2, (all2, (came2, (fin2, (i2, (room, x1)))))))), h2) : ((Sl × (Sl × ((Option Addr) × (Sl × ((Option Addr) × (Bool × (Int × (Int × Bool)))))))) × H)) =>
        condK x1 (
          bindO (ixT 1 rooms2 i2) fun (a0 : Addr) =>
          bindO (ldI .i64 h2 a0) fun (x2 : Int) =>
          bind2 (hand_Pick x2 70 h2) fun (x3 : Int) (h3 : H) =>
          some (Sum.inl ((fates2, (rooms2, (s2, (all2, (came2, (fin2, (i2, x3))))))), h3))) (
          some (Sum.inl ((fates2, (rooms2, (s2, (all2, (came2, (fin2, (i2, room))))))), h2)))) fun (((fates2, (rooms2, (s2, (all2, (came2, (fin2, (i2, room))))))), h2) : ((Sl × (Sl × ((Option Addr) × (Sl × ((Option Addr) × (Bool × (Int × Int))))))) × H)) =>
      bind2 (send_Stream_Next s2 room 500 h2) fun (((x1, x2, x3, x4, x5, x6, x7, x8, x9), x10, x11) : (Int × Int × Int × Int × Int × Int × Bool × Sl × Sl) × Int × Bool) (h3 : H) =>
      newO (row 47 [(.int .i64 0), (.int .i64 0), (.int .i64 0), (.int .i64 0), (.int .i64 0), (.int .i64 0), (.bool false), (.slice none 0 0), (.slice none 0 0)]) h3 fun (b : Nat) (h4 : H) =>
      bindO (stZ [.int .i64, .int .i64, .int .i64, .int .i64, .int .i64, .int .i64, .bool, .sl, .sl] h4 (⟨b, 0, (some 0)⟩ : Addr) ((x1, x2, x3, x4, x5, x6, x7, x8, x9) : Int × Int × Int × Int × Int × Int × Bool × Sl × Sl)) fun (h5 : H) =>
      condK (!x11) (
        condK (decide ((room ≥ 60))) (
          some (Sum.inr (Sum.inr (Sum.inr (false, h5))))) (
          some (Sum.inl ((fates2, (rooms2, (s2, (all2, (came2, (fin2, i2)))))), h5)))) (
        bindO (ldI .i64 h5 (add (⟨b, 0, (some 0)⟩ : Addr) 2)) fun (x12 : Int) =>
        bindO (ldL h5 (add (⟨b, 0, (some 0)⟩ : Addr) 7)) fun (x13 : Sl) =>
        joinO (
          bindO (ldZ [.int .i64, .int .i64, .int .i64, .int .i64, .int .i64, .int .i64, .bool, .sl, .sl] h5 (⟨b, 0, (some 0)⟩ : Addr)) fun ((x14, x15, x16, x17, x18, x19, x20, x21, x22) : Int × Int × Int × Int × Int × Int × Bool × Sl × Sl) =>
          bind2 (frame_Size (x14, x15, x16, x17, x18, x19, x20, x21, x22) h5) fun (x23 : Int) (h6 : H) =>
          condK (decide ((x23 > room))) (
            some (Sum.inl ((fates2, (rooms2, (s2, (all2, (came2, (fin2, (i2, ((some (⟨b, 0, (some 0)⟩ : Addr)), ((IntKind.wrap .i64 (x12 + ((x13.len : Nat) : Int))), true))))))))), h6))) (
            bindO (ldI .i64 h6 (add (⟨b, 0, (some 0)⟩ : Addr) 2)) fun (x24 : Int) =>
            condK (decide ((x24 < 0))) (
              some (Sum.inl ((fates2, (rooms2, (s2, (all2, (came2, (fin2, (i2, ((some (⟨b, 0, (some 0)⟩ : Addr)), ((IntKind.wrap .i64 (x12 + ((x13.len : Nat) : Int))), true))))))))), h6))) (
              letO ((decide (((IntKind.wrap .i64 (x12 + ((x13.len : Nat) : Int))) > ((all2.len : Nat) : Int))))) fun (x25 : Bool) =>
              condK x25 (
                some (Sum.inl ((fates2, (rooms2, (s2, (all2, (came2, (fin2, (i2, ((some (⟨b, 0, (some 0)⟩ : Addr)), ((IntKind.wrap .i64 (x12 + ((x13.len : Nat) : Int))), true))))))))), h6))) (
                bindO (ldI .i64 h6 (add (⟨b, 0, (some 0)⟩ : Addr) 2)) fun (x26 : Int) =>
                bindO (slT 1 h6 all2 (some x26) (some (IntKind.wrap .i64 (x12 + ((x13.len : Nat) : Int)))) none) fun (x27 : Sl) =>
                bind2 (strT h6 x27) fun (x28 : ByteArray) (h7 : H) =>
                bindO (ldL h6 (add (⟨b, 0, (some 0)⟩ : Addr) 7)) fun (x29 : Sl) =>
                bind2 (strT h6 x29) fun (x30 : ByteArray) (h8 : H) =>
                condK (!(x28.toList == x30.toList)) (
                  some (Sum.inl ((fates2, (rooms2, (s2, (all2, (came2, (fin2, (i2, ((some (⟨b, 0, (some 0)⟩ : Addr)), ((IntKind.wrap .i64 (x12 + ((x13.len : Nat) : Int))), true))))))))), h6))) (
                  bindO (ldB h6 (add (⟨b, 0, (some 0)⟩ : Addr) 6)) fun (x31 : Bool) =>
                  condK x31 (
                    letO (((IntKind.wrap .i64 (x12 + ((x13.len : Nat) : Int))) != ((all2.len : Nat) : Int))) fun (x32 : Bool) =>
                    some (Sum.inl ((fates2, (rooms2, (s2, (all2, (came2, (fin2, (i2, ((some (⟨b, 0, (some 0)⟩ : Addr)), ((IntKind.wrap .i64 (x12 + ((x13.len : Nat) : Int))), x32))))))))), h6))) (
                    some (Sum.inl ((fates2, (rooms2, (s2, (all2, (came2, (fin2, (i2, ((some (⟨b, 0, (some 0)⟩ : Addr)), ((IntKind.wrap .i64 (x12 + ((x13.len : Nat) : Int))), false))))))))), h6)))))))) fun (((fates3, (rooms3, (s3, (all3, (came3, (fin3, (i3, (f, (end', x14))))))))), h6) : ((Sl × (Sl × ((Option Addr) × (Sl × ((Option Addr) × (Bool × (Int × ((Option Addr) × (Int × Bool))))))))) × H)) =>
        condK x14 (
          some (Sum.inr (Sum.inr (Sum.inr (false, h6))))) (
          joinO (
            condK (decide ((i3 < ((fates3.len : Nat) : Int)))) (
              condK (decide ((i3 < 60))) (
                bindO (ixT 1 fates3 i3) fun (a0 : Addr) =>
                bindO (ldI .i64 h6 a0) fun (x15 : Int) =>
                some (Sum.inl ((fates3, (rooms3, (s3, (all3, (came3, (fin3, (i3, (f, (end', ((Int.tmod x15 2) == 0)))))))))), h6))) (
                some (Sum.inl ((fates3, (rooms3, (s3, (all3, (came3, (fin3, (i3, (f, (end', false))))))))), h6)))) (
              some (Sum.inl ((fates3, (rooms3, (s3, (all3, (came3, (fin3, (i3, (f, (end', false))))))))), h6)))) fun (((fates4, (rooms4, (s4, (all4, (came4, (fin4, (i4, (f1, (end'1, x15))))))))), h7) : ((Sl × (Sl × ((Option Addr) × (Sl × ((Option Addr) × (Bool × (Int × ((Option Addr) × (Int × Bool))))))))) × H)) =>
          condK x15 (
            ptrK f1 fun (a0 : Addr) =>
            bindO (ldZ [.int .i64, .int .i64, .int .i64, .int .i64, .int .i64, .int .i64, .bool, .sl, .sl] h7 a0) fun ((x16, x17, x18, x19, x20, x21, x22, x23, x24) : Int × Int × Int × Int × Int × Int × Bool × Sl × Sl) =>
            bind2 (send_Stream_Lost s4 (x16, x17, x18, x19, x20, x21, x22, x23, x24) h7) fun (_ : Unit) (h8 : H) =>
            some (Sum.inl ((fates4, (rooms4, (s4, (all4, (came4, (fin4, i4)))))), h8))) (
            ptrK f1 fun (a1 : Addr) =>
            bindO (ldZ [.int .i64, .int .i64, .int .i64, .int .i64, .int .i64, .int .i64, .bool, .sl, .sl] h7 a1) fun ((x25, x26, x27, x28, x29, x30, x31, x32, x33) : Int × Int × Int × Int × Int × Int × Bool × Sl × Sl) =>
            bind2 (send_Stream_Acked s4 (x25, x26, x27, x28, x29, x30, x31, x32, x33) h7) fun (_ : Unit) (h9 : H) =>
            ptrK f1 fun (a2 : Addr) =>
            bindO (ldI .i64 h9 (add a2 2)) fun (x34 : Int) =>
            bind2 (spans_Set_Add came4 x34 end'1 h9) fun (_ : Unit) (h10 : H) =>
            joinO (
              condK fin4 (
                some (Sum.inl ((fates4, (rooms4, (s4, (all4, (came4, (true, i4)))))), h10))) (
                ptrK f1 fun (a3 : Addr) =>
                bindO (ldB h10 (add a3 6)) fun (x35 : Bool) =>
                some (Sum.inl ((fates4, (rooms4, (s4, (all4, (came4, (x35, i4)))))), h10)))) fun (((fates5, (rooms5, (s5, (all5, (came5, (fin5, i5)))))), h11) : ((Sl × (Sl × ((Option Addr) × (Sl × ((Option Addr) × (Bool × Int)))))) × H)) =>
            joinO (
              bind2 (send_Stream_Done s5 h11) fun (x35 : Bool) (h12 : H) =>
              condK x35 (
                condK (!fin5) (
                  some (Sum.inl ((fates5, (rooms5, (s5, (all5, (came5, (fin5, (i5, true))))))), h12))) (
                  bind2 (spans_Set_All came5 0 ((all5.len : Nat) : Int) h12) fun (x36 : Bool) (h13 : H) =>
                  some (Sum.inl ((fates5, (rooms5, (s5, (all5, (came5, (fin5, (i5, (!x36)))))))), h13)))) (
                some (Sum.inl ((fates5, (rooms5, (s5, (all5, (came5, (fin5, (i5, false))))))), h12)))) fun (((fates6, (rooms6, (s6, (all6, (came6, (fin6, (i6, x35))))))), h12) : ((Sl × (Sl × ((Option Addr) × (Sl × ((Option Addr) × (Bool × (Int × Bool))))))) × H)) =>
            condK x35 (
              some (Sum.inr (Sum.inr (Sum.inr (false, h12))))) (
              some (Sum.inl ((fates6, (rooms6, (s6, (all6, (came6, (fin6, i6)))))), h12))))))) fun (((fates2, (rooms2, (s2, (all2, (came2, (fin2, i2)))))), h2) : ((Sl × (Sl × ((Option Addr) × (Sl × ((Option Addr) × (Bool × Int)))))) × H)) =>
    some (Sum.inl ((fates2, (rooms2, (s2, (all2, (came2, (fin2, (IntKind.wrap .i64 (i2 + 1)))))))), h2))) (
    some (Sum.inr (Sum.inl ((s1, (all1, (came1, fin1))), h1))))

noncomputable def P.law13_SendAll_l1 (send_New : Int → H → Option ((Option Addr) × H)) (law13_known : H → Option ((Bool) × H)) (hand_Few : Sl → Int → H → Option ((Sl) × H)) (send_Stream_Write : Option Addr → Sl → H → Option ((Int) × H)) (send_Stream_Finish : Option Addr → H → Option ((Int) × H)) (send_Stream_Done : Option Addr → H → Option ((Bool) × H)) (hand_Pick : Int → Int → H → Option ((Int) × H)) (send_Stream_Next : Option Addr → Int → Int → H → Option ((((Int × Int × Int × Int × Int × Int × Bool × Sl × Sl)) × Int × Bool) × H)) (frame_Size : (Int × Int × Int × Int × Int × Int × Bool × Sl × Sl) → H → Option ((Int) × H)) (send_Stream_Lost : Option Addr → (Int × Int × Int × Int × Int × Int × Bool × Sl × Sl) → H → Option ((Unit) × H)) (send_Stream_Acked : Option Addr → (Int × Int × Int × Int × Int × Int × Bool × Sl × Sl) → H → Option ((Unit) × H)) (spans_Set_Add : Option Addr → Int → Int → H → Option ((Unit) × H)) (spans_Set_All : Option Addr → Int → Int → H → Option ((Bool) × H)) : ((Sl × (Sl × (Sl × ((Option Addr) × (Sl × Int))))) × H) → Option (((Sl × (Sl × (Sl × ((Option Addr) × (Sl × Int))))) × H) ⊕ (((Sl × (Sl × ((Option Addr) × Sl))) × H) ⊕ (Bool × H))) := fun ((parts, (fates, (rooms, (s, (all, i))))), h0) =>
  joinO (
    condK (decide ((i < ((parts.len : Nat) : Int)))) (
      some (Sum.inl ((parts, (fates, (rooms, (s, (all, (i, (decide ((i < 6))))))))), h0))) (
      some (Sum.inl ((parts, (fates, (rooms, (s, (all, (i, false)))))), h0)))) fun (((parts1, (fates1, (rooms1, (s1, (all1, (i1, x0)))))), h1) : ((Sl × (Sl × (Sl × ((Option Addr) × (Sl × (Int × Bool)))))) × H)) =>
  condK x0 (
    bindO (ixT 1 parts1 i1) fun (a0 : Addr) =>
    bindO (ldL h1 a0) fun (x1 : Sl) =>
    bind2 (hand_Few x1 60 h1) fun (x2 : Sl) (h2 : H) =>
    bind2 (send_Stream_Write s1 x2 h2) fun (x3 : Int) (h3 : H) =>
    condK (x3 != 0) (
      some (Sum.inr (Sum.inr (false, h3)))) (
      bind2 (appT 5 1 1 h3 all1 x2) fun (x4 : Sl) (h4 : H) =>
      some (Sum.inl ((parts1, (fates1, (rooms1, (s1, (x4, (IntKind.wrap .i64 (i1 + 1))))))), h4)))) (
    some (Sum.inr (Sum.inl ((fates1, (rooms1, (s1, all1))), h1))))

noncomputable def P.law13_SendAll (send_New : Int → H → Option ((Option Addr) × H)) (law13_known : H → Option ((Bool) × H)) (hand_Few : Sl → Int → H → Option ((Sl) × H)) (send_Stream_Write : Option Addr → Sl → H → Option ((Int) × H)) (send_Stream_Finish : Option Addr → H → Option ((Int) × H)) (send_Stream_Done : Option Addr → H → Option ((Bool) × H)) (hand_Pick : Int → Int → H → Option ((Int) × H)) (send_Stream_Next : Option Addr → Int → Int → H → Option ((((Int × Int × Int × Int × Int × Int × Bool × Sl × Sl)) × Int × Bool) × H)) (frame_Size : (Int × Int × Int × Int × Int × Int × Bool × Sl × Sl) → H → Option ((Int) × H)) (send_Stream_Lost : Option Addr → (Int × Int × Int × Int × Int × Int × Bool × Sl × Sl) → H → Option ((Unit) × H)) (send_Stream_Acked : Option Addr → (Int × Int × Int × Int × Int × Int × Bool × Sl × Sl) → H → Option ((Unit) × H)) (spans_Set_Add : Option Addr → Int → Int → H → Option ((Unit) × H)) (spans_Set_All : Option Addr → Int → Int → H → Option ((Bool) × H)) (parts : Sl) (fates : Sl) (rooms : Sl) (h : H) : Option (Bool × H) :=
  bind2 (send_New 6 h) fun (x0 : Option Addr) (h0 : H) =>
  joinO (
    bind2 (law13_known h0) fun (x1 : Bool) (h1 : H) =>
    condK (!x1) (
      some (Sum.inl ((parts, (fates, (rooms, (x0, true)))), h1))) (
      bindO (eqPT x0 none) fun (x2 : Bool) =>
      some (Sum.inl ((parts, (fates, (rooms, (x0, x2)))), h1)))) fun (((parts1, (fates1, (rooms1, (s, x1)))), h1) : ((Sl × (Sl × (Sl × ((Option Addr) × Bool)))) × H)) =>
  condK x1 (
    some (false, h1)) (
    joinO (
      loopO (P.law13_SendAll_l1 send_New law13_known hand_Few send_Stream_Write send_Stream_Finish send_Stream_Done hand_Pick send_Stream_Next frame_Size send_Stream_Lost send_Stream_Acked spans_Set_Add spans_Set_All) ((parts1, (fates1, (rooms1, (s, ((⟨none, 0, 0⟩ : Sl), 0))))), h1)) fun (((fates2, (rooms2, (s1, all))), h2) : ((Sl × (Sl × ((Option Addr) × Sl))) × H)) =>
    bind2 (send_Stream_Finish s1 h2) fun (x2 : Int) (h3 : H) =>
    condK (x2 != 0) (
      some (false, h3)) (
      newO (row 38 [(.slice none 0 0)]) h3 fun (b : Nat) (h4 : H) =>
      joinO (
        loopO (P.law13_SendAll_l2 send_New law13_known hand_Few send_Stream_Write send_Stream_Finish send_Stream_Done hand_Pick send_Stream_Next frame_Size send_Stream_Lost send_Stream_Acked spans_Set_Add spans_Set_All) ((fates2, (rooms2, (s1, (all, ((some (⟨b, 0, (some 0)⟩ : Addr)), (false, 0)))))), h4)) fun (((s2, (all1, (came, fin))), h5) : (((Option Addr) × (Sl × ((Option Addr) × Bool))) × H)) =>
      bind2 (send_Stream_Done s2 h5) fun (x3 : Bool) (h6 : H) =>
      condK x3 (
        condK fin (
          bind2 (spans_Set_All came 0 ((all1.len : Nat) : Int) h6) fun (x4 : Bool) (h7 : H) =>
          some (x4, h7)) (
          some (false, h6))) (
        some (false, h6))))
noncomputable abbrev law13_SendAll_l2 := P.law13_SendAll_l2 send_New law13_known hand_Few send_Stream_Write send_Stream_Finish send_Stream_Done hand_Pick send_Stream_Next frame_Size send_Stream_Lost send_Stream_Acked spans_Set_Add spans_Set_All
noncomputable abbrev law13_SendAll_l1 := P.law13_SendAll_l1 send_New law13_known hand_Few send_Stream_Write send_Stream_Finish send_Stream_Done hand_Pick send_Stream_Next frame_Size send_Stream_Lost send_Stream_Acked spans_Set_Add spans_Set_All
noncomputable def law13_SendAll : Sl → Sl → Sl → H → Option ((Bool) × H) := P.law13_SendAll send_New law13_known hand_Few send_Stream_Write send_Stream_Finish send_Stream_Done hand_Pick send_Stream_Next frame_Size send_Stream_Lost send_Stream_Acked spans_Set_Add spans_Set_All
noncomputable def ann_4 : Ann := ⟨fun i => bif i.beq 12 then some ⟨[1, 2, 7, 8], [⟨false, [.sl]⟩, ⟨false, [.sl]⟩, ⟨false, [.ptr]⟩, ⟨false, [.sl]⟩]⟩ else bif i.beq 18 then some ⟨[1, 2, 7, 8, 11, 12, 13], [⟨false, [.sl]⟩, ⟨false, [.sl]⟩, ⟨false, [.ptr]⟩, ⟨false, [.sl]⟩, ⟨false, [.ptr]⟩, ⟨false, [.bool]⟩, ⟨false, [.int .i64]⟩]⟩ else bif i.beq 22 then some ⟨[1, 2, 7, 8, 11, 12, 13, 14], [⟨false, [.sl]⟩, ⟨false, [.sl]⟩, ⟨false, [.ptr]⟩, ⟨false, [.sl]⟩, ⟨false, [.ptr]⟩, ⟨false, [.bool]⟩, ⟨false, [.int .i64]⟩, ⟨false, [.int .i64]⟩]⟩ else bif i.beq 36 then some ⟨[7, 8, 11, 12], [⟨false, [.ptr]⟩, ⟨false, [.sl]⟩, ⟨false, [.ptr]⟩, ⟨false, [.bool]⟩]⟩ else none, fun i => bif i.beq 6 then some ⟨[0, 1, 2, 7, 8, 9], [⟨false, [.sl]⟩, ⟨false, [.sl]⟩, ⟨false, [.sl]⟩, ⟨false, [.ptr]⟩, ⟨false, [.sl]⟩, ⟨false, [.int .i64]⟩]⟩ else bif i.beq 17 then some ⟨[1, 2, 7, 8, 11, 12, 13], [⟨false, [.sl]⟩, ⟨false, [.sl]⟩, ⟨false, [.ptr]⟩, ⟨false, [.sl]⟩, ⟨false, [.ptr]⟩, ⟨false, [.bool]⟩, ⟨false, [.int .i64]⟩]⟩ else none, fun i => bif i.beq 2 then some ⟨[0, 1, 2, 7, 25], [⟨false, [.sl]⟩, ⟨false, [.sl]⟩, ⟨false, [.sl]⟩, ⟨false, [.ptr]⟩, ⟨false, [.bool]⟩]⟩ else bif i.beq 6 then some ⟨[0, 1, 2, 7, 8, 9, 33], [⟨false, [.sl]⟩, ⟨false, [.sl]⟩, ⟨false, [.sl]⟩, ⟨false, [.ptr]⟩, ⟨false, [.sl]⟩, ⟨false, [.int .i64]⟩, ⟨false, [.bool]⟩]⟩ else bif i.beq 17 then some ⟨[1, 2, 7, 8, 11, 12, 13, 57], [⟨false, [.sl]⟩, ⟨false, [.sl]⟩, ⟨false, [.ptr]⟩, ⟨false, [.sl]⟩, ⟨false, [.ptr]⟩, ⟨false, [.bool]⟩, ⟨false, [.int .i64]⟩, ⟨false, [.bool]⟩]⟩ else bif i.beq 20 then some ⟨[1, 2, 7, 8, 11, 12, 13, 14, 67], [⟨false, [.sl]⟩, ⟨false, [.sl]⟩, ⟨false, [.ptr]⟩, ⟨false, [.sl]⟩, ⟨false, [.ptr]⟩, ⟨false, [.bool]⟩, ⟨false, [.int .i64]⟩, ⟨false, [.int .i64]⟩, ⟨false, [.bool]⟩]⟩ else bif i.beq 27 then some ⟨[1, 2, 7, 8, 11, 12, 13, 15, 18, 126], [⟨false, [.sl]⟩, ⟨false, [.sl]⟩, ⟨false, [.ptr]⟩, ⟨false, [.sl]⟩, ⟨false, [.ptr]⟩, ⟨false, [.bool]⟩, ⟨false, [.int .i64]⟩, ⟨false, [.ptr]⟩, ⟨false, [.int .i64]⟩, ⟨false, [.bool]⟩]⟩ else bif i.beq 29 then some ⟨[1, 2, 7, 8, 11, 12, 13, 15, 18, 142], [⟨false, [.sl]⟩, ⟨false, [.sl]⟩, ⟨false, [.ptr]⟩, ⟨false, [.sl]⟩, ⟨false, [.ptr]⟩, ⟨false, [.bool]⟩, ⟨false, [.int .i64]⟩, ⟨false, [.ptr]⟩, ⟨false, [.int .i64]⟩, ⟨false, [.bool]⟩]⟩ else bif i.beq 33 then some ⟨[1, 2, 7, 8, 11, 12, 13], [⟨false, [.sl]⟩, ⟨false, [.sl]⟩, ⟨false, [.ptr]⟩, ⟨false, [.sl]⟩, ⟨false, [.ptr]⟩, ⟨false, [.bool]⟩, ⟨false, [.int .i64]⟩]⟩ else bif i.beq 34 then some ⟨[1, 2, 7, 8, 11, 12, 13, 169], [⟨false, [.sl]⟩, ⟨false, [.sl]⟩, ⟨false, [.ptr]⟩, ⟨false, [.sl]⟩, ⟨false, [.ptr]⟩, ⟨false, [.bool]⟩, ⟨false, [.int .i64]⟩, ⟨false, [.bool]⟩]⟩ else none⟩
noncomputable def E_4 : Ent := ⟨4, [⟨false, [.sl]⟩, ⟨false, [.sl]⟩, ⟨false, [.sl]⟩], [⟨false, [.bool]⟩], fun (x : Sl × Sl × Sl) h => law13_SendAll x.1 x.2.1 x.2.2 h⟩
theorem eq_4 (send_New : Int → H → Option ((Option Addr) × H)) (law13_known : H → Option ((Bool) × H)) (hand_Few : Sl → Int → H → Option ((Sl) × H)) (send_Stream_Write : Option Addr → Sl → H → Option ((Int) × H)) (send_Stream_Finish : Option Addr → H → Option ((Int) × H)) (send_Stream_Done : Option Addr → H → Option ((Bool) × H)) (hand_Pick : Int → Int → H → Option ((Int) × H)) (send_Stream_Next : Option Addr → Int → Int → H → Option ((((Int × Int × Int × Int × Int × Int × Bool × Sl × Sl)) × Int × Bool) × H)) (frame_Size : (Int × Int × Int × Int × Int × Int × Bool × Sl × Sl) → H → Option ((Int) × H)) (send_Stream_Lost : Option Addr → (Int × Int × Int × Int × Int × Int × Bool × Sl × Sl) → H → Option ((Unit) × H)) (send_Stream_Acked : Option Addr → (Int × Int × Int × Int × Int × Int × Bool × Sl × Sl) → H → Option ((Unit) × H)) (spans_Set_Add : Option Addr → Int → Int → H → Option ((Unit) × H)) (spans_Set_All : Option Addr → Int → Int → H → Option ((Bool) × H)) : (fun (x : PT E_4.ps) (h : H) => runFK Go.Proofs.Ytaebjajbogedkaa.Tab.D (lstK [⟨10, [⟨false, [.int .i64]⟩], [⟨false, [.ptr]⟩], fun (x : Int) h => send_New x h⟩, ⟨11, [], [⟨false, [.bool]⟩], fun (x : Unit) h => law13_known h⟩, ⟨19, [⟨false, [.sl]⟩, ⟨false, [.int .i64]⟩], [⟨false, [.sl]⟩], fun (x : Sl × Int) h => hand_Few x.1 x.2 h⟩, ⟨13, [⟨false, [.ptr]⟩, ⟨false, [.sl]⟩], [⟨false, [.int .i64]⟩], fun (x : Option Addr × Sl) h => send_Stream_Write x.1 x.2 h⟩, ⟨20, [⟨false, [.ptr]⟩], [⟨false, [.int .i64]⟩], fun (x : Option Addr) h => send_Stream_Finish x h⟩, ⟨21, [⟨false, [.ptr]⟩], [⟨false, [.bool]⟩], fun (x : Option Addr) h => send_Stream_Done x h⟩, ⟨12, [⟨false, [.int .i64]⟩, ⟨false, [.int .i64]⟩], [⟨false, [.int .i64]⟩], fun (x : Int × Int) h => hand_Pick x.1 x.2 h⟩, ⟨18, [⟨false, [.ptr]⟩, ⟨false, [.int .i64]⟩, ⟨false, [.int .i64]⟩], [⟨true, [.int .i64, .int .i64, .int .i64, .int .i64, .int .i64, .int .i64, .bool, .sl, .sl]⟩, ⟨false, [.int .i64]⟩, ⟨false, [.bool]⟩], fun (x : Option Addr × Int × Int) h => send_Stream_Next x.1 x.2.1 x.2.2 h⟩, ⟨22, [⟨true, [.int .i64, .int .i64, .int .i64, .int .i64, .int .i64, .int .i64, .bool, .sl, .sl]⟩], [⟨false, [.int .i64]⟩], fun (x : (Int × Int × Int × Int × Int × Int × Bool × Sl × Sl)) h => frame_Size x h⟩, ⟨17, [⟨false, [.ptr]⟩, ⟨true, [.int .i64, .int .i64, .int .i64, .int .i64, .int .i64, .int .i64, .bool, .sl, .sl]⟩], [], fun (x : Option Addr × ((Int × Int × Int × Int × Int × Int × Bool × Sl × Sl))) h => send_Stream_Lost x.1 x.2 h⟩, ⟨23, [⟨false, [.ptr]⟩, ⟨true, [.int .i64, .int .i64, .int .i64, .int .i64, .int .i64, .int .i64, .bool, .sl, .sl]⟩], [], fun (x : Option Addr × ((Int × Int × Int × Int × Int × Int × Bool × Sl × Sl))) h => send_Stream_Acked x.1 x.2 h⟩, ⟨24, [⟨false, [.ptr]⟩, ⟨false, [.int .i64]⟩, ⟨false, [.int .i64]⟩], [], fun (x : Option Addr × Int × Int) h => spans_Set_Add x.1 x.2.1 x.2.2 h⟩, ⟨25, [⟨false, [.ptr]⟩, ⟨false, [.int .i64]⟩, ⟨false, [.int .i64]⟩], [⟨false, [.bool]⟩], fun (x : Option Addr × Int × Int) h => spans_Set_All x.1 x.2.1 x.2.2 h⟩]) ann_4 Try.f4 (Try.f4.body.getD .skip) E_4.ys (encP E_4.ps x) h) = (fun (x : Sl × Sl × Sl) h => P.law13_SendAll send_New law13_known hand_Few send_Stream_Write send_Stream_Finish send_Stream_Done hand_Pick send_Stream_Next frame_Size send_Stream_Lost send_Stream_Acked spans_Set_Add spans_Set_All x.1 x.2.1 x.2.2 h) := by kernel_rfl
theorem ok_4 : E_4.ok Go.Proofs.Ytaebjajbogedkaa.Tab.D := fun x h y h' e => runFK_ok (lstK_ok [E_10, E_11, E_19, E_13, E_20, E_21, E_12, E_18, E_22, E_17, E_23, E_24, E_25] (List.forall_mem_cons.2 ⟨ok_10, List.forall_mem_cons.2 ⟨ok_11, List.forall_mem_cons.2 ⟨ok_19, List.forall_mem_cons.2 ⟨ok_13, List.forall_mem_cons.2 ⟨ok_20, List.forall_mem_cons.2 ⟨ok_21, List.forall_mem_cons.2 ⟨ok_12, List.forall_mem_cons.2 ⟨ok_18, List.forall_mem_cons.2 ⟨ok_22, List.forall_mem_cons.2 ⟨ok_17, List.forall_mem_cons.2 ⟨ok_23, List.forall_mem_cons.2 ⟨ok_24, List.forall_mem_cons.2 ⟨ok_25, fun E h => nomatch h⟩⟩⟩⟩⟩⟩⟩⟩⟩⟩⟩⟩⟩)) (A := ann_4) (by kernel_rfl) (show Go.Proofs.Ytaebjajbogedkaa.Tab.D.fn.get 4 = some Try.f4 by kernel_rfl) (show Try.f4.body = some (Try.f4.body.getD .skip) by kernel_rfl) ((congrFun (congrFun (eq_4 send_New law13_known hand_Few send_Stream_Write send_Stream_Finish send_Stream_Done hand_Pick send_Stream_Next frame_Size send_Stream_Lost send_Stream_Acked spans_Set_Add spans_Set_All) x) h).trans e)
end Go.Proofs.Ytaebjajbogedkaa.T
