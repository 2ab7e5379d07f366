/- The typed texts of the program's functions, printed by a program of this session (wip/KPrint.lean) out of the machine's own definitions; each is the machine's own run, by the kernel's reduction. -/
import Derived.Test.YtaebjajbogedkaaAbsF
import Derived.Test.YtaebjajbogedkaaOv
import Derived.KernelRfl
set_option linter.unusedVariables false
set_option maxRecDepth 1000000
namespace Go.Proofs.Ytaebjajbogedkaa.T
open Go Go.Abs Go.Proofs
/-! slices_Clip_2_int_2_int -/
noncomputable def slices_Clip_2_int_2_int (s : Sl) (h : H) : Option (Sl × H) :=
  bindO (slT 2 h s none (some ((s.len : Nat) : Int)) (some ((s.len : Nat) : Int))) fun (x0 : Sl) =>
  some (x0, h)
noncomputable def ann_71 : Ann := ⟨fun _ => none, fun _ => none, fun _ => none⟩
noncomputable def E_71 : Ent := ⟨71, [⟨false, [.sl]⟩], [⟨false, [.sl]⟩], fun (x : Sl) h => slices_Clip_2_int_2_int x h⟩
theorem eq_71  : (fun (x : PT E_71.ps) (h : H) => runFK Go.Proofs.Ytaebjajbogedkaa.Ov.D (lstK []) ann_71 Try.f71 (Try.f71.body.getD .skip) E_71.ys (encP E_71.ps x) h) = (fun (x : Sl) h => slices_Clip_2_int_2_int x h) := by kernel_rfl
theorem ok_71 : E_71.ok Go.Proofs.Ytaebjajbogedkaa.Ov.D := fun x h y h' e => runFK_ok (lstK_ok [] (fun E h => nomatch h)) (A := ann_71) (by kernel_rfl) (show Go.Proofs.Ytaebjajbogedkaa.Ov.D.fn.get 71 = some Try.f71 by kernel_rfl) (show Try.f71.body = some (Try.f71.body.getD .skip) by kernel_rfl) ((congrFun (congrFun (eq_71 ) x) h).trans e)
/-! slices_Clone_byte -/
noncomputable def slices_Clone_byte (s : Sl) (h : H) : Option (Sl × H) :=
  bindO (eqLT s (⟨none, 0, 0⟩ : Sl)) fun (x0 : Bool) =>
  condK x0 (
    some ((⟨none, 0, 0⟩ : Sl), h)) (
    newO (row 5 []) h fun (b : Nat) (h0 : H) =>
    bind2 (appT 5 1 1 h0 (⟨(some (⟨b, 0, (some 0)⟩ : Addr)), 0, 0⟩ : Sl) s) fun (x1 : Sl) (h1 : H) =>
    some (x1, h1))
noncomputable def ann_70 : Ann := ⟨fun _ => none, fun _ => none, fun _ => none⟩
noncomputable def E_70 : Ent := ⟨70, [⟨false, [.sl]⟩], [⟨false, [.sl]⟩], fun (x : Sl) h => slices_Clone_byte x h⟩
theorem eq_70  : (fun (x : PT E_70.ps) (h : H) => runFK Go.Proofs.Ytaebjajbogedkaa.Ov.D (lstK []) ann_70 Try.f70 (Try.f70.body.getD .skip) E_70.ys (encP E_70.ps x) h) = (fun (x : Sl) h => slices_Clone_byte x h) := by kernel_rfl
theorem ok_70 : E_70.ok Go.Proofs.Ytaebjajbogedkaa.Ov.D := fun x h y h' e => runFK_ok (lstK_ok [] (fun E h => nomatch h)) (A := ann_70) (by kernel_rfl) (show Go.Proofs.Ytaebjajbogedkaa.Ov.D.fn.get 70 = some Try.f70 by kernel_rfl) (show Try.f70.body = some (Try.f70.body.getD .skip) by kernel_rfl) ((congrFun (congrFun (eq_70 ) x) h).trans e)
/-! slices_Clip_byte -/
noncomputable def slices_Clip_byte (s : Sl) (h : H) : Option (Sl × H) :=
  bindO (slT 1 h s none (some ((s.len : Nat) : Int)) (some ((s.len : Nat) : Int))) fun (x0 : Sl) =>
  some (x0, h)
noncomputable def ann_69 : Ann := ⟨fun _ => none, fun _ => none, fun _ => none⟩
noncomputable def E_69 : Ent := ⟨69, [⟨false, [.sl]⟩], [⟨false, [.sl]⟩], fun (x : Sl) h => slices_Clip_byte x h⟩
theorem eq_69  : (fun (x : PT E_69.ps) (h : H) => runFK Go.Proofs.Ytaebjajbogedkaa.Ov.D (lstK []) ann_69 Try.f69 (Try.f69.body.getD .skip) E_69.ys (encP E_69.ps x) h) = (fun (x : Sl) h => slices_Clip_byte x h) := by kernel_rfl
theorem ok_69 : E_69.ok Go.Proofs.Ytaebjajbogedkaa.Ov.D := fun x h y h' e => runFK_ok (lstK_ok [] (fun E h => nomatch h)) (A := ann_69) (by kernel_rfl) (show Go.Proofs.Ytaebjajbogedkaa.Ov.D.fn.get 69 = some Try.f69 by kernel_rfl) (show Try.f69.body = some (Try.f69.body.getD .skip) by kernel_rfl) ((congrFun (congrFun (eq_69 ) x) h).trans e)
/-! math_bits_Len32 -/
noncomputable def math_bits_Len32 (x0 : Int) (h : H) : Option (Int × H) :=
  joinO (
    condK (decide ((x0 ≥ 65536))) (
      some (Sum.inl (((Int.fdiv x0 65536), 16), h))) (
      some (Sum.inl ((x0, 0), h)))) fun (((x1, n), h0) : ((Int × Int) × H)) =>
  joinO (
    condK (decide ((x1 ≥ 256))) (
      some (Sum.inl (((Int.fdiv x1 256), (IntKind.wrap .i64 (n + 8))), h0))) (
      some (Sum.inl ((x1, n), h0)))) fun (((x2, n1), h1) : ((Int × Int) × H)) =>
  bindO (ixST (⟨#[0, 1, 2, 2, 3, 3, 3, 3, 4, 4, 4, 4, 4, 4, 4, 4, 5, 5, 5, 5, 5, 5, 5, 5, 5, 5, 5, 5, 5, 5, 5, 5, 6, 6, 6, 6, 6, 6, 6, 6, 6, 6, 6, 6, 6, 6, 6, 6, 6, 6, 6, 6, 6, 6, 6, 6, 6, 6, 6, 6, 6, 6, 6, 6, 7, 7, 7, 7, 7, 7, 7, 7, 7, 7, 7, 7, 7, 7, 7, 7, 7, 7, 7, 7, 7, 7, 7, 7, 7, 7, 7, 7, 7, 7, 7, 7, 7, 7, 7, 7, 7, 7, 7, 7, 7, 7, 7, 7, 7, 7, 7, 7, 7, 7, 7, 7, 7, 7, 7, 7, 7, 7, 7, 7, 7, 7, 7, 7, 8, 8, 8, 8, 8, 8, 8, 8, 8, 8, 8, 8, 8, 8, 8, 8, 8, 8, 8, 8, 8, 8, 8, 8, 8, 8, 8, 8, 8, 8, 8, 8, 8, 8, 8, 8, 8, 8, 8, 8, 8, 8, 8, 8, 8, 8, 8, 8, 8, 8, 8, 8, 8, 8, 8, 8, 8, 8, 8, 8, 8, 8, 8, 8, 8, 8, 8, 8, 8, 8, 8, 8, 8, 8, 8, 8, 8, 8, 8, 8, 8, 8, 8, 8, 8, 8, 8, 8, 8, 8, 8, 8, 8, 8, 8, 8, 8, 8, 8, 8, 8, 8, 8, 8, 8, 8, 8, 8, 8, 8, 8, 8, 8, 8, 8, 8, 8, 8, 8, 8, 8, 8, 8, 8, 8, 8, 8, 8]⟩ : ByteArray) (IntKind.wrap .u8 x2)) fun (x3 : Int) =>
  some ((IntKind.wrap .i64 (n1 + (IntKind.wrap .i64 x3))), h1)
noncomputable def ann_103 : Ann := ⟨fun i => bif i.beq 4 then some ⟨[0, 2], [⟨false, [.int .u32]⟩, ⟨false, [.int .i64]⟩]⟩ else bif i.beq 7 then some ⟨[0, 2], [⟨false, [.int .u32]⟩, ⟨false, [.int .i64]⟩]⟩ else none, fun _ => none, fun _ => none⟩
noncomputable def E_103 : Ent := ⟨103, [⟨false, [.int .u32]⟩], [⟨false, [.int .i64]⟩], fun (x : Int) h => math_bits_Len32 x h⟩
theorem eq_103  : (fun (x : PT E_103.ps) (h : H) => runFK Go.Proofs.Ytaebjajbogedkaa.Ov.D (lstK []) ann_103 Try.f103 (Try.f103.body.getD .skip) E_103.ys (encP E_103.ps x) h) = (fun (x : Int) h => math_bits_Len32 x h) := by kernel_rfl
theorem ok_103 : E_103.ok Go.Proofs.Ytaebjajbogedkaa.Ov.D := fun x h y h' e => runFK_ok (lstK_ok [] (fun E h => nomatch h)) (A := ann_103) (by kernel_rfl) (show Go.Proofs.Ytaebjajbogedkaa.Ov.D.fn.get 103 = some Try.f103 by kernel_rfl) (show Try.f103.body = some (Try.f103.body.getD .skip) by kernel_rfl) ((congrFun (congrFun (eq_103 ) x) h).trans e)
/-! math_bits_Len64 -/
noncomputable def math_bits_Len64 (x0 : Int) (h : H) : Option (Int × H) :=
  joinO (
    condK (decide ((x0 ≥ 4294967296))) (
      some (Sum.inl (((Int.fdiv x0 4294967296), 32), h))) (
      some (Sum.inl ((x0, 0), h)))) fun (((x1, n), h0) : ((Int × Int) × H)) =>
  joinO (
    condK (decide ((x1 ≥ 65536))) (
      some (Sum.inl (((Int.fdiv x1 65536), (IntKind.wrap .i64 (n + 16))), h0))) (
      some (Sum.inl ((x1, n), h0)))) fun (((x2, n1), h1) : ((Int × Int) × H)) =>
  joinO (
    condK (decide ((x2 ≥ 256))) (
      some (Sum.inl (((Int.fdiv x2 256), (IntKind.wrap .i64 (n1 + 8))), h1))) (
      some (Sum.inl ((x2, n1), h1)))) fun (((x3, n2), h2) : ((Int × Int) × H)) =>
  bindO (ixST (⟨#[0, 1, 2, 2, 3, 3, 3, 3, 4, 4, 4, 4, 4, 4, 4, 4, 5, 5, 5, 5, 5, 5, 5, 5, 5, 5, 5, 5, 5, 5, 5, 5, 6, 6, 6, 6, 6, 6, 6, 6, 6, 6, 6, 6, 6, 6, 6, 6, 6, 6, 6, 6, 6, 6, 6, 6, 6, 6, 6, 6, 6, 6, 6, 6, 7, 7, 7, 7, 7, 7, 7, 7, 7, 7, 7, 7, 7, 7, 7, 7, 7, 7, 7, 7, 7, 7, 7, 7, 7, 7, 7, 7, 7, 7, 7, 7, 7, 7, 7, 7, 7, 7, 7, 7, 7, 7, 7, 7, 7, 7, 7, 7, 7, 7, 7, 7, 7, 7, 7, 7, 7, 7, 7, 7, 7, 7, 7, 7, 8, 8, 8, 8, 8, 8, 8, 8, 8, 8, 8, 8, 8, 8, 8, 8, 8, 8, 8, 8, 8, 8, 8, 8, 8, 8, 8, 8, 8, 8, 8, 8, 8, 8, 8, 8, 8, 8, 8, 8, 8, 8, 8, 8, 8, 8, 8, 8, 8, 8, 8, 8, 8, 8, 8, 8, 8, 8, 8, 8, 8, 8, 8, 8, 8, 8, 8, 8, 8, 8, 8, 8, 8, 8, 8, 8, 8, 8, 8, 8, 8, 8, 8, 8, 8, 8, 8, 8, 8, 8, 8, 8, 8, 8, 8, 8, 8, 8, 8, 8, 8, 8, 8, 8, 8, 8, 8, 8, 8, 8, 8, 8, 8, 8, 8, 8, 8, 8, 8, 8, 8, 8, 8, 8, 8, 8, 8, 8]⟩ : ByteArray) (IntKind.wrap .u8 x3)) fun (x4 : Int) =>
  some ((IntKind.wrap .i64 (n2 + (IntKind.wrap .i64 x4))), h2)
noncomputable def ann_104 : Ann := ⟨fun i => bif i.beq 4 then some ⟨[0, 2], [⟨false, [.int .u64]⟩, ⟨false, [.int .i64]⟩]⟩ else bif i.beq 7 then some ⟨[0, 2], [⟨false, [.int .u64]⟩, ⟨false, [.int .i64]⟩]⟩ else bif i.beq 10 then some ⟨[0, 2], [⟨false, [.int .u64]⟩, ⟨false, [.int .i64]⟩]⟩ else none, fun _ => none, fun _ => none⟩
noncomputable def E_104 : Ent := ⟨104, [⟨false, [.int .u64]⟩], [⟨false, [.int .i64]⟩], fun (x : Int) h => math_bits_Len64 x h⟩
theorem eq_104  : (fun (x : PT E_104.ps) (h : H) => runFK Go.Proofs.Ytaebjajbogedkaa.Ov.D (lstK []) ann_104 Try.f104 (Try.f104.body.getD .skip) E_104.ys (encP E_104.ps x) h) = (fun (x : Int) h => math_bits_Len64 x h) := by kernel_rfl
theorem ok_104 : E_104.ok Go.Proofs.Ytaebjajbogedkaa.Ov.D := fun x h y h' e => runFK_ok (lstK_ok [] (fun E h => nomatch h)) (A := ann_104) (by kernel_rfl) (show Go.Proofs.Ytaebjajbogedkaa.Ov.D.fn.get 104 = some Try.f104 by kernel_rfl) (show Try.f104.body = some (Try.f104.body.getD .skip) by kernel_rfl) ((congrFun (congrFun (eq_104 ) x) h).trans e)
/-! math_bits_Len -/
noncomputable def P.math_bits_Len (math_bits_Len32 : Int → H → Option ((Int) × H)) (math_bits_Len64 : Int → H → Option ((Int) × H)) (x0 : Int) (h : H) : Option (Int × H) :=
  bind2 (math_bits_Len64 x0 h) fun (x1 : Int) (h0 : H) =>
  some (x1, h0)
noncomputable def math_bits_Len : Int → H → Option ((Int) × H) := P.math_bits_Len math_bits_Len32 math_bits_Len64
noncomputable def ann_95 : Ann := ⟨fun _ => none, fun _ => none, fun _ => none⟩
noncomputable def E_95 : Ent := ⟨95, [⟨false, [.int .u64]⟩], [⟨false, [.int .i64]⟩], fun (x : Int) h => math_bits_Len x h⟩
theorem eq_95 (math_bits_Len32 : Int → H → Option ((Int) × H)) (math_bits_Len64 : Int → H → Option ((Int) × H)) : (fun (x : PT E_95.ps) (h : H) => runFK Go.Proofs.Ytaebjajbogedkaa.Ov.D (lstK [⟨103, [⟨false, [.int .u32]⟩], [⟨false, [.int .i64]⟩], fun (x : Int) h => math_bits_Len32 x h⟩, ⟨104, [⟨false, [.int .u64]⟩], [⟨false, [.int .i64]⟩], fun (x : Int) h => math_bits_Len64 x h⟩]) ann_95 Try.f95 (Try.f95.body.getD .skip) E_95.ys (encP E_95.ps x) h) = (fun (x : Int) h => P.math_bits_Len math_bits_Len32 math_bits_Len64 x h) := by kernel_rfl
theorem ok_95 : E_95.ok Go.Proofs.Ytaebjajbogedkaa.Ov.D := fun x h y h' e => runFK_ok (lstK_ok [E_103, E_104] (List.forall_mem_cons.2 ⟨ok_103, List.forall_mem_cons.2 ⟨ok_104, fun E h => nomatch h⟩⟩)) (A := ann_95) (by kernel_rfl) (show Go.Proofs.Ytaebjajbogedkaa.Ov.D.fn.get 95 = some Try.f95 by kernel_rfl) (show Try.f95.body = some (Try.f95.body.getD .skip) by kernel_rfl) ((congrFun (congrFun (eq_95 math_bits_Len32 math_bits_Len64) x) h).trans e)
/-! varint_kind -/
noncomputable def P.varint_kind_l1 (math_bits_Len : Int → H → Option ((Int) × H)) : ((Int × Int) × H) → Option (((Int × Int) × H) ⊕ (Int × H)) := fun ((n, x0), h0) =>
  condK (decide ((x0 < 3))) (
    bind2 (math_bits_Len (IntKind.wrap .u64 n) h0) fun (x1 : Int) (h1 : H) =>
    bindO (shlT .i64 8 .i64 x0) fun (x2 : Int) =>
    condK (decide ((x1 ≤ (IntKind.wrap .i64 (x2 - 2))))) (
      some (Sum.inr (x0, h1))) (
      some (Sum.inl ((n, (IntKind.wrap .i64 (x0 + 1))), h1)))) (
    some (Sum.inr (3, h0)))

noncomputable def P.varint_kind (math_bits_Len : Int → H → Option ((Int) × H)) (n : Int) (h : H) : Option (Int × H) :=
  joinO (
    condK (decide ((n < 0))) (
      some (Sum.inl ((n, true), h))) (
      some (Sum.inl ((n, (decide ((n > 4611686018427387903)))), h)))) fun (((n1, x0), h0) : ((Int × Bool) × H)) =>
  condK x0 (
    some ((-1), h0)) (
    loopO (P.varint_kind_l1 math_bits_Len) ((n1, 0), h0))
noncomputable abbrev varint_kind_l1 := P.varint_kind_l1 math_bits_Len
noncomputable def varint_kind : Int → H → Option ((Int) × H) := P.varint_kind math_bits_Len
noncomputable def ann_80 : Ann := ⟨fun _ => none, fun i => bif i.beq 4 then some ⟨[0, 10], [⟨false, [.int .i64]⟩, ⟨false, [.int .i64]⟩]⟩ else none, fun i => bif i.beq 1 then some ⟨[0, 9], [⟨false, [.int .i64]⟩, ⟨false, [.bool]⟩]⟩ else none⟩
noncomputable def E_80 : Ent := ⟨80, [⟨false, [.int .i64]⟩], [⟨false, [.int .i64]⟩], fun (x : Int) h => varint_kind x h⟩
theorem eq_80 (math_bits_Len : Int → H → Option ((Int) × H)) : (fun (x : PT E_80.ps) (h : H) => runFK Go.Proofs.Ytaebjajbogedkaa.Ov.D (lstK [⟨95, [⟨false, [.int .u64]⟩], [⟨false, [.int .i64]⟩], fun (x : Int) h => math_bits_Len x h⟩]) ann_80 Try.f80 (Try.f80.body.getD .skip) E_80.ys (encP E_80.ps x) h) = (fun (x : Int) h => P.varint_kind math_bits_Len x h) := by kernel_rfl
theorem ok_80 : E_80.ok Go.Proofs.Ytaebjajbogedkaa.Ov.D := fun x h y h' e => runFK_ok (lstK_ok [E_95] (List.forall_mem_cons.2 ⟨ok_95, fun E h => nomatch h⟩)) (A := ann_80) (by kernel_rfl) (show Go.Proofs.Ytaebjajbogedkaa.Ov.D.fn.get 80 = some Try.f80 by kernel_rfl) (show Try.f80.body = some (Try.f80.body.getD .skip) by kernel_rfl) ((congrFun (congrFun (eq_80 math_bits_Len) x) h).trans e)
/-! spans_bring -/
noncomputable def spans_bring (n : Int) (h : H) : Option (Int × H) :=
  letO ((if ((if (4611686018427387904 < n) then 4611686018427387904 else n) > 0) then (if (4611686018427387904 < n) then 4611686018427387904 else n) else 0)) fun (x0 : Int) =>
  some (x0, h)
noncomputable def ann_48 : Ann := ⟨fun _ => none, fun _ => none, fun _ => none⟩
noncomputable def E_48 : Ent := ⟨48, [⟨false, [.int .i64]⟩], [⟨false, [.int .i64]⟩], fun (x : Int) h => spans_bring x h⟩
theorem eq_48  : (fun (x : PT E_48.ps) (h : H) => runFK Go.Proofs.Ytaebjajbogedkaa.Ov.D (lstK []) ann_48 Try.f48 (Try.f48.body.getD .skip) E_48.ys (encP E_48.ps x) h) = (fun (x : Int) h => spans_bring x h) := by kernel_rfl
theorem ok_48 : E_48.ok Go.Proofs.Ytaebjajbogedkaa.Ov.D := fun x h y h' e => runFK_ok (lstK_ok [] (fun E h => nomatch h)) (A := ann_48) (by kernel_rfl) (show Go.Proofs.Ytaebjajbogedkaa.Ov.D.fn.get 48 = some Try.f48 by kernel_rfl) (show Try.f48.body = some (Try.f48.body.getD .skip) by kernel_rfl) ((congrFun (congrFun (eq_48 ) x) h).trans e)
/-! hand_Pick -/
noncomputable def hand_Pick (n : Int) (m : Int) (h : H) : Option (Int × H) :=
  bindO (remT .i64 n m) fun (x0 : Int) =>
  joinO (
    condK (decide ((x0 < 0))) (
      some (Sum.inl ((IntKind.wrap .i64 (x0 + m)), h))) (
      some (Sum.inl (x0, h)))) fun ((n1, h0) : (Int × H)) =>
  some (n1, h0)
noncomputable def ann_12 : Ann := ⟨fun i => bif i.beq 4 then some ⟨[0], [⟨false, [.int .i64]⟩]⟩ else none, fun _ => none, fun _ => none⟩
noncomputable def E_12 : Ent := ⟨12, [⟨false, [.int .i64]⟩, ⟨false, [.int .i64]⟩], [⟨false, [.int .i64]⟩], fun (x : Int × Int) h => hand_Pick x.1 x.2 h⟩
theorem eq_12  : (fun (x : PT E_12.ps) (h : H) => runFK Go.Proofs.Ytaebjajbogedkaa.Ov.D (lstK []) ann_12 Try.f12 (Try.f12.body.getD .skip) E_12.ys (encP E_12.ps x) h) = (fun (x : Int × Int) h => hand_Pick x.1 x.2 h) := by kernel_rfl
theorem ok_12 : E_12.ok Go.Proofs.Ytaebjajbogedkaa.Ov.D := fun x h y h' e => runFK_ok (lstK_ok [] (fun E h => nomatch h)) (A := ann_12) (by kernel_rfl) (show Go.Proofs.Ytaebjajbogedkaa.Ov.D.fn.get 12 = some Try.f12 by kernel_rfl) (show Try.f12.body = some (Try.f12.body.getD .skip) by kernel_rfl) ((congrFun (congrFun (eq_12 ) x) h).trans e)
/-! hand_Text -/
noncomputable def hand_Text_l1 : ((Sl × (Int × (Sl × Int))) × H) → Option (((Sl × (Int × (Sl × Int))) × H) ⊕ ((Sl × H) ⊕ (Sl × H))) := fun ((b, (n, (out, i))), h0) =>
  condK (decide ((i < n))) (
    joinO (
      condK (decide ((((b.len : Nat) : Int) > 0))) (
        bindO (remT .i64 i ((b.len : Nat) : Int)) fun (x0 : Int) =>
        bindO (ixT 1 b x0) fun (a0 : Addr) =>
        bindO (ldI .u8 h0 a0) fun (x1 : Int) =>
        letO ((IntKind.wrap .u8 ((IntKind.wrap .u8 (IntKind.wrap .i64 (i * 7))) + x1))) fun (x2 : Int) =>
        some (Sum.inl ((b, (n, (out, (i, x2)))), h0))) (
        some (Sum.inl ((b, (n, (out, (i, (IntKind.wrap .u8 (IntKind.wrap .i64 (i * 7))))))), h0)))) fun (((b1, (n1, (out1, (i1, c)))), h1) : ((Sl × (Int × (Sl × (Int × Int)))) × H)) =>
    newO (row 5 [(.int .u8 c)]) h1 fun (b2 : Nat) (h2 : H) =>
    bind2 (appT 5 1 1 h2 out1 (⟨(some (⟨b2, 0, (some 0)⟩ : Addr)), 1, 1⟩ : Sl)) fun (x0 : Sl) (h3 : H) =>
    some (Sum.inl ((b1, (n1, (x0, (IntKind.wrap .i64 (i1 + 1))))), h3))) (
    some (Sum.inr (Sum.inl (out, h0))))

noncomputable def hand_Text (b : Sl) (n : Int) (h : H) : Option (Sl × H) :=
  joinO (
    loopO hand_Text_l1 ((b, (n, ((⟨none, 0, 0⟩ : Sl), 0))), h)) fun ((out, h0) : (Sl × H)) =>
  some (out, h0)
noncomputable def ann_14 : Ann := ⟨fun i => bif i.beq 8 then some ⟨[0, 1, 5, 6, 7], [⟨false, [.sl]⟩, ⟨false, [.int .i64]⟩, ⟨false, [.sl]⟩, ⟨false, [.int .i64]⟩, ⟨false, [.int .u8]⟩]⟩ else bif i.beq 9 then some ⟨[5], [⟨false, [.sl]⟩]⟩ else none, fun i => bif i.beq 3 then some ⟨[0, 1, 5, 6], [⟨false, [.sl]⟩, ⟨false, [.int .i64]⟩, ⟨false, [.sl]⟩, ⟨false, [.int .i64]⟩]⟩ else none, fun _ => none⟩
noncomputable def E_14 : Ent := ⟨14, [⟨false, [.sl]⟩, ⟨false, [.int .i64]⟩], [⟨false, [.sl]⟩], fun (x : Sl × Int) h => hand_Text x.1 x.2 h⟩
theorem eq_14  : (fun (x : PT E_14.ps) (h : H) => runFK Go.Proofs.Ytaebjajbogedkaa.Ov.D (lstK []) ann_14 Try.f14 (Try.f14.body.getD .skip) E_14.ys (encP E_14.ps x) h) = (fun (x : Sl × Int) h => hand_Text x.1 x.2 h) := by kernel_rfl
theorem ok_14 : E_14.ok Go.Proofs.Ytaebjajbogedkaa.Ov.D := fun x h y h' e => runFK_ok (lstK_ok [] (fun E h => nomatch h)) (A := ann_14) (by kernel_rfl) (show Go.Proofs.Ytaebjajbogedkaa.Ov.D.fn.get 14 = some Try.f14 by kernel_rfl) (show Try.f14.body = some (Try.f14.body.getD .skip) by kernel_rfl) ((congrFun (congrFun (eq_14 ) x) h).trans e)
/-! spans_Set_Gaps -/
noncomputable def P.spans_Set_Gaps_l1 (spans_bring : Int → H → Option ((Int) × H)) (slices_Clip_2_int_2_int : Sl → H → Option ((Sl) × H)) : ((Int × (Int × (Sl × (Sl × (Int × Int))))) × H) → Option (((Int × (Int × (Sl × (Sl × (Int × Int))))) × H) ⊕ (((Int × (Int × Sl)) × H) ⊕ (Sl × H))) := fun ((from', (to, (out, (x0, (x1, x2))))), h0) =>
  condK (decide ((x2 < x1))) (
    bindO (ixT 2 x0 x2) fun (a0 : Addr) =>
    bindO (ldZ [.int .i64, .int .i64] h0 a0) fun ((x3, x4) : Int × Int) =>
    newO (row 100 [(.int .i64 0), (.int .i64 0)]) h0 fun (b : Nat) (h1 : H) =>
    bindO (stZ [.int .i64, .int .i64] h1 (⟨b, 0, (some 0)⟩ : Addr) ((x3, x4) : Int × Int)) fun (h2 : H) =>
    joinO (
      bindO (ixAT 2 1 (⟨b, 0, (some 0)⟩ : Addr) 0) fun (a1 : Addr) =>
      bindO (ldI .i64 h2 a1) fun (x5 : Int) =>
      condK (decide ((from' < (if (to < x5) then to else x5)))) (
        newO (row 100 [(.int .i64 from'), (.int .i64 (if (to < x5) then to else x5))]) h2 fun (b1 : Nat) (h3 : H) =>
        bind2 (appT 100 2 16 h3 out (⟨(some (⟨b1, 0, (some 0)⟩ : Addr)), 1, 1⟩ : Sl)) fun (x6 : Sl) (h4 : H) =>
        some (Sum.inl ((from', (to, (x6, ((some (⟨b, 0, (some 0)⟩ : Addr)), (x0, (x1, x2)))))), h4))) (
        some (Sum.inl ((from', (to, (out, ((some (⟨b, 0, (some 0)⟩ : Addr)), (x0, (x1, x2)))))), h2)))) fun (((from'1, (to1, (out1, (r, (x5, (x6, x7)))))), h3) : ((Int × (Int × (Sl × ((Option Addr) × (Sl × (Int × Int)))))) × H)) =>
    ptrK r fun (a1 : Addr) =>
    bindO (ixAT 2 1 a1 1) fun (a2 : Addr) =>
    bindO (ldI .i64 h3 a2) fun (x8 : Int) =>
    some (Sum.inl (((if (x8 > from'1) then x8 else from'1), (to1, (out1, (x5, (x6, (IntKind.wrap .i64 (x7 + 1))))))), h3))) (
    some (Sum.inr (Sum.inl ((from', (to, out)), h0))))

noncomputable def P.spans_Set_Gaps (spans_bring : Int → H → Option ((Int) × H)) (slices_Clip_2_int_2_int : Sl → H → Option ((Sl) × H)) (s : Option Addr) (from' : Int) (to : Int) (h : H) : Option (Sl × H) :=
  bind2 (spans_bring from' h) fun (x0 : Int) (h0 : H) =>
  bind2 (spans_bring to h0) fun (x1 : Int) (h1 : H) =>
  joinO (
    ptrK s fun (a0 : Addr) =>
    bindO (ldL h1 (add a0 0)) fun (x2 : Sl) =>
    loopO (P.spans_Set_Gaps_l1 spans_bring slices_Clip_2_int_2_int) ((x0, (x1, ((⟨none, 0, 0⟩ : Sl), (x2, (((x2.len : Nat) : Int), 0))))), h1)) fun (((from'1, (to1, out)), h2) : ((Int × (Int × Sl)) × H)) =>
  joinO (
    condK (decide ((from'1 < to1))) (
      newO (row 100 [(.int .i64 from'1), (.int .i64 to1)]) h2 fun (b : Nat) (h3 : H) =>
      bind2 (appT 100 2 16 h3 out (⟨(some (⟨b, 0, (some 0)⟩ : Addr)), 1, 1⟩ : Sl)) fun (x2 : Sl) (h4 : H) =>
      some (Sum.inl (x2, h4))) (
      some (Sum.inl (out, h2)))) fun ((out1, h3) : (Sl × H)) =>
  bind2 (slices_Clip_2_int_2_int out1 h3) fun (x2 : Sl) (h4 : H) =>
  some (x2, h4)
noncomputable abbrev spans_Set_Gaps_l1 := P.spans_Set_Gaps_l1 spans_bring slices_Clip_2_int_2_int
noncomputable def spans_Set_Gaps : Option Addr → Int → Int → H → Option ((Sl) × H) := P.spans_Set_Gaps spans_bring slices_Clip_2_int_2_int
noncomputable def ann_40 : Ann := ⟨fun i => bif i.beq 9 then some ⟨[1, 2, 7, 9, 18, 19, 20], [⟨false, [.int .i64]⟩, ⟨false, [.int .i64]⟩, ⟨false, [.sl]⟩, ⟨false, [.ptr]⟩, ⟨false, [.sl]⟩, ⟨false, [.int .i64]⟩, ⟨false, [.int .i64]⟩]⟩ else bif i.beq 11 then some ⟨[1, 2, 7], [⟨false, [.int .i64]⟩, ⟨false, [.int .i64]⟩, ⟨false, [.sl]⟩]⟩ else bif i.beq 13 then some ⟨[7], [⟨false, [.sl]⟩]⟩ else none, fun i => bif i.beq 4 then some ⟨[1, 2, 7, 18, 19, 20], [⟨false, [.int .i64]⟩, ⟨false, [.int .i64]⟩, ⟨false, [.sl]⟩, ⟨false, [.sl]⟩, ⟨false, [.int .i64]⟩, ⟨false, [.int .i64]⟩]⟩ else none, fun _ => none⟩
noncomputable def E_40 : Ent := ⟨40, [⟨false, [.ptr]⟩, ⟨false, [.int .i64]⟩, ⟨false, [.int .i64]⟩], [⟨false, [.sl]⟩], fun (x : Option Addr × Int × Int) h => spans_Set_Gaps x.1 x.2.1 x.2.2 h⟩
theorem eq_40 (spans_bring : Int → H → Option ((Int) × H)) (slices_Clip_2_int_2_int : Sl → H → Option ((Sl) × H)) : (fun (x : PT E_40.ps) (h : H) => runFK Go.Proofs.Ytaebjajbogedkaa.Ov.D (lstK [⟨48, [⟨false, [.int .i64]⟩], [⟨false, [.int .i64]⟩], fun (x : Int) h => spans_bring x h⟩, ⟨71, [⟨false, [.sl]⟩], [⟨false, [.sl]⟩], fun (x : Sl) h => slices_Clip_2_int_2_int x h⟩]) ann_40 Try.f40 (Try.f40.body.getD .skip) E_40.ys (encP E_40.ps x) h) = (fun (x : Option Addr × Int × Int) h => P.spans_Set_Gaps spans_bring slices_Clip_2_int_2_int x.1 x.2.1 x.2.2 h) := by kernel_rfl
theorem ok_40 : E_40.ok Go.Proofs.Ytaebjajbogedkaa.Ov.D := fun x h y h' e => runFK_ok (lstK_ok [E_48, E_71] (List.forall_mem_cons.2 ⟨ok_48, List.forall_mem_cons.2 ⟨ok_71, fun E h => nomatch h⟩⟩)) (A := ann_40) (by kernel_rfl) (show Go.Proofs.Ytaebjajbogedkaa.Ov.D.fn.get 40 = some Try.f40 by kernel_rfl) (show Try.f40.body = some (Try.f40.body.getD .skip) by kernel_rfl) ((congrFun (congrFun (eq_40 spans_bring slices_Clip_2_int_2_int) x) h).trans e)
/-! spans_Set_Add -/
noncomputable def P.spans_Set_Add_l1 (spans_bring : Int → H → Option ((Int) × H)) : (((Option Addr) × (Int × (Int × (Sl × (Bool × (Sl × (Int × Int))))))) × H) → Option ((((Option Addr) × (Int × (Int × (Sl × (Bool × (Sl × (Int × Int))))))) × H) ⊕ ((((Option Addr) × (Int × (Int × (Sl × Bool)))) × H) ⊕ (PUnit × H))) := fun ((s, (from', (to, (out, (done, (x0, (x1, x2))))))), h0) =>
  condK (decide ((x2 < x1))) (
    joinO (
      bindO (ixT 2 x0 x2) fun (a0 : Addr) =>
      bindO (ldZ [.int .i64, .int .i64] h0 a0) fun ((x3, x4) : Int × Int) =>
      newO (row 100 [(.int .i64 0), (.int .i64 0)]) h0 fun (b : Nat) (h1 : H) =>
      bindO (stZ [.int .i64, .int .i64] h1 (⟨b, 0, (some 0)⟩ : Addr) ((x3, x4) : Int × Int)) fun (h2 : H) =>
      bindO (ixAT 2 1 (⟨b, 0, (some 0)⟩ : Addr) 1) fun (a1 : Addr) =>
      bindO (ldI .i64 h2 a1) fun (x5 : Int) =>
      condK (decide ((x5 < from'))) (
        bindO (ldZ [.int .i64, .int .i64] h2 (⟨b, 0, (some 0)⟩ : Addr)) fun ((x6, x7) : Int × Int) =>
        newO (row 100 [(.int .i64 x6), (.int .i64 x7)]) h2 fun (b1 : Nat) (h3 : H) =>
        bind2 (appT 100 2 16 h3 out (⟨(some (⟨b1, 0, (some 0)⟩ : Addr)), 1, 1⟩ : Sl)) fun (x8 : Sl) (h4 : H) =>
        some (Sum.inl ((s, (from', (to, (x8, (done, (x0, (x1, x2))))))), h4))) (
        bindO (ixAT 2 1 (⟨b, 0, (some 0)⟩ : Addr) 0) fun (a2 : Addr) =>
        bindO (ldI .i64 h2 a2) fun (x9 : Int) =>
        condK (decide ((x9 > to))) (
          joinO (
            condK (!done) (
              newO (row 100 [(.int .i64 from'), (.int .i64 to)]) h2 fun (b2 : Nat) (h5 : H) =>
              bind2 (appT 100 2 16 h5 out (⟨(some (⟨b2, 0, (some 0)⟩ : Addr)), 1, 1⟩ : Sl)) fun (x10 : Sl) (h6 : H) =>
              some (Sum.inl ((s, (from', (to, (x10, ((some (⟨b, 0, (some 0)⟩ : Addr)), (x0, (x1, x2))))))), h6))) (
              some (Sum.inl ((s, (from', (to, (out, ((some (⟨b, 0, (some 0)⟩ : Addr)), (x0, (x1, x2))))))), h2)))) fun (((s1, (from'1, (to1, (out1, (r, (x10, (x11, x12))))))), h5) : (((Option Addr) × (Int × (Int × (Sl × ((Option Addr) × (Sl × (Int × Int))))))) × H)) =>
          ptrK r fun (a3 : Addr) =>
          bindO (ldZ [.int .i64, .int .i64] h5 a3) fun ((x13, x14) : Int × Int) =>
          newO (row 100 [(.int .i64 x13), (.int .i64 x14)]) h5 fun (b2 : Nat) (h6 : H) =>
          bind2 (appT 100 2 16 h6 out1 (⟨(some (⟨b2, 0, (some 0)⟩ : Addr)), 1, 1⟩ : Sl)) fun (x15 : Sl) (h7 : H) =>
          some (Sum.inl ((s1, (from'1, (to1, (x15, (true, (x10, (x11, x12))))))), h7))) (
          bindO (ixAT 2 1 (⟨b, 0, (some 0)⟩ : Addr) 0) fun (a4 : Addr) =>
          bindO (ldI .i64 h2 a4) fun (x16 : Int) =>
          bindO (ixAT 2 1 (⟨b, 0, (some 0)⟩ : Addr) 1) fun (a5 : Addr) =>
          bindO (ldI .i64 h2 a5) fun (x17 : Int) =>
          some (Sum.inl ((s, ((if (x16 < from') then x16 else from'), ((if (x17 > to) then x17 else to), (out, (done, (x0, (x1, x2))))))), h2))))) fun (((s1, (from'1, (to1, (out1, (done1, (x3, (x4, x5))))))), h1) : (((Option Addr) × (Int × (Int × (Sl × (Bool × (Sl × (Int × Int))))))) × H)) =>
    some (Sum.inl ((s1, (from'1, (to1, (out1, (done1, (x3, (x4, (IntKind.wrap .i64 (x5 + 1))))))))), h1))) (
    some (Sum.inr (Sum.inl ((s, (from', (to, (out, done)))), h0))))

noncomputable def P.spans_Set_Add (spans_bring : Int → H → Option ((Int) × H)) (s : Option Addr) (from' : Int) (to : Int) (h : H) : Option (Unit × H) :=
  bind2 (spans_bring from' h) fun (x0 : Int) (h0 : H) =>
  bind2 (spans_bring to h0) fun (x1 : Int) (h1 : H) =>
  condK (decide ((x0 ≥ x1))) (
    some ((), h1)) (
    joinO (
      ptrK s fun (a0 : Addr) =>
      bindO (ldL h1 (add a0 0)) fun (x2 : Sl) =>
      loopO (P.spans_Set_Add_l1 spans_bring) ((s, (x0, (x1, ((⟨none, 0, 0⟩ : Sl), (false, (x2, (((x2.len : Nat) : Int), 0))))))), h1)) fun (((s1, (from'1, (to1, (out, done)))), h2) : (((Option Addr) × (Int × (Int × (Sl × Bool)))) × H)) =>
    joinO (
      condK (!done) (
        newO (row 100 [(.int .i64 from'1), (.int .i64 to1)]) h2 fun (b : Nat) (h3 : H) =>
        bind2 (appT 100 2 16 h3 out (⟨(some (⟨b, 0, (some 0)⟩ : Addr)), 1, 1⟩ : Sl)) fun (x2 : Sl) (h4 : H) =>
        some (Sum.inl ((s1, x2), h4))) (
        some (Sum.inl ((s1, out), h2)))) fun (((s2, out1), h3) : (((Option Addr) × Sl) × H)) =>
    ptrK s2 fun (a0 : Addr) =>
    bindO (st1 h3 (add a0 0) (.slice out1.base out1.len out1.cap)) fun (h4 : H) =>
    some ((), h4))
noncomputable abbrev spans_Set_Add_l1 := P.spans_Set_Add_l1 spans_bring
noncomputable def spans_Set_Add : Option Addr → Int → Int → H → Option ((Unit) × H) := P.spans_Set_Add spans_bring
noncomputable def ann_24 : Ann := ⟨fun i => bif i.beq 13 then some ⟨[0, 1, 2, 6, 9, 20, 21, 22], [⟨false, [.ptr]⟩, ⟨false, [.int .i64]⟩, ⟨false, [.int .i64]⟩, ⟨false, [.sl]⟩, ⟨false, [.ptr]⟩, ⟨false, [.sl]⟩, ⟨false, [.int .i64]⟩, ⟨false, [.int .i64]⟩]⟩ else bif i.beq 15 then some ⟨[0, 1, 2, 6, 7, 20, 21, 22], [⟨false, [.ptr]⟩, ⟨false, [.int .i64]⟩, ⟨false, [.int .i64]⟩, ⟨false, [.sl]⟩, ⟨false, [.bool]⟩, ⟨false, [.sl]⟩, ⟨false, [.int .i64]⟩, ⟨false, [.int .i64]⟩]⟩ else bif i.beq 16 then some ⟨[0, 1, 2, 6, 7], [⟨false, [.ptr]⟩, ⟨false, [.int .i64]⟩, ⟨false, [.int .i64]⟩, ⟨false, [.sl]⟩, ⟨false, [.bool]⟩]⟩ else bif i.beq 18 then some ⟨[0, 6], [⟨false, [.ptr]⟩, ⟨false, [.sl]⟩]⟩ else none, fun i => bif i.beq 5 then some ⟨[0, 1, 2, 6, 7, 20, 21, 22], [⟨false, [.ptr]⟩, ⟨false, [.int .i64]⟩, ⟨false, [.int .i64]⟩, ⟨false, [.sl]⟩, ⟨false, [.bool]⟩, ⟨false, [.sl]⟩, ⟨false, [.int .i64]⟩, ⟨false, [.int .i64]⟩]⟩ else none, fun _ => none⟩
noncomputable def E_24 : Ent := ⟨24, [⟨false, [.ptr]⟩, ⟨false, [.int .i64]⟩, ⟨false, [.int .i64]⟩], [], fun (x : Option Addr × Int × Int) h => spans_Set_Add x.1 x.2.1 x.2.2 h⟩
theorem eq_24 (spans_bring : Int → H → Option ((Int) × H)) : (fun (x : PT E_24.ps) (h : H) => runFK Go.Proofs.Ytaebjajbogedkaa.Ov.D (lstK [⟨48, [⟨false, [.int .i64]⟩], [⟨false, [.int .i64]⟩], fun (x : Int) h => spans_bring x h⟩]) ann_24 Try.f24 (Try.f24.body.getD .skip) E_24.ys (encP E_24.ps x) h) = (fun (x : Option Addr × Int × Int) h => P.spans_Set_Add spans_bring x.1 x.2.1 x.2.2 h) := by kernel_rfl
theorem ok_24 : E_24.ok Go.Proofs.Ytaebjajbogedkaa.Ov.D := fun x h y h' e => runFK_ok (lstK_ok [E_48] (List.forall_mem_cons.2 ⟨ok_48, fun E h => nomatch h⟩)) (A := ann_24) (by kernel_rfl) (show Go.Proofs.Ytaebjajbogedkaa.Ov.D.fn.get 24 = some Try.f24 by kernel_rfl) (show Try.f24.body = some (Try.f24.body.getD .skip) by kernel_rfl) ((congrFun (congrFun (eq_24 spans_bring) x) h).trans e)
/-! spans_Set_All -/
noncomputable def P.spans_Set_All (spans_Set_Gaps : Option Addr → Int → Int → H → Option ((Sl) × H)) (s : Option Addr) (from' : Int) (to : Int) (h : H) : Option (Bool × H) :=
  bind2 (spans_Set_Gaps s from' to h) fun (x0 : Sl) (h0 : H) =>
  some ((((x0.len : Nat) : Int) == 0), h0)
noncomputable def spans_Set_All : Option Addr → Int → Int → H → Option ((Bool) × H) := P.spans_Set_All spans_Set_Gaps
noncomputable def ann_25 : Ann := ⟨fun _ => none, fun _ => none, fun _ => none⟩
noncomputable def E_25 : Ent := ⟨25, [⟨false, [.ptr]⟩, ⟨false, [.int .i64]⟩, ⟨false, [.int .i64]⟩], [⟨false, [.bool]⟩], fun (x : Option Addr × Int × Int) h => spans_Set_All x.1 x.2.1 x.2.2 h⟩
theorem eq_25 (spans_Set_Gaps : Option Addr → Int → Int → H → Option ((Sl) × H)) : (fun (x : PT E_25.ps) (h : H) => runFK Go.Proofs.Ytaebjajbogedkaa.Ov.D (lstK [⟨40, [⟨false, [.ptr]⟩, ⟨false, [.int .i64]⟩, ⟨false, [.int .i64]⟩], [⟨false, [.sl]⟩], fun (x : Option Addr × Int × Int) h => spans_Set_Gaps x.1 x.2.1 x.2.2 h⟩]) ann_25 Try.f25 (Try.f25.body.getD .skip) E_25.ys (encP E_25.ps x) h) = (fun (x : Option Addr × Int × Int) h => P.spans_Set_All spans_Set_Gaps x.1 x.2.1 x.2.2 h) := by kernel_rfl
theorem ok_25 : E_25.ok Go.Proofs.Ytaebjajbogedkaa.Ov.D := fun x h y h' e => runFK_ok (lstK_ok [E_40] (List.forall_mem_cons.2 ⟨ok_40, fun E h => nomatch h⟩)) (A := ann_25) (by kernel_rfl) (show Go.Proofs.Ytaebjajbogedkaa.Ov.D.fn.get 25 = some Try.f25 by kernel_rfl) (show Try.f25.body = some (Try.f25.body.getD .skip) by kernel_rfl) ((congrFun (congrFun (eq_25 spans_Set_Gaps) x) h).trans e)
/-! inbox_New -/
noncomputable def inbox_New  (h : H) : Option (Option Addr × H) :=
  newO (.map []) h fun (b : Nat) (h0 : H) =>
  newO (.map []) h0 fun (b1 : Nat) (h1 : H) =>
  newO (row 77 [(.slice none 0 0), (.map (some b)), (.map (some b1))]) h1 fun (b2 : Nat) (h2 : H) =>
  some ((some (⟨b2, 0, (some 0)⟩ : Addr)), h2)
noncomputable def ann_28 : Ann := ⟨fun _ => none, fun _ => none, fun _ => none⟩
noncomputable def E_28 : Ent := ⟨28, [], [⟨false, [.ptr]⟩], fun (x : Unit) h => inbox_New h⟩
theorem eq_28  : (fun (x : PT E_28.ps) (h : H) => runFK Go.Proofs.Ytaebjajbogedkaa.Ov.D (lstK []) ann_28 Try.f28 (Try.f28.body.getD .skip) E_28.ys (encP E_28.ps x) h) = (fun (x : Unit) h => inbox_New  h) := by kernel_rfl
theorem ok_28 : E_28.ok Go.Proofs.Ytaebjajbogedkaa.Ov.D := fun x h y h' e => runFK_ok (lstK_ok [] (fun E h => nomatch h)) (A := ann_28) (by kernel_rfl) (show Go.Proofs.Ytaebjajbogedkaa.Ov.D.fn.get 28 = some Try.f28 by kernel_rfl) (show Try.f28.body = some (Try.f28.body.getD .skip) by kernel_rfl) ((congrFun (congrFun (eq_28 ) x) h).trans e)
/-! head_pieces -/
noncomputable def head_pieces (size : Int) (h : H) : Option (Int × H) :=
  letO ((IntKind.wrap .i64 (Int.tdiv (IntKind.wrap .i64 ((IntKind.wrap .i64 (size + 80)) - 1)) 80))) fun (x0 : Int) =>
  some (x0, h)
noncomputable def ann_53 : Ann := ⟨fun _ => none, fun _ => none, fun _ => none⟩
noncomputable def E_53 : Ent := ⟨53, [⟨false, [.int .i64]⟩], [⟨false, [.int .i64]⟩], fun (x : Int) h => head_pieces x h⟩
theorem eq_53  : (fun (x : PT E_53.ps) (h : H) => runFK Go.Proofs.Ytaebjajbogedkaa.Ov.D (lstK []) ann_53 Try.f53 (Try.f53.body.getD .skip) E_53.ys (encP E_53.ps x) h) = (fun (x : Int) h => head_pieces x h) := by kernel_rfl
theorem ok_53 : E_53.ok Go.Proofs.Ytaebjajbogedkaa.Ov.D := fun x h y h' e => runFK_ok (lstK_ok [] (fun E h => nomatch h)) (A := ann_53) (by kernel_rfl) (show Go.Proofs.Ytaebjajbogedkaa.Ov.D.fn.get 53 = some Try.f53 by kernel_rfl) (show Try.f53.body = some (Try.f53.body.getD .skip) by kernel_rfl) ((congrFun (congrFun (eq_53 ) x) h).trans e)
/-! head_Right -/
noncomputable def P.head_Right (head_pieces : Int → H → Option ((Int) × H)) (h0 : Int × Int × Int × Int × Int) (h : H) : Option (Bool × H) :=
  newO (row 67 [(.int .i64 h0.1), (.int .i64 h0.2.1), (.int .i64 h0.2.2.1), (.int .i64 h0.2.2.2.1), (.int .i64 h0.2.2.2.2)]) h fun (b : Nat) (h1 : H) =>
  joinO (
    bindO (ldI .i64 h1 (add (⟨b, 0, (some 0)⟩ : Addr) 0)) fun (x0 : Int) =>
    condK (decide ((x0 < 0))) (
      some (Sum.inl (((some (⟨b, 0, (some 0)⟩ : Addr)), true), h1))) (
      bindO (ldI .i64 h1 (add (⟨b, 0, (some 0)⟩ : Addr) 0)) fun (x1 : Int) =>
      condK (decide ((x1 ≥ 40))) (
        some (Sum.inl (((some (⟨b, 0, (some 0)⟩ : Addr)), true), h1))) (
        bindO (ldI .i64 h1 (add (⟨b, 0, (some 0)⟩ : Addr) 1)) fun (x2 : Int) =>
        condK (decide ((x2 < 0))) (
          some (Sum.inl (((some (⟨b, 0, (some 0)⟩ : Addr)), true), h1))) (
          bindO (ldI .i64 h1 (add (⟨b, 0, (some 0)⟩ : Addr) 1)) fun (x3 : Int) =>
          some (Sum.inl (((some (⟨b, 0, (some 0)⟩ : Addr)), (decide ((x3 > 4611686018427387903)))), h1)))))) fun (((h2, x0), h3) : (((Option Addr) × Bool) × H)) =>
  condK x0 (
    some (false, h3)) (
    joinO (
      ptrK h2 fun (a0 : Addr) =>
      bindO (ldI .i64 h3 (add a0 4)) fun (x1 : Int) =>
      condK (decide ((x1 < 1))) (
        some (Sum.inl ((h2, true), h3))) (
        ptrK h2 fun (a1 : Addr) =>
        bindO (ldI .i64 h3 (add a1 4)) fun (x2 : Int) =>
        condK (decide ((x2 > 600))) (
          some (Sum.inl ((h2, true), h3))) (
          ptrK h2 fun (a2 : Addr) =>
          bindO (ldI .i64 h3 (add a2 2)) fun (x3 : Int) =>
          ptrK h2 fun (a3 : Addr) =>
          bindO (ldI .i64 h3 (add a3 4)) fun (x4 : Int) =>
          bind2 (head_pieces x4 h3) fun (x5 : Int) (h4 : H) =>
          bindO (ldI .i64 h4 (add a2 2)) fun (x6 : Int) =>
          condK (x6 == x3) (
            some (Sum.inl ((h2, (x3 != x5)), h4))) none))) fun (((h4, x1), h5) : (((Option Addr) × Bool) × H)) =>
    condK x1 (
      some (false, h5)) (
      ptrK h4 fun (a0 : Addr) =>
      bindO (ldI .i64 h5 (add a0 3)) fun (x2 : Int) =>
      condK (decide ((x2 ≥ 0))) (
        ptrK h4 fun (a1 : Addr) =>
        bindO (ldI .i64 h5 (add a1 3)) fun (x3 : Int) =>
        ptrK h4 fun (a2 : Addr) =>
        bindO (ldI .i64 h5 (add a2 2)) fun (x4 : Int) =>
        some ((decide ((x3 < x4))), h5)) (
        some (false, h5))))
noncomputable def head_Right : (Int × Int × Int × Int × Int) → H → Option ((Bool) × H) := P.head_Right head_pieces
noncomputable def ann_50 : Ann := ⟨fun _ => none, fun _ => none, fun i => bif i.beq 1 then some ⟨[1, 3], [⟨false, [.ptr]⟩, ⟨false, [.bool]⟩]⟩ else bif i.beq 3 then some ⟨[1, 22], [⟨false, [.ptr]⟩, ⟨false, [.bool]⟩]⟩ else none⟩
noncomputable def E_50 : Ent := ⟨50, [⟨true, [.int .i64, .int .i64, .int .i64, .int .i64, .int .i64]⟩], [⟨false, [.bool]⟩], fun (x : (Int × Int × Int × Int × Int)) h => head_Right x h⟩
theorem eq_50 (head_pieces : Int → H → Option ((Int) × H)) : (fun (x : PT E_50.ps) (h : H) => runFK Go.Proofs.Ytaebjajbogedkaa.Ov.D (lstK [⟨53, [⟨false, [.int .i64]⟩], [⟨false, [.int .i64]⟩], fun (x : Int) h => head_pieces x h⟩]) ann_50 Try.f50 (Try.f50.body.getD .skip) E_50.ys (encP E_50.ps x) h) = (fun (x : (Int × Int × Int × Int × Int)) h => P.head_Right head_pieces x h) := by kernel_rfl
theorem ok_50 : E_50.ok Go.Proofs.Ytaebjajbogedkaa.Ov.D := fun x h y h' e => runFK_ok (lstK_ok [E_53] (List.forall_mem_cons.2 ⟨ok_53, fun E h => nomatch h⟩)) (A := ann_50) (by kernel_rfl) (show Go.Proofs.Ytaebjajbogedkaa.Ov.D.fn.get 50 = some Try.f50 by kernel_rfl) (show Try.f50.body = some (Try.f50.body.getD .skip) by kernel_rfl) ((congrFun (congrFun (eq_50 head_pieces) x) h).trans e)
/-! head_Of -/
noncomputable def P.head_Of (head_pieces : Int → H → Option ((Int) × H)) (head_Right : (Int × Int × Int × Int × Int) → H → Option ((Bool) × H)) (id : Int) (deadline : Int) (size : Int) (h : H) : Option ((Int × Int × Int × Int × Int) × H) :=
  newO (row 67 [(.int .i64 0), (.int .i64 0), (.int .i64 0), (.int .i64 0), (.int .i64 0)]) h fun (b : Nat) (h0 : H) =>
  newO (row 67 [(.int .i64 0), (.int .i64 0), (.int .i64 0), (.int .i64 0), (.int .i64 0)]) h0 fun (b1 : Nat) (h1 : H) =>
  bindO (stZ [.int .i64, .int .i64, .int .i64, .int .i64, .int .i64] h1 (⟨b1, 0, (some 0)⟩ : Addr) ((id, deadline, 0, 0, size) : Int × Int × Int × Int × Int)) fun (h2 : H) =>
  joinO (
    joinO (
      condK (decide ((size ≥ 1))) (
        some (Sum.inl ((size, ((some (⟨b, 0, (some 0)⟩ : Addr)), ((some (⟨b1, 0, (some 0)⟩ : Addr)), (decide ((size ≤ 600)))))), h2))) (
        some (Sum.inl ((size, ((some (⟨b, 0, (some 0)⟩ : Addr)), ((some (⟨b1, 0, (some 0)⟩ : Addr)), false))), h2)))) fun (((size1, (x0, (h3, x1))), h4) : ((Int × ((Option Addr) × ((Option Addr) × Bool))) × H)) =>
    condK x1 (
      bind2 (head_pieces size1 h4) fun (x2 : Int) (h5 : H) =>
      ptrK h3 fun (a0 : Addr) =>
      bindO (st1 h5 (add a0 2) (.int .i64 x2)) fun (h6 : H) =>
      some (Sum.inl ((x0, h3), h6))) (
      some (Sum.inl ((x0, h3), h4)))) fun (((x0, h3), h4) : (((Option Addr) × (Option Addr)) × H)) =>
  ptrK h3 fun (a0 : Addr) =>
  bindO (ldZ [.int .i64, .int .i64, .int .i64, .int .i64, .int .i64] h4 a0) fun ((x1, x2, x3, x4, x5) : Int × Int × Int × Int × Int) =>
  bind2 (head_Right (x1, x2, x3, x4, x5) h4) fun (x6 : Bool) (h5 : H) =>
  condK (!x6) (
    ptrK x0 fun (a1 : Addr) =>
    bindO (stZ [.int .i64, .int .i64, .int .i64, .int .i64, .int .i64] h5 a1 ((0, 0, 0, 0, 0) : Int × Int × Int × Int × Int)) fun (h6 : H) =>
    ptrK x0 fun (a2 : Addr) =>
    bindO (ldZ [.int .i64, .int .i64, .int .i64, .int .i64, .int .i64] h6 a2) fun ((x7, x8, x9, x10, x11) : Int × Int × Int × Int × Int) =>
    some ((x7, (x8, (x9, (x10, x11)))), h6)) (
    ptrK h3 fun (a3 : Addr) =>
    bindO (ldZ [.int .i64, .int .i64, .int .i64, .int .i64, .int .i64] h5 a3) fun ((x12, x13, x14, x15, x16) : Int × Int × Int × Int × Int) =>
    ptrK x0 fun (a4 : Addr) =>
    bindO (stZ [.int .i64, .int .i64, .int .i64, .int .i64, .int .i64] h5 a4 ((x12, x13, x14, x15, x16) : Int × Int × Int × Int × Int)) fun (h7 : H) =>
    ptrK x0 fun (a5 : Addr) =>
    bindO (ldZ [.int .i64, .int .i64, .int .i64, .int .i64, .int .i64] h7 a5) fun ((x17, x18, x19, x20, x21) : Int × Int × Int × Int × Int) =>
    some ((x17, (x18, (x19, (x20, x21)))), h7))
noncomputable def head_Of : Int → Int → Int → H → Option (((Int × Int × Int × Int × Int)) × H) := P.head_Of head_pieces head_Right
noncomputable def ann_31 : Ann := ⟨fun i => bif i.beq 4 then some ⟨[6, 7], [⟨false, [.ptr]⟩, ⟨false, [.ptr]⟩]⟩ else none, fun _ => none, fun i => bif i.beq 2 then some ⟨[2, 6, 7, 17], [⟨false, [.int .i64]⟩, ⟨false, [.ptr]⟩, ⟨false, [.ptr]⟩, ⟨false, [.bool]⟩]⟩ else none⟩
noncomputable def E_31 : Ent := ⟨31, [⟨false, [.int .i64]⟩, ⟨false, [.int .i64]⟩, ⟨false, [.int .i64]⟩], [⟨true, [.int .i64, .int .i64, .int .i64, .int .i64, .int .i64]⟩], fun (x : Int × Int × Int) h => head_Of x.1 x.2.1 x.2.2 h⟩
theorem eq_31 (head_pieces : Int → H → Option ((Int) × H)) (head_Right : (Int × Int × Int × Int × Int) → H → Option ((Bool) × H)) : (fun (x : PT E_31.ps) (h : H) => runFK Go.Proofs.Ytaebjajbogedkaa.Ov.D (lstK [⟨53, [⟨false, [.int .i64]⟩], [⟨false, [.int .i64]⟩], fun (x : Int) h => head_pieces x h⟩, ⟨50, [⟨true, [.int .i64, .int .i64, .int .i64, .int .i64, .int .i64]⟩], [⟨false, [.bool]⟩], fun (x : (Int × Int × Int × Int × Int)) h => head_Right x h⟩]) ann_31 Try.f31 (Try.f31.body.getD .skip) E_31.ys (encP E_31.ps x) h) = (fun (x : Int × Int × Int) h => P.head_Of head_pieces head_Right x.1 x.2.1 x.2.2 h) := by kernel_rfl
theorem ok_31 : E_31.ok Go.Proofs.Ytaebjajbogedkaa.Ov.D := fun x h y h' e => runFK_ok (lstK_ok [E_53, E_50] (List.forall_mem_cons.2 ⟨ok_53, List.forall_mem_cons.2 ⟨ok_50, fun E h => nomatch h⟩⟩)) (A := ann_31) (by kernel_rfl) (show Go.Proofs.Ytaebjajbogedkaa.Ov.D.fn.get 31 = some Try.f31 by kernel_rfl) (show Try.f31.body = some (Try.f31.body.getD .skip) by kernel_rfl) ((congrFun (congrFun (eq_31 head_pieces head_Right) x) h).trans e)
/-! slices_Grow_byte -/
noncomputable def slices_Grow_byte (s : Sl) (n : Int) (h : H) : Option (Sl × H) :=
  joinO (
    condK (decide ((n < 0))) (
      none) (
      some (Sum.inl ((s, n), h)))) fun (((s1, n1), h0) : ((Sl × Int) × H)) =>
  joinO (
    bindO (capT s1) fun (x0 : Int) =>
    letO ((IntKind.wrap .i64 (n1 - (IntKind.wrap .i64 (x0 - ((s1.len : Nat) : Int)))))) fun (x1 : Int) =>
    condK (decide ((x1 > 0))) (
      bindO (capT s1) fun (x2 : Int) =>
      bindO (slT 1 h0 s1 none (some x2) none) fun (x3 : Sl) =>
      bind2 (appNT 5 1 1 (.int .u8 0) h0 x3 x1) fun (x4 : Sl) (h1 : H) =>
      bindO (slT 1 h1 x4 none (some ((s1.len : Nat) : Int)) none) fun (x5 : Sl) =>
      some (Sum.inl (x5, h1))) (
      some (Sum.inl (s1, h0)))) fun ((s2, h1) : (Sl × H)) =>
  some (s2, h1)
noncomputable def ann_82 : Ann := ⟨fun i => bif i.beq 3 then some ⟨[0, 1], [⟨false, [.sl]⟩, ⟨false, [.int .i64]⟩]⟩ else bif i.beq 6 then some ⟨[0], [⟨false, [.sl]⟩]⟩ else none, fun _ => none, fun _ => none⟩
noncomputable def E_82 : Ent := ⟨82, [⟨false, [.sl]⟩, ⟨false, [.int .i64]⟩], [⟨false, [.sl]⟩], fun (x : Sl × Int) h => slices_Grow_byte x.1 x.2 h⟩
theorem eq_82  : (fun (x : PT E_82.ps) (h : H) => runFK Go.Proofs.Ytaebjajbogedkaa.Ov.D (lstK []) ann_82 Try.f82 (Try.f82.body.getD .skip) E_82.ys (encP E_82.ps x) h) = (fun (x : Sl × Int) h => slices_Grow_byte x.1 x.2 h) := by kernel_rfl
theorem ok_82 : E_82.ok Go.Proofs.Ytaebjajbogedkaa.Ov.D := fun x h y h' e => runFK_ok (lstK_ok [] (fun E h => nomatch h)) (A := ann_82) (by kernel_rfl) (show Go.Proofs.Ytaebjajbogedkaa.Ov.D.fn.get 82 = some Try.f82 by kernel_rfl) (show Try.f82.body = some (Try.f82.body.getD .skip) by kernel_rfl) ((congrFun (congrFun (eq_82 ) x) h).trans e)
/-! slices_Concat_byte -/
noncomputable def P.slices_Concat_byte_l2 (slices_Grow_byte : Sl → Int → H → Option ((Sl) × H)) : ((Sl × (Sl × (Int × Int))) × H) → Option (((Sl × (Sl × (Int × Int))) × H) ⊕ ((Sl × H) ⊕ (Sl × H))) := fun ((newslice, (x0, (x1, x2))), h0) =>
  condK (decide ((x2 < x1))) (
    bindO (ixT 1 x0 x2) fun (a0 : Addr) =>
    bindO (ldL h0 a0) fun (x3 : Sl) =>
    bind2 (appT 5 1 1 h0 newslice x3) fun (x4 : Sl) (h1 : H) =>
    some (Sum.inl ((x4, (x0, (x1, (IntKind.wrap .i64 (x2 + 1))))), h1))) (
    some (Sum.inr (Sum.inl (newslice, h0))))

noncomputable def P.slices_Concat_byte_l1 (slices_Grow_byte : Sl → Int → H → Option ((Sl) × H)) : ((Sl × (Int × (Sl × (Int × Int)))) × H) → Option (((Sl × (Int × (Sl × (Int × Int)))) × H) ⊕ (((Sl × Int) × H) ⊕ (Sl × H))) := fun ((slices, (size, (x0, (x1, x2)))), h0) =>
  condK (decide ((x2 < x1))) (
    joinO (
      bindO (ixT 1 x0 x2) fun (a0 : Addr) =>
      bindO (ldL h0 a0) fun (x3 : Sl) =>
      condK (decide (((IntKind.wrap .i64 (size + ((x3.len : Nat) : Int))) < 0))) (
        none) (
        some (Sum.inl ((slices, ((IntKind.wrap .i64 (size + ((x3.len : Nat) : Int))), (x0, (x1, x2)))), h0)))) fun (((slices1, (size1, (x3, (x4, x5)))), h1) : ((Sl × (Int × (Sl × (Int × Int)))) × H)) =>
    some (Sum.inl ((slices1, (size1, (x3, (x4, (IntKind.wrap .i64 (x5 + 1)))))), h1))) (
    some (Sum.inr (Sum.inl ((slices, size), h0))))

noncomputable def P.slices_Concat_byte (slices_Grow_byte : Sl → Int → H → Option ((Sl) × H)) (slices : Sl) (h : H) : Option (Sl × H) :=
  joinO (
    loopO (P.slices_Concat_byte_l1 slices_Grow_byte) ((slices, (0, (slices, (((slices.len : Nat) : Int), 0)))), h)) fun (((slices1, size), h0) : ((Sl × Int) × H)) =>
  bind2 (slices_Grow_byte (⟨none, 0, 0⟩ : Sl) size h0) fun (x0 : Sl) (h1 : H) =>
  joinO (
    loopO (P.slices_Concat_byte_l2 slices_Grow_byte) ((x0, (slices1, (((slices1.len : Nat) : Int), 0))), h1)) fun ((newslice, h2) : (Sl × H)) =>
  some (newslice, h2)
noncomputable abbrev slices_Concat_byte_l2 := P.slices_Concat_byte_l2 slices_Grow_byte
noncomputable abbrev slices_Concat_byte_l1 := P.slices_Concat_byte_l1 slices_Grow_byte
noncomputable def slices_Concat_byte : Sl → H → Option ((Sl) × H) := P.slices_Concat_byte slices_Grow_byte
noncomputable def ann_49 : Ann := ⟨fun i => bif i.beq 8 then some ⟨[0, 3, 9, 10, 11], [⟨false, [.sl]⟩, ⟨false, [.int .i64]⟩, ⟨false, [.sl]⟩, ⟨false, [.int .i64]⟩, ⟨false, [.int .i64]⟩]⟩ else bif i.beq 9 then some ⟨[0, 3], [⟨false, [.sl]⟩, ⟨false, [.int .i64]⟩]⟩ else bif i.beq 15 then some ⟨[6], [⟨false, [.sl]⟩]⟩ else none, fun i => bif i.beq 3 then some ⟨[0, 3, 9, 10, 11], [⟨false, [.sl]⟩, ⟨false, [.int .i64]⟩, ⟨false, [.sl]⟩, ⟨false, [.int .i64]⟩, ⟨false, [.int .i64]⟩]⟩ else bif i.beq 11 then some ⟨[6, 25, 26, 27], [⟨false, [.sl]⟩, ⟨false, [.sl]⟩, ⟨false, [.int .i64]⟩, ⟨false, [.int .i64]⟩]⟩ else none, fun _ => none⟩
noncomputable def E_49 : Ent := ⟨49, [⟨false, [.sl]⟩], [⟨false, [.sl]⟩], fun (x : Sl) h => slices_Concat_byte x h⟩
theorem eq_49 (slices_Grow_byte : Sl → Int → H → Option ((Sl) × H)) : (fun (x : PT E_49.ps) (h : H) => runFK Go.Proofs.Ytaebjajbogedkaa.Ov.D (lstK [⟨82, [⟨false, [.sl]⟩, ⟨false, [.int .i64]⟩], [⟨false, [.sl]⟩], fun (x : Sl × Int) h => slices_Grow_byte x.1 x.2 h⟩]) ann_49 Try.f49 (Try.f49.body.getD .skip) E_49.ys (encP E_49.ps x) h) = (fun (x : Sl) h => P.slices_Concat_byte slices_Grow_byte x h) := by kernel_rfl
theorem ok_49 : E_49.ok Go.Proofs.Ytaebjajbogedkaa.Ov.D := fun x h y h' e => runFK_ok (lstK_ok [E_82] (List.forall_mem_cons.2 ⟨ok_82, fun E h => nomatch h⟩)) (A := ann_49) (by kernel_rfl) (show Go.Proofs.Ytaebjajbogedkaa.Ov.D.fn.get 49 = some Try.f49 by kernel_rfl) (show Try.f49.body = some (Try.f49.body.getD .skip) by kernel_rfl) ((congrFun (congrFun (eq_49 slices_Grow_byte) x) h).trans e)
/-! head_bounds -/
noncomputable def head_bounds (h0 : Int × Int × Int × Int × Int) (h : H) : Option ((Int × Int) × H) :=
  newO (row 67 [(.int .i64 h0.1), (.int .i64 h0.2.1), (.int .i64 h0.2.2.1), (.int .i64 h0.2.2.2.1), (.int .i64 h0.2.2.2.2)]) h fun (b : Nat) (h1 : H) =>
  bindO (ldI .i64 h1 (add (⟨b, 0, (some 0)⟩ : Addr) 3)) fun (x0 : Int) =>
  bindO (ldI .i64 h1 (add (⟨b, 0, (some 0)⟩ : Addr) 4)) fun (x1 : Int) =>
  letO ((if (x1 < (IntKind.wrap .i64 ((IntKind.wrap .i64 (x0 * 80)) + 80))) then x1 else (IntKind.wrap .i64 ((IntKind.wrap .i64 (x0 * 80)) + 80)))) fun (x2 : Int) =>
  some (((IntKind.wrap .i64 (x0 * 80)), x2), h1)
noncomputable def ann_51 : Ann := ⟨fun _ => none, fun _ => none, fun _ => none⟩
noncomputable def E_51 : Ent := ⟨51, [⟨true, [.int .i64, .int .i64, .int .i64, .int .i64, .int .i64]⟩], [⟨false, [.int .i64]⟩, ⟨false, [.int .i64]⟩], fun (x : (Int × Int × Int × Int × Int)) h => head_bounds x h⟩
theorem eq_51  : (fun (x : PT E_51.ps) (h : H) => runFK Go.Proofs.Ytaebjajbogedkaa.Ov.D (lstK []) ann_51 Try.f51 (Try.f51.body.getD .skip) E_51.ys (encP E_51.ps x) h) = (fun (x : (Int × Int × Int × Int × Int)) h => head_bounds x h) := by kernel_rfl
theorem ok_51 : E_51.ok Go.Proofs.Ytaebjajbogedkaa.Ov.D := fun x h y h' e => runFK_ok (lstK_ok [] (fun E h => nomatch h)) (A := ann_51) (by kernel_rfl) (show Go.Proofs.Ytaebjajbogedkaa.Ov.D.fn.get 51 = some Try.f51 by kernel_rfl) (show Try.f51.body = some (Try.f51.body.getD .skip) by kernel_rfl) ((congrFun (congrFun (eq_51 ) x) h).trans e)
/-! varint_Put -/
noncomputable def P.varint_Put_l2 (slices_Clone_byte : Sl → H → Option ((Sl) × H)) (varint_kind : Int → H → Option ((Int) × H)) (slices_Clip_byte : Sl → H → Option ((Sl) × H)) : ((Sl × (Int × (Int × (Int × (Int × (Sl × (Int × Int))))))) × H) → Option (((Sl × (Int × (Int × (Int × (Int × (Sl × (Int × Int))))))) × H) ⊕ (((Sl × (Int × (Int × (Sl × (Int × Int))))) × H) ⊕ (((Sl × (Sl × (Int × Int))) × H) ⊕ (((Sl × (Sl × (Int × Int))) × H) ⊕ ((Sl × H) ⊕ (Sl × H)))))) := fun ((out, (x0, (k, (first, (at', (x1, (x2, x3))))))), h0) =>
  condK (decide ((at' ≥ 0))) (
    bindO (shrT .i64 x0 .i64 at') fun (x4 : Int) =>
    newO (row 5 [(.int .u8 (IntKind.wrap .u8 x4))]) h0 fun (b : Nat) (h1 : H) =>
    bind2 (appT 5 1 1 h1 out (⟨(some (⟨b, 0, (some 0)⟩ : Addr)), 1, 1⟩ : Sl)) fun (x5 : Sl) (h2 : H) =>
    some (Sum.inl ((x5, (x0, (k, (first, ((IntKind.wrap .i64 (at' - 8)), (x1, (x2, x3))))))), h2))) (
    some (Sum.inr (Sum.inl ((out, (k, (first, (x1, (x2, x3))))), h0))))

noncomputable def P.varint_Put_l1 (slices_Clone_byte : Sl → H → Option ((Sl) × H)) (varint_kind : Int → H → Option ((Int) × H)) (slices_Clip_byte : Sl → H → Option ((Sl) × H)) : ((Sl × (Sl × (Int × Int))) × H) → Option (((Sl × (Sl × (Int × Int))) × H) ⊕ ((Sl × H) ⊕ (Sl × H))) := fun ((out, (x0, (x1, x2))), h0) =>
  condK (decide ((x2 < x1))) (
    joinO (
      bindO (ixT 1 x0 x2) fun (a0 : Addr) =>
      bindO (ldI .i64 h0 a0) fun (x3 : Int) =>
      bind2 (varint_kind x3 h0) fun (x4 : Int) (h1 : H) =>
      condK (decide ((x4 < 0))) (
        some (Sum.inr (Sum.inr (Sum.inr ((⟨none, 0, 0⟩ : Sl), h1))))) (
        joinO (
          bindO (shlT .i64 8 .i64 x4) fun (x5 : Int) =>
          loopO (P.varint_Put_l2 slices_Clone_byte varint_kind slices_Clip_byte) ((out, (x3, (x4, (((out.len : Nat) : Int), ((IntKind.wrap .i64 (x5 - 8)), (x0, (x1, x2))))))), h1)) fun (((out1, (k, (first, (x5, (x6, x7))))), h2) : ((Sl × (Int × (Int × (Sl × (Int × Int))))) × H)) =>
        bindO (ixT 1 out1 first) fun (a1 : Addr) =>
        bindO (ldI .u8 h2 a1) fun (x8 : Int) =>
        letO ((IntKind.wrap .u8 (((BitVec.toNat ((BitVec.ofInt 8 x8) ||| (BitVec.ofInt 8 (IntKind.wrap .u8 (IntKind.wrap .i64 (k * 64)))))) : Nat) : Int))) fun (x9 : Int) =>
        bindO (ixT 1 out1 first) fun (a2 : Addr) =>
        bindO (st1 h2 a2 (.int .u8 x9)) fun (h3 : H) =>
        some (Sum.inl ((out1, (x5, (x6, x7))), h3)))) fun (((out1, (x3, (x4, x5))), h1) : ((Sl × (Sl × (Int × Int))) × H)) =>
    some (Sum.inl ((out1, (x3, (x4, (IntKind.wrap .i64 (x5 + 1))))), h1))) (
    some (Sum.inr (Sum.inl (out, h0))))

noncomputable def P.varint_Put (slices_Clone_byte : Sl → H → Option ((Sl) × H)) (varint_kind : Int → H → Option ((Int) × H)) (slices_Clip_byte : Sl → H → Option ((Sl) × H)) (b : Sl) (n : Sl) (h : H) : Option (Sl × H) :=
  bind2 (slices_Clone_byte b h) fun (x0 : Sl) (h0 : H) =>
  joinO (
    loopO (P.varint_Put_l1 slices_Clone_byte varint_kind slices_Clip_byte) ((x0, (n, (((n.len : Nat) : Int), 0))), h0)) fun ((out, h1) : (Sl × H)) =>
  bind2 (slices_Clip_byte out h1) fun (x1 : Sl) (h2 : H) =>
  some (x1, h2)
noncomputable abbrev varint_Put_l2 := P.varint_Put_l2 slices_Clone_byte varint_kind slices_Clip_byte
noncomputable abbrev varint_Put_l1 := P.varint_Put_l1 slices_Clone_byte varint_kind slices_Clip_byte
noncomputable def varint_Put : Sl → Sl → H → Option ((Sl) × H) := P.varint_Put slices_Clone_byte varint_kind slices_Clip_byte
noncomputable def ann_52 : Ann := ⟨fun i => bif i.beq 13 then some ⟨[5, 8, 9, 13, 14, 15], [⟨false, [.sl]⟩, ⟨false, [.int .i64]⟩, ⟨false, [.int .i64]⟩, ⟨false, [.sl]⟩, ⟨false, [.int .i64]⟩, ⟨false, [.int .i64]⟩]⟩ else bif i.beq 14 then some ⟨[5, 13, 14, 15], [⟨false, [.sl]⟩, ⟨false, [.sl]⟩, ⟨false, [.int .i64]⟩, ⟨false, [.int .i64]⟩]⟩ else bif i.beq 15 then some ⟨[5], [⟨false, [.sl]⟩]⟩ else none, fun i => bif i.beq 3 then some ⟨[5, 13, 14, 15], [⟨false, [.sl]⟩, ⟨false, [.sl]⟩, ⟨false, [.int .i64]⟩, ⟨false, [.int .i64]⟩]⟩ else bif i.beq 10 then some ⟨[5, 7, 8, 9, 10, 13, 14, 15], [⟨false, [.sl]⟩, ⟨false, [.int .i64]⟩, ⟨false, [.int .i64]⟩, ⟨false, [.int .i64]⟩, ⟨false, [.int .i64]⟩, ⟨false, [.sl]⟩, ⟨false, [.int .i64]⟩, ⟨false, [.int .i64]⟩]⟩ else none, fun _ => none⟩
noncomputable def E_52 : Ent := ⟨52, [⟨false, [.sl]⟩, ⟨false, [.sl]⟩], [⟨false, [.sl]⟩], fun (x : Sl × Sl) h => varint_Put x.1 x.2 h⟩
theorem eq_52 (slices_Clone_byte : Sl → H → Option ((Sl) × H)) (varint_kind : Int → H → Option ((Int) × H)) (slices_Clip_byte : Sl → H → Option ((Sl) × H)) : (fun (x : PT E_52.ps) (h : H) => runFK Go.Proofs.Ytaebjajbogedkaa.Ov.D (lstK [⟨70, [⟨false, [.sl]⟩], [⟨false, [.sl]⟩], fun (x : Sl) h => slices_Clone_byte x h⟩, ⟨80, [⟨false, [.int .i64]⟩], [⟨false, [.int .i64]⟩], fun (x : Int) h => varint_kind x h⟩, ⟨69, [⟨false, [.sl]⟩], [⟨false, [.sl]⟩], fun (x : Sl) h => slices_Clip_byte x h⟩]) ann_52 Try.f52 (Try.f52.body.getD .skip) E_52.ys (encP E_52.ps x) h) = (fun (x : Sl × Sl) h => P.varint_Put slices_Clone_byte varint_kind slices_Clip_byte x.1 x.2 h) := by kernel_rfl
theorem ok_52 : E_52.ok Go.Proofs.Ytaebjajbogedkaa.Ov.D := fun x h y h' e => runFK_ok (lstK_ok [E_70, E_80, E_69] (List.forall_mem_cons.2 ⟨ok_70, List.forall_mem_cons.2 ⟨ok_80, List.forall_mem_cons.2 ⟨ok_69, fun E h => nomatch h⟩⟩⟩)) (A := ann_52) (by kernel_rfl) (show Go.Proofs.Ytaebjajbogedkaa.Ov.D.fn.get 52 = some Try.f52 by kernel_rfl) (show Try.f52.body = some (Try.f52.body.getD .skip) by kernel_rfl) ((congrFun (congrFun (eq_52 slices_Clone_byte varint_kind slices_Clip_byte) x) h).trans e)
/-! head_Lay -/
noncomputable def P.head_Lay (slices_Concat_byte : Sl → H → Option ((Sl) × H)) (head_Right : (Int × Int × Int × Int × Int) → H → Option ((Bool) × H)) (head_bounds : (Int × Int × Int × Int × Int) → H → Option ((Int × Int) × H)) (varint_Put : Sl → Sl → H → Option ((Sl) × H)) (h0 : Int × Int × Int × Int × Int) (parts : Sl) (h : H) : Option (Sl × H) :=
  newO (row 67 [(.int .i64 h0.1), (.int .i64 h0.2.1), (.int .i64 h0.2.2.1), (.int .i64 h0.2.2.2.1), (.int .i64 h0.2.2.2.2)]) h fun (b : Nat) (h1 : H) =>
  bind2 (slices_Concat_byte parts h1) fun (x0 : Sl) (h2 : H) =>
  bindO (ldZ [.int .i64, .int .i64, .int .i64, .int .i64, .int .i64] h2 (⟨b, 0, (some 0)⟩ : Addr)) fun ((x1, x2, x3, x4, x5) : Int × Int × Int × Int × Int) =>
  bind2 (head_Right (x1, x2, x3, x4, x5) h2) fun (x6 : Bool) (h3 : H) =>
  condK (!x6) (
    some ((⟨none, 0, 0⟩ : Sl), h3)) (
    bindO (ldZ [.int .i64, .int .i64, .int .i64, .int .i64, .int .i64] h3 (⟨b, 0, (some 0)⟩ : Addr)) fun ((x7, x8, x9, x10, x11) : Int × Int × Int × Int × Int) =>
    bind2 (head_bounds (x7, x8, x9, x10, x11) h3) fun ((x12, x13) : Int × Int) (h4 : H) =>
    condK (((x0.len : Nat) : Int) != (IntKind.wrap .i64 (x13 - x12))) (
      some ((⟨none, 0, 0⟩ : Sl), h4)) (
      bindO (ldI .i64 h4 (add (⟨b, 0, (some 0)⟩ : Addr) 0)) fun (x14 : Int) =>
      bindO (ldI .i64 h4 (add (⟨b, 0, (some 0)⟩ : Addr) 1)) fun (x15 : Int) =>
      bindO (ldI .i64 h4 (add (⟨b, 0, (some 0)⟩ : Addr) 2)) fun (x16 : Int) =>
      bindO (ldI .i64 h4 (add (⟨b, 0, (some 0)⟩ : Addr) 3)) fun (x17 : Int) =>
      bindO (ldI .i64 h4 (add (⟨b, 0, (some 0)⟩ : Addr) 4)) fun (x18 : Int) =>
      newO (row 3 [(.int .i64 x14), (.int .i64 x15), (.int .i64 x16), (.int .i64 x17), (.int .i64 x18)]) h4 fun (b1 : Nat) (h5 : H) =>
      bind2 (varint_Put (⟨none, 0, 0⟩ : Sl) (⟨(some (⟨b1, 0, (some 0)⟩ : Addr)), 5, 5⟩ : Sl) h5) fun (x19 : Sl) (h6 : H) =>
      newO (row 29 [(.slice x19.base x19.len x19.cap), (.slice x0.base x0.len x0.cap)]) h6 fun (b2 : Nat) (h7 : H) =>
      bind2 (slices_Concat_byte (⟨(some (⟨b2, 0, (some 0)⟩ : Addr)), 2, 2⟩ : Sl) h7) fun (x20 : Sl) (h8 : H) =>
      some (x20, h8)))
noncomputable def head_Lay : (Int × Int × Int × Int × Int) → Sl → H → Option ((Sl) × H) := P.head_Lay slices_Concat_byte head_Right head_bounds varint_Put
noncomputable def ann_30 : Ann := ⟨fun _ => none, fun _ => none, fun _ => none⟩
noncomputable def E_30 : Ent := ⟨30, [⟨true, [.int .i64, .int .i64, .int .i64, .int .i64, .int .i64]⟩, ⟨false, [.sl]⟩], [⟨false, [.sl]⟩], fun (x : ((Int × Int × Int × Int × Int)) × Sl) h => head_Lay x.1 x.2 h⟩
theorem eq_30 (slices_Concat_byte : Sl → H → Option ((Sl) × H)) (head_Right : (Int × Int × Int × Int × Int) → H → Option ((Bool) × H)) (head_bounds : (Int × Int × Int × Int × Int) → H → Option ((Int × Int) × H)) (varint_Put : Sl → Sl → H → Option ((Sl) × H)) : (fun (x : PT E_30.ps) (h : H) => runFK Go.Proofs.Ytaebjajbogedkaa.Ov.D (lstK [⟨49, [⟨false, [.sl]⟩], [⟨false, [.sl]⟩], fun (x : Sl) h => slices_Concat_byte x h⟩, ⟨50, [⟨true, [.int .i64, .int .i64, .int .i64, .int .i64, .int .i64]⟩], [⟨false, [.bool]⟩], fun (x : (Int × Int × Int × Int × Int)) h => head_Right x h⟩, ⟨51, [⟨true, [.int .i64, .int .i64, .int .i64, .int .i64, .int .i64]⟩], [⟨false, [.int .i64]⟩, ⟨false, [.int .i64]⟩], fun (x : (Int × Int × Int × Int × Int)) h => head_bounds x h⟩, ⟨52, [⟨false, [.sl]⟩, ⟨false, [.sl]⟩], [⟨false, [.sl]⟩], fun (x : Sl × Sl) h => varint_Put x.1 x.2 h⟩]) ann_30 Try.f30 (Try.f30.body.getD .skip) E_30.ys (encP E_30.ps x) h) = (fun (x : ((Int × Int × Int × Int × Int)) × Sl) h => P.head_Lay slices_Concat_byte head_Right head_bounds varint_Put x.1 x.2 h) := by kernel_rfl
theorem ok_30 : E_30.ok Go.Proofs.Ytaebjajbogedkaa.Ov.D := fun x h y h' e => runFK_ok (lstK_ok [E_49, E_50, E_51, E_52] (List.forall_mem_cons.2 ⟨ok_49, List.forall_mem_cons.2 ⟨ok_50, List.forall_mem_cons.2 ⟨ok_51, List.forall_mem_cons.2 ⟨ok_52, fun E h => nomatch h⟩⟩⟩⟩)) (A := ann_30) (by kernel_rfl) (show Go.Proofs.Ytaebjajbogedkaa.Ov.D.fn.get 30 = some Try.f30 by kernel_rfl) (show Try.f30.body = some (Try.f30.body.getD .skip) by kernel_rfl) ((congrFun (congrFun (eq_30 slices_Concat_byte head_Right head_bounds varint_Put) x) h).trans e)
/-! varint_Take -/
noncomputable def P.varint_Take_l1 (slices_Clone_byte : Sl → H → Option ((Sl) × H)) : ((Sl × (Int × (Int × (Sl × (Int × Int))))) × H) → Option (((Sl × (Int × (Int × (Sl × (Int × Int))))) × H) ⊕ (((Sl × (Int × Int)) × H) ⊕ ((Int × (Sl × Int)) × H))) := fun ((b, (n, (size, (x0, (x1, x2))))), h0) =>
  condK (decide ((x2 < x1))) (
    bindO (ixT 1 x0 x2) fun (a0 : Addr) =>
    bindO (ldI .u8 h0 a0) fun (x3 : Int) =>
    letO ((IntKind.wrap .i64 (((BitVec.toNat ((BitVec.ofInt 64 (IntKind.wrap .i64 (n * 256))) ||| (BitVec.ofInt 64 (IntKind.wrap .i64 x3)))) : Nat) : Int))) fun (x4 : Int) =>
    some (Sum.inl ((b, (x4, (size, (x0, (x1, (IntKind.wrap .i64 (x2 + 1))))))), h0))) (
    some (Sum.inr (Sum.inl ((b, (n, size)), h0))))

noncomputable def P.varint_Take (slices_Clone_byte : Sl → H → Option ((Sl) × H)) (b : Sl) (h : H) : Option ((Int × Sl × Int) × H) :=
  joinO (
    condK (((b.len : Nat) : Int) == 0) (
      some (Sum.inl ((b, true), h))) (
      bindO (ixT 1 b 0) fun (a0 : Addr) =>
      bindO (ldI .u8 h a0) fun (x0 : Int) =>
      bindO (shlT .i64 1 .u8 (Int.fdiv x0 64)) fun (x1 : Int) =>
      some (Sum.inl ((b, (decide ((((b.len : Nat) : Int) < x1)))), h)))) fun (((b1, x0), h0) : ((Sl × Bool) × H)) =>
  condK x0 (
    some ((0, ((⟨none, 0, 0⟩ : Sl), 3)), h0)) (
    bindO (ixT 1 b1 0) fun (a0 : Addr) =>
    bindO (ldI .u8 h0 a0) fun (x1 : Int) =>
    bindO (shlT .i64 1 .u8 (Int.fdiv x1 64)) fun (x2 : Int) =>
    bindO (ixT 1 b1 0) fun (a1 : Addr) =>
    bindO (ldI .u8 h0 a1) fun (x3 : Int) =>
    letO ((IntKind.wrap .u8 (((BitVec.toNat ((BitVec.ofInt 8 x3) &&& (BitVec.ofInt 8 63))) : Nat) : Int))) fun (x4 : Int) =>
    joinO (
      bindO (slT 1 h0 b1 (some 1) (some x2) none) fun (x5 : Sl) =>
      loopO (P.varint_Take_l1 slices_Clone_byte) ((b1, ((IntKind.wrap .i64 x4), (x2, (x5, (((x5.len : Nat) : Int), 0))))), h0)) fun (((b2, (n, size)), h1) : ((Sl × (Int × Int)) × H)) =>
    bindO (slT 1 h1 b2 (some size) none none) fun (x5 : Sl) =>
    bind2 (slices_Clone_byte x5 h1) fun (x6 : Sl) (h2 : H) =>
    some ((n, (x6, 0)), h2))
noncomputable abbrev varint_Take_l1 := P.varint_Take_l1 slices_Clone_byte
noncomputable def varint_Take : Sl → H → Option ((Int × Sl × Int) × H) := P.varint_Take slices_Clone_byte
noncomputable def ann_96 : Ann := ⟨fun i => bif i.beq 10 then some ⟨[0, 2, 5], [⟨false, [.sl]⟩, ⟨false, [.int .i64]⟩, ⟨false, [.int .i64]⟩]⟩ else none, fun i => bif i.beq 6 then some ⟨[0, 2, 5, 33, 34, 35], [⟨false, [.sl]⟩, ⟨false, [.int .i64]⟩, ⟨false, [.int .i64]⟩, ⟨false, [.sl]⟩, ⟨false, [.int .i64]⟩, ⟨false, [.int .i64]⟩]⟩ else none, fun i => bif i.beq 1 then some ⟨[0, 20], [⟨false, [.sl]⟩, ⟨false, [.bool]⟩]⟩ else none⟩
noncomputable def E_96 : Ent := ⟨96, [⟨false, [.sl]⟩], [⟨false, [.int .i64]⟩, ⟨false, [.sl]⟩, ⟨false, [.int .i64]⟩], fun (x : Sl) h => varint_Take x h⟩
theorem eq_96 (slices_Clone_byte : Sl → H → Option ((Sl) × H)) : (fun (x : PT E_96.ps) (h : H) => runFK Go.Proofs.Ytaebjajbogedkaa.Ov.D (lstK [⟨70, [⟨false, [.sl]⟩], [⟨false, [.sl]⟩], fun (x : Sl) h => slices_Clone_byte x h⟩]) ann_96 Try.f96 (Try.f96.body.getD .skip) E_96.ys (encP E_96.ps x) h) = (fun (x : Sl) h => P.varint_Take slices_Clone_byte x h) := by kernel_rfl
theorem ok_96 : E_96.ok Go.Proofs.Ytaebjajbogedkaa.Ov.D := fun x h y h' e => runFK_ok (lstK_ok [E_70] (List.forall_mem_cons.2 ⟨ok_70, fun E h => nomatch h⟩)) (A := ann_96) (by kernel_rfl) (show Go.Proofs.Ytaebjajbogedkaa.Ov.D.fn.get 96 = some Try.f96 by kernel_rfl) (show Try.f96.body = some (Try.f96.body.getD .skip) by kernel_rfl) ((congrFun (congrFun (eq_96 slices_Clone_byte) x) h).trans e)
/-! slices_Clip_int -/
noncomputable def slices_Clip_int (s : Sl) (h : H) : Option (Sl × H) :=
  bindO (slT 1 h s none (some ((s.len : Nat) : Int)) (some ((s.len : Nat) : Int))) fun (x0 : Sl) =>
  some (x0, h)
noncomputable def ann_85 : Ann := ⟨fun _ => none, fun _ => none, fun _ => none⟩
noncomputable def E_85 : Ent := ⟨85, [⟨false, [.sl]⟩], [⟨false, [.sl]⟩], fun (x : Sl) h => slices_Clip_int x h⟩
theorem eq_85  : (fun (x : PT E_85.ps) (h : H) => runFK Go.Proofs.Ytaebjajbogedkaa.Ov.D (lstK []) ann_85 Try.f85 (Try.f85.body.getD .skip) E_85.ys (encP E_85.ps x) h) = (fun (x : Sl) h => slices_Clip_int x h) := by kernel_rfl
theorem ok_85 : E_85.ok Go.Proofs.Ytaebjajbogedkaa.Ov.D := fun x h y h' e => runFK_ok (lstK_ok [] (fun E h => nomatch h)) (A := ann_85) (by kernel_rfl) (show Go.Proofs.Ytaebjajbogedkaa.Ov.D.fn.get 85 = some Try.f85 by kernel_rfl) (show Try.f85.body = some (Try.f85.body.getD .skip) by kernel_rfl) ((congrFun (congrFun (eq_85 ) x) h).trans e)
/-! varint_Takes -/
noncomputable def P.varint_Takes_l1 (slices_Clone_byte : Sl → H → Option ((Sl) × H)) (varint_Take : Sl → H → Option ((Int × Sl × Int) × H)) (slices_Clip_int : Sl → H → Option ((Sl) × H)) : ((Sl × (Sl × (Int × Int))) × H) → Option (((Sl × (Sl × (Int × Int))) × H) ⊕ (((Sl × Sl) × H) ⊕ ((Sl × (Sl × Int)) × H))) := fun ((l, (rest, (x0, x1))), h0) =>
  condK (decide ((x1 < x0))) (
    bind2 (varint_Take rest h0) fun ((x2, x3, x4) : Int × Sl × Int) (h1 : H) =>
    condK (x4 != 0) (
      some (Sum.inr (Sum.inr (((⟨none, 0, 0⟩ : Sl), ((⟨none, 0, 0⟩ : Sl), x4)), h1)))) (
      newO (row 3 [(.int .i64 x2)]) h1 fun (b : Nat) (h2 : H) =>
      bind2 (appT 3 1 8 h2 l (⟨(some (⟨b, 0, (some 0)⟩ : Addr)), 1, 1⟩ : Sl)) fun (x5 : Sl) (h3 : H) =>
      some (Sum.inl ((x5, (x3, (x0, (IntKind.wrap .i64 (x1 + 1))))), h3)))) (
    some (Sum.inr (Sum.inl ((l, rest), h0))))

noncomputable def P.varint_Takes (slices_Clone_byte : Sl → H → Option ((Sl) × H)) (varint_Take : Sl → H → Option ((Int × Sl × Int) × H)) (slices_Clip_int : Sl → H → Option ((Sl) × H)) (b : Sl) (count : Int) (h : H) : Option ((Sl × Sl × Int) × H) :=
  bind2 (slices_Clone_byte b h) fun (x0 : Sl) (h0 : H) =>
  joinO (
    loopO (P.varint_Takes_l1 slices_Clone_byte varint_Take slices_Clip_int) (((⟨none, 0, 0⟩ : Sl), (x0, ((if (count > 0) then count else 0), 0))), h0)) fun (((l, rest), h1) : ((Sl × Sl) × H)) =>
  bind2 (slices_Clip_int l h1) fun (x1 : Sl) (h2 : H) =>
  some ((x1, (rest, 0)), h2)
noncomputable abbrev varint_Takes_l1 := P.varint_Takes_l1 slices_Clone_byte varint_Take slices_Clip_int
noncomputable def varint_Takes : Sl → Int → H → Option ((Sl × Sl × Int) × H) := P.varint_Takes slices_Clone_byte varint_Take slices_Clip_int
noncomputable def ann_83 : Ann := ⟨fun i => bif i.beq 10 then some ⟨[4, 5], [⟨false, [.sl]⟩, ⟨false, [.sl]⟩]⟩ else none, fun i => bif i.beq 3 then some ⟨[4, 5, 11, 12], [⟨false, [.sl]⟩, ⟨false, [.sl]⟩, ⟨false, [.int .i64]⟩, ⟨false, [.int .i64]⟩]⟩ else none, fun _ => none⟩
noncomputable def E_83 : Ent := ⟨83, [⟨false, [.sl]⟩, ⟨false, [.int .i64]⟩], [⟨false, [.sl]⟩, ⟨false, [.sl]⟩, ⟨false, [.int .i64]⟩], fun (x : Sl × Int) h => varint_Takes x.1 x.2 h⟩
theorem eq_83 (slices_Clone_byte : Sl → H → Option ((Sl) × H)) (varint_Take : Sl → H → Option ((Int × Sl × Int) × H)) (slices_Clip_int : Sl → H → Option ((Sl) × H)) : (fun (x : PT E_83.ps) (h : H) => runFK Go.Proofs.Ytaebjajbogedkaa.Ov.D (lstK [⟨70, [⟨false, [.sl]⟩], [⟨false, [.sl]⟩], fun (x : Sl) h => slices_Clone_byte x h⟩, ⟨96, [⟨false, [.sl]⟩], [⟨false, [.int .i64]⟩, ⟨false, [.sl]⟩, ⟨false, [.int .i64]⟩], fun (x : Sl) h => varint_Take x h⟩, ⟨85, [⟨false, [.sl]⟩], [⟨false, [.sl]⟩], fun (x : Sl) h => slices_Clip_int x h⟩]) ann_83 Try.f83 (Try.f83.body.getD .skip) E_83.ys (encP E_83.ps x) h) = (fun (x : Sl × Int) h => P.varint_Takes slices_Clone_byte varint_Take slices_Clip_int x.1 x.2 h) := by kernel_rfl
theorem ok_83 : E_83.ok Go.Proofs.Ytaebjajbogedkaa.Ov.D := fun x h y h' e => runFK_ok (lstK_ok [E_70, E_96, E_85] (List.forall_mem_cons.2 ⟨ok_70, List.forall_mem_cons.2 ⟨ok_96, List.forall_mem_cons.2 ⟨ok_85, fun E h => nomatch h⟩⟩⟩)) (A := ann_83) (by kernel_rfl) (show Go.Proofs.Ytaebjajbogedkaa.Ov.D.fn.get 83 = some Try.f83 by kernel_rfl) (show Try.f83.body = some (Try.f83.body.getD .skip) by kernel_rfl) ((congrFun (congrFun (eq_83 slices_Clone_byte varint_Take slices_Clip_int) x) h).trans e)
/-! head_Read -/
noncomputable def P.head_Read (varint_Takes : Sl → Int → H → Option ((Sl × Sl × Int) × H)) (head_Right : (Int × Int × Int × Int × Int) → H → Option ((Bool) × H)) (head_bounds : (Int × Int × Int × Int × Int) → H → Option ((Int × Int) × H)) (b : Sl) (h : H) : Option (((Int × Int × Int × Int × Int) × Sl × Int) × H) :=
  newO (row 67 [(.int .i64 0), (.int .i64 0), (.int .i64 0), (.int .i64 0), (.int .i64 0)]) h fun (b1 : Nat) (h0 : H) =>
  bind2 (varint_Takes b 5 h0) fun ((x0, x1, x2) : Sl × Sl × Int) (h1 : H) =>
  condK (x2 != 0) (
    bindO (stZ [.int .i64, .int .i64, .int .i64, .int .i64, .int .i64] h1 (⟨b1, 0, (some 0)⟩ : Addr) ((0, 0, 0, 0, 0) : Int × Int × Int × Int × Int)) fun (h2 : H) =>
    bindO (ldZ [.int .i64, .int .i64, .int .i64, .int .i64, .int .i64] h2 (⟨b1, 0, (some 0)⟩ : Addr)) fun ((x3, x4, x5, x6, x7) : Int × Int × Int × Int × Int) =>
    some (((x3, (x4, (x5, (x6, x7)))), ((⟨none, 0, 0⟩ : Sl), x2)), h2)) (
    letH (growIf h1 18) fun (h3 : H) =>
    bindO (ixT 1 x0 0) fun (a0 : Addr) =>
    bindO (ldI .i64 h3 a0) fun (x8 : Int) =>
    bindO (ixT 1 x0 1) fun (a1 : Addr) =>
    bindO (ldI .i64 h3 a1) fun (x9 : Int) =>
    bindO (ixT 1 x0 2) fun (a2 : Addr) =>
    bindO (ldI .i64 h3 a2) fun (x10 : Int) =>
    bindO (ixT 1 x0 3) fun (a3 : Addr) =>
    bindO (ldI .i64 h3 a3) fun (x11 : Int) =>
    bindO (ixT 1 x0 4) fun (a4 : Addr) =>
    bindO (ldI .i64 h3 a4) fun (x12 : Int) =>
    letH (addP 131071 h1.size [(16, (row 67 [(.int .i64 0), (.int .i64 0), (.int .i64 0), (.int .i64 0), (.int .i64 0)]))] h3) fun (h4 : H) =>
    bindO (stZ [.int .i64, .int .i64, .int .i64, .int .i64, .int .i64] h4 (⟨(h1.size + 16), 0, (some 0)⟩ : Addr) ((x8, x9, x10, x11, x12) : Int × Int × Int × Int × Int)) fun (h5 : H) =>
    letH (addP 262143 h1.size [(16, (row 67 [(.int .i64 0), (.int .i64 0), (.int .i64 0), (.int .i64 0), (.int .i64 0)]))] h5) fun (h6 : H) =>
    letH (tickIf 18 h6) fun (h7 : H) =>
    bindO (ldZ [.int .i64, .int .i64, .int .i64, .int .i64, .int .i64] h7 (⟨(h1.size + 16), 0, (some 0)⟩ : Addr)) fun ((x13, x14, x15, x16, x17) : Int × Int × Int × Int × Int) =>
    bind2 (head_Right (x13, x14, x15, x16, x17) h7) fun (x18 : Bool) (h8 : H) =>
    condK (!x18) (
      bindO (stZ [.int .i64, .int .i64, .int .i64, .int .i64, .int .i64] h8 (⟨b1, 0, (some 0)⟩ : Addr) ((0, 0, 0, 0, 0) : Int × Int × Int × Int × Int)) fun (h9 : H) =>
      bindO (ldZ [.int .i64, .int .i64, .int .i64, .int .i64, .int .i64] h9 (⟨b1, 0, (some 0)⟩ : Addr)) fun ((x19, x20, x21, x22, x23) : Int × Int × Int × Int × Int) =>
      some (((x19, (x20, (x21, (x22, x23)))), ((⟨none, 0, 0⟩ : Sl), 2)), h9)) (
      bindO (ldZ [.int .i64, .int .i64, .int .i64, .int .i64, .int .i64] h8 (⟨(h1.size + 16), 0, (some 0)⟩ : Addr)) fun ((x24, x25, x26, x27, x28) : Int × Int × Int × Int × Int) =>
      bind2 (head_bounds (x24, x25, x26, x27, x28) h8) fun ((x29, x30) : Int × Int) (h10 : H) =>
      condK (((x1.len : Nat) : Int) != (IntKind.wrap .i64 (x30 - x29))) (
        bindO (stZ [.int .i64, .int .i64, .int .i64, .int .i64, .int .i64] h10 (⟨b1, 0, (some 0)⟩ : Addr) ((0, 0, 0, 0, 0) : Int × Int × Int × Int × Int)) fun (h11 : H) =>
        bindO (ldZ [.int .i64, .int .i64, .int .i64, .int .i64, .int .i64] h11 (⟨b1, 0, (some 0)⟩ : Addr)) fun ((x31, x32, x33, x34, x35) : Int × Int × Int × Int × Int) =>
        some (((x31, (x32, (x33, (x34, x35)))), ((⟨none, 0, 0⟩ : Sl), 2)), h11)) (
        bindO (ldZ [.int .i64, .int .i64, .int .i64, .int .i64, .int .i64] h10 (⟨(h1.size + 16), 0, (some 0)⟩ : Addr)) fun ((x36, x37, x38, x39, x40) : Int × Int × Int × Int × Int) =>
        bindO (stZ [.int .i64, .int .i64, .int .i64, .int .i64, .int .i64] h10 (⟨b1, 0, (some 0)⟩ : Addr) ((x36, x37, x38, x39, x40) : Int × Int × Int × Int × Int)) fun (h12 : H) =>
        bindO (ldZ [.int .i64, .int .i64, .int .i64, .int .i64, .int .i64] h12 (⟨b1, 0, (some 0)⟩ : Addr)) fun ((x41, x42, x43, x44, x45) : Int × Int × Int × Int × Int) =>
        some (((x41, (x42, (x43, (x44, x45)))), (x1, 0)), h12))))
noncomputable def head_Read : Sl → H → Option ((((Int × Int × Int × Int × Int)) × Sl × Int) × H) := P.head_Read varint_Takes head_Right head_bounds
noncomputable def ann_54 : Ann := ⟨fun _ => none, fun _ => none, fun _ => none⟩
noncomputable def E_54 : Ent := ⟨54, [⟨false, [.sl]⟩], [⟨true, [.int .i64, .int .i64, .int .i64, .int .i64, .int .i64]⟩, ⟨false, [.sl]⟩, ⟨false, [.int .i64]⟩], fun (x : Sl) h => head_Read x h⟩
theorem eq_54 (varint_Takes : Sl → Int → H → Option ((Sl × Sl × Int) × H)) (head_Right : (Int × Int × Int × Int × Int) → H → Option ((Bool) × H)) (head_bounds : (Int × Int × Int × Int × Int) → H → Option ((Int × Int) × H)) : (fun (x : PT E_54.ps) (h : H) => runFK Go.Proofs.Ytaebjajbogedkaa.Ov.D (lstK [⟨83, [⟨false, [.sl]⟩, ⟨false, [.int .i64]⟩], [⟨false, [.sl]⟩, ⟨false, [.sl]⟩, ⟨false, [.int .i64]⟩], fun (x : Sl × Int) h => varint_Takes x.1 x.2 h⟩, ⟨50, [⟨true, [.int .i64, .int .i64, .int .i64, .int .i64, .int .i64]⟩], [⟨false, [.bool]⟩], fun (x : (Int × Int × Int × Int × Int)) h => head_Right x h⟩, ⟨51, [⟨true, [.int .i64, .int .i64, .int .i64, .int .i64, .int .i64]⟩], [⟨false, [.int .i64]⟩, ⟨false, [.int .i64]⟩], fun (x : (Int × Int × Int × Int × Int)) h => head_bounds x h⟩]) ann_54 Try.f54 (Try.f54.body.getD .skip) E_54.ys (encP E_54.ps x) h) = (fun (x : Sl) h => P.head_Read varint_Takes head_Right head_bounds x h) := by kernel_rfl
theorem ok_54 : E_54.ok Go.Proofs.Ytaebjajbogedkaa.Ov.D := fun x h y h' e => runFK_ok (lstK_ok [E_83, E_50, E_51] (List.forall_mem_cons.2 ⟨ok_83, List.forall_mem_cons.2 ⟨ok_50, List.forall_mem_cons.2 ⟨ok_51, fun E h => nomatch h⟩⟩⟩)) (A := ann_54) (by kernel_rfl) (show Go.Proofs.Ytaebjajbogedkaa.Ov.D.fn.get 54 = some Try.f54 by kernel_rfl) (show Try.f54.body = some (Try.f54.body.getD .skip) by kernel_rfl) ((congrFun (congrFun (eq_54 varint_Takes head_Right head_bounds) x) h).trans e)
/-! spans_Set_Has_1 -/
noncomputable def spans_Set_Has_1 (r : Int × Int) (x0 : Option Addr) (h : H) : Option (Bool × H) :=
  newO (row 100 [(.int .i64 r.1), (.int .i64 r.2)]) h fun (b : Nat) (h0 : H) =>
  bindO (ixAT 2 1 (⟨b, 0, (some 0)⟩ : Addr) 0) fun (a0 : Addr) =>
  bindO (ldI .i64 h0 a0) fun (x1 : Int) =>
  ptrK x0 fun (a1 : Addr) =>
  bindO (ldI .i64 h0 a1) fun (x2 : Int) =>
  condK (decide ((x1 ≤ x2))) (
    ptrK x0 fun (a2 : Addr) =>
    bindO (ldI .i64 h0 a2) fun (x3 : Int) =>
    bindO (ixAT 2 1 (⟨b, 0, (some 0)⟩ : Addr) 1) fun (a3 : Addr) =>
    bindO (ldI .i64 h0 a3) fun (x4 : Int) =>
    some ((decide ((x3 < x4))), h0)) (
    some (false, h0))
noncomputable def ann_62 : Ann := ⟨fun _ => none, fun _ => none, fun _ => none⟩
noncomputable def E_62 : Ent := ⟨62, [⟨true, [.int .i64, .int .i64]⟩, ⟨false, [.ptr]⟩], [⟨false, [.bool]⟩], fun (x : ((Int × Int)) × Option Addr) h => spans_Set_Has_1 x.1 x.2 h⟩
theorem eq_62  : (fun (x : PT E_62.ps) (h : H) => runFK Go.Proofs.Ytaebjajbogedkaa.Ov.D (lstK []) ann_62 Try.f62 (Try.f62.body.getD .skip) E_62.ys (encP E_62.ps x) h) = (fun (x : ((Int × Int)) × Option Addr) h => spans_Set_Has_1 x.1 x.2 h) := by kernel_rfl
theorem ok_62 : E_62.ok Go.Proofs.Ytaebjajbogedkaa.Ov.D := fun x h y h' e => runFK_ok (lstK_ok [] (fun E h => nomatch h)) (A := ann_62) (by kernel_rfl) (show Go.Proofs.Ytaebjajbogedkaa.Ov.D.fn.get 62 = some Try.f62 by kernel_rfl) (show Try.f62.body = some (Try.f62.body.getD .skip) by kernel_rfl) ((congrFun (congrFun (eq_62 ) x) h).trans e)
/-! slices_IndexFunc_2_int_2_int_spans_Set_Has_1 -/
noncomputable def P.slices_IndexFunc_2_int_2_int_spans_Set_Has_1_l1 (spans_Set_Has_1 : (Int × Int) → Option Addr → H → Option ((Bool) × H)) : ((Sl × ((Option Addr) × (Int × Int))) × H) → Option (((Sl × ((Option Addr) × (Int × Int))) × H) ⊕ (Int × H)) := fun ((s, (f, (x0, x1))), h0) =>
  condK (decide ((x1 < x0))) (
    bindO (ixT 2 s x1) fun (a0 : Addr) =>
    bindO (ldZ [.int .i64, .int .i64] h0 a0) fun ((x2, x3) : Int × Int) =>
    bind2 (spans_Set_Has_1 (x2, x3) f h0) fun (x4 : Bool) (h1 : H) =>
    condK x4 (
      some (Sum.inr (x1, h1))) (
      some (Sum.inl ((s, (f, (x0, (IntKind.wrap .i64 (x1 + 1))))), h1)))) (
    some (Sum.inr ((-1), h0)))

noncomputable def P.slices_IndexFunc_2_int_2_int_spans_Set_Has_1 (spans_Set_Has_1 : (Int × Int) → Option Addr → H → Option ((Bool) × H)) (s : Sl) (f : Option Addr) (h : H) : Option (Int × H) :=
  loopO (P.slices_IndexFunc_2_int_2_int_spans_Set_Has_1_l1 spans_Set_Has_1) ((s, (f, (((s.len : Nat) : Int), 0))), h)
noncomputable abbrev slices_IndexFunc_2_int_2_int_spans_Set_Has_1_l1 := P.slices_IndexFunc_2_int_2_int_spans_Set_Has_1_l1 spans_Set_Has_1
noncomputable def slices_IndexFunc_2_int_2_int_spans_Set_Has_1 : Sl → Option Addr → H → Option ((Int) × H) := P.slices_IndexFunc_2_int_2_int_spans_Set_Has_1 spans_Set_Has_1
noncomputable def ann_84c62 : Ann := ⟨fun _ => none, fun i => bif i.beq 2 then some ⟨[0, 1, 7, 8], [⟨false, [.sl]⟩, ⟨false, [.clo 62 1]⟩, ⟨false, [.int .i64]⟩, ⟨false, [.int .i64]⟩]⟩ else none, fun _ => none⟩
noncomputable def E_84c62 : Ent := ⟨84, [⟨false, [.sl]⟩, ⟨false, [.clo 62 1]⟩], [⟨false, [.int .i64]⟩], fun (x : Sl × Option Addr) h => slices_IndexFunc_2_int_2_int_spans_Set_Has_1 x.1 x.2 h⟩
theorem eq_84c62 (spans_Set_Has_1 : (Int × Int) → Option Addr → H → Option ((Bool) × H)) : (fun (x : PT E_84c62.ps) (h : H) => runFK Go.Proofs.Ytaebjajbogedkaa.Ov.D (lstK [⟨62, [⟨true, [.int .i64, .int .i64]⟩, ⟨false, [.ptr]⟩], [⟨false, [.bool]⟩], fun (x : ((Int × Int)) × Option Addr) h => spans_Set_Has_1 x.1 x.2 h⟩]) ann_84c62 Try.f84 (Try.f84.body.getD .skip) E_84c62.ys (encP E_84c62.ps x) h) = (fun (x : Sl × Option Addr) h => P.slices_IndexFunc_2_int_2_int_spans_Set_Has_1 spans_Set_Has_1 x.1 x.2 h) := by kernel_rfl
theorem ok_84c62 : E_84c62.ok Go.Proofs.Ytaebjajbogedkaa.Ov.D := fun x h y h' e => runFK_ok (lstK_ok [E_62] (List.forall_mem_cons.2 ⟨ok_62, fun E h => nomatch h⟩)) (A := ann_84c62) (by kernel_rfl) (show Go.Proofs.Ytaebjajbogedkaa.Ov.D.fn.get 84 = some Try.f84 by kernel_rfl) (show Try.f84.body = some (Try.f84.body.getD .skip) by kernel_rfl) ((congrFun (congrFun (eq_84c62 spans_Set_Has_1) x) h).trans e)
/-! slices_ContainsFunc_2_int_2_int_spans_Set_Has_1 -/
noncomputable def P.slices_ContainsFunc_2_int_2_int_spans_Set_Has_1 (slices_IndexFunc_2_int_2_int_spans_Set_Has_1 : Sl → Option Addr → H → Option ((Int) × H)) (s : Sl) (f : Option Addr) (h : H) : Option (Bool × H) :=
  bind2 (slices_IndexFunc_2_int_2_int_spans_Set_Has_1 s f h) fun (x0 : Int) (h0 : H) =>
  some ((decide ((x0 ≥ 0))), h0)
noncomputable def slices_ContainsFunc_2_int_2_int_spans_Set_Has_1 : Sl → Option Addr → H → Option ((Bool) × H) := P.slices_ContainsFunc_2_int_2_int_spans_Set_Has_1 slices_IndexFunc_2_int_2_int_spans_Set_Has_1
noncomputable def ann_61c62 : Ann := ⟨fun _ => none, fun _ => none, fun _ => none⟩
noncomputable def E_61c62 : Ent := ⟨61, [⟨false, [.sl]⟩, ⟨false, [.clo 62 1]⟩], [⟨false, [.bool]⟩], fun (x : Sl × Option Addr) h => slices_ContainsFunc_2_int_2_int_spans_Set_Has_1 x.1 x.2 h⟩
theorem eq_61c62 (slices_IndexFunc_2_int_2_int_spans_Set_Has_1 : Sl → Option Addr → H → Option ((Int) × H)) : (fun (x : PT E_61c62.ps) (h : H) => runFK Go.Proofs.Ytaebjajbogedkaa.Ov.D (lstK [⟨84, [⟨false, [.sl]⟩, ⟨false, [.clo 62 1]⟩], [⟨false, [.int .i64]⟩], fun (x : Sl × Option Addr) h => slices_IndexFunc_2_int_2_int_spans_Set_Has_1 x.1 x.2 h⟩]) ann_61c62 Try.f61 (Try.f61.body.getD .skip) E_61c62.ys (encP E_61c62.ps x) h) = (fun (x : Sl × Option Addr) h => P.slices_ContainsFunc_2_int_2_int_spans_Set_Has_1 slices_IndexFunc_2_int_2_int_spans_Set_Has_1 x.1 x.2 h) := by kernel_rfl
theorem ok_61c62 : E_61c62.ok Go.Proofs.Ytaebjajbogedkaa.Ov.D := fun x h y h' e => runFK_ok (lstK_ok [E_84c62] (List.forall_mem_cons.2 ⟨ok_84c62, fun E h => nomatch h⟩)) (A := ann_61c62) (by kernel_rfl) (show Go.Proofs.Ytaebjajbogedkaa.Ov.D.fn.get 61 = some Try.f61 by kernel_rfl) (show Try.f61.body = some (Try.f61.body.getD .skip) by kernel_rfl) ((congrFun (congrFun (eq_61c62 slices_IndexFunc_2_int_2_int_spans_Set_Has_1) x) h).trans e)
/-! spans_Set_Has -/
noncomputable def P.spans_Set_Has (slices_ContainsFunc_2_int_2_int_spans_Set_Has_1 : Sl → Option Addr → H → Option ((Bool) × H)) (s : Option Addr) (n : Int) (h : H) : Option (Bool × H) :=
  newO (row 3 [(.int .i64 n)]) h fun (b : Nat) (h0 : H) =>
  ptrK s fun (a0 : Addr) =>
  bindO (ldL h0 (add a0 0)) fun (x0 : Sl) =>
  bind2 (slices_ContainsFunc_2_int_2_int_spans_Set_Has_1 x0 (some (⟨b, 0, (some 0)⟩ : Addr)) h0) fun (x1 : Bool) (h1 : H) =>
  some (x1, h1)
noncomputable def spans_Set_Has : Option Addr → Int → H → Option ((Bool) × H) := P.spans_Set_Has slices_ContainsFunc_2_int_2_int_spans_Set_Has_1
noncomputable def ann_34 : Ann := ⟨fun _ => none, fun _ => none, fun _ => none⟩
noncomputable def E_34 : Ent := ⟨34, [⟨false, [.ptr]⟩, ⟨false, [.int .i64]⟩], [⟨false, [.bool]⟩], fun (x : Option Addr × Int) h => spans_Set_Has x.1 x.2 h⟩
theorem eq_34 (slices_ContainsFunc_2_int_2_int_spans_Set_Has_1 : Sl → Option Addr → H → Option ((Bool) × H)) : (fun (x : PT E_34.ps) (h : H) => runFK Go.Proofs.Ytaebjajbogedkaa.Ov.D (lstK [⟨61, [⟨false, [.sl]⟩, ⟨false, [.clo 62 1]⟩], [⟨false, [.bool]⟩], fun (x : Sl × Option Addr) h => slices_ContainsFunc_2_int_2_int_spans_Set_Has_1 x.1 x.2 h⟩]) ann_34 Try.f34 (Try.f34.body.getD .skip) E_34.ys (encP E_34.ps x) h) = (fun (x : Option Addr × Int) h => P.spans_Set_Has slices_ContainsFunc_2_int_2_int_spans_Set_Has_1 x.1 x.2 h) := by kernel_rfl
theorem ok_34 : E_34.ok Go.Proofs.Ytaebjajbogedkaa.Ov.D := fun x h y h' e => runFK_ok (lstK_ok [E_61c62] (List.forall_mem_cons.2 ⟨ok_61c62, fun E h => nomatch h⟩)) (A := ann_34) (by kernel_rfl) (show Go.Proofs.Ytaebjajbogedkaa.Ov.D.fn.get 34 = some Try.f34 by kernel_rfl) (show Try.f34.body = some (Try.f34.body.getD .skip) by kernel_rfl) ((congrFun (congrFun (eq_34 slices_ContainsFunc_2_int_2_int_spans_Set_Has_1) x) h).trans e)
/-! inbox_Box_settle -/
noncomputable def P.inbox_Box_settle (spans_Set_Add : Option Addr → Int → Int → H → Option ((Unit) × H)) (b : Option Addr) (now : Int) (kind : Int) (id : Int) (bytes : Sl) (h : H) : Option ((Int × Int × Int × ByteArray) × H) :=
  newO (row 72 [(.int .i64 0), (.int .i64 0), (.int .i64 0), (.string (⟨#[]⟩ : ByteArray))]) h fun (b1 : Nat) (h0 : H) =>
  ptrK b fun (a0 : Addr) =>
  bind2 (spans_Set_Add (some (add a0 0)) id (IntKind.wrap .i64 (id + 1)) h0) fun (_ : Unit) (h1 : H) =>
  ptrK b fun (a1 : Addr) =>
  bindO (ldM h1 (add a1 1)) fun (x0 : Option Nat) =>
  bindO (delT .i64 h1 x0 id) fun (h2 : H) =>
  bind2 (strT h2 bytes) fun (x1 : ByteArray) (h3 : H) =>
  bindO (stZ [.int .i64, .int .i64, .int .i64, .str] h3 (⟨b1, 0, (some 0)⟩ : Addr) ((kind, id, now, x1) : Int × Int × Int × ByteArray)) fun (h4 : H) =>
  bindO (ldZ [.int .i64, .int .i64, .int .i64, .str] h4 (⟨b1, 0, (some 0)⟩ : Addr)) fun ((x2, x3, x4, x5) : Int × Int × Int × ByteArray) =>
  some ((x2, (x3, (x4, x5))), h4)
noncomputable def inbox_Box_settle : Option Addr → Int → Int → Int → Sl → H → Option (((Int × Int × Int × ByteArray)) × H) := P.inbox_Box_settle spans_Set_Add
noncomputable def ann_55 : Ann := ⟨fun _ => none, fun _ => none, fun _ => none⟩
noncomputable def E_55 : Ent := ⟨55, [⟨false, [.ptr]⟩, ⟨false, [.int .i64]⟩, ⟨false, [.int .i64]⟩, ⟨false, [.int .i64]⟩, ⟨false, [.sl]⟩], [⟨true, [.int .i64, .int .i64, .int .i64, .str]⟩], fun (x : Option Addr × Int × Int × Int × Sl) h => inbox_Box_settle x.1 x.2.1 x.2.2.1 x.2.2.2.1 x.2.2.2.2 h⟩
theorem eq_55 (spans_Set_Add : Option Addr → Int → Int → H → Option ((Unit) × H)) : (fun (x : PT E_55.ps) (h : H) => runFK Go.Proofs.Ytaebjajbogedkaa.Ov.D (lstK [⟨24, [⟨false, [.ptr]⟩, ⟨false, [.int .i64]⟩, ⟨false, [.int .i64]⟩], [], fun (x : Option Addr × Int × Int) h => spans_Set_Add x.1 x.2.1 x.2.2 h⟩]) ann_55 Try.f55 (Try.f55.body.getD .skip) E_55.ys (encP E_55.ps x) h) = (fun (x : Option Addr × Int × Int × Int × Sl) h => P.inbox_Box_settle spans_Set_Add x.1 x.2.1 x.2.2.1 x.2.2.2.1 x.2.2.2.2 h) := by kernel_rfl
theorem ok_55 : E_55.ok Go.Proofs.Ytaebjajbogedkaa.Ov.D := fun x h y h' e => runFK_ok (lstK_ok [E_24] (List.forall_mem_cons.2 ⟨ok_24, fun E h => nomatch h⟩)) (A := ann_55) (by kernel_rfl) (show Go.Proofs.Ytaebjajbogedkaa.Ov.D.fn.get 55 = some Try.f55 by kernel_rfl) (show Try.f55.body = some (Try.f55.body.getD .skip) by kernel_rfl) ((congrFun (congrFun (eq_55 spans_Set_Add) x) h).trans e)
/-! frags_New -/
noncomputable def P.frags_New (head_Right : (Int × Int × Int × Int × Int) → H → Option ((Bool) × H)) (h0 : Int × Int × Int × Int × Int) (h : H) : Option (Option Addr × H) :=
  newO (row 67 [(.int .i64 h0.1), (.int .i64 h0.2.1), (.int .i64 h0.2.2.1), (.int .i64 h0.2.2.2.1), (.int .i64 h0.2.2.2.2)]) h fun (b : Nat) (h1 : H) =>
  bindO (ldZ [.int .i64, .int .i64, .int .i64, .int .i64, .int .i64] h1 (⟨b, 0, (some 0)⟩ : Addr)) fun ((x0, x1, x2, x3, x4) : Int × Int × Int × Int × Int) =>
  bind2 (head_Right (x0, x1, x2, x3, x4) h1) fun (x5 : Bool) (h2 : H) =>
  condK (!x5) (
    some (none, h2)) (
    bindO (st1 h2 (add (⟨b, 0, (some 0)⟩ : Addr) 3) (.int .i64 0)) fun (h3 : H) =>
    letH (growIf h3 7) fun (h4 : H) =>
    bindO (ldZ [.int .i64, .int .i64, .int .i64, .int .i64, .int .i64] h4 (⟨b, 0, (some 0)⟩ : Addr)) fun ((x6, x7, x8, x9, x10) : Int × Int × Int × Int × Int) =>
    bindO (ldI .i64 h4 (add (⟨b, 0, (some 0)⟩ : Addr) 4)) fun (x11 : Int) =>
    condK (((decide ((0 ≤ x11))) && (decide ((x11 ≤ x11)))) && (decide (((x11 * 2) ≤ 70368744177664)))) (
      letO ((⟨(some (⟨(h3.size + 3), 0, (some 0)⟩ : Addr)), (Int.toNat x11), (Int.toNat x11)⟩ : Sl)) fun (x12 : Sl) =>
      letH (addP 127 h3.size [(3, (row 5 (zeros (.int .u8 0) (Int.toNat x11)))), (5, (row 144 [(.slice none 0 0), (.int .i64 x6), (.int .i64 x7), (.int .i64 x8), (.int .i64 x9), (.int .i64 x10), (.slice x12.base x12.len x12.cap)]))] h4) fun (h5 : H) =>
      letH (tickIf 7 h5) fun (h6 : H) =>
      some ((some (⟨(h3.size + 5), 0, (some 0)⟩ : Addr)), h6)) (
      none))
noncomputable def frags_New : (Int × Int × Int × Int × Int) → H → Option ((Option Addr) × H) := P.frags_New head_Right
noncomputable def ann_56 : Ann := ⟨fun _ => none, fun _ => none, fun _ => none⟩
noncomputable def E_56 : Ent := ⟨56, [⟨true, [.int .i64, .int .i64, .int .i64, .int .i64, .int .i64]⟩], [⟨false, [.ptr]⟩], fun (x : (Int × Int × Int × Int × Int)) h => frags_New x h⟩
theorem eq_56 (head_Right : (Int × Int × Int × Int × Int) → H → Option ((Bool) × H)) : (fun (x : PT E_56.ps) (h : H) => runFK Go.Proofs.Ytaebjajbogedkaa.Ov.D (lstK [⟨50, [⟨true, [.int .i64, .int .i64, .int .i64, .int .i64, .int .i64]⟩], [⟨false, [.bool]⟩], fun (x : (Int × Int × Int × Int × Int)) h => head_Right x h⟩]) ann_56 Try.f56 (Try.f56.body.getD .skip) E_56.ys (encP E_56.ps x) h) = (fun (x : (Int × Int × Int × Int × Int)) h => P.frags_New head_Right x h) := by kernel_rfl
theorem ok_56 : E_56.ok Go.Proofs.Ytaebjajbogedkaa.Ov.D := fun x h y h' e => runFK_ok (lstK_ok [E_50] (List.forall_mem_cons.2 ⟨ok_50, fun E h => nomatch h⟩)) (A := ann_56) (by kernel_rfl) (show Go.Proofs.Ytaebjajbogedkaa.Ov.D.fn.get 56 = some Try.f56 by kernel_rfl) (show Try.f56.body = some (Try.f56.body.getD .skip) by kernel_rfl) ((congrFun (congrFun (eq_56 head_Right) x) h).trans e)
/-! frags_Whole_Put -/
noncomputable def P.frags_Whole_Put (spans_Set_Has : Option Addr → Int → H → Option ((Bool) × H)) (spans_Set_Add : Option Addr → Int → Int → H → Option ((Unit) × H)) (w : Option Addr) (h0 : Int × Int × Int × Int × Int) (b : Sl) (h : H) : Option (Bool × H) :=
  newO (row 67 [(.int .i64 h0.1), (.int .i64 h0.2.1), (.int .i64 h0.2.2.1), (.int .i64 h0.2.2.2.1), (.int .i64 h0.2.2.2.2)]) h fun (b1 : Nat) (h1 : H) =>
  bindO (ldI .i64 h1 (add (⟨b1, 0, (some 0)⟩ : Addr) 3)) fun (x0 : Int) =>
  bindO (st1 h1 (add (⟨b1, 0, (some 0)⟩ : Addr) 3) (.int .i64 0)) fun (h2 : H) =>
  joinO (
    bindO (ldZ [.int .i64, .int .i64, .int .i64, .int .i64, .int .i64] h2 (⟨b1, 0, (some 0)⟩ : Addr)) fun ((x1, x2, x3, x4, x5) : Int × Int × Int × Int × Int) =>
    ptrK w fun (a0 : Addr) =>
    bindO (ldZ [.int .i64, .int .i64, .int .i64, .int .i64, .int .i64] h2 (add a0 1)) fun ((x6, x7, x8, x9, x10) : Int × Int × Int × Int × Int) =>
    letO ((!((x1 == x6) && ((x2 == x7) && ((x3 == x8) && ((x4 == x9) && ((x5 == x10) && true))))))) fun (x11 : Bool) =>
    condK x11 (
      some (Sum.inl ((w, (b, (x0, ((IntKind.wrap .i64 (x0 * 80)), true)))), h2))) (
      condK (decide ((x0 < 0))) (
        some (Sum.inl ((w, (b, (x0, ((IntKind.wrap .i64 (x0 * 80)), true)))), h2))) (
        bindO (ldI .i64 h2 (add (⟨b1, 0, (some 0)⟩ : Addr) 2)) fun (x12 : Int) =>
        condK (decide ((x0 ≥ x12))) (
          some (Sum.inl ((w, (b, (x0, ((IntKind.wrap .i64 (x0 * 80)), true)))), h2))) (
          bindO (ldI .i64 h2 (add (⟨b1, 0, (some 0)⟩ : Addr) 4)) fun (x13 : Int) =>
          letO ((if ((IntKind.wrap .i64 (x13 - (IntKind.wrap .i64 (x0 * 80)))) < 80) then (IntKind.wrap .i64 (x13 - (IntKind.wrap .i64 (x0 * 80)))) else 80)) fun (x14 : Int) =>
          some (Sum.inl ((w, (b, (x0, ((IntKind.wrap .i64 (x0 * 80)), (((b.len : Nat) : Int) != x14))))), h2)))))) fun (((w1, (b2, (k, (from', x1)))), h3) : (((Option Addr) × (Sl × (Int × (Int × Bool)))) × H)) =>
  condK x1 (
    some (false, h3)) (
    ptrK w1 fun (a0 : Addr) =>
    bind2 (spans_Set_Has (some (add a0 0)) k h3) fun (x2 : Bool) (h4 : H) =>
    condK (!x2) (
      ptrK w1 fun (a1 : Addr) =>
      bindO (ldL h4 (add a1 6)) fun (x3 : Sl) =>
      bindO (slT 1 h4 x3 (some from') none none) fun (x4 : Sl) =>
      bind2 (cpT 1 h4 x4 b2) fun (x5 : Int) (h5 : H) =>
      ptrK w1 fun (a2 : Addr) =>
      bind2 (spans_Set_Add (some (add a2 0)) k (IntKind.wrap .i64 (k + 1)) h5) fun (_ : Unit) (h6 : H) =>
      some (true, h6)) (
      some (true, h4)))
noncomputable def frags_Whole_Put : Option Addr → (Int × Int × Int × Int × Int) → Sl → H → Option ((Bool) × H) := P.frags_Whole_Put spans_Set_Has spans_Set_Add
noncomputable def ann_57 : Ann := ⟨fun _ => none, fun _ => none, fun i => bif i.beq 4 then some ⟨[0, 2, 7, 8, 39], [⟨false, [.ptr]⟩, ⟨false, [.sl]⟩, ⟨false, [.int .i64]⟩, ⟨false, [.int .i64]⟩, ⟨false, [.bool]⟩]⟩ else none⟩
noncomputable def E_57 : Ent := ⟨57, [⟨false, [.ptr]⟩, ⟨true, [.int .i64, .int .i64, .int .i64, .int .i64, .int .i64]⟩, ⟨false, [.sl]⟩], [⟨false, [.bool]⟩], fun (x : Option Addr × ((Int × Int × Int × Int × Int)) × Sl) h => frags_Whole_Put x.1 x.2.1 x.2.2 h⟩
theorem eq_57 (spans_Set_Has : Option Addr → Int → H → Option ((Bool) × H)) (spans_Set_Add : Option Addr → Int → Int → H → Option ((Unit) × H)) : (fun (x : PT E_57.ps) (h : H) => runFK Go.Proofs.Ytaebjajbogedkaa.Ov.D (lstK [⟨34, [⟨false, [.ptr]⟩, ⟨false, [.int .i64]⟩], [⟨false, [.bool]⟩], fun (x : Option Addr × Int) h => spans_Set_Has x.1 x.2 h⟩, ⟨24, [⟨false, [.ptr]⟩, ⟨false, [.int .i64]⟩, ⟨false, [.int .i64]⟩], [], fun (x : Option Addr × Int × Int) h => spans_Set_Add x.1 x.2.1 x.2.2 h⟩]) ann_57 Try.f57 (Try.f57.body.getD .skip) E_57.ys (encP E_57.ps x) h) = (fun (x : Option Addr × ((Int × Int × Int × Int × Int)) × Sl) h => P.frags_Whole_Put spans_Set_Has spans_Set_Add x.1 x.2.1 x.2.2 h) := by kernel_rfl
theorem ok_57 : E_57.ok Go.Proofs.Ytaebjajbogedkaa.Ov.D := fun x h y h' e => runFK_ok (lstK_ok [E_34, E_24] (List.forall_mem_cons.2 ⟨ok_34, List.forall_mem_cons.2 ⟨ok_24, fun E h => nomatch h⟩⟩)) (A := ann_57) (by kernel_rfl) (show Go.Proofs.Ytaebjajbogedkaa.Ov.D.fn.get 57 = some Try.f57 by kernel_rfl) (show Try.f57.body = some (Try.f57.body.getD .skip) by kernel_rfl) ((congrFun (congrFun (eq_57 spans_Set_Has spans_Set_Add) x) h).trans e)
/-! frags_Whole_Full -/
noncomputable def P.frags_Whole_Full (spans_Set_All : Option Addr → Int → Int → H → Option ((Bool) × H)) (w : Option Addr) (h : H) : Option (Bool × H) :=
  ptrK w fun (a0 : Addr) =>
  ptrK w fun (a1 : Addr) =>
  bindO (ldI .i64 h (add (add a1 1) 2)) fun (x0 : Int) =>
  bind2 (spans_Set_All (some (add a0 0)) 0 x0 h) fun (x1 : Bool) (h0 : H) =>
  some (x1, h0)
noncomputable def frags_Whole_Full : Option Addr → H → Option ((Bool) × H) := P.frags_Whole_Full spans_Set_All
noncomputable def ann_58 : Ann := ⟨fun _ => none, fun _ => none, fun _ => none⟩
noncomputable def E_58 : Ent := ⟨58, [⟨false, [.ptr]⟩], [⟨false, [.bool]⟩], fun (x : Option Addr) h => frags_Whole_Full x h⟩
theorem eq_58 (spans_Set_All : Option Addr → Int → Int → H → Option ((Bool) × H)) : (fun (x : PT E_58.ps) (h : H) => runFK Go.Proofs.Ytaebjajbogedkaa.Ov.D (lstK [⟨25, [⟨false, [.ptr]⟩, ⟨false, [.int .i64]⟩, ⟨false, [.int .i64]⟩], [⟨false, [.bool]⟩], fun (x : Option Addr × Int × Int) h => spans_Set_All x.1 x.2.1 x.2.2 h⟩]) ann_58 Try.f58 (Try.f58.body.getD .skip) E_58.ys (encP E_58.ps x) h) = (fun (x : Option Addr) h => P.frags_Whole_Full spans_Set_All x h) := by kernel_rfl
theorem ok_58 : E_58.ok Go.Proofs.Ytaebjajbogedkaa.Ov.D := fun x h y h' e => runFK_ok (lstK_ok [E_25] (List.forall_mem_cons.2 ⟨ok_25, fun E h => nomatch h⟩)) (A := ann_58) (by kernel_rfl) (show Go.Proofs.Ytaebjajbogedkaa.Ov.D.fn.get 58 = some Try.f58 by kernel_rfl) (show Try.f58.body = some (Try.f58.body.getD .skip) by kernel_rfl) ((congrFun (congrFun (eq_58 spans_Set_All) x) h).trans e)
/-! frags_Whole_Bytes -/
noncomputable def P.frags_Whole_Bytes (frags_Whole_Full : Option Addr → H → Option ((Bool) × H)) (slices_Clone_byte : Sl → H → Option ((Sl) × H)) (slices_Clip_byte : Sl → H → Option ((Sl) × H)) (w : Option Addr) (h : H) : Option (Sl × H) :=
  bind2 (frags_Whole_Full w h) fun (x0 : Bool) (h0 : H) =>
  condK (!x0) (
    some ((⟨none, 0, 0⟩ : Sl), h0)) (
    ptrK w fun (a0 : Addr) =>
    bindO (ldL h0 (add a0 6)) fun (x1 : Sl) =>
    bind2 (slices_Clone_byte x1 h0) fun (x2 : Sl) (h1 : H) =>
    bind2 (slices_Clip_byte x2 h1) fun (x3 : Sl) (h2 : H) =>
    some (x3, h2))
noncomputable def frags_Whole_Bytes : Option Addr → H → Option ((Sl) × H) := P.frags_Whole_Bytes frags_Whole_Full slices_Clone_byte slices_Clip_byte
noncomputable def ann_59 : Ann := ⟨fun _ => none, fun _ => none, fun _ => none⟩
noncomputable def E_59 : Ent := ⟨59, [⟨false, [.ptr]⟩], [⟨false, [.sl]⟩], fun (x : Option Addr) h => frags_Whole_Bytes x h⟩
theorem eq_59 (frags_Whole_Full : Option Addr → H → Option ((Bool) × H)) (slices_Clone_byte : Sl → H → Option ((Sl) × H)) (slices_Clip_byte : Sl → H → Option ((Sl) × H)) : (fun (x : PT E_59.ps) (h : H) => runFK Go.Proofs.Ytaebjajbogedkaa.Ov.D (lstK [⟨58, [⟨false, [.ptr]⟩], [⟨false, [.bool]⟩], fun (x : Option Addr) h => frags_Whole_Full x h⟩, ⟨70, [⟨false, [.sl]⟩], [⟨false, [.sl]⟩], fun (x : Sl) h => slices_Clone_byte x h⟩, ⟨69, [⟨false, [.sl]⟩], [⟨false, [.sl]⟩], fun (x : Sl) h => slices_Clip_byte x h⟩]) ann_59 Try.f59 (Try.f59.body.getD .skip) E_59.ys (encP E_59.ps x) h) = (fun (x : Option Addr) h => P.frags_Whole_Bytes frags_Whole_Full slices_Clone_byte slices_Clip_byte x h) := by kernel_rfl
theorem ok_59 : E_59.ok Go.Proofs.Ytaebjajbogedkaa.Ov.D := fun x h y h' e => runFK_ok (lstK_ok [E_58, E_70, E_69] (List.forall_mem_cons.2 ⟨ok_58, List.forall_mem_cons.2 ⟨ok_70, List.forall_mem_cons.2 ⟨ok_69, fun E h => nomatch h⟩⟩⟩)) (A := ann_59) (by kernel_rfl) (show Go.Proofs.Ytaebjajbogedkaa.Ov.D.fn.get 59 = some Try.f59 by kernel_rfl) (show Try.f59.body = some (Try.f59.body.getD .skip) by kernel_rfl) ((congrFun (congrFun (eq_59 frags_Whole_Full slices_Clone_byte slices_Clip_byte) x) h).trans e)
/-! inbox_Box_Piece -/
noncomputable def P.inbox_Box_Piece (head_Read : Sl → H → Option ((((Int × Int × Int × Int × Int)) × Sl × Int) × H)) (spans_Set_Has : Option Addr → Int → H → Option ((Bool) × H)) (inbox_Box_settle : Option Addr → Int → Int → Int → Sl → H → Option (((Int × Int × Int × ByteArray)) × H)) (frags_New : (Int × Int × Int × Int × Int) → H → Option ((Option Addr) × H)) (frags_Whole_Put : Option Addr → (Int × Int × Int × Int × Int) → Sl → H → Option ((Bool) × H)) (frags_Whole_Full : Option Addr → H → Option ((Bool) × H)) (frags_Whole_Bytes : Option Addr → H → Option ((Sl) × H)) (b : Option Addr) (now : Int) (p : Sl) (h : H) : Option (Sl × H) :=
  bind2 (head_Read p h) fun (((x0, x1, x2, x3, x4), x5, x6) : (Int × Int × Int × Int × Int) × Sl × Int) (h0 : H) =>
  newO (row 67 [(.int .i64 0), (.int .i64 0), (.int .i64 0), (.int .i64 0), (.int .i64 0)]) h0 fun (b1 : Nat) (h1 : H) =>
  bindO (stZ [.int .i64, .int .i64, .int .i64, .int .i64, .int .i64] h1 (⟨b1, 0, (some 0)⟩ : Addr) ((x0, x1, x2, x3, x4) : Int × Int × Int × Int × Int)) fun (h2 : H) =>
  joinO (
    condK (x6 != 0) (
      some (Sum.inl ((b, (now, ((some (⟨b1, 0, (some 0)⟩ : Addr)), (x5, true)))), h2))) (
      ptrK b fun (a0 : Addr) =>
      bindO (ldI .i64 h2 (add (⟨b1, 0, (some 0)⟩ : Addr) 0)) fun (x7 : Int) =>
      bind2 (spans_Set_Has (some (add a0 0)) x7 h2) fun (x8 : Bool) (h3 : H) =>
      some (Sum.inl ((b, (now, ((some (⟨b1, 0, (some 0)⟩ : Addr)), (x5, x8)))), h3)))) fun (((b2, (now1, (h3, (data, x7)))), h4) : (((Option Addr) × (Int × ((Option Addr) × (Sl × Bool)))) × H)) =>
  condK x7 (
    some ((⟨none, 0, 0⟩ : Sl), h4)) (
    ptrK h3 fun (a0 : Addr) =>
    bindO (ldI .i64 h4 (add a0 1)) fun (x8 : Int) =>
    condK (decide ((now1 > x8))) (
      ptrK h3 fun (a1 : Addr) =>
      bindO (ldI .i64 h4 (add a1 0)) fun (x9 : Int) =>
      bind2 (inbox_Box_settle b2 now1 2 x9 (⟨none, 0, 0⟩ : Sl) h4) fun ((x10, x11, x12, x13) : Int × Int × Int × ByteArray) (h5 : H) =>
      newO (row 72 [(.int .i64 x10), (.int .i64 x11), (.int .i64 x12), (.string x13)]) h5 fun (b3 : Nat) (h6 : H) =>
      some ((⟨(some (⟨b3, 0, (some 0)⟩ : Addr)), 1, 1⟩ : Sl), h6)) (
      ptrK b2 fun (a2 : Addr) =>
      bindO (ldM h4 (add a2 1)) fun (x14 : Option Nat) =>
      ptrK h3 fun (a3 : Addr) =>
      bindO (ldI .i64 h4 (add a3 0)) fun (x15 : Int) =>
      bindO (lookOT .i64 ⟨false, [.ptr]⟩ (.pointer none) h4 x14 x15) fun ((x16, ok) : (Option Addr) × Bool) =>
      joinO (
        condK (!ok) (
          ptrK h3 fun (a4 : Addr) =>
          bindO (ldZ [.int .i64, .int .i64, .int .i64, .int .i64, .int .i64] h4 a4) fun ((x17, x18, x19, x20, x21) : Int × Int × Int × Int × Int) =>
          bind2 (frags_New (x17, x18, x19, x20, x21) h4) fun (x22 : Option Addr) (h7 : H) =>
          some (Sum.inl ((b2, (now1, (h3, (data, x22)))), h7))) (
          some (Sum.inl ((b2, (now1, (h3, (data, x16)))), h4)))) fun (((b4, (now2, (h7, (data1, w)))), h8) : (((Option Addr) × (Int × ((Option Addr) × (Sl × (Option Addr))))) × H)) =>
      ptrK h7 fun (a4 : Addr) =>
      bindO (ldZ [.int .i64, .int .i64, .int .i64, .int .i64, .int .i64] h8 a4) fun ((x17, x18, x19, x20, x21) : Int × Int × Int × Int × Int) =>
      bind2 (frags_Whole_Put w (x17, x18, x19, x20, x21) data1 h8) fun (x22 : Bool) (h9 : H) =>
      condK (!x22) (
        some ((⟨none, 0, 0⟩ : Sl), h9)) (
        ptrK b4 fun (a5 : Addr) =>
        bindO (ldM h9 (add a5 1)) fun (x23 : Option Nat) =>
        ptrK h7 fun (a6 : Addr) =>
        bindO (ldI .i64 h9 (add a6 0)) fun (x24 : Int) =>
        bindO (updT .i64 ⟨false, [.ptr]⟩ h9 x23 x24 ((w) : Option Addr)) fun (h10 : H) =>
        bind2 (frags_Whole_Full w h10) fun (x25 : Bool) (h11 : H) =>
        condK (!x25) (
          some ((⟨none, 0, 0⟩ : Sl), h11)) (
          ptrK h7 fun (a7 : Addr) =>
          letH (growIf h11 9) fun (h12 : H) =>
          bindO (ldI .i64 h12 (add a7 0)) fun (x26 : Int) =>
          bind2 (frags_Whole_Bytes w h12) fun (x27 : Sl) (h13 : H) =>
          bind2 (inbox_Box_settle b4 now2 1 x26 x27 h13) fun ((x28, x29, x30, x31) : Int × Int × Int × ByteArray) (h14 : H) =>
          letH (addP 4 h11.size [(7, (row 72 [(.int .i64 x28), (.int .i64 x29), (.int .i64 x30), (.string x31)]))] h13) fun (h15 : H) =>
          bindO (ldI .i64 h15 (add a7 0)) fun (x32 : Int) =>
          condK (x32 == x26) (
            letH (addP 511 h11.size [(7, (row 72 [(.int .i64 x28), (.int .i64 x29), (.int .i64 x30), (.string x31)]))] h14) fun (h16 : H) =>
            letH (tickIf 9 h16) fun (h17 : H) =>
            some ((⟨(some (⟨(h11.size + 7), 0, (some 0)⟩ : Addr)), 1, 1⟩ : Sl), h17)) none))))
noncomputable def inbox_Box_Piece : Option Addr → Int → Sl → H → Option ((Sl) × H) := P.inbox_Box_Piece head_Read spans_Set_Has inbox_Box_settle frags_New frags_Whole_Put frags_Whole_Full frags_Whole_Bytes
noncomputable def ann_32 : Ann := ⟨fun i => bif i.beq 9 then some ⟨[0, 1, 7, 8, 10], [⟨false, [.ptr]⟩, ⟨false, [.int .i64]⟩, ⟨false, [.ptr]⟩, ⟨false, [.sl]⟩, ⟨false, [.ptr]⟩]⟩ else none, fun _ => none, fun i => bif i.beq 2 then some ⟨[0, 1, 7, 8, 18], [⟨false, [.ptr]⟩, ⟨false, [.int .i64]⟩, ⟨false, [.ptr]⟩, ⟨false, [.sl]⟩, ⟨false, [.bool]⟩]⟩ else none⟩
noncomputable def E_32 : Ent := ⟨32, [⟨false, [.ptr]⟩, ⟨false, [.int .i64]⟩, ⟨false, [.sl]⟩], [⟨false, [.sl]⟩], fun (x : Option Addr × Int × Sl) h => inbox_Box_Piece x.1 x.2.1 x.2.2 h⟩
theorem eq_32 (head_Read : Sl → H → Option ((((Int × Int × Int × Int × Int)) × Sl × Int) × H)) (spans_Set_Has : Option Addr → Int → H → Option ((Bool) × H)) (inbox_Box_settle : Option Addr → Int → Int → Int → Sl → H → Option (((Int × Int × Int × ByteArray)) × H)) (frags_New : (Int × Int × Int × Int × Int) → H → Option ((Option Addr) × H)) (frags_Whole_Put : Option Addr → (Int × Int × Int × Int × Int) → Sl → H → Option ((Bool) × H)) (frags_Whole_Full : Option Addr → H → Option ((Bool) × H)) (frags_Whole_Bytes : Option Addr → H → Option ((Sl) × H)) : (fun (x : PT E_32.ps) (h : H) => runFK Go.Proofs.Ytaebjajbogedkaa.Ov.D (lstK [⟨54, [⟨false, [.sl]⟩], [⟨true, [.int .i64, .int .i64, .int .i64, .int .i64, .int .i64]⟩, ⟨false, [.sl]⟩, ⟨false, [.int .i64]⟩], fun (x : Sl) h => head_Read x h⟩, ⟨34, [⟨false, [.ptr]⟩, ⟨false, [.int .i64]⟩], [⟨false, [.bool]⟩], fun (x : Option Addr × Int) h => spans_Set_Has x.1 x.2 h⟩, ⟨55, [⟨false, [.ptr]⟩, ⟨false, [.int .i64]⟩, ⟨false, [.int .i64]⟩, ⟨false, [.int .i64]⟩, ⟨false, [.sl]⟩], [⟨true, [.int .i64, .int .i64, .int .i64, .str]⟩], fun (x : Option Addr × Int × Int × Int × Sl) h => inbox_Box_settle x.1 x.2.1 x.2.2.1 x.2.2.2.1 x.2.2.2.2 h⟩, ⟨56, [⟨true, [.int .i64, .int .i64, .int .i64, .int .i64, .int .i64]⟩], [⟨false, [.ptr]⟩], fun (x : (Int × Int × Int × Int × Int)) h => frags_New x h⟩, ⟨57, [⟨false, [.ptr]⟩, ⟨true, [.int .i64, .int .i64, .int .i64, .int .i64, .int .i64]⟩, ⟨false, [.sl]⟩], [⟨false, [.bool]⟩], fun (x : Option Addr × ((Int × Int × Int × Int × Int)) × Sl) h => frags_Whole_Put x.1 x.2.1 x.2.2 h⟩, ⟨58, [⟨false, [.ptr]⟩], [⟨false, [.bool]⟩], fun (x : Option Addr) h => frags_Whole_Full x h⟩, ⟨59, [⟨false, [.ptr]⟩], [⟨false, [.sl]⟩], fun (x : Option Addr) h => frags_Whole_Bytes x h⟩]) ann_32 Try.f32 (Try.f32.body.getD .skip) E_32.ys (encP E_32.ps x) h) = (fun (x : Option Addr × Int × Sl) h => P.inbox_Box_Piece head_Read spans_Set_Has inbox_Box_settle frags_New frags_Whole_Put frags_Whole_Full frags_Whole_Bytes x.1 x.2.1 x.2.2 h) := by kernel_rfl
theorem ok_32 : E_32.ok Go.Proofs.Ytaebjajbogedkaa.Ov.D := fun x h y h' e => runFK_ok (lstK_ok [E_54, E_34, E_55, E_56, E_57, E_58, E_59] (List.forall_mem_cons.2 ⟨ok_54, List.forall_mem_cons.2 ⟨ok_34, List.forall_mem_cons.2 ⟨ok_55, List.forall_mem_cons.2 ⟨ok_56, List.forall_mem_cons.2 ⟨ok_57, List.forall_mem_cons.2 ⟨ok_58, List.forall_mem_cons.2 ⟨ok_59, fun E h => nomatch h⟩⟩⟩⟩⟩⟩⟩)) (A := ann_32) (by kernel_rfl) (show Go.Proofs.Ytaebjajbogedkaa.Ov.D.fn.get 32 = some Try.f32 by kernel_rfl) (show Try.f32.body = some (Try.f32.body.getD .skip) by kernel_rfl) ((congrFun (congrFun (eq_32 head_Read spans_Set_Has inbox_Box_settle frags_New frags_Whole_Put frags_Whole_Full frags_Whole_Bytes) x) h).trans e)
/-! spans_Set_Count -/
noncomputable def spans_Set_Count_l1 : ((Int × (Sl × (Int × Int))) × H) → Option (((Int × (Sl × (Int × Int))) × H) ⊕ ((Int × H) ⊕ (Int × H))) := fun ((sum, (x0, (x1, x2))), h0) =>
  condK (decide ((x2 < x1))) (
    bindO (ixT 2 x0 x2) fun (a0 : Addr) =>
    bindO (ldZ [.int .i64, .int .i64] h0 a0) fun ((x3, x4) : Int × Int) =>
    newO (row 100 [(.int .i64 0), (.int .i64 0)]) h0 fun (b : Nat) (h1 : H) =>
    bindO (stZ [.int .i64, .int .i64] h1 (⟨b, 0, (some 0)⟩ : Addr) ((x3, x4) : Int × Int)) fun (h2 : H) =>
    bindO (ixAT 2 1 (⟨b, 0, (some 0)⟩ : Addr) 1) fun (a1 : Addr) =>
    bindO (ldI .i64 h2 a1) fun (x5 : Int) =>
    bindO (ixAT 2 1 (⟨b, 0, (some 0)⟩ : Addr) 0) fun (a2 : Addr) =>
    bindO (ldI .i64 h2 a2) fun (x6 : Int) =>
    some (Sum.inl (((IntKind.wrap .i64 (sum + (IntKind.wrap .i64 (x5 - x6)))), (x0, (x1, (IntKind.wrap .i64 (x2 + 1))))), h2))) (
    some (Sum.inr (Sum.inl (sum, h0))))

noncomputable def spans_Set_Count (s : Option Addr) (h : H) : Option (Int × H) :=
  joinO (
    ptrK s fun (a0 : Addr) =>
    bindO (ldL h (add a0 0)) fun (x0 : Sl) =>
    loopO spans_Set_Count_l1 ((0, (x0, (((x0.len : Nat) : Int), 0))), h)) fun ((sum, h0) : (Int × H)) =>
  some (sum, h0)
noncomputable def ann_35 : Ann := ⟨fun i => bif i.beq 7 then some ⟨[3], [⟨false, [.int .i64]⟩]⟩ else none, fun i => bif i.beq 3 then some ⟨[3, 9, 10, 11], [⟨false, [.int .i64]⟩, ⟨false, [.sl]⟩, ⟨false, [.int .i64]⟩, ⟨false, [.int .i64]⟩]⟩ else none, fun _ => none⟩
noncomputable def E_35 : Ent := ⟨35, [⟨false, [.ptr]⟩], [⟨false, [.int .i64]⟩], fun (x : Option Addr) h => spans_Set_Count x h⟩
theorem eq_35  : (fun (x : PT E_35.ps) (h : H) => runFK Go.Proofs.Ytaebjajbogedkaa.Ov.D (lstK []) ann_35 Try.f35 (Try.f35.body.getD .skip) E_35.ys (encP E_35.ps x) h) = (fun (x : Option Addr) h => spans_Set_Count x h) := by kernel_rfl
theorem ok_35 : E_35.ok Go.Proofs.Ytaebjajbogedkaa.Ov.D := fun x h y h' e => runFK_ok (lstK_ok [] (fun E h => nomatch h)) (A := ann_35) (by kernel_rfl) (show Go.Proofs.Ytaebjajbogedkaa.Ov.D.fn.get 35 = some Try.f35 by kernel_rfl) (show Try.f35.body = some (Try.f35.body.getD .skip) by kernel_rfl) ((congrFun (congrFun (eq_35 ) x) h).trans e)
/-! law22_known -/
noncomputable def P.law22_known (inbox_New : H → Option ((Option Addr) × H)) (head_Of : Int → Int → Int → H → Option (((Int × Int × Int × Int × Int)) × H)) (head_Lay : (Int × Int × Int × Int × Int) → Sl → H → Option ((Sl) × H)) (inbox_Box_Piece : Option Addr → Int → Sl → H → Option ((Sl) × H)) (spans_Set_Has : Option Addr → Int → H → Option ((Bool) × H)) (spans_Set_Count : Option Addr → H → Option ((Int) × H))  (h : H) : Option (Bool × H) :=
  bind2 (inbox_New h) fun (x0 : Option Addr) (h0 : H) =>
  bindO (eqPT x0 none) fun (x1 : Bool) =>
  condK x1 (
    some (false, h0)) (
    bind2 (head_Of 3 9 2 h0) fun ((x2, x3, x4, x5, x6) : Int × Int × Int × Int × Int) (h1 : H) =>
    newO (row 5 [(.int .u8 104), (.int .u8 105)]) h1 fun (b : Nat) (h2 : H) =>
    bind2 (bbT h2 (⟨(some (⟨b, 0, (some 0)⟩ : Addr)), 2, 2⟩ : Sl)) fun (x7 : Sl) (h3 : H) =>
    newO (row 29 [(.slice x7.base x7.len x7.cap)]) h3 fun (b1 : Nat) (h4 : H) =>
    bind2 (head_Lay (x2, x3, x4, x5, x6) (⟨(some (⟨b1, 0, (some 0)⟩ : Addr)), 1, 1⟩ : Sl) h4) fun (x8 : Sl) (h5 : H) =>
    bind2 (inbox_Box_Piece x0 9 x8 h5) fun (x9 : Sl) (h6 : H) =>
    bind2 (inbox_Box_Piece x0 9 x8 h6) fun (x10 : Sl) (h7 : H) =>
    condK (((x9.len : Nat) : Int) == 1) (
      bindO (ixT 4 x9 0) fun (a0 : Addr) =>
      bindO (ldZ [.int .i64, .int .i64, .int .i64, .str] h7 a0) fun ((x11, x12, x13, x14) : Int × Int × Int × ByteArray) =>
      letO (((x11 == 1) && ((x12 == 3) && ((x13 == 9) && ((x14.toList == (⟨#[104, 105]⟩ : ByteArray).toList) && true))))) fun (x15 : Bool) =>
      condK x15 (
        condK (((x10.len : Nat) : Int) == 0) (
          ptrK x0 fun (a1 : Addr) =>
          bind2 (spans_Set_Has (some (add a1 0)) 3 h7) fun (x16 : Bool) (h8 : H) =>
          condK x16 (
            ptrK x0 fun (a2 : Addr) =>
            bind2 (spans_Set_Count (some (add a2 0)) h8) fun (x17 : Int) (h9 : H) =>
            some ((x17 == 1), h9)) (
            some (false, h8))) (
          some (false, h7))) (
        some (false, h7))) (
      some (false, h7)))
noncomputable def law22_known : H → Option ((Bool) × H) := P.law22_known inbox_New head_Of head_Lay inbox_Box_Piece spans_Set_Has spans_Set_Count
noncomputable def ann_29 : Ann := ⟨fun _ => none, fun _ => none, fun _ => none⟩
noncomputable def E_29 : Ent := ⟨29, [], [⟨false, [.bool]⟩], fun (x : Unit) h => law22_known h⟩
theorem eq_29 (inbox_New : H → Option ((Option Addr) × H)) (head_Of : Int → Int → Int → H → Option (((Int × Int × Int × Int × Int)) × H)) (head_Lay : (Int × Int × Int × Int × Int) → Sl → H → Option ((Sl) × H)) (inbox_Box_Piece : Option Addr → Int → Sl → H → Option ((Sl) × H)) (spans_Set_Has : Option Addr → Int → H → Option ((Bool) × H)) (spans_Set_Count : Option Addr → H → Option ((Int) × H)) : (fun (x : PT E_29.ps) (h : H) => runFK Go.Proofs.Ytaebjajbogedkaa.Ov.D (lstK [⟨28, [], [⟨false, [.ptr]⟩], fun (x : Unit) h => inbox_New h⟩, ⟨31, [⟨false, [.int .i64]⟩, ⟨false, [.int .i64]⟩, ⟨false, [.int .i64]⟩], [⟨true, [.int .i64, .int .i64, .int .i64, .int .i64, .int .i64]⟩], fun (x : Int × Int × Int) h => head_Of x.1 x.2.1 x.2.2 h⟩, ⟨30, [⟨true, [.int .i64, .int .i64, .int .i64, .int .i64, .int .i64]⟩, ⟨false, [.sl]⟩], [⟨false, [.sl]⟩], fun (x : ((Int × Int × Int × Int × Int)) × Sl) h => head_Lay x.1 x.2 h⟩, ⟨32, [⟨false, [.ptr]⟩, ⟨false, [.int .i64]⟩, ⟨false, [.sl]⟩], [⟨false, [.sl]⟩], fun (x : Option Addr × Int × Sl) h => inbox_Box_Piece x.1 x.2.1 x.2.2 h⟩, ⟨34, [⟨false, [.ptr]⟩, ⟨false, [.int .i64]⟩], [⟨false, [.bool]⟩], fun (x : Option Addr × Int) h => spans_Set_Has x.1 x.2 h⟩, ⟨35, [⟨false, [.ptr]⟩], [⟨false, [.int .i64]⟩], fun (x : Option Addr) h => spans_Set_Count x h⟩]) ann_29 Try.f29 (Try.f29.body.getD .skip) E_29.ys (encP E_29.ps x) h) = (fun (x : Unit) h => P.law22_known inbox_New head_Of head_Lay inbox_Box_Piece spans_Set_Has spans_Set_Count  h) := by kernel_rfl
theorem ok_29 : E_29.ok Go.Proofs.Ytaebjajbogedkaa.Ov.D := fun x h y h' e => runFK_ok (lstK_ok [E_28, E_31, E_30, E_32, E_34, E_35] (List.forall_mem_cons.2 ⟨ok_28, List.forall_mem_cons.2 ⟨ok_31, List.forall_mem_cons.2 ⟨ok_30, List.forall_mem_cons.2 ⟨ok_32, List.forall_mem_cons.2 ⟨ok_34, List.forall_mem_cons.2 ⟨ok_35, fun E h => nomatch h⟩⟩⟩⟩⟩⟩)) (A := ann_29) (by kernel_rfl) (show Go.Proofs.Ytaebjajbogedkaa.Ov.D.fn.get 29 = some Try.f29 by kernel_rfl) (show Try.f29.body = some (Try.f29.body.getD .skip) by kernel_rfl) ((congrFun (congrFun (eq_29 inbox_New head_Of head_Lay inbox_Box_Piece spans_Set_Has spans_Set_Count) x) h).trans e)
/-! inbox_Box_Late (told by an override) -/
noncomputable def inbox_Box_Late : Option Addr → Int → H → Option ((Sl) × H) := fun s c1 h => slO (Go.Proofs.Ytaebjajbogedkaa.Ov.ov36 [(Z.enc (.ptr) s), (Z.enc (.int .i64) c1)] h)
noncomputable def E_36 : Ent := ⟨36, [⟨false, [.ptr]⟩, ⟨false, [.int .i64]⟩], [⟨false, [.sl]⟩], fun (x : Option Addr × Int) h => inbox_Box_Late x.1 x.2 h⟩
theorem ok_36 : E_36.ok Go.Proofs.Ytaebjajbogedkaa.Ov.D := fun x h y h' e => ov_ok (f := 36) (g := Go.Proofs.Ytaebjajbogedkaa.Ov.ov36) (by kernel_rfl) (args := [(Z.enc (.ptr) x.1), (Z.enc (.int .i64) x.2)]) e
/-! head_Part -/
noncomputable def P.head_Part (head_Right : (Int × Int × Int × Int × Int) → H → Option ((Bool) × H)) (head_bounds : (Int × Int × Int × Int × Int) → H → Option ((Int × Int) × H)) (slices_Clone_byte : Sl → H → Option ((Sl) × H)) (slices_Clip_byte : Sl → H → Option ((Sl) × H)) (h0 : Int × Int × Int × Int × Int) (b : Sl) (h : H) : Option (Sl × H) :=
  newO (row 67 [(.int .i64 h0.1), (.int .i64 h0.2.1), (.int .i64 h0.2.2.1), (.int .i64 h0.2.2.2.1), (.int .i64 h0.2.2.2.2)]) h fun (b1 : Nat) (h1 : H) =>
  joinO (
    bindO (ldZ [.int .i64, .int .i64, .int .i64, .int .i64, .int .i64] h1 (⟨b1, 0, (some 0)⟩ : Addr)) fun ((x0, x1, x2, x3, x4) : Int × Int × Int × Int × Int) =>
    bind2 (head_Right (x0, x1, x2, x3, x4) h1) fun (x5 : Bool) (h2 : H) =>
    condK (!x5) (
      some (Sum.inl ((b, ((some (⟨b1, 0, (some 0)⟩ : Addr)), true)), h2))) (
      bindO (ldI .i64 h2 (add (⟨b1, 0, (some 0)⟩ : Addr) 4)) fun (x6 : Int) =>
      some (Sum.inl ((b, ((some (⟨b1, 0, (some 0)⟩ : Addr)), (((b.len : Nat) : Int) != x6))), h2)))) fun (((b2, (h2, x0)), h3) : ((Sl × ((Option Addr) × Bool)) × H)) =>
  condK x0 (
    some ((⟨none, 0, 0⟩ : Sl), h3)) (
    ptrK h2 fun (a0 : Addr) =>
    bindO (ldZ [.int .i64, .int .i64, .int .i64, .int .i64, .int .i64] h3 a0) fun ((x1, x2, x3, x4, x5) : Int × Int × Int × Int × Int) =>
    bind2 (head_bounds (x1, x2, x3, x4, x5) h3) fun ((x6, x7) : Int × Int) (h4 : H) =>
    bindO (slT 1 h4 b2 (some x6) (some x7) none) fun (x8 : Sl) =>
    bind2 (slices_Clone_byte x8 h4) fun (x9 : Sl) (h5 : H) =>
    bind2 (slices_Clip_byte x9 h5) fun (x10 : Sl) (h6 : H) =>
    some (x10, h6))
noncomputable def head_Part : (Int × Int × Int × Int × Int) → Sl → H → Option ((Sl) × H) := P.head_Part head_Right head_bounds slices_Clone_byte slices_Clip_byte
noncomputable def ann_38 : Ann := ⟨fun _ => none, fun _ => none, fun i => bif i.beq 1 then some ⟨[1, 2, 16], [⟨false, [.sl]⟩, ⟨false, [.ptr]⟩, ⟨false, [.bool]⟩]⟩ else none⟩
noncomputable def E_38 : Ent := ⟨38, [⟨true, [.int .i64, .int .i64, .int .i64, .int .i64, .int .i64]⟩, ⟨false, [.sl]⟩], [⟨false, [.sl]⟩], fun (x : ((Int × Int × Int × Int × Int)) × Sl) h => head_Part x.1 x.2 h⟩
theorem eq_38 (head_Right : (Int × Int × Int × Int × Int) → H → Option ((Bool) × H)) (head_bounds : (Int × Int × Int × Int × Int) → H → Option ((Int × Int) × H)) (slices_Clone_byte : Sl → H → Option ((Sl) × H)) (slices_Clip_byte : Sl → H → Option ((Sl) × H)) : (fun (x : PT E_38.ps) (h : H) => runFK Go.Proofs.Ytaebjajbogedkaa.Ov.D (lstK [⟨50, [⟨true, [.int .i64, .int .i64, .int .i64, .int .i64, .int .i64]⟩], [⟨false, [.bool]⟩], fun (x : (Int × Int × Int × Int × Int)) h => head_Right x h⟩, ⟨51, [⟨true, [.int .i64, .int .i64, .int .i64, .int .i64, .int .i64]⟩], [⟨false, [.int .i64]⟩, ⟨false, [.int .i64]⟩], fun (x : (Int × Int × Int × Int × Int)) h => head_bounds x h⟩, ⟨70, [⟨false, [.sl]⟩], [⟨false, [.sl]⟩], fun (x : Sl) h => slices_Clone_byte x h⟩, ⟨69, [⟨false, [.sl]⟩], [⟨false, [.sl]⟩], fun (x : Sl) h => slices_Clip_byte x h⟩]) ann_38 Try.f38 (Try.f38.body.getD .skip) E_38.ys (encP E_38.ps x) h) = (fun (x : ((Int × Int × Int × Int × Int)) × Sl) h => P.head_Part head_Right head_bounds slices_Clone_byte slices_Clip_byte x.1 x.2 h) := by kernel_rfl
theorem ok_38 : E_38.ok Go.Proofs.Ytaebjajbogedkaa.Ov.D := fun x h y h' e => runFK_ok (lstK_ok [E_50, E_51, E_70, E_69] (List.forall_mem_cons.2 ⟨ok_50, List.forall_mem_cons.2 ⟨ok_51, List.forall_mem_cons.2 ⟨ok_70, List.forall_mem_cons.2 ⟨ok_69, fun E h => nomatch h⟩⟩⟩⟩)) (A := ann_38) (by kernel_rfl) (show Go.Proofs.Ytaebjajbogedkaa.Ov.D.fn.get 38 = some Try.f38 by kernel_rfl) (show Try.f38.body = some (Try.f38.body.getD .skip) by kernel_rfl) ((congrFun (congrFun (eq_38 head_Right head_bounds slices_Clone_byte slices_Clip_byte) x) h).trans e)
/-! law22_InWhole -/
noncomputable def P.law22_InWhole_l4 (inbox_New : H → Option ((Option Addr) × H)) (law22_known : H → Option ((Bool) × H)) (hand_Pick : Int → Int → H → Option ((Int) × H)) (head_Of : Int → Int → Int → H → Option (((Int × Int × Int × Int × Int)) × H)) (hand_Text : Sl → Int → H → Option ((Sl) × H)) (head_Part : (Int × Int × Int × Int × Int) → Sl → H → Option ((Sl) × H)) (head_Lay : (Int × Int × Int × Int × Int) → Sl → H → Option ((Sl) × H)) (inbox_Box_Piece : Option Addr → Int → Sl → H → Option ((Sl) × H)) (inbox_Box_Late : Option Addr → Int → H → Option ((Sl) × H)) : ((Sl × ((Option Addr) × (Sl × ((Option Addr) × ((Option Nat) × ((Option Nat) × (Int × ((Option Addr) × ((Option Addr) × (Sl × (Sl × (Bool × Int)))))))))))) × H) → Option (((Sl × ((Option Addr) × (Sl × ((Option Addr) × ((Option Nat) × ((Option Nat) × (Int × ((Option Addr) × ((Option Addr) × (Sl × (Sl × (Bool × Int)))))))))))) × H) ⊕ (((Sl × ((Option Addr) × (Sl × ((Option Addr) × ((Option Nat) × ((Option Nat) × (Int × ((Option Addr) × (Sl × (Sl × Bool)))))))))) × H) ⊕ (((Sl × ((Option Addr) × (Sl × ((Option Addr) × ((Option Nat) × ((Option Nat) × Int)))))) × H) ⊕ (((Sl × ((Option Addr) × (Sl × ((Option Addr) × ((Option Nat) × ((Option Nat) × Int)))))) × H) ⊕ (((Option Addr) × H) ⊕ (Bool × H)))))) := fun ((order, (b, (all, (size, (had, (done, (i, (x0, (h0, (text, (ev, (whole, k)))))))))))), h1) =>
  ptrK h0 fun (a0 : Addr) =>
  bindO (ldI .i64 h1 (add a0 2)) fun (x1 : Int) =>
  condK (decide ((k < x1))) (
    joinO (
      condK whole (
        ptrK x0 fun (a1 : Addr) =>
        bindO (ldI .i64 h1 (add a1 0)) fun (x2 : Int) =>
        bindO (lookTZ ⟨false, [.bool]⟩ (.bool false) h1 had [x2, k]) fun (x3 : Bool) =>
        some (Sum.inl ((order, (b, (all, (size, (had, (done, (i, (x0, (h0, (text, (ev, (x3, k)))))))))))), h1))) (
        some (Sum.inl ((order, (b, (all, (size, (had, (done, (i, (x0, (h0, (text, (ev, (false, k)))))))))))), h1)))) fun (((order1, (b1, (all1, (size1, (had1, (done1, (i1, (x2, (h2, (text1, (ev1, (whole1, k1)))))))))))), h3) : ((Sl × ((Option Addr) × (Sl × ((Option Addr) × ((Option Nat) × ((Option Nat) × (Int × ((Option Addr) × ((Option Addr) × (Sl × (Sl × (Bool × Int)))))))))))) × H)) =>
    some (Sum.inl ((order1, (b1, (all1, (size1, (had1, (done1, (i1, (x2, (h2, (text1, (ev1, (whole1, (IntKind.wrap .i64 (k1 + 1)))))))))))))), h3))) (
    some (Sum.inr (Sum.inl ((order, (b, (all, (size, (had, (done, (i, (x0, (text, (ev, whole)))))))))), h1))))

noncomputable def P.law22_InWhole_l3 (inbox_New : H → Option ((Option Addr) × H)) (law22_known : H → Option ((Bool) × H)) (hand_Pick : Int → Int → H → Option ((Int) × H)) (head_Of : Int → Int → Int → H → Option (((Int × Int × Int × Int × Int)) × H)) (hand_Text : Sl → Int → H → Option ((Sl) × H)) (head_Part : (Int × Int × Int × Int × Int) → Sl → H → Option ((Sl) × H)) (head_Lay : (Int × Int × Int × Int × Int) → Sl → H → Option ((Sl) × H)) (inbox_Box_Piece : Option Addr → Int → Sl → H → Option ((Sl) × H)) (inbox_Box_Late : Option Addr → Int → H → Option ((Sl) × H)) : ((Sl × ((Option Addr) × (Sl × ((Option Addr) × ((Option Nat) × ((Option Nat) × Int)))))) × H) → Option (((Sl × ((Option Addr) × (Sl × ((Option Addr) × ((Option Nat) × ((Option Nat) × Int)))))) × H) ⊕ (((Option Addr) × H) ⊕ (Bool × H))) := fun ((order, (b, (all, (size, (had, (done, i)))))), h0) =>
  letO ((IntKind.wrap .i64 (((order.len : Nat) : Int) + ((all.len : Nat) : Int)))) fun (x0 : Int) =>
  condK (decide ((i < x0))) (
    joinO (
      letO ((if ((IntKind.wrap .i64 (i - ((order.len : Nat) : Int))) > 0) then (IntKind.wrap .i64 (i - ((order.len : Nat) : Int))) else 0)) fun (x1 : Int) =>
      bindO (ixT 2 all x1) fun (a0 : Addr) =>
      bindO (ldZ [.int .i64, .int .i64] h0 a0) fun ((x2, x3) : Int × Int) =>
      newO (row 93 [(.int .i64 0), (.int .i64 0)]) h0 fun (b1 : Nat) (h1 : H) =>
      bindO (stZ [.int .i64, .int .i64] h1 (⟨b1, 0, (some 0)⟩ : Addr) ((x2, x3) : Int × Int)) fun (h2 : H) =>
      joinO (
        condK (decide ((i < ((order.len : Nat) : Int)))) (
          bindO (ixT 1 order i) fun (a1 : Addr) =>
          bindO (ldI .i64 h2 a1) fun (x4 : Int) =>
          bind2 (hand_Pick x4 ((all.len : Nat) : Int) h2) fun (x5 : Int) (h3 : H) =>
          bindO (ixT 2 all x5) fun (a2 : Addr) =>
          bindO (ldZ [.int .i64, .int .i64] h3 a2) fun ((x6, x7) : Int × Int) =>
          bindO (stZ [.int .i64, .int .i64] h3 (⟨b1, 0, (some 0)⟩ : Addr) ((x6, x7) : Int × Int)) fun (h4 : H) =>
          some (Sum.inl ((order, (b, (all, (size, (had, (done, (i, (some (⟨b1, 0, (some 0)⟩ : Addr))))))))), h4))) (
          some (Sum.inl ((order, (b, (all, (size, (had, (done, (i, (some (⟨b1, 0, (some 0)⟩ : Addr))))))))), h2)))) fun (((order1, (b2, (all1, (size1, (had1, (done1, (i1, x4))))))), h3) : ((Sl × ((Option Addr) × (Sl × ((Option Addr) × ((Option Nat) × ((Option Nat) × (Int × (Option Addr)))))))) × H)) =>
      ptrK x4 fun (a1 : Addr) =>
      letH (growIf h3 9) fun (h4 : H) =>
      bindO (ldI .i64 h4 (add a1 0)) fun (x5 : Int) =>
      ptrK x4 fun (a2 : Addr) =>
      bindO (ldI .i64 h4 (add a2 0)) fun (x6 : Int) =>
      ptrK size1 fun (a3 : Addr) =>
      bindO (ixAT 8 1 a3 x6) fun (a4 : Addr) =>
      bindO (ldI .i64 h4 a4) fun (x7 : Int) =>
      bind2 (head_Of x5 9 x7 h4) fun ((x8, x9, x10, x11, x12) : Int × Int × Int × Int × Int) (h5 : H) =>
      letH (addP 255 h3.size [(7, (row 67 [(.int .i64 0), (.int .i64 0), (.int .i64 0), (.int .i64 0), (.int .i64 0)]))] h5) fun (h6 : H) =>
      bindO (stZ [.int .i64, .int .i64, .int .i64, .int .i64, .int .i64] h6 (⟨(h3.size + 7), 0, (some 0)⟩ : Addr) ((x8, x9, x10, x11, x12) : Int × Int × Int × Int × Int)) fun (h7 : H) =>
      ptrK x4 fun (a5 : Addr) =>
      letH (addP 511 h3.size [(7, (row 67 [(.int .i64 0), (.int .i64 0), (.int .i64 0), (.int .i64 0), (.int .i64 0)]))] h7) fun (h8 : H) =>
      letH (tickIf 9 h8) fun (h9 : H) =>
      bindO (ldI .i64 h9 (add a5 1)) fun (x13 : Int) =>
      bindO (st1 h9 (add (⟨(h3.size + 7), 0, (some 0)⟩ : Addr) 3) (.int .i64 x13)) fun (h10 : H) =>
      ptrK x4 fun (a6 : Addr) =>
      letH (growIf h10 10) fun (h11 : H) =>
      bindO (ldI .i64 h11 (add a6 0)) fun (x14 : Int) =>
      ptrK x4 fun (a7 : Addr) =>
      letH (addP 16 h10.size [(3, (row 5 [(.int .u8 (IntKind.wrap .u8 x14))]))] h11) fun (h12 : H) =>
      bindO (ldI .i64 h12 (add a7 0)) fun (x15 : Int) =>
      ptrK size1 fun (a8 : Addr) =>
      bindO (ixAT 8 1 a8 x15) fun (a9 : Addr) =>
      letH (addP 112 h10.size [(3, (row 5 [(.int .u8 (IntKind.wrap .u8 x14))]))] h11) fun (h13 : H) =>
      bindO (ldI .i64 h13 a9) fun (x16 : Int) =>
      letH (addP 255 h10.size [(3, (row 5 [(.int .u8 (IntKind.wrap .u8 x14))]))] h11) fun (h14 : H) =>
      bind2 (hand_Text (⟨(some (⟨(h10.size + 3), 0, (some 0)⟩ : Addr)), 1, 1⟩ : Sl) x16 h14) fun (x17 : Sl) (h15 : H) =>
      letH (addP 1023 h10.size [(3, (row 5 [(.int .u8 (IntKind.wrap .u8 x14))]))] h15) fun (h16 : H) =>
      letH (tickIf 10 h16) fun (h17 : H) =>
      letH (growIf h17 9) fun (h18 : H) =>
      bindO (ldZ [.int .i64, .int .i64, .int .i64, .int .i64, .int .i64] h18 (⟨(h3.size + 7), 0, (some 0)⟩ : Addr)) fun ((x18, x19, x20, x21, x22) : Int × Int × Int × Int × Int) =>
      bindO (ldZ [.int .i64, .int .i64, .int .i64, .int .i64, .int .i64] h18 (⟨(h3.size + 7), 0, (some 0)⟩ : Addr)) fun ((x23, x24, x25, x26, x27) : Int × Int × Int × Int × Int) =>
      bind2 (head_Part (x23, x24, x25, x26, x27) x17 h18) fun (x28 : Sl) (h19 : H) =>
      letH (addP 62 h17.size [(5, (row 29 [(.slice x28.base x28.len x28.cap)]))] h19) fun (h20 : H) =>
      bind2 (head_Lay (x18, x19, x20, x21, x22) (⟨(some (⟨(h17.size + 5), 0, (some 0)⟩ : Addr)), 1, 1⟩ : Sl) h20) fun (x29 : Sl) (h21 : H) =>
      letH (addP 127 h17.size [(5, (row 29 [(.slice x28.base x28.len x28.cap)]))] h21) fun (h22 : H) =>
      bind2 (inbox_Box_Piece b2 3 x29 h22) fun (x30 : Sl) (h23 : H) =>
      letH (addP 0 h17.size [(5, (row 29 [(.slice x28.base x28.len x28.cap)]))] h19) fun (h24 : H) =>
      bindO (ldZ [.int .i64, .int .i64, .int .i64, .int .i64, .int .i64] h24 (⟨(h3.size + 7), 0, (some 0)⟩ : Addr)) fun ((x31, x32, x33, x34, x35) : Int × Int × Int × Int × Int) =>
      condK (veq (.agg #[(.int .i64 x18), (.int .i64 x19), (.int .i64 x20), (.int .i64 x21), (.int .i64 x22)]) (.agg #[(.int .i64 x31), (.int .i64 x32), (.int .i64 x33), (.int .i64 x34), (.int .i64 x35)])) (
        ptrK x4 fun (a10 : Addr) =>
        letH (addP 511 h17.size [(5, (row 29 [(.slice x28.base x28.len x28.cap)]))] h23) fun (h25 : H) =>
        letH (tickIf 9 h25) fun (h26 : H) =>
        bindO (ldZ [.int .i64, .int .i64] h26 a10) fun ((x36, x37) : Int × Int) =>
        bindO (updTZ ⟨false, [.bool]⟩ h26 had1 [x36, x37] ((true) : Bool)) fun (h27 : H) =>
        joinO (
          loopO (P.law22_InWhole_l4 inbox_New law22_known hand_Pick head_Of hand_Text head_Part head_Lay inbox_Box_Piece inbox_Box_Late) ((order1, (b2, (all1, (size1, (had1, (done1, (i1, (x4, ((some (⟨(h3.size + 7), 0, (some 0)⟩ : Addr)), (x17, (x30, (true, 0)))))))))))), h27)) fun (((order2, (b3, (all2, (size2, (had2, (done2, (i2, (x38, (text, (ev, whole)))))))))), h28) : ((Sl × ((Option Addr) × (Sl × ((Option Addr) × ((Option Nat) × ((Option Nat) × (Int × ((Option Addr) × (Sl × (Sl × Bool)))))))))) × H)) =>
        joinO (
          condK whole (
            ptrK x38 fun (a11 : Addr) =>
            bindO (ldI .i64 h28 (add a11 0)) fun (x39 : Int) =>
            bindO (lookT .i64 ⟨false, [.bool]⟩ (.bool false) h28 done2 x39) fun (x40 : Bool) =>
            condK (!((((ev.len : Nat) : Int) == 1) == (!x40))) (
              some (Sum.inl ((order2, (b3, (all2, (size2, (had2, (done2, (i2, (x38, (whole, true))))))))), h28))) (
              condK (((ev.len : Nat) : Int) == 1) (
                bindO (ixT 4 ev 0) fun (a12 : Addr) =>
                bindO (ldI .i64 h28 (add a12 0)) fun (x41 : Int) =>
                condK (x41 != 1) (
                  some (Sum.inl ((order2, (b3, (all2, (size2, (had2, (done2, (i2, (x38, (whole, true))))))))), h28))) (
                  bindO (ixT 4 ev 0) fun (a13 : Addr) =>
                  bindO (ldI .i64 h28 (add a13 1)) fun (x42 : Int) =>
                  ptrK x38 fun (a14 : Addr) =>
                  bindO (ldI .i64 h28 (add a14 0)) fun (x43 : Int) =>
                  condK (x42 != x43) (
                    some (Sum.inl ((order2, (b3, (all2, (size2, (had2, (done2, (i2, (x38, (whole, true))))))))), h28))) (
                    bindO (ixT 4 ev 0) fun (a15 : Addr) =>
                    bindO (ldS h28 (add a15 3)) fun (x44 : ByteArray) =>
                    bind2 (strT h28 text) fun (x45 : ByteArray) (h29 : H) =>
                    some (Sum.inl ((order2, (b3, (all2, (size2, (had2, (done2, (i2, (x38, (whole, (!(x44.toList == x45.toList))))))))))), h28))))) (
                some (Sum.inl ((order2, (b3, (all2, (size2, (had2, (done2, (i2, (x38, (whole, false))))))))), h28))))) (
            condK (!((((ev.len : Nat) : Int) == 1) == false)) (
              some (Sum.inl ((order2, (b3, (all2, (size2, (had2, (done2, (i2, (x38, (whole, true))))))))), h28))) (
              condK (((ev.len : Nat) : Int) == 1) (
                bindO (ixT 4 ev 0) fun (a16 : Addr) =>
                bindO (ldI .i64 h28 (add a16 0)) fun (x46 : Int) =>
                condK (x46 != 1) (
                  some (Sum.inl ((order2, (b3, (all2, (size2, (had2, (done2, (i2, (x38, (whole, true))))))))), h28))) (
                  bindO (ixT 4 ev 0) fun (a17 : Addr) =>
                  bindO (ldI .i64 h28 (add a17 1)) fun (x47 : Int) =>
                  ptrK x38 fun (a18 : Addr) =>
                  bindO (ldI .i64 h28 (add a18 0)) fun (x48 : Int) =>
                  condK (x47 != x48) (
                    some (Sum.inl ((order2, (b3, (all2, (size2, (had2, (done2, (i2, (x38, (whole, true))))))))), h28))) (
                    bindO (ixT 4 ev 0) fun (a19 : Addr) =>
                    bindO (ldS h28 (add a19 3)) fun (x49 : ByteArray) =>
                    bind2 (strT h28 text) fun (x50 : ByteArray) (h30 : H) =>
                    some (Sum.inl ((order2, (b3, (all2, (size2, (had2, (done2, (i2, (x38, (whole, (!(x49.toList == x50.toList))))))))))), h28))))) (
                some (Sum.inl ((order2, (b3, (all2, (size2, (had2, (done2, (i2, (x38, (whole, false))))))))), h28)))))) fun (((order3, (b4, (all3, (size3, (had3, (done3, (i3, (x39, (whole1, x40))))))))), h29) : ((Sl × ((Option Addr) × (Sl × ((Option Addr) × ((Option Nat) × ((Option Nat) × (Int × ((Option Addr) × (Bool × Bool))))))))) × H)) =>
        condK x40 (
          some (Sum.inr (Sum.inr (Sum.inr (false, h29))))) (
          joinO (
            ptrK x39 fun (a11 : Addr) =>
            bindO (ldI .i64 h29 (add a11 0)) fun (x41 : Int) =>
            ptrK x39 fun (a12 : Addr) =>
            bindO (ldI .i64 h29 (add a12 0)) fun (x42 : Int) =>
            bindO (lookT .i64 ⟨false, [.bool]⟩ (.bool false) h29 done3 x42) fun (x43 : Bool) =>
            condK x43 (
              bindO (updT .i64 ⟨false, [.bool]⟩ h29 done3 x41 ((true) : Bool)) fun (h30 : H) =>
              some (Sum.inl ((order3, (b4, (all3, (size3, (had3, (done3, i3)))))), h30))) (
              bindO (updT .i64 ⟨false, [.bool]⟩ h29 done3 x41 ((whole1) : Bool)) fun (h31 : H) =>
              some (Sum.inl ((order3, (b4, (all3, (size3, (had3, (done3, i3)))))), h31)))) fun (((order4, (b5, (all4, (size4, (had4, (done4, i4)))))), h30) : ((Sl × ((Option Addr) × (Sl × ((Option Addr) × ((Option Nat) × ((Option Nat) × Int)))))) × H)) =>
          some (Sum.inl ((order4, (b5, (all4, (size4, (had4, (done4, i4)))))), h30)))) none) fun (((order1, (b1, (all1, (size1, (had1, (done1, i1)))))), h1) : ((Sl × ((Option Addr) × (Sl × ((Option Addr) × ((Option Nat) × ((Option Nat) × Int)))))) × H)) =>
    some (Sum.inl ((order1, (b1, (all1, (size1, (had1, (done1, (IntKind.wrap .i64 (i1 + 1)))))))), h1))) (
    some (Sum.inr (Sum.inl (b, h0))))

noncomputable def P.law22_InWhole_l2 (inbox_New : H → Option ((Option Addr) × H)) (law22_known : H → Option ((Bool) × H)) (hand_Pick : Int → Int → H → Option ((Int) × H)) (head_Of : Int → Int → Int → H → Option (((Int × Int × Int × Int × Int)) × H)) (hand_Text : Sl → Int → H → Option ((Sl) × H)) (head_Part : (Int × Int × Int × Int × Int) → Sl → H → Option ((Sl) × H)) (head_Lay : (Int × Int × Int × Int × Int) → Sl → H → Option ((Sl) × H)) (inbox_Box_Piece : Option Addr → Int → Sl → H → Option ((Sl) × H)) (inbox_Box_Late : Option Addr → Int → H → Option ((Sl) × H)) : ((Sl × (Sl × ((Option Addr) × (Sl × ((Option Addr) × (Int × Int)))))) × H) → Option (((Sl × (Sl × ((Option Addr) × (Sl × ((Option Addr) × (Int × Int)))))) × H) ⊕ (((Sl × (Sl × ((Option Addr) × (Sl × ((Option Addr) × Int))))) × H) ⊕ (((Sl × (Sl × ((Option Addr) × (Sl × ((Option Addr) × Int))))) × H) ⊕ (((Sl × ((Option Addr) × (Sl × (Option Addr)))) × H) ⊕ (Bool × H))))) := fun ((sizes, (order, (b, (all, (size, (i, k)))))), h0) =>
  ptrK size fun (a0 : Addr) =>
  bindO (ixAT 8 1 a0 i) fun (a1 : Addr) =>
  bindO (ldI .i64 h0 a1) fun (x0 : Int) =>
  bind2 (head_Of i 9 x0 h0) fun ((x1, x2, x3, x4, x5) : Int × Int × Int × Int × Int) (h1 : H) =>
  condK (decide ((k < x3))) (
    newO (row 93 [(.int .i64 i), (.int .i64 k)]) h1 fun (b1 : Nat) (h2 : H) =>
    bind2 (appT 93 2 16 h2 all (⟨(some (⟨b1, 0, (some 0)⟩ : Addr)), 1, 1⟩ : Sl)) fun (x6 : Sl) (h3 : H) =>
    some (Sum.inl ((sizes, (order, (b, (x6, (size, (i, (IntKind.wrap .i64 (k + 1)))))))), h3))) (
    some (Sum.inr (Sum.inl ((sizes, (order, (b, (all, (size, i))))), h1))))

noncomputable def P.law22_InWhole_l1 (inbox_New : H → Option ((Option Addr) × H)) (law22_known : H → Option ((Bool) × H)) (hand_Pick : Int → Int → H → Option ((Int) × H)) (head_Of : Int → Int → Int → H → Option (((Int × Int × Int × Int × Int)) × H)) (hand_Text : Sl → Int → H → Option ((Sl) × H)) (head_Part : (Int × Int × Int × Int × Int) → Sl → H → Option ((Sl) × H)) (head_Lay : (Int × Int × Int × Int × Int) → Sl → H → Option ((Sl) × H)) (inbox_Box_Piece : Option Addr → Int → Sl → H → Option ((Sl) × H)) (inbox_Box_Late : Option Addr → Int → H → Option ((Sl) × H)) : ((Sl × (Sl × ((Option Addr) × (Sl × ((Option Addr) × Int))))) × H) → Option (((Sl × (Sl × ((Option Addr) × (Sl × ((Option Addr) × Int))))) × H) ⊕ (((Sl × ((Option Addr) × (Sl × (Option Addr)))) × H) ⊕ (Bool × H))) := fun ((sizes, (order, (b, (all, (size, i))))), h0) =>
  joinO (
    condK (decide ((i < ((sizes.len : Nat) : Int)))) (
      some (Sum.inl ((sizes, (order, (b, (all, (size, (i, (decide ((i < 8))))))))), h0))) (
      some (Sum.inl ((sizes, (order, (b, (all, (size, (i, false)))))), h0)))) fun (((sizes1, (order1, (b1, (all1, (size1, (i1, x0)))))), h1) : ((Sl × (Sl × ((Option Addr) × (Sl × ((Option Addr) × (Int × Bool)))))) × H)) =>
  condK x0 (
    joinO (
      bindO (ixT 1 sizes1 i1) fun (a0 : Addr) =>
      bindO (ldI .i64 h1 a0) fun (x1 : Int) =>
      bind2 (hand_Pick x1 600 h1) fun (x2 : Int) (h2 : H) =>
      ptrK size1 fun (a1 : Addr) =>
      bindO (ixAT 8 1 a1 i1) fun (a2 : Addr) =>
      bindO (st1 h2 a2 (.int .i64 (IntKind.wrap .i64 (1 + x2)))) fun (h3 : H) =>
      loopO (P.law22_InWhole_l2 inbox_New law22_known hand_Pick head_Of hand_Text head_Part head_Lay inbox_Box_Piece inbox_Box_Late) ((sizes1, (order1, (b1, (all1, (size1, (i1, 0)))))), h3)) fun (((sizes2, (order2, (b2, (all2, (size2, i2))))), h2) : ((Sl × (Sl × ((Option Addr) × (Sl × ((Option Addr) × Int))))) × H)) =>
    some (Sum.inl ((sizes2, (order2, (b2, (all2, (size2, (IntKind.wrap .i64 (i2 + 1))))))), h2))) (
    some (Sum.inr (Sum.inl ((order1, (b1, (all1, size1))), h1))))

noncomputable def P.law22_InWhole (inbox_New : H → Option ((Option Addr) × H)) (law22_known : H → Option ((Bool) × H)) (hand_Pick : Int → Int → H → Option ((Int) × H)) (head_Of : Int → Int → Int → H → Option (((Int × Int × Int × Int × Int)) × H)) (hand_Text : Sl → Int → H → Option ((Sl) × H)) (head_Part : (Int × Int × Int × Int × Int) → Sl → H → Option ((Sl) × H)) (head_Lay : (Int × Int × Int × Int × Int) → Sl → H → Option ((Sl) × H)) (inbox_Box_Piece : Option Addr → Int → Sl → H → Option ((Sl) × H)) (inbox_Box_Late : Option Addr → Int → H → Option ((Sl) × H)) (sizes : Sl) (order : Sl) (h : H) : Option (Bool × H) :=
  bind2 (inbox_New h) fun (x0 : Option Addr) (h0 : H) =>
  joinO (
    bind2 (law22_known h0) fun (x1 : Bool) (h1 : H) =>
    condK (!x1) (
      some (Sum.inl ((sizes, (order, (x0, true))), h1))) (
      bindO (eqPT x0 none) fun (x2 : Bool) =>
      some (Sum.inl ((sizes, (order, (x0, x2))), h1)))) fun (((sizes1, (order1, (b, x1))), h1) : ((Sl × (Sl × ((Option Addr) × Bool))) × H)) =>
  condK x1 (
    some (false, h1)) (
    newO (row 91 [(.int .i64 0), (.int .i64 0), (.int .i64 0), (.int .i64 0), (.int .i64 0), (.int .i64 0), (.int .i64 0), (.int .i64 0)]) h1 fun (b1 : Nat) (h2 : H) =>
    joinO (
      loopO (P.law22_InWhole_l1 inbox_New law22_known hand_Pick head_Of hand_Text head_Part head_Lay inbox_Box_Piece inbox_Box_Late) ((sizes1, (order1, (b, ((⟨none, 0, 0⟩ : Sl), ((some (⟨b1, 0, (some 0)⟩ : Addr)), 0))))), h2)) fun (((order2, (b2, (all, size))), h3) : ((Sl × ((Option Addr) × (Sl × (Option Addr)))) × H)) =>
    condK (((all.len : Nat) : Int) == 0) (
      some (true, h3)) (
      newO (.map []) h3 fun (b3 : Nat) (h4 : H) =>
      newO (.map []) h4 fun (b4 : Nat) (h5 : H) =>
      joinO (
        loopO (P.law22_InWhole_l3 inbox_New law22_known hand_Pick head_Of hand_Text head_Part head_Lay inbox_Box_Piece inbox_Box_Late) ((order2, (b2, (all, (size, ((some b3), ((some b4), 0)))))), h5)) fun ((b5, h6) : ((Option Addr) × H)) =>
      bind2 (inbox_Box_Late b5 99 h6) fun (x2 : Sl) (h7 : H) =>
      some ((((x2.len : Nat) : Int) == 0), h7)))
noncomputable abbrev law22_InWhole_l4 := P.law22_InWhole_l4 inbox_New law22_known hand_Pick head_Of hand_Text head_Part head_Lay inbox_Box_Piece inbox_Box_Late
noncomputable abbrev law22_InWhole_l3 := P.law22_InWhole_l3 inbox_New law22_known hand_Pick head_Of hand_Text head_Part head_Lay inbox_Box_Piece inbox_Box_Late
noncomputable abbrev law22_InWhole_l2 := P.law22_InWhole_l2 inbox_New law22_known hand_Pick head_Of hand_Text head_Part head_Lay inbox_Box_Piece inbox_Box_Late
noncomputable abbrev law22_InWhole_l1 := P.law22_InWhole_l1 inbox_New law22_known hand_Pick head_Of hand_Text head_Part head_Lay inbox_Box_Piece inbox_Box_Late
noncomputable def law22_InWhole : Sl → Sl → H → Option ((Bool) × H) := P.law22_InWhole inbox_New law22_known hand_Pick head_Of hand_Text head_Part head_Lay inbox_Box_Piece inbox_Box_Late
noncomputable def ann_9 : Ann := ⟨fun i => bif i.beq 8 then some ⟨[0, 1, 5, 6, 7, 8], [⟨false, [.sl]⟩, ⟨false, [.sl]⟩, ⟨false, [.ptr]⟩, ⟨false, [.sl]⟩, ⟨false, [.ptr]⟩, ⟨false, [.int .i64]⟩]⟩ else bif i.beq 14 then some ⟨[1, 5, 6, 7], [⟨false, [.sl]⟩, ⟨false, [.ptr]⟩, ⟨false, [.sl]⟩, ⟨false, [.ptr]⟩]⟩ else bif i.beq 20 then some ⟨[1, 5, 6, 7, 10, 11, 12], [⟨false, [.sl]⟩, ⟨false, [.ptr]⟩, ⟨false, [.sl]⟩, ⟨false, [.ptr]⟩, ⟨false, [.map]⟩, ⟨false, [.map]⟩, ⟨false, [.int .i64]⟩]⟩ else bif i.beq 24 then some ⟨[1, 5, 6, 7, 10, 11, 12, 13], [⟨false, [.sl]⟩, ⟨false, [.ptr]⟩, ⟨false, [.sl]⟩, ⟨false, [.ptr]⟩, ⟨false, [.map]⟩, ⟨false, [.map]⟩, ⟨false, [.int .i64]⟩, ⟨false, [.ptr]⟩]⟩ else bif i.beq 34 then some ⟨[1, 5, 6, 7, 10, 11, 12, 13, 15, 16, 17], [⟨false, [.sl]⟩, ⟨false, [.ptr]⟩, ⟨false, [.sl]⟩, ⟨false, [.ptr]⟩, ⟨false, [.map]⟩, ⟨false, [.map]⟩, ⟨false, [.int .i64]⟩, ⟨false, [.ptr]⟩, ⟨false, [.sl]⟩, ⟨false, [.sl]⟩, ⟨false, [.bool]⟩]⟩ else bif i.beq 37 then some ⟨[5], [⟨false, [.ptr]⟩]⟩ else none, fun i => bif i.beq 7 then some ⟨[0, 1, 5, 6, 7, 8], [⟨false, [.sl]⟩, ⟨false, [.sl]⟩, ⟨false, [.ptr]⟩, ⟨false, [.sl]⟩, ⟨false, [.ptr]⟩, ⟨false, [.int .i64]⟩]⟩ else bif i.beq 11 then some ⟨[0, 1, 5, 6, 7, 8, 9], [⟨false, [.sl]⟩, ⟨false, [.sl]⟩, ⟨false, [.ptr]⟩, ⟨false, [.sl]⟩, ⟨false, [.ptr]⟩, ⟨false, [.int .i64]⟩, ⟨false, [.int .i64]⟩]⟩ else bif i.beq 19 then some ⟨[1, 5, 6, 7, 10, 11, 12], [⟨false, [.sl]⟩, ⟨false, [.ptr]⟩, ⟨false, [.sl]⟩, ⟨false, [.ptr]⟩, ⟨false, [.map]⟩, ⟨false, [.map]⟩, ⟨false, [.int .i64]⟩]⟩ else bif i.beq 31 then some ⟨[1, 5, 6, 7, 10, 11, 12, 13, 14, 15, 16, 17, 18], [⟨false, [.sl]⟩, ⟨false, [.ptr]⟩, ⟨false, [.sl]⟩, ⟨false, [.ptr]⟩, ⟨false, [.map]⟩, ⟨false, [.map]⟩, ⟨false, [.int .i64]⟩, ⟨false, [.ptr]⟩, ⟨false, [.ptr]⟩, ⟨false, [.sl]⟩, ⟨false, [.sl]⟩, ⟨false, [.bool]⟩, ⟨false, [.int .i64]⟩]⟩ else none, fun i => bif i.beq 2 then some ⟨[0, 1, 5, 25], [⟨false, [.sl]⟩, ⟨false, [.sl]⟩, ⟨false, [.ptr]⟩, ⟨false, [.bool]⟩]⟩ else bif i.beq 7 then some ⟨[0, 1, 5, 6, 7, 8, 33], [⟨false, [.sl]⟩, ⟨false, [.sl]⟩, ⟨false, [.ptr]⟩, ⟨false, [.sl]⟩, ⟨false, [.ptr]⟩, ⟨false, [.int .i64]⟩, ⟨false, [.bool]⟩]⟩ else bif i.beq 33 then some ⟨[1, 5, 6, 7, 10, 11, 12, 13, 14, 15, 16, 17, 18], [⟨false, [.sl]⟩, ⟨false, [.ptr]⟩, ⟨false, [.sl]⟩, ⟨false, [.ptr]⟩, ⟨false, [.map]⟩, ⟨false, [.map]⟩, ⟨false, [.int .i64]⟩, ⟨false, [.ptr]⟩, ⟨false, [.ptr]⟩, ⟨false, [.sl]⟩, ⟨false, [.sl]⟩, ⟨false, [.bool]⟩, ⟨false, [.int .i64]⟩]⟩ else bif i.beq 34 then some ⟨[1, 5, 6, 7, 10, 11, 12, 13, 17, 181], [⟨false, [.sl]⟩, ⟨false, [.ptr]⟩, ⟨false, [.sl]⟩, ⟨false, [.ptr]⟩, ⟨false, [.map]⟩, ⟨false, [.map]⟩, ⟨false, [.int .i64]⟩, ⟨false, [.ptr]⟩, ⟨false, [.bool]⟩, ⟨false, [.bool]⟩]⟩ else bif i.beq 36 then some ⟨[1, 5, 6, 7, 10, 11, 12], [⟨false, [.sl]⟩, ⟨false, [.ptr]⟩, ⟨false, [.sl]⟩, ⟨false, [.ptr]⟩, ⟨false, [.map]⟩, ⟨false, [.map]⟩, ⟨false, [.int .i64]⟩]⟩ else none⟩
noncomputable def E_9 : Ent := ⟨9, [⟨false, [.sl]⟩, ⟨false, [.sl]⟩], [⟨false, [.bool]⟩], fun (x : Sl × Sl) h => law22_InWhole x.1 x.2 h⟩
theorem eq_9 (inbox_New : H → Option ((Option Addr) × H)) (law22_known : H → Option ((Bool) × H)) (hand_Pick : Int → Int → H → Option ((Int) × H)) (head_Of : Int → Int → Int → H → Option (((Int × Int × Int × Int × Int)) × H)) (hand_Text : Sl → Int → H → Option ((Sl) × H)) (head_Part : (Int × Int × Int × Int × Int) → Sl → H → Option ((Sl) × H)) (head_Lay : (Int × Int × Int × Int × Int) → Sl → H → Option ((Sl) × H)) (inbox_Box_Piece : Option Addr → Int → Sl → H → Option ((Sl) × H)) (inbox_Box_Late : Option Addr → Int → H → Option ((Sl) × H)) : (fun (x : PT E_9.ps) (h : H) => runFK Go.Proofs.Ytaebjajbogedkaa.Ov.D (lstK [⟨28, [], [⟨false, [.ptr]⟩], fun (x : Unit) h => inbox_New h⟩, ⟨29, [], [⟨false, [.bool]⟩], fun (x : Unit) h => law22_known h⟩, ⟨12, [⟨false, [.int .i64]⟩, ⟨false, [.int .i64]⟩], [⟨false, [.int .i64]⟩], fun (x : Int × Int) h => hand_Pick x.1 x.2 h⟩, ⟨31, [⟨false, [.int .i64]⟩, ⟨false, [.int .i64]⟩, ⟨false, [.int .i64]⟩], [⟨true, [.int .i64, .int .i64, .int .i64, .int .i64, .int .i64]⟩], fun (x : Int × Int × Int) h => head_Of x.1 x.2.1 x.2.2 h⟩, ⟨14, [⟨false, [.sl]⟩, ⟨false, [.int .i64]⟩], [⟨false, [.sl]⟩], fun (x : Sl × Int) h => hand_Text x.1 x.2 h⟩, ⟨38, [⟨true, [.int .i64, .int .i64, .int .i64, .int .i64, .int .i64]⟩, ⟨false, [.sl]⟩], [⟨false, [.sl]⟩], fun (x : ((Int × Int × Int × Int × Int)) × Sl) h => head_Part x.1 x.2 h⟩, ⟨30, [⟨true, [.int .i64, .int .i64, .int .i64, .int .i64, .int .i64]⟩, ⟨false, [.sl]⟩], [⟨false, [.sl]⟩], fun (x : ((Int × Int × Int × Int × Int)) × Sl) h => head_Lay x.1 x.2 h⟩, ⟨32, [⟨false, [.ptr]⟩, ⟨false, [.int .i64]⟩, ⟨false, [.sl]⟩], [⟨false, [.sl]⟩], fun (x : Option Addr × Int × Sl) h => inbox_Box_Piece x.1 x.2.1 x.2.2 h⟩, ⟨36, [⟨false, [.ptr]⟩, ⟨false, [.int .i64]⟩], [⟨false, [.sl]⟩], fun (x : Option Addr × Int) h => inbox_Box_Late x.1 x.2 h⟩]) ann_9 Try.f9 (Try.f9.body.getD .skip) E_9.ys (encP E_9.ps x) h) = (fun (x : Sl × Sl) h => P.law22_InWhole inbox_New law22_known hand_Pick head_Of hand_Text head_Part head_Lay inbox_Box_Piece inbox_Box_Late x.1 x.2 h) := by kernel_rfl
theorem ok_9 : E_9.ok Go.Proofs.Ytaebjajbogedkaa.Ov.D := fun x h y h' e => runFK_ok (lstK_ok [E_28, E_29, E_12, E_31, E_14, E_38, E_30, E_32, E_36] (List.forall_mem_cons.2 ⟨ok_28, List.forall_mem_cons.2 ⟨ok_29, List.forall_mem_cons.2 ⟨ok_12, List.forall_mem_cons.2 ⟨ok_31, List.forall_mem_cons.2 ⟨ok_14, List.forall_mem_cons.2 ⟨ok_38, List.forall_mem_cons.2 ⟨ok_30, List.forall_mem_cons.2 ⟨ok_32, List.forall_mem_cons.2 ⟨ok_36, fun E h => nomatch h⟩⟩⟩⟩⟩⟩⟩⟩⟩)) (A := ann_9) (by kernel_rfl) (show Go.Proofs.Ytaebjajbogedkaa.Ov.D.fn.get 9 = some Try.f9 by kernel_rfl) (show Try.f9.body = some (Try.f9.body.getD .skip) by kernel_rfl) ((congrFun (congrFun (eq_9 inbox_New law22_known hand_Pick head_Of hand_Text head_Part head_Lay inbox_Box_Piece inbox_Box_Late) x) h).trans e)
end Go.Proofs.Ytaebjajbogedkaa.T
