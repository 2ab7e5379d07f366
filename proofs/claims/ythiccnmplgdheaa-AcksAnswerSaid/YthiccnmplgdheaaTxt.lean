/- The typed texts of the program's functions, printed by a program of this session (wip/KPrint.lean) out of the machine's own definitions; each is the machine's own run, by the kernel's reduction. -/
import Derived.Test.YthiccnmplgdheaaAbsF
import Derived.Test.YthiccnmplgdheaaTab
import Derived.KernelRfl
set_option linter.unusedVariables false
set_option maxRecDepth 1000000
namespace Go.Proofs.Ythiccnmplgdheaa.T
open Go Go.Abs Go.Proofs
/-! acks_New -/
noncomputable def acks_New  (h : H) : Option (Option Addr × H) :=
  newO (row 42 [(.slice none 0 0), (.bool false), (.int .i64 (-1))]) h fun (b : Nat) (h0 : H) =>
  some ((some (⟨b, 0, (some 0)⟩ : Addr)), h0)
noncomputable def ann_22 : Ann := ⟨fun _ => none, fun _ => none, fun _ => none⟩
noncomputable def E_22 : Ent := ⟨22, [], [⟨false, [.ptr]⟩], fun (x : Unit) h => acks_New h⟩
theorem eq_22  : (fun (x : PT E_22.ps) (h : H) => runFK Go.Proofs.Ythiccnmplgdheaa.Tab.D (lstK []) ann_22 Try.f22 (Try.f22.body.getD .skip) E_22.ys (encP E_22.ps x) h) = (fun (x : Unit) h => acks_New  h) := by kernel_rfl
theorem ok_22 : E_22.ok Go.Proofs.Ythiccnmplgdheaa.Tab.D := fun x h y h' e => runFK_ok (lstK_ok [] (fun E h => nomatch h)) (A := ann_22) (by kernel_rfl) (show Go.Proofs.Ythiccnmplgdheaa.Tab.D.fn.get 22 = some Try.f22 by kernel_rfl) (show Try.f22.body = some (Try.f22.body.getD .skip) by kernel_rfl) ((congrFun (congrFun (eq_22 ) x) h).trans e)
/-! acks_Seen_Newest -/
noncomputable def acks_Seen_Newest (s : Option Addr) (h : H) : Option (Int × H) :=
  ptrK s fun (a0 : Addr) =>
  bindO (ldI .i64 h (add a0 2)) fun (x0 : Int) =>
  some (x0, h)
noncomputable def ann_83 : Ann := ⟨fun _ => none, fun _ => none, fun _ => none⟩
noncomputable def E_83 : Ent := ⟨83, [⟨false, [.ptr]⟩], [⟨false, [.int .i64]⟩], fun (x : Option Addr) h => acks_Seen_Newest x h⟩
theorem eq_83  : (fun (x : PT E_83.ps) (h : H) => runFK Go.Proofs.Ythiccnmplgdheaa.Tab.D (lstK []) ann_83 Try.f83 (Try.f83.body.getD .skip) E_83.ys (encP E_83.ps x) h) = (fun (x : Option Addr) h => acks_Seen_Newest x h) := by kernel_rfl
theorem ok_83 : E_83.ok Go.Proofs.Ythiccnmplgdheaa.Tab.D := fun x h y h' e => runFK_ok (lstK_ok [] (fun E h => nomatch h)) (A := ann_83) (by kernel_rfl) (show Go.Proofs.Ythiccnmplgdheaa.Tab.D.fn.get 83 = some Try.f83 by kernel_rfl) (show Try.f83.body = some (Try.f83.body.getD .skip) by kernel_rfl) ((congrFun (congrFun (eq_83 ) x) h).trans e)
/-! spans_Set_Has_1 -/
noncomputable def spans_Set_Has_1 (r : Int × Int) (x0 : Option Addr) (h : H) : Option (Bool × H) :=
  newO (row 36 [(.int .i64 r.1), (.int .i64 r.2)]) h fun (b : Nat) (h0 : H) =>
  bindO (ixAT 2 1 (⟨b, 0, (some 0)⟩ : Addr) 0) fun (a0 : Addr) =>
  bindO (ldI .i64 h0 a0) fun (x1 : Int) =>
  ptrK x0 fun (a1 : Addr) =>
  bindO (ldI .i64 h0 a1) fun (x2 : Int) =>
  condK (decide ((x1 ≤ x2))) (
    ptrK x0 fun (a2 : Addr) =>
    bindO (ldI .i64 h0 a2) fun (x3 : Int) =>
    bindO (ixAT 2 1 (⟨b, 0, (some 0)⟩ : Addr) 1) fun (a3 : Addr) =>
    bindO (ldI .i64 h0 a3) fun (x4 : Int) =>
    some ((decide ((x3 < x4))), h0)) (
    some (false, h0))
noncomputable def ann_94 : Ann := ⟨fun _ => none, fun _ => none, fun _ => none⟩
noncomputable def E_94 : Ent := ⟨94, [⟨true, [.int .i64, .int .i64]⟩, ⟨false, [.ptr]⟩], [⟨false, [.bool]⟩], fun (x : ((Int × Int)) × Option Addr) h => spans_Set_Has_1 x.1 x.2 h⟩
theorem eq_94  : (fun (x : PT E_94.ps) (h : H) => runFK Go.Proofs.Ythiccnmplgdheaa.Tab.D (lstK []) ann_94 Try.f94 (Try.f94.body.getD .skip) E_94.ys (encP E_94.ps x) h) = (fun (x : ((Int × Int)) × Option Addr) h => spans_Set_Has_1 x.1 x.2 h) := by kernel_rfl
theorem ok_94 : E_94.ok Go.Proofs.Ythiccnmplgdheaa.Tab.D := fun x h y h' e => runFK_ok (lstK_ok [] (fun E h => nomatch h)) (A := ann_94) (by kernel_rfl) (show Go.Proofs.Ythiccnmplgdheaa.Tab.D.fn.get 94 = some Try.f94 by kernel_rfl) (show Try.f94.body = some (Try.f94.body.getD .skip) by kernel_rfl) ((congrFun (congrFun (eq_94 ) x) h).trans e)
/-! slices_IndexFunc_2_int_2_int_spans_Set_Has_1 -/
noncomputable def P.slices_IndexFunc_2_int_2_int_spans_Set_Has_1_l1 (spans_Set_Has_1 : (Int × Int) → Option Addr → H → Option ((Bool) × H)) : ((Sl × ((Option Addr) × (Int × Int))) × H) → Option (((Sl × ((Option Addr) × (Int × Int))) × H) ⊕ (Int × H)) := fun ((s, (f, (x0, x1))), h0) =>
  condK (decide ((x1 < x0))) (
    bindO (ixT 2 s x1) fun (a0 : Addr) =>
    bindO (ldZ [.int .i64, .int .i64] h0 a0) fun ((x2, x3) : Int × Int) =>
    bind2 (spans_Set_Has_1 (x2, x3) f h0) fun (x4 : Bool) (h1 : H) =>
    condK x4 (
      some (Sum.inr (x1, h1))) (
      some (Sum.inl ((s, (f, (x0, (IntKind.wrap .i64 (x1 + 1))))), h1)))) (
    some (Sum.inr ((-1), h0)))

noncomputable def P.slices_IndexFunc_2_int_2_int_spans_Set_Has_1 (spans_Set_Has_1 : (Int × Int) → Option Addr → H → Option ((Bool) × H)) (s : Sl) (f : Option Addr) (h : H) : Option (Int × H) :=
  loopO (P.slices_IndexFunc_2_int_2_int_spans_Set_Has_1_l1 spans_Set_Has_1) ((s, (f, (((s.len : Nat) : Int), 0))), h)
noncomputable abbrev slices_IndexFunc_2_int_2_int_spans_Set_Has_1_l1 := P.slices_IndexFunc_2_int_2_int_spans_Set_Has_1_l1 spans_Set_Has_1
noncomputable def slices_IndexFunc_2_int_2_int_spans_Set_Has_1 : Sl → Option Addr → H → Option ((Int) × H) := P.slices_IndexFunc_2_int_2_int_spans_Set_Has_1 spans_Set_Has_1
noncomputable def ann_148c94 : Ann := ⟨fun _ => none, fun i => bif i.beq 2 then some ⟨[0, 1, 7, 8], [⟨false, [.sl]⟩, ⟨false, [.clo 94 1]⟩, ⟨false, [.int .i64]⟩, ⟨false, [.int .i64]⟩]⟩ else none, fun _ => none⟩
noncomputable def E_148c94 : Ent := ⟨148, [⟨false, [.sl]⟩, ⟨false, [.clo 94 1]⟩], [⟨false, [.int .i64]⟩], fun (x : Sl × Option Addr) h => slices_IndexFunc_2_int_2_int_spans_Set_Has_1 x.1 x.2 h⟩
theorem eq_148c94 (spans_Set_Has_1 : (Int × Int) → Option Addr → H → Option ((Bool) × H)) : (fun (x : PT E_148c94.ps) (h : H) => runFK Go.Proofs.Ythiccnmplgdheaa.Tab.D (lstK [⟨94, [⟨true, [.int .i64, .int .i64]⟩, ⟨false, [.ptr]⟩], [⟨false, [.bool]⟩], fun (x : ((Int × Int)) × Option Addr) h => spans_Set_Has_1 x.1 x.2 h⟩]) ann_148c94 Try.f148 (Try.f148.body.getD .skip) E_148c94.ys (encP E_148c94.ps x) h) = (fun (x : Sl × Option Addr) h => P.slices_IndexFunc_2_int_2_int_spans_Set_Has_1 spans_Set_Has_1 x.1 x.2 h) := by kernel_rfl
theorem ok_148c94 : E_148c94.ok Go.Proofs.Ythiccnmplgdheaa.Tab.D := fun x h y h' e => runFK_ok (lstK_ok [E_94] (List.forall_mem_cons.2 ⟨ok_94, fun E h => nomatch h⟩)) (A := ann_148c94) (by kernel_rfl) (show Go.Proofs.Ythiccnmplgdheaa.Tab.D.fn.get 148 = some Try.f148 by kernel_rfl) (show Try.f148.body = some (Try.f148.body.getD .skip) by kernel_rfl) ((congrFun (congrFun (eq_148c94 spans_Set_Has_1) x) h).trans e)
/-! slices_ContainsFunc_2_int_2_int_spans_Set_Has_1 -/
noncomputable def P.slices_ContainsFunc_2_int_2_int_spans_Set_Has_1 (slices_IndexFunc_2_int_2_int_spans_Set_Has_1 : Sl → Option Addr → H → Option ((Int) × H)) (s : Sl) (f : Option Addr) (h : H) : Option (Bool × H) :=
  bind2 (slices_IndexFunc_2_int_2_int_spans_Set_Has_1 s f h) fun (x0 : Int) (h0 : H) =>
  some ((decide ((x0 ≥ 0))), h0)
noncomputable def slices_ContainsFunc_2_int_2_int_spans_Set_Has_1 : Sl → Option Addr → H → Option ((Bool) × H) := P.slices_ContainsFunc_2_int_2_int_spans_Set_Has_1 slices_IndexFunc_2_int_2_int_spans_Set_Has_1
noncomputable def ann_93c94 : Ann := ⟨fun _ => none, fun _ => none, fun _ => none⟩
noncomputable def E_93c94 : Ent := ⟨93, [⟨false, [.sl]⟩, ⟨false, [.clo 94 1]⟩], [⟨false, [.bool]⟩], fun (x : Sl × Option Addr) h => slices_ContainsFunc_2_int_2_int_spans_Set_Has_1 x.1 x.2 h⟩
theorem eq_93c94 (slices_IndexFunc_2_int_2_int_spans_Set_Has_1 : Sl → Option Addr → H → Option ((Int) × H)) : (fun (x : PT E_93c94.ps) (h : H) => runFK Go.Proofs.Ythiccnmplgdheaa.Tab.D (lstK [⟨148, [⟨false, [.sl]⟩, ⟨false, [.clo 94 1]⟩], [⟨false, [.int .i64]⟩], fun (x : Sl × Option Addr) h => slices_IndexFunc_2_int_2_int_spans_Set_Has_1 x.1 x.2 h⟩]) ann_93c94 Try.f93 (Try.f93.body.getD .skip) E_93c94.ys (encP E_93c94.ps x) h) = (fun (x : Sl × Option Addr) h => P.slices_ContainsFunc_2_int_2_int_spans_Set_Has_1 slices_IndexFunc_2_int_2_int_spans_Set_Has_1 x.1 x.2 h) := by kernel_rfl
theorem ok_93c94 : E_93c94.ok Go.Proofs.Ythiccnmplgdheaa.Tab.D := fun x h y h' e => runFK_ok (lstK_ok [E_148c94] (List.forall_mem_cons.2 ⟨ok_148c94, fun E h => nomatch h⟩)) (A := ann_93c94) (by kernel_rfl) (show Go.Proofs.Ythiccnmplgdheaa.Tab.D.fn.get 93 = some Try.f93 by kernel_rfl) (show Try.f93.body = some (Try.f93.body.getD .skip) by kernel_rfl) ((congrFun (congrFun (eq_93c94 slices_IndexFunc_2_int_2_int_spans_Set_Has_1) x) h).trans e)
/-! spans_Set_Has -/
noncomputable def P.spans_Set_Has (slices_ContainsFunc_2_int_2_int_spans_Set_Has_1 : Sl → Option Addr → H → Option ((Bool) × H)) (s : Option Addr) (n : Int) (h : H) : Option (Bool × H) :=
  newO (row 3 [(.int .i64 n)]) h fun (b : Nat) (h0 : H) =>
  ptrK s fun (a0 : Addr) =>
  bindO (ldL h0 (add a0 0)) fun (x0 : Sl) =>
  bind2 (slices_ContainsFunc_2_int_2_int_spans_Set_Has_1 x0 (some (⟨b, 0, (some 0)⟩ : Addr)) h0) fun (x1 : Bool) (h1 : H) =>
  some (x1, h1)
noncomputable def spans_Set_Has : Option Addr → Int → H → Option ((Bool) × H) := P.spans_Set_Has slices_ContainsFunc_2_int_2_int_spans_Set_Has_1
noncomputable def ann_29 : Ann := ⟨fun _ => none, fun _ => none, fun _ => none⟩
noncomputable def E_29 : Ent := ⟨29, [⟨false, [.ptr]⟩, ⟨false, [.int .i64]⟩], [⟨false, [.bool]⟩], fun (x : Option Addr × Int) h => spans_Set_Has x.1 x.2 h⟩
theorem eq_29 (slices_ContainsFunc_2_int_2_int_spans_Set_Has_1 : Sl → Option Addr → H → Option ((Bool) × H)) : (fun (x : PT E_29.ps) (h : H) => runFK Go.Proofs.Ythiccnmplgdheaa.Tab.D (lstK [⟨93, [⟨false, [.sl]⟩, ⟨false, [.clo 94 1]⟩], [⟨false, [.bool]⟩], fun (x : Sl × Option Addr) h => slices_ContainsFunc_2_int_2_int_spans_Set_Has_1 x.1 x.2 h⟩]) ann_29 Try.f29 (Try.f29.body.getD .skip) E_29.ys (encP E_29.ps x) h) = (fun (x : Option Addr × Int) h => P.spans_Set_Has slices_ContainsFunc_2_int_2_int_spans_Set_Has_1 x.1 x.2 h) := by kernel_rfl
theorem ok_29 : E_29.ok Go.Proofs.Ythiccnmplgdheaa.Tab.D := fun x h y h' e => runFK_ok (lstK_ok [E_93c94] (List.forall_mem_cons.2 ⟨ok_93c94, fun E h => nomatch h⟩)) (A := ann_29) (by kernel_rfl) (show Go.Proofs.Ythiccnmplgdheaa.Tab.D.fn.get 29 = some Try.f29 by kernel_rfl) (show Try.f29.body = some (Try.f29.body.getD .skip) by kernel_rfl) ((congrFun (congrFun (eq_29 slices_ContainsFunc_2_int_2_int_spans_Set_Has_1) x) h).trans e)
/-! spans_bring -/
noncomputable def spans_bring (n : Int) (h : H) : Option (Int × H) :=
  letO ((if ((if (4611686018427387904 < n) then 4611686018427387904 else n) > 0) then (if (4611686018427387904 < n) then 4611686018427387904 else n) else 0)) fun (x0 : Int) =>
  some (x0, h)
noncomputable def ann_142 : Ann := ⟨fun _ => none, fun _ => none, fun _ => none⟩
noncomputable def E_142 : Ent := ⟨142, [⟨false, [.int .i64]⟩], [⟨false, [.int .i64]⟩], fun (x : Int) h => spans_bring x h⟩
theorem eq_142  : (fun (x : PT E_142.ps) (h : H) => runFK Go.Proofs.Ythiccnmplgdheaa.Tab.D (lstK []) ann_142 Try.f142 (Try.f142.body.getD .skip) E_142.ys (encP E_142.ps x) h) = (fun (x : Int) h => spans_bring x h) := by kernel_rfl
theorem ok_142 : E_142.ok Go.Proofs.Ythiccnmplgdheaa.Tab.D := fun x h y h' e => runFK_ok (lstK_ok [] (fun E h => nomatch h)) (A := ann_142) (by kernel_rfl) (show Go.Proofs.Ythiccnmplgdheaa.Tab.D.fn.get 142 = some Try.f142 by kernel_rfl) (show Try.f142.body = some (Try.f142.body.getD .skip) by kernel_rfl) ((congrFun (congrFun (eq_142 ) x) h).trans e)
/-! spans_Set_Add -/
noncomputable def P.spans_Set_Add_l1 (spans_bring : Int → H → Option ((Int) × H)) : (((Option Addr) × (Int × (Int × (Sl × (Bool × (Sl × (Int × Int))))))) × H) → Option ((((Option Addr) × (Int × (Int × (Sl × (Bool × (Sl × (Int × Int))))))) × H) ⊕ ((((Option Addr) × (Int × (Int × (Sl × Bool)))) × H) ⊕ (PUnit × H))) := fun ((s, (from', (to, (out, (done, (x0, (x1, x2))))))), h0) =>
  condK (decide ((x2 < x1))) (
    joinO (
      bindO (ixT 2 x0 x2) fun (a0 : Addr) =>
      bindO (ldZ [.int .i64, .int .i64] h0 a0) fun ((x3, x4) : Int × Int) =>
      newO (row 36 [(.int .i64 0), (.int .i64 0)]) h0 fun (b : Nat) (h1 : H) =>
      bindO (stZ [.int .i64, .int .i64] h1 (⟨b, 0, (some 0)⟩ : Addr) ((x3, x4) : Int × Int)) fun (h2 : H) =>
      bindO (ixAT 2 1 (⟨b, 0, (some 0)⟩ : Addr) 1) fun (a1 : Addr) =>
      bindO (ldI .i64 h2 a1) fun (x5 : Int) =>
      condK (decide ((x5 < from'))) (
        bindO (ldZ [.int .i64, .int .i64] h2 (⟨b, 0, (some 0)⟩ : Addr)) fun ((x6, x7) : Int × Int) =>
        newO (row 36 [(.int .i64 x6), (.int .i64 x7)]) h2 fun (b1 : Nat) (h3 : H) =>
        bind2 (appT 36 2 16 h3 out (⟨(some (⟨b1, 0, (some 0)⟩ : Addr)), 1, 1⟩ : Sl)) fun (x8 : Sl) (h4 : H) =>
        some (Sum.inl ((s, (from', (to, (x8, (done, (x0, (x1, x2))))))), h4))) (
        bindO (ixAT 2 1 (⟨b, 0, (some 0)⟩ : Addr) 0) fun (a2 : Addr) =>
        bindO (ldI .i64 h2 a2) fun (x9 : Int) =>
        condK (decide ((x9 > to))) (
          joinO (
            condK (!done) (
              newO (row 36 [(.int .i64 from'), (.int .i64 to)]) h2 fun (b2 : Nat) (h5 : H) =>
              bind2 (appT 36 2 16 h5 out (⟨(some (⟨b2, 0, (some 0)⟩ : Addr)), 1, 1⟩ : Sl)) fun (x10 : Sl) (h6 : H) =>
              some (Sum.inl ((s, (from', (to, (x10, ((some (⟨b, 0, (some 0)⟩ : Addr)), (x0, (x1, x2))))))), h6))) (
              some (Sum.inl ((s, (from', (to, (out, ((some (⟨b, 0, (some 0)⟩ : Addr)), (x0, (x1, x2))))))), h2)))) fun (((s1, (from'1, (to1, (out1, (r, (x10, (x11, x12))))))), h5) : (((Option Addr) × (Int × (Int × (Sl × ((Option Addr) × (Sl × (Int × Int))))))) × H)) =>
          ptrK r fun (a3 : Addr) =>
          bindO (ldZ [.int .i64, .int .i64] h5 a3) fun ((x13, x14) : Int × Int) =>
          newO (row 36 [(.int .i64 x13), (.int .i64 x14)]) h5 fun (b2 : Nat) (h6 : H) =>
          bind2 (appT 36 2 16 h6 out1 (⟨(some (⟨b2, 0, (some 0)⟩ : Addr)), 1, 1⟩ : Sl)) fun (x15 : Sl) (h7 : H) =>
          some (Sum.inl ((s1, (from'1, (to1, (x15, (true, (x10, (x11, x12))))))), h7))) (
          bindO (ixAT 2 1 (⟨b, 0, (some 0)⟩ : Addr) 0) fun (a4 : Addr) =>
          bindO (ldI .i64 h2 a4) fun (x16 : Int) =>
          bindO (ixAT 2 1 (⟨b, 0, (some 0)⟩ : Addr) 1) fun (a5 : Addr) =>
          bindO (ldI .i64 h2 a5) fun (x17 : Int) =>
          some (Sum.inl ((s, ((if (x16 < from') then x16 else from'), ((if (x17 > to) then x17 else to), (out, (done, (x0, (x1, x2))))))), h2))))) fun (((s1, (from'1, (to1, (out1, (done1, (x3, (x4, x5))))))), h1) : (((Option Addr) × (Int × (Int × (Sl × (Bool × (Sl × (Int × Int))))))) × H)) =>
    some (Sum.inl ((s1, (from'1, (to1, (out1, (done1, (x3, (x4, (IntKind.wrap .i64 (x5 + 1))))))))), h1))) (
    some (Sum.inr (Sum.inl ((s, (from', (to, (out, done)))), h0))))

noncomputable def P.spans_Set_Add (spans_bring : Int → H → Option ((Int) × H)) (s : Option Addr) (from' : Int) (to : Int) (h : H) : Option (Unit × H) :=
  bind2 (spans_bring from' h) fun (x0 : Int) (h0 : H) =>
  bind2 (spans_bring to h0) fun (x1 : Int) (h1 : H) =>
  condK (decide ((x0 ≥ x1))) (
    some ((), h1)) (
    joinO (
      ptrK s fun (a0 : Addr) =>
      bindO (ldL h1 (add a0 0)) fun (x2 : Sl) =>
      loopO (P.spans_Set_Add_l1 spans_bring) ((s, (x0, (x1, ((⟨none, 0, 0⟩ : Sl), (false, (x2, (((x2.len : Nat) : Int), 0))))))), h1)) fun (((s1, (from'1, (to1, (out, done)))), h2) : (((Option Addr) × (Int × (Int × (Sl × Bool)))) × H)) =>
    joinO (
      condK (!done) (
        newO (row 36 [(.int .i64 from'1), (.int .i64 to1)]) h2 fun (b : Nat) (h3 : H) =>
        bind2 (appT 36 2 16 h3 out (⟨(some (⟨b, 0, (some 0)⟩ : Addr)), 1, 1⟩ : Sl)) fun (x2 : Sl) (h4 : H) =>
        some (Sum.inl ((s1, x2), h4))) (
        some (Sum.inl ((s1, out), h2)))) fun (((s2, out1), h3) : (((Option Addr) × Sl) × H)) =>
    ptrK s2 fun (a0 : Addr) =>
    bindO (st1 h3 (add a0 0) (.slice out1.base out1.len out1.cap)) fun (h4 : H) =>
    some ((), h4))
noncomputable abbrev spans_Set_Add_l1 := P.spans_Set_Add_l1 spans_bring
noncomputable def spans_Set_Add : Option Addr → Int → Int → H → Option ((Unit) × H) := P.spans_Set_Add spans_bring
noncomputable def ann_84 : Ann := ⟨fun i => bif i.beq 13 then some ⟨[0, 1, 2, 6, 9, 20, 21, 22], [⟨false, [.ptr]⟩, ⟨false, [.int .i64]⟩, ⟨false, [.int .i64]⟩, ⟨false, [.sl]⟩, ⟨false, [.ptr]⟩, ⟨false, [.sl]⟩, ⟨false, [.int .i64]⟩, ⟨false, [.int .i64]⟩]⟩ else bif i.beq 15 then some ⟨[0, 1, 2, 6, 7, 20, 21, 22], [⟨false, [.ptr]⟩, ⟨false, [.int .i64]⟩, ⟨false, [.int .i64]⟩, ⟨false, [.sl]⟩, ⟨false, [.bool]⟩, ⟨false, [.sl]⟩, ⟨false, [.int .i64]⟩, ⟨false, [.int .i64]⟩]⟩ else bif i.beq 16 then some ⟨[0, 1, 2, 6, 7], [⟨false, [.ptr]⟩, ⟨false, [.int .i64]⟩, ⟨false, [.int .i64]⟩, ⟨false, [.sl]⟩, ⟨false, [.bool]⟩]⟩ else bif i.beq 18 then some ⟨[0, 6], [⟨false, [.ptr]⟩, ⟨false, [.sl]⟩]⟩ else none, fun i => bif i.beq 5 then some ⟨[0, 1, 2, 6, 7, 20, 21, 22], [⟨false, [.ptr]⟩, ⟨false, [.int .i64]⟩, ⟨false, [.int .i64]⟩, ⟨false, [.sl]⟩, ⟨false, [.bool]⟩, ⟨false, [.sl]⟩, ⟨false, [.int .i64]⟩, ⟨false, [.int .i64]⟩]⟩ else none, fun _ => none⟩
noncomputable def E_84 : Ent := ⟨84, [⟨false, [.ptr]⟩, ⟨false, [.int .i64]⟩, ⟨false, [.int .i64]⟩], [], fun (x : Option Addr × Int × Int) h => spans_Set_Add x.1 x.2.1 x.2.2 h⟩
theorem eq_84 (spans_bring : Int → H → Option ((Int) × H)) : (fun (x : PT E_84.ps) (h : H) => runFK Go.Proofs.Ythiccnmplgdheaa.Tab.D (lstK [⟨142, [⟨false, [.int .i64]⟩], [⟨false, [.int .i64]⟩], fun (x : Int) h => spans_bring x h⟩]) ann_84 Try.f84 (Try.f84.body.getD .skip) E_84.ys (encP E_84.ps x) h) = (fun (x : Option Addr × Int × Int) h => P.spans_Set_Add spans_bring x.1 x.2.1 x.2.2 h) := by kernel_rfl
theorem ok_84 : E_84.ok Go.Proofs.Ythiccnmplgdheaa.Tab.D := fun x h y h' e => runFK_ok (lstK_ok [E_142] (List.forall_mem_cons.2 ⟨ok_142, fun E h => nomatch h⟩)) (A := ann_84) (by kernel_rfl) (show Go.Proofs.Ythiccnmplgdheaa.Tab.D.fn.get 84 = some Try.f84 by kernel_rfl) (show Try.f84.body = some (Try.f84.body.getD .skip) by kernel_rfl) ((congrFun (congrFun (eq_84 spans_bring) x) h).trans e)
/-! spans_Set_Drop -/
noncomputable def P.spans_Set_Drop_l1 (spans_bring : Int → H → Option ((Int) × H)) : (((Option Addr) × (Int × (Int × (Sl × (Sl × (Int × Int)))))) × H) → Option ((((Option Addr) × (Int × (Int × (Sl × (Sl × (Int × Int)))))) × H) ⊕ ((((Option Addr) × Sl) × H) ⊕ (PUnit × H))) := fun ((s, (from', (to, (out, (x0, (x1, x2)))))), h0) =>
  condK (decide ((x2 < x1))) (
    joinO (
      bindO (ixT 2 x0 x2) fun (a0 : Addr) =>
      bindO (ldZ [.int .i64, .int .i64] h0 a0) fun ((x3, x4) : Int × Int) =>
      newO (row 36 [(.int .i64 0), (.int .i64 0)]) h0 fun (b : Nat) (h1 : H) =>
      bindO (stZ [.int .i64, .int .i64] h1 (⟨b, 0, (some 0)⟩ : Addr) ((x3, x4) : Int × Int)) fun (h2 : H) =>
      joinO (
        bindO (ixAT 2 1 (⟨b, 0, (some 0)⟩ : Addr) 1) fun (a1 : Addr) =>
        bindO (ldI .i64 h2 a1) fun (x5 : Int) =>
        bindO (ixAT 2 1 (⟨b, 0, (some 0)⟩ : Addr) 0) fun (a2 : Addr) =>
        bindO (ldI .i64 h2 a2) fun (x6 : Int) =>
        condK (decide ((x6 < (if (from' < x5) then from' else x5)))) (
          bindO (ixAT 2 1 (⟨b, 0, (some 0)⟩ : Addr) 0) fun (a3 : Addr) =>
          bindO (ldI .i64 h2 a3) fun (x7 : Int) =>
          newO (row 36 [(.int .i64 x7), (.int .i64 (if (from' < x5) then from' else x5))]) h2 fun (b1 : Nat) (h3 : H) =>
          bind2 (appT 36 2 16 h3 out (⟨(some (⟨b1, 0, (some 0)⟩ : Addr)), 1, 1⟩ : Sl)) fun (x8 : Sl) (h4 : H) =>
          some (Sum.inl ((s, (from', (to, (x8, ((some (⟨b, 0, (some 0)⟩ : Addr)), (x0, (x1, x2))))))), h4))) (
          some (Sum.inl ((s, (from', (to, (out, ((some (⟨b, 0, (some 0)⟩ : Addr)), (x0, (x1, x2))))))), h2)))) fun (((s1, (from'1, (to1, (out1, (r, (x5, (x6, x7))))))), h3) : (((Option Addr) × (Int × (Int × (Sl × ((Option Addr) × (Sl × (Int × Int))))))) × H)) =>
      ptrK r fun (a1 : Addr) =>
      bindO (ixAT 2 1 a1 0) fun (a2 : Addr) =>
      bindO (ldI .i64 h3 a2) fun (x8 : Int) =>
      ptrK r fun (a3 : Addr) =>
      bindO (ixAT 2 1 a3 1) fun (a4 : Addr) =>
      bindO (ldI .i64 h3 a4) fun (x9 : Int) =>
      condK (decide (((if (to1 > x8) then to1 else x8) < x9))) (
        ptrK r fun (a5 : Addr) =>
        bindO (ixAT 2 1 a5 1) fun (a6 : Addr) =>
        bindO (ldI .i64 h3 a6) fun (x10 : Int) =>
        newO (row 36 [(.int .i64 (if (to1 > x8) then to1 else x8)), (.int .i64 x10)]) h3 fun (b1 : Nat) (h4 : H) =>
        bind2 (appT 36 2 16 h4 out1 (⟨(some (⟨b1, 0, (some 0)⟩ : Addr)), 1, 1⟩ : Sl)) fun (x11 : Sl) (h5 : H) =>
        some (Sum.inl ((s1, (from'1, (to1, (x11, (x5, (x6, x7)))))), h5))) (
        some (Sum.inl ((s1, (from'1, (to1, (out1, (x5, (x6, x7)))))), h3)))) fun (((s1, (from'1, (to1, (out1, (x3, (x4, x5)))))), h1) : (((Option Addr) × (Int × (Int × (Sl × (Sl × (Int × Int)))))) × H)) =>
    some (Sum.inl ((s1, (from'1, (to1, (out1, (x3, (x4, (IntKind.wrap .i64 (x5 + 1)))))))), h1))) (
    some (Sum.inr (Sum.inl ((s, out), h0))))

noncomputable def P.spans_Set_Drop (spans_bring : Int → H → Option ((Int) × H)) (s : Option Addr) (from' : Int) (to : Int) (h : H) : Option (Unit × H) :=
  bind2 (spans_bring from' h) fun (x0 : Int) (h0 : H) =>
  bind2 (spans_bring to h0) fun (x1 : Int) (h1 : H) =>
  condK (decide ((x0 ≥ x1))) (
    some ((), h1)) (
    joinO (
      ptrK s fun (a0 : Addr) =>
      bindO (ldL h1 (add a0 0)) fun (x2 : Sl) =>
      loopO (P.spans_Set_Drop_l1 spans_bring) ((s, (x0, (x1, ((⟨none, 0, 0⟩ : Sl), (x2, (((x2.len : Nat) : Int), 0)))))), h1)) fun (((s1, out), h2) : (((Option Addr) × Sl) × H)) =>
    ptrK s1 fun (a0 : Addr) =>
    bindO (st1 h2 (add a0 0) (.slice out.base out.len out.cap)) fun (h3 : H) =>
    some ((), h3))
noncomputable abbrev spans_Set_Drop_l1 := P.spans_Set_Drop_l1 spans_bring
noncomputable def spans_Set_Drop : Option Addr → Int → Int → H → Option ((Unit) × H) := P.spans_Set_Drop spans_bring
noncomputable def ann_85 : Ann := ⟨fun i => bif i.beq 9 then some ⟨[0, 1, 2, 6, 8, 21, 22, 23], [⟨false, [.ptr]⟩, ⟨false, [.int .i64]⟩, ⟨false, [.int .i64]⟩, ⟨false, [.sl]⟩, ⟨false, [.ptr]⟩, ⟨false, [.sl]⟩, ⟨false, [.int .i64]⟩, ⟨false, [.int .i64]⟩]⟩ else bif i.beq 12 then some ⟨[0, 1, 2, 6, 21, 22, 23], [⟨false, [.ptr]⟩, ⟨false, [.int .i64]⟩, ⟨false, [.int .i64]⟩, ⟨false, [.sl]⟩, ⟨false, [.sl]⟩, ⟨false, [.int .i64]⟩, ⟨false, [.int .i64]⟩]⟩ else bif i.beq 13 then some ⟨[0, 6], [⟨false, [.ptr]⟩, ⟨false, [.sl]⟩]⟩ else none, fun i => bif i.beq 4 then some ⟨[0, 1, 2, 6, 21, 22, 23], [⟨false, [.ptr]⟩, ⟨false, [.int .i64]⟩, ⟨false, [.int .i64]⟩, ⟨false, [.sl]⟩, ⟨false, [.sl]⟩, ⟨false, [.int .i64]⟩, ⟨false, [.int .i64]⟩]⟩ else none, fun _ => none⟩
noncomputable def E_85 : Ent := ⟨85, [⟨false, [.ptr]⟩, ⟨false, [.int .i64]⟩, ⟨false, [.int .i64]⟩], [], fun (x : Option Addr × Int × Int) h => spans_Set_Drop x.1 x.2.1 x.2.2 h⟩
theorem eq_85 (spans_bring : Int → H → Option ((Int) × H)) : (fun (x : PT E_85.ps) (h : H) => runFK Go.Proofs.Ythiccnmplgdheaa.Tab.D (lstK [⟨142, [⟨false, [.int .i64]⟩], [⟨false, [.int .i64]⟩], fun (x : Int) h => spans_bring x h⟩]) ann_85 Try.f85 (Try.f85.body.getD .skip) E_85.ys (encP E_85.ps x) h) = (fun (x : Option Addr × Int × Int) h => P.spans_Set_Drop spans_bring x.1 x.2.1 x.2.2 h) := by kernel_rfl
theorem ok_85 : E_85.ok Go.Proofs.Ythiccnmplgdheaa.Tab.D := fun x h y h' e => runFK_ok (lstK_ok [E_142] (List.forall_mem_cons.2 ⟨ok_142, fun E h => nomatch h⟩)) (A := ann_85) (by kernel_rfl) (show Go.Proofs.Ythiccnmplgdheaa.Tab.D.fn.get 85 = some Try.f85 by kernel_rfl) (show Try.f85.body = some (Try.f85.body.getD .skip) by kernel_rfl) ((congrFun (congrFun (eq_85 spans_bring) x) h).trans e)
/-! acks_Seen_Note -/
noncomputable def P.acks_Seen_Note (spans_Set_Has : Option Addr → Int → H → Option ((Bool) × H)) (spans_Set_Add : Option Addr → Int → Int → H → Option ((Unit) × H)) (spans_Set_Drop : Option Addr → Int → Int → H → Option ((Unit) × H)) (s : Option Addr) (num : Int) (elicits : Bool) (h : H) : Option (Bool × H) :=
  joinO (
    condK (decide ((num < 0))) (
      some (Sum.inl ((s, (num, (elicits, true))), h))) (
      condK (decide ((num > 4611686018427387903))) (
        some (Sum.inl ((s, (num, (elicits, true))), h))) (
        ptrK s fun (a0 : Addr) =>
        bind2 (spans_Set_Has (some (add a0 0)) num h) fun (x0 : Bool) (h0 : H) =>
        condK x0 (
          some (Sum.inl ((s, (num, (elicits, true))), h0))) (
          ptrK s fun (a1 : Addr) =>
          bindO (ldI .i64 h0 (add a1 2)) fun (x1 : Int) =>
          some (Sum.inl ((s, (num, (elicits, (decide ((num < (IntKind.wrap .i64 (x1 - 64)))))))), h0)))))) fun (((s1, (num1, (elicits1, x0))), h0) : (((Option Addr) × (Int × (Bool × Bool))) × H)) =>
  condK x0 (
    some (false, h0)) (
    ptrK s1 fun (a0 : Addr) =>
    bind2 (spans_Set_Add (some (add a0 0)) num1 (IntKind.wrap .i64 (num1 + 1)) h0) fun (_ : Unit) (h1 : H) =>
    ptrK s1 fun (a1 : Addr) =>
    bindO (ldI .i64 h1 (add a1 2)) fun (x1 : Int) =>
    ptrK s1 fun (a2 : Addr) =>
    bindO (st1 h1 (add a2 2) (.int .i64 (if (num1 > x1) then num1 else x1))) fun (h2 : H) =>
    ptrK s1 fun (a3 : Addr) =>
    ptrK s1 fun (a4 : Addr) =>
    bindO (ldI .i64 h2 (add a4 2)) fun (x2 : Int) =>
    bind2 (spans_Set_Drop (some (add a3 0)) 0 (IntKind.wrap .i64 (x2 - 64)) h2) fun (_ : Unit) (h3 : H) =>
    ptrK s1 fun (a5 : Addr) =>
    bindO (ldB h3 (add a5 1)) fun (x3 : Bool) =>
    condK x3 (
      ptrK s1 fun (a6 : Addr) =>
      bindO (st1 h3 (add a6 1) (.bool true)) fun (h4 : H) =>
      some (true, h4)) (
      ptrK s1 fun (a7 : Addr) =>
      bindO (st1 h3 (add a7 1) (.bool elicits1)) fun (h5 : H) =>
      some (true, h5)))
noncomputable def acks_Seen_Note : Option Addr → Int → Bool → H → Option ((Bool) × H) := P.acks_Seen_Note spans_Set_Has spans_Set_Add spans_Set_Drop
noncomputable def ann_25 : Ann := ⟨fun _ => none, fun _ => none, fun i => bif i.beq 1 then some ⟨[0, 1, 2, 28], [⟨false, [.ptr]⟩, ⟨false, [.int .i64]⟩, ⟨false, [.bool]⟩, ⟨false, [.bool]⟩]⟩ else none⟩
noncomputable def E_25 : Ent := ⟨25, [⟨false, [.ptr]⟩, ⟨false, [.int .i64]⟩, ⟨false, [.bool]⟩], [⟨false, [.bool]⟩], fun (x : Option Addr × Int × Bool) h => acks_Seen_Note x.1 x.2.1 x.2.2 h⟩
theorem eq_25 (spans_Set_Has : Option Addr → Int → H → Option ((Bool) × H)) (spans_Set_Add : Option Addr → Int → Int → H → Option ((Unit) × H)) (spans_Set_Drop : Option Addr → Int → Int → H → Option ((Unit) × H)) : (fun (x : PT E_25.ps) (h : H) => runFK Go.Proofs.Ythiccnmplgdheaa.Tab.D (lstK [⟨29, [⟨false, [.ptr]⟩, ⟨false, [.int .i64]⟩], [⟨false, [.bool]⟩], fun (x : Option Addr × Int) h => spans_Set_Has x.1 x.2 h⟩, ⟨84, [⟨false, [.ptr]⟩, ⟨false, [.int .i64]⟩, ⟨false, [.int .i64]⟩], [], fun (x : Option Addr × Int × Int) h => spans_Set_Add x.1 x.2.1 x.2.2 h⟩, ⟨85, [⟨false, [.ptr]⟩, ⟨false, [.int .i64]⟩, ⟨false, [.int .i64]⟩], [], fun (x : Option Addr × Int × Int) h => spans_Set_Drop x.1 x.2.1 x.2.2 h⟩]) ann_25 Try.f25 (Try.f25.body.getD .skip) E_25.ys (encP E_25.ps x) h) = (fun (x : Option Addr × Int × Bool) h => P.acks_Seen_Note spans_Set_Has spans_Set_Add spans_Set_Drop x.1 x.2.1 x.2.2 h) := by kernel_rfl
theorem ok_25 : E_25.ok Go.Proofs.Ythiccnmplgdheaa.Tab.D := fun x h y h' e => runFK_ok (lstK_ok [E_29, E_84, E_85] (List.forall_mem_cons.2 ⟨ok_29, List.forall_mem_cons.2 ⟨ok_84, List.forall_mem_cons.2 ⟨ok_85, fun E h => nomatch h⟩⟩⟩)) (A := ann_25) (by kernel_rfl) (show Go.Proofs.Ythiccnmplgdheaa.Tab.D.fn.get 25 = some Try.f25 by kernel_rfl) (show Try.f25.body = some (Try.f25.body.getD .skip) by kernel_rfl) ((congrFun (congrFun (eq_25 spans_Set_Has spans_Set_Add spans_Set_Drop) x) h).trans e)
/-! law7_known -/
noncomputable def P.law7_known (acks_New : H → Option ((Option Addr) × H)) (acks_Seen_Newest : Option Addr → H → Option ((Int) × H)) (acks_Seen_Note : Option Addr → Int → Bool → H → Option ((Bool) × H)) (spans_Set_Has : Option Addr → Int → H → Option ((Bool) × H))  (h : H) : Option (Bool × H) :=
  bind2 (acks_New h) fun (x0 : Option Addr) (h0 : H) =>
  bindO (nePT x0 none) fun (x1 : Bool) =>
  condK x1 (
    bind2 (acks_Seen_Newest x0 h0) fun (x2 : Int) (h1 : H) =>
    condK (x2 == (-1)) (
      bind2 (acks_Seen_Note x0 3 false h1) fun (x3 : Bool) (h2 : H) =>
      condK x3 (
        bind2 (acks_Seen_Note x0 3 true h2) fun (x4 : Bool) (h3 : H) =>
        condK (!x4) (
          ptrK x0 fun (a0 : Addr) =>
          bind2 (spans_Set_Has (some (add a0 0)) 3 h3) fun (x5 : Bool) (h4 : H) =>
          condK x5 (
            ptrK x0 fun (a1 : Addr) =>
            bindO (ldB h4 (add a1 1)) fun (x6 : Bool) =>
            condK (!x6) (
              bind2 (acks_Seen_Newest x0 h4) fun (x7 : Int) (h5 : H) =>
              some ((x7 == 3), h5)) (
              some (false, h4))) (
            some (false, h4))) (
          some (false, h3))) (
        some (false, h2))) (
      some (false, h1))) (
    some (false, h0))
noncomputable def law7_known : H → Option ((Bool) × H) := P.law7_known acks_New acks_Seen_Newest acks_Seen_Note spans_Set_Has
noncomputable def ann_23 : Ann := ⟨fun _ => none, fun _ => none, fun _ => none⟩
noncomputable def E_23 : Ent := ⟨23, [], [⟨false, [.bool]⟩], fun (x : Unit) h => law7_known h⟩
theorem eq_23 (acks_New : H → Option ((Option Addr) × H)) (acks_Seen_Newest : Option Addr → H → Option ((Int) × H)) (acks_Seen_Note : Option Addr → Int → Bool → H → Option ((Bool) × H)) (spans_Set_Has : Option Addr → Int → H → Option ((Bool) × H)) : (fun (x : PT E_23.ps) (h : H) => runFK Go.Proofs.Ythiccnmplgdheaa.Tab.D (lstK [⟨22, [], [⟨false, [.ptr]⟩], fun (x : Unit) h => acks_New h⟩, ⟨83, [⟨false, [.ptr]⟩], [⟨false, [.int .i64]⟩], fun (x : Option Addr) h => acks_Seen_Newest x h⟩, ⟨25, [⟨false, [.ptr]⟩, ⟨false, [.int .i64]⟩, ⟨false, [.bool]⟩], [⟨false, [.bool]⟩], fun (x : Option Addr × Int × Bool) h => acks_Seen_Note x.1 x.2.1 x.2.2 h⟩, ⟨29, [⟨false, [.ptr]⟩, ⟨false, [.int .i64]⟩], [⟨false, [.bool]⟩], fun (x : Option Addr × Int) h => spans_Set_Has x.1 x.2 h⟩]) ann_23 Try.f23 (Try.f23.body.getD .skip) E_23.ys (encP E_23.ps x) h) = (fun (x : Unit) h => P.law7_known acks_New acks_Seen_Newest acks_Seen_Note spans_Set_Has  h) := by kernel_rfl
theorem ok_23 : E_23.ok Go.Proofs.Ythiccnmplgdheaa.Tab.D := fun x h y h' e => runFK_ok (lstK_ok [E_22, E_83, E_25, E_29] (List.forall_mem_cons.2 ⟨ok_22, List.forall_mem_cons.2 ⟨ok_83, List.forall_mem_cons.2 ⟨ok_25, List.forall_mem_cons.2 ⟨ok_29, fun E h => nomatch h⟩⟩⟩⟩)) (A := ann_23) (by kernel_rfl) (show Go.Proofs.Ythiccnmplgdheaa.Tab.D.fn.get 23 = some Try.f23 by kernel_rfl) (show Try.f23.body = some (Try.f23.body.getD .skip) by kernel_rfl) ((congrFun (congrFun (eq_23 acks_New acks_Seen_Newest acks_Seen_Note spans_Set_Has) x) h).trans e)
/-! hand_Pick -/
noncomputable def hand_Pick (n : Int) (m : Int) (h : H) : Option (Int × H) :=
  bindO (remT .i64 n m) fun (x0 : Int) =>
  joinO (
    condK (decide ((x0 < 0))) (
      some (Sum.inl ((IntKind.wrap .i64 (x0 + m)), h))) (
      some (Sum.inl (x0, h)))) fun ((n1, h0) : (Int × H)) =>
  some (n1, h0)
noncomputable def ann_24 : Ann := ⟨fun i => bif i.beq 4 then some ⟨[0], [⟨false, [.int .i64]⟩]⟩ else none, fun _ => none, fun _ => none⟩
noncomputable def E_24 : Ent := ⟨24, [⟨false, [.int .i64]⟩, ⟨false, [.int .i64]⟩], [⟨false, [.int .i64]⟩], fun (x : Int × Int) h => hand_Pick x.1 x.2 h⟩
theorem eq_24  : (fun (x : PT E_24.ps) (h : H) => runFK Go.Proofs.Ythiccnmplgdheaa.Tab.D (lstK []) ann_24 Try.f24 (Try.f24.body.getD .skip) E_24.ys (encP E_24.ps x) h) = (fun (x : Int × Int) h => hand_Pick x.1 x.2 h) := by kernel_rfl
theorem ok_24 : E_24.ok Go.Proofs.Ythiccnmplgdheaa.Tab.D := fun x h y h' e => runFK_ok (lstK_ok [] (fun E h => nomatch h)) (A := ann_24) (by kernel_rfl) (show Go.Proofs.Ythiccnmplgdheaa.Tab.D.fn.get 24 = some Try.f24 by kernel_rfl) (show Try.f24.body = some (Try.f24.body.getD .skip) by kernel_rfl) ((congrFun (congrFun (eq_24 ) x) h).trans e)
/-! slices_Clone_2_int_2_int -/
noncomputable def slices_Clone_2_int_2_int (s : Sl) (h : H) : Option (Sl × H) :=
  bindO (eqLT s (⟨none, 0, 0⟩ : Sl)) fun (x0 : Bool) =>
  condK x0 (
    some ((⟨none, 0, 0⟩ : Sl), h)) (
    newO (row 36 []) h fun (b : Nat) (h0 : H) =>
    bind2 (appT 36 2 16 h0 (⟨(some (⟨b, 0, (some 0)⟩ : Addr)), 0, 0⟩ : Sl) s) fun (x1 : Sl) (h1 : H) =>
    some (x1, h1))
noncomputable def ann_143 : Ann := ⟨fun _ => none, fun _ => none, fun _ => none⟩
noncomputable def E_143 : Ent := ⟨143, [⟨false, [.sl]⟩], [⟨false, [.sl]⟩], fun (x : Sl) h => slices_Clone_2_int_2_int x h⟩
theorem eq_143  : (fun (x : PT E_143.ps) (h : H) => runFK Go.Proofs.Ythiccnmplgdheaa.Tab.D (lstK []) ann_143 Try.f143 (Try.f143.body.getD .skip) E_143.ys (encP E_143.ps x) h) = (fun (x : Sl) h => slices_Clone_2_int_2_int x h) := by kernel_rfl
theorem ok_143 : E_143.ok Go.Proofs.Ythiccnmplgdheaa.Tab.D := fun x h y h' e => runFK_ok (lstK_ok [] (fun E h => nomatch h)) (A := ann_143) (by kernel_rfl) (show Go.Proofs.Ythiccnmplgdheaa.Tab.D.fn.get 143 = some Try.f143 by kernel_rfl) (show Try.f143.body = some (Try.f143.body.getD .skip) by kernel_rfl) ((congrFun (congrFun (eq_143 ) x) h).trans e)
/-! slices_Clip_2_int_2_int -/
noncomputable def slices_Clip_2_int_2_int (s : Sl) (h : H) : Option (Sl × H) :=
  bindO (slT 2 h s none (some ((s.len : Nat) : Int)) (some ((s.len : Nat) : Int))) fun (x0 : Sl) =>
  some (x0, h)
noncomputable def ann_88 : Ann := ⟨fun _ => none, fun _ => none, fun _ => none⟩
noncomputable def E_88 : Ent := ⟨88, [⟨false, [.sl]⟩], [⟨false, [.sl]⟩], fun (x : Sl) h => slices_Clip_2_int_2_int x h⟩
theorem eq_88  : (fun (x : PT E_88.ps) (h : H) => runFK Go.Proofs.Ythiccnmplgdheaa.Tab.D (lstK []) ann_88 Try.f88 (Try.f88.body.getD .skip) E_88.ys (encP E_88.ps x) h) = (fun (x : Sl) h => slices_Clip_2_int_2_int x h) := by kernel_rfl
theorem ok_88 : E_88.ok Go.Proofs.Ythiccnmplgdheaa.Tab.D := fun x h y h' e => runFK_ok (lstK_ok [] (fun E h => nomatch h)) (A := ann_88) (by kernel_rfl) (show Go.Proofs.Ythiccnmplgdheaa.Tab.D.fn.get 88 = some Try.f88 by kernel_rfl) (show Try.f88.body = some (Try.f88.body.getD .skip) by kernel_rfl) ((congrFun (congrFun (eq_88 ) x) h).trans e)
/-! spans_Set_Spans -/
noncomputable def P.spans_Set_Spans (slices_Clone_2_int_2_int : Sl → H → Option ((Sl) × H)) (slices_Clip_2_int_2_int : Sl → H → Option ((Sl) × H)) (s : Option Addr) (h : H) : Option (Sl × H) :=
  ptrK s fun (a0 : Addr) =>
  bindO (ldL h (add a0 0)) fun (x0 : Sl) =>
  bind2 (slices_Clone_2_int_2_int x0 h) fun (x1 : Sl) (h0 : H) =>
  bind2 (slices_Clip_2_int_2_int x1 h0) fun (x2 : Sl) (h1 : H) =>
  some (x2, h1)
noncomputable def spans_Set_Spans : Option Addr → H → Option ((Sl) × H) := P.spans_Set_Spans slices_Clone_2_int_2_int slices_Clip_2_int_2_int
noncomputable def ann_86 : Ann := ⟨fun _ => none, fun _ => none, fun _ => none⟩
noncomputable def E_86 : Ent := ⟨86, [⟨false, [.ptr]⟩], [⟨false, [.sl]⟩], fun (x : Option Addr) h => spans_Set_Spans x h⟩
theorem eq_86 (slices_Clone_2_int_2_int : Sl → H → Option ((Sl) × H)) (slices_Clip_2_int_2_int : Sl → H → Option ((Sl) × H)) : (fun (x : PT E_86.ps) (h : H) => runFK Go.Proofs.Ythiccnmplgdheaa.Tab.D (lstK [⟨143, [⟨false, [.sl]⟩], [⟨false, [.sl]⟩], fun (x : Sl) h => slices_Clone_2_int_2_int x h⟩, ⟨88, [⟨false, [.sl]⟩], [⟨false, [.sl]⟩], fun (x : Sl) h => slices_Clip_2_int_2_int x h⟩]) ann_86 Try.f86 (Try.f86.body.getD .skip) E_86.ys (encP E_86.ps x) h) = (fun (x : Option Addr) h => P.spans_Set_Spans slices_Clone_2_int_2_int slices_Clip_2_int_2_int x h) := by kernel_rfl
theorem ok_86 : E_86.ok Go.Proofs.Ythiccnmplgdheaa.Tab.D := fun x h y h' e => runFK_ok (lstK_ok [E_143, E_88] (List.forall_mem_cons.2 ⟨ok_143, List.forall_mem_cons.2 ⟨ok_88, fun E h => nomatch h⟩⟩)) (A := ann_86) (by kernel_rfl) (show Go.Proofs.Ythiccnmplgdheaa.Tab.D.fn.get 86 = some Try.f86 by kernel_rfl) (show Try.f86.body = some (Try.f86.body.getD .skip) by kernel_rfl) ((congrFun (congrFun (eq_86 slices_Clone_2_int_2_int slices_Clip_2_int_2_int) x) h).trans e)
/-! slices_Reverse_2_int_2_int -/
noncomputable def slices_Reverse_2_int_2_int_l1 : ((Sl × (Int × Int)) × H) → Option (((Sl × (Int × Int)) × H) ⊕ (PUnit × H)) := fun ((s, (i, j)), h0) =>
  condK (decide ((i < j))) (
    bindO (ixT 2 s j) fun (a0 : Addr) =>
    bindO (ldZ [.int .i64, .int .i64] h0 a0) fun ((x0, x1) : Int × Int) =>
    bindO (ixT 2 s i) fun (a1 : Addr) =>
    bindO (ldZ [.int .i64, .int .i64] h0 a1) fun ((x2, x3) : Int × Int) =>
    bindO (ixT 2 s i) fun (a2 : Addr) =>
    bindO (stZ [.int .i64, .int .i64] h0 a2 ((x0, x1) : Int × Int)) fun (h1 : H) =>
    bindO (ixT 2 s j) fun (a3 : Addr) =>
    bindO (stZ [.int .i64, .int .i64] h1 a3 ((x2, x3) : Int × Int)) fun (h2 : H) =>
    some (Sum.inl ((s, ((IntKind.wrap .i64 (i + 1)), (IntKind.wrap .i64 (j - 1)))), h2))) (
    some (Sum.inr ((), h0)))

noncomputable def slices_Reverse_2_int_2_int (s : Sl) (h : H) : Option (Unit × H) :=
  loopO slices_Reverse_2_int_2_int_l1 ((s, (0, (IntKind.wrap .i64 (((s.len : Nat) : Int) - 1)))), h)
noncomputable def ann_87 : Ann := ⟨fun _ => none, fun i => bif i.beq 1 then some ⟨[0, 2, 3], [⟨false, [.sl]⟩, ⟨false, [.int .i64]⟩, ⟨false, [.int .i64]⟩]⟩ else none, fun _ => none⟩
noncomputable def E_87 : Ent := ⟨87, [⟨false, [.sl]⟩], [], fun (x : Sl) h => slices_Reverse_2_int_2_int x h⟩
theorem eq_87  : (fun (x : PT E_87.ps) (h : H) => runFK Go.Proofs.Ythiccnmplgdheaa.Tab.D (lstK []) ann_87 Try.f87 (Try.f87.body.getD .skip) E_87.ys (encP E_87.ps x) h) = (fun (x : Sl) h => slices_Reverse_2_int_2_int x h) := by kernel_rfl
theorem ok_87 : E_87.ok Go.Proofs.Ythiccnmplgdheaa.Tab.D := fun x h y h' e => runFK_ok (lstK_ok [] (fun E h => nomatch h)) (A := ann_87) (by kernel_rfl) (show Go.Proofs.Ythiccnmplgdheaa.Tab.D.fn.get 87 = some Try.f87 by kernel_rfl) (show Try.f87.body = some (Try.f87.body.getD .skip) by kernel_rfl) ((congrFun (congrFun (eq_87 ) x) h).trans e)
/-! acks_Seen_Frame -/
noncomputable def P.acks_Seen_Frame_l1 (spans_Set_Spans : Option Addr → H → Option ((Sl) × H)) (slices_Reverse_2_int_2_int : Sl → H → Option ((Unit) × H)) (slices_Clip_2_int_2_int : Sl → H → Option ((Sl) × H)) : (((Option Addr) × (Sl × (Int × Int))) × H) → Option ((((Option Addr) × (Sl × (Int × Int))) × H) ⊕ ((((Option Addr) × Sl) × H) ⊕ (((Int × (Int × (Int × (Int × (Int × (Int × (Bool × (Sl × Sl)))))))) × Bool) × H))) := fun ((x0, (l, (x1, x2))), h0) =>
  condK (decide ((x2 < x1))) (
    bindO (ixT 2 l x2) fun (a0 : Addr) =>
    bindO (ixAT 2 1 a0 1) fun (a1 : Addr) =>
    bindO (ldI .i64 h0 a1) fun (x3 : Int) =>
    bindO (ixT 2 l x2) fun (a2 : Addr) =>
    bindO (ixAT 2 1 a2 1) fun (a3 : Addr) =>
    bindO (st1 h0 a3 (.int .i64 (IntKind.wrap .i64 (x3 - 1)))) fun (h1 : H) =>
    some (Sum.inl ((x0, (l, (x1, (IntKind.wrap .i64 (x2 + 1))))), h1))) (
    some (Sum.inr (Sum.inl ((x0, l), h0))))

noncomputable def P.acks_Seen_Frame (spans_Set_Spans : Option Addr → H → Option ((Sl) × H)) (slices_Reverse_2_int_2_int : Sl → H → Option ((Unit) × H)) (slices_Clip_2_int_2_int : Sl → H → Option ((Sl) × H)) (s : Option Addr) (h : H) : Option (((Int × Int × Int × Int × Int × Int × Bool × Sl × Sl) × Bool) × H) :=
  newO (row 33 [(.int .i64 0), (.int .i64 0), (.int .i64 0), (.int .i64 0), (.int .i64 0), (.int .i64 0), (.bool false), (.slice none 0 0), (.slice none 0 0)]) h fun (b : Nat) (h0 : H) =>
  ptrK s fun (a0 : Addr) =>
  bind2 (spans_Set_Spans (some (add a0 0)) h0) fun (x0 : Sl) (h1 : H) =>
  bind2 (slices_Reverse_2_int_2_int x0 h1) fun (_ : Unit) (h2 : H) =>
  bindO (slT 2 h2 x0 none (some (if (8 < ((x0.len : Nat) : Int)) then 8 else ((x0.len : Nat) : Int))) none) fun (x1 : Sl) =>
  bind2 (slices_Clip_2_int_2_int x1 h2) fun (x2 : Sl) (h3 : H) =>
  condK (((x2.len : Nat) : Int) == 0) (
    bindO (stZ [.int .i64, .int .i64, .int .i64, .int .i64, .int .i64, .int .i64, .bool, .sl, .sl] h3 (⟨b, 0, (some 0)⟩ : Addr) ((0, 0, 0, 0, 0, 0, false, (⟨none, 0, 0⟩ : Sl), (⟨none, 0, 0⟩ : Sl)) : Int × Int × Int × Int × Int × Int × Bool × Sl × Sl)) fun (h4 : H) =>
    bindO (ldZ [.int .i64, .int .i64, .int .i64, .int .i64, .int .i64, .int .i64, .bool, .sl, .sl] h4 (⟨b, 0, (some 0)⟩ : Addr)) fun ((x3, x4, x5, x6, x7, x8, x9, x10, x11) : Int × Int × Int × Int × Int × Int × Bool × Sl × Sl) =>
    some (((x3, (x4, (x5, (x6, (x7, (x8, (x9, (x10, x11)))))))), false), h4)) (
    joinO (
      loopO (P.acks_Seen_Frame_l1 spans_Set_Spans slices_Reverse_2_int_2_int slices_Clip_2_int_2_int) (((some (⟨b, 0, (some 0)⟩ : Addr)), (x2, (((x2.len : Nat) : Int), 0))), h3)) fun (((x12, l), h5) : (((Option Addr) × Sl) × H)) =>
    ptrK x12 fun (a1 : Addr) =>
    bindO (stZ [.int .i64, .int .i64, .int .i64, .int .i64, .int .i64, .int .i64, .bool, .sl, .sl] h5 a1 ((2, 0, 0, 0, 0, 0, false, (⟨none, 0, 0⟩ : Sl), l) : Int × Int × Int × Int × Int × Int × Bool × Sl × Sl)) fun (h6 : H) =>
    ptrK x12 fun (a2 : Addr) =>
    bindO (ldZ [.int .i64, .int .i64, .int .i64, .int .i64, .int .i64, .int .i64, .bool, .sl, .sl] h6 a2) fun ((x13, x14, x15, x16, x17, x18, x19, x20, x21) : Int × Int × Int × Int × Int × Int × Bool × Sl × Sl) =>
    some (((x13, (x14, (x15, (x16, (x17, (x18, (x19, (x20, x21)))))))), true), h6))
noncomputable abbrev acks_Seen_Frame_l1 := P.acks_Seen_Frame_l1 spans_Set_Spans slices_Reverse_2_int_2_int slices_Clip_2_int_2_int
noncomputable def acks_Seen_Frame : Option Addr → H → Option ((((Int × Int × Int × Int × Int × Int × Bool × Sl × Sl)) × Bool) × H) := P.acks_Seen_Frame spans_Set_Spans slices_Reverse_2_int_2_int slices_Clip_2_int_2_int
noncomputable def ann_26 : Ann := ⟨fun i => bif i.beq 11 then some ⟨[2, 4], [⟨false, [.ptr]⟩, ⟨false, [.sl]⟩]⟩ else none, fun i => bif i.beq 7 then some ⟨[2, 4, 23, 24], [⟨false, [.ptr]⟩, ⟨false, [.sl]⟩, ⟨false, [.int .i64]⟩, ⟨false, [.int .i64]⟩]⟩ else none, fun _ => none⟩
noncomputable def E_26 : Ent := ⟨26, [⟨false, [.ptr]⟩], [⟨true, [.int .i64, .int .i64, .int .i64, .int .i64, .int .i64, .int .i64, .bool, .sl, .sl]⟩, ⟨false, [.bool]⟩], fun (x : Option Addr) h => acks_Seen_Frame x h⟩
theorem eq_26 (spans_Set_Spans : Option Addr → H → Option ((Sl) × H)) (slices_Reverse_2_int_2_int : Sl → H → Option ((Unit) × H)) (slices_Clip_2_int_2_int : Sl → H → Option ((Sl) × H)) : (fun (x : PT E_26.ps) (h : H) => runFK Go.Proofs.Ythiccnmplgdheaa.Tab.D (lstK [⟨86, [⟨false, [.ptr]⟩], [⟨false, [.sl]⟩], fun (x : Option Addr) h => spans_Set_Spans x h⟩, ⟨87, [⟨false, [.sl]⟩], [], fun (x : Sl) h => slices_Reverse_2_int_2_int x h⟩, ⟨88, [⟨false, [.sl]⟩], [⟨false, [.sl]⟩], fun (x : Sl) h => slices_Clip_2_int_2_int x h⟩]) ann_26 Try.f26 (Try.f26.body.getD .skip) E_26.ys (encP E_26.ps x) h) = (fun (x : Option Addr) h => P.acks_Seen_Frame spans_Set_Spans slices_Reverse_2_int_2_int slices_Clip_2_int_2_int x h) := by kernel_rfl
theorem ok_26 : E_26.ok Go.Proofs.Ythiccnmplgdheaa.Tab.D := fun x h y h' e => runFK_ok (lstK_ok [E_86, E_87, E_88] (List.forall_mem_cons.2 ⟨ok_86, List.forall_mem_cons.2 ⟨ok_87, List.forall_mem_cons.2 ⟨ok_88, fun E h => nomatch h⟩⟩⟩)) (A := ann_26) (by kernel_rfl) (show Go.Proofs.Ythiccnmplgdheaa.Tab.D.fn.get 26 = some Try.f26 by kernel_rfl) (show Try.f26.body = some (Try.f26.body.getD .skip) by kernel_rfl) ((congrFun (congrFun (eq_26 spans_Set_Spans slices_Reverse_2_int_2_int slices_Clip_2_int_2_int) x) h).trans e)
/-! frame_bare -/
noncomputable def frame_bare (f : Int × Int × Int × Int × Int × Int × Bool × Sl × Sl) (h : H) : Option ((Int × Int × Int × Int × Int × Int × Bool × Sl × Sl) × H) :=
  newO (row 33 [(.int .i64 f.1), (.int .i64 f.2.1), (.int .i64 f.2.2.1), (.int .i64 f.2.2.2.1), (.int .i64 f.2.2.2.2.1), (.int .i64 f.2.2.2.2.2.1), (.bool f.2.2.2.2.2.2.1), (.slice f.2.2.2.2.2.2.2.1.base f.2.2.2.2.2.2.2.1.len f.2.2.2.2.2.2.2.1.cap), (.slice f.2.2.2.2.2.2.2.2.base f.2.2.2.2.2.2.2.2.len f.2.2.2.2.2.2.2.2.cap)]) h fun (b : Nat) (h0 : H) =>
  newO (row 33 [(.int .i64 0), (.int .i64 0), (.int .i64 0), (.int .i64 0), (.int .i64 0), (.int .i64 0), (.bool false), (.slice none 0 0), (.slice none 0 0)]) h0 fun (b1 : Nat) (h1 : H) =>
  bindO (ldI .i64 h1 (add (⟨b, 0, (some 0)⟩ : Addr) 0)) fun (x0 : Int) =>
  newO (row 33 [(.int .i64 0), (.int .i64 0), (.int .i64 0), (.int .i64 0), (.int .i64 0), (.int .i64 0), (.bool false), (.slice none 0 0), (.slice none 0 0)]) h1 fun (b2 : Nat) (h2 : H) =>
  bindO (stZ [.int .i64, .int .i64, .int .i64, .int .i64, .int .i64, .int .i64, .bool, .sl, .sl] h2 (⟨b2, 0, (some 0)⟩ : Addr) ((x0, 0, 0, 0, 0, 0, false, (⟨none, 0, 0⟩ : Sl), (⟨none, 0, 0⟩ : Sl)) : Int × Int × Int × Int × Int × Int × Bool × Sl × Sl)) fun (h3 : H) =>
  joinO (
    bindO (ldI .i64 h3 (add (⟨b, 0, (some 0)⟩ : Addr) 0)) fun (x1 : Int) =>
    condK (x1 == 2) (
      bindO (ldL h3 (add (⟨b, 0, (some 0)⟩ : Addr) 8)) fun (x2 : Sl) =>
      bindO (st1 h3 (add (⟨b2, 0, (some 0)⟩ : Addr) 8) (.slice x2.base x2.len x2.cap)) fun (h4 : H) =>
      some (Sum.inl (((some (⟨b1, 0, (some 0)⟩ : Addr)), (some (⟨b2, 0, (some 0)⟩ : Addr))), h4))) (
      condK (x1 == 3) (
        bindO (ldI .i64 h3 (add (⟨b, 0, (some 0)⟩ : Addr) 1)) fun (x3 : Int) =>
        bindO (ldI .i64 h3 (add (⟨b, 0, (some 0)⟩ : Addr) 2)) fun (x4 : Int) =>
        bindO (ldB h3 (add (⟨b, 0, (some 0)⟩ : Addr) 6)) fun (x5 : Bool) =>
        bindO (ldL h3 (add (⟨b, 0, (some 0)⟩ : Addr) 7)) fun (x6 : Sl) =>
        bindO (st1 h3 (add (⟨b2, 0, (some 0)⟩ : Addr) 1) (.int .i64 x3)) fun (h5 : H) =>
        bindO (st1 h5 (add (⟨b2, 0, (some 0)⟩ : Addr) 2) (.int .i64 x4)) fun (h6 : H) =>
        bindO (st1 h6 (add (⟨b2, 0, (some 0)⟩ : Addr) 6) (.bool x5)) fun (h7 : H) =>
        bindO (st1 h7 (add (⟨b2, 0, (some 0)⟩ : Addr) 7) (.slice x6.base x6.len x6.cap)) fun (h8 : H) =>
        bindO (ldL h7 (add (⟨b, 0, (some 0)⟩ : Addr) 7)) fun (x7 : Sl) =>
        condK (slEq x7.base x7.len x7.cap x6.base x6.len x6.cap) (
          bindO (ldL h6 (add (⟨b, 0, (some 0)⟩ : Addr) 7)) fun (x8 : Sl) =>
          condK (slEq x8.base x8.len x8.cap x6.base x6.len x6.cap) (
            bindO (ldL h5 (add (⟨b, 0, (some 0)⟩ : Addr) 7)) fun (x9 : Sl) =>
            condK (slEq x9.base x9.len x9.cap x6.base x6.len x6.cap) (
              bindO (ldB h6 (add (⟨b, 0, (some 0)⟩ : Addr) 6)) fun (x10 : Bool) =>
              condK (x10 == x5) (
                bindO (ldB h5 (add (⟨b, 0, (some 0)⟩ : Addr) 6)) fun (x11 : Bool) =>
                condK (x11 == x5) (
                  bindO (ldI .i64 h5 (add (⟨b, 0, (some 0)⟩ : Addr) 2)) fun (x12 : Int) =>
                  condK (x12 == x4) (
                    some (Sum.inl (((some (⟨b1, 0, (some 0)⟩ : Addr)), (some (⟨b2, 0, (some 0)⟩ : Addr))), h8))) none) none) none) none) none) none) (
        condK (x1 == 4) (
          bindO (ldI .i64 h3 (add (⟨b, 0, (some 0)⟩ : Addr) 1)) fun (x13 : Int) =>
          bindO (ldI .i64 h3 (add (⟨b, 0, (some 0)⟩ : Addr) 3)) fun (x14 : Int) =>
          bindO (ldI .i64 h3 (add (⟨b, 0, (some 0)⟩ : Addr) 2)) fun (x15 : Int) =>
          bindO (ldI .i64 h3 (add (⟨b, 0, (some 0)⟩ : Addr) 4)) fun (x16 : Int) =>
          bindO (st1 h3 (add (⟨b2, 0, (some 0)⟩ : Addr) 1) (.int .i64 x13)) fun (h9 : H) =>
          bindO (st1 h9 (add (⟨b2, 0, (some 0)⟩ : Addr) 3) (.int .i64 x14)) fun (h10 : H) =>
          bindO (st1 h10 (add (⟨b2, 0, (some 0)⟩ : Addr) 2) (.int .i64 x15)) fun (h11 : H) =>
          bindO (st1 h11 (add (⟨b2, 0, (some 0)⟩ : Addr) 4) (.int .i64 x16)) fun (h12 : H) =>
          bindO (ldI .i64 h11 (add (⟨b, 0, (some 0)⟩ : Addr) 4)) fun (x17 : Int) =>
          condK (x17 == x16) (
            bindO (ldI .i64 h10 (add (⟨b, 0, (some 0)⟩ : Addr) 4)) fun (x18 : Int) =>
            condK (x18 == x16) (
              bindO (ldI .i64 h9 (add (⟨b, 0, (some 0)⟩ : Addr) 4)) fun (x19 : Int) =>
              condK (x19 == x16) (
                bindO (ldI .i64 h10 (add (⟨b, 0, (some 0)⟩ : Addr) 2)) fun (x20 : Int) =>
                condK (x20 == x15) (
                  bindO (ldI .i64 h9 (add (⟨b, 0, (some 0)⟩ : Addr) 2)) fun (x21 : Int) =>
                  condK (x21 == x15) (
                    bindO (ldI .i64 h9 (add (⟨b, 0, (some 0)⟩ : Addr) 3)) fun (x22 : Int) =>
                    condK (x22 == x14) (
                      some (Sum.inl (((some (⟨b1, 0, (some 0)⟩ : Addr)), (some (⟨b2, 0, (some 0)⟩ : Addr))), h12))) none) none) none) none) none) none) (
          condK (x1 == 5) (
            condK (x1 == 5) (
              bindO (ldI .i64 h3 (add (⟨b, 0, (some 0)⟩ : Addr) 1)) fun (x23 : Int) =>
              bindO (ldI .i64 h3 (add (⟨b, 0, (some 0)⟩ : Addr) 3)) fun (x24 : Int) =>
              bindO (st1 h3 (add (⟨b2, 0, (some 0)⟩ : Addr) 1) (.int .i64 x23)) fun (h13 : H) =>
              bindO (st1 h13 (add (⟨b2, 0, (some 0)⟩ : Addr) 3) (.int .i64 x24)) fun (h14 : H) =>
              bindO (ldI .i64 h13 (add (⟨b, 0, (some 0)⟩ : Addr) 3)) fun (x25 : Int) =>
              condK (x25 == x24) (
                some (Sum.inl (((some (⟨b1, 0, (some 0)⟩ : Addr)), (some (⟨b2, 0, (some 0)⟩ : Addr))), h14))) none) (
              condK (x1 == 6) (
                condK (x1 == 6) (
                  bindO (ldI .i64 h3 (add (⟨b, 0, (some 0)⟩ : Addr) 3)) fun (x26 : Int) =>
                  bindO (st1 h3 (add (⟨b2, 0, (some 0)⟩ : Addr) 3) (.int .i64 x26)) fun (h15 : H) =>
                  some (Sum.inl (((some (⟨b1, 0, (some 0)⟩ : Addr)), (some (⟨b2, 0, (some 0)⟩ : Addr))), h15))) (
                  condK (x1 == 8) (
                    bindO (ldI .i64 h3 (add (⟨b, 0, (some 0)⟩ : Addr) 3)) fun (x27 : Int) =>
                    bindO (ldB h3 (add (⟨b, 0, (some 0)⟩ : Addr) 6)) fun (x28 : Bool) =>
                    bindO (st1 h3 (add (⟨b2, 0, (some 0)⟩ : Addr) 3) (.int .i64 x27)) fun (h16 : H) =>
                    bindO (st1 h16 (add (⟨b2, 0, (some 0)⟩ : Addr) 6) (.bool x28)) fun (h17 : H) =>
                    bindO (ldB h16 (add (⟨b, 0, (some 0)⟩ : Addr) 6)) fun (x29 : Bool) =>
                    condK (x29 == x28) (
                      some (Sum.inl (((some (⟨b1, 0, (some 0)⟩ : Addr)), (some (⟨b2, 0, (some 0)⟩ : Addr))), h17))) none) (
                    condK (x1 == 9) (
                      bindO (ldL h3 (add (⟨b, 0, (some 0)⟩ : Addr) 7)) fun (x30 : Sl) =>
                      bindO (st1 h3 (add (⟨b2, 0, (some 0)⟩ : Addr) 7) (.slice x30.base x30.len x30.cap)) fun (h18 : H) =>
                      some (Sum.inl (((some (⟨b1, 0, (some 0)⟩ : Addr)), (some (⟨b2, 0, (some 0)⟩ : Addr))), h18))) (
                      condK (x1 == 10) (
                        condK (x1 == 10) (
                          bindO (ldI .i64 h3 (add (⟨b, 0, (some 0)⟩ : Addr) 1)) fun (x31 : Int) =>
                          bindO (st1 h3 (add (⟨b2, 0, (some 0)⟩ : Addr) 1) (.int .i64 x31)) fun (h19 : H) =>
                          some (Sum.inl (((some (⟨b1, 0, (some 0)⟩ : Addr)), (some (⟨b2, 0, (some 0)⟩ : Addr))), h19))) (
                          some (Sum.inl (((some (⟨b1, 0, (some 0)⟩ : Addr)), (some (⟨b2, 0, (some 0)⟩ : Addr))), h3)))) (
                        condK (x1 == 11) (
                          bindO (ldI .i64 h3 (add (⟨b, 0, (some 0)⟩ : Addr) 1)) fun (x32 : Int) =>
                          bindO (st1 h3 (add (⟨b2, 0, (some 0)⟩ : Addr) 1) (.int .i64 x32)) fun (h20 : H) =>
                          some (Sum.inl (((some (⟨b1, 0, (some 0)⟩ : Addr)), (some (⟨b2, 0, (some 0)⟩ : Addr))), h20))) (
                          some (Sum.inl (((some (⟨b1, 0, (some 0)⟩ : Addr)), (some (⟨b2, 0, (some 0)⟩ : Addr))), h3)))))))) (
                condK (x1 == 12) (
                  bindO (ldI .i64 h3 (add (⟨b, 0, (some 0)⟩ : Addr) 3)) fun (x33 : Int) =>
                  bindO (st1 h3 (add (⟨b2, 0, (some 0)⟩ : Addr) 3) (.int .i64 x33)) fun (h21 : H) =>
                  some (Sum.inl (((some (⟨b1, 0, (some 0)⟩ : Addr)), (some (⟨b2, 0, (some 0)⟩ : Addr))), h21))) (
                  condK (x1 == 8) (
                    bindO (ldI .i64 h3 (add (⟨b, 0, (some 0)⟩ : Addr) 3)) fun (x34 : Int) =>
                    bindO (ldB h3 (add (⟨b, 0, (some 0)⟩ : Addr) 6)) fun (x35 : Bool) =>
                    bindO (st1 h3 (add (⟨b2, 0, (some 0)⟩ : Addr) 3) (.int .i64 x34)) fun (h22 : H) =>
                    bindO (st1 h22 (add (⟨b2, 0, (some 0)⟩ : Addr) 6) (.bool x35)) fun (h23 : H) =>
                    bindO (ldB h22 (add (⟨b, 0, (some 0)⟩ : Addr) 6)) fun (x36 : Bool) =>
                    condK (x36 == x35) (
                      some (Sum.inl (((some (⟨b1, 0, (some 0)⟩ : Addr)), (some (⟨b2, 0, (some 0)⟩ : Addr))), h23))) none) (
                    condK (x1 == 9) (
                      bindO (ldL h3 (add (⟨b, 0, (some 0)⟩ : Addr) 7)) fun (x37 : Sl) =>
                      bindO (st1 h3 (add (⟨b2, 0, (some 0)⟩ : Addr) 7) (.slice x37.base x37.len x37.cap)) fun (h24 : H) =>
                      some (Sum.inl (((some (⟨b1, 0, (some 0)⟩ : Addr)), (some (⟨b2, 0, (some 0)⟩ : Addr))), h24))) (
                      condK (x1 == 10) (
                        condK (x1 == 10) (
                          bindO (ldI .i64 h3 (add (⟨b, 0, (some 0)⟩ : Addr) 1)) fun (x38 : Int) =>
                          bindO (st1 h3 (add (⟨b2, 0, (some 0)⟩ : Addr) 1) (.int .i64 x38)) fun (h25 : H) =>
                          some (Sum.inl (((some (⟨b1, 0, (some 0)⟩ : Addr)), (some (⟨b2, 0, (some 0)⟩ : Addr))), h25))) (
                          some (Sum.inl (((some (⟨b1, 0, (some 0)⟩ : Addr)), (some (⟨b2, 0, (some 0)⟩ : Addr))), h3)))) (
                        condK (x1 == 11) (
                          bindO (ldI .i64 h3 (add (⟨b, 0, (some 0)⟩ : Addr) 1)) fun (x39 : Int) =>
                          bindO (st1 h3 (add (⟨b2, 0, (some 0)⟩ : Addr) 1) (.int .i64 x39)) fun (h26 : H) =>
                          some (Sum.inl (((some (⟨b1, 0, (some 0)⟩ : Addr)), (some (⟨b2, 0, (some 0)⟩ : Addr))), h26))) (
                          some (Sum.inl (((some (⟨b1, 0, (some 0)⟩ : Addr)), (some (⟨b2, 0, (some 0)⟩ : Addr))), h3)))))))))) (
            condK (x1 == 7) (
              bindO (ldI .i64 h3 (add (⟨b, 0, (some 0)⟩ : Addr) 1)) fun (x40 : Int) =>
              bindO (ldI .i64 h3 (add (⟨b, 0, (some 0)⟩ : Addr) 3)) fun (x41 : Int) =>
              bindO (st1 h3 (add (⟨b2, 0, (some 0)⟩ : Addr) 1) (.int .i64 x40)) fun (h27 : H) =>
              bindO (st1 h27 (add (⟨b2, 0, (some 0)⟩ : Addr) 3) (.int .i64 x41)) fun (h28 : H) =>
              bindO (ldI .i64 h27 (add (⟨b, 0, (some 0)⟩ : Addr) 3)) fun (x42 : Int) =>
              condK (x42 == x41) (
                some (Sum.inl (((some (⟨b1, 0, (some 0)⟩ : Addr)), (some (⟨b2, 0, (some 0)⟩ : Addr))), h28))) none) (
              condK (x1 == 6) (
                condK (x1 == 6) (
                  bindO (ldI .i64 h3 (add (⟨b, 0, (some 0)⟩ : Addr) 3)) fun (x43 : Int) =>
                  bindO (st1 h3 (add (⟨b2, 0, (some 0)⟩ : Addr) 3) (.int .i64 x43)) fun (h29 : H) =>
                  some (Sum.inl (((some (⟨b1, 0, (some 0)⟩ : Addr)), (some (⟨b2, 0, (some 0)⟩ : Addr))), h29))) (
                  condK (x1 == 8) (
                    bindO (ldI .i64 h3 (add (⟨b, 0, (some 0)⟩ : Addr) 3)) fun (x44 : Int) =>
                    bindO (ldB h3 (add (⟨b, 0, (some 0)⟩ : Addr) 6)) fun (x45 : Bool) =>
                    bindO (st1 h3 (add (⟨b2, 0, (some 0)⟩ : Addr) 3) (.int .i64 x44)) fun (h30 : H) =>
                    bindO (st1 h30 (add (⟨b2, 0, (some 0)⟩ : Addr) 6) (.bool x45)) fun (h31 : H) =>
                    bindO (ldB h30 (add (⟨b, 0, (some 0)⟩ : Addr) 6)) fun (x46 : Bool) =>
                    condK (x46 == x45) (
                      some (Sum.inl (((some (⟨b1, 0, (some 0)⟩ : Addr)), (some (⟨b2, 0, (some 0)⟩ : Addr))), h31))) none) (
                    condK (x1 == 9) (
                      bindO (ldL h3 (add (⟨b, 0, (some 0)⟩ : Addr) 7)) fun (x47 : Sl) =>
                      bindO (st1 h3 (add (⟨b2, 0, (some 0)⟩ : Addr) 7) (.slice x47.base x47.len x47.cap)) fun (h32 : H) =>
                      some (Sum.inl (((some (⟨b1, 0, (some 0)⟩ : Addr)), (some (⟨b2, 0, (some 0)⟩ : Addr))), h32))) (
                      condK (x1 == 10) (
                        condK (x1 == 10) (
                          bindO (ldI .i64 h3 (add (⟨b, 0, (some 0)⟩ : Addr) 1)) fun (x48 : Int) =>
                          bindO (st1 h3 (add (⟨b2, 0, (some 0)⟩ : Addr) 1) (.int .i64 x48)) fun (h33 : H) =>
                          some (Sum.inl (((some (⟨b1, 0, (some 0)⟩ : Addr)), (some (⟨b2, 0, (some 0)⟩ : Addr))), h33))) (
                          some (Sum.inl (((some (⟨b1, 0, (some 0)⟩ : Addr)), (some (⟨b2, 0, (some 0)⟩ : Addr))), h3)))) (
                        condK (x1 == 11) (
                          bindO (ldI .i64 h3 (add (⟨b, 0, (some 0)⟩ : Addr) 1)) fun (x49 : Int) =>
                          bindO (st1 h3 (add (⟨b2, 0, (some 0)⟩ : Addr) 1) (.int .i64 x49)) fun (h34 : H) =>
                          some (Sum.inl (((some (⟨b1, 0, (some 0)⟩ : Addr)), (some (⟨b2, 0, (some 0)⟩ : Addr))), h34))) (
                          some (Sum.inl (((some (⟨b1, 0, (some 0)⟩ : Addr)), (some (⟨b2, 0, (some 0)⟩ : Addr))), h3)))))))) (
                condK (x1 == 12) (
                  bindO (ldI .i64 h3 (add (⟨b, 0, (some 0)⟩ : Addr) 3)) fun (x50 : Int) =>
                  bindO (st1 h3 (add (⟨b2, 0, (some 0)⟩ : Addr) 3) (.int .i64 x50)) fun (h35 : H) =>
                  some (Sum.inl (((some (⟨b1, 0, (some 0)⟩ : Addr)), (some (⟨b2, 0, (some 0)⟩ : Addr))), h35))) (
                  condK (x1 == 8) (
                    bindO (ldI .i64 h3 (add (⟨b, 0, (some 0)⟩ : Addr) 3)) fun (x51 : Int) =>
                    bindO (ldB h3 (add (⟨b, 0, (some 0)⟩ : Addr) 6)) fun (x52 : Bool) =>
                    bindO (st1 h3 (add (⟨b2, 0, (some 0)⟩ : Addr) 3) (.int .i64 x51)) fun (h36 : H) =>
                    bindO (st1 h36 (add (⟨b2, 0, (some 0)⟩ : Addr) 6) (.bool x52)) fun (h37 : H) =>
                    bindO (ldB h36 (add (⟨b, 0, (some 0)⟩ : Addr) 6)) fun (x53 : Bool) =>
                    condK (x53 == x52) (
                      some (Sum.inl (((some (⟨b1, 0, (some 0)⟩ : Addr)), (some (⟨b2, 0, (some 0)⟩ : Addr))), h37))) none) (
                    condK (x1 == 9) (
                      bindO (ldL h3 (add (⟨b, 0, (some 0)⟩ : Addr) 7)) fun (x54 : Sl) =>
                      bindO (st1 h3 (add (⟨b2, 0, (some 0)⟩ : Addr) 7) (.slice x54.base x54.len x54.cap)) fun (h38 : H) =>
                      some (Sum.inl (((some (⟨b1, 0, (some 0)⟩ : Addr)), (some (⟨b2, 0, (some 0)⟩ : Addr))), h38))) (
                      condK (x1 == 10) (
                        condK (x1 == 10) (
                          bindO (ldI .i64 h3 (add (⟨b, 0, (some 0)⟩ : Addr) 1)) fun (x55 : Int) =>
                          bindO (st1 h3 (add (⟨b2, 0, (some 0)⟩ : Addr) 1) (.int .i64 x55)) fun (h39 : H) =>
                          some (Sum.inl (((some (⟨b1, 0, (some 0)⟩ : Addr)), (some (⟨b2, 0, (some 0)⟩ : Addr))), h39))) (
                          some (Sum.inl (((some (⟨b1, 0, (some 0)⟩ : Addr)), (some (⟨b2, 0, (some 0)⟩ : Addr))), h3)))) (
                        condK (x1 == 11) (
                          bindO (ldI .i64 h3 (add (⟨b, 0, (some 0)⟩ : Addr) 1)) fun (x56 : Int) =>
                          bindO (st1 h3 (add (⟨b2, 0, (some 0)⟩ : Addr) 1) (.int .i64 x56)) fun (h40 : H) =>
                          some (Sum.inl (((some (⟨b1, 0, (some 0)⟩ : Addr)), (some (⟨b2, 0, (some 0)⟩ : Addr))), h40))) (
                          some (Sum.inl (((some (⟨b1, 0, (some 0)⟩ : Addr)), (some (⟨b2, 0, (some 0)⟩ : Addr))), h3)))))))))))))) fun (((x1, out), h4) : (((Option Addr) × (Option Addr)) × H)) =>
  ptrK out fun (a0 : Addr) =>
  bindO (ldZ [.int .i64, .int .i64, .int .i64, .int .i64, .int .i64, .int .i64, .bool, .sl, .sl] h4 a0) fun ((x2, x3, x4, x5, x6, x7, x8, x9, x10) : Int × Int × Int × Int × Int × Int × Bool × Sl × Sl) =>
  ptrK x1 fun (a1 : Addr) =>
  bindO (stZ [.int .i64, .int .i64, .int .i64, .int .i64, .int .i64, .int .i64, .bool, .sl, .sl] h4 a1 ((x2, x3, x4, x5, x6, x7, x8, x9, x10) : Int × Int × Int × Int × Int × Int × Bool × Sl × Sl)) fun (h5 : H) =>
  ptrK x1 fun (a2 : Addr) =>
  bindO (ldZ [.int .i64, .int .i64, .int .i64, .int .i64, .int .i64, .int .i64, .bool, .sl, .sl] h5 a2) fun ((x11, x12, x13, x14, x15, x16, x17, x18, x19) : Int × Int × Int × Int × Int × Int × Bool × Sl × Sl) =>
  some ((x11, (x12, (x13, (x14, (x15, (x16, (x17, (x18, x19)))))))), h5)
noncomputable def ann_90 : Ann := ⟨fun i => bif i.beq 22 then some ⟨[2, 3], [⟨false, [.ptr]⟩, ⟨false, [.ptr]⟩]⟩ else none, fun _ => none, fun _ => none⟩
noncomputable def E_90 : Ent := ⟨90, [⟨true, [.int .i64, .int .i64, .int .i64, .int .i64, .int .i64, .int .i64, .bool, .sl, .sl]⟩], [⟨true, [.int .i64, .int .i64, .int .i64, .int .i64, .int .i64, .int .i64, .bool, .sl, .sl]⟩], fun (x : (Int × Int × Int × Int × Int × Int × Bool × Sl × Sl)) h => frame_bare x h⟩
theorem eq_90  : (fun (x : PT E_90.ps) (h : H) => runFK Go.Proofs.Ythiccnmplgdheaa.Tab.D (lstK []) ann_90 Try.f90 (Try.f90.body.getD .skip) E_90.ys (encP E_90.ps x) h) = (fun (x : (Int × Int × Int × Int × Int × Int × Bool × Sl × Sl)) h => frame_bare x h) := by kernel_rfl
theorem ok_90 : E_90.ok Go.Proofs.Ythiccnmplgdheaa.Tab.D := fun x h y h' e => runFK_ok (lstK_ok [] (fun E h => nomatch h)) (A := ann_90) (by kernel_rfl) (show Go.Proofs.Ythiccnmplgdheaa.Tab.D.fn.get 90 = some Try.f90 by kernel_rfl) (show Try.f90.body = some (Try.f90.body.getD .skip) by kernel_rfl) ((congrFun (congrFun (eq_90 ) x) h).trans e)
/-! slices_Equal_byte -/
noncomputable def slices_Equal_byte_l1 : ((Sl × (Sl × (Int × Int))) × H) → Option (((Sl × (Sl × (Int × Int))) × H) ⊕ (Bool × H)) := fun ((s1, (s2, (x0, x1))), h0) =>
  condK (decide ((x1 < x0))) (
    bindO (ixT 1 s1 x1) fun (a0 : Addr) =>
    bindO (ldI .u8 h0 a0) fun (x2 : Int) =>
    bindO (ixT 1 s2 x1) fun (a1 : Addr) =>
    bindO (ldI .u8 h0 a1) fun (x3 : Int) =>
    condK (x2 != x3) (
      some (Sum.inr (false, h0))) (
      some (Sum.inl ((s1, (s2, (x0, (IntKind.wrap .i64 (x1 + 1))))), h0)))) (
    some (Sum.inr (true, h0)))

noncomputable def slices_Equal_byte (s1 : Sl) (s2 : Sl) (h : H) : Option (Bool × H) :=
  condK (((s1.len : Nat) : Int) != ((s2.len : Nat) : Int)) (
    some (false, h)) (
    loopO slices_Equal_byte_l1 ((s1, (s2, (((s1.len : Nat) : Int), 0))), h))
noncomputable def ann_144 : Ann := ⟨fun _ => none, fun i => bif i.beq 4 then some ⟨[0, 1, 12, 13], [⟨false, [.sl]⟩, ⟨false, [.sl]⟩, ⟨false, [.int .i64]⟩, ⟨false, [.int .i64]⟩]⟩ else none, fun _ => none⟩
noncomputable def E_144 : Ent := ⟨144, [⟨false, [.sl]⟩, ⟨false, [.sl]⟩], [⟨false, [.bool]⟩], fun (x : Sl × Sl) h => slices_Equal_byte x.1 x.2 h⟩
theorem eq_144  : (fun (x : PT E_144.ps) (h : H) => runFK Go.Proofs.Ythiccnmplgdheaa.Tab.D (lstK []) ann_144 Try.f144 (Try.f144.body.getD .skip) E_144.ys (encP E_144.ps x) h) = (fun (x : Sl × Sl) h => slices_Equal_byte x.1 x.2 h) := by kernel_rfl
theorem ok_144 : E_144.ok Go.Proofs.Ythiccnmplgdheaa.Tab.D := fun x h y h' e => runFK_ok (lstK_ok [] (fun E h => nomatch h)) (A := ann_144) (by kernel_rfl) (show Go.Proofs.Ythiccnmplgdheaa.Tab.D.fn.get 144 = some Try.f144 by kernel_rfl) (show Try.f144.body = some (Try.f144.body.getD .skip) by kernel_rfl) ((congrFun (congrFun (eq_144 ) x) h).trans e)
/-! slices_Equal_2_int_2_int -/
noncomputable def slices_Equal_2_int_2_int_l1 : ((Sl × (Sl × (Int × Int))) × H) → Option (((Sl × (Sl × (Int × Int))) × H) ⊕ (Bool × H)) := fun ((s1, (s2, (x0, x1))), h0) =>
  condK (decide ((x1 < x0))) (
    bindO (ixT 2 s1 x1) fun (a0 : Addr) =>
    bindO (ldZ [.int .i64, .int .i64] h0 a0) fun ((x2, x3) : Int × Int) =>
    bindO (ixT 2 s2 x1) fun (a1 : Addr) =>
    bindO (ldZ [.int .i64, .int .i64] h0 a1) fun ((x4, x5) : Int × Int) =>
    condK (!((x2 == x4) && ((x3 == x5) && true))) (
      some (Sum.inr (false, h0))) (
      some (Sum.inl ((s1, (s2, (x0, (IntKind.wrap .i64 (x1 + 1))))), h0)))) (
    some (Sum.inr (true, h0)))

noncomputable def slices_Equal_2_int_2_int (s1 : Sl) (s2 : Sl) (h : H) : Option (Bool × H) :=
  condK (((s1.len : Nat) : Int) != ((s2.len : Nat) : Int)) (
    some (false, h)) (
    loopO slices_Equal_2_int_2_int_l1 ((s1, (s2, (((s1.len : Nat) : Int), 0))), h))
noncomputable def ann_145 : Ann := ⟨fun _ => none, fun i => bif i.beq 4 then some ⟨[0, 1, 12, 13], [⟨false, [.sl]⟩, ⟨false, [.sl]⟩, ⟨false, [.int .i64]⟩, ⟨false, [.int .i64]⟩]⟩ else none, fun _ => none⟩
noncomputable def E_145 : Ent := ⟨145, [⟨false, [.sl]⟩, ⟨false, [.sl]⟩], [⟨false, [.bool]⟩], fun (x : Sl × Sl) h => slices_Equal_2_int_2_int x.1 x.2 h⟩
theorem eq_145  : (fun (x : PT E_145.ps) (h : H) => runFK Go.Proofs.Ythiccnmplgdheaa.Tab.D (lstK []) ann_145 Try.f145 (Try.f145.body.getD .skip) E_145.ys (encP E_145.ps x) h) = (fun (x : Sl × Sl) h => slices_Equal_2_int_2_int x.1 x.2 h) := by kernel_rfl
theorem ok_145 : E_145.ok Go.Proofs.Ythiccnmplgdheaa.Tab.D := fun x h y h' e => runFK_ok (lstK_ok [] (fun E h => nomatch h)) (A := ann_145) (by kernel_rfl) (show Go.Proofs.Ythiccnmplgdheaa.Tab.D.fn.get 145 = some Try.f145 by kernel_rfl) (show Try.f145.body = some (Try.f145.body.getD .skip) by kernel_rfl) ((congrFun (congrFun (eq_145 ) x) h).trans e)
/-! frame_same -/
noncomputable def P.frame_same (slices_Equal_byte : Sl → Sl → H → Option ((Bool) × H)) (slices_Equal_2_int_2_int : Sl → Sl → H → Option ((Bool) × H)) (a0 : Int × Int × Int × Int × Int × Int × Bool × Sl × Sl) (b : Int × Int × Int × Int × Int × Int × Bool × Sl × Sl) (h : H) : Option (Bool × H) :=
  newO (row 33 [(.int .i64 a0.1), (.int .i64 a0.2.1), (.int .i64 a0.2.2.1), (.int .i64 a0.2.2.2.1), (.int .i64 a0.2.2.2.2.1), (.int .i64 a0.2.2.2.2.2.1), (.bool a0.2.2.2.2.2.2.1), (.slice a0.2.2.2.2.2.2.2.1.base a0.2.2.2.2.2.2.2.1.len a0.2.2.2.2.2.2.2.1.cap), (.slice a0.2.2.2.2.2.2.2.2.base a0.2.2.2.2.2.2.2.2.len a0.2.2.2.2.2.2.2.2.cap)]) h fun (b1 : Nat) (h0 : H) =>
  newO (row 33 [(.int .i64 b.1), (.int .i64 b.2.1), (.int .i64 b.2.2.1), (.int .i64 b.2.2.2.1), (.int .i64 b.2.2.2.2.1), (.int .i64 b.2.2.2.2.2.1), (.bool b.2.2.2.2.2.2.1), (.slice b.2.2.2.2.2.2.2.1.base b.2.2.2.2.2.2.2.1.len b.2.2.2.2.2.2.2.1.cap), (.slice b.2.2.2.2.2.2.2.2.base b.2.2.2.2.2.2.2.2.len b.2.2.2.2.2.2.2.2.cap)]) h0 fun (b2 : Nat) (h1 : H) =>
  bindO (ldI .i64 h1 (add (⟨b1, 0, (some 0)⟩ : Addr) 0)) fun (x0 : Int) =>
  bindO (ldI .i64 h1 (add (⟨b2, 0, (some 0)⟩ : Addr) 0)) fun (x1 : Int) =>
  condK (x0 == x1) (
    bindO (ldI .i64 h1 (add (⟨b1, 0, (some 0)⟩ : Addr) 1)) fun (x2 : Int) =>
    bindO (ldI .i64 h1 (add (⟨b2, 0, (some 0)⟩ : Addr) 1)) fun (x3 : Int) =>
    condK (x2 == x3) (
      bindO (ldI .i64 h1 (add (⟨b1, 0, (some 0)⟩ : Addr) 2)) fun (x4 : Int) =>
      bindO (ldI .i64 h1 (add (⟨b2, 0, (some 0)⟩ : Addr) 2)) fun (x5 : Int) =>
      condK (x4 == x5) (
        bindO (ldI .i64 h1 (add (⟨b1, 0, (some 0)⟩ : Addr) 3)) fun (x6 : Int) =>
        bindO (ldI .i64 h1 (add (⟨b2, 0, (some 0)⟩ : Addr) 3)) fun (x7 : Int) =>
        condK (x6 == x7) (
          bindO (ldI .i64 h1 (add (⟨b1, 0, (some 0)⟩ : Addr) 4)) fun (x8 : Int) =>
          bindO (ldI .i64 h1 (add (⟨b2, 0, (some 0)⟩ : Addr) 4)) fun (x9 : Int) =>
          condK (x8 == x9) (
            bindO (ldB h1 (add (⟨b1, 0, (some 0)⟩ : Addr) 6)) fun (x10 : Bool) =>
            bindO (ldB h1 (add (⟨b2, 0, (some 0)⟩ : Addr) 6)) fun (x11 : Bool) =>
            condK (x10 == x11) (
              bindO (ldL h1 (add (⟨b1, 0, (some 0)⟩ : Addr) 7)) fun (x12 : Sl) =>
              bindO (ldL h1 (add (⟨b2, 0, (some 0)⟩ : Addr) 7)) fun (x13 : Sl) =>
              bind2 (slices_Equal_byte x12 x13 h1) fun (x14 : Bool) (h2 : H) =>
              condK x14 (
                bindO (ldL h2 (add (⟨b1, 0, (some 0)⟩ : Addr) 8)) fun (x15 : Sl) =>
                bindO (ldL h2 (add (⟨b2, 0, (some 0)⟩ : Addr) 8)) fun (x16 : Sl) =>
                bind2 (slices_Equal_2_int_2_int x15 x16 h2) fun (x17 : Bool) (h3 : H) =>
                some (x17, h3)) (
                some (false, h2))) (
              some (false, h1))) (
            some (false, h1))) (
          some (false, h1))) (
        some (false, h1))) (
      some (false, h1))) (
    some (false, h1))
noncomputable def frame_same : (Int × Int × Int × Int × Int × Int × Bool × Sl × Sl) → (Int × Int × Int × Int × Int × Int × Bool × Sl × Sl) → H → Option ((Bool) × H) := P.frame_same slices_Equal_byte slices_Equal_2_int_2_int
noncomputable def ann_89 : Ann := ⟨fun _ => none, fun _ => none, fun _ => none⟩
noncomputable def E_89 : Ent := ⟨89, [⟨true, [.int .i64, .int .i64, .int .i64, .int .i64, .int .i64, .int .i64, .bool, .sl, .sl]⟩, ⟨true, [.int .i64, .int .i64, .int .i64, .int .i64, .int .i64, .int .i64, .bool, .sl, .sl]⟩], [⟨false, [.bool]⟩], fun (x : ((Int × Int × Int × Int × Int × Int × Bool × Sl × Sl)) × ((Int × Int × Int × Int × Int × Int × Bool × Sl × Sl))) h => frame_same x.1 x.2 h⟩
theorem eq_89 (slices_Equal_byte : Sl → Sl → H → Option ((Bool) × H)) (slices_Equal_2_int_2_int : Sl → Sl → H → Option ((Bool) × H)) : (fun (x : PT E_89.ps) (h : H) => runFK Go.Proofs.Ythiccnmplgdheaa.Tab.D (lstK [⟨144, [⟨false, [.sl]⟩, ⟨false, [.sl]⟩], [⟨false, [.bool]⟩], fun (x : Sl × Sl) h => slices_Equal_byte x.1 x.2 h⟩, ⟨145, [⟨false, [.sl]⟩, ⟨false, [.sl]⟩], [⟨false, [.bool]⟩], fun (x : Sl × Sl) h => slices_Equal_2_int_2_int x.1 x.2 h⟩]) ann_89 Try.f89 (Try.f89.body.getD .skip) E_89.ys (encP E_89.ps x) h) = (fun (x : ((Int × Int × Int × Int × Int × Int × Bool × Sl × Sl)) × ((Int × Int × Int × Int × Int × Int × Bool × Sl × Sl))) h => P.frame_same slices_Equal_byte slices_Equal_2_int_2_int x.1 x.2 h) := by kernel_rfl
theorem ok_89 : E_89.ok Go.Proofs.Ythiccnmplgdheaa.Tab.D := fun x h y h' e => runFK_ok (lstK_ok [E_144, E_145] (List.forall_mem_cons.2 ⟨ok_144, List.forall_mem_cons.2 ⟨ok_145, fun E h => nomatch h⟩⟩)) (A := ann_89) (by kernel_rfl) (show Go.Proofs.Ythiccnmplgdheaa.Tab.D.fn.get 89 = some Try.f89 by kernel_rfl) (show Try.f89.body = some (Try.f89.body.getD .skip) by kernel_rfl) ((congrFun (congrFun (eq_89 slices_Equal_byte slices_Equal_2_int_2_int) x) h).trans e)
/-! frame_may_1 -/
noncomputable def frame_may_1 (n : Int) (h : H) : Option (Bool × H) :=
  condK (decide ((n < 0))) (
    some (true, h)) (
    some ((decide ((n > 4611686018427387903))), h))
noncomputable def ann_147 : Ann := ⟨fun _ => none, fun _ => none, fun _ => none⟩
noncomputable def E_147 : Ent := ⟨147, [⟨false, [.int .i64]⟩], [⟨false, [.bool]⟩], fun (x : Int) h => frame_may_1 x h⟩
theorem eq_147  : (fun (x : PT E_147.ps) (h : H) => runFK Go.Proofs.Ythiccnmplgdheaa.Tab.D (lstK []) ann_147 Try.f147 (Try.f147.body.getD .skip) E_147.ys (encP E_147.ps x) h) = (fun (x : Int) h => frame_may_1 x h) := by kernel_rfl
theorem ok_147 : E_147.ok Go.Proofs.Ythiccnmplgdheaa.Tab.D := fun x h y h' e => runFK_ok (lstK_ok [] (fun E h => nomatch h)) (A := ann_147) (by kernel_rfl) (show Go.Proofs.Ythiccnmplgdheaa.Tab.D.fn.get 147 = some Try.f147 by kernel_rfl) (show Try.f147.body = some (Try.f147.body.getD .skip) by kernel_rfl) ((congrFun (congrFun (eq_147 ) x) h).trans e)
/-! slices_IndexFunc_int_frame_may_1 -/
noncomputable def P.slices_IndexFunc_int_frame_may_1_l1 (frame_may_1 : Int → H → Option ((Bool) × H)) : ((Sl × (PUnit × (Int × Int))) × H) → Option (((Sl × (PUnit × (Int × Int))) × H) ⊕ (Int × H)) := fun ((s, ((), (f, x0))), h0) =>
  condK (decide ((x0 < f))) (
    bindO (ixT 1 s x0) fun (a0 : Addr) =>
    bindO (ldI .i64 h0 a0) fun (x1 : Int) =>
    bind2 (frame_may_1 x1 h0) fun (x2 : Bool) (h1 : H) =>
    condK x2 (
      some (Sum.inr (x0, h1))) (
      some (Sum.inl ((s, ((), (f, (IntKind.wrap .i64 (x0 + 1))))), h1)))) (
    some (Sum.inr ((-1), h0)))

noncomputable def P.slices_IndexFunc_int_frame_may_1 (frame_may_1 : Int → H → Option ((Bool) × H)) (s : Sl) (f : Unit) (h : H) : Option (Int × H) :=
  loopO (P.slices_IndexFunc_int_frame_may_1_l1 frame_may_1) ((s, ((), (((s.len : Nat) : Int), 0))), h)
noncomputable abbrev slices_IndexFunc_int_frame_may_1_l1 := P.slices_IndexFunc_int_frame_may_1_l1 frame_may_1
noncomputable def slices_IndexFunc_int_frame_may_1 : Sl → Unit → H → Option ((Int) × H) := P.slices_IndexFunc_int_frame_may_1 frame_may_1
noncomputable def ann_166c147 : Ann := ⟨fun _ => none, fun i => bif i.beq 2 then some ⟨[0, 1, 7, 8], [⟨false, [.sl]⟩, ⟨false, [.clo 147 0]⟩, ⟨false, [.int .i64]⟩, ⟨false, [.int .i64]⟩]⟩ else none, fun _ => none⟩
noncomputable def E_166c147 : Ent := ⟨166, [⟨false, [.sl]⟩, ⟨false, [.clo 147 0]⟩], [⟨false, [.int .i64]⟩], fun (x : Sl × Unit) h => slices_IndexFunc_int_frame_may_1 x.1 x.2 h⟩
theorem eq_166c147 (frame_may_1 : Int → H → Option ((Bool) × H)) : (fun (x : PT E_166c147.ps) (h : H) => runFK Go.Proofs.Ythiccnmplgdheaa.Tab.D (lstK [⟨147, [⟨false, [.int .i64]⟩], [⟨false, [.bool]⟩], fun (x : Int) h => frame_may_1 x h⟩]) ann_166c147 Try.f166 (Try.f166.body.getD .skip) E_166c147.ys (encP E_166c147.ps x) h) = (fun (x : Sl × Unit) h => P.slices_IndexFunc_int_frame_may_1 frame_may_1 x.1 x.2 h) := by kernel_rfl
theorem ok_166c147 : E_166c147.ok Go.Proofs.Ythiccnmplgdheaa.Tab.D := fun x h y h' e => runFK_ok (lstK_ok [E_147] (List.forall_mem_cons.2 ⟨ok_147, fun E h => nomatch h⟩)) (A := ann_166c147) (by kernel_rfl) (show Go.Proofs.Ythiccnmplgdheaa.Tab.D.fn.get 166 = some Try.f166 by kernel_rfl) (show Try.f166.body = some (Try.f166.body.getD .skip) by kernel_rfl) ((congrFun (congrFun (eq_166c147 frame_may_1) x) h).trans e)
/-! slices_ContainsFunc_int_frame_may_1 -/
noncomputable def P.slices_ContainsFunc_int_frame_may_1 (slices_IndexFunc_int_frame_may_1 : Sl → Unit → H → Option ((Int) × H)) (s : Sl) (f : Unit) (h : H) : Option (Bool × H) :=
  bind2 (slices_IndexFunc_int_frame_may_1 s () h) fun (x0 : Int) (h0 : H) =>
  some ((decide ((x0 ≥ 0))), h0)
noncomputable def slices_ContainsFunc_int_frame_may_1 : Sl → Unit → H → Option ((Bool) × H) := P.slices_ContainsFunc_int_frame_may_1 slices_IndexFunc_int_frame_may_1
noncomputable def ann_146c147 : Ann := ⟨fun _ => none, fun _ => none, fun _ => none⟩
noncomputable def E_146c147 : Ent := ⟨146, [⟨false, [.sl]⟩, ⟨false, [.clo 147 0]⟩], [⟨false, [.bool]⟩], fun (x : Sl × Unit) h => slices_ContainsFunc_int_frame_may_1 x.1 x.2 h⟩
theorem eq_146c147 (slices_IndexFunc_int_frame_may_1 : Sl → Unit → H → Option ((Int) × H)) : (fun (x : PT E_146c147.ps) (h : H) => runFK Go.Proofs.Ythiccnmplgdheaa.Tab.D (lstK [⟨166, [⟨false, [.sl]⟩, ⟨false, [.clo 147 0]⟩], [⟨false, [.int .i64]⟩], fun (x : Sl × Unit) h => slices_IndexFunc_int_frame_may_1 x.1 x.2 h⟩]) ann_146c147 Try.f146 (Try.f146.body.getD .skip) E_146c147.ys (encP E_146c147.ps x) h) = (fun (x : Sl × Unit) h => P.slices_ContainsFunc_int_frame_may_1 slices_IndexFunc_int_frame_may_1 x.1 x.2 h) := by kernel_rfl
theorem ok_146c147 : E_146c147.ok Go.Proofs.Ythiccnmplgdheaa.Tab.D := fun x h y h' e => runFK_ok (lstK_ok [E_166c147] (List.forall_mem_cons.2 ⟨ok_166c147, fun E h => nomatch h⟩)) (A := ann_146c147) (by kernel_rfl) (show Go.Proofs.Ythiccnmplgdheaa.Tab.D.fn.get 146 = some Try.f146 by kernel_rfl) (show Try.f146.body = some (Try.f146.body.getD .skip) by kernel_rfl) ((congrFun (congrFun (eq_146c147 slices_IndexFunc_int_frame_may_1) x) h).trans e)
/-! frame_may -/
noncomputable def P.frame_may (slices_ContainsFunc_int_frame_may_1 : Sl → Unit → H → Option ((Bool) × H)) (l : Sl) (h : H) : Option (Bool × H) :=
  bind2 (slices_ContainsFunc_int_frame_may_1 l () h) fun (x0 : Bool) (h0 : H) =>
  some ((!x0), h0)
noncomputable def frame_may : Sl → H → Option ((Bool) × H) := P.frame_may slices_ContainsFunc_int_frame_may_1
noncomputable def ann_91 : Ann := ⟨fun _ => none, fun _ => none, fun _ => none⟩
noncomputable def E_91 : Ent := ⟨91, [⟨false, [.sl]⟩], [⟨false, [.bool]⟩], fun (x : Sl) h => frame_may x h⟩
theorem eq_91 (slices_ContainsFunc_int_frame_may_1 : Sl → Unit → H → Option ((Bool) × H)) : (fun (x : PT E_91.ps) (h : H) => runFK Go.Proofs.Ythiccnmplgdheaa.Tab.D (lstK [⟨146, [⟨false, [.sl]⟩, ⟨false, [.clo 147 0]⟩], [⟨false, [.bool]⟩], fun (x : Sl × Unit) h => slices_ContainsFunc_int_frame_may_1 x.1 x.2 h⟩]) ann_91 Try.f91 (Try.f91.body.getD .skip) E_91.ys (encP E_91.ps x) h) = (fun (x : Sl) h => P.frame_may slices_ContainsFunc_int_frame_may_1 x h) := by kernel_rfl
theorem ok_91 : E_91.ok Go.Proofs.Ythiccnmplgdheaa.Tab.D := fun x h y h' e => runFK_ok (lstK_ok [E_146c147] (List.forall_mem_cons.2 ⟨ok_146c147, fun E h => nomatch h⟩)) (A := ann_91) (by kernel_rfl) (show Go.Proofs.Ythiccnmplgdheaa.Tab.D.fn.get 91 = some Try.f91 by kernel_rfl) (show Try.f91.body = some (Try.f91.body.getD .skip) by kernel_rfl) ((congrFun (congrFun (eq_91 slices_ContainsFunc_int_frame_may_1) x) h).trans e)
/-! frame_rightSpans -/
noncomputable def P.frame_rightSpans_l1 (frame_may : Sl → H → Option ((Bool) × H)) : ((Sl × (Sl × (Int × Int))) × H) → Option (((Sl × (Sl × (Int × Int))) × H) ⊕ ((Sl × H) ⊕ (Bool × H))) := fun ((l, (x0, (x1, x2))), h0) =>
  condK (decide ((x2 < x1))) (
    bindO (ixT 2 x0 x2) fun (a0 : Addr) =>
    bindO (ldZ [.int .i64, .int .i64] h0 a0) fun ((x3, x4) : Int × Int) =>
    newO (row 36 [(.int .i64 0), (.int .i64 0)]) h0 fun (b : Nat) (h1 : H) =>
    bindO (stZ [.int .i64, .int .i64] h1 (⟨b, 0, (some 0)⟩ : Addr) ((x3, x4) : Int × Int)) fun (h2 : H) =>
    joinO (
      letH (growIf h2 30) fun (h3 : H) =>
      bindO (ixAT 2 1 (⟨b, 0, (some 0)⟩ : Addr) 0) fun (a1 : Addr) =>
      bindO (ldI .i64 h3 a1) fun (x5 : Int) =>
      bindO (ixAT 2 1 (⟨b, 0, (some 0)⟩ : Addr) 1) fun (a2 : Addr) =>
      bindO (ldI .i64 h3 a2) fun (x6 : Int) =>
      letH (addP 31 h2.size [(4, (row 3 [(.int .i64 x5), (.int .i64 x6)]))] h3) fun (h4 : H) =>
      bind2 (frame_may (⟨(some (⟨(h2.size + 4), 0, (some 0)⟩ : Addr)), 2, 2⟩ : Sl) h4) fun (x7 : Bool) (h5 : H) =>
      condK (!x7) (
        letH (addP 1073741823 h2.size [(4, (row 3 [(.int .i64 x5), (.int .i64 x6)]))] h5) fun (h6 : H) =>
        letH (tickIf 30 h6) fun (h7 : H) =>
        some (Sum.inl ((l, (x0, (x1, (x2, true)))), h7))) (
        bindO (ixAT 2 1 (⟨b, 0, (some 0)⟩ : Addr) 0) fun (a3 : Addr) =>
        letH (addP 511 h2.size [(4, (row 3 [(.int .i64 x5), (.int .i64 x6)]))] h5) fun (h8 : H) =>
        bindO (ldI .i64 h8 a3) fun (x8 : Int) =>
        bindO (ixAT 2 1 (⟨b, 0, (some 0)⟩ : Addr) 1) fun (a4 : Addr) =>
        letH (addP 1279 h2.size [(4, (row 3 [(.int .i64 x5), (.int .i64 x6)]))] h5) fun (h9 : H) =>
        bindO (ldI .i64 h9 a4) fun (x9 : Int) =>
        condK (decide ((x8 > x9))) (
          letH (addP 1073741823 h2.size [(4, (row 3 [(.int .i64 x5), (.int .i64 x6)]))] h5) fun (h10 : H) =>
          letH (tickIf 30 h10) fun (h11 : H) =>
          some (Sum.inl ((l, (x0, (x1, (x2, true)))), h11))) (
          condK (decide ((x2 > 0))) (
            bindO (ixT 2 l (IntKind.wrap .i64 (x2 - 1))) fun (a5 : Addr) =>
            bindO (ixAT 2 1 a5 0) fun (a6 : Addr) =>
            letH (addP 8388607 h2.size [(4, (row 3 [(.int .i64 x5), (.int .i64 x6)]))] h5) fun (h12 : H) =>
            bindO (ldI .i64 h12 a6) fun (x10 : Int) =>
            bindO (ixAT 2 1 (⟨b, 0, (some 0)⟩ : Addr) 1) fun (a7 : Addr) =>
            letH (addP 17039359 h2.size [(4, (row 3 [(.int .i64 x5), (.int .i64 x6)]))] h5) fun (h13 : H) =>
            bindO (ldI .i64 h13 a7) fun (x11 : Int) =>
            letH (addP 1073741823 h2.size [(4, (row 3 [(.int .i64 x5), (.int .i64 x6)]))] h5) fun (h14 : H) =>
            letH (tickIf 30 h14) fun (h15 : H) =>
            some (Sum.inl ((l, (x0, (x1, (x2, (decide (((IntKind.wrap .i64 (x10 - x11)) < 2))))))), h15))) (
            letH (addP 1073741823 h2.size [(4, (row 3 [(.int .i64 x5), (.int .i64 x6)]))] h5) fun (h16 : H) =>
            letH (tickIf 30 h16) fun (h17 : H) =>
            some (Sum.inl ((l, (x0, (x1, (x2, false)))), h17)))))) fun (((l1, (x5, (x6, (x7, x8)))), h3) : ((Sl × (Sl × (Int × (Int × Bool)))) × H)) =>
    condK x8 (
      some (Sum.inr (Sum.inr (false, h3)))) (
      some (Sum.inl ((l1, (x5, (x6, (IntKind.wrap .i64 (x7 + 1))))), h3)))) (
    some (Sum.inr (Sum.inl (l, h0))))

noncomputable def P.frame_rightSpans (frame_may : Sl → H → Option ((Bool) × H)) (l : Sl) (h : H) : Option (Bool × H) :=
  joinO (
    loopO (P.frame_rightSpans_l1 frame_may) ((l, (l, (((l.len : Nat) : Int), 0))), h)) fun ((l1, h0) : (Sl × H)) =>
  condK (decide ((((l1.len : Nat) : Int) ≥ 1))) (
    some ((decide ((((l1.len : Nat) : Int) ≤ 8))), h0)) (
    some (false, h0))
noncomputable abbrev frame_rightSpans_l1 := P.frame_rightSpans_l1 frame_may
noncomputable def frame_rightSpans : Sl → H → Option ((Bool) × H) := P.frame_rightSpans frame_may
noncomputable def ann_92 : Ann := ⟨fun i => bif i.beq 7 then some ⟨[0], [⟨false, [.sl]⟩]⟩ else none, fun i => bif i.beq 2 then some ⟨[0, 5, 6, 7], [⟨false, [.sl]⟩, ⟨false, [.sl]⟩, ⟨false, [.int .i64]⟩, ⟨false, [.int .i64]⟩]⟩ else none, fun i => bif i.beq 4 then some ⟨[0, 5, 6, 7, 41], [⟨false, [.sl]⟩, ⟨false, [.sl]⟩, ⟨false, [.int .i64]⟩, ⟨false, [.int .i64]⟩, ⟨false, [.bool]⟩]⟩ else none⟩
noncomputable def E_92 : Ent := ⟨92, [⟨false, [.sl]⟩], [⟨false, [.bool]⟩], fun (x : Sl) h => frame_rightSpans x h⟩
theorem eq_92 (frame_may : Sl → H → Option ((Bool) × H)) : (fun (x : PT E_92.ps) (h : H) => runFK Go.Proofs.Ythiccnmplgdheaa.Tab.D (lstK [⟨91, [⟨false, [.sl]⟩], [⟨false, [.bool]⟩], fun (x : Sl) h => frame_may x h⟩]) ann_92 Try.f92 (Try.f92.body.getD .skip) E_92.ys (encP E_92.ps x) h) = (fun (x : Sl) h => P.frame_rightSpans frame_may x h) := by kernel_rfl
theorem ok_92 : E_92.ok Go.Proofs.Ythiccnmplgdheaa.Tab.D := fun x h y h' e => runFK_ok (lstK_ok [E_91] (List.forall_mem_cons.2 ⟨ok_91, fun E h => nomatch h⟩)) (A := ann_92) (by kernel_rfl) (show Go.Proofs.Ythiccnmplgdheaa.Tab.D.fn.get 92 = some Try.f92 by kernel_rfl) (show Try.f92.body = some (Try.f92.body.getD .skip) by kernel_rfl) ((congrFun (congrFun (eq_92 frame_may) x) h).trans e)
/-! frame_Right -/
noncomputable def P.frame_Right (frame_bare : (Int × Int × Int × Int × Int × Int × Bool × Sl × Sl) → H → Option (((Int × Int × Int × Int × Int × Int × Bool × Sl × Sl)) × H)) (frame_same : (Int × Int × Int × Int × Int × Int × Bool × Sl × Sl) → (Int × Int × Int × Int × Int × Int × Bool × Sl × Sl) → H → Option ((Bool) × H)) (frame_may : Sl → H → Option ((Bool) × H)) (frame_rightSpans : Sl → H → Option ((Bool) × H)) (f : Int × Int × Int × Int × Int × Int × Bool × Sl × Sl) (h : H) : Option (Bool × H) :=
  newO (row 33 [(.int .i64 f.1), (.int .i64 f.2.1), (.int .i64 f.2.2.1), (.int .i64 f.2.2.2.1), (.int .i64 f.2.2.2.2.1), (.int .i64 f.2.2.2.2.2.1), (.bool f.2.2.2.2.2.2.1), (.slice f.2.2.2.2.2.2.2.1.base f.2.2.2.2.2.2.2.1.len f.2.2.2.2.2.2.2.1.cap), (.slice f.2.2.2.2.2.2.2.2.base f.2.2.2.2.2.2.2.2.len f.2.2.2.2.2.2.2.2.cap)]) h fun (b : Nat) (h0 : H) =>
  joinO (
    letH (growIf h0 34) fun (h1 : H) =>
    bindO (ldI .i64 h1 (add (⟨b, 0, (some 0)⟩ : Addr) 0)) fun (x0 : Int) =>
    condK (decide ((x0 < 1))) (
      letH (tickIf 34 h1) fun (h2 : H) =>
      some (Sum.inl (((some (⟨b, 0, (some 0)⟩ : Addr)), true), h2))) (
      bindO (ldI .i64 h1 (add (⟨b, 0, (some 0)⟩ : Addr) 0)) fun (x1 : Int) =>
      condK (decide ((x1 > 12))) (
        letH (tickIf 34 h1) fun (h3 : H) =>
        some (Sum.inl (((some (⟨b, 0, (some 0)⟩ : Addr)), true), h3))) (
        bindO (ldZ [.int .i64, .int .i64, .int .i64, .int .i64, .int .i64, .int .i64, .bool, .sl, .sl] h1 (⟨b, 0, (some 0)⟩ : Addr)) fun ((x2, x3, x4, x5, x6, x7, x8, x9, x10) : Int × Int × Int × Int × Int × Int × Bool × Sl × Sl) =>
        bindO (ldZ [.int .i64, .int .i64, .int .i64, .int .i64, .int .i64, .int .i64, .bool, .sl, .sl] h1 (⟨b, 0, (some 0)⟩ : Addr)) fun ((x11, x12, x13, x14, x15, x16, x17, x18, x19) : Int × Int × Int × Int × Int × Int × Bool × Sl × Sl) =>
        bind2 (frame_bare (x11, x12, x13, x14, x15, x16, x17, x18, x19) h1) fun ((x20, x21, x22, x23, x24, x25, x26, x27, x28) : Int × Int × Int × Int × Int × Int × Bool × Sl × Sl) (h4 : H) =>
        bind2 (frame_same (x2, x3, x4, x5, x6, x7, x8, x9, x10) (x20, x21, x22, x23, x24, x25, x26, x27, x28) h4) fun (x29 : Bool) (h5 : H) =>
        condK (!x29) (
          bindO (ldZ [.int .i64, .int .i64, .int .i64, .int .i64, .int .i64, .int .i64, .bool, .sl, .sl] h4 (⟨b, 0, (some 0)⟩ : Addr)) fun ((x30, x31, x32, x33, x34, x35, x36, x37, x38) : Int × Int × Int × Int × Int × Int × Bool × Sl × Sl) =>
          condK (veq (.agg #[(.int .i64 x2), (.int .i64 x3), (.int .i64 x4), (.int .i64 x5), (.int .i64 x6), (.int .i64 x7), (.bool x8), (.slice x9.base x9.len x9.cap), (.slice x10.base x10.len x10.cap)]) (.agg #[(.int .i64 x30), (.int .i64 x31), (.int .i64 x32), (.int .i64 x33), (.int .i64 x34), (.int .i64 x35), (.bool x36), (.slice x37.base x37.len x37.cap), (.slice x38.base x38.len x38.cap)])) (
            letH (tickIf 34 h5) fun (h6 : H) =>
            some (Sum.inl (((some (⟨b, 0, (some 0)⟩ : Addr)), true), h6))) none) (
          bindO (ldI .i64 h5 (add (⟨b, 0, (some 0)⟩ : Addr) 1)) fun (x39 : Int) =>
          bindO (ldI .i64 h5 (add (⟨b, 0, (some 0)⟩ : Addr) 2)) fun (x40 : Int) =>
          bindO (ldI .i64 h5 (add (⟨b, 0, (some 0)⟩ : Addr) 3)) fun (x41 : Int) =>
          bindO (ldI .i64 h5 (add (⟨b, 0, (some 0)⟩ : Addr) 4)) fun (x42 : Int) =>
          letH (addP 33554431 h0.size [(24, (row 3 [(.int .i64 x39), (.int .i64 x40), (.int .i64 x41), (.int .i64 x42)]))] h5) fun (h7 : H) =>
          bind2 (frame_may (⟨(some (⟨(h0.size + 24), 0, (some 0)⟩ : Addr)), 4, 4⟩ : Sl) h7) fun (x43 : Bool) (h8 : H) =>
          condK (!x43) (
            letH (addP 511 h0.size [(24, (row 3 [(.int .i64 x39), (.int .i64 x40), (.int .i64 x41), (.int .i64 x42)]))] h4) fun (h9 : H) =>
            bindO (ldZ [.int .i64, .int .i64, .int .i64, .int .i64, .int .i64, .int .i64, .bool, .sl, .sl] h9 (⟨b, 0, (some 0)⟩ : Addr)) fun ((x44, x45, x46, x47, x48, x49, x50, x51, x52) : Int × Int × Int × Int × Int × Int × Bool × Sl × Sl) =>
            condK (veq (.agg #[(.int .i64 x2), (.int .i64 x3), (.int .i64 x4), (.int .i64 x5), (.int .i64 x6), (.int .i64 x7), (.bool x8), (.slice x9.base x9.len x9.cap), (.slice x10.base x10.len x10.cap)]) (.agg #[(.int .i64 x44), (.int .i64 x45), (.int .i64 x46), (.int .i64 x47), (.int .i64 x48), (.int .i64 x49), (.bool x50), (.slice x51.base x51.len x51.cap), (.slice x52.base x52.len x52.cap)])) (
              letH (addP 17179869183 h0.size [(24, (row 3 [(.int .i64 x39), (.int .i64 x40), (.int .i64 x41), (.int .i64 x42)]))] h8) fun (h10 : H) =>
              letH (tickIf 34 h10) fun (h11 : H) =>
              some (Sum.inl (((some (⟨b, 0, (some 0)⟩ : Addr)), true), h11))) none) (
            letH (addP 1073741823 h0.size [(24, (row 3 [(.int .i64 x39), (.int .i64 x40), (.int .i64 x41), (.int .i64 x42)]))] h8) fun (h12 : H) =>
            bindO (ldL h12 (add (⟨b, 0, (some 0)⟩ : Addr) 7)) fun (x53 : Sl) =>
            letH (addP 2147483647 h0.size [(24, (row 3 [(.int .i64 x39), (.int .i64 x40), (.int .i64 x41), (.int .i64 x42)]))] h8) fun (h13 : H) =>
            letH (addP 511 h0.size [(24, (row 3 [(.int .i64 x39), (.int .i64 x40), (.int .i64 x41), (.int .i64 x42)]))] h4) fun (h14 : H) =>
            bindO (ldZ [.int .i64, .int .i64, .int .i64, .int .i64, .int .i64, .int .i64, .bool, .sl, .sl] h14 (⟨b, 0, (some 0)⟩ : Addr)) fun ((x54, x55, x56, x57, x58, x59, x60, x61, x62) : Int × Int × Int × Int × Int × Int × Bool × Sl × Sl) =>
            condK (veq (.agg #[(.int .i64 x2), (.int .i64 x3), (.int .i64 x4), (.int .i64 x5), (.int .i64 x6), (.int .i64 x7), (.bool x8), (.slice x9.base x9.len x9.cap), (.slice x10.base x10.len x10.cap)]) (.agg #[(.int .i64 x54), (.int .i64 x55), (.int .i64 x56), (.int .i64 x57), (.int .i64 x58), (.int .i64 x59), (.bool x60), (.slice x61.base x61.len x61.cap), (.slice x62.base x62.len x62.cap)])) (
              letH (addP 17179869183 h0.size [(24, (row 3 [(.int .i64 x39), (.int .i64 x40), (.int .i64 x41), (.int .i64 x42)]))] h8) fun (h15 : H) =>
              letH (tickIf 34 h15) fun (h16 : H) =>
              some (Sum.inl (((some (⟨b, 0, (some 0)⟩ : Addr)), (decide ((((x53.len : Nat) : Int) > 120)))), h16))) none))))) fun (((f1, x0), h1) : (((Option Addr) × Bool) × H)) =>
  condK x0 (
    some (false, h1)) (
    ptrK f1 fun (a0 : Addr) =>
    bindO (ldI .i64 h1 (add a0 0)) fun (x1 : Int) =>
    condK (x1 == 2) (
      ptrK f1 fun (a1 : Addr) =>
      bindO (ldL h1 (add a1 8)) fun (x2 : Sl) =>
      bind2 (frame_rightSpans x2 h1) fun (x3 : Bool) (h2 : H) =>
      some (x3, h2)) (
      condK (x1 == 3) (
        ptrK f1 fun (a2 : Addr) =>
        bindO (ldI .i64 h1 (add a2 2)) fun (x4 : Int) =>
        ptrK f1 fun (a3 : Addr) =>
        bindO (ldL h1 (add a3 7)) fun (x5 : Sl) =>
        letO ((decide ((x4 ≤ (IntKind.wrap .i64 (4611686018427387903 - ((x5.len : Nat) : Int))))))) fun (x6 : Bool) =>
        some (x6, h1)) (
        condK (x1 == 4) (
          ptrK f1 fun (a4 : Addr) =>
          bindO (ldI .i64 h1 (add a4 4)) fun (x7 : Int) =>
          ptrK f1 fun (a5 : Addr) =>
          bindO (ldI .i64 h1 (add a5 2)) fun (x8 : Int) =>
          some ((decide ((x7 ≤ x8))), h1)) (
          condK (x1 == 9) (
            ptrK f1 fun (a6 : Addr) =>
            bindO (ldL h1 (add a6 7)) fun (x9 : Sl) =>
            some ((decide ((((x9.len : Nat) : Int) > 0))), h1)) (
            some (true, h1))))))
noncomputable def frame_Right : (Int × Int × Int × Int × Int × Int × Bool × Sl × Sl) → H → Option ((Bool) × H) := P.frame_Right frame_bare frame_same frame_may frame_rightSpans
noncomputable def ann_27 : Ann := ⟨fun _ => none, fun _ => none, fun i => bif i.beq 1 then some ⟨[1, 36], [⟨false, [.ptr]⟩, ⟨false, [.bool]⟩]⟩ else none⟩
noncomputable def E_27 : Ent := ⟨27, [⟨true, [.int .i64, .int .i64, .int .i64, .int .i64, .int .i64, .int .i64, .bool, .sl, .sl]⟩], [⟨false, [.bool]⟩], fun (x : (Int × Int × Int × Int × Int × Int × Bool × Sl × Sl)) h => frame_Right x h⟩
theorem eq_27 (frame_bare : (Int × Int × Int × Int × Int × Int × Bool × Sl × Sl) → H → Option (((Int × Int × Int × Int × Int × Int × Bool × Sl × Sl)) × H)) (frame_same : (Int × Int × Int × Int × Int × Int × Bool × Sl × Sl) → (Int × Int × Int × Int × Int × Int × Bool × Sl × Sl) → H → Option ((Bool) × H)) (frame_may : Sl → H → Option ((Bool) × H)) (frame_rightSpans : Sl → H → Option ((Bool) × H)) : (fun (x : PT E_27.ps) (h : H) => runFK Go.Proofs.Ythiccnmplgdheaa.Tab.D (lstK [⟨90, [⟨true, [.int .i64, .int .i64, .int .i64, .int .i64, .int .i64, .int .i64, .bool, .sl, .sl]⟩], [⟨true, [.int .i64, .int .i64, .int .i64, .int .i64, .int .i64, .int .i64, .bool, .sl, .sl]⟩], fun (x : (Int × Int × Int × Int × Int × Int × Bool × Sl × Sl)) h => frame_bare x h⟩, ⟨89, [⟨true, [.int .i64, .int .i64, .int .i64, .int .i64, .int .i64, .int .i64, .bool, .sl, .sl]⟩, ⟨true, [.int .i64, .int .i64, .int .i64, .int .i64, .int .i64, .int .i64, .bool, .sl, .sl]⟩], [⟨false, [.bool]⟩], fun (x : ((Int × Int × Int × Int × Int × Int × Bool × Sl × Sl)) × ((Int × Int × Int × Int × Int × Int × Bool × Sl × Sl))) h => frame_same x.1 x.2 h⟩, ⟨91, [⟨false, [.sl]⟩], [⟨false, [.bool]⟩], fun (x : Sl) h => frame_may x h⟩, ⟨92, [⟨false, [.sl]⟩], [⟨false, [.bool]⟩], fun (x : Sl) h => frame_rightSpans x h⟩]) ann_27 Try.f27 (Try.f27.body.getD .skip) E_27.ys (encP E_27.ps x) h) = (fun (x : (Int × Int × Int × Int × Int × Int × Bool × Sl × Sl)) h => P.frame_Right frame_bare frame_same frame_may frame_rightSpans x h) := by kernel_rfl
theorem ok_27 : E_27.ok Go.Proofs.Ythiccnmplgdheaa.Tab.D := fun x h y h' e => runFK_ok (lstK_ok [E_90, E_89, E_91, E_92] (List.forall_mem_cons.2 ⟨ok_90, List.forall_mem_cons.2 ⟨ok_89, List.forall_mem_cons.2 ⟨ok_91, List.forall_mem_cons.2 ⟨ok_92, fun E h => nomatch h⟩⟩⟩⟩)) (A := ann_27) (by kernel_rfl) (show Go.Proofs.Ythiccnmplgdheaa.Tab.D.fn.get 27 = some Try.f27 by kernel_rfl) (show Try.f27.body = some (Try.f27.body.getD .skip) by kernel_rfl) ((congrFun (congrFun (eq_27 frame_bare frame_same frame_may frame_rightSpans) x) h).trans e)
/-! slices_Clone_byte -/
noncomputable def slices_Clone_byte (s : Sl) (h : H) : Option (Sl × H) :=
  bindO (eqLT s (⟨none, 0, 0⟩ : Sl)) fun (x0 : Bool) =>
  condK x0 (
    some ((⟨none, 0, 0⟩ : Sl), h)) (
    newO (row 5 []) h fun (b : Nat) (h0 : H) =>
    bind2 (appT 5 1 1 h0 (⟨(some (⟨b, 0, (some 0)⟩ : Addr)), 0, 0⟩ : Sl) s) fun (x1 : Sl) (h1 : H) =>
    some (x1, h1))
noncomputable def ann_98 : Ann := ⟨fun _ => none, fun _ => none, fun _ => none⟩
noncomputable def E_98 : Ent := ⟨98, [⟨false, [.sl]⟩], [⟨false, [.sl]⟩], fun (x : Sl) h => slices_Clone_byte x h⟩
theorem eq_98  : (fun (x : PT E_98.ps) (h : H) => runFK Go.Proofs.Ythiccnmplgdheaa.Tab.D (lstK []) ann_98 Try.f98 (Try.f98.body.getD .skip) E_98.ys (encP E_98.ps x) h) = (fun (x : Sl) h => slices_Clone_byte x h) := by kernel_rfl
theorem ok_98 : E_98.ok Go.Proofs.Ythiccnmplgdheaa.Tab.D := fun x h y h' e => runFK_ok (lstK_ok [] (fun E h => nomatch h)) (A := ann_98) (by kernel_rfl) (show Go.Proofs.Ythiccnmplgdheaa.Tab.D.fn.get 98 = some Try.f98 by kernel_rfl) (show Try.f98.body = some (Try.f98.body.getD .skip) by kernel_rfl) ((congrFun (congrFun (eq_98 ) x) h).trans e)
/-! slices_Clip_byte -/
noncomputable def slices_Clip_byte (s : Sl) (h : H) : Option (Sl × H) :=
  bindO (slT 1 h s none (some ((s.len : Nat) : Int)) (some ((s.len : Nat) : Int))) fun (x0 : Sl) =>
  some (x0, h)
noncomputable def ann_97 : Ann := ⟨fun _ => none, fun _ => none, fun _ => none⟩
noncomputable def E_97 : Ent := ⟨97, [⟨false, [.sl]⟩], [⟨false, [.sl]⟩], fun (x : Sl) h => slices_Clip_byte x h⟩
theorem eq_97  : (fun (x : PT E_97.ps) (h : H) => runFK Go.Proofs.Ythiccnmplgdheaa.Tab.D (lstK []) ann_97 Try.f97 (Try.f97.body.getD .skip) E_97.ys (encP E_97.ps x) h) = (fun (x : Sl) h => slices_Clip_byte x h) := by kernel_rfl
theorem ok_97 : E_97.ok Go.Proofs.Ythiccnmplgdheaa.Tab.D := fun x h y h' e => runFK_ok (lstK_ok [] (fun E h => nomatch h)) (A := ann_97) (by kernel_rfl) (show Go.Proofs.Ythiccnmplgdheaa.Tab.D.fn.get 97 = some Try.f97 by kernel_rfl) (show Try.f97.body = some (Try.f97.body.getD .skip) by kernel_rfl) ((congrFun (congrFun (eq_97 ) x) h).trans e)
/-! math_bits_Len32 -/
noncomputable def math_bits_Len32 (x0 : Int) (h : H) : Option (Int × H) :=
  joinO (
    condK (decide ((x0 ≥ 65536))) (
      some (Sum.inl (((Int.fdiv x0 65536), 16), h))) (
      some (Sum.inl ((x0, 0), h)))) fun (((x1, n), h0) : ((Int × Int) × H)) =>
  joinO (
    condK (decide ((x1 ≥ 256))) (
      some (Sum.inl (((Int.fdiv x1 256), (IntKind.wrap .i64 (n + 8))), h0))) (
      some (Sum.inl ((x1, n), h0)))) fun (((x2, n1), h1) : ((Int × Int) × H)) =>
  bindO (ixST (⟨#[0, 1, 2, 2, 3, 3, 3, 3, 4, 4, 4, 4, 4, 4, 4, 4, 5, 5, 5, 5, 5, 5, 5, 5, 5, 5, 5, 5, 5, 5, 5, 5, 6, 6, 6, 6, 6, 6, 6, 6, 6, 6, 6, 6, 6, 6, 6, 6, 6, 6, 6, 6, 6, 6, 6, 6, 6, 6, 6, 6, 6, 6, 6, 6, 7, 7, 7, 7, 7, 7, 7, 7, 7, 7, 7, 7, 7, 7, 7, 7, 7, 7, 7, 7, 7, 7, 7, 7, 7, 7, 7, 7, 7, 7, 7, 7, 7, 7, 7, 7, 7, 7, 7, 7, 7, 7, 7, 7, 7, 7, 7, 7, 7, 7, 7, 7, 7, 7, 7, 7, 7, 7, 7, 7, 7, 7, 7, 7, 8, 8, 8, 8, 8, 8, 8, 8, 8, 8, 8, 8, 8, 8, 8, 8, 8, 8, 8, 8, 8, 8, 8, 8, 8, 8, 8, 8, 8, 8, 8, 8, 8, 8, 8, 8, 8, 8, 8, 8, 8, 8, 8, 8, 8, 8, 8, 8, 8, 8, 8, 8, 8, 8, 8, 8, 8, 8, 8, 8, 8, 8, 8, 8, 8, 8, 8, 8, 8, 8, 8, 8, 8, 8, 8, 8, 8, 8, 8, 8, 8, 8, 8, 8, 8, 8, 8, 8, 8, 8, 8, 8, 8, 8, 8, 8, 8, 8, 8, 8, 8, 8, 8, 8, 8, 8, 8, 8, 8, 8, 8, 8, 8, 8, 8, 8, 8, 8, 8, 8, 8, 8, 8, 8, 8, 8, 8, 8]⟩ : ByteArray) (IntKind.wrap .u8 x2)) fun (x3 : Int) =>
  some ((IntKind.wrap .i64 (n1 + (IntKind.wrap .i64 x3))), h1)
noncomputable def ann_187 : Ann := ⟨fun i => bif i.beq 4 then some ⟨[0, 2], [⟨false, [.int .u32]⟩, ⟨false, [.int .i64]⟩]⟩ else bif i.beq 7 then some ⟨[0, 2], [⟨false, [.int .u32]⟩, ⟨false, [.int .i64]⟩]⟩ else none, fun _ => none, fun _ => none⟩
noncomputable def E_187 : Ent := ⟨187, [⟨false, [.int .u32]⟩], [⟨false, [.int .i64]⟩], fun (x : Int) h => math_bits_Len32 x h⟩
theorem eq_187  : (fun (x : PT E_187.ps) (h : H) => runFK Go.Proofs.Ythiccnmplgdheaa.Tab.D (lstK []) ann_187 Try.f187 (Try.f187.body.getD .skip) E_187.ys (encP E_187.ps x) h) = (fun (x : Int) h => math_bits_Len32 x h) := by kernel_rfl
theorem ok_187 : E_187.ok Go.Proofs.Ythiccnmplgdheaa.Tab.D := fun x h y h' e => runFK_ok (lstK_ok [] (fun E h => nomatch h)) (A := ann_187) (by kernel_rfl) (show Go.Proofs.Ythiccnmplgdheaa.Tab.D.fn.get 187 = some Try.f187 by kernel_rfl) (show Try.f187.body = some (Try.f187.body.getD .skip) by kernel_rfl) ((congrFun (congrFun (eq_187 ) x) h).trans e)
/-! math_bits_Len64 -/
noncomputable def math_bits_Len64 (x0 : Int) (h : H) : Option (Int × H) :=
  joinO (
    condK (decide ((x0 ≥ 4294967296))) (
      some (Sum.inl (((Int.fdiv x0 4294967296), 32), h))) (
      some (Sum.inl ((x0, 0), h)))) fun (((x1, n), h0) : ((Int × Int) × H)) =>
  joinO (
    condK (decide ((x1 ≥ 65536))) (
      some (Sum.inl (((Int.fdiv x1 65536), (IntKind.wrap .i64 (n + 16))), h0))) (
      some (Sum.inl ((x1, n), h0)))) fun (((x2, n1), h1) : ((Int × Int) × H)) =>
  joinO (
    condK (decide ((x2 ≥ 256))) (
      some (Sum.inl (((Int.fdiv x2 256), (IntKind.wrap .i64 (n1 + 8))), h1))) (
      some (Sum.inl ((x2, n1), h1)))) fun (((x3, n2), h2) : ((Int × Int) × H)) =>
  bindO (ixST (⟨#[0, 1, 2, 2, 3, 3, 3, 3, 4, 4, 4, 4, 4, 4, 4, 4, 5, 5, 5, 5, 5, 5, 5, 5, 5, 5, 5, 5, 5, 5, 5, 5, 6, 6, 6, 6, 6, 6, 6, 6, 6, 6, 6, 6, 6, 6, 6, 6, 6, 6, 6, 6, 6, 6, 6, 6, 6, 6, 6, 6, 6, 6, 6, 6, 7, 7, 7, 7, 7, 7, 7, 7, 7, 7, 7, 7, 7, 7, 7, 7, 7, 7, 7, 7, 7, 7, 7, 7, 7, 7, 7, 7, 7, 7, 7, 7, 7, 7, 7, 7, 7, 7, 7, 7, 7, 7, 7, 7, 7, 7, 7, 7, 7, 7, 7, 7, 7, 7, 7, 7, 7, 7, 7, 7, 7, 7, 7, 7, 8, 8, 8, 8, 8, 8, 8, 8, 8, 8, 8, 8, 8, 8, 8, 8, 8, 8, 8, 8, 8, 8, 8, 8, 8, 8, 8, 8, 8, 8, 8, 8, 8, 8, 8, 8, 8, 8, 8, 8, 8, 8, 8, 8, 8, 8, 8, 8, 8, 8, 8, 8, 8, 8, 8, 8, 8, 8, 8, 8, 8, 8, 8, 8, 8, 8, 8, 8, 8, 8, 8, 8, 8, 8, 8, 8, 8, 8, 8, 8, 8, 8, 8, 8, 8, 8, 8, 8, 8, 8, 8, 8, 8, 8, 8, 8, 8, 8, 8, 8, 8, 8, 8, 8, 8, 8, 8, 8, 8, 8, 8, 8, 8, 8, 8, 8, 8, 8, 8, 8, 8, 8, 8, 8, 8, 8, 8, 8]⟩ : ByteArray) (IntKind.wrap .u8 x3)) fun (x4 : Int) =>
  some ((IntKind.wrap .i64 (n2 + (IntKind.wrap .i64 x4))), h2)
noncomputable def ann_188 : Ann := ⟨fun i => bif i.beq 4 then some ⟨[0, 2], [⟨false, [.int .u64]⟩, ⟨false, [.int .i64]⟩]⟩ else bif i.beq 7 then some ⟨[0, 2], [⟨false, [.int .u64]⟩, ⟨false, [.int .i64]⟩]⟩ else bif i.beq 10 then some ⟨[0, 2], [⟨false, [.int .u64]⟩, ⟨false, [.int .i64]⟩]⟩ else none, fun _ => none, fun _ => none⟩
noncomputable def E_188 : Ent := ⟨188, [⟨false, [.int .u64]⟩], [⟨false, [.int .i64]⟩], fun (x : Int) h => math_bits_Len64 x h⟩
theorem eq_188  : (fun (x : PT E_188.ps) (h : H) => runFK Go.Proofs.Ythiccnmplgdheaa.Tab.D (lstK []) ann_188 Try.f188 (Try.f188.body.getD .skip) E_188.ys (encP E_188.ps x) h) = (fun (x : Int) h => math_bits_Len64 x h) := by kernel_rfl
theorem ok_188 : E_188.ok Go.Proofs.Ythiccnmplgdheaa.Tab.D := fun x h y h' e => runFK_ok (lstK_ok [] (fun E h => nomatch h)) (A := ann_188) (by kernel_rfl) (show Go.Proofs.Ythiccnmplgdheaa.Tab.D.fn.get 188 = some Try.f188 by kernel_rfl) (show Try.f188.body = some (Try.f188.body.getD .skip) by kernel_rfl) ((congrFun (congrFun (eq_188 ) x) h).trans e)
/-! math_bits_Len -/
noncomputable def P.math_bits_Len (math_bits_Len32 : Int → H → Option ((Int) × H)) (math_bits_Len64 : Int → H → Option ((Int) × H)) (x0 : Int) (h : H) : Option (Int × H) :=
  bind2 (math_bits_Len64 x0 h) fun (x1 : Int) (h0 : H) =>
  some (x1, h0)
noncomputable def math_bits_Len : Int → H → Option ((Int) × H) := P.math_bits_Len math_bits_Len32 math_bits_Len64
noncomputable def ann_180 : Ann := ⟨fun _ => none, fun _ => none, fun _ => none⟩
noncomputable def E_180 : Ent := ⟨180, [⟨false, [.int .u64]⟩], [⟨false, [.int .i64]⟩], fun (x : Int) h => math_bits_Len x h⟩
theorem eq_180 (math_bits_Len32 : Int → H → Option ((Int) × H)) (math_bits_Len64 : Int → H → Option ((Int) × H)) : (fun (x : PT E_180.ps) (h : H) => runFK Go.Proofs.Ythiccnmplgdheaa.Tab.D (lstK [⟨187, [⟨false, [.int .u32]⟩], [⟨false, [.int .i64]⟩], fun (x : Int) h => math_bits_Len32 x h⟩, ⟨188, [⟨false, [.int .u64]⟩], [⟨false, [.int .i64]⟩], fun (x : Int) h => math_bits_Len64 x h⟩]) ann_180 Try.f180 (Try.f180.body.getD .skip) E_180.ys (encP E_180.ps x) h) = (fun (x : Int) h => P.math_bits_Len math_bits_Len32 math_bits_Len64 x h) := by kernel_rfl
theorem ok_180 : E_180.ok Go.Proofs.Ythiccnmplgdheaa.Tab.D := fun x h y h' e => runFK_ok (lstK_ok [E_187, E_188] (List.forall_mem_cons.2 ⟨ok_187, List.forall_mem_cons.2 ⟨ok_188, fun E h => nomatch h⟩⟩)) (A := ann_180) (by kernel_rfl) (show Go.Proofs.Ythiccnmplgdheaa.Tab.D.fn.get 180 = some Try.f180 by kernel_rfl) (show Try.f180.body = some (Try.f180.body.getD .skip) by kernel_rfl) ((congrFun (congrFun (eq_180 math_bits_Len32 math_bits_Len64) x) h).trans e)
/-! varint_kind -/
noncomputable def P.varint_kind_l1 (math_bits_Len : Int → H → Option ((Int) × H)) : ((Int × Int) × H) → Option (((Int × Int) × H) ⊕ (Int × H)) := fun ((n, x0), h0) =>
  condK (decide ((x0 < 3))) (
    bind2 (math_bits_Len (IntKind.wrap .u64 n) h0) fun (x1 : Int) (h1 : H) =>
    bindO (shlT .i64 8 .i64 x0) fun (x2 : Int) =>
    condK (decide ((x1 ≤ (IntKind.wrap .i64 (x2 - 2))))) (
      some (Sum.inr (x0, h1))) (
      some (Sum.inl ((n, (IntKind.wrap .i64 (x0 + 1))), h1)))) (
    some (Sum.inr (3, h0)))

noncomputable def P.varint_kind (math_bits_Len : Int → H → Option ((Int) × H)) (n : Int) (h : H) : Option (Int × H) :=
  joinO (
    condK (decide ((n < 0))) (
      some (Sum.inl ((n, true), h))) (
      some (Sum.inl ((n, (decide ((n > 4611686018427387903)))), h)))) fun (((n1, x0), h0) : ((Int × Bool) × H)) =>
  condK x0 (
    some ((-1), h0)) (
    loopO (P.varint_kind_l1 math_bits_Len) ((n1, 0), h0))
noncomputable abbrev varint_kind_l1 := P.varint_kind_l1 math_bits_Len
noncomputable def varint_kind : Int → H → Option ((Int) × H) := P.varint_kind math_bits_Len
noncomputable def ann_150 : Ann := ⟨fun _ => none, fun i => bif i.beq 4 then some ⟨[0, 10], [⟨false, [.int .i64]⟩, ⟨false, [.int .i64]⟩]⟩ else none, fun i => bif i.beq 1 then some ⟨[0, 9], [⟨false, [.int .i64]⟩, ⟨false, [.bool]⟩]⟩ else none⟩
noncomputable def E_150 : Ent := ⟨150, [⟨false, [.int .i64]⟩], [⟨false, [.int .i64]⟩], fun (x : Int) h => varint_kind x h⟩
theorem eq_150 (math_bits_Len : Int → H → Option ((Int) × H)) : (fun (x : PT E_150.ps) (h : H) => runFK Go.Proofs.Ythiccnmplgdheaa.Tab.D (lstK [⟨180, [⟨false, [.int .u64]⟩], [⟨false, [.int .i64]⟩], fun (x : Int) h => math_bits_Len x h⟩]) ann_150 Try.f150 (Try.f150.body.getD .skip) E_150.ys (encP E_150.ps x) h) = (fun (x : Int) h => P.varint_kind math_bits_Len x h) := by kernel_rfl
theorem ok_150 : E_150.ok Go.Proofs.Ythiccnmplgdheaa.Tab.D := fun x h y h' e => runFK_ok (lstK_ok [E_180] (List.forall_mem_cons.2 ⟨ok_180, fun E h => nomatch h⟩)) (A := ann_150) (by kernel_rfl) (show Go.Proofs.Ythiccnmplgdheaa.Tab.D.fn.get 150 = some Try.f150 by kernel_rfl) (show Try.f150.body = some (Try.f150.body.getD .skip) by kernel_rfl) ((congrFun (congrFun (eq_150 math_bits_Len) x) h).trans e)
/-! varint_Put -/
noncomputable def P.varint_Put_l2 (slices_Clone_byte : Sl → H → Option ((Sl) × H)) (varint_kind : Int → H → Option ((Int) × H)) (slices_Clip_byte : Sl → H → Option ((Sl) × H)) : ((Sl × (Int × (Int × (Int × (Int × (Sl × (Int × Int))))))) × H) → Option (((Sl × (Int × (Int × (Int × (Int × (Sl × (Int × Int))))))) × H) ⊕ (((Sl × (Int × (Int × (Sl × (Int × Int))))) × H) ⊕ (((Sl × (Sl × (Int × Int))) × H) ⊕ (((Sl × (Sl × (Int × Int))) × H) ⊕ ((Sl × H) ⊕ (Sl × H)))))) := fun ((out, (x0, (k, (first, (at', (x1, (x2, x3))))))), h0) =>
  condK (decide ((at' ≥ 0))) (
    bindO (shrT .i64 x0 .i64 at') fun (x4 : Int) =>
    newO (row 5 [(.int .u8 (IntKind.wrap .u8 x4))]) h0 fun (b : Nat) (h1 : H) =>
    bind2 (appT 5 1 1 h1 out (⟨(some (⟨b, 0, (some 0)⟩ : Addr)), 1, 1⟩ : Sl)) fun (x5 : Sl) (h2 : H) =>
    some (Sum.inl ((x5, (x0, (k, (first, ((IntKind.wrap .i64 (at' - 8)), (x1, (x2, x3))))))), h2))) (
    some (Sum.inr (Sum.inl ((out, (k, (first, (x1, (x2, x3))))), h0))))

noncomputable def P.varint_Put_l1 (slices_Clone_byte : Sl → H → Option ((Sl) × H)) (varint_kind : Int → H → Option ((Int) × H)) (slices_Clip_byte : Sl → H → Option ((Sl) × H)) : ((Sl × (Sl × (Int × Int))) × H) → Option (((Sl × (Sl × (Int × Int))) × H) ⊕ ((Sl × H) ⊕ (Sl × H))) := fun ((out, (x0, (x1, x2))), h0) =>
  condK (decide ((x2 < x1))) (
    joinO (
      bindO (ixT 1 x0 x2) fun (a0 : Addr) =>
      bindO (ldI .i64 h0 a0) fun (x3 : Int) =>
      bind2 (varint_kind x3 h0) fun (x4 : Int) (h1 : H) =>
      condK (decide ((x4 < 0))) (
        some (Sum.inr (Sum.inr (Sum.inr ((⟨none, 0, 0⟩ : Sl), h1))))) (
        joinO (
          bindO (shlT .i64 8 .i64 x4) fun (x5 : Int) =>
          loopO (P.varint_Put_l2 slices_Clone_byte varint_kind slices_Clip_byte) ((out, (x3, (x4, (((out.len : Nat) : Int), ((IntKind.wrap .i64 (x5 - 8)), (x0, (x1, x2))))))), h1)) fun (((out1, (k, (first, (x5, (x6, x7))))), h2) : ((Sl × (Int × (Int × (Sl × (Int × Int))))) × H)) =>
        bindO (ixT 1 out1 first) fun (a1 : Addr) =>
        bindO (ldI .u8 h2 a1) fun (x8 : Int) =>
        letO ((IntKind.wrap .u8 (((BitVec.toNat ((BitVec.ofInt 8 x8) ||| (BitVec.ofInt 8 (IntKind.wrap .u8 (IntKind.wrap .i64 (k * 64)))))) : Nat) : Int))) fun (x9 : Int) =>
        bindO (ixT 1 out1 first) fun (a2 : Addr) =>
        bindO (st1 h2 a2 (.int .u8 x9)) fun (h3 : H) =>
        some (Sum.inl ((out1, (x5, (x6, x7))), h3)))) fun (((out1, (x3, (x4, x5))), h1) : ((Sl × (Sl × (Int × Int))) × H)) =>
    some (Sum.inl ((out1, (x3, (x4, (IntKind.wrap .i64 (x5 + 1))))), h1))) (
    some (Sum.inr (Sum.inl (out, h0))))

noncomputable def P.varint_Put (slices_Clone_byte : Sl → H → Option ((Sl) × H)) (varint_kind : Int → H → Option ((Int) × H)) (slices_Clip_byte : Sl → H → Option ((Sl) × H)) (b : Sl) (n : Sl) (h : H) : Option (Sl × H) :=
  bind2 (slices_Clone_byte b h) fun (x0 : Sl) (h0 : H) =>
  joinO (
    loopO (P.varint_Put_l1 slices_Clone_byte varint_kind slices_Clip_byte) ((x0, (n, (((n.len : Nat) : Int), 0))), h0)) fun ((out, h1) : (Sl × H)) =>
  bind2 (slices_Clip_byte out h1) fun (x1 : Sl) (h2 : H) =>
  some (x1, h2)
noncomputable abbrev varint_Put_l2 := P.varint_Put_l2 slices_Clone_byte varint_kind slices_Clip_byte
noncomputable abbrev varint_Put_l1 := P.varint_Put_l1 slices_Clone_byte varint_kind slices_Clip_byte
noncomputable def varint_Put : Sl → Sl → H → Option ((Sl) × H) := P.varint_Put slices_Clone_byte varint_kind slices_Clip_byte
noncomputable def ann_100 : Ann := ⟨fun i => bif i.beq 13 then some ⟨[5, 8, 9, 13, 14, 15], [⟨false, [.sl]⟩, ⟨false, [.int .i64]⟩, ⟨false, [.int .i64]⟩, ⟨false, [.sl]⟩, ⟨false, [.int .i64]⟩, ⟨false, [.int .i64]⟩]⟩ else bif i.beq 14 then some ⟨[5, 13, 14, 15], [⟨false, [.sl]⟩, ⟨false, [.sl]⟩, ⟨false, [.int .i64]⟩, ⟨false, [.int .i64]⟩]⟩ else bif i.beq 15 then some ⟨[5], [⟨false, [.sl]⟩]⟩ else none, fun i => bif i.beq 3 then some ⟨[5, 13, 14, 15], [⟨false, [.sl]⟩, ⟨false, [.sl]⟩, ⟨false, [.int .i64]⟩, ⟨false, [.int .i64]⟩]⟩ else bif i.beq 10 then some ⟨[5, 7, 8, 9, 10, 13, 14, 15], [⟨false, [.sl]⟩, ⟨false, [.int .i64]⟩, ⟨false, [.int .i64]⟩, ⟨false, [.int .i64]⟩, ⟨false, [.int .i64]⟩, ⟨false, [.sl]⟩, ⟨false, [.int .i64]⟩, ⟨false, [.int .i64]⟩]⟩ else none, fun _ => none⟩
noncomputable def E_100 : Ent := ⟨100, [⟨false, [.sl]⟩, ⟨false, [.sl]⟩], [⟨false, [.sl]⟩], fun (x : Sl × Sl) h => varint_Put x.1 x.2 h⟩
theorem eq_100 (slices_Clone_byte : Sl → H → Option ((Sl) × H)) (varint_kind : Int → H → Option ((Int) × H)) (slices_Clip_byte : Sl → H → Option ((Sl) × H)) : (fun (x : PT E_100.ps) (h : H) => runFK Go.Proofs.Ythiccnmplgdheaa.Tab.D (lstK [⟨98, [⟨false, [.sl]⟩], [⟨false, [.sl]⟩], fun (x : Sl) h => slices_Clone_byte x h⟩, ⟨150, [⟨false, [.int .i64]⟩], [⟨false, [.int .i64]⟩], fun (x : Int) h => varint_kind x h⟩, ⟨97, [⟨false, [.sl]⟩], [⟨false, [.sl]⟩], fun (x : Sl) h => slices_Clip_byte x h⟩]) ann_100 Try.f100 (Try.f100.body.getD .skip) E_100.ys (encP E_100.ps x) h) = (fun (x : Sl × Sl) h => P.varint_Put slices_Clone_byte varint_kind slices_Clip_byte x.1 x.2 h) := by kernel_rfl
theorem ok_100 : E_100.ok Go.Proofs.Ythiccnmplgdheaa.Tab.D := fun x h y h' e => runFK_ok (lstK_ok [E_98, E_150, E_97] (List.forall_mem_cons.2 ⟨ok_98, List.forall_mem_cons.2 ⟨ok_150, List.forall_mem_cons.2 ⟨ok_97, fun E h => nomatch h⟩⟩⟩)) (A := ann_100) (by kernel_rfl) (show Go.Proofs.Ythiccnmplgdheaa.Tab.D.fn.get 100 = some Try.f100 by kernel_rfl) (show Try.f100.body = some (Try.f100.body.getD .skip) by kernel_rfl) ((congrFun (congrFun (eq_100 slices_Clone_byte varint_kind slices_Clip_byte) x) h).trans e)
/-! varint_Take -/
noncomputable def P.varint_Take_l1 (slices_Clone_byte : Sl → H → Option ((Sl) × H)) : ((Sl × (Int × (Int × (Sl × (Int × Int))))) × H) → Option (((Sl × (Int × (Int × (Sl × (Int × Int))))) × H) ⊕ (((Sl × (Int × Int)) × H) ⊕ ((Int × (Sl × Int)) × H))) := fun ((b, (n, (size, (x0, (x1, x2))))), h0) =>
  condK (decide ((x2 < x1))) (
    bindO (ixT 1 x0 x2) fun (a0 : Addr) =>
    bindO (ldI .u8 h0 a0) fun (x3 : Int) =>
    letO ((IntKind.wrap .i64 (((BitVec.toNat ((BitVec.ofInt 64 (IntKind.wrap .i64 (n * 256))) ||| (BitVec.ofInt 64 (IntKind.wrap .i64 x3)))) : Nat) : Int))) fun (x4 : Int) =>
    some (Sum.inl ((b, (x4, (size, (x0, (x1, (IntKind.wrap .i64 (x2 + 1))))))), h0))) (
    some (Sum.inr (Sum.inl ((b, (n, size)), h0))))

noncomputable def P.varint_Take (slices_Clone_byte : Sl → H → Option ((Sl) × H)) (b : Sl) (h : H) : Option ((Int × Sl × Int) × H) :=
  joinO (
    condK (((b.len : Nat) : Int) == 0) (
      some (Sum.inl ((b, true), h))) (
      bindO (ixT 1 b 0) fun (a0 : Addr) =>
      bindO (ldI .u8 h a0) fun (x0 : Int) =>
      bindO (shlT .i64 1 .u8 (Int.fdiv x0 64)) fun (x1 : Int) =>
      some (Sum.inl ((b, (decide ((((b.len : Nat) : Int) < x1)))), h)))) fun (((b1, x0), h0) : ((Sl × Bool) × H)) =>
  condK x0 (
    some ((0, ((⟨none, 0, 0⟩ : Sl), 3)), h0)) (
    bindO (ixT 1 b1 0) fun (a0 : Addr) =>
    bindO (ldI .u8 h0 a0) fun (x1 : Int) =>
    bindO (shlT .i64 1 .u8 (Int.fdiv x1 64)) fun (x2 : Int) =>
    bindO (ixT 1 b1 0) fun (a1 : Addr) =>
    bindO (ldI .u8 h0 a1) fun (x3 : Int) =>
    letO ((IntKind.wrap .u8 (((BitVec.toNat ((BitVec.ofInt 8 x3) &&& (BitVec.ofInt 8 63))) : Nat) : Int))) fun (x4 : Int) =>
    joinO (
      bindO (slT 1 h0 b1 (some 1) (some x2) none) fun (x5 : Sl) =>
      loopO (P.varint_Take_l1 slices_Clone_byte) ((b1, ((IntKind.wrap .i64 x4), (x2, (x5, (((x5.len : Nat) : Int), 0))))), h0)) fun (((b2, (n, size)), h1) : ((Sl × (Int × Int)) × H)) =>
    bindO (slT 1 h1 b2 (some size) none none) fun (x5 : Sl) =>
    bind2 (slices_Clone_byte x5 h1) fun (x6 : Sl) (h2 : H) =>
    some ((n, (x6, 0)), h2))
noncomputable abbrev varint_Take_l1 := P.varint_Take_l1 slices_Clone_byte
noncomputable def varint_Take : Sl → H → Option ((Int × Sl × Int) × H) := P.varint_Take slices_Clone_byte
noncomputable def ann_151 : Ann := ⟨fun i => bif i.beq 10 then some ⟨[0, 2, 5], [⟨false, [.sl]⟩, ⟨false, [.int .i64]⟩, ⟨false, [.int .i64]⟩]⟩ else none, fun i => bif i.beq 6 then some ⟨[0, 2, 5, 33, 34, 35], [⟨false, [.sl]⟩, ⟨false, [.int .i64]⟩, ⟨false, [.int .i64]⟩, ⟨false, [.sl]⟩, ⟨false, [.int .i64]⟩, ⟨false, [.int .i64]⟩]⟩ else none, fun i => bif i.beq 1 then some ⟨[0, 20], [⟨false, [.sl]⟩, ⟨false, [.bool]⟩]⟩ else none⟩
noncomputable def E_151 : Ent := ⟨151, [⟨false, [.sl]⟩], [⟨false, [.int .i64]⟩, ⟨false, [.sl]⟩, ⟨false, [.int .i64]⟩], fun (x : Sl) h => varint_Take x h⟩
theorem eq_151 (slices_Clone_byte : Sl → H → Option ((Sl) × H)) : (fun (x : PT E_151.ps) (h : H) => runFK Go.Proofs.Ythiccnmplgdheaa.Tab.D (lstK [⟨98, [⟨false, [.sl]⟩], [⟨false, [.sl]⟩], fun (x : Sl) h => slices_Clone_byte x h⟩]) ann_151 Try.f151 (Try.f151.body.getD .skip) E_151.ys (encP E_151.ps x) h) = (fun (x : Sl) h => P.varint_Take slices_Clone_byte x h) := by kernel_rfl
theorem ok_151 : E_151.ok Go.Proofs.Ythiccnmplgdheaa.Tab.D := fun x h y h' e => runFK_ok (lstK_ok [E_98] (List.forall_mem_cons.2 ⟨ok_98, fun E h => nomatch h⟩)) (A := ann_151) (by kernel_rfl) (show Go.Proofs.Ythiccnmplgdheaa.Tab.D.fn.get 151 = some Try.f151 by kernel_rfl) (show Try.f151.body = some (Try.f151.body.getD .skip) by kernel_rfl) ((congrFun (congrFun (eq_151 slices_Clone_byte) x) h).trans e)
/-! frame_flag -/
noncomputable def frame_flag (fin : Bool) (h : H) : Option (Int × H) :=
  condK fin (
    some (1, h)) (
    some (0, h))
noncomputable def ann_156 : Ann := ⟨fun _ => none, fun _ => none, fun _ => none⟩
noncomputable def E_156 : Ent := ⟨156, [⟨false, [.bool]⟩], [⟨false, [.int .i64]⟩], fun (x : Bool) h => frame_flag x h⟩
theorem eq_156  : (fun (x : PT E_156.ps) (h : H) => runFK Go.Proofs.Ythiccnmplgdheaa.Tab.D (lstK []) ann_156 Try.f156 (Try.f156.body.getD .skip) E_156.ys (encP E_156.ps x) h) = (fun (x : Bool) h => frame_flag x h) := by kernel_rfl
theorem ok_156 : E_156.ok Go.Proofs.Ythiccnmplgdheaa.Tab.D := fun x h y h' e => runFK_ok (lstK_ok [] (fun E h => nomatch h)) (A := ann_156) (by kernel_rfl) (show Go.Proofs.Ythiccnmplgdheaa.Tab.D.fn.get 156 = some Try.f156 by kernel_rfl) (show Try.f156.body = some (Try.f156.body.getD .skip) by kernel_rfl) ((congrFun (congrFun (eq_156 ) x) h).trans e)
/-! frame_numbers -/
noncomputable def P.frame_numbers_l1 (frame_flag : Bool → H → Option ((Int) × H)) : (((Option Addr) × (Sl × (Sl × (Int × Int)))) × H) → Option ((((Option Addr) × (Sl × (Sl × (Int × Int)))) × H) ⊕ ((Sl × H) ⊕ (((Option Addr) × H) ⊕ (Sl × H)))) := fun ((f, (out, (x0, (x1, x2)))), h0) =>
  condK (decide ((x2 < x1))) (
    joinO (
      bindO (ixT 2 x0 x2) fun (a0 : Addr) =>
      bindO (ldZ [.int .i64, .int .i64] h0 a0) fun ((x3, x4) : Int × Int) =>
      newO (row 36 [(.int .i64 0), (.int .i64 0)]) h0 fun (b : Nat) (h1 : H) =>
      bindO (stZ [.int .i64, .int .i64] h1 (⟨b, 0, (some 0)⟩ : Addr) ((x3, x4) : Int × Int)) fun (h2 : H) =>
      condK (x2 == 0) (
        bindO (ixAT 2 1 (⟨b, 0, (some 0)⟩ : Addr) 1) fun (a1 : Addr) =>
        bindO (ldI .i64 h2 a1) fun (x5 : Int) =>
        bindO (ixAT 2 1 (⟨b, 0, (some 0)⟩ : Addr) 1) fun (a2 : Addr) =>
        bindO (ldI .i64 h2 a2) fun (x6 : Int) =>
        bindO (ixAT 2 1 (⟨b, 0, (some 0)⟩ : Addr) 0) fun (a3 : Addr) =>
        bindO (ldI .i64 h2 a3) fun (x7 : Int) =>
        newO (row 3 [(.int .i64 x5), (.int .i64 (IntKind.wrap .i64 (x6 - x7)))]) h2 fun (b1 : Nat) (h3 : H) =>
        bind2 (appT 3 1 8 h3 out (⟨(some (⟨b1, 0, (some 0)⟩ : Addr)), 2, 2⟩ : Sl)) fun (x8 : Sl) (h4 : H) =>
        some (Sum.inl ((f, (x8, (x0, (x1, x2)))), h4))) (
        ptrK f fun (a4 : Addr) =>
        letH (growIf h2 19) fun (h5 : H) =>
        bindO (ldL h5 (add a4 8)) fun (x9 : Sl) =>
        bindO (ixT 2 x9 (IntKind.wrap .i64 (x2 - 1))) fun (a5 : Addr) =>
        bindO (ixAT 2 1 a5 0) fun (a6 : Addr) =>
        bindO (ldI .i64 h5 a6) fun (x10 : Int) =>
        bindO (ixAT 2 1 (⟨b, 0, (some 0)⟩ : Addr) 1) fun (a7 : Addr) =>
        bindO (ldI .i64 h5 a7) fun (x11 : Int) =>
        bindO (ixAT 2 1 (⟨b, 0, (some 0)⟩ : Addr) 1) fun (a8 : Addr) =>
        bindO (ldI .i64 h5 a8) fun (x12 : Int) =>
        bindO (ixAT 2 1 (⟨b, 0, (some 0)⟩ : Addr) 0) fun (a9 : Addr) =>
        bindO (ldI .i64 h5 a9) fun (x13 : Int) =>
        letH (addP 131071 h2.size [(16, (row 3 [(.int .i64 (IntKind.wrap .i64 (x10 - x11))), (.int .i64 (IntKind.wrap .i64 (x12 - x13)))]))] h5) fun (h6 : H) =>
        bind2 (appT 3 1 8 h6 out (⟨(some (⟨(h2.size + 16), 0, (some 0)⟩ : Addr)), 2, 2⟩ : Sl)) fun (x14 : Sl) (h7 : H) =>
        letH (addP 524287 h2.size [(16, (row 3 [(.int .i64 (IntKind.wrap .i64 (x10 - x11))), (.int .i64 (IntKind.wrap .i64 (x12 - x13)))]))] h7) fun (h8 : H) =>
        letH (tickIf 19 h8) fun (h9 : H) =>
        some (Sum.inl ((f, (x14, (x0, (x1, x2)))), h9)))) fun (((f1, (out1, (x3, (x4, x5)))), h1) : (((Option Addr) × (Sl × (Sl × (Int × Int)))) × H)) =>
    some (Sum.inl ((f1, (out1, (x3, (x4, (IntKind.wrap .i64 (x5 + 1)))))), h1))) (
    some (Sum.inr (Sum.inl (out, h0))))

noncomputable def P.frame_numbers (frame_flag : Bool → H → Option ((Int) × H)) (f : Int × Int × Int × Int × Int × Int × Bool × Sl × Sl) (h : H) : Option (Sl × H) :=
  newO (row 33 [(.int .i64 f.1), (.int .i64 f.2.1), (.int .i64 f.2.2.1), (.int .i64 f.2.2.2.1), (.int .i64 f.2.2.2.2.1), (.int .i64 f.2.2.2.2.2.1), (.bool f.2.2.2.2.2.2.1), (.slice f.2.2.2.2.2.2.2.1.base f.2.2.2.2.2.2.2.1.len f.2.2.2.2.2.2.2.1.cap), (.slice f.2.2.2.2.2.2.2.2.base f.2.2.2.2.2.2.2.2.len f.2.2.2.2.2.2.2.2.cap)]) h fun (b : Nat) (h0 : H) =>
  joinO (
    bindO (ldI .i64 h0 (add (⟨b, 0, (some 0)⟩ : Addr) 0)) fun (x0 : Int) =>
    condK (x0 == 2) (
      bindO (ldI .i64 h0 (add (⟨b, 0, (some 0)⟩ : Addr) 0)) fun (x1 : Int) =>
      bindO (ldL h0 (add (⟨b, 0, (some 0)⟩ : Addr) 8)) fun (x2 : Sl) =>
      newO (row 3 [(.int .i64 x1), (.int .i64 ((x2.len : Nat) : Int))]) h0 fun (b1 : Nat) (h1 : H) =>
      joinO (
        bindO (ldL h1 (add (⟨b, 0, (some 0)⟩ : Addr) 8)) fun (x3 : Sl) =>
        loopO (P.frame_numbers_l1 frame_flag) (((some (⟨b, 0, (some 0)⟩ : Addr)), ((⟨(some (⟨b1, 0, (some 0)⟩ : Addr)), 2, 2⟩ : Sl), (x3, (((x3.len : Nat) : Int), 0)))), h1)) fun ((out, h2) : (Sl × H)) =>
      some (Sum.inr (out, h2))) (
      condK (x0 == 3) (
        letH (growIf h0 14) fun (h3 : H) =>
        bindO (ldI .i64 h3 (add (⟨b, 0, (some 0)⟩ : Addr) 0)) fun (x3 : Int) =>
        bindO (ldI .i64 h3 (add (⟨b, 0, (some 0)⟩ : Addr) 1)) fun (x4 : Int) =>
        bindO (ldI .i64 h3 (add (⟨b, 0, (some 0)⟩ : Addr) 2)) fun (x5 : Int) =>
        bindO (ldB h3 (add (⟨b, 0, (some 0)⟩ : Addr) 6)) fun (x6 : Bool) =>
        bind2 (frame_flag x6 h3) fun (x7 : Int) (h4 : H) =>
        bindO (ldL h4 (add (⟨b, 0, (some 0)⟩ : Addr) 7)) fun (x8 : Sl) =>
        letH (addP 1536 h0.size [(12, (row 3 [(.int .i64 x3), (.int .i64 x4), (.int .i64 x5), (.int .i64 x7), (.int .i64 ((x8.len : Nat) : Int))]))] h3) fun (h5 : H) =>
        condK (((x8.len : Nat) : Int) == ((x8.len : Nat) : Int)) (
          letH (addP 512 h0.size [(12, (row 3 [(.int .i64 x3), (.int .i64 x4), (.int .i64 x5), (.int .i64 x7), (.int .i64 ((x8.len : Nat) : Int))]))] h3) fun (h6 : H) =>
          bindO (ldL h6 (add (⟨b, 0, (some 0)⟩ : Addr) 7)) fun (x9 : Sl) =>
          condK (slEq x9.base x9.len x9.cap x8.base x8.len x8.cap) (
            letH (addP 16 h0.size [(12, (row 3 [(.int .i64 x3), (.int .i64 x4), (.int .i64 x5), (.int .i64 x7), (.int .i64 ((x8.len : Nat) : Int))]))] h4) fun (h7 : H) =>
            bindO (ldI .i64 h7 (add (⟨b, 0, (some 0)⟩ : Addr) 2)) fun (x10 : Int) =>
            condK (x10 == x5) (
              letH (addP 4 h0.size [(12, (row 3 [(.int .i64 x3), (.int .i64 x4), (.int .i64 x5), (.int .i64 x7), (.int .i64 ((x8.len : Nat) : Int))]))] h4) fun (h8 : H) =>
              bindO (ldI .i64 h8 (add (⟨b, 0, (some 0)⟩ : Addr) 1)) fun (x11 : Int) =>
              condK (x11 == x4) (
                letH (addP 1 h0.size [(12, (row 3 [(.int .i64 x3), (.int .i64 x4), (.int .i64 x5), (.int .i64 x7), (.int .i64 ((x8.len : Nat) : Int))]))] h4) fun (h9 : H) =>
                bindO (ldI .i64 h9 (add (⟨b, 0, (some 0)⟩ : Addr) 0)) fun (x12 : Int) =>
                condK (x12 == x3) (
                  letH (addP 16383 h0.size [(12, (row 3 [(.int .i64 x3), (.int .i64 x4), (.int .i64 x5), (.int .i64 x7), (.int .i64 ((x8.len : Nat) : Int))]))] h4) fun (h10 : H) =>
                  letH (tickIf 14 h10) fun (h11 : H) =>
                  some (Sum.inr ((⟨(some (⟨(h0.size + 12), 0, (some 0)⟩ : Addr)), 5, 5⟩ : Sl), h11))) none) none) none) none) none) (
        condK (x0 == 4) (
          bindO (ldI .i64 h0 (add (⟨b, 0, (some 0)⟩ : Addr) 0)) fun (x13 : Int) =>
          bindO (ldI .i64 h0 (add (⟨b, 0, (some 0)⟩ : Addr) 1)) fun (x14 : Int) =>
          bindO (ldI .i64 h0 (add (⟨b, 0, (some 0)⟩ : Addr) 3)) fun (x15 : Int) =>
          bindO (ldI .i64 h0 (add (⟨b, 0, (some 0)⟩ : Addr) 2)) fun (x16 : Int) =>
          bindO (ldI .i64 h0 (add (⟨b, 0, (some 0)⟩ : Addr) 4)) fun (x17 : Int) =>
          newO (row 3 [(.int .i64 x13), (.int .i64 x14), (.int .i64 x15), (.int .i64 x16), (.int .i64 x17)]) h0 fun (b2 : Nat) (h12 : H) =>
          some (Sum.inr ((⟨(some (⟨b2, 0, (some 0)⟩ : Addr)), 5, 5⟩ : Sl), h12))) (
          condK (x0 == 5) (
            condK (x0 == 5) (
              bindO (ldI .i64 h0 (add (⟨b, 0, (some 0)⟩ : Addr) 0)) fun (x18 : Int) =>
              bindO (ldI .i64 h0 (add (⟨b, 0, (some 0)⟩ : Addr) 1)) fun (x19 : Int) =>
              bindO (ldI .i64 h0 (add (⟨b, 0, (some 0)⟩ : Addr) 3)) fun (x20 : Int) =>
              newO (row 3 [(.int .i64 x18), (.int .i64 x19), (.int .i64 x20)]) h0 fun (b3 : Nat) (h13 : H) =>
              some (Sum.inr ((⟨(some (⟨b3, 0, (some 0)⟩ : Addr)), 3, 3⟩ : Sl), h13))) (
              condK (x0 == 6) (
                condK (x0 == 6) (
                  bindO (ldI .i64 h0 (add (⟨b, 0, (some 0)⟩ : Addr) 0)) fun (x21 : Int) =>
                  bindO (ldI .i64 h0 (add (⟨b, 0, (some 0)⟩ : Addr) 3)) fun (x22 : Int) =>
                  newO (row 3 [(.int .i64 x21), (.int .i64 x22)]) h0 fun (b4 : Nat) (h14 : H) =>
                  some (Sum.inr ((⟨(some (⟨b4, 0, (some 0)⟩ : Addr)), 2, 2⟩ : Sl), h14))) (
                  condK (x0 == 8) (
                    letH (growIf h0 9) fun (h15 : H) =>
                    bindO (ldI .i64 h15 (add (⟨b, 0, (some 0)⟩ : Addr) 0)) fun (x23 : Int) =>
                    bindO (ldI .i64 h15 (add (⟨b, 0, (some 0)⟩ : Addr) 3)) fun (x24 : Int) =>
                    bindO (ldB h15 (add (⟨b, 0, (some 0)⟩ : Addr) 6)) fun (x25 : Bool) =>
                    bind2 (frame_flag x25 h15) fun (x26 : Int) (h16 : H) =>
                    letH (addP 4 h0.size [(7, (row 3 [(.int .i64 x23), (.int .i64 x24), (.int .i64 x26)]))] h16) fun (h17 : H) =>
                    bindO (ldI .i64 h17 (add (⟨b, 0, (some 0)⟩ : Addr) 3)) fun (x27 : Int) =>
                    condK (x27 == x24) (
                      letH (addP 1 h0.size [(7, (row 3 [(.int .i64 x23), (.int .i64 x24), (.int .i64 x26)]))] h16) fun (h18 : H) =>
                      bindO (ldI .i64 h18 (add (⟨b, 0, (some 0)⟩ : Addr) 0)) fun (x28 : Int) =>
                      condK (x28 == x23) (
                        letH (addP 511 h0.size [(7, (row 3 [(.int .i64 x23), (.int .i64 x24), (.int .i64 x26)]))] h16) fun (h19 : H) =>
                        letH (tickIf 9 h19) fun (h20 : H) =>
                        some (Sum.inr ((⟨(some (⟨(h0.size + 7), 0, (some 0)⟩ : Addr)), 3, 3⟩ : Sl), h20))) none) none) (
                    condK (x0 == 9) (
                      bindO (ldI .i64 h0 (add (⟨b, 0, (some 0)⟩ : Addr) 0)) fun (x29 : Int) =>
                      bindO (ldL h0 (add (⟨b, 0, (some 0)⟩ : Addr) 7)) fun (x30 : Sl) =>
                      newO (row 3 [(.int .i64 x29), (.int .i64 ((x30.len : Nat) : Int))]) h0 fun (b5 : Nat) (h21 : H) =>
                      some (Sum.inr ((⟨(some (⟨b5, 0, (some 0)⟩ : Addr)), 2, 2⟩ : Sl), h21))) (
                      condK (x0 == 10) (
                        condK (x0 == 10) (
                          bindO (ldI .i64 h0 (add (⟨b, 0, (some 0)⟩ : Addr) 0)) fun (x31 : Int) =>
                          bindO (ldI .i64 h0 (add (⟨b, 0, (some 0)⟩ : Addr) 1)) fun (x32 : Int) =>
                          newO (row 3 [(.int .i64 x31), (.int .i64 x32)]) h0 fun (b6 : Nat) (h22 : H) =>
                          some (Sum.inr ((⟨(some (⟨b6, 0, (some 0)⟩ : Addr)), 2, 2⟩ : Sl), h22))) (
                          some (Sum.inl ((some (⟨b, 0, (some 0)⟩ : Addr)), h0)))) (
                        condK (x0 == 11) (
                          bindO (ldI .i64 h0 (add (⟨b, 0, (some 0)⟩ : Addr) 0)) fun (x33 : Int) =>
                          bindO (ldI .i64 h0 (add (⟨b, 0, (some 0)⟩ : Addr) 1)) fun (x34 : Int) =>
                          newO (row 3 [(.int .i64 x33), (.int .i64 x34)]) h0 fun (b7 : Nat) (h23 : H) =>
                          some (Sum.inr ((⟨(some (⟨b7, 0, (some 0)⟩ : Addr)), 2, 2⟩ : Sl), h23))) (
                          some (Sum.inl ((some (⟨b, 0, (some 0)⟩ : Addr)), h0)))))))) (
                condK (x0 == 12) (
                  bindO (ldI .i64 h0 (add (⟨b, 0, (some 0)⟩ : Addr) 0)) fun (x35 : Int) =>
                  bindO (ldI .i64 h0 (add (⟨b, 0, (some 0)⟩ : Addr) 3)) fun (x36 : Int) =>
                  newO (row 3 [(.int .i64 x35), (.int .i64 x36)]) h0 fun (b8 : Nat) (h24 : H) =>
                  some (Sum.inr ((⟨(some (⟨b8, 0, (some 0)⟩ : Addr)), 2, 2⟩ : Sl), h24))) (
                  condK (x0 == 8) (
                    letH (growIf h0 9) fun (h25 : H) =>
                    bindO (ldI .i64 h25 (add (⟨b, 0, (some 0)⟩ : Addr) 0)) fun (x37 : Int) =>
                    bindO (ldI .i64 h25 (add (⟨b, 0, (some 0)⟩ : Addr) 3)) fun (x38 : Int) =>
                    bindO (ldB h25 (add (⟨b, 0, (some 0)⟩ : Addr) 6)) fun (x39 : Bool) =>
                    bind2 (frame_flag x39 h25) fun (x40 : Int) (h26 : H) =>
                    letH (addP 4 h0.size [(7, (row 3 [(.int .i64 x37), (.int .i64 x38), (.int .i64 x40)]))] h26) fun (h27 : H) =>
                    bindO (ldI .i64 h27 (add (⟨b, 0, (some 0)⟩ : Addr) 3)) fun (x41 : Int) =>
                    condK (x41 == x38) (
                      letH (addP 1 h0.size [(7, (row 3 [(.int .i64 x37), (.int .i64 x38), (.int .i64 x40)]))] h26) fun (h28 : H) =>
                      bindO (ldI .i64 h28 (add (⟨b, 0, (some 0)⟩ : Addr) 0)) fun (x42 : Int) =>
                      condK (x42 == x37) (
                        letH (addP 511 h0.size [(7, (row 3 [(.int .i64 x37), (.int .i64 x38), (.int .i64 x40)]))] h26) fun (h29 : H) =>
                        letH (tickIf 9 h29) fun (h30 : H) =>
                        some (Sum.inr ((⟨(some (⟨(h0.size + 7), 0, (some 0)⟩ : Addr)), 3, 3⟩ : Sl), h30))) none) none) (
                    condK (x0 == 9) (
                      bindO (ldI .i64 h0 (add (⟨b, 0, (some 0)⟩ : Addr) 0)) fun (x43 : Int) =>
                      bindO (ldL h0 (add (⟨b, 0, (some 0)⟩ : Addr) 7)) fun (x44 : Sl) =>
                      newO (row 3 [(.int .i64 x43), (.int .i64 ((x44.len : Nat) : Int))]) h0 fun (b9 : Nat) (h31 : H) =>
                      some (Sum.inr ((⟨(some (⟨b9, 0, (some 0)⟩ : Addr)), 2, 2⟩ : Sl), h31))) (
                      condK (x0 == 10) (
                        condK (x0 == 10) (
                          bindO (ldI .i64 h0 (add (⟨b, 0, (some 0)⟩ : Addr) 0)) fun (x45 : Int) =>
                          bindO (ldI .i64 h0 (add (⟨b, 0, (some 0)⟩ : Addr) 1)) fun (x46 : Int) =>
                          newO (row 3 [(.int .i64 x45), (.int .i64 x46)]) h0 fun (b10 : Nat) (h32 : H) =>
                          some (Sum.inr ((⟨(some (⟨b10, 0, (some 0)⟩ : Addr)), 2, 2⟩ : Sl), h32))) (
                          some (Sum.inl ((some (⟨b, 0, (some 0)⟩ : Addr)), h0)))) (
                        condK (x0 == 11) (
                          bindO (ldI .i64 h0 (add (⟨b, 0, (some 0)⟩ : Addr) 0)) fun (x47 : Int) =>
                          bindO (ldI .i64 h0 (add (⟨b, 0, (some 0)⟩ : Addr) 1)) fun (x48 : Int) =>
                          newO (row 3 [(.int .i64 x47), (.int .i64 x48)]) h0 fun (b11 : Nat) (h33 : H) =>
                          some (Sum.inr ((⟨(some (⟨b11, 0, (some 0)⟩ : Addr)), 2, 2⟩ : Sl), h33))) (
                          some (Sum.inl ((some (⟨b, 0, (some 0)⟩ : Addr)), h0)))))))))) (
            condK (x0 == 7) (
              bindO (ldI .i64 h0 (add (⟨b, 0, (some 0)⟩ : Addr) 0)) fun (x49 : Int) =>
              bindO (ldI .i64 h0 (add (⟨b, 0, (some 0)⟩ : Addr) 1)) fun (x50 : Int) =>
              bindO (ldI .i64 h0 (add (⟨b, 0, (some 0)⟩ : Addr) 3)) fun (x51 : Int) =>
              newO (row 3 [(.int .i64 x49), (.int .i64 x50), (.int .i64 x51)]) h0 fun (b12 : Nat) (h34 : H) =>
              some (Sum.inr ((⟨(some (⟨b12, 0, (some 0)⟩ : Addr)), 3, 3⟩ : Sl), h34))) (
              condK (x0 == 6) (
                condK (x0 == 6) (
                  bindO (ldI .i64 h0 (add (⟨b, 0, (some 0)⟩ : Addr) 0)) fun (x52 : Int) =>
                  bindO (ldI .i64 h0 (add (⟨b, 0, (some 0)⟩ : Addr) 3)) fun (x53 : Int) =>
                  newO (row 3 [(.int .i64 x52), (.int .i64 x53)]) h0 fun (b13 : Nat) (h35 : H) =>
                  some (Sum.inr ((⟨(some (⟨b13, 0, (some 0)⟩ : Addr)), 2, 2⟩ : Sl), h35))) (
                  condK (x0 == 8) (
                    letH (growIf h0 9) fun (h36 : H) =>
                    bindO (ldI .i64 h36 (add (⟨b, 0, (some 0)⟩ : Addr) 0)) fun (x54 : Int) =>
                    bindO (ldI .i64 h36 (add (⟨b, 0, (some 0)⟩ : Addr) 3)) fun (x55 : Int) =>
                    bindO (ldB h36 (add (⟨b, 0, (some 0)⟩ : Addr) 6)) fun (x56 : Bool) =>
                    bind2 (frame_flag x56 h36) fun (x57 : Int) (h37 : H) =>
                    letH (addP 4 h0.size [(7, (row 3 [(.int .i64 x54), (.int .i64 x55), (.int .i64 x57)]))] h37) fun (h38 : H) =>
                    bindO (ldI .i64 h38 (add (⟨b, 0, (some 0)⟩ : Addr) 3)) fun (x58 : Int) =>
                    condK (x58 == x55) (
                      letH (addP 1 h0.size [(7, (row 3 [(.int .i64 x54), (.int .i64 x55), (.int .i64 x57)]))] h37) fun (h39 : H) =>
                      bindO (ldI .i64 h39 (add (⟨b, 0, (some 0)⟩ : Addr) 0)) fun (x59 : Int) =>
                      condK (x59 == x54) (
                        letH (addP 511 h0.size [(7, (row 3 [(.int .i64 x54), (.int .i64 x55), (.int .i64 x57)]))] h37) fun (h40 : H) =>
                        letH (tickIf 9 h40) fun (h41 : H) =>
                        some (Sum.inr ((⟨(some (⟨(h0.size + 7), 0, (some 0)⟩ : Addr)), 3, 3⟩ : Sl), h41))) none) none) (
                    condK (x0 == 9) (
                      bindO (ldI .i64 h0 (add (⟨b, 0, (some 0)⟩ : Addr) 0)) fun (x60 : Int) =>
                      bindO (ldL h0 (add (⟨b, 0, (some 0)⟩ : Addr) 7)) fun (x61 : Sl) =>
                      newO (row 3 [(.int .i64 x60), (.int .i64 ((x61.len : Nat) : Int))]) h0 fun (b14 : Nat) (h42 : H) =>
                      some (Sum.inr ((⟨(some (⟨b14, 0, (some 0)⟩ : Addr)), 2, 2⟩ : Sl), h42))) (
                      condK (x0 == 10) (
                        condK (x0 == 10) (
                          bindO (ldI .i64 h0 (add (⟨b, 0, (some 0)⟩ : Addr) 0)) fun (x62 : Int) =>
                          bindO (ldI .i64 h0 (add (⟨b, 0, (some 0)⟩ : Addr) 1)) fun (x63 : Int) =>
                          newO (row 3 [(.int .i64 x62), (.int .i64 x63)]) h0 fun (b15 : Nat) (h43 : H) =>
                          some (Sum.inr ((⟨(some (⟨b15, 0, (some 0)⟩ : Addr)), 2, 2⟩ : Sl), h43))) (
                          some (Sum.inl ((some (⟨b, 0, (some 0)⟩ : Addr)), h0)))) (
                        condK (x0 == 11) (
                          bindO (ldI .i64 h0 (add (⟨b, 0, (some 0)⟩ : Addr) 0)) fun (x64 : Int) =>
                          bindO (ldI .i64 h0 (add (⟨b, 0, (some 0)⟩ : Addr) 1)) fun (x65 : Int) =>
                          newO (row 3 [(.int .i64 x64), (.int .i64 x65)]) h0 fun (b16 : Nat) (h44 : H) =>
                          some (Sum.inr ((⟨(some (⟨b16, 0, (some 0)⟩ : Addr)), 2, 2⟩ : Sl), h44))) (
                          some (Sum.inl ((some (⟨b, 0, (some 0)⟩ : Addr)), h0)))))))) (
                condK (x0 == 12) (
                  bindO (ldI .i64 h0 (add (⟨b, 0, (some 0)⟩ : Addr) 0)) fun (x66 : Int) =>
                  bindO (ldI .i64 h0 (add (⟨b, 0, (some 0)⟩ : Addr) 3)) fun (x67 : Int) =>
                  newO (row 3 [(.int .i64 x66), (.int .i64 x67)]) h0 fun (b17 : Nat) (h45 : H) =>
                  some (Sum.inr ((⟨(some (⟨b17, 0, (some 0)⟩ : Addr)), 2, 2⟩ : Sl), h45))) (
                  condK (x0 == 8) (
                    letH (growIf h0 9) fun (h46 : H) =>
                    bindO (ldI .i64 h46 (add (⟨b, 0, (some 0)⟩ : Addr) 0)) fun (x68 : Int) =>
                    bindO (ldI .i64 h46 (add (⟨b, 0, (some 0)⟩ : Addr) 3)) fun (x69 : Int) =>
                    bindO (ldB h46 (add (⟨b, 0, (some 0)⟩ : Addr) 6)) fun (x70 : Bool) =>
                    bind2 (frame_flag x70 h46) fun (x71 : Int) (h47 : H) =>
                    letH (addP 4 h0.size [(7, (row 3 [(.int .i64 x68), (.int .i64 x69), (.int .i64 x71)]))] h47) fun (h48 : H) =>
                    bindO (ldI .i64 h48 (add (⟨b, 0, (some 0)⟩ : Addr) 3)) fun (x72 : Int) =>
                    condK (x72 == x69) (
                      letH (addP 1 h0.size [(7, (row 3 [(.int .i64 x68), (.int .i64 x69), (.int .i64 x71)]))] h47) fun (h49 : H) =>
                      bindO (ldI .i64 h49 (add (⟨b, 0, (some 0)⟩ : Addr) 0)) fun (x73 : Int) =>
                      condK (x73 == x68) (
                        letH (addP 511 h0.size [(7, (row 3 [(.int .i64 x68), (.int .i64 x69), (.int .i64 x71)]))] h47) fun (h50 : H) =>
                        letH (tickIf 9 h50) fun (h51 : H) =>
                        some (Sum.inr ((⟨(some (⟨(h0.size + 7), 0, (some 0)⟩ : Addr)), 3, 3⟩ : Sl), h51))) none) none) (
                    condK (x0 == 9) (
                      bindO (ldI .i64 h0 (add (⟨b, 0, (some 0)⟩ : Addr) 0)) fun (x74 : Int) =>
                      bindO (ldL h0 (add (⟨b, 0, (some 0)⟩ : Addr) 7)) fun (x75 : Sl) =>
                      newO (row 3 [(.int .i64 x74), (.int .i64 ((x75.len : Nat) : Int))]) h0 fun (b18 : Nat) (h52 : H) =>
                      some (Sum.inr ((⟨(some (⟨b18, 0, (some 0)⟩ : Addr)), 2, 2⟩ : Sl), h52))) (
                      condK (x0 == 10) (
                        condK (x0 == 10) (
                          bindO (ldI .i64 h0 (add (⟨b, 0, (some 0)⟩ : Addr) 0)) fun (x76 : Int) =>
                          bindO (ldI .i64 h0 (add (⟨b, 0, (some 0)⟩ : Addr) 1)) fun (x77 : Int) =>
                          newO (row 3 [(.int .i64 x76), (.int .i64 x77)]) h0 fun (b19 : Nat) (h53 : H) =>
                          some (Sum.inr ((⟨(some (⟨b19, 0, (some 0)⟩ : Addr)), 2, 2⟩ : Sl), h53))) (
                          some (Sum.inl ((some (⟨b, 0, (some 0)⟩ : Addr)), h0)))) (
                        condK (x0 == 11) (
                          bindO (ldI .i64 h0 (add (⟨b, 0, (some 0)⟩ : Addr) 0)) fun (x78 : Int) =>
                          bindO (ldI .i64 h0 (add (⟨b, 0, (some 0)⟩ : Addr) 1)) fun (x79 : Int) =>
                          newO (row 3 [(.int .i64 x78), (.int .i64 x79)]) h0 fun (b20 : Nat) (h54 : H) =>
                          some (Sum.inr ((⟨(some (⟨b20, 0, (some 0)⟩ : Addr)), 2, 2⟩ : Sl), h54))) (
                          some (Sum.inl ((some (⟨b, 0, (some 0)⟩ : Addr)), h0)))))))))))))) fun ((f1, h1) : ((Option Addr) × H)) =>
  ptrK f1 fun (a0 : Addr) =>
  bindO (ldI .i64 h1 (add a0 0)) fun (x0 : Int) =>
  newO (row 3 [(.int .i64 x0)]) h1 fun (b1 : Nat) (h2 : H) =>
  some ((⟨(some (⟨b1, 0, (some 0)⟩ : Addr)), 1, 1⟩ : Sl), h2)
noncomputable abbrev frame_numbers_l1 := P.frame_numbers_l1 frame_flag
noncomputable def frame_numbers : (Int × Int × Int × Int × Int × Int × Bool × Sl × Sl) → H → Option ((Sl) × H) := P.frame_numbers frame_flag
noncomputable def ann_111 : Ann := ⟨fun i => bif i.beq 10 then some ⟨[1, 3, 17, 18, 19], [⟨false, [.ptr]⟩, ⟨false, [.sl]⟩, ⟨false, [.sl]⟩, ⟨false, [.int .i64]⟩, ⟨false, [.int .i64]⟩]⟩ else bif i.beq 11 then some ⟨[3], [⟨false, [.sl]⟩]⟩ else bif i.beq 29 then some ⟨[1], [⟨false, [.ptr]⟩]⟩ else none, fun i => bif i.beq 5 then some ⟨[1, 3, 17, 18, 19], [⟨false, [.ptr]⟩, ⟨false, [.sl]⟩, ⟨false, [.sl]⟩, ⟨false, [.int .i64]⟩, ⟨false, [.int .i64]⟩]⟩ else none, fun _ => none⟩
noncomputable def E_111 : Ent := ⟨111, [⟨true, [.int .i64, .int .i64, .int .i64, .int .i64, .int .i64, .int .i64, .bool, .sl, .sl]⟩], [⟨false, [.sl]⟩], fun (x : (Int × Int × Int × Int × Int × Int × Bool × Sl × Sl)) h => frame_numbers x h⟩
theorem eq_111 (frame_flag : Bool → H → Option ((Int) × H)) : (fun (x : PT E_111.ps) (h : H) => runFK Go.Proofs.Ythiccnmplgdheaa.Tab.D (lstK [⟨156, [⟨false, [.bool]⟩], [⟨false, [.int .i64]⟩], fun (x : Bool) h => frame_flag x h⟩]) ann_111 Try.f111 (Try.f111.body.getD .skip) E_111.ys (encP E_111.ps x) h) = (fun (x : (Int × Int × Int × Int × Int × Int × Bool × Sl × Sl)) h => P.frame_numbers frame_flag x h) := by kernel_rfl
theorem ok_111 : E_111.ok Go.Proofs.Ythiccnmplgdheaa.Tab.D := fun x h y h' e => runFK_ok (lstK_ok [E_156] (List.forall_mem_cons.2 ⟨ok_156, fun E h => nomatch h⟩)) (A := ann_111) (by kernel_rfl) (show Go.Proofs.Ythiccnmplgdheaa.Tab.D.fn.get 111 = some Try.f111 by kernel_rfl) (show Try.f111.body = some (Try.f111.body.getD .skip) by kernel_rfl) ((congrFun (congrFun (eq_111 frame_flag) x) h).trans e)
/-! frame_Lay -/
noncomputable def P.frame_Lay_l1 (frame_Right : (Int × Int × Int × Int × Int × Int × Bool × Sl × Sl) → H → Option ((Bool) × H)) (frame_numbers : (Int × Int × Int × Int × Int × Int × Bool × Sl × Sl) → H → Option ((Sl) × H)) (varint_Put : Sl → Sl → H → Option ((Sl) × H)) (slices_Clip_byte : Sl → H → Option ((Sl) × H)) : ((Sl × (Sl × (Int × Int))) × H) → Option (((Sl × (Sl × (Int × Int))) × H) ⊕ ((Sl × H) ⊕ ((Sl × Int) × H))) := fun ((out, (x0, (x1, x2))), h0) =>
  condK (decide ((x2 < x1))) (
    bindO (ixT 9 x0 x2) fun (a0 : Addr) =>
    bindO (ldZ [.int .i64, .int .i64, .int .i64, .int .i64, .int .i64, .int .i64, .bool, .sl, .sl] h0 a0) fun ((x3, x4, x5, x6, x7, x8, x9, x10, x11) : Int × Int × Int × Int × Int × Int × Bool × Sl × Sl) =>
    newO (row 33 [(.int .i64 0), (.int .i64 0), (.int .i64 0), (.int .i64 0), (.int .i64 0), (.int .i64 0), (.bool false), (.slice none 0 0), (.slice none 0 0)]) h0 fun (b : Nat) (h1 : H) =>
    bindO (stZ [.int .i64, .int .i64, .int .i64, .int .i64, .int .i64, .int .i64, .bool, .sl, .sl] h1 (⟨b, 0, (some 0)⟩ : Addr) ((x3, x4, x5, x6, x7, x8, x9, x10, x11) : Int × Int × Int × Int × Int × Int × Bool × Sl × Sl)) fun (h2 : H) =>
    bindO (ldZ [.int .i64, .int .i64, .int .i64, .int .i64, .int .i64, .int .i64, .bool, .sl, .sl] h2 (⟨b, 0, (some 0)⟩ : Addr)) fun ((x12, x13, x14, x15, x16, x17, x18, x19, x20) : Int × Int × Int × Int × Int × Int × Bool × Sl × Sl) =>
    bind2 (frame_Right (x12, x13, x14, x15, x16, x17, x18, x19, x20) h2) fun (x21 : Bool) (h3 : H) =>
    condK (!x21) (
      some (Sum.inr (Sum.inr (((⟨none, 0, 0⟩ : Sl), 1), h3)))) (
      bindO (ldZ [.int .i64, .int .i64, .int .i64, .int .i64, .int .i64, .int .i64, .bool, .sl, .sl] h3 (⟨b, 0, (some 0)⟩ : Addr)) fun ((x22, x23, x24, x25, x26, x27, x28, x29, x30) : Int × Int × Int × Int × Int × Int × Bool × Sl × Sl) =>
      bind2 (frame_numbers (x22, x23, x24, x25, x26, x27, x28, x29, x30) h3) fun (x31 : Sl) (h4 : H) =>
      bind2 (varint_Put out x31 h4) fun (x32 : Sl) (h5 : H) =>
      bindO (ldL h5 (add (⟨b, 0, (some 0)⟩ : Addr) 7)) fun (x33 : Sl) =>
      bind2 (appT 5 1 1 h5 x32 x33) fun (x34 : Sl) (h6 : H) =>
      bindO (ldL h4 (add (⟨b, 0, (some 0)⟩ : Addr) 7)) fun (x35 : Sl) =>
      condK (slEq x35.base x35.len x35.cap x33.base x33.len x33.cap) (
        bindO (ldL h3 (add (⟨b, 0, (some 0)⟩ : Addr) 7)) fun (x36 : Sl) =>
        condK (slEq x36.base x36.len x36.cap x33.base x33.len x33.cap) (
          some (Sum.inl ((x34, (x0, (x1, (IntKind.wrap .i64 (x2 + 1))))), h6))) none) none)) (
    some (Sum.inr (Sum.inl (out, h0))))

noncomputable def P.frame_Lay (frame_Right : (Int × Int × Int × Int × Int × Int × Bool × Sl × Sl) → H → Option ((Bool) × H)) (frame_numbers : (Int × Int × Int × Int × Int × Int × Bool × Sl × Sl) → H → Option ((Sl) × H)) (varint_Put : Sl → Sl → H → Option ((Sl) × H)) (slices_Clip_byte : Sl → H → Option ((Sl) × H)) (f : Sl) (h : H) : Option ((Sl × Int) × H) :=
  joinO (
    loopO (P.frame_Lay_l1 frame_Right frame_numbers varint_Put slices_Clip_byte) (((⟨none, 0, 0⟩ : Sl), (f, (((f.len : Nat) : Int), 0))), h)) fun ((out, h0) : (Sl × H)) =>
  bind2 (slices_Clip_byte out h0) fun (x0 : Sl) (h1 : H) =>
  some ((x0, 0), h1)
noncomputable abbrev frame_Lay_l1 := P.frame_Lay_l1 frame_Right frame_numbers varint_Put slices_Clip_byte
noncomputable def frame_Lay : Sl → H → Option ((Sl × Int) × H) := P.frame_Lay frame_Right frame_numbers varint_Put slices_Clip_byte
noncomputable def ann_55 : Ann := ⟨fun i => bif i.beq 9 then some ⟨[4], [⟨false, [.sl]⟩]⟩ else none, fun i => bif i.beq 3 then some ⟨[4, 7, 8, 9], [⟨false, [.sl]⟩, ⟨false, [.sl]⟩, ⟨false, [.int .i64]⟩, ⟨false, [.int .i64]⟩]⟩ else none, fun _ => none⟩
noncomputable def E_55 : Ent := ⟨55, [⟨false, [.sl]⟩], [⟨false, [.sl]⟩, ⟨false, [.int .i64]⟩], fun (x : Sl) h => frame_Lay x h⟩
theorem eq_55 (frame_Right : (Int × Int × Int × Int × Int × Int × Bool × Sl × Sl) → H → Option ((Bool) × H)) (frame_numbers : (Int × Int × Int × Int × Int × Int × Bool × Sl × Sl) → H → Option ((Sl) × H)) (varint_Put : Sl → Sl → H → Option ((Sl) × H)) (slices_Clip_byte : Sl → H → Option ((Sl) × H)) : (fun (x : PT E_55.ps) (h : H) => runFK Go.Proofs.Ythiccnmplgdheaa.Tab.D (lstK [⟨27, [⟨true, [.int .i64, .int .i64, .int .i64, .int .i64, .int .i64, .int .i64, .bool, .sl, .sl]⟩], [⟨false, [.bool]⟩], fun (x : (Int × Int × Int × Int × Int × Int × Bool × Sl × Sl)) h => frame_Right x h⟩, ⟨111, [⟨true, [.int .i64, .int .i64, .int .i64, .int .i64, .int .i64, .int .i64, .bool, .sl, .sl]⟩], [⟨false, [.sl]⟩], fun (x : (Int × Int × Int × Int × Int × Int × Bool × Sl × Sl)) h => frame_numbers x h⟩, ⟨100, [⟨false, [.sl]⟩, ⟨false, [.sl]⟩], [⟨false, [.sl]⟩], fun (x : Sl × Sl) h => varint_Put x.1 x.2 h⟩, ⟨97, [⟨false, [.sl]⟩], [⟨false, [.sl]⟩], fun (x : Sl) h => slices_Clip_byte x h⟩]) ann_55 Try.f55 (Try.f55.body.getD .skip) E_55.ys (encP E_55.ps x) h) = (fun (x : Sl) h => P.frame_Lay frame_Right frame_numbers varint_Put slices_Clip_byte x h) := by kernel_rfl
theorem ok_55 : E_55.ok Go.Proofs.Ythiccnmplgdheaa.Tab.D := fun x h y h' e => runFK_ok (lstK_ok [E_27, E_111, E_100, E_97] (List.forall_mem_cons.2 ⟨ok_27, List.forall_mem_cons.2 ⟨ok_111, List.forall_mem_cons.2 ⟨ok_100, List.forall_mem_cons.2 ⟨ok_97, fun E h => nomatch h⟩⟩⟩⟩)) (A := ann_55) (by kernel_rfl) (show Go.Proofs.Ythiccnmplgdheaa.Tab.D.fn.get 55 = some Try.f55 by kernel_rfl) (show Try.f55.body = some (Try.f55.body.getD .skip) by kernel_rfl) ((congrFun (congrFun (eq_55 frame_Right frame_numbers varint_Put slices_Clip_byte) x) h).trans e)
/-! frame_reader_fail -/
noncomputable def frame_reader_fail (r : Option Addr) (e : Int) (h : H) : Option (Unit × H) :=
  ptrK r fun (a0 : Addr) =>
  bindO (ldI .i64 h (add a0 1)) fun (x0 : Int) =>
  condK (x0 == 0) (
    ptrK r fun (a1 : Addr) =>
    bindO (st1 h (add a1 1) (.int .i64 e)) fun (h0 : H) =>
    some ((), h0)) (
    some ((), h))
noncomputable def ann_161 : Ann := ⟨fun _ => none, fun _ => none, fun _ => none⟩
noncomputable def E_161 : Ent := ⟨161, [⟨false, [.ptr]⟩, ⟨false, [.int .i64]⟩], [], fun (x : Option Addr × Int) h => frame_reader_fail x.1 x.2 h⟩
theorem eq_161  : (fun (x : PT E_161.ps) (h : H) => runFK Go.Proofs.Ythiccnmplgdheaa.Tab.D (lstK []) ann_161 Try.f161 (Try.f161.body.getD .skip) E_161.ys (encP E_161.ps x) h) = (fun (x : Option Addr × Int) h => frame_reader_fail x.1 x.2 h) := by kernel_rfl
theorem ok_161 : E_161.ok Go.Proofs.Ythiccnmplgdheaa.Tab.D := fun x h y h' e => runFK_ok (lstK_ok [] (fun E h => nomatch h)) (A := ann_161) (by kernel_rfl) (show Go.Proofs.Ythiccnmplgdheaa.Tab.D.fn.get 161 = some Try.f161 by kernel_rfl) (show Try.f161.body = some (Try.f161.body.getD .skip) by kernel_rfl) ((congrFun (congrFun (eq_161 ) x) h).trans e)
/-! frame_reader_take -/
noncomputable def P.frame_reader_take_l1 (varint_Take : Sl → H → Option ((Int × Sl × Int) × H)) (frame_reader_fail : Option Addr → Int → H → Option ((Unit) × H)) : (((Option Addr) × (Sl × (Int × Int))) × H) → Option ((((Option Addr) × (Sl × (Int × Int))) × H) ⊕ (PUnit × H)) := fun ((r, (x0, (x1, x2))), h0) =>
  condK (decide ((x2 < x1))) (
    bindO (ixT 1 x0 x2) fun (a0 : Addr) =>
    bindO (ldP h0 a0) fun (x3 : Option Addr) =>
    ptrK r fun (a1 : Addr) =>
    bindO (ldI .i64 h0 (add a1 1)) fun (x4 : Int) =>
    condK (x4 != 0) (
      some (Sum.inr ((), h0))) (
      ptrK r fun (a2 : Addr) =>
      bindO (ldL h0 (add a2 0)) fun (x5 : Sl) =>
      bind2 (varint_Take x5 h0) fun ((x6, x7, x8) : Int × Sl × Int) (h1 : H) =>
      bind2 (frame_reader_fail r x8 h1) fun (_ : Unit) (h2 : H) =>
      ptrK x3 fun (a3 : Addr) =>
      bindO (st1 h2 a3 (.int .i64 x6)) fun (h3 : H) =>
      ptrK r fun (a4 : Addr) =>
      bindO (st1 h3 (add a4 0) (.slice x7.base x7.len x7.cap)) fun (h4 : H) =>
      some (Sum.inl ((r, (x0, (x1, (IntKind.wrap .i64 (x2 + 1))))), h4)))) (
    some (Sum.inr ((), h0)))

noncomputable def P.frame_reader_take (varint_Take : Sl → H → Option ((Int × Sl × Int) × H)) (frame_reader_fail : Option Addr → Int → H → Option ((Unit) × H)) (r : Option Addr) (to : Sl) (h : H) : Option (Unit × H) :=
  loopO (P.frame_reader_take_l1 varint_Take frame_reader_fail) ((r, (to, (((to.len : Nat) : Int), 0))), h)
noncomputable abbrev frame_reader_take_l1 := P.frame_reader_take_l1 varint_Take frame_reader_fail
noncomputable def frame_reader_take : Option Addr → Sl → H → Option ((Unit) × H) := P.frame_reader_take varint_Take frame_reader_fail
noncomputable def ann_157 : Ann := ⟨fun _ => none, fun i => bif i.beq 1 then some ⟨[0, 9, 10, 11], [⟨false, [.ptr]⟩, ⟨false, [.sl]⟩, ⟨false, [.int .i64]⟩, ⟨false, [.int .i64]⟩]⟩ else none, fun _ => none⟩
noncomputable def E_157 : Ent := ⟨157, [⟨false, [.ptr]⟩, ⟨false, [.sl]⟩], [], fun (x : Option Addr × Sl) h => frame_reader_take x.1 x.2 h⟩
theorem eq_157 (varint_Take : Sl → H → Option ((Int × Sl × Int) × H)) (frame_reader_fail : Option Addr → Int → H → Option ((Unit) × H)) : (fun (x : PT E_157.ps) (h : H) => runFK Go.Proofs.Ythiccnmplgdheaa.Tab.D (lstK [⟨151, [⟨false, [.sl]⟩], [⟨false, [.int .i64]⟩, ⟨false, [.sl]⟩, ⟨false, [.int .i64]⟩], fun (x : Sl) h => varint_Take x h⟩, ⟨161, [⟨false, [.ptr]⟩, ⟨false, [.int .i64]⟩], [], fun (x : Option Addr × Int) h => frame_reader_fail x.1 x.2 h⟩]) ann_157 Try.f157 (Try.f157.body.getD .skip) E_157.ys (encP E_157.ps x) h) = (fun (x : Option Addr × Sl) h => P.frame_reader_take varint_Take frame_reader_fail x.1 x.2 h) := by kernel_rfl
theorem ok_157 : E_157.ok Go.Proofs.Ythiccnmplgdheaa.Tab.D := fun x h y h' e => runFK_ok (lstK_ok [E_151, E_161] (List.forall_mem_cons.2 ⟨ok_151, List.forall_mem_cons.2 ⟨ok_161, fun E h => nomatch h⟩⟩)) (A := ann_157) (by kernel_rfl) (show Go.Proofs.Ythiccnmplgdheaa.Tab.D.fn.get 157 = some Try.f157 by kernel_rfl) (show Try.f157.body = some (Try.f157.body.getD .skip) by kernel_rfl) ((congrFun (congrFun (eq_157 varint_Take frame_reader_fail) x) h).trans e)
/-! frame_reader_spans -/
noncomputable def P.frame_reader_spans_l1 (frame_reader_take : Option Addr → Sl → H → Option ((Unit) × H)) (frame_reader_fail : Option Addr → Int → H → Option ((Unit) × H)) : (((Option Addr) × ((Option Addr) × (Sl × Int))) × H) → Option ((((Option Addr) × ((Option Addr) × (Sl × Int))) × H) ⊕ ((Sl × H) ⊕ (Sl × H))) := fun ((r, (n, (out, k))), h0) =>
  joinO (
    ptrK n fun (a0 : Addr) =>
    bindO (ldI .i64 h0 a0) fun (x0 : Int) =>
    condK (decide ((k < x0))) (
      ptrK r fun (a1 : Addr) =>
      bindO (ldI .i64 h0 (add a1 1)) fun (x1 : Int) =>
      some (Sum.inl ((r, (n, (out, (k, (x1 == 0))))), h0))) (
      some (Sum.inl ((r, (n, (out, (k, false)))), h0)))) fun (((r1, (n1, (out1, (k1, x0)))), h1) : (((Option Addr) × ((Option Addr) × (Sl × (Int × Bool)))) × H)) =>
  condK x0 (
    newO (row 3 [(.int .i64 0)]) h1 fun (b : Nat) (h2 : H) =>
    newO (row 3 [(.int .i64 0)]) h2 fun (b1 : Nat) (h3 : H) =>
    bindO (st1 h3 (⟨b, 0, (some 0)⟩ : Addr) (.int .i64 0)) fun (h4 : H) =>
    bindO (st1 h4 (⟨b1, 0, (some 0)⟩ : Addr) (.int .i64 0)) fun (h5 : H) =>
    newO (row 171 [(.pointer (some (⟨b, 0, (some 0)⟩ : Addr)))]) h5 fun (b2 : Nat) (h6 : H) =>
    bind2 (frame_reader_take r1 (⟨(some (⟨b2, 0, (some 0)⟩ : Addr)), 1, 1⟩ : Sl) h6) fun (_ : Unit) (h7 : H) =>
    joinO (
      condK (decide ((k1 > 0))) (
        joinO (
          joinO (
            bindO (ldI .i64 h7 (⟨b, 0, (some 0)⟩ : Addr)) fun (x1 : Int) =>
            condK (decide ((x1 < 2))) (
              some (Sum.inl ((r1, (n1, (out1, (k1, ((some (⟨b, 0, (some 0)⟩ : Addr)), ((some (⟨b1, 0, (some 0)⟩ : Addr)), true)))))), h7))) (
              bindO (ldI .i64 h7 (⟨b, 0, (some 0)⟩ : Addr)) fun (x2 : Int) =>
              bindO (ixT 2 out1 (IntKind.wrap .i64 (k1 - 1))) fun (a0 : Addr) =>
              bindO (ixAT 2 1 a0 0) fun (a1 : Addr) =>
              bindO (ldI .i64 h7 a1) fun (x3 : Int) =>
              some (Sum.inl ((r1, (n1, (out1, (k1, ((some (⟨b, 0, (some 0)⟩ : Addr)), ((some (⟨b1, 0, (some 0)⟩ : Addr)), (decide ((x2 > x3))))))))), h7)))) fun (((r2, (n2, (out2, (k2, (last, (size, x1)))))), h8) : (((Option Addr) × ((Option Addr) × (Sl × (Int × ((Option Addr) × ((Option Addr) × Bool)))))) × H)) =>
          condK x1 (
            bind2 (frame_reader_fail r2 2 h8) fun (_ : Unit) (h9 : H) =>
            some (Sum.inl ((r2, (n2, (out2, (k2, (last, size))))), h9))) (
            some (Sum.inl ((r2, (n2, (out2, (k2, (last, size))))), h8)))) fun (((r2, (n2, (out2, (k2, (last, size))))), h8) : (((Option Addr) × ((Option Addr) × (Sl × (Int × ((Option Addr) × (Option Addr)))))) × H)) =>
        bindO (ixT 2 out2 (IntKind.wrap .i64 (k2 - 1))) fun (a0 : Addr) =>
        bindO (ixAT 2 1 a0 0) fun (a1 : Addr) =>
        bindO (ldI .i64 h8 a1) fun (x1 : Int) =>
        ptrK last fun (a2 : Addr) =>
        bindO (ldI .i64 h8 a2) fun (x2 : Int) =>
        ptrK last fun (a3 : Addr) =>
        bindO (st1 h8 a3 (.int .i64 (IntKind.wrap .i64 (x1 - x2)))) fun (h9 : H) =>
        some (Sum.inl ((r2, (n2, (out2, (k2, (last, size))))), h9))) (
        some (Sum.inl ((r1, (n1, (out1, (k1, ((some (⟨b, 0, (some 0)⟩ : Addr)), (some (⟨b1, 0, (some 0)⟩ : Addr))))))), h7)))) fun (((r2, (n2, (out2, (k2, (last, size))))), h8) : (((Option Addr) × ((Option Addr) × (Sl × (Int × ((Option Addr) × (Option Addr)))))) × H)) =>
    newO (row 171 [(.pointer size)]) h8 fun (b3 : Nat) (h9 : H) =>
    bind2 (frame_reader_take r2 (⟨(some (⟨b3, 0, (some 0)⟩ : Addr)), 1, 1⟩ : Sl) h9) fun (_ : Unit) (h10 : H) =>
    joinO (
      ptrK size fun (a0 : Addr) =>
      bindO (ldI .i64 h10 a0) fun (x1 : Int) =>
      ptrK last fun (a1 : Addr) =>
      bindO (ldI .i64 h10 a1) fun (x2 : Int) =>
      condK (decide ((x1 > x2))) (
        bind2 (frame_reader_fail r2 2 h10) fun (_ : Unit) (h11 : H) =>
        some (Sum.inl ((r2, (n2, (out2, (k2, (last, size))))), h11))) (
        some (Sum.inl ((r2, (n2, (out2, (k2, (last, size))))), h10)))) fun (((r3, (n3, (out3, (k3, (last1, size1))))), h11) : (((Option Addr) × ((Option Addr) × (Sl × (Int × ((Option Addr) × (Option Addr)))))) × H)) =>
    ptrK last1 fun (a0 : Addr) =>
    bindO (ldI .i64 h11 a0) fun (x1 : Int) =>
    ptrK size1 fun (a1 : Addr) =>
    bindO (ldI .i64 h11 a1) fun (x2 : Int) =>
    ptrK last1 fun (a2 : Addr) =>
    bindO (ldI .i64 h11 a2) fun (x3 : Int) =>
    newO (row 36 [(.int .i64 (IntKind.wrap .i64 (x1 - x2))), (.int .i64 x3)]) h11 fun (b4 : Nat) (h12 : H) =>
    bind2 (appT 36 2 16 h12 out3 (⟨(some (⟨b4, 0, (some 0)⟩ : Addr)), 1, 1⟩ : Sl)) fun (x4 : Sl) (h13 : H) =>
    some (Sum.inl ((r3, (n3, (x4, (IntKind.wrap .i64 (k3 + 1))))), h13))) (
    some (Sum.inr (Sum.inl (out1, h1))))

noncomputable def P.frame_reader_spans (frame_reader_take : Option Addr → Sl → H → Option ((Unit) × H)) (frame_reader_fail : Option Addr → Int → H → Option ((Unit) × H)) (r : Option Addr) (h : H) : Option (Sl × H) :=
  newO (row 3 [(.int .i64 0)]) h fun (b : Nat) (h0 : H) =>
  bindO (st1 h0 (⟨b, 0, (some 0)⟩ : Addr) (.int .i64 0)) fun (h1 : H) =>
  newO (row 171 [(.pointer (some (⟨b, 0, (some 0)⟩ : Addr)))]) h1 fun (b1 : Nat) (h2 : H) =>
  bind2 (frame_reader_take r (⟨(some (⟨b1, 0, (some 0)⟩ : Addr)), 1, 1⟩ : Sl) h2) fun (_ : Unit) (h3 : H) =>
  joinO (
    joinO (
      bindO (ldI .i64 h3 (⟨b, 0, (some 0)⟩ : Addr)) fun (x0 : Int) =>
      condK (decide ((x0 < 1))) (
        some (Sum.inl ((r, ((some (⟨b, 0, (some 0)⟩ : Addr)), true)), h3))) (
        bindO (ldI .i64 h3 (⟨b, 0, (some 0)⟩ : Addr)) fun (x1 : Int) =>
        some (Sum.inl ((r, ((some (⟨b, 0, (some 0)⟩ : Addr)), (decide ((x1 > 8))))), h3)))) fun (((r1, (n, x0)), h4) : (((Option Addr) × ((Option Addr) × Bool)) × H)) =>
    condK x0 (
      bind2 (frame_reader_fail r1 2 h4) fun (_ : Unit) (h5 : H) =>
      some (Sum.inl ((r1, n), h5))) (
      some (Sum.inl ((r1, n), h4)))) fun (((r1, n), h4) : (((Option Addr) × (Option Addr)) × H)) =>
  joinO (
    loopO (P.frame_reader_spans_l1 frame_reader_take frame_reader_fail) ((r1, (n, ((⟨none, 0, 0⟩ : Sl), 0))), h4)) fun ((out, h5) : (Sl × H)) =>
  some (out, h5)
noncomputable abbrev frame_reader_spans_l1 := P.frame_reader_spans_l1 frame_reader_take frame_reader_fail
noncomputable def frame_reader_spans : Option Addr → H → Option ((Sl) × H) := P.frame_reader_spans frame_reader_take frame_reader_fail
noncomputable def ann_158 : Ann := ⟨fun i => bif i.beq 5 then some ⟨[0, 3], [⟨false, [.ptr]⟩, ⟨false, [.ptr]⟩]⟩ else bif i.beq 14 then some ⟨[0, 3, 4, 5, 6, 7], [⟨false, [.ptr]⟩, ⟨false, [.ptr]⟩, ⟨false, [.sl]⟩, ⟨false, [.int .i64]⟩, ⟨false, [.ptr]⟩, ⟨false, [.ptr]⟩]⟩ else bif i.beq 15 then some ⟨[0, 3, 4, 5, 6, 7], [⟨false, [.ptr]⟩, ⟨false, [.ptr]⟩, ⟨false, [.sl]⟩, ⟨false, [.int .i64]⟩, ⟨false, [.ptr]⟩, ⟨false, [.ptr]⟩]⟩ else bif i.beq 18 then some ⟨[0, 3, 4, 5, 6, 7], [⟨false, [.ptr]⟩, ⟨false, [.ptr]⟩, ⟨false, [.sl]⟩, ⟨false, [.int .i64]⟩, ⟨false, [.ptr]⟩, ⟨false, [.ptr]⟩]⟩ else bif i.beq 19 then some ⟨[4], [⟨false, [.sl]⟩]⟩ else none, fun i => bif i.beq 7 then some ⟨[0, 3, 4, 5], [⟨false, [.ptr]⟩, ⟨false, [.ptr]⟩, ⟨false, [.sl]⟩, ⟨false, [.int .i64]⟩]⟩ else none, fun i => bif i.beq 3 then some ⟨[0, 3, 16], [⟨false, [.ptr]⟩, ⟨false, [.ptr]⟩, ⟨false, [.bool]⟩]⟩ else bif i.beq 7 then some ⟨[0, 3, 4, 5, 28], [⟨false, [.ptr]⟩, ⟨false, [.ptr]⟩, ⟨false, [.sl]⟩, ⟨false, [.int .i64]⟩, ⟨false, [.bool]⟩]⟩ else bif i.beq 12 then some ⟨[0, 3, 4, 5, 6, 7, 47], [⟨false, [.ptr]⟩, ⟨false, [.ptr]⟩, ⟨false, [.sl]⟩, ⟨false, [.int .i64]⟩, ⟨false, [.ptr]⟩, ⟨false, [.ptr]⟩, ⟨false, [.bool]⟩]⟩ else none⟩
noncomputable def E_158 : Ent := ⟨158, [⟨false, [.ptr]⟩], [⟨false, [.sl]⟩], fun (x : Option Addr) h => frame_reader_spans x h⟩
theorem eq_158 (frame_reader_take : Option Addr → Sl → H → Option ((Unit) × H)) (frame_reader_fail : Option Addr → Int → H → Option ((Unit) × H)) : (fun (x : PT E_158.ps) (h : H) => runFK Go.Proofs.Ythiccnmplgdheaa.Tab.D (lstK [⟨157, [⟨false, [.ptr]⟩, ⟨false, [.sl]⟩], [], fun (x : Option Addr × Sl) h => frame_reader_take x.1 x.2 h⟩, ⟨161, [⟨false, [.ptr]⟩, ⟨false, [.int .i64]⟩], [], fun (x : Option Addr × Int) h => frame_reader_fail x.1 x.2 h⟩]) ann_158 Try.f158 (Try.f158.body.getD .skip) E_158.ys (encP E_158.ps x) h) = (fun (x : Option Addr) h => P.frame_reader_spans frame_reader_take frame_reader_fail x h) := by kernel_rfl
theorem ok_158 : E_158.ok Go.Proofs.Ythiccnmplgdheaa.Tab.D := fun x h y h' e => runFK_ok (lstK_ok [E_157, E_161] (List.forall_mem_cons.2 ⟨ok_157, List.forall_mem_cons.2 ⟨ok_161, fun E h => nomatch h⟩⟩)) (A := ann_158) (by kernel_rfl) (show Go.Proofs.Ythiccnmplgdheaa.Tab.D.fn.get 158 = some Try.f158 by kernel_rfl) (show Try.f158.body = some (Try.f158.body.getD .skip) by kernel_rfl) ((congrFun (congrFun (eq_158 frame_reader_take frame_reader_fail) x) h).trans e)
/-! frame_reader_flag -/
noncomputable def P.frame_reader_flag (frame_reader_take : Option Addr → Sl → H → Option ((Unit) × H)) (frame_reader_fail : Option Addr → Int → H → Option ((Unit) × H)) (r : Option Addr) (h : H) : Option (Bool × H) :=
  newO (row 3 [(.int .i64 0)]) h fun (b : Nat) (h0 : H) =>
  bindO (st1 h0 (⟨b, 0, (some 0)⟩ : Addr) (.int .i64 0)) fun (h1 : H) =>
  newO (row 171 [(.pointer (some (⟨b, 0, (some 0)⟩ : Addr)))]) h1 fun (b1 : Nat) (h2 : H) =>
  bind2 (frame_reader_take r (⟨(some (⟨b1, 0, (some 0)⟩ : Addr)), 1, 1⟩ : Sl) h2) fun (_ : Unit) (h3 : H) =>
  joinO (
    bindO (ldI .i64 h3 (⟨b, 0, (some 0)⟩ : Addr)) fun (x0 : Int) =>
    condK (decide ((x0 > 1))) (
      bind2 (frame_reader_fail r 2 h3) fun (_ : Unit) (h4 : H) =>
      some (Sum.inl ((some (⟨b, 0, (some 0)⟩ : Addr)), h4))) (
      some (Sum.inl ((some (⟨b, 0, (some 0)⟩ : Addr)), h3)))) fun ((n, h4) : ((Option Addr) × H)) =>
  ptrK n fun (a0 : Addr) =>
  bindO (ldI .i64 h4 a0) fun (x0 : Int) =>
  some ((x0 == 1), h4)
noncomputable def frame_reader_flag : Option Addr → H → Option ((Bool) × H) := P.frame_reader_flag frame_reader_take frame_reader_fail
noncomputable def ann_159 : Ann := ⟨fun i => bif i.beq 5 then some ⟨[3], [⟨false, [.ptr]⟩]⟩ else none, fun _ => none, fun _ => none⟩
noncomputable def E_159 : Ent := ⟨159, [⟨false, [.ptr]⟩], [⟨false, [.bool]⟩], fun (x : Option Addr) h => frame_reader_flag x h⟩
theorem eq_159 (frame_reader_take : Option Addr → Sl → H → Option ((Unit) × H)) (frame_reader_fail : Option Addr → Int → H → Option ((Unit) × H)) : (fun (x : PT E_159.ps) (h : H) => runFK Go.Proofs.Ythiccnmplgdheaa.Tab.D (lstK [⟨157, [⟨false, [.ptr]⟩, ⟨false, [.sl]⟩], [], fun (x : Option Addr × Sl) h => frame_reader_take x.1 x.2 h⟩, ⟨161, [⟨false, [.ptr]⟩, ⟨false, [.int .i64]⟩], [], fun (x : Option Addr × Int) h => frame_reader_fail x.1 x.2 h⟩]) ann_159 Try.f159 (Try.f159.body.getD .skip) E_159.ys (encP E_159.ps x) h) = (fun (x : Option Addr) h => P.frame_reader_flag frame_reader_take frame_reader_fail x h) := by kernel_rfl
theorem ok_159 : E_159.ok Go.Proofs.Ythiccnmplgdheaa.Tab.D := fun x h y h' e => runFK_ok (lstK_ok [E_157, E_161] (List.forall_mem_cons.2 ⟨ok_157, List.forall_mem_cons.2 ⟨ok_161, fun E h => nomatch h⟩⟩)) (A := ann_159) (by kernel_rfl) (show Go.Proofs.Ythiccnmplgdheaa.Tab.D.fn.get 159 = some Try.f159 by kernel_rfl) (show Try.f159.body = some (Try.f159.body.getD .skip) by kernel_rfl) ((congrFun (congrFun (eq_159 frame_reader_take frame_reader_fail) x) h).trans e)
/-! frame_reader_data -/
noncomputable def P.frame_reader_data (frame_reader_take : Option Addr → Sl → H → Option ((Unit) × H)) (frame_reader_fail : Option Addr → Int → H → Option ((Unit) × H)) (slices_Clone_byte : Sl → H → Option ((Sl) × H)) (slices_Clip_byte : Sl → H → Option ((Sl) × H)) (r : Option Addr) (h : H) : Option (Sl × H) :=
  newO (row 3 [(.int .i64 0)]) h fun (b : Nat) (h0 : H) =>
  bindO (st1 h0 (⟨b, 0, (some 0)⟩ : Addr) (.int .i64 0)) fun (h1 : H) =>
  newO (row 171 [(.pointer (some (⟨b, 0, (some 0)⟩ : Addr)))]) h1 fun (b1 : Nat) (h2 : H) =>
  bind2 (frame_reader_take r (⟨(some (⟨b1, 0, (some 0)⟩ : Addr)), 1, 1⟩ : Sl) h2) fun (_ : Unit) (h3 : H) =>
  ptrK r fun (a0 : Addr) =>
  bindO (ldI .i64 h3 (add a0 1)) fun (x0 : Int) =>
  condK (x0 != 0) (
    some ((⟨none, 0, 0⟩ : Sl), h3)) (
    bindO (ldI .i64 h3 (⟨b, 0, (some 0)⟩ : Addr)) fun (x1 : Int) =>
    condK (decide ((x1 > 120))) (
      bind2 (frame_reader_fail r 2 h3) fun (_ : Unit) (h4 : H) =>
      some ((⟨none, 0, 0⟩ : Sl), h4)) (
      bindO (ldI .i64 h3 (⟨b, 0, (some 0)⟩ : Addr)) fun (x2 : Int) =>
      ptrK r fun (a1 : Addr) =>
      bindO (ldL h3 (add a1 0)) fun (x3 : Sl) =>
      condK (decide ((x2 > ((x3.len : Nat) : Int)))) (
        bind2 (frame_reader_fail r 3 h3) fun (_ : Unit) (h5 : H) =>
        some ((⟨none, 0, 0⟩ : Sl), h5)) (
        ptrK r fun (a2 : Addr) =>
        bindO (ldL h3 (add a2 0)) fun (x4 : Sl) =>
        bindO (ldI .i64 h3 (⟨b, 0, (some 0)⟩ : Addr)) fun (x5 : Int) =>
        bindO (slT 1 h3 x4 none (some x5) none) fun (x6 : Sl) =>
        bind2 (slices_Clone_byte x6 h3) fun (x7 : Sl) (h6 : H) =>
        bind2 (slices_Clip_byte x7 h6) fun (x8 : Sl) (h7 : H) =>
        ptrK r fun (a3 : Addr) =>
        bindO (ldL h7 (add a3 0)) fun (x9 : Sl) =>
        bindO (ldI .i64 h7 (⟨b, 0, (some 0)⟩ : Addr)) fun (x10 : Int) =>
        bindO (slT 1 h7 x9 (some x10) none none) fun (x11 : Sl) =>
        ptrK r fun (a4 : Addr) =>
        bindO (st1 h7 (add a4 0) (.slice x11.base x11.len x11.cap)) fun (h8 : H) =>
        some (x8, h8))))
noncomputable def frame_reader_data : Option Addr → H → Option ((Sl) × H) := P.frame_reader_data frame_reader_take frame_reader_fail slices_Clone_byte slices_Clip_byte
noncomputable def ann_160 : Ann := ⟨fun _ => none, fun _ => none, fun _ => none⟩
noncomputable def E_160 : Ent := ⟨160, [⟨false, [.ptr]⟩], [⟨false, [.sl]⟩], fun (x : Option Addr) h => frame_reader_data x h⟩
theorem eq_160 (frame_reader_take : Option Addr → Sl → H → Option ((Unit) × H)) (frame_reader_fail : Option Addr → Int → H → Option ((Unit) × H)) (slices_Clone_byte : Sl → H → Option ((Sl) × H)) (slices_Clip_byte : Sl → H → Option ((Sl) × H)) : (fun (x : PT E_160.ps) (h : H) => runFK Go.Proofs.Ythiccnmplgdheaa.Tab.D (lstK [⟨157, [⟨false, [.ptr]⟩, ⟨false, [.sl]⟩], [], fun (x : Option Addr × Sl) h => frame_reader_take x.1 x.2 h⟩, ⟨161, [⟨false, [.ptr]⟩, ⟨false, [.int .i64]⟩], [], fun (x : Option Addr × Int) h => frame_reader_fail x.1 x.2 h⟩, ⟨98, [⟨false, [.sl]⟩], [⟨false, [.sl]⟩], fun (x : Sl) h => slices_Clone_byte x h⟩, ⟨97, [⟨false, [.sl]⟩], [⟨false, [.sl]⟩], fun (x : Sl) h => slices_Clip_byte x h⟩]) ann_160 Try.f160 (Try.f160.body.getD .skip) E_160.ys (encP E_160.ps x) h) = (fun (x : Option Addr) h => P.frame_reader_data frame_reader_take frame_reader_fail slices_Clone_byte slices_Clip_byte x h) := by kernel_rfl
theorem ok_160 : E_160.ok Go.Proofs.Ythiccnmplgdheaa.Tab.D := fun x h y h' e => runFK_ok (lstK_ok [E_157, E_161, E_98, E_97] (List.forall_mem_cons.2 ⟨ok_157, List.forall_mem_cons.2 ⟨ok_161, List.forall_mem_cons.2 ⟨ok_98, List.forall_mem_cons.2 ⟨ok_97, fun E h => nomatch h⟩⟩⟩⟩)) (A := ann_160) (by kernel_rfl) (show Go.Proofs.Ythiccnmplgdheaa.Tab.D.fn.get 160 = some Try.f160 by kernel_rfl) (show Try.f160.body = some (Try.f160.body.getD .skip) by kernel_rfl) ((congrFun (congrFun (eq_160 frame_reader_take frame_reader_fail slices_Clone_byte slices_Clip_byte) x) h).trans e)
/-! frame_reader_frame -/
noncomputable def P.frame_reader_frame (frame_reader_take : Option Addr → Sl → H → Option ((Unit) × H)) (frame_reader_spans : Option Addr → H → Option ((Sl) × H)) (frame_reader_flag : Option Addr → H → Option ((Bool) × H)) (frame_reader_data : Option Addr → H → Option ((Sl) × H)) (frame_Right : (Int × Int × Int × Int × Int × Int × Bool × Sl × Sl) → H → Option ((Bool) × H)) (frame_reader_fail : Option Addr → Int → H → Option ((Unit) × H)) (r : Option Addr) (h : H) : Option ((Int × Int × Int × Int × Int × Int × Bool × Sl × Sl) × H) :=
  newO (row 33 [(.int .i64 0), (.int .i64 0), (.int .i64 0), (.int .i64 0), (.int .i64 0), (.int .i64 0), (.bool false), (.slice none 0 0), (.slice none 0 0)]) h fun (b : Nat) (h0 : H) =>
  newO (row 33 [(.int .i64 0), (.int .i64 0), (.int .i64 0), (.int .i64 0), (.int .i64 0), (.int .i64 0), (.bool false), (.slice none 0 0), (.slice none 0 0)]) h0 fun (b1 : Nat) (h1 : H) =>
  newO (row 171 [(.pointer (some (add (⟨b1, 0, (some 0)⟩ : Addr) 0)))]) h1 fun (b2 : Nat) (h2 : H) =>
  bind2 (frame_reader_take r (⟨(some (⟨b2, 0, (some 0)⟩ : Addr)), 1, 1⟩ : Sl) h2) fun (_ : Unit) (h3 : H) =>
  joinO (
    bindO (ldI .i64 h3 (add (⟨b1, 0, (some 0)⟩ : Addr) 0)) fun (x0 : Int) =>
    condK (x0 == 2) (
      bind2 (frame_reader_spans r h3) fun (x1 : Sl) (h4 : H) =>
      bindO (st1 h4 (add (⟨b1, 0, (some 0)⟩ : Addr) 8) (.slice x1.base x1.len x1.cap)) fun (h5 : H) =>
      some (Sum.inl ((r, ((some (⟨b, 0, (some 0)⟩ : Addr)), (some (⟨b1, 0, (some 0)⟩ : Addr)))), h5))) (
      condK (x0 == 3) (
        newO (row 171 [(.pointer (some (add (⟨b1, 0, (some 0)⟩ : Addr) 1))), (.pointer (some (add (⟨b1, 0, (some 0)⟩ : Addr) 2)))]) h3 fun (b3 : Nat) (h6 : H) =>
        bind2 (frame_reader_take r (⟨(some (⟨b3, 0, (some 0)⟩ : Addr)), 2, 2⟩ : Sl) h6) fun (_ : Unit) (h7 : H) =>
        bind2 (frame_reader_flag r h7) fun (x2 : Bool) (h8 : H) =>
        bindO (st1 h8 (add (⟨b1, 0, (some 0)⟩ : Addr) 6) (.bool x2)) fun (h9 : H) =>
        bind2 (frame_reader_data r h9) fun (x3 : Sl) (h10 : H) =>
        bindO (st1 h10 (add (⟨b1, 0, (some 0)⟩ : Addr) 7) (.slice x3.base x3.len x3.cap)) fun (h11 : H) =>
        some (Sum.inl ((r, ((some (⟨b, 0, (some 0)⟩ : Addr)), (some (⟨b1, 0, (some 0)⟩ : Addr)))), h11))) (
        condK (x0 == 4) (
          newO (row 171 [(.pointer (some (add (⟨b1, 0, (some 0)⟩ : Addr) 1))), (.pointer (some (add (⟨b1, 0, (some 0)⟩ : Addr) 3))), (.pointer (some (add (⟨b1, 0, (some 0)⟩ : Addr) 2))), (.pointer (some (add (⟨b1, 0, (some 0)⟩ : Addr) 4)))]) h3 fun (b4 : Nat) (h12 : H) =>
          bind2 (frame_reader_take r (⟨(some (⟨b4, 0, (some 0)⟩ : Addr)), 4, 4⟩ : Sl) h12) fun (_ : Unit) (h13 : H) =>
          some (Sum.inl ((r, ((some (⟨b, 0, (some 0)⟩ : Addr)), (some (⟨b1, 0, (some 0)⟩ : Addr)))), h13))) (
          condK (x0 == 5) (
            condK (x0 == 5) (
              newO (row 171 [(.pointer (some (add (⟨b1, 0, (some 0)⟩ : Addr) 1))), (.pointer (some (add (⟨b1, 0, (some 0)⟩ : Addr) 3)))]) h3 fun (b5 : Nat) (h14 : H) =>
              bind2 (frame_reader_take r (⟨(some (⟨b5, 0, (some 0)⟩ : Addr)), 2, 2⟩ : Sl) h14) fun (_ : Unit) (h15 : H) =>
              some (Sum.inl ((r, ((some (⟨b, 0, (some 0)⟩ : Addr)), (some (⟨b1, 0, (some 0)⟩ : Addr)))), h15))) (
              condK (x0 == 6) (
                condK (x0 == 6) (
                  newO (row 171 [(.pointer (some (add (⟨b1, 0, (some 0)⟩ : Addr) 3)))]) h3 fun (b6 : Nat) (h16 : H) =>
                  bind2 (frame_reader_take r (⟨(some (⟨b6, 0, (some 0)⟩ : Addr)), 1, 1⟩ : Sl) h16) fun (_ : Unit) (h17 : H) =>
                  some (Sum.inl ((r, ((some (⟨b, 0, (some 0)⟩ : Addr)), (some (⟨b1, 0, (some 0)⟩ : Addr)))), h17))) (
                  condK (x0 == 8) (
                    newO (row 171 [(.pointer (some (add (⟨b1, 0, (some 0)⟩ : Addr) 3)))]) h3 fun (b7 : Nat) (h18 : H) =>
                    bind2 (frame_reader_take r (⟨(some (⟨b7, 0, (some 0)⟩ : Addr)), 1, 1⟩ : Sl) h18) fun (_ : Unit) (h19 : H) =>
                    bind2 (frame_reader_flag r h19) fun (x4 : Bool) (h20 : H) =>
                    bindO (st1 h20 (add (⟨b1, 0, (some 0)⟩ : Addr) 6) (.bool x4)) fun (h21 : H) =>
                    some (Sum.inl ((r, ((some (⟨b, 0, (some 0)⟩ : Addr)), (some (⟨b1, 0, (some 0)⟩ : Addr)))), h21))) (
                    condK (x0 == 9) (
                      bind2 (frame_reader_data r h3) fun (x5 : Sl) (h22 : H) =>
                      bindO (st1 h22 (add (⟨b1, 0, (some 0)⟩ : Addr) 7) (.slice x5.base x5.len x5.cap)) fun (h23 : H) =>
                      some (Sum.inl ((r, ((some (⟨b, 0, (some 0)⟩ : Addr)), (some (⟨b1, 0, (some 0)⟩ : Addr)))), h23))) (
                      condK (x0 == 10) (
                        condK (x0 == 10) (
                          newO (row 171 [(.pointer (some (add (⟨b1, 0, (some 0)⟩ : Addr) 1)))]) h3 fun (b8 : Nat) (h24 : H) =>
                          bind2 (frame_reader_take r (⟨(some (⟨b8, 0, (some 0)⟩ : Addr)), 1, 1⟩ : Sl) h24) fun (_ : Unit) (h25 : H) =>
                          some (Sum.inl ((r, ((some (⟨b, 0, (some 0)⟩ : Addr)), (some (⟨b1, 0, (some 0)⟩ : Addr)))), h25))) (
                          some (Sum.inl ((r, ((some (⟨b, 0, (some 0)⟩ : Addr)), (some (⟨b1, 0, (some 0)⟩ : Addr)))), h3)))) (
                        condK (x0 == 11) (
                          newO (row 171 [(.pointer (some (add (⟨b1, 0, (some 0)⟩ : Addr) 1)))]) h3 fun (b9 : Nat) (h26 : H) =>
                          bind2 (frame_reader_take r (⟨(some (⟨b9, 0, (some 0)⟩ : Addr)), 1, 1⟩ : Sl) h26) fun (_ : Unit) (h27 : H) =>
                          some (Sum.inl ((r, ((some (⟨b, 0, (some 0)⟩ : Addr)), (some (⟨b1, 0, (some 0)⟩ : Addr)))), h27))) (
                          some (Sum.inl ((r, ((some (⟨b, 0, (some 0)⟩ : Addr)), (some (⟨b1, 0, (some 0)⟩ : Addr)))), h3)))))))) (
                condK (x0 == 12) (
                  newO (row 171 [(.pointer (some (add (⟨b1, 0, (some 0)⟩ : Addr) 3)))]) h3 fun (b10 : Nat) (h28 : H) =>
                  bind2 (frame_reader_take r (⟨(some (⟨b10, 0, (some 0)⟩ : Addr)), 1, 1⟩ : Sl) h28) fun (_ : Unit) (h29 : H) =>
                  some (Sum.inl ((r, ((some (⟨b, 0, (some 0)⟩ : Addr)), (some (⟨b1, 0, (some 0)⟩ : Addr)))), h29))) (
                  condK (x0 == 8) (
                    newO (row 171 [(.pointer (some (add (⟨b1, 0, (some 0)⟩ : Addr) 3)))]) h3 fun (b11 : Nat) (h30 : H) =>
                    bind2 (frame_reader_take r (⟨(some (⟨b11, 0, (some 0)⟩ : Addr)), 1, 1⟩ : Sl) h30) fun (_ : Unit) (h31 : H) =>
                    bind2 (frame_reader_flag r h31) fun (x6 : Bool) (h32 : H) =>
                    bindO (st1 h32 (add (⟨b1, 0, (some 0)⟩ : Addr) 6) (.bool x6)) fun (h33 : H) =>
                    some (Sum.inl ((r, ((some (⟨b, 0, (some 0)⟩ : Addr)), (some (⟨b1, 0, (some 0)⟩ : Addr)))), h33))) (
                    condK (x0 == 9) (
                      bind2 (frame_reader_data r h3) fun (x7 : Sl) (h34 : H) =>
                      bindO (st1 h34 (add (⟨b1, 0, (some 0)⟩ : Addr) 7) (.slice x7.base x7.len x7.cap)) fun (h35 : H) =>
                      some (Sum.inl ((r, ((some (⟨b, 0, (some 0)⟩ : Addr)), (some (⟨b1, 0, (some 0)⟩ : Addr)))), h35))) (
                      condK (x0 == 10) (
                        condK (x0 == 10) (
                          newO (row 171 [(.pointer (some (add (⟨b1, 0, (some 0)⟩ : Addr) 1)))]) h3 fun (b12 : Nat) (h36 : H) =>
                          bind2 (frame_reader_take r (⟨(some (⟨b12, 0, (some 0)⟩ : Addr)), 1, 1⟩ : Sl) h36) fun (_ : Unit) (h37 : H) =>
                          some (Sum.inl ((r, ((some (⟨b, 0, (some 0)⟩ : Addr)), (some (⟨b1, 0, (some 0)⟩ : Addr)))), h37))) (
                          some (Sum.inl ((r, ((some (⟨b, 0, (some 0)⟩ : Addr)), (some (⟨b1, 0, (some 0)⟩ : Addr)))), h3)))) (
                        condK (x0 == 11) (
                          newO (row 171 [(.pointer (some (add (⟨b1, 0, (some 0)⟩ : Addr) 1)))]) h3 fun (b13 : Nat) (h38 : H) =>
                          bind2 (frame_reader_take r (⟨(some (⟨b13, 0, (some 0)⟩ : Addr)), 1, 1⟩ : Sl) h38) fun (_ : Unit) (h39 : H) =>
                          some (Sum.inl ((r, ((some (⟨b, 0, (some 0)⟩ : Addr)), (some (⟨b1, 0, (some 0)⟩ : Addr)))), h39))) (
                          some (Sum.inl ((r, ((some (⟨b, 0, (some 0)⟩ : Addr)), (some (⟨b1, 0, (some 0)⟩ : Addr)))), h3)))))))))) (
            condK (x0 == 7) (
              newO (row 171 [(.pointer (some (add (⟨b1, 0, (some 0)⟩ : Addr) 1))), (.pointer (some (add (⟨b1, 0, (some 0)⟩ : Addr) 3)))]) h3 fun (b14 : Nat) (h40 : H) =>
              bind2 (frame_reader_take r (⟨(some (⟨b14, 0, (some 0)⟩ : Addr)), 2, 2⟩ : Sl) h40) fun (_ : Unit) (h41 : H) =>
              some (Sum.inl ((r, ((some (⟨b, 0, (some 0)⟩ : Addr)), (some (⟨b1, 0, (some 0)⟩ : Addr)))), h41))) (
              condK (x0 == 6) (
                condK (x0 == 6) (
                  newO (row 171 [(.pointer (some (add (⟨b1, 0, (some 0)⟩ : Addr) 3)))]) h3 fun (b15 : Nat) (h42 : H) =>
                  bind2 (frame_reader_take r (⟨(some (⟨b15, 0, (some 0)⟩ : Addr)), 1, 1⟩ : Sl) h42) fun (_ : Unit) (h43 : H) =>
                  some (Sum.inl ((r, ((some (⟨b, 0, (some 0)⟩ : Addr)), (some (⟨b1, 0, (some 0)⟩ : Addr)))), h43))) (
                  condK (x0 == 8) (
                    newO (row 171 [(.pointer (some (add (⟨b1, 0, (some 0)⟩ : Addr) 3)))]) h3 fun (b16 : Nat) (h44 : H) =>
                    bind2 (frame_reader_take r (⟨(some (⟨b16, 0, (some 0)⟩ : Addr)), 1, 1⟩ : Sl) h44) fun (_ : Unit) (h45 : H) =>
                    bind2 (frame_reader_flag r h45) fun (x8 : Bool) (h46 : H) =>
                    bindO (st1 h46 (add (⟨b1, 0, (some 0)⟩ : Addr) 6) (.bool x8)) fun (h47 : H) =>
                    some (Sum.inl ((r, ((some (⟨b, 0, (some 0)⟩ : Addr)), (some (⟨b1, 0, (some 0)⟩ : Addr)))), h47))) (
                    condK (x0 == 9) (
                      bind2 (frame_reader_data r h3) fun (x9 : Sl) (h48 : H) =>
                      bindO (st1 h48 (add (⟨b1, 0, (some 0)⟩ : Addr) 7) (.slice x9.base x9.len x9.cap)) fun (h49 : H) =>
                      some (Sum.inl ((r, ((some (⟨b, 0, (some 0)⟩ : Addr)), (some (⟨b1, 0, (some 0)⟩ : Addr)))), h49))) (
                      condK (x0 == 10) (
                        condK (x0 == 10) (
                          newO (row 171 [(.pointer (some (add (⟨b1, 0, (some 0)⟩ : Addr) 1)))]) h3 fun (b17 : Nat) (h50 : H) =>
                          bind2 (frame_reader_take r (⟨(some (⟨b17, 0, (some 0)⟩ : Addr)), 1, 1⟩ : Sl) h50) fun (_ : Unit) (h51 : H) =>
                          some (Sum.inl ((r, ((some (⟨b, 0, (some 0)⟩ : Addr)), (some (⟨b1, 0, (some 0)⟩ : Addr)))), h51))) (
                          some (Sum.inl ((r, ((some (⟨b, 0, (some 0)⟩ : Addr)), (some (⟨b1, 0, (some 0)⟩ : Addr)))), h3)))) (
                        condK (x0 == 11) (
                          newO (row 171 [(.pointer (some (add (⟨b1, 0, (some 0)⟩ : Addr) 1)))]) h3 fun (b18 : Nat) (h52 : H) =>
                          bind2 (frame_reader_take r (⟨(some (⟨b18, 0, (some 0)⟩ : Addr)), 1, 1⟩ : Sl) h52) fun (_ : Unit) (h53 : H) =>
                          some (Sum.inl ((r, ((some (⟨b, 0, (some 0)⟩ : Addr)), (some (⟨b1, 0, (some 0)⟩ : Addr)))), h53))) (
                          some (Sum.inl ((r, ((some (⟨b, 0, (some 0)⟩ : Addr)), (some (⟨b1, 0, (some 0)⟩ : Addr)))), h3)))))))) (
                condK (x0 == 12) (
                  newO (row 171 [(.pointer (some (add (⟨b1, 0, (some 0)⟩ : Addr) 3)))]) h3 fun (b19 : Nat) (h54 : H) =>
                  bind2 (frame_reader_take r (⟨(some (⟨b19, 0, (some 0)⟩ : Addr)), 1, 1⟩ : Sl) h54) fun (_ : Unit) (h55 : H) =>
                  some (Sum.inl ((r, ((some (⟨b, 0, (some 0)⟩ : Addr)), (some (⟨b1, 0, (some 0)⟩ : Addr)))), h55))) (
                  condK (x0 == 8) (
                    newO (row 171 [(.pointer (some (add (⟨b1, 0, (some 0)⟩ : Addr) 3)))]) h3 fun (b20 : Nat) (h56 : H) =>
                    bind2 (frame_reader_take r (⟨(some (⟨b20, 0, (some 0)⟩ : Addr)), 1, 1⟩ : Sl) h56) fun (_ : Unit) (h57 : H) =>
                    bind2 (frame_reader_flag r h57) fun (x10 : Bool) (h58 : H) =>
                    bindO (st1 h58 (add (⟨b1, 0, (some 0)⟩ : Addr) 6) (.bool x10)) fun (h59 : H) =>
                    some (Sum.inl ((r, ((some (⟨b, 0, (some 0)⟩ : Addr)), (some (⟨b1, 0, (some 0)⟩ : Addr)))), h59))) (
                    condK (x0 == 9) (
                      bind2 (frame_reader_data r h3) fun (x11 : Sl) (h60 : H) =>
                      bindO (st1 h60 (add (⟨b1, 0, (some 0)⟩ : Addr) 7) (.slice x11.base x11.len x11.cap)) fun (h61 : H) =>
                      some (Sum.inl ((r, ((some (⟨b, 0, (some 0)⟩ : Addr)), (some (⟨b1, 0, (some 0)⟩ : Addr)))), h61))) (
                      condK (x0 == 10) (
                        condK (x0 == 10) (
                          newO (row 171 [(.pointer (some (add (⟨b1, 0, (some 0)⟩ : Addr) 1)))]) h3 fun (b21 : Nat) (h62 : H) =>
                          bind2 (frame_reader_take r (⟨(some (⟨b21, 0, (some 0)⟩ : Addr)), 1, 1⟩ : Sl) h62) fun (_ : Unit) (h63 : H) =>
                          some (Sum.inl ((r, ((some (⟨b, 0, (some 0)⟩ : Addr)), (some (⟨b1, 0, (some 0)⟩ : Addr)))), h63))) (
                          some (Sum.inl ((r, ((some (⟨b, 0, (some 0)⟩ : Addr)), (some (⟨b1, 0, (some 0)⟩ : Addr)))), h3)))) (
                        condK (x0 == 11) (
                          newO (row 171 [(.pointer (some (add (⟨b1, 0, (some 0)⟩ : Addr) 1)))]) h3 fun (b22 : Nat) (h64 : H) =>
                          bind2 (frame_reader_take r (⟨(some (⟨b22, 0, (some 0)⟩ : Addr)), 1, 1⟩ : Sl) h64) fun (_ : Unit) (h65 : H) =>
                          some (Sum.inl ((r, ((some (⟨b, 0, (some 0)⟩ : Addr)), (some (⟨b1, 0, (some 0)⟩ : Addr)))), h65))) (
                          some (Sum.inl ((r, ((some (⟨b, 0, (some 0)⟩ : Addr)), (some (⟨b1, 0, (some 0)⟩ : Addr)))), h3)))))))))))))) fun (((r1, (x0, f)), h4) : (((Option Addr) × ((Option Addr) × (Option Addr))) × H)) =>
  joinO (
    ptrK f fun (a0 : Addr) =>
    bindO (ldZ [.int .i64, .int .i64, .int .i64, .int .i64, .int .i64, .int .i64, .bool, .sl, .sl] h4 a0) fun ((x1, x2, x3, x4, x5, x6, x7, x8, x9) : Int × Int × Int × Int × Int × Int × Bool × Sl × Sl) =>
    bind2 (frame_Right (x1, x2, x3, x4, x5, x6, x7, x8, x9) h4) fun (x10 : Bool) (h5 : H) =>
    condK (!x10) (
      bind2 (frame_reader_fail r1 2 h5) fun (_ : Unit) (h6 : H) =>
      some (Sum.inl ((x0, f), h6))) (
      some (Sum.inl ((x0, f), h5)))) fun (((x1, f1), h5) : (((Option Addr) × (Option Addr)) × H)) =>
  ptrK f1 fun (a0 : Addr) =>
  bindO (ldZ [.int .i64, .int .i64, .int .i64, .int .i64, .int .i64, .int .i64, .bool, .sl, .sl] h5 a0) fun ((x2, x3, x4, x5, x6, x7, x8, x9, x10) : Int × Int × Int × Int × Int × Int × Bool × Sl × Sl) =>
  ptrK x1 fun (a1 : Addr) =>
  bindO (stZ [.int .i64, .int .i64, .int .i64, .int .i64, .int .i64, .int .i64, .bool, .sl, .sl] h5 a1 ((x2, x3, x4, x5, x6, x7, x8, x9, x10) : Int × Int × Int × Int × Int × Int × Bool × Sl × Sl)) fun (h6 : H) =>
  ptrK x1 fun (a2 : Addr) =>
  bindO (ldZ [.int .i64, .int .i64, .int .i64, .int .i64, .int .i64, .int .i64, .bool, .sl, .sl] h6 a2) fun ((x11, x12, x13, x14, x15, x16, x17, x18, x19) : Int × Int × Int × Int × Int × Int × Bool × Sl × Sl) =>
  some ((x11, (x12, (x13, (x14, (x15, (x16, (x17, (x18, x19)))))))), h6)
noncomputable def frame_reader_frame : Option Addr → H → Option (((Int × Int × Int × Int × Int × Int × Bool × Sl × Sl)) × H) := P.frame_reader_frame frame_reader_take frame_reader_spans frame_reader_flag frame_reader_data frame_Right frame_reader_fail
noncomputable def ann_112 : Ann := ⟨fun i => bif i.beq 26 then some ⟨[0, 2, 3], [⟨false, [.ptr]⟩, ⟨false, [.ptr]⟩, ⟨false, [.ptr]⟩]⟩ else bif i.beq 28 then some ⟨[2, 3], [⟨false, [.ptr]⟩, ⟨false, [.ptr]⟩]⟩ else none, fun _ => none, fun _ => none⟩
noncomputable def E_112 : Ent := ⟨112, [⟨false, [.ptr]⟩], [⟨true, [.int .i64, .int .i64, .int .i64, .int .i64, .int .i64, .int .i64, .bool, .sl, .sl]⟩], fun (x : Option Addr) h => frame_reader_frame x h⟩
theorem eq_112 (frame_reader_take : Option Addr → Sl → H → Option ((Unit) × H)) (frame_reader_spans : Option Addr → H → Option ((Sl) × H)) (frame_reader_flag : Option Addr → H → Option ((Bool) × H)) (frame_reader_data : Option Addr → H → Option ((Sl) × H)) (frame_Right : (Int × Int × Int × Int × Int × Int × Bool × Sl × Sl) → H → Option ((Bool) × H)) (frame_reader_fail : Option Addr → Int → H → Option ((Unit) × H)) : (fun (x : PT E_112.ps) (h : H) => runFK Go.Proofs.Ythiccnmplgdheaa.Tab.D (lstK [⟨157, [⟨false, [.ptr]⟩, ⟨false, [.sl]⟩], [], fun (x : Option Addr × Sl) h => frame_reader_take x.1 x.2 h⟩, ⟨158, [⟨false, [.ptr]⟩], [⟨false, [.sl]⟩], fun (x : Option Addr) h => frame_reader_spans x h⟩, ⟨159, [⟨false, [.ptr]⟩], [⟨false, [.bool]⟩], fun (x : Option Addr) h => frame_reader_flag x h⟩, ⟨160, [⟨false, [.ptr]⟩], [⟨false, [.sl]⟩], fun (x : Option Addr) h => frame_reader_data x h⟩, ⟨27, [⟨true, [.int .i64, .int .i64, .int .i64, .int .i64, .int .i64, .int .i64, .bool, .sl, .sl]⟩], [⟨false, [.bool]⟩], fun (x : (Int × Int × Int × Int × Int × Int × Bool × Sl × Sl)) h => frame_Right x h⟩, ⟨161, [⟨false, [.ptr]⟩, ⟨false, [.int .i64]⟩], [], fun (x : Option Addr × Int) h => frame_reader_fail x.1 x.2 h⟩]) ann_112 Try.f112 (Try.f112.body.getD .skip) E_112.ys (encP E_112.ps x) h) = (fun (x : Option Addr) h => P.frame_reader_frame frame_reader_take frame_reader_spans frame_reader_flag frame_reader_data frame_Right frame_reader_fail x h) := by kernel_rfl
theorem ok_112 : E_112.ok Go.Proofs.Ythiccnmplgdheaa.Tab.D := fun x h y h' e => runFK_ok (lstK_ok [E_157, E_158, E_159, E_160, E_27, E_161] (List.forall_mem_cons.2 ⟨ok_157, List.forall_mem_cons.2 ⟨ok_158, List.forall_mem_cons.2 ⟨ok_159, List.forall_mem_cons.2 ⟨ok_160, List.forall_mem_cons.2 ⟨ok_27, List.forall_mem_cons.2 ⟨ok_161, fun E h => nomatch h⟩⟩⟩⟩⟩⟩)) (A := ann_112) (by kernel_rfl) (show Go.Proofs.Ythiccnmplgdheaa.Tab.D.fn.get 112 = some Try.f112 by kernel_rfl) (show Try.f112.body = some (Try.f112.body.getD .skip) by kernel_rfl) ((congrFun (congrFun (eq_112 frame_reader_take frame_reader_spans frame_reader_flag frame_reader_data frame_Right frame_reader_fail) x) h).trans e)
/-! slices_Clip_api_Frame_api_Frame -/
noncomputable def slices_Clip_api_Frame_api_Frame (s : Sl) (h : H) : Option (Sl × H) :=
  bindO (slT 9 h s none (some ((s.len : Nat) : Int)) (some ((s.len : Nat) : Int))) fun (x0 : Sl) =>
  some (x0, h)
noncomputable def ann_113 : Ann := ⟨fun _ => none, fun _ => none, fun _ => none⟩
noncomputable def E_113 : Ent := ⟨113, [⟨false, [.sl]⟩], [⟨false, [.sl]⟩], fun (x : Sl) h => slices_Clip_api_Frame_api_Frame x h⟩
theorem eq_113  : (fun (x : PT E_113.ps) (h : H) => runFK Go.Proofs.Ythiccnmplgdheaa.Tab.D (lstK []) ann_113 Try.f113 (Try.f113.body.getD .skip) E_113.ys (encP E_113.ps x) h) = (fun (x : Sl) h => slices_Clip_api_Frame_api_Frame x h) := by kernel_rfl
theorem ok_113 : E_113.ok Go.Proofs.Ythiccnmplgdheaa.Tab.D := fun x h y h' e => runFK_ok (lstK_ok [] (fun E h => nomatch h)) (A := ann_113) (by kernel_rfl) (show Go.Proofs.Ythiccnmplgdheaa.Tab.D.fn.get 113 = some Try.f113 by kernel_rfl) (show Try.f113.body = some (Try.f113.body.getD .skip) by kernel_rfl) ((congrFun (congrFun (eq_113 ) x) h).trans e)
/-! frame_Read -/
noncomputable def P.frame_Read_l1 (frame_reader_frame : Option Addr → H → Option (((Int × Int × Int × Int × Int × Int × Bool × Sl × Sl)) × H)) (slices_Clip_api_Frame_api_Frame : Sl → H → Option ((Sl) × H)) : (((Option Addr) × Sl) × H) → Option ((((Option Addr) × Sl) × H) ⊕ ((Sl × H) ⊕ ((Sl × Int) × H))) := fun ((r, out), h0) =>
  ptrK r fun (a0 : Addr) =>
  bindO (ldL h0 (add a0 0)) fun (x0 : Sl) =>
  condK (decide ((((x0.len : Nat) : Int) > 0))) (
    bind2 (frame_reader_frame r h0) fun ((x1, x2, x3, x4, x5, x6, x7, x8, x9) : Int × Int × Int × Int × Int × Int × Bool × Sl × Sl) (h1 : H) =>
    newO (row 33 [(.int .i64 0), (.int .i64 0), (.int .i64 0), (.int .i64 0), (.int .i64 0), (.int .i64 0), (.bool false), (.slice none 0 0), (.slice none 0 0)]) h1 fun (b : Nat) (h2 : H) =>
    bindO (stZ [.int .i64, .int .i64, .int .i64, .int .i64, .int .i64, .int .i64, .bool, .sl, .sl] h2 (⟨b, 0, (some 0)⟩ : Addr) ((x1, x2, x3, x4, x5, x6, x7, x8, x9) : Int × Int × Int × Int × Int × Int × Bool × Sl × Sl)) fun (h3 : H) =>
    ptrK r fun (a1 : Addr) =>
    bindO (ldI .i64 h3 (add a1 1)) fun (x10 : Int) =>
    condK (x10 != 0) (
      ptrK r fun (a2 : Addr) =>
      bindO (ldI .i64 h3 (add a2 1)) fun (x11 : Int) =>
      some (Sum.inr (Sum.inr (((⟨none, 0, 0⟩ : Sl), x11), h3)))) (
      bindO (ldZ [.int .i64, .int .i64, .int .i64, .int .i64, .int .i64, .int .i64, .bool, .sl, .sl] h3 (⟨b, 0, (some 0)⟩ : Addr)) fun ((x12, x13, x14, x15, x16, x17, x18, x19, x20) : Int × Int × Int × Int × Int × Int × Bool × Sl × Sl) =>
      newO (row 33 [(.int .i64 x12), (.int .i64 x13), (.int .i64 x14), (.int .i64 x15), (.int .i64 x16), (.int .i64 x17), (.bool x18), (.slice x19.base x19.len x19.cap), (.slice x20.base x20.len x20.cap)]) h3 fun (b1 : Nat) (h4 : H) =>
      bind2 (appT 33 9 104 h4 out (⟨(some (⟨b1, 0, (some 0)⟩ : Addr)), 1, 1⟩ : Sl)) fun (x21 : Sl) (h5 : H) =>
      some (Sum.inl ((r, x21), h5)))) (
    some (Sum.inr (Sum.inl (out, h0))))

noncomputable def P.frame_Read (frame_reader_frame : Option Addr → H → Option (((Int × Int × Int × Int × Int × Int × Bool × Sl × Sl)) × H)) (slices_Clip_api_Frame_api_Frame : Sl → H → Option ((Sl) × H)) (b : Sl) (h : H) : Option ((Sl × Int) × H) :=
  newO (row 138 [(.slice b.base b.len b.cap), (.int .i64 0)]) h fun (b1 : Nat) (h0 : H) =>
  joinO (
    loopO (P.frame_Read_l1 frame_reader_frame slices_Clip_api_Frame_api_Frame) (((some (⟨b1, 0, (some 0)⟩ : Addr)), (⟨none, 0, 0⟩ : Sl)), h0)) fun ((out, h1) : (Sl × H)) =>
  bind2 (slices_Clip_api_Frame_api_Frame out h1) fun (x0 : Sl) (h2 : H) =>
  some ((x0, 0), h2)
noncomputable abbrev frame_Read_l1 := P.frame_Read_l1 frame_reader_frame slices_Clip_api_Frame_api_Frame
noncomputable def frame_Read : Sl → H → Option ((Sl × Int) × H) := P.frame_Read frame_reader_frame slices_Clip_api_Frame_api_Frame
noncomputable def ann_56 : Ann := ⟨fun i => bif i.beq 8 then some ⟨[5], [⟨false, [.sl]⟩]⟩ else none, fun i => bif i.beq 3 then some ⟨[4, 5], [⟨false, [.ptr]⟩, ⟨false, [.sl]⟩]⟩ else none, fun _ => none⟩
noncomputable def E_56 : Ent := ⟨56, [⟨false, [.sl]⟩], [⟨false, [.sl]⟩, ⟨false, [.int .i64]⟩], fun (x : Sl) h => frame_Read x h⟩
theorem eq_56 (frame_reader_frame : Option Addr → H → Option (((Int × Int × Int × Int × Int × Int × Bool × Sl × Sl)) × H)) (slices_Clip_api_Frame_api_Frame : Sl → H → Option ((Sl) × H)) : (fun (x : PT E_56.ps) (h : H) => runFK Go.Proofs.Ythiccnmplgdheaa.Tab.D (lstK [⟨112, [⟨false, [.ptr]⟩], [⟨true, [.int .i64, .int .i64, .int .i64, .int .i64, .int .i64, .int .i64, .bool, .sl, .sl]⟩], fun (x : Option Addr) h => frame_reader_frame x h⟩, ⟨113, [⟨false, [.sl]⟩], [⟨false, [.sl]⟩], fun (x : Sl) h => slices_Clip_api_Frame_api_Frame x h⟩]) ann_56 Try.f56 (Try.f56.body.getD .skip) E_56.ys (encP E_56.ps x) h) = (fun (x : Sl) h => P.frame_Read frame_reader_frame slices_Clip_api_Frame_api_Frame x h) := by kernel_rfl
theorem ok_56 : E_56.ok Go.Proofs.Ythiccnmplgdheaa.Tab.D := fun x h y h' e => runFK_ok (lstK_ok [E_112, E_113] (List.forall_mem_cons.2 ⟨ok_112, List.forall_mem_cons.2 ⟨ok_113, fun E h => nomatch h⟩⟩)) (A := ann_56) (by kernel_rfl) (show Go.Proofs.Ythiccnmplgdheaa.Tab.D.fn.get 56 = some Try.f56 by kernel_rfl) (show Try.f56.body = some (Try.f56.body.getD .skip) by kernel_rfl) ((congrFun (congrFun (eq_56 frame_reader_frame slices_Clip_api_Frame_api_Frame) x) h).trans e)
/-! law7_AcksAnswer -/
noncomputable def P.law7_AcksAnswer_l4 (acks_New : H → Option ((Option Addr) × H)) (law7_known : H → Option ((Bool) × H)) (hand_Pick : Int → Int → H → Option ((Int) × H)) (acks_Seen_Note : Option Addr → Int → Bool → H → Option ((Bool) × H)) (acks_Seen_Frame : Option Addr → H → Option ((((Int × Int × Int × Int × Int × Int × Bool × Sl × Sl)) × Bool) × H)) (frame_Lay : Sl → H → Option ((Sl × Int) × H)) (frame_Read : Sl → H → Option ((Sl × Int) × H)) : (((Option Addr) × (Sl × (Int × (Int × (Int × Int))))) × H) → Option ((((Option Addr) × (Sl × (Int × (Int × (Int × Int))))) × H) ⊕ (((Sl × (Int × (Int × Int))) × H) ⊕ (Bool × H))) := fun ((had, (m, (told, (runs, (count, x0))))), h0) =>
  condK (decide ((x0 < 40))) (
    joinO (
      joinO (
        ptrK had fun (a0 : Addr) =>
        bindO (ixAT 40 1 a0 x0) fun (a1 : Addr) =>
        bindO (ldB h0 a1) fun (x1 : Bool) =>
        condK x1 (
          some (Sum.inl ((had, (m, (told, (runs, ((IntKind.wrap .i64 (count + 1)), (x0, x0)))))), h0))) (
          some (Sum.inl ((had, (m, (told, (runs, (count, (x0, x0)))))), h0)))) fun (((had1, (m1, (told1, (runs1, (count1, (k, x1)))))), h1) : (((Option Addr) × (Sl × (Int × (Int × (Int × (Int × Int)))))) × H)) =>
      joinO (
        ptrK had1 fun (a0 : Addr) =>
        bindO (ixAT 40 1 a0 k) fun (a1 : Addr) =>
        bindO (ldB h1 a1) fun (x2 : Bool) =>
        condK x2 (
          condK (k == 0) (
            some (Sum.inl ((had1, (m1, (told1, (runs1, (count1, (x1, true)))))), h1))) (
            ptrK had1 fun (a2 : Addr) =>
            bindO (ixAT 40 1 a2 (IntKind.wrap .i64 (k - 1))) fun (a3 : Addr) =>
            bindO (ldB h1 a3) fun (x3 : Bool) =>
            some (Sum.inl ((had1, (m1, (told1, (runs1, (count1, (x1, (!x3))))))), h1)))) (
          some (Sum.inl ((had1, (m1, (told1, (runs1, (count1, (x1, false)))))), h1)))) fun (((had2, (m2, (told2, (runs2, (count2, (x2, x3)))))), h2) : (((Option Addr) × (Sl × (Int × (Int × (Int × (Int × Bool)))))) × H)) =>
      condK x3 (
        some (Sum.inl ((had2, (m2, (told2, ((IntKind.wrap .i64 (runs2 + 1)), (count2, x2))))), h2))) (
        some (Sum.inl ((had2, (m2, (told2, (runs2, (count2, x2))))), h2)))) fun (((had1, (m1, (told1, (runs1, (count1, x1))))), h1) : (((Option Addr) × (Sl × (Int × (Int × (Int × Int))))) × H)) =>
    some (Sum.inl ((had1, (m1, (told1, (runs1, (count1, (IntKind.wrap .i64 (x1 + 1))))))), h1))) (
    some (Sum.inr (Sum.inl ((m, (told, (runs, count))), h0))))

noncomputable def P.law7_AcksAnswer_l3 (acks_New : H → Option ((Option Addr) × H)) (law7_known : H → Option ((Bool) × H)) (hand_Pick : Int → Int → H → Option ((Int) × H)) (acks_Seen_Note : Option Addr → Int → Bool → H → Option ((Bool) × H)) (acks_Seen_Frame : Option Addr → H → Option ((((Int × Int × Int × Int × Int × Int × Bool × Sl × Sl)) × Bool) × H)) (frame_Lay : Sl → H → Option ((Sl × Int) × H)) (frame_Read : Sl → H → Option ((Sl × Int) × H)) : (((Option Addr) × (Sl × (Int × ((Option Addr) × (Int × (Sl × (Int × Int))))))) × H) → Option ((((Option Addr) × (Sl × (Int × ((Option Addr) × (Int × (Sl × (Int × Int))))))) × H) ⊕ ((((Option Addr) × (Sl × (Int × (Sl × (Int × Int))))) × H) ⊕ ((((Option Addr) × (Sl × (Int × (Sl × (Int × Int))))) × H) ⊕ ((((Option Addr) × (Sl × Int)) × H) ⊕ (Bool × H))))) := fun ((had, (m, (told, (x0, (k, (x1, (x2, x3))))))), h0) =>
  ptrK x0 fun (a0 : Addr) =>
  bindO (ixAT 2 1 a0 1) fun (a1 : Addr) =>
  bindO (ldI .i64 h0 a1) fun (x4 : Int) =>
  condK (decide ((k ≤ x4))) (
    joinO (
      condK (decide ((k < 0))) (
        some (Sum.inl ((had, (m, (told, (x0, (k, (x1, (x2, (x3, true)))))))), h0))) (
        condK (decide ((k ≥ 40))) (
          some (Sum.inl ((had, (m, (told, (x0, (k, (x1, (x2, (x3, true)))))))), h0))) (
          ptrK had fun (a2 : Addr) =>
          bindO (ixAT 40 1 a2 k) fun (a3 : Addr) =>
          bindO (ldB h0 a3) fun (x5 : Bool) =>
          some (Sum.inl ((had, (m, (told, (x0, (k, (x1, (x2, (x3, (!x5))))))))), h0))))) fun (((had1, (m1, (told1, (x5, (k1, (x6, (x7, (x8, x9)))))))), h1) : (((Option Addr) × (Sl × (Int × ((Option Addr) × (Int × (Sl × (Int × (Int × Bool)))))))) × H)) =>
    condK x9 (
      some (Sum.inr (Sum.inr (Sum.inr (Sum.inr (false, h1)))))) (
      some (Sum.inl ((had1, (m1, ((IntKind.wrap .i64 (told1 + 1)), (x5, ((IntKind.wrap .i64 (k1 + 1)), (x6, (x7, x8))))))), h1)))) (
    some (Sum.inr (Sum.inl ((had, (m, (told, (x1, (x2, x3))))), h0))))

noncomputable def P.law7_AcksAnswer_l2 (acks_New : H → Option ((Option Addr) × H)) (law7_known : H → Option ((Bool) × H)) (hand_Pick : Int → Int → H → Option ((Int) × H)) (acks_Seen_Note : Option Addr → Int → Bool → H → Option ((Bool) × H)) (acks_Seen_Frame : Option Addr → H → Option ((((Int × Int × Int × Int × Int × Int × Bool × Sl × Sl)) × Bool) × H)) (frame_Lay : Sl → H → Option ((Sl × Int) × H)) (frame_Read : Sl → H → Option ((Sl × Int) × H)) : (((Option Addr) × (Sl × (Int × (Sl × (Int × Int))))) × H) → Option ((((Option Addr) × (Sl × (Int × (Sl × (Int × Int))))) × H) ⊕ ((((Option Addr) × (Sl × Int)) × H) ⊕ (Bool × H))) := fun ((had, (m, (told, (x0, (x1, x2))))), h0) =>
  condK (decide ((x2 < x1))) (
    joinO (
      bindO (ixT 2 x0 x2) fun (a0 : Addr) =>
      bindO (ldZ [.int .i64, .int .i64] h0 a0) fun ((x3, x4) : Int × Int) =>
      newO (row 36 [(.int .i64 0), (.int .i64 0)]) h0 fun (b : Nat) (h1 : H) =>
      bindO (stZ [.int .i64, .int .i64] h1 (⟨b, 0, (some 0)⟩ : Addr) ((x3, x4) : Int × Int)) fun (h2 : H) =>
      bindO (ixAT 2 1 (⟨b, 0, (some 0)⟩ : Addr) 0) fun (a1 : Addr) =>
      bindO (ldI .i64 h2 a1) fun (x5 : Int) =>
      loopO (P.law7_AcksAnswer_l3 acks_New law7_known hand_Pick acks_Seen_Note acks_Seen_Frame frame_Lay frame_Read) ((had, (m, (told, ((some (⟨b, 0, (some 0)⟩ : Addr)), (x5, (x0, (x1, x2))))))), h2)) fun (((had1, (m1, (told1, (x3, (x4, x5))))), h1) : (((Option Addr) × (Sl × (Int × (Sl × (Int × Int))))) × H)) =>
    some (Sum.inl ((had1, (m1, (told1, (x3, (x4, (IntKind.wrap .i64 (x5 + 1))))))), h1))) (
    some (Sum.inr (Sum.inl ((had, (m, told)), h0))))

noncomputable def P.law7_AcksAnswer_l1 (acks_New : H → Option ((Option Addr) × H)) (law7_known : H → Option ((Bool) × H)) (hand_Pick : Int → Int → H → Option ((Int) × H)) (acks_Seen_Note : Option Addr → Int → Bool → H → Option ((Bool) × H)) (acks_Seen_Frame : Option Addr → H → Option ((((Int × Int × Int × Int × Int × Int × Bool × Sl × Sl)) × Bool) × H)) (frame_Lay : Sl → H → Option ((Sl × Int) × H)) (frame_Read : Sl → H → Option ((Sl × Int) × H)) : ((Sl × ((Option Addr) × ((Option Addr) × (Sl × (Int × Int))))) × H) → Option (((Sl × ((Option Addr) × ((Option Addr) × (Sl × (Int × Int))))) × H) ⊕ (((Sl × ((Option Addr) × (Option Addr))) × H) ⊕ (Bool × H))) := fun ((l, (s, (had, (x0, (x1, x2))))), h0) =>
  condK (decide ((x2 < x1))) (
    bindO (ixT 1 x0 x2) fun (a0 : Addr) =>
    bindO (ldI .i64 h0 a0) fun (x3 : Int) =>
    bind2 (hand_Pick x3 40 h0) fun (x4 : Int) (h1 : H) =>
    bind2 (acks_Seen_Note s x4 true h1) fun (x5 : Bool) (h2 : H) =>
    ptrK had fun (a1 : Addr) =>
    bindO (ixAT 40 1 a1 x4) fun (a2 : Addr) =>
    bindO (st1 h2 a2 (.bool true)) fun (h3 : H) =>
    some (Sum.inl ((l, (s, (had, (x0, (x1, (IntKind.wrap .i64 (x2 + 1))))))), h3))) (
    some (Sum.inr (Sum.inl ((l, (s, had)), h0))))

noncomputable def P.law7_AcksAnswer (acks_New : H → Option ((Option Addr) × H)) (law7_known : H → Option ((Bool) × H)) (hand_Pick : Int → Int → H → Option ((Int) × H)) (acks_Seen_Note : Option Addr → Int → Bool → H → Option ((Bool) × H)) (acks_Seen_Frame : Option Addr → H → Option ((((Int × Int × Int × Int × Int × Int × Bool × Sl × Sl)) × Bool) × H)) (frame_Lay : Sl → H → Option ((Sl × Int) × H)) (frame_Read : Sl → H → Option ((Sl × Int) × H)) (l : Sl) (h : H) : Option (Bool × H) :=
  bind2 (acks_New h) fun (x0 : Option Addr) (h0 : H) =>
  joinO (
    bind2 (law7_known h0) fun (x1 : Bool) (h1 : H) =>
    condK (!x1) (
      some (Sum.inl ((l, (x0, true)), h1))) (
      bindO (eqPT x0 none) fun (x2 : Bool) =>
      some (Sum.inl ((l, (x0, x2)), h1)))) fun (((l1, (s, x1)), h1) : ((Sl × ((Option Addr) × Bool)) × H)) =>
  condK x1 (
    some (false, h1)) (
    newO (row 78 [(.bool false), (.bool false), (.bool false), (.bool false), (.bool false), (.bool false), (.bool false), (.bool false), (.bool false), (.bool false), (.bool false), (.bool false), (.bool false), (.bool false), (.bool false), (.bool false), (.bool false), (.bool false), (.bool false), (.bool false), (.bool false), (.bool false), (.bool false), (.bool false), (.bool false), (.bool false), (.bool false), (.bool false), (.bool false), (.bool false), (.bool false), (.bool false), (.bool false), (.bool false), (.bool false), (.bool false), (.bool false), (.bool false), (.bool false), (.bool false)]) h1 fun (b : Nat) (h2 : H) =>
    joinO (
      loopO (P.law7_AcksAnswer_l1 acks_New law7_known hand_Pick acks_Seen_Note acks_Seen_Frame frame_Lay frame_Read) ((l1, (s, ((some (⟨b, 0, (some 0)⟩ : Addr)), (l1, (((l1.len : Nat) : Int), 0))))), h2)) fun (((l2, (s1, had)), h3) : ((Sl × ((Option Addr) × (Option Addr))) × H)) =>
    bind2 (acks_Seen_Frame s1 h3) fun (((x2, x3, x4, x5, x6, x7, x8, x9, x10), x11) : (Int × Int × Int × Int × Int × Int × Bool × Sl × Sl) × Bool) (h4 : H) =>
    newO (row 33 [(.int .i64 0), (.int .i64 0), (.int .i64 0), (.int .i64 0), (.int .i64 0), (.int .i64 0), (.bool false), (.slice none 0 0), (.slice none 0 0)]) h4 fun (b1 : Nat) (h5 : H) =>
    bindO (stZ [.int .i64, .int .i64, .int .i64, .int .i64, .int .i64, .int .i64, .bool, .sl, .sl] h5 (⟨b1, 0, (some 0)⟩ : Addr) ((x2, x3, x4, x5, x6, x7, x8, x9, x10) : Int × Int × Int × Int × Int × Int × Bool × Sl × Sl)) fun (h6 : H) =>
    condK (!x11) (
      some ((((l2.len : Nat) : Int) == 0), h6)) (
      bindO (ldZ [.int .i64, .int .i64, .int .i64, .int .i64, .int .i64, .int .i64, .bool, .sl, .sl] h6 (⟨b1, 0, (some 0)⟩ : Addr)) fun ((x12, x13, x14, x15, x16, x17, x18, x19, x20) : Int × Int × Int × Int × Int × Int × Bool × Sl × Sl) =>
      newO (row 33 [(.int .i64 x12), (.int .i64 x13), (.int .i64 x14), (.int .i64 x15), (.int .i64 x16), (.int .i64 x17), (.bool x18), (.slice x19.base x19.len x19.cap), (.slice x20.base x20.len x20.cap)]) h6 fun (b2 : Nat) (h7 : H) =>
      bind2 (frame_Lay (⟨(some (⟨b2, 0, (some 0)⟩ : Addr)), 1, 1⟩ : Sl) h7) fun ((x21, x22) : Sl × Int) (h8 : H) =>
      bind2 (frame_Read x21 h8) fun ((x23, x24) : Sl × Int) (h9 : H) =>
      joinO (
        condK (x22 != 0) (
          some (Sum.inl ((had, (x23, true)), h9))) (
          condK (x24 != 0) (
            some (Sum.inl ((had, (x23, true)), h9))) (
            some (Sum.inl ((had, (x23, (((x23.len : Nat) : Int) != 1))), h9))))) fun (((had1, (m, x25)), h10) : (((Option Addr) × (Sl × Bool)) × H)) =>
      condK x25 (
        some (false, h10)) (
        joinO (
          bindO (ixT 9 m 0) fun (a0 : Addr) =>
          bindO (ldL h10 (add a0 8)) fun (x26 : Sl) =>
          loopO (P.law7_AcksAnswer_l2 acks_New law7_known hand_Pick acks_Seen_Note acks_Seen_Frame frame_Lay frame_Read) ((had1, (m, (0, (x26, (((x26.len : Nat) : Int), 0))))), h10)) fun (((had2, (m1, told)), h11) : (((Option Addr) × (Sl × Int)) × H)) =>
        joinO (
          loopO (P.law7_AcksAnswer_l4 acks_New law7_known hand_Pick acks_Seen_Note acks_Seen_Frame frame_Lay frame_Read) ((had2, (m1, (told, (0, (0, 0))))), h11)) fun (((m2, (told1, (runs, count))), h12) : ((Sl × (Int × (Int × Int))) × H)) =>
        condK (decide ((told1 ≤ count))) (
          condK (decide ((runs > 8))) (
            bindO (ixT 9 m2 0) fun (a0 : Addr) =>
            bindO (ldL h12 (add a0 8)) fun (x26 : Sl) =>
            some ((((x26.len : Nat) : Int) == (if (8 < runs) then 8 else runs)), h12)) (
            condK (told1 == count) (
              bindO (ixT 9 m2 0) fun (a1 : Addr) =>
              bindO (ldL h12 (add a1 8)) fun (x27 : Sl) =>
              some ((((x27.len : Nat) : Int) == (if (8 < runs) then 8 else runs)), h12)) (
              some (false, h12)))) (
          some (false, h12)))))
noncomputable abbrev law7_AcksAnswer_l4 := P.law7_AcksAnswer_l4 acks_New law7_known hand_Pick acks_Seen_Note acks_Seen_Frame frame_Lay frame_Read
noncomputable abbrev law7_AcksAnswer_l3 := P.law7_AcksAnswer_l3 acks_New law7_known hand_Pick acks_Seen_Note acks_Seen_Frame frame_Lay frame_Read
noncomputable abbrev law7_AcksAnswer_l2 := P.law7_AcksAnswer_l2 acks_New law7_known hand_Pick acks_Seen_Note acks_Seen_Frame frame_Lay frame_Read
noncomputable abbrev law7_AcksAnswer_l1 := P.law7_AcksAnswer_l1 acks_New law7_known hand_Pick acks_Seen_Note acks_Seen_Frame frame_Lay frame_Read
noncomputable def law7_AcksAnswer : Sl → H → Option ((Bool) × H) := P.law7_AcksAnswer acks_New law7_known hand_Pick acks_Seen_Note acks_Seen_Frame frame_Lay frame_Read
noncomputable def ann_12 : Ann := ⟨fun i => bif i.beq 12 then some ⟨[0, 3, 4], [⟨false, [.sl]⟩, ⟨false, [.ptr]⟩, ⟨false, [.ptr]⟩]⟩ else bif i.beq 29 then some ⟨[4, 12, 14, 77, 78, 79], [⟨false, [.ptr]⟩, ⟨false, [.sl]⟩, ⟨false, [.int .i64]⟩, ⟨false, [.sl]⟩, ⟨false, [.int .i64]⟩, ⟨false, [.int .i64]⟩]⟩ else bif i.beq 30 then some ⟨[4, 12, 14], [⟨false, [.ptr]⟩, ⟨false, [.sl]⟩, ⟨false, [.int .i64]⟩]⟩ else bif i.beq 37 then some ⟨[4, 12, 14, 18, 19, 20, 106], [⟨false, [.ptr]⟩, ⟨false, [.sl]⟩, ⟨false, [.int .i64]⟩, ⟨false, [.int .i64]⟩, ⟨false, [.int .i64]⟩, ⟨false, [.int .i64]⟩, ⟨false, [.int .i64]⟩]⟩ else bif i.beq 39 then some ⟨[4, 12, 14, 18, 19, 106], [⟨false, [.ptr]⟩, ⟨false, [.sl]⟩, ⟨false, [.int .i64]⟩, ⟨false, [.int .i64]⟩, ⟨false, [.int .i64]⟩, ⟨false, [.int .i64]⟩]⟩ else bif i.beq 40 then some ⟨[12, 14, 18, 19], [⟨false, [.sl]⟩, ⟨false, [.int .i64]⟩, ⟨false, [.int .i64]⟩, ⟨false, [.int .i64]⟩]⟩ else none, fun i => bif i.beq 6 then some ⟨[0, 3, 4, 28, 29, 30], [⟨false, [.sl]⟩, ⟨false, [.ptr]⟩, ⟨false, [.ptr]⟩, ⟨false, [.sl]⟩, ⟨false, [.int .i64]⟩, ⟨false, [.int .i64]⟩]⟩ else bif i.beq 21 then some ⟨[4, 12, 14, 77, 78, 79], [⟨false, [.ptr]⟩, ⟨false, [.sl]⟩, ⟨false, [.int .i64]⟩, ⟨false, [.sl]⟩, ⟨false, [.int .i64]⟩, ⟨false, [.int .i64]⟩]⟩ else bif i.beq 24 then some ⟨[4, 12, 14, 16, 17, 77, 78, 79], [⟨false, [.ptr]⟩, ⟨false, [.sl]⟩, ⟨false, [.int .i64]⟩, ⟨false, [.ptr]⟩, ⟨false, [.int .i64]⟩, ⟨false, [.sl]⟩, ⟨false, [.int .i64]⟩, ⟨false, [.int .i64]⟩]⟩ else bif i.beq 33 then some ⟨[4, 12, 14, 18, 19, 106], [⟨false, [.ptr]⟩, ⟨false, [.sl]⟩, ⟨false, [.int .i64]⟩, ⟨false, [.int .i64]⟩, ⟨false, [.int .i64]⟩, ⟨false, [.int .i64]⟩]⟩ else none, fun i => bif i.beq 2 then some ⟨[0, 3, 27], [⟨false, [.sl]⟩, ⟨false, [.ptr]⟩, ⟨false, [.bool]⟩]⟩ else bif i.beq 17 then some ⟨[4, 12, 73], [⟨false, [.ptr]⟩, ⟨false, [.sl]⟩, ⟨false, [.bool]⟩]⟩ else bif i.beq 26 then some ⟨[4, 12, 14, 16, 17, 77, 78, 79, 102], [⟨false, [.ptr]⟩, ⟨false, [.sl]⟩, ⟨false, [.int .i64]⟩, ⟨false, [.ptr]⟩, ⟨false, [.int .i64]⟩, ⟨false, [.sl]⟩, ⟨false, [.int .i64]⟩, ⟨false, [.int .i64]⟩, ⟨false, [.bool]⟩]⟩ else bif i.beq 37 then some ⟨[4, 12, 14, 18, 19, 106, 127], [⟨false, [.ptr]⟩, ⟨false, [.sl]⟩, ⟨false, [.int .i64]⟩, ⟨false, [.int .i64]⟩, ⟨false, [.int .i64]⟩, ⟨false, [.int .i64]⟩, ⟨false, [.bool]⟩]⟩ else none⟩
noncomputable def E_12 : Ent := ⟨12, [⟨false, [.sl]⟩], [⟨false, [.bool]⟩], fun (x : Sl) h => law7_AcksAnswer x h⟩
theorem eq_12 (acks_New : H → Option ((Option Addr) × H)) (law7_known : H → Option ((Bool) × H)) (hand_Pick : Int → Int → H → Option ((Int) × H)) (acks_Seen_Note : Option Addr → Int → Bool → H → Option ((Bool) × H)) (acks_Seen_Frame : Option Addr → H → Option ((((Int × Int × Int × Int × Int × Int × Bool × Sl × Sl)) × Bool) × H)) (frame_Lay : Sl → H → Option ((Sl × Int) × H)) (frame_Read : Sl → H → Option ((Sl × Int) × H)) : (fun (x : PT E_12.ps) (h : H) => runFK Go.Proofs.Ythiccnmplgdheaa.Tab.D (lstK [⟨22, [], [⟨false, [.ptr]⟩], fun (x : Unit) h => acks_New h⟩, ⟨23, [], [⟨false, [.bool]⟩], fun (x : Unit) h => law7_known h⟩, ⟨24, [⟨false, [.int .i64]⟩, ⟨false, [.int .i64]⟩], [⟨false, [.int .i64]⟩], fun (x : Int × Int) h => hand_Pick x.1 x.2 h⟩, ⟨25, [⟨false, [.ptr]⟩, ⟨false, [.int .i64]⟩, ⟨false, [.bool]⟩], [⟨false, [.bool]⟩], fun (x : Option Addr × Int × Bool) h => acks_Seen_Note x.1 x.2.1 x.2.2 h⟩, ⟨26, [⟨false, [.ptr]⟩], [⟨true, [.int .i64, .int .i64, .int .i64, .int .i64, .int .i64, .int .i64, .bool, .sl, .sl]⟩, ⟨false, [.bool]⟩], fun (x : Option Addr) h => acks_Seen_Frame x h⟩, ⟨55, [⟨false, [.sl]⟩], [⟨false, [.sl]⟩, ⟨false, [.int .i64]⟩], fun (x : Sl) h => frame_Lay x h⟩, ⟨56, [⟨false, [.sl]⟩], [⟨false, [.sl]⟩, ⟨false, [.int .i64]⟩], fun (x : Sl) h => frame_Read x h⟩]) ann_12 Try.f12 (Try.f12.body.getD .skip) E_12.ys (encP E_12.ps x) h) = (fun (x : Sl) h => P.law7_AcksAnswer acks_New law7_known hand_Pick acks_Seen_Note acks_Seen_Frame frame_Lay frame_Read x h) := by kernel_rfl
theorem ok_12 : E_12.ok Go.Proofs.Ythiccnmplgdheaa.Tab.D := fun x h y h' e => runFK_ok (lstK_ok [E_22, E_23, E_24, E_25, E_26, E_55, E_56] (List.forall_mem_cons.2 ⟨ok_22, List.forall_mem_cons.2 ⟨ok_23, List.forall_mem_cons.2 ⟨ok_24, List.forall_mem_cons.2 ⟨ok_25, List.forall_mem_cons.2 ⟨ok_26, List.forall_mem_cons.2 ⟨ok_55, List.forall_mem_cons.2 ⟨ok_56, fun E h => nomatch h⟩⟩⟩⟩⟩⟩⟩)) (A := ann_12) (by kernel_rfl) (show Go.Proofs.Ythiccnmplgdheaa.Tab.D.fn.get 12 = some Try.f12 by kernel_rfl) (show Try.f12.body = some (Try.f12.body.getD .skip) by kernel_rfl) ((congrFun (congrFun (eq_12 acks_New law7_known hand_Pick acks_Seen_Note acks_Seen_Frame frame_Lay frame_Read) x) h).trans e)
end Go.Proofs.Ythiccnmplgdheaa.T
