/- The typed texts of the program's functions, printed by a program of this session (wip/KPrint.lean) out of the machine's own definitions; each is the machine's own run, by the kernel's reduction. -/
import Derived.Test.YtejdeibmhlcnbaaAbsF
import Derived.Test.YtejdeibmhlcnbaaTab
import Derived.KernelRfl
set_option linter.unusedVariables false
set_option maxRecDepth 1000000
namespace Go.Proofs.Ytejdeibmhlcnbaa.T
open Go Go.Abs Go.Proofs
/-! hand_Pick -/
noncomputable def hand_Pick (n : Int) (m : Int) (h : H) : Option (Int × H) :=
  bindO (remT .i64 n m) fun (x0 : Int) =>
  joinO (
    condK (decide ((x0 < 0))) (
      some (Sum.inl ((IntKind.wrap .i64 (x0 + m)), h))) (
      some (Sum.inl (x0, h)))) fun ((n1, h0) : (Int × H)) =>
  some (n1, h0)
noncomputable def ann_18 : Ann := ⟨fun i => bif i.beq 4 then some ⟨[0], [⟨false, [.int .i64]⟩]⟩ else none, fun _ => none, fun _ => none⟩
noncomputable def E_18 : Ent := ⟨18, [⟨false, [.int .i64]⟩, ⟨false, [.int .i64]⟩], [⟨false, [.int .i64]⟩], fun (x : Int × Int) h => hand_Pick x.1 x.2 h⟩
theorem eq_18  : (fun (x : PT E_18.ps) (h : H) => runFK Go.Proofs.Ytejdeibmhlcnbaa.Tab.D (lstK []) ann_18 Try.f18 (Try.f18.body.getD .skip) E_18.ys (encP E_18.ps x) h) = (fun (x : Int × Int) h => hand_Pick x.1 x.2 h) := by kernel_rfl
theorem ok_18 : E_18.ok Go.Proofs.Ytejdeibmhlcnbaa.Tab.D := fun x h y h' e => runFK_ok (lstK_ok [] (fun E h => nomatch h)) (A := ann_18) (by kernel_rfl) (show Go.Proofs.Ytejdeibmhlcnbaa.Tab.D.fn.get 18 = some Try.f18 by kernel_rfl) (show Try.f18.body = some (Try.f18.body.getD .skip) by kernel_rfl) ((congrFun (congrFun (eq_18 ) x) h).trans e)
/-! pnum_within -/
noncomputable def pnum_within (n : Int) (low : Int) (high : Int) (h : H) : Option (Int × H) :=
  letO ((if ((if (high < n) then high else n) > low) then (if (high < n) then high else n) else low)) fun (x0 : Int) =>
  some (x0, h)
noncomputable def ann_47 : Ann := ⟨fun _ => none, fun _ => none, fun _ => none⟩
noncomputable def E_47 : Ent := ⟨47, [⟨false, [.int .i64]⟩, ⟨false, [.int .i64]⟩, ⟨false, [.int .i64]⟩], [⟨false, [.int .i64]⟩], fun (x : Int × Int × Int) h => pnum_within x.1 x.2.1 x.2.2 h⟩
theorem eq_47  : (fun (x : PT E_47.ps) (h : H) => runFK Go.Proofs.Ytejdeibmhlcnbaa.Tab.D (lstK []) ann_47 Try.f47 (Try.f47.body.getD .skip) E_47.ys (encP E_47.ps x) h) = (fun (x : Int × Int × Int) h => pnum_within x.1 x.2.1 x.2.2 h) := by kernel_rfl
theorem ok_47 : E_47.ok Go.Proofs.Ytejdeibmhlcnbaa.Tab.D := fun x h y h' e => runFK_ok (lstK_ok [] (fun E h => nomatch h)) (A := ann_47) (by kernel_rfl) (show Go.Proofs.Ytejdeibmhlcnbaa.Tab.D.fn.get 47 = some Try.f47 by kernel_rfl) (show Try.f47.body = some (Try.f47.body.getD .skip) by kernel_rfl) ((congrFun (congrFun (eq_47 ) x) h).trans e)
/-! pnum_span -/
noncomputable def P.pnum_span (pnum_within : Int → Int → Int → H → Option ((Int) × H)) (k : Int) (h : H) : Option (Int × H) :=
  bind2 (pnum_within k 1 4 h) fun (x0 : Int) (h0 : H) =>
  bindO (shlT .i64 1 .i64 (IntKind.wrap .i64 (8 * x0))) fun (x1 : Int) =>
  some (x1, h0)
noncomputable def pnum_span : Int → H → Option ((Int) × H) := P.pnum_span pnum_within
noncomputable def ann_46 : Ann := ⟨fun _ => none, fun _ => none, fun _ => none⟩
noncomputable def E_46 : Ent := ⟨46, [⟨false, [.int .i64]⟩], [⟨false, [.int .i64]⟩], fun (x : Int) h => pnum_span x h⟩
theorem eq_46 (pnum_within : Int → Int → Int → H → Option ((Int) × H)) : (fun (x : PT E_46.ps) (h : H) => runFK Go.Proofs.Ytejdeibmhlcnbaa.Tab.D (lstK [⟨47, [⟨false, [.int .i64]⟩, ⟨false, [.int .i64]⟩, ⟨false, [.int .i64]⟩], [⟨false, [.int .i64]⟩], fun (x : Int × Int × Int) h => pnum_within x.1 x.2.1 x.2.2 h⟩]) ann_46 Try.f46 (Try.f46.body.getD .skip) E_46.ys (encP E_46.ps x) h) = (fun (x : Int) h => P.pnum_span pnum_within x h) := by kernel_rfl
theorem ok_46 : E_46.ok Go.Proofs.Ytejdeibmhlcnbaa.Tab.D := fun x h y h' e => runFK_ok (lstK_ok [E_47] (List.forall_mem_cons.2 ⟨ok_47, fun E h => nomatch h⟩)) (A := ann_46) (by kernel_rfl) (show Go.Proofs.Ytejdeibmhlcnbaa.Tab.D.fn.get 46 = some Try.f46 by kernel_rfl) (show Try.f46.body = some (Try.f46.body.getD .skip) by kernel_rfl) ((congrFun (congrFun (eq_46 pnum_within) x) h).trans e)
/-! pnum_Bytes -/
noncomputable def P.pnum_Bytes_l1 (pnum_span : Int → H → Option ((Int) × H)) : ((Int × (Int × Int)) × H) → Option (((Int × (Int × Int)) × H) ⊕ (Int × H)) := fun ((n, (acked, k)), h0) =>
  condK (decide ((k < 4))) (
    joinO (
      condK (decide ((n ≤ acked))) (
        some (Sum.inl ((n, (acked, (k, true))), h0))) (
        letO ((IntKind.wrap .u64 ((IntKind.wrap .u64 n) - (IntKind.wrap .u64 acked)))) fun (x0 : Int) =>
        bind2 (pnum_span k h0) fun (x1 : Int) (h1 : H) =>
        letO ((decide ((x0 ≤ (IntKind.wrap .u64 (IntKind.wrap .i64 (Int.tdiv x1 2))))))) fun (x2 : Bool) =>
        some (Sum.inl ((n, (acked, (k, x2))), h1)))) fun (((n1, (acked1, (k1, x0))), h1) : ((Int × (Int × (Int × Bool))) × H)) =>
    condK x0 (
      some (Sum.inr (k1, h1))) (
      some (Sum.inl ((n1, (acked1, (IntKind.wrap .i64 (k1 + 1)))), h1)))) (
    some (Sum.inr (4, h0)))

noncomputable def P.pnum_Bytes (pnum_span : Int → H → Option ((Int) × H)) (n : Int) (acked : Int) (h : H) : Option (Int × H) :=
  loopO (P.pnum_Bytes_l1 pnum_span) ((n, (acked, 1)), h)
noncomputable abbrev pnum_Bytes_l1 := P.pnum_Bytes_l1 pnum_span
noncomputable def pnum_Bytes : Int → Int → H → Option ((Int) × H) := P.pnum_Bytes pnum_span
noncomputable def ann_19 : Ann := ⟨fun _ => none, fun i => bif i.beq 2 then some ⟨[0, 1, 5], [⟨false, [.int .i64]⟩, ⟨false, [.int .i64]⟩, ⟨false, [.int .i64]⟩]⟩ else none, fun i => bif i.beq 4 then some ⟨[0, 1, 5, 24], [⟨false, [.int .i64]⟩, ⟨false, [.int .i64]⟩, ⟨false, [.int .i64]⟩, ⟨false, [.bool]⟩]⟩ else none⟩
noncomputable def E_19 : Ent := ⟨19, [⟨false, [.int .i64]⟩, ⟨false, [.int .i64]⟩], [⟨false, [.int .i64]⟩], fun (x : Int × Int) h => pnum_Bytes x.1 x.2 h⟩
theorem eq_19 (pnum_span : Int → H → Option ((Int) × H)) : (fun (x : PT E_19.ps) (h : H) => runFK Go.Proofs.Ytejdeibmhlcnbaa.Tab.D (lstK [⟨46, [⟨false, [.int .i64]⟩], [⟨false, [.int .i64]⟩], fun (x : Int) h => pnum_span x h⟩]) ann_19 Try.f19 (Try.f19.body.getD .skip) E_19.ys (encP E_19.ps x) h) = (fun (x : Int × Int) h => P.pnum_Bytes pnum_span x.1 x.2 h) := by kernel_rfl
theorem ok_19 : E_19.ok Go.Proofs.Ytejdeibmhlcnbaa.Tab.D := fun x h y h' e => runFK_ok (lstK_ok [E_46] (List.forall_mem_cons.2 ⟨ok_46, fun E h => nomatch h⟩)) (A := ann_19) (by kernel_rfl) (show Go.Proofs.Ytejdeibmhlcnbaa.Tab.D.fn.get 19 = some Try.f19 by kernel_rfl) (show Try.f19.body = some (Try.f19.body.getD .skip) by kernel_rfl) ((congrFun (congrFun (eq_19 pnum_span) x) h).trans e)
/-! pnum_rest -/
noncomputable def pnum_rest (n : Int) (by' : Int) (h : H) : Option (Int × H) :=
  bindO (remT .i64 n by') fun (x0 : Int) =>
  joinO (
    condK (decide ((x0 < 0))) (
      some (Sum.inl ((IntKind.wrap .i64 (x0 + by')), h))) (
      some (Sum.inl (x0, h)))) fun ((n1, h0) : (Int × H)) =>
  some (n1, h0)
noncomputable def ann_48 : Ann := ⟨fun i => bif i.beq 4 then some ⟨[0], [⟨false, [.int .i64]⟩]⟩ else none, fun _ => none, fun _ => none⟩
noncomputable def E_48 : Ent := ⟨48, [⟨false, [.int .i64]⟩, ⟨false, [.int .i64]⟩], [⟨false, [.int .i64]⟩], fun (x : Int × Int) h => pnum_rest x.1 x.2 h⟩
theorem eq_48  : (fun (x : PT E_48.ps) (h : H) => runFK Go.Proofs.Ytejdeibmhlcnbaa.Tab.D (lstK []) ann_48 Try.f48 (Try.f48.body.getD .skip) E_48.ys (encP E_48.ps x) h) = (fun (x : Int × Int) h => pnum_rest x.1 x.2 h) := by kernel_rfl
theorem ok_48 : E_48.ok Go.Proofs.Ytejdeibmhlcnbaa.Tab.D := fun x h y h' e => runFK_ok (lstK_ok [] (fun E h => nomatch h)) (A := ann_48) (by kernel_rfl) (show Go.Proofs.Ytejdeibmhlcnbaa.Tab.D.fn.get 48 = some Try.f48 by kernel_rfl) (show Try.f48.body = some (Try.f48.body.getD .skip) by kernel_rfl) ((congrFun (congrFun (eq_48 ) x) h).trans e)
/-! pnum_Cut -/
noncomputable def P.pnum_Cut (pnum_span : Int → H → Option ((Int) × H)) (pnum_rest : Int → Int → H → Option ((Int) × H)) (n : Int) (k : Int) (h : H) : Option (Int × H) :=
  bind2 (pnum_span k h) fun (x0 : Int) (h0 : H) =>
  bind2 (pnum_rest n x0 h0) fun (x1 : Int) (h1 : H) =>
  some (x1, h1)
noncomputable def pnum_Cut : Int → Int → H → Option ((Int) × H) := P.pnum_Cut pnum_span pnum_rest
noncomputable def ann_22 : Ann := ⟨fun _ => none, fun _ => none, fun _ => none⟩
noncomputable def E_22 : Ent := ⟨22, [⟨false, [.int .i64]⟩, ⟨false, [.int .i64]⟩], [⟨false, [.int .i64]⟩], fun (x : Int × Int) h => pnum_Cut x.1 x.2 h⟩
theorem eq_22 (pnum_span : Int → H → Option ((Int) × H)) (pnum_rest : Int → Int → H → Option ((Int) × H)) : (fun (x : PT E_22.ps) (h : H) => runFK Go.Proofs.Ytejdeibmhlcnbaa.Tab.D (lstK [⟨46, [⟨false, [.int .i64]⟩], [⟨false, [.int .i64]⟩], fun (x : Int) h => pnum_span x h⟩, ⟨48, [⟨false, [.int .i64]⟩, ⟨false, [.int .i64]⟩], [⟨false, [.int .i64]⟩], fun (x : Int × Int) h => pnum_rest x.1 x.2 h⟩]) ann_22 Try.f22 (Try.f22.body.getD .skip) E_22.ys (encP E_22.ps x) h) = (fun (x : Int × Int) h => P.pnum_Cut pnum_span pnum_rest x.1 x.2 h) := by kernel_rfl
theorem ok_22 : E_22.ok Go.Proofs.Ytejdeibmhlcnbaa.Tab.D := fun x h y h' e => runFK_ok (lstK_ok [E_46, E_48] (List.forall_mem_cons.2 ⟨ok_46, List.forall_mem_cons.2 ⟨ok_48, fun E h => nomatch h⟩⟩)) (A := ann_22) (by kernel_rfl) (show Go.Proofs.Ytejdeibmhlcnbaa.Tab.D.fn.get 22 = some Try.f22 by kernel_rfl) (show Try.f22.body = some (Try.f22.body.getD .skip) by kernel_rfl) ((congrFun (congrFun (eq_22 pnum_span pnum_rest) x) h).trans e)
/-! pnum_Back -/
noncomputable def P.pnum_Back (pnum_span : Int → H → Option ((Int) × H)) (pnum_within : Int → Int → Int → H → Option ((Int) × H)) (pnum_Cut : Int → Int → H → Option ((Int) × H)) (pnum_rest : Int → Int → H → Option ((Int) × H)) (cut : Int) (k : Int) (next : Int) (h : H) : Option (Int × H) :=
  bind2 (pnum_span k h) fun (x0 : Int) (h0 : H) =>
  bind2 (pnum_within next 0 4611686018427387903 h0) fun (x1 : Int) (h1 : H) =>
  bind2 (pnum_Cut cut k h1) fun (x2 : Int) (h2 : H) =>
  bind2 (pnum_rest x1 x0 h2) fun (x3 : Int) (h3 : H) =>
  bind2 (pnum_rest (IntKind.wrap .i64 (x2 - x3)) x0 h3) fun (x4 : Int) (h4 : H) =>
  joinO (
    letO ((decide (((IntKind.wrap .i64 ((IntKind.wrap .i64 (x1 + x4)) - x0)) < 0)))) fun (x5 : Bool) =>
    condK x5 (
      some (Sum.inr ((IntKind.wrap .i64 (x1 + x4)), h4))) (
      condK (decide (((IntKind.wrap .i64 (x1 + x4)) ≤ 4611686018427387903))) (
        letO ((IntKind.wrap .i64 (x1 - (IntKind.wrap .i64 ((IntKind.wrap .i64 (x1 + x4)) - x0))))) fun (x6 : Int) =>
        letO ((decide (((IntKind.wrap .i64 ((IntKind.wrap .i64 (x1 + x4)) - x1)) ≤ x6)))) fun (x7 : Bool) =>
        condK x7 (
          some (Sum.inr ((IntKind.wrap .i64 (x1 + x4)), h4))) (
          some (Sum.inl ((IntKind.wrap .i64 ((IntKind.wrap .i64 (x1 + x4)) - x0)), h4)))) (
        some (Sum.inl ((IntKind.wrap .i64 ((IntKind.wrap .i64 (x1 + x4)) - x0)), h4))))) fun ((below, h5) : (Int × H)) =>
  some (below, h5)
noncomputable def pnum_Back : Int → Int → Int → H → Option ((Int) × H) := P.pnum_Back pnum_span pnum_within pnum_Cut pnum_rest
noncomputable def ann_21 : Ann := ⟨fun i => bif i.beq 7 then some ⟨[9], [⟨false, [.int .i64]⟩]⟩ else none, fun _ => none, fun _ => none⟩
noncomputable def E_21 : Ent := ⟨21, [⟨false, [.int .i64]⟩, ⟨false, [.int .i64]⟩, ⟨false, [.int .i64]⟩], [⟨false, [.int .i64]⟩], fun (x : Int × Int × Int) h => pnum_Back x.1 x.2.1 x.2.2 h⟩
theorem eq_21 (pnum_span : Int → H → Option ((Int) × H)) (pnum_within : Int → Int → Int → H → Option ((Int) × H)) (pnum_Cut : Int → Int → H → Option ((Int) × H)) (pnum_rest : Int → Int → H → Option ((Int) × H)) : (fun (x : PT E_21.ps) (h : H) => runFK Go.Proofs.Ytejdeibmhlcnbaa.Tab.D (lstK [⟨46, [⟨false, [.int .i64]⟩], [⟨false, [.int .i64]⟩], fun (x : Int) h => pnum_span x h⟩, ⟨47, [⟨false, [.int .i64]⟩, ⟨false, [.int .i64]⟩, ⟨false, [.int .i64]⟩], [⟨false, [.int .i64]⟩], fun (x : Int × Int × Int) h => pnum_within x.1 x.2.1 x.2.2 h⟩, ⟨22, [⟨false, [.int .i64]⟩, ⟨false, [.int .i64]⟩], [⟨false, [.int .i64]⟩], fun (x : Int × Int) h => pnum_Cut x.1 x.2 h⟩, ⟨48, [⟨false, [.int .i64]⟩, ⟨false, [.int .i64]⟩], [⟨false, [.int .i64]⟩], fun (x : Int × Int) h => pnum_rest x.1 x.2 h⟩]) ann_21 Try.f21 (Try.f21.body.getD .skip) E_21.ys (encP E_21.ps x) h) = (fun (x : Int × Int × Int) h => P.pnum_Back pnum_span pnum_within pnum_Cut pnum_rest x.1 x.2.1 x.2.2 h) := by kernel_rfl
theorem ok_21 : E_21.ok Go.Proofs.Ytejdeibmhlcnbaa.Tab.D := fun x h y h' e => runFK_ok (lstK_ok [E_46, E_47, E_22, E_48] (List.forall_mem_cons.2 ⟨ok_46, List.forall_mem_cons.2 ⟨ok_47, List.forall_mem_cons.2 ⟨ok_22, List.forall_mem_cons.2 ⟨ok_48, fun E h => nomatch h⟩⟩⟩⟩)) (A := ann_21) (by kernel_rfl) (show Go.Proofs.Ytejdeibmhlcnbaa.Tab.D.fn.get 21 = some Try.f21 by kernel_rfl) (show Try.f21.body = some (Try.f21.body.getD .skip) by kernel_rfl) ((congrFun (congrFun (eq_21 pnum_span pnum_within pnum_Cut pnum_rest) x) h).trans e)
/-! law2_known -/
noncomputable def P.law2_known (pnum_Back : Int → Int → Int → H → Option ((Int) × H)) (pnum_Bytes : Int → Int → H → Option ((Int) × H))  (h : H) : Option (Bool × H) :=
  bind2 (pnum_Back 39730 2 2821665003 h) fun (x0 : Int) (h0 : H) =>
  condK (x0 == 2821692210) (
    bind2 (pnum_Bytes 0 (-1) h0) fun (x1 : Int) (h1 : H) =>
    some ((x1 == 1), h1)) (
    some (false, h0))
noncomputable def law2_known : H → Option ((Bool) × H) := P.law2_known pnum_Back pnum_Bytes
noncomputable def ann_20 : Ann := ⟨fun _ => none, fun _ => none, fun _ => none⟩
noncomputable def E_20 : Ent := ⟨20, [], [⟨false, [.bool]⟩], fun (x : Unit) h => law2_known h⟩
theorem eq_20 (pnum_Back : Int → Int → Int → H → Option ((Int) × H)) (pnum_Bytes : Int → Int → H → Option ((Int) × H)) : (fun (x : PT E_20.ps) (h : H) => runFK Go.Proofs.Ytejdeibmhlcnbaa.Tab.D (lstK [⟨21, [⟨false, [.int .i64]⟩, ⟨false, [.int .i64]⟩, ⟨false, [.int .i64]⟩], [⟨false, [.int .i64]⟩], fun (x : Int × Int × Int) h => pnum_Back x.1 x.2.1 x.2.2 h⟩, ⟨19, [⟨false, [.int .i64]⟩, ⟨false, [.int .i64]⟩], [⟨false, [.int .i64]⟩], fun (x : Int × Int) h => pnum_Bytes x.1 x.2 h⟩]) ann_20 Try.f20 (Try.f20.body.getD .skip) E_20.ys (encP E_20.ps x) h) = (fun (x : Unit) h => P.law2_known pnum_Back pnum_Bytes  h) := by kernel_rfl
theorem ok_20 : E_20.ok Go.Proofs.Ytejdeibmhlcnbaa.Tab.D := fun x h y h' e => runFK_ok (lstK_ok [E_21, E_19] (List.forall_mem_cons.2 ⟨ok_21, List.forall_mem_cons.2 ⟨ok_19, fun E h => nomatch h⟩⟩)) (A := ann_20) (by kernel_rfl) (show Go.Proofs.Ytejdeibmhlcnbaa.Tab.D.fn.get 20 = some Try.f20 by kernel_rfl) (show Try.f20.body = some (Try.f20.body.getD .skip) by kernel_rfl) ((congrFun (congrFun (eq_20 pnum_Back pnum_Bytes) x) h).trans e)
/-! law2_PnumBack -/
noncomputable def P.law2_PnumBack (hand_Pick : Int → Int → H → Option ((Int) × H)) (pnum_Bytes : Int → Int → H → Option ((Int) × H)) (law2_known : H → Option ((Bool) × H)) (pnum_Cut : Int → Int → H → Option ((Int) × H)) (pnum_Back : Int → Int → Int → H → Option ((Int) × H)) (acked : Int) (far : Int) (next : Int) (more : Int) (how : Int) (h : H) : Option (Bool × H) :=
  bind2 (hand_Pick acked 1099511627776 h) fun (x0 : Int) (h0 : H) =>
  bind2 (hand_Pick how 4 h0) fun (x1 : Int) (h1 : H) =>
  bindO (ixIT .i64 [128, 32768, 8388608, 2147483648] x1) fun (x2 : Int) =>
  bind2 (hand_Pick far x2 h1) fun (x3 : Int) (h2 : H) =>
  letO ((IntKind.wrap .i64 ((IntKind.wrap .i64 (x0 - 1)) + (IntKind.wrap .i64 (1 + x3))))) fun (x4 : Int) =>
  bind2 (pnum_Bytes x4 (IntKind.wrap .i64 (x0 - 1)) h2) fun (x5 : Int) (h3 : H) =>
  bind2 (hand_Pick next (IntKind.wrap .i64 (1 + x3)) h3) fun (x6 : Int) (h4 : H) =>
  letO ((IntKind.wrap .i64 ((IntKind.wrap .i64 ((IntKind.wrap .i64 (x0 - 1)) + 1)) + x6))) fun (x7 : Int) =>
  letO ((if ((if (x5 > 0) then x5 else 0) < 4) then (if (x5 > 0) then x5 else 0) else 4)) fun (x8 : Int) =>
  bind2 (hand_Pick more (IntKind.wrap .i64 (5 - x8)) h4) fun (x9 : Int) (h5 : H) =>
  bind2 (law2_known h5) fun (x10 : Bool) (h6 : H) =>
  condK x10 (
    condK (decide ((x5 ≥ 1))) (
      condK (decide ((x5 ≤ 4))) (
        bind2 (pnum_Cut x4 x5 h6) fun (x11 : Int) (h7 : H) =>
        bind2 (pnum_Back x11 x5 x7 h7) fun (x12 : Int) (h8 : H) =>
        condK (x12 == x4) (
          bind2 (pnum_Cut x4 (IntKind.wrap .i64 (x5 + x9)) h8) fun (x13 : Int) (h9 : H) =>
          bind2 (pnum_Back x13 (IntKind.wrap .i64 (x5 + x9)) x7 h9) fun (x14 : Int) (h10 : H) =>
          condK (x14 == x4) (
            condK (x5 == 1) (
              some (true, h10)) (
              letO ((IntKind.wrap .u64 (IntKind.wrap .i64 (8 * (IntKind.wrap .i64 (x5 - 1)))))) fun (x15 : Int) =>
              bindO (shlT .i64 1 .u64 x15) fun (x16 : Int) =>
              letO ((decide (((IntKind.wrap .i64 (2 * (IntKind.wrap .i64 (1 + x3)))) > x16)))) fun (x17 : Bool) =>
              some (x17, h10))) (
            some (false, h10))) (
          some (false, h8))) (
        some (false, h6))) (
      some (false, h6))) (
    some (false, h6))
noncomputable def law2_PnumBack : Int → Int → Int → Int → Int → H → Option ((Bool) × H) := P.law2_PnumBack hand_Pick pnum_Bytes law2_known pnum_Cut pnum_Back
noncomputable def ann_3 : Ann := ⟨fun _ => none, fun _ => none, fun _ => none⟩
noncomputable def E_3 : Ent := ⟨3, [⟨false, [.int .i64]⟩, ⟨false, [.int .i64]⟩, ⟨false, [.int .i64]⟩, ⟨false, [.int .i64]⟩, ⟨false, [.int .i64]⟩], [⟨false, [.bool]⟩], fun (x : Int × Int × Int × Int × Int) h => law2_PnumBack x.1 x.2.1 x.2.2.1 x.2.2.2.1 x.2.2.2.2 h⟩
theorem eq_3 (hand_Pick : Int → Int → H → Option ((Int) × H)) (pnum_Bytes : Int → Int → H → Option ((Int) × H)) (law2_known : H → Option ((Bool) × H)) (pnum_Cut : Int → Int → H → Option ((Int) × H)) (pnum_Back : Int → Int → Int → H → Option ((Int) × H)) : (fun (x : PT E_3.ps) (h : H) => runFK Go.Proofs.Ytejdeibmhlcnbaa.Tab.D (lstK [⟨18, [⟨false, [.int .i64]⟩, ⟨false, [.int .i64]⟩], [⟨false, [.int .i64]⟩], fun (x : Int × Int) h => hand_Pick x.1 x.2 h⟩, ⟨19, [⟨false, [.int .i64]⟩, ⟨false, [.int .i64]⟩], [⟨false, [.int .i64]⟩], fun (x : Int × Int) h => pnum_Bytes x.1 x.2 h⟩, ⟨20, [], [⟨false, [.bool]⟩], fun (x : Unit) h => law2_known h⟩, ⟨22, [⟨false, [.int .i64]⟩, ⟨false, [.int .i64]⟩], [⟨false, [.int .i64]⟩], fun (x : Int × Int) h => pnum_Cut x.1 x.2 h⟩, ⟨21, [⟨false, [.int .i64]⟩, ⟨false, [.int .i64]⟩, ⟨false, [.int .i64]⟩], [⟨false, [.int .i64]⟩], fun (x : Int × Int × Int) h => pnum_Back x.1 x.2.1 x.2.2 h⟩]) ann_3 Try.f3 (Try.f3.body.getD .skip) E_3.ys (encP E_3.ps x) h) = (fun (x : Int × Int × Int × Int × Int) h => P.law2_PnumBack hand_Pick pnum_Bytes law2_known pnum_Cut pnum_Back x.1 x.2.1 x.2.2.1 x.2.2.2.1 x.2.2.2.2 h) := by kernel_rfl
theorem ok_3 : E_3.ok Go.Proofs.Ytejdeibmhlcnbaa.Tab.D := fun x h y h' e => runFK_ok (lstK_ok [E_18, E_19, E_20, E_22, E_21] (List.forall_mem_cons.2 ⟨ok_18, List.forall_mem_cons.2 ⟨ok_19, List.forall_mem_cons.2 ⟨ok_20, List.forall_mem_cons.2 ⟨ok_22, List.forall_mem_cons.2 ⟨ok_21, fun E h => nomatch h⟩⟩⟩⟩⟩)) (A := ann_3) (by kernel_rfl) (show Go.Proofs.Ytejdeibmhlcnbaa.Tab.D.fn.get 3 = some Try.f3 by kernel_rfl) (show Try.f3.body = some (Try.f3.body.getD .skip) by kernel_rfl) ((congrFun (congrFun (eq_3 hand_Pick pnum_Bytes law2_known pnum_Cut pnum_Back) x) h).trans e)
/-! law2_PnumMonotone -/
noncomputable def P.law2_PnumMonotone (hand_Pick : Int → Int → H → Option ((Int) × H)) (law2_known : H → Option ((Bool) × H)) (pnum_Bytes : Int → Int → H → Option ((Int) × H)) (pnum_Cut : Int → Int → H → Option ((Int) × H)) (a0 : Int) (b : Int) (far : Int) (more : Int) (k : Int) (j : Int) (h : H) : Option (Bool × H) :=
  bind2 (hand_Pick a0 1099511627776 h) fun (x0 : Int) (h0 : H) =>
  bind2 (hand_Pick b 1099511627776 h0) fun (x1 : Int) (h1 : H) =>
  bind2 (hand_Pick far 8589934592 h1) fun (x2 : Int) (h2 : H) =>
  bind2 (hand_Pick more 1048576 h2) fun (x3 : Int) (h3 : H) =>
  bind2 (hand_Pick k 4 h3) fun (x4 : Int) (h4 : H) =>
  bind2 (hand_Pick j 4 h4) fun (x5 : Int) (h5 : H) =>
  bind2 (law2_known h5) fun (x6 : Bool) (h6 : H) =>
  condK x6 (
    bind2 (pnum_Bytes (IntKind.wrap .i64 (x0 + (IntKind.wrap .i64 (1 + x2)))) x0 h6) fun (x7 : Int) (h7 : H) =>
    bind2 (pnum_Bytes (IntKind.wrap .i64 (x1 + (IntKind.wrap .i64 (1 + x2)))) x1 h7) fun (x8 : Int) (h8 : H) =>
    condK (x7 == x8) (
      bind2 (pnum_Bytes (IntKind.wrap .i64 (x0 + (IntKind.wrap .i64 (1 + x2)))) x0 h8) fun (x9 : Int) (h9 : H) =>
      letO ((IntKind.wrap .i64 (x1 + (IntKind.wrap .i64 ((IntKind.wrap .i64 (1 + x2)) + x3))))) fun (x10 : Int) =>
      bind2 (pnum_Bytes x10 x1 h9) fun (x11 : Int) (h10 : H) =>
      condK (decide ((x9 ≤ x11))) (
        bind2 (pnum_Cut x0 (IntKind.wrap .i64 (1 + x4)) h10) fun (x12 : Int) (h11 : H) =>
        bind2 (pnum_Cut x12 (IntKind.wrap .i64 (1 + x5)) h11) fun (x13 : Int) (h12 : H) =>
        letO ((if ((IntKind.wrap .i64 (1 + x5)) < (IntKind.wrap .i64 (1 + x4))) then (IntKind.wrap .i64 (1 + x5)) else (IntKind.wrap .i64 (1 + x4)))) fun (x14 : Int) =>
        bind2 (pnum_Cut x0 x14 h12) fun (x15 : Int) (h13 : H) =>
        condK (x13 == x15) (
          bind2 (pnum_Cut x0 (IntKind.wrap .i64 (1 + x4)) h13) fun (x16 : Int) (h14 : H) =>
          letO ((IntKind.wrap .u64 (IntKind.wrap .i64 (8 * (IntKind.wrap .i64 (1 + x4)))))) fun (x17 : Int) =>
          bindO (shlT .i64 1 .u64 x17) fun (x18 : Int) =>
          some ((decide ((x16 < x18))), h14)) (
          some (false, h13))) (
        some (false, h10))) (
      some (false, h8))) (
    some (false, h6))
noncomputable def law2_PnumMonotone : Int → Int → Int → Int → Int → Int → H → Option ((Bool) × H) := P.law2_PnumMonotone hand_Pick law2_known pnum_Bytes pnum_Cut
noncomputable def ann_4 : Ann := ⟨fun _ => none, fun _ => none, fun _ => none⟩
noncomputable def E_4 : Ent := ⟨4, [⟨false, [.int .i64]⟩, ⟨false, [.int .i64]⟩, ⟨false, [.int .i64]⟩, ⟨false, [.int .i64]⟩, ⟨false, [.int .i64]⟩, ⟨false, [.int .i64]⟩], [⟨false, [.bool]⟩], fun (x : Int × Int × Int × Int × Int × Int) h => law2_PnumMonotone x.1 x.2.1 x.2.2.1 x.2.2.2.1 x.2.2.2.2.1 x.2.2.2.2.2 h⟩
theorem eq_4 (hand_Pick : Int → Int → H → Option ((Int) × H)) (law2_known : H → Option ((Bool) × H)) (pnum_Bytes : Int → Int → H → Option ((Int) × H)) (pnum_Cut : Int → Int → H → Option ((Int) × H)) : (fun (x : PT E_4.ps) (h : H) => runFK Go.Proofs.Ytejdeibmhlcnbaa.Tab.D (lstK [⟨18, [⟨false, [.int .i64]⟩, ⟨false, [.int .i64]⟩], [⟨false, [.int .i64]⟩], fun (x : Int × Int) h => hand_Pick x.1 x.2 h⟩, ⟨20, [], [⟨false, [.bool]⟩], fun (x : Unit) h => law2_known h⟩, ⟨19, [⟨false, [.int .i64]⟩, ⟨false, [.int .i64]⟩], [⟨false, [.int .i64]⟩], fun (x : Int × Int) h => pnum_Bytes x.1 x.2 h⟩, ⟨22, [⟨false, [.int .i64]⟩, ⟨false, [.int .i64]⟩], [⟨false, [.int .i64]⟩], fun (x : Int × Int) h => pnum_Cut x.1 x.2 h⟩]) ann_4 Try.f4 (Try.f4.body.getD .skip) E_4.ys (encP E_4.ps x) h) = (fun (x : Int × Int × Int × Int × Int × Int) h => P.law2_PnumMonotone hand_Pick law2_known pnum_Bytes pnum_Cut x.1 x.2.1 x.2.2.1 x.2.2.2.1 x.2.2.2.2.1 x.2.2.2.2.2 h) := by kernel_rfl
theorem ok_4 : E_4.ok Go.Proofs.Ytejdeibmhlcnbaa.Tab.D := fun x h y h' e => runFK_ok (lstK_ok [E_18, E_20, E_19, E_22] (List.forall_mem_cons.2 ⟨ok_18, List.forall_mem_cons.2 ⟨ok_20, List.forall_mem_cons.2 ⟨ok_19, List.forall_mem_cons.2 ⟨ok_22, fun E h => nomatch h⟩⟩⟩⟩)) (A := ann_4) (by kernel_rfl) (show Go.Proofs.Ytejdeibmhlcnbaa.Tab.D.fn.get 4 = some Try.f4 by kernel_rfl) (show Try.f4.body = some (Try.f4.body.getD .skip) by kernel_rfl) ((congrFun (congrFun (eq_4 hand_Pick law2_known pnum_Bytes pnum_Cut) x) h).trans e)
/-! hand_Num -/
noncomputable def P.hand_Num (hand_Pick : Int → Int → H → Option ((Int) × H)) (n : Int) (h : H) : Option (Int × H) :=
  bind2 (hand_Pick (IntKind.wrap .i64 (Int.tdiv n 9)) 3 h) fun (x0 : Int) (h0 : H) =>
  bind2 (hand_Pick n 9 h0) fun (x1 : Int) (h1 : H) =>
  condK (x1 == 0) (
    some ((IntKind.wrap .i64 (64 + (IntKind.wrap .i64 (x0 - 1)))), h1)) (
    condK (x1 == 1) (
      some ((IntKind.wrap .i64 (16384 + (IntKind.wrap .i64 (x0 - 1)))), h1)) (
      condK (x1 == 2) (
        some ((IntKind.wrap .i64 (1073741824 + (IntKind.wrap .i64 (x0 - 1)))), h1)) (
        condK (x1 == 3) (
          letO ((IntKind.wrap .i64 (4611686018427387903 + (IntKind.wrap .i64 (x0 - 1))))) fun (x2 : Int) =>
          some (x2, h1)) (
          condK (x1 == 4) (
            some (n, h1)) (
            bind2 (hand_Pick (IntKind.wrap .i64 (Int.tdiv n 9)) 500 h1) fun (x3 : Int) (h2 : H) =>
            some (x3, h2))))))
noncomputable def hand_Num : Int → H → Option ((Int) × H) := P.hand_Num hand_Pick
noncomputable def ann_49 : Ann := ⟨fun _ => none, fun _ => none, fun _ => none⟩
noncomputable def E_49 : Ent := ⟨49, [⟨false, [.int .i64]⟩], [⟨false, [.int .i64]⟩], fun (x : Int) h => hand_Num x h⟩
theorem eq_49 (hand_Pick : Int → Int → H → Option ((Int) × H)) : (fun (x : PT E_49.ps) (h : H) => runFK Go.Proofs.Ytejdeibmhlcnbaa.Tab.D (lstK [⟨18, [⟨false, [.int .i64]⟩, ⟨false, [.int .i64]⟩], [⟨false, [.int .i64]⟩], fun (x : Int × Int) h => hand_Pick x.1 x.2 h⟩]) ann_49 Try.f49 (Try.f49.body.getD .skip) E_49.ys (encP E_49.ps x) h) = (fun (x : Int) h => P.hand_Num hand_Pick x h) := by kernel_rfl
theorem ok_49 : E_49.ok Go.Proofs.Ytejdeibmhlcnbaa.Tab.D := fun x h y h' e => runFK_ok (lstK_ok [E_18] (List.forall_mem_cons.2 ⟨ok_18, fun E h => nomatch h⟩)) (A := ann_49) (by kernel_rfl) (show Go.Proofs.Ytejdeibmhlcnbaa.Tab.D.fn.get 49 = some Try.f49 by kernel_rfl) (show Try.f49.body = some (Try.f49.body.getD .skip) by kernel_rfl) ((congrFun (congrFun (eq_49 hand_Pick) x) h).trans e)
/-! ref1_May -/
noncomputable def ref1_May (n : Int) (h : H) : Option (Bool × H) :=
  condK (decide ((n ≥ 0))) (
    some ((decide ((n ≤ 4611686018427387903))), h)) (
    some (false, h))
noncomputable def ann_50 : Ann := ⟨fun _ => none, fun _ => none, fun _ => none⟩
noncomputable def E_50 : Ent := ⟨50, [⟨false, [.int .i64]⟩], [⟨false, [.bool]⟩], fun (x : Int) h => ref1_May x h⟩
theorem eq_50  : (fun (x : PT E_50.ps) (h : H) => runFK Go.Proofs.Ytejdeibmhlcnbaa.Tab.D (lstK []) ann_50 Try.f50 (Try.f50.body.getD .skip) E_50.ys (encP E_50.ps x) h) = (fun (x : Int) h => ref1_May x h) := by kernel_rfl
theorem ok_50 : E_50.ok Go.Proofs.Ytejdeibmhlcnbaa.Tab.D := fun x h y h' e => runFK_ok (lstK_ok [] (fun E h => nomatch h)) (A := ann_50) (by kernel_rfl) (show Go.Proofs.Ytejdeibmhlcnbaa.Tab.D.fn.get 50 = some Try.f50 by kernel_rfl) (show Try.f50.body = some (Try.f50.body.getD .skip) by kernel_rfl) ((congrFun (congrFun (eq_50 ) x) h).trans e)
/-! hand_May -/
noncomputable def P.hand_May (hand_Num : Int → H → Option ((Int) × H)) (ref1_May : Int → H → Option ((Bool) × H)) (hand_Pick : Int → Int → H → Option ((Int) × H)) (n : Int) (h : H) : Option (Int × H) :=
  bind2 (hand_Num n h) fun (x0 : Int) (h0 : H) =>
  bind2 (ref1_May x0 h0) fun (x1 : Bool) (h1 : H) =>
  condK (!x1) (
    bind2 (hand_Pick n 1048576 h1) fun (x2 : Int) (h2 : H) =>
    some (x2, h2)) (
    some (x0, h1))
noncomputable def hand_May : Int → H → Option ((Int) × H) := P.hand_May hand_Num ref1_May hand_Pick
noncomputable def ann_23 : Ann := ⟨fun _ => none, fun _ => none, fun _ => none⟩
noncomputable def E_23 : Ent := ⟨23, [⟨false, [.int .i64]⟩], [⟨false, [.int .i64]⟩], fun (x : Int) h => hand_May x h⟩
theorem eq_23 (hand_Num : Int → H → Option ((Int) × H)) (ref1_May : Int → H → Option ((Bool) × H)) (hand_Pick : Int → Int → H → Option ((Int) × H)) : (fun (x : PT E_23.ps) (h : H) => runFK Go.Proofs.Ytejdeibmhlcnbaa.Tab.D (lstK [⟨49, [⟨false, [.int .i64]⟩], [⟨false, [.int .i64]⟩], fun (x : Int) h => hand_Num x h⟩, ⟨50, [⟨false, [.int .i64]⟩], [⟨false, [.bool]⟩], fun (x : Int) h => ref1_May x h⟩, ⟨18, [⟨false, [.int .i64]⟩, ⟨false, [.int .i64]⟩], [⟨false, [.int .i64]⟩], fun (x : Int × Int) h => hand_Pick x.1 x.2 h⟩]) ann_23 Try.f23 (Try.f23.body.getD .skip) E_23.ys (encP E_23.ps x) h) = (fun (x : Int) h => P.hand_May hand_Num ref1_May hand_Pick x h) := by kernel_rfl
theorem ok_23 : E_23.ok Go.Proofs.Ytejdeibmhlcnbaa.Tab.D := fun x h y h' e => runFK_ok (lstK_ok [E_49, E_50, E_18] (List.forall_mem_cons.2 ⟨ok_49, List.forall_mem_cons.2 ⟨ok_50, List.forall_mem_cons.2 ⟨ok_18, fun E h => nomatch h⟩⟩⟩)) (A := ann_23) (by kernel_rfl) (show Go.Proofs.Ytejdeibmhlcnbaa.Tab.D.fn.get 23 = some Try.f23 by kernel_rfl) (show Try.f23.body = some (Try.f23.body.getD .skip) by kernel_rfl) ((congrFun (congrFun (eq_23 hand_Num ref1_May hand_Pick) x) h).trans e)
/-! law2_PnumStays -/
noncomputable def P.law2_PnumStays (hand_Pick : Int → Int → H → Option ((Int) × H)) (hand_May : Int → H → Option ((Int) × H)) (pnum_Back : Int → Int → Int → H → Option ((Int) × H)) (law2_known : H → Option ((Bool) × H)) (pnum_Cut : Int → Int → H → Option ((Int) × H)) (next : Int) (cut : Int) (k : Int) (h : H) : Option (Bool × H) :=
  bind2 (hand_Pick k 4 h) fun (x0 : Int) (h0 : H) =>
  bind2 (hand_May next h0) fun (x1 : Int) (h1 : H) =>
  bind2 (pnum_Back cut (IntKind.wrap .i64 (1 + x0)) x1 h1) fun (x2 : Int) (h2 : H) =>
  bind2 (law2_known h2) fun (x3 : Bool) (h3 : H) =>
  condK x3 (
    bind2 (pnum_Cut x1 (IntKind.wrap .i64 (1 + x0)) h3) fun (x4 : Int) (h4 : H) =>
    bind2 (pnum_Back x4 (IntKind.wrap .i64 (1 + x0)) x1 h4) fun (x5 : Int) (h5 : H) =>
    condK (x5 == x1) (
      bind2 (pnum_Cut 0 (IntKind.wrap .i64 (1 + x0)) h5) fun (x6 : Int) (h6 : H) =>
      bind2 (pnum_Back x6 (IntKind.wrap .i64 (1 + x0)) 0 h6) fun (x7 : Int) (h7 : H) =>
      condK (x7 == 0) (
        bind2 (pnum_Cut 4611686018427387903 (IntKind.wrap .i64 (1 + x0)) h7) fun (x8 : Int) (h8 : H) =>
        bind2 (pnum_Back x8 (IntKind.wrap .i64 (1 + x0)) 4611686018427387903 h8) fun (x9 : Int) (h9 : H) =>
        condK (x9 == 4611686018427387903) (
          condK (decide ((x2 ≥ 0))) (
            condK (decide ((x2 ≤ 4611686018427387903))) (
              bind2 (pnum_Back cut (IntKind.wrap .i64 (1 + x0)) x2 h9) fun (x10 : Int) (h10 : H) =>
              some ((x10 == x2), h10)) (
              some (false, h9))) (
            some (false, h9))) (
          some (false, h9))) (
        some (false, h7))) (
      some (false, h5))) (
    some (false, h3))
noncomputable def law2_PnumStays : Int → Int → Int → H → Option ((Bool) × H) := P.law2_PnumStays hand_Pick hand_May pnum_Back law2_known pnum_Cut
noncomputable def ann_5 : Ann := ⟨fun _ => none, fun _ => none, fun _ => none⟩
noncomputable def E_5 : Ent := ⟨5, [⟨false, [.int .i64]⟩, ⟨false, [.int .i64]⟩, ⟨false, [.int .i64]⟩], [⟨false, [.bool]⟩], fun (x : Int × Int × Int) h => law2_PnumStays x.1 x.2.1 x.2.2 h⟩
theorem eq_5 (hand_Pick : Int → Int → H → Option ((Int) × H)) (hand_May : Int → H → Option ((Int) × H)) (pnum_Back : Int → Int → Int → H → Option ((Int) × H)) (law2_known : H → Option ((Bool) × H)) (pnum_Cut : Int → Int → H → Option ((Int) × H)) : (fun (x : PT E_5.ps) (h : H) => runFK Go.Proofs.Ytejdeibmhlcnbaa.Tab.D (lstK [⟨18, [⟨false, [.int .i64]⟩, ⟨false, [.int .i64]⟩], [⟨false, [.int .i64]⟩], fun (x : Int × Int) h => hand_Pick x.1 x.2 h⟩, ⟨23, [⟨false, [.int .i64]⟩], [⟨false, [.int .i64]⟩], fun (x : Int) h => hand_May x h⟩, ⟨21, [⟨false, [.int .i64]⟩, ⟨false, [.int .i64]⟩, ⟨false, [.int .i64]⟩], [⟨false, [.int .i64]⟩], fun (x : Int × Int × Int) h => pnum_Back x.1 x.2.1 x.2.2 h⟩, ⟨20, [], [⟨false, [.bool]⟩], fun (x : Unit) h => law2_known h⟩, ⟨22, [⟨false, [.int .i64]⟩, ⟨false, [.int .i64]⟩], [⟨false, [.int .i64]⟩], fun (x : Int × Int) h => pnum_Cut x.1 x.2 h⟩]) ann_5 Try.f5 (Try.f5.body.getD .skip) E_5.ys (encP E_5.ps x) h) = (fun (x : Int × Int × Int) h => P.law2_PnumStays hand_Pick hand_May pnum_Back law2_known pnum_Cut x.1 x.2.1 x.2.2 h) := by kernel_rfl
theorem ok_5 : E_5.ok Go.Proofs.Ytejdeibmhlcnbaa.Tab.D := fun x h y h' e => runFK_ok (lstK_ok [E_18, E_23, E_21, E_20, E_22] (List.forall_mem_cons.2 ⟨ok_18, List.forall_mem_cons.2 ⟨ok_23, List.forall_mem_cons.2 ⟨ok_21, List.forall_mem_cons.2 ⟨ok_20, List.forall_mem_cons.2 ⟨ok_22, fun E h => nomatch h⟩⟩⟩⟩⟩)) (A := ann_5) (by kernel_rfl) (show Go.Proofs.Ytejdeibmhlcnbaa.Tab.D.fn.get 5 = some Try.f5 by kernel_rfl) (show Try.f5.body = some (Try.f5.body.getD .skip) by kernel_rfl) ((congrFun (congrFun (eq_5 hand_Pick hand_May pnum_Back law2_known pnum_Cut) x) h).trans e)
/-! math_bits_Len32 -/
noncomputable def math_bits_Len32 (x0 : Int) (h : H) : Option (Int × H) :=
  joinO (
    condK (decide ((x0 ≥ 65536))) (
      some (Sum.inl (((Int.fdiv x0 65536), 16), h))) (
      some (Sum.inl ((x0, 0), h)))) fun (((x1, n), h0) : ((Int × Int) × H)) =>
  joinO (
    condK (decide ((x1 ≥ 256))) (
      some (Sum.inl (((Int.fdiv x1 256), (IntKind.wrap .i64 (n + 8))), h0))) (
      some (Sum.inl ((x1, n), h0)))) fun (((x2, n1), h1) : ((Int × Int) × H)) =>
  bindO (ixST (⟨#[0, 1, 2, 2, 3, 3, 3, 3, 4, 4, 4, 4, 4, 4, 4, 4, 5, 5, 5, 5, 5, 5, 5, 5, 5, 5, 5, 5, 5, 5, 5, 5, 6, 6, 6, 6, 6, 6, 6, 6, 6, 6, 6, 6, 6, 6, 6, 6, 6, 6, 6, 6, 6, 6, 6, 6, 6, 6, 6, 6, 6, 6, 6, 6, 7, 7, 7, 7, 7, 7, 7, 7, 7, 7, 7, 7, 7, 7, 7, 7, 7, 7, 7, 7, 7, 7, 7, 7, 7, 7, 7, 7, 7, 7, 7, 7, 7, 7, 7, 7, 7, 7, 7, 7, 7, 7, 7, 7, 7, 7, 7, 7, 7, 7, 7, 7, 7, 7, 7, 7, 7, 7, 7, 7, 7, 7, 7, 7, 8, 8, 8, 8, 8, 8, 8, 8, 8, 8, 8, 8, 8, 8, 8, 8, 8, 8, 8, 8, 8, 8, 8, 8, 8, 8, 8, 8, 8, 8, 8, 8, 8, 8, 8, 8, 8, 8, 8, 8, 8, 8, 8, 8, 8, 8, 8, 8, 8, 8, 8, 8, 8, 8, 8, 8, 8, 8, 8, 8, 8, 8, 8, 8, 8, 8, 8, 8, 8, 8, 8, 8, 8, 8, 8, 8, 8, 8, 8, 8, 8, 8, 8, 8, 8, 8, 8, 8, 8, 8, 8, 8, 8, 8, 8, 8, 8, 8, 8, 8, 8, 8, 8, 8, 8, 8, 8, 8, 8, 8, 8, 8, 8, 8, 8, 8, 8, 8, 8, 8, 8, 8, 8, 8, 8, 8, 8, 8]⟩ : ByteArray) (IntKind.wrap .u8 x2)) fun (x3 : Int) =>
  some ((IntKind.wrap .i64 (n1 + (IntKind.wrap .i64 x3))), h1)
noncomputable def ann_64 : Ann := ⟨fun i => bif i.beq 4 then some ⟨[0, 2], [⟨false, [.int .u32]⟩, ⟨false, [.int .i64]⟩]⟩ else bif i.beq 7 then some ⟨[0, 2], [⟨false, [.int .u32]⟩, ⟨false, [.int .i64]⟩]⟩ else none, fun _ => none, fun _ => none⟩
noncomputable def E_64 : Ent := ⟨64, [⟨false, [.int .u32]⟩], [⟨false, [.int .i64]⟩], fun (x : Int) h => math_bits_Len32 x h⟩
theorem eq_64  : (fun (x : PT E_64.ps) (h : H) => runFK Go.Proofs.Ytejdeibmhlcnbaa.Tab.D (lstK []) ann_64 Try.f64 (Try.f64.body.getD .skip) E_64.ys (encP E_64.ps x) h) = (fun (x : Int) h => math_bits_Len32 x h) := by kernel_rfl
theorem ok_64 : E_64.ok Go.Proofs.Ytejdeibmhlcnbaa.Tab.D := fun x h y h' e => runFK_ok (lstK_ok [] (fun E h => nomatch h)) (A := ann_64) (by kernel_rfl) (show Go.Proofs.Ytejdeibmhlcnbaa.Tab.D.fn.get 64 = some Try.f64 by kernel_rfl) (show Try.f64.body = some (Try.f64.body.getD .skip) by kernel_rfl) ((congrFun (congrFun (eq_64 ) x) h).trans e)
/-! math_bits_Len64 -/
noncomputable def math_bits_Len64 (x0 : Int) (h : H) : Option (Int × H) :=
  joinO (
    condK (decide ((x0 ≥ 4294967296))) (
      some (Sum.inl (((Int.fdiv x0 4294967296), 32), h))) (
      some (Sum.inl ((x0, 0), h)))) fun (((x1, n), h0) : ((Int × Int) × H)) =>
  joinO (
    condK (decide ((x1 ≥ 65536))) (
      some (Sum.inl (((Int.fdiv x1 65536), (IntKind.wrap .i64 (n + 16))), h0))) (
      some (Sum.inl ((x1, n), h0)))) fun (((x2, n1), h1) : ((Int × Int) × H)) =>
  joinO (
    condK (decide ((x2 ≥ 256))) (
      some (Sum.inl (((Int.fdiv x2 256), (IntKind.wrap .i64 (n1 + 8))), h1))) (
      some (Sum.inl ((x2, n1), h1)))) fun (((x3, n2), h2) : ((Int × Int) × H)) =>
  bindO (ixST (⟨#[0, 1, 2, 2, 3, 3, 3, 3, 4, 4, 4, 4, 4, 4, 4, 4, 5, 5, 5, 5, 5, 5, 5, 5, 5, 5, 5, 5, 5, 5, 5, 5, 6, 6, 6, 6, 6, 6, 6, 6, 6, 6, 6, 6, 6, 6, 6, 6, 6, 6, 6, 6, 6, 6, 6, 6, 6, 6, 6, 6, 6, 6, 6, 6, 7, 7, 7, 7, 7, 7, 7, 7, 7, 7, 7, 7, 7, 7, 7, 7, 7, 7, 7, 7, 7, 7, 7, 7, 7, 7, 7, 7, 7, 7, 7, 7, 7, 7, 7, 7, 7, 7, 7, 7, 7, 7, 7, 7, 7, 7, 7, 7, 7, 7, 7, 7, 7, 7, 7, 7, 7, 7, 7, 7, 7, 7, 7, 7, 8, 8, 8, 8, 8, 8, 8, 8, 8, 8, 8, 8, 8, 8, 8, 8, 8, 8, 8, 8, 8, 8, 8, 8, 8, 8, 8, 8, 8, 8, 8, 8, 8, 8, 8, 8, 8, 8, 8, 8, 8, 8, 8, 8, 8, 8, 8, 8, 8, 8, 8, 8, 8, 8, 8, 8, 8, 8, 8, 8, 8, 8, 8, 8, 8, 8, 8, 8, 8, 8, 8, 8, 8, 8, 8, 8, 8, 8, 8, 8, 8, 8, 8, 8, 8, 8, 8, 8, 8, 8, 8, 8, 8, 8, 8, 8, 8, 8, 8, 8, 8, 8, 8, 8, 8, 8, 8, 8, 8, 8, 8, 8, 8, 8, 8, 8, 8, 8, 8, 8, 8, 8, 8, 8, 8, 8, 8, 8]⟩ : ByteArray) (IntKind.wrap .u8 x3)) fun (x4 : Int) =>
  some ((IntKind.wrap .i64 (n2 + (IntKind.wrap .i64 x4))), h2)
noncomputable def ann_65 : Ann := ⟨fun i => bif i.beq 4 then some ⟨[0, 2], [⟨false, [.int .u64]⟩, ⟨false, [.int .i64]⟩]⟩ else bif i.beq 7 then some ⟨[0, 2], [⟨false, [.int .u64]⟩, ⟨false, [.int .i64]⟩]⟩ else bif i.beq 10 then some ⟨[0, 2], [⟨false, [.int .u64]⟩, ⟨false, [.int .i64]⟩]⟩ else none, fun _ => none, fun _ => none⟩
noncomputable def E_65 : Ent := ⟨65, [⟨false, [.int .u64]⟩], [⟨false, [.int .i64]⟩], fun (x : Int) h => math_bits_Len64 x h⟩
theorem eq_65  : (fun (x : PT E_65.ps) (h : H) => runFK Go.Proofs.Ytejdeibmhlcnbaa.Tab.D (lstK []) ann_65 Try.f65 (Try.f65.body.getD .skip) E_65.ys (encP E_65.ps x) h) = (fun (x : Int) h => math_bits_Len64 x h) := by kernel_rfl
theorem ok_65 : E_65.ok Go.Proofs.Ytejdeibmhlcnbaa.Tab.D := fun x h y h' e => runFK_ok (lstK_ok [] (fun E h => nomatch h)) (A := ann_65) (by kernel_rfl) (show Go.Proofs.Ytejdeibmhlcnbaa.Tab.D.fn.get 65 = some Try.f65 by kernel_rfl) (show Try.f65.body = some (Try.f65.body.getD .skip) by kernel_rfl) ((congrFun (congrFun (eq_65 ) x) h).trans e)
/-! math_bits_Len -/
noncomputable def P.math_bits_Len (math_bits_Len32 : Int → H → Option ((Int) × H)) (math_bits_Len64 : Int → H → Option ((Int) × H)) (x0 : Int) (h : H) : Option (Int × H) :=
  bind2 (math_bits_Len64 x0 h) fun (x1 : Int) (h0 : H) =>
  some (x1, h0)
noncomputable def math_bits_Len : Int → H → Option ((Int) × H) := P.math_bits_Len math_bits_Len32 math_bits_Len64
noncomputable def ann_62 : Ann := ⟨fun _ => none, fun _ => none, fun _ => none⟩
noncomputable def E_62 : Ent := ⟨62, [⟨false, [.int .u64]⟩], [⟨false, [.int .i64]⟩], fun (x : Int) h => math_bits_Len x h⟩
theorem eq_62 (math_bits_Len32 : Int → H → Option ((Int) × H)) (math_bits_Len64 : Int → H → Option ((Int) × H)) : (fun (x : PT E_62.ps) (h : H) => runFK Go.Proofs.Ytejdeibmhlcnbaa.Tab.D (lstK [⟨64, [⟨false, [.int .u32]⟩], [⟨false, [.int .i64]⟩], fun (x : Int) h => math_bits_Len32 x h⟩, ⟨65, [⟨false, [.int .u64]⟩], [⟨false, [.int .i64]⟩], fun (x : Int) h => math_bits_Len64 x h⟩]) ann_62 Try.f62 (Try.f62.body.getD .skip) E_62.ys (encP E_62.ps x) h) = (fun (x : Int) h => P.math_bits_Len math_bits_Len32 math_bits_Len64 x h) := by kernel_rfl
theorem ok_62 : E_62.ok Go.Proofs.Ytejdeibmhlcnbaa.Tab.D := fun x h y h' e => runFK_ok (lstK_ok [E_64, E_65] (List.forall_mem_cons.2 ⟨ok_64, List.forall_mem_cons.2 ⟨ok_65, fun E h => nomatch h⟩⟩)) (A := ann_62) (by kernel_rfl) (show Go.Proofs.Ytejdeibmhlcnbaa.Tab.D.fn.get 62 = some Try.f62 by kernel_rfl) (show Try.f62.body = some (Try.f62.body.getD .skip) by kernel_rfl) ((congrFun (congrFun (eq_62 math_bits_Len32 math_bits_Len64) x) h).trans e)
/-! varint_kind -/
noncomputable def P.varint_kind_l1 (math_bits_Len : Int → H → Option ((Int) × H)) : ((Int × Int) × H) → Option (((Int × Int) × H) ⊕ (Int × H)) := fun ((n, x0), h0) =>
  condK (decide ((x0 < 3))) (
    bind2 (math_bits_Len (IntKind.wrap .u64 n) h0) fun (x1 : Int) (h1 : H) =>
    bindO (shlT .i64 8 .i64 x0) fun (x2 : Int) =>
    condK (decide ((x1 ≤ (IntKind.wrap .i64 (x2 - 2))))) (
      some (Sum.inr (x0, h1))) (
      some (Sum.inl ((n, (IntKind.wrap .i64 (x0 + 1))), h1)))) (
    some (Sum.inr (3, h0)))

noncomputable def P.varint_kind (math_bits_Len : Int → H → Option ((Int) × H)) (n : Int) (h : H) : Option (Int × H) :=
  joinO (
    condK (decide ((n < 0))) (
      some (Sum.inl ((n, true), h))) (
      some (Sum.inl ((n, (decide ((n > 4611686018427387903)))), h)))) fun (((n1, x0), h0) : ((Int × Bool) × H)) =>
  condK x0 (
    some ((-1), h0)) (
    loopO (P.varint_kind_l1 math_bits_Len) ((n1, 0), h0))
noncomputable abbrev varint_kind_l1 := P.varint_kind_l1 math_bits_Len
noncomputable def varint_kind : Int → H → Option ((Int) × H) := P.varint_kind math_bits_Len
noncomputable def ann_51 : Ann := ⟨fun _ => none, fun i => bif i.beq 4 then some ⟨[0, 10], [⟨false, [.int .i64]⟩, ⟨false, [.int .i64]⟩]⟩ else none, fun i => bif i.beq 1 then some ⟨[0, 9], [⟨false, [.int .i64]⟩, ⟨false, [.bool]⟩]⟩ else none⟩
noncomputable def E_51 : Ent := ⟨51, [⟨false, [.int .i64]⟩], [⟨false, [.int .i64]⟩], fun (x : Int) h => varint_kind x h⟩
theorem eq_51 (math_bits_Len : Int → H → Option ((Int) × H)) : (fun (x : PT E_51.ps) (h : H) => runFK Go.Proofs.Ytejdeibmhlcnbaa.Tab.D (lstK [⟨62, [⟨false, [.int .u64]⟩], [⟨false, [.int .i64]⟩], fun (x : Int) h => math_bits_Len x h⟩]) ann_51 Try.f51 (Try.f51.body.getD .skip) E_51.ys (encP E_51.ps x) h) = (fun (x : Int) h => P.varint_kind math_bits_Len x h) := by kernel_rfl
theorem ok_51 : E_51.ok Go.Proofs.Ytejdeibmhlcnbaa.Tab.D := fun x h y h' e => runFK_ok (lstK_ok [E_62] (List.forall_mem_cons.2 ⟨ok_62, fun E h => nomatch h⟩)) (A := ann_51) (by kernel_rfl) (show Go.Proofs.Ytejdeibmhlcnbaa.Tab.D.fn.get 51 = some Try.f51 by kernel_rfl) (show Try.f51.body = some (Try.f51.body.getD .skip) by kernel_rfl) ((congrFun (congrFun (eq_51 math_bits_Len) x) h).trans e)
/-! varint_Size -/
noncomputable def P.varint_Size_l1 (varint_kind : Int → H → Option ((Int) × H)) : ((Int × (Sl × (Int × Int))) × H) → Option (((Int × (Sl × (Int × Int))) × H) ⊕ ((Int × H) ⊕ (Int × H))) := fun ((sum, (x0, (x1, x2))), h0) =>
  condK (decide ((x2 < x1))) (
    bindO (ixT 1 x0 x2) fun (a0 : Addr) =>
    bindO (ldI .i64 h0 a0) fun (x3 : Int) =>
    bind2 (varint_kind x3 h0) fun (x4 : Int) (h1 : H) =>
    condK (decide ((x4 < 0))) (
      some (Sum.inr (Sum.inr ((-1), h1)))) (
      bindO (shlT .i64 1 .i64 x4) fun (x5 : Int) =>
      some (Sum.inl (((IntKind.wrap .i64 (sum + x5)), (x0, (x1, (IntKind.wrap .i64 (x2 + 1))))), h1)))) (
    some (Sum.inr (Sum.inl (sum, h0))))

noncomputable def P.varint_Size (varint_kind : Int → H → Option ((Int) × H)) (n : Sl) (h : H) : Option (Int × H) :=
  joinO (
    loopO (P.varint_Size_l1 varint_kind) ((0, (n, (((n.len : Nat) : Int), 0))), h)) fun ((sum, h0) : (Int × H)) =>
  some (sum, h0)
noncomputable abbrev varint_Size_l1 := P.varint_Size_l1 varint_kind
noncomputable def varint_Size : Sl → H → Option ((Int) × H) := P.varint_Size varint_kind
noncomputable def ann_24 : Ann := ⟨fun i => bif i.beq 10 then some ⟨[3], [⟨false, [.int .i64]⟩]⟩ else none, fun i => bif i.beq 3 then some ⟨[3, 7, 8, 9], [⟨false, [.int .i64]⟩, ⟨false, [.sl]⟩, ⟨false, [.int .i64]⟩, ⟨false, [.int .i64]⟩]⟩ else none, fun _ => none⟩
noncomputable def E_24 : Ent := ⟨24, [⟨false, [.sl]⟩], [⟨false, [.int .i64]⟩], fun (x : Sl) h => varint_Size x h⟩
theorem eq_24 (varint_kind : Int → H → Option ((Int) × H)) : (fun (x : PT E_24.ps) (h : H) => runFK Go.Proofs.Ytejdeibmhlcnbaa.Tab.D (lstK [⟨51, [⟨false, [.int .i64]⟩], [⟨false, [.int .i64]⟩], fun (x : Int) h => varint_kind x h⟩]) ann_24 Try.f24 (Try.f24.body.getD .skip) E_24.ys (encP E_24.ps x) h) = (fun (x : Sl) h => P.varint_Size varint_kind x h) := by kernel_rfl
theorem ok_24 : E_24.ok Go.Proofs.Ytejdeibmhlcnbaa.Tab.D := fun x h y h' e => runFK_ok (lstK_ok [E_51] (List.forall_mem_cons.2 ⟨ok_51, fun E h => nomatch h⟩)) (A := ann_24) (by kernel_rfl) (show Go.Proofs.Ytejdeibmhlcnbaa.Tab.D.fn.get 24 = some Try.f24 by kernel_rfl) (show Try.f24.body = some (Try.f24.body.getD .skip) by kernel_rfl) ((congrFun (congrFun (eq_24 varint_kind) x) h).trans e)
/-! slices_Clone_byte -/
noncomputable def slices_Clone_byte (s : Sl) (h : H) : Option (Sl × H) :=
  bindO (eqLT s (⟨none, 0, 0⟩ : Sl)) fun (x0 : Bool) =>
  condK x0 (
    some ((⟨none, 0, 0⟩ : Sl), h)) (
    newO (row 5 []) h fun (b : Nat) (h0 : H) =>
    bind2 (appT 5 1 1 h0 (⟨(some (⟨b, 0, (some 0)⟩ : Addr)), 0, 0⟩ : Sl) s) fun (x1 : Sl) (h1 : H) =>
    some (x1, h1))
noncomputable def ann_52 : Ann := ⟨fun _ => none, fun _ => none, fun _ => none⟩
noncomputable def E_52 : Ent := ⟨52, [⟨false, [.sl]⟩], [⟨false, [.sl]⟩], fun (x : Sl) h => slices_Clone_byte x h⟩
theorem eq_52  : (fun (x : PT E_52.ps) (h : H) => runFK Go.Proofs.Ytejdeibmhlcnbaa.Tab.D (lstK []) ann_52 Try.f52 (Try.f52.body.getD .skip) E_52.ys (encP E_52.ps x) h) = (fun (x : Sl) h => slices_Clone_byte x h) := by kernel_rfl
theorem ok_52 : E_52.ok Go.Proofs.Ytejdeibmhlcnbaa.Tab.D := fun x h y h' e => runFK_ok (lstK_ok [] (fun E h => nomatch h)) (A := ann_52) (by kernel_rfl) (show Go.Proofs.Ytejdeibmhlcnbaa.Tab.D.fn.get 52 = some Try.f52 by kernel_rfl) (show Try.f52.body = some (Try.f52.body.getD .skip) by kernel_rfl) ((congrFun (congrFun (eq_52 ) x) h).trans e)
/-! slices_Clip_byte -/
noncomputable def slices_Clip_byte (s : Sl) (h : H) : Option (Sl × H) :=
  bindO (slT 1 h s none (some ((s.len : Nat) : Int)) (some ((s.len : Nat) : Int))) fun (x0 : Sl) =>
  some (x0, h)
noncomputable def ann_53 : Ann := ⟨fun _ => none, fun _ => none, fun _ => none⟩
noncomputable def E_53 : Ent := ⟨53, [⟨false, [.sl]⟩], [⟨false, [.sl]⟩], fun (x : Sl) h => slices_Clip_byte x h⟩
theorem eq_53  : (fun (x : PT E_53.ps) (h : H) => runFK Go.Proofs.Ytejdeibmhlcnbaa.Tab.D (lstK []) ann_53 Try.f53 (Try.f53.body.getD .skip) E_53.ys (encP E_53.ps x) h) = (fun (x : Sl) h => slices_Clip_byte x h) := by kernel_rfl
theorem ok_53 : E_53.ok Go.Proofs.Ytejdeibmhlcnbaa.Tab.D := fun x h y h' e => runFK_ok (lstK_ok [] (fun E h => nomatch h)) (A := ann_53) (by kernel_rfl) (show Go.Proofs.Ytejdeibmhlcnbaa.Tab.D.fn.get 53 = some Try.f53 by kernel_rfl) (show Try.f53.body = some (Try.f53.body.getD .skip) by kernel_rfl) ((congrFun (congrFun (eq_53 ) x) h).trans e)
/-! varint_Put -/
noncomputable def P.varint_Put_l2 (slices_Clone_byte : Sl → H → Option ((Sl) × H)) (varint_kind : Int → H → Option ((Int) × H)) (slices_Clip_byte : Sl → H → Option ((Sl) × H)) : ((Sl × (Int × (Int × (Int × (Int × (Sl × (Int × Int))))))) × H) → Option (((Sl × (Int × (Int × (Int × (Int × (Sl × (Int × Int))))))) × H) ⊕ (((Sl × (Int × (Int × (Sl × (Int × Int))))) × H) ⊕ (((Sl × (Sl × (Int × Int))) × H) ⊕ (((Sl × (Sl × (Int × Int))) × H) ⊕ ((Sl × H) ⊕ (Sl × H)))))) := fun ((out, (x0, (k, (first, (at', (x1, (x2, x3))))))), h0) =>
  condK (decide ((at' ≥ 0))) (
    bindO (shrT .i64 x0 .i64 at') fun (x4 : Int) =>
    newO (row 5 [(.int .u8 (IntKind.wrap .u8 x4))]) h0 fun (b : Nat) (h1 : H) =>
    bind2 (appT 5 1 1 h1 out (⟨(some (⟨b, 0, (some 0)⟩ : Addr)), 1, 1⟩ : Sl)) fun (x5 : Sl) (h2 : H) =>
    some (Sum.inl ((x5, (x0, (k, (first, ((IntKind.wrap .i64 (at' - 8)), (x1, (x2, x3))))))), h2))) (
    some (Sum.inr (Sum.inl ((out, (k, (first, (x1, (x2, x3))))), h0))))

noncomputable def P.varint_Put_l1 (slices_Clone_byte : Sl → H → Option ((Sl) × H)) (varint_kind : Int → H → Option ((Int) × H)) (slices_Clip_byte : Sl → H → Option ((Sl) × H)) : ((Sl × (Sl × (Int × Int))) × H) → Option (((Sl × (Sl × (Int × Int))) × H) ⊕ ((Sl × H) ⊕ (Sl × H))) := fun ((out, (x0, (x1, x2))), h0) =>
  condK (decide ((x2 < x1))) (
    joinO (
      bindO (ixT 1 x0 x2) fun (a0 : Addr) =>
      bindO (ldI .i64 h0 a0) fun (x3 : Int) =>
      bind2 (varint_kind x3 h0) fun (x4 : Int) (h1 : H) =>
      condK (decide ((x4 < 0))) (
        some (Sum.inr (Sum.inr (Sum.inr ((⟨none, 0, 0⟩ : Sl), h1))))) (
        joinO (
          bindO (shlT .i64 8 .i64 x4) fun (x5 : Int) =>
          loopO (P.varint_Put_l2 slices_Clone_byte varint_kind slices_Clip_byte) ((out, (x3, (x4, (((out.len : Nat) : Int), ((IntKind.wrap .i64 (x5 - 8)), (x0, (x1, x2))))))), h1)) fun (((out1, (k, (first, (x5, (x6, x7))))), h2) : ((Sl × (Int × (Int × (Sl × (Int × Int))))) × H)) =>
        bindO (ixT 1 out1 first) fun (a1 : Addr) =>
        bindO (ldI .u8 h2 a1) fun (x8 : Int) =>
        letO ((IntKind.wrap .u8 (((BitVec.toNat ((BitVec.ofInt 8 x8) ||| (BitVec.ofInt 8 (IntKind.wrap .u8 (IntKind.wrap .i64 (k * 64)))))) : Nat) : Int))) fun (x9 : Int) =>
        bindO (ixT 1 out1 first) fun (a2 : Addr) =>
        bindO (st1 h2 a2 (.int .u8 x9)) fun (h3 : H) =>
        some (Sum.inl ((out1, (x5, (x6, x7))), h3)))) fun (((out1, (x3, (x4, x5))), h1) : ((Sl × (Sl × (Int × Int))) × H)) =>
    some (Sum.inl ((out1, (x3, (x4, (IntKind.wrap .i64 (x5 + 1))))), h1))) (
    some (Sum.inr (Sum.inl (out, h0))))

noncomputable def P.varint_Put (slices_Clone_byte : Sl → H → Option ((Sl) × H)) (varint_kind : Int → H → Option ((Int) × H)) (slices_Clip_byte : Sl → H → Option ((Sl) × H)) (b : Sl) (n : Sl) (h : H) : Option (Sl × H) :=
  bind2 (slices_Clone_byte b h) fun (x0 : Sl) (h0 : H) =>
  joinO (
    loopO (P.varint_Put_l1 slices_Clone_byte varint_kind slices_Clip_byte) ((x0, (n, (((n.len : Nat) : Int), 0))), h0)) fun ((out, h1) : (Sl × H)) =>
  bind2 (slices_Clip_byte out h1) fun (x1 : Sl) (h2 : H) =>
  some (x1, h2)
noncomputable abbrev varint_Put_l2 := P.varint_Put_l2 slices_Clone_byte varint_kind slices_Clip_byte
noncomputable abbrev varint_Put_l1 := P.varint_Put_l1 slices_Clone_byte varint_kind slices_Clip_byte
noncomputable def varint_Put : Sl → Sl → H → Option ((Sl) × H) := P.varint_Put slices_Clone_byte varint_kind slices_Clip_byte
noncomputable def ann_25 : Ann := ⟨fun i => bif i.beq 13 then some ⟨[5, 8, 9, 13, 14, 15], [⟨false, [.sl]⟩, ⟨false, [.int .i64]⟩, ⟨false, [.int .i64]⟩, ⟨false, [.sl]⟩, ⟨false, [.int .i64]⟩, ⟨false, [.int .i64]⟩]⟩ else bif i.beq 14 then some ⟨[5, 13, 14, 15], [⟨false, [.sl]⟩, ⟨false, [.sl]⟩, ⟨false, [.int .i64]⟩, ⟨false, [.int .i64]⟩]⟩ else bif i.beq 15 then some ⟨[5], [⟨false, [.sl]⟩]⟩ else none, fun i => bif i.beq 3 then some ⟨[5, 13, 14, 15], [⟨false, [.sl]⟩, ⟨false, [.sl]⟩, ⟨false, [.int .i64]⟩, ⟨false, [.int .i64]⟩]⟩ else bif i.beq 10 then some ⟨[5, 7, 8, 9, 10, 13, 14, 15], [⟨false, [.sl]⟩, ⟨false, [.int .i64]⟩, ⟨false, [.int .i64]⟩, ⟨false, [.int .i64]⟩, ⟨false, [.int .i64]⟩, ⟨false, [.sl]⟩, ⟨false, [.int .i64]⟩, ⟨false, [.int .i64]⟩]⟩ else none, fun _ => none⟩
noncomputable def E_25 : Ent := ⟨25, [⟨false, [.sl]⟩, ⟨false, [.sl]⟩], [⟨false, [.sl]⟩], fun (x : Sl × Sl) h => varint_Put x.1 x.2 h⟩
theorem eq_25 (slices_Clone_byte : Sl → H → Option ((Sl) × H)) (varint_kind : Int → H → Option ((Int) × H)) (slices_Clip_byte : Sl → H → Option ((Sl) × H)) : (fun (x : PT E_25.ps) (h : H) => runFK Go.Proofs.Ytejdeibmhlcnbaa.Tab.D (lstK [⟨52, [⟨false, [.sl]⟩], [⟨false, [.sl]⟩], fun (x : Sl) h => slices_Clone_byte x h⟩, ⟨51, [⟨false, [.int .i64]⟩], [⟨false, [.int .i64]⟩], fun (x : Int) h => varint_kind x h⟩, ⟨53, [⟨false, [.sl]⟩], [⟨false, [.sl]⟩], fun (x : Sl) h => slices_Clip_byte x h⟩]) ann_25 Try.f25 (Try.f25.body.getD .skip) E_25.ys (encP E_25.ps x) h) = (fun (x : Sl × Sl) h => P.varint_Put slices_Clone_byte varint_kind slices_Clip_byte x.1 x.2 h) := by kernel_rfl
theorem ok_25 : E_25.ok Go.Proofs.Ytejdeibmhlcnbaa.Tab.D := fun x h y h' e => runFK_ok (lstK_ok [E_52, E_51, E_53] (List.forall_mem_cons.2 ⟨ok_52, List.forall_mem_cons.2 ⟨ok_51, List.forall_mem_cons.2 ⟨ok_53, fun E h => nomatch h⟩⟩⟩)) (A := ann_25) (by kernel_rfl) (show Go.Proofs.Ytejdeibmhlcnbaa.Tab.D.fn.get 25 = some Try.f25 by kernel_rfl) (show Try.f25.body = some (Try.f25.body.getD .skip) by kernel_rfl) ((congrFun (congrFun (eq_25 slices_Clone_byte varint_kind slices_Clip_byte) x) h).trans e)
/-! varint_Take -/
noncomputable def P.varint_Take_l1 (slices_Clone_byte : Sl → H → Option ((Sl) × H)) : ((Sl × (Int × (Int × (Sl × (Int × Int))))) × H) → Option (((Sl × (Int × (Int × (Sl × (Int × Int))))) × H) ⊕ (((Sl × (Int × Int)) × H) ⊕ ((Int × (Sl × Int)) × H))) := fun ((b, (n, (size, (x0, (x1, x2))))), h0) =>
  condK (decide ((x2 < x1))) (
    bindO (ixT 1 x0 x2) fun (a0 : Addr) =>
    bindO (ldI .u8 h0 a0) fun (x3 : Int) =>
    letO ((IntKind.wrap .i64 (((BitVec.toNat ((BitVec.ofInt 64 (IntKind.wrap .i64 (n * 256))) ||| (BitVec.ofInt 64 (IntKind.wrap .i64 x3)))) : Nat) : Int))) fun (x4 : Int) =>
    some (Sum.inl ((b, (x4, (size, (x0, (x1, (IntKind.wrap .i64 (x2 + 1))))))), h0))) (
    some (Sum.inr (Sum.inl ((b, (n, size)), h0))))

noncomputable def P.varint_Take (slices_Clone_byte : Sl → H → Option ((Sl) × H)) (b : Sl) (h : H) : Option ((Int × Sl × Int) × H) :=
  joinO (
    condK (((b.len : Nat) : Int) == 0) (
      some (Sum.inl ((b, true), h))) (
      bindO (ixT 1 b 0) fun (a0 : Addr) =>
      bindO (ldI .u8 h a0) fun (x0 : Int) =>
      bindO (shlT .i64 1 .u8 (Int.fdiv x0 64)) fun (x1 : Int) =>
      some (Sum.inl ((b, (decide ((((b.len : Nat) : Int) < x1)))), h)))) fun (((b1, x0), h0) : ((Sl × Bool) × H)) =>
  condK x0 (
    some ((0, ((⟨none, 0, 0⟩ : Sl), 3)), h0)) (
    bindO (ixT 1 b1 0) fun (a0 : Addr) =>
    bindO (ldI .u8 h0 a0) fun (x1 : Int) =>
    bindO (shlT .i64 1 .u8 (Int.fdiv x1 64)) fun (x2 : Int) =>
    bindO (ixT 1 b1 0) fun (a1 : Addr) =>
    bindO (ldI .u8 h0 a1) fun (x3 : Int) =>
    letO ((IntKind.wrap .u8 (((BitVec.toNat ((BitVec.ofInt 8 x3) &&& (BitVec.ofInt 8 63))) : Nat) : Int))) fun (x4 : Int) =>
    joinO (
      bindO (slT 1 h0 b1 (some 1) (some x2) none) fun (x5 : Sl) =>
      loopO (P.varint_Take_l1 slices_Clone_byte) ((b1, ((IntKind.wrap .i64 x4), (x2, (x5, (((x5.len : Nat) : Int), 0))))), h0)) fun (((b2, (n, size)), h1) : ((Sl × (Int × Int)) × H)) =>
    bindO (slT 1 h1 b2 (some size) none none) fun (x5 : Sl) =>
    bind2 (slices_Clone_byte x5 h1) fun (x6 : Sl) (h2 : H) =>
    some ((n, (x6, 0)), h2))
noncomputable abbrev varint_Take_l1 := P.varint_Take_l1 slices_Clone_byte
noncomputable def varint_Take : Sl → H → Option ((Int × Sl × Int) × H) := P.varint_Take slices_Clone_byte
noncomputable def ann_26 : Ann := ⟨fun i => bif i.beq 10 then some ⟨[0, 2, 5], [⟨false, [.sl]⟩, ⟨false, [.int .i64]⟩, ⟨false, [.int .i64]⟩]⟩ else none, fun i => bif i.beq 6 then some ⟨[0, 2, 5, 33, 34, 35], [⟨false, [.sl]⟩, ⟨false, [.int .i64]⟩, ⟨false, [.int .i64]⟩, ⟨false, [.sl]⟩, ⟨false, [.int .i64]⟩, ⟨false, [.int .i64]⟩]⟩ else none, fun i => bif i.beq 1 then some ⟨[0, 20], [⟨false, [.sl]⟩, ⟨false, [.bool]⟩]⟩ else none⟩
noncomputable def E_26 : Ent := ⟨26, [⟨false, [.sl]⟩], [⟨false, [.int .i64]⟩, ⟨false, [.sl]⟩, ⟨false, [.int .i64]⟩], fun (x : Sl) h => varint_Take x h⟩
theorem eq_26 (slices_Clone_byte : Sl → H → Option ((Sl) × H)) : (fun (x : PT E_26.ps) (h : H) => runFK Go.Proofs.Ytejdeibmhlcnbaa.Tab.D (lstK [⟨52, [⟨false, [.sl]⟩], [⟨false, [.sl]⟩], fun (x : Sl) h => slices_Clone_byte x h⟩]) ann_26 Try.f26 (Try.f26.body.getD .skip) E_26.ys (encP E_26.ps x) h) = (fun (x : Sl) h => P.varint_Take slices_Clone_byte x h) := by kernel_rfl
theorem ok_26 : E_26.ok Go.Proofs.Ytejdeibmhlcnbaa.Tab.D := fun x h y h' e => runFK_ok (lstK_ok [E_52] (List.forall_mem_cons.2 ⟨ok_52, fun E h => nomatch h⟩)) (A := ann_26) (by kernel_rfl) (show Go.Proofs.Ytejdeibmhlcnbaa.Tab.D.fn.get 26 = some Try.f26 by kernel_rfl) (show Try.f26.body = some (Try.f26.body.getD .skip) by kernel_rfl) ((congrFun (congrFun (eq_26 slices_Clone_byte) x) h).trans e)
/-! law1_known -/
noncomputable def P.law1_known (varint_Put : Sl → Sl → H → Option ((Sl) × H)) (varint_Size : Sl → H → Option ((Int) × H))  (h : H) : Option (Bool × H) :=
  newO (row 3 [(.int .i64 37), (.int .i64 15293)]) h fun (b : Nat) (h0 : H) =>
  bind2 (varint_Put (⟨none, 0, 0⟩ : Sl) (⟨(some (⟨b, 0, (some 0)⟩ : Addr)), 2, 2⟩ : Sl) h0) fun (x0 : Sl) (h1 : H) =>
  bind2 (strT h1 x0) fun (x1 : ByteArray) (h2 : H) =>
  condK (x1.toList == (⟨#[37, 123, 189]⟩ : ByteArray).toList) (
    newO (row 3 [(.int .i64 37), (.int .i64 15293)]) h2 fun (b1 : Nat) (h3 : H) =>
    bind2 (varint_Size (⟨(some (⟨b1, 0, (some 0)⟩ : Addr)), 2, 2⟩ : Sl) h3) fun (x2 : Int) (h4 : H) =>
    some ((x2 == 3), h4)) (
    some (false, h2))
noncomputable def law1_known : H → Option ((Bool) × H) := P.law1_known varint_Put varint_Size
noncomputable def ann_27 : Ann := ⟨fun _ => none, fun _ => none, fun _ => none⟩
noncomputable def E_27 : Ent := ⟨27, [], [⟨false, [.bool]⟩], fun (x : Unit) h => law1_known h⟩
theorem eq_27 (varint_Put : Sl → Sl → H → Option ((Sl) × H)) (varint_Size : Sl → H → Option ((Int) × H)) : (fun (x : PT E_27.ps) (h : H) => runFK Go.Proofs.Ytejdeibmhlcnbaa.Tab.D (lstK [⟨25, [⟨false, [.sl]⟩, ⟨false, [.sl]⟩], [⟨false, [.sl]⟩], fun (x : Sl × Sl) h => varint_Put x.1 x.2 h⟩, ⟨24, [⟨false, [.sl]⟩], [⟨false, [.int .i64]⟩], fun (x : Sl) h => varint_Size x h⟩]) ann_27 Try.f27 (Try.f27.body.getD .skip) E_27.ys (encP E_27.ps x) h) = (fun (x : Unit) h => P.law1_known varint_Put varint_Size  h) := by kernel_rfl
theorem ok_27 : E_27.ok Go.Proofs.Ytejdeibmhlcnbaa.Tab.D := fun x h y h' e => runFK_ok (lstK_ok [E_25, E_24] (List.forall_mem_cons.2 ⟨ok_25, List.forall_mem_cons.2 ⟨ok_24, fun E h => nomatch h⟩⟩)) (A := ann_27) (by kernel_rfl) (show Go.Proofs.Ytejdeibmhlcnbaa.Tab.D.fn.get 27 = some Try.f27 by kernel_rfl) (show Try.f27.body = some (Try.f27.body.getD .skip) by kernel_rfl) ((congrFun (congrFun (eq_27 varint_Put varint_Size) x) h).trans e)
/-! law1_VarintShortest -/
noncomputable def P.law1_VarintShortest (hand_May : Int → H → Option ((Int) × H)) (varint_Size : Sl → H → Option ((Int) × H)) (varint_Put : Sl → Sl → H → Option ((Sl) × H)) (varint_Take : Sl → H → Option ((Int × Sl × Int) × H)) (law1_known : H → Option ((Bool) × H)) (n : Int) (m : Int) (b : Sl) (h : H) : Option (Bool × H) :=
  bind2 (hand_May n h) fun (x0 : Int) (h0 : H) =>
  bind2 (hand_May m h0) fun (x1 : Int) (h1 : H) =>
  newO (row 3 [(.int .i64 x0)]) h1 fun (b1 : Nat) (h2 : H) =>
  bind2 (varint_Size (⟨(some (⟨b1, 0, (some 0)⟩ : Addr)), 1, 1⟩ : Sl) h2) fun (x2 : Int) (h3 : H) =>
  newO (row 3 [(.int .i64 x1)]) h3 fun (b2 : Nat) (h4 : H) =>
  bind2 (varint_Size (⟨(some (⟨b2, 0, (some 0)⟩ : Addr)), 1, 1⟩ : Sl) h4) fun (x3 : Int) (h5 : H) =>
  joinO (
    condK (x2 != 1) (
      condK (x2 != 2) (
        condK (x2 != 4) (
          condK (x2 != 8) (
            some (Sum.inl ((b, true), h5))) (
            condK (decide ((x0 ≤ x1))) (
              condK (decide ((x2 > x3))) (
                some (Sum.inl ((b, true), h5))) (
                newO (row 3 [(.int .i64 x0)]) h5 fun (b3 : Nat) (h6 : H) =>
                bind2 (varint_Put (⟨none, 0, 0⟩ : Sl) (⟨(some (⟨b3, 0, (some 0)⟩ : Addr)), 1, 1⟩ : Sl) h6) fun (x4 : Sl) (h7 : H) =>
                some (Sum.inl ((b, (((x4.len : Nat) : Int) != x2)), h7)))) (
              newO (row 3 [(.int .i64 x0)]) h5 fun (b4 : Nat) (h8 : H) =>
              bind2 (varint_Put (⟨none, 0, 0⟩ : Sl) (⟨(some (⟨b4, 0, (some 0)⟩ : Addr)), 1, 1⟩ : Sl) h8) fun (x5 : Sl) (h9 : H) =>
              some (Sum.inl ((b, (((x5.len : Nat) : Int) != x2)), h9))))) (
          condK (decide ((x0 ≤ x1))) (
            condK (decide ((x2 > x3))) (
              some (Sum.inl ((b, true), h5))) (
              newO (row 3 [(.int .i64 x0)]) h5 fun (b5 : Nat) (h10 : H) =>
              bind2 (varint_Put (⟨none, 0, 0⟩ : Sl) (⟨(some (⟨b5, 0, (some 0)⟩ : Addr)), 1, 1⟩ : Sl) h10) fun (x6 : Sl) (h11 : H) =>
              some (Sum.inl ((b, (((x6.len : Nat) : Int) != x2)), h11)))) (
            newO (row 3 [(.int .i64 x0)]) h5 fun (b6 : Nat) (h12 : H) =>
            bind2 (varint_Put (⟨none, 0, 0⟩ : Sl) (⟨(some (⟨b6, 0, (some 0)⟩ : Addr)), 1, 1⟩ : Sl) h12) fun (x7 : Sl) (h13 : H) =>
            some (Sum.inl ((b, (((x7.len : Nat) : Int) != x2)), h13))))) (
        condK (decide ((x0 ≤ x1))) (
          condK (decide ((x2 > x3))) (
            some (Sum.inl ((b, true), h5))) (
            newO (row 3 [(.int .i64 x0)]) h5 fun (b7 : Nat) (h14 : H) =>
            bind2 (varint_Put (⟨none, 0, 0⟩ : Sl) (⟨(some (⟨b7, 0, (some 0)⟩ : Addr)), 1, 1⟩ : Sl) h14) fun (x8 : Sl) (h15 : H) =>
            some (Sum.inl ((b, (((x8.len : Nat) : Int) != x2)), h15)))) (
          newO (row 3 [(.int .i64 x0)]) h5 fun (b8 : Nat) (h16 : H) =>
          bind2 (varint_Put (⟨none, 0, 0⟩ : Sl) (⟨(some (⟨b8, 0, (some 0)⟩ : Addr)), 1, 1⟩ : Sl) h16) fun (x9 : Sl) (h17 : H) =>
          some (Sum.inl ((b, (((x9.len : Nat) : Int) != x2)), h17))))) (
      condK (decide ((x0 ≤ x1))) (
        condK (decide ((x2 > x3))) (
          some (Sum.inl ((b, true), h5))) (
          newO (row 3 [(.int .i64 x0)]) h5 fun (b9 : Nat) (h18 : H) =>
          bind2 (varint_Put (⟨none, 0, 0⟩ : Sl) (⟨(some (⟨b9, 0, (some 0)⟩ : Addr)), 1, 1⟩ : Sl) h18) fun (x10 : Sl) (h19 : H) =>
          some (Sum.inl ((b, (((x10.len : Nat) : Int) != x2)), h19)))) (
        newO (row 3 [(.int .i64 x0)]) h5 fun (b10 : Nat) (h20 : H) =>
        bind2 (varint_Put (⟨none, 0, 0⟩ : Sl) (⟨(some (⟨b10, 0, (some 0)⟩ : Addr)), 1, 1⟩ : Sl) h20) fun (x11 : Sl) (h21 : H) =>
        some (Sum.inl ((b, (((x11.len : Nat) : Int) != x2)), h21))))) fun (((b3, x4), h6) : ((Sl × Bool) × H)) =>
  condK x4 (
    some (false, h6)) (
    bind2 (varint_Take b3 h6) fun ((x5, x6, x7) : Int × Sl × Int) (h7 : H) =>
    bind2 (law1_known h7) fun (x8 : Bool) (h8 : H) =>
    condK x8 (
      condK (x7 != 0) (
        some (true, h8)) (
        newO (row 3 [(.int .i64 x5)]) h8 fun (b4 : Nat) (h9 : H) =>
        bind2 (varint_Size (⟨(some (⟨b4, 0, (some 0)⟩ : Addr)), 1, 1⟩ : Sl) h9) fun (x9 : Int) (h10 : H) =>
        letO ((decide ((x9 ≤ (IntKind.wrap .i64 (((b3.len : Nat) : Int) - ((x6.len : Nat) : Int))))))) fun (x10 : Bool) =>
        some (x10, h10))) (
      some (false, h8)))
noncomputable def law1_VarintShortest : Int → Int → Sl → H → Option ((Bool) × H) := P.law1_VarintShortest hand_May varint_Size varint_Put varint_Take law1_known
noncomputable def ann_6 : Ann := ⟨fun _ => none, fun _ => none, fun i => bif i.beq 5 then some ⟨[2, 55], [⟨false, [.sl]⟩, ⟨false, [.bool]⟩]⟩ else none⟩
noncomputable def E_6 : Ent := ⟨6, [⟨false, [.int .i64]⟩, ⟨false, [.int .i64]⟩, ⟨false, [.sl]⟩], [⟨false, [.bool]⟩], fun (x : Int × Int × Sl) h => law1_VarintShortest x.1 x.2.1 x.2.2 h⟩
theorem eq_6 (hand_May : Int → H → Option ((Int) × H)) (varint_Size : Sl → H → Option ((Int) × H)) (varint_Put : Sl → Sl → H → Option ((Sl) × H)) (varint_Take : Sl → H → Option ((Int × Sl × Int) × H)) (law1_known : H → Option ((Bool) × H)) : (fun (x : PT E_6.ps) (h : H) => runFK Go.Proofs.Ytejdeibmhlcnbaa.Tab.D (lstK [⟨23, [⟨false, [.int .i64]⟩], [⟨false, [.int .i64]⟩], fun (x : Int) h => hand_May x h⟩, ⟨24, [⟨false, [.sl]⟩], [⟨false, [.int .i64]⟩], fun (x : Sl) h => varint_Size x h⟩, ⟨25, [⟨false, [.sl]⟩, ⟨false, [.sl]⟩], [⟨false, [.sl]⟩], fun (x : Sl × Sl) h => varint_Put x.1 x.2 h⟩, ⟨26, [⟨false, [.sl]⟩], [⟨false, [.int .i64]⟩, ⟨false, [.sl]⟩, ⟨false, [.int .i64]⟩], fun (x : Sl) h => varint_Take x h⟩, ⟨27, [], [⟨false, [.bool]⟩], fun (x : Unit) h => law1_known h⟩]) ann_6 Try.f6 (Try.f6.body.getD .skip) E_6.ys (encP E_6.ps x) h) = (fun (x : Int × Int × Sl) h => P.law1_VarintShortest hand_May varint_Size varint_Put varint_Take law1_known x.1 x.2.1 x.2.2 h) := by kernel_rfl
theorem ok_6 : E_6.ok Go.Proofs.Ytejdeibmhlcnbaa.Tab.D := fun x h y h' e => runFK_ok (lstK_ok [E_23, E_24, E_25, E_26, E_27] (List.forall_mem_cons.2 ⟨ok_23, List.forall_mem_cons.2 ⟨ok_24, List.forall_mem_cons.2 ⟨ok_25, List.forall_mem_cons.2 ⟨ok_26, List.forall_mem_cons.2 ⟨ok_27, fun E h => nomatch h⟩⟩⟩⟩⟩)) (A := ann_6) (by kernel_rfl) (show Go.Proofs.Ytejdeibmhlcnbaa.Tab.D.fn.get 6 = some Try.f6 by kernel_rfl) (show Try.f6.body = some (Try.f6.body.getD .skip) by kernel_rfl) ((congrFun (congrFun (eq_6 hand_May varint_Size varint_Put varint_Take law1_known) x) h).trans e)
/-! law1_VarintLong -/
noncomputable def P.law1_VarintLong_l1 (hand_Pick : Int → Int → H → Option ((Int) × H)) (hand_May : Int → H → Option ((Int) × H)) (varint_Size : Sl → H → Option ((Int) × H)) (varint_Take : Sl → H → Option ((Int × Sl × Int) × H)) (law1_known : H → Option ((Bool) × H)) : ((Int × (Int × (Sl × (Int × (Sl × (Int × Int)))))) × H) → Option (((Int × (Int × (Sl × (Int × (Sl × (Int × Int)))))) × H) ⊕ (((Int × (Int × (Sl × (Int × Sl)))) × H) ⊕ (Bool × H))) := fun ((n, (form, (behind, (k, (b, (x0, i)))))), h0) =>
  condK (decide ((i ≥ 0))) (
    bindO (ixT 1 b i) fun (a0 : Addr) =>
    bindO (st1 h0 a0 (.int .u8 (IntKind.wrap .u8 x0))) fun (h1 : H) =>
    some (Sum.inl ((n, (form, (behind, (k, (b, ((Int.fdiv x0 256), (IntKind.wrap .i64 (i - 1)))))))), h1))) (
    some (Sum.inr (Sum.inl ((n, (form, (behind, (k, b)))), h0))))

noncomputable def P.law1_VarintLong (hand_Pick : Int → Int → H → Option ((Int) × H)) (hand_May : Int → H → Option ((Int) × H)) (varint_Size : Sl → H → Option ((Int) × H)) (varint_Take : Sl → H → Option ((Int × Sl × Int) × H)) (law1_known : H → Option ((Bool) × H)) (n : Int) (form : Int) (behind : Sl) (h : H) : Option (Bool × H) :=
  bind2 (hand_Pick form 4 h) fun (x0 : Int) (h0 : H) =>
  bindO (shlT .i64 1 .u64 (IntKind.wrap .u64 x0)) fun (x1 : Int) =>
  bind2 (hand_May n h0) fun (x2 : Int) (h1 : H) =>
  joinO (
    newO (row 3 [(.int .i64 x2)]) h1 fun (b : Nat) (h2 : H) =>
    bind2 (varint_Size (⟨(some (⟨b, 0, (some 0)⟩ : Addr)), 1, 1⟩ : Sl) h2) fun (x3 : Int) (h3 : H) =>
    condK (decide ((x3 > x1))) (
      bind2 (hand_Pick x2 64 h3) fun (x4 : Int) (h4 : H) =>
      some (Sum.inl ((x4, (x0, (behind, x1))), h4))) (
      some (Sum.inl ((x2, (x0, (behind, x1))), h3)))) fun (((n1, (form1, (behind1, k))), h2) : ((Int × (Int × (Sl × Int))) × H)) =>
  bind2 (mkT 5 1 1 (.int .u8 0) h2 k k) fun (x3 : Sl) (h3 : H) =>
  joinO (
    loopO (P.law1_VarintLong_l1 hand_Pick hand_May varint_Size varint_Take law1_known) ((n1, (form1, (behind1, (k, (x3, (n1, (IntKind.wrap .i64 (k - 1)))))))), h3)) fun (((n2, (form2, (behind2, (k1, b)))), h4) : ((Int × (Int × (Sl × (Int × Sl)))) × H)) =>
  bindO (ixT 1 b 0) fun (a0 : Addr) =>
  bindO (ldI .u8 h4 a0) fun (x4 : Int) =>
  letO ((IntKind.wrap .u8 (x4 + (IntKind.wrap .u8 (IntKind.wrap .i64 (form2 * 64)))))) fun (x5 : Int) =>
  bindO (ixT 1 b 0) fun (a1 : Addr) =>
  bindO (st1 h4 a1 (.int .u8 x5)) fun (h5 : H) =>
  bind2 (appT 5 1 1 h5 b behind2) fun (x6 : Sl) (h6 : H) =>
  bind2 (varint_Take x6 h6) fun ((x7, x8, x9) : Int × Sl × Int) (h7 : H) =>
  bindO (slT 1 h7 b none (some (IntKind.wrap .i64 (k1 - 1))) none) fun (x10 : Sl) =>
  bind2 (varint_Take x10 h7) fun ((x11, x12, x13) : Int × Sl × Int) (h8 : H) =>
  bind2 (law1_known h8) fun (x14 : Bool) (h9 : H) =>
  condK x14 (
    condK (x9 == 0) (
      condK (x7 == n2) (
        bind2 (strT h9 x8) fun (x15 : ByteArray) (h10 : H) =>
        bind2 (strT h10 behind2) fun (x16 : ByteArray) (h11 : H) =>
        condK (x15.toList == x16.toList) (
          some ((x13 == 3), h11)) (
          some (false, h11))) (
        some (false, h9))) (
      some (false, h9))) (
    some (false, h9))
noncomputable abbrev law1_VarintLong_l1 := P.law1_VarintLong_l1 hand_Pick hand_May varint_Size varint_Take law1_known
noncomputable def law1_VarintLong : Int → Int → Sl → H → Option ((Bool) × H) := P.law1_VarintLong hand_Pick hand_May varint_Size varint_Take law1_known
noncomputable def ann_7 : Ann := ⟨fun i => bif i.beq 6 then some ⟨[0, 1, 2, 7], [⟨false, [.int .i64]⟩, ⟨false, [.int .i64]⟩, ⟨false, [.sl]⟩, ⟨false, [.int .i64]⟩]⟩ else bif i.beq 13 then some ⟨[0, 1, 2, 7, 8], [⟨false, [.int .i64]⟩, ⟨false, [.int .i64]⟩, ⟨false, [.sl]⟩, ⟨false, [.int .i64]⟩, ⟨false, [.sl]⟩]⟩ else none, fun i => bif i.beq 9 then some ⟨[0, 1, 2, 7, 8, 9, 10], [⟨false, [.int .i64]⟩, ⟨false, [.int .i64]⟩, ⟨false, [.sl]⟩, ⟨false, [.int .i64]⟩, ⟨false, [.sl]⟩, ⟨false, [.int .i64]⟩, ⟨false, [.int .i64]⟩]⟩ else none, fun _ => none⟩
noncomputable def E_7 : Ent := ⟨7, [⟨false, [.int .i64]⟩, ⟨false, [.int .i64]⟩, ⟨false, [.sl]⟩], [⟨false, [.bool]⟩], fun (x : Int × Int × Sl) h => law1_VarintLong x.1 x.2.1 x.2.2 h⟩
theorem eq_7 (hand_Pick : Int → Int → H → Option ((Int) × H)) (hand_May : Int → H → Option ((Int) × H)) (varint_Size : Sl → H → Option ((Int) × H)) (varint_Take : Sl → H → Option ((Int × Sl × Int) × H)) (law1_known : H → Option ((Bool) × H)) : (fun (x : PT E_7.ps) (h : H) => runFK Go.Proofs.Ytejdeibmhlcnbaa.Tab.D (lstK [⟨18, [⟨false, [.int .i64]⟩, ⟨false, [.int .i64]⟩], [⟨false, [.int .i64]⟩], fun (x : Int × Int) h => hand_Pick x.1 x.2 h⟩, ⟨23, [⟨false, [.int .i64]⟩], [⟨false, [.int .i64]⟩], fun (x : Int) h => hand_May x h⟩, ⟨24, [⟨false, [.sl]⟩], [⟨false, [.int .i64]⟩], fun (x : Sl) h => varint_Size x h⟩, ⟨26, [⟨false, [.sl]⟩], [⟨false, [.int .i64]⟩, ⟨false, [.sl]⟩, ⟨false, [.int .i64]⟩], fun (x : Sl) h => varint_Take x h⟩, ⟨27, [], [⟨false, [.bool]⟩], fun (x : Unit) h => law1_known h⟩]) ann_7 Try.f7 (Try.f7.body.getD .skip) E_7.ys (encP E_7.ps x) h) = (fun (x : Int × Int × Sl) h => P.law1_VarintLong hand_Pick hand_May varint_Size varint_Take law1_known x.1 x.2.1 x.2.2 h) := by kernel_rfl
theorem ok_7 : E_7.ok Go.Proofs.Ytejdeibmhlcnbaa.Tab.D := fun x h y h' e => runFK_ok (lstK_ok [E_18, E_23, E_24, E_26, E_27] (List.forall_mem_cons.2 ⟨ok_18, List.forall_mem_cons.2 ⟨ok_23, List.forall_mem_cons.2 ⟨ok_24, List.forall_mem_cons.2 ⟨ok_26, List.forall_mem_cons.2 ⟨ok_27, fun E h => nomatch h⟩⟩⟩⟩⟩)) (A := ann_7) (by kernel_rfl) (show Go.Proofs.Ytejdeibmhlcnbaa.Tab.D.fn.get 7 = some Try.f7 by kernel_rfl) (show Try.f7.body = some (Try.f7.body.getD .skip) by kernel_rfl) ((congrFun (congrFun (eq_7 hand_Pick hand_May varint_Size varint_Take law1_known) x) h).trans e)
/-! math_bits_RotateLeft64 -/
noncomputable def math_bits_RotateLeft64 (x0 : Int) (k : Int) (h : H) : Option (Int × H) :=
  letO ((IntKind.wrap .u64 (((BitVec.toNat ((BitVec.ofInt 64 (IntKind.wrap .u64 k)) &&& (BitVec.ofInt 64 63))) : Nat) : Int))) fun (x1 : Int) =>
  bindO (shlT .u64 x0 .u64 x1) fun (x2 : Int) =>
  bindO (shrT .u64 x0 .u64 (IntKind.wrap .u64 (64 - x1))) fun (x3 : Int) =>
  letO ((IntKind.wrap .u64 (((BitVec.toNat ((BitVec.ofInt 64 x2) ||| (BitVec.ofInt 64 x3))) : Nat) : Int))) fun (x4 : Int) =>
  some (x4, h)
noncomputable def ann_57 : Ann := ⟨fun _ => none, fun _ => none, fun _ => none⟩
noncomputable def E_57 : Ent := ⟨57, [⟨false, [.int .u64]⟩, ⟨false, [.int .i64]⟩], [⟨false, [.int .u64]⟩], fun (x : Int × Int) h => math_bits_RotateLeft64 x.1 x.2 h⟩
theorem eq_57  : (fun (x : PT E_57.ps) (h : H) => runFK Go.Proofs.Ytejdeibmhlcnbaa.Tab.D (lstK []) ann_57 Try.f57 (Try.f57.body.getD .skip) E_57.ys (encP E_57.ps x) h) = (fun (x : Int × Int) h => math_bits_RotateLeft64 x.1 x.2 h) := by kernel_rfl
theorem ok_57 : E_57.ok Go.Proofs.Ytejdeibmhlcnbaa.Tab.D := fun x h y h' e => runFK_ok (lstK_ok [] (fun E h => nomatch h)) (A := ann_57) (by kernel_rfl) (show Go.Proofs.Ytejdeibmhlcnbaa.Tab.D.fn.get 57 = some Try.f57 by kernel_rfl) (show Try.f57.body = some (Try.f57.body.getD .skip) by kernel_rfl) ((congrFun (congrFun (eq_57 ) x) h).trans e)
/-! seal_Step -/
noncomputable def P.seal_Step (math_bits_RotateLeft64 : Int → Int → H → Option ((Int) × H)) (h0 : Int) (c : Int) (h : H) : Option (Int × H) :=
  bind2 (math_bits_RotateLeft64 h0 13 h) fun (x0 : Int) (h1 : H) =>
  letO ((IntKind.wrap .u64 (((BitVec.toNat ((BitVec.ofInt 64 x0) ^^^ (BitVec.ofInt 64 c))) : Nat) : Int))) fun (x1 : Int) =>
  some ((IntKind.wrap .u64 (x1 * 15485907386658061715)), h1)
noncomputable def seal_Step : Int → Int → H → Option ((Int) × H) := P.seal_Step math_bits_RotateLeft64
noncomputable def ann_31 : Ann := ⟨fun _ => none, fun _ => none, fun _ => none⟩
noncomputable def E_31 : Ent := ⟨31, [⟨false, [.int .u64]⟩, ⟨false, [.int .u64]⟩], [⟨false, [.int .u64]⟩], fun (x : Int × Int) h => seal_Step x.1 x.2 h⟩
theorem eq_31 (math_bits_RotateLeft64 : Int → Int → H → Option ((Int) × H)) : (fun (x : PT E_31.ps) (h : H) => runFK Go.Proofs.Ytejdeibmhlcnbaa.Tab.D (lstK [⟨57, [⟨false, [.int .u64]⟩, ⟨false, [.int .i64]⟩], [⟨false, [.int .u64]⟩], fun (x : Int × Int) h => math_bits_RotateLeft64 x.1 x.2 h⟩]) ann_31 Try.f31 (Try.f31.body.getD .skip) E_31.ys (encP E_31.ps x) h) = (fun (x : Int × Int) h => P.seal_Step math_bits_RotateLeft64 x.1 x.2 h) := by kernel_rfl
theorem ok_31 : E_31.ok Go.Proofs.Ytejdeibmhlcnbaa.Tab.D := fun x h y h' e => runFK_ok (lstK_ok [E_57] (List.forall_mem_cons.2 ⟨ok_57, fun E h => nomatch h⟩)) (A := ann_31) (by kernel_rfl) (show Go.Proofs.Ytejdeibmhlcnbaa.Tab.D.fn.get 31 = some Try.f31 by kernel_rfl) (show Try.f31.body = some (Try.f31.body.getD .skip) by kernel_rfl) ((congrFun (congrFun (eq_31 math_bits_RotateLeft64) x) h).trans e)
/-! seal_Mask -/
noncomputable def P.seal_Mask_l1 (seal_Step : Int → Int → H → Option ((Int) × H)) (slices_Clone_byte : Sl → H → Option ((Sl) × H)) (slices_Clip_byte : Sl → H → Option ((Sl) × H)) : ((Int × (Sl × (Int × Int))) × H) → Option (((Int × (Sl × (Int × Int))) × H) ⊕ ((Sl × H) ⊕ (Sl × H))) := fun ((h0, (out, (x0, x1))), h1) =>
  condK (decide ((x1 < x0))) (
    bindO (ixT 1 out x1) fun (a0 : Addr) =>
    bindO (ldI .u8 h1 a0) fun (x2 : Int) =>
    bind2 (seal_Step h0 (IntKind.wrap .u64 x1) h1) fun (x3 : Int) (h2 : H) =>
    letO ((IntKind.wrap .u8 (((BitVec.toNat ((BitVec.ofInt 8 x2) ^^^ (BitVec.ofInt 8 (IntKind.wrap .u8 (Int.fdiv x3 4294967296))))) : Nat) : Int))) fun (x4 : Int) =>
    bindO (ixT 1 out x1) fun (a1 : Addr) =>
    bindO (st1 h2 a1 (.int .u8 x4)) fun (h3 : H) =>
    bindO (ldI .u8 h2 a0) fun (x5 : Int) =>
    condK (x5 == x2) (
      some (Sum.inl ((h0, (out, (x0, (IntKind.wrap .i64 (x1 + 1))))), h3))) none) (
    some (Sum.inr (Sum.inl (out, h1))))

noncomputable def P.seal_Mask (seal_Step : Int → Int → H → Option ((Int) × H)) (slices_Clone_byte : Sl → H → Option ((Sl) × H)) (slices_Clip_byte : Sl → H → Option ((Sl) × H)) (key : Int) (num : Int) (b : Sl) (h : H) : Option (Sl × H) :=
  bind2 (seal_Step key (IntKind.wrap .u64 num) h) fun (x0 : Int) (h0 : H) =>
  bind2 (slices_Clone_byte b h0) fun (x1 : Sl) (h1 : H) =>
  joinO (
    loopO (P.seal_Mask_l1 seal_Step slices_Clone_byte slices_Clip_byte) ((x0, (x1, (((x1.len : Nat) : Int), 0))), h1)) fun ((out, h2) : (Sl × H)) =>
  bind2 (slices_Clip_byte out h2) fun (x2 : Sl) (h3 : H) =>
  some (x2, h3)
noncomputable abbrev seal_Mask_l1 := P.seal_Mask_l1 seal_Step slices_Clone_byte slices_Clip_byte
noncomputable def seal_Mask : Int → Int → Sl → H → Option ((Sl) × H) := P.seal_Mask seal_Step slices_Clone_byte slices_Clip_byte
noncomputable def ann_33 : Ann := ⟨fun i => bif i.beq 8 then some ⟨[8], [⟨false, [.sl]⟩]⟩ else none, fun i => bif i.beq 4 then some ⟨[7, 8, 17, 18], [⟨false, [.int .u64]⟩, ⟨false, [.sl]⟩, ⟨false, [.int .i64]⟩, ⟨false, [.int .i64]⟩]⟩ else none, fun _ => none⟩
noncomputable def E_33 : Ent := ⟨33, [⟨false, [.int .u64]⟩, ⟨false, [.int .i64]⟩, ⟨false, [.sl]⟩], [⟨false, [.sl]⟩], fun (x : Int × Int × Sl) h => seal_Mask x.1 x.2.1 x.2.2 h⟩
theorem eq_33 (seal_Step : Int → Int → H → Option ((Int) × H)) (slices_Clone_byte : Sl → H → Option ((Sl) × H)) (slices_Clip_byte : Sl → H → Option ((Sl) × H)) : (fun (x : PT E_33.ps) (h : H) => runFK Go.Proofs.Ytejdeibmhlcnbaa.Tab.D (lstK [⟨31, [⟨false, [.int .u64]⟩, ⟨false, [.int .u64]⟩], [⟨false, [.int .u64]⟩], fun (x : Int × Int) h => seal_Step x.1 x.2 h⟩, ⟨52, [⟨false, [.sl]⟩], [⟨false, [.sl]⟩], fun (x : Sl) h => slices_Clone_byte x h⟩, ⟨53, [⟨false, [.sl]⟩], [⟨false, [.sl]⟩], fun (x : Sl) h => slices_Clip_byte x h⟩]) ann_33 Try.f33 (Try.f33.body.getD .skip) E_33.ys (encP E_33.ps x) h) = (fun (x : Int × Int × Sl) h => P.seal_Mask seal_Step slices_Clone_byte slices_Clip_byte x.1 x.2.1 x.2.2 h) := by kernel_rfl
theorem ok_33 : E_33.ok Go.Proofs.Ytejdeibmhlcnbaa.Tab.D := fun x h y h' e => runFK_ok (lstK_ok [E_31, E_52, E_53] (List.forall_mem_cons.2 ⟨ok_31, List.forall_mem_cons.2 ⟨ok_52, List.forall_mem_cons.2 ⟨ok_53, fun E h => nomatch h⟩⟩⟩)) (A := ann_33) (by kernel_rfl) (show Go.Proofs.Ytejdeibmhlcnbaa.Tab.D.fn.get 33 = some Try.f33 by kernel_rfl) (show Try.f33.body = some (Try.f33.body.getD .skip) by kernel_rfl) ((congrFun (congrFun (eq_33 seal_Step slices_Clone_byte slices_Clip_byte) x) h).trans e)
/-! seal_Tag -/
noncomputable def P.seal_Tag_l2 (seal_Step : Int → Int → H → Option ((Int) × H)) : ((Int × (Sl × (Sl × (Int × (Int × (Sl × (Int × Int))))))) × H) → Option (((Int × (Sl × (Sl × (Int × (Int × (Sl × (Int × Int))))))) × H) ⊕ (((Int × (Sl × (Sl × (Int × Int)))) × H) ⊕ (((Int × (Sl × (Int × Int))) × H) ⊕ (((Int × (Sl × (Int × Int))) × H) ⊕ ((Int × H) ⊕ (Int × H)))))) := fun ((key, (p, (x0, (x1, (x2, (x3, (x4, x5))))))), h0) =>
  condK (decide ((x5 < x4))) (
    bindO (ixT 1 x3 x5) fun (a0 : Addr) =>
    bindO (ldI .u8 h0 a0) fun (x6 : Int) =>
    bind2 (seal_Step key (IntKind.wrap .u64 x6) h0) fun (x7 : Int) (h1 : H) =>
    some (Sum.inl ((x7, (p, (x0, (x1, (x2, (x3, (x4, (IntKind.wrap .i64 (x5 + 1))))))))), h1))) (
    some (Sum.inr (Sum.inl ((key, (p, (x0, (x1, x2)))), h0))))

noncomputable def P.seal_Tag_l1 (seal_Step : Int → Int → H → Option ((Int) × H)) : ((Int × (Sl × (Int × Int))) × H) → Option (((Int × (Sl × (Int × Int))) × H) ⊕ ((Int × H) ⊕ (Int × H))) := fun ((key, (x0, (x1, x2))), h0) =>
  condK (decide ((x2 < x1))) (
    joinO (
      bindO (ixT 1 x0 x2) fun (a0 : Addr) =>
      bindO (ldL h0 a0) fun (x3 : Sl) =>
      joinO (
        loopO (P.seal_Tag_l2 seal_Step) ((key, (x3, (x0, (x1, (x2, (x3, (((x3.len : Nat) : Int), 0))))))), h0)) fun (((key1, (p, (x4, (x5, x6)))), h1) : ((Int × (Sl × (Sl × (Int × Int)))) × H)) =>
      bind2 (seal_Step key1 (IntKind.wrap .u64 (256 + (IntKind.wrap .u64 ((p.len : Nat) : Int)))) h1) fun (x7 : Int) (h2 : H) =>
      some (Sum.inl ((x7, (x4, (x5, x6))), h2))) fun (((key1, (x3, (x4, x5))), h1) : ((Int × (Sl × (Int × Int))) × H)) =>
    some (Sum.inl ((key1, (x3, (x4, (IntKind.wrap .i64 (x5 + 1))))), h1))) (
    some (Sum.inr (Sum.inl (key, h0))))

noncomputable def P.seal_Tag (seal_Step : Int → Int → H → Option ((Int) × H)) (key : Int) (parts : Sl) (h : H) : Option (Int × H) :=
  joinO (
    loopO (P.seal_Tag_l1 seal_Step) ((key, (parts, (((parts.len : Nat) : Int), 0))), h)) fun ((key1, h0) : (Int × H)) =>
  some (key1, h0)
noncomputable abbrev seal_Tag_l2 := P.seal_Tag_l2 seal_Step
noncomputable abbrev seal_Tag_l1 := P.seal_Tag_l1 seal_Step
noncomputable def seal_Tag : Int → Sl → H → Option ((Int) × H) := P.seal_Tag seal_Step
noncomputable def ann_32 : Ann := ⟨fun i => bif i.beq 9 then some ⟨[0, 6, 9, 10, 11], [⟨false, [.int .u64]⟩, ⟨false, [.sl]⟩, ⟨false, [.sl]⟩, ⟨false, [.int .i64]⟩, ⟨false, [.int .i64]⟩]⟩ else bif i.beq 10 then some ⟨[0, 9, 10, 11], [⟨false, [.int .u64]⟩, ⟨false, [.sl]⟩, ⟨false, [.int .i64]⟩, ⟨false, [.int .i64]⟩]⟩ else bif i.beq 11 then some ⟨[0], [⟨false, [.int .u64]⟩]⟩ else none, fun i => bif i.beq 2 then some ⟨[0, 9, 10, 11], [⟨false, [.int .u64]⟩, ⟨false, [.sl]⟩, ⟨false, [.int .i64]⟩, ⟨false, [.int .i64]⟩]⟩ else bif i.beq 5 then some ⟨[0, 6, 9, 10, 11, 15, 16, 17], [⟨false, [.int .u64]⟩, ⟨false, [.sl]⟩, ⟨false, [.sl]⟩, ⟨false, [.int .i64]⟩, ⟨false, [.int .i64]⟩, ⟨false, [.sl]⟩, ⟨false, [.int .i64]⟩, ⟨false, [.int .i64]⟩]⟩ else none, fun _ => none⟩
noncomputable def E_32 : Ent := ⟨32, [⟨false, [.int .u64]⟩, ⟨false, [.sl]⟩], [⟨false, [.int .u64]⟩], fun (x : Int × Sl) h => seal_Tag x.1 x.2 h⟩
theorem eq_32 (seal_Step : Int → Int → H → Option ((Int) × H)) : (fun (x : PT E_32.ps) (h : H) => runFK Go.Proofs.Ytejdeibmhlcnbaa.Tab.D (lstK [⟨31, [⟨false, [.int .u64]⟩, ⟨false, [.int .u64]⟩], [⟨false, [.int .u64]⟩], fun (x : Int × Int) h => seal_Step x.1 x.2 h⟩]) ann_32 Try.f32 (Try.f32.body.getD .skip) E_32.ys (encP E_32.ps x) h) = (fun (x : Int × Sl) h => P.seal_Tag seal_Step x.1 x.2 h) := by kernel_rfl
theorem ok_32 : E_32.ok Go.Proofs.Ytejdeibmhlcnbaa.Tab.D := fun x h y h' e => runFK_ok (lstK_ok [E_31] (List.forall_mem_cons.2 ⟨ok_31, fun E h => nomatch h⟩)) (A := ann_32) (by kernel_rfl) (show Go.Proofs.Ytejdeibmhlcnbaa.Tab.D.fn.get 32 = some Try.f32 by kernel_rfl) (show Try.f32.body = some (Try.f32.body.getD .skip) by kernel_rfl) ((congrFun (congrFun (eq_32 seal_Step) x) h).trans e)
/-! seal_tag -/
noncomputable def P.seal_tag_l1 (seal_Step : Int → Int → H → Option ((Int) × H)) (seal_Tag : Int → Sl → H → Option ((Int) × H)) : ((Int × (Sl × Int)) × H) → Option (((Int × (Sl × Int)) × H) ⊕ ((Sl × H) ⊕ (Sl × H))) := fun ((sum, (out, at')), h0) =>
  condK (decide ((at' ≥ 0))) (
    bindO (shrT .u64 sum .i64 at') fun (x0 : Int) =>
    newO (row 5 [(.int .u8 (IntKind.wrap .u8 x0))]) h0 fun (b : Nat) (h1 : H) =>
    bind2 (appT 5 1 1 h1 out (⟨(some (⟨b, 0, (some 0)⟩ : Addr)), 1, 1⟩ : Sl)) fun (x1 : Sl) (h2 : H) =>
    some (Sum.inl ((sum, (x1, (IntKind.wrap .i64 (at' - 8)))), h2))) (
    some (Sum.inr (Sum.inl (out, h0))))

noncomputable def P.seal_tag (seal_Step : Int → Int → H → Option ((Int) × H)) (seal_Tag : Int → Sl → H → Option ((Int) × H)) (key : Int) (num : Int) (head : Sl) (masked : Sl) (h : H) : Option (Sl × H) :=
  bind2 (seal_Step key (IntKind.wrap .u64 num) h) fun (x0 : Int) (h0 : H) =>
  newO (row 31 [(.slice head.base head.len head.cap), (.slice masked.base masked.len masked.cap)]) h0 fun (b : Nat) (h1 : H) =>
  bind2 (seal_Tag x0 (⟨(some (⟨b, 0, (some 0)⟩ : Addr)), 2, 2⟩ : Sl) h1) fun (x1 : Int) (h2 : H) =>
  joinO (
    loopO (P.seal_tag_l1 seal_Step seal_Tag) ((x1, ((⟨none, 0, 0⟩ : Sl), 56)), h2)) fun ((out, h3) : (Sl × H)) =>
  some (out, h3)
noncomputable abbrev seal_tag_l1 := P.seal_tag_l1 seal_Step seal_Tag
noncomputable def seal_tag : Int → Int → Sl → Sl → H → Option ((Sl) × H) := P.seal_tag seal_Step seal_Tag
noncomputable def ann_55 : Ann := ⟨fun i => bif i.beq 7 then some ⟨[10], [⟨false, [.sl]⟩]⟩ else none, fun i => bif i.beq 4 then some ⟨[9, 10, 11], [⟨false, [.int .u64]⟩, ⟨false, [.sl]⟩, ⟨false, [.int .i64]⟩]⟩ else none, fun _ => none⟩
noncomputable def E_55 : Ent := ⟨55, [⟨false, [.int .u64]⟩, ⟨false, [.int .i64]⟩, ⟨false, [.sl]⟩, ⟨false, [.sl]⟩], [⟨false, [.sl]⟩], fun (x : Int × Int × Sl × Sl) h => seal_tag x.1 x.2.1 x.2.2.1 x.2.2.2 h⟩
theorem eq_55 (seal_Step : Int → Int → H → Option ((Int) × H)) (seal_Tag : Int → Sl → H → Option ((Int) × H)) : (fun (x : PT E_55.ps) (h : H) => runFK Go.Proofs.Ytejdeibmhlcnbaa.Tab.D (lstK [⟨31, [⟨false, [.int .u64]⟩, ⟨false, [.int .u64]⟩], [⟨false, [.int .u64]⟩], fun (x : Int × Int) h => seal_Step x.1 x.2 h⟩, ⟨32, [⟨false, [.int .u64]⟩, ⟨false, [.sl]⟩], [⟨false, [.int .u64]⟩], fun (x : Int × Sl) h => seal_Tag x.1 x.2 h⟩]) ann_55 Try.f55 (Try.f55.body.getD .skip) E_55.ys (encP E_55.ps x) h) = (fun (x : Int × Int × Sl × Sl) h => P.seal_tag seal_Step seal_Tag x.1 x.2.1 x.2.2.1 x.2.2.2 h) := by kernel_rfl
theorem ok_55 : E_55.ok Go.Proofs.Ytejdeibmhlcnbaa.Tab.D := fun x h y h' e => runFK_ok (lstK_ok [E_31, E_32] (List.forall_mem_cons.2 ⟨ok_31, List.forall_mem_cons.2 ⟨ok_32, fun E h => nomatch h⟩⟩)) (A := ann_55) (by kernel_rfl) (show Go.Proofs.Ytejdeibmhlcnbaa.Tab.D.fn.get 55 = some Try.f55 by kernel_rfl) (show Try.f55.body = some (Try.f55.body.getD .skip) by kernel_rfl) ((congrFun (congrFun (eq_55 seal_Step seal_Tag) x) h).trans e)
/-! slices_Grow_byte -/
noncomputable def slices_Grow_byte (s : Sl) (n : Int) (h : H) : Option (Sl × H) :=
  joinO (
    condK (decide ((n < 0))) (
      none) (
      some (Sum.inl ((s, n), h)))) fun (((s1, n1), h0) : ((Sl × Int) × H)) =>
  joinO (
    bindO (capT s1) fun (x0 : Int) =>
    letO ((IntKind.wrap .i64 (n1 - (IntKind.wrap .i64 (x0 - ((s1.len : Nat) : Int)))))) fun (x1 : Int) =>
    condK (decide ((x1 > 0))) (
      bindO (capT s1) fun (x2 : Int) =>
      bindO (slT 1 h0 s1 none (some x2) none) fun (x3 : Sl) =>
      bind2 (appNT 5 1 1 (.int .u8 0) h0 x3 x1) fun (x4 : Sl) (h1 : H) =>
      bindO (slT 1 h1 x4 none (some ((s1.len : Nat) : Int)) none) fun (x5 : Sl) =>
      some (Sum.inl (x5, h1))) (
      some (Sum.inl (s1, h0)))) fun ((s2, h1) : (Sl × H)) =>
  some (s2, h1)
noncomputable def ann_63 : Ann := ⟨fun i => bif i.beq 3 then some ⟨[0, 1], [⟨false, [.sl]⟩, ⟨false, [.int .i64]⟩]⟩ else bif i.beq 6 then some ⟨[0], [⟨false, [.sl]⟩]⟩ else none, fun _ => none, fun _ => none⟩
noncomputable def E_63 : Ent := ⟨63, [⟨false, [.sl]⟩, ⟨false, [.int .i64]⟩], [⟨false, [.sl]⟩], fun (x : Sl × Int) h => slices_Grow_byte x.1 x.2 h⟩
theorem eq_63  : (fun (x : PT E_63.ps) (h : H) => runFK Go.Proofs.Ytejdeibmhlcnbaa.Tab.D (lstK []) ann_63 Try.f63 (Try.f63.body.getD .skip) E_63.ys (encP E_63.ps x) h) = (fun (x : Sl × Int) h => slices_Grow_byte x.1 x.2 h) := by kernel_rfl
theorem ok_63 : E_63.ok Go.Proofs.Ytejdeibmhlcnbaa.Tab.D := fun x h y h' e => runFK_ok (lstK_ok [] (fun E h => nomatch h)) (A := ann_63) (by kernel_rfl) (show Go.Proofs.Ytejdeibmhlcnbaa.Tab.D.fn.get 63 = some Try.f63 by kernel_rfl) (show Try.f63.body = some (Try.f63.body.getD .skip) by kernel_rfl) ((congrFun (congrFun (eq_63 ) x) h).trans e)
/-! slices_Concat_byte -/
noncomputable def P.slices_Concat_byte_l2 (slices_Grow_byte : Sl → Int → H → Option ((Sl) × H)) : ((Sl × (Sl × (Int × Int))) × H) → Option (((Sl × (Sl × (Int × Int))) × H) ⊕ ((Sl × H) ⊕ (Sl × H))) := fun ((newslice, (x0, (x1, x2))), h0) =>
  condK (decide ((x2 < x1))) (
    bindO (ixT 1 x0 x2) fun (a0 : Addr) =>
    bindO (ldL h0 a0) fun (x3 : Sl) =>
    bind2 (appT 5 1 1 h0 newslice x3) fun (x4 : Sl) (h1 : H) =>
    some (Sum.inl ((x4, (x0, (x1, (IntKind.wrap .i64 (x2 + 1))))), h1))) (
    some (Sum.inr (Sum.inl (newslice, h0))))

noncomputable def P.slices_Concat_byte_l1 (slices_Grow_byte : Sl → Int → H → Option ((Sl) × H)) : ((Sl × (Int × (Sl × (Int × Int)))) × H) → Option (((Sl × (Int × (Sl × (Int × Int)))) × H) ⊕ (((Sl × Int) × H) ⊕ (Sl × H))) := fun ((slices, (size, (x0, (x1, x2)))), h0) =>
  condK (decide ((x2 < x1))) (
    joinO (
      bindO (ixT 1 x0 x2) fun (a0 : Addr) =>
      bindO (ldL h0 a0) fun (x3 : Sl) =>
      condK (decide (((IntKind.wrap .i64 (size + ((x3.len : Nat) : Int))) < 0))) (
        none) (
        some (Sum.inl ((slices, ((IntKind.wrap .i64 (size + ((x3.len : Nat) : Int))), (x0, (x1, x2)))), h0)))) fun (((slices1, (size1, (x3, (x4, x5)))), h1) : ((Sl × (Int × (Sl × (Int × Int)))) × H)) =>
    some (Sum.inl ((slices1, (size1, (x3, (x4, (IntKind.wrap .i64 (x5 + 1)))))), h1))) (
    some (Sum.inr (Sum.inl ((slices, size), h0))))

noncomputable def P.slices_Concat_byte (slices_Grow_byte : Sl → Int → H → Option ((Sl) × H)) (slices : Sl) (h : H) : Option (Sl × H) :=
  joinO (
    loopO (P.slices_Concat_byte_l1 slices_Grow_byte) ((slices, (0, (slices, (((slices.len : Nat) : Int), 0)))), h)) fun (((slices1, size), h0) : ((Sl × Int) × H)) =>
  bind2 (slices_Grow_byte (⟨none, 0, 0⟩ : Sl) size h0) fun (x0 : Sl) (h1 : H) =>
  joinO (
    loopO (P.slices_Concat_byte_l2 slices_Grow_byte) ((x0, (slices1, (((slices1.len : Nat) : Int), 0))), h1)) fun ((newslice, h2) : (Sl × H)) =>
  some (newslice, h2)
noncomputable abbrev slices_Concat_byte_l2 := P.slices_Concat_byte_l2 slices_Grow_byte
noncomputable abbrev slices_Concat_byte_l1 := P.slices_Concat_byte_l1 slices_Grow_byte
noncomputable def slices_Concat_byte : Sl → H → Option ((Sl) × H) := P.slices_Concat_byte slices_Grow_byte
noncomputable def ann_54 : Ann := ⟨fun i => bif i.beq 8 then some ⟨[0, 3, 9, 10, 11], [⟨false, [.sl]⟩, ⟨false, [.int .i64]⟩, ⟨false, [.sl]⟩, ⟨false, [.int .i64]⟩, ⟨false, [.int .i64]⟩]⟩ else bif i.beq 9 then some ⟨[0, 3], [⟨false, [.sl]⟩, ⟨false, [.int .i64]⟩]⟩ else bif i.beq 15 then some ⟨[6], [⟨false, [.sl]⟩]⟩ else none, fun i => bif i.beq 3 then some ⟨[0, 3, 9, 10, 11], [⟨false, [.sl]⟩, ⟨false, [.int .i64]⟩, ⟨false, [.sl]⟩, ⟨false, [.int .i64]⟩, ⟨false, [.int .i64]⟩]⟩ else bif i.beq 11 then some ⟨[6, 25, 26, 27], [⟨false, [.sl]⟩, ⟨false, [.sl]⟩, ⟨false, [.int .i64]⟩, ⟨false, [.int .i64]⟩]⟩ else none, fun _ => none⟩
noncomputable def E_54 : Ent := ⟨54, [⟨false, [.sl]⟩], [⟨false, [.sl]⟩], fun (x : Sl) h => slices_Concat_byte x h⟩
theorem eq_54 (slices_Grow_byte : Sl → Int → H → Option ((Sl) × H)) : (fun (x : PT E_54.ps) (h : H) => runFK Go.Proofs.Ytejdeibmhlcnbaa.Tab.D (lstK [⟨63, [⟨false, [.sl]⟩, ⟨false, [.int .i64]⟩], [⟨false, [.sl]⟩], fun (x : Sl × Int) h => slices_Grow_byte x.1 x.2 h⟩]) ann_54 Try.f54 (Try.f54.body.getD .skip) E_54.ys (encP E_54.ps x) h) = (fun (x : Sl) h => P.slices_Concat_byte slices_Grow_byte x h) := by kernel_rfl
theorem ok_54 : E_54.ok Go.Proofs.Ytejdeibmhlcnbaa.Tab.D := fun x h y h' e => runFK_ok (lstK_ok [E_63] (List.forall_mem_cons.2 ⟨ok_63, fun E h => nomatch h⟩)) (A := ann_54) (by kernel_rfl) (show Go.Proofs.Ytejdeibmhlcnbaa.Tab.D.fn.get 54 = some Try.f54 by kernel_rfl) (show Try.f54.body = some (Try.f54.body.getD .skip) by kernel_rfl) ((congrFun (congrFun (eq_54 slices_Grow_byte) x) h).trans e)
/-! seal_Close -/
noncomputable def P.seal_Close (seal_Mask : Int → Int → Sl → H → Option ((Sl) × H)) (seal_tag : Int → Int → Sl → Sl → H → Option ((Sl) × H)) (slices_Concat_byte : Sl → H → Option ((Sl) × H)) (key : Int) (num : Int) (head : Sl) (body : Sl) (h : H) : Option (Sl × H) :=
  bind2 (seal_Mask key num body h) fun (x0 : Sl) (h0 : H) =>
  bind2 (seal_tag key num head x0 h0) fun (x1 : Sl) (h1 : H) =>
  newO (row 31 [(.slice x0.base x0.len x0.cap), (.slice x1.base x1.len x1.cap)]) h1 fun (b : Nat) (h2 : H) =>
  bind2 (slices_Concat_byte (⟨(some (⟨b, 0, (some 0)⟩ : Addr)), 2, 2⟩ : Sl) h2) fun (x2 : Sl) (h3 : H) =>
  some (x2, h3)
noncomputable def seal_Close : Int → Int → Sl → Sl → H → Option ((Sl) × H) := P.seal_Close seal_Mask seal_tag slices_Concat_byte
noncomputable def ann_28 : Ann := ⟨fun _ => none, fun _ => none, fun _ => none⟩
noncomputable def E_28 : Ent := ⟨28, [⟨false, [.int .u64]⟩, ⟨false, [.int .i64]⟩, ⟨false, [.sl]⟩, ⟨false, [.sl]⟩], [⟨false, [.sl]⟩], fun (x : Int × Int × Sl × Sl) h => seal_Close x.1 x.2.1 x.2.2.1 x.2.2.2 h⟩
theorem eq_28 (seal_Mask : Int → Int → Sl → H → Option ((Sl) × H)) (seal_tag : Int → Int → Sl → Sl → H → Option ((Sl) × H)) (slices_Concat_byte : Sl → H → Option ((Sl) × H)) : (fun (x : PT E_28.ps) (h : H) => runFK Go.Proofs.Ytejdeibmhlcnbaa.Tab.D (lstK [⟨33, [⟨false, [.int .u64]⟩, ⟨false, [.int .i64]⟩, ⟨false, [.sl]⟩], [⟨false, [.sl]⟩], fun (x : Int × Int × Sl) h => seal_Mask x.1 x.2.1 x.2.2 h⟩, ⟨55, [⟨false, [.int .u64]⟩, ⟨false, [.int .i64]⟩, ⟨false, [.sl]⟩, ⟨false, [.sl]⟩], [⟨false, [.sl]⟩], fun (x : Int × Int × Sl × Sl) h => seal_tag x.1 x.2.1 x.2.2.1 x.2.2.2 h⟩, ⟨54, [⟨false, [.sl]⟩], [⟨false, [.sl]⟩], fun (x : Sl) h => slices_Concat_byte x h⟩]) ann_28 Try.f28 (Try.f28.body.getD .skip) E_28.ys (encP E_28.ps x) h) = (fun (x : Int × Int × Sl × Sl) h => P.seal_Close seal_Mask seal_tag slices_Concat_byte x.1 x.2.1 x.2.2.1 x.2.2.2 h) := by kernel_rfl
theorem ok_28 : E_28.ok Go.Proofs.Ytejdeibmhlcnbaa.Tab.D := fun x h y h' e => runFK_ok (lstK_ok [E_33, E_55, E_54] (List.forall_mem_cons.2 ⟨ok_33, List.forall_mem_cons.2 ⟨ok_55, List.forall_mem_cons.2 ⟨ok_54, fun E h => nomatch h⟩⟩⟩)) (A := ann_28) (by kernel_rfl) (show Go.Proofs.Ytejdeibmhlcnbaa.Tab.D.fn.get 28 = some Try.f28 by kernel_rfl) (show Try.f28.body = some (Try.f28.body.getD .skip) by kernel_rfl) ((congrFun (congrFun (eq_28 seal_Mask seal_tag slices_Concat_byte) x) h).trans e)
/-! slices_Equal_byte -/
noncomputable def slices_Equal_byte_l1 : ((Sl × (Sl × (Int × Int))) × H) → Option (((Sl × (Sl × (Int × Int))) × H) ⊕ (Bool × H)) := fun ((s1, (s2, (x0, x1))), h0) =>
  condK (decide ((x1 < x0))) (
    bindO (ixT 1 s1 x1) fun (a0 : Addr) =>
    bindO (ldI .u8 h0 a0) fun (x2 : Int) =>
    bindO (ixT 1 s2 x1) fun (a1 : Addr) =>
    bindO (ldI .u8 h0 a1) fun (x3 : Int) =>
    condK (x2 != x3) (
      some (Sum.inr (false, h0))) (
      some (Sum.inl ((s1, (s2, (x0, (IntKind.wrap .i64 (x1 + 1))))), h0)))) (
    some (Sum.inr (true, h0)))

noncomputable def slices_Equal_byte (s1 : Sl) (s2 : Sl) (h : H) : Option (Bool × H) :=
  condK (((s1.len : Nat) : Int) != ((s2.len : Nat) : Int)) (
    some (false, h)) (
    loopO slices_Equal_byte_l1 ((s1, (s2, (((s1.len : Nat) : Int), 0))), h))
noncomputable def ann_56 : Ann := ⟨fun _ => none, fun i => bif i.beq 4 then some ⟨[0, 1, 12, 13], [⟨false, [.sl]⟩, ⟨false, [.sl]⟩, ⟨false, [.int .i64]⟩, ⟨false, [.int .i64]⟩]⟩ else none, fun _ => none⟩
noncomputable def E_56 : Ent := ⟨56, [⟨false, [.sl]⟩, ⟨false, [.sl]⟩], [⟨false, [.bool]⟩], fun (x : Sl × Sl) h => slices_Equal_byte x.1 x.2 h⟩
theorem eq_56  : (fun (x : PT E_56.ps) (h : H) => runFK Go.Proofs.Ytejdeibmhlcnbaa.Tab.D (lstK []) ann_56 Try.f56 (Try.f56.body.getD .skip) E_56.ys (encP E_56.ps x) h) = (fun (x : Sl × Sl) h => slices_Equal_byte x.1 x.2 h) := by kernel_rfl
theorem ok_56 : E_56.ok Go.Proofs.Ytejdeibmhlcnbaa.Tab.D := fun x h y h' e => runFK_ok (lstK_ok [] (fun E h => nomatch h)) (A := ann_56) (by kernel_rfl) (show Go.Proofs.Ytejdeibmhlcnbaa.Tab.D.fn.get 56 = some Try.f56 by kernel_rfl) (show Try.f56.body = some (Try.f56.body.getD .skip) by kernel_rfl) ((congrFun (congrFun (eq_56 ) x) h).trans e)
/-! seal_Open -/
noncomputable def P.seal_Open (seal_tag : Int → Int → Sl → Sl → H → Option ((Sl) × H)) (slices_Equal_byte : Sl → Sl → H → Option ((Bool) × H)) (seal_Mask : Int → Int → Sl → H → Option ((Sl) × H)) (key : Int) (num : Int) (head : Sl) (sealed : Sl) (h : H) : Option ((Sl × Bool) × H) :=
  condK (decide ((((sealed.len : Nat) : Int) < 8))) (
    some (((⟨none, 0, 0⟩ : Sl), false), h)) (
    bindO (slT 1 h sealed none (some (IntKind.wrap .i64 (((sealed.len : Nat) : Int) - 8))) none) fun (x0 : Sl) =>
    bindO (slT 1 h sealed (some (IntKind.wrap .i64 (((sealed.len : Nat) : Int) - 8))) none none) fun (x1 : Sl) =>
    bind2 (seal_tag key num head x0 h) fun (x2 : Sl) (h0 : H) =>
    bind2 (slices_Equal_byte x2 x1 h0) fun (x3 : Bool) (h1 : H) =>
    condK (!x3) (
      some (((⟨none, 0, 0⟩ : Sl), false), h1)) (
      bind2 (seal_Mask key num x0 h1) fun (x4 : Sl) (h2 : H) =>
      some ((x4, true), h2)))
noncomputable def seal_Open : Int → Int → Sl → Sl → H → Option ((Sl × Bool) × H) := P.seal_Open seal_tag slices_Equal_byte seal_Mask
noncomputable def ann_29 : Ann := ⟨fun _ => none, fun _ => none, fun _ => none⟩
noncomputable def E_29 : Ent := ⟨29, [⟨false, [.int .u64]⟩, ⟨false, [.int .i64]⟩, ⟨false, [.sl]⟩, ⟨false, [.sl]⟩], [⟨false, [.sl]⟩, ⟨false, [.bool]⟩], fun (x : Int × Int × Sl × Sl) h => seal_Open x.1 x.2.1 x.2.2.1 x.2.2.2 h⟩
theorem eq_29 (seal_tag : Int → Int → Sl → Sl → H → Option ((Sl) × H)) (slices_Equal_byte : Sl → Sl → H → Option ((Bool) × H)) (seal_Mask : Int → Int → Sl → H → Option ((Sl) × H)) : (fun (x : PT E_29.ps) (h : H) => runFK Go.Proofs.Ytejdeibmhlcnbaa.Tab.D (lstK [⟨55, [⟨false, [.int .u64]⟩, ⟨false, [.int .i64]⟩, ⟨false, [.sl]⟩, ⟨false, [.sl]⟩], [⟨false, [.sl]⟩], fun (x : Int × Int × Sl × Sl) h => seal_tag x.1 x.2.1 x.2.2.1 x.2.2.2 h⟩, ⟨56, [⟨false, [.sl]⟩, ⟨false, [.sl]⟩], [⟨false, [.bool]⟩], fun (x : Sl × Sl) h => slices_Equal_byte x.1 x.2 h⟩, ⟨33, [⟨false, [.int .u64]⟩, ⟨false, [.int .i64]⟩, ⟨false, [.sl]⟩], [⟨false, [.sl]⟩], fun (x : Int × Int × Sl) h => seal_Mask x.1 x.2.1 x.2.2 h⟩]) ann_29 Try.f29 (Try.f29.body.getD .skip) E_29.ys (encP E_29.ps x) h) = (fun (x : Int × Int × Sl × Sl) h => P.seal_Open seal_tag slices_Equal_byte seal_Mask x.1 x.2.1 x.2.2.1 x.2.2.2 h) := by kernel_rfl
theorem ok_29 : E_29.ok Go.Proofs.Ytejdeibmhlcnbaa.Tab.D := fun x h y h' e => runFK_ok (lstK_ok [E_55, E_56, E_33] (List.forall_mem_cons.2 ⟨ok_55, List.forall_mem_cons.2 ⟨ok_56, List.forall_mem_cons.2 ⟨ok_33, fun E h => nomatch h⟩⟩⟩)) (A := ann_29) (by kernel_rfl) (show Go.Proofs.Ytejdeibmhlcnbaa.Tab.D.fn.get 29 = some Try.f29 by kernel_rfl) (show Try.f29.body = some (Try.f29.body.getD .skip) by kernel_rfl) ((congrFun (congrFun (eq_29 seal_tag slices_Equal_byte seal_Mask) x) h).trans e)
/-! law4_known -/
noncomputable def P.law4_known (seal_Close : Int → Int → Sl → Sl → H → Option ((Sl) × H)) (seal_Open : Int → Int → Sl → Sl → H → Option ((Sl × Bool) × H)) (seal_Step : Int → Int → H → Option ((Int) × H))  (h : H) : Option (Bool × H) :=
  newO (row 5 [(.int .u8 9)]) h fun (b : Nat) (h0 : H) =>
  newO (row 5 [(.int .u8 97), (.int .u8 98)]) h0 fun (b1 : Nat) (h1 : H) =>
  bind2 (bbT h1 (⟨(some (⟨b1, 0, (some 0)⟩ : Addr)), 2, 2⟩ : Sl)) fun (x0 : Sl) (h2 : H) =>
  bind2 (seal_Close 5 1 (⟨(some (⟨b, 0, (some 0)⟩ : Addr)), 1, 1⟩ : Sl) x0 h2) fun (x1 : Sl) (h3 : H) =>
  newO (row 5 [(.int .u8 9)]) h3 fun (b2 : Nat) (h4 : H) =>
  bind2 (seal_Open 5 1 (⟨(some (⟨b2, 0, (some 0)⟩ : Addr)), 1, 1⟩ : Sl) x1 h4) fun ((x2, x3) : Sl × Bool) (h5 : H) =>
  bind2 (seal_Step 0 1 h5) fun (x4 : Int) (h6 : H) =>
  condK (x4 == 15485907386658061715) (
    condK (((x1.len : Nat) : Int) == 10) (
      condK x3 (
        bind2 (strT h6 x2) fun (x5 : ByteArray) (h7 : H) =>
        some ((x5.toList == (⟨#[97, 98]⟩ : ByteArray).toList), h7)) (
        some (false, h6))) (
      some (false, h6))) (
    some (false, h6))
noncomputable def law4_known : H → Option ((Bool) × H) := P.law4_known seal_Close seal_Open seal_Step
noncomputable def ann_30 : Ann := ⟨fun _ => none, fun _ => none, fun _ => none⟩
noncomputable def E_30 : Ent := ⟨30, [], [⟨false, [.bool]⟩], fun (x : Unit) h => law4_known h⟩
theorem eq_30 (seal_Close : Int → Int → Sl → Sl → H → Option ((Sl) × H)) (seal_Open : Int → Int → Sl → Sl → H → Option ((Sl × Bool) × H)) (seal_Step : Int → Int → H → Option ((Int) × H)) : (fun (x : PT E_30.ps) (h : H) => runFK Go.Proofs.Ytejdeibmhlcnbaa.Tab.D (lstK [⟨28, [⟨false, [.int .u64]⟩, ⟨false, [.int .i64]⟩, ⟨false, [.sl]⟩, ⟨false, [.sl]⟩], [⟨false, [.sl]⟩], fun (x : Int × Int × Sl × Sl) h => seal_Close x.1 x.2.1 x.2.2.1 x.2.2.2 h⟩, ⟨29, [⟨false, [.int .u64]⟩, ⟨false, [.int .i64]⟩, ⟨false, [.sl]⟩, ⟨false, [.sl]⟩], [⟨false, [.sl]⟩, ⟨false, [.bool]⟩], fun (x : Int × Int × Sl × Sl) h => seal_Open x.1 x.2.1 x.2.2.1 x.2.2.2 h⟩, ⟨31, [⟨false, [.int .u64]⟩, ⟨false, [.int .u64]⟩], [⟨false, [.int .u64]⟩], fun (x : Int × Int) h => seal_Step x.1 x.2 h⟩]) ann_30 Try.f30 (Try.f30.body.getD .skip) E_30.ys (encP E_30.ps x) h) = (fun (x : Unit) h => P.law4_known seal_Close seal_Open seal_Step  h) := by kernel_rfl
theorem ok_30 : E_30.ok Go.Proofs.Ytejdeibmhlcnbaa.Tab.D := fun x h y h' e => runFK_ok (lstK_ok [E_28, E_29, E_31] (List.forall_mem_cons.2 ⟨ok_28, List.forall_mem_cons.2 ⟨ok_29, List.forall_mem_cons.2 ⟨ok_31, fun E h => nomatch h⟩⟩⟩)) (A := ann_30) (by kernel_rfl) (show Go.Proofs.Ytejdeibmhlcnbaa.Tab.D.fn.get 30 = some Try.f30 by kernel_rfl) (show Try.f30.body = some (Try.f30.body.getD .skip) by kernel_rfl) ((congrFun (congrFun (eq_30 seal_Close seal_Open seal_Step) x) h).trans e)
/-! law4_SealKnown -/
noncomputable def P.law4_SealKnown (seal_Close : Int → Int → Sl → Sl → H → Option ((Sl) × H)) (seal_Open : Int → Int → Sl → Sl → H → Option ((Sl × Bool) × H)) (law4_known : H → Option ((Bool) × H)) (seal_Step : Int → Int → H → Option ((Int) × H)) (seal_Tag : Int → Sl → H → Option ((Int) × H)) (seal_Mask : Int → Int → Sl → H → Option ((Sl) × H))  (h : H) : Option (Bool × H) :=
  bind2 (seal_Close 5 1 (⟨none, 0, 0⟩ : Sl) (⟨none, 0, 0⟩ : Sl) h) fun (x0 : Sl) (h0 : H) =>
  bind2 (seal_Open 5 1 (⟨none, 0, 0⟩ : Sl) x0 h0) fun ((x1, x2) : Sl × Bool) (h1 : H) =>
  bind2 (seal_Open 5 2 (⟨none, 0, 0⟩ : Sl) x0 h1) fun ((x3, x4) : Sl × Bool) (h2 : H) =>
  bind2 (seal_Open 6 1 (⟨none, 0, 0⟩ : Sl) x0 h2) fun ((x5, x6) : Sl × Bool) (h3 : H) =>
  newO (row 5 [(.int .u8 0)]) h3 fun (b : Nat) (h4 : H) =>
  bind2 (seal_Open 5 1 (⟨(some (⟨b, 0, (some 0)⟩ : Addr)), 1, 1⟩ : Sl) x0 h4) fun ((x7, x8) : Sl × Bool) (h5 : H) =>
  bind2 (seal_Open 5 1 (⟨none, 0, 0⟩ : Sl) (⟨none, 0, 0⟩ : Sl) h5) fun ((x9, x10) : Sl × Bool) (h6 : H) =>
  bind2 (law4_known h6) fun (x11 : Bool) (h7 : H) =>
  condK x11 (
    bind2 (seal_Step 2251799813685248 0 h7) fun (x12 : Int) (h8 : H) =>
    condK (x12 == 15485907386658061715) (
      condK (((x0.len : Nat) : Int) == 8) (
        condK x2 (
          condK (((x1.len : Nat) : Int) == 0) (
            condK (!x4) (
              condK (!x6) (
                condK (!x8) (
                  condK (!x10) (
                    bind2 (seal_Tag 7 (⟨none, 0, 0⟩ : Sl) h8) fun (x13 : Int) (h9 : H) =>
                    condK (x13 == 7) (
                      newO (row 31 [(.slice none 0 0)]) h9 fun (b1 : Nat) (h10 : H) =>
                      bind2 (seal_Tag 7 (⟨(some (⟨b1, 0, (some 0)⟩ : Addr)), 1, 1⟩ : Sl) h10) fun (x14 : Int) (h11 : H) =>
                      bind2 (seal_Step 7 256 h11) fun (x15 : Int) (h12 : H) =>
                      condK (x14 == x15) (
                        newO (row 5 [(.int .u8 1)]) h12 fun (b2 : Nat) (h13 : H) =>
                        newO (row 5 [(.int .u8 2)]) h13 fun (b3 : Nat) (h14 : H) =>
                        newO (row 31 [(.slice (some (⟨b2, 0, (some 0)⟩ : Addr)) 1 1), (.slice (some (⟨b3, 0, (some 0)⟩ : Addr)) 1 1)]) h14 fun (b4 : Nat) (h15 : H) =>
                        bind2 (seal_Tag 7 (⟨(some (⟨b4, 0, (some 0)⟩ : Addr)), 2, 2⟩ : Sl) h15) fun (x16 : Int) (h16 : H) =>
                        newO (row 5 [(.int .u8 1), (.int .u8 2)]) h16 fun (b5 : Nat) (h17 : H) =>
                        newO (row 31 [(.slice (some (⟨b5, 0, (some 0)⟩ : Addr)) 2 2)]) h17 fun (b6 : Nat) (h18 : H) =>
                        bind2 (seal_Tag 7 (⟨(some (⟨b6, 0, (some 0)⟩ : Addr)), 1, 1⟩ : Sl) h18) fun (x17 : Int) (h19 : H) =>
                        condK (x16 != x17) (
                          bind2 (seal_Mask 1 2 (⟨none, 0, 0⟩ : Sl) h19) fun (x18 : Sl) (h20 : H) =>
                          bindO (pickV ⟨false, [.bool]⟩ (((x18.len : Nat) : Int) == 0) true false) fun (x19 : Bool) =>
                          some (x19, h20)) (
                          some (false, h19))) (
                        some (false, h12))) (
                      some (false, h9))) (
                    some (false, h8))) (
                  some (false, h8))) (
                some (false, h8))) (
              some (false, h8))) (
            some (false, h8))) (
          some (false, h8))) (
        some (false, h8))) (
      some (false, h8))) (
    some (false, h7))
noncomputable def law4_SealKnown : H → Option ((Bool) × H) := P.law4_SealKnown seal_Close seal_Open law4_known seal_Step seal_Tag seal_Mask
noncomputable def ann_8 : Ann := ⟨fun _ => none, fun _ => none, fun _ => none⟩
noncomputable def E_8 : Ent := ⟨8, [], [⟨false, [.bool]⟩], fun (x : Unit) h => law4_SealKnown h⟩
theorem eq_8 (seal_Close : Int → Int → Sl → Sl → H → Option ((Sl) × H)) (seal_Open : Int → Int → Sl → Sl → H → Option ((Sl × Bool) × H)) (law4_known : H → Option ((Bool) × H)) (seal_Step : Int → Int → H → Option ((Int) × H)) (seal_Tag : Int → Sl → H → Option ((Int) × H)) (seal_Mask : Int → Int → Sl → H → Option ((Sl) × H)) : (fun (x : PT E_8.ps) (h : H) => runFK Go.Proofs.Ytejdeibmhlcnbaa.Tab.D (lstK [⟨28, [⟨false, [.int .u64]⟩, ⟨false, [.int .i64]⟩, ⟨false, [.sl]⟩, ⟨false, [.sl]⟩], [⟨false, [.sl]⟩], fun (x : Int × Int × Sl × Sl) h => seal_Close x.1 x.2.1 x.2.2.1 x.2.2.2 h⟩, ⟨29, [⟨false, [.int .u64]⟩, ⟨false, [.int .i64]⟩, ⟨false, [.sl]⟩, ⟨false, [.sl]⟩], [⟨false, [.sl]⟩, ⟨false, [.bool]⟩], fun (x : Int × Int × Sl × Sl) h => seal_Open x.1 x.2.1 x.2.2.1 x.2.2.2 h⟩, ⟨30, [], [⟨false, [.bool]⟩], fun (x : Unit) h => law4_known h⟩, ⟨31, [⟨false, [.int .u64]⟩, ⟨false, [.int .u64]⟩], [⟨false, [.int .u64]⟩], fun (x : Int × Int) h => seal_Step x.1 x.2 h⟩, ⟨32, [⟨false, [.int .u64]⟩, ⟨false, [.sl]⟩], [⟨false, [.int .u64]⟩], fun (x : Int × Sl) h => seal_Tag x.1 x.2 h⟩, ⟨33, [⟨false, [.int .u64]⟩, ⟨false, [.int .i64]⟩, ⟨false, [.sl]⟩], [⟨false, [.sl]⟩], fun (x : Int × Int × Sl) h => seal_Mask x.1 x.2.1 x.2.2 h⟩]) ann_8 Try.f8 (Try.f8.body.getD .skip) E_8.ys (encP E_8.ps x) h) = (fun (x : Unit) h => P.law4_SealKnown seal_Close seal_Open law4_known seal_Step seal_Tag seal_Mask  h) := by kernel_rfl
theorem ok_8 : E_8.ok Go.Proofs.Ytejdeibmhlcnbaa.Tab.D := fun x h y h' e => runFK_ok (lstK_ok [E_28, E_29, E_30, E_31, E_32, E_33] (List.forall_mem_cons.2 ⟨ok_28, List.forall_mem_cons.2 ⟨ok_29, List.forall_mem_cons.2 ⟨ok_30, List.forall_mem_cons.2 ⟨ok_31, List.forall_mem_cons.2 ⟨ok_32, List.forall_mem_cons.2 ⟨ok_33, fun E h => nomatch h⟩⟩⟩⟩⟩⟩)) (A := ann_8) (by kernel_rfl) (show Go.Proofs.Ytejdeibmhlcnbaa.Tab.D.fn.get 8 = some Try.f8 by kernel_rfl) (show Try.f8.body = some (Try.f8.body.getD .skip) by kernel_rfl) ((congrFun (congrFun (eq_8 seal_Close seal_Open law4_known seal_Step seal_Tag seal_Mask) x) h).trans e)
/-! ref1_Step -/
noncomputable def ref1_Step (h0 : Int) (c : Int) (h : H) : Option (Int × H) :=
  letO ((IntKind.wrap .u64 ((IntKind.wrap .u64 (h0 * 8192)) + (IntKind.wrap .u64 (Int.tdiv h0 2251799813685248))))) fun (x0 : Int) =>
  letO ((IntKind.wrap .u64 (((BitVec.toNat ((BitVec.ofInt 64 x0) ^^^ (BitVec.ofInt 64 c))) : Nat) : Int))) fun (x1 : Int) =>
  some ((IntKind.wrap .u64 (x1 * 15485907386658061715)), h)
noncomputable def ann_34 : Ann := ⟨fun _ => none, fun _ => none, fun _ => none⟩
noncomputable def E_34 : Ent := ⟨34, [⟨false, [.int .u64]⟩, ⟨false, [.int .u64]⟩], [⟨false, [.int .u64]⟩], fun (x : Int × Int) h => ref1_Step x.1 x.2 h⟩
theorem eq_34  : (fun (x : PT E_34.ps) (h : H) => runFK Go.Proofs.Ytejdeibmhlcnbaa.Tab.D (lstK []) ann_34 Try.f34 (Try.f34.body.getD .skip) E_34.ys (encP E_34.ps x) h) = (fun (x : Int × Int) h => ref1_Step x.1 x.2 h) := by kernel_rfl
theorem ok_34 : E_34.ok Go.Proofs.Ytejdeibmhlcnbaa.Tab.D := fun x h y h' e => runFK_ok (lstK_ok [] (fun E h => nomatch h)) (A := ann_34) (by kernel_rfl) (show Go.Proofs.Ytejdeibmhlcnbaa.Tab.D.fn.get 34 = some Try.f34 by kernel_rfl) (show Try.f34.body = some (Try.f34.body.getD .skip) by kernel_rfl) ((congrFun (congrFun (eq_34 ) x) h).trans e)
/-! ref1_Tag -/
noncomputable def P.ref1_Tag_l2 (ref1_Step : Int → Int → H → Option ((Int) × H)) : ((Sl × (Int × (Int × Int))) × H) → Option (((Sl × (Int × (Int × Int))) × H) ⊕ (((Sl × (Int × Int)) × H) ⊕ (((Sl × (Int × Int)) × H) ⊕ (((Sl × (Int × Int)) × H) ⊕ ((Int × H) ⊕ (Int × H)))))) := fun ((parts, (h0, (i, k))), h1) =>
  bindO (ixT 1 parts i) fun (a0 : Addr) =>
  bindO (ldL h1 a0) fun (x0 : Sl) =>
  condK (decide ((k < ((x0.len : Nat) : Int)))) (
    bindO (ixT 1 parts i) fun (a1 : Addr) =>
    bindO (ldL h1 a1) fun (x1 : Sl) =>
    bindO (ixT 1 x1 k) fun (a2 : Addr) =>
    bindO (ldI .u8 h1 a2) fun (x2 : Int) =>
    bind2 (ref1_Step h0 (IntKind.wrap .u64 x2) h1) fun (x3 : Int) (h2 : H) =>
    some (Sum.inl ((parts, (x3, (i, (IntKind.wrap .i64 (k + 1))))), h2))) (
    some (Sum.inr (Sum.inl ((parts, (h0, i)), h1))))

noncomputable def P.ref1_Tag_l1 (ref1_Step : Int → Int → H → Option ((Int) × H)) : ((Sl × (Int × Int)) × H) → Option (((Sl × (Int × Int)) × H) ⊕ ((Int × H) ⊕ (Int × H))) := fun ((parts, (h0, i)), h1) =>
  condK (decide ((i < ((parts.len : Nat) : Int)))) (
    joinO (
      joinO (
        loopO (P.ref1_Tag_l2 ref1_Step) ((parts, (h0, (i, 0))), h1)) fun (((parts1, (h2, i1)), h3) : ((Sl × (Int × Int)) × H)) =>
      bindO (ixT 1 parts1 i1) fun (a0 : Addr) =>
      bindO (ldL h3 a0) fun (x0 : Sl) =>
      bind2 (ref1_Step h2 (IntKind.wrap .u64 (256 + (IntKind.wrap .u64 ((x0.len : Nat) : Int)))) h3) fun (x1 : Int) (h4 : H) =>
      some (Sum.inl ((parts1, (x1, i1)), h4))) fun (((parts1, (h2, i1)), h3) : ((Sl × (Int × Int)) × H)) =>
    some (Sum.inl ((parts1, (h2, (IntKind.wrap .i64 (i1 + 1)))), h3))) (
    some (Sum.inr (Sum.inl (h0, h1))))

noncomputable def P.ref1_Tag (ref1_Step : Int → Int → H → Option ((Int) × H)) (key : Int) (parts : Sl) (h : H) : Option (Int × H) :=
  joinO (
    loopO (P.ref1_Tag_l1 ref1_Step) ((parts, (key, 0)), h)) fun ((h0, h1) : (Int × H)) =>
  some (h0, h1)
noncomputable abbrev ref1_Tag_l2 := P.ref1_Tag_l2 ref1_Step
noncomputable abbrev ref1_Tag_l1 := P.ref1_Tag_l1 ref1_Step
noncomputable def ref1_Tag : Int → Sl → H → Option ((Int) × H) := P.ref1_Tag ref1_Step
noncomputable def ann_35 : Ann := ⟨fun i => bif i.beq 4 then some ⟨[1, 5, 6], [⟨false, [.sl]⟩, ⟨false, [.int .u64]⟩, ⟨false, [.int .i64]⟩]⟩ else bif i.beq 9 then some ⟨[1, 5, 6], [⟨false, [.sl]⟩, ⟨false, [.int .u64]⟩, ⟨false, [.int .i64]⟩]⟩ else bif i.beq 10 then some ⟨[5], [⟨false, [.int .u64]⟩]⟩ else none, fun i => bif i.beq 3 then some ⟨[1, 5, 6], [⟨false, [.sl]⟩, ⟨false, [.int .u64]⟩, ⟨false, [.int .i64]⟩]⟩ else bif i.beq 6 then some ⟨[1, 5, 6, 7], [⟨false, [.sl]⟩, ⟨false, [.int .u64]⟩, ⟨false, [.int .i64]⟩, ⟨false, [.int .i64]⟩]⟩ else none, fun _ => none⟩
noncomputable def E_35 : Ent := ⟨35, [⟨false, [.int .u64]⟩, ⟨false, [.sl]⟩], [⟨false, [.int .u64]⟩], fun (x : Int × Sl) h => ref1_Tag x.1 x.2 h⟩
theorem eq_35 (ref1_Step : Int → Int → H → Option ((Int) × H)) : (fun (x : PT E_35.ps) (h : H) => runFK Go.Proofs.Ytejdeibmhlcnbaa.Tab.D (lstK [⟨34, [⟨false, [.int .u64]⟩, ⟨false, [.int .u64]⟩], [⟨false, [.int .u64]⟩], fun (x : Int × Int) h => ref1_Step x.1 x.2 h⟩]) ann_35 Try.f35 (Try.f35.body.getD .skip) E_35.ys (encP E_35.ps x) h) = (fun (x : Int × Sl) h => P.ref1_Tag ref1_Step x.1 x.2 h) := by kernel_rfl
theorem ok_35 : E_35.ok Go.Proofs.Ytejdeibmhlcnbaa.Tab.D := fun x h y h' e => runFK_ok (lstK_ok [E_34] (List.forall_mem_cons.2 ⟨ok_34, fun E h => nomatch h⟩)) (A := ann_35) (by kernel_rfl) (show Go.Proofs.Ytejdeibmhlcnbaa.Tab.D.fn.get 35 = some Try.f35 by kernel_rfl) (show Try.f35.body = some (Try.f35.body.getD .skip) by kernel_rfl) ((congrFun (congrFun (eq_35 ref1_Step) x) h).trans e)
/-! ref1_Mask -/
noncomputable def P.ref1_Mask_l1 (ref1_Step : Int → Int → H → Option ((Int) × H)) : ((Int × (Int × (Sl × (Sl × Int)))) × H) → Option (((Int × (Int × (Sl × (Sl × Int)))) × H) ⊕ ((Sl × H) ⊕ (Sl × H))) := fun ((key, (num, (b, (out, i)))), h0) =>
  condK (decide ((i < ((b.len : Nat) : Int)))) (
    bindO (ixT 1 b i) fun (a0 : Addr) =>
    bindO (ldI .u8 (growIf h0 18) a0) fun (x0 : Int) =>
    bind2 (ref1_Step key (IntKind.wrap .u64 num) (growIf h0 18)) fun (x1 : Int) (h1 : H) =>
    bind2 (ref1_Step x1 (IntKind.wrap .u64 i) h1) fun (x2 : Int) (h2 : H) =>
    letO ((IntKind.wrap .u8 (((BitVec.toNat ((BitVec.ofInt 8 x0) ^^^ (BitVec.ofInt 8 (IntKind.wrap .u8 (Int.fdiv x2 4294967296))))) : Nat) : Int))) fun (x3 : Int) =>
    bind2 (appT 5 1 1 (addP 65535 h0.size [(15, (row 5 [(.int .u8 x3)]))] h2) out (⟨(some (⟨(h0.size + 15), 0, (some 0)⟩ : Addr)), 1, 1⟩ : Sl)) fun (x4 : Sl) (h3 : H) =>
    bindO (ldI .u8 (addP 14 h0.size [(15, (row 5 [(.int .u8 x3)]))] h2) a0) fun (x5 : Int) =>
    condK (x5 == x0) (
      bindO (ldI .u8 (addP 14 h0.size [(15, (row 5 [(.int .u8 x3)]))] h1) a0) fun (x6 : Int) =>
      condK (x6 == x0) (
        some (Sum.inl ((key, (num, (b, (x4, (IntKind.wrap .i64 (i + 1)))))), (tickIf 18 (addP 262143 h0.size [(15, (row 5 [(.int .u8 x3)]))] h3))))) none) none) (
    some (Sum.inr (Sum.inl (out, h0))))

noncomputable def P.ref1_Mask (ref1_Step : Int → Int → H → Option ((Int) × H)) (key : Int) (num : Int) (b : Sl) (h : H) : Option (Sl × H) :=
  joinO (
    loopO (P.ref1_Mask_l1 ref1_Step) ((key, (num, (b, ((⟨none, 0, 0⟩ : Sl), 0)))), h)) fun ((out, h0) : (Sl × H)) =>
  some (out, h0)
noncomputable abbrev ref1_Mask_l1 := P.ref1_Mask_l1 ref1_Step
noncomputable def ref1_Mask : Int → Int → Sl → H → Option ((Sl) × H) := P.ref1_Mask ref1_Step
noncomputable def ann_36 : Ann := ⟨fun i => bif i.beq 6 then some ⟨[7], [⟨false, [.sl]⟩]⟩ else none, fun i => bif i.beq 3 then some ⟨[0, 1, 2, 7, 8], [⟨false, [.int .u64]⟩, ⟨false, [.int .i64]⟩, ⟨false, [.sl]⟩, ⟨false, [.sl]⟩, ⟨false, [.int .i64]⟩]⟩ else none, fun _ => none⟩
noncomputable def E_36 : Ent := ⟨36, [⟨false, [.int .u64]⟩, ⟨false, [.int .i64]⟩, ⟨false, [.sl]⟩], [⟨false, [.sl]⟩], fun (x : Int × Int × Sl) h => ref1_Mask x.1 x.2.1 x.2.2 h⟩
theorem eq_36 (ref1_Step : Int → Int → H → Option ((Int) × H)) : (fun (x : PT E_36.ps) (h : H) => runFK Go.Proofs.Ytejdeibmhlcnbaa.Tab.D (lstK [⟨34, [⟨false, [.int .u64]⟩, ⟨false, [.int .u64]⟩], [⟨false, [.int .u64]⟩], fun (x : Int × Int) h => ref1_Step x.1 x.2 h⟩]) ann_36 Try.f36 (Try.f36.body.getD .skip) E_36.ys (encP E_36.ps x) h) = (fun (x : Int × Int × Sl) h => P.ref1_Mask ref1_Step x.1 x.2.1 x.2.2 h) := by kernel_rfl
theorem ok_36 : E_36.ok Go.Proofs.Ytejdeibmhlcnbaa.Tab.D := fun x h y h' e => runFK_ok (lstK_ok [E_34] (List.forall_mem_cons.2 ⟨ok_34, fun E h => nomatch h⟩)) (A := ann_36) (by kernel_rfl) (show Go.Proofs.Ytejdeibmhlcnbaa.Tab.D.fn.get 36 = some Try.f36 by kernel_rfl) (show Try.f36.body = some (Try.f36.body.getD .skip) by kernel_rfl) ((congrFun (congrFun (eq_36 ref1_Step) x) h).trans e)
/-! ref1_eight -/
noncomputable def ref1_eight_l1 : ((Int × (Sl × Int)) × H) → Option (((Int × (Sl × Int)) × H) ⊕ ((Sl × H) ⊕ (Sl × H))) := fun ((h0, (out, i)), h1) =>
  condK (decide ((i ≥ 0))) (
    bindO (ixT 1 out i) fun (a0 : Addr) =>
    bindO (st1 h1 a0 (.int .u8 (IntKind.wrap .u8 (Int.tmod h0 256)))) fun (h2 : H) =>
    some (Sum.inl (((IntKind.wrap .u64 (Int.tdiv h0 256)), (out, (IntKind.wrap .i64 (i - 1)))), h2))) (
    some (Sum.inr (Sum.inl (out, h1))))

noncomputable def ref1_eight (h0 : Int) (h : H) : Option (Sl × H) :=
  bind2 (mkT 5 1 1 (.int .u8 0) h 8 8) fun (x0 : Sl) (h1 : H) =>
  joinO (
    loopO ref1_eight_l1 ((h0, (x0, 7)), h1)) fun ((out, h2) : (Sl × H)) =>
  some (out, h2)
noncomputable def ann_58 : Ann := ⟨fun i => bif i.beq 7 then some ⟨[3], [⟨false, [.sl]⟩]⟩ else none, fun i => bif i.beq 3 then some ⟨[0, 3, 4], [⟨false, [.int .u64]⟩, ⟨false, [.sl]⟩, ⟨false, [.int .i64]⟩]⟩ else none, fun _ => none⟩
noncomputable def E_58 : Ent := ⟨58, [⟨false, [.int .u64]⟩], [⟨false, [.sl]⟩], fun (x : Int) h => ref1_eight x h⟩
theorem eq_58  : (fun (x : PT E_58.ps) (h : H) => runFK Go.Proofs.Ytejdeibmhlcnbaa.Tab.D (lstK []) ann_58 Try.f58 (Try.f58.body.getD .skip) E_58.ys (encP E_58.ps x) h) = (fun (x : Int) h => ref1_eight x h) := by kernel_rfl
theorem ok_58 : E_58.ok Go.Proofs.Ytejdeibmhlcnbaa.Tab.D := fun x h y h' e => runFK_ok (lstK_ok [] (fun E h => nomatch h)) (A := ann_58) (by kernel_rfl) (show Go.Proofs.Ytejdeibmhlcnbaa.Tab.D.fn.get 58 = some Try.f58 by kernel_rfl) (show Try.f58.body = some (Try.f58.body.getD .skip) by kernel_rfl) ((congrFun (congrFun (eq_58 ) x) h).trans e)
/-! ref1_Close -/
noncomputable def P.ref1_Close (ref1_Mask : Int → Int → Sl → H → Option ((Sl) × H)) (ref1_Step : Int → Int → H → Option ((Int) × H)) (ref1_Tag : Int → Sl → H → Option ((Int) × H)) (ref1_eight : Int → H → Option ((Sl) × H)) (key : Int) (num : Int) (head : Sl) (body : Sl) (h : H) : Option (Sl × H) :=
  bind2 (ref1_Mask key num body h) fun (x0 : Sl) (h0 : H) =>
  newO (row 5 []) h0 fun (b : Nat) (h1 : H) =>
  bind2 (appT 5 1 1 h1 (⟨(some (⟨b, 0, (some 0)⟩ : Addr)), 0, 0⟩ : Sl) x0) fun (x1 : Sl) (h2 : H) =>
  bind2 (ref1_Step key (IntKind.wrap .u64 num) h2) fun (x2 : Int) (h3 : H) =>
  newO (row 31 [(.slice head.base head.len head.cap), (.slice x0.base x0.len x0.cap)]) h3 fun (b1 : Nat) (h4 : H) =>
  bind2 (ref1_Tag x2 (⟨(some (⟨b1, 0, (some 0)⟩ : Addr)), 2, 2⟩ : Sl) h4) fun (x3 : Int) (h5 : H) =>
  bind2 (ref1_eight x3 h5) fun (x4 : Sl) (h6 : H) =>
  bind2 (appT 5 1 1 h6 x1 x4) fun (x5 : Sl) (h7 : H) =>
  some (x5, h7)
noncomputable def ref1_Close : Int → Int → Sl → Sl → H → Option ((Sl) × H) := P.ref1_Close ref1_Mask ref1_Step ref1_Tag ref1_eight
noncomputable def ann_37 : Ann := ⟨fun _ => none, fun _ => none, fun _ => none⟩
noncomputable def E_37 : Ent := ⟨37, [⟨false, [.int .u64]⟩, ⟨false, [.int .i64]⟩, ⟨false, [.sl]⟩, ⟨false, [.sl]⟩], [⟨false, [.sl]⟩], fun (x : Int × Int × Sl × Sl) h => ref1_Close x.1 x.2.1 x.2.2.1 x.2.2.2 h⟩
theorem eq_37 (ref1_Mask : Int → Int → Sl → H → Option ((Sl) × H)) (ref1_Step : Int → Int → H → Option ((Int) × H)) (ref1_Tag : Int → Sl → H → Option ((Int) × H)) (ref1_eight : Int → H → Option ((Sl) × H)) : (fun (x : PT E_37.ps) (h : H) => runFK Go.Proofs.Ytejdeibmhlcnbaa.Tab.D (lstK [⟨36, [⟨false, [.int .u64]⟩, ⟨false, [.int .i64]⟩, ⟨false, [.sl]⟩], [⟨false, [.sl]⟩], fun (x : Int × Int × Sl) h => ref1_Mask x.1 x.2.1 x.2.2 h⟩, ⟨34, [⟨false, [.int .u64]⟩, ⟨false, [.int .u64]⟩], [⟨false, [.int .u64]⟩], fun (x : Int × Int) h => ref1_Step x.1 x.2 h⟩, ⟨35, [⟨false, [.int .u64]⟩, ⟨false, [.sl]⟩], [⟨false, [.int .u64]⟩], fun (x : Int × Sl) h => ref1_Tag x.1 x.2 h⟩, ⟨58, [⟨false, [.int .u64]⟩], [⟨false, [.sl]⟩], fun (x : Int) h => ref1_eight x h⟩]) ann_37 Try.f37 (Try.f37.body.getD .skip) E_37.ys (encP E_37.ps x) h) = (fun (x : Int × Int × Sl × Sl) h => P.ref1_Close ref1_Mask ref1_Step ref1_Tag ref1_eight x.1 x.2.1 x.2.2.1 x.2.2.2 h) := by kernel_rfl
theorem ok_37 : E_37.ok Go.Proofs.Ytejdeibmhlcnbaa.Tab.D := fun x h y h' e => runFK_ok (lstK_ok [E_36, E_34, E_35, E_58] (List.forall_mem_cons.2 ⟨ok_36, List.forall_mem_cons.2 ⟨ok_34, List.forall_mem_cons.2 ⟨ok_35, List.forall_mem_cons.2 ⟨ok_58, fun E h => nomatch h⟩⟩⟩⟩)) (A := ann_37) (by kernel_rfl) (show Go.Proofs.Ytejdeibmhlcnbaa.Tab.D.fn.get 37 = some Try.f37 by kernel_rfl) (show Try.f37.body = some (Try.f37.body.getD .skip) by kernel_rfl) ((congrFun (congrFun (eq_37 ref1_Mask ref1_Step ref1_Tag ref1_eight) x) h).trans e)
/-! ref1_Open -/
noncomputable def P.ref1_Open (ref1_Step : Int → Int → H → Option ((Int) × H)) (ref1_Tag : Int → Sl → H → Option ((Int) × H)) (ref1_eight : Int → H → Option ((Sl) × H)) (ref1_Mask : Int → Int → Sl → H → Option ((Sl) × H)) (key : Int) (num : Int) (head : Sl) (sealed : Sl) (h : H) : Option ((Sl × Bool) × H) :=
  joinO (
    condK (decide (((IntKind.wrap .i64 (((sealed.len : Nat) : Int) - 8)) < 0))) (
      some (Sum.inl ((key, (num, (sealed, ((IntKind.wrap .i64 (((sealed.len : Nat) : Int) - 8)), true)))), (tickIf 21 (growIf h 21))))) (
      bind2 (ref1_Step key (IntKind.wrap .u64 num) (growIf h 21)) fun (x0 : Int) (h0 : H) =>
      bindO (slT 1 h0 sealed none (some (IntKind.wrap .i64 (((sealed.len : Nat) : Int) - 8))) none) fun (x1 : Sl) =>
      bind2 (ref1_Tag x0 (⟨(some (⟨(h.size + 11), 0, (some 0)⟩ : Addr)), 2, 2⟩ : Sl) (addP 4095 h.size [(11, (row 31 [(.slice head.base head.len head.cap), (.slice x1.base x1.len x1.cap)]))] h0)) fun (x2 : Int) (h1 : H) =>
      bind2 (ref1_eight x2 (addP 8191 h.size [(11, (row 31 [(.slice head.base head.len head.cap), (.slice x1.base x1.len x1.cap)]))] h1)) fun (x3 : Sl) (h2 : H) =>
      bind2 (strT (addP 16383 h.size [(11, (row 31 [(.slice head.base head.len head.cap), (.slice x1.base x1.len x1.cap)]))] h2) x3) fun (x4 : ByteArray) (h3 : H) =>
      bindO (slT 1 (addP 98311 h.size [(11, (row 31 [(.slice head.base head.len head.cap), (.slice x1.base x1.len x1.cap)]))] h2) sealed (some (IntKind.wrap .i64 (((sealed.len : Nat) : Int) - 8))) none none) fun (x5 : Sl) =>
      bind2 (strT (addP 229383 h.size [(11, (row 31 [(.slice head.base head.len head.cap), (.slice x1.base x1.len x1.cap)]))] h2) x5) fun (x6 : ByteArray) (h4 : H) =>
      bind2 (strT (addP 229383 h.size [(11, (row 31 [(.slice head.base head.len head.cap), (.slice x1.base x1.len x1.cap)]))] h1) x5) fun (x7 : ByteArray) (h5 : H) =>
      condK (x7.data.toList == x6.data.toList) (
        bind2 (strT (addP 229383 h.size [(11, (row 31 [(.slice head.base head.len head.cap), (.slice x1.base x1.len x1.cap)]))] h0) x5) fun (x8 : ByteArray) (h6 : H) =>
        condK (x8.data.toList == x6.data.toList) (
          bind2 (strT (addP 229383 h.size [(11, (row 31 [(.slice head.base head.len head.cap), (.slice x1.base x1.len x1.cap)]))] (growIf h 21)) x5) fun (x9 : ByteArray) (h7 : H) =>
          condK (x9.data.toList == x6.data.toList) (
            bindO (slT 1 (addP 98311 h.size [(11, (row 31 [(.slice head.base head.len head.cap), (.slice x1.base x1.len x1.cap)]))] h1) sealed (some (IntKind.wrap .i64 (((sealed.len : Nat) : Int) - 8))) none none) fun (x10 : Sl) =>
            condK (slEq x10.base x10.len x10.cap x5.base x5.len x5.cap) (
              bindO (slT 1 (addP 98311 h.size [(11, (row 31 [(.slice head.base head.len head.cap), (.slice x1.base x1.len x1.cap)]))] h0) sealed (some (IntKind.wrap .i64 (((sealed.len : Nat) : Int) - 8))) none none) fun (x11 : Sl) =>
              condK (slEq x11.base x11.len x11.cap x5.base x5.len x5.cap) (
                bindO (slT 1 (addP 98311 h.size [(11, (row 31 [(.slice head.base head.len head.cap), (.slice x1.base x1.len x1.cap)]))] (growIf h 21)) sealed (some (IntKind.wrap .i64 (((sealed.len : Nat) : Int) - 8))) none none) fun (x12 : Sl) =>
                condK (slEq x12.base x12.len x12.cap x5.base x5.len x5.cap) (
                  bindO (slT 1 (addP 775 h.size [(11, (row 31 [(.slice head.base head.len head.cap), (.slice x1.base x1.len x1.cap)]))] (growIf h 21)) sealed none (some (IntKind.wrap .i64 (((sealed.len : Nat) : Int) - 8))) none) fun (x13 : Sl) =>
                  condK (slEq x13.base x13.len x13.cap x1.base x1.len x1.cap) (
                    some (Sum.inl ((key, (num, (sealed, ((IntKind.wrap .i64 (((sealed.len : Nat) : Int) - 8)), (!(x4.toList == x6.toList)))))), (tickIf 21 (addP 2097151 h.size [(11, (row 31 [(.slice head.base head.len head.cap), (.slice x1.base x1.len x1.cap)]))] h2))))) none) none) none) none) none) none) none)) fun (((key1, (num1, (sealed1, (n, x0)))), h0) : ((Int × (Int × (Sl × (Int × Bool)))) × H)) =>
  condK x0 (
    some (((⟨none, 0, 0⟩ : Sl), false), h0)) (
    bindO (slT 1 h0 sealed1 none (some n) none) fun (x1 : Sl) =>
    bind2 (ref1_Mask key1 num1 x1 h0) fun (x2 : Sl) (h1 : H) =>
    some ((x2, true), h1))
noncomputable def ref1_Open : Int → Int → Sl → Sl → H → Option ((Sl × Bool) × H) := P.ref1_Open ref1_Step ref1_Tag ref1_eight ref1_Mask
noncomputable def ann_38 : Ann := ⟨fun _ => none, fun _ => none, fun i => bif i.beq 2 then some ⟨[0, 1, 3, 10, 34], [⟨false, [.int .u64]⟩, ⟨false, [.int .i64]⟩, ⟨false, [.sl]⟩, ⟨false, [.int .i64]⟩, ⟨false, [.bool]⟩]⟩ else none⟩
noncomputable def E_38 : Ent := ⟨38, [⟨false, [.int .u64]⟩, ⟨false, [.int .i64]⟩, ⟨false, [.sl]⟩, ⟨false, [.sl]⟩], [⟨false, [.sl]⟩, ⟨false, [.bool]⟩], fun (x : Int × Int × Sl × Sl) h => ref1_Open x.1 x.2.1 x.2.2.1 x.2.2.2 h⟩
theorem eq_38 (ref1_Step : Int → Int → H → Option ((Int) × H)) (ref1_Tag : Int → Sl → H → Option ((Int) × H)) (ref1_eight : Int → H → Option ((Sl) × H)) (ref1_Mask : Int → Int → Sl → H → Option ((Sl) × H)) : (fun (x : PT E_38.ps) (h : H) => runFK Go.Proofs.Ytejdeibmhlcnbaa.Tab.D (lstK [⟨34, [⟨false, [.int .u64]⟩, ⟨false, [.int .u64]⟩], [⟨false, [.int .u64]⟩], fun (x : Int × Int) h => ref1_Step x.1 x.2 h⟩, ⟨35, [⟨false, [.int .u64]⟩, ⟨false, [.sl]⟩], [⟨false, [.int .u64]⟩], fun (x : Int × Sl) h => ref1_Tag x.1 x.2 h⟩, ⟨58, [⟨false, [.int .u64]⟩], [⟨false, [.sl]⟩], fun (x : Int) h => ref1_eight x h⟩, ⟨36, [⟨false, [.int .u64]⟩, ⟨false, [.int .i64]⟩, ⟨false, [.sl]⟩], [⟨false, [.sl]⟩], fun (x : Int × Int × Sl) h => ref1_Mask x.1 x.2.1 x.2.2 h⟩]) ann_38 Try.f38 (Try.f38.body.getD .skip) E_38.ys (encP E_38.ps x) h) = (fun (x : Int × Int × Sl × Sl) h => P.ref1_Open ref1_Step ref1_Tag ref1_eight ref1_Mask x.1 x.2.1 x.2.2.1 x.2.2.2 h) := by kernel_rfl
theorem ok_38 : E_38.ok Go.Proofs.Ytejdeibmhlcnbaa.Tab.D := fun x h y h' e => runFK_ok (lstK_ok [E_34, E_35, E_58, E_36] (List.forall_mem_cons.2 ⟨ok_34, List.forall_mem_cons.2 ⟨ok_35, List.forall_mem_cons.2 ⟨ok_58, List.forall_mem_cons.2 ⟨ok_36, fun E h => nomatch h⟩⟩⟩⟩)) (A := ann_38) (by kernel_rfl) (show Go.Proofs.Ytejdeibmhlcnbaa.Tab.D.fn.get 38 = some Try.f38 by kernel_rfl) (show Try.f38.body = some (Try.f38.body.getD .skip) by kernel_rfl) ((congrFun (congrFun (eq_38 ref1_Step ref1_Tag ref1_eight ref1_Mask) x) h).trans e)
/-! hand_Few -/
noncomputable def hand_Few (b : Sl) (n : Int) (h : H) : Option (Sl × H) :=
  joinO (
    condK (decide ((((b.len : Nat) : Int) > n))) (
      bindO (slT 1 h b none (some n) none) fun (x0 : Sl) =>
      some (Sum.inl (x0, h))) (
      some (Sum.inl (b, h)))) fun ((b1, h0) : (Sl × H)) =>
  newO (row 5 []) h0 fun (b2 : Nat) (h1 : H) =>
  bind2 (appT 5 1 1 h1 (⟨(some (⟨b2, 0, (some 0)⟩ : Addr)), 0, 0⟩ : Sl) b1) fun (x0 : Sl) (h2 : H) =>
  some (x0, h2)
noncomputable def ann_39 : Ann := ⟨fun i => bif i.beq 3 then some ⟨[0], [⟨false, [.sl]⟩]⟩ else none, fun _ => none, fun _ => none⟩
noncomputable def E_39 : Ent := ⟨39, [⟨false, [.sl]⟩, ⟨false, [.int .i64]⟩], [⟨false, [.sl]⟩], fun (x : Sl × Int) h => hand_Few x.1 x.2 h⟩
theorem eq_39  : (fun (x : PT E_39.ps) (h : H) => runFK Go.Proofs.Ytejdeibmhlcnbaa.Tab.D (lstK []) ann_39 Try.f39 (Try.f39.body.getD .skip) E_39.ys (encP E_39.ps x) h) = (fun (x : Sl × Int) h => hand_Few x.1 x.2 h) := by kernel_rfl
theorem ok_39 : E_39.ok Go.Proofs.Ytejdeibmhlcnbaa.Tab.D := fun x h y h' e => runFK_ok (lstK_ok [] (fun E h => nomatch h)) (A := ann_39) (by kernel_rfl) (show Go.Proofs.Ytejdeibmhlcnbaa.Tab.D.fn.get 39 = some Try.f39 by kernel_rfl) (show Try.f39.body = some (Try.f39.body.getD .skip) by kernel_rfl) ((congrFun (congrFun (eq_39 ) x) h).trans e)
/-! law4_SealBack -/
noncomputable def P.law4_SealBack (seal_Close : Int → Int → Sl → Sl → H → Option ((Sl) × H)) (seal_Open : Int → Int → Sl → Sl → H → Option ((Sl × Bool) × H)) (law4_known : H → Option ((Bool) × H)) (seal_Mask : Int → Int → Sl → H → Option ((Sl) × H)) (hand_Few : Sl → Int → H → Option ((Sl) × H)) (hand_Pick : Int → Int → H → Option ((Int) × H)) (key : Int) (other : Int) (num : Int) (m : Int) (head : Sl) (body : Sl) (at' : Int) (by' : Int) (h : H) : Option (Bool × H) :=
  bind2 (seal_Close key num head body h) fun (x0 : Sl) (h0 : H) =>
  bind2 (seal_Open key num head x0 h0) fun ((x1, x2) : Sl × Bool) (h1 : H) =>
  joinO (
    bind2 (law4_known h1) fun (x3 : Bool) (h2 : H) =>
    condK (!x3) (
      some (Sum.inl ((key, (other, (num, (m, (head, (at', (by', (x0, true)))))))), h2))) (
      condK (!x2) (
        some (Sum.inl ((key, (other, (num, (m, (head, (at', (by', (x0, true)))))))), h2))) (
        bind2 (strT h2 x1) fun (x4 : ByteArray) (h3 : H) =>
        bind2 (strT h2 body) fun (x5 : ByteArray) (h4 : H) =>
        condK (!(x4.toList == x5.toList)) (
          some (Sum.inl ((key, (other, (num, (m, (head, (at', (by', (x0, true)))))))), h2))) (
          letO ((((x0.len : Nat) : Int) != (IntKind.wrap .i64 (((body.len : Nat) : Int) + 8)))) fun (x6 : Bool) =>
          condK x6 (
            some (Sum.inl ((key, (other, (num, (m, (head, (at', (by', (x0, true)))))))), h2))) (
            bind2 (seal_Mask key num body h2) fun (x7 : Sl) (h5 : H) =>
            bind2 (seal_Mask key num x7 h5) fun (x8 : Sl) (h6 : H) =>
            bind2 (strT h6 x8) fun (x9 : ByteArray) (h7 : H) =>
            bind2 (strT h6 body) fun (x10 : ByteArray) (h8 : H) =>
            bind2 (strT h5 body) fun (x11 : ByteArray) (h9 : H) =>
            condK (x11.data.toList == x10.data.toList) (
              bind2 (strT h2 body) fun (x12 : ByteArray) (h10 : H) =>
              condK (x12.data.toList == x10.data.toList) (
                some (Sum.inl ((key, (other, (num, (m, (head, (at', (by', (x0, (!(x9.toList == x10.toList)))))))))), h6))) none) none))))) fun (((key1, (other1, (num1, (m1, (head1, (at'1, (by'1, (x3, x4)))))))), h2) : ((Int × (Int × (Int × (Int × (Sl × (Int × (Int × (Sl × Bool)))))))) × H)) =>
  condK x4 (
    some (false, h2)) (
    bind2 (seal_Open other1 num1 head1 x3 h2) fun ((x5, x6) : Sl × Bool) (h3 : H) =>
    bind2 (seal_Open key1 m1 head1 x3 h3) fun ((x7, x8) : Sl × Bool) (h4 : H) =>
    joinO (
      condK (!(x6 == (other1 == key1))) (
        some (Sum.inl ((key1, (num1, (head1, (at'1, (by'1, (x3, true)))))), h4))) (
        some (Sum.inl ((key1, (num1, (head1, (at'1, (by'1, (x3, (!(x8 == (m1 == num1))))))))), h4)))) fun (((key2, (num2, (head2, (at'2, (by'2, (x9, x10)))))), h5) : ((Int × (Int × (Sl × (Int × (Int × (Sl × Bool)))))) × H)) =>
    condK x10 (
      some (false, h5)) (
      condK (by'2 == 0) (
        some (true, h5)) (
        bind2 (hand_Few x9 ((x9.len : Nat) : Int) h5) fun (x11 : Sl) (h6 : H) =>
        bind2 (hand_Few head2 ((head2.len : Nat) : Int) h6) fun (x12 : Sl) (h7 : H) =>
        letO ((IntKind.wrap .i64 (((x9.len : Nat) : Int) + ((head2.len : Nat) : Int)))) fun (x13 : Int) =>
        bind2 (hand_Pick at'2 x13 h7) fun (x14 : Int) (h8 : H) =>
        joinO (
          condK (decide ((x14 < ((x12.len : Nat) : Int)))) (
            bindO (ixT 1 x12 x14) fun (a0 : Addr) =>
            bindO (ldI .u8 h8 a0) fun (x15 : Int) =>
            letO ((IntKind.wrap .u8 (((BitVec.toNat ((BitVec.ofInt 8 x15) ^^^ (BitVec.ofInt 8 by'2))) : Nat) : Int))) fun (x16 : Int) =>
            bindO (ixT 1 x12 x14) fun (a1 : Addr) =>
            bindO (st1 h8 a1 (.int .u8 x16)) fun (h9 : H) =>
            some (Sum.inl ((key2, (num2, (x11, x12))), h9))) (
            bindO (ixT 1 x11 (IntKind.wrap .i64 (x14 - ((x12.len : Nat) : Int)))) fun (a2 : Addr) =>
            bindO (ldI .u8 h8 a2) fun (x17 : Int) =>
            letO ((IntKind.wrap .u8 (((BitVec.toNat ((BitVec.ofInt 8 x17) ^^^ (BitVec.ofInt 8 by'2))) : Nat) : Int))) fun (x18 : Int) =>
            bindO (ixT 1 x11 (IntKind.wrap .i64 (x14 - ((x12.len : Nat) : Int)))) fun (a3 : Addr) =>
            bindO (st1 h8 a3 (.int .u8 x18)) fun (h10 : H) =>
            some (Sum.inl ((key2, (num2, (x11, x12))), h10)))) fun (((key3, (num3, (y, h9))), h10) : ((Int × (Int × (Sl × Sl))) × H)) =>
        bind2 (seal_Open key3 num3 h9 y h10) fun ((x15, x16) : Sl × Bool) (h11 : H) =>
        some ((!x16), h11))))
noncomputable def law4_SealBack : Int → Int → Int → Int → Sl → Sl → Int → Int → H → Option ((Bool) × H) := P.law4_SealBack seal_Close seal_Open law4_known seal_Mask hand_Few hand_Pick
noncomputable def ann_10 : Ann := ⟨fun i => bif i.beq 17 then some ⟨[0, 2, 24, 25], [⟨false, [.int .u64]⟩, ⟨false, [.int .i64]⟩, ⟨false, [.sl]⟩, ⟨false, [.sl]⟩]⟩ else none, fun _ => none, fun i => bif i.beq 3 then some ⟨[0, 1, 2, 3, 4, 6, 7, 17, 75], [⟨false, [.int .u64]⟩, ⟨false, [.int .u64]⟩, ⟨false, [.int .i64]⟩, ⟨false, [.int .i64]⟩, ⟨false, [.sl]⟩, ⟨false, [.int .i64]⟩, ⟨false, [.int .u8]⟩, ⟨false, [.sl]⟩, ⟨false, [.bool]⟩]⟩ else bif i.beq 7 then some ⟨[0, 2, 4, 6, 7, 17, 103], [⟨false, [.int .u64]⟩, ⟨false, [.int .i64]⟩, ⟨false, [.sl]⟩, ⟨false, [.int .i64]⟩, ⟨false, [.int .u8]⟩, ⟨false, [.sl]⟩, ⟨false, [.bool]⟩]⟩ else none⟩
noncomputable def E_10 : Ent := ⟨10, [⟨false, [.int .u64]⟩, ⟨false, [.int .u64]⟩, ⟨false, [.int .i64]⟩, ⟨false, [.int .i64]⟩, ⟨false, [.sl]⟩, ⟨false, [.sl]⟩, ⟨false, [.int .i64]⟩, ⟨false, [.int .u8]⟩], [⟨false, [.bool]⟩], fun (x : Int × Int × Int × Int × Sl × Sl × Int × Int) h => law4_SealBack x.1 x.2.1 x.2.2.1 x.2.2.2.1 x.2.2.2.2.1 x.2.2.2.2.2.1 x.2.2.2.2.2.2.1 x.2.2.2.2.2.2.2 h⟩
theorem eq_10 (seal_Close : Int → Int → Sl → Sl → H → Option ((Sl) × H)) (seal_Open : Int → Int → Sl → Sl → H → Option ((Sl × Bool) × H)) (law4_known : H → Option ((Bool) × H)) (seal_Mask : Int → Int → Sl → H → Option ((Sl) × H)) (hand_Few : Sl → Int → H → Option ((Sl) × H)) (hand_Pick : Int → Int → H → Option ((Int) × H)) : (fun (x : PT E_10.ps) (h : H) => runFK Go.Proofs.Ytejdeibmhlcnbaa.Tab.D (lstK [⟨28, [⟨false, [.int .u64]⟩, ⟨false, [.int .i64]⟩, ⟨false, [.sl]⟩, ⟨false, [.sl]⟩], [⟨false, [.sl]⟩], fun (x : Int × Int × Sl × Sl) h => seal_Close x.1 x.2.1 x.2.2.1 x.2.2.2 h⟩, ⟨29, [⟨false, [.int .u64]⟩, ⟨false, [.int .i64]⟩, ⟨false, [.sl]⟩, ⟨false, [.sl]⟩], [⟨false, [.sl]⟩, ⟨false, [.bool]⟩], fun (x : Int × Int × Sl × Sl) h => seal_Open x.1 x.2.1 x.2.2.1 x.2.2.2 h⟩, ⟨30, [], [⟨false, [.bool]⟩], fun (x : Unit) h => law4_known h⟩, ⟨33, [⟨false, [.int .u64]⟩, ⟨false, [.int .i64]⟩, ⟨false, [.sl]⟩], [⟨false, [.sl]⟩], fun (x : Int × Int × Sl) h => seal_Mask x.1 x.2.1 x.2.2 h⟩, ⟨39, [⟨false, [.sl]⟩, ⟨false, [.int .i64]⟩], [⟨false, [.sl]⟩], fun (x : Sl × Int) h => hand_Few x.1 x.2 h⟩, ⟨18, [⟨false, [.int .i64]⟩, ⟨false, [.int .i64]⟩], [⟨false, [.int .i64]⟩], fun (x : Int × Int) h => hand_Pick x.1 x.2 h⟩]) ann_10 Try.f10 (Try.f10.body.getD .skip) E_10.ys (encP E_10.ps x) h) = (fun (x : Int × Int × Int × Int × Sl × Sl × Int × Int) h => P.law4_SealBack seal_Close seal_Open law4_known seal_Mask hand_Few hand_Pick x.1 x.2.1 x.2.2.1 x.2.2.2.1 x.2.2.2.2.1 x.2.2.2.2.2.1 x.2.2.2.2.2.2.1 x.2.2.2.2.2.2.2 h) := by kernel_rfl
theorem ok_10 : E_10.ok Go.Proofs.Ytejdeibmhlcnbaa.Tab.D := fun x h y h' e => runFK_ok (lstK_ok [E_28, E_29, E_30, E_33, E_39, E_18] (List.forall_mem_cons.2 ⟨ok_28, List.forall_mem_cons.2 ⟨ok_29, List.forall_mem_cons.2 ⟨ok_30, List.forall_mem_cons.2 ⟨ok_33, List.forall_mem_cons.2 ⟨ok_39, List.forall_mem_cons.2 ⟨ok_18, fun E h => nomatch h⟩⟩⟩⟩⟩⟩)) (A := ann_10) (by kernel_rfl) (show Go.Proofs.Ytejdeibmhlcnbaa.Tab.D.fn.get 10 = some Try.f10 by kernel_rfl) (show Try.f10.body = some (Try.f10.body.getD .skip) by kernel_rfl) ((congrFun (congrFun (eq_10 seal_Close seal_Open law4_known seal_Mask hand_Few hand_Pick) x) h).trans e)
/-! law4_SealParts -/
noncomputable def P.law4_SealParts (seal_Tag : Int → Sl → H → Option ((Int) × H)) (law4_known : H → Option ((Bool) × H)) (seal_Step : Int → Int → H → Option ((Int) × H)) (key : Int) (g : Int) (h0 : Int) (c : Int) (d : Int) (a0 : Sl) (b : Sl) (h : H) : Option (Bool × H) :=
  newO (row 31 [(.slice a0.base a0.len a0.cap), (.slice b.base b.len b.cap)]) h fun (b1 : Nat) (h1 : H) =>
  newO (row 31 [(.slice a0.base a0.len a0.cap)]) h1 fun (b2 : Nat) (h2 : H) =>
  bind2 (seal_Tag key (⟨(some (⟨b2, 0, (some 0)⟩ : Addr)), 1, 1⟩ : Sl) h2) fun (x0 : Int) (h3 : H) =>
  bind2 (law4_known h3) fun (x1 : Bool) (h4 : H) =>
  condK x1 (
    bind2 (seal_Tag key (⟨(some (⟨b1, 0, (some 0)⟩ : Addr)), 2, 2⟩ : Sl) h4) fun (x2 : Int) (h5 : H) =>
    newO (row 31 [(.slice a0.base a0.len a0.cap), (.slice b.base b.len b.cap)]) h5 fun (b3 : Nat) (h6 : H) =>
    bind2 (seal_Tag key (⟨(some (⟨b3, 0, (some 0)⟩ : Addr)), 2, 2⟩ : Sl) h6) fun (x3 : Int) (h7 : H) =>
    condK (x2 == x3) (
      newO (row 31 [(.slice b.base b.len b.cap)]) h7 fun (b4 : Nat) (h8 : H) =>
      bind2 (seal_Tag x0 (⟨(some (⟨b4, 0, (some 0)⟩ : Addr)), 1, 1⟩ : Sl) h8) fun (x4 : Int) (h9 : H) =>
      newO (row 31 [(.slice a0.base a0.len a0.cap), (.slice b.base b.len b.cap)]) h9 fun (b5 : Nat) (h10 : H) =>
      bind2 (seal_Tag key (⟨(some (⟨b5, 0, (some 0)⟩ : Addr)), 2, 2⟩ : Sl) h10) fun (x5 : Int) (h11 : H) =>
      condK (x4 == x5) (
        bind2 (seal_Step g c h11) fun (x6 : Int) (h12 : H) =>
        bind2 (seal_Step h0 c h12) fun (x7 : Int) (h13 : H) =>
        condK ((x6 == x7) == (g == h0)) (
          bind2 (seal_Step g c h13) fun (x8 : Int) (h14 : H) =>
          bind2 (seal_Step g d h14) fun (x9 : Int) (h15 : H) =>
          condK ((x8 == x9) == (c == d)) (
            newO (row 31 [(.slice none 0 0), (.slice none 0 0)]) h15 fun (b6 : Nat) (h16 : H) =>
            bind2 (seal_Tag key (⟨(some (⟨b6, 0, (some 0)⟩ : Addr)), 2, 2⟩ : Sl) h16) fun (x10 : Int) (h17 : H) =>
            bind2 (seal_Step key 256 h17) fun (x11 : Int) (h18 : H) =>
            bind2 (seal_Step x11 256 h18) fun (x12 : Int) (h19 : H) =>
            some ((x10 == x12), h19)) (
            some (false, h15))) (
          some (false, h13))) (
        some (false, h11))) (
      some (false, h7))) (
    some (false, h4))
noncomputable def law4_SealParts : Int → Int → Int → Int → Int → Sl → Sl → H → Option ((Bool) × H) := P.law4_SealParts seal_Tag law4_known seal_Step
noncomputable def ann_11 : Ann := ⟨fun _ => none, fun _ => none, fun _ => none⟩
noncomputable def E_11 : Ent := ⟨11, [⟨false, [.int .u64]⟩, ⟨false, [.int .u64]⟩, ⟨false, [.int .u64]⟩, ⟨false, [.int .u64]⟩, ⟨false, [.int .u64]⟩, ⟨false, [.sl]⟩, ⟨false, [.sl]⟩], [⟨false, [.bool]⟩], fun (x : Int × Int × Int × Int × Int × Sl × Sl) h => law4_SealParts x.1 x.2.1 x.2.2.1 x.2.2.2.1 x.2.2.2.2.1 x.2.2.2.2.2.1 x.2.2.2.2.2.2 h⟩
theorem eq_11 (seal_Tag : Int → Sl → H → Option ((Int) × H)) (law4_known : H → Option ((Bool) × H)) (seal_Step : Int → Int → H → Option ((Int) × H)) : (fun (x : PT E_11.ps) (h : H) => runFK Go.Proofs.Ytejdeibmhlcnbaa.Tab.D (lstK [⟨32, [⟨false, [.int .u64]⟩, ⟨false, [.sl]⟩], [⟨false, [.int .u64]⟩], fun (x : Int × Sl) h => seal_Tag x.1 x.2 h⟩, ⟨30, [], [⟨false, [.bool]⟩], fun (x : Unit) h => law4_known h⟩, ⟨31, [⟨false, [.int .u64]⟩, ⟨false, [.int .u64]⟩], [⟨false, [.int .u64]⟩], fun (x : Int × Int) h => seal_Step x.1 x.2 h⟩]) ann_11 Try.f11 (Try.f11.body.getD .skip) E_11.ys (encP E_11.ps x) h) = (fun (x : Int × Int × Int × Int × Int × Sl × Sl) h => P.law4_SealParts seal_Tag law4_known seal_Step x.1 x.2.1 x.2.2.1 x.2.2.2.1 x.2.2.2.2.1 x.2.2.2.2.2.1 x.2.2.2.2.2.2 h) := by kernel_rfl
theorem ok_11 : E_11.ok Go.Proofs.Ytejdeibmhlcnbaa.Tab.D := fun x h y h' e => runFK_ok (lstK_ok [E_32, E_30, E_31] (List.forall_mem_cons.2 ⟨ok_32, List.forall_mem_cons.2 ⟨ok_30, List.forall_mem_cons.2 ⟨ok_31, fun E h => nomatch h⟩⟩⟩)) (A := ann_11) (by kernel_rfl) (show Go.Proofs.Ytejdeibmhlcnbaa.Tab.D.fn.get 11 = some Try.f11 by kernel_rfl) (show Try.f11.body = some (Try.f11.body.getD .skip) by kernel_rfl) ((congrFun (congrFun (eq_11 seal_Tag law4_known seal_Step) x) h).trans e)
/-! law4_SealApart -/
noncomputable def P.law4_SealApart (seal_Mask : Int → Int → Sl → H → Option ((Sl) × H)) (hand_Few : Sl → Int → H → Option ((Sl) × H)) (seal_Close : Int → Int → Sl → Sl → H → Option ((Sl) × H)) (seal_Open : Int → Int → Sl → Sl → H → Option ((Sl × Bool) × H)) (law4_known : H → Option ((Bool) × H)) (key : Int) (num : Int) (m : Int) (body : Sl) (more : Sl) (head : Sl) (h : H) : Option (Bool × H) :=
  bind2 (seal_Mask key num body h) fun (x0 : Sl) (h0 : H) =>
  bind2 (hand_Few body ((body.len : Nat) : Int) h0) fun (x1 : Sl) (h1 : H) =>
  bind2 (appT 5 1 1 h1 x1 more) fun (x2 : Sl) (h2 : H) =>
  bind2 (seal_Mask key num x2 h2) fun (x3 : Sl) (h3 : H) =>
  joinO (
    condK (((x0.len : Nat) : Int) != ((body.len : Nat) : Int)) (
      some (Sum.inl ((key, (num, (m, (body, (head, (x0, true)))))), h3))) (
      letO ((IntKind.wrap .i64 (((body.len : Nat) : Int) + ((more.len : Nat) : Int)))) fun (x4 : Int) =>
      condK (((x3.len : Nat) : Int) != x4) (
        some (Sum.inl ((key, (num, (m, (body, (head, (x0, true)))))), h3))) (
        bindO (slT 1 h3 x3 none (some ((body.len : Nat) : Int)) none) fun (x5 : Sl) =>
        bind2 (strT h3 x5) fun (x6 : ByteArray) (h4 : H) =>
        bind2 (strT h3 x0) fun (x7 : ByteArray) (h5 : H) =>
        some (Sum.inl ((key, (num, (m, (body, (head, (x0, (!(x6.toList == x7.toList)))))))), h3))))) fun (((key1, (num1, (m1, (body1, (head1, (a0, x4)))))), h4) : ((Int × (Int × (Int × (Sl × (Sl × (Sl × Bool)))))) × H)) =>
  condK x4 (
    some (false, h4)) (
    bind2 (seal_Close key1 num1 head1 body1 h4) fun (x5 : Sl) (h5 : H) =>
    bind2 (seal_Close key1 m1 head1 body1 h5) fun (x6 : Sl) (h6 : H) =>
    bind2 (seal_Open key1 m1 head1 x6 h6) fun ((x7, x8) : Sl × Bool) (h7 : H) =>
    bind2 (seal_Open key1 num1 head1 x6 h7) fun ((x9, x10) : Sl × Bool) (h8 : H) =>
    bind2 (law4_known h8) fun (x11 : Bool) (h9 : H) =>
    condK x11 (
      condK x8 (
        condK (x10 == (num1 == m1)) (
          condK (((x5.len : Nat) : Int) == ((x6.len : Nat) : Int)) (
            bindO (slT 1 h9 x5 none (some ((body1.len : Nat) : Int)) none) fun (x12 : Sl) =>
            bind2 (strT h9 x12) fun (x13 : ByteArray) (h10 : H) =>
            bind2 (strT h9 a0) fun (x14 : ByteArray) (h11 : H) =>
            some ((x13.toList == x14.toList), h9)) (
            some (false, h9))) (
          some (false, h9))) (
        some (false, h9))) (
      some (false, h9)))
noncomputable def law4_SealApart : Int → Int → Int → Sl → Sl → Sl → H → Option ((Bool) × H) := P.law4_SealApart seal_Mask hand_Few seal_Close seal_Open law4_known
noncomputable def ann_12 : Ann := ⟨fun _ => none, fun _ => none, fun i => bif i.beq 3 then some ⟨[0, 1, 2, 3, 5, 13, 58], [⟨false, [.int .u64]⟩, ⟨false, [.int .i64]⟩, ⟨false, [.int .i64]⟩, ⟨false, [.sl]⟩, ⟨false, [.sl]⟩, ⟨false, [.sl]⟩, ⟨false, [.bool]⟩]⟩ else none⟩
noncomputable def E_12 : Ent := ⟨12, [⟨false, [.int .u64]⟩, ⟨false, [.int .i64]⟩, ⟨false, [.int .i64]⟩, ⟨false, [.sl]⟩, ⟨false, [.sl]⟩, ⟨false, [.sl]⟩], [⟨false, [.bool]⟩], fun (x : Int × Int × Int × Sl × Sl × Sl) h => law4_SealApart x.1 x.2.1 x.2.2.1 x.2.2.2.1 x.2.2.2.2.1 x.2.2.2.2.2 h⟩
theorem eq_12 (seal_Mask : Int → Int → Sl → H → Option ((Sl) × H)) (hand_Few : Sl → Int → H → Option ((Sl) × H)) (seal_Close : Int → Int → Sl → Sl → H → Option ((Sl) × H)) (seal_Open : Int → Int → Sl → Sl → H → Option ((Sl × Bool) × H)) (law4_known : H → Option ((Bool) × H)) : (fun (x : PT E_12.ps) (h : H) => runFK Go.Proofs.Ytejdeibmhlcnbaa.Tab.D (lstK [⟨33, [⟨false, [.int .u64]⟩, ⟨false, [.int .i64]⟩, ⟨false, [.sl]⟩], [⟨false, [.sl]⟩], fun (x : Int × Int × Sl) h => seal_Mask x.1 x.2.1 x.2.2 h⟩, ⟨39, [⟨false, [.sl]⟩, ⟨false, [.int .i64]⟩], [⟨false, [.sl]⟩], fun (x : Sl × Int) h => hand_Few x.1 x.2 h⟩, ⟨28, [⟨false, [.int .u64]⟩, ⟨false, [.int .i64]⟩, ⟨false, [.sl]⟩, ⟨false, [.sl]⟩], [⟨false, [.sl]⟩], fun (x : Int × Int × Sl × Sl) h => seal_Close x.1 x.2.1 x.2.2.1 x.2.2.2 h⟩, ⟨29, [⟨false, [.int .u64]⟩, ⟨false, [.int .i64]⟩, ⟨false, [.sl]⟩, ⟨false, [.sl]⟩], [⟨false, [.sl]⟩, ⟨false, [.bool]⟩], fun (x : Int × Int × Sl × Sl) h => seal_Open x.1 x.2.1 x.2.2.1 x.2.2.2 h⟩, ⟨30, [], [⟨false, [.bool]⟩], fun (x : Unit) h => law4_known h⟩]) ann_12 Try.f12 (Try.f12.body.getD .skip) E_12.ys (encP E_12.ps x) h) = (fun (x : Int × Int × Int × Sl × Sl × Sl) h => P.law4_SealApart seal_Mask hand_Few seal_Close seal_Open law4_known x.1 x.2.1 x.2.2.1 x.2.2.2.1 x.2.2.2.2.1 x.2.2.2.2.2 h) := by kernel_rfl
theorem ok_12 : E_12.ok Go.Proofs.Ytejdeibmhlcnbaa.Tab.D := fun x h y h' e => runFK_ok (lstK_ok [E_33, E_39, E_28, E_29, E_30] (List.forall_mem_cons.2 ⟨ok_33, List.forall_mem_cons.2 ⟨ok_39, List.forall_mem_cons.2 ⟨ok_28, List.forall_mem_cons.2 ⟨ok_29, List.forall_mem_cons.2 ⟨ok_30, fun E h => nomatch h⟩⟩⟩⟩⟩)) (A := ann_12) (by kernel_rfl) (show Go.Proofs.Ytejdeibmhlcnbaa.Tab.D.fn.get 12 = some Try.f12 by kernel_rfl) (show Try.f12.body = some (Try.f12.body.getD .skip) by kernel_rfl) ((congrFun (congrFun (eq_12 seal_Mask hand_Few seal_Close seal_Open law4_known) x) h).trans e)
/-! law4_SealWays -/
noncomputable def P.law4_SealWays (seal_Step : Int → Int → H → Option ((Int) × H)) (seal_Close : Int → Int → Sl → Sl → H → Option ((Sl) × H)) (seal_Open : Int → Int → Sl → Sl → H → Option ((Sl × Bool) × H)) (law4_known : H → Option ((Bool) × H)) (key : Int) (other : Int) (num : Int) (head : Sl) (body : Sl) (h : H) : Option (Bool × H) :=
  bind2 (seal_Step key 0 h) fun (x0 : Int) (h0 : H) =>
  bind2 (seal_Step key 1 h0) fun (x1 : Int) (h1 : H) =>
  bind2 (seal_Close x0 num head body h1) fun (x2 : Sl) (h2 : H) =>
  bind2 (seal_Open x1 num head x2 h2) fun ((x3, x4) : Sl × Bool) (h3 : H) =>
  bind2 (seal_Open x0 num head x2 h3) fun ((x5, x6) : Sl × Bool) (h4 : H) =>
  bind2 (law4_known h4) fun (x7 : Bool) (h5 : H) =>
  condK x7 (
    condK (x0 != x1) (
      condK (!x4) (
        condK x6 (
          bind2 (seal_Step other 0 h5) fun (x8 : Int) (h6 : H) =>
          condK ((x8 == x0) == (other == key)) (
            bind2 (seal_Step other 1 h6) fun (x9 : Int) (h7 : H) =>
            some (((x9 == x1) == (other == key)), h7)) (
            some (false, h6))) (
          some (false, h5))) (
        some (false, h5))) (
      some (false, h5))) (
    some (false, h5))
noncomputable def law4_SealWays : Int → Int → Int → Sl → Sl → H → Option ((Bool) × H) := P.law4_SealWays seal_Step seal_Close seal_Open law4_known
noncomputable def ann_13 : Ann := ⟨fun _ => none, fun _ => none, fun _ => none⟩
noncomputable def E_13 : Ent := ⟨13, [⟨false, [.int .u64]⟩, ⟨false, [.int .u64]⟩, ⟨false, [.int .i64]⟩, ⟨false, [.sl]⟩, ⟨false, [.sl]⟩], [⟨false, [.bool]⟩], fun (x : Int × Int × Int × Sl × Sl) h => law4_SealWays x.1 x.2.1 x.2.2.1 x.2.2.2.1 x.2.2.2.2 h⟩
theorem eq_13 (seal_Step : Int → Int → H → Option ((Int) × H)) (seal_Close : Int → Int → Sl → Sl → H → Option ((Sl) × H)) (seal_Open : Int → Int → Sl → Sl → H → Option ((Sl × Bool) × H)) (law4_known : H → Option ((Bool) × H)) : (fun (x : PT E_13.ps) (h : H) => runFK Go.Proofs.Ytejdeibmhlcnbaa.Tab.D (lstK [⟨31, [⟨false, [.int .u64]⟩, ⟨false, [.int .u64]⟩], [⟨false, [.int .u64]⟩], fun (x : Int × Int) h => seal_Step x.1 x.2 h⟩, ⟨28, [⟨false, [.int .u64]⟩, ⟨false, [.int .i64]⟩, ⟨false, [.sl]⟩, ⟨false, [.sl]⟩], [⟨false, [.sl]⟩], fun (x : Int × Int × Sl × Sl) h => seal_Close x.1 x.2.1 x.2.2.1 x.2.2.2 h⟩, ⟨29, [⟨false, [.int .u64]⟩, ⟨false, [.int .i64]⟩, ⟨false, [.sl]⟩, ⟨false, [.sl]⟩], [⟨false, [.sl]⟩, ⟨false, [.bool]⟩], fun (x : Int × Int × Sl × Sl) h => seal_Open x.1 x.2.1 x.2.2.1 x.2.2.2 h⟩, ⟨30, [], [⟨false, [.bool]⟩], fun (x : Unit) h => law4_known h⟩]) ann_13 Try.f13 (Try.f13.body.getD .skip) E_13.ys (encP E_13.ps x) h) = (fun (x : Int × Int × Int × Sl × Sl) h => P.law4_SealWays seal_Step seal_Close seal_Open law4_known x.1 x.2.1 x.2.2.1 x.2.2.2.1 x.2.2.2.2 h) := by kernel_rfl
theorem ok_13 : E_13.ok Go.Proofs.Ytejdeibmhlcnbaa.Tab.D := fun x h y h' e => runFK_ok (lstK_ok [E_31, E_28, E_29, E_30] (List.forall_mem_cons.2 ⟨ok_31, List.forall_mem_cons.2 ⟨ok_28, List.forall_mem_cons.2 ⟨ok_29, List.forall_mem_cons.2 ⟨ok_30, fun E h => nomatch h⟩⟩⟩⟩)) (A := ann_13) (by kernel_rfl) (show Go.Proofs.Ytejdeibmhlcnbaa.Tab.D.fn.get 13 = some Try.f13 by kernel_rfl) (show Try.f13.body = some (Try.f13.body.getD .skip) by kernel_rfl) ((congrFun (congrFun (eq_13 seal_Step seal_Close seal_Open law4_known) x) h).trans e)
/-! slices_Clip_int -/
noncomputable def slices_Clip_int (s : Sl) (h : H) : Option (Sl × H) :=
  bindO (slT 1 h s none (some ((s.len : Nat) : Int)) (some ((s.len : Nat) : Int))) fun (x0 : Sl) =>
  some (x0, h)
noncomputable def ann_59 : Ann := ⟨fun _ => none, fun _ => none, fun _ => none⟩
noncomputable def E_59 : Ent := ⟨59, [⟨false, [.sl]⟩], [⟨false, [.sl]⟩], fun (x : Sl) h => slices_Clip_int x h⟩
theorem eq_59  : (fun (x : PT E_59.ps) (h : H) => runFK Go.Proofs.Ytejdeibmhlcnbaa.Tab.D (lstK []) ann_59 Try.f59 (Try.f59.body.getD .skip) E_59.ys (encP E_59.ps x) h) = (fun (x : Sl) h => slices_Clip_int x h) := by kernel_rfl
theorem ok_59 : E_59.ok Go.Proofs.Ytejdeibmhlcnbaa.Tab.D := fun x h y h' e => runFK_ok (lstK_ok [] (fun E h => nomatch h)) (A := ann_59) (by kernel_rfl) (show Go.Proofs.Ytejdeibmhlcnbaa.Tab.D.fn.get 59 = some Try.f59 by kernel_rfl) (show Try.f59.body = some (Try.f59.body.getD .skip) by kernel_rfl) ((congrFun (congrFun (eq_59 ) x) h).trans e)
/-! varint_Takes -/
noncomputable def P.varint_Takes_l1 (slices_Clone_byte : Sl → H → Option ((Sl) × H)) (varint_Take : Sl → H → Option ((Int × Sl × Int) × H)) (slices_Clip_int : Sl → H → Option ((Sl) × H)) : ((Sl × (Sl × (Int × Int))) × H) → Option (((Sl × (Sl × (Int × Int))) × H) ⊕ (((Sl × Sl) × H) ⊕ ((Sl × (Sl × Int)) × H))) := fun ((l, (rest, (x0, x1))), h0) =>
  condK (decide ((x1 < x0))) (
    bind2 (varint_Take rest h0) fun ((x2, x3, x4) : Int × Sl × Int) (h1 : H) =>
    condK (x4 != 0) (
      some (Sum.inr (Sum.inr (((⟨none, 0, 0⟩ : Sl), ((⟨none, 0, 0⟩ : Sl), x4)), h1)))) (
      newO (row 3 [(.int .i64 x2)]) h1 fun (b : Nat) (h2 : H) =>
      bind2 (appT 3 1 8 h2 l (⟨(some (⟨b, 0, (some 0)⟩ : Addr)), 1, 1⟩ : Sl)) fun (x5 : Sl) (h3 : H) =>
      some (Sum.inl ((x5, (x3, (x0, (IntKind.wrap .i64 (x1 + 1))))), h3)))) (
    some (Sum.inr (Sum.inl ((l, rest), h0))))

noncomputable def P.varint_Takes (slices_Clone_byte : Sl → H → Option ((Sl) × H)) (varint_Take : Sl → H → Option ((Int × Sl × Int) × H)) (slices_Clip_int : Sl → H → Option ((Sl) × H)) (b : Sl) (count : Int) (h : H) : Option ((Sl × Sl × Int) × H) :=
  bind2 (slices_Clone_byte b h) fun (x0 : Sl) (h0 : H) =>
  joinO (
    loopO (P.varint_Takes_l1 slices_Clone_byte varint_Take slices_Clip_int) (((⟨none, 0, 0⟩ : Sl), (x0, ((if (count > 0) then count else 0), 0))), h0)) fun (((l, rest), h1) : ((Sl × Sl) × H)) =>
  bind2 (slices_Clip_int l h1) fun (x1 : Sl) (h2 : H) =>
  some ((x1, (rest, 0)), h2)
noncomputable abbrev varint_Takes_l1 := P.varint_Takes_l1 slices_Clone_byte varint_Take slices_Clip_int
noncomputable def varint_Takes : Sl → Int → H → Option ((Sl × Sl × Int) × H) := P.varint_Takes slices_Clone_byte varint_Take slices_Clip_int
noncomputable def ann_40 : Ann := ⟨fun i => bif i.beq 10 then some ⟨[4, 5], [⟨false, [.sl]⟩, ⟨false, [.sl]⟩]⟩ else none, fun i => bif i.beq 3 then some ⟨[4, 5, 11, 12], [⟨false, [.sl]⟩, ⟨false, [.sl]⟩, ⟨false, [.int .i64]⟩, ⟨false, [.int .i64]⟩]⟩ else none, fun _ => none⟩
noncomputable def E_40 : Ent := ⟨40, [⟨false, [.sl]⟩, ⟨false, [.int .i64]⟩], [⟨false, [.sl]⟩, ⟨false, [.sl]⟩, ⟨false, [.int .i64]⟩], fun (x : Sl × Int) h => varint_Takes x.1 x.2 h⟩
theorem eq_40 (slices_Clone_byte : Sl → H → Option ((Sl) × H)) (varint_Take : Sl → H → Option ((Int × Sl × Int) × H)) (slices_Clip_int : Sl → H → Option ((Sl) × H)) : (fun (x : PT E_40.ps) (h : H) => runFK Go.Proofs.Ytejdeibmhlcnbaa.Tab.D (lstK [⟨52, [⟨false, [.sl]⟩], [⟨false, [.sl]⟩], fun (x : Sl) h => slices_Clone_byte x h⟩, ⟨26, [⟨false, [.sl]⟩], [⟨false, [.int .i64]⟩, ⟨false, [.sl]⟩, ⟨false, [.int .i64]⟩], fun (x : Sl) h => varint_Take x h⟩, ⟨59, [⟨false, [.sl]⟩], [⟨false, [.sl]⟩], fun (x : Sl) h => slices_Clip_int x h⟩]) ann_40 Try.f40 (Try.f40.body.getD .skip) E_40.ys (encP E_40.ps x) h) = (fun (x : Sl × Int) h => P.varint_Takes slices_Clone_byte varint_Take slices_Clip_int x.1 x.2 h) := by kernel_rfl
theorem ok_40 : E_40.ok Go.Proofs.Ytejdeibmhlcnbaa.Tab.D := fun x h y h' e => runFK_ok (lstK_ok [E_52, E_26, E_59] (List.forall_mem_cons.2 ⟨ok_52, List.forall_mem_cons.2 ⟨ok_26, List.forall_mem_cons.2 ⟨ok_59, fun E h => nomatch h⟩⟩⟩)) (A := ann_40) (by kernel_rfl) (show Go.Proofs.Ytejdeibmhlcnbaa.Tab.D.fn.get 40 = some Try.f40 by kernel_rfl) (show Try.f40.body = some (Try.f40.body.getD .skip) by kernel_rfl) ((congrFun (congrFun (eq_40 slices_Clone_byte varint_Take slices_Clip_int) x) h).trans e)
/-! law1_nums -/
noncomputable def P.law1_nums_l1 (hand_Num : Int → H → Option ((Int) × H)) : ((Sl × (Sl × Int)) × H) → Option (((Sl × (Sl × Int)) × H) ⊕ ((Sl × H) ⊕ (Sl × H))) := fun ((l, (out, i)), h0) =>
  joinO (
    condK (decide ((i < ((l.len : Nat) : Int)))) (
      some (Sum.inl ((l, (out, (i, (decide ((i < 12)))))), h0))) (
      some (Sum.inl ((l, (out, (i, false))), h0)))) fun (((l1, (out1, (i1, x0))), h1) : ((Sl × (Sl × (Int × Bool))) × H)) =>
  condK x0 (
    bindO (ixT 1 l1 i1) fun (a0 : Addr) =>
    bindO (ldI .i64 h1 a0) fun (x1 : Int) =>
    bind2 (hand_Num x1 h1) fun (x2 : Int) (h2 : H) =>
    newO (row 3 [(.int .i64 x2)]) h2 fun (b : Nat) (h3 : H) =>
    bind2 (appT 3 1 8 h3 out1 (⟨(some (⟨b, 0, (some 0)⟩ : Addr)), 1, 1⟩ : Sl)) fun (x3 : Sl) (h4 : H) =>
    some (Sum.inl ((l1, (x3, (IntKind.wrap .i64 (i1 + 1)))), h4))) (
    some (Sum.inr (Sum.inl (out1, h1))))

noncomputable def P.law1_nums (hand_Num : Int → H → Option ((Int) × H)) (l : Sl) (h : H) : Option (Sl × H) :=
  joinO (
    loopO (P.law1_nums_l1 hand_Num) ((l, ((⟨none, 0, 0⟩ : Sl), 0)), h)) fun ((out, h0) : (Sl × H)) =>
  some (out, h0)
noncomputable abbrev law1_nums_l1 := P.law1_nums_l1 hand_Num
noncomputable def law1_nums : Sl → H → Option ((Sl) × H) := P.law1_nums hand_Num
noncomputable def ann_41 : Ann := ⟨fun i => bif i.beq 6 then some ⟨[3], [⟨false, [.sl]⟩]⟩ else none, fun i => bif i.beq 3 then some ⟨[0, 3, 4], [⟨false, [.sl]⟩, ⟨false, [.sl]⟩, ⟨false, [.int .i64]⟩]⟩ else none, fun i => bif i.beq 3 then some ⟨[0, 3, 4, 12], [⟨false, [.sl]⟩, ⟨false, [.sl]⟩, ⟨false, [.int .i64]⟩, ⟨false, [.bool]⟩]⟩ else none⟩
noncomputable def E_41 : Ent := ⟨41, [⟨false, [.sl]⟩], [⟨false, [.sl]⟩], fun (x : Sl) h => law1_nums x h⟩
theorem eq_41 (hand_Num : Int → H → Option ((Int) × H)) : (fun (x : PT E_41.ps) (h : H) => runFK Go.Proofs.Ytejdeibmhlcnbaa.Tab.D (lstK [⟨49, [⟨false, [.int .i64]⟩], [⟨false, [.int .i64]⟩], fun (x : Int) h => hand_Num x h⟩]) ann_41 Try.f41 (Try.f41.body.getD .skip) E_41.ys (encP E_41.ps x) h) = (fun (x : Sl) h => P.law1_nums hand_Num x h) := by kernel_rfl
theorem ok_41 : E_41.ok Go.Proofs.Ytejdeibmhlcnbaa.Tab.D := fun x h y h' e => runFK_ok (lstK_ok [E_49] (List.forall_mem_cons.2 ⟨ok_49, fun E h => nomatch h⟩)) (A := ann_41) (by kernel_rfl) (show Go.Proofs.Ytejdeibmhlcnbaa.Tab.D.fn.get 41 = some Try.f41 by kernel_rfl) (show Try.f41.body = some (Try.f41.body.getD .skip) by kernel_rfl) ((congrFun (congrFun (eq_41 hand_Num) x) h).trans e)
/-! ref1_size -/
noncomputable def P.ref1_size (ref1_May : Int → H → Option ((Bool) × H)) (n : Int) (h : H) : Option (Int × H) :=
  bind2 (ref1_May n h) fun (x0 : Bool) (h0 : H) =>
  condK (!x0) (
    some ((-1), h0)) (
    condK (decide ((n < 64))) (
      some (1, h0)) (
      condK (decide ((n < 16384))) (
        some (2, h0)) (
        condK (decide ((n < 1073741824))) (
          some (4, h0)) (
          some (8, h0)))))
noncomputable def ref1_size : Int → H → Option ((Int) × H) := P.ref1_size ref1_May
noncomputable def ann_61 : Ann := ⟨fun _ => none, fun _ => none, fun _ => none⟩
noncomputable def E_61 : Ent := ⟨61, [⟨false, [.int .i64]⟩], [⟨false, [.int .i64]⟩], fun (x : Int) h => ref1_size x h⟩
theorem eq_61 (ref1_May : Int → H → Option ((Bool) × H)) : (fun (x : PT E_61.ps) (h : H) => runFK Go.Proofs.Ytejdeibmhlcnbaa.Tab.D (lstK [⟨50, [⟨false, [.int .i64]⟩], [⟨false, [.bool]⟩], fun (x : Int) h => ref1_May x h⟩]) ann_61 Try.f61 (Try.f61.body.getD .skip) E_61.ys (encP E_61.ps x) h) = (fun (x : Int) h => P.ref1_size ref1_May x h) := by kernel_rfl
theorem ok_61 : E_61.ok Go.Proofs.Ytejdeibmhlcnbaa.Tab.D := fun x h y h' e => runFK_ok (lstK_ok [E_50] (List.forall_mem_cons.2 ⟨ok_50, fun E h => nomatch h⟩)) (A := ann_61) (by kernel_rfl) (show Go.Proofs.Ytejdeibmhlcnbaa.Tab.D.fn.get 61 = some Try.f61 by kernel_rfl) (show Try.f61.body = some (Try.f61.body.getD .skip) by kernel_rfl) ((congrFun (congrFun (eq_61 ref1_May) x) h).trans e)
/-! ref1_Size -/
noncomputable def P.ref1_Size_l1 (ref1_May : Int → H → Option ((Bool) × H)) (ref1_size : Int → H → Option ((Int) × H)) : ((Sl × (Int × Int)) × H) → Option (((Sl × (Int × Int)) × H) ⊕ ((Int × H) ⊕ (Int × H))) := fun ((l, (sum, i)), h0) =>
  condK (decide ((i < ((l.len : Nat) : Int)))) (
    bindO (ixT 1 l i) fun (a0 : Addr) =>
    bindO (ldI .i64 h0 a0) fun (x0 : Int) =>
    bind2 (ref1_May x0 h0) fun (x1 : Bool) (h1 : H) =>
    condK (!x1) (
      some (Sum.inr (Sum.inr ((-1), h1)))) (
      bindO (ixT 1 l i) fun (a1 : Addr) =>
      bindO (ldI .i64 h1 a1) fun (x2 : Int) =>
      bind2 (ref1_size x2 h1) fun (x3 : Int) (h2 : H) =>
      some (Sum.inl ((l, ((IntKind.wrap .i64 (sum + x3)), (IntKind.wrap .i64 (i + 1)))), h2)))) (
    some (Sum.inr (Sum.inl (sum, h0))))

noncomputable def P.ref1_Size (ref1_May : Int → H → Option ((Bool) × H)) (ref1_size : Int → H → Option ((Int) × H)) (l : Sl) (h : H) : Option (Int × H) :=
  joinO (
    loopO (P.ref1_Size_l1 ref1_May ref1_size) ((l, (0, 0)), h)) fun ((sum, h0) : (Int × H)) =>
  some (sum, h0)
noncomputable abbrev ref1_Size_l1 := P.ref1_Size_l1 ref1_May ref1_size
noncomputable def ref1_Size : Sl → H → Option ((Int) × H) := P.ref1_Size ref1_May ref1_size
noncomputable def ann_43 : Ann := ⟨fun i => bif i.beq 8 then some ⟨[3], [⟨false, [.int .i64]⟩]⟩ else none, fun i => bif i.beq 3 then some ⟨[0, 3, 4], [⟨false, [.sl]⟩, ⟨false, [.int .i64]⟩, ⟨false, [.int .i64]⟩]⟩ else none, fun _ => none⟩
noncomputable def E_43 : Ent := ⟨43, [⟨false, [.sl]⟩], [⟨false, [.int .i64]⟩], fun (x : Sl) h => ref1_Size x h⟩
theorem eq_43 (ref1_May : Int → H → Option ((Bool) × H)) (ref1_size : Int → H → Option ((Int) × H)) : (fun (x : PT E_43.ps) (h : H) => runFK Go.Proofs.Ytejdeibmhlcnbaa.Tab.D (lstK [⟨50, [⟨false, [.int .i64]⟩], [⟨false, [.bool]⟩], fun (x : Int) h => ref1_May x h⟩, ⟨61, [⟨false, [.int .i64]⟩], [⟨false, [.int .i64]⟩], fun (x : Int) h => ref1_size x h⟩]) ann_43 Try.f43 (Try.f43.body.getD .skip) E_43.ys (encP E_43.ps x) h) = (fun (x : Sl) h => P.ref1_Size ref1_May ref1_size x h) := by kernel_rfl
theorem ok_43 : E_43.ok Go.Proofs.Ytejdeibmhlcnbaa.Tab.D := fun x h y h' e => runFK_ok (lstK_ok [E_50, E_61] (List.forall_mem_cons.2 ⟨ok_50, List.forall_mem_cons.2 ⟨ok_61, fun E h => nomatch h⟩⟩)) (A := ann_43) (by kernel_rfl) (show Go.Proofs.Ytejdeibmhlcnbaa.Tab.D.fn.get 43 = some Try.f43 by kernel_rfl) (show Try.f43.body = some (Try.f43.body.getD .skip) by kernel_rfl) ((congrFun (congrFun (eq_43 ref1_May ref1_size) x) h).trans e)
/-! ref1_put -/
noncomputable def P.ref1_put_l1 (ref1_size : Int → H → Option ((Int) × H)) : ((Sl × (Int × (Int × Int))) × H) → Option (((Sl × (Int × (Int × Int))) × H) ⊕ ((Sl × H) ⊕ (Sl × H))) := fun ((b, (n, (k, i))), h0) =>
  condK (decide ((i ≥ 0))) (
    bindO (shrT .i64 n .u64 (IntKind.wrap .u64 (IntKind.wrap .i64 (8 * i)))) fun (x0 : Int) =>
    joinO (
      condK (i == (IntKind.wrap .i64 (k - 1))) (
        condK (k == 2) (
          some (Sum.inl ((b, (n, (k, (i, (IntKind.wrap .u8 ((IntKind.wrap .u8 x0) + 64)))))), h0))) (
          condK (k == 4) (
            some (Sum.inl ((b, (n, (k, (i, (IntKind.wrap .u8 ((IntKind.wrap .u8 x0) + 128)))))), h0))) (
            condK (k == 8) (
              some (Sum.inl ((b, (n, (k, (i, (IntKind.wrap .u8 ((IntKind.wrap .u8 x0) + 192)))))), h0))) (
              some (Sum.inl ((b, (n, (k, (i, (IntKind.wrap .u8 x0))))), h0)))))) (
        some (Sum.inl ((b, (n, (k, (i, (IntKind.wrap .u8 x0))))), h0)))) fun (((b1, (n1, (k1, (i1, c)))), h1) : ((Sl × (Int × (Int × (Int × Int)))) × H)) =>
    newO (row 5 [(.int .u8 c)]) h1 fun (b2 : Nat) (h2 : H) =>
    bind2 (appT 5 1 1 h2 b1 (⟨(some (⟨b2, 0, (some 0)⟩ : Addr)), 1, 1⟩ : Sl)) fun (x1 : Sl) (h3 : H) =>
    some (Sum.inl ((x1, (n1, (k1, (IntKind.wrap .i64 (i1 - 1))))), h3))) (
    some (Sum.inr (Sum.inl (b, h0))))

noncomputable def P.ref1_put (ref1_size : Int → H → Option ((Int) × H)) (b : Sl) (n : Int) (h : H) : Option (Sl × H) :=
  bind2 (ref1_size n h) fun (x0 : Int) (h0 : H) =>
  joinO (
    loopO (P.ref1_put_l1 ref1_size) ((b, (n, (x0, (IntKind.wrap .i64 (x0 - 1))))), h0)) fun ((b1, h1) : (Sl × H)) =>
  some (b1, h1)
noncomputable abbrev ref1_put_l1 := P.ref1_put_l1 ref1_size
noncomputable def ref1_put : Sl → Int → H → Option ((Sl) × H) := P.ref1_put ref1_size
noncomputable def ann_60 : Ann := ⟨fun i => bif i.beq 14 then some ⟨[0, 1, 5, 6, 7], [⟨false, [.sl]⟩, ⟨false, [.int .i64]⟩, ⟨false, [.int .i64]⟩, ⟨false, [.int .i64]⟩, ⟨false, [.int .u8]⟩]⟩ else bif i.beq 15 then some ⟨[0], [⟨false, [.sl]⟩]⟩ else none, fun i => bif i.beq 3 then some ⟨[0, 1, 5, 6], [⟨false, [.sl]⟩, ⟨false, [.int .i64]⟩, ⟨false, [.int .i64]⟩, ⟨false, [.int .i64]⟩]⟩ else none, fun _ => none⟩
noncomputable def E_60 : Ent := ⟨60, [⟨false, [.sl]⟩, ⟨false, [.int .i64]⟩], [⟨false, [.sl]⟩], fun (x : Sl × Int) h => ref1_put x.1 x.2 h⟩
theorem eq_60 (ref1_size : Int → H → Option ((Int) × H)) : (fun (x : PT E_60.ps) (h : H) => runFK Go.Proofs.Ytejdeibmhlcnbaa.Tab.D (lstK [⟨61, [⟨false, [.int .i64]⟩], [⟨false, [.int .i64]⟩], fun (x : Int) h => ref1_size x h⟩]) ann_60 Try.f60 (Try.f60.body.getD .skip) E_60.ys (encP E_60.ps x) h) = (fun (x : Sl × Int) h => P.ref1_put ref1_size x.1 x.2 h) := by kernel_rfl
theorem ok_60 : E_60.ok Go.Proofs.Ytejdeibmhlcnbaa.Tab.D := fun x h y h' e => runFK_ok (lstK_ok [E_61] (List.forall_mem_cons.2 ⟨ok_61, fun E h => nomatch h⟩)) (A := ann_60) (by kernel_rfl) (show Go.Proofs.Ytejdeibmhlcnbaa.Tab.D.fn.get 60 = some Try.f60 by kernel_rfl) (show Try.f60.body = some (Try.f60.body.getD .skip) by kernel_rfl) ((congrFun (congrFun (eq_60 ref1_size) x) h).trans e)
/-! ref1_Put -/
noncomputable def P.ref1_Put_l1 (ref1_Size : Sl → H → Option ((Int) × H)) (ref1_put : Sl → Int → H → Option ((Sl) × H)) : ((Sl × (Sl × Int)) × H) → Option (((Sl × (Sl × Int)) × H) ⊕ ((Sl × H) ⊕ (Sl × H))) := fun ((l, (out, i)), h0) =>
  condK (decide ((i < ((l.len : Nat) : Int)))) (
    bindO (ixT 1 l i) fun (a0 : Addr) =>
    bindO (ldI .i64 h0 a0) fun (x0 : Int) =>
    bind2 (ref1_put out x0 h0) fun (x1 : Sl) (h1 : H) =>
    some (Sum.inl ((l, (x1, (IntKind.wrap .i64 (i + 1)))), h1))) (
    some (Sum.inr (Sum.inl (out, h0))))

noncomputable def P.ref1_Put (ref1_Size : Sl → H → Option ((Int) × H)) (ref1_put : Sl → Int → H → Option ((Sl) × H)) (b : Sl) (l : Sl) (h : H) : Option (Sl × H) :=
  bind2 (ref1_Size l h) fun (x0 : Int) (h0 : H) =>
  condK (decide ((x0 < 0))) (
    some ((⟨none, 0, 0⟩ : Sl), h0)) (
    newO (row 5 []) h0 fun (b1 : Nat) (h1 : H) =>
    bind2 (appT 5 1 1 h1 (⟨(some (⟨b1, 0, (some 0)⟩ : Addr)), 0, 0⟩ : Sl) b) fun (x1 : Sl) (h2 : H) =>
    joinO (
      loopO (P.ref1_Put_l1 ref1_Size ref1_put) ((l, (x1, 0)), h2)) fun ((out, h3) : (Sl × H)) =>
    some (out, h3))
noncomputable abbrev ref1_Put_l1 := P.ref1_Put_l1 ref1_Size ref1_put
noncomputable def ref1_Put : Sl → Sl → H → Option ((Sl) × H) := P.ref1_Put ref1_Size ref1_put
noncomputable def ann_42 : Ann := ⟨fun i => bif i.beq 8 then some ⟨[5], [⟨false, [.sl]⟩]⟩ else none, fun i => bif i.beq 5 then some ⟨[1, 5, 6], [⟨false, [.sl]⟩, ⟨false, [.sl]⟩, ⟨false, [.int .i64]⟩]⟩ else none, fun _ => none⟩
noncomputable def E_42 : Ent := ⟨42, [⟨false, [.sl]⟩, ⟨false, [.sl]⟩], [⟨false, [.sl]⟩], fun (x : Sl × Sl) h => ref1_Put x.1 x.2 h⟩
theorem eq_42 (ref1_Size : Sl → H → Option ((Int) × H)) (ref1_put : Sl → Int → H → Option ((Sl) × H)) : (fun (x : PT E_42.ps) (h : H) => runFK Go.Proofs.Ytejdeibmhlcnbaa.Tab.D (lstK [⟨43, [⟨false, [.sl]⟩], [⟨false, [.int .i64]⟩], fun (x : Sl) h => ref1_Size x h⟩, ⟨60, [⟨false, [.sl]⟩, ⟨false, [.int .i64]⟩], [⟨false, [.sl]⟩], fun (x : Sl × Int) h => ref1_put x.1 x.2 h⟩]) ann_42 Try.f42 (Try.f42.body.getD .skip) E_42.ys (encP E_42.ps x) h) = (fun (x : Sl × Sl) h => P.ref1_Put ref1_Size ref1_put x.1 x.2 h) := by kernel_rfl
theorem ok_42 : E_42.ok Go.Proofs.Ytejdeibmhlcnbaa.Tab.D := fun x h y h' e => runFK_ok (lstK_ok [E_43, E_60] (List.forall_mem_cons.2 ⟨ok_43, List.forall_mem_cons.2 ⟨ok_60, fun E h => nomatch h⟩⟩)) (A := ann_42) (by kernel_rfl) (show Go.Proofs.Ytejdeibmhlcnbaa.Tab.D.fn.get 42 = some Try.f42 by kernel_rfl) (show Try.f42.body = some (Try.f42.body.getD .skip) by kernel_rfl) ((congrFun (congrFun (eq_42 ref1_Size ref1_put) x) h).trans e)
/-! ref1_Take -/
noncomputable def ref1_Take_l2 : ((Sl × (Int × (Int × Int))) × H) → Option (((Sl × (Int × (Int × Int))) × H) ⊕ (((Sl × (Int × Int)) × H) ⊕ ((Int × (Sl × Int)) × H))) := fun ((b, (k, (n, i))), h0) =>
  condK (decide ((i < k))) (
    bindO (ixT 1 b i) fun (a0 : Addr) =>
    bindO (ldI .u8 h0 a0) fun (x0 : Int) =>
    letO ((IntKind.wrap .i64 ((IntKind.wrap .i64 (256 * n)) + (IntKind.wrap .i64 x0)))) fun (x1 : Int) =>
    some (Sum.inl ((b, (k, (x1, (IntKind.wrap .i64 (i + 1))))), h0))) (
    some (Sum.inr (Sum.inl ((b, (k, n)), h0))))

noncomputable def ref1_Take_l1 : ((Sl × (Int × Int)) × H) → Option (((Sl × (Int × Int)) × H) ⊕ (((Sl × Int) × H) ⊕ ((Int × (Sl × Int)) × H))) := fun ((b, (k, i)), h0) =>
  condK (decide ((i > 0))) (
    some (Sum.inl ((b, ((IntKind.wrap .i64 (2 * k)), (IntKind.wrap .u8 (i - 1)))), h0))) (
    some (Sum.inr (Sum.inl ((b, k), h0))))

noncomputable def ref1_Take (b : Sl) (h : H) : Option ((Int × Sl × Int) × H) :=
  condK (((b.len : Nat) : Int) == 0) (
    some ((0, ((⟨none, 0, 0⟩ : Sl), 3)), h)) (
    joinO (
      bindO (ixT 1 b 0) fun (a0 : Addr) =>
      bindO (ldI .u8 h a0) fun (x0 : Int) =>
      loopO ref1_Take_l1 ((b, (1, (IntKind.wrap .u8 (Int.tdiv x0 64)))), h)) fun (((b1, k), h0) : ((Sl × Int) × H)) =>
    condK (decide ((((b1.len : Nat) : Int) < k))) (
      some ((0, ((⟨none, 0, 0⟩ : Sl), 3)), h0)) (
      bindO (ixT 1 b1 0) fun (a0 : Addr) =>
      bindO (ldI .u8 h0 a0) fun (x0 : Int) =>
      joinO (
        loopO ref1_Take_l2 ((b1, (k, ((IntKind.wrap .i64 (Int.tmod x0 64)), 1))), h0)) fun (((b2, (k1, n)), h1) : ((Sl × (Int × Int)) × H)) =>
      newO (row 5 []) h1 fun (b3 : Nat) (h2 : H) =>
      bindO (slT 1 h2 b2 (some k1) none none) fun (x1 : Sl) =>
      bind2 (appT 5 1 1 h2 (⟨(some (⟨b3, 0, (some 0)⟩ : Addr)), 0, 0⟩ : Sl) x1) fun (x2 : Sl) (h3 : H) =>
      some ((n, (x2, 0)), h3)))
noncomputable def ann_44 : Ann := ⟨fun i => bif i.beq 8 then some ⟨[0, 5], [⟨false, [.sl]⟩, ⟨false, [.int .i64]⟩]⟩ else bif i.beq 15 then some ⟨[0, 5, 7], [⟨false, [.sl]⟩, ⟨false, [.int .i64]⟩, ⟨false, [.int .i64]⟩]⟩ else none, fun i => bif i.beq 5 then some ⟨[0, 5, 6], [⟨false, [.sl]⟩, ⟨false, [.int .i64]⟩, ⟨false, [.int .u8]⟩]⟩ else bif i.beq 12 then some ⟨[0, 5, 7, 8], [⟨false, [.sl]⟩, ⟨false, [.int .i64]⟩, ⟨false, [.int .i64]⟩, ⟨false, [.int .i64]⟩]⟩ else none, fun _ => none⟩
noncomputable def E_44 : Ent := ⟨44, [⟨false, [.sl]⟩], [⟨false, [.int .i64]⟩, ⟨false, [.sl]⟩, ⟨false, [.int .i64]⟩], fun (x : Sl) h => ref1_Take x h⟩
theorem eq_44  : (fun (x : PT E_44.ps) (h : H) => runFK Go.Proofs.Ytejdeibmhlcnbaa.Tab.D (lstK []) ann_44 Try.f44 (Try.f44.body.getD .skip) E_44.ys (encP E_44.ps x) h) = (fun (x : Sl) h => ref1_Take x h) := by kernel_rfl
theorem ok_44 : E_44.ok Go.Proofs.Ytejdeibmhlcnbaa.Tab.D := fun x h y h' e => runFK_ok (lstK_ok [] (fun E h => nomatch h)) (A := ann_44) (by kernel_rfl) (show Go.Proofs.Ytejdeibmhlcnbaa.Tab.D.fn.get 44 = some Try.f44 by kernel_rfl) (show Try.f44.body = some (Try.f44.body.getD .skip) by kernel_rfl) ((congrFun (congrFun (eq_44 ) x) h).trans e)
/-! ref1_Takes -/
noncomputable def P.ref1_Takes_l1 (ref1_Take : Sl → H → Option ((Int × Sl × Int) × H)) : ((Int × (Sl × (Sl × Int))) × H) → Option (((Int × (Sl × (Sl × Int))) × H) ⊕ (((Sl × Sl) × H) ⊕ ((Sl × (Sl × Int)) × H))) := fun ((count, (out, (rest, i))), h0) =>
  condK (decide ((i < count))) (
    bind2 (ref1_Take rest h0) fun ((x0, x1, x2) : Int × Sl × Int) (h1 : H) =>
    condK (x2 != 0) (
      some (Sum.inr (Sum.inr (((⟨none, 0, 0⟩ : Sl), ((⟨none, 0, 0⟩ : Sl), x2)), h1)))) (
      newO (row 3 [(.int .i64 x0)]) h1 fun (b : Nat) (h2 : H) =>
      bind2 (appT 3 1 8 h2 out (⟨(some (⟨b, 0, (some 0)⟩ : Addr)), 1, 1⟩ : Sl)) fun (x3 : Sl) (h3 : H) =>
      some (Sum.inl ((count, (x3, (x1, (IntKind.wrap .i64 (i + 1))))), h3)))) (
    some (Sum.inr (Sum.inl ((out, rest), h0))))

noncomputable def P.ref1_Takes (ref1_Take : Sl → H → Option ((Int × Sl × Int) × H)) (b : Sl) (count : Int) (h : H) : Option ((Sl × Sl × Int) × H) :=
  newO (row 5 []) h fun (b1 : Nat) (h0 : H) =>
  bind2 (appT 5 1 1 h0 (⟨(some (⟨b1, 0, (some 0)⟩ : Addr)), 0, 0⟩ : Sl) b) fun (x0 : Sl) (h1 : H) =>
  joinO (
    loopO (P.ref1_Takes_l1 ref1_Take) ((count, ((⟨none, 0, 0⟩ : Sl), (x0, 0))), h1)) fun (((out, rest), h2) : ((Sl × Sl) × H)) =>
  some ((out, (rest, 0)), h2)
noncomputable abbrev ref1_Takes_l1 := P.ref1_Takes_l1 ref1_Take
noncomputable def ref1_Takes : Sl → Int → H → Option ((Sl × Sl × Int) × H) := P.ref1_Takes ref1_Take
noncomputable def ann_45 : Ann := ⟨fun i => bif i.beq 11 then some ⟨[7, 8], [⟨false, [.sl]⟩, ⟨false, [.sl]⟩]⟩ else none, fun i => bif i.beq 4 then some ⟨[1, 7, 8, 9], [⟨false, [.int .i64]⟩, ⟨false, [.sl]⟩, ⟨false, [.sl]⟩, ⟨false, [.int .i64]⟩]⟩ else none, fun _ => none⟩
noncomputable def E_45 : Ent := ⟨45, [⟨false, [.sl]⟩, ⟨false, [.int .i64]⟩], [⟨false, [.sl]⟩, ⟨false, [.sl]⟩, ⟨false, [.int .i64]⟩], fun (x : Sl × Int) h => ref1_Takes x.1 x.2 h⟩
theorem eq_45 (ref1_Take : Sl → H → Option ((Int × Sl × Int) × H)) : (fun (x : PT E_45.ps) (h : H) => runFK Go.Proofs.Ytejdeibmhlcnbaa.Tab.D (lstK [⟨44, [⟨false, [.sl]⟩], [⟨false, [.int .i64]⟩, ⟨false, [.sl]⟩, ⟨false, [.int .i64]⟩], fun (x : Sl) h => ref1_Take x h⟩]) ann_45 Try.f45 (Try.f45.body.getD .skip) E_45.ys (encP E_45.ps x) h) = (fun (x : Sl × Int) h => P.ref1_Takes ref1_Take x.1 x.2 h) := by kernel_rfl
theorem ok_45 : E_45.ok Go.Proofs.Ytejdeibmhlcnbaa.Tab.D := fun x h y h' e => runFK_ok (lstK_ok [E_44] (List.forall_mem_cons.2 ⟨ok_44, fun E h => nomatch h⟩)) (A := ann_45) (by kernel_rfl) (show Go.Proofs.Ytejdeibmhlcnbaa.Tab.D.fn.get 45 = some Try.f45 by kernel_rfl) (show Try.f45.body = some (Try.f45.body.getD .skip) by kernel_rfl) ((congrFun (congrFun (eq_45 ref1_Take) x) h).trans e)
/-! law1_VarintBack -/
noncomputable def P.law1_VarintBack_l2 (hand_May : Int → H → Option ((Int) × H)) (hand_Few : Sl → Int → H → Option ((Sl) × H)) (varint_Put : Sl → Sl → H → Option ((Sl) × H)) (hand_Pick : Int → Int → H → Option ((Int) × H)) (varint_Size : Sl → H → Option ((Int) × H)) (varint_Takes : Sl → Int → H → Option ((Sl × Sl × Int) × H)) (law1_known : H → Option ((Bool) × H)) (varint_Take : Sl → H → Option ((Int × Sl × Int) × H)) : ((Sl × (Sl × (Sl × (Int × Int)))) × H) → Option (((Sl × (Sl × (Sl × (Int × Int)))) × H) ⊕ (Bool × H)) := fun ((n, (d, (t, (x0, x1)))), h0) =>
  condK (decide ((x1 < x0))) (
    bind2 (varint_Take d h0) fun ((x2, x3, x4) : Int × Sl × Int) (h1 : H) =>
    joinO (
      bindO (ixT 1 t x1) fun (a0 : Addr) =>
      bindO (ldI .i64 h1 a0) fun (x5 : Int) =>
      bindO (ixT 1 n x1) fun (a1 : Addr) =>
      bindO (ldI .i64 h1 a1) fun (x6 : Int) =>
      condK (x5 != x6) (
        some (Sum.inl ((n, (t, (x3, (x0, (x1, true))))), h1))) (
        bindO (ixT 1 n x1) fun (a2 : Addr) =>
        bindO (ldI .i64 h1 a2) fun (x7 : Int) =>
        condK (x2 != x7) (
          some (Sum.inl ((n, (t, (x3, (x0, (x1, true))))), h1))) (
          some (Sum.inl ((n, (t, (x3, (x0, (x1, (x4 != 0)))))), h1))))) fun (((n1, (t1, (more, (x5, (x6, x7))))), h2) : ((Sl × (Sl × (Sl × (Int × (Int × Bool))))) × H)) =>
    condK x7 (
      some (Sum.inr (false, h2))) (
      some (Sum.inl ((n1, (more, (t1, (x5, (IntKind.wrap .i64 (x6 + 1)))))), h2)))) (
    some (Sum.inr (true, h0)))

noncomputable def P.law1_VarintBack_l1 (hand_May : Int → H → Option ((Int) × H)) (hand_Few : Sl → Int → H → Option ((Sl) × H)) (varint_Put : Sl → Sl → H → Option ((Sl) × H)) (hand_Pick : Int → Int → H → Option ((Int) × H)) (varint_Size : Sl → H → Option ((Int) × H)) (varint_Takes : Sl → Int → H → Option ((Sl × Sl × Int) × H)) (law1_known : H → Option ((Bool) × H)) (varint_Take : Sl → H → Option ((Int × Sl × Int) × H)) : ((Int × (Sl × (Sl × (Sl × (Sl × (Int × Int)))))) × H) → Option (((Int × (Sl × (Sl × (Sl × (Sl × (Int × Int)))))) × H) ⊕ (((Int × (Sl × (Sl × Sl))) × H) ⊕ (Bool × H))) := fun ((cut, (front, (behind, (n, (x0, (x1, x2)))))), h0) =>
  condK (decide ((x2 < x1))) (
    bindO (ixT 1 x0 x2) fun (a0 : Addr) =>
    bindO (ldI .i64 h0 a0) fun (x3 : Int) =>
    bind2 (hand_May x3 h0) fun (x4 : Int) (h1 : H) =>
    newO (row 3 [(.int .i64 x4)]) h1 fun (b : Nat) (h2 : H) =>
    bind2 (appT 3 1 8 h2 n (⟨(some (⟨b, 0, (some 0)⟩ : Addr)), 1, 1⟩ : Sl)) fun (x5 : Sl) (h3 : H) =>
    some (Sum.inl ((cut, (front, (behind, (x5, (x0, (x1, (IntKind.wrap .i64 (x2 + 1)))))))), h3))) (
    some (Sum.inr (Sum.inl ((cut, (front, (behind, n))), h0))))

noncomputable def P.law1_VarintBack (hand_May : Int → H → Option ((Int) × H)) (hand_Few : Sl → Int → H → Option ((Sl) × H)) (varint_Put : Sl → Sl → H → Option ((Sl) × H)) (hand_Pick : Int → Int → H → Option ((Int) × H)) (varint_Size : Sl → H → Option ((Int) × H)) (varint_Takes : Sl → Int → H → Option ((Sl × Sl × Int) × H)) (law1_known : H → Option ((Bool) × H)) (varint_Take : Sl → H → Option ((Int × Sl × Int) × H)) (l : Sl) (cut : Int) (front : Sl) (behind : Sl) (h : H) : Option (Bool × H) :=
  joinO (
    loopO (P.law1_VarintBack_l1 hand_May hand_Few varint_Put hand_Pick varint_Size varint_Takes law1_known varint_Take) ((cut, (front, (behind, ((⟨none, 0, 0⟩ : Sl), (l, (((l.len : Nat) : Int), 0)))))), h)) fun (((cut1, (front1, (behind1, n))), h0) : ((Int × (Sl × (Sl × Sl))) × H)) =>
  bind2 (hand_Few front1 20 h0) fun (x0 : Sl) (h1 : H) =>
  bind2 (varint_Put x0 n h1) fun (x1 : Sl) (h2 : H) =>
  bind2 (hand_Pick cut1 (IntKind.wrap .i64 (((n.len : Nat) : Int) + 1)) h2) fun (x2 : Int) (h3 : H) =>
  bindO (slT 1 h3 n none (some x2) none) fun (x3 : Sl) =>
  bind2 (varint_Put x0 x3 h3) fun (x4 : Sl) (h4 : H) =>
  bindO (slT 1 h4 n (some x2) none none) fun (x5 : Sl) =>
  bind2 (varint_Put x4 x5 h4) fun (x6 : Sl) (h5 : H) =>
  bindO (slT 1 h3 n (some x2) none none) fun (x7 : Sl) =>
  condK (slEq x7.base x7.len x7.cap x5.base x5.len x5.cap) (
    joinO (
      bind2 (strT h5 x6) fun (x8 : ByteArray) (h6 : H) =>
      bind2 (strT h5 x1) fun (x9 : ByteArray) (h7 : H) =>
      condK (!(x8.toList == x9.toList)) (
        some (Sum.inl ((behind1, (n, (x0, (x1, true)))), h5))) (
        bind2 (varint_Size n h5) fun (x10 : Int) (h8 : H) =>
        letO (((IntKind.wrap .i64 (((x1.len : Nat) : Int) - ((x0.len : Nat) : Int))) != x10)) fun (x11 : Bool) =>
        condK x11 (
          condK (((x0.len : Nat) : Int) == ((x0.len : Nat) : Int)) (
            condK (((x1.len : Nat) : Int) == ((x1.len : Nat) : Int)) (
              some (Sum.inl ((behind1, (n, (x0, (x1, true)))), h8))) none) none) (
          condK (decide ((((x1.len : Nat) : Int) < ((x0.len : Nat) : Int)))) (
            condK (((x0.len : Nat) : Int) == ((x0.len : Nat) : Int)) (
              condK (((x1.len : Nat) : Int) == ((x1.len : Nat) : Int)) (
                some (Sum.inl ((behind1, (n, (x0, (x1, true)))), h8))) none) none) (
            bindO (slT 1 h8 x1 none (some ((x0.len : Nat) : Int)) none) fun (x12 : Sl) =>
            bind2 (strT h8 x12) fun (x13 : ByteArray) (h9 : H) =>
            bind2 (strT h8 x0) fun (x14 : ByteArray) (h10 : H) =>
            condK (((x0.len : Nat) : Int) == ((x0.len : Nat) : Int)) (
              condK (((x1.len : Nat) : Int) == ((x1.len : Nat) : Int)) (
                some (Sum.inl ((behind1, (n, (x0, (x1, (!(x13.toList == x14.toList)))))), h8))) none) none)))) fun (((behind2, (n1, (a0, (b, x8)))), h6) : ((Sl × (Sl × (Sl × (Sl × Bool)))) × H)) =>
    condK x8 (
      some (false, h6)) (
      bindO (slT 1 h6 b (some ((a0.len : Nat) : Int)) none none) fun (x9 : Sl) =>
      bind2 (hand_Few x9 ((b.len : Nat) : Int) h6) fun (x10 : Sl) (h7 : H) =>
      bind2 (hand_Few behind2 20 h7) fun (x11 : Sl) (h8 : H) =>
      bind2 (appT 5 1 1 h8 x10 x11) fun (x12 : Sl) (h9 : H) =>
      bind2 (varint_Takes x12 ((n1.len : Nat) : Int) h9) fun ((x13, x14, x15) : Sl × Sl × Int) (h10 : H) =>
      joinO (
        bind2 (law1_known h10) fun (x16 : Bool) (h11 : H) =>
        condK (!x16) (
          some (Sum.inl ((n1, (x12, (x13, true))), h11))) (
          condK (x15 != 0) (
            some (Sum.inl ((n1, (x12, (x13, true))), h11))) (
            condK (((x13.len : Nat) : Int) != ((n1.len : Nat) : Int)) (
              some (Sum.inl ((n1, (x12, (x13, true))), h11))) (
              bind2 (strT h11 x14) fun (x17 : ByteArray) (h12 : H) =>
              bind2 (hand_Few behind2 20 h11) fun (x18 : Sl) (h13 : H) =>
              bind2 (strT h13 x18) fun (x19 : ByteArray) (h14 : H) =>
              bind2 (strT h13 x14) fun (x20 : ByteArray) (h15 : H) =>
              condK (x20.data.toList == x17.data.toList) (
                some (Sum.inl ((n1, (x12, (x13, (!(x17.toList == x19.toList))))), h13))) none)))) fun (((n2, (d, (t, x16))), h11) : ((Sl × (Sl × (Sl × Bool))) × H)) =>
      condK x16 (
        some (false, h11)) (
        loopO (P.law1_VarintBack_l2 hand_May hand_Few varint_Put hand_Pick varint_Size varint_Takes law1_known varint_Take) ((n2, (d, (t, (((n2.len : Nat) : Int), 0)))), h11)))) none
noncomputable abbrev law1_VarintBack_l2 := P.law1_VarintBack_l2 hand_May hand_Few varint_Put hand_Pick varint_Size varint_Takes law1_known varint_Take
noncomputable abbrev law1_VarintBack_l1 := P.law1_VarintBack_l1 hand_May hand_Few varint_Put hand_Pick varint_Size varint_Takes law1_known varint_Take
noncomputable def law1_VarintBack : Sl → Int → Sl → Sl → H → Option ((Bool) × H) := P.law1_VarintBack hand_May hand_Few varint_Put hand_Pick varint_Size varint_Takes law1_known varint_Take
noncomputable def ann_16 : Ann := ⟨fun i => bif i.beq 7 then some ⟨[1, 2, 3, 9], [⟨false, [.int .i64]⟩, ⟨false, [.sl]⟩, ⟨false, [.sl]⟩, ⟨false, [.sl]⟩]⟩ else none, fun i => bif i.beq 3 then some ⟨[1, 2, 3, 9, 24, 25, 26], [⟨false, [.int .i64]⟩, ⟨false, [.sl]⟩, ⟨false, [.sl]⟩, ⟨false, [.sl]⟩, ⟨false, [.sl]⟩, ⟨false, [.int .i64]⟩, ⟨false, [.int .i64]⟩]⟩ else bif i.beq 18 then some ⟨[9, 16, 17, 127, 128], [⟨false, [.sl]⟩, ⟨false, [.sl]⟩, ⟨false, [.sl]⟩, ⟨false, [.int .i64]⟩, ⟨false, [.int .i64]⟩]⟩ else none, fun i => bif i.beq 11 then some ⟨[3, 9, 12, 13, 86], [⟨false, [.sl]⟩, ⟨false, [.sl]⟩, ⟨false, [.sl]⟩, ⟨false, [.sl]⟩, ⟨false, [.bool]⟩]⟩ else bif i.beq 15 then some ⟨[9, 16, 17, 125], [⟨false, [.sl]⟩, ⟨false, [.sl]⟩, ⟨false, [.sl]⟩, ⟨false, [.bool]⟩]⟩ else bif i.beq 21 then some ⟨[9, 17, 22, 127, 128, 157], [⟨false, [.sl]⟩, ⟨false, [.sl]⟩, ⟨false, [.sl]⟩, ⟨false, [.int .i64]⟩, ⟨false, [.int .i64]⟩, ⟨false, [.bool]⟩]⟩ else none⟩
noncomputable def E_16 : Ent := ⟨16, [⟨false, [.sl]⟩, ⟨false, [.int .i64]⟩, ⟨false, [.sl]⟩, ⟨false, [.sl]⟩], [⟨false, [.bool]⟩], fun (x : Sl × Int × Sl × Sl) h => law1_VarintBack x.1 x.2.1 x.2.2.1 x.2.2.2 h⟩
theorem eq_16 (hand_May : Int → H → Option ((Int) × H)) (hand_Few : Sl → Int → H → Option ((Sl) × H)) (varint_Put : Sl → Sl → H → Option ((Sl) × H)) (hand_Pick : Int → Int → H → Option ((Int) × H)) (varint_Size : Sl → H → Option ((Int) × H)) (varint_Takes : Sl → Int → H → Option ((Sl × Sl × Int) × H)) (law1_known : H → Option ((Bool) × H)) (varint_Take : Sl → H → Option ((Int × Sl × Int) × H)) : (fun (x : PT E_16.ps) (h : H) => runFK Go.Proofs.Ytejdeibmhlcnbaa.Tab.D (lstK [⟨23, [⟨false, [.int .i64]⟩], [⟨false, [.int .i64]⟩], fun (x : Int) h => hand_May x h⟩, ⟨39, [⟨false, [.sl]⟩, ⟨false, [.int .i64]⟩], [⟨false, [.sl]⟩], fun (x : Sl × Int) h => hand_Few x.1 x.2 h⟩, ⟨25, [⟨false, [.sl]⟩, ⟨false, [.sl]⟩], [⟨false, [.sl]⟩], fun (x : Sl × Sl) h => varint_Put x.1 x.2 h⟩, ⟨18, [⟨false, [.int .i64]⟩, ⟨false, [.int .i64]⟩], [⟨false, [.int .i64]⟩], fun (x : Int × Int) h => hand_Pick x.1 x.2 h⟩, ⟨24, [⟨false, [.sl]⟩], [⟨false, [.int .i64]⟩], fun (x : Sl) h => varint_Size x h⟩, ⟨40, [⟨false, [.sl]⟩, ⟨false, [.int .i64]⟩], [⟨false, [.sl]⟩, ⟨false, [.sl]⟩, ⟨false, [.int .i64]⟩], fun (x : Sl × Int) h => varint_Takes x.1 x.2 h⟩, ⟨27, [], [⟨false, [.bool]⟩], fun (x : Unit) h => law1_known h⟩, ⟨26, [⟨false, [.sl]⟩], [⟨false, [.int .i64]⟩, ⟨false, [.sl]⟩, ⟨false, [.int .i64]⟩], fun (x : Sl) h => varint_Take x h⟩]) ann_16 Try.f16 (Try.f16.body.getD .skip) E_16.ys (encP E_16.ps x) h) = (fun (x : Sl × Int × Sl × Sl) h => P.law1_VarintBack hand_May hand_Few varint_Put hand_Pick varint_Size varint_Takes law1_known varint_Take x.1 x.2.1 x.2.2.1 x.2.2.2 h) := by kernel_rfl
theorem ok_16 : E_16.ok Go.Proofs.Ytejdeibmhlcnbaa.Tab.D := fun x h y h' e => runFK_ok (lstK_ok [E_23, E_39, E_25, E_18, E_24, E_40, E_27, E_26] (List.forall_mem_cons.2 ⟨ok_23, List.forall_mem_cons.2 ⟨ok_39, List.forall_mem_cons.2 ⟨ok_25, List.forall_mem_cons.2 ⟨ok_18, List.forall_mem_cons.2 ⟨ok_24, List.forall_mem_cons.2 ⟨ok_40, List.forall_mem_cons.2 ⟨ok_27, List.forall_mem_cons.2 ⟨ok_26, fun E h => nomatch h⟩⟩⟩⟩⟩⟩⟩⟩)) (A := ann_16) (by kernel_rfl) (show Go.Proofs.Ytejdeibmhlcnbaa.Tab.D.fn.get 16 = some Try.f16 by kernel_rfl) (show Try.f16.body = some (Try.f16.body.getD .skip) by kernel_rfl) ((congrFun (congrFun (eq_16 hand_May hand_Few varint_Put hand_Pick varint_Size varint_Takes law1_known varint_Take) x) h).trans e)
/-! law1_VarintNone -/
noncomputable def P.law1_VarintNone_l1 (hand_May : Int → H → Option ((Int) × H)) (hand_Pick : Int → Int → H → Option ((Int) × H)) (varint_Put : Sl → Sl → H → Option ((Sl) × H)) (varint_Takes : Sl → Int → H → Option ((Sl × Sl × Int) × H)) (law1_known : H → Option ((Bool) × H)) (varint_Size : Sl → H → Option ((Int) × H)) : ((Sl × (Int × (Int × (Int × (Sl × (Sl × Int)))))) × H) → Option (((Sl × (Int × (Int × (Int × (Sl × (Sl × Int)))))) × H) ⊕ (((Int × (Int × (Int × (Sl × Sl)))) × H) ⊕ (Bool × H))) := fun ((l, (bad, (at', (count, (b, (n, i)))))), h0) =>
  joinO (
    condK (decide ((i < ((l.len : Nat) : Int)))) (
      some (Sum.inl ((l, (bad, (at', (count, (b, (n, (i, (decide ((i < 10)))))))))), h0))) (
      some (Sum.inl ((l, (bad, (at', (count, (b, (n, (i, false))))))), h0)))) fun (((l1, (bad1, (at'1, (count1, (b1, (n1, (i1, x0))))))), h1) : ((Sl × (Int × (Int × (Int × (Sl × (Sl × (Int × Bool))))))) × H)) =>
  condK x0 (
    bindO (ixT 1 l1 i1) fun (a0 : Addr) =>
    bindO (ldI .i64 h1 a0) fun (x1 : Int) =>
    bind2 (hand_May x1 h1) fun (x2 : Int) (h2 : H) =>
    newO (row 3 [(.int .i64 x2)]) h2 fun (b2 : Nat) (h3 : H) =>
    bind2 (appT 3 1 8 h3 n1 (⟨(some (⟨b2, 0, (some 0)⟩ : Addr)), 1, 1⟩ : Sl)) fun (x3 : Sl) (h4 : H) =>
    some (Sum.inl ((l1, (bad1, (at'1, (count1, (b1, (x3, (IntKind.wrap .i64 (i1 + 1)))))))), h4))) (
    some (Sum.inr (Sum.inl ((bad1, (at'1, (count1, (b1, n1)))), h1))))

noncomputable def P.law1_VarintNone (hand_May : Int → H → Option ((Int) × H)) (hand_Pick : Int → Int → H → Option ((Int) × H)) (varint_Put : Sl → Sl → H → Option ((Sl) × H)) (varint_Takes : Sl → Int → H → Option ((Sl × Sl × Int) × H)) (law1_known : H → Option ((Bool) × H)) (varint_Size : Sl → H → Option ((Int) × H)) (l : Sl) (bad : Int) (at' : Int) (count : Int) (b : Sl) (h : H) : Option (Bool × H) :=
  joinO (
    loopO (P.law1_VarintNone_l1 hand_May hand_Pick varint_Put varint_Takes law1_known varint_Size) ((l, (bad, (at', (count, (b, ((⟨none, 0, 0⟩ : Sl), 0)))))), h)) fun (((bad1, (at'1, (count1, (b1, n)))), h0) : ((Int × (Int × (Int × (Sl × Sl)))) × H)) =>
  bind2 (hand_Pick at'1 (IntKind.wrap .i64 (((n.len : Nat) : Int) + 1)) h0) fun (x0 : Int) (h1 : H) =>
  bind2 (hand_Pick bad1 1099511627776 h1) fun (x1 : Int) (h2 : H) =>
  joinO (
    condK ((Int.tmod bad1 2) == 0) (
      bind2 (hand_Pick bad1 1099511627776 h2) fun (x2 : Int) (h3 : H) =>
      some (Sum.inl ((count1, (b1, (n, (x0, (IntKind.wrap .i64 (4611686018427387904 + x2)))))), h3))) (
      some (Sum.inl ((count1, (b1, (n, (x0, (IntKind.wrap .i64 ((-1) - x1)))))), h2)))) fun (((count2, (b2, (n1, (k, wrong)))), h3) : ((Int × (Sl × (Sl × (Int × Int)))) × H)) =>
  bindO (slT 1 (addP 6 h3.size [(0, (row 3 []))] (growIf h3 13)) n1 none (some k) none) fun (x2 : Sl) =>
  bind2 (appT 3 1 8 (addP 15 h3.size [(0, (row 3 []))] (growIf h3 13)) (⟨(some (⟨(h3.size + 0), 0, (some 0)⟩ : Addr)), 0, 0⟩ : Sl) x2) fun (x3 : Sl) (h4 : H) =>
  bind2 (appT 3 1 8 (addP 127 h3.size [(0, (row 3 [])), (6, (row 3 [(.int .i64 wrong)]))] h4) x3 (⟨(some (⟨(h3.size + 6), 0, (some 0)⟩ : Addr)), 1, 1⟩ : Sl)) fun (x4 : Sl) (h5 : H) =>
  bindO (slT 1 (addP 768 h3.size [(0, (row 3 [])), (6, (row 3 [(.int .i64 wrong)]))] h5) n1 (some k) none none) fun (x5 : Sl) =>
  bind2 (appT 3 1 8 (addP 2047 h3.size [(0, (row 3 [])), (6, (row 3 [(.int .i64 wrong)]))] h5) x4 x5) fun (x6 : Sl) (h6 : H) =>
  bindO (slT 1 (addP 768 h3.size [(0, (row 3 [])), (6, (row 3 [(.int .i64 wrong)]))] h4) n1 (some k) none none) fun (x7 : Sl) =>
  condK (slEq x7.base x7.len x7.cap x5.base x5.len x5.cap) (
    bindO (slT 1 (addP 768 h3.size [(0, (row 3 [])), (6, (row 3 [(.int .i64 wrong)]))] (growIf h3 13)) n1 (some k) none none) fun (x8 : Sl) =>
    condK (slEq x8.base x8.len x8.cap x5.base x5.len x5.cap) (
      bind2 (varint_Put (⟨none, 0, 0⟩ : Sl) n1 (tickIf 13 (addP 8191 h3.size [(0, (row 3 [])), (6, (row 3 [(.int .i64 wrong)]))] h6))) fun (x9 : Sl) (h7 : H) =>
      bind2 (hand_Pick count2 4 h7) fun (x10 : Int) (h8 : H) =>
      letO ((IntKind.wrap .i64 ((IntKind.wrap .i64 (((n1.len : Nat) : Int) + 1)) + x10))) fun (x11 : Int) =>
      bind2 (varint_Takes x9 x11 h8) fun ((x12, x13, x14) : Sl × Sl × Int) (h9 : H) =>
      bind2 (law1_known h9) fun (x15 : Bool) (h10 : H) =>
      condK x15 (
        bind2 (varint_Size x6 h10) fun (x16 : Int) (h11 : H) =>
        condK (x16 == (-1)) (
          bind2 (varint_Put b2 x6 h11) fun (x17 : Sl) (h12 : H) =>
          condK (((x17.len : Nat) : Int) == 0) (
            condK (x14 == 3) (
              condK (((x12.len : Nat) : Int) == 0) (
                some ((((x13.len : Nat) : Int) == 0), h12)) (
                some (false, h12))) (
              some (false, h12))) (
            some (false, h12))) (
          some (false, h11))) (
        some (false, h10))) none) none
noncomputable abbrev law1_VarintNone_l1 := P.law1_VarintNone_l1 hand_May hand_Pick varint_Put varint_Takes law1_known varint_Size
noncomputable def law1_VarintNone : Sl → Int → Int → Int → Sl → H → Option ((Bool) × H) := P.law1_VarintNone hand_May hand_Pick varint_Put varint_Takes law1_known varint_Size
noncomputable def ann_17 : Ann := ⟨fun i => bif i.beq 6 then some ⟨[1, 2, 3, 4, 11], [⟨false, [.int .i64]⟩, ⟨false, [.int .i64]⟩, ⟨false, [.int .i64]⟩, ⟨false, [.sl]⟩, ⟨false, [.sl]⟩]⟩ else bif i.beq 10 then some ⟨[3, 4, 11, 13, 14], [⟨false, [.int .i64]⟩, ⟨false, [.sl]⟩, ⟨false, [.sl]⟩, ⟨false, [.int .i64]⟩, ⟨false, [.int .i64]⟩]⟩ else none, fun i => bif i.beq 3 then some ⟨[0, 1, 2, 3, 4, 11, 12], [⟨false, [.sl]⟩, ⟨false, [.int .i64]⟩, ⟨false, [.int .i64]⟩, ⟨false, [.int .i64]⟩, ⟨false, [.sl]⟩, ⟨false, [.sl]⟩, ⟨false, [.int .i64]⟩]⟩ else none, fun i => bif i.beq 3 then some ⟨[0, 1, 2, 3, 4, 11, 12, 28], [⟨false, [.sl]⟩, ⟨false, [.int .i64]⟩, ⟨false, [.int .i64]⟩, ⟨false, [.int .i64]⟩, ⟨false, [.sl]⟩, ⟨false, [.sl]⟩, ⟨false, [.int .i64]⟩, ⟨false, [.bool]⟩]⟩ else none⟩
noncomputable def E_17 : Ent := ⟨17, [⟨false, [.sl]⟩, ⟨false, [.int .i64]⟩, ⟨false, [.int .i64]⟩, ⟨false, [.int .i64]⟩, ⟨false, [.sl]⟩], [⟨false, [.bool]⟩], fun (x : Sl × Int × Int × Int × Sl) h => law1_VarintNone x.1 x.2.1 x.2.2.1 x.2.2.2.1 x.2.2.2.2 h⟩
theorem eq_17 (hand_May : Int → H → Option ((Int) × H)) (hand_Pick : Int → Int → H → Option ((Int) × H)) (varint_Put : Sl → Sl → H → Option ((Sl) × H)) (varint_Takes : Sl → Int → H → Option ((Sl × Sl × Int) × H)) (law1_known : H → Option ((Bool) × H)) (varint_Size : Sl → H → Option ((Int) × H)) : (fun (x : PT E_17.ps) (h : H) => runFK Go.Proofs.Ytejdeibmhlcnbaa.Tab.D (lstK [⟨23, [⟨false, [.int .i64]⟩], [⟨false, [.int .i64]⟩], fun (x : Int) h => hand_May x h⟩, ⟨18, [⟨false, [.int .i64]⟩, ⟨false, [.int .i64]⟩], [⟨false, [.int .i64]⟩], fun (x : Int × Int) h => hand_Pick x.1 x.2 h⟩, ⟨25, [⟨false, [.sl]⟩, ⟨false, [.sl]⟩], [⟨false, [.sl]⟩], fun (x : Sl × Sl) h => varint_Put x.1 x.2 h⟩, ⟨40, [⟨false, [.sl]⟩, ⟨false, [.int .i64]⟩], [⟨false, [.sl]⟩, ⟨false, [.sl]⟩, ⟨false, [.int .i64]⟩], fun (x : Sl × Int) h => varint_Takes x.1 x.2 h⟩, ⟨27, [], [⟨false, [.bool]⟩], fun (x : Unit) h => law1_known h⟩, ⟨24, [⟨false, [.sl]⟩], [⟨false, [.int .i64]⟩], fun (x : Sl) h => varint_Size x h⟩]) ann_17 Try.f17 (Try.f17.body.getD .skip) E_17.ys (encP E_17.ps x) h) = (fun (x : Sl × Int × Int × Int × Sl) h => P.law1_VarintNone hand_May hand_Pick varint_Put varint_Takes law1_known varint_Size x.1 x.2.1 x.2.2.1 x.2.2.2.1 x.2.2.2.2 h) := by kernel_rfl
theorem ok_17 : E_17.ok Go.Proofs.Ytejdeibmhlcnbaa.Tab.D := fun x h y h' e => runFK_ok (lstK_ok [E_23, E_18, E_25, E_40, E_27, E_24] (List.forall_mem_cons.2 ⟨ok_23, List.forall_mem_cons.2 ⟨ok_18, List.forall_mem_cons.2 ⟨ok_25, List.forall_mem_cons.2 ⟨ok_40, List.forall_mem_cons.2 ⟨ok_27, List.forall_mem_cons.2 ⟨ok_24, fun E h => nomatch h⟩⟩⟩⟩⟩⟩)) (A := ann_17) (by kernel_rfl) (show Go.Proofs.Ytejdeibmhlcnbaa.Tab.D.fn.get 17 = some Try.f17 by kernel_rfl) (show Try.f17.body = some (Try.f17.body.getD .skip) by kernel_rfl) ((congrFun (congrFun (eq_17 hand_May hand_Pick varint_Put varint_Takes law1_known varint_Size) x) h).trans e)
end Go.Proofs.Ytejdeibmhlcnbaa.T
