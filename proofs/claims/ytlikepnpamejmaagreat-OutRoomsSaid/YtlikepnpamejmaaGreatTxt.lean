/- The typed texts of the program's functions, printed by a program of this session (wip/KPrint.lean) out of the machine's own definitions; each is the machine's own run, by the kernel's reduction. -/
import Derived.Test.YtlikepnpamejmaaGreatOv
import Derived.KernelRfl
set_option linter.unusedVariables false
set_option maxRecDepth 1000000
namespace Go.Proofs.YtlikepnpamejmaaGreat.T
open Go Go.Abs Go.Proofs
/-! outbox_New -/
noncomputable def outbox_New  (h : H) : Option (Option Addr × H) :=
  newO (row 38 [(.map none), (.slice none 0 0), (.slice none 0 0)]) h fun (b : Nat) (h0 : H) =>
  some ((some (⟨b, 0, (some 0)⟩ : Addr)), h0)
noncomputable def ann_4 : Ann := ⟨fun _ => none, fun _ => none, fun _ => none⟩
noncomputable def E_4 : Ent := ⟨4, [], [⟨false, [.ptr]⟩], fun (x : Unit) h => outbox_New h⟩
theorem eq_4  : (fun (x : PT E_4.ps) (h : H) => runFK Go.Proofs.YtlikepnpamejmaaGreat.Ov.D (lstK []) ann_4 Tryz.f4 (Tryz.f4.body.getD .skip) E_4.ys (encP E_4.ps x) h) = (fun (x : Unit) h => outbox_New  h) := by kernel_rfl
theorem ok_4 : E_4.ok Go.Proofs.YtlikepnpamejmaaGreat.Ov.D := fun x h y h' e => runFK_ok (lstK_ok [] (fun E h => nomatch h)) (A := ann_4) (by kernel_rfl) (show Go.Proofs.YtlikepnpamejmaaGreat.Ov.D.fn.get 4 = some Tryz.f4 by kernel_rfl) (show Tryz.f4.body = some (Tryz.f4.body.getD .skip) by kernel_rfl) ((congrFun (congrFun (eq_4 ) x) h).trans e)
/-! cong_New -/
noncomputable def cong_New  (h : H) : Option ((Int × Int × Int × Int) × H) :=
  newO (row 69 [(.int .i64 0), (.int .i64 0), (.int .i64 0), (.int .i64 0)]) h fun (b : Nat) (h0 : H) =>
  bindO (stZ [.int .i64, .int .i64, .int .i64, .int .i64] h0 (⟨b, 0, (some 0)⟩ : Addr) ((4, 32, 0, 0) : Int × Int × Int × Int)) fun (h1 : H) =>
  bindO (ldZ [.int .i64, .int .i64, .int .i64, .int .i64] h1 (⟨b, 0, (some 0)⟩ : Addr)) fun ((x0, x1, x2, x3) : Int × Int × Int × Int) =>
  some ((x0, (x1, (x2, x3))), h1)
noncomputable def ann_40 : Ann := ⟨fun _ => none, fun _ => none, fun _ => none⟩
noncomputable def E_40 : Ent := ⟨40, [], [⟨true, [.int .i64, .int .i64, .int .i64, .int .i64]⟩], fun (x : Unit) h => cong_New h⟩
theorem eq_40  : (fun (x : PT E_40.ps) (h : H) => runFK Go.Proofs.YtlikepnpamejmaaGreat.Ov.D (lstK []) ann_40 Tryz.f40 (Tryz.f40.body.getD .skip) E_40.ys (encP E_40.ps x) h) = (fun (x : Unit) h => cong_New  h) := by kernel_rfl
theorem ok_40 : E_40.ok Go.Proofs.YtlikepnpamejmaaGreat.Ov.D := fun x h y h' e => runFK_ok (lstK_ok [] (fun E h => nomatch h)) (A := ann_40) (by kernel_rfl) (show Go.Proofs.YtlikepnpamejmaaGreat.Ov.D.fn.get 40 = some Tryz.f40 by kernel_rfl) (show Tryz.f40.body = some (Tryz.f40.body.getD .skip) by kernel_rfl) ((congrFun (congrFun (eq_40 ) x) h).trans e)
/-! path_New -/
noncomputable def P.path_New (cong_New : H → Option (((Int × Int × Int × Int)) × H))  (h : H) : Option (Option Addr × H) :=
  bind2 (cong_New h) fun ((x0, x1, x2, x3) : Int × Int × Int × Int) (h0 : H) =>
  newO (row 71 [(.int .i64 0), (.int .i64 0), (.int .i64 0), (.bool false), (.slice none 0 0), (.int .i64 0), (.int .i64 0), (.int .i64 x0), (.int .i64 x1), (.int .i64 x2), (.int .i64 x3)]) h0 fun (b : Nat) (h1 : H) =>
  some ((some (⟨b, 0, (some 0)⟩ : Addr)), h1)
noncomputable def path_New : H → Option ((Option Addr) × H) := P.path_New cong_New
noncomputable def ann_21 : Ann := ⟨fun _ => none, fun _ => none, fun _ => none⟩
noncomputable def E_21 : Ent := ⟨21, [], [⟨false, [.ptr]⟩], fun (x : Unit) h => path_New h⟩
theorem eq_21 (cong_New : H → Option (((Int × Int × Int × Int)) × H)) : (fun (x : PT E_21.ps) (h : H) => runFK Go.Proofs.YtlikepnpamejmaaGreat.Ov.D (lstK [⟨40, [], [⟨true, [.int .i64, .int .i64, .int .i64, .int .i64]⟩], fun (x : Unit) h => cong_New h⟩]) ann_21 Tryz.f21 (Tryz.f21.body.getD .skip) E_21.ys (encP E_21.ps x) h) = (fun (x : Unit) h => P.path_New cong_New  h) := by kernel_rfl
theorem ok_21 : E_21.ok Go.Proofs.YtlikepnpamejmaaGreat.Ov.D := fun x h y h' e => runFK_ok (lstK_ok [E_40] (List.forall_mem_cons.2 ⟨ok_40, fun E h => nomatch h⟩)) (A := ann_21) (by kernel_rfl) (show Go.Proofs.YtlikepnpamejmaaGreat.Ov.D.fn.get 21 = some Tryz.f21 by kernel_rfl) (show Tryz.f21.body = some (Tryz.f21.body.getD .skip) by kernel_rfl) ((congrFun (congrFun (eq_21 cong_New) x) h).trans e)
/-! acks_New -/
noncomputable def acks_New  (h : H) : Option (Option Addr × H) :=
  newO (row 112 [(.slice none 0 0), (.bool false), (.int .i64 (-1))]) h fun (b : Nat) (h0 : H) =>
  some ((some (⟨b, 0, (some 0)⟩ : Addr)), h0)
noncomputable def ann_22 : Ann := ⟨fun _ => none, fun _ => none, fun _ => none⟩
noncomputable def E_22 : Ent := ⟨22, [], [⟨false, [.ptr]⟩], fun (x : Unit) h => acks_New h⟩
theorem eq_22  : (fun (x : PT E_22.ps) (h : H) => runFK Go.Proofs.YtlikepnpamejmaaGreat.Ov.D (lstK []) ann_22 Tryz.f22 (Tryz.f22.body.getD .skip) E_22.ys (encP E_22.ps x) h) = (fun (x : Unit) h => acks_New  h) := by kernel_rfl
theorem ok_22 : E_22.ok Go.Proofs.YtlikepnpamejmaaGreat.Ov.D := fun x h y h' e => runFK_ok (lstK_ok [] (fun E h => nomatch h)) (A := ann_22) (by kernel_rfl) (show Go.Proofs.YtlikepnpamejmaaGreat.Ov.D.fn.get 22 = some Tryz.f22 by kernel_rfl) (show Tryz.f22.body = some (Tryz.f22.body.getD .skip) by kernel_rfl) ((congrFun (congrFun (eq_22 ) x) h).trans e)
/-! credit_NewGrant -/
noncomputable def credit_NewGrant (room : Int) (h : H) : Option ((Int × Int × Int) × H) :=
  newO (row 82 [(.int .i64 0), (.int .i64 0), (.int .i64 0)]) h fun (b : Nat) (h0 : H) =>
  letO ((if ((if (1048576 < room) then 1048576 else room) > 1) then (if (1048576 < room) then 1048576 else room) else 1)) fun (x0 : Int) =>
  bindO (stZ [.int .i64, .int .i64, .int .i64] h0 (⟨b, 0, (some 0)⟩ : Addr) ((x0, 0, x0) : Int × Int × Int)) fun (h1 : H) =>
  bindO (ldZ [.int .i64, .int .i64, .int .i64] h1 (⟨b, 0, (some 0)⟩ : Addr)) fun ((x1, x2, x3) : Int × Int × Int) =>
  some ((x1, (x2, x3)), h1)
noncomputable def ann_25 : Ann := ⟨fun _ => none, fun _ => none, fun _ => none⟩
noncomputable def E_25 : Ent := ⟨25, [⟨false, [.int .i64]⟩], [⟨true, [.int .i64, .int .i64, .int .i64]⟩], fun (x : Int) h => credit_NewGrant x h⟩
theorem eq_25  : (fun (x : PT E_25.ps) (h : H) => runFK Go.Proofs.YtlikepnpamejmaaGreat.Ov.D (lstK []) ann_25 Tryz.f25 (Tryz.f25.body.getD .skip) E_25.ys (encP E_25.ps x) h) = (fun (x : Int) h => credit_NewGrant x h) := by kernel_rfl
theorem ok_25 : E_25.ok Go.Proofs.YtlikepnpamejmaaGreat.Ov.D := fun x h y h' e => runFK_ok (lstK_ok [] (fun E h => nomatch h)) (A := ann_25) (by kernel_rfl) (show Go.Proofs.YtlikepnpamejmaaGreat.Ov.D.fn.get 25 = some Tryz.f25 by kernel_rfl) (show Tryz.f25.body = some (Tryz.f25.body.getD .skip) by kernel_rfl) ((congrFun (congrFun (eq_25 ) x) h).trans e)
/-! table_New -/
noncomputable def P.table_New_l1 (credit_NewGrant : Int → H → Option (((Int × Int × Int)) × H)) : (((Option Addr) × Int) × H) → Option ((((Option Addr) × Int) × H) ⊕ (((Option Addr) × H) ⊕ ((Option Addr) × H))) := fun ((t, x0), h0) =>
  condK (decide ((x0 < 2))) (
    ptrK t fun (a0 : Addr) =>
    bindO (ixAT 2 2 (add a0 1) x0) fun (a1 : Addr) =>
    bindO (st1 h0 (add a1 0) (.int .i64 6)) fun (h1 : H) =>
    bind2 (credit_NewGrant 6 h1) fun ((x1, x2, x3) : Int × Int × Int) (h2 : H) =>
    ptrK t fun (a2 : Addr) =>
    bindO (ixAT 2 3 (add a2 5) x0) fun (a3 : Addr) =>
    bindO (stZ [.int .i64, .int .i64, .int .i64] h2 a3 ((x1, x2, x3) : Int × Int × Int)) fun (h3 : H) =>
    some (Sum.inl ((t, (IntKind.wrap .i64 (x0 + 1))), h3))) (
    some (Sum.inr (Sum.inl (t, h0))))

noncomputable def P.table_New (credit_NewGrant : Int → H → Option (((Int × Int × Int)) × H)) (who : Int) (h : H) : Option (Option Addr × H) :=
  letO ((if ((if (1 < who) then 1 else who) > 0) then (if (1 < who) then 1 else who) else 0)) fun (x0 : Int) =>
  newO (.map []) h fun (b : Nat) (h0 : H) =>
  newO (.map []) h0 fun (b1 : Nat) (h1 : H) =>
  newO (row 118 [(.int .i64 x0), (.int .i64 0), (.int .i64 0), (.int .i64 0), (.int .i64 0), (.int .i64 0), (.int .i64 0), (.int .i64 0), (.int .i64 0), (.int .i64 0), (.int .i64 0), (.map (some b)), (.map (some b1))]) h1 fun (b2 : Nat) (h2 : H) =>
  joinO (
    loopO (P.table_New_l1 credit_NewGrant) (((some (⟨b2, 0, (some 0)⟩ : Addr)), 0), h2)) fun ((t, h3) : ((Option Addr) × H)) =>
  some (t, h3)
noncomputable abbrev table_New_l1 := P.table_New_l1 credit_NewGrant
noncomputable def table_New : Int → H → Option ((Option Addr) × H) := P.table_New credit_NewGrant
noncomputable def ann_23 : Ann := ⟨fun i => bif i.beq 8 then some ⟨[3], [⟨false, [.ptr]⟩]⟩ else none, fun i => bif i.beq 3 then some ⟨[3, 12], [⟨false, [.ptr]⟩, ⟨false, [.int .i64]⟩]⟩ else none, fun _ => none⟩
noncomputable def E_23 : Ent := ⟨23, [⟨false, [.int .i64]⟩], [⟨false, [.ptr]⟩], fun (x : Int) h => table_New x h⟩
theorem eq_23 (credit_NewGrant : Int → H → Option (((Int × Int × Int)) × H)) : (fun (x : PT E_23.ps) (h : H) => runFK Go.Proofs.YtlikepnpamejmaaGreat.Ov.D (lstK [⟨25, [⟨false, [.int .i64]⟩], [⟨true, [.int .i64, .int .i64, .int .i64]⟩], fun (x : Int) h => credit_NewGrant x h⟩]) ann_23 Tryz.f23 (Tryz.f23.body.getD .skip) E_23.ys (encP E_23.ps x) h) = (fun (x : Int) h => P.table_New credit_NewGrant x h) := by kernel_rfl
theorem ok_23 : E_23.ok Go.Proofs.YtlikepnpamejmaaGreat.Ov.D := fun x h y h' e => runFK_ok (lstK_ok [E_25] (List.forall_mem_cons.2 ⟨ok_25, fun E h => nomatch h⟩)) (A := ann_23) (by kernel_rfl) (show Go.Proofs.YtlikepnpamejmaaGreat.Ov.D.fn.get 23 = some Tryz.f23 by kernel_rfl) (show Tryz.f23.body = some (Tryz.f23.body.getD .skip) by kernel_rfl) ((congrFun (congrFun (eq_23 credit_NewGrant) x) h).trans e)
/-! math_bits_RotateLeft64 -/
noncomputable def math_bits_RotateLeft64 (x0 : Int) (k : Int) (h : H) : Option (Int × H) :=
  letO ((IntKind.wrap .u64 (((BitVec.toNat ((BitVec.ofInt 64 (IntKind.wrap .u64 k)) &&& (BitVec.ofInt 64 63))) : Nat) : Int))) fun (x1 : Int) =>
  bindO (shlT .u64 x0 .u64 x1) fun (x2 : Int) =>
  bindO (shrT .u64 x0 .u64 (IntKind.wrap .u64 (64 - x1))) fun (x3 : Int) =>
  letO ((IntKind.wrap .u64 (((BitVec.toNat ((BitVec.ofInt 64 x2) ||| (BitVec.ofInt 64 x3))) : Nat) : Int))) fun (x4 : Int) =>
  some (x4, h)
noncomputable def ann_41 : Ann := ⟨fun _ => none, fun _ => none, fun _ => none⟩
noncomputable def E_41 : Ent := ⟨41, [⟨false, [.int .u64]⟩, ⟨false, [.int .i64]⟩], [⟨false, [.int .u64]⟩], fun (x : Int × Int) h => math_bits_RotateLeft64 x.1 x.2 h⟩
theorem eq_41  : (fun (x : PT E_41.ps) (h : H) => runFK Go.Proofs.YtlikepnpamejmaaGreat.Ov.D (lstK []) ann_41 Tryz.f41 (Tryz.f41.body.getD .skip) E_41.ys (encP E_41.ps x) h) = (fun (x : Int × Int) h => math_bits_RotateLeft64 x.1 x.2 h) := by kernel_rfl
theorem ok_41 : E_41.ok Go.Proofs.YtlikepnpamejmaaGreat.Ov.D := fun x h y h' e => runFK_ok (lstK_ok [] (fun E h => nomatch h)) (A := ann_41) (by kernel_rfl) (show Go.Proofs.YtlikepnpamejmaaGreat.Ov.D.fn.get 41 = some Tryz.f41 by kernel_rfl) (show Tryz.f41.body = some (Tryz.f41.body.getD .skip) by kernel_rfl) ((congrFun (congrFun (eq_41 ) x) h).trans e)
/-! seal_Step -/
noncomputable def P.seal_Step (math_bits_RotateLeft64 : Int → Int → H → Option ((Int) × H)) (h0 : Int) (c : Int) (h : H) : Option (Int × H) :=
  bind2 (math_bits_RotateLeft64 h0 13 h) fun (x0 : Int) (h1 : H) =>
  letO ((IntKind.wrap .u64 (((BitVec.toNat ((BitVec.ofInt 64 x0) ^^^ (BitVec.ofInt 64 c))) : Nat) : Int))) fun (x1 : Int) =>
  some ((IntKind.wrap .u64 (x1 * 15485907386658061715)), h1)
noncomputable def seal_Step : Int → Int → H → Option ((Int) × H) := P.seal_Step math_bits_RotateLeft64
noncomputable def ann_24 : Ann := ⟨fun _ => none, fun _ => none, fun _ => none⟩
noncomputable def E_24 : Ent := ⟨24, [⟨false, [.int .u64]⟩, ⟨false, [.int .u64]⟩], [⟨false, [.int .u64]⟩], fun (x : Int × Int) h => seal_Step x.1 x.2 h⟩
theorem eq_24 (math_bits_RotateLeft64 : Int → Int → H → Option ((Int) × H)) : (fun (x : PT E_24.ps) (h : H) => runFK Go.Proofs.YtlikepnpamejmaaGreat.Ov.D (lstK [⟨41, [⟨false, [.int .u64]⟩, ⟨false, [.int .i64]⟩], [⟨false, [.int .u64]⟩], fun (x : Int × Int) h => math_bits_RotateLeft64 x.1 x.2 h⟩]) ann_24 Tryz.f24 (Tryz.f24.body.getD .skip) E_24.ys (encP E_24.ps x) h) = (fun (x : Int × Int) h => P.seal_Step math_bits_RotateLeft64 x.1 x.2 h) := by kernel_rfl
theorem ok_24 : E_24.ok Go.Proofs.YtlikepnpamejmaaGreat.Ov.D := fun x h y h' e => runFK_ok (lstK_ok [E_41] (List.forall_mem_cons.2 ⟨ok_41, fun E h => nomatch h⟩)) (A := ann_24) (by kernel_rfl) (show Go.Proofs.YtlikepnpamejmaaGreat.Ov.D.fn.get 24 = some Tryz.f24 by kernel_rfl) (show Tryz.f24.body = some (Tryz.f24.body.getD .skip) by kernel_rfl) ((congrFun (congrFun (eq_24 math_bits_RotateLeft64) x) h).trans e)
/-! conn_New -/
noncomputable def P.conn_New (path_New : H → Option ((Option Addr) × H)) (acks_New : H → Option ((Option Addr) × H)) (table_New : Int → H → Option ((Option Addr) × H)) (seal_Step : Int → Int → H → Option ((Int) × H)) (credit_NewGrant : Int → H → Option (((Int × Int × Int)) × H)) (who : Int) (key : Int) (now : Int) (h : H) : Option (Option Addr × H) :=
  letO ((if ((if (1 < who) then 1 else who) > 0) then (if (1 < who) then 1 else who) else 0)) fun (x0 : Int) =>
  letH (growIf h 24) fun (h0 : H) =>
  bind2 (path_New h0) fun (x1 : Option Addr) (h1 : H) =>
  ptrK x1 fun (a0 : Addr) =>
  bindO (ldZ [.int .i64, .int .i64, .int .i64, .bool, .sl, .int .i64, .int .i64, .int .i64, .int .i64, .int .i64, .int .i64] h1 a0) fun ((x2, x3, x4, x5, x6, x7, x8, x9, x10, x11, x12) : Int × Int × Int × Bool × Sl × Int × Int × Int × Int × Int × Int) =>
  bind2 (acks_New h1) fun (x13 : Option Addr) (h2 : H) =>
  bind2 (table_New x0 h2) fun (x14 : Option Addr) (h3 : H) =>
  bind2 (seal_Step key (IntKind.wrap .u64 x0) h3) fun (x15 : Int) (h4 : H) =>
  bind2 (seal_Step key (IntKind.wrap .u64 (IntKind.wrap .i64 (1 - x0))) h4) fun (x16 : Int) (h5 : H) =>
  bind2 (credit_NewGrant 1000 h5) fun ((x17, x18, x19) : Int × Int × Int) (h6 : H) =>
  letH (addP 3 h.size [(17, (.map [])), (19, (.map [])), (22, (row 94 [(.int .i64 x2), (.int .i64 x3), (.int .i64 x4), (.bool x5), (.slice x6.base x6.len x6.cap), (.int .i64 x7), (.int .i64 x8), (.int .i64 x9), (.int .i64 x10), (.int .i64 x11), (.int .i64 x12), (.pointer x13), (.pointer x14), (.int .u64 x15), (.int .u64 x16), (.int .i64 1000), (.int .i64 0), (.int .i64 x17), (.int .i64 x18), (.int .i64 x19), (.int .i64 0), (.slice none 0 0), (.slice none 0 0), (.slice none 0 0), (.slice none 0 0), (.slice none 0 0), (.slice none 0 0), (.bool false), (.bool false), (.bool false), (.map (some (h.size + 17))), (.map (some (h.size + 19))), (.int .i64 now), (.bool false), (.bool false), (.int .i64 0)]))] h6) fun (h7 : H) =>
  bindO (ldZ [.int .i64, .int .i64, .int .i64, .bool, .sl, .int .i64, .int .i64, .int .i64, .int .i64, .int .i64, .int .i64] h7 a0) fun ((x20, x21, x22, x23, x24, x25, x26, x27, x28, x29, x30) : Int × Int × Int × Bool × Sl × Int × Int × Int × Int × Int × Int) =>
  condK (veq (.agg #[(.int .i64 x2), (.int .i64 x3), (.int .i64 x4), (.bool x5), (.slice x6.base x6.len x6.cap), (.int .i64 x7), (.int .i64 x8), (.int .i64 x9), (.int .i64 x10), (.int .i64 x11), (.int .i64 x12)]) (.agg #[(.int .i64 x20), (.int .i64 x21), (.int .i64 x22), (.bool x23), (.slice x24.base x24.len x24.cap), (.int .i64 x25), (.int .i64 x26), (.int .i64 x27), (.int .i64 x28), (.int .i64 x29), (.int .i64 x30)])) (
    letH (addP 3 h.size [(17, (.map [])), (19, (.map [])), (22, (row 94 [(.int .i64 x2), (.int .i64 x3), (.int .i64 x4), (.bool x5), (.slice x6.base x6.len x6.cap), (.int .i64 x7), (.int .i64 x8), (.int .i64 x9), (.int .i64 x10), (.int .i64 x11), (.int .i64 x12), (.pointer x13), (.pointer x14), (.int .u64 x15), (.int .u64 x16), (.int .i64 1000), (.int .i64 0), (.int .i64 x17), (.int .i64 x18), (.int .i64 x19), (.int .i64 0), (.slice none 0 0), (.slice none 0 0), (.slice none 0 0), (.slice none 0 0), (.slice none 0 0), (.slice none 0 0), (.bool false), (.bool false), (.bool false), (.map (some (h.size + 17))), (.map (some (h.size + 19))), (.int .i64 now), (.bool false), (.bool false), (.int .i64 0)]))] h5) fun (h8 : H) =>
    bindO (ldZ [.int .i64, .int .i64, .int .i64, .bool, .sl, .int .i64, .int .i64, .int .i64, .int .i64, .int .i64, .int .i64] h8 a0) fun ((x31, x32, x33, x34, x35, x36, x37, x38, x39, x40, x41) : Int × Int × Int × Bool × Sl × Int × Int × Int × Int × Int × Int) =>
    condK (veq (.agg #[(.int .i64 x2), (.int .i64 x3), (.int .i64 x4), (.bool x5), (.slice x6.base x6.len x6.cap), (.int .i64 x7), (.int .i64 x8), (.int .i64 x9), (.int .i64 x10), (.int .i64 x11), (.int .i64 x12)]) (.agg #[(.int .i64 x31), (.int .i64 x32), (.int .i64 x33), (.bool x34), (.slice x35.base x35.len x35.cap), (.int .i64 x36), (.int .i64 x37), (.int .i64 x38), (.int .i64 x39), (.int .i64 x40), (.int .i64 x41)])) (
      letH (addP 3 h.size [(17, (.map [])), (19, (.map [])), (22, (row 94 [(.int .i64 x2), (.int .i64 x3), (.int .i64 x4), (.bool x5), (.slice x6.base x6.len x6.cap), (.int .i64 x7), (.int .i64 x8), (.int .i64 x9), (.int .i64 x10), (.int .i64 x11), (.int .i64 x12), (.pointer x13), (.pointer x14), (.int .u64 x15), (.int .u64 x16), (.int .i64 1000), (.int .i64 0), (.int .i64 x17), (.int .i64 x18), (.int .i64 x19), (.int .i64 0), (.slice none 0 0), (.slice none 0 0), (.slice none 0 0), (.slice none 0 0), (.slice none 0 0), (.slice none 0 0), (.bool false), (.bool false), (.bool false), (.map (some (h.size + 17))), (.map (some (h.size + 19))), (.int .i64 now), (.bool false), (.bool false), (.int .i64 0)]))] h4) fun (h9 : H) =>
      bindO (ldZ [.int .i64, .int .i64, .int .i64, .bool, .sl, .int .i64, .int .i64, .int .i64, .int .i64, .int .i64, .int .i64] h9 a0) fun ((x42, x43, x44, x45, x46, x47, x48, x49, x50, x51, x52) : Int × Int × Int × Bool × Sl × Int × Int × Int × Int × Int × Int) =>
      condK (veq (.agg #[(.int .i64 x2), (.int .i64 x3), (.int .i64 x4), (.bool x5), (.slice x6.base x6.len x6.cap), (.int .i64 x7), (.int .i64 x8), (.int .i64 x9), (.int .i64 x10), (.int .i64 x11), (.int .i64 x12)]) (.agg #[(.int .i64 x42), (.int .i64 x43), (.int .i64 x44), (.bool x45), (.slice x46.base x46.len x46.cap), (.int .i64 x47), (.int .i64 x48), (.int .i64 x49), (.int .i64 x50), (.int .i64 x51), (.int .i64 x52)])) (
        letH (addP 3 h.size [(17, (.map [])), (19, (.map [])), (22, (row 94 [(.int .i64 x2), (.int .i64 x3), (.int .i64 x4), (.bool x5), (.slice x6.base x6.len x6.cap), (.int .i64 x7), (.int .i64 x8), (.int .i64 x9), (.int .i64 x10), (.int .i64 x11), (.int .i64 x12), (.pointer x13), (.pointer x14), (.int .u64 x15), (.int .u64 x16), (.int .i64 1000), (.int .i64 0), (.int .i64 x17), (.int .i64 x18), (.int .i64 x19), (.int .i64 0), (.slice none 0 0), (.slice none 0 0), (.slice none 0 0), (.slice none 0 0), (.slice none 0 0), (.slice none 0 0), (.bool false), (.bool false), (.bool false), (.map (some (h.size + 17))), (.map (some (h.size + 19))), (.int .i64 now), (.bool false), (.bool false), (.int .i64 0)]))] h3) fun (h10 : H) =>
        bindO (ldZ [.int .i64, .int .i64, .int .i64, .bool, .sl, .int .i64, .int .i64, .int .i64, .int .i64, .int .i64, .int .i64] h10 a0) fun ((x53, x54, x55, x56, x57, x58, x59, x60, x61, x62, x63) : Int × Int × Int × Bool × Sl × Int × Int × Int × Int × Int × Int) =>
        condK (veq (.agg #[(.int .i64 x2), (.int .i64 x3), (.int .i64 x4), (.bool x5), (.slice x6.base x6.len x6.cap), (.int .i64 x7), (.int .i64 x8), (.int .i64 x9), (.int .i64 x10), (.int .i64 x11), (.int .i64 x12)]) (.agg #[(.int .i64 x53), (.int .i64 x54), (.int .i64 x55), (.bool x56), (.slice x57.base x57.len x57.cap), (.int .i64 x58), (.int .i64 x59), (.int .i64 x60), (.int .i64 x61), (.int .i64 x62), (.int .i64 x63)])) (
          letH (addP 3 h.size [(17, (.map [])), (19, (.map [])), (22, (row 94 [(.int .i64 x2), (.int .i64 x3), (.int .i64 x4), (.bool x5), (.slice x6.base x6.len x6.cap), (.int .i64 x7), (.int .i64 x8), (.int .i64 x9), (.int .i64 x10), (.int .i64 x11), (.int .i64 x12), (.pointer x13), (.pointer x14), (.int .u64 x15), (.int .u64 x16), (.int .i64 1000), (.int .i64 0), (.int .i64 x17), (.int .i64 x18), (.int .i64 x19), (.int .i64 0), (.slice none 0 0), (.slice none 0 0), (.slice none 0 0), (.slice none 0 0), (.slice none 0 0), (.slice none 0 0), (.bool false), (.bool false), (.bool false), (.map (some (h.size + 17))), (.map (some (h.size + 19))), (.int .i64 now), (.bool false), (.bool false), (.int .i64 0)]))] h2) fun (h11 : H) =>
          bindO (ldZ [.int .i64, .int .i64, .int .i64, .bool, .sl, .int .i64, .int .i64, .int .i64, .int .i64, .int .i64, .int .i64] h11 a0) fun ((x64, x65, x66, x67, x68, x69, x70, x71, x72, x73, x74) : Int × Int × Int × Bool × Sl × Int × Int × Int × Int × Int × Int) =>
          condK (veq (.agg #[(.int .i64 x2), (.int .i64 x3), (.int .i64 x4), (.bool x5), (.slice x6.base x6.len x6.cap), (.int .i64 x7), (.int .i64 x8), (.int .i64 x9), (.int .i64 x10), (.int .i64 x11), (.int .i64 x12)]) (.agg #[(.int .i64 x64), (.int .i64 x65), (.int .i64 x66), (.bool x67), (.slice x68.base x68.len x68.cap), (.int .i64 x69), (.int .i64 x70), (.int .i64 x71), (.int .i64 x72), (.int .i64 x73), (.int .i64 x74)])) (
            letH (addP 16777215 h.size [(17, (.map [])), (19, (.map [])), (22, (row 94 [(.int .i64 x2), (.int .i64 x3), (.int .i64 x4), (.bool x5), (.slice x6.base x6.len x6.cap), (.int .i64 x7), (.int .i64 x8), (.int .i64 x9), (.int .i64 x10), (.int .i64 x11), (.int .i64 x12), (.pointer x13), (.pointer x14), (.int .u64 x15), (.int .u64 x16), (.int .i64 1000), (.int .i64 0), (.int .i64 x17), (.int .i64 x18), (.int .i64 x19), (.int .i64 0), (.slice none 0 0), (.slice none 0 0), (.slice none 0 0), (.slice none 0 0), (.slice none 0 0), (.slice none 0 0), (.bool false), (.bool false), (.bool false), (.map (some (h.size + 17))), (.map (some (h.size + 19))), (.int .i64 now), (.bool false), (.bool false), (.int .i64 0)]))] h6) fun (h12 : H) =>
            letH (tickIf 24 h12) fun (h13 : H) =>
            some ((some (⟨(h.size + 22), 0, (some 0)⟩ : Addr)), h13)) none) none) none) none) none
noncomputable def conn_New : Int → Int → Int → H → Option ((Option Addr) × H) := P.conn_New path_New acks_New table_New seal_Step credit_NewGrant
noncomputable def ann_10 : Ann := ⟨fun _ => none, fun _ => none, fun _ => none⟩
noncomputable def E_10 : Ent := ⟨10, [⟨false, [.int .i64]⟩, ⟨false, [.int .u64]⟩, ⟨false, [.int .i64]⟩], [⟨false, [.ptr]⟩], fun (x : Int × Int × Int) h => conn_New x.1 x.2.1 x.2.2 h⟩
theorem eq_10 (path_New : H → Option ((Option Addr) × H)) (acks_New : H → Option ((Option Addr) × H)) (table_New : Int → H → Option ((Option Addr) × H)) (seal_Step : Int → Int → H → Option ((Int) × H)) (credit_NewGrant : Int → H → Option (((Int × Int × Int)) × H)) : (fun (x : PT E_10.ps) (h : H) => runFK Go.Proofs.YtlikepnpamejmaaGreat.Ov.D (lstK [⟨21, [], [⟨false, [.ptr]⟩], fun (x : Unit) h => path_New h⟩, ⟨22, [], [⟨false, [.ptr]⟩], fun (x : Unit) h => acks_New h⟩, ⟨23, [⟨false, [.int .i64]⟩], [⟨false, [.ptr]⟩], fun (x : Int) h => table_New x h⟩, ⟨24, [⟨false, [.int .u64]⟩, ⟨false, [.int .u64]⟩], [⟨false, [.int .u64]⟩], fun (x : Int × Int) h => seal_Step x.1 x.2 h⟩, ⟨25, [⟨false, [.int .i64]⟩], [⟨true, [.int .i64, .int .i64, .int .i64]⟩], fun (x : Int) h => credit_NewGrant x h⟩]) ann_10 Tryz.f10 (Tryz.f10.body.getD .skip) E_10.ys (encP E_10.ps x) h) = (fun (x : Int × Int × Int) h => P.conn_New path_New acks_New table_New seal_Step credit_NewGrant x.1 x.2.1 x.2.2 h) := by kernel_rfl
theorem ok_10 : E_10.ok Go.Proofs.YtlikepnpamejmaaGreat.Ov.D := fun x h y h' e => runFK_ok (lstK_ok [E_21, E_22, E_23, E_24, E_25] (List.forall_mem_cons.2 ⟨ok_21, List.forall_mem_cons.2 ⟨ok_22, List.forall_mem_cons.2 ⟨ok_23, List.forall_mem_cons.2 ⟨ok_24, List.forall_mem_cons.2 ⟨ok_25, fun E h => nomatch h⟩⟩⟩⟩⟩)) (A := ann_10) (by kernel_rfl) (show Go.Proofs.YtlikepnpamejmaaGreat.Ov.D.fn.get 10 = some Tryz.f10 by kernel_rfl) (show Tryz.f10.body = some (Tryz.f10.body.getD .skip) by kernel_rfl) ((congrFun (congrFun (eq_10 path_New acks_New table_New seal_Step credit_NewGrant) x) h).trans e)
/-! head_pieces -/
noncomputable def head_pieces (size : Int) (h : H) : Option (Int × H) :=
  letO ((IntKind.wrap .i64 (Int.tdiv (IntKind.wrap .i64 ((IntKind.wrap .i64 (size + 80)) - 1)) 80))) fun (x0 : Int) =>
  some (x0, h)
noncomputable def ann_34 : Ann := ⟨fun _ => none, fun _ => none, fun _ => none⟩
noncomputable def E_34 : Ent := ⟨34, [⟨false, [.int .i64]⟩], [⟨false, [.int .i64]⟩], fun (x : Int) h => head_pieces x h⟩
theorem eq_34  : (fun (x : PT E_34.ps) (h : H) => runFK Go.Proofs.YtlikepnpamejmaaGreat.Ov.D (lstK []) ann_34 Tryz.f34 (Tryz.f34.body.getD .skip) E_34.ys (encP E_34.ps x) h) = (fun (x : Int) h => head_pieces x h) := by kernel_rfl
theorem ok_34 : E_34.ok Go.Proofs.YtlikepnpamejmaaGreat.Ov.D := fun x h y h' e => runFK_ok (lstK_ok [] (fun E h => nomatch h)) (A := ann_34) (by kernel_rfl) (show Go.Proofs.YtlikepnpamejmaaGreat.Ov.D.fn.get 34 = some Tryz.f34 by kernel_rfl) (show Tryz.f34.body = some (Tryz.f34.body.getD .skip) by kernel_rfl) ((congrFun (congrFun (eq_34 ) x) h).trans e)
/-! head_Right -/
noncomputable def P.head_Right (head_pieces : Int → H → Option ((Int) × H)) (h0 : Int × Int × Int × Int × Int) (h : H) : Option (Bool × H) :=
  newO (row 49 [(.int .i64 h0.1), (.int .i64 h0.2.1), (.int .i64 h0.2.2.1), (.int .i64 h0.2.2.2.1), (.int .i64 h0.2.2.2.2)]) h fun (b : Nat) (h1 : H) =>
  joinO (
    bindO (ldI .i64 h1 (add (⟨b, 0, (some 0)⟩ : Addr) 0)) fun (x0 : Int) =>
    condK (decide ((x0 < 0))) (
      some (Sum.inl (((some (⟨b, 0, (some 0)⟩ : Addr)), true), h1))) (
      bindO (ldI .i64 h1 (add (⟨b, 0, (some 0)⟩ : Addr) 0)) fun (x1 : Int) =>
      condK (decide ((x1 ≥ 40))) (
        some (Sum.inl (((some (⟨b, 0, (some 0)⟩ : Addr)), true), h1))) (
        bindO (ldI .i64 h1 (add (⟨b, 0, (some 0)⟩ : Addr) 1)) fun (x2 : Int) =>
        condK (decide ((x2 < 0))) (
          some (Sum.inl (((some (⟨b, 0, (some 0)⟩ : Addr)), true), h1))) (
          bindO (ldI .i64 h1 (add (⟨b, 0, (some 0)⟩ : Addr) 1)) fun (x3 : Int) =>
          some (Sum.inl (((some (⟨b, 0, (some 0)⟩ : Addr)), (decide ((x3 > 4611686018427387903)))), h1)))))) fun (((h2, x0), h3) : (((Option Addr) × Bool) × H)) =>
  condK x0 (
    some (false, h3)) (
    joinO (
      ptrK h2 fun (a0 : Addr) =>
      bindO (ldI .i64 h3 (add a0 4)) fun (x1 : Int) =>
      condK (decide ((x1 < 1))) (
        some (Sum.inl ((h2, true), h3))) (
        ptrK h2 fun (a1 : Addr) =>
        bindO (ldI .i64 h3 (add a1 4)) fun (x2 : Int) =>
        condK (decide ((x2 > 600))) (
          some (Sum.inl ((h2, true), h3))) (
          ptrK h2 fun (a2 : Addr) =>
          bindO (ldI .i64 h3 (add a2 2)) fun (x3 : Int) =>
          ptrK h2 fun (a3 : Addr) =>
          bindO (ldI .i64 h3 (add a3 4)) fun (x4 : Int) =>
          bind2 (head_pieces x4 h3) fun (x5 : Int) (h4 : H) =>
          bindO (ldI .i64 h4 (add a2 2)) fun (x6 : Int) =>
          condK (x6 == x3) (
            some (Sum.inl ((h2, (x3 != x5)), h4))) none))) fun (((h4, x1), h5) : (((Option Addr) × Bool) × H)) =>
    condK x1 (
      some (false, h5)) (
      ptrK h4 fun (a0 : Addr) =>
      bindO (ldI .i64 h5 (add a0 3)) fun (x2 : Int) =>
      condK (decide ((x2 ≥ 0))) (
        ptrK h4 fun (a1 : Addr) =>
        bindO (ldI .i64 h5 (add a1 3)) fun (x3 : Int) =>
        ptrK h4 fun (a2 : Addr) =>
        bindO (ldI .i64 h5 (add a2 2)) fun (x4 : Int) =>
        some ((decide ((x3 < x4))), h5)) (
        some (false, h5))))
noncomputable def head_Right : (Int × Int × Int × Int × Int) → H → Option ((Bool) × H) := P.head_Right head_pieces
noncomputable def ann_35 : Ann := ⟨fun _ => none, fun _ => none, fun i => bif i.beq 1 then some ⟨[1, 3], [⟨false, [.ptr]⟩, ⟨false, [.bool]⟩]⟩ else bif i.beq 3 then some ⟨[1, 22], [⟨false, [.ptr]⟩, ⟨false, [.bool]⟩]⟩ else none⟩
noncomputable def E_35 : Ent := ⟨35, [⟨true, [.int .i64, .int .i64, .int .i64, .int .i64, .int .i64]⟩], [⟨false, [.bool]⟩], fun (x : (Int × Int × Int × Int × Int)) h => head_Right x h⟩
theorem eq_35 (head_pieces : Int → H → Option ((Int) × H)) : (fun (x : PT E_35.ps) (h : H) => runFK Go.Proofs.YtlikepnpamejmaaGreat.Ov.D (lstK [⟨34, [⟨false, [.int .i64]⟩], [⟨false, [.int .i64]⟩], fun (x : Int) h => head_pieces x h⟩]) ann_35 Tryz.f35 (Tryz.f35.body.getD .skip) E_35.ys (encP E_35.ps x) h) = (fun (x : (Int × Int × Int × Int × Int)) h => P.head_Right head_pieces x h) := by kernel_rfl
theorem ok_35 : E_35.ok Go.Proofs.YtlikepnpamejmaaGreat.Ov.D := fun x h y h' e => runFK_ok (lstK_ok [E_34] (List.forall_mem_cons.2 ⟨ok_34, fun E h => nomatch h⟩)) (A := ann_35) (by kernel_rfl) (show Go.Proofs.YtlikepnpamejmaaGreat.Ov.D.fn.get 35 = some Tryz.f35 by kernel_rfl) (show Tryz.f35.body = some (Tryz.f35.body.getD .skip) by kernel_rfl) ((congrFun (congrFun (eq_35 head_pieces) x) h).trans e)
/-! head_Of -/
noncomputable def P.head_Of (head_pieces : Int → H → Option ((Int) × H)) (head_Right : (Int × Int × Int × Int × Int) → H → Option ((Bool) × H)) (id : Int) (deadline : Int) (size : Int) (h : H) : Option ((Int × Int × Int × Int × Int) × H) :=
  newO (row 49 [(.int .i64 0), (.int .i64 0), (.int .i64 0), (.int .i64 0), (.int .i64 0)]) h fun (b : Nat) (h0 : H) =>
  newO (row 49 [(.int .i64 0), (.int .i64 0), (.int .i64 0), (.int .i64 0), (.int .i64 0)]) h0 fun (b1 : Nat) (h1 : H) =>
  bindO (stZ [.int .i64, .int .i64, .int .i64, .int .i64, .int .i64] h1 (⟨b1, 0, (some 0)⟩ : Addr) ((id, deadline, 0, 0, size) : Int × Int × Int × Int × Int)) fun (h2 : H) =>
  joinO (
    joinO (
      condK (decide ((size ≥ 1))) (
        some (Sum.inl ((size, ((some (⟨b, 0, (some 0)⟩ : Addr)), ((some (⟨b1, 0, (some 0)⟩ : Addr)), (decide ((size ≤ 600)))))), h2))) (
        some (Sum.inl ((size, ((some (⟨b, 0, (some 0)⟩ : Addr)), ((some (⟨b1, 0, (some 0)⟩ : Addr)), false))), h2)))) fun (((size1, (x0, (h3, x1))), h4) : ((Int × ((Option Addr) × ((Option Addr) × Bool))) × H)) =>
    condK x1 (
      bind2 (head_pieces size1 h4) fun (x2 : Int) (h5 : H) =>
      ptrK h3 fun (a0 : Addr) =>
      bindO (st1 h5 (add a0 2) (.int .i64 x2)) fun (h6 : H) =>
      some (Sum.inl ((x0, h3), h6))) (
      some (Sum.inl ((x0, h3), h4)))) fun (((x0, h3), h4) : (((Option Addr) × (Option Addr)) × H)) =>
  ptrK h3 fun (a0 : Addr) =>
  bindO (ldZ [.int .i64, .int .i64, .int .i64, .int .i64, .int .i64] h4 a0) fun ((x1, x2, x3, x4, x5) : Int × Int × Int × Int × Int) =>
  bind2 (head_Right (x1, x2, x3, x4, x5) h4) fun (x6 : Bool) (h5 : H) =>
  condK (!x6) (
    ptrK x0 fun (a1 : Addr) =>
    bindO (stZ [.int .i64, .int .i64, .int .i64, .int .i64, .int .i64] h5 a1 ((0, 0, 0, 0, 0) : Int × Int × Int × Int × Int)) fun (h6 : H) =>
    ptrK x0 fun (a2 : Addr) =>
    bindO (ldZ [.int .i64, .int .i64, .int .i64, .int .i64, .int .i64] h6 a2) fun ((x7, x8, x9, x10, x11) : Int × Int × Int × Int × Int) =>
    some ((x7, (x8, (x9, (x10, x11)))), h6)) (
    ptrK h3 fun (a3 : Addr) =>
    bindO (ldZ [.int .i64, .int .i64, .int .i64, .int .i64, .int .i64] h5 a3) fun ((x12, x13, x14, x15, x16) : Int × Int × Int × Int × Int) =>
    ptrK x0 fun (a4 : Addr) =>
    bindO (stZ [.int .i64, .int .i64, .int .i64, .int .i64, .int .i64] h5 a4 ((x12, x13, x14, x15, x16) : Int × Int × Int × Int × Int)) fun (h7 : H) =>
    ptrK x0 fun (a5 : Addr) =>
    bindO (ldZ [.int .i64, .int .i64, .int .i64, .int .i64, .int .i64] h7 a5) fun ((x17, x18, x19, x20, x21) : Int × Int × Int × Int × Int) =>
    some ((x17, (x18, (x19, (x20, x21)))), h7))
noncomputable def head_Of : Int → Int → Int → H → Option (((Int × Int × Int × Int × Int)) × H) := P.head_Of head_pieces head_Right
noncomputable def ann_12 : Ann := ⟨fun i => bif i.beq 4 then some ⟨[6, 7], [⟨false, [.ptr]⟩, ⟨false, [.ptr]⟩]⟩ else none, fun _ => none, fun i => bif i.beq 2 then some ⟨[2, 6, 7, 17], [⟨false, [.int .i64]⟩, ⟨false, [.ptr]⟩, ⟨false, [.ptr]⟩, ⟨false, [.bool]⟩]⟩ else none⟩
noncomputable def E_12 : Ent := ⟨12, [⟨false, [.int .i64]⟩, ⟨false, [.int .i64]⟩, ⟨false, [.int .i64]⟩], [⟨true, [.int .i64, .int .i64, .int .i64, .int .i64, .int .i64]⟩], fun (x : Int × Int × Int) h => head_Of x.1 x.2.1 x.2.2 h⟩
theorem eq_12 (head_pieces : Int → H → Option ((Int) × H)) (head_Right : (Int × Int × Int × Int × Int) → H → Option ((Bool) × H)) : (fun (x : PT E_12.ps) (h : H) => runFK Go.Proofs.YtlikepnpamejmaaGreat.Ov.D (lstK [⟨34, [⟨false, [.int .i64]⟩], [⟨false, [.int .i64]⟩], fun (x : Int) h => head_pieces x h⟩, ⟨35, [⟨true, [.int .i64, .int .i64, .int .i64, .int .i64, .int .i64]⟩], [⟨false, [.bool]⟩], fun (x : (Int × Int × Int × Int × Int)) h => head_Right x h⟩]) ann_12 Tryz.f12 (Tryz.f12.body.getD .skip) E_12.ys (encP E_12.ps x) h) = (fun (x : Int × Int × Int) h => P.head_Of head_pieces head_Right x.1 x.2.1 x.2.2 h) := by kernel_rfl
theorem ok_12 : E_12.ok Go.Proofs.YtlikepnpamejmaaGreat.Ov.D := fun x h y h' e => runFK_ok (lstK_ok [E_34, E_35] (List.forall_mem_cons.2 ⟨ok_34, List.forall_mem_cons.2 ⟨ok_35, fun E h => nomatch h⟩⟩)) (A := ann_12) (by kernel_rfl) (show Go.Proofs.YtlikepnpamejmaaGreat.Ov.D.fn.get 12 = some Tryz.f12 by kernel_rfl) (show Tryz.f12.body = some (Tryz.f12.body.getD .skip) by kernel_rfl) ((congrFun (congrFun (eq_12 head_pieces head_Right) x) h).trans e)
/-! slices_Clone_byte -/
noncomputable def slices_Clone_byte (s : Sl) (h : H) : Option (Sl × H) :=
  bindO (eqLT s (⟨none, 0, 0⟩ : Sl)) fun (x0 : Bool) =>
  condK x0 (
    some ((⟨none, 0, 0⟩ : Sl), h)) (
    newO (row 5 []) h fun (b : Nat) (h0 : H) =>
    bind2 (appT 5 1 1 h0 (⟨(some (⟨b, 0, (some 0)⟩ : Addr)), 0, 0⟩ : Sl) s) fun (x1 : Sl) (h1 : H) =>
    some (x1, h1))
noncomputable def ann_13 : Ann := ⟨fun _ => none, fun _ => none, fun _ => none⟩
noncomputable def E_13 : Ent := ⟨13, [⟨false, [.sl]⟩], [⟨false, [.sl]⟩], fun (x : Sl) h => slices_Clone_byte x h⟩
theorem eq_13  : (fun (x : PT E_13.ps) (h : H) => runFK Go.Proofs.YtlikepnpamejmaaGreat.Ov.D (lstK []) ann_13 Tryz.f13 (Tryz.f13.body.getD .skip) E_13.ys (encP E_13.ps x) h) = (fun (x : Sl) h => slices_Clone_byte x h) := by kernel_rfl
theorem ok_13 : E_13.ok Go.Proofs.YtlikepnpamejmaaGreat.Ov.D := fun x h y h' e => runFK_ok (lstK_ok [] (fun E h => nomatch h)) (A := ann_13) (by kernel_rfl) (show Go.Proofs.YtlikepnpamejmaaGreat.Ov.D.fn.get 13 = some Tryz.f13 by kernel_rfl) (show Tryz.f13.body = some (Tryz.f13.body.getD .skip) by kernel_rfl) ((congrFun (congrFun (eq_13 ) x) h).trans e)
/-! order_Order_Put -/
noncomputable def order_Order_Put (o : Option Addr) (deadline : Int) (id : Int) (h : H) : Option (Unit × H) :=
  joinO (
    ptrK o fun (a0 : Addr) =>
    bindO (ldM h (add a0 0)) fun (x0 : Option Nat) =>
    bindO (eqMT x0 none) fun (x1 : Bool) =>
    condK x1 (
      newO (.map []) h fun (b : Nat) (h0 : H) =>
      ptrK o fun (a1 : Addr) =>
      bindO (st1 h0 (add a1 0) (.map (some b))) fun (h1 : H) =>
      some (Sum.inl ((o, (deadline, id)), h1))) (
      some (Sum.inl ((o, (deadline, id)), h)))) fun (((o1, (deadline1, id1)), h0) : (((Option Addr) × (Int × Int)) × H)) =>
  ptrK o1 fun (a0 : Addr) =>
  bindO (ldM h0 (add a0 0)) fun (x0 : Option Nat) =>
  bindO (updT .i64 ⟨false, [.int .i64]⟩ h0 x0 id1 ((deadline1) : Int)) fun (h1 : H) =>
  some ((), h1)
noncomputable def ann_14 : Ann := ⟨fun i => bif i.beq 2 then some ⟨[0, 1, 2], [⟨false, [.ptr]⟩, ⟨false, [.int .i64]⟩, ⟨false, [.int .i64]⟩]⟩ else none, fun _ => none, fun _ => none⟩
noncomputable def E_14 : Ent := ⟨14, [⟨false, [.ptr]⟩, ⟨false, [.int .i64]⟩, ⟨false, [.int .i64]⟩], [], fun (x : Option Addr × Int × Int) h => order_Order_Put x.1 x.2.1 x.2.2 h⟩
theorem eq_14  : (fun (x : PT E_14.ps) (h : H) => runFK Go.Proofs.YtlikepnpamejmaaGreat.Ov.D (lstK []) ann_14 Tryz.f14 (Tryz.f14.body.getD .skip) E_14.ys (encP E_14.ps x) h) = (fun (x : Option Addr × Int × Int) h => order_Order_Put x.1 x.2.1 x.2.2 h) := by kernel_rfl
theorem ok_14 : E_14.ok Go.Proofs.YtlikepnpamejmaaGreat.Ov.D := fun x h y h' e => runFK_ok (lstK_ok [] (fun E h => nomatch h)) (A := ann_14) (by kernel_rfl) (show Go.Proofs.YtlikepnpamejmaaGreat.Ov.D.fn.get 14 = some Tryz.f14 by kernel_rfl) (show Tryz.f14.body = some (Tryz.f14.body.getD .skip) by kernel_rfl) ((congrFun (congrFun (eq_14 ) x) h).trans e)
/-! outbox_Box_Submit -/
noncomputable def P.outbox_Box_Submit_l1 (head_Of : Int → Int → Int → H → Option (((Int × Int × Int × Int × Int)) × H)) (slices_Clone_byte : Sl → H → Option ((Sl) × H)) (order_Order_Put : Option Addr → Int → Int → H → Option ((Unit) × H)) : (((Option Addr) × (Int × (Int × ((Option Addr) × (Int × Int))))) × H) → Option ((((Option Addr) × (Int × (Int × ((Option Addr) × (Int × Int))))) × H) ⊕ ((((Option Addr) × (Int × (Int × (Option Addr)))) × H) ⊕ ((Int × Int) × H))) := fun ((b, (deadline, (id, (m, (x0, x1))))), h0) =>
  condK (decide ((x1 < x0))) (
    ptrK m fun (a0 : Addr) =>
    bindO (ixAT 8 1 (add a0 9) x1) fun (a1 : Addr) =>
    bindO (st1 h0 a1 (.bool true)) fun (h1 : H) =>
    some (Sum.inl ((b, (deadline, (id, (m, (x0, (IntKind.wrap .i64 (x1 + 1))))))), h1))) (
    some (Sum.inr (Sum.inl ((b, (deadline, (id, m))), h0))))

noncomputable def P.outbox_Box_Submit (head_Of : Int → Int → Int → H → Option (((Int × Int × Int × Int × Int)) × H)) (slices_Clone_byte : Sl → H → Option ((Sl) × H)) (order_Order_Put : Option Addr → Int → Int → H → Option ((Unit) × H)) (b : Option Addr) (now : Int) (way : Int) (budget : Int) (deadline : Int) (payload : Sl) (h : H) : Option ((Int × Int) × H) :=
  joinO (
    condK (way == 0) (
      some (Sum.inl ((b, (now, (way, (budget, (deadline, (payload, true)))))), h))) (
      some (Sum.inl ((b, (now, (way, (budget, (deadline, (payload, (way == 1))))))), h)))) fun (((b1, (now1, (way1, (budget1, (deadline1, (payload1, right)))))), h0) : (((Option Addr) × (Int × (Int × (Int × (Int × (Sl × Bool)))))) × H)) =>
  joinO (
    condK (!right) (
      some (Sum.inl ((b1, (way1, (budget1, (deadline1, (payload1, (((payload1.len : Nat) : Int), true)))))), h0))) (
      condK (decide ((budget1 < 0))) (
        some (Sum.inl ((b1, (way1, (budget1, (deadline1, (payload1, (((payload1.len : Nat) : Int), true)))))), h0))) (
        condK (decide ((budget1 > 9))) (
          some (Sum.inl ((b1, (way1, (budget1, (deadline1, (payload1, (((payload1.len : Nat) : Int), true)))))), h0))) (
          condK (decide ((deadline1 < now1))) (
            some (Sum.inl ((b1, (way1, (budget1, (deadline1, (payload1, (((payload1.len : Nat) : Int), true)))))), h0))) (
            condK (decide ((deadline1 > 4611686018427387903))) (
              some (Sum.inl ((b1, (way1, (budget1, (deadline1, (payload1, (((payload1.len : Nat) : Int), true)))))), h0))) (
              condK (decide ((((payload1.len : Nat) : Int) < 1))) (
                some (Sum.inl ((b1, (way1, (budget1, (deadline1, (payload1, (((payload1.len : Nat) : Int), true)))))), h0))) (
                some (Sum.inl ((b1, (way1, (budget1, (deadline1, (payload1, (((payload1.len : Nat) : Int), (decide ((((payload1.len : Nat) : Int) > 600))))))))), h0))))))))) fun (((b2, (way2, (budget2, (deadline2, (payload2, (size, x0)))))), h1) : (((Option Addr) × (Int × (Int × (Int × (Sl × (Int × Bool)))))) × H)) =>
  condK x0 (
    some ((0, 1), h1)) (
    ptrK b2 fun (a0 : Addr) =>
    bindO (ldL h1 (add a0 1)) fun (x1 : Sl) =>
    condK (((x1.len : Nat) : Int) == 40) (
      some ((0, 9), h1)) (
      ptrK b2 fun (a1 : Addr) =>
      bindO (ldL h1 (add a1 1)) fun (x2 : Sl) =>
      bind2 (head_Of ((x2.len : Nat) : Int) deadline2 size h1) fun ((x3, x4, x5, x6, x7) : Int × Int × Int × Int × Int) (h2 : H) =>
      bind2 (slices_Clone_byte payload2 h2) fun (x8 : Sl) (h3 : H) =>
      newO (row 54 [(.int .i64 x3), (.int .i64 x4), (.int .i64 x5), (.int .i64 x6), (.int .i64 x7), (.slice x8.base x8.len x8.cap), (.int .i64 way2), (.int .i64 budget2), (.int .i64 0), (.bool false), (.bool false), (.bool false), (.bool false), (.bool false), (.bool false), (.bool false), (.bool false), (.int .i64 (-1))]) h3 fun (b3 : Nat) (h4 : H) =>
      joinO (
        bindO (ldI .i64 h4 (add (add (⟨b3, 0, (some 0)⟩ : Addr) 0) 2)) fun (x9 : Int) =>
        loopO (P.outbox_Box_Submit_l1 head_Of slices_Clone_byte order_Order_Put) ((b2, (deadline2, (((x2.len : Nat) : Int), ((some (⟨b3, 0, (some 0)⟩ : Addr)), (x9, 0))))), h4)) fun (((b4, (deadline3, (id, m))), h5) : (((Option Addr) × (Int × (Int × (Option Addr)))) × H)) =>
      ptrK b4 fun (a2 : Addr) =>
      bindO (ldL h5 (add a2 1)) fun (x9 : Sl) =>
      newO (row 47 [(.pointer m)]) h5 fun (b5 : Nat) (h6 : H) =>
      bind2 (appT 47 1 8 h6 x9 (⟨(some (⟨b5, 0, (some 0)⟩ : Addr)), 1, 1⟩ : Sl)) fun (x10 : Sl) (h7 : H) =>
      ptrK b4 fun (a3 : Addr) =>
      bindO (st1 h7 (add a3 1) (.slice x10.base x10.len x10.cap)) fun (h8 : H) =>
      ptrK b4 fun (a4 : Addr) =>
      bind2 (order_Order_Put (some (add a4 0)) deadline3 id h8) fun (_ : Unit) (h9 : H) =>
      some ((id, 0), h9)))
noncomputable abbrev outbox_Box_Submit_l1 := P.outbox_Box_Submit_l1 head_Of slices_Clone_byte order_Order_Put
noncomputable def outbox_Box_Submit : Option Addr → Int → Int → Int → Int → Sl → H → Option ((Int × Int) × H) := P.outbox_Box_Submit head_Of slices_Clone_byte order_Order_Put
noncomputable def ann_7 : Ann := ⟨fun i => bif i.beq 14 then some ⟨[0, 4, 16, 17], [⟨false, [.ptr]⟩, ⟨false, [.int .i64]⟩, ⟨false, [.int .i64]⟩, ⟨false, [.ptr]⟩]⟩ else none, fun i => bif i.beq 10 then some ⟨[0, 4, 16, 17, 81, 82], [⟨false, [.ptr]⟩, ⟨false, [.int .i64]⟩, ⟨false, [.int .i64]⟩, ⟨false, [.ptr]⟩, ⟨false, [.int .i64]⟩, ⟨false, [.int .i64]⟩]⟩ else none, fun i => bif i.beq 1 then some ⟨[0, 1, 2, 3, 4, 5, 14], [⟨false, [.ptr]⟩, ⟨false, [.int .i64]⟩, ⟨false, [.int .i64]⟩, ⟨false, [.int .i64]⟩, ⟨false, [.int .i64]⟩, ⟨false, [.sl]⟩, ⟨false, [.bool]⟩]⟩ else bif i.beq 3 then some ⟨[0, 2, 3, 4, 5, 15, 27], [⟨false, [.ptr]⟩, ⟨false, [.int .i64]⟩, ⟨false, [.int .i64]⟩, ⟨false, [.int .i64]⟩, ⟨false, [.sl]⟩, ⟨false, [.int .i64]⟩, ⟨false, [.bool]⟩]⟩ else none⟩
noncomputable def E_7 : Ent := ⟨7, [⟨false, [.ptr]⟩, ⟨false, [.int .i64]⟩, ⟨false, [.int .i64]⟩, ⟨false, [.int .i64]⟩, ⟨false, [.int .i64]⟩, ⟨false, [.sl]⟩], [⟨false, [.int .i64]⟩, ⟨false, [.int .i64]⟩], fun (x : Option Addr × Int × Int × Int × Int × Sl) h => outbox_Box_Submit x.1 x.2.1 x.2.2.1 x.2.2.2.1 x.2.2.2.2.1 x.2.2.2.2.2 h⟩
theorem eq_7 (head_Of : Int → Int → Int → H → Option (((Int × Int × Int × Int × Int)) × H)) (slices_Clone_byte : Sl → H → Option ((Sl) × H)) (order_Order_Put : Option Addr → Int → Int → H → Option ((Unit) × H)) : (fun (x : PT E_7.ps) (h : H) => runFK Go.Proofs.YtlikepnpamejmaaGreat.Ov.D (lstK [⟨12, [⟨false, [.int .i64]⟩, ⟨false, [.int .i64]⟩, ⟨false, [.int .i64]⟩], [⟨true, [.int .i64, .int .i64, .int .i64, .int .i64, .int .i64]⟩], fun (x : Int × Int × Int) h => head_Of x.1 x.2.1 x.2.2 h⟩, ⟨13, [⟨false, [.sl]⟩], [⟨false, [.sl]⟩], fun (x : Sl) h => slices_Clone_byte x h⟩, ⟨14, [⟨false, [.ptr]⟩, ⟨false, [.int .i64]⟩, ⟨false, [.int .i64]⟩], [], fun (x : Option Addr × Int × Int) h => order_Order_Put x.1 x.2.1 x.2.2 h⟩]) ann_7 Tryz.f7 (Tryz.f7.body.getD .skip) E_7.ys (encP E_7.ps x) h) = (fun (x : Option Addr × Int × Int × Int × Int × Sl) h => P.outbox_Box_Submit head_Of slices_Clone_byte order_Order_Put x.1 x.2.1 x.2.2.1 x.2.2.2.1 x.2.2.2.2.1 x.2.2.2.2.2 h) := by kernel_rfl
theorem ok_7 : E_7.ok Go.Proofs.YtlikepnpamejmaaGreat.Ov.D := fun x h y h' e => runFK_ok (lstK_ok [E_12, E_13, E_14] (List.forall_mem_cons.2 ⟨ok_12, List.forall_mem_cons.2 ⟨ok_13, List.forall_mem_cons.2 ⟨ok_14, fun E h => nomatch h⟩⟩⟩)) (A := ann_7) (by kernel_rfl) (show Go.Proofs.YtlikepnpamejmaaGreat.Ov.D.fn.get 7 = some Tryz.f7 by kernel_rfl) (show Tryz.f7.body = some (Tryz.f7.body.getD .skip) by kernel_rfl) ((congrFun (congrFun (eq_7 head_Of slices_Clone_byte order_Order_Put) x) h).trans e)
/-! queue_Queue_Drop_1 (not come to) -/
noncomputable def queue_Queue_Drop_1 : (Int × Sl) → Option Addr → H → Option ((Bool) × H) := fun _ _ _ => none
noncomputable def E_61 : Ent := ⟨61, [⟨true, [.int .i64, .sl]⟩, ⟨false, [.ptr]⟩], [⟨false, [.bool]⟩], fun (x : ((Int × Sl)) × Option Addr) h => queue_Queue_Drop_1 x.1 x.2 h⟩
theorem ok_61 : E_61.ok Go.Proofs.YtlikepnpamejmaaGreat.Ov.D := fun x h y h' e => nomatch (show (none : Option _) = some (y, h') from e)
/-! slices_IndexFunc_queue_Item_queue_Item_queue_Queue_Drop_1 -/
noncomputable def P.slices_IndexFunc_queue_Item_queue_Item_queue_Queue_Drop_1_l1 (queue_Queue_Drop_1 : (Int × Sl) → Option Addr → H → Option ((Bool) × H)) : ((Sl × ((Option Addr) × (Int × Int))) × H) → Option (((Sl × ((Option Addr) × (Int × Int))) × H) ⊕ (Int × H)) := fun ((s, (f, (x0, x1))), h0) =>
  condK (decide ((x1 < x0))) (
    bindO (ixT 2 s x1) fun (a0 : Addr) =>
    bindO (ldZ [.int .i64, .sl] h0 a0) fun ((x2, x3) : Int × Sl) =>
    bind2 (queue_Queue_Drop_1 (x2, x3) f h0) fun (x4 : Bool) (h1 : H) =>
    condK x4 (
      some (Sum.inr (x1, h1))) (
      some (Sum.inl ((s, (f, (x0, (IntKind.wrap .i64 (x1 + 1))))), h1)))) (
    some (Sum.inr ((-1), h0)))

noncomputable def P.slices_IndexFunc_queue_Item_queue_Item_queue_Queue_Drop_1 (queue_Queue_Drop_1 : (Int × Sl) → Option Addr → H → Option ((Bool) × H)) (s : Sl) (f : Option Addr) (h : H) : Option (Int × H) :=
  loopO (P.slices_IndexFunc_queue_Item_queue_Item_queue_Queue_Drop_1_l1 queue_Queue_Drop_1) ((s, (f, (((s.len : Nat) : Int), 0))), h)
noncomputable abbrev slices_IndexFunc_queue_Item_queue_Item_queue_Queue_Drop_1_l1 := P.slices_IndexFunc_queue_Item_queue_Item_queue_Queue_Drop_1_l1 queue_Queue_Drop_1
noncomputable def slices_IndexFunc_queue_Item_queue_Item_queue_Queue_Drop_1 : Sl → Option Addr → H → Option ((Int) × H) := P.slices_IndexFunc_queue_Item_queue_Item_queue_Queue_Drop_1 queue_Queue_Drop_1
noncomputable def ann_89c61 : Ann := ⟨fun _ => none, fun i => bif i.beq 2 then some ⟨[0, 1, 7, 8], [⟨false, [.sl]⟩, ⟨false, [.clo 61 1]⟩, ⟨false, [.int .i64]⟩, ⟨false, [.int .i64]⟩]⟩ else none, fun _ => none⟩
noncomputable def E_89c61 : Ent := ⟨89, [⟨false, [.sl]⟩, ⟨false, [.clo 61 1]⟩], [⟨false, [.int .i64]⟩], fun (x : Sl × Option Addr) h => slices_IndexFunc_queue_Item_queue_Item_queue_Queue_Drop_1 x.1 x.2 h⟩
theorem eq_89c61 (queue_Queue_Drop_1 : (Int × Sl) → Option Addr → H → Option ((Bool) × H)) : (fun (x : PT E_89c61.ps) (h : H) => runFK Go.Proofs.YtlikepnpamejmaaGreat.Ov.D (lstK [⟨61, [⟨true, [.int .i64, .sl]⟩, ⟨false, [.ptr]⟩], [⟨false, [.bool]⟩], fun (x : ((Int × Sl)) × Option Addr) h => queue_Queue_Drop_1 x.1 x.2 h⟩]) ann_89c61 Tryz.f89 (Tryz.f89.body.getD .skip) E_89c61.ys (encP E_89c61.ps x) h) = (fun (x : Sl × Option Addr) h => P.slices_IndexFunc_queue_Item_queue_Item_queue_Queue_Drop_1 queue_Queue_Drop_1 x.1 x.2 h) := by kernel_rfl
theorem ok_89c61 : E_89c61.ok Go.Proofs.YtlikepnpamejmaaGreat.Ov.D := fun x h y h' e => runFK_ok (lstK_ok [E_61] (List.forall_mem_cons.2 ⟨ok_61, fun E h => nomatch h⟩)) (A := ann_89c61) (by kernel_rfl) (show Go.Proofs.YtlikepnpamejmaaGreat.Ov.D.fn.get 89 = some Tryz.f89 by kernel_rfl) (show Tryz.f89.body = some (Tryz.f89.body.getD .skip) by kernel_rfl) ((congrFun (congrFun (eq_89c61 queue_Queue_Drop_1) x) h).trans e)
/-! slices_DeleteFunc_queue_Item_queue_Item_queue_Queue_Drop_1 -/
noncomputable def P.slices_DeleteFunc_queue_Item_queue_Item_queue_Queue_Drop_1_l1 (slices_IndexFunc_queue_Item_queue_Item_queue_Queue_Drop_1 : Sl → Option Addr → H → Option ((Int) × H)) (queue_Queue_Drop_1 : (Int × Sl) → Option Addr → H → Option ((Bool) × H)) : ((Sl × ((Option Addr) × (Int × Int))) × H) → Option (((Sl × ((Option Addr) × (Int × Int))) × H) ⊕ (((Sl × Int) × H) ⊕ (Sl × H))) := fun ((s, (del, (i, j))), h0) =>
  condK (decide ((j < ((s.len : Nat) : Int)))) (
    joinO (
      bindO (ixT 2 s j) fun (a0 : Addr) =>
      bindO (ldZ [.int .i64, .sl] h0 a0) fun ((x0, x1) : Int × Sl) =>
      newO (row 139 [(.int .i64 0), (.slice none 0 0)]) h0 fun (b : Nat) (h1 : H) =>
      bindO (stZ [.int .i64, .sl] h1 (⟨b, 0, (some 0)⟩ : Addr) ((x0, x1) : Int × Sl)) fun (h2 : H) =>
      bindO (ldZ [.int .i64, .sl] h2 (⟨b, 0, (some 0)⟩ : Addr)) fun ((x2, x3) : Int × Sl) =>
      bind2 (queue_Queue_Drop_1 (x2, x3) del h2) fun (x4 : Bool) (h3 : H) =>
      condK (!x4) (
        bindO (ldZ [.int .i64, .sl] h3 (⟨b, 0, (some 0)⟩ : Addr)) fun ((x5, x6) : Int × Sl) =>
        bindO (ixT 2 s i) fun (a1 : Addr) =>
        bindO (stZ [.int .i64, .sl] h3 a1 ((x5, x6) : Int × Sl)) fun (h4 : H) =>
        some (Sum.inl ((s, (del, ((IntKind.wrap .i64 (i + 1)), j))), h4))) (
        some (Sum.inl ((s, (del, (i, j))), h3)))) fun (((s1, (del1, (i1, j1))), h1) : ((Sl × ((Option Addr) × (Int × Int))) × H)) =>
    some (Sum.inl ((s1, (del1, (i1, (IntKind.wrap .i64 (j1 + 1))))), h1))) (
    some (Sum.inr (Sum.inl ((s, i), h0))))

noncomputable def P.slices_DeleteFunc_queue_Item_queue_Item_queue_Queue_Drop_1 (slices_IndexFunc_queue_Item_queue_Item_queue_Queue_Drop_1 : Sl → Option Addr → H → Option ((Int) × H)) (queue_Queue_Drop_1 : (Int × Sl) → Option Addr → H → Option ((Bool) × H)) (s : Sl) (del : Option Addr) (h : H) : Option (Sl × H) :=
  bind2 (slices_IndexFunc_queue_Item_queue_Item_queue_Queue_Drop_1 s del h) fun (x0 : Int) (h0 : H) =>
  condK (x0 == (-1)) (
    some (s, h0)) (
    joinO (
      loopO (P.slices_DeleteFunc_queue_Item_queue_Item_queue_Queue_Drop_1_l1 slices_IndexFunc_queue_Item_queue_Item_queue_Queue_Drop_1 queue_Queue_Drop_1) ((s, (del, (x0, (IntKind.wrap .i64 (x0 + 1))))), h0)) fun (((s1, i), h1) : ((Sl × Int) × H)) =>
    bindO (slT 2 h1 s1 (some i) none none) fun (x1 : Sl) =>
    bindO (clrT 2 (.agg #[(.int .i64 0), (.slice none 0 0)]) h1 x1) fun (h2 : H) =>
    bindO (slT 2 h2 s1 none (some i) none) fun (x2 : Sl) =>
    some (x2, h2))
noncomputable abbrev slices_DeleteFunc_queue_Item_queue_Item_queue_Queue_Drop_1_l1 := P.slices_DeleteFunc_queue_Item_queue_Item_queue_Queue_Drop_1_l1 slices_IndexFunc_queue_Item_queue_Item_queue_Queue_Drop_1 queue_Queue_Drop_1
noncomputable def slices_DeleteFunc_queue_Item_queue_Item_queue_Queue_Drop_1 : Sl → Option Addr → H → Option ((Sl) × H) := P.slices_DeleteFunc_queue_Item_queue_Item_queue_Queue_Drop_1 slices_IndexFunc_queue_Item_queue_Item_queue_Queue_Drop_1 queue_Queue_Drop_1
noncomputable def ann_60c61 : Ann := ⟨fun i => bif i.beq 6 then some ⟨[0, 1, 5, 6], [⟨false, [.sl]⟩, ⟨false, [.clo 61 1]⟩, ⟨false, [.int .i64]⟩, ⟨false, [.int .i64]⟩]⟩ else bif i.beq 11 then some ⟨[0, 5], [⟨false, [.sl]⟩, ⟨false, [.int .i64]⟩]⟩ else none, fun i => bif i.beq 5 then some ⟨[0, 1, 5, 6], [⟨false, [.sl]⟩, ⟨false, [.clo 61 1]⟩, ⟨false, [.int .i64]⟩, ⟨false, [.int .i64]⟩]⟩ else none, fun _ => none⟩
noncomputable def E_60c61 : Ent := ⟨60, [⟨false, [.sl]⟩, ⟨false, [.clo 61 1]⟩], [⟨false, [.sl]⟩], fun (x : Sl × Option Addr) h => slices_DeleteFunc_queue_Item_queue_Item_queue_Queue_Drop_1 x.1 x.2 h⟩
theorem eq_60c61 (slices_IndexFunc_queue_Item_queue_Item_queue_Queue_Drop_1 : Sl → Option Addr → H → Option ((Int) × H)) (queue_Queue_Drop_1 : (Int × Sl) → Option Addr → H → Option ((Bool) × H)) : (fun (x : PT E_60c61.ps) (h : H) => runFK Go.Proofs.YtlikepnpamejmaaGreat.Ov.D (lstK [⟨89, [⟨false, [.sl]⟩, ⟨false, [.clo 61 1]⟩], [⟨false, [.int .i64]⟩], fun (x : Sl × Option Addr) h => slices_IndexFunc_queue_Item_queue_Item_queue_Queue_Drop_1 x.1 x.2 h⟩, ⟨61, [⟨true, [.int .i64, .sl]⟩, ⟨false, [.ptr]⟩], [⟨false, [.bool]⟩], fun (x : ((Int × Sl)) × Option Addr) h => queue_Queue_Drop_1 x.1 x.2 h⟩]) ann_60c61 Tryz.f60 (Tryz.f60.body.getD .skip) E_60c61.ys (encP E_60c61.ps x) h) = (fun (x : Sl × Option Addr) h => P.slices_DeleteFunc_queue_Item_queue_Item_queue_Queue_Drop_1 slices_IndexFunc_queue_Item_queue_Item_queue_Queue_Drop_1 queue_Queue_Drop_1 x.1 x.2 h) := by kernel_rfl
theorem ok_60c61 : E_60c61.ok Go.Proofs.YtlikepnpamejmaaGreat.Ov.D := fun x h y h' e => runFK_ok (lstK_ok [E_89c61, E_61] (List.forall_mem_cons.2 ⟨ok_89c61, List.forall_mem_cons.2 ⟨ok_61, fun E h => nomatch h⟩⟩)) (A := ann_60c61) (by kernel_rfl) (show Go.Proofs.YtlikepnpamejmaaGreat.Ov.D.fn.get 60 = some Tryz.f60 by kernel_rfl) (show Tryz.f60.body = some (Tryz.f60.body.getD .skip) by kernel_rfl) ((congrFun (congrFun (eq_60c61 slices_IndexFunc_queue_Item_queue_Item_queue_Queue_Drop_1 queue_Queue_Drop_1) x) h).trans e)
/-! queue_Queue_Drop -/
noncomputable def P.queue_Queue_Drop (slices_DeleteFunc_queue_Item_queue_Item_queue_Queue_Drop_1 : Sl → Option Addr → H → Option ((Sl) × H)) (q : Option Addr) (notes : Sl) (h : H) : Option (Int × H) :=
  newO (row 22 [(.slice notes.base notes.len notes.cap)]) h fun (b : Nat) (h0 : H) =>
  ptrK q fun (a0 : Addr) =>
  bindO (ldL h0 (add a0 0)) fun (x0 : Sl) =>
  ptrK q fun (a1 : Addr) =>
  bindO (ldL h0 (add a1 0)) fun (x1 : Sl) =>
  bind2 (slices_DeleteFunc_queue_Item_queue_Item_queue_Queue_Drop_1 x1 (some (⟨b, 0, (some 0)⟩ : Addr)) h0) fun (x2 : Sl) (h1 : H) =>
  ptrK q fun (a2 : Addr) =>
  bindO (st1 h1 (add a2 0) (.slice x2.base x2.len x2.cap)) fun (h2 : H) =>
  ptrK q fun (a3 : Addr) =>
  bindO (ldL h2 (add a3 0)) fun (x3 : Sl) =>
  some ((IntKind.wrap .i64 (((x0.len : Nat) : Int) - ((x3.len : Nat) : Int))), h2)
noncomputable def queue_Queue_Drop : Option Addr → Sl → H → Option ((Int) × H) := P.queue_Queue_Drop slices_DeleteFunc_queue_Item_queue_Item_queue_Queue_Drop_1
noncomputable def ann_42 : Ann := ⟨fun _ => none, fun _ => none, fun _ => none⟩
noncomputable def E_42 : Ent := ⟨42, [⟨false, [.ptr]⟩, ⟨false, [.sl]⟩], [⟨false, [.int .i64]⟩], fun (x : Option Addr × Sl) h => queue_Queue_Drop x.1 x.2 h⟩
theorem eq_42 (slices_DeleteFunc_queue_Item_queue_Item_queue_Queue_Drop_1 : Sl → Option Addr → H → Option ((Sl) × H)) : (fun (x : PT E_42.ps) (h : H) => runFK Go.Proofs.YtlikepnpamejmaaGreat.Ov.D (lstK [⟨60, [⟨false, [.sl]⟩, ⟨false, [.clo 61 1]⟩], [⟨false, [.sl]⟩], fun (x : Sl × Option Addr) h => slices_DeleteFunc_queue_Item_queue_Item_queue_Queue_Drop_1 x.1 x.2 h⟩]) ann_42 Tryz.f42 (Tryz.f42.body.getD .skip) E_42.ys (encP E_42.ps x) h) = (fun (x : Option Addr × Sl) h => P.queue_Queue_Drop slices_DeleteFunc_queue_Item_queue_Item_queue_Queue_Drop_1 x.1 x.2 h) := by kernel_rfl
theorem ok_42 : E_42.ok Go.Proofs.YtlikepnpamejmaaGreat.Ov.D := fun x h y h' e => runFK_ok (lstK_ok [E_60c61] (List.forall_mem_cons.2 ⟨ok_60c61, fun E h => nomatch h⟩)) (A := ann_42) (by kernel_rfl) (show Go.Proofs.YtlikepnpamejmaaGreat.Ov.D.fn.get 42 = some Tryz.f42 by kernel_rfl) (show Tryz.f42.body = some (Tryz.f42.body.getD .skip) by kernel_rfl) ((congrFun (congrFun (eq_42 slices_DeleteFunc_queue_Item_queue_Item_queue_Queue_Drop_1) x) h).trans e)
/-! conn_Conn_Drop -/
noncomputable def P.conn_Conn_Drop (queue_Queue_Drop : Option Addr → Sl → H → Option ((Int) × H)) (c : Option Addr) (notes : Sl) (h : H) : Option (Int × H) :=
  ptrK c fun (a0 : Addr) =>
  bindO (ldB h (add a0 34)) fun (x0 : Bool) =>
  condK x0 (
    some (0, h)) (
    ptrK c fun (a1 : Addr) =>
    bind2 (queue_Queue_Drop (some (add a1 22)) notes h) fun (x1 : Int) (h0 : H) =>
    some (x1, h0))
noncomputable def conn_Conn_Drop : Option Addr → Sl → H → Option ((Int) × H) := P.conn_Conn_Drop queue_Queue_Drop
noncomputable def ann_26 : Ann := ⟨fun _ => none, fun _ => none, fun _ => none⟩
noncomputable def E_26 : Ent := ⟨26, [⟨false, [.ptr]⟩, ⟨false, [.sl]⟩], [⟨false, [.int .i64]⟩], fun (x : Option Addr × Sl) h => conn_Conn_Drop x.1 x.2 h⟩
theorem eq_26 (queue_Queue_Drop : Option Addr → Sl → H → Option ((Int) × H)) : (fun (x : PT E_26.ps) (h : H) => runFK Go.Proofs.YtlikepnpamejmaaGreat.Ov.D (lstK [⟨42, [⟨false, [.ptr]⟩, ⟨false, [.sl]⟩], [⟨false, [.int .i64]⟩], fun (x : Option Addr × Sl) h => queue_Queue_Drop x.1 x.2 h⟩]) ann_26 Tryz.f26 (Tryz.f26.body.getD .skip) E_26.ys (encP E_26.ps x) h) = (fun (x : Option Addr × Sl) h => P.conn_Conn_Drop queue_Queue_Drop x.1 x.2 h) := by kernel_rfl
theorem ok_26 : E_26.ok Go.Proofs.YtlikepnpamejmaaGreat.Ov.D := fun x h y h' e => runFK_ok (lstK_ok [E_42] (List.forall_mem_cons.2 ⟨ok_42, fun E h => nomatch h⟩)) (A := ann_26) (by kernel_rfl) (show Go.Proofs.YtlikepnpamejmaaGreat.Ov.D.fn.get 26 = some Tryz.f26 by kernel_rfl) (show Tryz.f26.body = some (Tryz.f26.body.getD .skip) by kernel_rfl) ((congrFun (congrFun (eq_26 queue_Queue_Drop) x) h).trans e)
/-! slices_Clip_int -/
noncomputable def slices_Clip_int (s : Sl) (h : H) : Option (Sl × H) :=
  bindO (slT 1 h s none (some ((s.len : Nat) : Int)) (some ((s.len : Nat) : Int))) fun (x0 : Sl) =>
  some (x0, h)
noncomputable def ann_15 : Ann := ⟨fun _ => none, fun _ => none, fun _ => none⟩
noncomputable def E_15 : Ent := ⟨15, [⟨false, [.sl]⟩], [⟨false, [.sl]⟩], fun (x : Sl) h => slices_Clip_int x h⟩
theorem eq_15  : (fun (x : PT E_15.ps) (h : H) => runFK Go.Proofs.YtlikepnpamejmaaGreat.Ov.D (lstK []) ann_15 Tryz.f15 (Tryz.f15.body.getD .skip) E_15.ys (encP E_15.ps x) h) = (fun (x : Sl) h => slices_Clip_int x h) := by kernel_rfl
theorem ok_15 : E_15.ok Go.Proofs.YtlikepnpamejmaaGreat.Ov.D := fun x h y h' e => runFK_ok (lstK_ok [] (fun E h => nomatch h)) (A := ann_15) (by kernel_rfl) (show Go.Proofs.YtlikepnpamejmaaGreat.Ov.D.fn.get 15 = some Tryz.f15 by kernel_rfl) (show Tryz.f15.body = some (Tryz.f15.body.getD .skip) by kernel_rfl) ((congrFun (congrFun (eq_15 ) x) h).trans e)
/-! conn_Conn_Notes -/
noncomputable def P.conn_Conn_Notes (slices_Clip_int : Sl → H → Option ((Sl) × H)) (c : Option Addr) (h : H) : Option ((Sl × Sl) × H) :=
  ptrK c fun (a0 : Addr) =>
  bindO (ldL h (add a0 25)) fun (x0 : Sl) =>
  bind2 (slices_Clip_int x0 h) fun (x1 : Sl) (h0 : H) =>
  ptrK c fun (a1 : Addr) =>
  bindO (ldL h0 (add a1 26)) fun (x2 : Sl) =>
  bind2 (slices_Clip_int x2 h0) fun (x3 : Sl) (h1 : H) =>
  bindO (ldL h (add a1 26)) fun (x4 : Sl) =>
  condK (slEq x4.base x4.len x4.cap x2.base x2.len x2.cap) (
    ptrK c fun (a2 : Addr) =>
    bindO (st1 h1 (add a2 25) (.slice none 0 0)) fun (h2 : H) =>
    ptrK c fun (a3 : Addr) =>
    bindO (st1 h2 (add a3 26) (.slice none 0 0)) fun (h3 : H) =>
    some ((x1, x3), h3)) none
noncomputable def conn_Conn_Notes : Option Addr → H → Option ((Sl × Sl) × H) := P.conn_Conn_Notes slices_Clip_int
noncomputable def ann_27 : Ann := ⟨fun _ => none, fun _ => none, fun _ => none⟩
noncomputable def E_27 : Ent := ⟨27, [⟨false, [.ptr]⟩], [⟨false, [.sl]⟩, ⟨false, [.sl]⟩], fun (x : Option Addr) h => conn_Conn_Notes x h⟩
theorem eq_27 (slices_Clip_int : Sl → H → Option ((Sl) × H)) : (fun (x : PT E_27.ps) (h : H) => runFK Go.Proofs.YtlikepnpamejmaaGreat.Ov.D (lstK [⟨15, [⟨false, [.sl]⟩], [⟨false, [.sl]⟩], fun (x : Sl) h => slices_Clip_int x h⟩]) ann_27 Tryz.f27 (Tryz.f27.body.getD .skip) E_27.ys (encP E_27.ps x) h) = (fun (x : Option Addr) h => P.conn_Conn_Notes slices_Clip_int x h) := by kernel_rfl
theorem ok_27 : E_27.ok Go.Proofs.YtlikepnpamejmaaGreat.Ov.D := fun x h y h' e => runFK_ok (lstK_ok [E_15] (List.forall_mem_cons.2 ⟨ok_15, fun E h => nomatch h⟩)) (A := ann_27) (by kernel_rfl) (show Go.Proofs.YtlikepnpamejmaaGreat.Ov.D.fn.get 27 = some Tryz.f27 by kernel_rfl) (show Tryz.f27.body = some (Tryz.f27.body.getD .skip) by kernel_rfl) ((congrFun (congrFun (eq_27 slices_Clip_int) x) h).trans e)
/-! outbox_notes -/
noncomputable def outbox_notes_l1 : ((Int × (Sl × Int)) × H) → Option (((Int × (Sl × Int)) × H) ⊕ ((Sl × H) ⊕ (Sl × H))) := fun ((id, (out, x0)), h0) =>
  condK (decide ((x0 < 8))) (
    newO (row 3 [(.int .i64 (IntKind.wrap .i64 ((IntKind.wrap .i64 (8 * id)) + x0)))]) h0 fun (b : Nat) (h1 : H) =>
    bind2 (appT 3 1 8 h1 out (⟨(some (⟨b, 0, (some 0)⟩ : Addr)), 1, 1⟩ : Sl)) fun (x1 : Sl) (h2 : H) =>
    some (Sum.inl ((id, (x1, (IntKind.wrap .i64 (x0 + 1)))), h2))) (
    some (Sum.inr (Sum.inl (out, h0))))

noncomputable def outbox_notes (id : Int) (h : H) : Option (Sl × H) :=
  joinO (
    loopO outbox_notes_l1 ((id, ((⟨none, 0, 0⟩ : Sl), 0)), h)) fun ((out, h0) : (Sl × H)) =>
  some (out, h0)
noncomputable def ann_46 : Ann := ⟨fun i => bif i.beq 7 then some ⟨[3], [⟨false, [.sl]⟩]⟩ else none, fun i => bif i.beq 3 then some ⟨[0, 3, 5], [⟨false, [.int .i64]⟩, ⟨false, [.sl]⟩, ⟨false, [.int .i64]⟩]⟩ else none, fun _ => none⟩
noncomputable def E_46 : Ent := ⟨46, [⟨false, [.int .i64]⟩], [⟨false, [.sl]⟩], fun (x : Int) h => outbox_notes x h⟩
theorem eq_46  : (fun (x : PT E_46.ps) (h : H) => runFK Go.Proofs.YtlikepnpamejmaaGreat.Ov.D (lstK []) ann_46 Tryz.f46 (Tryz.f46.body.getD .skip) E_46.ys (encP E_46.ps x) h) = (fun (x : Int) h => outbox_notes x h) := by kernel_rfl
theorem ok_46 : E_46.ok Go.Proofs.YtlikepnpamejmaaGreat.Ov.D := fun x h y h' e => runFK_ok (lstK_ok [] (fun E h => nomatch h)) (A := ann_46) (by kernel_rfl) (show Go.Proofs.YtlikepnpamejmaaGreat.Ov.D.fn.get 46 = some Tryz.f46 by kernel_rfl) (show Tryz.f46.body = some (Tryz.f46.body.getD .skip) by kernel_rfl) ((congrFun (congrFun (eq_46 ) x) h).trans e)
/-! conn_may -/
noncomputable def conn_may (n : Int) (h : H) : Option (Bool × H) :=
  condK (decide ((n ≥ 0))) (
    some ((decide ((n ≤ 4611686018427387903))), h)) (
    some (false, h))
noncomputable def ann_64 : Ann := ⟨fun _ => none, fun _ => none, fun _ => none⟩
noncomputable def E_64 : Ent := ⟨64, [⟨false, [.int .i64]⟩], [⟨false, [.bool]⟩], fun (x : Int) h => conn_may x h⟩
theorem eq_64  : (fun (x : PT E_64.ps) (h : H) => runFK Go.Proofs.YtlikepnpamejmaaGreat.Ov.D (lstK []) ann_64 Tryz.f64 (Tryz.f64.body.getD .skip) E_64.ys (encP E_64.ps x) h) = (fun (x : Int) h => conn_may x h) := by kernel_rfl
theorem ok_64 : E_64.ok Go.Proofs.YtlikepnpamejmaaGreat.Ov.D := fun x h y h' e => runFK_ok (lstK_ok [] (fun E h => nomatch h)) (A := ann_64) (by kernel_rfl) (show Go.Proofs.YtlikepnpamejmaaGreat.Ov.D.fn.get 64 = some Tryz.f64 by kernel_rfl) (show Tryz.f64.body = some (Tryz.f64.body.getD .skip) by kernel_rfl) ((congrFun (congrFun (eq_64 ) x) h).trans e)
/-! conn_Conn_Control -/
noncomputable def P.conn_Conn_Control (conn_may : Int → H → Option ((Bool) × H)) (c : Option Addr) (kind : Int) (id : Int) (h : H) : Option (Int × H) :=
  ptrK c fun (a0 : Addr) =>
  bindO (ldB h (add a0 34)) fun (x0 : Bool) =>
  condK x0 (
    some (10, h)) (
    joinO (
      condK (kind != 10) (
        condK (kind != 11) (
          some (Sum.inl ((c, (kind, (id, true))), h))) (
          bind2 (conn_may id h) fun (x1 : Bool) (h0 : H) =>
          some (Sum.inl ((c, (kind, (id, (!x1)))), h0)))) (
        bind2 (conn_may id h) fun (x2 : Bool) (h1 : H) =>
        some (Sum.inl ((c, (kind, (id, (!x2)))), h1)))) fun (((c1, (kind1, (id1, x1))), h0) : (((Option Addr) × (Int × (Int × Bool))) × H)) =>
    condK x1 (
      some (1, h0)) (
      ptrK c1 fun (a1 : Addr) =>
      bindO (ldL h0 (add a1 21)) fun (x2 : Sl) =>
      newO (row 143 [(.int .i64 kind1), (.int .i64 id1), (.int .i64 0), (.int .i64 0), (.int .i64 0), (.int .i64 0), (.bool false), (.slice none 0 0), (.slice none 0 0)]) h0 fun (b : Nat) (h1 : H) =>
      bind2 (appT 143 9 104 h1 x2 (⟨(some (⟨b, 0, (some 0)⟩ : Addr)), 1, 1⟩ : Sl)) fun (x3 : Sl) (h2 : H) =>
      ptrK c1 fun (a2 : Addr) =>
      bindO (st1 h2 (add a2 21) (.slice x3.base x3.len x3.cap)) fun (h3 : H) =>
      some (0, h3)))
noncomputable def conn_Conn_Control : Option Addr → Int → Int → H → Option ((Int) × H) := P.conn_Conn_Control conn_may
noncomputable def ann_47 : Ann := ⟨fun _ => none, fun _ => none, fun i => bif i.beq 3 then some ⟨[0, 1, 2, 12], [⟨false, [.ptr]⟩, ⟨false, [.int .i64]⟩, ⟨false, [.int .i64]⟩, ⟨false, [.bool]⟩]⟩ else none⟩
noncomputable def E_47 : Ent := ⟨47, [⟨false, [.ptr]⟩, ⟨false, [.int .i64]⟩, ⟨false, [.int .i64]⟩], [⟨false, [.int .i64]⟩], fun (x : Option Addr × Int × Int) h => conn_Conn_Control x.1 x.2.1 x.2.2 h⟩
theorem eq_47 (conn_may : Int → H → Option ((Bool) × H)) : (fun (x : PT E_47.ps) (h : H) => runFK Go.Proofs.YtlikepnpamejmaaGreat.Ov.D (lstK [⟨64, [⟨false, [.int .i64]⟩], [⟨false, [.bool]⟩], fun (x : Int) h => conn_may x h⟩]) ann_47 Tryz.f47 (Tryz.f47.body.getD .skip) E_47.ys (encP E_47.ps x) h) = (fun (x : Option Addr × Int × Int) h => P.conn_Conn_Control conn_may x.1 x.2.1 x.2.2 h) := by kernel_rfl
theorem ok_47 : E_47.ok Go.Proofs.YtlikepnpamejmaaGreat.Ov.D := fun x h y h' e => runFK_ok (lstK_ok [E_64] (List.forall_mem_cons.2 ⟨ok_64, fun E h => nomatch h⟩)) (A := ann_47) (by kernel_rfl) (show Go.Proofs.YtlikepnpamejmaaGreat.Ov.D.fn.get 47 = some Tryz.f47 by kernel_rfl) (show Tryz.f47.body = some (Tryz.f47.body.getD .skip) by kernel_rfl) ((congrFun (congrFun (eq_47 conn_may) x) h).trans e)
/-! head_Short (not come to) -/
noncomputable def head_Short : (Int × Int × Int × Int × Int) → H → Option ((Sl) × H) := fun _ _ => none
noncomputable def E_49 : Ent := ⟨49, [⟨true, [.int .i64, .int .i64, .int .i64, .int .i64, .int .i64]⟩], [⟨false, [.sl]⟩], fun (x : (Int × Int × Int × Int × Int)) h => head_Short x h⟩
theorem ok_49 : E_49.ok Go.Proofs.YtlikepnpamejmaaGreat.Ov.D := fun x h y h' e => nomatch (show (none : Option _) = some (y, h') from e)
/-! conn_Conn_Reset (not come to) -/
noncomputable def conn_Conn_Reset : Option Addr → Int → Int → Int → H → Option ((Int) × H) := fun _ _ _ _ _ => none
noncomputable def E_48 : Ent := ⟨48, [⟨false, [.ptr]⟩, ⟨false, [.int .i64]⟩, ⟨false, [.int .i64]⟩, ⟨false, [.int .i64]⟩], [⟨false, [.int .i64]⟩], fun (x : Option Addr × Int × Int × Int) h => conn_Conn_Reset x.1 x.2.1 x.2.2.1 x.2.2.2 h⟩
theorem ok_48 : E_48.ok Go.Proofs.YtlikepnpamejmaaGreat.Ov.D := fun x h y h' e => nomatch (show (none : Option _) = some (y, h') from e)
/-! order_Order_Drop -/
noncomputable def order_Order_Drop_l1 : (((Option Addr) × (Int × (Sl × (Int × Int)))) × H) → Option ((((Option Addr) × (Int × (Sl × (Int × Int)))) × H) ⊕ ((((Option Addr) × Int) × H) ⊕ (Int × H))) := fun ((o, (before, (x0, (x1, x2)))), h0) =>
  condK (decide ((x2 < x1))) (
    bindO (ixT 1 x0 x2) fun (a0 : Addr) =>
    bindO (ldI .i64 h0 a0) fun (x3 : Int) =>
    ptrK o fun (a1 : Addr) =>
    bindO (ldM h0 (add a1 0)) fun (x4 : Option Nat) =>
    bindO (delT .i64 h0 x4 x3) fun (h1 : H) =>
    some (Sum.inl ((o, (before, (x0, (x1, (IntKind.wrap .i64 (x2 + 1)))))), h1))) (
    some (Sum.inr (Sum.inl ((o, before), h0))))

noncomputable def order_Order_Drop (o : Option Addr) (ids : Sl) (h : H) : Option (Int × H) :=
  ptrK o fun (a0 : Addr) =>
  bindO (ldM h (add a0 0)) fun (x0 : Option Nat) =>
  bindO (lenMT h x0) fun (x1 : Int) =>
  joinO (
    loopO order_Order_Drop_l1 ((o, (x1, (ids, (((ids.len : Nat) : Int), 0)))), h)) fun (((o1, before), h0) : (((Option Addr) × Int) × H)) =>
  ptrK o1 fun (a1 : Addr) =>
  bindO (ldM h0 (add a1 0)) fun (x2 : Option Nat) =>
  bindO (lenMT h0 x2) fun (x3 : Int) =>
  some ((IntKind.wrap .i64 (before - x3)), h0)
noncomputable def ann_69 : Ann := ⟨fun i => bif i.beq 7 then some ⟨[0, 5], [⟨false, [.ptr]⟩, ⟨false, [.int .i64]⟩]⟩ else none, fun i => bif i.beq 3 then some ⟨[0, 5, 13, 14, 15], [⟨false, [.ptr]⟩, ⟨false, [.int .i64]⟩, ⟨false, [.sl]⟩, ⟨false, [.int .i64]⟩, ⟨false, [.int .i64]⟩]⟩ else none, fun _ => none⟩
noncomputable def E_69 : Ent := ⟨69, [⟨false, [.ptr]⟩, ⟨false, [.sl]⟩], [⟨false, [.int .i64]⟩], fun (x : Option Addr × Sl) h => order_Order_Drop x.1 x.2 h⟩
theorem eq_69  : (fun (x : PT E_69.ps) (h : H) => runFK Go.Proofs.YtlikepnpamejmaaGreat.Ov.D (lstK []) ann_69 Tryz.f69 (Tryz.f69.body.getD .skip) E_69.ys (encP E_69.ps x) h) = (fun (x : Option Addr × Sl) h => order_Order_Drop x.1 x.2 h) := by kernel_rfl
theorem ok_69 : E_69.ok Go.Proofs.YtlikepnpamejmaaGreat.Ov.D := fun x h y h' e => runFK_ok (lstK_ok [] (fun E h => nomatch h)) (A := ann_69) (by kernel_rfl) (show Go.Proofs.YtlikepnpamejmaaGreat.Ov.D.fn.get 69 = some Tryz.f69 by kernel_rfl) (show Tryz.f69.body = some (Tryz.f69.body.getD .skip) by kernel_rfl) ((congrFun (congrFun (eq_69 ) x) h).trans e)
/-! outbox_Box_end -/
noncomputable def P.outbox_Box_end (order_Order_Drop : Option Addr → Sl → H → Option ((Int) × H)) (b : Option Addr) (now : Int) (id : Int) (state : Int) (h : H) : Option ((Int × Int × Int × ByteArray) × H) :=
  newO (row 46 [(.int .i64 0), (.int .i64 0), (.int .i64 0), (.string (⟨#[]⟩ : ByteArray))]) h fun (b1 : Nat) (h0 : H) =>
  ptrK b fun (a0 : Addr) =>
  bindO (ldL h0 (add a0 1)) fun (x0 : Sl) =>
  bindO (ixT 1 x0 id) fun (a1 : Addr) =>
  bindO (ldP h0 a1) fun (x1 : Option Addr) =>
  ptrK x1 fun (a2 : Addr) =>
  bindO (st1 h0 (add a2 8) (.int .i64 state)) fun (h1 : H) =>
  ptrK b fun (a3 : Addr) =>
  newO (row 3 [(.int .i64 id)]) h1 fun (b2 : Nat) (h2 : H) =>
  bind2 (order_Order_Drop (some (add a3 0)) (⟨(some (⟨b2, 0, (some 0)⟩ : Addr)), 1, 1⟩ : Sl) h2) fun (x2 : Int) (h3 : H) =>
  bindO (stZ [.int .i64, .int .i64, .int .i64, .str] h3 (⟨b1, 0, (some 0)⟩ : Addr) ((state, id, now, (⟨#[]⟩ : ByteArray)) : Int × Int × Int × ByteArray)) fun (h4 : H) =>
  bindO (ldZ [.int .i64, .int .i64, .int .i64, .str] h4 (⟨b1, 0, (some 0)⟩ : Addr)) fun ((x3, x4, x5, x6) : Int × Int × Int × ByteArray) =>
  some ((x3, (x4, (x5, x6))), h4)
noncomputable def outbox_Box_end : Option Addr → Int → Int → Int → H → Option (((Int × Int × Int × ByteArray)) × H) := P.outbox_Box_end order_Order_Drop
noncomputable def ann_50 : Ann := ⟨fun _ => none, fun _ => none, fun _ => none⟩
noncomputable def E_50 : Ent := ⟨50, [⟨false, [.ptr]⟩, ⟨false, [.int .i64]⟩, ⟨false, [.int .i64]⟩, ⟨false, [.int .i64]⟩], [⟨true, [.int .i64, .int .i64, .int .i64, .str]⟩], fun (x : Option Addr × Int × Int × Int) h => outbox_Box_end x.1 x.2.1 x.2.2.1 x.2.2.2 h⟩
theorem eq_50 (order_Order_Drop : Option Addr → Sl → H → Option ((Int) × H)) : (fun (x : PT E_50.ps) (h : H) => runFK Go.Proofs.YtlikepnpamejmaaGreat.Ov.D (lstK [⟨69, [⟨false, [.ptr]⟩, ⟨false, [.sl]⟩], [⟨false, [.int .i64]⟩], fun (x : Option Addr × Sl) h => order_Order_Drop x.1 x.2 h⟩]) ann_50 Tryz.f50 (Tryz.f50.body.getD .skip) E_50.ys (encP E_50.ps x) h) = (fun (x : Option Addr × Int × Int × Int) h => P.outbox_Box_end order_Order_Drop x.1 x.2.1 x.2.2.1 x.2.2.2 h) := by kernel_rfl
theorem ok_50 : E_50.ok Go.Proofs.YtlikepnpamejmaaGreat.Ov.D := fun x h y h' e => runFK_ok (lstK_ok [E_69] (List.forall_mem_cons.2 ⟨ok_69, fun E h => nomatch h⟩)) (A := ann_50) (by kernel_rfl) (show Go.Proofs.YtlikepnpamejmaaGreat.Ov.D.fn.get 50 = some Tryz.f50 by kernel_rfl) (show Tryz.f50.body = some (Tryz.f50.body.getD .skip) by kernel_rfl) ((congrFun (congrFun (eq_50 order_Order_Drop) x) h).trans e)
/-! outbox_Box_expires -/
noncomputable def P.outbox_Box_expires (outbox_notes : Int → H → Option ((Sl) × H)) (conn_Conn_Drop : Option Addr → Sl → H → Option ((Int) × H)) (conn_Conn_Control : Option Addr → Int → Int → H → Option ((Int) × H)) (head_Short : (Int × Int × Int × Int × Int) → H → Option ((Sl) × H)) (conn_Conn_Reset : Option Addr → Int → Int → Int → H → Option ((Int) × H)) (outbox_Box_end : Option Addr → Int → Int → Int → H → Option (((Int × Int × Int × ByteArray)) × H)) (b : Option Addr) (now : Int) (id : Int) (c : Option Addr) (h : H) : Option ((Int × Int × Int × ByteArray) × H) :=
  newO (row 46 [(.int .i64 0), (.int .i64 0), (.int .i64 0), (.string (⟨#[]⟩ : ByteArray))]) h fun (b1 : Nat) (h0 : H) =>
  ptrK b fun (a0 : Addr) =>
  bindO (ldL h0 (add a0 1)) fun (x0 : Sl) =>
  bindO (ixT 1 x0 id) fun (a1 : Addr) =>
  bindO (ldP h0 a1) fun (x1 : Option Addr) =>
  joinO (
    ptrK x1 fun (a2 : Addr) =>
    bindO (ldI .i64 h0 (add a2 6)) fun (x2 : Int) =>
    condK (x2 == 0) (
      bind2 (outbox_notes id h0) fun (x3 : Sl) (h1 : H) =>
      bind2 (conn_Conn_Drop c x3 h1) fun (x4 : Int) (h2 : H) =>
      some (Sum.inl ((b, (now, (id, (c, ((some (⟨b1, 0, (some 0)⟩ : Addr)), x1))))), h2))) (
      some (Sum.inl ((b, (now, (id, (c, ((some (⟨b1, 0, (some 0)⟩ : Addr)), x1))))), h0)))) fun (((b2, (now1, (id1, (c1, (x2, m))))), h1) : (((Option Addr) × (Int × (Int × ((Option Addr) × ((Option Addr) × (Option Addr)))))) × H)) =>
  joinO (
    ptrK m fun (a2 : Addr) =>
    bindO (ldI .i64 h1 (add a2 17)) fun (x3 : Int) =>
    condK (x3 == (-1)) (
      bind2 (conn_Conn_Control c1 11 id1 h1) fun (x4 : Int) (h2 : H) =>
      some (Sum.inl ((b2, (now1, (id1, x2))), h2))) (
      ptrK m fun (a3 : Addr) =>
      bindO (ldI .i64 h1 (add a3 17)) fun (x5 : Int) =>
      ptrK m fun (a4 : Addr) =>
      bindO (ldZ [.int .i64, .int .i64, .int .i64, .int .i64, .int .i64] h1 (add a4 0)) fun ((x6, x7, x8, x9, x10) : Int × Int × Int × Int × Int) =>
      bind2 (head_Short (x6, x7, x8, x9, x10) h1) fun (x11 : Sl) (h3 : H) =>
      bind2 (conn_Conn_Reset c1 x5 id1 ((x11.len : Nat) : Int) h3) fun (x12 : Int) (h4 : H) =>
      bindO (ldI .i64 h3 (add a3 17)) fun (x13 : Int) =>
      condK (x13 == x5) (
        some (Sum.inl ((b2, (now1, (id1, x2))), h4))) none)) fun (((b3, (now2, (id2, x3))), h2) : (((Option Addr) × (Int × (Int × (Option Addr)))) × H)) =>
  bind2 (outbox_Box_end b3 now2 id2 4 h2) fun ((x4, x5, x6, x7) : Int × Int × Int × ByteArray) (h3 : H) =>
  ptrK x3 fun (a2 : Addr) =>
  bindO (stZ [.int .i64, .int .i64, .int .i64, .str] h3 a2 ((x4, x5, x6, x7) : Int × Int × Int × ByteArray)) fun (h4 : H) =>
  ptrK x3 fun (a3 : Addr) =>
  bindO (ldZ [.int .i64, .int .i64, .int .i64, .str] h4 a3) fun ((x8, x9, x10, x11) : Int × Int × Int × ByteArray) =>
  some ((x8, (x9, (x10, x11))), h4)
noncomputable def outbox_Box_expires : Option Addr → Int → Int → Option Addr → H → Option (((Int × Int × Int × ByteArray)) × H) := P.outbox_Box_expires outbox_notes conn_Conn_Drop conn_Conn_Control head_Short conn_Conn_Reset outbox_Box_end
noncomputable def ann_30 : Ann := ⟨fun i => bif i.beq 4 then some ⟨[0, 1, 2, 3, 8, 9], [⟨false, [.ptr]⟩, ⟨false, [.int .i64]⟩, ⟨false, [.int .i64]⟩, ⟨false, [.ptr]⟩, ⟨false, [.ptr]⟩, ⟨false, [.ptr]⟩]⟩ else bif i.beq 7 then some ⟨[0, 1, 2, 8], [⟨false, [.ptr]⟩, ⟨false, [.int .i64]⟩, ⟨false, [.int .i64]⟩, ⟨false, [.ptr]⟩]⟩ else none, fun _ => none, fun _ => none⟩
noncomputable def E_30 : Ent := ⟨30, [⟨false, [.ptr]⟩, ⟨false, [.int .i64]⟩, ⟨false, [.int .i64]⟩, ⟨false, [.ptr]⟩], [⟨true, [.int .i64, .int .i64, .int .i64, .str]⟩], fun (x : Option Addr × Int × Int × Option Addr) h => outbox_Box_expires x.1 x.2.1 x.2.2.1 x.2.2.2 h⟩
theorem eq_30 (outbox_notes : Int → H → Option ((Sl) × H)) (conn_Conn_Drop : Option Addr → Sl → H → Option ((Int) × H)) (conn_Conn_Control : Option Addr → Int → Int → H → Option ((Int) × H)) (head_Short : (Int × Int × Int × Int × Int) → H → Option ((Sl) × H)) (conn_Conn_Reset : Option Addr → Int → Int → Int → H → Option ((Int) × H)) (outbox_Box_end : Option Addr → Int → Int → Int → H → Option (((Int × Int × Int × ByteArray)) × H)) : (fun (x : PT E_30.ps) (h : H) => runFK Go.Proofs.YtlikepnpamejmaaGreat.Ov.D (lstK [⟨46, [⟨false, [.int .i64]⟩], [⟨false, [.sl]⟩], fun (x : Int) h => outbox_notes x h⟩, ⟨26, [⟨false, [.ptr]⟩, ⟨false, [.sl]⟩], [⟨false, [.int .i64]⟩], fun (x : Option Addr × Sl) h => conn_Conn_Drop x.1 x.2 h⟩, ⟨47, [⟨false, [.ptr]⟩, ⟨false, [.int .i64]⟩, ⟨false, [.int .i64]⟩], [⟨false, [.int .i64]⟩], fun (x : Option Addr × Int × Int) h => conn_Conn_Control x.1 x.2.1 x.2.2 h⟩, ⟨49, [⟨true, [.int .i64, .int .i64, .int .i64, .int .i64, .int .i64]⟩], [⟨false, [.sl]⟩], fun (x : (Int × Int × Int × Int × Int)) h => head_Short x h⟩, ⟨48, [⟨false, [.ptr]⟩, ⟨false, [.int .i64]⟩, ⟨false, [.int .i64]⟩, ⟨false, [.int .i64]⟩], [⟨false, [.int .i64]⟩], fun (x : Option Addr × Int × Int × Int) h => conn_Conn_Reset x.1 x.2.1 x.2.2.1 x.2.2.2 h⟩, ⟨50, [⟨false, [.ptr]⟩, ⟨false, [.int .i64]⟩, ⟨false, [.int .i64]⟩, ⟨false, [.int .i64]⟩], [⟨true, [.int .i64, .int .i64, .int .i64, .str]⟩], fun (x : Option Addr × Int × Int × Int) h => outbox_Box_end x.1 x.2.1 x.2.2.1 x.2.2.2 h⟩]) ann_30 Tryz.f30 (Tryz.f30.body.getD .skip) E_30.ys (encP E_30.ps x) h) = (fun (x : Option Addr × Int × Int × Option Addr) h => P.outbox_Box_expires outbox_notes conn_Conn_Drop conn_Conn_Control head_Short conn_Conn_Reset outbox_Box_end x.1 x.2.1 x.2.2.1 x.2.2.2 h) := by kernel_rfl
theorem ok_30 : E_30.ok Go.Proofs.YtlikepnpamejmaaGreat.Ov.D := fun x h y h' e => runFK_ok (lstK_ok [E_46, E_26, E_47, E_49, E_48, E_50] (List.forall_mem_cons.2 ⟨ok_46, List.forall_mem_cons.2 ⟨ok_26, List.forall_mem_cons.2 ⟨ok_47, List.forall_mem_cons.2 ⟨ok_49, List.forall_mem_cons.2 ⟨ok_48, List.forall_mem_cons.2 ⟨ok_50, fun E h => nomatch h⟩⟩⟩⟩⟩⟩)) (A := ann_30) (by kernel_rfl) (show Go.Proofs.YtlikepnpamejmaaGreat.Ov.D.fn.get 30 = some Tryz.f30 by kernel_rfl) (show Tryz.f30.body = some (Tryz.f30.body.getD .skip) by kernel_rfl) ((congrFun (congrFun (eq_30 outbox_notes conn_Conn_Drop conn_Conn_Control head_Short conn_Conn_Reset outbox_Box_end) x) h).trans e)
/-! outbox_Box_lost (not come to) -/
noncomputable def outbox_Box_lost : Option Addr → Int → Int → Option Addr → H → Option ((Sl) × H) := fun _ _ _ _ _ => none
noncomputable def E_28 : Ent := ⟨28, [⟨false, [.ptr]⟩, ⟨false, [.int .i64]⟩, ⟨false, [.int .i64]⟩, ⟨false, [.ptr]⟩], [⟨false, [.sl]⟩], fun (x : Option Addr × Int × Int × Option Addr) h => outbox_Box_lost x.1 x.2.1 x.2.2.1 x.2.2.2 h⟩
theorem ok_28 : E_28.ok Go.Proofs.YtlikepnpamejmaaGreat.Ov.D := fun x h y h' e => nomatch (show (none : Option _) = some (y, h') from e)
/-! maps_Keys_map_int_int_int_int -/
noncomputable def maps_Keys_map_int_int_int_int (m : Option Nat) (h : H) : Option (Value × H) :=
  newO (row 33 [(.map m)]) h fun (b : Nat) (h0 : H) =>
  some ((.func (.func 38) #[] #[(.pointer (some (⟨b, 0, (some 0)⟩ : Addr)))]), h0)
noncomputable def ann_17 : Ann := ⟨fun _ => none, fun _ => none, fun _ => none⟩
noncomputable def E_17 : Ent := ⟨17, [⟨false, [.map]⟩], [⟨false, [.any]⟩], fun (x : Option Nat) h => maps_Keys_map_int_int_int_int x h⟩
theorem eq_17  : (fun (x : PT E_17.ps) (h : H) => runFK Go.Proofs.YtlikepnpamejmaaGreat.Ov.D (lstK []) ann_17 Tryz.f17 (Tryz.f17.body.getD .skip) E_17.ys (encP E_17.ps x) h) = (fun (x : Option Nat) h => maps_Keys_map_int_int_int_int x h) := by kernel_rfl
theorem ok_17 : E_17.ok Go.Proofs.YtlikepnpamejmaaGreat.Ov.D := fun x h y h' e => runFK_ok (lstK_ok [] (fun E h => nomatch h)) (A := ann_17) (by kernel_rfl) (show Go.Proofs.YtlikepnpamejmaaGreat.Ov.D.fn.get 17 = some Tryz.f17 by kernel_rfl) (show Tryz.f17.body = some (Tryz.f17.body.getD .skip) by kernel_rfl) ((congrFun (congrFun (eq_17 ) x) h).trans e)
/-! slices_SortedFunc_int_order_Order_All_1 (told by an override) -/
noncomputable def slices_SortedFunc_int_order_Order_All_1 : Value → Option Addr → H → Option ((Sl) × H) := fun s c1 h => slO (Go.Proofs.YtlikepnpamejmaaGreat.Ov.ov16 [s, (Z.enc (.clo 18 1) c1)] h)
noncomputable def E_16c18 : Ent := ⟨16, [⟨false, [.any]⟩, ⟨false, [.clo 18 1]⟩], [⟨false, [.sl]⟩], fun (x : Value × Option Addr) h => slices_SortedFunc_int_order_Order_All_1 x.1 x.2 h⟩
theorem ok_16c18 : E_16c18.ok Go.Proofs.YtlikepnpamejmaaGreat.Ov.D := fun x h y h' e => ov_ok (f := 16) (g := Go.Proofs.YtlikepnpamejmaaGreat.Ov.ov16) (by kernel_rfl) (args := [x.1, (Z.enc (.clo 18 1) x.2)]) e
/-! order_Order_All -/
noncomputable def P.order_Order_All (maps_Keys_map_int_int_int_int : Option Nat → H → Option ((Value) × H)) (slices_SortedFunc_int_order_Order_All_1 : Value → Option Addr → H → Option ((Sl) × H)) (slices_Clip_int : Sl → H → Option ((Sl) × H)) (o : Option Addr) (h : H) : Option (Sl × H) :=
  newO (row 56 [(.pointer o)]) h fun (b : Nat) (h0 : H) =>
  bindO (ldP h0 (⟨b, 0, (some 0)⟩ : Addr)) fun (x0 : Option Addr) =>
  ptrK x0 fun (a0 : Addr) =>
  bindO (ldM h0 (add a0 0)) fun (x1 : Option Nat) =>
  bind2 (maps_Keys_map_int_int_int_int x1 h0) fun (x2 : Value) (h1 : H) =>
  bind2 (slices_SortedFunc_int_order_Order_All_1 x2 (some (⟨b, 0, (some 0)⟩ : Addr)) h1) fun (x3 : Sl) (h2 : H) =>
  bind2 (slices_Clip_int x3 h2) fun (x4 : Sl) (h3 : H) =>
  some (x4, h3)
noncomputable def order_Order_All : Option Addr → H → Option ((Sl) × H) := P.order_Order_All maps_Keys_map_int_int_int_int slices_SortedFunc_int_order_Order_All_1 slices_Clip_int
noncomputable def ann_9 : Ann := ⟨fun _ => none, fun _ => none, fun _ => none⟩
noncomputable def E_9 : Ent := ⟨9, [⟨false, [.ptr]⟩], [⟨false, [.sl]⟩], fun (x : Option Addr) h => order_Order_All x h⟩
theorem eq_9 (maps_Keys_map_int_int_int_int : Option Nat → H → Option ((Value) × H)) (slices_SortedFunc_int_order_Order_All_1 : Value → Option Addr → H → Option ((Sl) × H)) (slices_Clip_int : Sl → H → Option ((Sl) × H)) : (fun (x : PT E_9.ps) (h : H) => runFK Go.Proofs.YtlikepnpamejmaaGreat.Ov.D (lstK [⟨17, [⟨false, [.map]⟩], [⟨false, [.any]⟩], fun (x : Option Nat) h => maps_Keys_map_int_int_int_int x h⟩, ⟨16, [⟨false, [.any]⟩, ⟨false, [.clo 18 1]⟩], [⟨false, [.sl]⟩], fun (x : Value × Option Addr) h => slices_SortedFunc_int_order_Order_All_1 x.1 x.2 h⟩, ⟨15, [⟨false, [.sl]⟩], [⟨false, [.sl]⟩], fun (x : Sl) h => slices_Clip_int x h⟩]) ann_9 Tryz.f9 (Tryz.f9.body.getD .skip) E_9.ys (encP E_9.ps x) h) = (fun (x : Option Addr) h => P.order_Order_All maps_Keys_map_int_int_int_int slices_SortedFunc_int_order_Order_All_1 slices_Clip_int x h) := by kernel_rfl
theorem ok_9 : E_9.ok Go.Proofs.YtlikepnpamejmaaGreat.Ov.D := fun x h y h' e => runFK_ok (lstK_ok [E_17, E_16c18, E_15] (List.forall_mem_cons.2 ⟨ok_17, List.forall_mem_cons.2 ⟨ok_16c18, List.forall_mem_cons.2 ⟨ok_15, fun E h => nomatch h⟩⟩⟩)) (A := ann_9) (by kernel_rfl) (show Go.Proofs.YtlikepnpamejmaaGreat.Ov.D.fn.get 9 = some Tryz.f9 by kernel_rfl) (show Tryz.f9.body = some (Tryz.f9.body.getD .skip) by kernel_rfl) ((congrFun (congrFun (eq_9 maps_Keys_map_int_int_int_int slices_SortedFunc_int_order_Order_All_1 slices_Clip_int) x) h).trans e)
/-! order_Order_Late_1 -/
noncomputable def order_Order_Late_1 (id : Int) (x0 : Option Addr) (x1 : Option Addr) (h : H) : Option (Bool × H) :=
  ptrK x0 fun (a0 : Addr) =>
  bindO (ldP h a0) fun (x2 : Option Addr) =>
  ptrK x2 fun (a1 : Addr) =>
  bindO (ldM h (add a1 0)) fun (x3 : Option Nat) =>
  bindO (lookT .i64 ⟨false, [.int .i64]⟩ (.int .i64 0) h x3 id) fun (x4 : Int) =>
  ptrK x1 fun (a2 : Addr) =>
  bindO (ldI .i64 h a2) fun (x5 : Int) =>
  some ((decide ((x4 ≥ x5))), h)
noncomputable def ann_45 : Ann := ⟨fun _ => none, fun _ => none, fun _ => none⟩
noncomputable def E_45 : Ent := ⟨45, [⟨false, [.int .i64]⟩, ⟨false, [.ptr]⟩, ⟨false, [.ptr]⟩], [⟨false, [.bool]⟩], fun (x : Int × Option Addr × Option Addr) h => order_Order_Late_1 x.1 x.2.1 x.2.2 h⟩
theorem eq_45  : (fun (x : PT E_45.ps) (h : H) => runFK Go.Proofs.YtlikepnpamejmaaGreat.Ov.D (lstK []) ann_45 Tryz.f45 (Tryz.f45.body.getD .skip) E_45.ys (encP E_45.ps x) h) = (fun (x : Int × Option Addr × Option Addr) h => order_Order_Late_1 x.1 x.2.1 x.2.2 h) := by kernel_rfl
theorem ok_45 : E_45.ok Go.Proofs.YtlikepnpamejmaaGreat.Ov.D := fun x h y h' e => runFK_ok (lstK_ok [] (fun E h => nomatch h)) (A := ann_45) (by kernel_rfl) (show Go.Proofs.YtlikepnpamejmaaGreat.Ov.D.fn.get 45 = some Tryz.f45 by kernel_rfl) (show Tryz.f45.body = some (Tryz.f45.body.getD .skip) by kernel_rfl) ((congrFun (congrFun (eq_45 ) x) h).trans e)
/-! slices_IndexFunc_int_order_Order_Late_1 -/
noncomputable def P.slices_IndexFunc_int_order_Order_Late_1_l1 (order_Order_Late_1 : Int → Option Addr → Option Addr → H → Option ((Bool) × H)) : ((Sl × (((Option Addr) × (Option Addr)) × (Int × Int))) × H) → Option (((Sl × (((Option Addr) × (Option Addr)) × (Int × Int))) × H) ⊕ (Int × H)) := fun ((s, ((f, x0), (x1, x2))), h0) =>
  condK (decide ((x2 < x1))) (
    bindO (ixT 1 s x2) fun (a0 : Addr) =>
    bindO (ldI .i64 h0 a0) fun (x3 : Int) =>
    bind2 (order_Order_Late_1 x3 f x0 h0) fun (x4 : Bool) (h1 : H) =>
    condK x4 (
      some (Sum.inr (x2, h1))) (
      some (Sum.inl ((s, ((f, x0), (x1, (IntKind.wrap .i64 (x2 + 1))))), h1)))) (
    some (Sum.inr ((-1), h0)))

noncomputable def P.slices_IndexFunc_int_order_Order_Late_1 (order_Order_Late_1 : Int → Option Addr → Option Addr → H → Option ((Bool) × H)) (s : Sl) (f : Option Addr × Option Addr) (h : H) : Option (Int × H) :=
  loopO (P.slices_IndexFunc_int_order_Order_Late_1_l1 order_Order_Late_1) ((s, ((f.1, f.2), (((s.len : Nat) : Int), 0))), h)
noncomputable abbrev slices_IndexFunc_int_order_Order_Late_1_l1 := P.slices_IndexFunc_int_order_Order_Late_1_l1 order_Order_Late_1
noncomputable def slices_IndexFunc_int_order_Order_Late_1 : Sl → (Option Addr × Option Addr) → H → Option ((Int) × H) := P.slices_IndexFunc_int_order_Order_Late_1 order_Order_Late_1
noncomputable def ann_63c45 : Ann := ⟨fun _ => none, fun i => bif i.beq 2 then some ⟨[0, 1, 7, 8], [⟨false, [.sl]⟩, ⟨false, [.clo 45 2]⟩, ⟨false, [.int .i64]⟩, ⟨false, [.int .i64]⟩]⟩ else none, fun _ => none⟩
noncomputable def E_63c45 : Ent := ⟨63, [⟨false, [.sl]⟩, ⟨false, [.clo 45 2]⟩], [⟨false, [.int .i64]⟩], fun (x : Sl × ((Option Addr × Option Addr))) h => slices_IndexFunc_int_order_Order_Late_1 x.1 x.2 h⟩
theorem eq_63c45 (order_Order_Late_1 : Int → Option Addr → Option Addr → H → Option ((Bool) × H)) : (fun (x : PT E_63c45.ps) (h : H) => runFK Go.Proofs.YtlikepnpamejmaaGreat.Ov.D (lstK [⟨45, [⟨false, [.int .i64]⟩, ⟨false, [.ptr]⟩, ⟨false, [.ptr]⟩], [⟨false, [.bool]⟩], fun (x : Int × Option Addr × Option Addr) h => order_Order_Late_1 x.1 x.2.1 x.2.2 h⟩]) ann_63c45 Tryz.f63 (Tryz.f63.body.getD .skip) E_63c45.ys (encP E_63c45.ps x) h) = (fun (x : Sl × ((Option Addr × Option Addr))) h => P.slices_IndexFunc_int_order_Order_Late_1 order_Order_Late_1 x.1 x.2 h) := by kernel_rfl
theorem ok_63c45 : E_63c45.ok Go.Proofs.YtlikepnpamejmaaGreat.Ov.D := fun x h y h' e => runFK_ok (lstK_ok [E_45] (List.forall_mem_cons.2 ⟨ok_45, fun E h => nomatch h⟩)) (A := ann_63c45) (by kernel_rfl) (show Go.Proofs.YtlikepnpamejmaaGreat.Ov.D.fn.get 63 = some Tryz.f63 by kernel_rfl) (show Tryz.f63.body = some (Tryz.f63.body.getD .skip) by kernel_rfl) ((congrFun (congrFun (eq_63c45 order_Order_Late_1) x) h).trans e)
/-! slices_DeleteFunc_int_order_Order_Late_1 -/
noncomputable def P.slices_DeleteFunc_int_order_Order_Late_1_l1 (slices_IndexFunc_int_order_Order_Late_1 : Sl → (Option Addr × Option Addr) → H → Option ((Int) × H)) (order_Order_Late_1 : Int → Option Addr → Option Addr → H → Option ((Bool) × H)) : ((Sl × (((Option Addr) × (Option Addr)) × (Int × Int))) × H) → Option (((Sl × (((Option Addr) × (Option Addr)) × (Int × Int))) × H) ⊕ (((Sl × Int) × H) ⊕ (Sl × H))) := fun ((s, ((del, i), (j, x0))), h0) =>
  condK (decide ((x0 < ((s.len : Nat) : Int)))) (
    joinO (
      bindO (ixT 1 s x0) fun (a0 : Addr) =>
      bindO (ldI .i64 h0 a0) fun (x1 : Int) =>
      bind2 (order_Order_Late_1 x1 del i h0) fun (x2 : Bool) (h1 : H) =>
      condK (!x2) (
        bindO (ixT 1 s j) fun (a1 : Addr) =>
        bindO (st1 h1 a1 (.int .i64 x1)) fun (h2 : H) =>
        some (Sum.inl ((s, ((del, i), ((IntKind.wrap .i64 (j + 1)), x0))), h2))) (
        some (Sum.inl ((s, ((del, i), (j, x0))), h1)))) fun (((s1, ((del1, i1), (j1, x1))), h1) : ((Sl × (((Option Addr) × (Option Addr)) × (Int × Int))) × H)) =>
    some (Sum.inl ((s1, ((del1, i1), (j1, (IntKind.wrap .i64 (x1 + 1))))), h1))) (
    some (Sum.inr (Sum.inl ((s, j), h0))))

noncomputable def P.slices_DeleteFunc_int_order_Order_Late_1 (slices_IndexFunc_int_order_Order_Late_1 : Sl → (Option Addr × Option Addr) → H → Option ((Int) × H)) (order_Order_Late_1 : Int → Option Addr → Option Addr → H → Option ((Bool) × H)) (s : Sl) (del : Option Addr × Option Addr) (h : H) : Option (Sl × H) :=
  bind2 (slices_IndexFunc_int_order_Order_Late_1 s (del.1, del.2) h) fun (x0 : Int) (h0 : H) =>
  condK (x0 == (-1)) (
    some (s, h0)) (
    joinO (
      loopO (P.slices_DeleteFunc_int_order_Order_Late_1_l1 slices_IndexFunc_int_order_Order_Late_1 order_Order_Late_1) ((s, ((del.1, del.2), (x0, (IntKind.wrap .i64 (x0 + 1))))), h0)) fun (((s1, i), h1) : ((Sl × Int) × H)) =>
    bindO (slT 1 h1 s1 (some i) none none) fun (x1 : Sl) =>
    bindO (clrT 1 (.int .i64 0) h1 x1) fun (h2 : H) =>
    bindO (slT 1 h2 s1 none (some i) none) fun (x2 : Sl) =>
    some (x2, h2))
noncomputable abbrev slices_DeleteFunc_int_order_Order_Late_1_l1 := P.slices_DeleteFunc_int_order_Order_Late_1_l1 slices_IndexFunc_int_order_Order_Late_1 order_Order_Late_1
noncomputable def slices_DeleteFunc_int_order_Order_Late_1 : Sl → (Option Addr × Option Addr) → H → Option ((Sl) × H) := P.slices_DeleteFunc_int_order_Order_Late_1 slices_IndexFunc_int_order_Order_Late_1 order_Order_Late_1
noncomputable def ann_44c45 : Ann := ⟨fun i => bif i.beq 6 then some ⟨[0, 1, 5, 6], [⟨false, [.sl]⟩, ⟨false, [.clo 45 2]⟩, ⟨false, [.int .i64]⟩, ⟨false, [.int .i64]⟩]⟩ else bif i.beq 11 then some ⟨[0, 5], [⟨false, [.sl]⟩, ⟨false, [.int .i64]⟩]⟩ else none, fun i => bif i.beq 5 then some ⟨[0, 1, 5, 6], [⟨false, [.sl]⟩, ⟨false, [.clo 45 2]⟩, ⟨false, [.int .i64]⟩, ⟨false, [.int .i64]⟩]⟩ else none, fun _ => none⟩
noncomputable def E_44c45 : Ent := ⟨44, [⟨false, [.sl]⟩, ⟨false, [.clo 45 2]⟩], [⟨false, [.sl]⟩], fun (x : Sl × ((Option Addr × Option Addr))) h => slices_DeleteFunc_int_order_Order_Late_1 x.1 x.2 h⟩
theorem eq_44c45 (slices_IndexFunc_int_order_Order_Late_1 : Sl → (Option Addr × Option Addr) → H → Option ((Int) × H)) (order_Order_Late_1 : Int → Option Addr → Option Addr → H → Option ((Bool) × H)) : (fun (x : PT E_44c45.ps) (h : H) => runFK Go.Proofs.YtlikepnpamejmaaGreat.Ov.D (lstK [⟨63, [⟨false, [.sl]⟩, ⟨false, [.clo 45 2]⟩], [⟨false, [.int .i64]⟩], fun (x : Sl × ((Option Addr × Option Addr))) h => slices_IndexFunc_int_order_Order_Late_1 x.1 x.2 h⟩, ⟨45, [⟨false, [.int .i64]⟩, ⟨false, [.ptr]⟩, ⟨false, [.ptr]⟩], [⟨false, [.bool]⟩], fun (x : Int × Option Addr × Option Addr) h => order_Order_Late_1 x.1 x.2.1 x.2.2 h⟩]) ann_44c45 Tryz.f44 (Tryz.f44.body.getD .skip) E_44c45.ys (encP E_44c45.ps x) h) = (fun (x : Sl × ((Option Addr × Option Addr))) h => P.slices_DeleteFunc_int_order_Order_Late_1 slices_IndexFunc_int_order_Order_Late_1 order_Order_Late_1 x.1 x.2 h) := by kernel_rfl
theorem ok_44c45 : E_44c45.ok Go.Proofs.YtlikepnpamejmaaGreat.Ov.D := fun x h y h' e => runFK_ok (lstK_ok [E_63c45, E_45] (List.forall_mem_cons.2 ⟨ok_63c45, List.forall_mem_cons.2 ⟨ok_45, fun E h => nomatch h⟩⟩)) (A := ann_44c45) (by kernel_rfl) (show Go.Proofs.YtlikepnpamejmaaGreat.Ov.D.fn.get 44 = some Tryz.f44 by kernel_rfl) (show Tryz.f44.body = some (Tryz.f44.body.getD .skip) by kernel_rfl) ((congrFun (congrFun (eq_44c45 slices_IndexFunc_int_order_Order_Late_1 order_Order_Late_1) x) h).trans e)
/-! order_Order_Late -/
noncomputable def P.order_Order_Late (order_Order_All : Option Addr → H → Option ((Sl) × H)) (slices_DeleteFunc_int_order_Order_Late_1 : Sl → (Option Addr × Option Addr) → H → Option ((Sl) × H)) (slices_Clip_int : Sl → H → Option ((Sl) × H)) (o : Option Addr) (now : Int) (h : H) : Option (Sl × H) :=
  newO (row 56 [(.pointer o)]) h fun (b : Nat) (h0 : H) =>
  newO (row 3 [(.int .i64 now)]) h0 fun (b1 : Nat) (h1 : H) =>
  bindO (ldP h1 (⟨b, 0, (some 0)⟩ : Addr)) fun (x0 : Option Addr) =>
  bind2 (order_Order_All x0 h1) fun (x1 : Sl) (h2 : H) =>
  bind2 (slices_DeleteFunc_int_order_Order_Late_1 x1 ((some (⟨b, 0, (some 0)⟩ : Addr)), (some (⟨b1, 0, (some 0)⟩ : Addr))) h2) fun (x2 : Sl) (h3 : H) =>
  bind2 (slices_Clip_int x2 h3) fun (x3 : Sl) (h4 : H) =>
  some (x3, h4)
noncomputable def order_Order_Late : Option Addr → Int → H → Option ((Sl) × H) := P.order_Order_Late order_Order_All slices_DeleteFunc_int_order_Order_Late_1 slices_Clip_int
noncomputable def ann_29 : Ann := ⟨fun _ => none, fun _ => none, fun _ => none⟩
noncomputable def E_29 : Ent := ⟨29, [⟨false, [.ptr]⟩, ⟨false, [.int .i64]⟩], [⟨false, [.sl]⟩], fun (x : Option Addr × Int) h => order_Order_Late x.1 x.2 h⟩
theorem eq_29 (order_Order_All : Option Addr → H → Option ((Sl) × H)) (slices_DeleteFunc_int_order_Order_Late_1 : Sl → (Option Addr × Option Addr) → H → Option ((Sl) × H)) (slices_Clip_int : Sl → H → Option ((Sl) × H)) : (fun (x : PT E_29.ps) (h : H) => runFK Go.Proofs.YtlikepnpamejmaaGreat.Ov.D (lstK [⟨9, [⟨false, [.ptr]⟩], [⟨false, [.sl]⟩], fun (x : Option Addr) h => order_Order_All x h⟩, ⟨44, [⟨false, [.sl]⟩, ⟨false, [.clo 45 2]⟩], [⟨false, [.sl]⟩], fun (x : Sl × ((Option Addr × Option Addr))) h => slices_DeleteFunc_int_order_Order_Late_1 x.1 x.2 h⟩, ⟨15, [⟨false, [.sl]⟩], [⟨false, [.sl]⟩], fun (x : Sl) h => slices_Clip_int x h⟩]) ann_29 Tryz.f29 (Tryz.f29.body.getD .skip) E_29.ys (encP E_29.ps x) h) = (fun (x : Option Addr × Int) h => P.order_Order_Late order_Order_All slices_DeleteFunc_int_order_Order_Late_1 slices_Clip_int x.1 x.2 h) := by kernel_rfl
theorem ok_29 : E_29.ok Go.Proofs.YtlikepnpamejmaaGreat.Ov.D := fun x h y h' e => runFK_ok (lstK_ok [E_9, E_44c45, E_15] (List.forall_mem_cons.2 ⟨ok_9, List.forall_mem_cons.2 ⟨ok_44c45, List.forall_mem_cons.2 ⟨ok_15, fun E h => nomatch h⟩⟩⟩)) (A := ann_29) (by kernel_rfl) (show Go.Proofs.YtlikepnpamejmaaGreat.Ov.D.fn.get 29 = some Tryz.f29 by kernel_rfl) (show Tryz.f29.body = some (Tryz.f29.body.getD .skip) by kernel_rfl) ((congrFun (congrFun (eq_29 order_Order_All slices_DeleteFunc_int_order_Order_Late_1 slices_Clip_int) x) h).trans e)
/-! outbox_message_streamed (not come to) -/
noncomputable def outbox_message_streamed : Option Addr → Option Addr → H → Option ((Unit) × H) := fun _ _ _ => none
noncomputable def E_31 : Ent := ⟨31, [⟨false, [.ptr]⟩, ⟨false, [.ptr]⟩], [], fun (x : Option Addr × Option Addr) h => outbox_message_streamed x.1 x.2 h⟩
theorem ok_31 : E_31.ok Go.Proofs.YtlikepnpamejmaaGreat.Ov.D := fun x h y h' e => nomatch (show (none : Option _) = some (y, h') from e)
/-! outbox_message_pieces (not come to) -/
noncomputable def outbox_message_pieces : Option Addr → Option Addr → H → Option ((Bool) × H) := fun _ _ _ => none
noncomputable def E_32 : Ent := ⟨32, [⟨false, [.ptr]⟩, ⟨false, [.ptr]⟩], [⟨false, [.bool]⟩], fun (x : Option Addr × Option Addr) h => outbox_message_pieces x.1 x.2 h⟩
theorem ok_32 : E_32.ok Go.Proofs.YtlikepnpamejmaaGreat.Ov.D := fun x h y h' e => nomatch (show (none : Option _) = some (y, h') from e)
/-! slices_Clip_api_Event_api_Event -/
noncomputable def slices_Clip_api_Event_api_Event (s : Sl) (h : H) : Option (Sl × H) :=
  bindO (slT 4 h s none (some ((s.len : Nat) : Int)) (some ((s.len : Nat) : Int))) fun (x0 : Sl) =>
  some (x0, h)
noncomputable def ann_33 : Ann := ⟨fun _ => none, fun _ => none, fun _ => none⟩
noncomputable def E_33 : Ent := ⟨33, [⟨false, [.sl]⟩], [⟨false, [.sl]⟩], fun (x : Sl) h => slices_Clip_api_Event_api_Event x h⟩
theorem eq_33  : (fun (x : PT E_33.ps) (h : H) => runFK Go.Proofs.YtlikepnpamejmaaGreat.Ov.D (lstK []) ann_33 Tryz.f33 (Tryz.f33.body.getD .skip) E_33.ys (encP E_33.ps x) h) = (fun (x : Sl) h => slices_Clip_api_Event_api_Event x h) := by kernel_rfl
theorem ok_33 : E_33.ok Go.Proofs.YtlikepnpamejmaaGreat.Ov.D := fun x h y h' e => runFK_ok (lstK_ok [] (fun E h => nomatch h)) (A := ann_33) (by kernel_rfl) (show Go.Proofs.YtlikepnpamejmaaGreat.Ov.D.fn.get 33 = some Tryz.f33 by kernel_rfl) (show Tryz.f33.body = some (Tryz.f33.body.getD .skip) by kernel_rfl) ((congrFun (congrFun (eq_33 ) x) h).trans e)
/-! outbox_Box_Drive -/
noncomputable def P.outbox_Box_Drive_l3 (conn_Conn_Drop : Option Addr → Sl → H → Option ((Int) × H)) (conn_Conn_Notes : Option Addr → H → Option ((Sl × Sl) × H)) (outbox_Box_lost : Option Addr → Int → Int → Option Addr → H → Option ((Sl) × H)) (order_Order_Late : Option Addr → Int → H → Option ((Sl) × H)) (outbox_Box_expires : Option Addr → Int → Int → Option Addr → H → Option (((Int × Int × Int × ByteArray)) × H)) (order_Order_All : Option Addr → H → Option ((Sl) × H)) (outbox_message_streamed : Option Addr → Option Addr → H → Option ((Unit) × H)) (outbox_message_pieces : Option Addr → Option Addr → H → Option ((Bool) × H)) (slices_Clip_api_Event_api_Event : Sl → H → Option ((Sl) × H)) : (((Option Addr) × ((Option Addr) × (Sl × (Sl × (Int × Int))))) × H) → Option ((((Option Addr) × ((Option Addr) × (Sl × (Sl × (Int × Int))))) × H) ⊕ ((Sl × H) ⊕ (Sl × H))) := fun ((b, (c, (out, (x0, (x1, x2))))), h0) =>
  condK (decide ((x2 < x1))) (
    joinO (
      bindO (ixT 1 x0 x2) fun (a0 : Addr) =>
      bindO (ldI .i64 h0 a0) fun (x3 : Int) =>
      ptrK b fun (a1 : Addr) =>
      bindO (ldL h0 (add a1 1)) fun (x4 : Sl) =>
      bindO (ixT 1 x4 x3) fun (a2 : Addr) =>
      bindO (ldP h0 a2) fun (x5 : Option Addr) =>
      ptrK x5 fun (a3 : Addr) =>
      bindO (ldI .i64 h0 (add a3 6)) fun (x6 : Int) =>
      condK (x6 == 1) (
        bind2 (outbox_message_streamed x5 c h0) fun (_ : Unit) (h1 : H) =>
        some (Sum.inl ((b, (c, (out, (x0, (x1, x2))))), h1))) (
        bind2 (outbox_message_pieces x5 c h0) fun (x7 : Bool) (h2 : H) =>
        condK (!x7) (
          some (Sum.inr (Sum.inr (Sum.inl (out, h2))))) (
          some (Sum.inl ((b, (c, (out, (x0, (x1, x2))))), h2))))) fun (((b1, (c1, (out1, (x3, (x4, x5))))), h1) : (((Option Addr) × ((Option Addr) × (Sl × (Sl × (Int × Int))))) × H)) =>
    some (Sum.inl ((b1, (c1, (out1, (x3, (x4, (IntKind.wrap .i64 (x5 + 1))))))), h1))) (
    some (Sum.inr (Sum.inl (out, h0))))

noncomputable def P.outbox_Box_Drive_l2 (conn_Conn_Drop : Option Addr → Sl → H → Option ((Int) × H)) (conn_Conn_Notes : Option Addr → H → Option ((Sl × Sl) × H)) (outbox_Box_lost : Option Addr → Int → Int → Option Addr → H → Option ((Sl) × H)) (order_Order_Late : Option Addr → Int → H → Option ((Sl) × H)) (outbox_Box_expires : Option Addr → Int → Int → Option Addr → H → Option (((Int × Int × Int × ByteArray)) × H)) (order_Order_All : Option Addr → H → Option ((Sl) × H)) (outbox_message_streamed : Option Addr → Option Addr → H → Option ((Unit) × H)) (outbox_message_pieces : Option Addr → Option Addr → H → Option ((Bool) × H)) (slices_Clip_api_Event_api_Event : Sl → H → Option ((Sl) × H)) : (((Option Addr) × (Int × ((Option Addr) × (Sl × (Sl × (Int × Int)))))) × H) → Option ((((Option Addr) × (Int × ((Option Addr) × (Sl × (Sl × (Int × Int)))))) × H) ⊕ ((((Option Addr) × ((Option Addr) × Sl)) × H) ⊕ (Sl × H))) := fun ((b, (now, (c, (out, (x0, (x1, x2)))))), h0) =>
  condK (decide ((x2 < x1))) (
    bindO (ixT 1 x0 x2) fun (a0 : Addr) =>
    bindO (ldI .i64 h0 a0) fun (x3 : Int) =>
    bind2 (outbox_Box_expires b now x3 c h0) fun ((x4, x5, x6, x7) : Int × Int × Int × ByteArray) (h1 : H) =>
    newO (row 46 [(.int .i64 x4), (.int .i64 x5), (.int .i64 x6), (.string x7)]) h1 fun (b1 : Nat) (h2 : H) =>
    bind2 (appT 46 4 40 h2 out (⟨(some (⟨b1, 0, (some 0)⟩ : Addr)), 1, 1⟩ : Sl)) fun (x8 : Sl) (h3 : H) =>
    some (Sum.inl ((b, (now, (c, (x8, (x0, (x1, (IntKind.wrap .i64 (x2 + 1)))))))), h3))) (
    some (Sum.inr (Sum.inl ((b, (c, out)), h0))))

noncomputable def P.outbox_Box_Drive_l1 (conn_Conn_Drop : Option Addr → Sl → H → Option ((Int) × H)) (conn_Conn_Notes : Option Addr → H → Option ((Sl × Sl) × H)) (outbox_Box_lost : Option Addr → Int → Int → Option Addr → H → Option ((Sl) × H)) (order_Order_Late : Option Addr → Int → H → Option ((Sl) × H)) (outbox_Box_expires : Option Addr → Int → Int → Option Addr → H → Option (((Int × Int × Int × ByteArray)) × H)) (order_Order_All : Option Addr → H → Option ((Sl) × H)) (outbox_message_streamed : Option Addr → Option Addr → H → Option ((Unit) × H)) (outbox_message_pieces : Option Addr → Option Addr → H → Option ((Bool) × H)) (slices_Clip_api_Event_api_Event : Sl → H → Option ((Sl) × H)) : (((Option Addr) × (Int × ((Option Addr) × (Sl × (Sl × (Int × Int)))))) × H) → Option ((((Option Addr) × (Int × ((Option Addr) × (Sl × (Sl × (Int × Int)))))) × H) ⊕ ((((Option Addr) × (Int × ((Option Addr) × Sl))) × H) ⊕ (Sl × H))) := fun ((b, (now, (c, (out, (x0, (x1, x2)))))), h0) =>
  condK (decide ((x2 < x1))) (
    bindO (ixT 1 x0 x2) fun (a0 : Addr) =>
    bindO (ldI .i64 h0 a0) fun (x3 : Int) =>
    bind2 (outbox_Box_lost b now x3 c h0) fun (x4 : Sl) (h1 : H) =>
    bind2 (appT 46 4 40 h1 out x4) fun (x5 : Sl) (h2 : H) =>
    some (Sum.inl ((b, (now, (c, (x5, (x0, (x1, (IntKind.wrap .i64 (x2 + 1)))))))), h2))) (
    some (Sum.inr (Sum.inl ((b, (now, (c, out))), h0))))

noncomputable def P.outbox_Box_Drive (conn_Conn_Drop : Option Addr → Sl → H → Option ((Int) × H)) (conn_Conn_Notes : Option Addr → H → Option ((Sl × Sl) × H)) (outbox_Box_lost : Option Addr → Int → Int → Option Addr → H → Option ((Sl) × H)) (order_Order_Late : Option Addr → Int → H → Option ((Sl) × H)) (outbox_Box_expires : Option Addr → Int → Int → Option Addr → H → Option (((Int × Int × Int × ByteArray)) × H)) (order_Order_All : Option Addr → H → Option ((Sl) × H)) (outbox_message_streamed : Option Addr → Option Addr → H → Option ((Unit) × H)) (outbox_message_pieces : Option Addr → Option Addr → H → Option ((Bool) × H)) (slices_Clip_api_Event_api_Event : Sl → H → Option ((Sl) × H)) (b : Option Addr) (now : Int) (c : Option Addr) (h : H) : Option (Sl × H) :=
  ptrK b fun (a0 : Addr) =>
  bindO (ldL h (add a0 2)) fun (x0 : Sl) =>
  bind2 (conn_Conn_Drop c x0 h) fun (x1 : Int) (h0 : H) =>
  ptrK b fun (a1 : Addr) =>
  bindO (st1 h0 (add a1 2) (.slice none 0 0)) fun (h1 : H) =>
  bind2 (conn_Conn_Notes c h1) fun ((x2, x3) : Sl × Sl) (h2 : H) =>
  joinO (
    loopO (P.outbox_Box_Drive_l1 conn_Conn_Drop conn_Conn_Notes outbox_Box_lost order_Order_Late outbox_Box_expires order_Order_All outbox_message_streamed outbox_message_pieces slices_Clip_api_Event_api_Event) ((b, (now, (c, ((⟨none, 0, 0⟩ : Sl), (x3, (((x3.len : Nat) : Int), 0)))))), h2)) fun (((b1, (now1, (c1, out))), h3) : (((Option Addr) × (Int × ((Option Addr) × Sl))) × H)) =>
  joinO (
    ptrK b1 fun (a2 : Addr) =>
    bind2 (order_Order_Late (some (add a2 0)) now1 h3) fun (x4 : Sl) (h4 : H) =>
    loopO (P.outbox_Box_Drive_l2 conn_Conn_Drop conn_Conn_Notes outbox_Box_lost order_Order_Late outbox_Box_expires order_Order_All outbox_message_streamed outbox_message_pieces slices_Clip_api_Event_api_Event) ((b1, (now1, (c1, (out, (x4, (((x4.len : Nat) : Int), 0)))))), h4)) fun (((b2, (c2, out1)), h4) : (((Option Addr) × ((Option Addr) × Sl)) × H)) =>
  joinO (
    ptrK b2 fun (a2 : Addr) =>
    bind2 (order_Order_All (some (add a2 0)) h4) fun (x4 : Sl) (h5 : H) =>
    loopO (P.outbox_Box_Drive_l3 conn_Conn_Drop conn_Conn_Notes outbox_Box_lost order_Order_Late outbox_Box_expires order_Order_All outbox_message_streamed outbox_message_pieces slices_Clip_api_Event_api_Event) ((b2, (c2, (out1, (x4, (((x4.len : Nat) : Int), 0))))), h5)) fun ((out2, h5) : (Sl × H)) =>
  bind2 (slices_Clip_api_Event_api_Event out2 h5) fun (x4 : Sl) (h6 : H) =>
  some (x4, h6)
noncomputable abbrev outbox_Box_Drive_l3 := P.outbox_Box_Drive_l3 conn_Conn_Drop conn_Conn_Notes outbox_Box_lost order_Order_Late outbox_Box_expires order_Order_All outbox_message_streamed outbox_message_pieces slices_Clip_api_Event_api_Event
noncomputable abbrev outbox_Box_Drive_l2 := P.outbox_Box_Drive_l2 conn_Conn_Drop conn_Conn_Notes outbox_Box_lost order_Order_Late outbox_Box_expires order_Order_All outbox_message_streamed outbox_message_pieces slices_Clip_api_Event_api_Event
noncomputable abbrev outbox_Box_Drive_l1 := P.outbox_Box_Drive_l1 conn_Conn_Drop conn_Conn_Notes outbox_Box_lost order_Order_Late outbox_Box_expires order_Order_All outbox_message_streamed outbox_message_pieces slices_Clip_api_Event_api_Event
noncomputable def outbox_Box_Drive : Option Addr → Int → Option Addr → H → Option ((Sl) × H) := P.outbox_Box_Drive conn_Conn_Drop conn_Conn_Notes outbox_Box_lost order_Order_Late outbox_Box_expires order_Order_All outbox_message_streamed outbox_message_pieces slices_Clip_api_Event_api_Event
noncomputable def ann_11 : Ann := ⟨fun i => bif i.beq 10 then some ⟨[0, 1, 2, 7], [⟨false, [.ptr]⟩, ⟨false, [.int .i64]⟩, ⟨false, [.ptr]⟩, ⟨false, [.sl]⟩]⟩ else bif i.beq 15 then some ⟨[0, 2, 7], [⟨false, [.ptr]⟩, ⟨false, [.ptr]⟩, ⟨false, [.sl]⟩]⟩ else bif i.beq 22 then some ⟨[0, 2, 7, 67, 68, 69], [⟨false, [.ptr]⟩, ⟨false, [.ptr]⟩, ⟨false, [.sl]⟩, ⟨false, [.sl]⟩, ⟨false, [.int .i64]⟩, ⟨false, [.int .i64]⟩]⟩ else bif i.beq 23 then some ⟨[7], [⟨false, [.sl]⟩]⟩ else none, fun i => bif i.beq 6 then some ⟨[0, 1, 2, 7, 31, 32, 33], [⟨false, [.ptr]⟩, ⟨false, [.int .i64]⟩, ⟨false, [.ptr]⟩, ⟨false, [.sl]⟩, ⟨false, [.sl]⟩, ⟨false, [.int .i64]⟩, ⟨false, [.int .i64]⟩]⟩ else bif i.beq 11 then some ⟨[0, 1, 2, 7, 49, 50, 51], [⟨false, [.ptr]⟩, ⟨false, [.int .i64]⟩, ⟨false, [.ptr]⟩, ⟨false, [.sl]⟩, ⟨false, [.sl]⟩, ⟨false, [.int .i64]⟩, ⟨false, [.int .i64]⟩]⟩ else bif i.beq 16 then some ⟨[0, 2, 7, 67, 68, 69], [⟨false, [.ptr]⟩, ⟨false, [.ptr]⟩, ⟨false, [.sl]⟩, ⟨false, [.sl]⟩, ⟨false, [.int .i64]⟩, ⟨false, [.int .i64]⟩]⟩ else none, fun _ => none⟩
noncomputable def E_11 : Ent := ⟨11, [⟨false, [.ptr]⟩, ⟨false, [.int .i64]⟩, ⟨false, [.ptr]⟩], [⟨false, [.sl]⟩], fun (x : Option Addr × Int × Option Addr) h => outbox_Box_Drive x.1 x.2.1 x.2.2 h⟩
theorem eq_11 (conn_Conn_Drop : Option Addr → Sl → H → Option ((Int) × H)) (conn_Conn_Notes : Option Addr → H → Option ((Sl × Sl) × H)) (outbox_Box_lost : Option Addr → Int → Int → Option Addr → H → Option ((Sl) × H)) (order_Order_Late : Option Addr → Int → H → Option ((Sl) × H)) (outbox_Box_expires : Option Addr → Int → Int → Option Addr → H → Option (((Int × Int × Int × ByteArray)) × H)) (order_Order_All : Option Addr → H → Option ((Sl) × H)) (outbox_message_streamed : Option Addr → Option Addr → H → Option ((Unit) × H)) (outbox_message_pieces : Option Addr → Option Addr → H → Option ((Bool) × H)) (slices_Clip_api_Event_api_Event : Sl → H → Option ((Sl) × H)) : (fun (x : PT E_11.ps) (h : H) => runFK Go.Proofs.YtlikepnpamejmaaGreat.Ov.D (lstK [⟨26, [⟨false, [.ptr]⟩, ⟨false, [.sl]⟩], [⟨false, [.int .i64]⟩], fun (x : Option Addr × Sl) h => conn_Conn_Drop x.1 x.2 h⟩, ⟨27, [⟨false, [.ptr]⟩], [⟨false, [.sl]⟩, ⟨false, [.sl]⟩], fun (x : Option Addr) h => conn_Conn_Notes x h⟩, ⟨28, [⟨false, [.ptr]⟩, ⟨false, [.int .i64]⟩, ⟨false, [.int .i64]⟩, ⟨false, [.ptr]⟩], [⟨false, [.sl]⟩], fun (x : Option Addr × Int × Int × Option Addr) h => outbox_Box_lost x.1 x.2.1 x.2.2.1 x.2.2.2 h⟩, ⟨29, [⟨false, [.ptr]⟩, ⟨false, [.int .i64]⟩], [⟨false, [.sl]⟩], fun (x : Option Addr × Int) h => order_Order_Late x.1 x.2 h⟩, ⟨30, [⟨false, [.ptr]⟩, ⟨false, [.int .i64]⟩, ⟨false, [.int .i64]⟩, ⟨false, [.ptr]⟩], [⟨true, [.int .i64, .int .i64, .int .i64, .str]⟩], fun (x : Option Addr × Int × Int × Option Addr) h => outbox_Box_expires x.1 x.2.1 x.2.2.1 x.2.2.2 h⟩, ⟨9, [⟨false, [.ptr]⟩], [⟨false, [.sl]⟩], fun (x : Option Addr) h => order_Order_All x h⟩, ⟨31, [⟨false, [.ptr]⟩, ⟨false, [.ptr]⟩], [], fun (x : Option Addr × Option Addr) h => outbox_message_streamed x.1 x.2 h⟩, ⟨32, [⟨false, [.ptr]⟩, ⟨false, [.ptr]⟩], [⟨false, [.bool]⟩], fun (x : Option Addr × Option Addr) h => outbox_message_pieces x.1 x.2 h⟩, ⟨33, [⟨false, [.sl]⟩], [⟨false, [.sl]⟩], fun (x : Sl) h => slices_Clip_api_Event_api_Event x h⟩]) ann_11 Tryz.f11 (Tryz.f11.body.getD .skip) E_11.ys (encP E_11.ps x) h) = (fun (x : Option Addr × Int × Option Addr) h => P.outbox_Box_Drive conn_Conn_Drop conn_Conn_Notes outbox_Box_lost order_Order_Late outbox_Box_expires order_Order_All outbox_message_streamed outbox_message_pieces slices_Clip_api_Event_api_Event x.1 x.2.1 x.2.2 h) := by kernel_rfl
theorem ok_11 : E_11.ok Go.Proofs.YtlikepnpamejmaaGreat.Ov.D := fun x h y h' e => runFK_ok (lstK_ok [E_26, E_27, E_28, E_29, E_30, E_9, E_31, E_32, E_33] (List.forall_mem_cons.2 ⟨ok_26, List.forall_mem_cons.2 ⟨ok_27, List.forall_mem_cons.2 ⟨ok_28, List.forall_mem_cons.2 ⟨ok_29, List.forall_mem_cons.2 ⟨ok_30, List.forall_mem_cons.2 ⟨ok_9, List.forall_mem_cons.2 ⟨ok_31, List.forall_mem_cons.2 ⟨ok_32, List.forall_mem_cons.2 ⟨ok_33, fun E h => nomatch h⟩⟩⟩⟩⟩⟩⟩⟩⟩)) (A := ann_11) (by kernel_rfl) (show Go.Proofs.YtlikepnpamejmaaGreat.Ov.D.fn.get 11 = some Tryz.f11 by kernel_rfl) (show Tryz.f11.body = some (Tryz.f11.body.getD .skip) by kernel_rfl) ((congrFun (congrFun (eq_11 conn_Conn_Drop conn_Conn_Notes outbox_Box_lost order_Order_Late outbox_Box_expires order_Order_All outbox_message_streamed outbox_message_pieces slices_Clip_api_Event_api_Event) x) h).trans e)
/-! outbox_Box_State -/
noncomputable def outbox_Box_State (b : Option Addr) (id : Int) (h : H) : Option (Int × H) :=
  joinO (
    condK (decide ((id < 0))) (
      some (Sum.inl ((b, (id, true)), h))) (
      ptrK b fun (a0 : Addr) =>
      bindO (ldL h (add a0 1)) fun (x0 : Sl) =>
      some (Sum.inl ((b, (id, (decide ((id ≥ ((x0.len : Nat) : Int)))))), h)))) fun (((b1, (id1, x0)), h0) : (((Option Addr) × (Int × Bool)) × H)) =>
  condK x0 (
    some ((-1), h0)) (
    ptrK b1 fun (a0 : Addr) =>
    bindO (ldL h0 (add a0 1)) fun (x1 : Sl) =>
    bindO (ixT 1 x1 id1) fun (a1 : Addr) =>
    bindO (ldP h0 a1) fun (x2 : Option Addr) =>
    ptrK x2 fun (a2 : Addr) =>
    bindO (ldI .i64 h0 (add a2 8)) fun (x3 : Int) =>
    some (x3, h0))
noncomputable def ann_8 : Ann := ⟨fun _ => none, fun _ => none, fun i => bif i.beq 1 then some ⟨[0, 1, 15], [⟨false, [.ptr]⟩, ⟨false, [.int .i64]⟩, ⟨false, [.bool]⟩]⟩ else none⟩
noncomputable def E_8 : Ent := ⟨8, [⟨false, [.ptr]⟩, ⟨false, [.int .i64]⟩], [⟨false, [.int .i64]⟩], fun (x : Option Addr × Int) h => outbox_Box_State x.1 x.2 h⟩
theorem eq_8  : (fun (x : PT E_8.ps) (h : H) => runFK Go.Proofs.YtlikepnpamejmaaGreat.Ov.D (lstK []) ann_8 Tryz.f8 (Tryz.f8.body.getD .skip) E_8.ys (encP E_8.ps x) h) = (fun (x : Option Addr × Int) h => outbox_Box_State x.1 x.2 h) := by kernel_rfl
theorem ok_8 : E_8.ok Go.Proofs.YtlikepnpamejmaaGreat.Ov.D := fun x h y h' e => runFK_ok (lstK_ok [] (fun E h => nomatch h)) (A := ann_8) (by kernel_rfl) (show Go.Proofs.YtlikepnpamejmaaGreat.Ov.D.fn.get 8 = some Tryz.f8 by kernel_rfl) (show Tryz.f8.body = some (Tryz.f8.body.getD .skip) by kernel_rfl) ((congrFun (congrFun (eq_8 ) x) h).trans e)
/-! law21_known -/
noncomputable def P.law21_known (outbox_New : H → Option ((Option Addr) × H)) (conn_New : Int → Int → Int → H → Option ((Option Addr) × H)) (outbox_Box_Submit : Option Addr → Int → Int → Int → Int → Sl → H → Option ((Int × Int) × H)) (outbox_Box_Drive : Option Addr → Int → Option Addr → H → Option ((Sl) × H)) (outbox_Box_State : Option Addr → Int → H → Option ((Int) × H)) (order_Order_All : Option Addr → H → Option ((Sl) × H))  (h : H) : Option (Bool × H) :=
  bind2 (outbox_New h) fun (x0 : Option Addr) (h0 : H) =>
  bind2 (conn_New 0 7 0 h0) fun (x1 : Option Addr) (h1 : H) =>
  joinO (
    bindO (eqPT x0 none) fun (x2 : Bool) =>
    condK x2 (
      some (Sum.inl ((x0, (x1, true)), h1))) (
      bindO (eqPT x1 none) fun (x3 : Bool) =>
      some (Sum.inl ((x0, (x1, x3)), h1)))) fun (((b, (c, x2)), h2) : (((Option Addr) × ((Option Addr) × Bool)) × H)) =>
  condK x2 (
    some (false, h2)) (
    newO (row 5 [(.int .u8 120)]) h2 fun (b1 : Nat) (h3 : H) =>
    bind2 (bbT h3 (⟨(some (⟨b1, 0, (some 0)⟩ : Addr)), 1, 1⟩ : Sl)) fun (x3 : Sl) (h4 : H) =>
    bind2 (outbox_Box_Submit b 1 0 0 3 x3 h4) fun ((x4, x5) : Int × Int) (h5 : H) =>
    bind2 (outbox_Box_Drive b 4 c h5) fun (x6 : Sl) (h6 : H) =>
    condK (x5 == 0) (
      condK (x4 == 0) (
        condK (((x6.len : Nat) : Int) == 1) (
          bindO (ixT 4 x6 0) fun (a0 : Addr) =>
          bindO (ldZ [.int .i64, .int .i64, .int .i64, .str] h6 a0) fun ((x7, x8, x9, x10) : Int × Int × Int × ByteArray) =>
          letO (((x7 == 4) && ((x8 == 0) && ((x9 == 4) && ((x10.toList == (⟨#[]⟩ : ByteArray).toList) && true))))) fun (x11 : Bool) =>
          condK x11 (
            bind2 (outbox_Box_State b 0 h6) fun (x12 : Int) (h7 : H) =>
            condK (x12 == 4) (
              bind2 (outbox_Box_State b 1 h7) fun (x13 : Int) (h8 : H) =>
              condK (x13 == (-1)) (
                ptrK b fun (a1 : Addr) =>
                bind2 (order_Order_All (some (add a1 0)) h8) fun (x14 : Sl) (h9 : H) =>
                some ((((x14.len : Nat) : Int) == 0), h9)) (
                some (false, h8))) (
              some (false, h7))) (
            some (false, h6))) (
          some (false, h6))) (
        some (false, h6))) (
      some (false, h6)))
noncomputable def law21_known : H → Option ((Bool) × H) := P.law21_known outbox_New conn_New outbox_Box_Submit outbox_Box_Drive outbox_Box_State order_Order_All
noncomputable def ann_5 : Ann := ⟨fun _ => none, fun _ => none, fun i => bif i.beq 3 then some ⟨[1, 2, 13], [⟨false, [.ptr]⟩, ⟨false, [.ptr]⟩, ⟨false, [.bool]⟩]⟩ else none⟩
noncomputable def E_5 : Ent := ⟨5, [], [⟨false, [.bool]⟩], fun (x : Unit) h => law21_known h⟩
theorem eq_5 (outbox_New : H → Option ((Option Addr) × H)) (conn_New : Int → Int → Int → H → Option ((Option Addr) × H)) (outbox_Box_Submit : Option Addr → Int → Int → Int → Int → Sl → H → Option ((Int × Int) × H)) (outbox_Box_Drive : Option Addr → Int → Option Addr → H → Option ((Sl) × H)) (outbox_Box_State : Option Addr → Int → H → Option ((Int) × H)) (order_Order_All : Option Addr → H → Option ((Sl) × H)) : (fun (x : PT E_5.ps) (h : H) => runFK Go.Proofs.YtlikepnpamejmaaGreat.Ov.D (lstK [⟨4, [], [⟨false, [.ptr]⟩], fun (x : Unit) h => outbox_New h⟩, ⟨10, [⟨false, [.int .i64]⟩, ⟨false, [.int .u64]⟩, ⟨false, [.int .i64]⟩], [⟨false, [.ptr]⟩], fun (x : Int × Int × Int) h => conn_New x.1 x.2.1 x.2.2 h⟩, ⟨7, [⟨false, [.ptr]⟩, ⟨false, [.int .i64]⟩, ⟨false, [.int .i64]⟩, ⟨false, [.int .i64]⟩, ⟨false, [.int .i64]⟩, ⟨false, [.sl]⟩], [⟨false, [.int .i64]⟩, ⟨false, [.int .i64]⟩], fun (x : Option Addr × Int × Int × Int × Int × Sl) h => outbox_Box_Submit x.1 x.2.1 x.2.2.1 x.2.2.2.1 x.2.2.2.2.1 x.2.2.2.2.2 h⟩, ⟨11, [⟨false, [.ptr]⟩, ⟨false, [.int .i64]⟩, ⟨false, [.ptr]⟩], [⟨false, [.sl]⟩], fun (x : Option Addr × Int × Option Addr) h => outbox_Box_Drive x.1 x.2.1 x.2.2 h⟩, ⟨8, [⟨false, [.ptr]⟩, ⟨false, [.int .i64]⟩], [⟨false, [.int .i64]⟩], fun (x : Option Addr × Int) h => outbox_Box_State x.1 x.2 h⟩, ⟨9, [⟨false, [.ptr]⟩], [⟨false, [.sl]⟩], fun (x : Option Addr) h => order_Order_All x h⟩]) ann_5 Tryz.f5 (Tryz.f5.body.getD .skip) E_5.ys (encP E_5.ps x) h) = (fun (x : Unit) h => P.law21_known outbox_New conn_New outbox_Box_Submit outbox_Box_Drive outbox_Box_State order_Order_All  h) := by kernel_rfl
theorem ok_5 : E_5.ok Go.Proofs.YtlikepnpamejmaaGreat.Ov.D := fun x h y h' e => runFK_ok (lstK_ok [E_4, E_10, E_7, E_11, E_8, E_9] (List.forall_mem_cons.2 ⟨ok_4, List.forall_mem_cons.2 ⟨ok_10, List.forall_mem_cons.2 ⟨ok_7, List.forall_mem_cons.2 ⟨ok_11, List.forall_mem_cons.2 ⟨ok_8, List.forall_mem_cons.2 ⟨ok_9, fun E h => nomatch h⟩⟩⟩⟩⟩⟩)) (A := ann_5) (by kernel_rfl) (show Go.Proofs.YtlikepnpamejmaaGreat.Ov.D.fn.get 5 = some Tryz.f5 by kernel_rfl) (show Tryz.f5.body = some (Tryz.f5.body.getD .skip) by kernel_rfl) ((congrFun (congrFun (eq_5 outbox_New conn_New outbox_Box_Submit outbox_Box_Drive outbox_Box_State order_Order_All) x) h).trans e)
/-! hand_Pick -/
noncomputable def hand_Pick (n : Int) (m : Int) (h : H) : Option (Int × H) :=
  bindO (remT .i64 n m) fun (x0 : Int) =>
  joinO (
    condK (decide ((x0 < 0))) (
      some (Sum.inl ((IntKind.wrap .i64 (x0 + m)), h))) (
      some (Sum.inl (x0, h)))) fun ((n1, h0) : (Int × H)) =>
  some (n1, h0)
noncomputable def ann_6 : Ann := ⟨fun i => bif i.beq 4 then some ⟨[0], [⟨false, [.int .i64]⟩]⟩ else none, fun _ => none, fun _ => none⟩
noncomputable def E_6 : Ent := ⟨6, [⟨false, [.int .i64]⟩, ⟨false, [.int .i64]⟩], [⟨false, [.int .i64]⟩], fun (x : Int × Int) h => hand_Pick x.1 x.2 h⟩
theorem eq_6  : (fun (x : PT E_6.ps) (h : H) => runFK Go.Proofs.YtlikepnpamejmaaGreat.Ov.D (lstK []) ann_6 Tryz.f6 (Tryz.f6.body.getD .skip) E_6.ys (encP E_6.ps x) h) = (fun (x : Int × Int) h => hand_Pick x.1 x.2 h) := by kernel_rfl
theorem ok_6 : E_6.ok Go.Proofs.YtlikepnpamejmaaGreat.Ov.D := fun x h y h' e => runFK_ok (lstK_ok [] (fun E h => nomatch h)) (A := ann_6) (by kernel_rfl) (show Go.Proofs.YtlikepnpamejmaaGreat.Ov.D.fn.get 6 = some Tryz.f6 by kernel_rfl) (show Tryz.f6.body = some (Tryz.f6.body.getD .skip) by kernel_rfl) ((congrFun (congrFun (eq_6 ) x) h).trans e)
/-! law21_OutRooms -/
noncomputable def P.law21_OutRooms_l1 (outbox_New : H → Option ((Option Addr) × H)) (law21_known : H → Option ((Bool) × H)) (hand_Pick : Int → Int → H → Option ((Int) × H)) (outbox_Box_Submit : Option Addr → Int → Int → Int → Int → Sl → H → Option ((Int × Int) × H)) (outbox_Box_State : Option Addr → Int → H → Option ((Int) × H)) (order_Order_All : Option Addr → H → Option ((Sl) × H)) : ((Sl × (Int × ((Option Addr) × (Int × Int)))) × H) → Option (((Sl × (Int × ((Option Addr) × (Int × Int)))) × H) ⊕ (Bool × H)) := fun ((l, (n, (b, (next, i)))), h0) =>
  bind2 (hand_Pick n 45 h0) fun (x0 : Int) (h1 : H) =>
  condK (decide ((i < (IntKind.wrap .i64 (((l.len : Nat) : Int) + x0))))) (
    joinO (
      condK (decide ((i < ((l.len : Nat) : Int)))) (
        bindO (ixT 1 l i) fun (a0 : Addr) =>
        bindO (ldI .i64 h1 a0) fun (x1 : Int) =>
        some (Sum.inl ((l, (n, (b, (next, (i, ((Int.tmod x1 3) == 0)))))), h1))) (
        some (Sum.inl ((l, (n, (b, (next, (i, false))))), h1)))) fun (((l1, (n1, (b1, (next1, (i1, bad))))), h2) : ((Sl × (Int × ((Option Addr) × (Int × (Int × Bool))))) × H)) =>
    newO (row 5 [(.int .u8 1)]) h2 fun (b2 : Nat) (h3 : H) =>
    joinO (
      condK bad (
        some (Sum.inl ((l1, (n1, (b1, (next1, (i1, (bad, (⟨none, 0, 0⟩ : Sl))))))), h3))) (
        some (Sum.inl ((l1, (n1, (b1, (next1, (i1, (bad, (⟨(some (⟨b2, 0, (some 0)⟩ : Addr)), 1, 1⟩ : Sl))))))), h3)))) fun (((l2, (n2, (b3, (next2, (i2, (bad1, p)))))), h4) : ((Sl × (Int × ((Option Addr) × (Int × (Int × (Bool × Sl)))))) × H)) =>
    bind2 (outbox_Box_Submit b3 5 0 0 9 p h4) fun ((x1, x2) : Int × Int) (h5 : H) =>
    joinO (
      condK bad1 (
        condK (x2 != 1) (
          some (Sum.inr (Sum.inr (false, h5)))) (
          some (Sum.inl ((l2, (n2, (b3, (next2, i2)))), h5)))) (
        condK (next2 == 40) (
          condK (x2 != 9) (
            some (Sum.inr (Sum.inr (false, h5)))) (
            some (Sum.inl ((l2, (n2, (b3, (next2, i2)))), h5)))) (
          joinO (
            condK (x2 != 0) (
              some (Sum.inl ((l2, (n2, (b3, (next2, (i2, true))))), h5))) (
              condK (x1 != next2) (
                some (Sum.inl ((l2, (n2, (b3, (next2, (i2, true))))), h5))) (
                bind2 (outbox_Box_State b3 x1 h5) fun (x3 : Int) (h6 : H) =>
                some (Sum.inl ((l2, (n2, (b3, (next2, (i2, (x3 != 0)))))), h6))))) fun (((l3, (n3, (b4, (next3, (i3, x3))))), h6) : ((Sl × (Int × ((Option Addr) × (Int × (Int × Bool))))) × H)) =>
          condK x3 (
            some (Sum.inr (Sum.inr (false, h6)))) (
            some (Sum.inl ((l3, (n3, (b4, ((IntKind.wrap .i64 (next3 + 1)), i3)))), h6)))))) fun (((l3, (n3, (b4, (next3, i3)))), h6) : ((Sl × (Int × ((Option Addr) × (Int × Int)))) × H)) =>
    joinO (
      bind2 (outbox_Box_State b4 next3 h6) fun (x3 : Int) (h7 : H) =>
      condK (x3 != (-1)) (
        some (Sum.inl ((l3, (n3, (b4, (next3, (i3, true))))), h7))) (
        ptrK b4 fun (a0 : Addr) =>
        bind2 (order_Order_All (some (add a0 0)) h7) fun (x4 : Sl) (h8 : H) =>
        some (Sum.inl ((l3, (n3, (b4, (next3, (i3, (((x4.len : Nat) : Int) != next3)))))), h8)))) fun (((l4, (n4, (b5, (next4, (i4, x3))))), h7) : ((Sl × (Int × ((Option Addr) × (Int × (Int × Bool))))) × H)) =>
    condK x3 (
      some (Sum.inr (false, h7))) (
      some (Sum.inl ((l4, (n4, (b5, (next4, (IntKind.wrap .i64 (i4 + 1)))))), h7)))) (
    some (Sum.inr (true, h1)))

noncomputable def P.law21_OutRooms (outbox_New : H → Option ((Option Addr) × H)) (law21_known : H → Option ((Bool) × H)) (hand_Pick : Int → Int → H → Option ((Int) × H)) (outbox_Box_Submit : Option Addr → Int → Int → Int → Int → Sl → H → Option ((Int × Int) × H)) (outbox_Box_State : Option Addr → Int → H → Option ((Int) × H)) (order_Order_All : Option Addr → H → Option ((Sl) × H)) (l : Sl) (n : Int) (h : H) : Option (Bool × H) :=
  bind2 (outbox_New h) fun (x0 : Option Addr) (h0 : H) =>
  joinO (
    bind2 (law21_known h0) fun (x1 : Bool) (h1 : H) =>
    condK (!x1) (
      some (Sum.inl ((l, (n, (x0, true))), h1))) (
      bindO (eqPT x0 none) fun (x2 : Bool) =>
      some (Sum.inl ((l, (n, (x0, x2))), h1)))) fun (((l1, (n1, (b, x1))), h1) : ((Sl × (Int × ((Option Addr) × Bool))) × H)) =>
  condK x1 (
    some (false, h1)) (
    loopO (P.law21_OutRooms_l1 outbox_New law21_known hand_Pick outbox_Box_Submit outbox_Box_State order_Order_All) ((l1, (n1, (b, (0, 0)))), h1))
noncomputable abbrev law21_OutRooms_l1 := P.law21_OutRooms_l1 outbox_New law21_known hand_Pick outbox_Box_Submit outbox_Box_State order_Order_All
noncomputable def law21_OutRooms : Sl → Int → H → Option ((Bool) × H) := P.law21_OutRooms outbox_New law21_known hand_Pick outbox_Box_Submit outbox_Box_State order_Order_All
noncomputable def ann_3 : Ann := ⟨fun i => bif i.beq 12 then some ⟨[0, 1, 5, 6, 7, 8, 9], [⟨false, [.sl]⟩, ⟨false, [.int .i64]⟩, ⟨false, [.ptr]⟩, ⟨false, [.int .i64]⟩, ⟨false, [.int .i64]⟩, ⟨false, [.bool]⟩, ⟨false, [.sl]⟩]⟩ else bif i.beq 22 then some ⟨[0, 1, 5, 6, 7], [⟨false, [.sl]⟩, ⟨false, [.int .i64]⟩, ⟨false, [.ptr]⟩, ⟨false, [.int .i64]⟩, ⟨false, [.int .i64]⟩]⟩ else none, fun i => bif i.beq 6 then some ⟨[0, 1, 5, 6, 7], [⟨false, [.sl]⟩, ⟨false, [.int .i64]⟩, ⟨false, [.ptr]⟩, ⟨false, [.int .i64]⟩, ⟨false, [.int .i64]⟩]⟩ else none, fun i => bif i.beq 2 then some ⟨[0, 1, 5, 18], [⟨false, [.sl]⟩, ⟨false, [.int .i64]⟩, ⟨false, [.ptr]⟩, ⟨false, [.bool]⟩]⟩ else bif i.beq 8 then some ⟨[0, 1, 5, 6, 7, 8], [⟨false, [.sl]⟩, ⟨false, [.int .i64]⟩, ⟨false, [.ptr]⟩, ⟨false, [.int .i64]⟩, ⟨false, [.int .i64]⟩, ⟨false, [.bool]⟩]⟩ else bif i.beq 13 then some ⟨[0, 1, 5, 6, 7, 60], [⟨false, [.sl]⟩, ⟨false, [.int .i64]⟩, ⟨false, [.ptr]⟩, ⟨false, [.int .i64]⟩, ⟨false, [.int .i64]⟩, ⟨false, [.bool]⟩]⟩ else bif i.beq 22 then some ⟨[0, 1, 5, 6, 7, 84], [⟨false, [.sl]⟩, ⟨false, [.int .i64]⟩, ⟨false, [.ptr]⟩, ⟨false, [.int .i64]⟩, ⟨false, [.int .i64]⟩, ⟨false, [.bool]⟩]⟩ else none⟩
noncomputable def E_3 : Ent := ⟨3, [⟨false, [.sl]⟩, ⟨false, [.int .i64]⟩], [⟨false, [.bool]⟩], fun (x : Sl × Int) h => law21_OutRooms x.1 x.2 h⟩
theorem eq_3 (outbox_New : H → Option ((Option Addr) × H)) (law21_known : H → Option ((Bool) × H)) (hand_Pick : Int → Int → H → Option ((Int) × H)) (outbox_Box_Submit : Option Addr → Int → Int → Int → Int → Sl → H → Option ((Int × Int) × H)) (outbox_Box_State : Option Addr → Int → H → Option ((Int) × H)) (order_Order_All : Option Addr → H → Option ((Sl) × H)) : (fun (x : PT E_3.ps) (h : H) => runFK Go.Proofs.YtlikepnpamejmaaGreat.Ov.D (lstK [⟨4, [], [⟨false, [.ptr]⟩], fun (x : Unit) h => outbox_New h⟩, ⟨5, [], [⟨false, [.bool]⟩], fun (x : Unit) h => law21_known h⟩, ⟨6, [⟨false, [.int .i64]⟩, ⟨false, [.int .i64]⟩], [⟨false, [.int .i64]⟩], fun (x : Int × Int) h => hand_Pick x.1 x.2 h⟩, ⟨7, [⟨false, [.ptr]⟩, ⟨false, [.int .i64]⟩, ⟨false, [.int .i64]⟩, ⟨false, [.int .i64]⟩, ⟨false, [.int .i64]⟩, ⟨false, [.sl]⟩], [⟨false, [.int .i64]⟩, ⟨false, [.int .i64]⟩], fun (x : Option Addr × Int × Int × Int × Int × Sl) h => outbox_Box_Submit x.1 x.2.1 x.2.2.1 x.2.2.2.1 x.2.2.2.2.1 x.2.2.2.2.2 h⟩, ⟨8, [⟨false, [.ptr]⟩, ⟨false, [.int .i64]⟩], [⟨false, [.int .i64]⟩], fun (x : Option Addr × Int) h => outbox_Box_State x.1 x.2 h⟩, ⟨9, [⟨false, [.ptr]⟩], [⟨false, [.sl]⟩], fun (x : Option Addr) h => order_Order_All x h⟩]) ann_3 Tryz.f3 (Tryz.f3.body.getD .skip) E_3.ys (encP E_3.ps x) h) = (fun (x : Sl × Int) h => P.law21_OutRooms outbox_New law21_known hand_Pick outbox_Box_Submit outbox_Box_State order_Order_All x.1 x.2 h) := by kernel_rfl
theorem ok_3 : E_3.ok Go.Proofs.YtlikepnpamejmaaGreat.Ov.D := fun x h y h' e => runFK_ok (lstK_ok [E_4, E_5, E_6, E_7, E_8, E_9] (List.forall_mem_cons.2 ⟨ok_4, List.forall_mem_cons.2 ⟨ok_5, List.forall_mem_cons.2 ⟨ok_6, List.forall_mem_cons.2 ⟨ok_7, List.forall_mem_cons.2 ⟨ok_8, List.forall_mem_cons.2 ⟨ok_9, fun E h => nomatch h⟩⟩⟩⟩⟩⟩)) (A := ann_3) (by kernel_rfl) (show Go.Proofs.YtlikepnpamejmaaGreat.Ov.D.fn.get 3 = some Tryz.f3 by kernel_rfl) (show Tryz.f3.body = some (Tryz.f3.body.getD .skip) by kernel_rfl) ((congrFun (congrFun (eq_3 outbox_New law21_known hand_Pick outbox_Box_Submit outbox_Box_State order_Order_All) x) h).trans e)
end Go.Proofs.YtlikepnpamejmaaGreat.T
