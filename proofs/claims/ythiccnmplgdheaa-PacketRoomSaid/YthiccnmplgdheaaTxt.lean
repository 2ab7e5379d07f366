/- The typed texts of the program's functions, printed by a program of this session (wip/KPrint.lean) out of the machine's own definitions; each is the machine's own run, by the kernel's reduction. -/
import Derived.Test.YthiccnmplgdheaaTxt0
import Derived.Test.YthiccnmplgdheaaAbsF
import Derived.Test.YthiccnmplgdheaaTab
import Derived.KernelRfl
set_option linter.unusedVariables false
set_option maxRecDepth 1000000
namespace Go.Proofs.Ythiccnmplgdheaa.T
open Go Go.Abs Go.Proofs
/-! ref1_names -/
noncomputable def ref1_names (kind : Int) (h : H) : Option ((Bool × Bool × Bool × Bool × Bool × Bool × Bool) × H) :=
  newO (row 179 [(.bool false), (.bool false), (.bool false), (.bool false), (.bool false), (.bool false), (.bool false)]) h fun (b : Nat) (h0 : H) =>
  joinO (
    condK (kind == 2) (
      bindO (ixAT 7 1 (⟨b, 0, (some 0)⟩ : Addr) 6) fun (a0 : Addr) =>
      bindO (st1 h0 a0 (.bool true)) fun (h1 : H) =>
      some (Sum.inl ((some (⟨b, 0, (some 0)⟩ : Addr)), h1))) (
      condK (kind == 3) (
        bindO (ixAT 7 1 (⟨b, 0, (some 0)⟩ : Addr) 0) fun (a1 : Addr) =>
        bindO (st1 h0 a1 (.bool true)) fun (h2 : H) =>
        bindO (ixAT 7 1 (⟨b, 0, (some 0)⟩ : Addr) 1) fun (a2 : Addr) =>
        bindO (st1 h2 a2 (.bool true)) fun (h3 : H) =>
        bindO (ixAT 7 1 (⟨b, 0, (some 0)⟩ : Addr) 4) fun (a3 : Addr) =>
        bindO (st1 h3 a3 (.bool true)) fun (h4 : H) =>
        bindO (ixAT 7 1 (⟨b, 0, (some 0)⟩ : Addr) 5) fun (a4 : Addr) =>
        bindO (st1 h4 a4 (.bool true)) fun (h5 : H) =>
        some (Sum.inl ((some (⟨b, 0, (some 0)⟩ : Addr)), h5))) (
        condK (kind == 4) (
          bindO (ixAT 7 1 (⟨b, 0, (some 0)⟩ : Addr) 0) fun (a5 : Addr) =>
          bindO (st1 h0 a5 (.bool true)) fun (h6 : H) =>
          bindO (ixAT 7 1 (⟨b, 0, (some 0)⟩ : Addr) 1) fun (a6 : Addr) =>
          bindO (st1 h6 a6 (.bool true)) fun (h7 : H) =>
          bindO (ixAT 7 1 (⟨b, 0, (some 0)⟩ : Addr) 2) fun (a7 : Addr) =>
          bindO (st1 h7 a7 (.bool true)) fun (h8 : H) =>
          bindO (ixAT 7 1 (⟨b, 0, (some 0)⟩ : Addr) 3) fun (a8 : Addr) =>
          bindO (st1 h8 a8 (.bool true)) fun (h9 : H) =>
          some (Sum.inl ((some (⟨b, 0, (some 0)⟩ : Addr)), h9))) (
          condK (kind == 5) (
            condK (kind == 5) (
              bindO (ixAT 7 1 (⟨b, 0, (some 0)⟩ : Addr) 0) fun (a9 : Addr) =>
              bindO (st1 h0 a9 (.bool true)) fun (h10 : H) =>
              bindO (ixAT 7 1 (⟨b, 0, (some 0)⟩ : Addr) 2) fun (a10 : Addr) =>
              bindO (st1 h10 a10 (.bool true)) fun (h11 : H) =>
              some (Sum.inl ((some (⟨b, 0, (some 0)⟩ : Addr)), h11))) (
              condK (kind == 6) (
                condK (kind == 6) (
                  bindO (ixAT 7 1 (⟨b, 0, (some 0)⟩ : Addr) 2) fun (a11 : Addr) =>
                  bindO (st1 h0 a11 (.bool true)) fun (h12 : H) =>
                  some (Sum.inl ((some (⟨b, 0, (some 0)⟩ : Addr)), h12))) (
                  condK (kind == 8) (
                    bindO (ixAT 7 1 (⟨b, 0, (some 0)⟩ : Addr) 2) fun (a12 : Addr) =>
                    bindO (st1 h0 a12 (.bool true)) fun (h13 : H) =>
                    bindO (ixAT 7 1 (⟨b, 0, (some 0)⟩ : Addr) 4) fun (a13 : Addr) =>
                    bindO (st1 h13 a13 (.bool true)) fun (h14 : H) =>
                    some (Sum.inl ((some (⟨b, 0, (some 0)⟩ : Addr)), h14))) (
                    condK (kind == 9) (
                      bindO (ixAT 7 1 (⟨b, 0, (some 0)⟩ : Addr) 5) fun (a14 : Addr) =>
                      bindO (st1 h0 a14 (.bool true)) fun (h15 : H) =>
                      some (Sum.inl ((some (⟨b, 0, (some 0)⟩ : Addr)), h15))) (
                      condK (kind == 10) (
                        condK (kind == 10) (
                          bindO (ixAT 7 1 (⟨b, 0, (some 0)⟩ : Addr) 0) fun (a15 : Addr) =>
                          bindO (st1 h0 a15 (.bool true)) fun (h16 : H) =>
                          some (Sum.inl ((some (⟨b, 0, (some 0)⟩ : Addr)), h16))) (
                          some (Sum.inl ((some (⟨b, 0, (some 0)⟩ : Addr)), h0)))) (
                        condK (kind == 11) (
                          bindO (ixAT 7 1 (⟨b, 0, (some 0)⟩ : Addr) 0) fun (a16 : Addr) =>
                          bindO (st1 h0 a16 (.bool true)) fun (h17 : H) =>
                          some (Sum.inl ((some (⟨b, 0, (some 0)⟩ : Addr)), h17))) (
                          some (Sum.inl ((some (⟨b, 0, (some 0)⟩ : Addr)), h0)))))))) (
                condK (kind == 12) (
                  bindO (ixAT 7 1 (⟨b, 0, (some 0)⟩ : Addr) 2) fun (a17 : Addr) =>
                  bindO (st1 h0 a17 (.bool true)) fun (h18 : H) =>
                  some (Sum.inl ((some (⟨b, 0, (some 0)⟩ : Addr)), h18))) (
                  condK (kind == 8) (
                    bindO (ixAT 7 1 (⟨b, 0, (some 0)⟩ : Addr) 2) fun (a18 : Addr) =>
                    bindO (st1 h0 a18 (.bool true)) fun (h19 : H) =>
                    bindO (ixAT 7 1 (⟨b, 0, (some 0)⟩ : Addr) 4) fun (a19 : Addr) =>
                    bindO (st1 h19 a19 (.bool true)) fun (h20 : H) =>
                    some (Sum.inl ((some (⟨b, 0, (some 0)⟩ : Addr)), h20))) (
                    condK (kind == 9) (
                      bindO (ixAT 7 1 (⟨b, 0, (some 0)⟩ : Addr) 5) fun (a20 : Addr) =>
                      bindO (st1 h0 a20 (.bool true)) fun (h21 : H) =>
                      some (Sum.inl ((some (⟨b, 0, (some 0)⟩ : Addr)), h21))) (
                      condK (kind == 10) (
                        condK (kind == 10) (
                          bindO (ixAT 7 1 (⟨b, 0, (some 0)⟩ : Addr) 0) fun (a21 : Addr) =>
                          bindO (st1 h0 a21 (.bool true)) fun (h22 : H) =>
                          some (Sum.inl ((some (⟨b, 0, (some 0)⟩ : Addr)), h22))) (
                          some (Sum.inl ((some (⟨b, 0, (some 0)⟩ : Addr)), h0)))) (
                        condK (kind == 11) (
                          bindO (ixAT 7 1 (⟨b, 0, (some 0)⟩ : Addr) 0) fun (a22 : Addr) =>
                          bindO (st1 h0 a22 (.bool true)) fun (h23 : H) =>
                          some (Sum.inl ((some (⟨b, 0, (some 0)⟩ : Addr)), h23))) (
                          some (Sum.inl ((some (⟨b, 0, (some 0)⟩ : Addr)), h0)))))))))) (
            condK (kind == 7) (
              bindO (ixAT 7 1 (⟨b, 0, (some 0)⟩ : Addr) 0) fun (a23 : Addr) =>
              bindO (st1 h0 a23 (.bool true)) fun (h24 : H) =>
              bindO (ixAT 7 1 (⟨b, 0, (some 0)⟩ : Addr) 2) fun (a24 : Addr) =>
              bindO (st1 h24 a24 (.bool true)) fun (h25 : H) =>
              some (Sum.inl ((some (⟨b, 0, (some 0)⟩ : Addr)), h25))) (
              condK (kind == 6) (
                condK (kind == 6) (
                  bindO (ixAT 7 1 (⟨b, 0, (some 0)⟩ : Addr) 2) fun (a25 : Addr) =>
                  bindO (st1 h0 a25 (.bool true)) fun (h26 : H) =>
                  some (Sum.inl ((some (⟨b, 0, (some 0)⟩ : Addr)), h26))) (
                  condK (kind == 8) (
                    bindO (ixAT 7 1 (⟨b, 0, (some 0)⟩ : Addr) 2) fun (a26 : Addr) =>
                    bindO (st1 h0 a26 (.bool true)) fun (h27 : H) =>
                    bindO (ixAT 7 1 (⟨b, 0, (some 0)⟩ : Addr) 4) fun (a27 : Addr) =>
                    bindO (st1 h27 a27 (.bool true)) fun (h28 : H) =>
                    some (Sum.inl ((some (⟨b, 0, (some 0)⟩ : Addr)), h28))) (
                    condK (kind == 9) (
                      bindO (ixAT 7 1 (⟨b, 0, (some 0)⟩ : Addr) 5) fun (a28 : Addr) =>
                      bindO (st1 h0 a28 (.bool true)) fun (h29 : H) =>
                      some (Sum.inl ((some (⟨b, 0, (some 0)⟩ : Addr)), h29))) (
                      condK (kind == 10) (
                        condK (kind == 10) (
                          bindO (ixAT 7 1 (⟨b, 0, (some 0)⟩ : Addr) 0) fun (a29 : Addr) =>
                          bindO (st1 h0 a29 (.bool true)) fun (h30 : H) =>
                          some (Sum.inl ((some (⟨b, 0, (some 0)⟩ : Addr)), h30))) (
                          some (Sum.inl ((some (⟨b, 0, (some 0)⟩ : Addr)), h0)))) (
                        condK (kind == 11) (
                          bindO (ixAT 7 1 (⟨b, 0, (some 0)⟩ : Addr) 0) fun (a30 : Addr) =>
                          bindO (st1 h0 a30 (.bool true)) fun (h31 : H) =>
                          some (Sum.inl ((some (⟨b, 0, (some 0)⟩ : Addr)), h31))) (
                          some (Sum.inl ((some (⟨b, 0, (some 0)⟩ : Addr)), h0)))))))) (
                condK (kind == 12) (
                  bindO (ixAT 7 1 (⟨b, 0, (some 0)⟩ : Addr) 2) fun (a31 : Addr) =>
                  bindO (st1 h0 a31 (.bool true)) fun (h32 : H) =>
                  some (Sum.inl ((some (⟨b, 0, (some 0)⟩ : Addr)), h32))) (
                  condK (kind == 8) (
                    bindO (ixAT 7 1 (⟨b, 0, (some 0)⟩ : Addr) 2) fun (a32 : Addr) =>
                    bindO (st1 h0 a32 (.bool true)) fun (h33 : H) =>
                    bindO (ixAT 7 1 (⟨b, 0, (some 0)⟩ : Addr) 4) fun (a33 : Addr) =>
                    bindO (st1 h33 a33 (.bool true)) fun (h34 : H) =>
                    some (Sum.inl ((some (⟨b, 0, (some 0)⟩ : Addr)), h34))) (
                    condK (kind == 9) (
                      bindO (ixAT 7 1 (⟨b, 0, (some 0)⟩ : Addr) 5) fun (a34 : Addr) =>
                      bindO (st1 h0 a34 (.bool true)) fun (h35 : H) =>
                      some (Sum.inl ((some (⟨b, 0, (some 0)⟩ : Addr)), h35))) (
                      condK (kind == 10) (
                        condK (kind == 10) (
                          bindO (ixAT 7 1 (⟨b, 0, (some 0)⟩ : Addr) 0) fun (a35 : Addr) =>
                          bindO (st1 h0 a35 (.bool true)) fun (h36 : H) =>
                          some (Sum.inl ((some (⟨b, 0, (some 0)⟩ : Addr)), h36))) (
                          some (Sum.inl ((some (⟨b, 0, (some 0)⟩ : Addr)), h0)))) (
                        condK (kind == 11) (
                          bindO (ixAT 7 1 (⟨b, 0, (some 0)⟩ : Addr) 0) fun (a36 : Addr) =>
                          bindO (st1 h0 a36 (.bool true)) fun (h37 : H) =>
                          some (Sum.inl ((some (⟨b, 0, (some 0)⟩ : Addr)), h37))) (
                          some (Sum.inl ((some (⟨b, 0, (some 0)⟩ : Addr)), h0)))))))))))))) fun ((l, h1) : ((Option Addr) × H)) =>
  ptrK l fun (a0 : Addr) =>
  bindO (ldZ [.bool, .bool, .bool, .bool, .bool, .bool, .bool] h1 a0) fun ((x0, x1, x2, x3, x4, x5, x6) : Bool × Bool × Bool × Bool × Bool × Bool × Bool) =>
  ptrK l fun (a1 : Addr) =>
  bindO (stZ [.bool, .bool, .bool, .bool, .bool, .bool, .bool] h1 a1 ((x0, x1, x2, x3, x4, x5, x6) : Bool × Bool × Bool × Bool × Bool × Bool × Bool)) fun (h2 : H) =>
  ptrK l fun (a2 : Addr) =>
  bindO (ldZ [.bool, .bool, .bool, .bool, .bool, .bool, .bool] h2 a2) fun ((x7, x8, x9, x10, x11, x12, x13) : Bool × Bool × Bool × Bool × Bool × Bool × Bool) =>
  some ((x7, (x8, (x9, (x10, (x11, (x12, x13)))))), h2)
noncomputable def ann_177 : Ann := ⟨fun i => bif i.beq 29 then some ⟨[2], [⟨false, [.ptr]⟩]⟩ else none, fun _ => none, fun _ => none⟩
noncomputable def E_177 : Ent := ⟨177, [⟨false, [.int .i64]⟩], [⟨true, [.bool, .bool, .bool, .bool, .bool, .bool, .bool]⟩], fun (x : Int) h => ref1_names x h⟩
theorem eq_177  : (fun (x : PT E_177.ps) (h : H) => runFK Go.Proofs.Ythiccnmplgdheaa.Tab.D (lstK []) ann_177 Try.f177 (Try.f177.body.getD .skip) E_177.ys (encP E_177.ps x) h) = (fun (x : Int) h => ref1_names x h) := by kernel_rfl
theorem ok_177 : E_177.ok Go.Proofs.Ythiccnmplgdheaa.Tab.D := fun x h y h' e => runFK_ok (lstK_ok [] (fun E h => nomatch h)) (A := ann_177) (by kernel_rfl) (show Go.Proofs.Ythiccnmplgdheaa.Tab.D.fn.get 177 = some Try.f177 by kernel_rfl) (show Try.f177.body = some (Try.f177.body.getD .skip) by kernel_rfl) ((congrFun (congrFun (eq_177 ) x) h).trans e)
/-! ref1_rightSpans -/
noncomputable def P.ref1_rightSpans_l1 (ref1_May : Int → H → Option ((Bool) × H)) : ((Sl × Int) × H) → Option (((Sl × Int) × H) ⊕ (Bool × H)) := fun ((l, i), h0) =>
  condK (decide ((i < ((l.len : Nat) : Int)))) (
    joinO (
      bindO (ixT 2 l i) fun (a0 : Addr) =>
      bindO (ixAT 2 1 a0 0) fun (a1 : Addr) =>
      bindO (ldI .i64 h0 a1) fun (x0 : Int) =>
      bind2 (ref1_May x0 h0) fun (x1 : Bool) (h1 : H) =>
      condK (!x1) (
        some (Sum.inl ((l, (i, true)), h1))) (
        bindO (ixT 2 l i) fun (a2 : Addr) =>
        bindO (ixAT 2 1 a2 1) fun (a3 : Addr) =>
        bindO (ldI .i64 h1 a3) fun (x2 : Int) =>
        bind2 (ref1_May x2 h1) fun (x3 : Bool) (h2 : H) =>
        condK (!x3) (
          some (Sum.inl ((l, (i, true)), h2))) (
          bindO (ixT 2 l i) fun (a4 : Addr) =>
          bindO (ixAT 2 1 a4 0) fun (a5 : Addr) =>
          bindO (ldI .i64 h2 a5) fun (x4 : Int) =>
          bindO (ixT 2 l i) fun (a6 : Addr) =>
          bindO (ixAT 2 1 a6 1) fun (a7 : Addr) =>
          bindO (ldI .i64 h2 a7) fun (x5 : Int) =>
          condK (decide ((x4 > x5))) (
            some (Sum.inl ((l, (i, true)), h2))) (
            condK (decide ((i > 0))) (
              bindO (ixT 2 l (IntKind.wrap .i64 (i - 1))) fun (a8 : Addr) =>
              bindO (ixAT 2 1 a8 0) fun (a9 : Addr) =>
              bindO (ldI .i64 h2 a9) fun (x6 : Int) =>
              bindO (ixT 2 l i) fun (a10 : Addr) =>
              bindO (ixAT 2 1 a10 1) fun (a11 : Addr) =>
              bindO (ldI .i64 h2 a11) fun (x7 : Int) =>
              some (Sum.inl ((l, (i, (decide (((IntKind.wrap .i64 (x6 - x7)) < 2))))), h2))) (
              some (Sum.inl ((l, (i, false)), h2))))))) fun (((l1, (i1, x0)), h1) : ((Sl × (Int × Bool)) × H)) =>
    condK x0 (
      some (Sum.inr (false, h1))) (
      some (Sum.inl ((l1, (IntKind.wrap .i64 (i1 + 1))), h1)))) (
    some (Sum.inr (true, h0)))

noncomputable def P.ref1_rightSpans (ref1_May : Int → H → Option ((Bool) × H)) (l : Sl) (h : H) : Option (Bool × H) :=
  joinO (
    condK (decide ((((l.len : Nat) : Int) < 1))) (
      some (Sum.inl ((l, true), h))) (
      some (Sum.inl ((l, (decide ((((l.len : Nat) : Int) > 8)))), h)))) fun (((l1, x0), h0) : ((Sl × Bool) × H)) =>
  condK x0 (
    some (false, h0)) (
    loopO (P.ref1_rightSpans_l1 ref1_May) ((l1, 0), h0))
noncomputable abbrev ref1_rightSpans_l1 := P.ref1_rightSpans_l1 ref1_May
noncomputable def ref1_rightSpans : Sl → H → Option ((Bool) × H) := P.ref1_rightSpans ref1_May
noncomputable def ann_178 : Ann := ⟨fun _ => none, fun i => bif i.beq 4 then some ⟨[0, 3], [⟨false, [.sl]⟩, ⟨false, [.int .i64]⟩]⟩ else none, fun i => bif i.beq 1 then some ⟨[0, 11], [⟨false, [.sl]⟩, ⟨false, [.bool]⟩]⟩ else bif i.beq 6 then some ⟨[0, 3, 65], [⟨false, [.sl]⟩, ⟨false, [.int .i64]⟩, ⟨false, [.bool]⟩]⟩ else none⟩
noncomputable def E_178 : Ent := ⟨178, [⟨false, [.sl]⟩], [⟨false, [.bool]⟩], fun (x : Sl) h => ref1_rightSpans x h⟩
theorem eq_178 (ref1_May : Int → H → Option ((Bool) × H)) : (fun (x : PT E_178.ps) (h : H) => runFK Go.Proofs.Ythiccnmplgdheaa.Tab.D (lstK [⟨103, [⟨false, [.int .i64]⟩], [⟨false, [.bool]⟩], fun (x : Int) h => ref1_May x h⟩]) ann_178 Try.f178 (Try.f178.body.getD .skip) E_178.ys (encP E_178.ps x) h) = (fun (x : Sl) h => P.ref1_rightSpans ref1_May x h) := by kernel_rfl
theorem ok_178 : E_178.ok Go.Proofs.Ythiccnmplgdheaa.Tab.D := fun x h y h' e => runFK_ok (lstK_ok [E_103] (List.forall_mem_cons.2 ⟨ok_103, fun E h => nomatch h⟩)) (A := ann_178) (by kernel_rfl) (show Go.Proofs.Ythiccnmplgdheaa.Tab.D.fn.get 178 = some Try.f178 by kernel_rfl) (show Try.f178.body = some (Try.f178.body.getD .skip) by kernel_rfl) ((congrFun (congrFun (eq_178 ref1_May) x) h).trans e)
/-! ref1_RightFrame -/
noncomputable def P.ref1_RightFrame (ref1_May : Int → H → Option ((Bool) × H)) (ref1_names : Int → H → Option (((Bool × Bool × Bool × Bool × Bool × Bool × Bool)) × H)) (ref1_rightSpans : Sl → H → Option ((Bool) × H)) (f : Int × Int × Int × Int × Int × Int × Bool × Sl × Sl) (h : H) : Option (Bool × H) :=
  newO (row 33 [(.int .i64 f.1), (.int .i64 f.2.1), (.int .i64 f.2.2.1), (.int .i64 f.2.2.2.1), (.int .i64 f.2.2.2.2.1), (.int .i64 f.2.2.2.2.2.1), (.bool f.2.2.2.2.2.2.1), (.slice f.2.2.2.2.2.2.2.1.base f.2.2.2.2.2.2.2.1.len f.2.2.2.2.2.2.2.1.cap), (.slice f.2.2.2.2.2.2.2.2.base f.2.2.2.2.2.2.2.2.len f.2.2.2.2.2.2.2.2.cap)]) h fun (b : Nat) (h0 : H) =>
  joinO (
    bindO (ldI .i64 h0 (add (⟨b, 0, (some 0)⟩ : Addr) 0)) fun (x0 : Int) =>
    condK (decide ((x0 < 1))) (
      some (Sum.inl (((some (⟨b, 0, (some 0)⟩ : Addr)), true), h0))) (
      bindO (ldI .i64 h0 (add (⟨b, 0, (some 0)⟩ : Addr) 0)) fun (x1 : Int) =>
      condK (decide ((x1 > 12))) (
        some (Sum.inl (((some (⟨b, 0, (some 0)⟩ : Addr)), true), h0))) (
        bindO (ldI .i64 h0 (add (⟨b, 0, (some 0)⟩ : Addr) 1)) fun (x2 : Int) =>
        bind2 (ref1_May x2 h0) fun (x3 : Bool) (h1 : H) =>
        condK (!x3) (
          some (Sum.inl (((some (⟨b, 0, (some 0)⟩ : Addr)), true), h1))) (
          bindO (ldI .i64 h1 (add (⟨b, 0, (some 0)⟩ : Addr) 2)) fun (x4 : Int) =>
          bind2 (ref1_May x4 h1) fun (x5 : Bool) (h2 : H) =>
          condK (!x5) (
            some (Sum.inl (((some (⟨b, 0, (some 0)⟩ : Addr)), true), h2))) (
            bindO (ldI .i64 h2 (add (⟨b, 0, (some 0)⟩ : Addr) 3)) fun (x6 : Int) =>
            bind2 (ref1_May x6 h2) fun (x7 : Bool) (h3 : H) =>
            condK (!x7) (
              some (Sum.inl (((some (⟨b, 0, (some 0)⟩ : Addr)), true), h3))) (
              bindO (ldI .i64 h3 (add (⟨b, 0, (some 0)⟩ : Addr) 4)) fun (x8 : Int) =>
              bind2 (ref1_May x8 h3) fun (x9 : Bool) (h4 : H) =>
              condK (!x9) (
                some (Sum.inl (((some (⟨b, 0, (some 0)⟩ : Addr)), true), h4))) (
                bindO (ldL h4 (add (⟨b, 0, (some 0)⟩ : Addr) 7)) fun (x10 : Sl) =>
                some (Sum.inl (((some (⟨b, 0, (some 0)⟩ : Addr)), (decide ((((x10.len : Nat) : Int) > 120)))), h4))))))))) fun (((f1, x0), h1) : (((Option Addr) × Bool) × H)) =>
  condK x0 (
    some (false, h1)) (
    ptrK f1 fun (a0 : Addr) =>
    bindO (ldI .i64 h1 (add a0 0)) fun (x1 : Int) =>
    bind2 (ref1_names x1 h1) fun ((x2, x3, x4, x5, x6, x7, x8) : Bool × Bool × Bool × Bool × Bool × Bool × Bool) (h2 : H) =>
    newO (row 179 [(.bool false), (.bool false), (.bool false), (.bool false), (.bool false), (.bool false), (.bool false)]) h2 fun (b1 : Nat) (h3 : H) =>
    bindO (stZ [.bool, .bool, .bool, .bool, .bool, .bool, .bool] h3 (⟨b1, 0, (some 0)⟩ : Addr) ((x2, x3, x4, x5, x6, x7, x8) : Bool × Bool × Bool × Bool × Bool × Bool × Bool)) fun (h4 : H) =>
    joinO (
      bindO (ixAT 7 1 (⟨b1, 0, (some 0)⟩ : Addr) 0) fun (a1 : Addr) =>
      bindO (ldB h4 a1) fun (x9 : Bool) =>
      condK (!x9) (
        ptrK f1 fun (a2 : Addr) =>
        bindO (ldI .i64 h4 (add a2 1)) fun (x10 : Int) =>
        condK (x10 != 0) (
          some (Sum.inl ((f1, true), h4))) (
          bindO (ixAT 7 1 (⟨b1, 0, (some 0)⟩ : Addr) 1) fun (a3 : Addr) =>
          bindO (ldB h4 a3) fun (x11 : Bool) =>
          condK (!x11) (
            ptrK f1 fun (a4 : Addr) =>
            bindO (ldI .i64 h4 (add a4 2)) fun (x12 : Int) =>
            condK (x12 != 0) (
              some (Sum.inl ((f1, true), h4))) (
              bindO (ixAT 7 1 (⟨b1, 0, (some 0)⟩ : Addr) 2) fun (a5 : Addr) =>
              bindO (ldB h4 a5) fun (x13 : Bool) =>
              condK (!x13) (
                ptrK f1 fun (a6 : Addr) =>
                bindO (ldI .i64 h4 (add a6 3)) fun (x14 : Int) =>
                condK (x14 != 0) (
                  some (Sum.inl ((f1, true), h4))) (
                  bindO (ixAT 7 1 (⟨b1, 0, (some 0)⟩ : Addr) 3) fun (a7 : Addr) =>
                  bindO (ldB h4 a7) fun (x15 : Bool) =>
                  condK (!x15) (
                    ptrK f1 fun (a8 : Addr) =>
                    bindO (ldI .i64 h4 (add a8 4)) fun (x16 : Int) =>
                    condK (x16 != 0) (
                      some (Sum.inl ((f1, true), h4))) (
                      bindO (ixAT 7 1 (⟨b1, 0, (some 0)⟩ : Addr) 4) fun (a9 : Addr) =>
                      bindO (ldB h4 a9) fun (x17 : Bool) =>
                      condK (!x17) (
                        ptrK f1 fun (a10 : Addr) =>
                        bindO (ldB h4 (add a10 6)) fun (x18 : Bool) =>
                        condK x18 (
                          some (Sum.inl ((f1, true), h4))) (
                          bindO (ixAT 7 1 (⟨b1, 0, (some 0)⟩ : Addr) 5) fun (a11 : Addr) =>
                          bindO (ldB h4 a11) fun (x19 : Bool) =>
                          condK (!x19) (
                            ptrK f1 fun (a12 : Addr) =>
                            bindO (ldL h4 (add a12 7)) fun (x20 : Sl) =>
                            condK (decide ((((x20.len : Nat) : Int) > 0))) (
                              some (Sum.inl ((f1, true), h4))) (
                              bindO (ixAT 7 1 (⟨b1, 0, (some 0)⟩ : Addr) 6) fun (a13 : Addr) =>
                              bindO (ldB h4 a13) fun (x21 : Bool) =>
                              condK (!x21) (
                                ptrK f1 fun (a14 : Addr) =>
                                bindO (ldL h4 (add a14 8)) fun (x22 : Sl) =>
                                some (Sum.inl ((f1, (decide ((((x22.len : Nat) : Int) > 0)))), h4))) (
                                some (Sum.inl ((f1, false), h4))))) (
                            bindO (ixAT 7 1 (⟨b1, 0, (some 0)⟩ : Addr) 6) fun (a15 : Addr) =>
                            bindO (ldB h4 a15) fun (x23 : Bool) =>
                            condK (!x23) (
                              ptrK f1 fun (a16 : Addr) =>
                              bindO (ldL h4 (add a16 8)) fun (x24 : Sl) =>
                              some (Sum.inl ((f1, (decide ((((x24.len : Nat) : Int) > 0)))), h4))) (
                              some (Sum.inl ((f1, false), h4)))))) (
                        bindO (ixAT 7 1 (⟨b1, 0, (some 0)⟩ : Addr) 5) fun (a17 : Addr) =>
                        bindO (ldB h4 a17) fun (x25 : Bool) =>
                        condK (!x25) (
                          ptrK f1 fun (a18 : Addr) =>
                          bindO (ldL h4 (add a18 7)) fun (x26 : Sl) =>
                          condK (decide ((((x26.len : Nat) : Int) > 0))) (
                            some (Sum.inl ((f1, true), h4))) (
                            bindO (ixAT 7 1 (⟨b1, 0, (some 0)⟩ : Addr) 6) fun (a19 : Addr) =>
                            bindO (ldB h4 a19) fun (x27 : Bool) =>
                            condK (!x27) (
                              ptrK f1 fun (a20 : Addr) =>
                              bindO (ldL h4 (add a20 8)) fun (x28 : Sl) =>
                              some (Sum.inl ((f1, (decide ((((x28.len : Nat) : Int) > 0)))), h4))) (
                              some (Sum.inl ((f1, false), h4))))) (
                          bindO (ixAT 7 1 (⟨b1, 0, (some 0)⟩ : Addr) 6) fun (a21 : Addr) =>
                          bindO (ldB h4 a21) fun (x29 : Bool) =>
                          condK (!x29) (
                            ptrK f1 fun (a22 : Addr) =>
                            bindO (ldL h4 (add a22 8)) fun (x30 : Sl) =>
                            some (Sum.inl ((f1, (decide ((((x30.len : Nat) : Int) > 0)))), h4))) (
                            some (Sum.inl ((f1, false), h4))))))) (
                    bindO (ixAT 7 1 (⟨b1, 0, (some 0)⟩ : Addr) 4) fun (a23 : Addr) =>
                    bindO (ldB h4 a23) fun (x31 : Bool) =>
                    condK (!x31) (
                      ptrK f1 fun (a24 : Addr) =>
                      bindO (ldB h4 (add a24 6)) fun (x32 : Bool) =>
                      condK x32 (
                        some (Sum.inl ((f1, true), h4))) (
                        bindO (ixAT 7 1 (⟨b1, 0, (some 0)⟩ : Addr) 5) fun (a25 : Addr) =>
                        bindO (ldB h4 a25) fun (x33 : Bool) =>
                        condK (!x33) (
                          ptrK f1 fun (a26 : Addr) =>
                          bindO (ldL h4 (add a26 7)) fun (x34 : Sl) =>
                          condK (decide ((((x34.len : Nat) : Int) > 0))) (
                            some (Sum.inl ((f1, true), h4))) (
                            bindO (ixAT 7 1 (⟨b1, 0, (some 0)⟩ : Addr) 6) fun (a27 : Addr) =>
                            bindO (ldB h4 a27) fun (x35 : Bool) =>
                            condK (!x35) (
                              ptrK f1 fun (a28 : Addr) =>
                              bindO (ldL h4 (add a28 8)) fun (x36 : Sl) =>
                              some (Sum.inl ((f1, (decide ((((x36.len : Nat) : Int) > 0)))), h4))) (
                              some (Sum.inl ((f1, false), h4))))) (
                          bindO (ixAT 7 1 (⟨b1, 0, (some 0)⟩ : Addr) 6) fun (a29 : Addr) =>
                          bindO (ldB h4 a29) fun (x37 : Bool) =>
                          condK (!x37) (
                            ptrK f1 fun (a30 : Addr) =>
                            bindO (ldL h4 (add a30 8)) fun (x38 : Sl) =>
                            some (Sum.inl ((f1, (decide ((((x38.len : Nat) : Int) > 0)))), h4))) (
                            some (Sum.inl ((f1, false), h4)))))) (
                      bindO (ixAT 7 1 (⟨b1, 0, (some 0)⟩ : Addr) 5) fun (a31 : Addr) =>
                      bindO (ldB h4 a31) fun (x39 : Bool) =>
                      condK (!x39) (
                        ptrK f1 fun (a32 : Addr) =>
                        bindO (ldL h4 (add a32 7)) fun (x40 : Sl) =>
                        condK (decide ((((x40.len : Nat) : Int) > 0))) (
                          some (Sum.inl ((f1, true), h4))) (
                          bindO (ixAT 7 1 (⟨b1, 0, (some 0)⟩ : Addr) 6) fun (a33 : Addr) =>
                          bindO (ldB h4 a33) fun (x41 : Bool) =>
                          condK (!x41) (
                            ptrK f1 fun (a34 : Addr) =>
                            bindO (ldL h4 (add a34 8)) fun (x42 : Sl) =>
                            some (Sum.inl ((f1, (decide ((((x42.len : Nat) : Int) > 0)))), h4))) (
                            some (Sum.inl ((f1, false), h4))))) (
                        bindO (ixAT 7 1 (⟨b1, 0, (some 0)⟩ : Addr) 6) fun (a35 : Addr) =>
                        bindO (ldB h4 a35) fun (x43 : Bool) =>
                        condK (!x43) (
                          ptrK f1 fun (a36 : Addr) =>
                          bindO (ldL h4 (add a36 8)) fun (x44 : Sl) =>
                          some (Sum.inl ((f1, (decide ((((x44.len : Nat) : Int) > 0)))), h4))) (
                          some (Sum.inl ((f1, false), h4)))))))) (
                bindO (ixAT 7 1 (⟨b1, 0, (some 0)⟩ : Addr) 3) fun (a37 : Addr) =>
                bindO (ldB h4 a37) fun (x45 : Bool) =>
                condK (!x45) (
                  ptrK f1 fun (a38 : Addr) =>
                  bindO (ldI .i64 h4 (add a38 4)) fun (x46 : Int) =>
                  condK (x46 != 0) (
                    some (Sum.inl ((f1, true), h4))) (
                    bindO (ixAT 7 1 (⟨b1, 0, (some 0)⟩ : Addr) 4) fun (a39 : Addr) =>
                    bindO (ldB h4 a39) fun (x47 : Bool) =>
                    condK (!x47) (
                      ptrK f1 fun (a40 : Addr) =>
                      bindO (ldB h4 (add a40 6)) fun (x48 : Bool) =>
                      condK x48 (
                        some (Sum.inl ((f1, true), h4))) (
                        bindO (ixAT 7 1 (⟨b1, 0, (some 0)⟩ : Addr) 5) fun (a41 : Addr) =>
                        bindO (ldB h4 a41) fun (x49 : Bool) =>
                        condK (!x49) (
                          ptrK f1 fun (a42 : Addr) =>
                          bindO (ldL h4 (add a42 7)) fun (x50 : Sl) =>
                          condK (decide ((((x50.len : Nat) : Int) > 0))) (
                            some (Sum.inl ((f1, true), h4))) (
                            bindO (ixAT 7 1 (⟨b1, 0, (some 0)⟩ : Addr) 6) fun (a43 : Addr) =>
                            bindO (ldB h4 a43) fun (x51 : Bool) =>
                            condK (!x51) (
                              ptrK f1 fun (a44 : Addr) =>
                              bindO (ldL h4 (add a44 8)) fun (x52 : Sl) =>
                              some (Sum.inl ((f1, (decide ((((x52.len : Nat) : Int) > 0)))), h4))) (
                              some (Sum.inl ((f1, false), h4))))) (
                          bindO (ixAT 7 1 (⟨b1, 0, (some 0)⟩ : Addr) 6) fun (a45 : Addr) =>
                          bindO (ldB h4 a45) fun (x53 : Bool) =>
                          condK (!x53) (
                            ptrK f1 fun (a46 : Addr) =>
                            bindO (ldL h4 (add a46 8)) fun (x54 : Sl) =>
                            some (Sum.inl ((f1, (decide ((((x54.len : Nat) : Int) > 0)))), h4))) (
                            some (Sum.inl ((f1, false), h4)))))) (
                      bindO (ixAT 7 1 (⟨b1, 0, (some 0)⟩ : Addr) 5) fun (a47 : Addr) =>
                      bindO (ldB h4 a47) fun (x55 : Bool) =>
                      condK (!x55) (
                        ptrK f1 fun (a48 : Addr) =>
                        bindO (ldL h4 (add a48 7)) fun (x56 : Sl) =>
                        condK (decide ((((x56.len : Nat) : Int) > 0))) (
                          some (Sum.inl ((f1, true), h4))) (
                          bindO (ixAT 7 1 (⟨b1, 0, (some 0)⟩ : Addr) 6) fun (a49 : Addr) =>
                          bindO (ldB h4 a49) fun (x57 : Bool) =>
                          condK (!x57) (
                            ptrK f1 fun (a50 : Addr) =>
                            bindO (ldL h4 (add a50 8)) fun (x58 : Sl) =>
                            some (Sum.inl ((f1, (decide ((((x58.len : Nat) : Int) > 0)))), h4))) (
                            some (Sum.inl ((f1, false), h4))))) (
                        bindO (ixAT 7 1 (⟨b1, 0, (some 0)⟩ : Addr) 6) fun (a51 : Addr) =>
                        bindO (ldB h4 a51) fun (x59 : Bool) =>
                        condK (!x59) (
                          ptrK f1 fun (a52 : Addr) =>
                          bindO (ldL h4 (add a52 8)) fun (x60 : Sl) =>
                          some (Sum.inl ((f1, (decide ((((x60.len : Nat) : Int) > 0)))), h4))) (
                          some (Sum.inl ((f1, false), h4))))))) (
                  bindO (ixAT 7 1 (⟨b1, 0, (some 0)⟩ : Addr) 4) fun (a53 : Addr) =>
                  bindO (ldB h4 a53) fun (x61 : Bool) =>
                  condK (!x61) (
                    ptrK f1 fun (a54 : Addr) =>
                    bindO (ldB h4 (add a54 6)) fun (x62 : Bool) =>
                    condK x62 (
                      some (Sum.inl ((f1, true), h4))) (
                      bindO (ixAT 7 1 (⟨b1, 0, (some 0)⟩ : Addr) 5) fun (a55 : Addr) =>
                      bindO (ldB h4 a55) fun (x63 : Bool) =>
                      condK (!x63) (
                        ptrK f1 fun (a56 : Addr) =>
                        bindO (ldL h4 (add a56 7)) fun (x64 : Sl) =>
                        condK (decide ((((x64.len : Nat) : Int) > 0))) (
                          some (Sum.inl ((f1, true), h4))) (
                          bindO (ixAT 7 1 (⟨b1, 0, (some 0)⟩ : Addr) 6) fun (a57 : Addr) =>
                          bindO (ldB h4 a57) fun (x65 : Bool) =>
                          condK (!x65) (
                            ptrK f1 fun (a58 : Addr) =>
                            bindO (ldL h4 (add a58 8)) fun (x66 : Sl) =>
                            some (Sum.inl ((f1, (decide ((((x66.len : Nat) : Int) > 0)))), h4))) (
                            some (Sum.inl ((f1, false), h4))))) (
                        bindO (ixAT 7 1 (⟨b1, 0, (some 0)⟩ : Addr) 6) fun (a59 : Addr) =>
                        bindO (ldB h4 a59) fun (x67 : Bool) =>
                        condK (!x67) (
                          ptrK f1 fun (a60 : Addr) =>
                          bindO (ldL h4 (add a60 8)) fun (x68 : Sl) =>
                          some (Sum.inl ((f1, (decide ((((x68.len : Nat) : Int) > 0)))), h4))) (
                          some (Sum.inl ((f1, false), h4)))))) (
                    bindO (ixAT 7 1 (⟨b1, 0, (some 0)⟩ : Addr) 5) fun (a61 : Addr) =>
                    bindO (ldB h4 a61) fun (x69 : Bool) =>
                    condK (!x69) (
                      ptrK f1 fun (a62 : Addr) =>
                      bindO (ldL h4 (add a62 7)) fun (x70 : Sl) =>
                      condK (decide ((((x70.len : Nat) : Int) > 0))) (
                        some (Sum.inl ((f1, true), h4))) (
                        bindO (ixAT 7 1 (⟨b1, 0, (some 0)⟩ : Addr) 6) fun (a63 : Addr) =>
                        bindO (ldB h4 a63) fun (x71 : Bool) =>
                        condK (!x71) (
                          ptrK f1 fun (a64 : Addr) =>
                          bindO (ldL h4 (add a64 8)) fun (x72 : Sl) =>
                          some (Sum.inl ((f1, (decide ((((x72.len : Nat) : Int) > 0)))), h4))) (
                          some (Sum.inl ((f1, false), h4))))) (
                      bindO (ixAT 7 1 (⟨b1, 0, (some 0)⟩ : Addr) 6) fun (a65 : Addr) =>
                      bindO (ldB h4 a65) fun (x73 : Bool) =>
                      condK (!x73) (
                        ptrK f1 fun (a66 : Addr) =>
                        bindO (ldL h4 (add a66 8)) fun (x74 : Sl) =>
                        some (Sum.inl ((f1, (decide ((((x74.len : Nat) : Int) > 0)))), h4))) (
                        some (Sum.inl ((f1, false), h4))))))))) (
            bindO (ixAT 7 1 (⟨b1, 0, (some 0)⟩ : Addr) 2) fun (a67 : Addr) =>
            bindO (ldB h4 a67) fun (x75 : Bool) =>
            condK (!x75) (
              ptrK f1 fun (a68 : Addr) =>
              bindO (ldI .i64 h4 (add a68 3)) fun (x76 : Int) =>
              condK (x76 != 0) (
                some (Sum.inl ((f1, true), h4))) (
                bindO (ixAT 7 1 (⟨b1, 0, (some 0)⟩ : Addr) 3) fun (a69 : Addr) =>
                bindO (ldB h4 a69) fun (x77 : Bool) =>
                condK (!x77) (
                  ptrK f1 fun (a70 : Addr) =>
                  bindO (ldI .i64 h4 (add a70 4)) fun (x78 : Int) =>
                  condK (x78 != 0) (
                    some (Sum.inl ((f1, true), h4))) (
                    bindO (ixAT 7 1 (⟨b1, 0, (some 0)⟩ : Addr) 4) fun (a71 : Addr) =>
                    bindO (ldB h4 a71) fun (x79 : Bool) =>
                    condK (!x79) (
                      ptrK f1 fun (a72 : Addr) =>
                      bindO (ldB h4 (add a72 6)) fun (x80 : Bool) =>
                      condK x80 (
                        some (Sum.inl ((f1, true), h4))) (
                        bindO (ixAT 7 1 (⟨b1, 0, (some 0)⟩ : Addr) 5) fun (a73 : Addr) =>
                        bindO (ldB h4 a73) fun (x81 : Bool) =>
                        condK (!x81) (
                          ptrK f1 fun (a74 : Addr) =>
                          bindO (ldL h4 (add a74 7)) fun (x82 : Sl) =>
                          condK (decide ((((x82.len : Nat) : Int) > 0))) (
                            some (Sum.inl ((f1, true), h4))) (
                            bindO (ixAT 7 1 (⟨b1, 0, (some 0)⟩ : Addr) 6) fun (a75 : Addr) =>
                            bindO (ldB h4 a75) fun (x83 : Bool) =>
                            condK (!x83) (
                              ptrK f1 fun (a76 : Addr) =>
                              bindO (ldL h4 (add a76 8)) fun (x84 : Sl) =>
                              some (Sum.inl ((f1, (decide ((((x84.len : Nat) : Int) > 0)))), h4))) (
                              some (Sum.inl ((f1, false), h4))))) (
                          bindO (ixAT 7 1 (⟨b1, 0, (some 0)⟩ : Addr) 6) fun (a77 : Addr) =>
                          bindO (ldB h4 a77) fun (x85 : Bool) =>
                          condK (!x85) (
                            ptrK f1 fun (a78 : Addr) =>
                            bindO (ldL h4 (add a78 8)) fun (x86 : Sl) =>
                            some (Sum.inl ((f1, (decide ((((x86.len : Nat) : Int) > 0)))), h4))) (
                            some (Sum.inl ((f1, false), h4)))))) (
                      bindO (ixAT 7 1 (⟨b1, 0, (some 0)⟩ : Addr) 5) fun (a79 : Addr) =>
                      bindO (ldB h4 a79) fun (x87 : Bool) =>
                      condK (!x87) (
                        ptrK f1 fun (a80 : Addr) =>
                        bindO (ldL h4 (add a80 7)) fun (x88 : Sl) =>
                        condK (decide ((((x88.len : Nat) : Int) > 0))) (
                          some (Sum.inl ((f1, true), h4))) (
                          bindO (ixAT 7 1 (⟨b1, 0, (some 0)⟩ : Addr) 6) fun (a81 : Addr) =>
                          bindO (ldB h4 a81) fun (x89 : Bool) =>
                          condK (!x89) (
                            ptrK f1 fun (a82 : Addr) =>
                            bindO (ldL h4 (add a82 8)) fun (x90 : Sl) =>
                            some (Sum.inl ((f1, (decide ((((x90.len : Nat) : Int) > 0)))), h4))) (
                            some (Sum.inl ((f1, false), h4))))) (
                        bindO (ixAT 7 1 (⟨b1, 0, (some 0)⟩ : Addr) 6) fun (a83 : Addr) =>
                        bindO (ldB h4 a83) fun (x91 : Bool) =>
                        condK (!x91) (
                          ptrK f1 fun (a84 : Addr) =>
                          bindO (ldL h4 (add a84 8)) fun (x92 : Sl) =>
                          some (Sum.inl ((f1, (decide ((((x92.len : Nat) : Int) > 0)))), h4))) (
                          some (Sum.inl ((f1, false), h4))))))) (
                  bindO (ixAT 7 1 (⟨b1, 0, (some 0)⟩ : Addr) 4) fun (a85 : Addr) =>
                  bindO (ldB h4 a85) fun (x93 : Bool) =>
                  condK (!x93) (
                    ptrK f1 fun (a86 : Addr) =>
                    bindO (ldB h4 (add a86 6)) fun (x94 : Bool) =>
                    condK x94 (
                      some (Sum.inl ((f1, true), h4))) (
                      bindO (ixAT 7 1 (⟨b1, 0, (some 0)⟩ : Addr) 5) fun (a87 : Addr) =>
                      bindO (ldB h4 a87) fun (x95 : Bool) =>
                      condK (!x95) (
                        ptrK f1 fun (a88 : Addr) =>
                        bindO (ldL h4 (add a88 7)) fun (x96 : Sl) =>
                        condK (decide ((((x96.len : Nat) : Int) > 0))) (
                          some (Sum.inl ((f1, true), h4))) (
                          bindO (ixAT 7 1 (⟨b1, 0, (some 0)⟩ : Addr) 6) fun (a89 : Addr) =>
                          bindO (ldB h4 a89) fun (x97 : Bool) =>
                          condK (!x97) (
                            ptrK f1 fun (a90 : Addr) =>
                            bindO (ldL h4 (add a90 8)) fun (x98 : Sl) =>
                            some (Sum.inl ((f1, (decide ((((x98.len : Nat) : Int) > 0)))), h4))) (
                            some (Sum.inl ((f1, false), h4))))) (
                        bindO (ixAT 7 1 (⟨b1, 0, (some 0)⟩ : Addr) 6) fun (a91 : Addr) =>
                        bindO (ldB h4 a91) fun (x99 : Bool) =>
                        condK (!x99) (
                          ptrK f1 fun (a92 : Addr) =>
                          bindO (ldL h4 (add a92 8)) fun (x100 : Sl) =>
                          some (Sum.inl ((f1, (decide ((((x100.len : Nat) : Int) > 0)))), h4))) (
                          some (Sum.inl ((f1, false), h4)))))) (
                    bindO (ixAT 7 1 (⟨b1, 0, (some 0)⟩ : Addr) 5) fun (a93 : Addr) =>
                    bindO (ldB h4 a93) fun (x101 : Bool) =>
                    condK (!x101) (
                      ptrK f1 fun (a94 : Addr) =>
                      bindO (ldL h4 (add a94 7)) fun (x102 : Sl) =>
                      condK (decide ((((x102.len : Nat) : Int) > 0))) (
                        some (Sum.inl ((f1, true), h4))) (
                        bindO (ixAT 7 1 (⟨b1, 0, (some 0)⟩ : Addr) 6) fun (a95 : Addr) =>
                        bindO (ldB h4 a95) fun (x103 : Bool) =>
                        condK (!x103) (
                          ptrK f1 fun (a96 : Addr) =>
                          bindO (ldL h4 (add a96 8)) fun (x104 : Sl) =>
                          some (Sum.inl ((f1, (decide ((((x104.len : Nat) : Int) > 0)))), h4))) (
                          some (Sum.inl ((f1, false), h4))))) (
                      bindO (ixAT 7 1 (⟨b1, 0, (some 0)⟩ : Addr) 6) fun (a97 : Addr) =>
                      bindO (ldB h4 a97) fun (x105 : Bool) =>
                      condK (!x105) (
                        ptrK f1 fun (a98 : Addr) =>
                        bindO (ldL h4 (add a98 8)) fun (x106 : Sl) =>
                        some (Sum.inl ((f1, (decide ((((x106.len : Nat) : Int) > 0)))), h4))) (
                        some (Sum.inl ((f1, false), h4)))))))) (
              bindO (ixAT 7 1 (⟨b1, 0, (some 0)⟩ : Addr) 3) fun (a99 : Addr) =>
              bindO (ldB h4 a99) fun (x107 : Bool) =>
              condK (!x107) (
                ptrK f1 fun (a100 : Addr) =>
                bindO (ldI .i64 h4 (add a100 4)) fun (x108 : Int) =>
                condK (x108 != 0) (
                  some (Sum.inl ((f1, true), h4))) (
                  bindO (ixAT 7 1 (⟨b1, 0, (some 0)⟩ : Addr) 4) fun (a101 : Addr) =>
                  bindO (ldB h4 a101) fun (x109 : Bool) =>
                  condK (!x109) (
                    ptrK f1 fun (a102 : Addr) =>
                    bindO (ldB h4 (add a102 6)) fun (x110 : Bool) =>
                    condK x110 (
                      some (Sum.inl ((f1, true), h4))) (
                      bindO (ixAT 7 1 (⟨b1, 0, (some 0)⟩ : Addr) 5) fun (a103 : Addr) =>
                      bindO (ldB h4 a103) fun (x111 : Bool) =>
                      condK (!x111) (
                        ptrK f1 fun (a104 : Addr) =>
                        bindO (ldL h4 (add a104 7)) fun (x112 : Sl) =>
                        condK (decide ((((x112.len : Nat) : Int) > 0))) (
                          some (Sum.inl ((f1, true), h4))) (
                          bindO (ixAT 7 1 (⟨b1, 0, (some 0)⟩ : Addr) 6) fun (a105 : Addr) =>
                          bindO (ldB h4 a105) fun (x113 : Bool) =>
                          condK (!x113) (
                            ptrK f1 fun (a106 : Addr) =>
                            bindO (ldL h4 (add a106 8)) fun (x114 : Sl) =>
                            some (Sum.inl ((f1, (decide ((((x114.len : Nat) : Int) > 0)))), h4))) (
                            some (Sum.inl ((f1, false), h4))))) (
                        bindO (ixAT 7 1 (⟨b1, 0, (some 0)⟩ : Addr) 6) fun (a107 : Addr) =>
                        bindO (ldB h4 a107) fun (x115 : Bool) =>
                        condK (!x115) (
                          ptrK f1 fun (a108 : Addr) =>
                          bindO (ldL h4 (add a108 8)) fun (x116 : Sl) =>
                          some (Sum.inl ((f1, (decide ((((x116.len : Nat) : Int) > 0)))), h4))) (
                          some (Sum.inl ((f1, false), h4)))))) (
                    bindO (ixAT 7 1 (⟨b1, 0, (some 0)⟩ : Addr) 5) fun (a109 : Addr) =>
                    bindO (ldB h4 a109) fun (x117 : Bool) =>
                    condK (!x117) (
                      ptrK f1 fun (a110 : Addr) =>
                      bindO (ldL h4 (add a110 7)) fun (x118 : Sl) =>
                      condK (decide ((((x118.len : Nat) : Int) > 0))) (
                        some (Sum.inl ((f1, true), h4))) (
                        bindO (ixAT 7 1 (⟨b1, 0, (some 0)⟩ : Addr) 6) fun (a111 : Addr) =>
                        bindO (ldB h4 a111) fun (x119 : Bool) =>
                        condK (!x119) (
                          ptrK f1 fun (a112 : Addr) =>
                          bindO (ldL h4 (add a112 8)) fun (x120 : Sl) =>
                          some (Sum.inl ((f1, (decide ((((x120.len : Nat) : Int) > 0)))), h4))) (
                          some (Sum.inl ((f1, false), h4))))) (
                      bindO (ixAT 7 1 (⟨b1, 0, (some 0)⟩ : Addr) 6) fun (a113 : Addr) =>
                      bindO (ldB h4 a113) fun (x121 : Bool) =>
                      condK (!x121) (
                        ptrK f1 fun (a114 : Addr) =>
                        bindO (ldL h4 (add a114 8)) fun (x122 : Sl) =>
                        some (Sum.inl ((f1, (decide ((((x122.len : Nat) : Int) > 0)))), h4))) (
                        some (Sum.inl ((f1, false), h4))))))) (
                bindO (ixAT 7 1 (⟨b1, 0, (some 0)⟩ : Addr) 4) fun (a115 : Addr) =>
                bindO (ldB h4 a115) fun (x123 : Bool) =>
                condK (!x123) (
                  ptrK f1 fun (a116 : Addr) =>
                  bindO (ldB h4 (add a116 6)) fun (x124 : Bool) =>
                  condK x124 (
                    some (Sum.inl ((f1, true), h4))) (
                    bindO (ixAT 7 1 (⟨b1, 0, (some 0)⟩ : Addr) 5) fun (a117 : Addr) =>
                    bindO (ldB h4 a117) fun (x125 : Bool) =>
                    condK (!x125) (
                      ptrK f1 fun (a118 : Addr) =>
                      bindO (ldL h4 (add a118 7)) fun (x126 : Sl) =>
                      condK (decide ((((x126.len : Nat) : Int) > 0))) (
                        some (Sum.inl ((f1, true), h4))) (
                        bindO (ixAT 7 1 (⟨b1, 0, (some 0)⟩ : Addr) 6) fun (a119 : Addr) =>
                        bindO (ldB h4 a119) fun (x127 : Bool) =>
                        condK (!x127) (
                          ptrK f1 fun (a120 : Addr) =>
                          bindO (ldL h4 (add a120 8)) fun (x128 : Sl) =>
                          some (Sum.inl ((f1, (decide ((((x128.len : Nat) : Int) > 0)))), h4))) (
                          some (Sum.inl ((f1, false), h4))))) (
                      bindO (ixAT 7 1 (⟨b1, 0, (some 0)⟩ : Addr) 6) fun (a121 : Addr) =>
                      bindO (ldB h4 a121) fun (x129 : Bool) =>
                      condK (!x129) (
                        ptrK f1 fun (a122 : Addr) =>
                        bindO (ldL h4 (add a122 8)) fun (x130 : Sl) =>
                        some (Sum.inl ((f1, (decide ((((x130.len : Nat) : Int) > 0)))), h4))) (
                        some (Sum.inl ((f1, false), h4)))))) (
                  bindO (ixAT 7 1 (⟨b1, 0, (some 0)⟩ : Addr) 5) fun (a123 : Addr) =>
                  bindO (ldB h4 a123) fun (x131 : Bool) =>
                  condK (!x131) (
                    ptrK f1 fun (a124 : Addr) =>
                    bindO (ldL h4 (add a124 7)) fun (x132 : Sl) =>
                    condK (decide ((((x132.len : Nat) : Int) > 0))) (
                      some (Sum.inl ((f1, true), h4))) (
                      bindO (ixAT 7 1 (⟨b1, 0, (some 0)⟩ : Addr) 6) fun (a125 : Addr) =>
                      bindO (ldB h4 a125) fun (x133 : Bool) =>
                      condK (!x133) (
                        ptrK f1 fun (a126 : Addr) =>
                        bindO (ldL h4 (add a126 8)) fun (x134 : Sl) =>
                        some (Sum.inl ((f1, (decide ((((x134.len : Nat) : Int) > 0)))), h4))) (
                        some (Sum.inl ((f1, false), h4))))) (
                    bindO (ixAT 7 1 (⟨b1, 0, (some 0)⟩ : Addr) 6) fun (a127 : Addr) =>
                    bindO (ldB h4 a127) fun (x135 : Bool) =>
                    condK (!x135) (
                      ptrK f1 fun (a128 : Addr) =>
                      bindO (ldL h4 (add a128 8)) fun (x136 : Sl) =>
                      some (Sum.inl ((f1, (decide ((((x136.len : Nat) : Int) > 0)))), h4))) (
                      some (Sum.inl ((f1, false), h4)))))))))) (
        bindO (ixAT 7 1 (⟨b1, 0, (some 0)⟩ : Addr) 1) fun (a129 : Addr) =>
        bindO (ldB h4 a129) fun (x137 : Bool) =>
        condK (!x137) (
          ptrK f1 fun (a130 : Addr) =>
          bindO (ldI .i64 h4 (add a130 2)) fun (x138 : Int) =>
          condK (x138 != 0) (
            some (Sum.inl ((f1, true), h4))) (
            bindO (ixAT 7 1 (⟨b1, 0, (some 0)⟩ : Addr) 2) fun (a131 : Addr) =>
            bindO (ldB h4 a131) fun (x139 : Bool) =>
            condK (!x139) (
              ptrK f1 fun (a132 : Addr) =>
              bindO (ldI .i64 h4 (add a132 3)) fun (x140 : Int) =>
              condK (x140 != 0) (
                some (Sum.inl ((f1, true), h4))) (
                bindO (ixAT 7 1 (⟨b1, 0, (some 0)⟩ : Addr) 3) fun (a133 : Addr) =>
                bindO (ldB h4 a133) fun (x141 : Bool) =>
                condK (!x141) (
                  ptrK f1 fun (a134 : Addr) =>
                  bindO (ldI .i64 h4 (add a134 4)) fun (x142 : Int) =>
                  condK (x142 != 0) (
                    some (Sum.inl ((f1, true), h4))) (
                    bindO (ixAT 7 1 (⟨b1, 0, (some 0)⟩ : Addr) 4) fun (a135 : Addr) =>
                    bindO (ldB h4 a135) fun (x143 : Bool) =>
                    condK (!x143) (
                      ptrK f1 fun (a136 : Addr) =>
                      bindO (ldB h4 (add a136 6)) fun (x144 : Bool) =>
                      condK x144 (
                        some (Sum.inl ((f1, true), h4))) (
                        bindO (ixAT 7 1 (⟨b1, 0, (some 0)⟩ : Addr) 5) fun (a137 : Addr) =>
                        bindO (ldB h4 a137) fun (x145 : Bool) =>
                        condK (!x145) (
                          ptrK f1 fun (a138 : Addr) =>
                          bindO (ldL h4 (add a138 7)) fun (x146 : Sl) =>
                          condK (decide ((((x146.len : Nat) : Int) > 0))) (
                            some (Sum.inl ((f1, true), h4))) (
                            bindO (ixAT 7 1 (⟨b1, 0, (some 0)⟩ : Addr) 6) fun (a139 : Addr) =>
                            bindO (ldB h4 a139) fun (x147 : Bool) =>
                            condK (!x147) (
                              ptrK f1 fun (a140 : Addr) =>
                              bindO (ldL h4 (add a140 8)) fun (x148 : Sl) =>
                              some (Sum.inl ((f1, (decide ((((x148.len : Nat) : Int) > 0)))), h4))) (
                              some (Sum.inl ((f1, false), h4))))) (
                          bindO (ixAT 7 1 (⟨b1, 0, (some 0)⟩ : Addr) 6) fun (a141 : Addr) =>
                          bindO (ldB h4 a141) fun (x149 : Bool) =>
                          condK (!x149) (
                            ptrK f1 fun (a142 : Addr) =>
                            bindO (ldL h4 (add a142 8)) fun (x150 : Sl) =>
                            some (Sum.inl ((f1, (decide ((((x150.len : Nat) : Int) > 0)))), h4))) (
                            some (Sum.inl ((f1, false), h4)))))) (
                      bindO (ixAT 7 1 (⟨b1, 0, (some 0)⟩ : Addr) 5) fun (a143 : Addr) =>
                      bindO (ldB h4 a143) fun (x151 : Bool) =>
                      condK (!x151) (
                        ptrK f1 fun (a144 : Addr) =>
                        bindO (ldL h4 (add a144 7)) fun (x152 : Sl) =>
                        condK (decide ((((x152.len : Nat) : Int) > 0))) (
                          some (Sum.inl ((f1, true), h4))) (
                          bindO (ixAT 7 1 (⟨b1, 0, (some 0)⟩ : Addr) 6) fun (a145 : Addr) =>
                          bindO (ldB h4 a145) fun (x153 : Bool) =>
                          condK (!x153) (
                            ptrK f1 fun (a146 : Addr) =>
                            bindO (ldL h4 (add a146 8)) fun (x154 : Sl) =>
                            some (Sum.inl ((f1, (decide ((((x154.len : Nat) : Int) > 0)))), h4))) (
                            some (Sum.inl ((f1, false), h4))))) (
                        bindO (ixAT 7 1 (⟨b1, 0, (some 0)⟩ : Addr) 6) fun (a147 : Addr) =>
                        bindO (ldB h4 a147) fun (x155 : Bool) =>
                        condK (!x155) (
                          ptrK f1 fun (a148 : Addr) =>
                          bindO (ldL h4 (add a148 8)) fun (x156 : Sl) =>
                          some (Sum.inl ((f1, (decide ((((x156.len : Nat) : Int) > 0)))), h4))) (
                          some (Sum.inl ((f1, false), h4))))))) (
                  bindO (ixAT 7 1 (⟨b1, 0, (some 0)⟩ : Addr) 4) fun (a149 : Addr) =>
                  bindO (ldB h4 a149) fun (x157 : Bool) =>
                  condK (!x157) (
                    ptrK f1 fun (a150 : Addr) =>
                    bindO (ldB h4 (add a150 6)) fun (x158 : Bool) =>
                    condK x158 (
                      some (Sum.inl ((f1, true), h4))) (
                      bindO (ixAT 7 1 (⟨b1, 0, (some 0)⟩ : Addr) 5) fun (a151 : Addr) =>
                      bindO (ldB h4 a151) fun (x159 : Bool) =>
                      condK (!x159) (
                        ptrK f1 fun (a152 : Addr) =>
                        bindO (ldL h4 (add a152 7)) fun (x160 : Sl) =>
                        condK (decide ((((x160.len : Nat) : Int) > 0))) (
                          some (Sum.inl ((f1, true), h4))) (
                          bindO (ixAT 7 1 (⟨b1, 0, (some 0)⟩ : Addr) 6) fun (a153 : Addr) =>
                          bindO (ldB h4 a153) fun (x161 : Bool) =>
                          condK (!x161) (
                            ptrK f1 fun (a154 : Addr) =>
                            bindO (ldL h4 (add a154 8)) fun (x162 : Sl) =>
                            some (Sum.inl ((f1, (decide ((((x162.len : Nat) : Int) > 0)))), h4))) (
                            some (Sum.inl ((f1, false), h4))))) (
                        bindO (ixAT 7 1 (⟨b1, 0, (some 0)⟩ : Addr) 6) fun (a155 : Addr) =>
                        bindO (ldB h4 a155) fun (x163 : Bool) =>
                        condK (!x163) (
                          ptrK f1 fun (a156 : Addr) =>
                          bindO (ldL h4 (add a156 8)) fun (x164 : Sl) =>
                          some (Sum.inl ((f1, (decide ((((x164.len : Nat) : Int) > 0)))), h4))) (
                          some (Sum.inl ((f1, false), h4)))))) (
                    bindO (ixAT 7 1 (⟨b1, 0, (some 0)⟩ : Addr) 5) fun (a157 : Addr) =>
                    bindO (ldB h4 a157) fun (x165 : Bool) =>
                    condK (!x165) (
                      ptrK f1 fun (a158 : Addr) =>
                      bindO (ldL h4 (add a158 7)) fun (x166 : Sl) =>
                      condK (decide ((((x166.len : Nat) : Int) > 0))) (
                        some (Sum.inl ((f1, true), h4))) (
                        bindO (ixAT 7 1 (⟨b1, 0, (some 0)⟩ : Addr) 6) fun (a159 : Addr) =>
                        bindO (ldB h4 a159) fun (x167 : Bool) =>
                        condK (!x167) (
                          ptrK f1 fun (a160 : Addr) =>
                          bindO (ldL h4 (add a160 8)) fun (x168 : Sl) =>
                          some (Sum.inl ((f1, (decide ((((x168.len : Nat) : Int) > 0)))), h4))) (
                          some (Sum.inl ((f1, false), h4))))) (
                      bindO (ixAT 7 1 (⟨b1, 0, (some 0)⟩ : Addr) 6) fun (a161 : Addr) =>
                      bindO (ldB h4 a161) fun (x169 : Bool) =>
                      condK (!x169) (
                        ptrK f1 fun (a162 : Addr) =>
                        bindO (ldL h4 (add a162 8)) fun (x170 : Sl) =>
                        some (Sum.inl ((f1, (decide ((((x170.len : Nat) : Int) > 0)))), h4))) (
                        some (Sum.inl ((f1, false), h4)))))))) (
              bindO (ixAT 7 1 (⟨b1, 0, (some 0)⟩ : Addr) 3) fun (a163 : Addr) =>
              bindO (ldB h4 a163) fun (x171 : Bool) =>
              condK (!x171) (
                ptrK f1 fun (a164 : Addr) =>
                bindO (ldI .i64 h4 (add a164 4)) fun (x172 : Int) =>
                condK (x172 != 0) (
                  some (Sum.inl ((f1, true), h4))) (
                  bindO (ixAT 7 1 (⟨b1, 0, (some 0)⟩ : Addr) 4) fun (a165 : Addr) =>
                  bindO (ldB h4 a165) fun (x173 : Bool) =>
                  condK (!x173) (
                    ptrK f1 fun (a166 : Addr) =>
                    bindO (ldB h4 (add a166 6)) fun (x174 : Bool) =>
                    condK x174 (
                      some (Sum.inl ((f1, true), h4))) (
                      bindO (ixAT 7 1 (⟨b1, 0, (some 0)⟩ : Addr) 5) fun (a167 : Addr) =>
                      bindO (ldB h4 a167) fun (x175 : Bool) =>
                      condK (!x175) (
                        ptrK f1 fun (a168 : Addr) =>
                        bindO (ldL h4 (add a168 7)) fun (x176 : Sl) =>
                        condK (decide ((((x176.len : Nat) : Int) > 0))) (
                          some (Sum.inl ((f1, true), h4))) (
                          bindO (ixAT 7 1 (⟨b1, 0, (some 0)⟩ : Addr) 6) fun (a169 : Addr) =>
                          bindO (ldB h4 a169) fun (x177 : Bool) =>
                          condK (!x177) (
                            ptrK f1 fun (a170 : Addr) =>
                            bindO (ldL h4 (add a170 8)) fun (x178 : Sl) =>
                            some (Sum.inl ((f1, (decide ((((x178.len : Nat) : Int) > 0)))), h4))) (
                            some (Sum.inl ((f1, false), h4))))) (
                        bindO (ixAT 7 1 (⟨b1, 0, (some 0)⟩ : Addr) 6) fun (a171 : Addr) =>
                        bindO (ldB h4 a171) fun (x179 : Bool) =>
                        condK (!x179) (
                          ptrK f1 fun (a172 : Addr) =>
                          bindO (ldL h4 (add a172 8)) fun (x180 : Sl) =>
                          some (Sum.inl ((f1, (decide ((((x180.len : Nat) : Int) > 0)))), h4))) (
                          some (Sum.inl ((f1, false), h4)))))) (
                    bindO (ixAT 7 1 (⟨b1, 0, (some 0)⟩ : Addr) 5) fun (a173 : Addr) =>
                    bindO (ldB h4 a173) fun (x181 : Bool) =>
                    condK (!x181) (
                      ptrK f1 fun (a174 : Addr) =>
                      bindO (ldL h4 (add a174 7)) fun (x182 : Sl) =>
                      condK (decide ((((x182.len : Nat) : Int) > 0))) (
                        some (Sum.inl ((f1, true), h4))) (
                        bindO (ixAT 7 1 (⟨b1, 0, (some 0)⟩ : Addr) 6) fun (a175 : Addr) =>
                        bindO (ldB h4 a175) fun (x183 : Bool) =>
                        condK (!x183) (
                          ptrK f1 fun (a176 : Addr) =>
                          bindO (ldL h4 (add a176 8)) fun (x184 : Sl) =>
                          some (Sum.inl ((f1, (decide ((((x184.len : Nat) : Int) > 0)))), h4))) (
                          some (Sum.inl ((f1, false), h4))))) (
                      bindO (ixAT 7 1 (⟨b1, 0, (some 0)⟩ : Addr) 6) fun (a177 : Addr) =>
                      bindO (ldB h4 a177) fun (x185 : Bool) =>
                      condK (!x185) (
                        ptrK f1 fun (a178 : Addr) =>
                        bindO (ldL h4 (add a178 8)) fun (x186 : Sl) =>
                        some (Sum.inl ((f1, (decide ((((x186.len : Nat) : Int) > 0)))), h4))) (
                        some (Sum.inl ((f1, false), h4))))))) (
                bindO (ixAT 7 1 (⟨b1, 0, (some 0)⟩ : Addr) 4) fun (a179 : Addr) =>
                bindO (ldB h4 a179) fun (x187 : Bool) =>
                condK (!x187) (
                  ptrK f1 fun (a180 : Addr) =>
                  bindO (ldB h4 (add a180 6)) fun (x188 : Bool) =>
                  condK x188 (
                    some (Sum.inl ((f1, true), h4))) (
                    bindO (ixAT 7 1 (⟨b1, 0, (some 0)⟩ : Addr) 5) fun (a181 : Addr) =>
                    bindO (ldB h4 a181) fun (x189 : Bool) =>
                    condK (!x189) (
                      ptrK f1 fun (a182 : Addr) =>
                      bindO (ldL h4 (add a182 7)) fun (x190 : Sl) =>
                      condK (decide ((((x190.len : Nat) : Int) > 0))) (
                        some (Sum.inl ((f1, true), h4))) (
                        bindO (ixAT 7 1 (⟨b1, 0, (some 0)⟩ : Addr) 6) fun (a183 : Addr) =>
                        bindO (ldB h4 a183) fun (x191 : Bool) =>
                        condK (!x191) (
                          ptrK f1 fun (a184 : Addr) =>
                          bindO (ldL h4 (add a184 8)) fun (x192 : Sl) =>
                          some (Sum.inl ((f1, (decide ((((x192.len : Nat) : Int) > 0)))), h4))) (
                          some (Sum.inl ((f1, false), h4))))) (
                      bindO (ixAT 7 1 (⟨b1, 0, (some 0)⟩ : Addr) 6) fun (a185 : Addr) =>
                      bindO (ldB h4 a185) fun (x193 : Bool) =>
                      condK (!x193) (
                        ptrK f1 fun (a186 : Addr) =>
                        bindO (ldL h4 (add a186 8)) fun (x194 : Sl) =>
                        some (Sum.inl ((f1, (decide ((((x194.len : Nat) : Int) > 0)))), h4))) (
                        some (Sum.inl ((f1, false), h4)))))) (
                  bindO (ixAT 7 1 (⟨b1, 0, (some 0)⟩ : Addr) 5) fun (a187 : Addr) =>
                  bindO (ldB h4 a187) fun (x195 : Bool) =>
                  condK (!x195) (
                    ptrK f1 fun (a188 : Addr) =>
                    bindO (ldL h4 (add a188 7)) fun (x196 : Sl) =>
                    condK (decide ((((x196.len : Nat) : Int) > 0))) (
                      some (Sum.inl ((f1, true), h4))) (
                      bindO (ixAT 7 1 (⟨b1, 0, (some 0)⟩ : Addr) 6) fun (a189 : Addr) =>
                      bindO (ldB h4 a189) fun (x197 : Bool) =>
                      condK (!x197) (
                        ptrK f1 fun (a190 : Addr) =>
                        bindO (ldL h4 (add a190 8)) fun (x198 : Sl) =>
                        some (Sum.inl ((f1, (decide ((((x198.len : Nat) : Int) > 0)))), h4))) (
                        some (Sum.inl ((f1, false), h4))))) (
                    bindO (ixAT 7 1 (⟨b1, 0, (some 0)⟩ : Addr) 6) fun (a191 : Addr) =>
                    bindO (ldB h4 a191) fun (x199 : Bool) =>
                    condK (!x199) (
                      ptrK f1 fun (a192 : Addr) =>
                      bindO (ldL h4 (add a192 8)) fun (x200 : Sl) =>
                      some (Sum.inl ((f1, (decide ((((x200.len : Nat) : Int) > 0)))), h4))) (
                      some (Sum.inl ((f1, false), h4))))))))) (
          bindO (ixAT 7 1 (⟨b1, 0, (some 0)⟩ : Addr) 2) fun (a193 : Addr) =>
          bindO (ldB h4 a193) fun (x201 : Bool) =>
          condK (!x201) (
            ptrK f1 fun (a194 : Addr) =>
            bindO (ldI .i64 h4 (add a194 3)) fun (x202 : Int) =>
            condK (x202 != 0) (
              some (Sum.inl ((f1, true), h4))) (
              bindO (ixAT 7 1 (⟨b1, 0, (some 0)⟩ : Addr) 3) fun (a195 : Addr) =>
              bindO (ldB h4 a195) fun (x203 : Bool) =>
              condK (!x203) (
                ptrK f1 fun (a196 : Addr) =>
                bindO (ldI .i64 h4 (add a196 4)) fun (x204 : Int) =>
                condK (x204 != 0) (
                  some (Sum.inl ((f1, true), h4))) (
                  bindO (ixAT 7 1 (⟨b1, 0, (some 0)⟩ : Addr) 4) fun (a197 : Addr) =>
                  bindO (ldB h4 a197) fun (x205 : Bool) =>
                  condK (!x205) (
                    ptrK f1 fun (a198 : Addr) =>
                    bindO (ldB h4 (add a198 6)) fun (x206 : Bool) =>
                    condK x206 (
                      some (Sum.inl ((f1, true), h4))) (
                      bindO (ixAT 7 1 (⟨b1, 0, (some 0)⟩ : Addr) 5) fun (a199 : Addr) =>
                      bindO (ldB h4 a199) fun (x207 : Bool) =>
                      condK (!x207) (
                        ptrK f1 fun (a200 : Addr) =>
                        bindO (ldL h4 (add a200 7)) fun (x208 : Sl) =>
                        condK (decide ((((x208.len : Nat) : Int) > 0))) (
                          some (Sum.inl ((f1, true), h4))) (
                          bindO (ixAT 7 1 (⟨b1, 0, (some 0)⟩ : Addr) 6) fun (a201 : Addr) =>
                          bindO (ldB h4 a201) fun (x209 : Bool) =>
                          condK (!x209) (
                            ptrK f1 fun (a202 : Addr) =>
                            bindO (ldL h4 (add a202 8)) fun (x210 : Sl) =>
                            some (Sum.inl ((f1, (decide ((((x210.len : Nat) : Int) > 0)))), h4))) (
                            some (Sum.inl ((f1, false), h4))))) (
                        bindO (ixAT 7 1 (⟨b1, 0, (some 0)⟩ : Addr) 6) fun (a203 : Addr) =>
                        bindO (ldB h4 a203) fun (x211 : Bool) =>
                        condK (!x211) (
                          ptrK f1 fun (a204 : Addr) =>
                          bindO (ldL h4 (add a204 8)) fun (x212 : Sl) =>
                          some (Sum.inl ((f1, (decide ((((x212.len : Nat) : Int) > 0)))), h4))) (
                          some (Sum.inl ((f1, false), h4)))))) (
                    bindO (ixAT 7 1 (⟨b1, 0, (some 0)⟩ : Addr) 5) fun (a205 : Addr) =>
                    bindO (ldB h4 a205) fun (x213 : Bool) =>
                    condK (!x213) (
                      ptrK f1 fun (a206 : Addr) =>
                      bindO (ldL h4 (add a206 7)) fun (x214 : Sl) =>
                      condK (decide ((((x214.len : Nat) : Int) > 0))) (
                        some (Sum.inl ((f1, true), h4))) (
                        bindO (ixAT 7 1 (⟨b1, 0, (some 0)⟩ : Addr) 6) fun (a207 : Addr) =>
                        bindO (ldB h4 a207) fun (x215 : Bool) =>
                        condK (!x215) (
                          ptrK f1 fun (a208 : Addr) =>
                          bindO (ldL h4 (add a208 8)) fun (x216 : Sl) =>
                          some (Sum.inl ((f1, (decide ((((x216.len : Nat) : Int) > 0)))), h4))) (
                          some (Sum.inl ((f1, false), h4))))) (
                      bindO (ixAT 7 1 (⟨b1, 0, (some 0)⟩ : Addr) 6) fun (a209 : Addr) =>
                      bindO (ldB h4 a209) fun (x217 : Bool) =>
                      condK (!x217) (
                        ptrK f1 fun (a210 : Addr) =>
                        bindO (ldL h4 (add a210 8)) fun (x218 : Sl) =>
                        some (Sum.inl ((f1, (decide ((((x218.len : Nat) : Int) > 0)))), h4))) (
                        some (Sum.inl ((f1, false), h4))))))) (
                bindO (ixAT 7 1 (⟨b1, 0, (some 0)⟩ : Addr) 4) fun (a211 : Addr) =>
                bindO (ldB h4 a211) fun (x219 : Bool) =>
                condK (!x219) (
                  ptrK f1 fun (a212 : Addr) =>
                  bindO (ldB h4 (add a212 6)) fun (x220 : Bool) =>
                  condK x220 (
                    some (Sum.inl ((f1, true), h4))) (
                    bindO (ixAT 7 1 (⟨b1, 0, (some 0)⟩ : Addr) 5) fun (a213 : Addr) =>
                    bindO (ldB h4 a213) fun (x221 : Bool) =>
                    condK (!x221) (
                      ptrK f1 fun (a214 : Addr) =>
                      bindO (ldL h4 (add a214 7)) fun (x222 : Sl) =>
                      condK (decide ((((x222.len : Nat) : Int) > 0))) (
                        some (Sum.inl ((f1, true), h4))) (
                        bindO (ixAT 7 1 (⟨b1, 0, (some 0)⟩ : Addr) 6) fun (a215 : Addr) =>
                        bindO (ldB h4 a215) fun (x223 : Bool) =>
                        condK (!x223) (
                          ptrK f1 fun (a216 : Addr) =>
                          bindO (ldL h4 (add a216 8)) fun (x224 : Sl) =>
                          some (Sum.inl ((f1, (decide ((((x224.len : Nat) : Int) > 0)))), h4))) (
                          some (Sum.inl ((f1, false), h4))))) (
                      bindO (ixAT 7 1 (⟨b1, 0, (some 0)⟩ : Addr) 6) fun (a217 : Addr) =>
                      bindO (ldB h4 a217) fun (x225 : Bool) =>
                      condK (!x225) (
                        ptrK f1 fun (a218 : Addr) =>
                        bindO (ldL h4 (add a218 8)) fun (x226 : Sl) =>
                        some (Sum.inl ((f1, (decide ((((x226.len : Nat) : Int) > 0)))), h4))) (
                        some (Sum.inl ((f1, false), h4)))))) (
                  bindO (ixAT 7 1 (⟨b1, 0, (some 0)⟩ : Addr) 5) fun (a219 : Addr) =>
                  bindO (ldB h4 a219) fun (x227 : Bool) =>
                  condK (!x227) (
                    ptrK f1 fun (a220 : Addr) =>
                    bindO (ldL h4 (add a220 7)) fun (x228 : Sl) =>
                    condK (decide ((((x228.len : Nat) : Int) > 0))) (
                      some (Sum.inl ((f1, true), h4))) (
                      bindO (ixAT 7 1 (⟨b1, 0, (some 0)⟩ : Addr) 6) fun (a221 : Addr) =>
                      bindO (ldB h4 a221) fun (x229 : Bool) =>
                      condK (!x229) (
                        ptrK f1 fun (a222 : Addr) =>
                        bindO (ldL h4 (add a222 8)) fun (x230 : Sl) =>
                        some (Sum.inl ((f1, (decide ((((x230.len : Nat) : Int) > 0)))), h4))) (
                        some (Sum.inl ((f1, false), h4))))) (
                    bindO (ixAT 7 1 (⟨b1, 0, (some 0)⟩ : Addr) 6) fun (a223 : Addr) =>
                    bindO (ldB h4 a223) fun (x231 : Bool) =>
                    condK (!x231) (
                      ptrK f1 fun (a224 : Addr) =>
                      bindO (ldL h4 (add a224 8)) fun (x232 : Sl) =>
                      some (Sum.inl ((f1, (decide ((((x232.len : Nat) : Int) > 0)))), h4))) (
                      some (Sum.inl ((f1, false), h4)))))))) (
            bindO (ixAT 7 1 (⟨b1, 0, (some 0)⟩ : Addr) 3) fun (a225 : Addr) =>
            bindO (ldB h4 a225) fun (x233 : Bool) =>
            condK (!x233) (
              ptrK f1 fun (a226 : Addr) =>
              bindO (ldI .i64 h4 (add a226 4)) fun (x234 : Int) =>
              condK (x234 != 0) (
                some (Sum.inl ((f1, true), h4))) (
                bindO (ixAT 7 1 (⟨b1, 0, (some 0)⟩ : Addr) 4) fun (a227 : Addr) =>
                bindO (ldB h4 a227) fun (x235 : Bool) =>
                condK (!x235) (
                  ptrK f1 fun (a228 : Addr) =>
                  bindO (ldB h4 (add a228 6)) fun (x236 : Bool) =>
                  condK x236 (
                    some (Sum.inl ((f1, true), h4))) (
                    bindO (ixAT 7 1 (⟨b1, 0, (some 0)⟩ : Addr) 5) fun (a229 : Addr) =>
                    bindO (ldB h4 a229) fun (x237 : Bool) =>
                    condK (!x237) (
                      ptrK f1 fun (a230 : Addr) =>
                      bindO (ldL h4 (add a230 7)) fun (x238 : Sl) =>
                      condK (decide ((((x238.len : Nat) : Int) > 0))) (
                        some (Sum.inl ((f1, true), h4))) (
                        bindO (ixAT 7 1 (⟨b1, 0, (some 0)⟩ : Addr) 6) fun (a231 : Addr) =>
                        bindO (ldB h4 a231) fun (x239 : Bool) =>
                        condK (!x239) (
                          ptrK f1 fun (a232 : Addr) =>
                          bindO (ldL h4 (add a232 8)) fun (x240 : Sl) =>
                          some (Sum.inl ((f1, (decide ((((x240.len : Nat) : Int) > 0)))), h4))) (
                          some (Sum.inl ((f1, false), h4))))) (
                      bindO (ixAT 7 1 (⟨b1, 0, (some 0)⟩ : Addr) 6) fun (a233 : Addr) =>
                      bindO (ldB h4 a233) fun (x241 : Bool) =>
                      condK (!x241) (
                        ptrK f1 fun (a234 : Addr) =>
                        bindO (ldL h4 (add a234 8)) fun (x242 : Sl) =>
                        some (Sum.inl ((f1, (decide ((((x242.len : Nat) : Int) > 0)))), h4))) (
                        some (Sum.inl ((f1, false), h4)))))) (
                  bindO (ixAT 7 1 (⟨b1, 0, (some 0)⟩ : Addr) 5) fun (a235 : Addr) =>
                  bindO (ldB h4 a235) fun (x243 : Bool) =>
                  condK (!x243) (
                    ptrK f1 fun (a236 : Addr) =>
                    bindO (ldL h4 (add a236 7)) fun (x244 : Sl) =>
                    condK (decide ((((x244.len : Nat) : Int) > 0))) (
                      some (Sum.inl ((f1, true), h4))) (
                      bindO (ixAT 7 1 (⟨b1, 0, (some 0)⟩ : Addr) 6) fun (a237 : Addr) =>
                      bindO (ldB h4 a237) fun (x245 : Bool) =>
                      condK (!x245) (
                        ptrK f1 fun (a238 : Addr) =>
                        bindO (ldL h4 (add a238 8)) fun (x246 : Sl) =>
                        some (Sum.inl ((f1, (decide ((((x246.len : Nat) : Int) > 0)))), h4))) (
                        some (Sum.inl ((f1, false), h4))))) (
                    bindO (ixAT 7 1 (⟨b1, 0, (some 0)⟩ : Addr) 6) fun (a239 : Addr) =>
                    bindO (ldB h4 a239) fun (x247 : Bool) =>
                    condK (!x247) (
                      ptrK f1 fun (a240 : Addr) =>
                      bindO (ldL h4 (add a240 8)) fun (x248 : Sl) =>
                      some (Sum.inl ((f1, (decide ((((x248.len : Nat) : Int) > 0)))), h4))) (
                      some (Sum.inl ((f1, false), h4))))))) (
              bindO (ixAT 7 1 (⟨b1, 0, (some 0)⟩ : Addr) 4) fun (a241 : Addr) =>
              bindO (ldB h4 a241) fun (x249 : Bool) =>
              condK (!x249) (
                ptrK f1 fun (a242 : Addr) =>
                bindO (ldB h4 (add a242 6)) fun (x250 : Bool) =>
                condK x250 (
                  some (Sum.inl ((f1, true), h4))) (
                  bindO (ixAT 7 1 (⟨b1, 0, (some 0)⟩ : Addr) 5) fun (a243 : Addr) =>
                  bindO (ldB h4 a243) fun (x251 : Bool) =>
                  condK (!x251) (
                    ptrK f1 fun (a244 : Addr) =>
                    bindO (ldL h4 (add a244 7)) fun (x252 : Sl) =>
                    condK (decide ((((x252.len : Nat) : Int) > 0))) (
                      some (Sum.inl ((f1, true), h4))) (
                      bindO (ixAT 7 1 (⟨b1, 0, (some 0)⟩ : Addr) 6) fun (a245 : Addr) =>
                      bindO (ldB h4 a245) fun (x253 : Bool) =>
                      condK (!x253) (
                        ptrK f1 fun (a246 : Addr) =>
                        bindO (ldL h4 (add a246 8)) fun (x254 : Sl) =>
                        some (Sum.inl ((f1, (decide ((((x254.len : Nat) : Int) > 0)))), h4))) (
                        some (Sum.inl ((f1, false), h4))))) (
                    bindO (ixAT 7 1 (⟨b1, 0, (some 0)⟩ : Addr) 6) fun (a247 : Addr) =>
                    bindO (ldB h4 a247) fun (x255 : Bool) =>
                    condK (!x255) (
                      ptrK f1 fun (a248 : Addr) =>
                      bindO (ldL h4 (add a248 8)) fun (x256 : Sl) =>
                      some (Sum.inl ((f1, (decide ((((x256.len : Nat) : Int) > 0)))), h4))) (
                      some (Sum.inl ((f1, false), h4)))))) (
                bindO (ixAT 7 1 (⟨b1, 0, (some 0)⟩ : Addr) 5) fun (a249 : Addr) =>
                bindO (ldB h4 a249) fun (x257 : Bool) =>
                condK (!x257) (
                  ptrK f1 fun (a250 : Addr) =>
                  bindO (ldL h4 (add a250 7)) fun (x258 : Sl) =>
                  condK (decide ((((x258.len : Nat) : Int) > 0))) (
                    some (Sum.inl ((f1, true), h4))) (
                    bindO (ixAT 7 1 (⟨b1, 0, (some 0)⟩ : Addr) 6) fun (a251 : Addr) =>
                    bindO (ldB h4 a251) fun (x259 : Bool) =>
                    condK (!x259) (
                      ptrK f1 fun (a252 : Addr) =>
                      bindO (ldL h4 (add a252 8)) fun (x260 : Sl) =>
                      some (Sum.inl ((f1, (decide ((((x260.len : Nat) : Int) > 0)))), h4))) (
                      some (Sum.inl ((f1, false), h4))))) (
                  bindO (ixAT 7 1 (⟨b1, 0, (some 0)⟩ : Addr) 6) fun (a253 : Addr) =>
                  bindO (ldB h4 a253) fun (x261 : Bool) =>
                  condK (!x261) (
                    ptrK f1 fun (a254 : Addr) =>
                    bindO (ldL h4 (add a254 8)) fun (x262 : Sl) =>
                    some (Sum.inl ((f1, (decide ((((x262.len : Nat) : Int) > 0)))), h4))) (
                    some (Sum.inl ((f1, false), h4)))))))))) fun (((f2, x9), h5) : (((Option Addr) × Bool) × H)) =>
    condK x9 (
      some (false, h5)) (
      ptrK f2 fun (a1 : Addr) =>
      bindO (ldI .i64 h5 (add a1 0)) fun (x10 : Int) =>
      condK (x10 == 2) (
        ptrK f2 fun (a2 : Addr) =>
        bindO (ldL h5 (add a2 8)) fun (x11 : Sl) =>
        bind2 (ref1_rightSpans x11 h5) fun (x12 : Bool) (h6 : H) =>
        some (x12, h6)) (
        condK (x10 == 3) (
          ptrK f2 fun (a3 : Addr) =>
          bindO (ldI .i64 h5 (add a3 2)) fun (x13 : Int) =>
          ptrK f2 fun (a4 : Addr) =>
          bindO (ldL h5 (add a4 7)) fun (x14 : Sl) =>
          letO ((decide ((x13 ≤ (IntKind.wrap .i64 (4611686018427387903 - ((x14.len : Nat) : Int))))))) fun (x15 : Bool) =>
          some (x15, h5)) (
          condK (x10 == 4) (
            ptrK f2 fun (a5 : Addr) =>
            bindO (ldI .i64 h5 (add a5 4)) fun (x16 : Int) =>
            ptrK f2 fun (a6 : Addr) =>
            bindO (ldI .i64 h5 (add a6 2)) fun (x17 : Int) =>
            some ((decide ((x16 ≤ x17))), h5)) (
            condK (x10 == 9) (
              ptrK f2 fun (a7 : Addr) =>
              bindO (ldL h5 (add a7 7)) fun (x18 : Sl) =>
              some ((decide ((((x18.len : Nat) : Int) > 0))), h5)) (
              some (true, h5)))))))
noncomputable def ref1_RightFrame : (Int × Int × Int × Int × Int × Int × Bool × Sl × Sl) → H → Option ((Bool) × H) := P.ref1_RightFrame ref1_May ref1_names ref1_rightSpans
noncomputable def ann_140 : Ann := ⟨fun _ => none, fun _ => none, fun i => bif i.beq 1 then some ⟨[1, 41], [⟨false, [.ptr]⟩, ⟨false, [.bool]⟩]⟩ else bif i.beq 4 then some ⟨[1, 113], [⟨false, [.ptr]⟩, ⟨false, [.bool]⟩]⟩ else none⟩
noncomputable def E_140 : Ent := ⟨140, [⟨true, [.int .i64, .int .i64, .int .i64, .int .i64, .int .i64, .int .i64, .bool, .sl, .sl]⟩], [⟨false, [.bool]⟩], fun (x : (Int × Int × Int × Int × Int × Int × Bool × Sl × Sl)) h => ref1_RightFrame x h⟩
theorem eq_140 (ref1_May : Int → H → Option ((Bool) × H)) (ref1_names : Int → H → Option (((Bool × Bool × Bool × Bool × Bool × Bool × Bool)) × H)) (ref1_rightSpans : Sl → H → Option ((Bool) × H)) : (fun (x : PT E_140.ps) (h : H) => runFK Go.Proofs.Ythiccnmplgdheaa.Tab.D (lstK [⟨103, [⟨false, [.int .i64]⟩], [⟨false, [.bool]⟩], fun (x : Int) h => ref1_May x h⟩, ⟨177, [⟨false, [.int .i64]⟩], [⟨true, [.bool, .bool, .bool, .bool, .bool, .bool, .bool]⟩], fun (x : Int) h => ref1_names x h⟩, ⟨178, [⟨false, [.sl]⟩], [⟨false, [.bool]⟩], fun (x : Sl) h => ref1_rightSpans x h⟩]) ann_140 Try.f140 (Try.f140.body.getD .skip) E_140.ys (encP E_140.ps x) h) = (fun (x : (Int × Int × Int × Int × Int × Int × Bool × Sl × Sl)) h => P.ref1_RightFrame ref1_May ref1_names ref1_rightSpans x h) := by kernel_rfl
theorem ok_140 : E_140.ok Go.Proofs.Ythiccnmplgdheaa.Tab.D := fun x h y h' e => runFK_ok (lstK_ok [E_103, E_177, E_178] (List.forall_mem_cons.2 ⟨ok_103, List.forall_mem_cons.2 ⟨ok_177, List.forall_mem_cons.2 ⟨ok_178, fun E h => nomatch h⟩⟩⟩)) (A := ann_140) (by kernel_rfl) (show Go.Proofs.Ythiccnmplgdheaa.Tab.D.fn.get 140 = some Try.f140 by kernel_rfl) (show Try.f140.body = some (Try.f140.body.getD .skip) by kernel_rfl) ((congrFun (congrFun (eq_140 ref1_May ref1_names ref1_rightSpans) x) h).trans e)
/-! ref1_bit -/
noncomputable def ref1_bit (b : Bool) (h : H) : Option (Int × H) :=
  condK b (
    some (1, h)) (
    some (0, h))
noncomputable def ann_179 : Ann := ⟨fun _ => none, fun _ => none, fun _ => none⟩
noncomputable def E_179 : Ent := ⟨179, [⟨false, [.bool]⟩], [⟨false, [.int .i64]⟩], fun (x : Bool) h => ref1_bit x h⟩
theorem eq_179  : (fun (x : PT E_179.ps) (h : H) => runFK Go.Proofs.Ythiccnmplgdheaa.Tab.D (lstK []) ann_179 Try.f179 (Try.f179.body.getD .skip) E_179.ys (encP E_179.ps x) h) = (fun (x : Bool) h => ref1_bit x h) := by kernel_rfl
theorem ok_179 : E_179.ok Go.Proofs.Ythiccnmplgdheaa.Tab.D := fun x h y h' e => runFK_ok (lstK_ok [] (fun E h => nomatch h)) (A := ann_179) (by kernel_rfl) (show Go.Proofs.Ythiccnmplgdheaa.Tab.D.fn.get 179 = some Try.f179 by kernel_rfl) (show Try.f179.body = some (Try.f179.body.getD .skip) by kernel_rfl) ((congrFun (congrFun (eq_179 ) x) h).trans e)
/-! ref1_lay -/
noncomputable def P.ref1_lay_l1 (ref1_bit : Bool → H → Option ((Int) × H)) (ref1_Put : Sl → Sl → H → Option ((Sl) × H)) : (((Option Addr) × (Sl × Int)) × H) → Option ((((Option Addr) × (Sl × Int)) × H) ⊕ ((((Option Addr) × Sl) × H) ⊕ (Sl × H))) := fun ((f, (l, i)), h0) =>
  ptrK f fun (a0 : Addr) =>
  bindO (ldL h0 (add a0 8)) fun (x0 : Sl) =>
  condK (decide ((i < ((x0.len : Nat) : Int)))) (
    ptrK f fun (a1 : Addr) =>
    bindO (ldL h0 (add a1 8)) fun (x1 : Sl) =>
    bindO (ixT 2 x1 i) fun (a2 : Addr) =>
    bindO (ldZ [.int .i64, .int .i64] h0 a2) fun ((x2, x3) : Int × Int) =>
    newO (row 36 [(.int .i64 0), (.int .i64 0)]) h0 fun (b : Nat) (h1 : H) =>
    bindO (stZ [.int .i64, .int .i64] h1 (⟨b, 0, (some 0)⟩ : Addr) ((x2, x3) : Int × Int)) fun (h2 : H) =>
    joinO (
      condK (i == 0) (
        bindO (ixAT 2 1 (⟨b, 0, (some 0)⟩ : Addr) 1) fun (a3 : Addr) =>
        bindO (ldI .i64 h2 a3) fun (x4 : Int) =>
        newO (row 3 [(.int .i64 x4)]) h2 fun (b1 : Nat) (h3 : H) =>
        bind2 (appT 3 1 8 h3 l (⟨(some (⟨b1, 0, (some 0)⟩ : Addr)), 1, 1⟩ : Sl)) fun (x5 : Sl) (h4 : H) =>
        some (Sum.inl ((f, (x5, (i, (some (⟨b, 0, (some 0)⟩ : Addr))))), h4))) (
        ptrK f fun (a4 : Addr) =>
        letH (growIf h2 14) fun (h5 : H) =>
        bindO (ldL h5 (add a4 8)) fun (x6 : Sl) =>
        bindO (ixT 2 x6 (IntKind.wrap .i64 (i - 1))) fun (a5 : Addr) =>
        bindO (ixAT 2 1 a5 0) fun (a6 : Addr) =>
        bindO (ldI .i64 h5 a6) fun (x7 : Int) =>
        bindO (ixAT 2 1 (⟨b, 0, (some 0)⟩ : Addr) 1) fun (a7 : Addr) =>
        bindO (ldI .i64 h5 a7) fun (x8 : Int) =>
        letH (addP 4095 h2.size [(11, (row 3 [(.int .i64 (IntKind.wrap .i64 (x7 - x8)))]))] h5) fun (h6 : H) =>
        bind2 (appT 3 1 8 h6 l (⟨(some (⟨(h2.size + 11), 0, (some 0)⟩ : Addr)), 1, 1⟩ : Sl)) fun (x9 : Sl) (h7 : H) =>
        letH (addP 16383 h2.size [(11, (row 3 [(.int .i64 (IntKind.wrap .i64 (x7 - x8)))]))] h7) fun (h8 : H) =>
        letH (tickIf 14 h8) fun (h9 : H) =>
        some (Sum.inl ((f, (x9, (i, (some (⟨b, 0, (some 0)⟩ : Addr))))), h9)))) fun (((f1, (l1, (i1, x4))), h3) : (((Option Addr) × (Sl × (Int × (Option Addr)))) × H)) =>
    ptrK x4 fun (a3 : Addr) =>
    bindO (ixAT 2 1 a3 1) fun (a4 : Addr) =>
    bindO (ldI .i64 h3 a4) fun (x5 : Int) =>
    ptrK x4 fun (a5 : Addr) =>
    bindO (ixAT 2 1 a5 0) fun (a6 : Addr) =>
    bindO (ldI .i64 h3 a6) fun (x6 : Int) =>
    newO (row 3 [(.int .i64 (IntKind.wrap .i64 (x5 - x6)))]) h3 fun (b1 : Nat) (h4 : H) =>
    bind2 (appT 3 1 8 h4 l1 (⟨(some (⟨b1, 0, (some 0)⟩ : Addr)), 1, 1⟩ : Sl)) fun (x7 : Sl) (h5 : H) =>
    some (Sum.inl ((f1, (x7, (IntKind.wrap .i64 (i1 + 1)))), h5))) (
    some (Sum.inr (Sum.inl ((f, l), h0))))

noncomputable def P.ref1_lay (ref1_bit : Bool → H → Option ((Int) × H)) (ref1_Put : Sl → Sl → H → Option ((Sl) × H)) (f : Int × Int × Int × Int × Int × Int × Bool × Sl × Sl) (h : H) : Option (Sl × H) :=
  newO (row 33 [(.int .i64 f.1), (.int .i64 f.2.1), (.int .i64 f.2.2.1), (.int .i64 f.2.2.2.1), (.int .i64 f.2.2.2.2.1), (.int .i64 f.2.2.2.2.2.1), (.bool f.2.2.2.2.2.2.1), (.slice f.2.2.2.2.2.2.2.1.base f.2.2.2.2.2.2.2.1.len f.2.2.2.2.2.2.2.1.cap), (.slice f.2.2.2.2.2.2.2.2.base f.2.2.2.2.2.2.2.2.len f.2.2.2.2.2.2.2.2.cap)]) h fun (b : Nat) (h0 : H) =>
  joinO (
    bindO (ldI .i64 h0 (add (⟨b, 0, (some 0)⟩ : Addr) 0)) fun (x0 : Int) =>
    condK (x0 == 2) (
      bindO (ldL h0 (add (⟨b, 0, (some 0)⟩ : Addr) 8)) fun (x1 : Sl) =>
      newO (row 3 [(.int .i64 ((x1.len : Nat) : Int))]) h0 fun (b1 : Nat) (h1 : H) =>
      loopO (P.ref1_lay_l1 ref1_bit ref1_Put) (((some (⟨b, 0, (some 0)⟩ : Addr)), ((⟨(some (⟨b1, 0, (some 0)⟩ : Addr)), 1, 1⟩ : Sl), 0)), h1)) (
      condK (x0 == 3) (
        letH (growIf h0 12) fun (h2 : H) =>
        bindO (ldI .i64 h2 (add (⟨b, 0, (some 0)⟩ : Addr) 1)) fun (x2 : Int) =>
        bindO (ldI .i64 h2 (add (⟨b, 0, (some 0)⟩ : Addr) 2)) fun (x3 : Int) =>
        bindO (ldB h2 (add (⟨b, 0, (some 0)⟩ : Addr) 6)) fun (x4 : Bool) =>
        bind2 (ref1_bit x4 h2) fun (x5 : Int) (h3 : H) =>
        bindO (ldL h3 (add (⟨b, 0, (some 0)⟩ : Addr) 7)) fun (x6 : Sl) =>
        letH (addP 384 h0.size [(10, (row 3 [(.int .i64 x2), (.int .i64 x3), (.int .i64 x5), (.int .i64 ((x6.len : Nat) : Int))]))] h2) fun (h4 : H) =>
        condK (((x6.len : Nat) : Int) == ((x6.len : Nat) : Int)) (
          letH (addP 128 h0.size [(10, (row 3 [(.int .i64 x2), (.int .i64 x3), (.int .i64 x5), (.int .i64 ((x6.len : Nat) : Int))]))] h2) fun (h5 : H) =>
          bindO (ldL h5 (add (⟨b, 0, (some 0)⟩ : Addr) 7)) fun (x7 : Sl) =>
          condK (slEq x7.base x7.len x7.cap x6.base x6.len x6.cap) (
            letH (addP 4 h0.size [(10, (row 3 [(.int .i64 x2), (.int .i64 x3), (.int .i64 x5), (.int .i64 ((x6.len : Nat) : Int))]))] h3) fun (h6 : H) =>
            bindO (ldI .i64 h6 (add (⟨b, 0, (some 0)⟩ : Addr) 2)) fun (x8 : Int) =>
            condK (x8 == x3) (
              letH (addP 1 h0.size [(10, (row 3 [(.int .i64 x2), (.int .i64 x3), (.int .i64 x5), (.int .i64 ((x6.len : Nat) : Int))]))] h3) fun (h7 : H) =>
              bindO (ldI .i64 h7 (add (⟨b, 0, (some 0)⟩ : Addr) 1)) fun (x9 : Int) =>
              condK (x9 == x2) (
                letH (addP 4095 h0.size [(10, (row 3 [(.int .i64 x2), (.int .i64 x3), (.int .i64 x5), (.int .i64 ((x6.len : Nat) : Int))]))] h3) fun (h8 : H) =>
                letH (tickIf 12 h8) fun (h9 : H) =>
                some (Sum.inl (((some (⟨b, 0, (some 0)⟩ : Addr)), (⟨(some (⟨(h0.size + 10), 0, (some 0)⟩ : Addr)), 4, 4⟩ : Sl)), h9))) none) none) none) none) (
        condK (x0 == 4) (
          bindO (ldI .i64 h0 (add (⟨b, 0, (some 0)⟩ : Addr) 1)) fun (x10 : Int) =>
          bindO (ldI .i64 h0 (add (⟨b, 0, (some 0)⟩ : Addr) 3)) fun (x11 : Int) =>
          bindO (ldI .i64 h0 (add (⟨b, 0, (some 0)⟩ : Addr) 2)) fun (x12 : Int) =>
          bindO (ldI .i64 h0 (add (⟨b, 0, (some 0)⟩ : Addr) 4)) fun (x13 : Int) =>
          newO (row 3 [(.int .i64 x10), (.int .i64 x11), (.int .i64 x12), (.int .i64 x13)]) h0 fun (b2 : Nat) (h10 : H) =>
          some (Sum.inl (((some (⟨b, 0, (some 0)⟩ : Addr)), (⟨(some (⟨b2, 0, (some 0)⟩ : Addr)), 4, 4⟩ : Sl)), h10))) (
          condK (x0 == 5) (
            condK (x0 == 5) (
              bindO (ldI .i64 h0 (add (⟨b, 0, (some 0)⟩ : Addr) 1)) fun (x14 : Int) =>
              bindO (ldI .i64 h0 (add (⟨b, 0, (some 0)⟩ : Addr) 3)) fun (x15 : Int) =>
              newO (row 3 [(.int .i64 x14), (.int .i64 x15)]) h0 fun (b3 : Nat) (h11 : H) =>
              some (Sum.inl (((some (⟨b, 0, (some 0)⟩ : Addr)), (⟨(some (⟨b3, 0, (some 0)⟩ : Addr)), 2, 2⟩ : Sl)), h11))) (
              condK (x0 == 6) (
                condK (x0 == 6) (
                  bindO (ldI .i64 h0 (add (⟨b, 0, (some 0)⟩ : Addr) 3)) fun (x16 : Int) =>
                  newO (row 3 [(.int .i64 x16)]) h0 fun (b4 : Nat) (h12 : H) =>
                  some (Sum.inl (((some (⟨b, 0, (some 0)⟩ : Addr)), (⟨(some (⟨b4, 0, (some 0)⟩ : Addr)), 1, 1⟩ : Sl)), h12))) (
                  condK (x0 == 8) (
                    letH (growIf h0 7) fun (h13 : H) =>
                    bindO (ldI .i64 h13 (add (⟨b, 0, (some 0)⟩ : Addr) 3)) fun (x17 : Int) =>
                    bindO (ldB h13 (add (⟨b, 0, (some 0)⟩ : Addr) 6)) fun (x18 : Bool) =>
                    bind2 (ref1_bit x18 h13) fun (x19 : Int) (h14 : H) =>
                    letH (addP 1 h0.size [(5, (row 3 [(.int .i64 x17), (.int .i64 x19)]))] h14) fun (h15 : H) =>
                    bindO (ldI .i64 h15 (add (⟨b, 0, (some 0)⟩ : Addr) 3)) fun (x20 : Int) =>
                    condK (x20 == x17) (
                      letH (addP 127 h0.size [(5, (row 3 [(.int .i64 x17), (.int .i64 x19)]))] h14) fun (h16 : H) =>
                      letH (tickIf 7 h16) fun (h17 : H) =>
                      some (Sum.inl (((some (⟨b, 0, (some 0)⟩ : Addr)), (⟨(some (⟨(h0.size + 5), 0, (some 0)⟩ : Addr)), 2, 2⟩ : Sl)), h17))) none) (
                    condK (x0 == 9) (
                      bindO (ldL h0 (add (⟨b, 0, (some 0)⟩ : Addr) 7)) fun (x21 : Sl) =>
                      newO (row 3 [(.int .i64 ((x21.len : Nat) : Int))]) h0 fun (b5 : Nat) (h18 : H) =>
                      some (Sum.inl (((some (⟨b, 0, (some 0)⟩ : Addr)), (⟨(some (⟨b5, 0, (some 0)⟩ : Addr)), 1, 1⟩ : Sl)), h18))) (
                      condK (x0 == 10) (
                        condK (x0 == 10) (
                          bindO (ldI .i64 h0 (add (⟨b, 0, (some 0)⟩ : Addr) 1)) fun (x22 : Int) =>
                          newO (row 3 [(.int .i64 x22)]) h0 fun (b6 : Nat) (h19 : H) =>
                          some (Sum.inl (((some (⟨b, 0, (some 0)⟩ : Addr)), (⟨(some (⟨b6, 0, (some 0)⟩ : Addr)), 1, 1⟩ : Sl)), h19))) (
                          some (Sum.inl (((some (⟨b, 0, (some 0)⟩ : Addr)), (⟨none, 0, 0⟩ : Sl)), h0)))) (
                        condK (x0 == 11) (
                          bindO (ldI .i64 h0 (add (⟨b, 0, (some 0)⟩ : Addr) 1)) fun (x23 : Int) =>
                          newO (row 3 [(.int .i64 x23)]) h0 fun (b7 : Nat) (h20 : H) =>
                          some (Sum.inl (((some (⟨b, 0, (some 0)⟩ : Addr)), (⟨(some (⟨b7, 0, (some 0)⟩ : Addr)), 1, 1⟩ : Sl)), h20))) (
                          some (Sum.inl (((some (⟨b, 0, (some 0)⟩ : Addr)), (⟨none, 0, 0⟩ : Sl)), h0)))))))) (
                condK (x0 == 12) (
                  bindO (ldI .i64 h0 (add (⟨b, 0, (some 0)⟩ : Addr) 3)) fun (x24 : Int) =>
                  newO (row 3 [(.int .i64 x24)]) h0 fun (b8 : Nat) (h21 : H) =>
                  some (Sum.inl (((some (⟨b, 0, (some 0)⟩ : Addr)), (⟨(some (⟨b8, 0, (some 0)⟩ : Addr)), 1, 1⟩ : Sl)), h21))) (
                  condK (x0 == 8) (
                    letH (growIf h0 7) fun (h22 : H) =>
                    bindO (ldI .i64 h22 (add (⟨b, 0, (some 0)⟩ : Addr) 3)) fun (x25 : Int) =>
                    bindO (ldB h22 (add (⟨b, 0, (some 0)⟩ : Addr) 6)) fun (x26 : Bool) =>
                    bind2 (ref1_bit x26 h22) fun (x27 : Int) (h23 : H) =>
                    letH (addP 1 h0.size [(5, (row 3 [(.int .i64 x25), (.int .i64 x27)]))] h23) fun (h24 : H) =>
                    bindO (ldI .i64 h24 (add (⟨b, 0, (some 0)⟩ : Addr) 3)) fun (x28 : Int) =>
                    condK (x28 == x25) (
                      letH (addP 127 h0.size [(5, (row 3 [(.int .i64 x25), (.int .i64 x27)]))] h23) fun (h25 : H) =>
                      letH (tickIf 7 h25) fun (h26 : H) =>
                      some (Sum.inl (((some (⟨b, 0, (some 0)⟩ : Addr)), (⟨(some (⟨(h0.size + 5), 0, (some 0)⟩ : Addr)), 2, 2⟩ : Sl)), h26))) none) (
                    condK (x0 == 9) (
                      bindO (ldL h0 (add (⟨b, 0, (some 0)⟩ : Addr) 7)) fun (x29 : Sl) =>
                      newO (row 3 [(.int .i64 ((x29.len : Nat) : Int))]) h0 fun (b9 : Nat) (h27 : H) =>
                      some (Sum.inl (((some (⟨b, 0, (some 0)⟩ : Addr)), (⟨(some (⟨b9, 0, (some 0)⟩ : Addr)), 1, 1⟩ : Sl)), h27))) (
                      condK (x0 == 10) (
                        condK (x0 == 10) (
                          bindO (ldI .i64 h0 (add (⟨b, 0, (some 0)⟩ : Addr) 1)) fun (x30 : Int) =>
                          newO (row 3 [(.int .i64 x30)]) h0 fun (b10 : Nat) (h28 : H) =>
                          some (Sum.inl (((some (⟨b, 0, (some 0)⟩ : Addr)), (⟨(some (⟨b10, 0, (some 0)⟩ : Addr)), 1, 1⟩ : Sl)), h28))) (
                          some (Sum.inl (((some (⟨b, 0, (some 0)⟩ : Addr)), (⟨none, 0, 0⟩ : Sl)), h0)))) (
                        condK (x0 == 11) (
                          bindO (ldI .i64 h0 (add (⟨b, 0, (some 0)⟩ : Addr) 1)) fun (x31 : Int) =>
                          newO (row 3 [(.int .i64 x31)]) h0 fun (b11 : Nat) (h29 : H) =>
                          some (Sum.inl (((some (⟨b, 0, (some 0)⟩ : Addr)), (⟨(some (⟨b11, 0, (some 0)⟩ : Addr)), 1, 1⟩ : Sl)), h29))) (
                          some (Sum.inl (((some (⟨b, 0, (some 0)⟩ : Addr)), (⟨none, 0, 0⟩ : Sl)), h0)))))))))) (
            condK (x0 == 7) (
              bindO (ldI .i64 h0 (add (⟨b, 0, (some 0)⟩ : Addr) 1)) fun (x32 : Int) =>
              bindO (ldI .i64 h0 (add (⟨b, 0, (some 0)⟩ : Addr) 3)) fun (x33 : Int) =>
              newO (row 3 [(.int .i64 x32), (.int .i64 x33)]) h0 fun (b12 : Nat) (h30 : H) =>
              some (Sum.inl (((some (⟨b, 0, (some 0)⟩ : Addr)), (⟨(some (⟨b12, 0, (some 0)⟩ : Addr)), 2, 2⟩ : Sl)), h30))) (
              condK (x0 == 6) (
                condK (x0 == 6) (
                  bindO (ldI .i64 h0 (add (⟨b, 0, (some 0)⟩ : Addr) 3)) fun (x34 : Int) =>
                  newO (row 3 [(.int .i64 x34)]) h0 fun (b13 : Nat) (h31 : H) =>
                  some (Sum.inl (((some (⟨b, 0, (some 0)⟩ : Addr)), (⟨(some (⟨b13, 0, (some 0)⟩ : Addr)), 1, 1⟩ : Sl)), h31))) (
                  condK (x0 == 8) (
                    letH (growIf h0 7) fun (h32 : H) =>
                    bindO (ldI .i64 h32 (add (⟨b, 0, (some 0)⟩ : Addr) 3)) fun (x35 : Int) =>
                    bindO (ldB h32 (add (⟨b, 0, (some 0)⟩ : Addr) 6)) fun (x36 : Bool) =>
                    bind2 (ref1_bit x36 h32) fun (x37 : Int) (h33 : H) =>
                    letH (addP 1 h0.size [(5, (row 3 [(.int .i64 x35), (.int .i64 x37)]))] h33) fun (h34 : H) =>
                    bindO (ldI .i64 h34 (add (⟨b, 0, (some 0)⟩ : Addr) 3)) fun (x38 : Int) =>
                    condK (x38 == x35) (
                      letH (addP 127 h0.size [(5, (row 3 [(.int .i64 x35), (.int .i64 x37)]))] h33) fun (h35 : H) =>
                      letH (tickIf 7 h35) fun (h36 : H) =>
                      some (Sum.inl (((some (⟨b, 0, (some 0)⟩ : Addr)), (⟨(some (⟨(h0.size + 5), 0, (some 0)⟩ : Addr)), 2, 2⟩ : Sl)), h36))) none) (
                    condK (x0 == 9) (
                      bindO (ldL h0 (add (⟨b, 0, (some 0)⟩ : Addr) 7)) fun (x39 : Sl) =>
                      newO (row 3 [(.int .i64 ((x39.len : Nat) : Int))]) h0 fun (b14 : Nat) (h37 : H) =>
                      some (Sum.inl (((some (⟨b, 0, (some 0)⟩ : Addr)), (⟨(some (⟨b14, 0, (some 0)⟩ : Addr)), 1, 1⟩ : Sl)), h37))) (
                      condK (x0 == 10) (
                        condK (x0 == 10) (
                          bindO (ldI .i64 h0 (add (⟨b, 0, (some 0)⟩ : Addr) 1)) fun (x40 : Int) =>
                          newO (row 3 [(.int .i64 x40)]) h0 fun (b15 : Nat) (h38 : H) =>
                          some (Sum.inl (((some (⟨b, 0, (some 0)⟩ : Addr)), (⟨(some (⟨b15, 0, (some 0)⟩ : Addr)), 1, 1⟩ : Sl)), h38))) (
                          some (Sum.inl (((some (⟨b, 0, (some 0)⟩ : Addr)), (⟨none, 0, 0⟩ : Sl)), h0)))) (
                        condK (x0 == 11) (
                          bindO (ldI .i64 h0 (add (⟨b, 0, (some 0)⟩ : Addr) 1)) fun (x41 : Int) =>
                          newO (row 3 [(.int .i64 x41)]) h0 fun (b16 : Nat) (h39 : H) =>
                          some (Sum.inl (((some (⟨b, 0, (some 0)⟩ : Addr)), (⟨(some (⟨b16, 0, (some 0)⟩ : Addr)), 1, 1⟩ : Sl)), h39))) (
                          some (Sum.inl (((some (⟨b, 0, (some 0)⟩ : Addr)), (⟨none, 0, 0⟩ : Sl)), h0)))))))) (
                condK (x0 == 12) (
                  bindO (ldI .i64 h0 (add (⟨b, 0, (some 0)⟩ : Addr) 3)) fun (x42 : Int) =>
                  newO (row 3 [(.int .i64 x42)]) h0 fun (b17 : Nat) (h40 : H) =>
                  some (Sum.inl (((some (⟨b, 0, (some 0)⟩ : Addr)), (⟨(some (⟨b17, 0, (some 0)⟩ : Addr)), 1, 1⟩ : Sl)), h40))) (
                  condK (x0 == 8) (
                    letH (growIf h0 7) fun (h41 : H) =>
                    bindO (ldI .i64 h41 (add (⟨b, 0, (some 0)⟩ : Addr) 3)) fun (x43 : Int) =>
                    bindO (ldB h41 (add (⟨b, 0, (some 0)⟩ : Addr) 6)) fun (x44 : Bool) =>
                    bind2 (ref1_bit x44 h41) fun (x45 : Int) (h42 : H) =>
                    letH (addP 1 h0.size [(5, (row 3 [(.int .i64 x43), (.int .i64 x45)]))] h42) fun (h43 : H) =>
                    bindO (ldI .i64 h43 (add (⟨b, 0, (some 0)⟩ : Addr) 3)) fun (x46 : Int) =>
                    condK (x46 == x43) (
                      letH (addP 127 h0.size [(5, (row 3 [(.int .i64 x43), (.int .i64 x45)]))] h42) fun (h44 : H) =>
                      letH (tickIf 7 h44) fun (h45 : H) =>
                      some (Sum.inl (((some (⟨b, 0, (some 0)⟩ : Addr)), (⟨(some (⟨(h0.size + 5), 0, (some 0)⟩ : Addr)), 2, 2⟩ : Sl)), h45))) none) (
                    condK (x0 == 9) (
                      bindO (ldL h0 (add (⟨b, 0, (some 0)⟩ : Addr) 7)) fun (x47 : Sl) =>
                      newO (row 3 [(.int .i64 ((x47.len : Nat) : Int))]) h0 fun (b18 : Nat) (h46 : H) =>
                      some (Sum.inl (((some (⟨b, 0, (some 0)⟩ : Addr)), (⟨(some (⟨b18, 0, (some 0)⟩ : Addr)), 1, 1⟩ : Sl)), h46))) (
                      condK (x0 == 10) (
                        condK (x0 == 10) (
                          bindO (ldI .i64 h0 (add (⟨b, 0, (some 0)⟩ : Addr) 1)) fun (x48 : Int) =>
                          newO (row 3 [(.int .i64 x48)]) h0 fun (b19 : Nat) (h47 : H) =>
                          some (Sum.inl (((some (⟨b, 0, (some 0)⟩ : Addr)), (⟨(some (⟨b19, 0, (some 0)⟩ : Addr)), 1, 1⟩ : Sl)), h47))) (
                          some (Sum.inl (((some (⟨b, 0, (some 0)⟩ : Addr)), (⟨none, 0, 0⟩ : Sl)), h0)))) (
                        condK (x0 == 11) (
                          bindO (ldI .i64 h0 (add (⟨b, 0, (some 0)⟩ : Addr) 1)) fun (x49 : Int) =>
                          newO (row 3 [(.int .i64 x49)]) h0 fun (b20 : Nat) (h48 : H) =>
                          some (Sum.inl (((some (⟨b, 0, (some 0)⟩ : Addr)), (⟨(some (⟨b20, 0, (some 0)⟩ : Addr)), 1, 1⟩ : Sl)), h48))) (
                          some (Sum.inl (((some (⟨b, 0, (some 0)⟩ : Addr)), (⟨none, 0, 0⟩ : Sl)), h0)))))))))))))) fun (((f1, l), h1) : (((Option Addr) × Sl) × H)) =>
  ptrK f1 fun (a0 : Addr) =>
  letH (growIf h1 10) fun (h2 : H) =>
  bindO (ldI .i64 h2 (add a0 0)) fun (x0 : Int) =>
  letH (addP 7 h1.size [(2, (row 3 [(.int .i64 x0)]))] h2) fun (h3 : H) =>
  bind2 (ref1_Put (⟨none, 0, 0⟩ : Sl) (⟨(some (⟨(h1.size + 2), 0, (some 0)⟩ : Addr)), 1, 1⟩ : Sl) h3) fun (x1 : Sl) (h4 : H) =>
  letH (addP 31 h1.size [(2, (row 3 [(.int .i64 x0)]))] h4) fun (h5 : H) =>
  bind2 (ref1_Put x1 l h5) fun (x2 : Sl) (h6 : H) =>
  ptrK f1 fun (a1 : Addr) =>
  letH (addP 64 h1.size [(2, (row 3 [(.int .i64 x0)]))] h6) fun (h7 : H) =>
  bindO (ldL h7 (add a1 7)) fun (x3 : Sl) =>
  letH (addP 255 h1.size [(2, (row 3 [(.int .i64 x0)]))] h6) fun (h8 : H) =>
  bind2 (appT 5 1 1 h8 x2 x3) fun (x4 : Sl) (h9 : H) =>
  letH (addP 64 h1.size [(2, (row 3 [(.int .i64 x0)]))] h4) fun (h10 : H) =>
  bindO (ldL h10 (add a1 7)) fun (x5 : Sl) =>
  condK (slEq x5.base x5.len x5.cap x3.base x3.len x3.cap) (
    letH (addP 64 h1.size [(2, (row 3 [(.int .i64 x0)]))] h2) fun (h11 : H) =>
    bindO (ldL h11 (add a1 7)) fun (x6 : Sl) =>
    condK (slEq x6.base x6.len x6.cap x3.base x3.len x3.cap) (
      letH (addP 1023 h1.size [(2, (row 3 [(.int .i64 x0)]))] h9) fun (h12 : H) =>
      letH (tickIf 10 h12) fun (h13 : H) =>
      some (x4, h13)) none) none
noncomputable abbrev ref1_lay_l1 := P.ref1_lay_l1 ref1_bit ref1_Put
noncomputable def ref1_lay : (Int × Int × Int × Int × Int × Int × Bool × Sl × Sl) → H → Option ((Sl) × H) := P.ref1_lay ref1_bit ref1_Put
noncomputable def ann_141 : Ann := ⟨fun i => bif i.beq 12 then some ⟨[1, 3, 4, 5], [⟨false, [.ptr]⟩, ⟨false, [.sl]⟩, ⟨false, [.int .i64]⟩, ⟨false, [.ptr]⟩]⟩ else bif i.beq 30 then some ⟨[1, 3], [⟨false, [.ptr]⟩, ⟨false, [.sl]⟩]⟩ else none, fun i => bif i.beq 6 then some ⟨[1, 3, 4], [⟨false, [.ptr]⟩, ⟨false, [.sl]⟩, ⟨false, [.int .i64]⟩]⟩ else none, fun _ => none⟩
noncomputable def E_141 : Ent := ⟨141, [⟨true, [.int .i64, .int .i64, .int .i64, .int .i64, .int .i64, .int .i64, .bool, .sl, .sl]⟩], [⟨false, [.sl]⟩], fun (x : (Int × Int × Int × Int × Int × Int × Bool × Sl × Sl)) h => ref1_lay x h⟩
theorem eq_141 (ref1_bit : Bool → H → Option ((Int) × H)) (ref1_Put : Sl → Sl → H → Option ((Sl) × H)) : (fun (x : PT E_141.ps) (h : H) => runFK Go.Proofs.Ythiccnmplgdheaa.Tab.D (lstK [⟨179, [⟨false, [.bool]⟩], [⟨false, [.int .i64]⟩], fun (x : Bool) h => ref1_bit x h⟩, ⟨47, [⟨false, [.sl]⟩, ⟨false, [.sl]⟩], [⟨false, [.sl]⟩], fun (x : Sl × Sl) h => ref1_Put x.1 x.2 h⟩]) ann_141 Try.f141 (Try.f141.body.getD .skip) E_141.ys (encP E_141.ps x) h) = (fun (x : (Int × Int × Int × Int × Int × Int × Bool × Sl × Sl)) h => P.ref1_lay ref1_bit ref1_Put x h) := by kernel_rfl
theorem ok_141 : E_141.ok Go.Proofs.Ythiccnmplgdheaa.Tab.D := fun x h y h' e => runFK_ok (lstK_ok [E_179, E_47] (List.forall_mem_cons.2 ⟨ok_179, List.forall_mem_cons.2 ⟨ok_47, fun E h => nomatch h⟩⟩)) (A := ann_141) (by kernel_rfl) (show Go.Proofs.Ythiccnmplgdheaa.Tab.D.fn.get 141 = some Try.f141 by kernel_rfl) (show Try.f141.body = some (Try.f141.body.getD .skip) by kernel_rfl) ((congrFun (congrFun (eq_141 ref1_bit ref1_Put) x) h).trans e)
/-! ref1_FrameSize -/
noncomputable def P.ref1_FrameSize (ref1_RightFrame : (Int × Int × Int × Int × Int × Int × Bool × Sl × Sl) → H → Option ((Bool) × H)) (ref1_lay : (Int × Int × Int × Int × Int × Int × Bool × Sl × Sl) → H → Option ((Sl) × H)) (f : Int × Int × Int × Int × Int × Int × Bool × Sl × Sl) (h : H) : Option (Int × H) :=
  newO (row 33 [(.int .i64 f.1), (.int .i64 f.2.1), (.int .i64 f.2.2.1), (.int .i64 f.2.2.2.1), (.int .i64 f.2.2.2.2.1), (.int .i64 f.2.2.2.2.2.1), (.bool f.2.2.2.2.2.2.1), (.slice f.2.2.2.2.2.2.2.1.base f.2.2.2.2.2.2.2.1.len f.2.2.2.2.2.2.2.1.cap), (.slice f.2.2.2.2.2.2.2.2.base f.2.2.2.2.2.2.2.2.len f.2.2.2.2.2.2.2.2.cap)]) h fun (b : Nat) (h0 : H) =>
  bindO (ldZ [.int .i64, .int .i64, .int .i64, .int .i64, .int .i64, .int .i64, .bool, .sl, .sl] h0 (⟨b, 0, (some 0)⟩ : Addr)) fun ((x0, x1, x2, x3, x4, x5, x6, x7, x8) : Int × Int × Int × Int × Int × Int × Bool × Sl × Sl) =>
  bind2 (ref1_RightFrame (x0, x1, x2, x3, x4, x5, x6, x7, x8) h0) fun (x9 : Bool) (h1 : H) =>
  condK (!x9) (
    some ((-1), h1)) (
    bindO (ldZ [.int .i64, .int .i64, .int .i64, .int .i64, .int .i64, .int .i64, .bool, .sl, .sl] h1 (⟨b, 0, (some 0)⟩ : Addr)) fun ((x10, x11, x12, x13, x14, x15, x16, x17, x18) : Int × Int × Int × Int × Int × Int × Bool × Sl × Sl) =>
    bind2 (ref1_lay (x10, x11, x12, x13, x14, x15, x16, x17, x18) h1) fun (x19 : Sl) (h2 : H) =>
    some (((x19.len : Nat) : Int), h2))
noncomputable def ref1_FrameSize : (Int × Int × Int × Int × Int × Int × Bool × Sl × Sl) → H → Option ((Int) × H) := P.ref1_FrameSize ref1_RightFrame ref1_lay
noncomputable def ann_82 : Ann := ⟨fun _ => none, fun _ => none, fun _ => none⟩
noncomputable def E_82 : Ent := ⟨82, [⟨true, [.int .i64, .int .i64, .int .i64, .int .i64, .int .i64, .int .i64, .bool, .sl, .sl]⟩], [⟨false, [.int .i64]⟩], fun (x : (Int × Int × Int × Int × Int × Int × Bool × Sl × Sl)) h => ref1_FrameSize x h⟩
theorem eq_82 (ref1_RightFrame : (Int × Int × Int × Int × Int × Int × Bool × Sl × Sl) → H → Option ((Bool) × H)) (ref1_lay : (Int × Int × Int × Int × Int × Int × Bool × Sl × Sl) → H → Option ((Sl) × H)) : (fun (x : PT E_82.ps) (h : H) => runFK Go.Proofs.Ythiccnmplgdheaa.Tab.D (lstK [⟨140, [⟨true, [.int .i64, .int .i64, .int .i64, .int .i64, .int .i64, .int .i64, .bool, .sl, .sl]⟩], [⟨false, [.bool]⟩], fun (x : (Int × Int × Int × Int × Int × Int × Bool × Sl × Sl)) h => ref1_RightFrame x h⟩, ⟨141, [⟨true, [.int .i64, .int .i64, .int .i64, .int .i64, .int .i64, .int .i64, .bool, .sl, .sl]⟩], [⟨false, [.sl]⟩], fun (x : (Int × Int × Int × Int × Int × Int × Bool × Sl × Sl)) h => ref1_lay x h⟩]) ann_82 Try.f82 (Try.f82.body.getD .skip) E_82.ys (encP E_82.ps x) h) = (fun (x : (Int × Int × Int × Int × Int × Int × Bool × Sl × Sl)) h => P.ref1_FrameSize ref1_RightFrame ref1_lay x h) := by kernel_rfl
theorem ok_82 : E_82.ok Go.Proofs.Ythiccnmplgdheaa.Tab.D := fun x h y h' e => runFK_ok (lstK_ok [E_140, E_141] (List.forall_mem_cons.2 ⟨ok_140, List.forall_mem_cons.2 ⟨ok_141, fun E h => nomatch h⟩⟩)) (A := ann_82) (by kernel_rfl) (show Go.Proofs.Ythiccnmplgdheaa.Tab.D.fn.get 82 = some Try.f82 by kernel_rfl) (show Try.f82.body = some (Try.f82.body.getD .skip) by kernel_rfl) ((congrFun (congrFun (eq_82 ref1_RightFrame ref1_lay) x) h).trans e)
/-! law6_PacketRoom -/
noncomputable def P.law6_PacketRoom_l1 (hand_Pick : Int → Int → H → Option ((Int) × H)) (hand_Right : Sl → Int → H → Option ((Sl) × H)) (ref1_FrameSize : (Int × Int × Int × Int × Int × Int × Bool × Sl × Sl) → H → Option ((Int) × H)) (packet_Lay : Int → Int → Int → Sl → H → Option ((Sl × Int) × H)) (packet_Room : Int → Int → H → Option ((Int) × H)) (law6_known : H → Option ((Bool) × H)) : ((Int × (Int × (Int × (Int × (Sl × (Int × (Sl × (Int × Int)))))))) × H) → Option (((Int × (Int × (Int × (Int × (Sl × (Int × (Sl × (Int × Int)))))))) × H) ⊕ (((Int × (Int × (Int × (Int × (Sl × Int))))) × H) ⊕ (Bool × H))) := fun ((key, (more, (a0, (n, (f, (size, (x0, (x1, x2)))))))), h0) =>
  condK (decide ((x2 < x1))) (
    bindO (ixT 9 x0 x2) fun (a1 : Addr) =>
    bindO (ldZ [.int .i64, .int .i64, .int .i64, .int .i64, .int .i64, .int .i64, .bool, .sl, .sl] h0 a1) fun ((x3, x4, x5, x6, x7, x8, x9, x10, x11) : Int × Int × Int × Int × Int × Int × Bool × Sl × Sl) =>
    newO (row 33 [(.int .i64 0), (.int .i64 0), (.int .i64 0), (.int .i64 0), (.int .i64 0), (.int .i64 0), (.bool false), (.slice none 0 0), (.slice none 0 0)]) h0 fun (b : Nat) (h1 : H) =>
    bindO (stZ [.int .i64, .int .i64, .int .i64, .int .i64, .int .i64, .int .i64, .bool, .sl, .sl] h1 (⟨b, 0, (some 0)⟩ : Addr) ((x3, x4, x5, x6, x7, x8, x9, x10, x11) : Int × Int × Int × Int × Int × Int × Bool × Sl × Sl)) fun (h2 : H) =>
    bindO (ldZ [.int .i64, .int .i64, .int .i64, .int .i64, .int .i64, .int .i64, .bool, .sl, .sl] h2 (⟨b, 0, (some 0)⟩ : Addr)) fun ((x12, x13, x14, x15, x16, x17, x18, x19, x20) : Int × Int × Int × Int × Int × Int × Bool × Sl × Sl) =>
    bind2 (ref1_FrameSize (x12, x13, x14, x15, x16, x17, x18, x19, x20) h2) fun (x21 : Int) (h3 : H) =>
    some (Sum.inl ((key, (more, (a0, (n, (f, ((IntKind.wrap .i64 (size + x21)), (x0, (x1, (IntKind.wrap .i64 (x2 + 1)))))))))), h3))) (
    some (Sum.inr (Sum.inl ((key, (more, (a0, (n, (f, size))))), h0))))

noncomputable def P.law6_PacketRoom (hand_Pick : Int → Int → H → Option ((Int) × H)) (hand_Right : Sl → Int → H → Option ((Sl) × H)) (ref1_FrameSize : (Int × Int × Int × Int × Int × Int × Bool × Sl × Sl) → H → Option ((Int) × H)) (packet_Lay : Int → Int → Int → Sl → H → Option ((Sl × Int) × H)) (packet_Room : Int → Int → H → Option ((Int) × H)) (law6_known : H → Option ((Bool) × H)) (key : Int) (acked : Int) (far : Int) (more : Int) (l : Sl) (h : H) : Option (Bool × H) :=
  bind2 (hand_Pick acked 1073741824 h) fun (x0 : Int) (h0 : H) =>
  bind2 (hand_Pick far 33554432 h0) fun (x1 : Int) (h1 : H) =>
  letO ((IntKind.wrap .i64 ((IntKind.wrap .i64 ((IntKind.wrap .i64 (x0 - 1)) + 1)) + x1))) fun (x2 : Int) =>
  bind2 (hand_Right l 5 h1) fun (x3 : Sl) (h2 : H) =>
  joinO (
    loopO (P.law6_PacketRoom_l1 hand_Pick hand_Right ref1_FrameSize packet_Lay packet_Room law6_known) ((key, (more, ((IntKind.wrap .i64 (x0 - 1)), (x2, (x3, (0, (x3, (((x3.len : Nat) : Int), 0)))))))), h2)) fun (((key1, (more1, (a0, (n, (f, size))))), h3) : ((Int × (Int × (Int × (Int × (Sl × Int))))) × H)) =>
  bind2 (packet_Lay key1 n a0 f h3) fun ((x4, x5) : Sl × Int) (h4 : H) =>
  bind2 (packet_Room n a0 h4) fun (x6 : Int) (h5 : H) =>
  condK (x5 == 0) (
    joinO (
      bind2 (law6_known h5) fun (x7 : Bool) (h6 : H) =>
      condK x7 (
        condK (decide ((size ≤ x6))) (
          letO ((((x4.len : Nat) : Int) == (IntKind.wrap .i64 ((IntKind.wrap .i64 (240 - x6)) + size)))) fun (x8 : Bool) =>
          some (Sum.inl (x8, h6))) (
          some (Sum.inl (false, h6)))) (
        some (Sum.inl (false, h6)))) fun ((x7, h6) : (Bool × H)) =>
    some (x7, h6)) (
    bind2 (law6_known h5) fun (x8 : Bool) (h7 : H) =>
    condK x8 (
      condK (x5 == 9) (
        condK (decide ((size > x6))) (
          bind2 (hand_Pick more1 67108864 h7) fun (x9 : Int) (h8 : H) =>
          bind2 (packet_Room (IntKind.wrap .i64 (n + x9)) a0 h8) fun (x10 : Int) (h9 : H) =>
          some ((decide ((x6 ≥ x10))), h9)) (
          some (false, h7))) (
        some (false, h7))) (
      some (false, h7)))
noncomputable abbrev law6_PacketRoom_l1 := P.law6_PacketRoom_l1 hand_Pick hand_Right ref1_FrameSize packet_Lay packet_Room law6_known
noncomputable def law6_PacketRoom : Int → Int → Int → Int → Sl → H → Option ((Bool) × H) := P.law6_PacketRoom hand_Pick hand_Right ref1_FrameSize packet_Lay packet_Room law6_known
noncomputable def ann_20 : Ann := ⟨fun i => bif i.beq 10 then some ⟨[0, 3, 11, 12, 13, 14], [⟨false, [.int .u64]⟩, ⟨false, [.int .i64]⟩, ⟨false, [.int .i64]⟩, ⟨false, [.int .i64]⟩, ⟨false, [.sl]⟩, ⟨false, [.int .i64]⟩]⟩ else none, fun i => bif i.beq 6 then some ⟨[0, 3, 11, 12, 13, 14, 30, 31, 32], [⟨false, [.int .u64]⟩, ⟨false, [.int .i64]⟩, ⟨false, [.int .i64]⟩, ⟨false, [.int .i64]⟩, ⟨false, [.sl]⟩, ⟨false, [.int .i64]⟩, ⟨false, [.sl]⟩, ⟨false, [.int .i64]⟩, ⟨false, [.int .i64]⟩]⟩ else none, fun i => bif i.beq 13 then some ⟨[10], [⟨false, [.bool]⟩]⟩ else none⟩
noncomputable def E_20 : Ent := ⟨20, [⟨false, [.int .u64]⟩, ⟨false, [.int .i64]⟩, ⟨false, [.int .i64]⟩, ⟨false, [.int .i64]⟩, ⟨false, [.sl]⟩], [⟨false, [.bool]⟩], fun (x : Int × Int × Int × Int × Sl) h => law6_PacketRoom x.1 x.2.1 x.2.2.1 x.2.2.2.1 x.2.2.2.2 h⟩
theorem eq_20 (hand_Pick : Int → Int → H → Option ((Int) × H)) (hand_Right : Sl → Int → H → Option ((Sl) × H)) (ref1_FrameSize : (Int × Int × Int × Int × Int × Int × Bool × Sl × Sl) → H → Option ((Int) × H)) (packet_Lay : Int → Int → Int → Sl → H → Option ((Sl × Int) × H)) (packet_Room : Int → Int → H → Option ((Int) × H)) (law6_known : H → Option ((Bool) × H)) : (fun (x : PT E_20.ps) (h : H) => runFK Go.Proofs.Ythiccnmplgdheaa.Tab.D (lstK [⟨24, [⟨false, [.int .i64]⟩, ⟨false, [.int .i64]⟩], [⟨false, [.int .i64]⟩], fun (x : Int × Int) h => hand_Pick x.1 x.2 h⟩, ⟨52, [⟨false, [.sl]⟩, ⟨false, [.int .i64]⟩], [⟨false, [.sl]⟩], fun (x : Sl × Int) h => hand_Right x.1 x.2 h⟩, ⟨82, [⟨true, [.int .i64, .int .i64, .int .i64, .int .i64, .int .i64, .int .i64, .bool, .sl, .sl]⟩], [⟨false, [.int .i64]⟩], fun (x : (Int × Int × Int × Int × Int × Int × Bool × Sl × Sl)) h => ref1_FrameSize x h⟩, ⟨72, [⟨false, [.int .u64]⟩, ⟨false, [.int .i64]⟩, ⟨false, [.int .i64]⟩, ⟨false, [.sl]⟩], [⟨false, [.sl]⟩, ⟨false, [.int .i64]⟩], fun (x : Int × Int × Int × Sl) h => packet_Lay x.1 x.2.1 x.2.2.1 x.2.2.2 h⟩, ⟨75, [⟨false, [.int .i64]⟩, ⟨false, [.int .i64]⟩], [⟨false, [.int .i64]⟩], fun (x : Int × Int) h => packet_Room x.1 x.2 h⟩, ⟨74, [], [⟨false, [.bool]⟩], fun (x : Unit) h => law6_known h⟩]) ann_20 Try.f20 (Try.f20.body.getD .skip) E_20.ys (encP E_20.ps x) h) = (fun (x : Int × Int × Int × Int × Sl) h => P.law6_PacketRoom hand_Pick hand_Right ref1_FrameSize packet_Lay packet_Room law6_known x.1 x.2.1 x.2.2.1 x.2.2.2.1 x.2.2.2.2 h) := by kernel_rfl
theorem ok_20 : E_20.ok Go.Proofs.Ythiccnmplgdheaa.Tab.D := fun x h y h' e => runFK_ok (lstK_ok [E_24, E_52, E_82, E_72, E_75, E_74] (List.forall_mem_cons.2 ⟨ok_24, List.forall_mem_cons.2 ⟨ok_52, List.forall_mem_cons.2 ⟨ok_82, List.forall_mem_cons.2 ⟨ok_72, List.forall_mem_cons.2 ⟨ok_75, List.forall_mem_cons.2 ⟨ok_74, fun E h => nomatch h⟩⟩⟩⟩⟩⟩)) (A := ann_20) (by kernel_rfl) (show Go.Proofs.Ythiccnmplgdheaa.Tab.D.fn.get 20 = some Try.f20 by kernel_rfl) (show Try.f20.body = some (Try.f20.body.getD .skip) by kernel_rfl) ((congrFun (congrFun (eq_20 hand_Pick hand_Right ref1_FrameSize packet_Lay packet_Room law6_known) x) h).trans e)
end Go.Proofs.Ythiccnmplgdheaa.T
