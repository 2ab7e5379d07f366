/- The typed texts of the program's functions, printed by a program of this session (wip/KPrint.lean) out of the machine's own definitions; each is the machine's own run, by the kernel's reduction. -/
import Derived.Test.YthiccnmplgdheaaAbsF
import Derived.Test.YthiccnmplgdheaaTab
import Derived.KernelRfl
set_option linter.unusedVariables false
set_option maxRecDepth 1000000
namespace Go.Proofs.Ythiccnmplgdheaa.T
open Go Go.Abs Go.Proofs
/-! hand_Pick -/
noncomputable def hand_Pick (n : Int) (m : Int) (h : H) : Option (Int × H) :=
  bindO (remT .i64 n m) fun (x0 : Int) =>
  joinO (
    condK (decide ((x0 < 0))) (
      some (Sum.inl ((IntKind.wrap .i64 (x0 + m)), h))) (
      some (Sum.inl (x0, h)))) fun ((n1, h0) : (Int × H)) =>
  some (n1, h0)
noncomputable def ann_24 : Ann := ⟨fun i => bif i.beq 4 then some ⟨[0], [⟨false, [.int .i64]⟩]⟩ else none, fun _ => none, fun _ => none⟩
noncomputable def E_24 : Ent := ⟨24, [⟨false, [.int .i64]⟩, ⟨false, [.int .i64]⟩], [⟨false, [.int .i64]⟩], fun (x : Int × Int) h => hand_Pick x.1 x.2 h⟩
theorem eq_24  : (fun (x : PT E_24.ps) (h : H) => runFK Go.Proofs.Ythiccnmplgdheaa.Tab.D (lstK []) ann_24 Try.f24 (Try.f24.body.getD .skip) E_24.ys (encP E_24.ps x) h) = (fun (x : Int × Int) h => hand_Pick x.1 x.2 h) := by kernel_rfl
theorem ok_24 : E_24.ok Go.Proofs.Ythiccnmplgdheaa.Tab.D := fun x h y h' e => runFK_ok (lstK_ok [] (fun E h => nomatch h)) (A := ann_24) (by kernel_rfl) (show Go.Proofs.Ythiccnmplgdheaa.Tab.D.fn.get 24 = some Try.f24 by kernel_rfl) (show Try.f24.body = some (Try.f24.body.getD .skip) by kernel_rfl) ((congrFun (congrFun (eq_24 ) x) h).trans e)
/-! frame_bare -/
noncomputable def frame_bare (f : Int × Int × Int × Int × Int × Int × Bool × Sl × Sl) (h : H) : Option ((Int × Int × Int × Int × Int × Int × Bool × Sl × Sl) × H) :=
  newO (row 33 [(.int .i64 f.1), (.int .i64 f.2.1), (.int .i64 f.2.2.1), (.int .i64 f.2.2.2.1), (.int .i64 f.2.2.2.2.1), (.int .i64 f.2.2.2.2.2.1), (.bool f.2.2.2.2.2.2.1), (.slice f.2.2.2.2.2.2.2.1.base f.2.2.2.2.2.2.2.1.len f.2.2.2.2.2.2.2.1.cap), (.slice f.2.2.2.2.2.2.2.2.base f.2.2.2.2.2.2.2.2.len f.2.2.2.2.2.2.2.2.cap)]) h fun (b : Nat) (h0 : H) =>
  newO (row 33 [(.int .i64 0), (.int .i64 0), (.int .i64 0), (.int .i64 0), (.int .i64 0), (.int .i64 0), (.bool false), (.slice none 0 0), (.slice none 0 0)]) h0 fun (b1 : Nat) (h1 : H) =>
  bindO (ldI .i64 h1 (add (⟨b, 0, (some 0)⟩ : Addr) 0)) fun (x0 : Int) =>
  newO (row 33 [(.int .i64 0), (.int .i64 0), (.int .i64 0), (.int .i64 0), (.int .i64 0), (.int .i64 0), (.bool false), (.slice none 0 0), (.slice none 0 0)]) h1 fun (b2 : Nat) (h2 : H) =>
  bindO (stZ [.int .i64, .int .i64, .int .i64, .int .i64, .int .i64, .int .i64, .bool, .sl, .sl] h2 (⟨b2, 0, (some 0)⟩ : Addr) ((x0, 0, 0, 0, 0, 0, false, (⟨none, 0, 0⟩ : Sl), (⟨none, 0, 0⟩ : Sl)) : Int × Int × Int × Int × Int × Int × Bool × Sl × Sl)) fun (h3 : H) =>
  joinO (
    bindO (ldI .i64 h3 (add (⟨b, 0, (some 0)⟩ : Addr) 0)) fun (x1 : Int) =>
    condK (x1 == 2) (
      bindO (ldL h3 (add (⟨b, 0, (some 0)⟩ : Addr) 8)) fun (x2 : Sl) =>
      bindO (st1 h3 (add (⟨b2, 0, (some 0)⟩ : Addr) 8) (.slice x2.base x2.len x2.cap)) fun (h4 : H) =>
      some (Sum.inl (((some (⟨b1, 0, (some 0)⟩ : Addr)), (some (⟨b2, 0, (some 0)⟩ : Addr))), h4))) (
      condK (x1 == 3) (
        bindO (ldI .i64 h3 (add (⟨b, 0, (some 0)⟩ : Addr) 1)) fun (x3 : Int) =>
        bindO (ldI .i64 h3 (add (⟨b, 0, (some 0)⟩ : Addr) 2)) fun (x4 : Int) =>
        bindO (ldB h3 (add (⟨b, 0, (some 0)⟩ : Addr) 6)) fun (x5 : Bool) =>
        bindO (ldL h3 (add (⟨b, 0, (some 0)⟩ : Addr) 7)) fun (x6 : Sl) =>
        bindO (st1 h3 (add (⟨b2, 0, (some 0)⟩ : Addr) 1) (.int .i64 x3)) fun (h5 : H) =>
        bindO (st1 h5 (add (⟨b2, 0, (some 0)⟩ : Addr) 2) (.int .i64 x4)) fun (h6 : H) =>
        bindO (st1 h6 (add (⟨b2, 0, (some 0)⟩ : Addr) 6) (.bool x5)) fun (h7 : H) =>
        bindO (st1 h7 (add (⟨b2, 0, (some 0)⟩ : Addr) 7) (.slice x6.base x6.len x6.cap)) fun (h8 : H) =>
        bindO (ldL h7 (add (⟨b, 0, (some 0)⟩ : Addr) 7)) fun (x7 : Sl) =>
        condK (slEq x7.base x7.len x7.cap x6.base x6.len x6.cap) (
          bindO (ldL h6 (add (⟨b, 0, (some 0)⟩ : Addr) 7)) fun (x8 : Sl) =>
          condK (slEq x8.base x8.len x8.cap x6.base x6.len x6.cap) (
            bindO (ldL h5 (add (⟨b, 0, (some 0)⟩ : Addr) 7)) fun (x9 : Sl) =>
            condK (slEq x9.base x9.len x9.cap x6.base x6.len x6.cap) (
              bindO (ldB h6 (add (⟨b, 0, (some 0)⟩ : Addr) 6)) fun (x10 : Bool) =>
              condK (x10 == x5) (
                bindO (ldB h5 (add (⟨b, 0, (some 0)⟩ : Addr) 6)) fun (x11 : Bool) =>
                condK (x11 == x5) (
                  bindO (ldI .i64 h5 (add (⟨b, 0, (some 0)⟩ : Addr) 2)) fun (x12 : Int) =>
                  condK (x12 == x4) (
                    some (Sum.inl (((some (⟨b1, 0, (some 0)⟩ : Addr)), (some (⟨b2, 0, (some 0)⟩ : Addr))), h8))) none) none) none) none) none) none) (
        condK (x1 == 4) (
          bindO (ldI .i64 h3 (add (⟨b, 0, (some 0)⟩ : Addr) 1)) fun (x13 : Int) =>
          bindO (ldI .i64 h3 (add (⟨b, 0, (some 0)⟩ : Addr) 3)) fun (x14 : Int) =>
          bindO (ldI .i64 h3 (add (⟨b, 0, (some 0)⟩ : Addr) 2)) fun (x15 : Int) =>
          bindO (ldI .i64 h3 (add (⟨b, 0, (some 0)⟩ : Addr) 4)) fun (x16 : Int) =>
          bindO (st1 h3 (add (⟨b2, 0, (some 0)⟩ : Addr) 1) (.int .i64 x13)) fun (h9 : H) =>
          bindO (st1 h9 (add (⟨b2, 0, (some 0)⟩ : Addr) 3) (.int .i64 x14)) fun (h10 : H) =>
          bindO (st1 h10 (add (⟨b2, 0, (some 0)⟩ : Addr) 2) (.int .i64 x15)) fun (h11 : H) =>
          bindO (st1 h11 (add (⟨b2, 0, (some 0)⟩ : Addr) 4) (.int .i64 x16)) fun (h12 : H) =>
          bindO (ldI .i64 h11 (add (⟨b, 0, (some 0)⟩ : Addr) 4)) fun (x17 : Int) =>
          condK (x17 == x16) (
            bindO (ldI .i64 h10 (add (⟨b, 0, (some 0)⟩ : Addr) 4)) fun (x18 : Int) =>
            condK (x18 == x16) (
              bindO (ldI .i64 h9 (add (⟨b, 0, (some 0)⟩ : Addr) 4)) fun (x19 : Int) =>
              condK (x19 == x16) (
                bindO (ldI .i64 h10 (add (⟨b, 0, (some 0)⟩ : Addr) 2)) fun (x20 : Int) =>
                condK (x20 == x15) (
                  bindO (ldI .i64 h9 (add (⟨b, 0, (some 0)⟩ : Addr) 2)) fun (x21 : Int) =>
                  condK (x21 == x15) (
                    bindO (ldI .i64 h9 (add (⟨b, 0, (some 0)⟩ : Addr) 3)) fun (x22 : Int) =>
                    condK (x22 == x14) (
                      some (Sum.inl (((some (⟨b1, 0, (some 0)⟩ : Addr)), (some (⟨b2, 0, (some 0)⟩ : Addr))), h12))) none) none) none) none) none) none) (
          condK (x1 == 5) (
            condK (x1 == 5) (
              bindO (ldI .i64 h3 (add (⟨b, 0, (some 0)⟩ : Addr) 1)) fun (x23 : Int) =>
              bindO (ldI .i64 h3 (add (⟨b, 0, (some 0)⟩ : Addr) 3)) fun (x24 : Int) =>
              bindO (st1 h3 (add (⟨b2, 0, (some 0)⟩ : Addr) 1) (.int .i64 x23)) fun (h13 : H) =>
              bindO (st1 h13 (add (⟨b2, 0, (some 0)⟩ : Addr) 3) (.int .i64 x24)) fun (h14 : H) =>
              bindO (ldI .i64 h13 (add (⟨b, 0, (some 0)⟩ : Addr) 3)) fun (x25 : Int) =>
              condK (x25 == x24) (
                some (Sum.inl (((some (⟨b1, 0, (some 0)⟩ : Addr)), (some (⟨b2, 0, (some 0)⟩ : Addr))), h14))) none) (
              condK (x1 == 6) (
                condK (x1 == 6) (
                  bindO (ldI .i64 h3 (add (⟨b, 0, (some 0)⟩ : Addr) 3)) fun (x26 : Int) =>
                  bindO (st1 h3 (add (⟨b2, 0, (some 0)⟩ : Addr) 3) (.int .i64 x26)) fun (h15 : H) =>
                  some (Sum.inl (((some (⟨b1, 0, (some 0)⟩ : Addr)), (some (⟨b2, 0, (some 0)⟩ : Addr))), h15))) (
                  condK (x1 == 8) (
                    bindO (ldI .i64 h3 (add (⟨b, 0, (some 0)⟩ : Addr) 3)) fun (x27 : Int) =>
                    bindO (ldB h3 (add (⟨b, 0, (some 0)⟩ : Addr) 6)) fun (x28 : Bool) =>
                    bindO (st1 h3 (add (⟨b2, 0, (some 0)⟩ : Addr) 3) (.int .i64 x27)) fun (h16 : H) =>
                    bindO (st1 h16 (add (⟨b2, 0, (some 0)⟩ : Addr) 6) (.bool x28)) fun (h17 : H) =>
                    bindO (ldB h16 (add (⟨b, 0, (some 0)⟩ : Addr) 6)) fun (x29 : Bool) =>
                    condK (x29 == x28) (
                      some (Sum.inl (((some (⟨b1, 0, (some 0)⟩ : Addr)), (some (⟨b2, 0, (some 0)⟩ : Addr))), h17))) none) (
                    condK (x1 == 9) (
                      bindO (ldL h3 (add (⟨b, 0, (some 0)⟩ : Addr) 7)) fun (x30 : Sl) =>
                      bindO (st1 h3 (add (⟨b2, 0, (some 0)⟩ : Addr) 7) (.slice x30.base x30.len x30.cap)) fun (h18 : H) =>
                      some (Sum.inl (((some (⟨b1, 0, (some 0)⟩ : Addr)), (some (⟨b2, 0, (some 0)⟩ : Addr))), h18))) (
                      condK (x1 == 10) (
                        condK (x1 == 10) (
                          bindO (ldI .i64 h3 (add (⟨b, 0, (some 0)⟩ : Addr) 1)) fun (x31 : Int) =>
                          bindO (st1 h3 (add (⟨b2, 0, (some 0)⟩ : Addr) 1) (.int .i64 x31)) fun (h19 : H) =>
                          some (Sum.inl (((some (⟨b1, 0, (some 0)⟩ : Addr)), (some (⟨b2, 0, (some 0)⟩ : Addr))), h19))) (
                          some (Sum.inl (((some (⟨b1, 0, (some 0)⟩ : Addr)), (some (⟨b2, 0, (some 0)⟩ : Addr))), h3)))) (
                        condK (x1 == 11) (
                          bindO (ldI .i64 h3 (add (⟨b, 0, (some 0)⟩ : Addr) 1)) fun (x32 : Int) =>
                          bindO (st1 h3 (add (⟨b2, 0, (some 0)⟩ : Addr) 1) (.int .i64 x32)) fun (h20 : H) =>
                          some (Sum.inl (((some (⟨b1, 0, (some 0)⟩ : Addr)), (some (⟨b2, 0, (some 0)⟩ : Addr))), h20))) (
                          some (Sum.inl (((some (⟨b1, 0, (some 0)⟩ : Addr)), (some (⟨b2, 0, (some 0)⟩ : Addr))), h3)))))))) (
                condK (x1 == 12) (
                  bindO (ldI .i64 h3 (add (⟨b, 0, (some 0)⟩ : Addr) 3)) fun (x33 : Int) =>
                  bindO (st1 h3 (add (⟨b2, 0, (some 0)⟩ : Addr) 3) (.int .i64 x33)) fun (h21 : H) =>
                  some (Sum.inl (((some (⟨b1, 0, (some 0)⟩ : Addr)), (some (⟨b2, 0, (some 0)⟩ : Addr))), h21))) (
                  condK (x1 == 8) (
                    bindO (ldI .i64 h3 (add (⟨b, 0, (some 0)⟩ : Addr) 3)) fun (x34 : Int) =>
                    bindO (ldB h3 (add (⟨b, 0, (some 0)⟩ : Addr) 6)) fun (x35 : Bool) =>
                    bindO (st1 h3 (add (⟨b2, 0, (some 0)⟩ : Addr) 3) (.int .i64 x34)) fun (h22 : H) =>
                    bindO (st1 h22 (add (⟨b2, 0, (some 0)⟩ : Addr) 6) (.bool x35)) fun (h23 : H) =>
                    bindO (ldB h22 (add (⟨b, 0, (some 0)⟩ : Addr) 6)) fun (x36 : Bool) =>
                    condK (x36 == x35) (
                      some (Sum.inl (((some (⟨b1, 0, (some 0)⟩ : Addr)), (some (⟨b2, 0, (some 0)⟩ : Addr))), h23))) none) (
                    condK (x1 == 9) (
                      bindO (ldL h3 (add (⟨b, 0, (some 0)⟩ : Addr) 7)) fun (x37 : Sl) =>
                      bindO (st1 h3 (add (⟨b2, 0, (some 0)⟩ : Addr) 7) (.slice x37.base x37.len x37.cap)) fun (h24 : H) =>
                      some (Sum.inl (((some (⟨b1, 0, (some 0)⟩ : Addr)), (some (⟨b2, 0, (some 0)⟩ : Addr))), h24))) (
                      condK (x1 == 10) (
                        condK (x1 == 10) (
                          bindO (ldI .i64 h3 (add (⟨b, 0, (some 0)⟩ : Addr) 1)) fun (x38 : Int) =>
                          bindO (st1 h3 (add (⟨b2, 0, (some 0)⟩ : Addr) 1) (.int .i64 x38)) fun (h25 : H) =>
                          some (Sum.inl (((some (⟨b1, 0, (some 0)⟩ : Addr)), (some (⟨b2, 0, (some 0)⟩ : Addr))), h25))) (
                          some (Sum.inl (((some (⟨b1, 0, (some 0)⟩ : Addr)), (some (⟨b2, 0, (some 0)⟩ : Addr))), h3)))) (
                        condK (x1 == 11) (
                          bindO (ldI .i64 h3 (add (⟨b, 0, (some 0)⟩ : Addr) 1)) fun (x39 : Int) =>
                          bindO (st1 h3 (add (⟨b2, 0, (some 0)⟩ : Addr) 1) (.int .i64 x39)) fun (h26 : H) =>
                          some (Sum.inl (((some (⟨b1, 0, (some 0)⟩ : Addr)), (some (⟨b2, 0, (some 0)⟩ : Addr))), h26))) (
                          some (Sum.inl (((some (⟨b1, 0, (some 0)⟩ : Addr)), (some (⟨b2, 0, (some 0)⟩ : Addr))), h3)))))))))) (
            condK (x1 == 7) (
              bindO (ldI .i64 h3 (add (⟨b, 0, (some 0)⟩ : Addr) 1)) fun (x40 : Int) =>
              bindO (ldI .i64 h3 (add (⟨b, 0, (some 0)⟩ : Addr) 3)) fun (x41 : Int) =>
              bindO (st1 h3 (add (⟨b2, 0, (some 0)⟩ : Addr) 1) (.int .i64 x40)) fun (h27 : H) =>
              bindO (st1 h27 (add (⟨b2, 0, (some 0)⟩ : Addr) 3) (.int .i64 x41)) fun (h28 : H) =>
              bindO (ldI .i64 h27 (add (⟨b, 0, (some 0)⟩ : Addr) 3)) fun (x42 : Int) =>
              condK (x42 == x41) (
                some (Sum.inl (((some (⟨b1, 0, (some 0)⟩ : Addr)), (some (⟨b2, 0, (some 0)⟩ : Addr))), h28))) none) (
              condK (x1 == 6) (
                condK (x1 == 6) (
                  bindO (ldI .i64 h3 (add (⟨b, 0, (some 0)⟩ : Addr) 3)) fun (x43 : Int) =>
                  bindO (st1 h3 (add (⟨b2, 0, (some 0)⟩ : Addr) 3) (.int .i64 x43)) fun (h29 : H) =>
                  some (Sum.inl (((some (⟨b1, 0, (some 0)⟩ : Addr)), (some (⟨b2, 0, (some 0)⟩ : Addr))), h29))) (
                  condK (x1 == 8) (
                    bindO (ldI .i64 h3 (add (⟨b, 0, (some 0)⟩ : Addr) 3)) fun (x44 : Int) =>
                    bindO (ldB h3 (add (⟨b, 0, (some 0)⟩ : Addr) 6)) fun (x45 : Bool) =>
                    bindO (st1 h3 (add (⟨b2, 0, (some 0)⟩ : Addr) 3) (.int .i64 x44)) fun (h30 : H) =>
                    bindO (st1 h30 (add (⟨b2, 0, (some 0)⟩ : Addr) 6) (.bool x45)) fun (h31 : H) =>
                    bindO (ldB h30 (add (⟨b, 0, (some 0)⟩ : Addr) 6)) fun (x46 : Bool) =>
                    condK (x46 == x45) (
                      some (Sum.inl (((some (⟨b1, 0, (some 0)⟩ : Addr)), (some (⟨b2, 0, (some 0)⟩ : Addr))), h31))) none) (
                    condK (x1 == 9) (
                      bindO (ldL h3 (add (⟨b, 0, (some 0)⟩ : Addr) 7)) fun (x47 : Sl) =>
                      bindO (st1 h3 (add (⟨b2, 0, (some 0)⟩ : Addr) 7) (.slice x47.base x47.len x47.cap)) fun (h32 : H) =>
                      some (Sum.inl (((some (⟨b1, 0, (some 0)⟩ : Addr)), (some (⟨b2, 0, (some 0)⟩ : Addr))), h32))) (
                      condK (x1 == 10) (
                        condK (x1 == 10) (
                          bindO (ldI .i64 h3 (add (⟨b, 0, (some 0)⟩ : Addr) 1)) fun (x48 : Int) =>
                          bindO (st1 h3 (add (⟨b2, 0, (some 0)⟩ : Addr) 1) (.int .i64 x48)) fun (h33 : H) =>
                          some (Sum.inl (((some (⟨b1, 0, (some 0)⟩ : Addr)), (some (⟨b2, 0, (some 0)⟩ : Addr))), h33))) (
                          some (Sum.inl (((some (⟨b1, 0, (some 0)⟩ : Addr)), (some (⟨b2, 0, (some 0)⟩ : Addr))), h3)))) (
                        condK (x1 == 11) (
                          bindO (ldI .i64 h3 (add (⟨b, 0, (some 0)⟩ : Addr) 1)) fun (x49 : Int) =>
                          bindO (st1 h3 (add (⟨b2, 0, (some 0)⟩ : Addr) 1) (.int .i64 x49)) fun (h34 : H) =>
                          some (Sum.inl (((some (⟨b1, 0, (some 0)⟩ : Addr)), (some (⟨b2, 0, (some 0)⟩ : Addr))), h34))) (
                          some (Sum.inl (((some (⟨b1, 0, (some 0)⟩ : Addr)), (some (⟨b2, 0, (some 0)⟩ : Addr))), h3)))))))) (
                condK (x1 == 12) (
                  bindO (ldI .i64 h3 (add (⟨b, 0, (some 0)⟩ : Addr) 3)) fun (x50 : Int) =>
                  bindO (st1 h3 (add (⟨b2, 0, (some 0)⟩ : Addr) 3) (.int .i64 x50)) fun (h35 : H) =>
                  some (Sum.inl (((some (⟨b1, 0, (some 0)⟩ : Addr)), (some (⟨b2, 0, (some 0)⟩ : Addr))), h35))) (
                  condK (x1 == 8) (
                    bindO (ldI .i64 h3 (add (⟨b, 0, (some 0)⟩ : Addr) 3)) fun (x51 : Int) =>
                    bindO (ldB h3 (add (⟨b, 0, (some 0)⟩ : Addr) 6)) fun (x52 : Bool) =>
                    bindO (st1 h3 (add (⟨b2, 0, (some 0)⟩ : Addr) 3) (.int .i64 x51)) fun (h36 : H) =>
                    bindO (st1 h36 (add (⟨b2, 0, (some 0)⟩ : Addr) 6) (.bool x52)) fun (h37 : H) =>
                    bindO (ldB h36 (add (⟨b, 0, (some 0)⟩ : Addr) 6)) fun (x53 : Bool) =>
                    condK (x53 == x52) (
                      some (Sum.inl (((some (⟨b1, 0, (some 0)⟩ : Addr)), (some (⟨b2, 0, (some 0)⟩ : Addr))), h37))) none) (
                    condK (x1 == 9) (
                      bindO (ldL h3 (add (⟨b, 0, (some 0)⟩ : Addr) 7)) fun (x54 : Sl) =>
                      bindO (st1 h3 (add (⟨b2, 0, (some 0)⟩ : Addr) 7) (.slice x54.base x54.len x54.cap)) fun (h38 : H) =>
                      some (Sum.inl (((some (⟨b1, 0, (some 0)⟩ : Addr)), (some (⟨b2, 0, (some 0)⟩ : Addr))), h38))) (
                      condK (x1 == 10) (
                        condK (x1 == 10) (
                          bindO (ldI .i64 h3 (add (⟨b, 0, (some 0)⟩ : Addr) 1)) fun (x55 : Int) =>
                          bindO (st1 h3 (add (⟨b2, 0, (some 0)⟩ : Addr) 1) (.int .i64 x55)) fun (h39 : H) =>
                          some (Sum.inl (((some (⟨b1, 0, (some 0)⟩ : Addr)), (some (⟨b2, 0, (some 0)⟩ : Addr))), h39))) (
                          some (Sum.inl (((some (⟨b1, 0, (some 0)⟩ : Addr)), (some (⟨b2, 0, (some 0)⟩ : Addr))), h3)))) (
                        condK (x1 == 11) (
                          bindO (ldI .i64 h3 (add (⟨b, 0, (some 0)⟩ : Addr) 1)) fun (x56 : Int) =>
                          bindO (st1 h3 (add (⟨b2, 0, (some 0)⟩ : Addr) 1) (.int .i64 x56)) fun (h40 : H) =>
                          some (Sum.inl (((some (⟨b1, 0, (some 0)⟩ : Addr)), (some (⟨b2, 0, (some 0)⟩ : Addr))), h40))) (
                          some (Sum.inl (((some (⟨b1, 0, (some 0)⟩ : Addr)), (some (⟨b2, 0, (some 0)⟩ : Addr))), h3)))))))))))))) fun (((x1, out), h4) : (((Option Addr) × (Option Addr)) × H)) =>
  ptrK out fun (a0 : Addr) =>
  bindO (ldZ [.int .i64, .int .i64, .int .i64, .int .i64, .int .i64, .int .i64, .bool, .sl, .sl] h4 a0) fun ((x2, x3, x4, x5, x6, x7, x8, x9, x10) : Int × Int × Int × Int × Int × Int × Bool × Sl × Sl) =>
  ptrK x1 fun (a1 : Addr) =>
  bindO (stZ [.int .i64, .int .i64, .int .i64, .int .i64, .int .i64, .int .i64, .bool, .sl, .sl] h4 a1 ((x2, x3, x4, x5, x6, x7, x8, x9, x10) : Int × Int × Int × Int × Int × Int × Bool × Sl × Sl)) fun (h5 : H) =>
  ptrK x1 fun (a2 : Addr) =>
  bindO (ldZ [.int .i64, .int .i64, .int .i64, .int .i64, .int .i64, .int .i64, .bool, .sl, .sl] h5 a2) fun ((x11, x12, x13, x14, x15, x16, x17, x18, x19) : Int × Int × Int × Int × Int × Int × Bool × Sl × Sl) =>
  some ((x11, (x12, (x13, (x14, (x15, (x16, (x17, (x18, x19)))))))), h5)
noncomputable def ann_90 : Ann := ⟨fun i => bif i.beq 22 then some ⟨[2, 3], [⟨false, [.ptr]⟩, ⟨false, [.ptr]⟩]⟩ else none, fun _ => none, fun _ => none⟩
noncomputable def E_90 : Ent := ⟨90, [⟨true, [.int .i64, .int .i64, .int .i64, .int .i64, .int .i64, .int .i64, .bool, .sl, .sl]⟩], [⟨true, [.int .i64, .int .i64, .int .i64, .int .i64, .int .i64, .int .i64, .bool, .sl, .sl]⟩], fun (x : (Int × Int × Int × Int × Int × Int × Bool × Sl × Sl)) h => frame_bare x h⟩
theorem eq_90  : (fun (x : PT E_90.ps) (h : H) => runFK Go.Proofs.Ythiccnmplgdheaa.Tab.D (lstK []) ann_90 Try.f90 (Try.f90.body.getD .skip) E_90.ys (encP E_90.ps x) h) = (fun (x : (Int × Int × Int × Int × Int × Int × Bool × Sl × Sl)) h => frame_bare x h) := by kernel_rfl
theorem ok_90 : E_90.ok Go.Proofs.Ythiccnmplgdheaa.Tab.D := fun x h y h' e => runFK_ok (lstK_ok [] (fun E h => nomatch h)) (A := ann_90) (by kernel_rfl) (show Go.Proofs.Ythiccnmplgdheaa.Tab.D.fn.get 90 = some Try.f90 by kernel_rfl) (show Try.f90.body = some (Try.f90.body.getD .skip) by kernel_rfl) ((congrFun (congrFun (eq_90 ) x) h).trans e)
/-! slices_Equal_byte -/
noncomputable def slices_Equal_byte_l1 : ((Sl × (Sl × (Int × Int))) × H) → Option (((Sl × (Sl × (Int × Int))) × H) ⊕ (Bool × H)) := fun ((s1, (s2, (x0, x1))), h0) =>
  condK (decide ((x1 < x0))) (
    bindO (ixT 1 s1 x1) fun (a0 : Addr) =>
    bindO (ldI .u8 h0 a0) fun (x2 : Int) =>
    bindO (ixT 1 s2 x1) fun (a1 : Addr) =>
    bindO (ldI .u8 h0 a1) fun (x3 : Int) =>
    condK (x2 != x3) (
      some (Sum.inr (false, h0))) (
      some (Sum.inl ((s1, (s2, (x0, (IntKind.wrap .i64 (x1 + 1))))), h0)))) (
    some (Sum.inr (true, h0)))

noncomputable def slices_Equal_byte (s1 : Sl) (s2 : Sl) (h : H) : Option (Bool × H) :=
  condK (((s1.len : Nat) : Int) != ((s2.len : Nat) : Int)) (
    some (false, h)) (
    loopO slices_Equal_byte_l1 ((s1, (s2, (((s1.len : Nat) : Int), 0))), h))
noncomputable def ann_144 : Ann := ⟨fun _ => none, fun i => bif i.beq 4 then some ⟨[0, 1, 12, 13], [⟨false, [.sl]⟩, ⟨false, [.sl]⟩, ⟨false, [.int .i64]⟩, ⟨false, [.int .i64]⟩]⟩ else none, fun _ => none⟩
noncomputable def E_144 : Ent := ⟨144, [⟨false, [.sl]⟩, ⟨false, [.sl]⟩], [⟨false, [.bool]⟩], fun (x : Sl × Sl) h => slices_Equal_byte x.1 x.2 h⟩
theorem eq_144  : (fun (x : PT E_144.ps) (h : H) => runFK Go.Proofs.Ythiccnmplgdheaa.Tab.D (lstK []) ann_144 Try.f144 (Try.f144.body.getD .skip) E_144.ys (encP E_144.ps x) h) = (fun (x : Sl × Sl) h => slices_Equal_byte x.1 x.2 h) := by kernel_rfl
theorem ok_144 : E_144.ok Go.Proofs.Ythiccnmplgdheaa.Tab.D := fun x h y h' e => runFK_ok (lstK_ok [] (fun E h => nomatch h)) (A := ann_144) (by kernel_rfl) (show Go.Proofs.Ythiccnmplgdheaa.Tab.D.fn.get 144 = some Try.f144 by kernel_rfl) (show Try.f144.body = some (Try.f144.body.getD .skip) by kernel_rfl) ((congrFun (congrFun (eq_144 ) x) h).trans e)
/-! slices_Equal_2_int_2_int -/
noncomputable def slices_Equal_2_int_2_int_l1 : ((Sl × (Sl × (Int × Int))) × H) → Option (((Sl × (Sl × (Int × Int))) × H) ⊕ (Bool × H)) := fun ((s1, (s2, (x0, x1))), h0) =>
  condK (decide ((x1 < x0))) (
    bindO (ixT 2 s1 x1) fun (a0 : Addr) =>
    bindO (ldZ [.int .i64, .int .i64] h0 a0) fun ((x2, x3) : Int × Int) =>
    bindO (ixT 2 s2 x1) fun (a1 : Addr) =>
    bindO (ldZ [.int .i64, .int .i64] h0 a1) fun ((x4, x5) : Int × Int) =>
    condK (!((x2 == x4) && ((x3 == x5) && true))) (
      some (Sum.inr (false, h0))) (
      some (Sum.inl ((s1, (s2, (x0, (IntKind.wrap .i64 (x1 + 1))))), h0)))) (
    some (Sum.inr (true, h0)))

noncomputable def slices_Equal_2_int_2_int (s1 : Sl) (s2 : Sl) (h : H) : Option (Bool × H) :=
  condK (((s1.len : Nat) : Int) != ((s2.len : Nat) : Int)) (
    some (false, h)) (
    loopO slices_Equal_2_int_2_int_l1 ((s1, (s2, (((s1.len : Nat) : Int), 0))), h))
noncomputable def ann_145 : Ann := ⟨fun _ => none, fun i => bif i.beq 4 then some ⟨[0, 1, 12, 13], [⟨false, [.sl]⟩, ⟨false, [.sl]⟩, ⟨false, [.int .i64]⟩, ⟨false, [.int .i64]⟩]⟩ else none, fun _ => none⟩
noncomputable def E_145 : Ent := ⟨145, [⟨false, [.sl]⟩, ⟨false, [.sl]⟩], [⟨false, [.bool]⟩], fun (x : Sl × Sl) h => slices_Equal_2_int_2_int x.1 x.2 h⟩
theorem eq_145  : (fun (x : PT E_145.ps) (h : H) => runFK Go.Proofs.Ythiccnmplgdheaa.Tab.D (lstK []) ann_145 Try.f145 (Try.f145.body.getD .skip) E_145.ys (encP E_145.ps x) h) = (fun (x : Sl × Sl) h => slices_Equal_2_int_2_int x.1 x.2 h) := by kernel_rfl
theorem ok_145 : E_145.ok Go.Proofs.Ythiccnmplgdheaa.Tab.D := fun x h y h' e => runFK_ok (lstK_ok [] (fun E h => nomatch h)) (A := ann_145) (by kernel_rfl) (show Go.Proofs.Ythiccnmplgdheaa.Tab.D.fn.get 145 = some Try.f145 by kernel_rfl) (show Try.f145.body = some (Try.f145.body.getD .skip) by kernel_rfl) ((congrFun (congrFun (eq_145 ) x) h).trans e)
/-! frame_same -/
noncomputable def P.frame_same (slices_Equal_byte : Sl → Sl → H → Option ((Bool) × H)) (slices_Equal_2_int_2_int : Sl → Sl → H → Option ((Bool) × H)) (a0 : Int × Int × Int × Int × Int × Int × Bool × Sl × Sl) (b : Int × Int × Int × Int × Int × Int × Bool × Sl × Sl) (h : H) : Option (Bool × H) :=
  newO (row 33 [(.int .i64 a0.1), (.int .i64 a0.2.1), (.int .i64 a0.2.2.1), (.int .i64 a0.2.2.2.1), (.int .i64 a0.2.2.2.2.1), (.int .i64 a0.2.2.2.2.2.1), (.bool a0.2.2.2.2.2.2.1), (.slice a0.2.2.2.2.2.2.2.1.base a0.2.2.2.2.2.2.2.1.len a0.2.2.2.2.2.2.2.1.cap), (.slice a0.2.2.2.2.2.2.2.2.base a0.2.2.2.2.2.2.2.2.len a0.2.2.2.2.2.2.2.2.cap)]) h fun (b1 : Nat) (h0 : H) =>
  newO (row 33 [(.int .i64 b.1), (.int .i64 b.2.1), (.int .i64 b.2.2.1), (.int .i64 b.2.2.2.1), (.int .i64 b.2.2.2.2.1), (.int .i64 b.2.2.2.2.2.1), (.bool b.2.2.2.2.2.2.1), (.slice b.2.2.2.2.2.2.2.1.base b.2.2.2.2.2.2.2.1.len b.2.2.2.2.2.2.2.1.cap), (.slice b.2.2.2.2.2.2.2.2.base b.2.2.2.2.2.2.2.2.len b.2.2.2.2.2.2.2.2.cap)]) h0 fun (b2 : Nat) (h1 : H) =>
  bindO (ldI .i64 h1 (add (⟨b1, 0, (some 0)⟩ : Addr) 0)) fun (x0 : Int) =>
  bindO (ldI .i64 h1 (add (⟨b2, 0, (some 0)⟩ : Addr) 0)) fun (x1 : Int) =>
  condK (x0 == x1) (
    bindO (ldI .i64 h1 (add (⟨b1, 0, (some 0)⟩ : Addr) 1)) fun (x2 : Int) =>
    bindO (ldI .i64 h1 (add (⟨b2, 0, (some 0)⟩ : Addr) 1)) fun (x3 : Int) =>
    condK (x2 == x3) (
      bindO (ldI .i64 h1 (add (⟨b1, 0, (some 0)⟩ : Addr) 2)) fun (x4 : Int) =>
      bindO (ldI .i64 h1 (add (⟨b2, 0, (some 0)⟩ : Addr) 2)) fun (x5 : Int) =>
      condK (x4 == x5) (
        bindO (ldI .i64 h1 (add (⟨b1, 0, (some 0)⟩ : Addr) 3)) fun (x6 : Int) =>
        bindO (ldI .i64 h1 (add (⟨b2, 0, (some 0)⟩ : Addr) 3)) fun (x7 : Int) =>
        condK (x6 == x7) (
          bindO (ldI .i64 h1 (add (⟨b1, 0, (some 0)⟩ : Addr) 4)) fun (x8 : Int) =>
          bindO (ldI .i64 h1 (add (⟨b2, 0, (some 0)⟩ : Addr) 4)) fun (x9 : Int) =>
          condK (x8 == x9) (
            bindO (ldB h1 (add (⟨b1, 0, (some 0)⟩ : Addr) 6)) fun (x10 : Bool) =>
            bindO (ldB h1 (add (⟨b2, 0, (some 0)⟩ : Addr) 6)) fun (x11 : Bool) =>
            condK (x10 == x11) (
              bindO (ldL h1 (add (⟨b1, 0, (some 0)⟩ : Addr) 7)) fun (x12 : Sl) =>
              bindO (ldL h1 (add (⟨b2, 0, (some 0)⟩ : Addr) 7)) fun (x13 : Sl) =>
              bind2 (slices_Equal_byte x12 x13 h1) fun (x14 : Bool) (h2 : H) =>
              condK x14 (
                bindO (ldL h2 (add (⟨b1, 0, (some 0)⟩ : Addr) 8)) fun (x15 : Sl) =>
                bindO (ldL h2 (add (⟨b2, 0, (some 0)⟩ : Addr) 8)) fun (x16 : Sl) =>
                bind2 (slices_Equal_2_int_2_int x15 x16 h2) fun (x17 : Bool) (h3 : H) =>
                some (x17, h3)) (
                some (false, h2))) (
              some (false, h1))) (
            some (false, h1))) (
          some (false, h1))) (
        some (false, h1))) (
      some (false, h1))) (
    some (false, h1))
noncomputable def frame_same : (Int × Int × Int × Int × Int × Int × Bool × Sl × Sl) → (Int × Int × Int × Int × Int × Int × Bool × Sl × Sl) → H → Option ((Bool) × H) := P.frame_same slices_Equal_byte slices_Equal_2_int_2_int
noncomputable def ann_89 : Ann := ⟨fun _ => none, fun _ => none, fun _ => none⟩
noncomputable def E_89 : Ent := ⟨89, [⟨true, [.int .i64, .int .i64, .int .i64, .int .i64, .int .i64, .int .i64, .bool, .sl, .sl]⟩, ⟨true, [.int .i64, .int .i64, .int .i64, .int .i64, .int .i64, .int .i64, .bool, .sl, .sl]⟩], [⟨false, [.bool]⟩], fun (x : ((Int × Int × Int × Int × Int × Int × Bool × Sl × Sl)) × ((Int × Int × Int × Int × Int × Int × Bool × Sl × Sl))) h => frame_same x.1 x.2 h⟩
theorem eq_89 (slices_Equal_byte : Sl → Sl → H → Option ((Bool) × H)) (slices_Equal_2_int_2_int : Sl → Sl → H → Option ((Bool) × H)) : (fun (x : PT E_89.ps) (h : H) => runFK Go.Proofs.Ythiccnmplgdheaa.Tab.D (lstK [⟨144, [⟨false, [.sl]⟩, ⟨false, [.sl]⟩], [⟨false, [.bool]⟩], fun (x : Sl × Sl) h => slices_Equal_byte x.1 x.2 h⟩, ⟨145, [⟨false, [.sl]⟩, ⟨false, [.sl]⟩], [⟨false, [.bool]⟩], fun (x : Sl × Sl) h => slices_Equal_2_int_2_int x.1 x.2 h⟩]) ann_89 Try.f89 (Try.f89.body.getD .skip) E_89.ys (encP E_89.ps x) h) = (fun (x : ((Int × Int × Int × Int × Int × Int × Bool × Sl × Sl)) × ((Int × Int × Int × Int × Int × Int × Bool × Sl × Sl))) h => P.frame_same slices_Equal_byte slices_Equal_2_int_2_int x.1 x.2 h) := by kernel_rfl
theorem ok_89 : E_89.ok Go.Proofs.Ythiccnmplgdheaa.Tab.D := fun x h y h' e => runFK_ok (lstK_ok [E_144, E_145] (List.forall_mem_cons.2 ⟨ok_144, List.forall_mem_cons.2 ⟨ok_145, fun E h => nomatch h⟩⟩)) (A := ann_89) (by kernel_rfl) (show Go.Proofs.Ythiccnmplgdheaa.Tab.D.fn.get 89 = some Try.f89 by kernel_rfl) (show Try.f89.body = some (Try.f89.body.getD .skip) by kernel_rfl) ((congrFun (congrFun (eq_89 slices_Equal_byte slices_Equal_2_int_2_int) x) h).trans e)
/-! frame_may_1 -/
noncomputable def frame_may_1 (n : Int) (h : H) : Option (Bool × H) :=
  condK (decide ((n < 0))) (
    some (true, h)) (
    some ((decide ((n > 4611686018427387903))), h))
noncomputable def ann_147 : Ann := ⟨fun _ => none, fun _ => none, fun _ => none⟩
noncomputable def E_147 : Ent := ⟨147, [⟨false, [.int .i64]⟩], [⟨false, [.bool]⟩], fun (x : Int) h => frame_may_1 x h⟩
theorem eq_147  : (fun (x : PT E_147.ps) (h : H) => runFK Go.Proofs.Ythiccnmplgdheaa.Tab.D (lstK []) ann_147 Try.f147 (Try.f147.body.getD .skip) E_147.ys (encP E_147.ps x) h) = (fun (x : Int) h => frame_may_1 x h) := by kernel_rfl
theorem ok_147 : E_147.ok Go.Proofs.Ythiccnmplgdheaa.Tab.D := fun x h y h' e => runFK_ok (lstK_ok [] (fun E h => nomatch h)) (A := ann_147) (by kernel_rfl) (show Go.Proofs.Ythiccnmplgdheaa.Tab.D.fn.get 147 = some Try.f147 by kernel_rfl) (show Try.f147.body = some (Try.f147.body.getD .skip) by kernel_rfl) ((congrFun (congrFun (eq_147 ) x) h).trans e)
/-! slices_IndexFunc_int_frame_may_1 -/
noncomputable def P.slices_IndexFunc_int_frame_may_1_l1 (frame_may_1 : Int → H → Option ((Bool) × H)) : ((Sl × (PUnit × (Int × Int))) × H) → Option (((Sl × (PUnit × (Int × Int))) × H) ⊕ (Int × H)) := fun ((s, ((), (f, x0))), h0) =>
  condK (decide ((x0 < f))) (
    bindO (ixT 1 s x0) fun (a0 : Addr) =>
    bindO (ldI .i64 h0 a0) fun (x1 : Int) =>
    bind2 (frame_may_1 x1 h0) fun (x2 : Bool) (h1 : H) =>
    condK x2 (
      some (Sum.inr (x0, h1))) (
      some (Sum.inl ((s, ((), (f, (IntKind.wrap .i64 (x0 + 1))))), h1)))) (
    some (Sum.inr ((-1), h0)))

noncomputable def P.slices_IndexFunc_int_frame_may_1 (frame_may_1 : Int → H → Option ((Bool) × H)) (s : Sl) (f : Unit) (h : H) : Option (Int × H) :=
  loopO (P.slices_IndexFunc_int_frame_may_1_l1 frame_may_1) ((s, ((), (((s.len : Nat) : Int), 0))), h)
noncomputable abbrev slices_IndexFunc_int_frame_may_1_l1 := P.slices_IndexFunc_int_frame_may_1_l1 frame_may_1
noncomputable def slices_IndexFunc_int_frame_may_1 : Sl → Unit → H → Option ((Int) × H) := P.slices_IndexFunc_int_frame_may_1 frame_may_1
noncomputable def ann_166c147 : Ann := ⟨fun _ => none, fun i => bif i.beq 2 then some ⟨[0, 1, 7, 8], [⟨false, [.sl]⟩, ⟨false, [.clo 147 0]⟩, ⟨false, [.int .i64]⟩, ⟨false, [.int .i64]⟩]⟩ else none, fun _ => none⟩
noncomputable def E_166c147 : Ent := ⟨166, [⟨false, [.sl]⟩, ⟨false, [.clo 147 0]⟩], [⟨false, [.int .i64]⟩], fun (x : Sl × Unit) h => slices_IndexFunc_int_frame_may_1 x.1 x.2 h⟩
theorem eq_166c147 (frame_may_1 : Int → H → Option ((Bool) × H)) : (fun (x : PT E_166c147.ps) (h : H) => runFK Go.Proofs.Ythiccnmplgdheaa.Tab.D (lstK [⟨147, [⟨false, [.int .i64]⟩], [⟨false, [.bool]⟩], fun (x : Int) h => frame_may_1 x h⟩]) ann_166c147 Try.f166 (Try.f166.body.getD .skip) E_166c147.ys (encP E_166c147.ps x) h) = (fun (x : Sl × Unit) h => P.slices_IndexFunc_int_frame_may_1 frame_may_1 x.1 x.2 h) := by kernel_rfl
theorem ok_166c147 : E_166c147.ok Go.Proofs.Ythiccnmplgdheaa.Tab.D := fun x h y h' e => runFK_ok (lstK_ok [E_147] (List.forall_mem_cons.2 ⟨ok_147, fun E h => nomatch h⟩)) (A := ann_166c147) (by kernel_rfl) (show Go.Proofs.Ythiccnmplgdheaa.Tab.D.fn.get 166 = some Try.f166 by kernel_rfl) (show Try.f166.body = some (Try.f166.body.getD .skip) by kernel_rfl) ((congrFun (congrFun (eq_166c147 frame_may_1) x) h).trans e)
/-! slices_ContainsFunc_int_frame_may_1 -/
noncomputable def P.slices_ContainsFunc_int_frame_may_1 (slices_IndexFunc_int_frame_may_1 : Sl → Unit → H → Option ((Int) × H)) (s : Sl) (f : Unit) (h : H) : Option (Bool × H) :=
  bind2 (slices_IndexFunc_int_frame_may_1 s () h) fun (x0 : Int) (h0 : H) =>
  some ((decide ((x0 ≥ 0))), h0)
noncomputable def slices_ContainsFunc_int_frame_may_1 : Sl → Unit → H → Option ((Bool) × H) := P.slices_ContainsFunc_int_frame_may_1 slices_IndexFunc_int_frame_may_1
noncomputable def ann_146c147 : Ann := ⟨fun _ => none, fun _ => none, fun _ => none⟩
noncomputable def E_146c147 : Ent := ⟨146, [⟨false, [.sl]⟩, ⟨false, [.clo 147 0]⟩], [⟨false, [.bool]⟩], fun (x : Sl × Unit) h => slices_ContainsFunc_int_frame_may_1 x.1 x.2 h⟩
theorem eq_146c147 (slices_IndexFunc_int_frame_may_1 : Sl → Unit → H → Option ((Int) × H)) : (fun (x : PT E_146c147.ps) (h : H) => runFK Go.Proofs.Ythiccnmplgdheaa.Tab.D (lstK [⟨166, [⟨false, [.sl]⟩, ⟨false, [.clo 147 0]⟩], [⟨false, [.int .i64]⟩], fun (x : Sl × Unit) h => slices_IndexFunc_int_frame_may_1 x.1 x.2 h⟩]) ann_146c147 Try.f146 (Try.f146.body.getD .skip) E_146c147.ys (encP E_146c147.ps x) h) = (fun (x : Sl × Unit) h => P.slices_ContainsFunc_int_frame_may_1 slices_IndexFunc_int_frame_may_1 x.1 x.2 h) := by kernel_rfl
theorem ok_146c147 : E_146c147.ok Go.Proofs.Ythiccnmplgdheaa.Tab.D := fun x h y h' e => runFK_ok (lstK_ok [E_166c147] (List.forall_mem_cons.2 ⟨ok_166c147, fun E h => nomatch h⟩)) (A := ann_146c147) (by kernel_rfl) (show Go.Proofs.Ythiccnmplgdheaa.Tab.D.fn.get 146 = some Try.f146 by kernel_rfl) (show Try.f146.body = some (Try.f146.body.getD .skip) by kernel_rfl) ((congrFun (congrFun (eq_146c147 slices_IndexFunc_int_frame_may_1) x) h).trans e)
/-! frame_may -/
noncomputable def P.frame_may (slices_ContainsFunc_int_frame_may_1 : Sl → Unit → H → Option ((Bool) × H)) (l : Sl) (h : H) : Option (Bool × H) :=
  bind2 (slices_ContainsFunc_int_frame_may_1 l () h) fun (x0 : Bool) (h0 : H) =>
  some ((!x0), h0)
noncomputable def frame_may : Sl → H → Option ((Bool) × H) := P.frame_may slices_ContainsFunc_int_frame_may_1
noncomputable def ann_91 : Ann := ⟨fun _ => none, fun _ => none, fun _ => none⟩
noncomputable def E_91 : Ent := ⟨91, [⟨false, [.sl]⟩], [⟨false, [.bool]⟩], fun (x : Sl) h => frame_may x h⟩
theorem eq_91 (slices_ContainsFunc_int_frame_may_1 : Sl → Unit → H → Option ((Bool) × H)) : (fun (x : PT E_91.ps) (h : H) => runFK Go.Proofs.Ythiccnmplgdheaa.Tab.D (lstK [⟨146, [⟨false, [.sl]⟩, ⟨false, [.clo 147 0]⟩], [⟨false, [.bool]⟩], fun (x : Sl × Unit) h => slices_ContainsFunc_int_frame_may_1 x.1 x.2 h⟩]) ann_91 Try.f91 (Try.f91.body.getD .skip) E_91.ys (encP E_91.ps x) h) = (fun (x : Sl) h => P.frame_may slices_ContainsFunc_int_frame_may_1 x h) := by kernel_rfl
theorem ok_91 : E_91.ok Go.Proofs.Ythiccnmplgdheaa.Tab.D := fun x h y h' e => runFK_ok (lstK_ok [E_146c147] (List.forall_mem_cons.2 ⟨ok_146c147, fun E h => nomatch h⟩)) (A := ann_91) (by kernel_rfl) (show Go.Proofs.Ythiccnmplgdheaa.Tab.D.fn.get 91 = some Try.f91 by kernel_rfl) (show Try.f91.body = some (Try.f91.body.getD .skip) by kernel_rfl) ((congrFun (congrFun (eq_91 slices_ContainsFunc_int_frame_may_1) x) h).trans e)
/-! frame_rightSpans -/
noncomputable def P.frame_rightSpans_l1 (frame_may : Sl → H → Option ((Bool) × H)) : ((Sl × (Sl × (Int × Int))) × H) → Option (((Sl × (Sl × (Int × Int))) × H) ⊕ ((Sl × H) ⊕ (Bool × H))) := fun ((l, (x0, (x1, x2))), h0) =>
  condK (decide ((x2 < x1))) (
    bindO (ixT 2 x0 x2) fun (a0 : Addr) =>
    bindO (ldZ [.int .i64, .int .i64] h0 a0) fun ((x3, x4) : Int × Int) =>
    newO (row 36 [(.int .i64 0), (.int .i64 0)]) h0 fun (b : Nat) (h1 : H) =>
    bindO (stZ [.int .i64, .int .i64] h1 (⟨b, 0, (some 0)⟩ : Addr) ((x3, x4) : Int × Int)) fun (h2 : H) =>
    joinO (
      letH (growIf h2 30) fun (h3 : H) =>
      bindO (ixAT 2 1 (⟨b, 0, (some 0)⟩ : Addr) 0) fun (a1 : Addr) =>
      bindO (ldI .i64 h3 a1) fun (x5 : Int) =>
      bindO (ixAT 2 1 (⟨b, 0, (some 0)⟩ : Addr) 1) fun (a2 : Addr) =>
      bindO (ldI .i64 h3 a2) fun (x6 : Int) =>
      letH (addP 31 h2.size [(4, (row 3 [(.int .i64 x5), (.int .i64 x6)]))] h3) fun (h4 : H) =>
      bind2 (frame_may (⟨(some (⟨(h2.size + 4), 0, (some 0)⟩ : Addr)), 2, 2⟩ : Sl) h4) fun (x7 : Bool) (h5 : H) =>
      condK (!x7) (
        letH (addP 1073741823 h2.size [(4, (row 3 [(.int .i64 x5), (.int .i64 x6)]))] h5) fun (h6 : H) =>
        letH (tickIf 30 h6) fun (h7 : H) =>
        some (Sum.inl ((l, (x0, (x1, (x2, true)))), h7))) (
        bindO (ixAT 2 1 (⟨b, 0, (some 0)⟩ : Addr) 0) fun (a3 : Addr) =>
        letH (addP 511 h2.size [(4, (row 3 [(.int .i64 x5), (.int .i64 x6)]))] h5) fun (h8 : H) =>
        bindO (ldI .i64 h8 a3) fun (x8 : Int) =>
        bindO (ixAT 2 1 (⟨b, 0, (some 0)⟩ : Addr) 1) fun (a4 : Addr) =>
        letH (addP 1279 h2.size [(4, (row 3 [(.int .i64 x5), (.int .i64 x6)]))] h5) fun (h9 : H) =>
        bindO (ldI .i64 h9 a4) fun (x9 : Int) =>
        condK (decide ((x8 > x9))) (
          letH (addP 1073741823 h2.size [(4, (row 3 [(.int .i64 x5), (.int .i64 x6)]))] h5) fun (h10 : H) =>
          letH (tickIf 30 h10) fun (h11 : H) =>
          some (Sum.inl ((l, (x0, (x1, (x2, true)))), h11))) (
          condK (decide ((x2 > 0))) (
            bindO (ixT 2 l (IntKind.wrap .i64 (x2 - 1))) fun (a5 : Addr) =>
            bindO (ixAT 2 1 a5 0) fun (a6 : Addr) =>
            letH (addP 8388607 h2.size [(4, (row 3 [(.int .i64 x5), (.int .i64 x6)]))] h5) fun (h12 : H) =>
            bindO (ldI .i64 h12 a6) fun (x10 : Int) =>
            bindO (ixAT 2 1 (⟨b, 0, (some 0)⟩ : Addr) 1) fun (a7 : Addr) =>
            letH (addP 17039359 h2.size [(4, (row 3 [(.int .i64 x5), (.int .i64 x6)]))] h5) fun (h13 : H) =>
            bindO (ldI .i64 h13 a7) fun (x11 : Int) =>
            letH (addP 1073741823 h2.size [(4, (row 3 [(.int .i64 x5), (.int .i64 x6)]))] h5) fun (h14 : H) =>
            letH (tickIf 30 h14) fun (h15 : H) =>
            some (Sum.inl ((l, (x0, (x1, (x2, (decide (((IntKind.wrap .i64 (x10 - x11)) < 2))))))), h15))) (
            letH (addP 1073741823 h2.size [(4, (row 3 [(.int .i64 x5), (.int .i64 x6)]))] h5) fun (h16 : H) =>
            letH (tickIf 30 h16) fun (h17 : H) =>
            some (Sum.inl ((l, (x0, (x1, (x2, false)))), h17)))))) fun (((l1, (x5, (x6, (x7, x8)))), h3) : ((Sl × (Sl × (Int × (Int × Bool)))) × H)) =>
    condK x8 (
      some (Sum.inr (Sum.inr (false, h3)))) (
      some (Sum.inl ((l1, (x5, (x6, (IntKind.wrap .i64 (x7 + 1))))), h3)))) (
    some (Sum.inr (Sum.inl (l, h0))))

noncomputable def P.frame_rightSpans (frame_may : Sl → H → Option ((Bool) × H)) (l : Sl) (h : H) : Option (Bool × H) :=
  joinO (
    loopO (P.frame_rightSpans_l1 frame_may) ((l, (l, (((l.len : Nat) : Int), 0))), h)) fun ((l1, h0) : (Sl × H)) =>
  condK (decide ((((l1.len : Nat) : Int) ≥ 1))) (
    some ((decide ((((l1.len : Nat) : Int) ≤ 8))), h0)) (
    some (false, h0))
noncomputable abbrev frame_rightSpans_l1 := P.frame_rightSpans_l1 frame_may
noncomputable def frame_rightSpans : Sl → H → Option ((Bool) × H) := P.frame_rightSpans frame_may
noncomputable def ann_92 : Ann := ⟨fun i => bif i.beq 7 then some ⟨[0], [⟨false, [.sl]⟩]⟩ else none, fun i => bif i.beq 2 then some ⟨[0, 5, 6, 7], [⟨false, [.sl]⟩, ⟨false, [.sl]⟩, ⟨false, [.int .i64]⟩, ⟨false, [.int .i64]⟩]⟩ else none, fun i => bif i.beq 4 then some ⟨[0, 5, 6, 7, 41], [⟨false, [.sl]⟩, ⟨false, [.sl]⟩, ⟨false, [.int .i64]⟩, ⟨false, [.int .i64]⟩, ⟨false, [.bool]⟩]⟩ else none⟩
noncomputable def E_92 : Ent := ⟨92, [⟨false, [.sl]⟩], [⟨false, [.bool]⟩], fun (x : Sl) h => frame_rightSpans x h⟩
theorem eq_92 (frame_may : Sl → H → Option ((Bool) × H)) : (fun (x : PT E_92.ps) (h : H) => runFK Go.Proofs.Ythiccnmplgdheaa.Tab.D (lstK [⟨91, [⟨false, [.sl]⟩], [⟨false, [.bool]⟩], fun (x : Sl) h => frame_may x h⟩]) ann_92 Try.f92 (Try.f92.body.getD .skip) E_92.ys (encP E_92.ps x) h) = (fun (x : Sl) h => P.frame_rightSpans frame_may x h) := by kernel_rfl
theorem ok_92 : E_92.ok Go.Proofs.Ythiccnmplgdheaa.Tab.D := fun x h y h' e => runFK_ok (lstK_ok [E_91] (List.forall_mem_cons.2 ⟨ok_91, fun E h => nomatch h⟩)) (A := ann_92) (by kernel_rfl) (show Go.Proofs.Ythiccnmplgdheaa.Tab.D.fn.get 92 = some Try.f92 by kernel_rfl) (show Try.f92.body = some (Try.f92.body.getD .skip) by kernel_rfl) ((congrFun (congrFun (eq_92 frame_may) x) h).trans e)
/-! frame_Right -/
noncomputable def P.frame_Right (frame_bare : (Int × Int × Int × Int × Int × Int × Bool × Sl × Sl) → H → Option (((Int × Int × Int × Int × Int × Int × Bool × Sl × Sl)) × H)) (frame_same : (Int × Int × Int × Int × Int × Int × Bool × Sl × Sl) → (Int × Int × Int × Int × Int × Int × Bool × Sl × Sl) → H → Option ((Bool) × H)) (frame_may : Sl → H → Option ((Bool) × H)) (frame_rightSpans : Sl → H → Option ((Bool) × H)) (f : Int × Int × Int × Int × Int × Int × Bool × Sl × Sl) (h : H) : Option (Bool × H) :=
  newO (row 33 [(.int .i64 f.1), (.int .i64 f.2.1), (.int .i64 f.2.2.1), (.int .i64 f.2.2.2.1), (.int .i64 f.2.2.2.2.1), (.int .i64 f.2.2.2.2.2.1), (.bool f.2.2.2.2.2.2.1), (.slice f.2.2.2.2.2.2.2.1.base f.2.2.2.2.2.2.2.1.len f.2.2.2.2.2.2.2.1.cap), (.slice f.2.2.2.2.2.2.2.2.base f.2.2.2.2.2.2.2.2.len f.2.2.2.2.2.2.2.2.cap)]) h fun (b : Nat) (h0 : H) =>
  joinO (
    letH (growIf h0 34) fun (h1 : H) =>
    bindO (ldI .i64 h1 (add (⟨b, 0, (some 0)⟩ : Addr) 0)) fun (x0 : Int) =>
    condK (decide ((x0 < 1))) (
      letH (tickIf 34 h1) fun (h2 : H) =>
      some (Sum.inl (((some (⟨b, 0, (some 0)⟩ : Addr)), true), h2))) (
      bindO (ldI .i64 h1 (add (⟨b, 0, (some 0)⟩ : Addr) 0)) fun (x1 : Int) =>
      condK (decide ((x1 > 12))) (
        letH (tickIf 34 h1) fun (h3 : H) =>
        some (Sum.inl (((some (⟨b, 0, (some 0)⟩ : Addr)), true), h3))) (
        bindO (ldZ [.int .i64, .int .i64, .int .i64, .int .i64, .int .i64, .int .i64, .bool, .sl, .sl] h1 (⟨b, 0, (some 0)⟩ : Addr)) fun ((x2, x3, x4, x5, x6, x7, x8, x9, x10) : Int × Int × Int × Int × Int × Int × Bool × Sl × Sl) =>
        bindO (ldZ [.int .i64, .int .i64, .int .i64, .int .i64, .int .i64, .int .i64, .bool, .sl, .sl] h1 (⟨b, 0, (some 0)⟩ : Addr)) fun ((x11, x12, x13, x14, x15, x16, x17, x18, x19) : Int × Int × Int × Int × Int × Int × Bool × Sl × Sl) =>
        bind2 (frame_bare (x11, x12, x13, x14, x15, x16, x17, x18, x19) h1) fun ((x20, x21, x22, x23, x24, x25, x26, x27, x28) : Int × Int × Int × Int × Int × Int × Bool × Sl × Sl) (h4 : H) =>
        bind2 (frame_same (x2, x3, x4, x5, x6, x7, x8, x9, x10) (x20, x21, x22, x23, x24, x25, x26, x27, x28) h4) fun (x29 : Bool) (h5 : H) =>
        condK (!x29) (
          bindO (ldZ [.int .i64, .int .i64, .int .i64, .int .i64, .int .i64, .int .i64, .bool, .sl, .sl] h4 (⟨b, 0, (some 0)⟩ : Addr)) fun ((x30, x31, x32, x33, x34, x35, x36, x37, x38) : Int × Int × Int × Int × Int × Int × Bool × Sl × Sl) =>
          condK (veq (.agg #[(.int .i64 x2), (.int .i64 x3), (.int .i64 x4), (.int .i64 x5), (.int .i64 x6), (.int .i64 x7), (.bool x8), (.slice x9.base x9.len x9.cap), (.slice x10.base x10.len x10.cap)]) (.agg #[(.int .i64 x30), (.int .i64 x31), (.int .i64 x32), (.int .i64 x33), (.int .i64 x34), (.int .i64 x35), (.bool x36), (.slice x37.base x37.len x37.cap), (.slice x38.base x38.len x38.cap)])) (
            letH (tickIf 34 h5) fun (h6 : H) =>
            some (Sum.inl (((some (⟨b, 0, (some 0)⟩ : Addr)), true), h6))) none) (
          bindO (ldI .i64 h5 (add (⟨b, 0, (some 0)⟩ : Addr) 1)) fun (x39 : Int) =>
          bindO (ldI .i64 h5 (add (⟨b, 0, (some 0)⟩ : Addr) 2)) fun (x40 : Int) =>
          bindO (ldI .i64 h5 (add (⟨b, 0, (some 0)⟩ : Addr) 3)) fun (x41 : Int) =>
          bindO (ldI .i64 h5 (add (⟨b, 0, (some 0)⟩ : Addr) 4)) fun (x42 : Int) =>
          letH (addP 33554431 h0.size [(24, (row 3 [(.int .i64 x39), (.int .i64 x40), (.int .i64 x41), (.int .i64 x42)]))] h5) fun (h7 : H) =>
          bind2 (frame_may (⟨(some (⟨(h0.size + 24), 0, (some 0)⟩ : Addr)), 4, 4⟩ : Sl) h7) fun (x43 : Bool) (h8 : H) =>
          condK (!x43) (
            letH (addP 511 h0.size [(24, (row 3 [(.int .i64 x39), (.int .i64 x40), (.int .i64 x41), (.int .i64 x42)]))] h4) fun (h9 : H) =>
            bindO (ldZ [.int .i64, .int .i64, .int .i64, .int .i64, .int .i64, .int .i64, .bool, .sl, .sl] h9 (⟨b, 0, (some 0)⟩ : Addr)) fun ((x44, x45, x46, x47, x48, x49, x50, x51, x52) : Int × Int × Int × Int × Int × Int × Bool × Sl × Sl) =>
            condK (veq (.agg #[(.int .i64 x2), (.int .i64 x3), (.int .i64 x4), (.int .i64 x5), (.int .i64 x6), (.int .i64 x7), (.bool x8), (.slice x9.base x9.len x9.cap), (.slice x10.base x10.len x10.cap)]) (.agg #[(.int .i64 x44), (.int .i64 x45), (.int .i64 x46), (.int .i64 x47), (.int .i64 x48), (.int .i64 x49), (.bool x50), (.slice x51.base x51.len x51.cap), (.slice x52.base x52.len x52.cap)])) (
              letH (addP 17179869183 h0.size [(24, (row 3 [(.int .i64 x39), (.int .i64 x40), (.int .i64 x41), (.int .i64 x42)]))] h8) fun (h10 : H) =>
              letH (tickIf 34 h10) fun (h11 : H) =>
              some (Sum.inl (((some (⟨b, 0, (some 0)⟩ : Addr)), true), h11))) none) (
            letH (addP 1073741823 h0.size [(24, (row 3 [(.int .i64 x39), (.int .i64 x40), (.int .i64 x41), (.int .i64 x42)]))] h8) fun (h12 : H) =>
            bindO (ldL h12 (add (⟨b, 0, (some 0)⟩ : Addr) 7)) fun (x53 : Sl) =>
            letH (addP 2147483647 h0.size [(24, (row 3 [(.int .i64 x39), (.int .i64 x40), (.int .i64 x41), (.int .i64 x42)]))] h8) fun (h13 : H) =>
            letH (addP 511 h0.size [(24, (row 3 [(.int .i64 x39), (.int .i64 x40), (.int .i64 x41), (.int .i64 x42)]))] h4) fun (h14 : H) =>
            bindO (ldZ [.int .i64, .int .i64, .int .i64, .int .i64, .int .i64, .int .i64, .bool, .sl, .sl] h14 (⟨b, 0, (some 0)⟩ : Addr)) fun ((x54, x55, x56, x57, x58, x59, x60, x61, x62) : Int × Int × Int × Int × Int × Int × Bool × Sl × Sl) =>
            condK (veq (.agg #[(.int .i64 x2), (.int .i64 x3), (.int .i64 x4), (.int .i64 x5), (.int .i64 x6), (.int .i64 x7), (.bool x8), (.slice x9.base x9.len x9.cap), (.slice x10.base x10.len x10.cap)]) (.agg #[(.int .i64 x54), (.int .i64 x55), (.int .i64 x56), (.int .i64 x57), (.int .i64 x58), (.int .i64 x59), (.bool x60), (.slice x61.base x61.len x61.cap), (.slice x62.base x62.len x62.cap)])) (
              letH (addP 17179869183 h0.size [(24, (row 3 [(.int .i64 x39), (.int .i64 x40), (.int .i64 x41), (.int .i64 x42)]))] h8) fun (h15 : H) =>
              letH (tickIf 34 h15) fun (h16 : H) =>
              some (Sum.inl (((some (⟨b, 0, (some 0)⟩ : Addr)), (decide ((((x53.len : Nat) : Int) > 120)))), h16))) none))))) fun (((f1, x0), h1) : (((Option Addr) × Bool) × H)) =>
  condK x0 (
    some (false, h1)) (
    ptrK f1 fun (a0 : Addr) =>
    bindO (ldI .i64 h1 (add a0 0)) fun (x1 : Int) =>
    condK (x1 == 2) (
      ptrK f1 fun (a1 : Addr) =>
      bindO (ldL h1 (add a1 8)) fun (x2 : Sl) =>
      bind2 (frame_rightSpans x2 h1) fun (x3 : Bool) (h2 : H) =>
      some (x3, h2)) (
      condK (x1 == 3) (
        ptrK f1 fun (a2 : Addr) =>
        bindO (ldI .i64 h1 (add a2 2)) fun (x4 : Int) =>
        ptrK f1 fun (a3 : Addr) =>
        bindO (ldL h1 (add a3 7)) fun (x5 : Sl) =>
        letO ((decide ((x4 ≤ (IntKind.wrap .i64 (4611686018427387903 - ((x5.len : Nat) : Int))))))) fun (x6 : Bool) =>
        some (x6, h1)) (
        condK (x1 == 4) (
          ptrK f1 fun (a4 : Addr) =>
          bindO (ldI .i64 h1 (add a4 4)) fun (x7 : Int) =>
          ptrK f1 fun (a5 : Addr) =>
          bindO (ldI .i64 h1 (add a5 2)) fun (x8 : Int) =>
          some ((decide ((x7 ≤ x8))), h1)) (
          condK (x1 == 9) (
            ptrK f1 fun (a6 : Addr) =>
            bindO (ldL h1 (add a6 7)) fun (x9 : Sl) =>
            some ((decide ((((x9.len : Nat) : Int) > 0))), h1)) (
            some (true, h1))))))
noncomputable def frame_Right : (Int × Int × Int × Int × Int × Int × Bool × Sl × Sl) → H → Option ((Bool) × H) := P.frame_Right frame_bare frame_same frame_may frame_rightSpans
noncomputable def ann_27 : Ann := ⟨fun _ => none, fun _ => none, fun i => bif i.beq 1 then some ⟨[1, 36], [⟨false, [.ptr]⟩, ⟨false, [.bool]⟩]⟩ else none⟩
noncomputable def E_27 : Ent := ⟨27, [⟨true, [.int .i64, .int .i64, .int .i64, .int .i64, .int .i64, .int .i64, .bool, .sl, .sl]⟩], [⟨false, [.bool]⟩], fun (x : (Int × Int × Int × Int × Int × Int × Bool × Sl × Sl)) h => frame_Right x h⟩
theorem eq_27 (frame_bare : (Int × Int × Int × Int × Int × Int × Bool × Sl × Sl) → H → Option (((Int × Int × Int × Int × Int × Int × Bool × Sl × Sl)) × H)) (frame_same : (Int × Int × Int × Int × Int × Int × Bool × Sl × Sl) → (Int × Int × Int × Int × Int × Int × Bool × Sl × Sl) → H → Option ((Bool) × H)) (frame_may : Sl → H → Option ((Bool) × H)) (frame_rightSpans : Sl → H → Option ((Bool) × H)) : (fun (x : PT E_27.ps) (h : H) => runFK Go.Proofs.Ythiccnmplgdheaa.Tab.D (lstK [⟨90, [⟨true, [.int .i64, .int .i64, .int .i64, .int .i64, .int .i64, .int .i64, .bool, .sl, .sl]⟩], [⟨true, [.int .i64, .int .i64, .int .i64, .int .i64, .int .i64, .int .i64, .bool, .sl, .sl]⟩], fun (x : (Int × Int × Int × Int × Int × Int × Bool × Sl × Sl)) h => frame_bare x h⟩, ⟨89, [⟨true, [.int .i64, .int .i64, .int .i64, .int .i64, .int .i64, .int .i64, .bool, .sl, .sl]⟩, ⟨true, [.int .i64, .int .i64, .int .i64, .int .i64, .int .i64, .int .i64, .bool, .sl, .sl]⟩], [⟨false, [.bool]⟩], fun (x : ((Int × Int × Int × Int × Int × Int × Bool × Sl × Sl)) × ((Int × Int × Int × Int × Int × Int × Bool × Sl × Sl))) h => frame_same x.1 x.2 h⟩, ⟨91, [⟨false, [.sl]⟩], [⟨false, [.bool]⟩], fun (x : Sl) h => frame_may x h⟩, ⟨92, [⟨false, [.sl]⟩], [⟨false, [.bool]⟩], fun (x : Sl) h => frame_rightSpans x h⟩]) ann_27 Try.f27 (Try.f27.body.getD .skip) E_27.ys (encP E_27.ps x) h) = (fun (x : (Int × Int × Int × Int × Int × Int × Bool × Sl × Sl)) h => P.frame_Right frame_bare frame_same frame_may frame_rightSpans x h) := by kernel_rfl
theorem ok_27 : E_27.ok Go.Proofs.Ythiccnmplgdheaa.Tab.D := fun x h y h' e => runFK_ok (lstK_ok [E_90, E_89, E_91, E_92] (List.forall_mem_cons.2 ⟨ok_90, List.forall_mem_cons.2 ⟨ok_89, List.forall_mem_cons.2 ⟨ok_91, List.forall_mem_cons.2 ⟨ok_92, fun E h => nomatch h⟩⟩⟩⟩)) (A := ann_27) (by kernel_rfl) (show Go.Proofs.Ythiccnmplgdheaa.Tab.D.fn.get 27 = some Try.f27 by kernel_rfl) (show Try.f27.body = some (Try.f27.body.getD .skip) by kernel_rfl) ((congrFun (congrFun (eq_27 frame_bare frame_same frame_may frame_rightSpans) x) h).trans e)
/-! slices_Clone_byte -/
noncomputable def slices_Clone_byte (s : Sl) (h : H) : Option (Sl × H) :=
  bindO (eqLT s (⟨none, 0, 0⟩ : Sl)) fun (x0 : Bool) =>
  condK x0 (
    some ((⟨none, 0, 0⟩ : Sl), h)) (
    newO (row 5 []) h fun (b : Nat) (h0 : H) =>
    bind2 (appT 5 1 1 h0 (⟨(some (⟨b, 0, (some 0)⟩ : Addr)), 0, 0⟩ : Sl) s) fun (x1 : Sl) (h1 : H) =>
    some (x1, h1))
noncomputable def ann_98 : Ann := ⟨fun _ => none, fun _ => none, fun _ => none⟩
noncomputable def E_98 : Ent := ⟨98, [⟨false, [.sl]⟩], [⟨false, [.sl]⟩], fun (x : Sl) h => slices_Clone_byte x h⟩
theorem eq_98  : (fun (x : PT E_98.ps) (h : H) => runFK Go.Proofs.Ythiccnmplgdheaa.Tab.D (lstK []) ann_98 Try.f98 (Try.f98.body.getD .skip) E_98.ys (encP E_98.ps x) h) = (fun (x : Sl) h => slices_Clone_byte x h) := by kernel_rfl
theorem ok_98 : E_98.ok Go.Proofs.Ythiccnmplgdheaa.Tab.D := fun x h y h' e => runFK_ok (lstK_ok [] (fun E h => nomatch h)) (A := ann_98) (by kernel_rfl) (show Go.Proofs.Ythiccnmplgdheaa.Tab.D.fn.get 98 = some Try.f98 by kernel_rfl) (show Try.f98.body = some (Try.f98.body.getD .skip) by kernel_rfl) ((congrFun (congrFun (eq_98 ) x) h).trans e)
/-! slices_Clip_byte -/
noncomputable def slices_Clip_byte (s : Sl) (h : H) : Option (Sl × H) :=
  bindO (slT 1 h s none (some ((s.len : Nat) : Int)) (some ((s.len : Nat) : Int))) fun (x0 : Sl) =>
  some (x0, h)
noncomputable def ann_97 : Ann := ⟨fun _ => none, fun _ => none, fun _ => none⟩
noncomputable def E_97 : Ent := ⟨97, [⟨false, [.sl]⟩], [⟨false, [.sl]⟩], fun (x : Sl) h => slices_Clip_byte x h⟩
theorem eq_97  : (fun (x : PT E_97.ps) (h : H) => runFK Go.Proofs.Ythiccnmplgdheaa.Tab.D (lstK []) ann_97 Try.f97 (Try.f97.body.getD .skip) E_97.ys (encP E_97.ps x) h) = (fun (x : Sl) h => slices_Clip_byte x h) := by kernel_rfl
theorem ok_97 : E_97.ok Go.Proofs.Ythiccnmplgdheaa.Tab.D := fun x h y h' e => runFK_ok (lstK_ok [] (fun E h => nomatch h)) (A := ann_97) (by kernel_rfl) (show Go.Proofs.Ythiccnmplgdheaa.Tab.D.fn.get 97 = some Try.f97 by kernel_rfl) (show Try.f97.body = some (Try.f97.body.getD .skip) by kernel_rfl) ((congrFun (congrFun (eq_97 ) x) h).trans e)
/-! slices_Grow_byte -/
noncomputable def slices_Grow_byte (s : Sl) (n : Int) (h : H) : Option (Sl × H) :=
  joinO (
    condK (decide ((n < 0))) (
      none) (
      some (Sum.inl ((s, n), h)))) fun (((s1, n1), h0) : ((Sl × Int) × H)) =>
  joinO (
    bindO (capT s1) fun (x0 : Int) =>
    letO ((IntKind.wrap .i64 (n1 - (IntKind.wrap .i64 (x0 - ((s1.len : Nat) : Int)))))) fun (x1 : Int) =>
    condK (decide ((x1 > 0))) (
      bindO (capT s1) fun (x2 : Int) =>
      bindO (slT 1 h0 s1 none (some x2) none) fun (x3 : Sl) =>
      bind2 (appNT 5 1 1 (.int .u8 0) h0 x3 x1) fun (x4 : Sl) (h1 : H) =>
      bindO (slT 1 h1 x4 none (some ((s1.len : Nat) : Int)) none) fun (x5 : Sl) =>
      some (Sum.inl (x5, h1))) (
      some (Sum.inl (s1, h0)))) fun ((s2, h1) : (Sl × H)) =>
  some (s2, h1)
noncomputable def ann_149 : Ann := ⟨fun i => bif i.beq 3 then some ⟨[0, 1], [⟨false, [.sl]⟩, ⟨false, [.int .i64]⟩]⟩ else bif i.beq 6 then some ⟨[0], [⟨false, [.sl]⟩]⟩ else none, fun _ => none, fun _ => none⟩
noncomputable def E_149 : Ent := ⟨149, [⟨false, [.sl]⟩, ⟨false, [.int .i64]⟩], [⟨false, [.sl]⟩], fun (x : Sl × Int) h => slices_Grow_byte x.1 x.2 h⟩
theorem eq_149  : (fun (x : PT E_149.ps) (h : H) => runFK Go.Proofs.Ythiccnmplgdheaa.Tab.D (lstK []) ann_149 Try.f149 (Try.f149.body.getD .skip) E_149.ys (encP E_149.ps x) h) = (fun (x : Sl × Int) h => slices_Grow_byte x.1 x.2 h) := by kernel_rfl
theorem ok_149 : E_149.ok Go.Proofs.Ythiccnmplgdheaa.Tab.D := fun x h y h' e => runFK_ok (lstK_ok [] (fun E h => nomatch h)) (A := ann_149) (by kernel_rfl) (show Go.Proofs.Ythiccnmplgdheaa.Tab.D.fn.get 149 = some Try.f149 by kernel_rfl) (show Try.f149.body = some (Try.f149.body.getD .skip) by kernel_rfl) ((congrFun (congrFun (eq_149 ) x) h).trans e)
/-! slices_Concat_byte -/
noncomputable def P.slices_Concat_byte_l2 (slices_Grow_byte : Sl → Int → H → Option ((Sl) × H)) : ((Sl × (Sl × (Int × Int))) × H) → Option (((Sl × (Sl × (Int × Int))) × H) ⊕ ((Sl × H) ⊕ (Sl × H))) := fun ((newslice, (x0, (x1, x2))), h0) =>
  condK (decide ((x2 < x1))) (
    bindO (ixT 1 x0 x2) fun (a0 : Addr) =>
    bindO (ldL h0 a0) fun (x3 : Sl) =>
    bind2 (appT 5 1 1 h0 newslice x3) fun (x4 : Sl) (h1 : H) =>
    some (Sum.inl ((x4, (x0, (x1, (IntKind.wrap .i64 (x2 + 1))))), h1))) (
    some (Sum.inr (Sum.inl (newslice, h0))))

noncomputable def P.slices_Concat_byte_l1 (slices_Grow_byte : Sl → Int → H → Option ((Sl) × H)) : ((Sl × (Int × (Sl × (Int × Int)))) × H) → Option (((Sl × (Int × (Sl × (Int × Int)))) × H) ⊕ (((Sl × Int) × H) ⊕ (Sl × H))) := fun ((slices, (size, (x0, (x1, x2)))), h0) =>
  condK (decide ((x2 < x1))) (
    joinO (
      bindO (ixT 1 x0 x2) fun (a0 : Addr) =>
      bindO (ldL h0 a0) fun (x3 : Sl) =>
      condK (decide (((IntKind.wrap .i64 (size + ((x3.len : Nat) : Int))) < 0))) (
        none) (
        some (Sum.inl ((slices, ((IntKind.wrap .i64 (size + ((x3.len : Nat) : Int))), (x0, (x1, x2)))), h0)))) fun (((slices1, (size1, (x3, (x4, x5)))), h1) : ((Sl × (Int × (Sl × (Int × Int)))) × H)) =>
    some (Sum.inl ((slices1, (size1, (x3, (x4, (IntKind.wrap .i64 (x5 + 1)))))), h1))) (
    some (Sum.inr (Sum.inl ((slices, size), h0))))

noncomputable def P.slices_Concat_byte (slices_Grow_byte : Sl → Int → H → Option ((Sl) × H)) (slices : Sl) (h : H) : Option (Sl × H) :=
  joinO (
    loopO (P.slices_Concat_byte_l1 slices_Grow_byte) ((slices, (0, (slices, (((slices.len : Nat) : Int), 0)))), h)) fun (((slices1, size), h0) : ((Sl × Int) × H)) =>
  bind2 (slices_Grow_byte (⟨none, 0, 0⟩ : Sl) size h0) fun (x0 : Sl) (h1 : H) =>
  joinO (
    loopO (P.slices_Concat_byte_l2 slices_Grow_byte) ((x0, (slices1, (((slices1.len : Nat) : Int), 0))), h1)) fun ((newslice, h2) : (Sl × H)) =>
  some (newslice, h2)
noncomputable abbrev slices_Concat_byte_l2 := P.slices_Concat_byte_l2 slices_Grow_byte
noncomputable abbrev slices_Concat_byte_l1 := P.slices_Concat_byte_l1 slices_Grow_byte
noncomputable def slices_Concat_byte : Sl → H → Option ((Sl) × H) := P.slices_Concat_byte slices_Grow_byte
noncomputable def ann_99 : Ann := ⟨fun i => bif i.beq 8 then some ⟨[0, 3, 9, 10, 11], [⟨false, [.sl]⟩, ⟨false, [.int .i64]⟩, ⟨false, [.sl]⟩, ⟨false, [.int .i64]⟩, ⟨false, [.int .i64]⟩]⟩ else bif i.beq 9 then some ⟨[0, 3], [⟨false, [.sl]⟩, ⟨false, [.int .i64]⟩]⟩ else bif i.beq 15 then some ⟨[6], [⟨false, [.sl]⟩]⟩ else none, fun i => bif i.beq 3 then some ⟨[0, 3, 9, 10, 11], [⟨false, [.sl]⟩, ⟨false, [.int .i64]⟩, ⟨false, [.sl]⟩, ⟨false, [.int .i64]⟩, ⟨false, [.int .i64]⟩]⟩ else bif i.beq 11 then some ⟨[6, 25, 26, 27], [⟨false, [.sl]⟩, ⟨false, [.sl]⟩, ⟨false, [.int .i64]⟩, ⟨false, [.int .i64]⟩]⟩ else none, fun _ => none⟩
noncomputable def E_99 : Ent := ⟨99, [⟨false, [.sl]⟩], [⟨false, [.sl]⟩], fun (x : Sl) h => slices_Concat_byte x h⟩
theorem eq_99 (slices_Grow_byte : Sl → Int → H → Option ((Sl) × H)) : (fun (x : PT E_99.ps) (h : H) => runFK Go.Proofs.Ythiccnmplgdheaa.Tab.D (lstK [⟨149, [⟨false, [.sl]⟩, ⟨false, [.int .i64]⟩], [⟨false, [.sl]⟩], fun (x : Sl × Int) h => slices_Grow_byte x.1 x.2 h⟩]) ann_99 Try.f99 (Try.f99.body.getD .skip) E_99.ys (encP E_99.ps x) h) = (fun (x : Sl) h => P.slices_Concat_byte slices_Grow_byte x h) := by kernel_rfl
theorem ok_99 : E_99.ok Go.Proofs.Ythiccnmplgdheaa.Tab.D := fun x h y h' e => runFK_ok (lstK_ok [E_149] (List.forall_mem_cons.2 ⟨ok_149, fun E h => nomatch h⟩)) (A := ann_99) (by kernel_rfl) (show Go.Proofs.Ythiccnmplgdheaa.Tab.D.fn.get 99 = some Try.f99 by kernel_rfl) (show Try.f99.body = some (Try.f99.body.getD .skip) by kernel_rfl) ((congrFun (congrFun (eq_99 slices_Grow_byte) x) h).trans e)
/-! math_bits_Len32 -/
noncomputable def math_bits_Len32 (x0 : Int) (h : H) : Option (Int × H) :=
  joinO (
    condK (decide ((x0 ≥ 65536))) (
      some (Sum.inl (((Int.fdiv x0 65536), 16), h))) (
      some (Sum.inl ((x0, 0), h)))) fun (((x1, n), h0) : ((Int × Int) × H)) =>
  joinO (
    condK (decide ((x1 ≥ 256))) (
      some (Sum.inl (((Int.fdiv x1 256), (IntKind.wrap .i64 (n + 8))), h0))) (
      some (Sum.inl ((x1, n), h0)))) fun (((x2, n1), h1) : ((Int × Int) × H)) =>
  bindO (ixST (⟨#[0, 1, 2, 2, 3, 3, 3, 3, 4, 4, 4, 4, 4, 4, 4, 4, 5, 5, 5, 5, 5, 5, 5, 5, 5, 5, 5, 5, 5, 5, 5, 5, 6, 6, 6, 6, 6, 6, 6, 6, 6, 6, 6, 6, 6, 6, 6, 6, 6, 6, 6, 6, 6, 6, 6, 6, 6, 6, 6, 6, 6, 6, 6, 6, 7, 7, 7, 7, 7, 7, 7, 7, 7, 7, 7, 7, 7, 7, 7, 7, 7, 7, 7, 7, 7, 7, 7, 7, 7, 7, 7, 7, 7, 7, 7, 7, 7, 7, 7, 7, 7, 7, 7, 7, 7, 7, 7, 7, 7, 7, 7, 7, 7, 7, 7, 7, 7, 7, 7, 7, 7, 7, 7, 7, 7, 7, 7, 7, 8, 8, 8, 8, 8, 8, 8, 8, 8, 8, 8, 8, 8, 8, 8, 8, 8, 8, 8, 8, 8, 8, 8, 8, 8, 8, 8, 8, 8, 8, 8, 8, 8, 8, 8, 8, 8, 8, 8, 8, 8, 8, 8, 8, 8, 8, 8, 8, 8, 8, 8, 8, 8, 8, 8, 8, 8, 8, 8, 8, 8, 8, 8, 8, 8, 8, 8, 8, 8, 8, 8, 8, 8, 8, 8, 8, 8, 8, 8, 8, 8, 8, 8, 8, 8, 8, 8, 8, 8, 8, 8, 8, 8, 8, 8, 8, 8, 8, 8, 8, 8, 8, 8, 8, 8, 8, 8, 8, 8, 8, 8, 8, 8, 8, 8, 8, 8, 8, 8, 8, 8, 8, 8, 8, 8, 8, 8, 8]⟩ : ByteArray) (IntKind.wrap .u8 x2)) fun (x3 : Int) =>
  some ((IntKind.wrap .i64 (n1 + (IntKind.wrap .i64 x3))), h1)
noncomputable def ann_187 : Ann := ⟨fun i => bif i.beq 4 then some ⟨[0, 2], [⟨false, [.int .u32]⟩, ⟨false, [.int .i64]⟩]⟩ else bif i.beq 7 then some ⟨[0, 2], [⟨false, [.int .u32]⟩, ⟨false, [.int .i64]⟩]⟩ else none, fun _ => none, fun _ => none⟩
noncomputable def E_187 : Ent := ⟨187, [⟨false, [.int .u32]⟩], [⟨false, [.int .i64]⟩], fun (x : Int) h => math_bits_Len32 x h⟩
theorem eq_187  : (fun (x : PT E_187.ps) (h : H) => runFK Go.Proofs.Ythiccnmplgdheaa.Tab.D (lstK []) ann_187 Try.f187 (Try.f187.body.getD .skip) E_187.ys (encP E_187.ps x) h) = (fun (x : Int) h => math_bits_Len32 x h) := by kernel_rfl
theorem ok_187 : E_187.ok Go.Proofs.Ythiccnmplgdheaa.Tab.D := fun x h y h' e => runFK_ok (lstK_ok [] (fun E h => nomatch h)) (A := ann_187) (by kernel_rfl) (show Go.Proofs.Ythiccnmplgdheaa.Tab.D.fn.get 187 = some Try.f187 by kernel_rfl) (show Try.f187.body = some (Try.f187.body.getD .skip) by kernel_rfl) ((congrFun (congrFun (eq_187 ) x) h).trans e)
/-! math_bits_Len64 -/
noncomputable def math_bits_Len64 (x0 : Int) (h : H) : Option (Int × H) :=
  joinO (
    condK (decide ((x0 ≥ 4294967296))) (
      some (Sum.inl (((Int.fdiv x0 4294967296), 32), h))) (
      some (Sum.inl ((x0, 0), h)))) fun (((x1, n), h0) : ((Int × Int) × H)) =>
  joinO (
    condK (decide ((x1 ≥ 65536))) (
      some (Sum.inl (((Int.fdiv x1 65536), (IntKind.wrap .i64 (n + 16))), h0))) (
      some (Sum.inl ((x1, n), h0)))) fun (((x2, n1), h1) : ((Int × Int) × H)) =>
  joinO (
    condK (decide ((x2 ≥ 256))) (
      some (Sum.inl (((Int.fdiv x2 256), (IntKind.wrap .i64 (n1 + 8))), h1))) (
      some (Sum.inl ((x2, n1), h1)))) fun (((x3, n2), h2) : ((Int × Int) × H)) =>
  bindO (ixST (⟨#[0, 1, 2, 2, 3, 3, 3, 3, 4, 4, 4, 4, 4, 4, 4, 4, 5, 5, 5, 5, 5, 5, 5, 5, 5, 5, 5, 5, 5, 5, 5, 5, 6, 6, 6, 6, 6, 6, 6, 6, 6, 6, 6, 6, 6, 6, 6, 6, 6, 6, 6, 6, 6, 6, 6, 6, 6, 6, 6, 6, 6, 6, 6, 6, 7, 7, 7, 7, 7, 7, 7, 7, 7, 7, 7, 7, 7, 7, 7, 7, 7, 7, 7, 7, 7, 7, 7, 7, 7, 7, 7, 7, 7, 7, 7, 7, 7, 7, 7, 7, 7, 7, 7, 7, 7, 7, 7, 7, 7, 7, 7, 7, 7, 7, 7, 7, 7, 7, 7, 7, 7, 7, 7, 7, 7, 7, 7, 7, 8, 8, 8, 8, 8, 8, 8, 8, 8, 8, 8, 8, 8, 8, 8, 8, 8, 8, 8, 8, 8, 8, 8, 8, 8, 8, 8, 8, 8, 8, 8, 8, 8, 8, 8, 8, 8, 8, 8, 8, 8, 8, 8, 8, 8, 8, 8, 8, 8, 8, 8, 8, 8, 8, 8, 8, 8, 8, 8, 8, 8, 8, 8, 8, 8, 8, 8, 8, 8, 8, 8, 8, 8, 8, 8, 8, 8, 8, 8, 8, 8, 8, 8, 8, 8, 8, 8, 8, 8, 8, 8, 8, 8, 8, 8, 8, 8, 8, 8, 8, 8, 8, 8, 8, 8, 8, 8, 8, 8, 8, 8, 8, 8, 8, 8, 8, 8, 8, 8, 8, 8, 8, 8, 8, 8, 8, 8, 8]⟩ : ByteArray) (IntKind.wrap .u8 x3)) fun (x4 : Int) =>
  some ((IntKind.wrap .i64 (n2 + (IntKind.wrap .i64 x4))), h2)
noncomputable def ann_188 : Ann := ⟨fun i => bif i.beq 4 then some ⟨[0, 2], [⟨false, [.int .u64]⟩, ⟨false, [.int .i64]⟩]⟩ else bif i.beq 7 then some ⟨[0, 2], [⟨false, [.int .u64]⟩, ⟨false, [.int .i64]⟩]⟩ else bif i.beq 10 then some ⟨[0, 2], [⟨false, [.int .u64]⟩, ⟨false, [.int .i64]⟩]⟩ else none, fun _ => none, fun _ => none⟩
noncomputable def E_188 : Ent := ⟨188, [⟨false, [.int .u64]⟩], [⟨false, [.int .i64]⟩], fun (x : Int) h => math_bits_Len64 x h⟩
theorem eq_188  : (fun (x : PT E_188.ps) (h : H) => runFK Go.Proofs.Ythiccnmplgdheaa.Tab.D (lstK []) ann_188 Try.f188 (Try.f188.body.getD .skip) E_188.ys (encP E_188.ps x) h) = (fun (x : Int) h => math_bits_Len64 x h) := by kernel_rfl
theorem ok_188 : E_188.ok Go.Proofs.Ythiccnmplgdheaa.Tab.D := fun x h y h' e => runFK_ok (lstK_ok [] (fun E h => nomatch h)) (A := ann_188) (by kernel_rfl) (show Go.Proofs.Ythiccnmplgdheaa.Tab.D.fn.get 188 = some Try.f188 by kernel_rfl) (show Try.f188.body = some (Try.f188.body.getD .skip) by kernel_rfl) ((congrFun (congrFun (eq_188 ) x) h).trans e)
/-! math_bits_Len -/
noncomputable def P.math_bits_Len (math_bits_Len32 : Int → H → Option ((Int) × H)) (math_bits_Len64 : Int → H → Option ((Int) × H)) (x0 : Int) (h : H) : Option (Int × H) :=
  bind2 (math_bits_Len64 x0 h) fun (x1 : Int) (h0 : H) =>
  some (x1, h0)
noncomputable def math_bits_Len : Int → H → Option ((Int) × H) := P.math_bits_Len math_bits_Len32 math_bits_Len64
noncomputable def ann_180 : Ann := ⟨fun _ => none, fun _ => none, fun _ => none⟩
noncomputable def E_180 : Ent := ⟨180, [⟨false, [.int .u64]⟩], [⟨false, [.int .i64]⟩], fun (x : Int) h => math_bits_Len x h⟩
theorem eq_180 (math_bits_Len32 : Int → H → Option ((Int) × H)) (math_bits_Len64 : Int → H → Option ((Int) × H)) : (fun (x : PT E_180.ps) (h : H) => runFK Go.Proofs.Ythiccnmplgdheaa.Tab.D (lstK [⟨187, [⟨false, [.int .u32]⟩], [⟨false, [.int .i64]⟩], fun (x : Int) h => math_bits_Len32 x h⟩, ⟨188, [⟨false, [.int .u64]⟩], [⟨false, [.int .i64]⟩], fun (x : Int) h => math_bits_Len64 x h⟩]) ann_180 Try.f180 (Try.f180.body.getD .skip) E_180.ys (encP E_180.ps x) h) = (fun (x : Int) h => P.math_bits_Len math_bits_Len32 math_bits_Len64 x h) := by kernel_rfl
theorem ok_180 : E_180.ok Go.Proofs.Ythiccnmplgdheaa.Tab.D := fun x h y h' e => runFK_ok (lstK_ok [E_187, E_188] (List.forall_mem_cons.2 ⟨ok_187, List.forall_mem_cons.2 ⟨ok_188, fun E h => nomatch h⟩⟩)) (A := ann_180) (by kernel_rfl) (show Go.Proofs.Ythiccnmplgdheaa.Tab.D.fn.get 180 = some Try.f180 by kernel_rfl) (show Try.f180.body = some (Try.f180.body.getD .skip) by kernel_rfl) ((congrFun (congrFun (eq_180 math_bits_Len32 math_bits_Len64) x) h).trans e)
/-! varint_kind -/
noncomputable def P.varint_kind_l1 (math_bits_Len : Int → H → Option ((Int) × H)) : ((Int × Int) × H) → Option (((Int × Int) × H) ⊕ (Int × H)) := fun ((n, x0), h0) =>
  condK (decide ((x0 < 3))) (
    bind2 (math_bits_Len (IntKind.wrap .u64 n) h0) fun (x1 : Int) (h1 : H) =>
    bindO (shlT .i64 8 .i64 x0) fun (x2 : Int) =>
    condK (decide ((x1 ≤ (IntKind.wrap .i64 (x2 - 2))))) (
      some (Sum.inr (x0, h1))) (
      some (Sum.inl ((n, (IntKind.wrap .i64 (x0 + 1))), h1)))) (
    some (Sum.inr (3, h0)))

noncomputable def P.varint_kind (math_bits_Len : Int → H → Option ((Int) × H)) (n : Int) (h : H) : Option (Int × H) :=
  joinO (
    condK (decide ((n < 0))) (
      some (Sum.inl ((n, true), h))) (
      some (Sum.inl ((n, (decide ((n > 4611686018427387903)))), h)))) fun (((n1, x0), h0) : ((Int × Bool) × H)) =>
  condK x0 (
    some ((-1), h0)) (
    loopO (P.varint_kind_l1 math_bits_Len) ((n1, 0), h0))
noncomputable abbrev varint_kind_l1 := P.varint_kind_l1 math_bits_Len
noncomputable def varint_kind : Int → H → Option ((Int) × H) := P.varint_kind math_bits_Len
noncomputable def ann_150 : Ann := ⟨fun _ => none, fun i => bif i.beq 4 then some ⟨[0, 10], [⟨false, [.int .i64]⟩, ⟨false, [.int .i64]⟩]⟩ else none, fun i => bif i.beq 1 then some ⟨[0, 9], [⟨false, [.int .i64]⟩, ⟨false, [.bool]⟩]⟩ else none⟩
noncomputable def E_150 : Ent := ⟨150, [⟨false, [.int .i64]⟩], [⟨false, [.int .i64]⟩], fun (x : Int) h => varint_kind x h⟩
theorem eq_150 (math_bits_Len : Int → H → Option ((Int) × H)) : (fun (x : PT E_150.ps) (h : H) => runFK Go.Proofs.Ythiccnmplgdheaa.Tab.D (lstK [⟨180, [⟨false, [.int .u64]⟩], [⟨false, [.int .i64]⟩], fun (x : Int) h => math_bits_Len x h⟩]) ann_150 Try.f150 (Try.f150.body.getD .skip) E_150.ys (encP E_150.ps x) h) = (fun (x : Int) h => P.varint_kind math_bits_Len x h) := by kernel_rfl
theorem ok_150 : E_150.ok Go.Proofs.Ythiccnmplgdheaa.Tab.D := fun x h y h' e => runFK_ok (lstK_ok [E_180] (List.forall_mem_cons.2 ⟨ok_180, fun E h => nomatch h⟩)) (A := ann_150) (by kernel_rfl) (show Go.Proofs.Ythiccnmplgdheaa.Tab.D.fn.get 150 = some Try.f150 by kernel_rfl) (show Try.f150.body = some (Try.f150.body.getD .skip) by kernel_rfl) ((congrFun (congrFun (eq_150 math_bits_Len) x) h).trans e)
/-! varint_Put -/
noncomputable def P.varint_Put_l2 (slices_Clone_byte : Sl → H → Option ((Sl) × H)) (varint_kind : Int → H → Option ((Int) × H)) (slices_Clip_byte : Sl → H → Option ((Sl) × H)) : ((Sl × (Int × (Int × (Int × (Int × (Sl × (Int × Int))))))) × H) → Option (((Sl × (Int × (Int × (Int × (Int × (Sl × (Int × Int))))))) × H) ⊕ (((Sl × (Int × (Int × (Sl × (Int × Int))))) × H) ⊕ (((Sl × (Sl × (Int × Int))) × H) ⊕ (((Sl × (Sl × (Int × Int))) × H) ⊕ ((Sl × H) ⊕ (Sl × H)))))) := fun ((out, (x0, (k, (first, (at', (x1, (x2, x3))))))), h0) =>
  condK (decide ((at' ≥ 0))) (
    bindO (shrT .i64 x0 .i64 at') fun (x4 : Int) =>
    newO (row 5 [(.int .u8 (IntKind.wrap .u8 x4))]) h0 fun (b : Nat) (h1 : H) =>
    bind2 (appT 5 1 1 h1 out (⟨(some (⟨b, 0, (some 0)⟩ : Addr)), 1, 1⟩ : Sl)) fun (x5 : Sl) (h2 : H) =>
    some (Sum.inl ((x5, (x0, (k, (first, ((IntKind.wrap .i64 (at' - 8)), (x1, (x2, x3))))))), h2))) (
    some (Sum.inr (Sum.inl ((out, (k, (first, (x1, (x2, x3))))), h0))))

noncomputable def P.varint_Put_l1 (slices_Clone_byte : Sl → H → Option ((Sl) × H)) (varint_kind : Int → H → Option ((Int) × H)) (slices_Clip_byte : Sl → H → Option ((Sl) × H)) : ((Sl × (Sl × (Int × Int))) × H) → Option (((Sl × (Sl × (Int × Int))) × H) ⊕ ((Sl × H) ⊕ (Sl × H))) := fun ((out, (x0, (x1, x2))), h0) =>
  condK (decide ((x2 < x1))) (
    joinO (
      bindO (ixT 1 x0 x2) fun (a0 : Addr) =>
      bindO (ldI .i64 h0 a0) fun (x3 : Int) =>
      bind2 (varint_kind x3 h0) fun (x4 : Int) (h1 : H) =>
      condK (decide ((x4 < 0))) (
        some (Sum.inr (Sum.inr (Sum.inr ((⟨none, 0, 0⟩ : Sl), h1))))) (
        joinO (
          bindO (shlT .i64 8 .i64 x4) fun (x5 : Int) =>
          loopO (P.varint_Put_l2 slices_Clone_byte varint_kind slices_Clip_byte) ((out, (x3, (x4, (((out.len : Nat) : Int), ((IntKind.wrap .i64 (x5 - 8)), (x0, (x1, x2))))))), h1)) fun (((out1, (k, (first, (x5, (x6, x7))))), h2) : ((Sl × (Int × (Int × (Sl × (Int × Int))))) × H)) =>
        bindO (ixT 1 out1 first) fun (a1 : Addr) =>
        bindO (ldI .u8 h2 a1) fun (x8 : Int) =>
        letO ((IntKind.wrap .u8 (((BitVec.toNat ((BitVec.ofInt 8 x8) ||| (BitVec.ofInt 8 (IntKind.wrap .u8 (IntKind.wrap .i64 (k * 64)))))) : Nat) : Int))) fun (x9 : Int) =>
        bindO (ixT 1 out1 first) fun (a2 : Addr) =>
        bindO (st1 h2 a2 (.int .u8 x9)) fun (h3 : H) =>
        some (Sum.inl ((out1, (x5, (x6, x7))), h3)))) fun (((out1, (x3, (x4, x5))), h1) : ((Sl × (Sl × (Int × Int))) × H)) =>
    some (Sum.inl ((out1, (x3, (x4, (IntKind.wrap .i64 (x5 + 1))))), h1))) (
    some (Sum.inr (Sum.inl (out, h0))))

noncomputable def P.varint_Put (slices_Clone_byte : Sl → H → Option ((Sl) × H)) (varint_kind : Int → H → Option ((Int) × H)) (slices_Clip_byte : Sl → H → Option ((Sl) × H)) (b : Sl) (n : Sl) (h : H) : Option (Sl × H) :=
  bind2 (slices_Clone_byte b h) fun (x0 : Sl) (h0 : H) =>
  joinO (
    loopO (P.varint_Put_l1 slices_Clone_byte varint_kind slices_Clip_byte) ((x0, (n, (((n.len : Nat) : Int), 0))), h0)) fun ((out, h1) : (Sl × H)) =>
  bind2 (slices_Clip_byte out h1) fun (x1 : Sl) (h2 : H) =>
  some (x1, h2)
noncomputable abbrev varint_Put_l2 := P.varint_Put_l2 slices_Clone_byte varint_kind slices_Clip_byte
noncomputable abbrev varint_Put_l1 := P.varint_Put_l1 slices_Clone_byte varint_kind slices_Clip_byte
noncomputable def varint_Put : Sl → Sl → H → Option ((Sl) × H) := P.varint_Put slices_Clone_byte varint_kind slices_Clip_byte
noncomputable def ann_100 : Ann := ⟨fun i => bif i.beq 13 then some ⟨[5, 8, 9, 13, 14, 15], [⟨false, [.sl]⟩, ⟨false, [.int .i64]⟩, ⟨false, [.int .i64]⟩, ⟨false, [.sl]⟩, ⟨false, [.int .i64]⟩, ⟨false, [.int .i64]⟩]⟩ else bif i.beq 14 then some ⟨[5, 13, 14, 15], [⟨false, [.sl]⟩, ⟨false, [.sl]⟩, ⟨false, [.int .i64]⟩, ⟨false, [.int .i64]⟩]⟩ else bif i.beq 15 then some ⟨[5], [⟨false, [.sl]⟩]⟩ else none, fun i => bif i.beq 3 then some ⟨[5, 13, 14, 15], [⟨false, [.sl]⟩, ⟨false, [.sl]⟩, ⟨false, [.int .i64]⟩, ⟨false, [.int .i64]⟩]⟩ else bif i.beq 10 then some ⟨[5, 7, 8, 9, 10, 13, 14, 15], [⟨false, [.sl]⟩, ⟨false, [.int .i64]⟩, ⟨false, [.int .i64]⟩, ⟨false, [.int .i64]⟩, ⟨false, [.int .i64]⟩, ⟨false, [.sl]⟩, ⟨false, [.int .i64]⟩, ⟨false, [.int .i64]⟩]⟩ else none, fun _ => none⟩
noncomputable def E_100 : Ent := ⟨100, [⟨false, [.sl]⟩, ⟨false, [.sl]⟩], [⟨false, [.sl]⟩], fun (x : Sl × Sl) h => varint_Put x.1 x.2 h⟩
theorem eq_100 (slices_Clone_byte : Sl → H → Option ((Sl) × H)) (varint_kind : Int → H → Option ((Int) × H)) (slices_Clip_byte : Sl → H → Option ((Sl) × H)) : (fun (x : PT E_100.ps) (h : H) => runFK Go.Proofs.Ythiccnmplgdheaa.Tab.D (lstK [⟨98, [⟨false, [.sl]⟩], [⟨false, [.sl]⟩], fun (x : Sl) h => slices_Clone_byte x h⟩, ⟨150, [⟨false, [.int .i64]⟩], [⟨false, [.int .i64]⟩], fun (x : Int) h => varint_kind x h⟩, ⟨97, [⟨false, [.sl]⟩], [⟨false, [.sl]⟩], fun (x : Sl) h => slices_Clip_byte x h⟩]) ann_100 Try.f100 (Try.f100.body.getD .skip) E_100.ys (encP E_100.ps x) h) = (fun (x : Sl × Sl) h => P.varint_Put slices_Clone_byte varint_kind slices_Clip_byte x.1 x.2 h) := by kernel_rfl
theorem ok_100 : E_100.ok Go.Proofs.Ythiccnmplgdheaa.Tab.D := fun x h y h' e => runFK_ok (lstK_ok [E_98, E_150, E_97] (List.forall_mem_cons.2 ⟨ok_98, List.forall_mem_cons.2 ⟨ok_150, List.forall_mem_cons.2 ⟨ok_97, fun E h => nomatch h⟩⟩⟩)) (A := ann_100) (by kernel_rfl) (show Go.Proofs.Ythiccnmplgdheaa.Tab.D.fn.get 100 = some Try.f100 by kernel_rfl) (show Try.f100.body = some (Try.f100.body.getD .skip) by kernel_rfl) ((congrFun (congrFun (eq_100 slices_Clone_byte varint_kind slices_Clip_byte) x) h).trans e)
/-! varint_Take -/
noncomputable def P.varint_Take_l1 (slices_Clone_byte : Sl → H → Option ((Sl) × H)) : ((Sl × (Int × (Int × (Sl × (Int × Int))))) × H) → Option (((Sl × (Int × (Int × (Sl × (Int × Int))))) × H) ⊕ (((Sl × (Int × Int)) × H) ⊕ ((Int × (Sl × Int)) × H))) := fun ((b, (n, (size, (x0, (x1, x2))))), h0) =>
  condK (decide ((x2 < x1))) (
    bindO (ixT 1 x0 x2) fun (a0 : Addr) =>
    bindO (ldI .u8 h0 a0) fun (x3 : Int) =>
    letO ((IntKind.wrap .i64 (((BitVec.toNat ((BitVec.ofInt 64 (IntKind.wrap .i64 (n * 256))) ||| (BitVec.ofInt 64 (IntKind.wrap .i64 x3)))) : Nat) : Int))) fun (x4 : Int) =>
    some (Sum.inl ((b, (x4, (size, (x0, (x1, (IntKind.wrap .i64 (x2 + 1))))))), h0))) (
    some (Sum.inr (Sum.inl ((b, (n, size)), h0))))

noncomputable def P.varint_Take (slices_Clone_byte : Sl → H → Option ((Sl) × H)) (b : Sl) (h : H) : Option ((Int × Sl × Int) × H) :=
  joinO (
    condK (((b.len : Nat) : Int) == 0) (
      some (Sum.inl ((b, true), h))) (
      bindO (ixT 1 b 0) fun (a0 : Addr) =>
      bindO (ldI .u8 h a0) fun (x0 : Int) =>
      bindO (shlT .i64 1 .u8 (Int.fdiv x0 64)) fun (x1 : Int) =>
      some (Sum.inl ((b, (decide ((((b.len : Nat) : Int) < x1)))), h)))) fun (((b1, x0), h0) : ((Sl × Bool) × H)) =>
  condK x0 (
    some ((0, ((⟨none, 0, 0⟩ : Sl), 3)), h0)) (
    bindO (ixT 1 b1 0) fun (a0 : Addr) =>
    bindO (ldI .u8 h0 a0) fun (x1 : Int) =>
    bindO (shlT .i64 1 .u8 (Int.fdiv x1 64)) fun (x2 : Int) =>
    bindO (ixT 1 b1 0) fun (a1 : Addr) =>
    bindO (ldI .u8 h0 a1) fun (x3 : Int) =>
    letO ((IntKind.wrap .u8 (((BitVec.toNat ((BitVec.ofInt 8 x3) &&& (BitVec.ofInt 8 63))) : Nat) : Int))) fun (x4 : Int) =>
    joinO (
      bindO (slT 1 h0 b1 (some 1) (some x2) none) fun (x5 : Sl) =>
      loopO (P.varint_Take_l1 slices_Clone_byte) ((b1, ((IntKind.wrap .i64 x4), (x2, (x5, (((x5.len : Nat) : Int), 0))))), h0)) fun (((b2, (n, size)), h1) : ((Sl × (Int × Int)) × H)) =>
    bindO (slT 1 h1 b2 (some size) none none) fun (x5 : Sl) =>
    bind2 (slices_Clone_byte x5 h1) fun (x6 : Sl) (h2 : H) =>
    some ((n, (x6, 0)), h2))
noncomputable abbrev varint_Take_l1 := P.varint_Take_l1 slices_Clone_byte
noncomputable def varint_Take : Sl → H → Option ((Int × Sl × Int) × H) := P.varint_Take slices_Clone_byte
noncomputable def ann_151 : Ann := ⟨fun i => bif i.beq 10 then some ⟨[0, 2, 5], [⟨false, [.sl]⟩, ⟨false, [.int .i64]⟩, ⟨false, [.int .i64]⟩]⟩ else none, fun i => bif i.beq 6 then some ⟨[0, 2, 5, 33, 34, 35], [⟨false, [.sl]⟩, ⟨false, [.int .i64]⟩, ⟨false, [.int .i64]⟩, ⟨false, [.sl]⟩, ⟨false, [.int .i64]⟩, ⟨false, [.int .i64]⟩]⟩ else none, fun i => bif i.beq 1 then some ⟨[0, 20], [⟨false, [.sl]⟩, ⟨false, [.bool]⟩]⟩ else none⟩
noncomputable def E_151 : Ent := ⟨151, [⟨false, [.sl]⟩], [⟨false, [.int .i64]⟩, ⟨false, [.sl]⟩, ⟨false, [.int .i64]⟩], fun (x : Sl) h => varint_Take x h⟩
theorem eq_151 (slices_Clone_byte : Sl → H → Option ((Sl) × H)) : (fun (x : PT E_151.ps) (h : H) => runFK Go.Proofs.Ythiccnmplgdheaa.Tab.D (lstK [⟨98, [⟨false, [.sl]⟩], [⟨false, [.sl]⟩], fun (x : Sl) h => slices_Clone_byte x h⟩]) ann_151 Try.f151 (Try.f151.body.getD .skip) E_151.ys (encP E_151.ps x) h) = (fun (x : Sl) h => P.varint_Take slices_Clone_byte x h) := by kernel_rfl
theorem ok_151 : E_151.ok Go.Proofs.Ythiccnmplgdheaa.Tab.D := fun x h y h' e => runFK_ok (lstK_ok [E_98] (List.forall_mem_cons.2 ⟨ok_98, fun E h => nomatch h⟩)) (A := ann_151) (by kernel_rfl) (show Go.Proofs.Ythiccnmplgdheaa.Tab.D.fn.get 151 = some Try.f151 by kernel_rfl) (show Try.f151.body = some (Try.f151.body.getD .skip) by kernel_rfl) ((congrFun (congrFun (eq_151 slices_Clone_byte) x) h).trans e)
/-! hand_Num -/
noncomputable def P.hand_Num (hand_Pick : Int → Int → H → Option ((Int) × H)) (n : Int) (h : H) : Option (Int × H) :=
  bind2 (hand_Pick (IntKind.wrap .i64 (Int.tdiv n 9)) 3 h) fun (x0 : Int) (h0 : H) =>
  bind2 (hand_Pick n 9 h0) fun (x1 : Int) (h1 : H) =>
  condK (x1 == 0) (
    some ((IntKind.wrap .i64 (64 + (IntKind.wrap .i64 (x0 - 1)))), h1)) (
    condK (x1 == 1) (
      some ((IntKind.wrap .i64 (16384 + (IntKind.wrap .i64 (x0 - 1)))), h1)) (
      condK (x1 == 2) (
        some ((IntKind.wrap .i64 (1073741824 + (IntKind.wrap .i64 (x0 - 1)))), h1)) (
        condK (x1 == 3) (
          letO ((IntKind.wrap .i64 (4611686018427387903 + (IntKind.wrap .i64 (x0 - 1))))) fun (x2 : Int) =>
          some (x2, h1)) (
          condK (x1 == 4) (
            some (n, h1)) (
            bind2 (hand_Pick (IntKind.wrap .i64 (Int.tdiv n 9)) 500 h1) fun (x3 : Int) (h2 : H) =>
            some (x3, h2))))))
noncomputable def hand_Num : Int → H → Option ((Int) × H) := P.hand_Num hand_Pick
noncomputable def ann_45 : Ann := ⟨fun _ => none, fun _ => none, fun _ => none⟩
noncomputable def E_45 : Ent := ⟨45, [⟨false, [.int .i64]⟩], [⟨false, [.int .i64]⟩], fun (x : Int) h => hand_Num x h⟩
theorem eq_45 (hand_Pick : Int → Int → H → Option ((Int) × H)) : (fun (x : PT E_45.ps) (h : H) => runFK Go.Proofs.Ythiccnmplgdheaa.Tab.D (lstK [⟨24, [⟨false, [.int .i64]⟩, ⟨false, [.int .i64]⟩], [⟨false, [.int .i64]⟩], fun (x : Int × Int) h => hand_Pick x.1 x.2 h⟩]) ann_45 Try.f45 (Try.f45.body.getD .skip) E_45.ys (encP E_45.ps x) h) = (fun (x : Int) h => P.hand_Num hand_Pick x h) := by kernel_rfl
theorem ok_45 : E_45.ok Go.Proofs.Ythiccnmplgdheaa.Tab.D := fun x h y h' e => runFK_ok (lstK_ok [E_24] (List.forall_mem_cons.2 ⟨ok_24, fun E h => nomatch h⟩)) (A := ann_45) (by kernel_rfl) (show Go.Proofs.Ythiccnmplgdheaa.Tab.D.fn.get 45 = some Try.f45 by kernel_rfl) (show Try.f45.body = some (Try.f45.body.getD .skip) by kernel_rfl) ((congrFun (congrFun (eq_45 hand_Pick) x) h).trans e)
/-! ref1_May -/
noncomputable def ref1_May (n : Int) (h : H) : Option (Bool × H) :=
  condK (decide ((n ≥ 0))) (
    some ((decide ((n ≤ 4611686018427387903))), h)) (
    some (false, h))
noncomputable def ann_103 : Ann := ⟨fun _ => none, fun _ => none, fun _ => none⟩
noncomputable def E_103 : Ent := ⟨103, [⟨false, [.int .i64]⟩], [⟨false, [.bool]⟩], fun (x : Int) h => ref1_May x h⟩
theorem eq_103  : (fun (x : PT E_103.ps) (h : H) => runFK Go.Proofs.Ythiccnmplgdheaa.Tab.D (lstK []) ann_103 Try.f103 (Try.f103.body.getD .skip) E_103.ys (encP E_103.ps x) h) = (fun (x : Int) h => ref1_May x h) := by kernel_rfl
theorem ok_103 : E_103.ok Go.Proofs.Ythiccnmplgdheaa.Tab.D := fun x h y h' e => runFK_ok (lstK_ok [] (fun E h => nomatch h)) (A := ann_103) (by kernel_rfl) (show Go.Proofs.Ythiccnmplgdheaa.Tab.D.fn.get 103 = some Try.f103 by kernel_rfl) (show Try.f103.body = some (Try.f103.body.getD .skip) by kernel_rfl) ((congrFun (congrFun (eq_103 ) x) h).trans e)
/-! hand_May -/
noncomputable def P.hand_May (hand_Num : Int → H → Option ((Int) × H)) (ref1_May : Int → H → Option ((Bool) × H)) (hand_Pick : Int → Int → H → Option ((Int) × H)) (n : Int) (h : H) : Option (Int × H) :=
  bind2 (hand_Num n h) fun (x0 : Int) (h0 : H) =>
  bind2 (ref1_May x0 h0) fun (x1 : Bool) (h1 : H) =>
  condK (!x1) (
    bind2 (hand_Pick n 1048576 h1) fun (x2 : Int) (h2 : H) =>
    some (x2, h2)) (
    some (x0, h1))
noncomputable def hand_May : Int → H → Option ((Int) × H) := P.hand_May hand_Num ref1_May hand_Pick
noncomputable def ann_48 : Ann := ⟨fun _ => none, fun _ => none, fun _ => none⟩
noncomputable def E_48 : Ent := ⟨48, [⟨false, [.int .i64]⟩], [⟨false, [.int .i64]⟩], fun (x : Int) h => hand_May x h⟩
theorem eq_48 (hand_Num : Int → H → Option ((Int) × H)) (ref1_May : Int → H → Option ((Bool) × H)) (hand_Pick : Int → Int → H → Option ((Int) × H)) : (fun (x : PT E_48.ps) (h : H) => runFK Go.Proofs.Ythiccnmplgdheaa.Tab.D (lstK [⟨45, [⟨false, [.int .i64]⟩], [⟨false, [.int .i64]⟩], fun (x : Int) h => hand_Num x h⟩, ⟨103, [⟨false, [.int .i64]⟩], [⟨false, [.bool]⟩], fun (x : Int) h => ref1_May x h⟩, ⟨24, [⟨false, [.int .i64]⟩, ⟨false, [.int .i64]⟩], [⟨false, [.int .i64]⟩], fun (x : Int × Int) h => hand_Pick x.1 x.2 h⟩]) ann_48 Try.f48 (Try.f48.body.getD .skip) E_48.ys (encP E_48.ps x) h) = (fun (x : Int) h => P.hand_May hand_Num ref1_May hand_Pick x h) := by kernel_rfl
theorem ok_48 : E_48.ok Go.Proofs.Ythiccnmplgdheaa.Tab.D := fun x h y h' e => runFK_ok (lstK_ok [E_45, E_103, E_24] (List.forall_mem_cons.2 ⟨ok_45, List.forall_mem_cons.2 ⟨ok_103, List.forall_mem_cons.2 ⟨ok_24, fun E h => nomatch h⟩⟩⟩)) (A := ann_48) (by kernel_rfl) (show Go.Proofs.Ythiccnmplgdheaa.Tab.D.fn.get 48 = some Try.f48 by kernel_rfl) (show Try.f48.body = some (Try.f48.body.getD .skip) by kernel_rfl) ((congrFun (congrFun (eq_48 hand_Num ref1_May hand_Pick) x) h).trans e)
/-! ref1_size -/
noncomputable def P.ref1_size (ref1_May : Int → H → Option ((Bool) × H)) (n : Int) (h : H) : Option (Int × H) :=
  bind2 (ref1_May n h) fun (x0 : Bool) (h0 : H) =>
  condK (!x0) (
    some ((-1), h0)) (
    condK (decide ((n < 64))) (
      some (1, h0)) (
      condK (decide ((n < 16384))) (
        some (2, h0)) (
        condK (decide ((n < 1073741824))) (
          some (4, h0)) (
          some (8, h0)))))
noncomputable def ref1_size : Int → H → Option ((Int) × H) := P.ref1_size ref1_May
noncomputable def ann_152 : Ann := ⟨fun _ => none, fun _ => none, fun _ => none⟩
noncomputable def E_152 : Ent := ⟨152, [⟨false, [.int .i64]⟩], [⟨false, [.int .i64]⟩], fun (x : Int) h => ref1_size x h⟩
theorem eq_152 (ref1_May : Int → H → Option ((Bool) × H)) : (fun (x : PT E_152.ps) (h : H) => runFK Go.Proofs.Ythiccnmplgdheaa.Tab.D (lstK [⟨103, [⟨false, [.int .i64]⟩], [⟨false, [.bool]⟩], fun (x : Int) h => ref1_May x h⟩]) ann_152 Try.f152 (Try.f152.body.getD .skip) E_152.ys (encP E_152.ps x) h) = (fun (x : Int) h => P.ref1_size ref1_May x h) := by kernel_rfl
theorem ok_152 : E_152.ok Go.Proofs.Ythiccnmplgdheaa.Tab.D := fun x h y h' e => runFK_ok (lstK_ok [E_103] (List.forall_mem_cons.2 ⟨ok_103, fun E h => nomatch h⟩)) (A := ann_152) (by kernel_rfl) (show Go.Proofs.Ythiccnmplgdheaa.Tab.D.fn.get 152 = some Try.f152 by kernel_rfl) (show Try.f152.body = some (Try.f152.body.getD .skip) by kernel_rfl) ((congrFun (congrFun (eq_152 ref1_May) x) h).trans e)
/-! ref1_Size -/
noncomputable def P.ref1_Size_l1 (ref1_May : Int → H → Option ((Bool) × H)) (ref1_size : Int → H → Option ((Int) × H)) : ((Sl × (Int × Int)) × H) → Option (((Sl × (Int × Int)) × H) ⊕ ((Int × H) ⊕ (Int × H))) := fun ((l, (sum, i)), h0) =>
  condK (decide ((i < ((l.len : Nat) : Int)))) (
    bindO (ixT 1 l i) fun (a0 : Addr) =>
    bindO (ldI .i64 h0 a0) fun (x0 : Int) =>
    bind2 (ref1_May x0 h0) fun (x1 : Bool) (h1 : H) =>
    condK (!x1) (
      some (Sum.inr (Sum.inr ((-1), h1)))) (
      bindO (ixT 1 l i) fun (a1 : Addr) =>
      bindO (ldI .i64 h1 a1) fun (x2 : Int) =>
      bind2 (ref1_size x2 h1) fun (x3 : Int) (h2 : H) =>
      some (Sum.inl ((l, ((IntKind.wrap .i64 (sum + x3)), (IntKind.wrap .i64 (i + 1)))), h2)))) (
    some (Sum.inr (Sum.inl (sum, h0))))

noncomputable def P.ref1_Size (ref1_May : Int → H → Option ((Bool) × H)) (ref1_size : Int → H → Option ((Int) × H)) (l : Sl) (h : H) : Option (Int × H) :=
  joinO (
    loopO (P.ref1_Size_l1 ref1_May ref1_size) ((l, (0, 0)), h)) fun ((sum, h0) : (Int × H)) =>
  some (sum, h0)
noncomputable abbrev ref1_Size_l1 := P.ref1_Size_l1 ref1_May ref1_size
noncomputable def ref1_Size : Sl → H → Option ((Int) × H) := P.ref1_Size ref1_May ref1_size
noncomputable def ann_105 : Ann := ⟨fun i => bif i.beq 8 then some ⟨[3], [⟨false, [.int .i64]⟩]⟩ else none, fun i => bif i.beq 3 then some ⟨[0, 3, 4], [⟨false, [.sl]⟩, ⟨false, [.int .i64]⟩, ⟨false, [.int .i64]⟩]⟩ else none, fun _ => none⟩
noncomputable def E_105 : Ent := ⟨105, [⟨false, [.sl]⟩], [⟨false, [.int .i64]⟩], fun (x : Sl) h => ref1_Size x h⟩
theorem eq_105 (ref1_May : Int → H → Option ((Bool) × H)) (ref1_size : Int → H → Option ((Int) × H)) : (fun (x : PT E_105.ps) (h : H) => runFK Go.Proofs.Ythiccnmplgdheaa.Tab.D (lstK [⟨103, [⟨false, [.int .i64]⟩], [⟨false, [.bool]⟩], fun (x : Int) h => ref1_May x h⟩, ⟨152, [⟨false, [.int .i64]⟩], [⟨false, [.int .i64]⟩], fun (x : Int) h => ref1_size x h⟩]) ann_105 Try.f105 (Try.f105.body.getD .skip) E_105.ys (encP E_105.ps x) h) = (fun (x : Sl) h => P.ref1_Size ref1_May ref1_size x h) := by kernel_rfl
theorem ok_105 : E_105.ok Go.Proofs.Ythiccnmplgdheaa.Tab.D := fun x h y h' e => runFK_ok (lstK_ok [E_103, E_152] (List.forall_mem_cons.2 ⟨ok_103, List.forall_mem_cons.2 ⟨ok_152, fun E h => nomatch h⟩⟩)) (A := ann_105) (by kernel_rfl) (show Go.Proofs.Ythiccnmplgdheaa.Tab.D.fn.get 105 = some Try.f105 by kernel_rfl) (show Try.f105.body = some (Try.f105.body.getD .skip) by kernel_rfl) ((congrFun (congrFun (eq_105 ref1_May ref1_size) x) h).trans e)
/-! ref1_put -/
noncomputable def P.ref1_put_l1 (ref1_size : Int → H → Option ((Int) × H)) : ((Sl × (Int × (Int × Int))) × H) → Option (((Sl × (Int × (Int × Int))) × H) ⊕ ((Sl × H) ⊕ (Sl × H))) := fun ((b, (n, (k, i))), h0) =>
  condK (decide ((i ≥ 0))) (
    bindO (shrT .i64 n .u64 (IntKind.wrap .u64 (IntKind.wrap .i64 (8 * i)))) fun (x0 : Int) =>
    joinO (
      condK (i == (IntKind.wrap .i64 (k - 1))) (
        condK (k == 2) (
          some (Sum.inl ((b, (n, (k, (i, (IntKind.wrap .u8 ((IntKind.wrap .u8 x0) + 64)))))), h0))) (
          condK (k == 4) (
            some (Sum.inl ((b, (n, (k, (i, (IntKind.wrap .u8 ((IntKind.wrap .u8 x0) + 128)))))), h0))) (
            condK (k == 8) (
              some (Sum.inl ((b, (n, (k, (i, (IntKind.wrap .u8 ((IntKind.wrap .u8 x0) + 192)))))), h0))) (
              some (Sum.inl ((b, (n, (k, (i, (IntKind.wrap .u8 x0))))), h0)))))) (
        some (Sum.inl ((b, (n, (k, (i, (IntKind.wrap .u8 x0))))), h0)))) fun (((b1, (n1, (k1, (i1, c)))), h1) : ((Sl × (Int × (Int × (Int × Int)))) × H)) =>
    newO (row 5 [(.int .u8 c)]) h1 fun (b2 : Nat) (h2 : H) =>
    bind2 (appT 5 1 1 h2 b1 (⟨(some (⟨b2, 0, (some 0)⟩ : Addr)), 1, 1⟩ : Sl)) fun (x1 : Sl) (h3 : H) =>
    some (Sum.inl ((x1, (n1, (k1, (IntKind.wrap .i64 (i1 - 1))))), h3))) (
    some (Sum.inr (Sum.inl (b, h0))))

noncomputable def P.ref1_put (ref1_size : Int → H → Option ((Int) × H)) (b : Sl) (n : Int) (h : H) : Option (Sl × H) :=
  bind2 (ref1_size n h) fun (x0 : Int) (h0 : H) =>
  joinO (
    loopO (P.ref1_put_l1 ref1_size) ((b, (n, (x0, (IntKind.wrap .i64 (x0 - 1))))), h0)) fun ((b1, h1) : (Sl × H)) =>
  some (b1, h1)
noncomputable abbrev ref1_put_l1 := P.ref1_put_l1 ref1_size
noncomputable def ref1_put : Sl → Int → H → Option ((Sl) × H) := P.ref1_put ref1_size
noncomputable def ann_106 : Ann := ⟨fun i => bif i.beq 14 then some ⟨[0, 1, 5, 6, 7], [⟨false, [.sl]⟩, ⟨false, [.int .i64]⟩, ⟨false, [.int .i64]⟩, ⟨false, [.int .i64]⟩, ⟨false, [.int .u8]⟩]⟩ else bif i.beq 15 then some ⟨[0], [⟨false, [.sl]⟩]⟩ else none, fun i => bif i.beq 3 then some ⟨[0, 1, 5, 6], [⟨false, [.sl]⟩, ⟨false, [.int .i64]⟩, ⟨false, [.int .i64]⟩, ⟨false, [.int .i64]⟩]⟩ else none, fun _ => none⟩
noncomputable def E_106 : Ent := ⟨106, [⟨false, [.sl]⟩, ⟨false, [.int .i64]⟩], [⟨false, [.sl]⟩], fun (x : Sl × Int) h => ref1_put x.1 x.2 h⟩
theorem eq_106 (ref1_size : Int → H → Option ((Int) × H)) : (fun (x : PT E_106.ps) (h : H) => runFK Go.Proofs.Ythiccnmplgdheaa.Tab.D (lstK [⟨152, [⟨false, [.int .i64]⟩], [⟨false, [.int .i64]⟩], fun (x : Int) h => ref1_size x h⟩]) ann_106 Try.f106 (Try.f106.body.getD .skip) E_106.ys (encP E_106.ps x) h) = (fun (x : Sl × Int) h => P.ref1_put ref1_size x.1 x.2 h) := by kernel_rfl
theorem ok_106 : E_106.ok Go.Proofs.Ythiccnmplgdheaa.Tab.D := fun x h y h' e => runFK_ok (lstK_ok [E_152] (List.forall_mem_cons.2 ⟨ok_152, fun E h => nomatch h⟩)) (A := ann_106) (by kernel_rfl) (show Go.Proofs.Ythiccnmplgdheaa.Tab.D.fn.get 106 = some Try.f106 by kernel_rfl) (show Try.f106.body = some (Try.f106.body.getD .skip) by kernel_rfl) ((congrFun (congrFun (eq_106 ref1_size) x) h).trans e)
/-! ref1_Put -/
noncomputable def P.ref1_Put_l1 (ref1_Size : Sl → H → Option ((Int) × H)) (ref1_put : Sl → Int → H → Option ((Sl) × H)) : ((Sl × (Sl × Int)) × H) → Option (((Sl × (Sl × Int)) × H) ⊕ ((Sl × H) ⊕ (Sl × H))) := fun ((l, (out, i)), h0) =>
  condK (decide ((i < ((l.len : Nat) : Int)))) (
    bindO (ixT 1 l i) fun (a0 : Addr) =>
    bindO (ldI .i64 h0 a0) fun (x0 : Int) =>
    bind2 (ref1_put out x0 h0) fun (x1 : Sl) (h1 : H) =>
    some (Sum.inl ((l, (x1, (IntKind.wrap .i64 (i + 1)))), h1))) (
    some (Sum.inr (Sum.inl (out, h0))))

noncomputable def P.ref1_Put (ref1_Size : Sl → H → Option ((Int) × H)) (ref1_put : Sl → Int → H → Option ((Sl) × H)) (b : Sl) (l : Sl) (h : H) : Option (Sl × H) :=
  bind2 (ref1_Size l h) fun (x0 : Int) (h0 : H) =>
  condK (decide ((x0 < 0))) (
    some ((⟨none, 0, 0⟩ : Sl), h0)) (
    newO (row 5 []) h0 fun (b1 : Nat) (h1 : H) =>
    bind2 (appT 5 1 1 h1 (⟨(some (⟨b1, 0, (some 0)⟩ : Addr)), 0, 0⟩ : Sl) b) fun (x1 : Sl) (h2 : H) =>
    joinO (
      loopO (P.ref1_Put_l1 ref1_Size ref1_put) ((l, (x1, 0)), h2)) fun ((out, h3) : (Sl × H)) =>
    some (out, h3))
noncomputable abbrev ref1_Put_l1 := P.ref1_Put_l1 ref1_Size ref1_put
noncomputable def ref1_Put : Sl → Sl → H → Option ((Sl) × H) := P.ref1_Put ref1_Size ref1_put
noncomputable def ann_47 : Ann := ⟨fun i => bif i.beq 8 then some ⟨[5], [⟨false, [.sl]⟩]⟩ else none, fun i => bif i.beq 5 then some ⟨[1, 5, 6], [⟨false, [.sl]⟩, ⟨false, [.sl]⟩, ⟨false, [.int .i64]⟩]⟩ else none, fun _ => none⟩
noncomputable def E_47 : Ent := ⟨47, [⟨false, [.sl]⟩, ⟨false, [.sl]⟩], [⟨false, [.sl]⟩], fun (x : Sl × Sl) h => ref1_Put x.1 x.2 h⟩
theorem eq_47 (ref1_Size : Sl → H → Option ((Int) × H)) (ref1_put : Sl → Int → H → Option ((Sl) × H)) : (fun (x : PT E_47.ps) (h : H) => runFK Go.Proofs.Ythiccnmplgdheaa.Tab.D (lstK [⟨105, [⟨false, [.sl]⟩], [⟨false, [.int .i64]⟩], fun (x : Sl) h => ref1_Size x h⟩, ⟨106, [⟨false, [.sl]⟩, ⟨false, [.int .i64]⟩], [⟨false, [.sl]⟩], fun (x : Sl × Int) h => ref1_put x.1 x.2 h⟩]) ann_47 Try.f47 (Try.f47.body.getD .skip) E_47.ys (encP E_47.ps x) h) = (fun (x : Sl × Sl) h => P.ref1_Put ref1_Size ref1_put x.1 x.2 h) := by kernel_rfl
theorem ok_47 : E_47.ok Go.Proofs.Ythiccnmplgdheaa.Tab.D := fun x h y h' e => runFK_ok (lstK_ok [E_105, E_106] (List.forall_mem_cons.2 ⟨ok_105, List.forall_mem_cons.2 ⟨ok_106, fun E h => nomatch h⟩⟩)) (A := ann_47) (by kernel_rfl) (show Go.Proofs.Ythiccnmplgdheaa.Tab.D.fn.get 47 = some Try.f47 by kernel_rfl) (show Try.f47.body = some (Try.f47.body.getD .skip) by kernel_rfl) ((congrFun (congrFun (eq_47 ref1_Size ref1_put) x) h).trans e)
/-! hand_Few -/
noncomputable def hand_Few (b : Sl) (n : Int) (h : H) : Option (Sl × H) :=
  joinO (
    condK (decide ((((b.len : Nat) : Int) > n))) (
      bindO (slT 1 h b none (some n) none) fun (x0 : Sl) =>
      some (Sum.inl (x0, h))) (
      some (Sum.inl (b, h)))) fun ((b1, h0) : (Sl × H)) =>
  newO (row 5 []) h0 fun (b2 : Nat) (h1 : H) =>
  bind2 (appT 5 1 1 h1 (⟨(some (⟨b2, 0, (some 0)⟩ : Addr)), 0, 0⟩ : Sl) b1) fun (x0 : Sl) (h2 : H) =>
  some (x0, h2)
noncomputable def ann_49 : Ann := ⟨fun i => bif i.beq 3 then some ⟨[0], [⟨false, [.sl]⟩]⟩ else none, fun _ => none, fun _ => none⟩
noncomputable def E_49 : Ent := ⟨49, [⟨false, [.sl]⟩, ⟨false, [.int .i64]⟩], [⟨false, [.sl]⟩], fun (x : Sl × Int) h => hand_Few x.1 x.2 h⟩
theorem eq_49  : (fun (x : PT E_49.ps) (h : H) => runFK Go.Proofs.Ythiccnmplgdheaa.Tab.D (lstK []) ann_49 Try.f49 (Try.f49.body.getD .skip) E_49.ys (encP E_49.ps x) h) = (fun (x : Sl × Int) h => hand_Few x.1 x.2 h) := by kernel_rfl
theorem ok_49 : E_49.ok Go.Proofs.Ythiccnmplgdheaa.Tab.D := fun x h y h' e => runFK_ok (lstK_ok [] (fun E h => nomatch h)) (A := ann_49) (by kernel_rfl) (show Go.Proofs.Ythiccnmplgdheaa.Tab.D.fn.get 49 = some Try.f49 by kernel_rfl) (show Try.f49.body = some (Try.f49.body.getD .skip) by kernel_rfl) ((congrFun (congrFun (eq_49 ) x) h).trans e)
/-! hand_Runs -/
noncomputable def P.hand_Runs_l1 (hand_Pick : Int → Int → H → Option ((Int) × H)) : ((Sl × (Sl × (Int × Int))) × H) → Option (((Sl × (Sl × (Int × Int))) × H) ⊕ ((Sl × H) ⊕ (Sl × H))) := fun ((l, (out, (low, i))), h0) =>
  joinO (
    condK (decide ((i < ((l.len : Nat) : Int)))) (
      some (Sum.inl ((l, (out, (low, (i, (decide ((((out.len : Nat) : Int) < 8))))))), h0))) (
      some (Sum.inl ((l, (out, (low, (i, false)))), h0)))) fun (((l1, (out1, (low1, (i1, x0)))), h1) : ((Sl × (Sl × (Int × (Int × Bool)))) × H)) =>
  condK x0 (
    bindO (ixT 1 l1 i1) fun (a0 : Addr) =>
    bindO (ldI .i64 h1 a0) fun (x1 : Int) =>
    bind2 (hand_Pick x1 300 h1) fun (x2 : Int) (h2 : H) =>
    bindO (ixT 1 l1 i1) fun (a1 : Addr) =>
    bindO (ldI .i64 h2 a1) fun (x3 : Int) =>
    bind2 (hand_Pick (IntKind.wrap .i64 (Int.tdiv x3 300)) 40 h2) fun (x4 : Int) (h3 : H) =>
    letO ((IntKind.wrap .i64 ((IntKind.wrap .i64 ((IntKind.wrap .i64 (low1 - 2)) - x2)) - x4))) fun (x5 : Int) =>
    newO (row 36 [(.int .i64 x5), (.int .i64 (IntKind.wrap .i64 ((IntKind.wrap .i64 (low1 - 2)) - x2)))]) h3 fun (b : Nat) (h4 : H) =>
    bind2 (appT 36 2 16 h4 out1 (⟨(some (⟨b, 0, (some 0)⟩ : Addr)), 1, 1⟩ : Sl)) fun (x6 : Sl) (h5 : H) =>
    some (Sum.inl ((l1, (x6, (x5, (IntKind.wrap .i64 (i1 + 1))))), h5))) (
    some (Sum.inr (Sum.inl (out1, h1))))

noncomputable def P.hand_Runs (hand_Pick : Int → Int → H → Option ((Int) × H)) (l : Sl) (h : H) : Option (Sl × H) :=
  joinO (
    loopO (P.hand_Runs_l1 hand_Pick) ((l, ((⟨none, 0, 0⟩ : Sl), (1099511627776, 0))), h)) fun ((out, h0) : (Sl × H)) =>
  joinO (
    condK (((out.len : Nat) : Int) == 0) (
      newO (row 36 [(.int .i64 3), (.int .i64 3)]) h0 fun (b : Nat) (h1 : H) =>
      some (Sum.inl ((⟨(some (⟨b, 0, (some 0)⟩ : Addr)), 1, 1⟩ : Sl), h1))) (
      some (Sum.inl (out, h0)))) fun ((out1, h1) : (Sl × H)) =>
  some (out1, h1)
noncomputable abbrev hand_Runs_l1 := P.hand_Runs_l1 hand_Pick
noncomputable def hand_Runs : Sl → H → Option ((Sl) × H) := P.hand_Runs hand_Pick
noncomputable def ann_154 : Ann := ⟨fun i => bif i.beq 9 then some ⟨[3], [⟨false, [.sl]⟩]⟩ else bif i.beq 11 then some ⟨[3], [⟨false, [.sl]⟩]⟩ else none, fun i => bif i.beq 4 then some ⟨[0, 3, 4, 5], [⟨false, [.sl]⟩, ⟨false, [.sl]⟩, ⟨false, [.int .i64]⟩, ⟨false, [.int .i64]⟩]⟩ else none, fun i => bif i.beq 4 then some ⟨[0, 3, 4, 5, 15], [⟨false, [.sl]⟩, ⟨false, [.sl]⟩, ⟨false, [.int .i64]⟩, ⟨false, [.int .i64]⟩, ⟨false, [.bool]⟩]⟩ else none⟩
noncomputable def E_154 : Ent := ⟨154, [⟨false, [.sl]⟩], [⟨false, [.sl]⟩], fun (x : Sl) h => hand_Runs x h⟩
theorem eq_154 (hand_Pick : Int → Int → H → Option ((Int) × H)) : (fun (x : PT E_154.ps) (h : H) => runFK Go.Proofs.Ythiccnmplgdheaa.Tab.D (lstK [⟨24, [⟨false, [.int .i64]⟩, ⟨false, [.int .i64]⟩], [⟨false, [.int .i64]⟩], fun (x : Int × Int) h => hand_Pick x.1 x.2 h⟩]) ann_154 Try.f154 (Try.f154.body.getD .skip) E_154.ys (encP E_154.ps x) h) = (fun (x : Sl) h => P.hand_Runs hand_Pick x h) := by kernel_rfl
theorem ok_154 : E_154.ok Go.Proofs.Ythiccnmplgdheaa.Tab.D := fun x h y h' e => runFK_ok (lstK_ok [E_24] (List.forall_mem_cons.2 ⟨ok_24, fun E h => nomatch h⟩)) (A := ann_154) (by kernel_rfl) (show Go.Proofs.Ythiccnmplgdheaa.Tab.D.fn.get 154 = some Try.f154 by kernel_rfl) (show Try.f154.body = some (Try.f154.body.getD .skip) by kernel_rfl) ((congrFun (congrFun (eq_154 hand_Pick) x) h).trans e)
/-! hand_Frame -/
noncomputable def P.hand_Frame_l1 (hand_Pick : Int → Int → H → Option ((Int) × H)) (hand_Runs : Sl → H → Option ((Sl) × H)) (hand_May : Int → H → Option ((Int) × H)) (hand_Few : Sl → Int → H → Option ((Sl) × H)) (hand_Num : Int → H → Option ((Int) × H)) : (((Option Addr) × ((Option Addr) × Int)) × H) → Option ((((Option Addr) × ((Option Addr) × Int)) × H) ⊕ ((((Option Addr) × (Option Addr)) × H) ⊕ ((Int × (Int × (Int × (Int × (Int × (Int × (Bool × (Sl × Sl)))))))) × H))) := fun ((x0, (f, k)), h0) =>
  ptrK f fun (a0 : Addr) =>
  bindO (ldL h0 (add a0 7)) fun (x1 : Sl) =>
  bind2 (hand_Pick k 3 h0) fun (x2 : Int) (h1 : H) =>
  condK (((x1.len : Nat) : Int) == ((x1.len : Nat) : Int)) (
    bindO (ldL h1 (add a0 7)) fun (x3 : Sl) =>
    condK (slEq x3.base x3.len x3.cap x1.base x1.len x1.cap) (
      condK (decide ((((x1.len : Nat) : Int) < (IntKind.wrap .i64 (119 + x2))))) (
        ptrK f fun (a1 : Addr) =>
        bindO (ldL h1 (add a1 7)) fun (x4 : Sl) =>
        newO (row 5 [(.int .u8 (IntKind.wrap .u8 k))]) h1 fun (b : Nat) (h2 : H) =>
        bind2 (appT 5 1 1 h2 x4 (⟨(some (⟨b, 0, (some 0)⟩ : Addr)), 1, 1⟩ : Sl)) fun (x5 : Sl) (h3 : H) =>
        ptrK f fun (a2 : Addr) =>
        bindO (st1 h3 (add a2 7) (.slice x5.base x5.len x5.cap)) fun (h4 : H) =>
        some (Sum.inl ((x0, (f, k)), h4))) (
        some (Sum.inr (Sum.inl ((x0, f), h1))))) none) none

noncomputable def P.hand_Frame (hand_Pick : Int → Int → H → Option ((Int) × H)) (hand_Runs : Sl → H → Option ((Sl) × H)) (hand_May : Int → H → Option ((Int) × H)) (hand_Few : Sl → Int → H → Option ((Sl) × H)) (hand_Num : Int → H → Option ((Int) × H)) (x0 : Int × Int × Int × Int × Int × Int × Bool × Sl × Sl) (h : H) : Option ((Int × Int × Int × Int × Int × Int × Bool × Sl × Sl) × H) :=
  newO (row 132 [(.int .i64 x0.1), (.int .i64 x0.2.1), (.int .i64 x0.2.2.1), (.int .i64 x0.2.2.2.1), (.int .i64 x0.2.2.2.2.1), (.int .i64 x0.2.2.2.2.2.1), (.bool x0.2.2.2.2.2.2.1), (.slice x0.2.2.2.2.2.2.2.1.base x0.2.2.2.2.2.2.2.1.len x0.2.2.2.2.2.2.2.1.cap), (.slice x0.2.2.2.2.2.2.2.2.base x0.2.2.2.2.2.2.2.2.len x0.2.2.2.2.2.2.2.2.cap)]) h fun (b : Nat) (h0 : H) =>
  newO (row 33 [(.int .i64 0), (.int .i64 0), (.int .i64 0), (.int .i64 0), (.int .i64 0), (.int .i64 0), (.bool false), (.slice none 0 0), (.slice none 0 0)]) h0 fun (b1 : Nat) (h1 : H) =>
  bindO (ldI .i64 h1 (add (⟨b, 0, (some 0)⟩ : Addr) 0)) fun (x1 : Int) =>
  bind2 (hand_Pick x1 12 h1) fun (x2 : Int) (h2 : H) =>
  newO (row 33 [(.int .i64 0), (.int .i64 0), (.int .i64 0), (.int .i64 0), (.int .i64 0), (.int .i64 0), (.bool false), (.slice none 0 0), (.slice none 0 0)]) h2 fun (b2 : Nat) (h3 : H) =>
  bindO (stZ [.int .i64, .int .i64, .int .i64, .int .i64, .int .i64, .int .i64, .bool, .sl, .sl] h3 (⟨b2, 0, (some 0)⟩ : Addr) (((IntKind.wrap .i64 (1 + x2)), 0, 0, 0, 0, 0, false, (⟨none, 0, 0⟩ : Sl), (⟨none, 0, 0⟩ : Sl)) : Int × Int × Int × Int × Int × Int × Bool × Sl × Sl)) fun (h4 : H) =>
  joinO (
    bindO (ldI .i64 h4 (add (⟨b2, 0, (some 0)⟩ : Addr) 0)) fun (x3 : Int) =>
    condK (x3 == 2) (
      bindO (ldL h4 (add (⟨b, 0, (some 0)⟩ : Addr) 8)) fun (x4 : Sl) =>
      bind2 (hand_Runs x4 h4) fun (x5 : Sl) (h5 : H) =>
      bindO (st1 h5 (add (⟨b2, 0, (some 0)⟩ : Addr) 8) (.slice x5.base x5.len x5.cap)) fun (h6 : H) =>
      some (Sum.inl (((some (⟨b, 0, (some 0)⟩ : Addr)), ((some (⟨b1, 0, (some 0)⟩ : Addr)), (some (⟨b2, 0, (some 0)⟩ : Addr)))), h6))) (
      condK (x3 == 3) (
        bindO (ldI .i64 h4 (add (⟨b, 0, (some 0)⟩ : Addr) 1)) fun (x6 : Int) =>
        bind2 (hand_May x6 h4) fun (x7 : Int) (h7 : H) =>
        bindO (st1 h7 (add (⟨b2, 0, (some 0)⟩ : Addr) 1) (.int .i64 x7)) fun (h8 : H) =>
        bindO (ldI .i64 h8 (add (⟨b, 0, (some 0)⟩ : Addr) 2)) fun (x8 : Int) =>
        bind2 (hand_Pick x8 1099511627776 h8) fun (x9 : Int) (h9 : H) =>
        bindO (st1 h9 (add (⟨b2, 0, (some 0)⟩ : Addr) 2) (.int .i64 x9)) fun (h10 : H) =>
        bindO (ldB h10 (add (⟨b, 0, (some 0)⟩ : Addr) 6)) fun (x10 : Bool) =>
        bindO (st1 h10 (add (⟨b2, 0, (some 0)⟩ : Addr) 6) (.bool x10)) fun (h11 : H) =>
        bindO (ldL h11 (add (⟨b, 0, (some 0)⟩ : Addr) 7)) fun (x11 : Sl) =>
        bind2 (hand_Few x11 120 h11) fun (x12 : Sl) (h12 : H) =>
        bindO (st1 h12 (add (⟨b2, 0, (some 0)⟩ : Addr) 7) (.slice x12.base x12.len x12.cap)) fun (h13 : H) =>
        some (Sum.inl (((some (⟨b, 0, (some 0)⟩ : Addr)), ((some (⟨b1, 0, (some 0)⟩ : Addr)), (some (⟨b2, 0, (some 0)⟩ : Addr)))), h13))) (
        condK (x3 == 4) (
          bindO (ldI .i64 h4 (add (⟨b, 0, (some 0)⟩ : Addr) 1)) fun (x13 : Int) =>
          bind2 (hand_May x13 h4) fun (x14 : Int) (h14 : H) =>
          bindO (st1 h14 (add (⟨b2, 0, (some 0)⟩ : Addr) 1) (.int .i64 x14)) fun (h15 : H) =>
          bindO (ldI .i64 h15 (add (⟨b, 0, (some 0)⟩ : Addr) 3)) fun (x15 : Int) =>
          bind2 (hand_May x15 h15) fun (x16 : Int) (h16 : H) =>
          bindO (st1 h16 (add (⟨b2, 0, (some 0)⟩ : Addr) 3) (.int .i64 x16)) fun (h17 : H) =>
          bindO (ldI .i64 h17 (add (⟨b, 0, (some 0)⟩ : Addr) 2)) fun (x17 : Int) =>
          bind2 (hand_May x17 h17) fun (x18 : Int) (h18 : H) =>
          bindO (st1 h18 (add (⟨b2, 0, (some 0)⟩ : Addr) 2) (.int .i64 x18)) fun (h19 : H) =>
          bindO (ldI .i64 h19 (add (⟨b, 0, (some 0)⟩ : Addr) 4)) fun (x19 : Int) =>
          bindO (ldI .i64 h19 (add (⟨b2, 0, (some 0)⟩ : Addr) 2)) fun (x20 : Int) =>
          bind2 (hand_Pick x19 (IntKind.wrap .i64 (x20 + 1)) h19) fun (x21 : Int) (h20 : H) =>
          bindO (st1 h20 (add (⟨b2, 0, (some 0)⟩ : Addr) 4) (.int .i64 x21)) fun (h21 : H) =>
          some (Sum.inl (((some (⟨b, 0, (some 0)⟩ : Addr)), ((some (⟨b1, 0, (some 0)⟩ : Addr)), (some (⟨b2, 0, (some 0)⟩ : Addr)))), h21))) (
          condK (x3 == 5) (
            condK (x3 == 5) (
              bindO (ldI .i64 h4 (add (⟨b, 0, (some 0)⟩ : Addr) 1)) fun (x22 : Int) =>
              bind2 (hand_May x22 h4) fun (x23 : Int) (h22 : H) =>
              bindO (st1 h22 (add (⟨b2, 0, (some 0)⟩ : Addr) 1) (.int .i64 x23)) fun (h23 : H) =>
              bindO (ldI .i64 h23 (add (⟨b, 0, (some 0)⟩ : Addr) 3)) fun (x24 : Int) =>
              bind2 (hand_May x24 h23) fun (x25 : Int) (h24 : H) =>
              bindO (st1 h24 (add (⟨b2, 0, (some 0)⟩ : Addr) 3) (.int .i64 x25)) fun (h25 : H) =>
              some (Sum.inl (((some (⟨b, 0, (some 0)⟩ : Addr)), ((some (⟨b1, 0, (some 0)⟩ : Addr)), (some (⟨b2, 0, (some 0)⟩ : Addr)))), h25))) (
              condK (x3 == 6) (
                condK (x3 == 6) (
                  bindO (ldI .i64 h4 (add (⟨b, 0, (some 0)⟩ : Addr) 3)) fun (x26 : Int) =>
                  bind2 (hand_May x26 h4) fun (x27 : Int) (h26 : H) =>
                  bindO (st1 h26 (add (⟨b2, 0, (some 0)⟩ : Addr) 3) (.int .i64 x27)) fun (h27 : H) =>
                  some (Sum.inl (((some (⟨b, 0, (some 0)⟩ : Addr)), ((some (⟨b1, 0, (some 0)⟩ : Addr)), (some (⟨b2, 0, (some 0)⟩ : Addr)))), h27))) (
                  condK (x3 == 8) (
                    bindO (ldI .i64 h4 (add (⟨b, 0, (some 0)⟩ : Addr) 3)) fun (x28 : Int) =>
                    bind2 (hand_May x28 h4) fun (x29 : Int) (h28 : H) =>
                    bindO (st1 h28 (add (⟨b2, 0, (some 0)⟩ : Addr) 3) (.int .i64 x29)) fun (h29 : H) =>
                    bindO (ldB h29 (add (⟨b, 0, (some 0)⟩ : Addr) 6)) fun (x30 : Bool) =>
                    bindO (st1 h29 (add (⟨b2, 0, (some 0)⟩ : Addr) 6) (.bool x30)) fun (h30 : H) =>
                    some (Sum.inl (((some (⟨b, 0, (some 0)⟩ : Addr)), ((some (⟨b1, 0, (some 0)⟩ : Addr)), (some (⟨b2, 0, (some 0)⟩ : Addr)))), h30))) (
                    condK (x3 == 9) (
                      letH (growIf h4 10) fun (h31 : H) =>
                      bindO (ldL h31 (add (⟨b, 0, (some 0)⟩ : Addr) 7)) fun (x31 : Sl) =>
                      bind2 (hand_Few x31 119 h31) fun (x32 : Sl) (h32 : H) =>
                      bindO (ldI .i64 h32 (add (⟨b, 0, (some 0)⟩ : Addr) 3)) fun (x33 : Int) =>
                      letH (addP 127 h4.size [(6, (row 5 [(.int .u8 (IntKind.wrap .u8 x33))]))] h32) fun (h33 : H) =>
                      bind2 (appT 5 1 1 h33 x32 (⟨(some (⟨(h4.size + 6), 0, (some 0)⟩ : Addr)), 1, 1⟩ : Sl)) fun (x34 : Sl) (h34 : H) =>
                      letH (addP 511 h4.size [(6, (row 5 [(.int .u8 (IntKind.wrap .u8 x33))]))] h34) fun (h35 : H) =>
                      bindO (st1 h35 (add (⟨b2, 0, (some 0)⟩ : Addr) 7) (.slice x34.base x34.len x34.cap)) fun (h36 : H) =>
                      letH (addP 8 h4.size [(6, (row 5 [(.int .u8 (IntKind.wrap .u8 x33))]))] h31) fun (h37 : H) =>
                      bindO (ldI .i64 h37 (add (⟨b, 0, (some 0)⟩ : Addr) 3)) fun (x35 : Int) =>
                      condK (x35 == x33) (
                        letH (addP 1023 h4.size [(6, (row 5 [(.int .u8 (IntKind.wrap .u8 x33))]))] h36) fun (h38 : H) =>
                        letH (tickIf 10 h38) fun (h39 : H) =>
                        some (Sum.inl (((some (⟨b, 0, (some 0)⟩ : Addr)), ((some (⟨b1, 0, (some 0)⟩ : Addr)), (some (⟨b2, 0, (some 0)⟩ : Addr)))), h39))) none) (
                      condK (x3 == 10) (
                        condK (x3 == 10) (
                          bindO (ldI .i64 h4 (add (⟨b, 0, (some 0)⟩ : Addr) 1)) fun (x36 : Int) =>
                          bind2 (hand_May x36 h4) fun (x37 : Int) (h40 : H) =>
                          bindO (st1 h40 (add (⟨b2, 0, (some 0)⟩ : Addr) 1) (.int .i64 x37)) fun (h41 : H) =>
                          some (Sum.inl (((some (⟨b, 0, (some 0)⟩ : Addr)), ((some (⟨b1, 0, (some 0)⟩ : Addr)), (some (⟨b2, 0, (some 0)⟩ : Addr)))), h41))) (
                          some (Sum.inl (((some (⟨b, 0, (some 0)⟩ : Addr)), ((some (⟨b1, 0, (some 0)⟩ : Addr)), (some (⟨b2, 0, (some 0)⟩ : Addr)))), h4)))) (
                        condK (x3 == 11) (
                          bindO (ldI .i64 h4 (add (⟨b, 0, (some 0)⟩ : Addr) 1)) fun (x38 : Int) =>
                          bind2 (hand_May x38 h4) fun (x39 : Int) (h42 : H) =>
                          bindO (st1 h42 (add (⟨b2, 0, (some 0)⟩ : Addr) 1) (.int .i64 x39)) fun (h43 : H) =>
                          some (Sum.inl (((some (⟨b, 0, (some 0)⟩ : Addr)), ((some (⟨b1, 0, (some 0)⟩ : Addr)), (some (⟨b2, 0, (some 0)⟩ : Addr)))), h43))) (
                          some (Sum.inl (((some (⟨b, 0, (some 0)⟩ : Addr)), ((some (⟨b1, 0, (some 0)⟩ : Addr)), (some (⟨b2, 0, (some 0)⟩ : Addr)))), h4)))))))) (
                condK (x3 == 12) (
                  bindO (ldI .i64 h4 (add (⟨b, 0, (some 0)⟩ : Addr) 3)) fun (x40 : Int) =>
                  bind2 (hand_May x40 h4) fun (x41 : Int) (h44 : H) =>
                  bindO (st1 h44 (add (⟨b2, 0, (some 0)⟩ : Addr) 3) (.int .i64 x41)) fun (h45 : H) =>
                  some (Sum.inl (((some (⟨b, 0, (some 0)⟩ : Addr)), ((some (⟨b1, 0, (some 0)⟩ : Addr)), (some (⟨b2, 0, (some 0)⟩ : Addr)))), h45))) (
                  condK (x3 == 8) (
                    bindO (ldI .i64 h4 (add (⟨b, 0, (some 0)⟩ : Addr) 3)) fun (x42 : Int) =>
                    bind2 (hand_May x42 h4) fun (x43 : Int) (h46 : H) =>
                    bindO (st1 h46 (add (⟨b2, 0, (some 0)⟩ : Addr) 3) (.int .i64 x43)) fun (h47 : H) =>
                    bindO (ldB h47 (add (⟨b, 0, (some 0)⟩ : Addr) 6)) fun (x44 : Bool) =>
                    bindO (st1 h47 (add (⟨b2, 0, (some 0)⟩ : Addr) 6) (.bool x44)) fun (h48 : H) =>
                    some (Sum.inl (((some (⟨b, 0, (some 0)⟩ : Addr)), ((some (⟨b1, 0, (some 0)⟩ : Addr)), (some (⟨b2, 0, (some 0)⟩ : Addr)))), h48))) (
                    condK (x3 == 9) (
                      letH (growIf h4 10) fun (h49 : H) =>
                      bindO (ldL h49 (add (⟨b, 0, (some 0)⟩ : Addr) 7)) fun (x45 : Sl) =>
                      bind2 (hand_Few x45 119 h49) fun (x46 : Sl) (h50 : H) =>
                      bindO (ldI .i64 h50 (add (⟨b, 0, (some 0)⟩ : Addr) 3)) fun (x47 : Int) =>
                      letH (addP 127 h4.size [(6, (row 5 [(.int .u8 (IntKind.wrap .u8 x47))]))] h50) fun (h51 : H) =>
                      bind2 (appT 5 1 1 h51 x46 (⟨(some (⟨(h4.size + 6), 0, (some 0)⟩ : Addr)), 1, 1⟩ : Sl)) fun (x48 : Sl) (h52 : H) =>
                      letH (addP 511 h4.size [(6, (row 5 [(.int .u8 (IntKind.wrap .u8 x47))]))] h52) fun (h53 : H) =>
                      bindO (st1 h53 (add (⟨b2, 0, (some 0)⟩ : Addr) 7) (.slice x48.base x48.len x48.cap)) fun (h54 : H) =>
                      letH (addP 8 h4.size [(6, (row 5 [(.int .u8 (IntKind.wrap .u8 x47))]))] h49) fun (h55 : H) =>
                      bindO (ldI .i64 h55 (add (⟨b, 0, (some 0)⟩ : Addr) 3)) fun (x49 : Int) =>
                      condK (x49 == x47) (
                        letH (addP 1023 h4.size [(6, (row 5 [(.int .u8 (IntKind.wrap .u8 x47))]))] h54) fun (h56 : H) =>
                        letH (tickIf 10 h56) fun (h57 : H) =>
                        some (Sum.inl (((some (⟨b, 0, (some 0)⟩ : Addr)), ((some (⟨b1, 0, (some 0)⟩ : Addr)), (some (⟨b2, 0, (some 0)⟩ : Addr)))), h57))) none) (
                      condK (x3 == 10) (
                        condK (x3 == 10) (
                          bindO (ldI .i64 h4 (add (⟨b, 0, (some 0)⟩ : Addr) 1)) fun (x50 : Int) =>
                          bind2 (hand_May x50 h4) fun (x51 : Int) (h58 : H) =>
                          bindO (st1 h58 (add (⟨b2, 0, (some 0)⟩ : Addr) 1) (.int .i64 x51)) fun (h59 : H) =>
                          some (Sum.inl (((some (⟨b, 0, (some 0)⟩ : Addr)), ((some (⟨b1, 0, (some 0)⟩ : Addr)), (some (⟨b2, 0, (some 0)⟩ : Addr)))), h59))) (
                          some (Sum.inl (((some (⟨b, 0, (some 0)⟩ : Addr)), ((some (⟨b1, 0, (some 0)⟩ : Addr)), (some (⟨b2, 0, (some 0)⟩ : Addr)))), h4)))) (
                        condK (x3 == 11) (
                          bindO (ldI .i64 h4 (add (⟨b, 0, (some 0)⟩ : Addr) 1)) fun (x52 : Int) =>
                          bind2 (hand_May x52 h4) fun (x53 : Int) (h60 : H) =>
                          bindO (st1 h60 (add (⟨b2, 0, (some 0)⟩ : Addr) 1) (.int .i64 x53)) fun (h61 : H) =>
                          some (Sum.inl (((some (⟨b, 0, (some 0)⟩ : Addr)), ((some (⟨b1, 0, (some 0)⟩ : Addr)), (some (⟨b2, 0, (some 0)⟩ : Addr)))), h61))) (
                          some (Sum.inl (((some (⟨b, 0, (some 0)⟩ : Addr)), ((some (⟨b1, 0, (some 0)⟩ : Addr)), (some (⟨b2, 0, (some 0)⟩ : Addr)))), h4)))))))))) (
            condK (x3 == 7) (
              bindO (ldI .i64 h4 (add (⟨b, 0, (some 0)⟩ : Addr) 1)) fun (x54 : Int) =>
              bind2 (hand_May x54 h4) fun (x55 : Int) (h62 : H) =>
              bindO (st1 h62 (add (⟨b2, 0, (some 0)⟩ : Addr) 1) (.int .i64 x55)) fun (h63 : H) =>
              bindO (ldI .i64 h63 (add (⟨b, 0, (some 0)⟩ : Addr) 3)) fun (x56 : Int) =>
              bind2 (hand_May x56 h63) fun (x57 : Int) (h64 : H) =>
              bindO (st1 h64 (add (⟨b2, 0, (some 0)⟩ : Addr) 3) (.int .i64 x57)) fun (h65 : H) =>
              some (Sum.inl (((some (⟨b, 0, (some 0)⟩ : Addr)), ((some (⟨b1, 0, (some 0)⟩ : Addr)), (some (⟨b2, 0, (some 0)⟩ : Addr)))), h65))) (
              condK (x3 == 6) (
                condK (x3 == 6) (
                  bindO (ldI .i64 h4 (add (⟨b, 0, (some 0)⟩ : Addr) 3)) fun (x58 : Int) =>
                  bind2 (hand_May x58 h4) fun (x59 : Int) (h66 : H) =>
                  bindO (st1 h66 (add (⟨b2, 0, (some 0)⟩ : Addr) 3) (.int .i64 x59)) fun (h67 : H) =>
                  some (Sum.inl (((some (⟨b, 0, (some 0)⟩ : Addr)), ((some (⟨b1, 0, (some 0)⟩ : Addr)), (some (⟨b2, 0, (some 0)⟩ : Addr)))), h67))) (
                  condK (x3 == 8) (
                    bindO (ldI .i64 h4 (add (⟨b, 0, (some 0)⟩ : Addr) 3)) fun (x60 : Int) =>
                    bind2 (hand_May x60 h4) fun (x61 : Int) (h68 : H) =>
                    bindO (st1 h68 (add (⟨b2, 0, (some 0)⟩ : Addr) 3) (.int .i64 x61)) fun (h69 : H) =>
                    bindO (ldB h69 (add (⟨b, 0, (some 0)⟩ : Addr) 6)) fun (x62 : Bool) =>
                    bindO (st1 h69 (add (⟨b2, 0, (some 0)⟩ : Addr) 6) (.bool x62)) fun (h70 : H) =>
                    some (Sum.inl (((some (⟨b, 0, (some 0)⟩ : Addr)), ((some (⟨b1, 0, (some 0)⟩ : Addr)), (some (⟨b2, 0, (some 0)⟩ : Addr)))), h70))) (
                    condK (x3 == 9) (
                      letH (growIf h4 10) fun (h71 : H) =>
                      bindO (ldL h71 (add (⟨b, 0, (some 0)⟩ : Addr) 7)) fun (x63 : Sl) =>
                      bind2 (hand_Few x63 119 h71) fun (x64 : Sl) (h72 : H) =>
                      bindO (ldI .i64 h72 (add (⟨b, 0, (some 0)⟩ : Addr) 3)) fun (x65 : Int) =>
                      letH (addP 127 h4.size [(6, (row 5 [(.int .u8 (IntKind.wrap .u8 x65))]))] h72) fun (h73 : H) =>
                      bind2 (appT 5 1 1 h73 x64 (⟨(some (⟨(h4.size + 6), 0, (some 0)⟩ : Addr)), 1, 1⟩ : Sl)) fun (x66 : Sl) (h74 : H) =>
                      letH (addP 511 h4.size [(6, (row 5 [(.int .u8 (IntKind.wrap .u8 x65))]))] h74) fun (h75 : H) =>
                      bindO (st1 h75 (add (⟨b2, 0, (some 0)⟩ : Addr) 7) (.slice x66.base x66.len x66.cap)) fun (h76 : H) =>
                      letH (addP 8 h4.size [(6, (row 5 [(.int .u8 (IntKind.wrap .u8 x65))]))] h71) fun (h77 : H) =>
                      bindO (ldI .i64 h77 (add (⟨b, 0, (some 0)⟩ : Addr) 3)) fun (x67 : Int) =>
                      condK (x67 == x65) (
                        letH (addP 1023 h4.size [(6, (row 5 [(.int .u8 (IntKind.wrap .u8 x65))]))] h76) fun (h78 : H) =>
                        letH (tickIf 10 h78) fun (h79 : H) =>
                        some (Sum.inl (((some (⟨b, 0, (some 0)⟩ : Addr)), ((some (⟨b1, 0, (some 0)⟩ : Addr)), (some (⟨b2, 0, (some 0)⟩ : Addr)))), h79))) none) (
                      condK (x3 == 10) (
                        condK (x3 == 10) (
                          bindO (ldI .i64 h4 (add (⟨b, 0, (some 0)⟩ : Addr) 1)) fun (x68 : Int) =>
                          bind2 (hand_May x68 h4) fun (x69 : Int) (h80 : H) =>
                          bindO (st1 h80 (add (⟨b2, 0, (some 0)⟩ : Addr) 1) (.int .i64 x69)) fun (h81 : H) =>
                          some (Sum.inl (((some (⟨b, 0, (some 0)⟩ : Addr)), ((some (⟨b1, 0, (some 0)⟩ : Addr)), (some (⟨b2, 0, (some 0)⟩ : Addr)))), h81))) (
                          some (Sum.inl (((some (⟨b, 0, (some 0)⟩ : Addr)), ((some (⟨b1, 0, (some 0)⟩ : Addr)), (some (⟨b2, 0, (some 0)⟩ : Addr)))), h4)))) (
                        condK (x3 == 11) (
                          bindO (ldI .i64 h4 (add (⟨b, 0, (some 0)⟩ : Addr) 1)) fun (x70 : Int) =>
                          bind2 (hand_May x70 h4) fun (x71 : Int) (h82 : H) =>
                          bindO (st1 h82 (add (⟨b2, 0, (some 0)⟩ : Addr) 1) (.int .i64 x71)) fun (h83 : H) =>
                          some (Sum.inl (((some (⟨b, 0, (some 0)⟩ : Addr)), ((some (⟨b1, 0, (some 0)⟩ : Addr)), (some (⟨b2, 0, (some 0)⟩ : Addr)))), h83))) (
                          some (Sum.inl (((some (⟨b, 0, (some 0)⟩ : Addr)), ((some (⟨b1, 0, (some 0)⟩ : Addr)), (some (⟨b2, 0, (some 0)⟩ : Addr)))), h4)))))))) (
                condK (x3 == 12) (
                  bindO (ldI .i64 h4 (add (⟨b, 0, (some 0)⟩ : Addr) 3)) fun (x72 : Int) =>
                  bind2 (hand_May x72 h4) fun (x73 : Int) (h84 : H) =>
                  bindO (st1 h84 (add (⟨b2, 0, (some 0)⟩ : Addr) 3) (.int .i64 x73)) fun (h85 : H) =>
                  some (Sum.inl (((some (⟨b, 0, (some 0)⟩ : Addr)), ((some (⟨b1, 0, (some 0)⟩ : Addr)), (some (⟨b2, 0, (some 0)⟩ : Addr)))), h85))) (
                  condK (x3 == 8) (
                    bindO (ldI .i64 h4 (add (⟨b, 0, (some 0)⟩ : Addr) 3)) fun (x74 : Int) =>
                    bind2 (hand_May x74 h4) fun (x75 : Int) (h86 : H) =>
                    bindO (st1 h86 (add (⟨b2, 0, (some 0)⟩ : Addr) 3) (.int .i64 x75)) fun (h87 : H) =>
                    bindO (ldB h87 (add (⟨b, 0, (some 0)⟩ : Addr) 6)) fun (x76 : Bool) =>
                    bindO (st1 h87 (add (⟨b2, 0, (some 0)⟩ : Addr) 6) (.bool x76)) fun (h88 : H) =>
                    some (Sum.inl (((some (⟨b, 0, (some 0)⟩ : Addr)), ((some (⟨b1, 0, (some 0)⟩ : Addr)), (some (⟨b2, 0, (some 0)⟩ : Addr)))), h88))) (
                    condK (x3 == 9) (
                      letH (growIf h4 10) fun (h89 : H) =>
                      bindO (ldL h89 (add (⟨b, 0, (some 0)⟩ : Addr) 7)) fun (x77 : Sl) =>
                      bind2 (hand_Few x77 119 h89) fun (x78 : Sl) (h90 : H) =>
                      bindO (ldI .i64 h90 (add (⟨b, 0, (some 0)⟩ : Addr) 3)) fun (x79 : Int) =>
                      letH (addP 127 h4.size [(6, (row 5 [(.int .u8 (IntKind.wrap .u8 x79))]))] h90) fun (h91 : H) =>
                      bind2 (appT 5 1 1 h91 x78 (⟨(some (⟨(h4.size + 6), 0, (some 0)⟩ : Addr)), 1, 1⟩ : Sl)) fun (x80 : Sl) (h92 : H) =>
                      letH (addP 511 h4.size [(6, (row 5 [(.int .u8 (IntKind.wrap .u8 x79))]))] h92) fun (h93 : H) =>
                      bindO (st1 h93 (add (⟨b2, 0, (some 0)⟩ : Addr) 7) (.slice x80.base x80.len x80.cap)) fun (h94 : H) =>
                      letH (addP 8 h4.size [(6, (row 5 [(.int .u8 (IntKind.wrap .u8 x79))]))] h89) fun (h95 : H) =>
                      bindO (ldI .i64 h95 (add (⟨b, 0, (some 0)⟩ : Addr) 3)) fun (x81 : Int) =>
                      condK (x81 == x79) (
                        letH (addP 1023 h4.size [(6, (row 5 [(.int .u8 (IntKind.wrap .u8 x79))]))] h94) fun (h96 : H) =>
                        letH (tickIf 10 h96) fun (h97 : H) =>
                        some (Sum.inl (((some (⟨b, 0, (some 0)⟩ : Addr)), ((some (⟨b1, 0, (some 0)⟩ : Addr)), (some (⟨b2, 0, (some 0)⟩ : Addr)))), h97))) none) (
                      condK (x3 == 10) (
                        condK (x3 == 10) (
                          bindO (ldI .i64 h4 (add (⟨b, 0, (some 0)⟩ : Addr) 1)) fun (x82 : Int) =>
                          bind2 (hand_May x82 h4) fun (x83 : Int) (h98 : H) =>
                          bindO (st1 h98 (add (⟨b2, 0, (some 0)⟩ : Addr) 1) (.int .i64 x83)) fun (h99 : H) =>
                          some (Sum.inl (((some (⟨b, 0, (some 0)⟩ : Addr)), ((some (⟨b1, 0, (some 0)⟩ : Addr)), (some (⟨b2, 0, (some 0)⟩ : Addr)))), h99))) (
                          some (Sum.inl (((some (⟨b, 0, (some 0)⟩ : Addr)), ((some (⟨b1, 0, (some 0)⟩ : Addr)), (some (⟨b2, 0, (some 0)⟩ : Addr)))), h4)))) (
                        condK (x3 == 11) (
                          bindO (ldI .i64 h4 (add (⟨b, 0, (some 0)⟩ : Addr) 1)) fun (x84 : Int) =>
                          bind2 (hand_May x84 h4) fun (x85 : Int) (h100 : H) =>
                          bindO (st1 h100 (add (⟨b2, 0, (some 0)⟩ : Addr) 1) (.int .i64 x85)) fun (h101 : H) =>
                          some (Sum.inl (((some (⟨b, 0, (some 0)⟩ : Addr)), ((some (⟨b1, 0, (some 0)⟩ : Addr)), (some (⟨b2, 0, (some 0)⟩ : Addr)))), h101))) (
                          some (Sum.inl (((some (⟨b, 0, (some 0)⟩ : Addr)), ((some (⟨b1, 0, (some 0)⟩ : Addr)), (some (⟨b2, 0, (some 0)⟩ : Addr)))), h4)))))))))))))) fun (((x3, (x4, f)), h5) : (((Option Addr) × ((Option Addr) × (Option Addr))) × H)) =>
  ptrK x3 fun (a0 : Addr) =>
  bindO (ldI .i64 h5 (add a0 5)) fun (x5 : Int) =>
  joinO (
    ptrK x3 fun (a1 : Addr) =>
    bindO (ldI .i64 h5 (add a1 5)) fun (x6 : Int) =>
    bind2 (hand_Pick x6 20 h5) fun (x7 : Int) (h6 : H) =>
    condK (x7 == 10) (
      bind2 (hand_Pick (IntKind.wrap .i64 (Int.tdiv x5 20)) 15 h6) fun (x8 : Int) (h7 : H) =>
      ptrK f fun (a2 : Addr) =>
      bindO (st1 h7 (add a2 0) (.int .i64 (IntKind.wrap .i64 (x8 - 1)))) fun (h8 : H) =>
      some (Sum.inl ((x4, f), h8))) (
      condK (x7 == 11) (
        bind2 (hand_Num (IntKind.wrap .i64 (Int.tdiv x5 20)) h6) fun (x9 : Int) (h9 : H) =>
        ptrK f fun (a3 : Addr) =>
        bindO (st1 h9 (add a3 1) (.int .i64 x9)) fun (h10 : H) =>
        some (Sum.inl ((x4, f), h10))) (
        condK (x7 == 12) (
          bind2 (hand_Num (IntKind.wrap .i64 (Int.tdiv x5 20)) h6) fun (x10 : Int) (h11 : H) =>
          ptrK f fun (a4 : Addr) =>
          bindO (st1 h11 (add a4 2) (.int .i64 x10)) fun (h12 : H) =>
          some (Sum.inl ((x4, f), h12))) (
          condK (x7 == 13) (
            bind2 (hand_Num (IntKind.wrap .i64 (Int.tdiv x5 20)) h6) fun (x11 : Int) (h13 : H) =>
            ptrK f fun (a5 : Addr) =>
            bindO (st1 h13 (add a5 3) (.int .i64 x11)) fun (h14 : H) =>
            some (Sum.inl ((x4, f), h14))) (
            condK (x7 == 14) (
              bind2 (hand_Num (IntKind.wrap .i64 (Int.tdiv x5 20)) h6) fun (x12 : Int) (h15 : H) =>
              ptrK f fun (a6 : Addr) =>
              bindO (st1 h15 (add a6 4) (.int .i64 x12)) fun (h16 : H) =>
              some (Sum.inl ((x4, f), h16))) (
              condK (x7 == 15) (
                ptrK f fun (a7 : Addr) =>
                bindO (ldB h6 (add a7 6)) fun (x13 : Bool) =>
                ptrK f fun (a8 : Addr) =>
                bindO (st1 h6 (add a8 6) (.bool (!x13))) fun (h17 : H) =>
                some (Sum.inl ((x4, f), h17))) (
                condK (x7 == 16) (
                  loopO (P.hand_Frame_l1 hand_Pick hand_Runs hand_May hand_Few hand_Num) ((x4, (f, (IntKind.wrap .i64 (Int.tdiv x5 20)))), h6)) (
                  condK (x7 == 17) (
                    ptrK f fun (a9 : Addr) =>
                    bindO (ldL h6 (add a9 8)) fun (x14 : Sl) =>
                    condK (decide ((((x14.len : Nat) : Int) > 0))) (
                      ptrK f fun (a10 : Addr) =>
                      bindO (ldL h6 (add a10 8)) fun (x15 : Sl) =>
                      ptrK f fun (a11 : Addr) =>
                      bindO (ldL h6 (add a11 8)) fun (x16 : Sl) =>
                      bind2 (hand_Pick (IntKind.wrap .i64 (Int.tdiv x5 20)) ((x16.len : Nat) : Int) h6) fun (x17 : Int) (h18 : H) =>
                      bind2 (hand_Pick (IntKind.wrap .i64 (Int.tdiv (IntKind.wrap .i64 (Int.tdiv x5 20)) 8)) 2 h18) fun (x18 : Int) (h19 : H) =>
                      bindO (ixT 2 x15 x17) fun (a12 : Addr) =>
                      bindO (ixAT 2 1 a12 x18) fun (a13 : Addr) =>
                      bindO (ldI .i64 h19 a13) fun (x19 : Int) =>
                      bind2 (hand_Pick (IntKind.wrap .i64 (Int.tdiv (IntKind.wrap .i64 (Int.tdiv x5 20)) 16)) 7 h19) fun (x20 : Int) (h20 : H) =>
                      bindO (ixT 2 x15 x17) fun (a14 : Addr) =>
                      bindO (ixAT 2 1 a14 x18) fun (a15 : Addr) =>
                      bindO (st1 h20 a15 (.int .i64 (IntKind.wrap .i64 (x19 + (IntKind.wrap .i64 (x20 - 3)))))) fun (h21 : H) =>
                      bindO (ldI .i64 h20 a13) fun (x21 : Int) =>
                      condK (x21 == x19) (
                        bindO (ldL h20 (add a10 8)) fun (x22 : Sl) =>
                        condK (slEq x22.base x22.len x22.cap x15.base x15.len x15.cap) (
                          bindO (ldL h19 (add a10 8)) fun (x23 : Sl) =>
                          condK (slEq x23.base x23.len x23.cap x15.base x15.len x15.cap) (
                            bindO (ldL h18 (add a10 8)) fun (x24 : Sl) =>
                            condK (slEq x24.base x24.len x24.cap x15.base x15.len x15.cap) (
                              some (Sum.inl ((x4, f), h21))) none) none) none) none) (
                      some (Sum.inl ((x4, f), h6)))) (
                    condK (x7 == 18) (
                      ptrK f fun (a16 : Addr) =>
                      letH (growIf h6 9) fun (h22 : H) =>
                      bindO (ldL h22 (add a16 8)) fun (x25 : Sl) =>
                      bind2 (hand_Pick (IntKind.wrap .i64 (Int.tdiv x5 20)) 2 h22) fun (x26 : Int) (h23 : H) =>
                      letH (addP 63 h6.size [(5, (row 36 [(.int .i64 0), (.int .i64 x26)]))] h23) fun (h24 : H) =>
                      bind2 (appT 36 2 16 h24 x25 (⟨(some (⟨(h6.size + 5), 0, (some 0)⟩ : Addr)), 1, 1⟩ : Sl)) fun (x27 : Sl) (h25 : H) =>
                      ptrK f fun (a17 : Addr) =>
                      letH (addP 255 h6.size [(5, (row 36 [(.int .i64 0), (.int .i64 x26)]))] h25) fun (h26 : H) =>
                      bindO (st1 h26 (add a17 8) (.slice x27.base x27.len x27.cap)) fun (h27 : H) =>
                      letH (addP 1 h6.size [(5, (row 36 [(.int .i64 0), (.int .i64 x26)]))] h23) fun (h28 : H) =>
                      bindO (ldL h28 (add a16 8)) fun (x28 : Sl) =>
                      condK (slEq x28.base x28.len x28.cap x25.base x25.len x25.cap) (
                        letH (addP 511 h6.size [(5, (row 36 [(.int .i64 0), (.int .i64 x26)]))] h27) fun (h29 : H) =>
                        letH (tickIf 9 h29) fun (h30 : H) =>
                        some (Sum.inl ((x4, f), h30))) none) (
                      condK (x7 == 19) (
                        ptrK f fun (a18 : Addr) =>
                        bindO (st1 h6 (add a18 5) (.int .i64 (IntKind.wrap .i64 (Int.tdiv x5 20)))) fun (h31 : H) =>
                        some (Sum.inl ((x4, f), h31))) (
                        some (Sum.inl ((x4, f), h6))))))))))))) fun (((x6, f1), h6) : (((Option Addr) × (Option Addr)) × H)) =>
  ptrK f1 fun (a1 : Addr) =>
  bindO (ldZ [.int .i64, .int .i64, .int .i64, .int .i64, .int .i64, .int .i64, .bool, .sl, .sl] h6 a1) fun ((x7, x8, x9, x10, x11, x12, x13, x14, x15) : Int × Int × Int × Int × Int × Int × Bool × Sl × Sl) =>
  ptrK x6 fun (a2 : Addr) =>
  bindO (stZ [.int .i64, .int .i64, .int .i64, .int .i64, .int .i64, .int .i64, .bool, .sl, .sl] h6 a2 ((x7, x8, x9, x10, x11, x12, x13, x14, x15) : Int × Int × Int × Int × Int × Int × Bool × Sl × Sl)) fun (h7 : H) =>
  ptrK x6 fun (a3 : Addr) =>
  bindO (ldZ [.int .i64, .int .i64, .int .i64, .int .i64, .int .i64, .int .i64, .bool, .sl, .sl] h7 a3) fun ((x16, x17, x18, x19, x20, x21, x22, x23, x24) : Int × Int × Int × Int × Int × Int × Bool × Sl × Sl) =>
  some ((x16, (x17, (x18, (x19, (x20, (x21, (x22, (x23, x24)))))))), h7)
noncomputable abbrev hand_Frame_l1 := P.hand_Frame_l1 hand_Pick hand_Runs hand_May hand_Few hand_Num
noncomputable def hand_Frame : (Int × Int × Int × Int × Int × Int × Bool × Sl × Sl) → H → Option (((Int × Int × Int × Int × Int × Int × Bool × Sl × Sl)) × H) := P.hand_Frame hand_Pick hand_Runs hand_May hand_Few hand_Num
noncomputable def ann_108 : Ann := ⟨fun i => bif i.beq 30 then some ⟨[1, 2, 3], [⟨false, [.ptr]⟩, ⟨false, [.ptr]⟩, ⟨false, [.ptr]⟩]⟩ else bif i.beq 54 then some ⟨[2, 3], [⟨false, [.ptr]⟩, ⟨false, [.ptr]⟩]⟩ else none, fun i => bif i.beq 45 then some ⟨[2, 3, 4], [⟨false, [.ptr]⟩, ⟨false, [.ptr]⟩, ⟨false, [.int .i64]⟩]⟩ else none, fun _ => none⟩
noncomputable def E_108 : Ent := ⟨108, [⟨true, [.int .i64, .int .i64, .int .i64, .int .i64, .int .i64, .int .i64, .bool, .sl, .sl]⟩], [⟨true, [.int .i64, .int .i64, .int .i64, .int .i64, .int .i64, .int .i64, .bool, .sl, .sl]⟩], fun (x : (Int × Int × Int × Int × Int × Int × Bool × Sl × Sl)) h => hand_Frame x h⟩
theorem eq_108 (hand_Pick : Int → Int → H → Option ((Int) × H)) (hand_Runs : Sl → H → Option ((Sl) × H)) (hand_May : Int → H → Option ((Int) × H)) (hand_Few : Sl → Int → H → Option ((Sl) × H)) (hand_Num : Int → H → Option ((Int) × H)) : (fun (x : PT E_108.ps) (h : H) => runFK Go.Proofs.Ythiccnmplgdheaa.Tab.D (lstK [⟨24, [⟨false, [.int .i64]⟩, ⟨false, [.int .i64]⟩], [⟨false, [.int .i64]⟩], fun (x : Int × Int) h => hand_Pick x.1 x.2 h⟩, ⟨154, [⟨false, [.sl]⟩], [⟨false, [.sl]⟩], fun (x : Sl) h => hand_Runs x h⟩, ⟨48, [⟨false, [.int .i64]⟩], [⟨false, [.int .i64]⟩], fun (x : Int) h => hand_May x h⟩, ⟨49, [⟨false, [.sl]⟩, ⟨false, [.int .i64]⟩], [⟨false, [.sl]⟩], fun (x : Sl × Int) h => hand_Few x.1 x.2 h⟩, ⟨45, [⟨false, [.int .i64]⟩], [⟨false, [.int .i64]⟩], fun (x : Int) h => hand_Num x h⟩]) ann_108 Try.f108 (Try.f108.body.getD .skip) E_108.ys (encP E_108.ps x) h) = (fun (x : (Int × Int × Int × Int × Int × Int × Bool × Sl × Sl)) h => P.hand_Frame hand_Pick hand_Runs hand_May hand_Few hand_Num x h) := by kernel_rfl
theorem ok_108 : E_108.ok Go.Proofs.Ythiccnmplgdheaa.Tab.D := fun x h y h' e => runFK_ok (lstK_ok [E_24, E_154, E_48, E_49, E_45] (List.forall_mem_cons.2 ⟨ok_24, List.forall_mem_cons.2 ⟨ok_154, List.forall_mem_cons.2 ⟨ok_48, List.forall_mem_cons.2 ⟨ok_49, List.forall_mem_cons.2 ⟨ok_45, fun E h => nomatch h⟩⟩⟩⟩⟩)) (A := ann_108) (by kernel_rfl) (show Go.Proofs.Ythiccnmplgdheaa.Tab.D.fn.get 108 = some Try.f108 by kernel_rfl) (show Try.f108.body = some (Try.f108.body.getD .skip) by kernel_rfl) ((congrFun (congrFun (eq_108 hand_Pick hand_Runs hand_May hand_Few hand_Num) x) h).trans e)
/-! hand_Right -/
noncomputable def P.hand_Right_l1 (hand_Frame : (Int × Int × Int × Int × Int × Int × Bool × Sl × Sl) → H → Option (((Int × Int × Int × Int × Int × Int × Bool × Sl × Sl)) × H)) : ((Sl × (Int × (Sl × Int))) × H) → Option (((Sl × (Int × (Sl × Int))) × H) ⊕ ((Sl × H) ⊕ (Sl × H))) := fun ((l, (n, (out, i))), h0) =>
  joinO (
    condK (decide ((i < ((l.len : Nat) : Int)))) (
      some (Sum.inl ((l, (n, (out, (i, (decide ((i < n))))))), h0))) (
      some (Sum.inl ((l, (n, (out, (i, false)))), h0)))) fun (((l1, (n1, (out1, (i1, x0)))), h1) : ((Sl × (Int × (Sl × (Int × Bool)))) × H)) =>
  condK x0 (
    bindO (ixT 9 l1 i1) fun (a0 : Addr) =>
    bindO (ldZ [.int .i64, .int .i64, .int .i64, .int .i64, .int .i64, .int .i64, .bool, .sl, .sl] h1 a0) fun ((x1, x2, x3, x4, x5, x6, x7, x8, x9) : Int × Int × Int × Int × Int × Int × Bool × Sl × Sl) =>
    newO (row 132 [(.int .i64 0), (.int .i64 0), (.int .i64 0), (.int .i64 0), (.int .i64 0), (.int .i64 0), (.bool false), (.slice none 0 0), (.slice none 0 0)]) h1 fun (b : Nat) (h2 : H) =>
    bindO (stZ [.int .i64, .int .i64, .int .i64, .int .i64, .int .i64, .int .i64, .bool, .sl, .sl] h2 (⟨b, 0, (some 0)⟩ : Addr) ((x1, x2, x3, x4, x5, x6, x7, x8, x9) : Int × Int × Int × Int × Int × Int × Bool × Sl × Sl)) fun (h3 : H) =>
    bindO (st1 h3 (add (⟨b, 0, (some 0)⟩ : Addr) 5) (.int .i64 0)) fun (h4 : H) =>
    bindO (ldZ [.int .i64, .int .i64, .int .i64, .int .i64, .int .i64, .int .i64, .bool, .sl, .sl] h4 (⟨b, 0, (some 0)⟩ : Addr)) fun ((x10, x11, x12, x13, x14, x15, x16, x17, x18) : Int × Int × Int × Int × Int × Int × Bool × Sl × Sl) =>
    bind2 (hand_Frame (x10, x11, x12, x13, x14, x15, x16, x17, x18) h4) fun ((x19, x20, x21, x22, x23, x24, x25, x26, x27) : Int × Int × Int × Int × Int × Int × Bool × Sl × Sl) (h5 : H) =>
    newO (row 33 [(.int .i64 x19), (.int .i64 x20), (.int .i64 x21), (.int .i64 x22), (.int .i64 x23), (.int .i64 x24), (.bool x25), (.slice x26.base x26.len x26.cap), (.slice x27.base x27.len x27.cap)]) h5 fun (b1 : Nat) (h6 : H) =>
    bind2 (appT 33 9 104 h6 out1 (⟨(some (⟨b1, 0, (some 0)⟩ : Addr)), 1, 1⟩ : Sl)) fun (x28 : Sl) (h7 : H) =>
    some (Sum.inl ((l1, (n1, (x28, (IntKind.wrap .i64 (i1 + 1))))), h7))) (
    some (Sum.inr (Sum.inl (out1, h1))))

noncomputable def P.hand_Right (hand_Frame : (Int × Int × Int × Int × Int × Int × Bool × Sl × Sl) → H → Option (((Int × Int × Int × Int × Int × Int × Bool × Sl × Sl)) × H)) (l : Sl) (n : Int) (h : H) : Option (Sl × H) :=
  joinO (
    loopO (P.hand_Right_l1 hand_Frame) ((l, (n, ((⟨none, 0, 0⟩ : Sl), 0))), h)) fun ((out, h0) : (Sl × H)) =>
  some (out, h0)
noncomputable abbrev hand_Right_l1 := P.hand_Right_l1 hand_Frame
noncomputable def hand_Right : Sl → Int → H → Option ((Sl) × H) := P.hand_Right hand_Frame
noncomputable def ann_52 : Ann := ⟨fun i => bif i.beq 8 then some ⟨[5], [⟨false, [.sl]⟩]⟩ else none, fun i => bif i.beq 3 then some ⟨[0, 1, 5, 6], [⟨false, [.sl]⟩, ⟨false, [.int .i64]⟩, ⟨false, [.sl]⟩, ⟨false, [.int .i64]⟩]⟩ else none, fun i => bif i.beq 3 then some ⟨[0, 1, 5, 6, 16], [⟨false, [.sl]⟩, ⟨false, [.int .i64]⟩, ⟨false, [.sl]⟩, ⟨false, [.int .i64]⟩, ⟨false, [.bool]⟩]⟩ else none⟩
noncomputable def E_52 : Ent := ⟨52, [⟨false, [.sl]⟩, ⟨false, [.int .i64]⟩], [⟨false, [.sl]⟩], fun (x : Sl × Int) h => hand_Right x.1 x.2 h⟩
theorem eq_52 (hand_Frame : (Int × Int × Int × Int × Int × Int × Bool × Sl × Sl) → H → Option (((Int × Int × Int × Int × Int × Int × Bool × Sl × Sl)) × H)) : (fun (x : PT E_52.ps) (h : H) => runFK Go.Proofs.Ythiccnmplgdheaa.Tab.D (lstK [⟨108, [⟨true, [.int .i64, .int .i64, .int .i64, .int .i64, .int .i64, .int .i64, .bool, .sl, .sl]⟩], [⟨true, [.int .i64, .int .i64, .int .i64, .int .i64, .int .i64, .int .i64, .bool, .sl, .sl]⟩], fun (x : (Int × Int × Int × Int × Int × Int × Bool × Sl × Sl)) h => hand_Frame x h⟩]) ann_52 Try.f52 (Try.f52.body.getD .skip) E_52.ys (encP E_52.ps x) h) = (fun (x : Sl × Int) h => P.hand_Right hand_Frame x.1 x.2 h) := by kernel_rfl
theorem ok_52 : E_52.ok Go.Proofs.Ythiccnmplgdheaa.Tab.D := fun x h y h' e => runFK_ok (lstK_ok [E_108] (List.forall_mem_cons.2 ⟨ok_108, fun E h => nomatch h⟩)) (A := ann_52) (by kernel_rfl) (show Go.Proofs.Ythiccnmplgdheaa.Tab.D.fn.get 52 = some Try.f52 by kernel_rfl) (show Try.f52.body = some (Try.f52.body.getD .skip) by kernel_rfl) ((congrFun (congrFun (eq_52 hand_Frame) x) h).trans e)
/-! frame_flag -/
noncomputable def frame_flag (fin : Bool) (h : H) : Option (Int × H) :=
  condK fin (
    some (1, h)) (
    some (0, h))
noncomputable def ann_156 : Ann := ⟨fun _ => none, fun _ => none, fun _ => none⟩
noncomputable def E_156 : Ent := ⟨156, [⟨false, [.bool]⟩], [⟨false, [.int .i64]⟩], fun (x : Bool) h => frame_flag x h⟩
theorem eq_156  : (fun (x : PT E_156.ps) (h : H) => runFK Go.Proofs.Ythiccnmplgdheaa.Tab.D (lstK []) ann_156 Try.f156 (Try.f156.body.getD .skip) E_156.ys (encP E_156.ps x) h) = (fun (x : Bool) h => frame_flag x h) := by kernel_rfl
theorem ok_156 : E_156.ok Go.Proofs.Ythiccnmplgdheaa.Tab.D := fun x h y h' e => runFK_ok (lstK_ok [] (fun E h => nomatch h)) (A := ann_156) (by kernel_rfl) (show Go.Proofs.Ythiccnmplgdheaa.Tab.D.fn.get 156 = some Try.f156 by kernel_rfl) (show Try.f156.body = some (Try.f156.body.getD .skip) by kernel_rfl) ((congrFun (congrFun (eq_156 ) x) h).trans e)
/-! frame_numbers -/
noncomputable def P.frame_numbers_l1 (frame_flag : Bool → H → Option ((Int) × H)) : (((Option Addr) × (Sl × (Sl × (Int × Int)))) × H) → Option ((((Option Addr) × (Sl × (Sl × (Int × Int)))) × H) ⊕ ((Sl × H) ⊕ (((Option Addr) × H) ⊕ (Sl × H)))) := fun ((f, (out, (x0, (x1, x2)))), h0) =>
  condK (decide ((x2 < x1))) (
    joinO (
      bindO (ixT 2 x0 x2) fun (a0 : Addr) =>
      bindO (ldZ [.int .i64, .int .i64] h0 a0) fun ((x3, x4) : Int × Int) =>
      newO (row 36 [(.int .i64 0), (.int .i64 0)]) h0 fun (b : Nat) (h1 : H) =>
      bindO (stZ [.int .i64, .int .i64] h1 (⟨b, 0, (some 0)⟩ : Addr) ((x3, x4) : Int × Int)) fun (h2 : H) =>
      condK (x2 == 0) (
        bindO (ixAT 2 1 (⟨b, 0, (some 0)⟩ : Addr) 1) fun (a1 : Addr) =>
        bindO (ldI .i64 h2 a1) fun (x5 : Int) =>
        bindO (ixAT 2 1 (⟨b, 0, (some 0)⟩ : Addr) 1) fun (a2 : Addr) =>
        bindO (ldI .i64 h2 a2) fun (x6 : Int) =>
        bindO (ixAT 2 1 (⟨b, 0, (some 0)⟩ : Addr) 0) fun (a3 : Addr) =>
        bindO (ldI .i64 h2 a3) fun (x7 : Int) =>
        newO (row 3 [(.int .i64 x5), (.int .i64 (IntKind.wrap .i64 (x6 - x7)))]) h2 fun (b1 : Nat) (h3 : H) =>
        bind2 (appT 3 1 8 h3 out (⟨(some (⟨b1, 0, (some 0)⟩ : Addr)), 2, 2⟩ : Sl)) fun (x8 : Sl) (h4 : H) =>
        some (Sum.inl ((f, (x8, (x0, (x1, x2)))), h4))) (
        ptrK f fun (a4 : Addr) =>
        letH (growIf h2 19) fun (h5 : H) =>
        bindO (ldL h5 (add a4 8)) fun (x9 : Sl) =>
        bindO (ixT 2 x9 (IntKind.wrap .i64 (x2 - 1))) fun (a5 : Addr) =>
        bindO (ixAT 2 1 a5 0) fun (a6 : Addr) =>
        bindO (ldI .i64 h5 a6) fun (x10 : Int) =>
        bindO (ixAT 2 1 (⟨b, 0, (some 0)⟩ : Addr) 1) fun (a7 : Addr) =>
        bindO (ldI .i64 h5 a7) fun (x11 : Int) =>
        bindO (ixAT 2 1 (⟨b, 0, (some 0)⟩ : Addr) 1) fun (a8 : Addr) =>
        bindO (ldI .i64 h5 a8) fun (x12 : Int) =>
        bindO (ixAT 2 1 (⟨b, 0, (some 0)⟩ : Addr) 0) fun (a9 : Addr) =>
        bindO (ldI .i64 h5 a9) fun (x13 : Int) =>
        letH (addP 131071 h2.size [(16, (row 3 [(.int .i64 (IntKind.wrap .i64 (x10 - x11))), (.int .i64 (IntKind.wrap .i64 (x12 - x13)))]))] h5) fun (h6 : H) =>
        bind2 (appT 3 1 8 h6 out (⟨(some (⟨(h2.size + 16), 0, (some 0)⟩ : Addr)), 2, 2⟩ : Sl)) fun (x14 : Sl) (h7 : H) =>
        letH (addP 524287 h2.size [(16, (row 3 [(.int .i64 (IntKind.wrap .i64 (x10 - x11))), (.int .i64 (IntKind.wrap .i64 (x12 - x13)))]))] h7) fun (h8 : H) =>
        letH (tickIf 19 h8) fun (h9 : H) =>
        some (Sum.inl ((f, (x14, (x0, (x1, x2)))), h9)))) fun (((f1, (out1, (x3, (x4, x5)))), h1) : (((Option Addr) × (Sl × (Sl × (Int × Int)))) × H)) =>
    some (Sum.inl ((f1, (out1, (x3, (x4, (IntKind.wrap .i64 (x5 + 1)))))), h1))) (
    some (Sum.inr (Sum.inl (out, h0))))

noncomputable def P.frame_numbers (frame_flag : Bool → H → Option ((Int) × H)) (f : Int × Int × Int × Int × Int × Int × Bool × Sl × Sl) (h : H) : Option (Sl × H) :=
  newO (row 33 [(.int .i64 f.1), (.int .i64 f.2.1), (.int .i64 f.2.2.1), (.int .i64 f.2.2.2.1), (.int .i64 f.2.2.2.2.1), (.int .i64 f.2.2.2.2.2.1), (.bool f.2.2.2.2.2.2.1), (.slice f.2.2.2.2.2.2.2.1.base f.2.2.2.2.2.2.2.1.len f.2.2.2.2.2.2.2.1.cap), (.slice f.2.2.2.2.2.2.2.2.base f.2.2.2.2.2.2.2.2.len f.2.2.2.2.2.2.2.2.cap)]) h fun (b : Nat) (h0 : H) =>
  joinO (
    bindO (ldI .i64 h0 (add (⟨b, 0, (some 0)⟩ : Addr) 0)) fun (x0 : Int) =>
    condK (x0 == 2) (
      bindO (ldI .i64 h0 (add (⟨b, 0, (some 0)⟩ : Addr) 0)) fun (x1 : Int) =>
      bindO (ldL h0 (add (⟨b, 0, (some 0)⟩ : Addr) 8)) fun (x2 : Sl) =>
      newO (row 3 [(.int .i64 x1), (.int .i64 ((x2.len : Nat) : Int))]) h0 fun (b1 : Nat) (h1 : H) =>
      joinO (
        bindO (ldL h1 (add (⟨b, 0, (some 0)⟩ : Addr) 8)) fun (x3 : Sl) =>
        loopO (P.frame_numbers_l1 frame_flag) (((some (⟨b, 0, (some 0)⟩ : Addr)), ((⟨(some (⟨b1, 0, (some 0)⟩ : Addr)), 2, 2⟩ : Sl), (x3, (((x3.len : Nat) : Int), 0)))), h1)) fun ((out, h2) : (Sl × H)) =>
      some (Sum.inr (out, h2))) (
      condK (x0 == 3) (
        letH (growIf h0 14) fun (h3 : H) =>
        bindO (ldI .i64 h3 (add (⟨b, 0, (some 0)⟩ : Addr) 0)) fun (x3 : Int) =>
        bindO (ldI .i64 h3 (add (⟨b, 0, (some 0)⟩ : Addr) 1)) fun (x4 : Int) =>
        bindO (ldI .i64 h3 (add (⟨b, 0, (some 0)⟩ : Addr) 2)) fun (x5 : Int) =>
        bindO (ldB h3 (add (⟨b, 0, (some 0)⟩ : Addr) 6)) fun (x6 : Bool) =>
        bind2 (frame_flag x6 h3) fun (x7 : Int) (h4 : H) =>
        bindO (ldL h4 (add (⟨b, 0, (some 0)⟩ : Addr) 7)) fun (x8 : Sl) =>
        letH (addP 1536 h0.size [(12, (row 3 [(.int .i64 x3), (.int .i64 x4), (.int .i64 x5), (.int .i64 x7), (.int .i64 ((x8.len : Nat) : Int))]))] h3) fun (h5 : H) =>
        condK (((x8.len : Nat) : Int) == ((x8.len : Nat) : Int)) (
          letH (addP 512 h0.size [(12, (row 3 [(.int .i64 x3), (.int .i64 x4), (.int .i64 x5), (.int .i64 x7), (.int .i64 ((x8.len : Nat) : Int))]))] h3) fun (h6 : H) =>
          bindO (ldL h6 (add (⟨b, 0, (some 0)⟩ : Addr) 7)) fun (x9 : Sl) =>
          condK (slEq x9.base x9.len x9.cap x8.base x8.len x8.cap) (
            letH (addP 16 h0.size [(12, (row 3 [(.int .i64 x3), (.int .i64 x4), (.int .i64 x5), (.int .i64 x7), (.int .i64 ((x8.len : Nat) : Int))]))] h4) fun (h7 : H) =>
            bindO (ldI .i64 h7 (add (⟨b, 0, (some 0)⟩ : Addr) 2)) fun (x10 : Int) =>
            condK (x10 == x5) (
              letH (addP 4 h0.size [(12, (row 3 [(.int .i64 x3), (.int .i64 x4), (.int .i64 x5), (.int .i64 x7), (.int .i64 ((x8.len : Nat) : Int))]))] h4) fun (h8 : H) =>
              bindO (ldI .i64 h8 (add (⟨b, 0, (some 0)⟩ : Addr) 1)) fun (x11 : Int) =>
              condK (x11 == x4) (
                letH (addP 1 h0.size [(12, (row 3 [(.int .i64 x3), (.int .i64 x4), (.int .i64 x5), (.int .i64 x7), (.int .i64 ((x8.len : Nat) : Int))]))] h4) fun (h9 : H) =>
                bindO (ldI .i64 h9 (add (⟨b, 0, (some 0)⟩ : Addr) 0)) fun (x12 : Int) =>
                condK (x12 == x3) (
                  letH (addP 16383 h0.size [(12, (row 3 [(.int .i64 x3), (.int .i64 x4), (.int .i64 x5), (.int .i64 x7), (.int .i64 ((x8.len : Nat) : Int))]))] h4) fun (h10 : H) =>
                  letH (tickIf 14 h10) fun (h11 : H) =>
                  some (Sum.inr ((⟨(some (⟨(h0.size + 12), 0, (some 0)⟩ : Addr)), 5, 5⟩ : Sl), h11))) none) none) none) none) none) (
        condK (x0 == 4) (
          bindO (ldI .i64 h0 (add (⟨b, 0, (some 0)⟩ : Addr) 0)) fun (x13 : Int) =>
          bindO (ldI .i64 h0 (add (⟨b, 0, (some 0)⟩ : Addr) 1)) fun (x14 : Int) =>
          bindO (ldI .i64 h0 (add (⟨b, 0, (some 0)⟩ : Addr) 3)) fun (x15 : Int) =>
          bindO (ldI .i64 h0 (add (⟨b, 0, (some 0)⟩ : Addr) 2)) fun (x16 : Int) =>
          bindO (ldI .i64 h0 (add (⟨b, 0, (some 0)⟩ : Addr) 4)) fun (x17 : Int) =>
          newO (row 3 [(.int .i64 x13), (.int .i64 x14), (.int .i64 x15), (.int .i64 x16), (.int .i64 x17)]) h0 fun (b2 : Nat) (h12 : H) =>
          some (Sum.inr ((⟨(some (⟨b2, 0, (some 0)⟩ : Addr)), 5, 5⟩ : Sl), h12))) (
          condK (x0 == 5) (
            condK (x0 == 5) (
              bindO (ldI .i64 h0 (add (⟨b, 0, (some 0)⟩ : Addr) 0)) fun (x18 : Int) =>
              bindO (ldI .i64 h0 (add (⟨b, 0, (some 0)⟩ : Addr) 1)) fun (x19 : Int) =>
              bindO (ldI .i64 h0 (add (⟨b, 0, (some 0)⟩ : Addr) 3)) fun (x20 : Int) =>
              newO (row 3 [(.int .i64 x18), (.int .i64 x19), (.int .i64 x20)]) h0 fun (b3 : Nat) (h13 : H) =>
              some (Sum.inr ((⟨(some (⟨b3, 0, (some 0)⟩ : Addr)), 3, 3⟩ : Sl), h13))) (
              condK (x0 == 6) (
                condK (x0 == 6) (
                  bindO (ldI .i64 h0 (add (⟨b, 0, (some 0)⟩ : Addr) 0)) fun (x21 : Int) =>
                  bindO (ldI .i64 h0 (add (⟨b, 0, (some 0)⟩ : Addr) 3)) fun (x22 : Int) =>
                  newO (row 3 [(.int .i64 x21), (.int .i64 x22)]) h0 fun (b4 : Nat) (h14 : H) =>
                  some (Sum.inr ((⟨(some (⟨b4, 0, (some 0)⟩ : Addr)), 2, 2⟩ : Sl), h14))) (
                  condK (x0 == 8) (
                    letH (growIf h0 9) fun (h15 : H) =>
                    bindO (ldI .i64 h15 (add (⟨b, 0, (some 0)⟩ : Addr) 0)) fun (x23 : Int) =>
                    bindO (ldI .i64 h15 (add (⟨b, 0, (some 0)⟩ : Addr) 3)) fun (x24 : Int) =>
                    bindO (ldB h15 (add (⟨b, 0, (some 0)⟩ : Addr) 6)) fun (x25 : Bool) =>
                    bind2 (frame_flag x25 h15) fun (x26 : Int) (h16 : H) =>
                    letH (addP 4 h0.size [(7, (row 3 [(.int .i64 x23), (.int .i64 x24), (.int .i64 x26)]))] h16) fun (h17 : H) =>
                    bindO (ldI .i64 h17 (add (⟨b, 0, (some 0)⟩ : Addr) 3)) fun (x27 : Int) =>
                    condK (x27 == x24) (
                      letH (addP 1 h0.size [(7, (row 3 [(.int .i64 x23), (.int .i64 x24), (.int .i64 x26)]))] h16) fun (h18 : H) =>
                      bindO (ldI .i64 h18 (add (⟨b, 0, (some 0)⟩ : Addr) 0)) fun (x28 : Int) =>
                      condK (x28 == x23) (
                        letH (addP 511 h0.size [(7, (row 3 [(.int .i64 x23), (.int .i64 x24), (.int .i64 x26)]))] h16) fun (h19 : H) =>
                        letH (tickIf 9 h19) fun (h20 : H) =>
                        some (Sum.inr ((⟨(some (⟨(h0.size + 7), 0, (some 0)⟩ : Addr)), 3, 3⟩ : Sl), h20))) none) none) (
                    condK (x0 == 9) (
                      bindO (ldI .i64 h0 (add (⟨b, 0, (some 0)⟩ : Addr) 0)) fun (x29 : Int) =>
                      bindO (ldL h0 (add (⟨b, 0, (some 0)⟩ : Addr) 7)) fun (x30 : Sl) =>
                      newO (row 3 [(.int .i64 x29), (.int .i64 ((x30.len : Nat) : Int))]) h0 fun (b5 : Nat) (h21 : H) =>
                      some (Sum.inr ((⟨(some (⟨b5, 0, (some 0)⟩ : Addr)), 2, 2⟩ : Sl), h21))) (
                      condK (x0 == 10) (
                        condK (x0 == 10) (
                          bindO (ldI .i64 h0 (add (⟨b, 0, (some 0)⟩ : Addr) 0)) fun (x31 : Int) =>
                          bindO (ldI .i64 h0 (add (⟨b, 0, (some 0)⟩ : Addr) 1)) fun (x32 : Int) =>
                          newO (row 3 [(.int .i64 x31), (.int .i64 x32)]) h0 fun (b6 : Nat) (h22 : H) =>
                          some (Sum.inr ((⟨(some (⟨b6, 0, (some 0)⟩ : Addr)), 2, 2⟩ : Sl), h22))) (
                          some (Sum.inl ((some (⟨b, 0, (some 0)⟩ : Addr)), h0)))) (
                        condK (x0 == 11) (
                          bindO (ldI .i64 h0 (add (⟨b, 0, (some 0)⟩ : Addr) 0)) fun (x33 : Int) =>
                          bindO (ldI .i64 h0 (add (⟨b, 0, (some 0)⟩ : Addr) 1)) fun (x34 : Int) =>
                          newO (row 3 [(.int .i64 x33), (.int .i64 x34)]) h0 fun (b7 : Nat) (h23 : H) =>
                          some (Sum.inr ((⟨(some (⟨b7, 0, (some 0)⟩ : Addr)), 2, 2⟩ : Sl), h23))) (
                          some (Sum.inl ((some (⟨b, 0, (some 0)⟩ : Addr)), h0)))))))) (
                condK (x0 == 12) (
                  bindO (ldI .i64 h0 (add (⟨b, 0, (some 0)⟩ : Addr) 0)) fun (x35 : Int) =>
                  bindO (ldI .i64 h0 (add (⟨b, 0, (some 0)⟩ : Addr) 3)) fun (x36 : Int) =>
                  newO (row 3 [(.int .i64 x35), (.int .i64 x36)]) h0 fun (b8 : Nat) (h24 : H) =>
                  some (Sum.inr ((⟨(some (⟨b8, 0, (some 0)⟩ : Addr)), 2, 2⟩ : Sl), h24))) (
                  condK (x0 == 8) (
                    letH (growIf h0 9) fun (h25 : H) =>
                    bindO (ldI .i64 h25 (add (⟨b, 0, (some 0)⟩ : Addr) 0)) fun (x37 : Int) =>
                    bindO (ldI .i64 h25 (add (⟨b, 0, (some 0)⟩ : Addr) 3)) fun (x38 : Int) =>
                    bindO (ldB h25 (add (⟨b, 0, (some 0)⟩ : Addr) 6)) fun (x39 : Bool) =>
                    bind2 (frame_flag x39 h25) fun (x40 : Int) (h26 : H) =>
                    letH (addP 4 h0.size [(7, (row 3 [(.int .i64 x37), (.int .i64 x38), (.int .i64 x40)]))] h26) fun (h27 : H) =>
                    bindO (ldI .i64 h27 (add (⟨b, 0, (some 0)⟩ : Addr) 3)) fun (x41 : Int) =>
                    condK (x41 == x38) (
                      letH (addP 1 h0.size [(7, (row 3 [(.int .i64 x37), (.int .i64 x38), (.int .i64 x40)]))] h26) fun (h28 : H) =>
                      bindO (ldI .i64 h28 (add (⟨b, 0, (some 0)⟩ : Addr) 0)) fun (x42 : Int) =>
                      condK (x42 == x37) (
                        letH (addP 511 h0.size [(7, (row 3 [(.int .i64 x37), (.int .i64 x38), (.int .i64 x40)]))] h26) fun (h29 : H) =>
                        letH (tickIf 9 h29) fun (h30 : H) =>
                        some (Sum.inr ((⟨(some (⟨(h0.size + 7), 0, (some 0)⟩ : Addr)), 3, 3⟩ : Sl), h30))) none) none) (
                    condK (x0 == 9) (
                      bindO (ldI .i64 h0 (add (⟨b, 0, (some 0)⟩ : Addr) 0)) fun (x43 : Int) =>
                      bindO (ldL h0 (add (⟨b, 0, (some 0)⟩ : Addr) 7)) fun (x44 : Sl) =>
                      newO (row 3 [(.int .i64 x43), (.int .i64 ((x44.len : Nat) : Int))]) h0 fun (b9 : Nat) (h31 : H) =>
                      some (Sum.inr ((⟨(some (⟨b9, 0, (some 0)⟩ : Addr)), 2, 2⟩ : Sl), h31))) (
                      condK (x0 == 10) (
                        condK (x0 == 10) (
                          bindO (ldI .i64 h0 (add (⟨b, 0, (some 0)⟩ : Addr) 0)) fun (x45 : Int) =>
                          bindO (ldI .i64 h0 (add (⟨b, 0, (some 0)⟩ : Addr) 1)) fun (x46 : Int) =>
                          newO (row 3 [(.int .i64 x45), (.int .i64 x46)]) h0 fun (b10 : Nat) (h32 : H) =>
                          some (Sum.inr ((⟨(some (⟨b10, 0, (some 0)⟩ : Addr)), 2, 2⟩ : Sl), h32))) (
                          some (Sum.inl ((some (⟨b, 0, (some 0)⟩ : Addr)), h0)))) (
                        condK (x0 == 11) (
                          bindO (ldI .i64 h0 (add (⟨b, 0, (some 0)⟩ : Addr) 0)) fun (x47 : Int) =>
                          bindO (ldI .i64 h0 (add (⟨b, 0, (some 0)⟩ : Addr) 1)) fun (x48 : Int) =>
                          newO (row 3 [(.int .i64 x47), (.int .i64 x48)]) h0 fun (b11 : Nat) (h33 : H) =>
                          some (Sum.inr ((⟨(some (⟨b11, 0, (some 0)⟩ : Addr)), 2, 2⟩ : Sl), h33))) (
                          some (Sum.inl ((some (⟨b, 0, (some 0)⟩ : Addr)), h0)))))))))) (
            condK (x0 == 7) (
              bindO (ldI .i64 h0 (add (⟨b, 0, (some 0)⟩ : Addr) 0)) fun (x49 : Int) =>
              bindO (ldI .i64 h0 (add (⟨b, 0, (some 0)⟩ : Addr) 1)) fun (x50 : Int) =>
              bindO (ldI .i64 h0 (add (⟨b, 0, (some 0)⟩ : Addr) 3)) fun (x51 : Int) =>
              newO (row 3 [(.int .i64 x49), (.int .i64 x50), (.int .i64 x51)]) h0 fun (b12 : Nat) (h34 : H) =>
              some (Sum.inr ((⟨(some (⟨b12, 0, (some 0)⟩ : Addr)), 3, 3⟩ : Sl), h34))) (
              condK (x0 == 6) (
                condK (x0 == 6) (
                  bindO (ldI .i64 h0 (add (⟨b, 0, (some 0)⟩ : Addr) 0)) fun (x52 : Int) =>
                  bindO (ldI .i64 h0 (add (⟨b, 0, (some 0)⟩ : Addr) 3)) fun (x53 : Int) =>
                  newO (row 3 [(.int .i64 x52), (.int .i64 x53)]) h0 fun (b13 : Nat) (h35 : H) =>
                  some (Sum.inr ((⟨(some (⟨b13, 0, (some 0)⟩ : Addr)), 2, 2⟩ : Sl), h35))) (
                  condK (x0 == 8) (
                    letH (growIf h0 9) fun (h36 : H) =>
                    bindO (ldI .i64 h36 (add (⟨b, 0, (some 0)⟩ : Addr) 0)) fun (x54 : Int) =>
                    bindO (ldI .i64 h36 (add (⟨b, 0, (some 0)⟩ : Addr) 3)) fun (x55 : Int) =>
                    bindO (ldB h36 (add (⟨b, 0, (some 0)⟩ : Addr) 6)) fun (x56 : Bool) =>
                    bind2 (frame_flag x56 h36) fun (x57 : Int) (h37 : H) =>
                    letH (addP 4 h0.size [(7, (row 3 [(.int .i64 x54), (.int .i64 x55), (.int .i64 x57)]))] h37) fun (h38 : H) =>
                    bindO (ldI .i64 h38 (add (⟨b, 0, (some 0)⟩ : Addr) 3)) fun (x58 : Int) =>
                    condK (x58 == x55) (
                      letH (addP 1 h0.size [(7, (row 3 [(.int .i64 x54), (.int .i64 x55), (.int .i64 x57)]))] h37) fun (h39 : H) =>
                      bindO (ldI .i64 h39 (add (⟨b, 0, (some 0)⟩ : Addr) 0)) fun (x59 : Int) =>
                      condK (x59 == x54) (
                        letH (addP 511 h0.size [(7, (row 3 [(.int .i64 x54), (.int .i64 x55), (.int .i64 x57)]))] h37) fun (h40 : H) =>
                        letH (tickIf 9 h40) fun (h41 : H) =>
                        some (Sum.inr ((⟨(some (⟨(h0.size + 7), 0, (some 0)⟩ : Addr)), 3, 3⟩ : Sl), h41))) none) none) (
                    condK (x0 == 9) (
                      bindO (ldI .i64 h0 (add (⟨b, 0, (some 0)⟩ : Addr) 0)) fun (x60 : Int) =>
                      bindO (ldL h0 (add (⟨b, 0, (some 0)⟩ : Addr) 7)) fun (x61 : Sl) =>
                      newO (row 3 [(.int .i64 x60), (.int .i64 ((x61.len : Nat) : Int))]) h0 fun (b14 : Nat) (h42 : H) =>
                      some (Sum.inr ((⟨(some (⟨b14, 0, (some 0)⟩ : Addr)), 2, 2⟩ : Sl), h42))) (
                      condK (x0 == 10) (
                        condK (x0 == 10) (
                          bindO (ldI .i64 h0 (add (⟨b, 0, (some 0)⟩ : Addr) 0)) fun (x62 : Int) =>
                          bindO (ldI .i64 h0 (add (⟨b, 0, (some 0)⟩ : Addr) 1)) fun (x63 : Int) =>
                          newO (row 3 [(.int .i64 x62), (.int .i64 x63)]) h0 fun (b15 : Nat) (h43 : H) =>
                          some (Sum.inr ((⟨(some (⟨b15, 0, (some 0)⟩ : Addr)), 2, 2⟩ : Sl), h43))) (
                          some (Sum.inl ((some (⟨b, 0, (some 0)⟩ : Addr)), h0)))) (
                        condK (x0 == 11) (
                          bindO (ldI .i64 h0 (add (⟨b, 0, (some 0)⟩ : Addr) 0)) fun (x64 : Int) =>
                          bindO (ldI .i64 h0 (add (⟨b, 0, (some 0)⟩ : Addr) 1)) fun (x65 : Int) =>
                          newO (row 3 [(.int .i64 x64), (.int .i64 x65)]) h0 fun (b16 : Nat) (h44 : H) =>
                          some (Sum.inr ((⟨(some (⟨b16, 0, (some 0)⟩ : Addr)), 2, 2⟩ : Sl), h44))) (
                          some (Sum.inl ((some (⟨b, 0, (some 0)⟩ : Addr)), h0)))))))) (
                condK (x0 == 12) (
                  bindO (ldI .i64 h0 (add (⟨b, 0, (some 0)⟩ : Addr) 0)) fun (x66 : Int) =>
                  bindO (ldI .i64 h0 (add (⟨b, 0, (some 0)⟩ : Addr) 3)) fun (x67 : Int) =>
                  newO (row 3 [(.int .i64 x66), (.int .i64 x67)]) h0 fun (b17 : Nat) (h45 : H) =>
                  some (Sum.inr ((⟨(some (⟨b17, 0, (some 0)⟩ : Addr)), 2, 2⟩ : Sl), h45))) (
                  condK (x0 == 8) (
                    letH (growIf h0 9) fun (h46 : H) =>
                    bindO (ldI .i64 h46 (add (⟨b, 0, (some 0)⟩ : Addr) 0)) fun (x68 : Int) =>
                    bindO (ldI .i64 h46 (add (⟨b, 0, (some 0)⟩ : Addr) 3)) fun (x69 : Int) =>
                    bindO (ldB h46 (add (⟨b, 0, (some 0)⟩ : Addr) 6)) fun (x70 : Bool) =>
                    bind2 (frame_flag x70 h46) fun (x71 : Int) (h47 : H) =>
                    letH (addP 4 h0.size [(7, (row 3 [(.int .i64 x68), (.int .i64 x69), (.int .i64 x71)]))] h47) fun (h48 : H) =>
                    bindO (ldI .i64 h48 (add (⟨b, 0, (some 0)⟩ : Addr) 3)) fun (x72 : Int) =>
                    condK (x72 == x69) (
                      letH (addP 1 h0.size [(7, (row 3 [(.int .i64 x68), (.int .i64 x69), (.int .i64 x71)]))] h47) fun (h49 : H) =>
                      bindO (ldI .i64 h49 (add (⟨b, 0, (some 0)⟩ : Addr) 0)) fun (x73 : Int) =>
                      condK (x73 == x68) (
                        letH (addP 511 h0.size [(7, (row 3 [(.int .i64 x68), (.int .i64 x69), (.int .i64 x71)]))] h47) fun (h50 : H) =>
                        letH (tickIf 9 h50) fun (h51 : H) =>
                        some (Sum.inr ((⟨(some (⟨(h0.size + 7), 0, (some 0)⟩ : Addr)), 3, 3⟩ : Sl), h51))) none) none) (
                    condK (x0 == 9) (
                      bindO (ldI .i64 h0 (add (⟨b, 0, (some 0)⟩ : Addr) 0)) fun (x74 : Int) =>
                      bindO (ldL h0 (add (⟨b, 0, (some 0)⟩ : Addr) 7)) fun (x75 : Sl) =>
                      newO (row 3 [(.int .i64 x74), (.int .i64 ((x75.len : Nat) : Int))]) h0 fun (b18 : Nat) (h52 : H) =>
                      some (Sum.inr ((⟨(some (⟨b18, 0, (some 0)⟩ : Addr)), 2, 2⟩ : Sl), h52))) (
                      condK (x0 == 10) (
                        condK (x0 == 10) (
                          bindO (ldI .i64 h0 (add (⟨b, 0, (some 0)⟩ : Addr) 0)) fun (x76 : Int) =>
                          bindO (ldI .i64 h0 (add (⟨b, 0, (some 0)⟩ : Addr) 1)) fun (x77 : Int) =>
                          newO (row 3 [(.int .i64 x76), (.int .i64 x77)]) h0 fun (b19 : Nat) (h53 : H) =>
                          some (Sum.inr ((⟨(some (⟨b19, 0, (some 0)⟩ : Addr)), 2, 2⟩ : Sl), h53))) (
                          some (Sum.inl ((some (⟨b, 0, (some 0)⟩ : Addr)), h0)))) (
                        condK (x0 == 11) (
                          bindO (ldI .i64 h0 (add (⟨b, 0, (some 0)⟩ : Addr) 0)) fun (x78 : Int) =>
                          bindO (ldI .i64 h0 (add (⟨b, 0, (some 0)⟩ : Addr) 1)) fun (x79 : Int) =>
                          newO (row 3 [(.int .i64 x78), (.int .i64 x79)]) h0 fun (b20 : Nat) (h54 : H) =>
                          some (Sum.inr ((⟨(some (⟨b20, 0, (some 0)⟩ : Addr)), 2, 2⟩ : Sl), h54))) (
                          some (Sum.inl ((some (⟨b, 0, (some 0)⟩ : Addr)), h0)))))))))))))) fun ((f1, h1) : ((Option Addr) × H)) =>
  ptrK f1 fun (a0 : Addr) =>
  bindO (ldI .i64 h1 (add a0 0)) fun (x0 : Int) =>
  newO (row 3 [(.int .i64 x0)]) h1 fun (b1 : Nat) (h2 : H) =>
  some ((⟨(some (⟨b1, 0, (some 0)⟩ : Addr)), 1, 1⟩ : Sl), h2)
noncomputable abbrev frame_numbers_l1 := P.frame_numbers_l1 frame_flag
noncomputable def frame_numbers : (Int × Int × Int × Int × Int × Int × Bool × Sl × Sl) → H → Option ((Sl) × H) := P.frame_numbers frame_flag
noncomputable def ann_111 : Ann := ⟨fun i => bif i.beq 10 then some ⟨[1, 3, 17, 18, 19], [⟨false, [.ptr]⟩, ⟨false, [.sl]⟩, ⟨false, [.sl]⟩, ⟨false, [.int .i64]⟩, ⟨false, [.int .i64]⟩]⟩ else bif i.beq 11 then some ⟨[3], [⟨false, [.sl]⟩]⟩ else bif i.beq 29 then some ⟨[1], [⟨false, [.ptr]⟩]⟩ else none, fun i => bif i.beq 5 then some ⟨[1, 3, 17, 18, 19], [⟨false, [.ptr]⟩, ⟨false, [.sl]⟩, ⟨false, [.sl]⟩, ⟨false, [.int .i64]⟩, ⟨false, [.int .i64]⟩]⟩ else none, fun _ => none⟩
noncomputable def E_111 : Ent := ⟨111, [⟨true, [.int .i64, .int .i64, .int .i64, .int .i64, .int .i64, .int .i64, .bool, .sl, .sl]⟩], [⟨false, [.sl]⟩], fun (x : (Int × Int × Int × Int × Int × Int × Bool × Sl × Sl)) h => frame_numbers x h⟩
theorem eq_111 (frame_flag : Bool → H → Option ((Int) × H)) : (fun (x : PT E_111.ps) (h : H) => runFK Go.Proofs.Ythiccnmplgdheaa.Tab.D (lstK [⟨156, [⟨false, [.bool]⟩], [⟨false, [.int .i64]⟩], fun (x : Bool) h => frame_flag x h⟩]) ann_111 Try.f111 (Try.f111.body.getD .skip) E_111.ys (encP E_111.ps x) h) = (fun (x : (Int × Int × Int × Int × Int × Int × Bool × Sl × Sl)) h => P.frame_numbers frame_flag x h) := by kernel_rfl
theorem ok_111 : E_111.ok Go.Proofs.Ythiccnmplgdheaa.Tab.D := fun x h y h' e => runFK_ok (lstK_ok [E_156] (List.forall_mem_cons.2 ⟨ok_156, fun E h => nomatch h⟩)) (A := ann_111) (by kernel_rfl) (show Go.Proofs.Ythiccnmplgdheaa.Tab.D.fn.get 111 = some Try.f111 by kernel_rfl) (show Try.f111.body = some (Try.f111.body.getD .skip) by kernel_rfl) ((congrFun (congrFun (eq_111 frame_flag) x) h).trans e)
/-! frame_Lay -/
noncomputable def P.frame_Lay_l1 (frame_Right : (Int × Int × Int × Int × Int × Int × Bool × Sl × Sl) → H → Option ((Bool) × H)) (frame_numbers : (Int × Int × Int × Int × Int × Int × Bool × Sl × Sl) → H → Option ((Sl) × H)) (varint_Put : Sl → Sl → H → Option ((Sl) × H)) (slices_Clip_byte : Sl → H → Option ((Sl) × H)) : ((Sl × (Sl × (Int × Int))) × H) → Option (((Sl × (Sl × (Int × Int))) × H) ⊕ ((Sl × H) ⊕ ((Sl × Int) × H))) := fun ((out, (x0, (x1, x2))), h0) =>
  condK (decide ((x2 < x1))) (
    bindO (ixT 9 x0 x2) fun (a0 : Addr) =>
    bindO (ldZ [.int .i64, .int .i64, .int .i64, .int .i64, .int .i64, .int .i64, .bool, .sl, .sl] h0 a0) fun ((x3, x4, x5, x6, x7, x8, x9, x10, x11) : Int × Int × Int × Int × Int × Int × Bool × Sl × Sl) =>
    newO (row 33 [(.int .i64 0), (.int .i64 0), (.int .i64 0), (.int .i64 0), (.int .i64 0), (.int .i64 0), (.bool false), (.slice none 0 0), (.slice none 0 0)]) h0 fun (b : Nat) (h1 : H) =>
    bindO (stZ [.int .i64, .int .i64, .int .i64, .int .i64, .int .i64, .int .i64, .bool, .sl, .sl] h1 (⟨b, 0, (some 0)⟩ : Addr) ((x3, x4, x5, x6, x7, x8, x9, x10, x11) : Int × Int × Int × Int × Int × Int × Bool × Sl × Sl)) fun (h2 : H) =>
    bindO (ldZ [.int .i64, .int .i64, .int .i64, .int .i64, .int .i64, .int .i64, .bool, .sl, .sl] h2 (⟨b, 0, (some 0)⟩ : Addr)) fun ((x12, x13, x14, x15, x16, x17, x18, x19, x20) : Int × Int × Int × Int × Int × Int × Bool × Sl × Sl) =>
    bind2 (frame_Right (x12, x13, x14, x15, x16, x17, x18, x19, x20) h2) fun (x21 : Bool) (h3 : H) =>
    condK (!x21) (
      some (Sum.inr (Sum.inr (((⟨none, 0, 0⟩ : Sl), 1), h3)))) (
      bindO (ldZ [.int .i64, .int .i64, .int .i64, .int .i64, .int .i64, .int .i64, .bool, .sl, .sl] h3 (⟨b, 0, (some 0)⟩ : Addr)) fun ((x22, x23, x24, x25, x26, x27, x28, x29, x30) : Int × Int × Int × Int × Int × Int × Bool × Sl × Sl) =>
      bind2 (frame_numbers (x22, x23, x24, x25, x26, x27, x28, x29, x30) h3) fun (x31 : Sl) (h4 : H) =>
      bind2 (varint_Put out x31 h4) fun (x32 : Sl) (h5 : H) =>
      bindO (ldL h5 (add (⟨b, 0, (some 0)⟩ : Addr) 7)) fun (x33 : Sl) =>
      bind2 (appT 5 1 1 h5 x32 x33) fun (x34 : Sl) (h6 : H) =>
      bindO (ldL h4 (add (⟨b, 0, (some 0)⟩ : Addr) 7)) fun (x35 : Sl) =>
      condK (slEq x35.base x35.len x35.cap x33.base x33.len x33.cap) (
        bindO (ldL h3 (add (⟨b, 0, (some 0)⟩ : Addr) 7)) fun (x36 : Sl) =>
        condK (slEq x36.base x36.len x36.cap x33.base x33.len x33.cap) (
          some (Sum.inl ((x34, (x0, (x1, (IntKind.wrap .i64 (x2 + 1))))), h6))) none) none)) (
    some (Sum.inr (Sum.inl (out, h0))))

noncomputable def P.frame_Lay (frame_Right : (Int × Int × Int × Int × Int × Int × Bool × Sl × Sl) → H → Option ((Bool) × H)) (frame_numbers : (Int × Int × Int × Int × Int × Int × Bool × Sl × Sl) → H → Option ((Sl) × H)) (varint_Put : Sl → Sl → H → Option ((Sl) × H)) (slices_Clip_byte : Sl → H → Option ((Sl) × H)) (f : Sl) (h : H) : Option ((Sl × Int) × H) :=
  joinO (
    loopO (P.frame_Lay_l1 frame_Right frame_numbers varint_Put slices_Clip_byte) (((⟨none, 0, 0⟩ : Sl), (f, (((f.len : Nat) : Int), 0))), h)) fun ((out, h0) : (Sl × H)) =>
  bind2 (slices_Clip_byte out h0) fun (x0 : Sl) (h1 : H) =>
  some ((x0, 0), h1)
noncomputable abbrev frame_Lay_l1 := P.frame_Lay_l1 frame_Right frame_numbers varint_Put slices_Clip_byte
noncomputable def frame_Lay : Sl → H → Option ((Sl × Int) × H) := P.frame_Lay frame_Right frame_numbers varint_Put slices_Clip_byte
noncomputable def ann_55 : Ann := ⟨fun i => bif i.beq 9 then some ⟨[4], [⟨false, [.sl]⟩]⟩ else none, fun i => bif i.beq 3 then some ⟨[4, 7, 8, 9], [⟨false, [.sl]⟩, ⟨false, [.sl]⟩, ⟨false, [.int .i64]⟩, ⟨false, [.int .i64]⟩]⟩ else none, fun _ => none⟩
noncomputable def E_55 : Ent := ⟨55, [⟨false, [.sl]⟩], [⟨false, [.sl]⟩, ⟨false, [.int .i64]⟩], fun (x : Sl) h => frame_Lay x h⟩
theorem eq_55 (frame_Right : (Int × Int × Int × Int × Int × Int × Bool × Sl × Sl) → H → Option ((Bool) × H)) (frame_numbers : (Int × Int × Int × Int × Int × Int × Bool × Sl × Sl) → H → Option ((Sl) × H)) (varint_Put : Sl → Sl → H → Option ((Sl) × H)) (slices_Clip_byte : Sl → H → Option ((Sl) × H)) : (fun (x : PT E_55.ps) (h : H) => runFK Go.Proofs.Ythiccnmplgdheaa.Tab.D (lstK [⟨27, [⟨true, [.int .i64, .int .i64, .int .i64, .int .i64, .int .i64, .int .i64, .bool, .sl, .sl]⟩], [⟨false, [.bool]⟩], fun (x : (Int × Int × Int × Int × Int × Int × Bool × Sl × Sl)) h => frame_Right x h⟩, ⟨111, [⟨true, [.int .i64, .int .i64, .int .i64, .int .i64, .int .i64, .int .i64, .bool, .sl, .sl]⟩], [⟨false, [.sl]⟩], fun (x : (Int × Int × Int × Int × Int × Int × Bool × Sl × Sl)) h => frame_numbers x h⟩, ⟨100, [⟨false, [.sl]⟩, ⟨false, [.sl]⟩], [⟨false, [.sl]⟩], fun (x : Sl × Sl) h => varint_Put x.1 x.2 h⟩, ⟨97, [⟨false, [.sl]⟩], [⟨false, [.sl]⟩], fun (x : Sl) h => slices_Clip_byte x h⟩]) ann_55 Try.f55 (Try.f55.body.getD .skip) E_55.ys (encP E_55.ps x) h) = (fun (x : Sl) h => P.frame_Lay frame_Right frame_numbers varint_Put slices_Clip_byte x h) := by kernel_rfl
theorem ok_55 : E_55.ok Go.Proofs.Ythiccnmplgdheaa.Tab.D := fun x h y h' e => runFK_ok (lstK_ok [E_27, E_111, E_100, E_97] (List.forall_mem_cons.2 ⟨ok_27, List.forall_mem_cons.2 ⟨ok_111, List.forall_mem_cons.2 ⟨ok_100, List.forall_mem_cons.2 ⟨ok_97, fun E h => nomatch h⟩⟩⟩⟩)) (A := ann_55) (by kernel_rfl) (show Go.Proofs.Ythiccnmplgdheaa.Tab.D.fn.get 55 = some Try.f55 by kernel_rfl) (show Try.f55.body = some (Try.f55.body.getD .skip) by kernel_rfl) ((congrFun (congrFun (eq_55 frame_Right frame_numbers varint_Put slices_Clip_byte) x) h).trans e)
/-! frame_reader_fail -/
noncomputable def frame_reader_fail (r : Option Addr) (e : Int) (h : H) : Option (Unit × H) :=
  ptrK r fun (a0 : Addr) =>
  bindO (ldI .i64 h (add a0 1)) fun (x0 : Int) =>
  condK (x0 == 0) (
    ptrK r fun (a1 : Addr) =>
    bindO (st1 h (add a1 1) (.int .i64 e)) fun (h0 : H) =>
    some ((), h0)) (
    some ((), h))
noncomputable def ann_161 : Ann := ⟨fun _ => none, fun _ => none, fun _ => none⟩
noncomputable def E_161 : Ent := ⟨161, [⟨false, [.ptr]⟩, ⟨false, [.int .i64]⟩], [], fun (x : Option Addr × Int) h => frame_reader_fail x.1 x.2 h⟩
theorem eq_161  : (fun (x : PT E_161.ps) (h : H) => runFK Go.Proofs.Ythiccnmplgdheaa.Tab.D (lstK []) ann_161 Try.f161 (Try.f161.body.getD .skip) E_161.ys (encP E_161.ps x) h) = (fun (x : Option Addr × Int) h => frame_reader_fail x.1 x.2 h) := by kernel_rfl
theorem ok_161 : E_161.ok Go.Proofs.Ythiccnmplgdheaa.Tab.D := fun x h y h' e => runFK_ok (lstK_ok [] (fun E h => nomatch h)) (A := ann_161) (by kernel_rfl) (show Go.Proofs.Ythiccnmplgdheaa.Tab.D.fn.get 161 = some Try.f161 by kernel_rfl) (show Try.f161.body = some (Try.f161.body.getD .skip) by kernel_rfl) ((congrFun (congrFun (eq_161 ) x) h).trans e)
/-! frame_reader_take -/
noncomputable def P.frame_reader_take_l1 (varint_Take : Sl → H → Option ((Int × Sl × Int) × H)) (frame_reader_fail : Option Addr → Int → H → Option ((Unit) × H)) : (((Option Addr) × (Sl × (Int × Int))) × H) → Option ((((Option Addr) × (Sl × (Int × Int))) × H) ⊕ (PUnit × H)) := fun ((r, (x0, (x1, x2))), h0) =>
  condK (decide ((x2 < x1))) (
    bindO (ixT 1 x0 x2) fun (a0 : Addr) =>
    bindO (ldP h0 a0) fun (x3 : Option Addr) =>
    ptrK r fun (a1 : Addr) =>
    bindO (ldI .i64 h0 (add a1 1)) fun (x4 : Int) =>
    condK (x4 != 0) (
      some (Sum.inr ((), h0))) (
      ptrK r fun (a2 : Addr) =>
      bindO (ldL h0 (add a2 0)) fun (x5 : Sl) =>
      bind2 (varint_Take x5 h0) fun ((x6, x7, x8) : Int × Sl × Int) (h1 : H) =>
      bind2 (frame_reader_fail r x8 h1) fun (_ : Unit) (h2 : H) =>
      ptrK x3 fun (a3 : Addr) =>
      bindO (st1 h2 a3 (.int .i64 x6)) fun (h3 : H) =>
      ptrK r fun (a4 : Addr) =>
      bindO (st1 h3 (add a4 0) (.slice x7.base x7.len x7.cap)) fun (h4 : H) =>
      some (Sum.inl ((r, (x0, (x1, (IntKind.wrap .i64 (x2 + 1))))), h4)))) (
    some (Sum.inr ((), h0)))

noncomputable def P.frame_reader_take (varint_Take : Sl → H → Option ((Int × Sl × Int) × H)) (frame_reader_fail : Option Addr → Int → H → Option ((Unit) × H)) (r : Option Addr) (to : Sl) (h : H) : Option (Unit × H) :=
  loopO (P.frame_reader_take_l1 varint_Take frame_reader_fail) ((r, (to, (((to.len : Nat) : Int), 0))), h)
noncomputable abbrev frame_reader_take_l1 := P.frame_reader_take_l1 varint_Take frame_reader_fail
noncomputable def frame_reader_take : Option Addr → Sl → H → Option ((Unit) × H) := P.frame_reader_take varint_Take frame_reader_fail
noncomputable def ann_157 : Ann := ⟨fun _ => none, fun i => bif i.beq 1 then some ⟨[0, 9, 10, 11], [⟨false, [.ptr]⟩, ⟨false, [.sl]⟩, ⟨false, [.int .i64]⟩, ⟨false, [.int .i64]⟩]⟩ else none, fun _ => none⟩
noncomputable def E_157 : Ent := ⟨157, [⟨false, [.ptr]⟩, ⟨false, [.sl]⟩], [], fun (x : Option Addr × Sl) h => frame_reader_take x.1 x.2 h⟩
theorem eq_157 (varint_Take : Sl → H → Option ((Int × Sl × Int) × H)) (frame_reader_fail : Option Addr → Int → H → Option ((Unit) × H)) : (fun (x : PT E_157.ps) (h : H) => runFK Go.Proofs.Ythiccnmplgdheaa.Tab.D (lstK [⟨151, [⟨false, [.sl]⟩], [⟨false, [.int .i64]⟩, ⟨false, [.sl]⟩, ⟨false, [.int .i64]⟩], fun (x : Sl) h => varint_Take x h⟩, ⟨161, [⟨false, [.ptr]⟩, ⟨false, [.int .i64]⟩], [], fun (x : Option Addr × Int) h => frame_reader_fail x.1 x.2 h⟩]) ann_157 Try.f157 (Try.f157.body.getD .skip) E_157.ys (encP E_157.ps x) h) = (fun (x : Option Addr × Sl) h => P.frame_reader_take varint_Take frame_reader_fail x.1 x.2 h) := by kernel_rfl
theorem ok_157 : E_157.ok Go.Proofs.Ythiccnmplgdheaa.Tab.D := fun x h y h' e => runFK_ok (lstK_ok [E_151, E_161] (List.forall_mem_cons.2 ⟨ok_151, List.forall_mem_cons.2 ⟨ok_161, fun E h => nomatch h⟩⟩)) (A := ann_157) (by kernel_rfl) (show Go.Proofs.Ythiccnmplgdheaa.Tab.D.fn.get 157 = some Try.f157 by kernel_rfl) (show Try.f157.body = some (Try.f157.body.getD .skip) by kernel_rfl) ((congrFun (congrFun (eq_157 varint_Take frame_reader_fail) x) h).trans e)
/-! frame_reader_spans -/
noncomputable def P.frame_reader_spans_l1 (frame_reader_take : Option Addr → Sl → H → Option ((Unit) × H)) (frame_reader_fail : Option Addr → Int → H → Option ((Unit) × H)) : (((Option Addr) × ((Option Addr) × (Sl × Int))) × H) → Option ((((Option Addr) × ((Option Addr) × (Sl × Int))) × H) ⊕ ((Sl × H) ⊕ (Sl × H))) := fun ((r, (n, (out, k))), h0) =>
  joinO (
    ptrK n fun (a0 : Addr) =>
    bindO (ldI .i64 h0 a0) fun (x0 : Int) =>
    condK (decide ((k < x0))) (
      ptrK r fun (a1 : Addr) =>
      bindO (ldI .i64 h0 (add a1 1)) fun (x1 : Int) =>
      some (Sum.inl ((r, (n, (out, (k, (x1 == 0))))), h0))) (
      some (Sum.inl ((r, (n, (out, (k, false)))), h0)))) fun (((r1, (n1, (out1, (k1, x0)))), h1) : (((Option Addr) × ((Option Addr) × (Sl × (Int × Bool)))) × H)) =>
  condK x0 (
    newO (row 3 [(.int .i64 0)]) h1 fun (b : Nat) (h2 : H) =>
    newO (row 3 [(.int .i64 0)]) h2 fun (b1 : Nat) (h3 : H) =>
    bindO (st1 h3 (⟨b, 0, (some 0)⟩ : Addr) (.int .i64 0)) fun (h4 : H) =>
    bindO (st1 h4 (⟨b1, 0, (some 0)⟩ : Addr) (.int .i64 0)) fun (h5 : H) =>
    newO (row 171 [(.pointer (some (⟨b, 0, (some 0)⟩ : Addr)))]) h5 fun (b2 : Nat) (h6 : H) =>
    bind2 (frame_reader_take r1 (⟨(some (⟨b2, 0, (some 0)⟩ : Addr)), 1, 1⟩ : Sl) h6) fun (_ : Unit) (h7 : H) =>
    joinO (
      condK (decide ((k1 > 0))) (
        joinO (
          joinO (
            bindO (ldI .i64 h7 (⟨b, 0, (some 0)⟩ : Addr)) fun (x1 : Int) =>
            condK (decide ((x1 < 2))) (
              some (Sum.inl ((r1, (n1, (out1, (k1, ((some (⟨b, 0, (some 0)⟩ : Addr)), ((some (⟨b1, 0, (some 0)⟩ : Addr)), true)))))), h7))) (
              bindO (ldI .i64 h7 (⟨b, 0, (some 0)⟩ : Addr)) fun (x2 : Int) =>
              bindO (ixT 2 out1 (IntKind.wrap .i64 (k1 - 1))) fun (a0 : Addr) =>
              bindO (ixAT 2 1 a0 0) fun (a1 : Addr) =>
              bindO (ldI .i64 h7 a1) fun (x3 : Int) =>
              some (Sum.inl ((r1, (n1, (out1, (k1, ((some (⟨b, 0, (some 0)⟩ : Addr)), ((some (⟨b1, 0, (some 0)⟩ : Addr)), (decide ((x2 > x3))))))))), h7)))) fun (((r2, (n2, (out2, (k2, (last, (size, x1)))))), h8) : (((Option Addr) × ((Option Addr) × (Sl × (Int × ((Option Addr) × ((Option Addr) × Bool)))))) × H)) =>
          condK x1 (
            bind2 (frame_reader_fail r2 2 h8) fun (_ : Unit) (h9 : H) =>
            some (Sum.inl ((r2, (n2, (out2, (k2, (last, size))))), h9))) (
            some (Sum.inl ((r2, (n2, (out2, (k2, (last, size))))), h8)))) fun (((r2, (n2, (out2, (k2, (last, size))))), h8) : (((Option Addr) × ((Option Addr) × (Sl × (Int × ((Option Addr) × (Option Addr)))))) × H)) =>
        bindO (ixT 2 out2 (IntKind.wrap .i64 (k2 - 1))) fun (a0 : Addr) =>
        bindO (ixAT 2 1 a0 0) fun (a1 : Addr) =>
        bindO (ldI .i64 h8 a1) fun (x1 : Int) =>
        ptrK last fun (a2 : Addr) =>
        bindO (ldI .i64 h8 a2) fun (x2 : Int) =>
        ptrK last fun (a3 : Addr) =>
        bindO (st1 h8 a3 (.int .i64 (IntKind.wrap .i64 (x1 - x2)))) fun (h9 : H) =>
        some (Sum.inl ((r2, (n2, (out2, (k2, (last, size))))), h9))) (
        some (Sum.inl ((r1, (n1, (out1, (k1, ((some (⟨b, 0, (some 0)⟩ : Addr)), (some (⟨b1, 0, (some 0)⟩ : Addr))))))), h7)))) fun (((r2, (n2, (out2, (k2, (last, size))))), h8) : (((Option Addr) × ((Option Addr) × (Sl × (Int × ((Option Addr) × (Option Addr)))))) × H)) =>
    newO (row 171 [(.pointer size)]) h8 fun (b3 : Nat) (h9 : H) =>
    bind2 (frame_reader_take r2 (⟨(some (⟨b3, 0, (some 0)⟩ : Addr)), 1, 1⟩ : Sl) h9) fun (_ : Unit) (h10 : H) =>
    joinO (
      ptrK size fun (a0 : Addr) =>
      bindO (ldI .i64 h10 a0) fun (x1 : Int) =>
      ptrK last fun (a1 : Addr) =>
      bindO (ldI .i64 h10 a1) fun (x2 : Int) =>
      condK (decide ((x1 > x2))) (
        bind2 (frame_reader_fail r2 2 h10) fun (_ : Unit) (h11 : H) =>
        some (Sum.inl ((r2, (n2, (out2, (k2, (last, size))))), h11))) (
        some (Sum.inl ((r2, (n2, (out2, (k2, (last, size))))), h10)))) fun (((r3, (n3, (out3, (k3, (last1, size1))))), h11) : (((Option Addr) × ((Option Addr) × (Sl × (Int × ((Option Addr) × (Option Addr)))))) × H)) =>
    ptrK last1 fun (a0 : Addr) =>
    bindO (ldI .i64 h11 a0) fun (x1 : Int) =>
    ptrK size1 fun (a1 : Addr) =>
    bindO (ldI .i64 h11 a1) fun (x2 : Int) =>
    ptrK last1 fun (a2 : Addr) =>
    bindO (ldI .i64 h11 a2) fun (x3 : Int) =>
    newO (row 36 [(.int .i64 (IntKind.wrap .i64 (x1 - x2))), (.int .i64 x3)]) h11 fun (b4 : Nat) (h12 : H) =>
    bind2 (appT 36 2 16 h12 out3 (⟨(some (⟨b4, 0, (some 0)⟩ : Addr)), 1, 1⟩ : Sl)) fun (x4 : Sl) (h13 : H) =>
    some (Sum.inl ((r3, (n3, (x4, (IntKind.wrap .i64 (k3 + 1))))), h13))) (
    some (Sum.inr (Sum.inl (out1, h1))))

noncomputable def P.frame_reader_spans (frame_reader_take : Option Addr → Sl → H → Option ((Unit) × H)) (frame_reader_fail : Option Addr → Int → H → Option ((Unit) × H)) (r : Option Addr) (h : H) : Option (Sl × H) :=
  newO (row 3 [(.int .i64 0)]) h fun (b : Nat) (h0 : H) =>
  bindO (st1 h0 (⟨b, 0, (some 0)⟩ : Addr) (.int .i64 0)) fun (h1 : H) =>
  newO (row 171 [(.pointer (some (⟨b, 0, (some 0)⟩ : Addr)))]) h1 fun (b1 : Nat) (h2 : H) =>
  bind2 (frame_reader_take r (⟨(some (⟨b1, 0, (some 0)⟩ : Addr)), 1, 1⟩ : Sl) h2) fun (_ : Unit) (h3 : H) =>
  joinO (
    joinO (
      bindO (ldI .i64 h3 (⟨b, 0, (some 0)⟩ : Addr)) fun (x0 : Int) =>
      condK (decide ((x0 < 1))) (
        some (Sum.inl ((r, ((some (⟨b, 0, (some 0)⟩ : Addr)), true)), h3))) (
        bindO (ldI .i64 h3 (⟨b, 0, (some 0)⟩ : Addr)) fun (x1 : Int) =>
        some (Sum.inl ((r, ((some (⟨b, 0, (some 0)⟩ : Addr)), (decide ((x1 > 8))))), h3)))) fun (((r1, (n, x0)), h4) : (((Option Addr) × ((Option Addr) × Bool)) × H)) =>
    condK x0 (
      bind2 (frame_reader_fail r1 2 h4) fun (_ : Unit) (h5 : H) =>
      some (Sum.inl ((r1, n), h5))) (
      some (Sum.inl ((r1, n), h4)))) fun (((r1, n), h4) : (((Option Addr) × (Option Addr)) × H)) =>
  joinO (
    loopO (P.frame_reader_spans_l1 frame_reader_take frame_reader_fail) ((r1, (n, ((⟨none, 0, 0⟩ : Sl), 0))), h4)) fun ((out, h5) : (Sl × H)) =>
  some (out, h5)
noncomputable abbrev frame_reader_spans_l1 := P.frame_reader_spans_l1 frame_reader_take frame_reader_fail
noncomputable def frame_reader_spans : Option Addr → H → Option ((Sl) × H) := P.frame_reader_spans frame_reader_take frame_reader_fail
noncomputable def ann_158 : Ann := ⟨fun i => bif i.beq 5 then some ⟨[0, 3], [⟨false, [.ptr]⟩, ⟨false, [.ptr]⟩]⟩ else bif i.beq 14 then some ⟨[0, 3, 4, 5, 6, 7], [⟨false, [.ptr]⟩, ⟨false, [.ptr]⟩, ⟨false, [.sl]⟩, ⟨false, [.int .i64]⟩, ⟨false, [.ptr]⟩, ⟨false, [.ptr]⟩]⟩ else bif i.beq 15 then some ⟨[0, 3, 4, 5, 6, 7], [⟨false, [.ptr]⟩, ⟨false, [.ptr]⟩, ⟨false, [.sl]⟩, ⟨false, [.int .i64]⟩, ⟨false, [.ptr]⟩, ⟨false, [.ptr]⟩]⟩ else bif i.beq 18 then some ⟨[0, 3, 4, 5, 6, 7], [⟨false, [.ptr]⟩, ⟨false, [.ptr]⟩, ⟨false, [.sl]⟩, ⟨false, [.int .i64]⟩, ⟨false, [.ptr]⟩, ⟨false, [.ptr]⟩]⟩ else bif i.beq 19 then some ⟨[4], [⟨false, [.sl]⟩]⟩ else none, fun i => bif i.beq 7 then some ⟨[0, 3, 4, 5], [⟨false, [.ptr]⟩, ⟨false, [.ptr]⟩, ⟨false, [.sl]⟩, ⟨false, [.int .i64]⟩]⟩ else none, fun i => bif i.beq 3 then some ⟨[0, 3, 16], [⟨false, [.ptr]⟩, ⟨false, [.ptr]⟩, ⟨false, [.bool]⟩]⟩ else bif i.beq 7 then some ⟨[0, 3, 4, 5, 28], [⟨false, [.ptr]⟩, ⟨false, [.ptr]⟩, ⟨false, [.sl]⟩, ⟨false, [.int .i64]⟩, ⟨false, [.bool]⟩]⟩ else bif i.beq 12 then some ⟨[0, 3, 4, 5, 6, 7, 47], [⟨false, [.ptr]⟩, ⟨false, [.ptr]⟩, ⟨false, [.sl]⟩, ⟨false, [.int .i64]⟩, ⟨false, [.ptr]⟩, ⟨false, [.ptr]⟩, ⟨false, [.bool]⟩]⟩ else none⟩
noncomputable def E_158 : Ent := ⟨158, [⟨false, [.ptr]⟩], [⟨false, [.sl]⟩], fun (x : Option Addr) h => frame_reader_spans x h⟩
theorem eq_158 (frame_reader_take : Option Addr → Sl → H → Option ((Unit) × H)) (frame_reader_fail : Option Addr → Int → H → Option ((Unit) × H)) : (fun (x : PT E_158.ps) (h : H) => runFK Go.Proofs.Ythiccnmplgdheaa.Tab.D (lstK [⟨157, [⟨false, [.ptr]⟩, ⟨false, [.sl]⟩], [], fun (x : Option Addr × Sl) h => frame_reader_take x.1 x.2 h⟩, ⟨161, [⟨false, [.ptr]⟩, ⟨false, [.int .i64]⟩], [], fun (x : Option Addr × Int) h => frame_reader_fail x.1 x.2 h⟩]) ann_158 Try.f158 (Try.f158.body.getD .skip) E_158.ys (encP E_158.ps x) h) = (fun (x : Option Addr) h => P.frame_reader_spans frame_reader_take frame_reader_fail x h) := by kernel_rfl
theorem ok_158 : E_158.ok Go.Proofs.Ythiccnmplgdheaa.Tab.D := fun x h y h' e => runFK_ok (lstK_ok [E_157, E_161] (List.forall_mem_cons.2 ⟨ok_157, List.forall_mem_cons.2 ⟨ok_161, fun E h => nomatch h⟩⟩)) (A := ann_158) (by kernel_rfl) (show Go.Proofs.Ythiccnmplgdheaa.Tab.D.fn.get 158 = some Try.f158 by kernel_rfl) (show Try.f158.body = some (Try.f158.body.getD .skip) by kernel_rfl) ((congrFun (congrFun (eq_158 frame_reader_take frame_reader_fail) x) h).trans e)
/-! frame_reader_flag -/
noncomputable def P.frame_reader_flag (frame_reader_take : Option Addr → Sl → H → Option ((Unit) × H)) (frame_reader_fail : Option Addr → Int → H → Option ((Unit) × H)) (r : Option Addr) (h : H) : Option (Bool × H) :=
  newO (row 3 [(.int .i64 0)]) h fun (b : Nat) (h0 : H) =>
  bindO (st1 h0 (⟨b, 0, (some 0)⟩ : Addr) (.int .i64 0)) fun (h1 : H) =>
  newO (row 171 [(.pointer (some (⟨b, 0, (some 0)⟩ : Addr)))]) h1 fun (b1 : Nat) (h2 : H) =>
  bind2 (frame_reader_take r (⟨(some (⟨b1, 0, (some 0)⟩ : Addr)), 1, 1⟩ : Sl) h2) fun (_ : Unit) (h3 : H) =>
  joinO (
    bindO (ldI .i64 h3 (⟨b, 0, (some 0)⟩ : Addr)) fun (x0 : Int) =>
    condK (decide ((x0 > 1))) (
      bind2 (frame_reader_fail r 2 h3) fun (_ : Unit) (h4 : H) =>
      some (Sum.inl ((some (⟨b, 0, (some 0)⟩ : Addr)), h4))) (
      some (Sum.inl ((some (⟨b, 0, (some 0)⟩ : Addr)), h3)))) fun ((n, h4) : ((Option Addr) × H)) =>
  ptrK n fun (a0 : Addr) =>
  bindO (ldI .i64 h4 a0) fun (x0 : Int) =>
  some ((x0 == 1), h4)
noncomputable def frame_reader_flag : Option Addr → H → Option ((Bool) × H) := P.frame_reader_flag frame_reader_take frame_reader_fail
noncomputable def ann_159 : Ann := ⟨fun i => bif i.beq 5 then some ⟨[3], [⟨false, [.ptr]⟩]⟩ else none, fun _ => none, fun _ => none⟩
noncomputable def E_159 : Ent := ⟨159, [⟨false, [.ptr]⟩], [⟨false, [.bool]⟩], fun (x : Option Addr) h => frame_reader_flag x h⟩
theorem eq_159 (frame_reader_take : Option Addr → Sl → H → Option ((Unit) × H)) (frame_reader_fail : Option Addr → Int → H → Option ((Unit) × H)) : (fun (x : PT E_159.ps) (h : H) => runFK Go.Proofs.Ythiccnmplgdheaa.Tab.D (lstK [⟨157, [⟨false, [.ptr]⟩, ⟨false, [.sl]⟩], [], fun (x : Option Addr × Sl) h => frame_reader_take x.1 x.2 h⟩, ⟨161, [⟨false, [.ptr]⟩, ⟨false, [.int .i64]⟩], [], fun (x : Option Addr × Int) h => frame_reader_fail x.1 x.2 h⟩]) ann_159 Try.f159 (Try.f159.body.getD .skip) E_159.ys (encP E_159.ps x) h) = (fun (x : Option Addr) h => P.frame_reader_flag frame_reader_take frame_reader_fail x h) := by kernel_rfl
theorem ok_159 : E_159.ok Go.Proofs.Ythiccnmplgdheaa.Tab.D := fun x h y h' e => runFK_ok (lstK_ok [E_157, E_161] (List.forall_mem_cons.2 ⟨ok_157, List.forall_mem_cons.2 ⟨ok_161, fun E h => nomatch h⟩⟩)) (A := ann_159) (by kernel_rfl) (show Go.Proofs.Ythiccnmplgdheaa.Tab.D.fn.get 159 = some Try.f159 by kernel_rfl) (show Try.f159.body = some (Try.f159.body.getD .skip) by kernel_rfl) ((congrFun (congrFun (eq_159 frame_reader_take frame_reader_fail) x) h).trans e)
/-! frame_reader_data -/
noncomputable def P.frame_reader_data (frame_reader_take : Option Addr → Sl → H → Option ((Unit) × H)) (frame_reader_fail : Option Addr → Int → H → Option ((Unit) × H)) (slices_Clone_byte : Sl → H → Option ((Sl) × H)) (slices_Clip_byte : Sl → H → Option ((Sl) × H)) (r : Option Addr) (h : H) : Option (Sl × H) :=
  newO (row 3 [(.int .i64 0)]) h fun (b : Nat) (h0 : H) =>
  bindO (st1 h0 (⟨b, 0, (some 0)⟩ : Addr) (.int .i64 0)) fun (h1 : H) =>
  newO (row 171 [(.pointer (some (⟨b, 0, (some 0)⟩ : Addr)))]) h1 fun (b1 : Nat) (h2 : H) =>
  bind2 (frame_reader_take r (⟨(some (⟨b1, 0, (some 0)⟩ : Addr)), 1, 1⟩ : Sl) h2) fun (_ : Unit) (h3 : H) =>
  ptrK r fun (a0 : Addr) =>
  bindO (ldI .i64 h3 (add a0 1)) fun (x0 : Int) =>
  condK (x0 != 0) (
    some ((⟨none, 0, 0⟩ : Sl), h3)) (
    bindO (ldI .i64 h3 (⟨b, 0, (some 0)⟩ : Addr)) fun (x1 : Int) =>
    condK (decide ((x1 > 120))) (
      bind2 (frame_reader_fail r 2 h3) fun (_ : Unit) (h4 : H) =>
      some ((⟨none, 0, 0⟩ : Sl), h4)) (
      bindO (ldI .i64 h3 (⟨b, 0, (some 0)⟩ : Addr)) fun (x2 : Int) =>
      ptrK r fun (a1 : Addr) =>
      bindO (ldL h3 (add a1 0)) fun (x3 : Sl) =>
      condK (decide ((x2 > ((x3.len : Nat) : Int)))) (
        bind2 (frame_reader_fail r 3 h3) fun (_ : Unit) (h5 : H) =>
        some ((⟨none, 0, 0⟩ : Sl), h5)) (
        ptrK r fun (a2 : Addr) =>
        bindO (ldL h3 (add a2 0)) fun (x4 : Sl) =>
        bindO (ldI .i64 h3 (⟨b, 0, (some 0)⟩ : Addr)) fun (x5 : Int) =>
        bindO (slT 1 h3 x4 none (some x5) none) fun (x6 : Sl) =>
        bind2 (slices_Clone_byte x6 h3) fun (x7 : Sl) (h6 : H) =>
        bind2 (slices_Clip_byte x7 h6) fun (x8 : Sl) (h7 : H) =>
        ptrK r fun (a3 : Addr) =>
        bindO (ldL h7 (add a3 0)) fun (x9 : Sl) =>
        bindO (ldI .i64 h7 (⟨b, 0, (some 0)⟩ : Addr)) fun (x10 : Int) =>
        bindO (slT 1 h7 x9 (some x10) none none) fun (x11 : Sl) =>
        ptrK r fun (a4 : Addr) =>
        bindO (st1 h7 (add a4 0) (.slice x11.base x11.len x11.cap)) fun (h8 : H) =>
        some (x8, h8))))
noncomputable def frame_reader_data : Option Addr → H → Option ((Sl) × H) := P.frame_reader_data frame_reader_take frame_reader_fail slices_Clone_byte slices_Clip_byte
noncomputable def ann_160 : Ann := ⟨fun _ => none, fun _ => none, fun _ => none⟩
noncomputable def E_160 : Ent := ⟨160, [⟨false, [.ptr]⟩], [⟨false, [.sl]⟩], fun (x : Option Addr) h => frame_reader_data x h⟩
theorem eq_160 (frame_reader_take : Option Addr → Sl → H → Option ((Unit) × H)) (frame_reader_fail : Option Addr → Int → H → Option ((Unit) × H)) (slices_Clone_byte : Sl → H → Option ((Sl) × H)) (slices_Clip_byte : Sl → H → Option ((Sl) × H)) : (fun (x : PT E_160.ps) (h : H) => runFK Go.Proofs.Ythiccnmplgdheaa.Tab.D (lstK [⟨157, [⟨false, [.ptr]⟩, ⟨false, [.sl]⟩], [], fun (x : Option Addr × Sl) h => frame_reader_take x.1 x.2 h⟩, ⟨161, [⟨false, [.ptr]⟩, ⟨false, [.int .i64]⟩], [], fun (x : Option Addr × Int) h => frame_reader_fail x.1 x.2 h⟩, ⟨98, [⟨false, [.sl]⟩], [⟨false, [.sl]⟩], fun (x : Sl) h => slices_Clone_byte x h⟩, ⟨97, [⟨false, [.sl]⟩], [⟨false, [.sl]⟩], fun (x : Sl) h => slices_Clip_byte x h⟩]) ann_160 Try.f160 (Try.f160.body.getD .skip) E_160.ys (encP E_160.ps x) h) = (fun (x : Option Addr) h => P.frame_reader_data frame_reader_take frame_reader_fail slices_Clone_byte slices_Clip_byte x h) := by kernel_rfl
theorem ok_160 : E_160.ok Go.Proofs.Ythiccnmplgdheaa.Tab.D := fun x h y h' e => runFK_ok (lstK_ok [E_157, E_161, E_98, E_97] (List.forall_mem_cons.2 ⟨ok_157, List.forall_mem_cons.2 ⟨ok_161, List.forall_mem_cons.2 ⟨ok_98, List.forall_mem_cons.2 ⟨ok_97, fun E h => nomatch h⟩⟩⟩⟩)) (A := ann_160) (by kernel_rfl) (show Go.Proofs.Ythiccnmplgdheaa.Tab.D.fn.get 160 = some Try.f160 by kernel_rfl) (show Try.f160.body = some (Try.f160.body.getD .skip) by kernel_rfl) ((congrFun (congrFun (eq_160 frame_reader_take frame_reader_fail slices_Clone_byte slices_Clip_byte) x) h).trans e)
/-! frame_reader_frame -/
noncomputable def P.frame_reader_frame (frame_reader_take : Option Addr → Sl → H → Option ((Unit) × H)) (frame_reader_spans : Option Addr → H → Option ((Sl) × H)) (frame_reader_flag : Option Addr → H → Option ((Bool) × H)) (frame_reader_data : Option Addr → H → Option ((Sl) × H)) (frame_Right : (Int × Int × Int × Int × Int × Int × Bool × Sl × Sl) → H → Option ((Bool) × H)) (frame_reader_fail : Option Addr → Int → H → Option ((Unit) × H)) (r : Option Addr) (h : H) : Option ((Int × Int × Int × Int × Int × Int × Bool × Sl × Sl) × H) :=
  newO (row 33 [(.int .i64 0), (.int .i64 0), (.int .i64 0), (.int .i64 0), (.int .i64 0), (.int .i64 0), (.bool false), (.slice none 0 0), (.slice none 0 0)]) h fun (b : Nat) (h0 : H) =>
  newO (row 33 [(.int .i64 0), (.int .i64 0), (.int .i64 0), (.int .i64 0), (.int .i64 0), (.int .i64 0), (.bool false), (.slice none 0 0), (.slice none 0 0)]) h0 fun (b1 : Nat) (h1 : H) =>
  newO (row 171 [(.pointer (some (add (⟨b1, 0, (some 0)⟩ : Addr) 0)))]) h1 fun (b2 : Nat) (h2 : H) =>
  bind2 (frame_reader_take r (⟨(some (⟨b2, 0, (some 0)⟩ : Addr)), 1, 1⟩ : Sl) h2) fun (_ : Unit) (h3 : H) =>
  joinO (
    bindO (ldI .i64 h3 (add (⟨b1, 0, (some 0)⟩ : Addr) 0)) fun (x0 : Int) =>
    condK (x0 == 2) (
      bind2 (frame_reader_spans r h3) fun (x1 : Sl) (h4 : H) =>
      bindO (st1 h4 (add (⟨b1, 0, (some 0)⟩ : Addr) 8) (.slice x1.base x1.len x1.cap)) fun (h5 : H) =>
      some (Sum.inl ((r, ((some (⟨b, 0, (some 0)⟩ : Addr)), (some (⟨b1, 0, (some 0)⟩ : Addr)))), h5))) (
      condK (x0 == 3) (
        newO (row 171 [(.pointer (some (add (⟨b1, 0, (some 0)⟩ : Addr) 1))), (.pointer (some (add (⟨b1, 0, (some 0)⟩ : Addr) 2)))]) h3 fun (b3 : Nat) (h6 : H) =>
        bind2 (frame_reader_take r (⟨(some (⟨b3, 0, (some 0)⟩ : Addr)), 2, 2⟩ : Sl) h6) fun (_ : Unit) (h7 : H) =>
        bind2 (frame_reader_flag r h7) fun (x2 : Bool) (h8 : H) =>
        bindO (st1 h8 (add (⟨b1, 0, (some 0)⟩ : Addr) 6) (.bool x2)) fun (h9 : H) =>
        bind2 (frame_reader_data r h9) fun (x3 : Sl) (h10 : H) =>
        bindO (st1 h10 (add (⟨b1, 0, (some 0)⟩ : Addr) 7) (.slice x3.base x3.len x3.cap)) fun (h11 : H) =>
        some (Sum.inl ((r, ((some (⟨b, 0, (some 0)⟩ : Addr)), (some (⟨b1, 0, (some 0)⟩ : Addr)))), h11))) (
        condK (x0 == 4) (
          newO (row 171 [(.pointer (some (add (⟨b1, 0, (some 0)⟩ : Addr) 1))), (.pointer (some (add (⟨b1, 0, (some 0)⟩ : Addr) 3))), (.pointer (some (add (⟨b1, 0, (some 0)⟩ : Addr) 2))), (.pointer (some (add (⟨b1, 0, (some 0)⟩ : Addr) 4)))]) h3 fun (b4 : Nat) (h12 : H) =>
          bind2 (frame_reader_take r (⟨(some (⟨b4, 0, (some 0)⟩ : Addr)), 4, 4⟩ : Sl) h12) fun (_ : Unit) (h13 : H) =>
          some (Sum.inl ((r, ((some (⟨b, 0, (some 0)⟩ : Addr)), (some (⟨b1, 0, (some 0)⟩ : Addr)))), h13))) (
          condK (x0 == 5) (
            condK (x0 == 5) (
              newO (row 171 [(.pointer (some (add (⟨b1, 0, (some 0)⟩ : Addr) 1))), (.pointer (some (add (⟨b1, 0, (some 0)⟩ : Addr) 3)))]) h3 fun (b5 : Nat) (h14 : H) =>
              bind2 (frame_reader_take r (⟨(some (⟨b5, 0, (some 0)⟩ : Addr)), 2, 2⟩ : Sl) h14) fun (_ : Unit) (h15 : H) =>
              some (Sum.inl ((r, ((some (⟨b, 0, (some 0)⟩ : Addr)), (some (⟨b1, 0, (some 0)⟩ : Addr)))), h15))) (
              condK (x0 == 6) (
                condK (x0 == 6) (
                  newO (row 171 [(.pointer (some (add (⟨b1, 0, (some 0)⟩ : Addr) 3)))]) h3 fun (b6 : Nat) (h16 : H) =>
                  bind2 (frame_reader_take r (⟨(some (⟨b6, 0, (some 0)⟩ : Addr)), 1, 1⟩ : Sl) h16) fun (_ : Unit) (h17 : H) =>
                  some (Sum.inl ((r, ((some (⟨b, 0, (some 0)⟩ : Addr)), (some (⟨b1, 0, (some 0)⟩ : Addr)))), h17))) (
                  condK (x0 == 8) (
                    newO (row 171 [(.pointer (some (add (⟨b1, 0, (some 0)⟩ : Addr) 3)))]) h3 fun (b7 : Nat) (h18 : H) =>
                    bind2 (frame_reader_take r (⟨(some (⟨b7, 0, (some 0)⟩ : Addr)), 1, 1⟩ : Sl) h18) fun (_ : Unit) (h19 : H) =>
                    bind2 (frame_reader_flag r h19) fun (x4 : Bool) (h20 : H) =>
                    bindO (st1 h20 (add (⟨b1, 0, (some 0)⟩ : Addr) 6) (.bool x4)) fun (h21 : H) =>
                    some (Sum.inl ((r, ((some (⟨b, 0, (some 0)⟩ : Addr)), (some (⟨b1, 0, (some 0)⟩ : Addr)))), h21))) (
                    condK (x0 == 9) (
                      bind2 (frame_reader_data r h3) fun (x5 : Sl) (h22 : H) =>
                      bindO (st1 h22 (add (⟨b1, 0, (some 0)⟩ : Addr) 7) (.slice x5.base x5.len x5.cap)) fun (h23 : H) =>
                      some (Sum.inl ((r, ((some (⟨b, 0, (some 0)⟩ : Addr)), (some (⟨b1, 0, (some 0)⟩ : Addr)))), h23))) (
                      condK (x0 == 10) (
                        condK (x0 == 10) (
                          newO (row 171 [(.pointer (some (add (⟨b1, 0, (some 0)⟩ : Addr) 1)))]) h3 fun (b8 : Nat) (h24 : H) =>
                          bind2 (frame_reader_take r (⟨(some (⟨b8, 0, (some 0)⟩ : Addr)), 1, 1⟩ : Sl) h24) fun (_ : Unit) (h25 : H) =>
                          some (Sum.inl ((r, ((some (⟨b, 0, (some 0)⟩ : Addr)), (some (⟨b1, 0, (some 0)⟩ : Addr)))), h25))) (
                          some (Sum.inl ((r, ((some (⟨b, 0, (some 0)⟩ : Addr)), (some (⟨b1, 0, (some 0)⟩ : Addr)))), h3)))) (
                        condK (x0 == 11) (
                          newO (row 171 [(.pointer (some (add (⟨b1, 0, (some 0)⟩ : Addr) 1)))]) h3 fun (b9 : Nat) (h26 : H) =>
                          bind2 (frame_reader_take r (⟨(some (⟨b9, 0, (some 0)⟩ : Addr)), 1, 1⟩ : Sl) h26) fun (_ : Unit) (h27 : H) =>
                          some (Sum.inl ((r, ((some (⟨b, 0, (some 0)⟩ : Addr)), (some (⟨b1, 0, (some 0)⟩ : Addr)))), h27))) (
                          some (Sum.inl ((r, ((some (⟨b, 0, (some 0)⟩ : Addr)), (some (⟨b1, 0, (some 0)⟩ : Addr)))), h3)))))))) (
                condK (x0 == 12) (
                  newO (row 171 [(.pointer (some (add (⟨b1, 0, (some 0)⟩ : Addr) 3)))]) h3 fun (b10 : Nat) (h28 : H) =>
                  bind2 (frame_reader_take r (⟨(some (⟨b10, 0, (some 0)⟩ : Addr)), 1, 1⟩ : Sl) h28) fun (_ : Unit) (h29 : H) =>
                  some (Sum.inl ((r, ((some (⟨b, 0, (some 0)⟩ : Addr)), (some (⟨b1, 0, (some 0)⟩ : Addr)))), h29))) (
                  condK (x0 == 8) (
                    newO (row 171 [(.pointer (some (add (⟨b1, 0, (some 0)⟩ : Addr) 3)))]) h3 fun (b11 : Nat) (h30 : H) =>
                    bind2 (frame_reader_take r (⟨(some (⟨b11, 0, (some 0)⟩ : Addr)), 1, 1⟩ : Sl) h30) fun (_ : Unit) (h31 : H) =>
                    bind2 (frame_reader_flag r h31) fun (x6 : Bool) (h32 : H) =>
                    bindO (st1 h32 (add (⟨b1, 0, (some 0)⟩ : Addr) 6) (.bool x6)) fun (h33 : H) =>
                    some (Sum.inl ((r, ((some (⟨b, 0, (some 0)⟩ : Addr)), (some (⟨b1, 0, (some 0)⟩ : Addr)))), h33))) (
                    condK (x0 == 9) (
                      bind2 (frame_reader_data r h3) fun (x7 : Sl) (h34 : H) =>
                      bindO (st1 h34 (add (⟨b1, 0, (some 0)⟩ : Addr) 7) (.slice x7.base x7.len x7.cap)) fun (h35 : H) =>
                      some (Sum.inl ((r, ((some (⟨b, 0, (some 0)⟩ : Addr)), (some (⟨b1, 0, (some 0)⟩ : Addr)))), h35))) (
                      condK (x0 == 10) (
                        condK (x0 == 10) (
                          newO (row 171 [(.pointer (some (add (⟨b1, 0, (some 0)⟩ : Addr) 1)))]) h3 fun (b12 : Nat) (h36 : H) =>
                          bind2 (frame_reader_take r (⟨(some (⟨b12, 0, (some 0)⟩ : Addr)), 1, 1⟩ : Sl) h36) fun (_ : Unit) (h37 : H) =>
                          some (Sum.inl ((r, ((some (⟨b, 0, (some 0)⟩ : Addr)), (some (⟨b1, 0, (some 0)⟩ : Addr)))), h37))) (
                          some (Sum.inl ((r, ((some (⟨b, 0, (some 0)⟩ : Addr)), (some (⟨b1, 0, (some 0)⟩ : Addr)))), h3)))) (
                        condK (x0 == 11) (
                          newO (row 171 [(.pointer (some (add (⟨b1, 0, (some 0)⟩ : Addr) 1)))]) h3 fun (b13 : Nat) (h38 : H) =>
                          bind2 (frame_reader_take r (⟨(some (⟨b13, 0, (some 0)⟩ : Addr)), 1, 1⟩ : Sl) h38) fun (_ : Unit) (h39 : H) =>
                          some (Sum.inl ((r, ((some (⟨b, 0, (some 0)⟩ : Addr)), (some (⟨b1, 0, (some 0)⟩ : Addr)))), h39))) (
                          some (Sum.inl ((r, ((some (⟨b, 0, (some 0)⟩ : Addr)), (some (⟨b1, 0, (some 0)⟩ : Addr)))), h3)))))))))) (
            condK (x0 == 7) (
              newO (row 171 [(.pointer (some (add (⟨b1, 0, (some 0)⟩ : Addr) 1))), (.pointer (some (add (⟨b1, 0, (some 0)⟩ : Addr) 3)))]) h3 fun (b14 : Nat) (h40 : H) =>
              bind2 (frame_reader_take r (⟨(some (⟨b14, 0, (some 0)⟩ : Addr)), 2, 2⟩ : Sl) h40) fun (_ : Unit) (h41 : H) =>
              some (Sum.inl ((r, ((some (⟨b, 0, (some 0)⟩ : Addr)), (some (⟨b1, 0, (some 0)⟩ : Addr)))), h41))) (
              condK (x0 == 6) (
                condK (x0 == 6) (
                  newO (row 171 [(.pointer (some (add (⟨b1, 0, (some 0)⟩ : Addr) 3)))]) h3 fun (b15 : Nat) (h42 : H) =>
                  bind2 (frame_reader_take r (⟨(some (⟨b15, 0, (some 0)⟩ : Addr)), 1, 1⟩ : Sl) h42) fun (_ : Unit) (h43 : H) =>
                  some (Sum.inl ((r, ((some (⟨b, 0, (some 0)⟩ : Addr)), (some (⟨b1, 0, (some 0)⟩ : Addr)))), h43))) (
                  condK (x0 == 8) (
                    newO (row 171 [(.pointer (some (add (⟨b1, 0, (some 0)⟩ : Addr) 3)))]) h3 fun (b16 : Nat) (h44 : H) =>
                    bind2 (frame_reader_take r (⟨(some (⟨b16, 0, (some 0)⟩ : Addr)), 1, 1⟩ : Sl) h44) fun (_ : Unit) (h45 : H) =>
                    bind2 (frame_reader_flag r h45) fun (x8 : Bool) (h46 : H) =>
                    bindO (st1 h46 (add (⟨b1, 0, (some 0)⟩ : Addr) 6) (.bool x8)) fun (h47 : H) =>
                    some (Sum.inl ((r, ((some (⟨b, 0, (some 0)⟩ : Addr)), (some (⟨b1, 0, (some 0)⟩ : Addr)))), h47))) (
                    condK (x0 == 9) (
                      bind2 (frame_reader_data r h3) fun (x9 : Sl) (h48 : H) =>
                      bindO (st1 h48 (add (⟨b1, 0, (some 0)⟩ : Addr) 7) (.slice x9.base x9.len x9.cap)) fun (h49 : H) =>
                      some (Sum.inl ((r, ((some (⟨b, 0, (some 0)⟩ : Addr)), (some (⟨b1, 0, (some 0)⟩ : Addr)))), h49))) (
                      condK (x0 == 10) (
                        condK (x0 == 10) (
                          newO (row 171 [(.pointer (some (add (⟨b1, 0, (some 0)⟩ : Addr) 1)))]) h3 fun (b17 : Nat) (h50 : H) =>
                          bind2 (frame_reader_take r (⟨(some (⟨b17, 0, (some 0)⟩ : Addr)), 1, 1⟩ : Sl) h50) fun (_ : Unit) (h51 : H) =>
                          some (Sum.inl ((r, ((some (⟨b, 0, (some 0)⟩ : Addr)), (some (⟨b1, 0, (some 0)⟩ : Addr)))), h51))) (
                          some (Sum.inl ((r, ((some (⟨b, 0, (some 0)⟩ : Addr)), (some (⟨b1, 0, (some 0)⟩ : Addr)))), h3)))) (
                        condK (x0 == 11) (
                          newO (row 171 [(.pointer (some (add (⟨b1, 0, (some 0)⟩ : Addr) 1)))]) h3 fun (b18 : Nat) (h52 : H) =>
                          bind2 (frame_reader_take r (⟨(some (⟨b18, 0, (some 0)⟩ : Addr)), 1, 1⟩ : Sl) h52) fun (_ : Unit) (h53 : H) =>
                          some (Sum.inl ((r, ((some (⟨b, 0, (some 0)⟩ : Addr)), (some (⟨b1, 0, (some 0)⟩ : Addr)))), h53))) (
                          some (Sum.inl ((r, ((some (⟨b, 0, (some 0)⟩ : Addr)), (some (⟨b1, 0, (some 0)⟩ : Addr)))), h3)))))))) (
                condK (x0 == 12) (
                  newO (row 171 [(.pointer (some (add (⟨b1, 0, (some 0)⟩ : Addr) 3)))]) h3 fun (b19 : Nat) (h54 : H) =>
                  bind2 (frame_reader_take r (⟨(some (⟨b19, 0, (some 0)⟩ : Addr)), 1, 1⟩ : Sl) h54) fun (_ : Unit) (h55 : H) =>
                  some (Sum.inl ((r, ((some (⟨b, 0, (some 0)⟩ : Addr)), (some (⟨b1, 0, (some 0)⟩ : Addr)))), h55))) (
                  condK (x0 == 8) (
                    newO (row 171 [(.pointer (some (add (⟨b1, 0, (some 0)⟩ : Addr) 3)))]) h3 fun (b20 : Nat) (h56 : H) =>
                    bind2 (frame_reader_take r (⟨(some (⟨b20, 0, (some 0)⟩ : Addr)), 1, 1⟩ : Sl) h56) fun (_ : Unit) (h57 : H) =>
                    bind2 (frame_reader_flag r h57) fun (x10 : Bool) (h58 : H) =>
                    bindO (st1 h58 (add (⟨b1, 0, (some 0)⟩ : Addr) 6) (.bool x10)) fun (h59 : H) =>
                    some (Sum.inl ((r, ((some (⟨b, 0, (some 0)⟩ : Addr)), (some (⟨b1, 0, (some 0)⟩ : Addr)))), h59))) (
                    condK (x0 == 9) (
                      bind2 (frame_reader_data r h3) fun (x11 : Sl) (h60 : H) =>
                      bindO (st1 h60 (add (⟨b1, 0, (some 0)⟩ : Addr) 7) (.slice x11.base x11.len x11.cap)) fun (h61 : H) =>
                      some (Sum.inl ((r, ((some (⟨b, 0, (some 0)⟩ : Addr)), (some (⟨b1, 0, (some 0)⟩ : Addr)))), h61))) (
                      condK (x0 == 10) (
                        condK (x0 == 10) (
                          newO (row 171 [(.pointer (some (add (⟨b1, 0, (some 0)⟩ : Addr) 1)))]) h3 fun (b21 : Nat) (h62 : H) =>
                          bind2 (frame_reader_take r (⟨(some (⟨b21, 0, (some 0)⟩ : Addr)), 1, 1⟩ : Sl) h62) fun (_ : Unit) (h63 : H) =>
                          some (Sum.inl ((r, ((some (⟨b, 0, (some 0)⟩ : Addr)), (some (⟨b1, 0, (some 0)⟩ : Addr)))), h63))) (
                          some (Sum.inl ((r, ((some (⟨b, 0, (some 0)⟩ : Addr)), (some (⟨b1, 0, (some 0)⟩ : Addr)))), h3)))) (
                        condK (x0 == 11) (
                          newO (row 171 [(.pointer (some (add (⟨b1, 0, (some 0)⟩ : Addr) 1)))]) h3 fun (b22 : Nat) (h64 : H) =>
                          bind2 (frame_reader_take r (⟨(some (⟨b22, 0, (some 0)⟩ : Addr)), 1, 1⟩ : Sl) h64) fun (_ : Unit) (h65 : H) =>
                          some (Sum.inl ((r, ((some (⟨b, 0, (some 0)⟩ : Addr)), (some (⟨b1, 0, (some 0)⟩ : Addr)))), h65))) (
                          some (Sum.inl ((r, ((some (⟨b, 0, (some 0)⟩ : Addr)), (some (⟨b1, 0, (some 0)⟩ : Addr)))), h3)))))))))))))) fun (((r1, (x0, f)), h4) : (((Option Addr) × ((Option Addr) × (Option Addr))) × H)) =>
  joinO (
    ptrK f fun (a0 : Addr) =>
    bindO (ldZ [.int .i64, .int .i64, .int .i64, .int .i64, .int .i64, .int .i64, .bool, .sl, .sl] h4 a0) fun ((x1, x2, x3, x4, x5, x6, x7, x8, x9) : Int × Int × Int × Int × Int × Int × Bool × Sl × Sl) =>
    bind2 (frame_Right (x1, x2, x3, x4, x5, x6, x7, x8, x9) h4) fun (x10 : Bool) (h5 : H) =>
    condK (!x10) (
      bind2 (frame_reader_fail r1 2 h5) fun (_ : Unit) (h6 : H) =>
      some (Sum.inl ((x0, f), h6))) (
      some (Sum.inl ((x0, f), h5)))) fun (((x1, f1), h5) : (((Option Addr) × (Option Addr)) × H)) =>
  ptrK f1 fun (a0 : Addr) =>
  bindO (ldZ [.int .i64, .int .i64, .int .i64, .int .i64, .int .i64, .int .i64, .bool, .sl, .sl] h5 a0) fun ((x2, x3, x4, x5, x6, x7, x8, x9, x10) : Int × Int × Int × Int × Int × Int × Bool × Sl × Sl) =>
  ptrK x1 fun (a1 : Addr) =>
  bindO (stZ [.int .i64, .int .i64, .int .i64, .int .i64, .int .i64, .int .i64, .bool, .sl, .sl] h5 a1 ((x2, x3, x4, x5, x6, x7, x8, x9, x10) : Int × Int × Int × Int × Int × Int × Bool × Sl × Sl)) fun (h6 : H) =>
  ptrK x1 fun (a2 : Addr) =>
  bindO (ldZ [.int .i64, .int .i64, .int .i64, .int .i64, .int .i64, .int .i64, .bool, .sl, .sl] h6 a2) fun ((x11, x12, x13, x14, x15, x16, x17, x18, x19) : Int × Int × Int × Int × Int × Int × Bool × Sl × Sl) =>
  some ((x11, (x12, (x13, (x14, (x15, (x16, (x17, (x18, x19)))))))), h6)
noncomputable def frame_reader_frame : Option Addr → H → Option (((Int × Int × Int × Int × Int × Int × Bool × Sl × Sl)) × H) := P.frame_reader_frame frame_reader_take frame_reader_spans frame_reader_flag frame_reader_data frame_Right frame_reader_fail
noncomputable def ann_112 : Ann := ⟨fun i => bif i.beq 26 then some ⟨[0, 2, 3], [⟨false, [.ptr]⟩, ⟨false, [.ptr]⟩, ⟨false, [.ptr]⟩]⟩ else bif i.beq 28 then some ⟨[2, 3], [⟨false, [.ptr]⟩, ⟨false, [.ptr]⟩]⟩ else none, fun _ => none, fun _ => none⟩
noncomputable def E_112 : Ent := ⟨112, [⟨false, [.ptr]⟩], [⟨true, [.int .i64, .int .i64, .int .i64, .int .i64, .int .i64, .int .i64, .bool, .sl, .sl]⟩], fun (x : Option Addr) h => frame_reader_frame x h⟩
theorem eq_112 (frame_reader_take : Option Addr → Sl → H → Option ((Unit) × H)) (frame_reader_spans : Option Addr → H → Option ((Sl) × H)) (frame_reader_flag : Option Addr → H → Option ((Bool) × H)) (frame_reader_data : Option Addr → H → Option ((Sl) × H)) (frame_Right : (Int × Int × Int × Int × Int × Int × Bool × Sl × Sl) → H → Option ((Bool) × H)) (frame_reader_fail : Option Addr → Int → H → Option ((Unit) × H)) : (fun (x : PT E_112.ps) (h : H) => runFK Go.Proofs.Ythiccnmplgdheaa.Tab.D (lstK [⟨157, [⟨false, [.ptr]⟩, ⟨false, [.sl]⟩], [], fun (x : Option Addr × Sl) h => frame_reader_take x.1 x.2 h⟩, ⟨158, [⟨false, [.ptr]⟩], [⟨false, [.sl]⟩], fun (x : Option Addr) h => frame_reader_spans x h⟩, ⟨159, [⟨false, [.ptr]⟩], [⟨false, [.bool]⟩], fun (x : Option Addr) h => frame_reader_flag x h⟩, ⟨160, [⟨false, [.ptr]⟩], [⟨false, [.sl]⟩], fun (x : Option Addr) h => frame_reader_data x h⟩, ⟨27, [⟨true, [.int .i64, .int .i64, .int .i64, .int .i64, .int .i64, .int .i64, .bool, .sl, .sl]⟩], [⟨false, [.bool]⟩], fun (x : (Int × Int × Int × Int × Int × Int × Bool × Sl × Sl)) h => frame_Right x h⟩, ⟨161, [⟨false, [.ptr]⟩, ⟨false, [.int .i64]⟩], [], fun (x : Option Addr × Int) h => frame_reader_fail x.1 x.2 h⟩]) ann_112 Try.f112 (Try.f112.body.getD .skip) E_112.ys (encP E_112.ps x) h) = (fun (x : Option Addr) h => P.frame_reader_frame frame_reader_take frame_reader_spans frame_reader_flag frame_reader_data frame_Right frame_reader_fail x h) := by kernel_rfl
theorem ok_112 : E_112.ok Go.Proofs.Ythiccnmplgdheaa.Tab.D := fun x h y h' e => runFK_ok (lstK_ok [E_157, E_158, E_159, E_160, E_27, E_161] (List.forall_mem_cons.2 ⟨ok_157, List.forall_mem_cons.2 ⟨ok_158, List.forall_mem_cons.2 ⟨ok_159, List.forall_mem_cons.2 ⟨ok_160, List.forall_mem_cons.2 ⟨ok_27, List.forall_mem_cons.2 ⟨ok_161, fun E h => nomatch h⟩⟩⟩⟩⟩⟩)) (A := ann_112) (by kernel_rfl) (show Go.Proofs.Ythiccnmplgdheaa.Tab.D.fn.get 112 = some Try.f112 by kernel_rfl) (show Try.f112.body = some (Try.f112.body.getD .skip) by kernel_rfl) ((congrFun (congrFun (eq_112 frame_reader_take frame_reader_spans frame_reader_flag frame_reader_data frame_Right frame_reader_fail) x) h).trans e)
/-! slices_Clip_api_Frame_api_Frame -/
noncomputable def slices_Clip_api_Frame_api_Frame (s : Sl) (h : H) : Option (Sl × H) :=
  bindO (slT 9 h s none (some ((s.len : Nat) : Int)) (some ((s.len : Nat) : Int))) fun (x0 : Sl) =>
  some (x0, h)
noncomputable def ann_113 : Ann := ⟨fun _ => none, fun _ => none, fun _ => none⟩
noncomputable def E_113 : Ent := ⟨113, [⟨false, [.sl]⟩], [⟨false, [.sl]⟩], fun (x : Sl) h => slices_Clip_api_Frame_api_Frame x h⟩
theorem eq_113  : (fun (x : PT E_113.ps) (h : H) => runFK Go.Proofs.Ythiccnmplgdheaa.Tab.D (lstK []) ann_113 Try.f113 (Try.f113.body.getD .skip) E_113.ys (encP E_113.ps x) h) = (fun (x : Sl) h => slices_Clip_api_Frame_api_Frame x h) := by kernel_rfl
theorem ok_113 : E_113.ok Go.Proofs.Ythiccnmplgdheaa.Tab.D := fun x h y h' e => runFK_ok (lstK_ok [] (fun E h => nomatch h)) (A := ann_113) (by kernel_rfl) (show Go.Proofs.Ythiccnmplgdheaa.Tab.D.fn.get 113 = some Try.f113 by kernel_rfl) (show Try.f113.body = some (Try.f113.body.getD .skip) by kernel_rfl) ((congrFun (congrFun (eq_113 ) x) h).trans e)
/-! frame_Read -/
noncomputable def P.frame_Read_l1 (frame_reader_frame : Option Addr → H → Option (((Int × Int × Int × Int × Int × Int × Bool × Sl × Sl)) × H)) (slices_Clip_api_Frame_api_Frame : Sl → H → Option ((Sl) × H)) : (((Option Addr) × Sl) × H) → Option ((((Option Addr) × Sl) × H) ⊕ ((Sl × H) ⊕ ((Sl × Int) × H))) := fun ((r, out), h0) =>
  ptrK r fun (a0 : Addr) =>
  bindO (ldL h0 (add a0 0)) fun (x0 : Sl) =>
  condK (decide ((((x0.len : Nat) : Int) > 0))) (
    bind2 (frame_reader_frame r h0) fun ((x1, x2, x3, x4, x5, x6, x7, x8, x9) : Int × Int × Int × Int × Int × Int × Bool × Sl × Sl) (h1 : H) =>
    newO (row 33 [(.int .i64 0), (.int .i64 0), (.int .i64 0), (.int .i64 0), (.int .i64 0), (.int .i64 0), (.bool false), (.slice none 0 0), (.slice none 0 0)]) h1 fun (b : Nat) (h2 : H) =>
    bindO (stZ [.int .i64, .int .i64, .int .i64, .int .i64, .int .i64, .int .i64, .bool, .sl, .sl] h2 (⟨b, 0, (some 0)⟩ : Addr) ((x1, x2, x3, x4, x5, x6, x7, x8, x9) : Int × Int × Int × Int × Int × Int × Bool × Sl × Sl)) fun (h3 : H) =>
    ptrK r fun (a1 : Addr) =>
    bindO (ldI .i64 h3 (add a1 1)) fun (x10 : Int) =>
    condK (x10 != 0) (
      ptrK r fun (a2 : Addr) =>
      bindO (ldI .i64 h3 (add a2 1)) fun (x11 : Int) =>
      some (Sum.inr (Sum.inr (((⟨none, 0, 0⟩ : Sl), x11), h3)))) (
      bindO (ldZ [.int .i64, .int .i64, .int .i64, .int .i64, .int .i64, .int .i64, .bool, .sl, .sl] h3 (⟨b, 0, (some 0)⟩ : Addr)) fun ((x12, x13, x14, x15, x16, x17, x18, x19, x20) : Int × Int × Int × Int × Int × Int × Bool × Sl × Sl) =>
      newO (row 33 [(.int .i64 x12), (.int .i64 x13), (.int .i64 x14), (.int .i64 x15), (.int .i64 x16), (.int .i64 x17), (.bool x18), (.slice x19.base x19.len x19.cap), (.slice x20.base x20.len x20.cap)]) h3 fun (b1 : Nat) (h4 : H) =>
      bind2 (appT 33 9 104 h4 out (⟨(some (⟨b1, 0, (some 0)⟩ : Addr)), 1, 1⟩ : Sl)) fun (x21 : Sl) (h5 : H) =>
      some (Sum.inl ((r, x21), h5)))) (
    some (Sum.inr (Sum.inl (out, h0))))

noncomputable def P.frame_Read (frame_reader_frame : Option Addr → H → Option (((Int × Int × Int × Int × Int × Int × Bool × Sl × Sl)) × H)) (slices_Clip_api_Frame_api_Frame : Sl → H → Option ((Sl) × H)) (b : Sl) (h : H) : Option ((Sl × Int) × H) :=
  newO (row 138 [(.slice b.base b.len b.cap), (.int .i64 0)]) h fun (b1 : Nat) (h0 : H) =>
  joinO (
    loopO (P.frame_Read_l1 frame_reader_frame slices_Clip_api_Frame_api_Frame) (((some (⟨b1, 0, (some 0)⟩ : Addr)), (⟨none, 0, 0⟩ : Sl)), h0)) fun ((out, h1) : (Sl × H)) =>
  bind2 (slices_Clip_api_Frame_api_Frame out h1) fun (x0 : Sl) (h2 : H) =>
  some ((x0, 0), h2)
noncomputable abbrev frame_Read_l1 := P.frame_Read_l1 frame_reader_frame slices_Clip_api_Frame_api_Frame
noncomputable def frame_Read : Sl → H → Option ((Sl × Int) × H) := P.frame_Read frame_reader_frame slices_Clip_api_Frame_api_Frame
noncomputable def ann_56 : Ann := ⟨fun i => bif i.beq 8 then some ⟨[5], [⟨false, [.sl]⟩]⟩ else none, fun i => bif i.beq 3 then some ⟨[4, 5], [⟨false, [.ptr]⟩, ⟨false, [.sl]⟩]⟩ else none, fun _ => none⟩
noncomputable def E_56 : Ent := ⟨56, [⟨false, [.sl]⟩], [⟨false, [.sl]⟩, ⟨false, [.int .i64]⟩], fun (x : Sl) h => frame_Read x h⟩
theorem eq_56 (frame_reader_frame : Option Addr → H → Option (((Int × Int × Int × Int × Int × Int × Bool × Sl × Sl)) × H)) (slices_Clip_api_Frame_api_Frame : Sl → H → Option ((Sl) × H)) : (fun (x : PT E_56.ps) (h : H) => runFK Go.Proofs.Ythiccnmplgdheaa.Tab.D (lstK [⟨112, [⟨false, [.ptr]⟩], [⟨true, [.int .i64, .int .i64, .int .i64, .int .i64, .int .i64, .int .i64, .bool, .sl, .sl]⟩], fun (x : Option Addr) h => frame_reader_frame x h⟩, ⟨113, [⟨false, [.sl]⟩], [⟨false, [.sl]⟩], fun (x : Sl) h => slices_Clip_api_Frame_api_Frame x h⟩]) ann_56 Try.f56 (Try.f56.body.getD .skip) E_56.ys (encP E_56.ps x) h) = (fun (x : Sl) h => P.frame_Read frame_reader_frame slices_Clip_api_Frame_api_Frame x h) := by kernel_rfl
theorem ok_56 : E_56.ok Go.Proofs.Ythiccnmplgdheaa.Tab.D := fun x h y h' e => runFK_ok (lstK_ok [E_112, E_113] (List.forall_mem_cons.2 ⟨ok_112, List.forall_mem_cons.2 ⟨ok_113, fun E h => nomatch h⟩⟩)) (A := ann_56) (by kernel_rfl) (show Go.Proofs.Ythiccnmplgdheaa.Tab.D.fn.get 56 = some Try.f56 by kernel_rfl) (show Try.f56.body = some (Try.f56.body.getD .skip) by kernel_rfl) ((congrFun (congrFun (eq_56 frame_reader_frame slices_Clip_api_Frame_api_Frame) x) h).trans e)
/-! pnum_within -/
noncomputable def pnum_within (n : Int) (low : Int) (high : Int) (h : H) : Option (Int × H) :=
  letO ((if ((if (high < n) then high else n) > low) then (if (high < n) then high else n) else low)) fun (x0 : Int) =>
  some (x0, h)
noncomputable def ann_171 : Ann := ⟨fun _ => none, fun _ => none, fun _ => none⟩
noncomputable def E_171 : Ent := ⟨171, [⟨false, [.int .i64]⟩, ⟨false, [.int .i64]⟩, ⟨false, [.int .i64]⟩], [⟨false, [.int .i64]⟩], fun (x : Int × Int × Int) h => pnum_within x.1 x.2.1 x.2.2 h⟩
theorem eq_171  : (fun (x : PT E_171.ps) (h : H) => runFK Go.Proofs.Ythiccnmplgdheaa.Tab.D (lstK []) ann_171 Try.f171 (Try.f171.body.getD .skip) E_171.ys (encP E_171.ps x) h) = (fun (x : Int × Int × Int) h => pnum_within x.1 x.2.1 x.2.2 h) := by kernel_rfl
theorem ok_171 : E_171.ok Go.Proofs.Ythiccnmplgdheaa.Tab.D := fun x h y h' e => runFK_ok (lstK_ok [] (fun E h => nomatch h)) (A := ann_171) (by kernel_rfl) (show Go.Proofs.Ythiccnmplgdheaa.Tab.D.fn.get 171 = some Try.f171 by kernel_rfl) (show Try.f171.body = some (Try.f171.body.getD .skip) by kernel_rfl) ((congrFun (congrFun (eq_171 ) x) h).trans e)
/-! pnum_span -/
noncomputable def P.pnum_span (pnum_within : Int → Int → Int → H → Option ((Int) × H)) (k : Int) (h : H) : Option (Int × H) :=
  bind2 (pnum_within k 1 4 h) fun (x0 : Int) (h0 : H) =>
  bindO (shlT .i64 1 .i64 (IntKind.wrap .i64 (8 * x0))) fun (x1 : Int) =>
  some (x1, h0)
noncomputable def pnum_span : Int → H → Option ((Int) × H) := P.pnum_span pnum_within
noncomputable def ann_168 : Ann := ⟨fun _ => none, fun _ => none, fun _ => none⟩
noncomputable def E_168 : Ent := ⟨168, [⟨false, [.int .i64]⟩], [⟨false, [.int .i64]⟩], fun (x : Int) h => pnum_span x h⟩
theorem eq_168 (pnum_within : Int → Int → Int → H → Option ((Int) × H)) : (fun (x : PT E_168.ps) (h : H) => runFK Go.Proofs.Ythiccnmplgdheaa.Tab.D (lstK [⟨171, [⟨false, [.int .i64]⟩, ⟨false, [.int .i64]⟩, ⟨false, [.int .i64]⟩], [⟨false, [.int .i64]⟩], fun (x : Int × Int × Int) h => pnum_within x.1 x.2.1 x.2.2 h⟩]) ann_168 Try.f168 (Try.f168.body.getD .skip) E_168.ys (encP E_168.ps x) h) = (fun (x : Int) h => P.pnum_span pnum_within x h) := by kernel_rfl
theorem ok_168 : E_168.ok Go.Proofs.Ythiccnmplgdheaa.Tab.D := fun x h y h' e => runFK_ok (lstK_ok [E_171] (List.forall_mem_cons.2 ⟨ok_171, fun E h => nomatch h⟩)) (A := ann_168) (by kernel_rfl) (show Go.Proofs.Ythiccnmplgdheaa.Tab.D.fn.get 168 = some Try.f168 by kernel_rfl) (show Try.f168.body = some (Try.f168.body.getD .skip) by kernel_rfl) ((congrFun (congrFun (eq_168 pnum_within) x) h).trans e)
/-! pnum_Bytes -/
noncomputable def P.pnum_Bytes_l1 (pnum_span : Int → H → Option ((Int) × H)) : ((Int × (Int × Int)) × H) → Option (((Int × (Int × Int)) × H) ⊕ (Int × H)) := fun ((n, (acked, k)), h0) =>
  condK (decide ((k < 4))) (
    joinO (
      condK (decide ((n ≤ acked))) (
        some (Sum.inl ((n, (acked, (k, true))), h0))) (
        letO ((IntKind.wrap .u64 ((IntKind.wrap .u64 n) - (IntKind.wrap .u64 acked)))) fun (x0 : Int) =>
        bind2 (pnum_span k h0) fun (x1 : Int) (h1 : H) =>
        letO ((decide ((x0 ≤ (IntKind.wrap .u64 (IntKind.wrap .i64 (Int.tdiv x1 2))))))) fun (x2 : Bool) =>
        some (Sum.inl ((n, (acked, (k, x2))), h1)))) fun (((n1, (acked1, (k1, x0))), h1) : ((Int × (Int × (Int × Bool))) × H)) =>
    condK x0 (
      some (Sum.inr (k1, h1))) (
      some (Sum.inl ((n1, (acked1, (IntKind.wrap .i64 (k1 + 1)))), h1)))) (
    some (Sum.inr (4, h0)))

noncomputable def P.pnum_Bytes (pnum_span : Int → H → Option ((Int) × H)) (n : Int) (acked : Int) (h : H) : Option (Int × H) :=
  loopO (P.pnum_Bytes_l1 pnum_span) ((n, (acked, 1)), h)
noncomputable abbrev pnum_Bytes_l1 := P.pnum_Bytes_l1 pnum_span
noncomputable def pnum_Bytes : Int → Int → H → Option ((Int) × H) := P.pnum_Bytes pnum_span
noncomputable def ann_125 : Ann := ⟨fun _ => none, fun i => bif i.beq 2 then some ⟨[0, 1, 5], [⟨false, [.int .i64]⟩, ⟨false, [.int .i64]⟩, ⟨false, [.int .i64]⟩]⟩ else none, fun i => bif i.beq 4 then some ⟨[0, 1, 5, 24], [⟨false, [.int .i64]⟩, ⟨false, [.int .i64]⟩, ⟨false, [.int .i64]⟩, ⟨false, [.bool]⟩]⟩ else none⟩
noncomputable def E_125 : Ent := ⟨125, [⟨false, [.int .i64]⟩, ⟨false, [.int .i64]⟩], [⟨false, [.int .i64]⟩], fun (x : Int × Int) h => pnum_Bytes x.1 x.2 h⟩
theorem eq_125 (pnum_span : Int → H → Option ((Int) × H)) : (fun (x : PT E_125.ps) (h : H) => runFK Go.Proofs.Ythiccnmplgdheaa.Tab.D (lstK [⟨168, [⟨false, [.int .i64]⟩], [⟨false, [.int .i64]⟩], fun (x : Int) h => pnum_span x h⟩]) ann_125 Try.f125 (Try.f125.body.getD .skip) E_125.ys (encP E_125.ps x) h) = (fun (x : Int × Int) h => P.pnum_Bytes pnum_span x.1 x.2 h) := by kernel_rfl
theorem ok_125 : E_125.ok Go.Proofs.Ythiccnmplgdheaa.Tab.D := fun x h y h' e => runFK_ok (lstK_ok [E_168] (List.forall_mem_cons.2 ⟨ok_168, fun E h => nomatch h⟩)) (A := ann_125) (by kernel_rfl) (show Go.Proofs.Ythiccnmplgdheaa.Tab.D.fn.get 125 = some Try.f125 by kernel_rfl) (show Try.f125.body = some (Try.f125.body.getD .skip) by kernel_rfl) ((congrFun (congrFun (eq_125 pnum_span) x) h).trans e)
/-! pnum_rest -/
noncomputable def pnum_rest (n : Int) (by' : Int) (h : H) : Option (Int × H) :=
  bindO (remT .i64 n by') fun (x0 : Int) =>
  joinO (
    condK (decide ((x0 < 0))) (
      some (Sum.inl ((IntKind.wrap .i64 (x0 + by')), h))) (
      some (Sum.inl (x0, h)))) fun ((n1, h0) : (Int × H)) =>
  some (n1, h0)
noncomputable def ann_172 : Ann := ⟨fun i => bif i.beq 4 then some ⟨[0], [⟨false, [.int .i64]⟩]⟩ else none, fun _ => none, fun _ => none⟩
noncomputable def E_172 : Ent := ⟨172, [⟨false, [.int .i64]⟩, ⟨false, [.int .i64]⟩], [⟨false, [.int .i64]⟩], fun (x : Int × Int) h => pnum_rest x.1 x.2 h⟩
theorem eq_172  : (fun (x : PT E_172.ps) (h : H) => runFK Go.Proofs.Ythiccnmplgdheaa.Tab.D (lstK []) ann_172 Try.f172 (Try.f172.body.getD .skip) E_172.ys (encP E_172.ps x) h) = (fun (x : Int × Int) h => pnum_rest x.1 x.2 h) := by kernel_rfl
theorem ok_172 : E_172.ok Go.Proofs.Ythiccnmplgdheaa.Tab.D := fun x h y h' e => runFK_ok (lstK_ok [] (fun E h => nomatch h)) (A := ann_172) (by kernel_rfl) (show Go.Proofs.Ythiccnmplgdheaa.Tab.D.fn.get 172 = some Try.f172 by kernel_rfl) (show Try.f172.body = some (Try.f172.body.getD .skip) by kernel_rfl) ((congrFun (congrFun (eq_172 ) x) h).trans e)
/-! pnum_Cut -/
noncomputable def P.pnum_Cut (pnum_span : Int → H → Option ((Int) × H)) (pnum_rest : Int → Int → H → Option ((Int) × H)) (n : Int) (k : Int) (h : H) : Option (Int × H) :=
  bind2 (pnum_span k h) fun (x0 : Int) (h0 : H) =>
  bind2 (pnum_rest n x0 h0) fun (x1 : Int) (h1 : H) =>
  some (x1, h1)
noncomputable def pnum_Cut : Int → Int → H → Option ((Int) × H) := P.pnum_Cut pnum_span pnum_rest
noncomputable def ann_167 : Ann := ⟨fun _ => none, fun _ => none, fun _ => none⟩
noncomputable def E_167 : Ent := ⟨167, [⟨false, [.int .i64]⟩, ⟨false, [.int .i64]⟩], [⟨false, [.int .i64]⟩], fun (x : Int × Int) h => pnum_Cut x.1 x.2 h⟩
theorem eq_167 (pnum_span : Int → H → Option ((Int) × H)) (pnum_rest : Int → Int → H → Option ((Int) × H)) : (fun (x : PT E_167.ps) (h : H) => runFK Go.Proofs.Ythiccnmplgdheaa.Tab.D (lstK [⟨168, [⟨false, [.int .i64]⟩], [⟨false, [.int .i64]⟩], fun (x : Int) h => pnum_span x h⟩, ⟨172, [⟨false, [.int .i64]⟩, ⟨false, [.int .i64]⟩], [⟨false, [.int .i64]⟩], fun (x : Int × Int) h => pnum_rest x.1 x.2 h⟩]) ann_167 Try.f167 (Try.f167.body.getD .skip) E_167.ys (encP E_167.ps x) h) = (fun (x : Int × Int) h => P.pnum_Cut pnum_span pnum_rest x.1 x.2 h) := by kernel_rfl
theorem ok_167 : E_167.ok Go.Proofs.Ythiccnmplgdheaa.Tab.D := fun x h y h' e => runFK_ok (lstK_ok [E_168, E_172] (List.forall_mem_cons.2 ⟨ok_168, List.forall_mem_cons.2 ⟨ok_172, fun E h => nomatch h⟩⟩)) (A := ann_167) (by kernel_rfl) (show Go.Proofs.Ythiccnmplgdheaa.Tab.D.fn.get 167 = some Try.f167 by kernel_rfl) (show Try.f167.body = some (Try.f167.body.getD .skip) by kernel_rfl) ((congrFun (congrFun (eq_167 pnum_span pnum_rest) x) h).trans e)
/-! packet_headOf -/
noncomputable def P.packet_headOf_l1 (pnum_Cut : Int → Int → H → Option ((Int) × H)) : ((Sl × (Int × Int)) × H) → Option (((Sl × (Int × Int)) × H) ⊕ ((Sl × H) ⊕ (Sl × H))) := fun ((out, (cut, at')), h0) =>
  condK (decide ((at' ≥ 0))) (
    bindO (shrT .i64 cut .i64 at') fun (x0 : Int) =>
    newO (row 5 [(.int .u8 (IntKind.wrap .u8 x0))]) h0 fun (b : Nat) (h1 : H) =>
    bind2 (appT 5 1 1 h1 out (⟨(some (⟨b, 0, (some 0)⟩ : Addr)), 1, 1⟩ : Sl)) fun (x1 : Sl) (h2 : H) =>
    some (Sum.inl ((x1, (cut, (IntKind.wrap .i64 (at' - 8)))), h2))) (
    some (Sum.inr (Sum.inl (out, h0))))

noncomputable def P.packet_headOf (pnum_Cut : Int → Int → H → Option ((Int) × H)) (num : Int) (k : Int) (h : H) : Option (Sl × H) :=
  letO ((IntKind.wrap .u8 (IntKind.wrap .i64 ((IntKind.wrap .i64 (64 + k)) - 1)))) fun (x0 : Int) =>
  newO (row 5 [(.int .u8 x0)]) h fun (b : Nat) (h0 : H) =>
  bind2 (pnum_Cut num k h0) fun (x1 : Int) (h1 : H) =>
  joinO (
    loopO (P.packet_headOf_l1 pnum_Cut) (((⟨(some (⟨b, 0, (some 0)⟩ : Addr)), 1, 1⟩ : Sl), (x1, (IntKind.wrap .i64 ((IntKind.wrap .i64 (8 * k)) - 8)))), h1)) fun ((out, h2) : (Sl × H)) =>
  some (out, h2)
noncomputable abbrev packet_headOf_l1 := P.packet_headOf_l1 pnum_Cut
noncomputable def packet_headOf : Int → Int → H → Option ((Sl) × H) := P.packet_headOf pnum_Cut
noncomputable def ann_124 : Ann := ⟨fun i => bif i.beq 7 then some ⟨[5], [⟨false, [.sl]⟩]⟩ else none, fun i => bif i.beq 4 then some ⟨[5, 6, 7], [⟨false, [.sl]⟩, ⟨false, [.int .i64]⟩, ⟨false, [.int .i64]⟩]⟩ else none, fun _ => none⟩
noncomputable def E_124 : Ent := ⟨124, [⟨false, [.int .i64]⟩, ⟨false, [.int .i64]⟩], [⟨false, [.sl]⟩], fun (x : Int × Int) h => packet_headOf x.1 x.2 h⟩
theorem eq_124 (pnum_Cut : Int → Int → H → Option ((Int) × H)) : (fun (x : PT E_124.ps) (h : H) => runFK Go.Proofs.Ythiccnmplgdheaa.Tab.D (lstK [⟨167, [⟨false, [.int .i64]⟩, ⟨false, [.int .i64]⟩], [⟨false, [.int .i64]⟩], fun (x : Int × Int) h => pnum_Cut x.1 x.2 h⟩]) ann_124 Try.f124 (Try.f124.body.getD .skip) E_124.ys (encP E_124.ps x) h) = (fun (x : Int × Int) h => P.packet_headOf pnum_Cut x.1 x.2 h) := by kernel_rfl
theorem ok_124 : E_124.ok Go.Proofs.Ythiccnmplgdheaa.Tab.D := fun x h y h' e => runFK_ok (lstK_ok [E_167] (List.forall_mem_cons.2 ⟨ok_167, fun E h => nomatch h⟩)) (A := ann_124) (by kernel_rfl) (show Go.Proofs.Ythiccnmplgdheaa.Tab.D.fn.get 124 = some Try.f124 by kernel_rfl) (show Try.f124.body = some (Try.f124.body.getD .skip) by kernel_rfl) ((congrFun (congrFun (eq_124 pnum_Cut) x) h).trans e)
/-! math_bits_RotateLeft64 -/
noncomputable def math_bits_RotateLeft64 (x0 : Int) (k : Int) (h : H) : Option (Int × H) :=
  letO ((IntKind.wrap .u64 (((BitVec.toNat ((BitVec.ofInt 64 (IntKind.wrap .u64 k)) &&& (BitVec.ofInt 64 63))) : Nat) : Int))) fun (x1 : Int) =>
  bindO (shlT .u64 x0 .u64 x1) fun (x2 : Int) =>
  bindO (shrT .u64 x0 .u64 (IntKind.wrap .u64 (64 - x1))) fun (x3 : Int) =>
  letO ((IntKind.wrap .u64 (((BitVec.toNat ((BitVec.ofInt 64 x2) ||| (BitVec.ofInt 64 x3))) : Nat) : Int))) fun (x4 : Int) =>
  some (x4, h)
noncomputable def ann_197 : Ann := ⟨fun _ => none, fun _ => none, fun _ => none⟩
noncomputable def E_197 : Ent := ⟨197, [⟨false, [.int .u64]⟩, ⟨false, [.int .i64]⟩], [⟨false, [.int .u64]⟩], fun (x : Int × Int) h => math_bits_RotateLeft64 x.1 x.2 h⟩
theorem eq_197  : (fun (x : PT E_197.ps) (h : H) => runFK Go.Proofs.Ythiccnmplgdheaa.Tab.D (lstK []) ann_197 Try.f197 (Try.f197.body.getD .skip) E_197.ys (encP E_197.ps x) h) = (fun (x : Int × Int) h => math_bits_RotateLeft64 x.1 x.2 h) := by kernel_rfl
theorem ok_197 : E_197.ok Go.Proofs.Ythiccnmplgdheaa.Tab.D := fun x h y h' e => runFK_ok (lstK_ok [] (fun E h => nomatch h)) (A := ann_197) (by kernel_rfl) (show Go.Proofs.Ythiccnmplgdheaa.Tab.D.fn.get 197 = some Try.f197 by kernel_rfl) (show Try.f197.body = some (Try.f197.body.getD .skip) by kernel_rfl) ((congrFun (congrFun (eq_197 ) x) h).trans e)
/-! seal_Step -/
noncomputable def P.seal_Step (math_bits_RotateLeft64 : Int → Int → H → Option ((Int) × H)) (h0 : Int) (c : Int) (h : H) : Option (Int × H) :=
  bind2 (math_bits_RotateLeft64 h0 13 h) fun (x0 : Int) (h1 : H) =>
  letO ((IntKind.wrap .u64 (((BitVec.toNat ((BitVec.ofInt 64 x0) ^^^ (BitVec.ofInt 64 c))) : Nat) : Int))) fun (x1 : Int) =>
  some ((IntKind.wrap .u64 (x1 * 15485907386658061715)), h1)
noncomputable def seal_Step : Int → Int → H → Option ((Int) × H) := P.seal_Step math_bits_RotateLeft64
noncomputable def ann_183 : Ann := ⟨fun _ => none, fun _ => none, fun _ => none⟩
noncomputable def E_183 : Ent := ⟨183, [⟨false, [.int .u64]⟩, ⟨false, [.int .u64]⟩], [⟨false, [.int .u64]⟩], fun (x : Int × Int) h => seal_Step x.1 x.2 h⟩
theorem eq_183 (math_bits_RotateLeft64 : Int → Int → H → Option ((Int) × H)) : (fun (x : PT E_183.ps) (h : H) => runFK Go.Proofs.Ythiccnmplgdheaa.Tab.D (lstK [⟨197, [⟨false, [.int .u64]⟩, ⟨false, [.int .i64]⟩], [⟨false, [.int .u64]⟩], fun (x : Int × Int) h => math_bits_RotateLeft64 x.1 x.2 h⟩]) ann_183 Try.f183 (Try.f183.body.getD .skip) E_183.ys (encP E_183.ps x) h) = (fun (x : Int × Int) h => P.seal_Step math_bits_RotateLeft64 x.1 x.2 h) := by kernel_rfl
theorem ok_183 : E_183.ok Go.Proofs.Ythiccnmplgdheaa.Tab.D := fun x h y h' e => runFK_ok (lstK_ok [E_197] (List.forall_mem_cons.2 ⟨ok_197, fun E h => nomatch h⟩)) (A := ann_183) (by kernel_rfl) (show Go.Proofs.Ythiccnmplgdheaa.Tab.D.fn.get 183 = some Try.f183 by kernel_rfl) (show Try.f183.body = some (Try.f183.body.getD .skip) by kernel_rfl) ((congrFun (congrFun (eq_183 math_bits_RotateLeft64) x) h).trans e)
/-! seal_Mask -/
noncomputable def P.seal_Mask_l1 (seal_Step : Int → Int → H → Option ((Int) × H)) (slices_Clone_byte : Sl → H → Option ((Sl) × H)) (slices_Clip_byte : Sl → H → Option ((Sl) × H)) : ((Int × (Sl × (Int × Int))) × H) → Option (((Int × (Sl × (Int × Int))) × H) ⊕ ((Sl × H) ⊕ (Sl × H))) := fun ((h0, (out, (x0, x1))), h1) =>
  condK (decide ((x1 < x0))) (
    bindO (ixT 1 out x1) fun (a0 : Addr) =>
    bindO (ldI .u8 h1 a0) fun (x2 : Int) =>
    bind2 (seal_Step h0 (IntKind.wrap .u64 x1) h1) fun (x3 : Int) (h2 : H) =>
    letO ((IntKind.wrap .u8 (((BitVec.toNat ((BitVec.ofInt 8 x2) ^^^ (BitVec.ofInt 8 (IntKind.wrap .u8 (Int.fdiv x3 4294967296))))) : Nat) : Int))) fun (x4 : Int) =>
    bindO (ixT 1 out x1) fun (a1 : Addr) =>
    bindO (st1 h2 a1 (.int .u8 x4)) fun (h3 : H) =>
    bindO (ldI .u8 h2 a0) fun (x5 : Int) =>
    condK (x5 == x2) (
      some (Sum.inl ((h0, (out, (x0, (IntKind.wrap .i64 (x1 + 1))))), h3))) none) (
    some (Sum.inr (Sum.inl (out, h1))))

noncomputable def P.seal_Mask (seal_Step : Int → Int → H → Option ((Int) × H)) (slices_Clone_byte : Sl → H → Option ((Sl) × H)) (slices_Clip_byte : Sl → H → Option ((Sl) × H)) (key : Int) (num : Int) (b : Sl) (h : H) : Option (Sl × H) :=
  bind2 (seal_Step key (IntKind.wrap .u64 num) h) fun (x0 : Int) (h0 : H) =>
  bind2 (slices_Clone_byte b h0) fun (x1 : Sl) (h1 : H) =>
  joinO (
    loopO (P.seal_Mask_l1 seal_Step slices_Clone_byte slices_Clip_byte) ((x0, (x1, (((x1.len : Nat) : Int), 0))), h1)) fun ((out, h2) : (Sl × H)) =>
  bind2 (slices_Clip_byte out h2) fun (x2 : Sl) (h3 : H) =>
  some (x2, h3)
noncomputable abbrev seal_Mask_l1 := P.seal_Mask_l1 seal_Step slices_Clone_byte slices_Clip_byte
noncomputable def seal_Mask : Int → Int → Sl → H → Option ((Sl) × H) := P.seal_Mask seal_Step slices_Clone_byte slices_Clip_byte
noncomputable def ann_169 : Ann := ⟨fun i => bif i.beq 8 then some ⟨[8], [⟨false, [.sl]⟩]⟩ else none, fun i => bif i.beq 4 then some ⟨[7, 8, 17, 18], [⟨false, [.int .u64]⟩, ⟨false, [.sl]⟩, ⟨false, [.int .i64]⟩, ⟨false, [.int .i64]⟩]⟩ else none, fun _ => none⟩
noncomputable def E_169 : Ent := ⟨169, [⟨false, [.int .u64]⟩, ⟨false, [.int .i64]⟩, ⟨false, [.sl]⟩], [⟨false, [.sl]⟩], fun (x : Int × Int × Sl) h => seal_Mask x.1 x.2.1 x.2.2 h⟩
theorem eq_169 (seal_Step : Int → Int → H → Option ((Int) × H)) (slices_Clone_byte : Sl → H → Option ((Sl) × H)) (slices_Clip_byte : Sl → H → Option ((Sl) × H)) : (fun (x : PT E_169.ps) (h : H) => runFK Go.Proofs.Ythiccnmplgdheaa.Tab.D (lstK [⟨183, [⟨false, [.int .u64]⟩, ⟨false, [.int .u64]⟩], [⟨false, [.int .u64]⟩], fun (x : Int × Int) h => seal_Step x.1 x.2 h⟩, ⟨98, [⟨false, [.sl]⟩], [⟨false, [.sl]⟩], fun (x : Sl) h => slices_Clone_byte x h⟩, ⟨97, [⟨false, [.sl]⟩], [⟨false, [.sl]⟩], fun (x : Sl) h => slices_Clip_byte x h⟩]) ann_169 Try.f169 (Try.f169.body.getD .skip) E_169.ys (encP E_169.ps x) h) = (fun (x : Int × Int × Sl) h => P.seal_Mask seal_Step slices_Clone_byte slices_Clip_byte x.1 x.2.1 x.2.2 h) := by kernel_rfl
theorem ok_169 : E_169.ok Go.Proofs.Ythiccnmplgdheaa.Tab.D := fun x h y h' e => runFK_ok (lstK_ok [E_183, E_98, E_97] (List.forall_mem_cons.2 ⟨ok_183, List.forall_mem_cons.2 ⟨ok_98, List.forall_mem_cons.2 ⟨ok_97, fun E h => nomatch h⟩⟩⟩)) (A := ann_169) (by kernel_rfl) (show Go.Proofs.Ythiccnmplgdheaa.Tab.D.fn.get 169 = some Try.f169 by kernel_rfl) (show Try.f169.body = some (Try.f169.body.getD .skip) by kernel_rfl) ((congrFun (congrFun (eq_169 seal_Step slices_Clone_byte slices_Clip_byte) x) h).trans e)
/-! seal_Tag -/
noncomputable def P.seal_Tag_l2 (seal_Step : Int → Int → H → Option ((Int) × H)) : ((Int × (Sl × (Sl × (Int × (Int × (Sl × (Int × Int))))))) × H) → Option (((Int × (Sl × (Sl × (Int × (Int × (Sl × (Int × Int))))))) × H) ⊕ (((Int × (Sl × (Sl × (Int × Int)))) × H) ⊕ (((Int × (Sl × (Int × Int))) × H) ⊕ (((Int × (Sl × (Int × Int))) × H) ⊕ ((Int × H) ⊕ (Int × H)))))) := fun ((key, (p, (x0, (x1, (x2, (x3, (x4, x5))))))), h0) =>
  condK (decide ((x5 < x4))) (
    bindO (ixT 1 x3 x5) fun (a0 : Addr) =>
    bindO (ldI .u8 h0 a0) fun (x6 : Int) =>
    bind2 (seal_Step key (IntKind.wrap .u64 x6) h0) fun (x7 : Int) (h1 : H) =>
    some (Sum.inl ((x7, (p, (x0, (x1, (x2, (x3, (x4, (IntKind.wrap .i64 (x5 + 1))))))))), h1))) (
    some (Sum.inr (Sum.inl ((key, (p, (x0, (x1, x2)))), h0))))

noncomputable def P.seal_Tag_l1 (seal_Step : Int → Int → H → Option ((Int) × H)) : ((Int × (Sl × (Int × Int))) × H) → Option (((Int × (Sl × (Int × Int))) × H) ⊕ ((Int × H) ⊕ (Int × H))) := fun ((key, (x0, (x1, x2))), h0) =>
  condK (decide ((x2 < x1))) (
    joinO (
      bindO (ixT 1 x0 x2) fun (a0 : Addr) =>
      bindO (ldL h0 a0) fun (x3 : Sl) =>
      joinO (
        loopO (P.seal_Tag_l2 seal_Step) ((key, (x3, (x0, (x1, (x2, (x3, (((x3.len : Nat) : Int), 0))))))), h0)) fun (((key1, (p, (x4, (x5, x6)))), h1) : ((Int × (Sl × (Sl × (Int × Int)))) × H)) =>
      bind2 (seal_Step key1 (IntKind.wrap .u64 (256 + (IntKind.wrap .u64 ((p.len : Nat) : Int)))) h1) fun (x7 : Int) (h2 : H) =>
      some (Sum.inl ((x7, (x4, (x5, x6))), h2))) fun (((key1, (x3, (x4, x5))), h1) : ((Int × (Sl × (Int × Int))) × H)) =>
    some (Sum.inl ((key1, (x3, (x4, (IntKind.wrap .i64 (x5 + 1))))), h1))) (
    some (Sum.inr (Sum.inl (key, h0))))

noncomputable def P.seal_Tag (seal_Step : Int → Int → H → Option ((Int) × H)) (key : Int) (parts : Sl) (h : H) : Option (Int × H) :=
  joinO (
    loopO (P.seal_Tag_l1 seal_Step) ((key, (parts, (((parts.len : Nat) : Int), 0))), h)) fun ((key1, h0) : (Int × H)) =>
  some (key1, h0)
noncomputable abbrev seal_Tag_l2 := P.seal_Tag_l2 seal_Step
noncomputable abbrev seal_Tag_l1 := P.seal_Tag_l1 seal_Step
noncomputable def seal_Tag : Int → Sl → H → Option ((Int) × H) := P.seal_Tag seal_Step
noncomputable def ann_184 : Ann := ⟨fun i => bif i.beq 9 then some ⟨[0, 6, 9, 10, 11], [⟨false, [.int .u64]⟩, ⟨false, [.sl]⟩, ⟨false, [.sl]⟩, ⟨false, [.int .i64]⟩, ⟨false, [.int .i64]⟩]⟩ else bif i.beq 10 then some ⟨[0, 9, 10, 11], [⟨false, [.int .u64]⟩, ⟨false, [.sl]⟩, ⟨false, [.int .i64]⟩, ⟨false, [.int .i64]⟩]⟩ else bif i.beq 11 then some ⟨[0], [⟨false, [.int .u64]⟩]⟩ else none, fun i => bif i.beq 2 then some ⟨[0, 9, 10, 11], [⟨false, [.int .u64]⟩, ⟨false, [.sl]⟩, ⟨false, [.int .i64]⟩, ⟨false, [.int .i64]⟩]⟩ else bif i.beq 5 then some ⟨[0, 6, 9, 10, 11, 15, 16, 17], [⟨false, [.int .u64]⟩, ⟨false, [.sl]⟩, ⟨false, [.sl]⟩, ⟨false, [.int .i64]⟩, ⟨false, [.int .i64]⟩, ⟨false, [.sl]⟩, ⟨false, [.int .i64]⟩, ⟨false, [.int .i64]⟩]⟩ else none, fun _ => none⟩
noncomputable def E_184 : Ent := ⟨184, [⟨false, [.int .u64]⟩, ⟨false, [.sl]⟩], [⟨false, [.int .u64]⟩], fun (x : Int × Sl) h => seal_Tag x.1 x.2 h⟩
theorem eq_184 (seal_Step : Int → Int → H → Option ((Int) × H)) : (fun (x : PT E_184.ps) (h : H) => runFK Go.Proofs.Ythiccnmplgdheaa.Tab.D (lstK [⟨183, [⟨false, [.int .u64]⟩, ⟨false, [.int .u64]⟩], [⟨false, [.int .u64]⟩], fun (x : Int × Int) h => seal_Step x.1 x.2 h⟩]) ann_184 Try.f184 (Try.f184.body.getD .skip) E_184.ys (encP E_184.ps x) h) = (fun (x : Int × Sl) h => P.seal_Tag seal_Step x.1 x.2 h) := by kernel_rfl
theorem ok_184 : E_184.ok Go.Proofs.Ythiccnmplgdheaa.Tab.D := fun x h y h' e => runFK_ok (lstK_ok [E_183] (List.forall_mem_cons.2 ⟨ok_183, fun E h => nomatch h⟩)) (A := ann_184) (by kernel_rfl) (show Go.Proofs.Ythiccnmplgdheaa.Tab.D.fn.get 184 = some Try.f184 by kernel_rfl) (show Try.f184.body = some (Try.f184.body.getD .skip) by kernel_rfl) ((congrFun (congrFun (eq_184 seal_Step) x) h).trans e)
/-! seal_tag -/
noncomputable def P.seal_tag_l1 (seal_Step : Int → Int → H → Option ((Int) × H)) (seal_Tag : Int → Sl → H → Option ((Int) × H)) : ((Int × (Sl × Int)) × H) → Option (((Int × (Sl × Int)) × H) ⊕ ((Sl × H) ⊕ (Sl × H))) := fun ((sum, (out, at')), h0) =>
  condK (decide ((at' ≥ 0))) (
    bindO (shrT .u64 sum .i64 at') fun (x0 : Int) =>
    newO (row 5 [(.int .u8 (IntKind.wrap .u8 x0))]) h0 fun (b : Nat) (h1 : H) =>
    bind2 (appT 5 1 1 h1 out (⟨(some (⟨b, 0, (some 0)⟩ : Addr)), 1, 1⟩ : Sl)) fun (x1 : Sl) (h2 : H) =>
    some (Sum.inl ((sum, (x1, (IntKind.wrap .i64 (at' - 8)))), h2))) (
    some (Sum.inr (Sum.inl (out, h0))))

noncomputable def P.seal_tag (seal_Step : Int → Int → H → Option ((Int) × H)) (seal_Tag : Int → Sl → H → Option ((Int) × H)) (key : Int) (num : Int) (head : Sl) (masked : Sl) (h : H) : Option (Sl × H) :=
  bind2 (seal_Step key (IntKind.wrap .u64 num) h) fun (x0 : Int) (h0 : H) =>
  newO (row 30 [(.slice head.base head.len head.cap), (.slice masked.base masked.len masked.cap)]) h0 fun (b : Nat) (h1 : H) =>
  bind2 (seal_Tag x0 (⟨(some (⟨b, 0, (some 0)⟩ : Addr)), 2, 2⟩ : Sl) h1) fun (x1 : Int) (h2 : H) =>
  joinO (
    loopO (P.seal_tag_l1 seal_Step seal_Tag) ((x1, ((⟨none, 0, 0⟩ : Sl), 56)), h2)) fun ((out, h3) : (Sl × H)) =>
  some (out, h3)
noncomputable abbrev seal_tag_l1 := P.seal_tag_l1 seal_Step seal_Tag
noncomputable def seal_tag : Int → Int → Sl → Sl → H → Option ((Sl) × H) := P.seal_tag seal_Step seal_Tag
noncomputable def ann_170 : Ann := ⟨fun i => bif i.beq 7 then some ⟨[10], [⟨false, [.sl]⟩]⟩ else none, fun i => bif i.beq 4 then some ⟨[9, 10, 11], [⟨false, [.int .u64]⟩, ⟨false, [.sl]⟩, ⟨false, [.int .i64]⟩]⟩ else none, fun _ => none⟩
noncomputable def E_170 : Ent := ⟨170, [⟨false, [.int .u64]⟩, ⟨false, [.int .i64]⟩, ⟨false, [.sl]⟩, ⟨false, [.sl]⟩], [⟨false, [.sl]⟩], fun (x : Int × Int × Sl × Sl) h => seal_tag x.1 x.2.1 x.2.2.1 x.2.2.2 h⟩
theorem eq_170 (seal_Step : Int → Int → H → Option ((Int) × H)) (seal_Tag : Int → Sl → H → Option ((Int) × H)) : (fun (x : PT E_170.ps) (h : H) => runFK Go.Proofs.Ythiccnmplgdheaa.Tab.D (lstK [⟨183, [⟨false, [.int .u64]⟩, ⟨false, [.int .u64]⟩], [⟨false, [.int .u64]⟩], fun (x : Int × Int) h => seal_Step x.1 x.2 h⟩, ⟨184, [⟨false, [.int .u64]⟩, ⟨false, [.sl]⟩], [⟨false, [.int .u64]⟩], fun (x : Int × Sl) h => seal_Tag x.1 x.2 h⟩]) ann_170 Try.f170 (Try.f170.body.getD .skip) E_170.ys (encP E_170.ps x) h) = (fun (x : Int × Int × Sl × Sl) h => P.seal_tag seal_Step seal_Tag x.1 x.2.1 x.2.2.1 x.2.2.2 h) := by kernel_rfl
theorem ok_170 : E_170.ok Go.Proofs.Ythiccnmplgdheaa.Tab.D := fun x h y h' e => runFK_ok (lstK_ok [E_183, E_184] (List.forall_mem_cons.2 ⟨ok_183, List.forall_mem_cons.2 ⟨ok_184, fun E h => nomatch h⟩⟩)) (A := ann_170) (by kernel_rfl) (show Go.Proofs.Ythiccnmplgdheaa.Tab.D.fn.get 170 = some Try.f170 by kernel_rfl) (show Try.f170.body = some (Try.f170.body.getD .skip) by kernel_rfl) ((congrFun (congrFun (eq_170 seal_Step seal_Tag) x) h).trans e)
/-! seal_Close -/
noncomputable def P.seal_Close (seal_Mask : Int → Int → Sl → H → Option ((Sl) × H)) (seal_tag : Int → Int → Sl → Sl → H → Option ((Sl) × H)) (slices_Concat_byte : Sl → H → Option ((Sl) × H)) (key : Int) (num : Int) (head : Sl) (body : Sl) (h : H) : Option (Sl × H) :=
  bind2 (seal_Mask key num body h) fun (x0 : Sl) (h0 : H) =>
  bind2 (seal_tag key num head x0 h0) fun (x1 : Sl) (h1 : H) =>
  newO (row 30 [(.slice x0.base x0.len x0.cap), (.slice x1.base x1.len x1.cap)]) h1 fun (b : Nat) (h2 : H) =>
  bind2 (slices_Concat_byte (⟨(some (⟨b, 0, (some 0)⟩ : Addr)), 2, 2⟩ : Sl) h2) fun (x2 : Sl) (h3 : H) =>
  some (x2, h3)
noncomputable def seal_Close : Int → Int → Sl → Sl → H → Option ((Sl) × H) := P.seal_Close seal_Mask seal_tag slices_Concat_byte
noncomputable def ann_126 : Ann := ⟨fun _ => none, fun _ => none, fun _ => none⟩
noncomputable def E_126 : Ent := ⟨126, [⟨false, [.int .u64]⟩, ⟨false, [.int .i64]⟩, ⟨false, [.sl]⟩, ⟨false, [.sl]⟩], [⟨false, [.sl]⟩], fun (x : Int × Int × Sl × Sl) h => seal_Close x.1 x.2.1 x.2.2.1 x.2.2.2 h⟩
theorem eq_126 (seal_Mask : Int → Int → Sl → H → Option ((Sl) × H)) (seal_tag : Int → Int → Sl → Sl → H → Option ((Sl) × H)) (slices_Concat_byte : Sl → H → Option ((Sl) × H)) : (fun (x : PT E_126.ps) (h : H) => runFK Go.Proofs.Ythiccnmplgdheaa.Tab.D (lstK [⟨169, [⟨false, [.int .u64]⟩, ⟨false, [.int .i64]⟩, ⟨false, [.sl]⟩], [⟨false, [.sl]⟩], fun (x : Int × Int × Sl) h => seal_Mask x.1 x.2.1 x.2.2 h⟩, ⟨170, [⟨false, [.int .u64]⟩, ⟨false, [.int .i64]⟩, ⟨false, [.sl]⟩, ⟨false, [.sl]⟩], [⟨false, [.sl]⟩], fun (x : Int × Int × Sl × Sl) h => seal_tag x.1 x.2.1 x.2.2.1 x.2.2.2 h⟩, ⟨99, [⟨false, [.sl]⟩], [⟨false, [.sl]⟩], fun (x : Sl) h => slices_Concat_byte x h⟩]) ann_126 Try.f126 (Try.f126.body.getD .skip) E_126.ys (encP E_126.ps x) h) = (fun (x : Int × Int × Sl × Sl) h => P.seal_Close seal_Mask seal_tag slices_Concat_byte x.1 x.2.1 x.2.2.1 x.2.2.2 h) := by kernel_rfl
theorem ok_126 : E_126.ok Go.Proofs.Ythiccnmplgdheaa.Tab.D := fun x h y h' e => runFK_ok (lstK_ok [E_169, E_170, E_99] (List.forall_mem_cons.2 ⟨ok_169, List.forall_mem_cons.2 ⟨ok_170, List.forall_mem_cons.2 ⟨ok_99, fun E h => nomatch h⟩⟩⟩)) (A := ann_126) (by kernel_rfl) (show Go.Proofs.Ythiccnmplgdheaa.Tab.D.fn.get 126 = some Try.f126 by kernel_rfl) (show Try.f126.body = some (Try.f126.body.getD .skip) by kernel_rfl) ((congrFun (congrFun (eq_126 seal_Mask seal_tag slices_Concat_byte) x) h).trans e)
/-! packet_Lay -/
noncomputable def P.packet_Lay (frame_Lay : Sl → H → Option ((Sl × Int) × H)) (pnum_Bytes : Int → Int → H → Option ((Int) × H)) (packet_headOf : Int → Int → H → Option ((Sl) × H)) (seal_Close : Int → Int → Sl → Sl → H → Option ((Sl) × H)) (slices_Concat_byte : Sl → H → Option ((Sl) × H)) (key : Int) (num : Int) (acked : Int) (f : Sl) (h : H) : Option ((Sl × Int) × H) :=
  joinO (
    condK (decide ((num < 0))) (
      some (Sum.inl ((key, (num, (acked, (f, true)))), h))) (
      condK (decide ((num > 4611686018427387903))) (
        some (Sum.inl ((key, (num, (acked, (f, true)))), h))) (
        condK (decide ((acked < (-1)))) (
          some (Sum.inl ((key, (num, (acked, (f, true)))), h))) (
          some (Sum.inl ((key, (num, (acked, (f, (decide ((acked ≥ num))))))), h)))))) fun (((key1, (num1, (acked1, (f1, x0)))), h0) : ((Int × (Int × (Int × (Sl × Bool)))) × H)) =>
  condK x0 (
    some (((⟨none, 0, 0⟩ : Sl), 1), h0)) (
    bind2 (frame_Lay f1 h0) fun ((x1, x2) : Sl × Int) (h1 : H) =>
    condK (x2 != 0) (
      some (((⟨none, 0, 0⟩ : Sl), x2), h1)) (
      bind2 (pnum_Bytes num1 acked1 h1) fun (x3 : Int) (h2 : H) =>
      bind2 (packet_headOf num1 x3 h2) fun (x4 : Sl) (h3 : H) =>
      bind2 (seal_Close key1 num1 x4 x1 h3) fun (x5 : Sl) (h4 : H) =>
      newO (row 30 [(.slice x4.base x4.len x4.cap), (.slice x5.base x5.len x5.cap)]) h4 fun (b : Nat) (h5 : H) =>
      bind2 (slices_Concat_byte (⟨(some (⟨b, 0, (some 0)⟩ : Addr)), 2, 2⟩ : Sl) h5) fun (x6 : Sl) (h6 : H) =>
      condK (decide ((((x6.len : Nat) : Int) > 240))) (
        some (((⟨none, 0, 0⟩ : Sl), 9), h6)) (
        some ((x6, 0), h6))))
noncomputable def packet_Lay : Int → Int → Int → Sl → H → Option ((Sl × Int) × H) := P.packet_Lay frame_Lay pnum_Bytes packet_headOf seal_Close slices_Concat_byte
noncomputable def ann_72 : Ann := ⟨fun _ => none, fun _ => none, fun i => bif i.beq 1 then some ⟨[0, 1, 2, 3, 28], [⟨false, [.int .u64]⟩, ⟨false, [.int .i64]⟩, ⟨false, [.int .i64]⟩, ⟨false, [.sl]⟩, ⟨false, [.bool]⟩]⟩ else none⟩
noncomputable def E_72 : Ent := ⟨72, [⟨false, [.int .u64]⟩, ⟨false, [.int .i64]⟩, ⟨false, [.int .i64]⟩, ⟨false, [.sl]⟩], [⟨false, [.sl]⟩, ⟨false, [.int .i64]⟩], fun (x : Int × Int × Int × Sl) h => packet_Lay x.1 x.2.1 x.2.2.1 x.2.2.2 h⟩
theorem eq_72 (frame_Lay : Sl → H → Option ((Sl × Int) × H)) (pnum_Bytes : Int → Int → H → Option ((Int) × H)) (packet_headOf : Int → Int → H → Option ((Sl) × H)) (seal_Close : Int → Int → Sl → Sl → H → Option ((Sl) × H)) (slices_Concat_byte : Sl → H → Option ((Sl) × H)) : (fun (x : PT E_72.ps) (h : H) => runFK Go.Proofs.Ythiccnmplgdheaa.Tab.D (lstK [⟨55, [⟨false, [.sl]⟩], [⟨false, [.sl]⟩, ⟨false, [.int .i64]⟩], fun (x : Sl) h => frame_Lay x h⟩, ⟨125, [⟨false, [.int .i64]⟩, ⟨false, [.int .i64]⟩], [⟨false, [.int .i64]⟩], fun (x : Int × Int) h => pnum_Bytes x.1 x.2 h⟩, ⟨124, [⟨false, [.int .i64]⟩, ⟨false, [.int .i64]⟩], [⟨false, [.sl]⟩], fun (x : Int × Int) h => packet_headOf x.1 x.2 h⟩, ⟨126, [⟨false, [.int .u64]⟩, ⟨false, [.int .i64]⟩, ⟨false, [.sl]⟩, ⟨false, [.sl]⟩], [⟨false, [.sl]⟩], fun (x : Int × Int × Sl × Sl) h => seal_Close x.1 x.2.1 x.2.2.1 x.2.2.2 h⟩, ⟨99, [⟨false, [.sl]⟩], [⟨false, [.sl]⟩], fun (x : Sl) h => slices_Concat_byte x h⟩]) ann_72 Try.f72 (Try.f72.body.getD .skip) E_72.ys (encP E_72.ps x) h) = (fun (x : Int × Int × Int × Sl) h => P.packet_Lay frame_Lay pnum_Bytes packet_headOf seal_Close slices_Concat_byte x.1 x.2.1 x.2.2.1 x.2.2.2 h) := by kernel_rfl
theorem ok_72 : E_72.ok Go.Proofs.Ythiccnmplgdheaa.Tab.D := fun x h y h' e => runFK_ok (lstK_ok [E_55, E_125, E_124, E_126, E_99] (List.forall_mem_cons.2 ⟨ok_55, List.forall_mem_cons.2 ⟨ok_125, List.forall_mem_cons.2 ⟨ok_124, List.forall_mem_cons.2 ⟨ok_126, List.forall_mem_cons.2 ⟨ok_99, fun E h => nomatch h⟩⟩⟩⟩⟩)) (A := ann_72) (by kernel_rfl) (show Go.Proofs.Ythiccnmplgdheaa.Tab.D.fn.get 72 = some Try.f72 by kernel_rfl) (show Try.f72.body = some (Try.f72.body.getD .skip) by kernel_rfl) ((congrFun (congrFun (eq_72 frame_Lay pnum_Bytes packet_headOf seal_Close slices_Concat_byte) x) h).trans e)
/-! pnum_Back -/
noncomputable def P.pnum_Back (pnum_span : Int → H → Option ((Int) × H)) (pnum_within : Int → Int → Int → H → Option ((Int) × H)) (pnum_Cut : Int → Int → H → Option ((Int) × H)) (pnum_rest : Int → Int → H → Option ((Int) × H)) (cut : Int) (k : Int) (next : Int) (h : H) : Option (Int × H) :=
  bind2 (pnum_span k h) fun (x0 : Int) (h0 : H) =>
  bind2 (pnum_within next 0 4611686018427387903 h0) fun (x1 : Int) (h1 : H) =>
  bind2 (pnum_Cut cut k h1) fun (x2 : Int) (h2 : H) =>
  bind2 (pnum_rest x1 x0 h2) fun (x3 : Int) (h3 : H) =>
  bind2 (pnum_rest (IntKind.wrap .i64 (x2 - x3)) x0 h3) fun (x4 : Int) (h4 : H) =>
  joinO (
    letO ((decide (((IntKind.wrap .i64 ((IntKind.wrap .i64 (x1 + x4)) - x0)) < 0)))) fun (x5 : Bool) =>
    condK x5 (
      some (Sum.inr ((IntKind.wrap .i64 (x1 + x4)), h4))) (
      condK (decide (((IntKind.wrap .i64 (x1 + x4)) ≤ 4611686018427387903))) (
        letO ((IntKind.wrap .i64 (x1 - (IntKind.wrap .i64 ((IntKind.wrap .i64 (x1 + x4)) - x0))))) fun (x6 : Int) =>
        letO ((decide (((IntKind.wrap .i64 ((IntKind.wrap .i64 (x1 + x4)) - x1)) ≤ x6)))) fun (x7 : Bool) =>
        condK x7 (
          some (Sum.inr ((IntKind.wrap .i64 (x1 + x4)), h4))) (
          some (Sum.inl ((IntKind.wrap .i64 ((IntKind.wrap .i64 (x1 + x4)) - x0)), h4)))) (
        some (Sum.inl ((IntKind.wrap .i64 ((IntKind.wrap .i64 (x1 + x4)) - x0)), h4))))) fun ((below, h5) : (Int × H)) =>
  some (below, h5)
noncomputable def pnum_Back : Int → Int → Int → H → Option ((Int) × H) := P.pnum_Back pnum_span pnum_within pnum_Cut pnum_rest
noncomputable def ann_127 : Ann := ⟨fun i => bif i.beq 7 then some ⟨[9], [⟨false, [.int .i64]⟩]⟩ else none, fun _ => none, fun _ => none⟩
noncomputable def E_127 : Ent := ⟨127, [⟨false, [.int .i64]⟩, ⟨false, [.int .i64]⟩, ⟨false, [.int .i64]⟩], [⟨false, [.int .i64]⟩], fun (x : Int × Int × Int) h => pnum_Back x.1 x.2.1 x.2.2 h⟩
theorem eq_127 (pnum_span : Int → H → Option ((Int) × H)) (pnum_within : Int → Int → Int → H → Option ((Int) × H)) (pnum_Cut : Int → Int → H → Option ((Int) × H)) (pnum_rest : Int → Int → H → Option ((Int) × H)) : (fun (x : PT E_127.ps) (h : H) => runFK Go.Proofs.Ythiccnmplgdheaa.Tab.D (lstK [⟨168, [⟨false, [.int .i64]⟩], [⟨false, [.int .i64]⟩], fun (x : Int) h => pnum_span x h⟩, ⟨171, [⟨false, [.int .i64]⟩, ⟨false, [.int .i64]⟩, ⟨false, [.int .i64]⟩], [⟨false, [.int .i64]⟩], fun (x : Int × Int × Int) h => pnum_within x.1 x.2.1 x.2.2 h⟩, ⟨167, [⟨false, [.int .i64]⟩, ⟨false, [.int .i64]⟩], [⟨false, [.int .i64]⟩], fun (x : Int × Int) h => pnum_Cut x.1 x.2 h⟩, ⟨172, [⟨false, [.int .i64]⟩, ⟨false, [.int .i64]⟩], [⟨false, [.int .i64]⟩], fun (x : Int × Int) h => pnum_rest x.1 x.2 h⟩]) ann_127 Try.f127 (Try.f127.body.getD .skip) E_127.ys (encP E_127.ps x) h) = (fun (x : Int × Int × Int) h => P.pnum_Back pnum_span pnum_within pnum_Cut pnum_rest x.1 x.2.1 x.2.2 h) := by kernel_rfl
theorem ok_127 : E_127.ok Go.Proofs.Ythiccnmplgdheaa.Tab.D := fun x h y h' e => runFK_ok (lstK_ok [E_168, E_171, E_167, E_172] (List.forall_mem_cons.2 ⟨ok_168, List.forall_mem_cons.2 ⟨ok_171, List.forall_mem_cons.2 ⟨ok_167, List.forall_mem_cons.2 ⟨ok_172, fun E h => nomatch h⟩⟩⟩⟩)) (A := ann_127) (by kernel_rfl) (show Go.Proofs.Ythiccnmplgdheaa.Tab.D.fn.get 127 = some Try.f127 by kernel_rfl) (show Try.f127.body = some (Try.f127.body.getD .skip) by kernel_rfl) ((congrFun (congrFun (eq_127 pnum_span pnum_within pnum_Cut pnum_rest) x) h).trans e)
/-! seal_Open -/
noncomputable def P.seal_Open (seal_tag : Int → Int → Sl → Sl → H → Option ((Sl) × H)) (slices_Equal_byte : Sl → Sl → H → Option ((Bool) × H)) (seal_Mask : Int → Int → Sl → H → Option ((Sl) × H)) (key : Int) (num : Int) (head : Sl) (sealed : Sl) (h : H) : Option ((Sl × Bool) × H) :=
  condK (decide ((((sealed.len : Nat) : Int) < 8))) (
    some (((⟨none, 0, 0⟩ : Sl), false), h)) (
    bindO (slT 1 h sealed none (some (IntKind.wrap .i64 (((sealed.len : Nat) : Int) - 8))) none) fun (x0 : Sl) =>
    bindO (slT 1 h sealed (some (IntKind.wrap .i64 (((sealed.len : Nat) : Int) - 8))) none none) fun (x1 : Sl) =>
    bind2 (seal_tag key num head x0 h) fun (x2 : Sl) (h0 : H) =>
    bind2 (slices_Equal_byte x2 x1 h0) fun (x3 : Bool) (h1 : H) =>
    condK (!x3) (
      some (((⟨none, 0, 0⟩ : Sl), false), h1)) (
      bind2 (seal_Mask key num x0 h1) fun (x4 : Sl) (h2 : H) =>
      some ((x4, true), h2)))
noncomputable def seal_Open : Int → Int → Sl → Sl → H → Option ((Sl × Bool) × H) := P.seal_Open seal_tag slices_Equal_byte seal_Mask
noncomputable def ann_128 : Ann := ⟨fun _ => none, fun _ => none, fun _ => none⟩
noncomputable def E_128 : Ent := ⟨128, [⟨false, [.int .u64]⟩, ⟨false, [.int .i64]⟩, ⟨false, [.sl]⟩, ⟨false, [.sl]⟩], [⟨false, [.sl]⟩, ⟨false, [.bool]⟩], fun (x : Int × Int × Sl × Sl) h => seal_Open x.1 x.2.1 x.2.2.1 x.2.2.2 h⟩
theorem eq_128 (seal_tag : Int → Int → Sl → Sl → H → Option ((Sl) × H)) (slices_Equal_byte : Sl → Sl → H → Option ((Bool) × H)) (seal_Mask : Int → Int → Sl → H → Option ((Sl) × H)) : (fun (x : PT E_128.ps) (h : H) => runFK Go.Proofs.Ythiccnmplgdheaa.Tab.D (lstK [⟨170, [⟨false, [.int .u64]⟩, ⟨false, [.int .i64]⟩, ⟨false, [.sl]⟩, ⟨false, [.sl]⟩], [⟨false, [.sl]⟩], fun (x : Int × Int × Sl × Sl) h => seal_tag x.1 x.2.1 x.2.2.1 x.2.2.2 h⟩, ⟨144, [⟨false, [.sl]⟩, ⟨false, [.sl]⟩], [⟨false, [.bool]⟩], fun (x : Sl × Sl) h => slices_Equal_byte x.1 x.2 h⟩, ⟨169, [⟨false, [.int .u64]⟩, ⟨false, [.int .i64]⟩, ⟨false, [.sl]⟩], [⟨false, [.sl]⟩], fun (x : Int × Int × Sl) h => seal_Mask x.1 x.2.1 x.2.2 h⟩]) ann_128 Try.f128 (Try.f128.body.getD .skip) E_128.ys (encP E_128.ps x) h) = (fun (x : Int × Int × Sl × Sl) h => P.seal_Open seal_tag slices_Equal_byte seal_Mask x.1 x.2.1 x.2.2.1 x.2.2.2 h) := by kernel_rfl
theorem ok_128 : E_128.ok Go.Proofs.Ythiccnmplgdheaa.Tab.D := fun x h y h' e => runFK_ok (lstK_ok [E_170, E_144, E_169] (List.forall_mem_cons.2 ⟨ok_170, List.forall_mem_cons.2 ⟨ok_144, List.forall_mem_cons.2 ⟨ok_169, fun E h => nomatch h⟩⟩⟩)) (A := ann_128) (by kernel_rfl) (show Go.Proofs.Ythiccnmplgdheaa.Tab.D.fn.get 128 = some Try.f128 by kernel_rfl) (show Try.f128.body = some (Try.f128.body.getD .skip) by kernel_rfl) ((congrFun (congrFun (eq_128 seal_tag slices_Equal_byte seal_Mask) x) h).trans e)
/-! packet_Read -/
noncomputable def P.packet_Read_l1 (pnum_Back : Int → Int → Int → H → Option ((Int) × H)) (seal_Open : Int → Int → Sl → Sl → H → Option ((Sl × Bool) × H)) (frame_Read : Sl → H → Option ((Sl × Int) × H)) : ((Int × (Int × (Sl × (Int × (Int × (Sl × (Int × Int))))))) × H) → Option (((Int × (Int × (Sl × (Int × (Int × (Sl × (Int × Int))))))) × H) ⊕ (((Int × (Int × (Sl × (Int × Int)))) × H) ⊕ ((Int × (Sl × Int)) × H))) := fun ((key, (next, (b, (k, (cut, (x0, (x1, x2))))))), h0) =>
  condK (decide ((x2 < x1))) (
    bindO (ixT 1 x0 x2) fun (a0 : Addr) =>
    bindO (ldI .u8 h0 a0) fun (x3 : Int) =>
    letO ((IntKind.wrap .i64 (((BitVec.toNat ((BitVec.ofInt 64 (IntKind.wrap .i64 (cut * 256))) ||| (BitVec.ofInt 64 (IntKind.wrap .i64 x3)))) : Nat) : Int))) fun (x4 : Int) =>
    some (Sum.inl ((key, (next, (b, (k, (x4, (x0, (x1, (IntKind.wrap .i64 (x2 + 1))))))))), h0))) (
    some (Sum.inr (Sum.inl ((key, (next, (b, (k, cut)))), h0))))

noncomputable def P.packet_Read (pnum_Back : Int → Int → Int → H → Option ((Int) × H)) (seal_Open : Int → Int → Sl → Sl → H → Option ((Sl × Bool) × H)) (frame_Read : Sl → H → Option ((Sl × Int) × H)) (key : Int) (next : Int) (b : Sl) (h : H) : Option ((Int × Sl × Int) × H) :=
  condK (((b.len : Nat) : Int) == 0) (
    some ((0, ((⟨none, 0, 0⟩ : Sl), 3)), h)) (
    bindO (ixT 1 b 0) fun (a0 : Addr) =>
    bindO (ldI .u8 h a0) fun (x0 : Int) =>
    letO ((IntKind.wrap .i64 ((IntKind.wrap .i64 ((IntKind.wrap .i64 x0) - 64)) + 1))) fun (x1 : Int) =>
    joinO (
      condK (decide ((x1 < 1))) (
        some (Sum.inl ((key, (next, (b, (x1, true)))), h))) (
        some (Sum.inl ((key, (next, (b, (x1, (decide ((x1 > 4))))))), h)))) fun (((key1, (next1, (b1, (k, x2)))), h0) : ((Int × (Int × (Sl × (Int × Bool)))) × H)) =>
    condK x2 (
      some ((0, ((⟨none, 0, 0⟩ : Sl), 2)), h0)) (
      letO ((decide ((((b1.len : Nat) : Int) < (IntKind.wrap .i64 ((IntKind.wrap .i64 (1 + k)) + 8)))))) fun (x3 : Bool) =>
      condK x3 (
        some ((0, ((⟨none, 0, 0⟩ : Sl), 3)), h0)) (
        joinO (
          bindO (slT 1 h0 b1 (some 1) (some (IntKind.wrap .i64 (1 + k))) none) fun (x4 : Sl) =>
          loopO (P.packet_Read_l1 pnum_Back seal_Open frame_Read) ((key1, (next1, (b1, (k, (0, (x4, (((x4.len : Nat) : Int), 0))))))), h0)) fun (((key2, (next2, (b2, (k1, cut)))), h1) : ((Int × (Int × (Sl × (Int × Int)))) × H)) =>
        bind2 (pnum_Back cut k1 next2 h1) fun (x4 : Int) (h2 : H) =>
        bindO (slT 1 h2 b2 none (some (IntKind.wrap .i64 (1 + k1))) none) fun (x5 : Sl) =>
        bindO (slT 1 h2 b2 (some (IntKind.wrap .i64 (1 + k1))) none none) fun (x6 : Sl) =>
        bind2 (seal_Open key2 x4 x5 x6 h2) fun ((x7, x8) : Sl × Bool) (h3 : H) =>
        condK (!x8) (
          some ((0, ((⟨none, 0, 0⟩ : Sl), 4)), h3)) (
          bind2 (frame_Read x7 h3) fun ((x9, x10) : Sl × Int) (h4 : H) =>
          joinO (
            condK (x10 != 0) (
              some (Sum.inl ((x4, (x9, true)), h4))) (
              some (Sum.inl ((x4, (x9, (((x9.len : Nat) : Int) == 0))), h4)))) fun (((num, (f, x11)), h5) : ((Int × (Sl × Bool)) × H)) =>
          condK x11 (
            some ((num, ((⟨none, 0, 0⟩ : Sl), 11)), h5)) (
            some ((num, (f, 0)), h5))))))
noncomputable abbrev packet_Read_l1 := P.packet_Read_l1 pnum_Back seal_Open frame_Read
noncomputable def packet_Read : Int → Int → Sl → H → Option ((Int × Sl × Int) × H) := P.packet_Read pnum_Back seal_Open frame_Read
noncomputable def ann_73 : Ann := ⟨fun i => bif i.beq 14 then some ⟨[0, 1, 2, 9, 10], [⟨false, [.int .u64]⟩, ⟨false, [.int .i64]⟩, ⟨false, [.sl]⟩, ⟨false, [.int .i64]⟩, ⟨false, [.int .i64]⟩]⟩ else none, fun i => bif i.beq 10 then some ⟨[0, 1, 2, 9, 10, 41, 42, 43], [⟨false, [.int .u64]⟩, ⟨false, [.int .i64]⟩, ⟨false, [.sl]⟩, ⟨false, [.int .i64]⟩, ⟨false, [.int .i64]⟩, ⟨false, [.sl]⟩, ⟨false, [.int .i64]⟩, ⟨false, [.int .i64]⟩]⟩ else none, fun i => bif i.beq 4 then some ⟨[0, 1, 2, 9, 24], [⟨false, [.int .u64]⟩, ⟨false, [.int .i64]⟩, ⟨false, [.sl]⟩, ⟨false, [.int .i64]⟩, ⟨false, [.bool]⟩]⟩ else bif i.beq 19 then some ⟨[6, 7, 84], [⟨false, [.int .i64]⟩, ⟨false, [.sl]⟩, ⟨false, [.bool]⟩]⟩ else none⟩
noncomputable def E_73 : Ent := ⟨73, [⟨false, [.int .u64]⟩, ⟨false, [.int .i64]⟩, ⟨false, [.sl]⟩], [⟨false, [.int .i64]⟩, ⟨false, [.sl]⟩, ⟨false, [.int .i64]⟩], fun (x : Int × Int × Sl) h => packet_Read x.1 x.2.1 x.2.2 h⟩
theorem eq_73 (pnum_Back : Int → Int → Int → H → Option ((Int) × H)) (seal_Open : Int → Int → Sl → Sl → H → Option ((Sl × Bool) × H)) (frame_Read : Sl → H → Option ((Sl × Int) × H)) : (fun (x : PT E_73.ps) (h : H) => runFK Go.Proofs.Ythiccnmplgdheaa.Tab.D (lstK [⟨127, [⟨false, [.int .i64]⟩, ⟨false, [.int .i64]⟩, ⟨false, [.int .i64]⟩], [⟨false, [.int .i64]⟩], fun (x : Int × Int × Int) h => pnum_Back x.1 x.2.1 x.2.2 h⟩, ⟨128, [⟨false, [.int .u64]⟩, ⟨false, [.int .i64]⟩, ⟨false, [.sl]⟩, ⟨false, [.sl]⟩], [⟨false, [.sl]⟩, ⟨false, [.bool]⟩], fun (x : Int × Int × Sl × Sl) h => seal_Open x.1 x.2.1 x.2.2.1 x.2.2.2 h⟩, ⟨56, [⟨false, [.sl]⟩], [⟨false, [.sl]⟩, ⟨false, [.int .i64]⟩], fun (x : Sl) h => frame_Read x h⟩]) ann_73 Try.f73 (Try.f73.body.getD .skip) E_73.ys (encP E_73.ps x) h) = (fun (x : Int × Int × Sl) h => P.packet_Read pnum_Back seal_Open frame_Read x.1 x.2.1 x.2.2 h) := by kernel_rfl
theorem ok_73 : E_73.ok Go.Proofs.Ythiccnmplgdheaa.Tab.D := fun x h y h' e => runFK_ok (lstK_ok [E_127, E_128, E_56] (List.forall_mem_cons.2 ⟨ok_127, List.forall_mem_cons.2 ⟨ok_128, List.forall_mem_cons.2 ⟨ok_56, fun E h => nomatch h⟩⟩⟩)) (A := ann_73) (by kernel_rfl) (show Go.Proofs.Ythiccnmplgdheaa.Tab.D.fn.get 73 = some Try.f73 by kernel_rfl) (show Try.f73.body = some (Try.f73.body.getD .skip) by kernel_rfl) ((congrFun (congrFun (eq_73 pnum_Back seal_Open frame_Read) x) h).trans e)
/-! packet_Room -/
noncomputable def P.packet_Room (pnum_Bytes : Int → Int → H → Option ((Int) × H)) (num : Int) (acked : Int) (h : H) : Option (Int × H) :=
  bind2 (pnum_Bytes num acked h) fun (x0 : Int) (h0 : H) =>
  some ((IntKind.wrap .i64 ((IntKind.wrap .i64 (239 - x0)) - 8)), h0)
noncomputable def packet_Room : Int → Int → H → Option ((Int) × H) := P.packet_Room pnum_Bytes
noncomputable def ann_75 : Ann := ⟨fun _ => none, fun _ => none, fun _ => none⟩
noncomputable def E_75 : Ent := ⟨75, [⟨false, [.int .i64]⟩, ⟨false, [.int .i64]⟩], [⟨false, [.int .i64]⟩], fun (x : Int × Int) h => packet_Room x.1 x.2 h⟩
theorem eq_75 (pnum_Bytes : Int → Int → H → Option ((Int) × H)) : (fun (x : PT E_75.ps) (h : H) => runFK Go.Proofs.Ythiccnmplgdheaa.Tab.D (lstK [⟨125, [⟨false, [.int .i64]⟩, ⟨false, [.int .i64]⟩], [⟨false, [.int .i64]⟩], fun (x : Int × Int) h => pnum_Bytes x.1 x.2 h⟩]) ann_75 Try.f75 (Try.f75.body.getD .skip) E_75.ys (encP E_75.ps x) h) = (fun (x : Int × Int) h => P.packet_Room pnum_Bytes x.1 x.2 h) := by kernel_rfl
theorem ok_75 : E_75.ok Go.Proofs.Ythiccnmplgdheaa.Tab.D := fun x h y h' e => runFK_ok (lstK_ok [E_125] (List.forall_mem_cons.2 ⟨ok_125, fun E h => nomatch h⟩)) (A := ann_75) (by kernel_rfl) (show Go.Proofs.Ythiccnmplgdheaa.Tab.D.fn.get 75 = some Try.f75 by kernel_rfl) (show Try.f75.body = some (Try.f75.body.getD .skip) by kernel_rfl) ((congrFun (congrFun (eq_75 pnum_Bytes) x) h).trans e)
/-! law6_known -/
noncomputable def P.law6_known (packet_Lay : Int → Int → Int → Sl → H → Option ((Sl × Int) × H)) (packet_Read : Int → Int → Sl → H → Option ((Int × Sl × Int) × H)) (packet_Room : Int → Int → H → Option ((Int) × H))  (h : H) : Option (Bool × H) :=
  newO (row 33 [(.int .i64 1), (.int .i64 0), (.int .i64 0), (.int .i64 0), (.int .i64 0), (.int .i64 0), (.bool false), (.slice none 0 0), (.slice none 0 0)]) h fun (b : Nat) (h0 : H) =>
  bind2 (packet_Lay 7 3 2 (⟨(some (⟨b, 0, (some 0)⟩ : Addr)), 1, 1⟩ : Sl) h0) fun ((x0, x1) : Sl × Int) (h1 : H) =>
  bind2 (packet_Read 7 3 x0 h1) fun ((x2, x3, x4) : Int × Sl × Int) (h2 : H) =>
  bind2 (packet_Room 0 (-1) h2) fun (x5 : Int) (h3 : H) =>
  condK (x5 == 230) (
    condK (x1 == 0) (
      condK (((x0.len : Nat) : Int) == 11) (
        bindO (ixT 1 x0 0) fun (a0 : Addr) =>
        bindO (ldI .u8 h3 a0) fun (x6 : Int) =>
        condK (x6 == 64) (
          bindO (ixT 1 x0 1) fun (a1 : Addr) =>
          bindO (ldI .u8 h3 a1) fun (x7 : Int) =>
          condK (x7 == 3) (
            condK (x4 == 0) (
              condK (x2 == 3) (
                some ((((x3.len : Nat) : Int) == 1), h3)) (
                some (false, h3))) (
              some (false, h3))) (
            some (false, h3))) (
          some (false, h3))) (
        some (false, h3))) (
      some (false, h3))) (
    some (false, h3))
noncomputable def law6_known : H → Option ((Bool) × H) := P.law6_known packet_Lay packet_Read packet_Room
noncomputable def ann_74 : Ann := ⟨fun _ => none, fun _ => none, fun _ => none⟩
noncomputable def E_74 : Ent := ⟨74, [], [⟨false, [.bool]⟩], fun (x : Unit) h => law6_known h⟩
theorem eq_74 (packet_Lay : Int → Int → Int → Sl → H → Option ((Sl × Int) × H)) (packet_Read : Int → Int → Sl → H → Option ((Int × Sl × Int) × H)) (packet_Room : Int → Int → H → Option ((Int) × H)) : (fun (x : PT E_74.ps) (h : H) => runFK Go.Proofs.Ythiccnmplgdheaa.Tab.D (lstK [⟨72, [⟨false, [.int .u64]⟩, ⟨false, [.int .i64]⟩, ⟨false, [.int .i64]⟩, ⟨false, [.sl]⟩], [⟨false, [.sl]⟩, ⟨false, [.int .i64]⟩], fun (x : Int × Int × Int × Sl) h => packet_Lay x.1 x.2.1 x.2.2.1 x.2.2.2 h⟩, ⟨73, [⟨false, [.int .u64]⟩, ⟨false, [.int .i64]⟩, ⟨false, [.sl]⟩], [⟨false, [.int .i64]⟩, ⟨false, [.sl]⟩, ⟨false, [.int .i64]⟩], fun (x : Int × Int × Sl) h => packet_Read x.1 x.2.1 x.2.2 h⟩, ⟨75, [⟨false, [.int .i64]⟩, ⟨false, [.int .i64]⟩], [⟨false, [.int .i64]⟩], fun (x : Int × Int) h => packet_Room x.1 x.2 h⟩]) ann_74 Try.f74 (Try.f74.body.getD .skip) E_74.ys (encP E_74.ps x) h) = (fun (x : Unit) h => P.law6_known packet_Lay packet_Read packet_Room  h) := by kernel_rfl
theorem ok_74 : E_74.ok Go.Proofs.Ythiccnmplgdheaa.Tab.D := fun x h y h' e => runFK_ok (lstK_ok [E_72, E_73, E_75] (List.forall_mem_cons.2 ⟨ok_72, List.forall_mem_cons.2 ⟨ok_73, List.forall_mem_cons.2 ⟨ok_75, fun E h => nomatch h⟩⟩⟩)) (A := ann_74) (by kernel_rfl) (show Go.Proofs.Ythiccnmplgdheaa.Tab.D.fn.get 74 = some Try.f74 by kernel_rfl) (show Try.f74.body = some (Try.f74.body.getD .skip) by kernel_rfl) ((congrFun (congrFun (eq_74 packet_Lay packet_Read packet_Room) x) h).trans e)
end Go.Proofs.Ythiccnmplgdheaa.T
