/- The typed texts of the program's functions, printed by a program of this session (wip/KPrint.lean) out of the machine's own definitions; each is the machine's own run, by the kernel's reduction. -/
import Derived.Test.YthiccnmplgdheaaAbsF
import Derived.Test.YthiccnmplgdheaaTab
import Derived.KernelRfl
set_option linter.unusedVariables false
set_option maxRecDepth 1000000
namespace Go.Proofs.Ythiccnmplgdheaa.T
open Go Go.Abs Go.Proofs
open Sum (inl inr)
noncomputable section
/-! words -/
abbrev J9 := Int × Int × Int × Int × Int × Int × Bool × Sl × Sl
abbrev j9 : List Z := [.int .i64, .int .i64, .int .i64, .int .i64, .int .i64, .int .i64, .bool, .sl, .sl]
abbrev eI_ : Ty := ⟨false, [.int .i64]⟩
abbrev eL_ : Ty := ⟨false, [.sl]⟩
abbrev eP_ : Ty := ⟨false, [.ptr]⟩
abbrev eB_ : Ty := ⟨false, [.bool]⟩
def runE (L : List Ent) (A : Ann) (F : Func) (E : Ent) (x : PT E.ps) (h : H) : Option (PT E.ys × H) := runFK Tab.D (lstK L) A F (F.body.getD .skip) E.ys (encP E.ps x) h
theorem entT {E : Ent} {L : List Ent} {A : Ann} {F : Func} (hL : ∀ e ∈ L, e.ok Tab.D) (ho : Tab.D.ov E.f = none) (h1 : Tab.D.fn.get E.f = some F) (h2 : F.body = some (F.body.getD .skip)) (e : runE L A F E = E.g) : E.ok Tab.D := fun x h y h' q => runFK_ok (lstK_ok L hL) (A := A) ho h1 h2 ((congrFun (congrFun e x) h).trans q)
theorem entC {E : Ent} {L : List Ent} (h : E.ok Tab.D) (t : ∀ e ∈ L, e.ok Tab.D) : ∀ e ∈ E :: L, e.ok Tab.D := List.forall_mem_cons.2 ⟨h, t⟩
theorem entN : ∀ e ∈ ([] : List Ent), e.ok Tab.D := fun E h => nomatch h
/-! hand_Pick -/
abbrev T_24 := Int → Int → H → Option ((Int) × H)
abbrev V_24 (f : T_24) : Ent := ⟨24, [eI_, eI_], [eI_], fun (x : Int × Int) h => f x.1 x.2 h⟩
def hand_Pick (n : Int) (m : Int) (h : H) : Option (Int × H) :=
 bindO (remT .i64 n m) fun x0 =>
 joinO (
 condK (decide ((x0 < 0))) (
 some (inl ((IntKind.wrap .i64 (x0 + m)), h))) (
 some (inl (x0, h)))) fun ((n1, h0) : (Int × H)) =>
 some (n1, h0)
def ann_24 : Ann := ⟨fun i => bif i.beq 4 then some ⟨[0], [eI_]⟩ else none, fun _ => none, fun _ => none⟩
def E_24 : Ent := V_24 hand_Pick
theorem eq_24 : runE [] ann_24 Try.f24 (V_24 hand_Pick) = (V_24 hand_Pick).g := by kernel_rfl
theorem ok_24 : E_24.ok Tab.D := entT entN (by kernel_rfl) (by kernel_rfl) (by kernel_rfl) eq_24
/-! frame_bare -/
abbrev T_90 := (J9) → H → Option (((J9)) × H)
abbrev V_90 (f : T_90) : Ent := ⟨90, [⟨true, j9⟩], [⟨true, j9⟩], fun (x : (J9)) h => f x h⟩
def frame_bare (f : J9) (h : H) : Option ((J9) × H) :=
 newO (row 33 [(.int .i64 f.1), (.int .i64 f.2.1), (.int .i64 f.2.2.1), (.int .i64 f.2.2.2.1), (.int .i64 f.2.2.2.2.1), (.int .i64 f.2.2.2.2.2.1), (.bool f.2.2.2.2.2.2.1), (.slice f.2.2.2.2.2.2.2.1.base f.2.2.2.2.2.2.2.1.len f.2.2.2.2.2.2.2.1.cap), (.slice f.2.2.2.2.2.2.2.2.base f.2.2.2.2.2.2.2.2.len f.2.2.2.2.2.2.2.2.cap)]) h fun b h0 =>
 newO (row 33 [(.int .i64 0), (.int .i64 0), (.int .i64 0), (.int .i64 0), (.int .i64 0), (.int .i64 0), (.bool false), (.slice none 0 0), (.slice none 0 0)]) h0 fun b1 h1 =>
 bindO (ldI .i64 h1 (add (⟨b, 0, some 0⟩ : Addr) 0)) fun x0 =>
 newO (row 33 [(.int .i64 0), (.int .i64 0), (.int .i64 0), (.int .i64 0), (.int .i64 0), (.int .i64 0), (.bool false), (.slice none 0 0), (.slice none 0 0)]) h1 fun b2 h2 =>
 bindO (stZ j9 h2 (⟨b2, 0, some 0⟩ : Addr) ((x0, 0, 0, 0, 0, 0, false, (⟨none, 0, 0⟩ : Sl), (⟨none, 0, 0⟩ : Sl)) : J9)) fun h3 =>
 joinO (
 bindO (ldI .i64 h3 (add (⟨b, 0, some 0⟩ : Addr) 0)) fun x1 =>
 condK (x1 == 2) (
 bindO (ldL h3 (add (⟨b, 0, some 0⟩ : Addr) 8)) fun x2 =>
 bindO (st1 h3 (add (⟨b2, 0, some 0⟩ : Addr) 8) (.slice x2.base x2.len x2.cap)) fun h4 =>
 some (inl (((some (⟨b1, 0, some 0⟩ : Addr)), (some (⟨b2, 0, some 0⟩ : Addr))), h4))) (
 condK (x1 == 3) (
 bindO (ldI .i64 h3 (add (⟨b, 0, some 0⟩ : Addr) 1)) fun x3 =>
 bindO (ldI .i64 h3 (add (⟨b, 0, some 0⟩ : Addr) 2)) fun x4 =>
 bindO (ldB h3 (add (⟨b, 0, some 0⟩ : Addr) 6)) fun x5 =>
 bindO (ldL h3 (add (⟨b, 0, some 0⟩ : Addr) 7)) fun x6 =>
 bindO (st1 h3 (add (⟨b2, 0, some 0⟩ : Addr) 1) (.int .i64 x3)) fun h5 =>
 bindO (st1 h5 (add (⟨b2, 0, some 0⟩ : Addr) 2) (.int .i64 x4)) fun h6 =>
 bindO (st1 h6 (add (⟨b2, 0, some 0⟩ : Addr) 6) (.bool x5)) fun h7 =>
 bindO (st1 h7 (add (⟨b2, 0, some 0⟩ : Addr) 7) (.slice x6.base x6.len x6.cap)) fun h8 =>
 bindO (ldL h7 (add (⟨b, 0, some 0⟩ : Addr) 7)) fun x7 =>
 condK (slEq x7.base x7.len x7.cap x6.base x6.len x6.cap) (
 bindO (ldL h6 (add (⟨b, 0, some 0⟩ : Addr) 7)) fun x8 =>
 condK (slEq x8.base x8.len x8.cap x6.base x6.len x6.cap) (
 bindO (ldL h5 (add (⟨b, 0, some 0⟩ : Addr) 7)) fun x9 =>
 condK (slEq x9.base x9.len x9.cap x6.base x6.len x6.cap) (
 bindO (ldB h6 (add (⟨b, 0, some 0⟩ : Addr) 6)) fun x10 =>
 condK (x10 == x5) (
 bindO (ldB h5 (add (⟨b, 0, some 0⟩ : Addr) 6)) fun x11 =>
 condK (x11 == x5) (
 bindO (ldI .i64 h5 (add (⟨b, 0, some 0⟩ : Addr) 2)) fun x12 =>
 condK (x12 == x4) (
 some (inl (((some (⟨b1, 0, some 0⟩ : Addr)), (some (⟨b2, 0, some 0⟩ : Addr))), h8))) none) none) none) none) none) none) (
 condK (x1 == 4) (
 bindO (ldI .i64 h3 (add (⟨b, 0, some 0⟩ : Addr) 1)) fun x13 =>
 bindO (ldI .i64 h3 (add (⟨b, 0, some 0⟩ : Addr) 3)) fun x14 =>
 bindO (ldI .i64 h3 (add (⟨b, 0, some 0⟩ : Addr) 2)) fun x15 =>
 bindO (ldI .i64 h3 (add (⟨b, 0, some 0⟩ : Addr) 4)) fun x16 =>
 bindO (st1 h3 (add (⟨b2, 0, some 0⟩ : Addr) 1) (.int .i64 x13)) fun h9 =>
 bindO (st1 h9 (add (⟨b2, 0, some 0⟩ : Addr) 3) (.int .i64 x14)) fun h10 =>
 bindO (st1 h10 (add (⟨b2, 0, some 0⟩ : Addr) 2) (.int .i64 x15)) fun h11 =>
 bindO (st1 h11 (add (⟨b2, 0, some 0⟩ : Addr) 4) (.int .i64 x16)) fun h12 =>
 bindO (ldI .i64 h11 (add (⟨b, 0, some 0⟩ : Addr) 4)) fun x17 =>
 condK (x17 == x16) (
 bindO (ldI .i64 h10 (add (⟨b, 0, some 0⟩ : Addr) 4)) fun x18 =>
 condK (x18 == x16) (
 bindO (ldI .i64 h9 (add (⟨b, 0, some 0⟩ : Addr) 4)) fun x19 =>
 condK (x19 == x16) (
 bindO (ldI .i64 h10 (add (⟨b, 0, some 0⟩ : Addr) 2)) fun x20 =>
 condK (x20 == x15) (
 bindO (ldI .i64 h9 (add (⟨b, 0, some 0⟩ : Addr) 2)) fun x21 =>
 condK (x21 == x15) (
 bindO (ldI .i64 h9 (add (⟨b, 0, some 0⟩ : Addr) 3)) fun x22 =>
 condK (x22 == x14) (
 some (inl (((some (⟨b1, 0, some 0⟩ : Addr)), (some (⟨b2, 0, some 0⟩ : Addr))), h12))) none) none) none) none) none) none) (
 condK (x1 == 5) (
 condK (x1 == 5) (
 bindO (ldI .i64 h3 (add (⟨b, 0, some 0⟩ : Addr) 1)) fun x23 =>
 bindO (ldI .i64 h3 (add (⟨b, 0, some 0⟩ : Addr) 3)) fun x24 =>
 bindO (st1 h3 (add (⟨b2, 0, some 0⟩ : Addr) 1) (.int .i64 x23)) fun h13 =>
 bindO (st1 h13 (add (⟨b2, 0, some 0⟩ : Addr) 3) (.int .i64 x24)) fun h14 =>
 bindO (ldI .i64 h13 (add (⟨b, 0, some 0⟩ : Addr) 3)) fun x25 =>
 condK (x25 == x24) (
 some (inl (((some (⟨b1, 0, some 0⟩ : Addr)), (some (⟨b2, 0, some 0⟩ : Addr))), h14))) none) (
 condK (x1 == 6) (
 condK (x1 == 6) (
 bindO (ldI .i64 h3 (add (⟨b, 0, some 0⟩ : Addr) 3)) fun x26 =>
 bindO (st1 h3 (add (⟨b2, 0, some 0⟩ : Addr) 3) (.int .i64 x26)) fun h15 =>
 some (inl (((some (⟨b1, 0, some 0⟩ : Addr)), (some (⟨b2, 0, some 0⟩ : Addr))), h15))) (
 condK (x1 == 8) (
 bindO (ldI .i64 h3 (add (⟨b, 0, some 0⟩ : Addr) 3)) fun x27 =>
 bindO (ldB h3 (add (⟨b, 0, some 0⟩ : Addr) 6)) fun x28 =>
 bindO (st1 h3 (add (⟨b2, 0, some 0⟩ : Addr) 3) (.int .i64 x27)) fun h16 =>
 bindO (st1 h16 (add (⟨b2, 0, some 0⟩ : Addr) 6) (.bool x28)) fun h17 =>
 bindO (ldB h16 (add (⟨b, 0, some 0⟩ : Addr) 6)) fun x29 =>
 condK (x29 == x28) (
 some (inl (((some (⟨b1, 0, some 0⟩ : Addr)), (some (⟨b2, 0, some 0⟩ : Addr))), h17))) none) (
 condK (x1 == 9) (
 bindO (ldL h3 (add (⟨b, 0, some 0⟩ : Addr) 7)) fun x30 =>
 bindO (st1 h3 (add (⟨b2, 0, some 0⟩ : Addr) 7) (.slice x30.base x30.len x30.cap)) fun h18 =>
 some (inl (((some (⟨b1, 0, some 0⟩ : Addr)), (some (⟨b2, 0, some 0⟩ : Addr))), h18))) (
 condK (x1 == 10) (
 condK (x1 == 10) (
 bindO (ldI .i64 h3 (add (⟨b, 0, some 0⟩ : Addr) 1)) fun x31 =>
 bindO (st1 h3 (add (⟨b2, 0, some 0⟩ : Addr) 1) (.int .i64 x31)) fun h19 =>
 some (inl (((some (⟨b1, 0, some 0⟩ : Addr)), (some (⟨b2, 0, some 0⟩ : Addr))), h19))) (
 some (inl (((some (⟨b1, 0, some 0⟩ : Addr)), (some (⟨b2, 0, some 0⟩ : Addr))), h3)))) (
 condK (x1 == 11) (
 bindO (ldI .i64 h3 (add (⟨b, 0, some 0⟩ : Addr) 1)) fun x32 =>
 bindO (st1 h3 (add (⟨b2, 0, some 0⟩ : Addr) 1) (.int .i64 x32)) fun h20 =>
 some (inl (((some (⟨b1, 0, some 0⟩ : Addr)), (some (⟨b2, 0, some 0⟩ : Addr))), h20))) (
 some (inl (((some (⟨b1, 0, some 0⟩ : Addr)), (some (⟨b2, 0, some 0⟩ : Addr))), h3)))))))) (
 condK (x1 == 12) (
 bindO (ldI .i64 h3 (add (⟨b, 0, some 0⟩ : Addr) 3)) fun x33 =>
 bindO (st1 h3 (add (⟨b2, 0, some 0⟩ : Addr) 3) (.int .i64 x33)) fun h21 =>
 some (inl (((some (⟨b1, 0, some 0⟩ : Addr)), (some (⟨b2, 0, some 0⟩ : Addr))), h21))) (
 condK (x1 == 8) (
 bindO (ldI .i64 h3 (add (⟨b, 0, some 0⟩ : Addr) 3)) fun x34 =>
 bindO (ldB h3 (add (⟨b, 0, some 0⟩ : Addr) 6)) fun x35 =>
 bindO (st1 h3 (add (⟨b2, 0, some 0⟩ : Addr) 3) (.int .i64 x34)) fun h22 =>
 bindO (st1 h22 (add (⟨b2, 0, some 0⟩ : Addr) 6) (.bool x35)) fun h23 =>
 bindO (ldB h22 (add (⟨b, 0, some 0⟩ : Addr) 6)) fun x36 =>
 condK (x36 == x35) (
 some (inl (((some (⟨b1, 0, some 0⟩ : Addr)), (some (⟨b2, 0, some 0⟩ : Addr))), h23))) none) (
 condK (x1 == 9) (
 bindO (ldL h3 (add (⟨b, 0, some 0⟩ : Addr) 7)) fun x37 =>
 bindO (st1 h3 (add (⟨b2, 0, some 0⟩ : Addr) 7) (.slice x37.base x37.len x37.cap)) fun h24 =>
 some (inl (((some (⟨b1, 0, some 0⟩ : Addr)), (some (⟨b2, 0, some 0⟩ : Addr))), h24))) (
 condK (x1 == 10) (
 condK (x1 == 10) (
 bindO (ldI .i64 h3 (add (⟨b, 0, some 0⟩ : Addr) 1)) fun x38 =>
 bindO (st1 h3 (add (⟨b2, 0, some 0⟩ : Addr) 1) (.int .i64 x38)) fun h25 =>
 some (inl (((some (⟨b1, 0, some 0⟩ : Addr)), (some (⟨b2, 0, some 0⟩ : Addr))), h25))) (
 some (inl (((some (⟨b1, 0, some 0⟩ : Addr)), (some (⟨b2, 0, some 0⟩ : Addr))), h3)))) (
 condK (x1 == 11) (
 bindO (ldI .i64 h3 (add (⟨b, 0, some 0⟩ : Addr) 1)) fun x39 =>
 bindO (st1 h3 (add (⟨b2, 0, some 0⟩ : Addr) 1) (.int .i64 x39)) fun h26 =>
 some (inl (((some (⟨b1, 0, some 0⟩ : Addr)), (some (⟨b2, 0, some 0⟩ : Addr))), h26))) (
 some (inl (((some (⟨b1, 0, some 0⟩ : Addr)), (some (⟨b2, 0, some 0⟩ : Addr))), h3)))))))))) (
 condK (x1 == 7) (
 bindO (ldI .i64 h3 (add (⟨b, 0, some 0⟩ : Addr) 1)) fun x40 =>
 bindO (ldI .i64 h3 (add (⟨b, 0, some 0⟩ : Addr) 3)) fun x41 =>
 bindO (st1 h3 (add (⟨b2, 0, some 0⟩ : Addr) 1) (.int .i64 x40)) fun h27 =>
 bindO (st1 h27 (add (⟨b2, 0, some 0⟩ : Addr) 3) (.int .i64 x41)) fun h28 =>
 bindO (ldI .i64 h27 (add (⟨b, 0, some 0⟩ : Addr) 3)) fun x42 =>
 condK (x42 == x41) (
 some (inl (((some (⟨b1, 0, some 0⟩ : Addr)), (some (⟨b2, 0, some 0⟩ : Addr))), h28))) none) (
 condK (x1 == 6) (
 condK (x1 == 6) (
 bindO (ldI .i64 h3 (add (⟨b, 0, some 0⟩ : Addr) 3)) fun x43 =>
 bindO (st1 h3 (add (⟨b2, 0, some 0⟩ : Addr) 3) (.int .i64 x43)) fun h29 =>
 some (inl (((some (⟨b1, 0, some 0⟩ : Addr)), (some (⟨b2, 0, some 0⟩ : Addr))), h29))) (
 condK (x1 == 8) (
 bindO (ldI .i64 h3 (add (⟨b, 0, some 0⟩ : Addr) 3)) fun x44 =>
 bindO (ldB h3 (add (⟨b, 0, some 0⟩ : Addr) 6)) fun x45 =>
 bindO (st1 h3 (add (⟨b2, 0, some 0⟩ : Addr) 3) (.int .i64 x44)) fun h30 =>
 bindO (st1 h30 (add (⟨b2, 0, some 0⟩ : Addr) 6) (.bool x45)) fun h31 =>
 bindO (ldB h30 (add (⟨b, 0, some 0⟩ : Addr) 6)) fun x46 =>
 condK (x46 == x45) (
 some (inl (((some (⟨b1, 0, some 0⟩ : Addr)), (some (⟨b2, 0, some 0⟩ : Addr))), h31))) none) (
 condK (x1 == 9) (
 bindO (ldL h3 (add (⟨b, 0, some 0⟩ : Addr) 7)) fun x47 =>
 bindO (st1 h3 (add (⟨b2, 0, some 0⟩ : Addr) 7) (.slice x47.base x47.len x47.cap)) fun h32 =>
 some (inl (((some (⟨b1, 0, some 0⟩ : Addr)), (some (⟨b2, 0, some 0⟩ : Addr))), h32))) (
 condK (x1 == 10) (
 condK (x1 == 10) (
 bindO (ldI .i64 h3 (add (⟨b, 0, some 0⟩ : Addr) 1)) fun x48 =>
 bindO (st1 h3 (add (⟨b2, 0, some 0⟩ : Addr) 1) (.int .i64 x48)) fun h33 =>
 some (inl (((some (⟨b1, 0, some 0⟩ : Addr)), (some (⟨b2, 0, some 0⟩ : Addr))), h33))) (
 some (inl (((some (⟨b1, 0, some 0⟩ : Addr)), (some (⟨b2, 0, some 0⟩ : Addr))), h3)))) (
 condK (x1 == 11) (
 bindO (ldI .i64 h3 (add (⟨b, 0, some 0⟩ : Addr) 1)) fun x49 =>
 bindO (st1 h3 (add (⟨b2, 0, some 0⟩ : Addr) 1) (.int .i64 x49)) fun h34 =>
 some (inl (((some (⟨b1, 0, some 0⟩ : Addr)), (some (⟨b2, 0, some 0⟩ : Addr))), h34))) (
 some (inl (((some (⟨b1, 0, some 0⟩ : Addr)), (some (⟨b2, 0, some 0⟩ : Addr))), h3)))))))) (
 condK (x1 == 12) (
 bindO (ldI .i64 h3 (add (⟨b, 0, some 0⟩ : Addr) 3)) fun x50 =>
 bindO (st1 h3 (add (⟨b2, 0, some 0⟩ : Addr) 3) (.int .i64 x50)) fun h35 =>
 some (inl (((some (⟨b1, 0, some 0⟩ : Addr)), (some (⟨b2, 0, some 0⟩ : Addr))), h35))) (
 condK (x1 == 8) (
 bindO (ldI .i64 h3 (add (⟨b, 0, some 0⟩ : Addr) 3)) fun x51 =>
 bindO (ldB h3 (add (⟨b, 0, some 0⟩ : Addr) 6)) fun x52 =>
 bindO (st1 h3 (add (⟨b2, 0, some 0⟩ : Addr) 3) (.int .i64 x51)) fun h36 =>
 bindO (st1 h36 (add (⟨b2, 0, some 0⟩ : Addr) 6) (.bool x52)) fun h37 =>
 bindO (ldB h36 (add (⟨b, 0, some 0⟩ : Addr) 6)) fun x53 =>
 condK (x53 == x52) (
 some (inl (((some (⟨b1, 0, some 0⟩ : Addr)), (some (⟨b2, 0, some 0⟩ : Addr))), h37))) none) (
 condK (x1 == 9) (
 bindO (ldL h3 (add (⟨b, 0, some 0⟩ : Addr) 7)) fun x54 =>
 bindO (st1 h3 (add (⟨b2, 0, some 0⟩ : Addr) 7) (.slice x54.base x54.len x54.cap)) fun h38 =>
 some (inl (((some (⟨b1, 0, some 0⟩ : Addr)), (some (⟨b2, 0, some 0⟩ : Addr))), h38))) (
 condK (x1 == 10) (
 condK (x1 == 10) (
 bindO (ldI .i64 h3 (add (⟨b, 0, some 0⟩ : Addr) 1)) fun x55 =>
 bindO (st1 h3 (add (⟨b2, 0, some 0⟩ : Addr) 1) (.int .i64 x55)) fun h39 =>
 some (inl (((some (⟨b1, 0, some 0⟩ : Addr)), (some (⟨b2, 0, some 0⟩ : Addr))), h39))) (
 some (inl (((some (⟨b1, 0, some 0⟩ : Addr)), (some (⟨b2, 0, some 0⟩ : Addr))), h3)))) (
 condK (x1 == 11) (
 bindO (ldI .i64 h3 (add (⟨b, 0, some 0⟩ : Addr) 1)) fun x56 =>
 bindO (st1 h3 (add (⟨b2, 0, some 0⟩ : Addr) 1) (.int .i64 x56)) fun h40 =>
 some (inl (((some (⟨b1, 0, some 0⟩ : Addr)), (some (⟨b2, 0, some 0⟩ : Addr))), h40))) (
 some (inl (((some (⟨b1, 0, some 0⟩ : Addr)), (some (⟨b2, 0, some 0⟩ : Addr))), h3)))))))))))))) fun (((x1, out), h4) : (((Option Addr) × (Option Addr)) × H)) =>
 ptrK out fun a0 =>
 bindO (ldZ j9 h4 a0) fun ((x2, x3, x4, x5, x6, x7, x8, x9, x10) : J9) =>
 ptrK x1 fun a1 =>
 bindO (stZ j9 h4 a1 ((x2, x3, x4, x5, x6, x7, x8, x9, x10) : J9)) fun h5 =>
 ptrK x1 fun a2 =>
 bindO (ldZ j9 h5 a2) fun ((x11, x12, x13, x14, x15, x16, x17, x18, x19) : J9) =>
 some ((x11, (x12, (x13, (x14, (x15, (x16, (x17, (x18, x19)))))))), h5)
def ann_90 : Ann := ⟨fun i => bif i.beq 22 then some ⟨[2, 3], [eP_, eP_]⟩ else none, fun _ => none, fun _ => none⟩
def E_90 : Ent := V_90 frame_bare
theorem eq_90 : runE [] ann_90 Try.f90 (V_90 frame_bare) = (V_90 frame_bare).g := by kernel_rfl
theorem ok_90 : E_90.ok Tab.D := entT entN (by kernel_rfl) (by kernel_rfl) (by kernel_rfl) eq_90
/-! slices_Equal_byte -/
abbrev T_144 := Sl → Sl → H → Option ((Bool) × H)
abbrev V_144 (f : T_144) : Ent := ⟨144, [eL_, eL_], [eB_], fun (x : Sl × Sl) h => f x.1 x.2 h⟩
def slices_Equal_byte_l1 : ((Sl × (Sl × (Int × Int))) × H) → Option (((Sl × (Sl × (Int × Int))) × H) ⊕ (Bool × H)) := fun ((s1, (s2, (x0, x1))), h0) =>
 condK (decide ((x1 < x0))) (
 bindO (ixT 1 s1 x1) fun a0 =>
 bindO (ldI .u8 h0 a0) fun x2 =>
 bindO (ixT 1 s2 x1) fun a1 =>
 bindO (ldI .u8 h0 a1) fun x3 =>
 condK (x2 != x3) (
 some (inr (false, h0))) (
 some (inl ((s1, (s2, (x0, (IntKind.wrap .i64 (x1 + 1))))), h0)))) (
 some (inr (true, h0)))

def slices_Equal_byte (s1 : Sl) (s2 : Sl) (h : H) : Option (Bool × H) :=
 condK (((s1.len : Nat) : Int) != ((s2.len : Nat) : Int)) (
 some (false, h)) (
 loopO slices_Equal_byte_l1 ((s1, (s2, (((s1.len : Nat) : Int), 0))), h))
def ann_144 : Ann := ⟨fun _ => none, fun i => bif i.beq 4 then some ⟨[0, 1, 12, 13], [eL_, eL_, eI_, eI_]⟩ else none, fun _ => none⟩
def E_144 : Ent := V_144 slices_Equal_byte
theorem eq_144 : runE [] ann_144 Try.f144 (V_144 slices_Equal_byte) = (V_144 slices_Equal_byte).g := by kernel_rfl
theorem ok_144 : E_144.ok Tab.D := entT entN (by kernel_rfl) (by kernel_rfl) (by kernel_rfl) eq_144
/-! slices_Equal_2_int_2_int -/
abbrev T_145 := Sl → Sl → H → Option ((Bool) × H)
abbrev V_145 (f : T_145) : Ent := ⟨145, [eL_, eL_], [eB_], fun (x : Sl × Sl) h => f x.1 x.2 h⟩
def slices_Equal_2_int_2_int_l1 : ((Sl × (Sl × (Int × Int))) × H) → Option (((Sl × (Sl × (Int × Int))) × H) ⊕ (Bool × H)) := fun ((s1, (s2, (x0, x1))), h0) =>
 condK (decide ((x1 < x0))) (
 bindO (ixT 2 s1 x1) fun a0 =>
 bindO (ldZ [.int .i64, .int .i64] h0 a0) fun ((x2, x3) : Int × Int) =>
 bindO (ixT 2 s2 x1) fun a1 =>
 bindO (ldZ [.int .i64, .int .i64] h0 a1) fun ((x4, x5) : Int × Int) =>
 condK (!((x2 == x4) && ((x3 == x5) && true))) (
 some (inr (false, h0))) (
 some (inl ((s1, (s2, (x0, (IntKind.wrap .i64 (x1 + 1))))), h0)))) (
 some (inr (true, h0)))

def slices_Equal_2_int_2_int (s1 : Sl) (s2 : Sl) (h : H) : Option (Bool × H) :=
 condK (((s1.len : Nat) : Int) != ((s2.len : Nat) : Int)) (
 some (false, h)) (
 loopO slices_Equal_2_int_2_int_l1 ((s1, (s2, (((s1.len : Nat) : Int), 0))), h))
def ann_145 : Ann := ⟨fun _ => none, fun i => bif i.beq 4 then some ⟨[0, 1, 12, 13], [eL_, eL_, eI_, eI_]⟩ else none, fun _ => none⟩
def E_145 : Ent := V_145 slices_Equal_2_int_2_int
theorem eq_145 : runE [] ann_145 Try.f145 (V_145 slices_Equal_2_int_2_int) = (V_145 slices_Equal_2_int_2_int).g := by kernel_rfl
theorem ok_145 : E_145.ok Tab.D := entT entN (by kernel_rfl) (by kernel_rfl) (by kernel_rfl) eq_145
/-! frame_same -/
abbrev T_89 := (J9) → (J9) → H → Option ((Bool) × H)
abbrev V_89 (f : T_89) : Ent := ⟨89, [⟨true, j9⟩, ⟨true, j9⟩], [eB_], fun (x : ((J9)) × ((J9))) h => f x.1 x.2 h⟩
def P.frame_same (slices_Equal_byte : T_144) (slices_Equal_2_int_2_int : T_145) (a0 : J9) (b : J9) (h : H) : Option (Bool × H) :=
 newO (row 33 [(.int .i64 a0.1), (.int .i64 a0.2.1), (.int .i64 a0.2.2.1), (.int .i64 a0.2.2.2.1), (.int .i64 a0.2.2.2.2.1), (.int .i64 a0.2.2.2.2.2.1), (.bool a0.2.2.2.2.2.2.1), (.slice a0.2.2.2.2.2.2.2.1.base a0.2.2.2.2.2.2.2.1.len a0.2.2.2.2.2.2.2.1.cap), (.slice a0.2.2.2.2.2.2.2.2.base a0.2.2.2.2.2.2.2.2.len a0.2.2.2.2.2.2.2.2.cap)]) h fun b1 h0 =>
 newO (row 33 [(.int .i64 b.1), (.int .i64 b.2.1), (.int .i64 b.2.2.1), (.int .i64 b.2.2.2.1), (.int .i64 b.2.2.2.2.1), (.int .i64 b.2.2.2.2.2.1), (.bool b.2.2.2.2.2.2.1), (.slice b.2.2.2.2.2.2.2.1.base b.2.2.2.2.2.2.2.1.len b.2.2.2.2.2.2.2.1.cap), (.slice b.2.2.2.2.2.2.2.2.base b.2.2.2.2.2.2.2.2.len b.2.2.2.2.2.2.2.2.cap)]) h0 fun b2 h1 =>
 bindO (ldI .i64 h1 (add (⟨b1, 0, some 0⟩ : Addr) 0)) fun x0 =>
 bindO (ldI .i64 h1 (add (⟨b2, 0, some 0⟩ : Addr) 0)) fun x1 =>
 condK (x0 == x1) (
 bindO (ldI .i64 h1 (add (⟨b1, 0, some 0⟩ : Addr) 1)) fun x2 =>
 bindO (ldI .i64 h1 (add (⟨b2, 0, some 0⟩ : Addr) 1)) fun x3 =>
 condK (x2 == x3) (
 bindO (ldI .i64 h1 (add (⟨b1, 0, some 0⟩ : Addr) 2)) fun x4 =>
 bindO (ldI .i64 h1 (add (⟨b2, 0, some 0⟩ : Addr) 2)) fun x5 =>
 condK (x4 == x5) (
 bindO (ldI .i64 h1 (add (⟨b1, 0, some 0⟩ : Addr) 3)) fun x6 =>
 bindO (ldI .i64 h1 (add (⟨b2, 0, some 0⟩ : Addr) 3)) fun x7 =>
 condK (x6 == x7) (
 bindO (ldI .i64 h1 (add (⟨b1, 0, some 0⟩ : Addr) 4)) fun x8 =>
 bindO (ldI .i64 h1 (add (⟨b2, 0, some 0⟩ : Addr) 4)) fun x9 =>
 condK (x8 == x9) (
 bindO (ldB h1 (add (⟨b1, 0, some 0⟩ : Addr) 6)) fun x10 =>
 bindO (ldB h1 (add (⟨b2, 0, some 0⟩ : Addr) 6)) fun x11 =>
 condK (x10 == x11) (
 bindO (ldL h1 (add (⟨b1, 0, some 0⟩ : Addr) 7)) fun x12 =>
 bindO (ldL h1 (add (⟨b2, 0, some 0⟩ : Addr) 7)) fun x13 =>
 bind2 (slices_Equal_byte x12 x13 h1) fun x14 h2 =>
 condK x14 (
 bindO (ldL h2 (add (⟨b1, 0, some 0⟩ : Addr) 8)) fun x15 =>
 bindO (ldL h2 (add (⟨b2, 0, some 0⟩ : Addr) 8)) fun x16 =>
 bind2 (slices_Equal_2_int_2_int x15 x16 h2) fun x17 h3 =>
 some (x17, h3)) (
 some (false, h2))) (
 some (false, h1))) (
 some (false, h1))) (
 some (false, h1))) (
 some (false, h1))) (
 some (false, h1))) (
 some (false, h1))
def frame_same : (J9) → (J9) → H → Option ((Bool) × H) := P.frame_same slices_Equal_byte slices_Equal_2_int_2_int
def ann_89 : Ann := ⟨fun _ => none, fun _ => none, fun _ => none⟩
def E_89 : Ent := V_89 frame_same
theorem eq_89 (slices_Equal_byte : T_144) (slices_Equal_2_int_2_int : T_145) : runE [V_144 slices_Equal_byte, V_145 slices_Equal_2_int_2_int] ann_89 Try.f89 (V_89 (P.frame_same slices_Equal_byte slices_Equal_2_int_2_int)) = (V_89 (P.frame_same slices_Equal_byte slices_Equal_2_int_2_int)).g := by kernel_rfl
theorem ok_89 : E_89.ok Tab.D := entT (entC ok_144 (entC ok_145 entN)) (by kernel_rfl) (by kernel_rfl) (by kernel_rfl) (eq_89 slices_Equal_byte slices_Equal_2_int_2_int)
/-! frame_may_1 -/
abbrev T_147 := Int → H → Option ((Bool) × H)
abbrev V_147 (f : T_147) : Ent := ⟨147, [eI_], [eB_], fun (x : Int) h => f x h⟩
def frame_may_1 (n : Int) (h : H) : Option (Bool × H) :=
 condK (decide ((n < 0))) (
 some (true, h)) (
 some ((decide ((n > 4611686018427387903))), h))
def ann_147 : Ann := ⟨fun _ => none, fun _ => none, fun _ => none⟩
def E_147 : Ent := V_147 frame_may_1
theorem eq_147 : runE [] ann_147 Try.f147 (V_147 frame_may_1) = (V_147 frame_may_1).g := by kernel_rfl
theorem ok_147 : E_147.ok Tab.D := entT entN (by kernel_rfl) (by kernel_rfl) (by kernel_rfl) eq_147
/-! slices_IndexFunc_int_frame_may_1 -/
abbrev T_166c147 := Sl → Unit → H → Option ((Int) × H)
abbrev V_166c147 (f : T_166c147) : Ent := ⟨166, [eL_, ⟨false, [.clo 147 0]⟩], [eI_], fun (x : Sl × Unit) h => f x.1 x.2 h⟩
def P.slices_IndexFunc_int_frame_may_1_l1 (frame_may_1 : T_147) : ((Sl × (PUnit × (Int × Int))) × H) → Option (((Sl × (PUnit × (Int × Int))) × H) ⊕ (Int × H)) := fun ((s, ((), (f, x0))), h0) =>
 condK (decide ((x0 < f))) (
 bindO (ixT 1 s x0) fun a0 =>
 bindO (ldI .i64 h0 a0) fun x1 =>
 bind2 (frame_may_1 x1 h0) fun x2 h1 =>
 condK x2 (
 some (inr (x0, h1))) (
 some (inl ((s, ((), (f, (IntKind.wrap .i64 (x0 + 1))))), h1)))) (
 some (inr ((-1), h0)))

def P.slices_IndexFunc_int_frame_may_1 (frame_may_1 : T_147) (s : Sl) (f : Unit) (h : H) : Option (Int × H) :=
 loopO (P.slices_IndexFunc_int_frame_may_1_l1 frame_may_1) ((s, ((), (((s.len : Nat) : Int), 0))), h)
abbrev slices_IndexFunc_int_frame_may_1_l1 := P.slices_IndexFunc_int_frame_may_1_l1 frame_may_1
def slices_IndexFunc_int_frame_may_1 : Sl → Unit → H → Option ((Int) × H) := P.slices_IndexFunc_int_frame_may_1 frame_may_1
def ann_166c147 : Ann := ⟨fun _ => none, fun i => bif i.beq 2 then some ⟨[0, 1, 7, 8], [eL_, ⟨false, [.clo 147 0]⟩, eI_, eI_]⟩ else none, fun _ => none⟩
def E_166c147 : Ent := V_166c147 slices_IndexFunc_int_frame_may_1
theorem eq_166c147 (frame_may_1 : T_147) : runE [V_147 frame_may_1] ann_166c147 Try.f166 (V_166c147 (P.slices_IndexFunc_int_frame_may_1 frame_may_1)) = (V_166c147 (P.slices_IndexFunc_int_frame_may_1 frame_may_1)).g := by kernel_rfl
theorem ok_166c147 : E_166c147.ok Tab.D := entT (entC ok_147 entN) (by kernel_rfl) (by kernel_rfl) (by kernel_rfl) (eq_166c147 frame_may_1)
/-! slices_ContainsFunc_int_frame_may_1 -/
abbrev T_146c147 := Sl → Unit → H → Option ((Bool) × H)
abbrev V_146c147 (f : T_146c147) : Ent := ⟨146, [eL_, ⟨false, [.clo 147 0]⟩], [eB_], fun (x : Sl × Unit) h => f x.1 x.2 h⟩
def P.slices_ContainsFunc_int_frame_may_1 (slices_IndexFunc_int_frame_may_1 : T_166c147) (s : Sl) (f : Unit) (h : H) : Option (Bool × H) :=
 bind2 (slices_IndexFunc_int_frame_may_1 s () h) fun x0 h0 =>
 some ((decide ((x0 ≥ 0))), h0)
def slices_ContainsFunc_int_frame_may_1 : Sl → Unit → H → Option ((Bool) × H) := P.slices_ContainsFunc_int_frame_may_1 slices_IndexFunc_int_frame_may_1
def ann_146c147 : Ann := ⟨fun _ => none, fun _ => none, fun _ => none⟩
def E_146c147 : Ent := V_146c147 slices_ContainsFunc_int_frame_may_1
theorem eq_146c147 (slices_IndexFunc_int_frame_may_1 : T_166c147) : runE [V_166c147 slices_IndexFunc_int_frame_may_1] ann_146c147 Try.f146 (V_146c147 (P.slices_ContainsFunc_int_frame_may_1 slices_IndexFunc_int_frame_may_1)) = (V_146c147 (P.slices_ContainsFunc_int_frame_may_1 slices_IndexFunc_int_frame_may_1)).g := by kernel_rfl
theorem ok_146c147 : E_146c147.ok Tab.D := entT (entC ok_166c147 entN) (by kernel_rfl) (by kernel_rfl) (by kernel_rfl) (eq_146c147 slices_IndexFunc_int_frame_may_1)
/-! frame_may -/
abbrev T_91 := Sl → H → Option ((Bool) × H)
abbrev V_91 (f : T_91) : Ent := ⟨91, [eL_], [eB_], fun (x : Sl) h => f x h⟩
def P.frame_may (slices_ContainsFunc_int_frame_may_1 : T_146c147) (l : Sl) (h : H) : Option (Bool × H) :=
 bind2 (slices_ContainsFunc_int_frame_may_1 l () h) fun x0 h0 =>
 some ((!x0), h0)
def frame_may : Sl → H → Option ((Bool) × H) := P.frame_may slices_ContainsFunc_int_frame_may_1
def ann_91 : Ann := ⟨fun _ => none, fun _ => none, fun _ => none⟩
def E_91 : Ent := V_91 frame_may
theorem eq_91 (slices_ContainsFunc_int_frame_may_1 : T_146c147) : runE [V_146c147 slices_ContainsFunc_int_frame_may_1] ann_91 Try.f91 (V_91 (P.frame_may slices_ContainsFunc_int_frame_may_1)) = (V_91 (P.frame_may slices_ContainsFunc_int_frame_may_1)).g := by kernel_rfl
theorem ok_91 : E_91.ok Tab.D := entT (entC ok_146c147 entN) (by kernel_rfl) (by kernel_rfl) (by kernel_rfl) (eq_91 slices_ContainsFunc_int_frame_may_1)
/-! frame_rightSpans -/
abbrev T_92 := Sl → H → Option ((Bool) × H)
abbrev V_92 (f : T_92) : Ent := ⟨92, [eL_], [eB_], fun (x : Sl) h => f x h⟩
def P.frame_rightSpans_l1 (frame_may : T_91) : ((Sl × (Sl × (Int × Int))) × H) → Option (((Sl × (Sl × (Int × Int))) × H) ⊕ ((Sl × H) ⊕ (Bool × H))) := fun ((l, (x0, (x1, x2))), h0) =>
 condK (decide ((x2 < x1))) (
 bindO (ixT 2 x0 x2) fun a0 =>
 bindO (ldZ [.int .i64, .int .i64] h0 a0) fun ((x3, x4) : Int × Int) =>
 newO (row 36 [(.int .i64 0), (.int .i64 0)]) h0 fun b h1 =>
 bindO (stZ [.int .i64, .int .i64] h1 (⟨b, 0, some 0⟩ : Addr) ((x3, x4) : Int × Int)) fun h2 =>
 joinO (
 letH (growIf h2 30) fun h3 =>
 bindO (ixAT 2 1 (⟨b, 0, some 0⟩ : Addr) 0) fun a1 =>
 bindO (ldI .i64 h3 a1) fun x5 =>
 bindO (ixAT 2 1 (⟨b, 0, some 0⟩ : Addr) 1) fun a2 =>
 bindO (ldI .i64 h3 a2) fun x6 =>
 letH (addP 31 h2.size [(4, (row 3 [(.int .i64 x5), (.int .i64 x6)]))] h3) fun h4 =>
 bind2 (frame_may (⟨(some (⟨(h2.size + 4), 0, some 0⟩ : Addr)), 2, 2⟩ : Sl) h4) fun x7 h5 =>
 condK (!x7) (
 letH (addP 1073741823 h2.size [(4, (row 3 [(.int .i64 x5), (.int .i64 x6)]))] h5) fun h6 =>
 letH (tickIf 30 h6) fun h7 =>
 some (inl ((l, (x0, (x1, (x2, true)))), h7))) (
 bindO (ixAT 2 1 (⟨b, 0, some 0⟩ : Addr) 0) fun a3 =>
 letH (addP 511 h2.size [(4, (row 3 [(.int .i64 x5), (.int .i64 x6)]))] h5) fun h8 =>
 bindO (ldI .i64 h8 a3) fun x8 =>
 bindO (ixAT 2 1 (⟨b, 0, some 0⟩ : Addr) 1) fun a4 =>
 letH (addP 1279 h2.size [(4, (row 3 [(.int .i64 x5), (.int .i64 x6)]))] h5) fun h9 =>
 bindO (ldI .i64 h9 a4) fun x9 =>
 condK (decide ((x8 > x9))) (
 letH (addP 1073741823 h2.size [(4, (row 3 [(.int .i64 x5), (.int .i64 x6)]))] h5) fun h10 =>
 letH (tickIf 30 h10) fun h11 =>
 some (inl ((l, (x0, (x1, (x2, true)))), h11))) (
 condK (decide ((x2 > 0))) (
 bindO (ixT 2 l (IntKind.wrap .i64 (x2 - 1))) fun a5 =>
 bindO (ixAT 2 1 a5 0) fun a6 =>
 letH (addP 8388607 h2.size [(4, (row 3 [(.int .i64 x5), (.int .i64 x6)]))] h5) fun h12 =>
 bindO (ldI .i64 h12 a6) fun x10 =>
 bindO (ixAT 2 1 (⟨b, 0, some 0⟩ : Addr) 1) fun a7 =>
 letH (addP 17039359 h2.size [(4, (row 3 [(.int .i64 x5), (.int .i64 x6)]))] h5) fun h13 =>
 bindO (ldI .i64 h13 a7) fun x11 =>
 letH (addP 1073741823 h2.size [(4, (row 3 [(.int .i64 x5), (.int .i64 x6)]))] h5) fun h14 =>
 letH (tickIf 30 h14) fun h15 =>
 some (inl ((l, (x0, (x1, (x2, (decide (((IntKind.wrap .i64 (x10 - x11)) < 2))))))), h15))) (
 letH (addP 1073741823 h2.size [(4, (row 3 [(.int .i64 x5), (.int .i64 x6)]))] h5) fun h16 =>
 letH (tickIf 30 h16) fun h17 =>
 some (inl ((l, (x0, (x1, (x2, false)))), h17)))))) fun (((l1, (x5, (x6, (x7, x8)))), h3) : ((Sl × (Sl × (Int × (Int × Bool)))) × H)) =>
 condK x8 (
 some (inr (inr (false, h3)))) (
 some (inl ((l1, (x5, (x6, (IntKind.wrap .i64 (x7 + 1))))), h3)))) (
 some (inr (inl (l, h0))))

def P.frame_rightSpans (frame_may : T_91) (l : Sl) (h : H) : Option (Bool × H) :=
 joinO (
 loopO (P.frame_rightSpans_l1 frame_may) ((l, (l, (((l.len : Nat) : Int), 0))), h)) fun ((l1, h0) : (Sl × H)) =>
 condK (decide ((((l1.len : Nat) : Int) ≥ 1))) (
 some ((decide ((((l1.len : Nat) : Int) ≤ 8))), h0)) (
 some (false, h0))
abbrev frame_rightSpans_l1 := P.frame_rightSpans_l1 frame_may
def frame_rightSpans : Sl → H → Option ((Bool) × H) := P.frame_rightSpans frame_may
def ann_92 : Ann := ⟨fun i => bif i.beq 7 then some ⟨[0], [eL_]⟩ else none, fun i => bif i.beq 2 then some ⟨[0, 5, 6, 7], [eL_, eL_, eI_, eI_]⟩ else none, fun i => bif i.beq 4 then some ⟨[0, 5, 6, 7, 41], [eL_, eL_, eI_, eI_, eB_]⟩ else none⟩
def E_92 : Ent := V_92 frame_rightSpans
theorem eq_92 (frame_may : T_91) : runE [V_91 frame_may] ann_92 Try.f92 (V_92 (P.frame_rightSpans frame_may)) = (V_92 (P.frame_rightSpans frame_may)).g := by kernel_rfl
theorem ok_92 : E_92.ok Tab.D := entT (entC ok_91 entN) (by kernel_rfl) (by kernel_rfl) (by kernel_rfl) (eq_92 frame_may)
/-! frame_Right -/
abbrev T_27 := (J9) → H → Option ((Bool) × H)
abbrev V_27 (f : T_27) : Ent := ⟨27, [⟨true, j9⟩], [eB_], fun (x : (J9)) h => f x h⟩
def P.frame_Right (frame_bare : T_90) (frame_same : T_89) (frame_may : T_91) (frame_rightSpans : T_92) (f : J9) (h : H) : Option (Bool × H) :=
 newO (row 33 [(.int .i64 f.1), (.int .i64 f.2.1), (.int .i64 f.2.2.1), (.int .i64 f.2.2.2.1), (.int .i64 f.2.2.2.2.1), (.int .i64 f.2.2.2.2.2.1), (.bool f.2.2.2.2.2.2.1), (.slice f.2.2.2.2.2.2.2.1.base f.2.2.2.2.2.2.2.1.len f.2.2.2.2.2.2.2.1.cap), (.slice f.2.2.2.2.2.2.2.2.base f.2.2.2.2.2.2.2.2.len f.2.2.2.2.2.2.2.2.cap)]) h fun b h0 =>
 joinO (
 letH (growIf h0 34) fun h1 =>
 bindO (ldI .i64 h1 (add (⟨b, 0, some 0⟩ : Addr) 0)) fun x0 =>
 condK (decide ((x0 < 1))) (
 letH (tickIf 34 h1) fun h2 =>
 some (inl (((some (⟨b, 0, some 0⟩ : Addr)), true), h2))) (
 bindO (ldI .i64 h1 (add (⟨b, 0, some 0⟩ : Addr) 0)) fun x1 =>
 condK (decide ((x1 > 12))) (
 letH (tickIf 34 h1) fun h3 =>
 some (inl (((some (⟨b, 0, some 0⟩ : Addr)), true), h3))) (
 bindO (ldZ j9 h1 (⟨b, 0, some 0⟩ : Addr)) fun ((x2, x3, x4, x5, x6, x7, x8, x9, x10) : J9) =>
 bindO (ldZ j9 h1 (⟨b, 0, some 0⟩ : Addr)) fun ((x11, x12, x13, x14, x15, x16, x17, x18, x19) : J9) =>
 bind2 (frame_bare (x11, x12, x13, x14, x15, x16, x17, x18, x19) h1) fun ((x20, x21, x22, x23, x24, x25, x26, x27, x28) : J9) (h4 : H) =>
 bind2 (frame_same (x2, x3, x4, x5, x6, x7, x8, x9, x10) (x20, x21, x22, x23, x24, x25, x26, x27, x28) h4) fun x29 h5 =>
 condK (!x29) (
 bindO (ldZ j9 h4 (⟨b, 0, some 0⟩ : Addr)) fun ((x30, x31, x32, x33, x34, x35, x36, x37, x38) : J9) =>
 condK (veq (.agg #[(.int .i64 x2), (.int .i64 x3), (.int .i64 x4), (.int .i64 x5), (.int .i64 x6), (.int .i64 x7), (.bool x8), (.slice x9.base x9.len x9.cap), (.slice x10.base x10.len x10.cap)]) (.agg #[(.int .i64 x30), (.int .i64 x31), (.int .i64 x32), (.int .i64 x33), (.int .i64 x34), (.int .i64 x35), (.bool x36), (.slice x37.base x37.len x37.cap), (.slice x38.base x38.len x38.cap)])) (
 letH (tickIf 34 h5) fun h6 =>
 some (inl (((some (⟨b, 0, some 0⟩ : Addr)), true), h6))) none) (
 bindO (ldI .i64 h5 (add (⟨b, 0, some 0⟩ : Addr) 1)) fun x39 =>
 bindO (ldI .i64 h5 (add (⟨b, 0, some 0⟩ : Addr) 2)) fun x40 =>
 bindO (ldI .i64 h5 (add (⟨b, 0, some 0⟩ : Addr) 3)) fun x41 =>
 bindO (ldI .i64 h5 (add (⟨b, 0, some 0⟩ : Addr) 4)) fun x42 =>
 letH (addP 33554431 h0.size [(24, (row 3 [(.int .i64 x39), (.int .i64 x40), (.int .i64 x41), (.int .i64 x42)]))] h5) fun h7 =>
 bind2 (frame_may (⟨(some (⟨(h0.size + 24), 0, some 0⟩ : Addr)), 4, 4⟩ : Sl) h7) fun x43 h8 =>
 condK (!x43) (
 letH (addP 511 h0.size [(24, (row 3 [(.int .i64 x39), (.int .i64 x40), (.int .i64 x41), (.int .i64 x42)]))] h4) fun h9 =>
 bindO (ldZ j9 h9 (⟨b, 0, some 0⟩ : Addr)) fun ((x44, x45, x46, x47, x48, x49, x50, x51, x52) : J9) =>
 condK (veq (.agg #[(.int .i64 x2), (.int .i64 x3), (.int .i64 x4), (.int .i64 x5), (.int .i64 x6), (.int .i64 x7), (.bool x8), (.slice x9.base x9.len x9.cap), (.slice x10.base x10.len x10.cap)]) (.agg #[(.int .i64 x44), (.int .i64 x45), (.int .i64 x46), (.int .i64 x47), (.int .i64 x48), (.int .i64 x49), (.bool x50), (.slice x51.base x51.len x51.cap), (.slice x52.base x52.len x52.cap)])) (
 letH (addP 17179869183 h0.size [(24, (row 3 [(.int .i64 x39), (.int .i64 x40), (.int .i64 x41), (.int .i64 x42)]))] h8) fun h10 =>
 letH (tickIf 34 h10) fun h11 =>
 some (inl (((some (⟨b, 0, some 0⟩ : Addr)), true), h11))) none) (
 letH (addP 1073741823 h0.size [(24, (row 3 [(.int .i64 x39), (.int .i64 x40), (.int .i64 x41), (.int .i64 x42)]))] h8) fun h12 =>
 bindO (ldL h12 (add (⟨b, 0, some 0⟩ : Addr) 7)) fun x53 =>
 letH (addP 2147483647 h0.size [(24, (row 3 [(.int .i64 x39), (.int .i64 x40), (.int .i64 x41), (.int .i64 x42)]))] h8) fun h13 =>
 letH (addP 511 h0.size [(24, (row 3 [(.int .i64 x39), (.int .i64 x40), (.int .i64 x41), (.int .i64 x42)]))] h4) fun h14 =>
 bindO (ldZ j9 h14 (⟨b, 0, some 0⟩ : Addr)) fun ((x54, x55, x56, x57, x58, x59, x60, x61, x62) : J9) =>
 condK (veq (.agg #[(.int .i64 x2), (.int .i64 x3), (.int .i64 x4), (.int .i64 x5), (.int .i64 x6), (.int .i64 x7), (.bool x8), (.slice x9.base x9.len x9.cap), (.slice x10.base x10.len x10.cap)]) (.agg #[(.int .i64 x54), (.int .i64 x55), (.int .i64 x56), (.int .i64 x57), (.int .i64 x58), (.int .i64 x59), (.bool x60), (.slice x61.base x61.len x61.cap), (.slice x62.base x62.len x62.cap)])) (
 letH (addP 17179869183 h0.size [(24, (row 3 [(.int .i64 x39), (.int .i64 x40), (.int .i64 x41), (.int .i64 x42)]))] h8) fun h15 =>
 letH (tickIf 34 h15) fun h16 =>
 some (inl (((some (⟨b, 0, some 0⟩ : Addr)), (decide ((((x53.len : Nat) : Int) > 120)))), h16))) none))))) fun (((f1, x0), h1) : (((Option Addr) × Bool) × H)) =>
 condK x0 (
 some (false, h1)) (
 ptrK f1 fun a0 =>
 bindO (ldI .i64 h1 (add a0 0)) fun x1 =>
 condK (x1 == 2) (
 ptrK f1 fun a1 =>
 bindO (ldL h1 (add a1 8)) fun x2 =>
 bind2 (frame_rightSpans x2 h1) fun x3 h2 =>
 some (x3, h2)) (
 condK (x1 == 3) (
 ptrK f1 fun a2 =>
 bindO (ldI .i64 h1 (add a2 2)) fun x4 =>
 ptrK f1 fun a3 =>
 bindO (ldL h1 (add a3 7)) fun x5 =>
 letO ((decide ((x4 ≤ (IntKind.wrap .i64 (4611686018427387903 - ((x5.len : Nat) : Int))))))) fun x6 =>
 some (x6, h1)) (
 condK (x1 == 4) (
 ptrK f1 fun a4 =>
 bindO (ldI .i64 h1 (add a4 4)) fun x7 =>
 ptrK f1 fun a5 =>
 bindO (ldI .i64 h1 (add a5 2)) fun x8 =>
 some ((decide ((x7 ≤ x8))), h1)) (
 condK (x1 == 9) (
 ptrK f1 fun a6 =>
 bindO (ldL h1 (add a6 7)) fun x9 =>
 some ((decide ((((x9.len : Nat) : Int) > 0))), h1)) (
 some (true, h1))))))
def frame_Right : (J9) → H → Option ((Bool) × H) := P.frame_Right frame_bare frame_same frame_may frame_rightSpans
def ann_27 : Ann := ⟨fun _ => none, fun _ => none, fun i => bif i.beq 1 then some ⟨[1, 36], [eP_, eB_]⟩ else none⟩
def E_27 : Ent := V_27 frame_Right
theorem eq_27 (frame_bare : T_90) (frame_same : T_89) (frame_may : T_91) (frame_rightSpans : T_92) : runE [V_90 frame_bare, V_89 frame_same, V_91 frame_may, V_92 frame_rightSpans] ann_27 Try.f27 (V_27 (P.frame_Right frame_bare frame_same frame_may frame_rightSpans)) = (V_27 (P.frame_Right frame_bare frame_same frame_may frame_rightSpans)).g := by kernel_rfl
theorem ok_27 : E_27.ok Tab.D := entT (entC ok_90 (entC ok_89 (entC ok_91 (entC ok_92 entN)))) (by kernel_rfl) (by kernel_rfl) (by kernel_rfl) (eq_27 frame_bare frame_same frame_may frame_rightSpans)
/-! slices_Clone_byte -/
abbrev T_98 := Sl → H → Option ((Sl) × H)
abbrev V_98 (f : T_98) : Ent := ⟨98, [eL_], [eL_], fun (x : Sl) h => f x h⟩
def slices_Clone_byte (s : Sl) (h : H) : Option (Sl × H) :=
 bindO (eqLT s (⟨none, 0, 0⟩ : Sl)) fun x0 =>
 condK x0 (
 some ((⟨none, 0, 0⟩ : Sl), h)) (
 newO (row 5 []) h fun b h0 =>
 bind2 (appT 5 1 1 h0 (⟨(some (⟨b, 0, some 0⟩ : Addr)), 0, 0⟩ : Sl) s) fun x1 h1 =>
 some (x1, h1))
def ann_98 : Ann := ⟨fun _ => none, fun _ => none, fun _ => none⟩
def E_98 : Ent := V_98 slices_Clone_byte
theorem eq_98 : runE [] ann_98 Try.f98 (V_98 slices_Clone_byte) = (V_98 slices_Clone_byte).g := by kernel_rfl
theorem ok_98 : E_98.ok Tab.D := entT entN (by kernel_rfl) (by kernel_rfl) (by kernel_rfl) eq_98
/-! slices_Clip_byte -/
abbrev T_97 := Sl → H → Option ((Sl) × H)
abbrev V_97 (f : T_97) : Ent := ⟨97, [eL_], [eL_], fun (x : Sl) h => f x h⟩
def slices_Clip_byte (s : Sl) (h : H) : Option (Sl × H) :=
 bindO (slT 1 h s none (some ((s.len : Nat) : Int)) (some ((s.len : Nat) : Int))) fun x0 =>
 some (x0, h)
def ann_97 : Ann := ⟨fun _ => none, fun _ => none, fun _ => none⟩
def E_97 : Ent := V_97 slices_Clip_byte
theorem eq_97 : runE [] ann_97 Try.f97 (V_97 slices_Clip_byte) = (V_97 slices_Clip_byte).g := by kernel_rfl
theorem ok_97 : E_97.ok Tab.D := entT entN (by kernel_rfl) (by kernel_rfl) (by kernel_rfl) eq_97
/-! slices_Grow_byte -/
abbrev T_149 := Sl → Int → H → Option ((Sl) × H)
abbrev V_149 (f : T_149) : Ent := ⟨149, [eL_, eI_], [eL_], fun (x : Sl × Int) h => f x.1 x.2 h⟩
def slices_Grow_byte (s : Sl) (n : Int) (h : H) : Option (Sl × H) :=
 joinO (
 condK (decide ((n < 0))) (
 none) (
 some (inl ((s, n), h)))) fun (((s1, n1), h0) : ((Sl × Int) × H)) =>
 joinO (
 bindO (capT s1) fun x0 =>
 letO ((IntKind.wrap .i64 (n1 - (IntKind.wrap .i64 (x0 - ((s1.len : Nat) : Int)))))) fun x1 =>
 condK (decide ((x1 > 0))) (
 bindO (capT s1) fun x2 =>
 bindO (slT 1 h0 s1 none (some x2) none) fun x3 =>
 bind2 (appNT 5 1 1 (.int .u8 0) h0 x3 x1) fun x4 h1 =>
 bindO (slT 1 h1 x4 none (some ((s1.len : Nat) : Int)) none) fun x5 =>
 some (inl (x5, h1))) (
 some (inl (s1, h0)))) fun ((s2, h1) : (Sl × H)) =>
 some (s2, h1)
def ann_149 : Ann := ⟨fun i => bif i.beq 3 then some ⟨[0, 1], [eL_, eI_]⟩ else bif i.beq 6 then some ⟨[0], [eL_]⟩ else none, fun _ => none, fun _ => none⟩
def E_149 : Ent := V_149 slices_Grow_byte
theorem eq_149 : runE [] ann_149 Try.f149 (V_149 slices_Grow_byte) = (V_149 slices_Grow_byte).g := by kernel_rfl
theorem ok_149 : E_149.ok Tab.D := entT entN (by kernel_rfl) (by kernel_rfl) (by kernel_rfl) eq_149
/-! slices_Concat_byte -/
abbrev T_99 := Sl → H → Option ((Sl) × H)
abbrev V_99 (f : T_99) : Ent := ⟨99, [eL_], [eL_], fun (x : Sl) h => f x h⟩
def P.slices_Concat_byte_l2 (slices_Grow_byte : T_149) : ((Sl × (Sl × (Int × Int))) × H) → Option (((Sl × (Sl × (Int × Int))) × H) ⊕ ((Sl × H) ⊕ (Sl × H))) := fun ((newslice, (x0, (x1, x2))), h0) =>
 condK (decide ((x2 < x1))) (
 bindO (ixT 1 x0 x2) fun a0 =>
 bindO (ldL h0 a0) fun x3 =>
 bind2 (appT 5 1 1 h0 newslice x3) fun x4 h1 =>
 some (inl ((x4, (x0, (x1, (IntKind.wrap .i64 (x2 + 1))))), h1))) (
 some (inr (inl (newslice, h0))))

def P.slices_Concat_byte_l1 (slices_Grow_byte : T_149) : ((Sl × (Int × (Sl × (Int × Int)))) × H) → Option (((Sl × (Int × (Sl × (Int × Int)))) × H) ⊕ (((Sl × Int) × H) ⊕ (Sl × H))) := fun ((slices, (size, (x0, (x1, x2)))), h0) =>
 condK (decide ((x2 < x1))) (
 joinO (
 bindO (ixT 1 x0 x2) fun a0 =>
 bindO (ldL h0 a0) fun x3 =>
 condK (decide (((IntKind.wrap .i64 (size + ((x3.len : Nat) : Int))) < 0))) (
 none) (
 some (inl ((slices, ((IntKind.wrap .i64 (size + ((x3.len : Nat) : Int))), (x0, (x1, x2)))), h0)))) fun (((slices1, (size1, (x3, (x4, x5)))), h1) : ((Sl × (Int × (Sl × (Int × Int)))) × H)) =>
 some (inl ((slices1, (size1, (x3, (x4, (IntKind.wrap .i64 (x5 + 1)))))), h1))) (
 some (inr (inl ((slices, size), h0))))

def P.slices_Concat_byte (slices_Grow_byte : T_149) (slices : Sl) (h : H) : Option (Sl × H) :=
 joinO (
 loopO (P.slices_Concat_byte_l1 slices_Grow_byte) ((slices, (0, (slices, (((slices.len : Nat) : Int), 0)))), h)) fun (((slices1, size), h0) : ((Sl × Int) × H)) =>
 bind2 (slices_Grow_byte (⟨none, 0, 0⟩ : Sl) size h0) fun x0 h1 =>
 joinO (
 loopO (P.slices_Concat_byte_l2 slices_Grow_byte) ((x0, (slices1, (((slices1.len : Nat) : Int), 0))), h1)) fun ((newslice, h2) : (Sl × H)) =>
 some (newslice, h2)
abbrev slices_Concat_byte_l2 := P.slices_Concat_byte_l2 slices_Grow_byte
abbrev slices_Concat_byte_l1 := P.slices_Concat_byte_l1 slices_Grow_byte
def slices_Concat_byte : Sl → H → Option ((Sl) × H) := P.slices_Concat_byte slices_Grow_byte
def ann_99 : Ann := ⟨fun i => bif i.beq 8 then some ⟨[0, 3, 9, 10, 11], [eL_, eI_, eL_, eI_, eI_]⟩ else bif i.beq 9 then some ⟨[0, 3], [eL_, eI_]⟩ else bif i.beq 15 then some ⟨[6], [eL_]⟩ else none, fun i => bif i.beq 3 then some ⟨[0, 3, 9, 10, 11], [eL_, eI_, eL_, eI_, eI_]⟩ else bif i.beq 11 then some ⟨[6, 25, 26, 27], [eL_, eL_, eI_, eI_]⟩ else none, fun _ => none⟩
def E_99 : Ent := V_99 slices_Concat_byte
theorem eq_99 (slices_Grow_byte : T_149) : runE [V_149 slices_Grow_byte] ann_99 Try.f99 (V_99 (P.slices_Concat_byte slices_Grow_byte)) = (V_99 (P.slices_Concat_byte slices_Grow_byte)).g := by kernel_rfl
theorem ok_99 : E_99.ok Tab.D := entT (entC ok_149 entN) (by kernel_rfl) (by kernel_rfl) (by kernel_rfl) (eq_99 slices_Grow_byte)
/-! math_bits_Len32 -/
abbrev T_187 := Int → H → Option ((Int) × H)
abbrev V_187 (f : T_187) : Ent := ⟨187, [⟨false, [.int .u32]⟩], [eI_], fun (x : Int) h => f x h⟩
def math_bits_Len32 (x0 : Int) (h : H) : Option (Int × H) :=
 joinO (
 condK (decide ((x0 ≥ 65536))) (
 some (inl (((Int.fdiv x0 65536), 16), h))) (
 some (inl ((x0, 0), h)))) fun (((x1, n), h0) : ((Int × Int) × H)) =>
 joinO (
 condK (decide ((x1 ≥ 256))) (
 some (inl (((Int.fdiv x1 256), (IntKind.wrap .i64 (n + 8))), h0))) (
 some (inl ((x1, n), h0)))) fun (((x2, n1), h1) : ((Int × Int) × H)) =>
 bindO (ixST (⟨#[0, 1, 2, 2, 3, 3, 3, 3, 4, 4, 4, 4, 4, 4, 4, 4, 5, 5, 5, 5, 5, 5, 5, 5, 5, 5, 5, 5, 5, 5, 5, 5, 6, 6, 6, 6, 6, 6, 6, 6, 6, 6, 6, 6, 6, 6, 6, 6, 6, 6, 6, 6, 6, 6, 6, 6, 6, 6, 6, 6, 6, 6, 6, 6, 7, 7, 7, 7, 7, 7, 7, 7, 7, 7, 7, 7, 7, 7, 7, 7, 7, 7, 7, 7, 7, 7, 7, 7, 7, 7, 7, 7, 7, 7, 7, 7, 7, 7, 7, 7, 7, 7, 7, 7, 7, 7, 7, 7, 7, 7, 7, 7, 7, 7, 7, 7, 7, 7, 7, 7, 7, 7, 7, 7, 7, 7, 7, 7, 8, 8, 8, 8, 8, 8, 8, 8, 8, 8, 8, 8, 8, 8, 8, 8, 8, 8, 8, 8, 8, 8, 8, 8, 8, 8, 8, 8, 8, 8, 8, 8, 8, 8, 8, 8, 8, 8, 8, 8, 8, 8, 8, 8, 8, 8, 8, 8, 8, 8, 8, 8, 8, 8, 8, 8, 8, 8, 8, 8, 8, 8, 8, 8, 8, 8, 8, 8, 8, 8, 8, 8, 8, 8, 8, 8, 8, 8, 8, 8, 8, 8, 8, 8, 8, 8, 8, 8, 8, 8, 8, 8, 8, 8, 8, 8, 8, 8, 8, 8, 8, 8, 8, 8, 8, 8, 8, 8, 8, 8, 8, 8, 8, 8, 8, 8, 8, 8, 8, 8, 8, 8, 8, 8, 8, 8, 8, 8]⟩ : ByteArray) (IntKind.wrap .u8 x2)) fun x3 =>
 some ((IntKind.wrap .i64 (n1 + (IntKind.wrap .i64 x3))), h1)
def ann_187 : Ann := ⟨fun i => bif i.beq 4 then some ⟨[0, 2], [⟨false, [.int .u32]⟩, eI_]⟩ else bif i.beq 7 then some ⟨[0, 2], [⟨false, [.int .u32]⟩, eI_]⟩ else none, fun _ => none, fun _ => none⟩
def E_187 : Ent := V_187 math_bits_Len32
theorem eq_187 : runE [] ann_187 Try.f187 (V_187 math_bits_Len32) = (V_187 math_bits_Len32).g := by kernel_rfl
theorem ok_187 : E_187.ok Tab.D := entT entN (by kernel_rfl) (by kernel_rfl) (by kernel_rfl) eq_187
/-! math_bits_Len64 -/
abbrev T_188 := Int → H → Option ((Int) × H)
abbrev V_188 (f : T_188) : Ent := ⟨188, [⟨false, [.int .u64]⟩], [eI_], fun (x : Int) h => f x h⟩
def math_bits_Len64 (x0 : Int) (h : H) : Option (Int × H) :=
 joinO (
 condK (decide ((x0 ≥ 4294967296))) (
 some (inl (((Int.fdiv x0 4294967296), 32), h))) (
 some (inl ((x0, 0), h)))) fun (((x1, n), h0) : ((Int × Int) × H)) =>
 joinO (
 condK (decide ((x1 ≥ 65536))) (
 some (inl (((Int.fdiv x1 65536), (IntKind.wrap .i64 (n + 16))), h0))) (
 some (inl ((x1, n), h0)))) fun (((x2, n1), h1) : ((Int × Int) × H)) =>
 joinO (
 condK (decide ((x2 ≥ 256))) (
 some (inl (((Int.fdiv x2 256), (IntKind.wrap .i64 (n1 + 8))), h1))) (
 some (inl ((x2, n1), h1)))) fun (((x3, n2), h2) : ((Int × Int) × H)) =>
 bindO (ixST (⟨#[0, 1, 2, 2, 3, 3, 3, 3, 4, 4, 4, 4, 4, 4, 4, 4, 5, 5, 5, 5, 5, 5, 5, 5, 5, 5, 5, 5, 5, 5, 5, 5, 6, 6, 6, 6, 6, 6, 6, 6, 6, 6, 6, 6, 6, 6, 6, 6, 6, 6, 6, 6, 6, 6, 6, 6, 6, 6, 6, 6, 6, 6, 6, 6, 7, 7, 7, 7, 7, 7, 7, 7, 7, 7, 7, 7, 7, 7, 7, 7, 7, 7, 7, 7, 7, 7, 7, 7, 7, 7, 7, 7, 7, 7, 7, 7, 7, 7, 7, 7, 7, 7, 7, 7, 7, 7, 7, 7, 7, 7, 7, 7, 7, 7, 7, 7, 7, 7, 7, 7, 7, 7, 7, 7, 7, 7, 7, 7, 8, 8, 8, 8, 8, 8, 8, 8, 8, 8, 8, 8, 8, 8, 8, 8, 8, 8, 8, 8, 8, 8, 8, 8, 8, 8, 8, 8, 8, 8, 8, 8, 8, 8, 8, 8, 8, 8, 8, 8, 8, 8, 8, 8, 8, 8, 8, 8, 8, 8, 8, 8, 8, 8, 8, 8, 8, 8, 8, 8, 8, 8, 8, 8, 8, 8, 8, 8, 8, 8, 8, 8, 8, 8, 8, 8, 8, 8, 8, 8, 8, 8, 8, 8, 8, 8, 8, 8, 8, 8, 8, 8, 8, 8, 8, 8, 8, 8, 8, 8, 8, 8, 8, 8, 8, 8, 8, 8, 8, 8, 8, 8, 8, 8, 8, 8, 8, 8, 8, 8, 8, 8, 8, 8, 8, 8, 8, 8]⟩ : ByteArray) (IntKind.wrap .u8 x3)) fun x4 =>
 some ((IntKind.wrap .i64 (n2 + (IntKind.wrap .i64 x4))), h2)
def ann_188 : Ann := ⟨fun i => bif i.beq 4 then some ⟨[0, 2], [⟨false, [.int .u64]⟩, eI_]⟩ else bif i.beq 7 then some ⟨[0, 2], [⟨false, [.int .u64]⟩, eI_]⟩ else bif i.beq 10 then some ⟨[0, 2], [⟨false, [.int .u64]⟩, eI_]⟩ else none, fun _ => none, fun _ => none⟩
def E_188 : Ent := V_188 math_bits_Len64
theorem eq_188 : runE [] ann_188 Try.f188 (V_188 math_bits_Len64) = (V_188 math_bits_Len64).g := by kernel_rfl
theorem ok_188 : E_188.ok Tab.D := entT entN (by kernel_rfl) (by kernel_rfl) (by kernel_rfl) eq_188
/-! math_bits_Len -/
abbrev T_180 := Int → H → Option ((Int) × H)
abbrev V_180 (f : T_180) : Ent := ⟨180, [⟨false, [.int .u64]⟩], [eI_], fun (x : Int) h => f x h⟩
def P.math_bits_Len (math_bits_Len32 : T_187) (math_bits_Len64 : T_188) (x0 : Int) (h : H) : Option (Int × H) :=
 bind2 (math_bits_Len64 x0 h) fun x1 h0 =>
 some (x1, h0)
def math_bits_Len : Int → H → Option ((Int) × H) := P.math_bits_Len math_bits_Len32 math_bits_Len64
def ann_180 : Ann := ⟨fun _ => none, fun _ => none, fun _ => none⟩
def E_180 : Ent := V_180 math_bits_Len
theorem eq_180 (math_bits_Len32 : T_187) (math_bits_Len64 : T_188) : runE [V_187 math_bits_Len32, V_188 math_bits_Len64] ann_180 Try.f180 (V_180 (P.math_bits_Len math_bits_Len32 math_bits_Len64)) = (V_180 (P.math_bits_Len math_bits_Len32 math_bits_Len64)).g := by kernel_rfl
theorem ok_180 : E_180.ok Tab.D := entT (entC ok_187 (entC ok_188 entN)) (by kernel_rfl) (by kernel_rfl) (by kernel_rfl) (eq_180 math_bits_Len32 math_bits_Len64)
/-! varint_kind -/
abbrev T_150 := Int → H → Option ((Int) × H)
abbrev V_150 (f : T_150) : Ent := ⟨150, [eI_], [eI_], fun (x : Int) h => f x h⟩
def P.varint_kind_l1 (math_bits_Len : T_180) : ((Int × Int) × H) → Option (((Int × Int) × H) ⊕ (Int × H)) := fun ((n, x0), h0) =>
 condK (decide ((x0 < 3))) (
 bind2 (math_bits_Len (IntKind.wrap .u64 n) h0) fun x1 h1 =>
 bindO (shlT .i64 8 .i64 x0) fun x2 =>
 condK (decide ((x1 ≤ (IntKind.wrap .i64 (x2 - 2))))) (
 some (inr (x0, h1))) (
 some (inl ((n, (IntKind.wrap .i64 (x0 + 1))), h1)))) (
 some (inr (3, h0)))

def P.varint_kind (math_bits_Len : T_180) (n : Int) (h : H) : Option (Int × H) :=
 joinO (
 condK (decide ((n < 0))) (
 some (inl ((n, true), h))) (
 some (inl ((n, (decide ((n > 4611686018427387903)))), h)))) fun (((n1, x0), h0) : ((Int × Bool) × H)) =>
 condK x0 (
 some ((-1), h0)) (
 loopO (P.varint_kind_l1 math_bits_Len) ((n1, 0), h0))
abbrev varint_kind_l1 := P.varint_kind_l1 math_bits_Len
def varint_kind : Int → H → Option ((Int) × H) := P.varint_kind math_bits_Len
def ann_150 : Ann := ⟨fun _ => none, fun i => bif i.beq 4 then some ⟨[0, 10], [eI_, eI_]⟩ else none, fun i => bif i.beq 1 then some ⟨[0, 9], [eI_, eB_]⟩ else none⟩
def E_150 : Ent := V_150 varint_kind
theorem eq_150 (math_bits_Len : T_180) : runE [V_180 math_bits_Len] ann_150 Try.f150 (V_150 (P.varint_kind math_bits_Len)) = (V_150 (P.varint_kind math_bits_Len)).g := by kernel_rfl
theorem ok_150 : E_150.ok Tab.D := entT (entC ok_180 entN) (by kernel_rfl) (by kernel_rfl) (by kernel_rfl) (eq_150 math_bits_Len)
/-! varint_Put -/
abbrev T_100 := Sl → Sl → H → Option ((Sl) × H)
abbrev V_100 (f : T_100) : Ent := ⟨100, [eL_, eL_], [eL_], fun (x : Sl × Sl) h => f x.1 x.2 h⟩
def P.varint_Put_l2 (slices_Clone_byte : T_98) (varint_kind : T_150) (slices_Clip_byte : T_97) : ((Sl × (Int × (Int × (Int × (Int × (Sl × (Int × Int))))))) × H) → Option (((Sl × (Int × (Int × (Int × (Int × (Sl × (Int × Int))))))) × H) ⊕ (((Sl × (Int × (Int × (Sl × (Int × Int))))) × H) ⊕ (((Sl × (Sl × (Int × Int))) × H) ⊕ (((Sl × (Sl × (Int × Int))) × H) ⊕ ((Sl × H) ⊕ (Sl × H)))))) := fun ((out, (x0, (k, (first, (at', (x1, (x2, x3))))))), h0) =>
 condK (decide ((at' ≥ 0))) (
 bindO (shrT .i64 x0 .i64 at') fun x4 =>
 newO (row 5 [(.int .u8 (IntKind.wrap .u8 x4))]) h0 fun b h1 =>
 bind2 (appT 5 1 1 h1 out (⟨(some (⟨b, 0, some 0⟩ : Addr)), 1, 1⟩ : Sl)) fun x5 h2 =>
 some (inl ((x5, (x0, (k, (first, ((IntKind.wrap .i64 (at' - 8)), (x1, (x2, x3))))))), h2))) (
 some (inr (inl ((out, (k, (first, (x1, (x2, x3))))), h0))))

def P.varint_Put_l1 (slices_Clone_byte : T_98) (varint_kind : T_150) (slices_Clip_byte : T_97) : ((Sl × (Sl × (Int × Int))) × H) → Option (((Sl × (Sl × (Int × Int))) × H) ⊕ ((Sl × H) ⊕ (Sl × H))) := fun ((out, (x0, (x1, x2))), h0) =>
 condK (decide ((x2 < x1))) (
 joinO (
 bindO (ixT 1 x0 x2) fun a0 =>
 bindO (ldI .i64 h0 a0) fun x3 =>
 bind2 (varint_kind x3 h0) fun x4 h1 =>
 condK (decide ((x4 < 0))) (
 some (inr (inr (inr ((⟨none, 0, 0⟩ : Sl), h1))))) (
 joinO (
 bindO (shlT .i64 8 .i64 x4) fun x5 =>
 loopO (P.varint_Put_l2 slices_Clone_byte varint_kind slices_Clip_byte) ((out, (x3, (x4, (((out.len : Nat) : Int), ((IntKind.wrap .i64 (x5 - 8)), (x0, (x1, x2))))))), h1)) fun (((out1, (k, (first, (x5, (x6, x7))))), h2) : ((Sl × (Int × (Int × (Sl × (Int × Int))))) × H)) =>
 bindO (ixT 1 out1 first) fun a1 =>
 bindO (ldI .u8 h2 a1) fun x8 =>
 letO ((IntKind.wrap .u8 (((BitVec.toNat ((BitVec.ofInt 8 x8) ||| (BitVec.ofInt 8 (IntKind.wrap .u8 (IntKind.wrap .i64 (k * 64)))))) : Nat) : Int))) fun x9 =>
 bindO (ixT 1 out1 first) fun a2 =>
 bindO (st1 h2 a2 (.int .u8 x9)) fun h3 =>
 some (inl ((out1, (x5, (x6, x7))), h3)))) fun (((out1, (x3, (x4, x5))), h1) : ((Sl × (Sl × (Int × Int))) × H)) =>
 some (inl ((out1, (x3, (x4, (IntKind.wrap .i64 (x5 + 1))))), h1))) (
 some (inr (inl (out, h0))))

def P.varint_Put (slices_Clone_byte : T_98) (varint_kind : T_150) (slices_Clip_byte : T_97) (b : Sl) (n : Sl) (h : H) : Option (Sl × H) :=
 bind2 (slices_Clone_byte b h) fun x0 h0 =>
 joinO (
 loopO (P.varint_Put_l1 slices_Clone_byte varint_kind slices_Clip_byte) ((x0, (n, (((n.len : Nat) : Int), 0))), h0)) fun ((out, h1) : (Sl × H)) =>
 bind2 (slices_Clip_byte out h1) fun x1 h2 =>
 some (x1, h2)
abbrev varint_Put_l2 := P.varint_Put_l2 slices_Clone_byte varint_kind slices_Clip_byte
abbrev varint_Put_l1 := P.varint_Put_l1 slices_Clone_byte varint_kind slices_Clip_byte
def varint_Put : Sl → Sl → H → Option ((Sl) × H) := P.varint_Put slices_Clone_byte varint_kind slices_Clip_byte
def ann_100 : Ann := ⟨fun i => bif i.beq 13 then some ⟨[5, 8, 9, 13, 14, 15], [eL_, eI_, eI_, eL_, eI_, eI_]⟩ else bif i.beq 14 then some ⟨[5, 13, 14, 15], [eL_, eL_, eI_, eI_]⟩ else bif i.beq 15 then some ⟨[5], [eL_]⟩ else none, fun i => bif i.beq 3 then some ⟨[5, 13, 14, 15], [eL_, eL_, eI_, eI_]⟩ else bif i.beq 10 then some ⟨[5, 7, 8, 9, 10, 13, 14, 15], [eL_, eI_, eI_, eI_, eI_, eL_, eI_, eI_]⟩ else none, fun _ => none⟩
def E_100 : Ent := V_100 varint_Put
theorem eq_100 (slices_Clone_byte : T_98) (varint_kind : T_150) (slices_Clip_byte : T_97) : runE [V_98 slices_Clone_byte, V_150 varint_kind, V_97 slices_Clip_byte] ann_100 Try.f100 (V_100 (P.varint_Put slices_Clone_byte varint_kind slices_Clip_byte)) = (V_100 (P.varint_Put slices_Clone_byte varint_kind slices_Clip_byte)).g := by kernel_rfl
theorem ok_100 : E_100.ok Tab.D := entT (entC ok_98 (entC ok_150 (entC ok_97 entN))) (by kernel_rfl) (by kernel_rfl) (by kernel_rfl) (eq_100 slices_Clone_byte varint_kind slices_Clip_byte)
/-! varint_Take -/
abbrev T_151 := Sl → H → Option ((Int × Sl × Int) × H)
abbrev V_151 (f : T_151) : Ent := ⟨151, [eL_], [eI_, eL_, eI_], fun (x : Sl) h => f x h⟩
def P.varint_Take_l1 (slices_Clone_byte : T_98) : ((Sl × (Int × (Int × (Sl × (Int × Int))))) × H) → Option (((Sl × (Int × (Int × (Sl × (Int × Int))))) × H) ⊕ (((Sl × (Int × Int)) × H) ⊕ ((Int × (Sl × Int)) × H))) := fun ((b, (n, (size, (x0, (x1, x2))))), h0) =>
 condK (decide ((x2 < x1))) (
 bindO (ixT 1 x0 x2) fun a0 =>
 bindO (ldI .u8 h0 a0) fun x3 =>
 letO ((IntKind.wrap .i64 (((BitVec.toNat ((BitVec.ofInt 64 (IntKind.wrap .i64 (n * 256))) ||| (BitVec.ofInt 64 (IntKind.wrap .i64 x3)))) : Nat) : Int))) fun x4 =>
 some (inl ((b, (x4, (size, (x0, (x1, (IntKind.wrap .i64 (x2 + 1))))))), h0))) (
 some (inr (inl ((b, (n, size)), h0))))

def P.varint_Take (slices_Clone_byte : T_98) (b : Sl) (h : H) : Option ((Int × Sl × Int) × H) :=
 joinO (
 condK (((b.len : Nat) : Int) == 0) (
 some (inl ((b, true), h))) (
 bindO (ixT 1 b 0) fun a0 =>
 bindO (ldI .u8 h a0) fun x0 =>
 bindO (shlT .i64 1 .u8 (Int.fdiv x0 64)) fun x1 =>
 some (inl ((b, (decide ((((b.len : Nat) : Int) < x1)))), h)))) fun (((b1, x0), h0) : ((Sl × Bool) × H)) =>
 condK x0 (
 some ((0, ((⟨none, 0, 0⟩ : Sl), 3)), h0)) (
 bindO (ixT 1 b1 0) fun a0 =>
 bindO (ldI .u8 h0 a0) fun x1 =>
 bindO (shlT .i64 1 .u8 (Int.fdiv x1 64)) fun x2 =>
 bindO (ixT 1 b1 0) fun a1 =>
 bindO (ldI .u8 h0 a1) fun x3 =>
 letO ((IntKind.wrap .u8 (((BitVec.toNat ((BitVec.ofInt 8 x3) &&& (BitVec.ofInt 8 63))) : Nat) : Int))) fun x4 =>
 joinO (
 bindO (slT 1 h0 b1 (some 1) (some x2) none) fun x5 =>
 loopO (P.varint_Take_l1 slices_Clone_byte) ((b1, ((IntKind.wrap .i64 x4), (x2, (x5, (((x5.len : Nat) : Int), 0))))), h0)) fun (((b2, (n, size)), h1) : ((Sl × (Int × Int)) × H)) =>
 bindO (slT 1 h1 b2 (some size) none none) fun x5 =>
 bind2 (slices_Clone_byte x5 h1) fun x6 h2 =>
 some ((n, (x6, 0)), h2))
abbrev varint_Take_l1 := P.varint_Take_l1 slices_Clone_byte
def varint_Take : Sl → H → Option ((Int × Sl × Int) × H) := P.varint_Take slices_Clone_byte
def ann_151 : Ann := ⟨fun i => bif i.beq 10 then some ⟨[0, 2, 5], [eL_, eI_, eI_]⟩ else none, fun i => bif i.beq 6 then some ⟨[0, 2, 5, 33, 34, 35], [eL_, eI_, eI_, eL_, eI_, eI_]⟩ else none, fun i => bif i.beq 1 then some ⟨[0, 20], [eL_, eB_]⟩ else none⟩
def E_151 : Ent := V_151 varint_Take
theorem eq_151 (slices_Clone_byte : T_98) : runE [V_98 slices_Clone_byte] ann_151 Try.f151 (V_151 (P.varint_Take slices_Clone_byte)) = (V_151 (P.varint_Take slices_Clone_byte)).g := by kernel_rfl
theorem ok_151 : E_151.ok Tab.D := entT (entC ok_98 entN) (by kernel_rfl) (by kernel_rfl) (by kernel_rfl) (eq_151 slices_Clone_byte)
/-! hand_Num -/
abbrev T_45 := Int → H → Option ((Int) × H)
abbrev V_45 (f : T_45) : Ent := ⟨45, [eI_], [eI_], fun (x : Int) h => f x h⟩
def P.hand_Num (hand_Pick : T_24) (n : Int) (h : H) : Option (Int × H) :=
 bind2 (hand_Pick (IntKind.wrap .i64 (Int.tdiv n 9)) 3 h) fun x0 h0 =>
 bind2 (hand_Pick n 9 h0) fun x1 h1 =>
 condK (x1 == 0) (
 some ((IntKind.wrap .i64 (64 + (IntKind.wrap .i64 (x0 - 1)))), h1)) (
 condK (x1 == 1) (
 some ((IntKind.wrap .i64 (16384 + (IntKind.wrap .i64 (x0 - 1)))), h1)) (
 condK (x1 == 2) (
 some ((IntKind.wrap .i64 (1073741824 + (IntKind.wrap .i64 (x0 - 1)))), h1)) (
 condK (x1 == 3) (
 letO ((IntKind.wrap .i64 (4611686018427387903 + (IntKind.wrap .i64 (x0 - 1))))) fun x2 =>
 some (x2, h1)) (
 condK (x1 == 4) (
 some (n, h1)) (
 bind2 (hand_Pick (IntKind.wrap .i64 (Int.tdiv n 9)) 500 h1) fun x3 h2 =>
 some (x3, h2))))))
def hand_Num : Int → H → Option ((Int) × H) := P.hand_Num hand_Pick
def ann_45 : Ann := ⟨fun _ => none, fun _ => none, fun _ => none⟩
def E_45 : Ent := V_45 hand_Num
theorem eq_45 (hand_Pick : T_24) : runE [V_24 hand_Pick] ann_45 Try.f45 (V_45 (P.hand_Num hand_Pick)) = (V_45 (P.hand_Num hand_Pick)).g := by kernel_rfl
theorem ok_45 : E_45.ok Tab.D := entT (entC ok_24 entN) (by kernel_rfl) (by kernel_rfl) (by kernel_rfl) (eq_45 hand_Pick)
/-! ref1_May -/
abbrev T_103 := Int → H → Option ((Bool) × H)
abbrev V_103 (f : T_103) : Ent := ⟨103, [eI_], [eB_], fun (x : Int) h => f x h⟩
def ref1_May (n : Int) (h : H) : Option (Bool × H) :=
 condK (decide ((n ≥ 0))) (
 some ((decide ((n ≤ 4611686018427387903))), h)) (
 some (false, h))
def ann_103 : Ann := ⟨fun _ => none, fun _ => none, fun _ => none⟩
def E_103 : Ent := V_103 ref1_May
theorem eq_103 : runE [] ann_103 Try.f103 (V_103 ref1_May) = (V_103 ref1_May).g := by kernel_rfl
theorem ok_103 : E_103.ok Tab.D := entT entN (by kernel_rfl) (by kernel_rfl) (by kernel_rfl) eq_103
/-! hand_May -/
abbrev T_48 := Int → H → Option ((Int) × H)
abbrev V_48 (f : T_48) : Ent := ⟨48, [eI_], [eI_], fun (x : Int) h => f x h⟩
def P.hand_May (hand_Num : T_45) (ref1_May : T_103) (hand_Pick : T_24) (n : Int) (h : H) : Option (Int × H) :=
 bind2 (hand_Num n h) fun x0 h0 =>
 bind2 (ref1_May x0 h0) fun x1 h1 =>
 condK (!x1) (
 bind2 (hand_Pick n 1048576 h1) fun x2 h2 =>
 some (x2, h2)) (
 some (x0, h1))
def hand_May : Int → H → Option ((Int) × H) := P.hand_May hand_Num ref1_May hand_Pick
def ann_48 : Ann := ⟨fun _ => none, fun _ => none, fun _ => none⟩
def E_48 : Ent := V_48 hand_May
theorem eq_48 (hand_Num : T_45) (ref1_May : T_103) (hand_Pick : T_24) : runE [V_45 hand_Num, V_103 ref1_May, V_24 hand_Pick] ann_48 Try.f48 (V_48 (P.hand_May hand_Num ref1_May hand_Pick)) = (V_48 (P.hand_May hand_Num ref1_May hand_Pick)).g := by kernel_rfl
theorem ok_48 : E_48.ok Tab.D := entT (entC ok_45 (entC ok_103 (entC ok_24 entN))) (by kernel_rfl) (by kernel_rfl) (by kernel_rfl) (eq_48 hand_Num ref1_May hand_Pick)
/-! ref1_size -/
abbrev T_152 := Int → H → Option ((Int) × H)
abbrev V_152 (f : T_152) : Ent := ⟨152, [eI_], [eI_], fun (x : Int) h => f x h⟩
def P.ref1_size (ref1_May : T_103) (n : Int) (h : H) : Option (Int × H) :=
 bind2 (ref1_May n h) fun x0 h0 =>
 condK (!x0) (
 some ((-1), h0)) (
 condK (decide ((n < 64))) (
 some (1, h0)) (
 condK (decide ((n < 16384))) (
 some (2, h0)) (
 condK (decide ((n < 1073741824))) (
 some (4, h0)) (
 some (8, h0)))))
def ref1_size : Int → H → Option ((Int) × H) := P.ref1_size ref1_May
def ann_152 : Ann := ⟨fun _ => none, fun _ => none, fun _ => none⟩
def E_152 : Ent := V_152 ref1_size
theorem eq_152 (ref1_May : T_103) : runE [V_103 ref1_May] ann_152 Try.f152 (V_152 (P.ref1_size ref1_May)) = (V_152 (P.ref1_size ref1_May)).g := by kernel_rfl
theorem ok_152 : E_152.ok Tab.D := entT (entC ok_103 entN) (by kernel_rfl) (by kernel_rfl) (by kernel_rfl) (eq_152 ref1_May)
/-! ref1_Size -/
abbrev T_105 := Sl → H → Option ((Int) × H)
abbrev V_105 (f : T_105) : Ent := ⟨105, [eL_], [eI_], fun (x : Sl) h => f x h⟩
def P.ref1_Size_l1 (ref1_May : T_103) (ref1_size : T_152) : ((Sl × (Int × Int)) × H) → Option (((Sl × (Int × Int)) × H) ⊕ ((Int × H) ⊕ (Int × H))) := fun ((l, (sum, i)), h0) =>
 condK (decide ((i < ((l.len : Nat) : Int)))) (
 bindO (ixT 1 l i) fun a0 =>
 bindO (ldI .i64 h0 a0) fun x0 =>
 bind2 (ref1_May x0 h0) fun x1 h1 =>
 condK (!x1) (
 some (inr (inr ((-1), h1)))) (
 bindO (ixT 1 l i) fun a1 =>
 bindO (ldI .i64 h1 a1) fun x2 =>
 bind2 (ref1_size x2 h1) fun x3 h2 =>
 some (inl ((l, ((IntKind.wrap .i64 (sum + x3)), (IntKind.wrap .i64 (i + 1)))), h2)))) (
 some (inr (inl (sum, h0))))

def P.ref1_Size (ref1_May : T_103) (ref1_size : T_152) (l : Sl) (h : H) : Option (Int × H) :=
 joinO (
 loopO (P.ref1_Size_l1 ref1_May ref1_size) ((l, (0, 0)), h)) fun ((sum, h0) : (Int × H)) =>
 some (sum, h0)
abbrev ref1_Size_l1 := P.ref1_Size_l1 ref1_May ref1_size
def ref1_Size : Sl → H → Option ((Int) × H) := P.ref1_Size ref1_May ref1_size
def ann_105 : Ann := ⟨fun i => bif i.beq 8 then some ⟨[3], [eI_]⟩ else none, fun i => bif i.beq 3 then some ⟨[0, 3, 4], [eL_, eI_, eI_]⟩ else none, fun _ => none⟩
def E_105 : Ent := V_105 ref1_Size
theorem eq_105 (ref1_May : T_103) (ref1_size : T_152) : runE [V_103 ref1_May, V_152 ref1_size] ann_105 Try.f105 (V_105 (P.ref1_Size ref1_May ref1_size)) = (V_105 (P.ref1_Size ref1_May ref1_size)).g := by kernel_rfl
theorem ok_105 : E_105.ok Tab.D := entT (entC ok_103 (entC ok_152 entN)) (by kernel_rfl) (by kernel_rfl) (by kernel_rfl) (eq_105 ref1_May ref1_size)
/-! ref1_put -/
abbrev T_106 := Sl → Int → H → Option ((Sl) × H)
abbrev V_106 (f : T_106) : Ent := ⟨106, [eL_, eI_], [eL_], fun (x : Sl × Int) h => f x.1 x.2 h⟩
def P.ref1_put_l1 (ref1_size : T_152) : ((Sl × (Int × (Int × Int))) × H) → Option (((Sl × (Int × (Int × Int))) × H) ⊕ ((Sl × H) ⊕ (Sl × H))) := fun ((b, (n, (k, i))), h0) =>
 condK (decide ((i ≥ 0))) (
 bindO (shrT .i64 n .u64 (IntKind.wrap .u64 (IntKind.wrap .i64 (8 * i)))) fun x0 =>
 joinO (
 condK (i == (IntKind.wrap .i64 (k - 1))) (
 condK (k == 2) (
 some (inl ((b, (n, (k, (i, (IntKind.wrap .u8 ((IntKind.wrap .u8 x0) + 64)))))), h0))) (
 condK (k == 4) (
 some (inl ((b, (n, (k, (i, (IntKind.wrap .u8 ((IntKind.wrap .u8 x0) + 128)))))), h0))) (
 condK (k == 8) (
 some (inl ((b, (n, (k, (i, (IntKind.wrap .u8 ((IntKind.wrap .u8 x0) + 192)))))), h0))) (
 some (inl ((b, (n, (k, (i, (IntKind.wrap .u8 x0))))), h0)))))) (
 some (inl ((b, (n, (k, (i, (IntKind.wrap .u8 x0))))), h0)))) fun (((b1, (n1, (k1, (i1, c)))), h1) : ((Sl × (Int × (Int × (Int × Int)))) × H)) =>
 newO (row 5 [(.int .u8 c)]) h1 fun b2 h2 =>
 bind2 (appT 5 1 1 h2 b1 (⟨(some (⟨b2, 0, some 0⟩ : Addr)), 1, 1⟩ : Sl)) fun x1 h3 =>
 some (inl ((x1, (n1, (k1, (IntKind.wrap .i64 (i1 - 1))))), h3))) (
 some (inr (inl (b, h0))))

def P.ref1_put (ref1_size : T_152) (b : Sl) (n : Int) (h : H) : Option (Sl × H) :=
 bind2 (ref1_size n h) fun x0 h0 =>
 joinO (
 loopO (P.ref1_put_l1 ref1_size) ((b, (n, (x0, (IntKind.wrap .i64 (x0 - 1))))), h0)) fun ((b1, h1) : (Sl × H)) =>
 some (b1, h1)
abbrev ref1_put_l1 := P.ref1_put_l1 ref1_size
def ref1_put : Sl → Int → H → Option ((Sl) × H) := P.ref1_put ref1_size
def ann_106 : Ann := ⟨fun i => bif i.beq 14 then some ⟨[0, 1, 5, 6, 7], [eL_, eI_, eI_, eI_, ⟨false, [.int .u8]⟩]⟩ else bif i.beq 15 then some ⟨[0], [eL_]⟩ else none, fun i => bif i.beq 3 then some ⟨[0, 1, 5, 6], [eL_, eI_, eI_, eI_]⟩ else none, fun _ => none⟩
def E_106 : Ent := V_106 ref1_put
theorem eq_106 (ref1_size : T_152) : runE [V_152 ref1_size] ann_106 Try.f106 (V_106 (P.ref1_put ref1_size)) = (V_106 (P.ref1_put ref1_size)).g := by kernel_rfl
theorem ok_106 : E_106.ok Tab.D := entT (entC ok_152 entN) (by kernel_rfl) (by kernel_rfl) (by kernel_rfl) (eq_106 ref1_size)
/-! ref1_Put -/
abbrev T_47 := Sl → Sl → H → Option ((Sl) × H)
abbrev V_47 (f : T_47) : Ent := ⟨47, [eL_, eL_], [eL_], fun (x : Sl × Sl) h => f x.1 x.2 h⟩
def P.ref1_Put_l1 (ref1_Size : T_105) (ref1_put : T_106) : ((Sl × (Sl × Int)) × H) → Option (((Sl × (Sl × Int)) × H) ⊕ ((Sl × H) ⊕ (Sl × H))) := fun ((l, (out, i)), h0) =>
 condK (decide ((i < ((l.len : Nat) : Int)))) (
 bindO (ixT 1 l i) fun a0 =>
 bindO (ldI .i64 h0 a0) fun x0 =>
 bind2 (ref1_put out x0 h0) fun x1 h1 =>
 some (inl ((l, (x1, (IntKind.wrap .i64 (i + 1)))), h1))) (
 some (inr (inl (out, h0))))

def P.ref1_Put (ref1_Size : T_105) (ref1_put : T_106) (b : Sl) (l : Sl) (h : H) : Option (Sl × H) :=
 bind2 (ref1_Size l h) fun x0 h0 =>
 condK (decide ((x0 < 0))) (
 some ((⟨none, 0, 0⟩ : Sl), h0)) (
 newO (row 5 []) h0 fun b1 h1 =>
 bind2 (appT 5 1 1 h1 (⟨(some (⟨b1, 0, some 0⟩ : Addr)), 0, 0⟩ : Sl) b) fun x1 h2 =>
 joinO (
 loopO (P.ref1_Put_l1 ref1_Size ref1_put) ((l, (x1, 0)), h2)) fun ((out, h3) : (Sl × H)) =>
 some (out, h3))
abbrev ref1_Put_l1 := P.ref1_Put_l1 ref1_Size ref1_put
def ref1_Put : Sl → Sl → H → Option ((Sl) × H) := P.ref1_Put ref1_Size ref1_put
def ann_47 : Ann := ⟨fun i => bif i.beq 8 then some ⟨[5], [eL_]⟩ else none, fun i => bif i.beq 5 then some ⟨[1, 5, 6], [eL_, eL_, eI_]⟩ else none, fun _ => none⟩
def E_47 : Ent := V_47 ref1_Put
theorem eq_47 (ref1_Size : T_105) (ref1_put : T_106) : runE [V_105 ref1_Size, V_106 ref1_put] ann_47 Try.f47 (V_47 (P.ref1_Put ref1_Size ref1_put)) = (V_47 (P.ref1_Put ref1_Size ref1_put)).g := by kernel_rfl
theorem ok_47 : E_47.ok Tab.D := entT (entC ok_105 (entC ok_106 entN)) (by kernel_rfl) (by kernel_rfl) (by kernel_rfl) (eq_47 ref1_Size ref1_put)
/-! hand_Few -/
abbrev T_49 := Sl → Int → H → Option ((Sl) × H)
abbrev V_49 (f : T_49) : Ent := ⟨49, [eL_, eI_], [eL_], fun (x : Sl × Int) h => f x.1 x.2 h⟩
def hand_Few (b : Sl) (n : Int) (h : H) : Option (Sl × H) :=
 joinO (
 condK (decide ((((b.len : Nat) : Int) > n))) (
 bindO (slT 1 h b none (some n) none) fun x0 =>
 some (inl (x0, h))) (
 some (inl (b, h)))) fun ((b1, h0) : (Sl × H)) =>
 newO (row 5 []) h0 fun b2 h1 =>
 bind2 (appT 5 1 1 h1 (⟨(some (⟨b2, 0, some 0⟩ : Addr)), 0, 0⟩ : Sl) b1) fun x0 h2 =>
 some (x0, h2)
def ann_49 : Ann := ⟨fun i => bif i.beq 3 then some ⟨[0], [eL_]⟩ else none, fun _ => none, fun _ => none⟩
def E_49 : Ent := V_49 hand_Few
theorem eq_49 : runE [] ann_49 Try.f49 (V_49 hand_Few) = (V_49 hand_Few).g := by kernel_rfl
theorem ok_49 : E_49.ok Tab.D := entT entN (by kernel_rfl) (by kernel_rfl) (by kernel_rfl) eq_49
/-! ref1_Take -/
abbrev T_153 := Sl → H → Option ((Int × Sl × Int) × H)
abbrev V_153 (f : T_153) : Ent := ⟨153, [eL_], [eI_, eL_, eI_], fun (x : Sl) h => f x h⟩
def ref1_Take_l2 : ((Sl × (Int × (Int × Int))) × H) → Option (((Sl × (Int × (Int × Int))) × H) ⊕ (((Sl × (Int × Int)) × H) ⊕ ((Int × (Sl × Int)) × H))) := fun ((b, (k, (n, i))), h0) =>
 condK (decide ((i < k))) (
 bindO (ixT 1 b i) fun a0 =>
 bindO (ldI .u8 h0 a0) fun x0 =>
 letO ((IntKind.wrap .i64 ((IntKind.wrap .i64 (256 * n)) + (IntKind.wrap .i64 x0)))) fun x1 =>
 some (inl ((b, (k, (x1, (IntKind.wrap .i64 (i + 1))))), h0))) (
 some (inr (inl ((b, (k, n)), h0))))

def ref1_Take_l1 : ((Sl × (Int × Int)) × H) → Option (((Sl × (Int × Int)) × H) ⊕ (((Sl × Int) × H) ⊕ ((Int × (Sl × Int)) × H))) := fun ((b, (k, i)), h0) =>
 condK (decide ((i > 0))) (
 some (inl ((b, ((IntKind.wrap .i64 (2 * k)), (IntKind.wrap .u8 (i - 1)))), h0))) (
 some (inr (inl ((b, k), h0))))

def ref1_Take (b : Sl) (h : H) : Option ((Int × Sl × Int) × H) :=
 condK (((b.len : Nat) : Int) == 0) (
 some ((0, ((⟨none, 0, 0⟩ : Sl), 3)), h)) (
 joinO (
 bindO (ixT 1 b 0) fun a0 =>
 bindO (ldI .u8 h a0) fun x0 =>
 loopO ref1_Take_l1 ((b, (1, (IntKind.wrap .u8 (Int.tdiv x0 64)))), h)) fun (((b1, k), h0) : ((Sl × Int) × H)) =>
 condK (decide ((((b1.len : Nat) : Int) < k))) (
 some ((0, ((⟨none, 0, 0⟩ : Sl), 3)), h0)) (
 bindO (ixT 1 b1 0) fun a0 =>
 bindO (ldI .u8 h0 a0) fun x0 =>
 joinO (
 loopO ref1_Take_l2 ((b1, (k, ((IntKind.wrap .i64 (Int.tmod x0 64)), 1))), h0)) fun (((b2, (k1, n)), h1) : ((Sl × (Int × Int)) × H)) =>
 newO (row 5 []) h1 fun b3 h2 =>
 bindO (slT 1 h2 b2 (some k1) none none) fun x1 =>
 bind2 (appT 5 1 1 h2 (⟨(some (⟨b3, 0, some 0⟩ : Addr)), 0, 0⟩ : Sl) x1) fun x2 h3 =>
 some ((n, (x2, 0)), h3)))
def ann_153 : Ann := ⟨fun i => bif i.beq 8 then some ⟨[0, 5], [eL_, eI_]⟩ else bif i.beq 15 then some ⟨[0, 5, 7], [eL_, eI_, eI_]⟩ else none, fun i => bif i.beq 5 then some ⟨[0, 5, 6], [eL_, eI_, ⟨false, [.int .u8]⟩]⟩ else bif i.beq 12 then some ⟨[0, 5, 7, 8], [eL_, eI_, eI_, eI_]⟩ else none, fun _ => none⟩
def E_153 : Ent := V_153 ref1_Take
theorem eq_153 : runE [] ann_153 Try.f153 (V_153 ref1_Take) = (V_153 ref1_Take).g := by kernel_rfl
theorem ok_153 : E_153.ok Tab.D := entT entN (by kernel_rfl) (by kernel_rfl) (by kernel_rfl) eq_153
/-! hand_Runs -/
abbrev T_154 := Sl → H → Option ((Sl) × H)
abbrev V_154 (f : T_154) : Ent := ⟨154, [eL_], [eL_], fun (x : Sl) h => f x h⟩
def P.hand_Runs_l1 (hand_Pick : T_24) : ((Sl × (Sl × (Int × Int))) × H) → Option (((Sl × (Sl × (Int × Int))) × H) ⊕ ((Sl × H) ⊕ (Sl × H))) := fun ((l, (out, (low, i))), h0) =>
 joinO (
 condK (decide ((i < ((l.len : Nat) : Int)))) (
 some (inl ((l, (out, (low, (i, (decide ((((out.len : Nat) : Int) < 8))))))), h0))) (
 some (inl ((l, (out, (low, (i, false)))), h0)))) fun (((l1, (out1, (low1, (i1, x0)))), h1) : ((Sl × (Sl × (Int × (Int × Bool)))) × H)) =>
 condK x0 (
 bindO (ixT 1 l1 i1) fun a0 =>
 bindO (ldI .i64 h1 a0) fun x1 =>
 bind2 (hand_Pick x1 300 h1) fun x2 h2 =>
 bindO (ixT 1 l1 i1) fun a1 =>
 bindO (ldI .i64 h2 a1) fun x3 =>
 bind2 (hand_Pick (IntKind.wrap .i64 (Int.tdiv x3 300)) 40 h2) fun x4 h3 =>
 letO ((IntKind.wrap .i64 ((IntKind.wrap .i64 ((IntKind.wrap .i64 (low1 - 2)) - x2)) - x4))) fun x5 =>
 newO (row 36 [(.int .i64 x5), (.int .i64 (IntKind.wrap .i64 ((IntKind.wrap .i64 (low1 - 2)) - x2)))]) h3 fun b h4 =>
 bind2 (appT 36 2 16 h4 out1 (⟨(some (⟨b, 0, some 0⟩ : Addr)), 1, 1⟩ : Sl)) fun x6 h5 =>
 some (inl ((l1, (x6, (x5, (IntKind.wrap .i64 (i1 + 1))))), h5))) (
 some (inr (inl (out1, h1))))

def P.hand_Runs (hand_Pick : T_24) (l : Sl) (h : H) : Option (Sl × H) :=
 joinO (
 loopO (P.hand_Runs_l1 hand_Pick) ((l, ((⟨none, 0, 0⟩ : Sl), (1099511627776, 0))), h)) fun ((out, h0) : (Sl × H)) =>
 joinO (
 condK (((out.len : Nat) : Int) == 0) (
 newO (row 36 [(.int .i64 3), (.int .i64 3)]) h0 fun b h1 =>
 some (inl ((⟨(some (⟨b, 0, some 0⟩ : Addr)), 1, 1⟩ : Sl), h1))) (
 some (inl (out, h0)))) fun ((out1, h1) : (Sl × H)) =>
 some (out1, h1)
abbrev hand_Runs_l1 := P.hand_Runs_l1 hand_Pick
def hand_Runs : Sl → H → Option ((Sl) × H) := P.hand_Runs hand_Pick
def ann_154 : Ann := ⟨fun i => bif i.beq 9 then some ⟨[3], [eL_]⟩ else bif i.beq 11 then some ⟨[3], [eL_]⟩ else none, fun i => bif i.beq 4 then some ⟨[0, 3, 4, 5], [eL_, eL_, eI_, eI_]⟩ else none, fun i => bif i.beq 4 then some ⟨[0, 3, 4, 5, 15], [eL_, eL_, eI_, eI_, eB_]⟩ else none⟩
def E_154 : Ent := V_154 hand_Runs
theorem eq_154 (hand_Pick : T_24) : runE [V_24 hand_Pick] ann_154 Try.f154 (V_154 (P.hand_Runs hand_Pick)) = (V_154 (P.hand_Runs hand_Pick)).g := by kernel_rfl
theorem ok_154 : E_154.ok Tab.D := entT (entC ok_24 entN) (by kernel_rfl) (by kernel_rfl) (by kernel_rfl) (eq_154 hand_Pick)
/-! hand_Frame -/
abbrev T_108 := (J9) → H → Option (((J9)) × H)
abbrev V_108 (f : T_108) : Ent := ⟨108, [⟨true, j9⟩], [⟨true, j9⟩], fun (x : (J9)) h => f x h⟩
def P.hand_Frame_l1 (hand_Pick : T_24) (hand_Runs : T_154) (hand_May : T_48) (hand_Few : T_49) (hand_Num : T_45) : (((Option Addr) × ((Option Addr) × Int)) × H) → Option ((((Option Addr) × ((Option Addr) × Int)) × H) ⊕ ((((Option Addr) × (Option Addr)) × H) ⊕ ((Int × (Int × (Int × (Int × (Int × (Int × (Bool × (Sl × Sl)))))))) × H))) := fun ((x0, (f, k)), h0) =>
 ptrK f fun a0 =>
 bindO (ldL h0 (add a0 7)) fun x1 =>
 bind2 (hand_Pick k 3 h0) fun x2 h1 =>
 condK (((x1.len : Nat) : Int) == ((x1.len : Nat) : Int)) (
 bindO (ldL h1 (add a0 7)) fun x3 =>
 condK (slEq x3.base x3.len x3.cap x1.base x1.len x1.cap) (
 condK (decide ((((x1.len : Nat) : Int) < (IntKind.wrap .i64 (119 + x2))))) (
 ptrK f fun a1 =>
 bindO (ldL h1 (add a1 7)) fun x4 =>
 newO (row 5 [(.int .u8 (IntKind.wrap .u8 k))]) h1 fun b h2 =>
 bind2 (appT 5 1 1 h2 x4 (⟨(some (⟨b, 0, some 0⟩ : Addr)), 1, 1⟩ : Sl)) fun x5 h3 =>
 ptrK f fun a2 =>
 bindO (st1 h3 (add a2 7) (.slice x5.base x5.len x5.cap)) fun h4 =>
 some (inl ((x0, (f, k)), h4))) (
 some (inr (inl ((x0, f), h1))))) none) none

def P.hand_Frame (hand_Pick : T_24) (hand_Runs : T_154) (hand_May : T_48) (hand_Few : T_49) (hand_Num : T_45) (x0 : J9) (h : H) : Option ((J9) × H) :=
 newO (row 132 [(.int .i64 x0.1), (.int .i64 x0.2.1), (.int .i64 x0.2.2.1), (.int .i64 x0.2.2.2.1), (.int .i64 x0.2.2.2.2.1), (.int .i64 x0.2.2.2.2.2.1), (.bool x0.2.2.2.2.2.2.1), (.slice x0.2.2.2.2.2.2.2.1.base x0.2.2.2.2.2.2.2.1.len x0.2.2.2.2.2.2.2.1.cap), (.slice x0.2.2.2.2.2.2.2.2.base x0.2.2.2.2.2.2.2.2.len x0.2.2.2.2.2.2.2.2.cap)]) h fun b h0 =>
 newO (row 33 [(.int .i64 0), (.int .i64 0), (.int .i64 0), (.int .i64 0), (.int .i64 0), (.int .i64 0), (.bool false), (.slice none 0 0), (.slice none 0 0)]) h0 fun b1 h1 =>
 bindO (ldI .i64 h1 (add (⟨b, 0, some 0⟩ : Addr) 0)) fun x1 =>
 bind2 (hand_Pick x1 12 h1) fun x2 h2 =>
 newO (row 33 [(.int .i64 0), (.int .i64 0), (.int .i64 0), (.int .i64 0), (.int .i64 0), (.int .i64 0), (.bool false), (.slice none 0 0), (.slice none 0 0)]) h2 fun b2 h3 =>
 bindO (stZ j9 h3 (⟨b2, 0, some 0⟩ : Addr) (((IntKind.wrap .i64 (1 + x2)), 0, 0, 0, 0, 0, false, (⟨none, 0, 0⟩ : Sl), (⟨none, 0, 0⟩ : Sl)) : J9)) fun h4 =>
 joinO (
 bindO (ldI .i64 h4 (add (⟨b2, 0, some 0⟩ : Addr) 0)) fun x3 =>
 condK (x3 == 2) (
 bindO (ldL h4 (add (⟨b, 0, some 0⟩ : Addr) 8)) fun x4 =>
 bind2 (hand_Runs x4 h4) fun x5 h5 =>
 bindO (st1 h5 (add (⟨b2, 0, some 0⟩ : Addr) 8) (.slice x5.base x5.len x5.cap)) fun h6 =>
 some (inl (((some (⟨b, 0, some 0⟩ : Addr)), ((some (⟨b1, 0, some 0⟩ : Addr)), (some (⟨b2, 0, some 0⟩ : Addr)))), h6))) (
 condK (x3 == 3) (
 bindO (ldI .i64 h4 (add (⟨b, 0, some 0⟩ : Addr) 1)) fun x6 =>
 bind2 (hand_May x6 h4) fun x7 h7 =>
 bindO (st1 h7 (add (⟨b2, 0, some 0⟩ : Addr) 1) (.int .i64 x7)) fun h8 =>
 bindO (ldI .i64 h8 (add (⟨b, 0, some 0⟩ : Addr) 2)) fun x8 =>
 bind2 (hand_Pick x8 1099511627776 h8) fun x9 h9 =>
 bindO (st1 h9 (add (⟨b2, 0, some 0⟩ : Addr) 2) (.int .i64 x9)) fun h10 =>
 bindO (ldB h10 (add (⟨b, 0, some 0⟩ : Addr) 6)) fun x10 =>
 bindO (st1 h10 (add (⟨b2, 0, some 0⟩ : Addr) 6) (.bool x10)) fun h11 =>
 bindO (ldL h11 (add (⟨b, 0, some 0⟩ : Addr) 7)) fun x11 =>
 bind2 (hand_Few x11 120 h11) fun x12 h12 =>
 bindO (st1 h12 (add (⟨b2, 0, some 0⟩ : Addr) 7) (.slice x12.base x12.len x12.cap)) fun h13 =>
 some (inl (((some (⟨b, 0, some 0⟩ : Addr)), ((some (⟨b1, 0, some 0⟩ : Addr)), (some (⟨b2, 0, some 0⟩ : Addr)))), h13))) (
 condK (x3 == 4) (
 bindO (ldI .i64 h4 (add (⟨b, 0, some 0⟩ : Addr) 1)) fun x13 =>
 bind2 (hand_May x13 h4) fun x14 h14 =>
 bindO (st1 h14 (add (⟨b2, 0, some 0⟩ : Addr) 1) (.int .i64 x14)) fun h15 =>
 bindO (ldI .i64 h15 (add (⟨b, 0, some 0⟩ : Addr) 3)) fun x15 =>
 bind2 (hand_May x15 h15) fun x16 h16 =>
 bindO (st1 h16 (add (⟨b2, 0, some 0⟩ : Addr) 3) (.int .i64 x16)) fun h17 =>
 bindO (ldI .i64 h17 (add (⟨b, 0, some 0⟩ : Addr) 2)) fun x17 =>
 bind2 (hand_May x17 h17) fun x18 h18 =>
 bindO (st1 h18 (add (⟨b2, 0, some 0⟩ : Addr) 2) (.int .i64 x18)) fun h19 =>
 bindO (ldI .i64 h19 (add (⟨b, 0, some 0⟩ : Addr) 4)) fun x19 =>
 bindO (ldI .i64 h19 (add (⟨b2, 0, some 0⟩ : Addr) 2)) fun x20 =>
 bind2 (hand_Pick x19 (IntKind.wrap .i64 (x20 + 1)) h19) fun x21 h20 =>
 bindO (st1 h20 (add (⟨b2, 0, some 0⟩ : Addr) 4) (.int .i64 x21)) fun h21 =>
 some (inl (((some (⟨b, 0, some 0⟩ : Addr)), ((some (⟨b1, 0, some 0⟩ : Addr)), (some (⟨b2, 0, some 0⟩ : Addr)))), h21))) (
 condK (x3 == 5) (
 condK (x3 == 5) (
 bindO (ldI .i64 h4 (add (⟨b, 0, some 0⟩ : Addr) 1)) fun x22 =>
 bind2 (hand_May x22 h4) fun x23 h22 =>
 bindO (st1 h22 (add (⟨b2, 0, some 0⟩ : Addr) 1) (.int .i64 x23)) fun h23 =>
 bindO (ldI .i64 h23 (add (⟨b, 0, some 0⟩ : Addr) 3)) fun x24 =>
 bind2 (hand_May x24 h23) fun x25 h24 =>
 bindO (st1 h24 (add (⟨b2, 0, some 0⟩ : Addr) 3) (.int .i64 x25)) fun h25 =>
 some (inl (((some (⟨b, 0, some 0⟩ : Addr)), ((some (⟨b1, 0, some 0⟩ : Addr)), (some (⟨b2, 0, some 0⟩ : Addr)))), h25))) (
 condK (x3 == 6) (
 condK (x3 == 6) (
 bindO (ldI .i64 h4 (add (⟨b, 0, some 0⟩ : Addr) 3)) fun x26 =>
 bind2 (hand_May x26 h4) fun x27 h26 =>
 bindO (st1 h26 (add (⟨b2, 0, some 0⟩ : Addr) 3) (.int .i64 x27)) fun h27 =>
 some (inl (((some (⟨b, 0, some 0⟩ : Addr)), ((some (⟨b1, 0, some 0⟩ : Addr)), (some (⟨b2, 0, some 0⟩ : Addr)))), h27))) (
 condK (x3 == 8) (
 bindO (ldI .i64 h4 (add (⟨b, 0, some 0⟩ : Addr) 3)) fun x28 =>
 bind2 (hand_May x28 h4) fun x29 h28 =>
 bindO (st1 h28 (add (⟨b2, 0, some 0⟩ : Addr) 3) (.int .i64 x29)) fun h29 =>
 bindO (ldB h29 (add (⟨b, 0, some 0⟩ : Addr) 6)) fun x30 =>
 bindO (st1 h29 (add (⟨b2, 0, some 0⟩ : Addr) 6) (.bool x30)) fun h30 =>
 some (inl (((some (⟨b, 0, some 0⟩ : Addr)), ((some (⟨b1, 0, some 0⟩ : Addr)), (some (⟨b2, 0, some 0⟩ : Addr)))), h30))) (
 condK (x3 == 9) (
 letH (growIf h4 10) fun h31 =>
 bindO (ldL h31 (add (⟨b, 0, some 0⟩ : Addr) 7)) fun x31 =>
 bind2 (hand_Few x31 119 h31) fun x32 h32 =>
 bindO (ldI .i64 h32 (add (⟨b, 0, some 0⟩ : Addr) 3)) fun x33 =>
 letH (addP 127 h4.size [(6, (row 5 [(.int .u8 (IntKind.wrap .u8 x33))]))] h32) fun h33 =>
 bind2 (appT 5 1 1 h33 x32 (⟨(some (⟨(h4.size + 6), 0, some 0⟩ : Addr)), 1, 1⟩ : Sl)) fun x34 h34 =>
 letH (addP 511 h4.size [(6, (row 5 [(.int .u8 (IntKind.wrap .u8 x33))]))] h34) fun h35 =>
 bindO (st1 h35 (add (⟨b2, 0, some 0⟩ : Addr) 7) (.slice x34.base x34.len x34.cap)) fun h36 =>
 letH (addP 8 h4.size [(6, (row 5 [(.int .u8 (IntKind.wrap .u8 x33))]))] h31) fun h37 =>
 bindO (ldI .i64 h37 (add (⟨b, 0, some 0⟩ : Addr) 3)) fun x35 =>
 condK (x35 == x33) (
 letH (addP 1023 h4.size [(6, (row 5 [(.int .u8 (IntKind.wrap .u8 x33))]))] h36) fun h38 =>
 letH (tickIf 10 h38) fun h39 =>
 some (inl (((some (⟨b, 0, some 0⟩ : Addr)), ((some (⟨b1, 0, some 0⟩ : Addr)), (some (⟨b2, 0, some 0⟩ : Addr)))), h39))) none) (
 condK (x3 == 10) (
 condK (x3 == 10) (
 bindO (ldI .i64 h4 (add (⟨b, 0, some 0⟩ : Addr) 1)) fun x36 =>
 bind2 (hand_May x36 h4) fun x37 h40 =>
 bindO (st1 h40 (add (⟨b2, 0, some 0⟩ : Addr) 1) (.int .i64 x37)) fun h41 =>
 some (inl (((some (⟨b, 0, some 0⟩ : Addr)), ((some (⟨b1, 0, some 0⟩ : Addr)), (some (⟨b2, 0, some 0⟩ : Addr)))), h41))) (
 some (inl (((some (⟨b, 0, some 0⟩ : Addr)), ((some (⟨b1, 0, some 0⟩ : Addr)), (some (⟨b2, 0, some 0⟩ : Addr)))), h4)))) (
 condK (x3 == 11) (
 bindO (ldI .i64 h4 (add (⟨b, 0, some 0⟩ : Addr) 1)) fun x38 =>
 bind2 (hand_May x38 h4) fun x39 h42 =>
 bindO (st1 h42 (add (⟨b2, 0, some 0⟩ : Addr) 1) (.int .i64 x39)) fun h43 =>
 some (inl (((some (⟨b, 0, some 0⟩ : Addr)), ((some (⟨b1, 0, some 0⟩ : Addr)), (some (⟨b2, 0, some 0⟩ : Addr)))), h43))) (
 some (inl (((some (⟨b, 0, some 0⟩ : Addr)), ((some (⟨b1, 0, some 0⟩ : Addr)), (some (⟨b2, 0, some 0⟩ : Addr)))), h4)))))))) (
 condK (x3 == 12) (
 bindO (ldI .i64 h4 (add (⟨b, 0, some 0⟩ : Addr) 3)) fun x40 =>
 bind2 (hand_May x40 h4) fun x41 h44 =>
 bindO (st1 h44 (add (⟨b2, 0, some 0⟩ : Addr) 3) (.int .i64 x41)) fun h45 =>
 some (inl (((some (⟨b, 0, some 0⟩ : Addr)), ((some (⟨b1, 0, some 0⟩ : Addr)), (some (⟨b2, 0, some 0⟩ : Addr)))), h45))) (
 condK (x3 == 8) (
 bindO (ldI .i64 h4 (add (⟨b, 0, some 0⟩ : Addr) 3)) fun x42 =>
 bind2 (hand_May x42 h4) fun x43 h46 =>
 bindO (st1 h46 (add (⟨b2, 0, some 0⟩ : Addr) 3) (.int .i64 x43)) fun h47 =>
 bindO (ldB h47 (add (⟨b, 0, some 0⟩ : Addr) 6)) fun x44 =>
 bindO (st1 h47 (add (⟨b2, 0, some 0⟩ : Addr) 6) (.bool x44)) fun h48 =>
 some (inl (((some (⟨b, 0, some 0⟩ : Addr)), ((some (⟨b1, 0, some 0⟩ : Addr)), (some (⟨b2, 0, some 0⟩ : Addr)))), h48))) (
 condK (x3 == 9) (
 letH (growIf h4 10) fun h49 =>
 bindO (ldL h49 (add (⟨b, 0, some 0⟩ : Addr) 7)) fun x45 =>
 bind2 (hand_Few x45 119 h49) fun x46 h50 =>
 bindO (ldI .i64 h50 (add (⟨b, 0, some 0⟩ : Addr) 3)) fun x47 =>
 letH (addP 127 h4.size [(6, (row 5 [(.int .u8 (IntKind.wrap .u8 x47))]))] h50) fun h51 =>
 bind2 (appT 5 1 1 h51 x46 (⟨(some (⟨(h4.size + 6), 0, some 0⟩ : Addr)), 1, 1⟩ : Sl)) fun x48 h52 =>
 letH (addP 511 h4.size [(6, (row 5 [(.int .u8 (IntKind.wrap .u8 x47))]))] h52) fun h53 =>
 bindO (st1 h53 (add (⟨b2, 0, some 0⟩ : Addr) 7) (.slice x48.base x48.len x48.cap)) fun h54 =>
 letH (addP 8 h4.size [(6, (row 5 [(.int .u8 (IntKind.wrap .u8 x47))]))] h49) fun h55 =>
 bindO (ldI .i64 h55 (add (⟨b, 0, some 0⟩ : Addr) 3)) fun x49 =>
 condK (x49 == x47) (
 letH (addP 1023 h4.size [(6, (row 5 [(.int .u8 (IntKind.wrap .u8 x47))]))] h54) fun h56 =>
 letH (tickIf 10 h56) fun h57 =>
 some (inl (((some (⟨b, 0, some 0⟩ : Addr)), ((some (⟨b1, 0, some 0⟩ : Addr)), (some (⟨b2, 0, some 0⟩ : Addr)))), h57))) none) (
 condK (x3 == 10) (
 condK (x3 == 10) (
 bindO (ldI .i64 h4 (add (⟨b, 0, some 0⟩ : Addr) 1)) fun x50 =>
 bind2 (hand_May x50 h4) fun x51 h58 =>
 bindO (st1 h58 (add (⟨b2, 0, some 0⟩ : Addr) 1) (.int .i64 x51)) fun h59 =>
 some (inl (((some (⟨b, 0, some 0⟩ : Addr)), ((some (⟨b1, 0, some 0⟩ : Addr)), (some (⟨b2, 0, some 0⟩ : Addr)))), h59))) (
 some (inl (((some (⟨b, 0, some 0⟩ : Addr)), ((some (⟨b1, 0, some 0⟩ : Addr)), (some (⟨b2, 0, some 0⟩ : Addr)))), h4)))) (
 condK (x3 == 11) (
 bindO (ldI .i64 h4 (add (⟨b, 0, some 0⟩ : Addr) 1)) fun x52 =>
 bind2 (hand_May x52 h4) fun x53 h60 =>
 bindO (st1 h60 (add (⟨b2, 0, some 0⟩ : Addr) 1) (.int .i64 x53)) fun h61 =>
 some (inl (((some (⟨b, 0, some 0⟩ : Addr)), ((some (⟨b1, 0, some 0⟩ : Addr)), (some (⟨b2, 0, some 0⟩ : Addr)))), h61))) (
 some (inl (((some (⟨b, 0, some 0⟩ : Addr)), ((some (⟨b1, 0, some 0⟩ : Addr)), (some (⟨b2, 0, some 0⟩ : Addr)))), h4)))))))))) (
 condK (x3 == 7) (
 bindO (ldI .i64 h4 (add (⟨b, 0, some 0⟩ : Addr) 1)) fun x54 =>
 bind2 (hand_May x54 h4) fun x55 h62 =>
 bindO (st1 h62 (add (⟨b2, 0, some 0⟩ : Addr) 1) (.int .i64 x55)) fun h63 =>
 bindO (ldI .i64 h63 (add (⟨b, 0, some 0⟩ : Addr) 3)) fun x56 =>
 bind2 (hand_May x56 h63) fun x57 h64 =>
 bindO (st1 h64 (add (⟨b2, 0, some 0⟩ : Addr) 3) (.int .i64 x57)) fun h65 =>
 some (inl (((some (⟨b, 0, some 0⟩ : Addr)), ((some (⟨b1, 0, some 0⟩ : Addr)), (some (⟨b2, 0, some 0⟩ : Addr)))), h65))) (
 condK (x3 == 6) (
 condK (x3 == 6) (
 bindO (ldI .i64 h4 (add (⟨b, 0, some 0⟩ : Addr) 3)) fun x58 =>
 bind2 (hand_May x58 h4) fun x59 h66 =>
 bindO (st1 h66 (add (⟨b2, 0, some 0⟩ : Addr) 3) (.int .i64 x59)) fun h67 =>
 some (inl (((some (⟨b, 0, some 0⟩ : Addr)), ((some (⟨b1, 0, some 0⟩ : Addr)), (some (⟨b2, 0, some 0⟩ : Addr)))), h67))) (
 condK (x3 == 8) (
 bindO (ldI .i64 h4 (add (⟨b, 0, some 0⟩ : Addr) 3)) fun x60 =>
 bind2 (hand_May x60 h4) fun x61 h68 =>
 bindO (st1 h68 (add (⟨b2, 0, some 0⟩ : Addr) 3) (.int .i64 x61)) fun h69 =>
 bindO (ldB h69 (add (⟨b, 0, some 0⟩ : Addr) 6)) fun x62 =>
 bindO (st1 h69 (add (⟨b2, 0, some 0⟩ : Addr) 6) (.bool x62)) fun h70 =>
 some (inl (((some (⟨b, 0, some 0⟩ : Addr)), ((some (⟨b1, 0, some 0⟩ : Addr)), (some (⟨b2, 0, some 0⟩ : Addr)))), h70))) (
 condK (x3 == 9) (
 letH (growIf h4 10) fun h71 =>
 bindO (ldL h71 (add (⟨b, 0, some 0⟩ : Addr) 7)) fun x63 =>
 bind2 (hand_Few x63 119 h71) fun x64 h72 =>
 bindO (ldI .i64 h72 (add (⟨b, 0, some 0⟩ : Addr) 3)) fun x65 =>
 letH (addP 127 h4.size [(6, (row 5 [(.int .u8 (IntKind.wrap .u8 x65))]))] h72) fun h73 =>
 bind2 (appT 5 1 1 h73 x64 (⟨(some (⟨(h4.size + 6), 0, some 0⟩ : Addr)), 1, 1⟩ : Sl)) fun x66 h74 =>
 letH (addP 511 h4.size [(6, (row 5 [(.int .u8 (IntKind.wrap .u8 x65))]))] h74) fun h75 =>
 bindO (st1 h75 (add (⟨b2, 0, some 0⟩ : Addr) 7) (.slice x66.base x66.len x66.cap)) fun h76 =>
 letH (addP 8 h4.size [(6, (row 5 [(.int .u8 (IntKind.wrap .u8 x65))]))] h71) fun h77 =>
 bindO (ldI .i64 h77 (add (⟨b, 0, some 0⟩ : Addr) 3)) fun x67 =>
 condK (x67 == x65) (
 letH (addP 1023 h4.size [(6, (row 5 [(.int .u8 (IntKind.wrap .u8 x65))]))] h76) fun h78 =>
 letH (tickIf 10 h78) fun h79 =>
 some (inl (((some (⟨b, 0, some 0⟩ : Addr)), ((some (⟨b1, 0, some 0⟩ : Addr)), (some (⟨b2, 0, some 0⟩ : Addr)))), h79))) none) (
 condK (x3 == 10) (
 condK (x3 == 10) (
 bindO (ldI .i64 h4 (add (⟨b, 0, some 0⟩ : Addr) 1)) fun x68 =>
 bind2 (hand_May x68 h4) fun x69 h80 =>
 bindO (st1 h80 (add (⟨b2, 0, some 0⟩ : Addr) 1) (.int .i64 x69)) fun h81 =>
 some (inl (((some (⟨b, 0, some 0⟩ : Addr)), ((some (⟨b1, 0, some 0⟩ : Addr)), (some (⟨b2, 0, some 0⟩ : Addr)))), h81))) (
 some (inl (((some (⟨b, 0, some 0⟩ : Addr)), ((some (⟨b1, 0, some 0⟩ : Addr)), (some (⟨b2, 0, some 0⟩ : Addr)))), h4)))) (
 condK (x3 == 11) (
 bindO (ldI .i64 h4 (add (⟨b, 0, some 0⟩ : Addr) 1)) fun x70 =>
 bind2 (hand_May x70 h4) fun x71 h82 =>
 bindO (st1 h82 (add (⟨b2, 0, some 0⟩ : Addr) 1) (.int .i64 x71)) fun h83 =>
 some (inl (((some (⟨b, 0, some 0⟩ : Addr)), ((some (⟨b1, 0, some 0⟩ : Addr)), (some (⟨b2, 0, some 0⟩ : Addr)))), h83))) (
 some (inl (((some (⟨b, 0, some 0⟩ : Addr)), ((some (⟨b1, 0, some 0⟩ : Addr)), (some (⟨b2, 0, some 0⟩ : Addr)))), h4)))))))) (
 condK (x3 == 12) (
 bindO (ldI .i64 h4 (add (⟨b, 0, some 0⟩ : Addr) 3)) fun x72 =>
 bind2 (hand_May x72 h4) fun x73 h84 =>
 bindO (st1 h84 (add (⟨b2, 0, some 0⟩ : Addr) 3) (.int .i64 x73)) fun h85 =>
 some (inl (((some (⟨b, 0, some 0⟩ : Addr)), ((some (⟨b1, 0, some 0⟩ : Addr)), (some (⟨b2, 0, some 0⟩ : Addr)))), h85))) (
 condK (x3 == 8) (
 bindO (ldI .i64 h4 (add (⟨b, 0, some 0⟩ : Addr) 3)) fun x74 =>
 bind2 (hand_May x74 h4) fun x75 h86 =>
 bindO (st1 h86 (add (⟨b2, 0, some 0⟩ : Addr) 3) (.int .i64 x75)) fun h87 =>
 bindO (ldB h87 (add (⟨b, 0, some 0⟩ : Addr) 6)) fun x76 =>
 bindO (st1 h87 (add (⟨b2, 0, some 0⟩ : Addr) 6) (.bool x76)) fun h88 =>
 some (inl (((some (⟨b, 0, some 0⟩ : Addr)), ((some (⟨b1, 0, some 0⟩ : Addr)), (some (⟨b2, 0, some 0⟩ : Addr)))), h88))) (
 condK (x3 == 9) (
 letH (growIf h4 10) fun h89 =>
 bindO (ldL h89 (add (⟨b, 0, some 0⟩ : Addr) 7)) fun x77 =>
 bind2 (hand_Few x77 119 h89) fun x78 h90 =>
 bindO (ldI .i64 h90 (add (⟨b, 0, some 0⟩ : Addr) 3)) fun x79 =>
 letH (addP 127 h4.size [(6, (row 5 [(.int .u8 (IntKind.wrap .u8 x79))]))] h90) fun h91 =>
 bind2 (appT 5 1 1 h91 x78 (⟨(some (⟨(h4.size + 6), 0, some 0⟩ : Addr)), 1, 1⟩ : Sl)) fun x80 h92 =>
 letH (addP 511 h4.size [(6, (row 5 [(.int .u8 (IntKind.wrap .u8 x79))]))] h92) fun h93 =>
 bindO (st1 h93 (add (⟨b2, 0, some 0⟩ : Addr) 7) (.slice x80.base x80.len x80.cap)) fun h94 =>
 letH (addP 8 h4.size [(6, (row 5 [(.int .u8 (IntKind.wrap .u8 x79))]))] h89) fun h95 =>
 bindO (ldI .i64 h95 (add (⟨b, 0, some 0⟩ : Addr) 3)) fun x81 =>
 condK (x81 == x79) (
 letH (addP 1023 h4.size [(6, (row 5 [(.int .u8 (IntKind.wrap .u8 x79))]))] h94) fun h96 =>
 letH (tickIf 10 h96) fun h97 =>
 some (inl (((some (⟨b, 0, some 0⟩ : Addr)), ((some (⟨b1, 0, some 0⟩ : Addr)), (some (⟨b2, 0, some 0⟩ : Addr)))), h97))) none) (
 condK (x3 == 10) (
 condK (x3 == 10) (
 bindO (ldI .i64 h4 (add (⟨b, 0, some 0⟩ : Addr) 1)) fun x82 =>
 bind2 (hand_May x82 h4) fun x83 h98 =>
 bindO (st1 h98 (add (⟨b2, 0, some 0⟩ : Addr) 1) (.int .i64 x83)) fun h99 =>
 some (inl (((some (⟨b, 0, some 0⟩ : Addr)), ((some (⟨b1, 0, some 0⟩ : Addr)), (some (⟨b2, 0, some 0⟩ : Addr)))), h99))) (
 some (inl (((some (⟨b, 0, some 0⟩ : Addr)), ((some (⟨b1, 0, some 0⟩ : Addr)), (some (⟨b2, 0, some 0⟩ : Addr)))), h4)))) (
 condK (x3 == 11) (
 bindO (ldI .i64 h4 (add (⟨b, 0, some 0⟩ : Addr) 1)) fun x84 =>
 bind2 (hand_May x84 h4) fun x85 h100 =>
 bindO (st1 h100 (add (⟨b2, 0, some 0⟩ : Addr) 1) (.int .i64 x85)) fun h101 =>
 some (inl (((some (⟨b, 0, some 0⟩ : Addr)), ((some (⟨b1, 0, some 0⟩ : Addr)), (some (⟨b2, 0, some 0⟩ : Addr)))), h101))) (
 some (inl (((some (⟨b, 0, some 0⟩ : Addr)), ((some (⟨b1, 0, some 0⟩ : Addr)), (some (⟨b2, 0, some 0⟩ : Addr)))), h4)))))))))))))) fun (((x3, (x4, f)), h5) : (((Option Addr) × ((Option Addr) × (Option Addr))) × H)) =>
 ptrK x3 fun a0 =>
 bindO (ldI .i64 h5 (add a0 5)) fun x5 =>
 joinO (
 ptrK x3 fun a1 =>
 bindO (ldI .i64 h5 (add a1 5)) fun x6 =>
 bind2 (hand_Pick x6 20 h5) fun x7 h6 =>
 condK (x7 == 10) (
 bind2 (hand_Pick (IntKind.wrap .i64 (Int.tdiv x5 20)) 15 h6) fun x8 h7 =>
 ptrK f fun a2 =>
 bindO (st1 h7 (add a2 0) (.int .i64 (IntKind.wrap .i64 (x8 - 1)))) fun h8 =>
 some (inl ((x4, f), h8))) (
 condK (x7 == 11) (
 bind2 (hand_Num (IntKind.wrap .i64 (Int.tdiv x5 20)) h6) fun x9 h9 =>
 ptrK f fun a3 =>
 bindO (st1 h9 (add a3 1) (.int .i64 x9)) fun h10 =>
 some (inl ((x4, f), h10))) (
 condK (x7 == 12) (
 bind2 (hand_Num (IntKind.wrap .i64 (Int.tdiv x5 20)) h6) fun x10 h11 =>
 ptrK f fun a4 =>
 bindO (st1 h11 (add a4 2) (.int .i64 x10)) fun h12 =>
 some (inl ((x4, f), h12))) (
 condK (x7 == 13) (
 bind2 (hand_Num (IntKind.wrap .i64 (Int.tdiv x5 20)) h6) fun x11 h13 =>
 ptrK f fun a5 =>
 bindO (st1 h13 (add a5 3) (.int .i64 x11)) fun h14 =>
 some (inl ((x4, f), h14))) (
 condK (x7 == 14) (
 bind2 (hand_Num (IntKind.wrap .i64 (Int.tdiv x5 20)) h6) fun x12 h15 =>
 ptrK f fun a6 =>
 bindO (st1 h15 (add a6 4) (.int .i64 x12)) fun h16 =>
 some (inl ((x4, f), h16))) (
 condK (x7 == 15) (
 ptrK f fun a7 =>
 bindO (ldB h6 (add a7 6)) fun x13 =>
 ptrK f fun a8 =>
 bindO (st1 h6 (add a8 6) (.bool (!x13))) fun h17 =>
 some (inl ((x4, f), h17))) (
 condK (x7 == 16) (
 loopO (P.hand_Frame_l1 hand_Pick hand_Runs hand_May hand_Few hand_Num) ((x4, (f, (IntKind.wrap .i64 (Int.tdiv x5 20)))), h6)) (
 condK (x7 == 17) (
 ptrK f fun a9 =>
 bindO (ldL h6 (add a9 8)) fun x14 =>
 condK (decide ((((x14.len : Nat) : Int) > 0))) (
 ptrK f fun a10 =>
 bindO (ldL h6 (add a10 8)) fun x15 =>
 ptrK f fun a11 =>
 bindO (ldL h6 (add a11 8)) fun x16 =>
 bind2 (hand_Pick (IntKind.wrap .i64 (Int.tdiv x5 20)) ((x16.len : Nat) : Int) h6) fun x17 h18 =>
 bind2 (hand_Pick (IntKind.wrap .i64 (Int.tdiv (IntKind.wrap .i64 (Int.tdiv x5 20)) 8)) 2 h18) fun x18 h19 =>
 bindO (ixT 2 x15 x17) fun a12 =>
 bindO (ixAT 2 1 a12 x18) fun a13 =>
 bindO (ldI .i64 h19 a13) fun x19 =>
 bind2 (hand_Pick (IntKind.wrap .i64 (Int.tdiv (IntKind.wrap .i64 (Int.tdiv x5 20)) 16)) 7 h19) fun x20 h20 =>
 bindO (ixT 2 x15 x17) fun a14 =>
 bindO (ixAT 2 1 a14 x18) fun a15 =>
 bindO (st1 h20 a15 (.int .i64 (IntKind.wrap .i64 (x19 + (IntKind.wrap .i64 (x20 - 3)))))) fun h21 =>
 bindO (ldI .i64 h20 a13) fun x21 =>
 condK (x21 == x19) (
 bindO (ldL h20 (add a10 8)) fun x22 =>
 condK (slEq x22.base x22.len x22.cap x15.base x15.len x15.cap) (
 bindO (ldL h19 (add a10 8)) fun x23 =>
 condK (slEq x23.base x23.len x23.cap x15.base x15.len x15.cap) (
 bindO (ldL h18 (add a10 8)) fun x24 =>
 condK (slEq x24.base x24.len x24.cap x15.base x15.len x15.cap) (
 some (inl ((x4, f), h21))) none) none) none) none) (
 some (inl ((x4, f), h6)))) (
 condK (x7 == 18) (
 ptrK f fun a16 =>
 letH (growIf h6 9) fun h22 =>
 bindO (ldL h22 (add a16 8)) fun x25 =>
 bind2 (hand_Pick (IntKind.wrap .i64 (Int.tdiv x5 20)) 2 h22) fun x26 h23 =>
 letH (addP 63 h6.size [(5, (row 36 [(.int .i64 0), (.int .i64 x26)]))] h23) fun h24 =>
 bind2 (appT 36 2 16 h24 x25 (⟨(some (⟨(h6.size + 5), 0, some 0⟩ : Addr)), 1, 1⟩ : Sl)) fun x27 h25 =>
 ptrK f fun a17 =>
 letH (addP 255 h6.size [(5, (row 36 [(.int .i64 0), (.int .i64 x26)]))] h25) fun h26 =>
 bindO (st1 h26 (add a17 8) (.slice x27.base x27.len x27.cap)) fun h27 =>
 letH (addP 1 h6.size [(5, (row 36 [(.int .i64 0), (.int .i64 x26)]))] h23) fun h28 =>
 bindO (ldL h28 (add a16 8)) fun x28 =>
 condK (slEq x28.base x28.len x28.cap x25.base x25.len x25.cap) (
 letH (addP 511 h6.size [(5, (row 36 [(.int .i64 0), (.int .i64 x26)]))] h27) fun h29 =>
 letH (tickIf 9 h29) fun h30 =>
 some (inl ((x4, f), h30))) none) (
 condK (x7 == 19) (
 ptrK f fun a18 =>
 bindO (st1 h6 (add a18 5) (.int .i64 (IntKind.wrap .i64 (Int.tdiv x5 20)))) fun h31 =>
 some (inl ((x4, f), h31))) (
 some (inl ((x4, f), h6))))))))))))) fun (((x6, f1), h6) : (((Option Addr) × (Option Addr)) × H)) =>
 ptrK f1 fun a1 =>
 bindO (ldZ j9 h6 a1) fun ((x7, x8, x9, x10, x11, x12, x13, x14, x15) : J9) =>
 ptrK x6 fun a2 =>
 bindO (stZ j9 h6 a2 ((x7, x8, x9, x10, x11, x12, x13, x14, x15) : J9)) fun h7 =>
 ptrK x6 fun a3 =>
 bindO (ldZ j9 h7 a3) fun ((x16, x17, x18, x19, x20, x21, x22, x23, x24) : J9) =>
 some ((x16, (x17, (x18, (x19, (x20, (x21, (x22, (x23, x24)))))))), h7)
abbrev hand_Frame_l1 := P.hand_Frame_l1 hand_Pick hand_Runs hand_May hand_Few hand_Num
def hand_Frame : (J9) → H → Option (((J9)) × H) := P.hand_Frame hand_Pick hand_Runs hand_May hand_Few hand_Num
def ann_108 : Ann := ⟨fun i => bif i.beq 30 then some ⟨[1, 2, 3], [eP_, eP_, eP_]⟩ else bif i.beq 54 then some ⟨[2, 3], [eP_, eP_]⟩ else none, fun i => bif i.beq 45 then some ⟨[2, 3, 4], [eP_, eP_, eI_]⟩ else none, fun _ => none⟩
def E_108 : Ent := V_108 hand_Frame
theorem eq_108 (hand_Pick : T_24) (hand_Runs : T_154) (hand_May : T_48) (hand_Few : T_49) (hand_Num : T_45) : runE [V_24 hand_Pick, V_154 hand_Runs, V_48 hand_May, V_49 hand_Few, V_45 hand_Num] ann_108 Try.f108 (V_108 (P.hand_Frame hand_Pick hand_Runs hand_May hand_Few hand_Num)) = (V_108 (P.hand_Frame hand_Pick hand_Runs hand_May hand_Few hand_Num)).g := by kernel_rfl
theorem ok_108 : E_108.ok Tab.D := entT (entC ok_24 (entC ok_154 (entC ok_48 (entC ok_49 (entC ok_45 entN))))) (by kernel_rfl) (by kernel_rfl) (by kernel_rfl) (eq_108 hand_Pick hand_Runs hand_May hand_Few hand_Num)
/-! hand_Right -/
abbrev T_52 := Sl → Int → H → Option ((Sl) × H)
abbrev V_52 (f : T_52) : Ent := ⟨52, [eL_, eI_], [eL_], fun (x : Sl × Int) h => f x.1 x.2 h⟩
def P.hand_Right_l1 (hand_Frame : T_108) : ((Sl × (Int × (Sl × Int))) × H) → Option (((Sl × (Int × (Sl × Int))) × H) ⊕ ((Sl × H) ⊕ (Sl × H))) := fun ((l, (n, (out, i))), h0) =>
 joinO (
 condK (decide ((i < ((l.len : Nat) : Int)))) (
 some (inl ((l, (n, (out, (i, (decide ((i < n))))))), h0))) (
 some (inl ((l, (n, (out, (i, false)))), h0)))) fun (((l1, (n1, (out1, (i1, x0)))), h1) : ((Sl × (Int × (Sl × (Int × Bool)))) × H)) =>
 condK x0 (
 bindO (ixT 9 l1 i1) fun a0 =>
 bindO (ldZ j9 h1 a0) fun ((x1, x2, x3, x4, x5, x6, x7, x8, x9) : J9) =>
 newO (row 132 [(.int .i64 0), (.int .i64 0), (.int .i64 0), (.int .i64 0), (.int .i64 0), (.int .i64 0), (.bool false), (.slice none 0 0), (.slice none 0 0)]) h1 fun b h2 =>
 bindO (stZ j9 h2 (⟨b, 0, some 0⟩ : Addr) ((x1, x2, x3, x4, x5, x6, x7, x8, x9) : J9)) fun h3 =>
 bindO (st1 h3 (add (⟨b, 0, some 0⟩ : Addr) 5) (.int .i64 0)) fun h4 =>
 bindO (ldZ j9 h4 (⟨b, 0, some 0⟩ : Addr)) fun ((x10, x11, x12, x13, x14, x15, x16, x17, x18) : J9) =>
 bind2 (hand_Frame (x10, x11, x12, x13, x14, x15, x16, x17, x18) h4) fun ((x19, x20, x21, x22, x23, x24, x25, x26, x27) : J9) (h5 : H) =>
 newO (row 33 [(.int .i64 x19), (.int .i64 x20), (.int .i64 x21), (.int .i64 x22), (.int .i64 x23), (.int .i64 x24), (.bool x25), (.slice x26.base x26.len x26.cap), (.slice x27.base x27.len x27.cap)]) h5 fun b1 h6 =>
 bind2 (appT 33 9 104 h6 out1 (⟨(some (⟨b1, 0, some 0⟩ : Addr)), 1, 1⟩ : Sl)) fun x28 h7 =>
 some (inl ((l1, (n1, (x28, (IntKind.wrap .i64 (i1 + 1))))), h7))) (
 some (inr (inl (out1, h1))))

def P.hand_Right (hand_Frame : T_108) (l : Sl) (n : Int) (h : H) : Option (Sl × H) :=
 joinO (
 loopO (P.hand_Right_l1 hand_Frame) ((l, (n, ((⟨none, 0, 0⟩ : Sl), 0))), h)) fun ((out, h0) : (Sl × H)) =>
 some (out, h0)
abbrev hand_Right_l1 := P.hand_Right_l1 hand_Frame
def hand_Right : Sl → Int → H → Option ((Sl) × H) := P.hand_Right hand_Frame
def ann_52 : Ann := ⟨fun i => bif i.beq 8 then some ⟨[5], [eL_]⟩ else none, fun i => bif i.beq 3 then some ⟨[0, 1, 5, 6], [eL_, eI_, eL_, eI_]⟩ else none, fun i => bif i.beq 3 then some ⟨[0, 1, 5, 6, 16], [eL_, eI_, eL_, eI_, eB_]⟩ else none⟩
def E_52 : Ent := V_52 hand_Right
theorem eq_52 (hand_Frame : T_108) : runE [V_108 hand_Frame] ann_52 Try.f52 (V_52 (P.hand_Right hand_Frame)) = (V_52 (P.hand_Right hand_Frame)).g := by kernel_rfl
theorem ok_52 : E_52.ok Tab.D := entT (entC ok_108 entN) (by kernel_rfl) (by kernel_rfl) (by kernel_rfl) (eq_52 hand_Frame)
/-! frame_flag -/
abbrev T_156 := Bool → H → Option ((Int) × H)
abbrev V_156 (f : T_156) : Ent := ⟨156, [eB_], [eI_], fun (x : Bool) h => f x h⟩
def frame_flag (fin : Bool) (h : H) : Option (Int × H) :=
 condK fin (
 some (1, h)) (
 some (0, h))
def ann_156 : Ann := ⟨fun _ => none, fun _ => none, fun _ => none⟩
def E_156 : Ent := V_156 frame_flag
theorem eq_156 : runE [] ann_156 Try.f156 (V_156 frame_flag) = (V_156 frame_flag).g := by kernel_rfl
theorem ok_156 : E_156.ok Tab.D := entT entN (by kernel_rfl) (by kernel_rfl) (by kernel_rfl) eq_156
/-! frame_numbers -/
abbrev T_111 := (J9) → H → Option ((Sl) × H)
abbrev V_111 (f : T_111) : Ent := ⟨111, [⟨true, j9⟩], [eL_], fun (x : (J9)) h => f x h⟩
def P.frame_numbers_l1 (frame_flag : T_156) : (((Option Addr) × (Sl × (Sl × (Int × Int)))) × H) → Option ((((Option Addr) × (Sl × (Sl × (Int × Int)))) × H) ⊕ ((Sl × H) ⊕ (((Option Addr) × H) ⊕ (Sl × H)))) := fun ((f, (out, (x0, (x1, x2)))), h0) =>
 condK (decide ((x2 < x1))) (
 joinO (
 bindO (ixT 2 x0 x2) fun a0 =>
 bindO (ldZ [.int .i64, .int .i64] h0 a0) fun ((x3, x4) : Int × Int) =>
 newO (row 36 [(.int .i64 0), (.int .i64 0)]) h0 fun b h1 =>
 bindO (stZ [.int .i64, .int .i64] h1 (⟨b, 0, some 0⟩ : Addr) ((x3, x4) : Int × Int)) fun h2 =>
 condK (x2 == 0) (
 bindO (ixAT 2 1 (⟨b, 0, some 0⟩ : Addr) 1) fun a1 =>
 bindO (ldI .i64 h2 a1) fun x5 =>
 bindO (ixAT 2 1 (⟨b, 0, some 0⟩ : Addr) 1) fun a2 =>
 bindO (ldI .i64 h2 a2) fun x6 =>
 bindO (ixAT 2 1 (⟨b, 0, some 0⟩ : Addr) 0) fun a3 =>
 bindO (ldI .i64 h2 a3) fun x7 =>
 newO (row 3 [(.int .i64 x5), (.int .i64 (IntKind.wrap .i64 (x6 - x7)))]) h2 fun b1 h3 =>
 bind2 (appT 3 1 8 h3 out (⟨(some (⟨b1, 0, some 0⟩ : Addr)), 2, 2⟩ : Sl)) fun x8 h4 =>
 some (inl ((f, (x8, (x0, (x1, x2)))), h4))) (
 ptrK f fun a4 =>
 letH (growIf h2 19) fun h5 =>
 bindO (ldL h5 (add a4 8)) fun x9 =>
 bindO (ixT 2 x9 (IntKind.wrap .i64 (x2 - 1))) fun a5 =>
 bindO (ixAT 2 1 a5 0) fun a6 =>
 bindO (ldI .i64 h5 a6) fun x10 =>
 bindO (ixAT 2 1 (⟨b, 0, some 0⟩ : Addr) 1) fun a7 =>
 bindO (ldI .i64 h5 a7) fun x11 =>
 bindO (ixAT 2 1 (⟨b, 0, some 0⟩ : Addr) 1) fun a8 =>
 bindO (ldI .i64 h5 a8) fun x12 =>
 bindO (ixAT 2 1 (⟨b, 0, some 0⟩ : Addr) 0) fun a9 =>
 bindO (ldI .i64 h5 a9) fun x13 =>
 letH (addP 131071 h2.size [(16, (row 3 [(.int .i64 (IntKind.wrap .i64 (x10 - x11))), (.int .i64 (IntKind.wrap .i64 (x12 - x13)))]))] h5) fun h6 =>
 bind2 (appT 3 1 8 h6 out (⟨(some (⟨(h2.size + 16), 0, some 0⟩ : Addr)), 2, 2⟩ : Sl)) fun x14 h7 =>
 letH (addP 524287 h2.size [(16, (row 3 [(.int .i64 (IntKind.wrap .i64 (x10 - x11))), (.int .i64 (IntKind.wrap .i64 (x12 - x13)))]))] h7) fun h8 =>
 letH (tickIf 19 h8) fun h9 =>
 some (inl ((f, (x14, (x0, (x1, x2)))), h9)))) fun (((f1, (out1, (x3, (x4, x5)))), h1) : (((Option Addr) × (Sl × (Sl × (Int × Int)))) × H)) =>
 some (inl ((f1, (out1, (x3, (x4, (IntKind.wrap .i64 (x5 + 1)))))), h1))) (
 some (inr (inl (out, h0))))

def P.frame_numbers (frame_flag : T_156) (f : J9) (h : H) : Option (Sl × H) :=
 newO (row 33 [(.int .i64 f.1), (.int .i64 f.2.1), (.int .i64 f.2.2.1), (.int .i64 f.2.2.2.1), (.int .i64 f.2.2.2.2.1), (.int .i64 f.2.2.2.2.2.1), (.bool f.2.2.2.2.2.2.1), (.slice f.2.2.2.2.2.2.2.1.base f.2.2.2.2.2.2.2.1.len f.2.2.2.2.2.2.2.1.cap), (.slice f.2.2.2.2.2.2.2.2.base f.2.2.2.2.2.2.2.2.len f.2.2.2.2.2.2.2.2.cap)]) h fun b h0 =>
 joinO (
 bindO (ldI .i64 h0 (add (⟨b, 0, some 0⟩ : Addr) 0)) fun x0 =>
 condK (x0 == 2) (
 bindO (ldI .i64 h0 (add (⟨b, 0, some 0⟩ : Addr) 0)) fun x1 =>
 bindO (ldL h0 (add (⟨b, 0, some 0⟩ : Addr) 8)) fun x2 =>
 newO (row 3 [(.int .i64 x1), (.int .i64 ((x2.len : Nat) : Int))]) h0 fun b1 h1 =>
 joinO (
 bindO (ldL h1 (add (⟨b, 0, some 0⟩ : Addr) 8)) fun x3 =>
 loopO (P.frame_numbers_l1 frame_flag) (((some (⟨b, 0, some 0⟩ : Addr)), ((⟨(some (⟨b1, 0, some 0⟩ : Addr)), 2, 2⟩ : Sl), (x3, (((x3.len : Nat) : Int), 0)))), h1)) fun ((out, h2) : (Sl × H)) =>
 some (inr (out, h2))) (
 condK (x0 == 3) (
 letH (growIf h0 14) fun h3 =>
 bindO (ldI .i64 h3 (add (⟨b, 0, some 0⟩ : Addr) 0)) fun x3 =>
 bindO (ldI .i64 h3 (add (⟨b, 0, some 0⟩ : Addr) 1)) fun x4 =>
 bindO (ldI .i64 h3 (add (⟨b, 0, some 0⟩ : Addr) 2)) fun x5 =>
 bindO (ldB h3 (add (⟨b, 0, some 0⟩ : Addr) 6)) fun x6 =>
 bind2 (frame_flag x6 h3) fun x7 h4 =>
 bindO (ldL h4 (add (⟨b, 0, some 0⟩ : Addr) 7)) fun x8 =>
 letH (addP 1536 h0.size [(12, (row 3 [(.int .i64 x3), (.int .i64 x4), (.int .i64 x5), (.int .i64 x7), (.int .i64 ((x8.len : Nat) : Int))]))] h3) fun h5 =>
 condK (((x8.len : Nat) : Int) == ((x8.len : Nat) : Int)) (
 letH (addP 512 h0.size [(12, (row 3 [(.int .i64 x3), (.int .i64 x4), (.int .i64 x5), (.int .i64 x7), (.int .i64 ((x8.len : Nat) : Int))]))] h3) fun h6 =>
 bindO (ldL h6 (add (⟨b, 0, some 0⟩ : Addr) 7)) fun x9 =>
 condK (slEq x9.base x9.len x9.cap x8.base x8.len x8.cap) (
 letH (addP 16 h0.size [(12, (row 3 [(.int .i64 x3), (.int .i64 x4), (.int .i64 x5), (.int .i64 x7), (.int .i64 ((x8.len : Nat) : Int))]))] h4) fun h7 =>
 bindO (ldI .i64 h7 (add (⟨b, 0, some 0⟩ : Addr) 2)) fun x10 =>
 condK (x10 == x5) (
 letH (addP 4 h0.size [(12, (row 3 [(.int .i64 x3), (.int .i64 x4), (.int .i64 x5), (.int .i64 x7), (.int .i64 ((x8.len : Nat) : Int))]))] h4) fun h8 =>
 bindO (ldI .i64 h8 (add (⟨b, 0, some 0⟩ : Addr) 1)) fun x11 =>
 condK (x11 == x4) (
 letH (addP 1 h0.size [(12, (row 3 [(.int .i64 x3), (.int .i64 x4), (.int .i64 x5), (.int .i64 x7), (.int .i64 ((x8.len : Nat) : Int))]))] h4) fun h9 =>
 bindO (ldI .i64 h9 (add (⟨b, 0, some 0⟩ : Addr) 0)) fun x12 =>
 condK (x12 == x3) (
 letH (addP 16383 h0.size [(12, (row 3 [(.int .i64 x3), (.int .i64 x4), (.int .i64 x5), (.int .i64 x7), (.int .i64 ((x8.len : Nat) : Int))]))] h4) fun h10 =>
 letH (tickIf 14 h10) fun h11 =>
 some (inr ((⟨(some (⟨(h0.size + 12), 0, some 0⟩ : Addr)), 5, 5⟩ : Sl), h11))) none) none) none) none) none) (
 condK (x0 == 4) (
 bindO (ldI .i64 h0 (add (⟨b, 0, some 0⟩ : Addr) 0)) fun x13 =>
 bindO (ldI .i64 h0 (add (⟨b, 0, some 0⟩ : Addr) 1)) fun x14 =>
 bindO (ldI .i64 h0 (add (⟨b, 0, some 0⟩ : Addr) 3)) fun x15 =>
 bindO (ldI .i64 h0 (add (⟨b, 0, some 0⟩ : Addr) 2)) fun x16 =>
 bindO (ldI .i64 h0 (add (⟨b, 0, some 0⟩ : Addr) 4)) fun x17 =>
 newO (row 3 [(.int .i64 x13), (.int .i64 x14), (.int .i64 x15), (.int .i64 x16), (.int .i64 x17)]) h0 fun b2 h12 =>
 some (inr ((⟨(some (⟨b2, 0, some 0⟩ : Addr)), 5, 5⟩ : Sl), h12))) (
 condK (x0 == 5) (
 condK (x0 == 5) (
 bindO (ldI .i64 h0 (add (⟨b, 0, some 0⟩ : Addr) 0)) fun x18 =>
 bindO (ldI .i64 h0 (add (⟨b, 0, some 0⟩ : Addr) 1)) fun x19 =>
 bindO (ldI .i64 h0 (add (⟨b, 0, some 0⟩ : Addr) 3)) fun x20 =>
 newO (row 3 [(.int .i64 x18), (.int .i64 x19), (.int .i64 x20)]) h0 fun b3 h13 =>
 some (inr ((⟨(some (⟨b3, 0, some 0⟩ : Addr)), 3, 3⟩ : Sl), h13))) (
 condK (x0 == 6) (
 condK (x0 == 6) (
 bindO (ldI .i64 h0 (add (⟨b, 0, some 0⟩ : Addr) 0)) fun x21 =>
 bindO (ldI .i64 h0 (add (⟨b, 0, some 0⟩ : Addr) 3)) fun x22 =>
 newO (row 3 [(.int .i64 x21), (.int .i64 x22)]) h0 fun b4 h14 =>
 some (inr ((⟨(some (⟨b4, 0, some 0⟩ : Addr)), 2, 2⟩ : Sl), h14))) (
 condK (x0 == 8) (
 letH (growIf h0 9) fun h15 =>
 bindO (ldI .i64 h15 (add (⟨b, 0, some 0⟩ : Addr) 0)) fun x23 =>
 bindO (ldI .i64 h15 (add (⟨b, 0, some 0⟩ : Addr) 3)) fun x24 =>
 bindO (ldB h15 (add (⟨b, 0, some 0⟩ : Addr) 6)) fun x25 =>
 bind2 (frame_flag x25 h15) fun x26 h16 =>
 letH (addP 4 h0.size [(7, (row 3 [(.int .i64 x23), (.int .i64 x24), (.int .i64 x26)]))] h16) fun h17 =>
 bindO (ldI .i64 h17 (add (⟨b, 0, some 0⟩ : Addr) 3)) fun x27 =>
 condK (x27 == x24) (
 letH (addP 1 h0.size [(7, (row 3 [(.int .i64 x23), (.int .i64 x24), (.int .i64 x26)]))] h16) fun h18 =>
 bindO (ldI .i64 h18 (add (⟨b, 0, some 0⟩ : Addr) 0)) fun x28 =>
 condK (x28 == x23) (
 letH (addP 511 h0.size [(7, (row 3 [(.int .i64 x23), (.int .i64 x24), (.int .i64 x26)]))] h16) fun h19 =>
 letH (tickIf 9 h19) fun h20 =>
 some (inr ((⟨(some (⟨(h0.size + 7), 0, some 0⟩ : Addr)), 3, 3⟩ : Sl), h20))) none) none) (
 condK (x0 == 9) (
 bindO (ldI .i64 h0 (add (⟨b, 0, some 0⟩ : Addr) 0)) fun x29 =>
 bindO (ldL h0 (add (⟨b, 0, some 0⟩ : Addr) 7)) fun x30 =>
 newO (row 3 [(.int .i64 x29), (.int .i64 ((x30.len : Nat) : Int))]) h0 fun b5 h21 =>
 some (inr ((⟨(some (⟨b5, 0, some 0⟩ : Addr)), 2, 2⟩ : Sl), h21))) (
 condK (x0 == 10) (
 condK (x0 == 10) (
 bindO (ldI .i64 h0 (add (⟨b, 0, some 0⟩ : Addr) 0)) fun x31 =>
 bindO (ldI .i64 h0 (add (⟨b, 0, some 0⟩ : Addr) 1)) fun x32 =>
 newO (row 3 [(.int .i64 x31), (.int .i64 x32)]) h0 fun b6 h22 =>
 some (inr ((⟨(some (⟨b6, 0, some 0⟩ : Addr)), 2, 2⟩ : Sl), h22))) (
 some (inl ((some (⟨b, 0, some 0⟩ : Addr)), h0)))) (
 condK (x0 == 11) (
 bindO (ldI .i64 h0 (add (⟨b, 0, some 0⟩ : Addr) 0)) fun x33 =>
 bindO (ldI .i64 h0 (add (⟨b, 0, some 0⟩ : Addr) 1)) fun x34 =>
 newO (row 3 [(.int .i64 x33), (.int .i64 x34)]) h0 fun b7 h23 =>
 some (inr ((⟨(some (⟨b7, 0, some 0⟩ : Addr)), 2, 2⟩ : Sl), h23))) (
 some (inl ((some (⟨b, 0, some 0⟩ : Addr)), h0)))))))) (
 condK (x0 == 12) (
 bindO (ldI .i64 h0 (add (⟨b, 0, some 0⟩ : Addr) 0)) fun x35 =>
 bindO (ldI .i64 h0 (add (⟨b, 0, some 0⟩ : Addr) 3)) fun x36 =>
 newO (row 3 [(.int .i64 x35), (.int .i64 x36)]) h0 fun b8 h24 =>
 some (inr ((⟨(some (⟨b8, 0, some 0⟩ : Addr)), 2, 2⟩ : Sl), h24))) (
 condK (x0 == 8) (
 letH (growIf h0 9) fun h25 =>
 bindO (ldI .i64 h25 (add (⟨b, 0, some 0⟩ : Addr) 0)) fun x37 =>
 bindO (ldI .i64 h25 (add (⟨b, 0, some 0⟩ : Addr) 3)) fun x38 =>
 bindO (ldB h25 (add (⟨b, 0, some 0⟩ : Addr) 6)) fun x39 =>
 bind2 (frame_flag x39 h25) fun x40 h26 =>
 letH (addP 4 h0.size [(7, (row 3 [(.int .i64 x37), (.int .i64 x38), (.int .i64 x40)]))] h26) fun h27 =>
 bindO (ldI .i64 h27 (add (⟨b, 0, some 0⟩ : Addr) 3)) fun x41 =>
 condK (x41 == x38) (
 letH (addP 1 h0.size [(7, (row 3 [(.int .i64 x37), (.int .i64 x38), (.int .i64 x40)]))] h26) fun h28 =>
 bindO (ldI .i64 h28 (add (⟨b, 0, some 0⟩ : Addr) 0)) fun x42 =>
 condK (x42 == x37) (
 letH (addP 511 h0.size [(7, (row 3 [(.int .i64 x37), (.int .i64 x38), (.int .i64 x40)]))] h26) fun h29 =>
 letH (tickIf 9 h29) fun h30 =>
 some (inr ((⟨(some (⟨(h0.size + 7), 0, some 0⟩ : Addr)), 3, 3⟩ : Sl), h30))) none) none) (
 condK (x0 == 9) (
 bindO (ldI .i64 h0 (add (⟨b, 0, some 0⟩ : Addr) 0)) fun x43 =>
 bindO (ldL h0 (add (⟨b, 0, some 0⟩ : Addr) 7)) fun x44 =>
 newO (row 3 [(.int .i64 x43), (.int .i64 ((x44.len : Nat) : Int))]) h0 fun b9 h31 =>
 some (inr ((⟨(some (⟨b9, 0, some 0⟩ : Addr)), 2, 2⟩ : Sl), h31))) (
 condK (x0 == 10) (
 condK (x0 == 10) (
 bindO (ldI .i64 h0 (add (⟨b, 0, some 0⟩ : Addr) 0)) fun x45 =>
 bindO (ldI .i64 h0 (add (⟨b, 0, some 0⟩ : Addr) 1)) fun x46 =>
 newO (row 3 [(.int .i64 x45), (.int .i64 x46)]) h0 fun b10 h32 =>
 some (inr ((⟨(some (⟨b10, 0, some 0⟩ : Addr)), 2, 2⟩ : Sl), h32))) (
 some (inl ((some (⟨b, 0, some 0⟩ : Addr)), h0)))) (
 condK (x0 == 11) (
 bindO (ldI .i64 h0 (add (⟨b, 0, some 0⟩ : Addr) 0)) fun x47 =>
 bindO (ldI .i64 h0 (add (⟨b, 0, some 0⟩ : Addr) 1)) fun x48 =>
 newO (row 3 [(.int .i64 x47), (.int .i64 x48)]) h0 fun b11 h33 =>
 some (inr ((⟨(some (⟨b11, 0, some 0⟩ : Addr)), 2, 2⟩ : Sl), h33))) (
 some (inl ((some (⟨b, 0, some 0⟩ : Addr)), h0)))))))))) (
 condK (x0 == 7) (
 bindO (ldI .i64 h0 (add (⟨b, 0, some 0⟩ : Addr) 0)) fun x49 =>
 bindO (ldI .i64 h0 (add (⟨b, 0, some 0⟩ : Addr) 1)) fun x50 =>
 bindO (ldI .i64 h0 (add (⟨b, 0, some 0⟩ : Addr) 3)) fun x51 =>
 newO (row 3 [(.int .i64 x49), (.int .i64 x50), (.int .i64 x51)]) h0 fun b12 h34 =>
 some (inr ((⟨(some (⟨b12, 0, some 0⟩ : Addr)), 3, 3⟩ : Sl), h34))) (
 condK (x0 == 6) (
 condK (x0 == 6) (
 bindO (ldI .i64 h0 (add (⟨b, 0, some 0⟩ : Addr) 0)) fun x52 =>
 bindO (ldI .i64 h0 (add (⟨b, 0, some 0⟩ : Addr) 3)) fun x53 =>
 newO (row 3 [(.int .i64 x52), (.int .i64 x53)]) h0 fun b13 h35 =>
 some (inr ((⟨(some (⟨b13, 0, some 0⟩ : Addr)), 2, 2⟩ : Sl), h35))) (
 condK (x0 == 8) (
 letH (growIf h0 9) fun h36 =>
 bindO (ldI .i64 h36 (add (⟨b, 0, some 0⟩ : Addr) 0)) fun x54 =>
 bindO (ldI .i64 h36 (add (⟨b, 0, some 0⟩ : Addr) 3)) fun x55 =>
 bindO (ldB h36 (add (⟨b, 0, some 0⟩ : Addr) 6)) fun x56 =>
 bind2 (frame_flag x56 h36) fun x57 h37 =>
 letH (addP 4 h0.size [(7, (row 3 [(.int .i64 x54), (.int .i64 x55), (.int .i64 x57)]))] h37) fun h38 =>
 bindO (ldI .i64 h38 (add (⟨b, 0, some 0⟩ : Addr) 3)) fun x58 =>
 condK (x58 == x55) (
 letH (addP 1 h0.size [(7, (row 3 [(.int .i64 x54), (.int .i64 x55), (.int .i64 x57)]))] h37) fun h39 =>
 bindO (ldI .i64 h39 (add (⟨b, 0, some 0⟩ : Addr) 0)) fun x59 =>
 condK (x59 == x54) (
 letH (addP 511 h0.size [(7, (row 3 [(.int .i64 x54), (.int .i64 x55), (.int .i64 x57)]))] h37) fun h40 =>
 letH (tickIf 9 h40) fun h41 =>
 some (inr ((⟨(some (⟨(h0.size + 7), 0, some 0⟩ : Addr)), 3, 3⟩ : Sl), h41))) none) none) (
 condK (x0 == 9) (
 bindO (ldI .i64 h0 (add (⟨b, 0, some 0⟩ : Addr) 0)) fun x60 =>
 bindO (ldL h0 (add (⟨b, 0, some 0⟩ : Addr) 7)) fun x61 =>
 newO (row 3 [(.int .i64 x60), (.int .i64 ((x61.len : Nat) : Int))]) h0 fun b14 h42 =>
 some (inr ((⟨(some (⟨b14, 0, some 0⟩ : Addr)), 2, 2⟩ : Sl), h42))) (
 condK (x0 == 10) (
 condK (x0 == 10) (
 bindO (ldI .i64 h0 (add (⟨b, 0, some 0⟩ : Addr) 0)) fun x62 =>
 bindO (ldI .i64 h0 (add (⟨b, 0, some 0⟩ : Addr) 1)) fun x63 =>
 newO (row 3 [(.int .i64 x62), (.int .i64 x63)]) h0 fun b15 h43 =>
 some (inr ((⟨(some (⟨b15, 0, some 0⟩ : Addr)), 2, 2⟩ : Sl), h43))) (
 some (inl ((some (⟨b, 0, some 0⟩ : Addr)), h0)))) (
 condK (x0 == 11) (
 bindO (ldI .i64 h0 (add (⟨b, 0, some 0⟩ : Addr) 0)) fun x64 =>
 bindO (ldI .i64 h0 (add (⟨b, 0, some 0⟩ : Addr) 1)) fun x65 =>
 newO (row 3 [(.int .i64 x64), (.int .i64 x65)]) h0 fun b16 h44 =>
 some (inr ((⟨(some (⟨b16, 0, some 0⟩ : Addr)), 2, 2⟩ : Sl), h44))) (
 some (inl ((some (⟨b, 0, some 0⟩ : Addr)), h0)))))))) (
 condK (x0 == 12) (
 bindO (ldI .i64 h0 (add (⟨b, 0, some 0⟩ : Addr) 0)) fun x66 =>
 bindO (ldI .i64 h0 (add (⟨b, 0, some 0⟩ : Addr) 3)) fun x67 =>
 newO (row 3 [(.int .i64 x66), (.int .i64 x67)]) h0 fun b17 h45 =>
 some (inr ((⟨(some (⟨b17, 0, some 0⟩ : Addr)), 2, 2⟩ : Sl), h45))) (
 condK (x0 == 8) (
 letH (growIf h0 9) fun h46 =>
 bindO (ldI .i64 h46 (add (⟨b, 0, some 0⟩ : Addr) 0)) fun x68 =>
 bindO (ldI .i64 h46 (add (⟨b, 0, some 0⟩ : Addr) 3)) fun x69 =>
 bindO (ldB h46 (add (⟨b, 0, some 0⟩ : Addr) 6)) fun x70 =>
 bind2 (frame_flag x70 h46) fun x71 h47 =>
 letH (addP 4 h0.size [(7, (row 3 [(.int .i64 x68), (.int .i64 x69), (.int .i64 x71)]))] h47) fun h48 =>
 bindO (ldI .i64 h48 (add (⟨b, 0, some 0⟩ : Addr) 3)) fun x72 =>
 condK (x72 == x69) (
 letH (addP 1 h0.size [(7, (row 3 [(.int .i64 x68), (.int .i64 x69), (.int .i64 x71)]))] h47) fun h49 =>
 bindO (ldI .i64 h49 (add (⟨b, 0, some 0⟩ : Addr) 0)) fun x73 =>
 condK (x73 == x68) (
 letH (addP 511 h0.size [(7, (row 3 [(.int .i64 x68), (.int .i64 x69), (.int .i64 x71)]))] h47) fun h50 =>
 letH (tickIf 9 h50) fun h51 =>
 some (inr ((⟨(some (⟨(h0.size + 7), 0, some 0⟩ : Addr)), 3, 3⟩ : Sl), h51))) none) none) (
 condK (x0 == 9) (
 bindO (ldI .i64 h0 (add (⟨b, 0, some 0⟩ : Addr) 0)) fun x74 =>
 bindO (ldL h0 (add (⟨b, 0, some 0⟩ : Addr) 7)) fun x75 =>
 newO (row 3 [(.int .i64 x74), (.int .i64 ((x75.len : Nat) : Int))]) h0 fun b18 h52 =>
 some (inr ((⟨(some (⟨b18, 0, some 0⟩ : Addr)), 2, 2⟩ : Sl), h52))) (
 condK (x0 == 10) (
 condK (x0 == 10) (
 bindO (ldI .i64 h0 (add (⟨b, 0, some 0⟩ : Addr) 0)) fun x76 =>
 bindO (ldI .i64 h0 (add (⟨b, 0, some 0⟩ : Addr) 1)) fun x77 =>
 newO (row 3 [(.int .i64 x76), (.int .i64 x77)]) h0 fun b19 h53 =>
 some (inr ((⟨(some (⟨b19, 0, some 0⟩ : Addr)), 2, 2⟩ : Sl), h53))) (
 some (inl ((some (⟨b, 0, some 0⟩ : Addr)), h0)))) (
 condK (x0 == 11) (
 bindO (ldI .i64 h0 (add (⟨b, 0, some 0⟩ : Addr) 0)) fun x78 =>
 bindO (ldI .i64 h0 (add (⟨b, 0, some 0⟩ : Addr) 1)) fun x79 =>
 newO (row 3 [(.int .i64 x78), (.int .i64 x79)]) h0 fun b20 h54 =>
 some (inr ((⟨(some (⟨b20, 0, some 0⟩ : Addr)), 2, 2⟩ : Sl), h54))) (
 some (inl ((some (⟨b, 0, some 0⟩ : Addr)), h0)))))))))))))) fun ((f1, h1) : ((Option Addr) × H)) =>
 ptrK f1 fun a0 =>
 bindO (ldI .i64 h1 (add a0 0)) fun x0 =>
 newO (row 3 [(.int .i64 x0)]) h1 fun b1 h2 =>
 some ((⟨(some (⟨b1, 0, some 0⟩ : Addr)), 1, 1⟩ : Sl), h2)
abbrev frame_numbers_l1 := P.frame_numbers_l1 frame_flag
def frame_numbers : (J9) → H → Option ((Sl) × H) := P.frame_numbers frame_flag
def ann_111 : Ann := ⟨fun i => bif i.beq 10 then some ⟨[1, 3, 17, 18, 19], [eP_, eL_, eL_, eI_, eI_]⟩ else bif i.beq 11 then some ⟨[3], [eL_]⟩ else bif i.beq 29 then some ⟨[1], [eP_]⟩ else none, fun i => bif i.beq 5 then some ⟨[1, 3, 17, 18, 19], [eP_, eL_, eL_, eI_, eI_]⟩ else none, fun _ => none⟩
def E_111 : Ent := V_111 frame_numbers
theorem eq_111 (frame_flag : T_156) : runE [V_156 frame_flag] ann_111 Try.f111 (V_111 (P.frame_numbers frame_flag)) = (V_111 (P.frame_numbers frame_flag)).g := by kernel_rfl
theorem ok_111 : E_111.ok Tab.D := entT (entC ok_156 entN) (by kernel_rfl) (by kernel_rfl) (by kernel_rfl) (eq_111 frame_flag)
/-! frame_Lay -/
abbrev T_55 := Sl → H → Option ((Sl × Int) × H)
abbrev V_55 (f : T_55) : Ent := ⟨55, [eL_], [eL_, eI_], fun (x : Sl) h => f x h⟩
def P.frame_Lay_l1 (frame_Right : T_27) (frame_numbers : T_111) (varint_Put : T_100) (slices_Clip_byte : T_97) : ((Sl × (Sl × (Int × Int))) × H) → Option (((Sl × (Sl × (Int × Int))) × H) ⊕ ((Sl × H) ⊕ ((Sl × Int) × H))) := fun ((out, (x0, (x1, x2))), h0) =>
 condK (decide ((x2 < x1))) (
 bindO (ixT 9 x0 x2) fun a0 =>
 bindO (ldZ j9 h0 a0) fun ((x3, x4, x5, x6, x7, x8, x9, x10, x11) : J9) =>
 newO (row 33 [(.int .i64 0), (.int .i64 0), (.int .i64 0), (.int .i64 0), (.int .i64 0), (.int .i64 0), (.bool false), (.slice none 0 0), (.slice none 0 0)]) h0 fun b h1 =>
 bindO (stZ j9 h1 (⟨b, 0, some 0⟩ : Addr) ((x3, x4, x5, x6, x7, x8, x9, x10, x11) : J9)) fun h2 =>
 bindO (ldZ j9 h2 (⟨b, 0, some 0⟩ : Addr)) fun ((x12, x13, x14, x15, x16, x17, x18, x19, x20) : J9) =>
 bind2 (frame_Right (x12, x13, x14, x15, x16, x17, x18, x19, x20) h2) fun x21 h3 =>
 condK (!x21) (
 some (inr (inr (((⟨none, 0, 0⟩ : Sl), 1), h3)))) (
 bindO (ldZ j9 h3 (⟨b, 0, some 0⟩ : Addr)) fun ((x22, x23, x24, x25, x26, x27, x28, x29, x30) : J9) =>
 bind2 (frame_numbers (x22, x23, x24, x25, x26, x27, x28, x29, x30) h3) fun x31 h4 =>
 bind2 (varint_Put out x31 h4) fun x32 h5 =>
 bindO (ldL h5 (add (⟨b, 0, some 0⟩ : Addr) 7)) fun x33 =>
 bind2 (appT 5 1 1 h5 x32 x33) fun x34 h6 =>
 bindO (ldL h4 (add (⟨b, 0, some 0⟩ : Addr) 7)) fun x35 =>
 condK (slEq x35.base x35.len x35.cap x33.base x33.len x33.cap) (
 bindO (ldL h3 (add (⟨b, 0, some 0⟩ : Addr) 7)) fun x36 =>
 condK (slEq x36.base x36.len x36.cap x33.base x33.len x33.cap) (
 some (inl ((x34, (x0, (x1, (IntKind.wrap .i64 (x2 + 1))))), h6))) none) none)) (
 some (inr (inl (out, h0))))

def P.frame_Lay (frame_Right : T_27) (frame_numbers : T_111) (varint_Put : T_100) (slices_Clip_byte : T_97) (f : Sl) (h : H) : Option ((Sl × Int) × H) :=
 joinO (
 loopO (P.frame_Lay_l1 frame_Right frame_numbers varint_Put slices_Clip_byte) (((⟨none, 0, 0⟩ : Sl), (f, (((f.len : Nat) : Int), 0))), h)) fun ((out, h0) : (Sl × H)) =>
 bind2 (slices_Clip_byte out h0) fun x0 h1 =>
 some ((x0, 0), h1)
abbrev frame_Lay_l1 := P.frame_Lay_l1 frame_Right frame_numbers varint_Put slices_Clip_byte
def frame_Lay : Sl → H → Option ((Sl × Int) × H) := P.frame_Lay frame_Right frame_numbers varint_Put slices_Clip_byte
def ann_55 : Ann := ⟨fun i => bif i.beq 9 then some ⟨[4], [eL_]⟩ else none, fun i => bif i.beq 3 then some ⟨[4, 7, 8, 9], [eL_, eL_, eI_, eI_]⟩ else none, fun _ => none⟩
def E_55 : Ent := V_55 frame_Lay
theorem eq_55 (frame_Right : T_27) (frame_numbers : T_111) (varint_Put : T_100) (slices_Clip_byte : T_97) : runE [V_27 frame_Right, V_111 frame_numbers, V_100 varint_Put, V_97 slices_Clip_byte] ann_55 Try.f55 (V_55 (P.frame_Lay frame_Right frame_numbers varint_Put slices_Clip_byte)) = (V_55 (P.frame_Lay frame_Right frame_numbers varint_Put slices_Clip_byte)).g := by kernel_rfl
theorem ok_55 : E_55.ok Tab.D := entT (entC ok_27 (entC ok_111 (entC ok_100 (entC ok_97 entN)))) (by kernel_rfl) (by kernel_rfl) (by kernel_rfl) (eq_55 frame_Right frame_numbers varint_Put slices_Clip_byte)
/-! frame_reader_fail -/
abbrev T_161 := Option Addr → Int → H → Option ((Unit) × H)
abbrev V_161 (f : T_161) : Ent := ⟨161, [eP_, eI_], [], fun (x : Option Addr × Int) h => f x.1 x.2 h⟩
def frame_reader_fail (r : Option Addr) (e : Int) (h : H) : Option (Unit × H) :=
 ptrK r fun a0 =>
 bindO (ldI .i64 h (add a0 1)) fun x0 =>
 condK (x0 == 0) (
 ptrK r fun a1 =>
 bindO (st1 h (add a1 1) (.int .i64 e)) fun h0 =>
 some ((), h0)) (
 some ((), h))
def ann_161 : Ann := ⟨fun _ => none, fun _ => none, fun _ => none⟩
def E_161 : Ent := V_161 frame_reader_fail
theorem eq_161 : runE [] ann_161 Try.f161 (V_161 frame_reader_fail) = (V_161 frame_reader_fail).g := by kernel_rfl
theorem ok_161 : E_161.ok Tab.D := entT entN (by kernel_rfl) (by kernel_rfl) (by kernel_rfl) eq_161
/-! frame_reader_take -/
abbrev T_157 := Option Addr → Sl → H → Option ((Unit) × H)
abbrev V_157 (f : T_157) : Ent := ⟨157, [eP_, eL_], [], fun (x : Option Addr × Sl) h => f x.1 x.2 h⟩
def P.frame_reader_take_l1 (varint_Take : T_151) (frame_reader_fail : T_161) : (((Option Addr) × (Sl × (Int × Int))) × H) → Option ((((Option Addr) × (Sl × (Int × Int))) × H) ⊕ (PUnit × H)) := fun ((r, (x0, (x1, x2))), h0) =>
 condK (decide ((x2 < x1))) (
 bindO (ixT 1 x0 x2) fun a0 =>
 bindO (ldP h0 a0) fun (x3 : Option Addr) =>
 ptrK r fun a1 =>
 bindO (ldI .i64 h0 (add a1 1)) fun x4 =>
 condK (x4 != 0) (
 some (inr ((), h0))) (
 ptrK r fun a2 =>
 bindO (ldL h0 (add a2 0)) fun x5 =>
 bind2 (varint_Take x5 h0) fun ((x6, x7, x8) : Int × Sl × Int) (h1 : H) =>
 bind2 (frame_reader_fail r x8 h1) fun (_ : Unit) (h2 : H) =>
 ptrK x3 fun a3 =>
 bindO (st1 h2 a3 (.int .i64 x6)) fun h3 =>
 ptrK r fun a4 =>
 bindO (st1 h3 (add a4 0) (.slice x7.base x7.len x7.cap)) fun h4 =>
 some (inl ((r, (x0, (x1, (IntKind.wrap .i64 (x2 + 1))))), h4)))) (
 some (inr ((), h0)))

def P.frame_reader_take (varint_Take : T_151) (frame_reader_fail : T_161) (r : Option Addr) (to : Sl) (h : H) : Option (Unit × H) :=
 loopO (P.frame_reader_take_l1 varint_Take frame_reader_fail) ((r, (to, (((to.len : Nat) : Int), 0))), h)
abbrev frame_reader_take_l1 := P.frame_reader_take_l1 varint_Take frame_reader_fail
def frame_reader_take : Option Addr → Sl → H → Option ((Unit) × H) := P.frame_reader_take varint_Take frame_reader_fail
def ann_157 : Ann := ⟨fun _ => none, fun i => bif i.beq 1 then some ⟨[0, 9, 10, 11], [eP_, eL_, eI_, eI_]⟩ else none, fun _ => none⟩
def E_157 : Ent := V_157 frame_reader_take
theorem eq_157 (varint_Take : T_151) (frame_reader_fail : T_161) : runE [V_151 varint_Take, V_161 frame_reader_fail] ann_157 Try.f157 (V_157 (P.frame_reader_take varint_Take frame_reader_fail)) = (V_157 (P.frame_reader_take varint_Take frame_reader_fail)).g := by kernel_rfl
theorem ok_157 : E_157.ok Tab.D := entT (entC ok_151 (entC ok_161 entN)) (by kernel_rfl) (by kernel_rfl) (by kernel_rfl) (eq_157 varint_Take frame_reader_fail)
/-! frame_reader_spans -/
abbrev T_158 := Option Addr → H → Option ((Sl) × H)
abbrev V_158 (f : T_158) : Ent := ⟨158, [eP_], [eL_], fun (x : Option Addr) h => f x h⟩
def P.frame_reader_spans_l1 (frame_reader_take : T_157) (frame_reader_fail : T_161) : (((Option Addr) × ((Option Addr) × (Sl × Int))) × H) → Option ((((Option Addr) × ((Option Addr) × (Sl × Int))) × H) ⊕ ((Sl × H) ⊕ (Sl × H))) := fun ((r, (n, (out, k))), h0) =>
 joinO (
 ptrK n fun a0 =>
 bindO (ldI .i64 h0 a0) fun x0 =>
 condK (decide ((k < x0))) (
 ptrK r fun a1 =>
 bindO (ldI .i64 h0 (add a1 1)) fun x1 =>
 some (inl ((r, (n, (out, (k, (x1 == 0))))), h0))) (
 some (inl ((r, (n, (out, (k, false)))), h0)))) fun (((r1, (n1, (out1, (k1, x0)))), h1) : (((Option Addr) × ((Option Addr) × (Sl × (Int × Bool)))) × H)) =>
 condK x0 (
 newO (row 3 [(.int .i64 0)]) h1 fun b h2 =>
 newO (row 3 [(.int .i64 0)]) h2 fun b1 h3 =>
 bindO (st1 h3 (⟨b, 0, some 0⟩ : Addr) (.int .i64 0)) fun h4 =>
 bindO (st1 h4 (⟨b1, 0, some 0⟩ : Addr) (.int .i64 0)) fun h5 =>
 newO (row 171 [(.pointer (some (⟨b, 0, some 0⟩ : Addr)))]) h5 fun b2 h6 =>
 bind2 (frame_reader_take r1 (⟨(some (⟨b2, 0, some 0⟩ : Addr)), 1, 1⟩ : Sl) h6) fun (_ : Unit) (h7 : H) =>
 joinO (
 condK (decide ((k1 > 0))) (
 joinO (
 joinO (
 bindO (ldI .i64 h7 (⟨b, 0, some 0⟩ : Addr)) fun x1 =>
 condK (decide ((x1 < 2))) (
 some (inl ((r1, (n1, (out1, (k1, ((some (⟨b, 0, some 0⟩ : Addr)), ((some (⟨b1, 0, some 0⟩ : Addr)), true)))))), h7))) (
 bindO (ldI .i64 h7 (⟨b, 0, some 0⟩ : Addr)) fun x2 =>
 bindO (ixT 2 out1 (IntKind.wrap .i64 (k1 - 1))) fun a0 =>
 bindO (ixAT 2 1 a0 0) fun a1 =>
 bindO (ldI .i64 h7 a1) fun x3 =>
 some (inl ((r1, (n1, (out1, (k1, ((some (⟨b, 0, some 0⟩ : Addr)), ((some (⟨b1, 0, some 0⟩ : Addr)), (decide ((x2 > x3))))))))), h7)))) fun (((r2, (n2, (out2, (k2, (last, (size, x1)))))), h8) : (((Option Addr) × ((Option Addr) × (Sl × (Int × ((Option Addr) × ((Option Addr) × Bool)))))) × H)) =>
 condK x1 (
 bind2 (frame_reader_fail r2 2 h8) fun (_ : Unit) (h9 : H) =>
 some (inl ((r2, (n2, (out2, (k2, (last, size))))), h9))) (
 some (inl ((r2, (n2, (out2, (k2, (last, size))))), h8)))) fun (((r2, (n2, (out2, (k2, (last, size))))), h8) : (((Option Addr) × ((Option Addr) × (Sl × (Int × ((Option Addr) × (Option Addr)))))) × H)) =>
 bindO (ixT 2 out2 (IntKind.wrap .i64 (k2 - 1))) fun a0 =>
 bindO (ixAT 2 1 a0 0) fun a1 =>
 bindO (ldI .i64 h8 a1) fun x1 =>
 ptrK last fun a2 =>
 bindO (ldI .i64 h8 a2) fun x2 =>
 ptrK last fun a3 =>
 bindO (st1 h8 a3 (.int .i64 (IntKind.wrap .i64 (x1 - x2)))) fun h9 =>
 some (inl ((r2, (n2, (out2, (k2, (last, size))))), h9))) (
 some (inl ((r1, (n1, (out1, (k1, ((some (⟨b, 0, some 0⟩ : Addr)), (some (⟨b1, 0, some 0⟩ : Addr))))))), h7)))) fun (((r2, (n2, (out2, (k2, (last, size))))), h8) : (((Option Addr) × ((Option Addr) × (Sl × (Int × ((Option Addr) × (Option Addr)))))) × H)) =>
 newO (row 171 [(.pointer size)]) h8 fun b3 h9 =>
 bind2 (frame_reader_take r2 (⟨(some (⟨b3, 0, some 0⟩ : Addr)), 1, 1⟩ : Sl) h9) fun (_ : Unit) (h10 : H) =>
 joinO (
 ptrK size fun a0 =>
 bindO (ldI .i64 h10 a0) fun x1 =>
 ptrK last fun a1 =>
 bindO (ldI .i64 h10 a1) fun x2 =>
 condK (decide ((x1 > x2))) (
 bind2 (frame_reader_fail r2 2 h10) fun (_ : Unit) (h11 : H) =>
 some (inl ((r2, (n2, (out2, (k2, (last, size))))), h11))) (
 some (inl ((r2, (n2, (out2, (k2, (last, size))))), h10)))) fun (((r3, (n3, (out3, (k3, (last1, size1))))), h11) : (((Option Addr) × ((Option Addr) × (Sl × (Int × ((Option Addr) × (Option Addr)))))) × H)) =>
 ptrK last1 fun a0 =>
 bindO (ldI .i64 h11 a0) fun x1 =>
 ptrK size1 fun a1 =>
 bindO (ldI .i64 h11 a1) fun x2 =>
 ptrK last1 fun a2 =>
 bindO (ldI .i64 h11 a2) fun x3 =>
 newO (row 36 [(.int .i64 (IntKind.wrap .i64 (x1 - x2))), (.int .i64 x3)]) h11 fun b4 h12 =>
 bind2 (appT 36 2 16 h12 out3 (⟨(some (⟨b4, 0, some 0⟩ : Addr)), 1, 1⟩ : Sl)) fun x4 h13 =>
 some (inl ((r3, (n3, (x4, (IntKind.wrap .i64 (k3 + 1))))), h13))) (
 some (inr (inl (out1, h1))))

def P.frame_reader_spans (frame_reader_take : T_157) (frame_reader_fail : T_161) (r : Option Addr) (h : H) : Option (Sl × H) :=
 newO (row 3 [(.int .i64 0)]) h fun b h0 =>
 bindO (st1 h0 (⟨b, 0, some 0⟩ : Addr) (.int .i64 0)) fun h1 =>
 newO (row 171 [(.pointer (some (⟨b, 0, some 0⟩ : Addr)))]) h1 fun b1 h2 =>
 bind2 (frame_reader_take r (⟨(some (⟨b1, 0, some 0⟩ : Addr)), 1, 1⟩ : Sl) h2) fun (_ : Unit) (h3 : H) =>
 joinO (
 joinO (
 bindO (ldI .i64 h3 (⟨b, 0, some 0⟩ : Addr)) fun x0 =>
 condK (decide ((x0 < 1))) (
 some (inl ((r, ((some (⟨b, 0, some 0⟩ : Addr)), true)), h3))) (
 bindO (ldI .i64 h3 (⟨b, 0, some 0⟩ : Addr)) fun x1 =>
 some (inl ((r, ((some (⟨b, 0, some 0⟩ : Addr)), (decide ((x1 > 8))))), h3)))) fun (((r1, (n, x0)), h4) : (((Option Addr) × ((Option Addr) × Bool)) × H)) =>
 condK x0 (
 bind2 (frame_reader_fail r1 2 h4) fun (_ : Unit) (h5 : H) =>
 some (inl ((r1, n), h5))) (
 some (inl ((r1, n), h4)))) fun (((r1, n), h4) : (((Option Addr) × (Option Addr)) × H)) =>
 joinO (
 loopO (P.frame_reader_spans_l1 frame_reader_take frame_reader_fail) ((r1, (n, ((⟨none, 0, 0⟩ : Sl), 0))), h4)) fun ((out, h5) : (Sl × H)) =>
 some (out, h5)
abbrev frame_reader_spans_l1 := P.frame_reader_spans_l1 frame_reader_take frame_reader_fail
def frame_reader_spans : Option Addr → H → Option ((Sl) × H) := P.frame_reader_spans frame_reader_take frame_reader_fail
def ann_158 : Ann := ⟨fun i => bif i.beq 5 then some ⟨[0, 3], [eP_, eP_]⟩ else bif i.beq 14 then some ⟨[0, 3, 4, 5, 6, 7], [eP_, eP_, eL_, eI_, eP_, eP_]⟩ else bif i.beq 15 then some ⟨[0, 3, 4, 5, 6, 7], [eP_, eP_, eL_, eI_, eP_, eP_]⟩ else bif i.beq 18 then some ⟨[0, 3, 4, 5, 6, 7], [eP_, eP_, eL_, eI_, eP_, eP_]⟩ else bif i.beq 19 then some ⟨[4], [eL_]⟩ else none, fun i => bif i.beq 7 then some ⟨[0, 3, 4, 5], [eP_, eP_, eL_, eI_]⟩ else none, fun i => bif i.beq 3 then some ⟨[0, 3, 16], [eP_, eP_, eB_]⟩ else bif i.beq 7 then some ⟨[0, 3, 4, 5, 28], [eP_, eP_, eL_, eI_, eB_]⟩ else bif i.beq 12 then some ⟨[0, 3, 4, 5, 6, 7, 47], [eP_, eP_, eL_, eI_, eP_, eP_, eB_]⟩ else none⟩
def E_158 : Ent := V_158 frame_reader_spans
theorem eq_158 (frame_reader_take : T_157) (frame_reader_fail : T_161) : runE [V_157 frame_reader_take, V_161 frame_reader_fail] ann_158 Try.f158 (V_158 (P.frame_reader_spans frame_reader_take frame_reader_fail)) = (V_158 (P.frame_reader_spans frame_reader_take frame_reader_fail)).g := by kernel_rfl
theorem ok_158 : E_158.ok Tab.D := entT (entC ok_157 (entC ok_161 entN)) (by kernel_rfl) (by kernel_rfl) (by kernel_rfl) (eq_158 frame_reader_take frame_reader_fail)
/-! frame_reader_flag -/
abbrev T_159 := Option Addr → H → Option ((Bool) × H)
abbrev V_159 (f : T_159) : Ent := ⟨159, [eP_], [eB_], fun (x : Option Addr) h => f x h⟩
def P.frame_reader_flag (frame_reader_take : T_157) (frame_reader_fail : T_161) (r : Option Addr) (h : H) : Option (Bool × H) :=
 newO (row 3 [(.int .i64 0)]) h fun b h0 =>
 bindO (st1 h0 (⟨b, 0, some 0⟩ : Addr) (.int .i64 0)) fun h1 =>
 newO (row 171 [(.pointer (some (⟨b, 0, some 0⟩ : Addr)))]) h1 fun b1 h2 =>
 bind2 (frame_reader_take r (⟨(some (⟨b1, 0, some 0⟩ : Addr)), 1, 1⟩ : Sl) h2) fun (_ : Unit) (h3 : H) =>
 joinO (
 bindO (ldI .i64 h3 (⟨b, 0, some 0⟩ : Addr)) fun x0 =>
 condK (decide ((x0 > 1))) (
 bind2 (frame_reader_fail r 2 h3) fun (_ : Unit) (h4 : H) =>
 some (inl ((some (⟨b, 0, some 0⟩ : Addr)), h4))) (
 some (inl ((some (⟨b, 0, some 0⟩ : Addr)), h3)))) fun ((n, h4) : ((Option Addr) × H)) =>
 ptrK n fun a0 =>
 bindO (ldI .i64 h4 a0) fun x0 =>
 some ((x0 == 1), h4)
def frame_reader_flag : Option Addr → H → Option ((Bool) × H) := P.frame_reader_flag frame_reader_take frame_reader_fail
def ann_159 : Ann := ⟨fun i => bif i.beq 5 then some ⟨[3], [eP_]⟩ else none, fun _ => none, fun _ => none⟩
def E_159 : Ent := V_159 frame_reader_flag
theorem eq_159 (frame_reader_take : T_157) (frame_reader_fail : T_161) : runE [V_157 frame_reader_take, V_161 frame_reader_fail] ann_159 Try.f159 (V_159 (P.frame_reader_flag frame_reader_take frame_reader_fail)) = (V_159 (P.frame_reader_flag frame_reader_take frame_reader_fail)).g := by kernel_rfl
theorem ok_159 : E_159.ok Tab.D := entT (entC ok_157 (entC ok_161 entN)) (by kernel_rfl) (by kernel_rfl) (by kernel_rfl) (eq_159 frame_reader_take frame_reader_fail)
/-! frame_reader_data -/
abbrev T_160 := Option Addr → H → Option ((Sl) × H)
abbrev V_160 (f : T_160) : Ent := ⟨160, [eP_], [eL_], fun (x : Option Addr) h => f x h⟩
def P.frame_reader_data (frame_reader_take : T_157) (frame_reader_fail : T_161) (slices_Clone_byte : T_98) (slices_Clip_byte : T_97) (r : Option Addr) (h : H) : Option (Sl × H) :=
 newO (row 3 [(.int .i64 0)]) h fun b h0 =>
 bindO (st1 h0 (⟨b, 0, some 0⟩ : Addr) (.int .i64 0)) fun h1 =>
 newO (row 171 [(.pointer (some (⟨b, 0, some 0⟩ : Addr)))]) h1 fun b1 h2 =>
 bind2 (frame_reader_take r (⟨(some (⟨b1, 0, some 0⟩ : Addr)), 1, 1⟩ : Sl) h2) fun (_ : Unit) (h3 : H) =>
 ptrK r fun a0 =>
 bindO (ldI .i64 h3 (add a0 1)) fun x0 =>
 condK (x0 != 0) (
 some ((⟨none, 0, 0⟩ : Sl), h3)) (
 bindO (ldI .i64 h3 (⟨b, 0, some 0⟩ : Addr)) fun x1 =>
 condK (decide ((x1 > 120))) (
 bind2 (frame_reader_fail r 2 h3) fun (_ : Unit) (h4 : H) =>
 some ((⟨none, 0, 0⟩ : Sl), h4)) (
 bindO (ldI .i64 h3 (⟨b, 0, some 0⟩ : Addr)) fun x2 =>
 ptrK r fun a1 =>
 bindO (ldL h3 (add a1 0)) fun x3 =>
 condK (decide ((x2 > ((x3.len : Nat) : Int)))) (
 bind2 (frame_reader_fail r 3 h3) fun (_ : Unit) (h5 : H) =>
 some ((⟨none, 0, 0⟩ : Sl), h5)) (
 ptrK r fun a2 =>
 bindO (ldL h3 (add a2 0)) fun x4 =>
 bindO (ldI .i64 h3 (⟨b, 0, some 0⟩ : Addr)) fun x5 =>
 bindO (slT 1 h3 x4 none (some x5) none) fun x6 =>
 bind2 (slices_Clone_byte x6 h3) fun x7 h6 =>
 bind2 (slices_Clip_byte x7 h6) fun x8 h7 =>
 ptrK r fun a3 =>
 bindO (ldL h7 (add a3 0)) fun x9 =>
 bindO (ldI .i64 h7 (⟨b, 0, some 0⟩ : Addr)) fun x10 =>
 bindO (slT 1 h7 x9 (some x10) none none) fun x11 =>
 ptrK r fun a4 =>
 bindO (st1 h7 (add a4 0) (.slice x11.base x11.len x11.cap)) fun h8 =>
 some (x8, h8))))
def frame_reader_data : Option Addr → H → Option ((Sl) × H) := P.frame_reader_data frame_reader_take frame_reader_fail slices_Clone_byte slices_Clip_byte
def ann_160 : Ann := ⟨fun _ => none, fun _ => none, fun _ => none⟩
def E_160 : Ent := V_160 frame_reader_data
theorem eq_160 (frame_reader_take : T_157) (frame_reader_fail : T_161) (slices_Clone_byte : T_98) (slices_Clip_byte : T_97) : runE [V_157 frame_reader_take, V_161 frame_reader_fail, V_98 slices_Clone_byte, V_97 slices_Clip_byte] ann_160 Try.f160 (V_160 (P.frame_reader_data frame_reader_take frame_reader_fail slices_Clone_byte slices_Clip_byte)) = (V_160 (P.frame_reader_data frame_reader_take frame_reader_fail slices_Clone_byte slices_Clip_byte)).g := by kernel_rfl
theorem ok_160 : E_160.ok Tab.D := entT (entC ok_157 (entC ok_161 (entC ok_98 (entC ok_97 entN)))) (by kernel_rfl) (by kernel_rfl) (by kernel_rfl) (eq_160 frame_reader_take frame_reader_fail slices_Clone_byte slices_Clip_byte)
/-! frame_reader_frame -/
abbrev T_112 := Option Addr → H → Option (((J9)) × H)
abbrev V_112 (f : T_112) : Ent := ⟨112, [eP_], [⟨true, j9⟩], fun (x : Option Addr) h => f x h⟩
def P.frame_reader_frame (frame_reader_take : T_157) (frame_reader_spans : T_158) (frame_reader_flag : T_159) (frame_reader_data : T_160) (frame_Right : T_27) (frame_reader_fail : T_161) (r : Option Addr) (h : H) : Option ((J9) × H) :=
 newO (row 33 [(.int .i64 0), (.int .i64 0), (.int .i64 0), (.int .i64 0), (.int .i64 0), (.int .i64 0), (.bool false), (.slice none 0 0), (.slice none 0 0)]) h fun b h0 =>
 newO (row 33 [(.int .i64 0), (.int .i64 0), (.int .i64 0), (.int .i64 0), (.int .i64 0), (.int .i64 0), (.bool false), (.slice none 0 0), (.slice none 0 0)]) h0 fun b1 h1 =>
 newO (row 171 [(.pointer (some (add (⟨b1, 0, some 0⟩ : Addr) 0)))]) h1 fun b2 h2 =>
 bind2 (frame_reader_take r (⟨(some (⟨b2, 0, some 0⟩ : Addr)), 1, 1⟩ : Sl) h2) fun (_ : Unit) (h3 : H) =>
 joinO (
 bindO (ldI .i64 h3 (add (⟨b1, 0, some 0⟩ : Addr) 0)) fun x0 =>
 condK (x0 == 2) (
 bind2 (frame_reader_spans r h3) fun x1 h4 =>
 bindO (st1 h4 (add (⟨b1, 0, some 0⟩ : Addr) 8) (.slice x1.base x1.len x1.cap)) fun h5 =>
 some (inl ((r, ((some (⟨b, 0, some 0⟩ : Addr)), (some (⟨b1, 0, some 0⟩ : Addr)))), h5))) (
 condK (x0 == 3) (
 newO (row 171 [(.pointer (some (add (⟨b1, 0, some 0⟩ : Addr) 1))), (.pointer (some (add (⟨b1, 0, some 0⟩ : Addr) 2)))]) h3 fun b3 h6 =>
 bind2 (frame_reader_take r (⟨(some (⟨b3, 0, some 0⟩ : Addr)), 2, 2⟩ : Sl) h6) fun (_ : Unit) (h7 : H) =>
 bind2 (frame_reader_flag r h7) fun x2 h8 =>
 bindO (st1 h8 (add (⟨b1, 0, some 0⟩ : Addr) 6) (.bool x2)) fun h9 =>
 bind2 (frame_reader_data r h9) fun x3 h10 =>
 bindO (st1 h10 (add (⟨b1, 0, some 0⟩ : Addr) 7) (.slice x3.base x3.len x3.cap)) fun h11 =>
 some (inl ((r, ((some (⟨b, 0, some 0⟩ : Addr)), (some (⟨b1, 0, some 0⟩ : Addr)))), h11))) (
 condK (x0 == 4) (
 newO (row 171 [(.pointer (some (add (⟨b1, 0, some 0⟩ : Addr) 1))), (.pointer (some (add (⟨b1, 0, some 0⟩ : Addr) 3))), (.pointer (some (add (⟨b1, 0, some 0⟩ : Addr) 2))), (.pointer (some (add (⟨b1, 0, some 0⟩ : Addr) 4)))]) h3 fun b4 h12 =>
 bind2 (frame_reader_take r (⟨(some (⟨b4, 0, some 0⟩ : Addr)), 4, 4⟩ : Sl) h12) fun (_ : Unit) (h13 : H) =>
 some (inl ((r, ((some (⟨b, 0, some 0⟩ : Addr)), (some (⟨b1, 0, some 0⟩ : Addr)))), h13))) (
 condK (x0 == 5) (
 condK (x0 == 5) (
 newO (row 171 [(.pointer (some (add (⟨b1, 0, some 0⟩ : Addr) 1))), (.pointer (some (add (⟨b1, 0, some 0⟩ : Addr) 3)))]) h3 fun b5 h14 =>
 bind2 (frame_reader_take r (⟨(some (⟨b5, 0, some 0⟩ : Addr)), 2, 2⟩ : Sl) h14) fun (_ : Unit) (h15 : H) =>
 some (inl ((r, ((some (⟨b, 0, some 0⟩ : Addr)), (some (⟨b1, 0, some 0⟩ : Addr)))), h15))) (
 condK (x0 == 6) (
 condK (x0 == 6) (
 newO (row 171 [(.pointer (some (add (⟨b1, 0, some 0⟩ : Addr) 3)))]) h3 fun b6 h16 =>
 bind2 (frame_reader_take r (⟨(some (⟨b6, 0, some 0⟩ : Addr)), 1, 1⟩ : Sl) h16) fun (_ : Unit) (h17 : H) =>
 some (inl ((r, ((some (⟨b, 0, some 0⟩ : Addr)), (some (⟨b1, 0, some 0⟩ : Addr)))), h17))) (
 condK (x0 == 8) (
 newO (row 171 [(.pointer (some (add (⟨b1, 0, some 0⟩ : Addr) 3)))]) h3 fun b7 h18 =>
 bind2 (frame_reader_take r (⟨(some (⟨b7, 0, some 0⟩ : Addr)), 1, 1⟩ : Sl) h18) fun (_ : Unit) (h19 : H) =>
 bind2 (frame_reader_flag r h19) fun x4 h20 =>
 bindO (st1 h20 (add (⟨b1, 0, some 0⟩ : Addr) 6) (.bool x4)) fun h21 =>
 some (inl ((r, ((some (⟨b, 0, some 0⟩ : Addr)), (some (⟨b1, 0, some 0⟩ : Addr)))), h21))) (
 condK (x0 == 9) (
 bind2 (frame_reader_data r h3) fun x5 h22 =>
 bindO (st1 h22 (add (⟨b1, 0, some 0⟩ : Addr) 7) (.slice x5.base x5.len x5.cap)) fun h23 =>
 some (inl ((r, ((some (⟨b, 0, some 0⟩ : Addr)), (some (⟨b1, 0, some 0⟩ : Addr)))), h23))) (
 condK (x0 == 10) (
 condK (x0 == 10) (
 newO (row 171 [(.pointer (some (add (⟨b1, 0, some 0⟩ : Addr) 1)))]) h3 fun b8 h24 =>
 bind2 (frame_reader_take r (⟨(some (⟨b8, 0, some 0⟩ : Addr)), 1, 1⟩ : Sl) h24) fun (_ : Unit) (h25 : H) =>
 some (inl ((r, ((some (⟨b, 0, some 0⟩ : Addr)), (some (⟨b1, 0, some 0⟩ : Addr)))), h25))) (
 some (inl ((r, ((some (⟨b, 0, some 0⟩ : Addr)), (some (⟨b1, 0, some 0⟩ : Addr)))), h3)))) (
 condK (x0 == 11) (
 newO (row 171 [(.pointer (some (add (⟨b1, 0, some 0⟩ : Addr) 1)))]) h3 fun b9 h26 =>
 bind2 (frame_reader_take r (⟨(some (⟨b9, 0, some 0⟩ : Addr)), 1, 1⟩ : Sl) h26) fun (_ : Unit) (h27 : H) =>
 some (inl ((r, ((some (⟨b, 0, some 0⟩ : Addr)), (some (⟨b1, 0, some 0⟩ : Addr)))), h27))) (
 some (inl ((r, ((some (⟨b, 0, some 0⟩ : Addr)), (some (⟨b1, 0, some 0⟩ : Addr)))), h3)))))))) (
 condK (x0 == 12) (
 newO (row 171 [(.pointer (some (add (⟨b1, 0, some 0⟩ : Addr) 3)))]) h3 fun b10 h28 =>
 bind2 (frame_reader_take r (⟨(some (⟨b10, 0, some 0⟩ : Addr)), 1, 1⟩ : Sl) h28) fun (_ : Unit) (h29 : H) =>
 some (inl ((r, ((some (⟨b, 0, some 0⟩ : Addr)), (some (⟨b1, 0, some 0⟩ : Addr)))), h29))) (
 condK (x0 == 8) (
 newO (row 171 [(.pointer (some (add (⟨b1, 0, some 0⟩ : Addr) 3)))]) h3 fun b11 h30 =>
 bind2 (frame_reader_take r (⟨(some (⟨b11, 0, some 0⟩ : Addr)), 1, 1⟩ : Sl) h30) fun (_ : Unit) (h31 : H) =>
 bind2 (frame_reader_flag r h31) fun x6 h32 =>
 bindO (st1 h32 (add (⟨b1, 0, some 0⟩ : Addr) 6) (.bool x6)) fun h33 =>
 some (inl ((r, ((some (⟨b, 0, some 0⟩ : Addr)), (some (⟨b1, 0, some 0⟩ : Addr)))), h33))) (
 condK (x0 == 9) (
 bind2 (frame_reader_data r h3) fun x7 h34 =>
 bindO (st1 h34 (add (⟨b1, 0, some 0⟩ : Addr) 7) (.slice x7.base x7.len x7.cap)) fun h35 =>
 some (inl ((r, ((some (⟨b, 0, some 0⟩ : Addr)), (some (⟨b1, 0, some 0⟩ : Addr)))), h35))) (
 condK (x0 == 10) (
 condK (x0 == 10) (
 newO (row 171 [(.pointer (some (add (⟨b1, 0, some 0⟩ : Addr) 1)))]) h3 fun b12 h36 =>
 bind2 (frame_reader_take r (⟨(some (⟨b12, 0, some 0⟩ : Addr)), 1, 1⟩ : Sl) h36) fun (_ : Unit) (h37 : H) =>
 some (inl ((r, ((some (⟨b, 0, some 0⟩ : Addr)), (some (⟨b1, 0, some 0⟩ : Addr)))), h37))) (
 some (inl ((r, ((some (⟨b, 0, some 0⟩ : Addr)), (some (⟨b1, 0, some 0⟩ : Addr)))), h3)))) (
 condK (x0 == 11) (
 newO (row 171 [(.pointer (some (add (⟨b1, 0, some 0⟩ : Addr) 1)))]) h3 fun b13 h38 =>
 bind2 (frame_reader_take r (⟨(some (⟨b13, 0, some 0⟩ : Addr)), 1, 1⟩ : Sl) h38) fun (_ : Unit) (h39 : H) =>
 some (inl ((r, ((some (⟨b, 0, some 0⟩ : Addr)), (some (⟨b1, 0, some 0⟩ : Addr)))), h39))) (
 some (inl ((r, ((some (⟨b, 0, some 0⟩ : Addr)), (some (⟨b1, 0, some 0⟩ : Addr)))), h3)))))))))) (
 condK (x0 == 7) (
 newO (row 171 [(.pointer (some (add (⟨b1, 0, some 0⟩ : Addr) 1))), (.pointer (some (add (⟨b1, 0, some 0⟩ : Addr) 3)))]) h3 fun b14 h40 =>
 bind2 (frame_reader_take r (⟨(some (⟨b14, 0, some 0⟩ : Addr)), 2, 2⟩ : Sl) h40) fun (_ : Unit) (h41 : H) =>
 some (inl ((r, ((some (⟨b, 0, some 0⟩ : Addr)), (some (⟨b1, 0, some 0⟩ : Addr)))), h41))) (
 condK (x0 == 6) (
 condK (x0 == 6) (
 newO (row 171 [(.pointer (some (add (⟨b1, 0, some 0⟩ : Addr) 3)))]) h3 fun b15 h42 =>
 bind2 (frame_reader_take r (⟨(some (⟨b15, 0, some 0⟩ : Addr)), 1, 1⟩ : Sl) h42) fun (_ : Unit) (h43 : H) =>
 some (inl ((r, ((some (⟨b, 0, some 0⟩ : Addr)), (some (⟨b1, 0, some 0⟩ : Addr)))), h43))) (
 condK (x0 == 8) (
 newO (row 171 [(.pointer (some (add (⟨b1, 0, some 0⟩ : Addr) 3)))]) h3 fun b16 h44 =>
 bind2 (frame_reader_take r (⟨(some (⟨b16, 0, some 0⟩ : Addr)), 1, 1⟩ : Sl) h44) fun (_ : Unit) (h45 : H) =>
 bind2 (frame_reader_flag r h45) fun x8 h46 =>
 bindO (st1 h46 (add (⟨b1, 0, some 0⟩ : Addr) 6) (.bool x8)) fun h47 =>
 some (inl ((r, ((some (⟨b, 0, some 0⟩ : Addr)), (some (⟨b1, 0, some 0⟩ : Addr)))), h47))) (
 condK (x0 == 9) (
 bind2 (frame_reader_data r h3) fun x9 h48 =>
 bindO (st1 h48 (add (⟨b1, 0, some 0⟩ : Addr) 7) (.slice x9.base x9.len x9.cap)) fun h49 =>
 some (inl ((r, ((some (⟨b, 0, some 0⟩ : Addr)), (some (⟨b1, 0, some 0⟩ : Addr)))), h49))) (
 condK (x0 == 10) (
 condK (x0 == 10) (
 newO (row 171 [(.pointer (some (add (⟨b1, 0, some 0⟩ : Addr) 1)))]) h3 fun b17 h50 =>
 bind2 (frame_reader_take r (⟨(some (⟨b17, 0, some 0⟩ : Addr)), 1, 1⟩ : Sl) h50) fun (_ : Unit) (h51 : H) =>
 some (inl ((r, ((some (⟨b, 0, some 0⟩ : Addr)), (some (⟨b1, 0, some 0⟩ : Addr)))), h51))) (
 some (inl ((r, ((some (⟨b, 0, some 0⟩ : Addr)), (some (⟨b1, 0, some 0⟩ : Addr)))), h3)))) (
 condK (x0 == 11) (
 newO (row 171 [(.pointer (some (add (⟨b1, 0, some 0⟩ : Addr) 1)))]) h3 fun b18 h52 =>
 bind2 (frame_reader_take r (⟨(some (⟨b18, 0, some 0⟩ : Addr)), 1, 1⟩ : Sl) h52) fun (_ : Unit) (h53 : H) =>
 some (inl ((r, ((some (⟨b, 0, some 0⟩ : Addr)), (some (⟨b1, 0, some 0⟩ : Addr)))), h53))) (
 some (inl ((r, ((some (⟨b, 0, some 0⟩ : Addr)), (some (⟨b1, 0, some 0⟩ : Addr)))), h3)))))))) (
 condK (x0 == 12) (
 newO (row 171 [(.pointer (some (add (⟨b1, 0, some 0⟩ : Addr) 3)))]) h3 fun b19 h54 =>
 bind2 (frame_reader_take r (⟨(some (⟨b19, 0, some 0⟩ : Addr)), 1, 1⟩ : Sl) h54) fun (_ : Unit) (h55 : H) =>
 some (inl ((r, ((some (⟨b, 0, some 0⟩ : Addr)), (some (⟨b1, 0, some 0⟩ : Addr)))), h55))) (
 condK (x0 == 8) (
 newO (row 171 [(.pointer (some (add (⟨b1, 0, some 0⟩ : Addr) 3)))]) h3 fun b20 h56 =>
 bind2 (frame_reader_take r (⟨(some (⟨b20, 0, some 0⟩ : Addr)), 1, 1⟩ : Sl) h56) fun (_ : Unit) (h57 : H) =>
 bind2 (frame_reader_flag r h57) fun x10 h58 =>
 bindO (st1 h58 (add (⟨b1, 0, some 0⟩ : Addr) 6) (.bool x10)) fun h59 =>
 some (inl ((r, ((some (⟨b, 0, some 0⟩ : Addr)), (some (⟨b1, 0, some 0⟩ : Addr)))), h59))) (
 condK (x0 == 9) (
 bind2 (frame_reader_data r h3) fun x11 h60 =>
 bindO (st1 h60 (add (⟨b1, 0, some 0⟩ : Addr) 7) (.slice x11.base x11.len x11.cap)) fun h61 =>
 some (inl ((r, ((some (⟨b, 0, some 0⟩ : Addr)), (some (⟨b1, 0, some 0⟩ : Addr)))), h61))) (
 condK (x0 == 10) (
 condK (x0 == 10) (
 newO (row 171 [(.pointer (some (add (⟨b1, 0, some 0⟩ : Addr) 1)))]) h3 fun b21 h62 =>
 bind2 (frame_reader_take r (⟨(some (⟨b21, 0, some 0⟩ : Addr)), 1, 1⟩ : Sl) h62) fun (_ : Unit) (h63 : H) =>
 some (inl ((r, ((some (⟨b, 0, some 0⟩ : Addr)), (some (⟨b1, 0, some 0⟩ : Addr)))), h63))) (
 some (inl ((r, ((some (⟨b, 0, some 0⟩ : Addr)), (some (⟨b1, 0, some 0⟩ : Addr)))), h3)))) (
 condK (x0 == 11) (
 newO (row 171 [(.pointer (some (add (⟨b1, 0, some 0⟩ : Addr) 1)))]) h3 fun b22 h64 =>
 bind2 (frame_reader_take r (⟨(some (⟨b22, 0, some 0⟩ : Addr)), 1, 1⟩ : Sl) h64) fun (_ : Unit) (h65 : H) =>
 some (inl ((r, ((some (⟨b, 0, some 0⟩ : Addr)), (some (⟨b1, 0, some 0⟩ : Addr)))), h65))) (
 some (inl ((r, ((some (⟨b, 0, some 0⟩ : Addr)), (some (⟨b1, 0, some 0⟩ : Addr)))), h3)))))))))))))) fun (((r1, (x0, f)), h4) : (((Option Addr) × ((Option Addr) × (Option Addr))) × H)) =>
 joinO (
 ptrK f fun a0 =>
 bindO (ldZ j9 h4 a0) fun ((x1, x2, x3, x4, x5, x6, x7, x8, x9) : J9) =>
 bind2 (frame_Right (x1, x2, x3, x4, x5, x6, x7, x8, x9) h4) fun x10 h5 =>
 condK (!x10) (
 bind2 (frame_reader_fail r1 2 h5) fun (_ : Unit) (h6 : H) =>
 some (inl ((x0, f), h6))) (
 some (inl ((x0, f), h5)))) fun (((x1, f1), h5) : (((Option Addr) × (Option Addr)) × H)) =>
 ptrK f1 fun a0 =>
 bindO (ldZ j9 h5 a0) fun ((x2, x3, x4, x5, x6, x7, x8, x9, x10) : J9) =>
 ptrK x1 fun a1 =>
 bindO (stZ j9 h5 a1 ((x2, x3, x4, x5, x6, x7, x8, x9, x10) : J9)) fun h6 =>
 ptrK x1 fun a2 =>
 bindO (ldZ j9 h6 a2) fun ((x11, x12, x13, x14, x15, x16, x17, x18, x19) : J9) =>
 some ((x11, (x12, (x13, (x14, (x15, (x16, (x17, (x18, x19)))))))), h6)
def frame_reader_frame : Option Addr → H → Option (((J9)) × H) := P.frame_reader_frame frame_reader_take frame_reader_spans frame_reader_flag frame_reader_data frame_Right frame_reader_fail
def ann_112 : Ann := ⟨fun i => bif i.beq 26 then some ⟨[0, 2, 3], [eP_, eP_, eP_]⟩ else bif i.beq 28 then some ⟨[2, 3], [eP_, eP_]⟩ else none, fun _ => none, fun _ => none⟩
def E_112 : Ent := V_112 frame_reader_frame
theorem eq_112 (frame_reader_take : T_157) (frame_reader_spans : T_158) (frame_reader_flag : T_159) (frame_reader_data : T_160) (frame_Right : T_27) (frame_reader_fail : T_161) : runE [V_157 frame_reader_take, V_158 frame_reader_spans, V_159 frame_reader_flag, V_160 frame_reader_data, V_27 frame_Right, V_161 frame_reader_fail] ann_112 Try.f112 (V_112 (P.frame_reader_frame frame_reader_take frame_reader_spans frame_reader_flag frame_reader_data frame_Right frame_reader_fail)) = (V_112 (P.frame_reader_frame frame_reader_take frame_reader_spans frame_reader_flag frame_reader_data frame_Right frame_reader_fail)).g := by kernel_rfl
theorem ok_112 : E_112.ok Tab.D := entT (entC ok_157 (entC ok_158 (entC ok_159 (entC ok_160 (entC ok_27 (entC ok_161 entN)))))) (by kernel_rfl) (by kernel_rfl) (by kernel_rfl) (eq_112 frame_reader_take frame_reader_spans frame_reader_flag frame_reader_data frame_Right frame_reader_fail)
/-! slices_Clip_api_Frame_api_Frame -/
abbrev T_113 := Sl → H → Option ((Sl) × H)
abbrev V_113 (f : T_113) : Ent := ⟨113, [eL_], [eL_], fun (x : Sl) h => f x h⟩
def slices_Clip_api_Frame_api_Frame (s : Sl) (h : H) : Option (Sl × H) :=
 bindO (slT 9 h s none (some ((s.len : Nat) : Int)) (some ((s.len : Nat) : Int))) fun x0 =>
 some (x0, h)
def ann_113 : Ann := ⟨fun _ => none, fun _ => none, fun _ => none⟩
def E_113 : Ent := V_113 slices_Clip_api_Frame_api_Frame
theorem eq_113 : runE [] ann_113 Try.f113 (V_113 slices_Clip_api_Frame_api_Frame) = (V_113 slices_Clip_api_Frame_api_Frame).g := by kernel_rfl
theorem ok_113 : E_113.ok Tab.D := entT entN (by kernel_rfl) (by kernel_rfl) (by kernel_rfl) eq_113
/-! frame_Read -/
abbrev T_56 := Sl → H → Option ((Sl × Int) × H)
abbrev V_56 (f : T_56) : Ent := ⟨56, [eL_], [eL_, eI_], fun (x : Sl) h => f x h⟩
def P.frame_Read_l1 (frame_reader_frame : T_112) (slices_Clip_api_Frame_api_Frame : T_113) : (((Option Addr) × Sl) × H) → Option ((((Option Addr) × Sl) × H) ⊕ ((Sl × H) ⊕ ((Sl × Int) × H))) := fun ((r, out), h0) =>
 ptrK r fun a0 =>
 bindO (ldL h0 (add a0 0)) fun x0 =>
 condK (decide ((((x0.len : Nat) : Int) > 0))) (
 bind2 (frame_reader_frame r h0) fun ((x1, x2, x3, x4, x5, x6, x7, x8, x9) : J9) (h1 : H) =>
 newO (row 33 [(.int .i64 0), (.int .i64 0), (.int .i64 0), (.int .i64 0), (.int .i64 0), (.int .i64 0), (.bool false), (.slice none 0 0), (.slice none 0 0)]) h1 fun b h2 =>
 bindO (stZ j9 h2 (⟨b, 0, some 0⟩ : Addr) ((x1, x2, x3, x4, x5, x6, x7, x8, x9) : J9)) fun h3 =>
 ptrK r fun a1 =>
 bindO (ldI .i64 h3 (add a1 1)) fun x10 =>
 condK (x10 != 0) (
 ptrK r fun a2 =>
 bindO (ldI .i64 h3 (add a2 1)) fun x11 =>
 some (inr (inr (((⟨none, 0, 0⟩ : Sl), x11), h3)))) (
 bindO (ldZ j9 h3 (⟨b, 0, some 0⟩ : Addr)) fun ((x12, x13, x14, x15, x16, x17, x18, x19, x20) : J9) =>
 newO (row 33 [(.int .i64 x12), (.int .i64 x13), (.int .i64 x14), (.int .i64 x15), (.int .i64 x16), (.int .i64 x17), (.bool x18), (.slice x19.base x19.len x19.cap), (.slice x20.base x20.len x20.cap)]) h3 fun b1 h4 =>
 bind2 (appT 33 9 104 h4 out (⟨(some (⟨b1, 0, some 0⟩ : Addr)), 1, 1⟩ : Sl)) fun x21 h5 =>
 some (inl ((r, x21), h5)))) (
 some (inr (inl (out, h0))))

def P.frame_Read (frame_reader_frame : T_112) (slices_Clip_api_Frame_api_Frame : T_113) (b : Sl) (h : H) : Option ((Sl × Int) × H) :=
 newO (row 138 [(.slice b.base b.len b.cap), (.int .i64 0)]) h fun b1 h0 =>
 joinO (
 loopO (P.frame_Read_l1 frame_reader_frame slices_Clip_api_Frame_api_Frame) (((some (⟨b1, 0, some 0⟩ : Addr)), (⟨none, 0, 0⟩ : Sl)), h0)) fun ((out, h1) : (Sl × H)) =>
 bind2 (slices_Clip_api_Frame_api_Frame out h1) fun x0 h2 =>
 some ((x0, 0), h2)
abbrev frame_Read_l1 := P.frame_Read_l1 frame_reader_frame slices_Clip_api_Frame_api_Frame
def frame_Read : Sl → H → Option ((Sl × Int) × H) := P.frame_Read frame_reader_frame slices_Clip_api_Frame_api_Frame
def ann_56 : Ann := ⟨fun i => bif i.beq 8 then some ⟨[5], [eL_]⟩ else none, fun i => bif i.beq 3 then some ⟨[4, 5], [eP_, eL_]⟩ else none, fun _ => none⟩
def E_56 : Ent := V_56 frame_Read
theorem eq_56 (frame_reader_frame : T_112) (slices_Clip_api_Frame_api_Frame : T_113) : runE [V_112 frame_reader_frame, V_113 slices_Clip_api_Frame_api_Frame] ann_56 Try.f56 (V_56 (P.frame_Read frame_reader_frame slices_Clip_api_Frame_api_Frame)) = (V_56 (P.frame_Read frame_reader_frame slices_Clip_api_Frame_api_Frame)).g := by kernel_rfl
theorem ok_56 : E_56.ok Tab.D := entT (entC ok_112 (entC ok_113 entN)) (by kernel_rfl) (by kernel_rfl) (by kernel_rfl) (eq_56 frame_reader_frame slices_Clip_api_Frame_api_Frame)
/-! pnum_within -/
abbrev T_171 := Int → Int → Int → H → Option ((Int) × H)
abbrev V_171 (f : T_171) : Ent := ⟨171, [eI_, eI_, eI_], [eI_], fun (x : Int × Int × Int) h => f x.1 x.2.1 x.2.2 h⟩
def pnum_within (n : Int) (low : Int) (high : Int) (h : H) : Option (Int × H) :=
 letO ((if ((if (high < n) then high else n) > low) then (if (high < n) then high else n) else low)) fun x0 =>
 some (x0, h)
def ann_171 : Ann := ⟨fun _ => none, fun _ => none, fun _ => none⟩
def E_171 : Ent := V_171 pnum_within
theorem eq_171 : runE [] ann_171 Try.f171 (V_171 pnum_within) = (V_171 pnum_within).g := by kernel_rfl
theorem ok_171 : E_171.ok Tab.D := entT entN (by kernel_rfl) (by kernel_rfl) (by kernel_rfl) eq_171
/-! pnum_span -/
abbrev T_168 := Int → H → Option ((Int) × H)
abbrev V_168 (f : T_168) : Ent := ⟨168, [eI_], [eI_], fun (x : Int) h => f x h⟩
def P.pnum_span (pnum_within : T_171) (k : Int) (h : H) : Option (Int × H) :=
 bind2 (pnum_within k 1 4 h) fun x0 h0 =>
 bindO (shlT .i64 1 .i64 (IntKind.wrap .i64 (8 * x0))) fun x1 =>
 some (x1, h0)
def pnum_span : Int → H → Option ((Int) × H) := P.pnum_span pnum_within
def ann_168 : Ann := ⟨fun _ => none, fun _ => none, fun _ => none⟩
def E_168 : Ent := V_168 pnum_span
theorem eq_168 (pnum_within : T_171) : runE [V_171 pnum_within] ann_168 Try.f168 (V_168 (P.pnum_span pnum_within)) = (V_168 (P.pnum_span pnum_within)).g := by kernel_rfl
theorem ok_168 : E_168.ok Tab.D := entT (entC ok_171 entN) (by kernel_rfl) (by kernel_rfl) (by kernel_rfl) (eq_168 pnum_within)
/-! pnum_Bytes -/
abbrev T_125 := Int → Int → H → Option ((Int) × H)
abbrev V_125 (f : T_125) : Ent := ⟨125, [eI_, eI_], [eI_], fun (x : Int × Int) h => f x.1 x.2 h⟩
def P.pnum_Bytes_l1 (pnum_span : T_168) : ((Int × (Int × Int)) × H) → Option (((Int × (Int × Int)) × H) ⊕ (Int × H)) := fun ((n, (acked, k)), h0) =>
 condK (decide ((k < 4))) (
 joinO (
 condK (decide ((n ≤ acked))) (
 some (inl ((n, (acked, (k, true))), h0))) (
 letO ((IntKind.wrap .u64 ((IntKind.wrap .u64 n) - (IntKind.wrap .u64 acked)))) fun x0 =>
 bind2 (pnum_span k h0) fun x1 h1 =>
 letO ((decide ((x0 ≤ (IntKind.wrap .u64 (IntKind.wrap .i64 (Int.tdiv x1 2))))))) fun x2 =>
 some (inl ((n, (acked, (k, x2))), h1)))) fun (((n1, (acked1, (k1, x0))), h1) : ((Int × (Int × (Int × Bool))) × H)) =>
 condK x0 (
 some (inr (k1, h1))) (
 some (inl ((n1, (acked1, (IntKind.wrap .i64 (k1 + 1)))), h1)))) (
 some (inr (4, h0)))

def P.pnum_Bytes (pnum_span : T_168) (n : Int) (acked : Int) (h : H) : Option (Int × H) :=
 loopO (P.pnum_Bytes_l1 pnum_span) ((n, (acked, 1)), h)
abbrev pnum_Bytes_l1 := P.pnum_Bytes_l1 pnum_span
def pnum_Bytes : Int → Int → H → Option ((Int) × H) := P.pnum_Bytes pnum_span
def ann_125 : Ann := ⟨fun _ => none, fun i => bif i.beq 2 then some ⟨[0, 1, 5], [eI_, eI_, eI_]⟩ else none, fun i => bif i.beq 4 then some ⟨[0, 1, 5, 24], [eI_, eI_, eI_, eB_]⟩ else none⟩
def E_125 : Ent := V_125 pnum_Bytes
theorem eq_125 (pnum_span : T_168) : runE [V_168 pnum_span] ann_125 Try.f125 (V_125 (P.pnum_Bytes pnum_span)) = (V_125 (P.pnum_Bytes pnum_span)).g := by kernel_rfl
theorem ok_125 : E_125.ok Tab.D := entT (entC ok_168 entN) (by kernel_rfl) (by kernel_rfl) (by kernel_rfl) (eq_125 pnum_span)
/-! pnum_rest -/
abbrev T_172 := Int → Int → H → Option ((Int) × H)
abbrev V_172 (f : T_172) : Ent := ⟨172, [eI_, eI_], [eI_], fun (x : Int × Int) h => f x.1 x.2 h⟩
def pnum_rest (n : Int) (by' : Int) (h : H) : Option (Int × H) :=
 bindO (remT .i64 n by') fun x0 =>
 joinO (
 condK (decide ((x0 < 0))) (
 some (inl ((IntKind.wrap .i64 (x0 + by')), h))) (
 some (inl (x0, h)))) fun ((n1, h0) : (Int × H)) =>
 some (n1, h0)
def ann_172 : Ann := ⟨fun i => bif i.beq 4 then some ⟨[0], [eI_]⟩ else none, fun _ => none, fun _ => none⟩
def E_172 : Ent := V_172 pnum_rest
theorem eq_172 : runE [] ann_172 Try.f172 (V_172 pnum_rest) = (V_172 pnum_rest).g := by kernel_rfl
theorem ok_172 : E_172.ok Tab.D := entT entN (by kernel_rfl) (by kernel_rfl) (by kernel_rfl) eq_172
/-! pnum_Cut -/
abbrev T_167 := Int → Int → H → Option ((Int) × H)
abbrev V_167 (f : T_167) : Ent := ⟨167, [eI_, eI_], [eI_], fun (x : Int × Int) h => f x.1 x.2 h⟩
def P.pnum_Cut (pnum_span : T_168) (pnum_rest : T_172) (n : Int) (k : Int) (h : H) : Option (Int × H) :=
 bind2 (pnum_span k h) fun x0 h0 =>
 bind2 (pnum_rest n x0 h0) fun x1 h1 =>
 some (x1, h1)
def pnum_Cut : Int → Int → H → Option ((Int) × H) := P.pnum_Cut pnum_span pnum_rest
def ann_167 : Ann := ⟨fun _ => none, fun _ => none, fun _ => none⟩
def E_167 : Ent := V_167 pnum_Cut
theorem eq_167 (pnum_span : T_168) (pnum_rest : T_172) : runE [V_168 pnum_span, V_172 pnum_rest] ann_167 Try.f167 (V_167 (P.pnum_Cut pnum_span pnum_rest)) = (V_167 (P.pnum_Cut pnum_span pnum_rest)).g := by kernel_rfl
theorem ok_167 : E_167.ok Tab.D := entT (entC ok_168 (entC ok_172 entN)) (by kernel_rfl) (by kernel_rfl) (by kernel_rfl) (eq_167 pnum_span pnum_rest)
/-! packet_headOf -/
abbrev T_124 := Int → Int → H → Option ((Sl) × H)
abbrev V_124 (f : T_124) : Ent := ⟨124, [eI_, eI_], [eL_], fun (x : Int × Int) h => f x.1 x.2 h⟩
def P.packet_headOf_l1 (pnum_Cut : T_167) : ((Sl × (Int × Int)) × H) → Option (((Sl × (Int × Int)) × H) ⊕ ((Sl × H) ⊕ (Sl × H))) := fun ((out, (cut, at')), h0) =>
 condK (decide ((at' ≥ 0))) (
 bindO (shrT .i64 cut .i64 at') fun x0 =>
 newO (row 5 [(.int .u8 (IntKind.wrap .u8 x0))]) h0 fun b h1 =>
 bind2 (appT 5 1 1 h1 out (⟨(some (⟨b, 0, some 0⟩ : Addr)), 1, 1⟩ : Sl)) fun x1 h2 =>
 some (inl ((x1, (cut, (IntKind.wrap .i64 (at' - 8)))), h2))) (
 some (inr (inl (out, h0))))

def P.packet_headOf (pnum_Cut : T_167) (num : Int) (k : Int) (h : H) : Option (Sl × H) :=
 letO ((IntKind.wrap .u8 (IntKind.wrap .i64 ((IntKind.wrap .i64 (64 + k)) - 1)))) fun x0 =>
 newO (row 5 [(.int .u8 x0)]) h fun b h0 =>
 bind2 (pnum_Cut num k h0) fun x1 h1 =>
 joinO (
 loopO (P.packet_headOf_l1 pnum_Cut) (((⟨(some (⟨b, 0, some 0⟩ : Addr)), 1, 1⟩ : Sl), (x1, (IntKind.wrap .i64 ((IntKind.wrap .i64 (8 * k)) - 8)))), h1)) fun ((out, h2) : (Sl × H)) =>
 some (out, h2)
abbrev packet_headOf_l1 := P.packet_headOf_l1 pnum_Cut
def packet_headOf : Int → Int → H → Option ((Sl) × H) := P.packet_headOf pnum_Cut
def ann_124 : Ann := ⟨fun i => bif i.beq 7 then some ⟨[5], [eL_]⟩ else none, fun i => bif i.beq 4 then some ⟨[5, 6, 7], [eL_, eI_, eI_]⟩ else none, fun _ => none⟩
def E_124 : Ent := V_124 packet_headOf
theorem eq_124 (pnum_Cut : T_167) : runE [V_167 pnum_Cut] ann_124 Try.f124 (V_124 (P.packet_headOf pnum_Cut)) = (V_124 (P.packet_headOf pnum_Cut)).g := by kernel_rfl
theorem ok_124 : E_124.ok Tab.D := entT (entC ok_167 entN) (by kernel_rfl) (by kernel_rfl) (by kernel_rfl) (eq_124 pnum_Cut)
/-! math_bits_RotateLeft64 -/
abbrev T_197 := Int → Int → H → Option ((Int) × H)
abbrev V_197 (f : T_197) : Ent := ⟨197, [⟨false, [.int .u64]⟩, eI_], [⟨false, [.int .u64]⟩], fun (x : Int × Int) h => f x.1 x.2 h⟩
def math_bits_RotateLeft64 (x0 : Int) (k : Int) (h : H) : Option (Int × H) :=
 letO ((IntKind.wrap .u64 (((BitVec.toNat ((BitVec.ofInt 64 (IntKind.wrap .u64 k)) &&& (BitVec.ofInt 64 63))) : Nat) : Int))) fun x1 =>
 bindO (shlT .u64 x0 .u64 x1) fun x2 =>
 bindO (shrT .u64 x0 .u64 (IntKind.wrap .u64 (64 - x1))) fun x3 =>
 letO ((IntKind.wrap .u64 (((BitVec.toNat ((BitVec.ofInt 64 x2) ||| (BitVec.ofInt 64 x3))) : Nat) : Int))) fun x4 =>
 some (x4, h)
def ann_197 : Ann := ⟨fun _ => none, fun _ => none, fun _ => none⟩
def E_197 : Ent := V_197 math_bits_RotateLeft64
theorem eq_197 : runE [] ann_197 Try.f197 (V_197 math_bits_RotateLeft64) = (V_197 math_bits_RotateLeft64).g := by kernel_rfl
theorem ok_197 : E_197.ok Tab.D := entT entN (by kernel_rfl) (by kernel_rfl) (by kernel_rfl) eq_197
/-! seal_Step -/
abbrev T_183 := Int → Int → H → Option ((Int) × H)
abbrev V_183 (f : T_183) : Ent := ⟨183, [⟨false, [.int .u64]⟩, ⟨false, [.int .u64]⟩], [⟨false, [.int .u64]⟩], fun (x : Int × Int) h => f x.1 x.2 h⟩
def P.seal_Step (math_bits_RotateLeft64 : T_197) (h0 : Int) (c : Int) (h : H) : Option (Int × H) :=
 bind2 (math_bits_RotateLeft64 h0 13 h) fun x0 h1 =>
 letO ((IntKind.wrap .u64 (((BitVec.toNat ((BitVec.ofInt 64 x0) ^^^ (BitVec.ofInt 64 c))) : Nat) : Int))) fun x1 =>
 some ((IntKind.wrap .u64 (x1 * 15485907386658061715)), h1)
def seal_Step : Int → Int → H → Option ((Int) × H) := P.seal_Step math_bits_RotateLeft64
def ann_183 : Ann := ⟨fun _ => none, fun _ => none, fun _ => none⟩
def E_183 : Ent := V_183 seal_Step
theorem eq_183 (math_bits_RotateLeft64 : T_197) : runE [V_197 math_bits_RotateLeft64] ann_183 Try.f183 (V_183 (P.seal_Step math_bits_RotateLeft64)) = (V_183 (P.seal_Step math_bits_RotateLeft64)).g := by kernel_rfl
theorem ok_183 : E_183.ok Tab.D := entT (entC ok_197 entN) (by kernel_rfl) (by kernel_rfl) (by kernel_rfl) (eq_183 math_bits_RotateLeft64)
/-! seal_Mask -/
abbrev T_169 := Int → Int → Sl → H → Option ((Sl) × H)
abbrev V_169 (f : T_169) : Ent := ⟨169, [⟨false, [.int .u64]⟩, eI_, eL_], [eL_], fun (x : Int × Int × Sl) h => f x.1 x.2.1 x.2.2 h⟩
def P.seal_Mask_l1 (seal_Step : T_183) (slices_Clone_byte : T_98) (slices_Clip_byte : T_97) : ((Int × (Sl × (Int × Int))) × H) → Option (((Int × (Sl × (Int × Int))) × H) ⊕ ((Sl × H) ⊕ (Sl × H))) := fun ((h0, (out, (x0, x1))), h1) =>
 condK (decide ((x1 < x0))) (
 bindO (ixT 1 out x1) fun a0 =>
 bindO (ldI .u8 h1 a0) fun x2 =>
 bind2 (seal_Step h0 (IntKind.wrap .u64 x1) h1) fun x3 h2 =>
 letO ((IntKind.wrap .u8 (((BitVec.toNat ((BitVec.ofInt 8 x2) ^^^ (BitVec.ofInt 8 (IntKind.wrap .u8 (Int.fdiv x3 4294967296))))) : Nat) : Int))) fun x4 =>
 bindO (ixT 1 out x1) fun a1 =>
 bindO (st1 h2 a1 (.int .u8 x4)) fun h3 =>
 bindO (ldI .u8 h2 a0) fun x5 =>
 condK (x5 == x2) (
 some (inl ((h0, (out, (x0, (IntKind.wrap .i64 (x1 + 1))))), h3))) none) (
 some (inr (inl (out, h1))))

def P.seal_Mask (seal_Step : T_183) (slices_Clone_byte : T_98) (slices_Clip_byte : T_97) (key : Int) (num : Int) (b : Sl) (h : H) : Option (Sl × H) :=
 bind2 (seal_Step key (IntKind.wrap .u64 num) h) fun x0 h0 =>
 bind2 (slices_Clone_byte b h0) fun x1 h1 =>
 joinO (
 loopO (P.seal_Mask_l1 seal_Step slices_Clone_byte slices_Clip_byte) ((x0, (x1, (((x1.len : Nat) : Int), 0))), h1)) fun ((out, h2) : (Sl × H)) =>
 bind2 (slices_Clip_byte out h2) fun x2 h3 =>
 some (x2, h3)
abbrev seal_Mask_l1 := P.seal_Mask_l1 seal_Step slices_Clone_byte slices_Clip_byte
def seal_Mask : Int → Int → Sl → H → Option ((Sl) × H) := P.seal_Mask seal_Step slices_Clone_byte slices_Clip_byte
def ann_169 : Ann := ⟨fun i => bif i.beq 8 then some ⟨[8], [eL_]⟩ else none, fun i => bif i.beq 4 then some ⟨[7, 8, 17, 18], [⟨false, [.int .u64]⟩, eL_, eI_, eI_]⟩ else none, fun _ => none⟩
def E_169 : Ent := V_169 seal_Mask
theorem eq_169 (seal_Step : T_183) (slices_Clone_byte : T_98) (slices_Clip_byte : T_97) : runE [V_183 seal_Step, V_98 slices_Clone_byte, V_97 slices_Clip_byte] ann_169 Try.f169 (V_169 (P.seal_Mask seal_Step slices_Clone_byte slices_Clip_byte)) = (V_169 (P.seal_Mask seal_Step slices_Clone_byte slices_Clip_byte)).g := by kernel_rfl
theorem ok_169 : E_169.ok Tab.D := entT (entC ok_183 (entC ok_98 (entC ok_97 entN))) (by kernel_rfl) (by kernel_rfl) (by kernel_rfl) (eq_169 seal_Step slices_Clone_byte slices_Clip_byte)
/-! seal_Tag -/
abbrev T_184 := Int → Sl → H → Option ((Int) × H)
abbrev V_184 (f : T_184) : Ent := ⟨184, [⟨false, [.int .u64]⟩, eL_], [⟨false, [.int .u64]⟩], fun (x : Int × Sl) h => f x.1 x.2 h⟩
def P.seal_Tag_l2 (seal_Step : T_183) : ((Int × (Sl × (Sl × (Int × (Int × (Sl × (Int × Int))))))) × H) → Option (((Int × (Sl × (Sl × (Int × (Int × (Sl × (Int × Int))))))) × H) ⊕ (((Int × (Sl × (Sl × (Int × Int)))) × H) ⊕ (((Int × (Sl × (Int × Int))) × H) ⊕ (((Int × (Sl × (Int × Int))) × H) ⊕ ((Int × H) ⊕ (Int × H)))))) := fun ((key, (p, (x0, (x1, (x2, (x3, (x4, x5))))))), h0) =>
 condK (decide ((x5 < x4))) (
 bindO (ixT 1 x3 x5) fun a0 =>
 bindO (ldI .u8 h0 a0) fun x6 =>
 bind2 (seal_Step key (IntKind.wrap .u64 x6) h0) fun x7 h1 =>
 some (inl ((x7, (p, (x0, (x1, (x2, (x3, (x4, (IntKind.wrap .i64 (x5 + 1))))))))), h1))) (
 some (inr (inl ((key, (p, (x0, (x1, x2)))), h0))))

def P.seal_Tag_l1 (seal_Step : T_183) : ((Int × (Sl × (Int × Int))) × H) → Option (((Int × (Sl × (Int × Int))) × H) ⊕ ((Int × H) ⊕ (Int × H))) := fun ((key, (x0, (x1, x2))), h0) =>
 condK (decide ((x2 < x1))) (
 joinO (
 bindO (ixT 1 x0 x2) fun a0 =>
 bindO (ldL h0 a0) fun x3 =>
 joinO (
 loopO (P.seal_Tag_l2 seal_Step) ((key, (x3, (x0, (x1, (x2, (x3, (((x3.len : Nat) : Int), 0))))))), h0)) fun (((key1, (p, (x4, (x5, x6)))), h1) : ((Int × (Sl × (Sl × (Int × Int)))) × H)) =>
 bind2 (seal_Step key1 (IntKind.wrap .u64 (256 + (IntKind.wrap .u64 ((p.len : Nat) : Int)))) h1) fun x7 h2 =>
 some (inl ((x7, (x4, (x5, x6))), h2))) fun (((key1, (x3, (x4, x5))), h1) : ((Int × (Sl × (Int × Int))) × H)) =>
 some (inl ((key1, (x3, (x4, (IntKind.wrap .i64 (x5 + 1))))), h1))) (
 some (inr (inl (key, h0))))

def P.seal_Tag (seal_Step : T_183) (key : Int) (parts : Sl) (h : H) : Option (Int × H) :=
 joinO (
 loopO (P.seal_Tag_l1 seal_Step) ((key, (parts, (((parts.len : Nat) : Int), 0))), h)) fun ((key1, h0) : (Int × H)) =>
 some (key1, h0)
abbrev seal_Tag_l2 := P.seal_Tag_l2 seal_Step
abbrev seal_Tag_l1 := P.seal_Tag_l1 seal_Step
def seal_Tag : Int → Sl → H → Option ((Int) × H) := P.seal_Tag seal_Step
def ann_184 : Ann := ⟨fun i => bif i.beq 9 then some ⟨[0, 6, 9, 10, 11], [⟨false, [.int .u64]⟩, eL_, eL_, eI_, eI_]⟩ else bif i.beq 10 then some ⟨[0, 9, 10, 11], [⟨false, [.int .u64]⟩, eL_, eI_, eI_]⟩ else bif i.beq 11 then some ⟨[0], [⟨false, [.int .u64]⟩]⟩ else none, fun i => bif i.beq 2 then some ⟨[0, 9, 10, 11], [⟨false, [.int .u64]⟩, eL_, eI_, eI_]⟩ else bif i.beq 5 then some ⟨[0, 6, 9, 10, 11, 15, 16, 17], [⟨false, [.int .u64]⟩, eL_, eL_, eI_, eI_, eL_, eI_, eI_]⟩ else none, fun _ => none⟩
def E_184 : Ent := V_184 seal_Tag
theorem eq_184 (seal_Step : T_183) : runE [V_183 seal_Step] ann_184 Try.f184 (V_184 (P.seal_Tag seal_Step)) = (V_184 (P.seal_Tag seal_Step)).g := by kernel_rfl
theorem ok_184 : E_184.ok Tab.D := entT (entC ok_183 entN) (by kernel_rfl) (by kernel_rfl) (by kernel_rfl) (eq_184 seal_Step)
/-! seal_tag -/
abbrev T_170 := Int → Int → Sl → Sl → H → Option ((Sl) × H)
abbrev V_170 (f : T_170) : Ent := ⟨170, [⟨false, [.int .u64]⟩, eI_, eL_, eL_], [eL_], fun (x : Int × Int × Sl × Sl) h => f x.1 x.2.1 x.2.2.1 x.2.2.2 h⟩
def P.seal_tag_l1 (seal_Step : T_183) (seal_Tag : T_184) : ((Int × (Sl × Int)) × H) → Option (((Int × (Sl × Int)) × H) ⊕ ((Sl × H) ⊕ (Sl × H))) := fun ((sum, (out, at')), h0) =>
 condK (decide ((at' ≥ 0))) (
 bindO (shrT .u64 sum .i64 at') fun x0 =>
 newO (row 5 [(.int .u8 (IntKind.wrap .u8 x0))]) h0 fun b h1 =>
 bind2 (appT 5 1 1 h1 out (⟨(some (⟨b, 0, some 0⟩ : Addr)), 1, 1⟩ : Sl)) fun x1 h2 =>
 some (inl ((sum, (x1, (IntKind.wrap .i64 (at' - 8)))), h2))) (
 some (inr (inl (out, h0))))

def P.seal_tag (seal_Step : T_183) (seal_Tag : T_184) (key : Int) (num : Int) (head : Sl) (masked : Sl) (h : H) : Option (Sl × H) :=
 bind2 (seal_Step key (IntKind.wrap .u64 num) h) fun x0 h0 =>
 newO (row 30 [(.slice head.base head.len head.cap), (.slice masked.base masked.len masked.cap)]) h0 fun b h1 =>
 bind2 (seal_Tag x0 (⟨(some (⟨b, 0, some 0⟩ : Addr)), 2, 2⟩ : Sl) h1) fun x1 h2 =>
 joinO (
 loopO (P.seal_tag_l1 seal_Step seal_Tag) ((x1, ((⟨none, 0, 0⟩ : Sl), 56)), h2)) fun ((out, h3) : (Sl × H)) =>
 some (out, h3)
abbrev seal_tag_l1 := P.seal_tag_l1 seal_Step seal_Tag
def seal_tag : Int → Int → Sl → Sl → H → Option ((Sl) × H) := P.seal_tag seal_Step seal_Tag
def ann_170 : Ann := ⟨fun i => bif i.beq 7 then some ⟨[10], [eL_]⟩ else none, fun i => bif i.beq 4 then some ⟨[9, 10, 11], [⟨false, [.int .u64]⟩, eL_, eI_]⟩ else none, fun _ => none⟩
def E_170 : Ent := V_170 seal_tag
theorem eq_170 (seal_Step : T_183) (seal_Tag : T_184) : runE [V_183 seal_Step, V_184 seal_Tag] ann_170 Try.f170 (V_170 (P.seal_tag seal_Step seal_Tag)) = (V_170 (P.seal_tag seal_Step seal_Tag)).g := by kernel_rfl
theorem ok_170 : E_170.ok Tab.D := entT (entC ok_183 (entC ok_184 entN)) (by kernel_rfl) (by kernel_rfl) (by kernel_rfl) (eq_170 seal_Step seal_Tag)
/-! seal_Close -/
abbrev T_126 := Int → Int → Sl → Sl → H → Option ((Sl) × H)
abbrev V_126 (f : T_126) : Ent := ⟨126, [⟨false, [.int .u64]⟩, eI_, eL_, eL_], [eL_], fun (x : Int × Int × Sl × Sl) h => f x.1 x.2.1 x.2.2.1 x.2.2.2 h⟩
def P.seal_Close (seal_Mask : T_169) (seal_tag : T_170) (slices_Concat_byte : T_99) (key : Int) (num : Int) (head : Sl) (body : Sl) (h : H) : Option (Sl × H) :=
 bind2 (seal_Mask key num body h) fun x0 h0 =>
 bind2 (seal_tag key num head x0 h0) fun x1 h1 =>
 newO (row 30 [(.slice x0.base x0.len x0.cap), (.slice x1.base x1.len x1.cap)]) h1 fun b h2 =>
 bind2 (slices_Concat_byte (⟨(some (⟨b, 0, some 0⟩ : Addr)), 2, 2⟩ : Sl) h2) fun x2 h3 =>
 some (x2, h3)
def seal_Close : Int → Int → Sl → Sl → H → Option ((Sl) × H) := P.seal_Close seal_Mask seal_tag slices_Concat_byte
def ann_126 : Ann := ⟨fun _ => none, fun _ => none, fun _ => none⟩
def E_126 : Ent := V_126 seal_Close
theorem eq_126 (seal_Mask : T_169) (seal_tag : T_170) (slices_Concat_byte : T_99) : runE [V_169 seal_Mask, V_170 seal_tag, V_99 slices_Concat_byte] ann_126 Try.f126 (V_126 (P.seal_Close seal_Mask seal_tag slices_Concat_byte)) = (V_126 (P.seal_Close seal_Mask seal_tag slices_Concat_byte)).g := by kernel_rfl
theorem ok_126 : E_126.ok Tab.D := entT (entC ok_169 (entC ok_170 (entC ok_99 entN))) (by kernel_rfl) (by kernel_rfl) (by kernel_rfl) (eq_126 seal_Mask seal_tag slices_Concat_byte)
/-! packet_Lay -/
abbrev T_72 := Int → Int → Int → Sl → H → Option ((Sl × Int) × H)
abbrev V_72 (f : T_72) : Ent := ⟨72, [⟨false, [.int .u64]⟩, eI_, eI_, eL_], [eL_, eI_], fun (x : Int × Int × Int × Sl) h => f x.1 x.2.1 x.2.2.1 x.2.2.2 h⟩
def P.packet_Lay (frame_Lay : T_55) (pnum_Bytes : T_125) (packet_headOf : T_124) (seal_Close : T_126) (slices_Concat_byte : T_99) (key : Int) (num : Int) (acked : Int) (f : Sl) (h : H) : Option ((Sl × Int) × H) :=
 joinO (
 condK (decide ((num < 0))) (
 some (inl ((key, (num, (acked, (f, true)))), h))) (
 condK (decide ((num > 4611686018427387903))) (
 some (inl ((key, (num, (acked, (f, true)))), h))) (
 condK (decide ((acked < (-1)))) (
 some (inl ((key, (num, (acked, (f, true)))), h))) (
 some (inl ((key, (num, (acked, (f, (decide ((acked ≥ num))))))), h)))))) fun (((key1, (num1, (acked1, (f1, x0)))), h0) : ((Int × (Int × (Int × (Sl × Bool)))) × H)) =>
 condK x0 (
 some (((⟨none, 0, 0⟩ : Sl), 1), h0)) (
 bind2 (frame_Lay f1 h0) fun ((x1, x2) : Sl × Int) (h1 : H) =>
 condK (x2 != 0) (
 some (((⟨none, 0, 0⟩ : Sl), x2), h1)) (
 bind2 (pnum_Bytes num1 acked1 h1) fun x3 h2 =>
 bind2 (packet_headOf num1 x3 h2) fun x4 h3 =>
 bind2 (seal_Close key1 num1 x4 x1 h3) fun x5 h4 =>
 newO (row 30 [(.slice x4.base x4.len x4.cap), (.slice x5.base x5.len x5.cap)]) h4 fun b h5 =>
 bind2 (slices_Concat_byte (⟨(some (⟨b, 0, some 0⟩ : Addr)), 2, 2⟩ : Sl) h5) fun x6 h6 =>
 condK (decide ((((x6.len : Nat) : Int) > 240))) (
 some (((⟨none, 0, 0⟩ : Sl), 9), h6)) (
 some ((x6, 0), h6))))
def packet_Lay : Int → Int → Int → Sl → H → Option ((Sl × Int) × H) := P.packet_Lay frame_Lay pnum_Bytes packet_headOf seal_Close slices_Concat_byte
def ann_72 : Ann := ⟨fun _ => none, fun _ => none, fun i => bif i.beq 1 then some ⟨[0, 1, 2, 3, 28], [⟨false, [.int .u64]⟩, eI_, eI_, eL_, eB_]⟩ else none⟩
def E_72 : Ent := V_72 packet_Lay
theorem eq_72 (frame_Lay : T_55) (pnum_Bytes : T_125) (packet_headOf : T_124) (seal_Close : T_126) (slices_Concat_byte : T_99) : runE [V_55 frame_Lay, V_125 pnum_Bytes, V_124 packet_headOf, V_126 seal_Close, V_99 slices_Concat_byte] ann_72 Try.f72 (V_72 (P.packet_Lay frame_Lay pnum_Bytes packet_headOf seal_Close slices_Concat_byte)) = (V_72 (P.packet_Lay frame_Lay pnum_Bytes packet_headOf seal_Close slices_Concat_byte)).g := by kernel_rfl
theorem ok_72 : E_72.ok Tab.D := entT (entC ok_55 (entC ok_125 (entC ok_124 (entC ok_126 (entC ok_99 entN))))) (by kernel_rfl) (by kernel_rfl) (by kernel_rfl) (eq_72 frame_Lay pnum_Bytes packet_headOf seal_Close slices_Concat_byte)
/-! pnum_Back -/
abbrev T_127 := Int → Int → Int → H → Option ((Int) × H)
abbrev V_127 (f : T_127) : Ent := ⟨127, [eI_, eI_, eI_], [eI_], fun (x : Int × Int × Int) h => f x.1 x.2.1 x.2.2 h⟩
def P.pnum_Back (pnum_span : T_168) (pnum_within : T_171) (pnum_Cut : T_167) (pnum_rest : T_172) (cut : Int) (k : Int) (next : Int) (h : H) : Option (Int × H) :=
 bind2 (pnum_span k h) fun x0 h0 =>
 bind2 (pnum_within next 0 4611686018427387903 h0) fun x1 h1 =>
 bind2 (pnum_Cut cut k h1) fun x2 h2 =>
 bind2 (pnum_rest x1 x0 h2) fun x3 h3 =>
 bind2 (pnum_rest (IntKind.wrap .i64 (x2 - x3)) x0 h3) fun x4 h4 =>
 joinO (
 letO ((decide (((IntKind.wrap .i64 ((IntKind.wrap .i64 (x1 + x4)) - x0)) < 0)))) fun x5 =>
 condK x5 (
 some (inr ((IntKind.wrap .i64 (x1 + x4)), h4))) (
 condK (decide (((IntKind.wrap .i64 (x1 + x4)) ≤ 4611686018427387903))) (
 letO ((IntKind.wrap .i64 (x1 - (IntKind.wrap .i64 ((IntKind.wrap .i64 (x1 + x4)) - x0))))) fun x6 =>
 letO ((decide (((IntKind.wrap .i64 ((IntKind.wrap .i64 (x1 + x4)) - x1)) ≤ x6)))) fun x7 =>
 condK x7 (
 some (inr ((IntKind.wrap .i64 (x1 + x4)), h4))) (
 some (inl ((IntKind.wrap .i64 ((IntKind.wrap .i64 (x1 + x4)) - x0)), h4)))) (
 some (inl ((IntKind.wrap .i64 ((IntKind.wrap .i64 (x1 + x4)) - x0)), h4))))) fun ((below, h5) : (Int × H)) =>
 some (below, h5)
def pnum_Back : Int → Int → Int → H → Option ((Int) × H) := P.pnum_Back pnum_span pnum_within pnum_Cut pnum_rest
def ann_127 : Ann := ⟨fun i => bif i.beq 7 then some ⟨[9], [eI_]⟩ else none, fun _ => none, fun _ => none⟩
def E_127 : Ent := V_127 pnum_Back
theorem eq_127 (pnum_span : T_168) (pnum_within : T_171) (pnum_Cut : T_167) (pnum_rest : T_172) : runE [V_168 pnum_span, V_171 pnum_within, V_167 pnum_Cut, V_172 pnum_rest] ann_127 Try.f127 (V_127 (P.pnum_Back pnum_span pnum_within pnum_Cut pnum_rest)) = (V_127 (P.pnum_Back pnum_span pnum_within pnum_Cut pnum_rest)).g := by kernel_rfl
theorem ok_127 : E_127.ok Tab.D := entT (entC ok_168 (entC ok_171 (entC ok_167 (entC ok_172 entN)))) (by kernel_rfl) (by kernel_rfl) (by kernel_rfl) (eq_127 pnum_span pnum_within pnum_Cut pnum_rest)
/-! seal_Open -/
abbrev T_128 := Int → Int → Sl → Sl → H → Option ((Sl × Bool) × H)
abbrev V_128 (f : T_128) : Ent := ⟨128, [⟨false, [.int .u64]⟩, eI_, eL_, eL_], [eL_, eB_], fun (x : Int × Int × Sl × Sl) h => f x.1 x.2.1 x.2.2.1 x.2.2.2 h⟩
def P.seal_Open (seal_tag : T_170) (slices_Equal_byte : T_144) (seal_Mask : T_169) (key : Int) (num : Int) (head : Sl) (sealed : Sl) (h : H) : Option ((Sl × Bool) × H) :=
 condK (decide ((((sealed.len : Nat) : Int) < 8))) (
 some (((⟨none, 0, 0⟩ : Sl), false), h)) (
 bindO (slT 1 h sealed none (some (IntKind.wrap .i64 (((sealed.len : Nat) : Int) - 8))) none) fun x0 =>
 bindO (slT 1 h sealed (some (IntKind.wrap .i64 (((sealed.len : Nat) : Int) - 8))) none none) fun x1 =>
 bind2 (seal_tag key num head x0 h) fun x2 h0 =>
 bind2 (slices_Equal_byte x2 x1 h0) fun x3 h1 =>
 condK (!x3) (
 some (((⟨none, 0, 0⟩ : Sl), false), h1)) (
 bind2 (seal_Mask key num x0 h1) fun x4 h2 =>
 some ((x4, true), h2)))
def seal_Open : Int → Int → Sl → Sl → H → Option ((Sl × Bool) × H) := P.seal_Open seal_tag slices_Equal_byte seal_Mask
def ann_128 : Ann := ⟨fun _ => none, fun _ => none, fun _ => none⟩
def E_128 : Ent := V_128 seal_Open
theorem eq_128 (seal_tag : T_170) (slices_Equal_byte : T_144) (seal_Mask : T_169) : runE [V_170 seal_tag, V_144 slices_Equal_byte, V_169 seal_Mask] ann_128 Try.f128 (V_128 (P.seal_Open seal_tag slices_Equal_byte seal_Mask)) = (V_128 (P.seal_Open seal_tag slices_Equal_byte seal_Mask)).g := by kernel_rfl
theorem ok_128 : E_128.ok Tab.D := entT (entC ok_170 (entC ok_144 (entC ok_169 entN))) (by kernel_rfl) (by kernel_rfl) (by kernel_rfl) (eq_128 seal_tag slices_Equal_byte seal_Mask)
/-! packet_Read -/
abbrev T_73 := Int → Int → Sl → H → Option ((Int × Sl × Int) × H)
abbrev V_73 (f : T_73) : Ent := ⟨73, [⟨false, [.int .u64]⟩, eI_, eL_], [eI_, eL_, eI_], fun (x : Int × Int × Sl) h => f x.1 x.2.1 x.2.2 h⟩
def P.packet_Read_l1 (pnum_Back : T_127) (seal_Open : T_128) (frame_Read : T_56) : ((Int × (Int × (Sl × (Int × (Int × (Sl × (Int × Int))))))) × H) → Option (((Int × (Int × (Sl × (Int × (Int × (Sl × (Int × Int))))))) × H) ⊕ (((Int × (Int × (Sl × (Int × Int)))) × H) ⊕ ((Int × (Sl × Int)) × H))) := fun ((key, (next, (b, (k, (cut, (x0, (x1, x2))))))), h0) =>
 condK (decide ((x2 < x1))) (
 bindO (ixT 1 x0 x2) fun a0 =>
 bindO (ldI .u8 h0 a0) fun x3 =>
 letO ((IntKind.wrap .i64 (((BitVec.toNat ((BitVec.ofInt 64 (IntKind.wrap .i64 (cut * 256))) ||| (BitVec.ofInt 64 (IntKind.wrap .i64 x3)))) : Nat) : Int))) fun x4 =>
 some (inl ((key, (next, (b, (k, (x4, (x0, (x1, (IntKind.wrap .i64 (x2 + 1))))))))), h0))) (
 some (inr (inl ((key, (next, (b, (k, cut)))), h0))))

def P.packet_Read (pnum_Back : T_127) (seal_Open : T_128) (frame_Read : T_56) (key : Int) (next : Int) (b : Sl) (h : H) : Option ((Int × Sl × Int) × H) :=
 condK (((b.len : Nat) : Int) == 0) (
 some ((0, ((⟨none, 0, 0⟩ : Sl), 3)), h)) (
 bindO (ixT 1 b 0) fun a0 =>
 bindO (ldI .u8 h a0) fun x0 =>
 letO ((IntKind.wrap .i64 ((IntKind.wrap .i64 ((IntKind.wrap .i64 x0) - 64)) + 1))) fun x1 =>
 joinO (
 condK (decide ((x1 < 1))) (
 some (inl ((key, (next, (b, (x1, true)))), h))) (
 some (inl ((key, (next, (b, (x1, (decide ((x1 > 4))))))), h)))) fun (((key1, (next1, (b1, (k, x2)))), h0) : ((Int × (Int × (Sl × (Int × Bool)))) × H)) =>
 condK x2 (
 some ((0, ((⟨none, 0, 0⟩ : Sl), 2)), h0)) (
 letO ((decide ((((b1.len : Nat) : Int) < (IntKind.wrap .i64 ((IntKind.wrap .i64 (1 + k)) + 8)))))) fun x3 =>
 condK x3 (
 some ((0, ((⟨none, 0, 0⟩ : Sl), 3)), h0)) (
 joinO (
 bindO (slT 1 h0 b1 (some 1) (some (IntKind.wrap .i64 (1 + k))) none) fun x4 =>
 loopO (P.packet_Read_l1 pnum_Back seal_Open frame_Read) ((key1, (next1, (b1, (k, (0, (x4, (((x4.len : Nat) : Int), 0))))))), h0)) fun (((key2, (next2, (b2, (k1, cut)))), h1) : ((Int × (Int × (Sl × (Int × Int)))) × H)) =>
 bind2 (pnum_Back cut k1 next2 h1) fun x4 h2 =>
 bindO (slT 1 h2 b2 none (some (IntKind.wrap .i64 (1 + k1))) none) fun x5 =>
 bindO (slT 1 h2 b2 (some (IntKind.wrap .i64 (1 + k1))) none none) fun x6 =>
 bind2 (seal_Open key2 x4 x5 x6 h2) fun ((x7, x8) : Sl × Bool) (h3 : H) =>
 condK (!x8) (
 some ((0, ((⟨none, 0, 0⟩ : Sl), 4)), h3)) (
 bind2 (frame_Read x7 h3) fun ((x9, x10) : Sl × Int) (h4 : H) =>
 joinO (
 condK (x10 != 0) (
 some (inl ((x4, (x9, true)), h4))) (
 some (inl ((x4, (x9, (((x9.len : Nat) : Int) == 0))), h4)))) fun (((num, (f, x11)), h5) : ((Int × (Sl × Bool)) × H)) =>
 condK x11 (
 some ((num, ((⟨none, 0, 0⟩ : Sl), 11)), h5)) (
 some ((num, (f, 0)), h5))))))
abbrev packet_Read_l1 := P.packet_Read_l1 pnum_Back seal_Open frame_Read
def packet_Read : Int → Int → Sl → H → Option ((Int × Sl × Int) × H) := P.packet_Read pnum_Back seal_Open frame_Read
def ann_73 : Ann := ⟨fun i => bif i.beq 14 then some ⟨[0, 1, 2, 9, 10], [⟨false, [.int .u64]⟩, eI_, eL_, eI_, eI_]⟩ else none, fun i => bif i.beq 10 then some ⟨[0, 1, 2, 9, 10, 41, 42, 43], [⟨false, [.int .u64]⟩, eI_, eL_, eI_, eI_, eL_, eI_, eI_]⟩ else none, fun i => bif i.beq 4 then some ⟨[0, 1, 2, 9, 24], [⟨false, [.int .u64]⟩, eI_, eL_, eI_, eB_]⟩ else bif i.beq 19 then some ⟨[6, 7, 84], [eI_, eL_, eB_]⟩ else none⟩
def E_73 : Ent := V_73 packet_Read
theorem eq_73 (pnum_Back : T_127) (seal_Open : T_128) (frame_Read : T_56) : runE [V_127 pnum_Back, V_128 seal_Open, V_56 frame_Read] ann_73 Try.f73 (V_73 (P.packet_Read pnum_Back seal_Open frame_Read)) = (V_73 (P.packet_Read pnum_Back seal_Open frame_Read)).g := by kernel_rfl
theorem ok_73 : E_73.ok Tab.D := entT (entC ok_127 (entC ok_128 (entC ok_56 entN))) (by kernel_rfl) (by kernel_rfl) (by kernel_rfl) (eq_73 pnum_Back seal_Open frame_Read)
/-! packet_Room -/
abbrev T_75 := Int → Int → H → Option ((Int) × H)
abbrev V_75 (f : T_75) : Ent := ⟨75, [eI_, eI_], [eI_], fun (x : Int × Int) h => f x.1 x.2 h⟩
def P.packet_Room (pnum_Bytes : T_125) (num : Int) (acked : Int) (h : H) : Option (Int × H) :=
 bind2 (pnum_Bytes num acked h) fun x0 h0 =>
 some ((IntKind.wrap .i64 ((IntKind.wrap .i64 (239 - x0)) - 8)), h0)
def packet_Room : Int → Int → H → Option ((Int) × H) := P.packet_Room pnum_Bytes
def ann_75 : Ann := ⟨fun _ => none, fun _ => none, fun _ => none⟩
def E_75 : Ent := V_75 packet_Room
theorem eq_75 (pnum_Bytes : T_125) : runE [V_125 pnum_Bytes] ann_75 Try.f75 (V_75 (P.packet_Room pnum_Bytes)) = (V_75 (P.packet_Room pnum_Bytes)).g := by kernel_rfl
theorem ok_75 : E_75.ok Tab.D := entT (entC ok_125 entN) (by kernel_rfl) (by kernel_rfl) (by kernel_rfl) (eq_75 pnum_Bytes)
/-! law6_known -/
abbrev T_74 := H → Option ((Bool) × H)
abbrev V_74 (f : T_74) : Ent := ⟨74, [], [eB_], fun (x : Unit) h => f h⟩
def P.law6_known (packet_Lay : T_72) (packet_Read : T_73) (packet_Room : T_75)  (h : H) : Option (Bool × H) :=
 newO (row 33 [(.int .i64 1), (.int .i64 0), (.int .i64 0), (.int .i64 0), (.int .i64 0), (.int .i64 0), (.bool false), (.slice none 0 0), (.slice none 0 0)]) h fun b h0 =>
 bind2 (packet_Lay 7 3 2 (⟨(some (⟨b, 0, some 0⟩ : Addr)), 1, 1⟩ : Sl) h0) fun ((x0, x1) : Sl × Int) (h1 : H) =>
 bind2 (packet_Read 7 3 x0 h1) fun ((x2, x3, x4) : Int × Sl × Int) (h2 : H) =>
 bind2 (packet_Room 0 (-1) h2) fun x5 h3 =>
 condK (x5 == 230) (
 condK (x1 == 0) (
 condK (((x0.len : Nat) : Int) == 11) (
 bindO (ixT 1 x0 0) fun a0 =>
 bindO (ldI .u8 h3 a0) fun x6 =>
 condK (x6 == 64) (
 bindO (ixT 1 x0 1) fun a1 =>
 bindO (ldI .u8 h3 a1) fun x7 =>
 condK (x7 == 3) (
 condK (x4 == 0) (
 condK (x2 == 3) (
 some ((((x3.len : Nat) : Int) == 1), h3)) (
 some (false, h3))) (
 some (false, h3))) (
 some (false, h3))) (
 some (false, h3))) (
 some (false, h3))) (
 some (false, h3))) (
 some (false, h3))
def law6_known : H → Option ((Bool) × H) := P.law6_known packet_Lay packet_Read packet_Room
def ann_74 : Ann := ⟨fun _ => none, fun _ => none, fun _ => none⟩
def E_74 : Ent := V_74 law6_known
theorem eq_74 (packet_Lay : T_72) (packet_Read : T_73) (packet_Room : T_75) : runE [V_72 packet_Lay, V_73 packet_Read, V_75 packet_Room] ann_74 Try.f74 (V_74 (P.law6_known packet_Lay packet_Read packet_Room)) = (V_74 (P.law6_known packet_Lay packet_Read packet_Room)).g := by kernel_rfl
theorem ok_74 : E_74.ok Tab.D := entT (entC ok_72 (entC ok_73 (entC ok_75 entN))) (by kernel_rfl) (by kernel_rfl) (by kernel_rfl) (eq_74 packet_Lay packet_Read packet_Room)
/-! hand_Frames -/
abbrev T_76 := Sl → Int → H → Option ((Sl) × H)
abbrev V_76 (f : T_76) : Ent := ⟨76, [eL_, eI_], [eL_], fun (x : Sl × Int) h => f x.1 x.2 h⟩
def P.hand_Frames_l1 (hand_Frame : T_108) : ((Sl × (Int × (Sl × Int))) × H) → Option (((Sl × (Int × (Sl × Int))) × H) ⊕ ((Sl × H) ⊕ (Sl × H))) := fun ((l, (n, (out, i))), h0) =>
 joinO (
 condK (decide ((i < ((l.len : Nat) : Int)))) (
 some (inl ((l, (n, (out, (i, (decide ((i < n))))))), h0))) (
 some (inl ((l, (n, (out, (i, false)))), h0)))) fun (((l1, (n1, (out1, (i1, x0)))), h1) : ((Sl × (Int × (Sl × (Int × Bool)))) × H)) =>
 condK x0 (
 bindO (ixT 9 l1 i1) fun a0 =>
 bindO (ldZ j9 h1 a0) fun ((x1, x2, x3, x4, x5, x6, x7, x8, x9) : J9) =>
 bind2 (hand_Frame (x1, x2, x3, x4, x5, x6, x7, x8, x9) h1) fun ((x10, x11, x12, x13, x14, x15, x16, x17, x18) : J9) (h2 : H) =>
 newO (row 33 [(.int .i64 x10), (.int .i64 x11), (.int .i64 x12), (.int .i64 x13), (.int .i64 x14), (.int .i64 x15), (.bool x16), (.slice x17.base x17.len x17.cap), (.slice x18.base x18.len x18.cap)]) h2 fun b h3 =>
 bind2 (appT 33 9 104 h3 out1 (⟨(some (⟨b, 0, some 0⟩ : Addr)), 1, 1⟩ : Sl)) fun x19 h4 =>
 some (inl ((l1, (n1, (x19, (IntKind.wrap .i64 (i1 + 1))))), h4))) (
 some (inr (inl (out1, h1))))

def P.hand_Frames (hand_Frame : T_108) (l : Sl) (n : Int) (h : H) : Option (Sl × H) :=
 joinO (
 loopO (P.hand_Frames_l1 hand_Frame) ((l, (n, ((⟨none, 0, 0⟩ : Sl), 0))), h)) fun ((out, h0) : (Sl × H)) =>
 some (out, h0)
abbrev hand_Frames_l1 := P.hand_Frames_l1 hand_Frame
def hand_Frames : Sl → Int → H → Option ((Sl) × H) := P.hand_Frames hand_Frame
def ann_76 : Ann := ⟨fun i => bif i.beq 6 then some ⟨[5], [eL_]⟩ else none, fun i => bif i.beq 3 then some ⟨[0, 1, 5, 6], [eL_, eI_, eL_, eI_]⟩ else none, fun i => bif i.beq 3 then some ⟨[0, 1, 5, 6, 15], [eL_, eI_, eL_, eI_, eB_]⟩ else none⟩
def E_76 : Ent := V_76 hand_Frames
theorem eq_76 (hand_Frame : T_108) : runE [V_108 hand_Frame] ann_76 Try.f76 (V_76 (P.hand_Frames hand_Frame)) = (V_76 (P.hand_Frames hand_Frame)).g := by kernel_rfl
theorem ok_76 : E_76.ok Tab.D := entT (entC ok_108 entN) (by kernel_rfl) (by kernel_rfl) (by kernel_rfl) (eq_76 hand_Frame)
/-! ref1_names -/
abbrev T_177 := Int → H → Option (((Bool × Bool × Bool × Bool × Bool × Bool × Bool)) × H)
abbrev V_177 (f : T_177) : Ent := ⟨177, [eI_], [⟨true, [.bool, .bool, .bool, .bool, .bool, .bool, .bool]⟩], fun (x : Int) h => f x h⟩
def ref1_names (kind : Int) (h : H) : Option ((Bool × Bool × Bool × Bool × Bool × Bool × Bool) × H) :=
 newO (row 179 [(.bool false), (.bool false), (.bool false), (.bool false), (.bool false), (.bool false), (.bool false)]) h fun b h0 =>
 joinO (
 condK (kind == 2) (
 bindO (ixAT 7 1 (⟨b, 0, some 0⟩ : Addr) 6) fun a0 =>
 bindO (st1 h0 a0 (.bool true)) fun h1 =>
 some (inl ((some (⟨b, 0, some 0⟩ : Addr)), h1))) (
 condK (kind == 3) (
 bindO (ixAT 7 1 (⟨b, 0, some 0⟩ : Addr) 0) fun a1 =>
 bindO (st1 h0 a1 (.bool true)) fun h2 =>
 bindO (ixAT 7 1 (⟨b, 0, some 0⟩ : Addr) 1) fun a2 =>
 bindO (st1 h2 a2 (.bool true)) fun h3 =>
 bindO (ixAT 7 1 (⟨b, 0, some 0⟩ : Addr) 4) fun a3 =>
 bindO (st1 h3 a3 (.bool true)) fun h4 =>
 bindO (ixAT 7 1 (⟨b, 0, some 0⟩ : Addr) 5) fun a4 =>
 bindO (st1 h4 a4 (.bool true)) fun h5 =>
 some (inl ((some (⟨b, 0, some 0⟩ : Addr)), h5))) (
 condK (kind == 4) (
 bindO (ixAT 7 1 (⟨b, 0, some 0⟩ : Addr) 0) fun a5 =>
 bindO (st1 h0 a5 (.bool true)) fun h6 =>
 bindO (ixAT 7 1 (⟨b, 0, some 0⟩ : Addr) 1) fun a6 =>
 bindO (st1 h6 a6 (.bool true)) fun h7 =>
 bindO (ixAT 7 1 (⟨b, 0, some 0⟩ : Addr) 2) fun a7 =>
 bindO (st1 h7 a7 (.bool true)) fun h8 =>
 bindO (ixAT 7 1 (⟨b, 0, some 0⟩ : Addr) 3) fun a8 =>
 bindO (st1 h8 a8 (.bool true)) fun h9 =>
 some (inl ((some (⟨b, 0, some 0⟩ : Addr)), h9))) (
 condK (kind == 5) (
 condK (kind == 5) (
 bindO (ixAT 7 1 (⟨b, 0, some 0⟩ : Addr) 0) fun a9 =>
 bindO (st1 h0 a9 (.bool true)) fun h10 =>
 bindO (ixAT 7 1 (⟨b, 0, some 0⟩ : Addr) 2) fun a10 =>
 bindO (st1 h10 a10 (.bool true)) fun h11 =>
 some (inl ((some (⟨b, 0, some 0⟩ : Addr)), h11))) (
 condK (kind == 6) (
 condK (kind == 6) (
 bindO (ixAT 7 1 (⟨b, 0, some 0⟩ : Addr) 2) fun a11 =>
 bindO (st1 h0 a11 (.bool true)) fun h12 =>
 some (inl ((some (⟨b, 0, some 0⟩ : Addr)), h12))) (
 condK (kind == 8) (
 bindO (ixAT 7 1 (⟨b, 0, some 0⟩ : Addr) 2) fun a12 =>
 bindO (st1 h0 a12 (.bool true)) fun h13 =>
 bindO (ixAT 7 1 (⟨b, 0, some 0⟩ : Addr) 4) fun a13 =>
 bindO (st1 h13 a13 (.bool true)) fun h14 =>
 some (inl ((some (⟨b, 0, some 0⟩ : Addr)), h14))) (
 condK (kind == 9) (
 bindO (ixAT 7 1 (⟨b, 0, some 0⟩ : Addr) 5) fun a14 =>
 bindO (st1 h0 a14 (.bool true)) fun h15 =>
 some (inl ((some (⟨b, 0, some 0⟩ : Addr)), h15))) (
 condK (kind == 10) (
 condK (kind == 10) (
 bindO (ixAT 7 1 (⟨b, 0, some 0⟩ : Addr) 0) fun a15 =>
 bindO (st1 h0 a15 (.bool true)) fun h16 =>
 some (inl ((some (⟨b, 0, some 0⟩ : Addr)), h16))) (
 some (inl ((some (⟨b, 0, some 0⟩ : Addr)), h0)))) (
 condK (kind == 11) (
 bindO (ixAT 7 1 (⟨b, 0, some 0⟩ : Addr) 0) fun a16 =>
 bindO (st1 h0 a16 (.bool true)) fun h17 =>
 some (inl ((some (⟨b, 0, some 0⟩ : Addr)), h17))) (
 some (inl ((some (⟨b, 0, some 0⟩ : Addr)), h0)))))))) (
 condK (kind == 12) (
 bindO (ixAT 7 1 (⟨b, 0, some 0⟩ : Addr) 2) fun a17 =>
 bindO (st1 h0 a17 (.bool true)) fun h18 =>
 some (inl ((some (⟨b, 0, some 0⟩ : Addr)), h18))) (
 condK (kind == 8) (
 bindO (ixAT 7 1 (⟨b, 0, some 0⟩ : Addr) 2) fun a18 =>
 bindO (st1 h0 a18 (.bool true)) fun h19 =>
 bindO (ixAT 7 1 (⟨b, 0, some 0⟩ : Addr) 4) fun a19 =>
 bindO (st1 h19 a19 (.bool true)) fun h20 =>
 some (inl ((some (⟨b, 0, some 0⟩ : Addr)), h20))) (
 condK (kind == 9) (
 bindO (ixAT 7 1 (⟨b, 0, some 0⟩ : Addr) 5) fun a20 =>
 bindO (st1 h0 a20 (.bool true)) fun h21 =>
 some (inl ((some (⟨b, 0, some 0⟩ : Addr)), h21))) (
 condK (kind == 10) (
 condK (kind == 10) (
 bindO (ixAT 7 1 (⟨b, 0, some 0⟩ : Addr) 0) fun a21 =>
 bindO (st1 h0 a21 (.bool true)) fun h22 =>
 some (inl ((some (⟨b, 0, some 0⟩ : Addr)), h22))) (
 some (inl ((some (⟨b, 0, some 0⟩ : Addr)), h0)))) (
 condK (kind == 11) (
 bindO (ixAT 7 1 (⟨b, 0, some 0⟩ : Addr) 0) fun a22 =>
 bindO (st1 h0 a22 (.bool true)) fun h23 =>
 some (inl ((some (⟨b, 0, some 0⟩ : Addr)), h23))) (
 some (inl ((some (⟨b, 0, some 0⟩ : Addr)), h0)))))))))) (
 condK (kind == 7) (
 bindO (ixAT 7 1 (⟨b, 0, some 0⟩ : Addr) 0) fun a23 =>
 bindO (st1 h0 a23 (.bool true)) fun h24 =>
 bindO (ixAT 7 1 (⟨b, 0, some 0⟩ : Addr) 2) fun a24 =>
 bindO (st1 h24 a24 (.bool true)) fun h25 =>
 some (inl ((some (⟨b, 0, some 0⟩ : Addr)), h25))) (
 condK (kind == 6) (
 condK (kind == 6) (
 bindO (ixAT 7 1 (⟨b, 0, some 0⟩ : Addr) 2) fun a25 =>
 bindO (st1 h0 a25 (.bool true)) fun h26 =>
 some (inl ((some (⟨b, 0, some 0⟩ : Addr)), h26))) (
 condK (kind == 8) (
 bindO (ixAT 7 1 (⟨b, 0, some 0⟩ : Addr) 2) fun a26 =>
 bindO (st1 h0 a26 (.bool true)) fun h27 =>
 bindO (ixAT 7 1 (⟨b, 0, some 0⟩ : Addr) 4) fun a27 =>
 bindO (st1 h27 a27 (.bool true)) fun h28 =>
 some (inl ((some (⟨b, 0, some 0⟩ : Addr)), h28))) (
 condK (kind == 9) (
 bindO (ixAT 7 1 (⟨b, 0, some 0⟩ : Addr) 5) fun a28 =>
 bindO (st1 h0 a28 (.bool true)) fun h29 =>
 some (inl ((some (⟨b, 0, some 0⟩ : Addr)), h29))) (
 condK (kind == 10) (
 condK (kind == 10) (
 bindO (ixAT 7 1 (⟨b, 0, some 0⟩ : Addr) 0) fun a29 =>
 bindO (st1 h0 a29 (.bool true)) fun h30 =>
 some (inl ((some (⟨b, 0, some 0⟩ : Addr)), h30))) (
 some (inl ((some (⟨b, 0, some 0⟩ : Addr)), h0)))) (
 condK (kind == 11) (
 bindO (ixAT 7 1 (⟨b, 0, some 0⟩ : Addr) 0) fun a30 =>
 bindO (st1 h0 a30 (.bool true)) fun h31 =>
 some (inl ((some (⟨b, 0, some 0⟩ : Addr)), h31))) (
 some (inl ((some (⟨b, 0, some 0⟩ : Addr)), h0)))))))) (
 condK (kind == 12) (
 bindO (ixAT 7 1 (⟨b, 0, some 0⟩ : Addr) 2) fun a31 =>
 bindO (st1 h0 a31 (.bool true)) fun h32 =>
 some (inl ((some (⟨b, 0, some 0⟩ : Addr)), h32))) (
 condK (kind == 8) (
 bindO (ixAT 7 1 (⟨b, 0, some 0⟩ : Addr) 2) fun a32 =>
 bindO (st1 h0 a32 (.bool true)) fun h33 =>
 bindO (ixAT 7 1 (⟨b, 0, some 0⟩ : Addr) 4) fun a33 =>
 bindO (st1 h33 a33 (.bool true)) fun h34 =>
 some (inl ((some (⟨b, 0, some 0⟩ : Addr)), h34))) (
 condK (kind == 9) (
 bindO (ixAT 7 1 (⟨b, 0, some 0⟩ : Addr) 5) fun a34 =>
 bindO (st1 h0 a34 (.bool true)) fun h35 =>
 some (inl ((some (⟨b, 0, some 0⟩ : Addr)), h35))) (
 condK (kind == 10) (
 condK (kind == 10) (
 bindO (ixAT 7 1 (⟨b, 0, some 0⟩ : Addr) 0) fun a35 =>
 bindO (st1 h0 a35 (.bool true)) fun h36 =>
 some (inl ((some (⟨b, 0, some 0⟩ : Addr)), h36))) (
 some (inl ((some (⟨b, 0, some 0⟩ : Addr)), h0)))) (
 condK (kind == 11) (
 bindO (ixAT 7 1 (⟨b, 0, some 0⟩ : Addr) 0) fun a36 =>
 bindO (st1 h0 a36 (.bool true)) fun h37 =>
 some (inl ((some (⟨b, 0, some 0⟩ : Addr)), h37))) (
 some (inl ((some (⟨b, 0, some 0⟩ : Addr)), h0)))))))))))))) fun ((l, h1) : ((Option Addr) × H)) =>
 ptrK l fun a0 =>
 bindO (ldZ [.bool, .bool, .bool, .bool, .bool, .bool, .bool] h1 a0) fun ((x0, x1, x2, x3, x4, x5, x6) : Bool × Bool × Bool × Bool × Bool × Bool × Bool) =>
 ptrK l fun a1 =>
 bindO (stZ [.bool, .bool, .bool, .bool, .bool, .bool, .bool] h1 a1 ((x0, x1, x2, x3, x4, x5, x6) : Bool × Bool × Bool × Bool × Bool × Bool × Bool)) fun h2 =>
 ptrK l fun a2 =>
 bindO (ldZ [.bool, .bool, .bool, .bool, .bool, .bool, .bool] h2 a2) fun ((x7, x8, x9, x10, x11, x12, x13) : Bool × Bool × Bool × Bool × Bool × Bool × Bool) =>
 some ((x7, (x8, (x9, (x10, (x11, (x12, x13)))))), h2)
def ann_177 : Ann := ⟨fun i => bif i.beq 29 then some ⟨[2], [eP_]⟩ else none, fun _ => none, fun _ => none⟩
def E_177 : Ent := V_177 ref1_names
theorem eq_177 : runE [] ann_177 Try.f177 (V_177 ref1_names) = (V_177 ref1_names).g := by kernel_rfl
theorem ok_177 : E_177.ok Tab.D := entT entN (by kernel_rfl) (by kernel_rfl) (by kernel_rfl) eq_177
/-! ref1_rightSpans -/
abbrev T_178 := Sl → H → Option ((Bool) × H)
abbrev V_178 (f : T_178) : Ent := ⟨178, [eL_], [eB_], fun (x : Sl) h => f x h⟩
def P.ref1_rightSpans_l1 (ref1_May : T_103) : ((Sl × Int) × H) → Option (((Sl × Int) × H) ⊕ (Bool × H)) := fun ((l, i), h0) =>
 condK (decide ((i < ((l.len : Nat) : Int)))) (
 joinO (
 bindO (ixT 2 l i) fun a0 =>
 bindO (ixAT 2 1 a0 0) fun a1 =>
 bindO (ldI .i64 h0 a1) fun x0 =>
 bind2 (ref1_May x0 h0) fun x1 h1 =>
 condK (!x1) (
 some (inl ((l, (i, true)), h1))) (
 bindO (ixT 2 l i) fun a2 =>
 bindO (ixAT 2 1 a2 1) fun a3 =>
 bindO (ldI .i64 h1 a3) fun x2 =>
 bind2 (ref1_May x2 h1) fun x3 h2 =>
 condK (!x3) (
 some (inl ((l, (i, true)), h2))) (
 bindO (ixT 2 l i) fun a4 =>
 bindO (ixAT 2 1 a4 0) fun a5 =>
 bindO (ldI .i64 h2 a5) fun x4 =>
 bindO (ixT 2 l i) fun a6 =>
 bindO (ixAT 2 1 a6 1) fun a7 =>
 bindO (ldI .i64 h2 a7) fun x5 =>
 condK (decide ((x4 > x5))) (
 some (inl ((l, (i, true)), h2))) (
 condK (decide ((i > 0))) (
 bindO (ixT 2 l (IntKind.wrap .i64 (i - 1))) fun a8 =>
 bindO (ixAT 2 1 a8 0) fun a9 =>
 bindO (ldI .i64 h2 a9) fun x6 =>
 bindO (ixT 2 l i) fun a10 =>
 bindO (ixAT 2 1 a10 1) fun a11 =>
 bindO (ldI .i64 h2 a11) fun x7 =>
 some (inl ((l, (i, (decide (((IntKind.wrap .i64 (x6 - x7)) < 2))))), h2))) (
 some (inl ((l, (i, false)), h2))))))) fun (((l1, (i1, x0)), h1) : ((Sl × (Int × Bool)) × H)) =>
 condK x0 (
 some (inr (false, h1))) (
 some (inl ((l1, (IntKind.wrap .i64 (i1 + 1))), h1)))) (
 some (inr (true, h0)))

def P.ref1_rightSpans (ref1_May : T_103) (l : Sl) (h : H) : Option (Bool × H) :=
 joinO (
 condK (decide ((((l.len : Nat) : Int) < 1))) (
 some (inl ((l, true), h))) (
 some (inl ((l, (decide ((((l.len : Nat) : Int) > 8)))), h)))) fun (((l1, x0), h0) : ((Sl × Bool) × H)) =>
 condK x0 (
 some (false, h0)) (
 loopO (P.ref1_rightSpans_l1 ref1_May) ((l1, 0), h0))
abbrev ref1_rightSpans_l1 := P.ref1_rightSpans_l1 ref1_May
def ref1_rightSpans : Sl → H → Option ((Bool) × H) := P.ref1_rightSpans ref1_May
def ann_178 : Ann := ⟨fun _ => none, fun i => bif i.beq 4 then some ⟨[0, 3], [eL_, eI_]⟩ else none, fun i => bif i.beq 1 then some ⟨[0, 11], [eL_, eB_]⟩ else bif i.beq 6 then some ⟨[0, 3, 65], [eL_, eI_, eB_]⟩ else none⟩
def E_178 : Ent := V_178 ref1_rightSpans
theorem eq_178 (ref1_May : T_103) : runE [V_103 ref1_May] ann_178 Try.f178 (V_178 (P.ref1_rightSpans ref1_May)) = (V_178 (P.ref1_rightSpans ref1_May)).g := by kernel_rfl
theorem ok_178 : E_178.ok Tab.D := entT (entC ok_103 entN) (by kernel_rfl) (by kernel_rfl) (by kernel_rfl) (eq_178 ref1_May)
end
end Go.Proofs.Ythiccnmplgdheaa.T
