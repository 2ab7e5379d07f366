/- The typed texts of the program's functions, printed by a program of this session (wip/KPrint.lean) out of the machine's own definitions; each is the machine's own run, by the kernel's reduction. -/
import Derived.Test.YthiccnmplgdheaaTxt0
import Derived.Test.YthiccnmplgdheaaAbsF
import Derived.Test.YthiccnmplgdheaaTab
import Derived.KernelRfl
set_option linter.unusedVariables false
set_option maxRecDepth 1000000
namespace Go.Proofs.Ythiccnmplgdheaa.T
open Go Go.Abs Go.Proofs
open Sum (inl inr)
noncomputable section
/-! ref1_RightFrame -/
abbrev T_140 := (J9) → H → Option ((Bool) × H)
abbrev V_140 (f : T_140) : Ent := ⟨140, [⟨true, j9⟩], [eB_], fun (x : (J9)) h => f x h⟩
def P.ref1_RightFrame (ref1_May : T_103) (ref1_names : T_177) (ref1_rightSpans : T_178) (f : J9) (h : H) : Option (Bool × H) :=
 newO (row 33 [(.int .i64 f.1), (.int .i64 f.2.1), (.int .i64 f.2.2.1), (.int .i64 f.2.2.2.1), (.int .i64 f.2.2.2.2.1), (.int .i64 f.2.2.2.2.2.1), (.bool f.2.2.2.2.2.2.1), (.slice f.2.2.2.2.2.2.2.1.base f.2.2.2.2.2.2.2.1.len f.2.2.2.2.2.2.2.1.cap), (.slice f.2.2.2.2.2.2.2.2.base f.2.2.2.2.2.2.2.2.len f.2.2.2.2.2.2.2.2.cap)]) h fun b h0 =>
 joinO (
 bindO (ldI .i64 h0 (add (⟨b, 0, some 0⟩ : Addr) 0)) fun x0 =>
 condK (decide ((x0 < 1))) (
 some (inl (((some (⟨b, 0, some 0⟩ : Addr)), true), h0))) (
 bindO (ldI .i64 h0 (add (⟨b, 0, some 0⟩ : Addr) 0)) fun x1 =>
 condK (decide ((x1 > 12))) (
 some (inl (((some (⟨b, 0, some 0⟩ : Addr)), true), h0))) (
 bindO (ldI .i64 h0 (add (⟨b, 0, some 0⟩ : Addr) 1)) fun x2 =>
 bind2 (ref1_May x2 h0) fun x3 h1 =>
 condK (!x3) (
 some (inl (((some (⟨b, 0, some 0⟩ : Addr)), true), h1))) (
 bindO (ldI .i64 h1 (add (⟨b, 0, some 0⟩ : Addr) 2)) fun x4 =>
 bind2 (ref1_May x4 h1) fun x5 h2 =>
 condK (!x5) (
 some (inl (((some (⟨b, 0, some 0⟩ : Addr)), true), h2))) (
 bindO (ldI .i64 h2 (add (⟨b, 0, some 0⟩ : Addr) 3)) fun x6 =>
 bind2 (ref1_May x6 h2) fun x7 h3 =>
 condK (!x7) (
 some (inl (((some (⟨b, 0, some 0⟩ : Addr)), true), h3))) (
 bindO (ldI .i64 h3 (add (⟨b, 0, some 0⟩ : Addr) 4)) fun x8 =>
 bind2 (ref1_May x8 h3) fun x9 h4 =>
 condK (!x9) (
 some (inl (((some (⟨b, 0, some 0⟩ : Addr)), true), h4))) (
 bindO (ldL h4 (add (⟨b, 0, some 0⟩ : Addr) 7)) fun x10 =>
 some (inl (((some (⟨b, 0, some 0⟩ : Addr)), (decide ((((x10.len : Nat) : Int) > 120)))), h4))))))))) fun (((f1, x0), h1) : (((Option Addr) × Bool) × H)) =>
 condK x0 (
 some (false, h1)) (
 ptrK f1 fun a0 =>
 bindO (ldI .i64 h1 (add a0 0)) fun x1 =>
 bind2 (ref1_names x1 h1) fun ((x2, x3, x4, x5, x6, x7, x8) : Bool × Bool × Bool × Bool × Bool × Bool × Bool) (h2 : H) =>
 newO (row 179 [(.bool false), (.bool false), (.bool false), (.bool false), (.bool false), (.bool false), (.bool false)]) h2 fun b1 h3 =>
 bindO (stZ [.bool, .bool, .bool, .bool, .bool, .bool, .bool] h3 (⟨b1, 0, some 0⟩ : Addr) ((x2, x3, x4, x5, x6, x7, x8) : Bool × Bool × Bool × Bool × Bool × Bool × Bool)) fun h4 =>
 joinO (
 bindO (ixAT 7 1 (⟨b1, 0, some 0⟩ : Addr) 0) fun a1 =>
 bindO (ldB h4 a1) fun x9 =>
 condK (!x9) (
 ptrK f1 fun a2 =>
 bindO (ldI .i64 h4 (add a2 1)) fun x10 =>
 condK (x10 != 0) (
 some (inl ((f1, true), h4))) (
 bindO (ixAT 7 1 (⟨b1, 0, some 0⟩ : Addr) 1) fun a3 =>
 bindO (ldB h4 a3) fun x11 =>
 condK (!x11) (
 ptrK f1 fun a4 =>
 bindO (ldI .i64 h4 (add a4 2)) fun x12 =>
 condK (x12 != 0) (
 some (inl ((f1, true), h4))) (
 bindO (ixAT 7 1 (⟨b1, 0, some 0⟩ : Addr) 2) fun a5 =>
 bindO (ldB h4 a5) fun x13 =>
 condK (!x13) (
 ptrK f1 fun a6 =>
 bindO (ldI .i64 h4 (add a6 3)) fun x14 =>
 condK (x14 != 0) (
 some (inl ((f1, true), h4))) (
 bindO (ixAT 7 1 (⟨b1, 0, some 0⟩ : Addr) 3) fun a7 =>
 bindO (ldB h4 a7) fun x15 =>
 condK (!x15) (
 ptrK f1 fun a8 =>
 bindO (ldI .i64 h4 (add a8 4)) fun x16 =>
 condK (x16 != 0) (
 some (inl ((f1, true), h4))) (
 bindO (ixAT 7 1 (⟨b1, 0, some 0⟩ : Addr) 4) fun a9 =>
 bindO (ldB h4 a9) fun x17 =>
 condK (!x17) (
 ptrK f1 fun a10 =>
 bindO (ldB h4 (add a10 6)) fun x18 =>
 condK x18 (
 some (inl ((f1, true), h4))) (
 bindO (ixAT 7 1 (⟨b1, 0, some 0⟩ : Addr) 5) fun a11 =>
 bindO (ldB h4 a11) fun x19 =>
 condK (!x19) (
 ptrK f1 fun a12 =>
 bindO (ldL h4 (add a12 7)) fun x20 =>
 condK (decide ((((x20.len : Nat) : Int) > 0))) (
 some (inl ((f1, true), h4))) (
 bindO (ixAT 7 1 (⟨b1, 0, some 0⟩ : Addr) 6) fun a13 =>
 bindO (ldB h4 a13) fun x21 =>
 condK (!x21) (
 ptrK f1 fun a14 =>
 bindO (ldL h4 (add a14 8)) fun x22 =>
 some (inl ((f1, (decide ((((x22.len : Nat) : Int) > 0)))), h4))) (
 some (inl ((f1, false), h4))))) (
 bindO (ixAT 7 1 (⟨b1, 0, some 0⟩ : Addr) 6) fun a15 =>
 bindO (ldB h4 a15) fun x23 =>
 condK (!x23) (
 ptrK f1 fun a16 =>
 bindO (ldL h4 (add a16 8)) fun x24 =>
 some (inl ((f1, (decide ((((x24.len : Nat) : Int) > 0)))), h4))) (
 some (inl ((f1, false), h4)))))) (
 bindO (ixAT 7 1 (⟨b1, 0, some 0⟩ : Addr) 5) fun a17 =>
 bindO (ldB h4 a17) fun x25 =>
 condK (!x25) (
 ptrK f1 fun a18 =>
 bindO (ldL h4 (add a18 7)) fun x26 =>
 condK (decide ((((x26.len : Nat) : Int) > 0))) (
 some (inl ((f1, true), h4))) (
 bindO (ixAT 7 1 (⟨b1, 0, some 0⟩ : Addr) 6) fun a19 =>
 bindO (ldB h4 a19) fun x27 =>
 condK (!x27) (
 ptrK f1 fun a20 =>
 bindO (ldL h4 (add a20 8)) fun x28 =>
 some (inl ((f1, (decide ((((x28.len : Nat) : Int) > 0)))), h4))) (
 some (inl ((f1, false), h4))))) (
 bindO (ixAT 7 1 (⟨b1, 0, some 0⟩ : Addr) 6) fun a21 =>
 bindO (ldB h4 a21) fun x29 =>
 condK (!x29) (
 ptrK f1 fun a22 =>
 bindO (ldL h4 (add a22 8)) fun x30 =>
 some (inl ((f1, (decide ((((x30.len : Nat) : Int) > 0)))), h4))) (
 some (inl ((f1, false), h4))))))) (
 bindO (ixAT 7 1 (⟨b1, 0, some 0⟩ : Addr) 4) fun a23 =>
 bindO (ldB h4 a23) fun x31 =>
 condK (!x31) (
 ptrK f1 fun a24 =>
 bindO (ldB h4 (add a24 6)) fun x32 =>
 condK x32 (
 some (inl ((f1, true), h4))) (
 bindO (ixAT 7 1 (⟨b1, 0, some 0⟩ : Addr) 5) fun a25 =>
 bindO (ldB h4 a25) fun x33 =>
 condK (!x33) (
 ptrK f1 fun a26 =>
 bindO (ldL h4 (add a26 7)) fun x34 =>
 condK (decide ((((x34.len : Nat) : Int) > 0))) (
 some (inl ((f1, true), h4))) (
 bindO (ixAT 7 1 (⟨b1, 0, some 0⟩ : Addr) 6) fun a27 =>
 bindO (ldB h4 a27) fun x35 =>
 condK (!x35) (
 ptrK f1 fun a28 =>
 bindO (ldL h4 (add a28 8)) fun x36 =>
 some (inl ((f1, (decide ((((x36.len : Nat) : Int) > 0)))), h4))) (
 some (inl ((f1, false), h4))))) (
 bindO (ixAT 7 1 (⟨b1, 0, some 0⟩ : Addr) 6) fun a29 =>
 bindO (ldB h4 a29) fun x37 =>
 condK (!x37) (
 ptrK f1 fun a30 =>
 bindO (ldL h4 (add a30 8)) fun x38 =>
 some (inl ((f1, (decide ((((x38.len : Nat) : Int) > 0)))), h4))) (
 some (inl ((f1, false), h4)))))) (
 bindO (ixAT 7 1 (⟨b1, 0, some 0⟩ : Addr) 5) fun a31 =>
 bindO (ldB h4 a31) fun x39 =>
 condK (!x39) (
 ptrK f1 fun a32 =>
 bindO (ldL h4 (add a32 7)) fun x40 =>
 condK (decide ((((x40.len : Nat) : Int) > 0))) (
 some (inl ((f1, true), h4))) (
 bindO (ixAT 7 1 (⟨b1, 0, some 0⟩ : Addr) 6) fun a33 =>
 bindO (ldB h4 a33) fun x41 =>
 condK (!x41) (
 ptrK f1 fun a34 =>
 bindO (ldL h4 (add a34 8)) fun x42 =>
 some (inl ((f1, (decide ((((x42.len : Nat) : Int) > 0)))), h4))) (
 some (inl ((f1, false), h4))))) (
 bindO (ixAT 7 1 (⟨b1, 0, some 0⟩ : Addr) 6) fun a35 =>
 bindO (ldB h4 a35) fun x43 =>
 condK (!x43) (
 ptrK f1 fun a36 =>
 bindO (ldL h4 (add a36 8)) fun x44 =>
 some (inl ((f1, (decide ((((x44.len : Nat) : Int) > 0)))), h4))) (
 some (inl ((f1, false), h4)))))))) (
 bindO (ixAT 7 1 (⟨b1, 0, some 0⟩ : Addr) 3) fun a37 =>
 bindO (ldB h4 a37) fun x45 =>
 condK (!x45) (
 ptrK f1 fun a38 =>
 bindO (ldI .i64 h4 (add a38 4)) fun x46 =>
 condK (x46 != 0) (
 some (inl ((f1, true), h4))) (
 bindO (ixAT 7 1 (⟨b1, 0, some 0⟩ : Addr) 4) fun a39 =>
 bindO (ldB h4 a39) fun x47 =>
 condK (!x47) (
 ptrK f1 fun a40 =>
 bindO (ldB h4 (add a40 6)) fun x48 =>
 condK x48 (
 some (inl ((f1, true), h4))) (
 bindO (ixAT 7 1 (⟨b1, 0, some 0⟩ : Addr) 5) fun a41 =>
 bindO (ldB h4 a41) fun x49 =>
 condK (!x49) (
 ptrK f1 fun a42 =>
 bindO (ldL h4 (add a42 7)) fun x50 =>
 condK (decide ((((x50.len : Nat) : Int) > 0))) (
 some (inl ((f1, true), h4))) (
 bindO (ixAT 7 1 (⟨b1, 0, some 0⟩ : Addr) 6) fun a43 =>
 bindO (ldB h4 a43) fun x51 =>
 condK (!x51) (
 ptrK f1 fun a44 =>
 bindO (ldL h4 (add a44 8)) fun x52 =>
 some (inl ((f1, (decide ((((x52.len : Nat) : Int) > 0)))), h4))) (
 some (inl ((f1, false), h4))))) (
 bindO (ixAT 7 1 (⟨b1, 0, some 0⟩ : Addr) 6) fun a45 =>
 bindO (ldB h4 a45) fun x53 =>
 condK (!x53) (
 ptrK f1 fun a46 =>
 bindO (ldL h4 (add a46 8)) fun x54 =>
 some (inl ((f1, (decide ((((x54.len : Nat) : Int) > 0)))), h4))) (
 some (inl ((f1, false), h4)))))) (
 bindO (ixAT 7 1 (⟨b1, 0, some 0⟩ : Addr) 5) fun a47 =>
 bindO (ldB h4 a47) fun x55 =>
 condK (!x55) (
 ptrK f1 fun a48 =>
 bindO (ldL h4 (add a48 7)) fun x56 =>
 condK (decide ((((x56.len : Nat) : Int) > 0))) (
 some (inl ((f1, true), h4))) (
 bindO (ixAT 7 1 (⟨b1, 0, some 0⟩ : Addr) 6) fun a49 =>
 bindO (ldB h4 a49) fun x57 =>
 condK (!x57) (
 ptrK f1 fun a50 =>
 bindO (ldL h4 (add a50 8)) fun x58 =>
 some (inl ((f1, (decide ((((x58.len : Nat) : Int) > 0)))), h4))) (
 some (inl ((f1, false), h4))))) (
 bindO (ixAT 7 1 (⟨b1, 0, some 0⟩ : Addr) 6) fun a51 =>
 bindO (ldB h4 a51) fun x59 =>
 condK (!x59) (
 ptrK f1 fun a52 =>
 bindO (ldL h4 (add a52 8)) fun x60 =>
 some (inl ((f1, (decide ((((x60.len : Nat) : Int) > 0)))), h4))) (
 some (inl ((f1, false), h4))))))) (
 bindO (ixAT 7 1 (⟨b1, 0, some 0⟩ : Addr) 4) fun a53 =>
 bindO (ldB h4 a53) fun x61 =>
 condK (!x61) (
 ptrK f1 fun a54 =>
 bindO (ldB h4 (add a54 6)) fun x62 =>
 condK x62 (
 some (inl ((f1, true), h4))) (
 bindO (ixAT 7 1 (⟨b1, 0, some 0⟩ : Addr) 5) fun a55 =>
 bindO (ldB h4 a55) fun x63 =>
 condK (!x63) (
 ptrK f1 fun a56 =>
 bindO (ldL h4 (add a56 7)) fun x64 =>
 condK (decide ((((x64.len : Nat) : Int) > 0))) (
 some (inl ((f1, true), h4))) (
 bindO (ixAT 7 1 (⟨b1, 0, some 0⟩ : Addr) 6) fun a57 =>
 bindO (ldB h4 a57) fun x65 =>
 condK (!x65) (
 ptrK f1 fun a58 =>
 bindO (ldL h4 (add a58 8)) fun x66 =>
 some (inl ((f1, (decide ((((x66.len : Nat) : Int) > 0)))), h4))) (
 some (inl ((f1, false), h4))))) (
 bindO (ixAT 7 1 (⟨b1, 0, some 0⟩ : Addr) 6) fun a59 =>
 bindO (ldB h4 a59) fun x67 =>
 condK (!x67) (
 ptrK f1 fun a60 =>
 bindO (ldL h4 (add a60 8)) fun x68 =>
 some (inl ((f1, (decide ((((x68.len : Nat) : Int) > 0)))), h4))) (
 some (inl ((f1, false), h4)))))) (
 bindO (ixAT 7 1 (⟨b1, 0, some 0⟩ : Addr) 5) fun a61 =>
 bindO (ldB h4 a61) fun x69 =>
 condK (!x69) (
 ptrK f1 fun a62 =>
 bindO (ldL h4 (add a62 7)) fun x70 =>
 condK (decide ((((x70.len : Nat) : Int) > 0))) (
 some (inl ((f1, true), h4))) (
 bindO (ixAT 7 1 (⟨b1, 0, some 0⟩ : Addr) 6) fun a63 =>
 bindO (ldB h4 a63) fun x71 =>
 condK (!x71) (
 ptrK f1 fun a64 =>
 bindO (ldL h4 (add a64 8)) fun x72 =>
 some (inl ((f1, (decide ((((x72.len : Nat) : Int) > 0)))), h4))) (
 some (inl ((f1, false), h4))))) (
 bindO (ixAT 7 1 (⟨b1, 0, some 0⟩ : Addr) 6) fun a65 =>
 bindO (ldB h4 a65) fun x73 =>
 condK (!x73) (
 ptrK f1 fun a66 =>
 bindO (ldL h4 (add a66 8)) fun x74 =>
 some (inl ((f1, (decide ((((x74.len : Nat) : Int) > 0)))), h4))) (
 some (inl ((f1, false), h4))))))))) (
 bindO (ixAT 7 1 (⟨b1, 0, some 0⟩ : Addr) 2) fun a67 =>
 bindO (ldB h4 a67) fun x75 =>
 condK (!x75) (
 ptrK f1 fun a68 =>
 bindO (ldI .i64 h4 (add a68 3)) fun x76 =>
 condK (x76 != 0) (
 some (inl ((f1, true), h4))) (
 bindO (ixAT 7 1 (⟨b1, 0, some 0⟩ : Addr) 3) fun a69 =>
 bindO (ldB h4 a69) fun x77 =>
 condK (!x77) (
 ptrK f1 fun a70 =>
 bindO (ldI .i64 h4 (add a70 4)) fun x78 =>
 condK (x78 != 0) (
 some (inl ((f1, true), h4))) (
 bindO (ixAT 7 1 (⟨b1, 0, some 0⟩ : Addr) 4) fun a71 =>
 bindO (ldB h4 a71) fun x79 =>
 condK (!x79) (
 ptrK f1 fun a72 =>
 bindO (ldB h4 (add a72 6)) fun x80 =>
 condK x80 (
 some (inl ((f1, true), h4))) (
 bindO (ixAT 7 1 (⟨b1, 0, some 0⟩ : Addr) 5) fun a73 =>
 bindO (ldB h4 a73) fun x81 =>
 condK (!x81) (
 ptrK f1 fun a74 =>
 bindO (ldL h4 (add a74 7)) fun x82 =>
 condK (decide ((((x82.len : Nat) : Int) > 0))) (
 some (inl ((f1, true), h4))) (
 bindO (ixAT 7 1 (⟨b1, 0, some 0⟩ : Addr) 6) fun a75 =>
 bindO (ldB h4 a75) fun x83 =>
 condK (!x83) (
 ptrK f1 fun a76 =>
 bindO (ldL h4 (add a76 8)) fun x84 =>
 some (inl ((f1, (decide ((((x84.len : Nat) : Int) > 0)))), h4))) (
 some (inl ((f1, false), h4))))) (
 bindO (ixAT 7 1 (⟨b1, 0, some 0⟩ : Addr) 6) fun a77 =>
 bindO (ldB h4 a77) fun x85 =>
 condK (!x85) (
 ptrK f1 fun a78 =>
 bindO (ldL h4 (add a78 8)) fun x86 =>
 some (inl ((f1, (decide ((((x86.len : Nat) : Int) > 0)))), h4))) (
 some (inl ((f1, false), h4)))))) (
 bindO (ixAT 7 1 (⟨b1, 0, some 0⟩ : Addr) 5) fun a79 =>
 bindO (ldB h4 a79) fun x87 =>
 condK (!x87) (
 ptrK f1 fun a80 =>
 bindO (ldL h4 (add a80 7)) fun x88 =>
 condK (decide ((((x88.len : Nat) : Int) > 0))) (
 some (inl ((f1, true), h4))) (
 bindO (ixAT 7 1 (⟨b1, 0, some 0⟩ : Addr) 6) fun a81 =>
 bindO (ldB h4 a81) fun x89 =>
 condK (!x89) (
 ptrK f1 fun a82 =>
 bindO (ldL h4 (add a82 8)) fun x90 =>
 some (inl ((f1, (decide ((((x90.len : Nat) : Int) > 0)))), h4))) (
 some (inl ((f1, false), h4))))) (
 bindO (ixAT 7 1 (⟨b1, 0, some 0⟩ : Addr) 6) fun a83 =>
 bindO (ldB h4 a83) fun x91 =>
 condK (!x91) (
 ptrK f1 fun a84 =>
 bindO (ldL h4 (add a84 8)) fun x92 =>
 some (inl ((f1, (decide ((((x92.len : Nat) : Int) > 0)))), h4))) (
 some (inl ((f1, false), h4))))))) (
 bindO (ixAT 7 1 (⟨b1, 0, some 0⟩ : Addr) 4) fun a85 =>
 bindO (ldB h4 a85) fun x93 =>
 condK (!x93) (
 ptrK f1 fun a86 =>
 bindO (ldB h4 (add a86 6)) fun x94 =>
 condK x94 (
 some (inl ((f1, true), h4))) (
 bindO (ixAT 7 1 (⟨b1, 0, some 0⟩ : Addr) 5) fun a87 =>
 bindO (ldB h4 a87) fun x95 =>
 condK (!x95) (
 ptrK f1 fun a88 =>
 bindO (ldL h4 (add a88 7)) fun x96 =>
 condK (decide ((((x96.len : Nat) : Int) > 0))) (
 some (inl ((f1, true), h4))) (
 bindO (ixAT 7 1 (⟨b1, 0, some 0⟩ : Addr) 6) fun a89 =>
 bindO (ldB h4 a89) fun x97 =>
 condK (!x97) (
 ptrK f1 fun a90 =>
 bindO (ldL h4 (add a90 8)) fun x98 =>
 some (inl ((f1, (decide ((((x98.len : Nat) : Int) > 0)))), h4))) (
 some (inl ((f1, false), h4))))) (
 bindO (ixAT 7 1 (⟨b1, 0, some 0⟩ : Addr) 6) fun a91 =>
 bindO (ldB h4 a91) fun x99 =>
 condK (!x99) (
 ptrK f1 fun a92 =>
 bindO (ldL h4 (add a92 8)) fun x100 =>
 some (inl ((f1, (decide ((((x100.len : Nat) : Int) > 0)))), h4))) (
 some (inl ((f1, false), h4)))))) (
 bindO (ixAT 7 1 (⟨b1, 0, some 0⟩ : Addr) 5) fun a93 =>
 bindO (ldB h4 a93) fun x101 =>
 condK (!x101) (
 ptrK f1 fun a94 =>
 bindO (ldL h4 (add a94 7)) fun x102 =>
 condK (decide ((((x102.len : Nat) : Int) > 0))) (
 some (inl ((f1, true), h4))) (
 bindO (ixAT 7 1 (⟨b1, 0, some 0⟩ : Addr) 6) fun a95 =>
 bindO (ldB h4 a95) fun x103 =>
 condK (!x103) (
 ptrK f1 fun a96 =>
 bindO (ldL h4 (add a96 8)) fun x104 =>
 some (inl ((f1, (decide ((((x104.len : Nat) : Int) > 0)))), h4))) (
 some (inl ((f1, false), h4))))) (
 bindO (ixAT 7 1 (⟨b1, 0, some 0⟩ : Addr) 6) fun a97 =>
 bindO (ldB h4 a97) fun x105 =>
 condK (!x105) (
 ptrK f1 fun a98 =>
 bindO (ldL h4 (add a98 8)) fun x106 =>
 some (inl ((f1, (decide ((((x106.len : Nat) : Int) > 0)))), h4))) (
 some (inl ((f1, false), h4)))))))) (
 bindO (ixAT 7 1 (⟨b1, 0, some 0⟩ : Addr) 3) fun a99 =>
 bindO (ldB h4 a99) fun x107 =>
 condK (!x107) (
 ptrK f1 fun a100 =>
 bindO (ldI .i64 h4 (add a100 4)) fun x108 =>
 condK (x108 != 0) (
 some (inl ((f1, true), h4))) (
 bindO (ixAT 7 1 (⟨b1, 0, some 0⟩ : Addr) 4) fun a101 =>
 bindO (ldB h4 a101) fun x109 =>
 condK (!x109) (
 ptrK f1 fun a102 =>
 bindO (ldB h4 (add a102 6)) fun x110 =>
 condK x110 (
 some (inl ((f1, true), h4))) (
 bindO (ixAT 7 1 (⟨b1, 0, some 0⟩ : Addr) 5) fun a103 =>
 bindO (ldB h4 a103) fun x111 =>
 condK (!x111) (
 ptrK f1 fun a104 =>
 bindO (ldL h4 (add a104 7)) fun x112 =>
 condK (decide ((((x112.len : Nat) : Int) > 0))) (
 some (inl ((f1, true), h4))) (
 bindO (ixAT 7 1 (⟨b1, 0, some 0⟩ : Addr) 6) fun a105 =>
 bindO (ldB h4 a105) fun x113 =>
 condK (!x113) (
 ptrK f1 fun a106 =>
 bindO (ldL h4 (add a106 8)) fun x114 =>
 some (inl ((f1, (decide ((((x114.len : Nat) : Int) > 0)))), h4))) (
 some (inl ((f1, false), h4))))) (
 bindO (ixAT 7 1 (⟨b1, 0, some 0⟩ : Addr) 6) fun a107 =>
 bindO (ldB h4 a107) fun x115 =>
 condK (!x115) (
 ptrK f1 fun a108 =>
 bindO (ldL h4 (add a108 8)) fun x116 =>
 some (inl ((f1, (decide ((((x116.len : Nat) : Int) > 0)))), h4))) (
 some (inl ((f1, false), h4)))))) (
 bindO (ixAT 7 1 (⟨b1, 0, some 0⟩ : Addr) 5) fun a109 =>
 bindO (ldB h4 a109) fun x117 =>
 condK (!x117) (
 ptrK f1 fun a110 =>
 bindO (ldL h4 (add a110 7)) fun x118 =>
 condK (decide ((((x118.len : Nat) : Int) > 0))) (
 some (inl ((f1, true), h4))) (
 bindO (ixAT 7 1 (⟨b1, 0, some 0⟩ : Addr) 6) fun a111 =>
 bindO (ldB h4 a111) fun x119 =>
 condK (!x119) (
 ptrK f1 fun a112 =>
 bindO (ldL h4 (add a112 8)) fun x120 =>
 some (inl ((f1, (decide ((((x120.len : Nat) : Int) > 0)))), h4))) (
 some (inl ((f1, false), h4))))) (
 bindO (ixAT 7 1 (⟨b1, 0, some 0⟩ : Addr) 6) fun a113 =>
 bindO (ldB h4 a113) fun x121 =>
 condK (!x121) (
 ptrK f1 fun a114 =>
 bindO (ldL h4 (add a114 8)) fun x122 =>
 some (inl ((f1, (decide ((((x122.len : Nat) : Int) > 0)))), h4))) (
 some (inl ((f1, false), h4))))))) (
 bindO (ixAT 7 1 (⟨b1, 0, some 0⟩ : Addr) 4) fun a115 =>
 bindO (ldB h4 a115) fun x123 =>
 condK (!x123) (
 ptrK f1 fun a116 =>
 bindO (ldB h4 (add a116 6)) fun x124 =>
 condK x124 (
 some (inl ((f1, true), h4))) (
 bindO (ixAT 7 1 (⟨b1, 0, some 0⟩ : Addr) 5) fun a117 =>
 bindO (ldB h4 a117) fun x125 =>
 condK (!x125) (
 ptrK f1 fun a118 =>
 bindO (ldL h4 (add a118 7)) fun x126 =>
 condK (decide ((((x126.len : Nat) : Int) > 0))) (
 some (inl ((f1, true), h4))) (
 bindO (ixAT 7 1 (⟨b1, 0, some 0⟩ : Addr) 6) fun a119 =>
 bindO (ldB h4 a119) fun x127 =>
 condK (!x127) (
 ptrK f1 fun a120 =>
 bindO (ldL h4 (add a120 8)) fun x128 =>
 some (inl ((f1, (decide ((((x128.len : Nat) : Int) > 0)))), h4))) (
 some (inl ((f1, false), h4))))) (
 bindO (ixAT 7 1 (⟨b1, 0, some 0⟩ : Addr) 6) fun a121 =>
 bindO (ldB h4 a121) fun x129 =>
 condK (!x129) (
 ptrK f1 fun a122 =>
 bindO (ldL h4 (add a122 8)) fun x130 =>
 some (inl ((f1, (decide ((((x130.len : Nat) : Int) > 0)))), h4))) (
 some (inl ((f1, false), h4)))))) (
 bindO (ixAT 7 1 (⟨b1, 0, some 0⟩ : Addr) 5) fun a123 =>
 bindO (ldB h4 a123) fun x131 =>
 condK (!x131) (
 ptrK f1 fun a124 =>
 bindO (ldL h4 (add a124 7)) fun x132 =>
 condK (decide ((((x132.len : Nat) : Int) > 0))) (
 some (inl ((f1, true), h4))) (
 bindO (ixAT 7 1 (⟨b1, 0, some 0⟩ : Addr) 6) fun a125 =>
 bindO (ldB h4 a125) fun x133 =>
 condK (!x133) (
 ptrK f1 fun a126 =>
 bindO (ldL h4 (add a126 8)) fun x134 =>
 some (inl ((f1, (decide ((((x134.len : Nat) : Int) > 0)))), h4))) (
 some (inl ((f1, false), h4))))) (
 bindO (ixAT 7 1 (⟨b1, 0, some 0⟩ : Addr) 6) fun a127 =>
 bindO (ldB h4 a127) fun x135 =>
 condK (!x135) (
 ptrK f1 fun a128 =>
 bindO (ldL h4 (add a128 8)) fun x136 =>
 some (inl ((f1, (decide ((((x136.len : Nat) : Int) > 0)))), h4))) (
 some (inl ((f1, false), h4)))))))))) (
 bindO (ixAT 7 1 (⟨b1, 0, some 0⟩ : Addr) 1) fun a129 =>
 bindO (ldB h4 a129) fun x137 =>
 condK (!x137) (
 ptrK f1 fun a130 =>
 bindO (ldI .i64 h4 (add a130 2)) fun x138 =>
 condK (x138 != 0) (
 some (inl ((f1, true), h4))) (
 bindO (ixAT 7 1 (⟨b1, 0, some 0⟩ : Addr) 2) fun a131 =>
 bindO (ldB h4 a131) fun x139 =>
 condK (!x139) (
 ptrK f1 fun a132 =>
 bindO (ldI .i64 h4 (add a132 3)) fun x140 =>
 condK (x140 != 0) (
 some (inl ((f1, true), h4))) (
 bindO (ixAT 7 1 (⟨b1, 0, some 0⟩ : Addr) 3) fun a133 =>
 bindO (ldB h4 a133) fun x141 =>
 condK (!x141) (
 ptrK f1 fun a134 =>
 bindO (ldI .i64 h4 (add a134 4)) fun x142 =>
 condK (x142 != 0) (
 some (inl ((f1, true), h4))) (
 bindO (ixAT 7 1 (⟨b1, 0, some 0⟩ : Addr) 4) fun a135 =>
 bindO (ldB h4 a135) fun x143 =>
 condK (!x143) (
 ptrK f1 fun a136 =>
 bindO (ldB h4 (add a136 6)) fun x144 =>
 condK x144 (
 some (inl ((f1, true), h4))) (
 bindO (ixAT 7 1 (⟨b1, 0, some 0⟩ : Addr) 5) fun a137 =>
 bindO (ldB h4 a137) fun x145 =>
 condK (!x145) (
 ptrK f1 fun a138 =>
 bindO (ldL h4 (add a138 7)) fun x146 =>
 condK (decide ((((x146.len : Nat) : Int) > 0))) (
 some (inl ((f1, true), h4))) (
 bindO (ixAT 7 1 (⟨b1, 0, some 0⟩ : Addr) 6) fun a139 =>
 bindO (ldB h4 a139) fun x147 =>
 condK (!x147) (
 ptrK f1 fun a140 =>
 bindO (ldL h4 (add a140 8)) fun x148 =>
 some (inl ((f1, (decide ((((x148.len : Nat) : Int) > 0)))), h4))) (
 some (inl ((f1, false), h4))))) (
 bindO (ixAT 7 1 (⟨b1, 0, some 0⟩ : Addr) 6) fun a141 =>
 bindO (ldB h4 a141) fun x149 =>
 condK (!x149) (
 ptrK f1 fun a142 =>
 bindO (ldL h4 (add a142 8)) fun x150 =>
 some (inl ((f1, (decide ((((x150.len : Nat) : Int) > 0)))), h4))) (
 some (inl ((f1, false), h4)))))) (
 bindO (ixAT 7 1 (⟨b1, 0, some 0⟩ : Addr) 5) fun a143 =>
 bindO (ldB h4 a143) fun x151 =>
 condK (!x151) (
 ptrK f1 fun a144 =>
 bindO (ldL h4 (add a144 7)) fun x152 =>
 condK (decide ((((x152.len : Nat) : Int) > 0))) (
 some (inl ((f1, true), h4))) (
 bindO (ixAT 7 1 (⟨b1, 0, some 0⟩ : Addr) 6) fun a145 =>
 bindO (ldB h4 a145) fun x153 =>
 condK (!x153) (
 ptrK f1 fun a146 =>
 bindO (ldL h4 (add a146 8)) fun x154 =>
 some (inl ((f1, (decide ((((x154.len : Nat) : Int) > 0)))), h4))) (
 some (inl ((f1, false), h4))))) (
 bindO (ixAT 7 1 (⟨b1, 0, some 0⟩ : Addr) 6) fun a147 =>
 bindO (ldB h4 a147) fun x155 =>
 condK (!x155) (
 ptrK f1 fun a148 =>
 bindO (ldL h4 (add a148 8)) fun x156 =>
 some (inl ((f1, (decide ((((x156.len : Nat) : Int) > 0)))), h4))) (
 some (inl ((f1, false), h4))))))) (
 bindO (ixAT 7 1 (⟨b1, 0, some 0⟩ : Addr) 4) fun a149 =>
 bindO (ldB h4 a149) fun x157 =>
 condK (!x157) (
 ptrK f1 fun a150 =>
 bindO (ldB h4 (add a150 6)) fun x158 =>
 condK x158 (
 some (inl ((f1, true), h4))) (
 bindO (ixAT 7 1 (⟨b1, 0, some 0⟩ : Addr) 5) fun a151 =>
 bindO (ldB h4 a151) fun x159 =>
 condK (!x159) (
 ptrK f1 fun a152 =>
 bindO (ldL h4 (add a152 7)) fun x160 =>
 condK (decide ((((x160.len : Nat) : Int) > 0))) (
 some (inl ((f1, true), h4))) (
 bindO (ixAT 7 1 (⟨b1, 0, some 0⟩ : Addr) 6) fun a153 =>
 bindO (ldB h4 a153) fun x161 =>
 condK (!x161) (
 ptrK f1 fun a154 =>
 bindO (ldL h4 (add a154 8)) fun x162 =>
 some (inl ((f1, (decide ((((x162.len : Nat) : Int) > 0)))), h4))) (
 some (inl ((f1, false), h4))))) (
 bindO (ixAT 7 1 (⟨b1, 0, some 0⟩ : Addr) 6) fun a155 =>
 bindO (ldB h4 a155) fun x163 =>
 condK (!x163) (
 ptrK f1 fun a156 =>
 bindO (ldL h4 (add a156 8)) fun x164 =>
 some (inl ((f1, (decide ((((x164.len : Nat) : Int) > 0)))), h4))) (
 some (inl ((f1, false), h4)))))) (
 bindO (ixAT 7 1 (⟨b1, 0, some 0⟩ : Addr) 5) fun a157 =>
 bindO (ldB h4 a157) fun x165 =>
 condK (!x165) (
 ptrK f1 fun a158 =>
 bindO (ldL h4 (add a158 7)) fun x166 =>
 condK (decide ((((x166.len : Nat) : Int) > 0))) (
 some (inl ((f1, true), h4))) (
 bindO (ixAT 7 1 (⟨b1, 0, some 0⟩ : Addr) 6) fun a159 =>
 bindO (ldB h4 a159) fun x167 =>
 condK (!x167) (
 ptrK f1 fun a160 =>
 bindO (ldL h4 (add a160 8)) fun x168 =>
 some (inl ((f1, (decide ((((x168.len : Nat) : Int) > 0)))), h4))) (
 some (inl ((f1, false), h4))))) (
 bindO (ixAT 7 1 (⟨b1, 0, some 0⟩ : Addr) 6) fun a161 =>
 bindO (ldB h4 a161) fun x169 =>
 condK (!x169) (
 ptrK f1 fun a162 =>
 bindO (ldL h4 (add a162 8)) fun x170 =>
 some (inl ((f1, (decide ((((x170.len : Nat) : Int) > 0)))), h4))) (
 some (inl ((f1, false), h4)))))))) (
 bindO (ixAT 7 1 (⟨b1, 0, some 0⟩ : Addr) 3) fun a163 =>
 bindO (ldB h4 a163) fun x171 =>
 condK (!x171) (
 ptrK f1 fun a164 =>
 bindO (ldI .i64 h4 (add a164 4)) fun x172 =>
 condK (x172 != 0) (
 some (inl ((f1, true), h4))) (
 bindO (ixAT 7 1 (⟨b1, 0, some 0⟩ : Addr) 4) fun a165 =>
 bindO (ldB h4 a165) fun x173 =>
 condK (!x173) (
 ptrK f1 fun a166 =>
 bindO (ldB h4 (add a166 6)) fun x174 =>
 condK x174 (
 some (inl ((f1, true), h4))) (
 bindO (ixAT 7 1 (⟨b1, 0, some 0⟩ : Addr) 5) fun a167 =>
 bindO (ldB h4 a167) fun x175 =>
 condK (!x175) (
 ptrK f1 fun a168 =>
 bindO (ldL h4 (add a168 7)) fun x176 =>
 condK (decide ((((x176.len : Nat) : Int) > 0))) (
 some (inl ((f1, true), h4))) (
 bindO (ixAT 7 1 (⟨b1, 0, some 0⟩ : Addr) 6) fun a169 =>
 bindO (ldB h4 a169) fun x177 =>
 condK (!x177) (
 ptrK f1 fun a170 =>
 bindO (ldL h4 (add a170 8)) fun x178 =>
 some (inl ((f1, (decide ((((x178.len : Nat) : Int) > 0)))), h4))) (
 some (inl ((f1, false), h4))))) (
 bindO (ixAT 7 1 (⟨b1, 0, some 0⟩ : Addr) 6) fun a171 =>
 bindO (ldB h4 a171) fun x179 =>
 condK (!x179) (
 ptrK f1 fun a172 =>
 bindO (ldL h4 (add a172 8)) fun x180 =>
 some (inl ((f1, (decide ((((x180.len : Nat) : Int) > 0)))), h4))) (
 some (inl ((f1, false), h4)))))) (
 bindO (ixAT 7 1 (⟨b1, 0, some 0⟩ : Addr) 5) fun a173 =>
 bindO (ldB h4 a173) fun x181 =>
 condK (!x181) (
 ptrK f1 fun a174 =>
 bindO (ldL h4 (add a174 7)) fun x182 =>
 condK (decide ((((x182.len : Nat) : Int) > 0))) (
 some (inl ((f1, true), h4))) (
 bindO (ixAT 7 1 (⟨b1, 0, some 0⟩ : Addr) 6) fun a175 =>
 bindO (ldB h4 a175) fun x183 =>
 condK (!x183) (
 ptrK f1 fun a176 =>
 bindO (ldL h4 (add a176 8)) fun x184 =>
 some (inl ((f1, (decide ((((x184.len : Nat) : Int) > 0)))), h4))) (
 some (inl ((f1, false), h4))))) (
 bindO (ixAT 7 1 (⟨b1, 0, some 0⟩ : Addr) 6) fun a177 =>
 bindO (ldB h4 a177) fun x185 =>
 condK (!x185) (
 ptrK f1 fun a178 =>
 bindO (ldL h4 (add a178 8)) fun x186 =>
 some (inl ((f1, (decide ((((x186.len : Nat) : Int) > 0)))), h4))) (
 some (inl ((f1, false), h4))))))) (
 bindO (ixAT 7 1 (⟨b1, 0, some 0⟩ : Addr) 4) fun a179 =>
 bindO (ldB h4 a179) fun x187 =>
 condK (!x187) (
 ptrK f1 fun a180 =>
 bindO (ldB h4 (add a180 6)) fun x188 =>
 condK x188 (
 some (inl ((f1, true), h4))) (
 bindO (ixAT 7 1 (⟨b1, 0, some 0⟩ : Addr) 5) fun a181 =>
 bindO (ldB h4 a181) fun x189 =>
 condK (!x189) (
 ptrK f1 fun a182 =>
 bindO (ldL h4 (add a182 7)) fun x190 =>
 condK (decide ((((x190.len : Nat) : Int) > 0))) (
 some (inl ((f1, true), h4))) (
 bindO (ixAT 7 1 (⟨b1, 0, some 0⟩ : Addr) 6) fun a183 =>
 bindO (ldB h4 a183) fun x191 =>
 condK (!x191) (
 ptrK f1 fun a184 =>
 bindO (ldL h4 (add a184 8)) fun x192 =>
 some (inl ((f1, (decide ((((x192.len : Nat) : Int) > 0)))), h4))) (
 some (inl ((f1, false), h4))))) (
 bindO (ixAT 7 1 (⟨b1, 0, some 0⟩ : Addr) 6) fun a185 =>
 bindO (ldB h4 a185) fun x193 =>
 condK (!x193) (
 ptrK f1 fun a186 =>
 bindO (ldL h4 (add a186 8)) fun x194 =>
 some (inl ((f1, (decide ((((x194.len : Nat) : Int) > 0)))), h4))) (
 some (inl ((f1, false), h4)))))) (
 bindO (ixAT 7 1 (⟨b1, 0, some 0⟩ : Addr) 5) fun a187 =>
 bindO (ldB h4 a187) fun x195 =>
 condK (!x195) (
 ptrK f1 fun a188 =>
 bindO (ldL h4 (add a188 7)) fun x196 =>
 condK (decide ((((x196.len : Nat) : Int) > 0))) (
 some (inl ((f1, true), h4))) (
 bindO (ixAT 7 1 (⟨b1, 0, some 0⟩ : Addr) 6) fun a189 =>
 bindO (ldB h4 a189) fun x197 =>
 condK (!x197) (
 ptrK f1 fun a190 =>
 bindO (ldL h4 (add a190 8)) fun x198 =>
 some (inl ((f1, (decide ((((x198.len : Nat) : Int) > 0)))), h4))) (
 some (inl ((f1, false), h4))))) (
 bindO (ixAT 7 1 (⟨b1, 0, some 0⟩ : Addr) 6) fun a191 =>
 bindO (ldB h4 a191) fun x199 =>
 condK (!x199) (
 ptrK f1 fun a192 =>
 bindO (ldL h4 (add a192 8)) fun x200 =>
 some (inl ((f1, (decide ((((x200.len : Nat) : Int) > 0)))), h4))) (
 some (inl ((f1, false), h4))))))))) (
 bindO (ixAT 7 1 (⟨b1, 0, some 0⟩ : Addr) 2) fun a193 =>
 bindO (ldB h4 a193) fun x201 =>
 condK (!x201) (
 ptrK f1 fun a194 =>
 bindO (ldI .i64 h4 (add a194 3)) fun x202 =>
 condK (x202 != 0) (
 some (inl ((f1, true), h4))) (
 bindO (ixAT 7 1 (⟨b1, 0, some 0⟩ : Addr) 3) fun a195 =>
 bindO (ldB h4 a195) fun x203 =>
 condK (!x203) (
 ptrK f1 fun a196 =>
 bindO (ldI .i64 h4 (add a196 4)) fun x204 =>
 condK (x204 != 0) (
 some (inl ((f1, true), h4))) (
 bindO (ixAT 7 1 (⟨b1, 0, some 0⟩ : Addr) 4) fun a197 =>
 bindO (ldB h4 a197) fun x205 =>
 condK (!x205) (
 ptrK f1 fun a198 =>
 bindO (ldB h4 (add a198 6)) fun x206 =>
 condK x206 (
 some (inl ((f1, true), h4))) (
 bindO (ixAT 7 1 (⟨b1, 0, some 0⟩ : Addr) 5) fun a199 =>
 bindO (ldB h4 a199) fun x207 =>
 condK (!x207) (
 ptrK f1 fun a200 =>
 bindO (ldL h4 (add a200 7)) fun x208 =>
 condK (decide ((((x208.len : Nat) : Int) > 0))) (
 some (inl ((f1, true), h4))) (
 bindO (ixAT 7 1 (⟨b1, 0, some 0⟩ : Addr) 6) fun a201 =>
 bindO (ldB h4 a201) fun x209 =>
 condK (!x209) (
 ptrK f1 fun a202 =>
 bindO (ldL h4 (add a202 8)) fun x210 =>
 some (inl ((f1, (decide ((((x210.len : Nat) : Int) > 0)))), h4))) (
 some (inl ((f1, false), h4))))) (
 bindO (ixAT 7 1 (⟨b1, 0, some 0⟩ : Addr) 6) fun a203 =>
 bindO (ldB h4 a203) fun x211 =>
 condK (!x211) (
 ptrK f1 fun a204 =>
 bindO (ldL h4 (add a204 8)) fun x212 =>
 some (inl ((f1, (decide ((((x212.len : Nat) : Int) > 0)))), h4))) (
 some (inl ((f1, false), h4)))))) (
 bindO (ixAT 7 1 (⟨b1, 0, some 0⟩ : Addr) 5) fun a205 =>
 bindO (ldB h4 a205) fun x213 =>
 condK (!x213) (
 ptrK f1 fun a206 =>
 bindO (ldL h4 (add a206 7)) fun x214 =>
 condK (decide ((((x214.len : Nat) : Int) > 0))) (
 some (inl ((f1, true), h4))) (
 bindO (ixAT 7 1 (⟨b1, 0, some 0⟩ : Addr) 6) fun a207 =>
 bindO (ldB h4 a207) fun x215 =>
 condK (!x215) (
 ptrK f1 fun a208 =>
 bindO (ldL h4 (add a208 8)) fun x216 =>
 some (inl ((f1, (decide ((((x216.len : Nat) : Int) > 0)))), h4))) (
 some (inl ((f1, false), h4))))) (
 bindO (ixAT 7 1 (⟨b1, 0, some 0⟩ : Addr) 6) fun a209 =>
 bindO (ldB h4 a209) fun x217 =>
 condK (!x217) (
 ptrK f1 fun a210 =>
 bindO (ldL h4 (add a210 8)) fun x218 =>
 some (inl ((f1, (decide ((((x218.len : Nat) : Int) > 0)))), h4))) (
 some (inl ((f1, false), h4))))))) (
 bindO (ixAT 7 1 (⟨b1, 0, some 0⟩ : Addr) 4) fun a211 =>
 bindO (ldB h4 a211) fun x219 =>
 condK (!x219) (
 ptrK f1 fun a212 =>
 bindO (ldB h4 (add a212 6)) fun x220 =>
 condK x220 (
 some (inl ((f1, true), h4))) (
 bindO (ixAT 7 1 (⟨b1, 0, some 0⟩ : Addr) 5) fun a213 =>
 bindO (ldB h4 a213) fun x221 =>
 condK (!x221) (
 ptrK f1 fun a214 =>
 bindO (ldL h4 (add a214 7)) fun x222 =>
 condK (decide ((((x222.len : Nat) : Int) > 0))) (
 some (inl ((f1, true), h4))) (
 bindO (ixAT 7 1 (⟨b1, 0, some 0⟩ : Addr) 6) fun a215 =>
 bindO (ldB h4 a215) fun x223 =>
 condK (!x223) (
 ptrK f1 fun a216 =>
 bindO (ldL h4 (add a216 8)) fun x224 =>
 some (inl ((f1, (decide ((((x224.len : Nat) : Int) > 0)))), h4))) (
 some (inl ((f1, false), h4))))) (
 bindO (ixAT 7 1 (⟨b1, 0, some 0⟩ : Addr) 6) fun a217 =>
 bindO (ldB h4 a217) fun x225 =>
 condK (!x225) (
 ptrK f1 fun a218 =>
 bindO (ldL h4 (add a218 8)) fun x226 =>
 some (inl ((f1, (decide ((((x226.len : Nat) : Int) > 0)))), h4))) (
 some (inl ((f1, false), h4)))))) (
 bindO (ixAT 7 1 (⟨b1, 0, some 0⟩ : Addr) 5) fun a219 =>
 bindO (ldB h4 a219) fun x227 =>
 condK (!x227) (
 ptrK f1 fun a220 =>
 bindO (ldL h4 (add a220 7)) fun x228 =>
 condK (decide ((((x228.len : Nat) : Int) > 0))) (
 some (inl ((f1, true), h4))) (
 bindO (ixAT 7 1 (⟨b1, 0, some 0⟩ : Addr) 6) fun a221 =>
 bindO (ldB h4 a221) fun x229 =>
 condK (!x229) (
 ptrK f1 fun a222 =>
 bindO (ldL h4 (add a222 8)) fun x230 =>
 some (inl ((f1, (decide ((((x230.len : Nat) : Int) > 0)))), h4))) (
 some (inl ((f1, false), h4))))) (
 bindO (ixAT 7 1 (⟨b1, 0, some 0⟩ : Addr) 6) fun a223 =>
 bindO (ldB h4 a223) fun x231 =>
 condK (!x231) (
 ptrK f1 fun a224 =>
 bindO (ldL h4 (add a224 8)) fun x232 =>
 some (inl ((f1, (decide ((((x232.len : Nat) : Int) > 0)))), h4))) (
 some (inl ((f1, false), h4)))))))) (
 bindO (ixAT 7 1 (⟨b1, 0, some 0⟩ : Addr) 3) fun a225 =>
 bindO (ldB h4 a225) fun x233 =>
 condK (!x233) (
 ptrK f1 fun a226 =>
 bindO (ldI .i64 h4 (add a226 4)) fun x234 =>
 condK (x234 != 0) (
 some (inl ((f1, true), h4))) (
 bindO (ixAT 7 1 (⟨b1, 0, some 0⟩ : Addr) 4) fun a227 =>
 bindO (ldB h4 a227) fun x235 =>
 condK (!x235) (
 ptrK f1 fun a228 =>
 bindO (ldB h4 (add a228 6)) fun x236 =>
 condK x236 (
 some (inl ((f1, true), h4))) (
 bindO (ixAT 7 1 (⟨b1, 0, some 0⟩ : Addr) 5) fun a229 =>
 bindO (ldB h4 a229) fun x237 =>
 condK (!x237) (
 ptrK f1 fun a230 =>
 bindO (ldL h4 (add a230 7)) fun x238 =>
 condK (decide ((((x238.len : Nat) : Int) > 0))) (
 some (inl ((f1, true), h4))) (
 bindO (ixAT 7 1 (⟨b1, 0, some 0⟩ : Addr) 6) fun a231 =>
 bindO (ldB h4 a231) fun x239 =>
 condK (!x239) (
 ptrK f1 fun a232 =>
 bindO (ldL h4 (add a232 8)) fun x240 =>
 some (inl ((f1, (decide ((((x240.len : Nat) : Int) > 0)))), h4))) (
 some (inl ((f1, false), h4))))) (
 bindO (ixAT 7 1 (⟨b1, 0, some 0⟩ : Addr) 6) fun a233 =>
 bindO (ldB h4 a233) fun x241 =>
 condK (!x241) (
 ptrK f1 fun a234 =>
 bindO (ldL h4 (add a234 8)) fun x242 =>
 some (inl ((f1, (decide ((((x242.len : Nat) : Int) > 0)))), h4))) (
 some (inl ((f1, false), h4)))))) (
 bindO (ixAT 7 1 (⟨b1, 0, some 0⟩ : Addr) 5) fun a235 =>
 bindO (ldB h4 a235) fun x243 =>
 condK (!x243) (
 ptrK f1 fun a236 =>
 bindO (ldL h4 (add a236 7)) fun x244 =>
 condK (decide ((((x244.len : Nat) : Int) > 0))) (
 some (inl ((f1, true), h4))) (
 bindO (ixAT 7 1 (⟨b1, 0, some 0⟩ : Addr) 6) fun a237 =>
 bindO (ldB h4 a237) fun x245 =>
 condK (!x245) (
 ptrK f1 fun a238 =>
 bindO (ldL h4 (add a238 8)) fun x246 =>
 some (inl ((f1, (decide ((((x246.len : Nat) : Int) > 0)))), h4))) (
 some (inl ((f1, false), h4))))) (
 bindO (ixAT 7 1 (⟨b1, 0, some 0⟩ : Addr) 6) fun a239 =>
 bindO (ldB h4 a239) fun x247 =>
 condK (!x247) (
 ptrK f1 fun a240 =>
 bindO (ldL h4 (add a240 8)) fun x248 =>
 some (inl ((f1, (decide ((((x248.len : Nat) : Int) > 0)))), h4))) (
 some (inl ((f1, false), h4))))))) (
 bindO (ixAT 7 1 (⟨b1, 0, some 0⟩ : Addr) 4) fun a241 =>
 bindO (ldB h4 a241) fun x249 =>
 condK (!x249) (
 ptrK f1 fun a242 =>
 bindO (ldB h4 (add a242 6)) fun x250 =>
 condK x250 (
 some (inl ((f1, true), h4))) (
 bindO (ixAT 7 1 (⟨b1, 0, some 0⟩ : Addr) 5) fun a243 =>
 bindO (ldB h4 a243) fun x251 =>
 condK (!x251) (
 ptrK f1 fun a244 =>
 bindO (ldL h4 (add a244 7)) fun x252 =>
 condK (decide ((((x252.len : Nat) : Int) > 0))) (
 some (inl ((f1, true), h4))) (
 bindO (ixAT 7 1 (⟨b1, 0, some 0⟩ : Addr) 6) fun a245 =>
 bindO (ldB h4 a245) fun x253 =>
 condK (!x253) (
 ptrK f1 fun a246 =>
 bindO (ldL h4 (add a246 8)) fun x254 =>
 some (inl ((f1, (decide ((((x254.len : Nat) : Int) > 0)))), h4))) (
 some (inl ((f1, false), h4))))) (
 bindO (ixAT 7 1 (⟨b1, 0, some 0⟩ : Addr) 6) fun a247 =>
 bindO (ldB h4 a247) fun x255 =>
 condK (!x255) (
 ptrK f1 fun a248 =>
 bindO (ldL h4 (add a248 8)) fun x256 =>
 some (inl ((f1, (decide ((((x256.len : Nat) : Int) > 0)))), h4))) (
 some (inl ((f1, false), h4)))))) (
 bindO (ixAT 7 1 (⟨b1, 0, some 0⟩ : Addr) 5) fun a249 =>
 bindO (ldB h4 a249) fun x257 =>
 condK (!x257) (
 ptrK f1 fun a250 =>
 bindO (ldL h4 (add a250 7)) fun x258 =>
 condK (decide ((((x258.len : Nat) : Int) > 0))) (
 some (inl ((f1, true), h4))) (
 bindO (ixAT 7 1 (⟨b1, 0, some 0⟩ : Addr) 6) fun a251 =>
 bindO (ldB h4 a251) fun x259 =>
 condK (!x259) (
 ptrK f1 fun a252 =>
 bindO (ldL h4 (add a252 8)) fun x260 =>
 some (inl ((f1, (decide ((((x260.len : Nat) : Int) > 0)))), h4))) (
 some (inl ((f1, false), h4))))) (
 bindO (ixAT 7 1 (⟨b1, 0, some 0⟩ : Addr) 6) fun a253 =>
 bindO (ldB h4 a253) fun x261 =>
 condK (!x261) (
 ptrK f1 fun a254 =>
 bindO (ldL h4 (add a254 8)) fun x262 =>
 some (inl ((f1, (decide ((((x262.len : Nat) : Int) > 0)))), h4))) (
 some (inl ((f1, false), h4)))))))))) fun (((f2, x9), h5) : (((Option Addr) × Bool) × H)) =>
 condK x9 (
 some (false, h5)) (
 ptrK f2 fun a1 =>
 bindO (ldI .i64 h5 (add a1 0)) fun x10 =>
 condK (x10 == 2) (
 ptrK f2 fun a2 =>
 bindO (ldL h5 (add a2 8)) fun x11 =>
 bind2 (ref1_rightSpans x11 h5) fun x12 h6 =>
 some (x12, h6)) (
 condK (x10 == 3) (
 ptrK f2 fun a3 =>
 bindO (ldI .i64 h5 (add a3 2)) fun x13 =>
 ptrK f2 fun a4 =>
 bindO (ldL h5 (add a4 7)) fun x14 =>
 letO ((decide ((x13 ≤ (IntKind.wrap .i64 (4611686018427387903 - ((x14.len : Nat) : Int))))))) fun x15 =>
 some (x15, h5)) (
 condK (x10 == 4) (
 ptrK f2 fun a5 =>
 bindO (ldI .i64 h5 (add a5 4)) fun x16 =>
 ptrK f2 fun a6 =>
 bindO (ldI .i64 h5 (add a6 2)) fun x17 =>
 some ((decide ((x16 ≤ x17))), h5)) (
 condK (x10 == 9) (
 ptrK f2 fun a7 =>
 bindO (ldL h5 (add a7 7)) fun x18 =>
 some ((decide ((((x18.len : Nat) : Int) > 0))), h5)) (
 some (true, h5)))))))
def ref1_RightFrame : (J9) → H → Option ((Bool) × H) := P.ref1_RightFrame ref1_May ref1_names ref1_rightSpans
def ann_140 : Ann := ⟨fun _ => none, fun _ => none, fun i => bif i.beq 1 then some ⟨[1, 41], [eP_, eB_]⟩ else bif i.beq 4 then some ⟨[1, 113], [eP_, eB_]⟩ else none⟩
def E_140 : Ent := V_140 ref1_RightFrame
theorem eq_140 (ref1_May : T_103) (ref1_names : T_177) (ref1_rightSpans : T_178) : runE [V_103 ref1_May, V_177 ref1_names, V_178 ref1_rightSpans] ann_140 Try.f140 (V_140 (P.ref1_RightFrame ref1_May ref1_names ref1_rightSpans)) = (V_140 (P.ref1_RightFrame ref1_May ref1_names ref1_rightSpans)).g := by kernel_rfl
theorem ok_140 : E_140.ok Tab.D := entT (entC ok_103 (entC ok_177 (entC ok_178 entN))) (by kernel_rfl) (by kernel_rfl) (by kernel_rfl) (eq_140 ref1_May ref1_names ref1_rightSpans)
/-! ref1_bit -/
abbrev T_179 := Bool → H → Option ((Int) × H)
abbrev V_179 (f : T_179) : Ent := ⟨179, [eB_], [eI_], fun (x : Bool) h => f x h⟩
def ref1_bit (b : Bool) (h : H) : Option (Int × H) :=
 condK b (
 some (1, h)) (
 some (0, h))
def ann_179 : Ann := ⟨fun _ => none, fun _ => none, fun _ => none⟩
def E_179 : Ent := V_179 ref1_bit
theorem eq_179 : runE [] ann_179 Try.f179 (V_179 ref1_bit) = (V_179 ref1_bit).g := by kernel_rfl
theorem ok_179 : E_179.ok Tab.D := entT entN (by kernel_rfl) (by kernel_rfl) (by kernel_rfl) eq_179
/-! ref1_lay -/
abbrev T_141 := (J9) → H → Option ((Sl) × H)
abbrev V_141 (f : T_141) : Ent := ⟨141, [⟨true, j9⟩], [eL_], fun (x : (J9)) h => f x h⟩
def P.ref1_lay_l1 (ref1_bit : T_179) (ref1_Put : T_47) : (((Option Addr) × (Sl × Int)) × H) → Option ((((Option Addr) × (Sl × Int)) × H) ⊕ ((((Option Addr) × Sl) × H) ⊕ (Sl × H))) := fun ((f, (l, i)), h0) =>
 ptrK f fun a0 =>
 bindO (ldL h0 (add a0 8)) fun x0 =>
 condK (decide ((i < ((x0.len : Nat) : Int)))) (
 ptrK f fun a1 =>
 bindO (ldL h0 (add a1 8)) fun x1 =>
 bindO (ixT 2 x1 i) fun a2 =>
 bindO (ldZ [.int .i64, .int .i64] h0 a2) fun ((x2, x3) : Int × Int) =>
 newO (row 36 [(.int .i64 0), (.int .i64 0)]) h0 fun b h1 =>
 bindO (stZ [.int .i64, .int .i64] h1 (⟨b, 0, some 0⟩ : Addr) ((x2, x3) : Int × Int)) fun h2 =>
 joinO (
 condK (i == 0) (
 bindO (ixAT 2 1 (⟨b, 0, some 0⟩ : Addr) 1) fun a3 =>
 bindO (ldI .i64 h2 a3) fun x4 =>
 newO (row 3 [(.int .i64 x4)]) h2 fun b1 h3 =>
 bind2 (appT 3 1 8 h3 l (⟨(some (⟨b1, 0, some 0⟩ : Addr)), 1, 1⟩ : Sl)) fun x5 h4 =>
 some (inl ((f, (x5, (i, (some (⟨b, 0, some 0⟩ : Addr))))), h4))) (
 ptrK f fun a4 =>
 letH (growIf h2 14) fun h5 =>
 bindO (ldL h5 (add a4 8)) fun x6 =>
 bindO (ixT 2 x6 (IntKind.wrap .i64 (i - 1))) fun a5 =>
 bindO (ixAT 2 1 a5 0) fun a6 =>
 bindO (ldI .i64 h5 a6) fun x7 =>
 bindO (ixAT 2 1 (⟨b, 0, some 0⟩ : Addr) 1) fun a7 =>
 bindO (ldI .i64 h5 a7) fun x8 =>
 letH (addP 4095 h2.size [(11, (row 3 [(.int .i64 (IntKind.wrap .i64 (x7 - x8)))]))] h5) fun h6 =>
 bind2 (appT 3 1 8 h6 l (⟨(some (⟨(h2.size + 11), 0, some 0⟩ : Addr)), 1, 1⟩ : Sl)) fun x9 h7 =>
 letH (addP 16383 h2.size [(11, (row 3 [(.int .i64 (IntKind.wrap .i64 (x7 - x8)))]))] h7) fun h8 =>
 letH (tickIf 14 h8) fun h9 =>
 some (inl ((f, (x9, (i, (some (⟨b, 0, some 0⟩ : Addr))))), h9)))) fun (((f1, (l1, (i1, x4))), h3) : (((Option Addr) × (Sl × (Int × (Option Addr)))) × H)) =>
 ptrK x4 fun a3 =>
 bindO (ixAT 2 1 a3 1) fun a4 =>
 bindO (ldI .i64 h3 a4) fun x5 =>
 ptrK x4 fun a5 =>
 bindO (ixAT 2 1 a5 0) fun a6 =>
 bindO (ldI .i64 h3 a6) fun x6 =>
 newO (row 3 [(.int .i64 (IntKind.wrap .i64 (x5 - x6)))]) h3 fun b1 h4 =>
 bind2 (appT 3 1 8 h4 l1 (⟨(some (⟨b1, 0, some 0⟩ : Addr)), 1, 1⟩ : Sl)) fun x7 h5 =>
 some (inl ((f1, (x7, (IntKind.wrap .i64 (i1 + 1)))), h5))) (
 some (inr (inl ((f, l), h0))))

def P.ref1_lay (ref1_bit : T_179) (ref1_Put : T_47) (f : J9) (h : H) : Option (Sl × H) :=
 newO (row 33 [(.int .i64 f.1), (.int .i64 f.2.1), (.int .i64 f.2.2.1), (.int .i64 f.2.2.2.1), (.int .i64 f.2.2.2.2.1), (.int .i64 f.2.2.2.2.2.1), (.bool f.2.2.2.2.2.2.1), (.slice f.2.2.2.2.2.2.2.1.base f.2.2.2.2.2.2.2.1.len f.2.2.2.2.2.2.2.1.cap), (.slice f.2.2.2.2.2.2.2.2.base f.2.2.2.2.2.2.2.2.len f.2.2.2.2.2.2.2.2.cap)]) h fun b h0 =>
 joinO (
 bindO (ldI .i64 h0 (add (⟨b, 0, some 0⟩ : Addr) 0)) fun x0 =>
 condK (x0 == 2) (
 bindO (ldL h0 (add (⟨b, 0, some 0⟩ : Addr) 8)) fun x1 =>
 newO (row 3 [(.int .i64 ((x1.len : Nat) : Int))]) h0 fun b1 h1 =>
 loopO (P.ref1_lay_l1 ref1_bit ref1_Put) (((some (⟨b, 0, some 0⟩ : Addr)), ((⟨(some (⟨b1, 0, some 0⟩ : Addr)), 1, 1⟩ : Sl), 0)), h1)) (
 condK (x0 == 3) (
 letH (growIf h0 12) fun h2 =>
 bindO (ldI .i64 h2 (add (⟨b, 0, some 0⟩ : Addr) 1)) fun x2 =>
 bindO (ldI .i64 h2 (add (⟨b, 0, some 0⟩ : Addr) 2)) fun x3 =>
 bindO (ldB h2 (add (⟨b, 0, some 0⟩ : Addr) 6)) fun x4 =>
 bind2 (ref1_bit x4 h2) fun x5 h3 =>
 bindO (ldL h3 (add (⟨b, 0, some 0⟩ : Addr) 7)) fun x6 =>
 letH (addP 384 h0.size [(10, (row 3 [(.int .i64 x2), (.int .i64 x3), (.int .i64 x5), (.int .i64 ((x6.len : Nat) : Int))]))] h2) fun h4 =>
 condK (((x6.len : Nat) : Int) == ((x6.len : Nat) : Int)) (
 letH (addP 128 h0.size [(10, (row 3 [(.int .i64 x2), (.int .i64 x3), (.int .i64 x5), (.int .i64 ((x6.len : Nat) : Int))]))] h2) fun h5 =>
 bindO (ldL h5 (add (⟨b, 0, some 0⟩ : Addr) 7)) fun x7 =>
 condK (slEq x7.base x7.len x7.cap x6.base x6.len x6.cap) (
 letH (addP 4 h0.size [(10, (row 3 [(.int .i64 x2), (.int .i64 x3), (.int .i64 x5), (.int .i64 ((x6.len : Nat) : Int))]))] h3) fun h6 =>
 bindO (ldI .i64 h6 (add (⟨b, 0, some 0⟩ : Addr) 2)) fun x8 =>
 condK (x8 == x3) (
 letH (addP 1 h0.size [(10, (row 3 [(.int .i64 x2), (.int .i64 x3), (.int .i64 x5), (.int .i64 ((x6.len : Nat) : Int))]))] h3) fun h7 =>
 bindO (ldI .i64 h7 (add (⟨b, 0, some 0⟩ : Addr) 1)) fun x9 =>
 condK (x9 == x2) (
 letH (addP 4095 h0.size [(10, (row 3 [(.int .i64 x2), (.int .i64 x3), (.int .i64 x5), (.int .i64 ((x6.len : Nat) : Int))]))] h3) fun h8 =>
 letH (tickIf 12 h8) fun h9 =>
 some (inl (((some (⟨b, 0, some 0⟩ : Addr)), (⟨(some (⟨(h0.size + 10), 0, some 0⟩ : Addr)), 4, 4⟩ : Sl)), h9))) none) none) none) none) (
 condK (x0 == 4) (
 bindO (ldI .i64 h0 (add (⟨b, 0, some 0⟩ : Addr) 1)) fun x10 =>
 bindO (ldI .i64 h0 (add (⟨b, 0, some 0⟩ : Addr) 3)) fun x11 =>
 bindO (ldI .i64 h0 (add (⟨b, 0, some 0⟩ : Addr) 2)) fun x12 =>
 bindO (ldI .i64 h0 (add (⟨b, 0, some 0⟩ : Addr) 4)) fun x13 =>
 newO (row 3 [(.int .i64 x10), (.int .i64 x11), (.int .i64 x12), (.int .i64 x13)]) h0 fun b2 h10 =>
 some (inl (((some (⟨b, 0, some 0⟩ : Addr)), (⟨(some (⟨b2, 0, some 0⟩ : Addr)), 4, 4⟩ : Sl)), h10))) (
 condK (x0 == 5) (
 condK (x0 == 5) (
 bindO (ldI .i64 h0 (add (⟨b, 0, some 0⟩ : Addr) 1)) fun x14 =>
 bindO (ldI .i64 h0 (add (⟨b, 0, some 0⟩ : Addr) 3)) fun x15 =>
 newO (row 3 [(.int .i64 x14), (.int .i64 x15)]) h0 fun b3 h11 =>
 some (inl (((some (⟨b, 0, some 0⟩ : Addr)), (⟨(some (⟨b3, 0, some 0⟩ : Addr)), 2, 2⟩ : Sl)), h11))) (
 condK (x0 == 6) (
 condK (x0 == 6) (
 bindO (ldI .i64 h0 (add (⟨b, 0, some 0⟩ : Addr) 3)) fun x16 =>
 newO (row 3 [(.int .i64 x16)]) h0 fun b4 h12 =>
 some (inl (((some (⟨b, 0, some 0⟩ : Addr)), (⟨(some (⟨b4, 0, some 0⟩ : Addr)), 1, 1⟩ : Sl)), h12))) (
 condK (x0 == 8) (
 letH (growIf h0 7) fun h13 =>
 bindO (ldI .i64 h13 (add (⟨b, 0, some 0⟩ : Addr) 3)) fun x17 =>
 bindO (ldB h13 (add (⟨b, 0, some 0⟩ : Addr) 6)) fun x18 =>
 bind2 (ref1_bit x18 h13) fun x19 h14 =>
 letH (addP 1 h0.size [(5, (row 3 [(.int .i64 x17), (.int .i64 x19)]))] h14) fun h15 =>
 bindO (ldI .i64 h15 (add (⟨b, 0, some 0⟩ : Addr) 3)) fun x20 =>
 condK (x20 == x17) (
 letH (addP 127 h0.size [(5, (row 3 [(.int .i64 x17), (.int .i64 x19)]))] h14) fun h16 =>
 letH (tickIf 7 h16) fun h17 =>
 some (inl (((some (⟨b, 0, some 0⟩ : Addr)), (⟨(some (⟨(h0.size + 5), 0, some 0⟩ : Addr)), 2, 2⟩ : Sl)), h17))) none) (
 condK (x0 == 9) (
 bindO (ldL h0 (add (⟨b, 0, some 0⟩ : Addr) 7)) fun x21 =>
 newO (row 3 [(.int .i64 ((x21.len : Nat) : Int))]) h0 fun b5 h18 =>
 some (inl (((some (⟨b, 0, some 0⟩ : Addr)), (⟨(some (⟨b5, 0, some 0⟩ : Addr)), 1, 1⟩ : Sl)), h18))) (
 condK (x0 == 10) (
 condK (x0 == 10) (
 bindO (ldI .i64 h0 (add (⟨b, 0, some 0⟩ : Addr) 1)) fun x22 =>
 newO (row 3 [(.int .i64 x22)]) h0 fun b6 h19 =>
 some (inl (((some (⟨b, 0, some 0⟩ : Addr)), (⟨(some (⟨b6, 0, some 0⟩ : Addr)), 1, 1⟩ : Sl)), h19))) (
 some (inl (((some (⟨b, 0, some 0⟩ : Addr)), (⟨none, 0, 0⟩ : Sl)), h0)))) (
 condK (x0 == 11) (
 bindO (ldI .i64 h0 (add (⟨b, 0, some 0⟩ : Addr) 1)) fun x23 =>
 newO (row 3 [(.int .i64 x23)]) h0 fun b7 h20 =>
 some (inl (((some (⟨b, 0, some 0⟩ : Addr)), (⟨(some (⟨b7, 0, some 0⟩ : Addr)), 1, 1⟩ : Sl)), h20))) (
 some (inl (((some (⟨b, 0, some 0⟩ : Addr)), (⟨none, 0, 0⟩ : Sl)), h0)))))))) (
 condK (x0 == 12) (
 bindO (ldI .i64 h0 (add (⟨b, 0, some 0⟩ : Addr) 3)) fun x24 =>
 newO (row 3 [(.int .i64 x24)]) h0 fun b8 h21 =>
 some (inl (((some (⟨b, 0, some 0⟩ : Addr)), (⟨(some (⟨b8, 0, some 0⟩ : Addr)), 1, 1⟩ : Sl)), h21))) (
 condK (x0 == 8) (
 letH (growIf h0 7) fun h22 =>
 bindO (ldI .i64 h22 (add (⟨b, 0, some 0⟩ : Addr) 3)) fun x25 =>
 bindO (ldB h22 (add (⟨b, 0, some 0⟩ : Addr) 6)) fun x26 =>
 bind2 (ref1_bit x26 h22) fun x27 h23 =>
 letH (addP 1 h0.size [(5, (row 3 [(.int .i64 x25), (.int .i64 x27)]))] h23) fun h24 =>
 bindO (ldI .i64 h24 (add (⟨b, 0, some 0⟩ : Addr) 3)) fun x28 =>
 condK (x28 == x25) (
 letH (addP 127 h0.size [(5, (row 3 [(.int .i64 x25), (.int .i64 x27)]))] h23) fun h25 =>
 letH (tickIf 7 h25) fun h26 =>
 some (inl (((some (⟨b, 0, some 0⟩ : Addr)), (⟨(some (⟨(h0.size + 5), 0, some 0⟩ : Addr)), 2, 2⟩ : Sl)), h26))) none) (
 condK (x0 == 9) (
 bindO (ldL h0 (add (⟨b, 0, some 0⟩ : Addr) 7)) fun x29 =>
 newO (row 3 [(.int .i64 ((x29.len : Nat) : Int))]) h0 fun b9 h27 =>
 some (inl (((some (⟨b, 0, some 0⟩ : Addr)), (⟨(some (⟨b9, 0, some 0⟩ : Addr)), 1, 1⟩ : Sl)), h27))) (
 condK (x0 == 10) (
 condK (x0 == 10) (
 bindO (ldI .i64 h0 (add (⟨b, 0, some 0⟩ : Addr) 1)) fun x30 =>
 newO (row 3 [(.int .i64 x30)]) h0 fun b10 h28 =>
 some (inl (((some (⟨b, 0, some 0⟩ : Addr)), (⟨(some (⟨b10, 0, some 0⟩ : Addr)), 1, 1⟩ : Sl)), h28))) (
 some (inl (((some (⟨b, 0, some 0⟩ : Addr)), (⟨none, 0, 0⟩ : Sl)), h0)))) (
 condK (x0 == 11) (
 bindO (ldI .i64 h0 (add (⟨b, 0, some 0⟩ : Addr) 1)) fun x31 =>
 newO (row 3 [(.int .i64 x31)]) h0 fun b11 h29 =>
 some (inl (((some (⟨b, 0, some 0⟩ : Addr)), (⟨(some (⟨b11, 0, some 0⟩ : Addr)), 1, 1⟩ : Sl)), h29))) (
 some (inl (((some (⟨b, 0, some 0⟩ : Addr)), (⟨none, 0, 0⟩ : Sl)), h0)))))))))) (
 condK (x0 == 7) (
 bindO (ldI .i64 h0 (add (⟨b, 0, some 0⟩ : Addr) 1)) fun x32 =>
 bindO (ldI .i64 h0 (add (⟨b, 0, some 0⟩ : Addr) 3)) fun x33 =>
 newO (row 3 [(.int .i64 x32), (.int .i64 x33)]) h0 fun b12 h30 =>
 some (inl (((some (⟨b, 0, some 0⟩ : Addr)), (⟨(some (⟨b12, 0, some 0⟩ : Addr)), 2, 2⟩ : Sl)), h30))) (
 condK (x0 == 6) (
 condK (x0 == 6) (
 bindO (ldI .i64 h0 (add (⟨b, 0, some 0⟩ : Addr) 3)) fun x34 =>
 newO (row 3 [(.int .i64 x34)]) h0 fun b13 h31 =>
 some (inl (((some (⟨b, 0, some 0⟩ : Addr)), (⟨(some (⟨b13, 0, some 0⟩ : Addr)), 1, 1⟩ : Sl)), h31))) (
 condK (x0 == 8) (
 letH (growIf h0 7) fun h32 =>
 bindO (ldI .i64 h32 (add (⟨b, 0, some 0⟩ : Addr) 3)) fun x35 =>
 bindO (ldB h32 (add (⟨b, 0, some 0⟩ : Addr) 6)) fun x36 =>
 bind2 (ref1_bit x36 h32) fun x37 h33 =>
 letH (addP 1 h0.size [(5, (row 3 [(.int .i64 x35), (.int .i64 x37)]))] h33) fun h34 =>
 bindO (ldI .i64 h34 (add (⟨b, 0, some 0⟩ : Addr) 3)) fun x38 =>
 condK (x38 == x35) (
 letH (addP 127 h0.size [(5, (row 3 [(.int .i64 x35), (.int .i64 x37)]))] h33) fun h35 =>
 letH (tickIf 7 h35) fun h36 =>
 some (inl (((some (⟨b, 0, some 0⟩ : Addr)), (⟨(some (⟨(h0.size + 5), 0, some 0⟩ : Addr)), 2, 2⟩ : Sl)), h36))) none) (
 condK (x0 == 9) (
 bindO (ldL h0 (add (⟨b, 0, some 0⟩ : Addr) 7)) fun x39 =>
 newO (row 3 [(.int .i64 ((x39.len : Nat) : Int))]) h0 fun b14 h37 =>
 some (inl (((some (⟨b, 0, some 0⟩ : Addr)), (⟨(some (⟨b14, 0, some 0⟩ : Addr)), 1, 1⟩ : Sl)), h37))) (
 condK (x0 == 10) (
 condK (x0 == 10) (
 bindO (ldI .i64 h0 (add (⟨b, 0, some 0⟩ : Addr) 1)) fun x40 =>
 newO (row 3 [(.int .i64 x40)]) h0 fun b15 h38 =>
 some (inl (((some (⟨b, 0, some 0⟩ : Addr)), (⟨(some (⟨b15, 0, some 0⟩ : Addr)), 1, 1⟩ : Sl)), h38))) (
 some (inl (((some (⟨b, 0, some 0⟩ : Addr)), (⟨none, 0, 0⟩ : Sl)), h0)))) (
 condK (x0 == 11) (
 bindO (ldI .i64 h0 (add (⟨b, 0, some 0⟩ : Addr) 1)) fun x41 =>
 newO (row 3 [(.int .i64 x41)]) h0 fun b16 h39 =>
 some (inl (((some (⟨b, 0, some 0⟩ : Addr)), (⟨(some (⟨b16, 0, some 0⟩ : Addr)), 1, 1⟩ : Sl)), h39))) (
 some (inl (((some (⟨b, 0, some 0⟩ : Addr)), (⟨none, 0, 0⟩ : Sl)), h0)))))))) (
 condK (x0 == 12) (
 bindO (ldI .i64 h0 (add (⟨b, 0, some 0⟩ : Addr) 3)) fun x42 =>
 newO (row 3 [(.int .i64 x42)]) h0 fun b17 h40 =>
 some (inl (((some (⟨b, 0, some 0⟩ : Addr)), (⟨(some (⟨b17, 0, some 0⟩ : Addr)), 1, 1⟩ : Sl)), h40))) (
 condK (x0 == 8) (
 letH (growIf h0 7) fun h41 =>
 bindO (ldI .i64 h41 (add (⟨b, 0, some 0⟩ : Addr) 3)) fun x43 =>
 bindO (ldB h41 (add (⟨b, 0, some 0⟩ : Addr) 6)) fun x44 =>
 bind2 (ref1_bit x44 h41) fun x45 h42 =>
 letH (addP 1 h0.size [(5, (row 3 [(.int .i64 x43), (.int .i64 x45)]))] h42) fun h43 =>
 bindO (ldI .i64 h43 (add (⟨b, 0, some 0⟩ : Addr) 3)) fun x46 =>
 condK (x46 == x43) (
 letH (addP 127 h0.size [(5, (row 3 [(.int .i64 x43), (.int .i64 x45)]))] h42) fun h44 =>
 letH (tickIf 7 h44) fun h45 =>
 some (inl (((some (⟨b, 0, some 0⟩ : Addr)), (⟨(some (⟨(h0.size + 5), 0, some 0⟩ : Addr)), 2, 2⟩ : Sl)), h45))) none) (
 condK (x0 == 9) (
 bindO (ldL h0 (add (⟨b, 0, some 0⟩ : Addr) 7)) fun x47 =>
 newO (row 3 [(.int .i64 ((x47.len : Nat) : Int))]) h0 fun b18 h46 =>
 some (inl (((some (⟨b, 0, some 0⟩ : Addr)), (⟨(some (⟨b18, 0, some 0⟩ : Addr)), 1, 1⟩ : Sl)), h46))) (
 condK (x0 == 10) (
 condK (x0 == 10) (
 bindO (ldI .i64 h0 (add (⟨b, 0, some 0⟩ : Addr) 1)) fun x48 =>
 newO (row 3 [(.int .i64 x48)]) h0 fun b19 h47 =>
 some (inl (((some (⟨b, 0, some 0⟩ : Addr)), (⟨(some (⟨b19, 0, some 0⟩ : Addr)), 1, 1⟩ : Sl)), h47))) (
 some (inl (((some (⟨b, 0, some 0⟩ : Addr)), (⟨none, 0, 0⟩ : Sl)), h0)))) (
 condK (x0 == 11) (
 bindO (ldI .i64 h0 (add (⟨b, 0, some 0⟩ : Addr) 1)) fun x49 =>
 newO (row 3 [(.int .i64 x49)]) h0 fun b20 h48 =>
 some (inl (((some (⟨b, 0, some 0⟩ : Addr)), (⟨(some (⟨b20, 0, some 0⟩ : Addr)), 1, 1⟩ : Sl)), h48))) (
 some (inl (((some (⟨b, 0, some 0⟩ : Addr)), (⟨none, 0, 0⟩ : Sl)), h0)))))))))))))) fun (((f1, l), h1) : (((Option Addr) × Sl) × H)) =>
 ptrK f1 fun a0 =>
 letH (growIf h1 10) fun h2 =>
 bindO (ldI .i64 h2 (add a0 0)) fun x0 =>
 letH (addP 7 h1.size [(2, (row 3 [(.int .i64 x0)]))] h2) fun h3 =>
 bind2 (ref1_Put (⟨none, 0, 0⟩ : Sl) (⟨(some (⟨(h1.size + 2), 0, some 0⟩ : Addr)), 1, 1⟩ : Sl) h3) fun x1 h4 =>
 letH (addP 31 h1.size [(2, (row 3 [(.int .i64 x0)]))] h4) fun h5 =>
 bind2 (ref1_Put x1 l h5) fun x2 h6 =>
 ptrK f1 fun a1 =>
 letH (addP 64 h1.size [(2, (row 3 [(.int .i64 x0)]))] h6) fun h7 =>
 bindO (ldL h7 (add a1 7)) fun x3 =>
 letH (addP 255 h1.size [(2, (row 3 [(.int .i64 x0)]))] h6) fun h8 =>
 bind2 (appT 5 1 1 h8 x2 x3) fun x4 h9 =>
 letH (addP 64 h1.size [(2, (row 3 [(.int .i64 x0)]))] h4) fun h10 =>
 bindO (ldL h10 (add a1 7)) fun x5 =>
 condK (slEq x5.base x5.len x5.cap x3.base x3.len x3.cap) (
 letH (addP 64 h1.size [(2, (row 3 [(.int .i64 x0)]))] h2) fun h11 =>
 bindO (ldL h11 (add a1 7)) fun x6 =>
 condK (slEq x6.base x6.len x6.cap x3.base x3.len x3.cap) (
 letH (addP 1023 h1.size [(2, (row 3 [(.int .i64 x0)]))] h9) fun h12 =>
 letH (tickIf 10 h12) fun h13 =>
 some (x4, h13)) none) none
abbrev ref1_lay_l1 := P.ref1_lay_l1 ref1_bit ref1_Put
def ref1_lay : (J9) → H → Option ((Sl) × H) := P.ref1_lay ref1_bit ref1_Put
def ann_141 : Ann := ⟨fun i => bif i.beq 12 then some ⟨[1, 3, 4, 5], [eP_, eL_, eI_, eP_]⟩ else bif i.beq 30 then some ⟨[1, 3], [eP_, eL_]⟩ else none, fun i => bif i.beq 6 then some ⟨[1, 3, 4], [eP_, eL_, eI_]⟩ else none, fun _ => none⟩
def E_141 : Ent := V_141 ref1_lay
theorem eq_141 (ref1_bit : T_179) (ref1_Put : T_47) : runE [V_179 ref1_bit, V_47 ref1_Put] ann_141 Try.f141 (V_141 (P.ref1_lay ref1_bit ref1_Put)) = (V_141 (P.ref1_lay ref1_bit ref1_Put)).g := by kernel_rfl
theorem ok_141 : E_141.ok Tab.D := entT (entC ok_179 (entC ok_47 entN)) (by kernel_rfl) (by kernel_rfl) (by kernel_rfl) (eq_141 ref1_bit ref1_Put)
/-! ref1_LayFrames -/
abbrev T_129 := Sl → H → Option ((Sl × Int) × H)
abbrev V_129 (f : T_129) : Ent := ⟨129, [eL_], [eL_, eI_], fun (x : Sl) h => f x h⟩
def P.ref1_LayFrames_l1 (ref1_RightFrame : T_140) (ref1_lay : T_141) : ((Sl × (Sl × Int)) × H) → Option (((Sl × (Sl × Int)) × H) ⊕ ((Sl × H) ⊕ ((Sl × Int) × H))) := fun ((f, (out, i)), h0) =>
 condK (decide ((i < ((f.len : Nat) : Int)))) (
 bindO (ixT 9 f i) fun a0 =>
 bindO (ldZ j9 h0 a0) fun ((x0, x1, x2, x3, x4, x5, x6, x7, x8) : J9) =>
 bind2 (ref1_RightFrame (x0, x1, x2, x3, x4, x5, x6, x7, x8) h0) fun x9 h1 =>
 condK (!x9) (
 some (inr (inr (((⟨none, 0, 0⟩ : Sl), 1), h1)))) (
 bindO (ixT 9 f i) fun a1 =>
 bindO (ldZ j9 h1 a1) fun ((x10, x11, x12, x13, x14, x15, x16, x17, x18) : J9) =>
 bind2 (ref1_lay (x10, x11, x12, x13, x14, x15, x16, x17, x18) h1) fun x19 h2 =>
 bind2 (appT 5 1 1 h2 out x19) fun x20 h3 =>
 some (inl ((f, (x20, (IntKind.wrap .i64 (i + 1)))), h3)))) (
 some (inr (inl (out, h0))))

def P.ref1_LayFrames (ref1_RightFrame : T_140) (ref1_lay : T_141) (f : Sl) (h : H) : Option ((Sl × Int) × H) :=
 joinO (
 loopO (P.ref1_LayFrames_l1 ref1_RightFrame ref1_lay) ((f, ((⟨none, 0, 0⟩ : Sl), 0)), h)) fun ((out, h0) : (Sl × H)) =>
 some ((out, 0), h0)
abbrev ref1_LayFrames_l1 := P.ref1_LayFrames_l1 ref1_RightFrame ref1_lay
def ref1_LayFrames : Sl → H → Option ((Sl × Int) × H) := P.ref1_LayFrames ref1_RightFrame ref1_lay
def ann_129 : Ann := ⟨fun i => bif i.beq 8 then some ⟨[4], [eL_]⟩ else none, fun i => bif i.beq 3 then some ⟨[0, 4, 5], [eL_, eL_, eI_]⟩ else none, fun _ => none⟩
def E_129 : Ent := V_129 ref1_LayFrames
theorem eq_129 (ref1_RightFrame : T_140) (ref1_lay : T_141) : runE [V_140 ref1_RightFrame, V_141 ref1_lay] ann_129 Try.f129 (V_129 (P.ref1_LayFrames ref1_RightFrame ref1_lay)) = (V_129 (P.ref1_LayFrames ref1_RightFrame ref1_lay)).g := by kernel_rfl
theorem ok_129 : E_129.ok Tab.D := entT (entC ok_140 (entC ok_141 entN)) (by kernel_rfl) (by kernel_rfl) (by kernel_rfl) (eq_129 ref1_RightFrame ref1_lay)
/-! ref1_Bytes -/
abbrev T_131 := Int → Int → H → Option ((Int) × H)
abbrev V_131 (f : T_131) : Ent := ⟨131, [eI_, eI_], [eI_], fun (x : Int × Int) h => f x.1 x.2 h⟩
def ref1_Bytes_l1 : ((Int × (Int × Int)) × H) → Option (((Int × (Int × Int)) × H) ⊕ (Int × H)) := fun ((n, (acked, k)), h0) =>
 condK (decide ((k < 4))) (
 joinO (
 condK (decide ((n ≤ acked))) (
 some (inl ((n, (acked, (k, true))), h0))) (
 letO ((IntKind.wrap .u64 ((IntKind.wrap .u64 n) - (IntKind.wrap .u64 acked)))) fun x0 =>
 letO ((IntKind.wrap .u64 (IntKind.wrap .i64 ((IntKind.wrap .i64 (8 * k)) - 1)))) fun x1 =>
 bindO (shlT .u64 1 .u64 x1) fun x2 =>
 some (inl ((n, (acked, (k, (decide ((x0 ≤ x2)))))), h0)))) fun (((n1, (acked1, (k1, x0))), h1) : ((Int × (Int × (Int × Bool))) × H)) =>
 condK x0 (
 some (inr (k1, h1))) (
 some (inl ((n1, (acked1, (IntKind.wrap .i64 (k1 + 1)))), h1)))) (
 some (inr (4, h0)))

def ref1_Bytes (n : Int) (acked : Int) (h : H) : Option (Int × H) :=
 loopO ref1_Bytes_l1 ((n, (acked, 1)), h)
def ann_131 : Ann := ⟨fun _ => none, fun i => bif i.beq 2 then some ⟨[0, 1, 5], [eI_, eI_, eI_]⟩ else none, fun i => bif i.beq 4 then some ⟨[0, 1, 5, 25], [eI_, eI_, eI_, eB_]⟩ else none⟩
def E_131 : Ent := V_131 ref1_Bytes
theorem eq_131 : runE [] ann_131 Try.f131 (V_131 ref1_Bytes) = (V_131 ref1_Bytes).g := by kernel_rfl
theorem ok_131 : E_131.ok Tab.D := entT entN (by kernel_rfl) (by kernel_rfl) (by kernel_rfl) eq_131
/-! ref1_Room -/
abbrev T_78 := Int → Int → H → Option ((Int) × H)
abbrev V_78 (f : T_78) : Ent := ⟨78, [eI_, eI_], [eI_], fun (x : Int × Int) h => f x.1 x.2 h⟩
def P.ref1_Room (ref1_Bytes : T_131) (num : Int) (acked : Int) (h : H) : Option (Int × H) :=
 bind2 (ref1_Bytes num acked h) fun x0 h0 =>
 some ((IntKind.wrap .i64 (231 - x0)), h0)
def ref1_Room : Int → Int → H → Option ((Int) × H) := P.ref1_Room ref1_Bytes
def ann_78 : Ann := ⟨fun _ => none, fun _ => none, fun _ => none⟩
def E_78 : Ent := V_78 ref1_Room
theorem eq_78 (ref1_Bytes : T_131) : runE [V_131 ref1_Bytes] ann_78 Try.f78 (V_78 (P.ref1_Room ref1_Bytes)) = (V_78 (P.ref1_Room ref1_Bytes)).g := by kernel_rfl
theorem ok_78 : E_78.ok Tab.D := entT (entC ok_131 entN) (by kernel_rfl) (by kernel_rfl) (by kernel_rfl) (eq_78 ref1_Bytes)
/-! ref1_headOf -/
abbrev T_130 := Int → Int → H → Option ((Sl) × H)
abbrev V_130 (f : T_130) : Ent := ⟨130, [eI_, eI_], [eL_], fun (x : Int × Int) h => f x.1 x.2 h⟩
def ref1_headOf_l1 : ((Int × (Sl × Int)) × H) → Option (((Int × (Sl × Int)) × H) ⊕ ((Sl × H) ⊕ (Sl × H))) := fun ((num, (out, i)), h0) =>
 condK (decide ((i ≥ 0))) (
 bindO (shrT .i64 num .u64 (IntKind.wrap .u64 (IntKind.wrap .i64 (8 * i)))) fun x0 =>
 newO (row 5 [(.int .u8 (IntKind.wrap .u8 x0))]) h0 fun b h1 =>
 bind2 (appT 5 1 1 h1 out (⟨(some (⟨b, 0, some 0⟩ : Addr)), 1, 1⟩ : Sl)) fun x1 h2 =>
 some (inl ((num, (x1, (IntKind.wrap .i64 (i - 1)))), h2))) (
 some (inr (inl (out, h0))))

def ref1_headOf (num : Int) (k : Int) (h : H) : Option (Sl × H) :=
 newO (row 5 [(.int .u8 (IntKind.wrap .u8 (IntKind.wrap .i64 (63 + k))))]) h fun b h0 =>
 joinO (
 loopO ref1_headOf_l1 ((num, ((⟨(some (⟨b, 0, some 0⟩ : Addr)), 1, 1⟩ : Sl), (IntKind.wrap .i64 (k - 1)))), h0)) fun ((out, h1) : (Sl × H)) =>
 some (out, h1)
def ann_130 : Ann := ⟨fun i => bif i.beq 6 then some ⟨[5], [eL_]⟩ else none, fun i => bif i.beq 3 then some ⟨[0, 5, 6], [eI_, eL_, eI_]⟩ else none, fun _ => none⟩
def E_130 : Ent := V_130 ref1_headOf
theorem eq_130 : runE [] ann_130 Try.f130 (V_130 ref1_headOf) = (V_130 ref1_headOf).g := by kernel_rfl
theorem ok_130 : E_130.ok Tab.D := entT entN (by kernel_rfl) (by kernel_rfl) (by kernel_rfl) eq_130
/-! ref1_Step -/
abbrev T_135 := Int → Int → H → Option ((Int) × H)
abbrev V_135 (f : T_135) : Ent := ⟨135, [⟨false, [.int .u64]⟩, ⟨false, [.int .u64]⟩], [⟨false, [.int .u64]⟩], fun (x : Int × Int) h => f x.1 x.2 h⟩
def ref1_Step (h0 : Int) (c : Int) (h : H) : Option (Int × H) :=
 letO ((IntKind.wrap .u64 ((IntKind.wrap .u64 (h0 * 8192)) + (IntKind.wrap .u64 (Int.tdiv h0 2251799813685248))))) fun x0 =>
 letO ((IntKind.wrap .u64 (((BitVec.toNat ((BitVec.ofInt 64 x0) ^^^ (BitVec.ofInt 64 c))) : Nat) : Int))) fun x1 =>
 some ((IntKind.wrap .u64 (x1 * 15485907386658061715)), h)
def ann_135 : Ann := ⟨fun _ => none, fun _ => none, fun _ => none⟩
def E_135 : Ent := V_135 ref1_Step
theorem eq_135 : runE [] ann_135 Try.f135 (V_135 ref1_Step) = (V_135 ref1_Step).g := by kernel_rfl
theorem ok_135 : E_135.ok Tab.D := entT entN (by kernel_rfl) (by kernel_rfl) (by kernel_rfl) eq_135
/-! ref1_Mask -/
abbrev T_132 := Int → Int → Sl → H → Option ((Sl) × H)
abbrev V_132 (f : T_132) : Ent := ⟨132, [⟨false, [.int .u64]⟩, eI_, eL_], [eL_], fun (x : Int × Int × Sl) h => f x.1 x.2.1 x.2.2 h⟩
def P.ref1_Mask_l1 (ref1_Step : T_135) : ((Int × (Int × (Sl × (Sl × Int)))) × H) → Option (((Int × (Int × (Sl × (Sl × Int)))) × H) ⊕ ((Sl × H) ⊕ (Sl × H))) := fun ((key, (num, (b, (out, i)))), h0) =>
 condK (decide ((i < ((b.len : Nat) : Int)))) (
 letH (growIf h0 18) fun h1 =>
 bindO (ixT 1 b i) fun a0 =>
 bindO (ldI .u8 h1 a0) fun x0 =>
 bind2 (ref1_Step key (IntKind.wrap .u64 num) h1) fun x1 h2 =>
 bind2 (ref1_Step x1 (IntKind.wrap .u64 i) h2) fun x2 h3 =>
 letO ((IntKind.wrap .u8 (((BitVec.toNat ((BitVec.ofInt 8 x0) ^^^ (BitVec.ofInt 8 (IntKind.wrap .u8 (Int.fdiv x2 4294967296))))) : Nat) : Int))) fun x3 =>
 letH (addP 65535 h0.size [(15, (row 5 [(.int .u8 x3)]))] h3) fun h4 =>
 bind2 (appT 5 1 1 h4 out (⟨(some (⟨(h0.size + 15), 0, some 0⟩ : Addr)), 1, 1⟩ : Sl)) fun x4 h5 =>
 letH (addP 14 h0.size [(15, (row 5 [(.int .u8 x3)]))] h3) fun h6 =>
 bindO (ldI .u8 h6 a0) fun x5 =>
 condK (x5 == x0) (
 letH (addP 14 h0.size [(15, (row 5 [(.int .u8 x3)]))] h2) fun h7 =>
 bindO (ldI .u8 h7 a0) fun x6 =>
 condK (x6 == x0) (
 letH (addP 262143 h0.size [(15, (row 5 [(.int .u8 x3)]))] h5) fun h8 =>
 letH (tickIf 18 h8) fun h9 =>
 some (inl ((key, (num, (b, (x4, (IntKind.wrap .i64 (i + 1)))))), h9))) none) none) (
 some (inr (inl (out, h0))))

def P.ref1_Mask (ref1_Step : T_135) (key : Int) (num : Int) (b : Sl) (h : H) : Option (Sl × H) :=
 joinO (
 loopO (P.ref1_Mask_l1 ref1_Step) ((key, (num, (b, ((⟨none, 0, 0⟩ : Sl), 0)))), h)) fun ((out, h0) : (Sl × H)) =>
 some (out, h0)
abbrev ref1_Mask_l1 := P.ref1_Mask_l1 ref1_Step
def ref1_Mask : Int → Int → Sl → H → Option ((Sl) × H) := P.ref1_Mask ref1_Step
def ann_132 : Ann := ⟨fun i => bif i.beq 6 then some ⟨[7], [eL_]⟩ else none, fun i => bif i.beq 3 then some ⟨[0, 1, 2, 7, 8], [⟨false, [.int .u64]⟩, eI_, eL_, eL_, eI_]⟩ else none, fun _ => none⟩
def E_132 : Ent := V_132 ref1_Mask
theorem eq_132 (ref1_Step : T_135) : runE [V_135 ref1_Step] ann_132 Try.f132 (V_132 (P.ref1_Mask ref1_Step)) = (V_132 (P.ref1_Mask ref1_Step)).g := by kernel_rfl
theorem ok_132 : E_132.ok Tab.D := entT (entC ok_135 entN) (by kernel_rfl) (by kernel_rfl) (by kernel_rfl) (eq_132 ref1_Step)
/-! ref1_Tag -/
abbrev T_134 := Int → Sl → H → Option ((Int) × H)
abbrev V_134 (f : T_134) : Ent := ⟨134, [⟨false, [.int .u64]⟩, eL_], [⟨false, [.int .u64]⟩], fun (x : Int × Sl) h => f x.1 x.2 h⟩
def P.ref1_Tag_l2 (ref1_Step : T_135) : ((Sl × (Int × (Int × Int))) × H) → Option (((Sl × (Int × (Int × Int))) × H) ⊕ (((Sl × (Int × Int)) × H) ⊕ (((Sl × (Int × Int)) × H) ⊕ (((Sl × (Int × Int)) × H) ⊕ ((Int × H) ⊕ (Int × H)))))) := fun ((parts, (h0, (i, k))), h1) =>
 bindO (ixT 1 parts i) fun a0 =>
 bindO (ldL h1 a0) fun x0 =>
 condK (decide ((k < ((x0.len : Nat) : Int)))) (
 bindO (ixT 1 parts i) fun a1 =>
 bindO (ldL h1 a1) fun x1 =>
 bindO (ixT 1 x1 k) fun a2 =>
 bindO (ldI .u8 h1 a2) fun x2 =>
 bind2 (ref1_Step h0 (IntKind.wrap .u64 x2) h1) fun x3 h2 =>
 some (inl ((parts, (x3, (i, (IntKind.wrap .i64 (k + 1))))), h2))) (
 some (inr (inl ((parts, (h0, i)), h1))))

def P.ref1_Tag_l1 (ref1_Step : T_135) : ((Sl × (Int × Int)) × H) → Option (((Sl × (Int × Int)) × H) ⊕ ((Int × H) ⊕ (Int × H))) := fun ((parts, (h0, i)), h1) =>
 condK (decide ((i < ((parts.len : Nat) : Int)))) (
 joinO (
 joinO (
 loopO (P.ref1_Tag_l2 ref1_Step) ((parts, (h0, (i, 0))), h1)) fun (((parts1, (h2, i1)), h3) : ((Sl × (Int × Int)) × H)) =>
 bindO (ixT 1 parts1 i1) fun a0 =>
 bindO (ldL h3 a0) fun x0 =>
 bind2 (ref1_Step h2 (IntKind.wrap .u64 (256 + (IntKind.wrap .u64 ((x0.len : Nat) : Int)))) h3) fun x1 h4 =>
 some (inl ((parts1, (x1, i1)), h4))) fun (((parts1, (h2, i1)), h3) : ((Sl × (Int × Int)) × H)) =>
 some (inl ((parts1, (h2, (IntKind.wrap .i64 (i1 + 1)))), h3))) (
 some (inr (inl (h0, h1))))

def P.ref1_Tag (ref1_Step : T_135) (key : Int) (parts : Sl) (h : H) : Option (Int × H) :=
 joinO (
 loopO (P.ref1_Tag_l1 ref1_Step) ((parts, (key, 0)), h)) fun ((h0, h1) : (Int × H)) =>
 some (h0, h1)
abbrev ref1_Tag_l2 := P.ref1_Tag_l2 ref1_Step
abbrev ref1_Tag_l1 := P.ref1_Tag_l1 ref1_Step
def ref1_Tag : Int → Sl → H → Option ((Int) × H) := P.ref1_Tag ref1_Step
def ann_134 : Ann := ⟨fun i => bif i.beq 4 then some ⟨[1, 5, 6], [eL_, ⟨false, [.int .u64]⟩, eI_]⟩ else bif i.beq 9 then some ⟨[1, 5, 6], [eL_, ⟨false, [.int .u64]⟩, eI_]⟩ else bif i.beq 10 then some ⟨[5], [⟨false, [.int .u64]⟩]⟩ else none, fun i => bif i.beq 3 then some ⟨[1, 5, 6], [eL_, ⟨false, [.int .u64]⟩, eI_]⟩ else bif i.beq 6 then some ⟨[1, 5, 6, 7], [eL_, ⟨false, [.int .u64]⟩, eI_, eI_]⟩ else none, fun _ => none⟩
def E_134 : Ent := V_134 ref1_Tag
theorem eq_134 (ref1_Step : T_135) : runE [V_135 ref1_Step] ann_134 Try.f134 (V_134 (P.ref1_Tag ref1_Step)) = (V_134 (P.ref1_Tag ref1_Step)).g := by kernel_rfl
theorem ok_134 : E_134.ok Tab.D := entT (entC ok_135 entN) (by kernel_rfl) (by kernel_rfl) (by kernel_rfl) (eq_134 ref1_Step)
/-! ref1_eight -/
abbrev T_133 := Int → H → Option ((Sl) × H)
abbrev V_133 (f : T_133) : Ent := ⟨133, [⟨false, [.int .u64]⟩], [eL_], fun (x : Int) h => f x h⟩
def ref1_eight_l1 : ((Int × (Sl × Int)) × H) → Option (((Int × (Sl × Int)) × H) ⊕ ((Sl × H) ⊕ (Sl × H))) := fun ((h0, (out, i)), h1) =>
 condK (decide ((i ≥ 0))) (
 bindO (ixT 1 out i) fun a0 =>
 bindO (st1 h1 a0 (.int .u8 (IntKind.wrap .u8 (Int.tmod h0 256)))) fun h2 =>
 some (inl (((IntKind.wrap .u64 (Int.tdiv h0 256)), (out, (IntKind.wrap .i64 (i - 1)))), h2))) (
 some (inr (inl (out, h1))))

def ref1_eight (h0 : Int) (h : H) : Option (Sl × H) :=
 bind2 (mkT 5 1 1 (.int .u8 0) h 8 8) fun x0 h1 =>
 joinO (
 loopO ref1_eight_l1 ((h0, (x0, 7)), h1)) fun ((out, h2) : (Sl × H)) =>
 some (out, h2)
def ann_133 : Ann := ⟨fun i => bif i.beq 7 then some ⟨[3], [eL_]⟩ else none, fun i => bif i.beq 3 then some ⟨[0, 3, 4], [⟨false, [.int .u64]⟩, eL_, eI_]⟩ else none, fun _ => none⟩
def E_133 : Ent := V_133 ref1_eight
theorem eq_133 : runE [] ann_133 Try.f133 (V_133 ref1_eight) = (V_133 ref1_eight).g := by kernel_rfl
theorem ok_133 : E_133.ok Tab.D := entT entN (by kernel_rfl) (by kernel_rfl) (by kernel_rfl) eq_133
/-! ref1_Close -/
abbrev T_79 := Int → Int → Sl → Sl → H → Option ((Sl) × H)
abbrev V_79 (f : T_79) : Ent := ⟨79, [⟨false, [.int .u64]⟩, eI_, eL_, eL_], [eL_], fun (x : Int × Int × Sl × Sl) h => f x.1 x.2.1 x.2.2.1 x.2.2.2 h⟩
def P.ref1_Close (ref1_Mask : T_132) (ref1_Step : T_135) (ref1_Tag : T_134) (ref1_eight : T_133) (key : Int) (num : Int) (head : Sl) (body : Sl) (h : H) : Option (Sl × H) :=
 bind2 (ref1_Mask key num body h) fun x0 h0 =>
 newO (row 5 []) h0 fun b h1 =>
 bind2 (appT 5 1 1 h1 (⟨(some (⟨b, 0, some 0⟩ : Addr)), 0, 0⟩ : Sl) x0) fun x1 h2 =>
 bind2 (ref1_Step key (IntKind.wrap .u64 num) h2) fun x2 h3 =>
 newO (row 30 [(.slice head.base head.len head.cap), (.slice x0.base x0.len x0.cap)]) h3 fun b1 h4 =>
 bind2 (ref1_Tag x2 (⟨(some (⟨b1, 0, some 0⟩ : Addr)), 2, 2⟩ : Sl) h4) fun x3 h5 =>
 bind2 (ref1_eight x3 h5) fun x4 h6 =>
 bind2 (appT 5 1 1 h6 x1 x4) fun x5 h7 =>
 some (x5, h7)
def ref1_Close : Int → Int → Sl → Sl → H → Option ((Sl) × H) := P.ref1_Close ref1_Mask ref1_Step ref1_Tag ref1_eight
def ann_79 : Ann := ⟨fun _ => none, fun _ => none, fun _ => none⟩
def E_79 : Ent := V_79 ref1_Close
theorem eq_79 (ref1_Mask : T_132) (ref1_Step : T_135) (ref1_Tag : T_134) (ref1_eight : T_133) : runE [V_132 ref1_Mask, V_135 ref1_Step, V_134 ref1_Tag, V_133 ref1_eight] ann_79 Try.f79 (V_79 (P.ref1_Close ref1_Mask ref1_Step ref1_Tag ref1_eight)) = (V_79 (P.ref1_Close ref1_Mask ref1_Step ref1_Tag ref1_eight)).g := by kernel_rfl
theorem ok_79 : E_79.ok Tab.D := entT (entC ok_132 (entC ok_135 (entC ok_134 (entC ok_133 entN)))) (by kernel_rfl) (by kernel_rfl) (by kernel_rfl) (eq_79 ref1_Mask ref1_Step ref1_Tag ref1_eight)
/-! ref1_LayPacket -/
abbrev T_77 := Int → Int → Int → Sl → H → Option ((Sl × Int) × H)
abbrev V_77 (f : T_77) : Ent := ⟨77, [⟨false, [.int .u64]⟩, eI_, eI_, eL_], [eL_, eI_], fun (x : Int × Int × Int × Sl) h => f x.1 x.2.1 x.2.2.1 x.2.2.2 h⟩
def P.ref1_LayPacket (ref1_May : T_103) (ref1_LayFrames : T_129) (ref1_Room : T_78) (ref1_Bytes : T_131) (ref1_headOf : T_130) (ref1_Close : T_79) (key : Int) (num : Int) (acked : Int) (f : Sl) (h : H) : Option ((Sl × Int) × H) :=
 joinO (
 bind2 (ref1_May num h) fun x0 h0 =>
 condK (!x0) (
 some (inl ((key, (num, (acked, (f, true)))), h0))) (
 condK (decide ((acked < (-1)))) (
 some (inl ((key, (num, (acked, (f, true)))), h0))) (
 some (inl ((key, (num, (acked, (f, (decide ((acked ≥ num))))))), h0))))) fun (((key1, (num1, (acked1, (f1, x0)))), h0) : ((Int × (Int × (Int × (Sl × Bool)))) × H)) =>
 condK x0 (
 some (((⟨none, 0, 0⟩ : Sl), 1), h0)) (
 bind2 (ref1_LayFrames f1 h0) fun ((x1, x2) : Sl × Int) (h1 : H) =>
 condK (x2 != 0) (
 some (((⟨none, 0, 0⟩ : Sl), x2), h1)) (
 bind2 (ref1_Room num1 acked1 h1) fun x3 h2 =>
 condK (decide ((((x1.len : Nat) : Int) > x3))) (
 some (((⟨none, 0, 0⟩ : Sl), 9), h2)) (
 bind2 (ref1_Bytes num1 acked1 h2) fun x4 h3 =>
 bind2 (ref1_headOf num1 x4 h3) fun x5 h4 =>
 newO (row 5 []) h4 fun b h5 =>
 bind2 (appT 5 1 1 h5 (⟨(some (⟨b, 0, some 0⟩ : Addr)), 0, 0⟩ : Sl) x5) fun x6 h6 =>
 bind2 (ref1_Close key1 num1 x5 x1 h6) fun x7 h7 =>
 bind2 (appT 5 1 1 h7 x6 x7) fun x8 h8 =>
 some ((x8, 0), h8))))
def ref1_LayPacket : Int → Int → Int → Sl → H → Option ((Sl × Int) × H) := P.ref1_LayPacket ref1_May ref1_LayFrames ref1_Room ref1_Bytes ref1_headOf ref1_Close
def ann_77 : Ann := ⟨fun _ => none, fun _ => none, fun i => bif i.beq 1 then some ⟨[0, 1, 2, 3, 24], [⟨false, [.int .u64]⟩, eI_, eI_, eL_, eB_]⟩ else none⟩
def E_77 : Ent := V_77 ref1_LayPacket
theorem eq_77 (ref1_May : T_103) (ref1_LayFrames : T_129) (ref1_Room : T_78) (ref1_Bytes : T_131) (ref1_headOf : T_130) (ref1_Close : T_79) : runE [V_103 ref1_May, V_129 ref1_LayFrames, V_78 ref1_Room, V_131 ref1_Bytes, V_130 ref1_headOf, V_79 ref1_Close] ann_77 Try.f77 (V_77 (P.ref1_LayPacket ref1_May ref1_LayFrames ref1_Room ref1_Bytes ref1_headOf ref1_Close)) = (V_77 (P.ref1_LayPacket ref1_May ref1_LayFrames ref1_Room ref1_Bytes ref1_headOf ref1_Close)).g := by kernel_rfl
theorem ok_77 : E_77.ok Tab.D := entT (entC ok_103 (entC ok_129 (entC ok_78 (entC ok_131 (entC ok_130 (entC ok_79 entN)))))) (by kernel_rfl) (by kernel_rfl) (by kernel_rfl) (eq_77 ref1_May ref1_LayFrames ref1_Room ref1_Bytes ref1_headOf ref1_Close)
/-! ref1_Within -/
abbrev T_174 := Int → Int → Int → H → Option ((Int) × H)
abbrev V_174 (f : T_174) : Ent := ⟨174, [eI_, eI_, eI_], [eI_], fun (x : Int × Int × Int) h => f x.1 x.2.1 x.2.2 h⟩
def ref1_Within (n : Int) (low : Int) (high : Int) (h : H) : Option (Int × H) :=
 letO ((if ((if (n < high) then n else high) > low) then (if (n < high) then n else high) else low)) fun x0 =>
 some (x0, h)
def ann_174 : Ann := ⟨fun _ => none, fun _ => none, fun _ => none⟩
def E_174 : Ent := V_174 ref1_Within
theorem eq_174 : runE [] ann_174 Try.f174 (V_174 ref1_Within) = (V_174 ref1_Within).g := by kernel_rfl
theorem ok_174 : E_174.ok Tab.D := entT entN (by kernel_rfl) (by kernel_rfl) (by kernel_rfl) eq_174
/-! ref1_radix -/
abbrev T_173 := Int → H → Option ((Int) × H)
abbrev V_173 (f : T_173) : Ent := ⟨173, [eI_], [eI_], fun (x : Int) h => f x h⟩
def P.ref1_radix (ref1_Within : T_174) (k : Int) (h : H) : Option (Int × H) :=
 bind2 (ref1_Within k 1 4 h) fun x0 h0 =>
 bindO (shlT .i64 1 .u64 (IntKind.wrap .u64 (IntKind.wrap .i64 (8 * x0)))) fun x1 =>
 some (x1, h0)
def ref1_radix : Int → H → Option ((Int) × H) := P.ref1_radix ref1_Within
def ann_173 : Ann := ⟨fun _ => none, fun _ => none, fun _ => none⟩
def E_173 : Ent := V_173 ref1_radix
theorem eq_173 (ref1_Within : T_174) : runE [V_174 ref1_Within] ann_173 Try.f173 (V_173 (P.ref1_radix ref1_Within)) = (V_173 (P.ref1_radix ref1_Within)).g := by kernel_rfl
theorem ok_173 : E_173.ok Tab.D := entT (entC ok_174 entN) (by kernel_rfl) (by kernel_rfl) (by kernel_rfl) (eq_173 ref1_Within)
/-! ref1_modulo -/
abbrev T_175 := Int → Int → H → Option ((Int) × H)
abbrev V_175 (f : T_175) : Ent := ⟨175, [eI_, eI_], [eI_], fun (x : Int × Int) h => f x.1 x.2 h⟩
def ref1_modulo (n : Int) (m : Int) (h : H) : Option (Int × H) :=
 bindO (remT .i64 n m) fun x0 =>
 bindO (remT .i64 (IntKind.wrap .i64 (x0 + m)) m) fun x1 =>
 some (x1, h)
def ann_175 : Ann := ⟨fun _ => none, fun _ => none, fun _ => none⟩
def E_175 : Ent := V_175 ref1_modulo
theorem eq_175 : runE [] ann_175 Try.f175 (V_175 ref1_modulo) = (V_175 ref1_modulo).g := by kernel_rfl
theorem ok_175 : E_175.ok Tab.D := entT entN (by kernel_rfl) (by kernel_rfl) (by kernel_rfl) eq_175
/-! ref1_Back -/
abbrev T_136 := Int → Int → Int → H → Option ((Int) × H)
abbrev V_136 (f : T_136) : Ent := ⟨136, [eI_, eI_, eI_], [eI_], fun (x : Int × Int × Int) h => f x.1 x.2.1 x.2.2 h⟩
def P.ref1_Back_l1 (ref1_radix : T_173) (ref1_Within : T_174) (ref1_modulo : T_175) (ref1_May : T_103) : ((Int × (Int × (Int × (Int × Int)))) × H) → Option (((Int × (Int × (Int × (Int × Int)))) × H) ⊕ ((Int × H) ⊕ (Int × H))) := fun ((next, (m, (best, (at', i)))), h0) =>
 condK (decide ((i < 3))) (
 joinO (
 bind2 (ref1_May (IntKind.wrap .i64 (at' + (IntKind.wrap .i64 (i * m)))) h0) fun x0 h1 =>
 condK (!x0) (
 some (inl ((next, (m, (best, (at', i)))), h1))) (
 letO ((IntKind.wrap .i64 ((IntKind.wrap .i64 (at' + (IntKind.wrap .i64 (i * m)))) - next))) fun x1 =>
 letO ((IntKind.wrap .i64 (next - (IntKind.wrap .i64 (at' + (IntKind.wrap .i64 (i * m))))))) fun x2 =>
 joinO (
 condK (decide ((best < 0))) (
 some (inl ((next, (m, (best, (at', (i, ((IntKind.wrap .i64 (at' + (IntKind.wrap .i64 (i * m)))), true)))))), h1))) (
 letO ((if ((IntKind.wrap .i64 (next - best)) > (IntKind.wrap .i64 (best - next))) then (IntKind.wrap .i64 (next - best)) else (IntKind.wrap .i64 (best - next)))) fun x3 =>
 condK (decide (((if (x2 > x1) then x2 else x1) < x3))) (
 some (inl ((next, (m, (best, (at', (i, ((IntKind.wrap .i64 (at' + (IntKind.wrap .i64 (i * m)))), true)))))), h1))) (
 letO ((if ((IntKind.wrap .i64 (next - best)) > (IntKind.wrap .i64 (best - next))) then (IntKind.wrap .i64 (next - best)) else (IntKind.wrap .i64 (best - next)))) fun x4 =>
 condK ((if (x2 > x1) then x2 else x1) == x4) (
 letO ((decide (((IntKind.wrap .i64 (at' + (IntKind.wrap .i64 (i * m)))) > best)))) fun x5 =>
 some (inl ((next, (m, (best, (at', (i, ((IntKind.wrap .i64 (at' + (IntKind.wrap .i64 (i * m)))), x5)))))), h1))) (
 some (inl ((next, (m, (best, (at', (i, ((IntKind.wrap .i64 (at' + (IntKind.wrap .i64 (i * m)))), false)))))), h1)))))) fun (((next1, (m1, (best1, (at'1, (i1, (n, x3)))))), h2) : ((Int × (Int × (Int × (Int × (Int × (Int × Bool)))))) × H)) =>
 condK x3 (
 some (inl ((next1, (m1, (n, (at'1, i1)))), h2))) (
 some (inl ((next1, (m1, (best1, (at'1, i1)))), h2))))) fun (((next1, (m1, (best1, (at'1, i1)))), h1) : ((Int × (Int × (Int × (Int × Int)))) × H)) =>
 some (inl ((next1, (m1, (best1, (at'1, (IntKind.wrap .i64 (i1 + 1)))))), h1))) (
 some (inr (inl (best, h0))))

def P.ref1_Back (ref1_radix : T_173) (ref1_Within : T_174) (ref1_modulo : T_175) (ref1_May : T_103) (cut : Int) (k : Int) (next : Int) (h : H) : Option (Int × H) :=
 bind2 (ref1_radix k h) fun x0 h0 =>
 bind2 (ref1_Within next 0 4611686018427387903 h0) fun x1 h1 =>
 bind2 (ref1_modulo cut x0 h1) fun x2 h2 =>
 bind2 (ref1_modulo (IntKind.wrap .i64 (x1 - x2)) x0 h2) fun x3 h3 =>
 joinO (
 loopO (P.ref1_Back_l1 ref1_radix ref1_Within ref1_modulo ref1_May) ((x1, (x0, ((-1), ((IntKind.wrap .i64 (x1 - x3)), (-1))))), h3)) fun ((best, h4) : (Int × H)) =>
 some (best, h4)
abbrev ref1_Back_l1 := P.ref1_Back_l1 ref1_radix ref1_Within ref1_modulo ref1_May
def ref1_Back : Int → Int → Int → H → Option ((Int) × H) := P.ref1_Back ref1_radix ref1_Within ref1_modulo ref1_May
def ann_136 : Ann := ⟨fun i => bif i.beq 7 then some ⟨[2, 7, 8, 9, 10], [eI_, eI_, eI_, eI_, eI_]⟩ else bif i.beq 13 then some ⟨[8], [eI_]⟩ else none, fun i => bif i.beq 6 then some ⟨[2, 7, 8, 9, 10], [eI_, eI_, eI_, eI_, eI_]⟩ else none, fun i => bif i.beq 11 then some ⟨[2, 7, 8, 9, 10, 11, 73], [eI_, eI_, eI_, eI_, eI_, eI_, eB_]⟩ else none⟩
def E_136 : Ent := V_136 ref1_Back
theorem eq_136 (ref1_radix : T_173) (ref1_Within : T_174) (ref1_modulo : T_175) (ref1_May : T_103) : runE [V_173 ref1_radix, V_174 ref1_Within, V_175 ref1_modulo, V_103 ref1_May] ann_136 Try.f136 (V_136 (P.ref1_Back ref1_radix ref1_Within ref1_modulo ref1_May)) = (V_136 (P.ref1_Back ref1_radix ref1_Within ref1_modulo ref1_May)).g := by kernel_rfl
theorem ok_136 : E_136.ok Tab.D := entT (entC ok_173 (entC ok_174 (entC ok_175 (entC ok_103 entN)))) (by kernel_rfl) (by kernel_rfl) (by kernel_rfl) (eq_136 ref1_radix ref1_Within ref1_modulo ref1_May)
/-! ref1_Open -/
abbrev T_137 := Int → Int → Sl → Sl → H → Option ((Sl × Bool) × H)
abbrev V_137 (f : T_137) : Ent := ⟨137, [⟨false, [.int .u64]⟩, eI_, eL_, eL_], [eL_, eB_], fun (x : Int × Int × Sl × Sl) h => f x.1 x.2.1 x.2.2.1 x.2.2.2 h⟩
def P.ref1_Open (ref1_Step : T_135) (ref1_Tag : T_134) (ref1_eight : T_133) (ref1_Mask : T_132) (key : Int) (num : Int) (head : Sl) (sealed : Sl) (h : H) : Option ((Sl × Bool) × H) :=
 joinO (
 letH (growIf h 21) fun h0 =>
 condK (decide (((IntKind.wrap .i64 (((sealed.len : Nat) : Int) - 8)) < 0))) (
 letH (tickIf 21 h0) fun h1 =>
 some (inl ((key, (num, (sealed, ((IntKind.wrap .i64 (((sealed.len : Nat) : Int) - 8)), true)))), h1))) (
 bind2 (ref1_Step key (IntKind.wrap .u64 num) h0) fun x0 h2 =>
 bindO (slT 1 h2 sealed none (some (IntKind.wrap .i64 (((sealed.len : Nat) : Int) - 8))) none) fun x1 =>
 letH (addP 4095 h.size [(11, (row 30 [(.slice head.base head.len head.cap), (.slice x1.base x1.len x1.cap)]))] h2) fun h3 =>
 bind2 (ref1_Tag x0 (⟨(some (⟨(h.size + 11), 0, some 0⟩ : Addr)), 2, 2⟩ : Sl) h3) fun x2 h4 =>
 letH (addP 8191 h.size [(11, (row 30 [(.slice head.base head.len head.cap), (.slice x1.base x1.len x1.cap)]))] h4) fun h5 =>
 bind2 (ref1_eight x2 h5) fun x3 h6 =>
 letH (addP 16383 h.size [(11, (row 30 [(.slice head.base head.len head.cap), (.slice x1.base x1.len x1.cap)]))] h6) fun h7 =>
 bind2 (strT h7 x3) fun x4 h8 =>
 letH (addP 98311 h.size [(11, (row 30 [(.slice head.base head.len head.cap), (.slice x1.base x1.len x1.cap)]))] h6) fun h9 =>
 bindO (slT 1 h9 sealed (some (IntKind.wrap .i64 (((sealed.len : Nat) : Int) - 8))) none none) fun x5 =>
 letH (addP 229383 h.size [(11, (row 30 [(.slice head.base head.len head.cap), (.slice x1.base x1.len x1.cap)]))] h6) fun h10 =>
 bind2 (strT h10 x5) fun x6 h11 =>
 letH (addP 229383 h.size [(11, (row 30 [(.slice head.base head.len head.cap), (.slice x1.base x1.len x1.cap)]))] h4) fun h12 =>
 bind2 (strT h12 x5) fun x7 h13 =>
 condK (x7.data.toList == x6.data.toList) (
 letH (addP 229383 h.size [(11, (row 30 [(.slice head.base head.len head.cap), (.slice x1.base x1.len x1.cap)]))] h2) fun h14 =>
 bind2 (strT h14 x5) fun x8 h15 =>
 condK (x8.data.toList == x6.data.toList) (
 letH (addP 229383 h.size [(11, (row 30 [(.slice head.base head.len head.cap), (.slice x1.base x1.len x1.cap)]))] h0) fun h16 =>
 bind2 (strT h16 x5) fun x9 h17 =>
 condK (x9.data.toList == x6.data.toList) (
 letH (addP 98311 h.size [(11, (row 30 [(.slice head.base head.len head.cap), (.slice x1.base x1.len x1.cap)]))] h4) fun h18 =>
 bindO (slT 1 h18 sealed (some (IntKind.wrap .i64 (((sealed.len : Nat) : Int) - 8))) none none) fun x10 =>
 condK (slEq x10.base x10.len x10.cap x5.base x5.len x5.cap) (
 letH (addP 98311 h.size [(11, (row 30 [(.slice head.base head.len head.cap), (.slice x1.base x1.len x1.cap)]))] h2) fun h19 =>
 bindO (slT 1 h19 sealed (some (IntKind.wrap .i64 (((sealed.len : Nat) : Int) - 8))) none none) fun x11 =>
 condK (slEq x11.base x11.len x11.cap x5.base x5.len x5.cap) (
 letH (addP 98311 h.size [(11, (row 30 [(.slice head.base head.len head.cap), (.slice x1.base x1.len x1.cap)]))] h0) fun h20 =>
 bindO (slT 1 h20 sealed (some (IntKind.wrap .i64 (((sealed.len : Nat) : Int) - 8))) none none) fun x12 =>
 condK (slEq x12.base x12.len x12.cap x5.base x5.len x5.cap) (
 letH (addP 775 h.size [(11, (row 30 [(.slice head.base head.len head.cap), (.slice x1.base x1.len x1.cap)]))] h0) fun h21 =>
 bindO (slT 1 h21 sealed none (some (IntKind.wrap .i64 (((sealed.len : Nat) : Int) - 8))) none) fun x13 =>
 condK (slEq x13.base x13.len x13.cap x1.base x1.len x1.cap) (
 letH (addP 2097151 h.size [(11, (row 30 [(.slice head.base head.len head.cap), (.slice x1.base x1.len x1.cap)]))] h6) fun h22 =>
 letH (tickIf 21 h22) fun h23 =>
 some (inl ((key, (num, (sealed, ((IntKind.wrap .i64 (((sealed.len : Nat) : Int) - 8)), (!(x4.toList == x6.toList)))))), h23))) none) none) none) none) none) none) none)) fun (((key1, (num1, (sealed1, (n, x0)))), h0) : ((Int × (Int × (Sl × (Int × Bool)))) × H)) =>
 condK x0 (
 some (((⟨none, 0, 0⟩ : Sl), false), h0)) (
 bindO (slT 1 h0 sealed1 none (some n) none) fun x1 =>
 bind2 (ref1_Mask key1 num1 x1 h0) fun x2 h1 =>
 some ((x2, true), h1))
def ref1_Open : Int → Int → Sl → Sl → H → Option ((Sl × Bool) × H) := P.ref1_Open ref1_Step ref1_Tag ref1_eight ref1_Mask
def ann_137 : Ann := ⟨fun _ => none, fun _ => none, fun i => bif i.beq 2 then some ⟨[0, 1, 3, 10, 34], [⟨false, [.int .u64]⟩, eI_, eL_, eI_, eB_]⟩ else none⟩
def E_137 : Ent := V_137 ref1_Open
theorem eq_137 (ref1_Step : T_135) (ref1_Tag : T_134) (ref1_eight : T_133) (ref1_Mask : T_132) : runE [V_135 ref1_Step, V_134 ref1_Tag, V_133 ref1_eight, V_132 ref1_Mask] ann_137 Try.f137 (V_137 (P.ref1_Open ref1_Step ref1_Tag ref1_eight ref1_Mask)) = (V_137 (P.ref1_Open ref1_Step ref1_Tag ref1_eight ref1_Mask)).g := by kernel_rfl
theorem ok_137 : E_137.ok Tab.D := entT (entC ok_135 (entC ok_134 (entC ok_133 (entC ok_132 entN)))) (by kernel_rfl) (by kernel_rfl) (by kernel_rfl) (eq_137 ref1_Step ref1_Tag ref1_eight ref1_Mask)
/-! ref1_spans -/
abbrev T_185 := Sl → H → Option ((Sl × Sl × Int) × H)
abbrev V_185 (f : T_185) : Ent := ⟨185, [eL_], [eL_, eL_, eI_], fun (x : Sl) h => f x h⟩
def P.ref1_spans_l1 (ref1_Take : T_153) : ((Int × (Sl × (Sl × (Int × Int)))) × H) → Option (((Int × (Sl × (Sl × (Int × Int)))) × H) ⊕ (((Sl × Sl) × H) ⊕ ((Sl × (Sl × Int)) × H))) := fun ((n, (rest, (out, (low, i)))), h0) =>
 condK (decide ((i < n))) (
 bind2 (ref1_Take rest h0) fun ((x0, x1, x2) : Int × Sl × Int) (h1 : H) =>
 condK (x2 != 0) (
 some (inr (inr (((⟨none, 0, 0⟩ : Sl), ((⟨none, 0, 0⟩ : Sl), x2)), h1)))) (
 joinO (
 condK (decide ((i > 0))) (
 joinO (
 condK (decide ((x0 < 2))) (
 some (inl ((n, (out, (i, (x1, ((IntKind.wrap .i64 (low - x0)), true))))), h1))) (
 some (inl ((n, (out, (i, (x1, ((IntKind.wrap .i64 (low - x0)), (decide (((IntKind.wrap .i64 (low - x0)) < 0)))))))), h1)))) fun (((n1, (out1, (i1, (more, (last, x3))))), h2) : ((Int × (Sl × (Int × (Sl × (Int × Bool))))) × H)) =>
 condK x3 (
 some (inr (inr (inr (((⟨none, 0, 0⟩ : Sl), ((⟨none, 0, 0⟩ : Sl), 2)), h2))))) (
 some (inl ((n1, (out1, (i1, (more, last)))), h2)))) (
 some (inl ((n, (out, (i, (x1, x0)))), h1)))) fun (((n1, (out1, (i1, (more, last)))), h2) : ((Int × (Sl × (Int × (Sl × Int)))) × H)) =>
 bind2 (ref1_Take more h2) fun ((x3, x4, x5) : Int × Sl × Int) (h3 : H) =>
 condK (x5 != 0) (
 some (inr (inr (((⟨none, 0, 0⟩ : Sl), ((⟨none, 0, 0⟩ : Sl), x5)), h3)))) (
 condK (decide (((IntKind.wrap .i64 (last - x3)) < 0))) (
 some (inr (inr (((⟨none, 0, 0⟩ : Sl), ((⟨none, 0, 0⟩ : Sl), 2)), h3)))) (
 newO (row 36 [(.int .i64 (IntKind.wrap .i64 (last - x3))), (.int .i64 last)]) h3 fun b h4 =>
 bind2 (appT 36 2 16 h4 out1 (⟨(some (⟨b, 0, some 0⟩ : Addr)), 1, 1⟩ : Sl)) fun x6 h5 =>
 some (inl ((n1, (x4, (x6, ((IntKind.wrap .i64 (last - x3)), (IntKind.wrap .i64 (i1 + 1)))))), h5)))))) (
 some (inr (inl ((rest, out), h0))))

def P.ref1_spans (ref1_Take : T_153) (b : Sl) (h : H) : Option ((Sl × Sl × Int) × H) :=
 bind2 (ref1_Take b h) fun ((x0, x1, x2) : Int × Sl × Int) (h0 : H) =>
 condK (x2 != 0) (
 some (((⟨none, 0, 0⟩ : Sl), ((⟨none, 0, 0⟩ : Sl), x2)), h0)) (
 joinO (
 condK (decide ((x0 < 1))) (
 some (inl ((x0, (x1, true)), h0))) (
 some (inl ((x0, (x1, (decide ((x0 > 8))))), h0)))) fun (((n, (rest, x3)), h1) : ((Int × (Sl × Bool)) × H)) =>
 condK x3 (
 some (((⟨none, 0, 0⟩ : Sl), ((⟨none, 0, 0⟩ : Sl), 2)), h1)) (
 joinO (
 loopO (P.ref1_spans_l1 ref1_Take) ((n, (rest, ((⟨none, 0, 0⟩ : Sl), (0, 0)))), h1)) fun (((rest1, out), h2) : ((Sl × Sl) × H)) =>
 some ((out, (rest1, 0)), h2)))
abbrev ref1_spans_l1 := P.ref1_spans_l1 ref1_Take
def ref1_spans : Sl → H → Option ((Sl × Sl × Int) × H) := P.ref1_spans ref1_Take
def ann_185 : Ann := ⟨fun i => bif i.beq 19 then some ⟨[5, 8, 10, 12, 14], [eI_, eL_, eI_, eL_, eI_]⟩ else bif i.beq 27 then some ⟨[6, 8], [eL_, eL_]⟩ else none, fun i => bif i.beq 9 then some ⟨[5, 6, 8, 9, 10], [eI_, eL_, eL_, eI_, eI_]⟩ else none, fun i => bif i.beq 4 then some ⟨[5, 6, 30], [eI_, eL_, eB_]⟩ else bif i.beq 17 then some ⟨[5, 8, 10, 12, 14, 56], [eI_, eL_, eI_, eL_, eI_, eB_]⟩ else none⟩
def E_185 : Ent := V_185 ref1_spans
theorem eq_185 (ref1_Take : T_153) : runE [V_153 ref1_Take] ann_185 Try.f185 (V_185 (P.ref1_spans ref1_Take)) = (V_185 (P.ref1_spans ref1_Take)).g := by kernel_rfl
theorem ok_185 : E_185.ok Tab.D := entT (entC ok_153 entN) (by kernel_rfl) (by kernel_rfl) (by kernel_rfl) (eq_185 ref1_Take)
/-! ref1_data -/
abbrev T_186 := Sl → H → Option ((Sl × Sl × Int) × H)
abbrev V_186 (f : T_186) : Ent := ⟨186, [eL_], [eL_, eL_, eI_], fun (x : Sl) h => f x h⟩
def P.ref1_data (ref1_Take : T_153) (b : Sl) (h : H) : Option ((Sl × Sl × Int) × H) :=
 bind2 (ref1_Take b h) fun ((x0, x1, x2) : Int × Sl × Int) (h0 : H) =>
 condK (x2 != 0) (
 some (((⟨none, 0, 0⟩ : Sl), ((⟨none, 0, 0⟩ : Sl), x2)), h0)) (
 condK (decide ((x0 > 120))) (
 some (((⟨none, 0, 0⟩ : Sl), ((⟨none, 0, 0⟩ : Sl), 2)), h0)) (
 condK (decide ((x0 > ((x1.len : Nat) : Int)))) (
 some (((⟨none, 0, 0⟩ : Sl), ((⟨none, 0, 0⟩ : Sl), 3)), h0)) (
 letH (growIf h0 11) fun h1 =>
 letH (addP 6 h0.size [(0, (row 5 []))] h1) fun h2 =>
 bindO (slT 1 h2 x1 none (some x0) none) fun x3 =>
 letH (addP 15 h0.size [(0, (row 5 []))] h1) fun h3 =>
 bind2 (appT 5 1 1 h3 (⟨(some (⟨(h0.size + 0), 0, some 0⟩ : Addr)), 0, 0⟩ : Sl) x3) fun x4 h4 =>
 letH (addP 96 h0.size [(0, (row 5 []))] h4) fun h5 =>
 bindO (slT 1 h5 x1 (some x0) none none) fun x5 =>
 letH (addP 96 h0.size [(0, (row 5 []))] h1) fun h6 =>
 bindO (slT 1 h6 x1 (some x0) none none) fun x6 =>
 condK (slEq x6.base x6.len x6.cap x5.base x5.len x5.cap) (
 letH (addP 2047 h0.size [(0, (row 5 []))] h4) fun h7 =>
 letH (tickIf 11 h7) fun h8 =>
 some ((x4, (x5, 0)), h8)) none)))
def ref1_data : Sl → H → Option ((Sl × Sl × Int) × H) := P.ref1_data ref1_Take
def ann_186 : Ann := ⟨fun _ => none, fun _ => none, fun _ => none⟩
def E_186 : Ent := V_186 ref1_data
theorem eq_186 (ref1_Take : T_153) : runE [V_153 ref1_Take] ann_186 Try.f186 (V_186 (P.ref1_data ref1_Take)) = (V_186 (P.ref1_data ref1_Take)).g := by kernel_rfl
theorem ok_186 : E_186.ok Tab.D := entT (entC ok_153 entN) (by kernel_rfl) (by kernel_rfl) (by kernel_rfl) (eq_186 ref1_Take)
/-! ref1_read -/
abbrev T_176 := Sl → H → Option ((((J9)) × Sl × Int) × H)
abbrev V_176 (f : T_176) : Ent := ⟨176, [eL_], [⟨true, j9⟩, eL_, eI_], fun (x : Sl) h => f x h⟩
def P.ref1_read_l1 (ref1_Take : T_153) (ref1_spans : T_185) (ref1_data : T_186) (ref1_RightFrame : T_140) : (((Option Addr) × ((Option Addr) × (Int × (Sl × (Int × ((Option Addr) × Int)))))) × H) → Option ((((Option Addr) × ((Option Addr) × (Int × (Sl × (Int × ((Option Addr) × Int)))))) × H) ⊕ ((((Option Addr) × ((Option Addr) × (Int × (Sl × (Option Addr))))) × H) ⊕ (((Int × (Int × (Int × (Int × (Int × (Int × (Bool × (Sl × Sl)))))))) × (Sl × Int)) × H))) := fun ((x0, (f, (k, (rest, (count, (l, i)))))), h0) =>
 condK (decide ((i < count))) (
 bind2 (ref1_Take rest h0) fun ((x1, x2, x3) : Int × Sl × Int) (h1 : H) =>
 condK (x3 != 0) (
 ptrK f fun a0 =>
 bindO (ldZ j9 h1 a0) fun ((x4, x5, x6, x7, x8, x9, x10, x11, x12) : J9) =>
 ptrK x0 fun a1 =>
 bindO (stZ j9 h1 a1 ((x4, x5, x6, x7, x8, x9, x10, x11, x12) : J9)) fun h2 =>
 inr? (
 inr? (
 ptrK x0 fun a2 =>
 bindO (ldZ j9 h2 a2) fun ((x13, x14, x15, x16, x17, x18, x19, x20, x21) : J9) =>
 some (((x13, (x14, (x15, (x16, (x17, (x18, (x19, (x20, x21)))))))), ((⟨none, 0, 0⟩ : Sl), x3)), h2)))) (
 ptrK l fun a3 =>
 bindO (ixAT 4 1 a3 i) fun a4 =>
 bindO (st1 h1 a4 (.int .i64 x1)) fun h3 =>
 joinO (
 condK (k == 3) (
 condK (i == 2) (
 some (inl ((x0, (f, (k, (x2, (count, (l, (i, (decide ((x1 > 1)))))))))), h3))) (
 condK (k == 8) (
 condK (i == 1) (
 some (inl ((x0, (f, (k, (x2, (count, (l, (i, (decide ((x1 > 1)))))))))), h3))) (
 some (inl ((x0, (f, (k, (x2, (count, (l, (i, false))))))), h3)))) (
 some (inl ((x0, (f, (k, (x2, (count, (l, (i, false))))))), h3))))) (
 condK (k == 8) (
 condK (i == 1) (
 some (inl ((x0, (f, (k, (x2, (count, (l, (i, (decide ((x1 > 1)))))))))), h3))) (
 some (inl ((x0, (f, (k, (x2, (count, (l, (i, false))))))), h3)))) (
 some (inl ((x0, (f, (k, (x2, (count, (l, (i, false))))))), h3))))) fun (((x22, (f1, (k1, (rest1, (count1, (l1, (i1, x23))))))), h4) : (((Option Addr) × ((Option Addr) × (Int × (Sl × (Int × ((Option Addr) × (Int × Bool))))))) × H)) =>
 condK x23 (
 ptrK f1 fun a5 =>
 bindO (ldZ j9 h4 a5) fun ((x24, x25, x26, x27, x28, x29, x30, x31, x32) : J9) =>
 ptrK x22 fun a6 =>
 bindO (stZ j9 h4 a6 ((x24, x25, x26, x27, x28, x29, x30, x31, x32) : J9)) fun h5 =>
 inr? (
 inr? (
 ptrK x22 fun a7 =>
 bindO (ldZ j9 h5 a7) fun ((x33, x34, x35, x36, x37, x38, x39, x40, x41) : J9) =>
 some (((x33, (x34, (x35, (x36, (x37, (x38, (x39, (x40, x41)))))))), ((⟨none, 0, 0⟩ : Sl), 2)), h5)))) (
 some (inl ((x22, (f1, (k1, (rest1, (count1, (l1, (IntKind.wrap .i64 (i1 + 1)))))))), h4))))) (
 some (inr (inl ((x0, (f, (k, (rest, l)))), h0))))

def P.ref1_read (ref1_Take : T_153) (ref1_spans : T_185) (ref1_data : T_186) (ref1_RightFrame : T_140) (b : Sl) (h : H) : Option (((J9) × Sl × Int) × H) :=
 newO (row 33 [(.int .i64 0), (.int .i64 0), (.int .i64 0), (.int .i64 0), (.int .i64 0), (.int .i64 0), (.bool false), (.slice none 0 0), (.slice none 0 0)]) h fun b1 h0 =>
 newO (row 33 [(.int .i64 0), (.int .i64 0), (.int .i64 0), (.int .i64 0), (.int .i64 0), (.int .i64 0), (.bool false), (.slice none 0 0), (.slice none 0 0)]) h0 fun b2 h1 =>
 bindO (stZ j9 h1 (⟨b2, 0, some 0⟩ : Addr) ((0, 0, 0, 0, 0, 0, false, (⟨none, 0, 0⟩ : Sl), (⟨none, 0, 0⟩ : Sl)) : J9)) fun h2 =>
 bind2 (ref1_Take b h2) fun ((x0, x1, x2) : Int × Sl × Int) (h3 : H) =>
 condK (x2 != 0) (
 bindO (ldZ j9 h3 (⟨b2, 0, some 0⟩ : Addr)) fun ((x3, x4, x5, x6, x7, x8, x9, x10, x11) : J9) =>
 bindO (stZ j9 h3 (⟨b1, 0, some 0⟩ : Addr) ((x3, x4, x5, x6, x7, x8, x9, x10, x11) : J9)) fun h4 =>
 bindO (ldZ j9 h4 (⟨b1, 0, some 0⟩ : Addr)) fun ((x12, x13, x14, x15, x16, x17, x18, x19, x20) : J9) =>
 some (((x12, (x13, (x14, (x15, (x16, (x17, (x18, (x19, x20)))))))), ((⟨none, 0, 0⟩ : Sl), x2)), h4)) (
 joinO (
 condK (decide ((x0 < 1))) (
 some (inl (((some (⟨b1, 0, some 0⟩ : Addr)), ((some (⟨b2, 0, some 0⟩ : Addr)), (x0, (x1, true)))), h3))) (
 some (inl (((some (⟨b1, 0, some 0⟩ : Addr)), ((some (⟨b2, 0, some 0⟩ : Addr)), (x0, (x1, (decide ((x0 > 12))))))), h3)))) fun (((x21, (f, (k, (rest, x22)))), h5) : (((Option Addr) × ((Option Addr) × (Int × (Sl × Bool)))) × H)) =>
 condK x22 (
 ptrK f fun a0 =>
 bindO (ldZ j9 h5 a0) fun ((x23, x24, x25, x26, x27, x28, x29, x30, x31) : J9) =>
 ptrK x21 fun a1 =>
 bindO (stZ j9 h5 a1 ((x23, x24, x25, x26, x27, x28, x29, x30, x31) : J9)) fun h6 =>
 ptrK x21 fun a2 =>
 bindO (ldZ j9 h6 a2) fun ((x32, x33, x34, x35, x36, x37, x38, x39, x40) : J9) =>
 some (((x32, (x33, (x34, (x35, (x36, (x37, (x38, (x39, x40)))))))), ((⟨none, 0, 0⟩ : Sl), 2)), h6)) (
 ptrK f fun a3 =>
 bindO (st1 h5 (add a3 0) (.int .i64 k)) fun h7 =>
 condK (k == 2) (
 bind2 (ref1_spans rest h7) fun ((x41, x42, x43) : Sl × Sl × Int) (h8 : H) =>
 ptrK f fun a4 =>
 bindO (st1 h8 (add a4 8) (.slice x41.base x41.len x41.cap)) fun h9 =>
 ptrK f fun a5 =>
 bindO (ldZ j9 h9 a5) fun ((x44, x45, x46, x47, x48, x49, x50, x51, x52) : J9) =>
 ptrK x21 fun a6 =>
 bindO (stZ j9 h9 a6 ((x44, x45, x46, x47, x48, x49, x50, x51, x52) : J9)) fun h10 =>
 ptrK x21 fun a7 =>
 bindO (ldZ j9 h10 a7) fun ((x53, x54, x55, x56, x57, x58, x59, x60, x61) : J9) =>
 some (((x53, (x54, (x55, (x56, (x57, (x58, (x59, (x60, x61)))))))), (x42, x43)), h10)) (
 bindO (ixIT .i64 [0, 0, 0, 3, 4, 2, 1, 2, 2, 0, 1, 1, 1] k) fun x62 =>
 newO (row 189 [(.int .i64 0), (.int .i64 0), (.int .i64 0), (.int .i64 0)]) h7 fun b3 h11 =>
 joinO (
 loopO (P.ref1_read_l1 ref1_Take ref1_spans ref1_data ref1_RightFrame) ((x21, (f, (k, (rest, (x62, ((some (⟨b3, 0, some 0⟩ : Addr)), 0)))))), h11)) fun (((x63, (f1, (k1, (rest1, l)))), h12) : (((Option Addr) × ((Option Addr) × (Int × (Sl × (Option Addr))))) × H)) =>
 joinO (
 condK (k1 == 3) (
 ptrK l fun a8 =>
 bindO (ixAT 4 1 a8 0) fun a9 =>
 bindO (ldI .i64 h12 a9) fun x64 =>
 ptrK f1 fun a10 =>
 bindO (st1 h12 (add a10 1) (.int .i64 x64)) fun h13 =>
 ptrK l fun a11 =>
 bindO (ixAT 4 1 a11 1) fun a12 =>
 bindO (ldI .i64 h13 a12) fun x65 =>
 ptrK f1 fun a13 =>
 bindO (st1 h13 (add a13 2) (.int .i64 x65)) fun h14 =>
 ptrK l fun a14 =>
 bindO (ixAT 4 1 a14 2) fun a15 =>
 bindO (ldI .i64 h14 a15) fun x66 =>
 ptrK f1 fun a16 =>
 bindO (st1 h14 (add a16 6) (.bool (x66 == 1))) fun h15 =>
 some (inl ((x63, (f1, (k1, rest1))), h15))) (
 condK (k1 == 4) (
 ptrK l fun a17 =>
 bindO (ixAT 4 1 a17 0) fun a18 =>
 bindO (ldI .i64 h12 a18) fun x67 =>
 ptrK f1 fun a19 =>
 bindO (st1 h12 (add a19 1) (.int .i64 x67)) fun h16 =>
 ptrK l fun a20 =>
 bindO (ixAT 4 1 a20 1) fun a21 =>
 bindO (ldI .i64 h16 a21) fun x68 =>
 ptrK f1 fun a22 =>
 bindO (st1 h16 (add a22 3) (.int .i64 x68)) fun h17 =>
 ptrK l fun a23 =>
 bindO (ixAT 4 1 a23 2) fun a24 =>
 bindO (ldI .i64 h17 a24) fun x69 =>
 ptrK f1 fun a25 =>
 bindO (st1 h17 (add a25 2) (.int .i64 x69)) fun h18 =>
 ptrK l fun a26 =>
 bindO (ixAT 4 1 a26 3) fun a27 =>
 bindO (ldI .i64 h18 a27) fun x70 =>
 ptrK f1 fun a28 =>
 bindO (st1 h18 (add a28 4) (.int .i64 x70)) fun h19 =>
 some (inl ((x63, (f1, (k1, rest1))), h19))) (
 condK (k1 == 5) (
 condK (k1 == 5) (
 ptrK l fun a29 =>
 bindO (ixAT 4 1 a29 0) fun a30 =>
 bindO (ldI .i64 h12 a30) fun x71 =>
 ptrK f1 fun a31 =>
 bindO (st1 h12 (add a31 1) (.int .i64 x71)) fun h20 =>
 ptrK l fun a32 =>
 bindO (ixAT 4 1 a32 1) fun a33 =>
 bindO (ldI .i64 h20 a33) fun x72 =>
 ptrK f1 fun a34 =>
 bindO (st1 h20 (add a34 3) (.int .i64 x72)) fun h21 =>
 some (inl ((x63, (f1, (k1, rest1))), h21))) (
 condK (k1 == 6) (
 condK (k1 == 6) (
 ptrK l fun a35 =>
 bindO (ixAT 4 1 a35 0) fun a36 =>
 bindO (ldI .i64 h12 a36) fun x73 =>
 ptrK f1 fun a37 =>
 bindO (st1 h12 (add a37 3) (.int .i64 x73)) fun h22 =>
 some (inl ((x63, (f1, (k1, rest1))), h22))) (
 condK (k1 == 8) (
 ptrK l fun a38 =>
 bindO (ixAT 4 1 a38 0) fun a39 =>
 bindO (ldI .i64 h12 a39) fun x74 =>
 ptrK f1 fun a40 =>
 bindO (st1 h12 (add a40 3) (.int .i64 x74)) fun h23 =>
 ptrK l fun a41 =>
 bindO (ixAT 4 1 a41 1) fun a42 =>
 bindO (ldI .i64 h23 a42) fun x75 =>
 ptrK f1 fun a43 =>
 bindO (st1 h23 (add a43 6) (.bool (x75 == 1))) fun h24 =>
 some (inl ((x63, (f1, (k1, rest1))), h24))) (
 condK (k1 == 10) (
 condK (k1 == 10) (
 ptrK l fun a44 =>
 bindO (ixAT 4 1 a44 0) fun a45 =>
 bindO (ldI .i64 h12 a45) fun x76 =>
 ptrK f1 fun a46 =>
 bindO (st1 h12 (add a46 1) (.int .i64 x76)) fun h25 =>
 some (inl ((x63, (f1, (k1, rest1))), h25))) (
 some (inl ((x63, (f1, (k1, rest1))), h12)))) (
 condK (k1 == 11) (
 ptrK l fun a47 =>
 bindO (ixAT 4 1 a47 0) fun a48 =>
 bindO (ldI .i64 h12 a48) fun x77 =>
 ptrK f1 fun a49 =>
 bindO (st1 h12 (add a49 1) (.int .i64 x77)) fun h26 =>
 some (inl ((x63, (f1, (k1, rest1))), h26))) (
 some (inl ((x63, (f1, (k1, rest1))), h12))))))) (
 condK (k1 == 12) (
 ptrK l fun a50 =>
 bindO (ixAT 4 1 a50 0) fun a51 =>
 bindO (ldI .i64 h12 a51) fun x78 =>
 ptrK f1 fun a52 =>
 bindO (st1 h12 (add a52 3) (.int .i64 x78)) fun h27 =>
 some (inl ((x63, (f1, (k1, rest1))), h27))) (
 condK (k1 == 8) (
 ptrK l fun a53 =>
 bindO (ixAT 4 1 a53 0) fun a54 =>
 bindO (ldI .i64 h12 a54) fun x79 =>
 ptrK f1 fun a55 =>
 bindO (st1 h12 (add a55 3) (.int .i64 x79)) fun h28 =>
 ptrK l fun a56 =>
 bindO (ixAT 4 1 a56 1) fun a57 =>
 bindO (ldI .i64 h28 a57) fun x80 =>
 ptrK f1 fun a58 =>
 bindO (st1 h28 (add a58 6) (.bool (x80 == 1))) fun h29 =>
 some (inl ((x63, (f1, (k1, rest1))), h29))) (
 condK (k1 == 10) (
 condK (k1 == 10) (
 ptrK l fun a59 =>
 bindO (ixAT 4 1 a59 0) fun a60 =>
 bindO (ldI .i64 h12 a60) fun x81 =>
 ptrK f1 fun a61 =>
 bindO (st1 h12 (add a61 1) (.int .i64 x81)) fun h30 =>
 some (inl ((x63, (f1, (k1, rest1))), h30))) (
 some (inl ((x63, (f1, (k1, rest1))), h12)))) (
 condK (k1 == 11) (
 ptrK l fun a62 =>
 bindO (ixAT 4 1 a62 0) fun a63 =>
 bindO (ldI .i64 h12 a63) fun x82 =>
 ptrK f1 fun a64 =>
 bindO (st1 h12 (add a64 1) (.int .i64 x82)) fun h31 =>
 some (inl ((x63, (f1, (k1, rest1))), h31))) (
 some (inl ((x63, (f1, (k1, rest1))), h12))))))))) (
 condK (k1 == 7) (
 ptrK l fun a65 =>
 bindO (ixAT 4 1 a65 0) fun a66 =>
 bindO (ldI .i64 h12 a66) fun x83 =>
 ptrK f1 fun a67 =>
 bindO (st1 h12 (add a67 1) (.int .i64 x83)) fun h32 =>
 ptrK l fun a68 =>
 bindO (ixAT 4 1 a68 1) fun a69 =>
 bindO (ldI .i64 h32 a69) fun x84 =>
 ptrK f1 fun a70 =>
 bindO (st1 h32 (add a70 3) (.int .i64 x84)) fun h33 =>
 some (inl ((x63, (f1, (k1, rest1))), h33))) (
 condK (k1 == 6) (
 condK (k1 == 6) (
 ptrK l fun a71 =>
 bindO (ixAT 4 1 a71 0) fun a72 =>
 bindO (ldI .i64 h12 a72) fun x85 =>
 ptrK f1 fun a73 =>
 bindO (st1 h12 (add a73 3) (.int .i64 x85)) fun h34 =>
 some (inl ((x63, (f1, (k1, rest1))), h34))) (
 condK (k1 == 8) (
 ptrK l fun a74 =>
 bindO (ixAT 4 1 a74 0) fun a75 =>
 bindO (ldI .i64 h12 a75) fun x86 =>
 ptrK f1 fun a76 =>
 bindO (st1 h12 (add a76 3) (.int .i64 x86)) fun h35 =>
 ptrK l fun a77 =>
 bindO (ixAT 4 1 a77 1) fun a78 =>
 bindO (ldI .i64 h35 a78) fun x87 =>
 ptrK f1 fun a79 =>
 bindO (st1 h35 (add a79 6) (.bool (x87 == 1))) fun h36 =>
 some (inl ((x63, (f1, (k1, rest1))), h36))) (
 condK (k1 == 10) (
 condK (k1 == 10) (
 ptrK l fun a80 =>
 bindO (ixAT 4 1 a80 0) fun a81 =>
 bindO (ldI .i64 h12 a81) fun x88 =>
 ptrK f1 fun a82 =>
 bindO (st1 h12 (add a82 1) (.int .i64 x88)) fun h37 =>
 some (inl ((x63, (f1, (k1, rest1))), h37))) (
 some (inl ((x63, (f1, (k1, rest1))), h12)))) (
 condK (k1 == 11) (
 ptrK l fun a83 =>
 bindO (ixAT 4 1 a83 0) fun a84 =>
 bindO (ldI .i64 h12 a84) fun x89 =>
 ptrK f1 fun a85 =>
 bindO (st1 h12 (add a85 1) (.int .i64 x89)) fun h38 =>
 some (inl ((x63, (f1, (k1, rest1))), h38))) (
 some (inl ((x63, (f1, (k1, rest1))), h12))))))) (
 condK (k1 == 12) (
 ptrK l fun a86 =>
 bindO (ixAT 4 1 a86 0) fun a87 =>
 bindO (ldI .i64 h12 a87) fun x90 =>
 ptrK f1 fun a88 =>
 bindO (st1 h12 (add a88 3) (.int .i64 x90)) fun h39 =>
 some (inl ((x63, (f1, (k1, rest1))), h39))) (
 condK (k1 == 8) (
 ptrK l fun a89 =>
 bindO (ixAT 4 1 a89 0) fun a90 =>
 bindO (ldI .i64 h12 a90) fun x91 =>
 ptrK f1 fun a91 =>
 bindO (st1 h12 (add a91 3) (.int .i64 x91)) fun h40 =>
 ptrK l fun a92 =>
 bindO (ixAT 4 1 a92 1) fun a93 =>
 bindO (ldI .i64 h40 a93) fun x92 =>
 ptrK f1 fun a94 =>
 bindO (st1 h40 (add a94 6) (.bool (x92 == 1))) fun h41 =>
 some (inl ((x63, (f1, (k1, rest1))), h41))) (
 condK (k1 == 10) (
 condK (k1 == 10) (
 ptrK l fun a95 =>
 bindO (ixAT 4 1 a95 0) fun a96 =>
 bindO (ldI .i64 h12 a96) fun x93 =>
 ptrK f1 fun a97 =>
 bindO (st1 h12 (add a97 1) (.int .i64 x93)) fun h42 =>
 some (inl ((x63, (f1, (k1, rest1))), h42))) (
 some (inl ((x63, (f1, (k1, rest1))), h12)))) (
 condK (k1 == 11) (
 ptrK l fun a98 =>
 bindO (ixAT 4 1 a98 0) fun a99 =>
 bindO (ldI .i64 h12 a99) fun x94 =>
 ptrK f1 fun a100 =>
 bindO (st1 h12 (add a100 1) (.int .i64 x94)) fun h43 =>
 some (inl ((x63, (f1, (k1, rest1))), h43))) (
 some (inl ((x63, (f1, (k1, rest1))), h12)))))))))))) fun (((x64, (f2, (k2, rest2))), h13) : (((Option Addr) × ((Option Addr) × (Int × Sl))) × H)) =>
 joinO (
 joinO (
 condK (k2 == 3) (
 some (inl ((x64, (f2, (rest2, true))), h13))) (
 some (inl ((x64, (f2, (rest2, (k2 == 9)))), h13)))) fun (((x65, (f3, (rest3, x66))), h14) : (((Option Addr) × ((Option Addr) × (Sl × Bool))) × H)) =>
 condK x66 (
 bind2 (ref1_data rest3 h14) fun ((x67, x68, x69) : Sl × Sl × Int) (h15 : H) =>
 ptrK f3 fun a8 =>
 bindO (st1 h15 (add a8 7) (.slice x67.base x67.len x67.cap)) fun h16 =>
 condK (x69 != 0) (
 ptrK f3 fun a9 =>
 bindO (ldZ j9 h16 a9) fun ((x70, x71, x72, x73, x74, x75, x76, x77, x78) : J9) =>
 ptrK x65 fun a10 =>
 bindO (stZ j9 h16 a10 ((x70, x71, x72, x73, x74, x75, x76, x77, x78) : J9)) fun h17 =>
 inr? (
 ptrK x65 fun a11 =>
 bindO (ldZ j9 h17 a11) fun ((x79, x80, x81, x82, x83, x84, x85, x86, x87) : J9) =>
 some (((x79, (x80, (x81, (x82, (x83, (x84, (x85, (x86, x87)))))))), ((⟨none, 0, 0⟩ : Sl), x69)), h17))) (
 some (inl ((x65, (f3, x68)), h16)))) (
 some (inl ((x65, (f3, rest3)), h14)))) fun (((x65, (f3, rest3)), h14) : (((Option Addr) × ((Option Addr) × Sl)) × H)) =>
 ptrK f3 fun a8 =>
 bindO (ldZ j9 h14 a8) fun ((x66, x67, x68, x69, x70, x71, x72, x73, x74) : J9) =>
 bind2 (ref1_RightFrame (x66, x67, x68, x69, x70, x71, x72, x73, x74) h14) fun x75 h15 =>
 condK (!x75) (
 ptrK f3 fun a9 =>
 bindO (ldZ j9 h15 a9) fun ((x76, x77, x78, x79, x80, x81, x82, x83, x84) : J9) =>
 ptrK x65 fun a10 =>
 bindO (stZ j9 h15 a10 ((x76, x77, x78, x79, x80, x81, x82, x83, x84) : J9)) fun h16 =>
 ptrK x65 fun a11 =>
 bindO (ldZ j9 h16 a11) fun ((x85, x86, x87, x88, x89, x90, x91, x92, x93) : J9) =>
 some (((x85, (x86, (x87, (x88, (x89, (x90, (x91, (x92, x93)))))))), ((⟨none, 0, 0⟩ : Sl), 2)), h16)) (
 ptrK f3 fun a12 =>
 bindO (ldZ j9 h15 a12) fun ((x94, x95, x96, x97, x98, x99, x100, x101, x102) : J9) =>
 ptrK x65 fun a13 =>
 bindO (stZ j9 h15 a13 ((x94, x95, x96, x97, x98, x99, x100, x101, x102) : J9)) fun h17 =>
 ptrK x65 fun a14 =>
 bindO (ldZ j9 h17 a14) fun ((x103, x104, x105, x106, x107, x108, x109, x110, x111) : J9) =>
 some (((x103, (x104, (x105, (x106, (x107, (x108, (x109, (x110, x111)))))))), (rest3, 0)), h17)))))
abbrev ref1_read_l1 := P.ref1_read_l1 ref1_Take ref1_spans ref1_data ref1_RightFrame
def ref1_read : Sl → H → Option ((((J9)) × Sl × Int) × H) := P.ref1_read ref1_Take ref1_spans ref1_data ref1_RightFrame
def ann_176 : Ann := ⟨fun i => bif i.beq 23 then some ⟨[2, 5, 6, 7, 10], [eP_, eP_, eI_, eL_, eP_]⟩ else bif i.beq 46 then some ⟨[2, 5, 6, 7], [eP_, eP_, eI_, eL_]⟩ else bif i.beq 50 then some ⟨[2, 5, 7], [eP_, eP_, eL_]⟩ else none, fun i => bif i.beq 14 then some ⟨[2, 5, 6, 7, 9, 10, 11], [eP_, eP_, eI_, eL_, eI_, eP_, eI_]⟩ else none, fun i => bif i.beq 5 then some ⟨[2, 5, 6, 7, 31], [eP_, eP_, eI_, eL_, eB_]⟩ else bif i.beq 21 then some ⟨[2, 5, 6, 7, 9, 10, 11, 86], [eP_, eP_, eI_, eL_, eI_, eP_, eI_, eB_]⟩ else bif i.beq 46 then some ⟨[2, 5, 7, 150], [eP_, eP_, eL_, eB_]⟩ else none⟩
def E_176 : Ent := V_176 ref1_read
theorem eq_176 (ref1_Take : T_153) (ref1_spans : T_185) (ref1_data : T_186) (ref1_RightFrame : T_140) : runE [V_153 ref1_Take, V_185 ref1_spans, V_186 ref1_data, V_140 ref1_RightFrame] ann_176 Try.f176 (V_176 (P.ref1_read ref1_Take ref1_spans ref1_data ref1_RightFrame)) = (V_176 (P.ref1_read ref1_Take ref1_spans ref1_data ref1_RightFrame)).g := by kernel_rfl
theorem ok_176 : E_176.ok Tab.D := entT (entC ok_153 (entC ok_185 (entC ok_186 (entC ok_140 entN)))) (by kernel_rfl) (by kernel_rfl) (by kernel_rfl) (eq_176 ref1_Take ref1_spans ref1_data ref1_RightFrame)
/-! ref1_ReadFrames -/
abbrev T_138 := Sl → H → Option ((Sl × Int) × H)
abbrev V_138 (f : T_138) : Ent := ⟨138, [eL_], [eL_, eI_], fun (x : Sl) h => f x h⟩
def P.ref1_ReadFrames_l1 (ref1_read : T_176) : ((Sl × Sl) × H) → Option (((Sl × Sl) × H) ⊕ ((Sl × H) ⊕ ((Sl × Int) × H))) := fun ((out, rest), h0) =>
 condK (decide ((((rest.len : Nat) : Int) > 0))) (
 bind2 (ref1_read rest h0) fun (((x0, x1, x2, x3, x4, x5, x6, x7, x8), x9, x10) : (J9) × Sl × Int) (h1 : H) =>
 newO (row 33 [(.int .i64 0), (.int .i64 0), (.int .i64 0), (.int .i64 0), (.int .i64 0), (.int .i64 0), (.bool false), (.slice none 0 0), (.slice none 0 0)]) h1 fun b h2 =>
 bindO (stZ j9 h2 (⟨b, 0, some 0⟩ : Addr) ((x0, x1, x2, x3, x4, x5, x6, x7, x8) : J9)) fun h3 =>
 condK (x10 != 0) (
 some (inr (inr (((⟨none, 0, 0⟩ : Sl), x10), h3)))) (
 bindO (ldZ j9 h3 (⟨b, 0, some 0⟩ : Addr)) fun ((x11, x12, x13, x14, x15, x16, x17, x18, x19) : J9) =>
 newO (row 33 [(.int .i64 x11), (.int .i64 x12), (.int .i64 x13), (.int .i64 x14), (.int .i64 x15), (.int .i64 x16), (.bool x17), (.slice x18.base x18.len x18.cap), (.slice x19.base x19.len x19.cap)]) h3 fun b1 h4 =>
 bind2 (appT 33 9 104 h4 out (⟨(some (⟨b1, 0, some 0⟩ : Addr)), 1, 1⟩ : Sl)) fun x20 h5 =>
 some (inl ((x20, x9), h5)))) (
 some (inr (inl (out, h0))))

def P.ref1_ReadFrames (ref1_read : T_176) (b : Sl) (h : H) : Option ((Sl × Int) × H) :=
 newO (row 5 []) h fun b1 h0 =>
 bind2 (appT 5 1 1 h0 (⟨(some (⟨b1, 0, some 0⟩ : Addr)), 0, 0⟩ : Sl) b) fun x0 h1 =>
 joinO (
 loopO (P.ref1_ReadFrames_l1 ref1_read) (((⟨none, 0, 0⟩ : Sl), x0), h1)) fun ((out, h2) : (Sl × H)) =>
 some ((out, 0), h2)
abbrev ref1_ReadFrames_l1 := P.ref1_ReadFrames_l1 ref1_read
def ref1_ReadFrames : Sl → H → Option ((Sl × Int) × H) := P.ref1_ReadFrames ref1_read
def ann_138 : Ann := ⟨fun i => bif i.beq 9 then some ⟨[4], [eL_]⟩ else none, fun i => bif i.beq 3 then some ⟨[4, 5], [eL_, eL_]⟩ else none, fun _ => none⟩
def E_138 : Ent := V_138 ref1_ReadFrames
theorem eq_138 (ref1_read : T_176) : runE [V_176 ref1_read] ann_138 Try.f138 (V_138 (P.ref1_ReadFrames ref1_read)) = (V_138 (P.ref1_ReadFrames ref1_read)).g := by kernel_rfl
theorem ok_138 : E_138.ok Tab.D := entT (entC ok_176 entN) (by kernel_rfl) (by kernel_rfl) (by kernel_rfl) (eq_138 ref1_read)
/-! ref1_ReadPacket -/
abbrev T_80 := Int → Int → Sl → H → Option ((Int × Sl × Int) × H)
abbrev V_80 (f : T_80) : Ent := ⟨80, [⟨false, [.int .u64]⟩, eI_, eL_], [eI_, eL_, eI_], fun (x : Int × Int × Sl) h => f x.1 x.2.1 x.2.2 h⟩
def P.ref1_ReadPacket_l1 (ref1_Back : T_136) (ref1_Open : T_137) (ref1_ReadFrames : T_138) : ((Int × (Int × (Sl × (Int × (Int × Int))))) × H) → Option (((Int × (Int × (Sl × (Int × (Int × Int))))) × H) ⊕ (((Int × (Int × (Sl × (Int × Int)))) × H) ⊕ ((Int × (Sl × Int)) × H))) := fun ((key, (next, (b, (k, (cut, i))))), h0) =>
 condK (decide ((i ≤ k))) (
 bindO (ixT 1 b i) fun a0 =>
 bindO (ldI .u8 h0 a0) fun x0 =>
 letO ((IntKind.wrap .i64 ((IntKind.wrap .i64 (256 * cut)) + (IntKind.wrap .i64 x0)))) fun x1 =>
 some (inl ((key, (next, (b, (k, (x1, (IntKind.wrap .i64 (i + 1))))))), h0))) (
 some (inr (inl ((key, (next, (b, (k, cut)))), h0))))

def P.ref1_ReadPacket (ref1_Back : T_136) (ref1_Open : T_137) (ref1_ReadFrames : T_138) (key : Int) (next : Int) (b : Sl) (h : H) : Option ((Int × Sl × Int) × H) :=
 joinO (
 condK (decide ((((b.len : Nat) : Int) > 0))) (
 bindO (ixT 1 b 0) fun a0 =>
 bindO (ldI .u8 h a0) fun x0 =>
 condK (decide ((x0 < 64))) (
 some (inl ((key, (next, (b, true))), h))) (
 bindO (ixT 1 b 0) fun a1 =>
 bindO (ldI .u8 h a1) fun x1 =>
 some (inl ((key, (next, (b, (decide ((x1 > 67)))))), h)))) (
 some (inl ((key, (next, (b, false))), h)))) fun (((key1, (next1, (b1, x0))), h0) : ((Int × (Int × (Sl × Bool))) × H)) =>
 condK x0 (
 some ((0, ((⟨none, 0, 0⟩ : Sl), 2)), h0)) (
 joinO (
 condK (((b1.len : Nat) : Int) == 0) (
 some (inl ((key1, (next1, (b1, true))), h0))) (
 bindO (ixT 1 b1 0) fun a0 =>
 bindO (ldI .u8 h0 a0) fun x1 =>
 letO ((IntKind.wrap .i64 ((IntKind.wrap .i64 ((IntKind.wrap .i64 x1) - 63)) + 1))) fun x2 =>
 some (inl ((key1, (next1, (b1, (decide ((((b1.len : Nat) : Int) < (IntKind.wrap .i64 (x2 + 8)))))))), h0)))) fun (((key2, (next2, (b2, x1))), h1) : ((Int × (Int × (Sl × Bool))) × H)) =>
 condK x1 (
 some ((0, ((⟨none, 0, 0⟩ : Sl), 3)), h1)) (
 bindO (ixT 1 b2 0) fun a0 =>
 bindO (ldI .u8 h1 a0) fun x2 =>
 joinO (
 loopO (P.ref1_ReadPacket_l1 ref1_Back ref1_Open ref1_ReadFrames) ((key2, (next2, (b2, ((IntKind.wrap .i64 ((IntKind.wrap .i64 x2) - 63)), (0, 1))))), h1)) fun (((key3, (next3, (b3, (k, cut)))), h2) : ((Int × (Int × (Sl × (Int × Int)))) × H)) =>
 bind2 (ref1_Back cut k next3 h2) fun x3 h3 =>
 bindO (slT 1 h3 b3 none (some (IntKind.wrap .i64 (k + 1))) none) fun x4 =>
 bindO (slT 1 h3 b3 (some (IntKind.wrap .i64 (k + 1))) none none) fun x5 =>
 bind2 (ref1_Open key3 x3 x4 x5 h3) fun ((x6, x7) : Sl × Bool) (h4 : H) =>
 condK (!x7) (
 some ((0, ((⟨none, 0, 0⟩ : Sl), 4)), h4)) (
 bind2 (ref1_ReadFrames x6 h4) fun ((x8, x9) : Sl × Int) (h5 : H) =>
 joinO (
 condK (x9 != 0) (
 some (inl ((x3, (x8, true)), h5))) (
 some (inl ((x3, (x8, (((x8.len : Nat) : Int) == 0))), h5)))) fun (((num, (f, x10)), h6) : ((Int × (Sl × Bool)) × H)) =>
 condK x10 (
 some ((num, ((⟨none, 0, 0⟩ : Sl), 11)), h6)) (
 some ((num, (f, 0)), h6)))))
abbrev ref1_ReadPacket_l1 := P.ref1_ReadPacket_l1 ref1_Back ref1_Open ref1_ReadFrames
def ref1_ReadPacket : Int → Int → Sl → H → Option ((Int × Sl × Int) × H) := P.ref1_ReadPacket ref1_Back ref1_Open ref1_ReadFrames
def ann_80 : Ann := ⟨fun i => bif i.beq 11 then some ⟨[0, 1, 2, 9, 10], [⟨false, [.int .u64]⟩, eI_, eL_, eI_, eI_]⟩ else none, fun i => bif i.beq 8 then some ⟨[0, 1, 2, 9, 10, 11], [⟨false, [.int .u64]⟩, eI_, eL_, eI_, eI_, eI_]⟩ else none, fun i => bif i.beq 1 then some ⟨[0, 1, 2, 31], [⟨false, [.int .u64]⟩, eI_, eL_, eB_]⟩ else bif i.beq 3 then some ⟨[0, 1, 2, 46], [⟨false, [.int .u64]⟩, eI_, eL_, eB_]⟩ else bif i.beq 16 then some ⟨[12, 15, 96], [eI_, eL_, eB_]⟩ else none⟩
def E_80 : Ent := V_80 ref1_ReadPacket
theorem eq_80 (ref1_Back : T_136) (ref1_Open : T_137) (ref1_ReadFrames : T_138) : runE [V_136 ref1_Back, V_137 ref1_Open, V_138 ref1_ReadFrames] ann_80 Try.f80 (V_80 (P.ref1_ReadPacket ref1_Back ref1_Open ref1_ReadFrames)) = (V_80 (P.ref1_ReadPacket ref1_Back ref1_Open ref1_ReadFrames)).g := by kernel_rfl
theorem ok_80 : E_80.ok Tab.D := entT (entC ok_136 (entC ok_137 (entC ok_138 entN))) (by kernel_rfl) (by kernel_rfl) (by kernel_rfl) (eq_80 ref1_Back ref1_Open ref1_ReadFrames)
/-! ref1_SameFrame -/
abbrev T_139 := (J9) → (J9) → H → Option ((Bool) × H)
abbrev V_139 (f : T_139) : Ent := ⟨139, [⟨true, j9⟩, ⟨true, j9⟩], [eB_], fun (x : ((J9)) × ((J9))) h => f x.1 x.2 h⟩
def ref1_SameFrame_l1 : (((Option Addr) × ((Option Addr) × Int)) × H) → Option ((((Option Addr) × ((Option Addr) × Int)) × H) ⊕ (Bool × H)) := fun ((a0, (b, i)), h0) =>
 ptrK a0 fun a1 =>
 bindO (ldL h0 (add a1 8)) fun x0 =>
 condK (decide ((i < ((x0.len : Nat) : Int)))) (
 ptrK a0 fun a2 =>
 bindO (ldL h0 (add a2 8)) fun x1 =>
 bindO (ixT 2 x1 i) fun a3 =>
 bindO (ldZ [.int .i64, .int .i64] h0 a3) fun ((x2, x3) : Int × Int) =>
 ptrK b fun a4 =>
 bindO (ldL h0 (add a4 8)) fun x4 =>
 bindO (ixT 2 x4 i) fun a5 =>
 bindO (ldZ [.int .i64, .int .i64] h0 a5) fun ((x5, x6) : Int × Int) =>
 condK (!((x2 == x5) && ((x3 == x6) && true))) (
 some (inr (false, h0))) (
 some (inl ((a0, (b, (IntKind.wrap .i64 (i + 1)))), h0)))) (
 some (inr (true, h0)))

def ref1_SameFrame (a0 : J9) (b : J9) (h : H) : Option (Bool × H) :=
 newO (row 33 [(.int .i64 a0.1), (.int .i64 a0.2.1), (.int .i64 a0.2.2.1), (.int .i64 a0.2.2.2.1), (.int .i64 a0.2.2.2.2.1), (.int .i64 a0.2.2.2.2.2.1), (.bool a0.2.2.2.2.2.2.1), (.slice a0.2.2.2.2.2.2.2.1.base a0.2.2.2.2.2.2.2.1.len a0.2.2.2.2.2.2.2.1.cap), (.slice a0.2.2.2.2.2.2.2.2.base a0.2.2.2.2.2.2.2.2.len a0.2.2.2.2.2.2.2.2.cap)]) h fun b1 h0 =>
 newO (row 33 [(.int .i64 b.1), (.int .i64 b.2.1), (.int .i64 b.2.2.1), (.int .i64 b.2.2.2.1), (.int .i64 b.2.2.2.2.1), (.int .i64 b.2.2.2.2.2.1), (.bool b.2.2.2.2.2.2.1), (.slice b.2.2.2.2.2.2.2.1.base b.2.2.2.2.2.2.2.1.len b.2.2.2.2.2.2.2.1.cap), (.slice b.2.2.2.2.2.2.2.2.base b.2.2.2.2.2.2.2.2.len b.2.2.2.2.2.2.2.2.cap)]) h0 fun b2 h1 =>
 joinO (
 bindO (ldI .i64 h1 (add (⟨b1, 0, some 0⟩ : Addr) 0)) fun x0 =>
 bindO (ldI .i64 h1 (add (⟨b2, 0, some 0⟩ : Addr) 0)) fun x1 =>
 condK (x0 != x1) (
 some (inl (((some (⟨b1, 0, some 0⟩ : Addr)), ((some (⟨b2, 0, some 0⟩ : Addr)), true)), h1))) (
 bindO (ldI .i64 h1 (add (⟨b1, 0, some 0⟩ : Addr) 1)) fun x2 =>
 bindO (ldI .i64 h1 (add (⟨b2, 0, some 0⟩ : Addr) 1)) fun x3 =>
 condK (x2 != x3) (
 some (inl (((some (⟨b1, 0, some 0⟩ : Addr)), ((some (⟨b2, 0, some 0⟩ : Addr)), true)), h1))) (
 bindO (ldI .i64 h1 (add (⟨b1, 0, some 0⟩ : Addr) 2)) fun x4 =>
 bindO (ldI .i64 h1 (add (⟨b2, 0, some 0⟩ : Addr) 2)) fun x5 =>
 condK (x4 != x5) (
 some (inl (((some (⟨b1, 0, some 0⟩ : Addr)), ((some (⟨b2, 0, some 0⟩ : Addr)), true)), h1))) (
 bindO (ldI .i64 h1 (add (⟨b1, 0, some 0⟩ : Addr) 3)) fun x6 =>
 bindO (ldI .i64 h1 (add (⟨b2, 0, some 0⟩ : Addr) 3)) fun x7 =>
 condK (x6 != x7) (
 some (inl (((some (⟨b1, 0, some 0⟩ : Addr)), ((some (⟨b2, 0, some 0⟩ : Addr)), true)), h1))) (
 bindO (ldI .i64 h1 (add (⟨b1, 0, some 0⟩ : Addr) 4)) fun x8 =>
 bindO (ldI .i64 h1 (add (⟨b2, 0, some 0⟩ : Addr) 4)) fun x9 =>
 condK (x8 != x9) (
 some (inl (((some (⟨b1, 0, some 0⟩ : Addr)), ((some (⟨b2, 0, some 0⟩ : Addr)), true)), h1))) (
 bindO (ldB h1 (add (⟨b1, 0, some 0⟩ : Addr) 6)) fun x10 =>
 bindO (ldB h1 (add (⟨b2, 0, some 0⟩ : Addr) 6)) fun x11 =>
 condK (!(x10 == x11)) (
 some (inl (((some (⟨b1, 0, some 0⟩ : Addr)), ((some (⟨b2, 0, some 0⟩ : Addr)), true)), h1))) (
 bindO (ldL h1 (add (⟨b1, 0, some 0⟩ : Addr) 7)) fun x12 =>
 bind2 (strT h1 x12) fun x13 h2 =>
 bindO (ldL h2 (add (⟨b2, 0, some 0⟩ : Addr) 7)) fun x14 =>
 bind2 (strT h2 x14) fun x15 h3 =>
 condK (!(x13.toList == x15.toList)) (
 some (inl (((some (⟨b1, 0, some 0⟩ : Addr)), ((some (⟨b2, 0, some 0⟩ : Addr)), true)), h3))) (
 bindO (ldL h3 (add (⟨b1, 0, some 0⟩ : Addr) 8)) fun x16 =>
 bindO (ldL h3 (add (⟨b2, 0, some 0⟩ : Addr) 8)) fun x17 =>
 some (inl (((some (⟨b1, 0, some 0⟩ : Addr)), ((some (⟨b2, 0, some 0⟩ : Addr)), (((x16.len : Nat) : Int) != ((x17.len : Nat) : Int)))), h3)))))))))) fun (((a1, (b3, x0)), h2) : (((Option Addr) × ((Option Addr) × Bool)) × H)) =>
 condK x0 (
 some (false, h2)) (
 loopO ref1_SameFrame_l1 ((a1, (b3, 0)), h2))
def ann_139 : Ann := ⟨fun _ => none, fun i => bif i.beq 4 then some ⟨[2, 3, 5], [eP_, eP_, eI_]⟩ else none, fun i => bif i.beq 1 then some ⟨[2, 3, 63], [eP_, eP_, eB_]⟩ else none⟩
def E_139 : Ent := V_139 ref1_SameFrame
theorem eq_139 : runE [] ann_139 Try.f139 (V_139 ref1_SameFrame) = (V_139 ref1_SameFrame).g := by kernel_rfl
theorem ok_139 : E_139.ok Tab.D := entT entN (by kernel_rfl) (by kernel_rfl) (by kernel_rfl) eq_139
/-! ref1_SameFrames -/
abbrev T_81 := Sl → Sl → H → Option ((Bool) × H)
abbrev V_81 (f : T_81) : Ent := ⟨81, [eL_, eL_], [eB_], fun (x : Sl × Sl) h => f x.1 x.2 h⟩
def P.ref1_SameFrames_l1 (ref1_SameFrame : T_139) : ((Sl × (Sl × Int)) × H) → Option (((Sl × (Sl × Int)) × H) ⊕ (Bool × H)) := fun ((a0, (b, i)), h0) =>
 condK (decide ((i < ((a0.len : Nat) : Int)))) (
 bindO (ixT 9 a0 i) fun a1 =>
 bindO (ldZ j9 h0 a1) fun ((x0, x1, x2, x3, x4, x5, x6, x7, x8) : J9) =>
 bindO (ixT 9 b i) fun a2 =>
 bindO (ldZ j9 h0 a2) fun ((x9, x10, x11, x12, x13, x14, x15, x16, x17) : J9) =>
 bind2 (ref1_SameFrame (x0, x1, x2, x3, x4, x5, x6, x7, x8) (x9, x10, x11, x12, x13, x14, x15, x16, x17) h0) fun x18 h1 =>
 condK (!x18) (
 some (inr (false, h1))) (
 some (inl ((a0, (b, (IntKind.wrap .i64 (i + 1)))), h1)))) (
 some (inr (true, h0)))

def P.ref1_SameFrames (ref1_SameFrame : T_139) (a0 : Sl) (b : Sl) (h : H) : Option (Bool × H) :=
 condK (((a0.len : Nat) : Int) != ((b.len : Nat) : Int)) (
 some (false, h)) (
 loopO (P.ref1_SameFrames_l1 ref1_SameFrame) ((a0, (b, 0)), h))
abbrev ref1_SameFrames_l1 := P.ref1_SameFrames_l1 ref1_SameFrame
def ref1_SameFrames : Sl → Sl → H → Option ((Bool) × H) := P.ref1_SameFrames ref1_SameFrame
def ann_81 : Ann := ⟨fun _ => none, fun i => bif i.beq 4 then some ⟨[0, 1, 5], [eL_, eL_, eI_]⟩ else none, fun _ => none⟩
def E_81 : Ent := V_81 ref1_SameFrames
theorem eq_81 (ref1_SameFrame : T_139) : runE [V_139 ref1_SameFrame] ann_81 Try.f81 (V_81 (P.ref1_SameFrames ref1_SameFrame)) = (V_81 (P.ref1_SameFrames ref1_SameFrame)).g := by kernel_rfl
theorem ok_81 : E_81.ok Tab.D := entT (entC ok_139 entN) (by kernel_rfl) (by kernel_rfl) (by kernel_rfl) (eq_81 ref1_SameFrame)
/-! law6_PacketTells -/
abbrev T_18 := Int → Int → Int → Int → Sl → Sl → Int → Int → Bool → H → Option ((Bool) × H)
abbrev V_18 (f : T_18) : Ent := ⟨18, [⟨false, [.int .u64]⟩, eI_, eI_, eI_, eL_, eL_, eI_, ⟨false, [.int .u8]⟩, eB_], [eB_], fun (x : Int × Int × Int × Int × Sl × Sl × Int × Int × Bool) h => f x.1 x.2.1 x.2.2.1 x.2.2.2.1 x.2.2.2.2.1 x.2.2.2.2.2.1 x.2.2.2.2.2.2.1 x.2.2.2.2.2.2.2.1 x.2.2.2.2.2.2.2.2 h⟩
def P.law6_PacketTells_l1 (hand_May : T_48) (hand_Pick : T_24) (hand_Frames : T_76) (packet_Lay : T_72) (ref1_LayPacket : T_77) (packet_Room : T_75) (ref1_Room : T_78) (hand_Right : T_52) (hand_Few : T_49) (ref1_Close : T_79) (packet_Read : T_73) (ref1_ReadPacket : T_80) (ref1_SameFrames : T_81) (law6_known : T_74) : ((Int × (Int × (Int × (Int × (Int × ((Sl × (Sl × (Sl × Sl))) × Int)))))) × H) → Option (((Int × (Int × (Int × (Int × (Int × ((Sl × (Sl × (Sl × Sl))) × Int)))))) × H) ⊕ ((PUnit × H) ⊕ (Bool × H))) := fun ((key, (next, (at', (with', (n, ((x0, (x1, (x2, x3))), x4)))))), h0) =>
 condK (decide ((x4 < 4))) (
 bindO (ixVT ⟨false, [.sl]⟩ [(.slice x0.base x0.len x0.cap), (.slice x1.base x1.len x1.cap), (.slice x2.base x2.len x2.cap), (.slice x3.base x3.len x3.cap)] x4) fun x5 =>
 bind2 (hand_Few x5 400 h0) fun x6 h1 =>
 joinO (
 joinO (
 condK (decide ((((x6.len : Nat) : Int) > 0))) (
 some (inl ((key, (next, (at', (with', (n, (x6, ((x0, (x1, (x2, x3))), (x4, ((Int.tmod at' 3) == 0))))))))), h1))) (
 some (inl ((key, (next, (at', (with', (n, (x6, ((x0, (x1, (x2, x3))), (x4, false)))))))), h1)))) fun (((key1, (next1, (at'1, (with'1, (n1, (w, ((x7, (x8, (x9, x10))), (x11, x12)))))))), h2) : ((Int × (Int × (Int × (Int × (Int × (Sl × ((Sl × (Sl × (Sl × Sl))) × (Int × Bool)))))))) × H)) =>
 condK x12 (
 bind2 (hand_Pick (IntKind.wrap .i64 (Int.tdiv at'1 3)) ((w.len : Nat) : Int) h2) fun x13 h3 =>
 bindO (ixT 1 w x13) fun a0 =>
 bindO (ldI .u8 h3 a0) fun x14 =>
 letO ((IntKind.wrap .u8 (((BitVec.toNat ((BitVec.ofInt 8 x14) ^^^ (BitVec.ofInt 8 with'1))) : Nat) : Int))) fun x15 =>
 bindO (ixT 1 w x13) fun a1 =>
 bindO (st1 h3 a1 (.int .u8 x15)) fun h4 =>
 some (inl ((key1, (next1, (at'1, (with'1, (n1, (w, ((x7, (x8, (x9, x10))), x11))))))), h4))) (
 some (inl ((key1, (next1, (at'1, (with'1, (n1, (w, ((x7, (x8, (x9, x10))), x11))))))), h2)))) fun (((key1, (next1, (at'1, (with'1, (n1, (w, ((x7, (x8, (x9, x10))), x11))))))), h2) : ((Int × (Int × (Int × (Int × (Int × (Sl × ((Sl × (Sl × (Sl × Sl))) × Int))))))) × H)) =>
 bind2 (hand_Pick next1 100 h2) fun x12 h3 =>
 letO ((if ((IntKind.wrap .i64 (n1 - x12)) > 0) then (IntKind.wrap .i64 (n1 - x12)) else 0)) fun x13 =>
 bind2 (packet_Read key1 x13 w h3) fun ((x14, x15, x16) : Int × Sl × Int) (h4 : H) =>
 bind2 (ref1_ReadPacket key1 x13 w h4) fun ((x17, x18, x19) : Int × Sl × Int) (h5 : H) =>
 joinO (
 condK (x14 != x17) (
 some (inl ((key1, (next1, (at'1, (with'1, (n1, ((x7, (x8, (x9, x10))), (x11, true))))))), h5))) (
 condK (x16 != x19) (
 some (inl ((key1, (next1, (at'1, (with'1, (n1, ((x7, (x8, (x9, x10))), (x11, true))))))), h5))) (
 bind2 (ref1_SameFrames x15 x18 h5) fun x20 h6 =>
 some (inl ((key1, (next1, (at'1, (with'1, (n1, ((x7, (x8, (x9, x10))), (x11, (!x20)))))))), h6))))) fun (((key2, (next2, (at'2, (with'2, (n2, ((x20, (x21, (x22, x23))), (x24, x25))))))), h6) : ((Int × (Int × (Int × (Int × (Int × ((Sl × (Sl × (Sl × Sl))) × (Int × Bool))))))) × H)) =>
 condK x25 (
 some (inr (inr (false, h6)))) (
 some (inl ((key2, (next2, (at'2, (with'2, (n2, ((x20, (x21, (x22, x23))), (IntKind.wrap .i64 (x24 + 1)))))))), h6)))) (
 some (inr (inl ((), h0))))

def P.law6_PacketTells (hand_May : T_48) (hand_Pick : T_24) (hand_Frames : T_76) (packet_Lay : T_72) (ref1_LayPacket : T_77) (packet_Room : T_75) (ref1_Room : T_78) (hand_Right : T_52) (hand_Few : T_49) (ref1_Close : T_79) (packet_Read : T_73) (ref1_ReadPacket : T_80) (ref1_SameFrames : T_81) (law6_known : T_74) (key : Int) (num : Int) (far : Int) (next : Int) (l : Sl) (raw : Sl) (at' : Int) (with' : Int) (odd : Bool) (h : H) : Option (Bool × H) :=
 bind2 (hand_May num h) fun x0 h0 =>
 bind2 (hand_Pick far 131072 h0) fun x1 h1 =>
 letO ((if ((IntKind.wrap .i64 ((IntKind.wrap .i64 (x0 - 1)) - x1)) > (-1)) then (IntKind.wrap .i64 ((IntKind.wrap .i64 (x0 - 1)) - x1)) else (-1))) fun x2 =>
 joinO (
 condK odd (
 bind2 (hand_Pick far 1000 h1) fun x3 h2 =>
 some (inl ((key, (next, (l, (raw, (at', (with', (x0, (IntKind.wrap .i64 (x3 - 2))))))))), h2))) (
 some (inl ((key, (next, (l, (raw, (at', (with', (x0, x2))))))), h1)))) fun (((key1, (next1, (l1, (raw1, (at'1, (with'1, (n, acked))))))), h2) : ((Int × (Int × (Sl × (Sl × (Int × (Int × (Int × Int))))))) × H)) =>
 bind2 (hand_Frames l1 4 h2) fun x3 h3 =>
 bind2 (packet_Lay key1 n acked x3 h3) fun ((x4, x5) : Sl × Int) (h4 : H) =>
 bind2 (ref1_LayPacket key1 n acked x3 h4) fun ((x6, x7) : Sl × Int) (h5 : H) =>
 joinO (
 condK (x5 != x7) (
 some (inl ((key1, (next1, (l1, (raw1, (at'1, (with'1, (n, (acked, true)))))))), h5))) (
 bind2 (strT h5 x4) fun x8 h6 =>
 bind2 (strT h6 x6) fun x9 h7 =>
 condK (!(x8.toList == x9.toList)) (
 some (inl ((key1, (next1, (l1, (raw1, (at'1, (with'1, (n, (acked, true)))))))), h7))) (
 letO ((if ((IntKind.wrap .i64 (n - 1)) < acked) then (IntKind.wrap .i64 (n - 1)) else acked)) fun x10 =>
 bind2 (packet_Room n x10 h7) fun x11 h8 =>
 letO ((if ((IntKind.wrap .i64 (n - 1)) < acked) then (IntKind.wrap .i64 (n - 1)) else acked)) fun x12 =>
 bind2 (ref1_Room n x12 h8) fun x13 h9 =>
 some (inl ((key1, (next1, (l1, (raw1, (at'1, (with'1, (n, (acked, (x11 != x13))))))))), h9))))) fun (((key2, (next2, (l2, (raw2, (at'2, (with'2, (n1, (acked1, x8)))))))), h6) : ((Int × (Int × (Sl × (Sl × (Int × (Int × (Int × (Int × Bool)))))))) × H)) =>
 condK x8 (
 some (false, h6)) (
 bind2 (hand_Right l2 2 h6) fun x9 h7 =>
 bind2 (ref1_LayPacket key2 n1 acked1 x9 h7) fun ((x10, x11) : Sl × Int) (h8 : H) =>
 bind2 (ref1_LayPacket key2 n1 acked1 (⟨none, 0, 0⟩ : Sl) h8) fun ((x12, x13) : Sl × Int) (h9 : H) =>
 newO (row 5 [(.int .u8 64), (.int .u8 (IntKind.wrap .u8 n1))]) h9 fun b h10 =>
 bind2 (hand_Few raw2 50 h10) fun x14 h11 =>
 bind2 (ref1_Close key2 (Int.tmod n1 256) (⟨(some (⟨b, 0, some 0⟩ : Addr)), 2, 2⟩ : Sl) x14 h11) fun x15 h12 =>
 joinO (
 newO (row 5 [(.int .u8 64), (.int .u8 (IntKind.wrap .u8 n1))]) h12 fun b1 h13 =>
 bind2 (appT 5 1 1 h13 (⟨(some (⟨b1, 0, some 0⟩ : Addr)), 2, 2⟩ : Sl) x15) fun x16 h14 =>
 loopO (P.law6_PacketTells_l1 hand_May hand_Pick hand_Frames packet_Lay ref1_LayPacket packet_Room ref1_Room hand_Right hand_Few ref1_Close packet_Read ref1_ReadPacket ref1_SameFrames law6_known) ((key2, (next2, (at'2, (with'2, (n1, ((x10, (raw2, (x12, x16))), 0)))))), h14)) fun (((), h13) : (PUnit × H)) =>
 bind2 (law6_known h13) fun x16 h14 =>
 some (x16, h14))
abbrev law6_PacketTells_l1 := P.law6_PacketTells_l1 hand_May hand_Pick hand_Frames packet_Lay ref1_LayPacket packet_Room ref1_Room hand_Right hand_Few ref1_Close packet_Read ref1_ReadPacket ref1_SameFrames law6_known
def law6_PacketTells : Int → Int → Int → Int → Sl → Sl → Int → Int → Bool → H → Option ((Bool) × H) := P.law6_PacketTells hand_May hand_Pick hand_Frames packet_Lay ref1_LayPacket packet_Room ref1_Room hand_Right hand_Few ref1_Close packet_Read ref1_ReadPacket ref1_SameFrames law6_known
def ann_18 : Ann := ⟨fun i => bif i.beq 5 then some ⟨[0, 3, 4, 5, 6, 7, 19, 20], [⟨false, [.int .u64]⟩, eI_, eL_, eL_, eI_, ⟨false, [.int .u8]⟩, eI_, eI_]⟩ else bif i.beq 19 then some ⟨[0, 3, 6, 7, 19, 33, 129, 130], [⟨false, [.int .u64]⟩, eI_, eI_, ⟨false, [.int .u8]⟩, eI_, eL_, ⟨true, [.sl, .sl, .sl, .sl]⟩, eI_]⟩ else bif i.beq 25 then some ⟨[], []⟩ else none, fun i => bif i.beq 14 then some ⟨[0, 3, 6, 7, 19, 129, 130], [⟨false, [.int .u64]⟩, eI_, eI_, ⟨false, [.int .u8]⟩, eI_, ⟨true, [.sl, .sl, .sl, .sl]⟩, eI_]⟩ else none, fun i => bif i.beq 8 then some ⟨[0, 3, 4, 5, 6, 7, 19, 20, 95], [⟨false, [.int .u64]⟩, eI_, eL_, eL_, eI_, ⟨false, [.int .u8]⟩, eI_, eI_, eB_]⟩ else bif i.beq 17 then some ⟨[0, 3, 6, 7, 19, 33, 129, 130, 142], [⟨false, [.int .u64]⟩, eI_, eI_, ⟨false, [.int .u8]⟩, eI_, eL_, ⟨true, [.sl, .sl, .sl, .sl]⟩, eI_, eB_]⟩ else bif i.beq 22 then some ⟨[0, 3, 6, 7, 19, 129, 130, 188], [⟨false, [.int .u64]⟩, eI_, eI_, ⟨false, [.int .u8]⟩, eI_, ⟨true, [.sl, .sl, .sl, .sl]⟩, eI_, eB_]⟩ else none⟩
def E_18 : Ent := V_18 law6_PacketTells
theorem eq_18 (hand_May : T_48) (hand_Pick : T_24) (hand_Frames : T_76) (packet_Lay : T_72) (ref1_LayPacket : T_77) (packet_Room : T_75) (ref1_Room : T_78) (hand_Right : T_52) (hand_Few : T_49) (ref1_Close : T_79) (packet_Read : T_73) (ref1_ReadPacket : T_80) (ref1_SameFrames : T_81) (law6_known : T_74) : runE [V_48 hand_May, V_24 hand_Pick, V_76 hand_Frames, V_72 packet_Lay, V_77 ref1_LayPacket, V_75 packet_Room, V_78 ref1_Room, V_52 hand_Right, V_49 hand_Few, V_79 ref1_Close, V_73 packet_Read, V_80 ref1_ReadPacket, V_81 ref1_SameFrames, V_74 law6_known] ann_18 Try.f18 (V_18 (P.law6_PacketTells hand_May hand_Pick hand_Frames packet_Lay ref1_LayPacket packet_Room ref1_Room hand_Right hand_Few ref1_Close packet_Read ref1_ReadPacket ref1_SameFrames law6_known)) = (V_18 (P.law6_PacketTells hand_May hand_Pick hand_Frames packet_Lay ref1_LayPacket packet_Room ref1_Room hand_Right hand_Few ref1_Close packet_Read ref1_ReadPacket ref1_SameFrames law6_known)).g := by kernel_rfl
theorem ok_18 : E_18.ok Tab.D := entT (entC ok_48 (entC ok_24 (entC ok_76 (entC ok_72 (entC ok_77 (entC ok_75 (entC ok_78 (entC ok_52 (entC ok_49 (entC ok_79 (entC ok_73 (entC ok_80 (entC ok_81 (entC ok_74 entN)))))))))))))) (by kernel_rfl) (by kernel_rfl) (by kernel_rfl) (eq_18 hand_May hand_Pick hand_Frames packet_Lay ref1_LayPacket packet_Room ref1_Room hand_Right hand_Few ref1_Close packet_Read ref1_ReadPacket ref1_SameFrames law6_known)
end
end Go.Proofs.Ythiccnmplgdheaa.T
