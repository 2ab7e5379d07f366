/- The tables of the seat's program: its functions, its types; that they tell the program's own. Written by a program of this session (wip/mktab.py). -/
import Derived.Test.YtejdeibmhlcnbaaProg
import Derived.Test.YtejdeibmhlcnbaaAbsE
import Derived.KernelRfl
set_option linter.unusedVariables false
set_option maxRecDepth 100000
namespace Go.Proofs.Ytejdeibmhlcnbaa.Tab
open Go Go.Abs Go.Proofs
theorem get_leaf {α : Type} {p : Nat → α → Prop} : ∀ f F, (Tr.leaf : Tr α).get f = some F → p f F := fun f F h => by simp [Tr.get] at h
theorem get_node {α : Type} {p : Nat → α → Prop} {l r : Tr α} {v : Option α} (h0 : ∀ F, v = some F → p 0 F) (hl : ∀ f F, l.get f = some F → p (2 * f + 1) F) (hr : ∀ f F, r.get f = some F → p (2 * f + 2) F) : ∀ f F, (Tr.node l v r).get f = some F → p f F := by
  intro f F h
  unfold Tr.get at h
  by_cases h1 : f = 0
  · subst h1; exact h0 F h
  · rw [nbeq_f h1] at h
    by_cases h2 : f % 2 = 1
    · rw [nbeq_t h2] at h
      have := hl _ F h
      rwa [show 2 * (f / 2) + 1 = f by omega] at this
    · rw [nbeq_f h2] at h
      have := hr _ F h
      rwa [show 2 * (f / 2 - 1) + 2 = f by omega] at this
noncomputable def y0 : TyI := ⟨1, 0, (Go.Value.tuple #[]), (Go.TypeDesc.tuple #[]), false⟩
noncomputable def y1 : TyI := ⟨1, 8, Go.Value.nilFunc, (Go.TypeDesc.func #[] #[] false), false⟩
noncomputable def y2 : TyI := ⟨1, 8, (Go.Value.int Go.IntKind.i64 0), (Go.TypeDesc.int Go.IntKind.i64), false⟩
noncomputable def y3 : TyI := ⟨1, 8, (Go.Value.int Go.IntKind.i64 0), (Go.TypeDesc.int Go.IntKind.i64), false⟩
noncomputable def y4 : TyI := ⟨1, 1, (Go.Value.bool false), Go.TypeDesc.bool, false⟩
noncomputable def y5 : TyI := ⟨1, 1, (Go.Value.int Go.IntKind.u8 0), (Go.TypeDesc.int Go.IntKind.u8), false⟩
noncomputable def y6 : TyI := ⟨1, 1, (Go.Value.int Go.IntKind.u8 0), (Go.TypeDesc.int Go.IntKind.u8), false⟩
noncomputable def y7 : TyI := ⟨4, 24, (Go.Value.agg #[Go.Value.int Go.IntKind.i64 0, Go.Value.int Go.IntKind.i64 0, Go.Value.bool false, Go.Value.int Go.IntKind.u8 0]), (Go.TypeDesc.struct #[{ name := "x", type := 2, offset := 0, embedded := false, tag := "", pkgPath := "runtime", byteOffset := 0 }, { name := "y", type := 3, offset := 1, embedded := false, tag := "", pkgPath := "runtime", byteOffset := 8 }, { name := "signed", type := 4, offset := 2, embedded := false, tag := "", pkgPath := "runtime", byteOffset := 16 }, { name := "code", type := 6, offset := 3, embedded := false, tag := "", pkgPath := "runtime", byteOffset := 17 }]), false⟩
noncomputable def y8 : TyI := ⟨4, 24, (Go.Value.agg #[Go.Value.int Go.IntKind.i64 0, Go.Value.int Go.IntKind.i64 0, Go.Value.bool false, Go.Value.int Go.IntKind.u8 0]), (Go.TypeDesc.struct #[{ name := "x", type := 2, offset := 0, embedded := false, tag := "", pkgPath := "runtime", byteOffset := 0 }, { name := "y", type := 3, offset := 1, embedded := false, tag := "", pkgPath := "runtime", byteOffset := 8 }, { name := "signed", type := 4, offset := 2, embedded := false, tag := "", pkgPath := "runtime", byteOffset := 16 }, { name := "code", type := 6, offset := 3, embedded := false, tag := "", pkgPath := "runtime", byteOffset := 17 }]), false⟩
noncomputable def y9 : TyI := ⟨1, 16, (Go.Value.string { data := #[] }), Go.TypeDesc.string, false⟩
noncomputable def y10 : TyI := ⟨1, 16, (Go.Value.string { data := #[] }), Go.TypeDesc.string, false⟩
noncomputable def y11 : TyI := ⟨1, 16, (Go.Value.string { data := #[] }), Go.TypeDesc.string, false⟩
noncomputable def y12 : TyI := ⟨1, 8, (Go.Value.int Go.IntKind.u64 0), (Go.TypeDesc.int Go.IntKind.u64), false⟩
noncomputable def y13 : TyI := ⟨2, 24, (Go.Value.agg #[Go.Value.string { data := #[] }, Go.Value.int Go.IntKind.u64 0]), (Go.TypeDesc.struct #[{ name := "msg", type := 9, offset := 0, embedded := false, tag := "", pkgPath := "runtime", byteOffset := 0 }, { name := "addr", type := 12, offset := 1, embedded := false, tag := "", pkgPath := "runtime", byteOffset := 16 }]), false⟩
noncomputable def y14 : TyI := ⟨2, 24, (Go.Value.agg #[Go.Value.string { data := #[] }, Go.Value.int Go.IntKind.u64 0]), (Go.TypeDesc.struct #[{ name := "msg", type := 9, offset := 0, embedded := false, tag := "", pkgPath := "runtime", byteOffset := 0 }, { name := "addr", type := 12, offset := 1, embedded := false, tag := "", pkgPath := "runtime", byteOffset := 16 }]), false⟩
noncomputable def y15 : TyI := ⟨1, 8, (Go.Value.pointer none), (Go.TypeDesc.pointer 76), false⟩
noncomputable def y16 : TyI := ⟨1, 8, (Go.Value.pointer none), (Go.TypeDesc.pointer 79), false⟩
noncomputable def y17 : TyI := ⟨1, 8, (Go.Value.pointer none), (Go.TypeDesc.pointer 88), false⟩
noncomputable def y18 : TyI := ⟨1, 8, (Go.Value.agg #[Go.Value.pointer none]), (Go.TypeDesc.struct #[{ name := "typ", type := 17, offset := 0, embedded := false, tag := "", pkgPath := "internal/runtime/maps", byteOffset := 0 }]), false⟩
noncomputable def y19 : TyI := ⟨1, 8, (Go.Value.agg #[Go.Value.pointer none]), (Go.TypeDesc.struct #[{ name := "typ", type := 17, offset := 0, embedded := false, tag := "", pkgPath := "internal/runtime/maps", byteOffset := 0 }]), false⟩
noncomputable def y20 : TyI := ⟨1, 16, Go.Value.nilIface, (Go.TypeDesc.interface #[]), false⟩
noncomputable def y21 : TyI := ⟨1, 4, (Go.Value.int Go.IntKind.i32 0), (Go.TypeDesc.int Go.IntKind.i32), false⟩
noncomputable def y22 : TyI := ⟨1, 8, Go.Value.nilFunc, (Go.TypeDesc.func #[3, 3] #[3] false), false⟩
noncomputable def y23 : TyI := ⟨4, 32, (Go.Value.agg #[Go.Value.int Go.IntKind.i64 0, Go.Value.int Go.IntKind.i64 0, Go.Value.int Go.IntKind.i64 0, Go.Value.int Go.IntKind.i64 0]), (Go.TypeDesc.array 4 3), false⟩
noncomputable def y24 : TyI := ⟨1, 8, Go.Value.nilFunc, (Go.TypeDesc.func #[] #[4] false), false⟩
noncomputable def y25 : TyI := ⟨1, 8, Go.Value.nilFunc, (Go.TypeDesc.func #[3, 3, 3] #[3] false), false⟩
noncomputable def y26 : TyI := ⟨1, 8, (Go.Value.int Go.IntKind.u64 0), (Go.TypeDesc.int Go.IntKind.u64), false⟩
noncomputable def y27 : TyI := ⟨1, 8, Go.Value.nilFunc, (Go.TypeDesc.func #[3, 3, 3, 3, 3] #[4] false), false⟩
noncomputable def y28 : TyI := ⟨1, 8, Go.Value.nilFunc, (Go.TypeDesc.func #[3, 3, 3, 3, 3, 3] #[4] false), false⟩
noncomputable def y29 : TyI := ⟨1, 8, Go.Value.nilFunc, (Go.TypeDesc.func #[3] #[3] false), false⟩
noncomputable def y30 : TyI := ⟨1, 8, Go.Value.nilFunc, (Go.TypeDesc.func #[3, 3, 3] #[4] false), false⟩
noncomputable def y31 : TyI := ⟨1, 24, (Go.Value.slice none 0 0), (Go.TypeDesc.slice 5), false⟩
noncomputable def y32 : TyI := ⟨1, 8, Go.Value.nilFunc, (Go.TypeDesc.func #[54] #[3] true), false⟩
noncomputable def y33 : TyI := ⟨1, 8, Go.Value.nilFunc, (Go.TypeDesc.func #[31, 54] #[31] true), false⟩
noncomputable def y34 : TyI := ⟨1, 8, (Go.Value.int Go.IntKind.i64 0), (Go.TypeDesc.int Go.IntKind.i64), false⟩
noncomputable def y35 : TyI := ⟨1, 0, (Go.Value.tuple #[Go.Value.int Go.IntKind.i64 0, Go.Value.slice none 0 0, Go.Value.int Go.IntKind.i64 0]), (Go.TypeDesc.tuple #[3, 31, 34]), false⟩
noncomputable def y36 : TyI := ⟨1, 8, Go.Value.nilFunc, (Go.TypeDesc.func #[31] #[3, 31, 34] false), false⟩
noncomputable def y37 : TyI := ⟨1, 8, Go.Value.nilFunc, (Go.TypeDesc.func #[3, 3, 31] #[4] false), false⟩
noncomputable def y38 : TyI := ⟨1, 8, Go.Value.nilFunc, (Go.TypeDesc.func #[39, 3, 31, 31] #[31] false), false⟩
noncomputable def y39 : TyI := ⟨1, 8, (Go.Value.int Go.IntKind.u64 0), (Go.TypeDesc.int Go.IntKind.u64), false⟩
noncomputable def y40 : TyI := ⟨1, 0, (Go.Value.tuple #[Go.Value.slice none 0 0, Go.Value.bool false]), (Go.TypeDesc.tuple #[31, 4]), false⟩
noncomputable def y41 : TyI := ⟨1, 8, Go.Value.nilFunc, (Go.TypeDesc.func #[39, 3, 31, 31] #[31, 4] false), false⟩
noncomputable def y42 : TyI := ⟨1, 8, Go.Value.nilFunc, (Go.TypeDesc.func #[39, 39] #[39] false), false⟩
noncomputable def y43 : TyI := ⟨1, 8, Go.Value.nilFunc, (Go.TypeDesc.func #[39, 45] #[39] true), false⟩
noncomputable def y44 : TyI := ⟨1, 8, Go.Value.nilFunc, (Go.TypeDesc.func #[39, 3, 31] #[31] false), false⟩
noncomputable def y45 : TyI := ⟨1, 24, (Go.Value.slice none 0 0), (Go.TypeDesc.slice 31), false⟩
noncomputable def y46 : TyI := ⟨1, 8, Go.Value.nilFunc, (Go.TypeDesc.func #[39, 45] #[39] false), false⟩
noncomputable def y47 : TyI := ⟨2, 48, (Go.Value.agg #[Go.Value.slice none 0 0, Go.Value.slice none 0 0]), (Go.TypeDesc.array 2 31), false⟩
noncomputable def y48 : TyI := ⟨1, 8, Go.Value.nilFunc, (Go.TypeDesc.func #[39, 39, 39, 3, 31, 31, 45, 3, 5] #[4] false), false⟩
noncomputable def y49 : TyI := ⟨1, 8, Go.Value.nilFunc, (Go.TypeDesc.func #[31, 3] #[31] false), false⟩
noncomputable def y50 : TyI := ⟨1, 8, Go.Value.nilFunc, (Go.TypeDesc.func #[39, 39, 3, 3, 31, 31, 3, 5] #[4] false), false⟩
noncomputable def y51 : TyI := ⟨1, 8, Go.Value.nilFunc, (Go.TypeDesc.func #[39, 39, 39, 39, 39, 31, 31] #[4] false), false⟩
noncomputable def y52 : TyI := ⟨1, 8, Go.Value.nilFunc, (Go.TypeDesc.func #[39, 3, 3, 31, 31, 31] #[4] false), false⟩
noncomputable def y53 : TyI := ⟨1, 8, Go.Value.nilFunc, (Go.TypeDesc.func #[39, 39, 3, 31, 31] #[4] false), false⟩
noncomputable def y54 : TyI := ⟨1, 24, (Go.Value.slice none 0 0), (Go.TypeDesc.slice 3), false⟩
noncomputable def y55 : TyI := ⟨1, 0, (Go.Value.tuple #[Go.Value.slice none 0 0, Go.Value.slice none 0 0, Go.Value.int Go.IntKind.i64 0]), (Go.TypeDesc.tuple #[54, 31, 34]), false⟩
noncomputable def y56 : TyI := ⟨1, 8, Go.Value.nilFunc, (Go.TypeDesc.func #[31, 3] #[54, 31, 34] false), false⟩
noncomputable def y57 : TyI := ⟨1, 8, Go.Value.nilFunc, (Go.TypeDesc.func #[54] #[54] false), false⟩
noncomputable def y58 : TyI := ⟨1, 8, Go.Value.nilFunc, (Go.TypeDesc.func #[31, 54] #[31] false), false⟩
noncomputable def y59 : TyI := ⟨1, 8, Go.Value.nilFunc, (Go.TypeDesc.func #[54] #[3] false), false⟩
noncomputable def y60 : TyI := ⟨3, 72, (Go.Value.agg #[Go.Value.slice none 0 0, Go.Value.slice none 0 0, Go.Value.slice none 0 0]), (Go.TypeDesc.array 3 31), false⟩
noncomputable def y61 : TyI := ⟨1, 8, Go.Value.nilFunc, (Go.TypeDesc.func #[31, 54, 31, 3, 3, 3, 5] #[4] false), false⟩
noncomputable def y62 : TyI := ⟨1, 8, Go.Value.nilFunc, (Go.TypeDesc.func #[54, 3, 31, 31] #[4] false), false⟩
noncomputable def y63 : TyI := ⟨1, 8, Go.Value.nilFunc, (Go.TypeDesc.func #[54, 3, 3, 3, 31] #[4] false), false⟩
noncomputable def y64 : TyI := ⟨1, 8, Go.Value.nilFunc, (Go.TypeDesc.func #[3] #[4] false), false⟩
noncomputable def y65 : TyI := ⟨1, 8, Go.Value.nilFunc, (Go.TypeDesc.func #[31] #[31] false), false⟩
noncomputable def y66 : TyI := ⟨1, 8, Go.Value.nilFunc, (Go.TypeDesc.func #[45] #[31] true), false⟩
noncomputable def y67 : TyI := ⟨1, 8, Go.Value.nilFunc, (Go.TypeDesc.func #[31, 31] #[4] false), false⟩
noncomputable def y68 : TyI := ⟨1, 8, Go.Value.nilFunc, (Go.TypeDesc.func #[39, 3] #[39] false), false⟩
noncomputable def y69 : TyI := ⟨1, 8, Go.Value.nilFunc, (Go.TypeDesc.func #[39] #[31] false), false⟩
noncomputable def y70 : TyI := ⟨1, 8, Go.Value.nilFunc, (Go.TypeDesc.func #[26] #[3] false), false⟩
noncomputable def y71 : TyI := ⟨1, 8, Go.Value.nilFunc, (Go.TypeDesc.func #[72] #[3] false), false⟩
noncomputable def y72 : TyI := ⟨1, 4, (Go.Value.int Go.IntKind.u32 0), (Go.TypeDesc.int Go.IntKind.u32), false⟩
noncomputable def y73 : TyI := ⟨1, 8, Go.Value.nilFunc, (Go.TypeDesc.func #[39] #[3] false), false⟩
noncomputable def y74 : TyI := ⟨1, 8, Go.Value.nilFunc, (Go.TypeDesc.func #[] #[9] false), false⟩
noncomputable def y75 : TyI := ⟨4, 40, (Go.Value.agg #[Go.Value.pointer none, Go.Value.pointer none, Go.Value.pointer none, Go.Value.string { data := #[] }]), (Go.TypeDesc.struct #[{ name := "_interface", type := 17, offset := 0, embedded := false, tag := "", pkgPath := "runtime", byteOffset := 0 }, { name := "concrete", type := 17, offset := 1, embedded := false, tag := "", pkgPath := "runtime", byteOffset := 8 }, { name := "asserted", type := 17, offset := 2, embedded := false, tag := "", pkgPath := "runtime", byteOffset := 16 }, { name := "missingMethod", type := 9, offset := 3, embedded := false, tag := "", pkgPath := "runtime", byteOffset := 24 }]), false⟩
noncomputable def y76 : TyI := ⟨4, 40, (Go.Value.agg #[Go.Value.pointer none, Go.Value.pointer none, Go.Value.pointer none, Go.Value.string { data := #[] }]), (Go.TypeDesc.struct #[{ name := "_interface", type := 17, offset := 0, embedded := false, tag := "", pkgPath := "runtime", byteOffset := 0 }, { name := "concrete", type := 17, offset := 1, embedded := false, tag := "", pkgPath := "runtime", byteOffset := 8 }, { name := "asserted", type := 17, offset := 2, embedded := false, tag := "", pkgPath := "runtime", byteOffset := 16 }, { name := "missingMethod", type := 9, offset := 3, embedded := false, tag := "", pkgPath := "runtime", byteOffset := 24 }]), false⟩
noncomputable def y77 : TyI := ⟨0, 0, (Go.Value.agg #[]), (Go.TypeDesc.array 0 16), false⟩
noncomputable def y78 : TyI := ⟨0, 0, (Go.Value.agg #[]), (Go.TypeDesc.struct #[{ name := "_", type := 77, offset := 0, embedded := false, tag := "", pkgPath := "runtime", byteOffset := 0 }]), false⟩
noncomputable def y79 : TyI := ⟨0, 0, (Go.Value.agg #[]), (Go.TypeDesc.struct #[{ name := "_", type := 77, offset := 0, embedded := false, tag := "", pkgPath := "runtime", byteOffset := 0 }]), false⟩
noncomputable def y80 : TyI := ⟨1, 8, Go.Value.nilFunc, (Go.TypeDesc.func #[] #[3] false), false⟩
noncomputable def y81 : TyI := ⟨1, 1, (Go.Value.int Go.IntKind.u8 0), (Go.TypeDesc.int Go.IntKind.u8), false⟩
noncomputable def y82 : TyI := ⟨1, 1, (Go.Value.int Go.IntKind.u8 0), (Go.TypeDesc.int Go.IntKind.u8), false⟩
noncomputable def y83 : TyI := ⟨1, 8, Go.Value.nilFunc, (Go.TypeDesc.func #[89, 89] #[4] false), false⟩
noncomputable def y84 : TyI := ⟨1, 8, (Go.Value.pointer none), (Go.TypeDesc.pointer 5), false⟩
noncomputable def y85 : TyI := ⟨1, 4, (Go.Value.int Go.IntKind.i32 0), (Go.TypeDesc.int Go.IntKind.i32), false⟩
noncomputable def y86 : TyI := ⟨1, 4, (Go.Value.int Go.IntKind.i32 0), (Go.TypeDesc.int Go.IntKind.i32), false⟩
noncomputable def y87 : TyI := ⟨11, 48, (Go.Value.agg #[Go.Value.int Go.IntKind.u64 0, Go.Value.int Go.IntKind.u64 0, Go.Value.int Go.IntKind.u32 0, Go.Value.int Go.IntKind.u8 0, Go.Value.int Go.IntKind.u8 0, Go.Value.int Go.IntKind.u8 0, Go.Value.int Go.IntKind.u8 0, Go.Value.nilFunc, Go.Value.pointer none, Go.Value.int Go.IntKind.i32 0, Go.Value.int Go.IntKind.i32 0]), (Go.TypeDesc.struct #[{ name := "Size_", type := 12, offset := 0, embedded := false, tag := "", pkgPath := "", byteOffset := 0 }, { name := "PtrBytes", type := 12, offset := 1, embedded := false, tag := "", pkgPath := "", byteOffset := 8 }, { name := "Hash", type := 72, offset := 2, embedded := false, tag := "", pkgPath := "", byteOffset := 16 }, { name := "TFlag", type := 81, offset := 3, embedded := false, tag := "", pkgPath := "", byteOffset := 20 }, { name := "Align_", type := 5, offset := 4, embedded := false, tag := "", pkgPath := "", byteOffset := 21 }, { name := "FieldAlign_", type := 5, offset := 5, embedded := false, tag := "", pkgPath := "", byteOffset := 22 }, { name := "Kind_", type := 82, offset := 6, embedded := false, tag := "", pkgPath := "", byteOffset := 23 }, { name := "Equal", type := 83, offset := 7, embedded := false, tag := "", pkgPath := "", byteOffset := 24 }, { name := "GCData", type := 84, offset := 8, embedded := false, tag := "", pkgPath := "", byteOffset := 32 }, { name := "Str", type := 85, offset := 9, embedded := false, tag := "", pkgPath := "", byteOffset := 40 }, { name := "PtrToThis", type := 86, offset := 10, embedded := false, tag := "", pkgPath := "", byteOffset := 44 }]), false⟩
noncomputable def y88 : TyI := ⟨11, 48, (Go.Value.agg #[Go.Value.int Go.IntKind.u64 0, Go.Value.int Go.IntKind.u64 0, Go.Value.int Go.IntKind.u32 0, Go.Value.int Go.IntKind.u8 0, Go.Value.int Go.IntKind.u8 0, Go.Value.int Go.IntKind.u8 0, Go.Value.int Go.IntKind.u8 0, Go.Value.nilFunc, Go.Value.pointer none, Go.Value.int Go.IntKind.i32 0, Go.Value.int Go.IntKind.i32 0]), (Go.TypeDesc.struct #[{ name := "Size_", type := 12, offset := 0, embedded := false, tag := "", pkgPath := "", byteOffset := 0 }, { name := "PtrBytes", type := 12, offset := 1, embedded := false, tag := "", pkgPath := "", byteOffset := 8 }, { name := "Hash", type := 72, offset := 2, embedded := false, tag := "", pkgPath := "", byteOffset := 16 }, { name := "TFlag", type := 81, offset := 3, embedded := false, tag := "", pkgPath := "", byteOffset := 20 }, { name := "Align_", type := 5, offset := 4, embedded := false, tag := "", pkgPath := "", byteOffset := 21 }, { name := "FieldAlign_", type := 5, offset := 5, embedded := false, tag := "", pkgPath := "", byteOffset := 22 }, { name := "Kind_", type := 82, offset := 6, embedded := false, tag := "", pkgPath := "", byteOffset := 23 }, { name := "Equal", type := 83, offset := 7, embedded := false, tag := "", pkgPath := "", byteOffset := 24 }, { name := "GCData", type := 84, offset := 8, embedded := false, tag := "", pkgPath := "", byteOffset := 32 }, { name := "Str", type := 85, offset := 9, embedded := false, tag := "", pkgPath := "", byteOffset := 40 }, { name := "PtrToThis", type := 86, offset := 10, embedded := false, tag := "", pkgPath := "", byteOffset := 44 }]), false⟩
noncomputable def y89 : TyI := ⟨1, 8, (Go.Value.pointer none), Go.TypeDesc.unsafePointer, false⟩
noncomputable def ty : Tr TyI := (.node (.node (.node (.node (.node (.node (.node .leaf (some y63) .leaf) (some y31) .leaf) (some y15) (.node (.node .leaf (some y79) .leaf) (some y47) .leaf)) (some y7) (.node (.node (.node .leaf (some y71) .leaf) (some y39) .leaf) (some y23) (.node (.node .leaf (some y87) .leaf) (some y55) .leaf))) (some y3) (.node (.node (.node (.node .leaf (some y67) .leaf) (some y35) .leaf) (some y19) (.node (.node .leaf (some y83) .leaf) (some y51) .leaf)) (some y11) (.node (.node (.node .leaf (some y75) .leaf) (some y43) .leaf) (some y27) (.node .leaf (some y59) .leaf)))) (some y1) (.node (.node (.node (.node (.node .leaf (some y65) .leaf) (some y33) .leaf) (some y17) (.node (.node .leaf (some y81) .leaf) (some y49) .leaf)) (some y9) (.node (.node (.node .leaf (some y73) .leaf) (some y41) .leaf) (some y25) (.node (.node .leaf (some y89) .leaf) (some y57) .leaf))) (some y5) (.node (.node (.node (.node .leaf (some y69) .leaf) (some y37) .leaf) (some y21) (.node (.node .leaf (some y85) .leaf) (some y53) .leaf)) (some y13) (.node (.node (.node .leaf (some y77) .leaf) (some y45) .leaf) (some y29) (.node .leaf (some y61) .leaf))))) (some y0) (.node (.node (.node (.node (.node (.node .leaf (some y64) .leaf) (some y32) .leaf) (some y16) (.node (.node .leaf (some y80) .leaf) (some y48) .leaf)) (some y8) (.node (.node (.node .leaf (some y72) .leaf) (some y40) .leaf) (some y24) (.node (.node .leaf (some y88) .leaf) (some y56) .leaf))) (some y4) (.node (.node (.node (.node .leaf (some y68) .leaf) (some y36) .leaf) (some y20) (.node (.node .leaf (some y84) .leaf) (some y52) .leaf)) (some y12) (.node (.node (.node .leaf (some y76) .leaf) (some y44) .leaf) (some y28) (.node .leaf (some y60) .leaf)))) (some y2) (.node (.node (.node (.node (.node .leaf (some y66) .leaf) (some y34) .leaf) (some y18) (.node (.node .leaf (some y82) .leaf) (some y50) .leaf)) (some y10) (.node (.node (.node .leaf (some y74) .leaf) (some y42) .leaf) (some y26) (.node .leaf (some y58) .leaf))) (some y6) (.node (.node (.node (.node .leaf (some y70) .leaf) (some y38) .leaf) (some y22) (.node (.node .leaf (some y86) .leaf) (some y54) .leaf)) (some y14) (.node (.node (.node .leaf (some y78) .leaf) (some y46) .leaf) (some y30) (.node .leaf (some y62) .leaf))))))
noncomputable def fn : Tr Func := (.node (.node (.node (.node (.node (.node (.node .leaf (some Try.f63) .leaf) (some Try.f31) .leaf) (some Try.f15) (.node .leaf (some Try.f47) .leaf)) (some Try.f7) (.node (.node .leaf (some Try.f39) .leaf) (some Try.f23) (.node .leaf (some Try.f55) .leaf))) (some Try.f3) (.node (.node (.node .leaf (some Try.f35) .leaf) (some Try.f19) (.node .leaf (some Try.f51) .leaf)) (some Try.f11) (.node (.node .leaf (some Try.f43) .leaf) (some Try.f27) (.node .leaf (some Try.f59) .leaf)))) none (.node (.node (.node (.node (.node .leaf (some Try.f65) .leaf) (some Try.f33) .leaf) (some Try.f17) (.node .leaf (some Try.f49) .leaf)) (some Try.f9) (.node (.node .leaf (some Try.f41) .leaf) (some Try.f25) (.node .leaf (some Try.f57) .leaf))) (some Try.f5) (.node (.node (.node .leaf (some Try.f37) .leaf) (some Try.f21) (.node .leaf (some Try.f53) .leaf)) (some Try.f13) (.node (.node .leaf (some Try.f45) .leaf) (some Try.f29) (.node .leaf (some Try.f61) .leaf))))) none (.node (.node (.node (.node (.node (.node .leaf (some Try.f64) .leaf) (some Try.f32) .leaf) (some Try.f16) (.node .leaf (some Try.f48) .leaf)) (some Try.f8) (.node (.node .leaf (some Try.f40) .leaf) (some Try.f24) (.node .leaf (some Try.f56) .leaf))) (some Try.f4) (.node (.node (.node .leaf (some Try.f36) .leaf) (some Try.f20) (.node .leaf (some Try.f52) .leaf)) (some Try.f12) (.node (.node .leaf (some Try.f44) .leaf) (some Try.f28) (.node .leaf (some Try.f60) .leaf)))) none (.node (.node (.node (.node .leaf (some Try.f34) .leaf) (some Try.f18) (.node .leaf (some Try.f50) .leaf)) (some Try.f10) (.node (.node .leaf (some Try.f42) .leaf) (some Try.f26) (.node .leaf (some Try.f58) .leaf))) (some Try.f6) (.node (.node (.node .leaf (some Try.f38) .leaf) (some Try.f22) (.node .leaf (some Try.f54) .leaf)) (some Try.f14) (.node (.node .leaf (some Try.f46) .leaf) (some Try.f30) (.node .leaf (some Try.f62) .leaf))))))
def FnP (f : Nat) (F : Func) : Prop := Try.prog.funcs[f]? = some F ∧ F.body ≠ none ∧ (F.name == "runtime.NumGoroutine") = false
def TyP (t : Nat) (i : TyI) : Prop := Try.prog.underlying t = some i.desc ∧ ∃ inf, Try.prog.info? t = some inf ∧ inf.size = i.size ∧ inf.bytes = i.bytes ∧ inf.zero = some i.zero ∧ i.zero.cells.size = i.size ∧ free i.zero = true ∧ i.size < 4294967296
def FlP (t : Nat) (i : TyI) : Prop := i.flat = true → ∀ xs ys b, xs.length = i.size → intsEq xs ys = some b → ∀ w, (Op.equal t (.agg xs.toArray) (.agg ys.toArray)).run Try.prog w = .ok b w ∧ ∀ op x y, (eqGuard op t x y (.agg xs.toArray) (.agg ys.toArray)).run Try.prog w = .ok () w
theorem p3 : FnP 3 Try.f3 := ⟨Try.func3, fun h => Option.some_ne_none _ h, by decide +kernel⟩
theorem p4 : FnP 4 Try.f4 := ⟨Try.func4, fun h => Option.some_ne_none _ h, by decide +kernel⟩
theorem p5 : FnP 5 Try.f5 := ⟨Try.func5, fun h => Option.some_ne_none _ h, by decide +kernel⟩
theorem p6 : FnP 6 Try.f6 := ⟨Try.func6, fun h => Option.some_ne_none _ h, by decide +kernel⟩
theorem p7 : FnP 7 Try.f7 := ⟨Try.func7, fun h => Option.some_ne_none _ h, by decide +kernel⟩
theorem p8 : FnP 8 Try.f8 := ⟨Try.func8, fun h => Option.some_ne_none _ h, by decide +kernel⟩
theorem p9 : FnP 9 Try.f9 := ⟨Try.func9, fun h => Option.some_ne_none _ h, by decide +kernel⟩
theorem p10 : FnP 10 Try.f10 := ⟨Try.func10, fun h => Option.some_ne_none _ h, by decide +kernel⟩
theorem p11 : FnP 11 Try.f11 := ⟨Try.func11, fun h => Option.some_ne_none _ h, by decide +kernel⟩
theorem p12 : FnP 12 Try.f12 := ⟨Try.func12, fun h => Option.some_ne_none _ h, by decide +kernel⟩
theorem p13 : FnP 13 Try.f13 := ⟨Try.func13, fun h => Option.some_ne_none _ h, by decide +kernel⟩
theorem p14 : FnP 14 Try.f14 := ⟨Try.func14, fun h => Option.some_ne_none _ h, by decide +kernel⟩
theorem p15 : FnP 15 Try.f15 := ⟨Try.func15, fun h => Option.some_ne_none _ h, by decide +kernel⟩
theorem p16 : FnP 16 Try.f16 := ⟨Try.func16, fun h => Option.some_ne_none _ h, by decide +kernel⟩
theorem p17 : FnP 17 Try.f17 := ⟨Try.func17, fun h => Option.some_ne_none _ h, by decide +kernel⟩
theorem p18 : FnP 18 Try.f18 := ⟨Try.func18, fun h => Option.some_ne_none _ h, by decide +kernel⟩
theorem p19 : FnP 19 Try.f19 := ⟨Try.func19, fun h => Option.some_ne_none _ h, by decide +kernel⟩
theorem p20 : FnP 20 Try.f20 := ⟨Try.func20, fun h => Option.some_ne_none _ h, by decide +kernel⟩
theorem p21 : FnP 21 Try.f21 := ⟨Try.func21, fun h => Option.some_ne_none _ h, by decide +kernel⟩
theorem p22 : FnP 22 Try.f22 := ⟨Try.func22, fun h => Option.some_ne_none _ h, by decide +kernel⟩
theorem p23 : FnP 23 Try.f23 := ⟨Try.func23, fun h => Option.some_ne_none _ h, by decide +kernel⟩
theorem p24 : FnP 24 Try.f24 := ⟨Try.func24, fun h => Option.some_ne_none _ h, by decide +kernel⟩
theorem p25 : FnP 25 Try.f25 := ⟨Try.func25, fun h => Option.some_ne_none _ h, by decide +kernel⟩
theorem p26 : FnP 26 Try.f26 := ⟨Try.func26, fun h => Option.some_ne_none _ h, by decide +kernel⟩
theorem p27 : FnP 27 Try.f27 := ⟨Try.func27, fun h => Option.some_ne_none _ h, by decide +kernel⟩
theorem p28 : FnP 28 Try.f28 := ⟨Try.func28, fun h => Option.some_ne_none _ h, by decide +kernel⟩
theorem p29 : FnP 29 Try.f29 := ⟨Try.func29, fun h => Option.some_ne_none _ h, by decide +kernel⟩
theorem p30 : FnP 30 Try.f30 := ⟨Try.func30, fun h => Option.some_ne_none _ h, by decide +kernel⟩
theorem p31 : FnP 31 Try.f31 := ⟨Try.func31, fun h => Option.some_ne_none _ h, by decide +kernel⟩
theorem p32 : FnP 32 Try.f32 := ⟨Try.func32, fun h => Option.some_ne_none _ h, by decide +kernel⟩
theorem p33 : FnP 33 Try.f33 := ⟨Try.func33, fun h => Option.some_ne_none _ h, by decide +kernel⟩
theorem p34 : FnP 34 Try.f34 := ⟨Try.func34, fun h => Option.some_ne_none _ h, by decide +kernel⟩
theorem p35 : FnP 35 Try.f35 := ⟨Try.func35, fun h => Option.some_ne_none _ h, by decide +kernel⟩
theorem p36 : FnP 36 Try.f36 := ⟨Try.func36, fun h => Option.some_ne_none _ h, by decide +kernel⟩
theorem p37 : FnP 37 Try.f37 := ⟨Try.func37, fun h => Option.some_ne_none _ h, by decide +kernel⟩
theorem p38 : FnP 38 Try.f38 := ⟨Try.func38, fun h => Option.some_ne_none _ h, by decide +kernel⟩
theorem p39 : FnP 39 Try.f39 := ⟨Try.func39, fun h => Option.some_ne_none _ h, by decide +kernel⟩
theorem p40 : FnP 40 Try.f40 := ⟨Try.func40, fun h => Option.some_ne_none _ h, by decide +kernel⟩
theorem p41 : FnP 41 Try.f41 := ⟨Try.func41, fun h => Option.some_ne_none _ h, by decide +kernel⟩
theorem p42 : FnP 42 Try.f42 := ⟨Try.func42, fun h => Option.some_ne_none _ h, by decide +kernel⟩
theorem p43 : FnP 43 Try.f43 := ⟨Try.func43, fun h => Option.some_ne_none _ h, by decide +kernel⟩
theorem p44 : FnP 44 Try.f44 := ⟨Try.func44, fun h => Option.some_ne_none _ h, by decide +kernel⟩
theorem p45 : FnP 45 Try.f45 := ⟨Try.func45, fun h => Option.some_ne_none _ h, by decide +kernel⟩
theorem p46 : FnP 46 Try.f46 := ⟨Try.func46, fun h => Option.some_ne_none _ h, by decide +kernel⟩
theorem p47 : FnP 47 Try.f47 := ⟨Try.func47, fun h => Option.some_ne_none _ h, by decide +kernel⟩
theorem p48 : FnP 48 Try.f48 := ⟨Try.func48, fun h => Option.some_ne_none _ h, by decide +kernel⟩
theorem p49 : FnP 49 Try.f49 := ⟨Try.func49, fun h => Option.some_ne_none _ h, by decide +kernel⟩
theorem p50 : FnP 50 Try.f50 := ⟨Try.func50, fun h => Option.some_ne_none _ h, by decide +kernel⟩
theorem p51 : FnP 51 Try.f51 := ⟨Try.func51, fun h => Option.some_ne_none _ h, by decide +kernel⟩
theorem p52 : FnP 52 Try.f52 := ⟨Try.func52, fun h => Option.some_ne_none _ h, by decide +kernel⟩
theorem p53 : FnP 53 Try.f53 := ⟨Try.func53, fun h => Option.some_ne_none _ h, by decide +kernel⟩
theorem p54 : FnP 54 Try.f54 := ⟨Try.func54, fun h => Option.some_ne_none _ h, by decide +kernel⟩
theorem p55 : FnP 55 Try.f55 := ⟨Try.func55, fun h => Option.some_ne_none _ h, by decide +kernel⟩
theorem p56 : FnP 56 Try.f56 := ⟨Try.func56, fun h => Option.some_ne_none _ h, by decide +kernel⟩
theorem p57 : FnP 57 Try.f57 := ⟨Try.func57, fun h => Option.some_ne_none _ h, by decide +kernel⟩
theorem p58 : FnP 58 Try.f58 := ⟨Try.func58, fun h => Option.some_ne_none _ h, by decide +kernel⟩
theorem p59 : FnP 59 Try.f59 := ⟨Try.func59, fun h => Option.some_ne_none _ h, by decide +kernel⟩
theorem p60 : FnP 60 Try.f60 := ⟨Try.func60, fun h => Option.some_ne_none _ h, by decide +kernel⟩
theorem p61 : FnP 61 Try.f61 := ⟨Try.func61, fun h => Option.some_ne_none _ h, by decide +kernel⟩
theorem p62 : FnP 62 Try.f62 := ⟨Try.func62, fun h => Option.some_ne_none _ h, by decide +kernel⟩
theorem p63 : FnP 63 Try.f63 := ⟨Try.func63, fun h => Option.some_ne_none _ h, by decide +kernel⟩
theorem p64 : FnP 64 Try.f64 := ⟨Try.func64, fun h => Option.some_ne_none _ h, by decide +kernel⟩
theorem p65 : FnP 65 Try.f65 := ⟨Try.func65, fun h => Option.some_ne_none _ h, by decide +kernel⟩
theorem q0 : TyP 0 y0 := ⟨Try.underlying0, Try.t0, by kernel_rfl, rfl, rfl, rfl, rfl, by kernel_rfl, by decide⟩
theorem r0 : FlP 0 y0 := fun h => by cases h
theorem q1 : TyP 1 y1 := ⟨Try.underlying1, Try.t1, by kernel_rfl, rfl, rfl, rfl, rfl, by kernel_rfl, by decide⟩
theorem r1 : FlP 1 y1 := fun h => by cases h
theorem q2 : TyP 2 y2 := ⟨Try.underlying2, Try.t2, by kernel_rfl, rfl, rfl, rfl, rfl, by kernel_rfl, by decide⟩
theorem r2 : FlP 2 y2 := fun h => by cases h
theorem q3 : TyP 3 y3 := ⟨Try.underlying3, Try.t3, by kernel_rfl, rfl, rfl, rfl, rfl, by kernel_rfl, by decide⟩
theorem r3 : FlP 3 y3 := fun h => by cases h
theorem q4 : TyP 4 y4 := ⟨Try.underlying4, Try.t4, by kernel_rfl, rfl, rfl, rfl, rfl, by kernel_rfl, by decide⟩
theorem r4 : FlP 4 y4 := fun h => by cases h
theorem q5 : TyP 5 y5 := ⟨Try.underlying5, Try.t5, by kernel_rfl, rfl, rfl, rfl, rfl, by kernel_rfl, by decide⟩
theorem r5 : FlP 5 y5 := fun h => by cases h
theorem q6 : TyP 6 y6 := ⟨Try.underlying6, Try.t6, by kernel_rfl, rfl, rfl, rfl, rfl, by kernel_rfl, by decide⟩
theorem r6 : FlP 6 y6 := fun h => by cases h
theorem q7 : TyP 7 y7 := ⟨Try.underlying7, Try.t7, by kernel_rfl, rfl, rfl, rfl, rfl, by kernel_rfl, by decide⟩
theorem r7 : FlP 7 y7 := fun h => by cases h
theorem q8 : TyP 8 y8 := ⟨Try.underlying8, Try.t8, by kernel_rfl, rfl, rfl, rfl, rfl, by kernel_rfl, by decide⟩
theorem r8 : FlP 8 y8 := fun h => by cases h
theorem q9 : TyP 9 y9 := ⟨Try.underlying9, Try.t9, by kernel_rfl, rfl, rfl, rfl, rfl, by kernel_rfl, by decide⟩
theorem r9 : FlP 9 y9 := fun h => by cases h
theorem q10 : TyP 10 y10 := ⟨Try.underlying10, Try.t10, by kernel_rfl, rfl, rfl, rfl, rfl, by kernel_rfl, by decide⟩
theorem r10 : FlP 10 y10 := fun h => by cases h
theorem q11 : TyP 11 y11 := ⟨Try.underlying11, Try.t11, by kernel_rfl, rfl, rfl, rfl, rfl, by kernel_rfl, by decide⟩
theorem r11 : FlP 11 y11 := fun h => by cases h
theorem q12 : TyP 12 y12 := ⟨Try.underlying12, Try.t12, by kernel_rfl, rfl, rfl, rfl, rfl, by kernel_rfl, by decide⟩
theorem r12 : FlP 12 y12 := fun h => by cases h
theorem q13 : TyP 13 y13 := ⟨Try.underlying13, Try.t13, by kernel_rfl, rfl, rfl, rfl, rfl, by kernel_rfl, by decide⟩
theorem r13 : FlP 13 y13 := fun h => by cases h
theorem q14 : TyP 14 y14 := ⟨Try.underlying14, Try.t14, by kernel_rfl, rfl, rfl, rfl, rfl, by kernel_rfl, by decide⟩
theorem r14 : FlP 14 y14 := fun h => by cases h
theorem q15 : TyP 15 y15 := ⟨Try.underlying15, Try.t15, by kernel_rfl, rfl, rfl, rfl, rfl, by kernel_rfl, by decide⟩
theorem r15 : FlP 15 y15 := fun h => by cases h
theorem q16 : TyP 16 y16 := ⟨Try.underlying16, Try.t16, by kernel_rfl, rfl, rfl, rfl, rfl, by kernel_rfl, by decide⟩
theorem r16 : FlP 16 y16 := fun h => by cases h
theorem q17 : TyP 17 y17 := ⟨Try.underlying17, Try.t17, by kernel_rfl, rfl, rfl, rfl, rfl, by kernel_rfl, by decide⟩
theorem r17 : FlP 17 y17 := fun h => by cases h
theorem q18 : TyP 18 y18 := ⟨Try.underlying18, Try.t18, by kernel_rfl, rfl, rfl, rfl, rfl, by kernel_rfl, by decide⟩
theorem r18 : FlP 18 y18 := fun h => by cases h
theorem q19 : TyP 19 y19 := ⟨Try.underlying19, Try.t19, by kernel_rfl, rfl, rfl, rfl, rfl, by kernel_rfl, by decide⟩
theorem r19 : FlP 19 y19 := fun h => by cases h
theorem q20 : TyP 20 y20 := ⟨Try.underlying20, Try.t20, by kernel_rfl, rfl, rfl, rfl, rfl, by kernel_rfl, by decide⟩
theorem r20 : FlP 20 y20 := fun h => by cases h
theorem q21 : TyP 21 y21 := ⟨Try.underlying21, Try.t21, by kernel_rfl, rfl, rfl, rfl, rfl, by kernel_rfl, by decide⟩
theorem r21 : FlP 21 y21 := fun h => by cases h
theorem q22 : TyP 22 y22 := ⟨Try.underlying22, Try.t22, by kernel_rfl, rfl, rfl, rfl, rfl, by kernel_rfl, by decide⟩
theorem r22 : FlP 22 y22 := fun h => by cases h
theorem q23 : TyP 23 y23 := ⟨Try.underlying23, Try.t23, by kernel_rfl, rfl, rfl, rfl, rfl, by kernel_rfl, by decide⟩
theorem r23 : FlP 23 y23 := fun h => by cases h
theorem q24 : TyP 24 y24 := ⟨Try.underlying24, Try.t24, by kernel_rfl, rfl, rfl, rfl, rfl, by kernel_rfl, by decide⟩
theorem r24 : FlP 24 y24 := fun h => by cases h
theorem q25 : TyP 25 y25 := ⟨Try.underlying25, Try.t25, by kernel_rfl, rfl, rfl, rfl, rfl, by kernel_rfl, by decide⟩
theorem r25 : FlP 25 y25 := fun h => by cases h
theorem q26 : TyP 26 y26 := ⟨Try.underlying26, Try.t26, by kernel_rfl, rfl, rfl, rfl, rfl, by kernel_rfl, by decide⟩
theorem r26 : FlP 26 y26 := fun h => by cases h
theorem q27 : TyP 27 y27 := ⟨Try.underlying27, Try.t27, by kernel_rfl, rfl, rfl, rfl, rfl, by kernel_rfl, by decide⟩
theorem r27 : FlP 27 y27 := fun h => by cases h
theorem q28 : TyP 28 y28 := ⟨Try.underlying28, Try.t28, by kernel_rfl, rfl, rfl, rfl, rfl, by kernel_rfl, by decide⟩
theorem r28 : FlP 28 y28 := fun h => by cases h
theorem q29 : TyP 29 y29 := ⟨Try.underlying29, Try.t29, by kernel_rfl, rfl, rfl, rfl, rfl, by kernel_rfl, by decide⟩
theorem r29 : FlP 29 y29 := fun h => by cases h
theorem q30 : TyP 30 y30 := ⟨Try.underlying30, Try.t30, by kernel_rfl, rfl, rfl, rfl, rfl, by kernel_rfl, by decide⟩
theorem r30 : FlP 30 y30 := fun h => by cases h
theorem q31 : TyP 31 y31 := ⟨Try.underlying31, Try.t31, by kernel_rfl, rfl, rfl, rfl, rfl, by kernel_rfl, by decide⟩
theorem r31 : FlP 31 y31 := fun h => by cases h
theorem q32 : TyP 32 y32 := ⟨Try.underlying32, Try.t32, by kernel_rfl, rfl, rfl, rfl, rfl, by kernel_rfl, by decide⟩
theorem r32 : FlP 32 y32 := fun h => by cases h
theorem q33 : TyP 33 y33 := ⟨Try.underlying33, Try.t33, by kernel_rfl, rfl, rfl, rfl, rfl, by kernel_rfl, by decide⟩
theorem r33 : FlP 33 y33 := fun h => by cases h
theorem q34 : TyP 34 y34 := ⟨Try.underlying34, Try.t34, by kernel_rfl, rfl, rfl, rfl, rfl, by kernel_rfl, by decide⟩
theorem r34 : FlP 34 y34 := fun h => by cases h
theorem q35 : TyP 35 y35 := ⟨Try.underlying35, Try.t35, by kernel_rfl, rfl, rfl, rfl, rfl, by kernel_rfl, by decide⟩
theorem r35 : FlP 35 y35 := fun h => by cases h
theorem q36 : TyP 36 y36 := ⟨Try.underlying36, Try.t36, by kernel_rfl, rfl, rfl, rfl, rfl, by kernel_rfl, by decide⟩
theorem r36 : FlP 36 y36 := fun h => by cases h
theorem q37 : TyP 37 y37 := ⟨Try.underlying37, Try.t37, by kernel_rfl, rfl, rfl, rfl, rfl, by kernel_rfl, by decide⟩
theorem r37 : FlP 37 y37 := fun h => by cases h
theorem q38 : TyP 38 y38 := ⟨Try.underlying38, Try.t38, by kernel_rfl, rfl, rfl, rfl, rfl, by kernel_rfl, by decide⟩
theorem r38 : FlP 38 y38 := fun h => by cases h
theorem q39 : TyP 39 y39 := ⟨Try.underlying39, Try.t39, by kernel_rfl, rfl, rfl, rfl, rfl, by kernel_rfl, by decide⟩
theorem r39 : FlP 39 y39 := fun h => by cases h
theorem q40 : TyP 40 y40 := ⟨Try.underlying40, Try.t40, by kernel_rfl, rfl, rfl, rfl, rfl, by kernel_rfl, by decide⟩
theorem r40 : FlP 40 y40 := fun h => by cases h
theorem q41 : TyP 41 y41 := ⟨Try.underlying41, Try.t41, by kernel_rfl, rfl, rfl, rfl, rfl, by kernel_rfl, by decide⟩
theorem r41 : FlP 41 y41 := fun h => by cases h
theorem q42 : TyP 42 y42 := ⟨Try.underlying42, Try.t42, by kernel_rfl, rfl, rfl, rfl, rfl, by kernel_rfl, by decide⟩
theorem r42 : FlP 42 y42 := fun h => by cases h
theorem q43 : TyP 43 y43 := ⟨Try.underlying43, Try.t43, by kernel_rfl, rfl, rfl, rfl, rfl, by kernel_rfl, by decide⟩
theorem r43 : FlP 43 y43 := fun h => by cases h
theorem q44 : TyP 44 y44 := ⟨Try.underlying44, Try.t44, by kernel_rfl, rfl, rfl, rfl, rfl, by kernel_rfl, by decide⟩
theorem r44 : FlP 44 y44 := fun h => by cases h
theorem q45 : TyP 45 y45 := ⟨Try.underlying45, Try.t45, by kernel_rfl, rfl, rfl, rfl, rfl, by kernel_rfl, by decide⟩
theorem r45 : FlP 45 y45 := fun h => by cases h
theorem q46 : TyP 46 y46 := ⟨Try.underlying46, Try.t46, by kernel_rfl, rfl, rfl, rfl, rfl, by kernel_rfl, by decide⟩
theorem r46 : FlP 46 y46 := fun h => by cases h
theorem q47 : TyP 47 y47 := ⟨Try.underlying47, Try.t47, by kernel_rfl, rfl, rfl, rfl, rfl, by kernel_rfl, by decide⟩
theorem r47 : FlP 47 y47 := fun h => by cases h
theorem q48 : TyP 48 y48 := ⟨Try.underlying48, Try.t48, by kernel_rfl, rfl, rfl, rfl, rfl, by kernel_rfl, by decide⟩
theorem r48 : FlP 48 y48 := fun h => by cases h
theorem q49 : TyP 49 y49 := ⟨Try.underlying49, Try.t49, by kernel_rfl, rfl, rfl, rfl, rfl, by kernel_rfl, by decide⟩
theorem r49 : FlP 49 y49 := fun h => by cases h
theorem q50 : TyP 50 y50 := ⟨Try.underlying50, Try.t50, by kernel_rfl, rfl, rfl, rfl, rfl, by kernel_rfl, by decide⟩
theorem r50 : FlP 50 y50 := fun h => by cases h
theorem q51 : TyP 51 y51 := ⟨Try.underlying51, Try.t51, by kernel_rfl, rfl, rfl, rfl, rfl, by kernel_rfl, by decide⟩
theorem r51 : FlP 51 y51 := fun h => by cases h
theorem q52 : TyP 52 y52 := ⟨Try.underlying52, Try.t52, by kernel_rfl, rfl, rfl, rfl, rfl, by kernel_rfl, by decide⟩
theorem r52 : FlP 52 y52 := fun h => by cases h
theorem q53 : TyP 53 y53 := ⟨Try.underlying53, Try.t53, by kernel_rfl, rfl, rfl, rfl, rfl, by kernel_rfl, by decide⟩
theorem r53 : FlP 53 y53 := fun h => by cases h
theorem q54 : TyP 54 y54 := ⟨Try.underlying54, Try.t54, by kernel_rfl, rfl, rfl, rfl, rfl, by kernel_rfl, by decide⟩
theorem r54 : FlP 54 y54 := fun h => by cases h
theorem q55 : TyP 55 y55 := ⟨Try.underlying55, Try.t55, by kernel_rfl, rfl, rfl, rfl, rfl, by kernel_rfl, by decide⟩
theorem r55 : FlP 55 y55 := fun h => by cases h
theorem q56 : TyP 56 y56 := ⟨Try.underlying56, Try.t56, by kernel_rfl, rfl, rfl, rfl, rfl, by kernel_rfl, by decide⟩
theorem r56 : FlP 56 y56 := fun h => by cases h
theorem q57 : TyP 57 y57 := ⟨Try.underlying57, Try.t57, by kernel_rfl, rfl, rfl, rfl, rfl, by kernel_rfl, by decide⟩
theorem r57 : FlP 57 y57 := fun h => by cases h
theorem q58 : TyP 58 y58 := ⟨Try.underlying58, Try.t58, by kernel_rfl, rfl, rfl, rfl, rfl, by kernel_rfl, by decide⟩
theorem r58 : FlP 58 y58 := fun h => by cases h
theorem q59 : TyP 59 y59 := ⟨Try.underlying59, Try.t59, by kernel_rfl, rfl, rfl, rfl, rfl, by kernel_rfl, by decide⟩
theorem r59 : FlP 59 y59 := fun h => by cases h
theorem q60 : TyP 60 y60 := ⟨Try.underlying60, Try.t60, by kernel_rfl, rfl, rfl, rfl, rfl, by kernel_rfl, by decide⟩
theorem r60 : FlP 60 y60 := fun h => by cases h
theorem q61 : TyP 61 y61 := ⟨Try.underlying61, Try.t61, by kernel_rfl, rfl, rfl, rfl, rfl, by kernel_rfl, by decide⟩
theorem r61 : FlP 61 y61 := fun h => by cases h
theorem q62 : TyP 62 y62 := ⟨Try.underlying62, Try.t62, by kernel_rfl, rfl, rfl, rfl, rfl, by kernel_rfl, by decide⟩
theorem r62 : FlP 62 y62 := fun h => by cases h
theorem q63 : TyP 63 y63 := ⟨Try.underlying63, Try.t63, by kernel_rfl, rfl, rfl, rfl, rfl, by kernel_rfl, by decide⟩
theorem r63 : FlP 63 y63 := fun h => by cases h
theorem q64 : TyP 64 y64 := ⟨Try.underlying64, Try.t64, by kernel_rfl, rfl, rfl, rfl, rfl, by kernel_rfl, by decide⟩
theorem r64 : FlP 64 y64 := fun h => by cases h
theorem q65 : TyP 65 y65 := ⟨Try.underlying65, Try.t65, by kernel_rfl, rfl, rfl, rfl, rfl, by kernel_rfl, by decide⟩
theorem r65 : FlP 65 y65 := fun h => by cases h
theorem q66 : TyP 66 y66 := ⟨Try.underlying66, Try.t66, by kernel_rfl, rfl, rfl, rfl, rfl, by kernel_rfl, by decide⟩
theorem r66 : FlP 66 y66 := fun h => by cases h
theorem q67 : TyP 67 y67 := ⟨Try.underlying67, Try.t67, by kernel_rfl, rfl, rfl, rfl, rfl, by kernel_rfl, by decide⟩
theorem r67 : FlP 67 y67 := fun h => by cases h
theorem q68 : TyP 68 y68 := ⟨Try.underlying68, Try.t68, by kernel_rfl, rfl, rfl, rfl, rfl, by kernel_rfl, by decide⟩
theorem r68 : FlP 68 y68 := fun h => by cases h
theorem q69 : TyP 69 y69 := ⟨Try.underlying69, Try.t69, by kernel_rfl, rfl, rfl, rfl, rfl, by kernel_rfl, by decide⟩
theorem r69 : FlP 69 y69 := fun h => by cases h
theorem q70 : TyP 70 y70 := ⟨Try.underlying70, Try.t70, by kernel_rfl, rfl, rfl, rfl, rfl, by kernel_rfl, by decide⟩
theorem r70 : FlP 70 y70 := fun h => by cases h
theorem q71 : TyP 71 y71 := ⟨Try.underlying71, Try.t71, by kernel_rfl, rfl, rfl, rfl, rfl, by kernel_rfl, by decide⟩
theorem r71 : FlP 71 y71 := fun h => by cases h
theorem q72 : TyP 72 y72 := ⟨Try.underlying72, Try.t72, by kernel_rfl, rfl, rfl, rfl, rfl, by kernel_rfl, by decide⟩
theorem r72 : FlP 72 y72 := fun h => by cases h
theorem q73 : TyP 73 y73 := ⟨Try.underlying73, Try.t73, by kernel_rfl, rfl, rfl, rfl, rfl, by kernel_rfl, by decide⟩
theorem r73 : FlP 73 y73 := fun h => by cases h
theorem q74 : TyP 74 y74 := ⟨Try.underlying74, Try.t74, by kernel_rfl, rfl, rfl, rfl, rfl, by kernel_rfl, by decide⟩
theorem r74 : FlP 74 y74 := fun h => by cases h
theorem q75 : TyP 75 y75 := ⟨Try.underlying75, Try.t75, by kernel_rfl, rfl, rfl, rfl, rfl, by kernel_rfl, by decide⟩
theorem r75 : FlP 75 y75 := fun h => by cases h
theorem q76 : TyP 76 y76 := ⟨Try.underlying76, Try.t76, by kernel_rfl, rfl, rfl, rfl, rfl, by kernel_rfl, by decide⟩
theorem r76 : FlP 76 y76 := fun h => by cases h
theorem q77 : TyP 77 y77 := ⟨Try.underlying77, Try.t77, by kernel_rfl, rfl, rfl, rfl, rfl, by kernel_rfl, by decide⟩
theorem r77 : FlP 77 y77 := fun h => by cases h
theorem q78 : TyP 78 y78 := ⟨Try.underlying78, Try.t78, by kernel_rfl, rfl, rfl, rfl, rfl, by kernel_rfl, by decide⟩
theorem r78 : FlP 78 y78 := fun h => by cases h
theorem q79 : TyP 79 y79 := ⟨Try.underlying79, Try.t79, by kernel_rfl, rfl, rfl, rfl, rfl, by kernel_rfl, by decide⟩
theorem r79 : FlP 79 y79 := fun h => by cases h
theorem q80 : TyP 80 y80 := ⟨Try.underlying80, Try.t80, by kernel_rfl, rfl, rfl, rfl, rfl, by kernel_rfl, by decide⟩
theorem r80 : FlP 80 y80 := fun h => by cases h
theorem q81 : TyP 81 y81 := ⟨Try.underlying81, Try.t81, by kernel_rfl, rfl, rfl, rfl, rfl, by kernel_rfl, by decide⟩
theorem r81 : FlP 81 y81 := fun h => by cases h
theorem q82 : TyP 82 y82 := ⟨Try.underlying82, Try.t82, by kernel_rfl, rfl, rfl, rfl, rfl, by kernel_rfl, by decide⟩
theorem r82 : FlP 82 y82 := fun h => by cases h
theorem q83 : TyP 83 y83 := ⟨Try.underlying83, Try.t83, by kernel_rfl, rfl, rfl, rfl, rfl, by kernel_rfl, by decide⟩
theorem r83 : FlP 83 y83 := fun h => by cases h
theorem q84 : TyP 84 y84 := ⟨Try.underlying84, Try.t84, by kernel_rfl, rfl, rfl, rfl, rfl, by kernel_rfl, by decide⟩
theorem r84 : FlP 84 y84 := fun h => by cases h
theorem q85 : TyP 85 y85 := ⟨Try.underlying85, Try.t85, by kernel_rfl, rfl, rfl, rfl, rfl, by kernel_rfl, by decide⟩
theorem r85 : FlP 85 y85 := fun h => by cases h
theorem q86 : TyP 86 y86 := ⟨Try.underlying86, Try.t86, by kernel_rfl, rfl, rfl, rfl, rfl, by kernel_rfl, by decide⟩
theorem r86 : FlP 86 y86 := fun h => by cases h
theorem q87 : TyP 87 y87 := ⟨Try.underlying87, Try.t87, by kernel_rfl, rfl, rfl, rfl, rfl, by kernel_rfl, by decide⟩
theorem r87 : FlP 87 y87 := fun h => by cases h
theorem q88 : TyP 88 y88 := ⟨Try.underlying88, Try.t88, by kernel_rfl, rfl, rfl, rfl, rfl, by kernel_rfl, by decide⟩
theorem r88 : FlP 88 y88 := fun h => by cases h
theorem q89 : TyP 89 y89 := ⟨Try.underlying89, Try.t89, by kernel_rfl, rfl, rfl, rfl, rfl, by kernel_rfl, by decide⟩
theorem r89 : FlP 89 y89 := fun h => by cases h
theorem fnOk : ∀ f F, fn.get f = some F → FnP f F := (get_node (fun F h => by simp at h) (get_node (fun F h => by simp at h) (get_node (fun F h => Option.some.inj h ▸ p3) (get_node (fun F h => Option.some.inj h ▸ p7) (get_node (fun F h => Option.some.inj h ▸ p15) (get_node (fun F h => Option.some.inj h ▸ p31) (get_node (fun F h => Option.some.inj h ▸ p63) get_leaf get_leaf) get_leaf) (get_node (fun F h => Option.some.inj h ▸ p47) get_leaf get_leaf)) (get_node (fun F h => Option.some.inj h ▸ p23) (get_node (fun F h => Option.some.inj h ▸ p39) get_leaf get_leaf) (get_node (fun F h => Option.some.inj h ▸ p55) get_leaf get_leaf))) (get_node (fun F h => Option.some.inj h ▸ p11) (get_node (fun F h => Option.some.inj h ▸ p19) (get_node (fun F h => Option.some.inj h ▸ p35) get_leaf get_leaf) (get_node (fun F h => Option.some.inj h ▸ p51) get_leaf get_leaf)) (get_node (fun F h => Option.some.inj h ▸ p27) (get_node (fun F h => Option.some.inj h ▸ p43) get_leaf get_leaf) (get_node (fun F h => Option.some.inj h ▸ p59) get_leaf get_leaf)))) (get_node (fun F h => Option.some.inj h ▸ p5) (get_node (fun F h => Option.some.inj h ▸ p9) (get_node (fun F h => Option.some.inj h ▸ p17) (get_node (fun F h => Option.some.inj h ▸ p33) (get_node (fun F h => Option.some.inj h ▸ p65) get_leaf get_leaf) get_leaf) (get_node (fun F h => Option.some.inj h ▸ p49) get_leaf get_leaf)) (get_node (fun F h => Option.some.inj h ▸ p25) (get_node (fun F h => Option.some.inj h ▸ p41) get_leaf get_leaf) (get_node (fun F h => Option.some.inj h ▸ p57) get_leaf get_leaf))) (get_node (fun F h => Option.some.inj h ▸ p13) (get_node (fun F h => Option.some.inj h ▸ p21) (get_node (fun F h => Option.some.inj h ▸ p37) get_leaf get_leaf) (get_node (fun F h => Option.some.inj h ▸ p53) get_leaf get_leaf)) (get_node (fun F h => Option.some.inj h ▸ p29) (get_node (fun F h => Option.some.inj h ▸ p45) get_leaf get_leaf) (get_node (fun F h => Option.some.inj h ▸ p61) get_leaf get_leaf))))) (get_node (fun F h => by simp at h) (get_node (fun F h => Option.some.inj h ▸ p4) (get_node (fun F h => Option.some.inj h ▸ p8) (get_node (fun F h => Option.some.inj h ▸ p16) (get_node (fun F h => Option.some.inj h ▸ p32) (get_node (fun F h => Option.some.inj h ▸ p64) get_leaf get_leaf) get_leaf) (get_node (fun F h => Option.some.inj h ▸ p48) get_leaf get_leaf)) (get_node (fun F h => Option.some.inj h ▸ p24) (get_node (fun F h => Option.some.inj h ▸ p40) get_leaf get_leaf) (get_node (fun F h => Option.some.inj h ▸ p56) get_leaf get_leaf))) (get_node (fun F h => Option.some.inj h ▸ p12) (get_node (fun F h => Option.some.inj h ▸ p20) (get_node (fun F h => Option.some.inj h ▸ p36) get_leaf get_leaf) (get_node (fun F h => Option.some.inj h ▸ p52) get_leaf get_leaf)) (get_node (fun F h => Option.some.inj h ▸ p28) (get_node (fun F h => Option.some.inj h ▸ p44) get_leaf get_leaf) (get_node (fun F h => Option.some.inj h ▸ p60) get_leaf get_leaf)))) (get_node (fun F h => Option.some.inj h ▸ p6) (get_node (fun F h => Option.some.inj h ▸ p10) (get_node (fun F h => Option.some.inj h ▸ p18) (get_node (fun F h => Option.some.inj h ▸ p34) get_leaf get_leaf) (get_node (fun F h => Option.some.inj h ▸ p50) get_leaf get_leaf)) (get_node (fun F h => Option.some.inj h ▸ p26) (get_node (fun F h => Option.some.inj h ▸ p42) get_leaf get_leaf) (get_node (fun F h => Option.some.inj h ▸ p58) get_leaf get_leaf))) (get_node (fun F h => Option.some.inj h ▸ p14) (get_node (fun F h => Option.some.inj h ▸ p22) (get_node (fun F h => Option.some.inj h ▸ p38) get_leaf get_leaf) (get_node (fun F h => Option.some.inj h ▸ p54) get_leaf get_leaf)) (get_node (fun F h => Option.some.inj h ▸ p30) (get_node (fun F h => Option.some.inj h ▸ p46) get_leaf get_leaf) (get_node (fun F h => Option.some.inj h ▸ p62) get_leaf get_leaf))))))
theorem tyOk : ∀ t i, ty.get t = some i → TyP t i := (get_node (fun F h => Option.some.inj h ▸ q0) (get_node (fun F h => Option.some.inj h ▸ q1) (get_node (fun F h => Option.some.inj h ▸ q3) (get_node (fun F h => Option.some.inj h ▸ q7) (get_node (fun F h => Option.some.inj h ▸ q15) (get_node (fun F h => Option.some.inj h ▸ q31) (get_node (fun F h => Option.some.inj h ▸ q63) get_leaf get_leaf) get_leaf) (get_node (fun F h => Option.some.inj h ▸ q47) (get_node (fun F h => Option.some.inj h ▸ q79) get_leaf get_leaf) get_leaf)) (get_node (fun F h => Option.some.inj h ▸ q23) (get_node (fun F h => Option.some.inj h ▸ q39) (get_node (fun F h => Option.some.inj h ▸ q71) get_leaf get_leaf) get_leaf) (get_node (fun F h => Option.some.inj h ▸ q55) (get_node (fun F h => Option.some.inj h ▸ q87) get_leaf get_leaf) get_leaf))) (get_node (fun F h => Option.some.inj h ▸ q11) (get_node (fun F h => Option.some.inj h ▸ q19) (get_node (fun F h => Option.some.inj h ▸ q35) (get_node (fun F h => Option.some.inj h ▸ q67) get_leaf get_leaf) get_leaf) (get_node (fun F h => Option.some.inj h ▸ q51) (get_node (fun F h => Option.some.inj h ▸ q83) get_leaf get_leaf) get_leaf)) (get_node (fun F h => Option.some.inj h ▸ q27) (get_node (fun F h => Option.some.inj h ▸ q43) (get_node (fun F h => Option.some.inj h ▸ q75) get_leaf get_leaf) get_leaf) (get_node (fun F h => Option.some.inj h ▸ q59) get_leaf get_leaf)))) (get_node (fun F h => Option.some.inj h ▸ q5) (get_node (fun F h => Option.some.inj h ▸ q9) (get_node (fun F h => Option.some.inj h ▸ q17) (get_node (fun F h => Option.some.inj h ▸ q33) (get_node (fun F h => Option.some.inj h ▸ q65) get_leaf get_leaf) get_leaf) (get_node (fun F h => Option.some.inj h ▸ q49) (get_node (fun F h => Option.some.inj h ▸ q81) get_leaf get_leaf) get_leaf)) (get_node (fun F h => Option.some.inj h ▸ q25) (get_node (fun F h => Option.some.inj h ▸ q41) (get_node (fun F h => Option.some.inj h ▸ q73) get_leaf get_leaf) get_leaf) (get_node (fun F h => Option.some.inj h ▸ q57) (get_node (fun F h => Option.some.inj h ▸ q89) get_leaf get_leaf) get_leaf))) (get_node (fun F h => Option.some.inj h ▸ q13) (get_node (fun F h => Option.some.inj h ▸ q21) (get_node (fun F h => Option.some.inj h ▸ q37) (get_node (fun F h => Option.some.inj h ▸ q69) get_leaf get_leaf) get_leaf) (get_node (fun F h => Option.some.inj h ▸ q53) (get_node (fun F h => Option.some.inj h ▸ q85) get_leaf get_leaf) get_leaf)) (get_node (fun F h => Option.some.inj h ▸ q29) (get_node (fun F h => Option.some.inj h ▸ q45) (get_node (fun F h => Option.some.inj h ▸ q77) get_leaf get_leaf) get_leaf) (get_node (fun F h => Option.some.inj h ▸ q61) get_leaf get_leaf))))) (get_node (fun F h => Option.some.inj h ▸ q2) (get_node (fun F h => Option.some.inj h ▸ q4) (get_node (fun F h => Option.some.inj h ▸ q8) (get_node (fun F h => Option.some.inj h ▸ q16) (get_node (fun F h => Option.some.inj h ▸ q32) (get_node (fun F h => Option.some.inj h ▸ q64) get_leaf get_leaf) get_leaf) (get_node (fun F h => Option.some.inj h ▸ q48) (get_node (fun F h => Option.some.inj h ▸ q80) get_leaf get_leaf) get_leaf)) (get_node (fun F h => Option.some.inj h ▸ q24) (get_node (fun F h => Option.some.inj h ▸ q40) (get_node (fun F h => Option.some.inj h ▸ q72) get_leaf get_leaf) get_leaf) (get_node (fun F h => Option.some.inj h ▸ q56) (get_node (fun F h => Option.some.inj h ▸ q88) get_leaf get_leaf) get_leaf))) (get_node (fun F h => Option.some.inj h ▸ q12) (get_node (fun F h => Option.some.inj h ▸ q20) (get_node (fun F h => Option.some.inj h ▸ q36) (get_node (fun F h => Option.some.inj h ▸ q68) get_leaf get_leaf) get_leaf) (get_node (fun F h => Option.some.inj h ▸ q52) (get_node (fun F h => Option.some.inj h ▸ q84) get_leaf get_leaf) get_leaf)) (get_node (fun F h => Option.some.inj h ▸ q28) (get_node (fun F h => Option.some.inj h ▸ q44) (get_node (fun F h => Option.some.inj h ▸ q76) get_leaf get_leaf) get_leaf) (get_node (fun F h => Option.some.inj h ▸ q60) get_leaf get_leaf)))) (get_node (fun F h => Option.some.inj h ▸ q6) (get_node (fun F h => Option.some.inj h ▸ q10) (get_node (fun F h => Option.some.inj h ▸ q18) (get_node (fun F h => Option.some.inj h ▸ q34) (get_node (fun F h => Option.some.inj h ▸ q66) get_leaf get_leaf) get_leaf) (get_node (fun F h => Option.some.inj h ▸ q50) (get_node (fun F h => Option.some.inj h ▸ q82) get_leaf get_leaf) get_leaf)) (get_node (fun F h => Option.some.inj h ▸ q26) (get_node (fun F h => Option.some.inj h ▸ q42) (get_node (fun F h => Option.some.inj h ▸ q74) get_leaf get_leaf) get_leaf) (get_node (fun F h => Option.some.inj h ▸ q58) get_leaf get_leaf))) (get_node (fun F h => Option.some.inj h ▸ q14) (get_node (fun F h => Option.some.inj h ▸ q22) (get_node (fun F h => Option.some.inj h ▸ q38) (get_node (fun F h => Option.some.inj h ▸ q70) get_leaf get_leaf) get_leaf) (get_node (fun F h => Option.some.inj h ▸ q54) (get_node (fun F h => Option.some.inj h ▸ q86) get_leaf get_leaf) get_leaf)) (get_node (fun F h => Option.some.inj h ▸ q30) (get_node (fun F h => Option.some.inj h ▸ q46) (get_node (fun F h => Option.some.inj h ▸ q78) get_leaf get_leaf) get_leaf) (get_node (fun F h => Option.some.inj h ▸ q62) get_leaf get_leaf))))))
theorem flOk : ∀ t i, ty.get t = some i → FlP t i := (get_node (fun F h => Option.some.inj h ▸ r0) (get_node (fun F h => Option.some.inj h ▸ r1) (get_node (fun F h => Option.some.inj h ▸ r3) (get_node (fun F h => Option.some.inj h ▸ r7) (get_node (fun F h => Option.some.inj h ▸ r15) (get_node (fun F h => Option.some.inj h ▸ r31) (get_node (fun F h => Option.some.inj h ▸ r63) get_leaf get_leaf) get_leaf) (get_node (fun F h => Option.some.inj h ▸ r47) (get_node (fun F h => Option.some.inj h ▸ r79) get_leaf get_leaf) get_leaf)) (get_node (fun F h => Option.some.inj h ▸ r23) (get_node (fun F h => Option.some.inj h ▸ r39) (get_node (fun F h => Option.some.inj h ▸ r71) get_leaf get_leaf) get_leaf) (get_node (fun F h => Option.some.inj h ▸ r55) (get_node (fun F h => Option.some.inj h ▸ r87) get_leaf get_leaf) get_leaf))) (get_node (fun F h => Option.some.inj h ▸ r11) (get_node (fun F h => Option.some.inj h ▸ r19) (get_node (fun F h => Option.some.inj h ▸ r35) (get_node (fun F h => Option.some.inj h ▸ r67) get_leaf get_leaf) get_leaf) (get_node (fun F h => Option.some.inj h ▸ r51) (get_node (fun F h => Option.some.inj h ▸ r83) get_leaf get_leaf) get_leaf)) (get_node (fun F h => Option.some.inj h ▸ r27) (get_node (fun F h => Option.some.inj h ▸ r43) (get_node (fun F h => Option.some.inj h ▸ r75) get_leaf get_leaf) get_leaf) (get_node (fun F h => Option.some.inj h ▸ r59) get_leaf get_leaf)))) (get_node (fun F h => Option.some.inj h ▸ r5) (get_node (fun F h => Option.some.inj h ▸ r9) (get_node (fun F h => Option.some.inj h ▸ r17) (get_node (fun F h => Option.some.inj h ▸ r33) (get_node (fun F h => Option.some.inj h ▸ r65) get_leaf get_leaf) get_leaf) (get_node (fun F h => Option.some.inj h ▸ r49) (get_node (fun F h => Option.some.inj h ▸ r81) get_leaf get_leaf) get_leaf)) (get_node (fun F h => Option.some.inj h ▸ r25) (get_node (fun F h => Option.some.inj h ▸ r41) (get_node (fun F h => Option.some.inj h ▸ r73) get_leaf get_leaf) get_leaf) (get_node (fun F h => Option.some.inj h ▸ r57) (get_node (fun F h => Option.some.inj h ▸ r89) get_leaf get_leaf) get_leaf))) (get_node (fun F h => Option.some.inj h ▸ r13) (get_node (fun F h => Option.some.inj h ▸ r21) (get_node (fun F h => Option.some.inj h ▸ r37) (get_node (fun F h => Option.some.inj h ▸ r69) get_leaf get_leaf) get_leaf) (get_node (fun F h => Option.some.inj h ▸ r53) (get_node (fun F h => Option.some.inj h ▸ r85) get_leaf get_leaf) get_leaf)) (get_node (fun F h => Option.some.inj h ▸ r29) (get_node (fun F h => Option.some.inj h ▸ r45) (get_node (fun F h => Option.some.inj h ▸ r77) get_leaf get_leaf) get_leaf) (get_node (fun F h => Option.some.inj h ▸ r61) get_leaf get_leaf))))) (get_node (fun F h => Option.some.inj h ▸ r2) (get_node (fun F h => Option.some.inj h ▸ r4) (get_node (fun F h => Option.some.inj h ▸ r8) (get_node (fun F h => Option.some.inj h ▸ r16) (get_node (fun F h => Option.some.inj h ▸ r32) (get_node (fun F h => Option.some.inj h ▸ r64) get_leaf get_leaf) get_leaf) (get_node (fun F h => Option.some.inj h ▸ r48) (get_node (fun F h => Option.some.inj h ▸ r80) get_leaf get_leaf) get_leaf)) (get_node (fun F h => Option.some.inj h ▸ r24) (get_node (fun F h => Option.some.inj h ▸ r40) (get_node (fun F h => Option.some.inj h ▸ r72) get_leaf get_leaf) get_leaf) (get_node (fun F h => Option.some.inj h ▸ r56) (get_node (fun F h => Option.some.inj h ▸ r88) get_leaf get_leaf) get_leaf))) (get_node (fun F h => Option.some.inj h ▸ r12) (get_node (fun F h => Option.some.inj h ▸ r20) (get_node (fun F h => Option.some.inj h ▸ r36) (get_node (fun F h => Option.some.inj h ▸ r68) get_leaf get_leaf) get_leaf) (get_node (fun F h => Option.some.inj h ▸ r52) (get_node (fun F h => Option.some.inj h ▸ r84) get_leaf get_leaf) get_leaf)) (get_node (fun F h => Option.some.inj h ▸ r28) (get_node (fun F h => Option.some.inj h ▸ r44) (get_node (fun F h => Option.some.inj h ▸ r76) get_leaf get_leaf) get_leaf) (get_node (fun F h => Option.some.inj h ▸ r60) get_leaf get_leaf)))) (get_node (fun F h => Option.some.inj h ▸ r6) (get_node (fun F h => Option.some.inj h ▸ r10) (get_node (fun F h => Option.some.inj h ▸ r18) (get_node (fun F h => Option.some.inj h ▸ r34) (get_node (fun F h => Option.some.inj h ▸ r66) get_leaf get_leaf) get_leaf) (get_node (fun F h => Option.some.inj h ▸ r50) (get_node (fun F h => Option.some.inj h ▸ r82) get_leaf get_leaf) get_leaf)) (get_node (fun F h => Option.some.inj h ▸ r26) (get_node (fun F h => Option.some.inj h ▸ r42) (get_node (fun F h => Option.some.inj h ▸ r74) get_leaf get_leaf) get_leaf) (get_node (fun F h => Option.some.inj h ▸ r58) get_leaf get_leaf))) (get_node (fun F h => Option.some.inj h ▸ r14) (get_node (fun F h => Option.some.inj h ▸ r22) (get_node (fun F h => Option.some.inj h ▸ r38) (get_node (fun F h => Option.some.inj h ▸ r70) get_leaf get_leaf) get_leaf) (get_node (fun F h => Option.some.inj h ▸ r54) (get_node (fun F h => Option.some.inj h ▸ r86) get_leaf get_leaf) get_leaf)) (get_node (fun F h => Option.some.inj h ▸ r30) (get_node (fun F h => Option.some.inj h ▸ r46) (get_node (fun F h => Option.some.inj h ▸ r78) get_leaf get_leaf) get_leaf) (get_node (fun F h => Option.some.inj h ▸ r62) get_leaf get_leaf))))))
noncomputable def D : Abs.Data := { fn := fn, ty := ty }
theorem dok : DOk Try.prog D := ⟨fun f F h => fnOk f F h, fun t i h => tyOk t i h, fun t i h hf => flOk t i h hf, by kernel_rfl⟩
theorem ovok : OvOK Try.prog D := fun f g h => by simp [D] at h
end Go.Proofs.Ytejdeibmhlcnbaa.Tab
