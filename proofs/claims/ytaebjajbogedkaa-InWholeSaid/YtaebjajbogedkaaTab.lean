/- The tables of the seat's program: its functions, its types; that they tell the program's own. Written by a program of this session (wip/mktab.py). -/
import Derived.Test.YtaebjajbogedkaaProg
import Derived.Test.YtaebjajbogedkaaAbsE
import Derived.KernelRfl
set_option linter.unusedVariables false
set_option maxRecDepth 100000
namespace Go.Proofs.Ytaebjajbogedkaa.Tab
open Go Go.Abs Go.Proofs
theorem get_leaf {α : Type} {p : Nat → α → Prop} : ∀ f F, (Tr.leaf : Tr α).get f = some F → p f F := fun f F h => by simp [Tr.get] at h
theorem get_node {α : Type} {p : Nat → α → Prop} {l r : Tr α} {v : Option α} (h0 : ∀ F, v = some F → p 0 F) (hl : ∀ f F, l.get f = some F → p (2 * f + 1) F) (hr : ∀ f F, r.get f = some F → p (2 * f + 2) F) : ∀ f F, (Tr.node l v r).get f = some F → p f F := by
  intro f F h
  unfold Tr.get at h
  by_cases h1 : f = 0
  · subst h1; exact h0 F h
  · rw [nbeq_f h1] at h
    by_cases h2 : f % 2 = 1
    · rw [nbeq_t h2] at h
      have := hl _ F h
      rwa [show 2 * (f / 2) + 1 = f by omega] at this
    · rw [nbeq_f h2] at h
      have := hr _ F h
      rwa [show 2 * (f / 2 - 1) + 2 = f by omega] at this
noncomputable def y0 : TyI := ⟨1, 0, (Go.Value.tuple #[]), (Go.TypeDesc.tuple #[]), false⟩
noncomputable def y1 : TyI := ⟨1, 8, Go.Value.nilFunc, (Go.TypeDesc.func #[] #[] false), false⟩
noncomputable def y2 : TyI := ⟨1, 8, (Go.Value.int Go.IntKind.i64 0), (Go.TypeDesc.int Go.IntKind.i64), false⟩
noncomputable def y3 : TyI := ⟨1, 8, (Go.Value.int Go.IntKind.i64 0), (Go.TypeDesc.int Go.IntKind.i64), false⟩
noncomputable def y4 : TyI := ⟨1, 1, (Go.Value.bool false), Go.TypeDesc.bool, false⟩
noncomputable def y5 : TyI := ⟨1, 1, (Go.Value.int Go.IntKind.u8 0), (Go.TypeDesc.int Go.IntKind.u8), false⟩
noncomputable def y6 : TyI := ⟨1, 1, (Go.Value.int Go.IntKind.u8 0), (Go.TypeDesc.int Go.IntKind.u8), false⟩
noncomputable def y7 : TyI := ⟨4, 24, (Go.Value.agg #[Go.Value.int Go.IntKind.i64 0, Go.Value.int Go.IntKind.i64 0, Go.Value.bool false, Go.Value.int Go.IntKind.u8 0]), (Go.TypeDesc.struct #[{ name := "x", type := 2, offset := 0, embedded := false, tag := "", pkgPath := "runtime", byteOffset := 0 }, { name := "y", type := 3, offset := 1, embedded := false, tag := "", pkgPath := "runtime", byteOffset := 8 }, { name := "signed", type := 4, offset := 2, embedded := false, tag := "", pkgPath := "runtime", byteOffset := 16 }, { name := "code", type := 6, offset := 3, embedded := false, tag := "", pkgPath := "runtime", byteOffset := 17 }]), false⟩
noncomputable def y8 : TyI := ⟨4, 24, (Go.Value.agg #[Go.Value.int Go.IntKind.i64 0, Go.Value.int Go.IntKind.i64 0, Go.Value.bool false, Go.Value.int Go.IntKind.u8 0]), (Go.TypeDesc.struct #[{ name := "x", type := 2, offset := 0, embedded := false, tag := "", pkgPath := "runtime", byteOffset := 0 }, { name := "y", type := 3, offset := 1, embedded := false, tag := "", pkgPath := "runtime", byteOffset := 8 }, { name := "signed", type := 4, offset := 2, embedded := false, tag := "", pkgPath := "runtime", byteOffset := 16 }, { name := "code", type := 6, offset := 3, embedded := false, tag := "", pkgPath := "runtime", byteOffset := 17 }]), false⟩
noncomputable def y9 : TyI := ⟨1, 16, (Go.Value.string { data := #[] }), Go.TypeDesc.string, false⟩
noncomputable def y10 : TyI := ⟨1, 16, (Go.Value.string { data := #[] }), Go.TypeDesc.string, false⟩
noncomputable def y11 : TyI := ⟨1, 16, (Go.Value.string { data := #[] }), Go.TypeDesc.string, false⟩
noncomputable def y12 : TyI := ⟨1, 8, (Go.Value.int Go.IntKind.u64 0), (Go.TypeDesc.int Go.IntKind.u64), false⟩
noncomputable def y13 : TyI := ⟨2, 24, (Go.Value.agg #[Go.Value.string { data := #[] }, Go.Value.int Go.IntKind.u64 0]), (Go.TypeDesc.struct #[{ name := "msg", type := 9, offset := 0, embedded := false, tag := "", pkgPath := "runtime", byteOffset := 0 }, { name := "addr", type := 12, offset := 1, embedded := false, tag := "", pkgPath := "runtime", byteOffset := 16 }]), false⟩
noncomputable def y14 : TyI := ⟨2, 24, (Go.Value.agg #[Go.Value.string { data := #[] }, Go.Value.int Go.IntKind.u64 0]), (Go.TypeDesc.struct #[{ name := "msg", type := 9, offset := 0, embedded := false, tag := "", pkgPath := "runtime", byteOffset := 0 }, { name := "addr", type := 12, offset := 1, embedded := false, tag := "", pkgPath := "runtime", byteOffset := 16 }]), false⟩
noncomputable def y15 : TyI := ⟨1, 8, (Go.Value.pointer none), (Go.TypeDesc.pointer 186), false⟩
noncomputable def y16 : TyI := ⟨1, 8, (Go.Value.pointer none), (Go.TypeDesc.pointer 189), false⟩
noncomputable def y17 : TyI := ⟨1, 8, (Go.Value.pointer none), (Go.TypeDesc.pointer 197), false⟩
noncomputable def y18 : TyI := ⟨1, 8, (Go.Value.agg #[Go.Value.pointer none]), (Go.TypeDesc.struct #[{ name := "typ", type := 17, offset := 0, embedded := false, tag := "", pkgPath := "internal/runtime/maps", byteOffset := 0 }]), false⟩
noncomputable def y19 : TyI := ⟨1, 8, (Go.Value.agg #[Go.Value.pointer none]), (Go.TypeDesc.struct #[{ name := "typ", type := 17, offset := 0, embedded := false, tag := "", pkgPath := "internal/runtime/maps", byteOffset := 0 }]), false⟩
noncomputable def y20 : TyI := ⟨1, 16, Go.Value.nilIface, (Go.TypeDesc.interface #[]), false⟩
noncomputable def y21 : TyI := ⟨1, 4, (Go.Value.int Go.IntKind.i32 0), (Go.TypeDesc.int Go.IntKind.i32), false⟩
noncomputable def y22 : TyI := ⟨1, 24, (Go.Value.slice none 0 0), (Go.TypeDesc.slice 33), false⟩
noncomputable def y23 : TyI := ⟨1, 8, (Go.Value.pointer none), (Go.TypeDesc.pointer 42), false⟩
noncomputable def y24 : TyI := ⟨1, 8, Go.Value.nilFunc, (Go.TypeDesc.func #[3] #[23] false), false⟩
noncomputable def y25 : TyI := ⟨1, 8, Go.Value.nilFunc, (Go.TypeDesc.func #[] #[4] false), false⟩
noncomputable def y26 : TyI := ⟨1, 8, Go.Value.nilFunc, (Go.TypeDesc.func #[3, 3] #[3] false), false⟩
noncomputable def y27 : TyI := ⟨1, 8, (Go.Value.int Go.IntKind.i64 0), (Go.TypeDesc.int Go.IntKind.i64), false⟩
noncomputable def y28 : TyI := ⟨1, 8, Go.Value.nilFunc, (Go.TypeDesc.func #[29] #[27] false), false⟩
noncomputable def y29 : TyI := ⟨1, 24, (Go.Value.slice none 0 0), (Go.TypeDesc.slice 5), false⟩
noncomputable def y30 : TyI := ⟨1, 8, Go.Value.nilFunc, (Go.TypeDesc.func #[29, 3] #[29] false), false⟩
noncomputable def y31 : TyI := ⟨1, 24, (Go.Value.slice none 0 0), (Go.TypeDesc.slice 47), false⟩
noncomputable def y32 : TyI := ⟨5, 56, (Go.Value.agg #[Go.Value.int Go.IntKind.i64 0, Go.Value.int Go.IntKind.i64 0, Go.Value.int Go.IntKind.i64 0, Go.Value.int Go.IntKind.i64 0, Go.Value.slice none 0 0]), (Go.TypeDesc.struct #[{ name := "What", type := 3, offset := 0, embedded := false, tag := "", pkgPath := "", byteOffset := 0 }, { name := "A", type := 3, offset := 1, embedded := false, tag := "", pkgPath := "", byteOffset := 8 }, { name := "B", type := 3, offset := 2, embedded := false, tag := "", pkgPath := "", byteOffset := 16 }, { name := "C", type := 3, offset := 3, embedded := false, tag := "", pkgPath := "", byteOffset := 24 }, { name := "Bytes", type := 29, offset := 4, embedded := false, tag := "", pkgPath := "", byteOffset := 32 }]), false⟩
noncomputable def y33 : TyI := ⟨5, 56, (Go.Value.agg #[Go.Value.int Go.IntKind.i64 0, Go.Value.int Go.IntKind.i64 0, Go.Value.int Go.IntKind.i64 0, Go.Value.int Go.IntKind.i64 0, Go.Value.slice none 0 0]), (Go.TypeDesc.struct #[{ name := "What", type := 3, offset := 0, embedded := false, tag := "", pkgPath := "", byteOffset := 0 }, { name := "A", type := 3, offset := 1, embedded := false, tag := "", pkgPath := "", byteOffset := 8 }, { name := "B", type := 3, offset := 2, embedded := false, tag := "", pkgPath := "", byteOffset := 16 }, { name := "C", type := 3, offset := 3, embedded := false, tag := "", pkgPath := "", byteOffset := 24 }, { name := "Bytes", type := 29, offset := 4, embedded := false, tag := "", pkgPath := "", byteOffset := 32 }]), false⟩
noncomputable def y34 : TyI := ⟨2, 16, (Go.Value.agg #[Go.Value.int Go.IntKind.i64 0, Go.Value.int Go.IntKind.i64 0]), (Go.TypeDesc.struct #[{ name := "Limit", type := 3, offset := 0, embedded := false, tag := "", pkgPath := "", byteOffset := 0 }, { name := "Used", type := 3, offset := 1, embedded := false, tag := "", pkgPath := "", byteOffset := 8 }]), false⟩
noncomputable def y35 : TyI := ⟨2, 16, (Go.Value.agg #[Go.Value.int Go.IntKind.i64 0, Go.Value.int Go.IntKind.i64 0]), (Go.TypeDesc.struct #[{ name := "Limit", type := 3, offset := 0, embedded := false, tag := "", pkgPath := "", byteOffset := 0 }, { name := "Used", type := 3, offset := 1, embedded := false, tag := "", pkgPath := "", byteOffset := 8 }]), false⟩
noncomputable def y36 : TyI := ⟨1, 24, (Go.Value.slice none 0 0), (Go.TypeDesc.slice 100), false⟩
noncomputable def y37 : TyI := ⟨1, 24, (Go.Value.agg #[Go.Value.slice none 0 0]), (Go.TypeDesc.struct #[{ name := "l", type := 36, offset := 0, embedded := false, tag := "", pkgPath := "argosy/spans", byteOffset := 0 }]), false⟩
noncomputable def y38 : TyI := ⟨1, 24, (Go.Value.agg #[Go.Value.slice none 0 0]), (Go.TypeDesc.struct #[{ name := "l", type := 36, offset := 0, embedded := false, tag := "", pkgPath := "argosy/spans", byteOffset := 0 }]), false⟩
noncomputable def y39 : TyI := ⟨3, 3, (Go.Value.agg #[Go.Value.bool false, Go.Value.bool false, Go.Value.bool false]), (Go.TypeDesc.struct #[{ name := "told", type := 4, offset := 0, embedded := false, tag := "", pkgPath := "argosy/send", byteOffset := 0 }, { name := "due", type := 4, offset := 1, embedded := false, tag := "", pkgPath := "argosy/send", byteOffset := 1 }, { name := "came", type := 4, offset := 2, embedded := false, tag := "", pkgPath := "argosy/send", byteOffset := 2 }]), false⟩
noncomputable def y40 : TyI := ⟨3, 3, (Go.Value.agg #[Go.Value.bool false, Go.Value.bool false, Go.Value.bool false]), (Go.TypeDesc.struct #[{ name := "told", type := 4, offset := 0, embedded := false, tag := "", pkgPath := "argosy/send", byteOffset := 0 }, { name := "due", type := 4, offset := 1, embedded := false, tag := "", pkgPath := "argosy/send", byteOffset := 1 }, { name := "came", type := 4, offset := 2, embedded := false, tag := "", pkgPath := "argosy/send", byteOffset := 2 }]), false⟩
noncomputable def y41 : TyI := ⟨16, 120, (Go.Value.agg #[Go.Value.int Go.IntKind.i64 0, Go.Value.int Go.IntKind.i64 0, Go.Value.int Go.IntKind.i64 0, Go.Value.slice none 0 0, Go.Value.slice none 0 0, Go.Value.slice none 0 0, Go.Value.bool false, Go.Value.bool false, Go.Value.bool false, Go.Value.bool false, Go.Value.bool false, Go.Value.bool false, Go.Value.bool false, Go.Value.bool false, Go.Value.int Go.IntKind.i64 0, Go.Value.int Go.IntKind.i64 0]), (Go.TypeDesc.struct #[{ name := "Credit", type := 35, offset := 0, embedded := true, tag := "", pkgPath := "", byteOffset := 0 }, { name := "id", type := 3, offset := 2, embedded := false, tag := "", pkgPath := "argosy/send", byteOffset := 16 }, { name := "b", type := 29, offset := 3, embedded := false, tag := "", pkgPath := "argosy/send", byteOffset := 24 }, { name := "lost", type := 38, offset := 4, embedded := false, tag := "", pkgPath := "argosy/send", byteOffset := 48 }, { name := "came", type := 38, offset := 5, embedded := false, tag := "", pkgPath := "argosy/send", byteOffset := 72 }, { name := "finished", type := 4, offset := 6, embedded := false, tag := "", pkgPath := "argosy/send", byteOffset := 96 }, { name := "reset", type := 4, offset := 7, embedded := false, tag := "", pkgPath := "argosy/send", byteOffset := 97 }, { name := "fin", type := 40, offset := 8, embedded := false, tag := "", pkgPath := "argosy/send", byteOffset := 98 }, { name := "turn", type := 40, offset := 11, embedded := false, tag := "", pkgPath := "argosy/send", byteOffset := 101 }, { name := "code", type := 3, offset := 14, embedded := false, tag := "", pkgPath := "argosy/send", byteOffset := 104 }, { name := "sure", type := 3, offset := 15, embedded := false, tag := "", pkgPath := "argosy/send", byteOffset := 112 }]), false⟩
noncomputable def y42 : TyI := ⟨16, 120, (Go.Value.agg #[Go.Value.int Go.IntKind.i64 0, Go.Value.int Go.IntKind.i64 0, Go.Value.int Go.IntKind.i64 0, Go.Value.slice none 0 0, Go.Value.slice none 0 0, Go.Value.slice none 0 0, Go.Value.bool false, Go.Value.bool false, Go.Value.bool false, Go.Value.bool false, Go.Value.bool false, Go.Value.bool false, Go.Value.bool false, Go.Value.bool false, Go.Value.int Go.IntKind.i64 0, Go.Value.int Go.IntKind.i64 0]), (Go.TypeDesc.struct #[{ name := "Credit", type := 35, offset := 0, embedded := true, tag := "", pkgPath := "", byteOffset := 0 }, { name := "id", type := 3, offset := 2, embedded := false, tag := "", pkgPath := "argosy/send", byteOffset := 16 }, { name := "b", type := 29, offset := 3, embedded := false, tag := "", pkgPath := "argosy/send", byteOffset := 24 }, { name := "lost", type := 38, offset := 4, embedded := false, tag := "", pkgPath := "argosy/send", byteOffset := 48 }, { name := "came", type := 38, offset := 5, embedded := false, tag := "", pkgPath := "argosy/send", byteOffset := 72 }, { name := "finished", type := 4, offset := 6, embedded := false, tag := "", pkgPath := "argosy/send", byteOffset := 96 }, { name := "reset", type := 4, offset := 7, embedded := false, tag := "", pkgPath := "argosy/send", byteOffset := 97 }, { name := "fin", type := 40, offset := 8, embedded := false, tag := "", pkgPath := "argosy/send", byteOffset := 98 }, { name := "turn", type := 40, offset := 11, embedded := false, tag := "", pkgPath := "argosy/send", byteOffset := 101 }, { name := "code", type := 3, offset := 14, embedded := false, tag := "", pkgPath := "argosy/send", byteOffset := 104 }, { name := "sure", type := 3, offset := 15, embedded := false, tag := "", pkgPath := "argosy/send", byteOffset := 112 }]), false⟩
noncomputable def y43 : TyI := ⟨1, 8, Go.Value.nilFunc, (Go.TypeDesc.func #[] #[3] false), false⟩
noncomputable def y44 : TyI := ⟨1, 8, Go.Value.nilFunc, (Go.TypeDesc.func #[3] #[4] false), false⟩
noncomputable def y45 : TyI := ⟨1, 8, Go.Value.nilFunc, (Go.TypeDesc.func #[47] #[] false), false⟩
noncomputable def y46 : TyI := ⟨9, 104, (Go.Value.agg #[Go.Value.int Go.IntKind.i64 0, Go.Value.int Go.IntKind.i64 0, Go.Value.int Go.IntKind.i64 0, Go.Value.int Go.IntKind.i64 0, Go.Value.int Go.IntKind.i64 0, Go.Value.int Go.IntKind.i64 0, Go.Value.bool false, Go.Value.slice none 0 0, Go.Value.slice none 0 0]), (Go.TypeDesc.struct #[{ name := "Kind", type := 3, offset := 0, embedded := false, tag := "", pkgPath := "", byteOffset := 0 }, { name := "ID", type := 3, offset := 1, embedded := false, tag := "", pkgPath := "", byteOffset := 8 }, { name := "Off", type := 3, offset := 2, embedded := false, tag := "", pkgPath := "", byteOffset := 16 }, { name := "A", type := 3, offset := 3, embedded := false, tag := "", pkgPath := "", byteOffset := 24 }, { name := "B", type := 3, offset := 4, embedded := false, tag := "", pkgPath := "", byteOffset := 32 }, { name := "Note", type := 3, offset := 5, embedded := false, tag := "", pkgPath := "", byteOffset := 40 }, { name := "Fin", type := 4, offset := 6, embedded := false, tag := "", pkgPath := "", byteOffset := 48 }, { name := "Data", type := 29, offset := 7, embedded := false, tag := "", pkgPath := "", byteOffset := 56 }, { name := "Spans", type := 36, offset := 8, embedded := false, tag := "", pkgPath := "", byteOffset := 80 }]), false⟩
noncomputable def y47 : TyI := ⟨9, 104, (Go.Value.agg #[Go.Value.int Go.IntKind.i64 0, Go.Value.int Go.IntKind.i64 0, Go.Value.int Go.IntKind.i64 0, Go.Value.int Go.IntKind.i64 0, Go.Value.int Go.IntKind.i64 0, Go.Value.int Go.IntKind.i64 0, Go.Value.bool false, Go.Value.slice none 0 0, Go.Value.slice none 0 0]), (Go.TypeDesc.struct #[{ name := "Kind", type := 3, offset := 0, embedded := false, tag := "", pkgPath := "", byteOffset := 0 }, { name := "ID", type := 3, offset := 1, embedded := false, tag := "", pkgPath := "", byteOffset := 8 }, { name := "Off", type := 3, offset := 2, embedded := false, tag := "", pkgPath := "", byteOffset := 16 }, { name := "A", type := 3, offset := 3, embedded := false, tag := "", pkgPath := "", byteOffset := 24 }, { name := "B", type := 3, offset := 4, embedded := false, tag := "", pkgPath := "", byteOffset := 32 }, { name := "Note", type := 3, offset := 5, embedded := false, tag := "", pkgPath := "", byteOffset := 40 }, { name := "Fin", type := 4, offset := 6, embedded := false, tag := "", pkgPath := "", byteOffset := 48 }, { name := "Data", type := 29, offset := 7, embedded := false, tag := "", pkgPath := "", byteOffset := 56 }, { name := "Spans", type := 36, offset := 8, embedded := false, tag := "", pkgPath := "", byteOffset := 80 }]), false⟩
noncomputable def y48 : TyI := ⟨1, 0, (Go.Value.tuple #[Go.Value.agg #[Go.Value.int Go.IntKind.i64 0, Go.Value.int Go.IntKind.i64 0, Go.Value.int Go.IntKind.i64 0, Go.Value.int Go.IntKind.i64 0, Go.Value.int Go.IntKind.i64 0, Go.Value.int Go.IntKind.i64 0, Go.Value.bool false, Go.Value.slice none 0 0, Go.Value.slice none 0 0], Go.Value.int Go.IntKind.i64 0, Go.Value.bool false]), (Go.TypeDesc.tuple #[47, 3, 4]), false⟩
noncomputable def y49 : TyI := ⟨1, 8, Go.Value.nilFunc, (Go.TypeDesc.func #[3, 3] #[47, 3, 4] false), false⟩
noncomputable def y50 : TyI := ⟨1, 8, Go.Value.nilFunc, (Go.TypeDesc.func #[3, 22] #[4] false), false⟩
noncomputable def y51 : TyI := ⟨1, 24, (Go.Value.slice none 0 0), (Go.TypeDesc.slice 29), false⟩
noncomputable def y52 : TyI := ⟨1, 24, (Go.Value.slice none 0 0), (Go.TypeDesc.slice 3), false⟩
noncomputable def y53 : TyI := ⟨1, 8, Go.Value.nilFunc, (Go.TypeDesc.func #[] #[27] false), false⟩
noncomputable def y54 : TyI := ⟨1, 8, Go.Value.nilFunc, (Go.TypeDesc.func #[47] #[3] false), false⟩
noncomputable def y55 : TyI := ⟨1, 8, Go.Value.nilFunc, (Go.TypeDesc.func #[3, 3] #[] false), false⟩
noncomputable def y56 : TyI := ⟨1, 8, Go.Value.nilFunc, (Go.TypeDesc.func #[3, 3] #[4] false), false⟩
noncomputable def y57 : TyI := ⟨1, 8, Go.Value.nilFunc, (Go.TypeDesc.func #[51, 52, 52] #[4] false), false⟩
noncomputable def y58 : TyI := ⟨1, 8, Go.Value.nilFunc, (Go.TypeDesc.func #[3, 3] #[27] false), false⟩
noncomputable def y59 : TyI := ⟨1, 0, (Go.Value.tuple #[Go.Value.agg #[Go.Value.int Go.IntKind.i64 0, Go.Value.int Go.IntKind.i64 0, Go.Value.int Go.IntKind.i64 0, Go.Value.int Go.IntKind.i64 0, Go.Value.int Go.IntKind.i64 0, Go.Value.int Go.IntKind.i64 0, Go.Value.bool false, Go.Value.slice none 0 0, Go.Value.slice none 0 0], Go.Value.bool false]), (Go.TypeDesc.tuple #[47, 4]), false⟩
noncomputable def y60 : TyI := ⟨1, 8, Go.Value.nilFunc, (Go.TypeDesc.func #[] #[47, 4] false), false⟩
noncomputable def y61 : TyI := ⟨1, 8, Go.Value.nilFunc, (Go.TypeDesc.func #[3, 3, 3, 3, 52] #[4] false), false⟩
noncomputable def y62 : TyI := ⟨1, 24, (Go.Value.slice none 0 0), (Go.TypeDesc.slice 4), false⟩
noncomputable def y63 : TyI := ⟨1, 8, (Go.Value.pointer none), (Go.TypeDesc.pointer 77), false⟩
noncomputable def y64 : TyI := ⟨1, 8, Go.Value.nilFunc, (Go.TypeDesc.func #[] #[63] false), false⟩
noncomputable def y65 : TyI := ⟨1, 8, Go.Value.nilFunc, (Go.TypeDesc.func #[67, 51] #[29] true), false⟩
noncomputable def y66 : TyI := ⟨5, 40, (Go.Value.agg #[Go.Value.int Go.IntKind.i64 0, Go.Value.int Go.IntKind.i64 0, Go.Value.int Go.IntKind.i64 0, Go.Value.int Go.IntKind.i64 0, Go.Value.int Go.IntKind.i64 0]), (Go.TypeDesc.struct #[{ name := "ID", type := 3, offset := 0, embedded := false, tag := "", pkgPath := "", byteOffset := 0 }, { name := "Deadline", type := 3, offset := 1, embedded := false, tag := "", pkgPath := "", byteOffset := 8 }, { name := "Count", type := 3, offset := 2, embedded := false, tag := "", pkgPath := "", byteOffset := 16 }, { name := "Index", type := 3, offset := 3, embedded := false, tag := "", pkgPath := "", byteOffset := 24 }, { name := "Size", type := 3, offset := 4, embedded := false, tag := "", pkgPath := "", byteOffset := 32 }]), false⟩
noncomputable def y67 : TyI := ⟨5, 40, (Go.Value.agg #[Go.Value.int Go.IntKind.i64 0, Go.Value.int Go.IntKind.i64 0, Go.Value.int Go.IntKind.i64 0, Go.Value.int Go.IntKind.i64 0, Go.Value.int Go.IntKind.i64 0]), (Go.TypeDesc.struct #[{ name := "ID", type := 3, offset := 0, embedded := false, tag := "", pkgPath := "", byteOffset := 0 }, { name := "Deadline", type := 3, offset := 1, embedded := false, tag := "", pkgPath := "", byteOffset := 8 }, { name := "Count", type := 3, offset := 2, embedded := false, tag := "", pkgPath := "", byteOffset := 16 }, { name := "Index", type := 3, offset := 3, embedded := false, tag := "", pkgPath := "", byteOffset := 24 }, { name := "Size", type := 3, offset := 4, embedded := false, tag := "", pkgPath := "", byteOffset := 32 }]), true⟩
noncomputable def y68 : TyI := ⟨1, 8, Go.Value.nilFunc, (Go.TypeDesc.func #[3, 3, 3] #[67] false), false⟩
noncomputable def y69 : TyI := ⟨1, 24, (Go.Value.slice none 0 0), (Go.TypeDesc.slice 72), false⟩
noncomputable def y70 : TyI := ⟨1, 8, Go.Value.nilFunc, (Go.TypeDesc.func #[3, 29] #[69] false), false⟩
noncomputable def y71 : TyI := ⟨4, 40, (Go.Value.agg #[Go.Value.int Go.IntKind.i64 0, Go.Value.int Go.IntKind.i64 0, Go.Value.int Go.IntKind.i64 0, Go.Value.string { data := #[] }]), (Go.TypeDesc.struct #[{ name := "Kind", type := 3, offset := 0, embedded := false, tag := "", pkgPath := "", byteOffset := 0 }, { name := "ID", type := 3, offset := 1, embedded := false, tag := "", pkgPath := "", byteOffset := 8 }, { name := "At", type := 3, offset := 2, embedded := false, tag := "", pkgPath := "", byteOffset := 16 }, { name := "Bytes", type := 9, offset := 3, embedded := false, tag := "", pkgPath := "", byteOffset := 24 }]), false⟩
noncomputable def y72 : TyI := ⟨4, 40, (Go.Value.agg #[Go.Value.int Go.IntKind.i64 0, Go.Value.int Go.IntKind.i64 0, Go.Value.int Go.IntKind.i64 0, Go.Value.string { data := #[] }]), (Go.TypeDesc.struct #[{ name := "Kind", type := 3, offset := 0, embedded := false, tag := "", pkgPath := "", byteOffset := 0 }, { name := "ID", type := 3, offset := 1, embedded := false, tag := "", pkgPath := "", byteOffset := 8 }, { name := "At", type := 3, offset := 2, embedded := false, tag := "", pkgPath := "", byteOffset := 16 }, { name := "Bytes", type := 9, offset := 3, embedded := false, tag := "", pkgPath := "", byteOffset := 24 }]), true⟩
noncomputable def y73 : TyI := ⟨1, 8, Go.Value.nilFunc, (Go.TypeDesc.func #[3, 52] #[69] true), false⟩
noncomputable def y74 : TyI := ⟨1, 8, (Go.Value.map none), (Go.TypeDesc.map 3 114), false⟩
noncomputable def y75 : TyI := ⟨1, 8, (Go.Value.map none), (Go.TypeDesc.map 3 125), false⟩
noncomputable def y76 : TyI := ⟨3, 40, (Go.Value.agg #[Go.Value.slice none 0 0, Go.Value.map none, Go.Value.map none]), (Go.TypeDesc.struct #[{ name := "Set", type := 38, offset := 0, embedded := true, tag := "", pkgPath := "", byteOffset := 0 }, { name := "wholes", type := 74, offset := 1, embedded := false, tag := "", pkgPath := "argosy/inbox", byteOffset := 24 }, { name := "streams", type := 75, offset := 2, embedded := false, tag := "", pkgPath := "argosy/inbox", byteOffset := 32 }]), false⟩
noncomputable def y77 : TyI := ⟨3, 40, (Go.Value.agg #[Go.Value.slice none 0 0, Go.Value.map none, Go.Value.map none]), (Go.TypeDesc.struct #[{ name := "Set", type := 38, offset := 0, embedded := true, tag := "", pkgPath := "", byteOffset := 0 }, { name := "wholes", type := 74, offset := 1, embedded := false, tag := "", pkgPath := "argosy/inbox", byteOffset := 24 }, { name := "streams", type := 75, offset := 2, embedded := false, tag := "", pkgPath := "argosy/inbox", byteOffset := 32 }]), false⟩
noncomputable def y78 : TyI := ⟨1, 8, Go.Value.nilFunc, (Go.TypeDesc.func #[52, 62] #[4] false), false⟩
noncomputable def y79 : TyI := ⟨1, 8, (Go.Value.map none), (Go.TypeDesc.map 3 3), false⟩
noncomputable def y80 : TyI := ⟨1, 0, (Go.Value.tuple #[Go.Value.int Go.IntKind.i64 0, Go.Value.bool false]), (Go.TypeDesc.tuple #[3, 4]), false⟩
noncomputable def y81 : TyI := ⟨1, 8, Go.Value.nilFunc, (Go.TypeDesc.func #[3] #[69] false), false⟩
noncomputable def y82 : TyI := ⟨1, 8, Go.Value.nilFunc, (Go.TypeDesc.func #[52, 3] #[4] false), false⟩
noncomputable def y83 : TyI := ⟨1, 24, (Go.Value.slice none 0 0), (Go.TypeDesc.slice 87), false⟩
noncomputable def y84 : TyI := ⟨1, 8, (Go.Value.map none), (Go.TypeDesc.map 3 4), false⟩
noncomputable def y85 : TyI := ⟨1, 8, (Go.Value.map none), (Go.TypeDesc.map 67 4), false⟩
noncomputable def y86 : TyI := ⟨6, 64, (Go.Value.agg #[Go.Value.int Go.IntKind.i64 0, Go.Value.int Go.IntKind.i64 0, Go.Value.int Go.IntKind.i64 0, Go.Value.int Go.IntKind.i64 0, Go.Value.int Go.IntKind.i64 0, Go.Value.slice none 0 0]), (Go.TypeDesc.struct #[{ name := "What", type := 3, offset := 0, embedded := false, tag := "", pkgPath := "", byteOffset := 0 }, { name := "A", type := 3, offset := 1, embedded := false, tag := "", pkgPath := "", byteOffset := 8 }, { name := "B", type := 3, offset := 2, embedded := false, tag := "", pkgPath := "", byteOffset := 16 }, { name := "C", type := 3, offset := 3, embedded := false, tag := "", pkgPath := "", byteOffset := 24 }, { name := "N", type := 3, offset := 4, embedded := false, tag := "", pkgPath := "", byteOffset := 32 }, { name := "Bytes", type := 29, offset := 5, embedded := false, tag := "", pkgPath := "", byteOffset := 40 }]), false⟩
noncomputable def y87 : TyI := ⟨6, 64, (Go.Value.agg #[Go.Value.int Go.IntKind.i64 0, Go.Value.int Go.IntKind.i64 0, Go.Value.int Go.IntKind.i64 0, Go.Value.int Go.IntKind.i64 0, Go.Value.int Go.IntKind.i64 0, Go.Value.slice none 0 0]), (Go.TypeDesc.struct #[{ name := "What", type := 3, offset := 0, embedded := false, tag := "", pkgPath := "", byteOffset := 0 }, { name := "A", type := 3, offset := 1, embedded := false, tag := "", pkgPath := "", byteOffset := 8 }, { name := "B", type := 3, offset := 2, embedded := false, tag := "", pkgPath := "", byteOffset := 16 }, { name := "C", type := 3, offset := 3, embedded := false, tag := "", pkgPath := "", byteOffset := 24 }, { name := "N", type := 3, offset := 4, embedded := false, tag := "", pkgPath := "", byteOffset := 32 }, { name := "Bytes", type := 29, offset := 5, embedded := false, tag := "", pkgPath := "", byteOffset := 40 }]), false⟩
noncomputable def y88 : TyI := ⟨1, 8, Go.Value.nilFunc, (Go.TypeDesc.func #[67, 29] #[29] false), false⟩
noncomputable def y89 : TyI := ⟨1, 8, Go.Value.nilFunc, (Go.TypeDesc.func #[83] #[4] false), false⟩
noncomputable def y90 : TyI := ⟨1, 24, (Go.Value.slice none 0 0), (Go.TypeDesc.slice 93), false⟩
noncomputable def y91 : TyI := ⟨8, 64, (Go.Value.agg #[Go.Value.int Go.IntKind.i64 0, Go.Value.int Go.IntKind.i64 0, Go.Value.int Go.IntKind.i64 0, Go.Value.int Go.IntKind.i64 0, Go.Value.int Go.IntKind.i64 0, Go.Value.int Go.IntKind.i64 0, Go.Value.int Go.IntKind.i64 0, Go.Value.int Go.IntKind.i64 0]), (Go.TypeDesc.array 8 3), false⟩
noncomputable def y92 : TyI := ⟨2, 16, (Go.Value.agg #[Go.Value.int Go.IntKind.i64 0, Go.Value.int Go.IntKind.i64 0]), (Go.TypeDesc.struct #[{ name := "id", type := 3, offset := 0, embedded := false, tag := "", pkgPath := "argosy/argosylaw22", byteOffset := 0 }, { name := "k", type := 3, offset := 1, embedded := false, tag := "", pkgPath := "argosy/argosylaw22", byteOffset := 8 }]), false⟩
noncomputable def y93 : TyI := ⟨2, 16, (Go.Value.agg #[Go.Value.int Go.IntKind.i64 0, Go.Value.int Go.IntKind.i64 0]), (Go.TypeDesc.struct #[{ name := "id", type := 3, offset := 0, embedded := false, tag := "", pkgPath := "argosy/argosylaw22", byteOffset := 0 }, { name := "k", type := 3, offset := 1, embedded := false, tag := "", pkgPath := "argosy/argosylaw22", byteOffset := 8 }]), true⟩
noncomputable def y94 : TyI := ⟨1, 8, (Go.Value.map none), (Go.TypeDesc.map 93 4), false⟩
noncomputable def y95 : TyI := ⟨1, 8, Go.Value.nilFunc, (Go.TypeDesc.func #[52, 52] #[4] false), false⟩
noncomputable def y96 : TyI := ⟨1, 8, (Go.Value.pointer none), (Go.TypeDesc.pointer 35), false⟩
noncomputable def y97 : TyI := ⟨1, 0, (Go.Value.tuple #[Go.Value.int Go.IntKind.i64 0, Go.Value.int Go.IntKind.i64 0]), (Go.TypeDesc.tuple #[3, 3]), false⟩
noncomputable def y98 : TyI := ⟨1, 8, Go.Value.nilFunc, (Go.TypeDesc.func #[47] #[3, 3] false), false⟩
noncomputable def y99 : TyI := ⟨1, 8, Go.Value.nilFunc, (Go.TypeDesc.func #[3, 3] #[36] false), false⟩
noncomputable def y100 : TyI := ⟨2, 16, (Go.Value.agg #[Go.Value.int Go.IntKind.i64 0, Go.Value.int Go.IntKind.i64 0]), (Go.TypeDesc.array 2 3), true⟩
noncomputable def y101 : TyI := ⟨1, 8, Go.Value.nilFunc, (Go.TypeDesc.func #[47] #[4] false), false⟩
noncomputable def y102 : TyI := ⟨1, 8, Go.Value.nilFunc, (Go.TypeDesc.func #[3, 3] #[47, 4] false), false⟩
noncomputable def y103 : TyI := ⟨1, 8, Go.Value.nilFunc, (Go.TypeDesc.func #[52] #[3] true), false⟩
noncomputable def y104 : TyI := ⟨1, 8, Go.Value.nilFunc, (Go.TypeDesc.func #[47] #[52] false), false⟩
noncomputable def y105 : TyI := ⟨1, 8, (Go.Value.pointer none), (Go.TypeDesc.pointer 38), false⟩
noncomputable def y106 : TyI := ⟨1, 8, Go.Value.nilFunc, (Go.TypeDesc.func #[3] #[3] false), false⟩
noncomputable def y107 : TyI := ⟨1, 8, Go.Value.nilFunc, (Go.TypeDesc.func #[51] #[29] true), false⟩
noncomputable def y108 : TyI := ⟨1, 8, Go.Value.nilFunc, (Go.TypeDesc.func #[67] #[4] false), false⟩
noncomputable def y109 : TyI := ⟨1, 8, Go.Value.nilFunc, (Go.TypeDesc.func #[67] #[3, 3] false), false⟩
noncomputable def y110 : TyI := ⟨1, 8, Go.Value.nilFunc, (Go.TypeDesc.func #[29, 52] #[29] true), false⟩
noncomputable def y111 : TyI := ⟨1, 0, (Go.Value.tuple #[Go.Value.agg #[Go.Value.int Go.IntKind.i64 0, Go.Value.int Go.IntKind.i64 0, Go.Value.int Go.IntKind.i64 0, Go.Value.int Go.IntKind.i64 0, Go.Value.int Go.IntKind.i64 0], Go.Value.slice none 0 0, Go.Value.int Go.IntKind.i64 0]), (Go.TypeDesc.tuple #[67, 29, 27]), false⟩
noncomputable def y112 : TyI := ⟨1, 8, Go.Value.nilFunc, (Go.TypeDesc.func #[29] #[67, 29, 27] false), false⟩
noncomputable def y113 : TyI := ⟨1, 8, Go.Value.nilFunc, (Go.TypeDesc.func #[3, 3, 3, 29] #[72] false), false⟩
noncomputable def y114 : TyI := ⟨1, 8, (Go.Value.pointer none), (Go.TypeDesc.pointer 144), false⟩
noncomputable def y115 : TyI := ⟨1, 0, (Go.Value.tuple #[Go.Value.pointer none, Go.Value.bool false]), (Go.TypeDesc.tuple #[114, 4]), false⟩
noncomputable def y116 : TyI := ⟨1, 8, Go.Value.nilFunc, (Go.TypeDesc.func #[67] #[114] false), false⟩
noncomputable def y117 : TyI := ⟨1, 8, Go.Value.nilFunc, (Go.TypeDesc.func #[67, 29] #[4] false), false⟩
noncomputable def y118 : TyI := ⟨1, 8, Go.Value.nilFunc, (Go.TypeDesc.func #[] #[29] false), false⟩
noncomputable def y119 : TyI := ⟨1, 8, Go.Value.nilFunc, (Go.TypeDesc.func #[69] #[69] false), false⟩
noncomputable def y120 : TyI := ⟨1, 8, Go.Value.nilFunc, (Go.TypeDesc.func #[36, 121] #[4] false), false⟩
noncomputable def y121 : TyI := ⟨1, 8, Go.Value.nilFunc, (Go.TypeDesc.func #[100] #[4] false), false⟩
noncomputable def y122 : TyI := ⟨1, 8, (Go.Value.agg #[Go.Value.map none]), (Go.TypeDesc.struct #[{ name := "at", type := 79, offset := 0, embedded := false, tag := "", pkgPath := "argosy/order", byteOffset := 0 }]), false⟩
noncomputable def y123 : TyI := ⟨1, 8, (Go.Value.agg #[Go.Value.map none]), (Go.TypeDesc.struct #[{ name := "at", type := 79, offset := 0, embedded := false, tag := "", pkgPath := "argosy/order", byteOffset := 0 }]), false⟩
noncomputable def y124 : TyI := ⟨1, 8, Go.Value.nilFunc, (Go.TypeDesc.func #[] #[67] false), false⟩
noncomputable def y125 : TyI := ⟨1, 8, (Go.Value.pointer none), (Go.TypeDesc.pointer 127), false⟩
noncomputable def y126 : TyI := ⟨10, 80, (Go.Value.agg #[Go.Value.slice none 0 0, Go.Value.int Go.IntKind.i64 0, Go.Value.int Go.IntKind.i64 0, Go.Value.int Go.IntKind.i64 0, Go.Value.int Go.IntKind.i64 0, Go.Value.int Go.IntKind.i64 0, Go.Value.int Go.IntKind.i64 0, Go.Value.bool false, Go.Value.bool false, Go.Value.bool false]), (Go.TypeDesc.struct #[{ name := "b", type := 29, offset := 0, embedded := false, tag := "", pkgPath := "argosy/inbox", byteOffset := 0 }, { name := "h", type := 67, offset := 1, embedded := false, tag := "", pkgPath := "argosy/inbox", byteOffset := 24 }, { name := "used", type := 3, offset := 6, embedded := false, tag := "", pkgPath := "argosy/inbox", byteOffset := 64 }, { name := "read", type := 4, offset := 7, embedded := false, tag := "", pkgPath := "argosy/inbox", byteOffset := 72 }, { name := "left", type := 4, offset := 8, embedded := false, tag := "", pkgPath := "argosy/inbox", byteOffset := 73 }, { name := "over", type := 4, offset := 9, embedded := false, tag := "", pkgPath := "argosy/inbox", byteOffset := 74 }]), false⟩
noncomputable def y127 : TyI := ⟨10, 80, (Go.Value.agg #[Go.Value.slice none 0 0, Go.Value.int Go.IntKind.i64 0, Go.Value.int Go.IntKind.i64 0, Go.Value.int Go.IntKind.i64 0, Go.Value.int Go.IntKind.i64 0, Go.Value.int Go.IntKind.i64 0, Go.Value.int Go.IntKind.i64 0, Go.Value.bool false, Go.Value.bool false, Go.Value.bool false]), (Go.TypeDesc.struct #[{ name := "b", type := 29, offset := 0, embedded := false, tag := "", pkgPath := "argosy/inbox", byteOffset := 0 }, { name := "h", type := 67, offset := 1, embedded := false, tag := "", pkgPath := "argosy/inbox", byteOffset := 24 }, { name := "used", type := 3, offset := 6, embedded := false, tag := "", pkgPath := "argosy/inbox", byteOffset := 64 }, { name := "read", type := 4, offset := 7, embedded := false, tag := "", pkgPath := "argosy/inbox", byteOffset := 72 }, { name := "left", type := 4, offset := 8, embedded := false, tag := "", pkgPath := "argosy/inbox", byteOffset := 73 }, { name := "over", type := 4, offset := 9, embedded := false, tag := "", pkgPath := "argosy/inbox", byteOffset := 74 }]), false⟩
noncomputable def y128 : TyI := ⟨1, 8, Go.Value.nilFunc, (Go.TypeDesc.func #[3] #[3, 4] false), false⟩
noncomputable def y129 : TyI := ⟨1, 8, Go.Value.nilFunc, (Go.TypeDesc.func #[3] #[52] false), false⟩
noncomputable def y130 : TyI := ⟨1, 8, Go.Value.nilFunc, (Go.TypeDesc.func #[29] #[29] false), false⟩
noncomputable def y131 : TyI := ⟨1, 8, Go.Value.nilFunc, (Go.TypeDesc.func #[36] #[36] false), false⟩
noncomputable def y132 : TyI := ⟨1, 8, Go.Value.nilFunc, (Go.TypeDesc.func #[] #[36] false), false⟩
noncomputable def y133 : TyI := ⟨1, 8, Go.Value.nilFunc, (Go.TypeDesc.func #[3, 3, 3] #[47, 4] false), false⟩
noncomputable def y134 : TyI := ⟨1, 8, Go.Value.nilFunc, (Go.TypeDesc.func #[3, 3] #[47] false), false⟩
noncomputable def y135 : TyI := ⟨1, 8, Go.Value.nilFunc, (Go.TypeDesc.func #[47, 47] #[4] false), false⟩
noncomputable def y136 : TyI := ⟨1, 8, Go.Value.nilFunc, (Go.TypeDesc.func #[47] #[47] false), false⟩
noncomputable def y137 : TyI := ⟨1, 8, Go.Value.nilFunc, (Go.TypeDesc.func #[52] #[4] true), false⟩
noncomputable def y138 : TyI := ⟨1, 8, Go.Value.nilFunc, (Go.TypeDesc.func #[36] #[4] false), false⟩
noncomputable def y139 : TyI := ⟨1, 8, Go.Value.nilFunc, (Go.TypeDesc.func #[4] #[3] false), false⟩
noncomputable def y140 : TyI := ⟨1, 8, (Go.Value.int Go.IntKind.u64 0), (Go.TypeDesc.int Go.IntKind.u64), false⟩
noncomputable def y141 : TyI := ⟨1, 0, (Go.Value.tuple #[Go.Value.slice none 0 0, Go.Value.slice none 0 0, Go.Value.int Go.IntKind.i64 0]), (Go.TypeDesc.tuple #[52, 29, 27]), false⟩
noncomputable def y142 : TyI := ⟨1, 8, Go.Value.nilFunc, (Go.TypeDesc.func #[29, 3] #[52, 29, 27] false), false⟩
noncomputable def y143 : TyI := ⟨7, 88, (Go.Value.agg #[Go.Value.slice none 0 0, Go.Value.int Go.IntKind.i64 0, Go.Value.int Go.IntKind.i64 0, Go.Value.int Go.IntKind.i64 0, Go.Value.int Go.IntKind.i64 0, Go.Value.int Go.IntKind.i64 0, Go.Value.slice none 0 0]), (Go.TypeDesc.struct #[{ name := "Set", type := 38, offset := 0, embedded := true, tag := "", pkgPath := "", byteOffset := 0 }, { name := "h", type := 67, offset := 1, embedded := false, tag := "", pkgPath := "argosy/frags", byteOffset := 24 }, { name := "b", type := 29, offset := 6, embedded := false, tag := "", pkgPath := "argosy/frags", byteOffset := 64 }]), false⟩
noncomputable def y144 : TyI := ⟨7, 88, (Go.Value.agg #[Go.Value.slice none 0 0, Go.Value.int Go.IntKind.i64 0, Go.Value.int Go.IntKind.i64 0, Go.Value.int Go.IntKind.i64 0, Go.Value.int Go.IntKind.i64 0, Go.Value.int Go.IntKind.i64 0, Go.Value.slice none 0 0]), (Go.TypeDesc.struct #[{ name := "Set", type := 38, offset := 0, embedded := true, tag := "", pkgPath := "", byteOffset := 0 }, { name := "h", type := 67, offset := 1, embedded := false, tag := "", pkgPath := "argosy/frags", byteOffset := 24 }, { name := "b", type := 29, offset := 6, embedded := false, tag := "", pkgPath := "argosy/frags", byteOffset := 64 }]), false⟩
noncomputable def y145 : TyI := ⟨1, 8, Go.Value.nilFunc, (Go.TypeDesc.func #[36, 121] #[3] false), false⟩
noncomputable def y146 : TyI := ⟨1, 8, (Go.Value.pointer none), (Go.TypeDesc.pointer 123), false⟩
noncomputable def y147 : TyI := ⟨1, 8, Go.Value.nilFunc, (Go.TypeDesc.func #[52] #[52] false), false⟩
noncomputable def y148 : TyI := ⟨1, 8, Go.Value.nilFunc, (Go.TypeDesc.func #[52, 44] #[52] false), false⟩
noncomputable def y149 : TyI := ⟨1, 8, Go.Value.nilFunc, (Go.TypeDesc.func #[] #[52] false), false⟩
noncomputable def y150 : TyI := ⟨1, 8, Go.Value.nilFunc, (Go.TypeDesc.func #[29, 29] #[4] false), false⟩
noncomputable def y151 : TyI := ⟨1, 8, Go.Value.nilFunc, (Go.TypeDesc.func #[36, 36] #[4] false), false⟩
noncomputable def y152 : TyI := ⟨1, 8, Go.Value.nilFunc, (Go.TypeDesc.func #[52, 44] #[4] false), false⟩
noncomputable def y153 : TyI := ⟨1, 8, Go.Value.nilFunc, (Go.TypeDesc.func #[140] #[3] false), false⟩
noncomputable def y154 : TyI := ⟨1, 0, (Go.Value.tuple #[Go.Value.int Go.IntKind.i64 0, Go.Value.slice none 0 0, Go.Value.int Go.IntKind.i64 0]), (Go.TypeDesc.tuple #[3, 29, 27]), false⟩
noncomputable def y155 : TyI := ⟨1, 8, Go.Value.nilFunc, (Go.TypeDesc.func #[29] #[3, 29, 27] false), false⟩
noncomputable def y156 : TyI := ⟨1, 8, Go.Value.nilFunc, (Go.TypeDesc.func #[52, 44] #[3] false), false⟩
noncomputable def y157 : TyI := ⟨1, 8, Go.Value.nilFunc, (Go.TypeDesc.func #[159, 26] #[52] false), false⟩
noncomputable def y158 : TyI := ⟨1, 8, Go.Value.nilFunc, (Go.TypeDesc.func #[44] #[] false), false⟩
noncomputable def y159 : TyI := ⟨1, 8, Go.Value.nilFunc, (Go.TypeDesc.func #[44] #[] false), false⟩
noncomputable def y160 : TyI := ⟨1, 8, Go.Value.nilFunc, (Go.TypeDesc.func #[79] #[159] false), false⟩
noncomputable def y161 : TyI := ⟨1, 8, Go.Value.nilFunc, (Go.TypeDesc.func #[162] #[3] false), false⟩
noncomputable def y162 : TyI := ⟨1, 4, (Go.Value.int Go.IntKind.u32 0), (Go.TypeDesc.int Go.IntKind.u32), false⟩
noncomputable def y163 : TyI := ⟨1, 8, Go.Value.nilFunc, (Go.TypeDesc.func #[164] #[3] false), false⟩
noncomputable def y164 : TyI := ⟨1, 8, (Go.Value.int Go.IntKind.u64 0), (Go.TypeDesc.int Go.IntKind.u64), false⟩
noncomputable def y165 : TyI := ⟨1, 8, Go.Value.nilFunc, (Go.TypeDesc.func #[159] #[52] false), false⟩
noncomputable def y166 : TyI := ⟨1, 8, Go.Value.nilFunc, (Go.TypeDesc.func #[52, 26] #[] false), false⟩
noncomputable def y167 : TyI := ⟨1, 8, Go.Value.nilFunc, (Go.TypeDesc.func #[52, 159] #[52] false), false⟩
noncomputable def y168 : TyI := ⟨1, 8, Go.Value.nilFunc, (Go.TypeDesc.func #[52, 3, 3, 3, 26] #[] false), false⟩
noncomputable def y169 : TyI := ⟨1, 8, Go.Value.nilFunc, (Go.TypeDesc.func #[52, 3, 3, 26] #[] false), false⟩
noncomputable def y170 : TyI := ⟨1, 8, (Go.Value.int Go.IntKind.i64 0), (Go.TypeDesc.int Go.IntKind.i64), false⟩
noncomputable def y171 : TyI := ⟨1, 0, (Go.Value.tuple #[Go.Value.int Go.IntKind.i64 0, Go.Value.int Go.IntKind.i64 0]), (Go.TypeDesc.tuple #[3, 170]), false⟩
noncomputable def y172 : TyI := ⟨1, 8, Go.Value.nilFunc, (Go.TypeDesc.func #[52, 3, 3, 26] #[3, 170] false), false⟩
noncomputable def y173 : TyI := ⟨1, 8, Go.Value.nilFunc, (Go.TypeDesc.func #[52, 3, 3, 26] #[4] false), false⟩
noncomputable def y174 : TyI := ⟨1, 8, Go.Value.nilFunc, (Go.TypeDesc.func #[52, 3, 3, 3, 26] #[3] false), false⟩
noncomputable def y175 : TyI := ⟨1, 8, Go.Value.nilFunc, (Go.TypeDesc.func #[52, 3, 3, 3, 26] #[3, 4] false), false⟩
noncomputable def y176 : TyI := ⟨1, 8, (Go.Value.int Go.IntKind.u64 0), (Go.TypeDesc.int Go.IntKind.u64), false⟩
noncomputable def y177 : TyI := ⟨1, 8, Go.Value.nilFunc, (Go.TypeDesc.func #[3] #[140] false), false⟩
noncomputable def y178 : TyI := ⟨1, 8, Go.Value.nilFunc, (Go.TypeDesc.func #[] #[164] false), false⟩
noncomputable def y179 : TyI := ⟨1, 8, Go.Value.nilFunc, (Go.TypeDesc.func #[52, 3, 180, 26] #[3] false), false⟩
noncomputable def y180 : TyI := ⟨1, 8, (Go.Value.pointer none), (Go.TypeDesc.pointer 3), false⟩
noncomputable def y181 : TyI := ⟨1, 8, Go.Value.nilFunc, (Go.TypeDesc.func #[52, 3, 3, 3, 180, 26] #[3] false), false⟩
noncomputable def y182 : TyI := ⟨1, 8, (Go.Value.pointer none), (Go.TypeDesc.pointer 176), false⟩
noncomputable def y183 : TyI := ⟨1, 8, Go.Value.nilFunc, (Go.TypeDesc.func #[52, 3, 3, 180, 26] #[3, 3] false), false⟩
noncomputable def y184 : TyI := ⟨1, 8, Go.Value.nilFunc, (Go.TypeDesc.func #[] #[9] false), false⟩
noncomputable def y185 : TyI := ⟨4, 40, (Go.Value.agg #[Go.Value.pointer none, Go.Value.pointer none, Go.Value.pointer none, Go.Value.string { data := #[] }]), (Go.TypeDesc.struct #[{ name := "_interface", type := 17, offset := 0, embedded := false, tag := "", pkgPath := "runtime", byteOffset := 0 }, { name := "concrete", type := 17, offset := 1, embedded := false, tag := "", pkgPath := "runtime", byteOffset := 8 }, { name := "asserted", type := 17, offset := 2, embedded := false, tag := "", pkgPath := "runtime", byteOffset := 16 }, { name := "missingMethod", type := 9, offset := 3, embedded := false, tag := "", pkgPath := "runtime", byteOffset := 24 }]), false⟩
noncomputable def y186 : TyI := ⟨4, 40, (Go.Value.agg #[Go.Value.pointer none, Go.Value.pointer none, Go.Value.pointer none, Go.Value.string { data := #[] }]), (Go.TypeDesc.struct #[{ name := "_interface", type := 17, offset := 0, embedded := false, tag := "", pkgPath := "runtime", byteOffset := 0 }, { name := "concrete", type := 17, offset := 1, embedded := false, tag := "", pkgPath := "runtime", byteOffset := 8 }, { name := "asserted", type := 17, offset := 2, embedded := false, tag := "", pkgPath := "runtime", byteOffset := 16 }, { name := "missingMethod", type := 9, offset := 3, embedded := false, tag := "", pkgPath := "runtime", byteOffset := 24 }]), false⟩
noncomputable def y187 : TyI := ⟨0, 0, (Go.Value.agg #[]), (Go.TypeDesc.array 0 16), false⟩
noncomputable def y188 : TyI := ⟨0, 0, (Go.Value.agg #[]), (Go.TypeDesc.struct #[{ name := "_", type := 187, offset := 0, embedded := false, tag := "", pkgPath := "runtime", byteOffset := 0 }]), false⟩
noncomputable def y189 : TyI := ⟨0, 0, (Go.Value.agg #[]), (Go.TypeDesc.struct #[{ name := "_", type := 187, offset := 0, embedded := false, tag := "", pkgPath := "runtime", byteOffset := 0 }]), false⟩
noncomputable def y190 : TyI := ⟨1, 1, (Go.Value.int Go.IntKind.u8 0), (Go.TypeDesc.int Go.IntKind.u8), false⟩
noncomputable def y191 : TyI := ⟨1, 1, (Go.Value.int Go.IntKind.u8 0), (Go.TypeDesc.int Go.IntKind.u8), false⟩
noncomputable def y192 : TyI := ⟨1, 8, Go.Value.nilFunc, (Go.TypeDesc.func #[200, 200] #[4] false), false⟩
noncomputable def y193 : TyI := ⟨1, 8, (Go.Value.pointer none), (Go.TypeDesc.pointer 5), false⟩
noncomputable def y194 : TyI := ⟨1, 4, (Go.Value.int Go.IntKind.i32 0), (Go.TypeDesc.int Go.IntKind.i32), false⟩
noncomputable def y195 : TyI := ⟨1, 4, (Go.Value.int Go.IntKind.i32 0), (Go.TypeDesc.int Go.IntKind.i32), false⟩
noncomputable def y196 : TyI := ⟨11, 48, (Go.Value.agg #[Go.Value.int Go.IntKind.u64 0, Go.Value.int Go.IntKind.u64 0, Go.Value.int Go.IntKind.u32 0, Go.Value.int Go.IntKind.u8 0, Go.Value.int Go.IntKind.u8 0, Go.Value.int Go.IntKind.u8 0, Go.Value.int Go.IntKind.u8 0, Go.Value.nilFunc, Go.Value.pointer none, Go.Value.int Go.IntKind.i32 0, Go.Value.int Go.IntKind.i32 0]), (Go.TypeDesc.struct #[{ name := "Size_", type := 12, offset := 0, embedded := false, tag := "", pkgPath := "", byteOffset := 0 }, { name := "PtrBytes", type := 12, offset := 1, embedded := false, tag := "", pkgPath := "", byteOffset := 8 }, { name := "Hash", type := 162, offset := 2, embedded := false, tag := "", pkgPath := "", byteOffset := 16 }, { name := "TFlag", type := 190, offset := 3, embedded := false, tag := "", pkgPath := "", byteOffset := 20 }, { name := "Align_", type := 5, offset := 4, embedded := false, tag := "", pkgPath := "", byteOffset := 21 }, { name := "FieldAlign_", type := 5, offset := 5, embedded := false, tag := "", pkgPath := "", byteOffset := 22 }, { name := "Kind_", type := 191, offset := 6, embedded := false, tag := "", pkgPath := "", byteOffset := 23 }, { name := "Equal", type := 192, offset := 7, embedded := false, tag := "", pkgPath := "", byteOffset := 24 }, { name := "GCData", type := 193, offset := 8, embedded := false, tag := "", pkgPath := "", byteOffset := 32 }, { name := "Str", type := 194, offset := 9, embedded := false, tag := "", pkgPath := "", byteOffset := 40 }, { name := "PtrToThis", type := 195, offset := 10, embedded := false, tag := "", pkgPath := "", byteOffset := 44 }]), false⟩
noncomputable def y197 : TyI := ⟨11, 48, (Go.Value.agg #[Go.Value.int Go.IntKind.u64 0, Go.Value.int Go.IntKind.u64 0, Go.Value.int Go.IntKind.u32 0, Go.Value.int Go.IntKind.u8 0, Go.Value.int Go.IntKind.u8 0, Go.Value.int Go.IntKind.u8 0, Go.Value.int Go.IntKind.u8 0, Go.Value.nilFunc, Go.Value.pointer none, Go.Value.int Go.IntKind.i32 0, Go.Value.int Go.IntKind.i32 0]), (Go.TypeDesc.struct #[{ name := "Size_", type := 12, offset := 0, embedded := false, tag := "", pkgPath := "", byteOffset := 0 }, { name := "PtrBytes", type := 12, offset := 1, embedded := false, tag := "", pkgPath := "", byteOffset := 8 }, { name := "Hash", type := 162, offset := 2, embedded := false, tag := "", pkgPath := "", byteOffset := 16 }, { name := "TFlag", type := 190, offset := 3, embedded := false, tag := "", pkgPath := "", byteOffset := 20 }, { name := "Align_", type := 5, offset := 4, embedded := false, tag := "", pkgPath := "", byteOffset := 21 }, { name := "FieldAlign_", type := 5, offset := 5, embedded := false, tag := "", pkgPath := "", byteOffset := 22 }, { name := "Kind_", type := 191, offset := 6, embedded := false, tag := "", pkgPath := "", byteOffset := 23 }, { name := "Equal", type := 192, offset := 7, embedded := false, tag := "", pkgPath := "", byteOffset := 24 }, { name := "GCData", type := 193, offset := 8, embedded := false, tag := "", pkgPath := "", byteOffset := 32 }, { name := "Str", type := 194, offset := 9, embedded := false, tag := "", pkgPath := "", byteOffset := 40 }, { name := "PtrToThis", type := 195, offset := 10, embedded := false, tag := "", pkgPath := "", byteOffset := 44 }]), false⟩
noncomputable def y198 : TyI := ⟨1, 8, Go.Value.nilFunc, (Go.TypeDesc.func #[4] #[] false), false⟩
noncomputable def y199 : TyI := ⟨1, 8, Go.Value.nilFunc, (Go.TypeDesc.func #[] #[3, 4] false), false⟩
noncomputable def y200 : TyI := ⟨1, 8, (Go.Value.pointer none), Go.TypeDesc.unsafePointer, false⟩
noncomputable def ty : Tr TyI := (.node (.node (.node (.node (.node (.node (.node (.node .leaf (some y127) .leaf) (some y63) (.node .leaf (some y191) .leaf)) (some y31) (.node (.node .leaf (some y159) .leaf) (some y95) .leaf)) (some y15) (.node (.node (.node .leaf (some y143) .leaf) (some y79) .leaf) (some y47) (.node (.node .leaf (some y175) .leaf) (some y111) .leaf))) (some y7) (.node (.node (.node (.node .leaf (some y135) .leaf) (some y71) (.node .leaf (some y199) .leaf)) (some y39) (.node (.node .leaf (some y167) .leaf) (some y103) .leaf)) (some y23) (.node (.node (.node .leaf (some y151) .leaf) (some y87) .leaf) (some y55) (.node (.node .leaf (some y183) .leaf) (some y119) .leaf)))) (some y3) (.node (.node (.node (.node (.node .leaf (some y131) .leaf) (some y67) (.node .leaf (some y195) .leaf)) (some y35) (.node (.node .leaf (some y163) .leaf) (some y99) .leaf)) (some y19) (.node (.node (.node .leaf (some y147) .leaf) (some y83) .leaf) (some y51) (.node (.node .leaf (some y179) .leaf) (some y115) .leaf))) (some y11) (.node (.node (.node (.node .leaf (some y139) .leaf) (some y75) .leaf) (some y43) (.node (.node .leaf (some y171) .leaf) (some y107) .leaf)) (some y27) (.node (.node (.node .leaf (some y155) .leaf) (some y91) .leaf) (some y59) (.node (.node .leaf (some y187) .leaf) (some y123) .leaf))))) (some y1) (.node (.node (.node (.node (.node (.node .leaf (some y129) .leaf) (some y65) (.node .leaf (some y193) .leaf)) (some y33) (.node (.node .leaf (some y161) .leaf) (some y97) .leaf)) (some y17) (.node (.node (.node .leaf (some y145) .leaf) (some y81) .leaf) (some y49) (.node (.node .leaf (some y177) .leaf) (some y113) .leaf))) (some y9) (.node (.node (.node (.node .leaf (some y137) .leaf) (some y73) .leaf) (some y41) (.node (.node .leaf (some y169) .leaf) (some y105) .leaf)) (some y25) (.node (.node (.node .leaf (some y153) .leaf) (some y89) .leaf) (some y57) (.node (.node .leaf (some y185) .leaf) (some y121) .leaf)))) (some y5) (.node (.node (.node (.node (.node .leaf (some y133) .leaf) (some y69) (.node .leaf (some y197) .leaf)) (some y37) (.node (.node .leaf (some y165) .leaf) (some y101) .leaf)) (some y21) (.node (.node (.node .leaf (some y149) .leaf) (some y85) .leaf) (some y53) (.node (.node .leaf (some y181) .leaf) (some y117) .leaf))) (some y13) (.node (.node (.node (.node .leaf (some y141) .leaf) (some y77) .leaf) (some y45) (.node (.node .leaf (some y173) .leaf) (some y109) .leaf)) (some y29) (.node (.node (.node .leaf (some y157) .leaf) (some y93) .leaf) (some y61) (.node (.node .leaf (some y189) .leaf) (some y125) .leaf)))))) (some y0) (.node (.node (.node (.node (.node (.node (.node .leaf (some y128) .leaf) (some y64) (.node .leaf (some y192) .leaf)) (some y32) (.node (.node .leaf (some y160) .leaf) (some y96) .leaf)) (some y16) (.node (.node (.node .leaf (some y144) .leaf) (some y80) .leaf) (some y48) (.node (.node .leaf (some y176) .leaf) (some y112) .leaf))) (some y8) (.node (.node (.node (.node .leaf (some y136) .leaf) (some y72) (.node .leaf (some y200) .leaf)) (some y40) (.node (.node .leaf (some y168) .leaf) (some y104) .leaf)) (some y24) (.node (.node (.node .leaf (some y152) .leaf) (some y88) .leaf) (some y56) (.node (.node .leaf (some y184) .leaf) (some y120) .leaf)))) (some y4) (.node (.node (.node (.node (.node .leaf (some y132) .leaf) (some y68) (.node .leaf (some y196) .leaf)) (some y36) (.node (.node .leaf (some y164) .leaf) (some y100) .leaf)) (some y20) (.node (.node (.node .leaf (some y148) .leaf) (some y84) .leaf) (some y52) (.node (.node .leaf (some y180) .leaf) (some y116) .leaf))) (some y12) (.node (.node (.node (.node .leaf (some y140) .leaf) (some y76) .leaf) (some y44) (.node (.node .leaf (some y172) .leaf) (some y108) .leaf)) (some y28) (.node (.node (.node .leaf (some y156) .leaf) (some y92) .leaf) (some y60) (.node (.node .leaf (some y188) .leaf) (some y124) .leaf))))) (some y2) (.node (.node (.node (.node (.node (.node .leaf (some y130) .leaf) (some y66) (.node .leaf (some y194) .leaf)) (some y34) (.node (.node .leaf (some y162) .leaf) (some y98) .leaf)) (some y18) (.node (.node (.node .leaf (some y146) .leaf) (some y82) .leaf) (some y50) (.node (.node .leaf (some y178) .leaf) (some y114) .leaf))) (some y10) (.node (.node (.node (.node .leaf (some y138) .leaf) (some y74) .leaf) (some y42) (.node (.node .leaf (some y170) .leaf) (some y106) .leaf)) (some y26) (.node (.node (.node .leaf (some y154) .leaf) (some y90) .leaf) (some y58) (.node (.node .leaf (some y186) .leaf) (some y122) .leaf)))) (some y6) (.node (.node (.node (.node (.node .leaf (some y134) .leaf) (some y70) (.node .leaf (some y198) .leaf)) (some y38) (.node (.node .leaf (some y166) .leaf) (some y102) .leaf)) (some y22) (.node (.node (.node .leaf (some y150) .leaf) (some y86) .leaf) (some y54) (.node (.node .leaf (some y182) .leaf) (some y118) .leaf))) (some y14) (.node (.node (.node (.node .leaf (some y142) .leaf) (some y78) .leaf) (some y46) (.node (.node .leaf (some y174) .leaf) (some y110) .leaf)) (some y30) (.node (.node (.node .leaf (some y158) .leaf) (some y94) .leaf) (some y62) (.node (.node .leaf (some y190) .leaf) (some y126) .leaf)))))))
noncomputable def fn : Tr Func := (.node (.node (.node (.node (.node (.node (.node .leaf (some Try.f63) .leaf) (some Try.f31) (.node .leaf (some Try.f95) .leaf)) none .leaf) none (.node (.node (.node .leaf (some Try.f71) .leaf) none (.node .leaf (some Try.f103) .leaf)) none (.node (.node .leaf (some Try.f87) .leaf) (some Try.f55) .leaf))) none (.node (.node (.node .leaf (some Try.f35) (.node .leaf (some Try.f99) .leaf)) none (.node (.node .leaf (some Try.f83) .leaf) (some Try.f51) .leaf)) none (.node .leaf none (.node .leaf (some Try.f59) .leaf)))) none (.node (.node (.node (.node (.node .leaf (some Try.f65) .leaf) (some Try.f33) (.node .leaf (some Try.f97) .leaf)) none (.node .leaf (some Try.f49) .leaf)) (some Try.f9) (.node .leaf (some Try.f25) (.node .leaf (some Try.f57) .leaf))) none (.node (.node (.node (.node .leaf (some Try.f69) .leaf) none .leaf) none (.node (.node .leaf (some Try.f85) .leaf) (some Try.f53) .leaf)) none (.node .leaf (some Try.f29) (.node .leaf (some Try.f61) .leaf))))) none (.node (.node (.node (.node (.node (.node .leaf (some Try.f64) .leaf) (some Try.f32) (.node .leaf (some Try.f96) .leaf)) none (.node (.node .leaf (some Try.f80) .leaf) (some Try.f48) .leaf)) none (.node (.node .leaf (some Try.f40) (.node .leaf (some Try.f104) .leaf)) (some Try.f24) (.node (.node .leaf (some Try.f88) .leaf) (some Try.f56) .leaf))) none (.node (.node (.node .leaf (some Try.f36) .leaf) none (.node (.node .leaf (some Try.f84) .leaf) (some Try.f52) .leaf)) (some Try.f12) (.node .leaf (some Try.f28) (.node .leaf (some Try.f60) .leaf)))) none (.node (.node (.node (.node (.node .leaf (some Try.f66) .leaf) (some Try.f34) (.node .leaf (some Try.f98) .leaf)) none (.node (.node .leaf (some Try.f82) .leaf) (some Try.f50) .leaf)) none (.node .leaf none (.node .leaf (some Try.f58) .leaf))) none (.node (.node (.node (.node .leaf (some Try.f70) .leaf) (some Try.f38) .leaf) none (.node (.node .leaf (some Try.f86) .leaf) (some Try.f54) .leaf)) (some Try.f14) (.node .leaf (some Try.f30) (.node .leaf (some Try.f62) .leaf))))))
def FnP (f : Nat) (F : Func) : Prop := Try.prog.funcs[f]? = some F ∧ F.body ≠ none ∧ (F.name == "runtime.NumGoroutine") = false
def TyP (t : Nat) (i : TyI) : Prop := Try.prog.underlying t = some i.desc ∧ ∃ inf, Try.prog.info? t = some inf ∧ inf.size = i.size ∧ inf.bytes = i.bytes ∧ inf.zero = some i.zero ∧ i.zero.cells.size = i.size ∧ free i.zero = true ∧ i.size < 4294967296
def FlP (t : Nat) (i : TyI) : Prop := i.flat = true → ∀ xs ys b, xs.length = i.size → cellsEq i.zero.cells.toList xs ys = some b → ∀ w, (Op.equal t (.agg xs.toArray) (.agg ys.toArray)).run Try.prog w = .ok b w ∧ ∀ op x y, (eqGuard op t x y (.agg xs.toArray) (.agg ys.toArray)).run Try.prog w = .ok () w
theorem p9 : FnP 9 Try.f9 := ⟨Try.func9, fun h => Option.some_ne_none _ h, by decide +kernel⟩
theorem p12 : FnP 12 Try.f12 := ⟨Try.func12, fun h => Option.some_ne_none _ h, by decide +kernel⟩
theorem p14 : FnP 14 Try.f14 := ⟨Try.func14, fun h => Option.some_ne_none _ h, by decide +kernel⟩
theorem p24 : FnP 24 Try.f24 := ⟨Try.func24, fun h => Option.some_ne_none _ h, by decide +kernel⟩
theorem p25 : FnP 25 Try.f25 := ⟨Try.func25, fun h => Option.some_ne_none _ h, by decide +kernel⟩
theorem p28 : FnP 28 Try.f28 := ⟨Try.func28, fun h => Option.some_ne_none _ h, by decide +kernel⟩
theorem p29 : FnP 29 Try.f29 := ⟨Try.func29, fun h => Option.some_ne_none _ h, by decide +kernel⟩
theorem p30 : FnP 30 Try.f30 := ⟨Try.func30, fun h => Option.some_ne_none _ h, by decide +kernel⟩
theorem p31 : FnP 31 Try.f31 := ⟨Try.func31, fun h => Option.some_ne_none _ h, by decide +kernel⟩
theorem p32 : FnP 32 Try.f32 := ⟨Try.func32, fun h => Option.some_ne_none _ h, by decide +kernel⟩
theorem p33 : FnP 33 Try.f33 := ⟨Try.func33, fun h => Option.some_ne_none _ h, by decide +kernel⟩
theorem p34 : FnP 34 Try.f34 := ⟨Try.func34, fun h => Option.some_ne_none _ h, by decide +kernel⟩
theorem p35 : FnP 35 Try.f35 := ⟨Try.func35, fun h => Option.some_ne_none _ h, by decide +kernel⟩
theorem p36 : FnP 36 Try.f36 := ⟨Try.func36, fun h => Option.some_ne_none _ h, by decide +kernel⟩
theorem p38 : FnP 38 Try.f38 := ⟨Try.func38, fun h => Option.some_ne_none _ h, by decide +kernel⟩
theorem p40 : FnP 40 Try.f40 := ⟨Try.func40, fun h => Option.some_ne_none _ h, by decide +kernel⟩
theorem p48 : FnP 48 Try.f48 := ⟨Try.func48, fun h => Option.some_ne_none _ h, by decide +kernel⟩
theorem p49 : FnP 49 Try.f49 := ⟨Try.func49, fun h => Option.some_ne_none _ h, by decide +kernel⟩
theorem p50 : FnP 50 Try.f50 := ⟨Try.func50, fun h => Option.some_ne_none _ h, by decide +kernel⟩
theorem p51 : FnP 51 Try.f51 := ⟨Try.func51, fun h => Option.some_ne_none _ h, by decide +kernel⟩
theorem p52 : FnP 52 Try.f52 := ⟨Try.func52, fun h => Option.some_ne_none _ h, by decide +kernel⟩
theorem p53 : FnP 53 Try.f53 := ⟨Try.func53, fun h => Option.some_ne_none _ h, by decide +kernel⟩
theorem p54 : FnP 54 Try.f54 := ⟨Try.func54, fun h => Option.some_ne_none _ h, by decide +kernel⟩
theorem p55 : FnP 55 Try.f55 := ⟨Try.func55, fun h => Option.some_ne_none _ h, by decide +kernel⟩
theorem p56 : FnP 56 Try.f56 := ⟨Try.func56, fun h => Option.some_ne_none _ h, by decide +kernel⟩
theorem p57 : FnP 57 Try.f57 := ⟨Try.func57, fun h => Option.some_ne_none _ h, by decide +kernel⟩
theorem p58 : FnP 58 Try.f58 := ⟨Try.func58, fun h => Option.some_ne_none _ h, by decide +kernel⟩
theorem p59 : FnP 59 Try.f59 := ⟨Try.func59, fun h => Option.some_ne_none _ h, by decide +kernel⟩
theorem p60 : FnP 60 Try.f60 := ⟨Try.func60, fun h => Option.some_ne_none _ h, by decide +kernel⟩
theorem p61 : FnP 61 Try.f61 := ⟨Try.func61, fun h => Option.some_ne_none _ h, by decide +kernel⟩
theorem p62 : FnP 62 Try.f62 := ⟨Try.func62, fun h => Option.some_ne_none _ h, by decide +kernel⟩
theorem p63 : FnP 63 Try.f63 := ⟨Try.func63, fun h => Option.some_ne_none _ h, by decide +kernel⟩
theorem p64 : FnP 64 Try.f64 := ⟨Try.func64, fun h => Option.some_ne_none _ h, by decide +kernel⟩
theorem p65 : FnP 65 Try.f65 := ⟨Try.func65, fun h => Option.some_ne_none _ h, by decide +kernel⟩
theorem p66 : FnP 66 Try.f66 := ⟨Try.func66, fun h => Option.some_ne_none _ h, by decide +kernel⟩
theorem p69 : FnP 69 Try.f69 := ⟨Try.func69, fun h => Option.some_ne_none _ h, by decide +kernel⟩
theorem p70 : FnP 70 Try.f70 := ⟨Try.func70, fun h => Option.some_ne_none _ h, by decide +kernel⟩
theorem p71 : FnP 71 Try.f71 := ⟨Try.func71, fun h => Option.some_ne_none _ h, by decide +kernel⟩
theorem p80 : FnP 80 Try.f80 := ⟨Try.func80, fun h => Option.some_ne_none _ h, by decide +kernel⟩
theorem p82 : FnP 82 Try.f82 := ⟨Try.func82, fun h => Option.some_ne_none _ h, by decide +kernel⟩
theorem p83 : FnP 83 Try.f83 := ⟨Try.func83, fun h => Option.some_ne_none _ h, by decide +kernel⟩
theorem p84 : FnP 84 Try.f84 := ⟨Try.func84, fun h => Option.some_ne_none _ h, by decide +kernel⟩
theorem p85 : FnP 85 Try.f85 := ⟨Try.func85, fun h => Option.some_ne_none _ h, by decide +kernel⟩
theorem p86 : FnP 86 Try.f86 := ⟨Try.func86, fun h => Option.some_ne_none _ h, by decide +kernel⟩
theorem p87 : FnP 87 Try.f87 := ⟨Try.func87, fun h => Option.some_ne_none _ h, by decide +kernel⟩
theorem p88 : FnP 88 Try.f88 := ⟨Try.func88, fun h => Option.some_ne_none _ h, by decide +kernel⟩
theorem p95 : FnP 95 Try.f95 := ⟨Try.func95, fun h => Option.some_ne_none _ h, by decide +kernel⟩
theorem p96 : FnP 96 Try.f96 := ⟨Try.func96, fun h => Option.some_ne_none _ h, by decide +kernel⟩
theorem p97 : FnP 97 Try.f97 := ⟨Try.func97, fun h => Option.some_ne_none _ h, by decide +kernel⟩
theorem p98 : FnP 98 Try.f98 := ⟨Try.func98, fun h => Option.some_ne_none _ h, by decide +kernel⟩
theorem p99 : FnP 99 Try.f99 := ⟨Try.func99, fun h => Option.some_ne_none _ h, by decide +kernel⟩
theorem p103 : FnP 103 Try.f103 := ⟨Try.func103, fun h => Option.some_ne_none _ h, by decide +kernel⟩
theorem p104 : FnP 104 Try.f104 := ⟨Try.func104, fun h => Option.some_ne_none _ h, by decide +kernel⟩
theorem q0 : TyP 0 y0 := ⟨Try.underlying0, Try.t0, by kernel_rfl, rfl, rfl, rfl, rfl, by kernel_rfl, by decide⟩
theorem r0 : FlP 0 y0 := fun h => by cases h
theorem q1 : TyP 1 y1 := ⟨Try.underlying1, Try.t1, by kernel_rfl, rfl, rfl, rfl, rfl, by kernel_rfl, by decide⟩
theorem r1 : FlP 1 y1 := fun h => by cases h
theorem q2 : TyP 2 y2 := ⟨Try.underlying2, Try.t2, by kernel_rfl, rfl, rfl, rfl, rfl, by kernel_rfl, by decide⟩
theorem r2 : FlP 2 y2 := fun h => by cases h
theorem q3 : TyP 3 y3 := ⟨Try.underlying3, Try.t3, by kernel_rfl, rfl, rfl, rfl, rfl, by kernel_rfl, by decide⟩
theorem r3 : FlP 3 y3 := fun h => by cases h
theorem q4 : TyP 4 y4 := ⟨Try.underlying4, Try.t4, by kernel_rfl, rfl, rfl, rfl, rfl, by kernel_rfl, by decide⟩
theorem r4 : FlP 4 y4 := fun h => by cases h
theorem q5 : TyP 5 y5 := ⟨Try.underlying5, Try.t5, by kernel_rfl, rfl, rfl, rfl, rfl, by kernel_rfl, by decide⟩
theorem r5 : FlP 5 y5 := fun h => by cases h
theorem q6 : TyP 6 y6 := ⟨Try.underlying6, Try.t6, by kernel_rfl, rfl, rfl, rfl, rfl, by kernel_rfl, by decide⟩
theorem r6 : FlP 6 y6 := fun h => by cases h
theorem q7 : TyP 7 y7 := ⟨Try.underlying7, Try.t7, by kernel_rfl, rfl, rfl, rfl, rfl, by kernel_rfl, by decide⟩
theorem r7 : FlP 7 y7 := fun h => by cases h
theorem q8 : TyP 8 y8 := ⟨Try.underlying8, Try.t8, by kernel_rfl, rfl, rfl, rfl, rfl, by kernel_rfl, by decide⟩
theorem r8 : FlP 8 y8 := fun h => by cases h
theorem q9 : TyP 9 y9 := ⟨Try.underlying9, Try.t9, by kernel_rfl, rfl, rfl, rfl, rfl, by kernel_rfl, by decide⟩
theorem r9 : FlP 9 y9 := fun h => by cases h
theorem q10 : TyP 10 y10 := ⟨Try.underlying10, Try.t10, by kernel_rfl, rfl, rfl, rfl, rfl, by kernel_rfl, by decide⟩
theorem r10 : FlP 10 y10 := fun h => by cases h
theorem q11 : TyP 11 y11 := ⟨Try.underlying11, Try.t11, by kernel_rfl, rfl, rfl, rfl, rfl, by kernel_rfl, by decide⟩
theorem r11 : FlP 11 y11 := fun h => by cases h
theorem q12 : TyP 12 y12 := ⟨Try.underlying12, Try.t12, by kernel_rfl, rfl, rfl, rfl, rfl, by kernel_rfl, by decide⟩
theorem r12 : FlP 12 y12 := fun h => by cases h
theorem q13 : TyP 13 y13 := ⟨Try.underlying13, Try.t13, by kernel_rfl, rfl, rfl, rfl, rfl, by kernel_rfl, by decide⟩
theorem r13 : FlP 13 y13 := fun h => by cases h
theorem q14 : TyP 14 y14 := ⟨Try.underlying14, Try.t14, by kernel_rfl, rfl, rfl, rfl, rfl, by kernel_rfl, by decide⟩
theorem r14 : FlP 14 y14 := fun h => by cases h
theorem q15 : TyP 15 y15 := ⟨Try.underlying15, Try.t15, by kernel_rfl, rfl, rfl, rfl, rfl, by kernel_rfl, by decide⟩
theorem r15 : FlP 15 y15 := fun h => by cases h
theorem q16 : TyP 16 y16 := ⟨Try.underlying16, Try.t16, by kernel_rfl, rfl, rfl, rfl, rfl, by kernel_rfl, by decide⟩
theorem r16 : FlP 16 y16 := fun h => by cases h
theorem q17 : TyP 17 y17 := ⟨Try.underlying17, Try.t17, by kernel_rfl, rfl, rfl, rfl, rfl, by kernel_rfl, by decide⟩
theorem r17 : FlP 17 y17 := fun h => by cases h
theorem q18 : TyP 18 y18 := ⟨Try.underlying18, Try.t18, by kernel_rfl, rfl, rfl, rfl, rfl, by kernel_rfl, by decide⟩
theorem r18 : FlP 18 y18 := fun h => by cases h
theorem q19 : TyP 19 y19 := ⟨Try.underlying19, Try.t19, by kernel_rfl, rfl, rfl, rfl, rfl, by kernel_rfl, by decide⟩
theorem r19 : FlP 19 y19 := fun h => by cases h
theorem q20 : TyP 20 y20 := ⟨Try.underlying20, Try.t20, by kernel_rfl, rfl, rfl, rfl, rfl, by kernel_rfl, by decide⟩
theorem r20 : FlP 20 y20 := fun h => by cases h
theorem q21 : TyP 21 y21 := ⟨Try.underlying21, Try.t21, by kernel_rfl, rfl, rfl, rfl, rfl, by kernel_rfl, by decide⟩
theorem r21 : FlP 21 y21 := fun h => by cases h
theorem q22 : TyP 22 y22 := ⟨Try.underlying22, Try.t22, by kernel_rfl, rfl, rfl, rfl, rfl, by kernel_rfl, by decide⟩
theorem r22 : FlP 22 y22 := fun h => by cases h
theorem q23 : TyP 23 y23 := ⟨Try.underlying23, Try.t23, by kernel_rfl, rfl, rfl, rfl, rfl, by kernel_rfl, by decide⟩
theorem r23 : FlP 23 y23 := fun h => by cases h
theorem q24 : TyP 24 y24 := ⟨Try.underlying24, Try.t24, by kernel_rfl, rfl, rfl, rfl, rfl, by kernel_rfl, by decide⟩
theorem r24 : FlP 24 y24 := fun h => by cases h
theorem q25 : TyP 25 y25 := ⟨Try.underlying25, Try.t25, by kernel_rfl, rfl, rfl, rfl, rfl, by kernel_rfl, by decide⟩
theorem r25 : FlP 25 y25 := fun h => by cases h
theorem q26 : TyP 26 y26 := ⟨Try.underlying26, Try.t26, by kernel_rfl, rfl, rfl, rfl, rfl, by kernel_rfl, by decide⟩
theorem r26 : FlP 26 y26 := fun h => by cases h
theorem q27 : TyP 27 y27 := ⟨Try.underlying27, Try.t27, by kernel_rfl, rfl, rfl, rfl, rfl, by kernel_rfl, by decide⟩
theorem r27 : FlP 27 y27 := fun h => by cases h
theorem q28 : TyP 28 y28 := ⟨Try.underlying28, Try.t28, by kernel_rfl, rfl, rfl, rfl, rfl, by kernel_rfl, by decide⟩
theorem r28 : FlP 28 y28 := fun h => by cases h
theorem q29 : TyP 29 y29 := ⟨Try.underlying29, Try.t29, by kernel_rfl, rfl, rfl, rfl, rfl, by kernel_rfl, by decide⟩
theorem r29 : FlP 29 y29 := fun h => by cases h
theorem q30 : TyP 30 y30 := ⟨Try.underlying30, Try.t30, by kernel_rfl, rfl, rfl, rfl, rfl, by kernel_rfl, by decide⟩
theorem r30 : FlP 30 y30 := fun h => by cases h
theorem q31 : TyP 31 y31 := ⟨Try.underlying31, Try.t31, by kernel_rfl, rfl, rfl, rfl, rfl, by kernel_rfl, by decide⟩
theorem r31 : FlP 31 y31 := fun h => by cases h
theorem q32 : TyP 32 y32 := ⟨Try.underlying32, Try.t32, by kernel_rfl, rfl, rfl, rfl, rfl, by kernel_rfl, by decide⟩
theorem r32 : FlP 32 y32 := fun h => by cases h
theorem q33 : TyP 33 y33 := ⟨Try.underlying33, Try.t33, by kernel_rfl, rfl, rfl, rfl, rfl, by kernel_rfl, by decide⟩
theorem r33 : FlP 33 y33 := fun h => by cases h
theorem q34 : TyP 34 y34 := ⟨Try.underlying34, Try.t34, by kernel_rfl, rfl, rfl, rfl, rfl, by kernel_rfl, by decide⟩
theorem r34 : FlP 34 y34 := fun h => by cases h
theorem q35 : TyP 35 y35 := ⟨Try.underlying35, Try.t35, by kernel_rfl, rfl, rfl, rfl, rfl, by kernel_rfl, by decide⟩
theorem r35 : FlP 35 y35 := fun h => by cases h
theorem q36 : TyP 36 y36 := ⟨Try.underlying36, Try.t36, by kernel_rfl, rfl, rfl, rfl, rfl, by kernel_rfl, by decide⟩
theorem r36 : FlP 36 y36 := fun h => by cases h
theorem q37 : TyP 37 y37 := ⟨Try.underlying37, Try.t37, by kernel_rfl, rfl, rfl, rfl, rfl, by kernel_rfl, by decide⟩
theorem r37 : FlP 37 y37 := fun h => by cases h
theorem q38 : TyP 38 y38 := ⟨Try.underlying38, Try.t38, by kernel_rfl, rfl, rfl, rfl, rfl, by kernel_rfl, by decide⟩
theorem r38 : FlP 38 y38 := fun h => by cases h
theorem q39 : TyP 39 y39 := ⟨Try.underlying39, Try.t39, by kernel_rfl, rfl, rfl, rfl, rfl, by kernel_rfl, by decide⟩
theorem r39 : FlP 39 y39 := fun h => by cases h
theorem q40 : TyP 40 y40 := ⟨Try.underlying40, Try.t40, by kernel_rfl, rfl, rfl, rfl, rfl, by kernel_rfl, by decide⟩
theorem r40 : FlP 40 y40 := fun h => by cases h
theorem q41 : TyP 41 y41 := ⟨Try.underlying41, Try.t41, by kernel_rfl, rfl, rfl, rfl, rfl, by kernel_rfl, by decide⟩
theorem r41 : FlP 41 y41 := fun h => by cases h
theorem q42 : TyP 42 y42 := ⟨Try.underlying42, Try.t42, by kernel_rfl, rfl, rfl, rfl, rfl, by kernel_rfl, by decide⟩
theorem r42 : FlP 42 y42 := fun h => by cases h
theorem q43 : TyP 43 y43 := ⟨Try.underlying43, Try.t43, by kernel_rfl, rfl, rfl, rfl, rfl, by kernel_rfl, by decide⟩
theorem r43 : FlP 43 y43 := fun h => by cases h
theorem q44 : TyP 44 y44 := ⟨Try.underlying44, Try.t44, by kernel_rfl, rfl, rfl, rfl, rfl, by kernel_rfl, by decide⟩
theorem r44 : FlP 44 y44 := fun h => by cases h
theorem q45 : TyP 45 y45 := ⟨Try.underlying45, Try.t45, by kernel_rfl, rfl, rfl, rfl, rfl, by kernel_rfl, by decide⟩
theorem r45 : FlP 45 y45 := fun h => by cases h
theorem q46 : TyP 46 y46 := ⟨Try.underlying46, Try.t46, by kernel_rfl, rfl, rfl, rfl, rfl, by kernel_rfl, by decide⟩
theorem r46 : FlP 46 y46 := fun h => by cases h
theorem q47 : TyP 47 y47 := ⟨Try.underlying47, Try.t47, by kernel_rfl, rfl, rfl, rfl, rfl, by kernel_rfl, by decide⟩
theorem r47 : FlP 47 y47 := fun h => by cases h
theorem q48 : TyP 48 y48 := ⟨Try.underlying48, Try.t48, by kernel_rfl, rfl, rfl, rfl, rfl, by kernel_rfl, by decide⟩
theorem r48 : FlP 48 y48 := fun h => by cases h
theorem q49 : TyP 49 y49 := ⟨Try.underlying49, Try.t49, by kernel_rfl, rfl, rfl, rfl, rfl, by kernel_rfl, by decide⟩
theorem r49 : FlP 49 y49 := fun h => by cases h
theorem q50 : TyP 50 y50 := ⟨Try.underlying50, Try.t50, by kernel_rfl, rfl, rfl, rfl, rfl, by kernel_rfl, by decide⟩
theorem r50 : FlP 50 y50 := fun h => by cases h
theorem q51 : TyP 51 y51 := ⟨Try.underlying51, Try.t51, by kernel_rfl, rfl, rfl, rfl, rfl, by kernel_rfl, by decide⟩
theorem r51 : FlP 51 y51 := fun h => by cases h
theorem q52 : TyP 52 y52 := ⟨Try.underlying52, Try.t52, by kernel_rfl, rfl, rfl, rfl, rfl, by kernel_rfl, by decide⟩
theorem r52 : FlP 52 y52 := fun h => by cases h
theorem q53 : TyP 53 y53 := ⟨Try.underlying53, Try.t53, by kernel_rfl, rfl, rfl, rfl, rfl, by kernel_rfl, by decide⟩
theorem r53 : FlP 53 y53 := fun h => by cases h
theorem q54 : TyP 54 y54 := ⟨Try.underlying54, Try.t54, by kernel_rfl, rfl, rfl, rfl, rfl, by kernel_rfl, by decide⟩
theorem r54 : FlP 54 y54 := fun h => by cases h
theorem q55 : TyP 55 y55 := ⟨Try.underlying55, Try.t55, by kernel_rfl, rfl, rfl, rfl, rfl, by kernel_rfl, by decide⟩
theorem r55 : FlP 55 y55 := fun h => by cases h
theorem q56 : TyP 56 y56 := ⟨Try.underlying56, Try.t56, by kernel_rfl, rfl, rfl, rfl, rfl, by kernel_rfl, by decide⟩
theorem r56 : FlP 56 y56 := fun h => by cases h
theorem q57 : TyP 57 y57 := ⟨Try.underlying57, Try.t57, by kernel_rfl, rfl, rfl, rfl, rfl, by kernel_rfl, by decide⟩
theorem r57 : FlP 57 y57 := fun h => by cases h
theorem q58 : TyP 58 y58 := ⟨Try.underlying58, Try.t58, by kernel_rfl, rfl, rfl, rfl, rfl, by kernel_rfl, by decide⟩
theorem r58 : FlP 58 y58 := fun h => by cases h
theorem q59 : TyP 59 y59 := ⟨Try.underlying59, Try.t59, by kernel_rfl, rfl, rfl, rfl, rfl, by kernel_rfl, by decide⟩
theorem r59 : FlP 59 y59 := fun h => by cases h
theorem q60 : TyP 60 y60 := ⟨Try.underlying60, Try.t60, by kernel_rfl, rfl, rfl, rfl, rfl, by kernel_rfl, by decide⟩
theorem r60 : FlP 60 y60 := fun h => by cases h
theorem q61 : TyP 61 y61 := ⟨Try.underlying61, Try.t61, by kernel_rfl, rfl, rfl, rfl, rfl, by kernel_rfl, by decide⟩
theorem r61 : FlP 61 y61 := fun h => by cases h
theorem q62 : TyP 62 y62 := ⟨Try.underlying62, Try.t62, by kernel_rfl, rfl, rfl, rfl, rfl, by kernel_rfl, by decide⟩
theorem r62 : FlP 62 y62 := fun h => by cases h
theorem q63 : TyP 63 y63 := ⟨Try.underlying63, Try.t63, by kernel_rfl, rfl, rfl, rfl, rfl, by kernel_rfl, by decide⟩
theorem r63 : FlP 63 y63 := fun h => by cases h
theorem q64 : TyP 64 y64 := ⟨Try.underlying64, Try.t64, by kernel_rfl, rfl, rfl, rfl, rfl, by kernel_rfl, by decide⟩
theorem r64 : FlP 64 y64 := fun h => by cases h
theorem q65 : TyP 65 y65 := ⟨Try.underlying65, Try.t65, by kernel_rfl, rfl, rfl, rfl, rfl, by kernel_rfl, by decide⟩
theorem r65 : FlP 65 y65 := fun h => by cases h
theorem q66 : TyP 66 y66 := ⟨Try.underlying66, Try.t66, by kernel_rfl, rfl, rfl, rfl, rfl, by kernel_rfl, by decide⟩
theorem r66 : FlP 66 y66 := fun h => by cases h
theorem q67 : TyP 67 y67 := ⟨Try.underlying67, Try.t67, by kernel_rfl, rfl, rfl, rfl, rfl, by kernel_rfl, by decide⟩
theorem r67 : FlP 67 y67 := fun _ xs ys b hl hb w => flat_struct5 Try.underlying67 Try.underlying3 ⟨rfl, rfl, rfl, rfl, rfl⟩ ⟨rfl, rfl, rfl, rfl, rfl⟩ (by decide +kernel) (by kernel_rfl) xs ys b hl (cellsEq_ints _ _ _ _ (by kernel_rfl) hb) w (by kernel_rfl)
theorem q68 : TyP 68 y68 := ⟨Try.underlying68, Try.t68, by kernel_rfl, rfl, rfl, rfl, rfl, by kernel_rfl, by decide⟩
theorem r68 : FlP 68 y68 := fun h => by cases h
theorem q69 : TyP 69 y69 := ⟨Try.underlying69, Try.t69, by kernel_rfl, rfl, rfl, rfl, rfl, by kernel_rfl, by decide⟩
theorem r69 : FlP 69 y69 := fun h => by cases h
theorem q70 : TyP 70 y70 := ⟨Try.underlying70, Try.t70, by kernel_rfl, rfl, rfl, rfl, rfl, by kernel_rfl, by decide⟩
theorem r70 : FlP 70 y70 := fun h => by cases h
theorem q71 : TyP 71 y71 := ⟨Try.underlying71, Try.t71, by kernel_rfl, rfl, rfl, rfl, rfl, by kernel_rfl, by decide⟩
theorem r71 : FlP 71 y71 := fun h => by cases h
theorem q72 : TyP 72 y72 := ⟨Try.underlying72, Try.t72, by kernel_rfl, rfl, rfl, rfl, rfl, by kernel_rfl, by decide⟩
theorem r72 : FlP 72 y72 := fun _ xs ys b hl hb w => flat_struct3s Try.underlying72 Try.underlying3 Try.underlying9 ⟨rfl, rfl, rfl, rfl⟩ ⟨rfl, rfl, rfl, rfl⟩ (by decide +kernel) (by kernel_rfl) (by kernel_rfl) (by kernel_rfl) (by kernel_rfl) ⟨_, rfl⟩ xs ys b hb w (by kernel_rfl)
theorem q73 : TyP 73 y73 := ⟨Try.underlying73, Try.t73, by kernel_rfl, rfl, rfl, rfl, rfl, by kernel_rfl, by decide⟩
theorem r73 : FlP 73 y73 := fun h => by cases h
theorem q74 : TyP 74 y74 := ⟨Try.underlying74, Try.t74, by kernel_rfl, rfl, rfl, rfl, rfl, by kernel_rfl, by decide⟩
theorem r74 : FlP 74 y74 := fun h => by cases h
theorem q75 : TyP 75 y75 := ⟨Try.underlying75, Try.t75, by kernel_rfl, rfl, rfl, rfl, rfl, by kernel_rfl, by decide⟩
theorem r75 : FlP 75 y75 := fun h => by cases h
theorem q76 : TyP 76 y76 := ⟨Try.underlying76, Try.t76, by kernel_rfl, rfl, rfl, rfl, rfl, by kernel_rfl, by decide⟩
theorem r76 : FlP 76 y76 := fun h => by cases h
theorem q77 : TyP 77 y77 := ⟨Try.underlying77, Try.t77, by kernel_rfl, rfl, rfl, rfl, rfl, by kernel_rfl, by decide⟩
theorem r77 : FlP 77 y77 := fun h => by cases h
theorem q78 : TyP 78 y78 := ⟨Try.underlying78, Try.t78, by kernel_rfl, rfl, rfl, rfl, rfl, by kernel_rfl, by decide⟩
theorem r78 : FlP 78 y78 := fun h => by cases h
theorem q79 : TyP 79 y79 := ⟨Try.underlying79, Try.t79, by kernel_rfl, rfl, rfl, rfl, rfl, by kernel_rfl, by decide⟩
theorem r79 : FlP 79 y79 := fun h => by cases h
theorem q80 : TyP 80 y80 := ⟨Try.underlying80, Try.t80, by kernel_rfl, rfl, rfl, rfl, rfl, by kernel_rfl, by decide⟩
theorem r80 : FlP 80 y80 := fun h => by cases h
theorem q81 : TyP 81 y81 := ⟨Try.underlying81, Try.t81, by kernel_rfl, rfl, rfl, rfl, rfl, by kernel_rfl, by decide⟩
theorem r81 : FlP 81 y81 := fun h => by cases h
theorem q82 : TyP 82 y82 := ⟨Try.underlying82, Try.t82, by kernel_rfl, rfl, rfl, rfl, rfl, by kernel_rfl, by decide⟩
theorem r82 : FlP 82 y82 := fun h => by cases h
theorem q83 : TyP 83 y83 := ⟨Try.underlying83, Try.t83, by kernel_rfl, rfl, rfl, rfl, rfl, by kernel_rfl, by decide⟩
theorem r83 : FlP 83 y83 := fun h => by cases h
theorem q84 : TyP 84 y84 := ⟨Try.underlying84, Try.t84, by kernel_rfl, rfl, rfl, rfl, rfl, by kernel_rfl, by decide⟩
theorem r84 : FlP 84 y84 := fun h => by cases h
theorem q85 : TyP 85 y85 := ⟨Try.underlying85, Try.t85, by kernel_rfl, rfl, rfl, rfl, rfl, by kernel_rfl, by decide⟩
theorem r85 : FlP 85 y85 := fun h => by cases h
theorem q86 : TyP 86 y86 := ⟨Try.underlying86, Try.t86, by kernel_rfl, rfl, rfl, rfl, rfl, by kernel_rfl, by decide⟩
theorem r86 : FlP 86 y86 := fun h => by cases h
theorem q87 : TyP 87 y87 := ⟨Try.underlying87, Try.t87, by kernel_rfl, rfl, rfl, rfl, rfl, by kernel_rfl, by decide⟩
theorem r87 : FlP 87 y87 := fun h => by cases h
theorem q88 : TyP 88 y88 := ⟨Try.underlying88, Try.t88, by kernel_rfl, rfl, rfl, rfl, rfl, by kernel_rfl, by decide⟩
theorem r88 : FlP 88 y88 := fun h => by cases h
theorem q89 : TyP 89 y89 := ⟨Try.underlying89, Try.t89, by kernel_rfl, rfl, rfl, rfl, rfl, by kernel_rfl, by decide⟩
theorem r89 : FlP 89 y89 := fun h => by cases h
theorem q90 : TyP 90 y90 := ⟨Try.underlying90, Try.t90, by kernel_rfl, rfl, rfl, rfl, rfl, by kernel_rfl, by decide⟩
theorem r90 : FlP 90 y90 := fun h => by cases h
theorem q91 : TyP 91 y91 := ⟨Try.underlying91, Try.t91, by kernel_rfl, rfl, rfl, rfl, rfl, by kernel_rfl, by decide⟩
theorem r91 : FlP 91 y91 := fun h => by cases h
theorem q92 : TyP 92 y92 := ⟨Try.underlying92, Try.t92, by kernel_rfl, rfl, rfl, rfl, rfl, by kernel_rfl, by decide⟩
theorem r92 : FlP 92 y92 := fun h => by cases h
theorem q93 : TyP 93 y93 := ⟨Try.underlying93, Try.t93, by kernel_rfl, rfl, rfl, rfl, rfl, by kernel_rfl, by decide⟩
theorem r93 : FlP 93 y93 := fun _ xs ys b hl hb w => flat_struct2 Try.underlying93 Try.underlying3 ⟨rfl, rfl⟩ ⟨rfl, rfl⟩ (by decide +kernel) (by kernel_rfl) xs ys b hl (cellsEq_ints _ _ _ _ (by kernel_rfl) hb) w (by kernel_rfl)
theorem q94 : TyP 94 y94 := ⟨Try.underlying94, Try.t94, by kernel_rfl, rfl, rfl, rfl, rfl, by kernel_rfl, by decide⟩
theorem r94 : FlP 94 y94 := fun h => by cases h
theorem q95 : TyP 95 y95 := ⟨Try.underlying95, Try.t95, by kernel_rfl, rfl, rfl, rfl, rfl, by kernel_rfl, by decide⟩
theorem r95 : FlP 95 y95 := fun h => by cases h
theorem q96 : TyP 96 y96 := ⟨Try.underlying96, Try.t96, by kernel_rfl, rfl, rfl, rfl, rfl, by kernel_rfl, by decide⟩
theorem r96 : FlP 96 y96 := fun h => by cases h
theorem q97 : TyP 97 y97 := ⟨Try.underlying97, Try.t97, by kernel_rfl, rfl, rfl, rfl, rfl, by kernel_rfl, by decide⟩
theorem r97 : FlP 97 y97 := fun h => by cases h
theorem q98 : TyP 98 y98 := ⟨Try.underlying98, Try.t98, by kernel_rfl, rfl, rfl, rfl, rfl, by kernel_rfl, by decide⟩
theorem r98 : FlP 98 y98 := fun h => by cases h
theorem q99 : TyP 99 y99 := ⟨Try.underlying99, Try.t99, by kernel_rfl, rfl, rfl, rfl, rfl, by kernel_rfl, by decide⟩
theorem r99 : FlP 99 y99 := fun h => by cases h
theorem q100 : TyP 100 y100 := ⟨Try.underlying100, Try.t100, by kernel_rfl, rfl, rfl, rfl, rfl, by kernel_rfl, by decide⟩
theorem r100 : FlP 100 y100 := fun _ xs ys b hl hb w => flat_array2 Try.underlying100 Try.underlying3 (inf := Try.t3) (by kernel_rfl) rfl xs ys b hl (cellsEq_ints _ _ _ _ (by kernel_rfl) hb) w (by kernel_rfl)
theorem q101 : TyP 101 y101 := ⟨Try.underlying101, Try.t101, by kernel_rfl, rfl, rfl, rfl, rfl, by kernel_rfl, by decide⟩
theorem r101 : FlP 101 y101 := fun h => by cases h
theorem q102 : TyP 102 y102 := ⟨Try.underlying102, Try.t102, by kernel_rfl, rfl, rfl, rfl, rfl, by kernel_rfl, by decide⟩
theorem r102 : FlP 102 y102 := fun h => by cases h
theorem q103 : TyP 103 y103 := ⟨Try.underlying103, Try.t103, by kernel_rfl, rfl, rfl, rfl, rfl, by kernel_rfl, by decide⟩
theorem r103 : FlP 103 y103 := fun h => by cases h
theorem q104 : TyP 104 y104 := ⟨Try.underlying104, Try.t104, by kernel_rfl, rfl, rfl, rfl, rfl, by kernel_rfl, by decide⟩
theorem r104 : FlP 104 y104 := fun h => by cases h
theorem q105 : TyP 105 y105 := ⟨Try.underlying105, Try.t105, by kernel_rfl, rfl, rfl, rfl, rfl, by kernel_rfl, by decide⟩
theorem r105 : FlP 105 y105 := fun h => by cases h
theorem q106 : TyP 106 y106 := ⟨Try.underlying106, Try.t106, by kernel_rfl, rfl, rfl, rfl, rfl, by kernel_rfl, by decide⟩
theorem r106 : FlP 106 y106 := fun h => by cases h
theorem q107 : TyP 107 y107 := ⟨Try.underlying107, Try.t107, by kernel_rfl, rfl, rfl, rfl, rfl, by kernel_rfl, by decide⟩
theorem r107 : FlP 107 y107 := fun h => by cases h
theorem q108 : TyP 108 y108 := ⟨Try.underlying108, Try.t108, by kernel_rfl, rfl, rfl, rfl, rfl, by kernel_rfl, by decide⟩
theorem r108 : FlP 108 y108 := fun h => by cases h
theorem q109 : TyP 109 y109 := ⟨Try.underlying109, Try.t109, by kernel_rfl, rfl, rfl, rfl, rfl, by kernel_rfl, by decide⟩
theorem r109 : FlP 109 y109 := fun h => by cases h
theorem q110 : TyP 110 y110 := ⟨Try.underlying110, Try.t110, by kernel_rfl, rfl, rfl, rfl, rfl, by kernel_rfl, by decide⟩
theorem r110 : FlP 110 y110 := fun h => by cases h
theorem q111 : TyP 111 y111 := ⟨Try.underlying111, Try.t111, by kernel_rfl, rfl, rfl, rfl, rfl, by kernel_rfl, by decide⟩
theorem r111 : FlP 111 y111 := fun h => by cases h
theorem q112 : TyP 112 y112 := ⟨Try.underlying112, Try.t112, by kernel_rfl, rfl, rfl, rfl, rfl, by kernel_rfl, by decide⟩
theorem r112 : FlP 112 y112 := fun h => by cases h
theorem q113 : TyP 113 y113 := ⟨Try.underlying113, Try.t113, by kernel_rfl, rfl, rfl, rfl, rfl, by kernel_rfl, by decide⟩
theorem r113 : FlP 113 y113 := fun h => by cases h
theorem q114 : TyP 114 y114 := ⟨Try.underlying114, Try.t114, by kernel_rfl, rfl, rfl, rfl, rfl, by kernel_rfl, by decide⟩
theorem r114 : FlP 114 y114 := fun h => by cases h
theorem q115 : TyP 115 y115 := ⟨Try.underlying115, Try.t115, by kernel_rfl, rfl, rfl, rfl, rfl, by kernel_rfl, by decide⟩
theorem r115 : FlP 115 y115 := fun h => by cases h
theorem q116 : TyP 116 y116 := ⟨Try.underlying116, Try.t116, by kernel_rfl, rfl, rfl, rfl, rfl, by kernel_rfl, by decide⟩
theorem r116 : FlP 116 y116 := fun h => by cases h
theorem q117 : TyP 117 y117 := ⟨Try.underlying117, Try.t117, by kernel_rfl, rfl, rfl, rfl, rfl, by kernel_rfl, by decide⟩
theorem r117 : FlP 117 y117 := fun h => by cases h
theorem q118 : TyP 118 y118 := ⟨Try.underlying118, Try.t118, by kernel_rfl, rfl, rfl, rfl, rfl, by kernel_rfl, by decide⟩
theorem r118 : FlP 118 y118 := fun h => by cases h
theorem q119 : TyP 119 y119 := ⟨Try.underlying119, Try.t119, by kernel_rfl, rfl, rfl, rfl, rfl, by kernel_rfl, by decide⟩
theorem r119 : FlP 119 y119 := fun h => by cases h
theorem q120 : TyP 120 y120 := ⟨Try.underlying120, Try.t120, by kernel_rfl, rfl, rfl, rfl, rfl, by kernel_rfl, by decide⟩
theorem r120 : FlP 120 y120 := fun h => by cases h
theorem q121 : TyP 121 y121 := ⟨Try.underlying121, Try.t121, by kernel_rfl, rfl, rfl, rfl, rfl, by kernel_rfl, by decide⟩
theorem r121 : FlP 121 y121 := fun h => by cases h
theorem q122 : TyP 122 y122 := ⟨Try.underlying122, Try.t122, by kernel_rfl, rfl, rfl, rfl, rfl, by kernel_rfl, by decide⟩
theorem r122 : FlP 122 y122 := fun h => by cases h
theorem q123 : TyP 123 y123 := ⟨Try.underlying123, Try.t123, by kernel_rfl, rfl, rfl, rfl, rfl, by kernel_rfl, by decide⟩
theorem r123 : FlP 123 y123 := fun h => by cases h
theorem q124 : TyP 124 y124 := ⟨Try.underlying124, Try.t124, by kernel_rfl, rfl, rfl, rfl, rfl, by kernel_rfl, by decide⟩
theorem r124 : FlP 124 y124 := fun h => by cases h
theorem q125 : TyP 125 y125 := ⟨Try.underlying125, Try.t125, by kernel_rfl, rfl, rfl, rfl, rfl, by kernel_rfl, by decide⟩
theorem r125 : FlP 125 y125 := fun h => by cases h
theorem q126 : TyP 126 y126 := ⟨Try.underlying126, Try.t126, by kernel_rfl, rfl, rfl, rfl, rfl, by kernel_rfl, by decide⟩
theorem r126 : FlP 126 y126 := fun h => by cases h
theorem q127 : TyP 127 y127 := ⟨Try.underlying127, Try.t127, by kernel_rfl, rfl, rfl, rfl, rfl, by kernel_rfl, by decide⟩
theorem r127 : FlP 127 y127 := fun h => by cases h
theorem q128 : TyP 128 y128 := ⟨Try.underlying128, Try.t128, by kernel_rfl, rfl, rfl, rfl, rfl, by kernel_rfl, by decide⟩
theorem r128 : FlP 128 y128 := fun h => by cases h
theorem q129 : TyP 129 y129 := ⟨Try.underlying129, Try.t129, by kernel_rfl, rfl, rfl, rfl, rfl, by kernel_rfl, by decide⟩
theorem r129 : FlP 129 y129 := fun h => by cases h
theorem q130 : TyP 130 y130 := ⟨Try.underlying130, Try.t130, by kernel_rfl, rfl, rfl, rfl, rfl, by kernel_rfl, by decide⟩
theorem r130 : FlP 130 y130 := fun h => by cases h
theorem q131 : TyP 131 y131 := ⟨Try.underlying131, Try.t131, by kernel_rfl, rfl, rfl, rfl, rfl, by kernel_rfl, by decide⟩
theorem r131 : FlP 131 y131 := fun h => by cases h
theorem q132 : TyP 132 y132 := ⟨Try.underlying132, Try.t132, by kernel_rfl, rfl, rfl, rfl, rfl, by kernel_rfl, by decide⟩
theorem r132 : FlP 132 y132 := fun h => by cases h
theorem q133 : TyP 133 y133 := ⟨Try.underlying133, Try.t133, by kernel_rfl, rfl, rfl, rfl, rfl, by kernel_rfl, by decide⟩
theorem r133 : FlP 133 y133 := fun h => by cases h
theorem q134 : TyP 134 y134 := ⟨Try.underlying134, Try.t134, by kernel_rfl, rfl, rfl, rfl, rfl, by kernel_rfl, by decide⟩
theorem r134 : FlP 134 y134 := fun h => by cases h
theorem q135 : TyP 135 y135 := ⟨Try.underlying135, Try.t135, by kernel_rfl, rfl, rfl, rfl, rfl, by kernel_rfl, by decide⟩
theorem r135 : FlP 135 y135 := fun h => by cases h
theorem q136 : TyP 136 y136 := ⟨Try.underlying136, Try.t136, by kernel_rfl, rfl, rfl, rfl, rfl, by kernel_rfl, by decide⟩
theorem r136 : FlP 136 y136 := fun h => by cases h
theorem q137 : TyP 137 y137 := ⟨Try.underlying137, Try.t137, by kernel_rfl, rfl, rfl, rfl, rfl, by kernel_rfl, by decide⟩
theorem r137 : FlP 137 y137 := fun h => by cases h
theorem q138 : TyP 138 y138 := ⟨Try.underlying138, Try.t138, by kernel_rfl, rfl, rfl, rfl, rfl, by kernel_rfl, by decide⟩
theorem r138 : FlP 138 y138 := fun h => by cases h
theorem q139 : TyP 139 y139 := ⟨Try.underlying139, Try.t139, by kernel_rfl, rfl, rfl, rfl, rfl, by kernel_rfl, by decide⟩
theorem r139 : FlP 139 y139 := fun h => by cases h
theorem q140 : TyP 140 y140 := ⟨Try.underlying140, Try.t140, by kernel_rfl, rfl, rfl, rfl, rfl, by kernel_rfl, by decide⟩
theorem r140 : FlP 140 y140 := fun h => by cases h
theorem q141 : TyP 141 y141 := ⟨Try.underlying141, Try.t141, by kernel_rfl, rfl, rfl, rfl, rfl, by kernel_rfl, by decide⟩
theorem r141 : FlP 141 y141 := fun h => by cases h
theorem q142 : TyP 142 y142 := ⟨Try.underlying142, Try.t142, by kernel_rfl, rfl, rfl, rfl, rfl, by kernel_rfl, by decide⟩
theorem r142 : FlP 142 y142 := fun h => by cases h
theorem q143 : TyP 143 y143 := ⟨Try.underlying143, Try.t143, by kernel_rfl, rfl, rfl, rfl, rfl, by kernel_rfl, by decide⟩
theorem r143 : FlP 143 y143 := fun h => by cases h
theorem q144 : TyP 144 y144 := ⟨Try.underlying144, Try.t144, by kernel_rfl, rfl, rfl, rfl, rfl, by kernel_rfl, by decide⟩
theorem r144 : FlP 144 y144 := fun h => by cases h
theorem q145 : TyP 145 y145 := ⟨Try.underlying145, Try.t145, by kernel_rfl, rfl, rfl, rfl, rfl, by kernel_rfl, by decide⟩
theorem r145 : FlP 145 y145 := fun h => by cases h
theorem q146 : TyP 146 y146 := ⟨Try.underlying146, Try.t146, by kernel_rfl, rfl, rfl, rfl, rfl, by kernel_rfl, by decide⟩
theorem r146 : FlP 146 y146 := fun h => by cases h
theorem q147 : TyP 147 y147 := ⟨Try.underlying147, Try.t147, by kernel_rfl, rfl, rfl, rfl, rfl, by kernel_rfl, by decide⟩
theorem r147 : FlP 147 y147 := fun h => by cases h
theorem q148 : TyP 148 y148 := ⟨Try.underlying148, Try.t148, by kernel_rfl, rfl, rfl, rfl, rfl, by kernel_rfl, by decide⟩
theorem r148 : FlP 148 y148 := fun h => by cases h
theorem q149 : TyP 149 y149 := ⟨Try.underlying149, Try.t149, by kernel_rfl, rfl, rfl, rfl, rfl, by kernel_rfl, by decide⟩
theorem r149 : FlP 149 y149 := fun h => by cases h
theorem q150 : TyP 150 y150 := ⟨Try.underlying150, Try.t150, by kernel_rfl, rfl, rfl, rfl, rfl, by kernel_rfl, by decide⟩
theorem r150 : FlP 150 y150 := fun h => by cases h
theorem q151 : TyP 151 y151 := ⟨Try.underlying151, Try.t151, by kernel_rfl, rfl, rfl, rfl, rfl, by kernel_rfl, by decide⟩
theorem r151 : FlP 151 y151 := fun h => by cases h
theorem q152 : TyP 152 y152 := ⟨Try.underlying152, Try.t152, by kernel_rfl, rfl, rfl, rfl, rfl, by kernel_rfl, by decide⟩
theorem r152 : FlP 152 y152 := fun h => by cases h
theorem q153 : TyP 153 y153 := ⟨Try.underlying153, Try.t153, by kernel_rfl, rfl, rfl, rfl, rfl, by kernel_rfl, by decide⟩
theorem r153 : FlP 153 y153 := fun h => by cases h
theorem q154 : TyP 154 y154 := ⟨Try.underlying154, Try.t154, by kernel_rfl, rfl, rfl, rfl, rfl, by kernel_rfl, by decide⟩
theorem r154 : FlP 154 y154 := fun h => by cases h
theorem q155 : TyP 155 y155 := ⟨Try.underlying155, Try.t155, by kernel_rfl, rfl, rfl, rfl, rfl, by kernel_rfl, by decide⟩
theorem r155 : FlP 155 y155 := fun h => by cases h
theorem q156 : TyP 156 y156 := ⟨Try.underlying156, Try.t156, by kernel_rfl, rfl, rfl, rfl, rfl, by kernel_rfl, by decide⟩
theorem r156 : FlP 156 y156 := fun h => by cases h
theorem q157 : TyP 157 y157 := ⟨Try.underlying157, Try.t157, by kernel_rfl, rfl, rfl, rfl, rfl, by kernel_rfl, by decide⟩
theorem r157 : FlP 157 y157 := fun h => by cases h
theorem q158 : TyP 158 y158 := ⟨Try.underlying158, Try.t158, by kernel_rfl, rfl, rfl, rfl, rfl, by kernel_rfl, by decide⟩
theorem r158 : FlP 158 y158 := fun h => by cases h
theorem q159 : TyP 159 y159 := ⟨Try.underlying159, Try.t159, by kernel_rfl, rfl, rfl, rfl, rfl, by kernel_rfl, by decide⟩
theorem r159 : FlP 159 y159 := fun h => by cases h
theorem q160 : TyP 160 y160 := ⟨Try.underlying160, Try.t160, by kernel_rfl, rfl, rfl, rfl, rfl, by kernel_rfl, by decide⟩
theorem r160 : FlP 160 y160 := fun h => by cases h
theorem q161 : TyP 161 y161 := ⟨Try.underlying161, Try.t161, by kernel_rfl, rfl, rfl, rfl, rfl, by kernel_rfl, by decide⟩
theorem r161 : FlP 161 y161 := fun h => by cases h
theorem q162 : TyP 162 y162 := ⟨Try.underlying162, Try.t162, by kernel_rfl, rfl, rfl, rfl, rfl, by kernel_rfl, by decide⟩
theorem r162 : FlP 162 y162 := fun h => by cases h
theorem q163 : TyP 163 y163 := ⟨Try.underlying163, Try.t163, by kernel_rfl, rfl, rfl, rfl, rfl, by kernel_rfl, by decide⟩
theorem r163 : FlP 163 y163 := fun h => by cases h
theorem q164 : TyP 164 y164 := ⟨Try.underlying164, Try.t164, by kernel_rfl, rfl, rfl, rfl, rfl, by kernel_rfl, by decide⟩
theorem r164 : FlP 164 y164 := fun h => by cases h
theorem q165 : TyP 165 y165 := ⟨Try.underlying165, Try.t165, by kernel_rfl, rfl, rfl, rfl, rfl, by kernel_rfl, by decide⟩
theorem r165 : FlP 165 y165 := fun h => by cases h
theorem q166 : TyP 166 y166 := ⟨Try.underlying166, Try.t166, by kernel_rfl, rfl, rfl, rfl, rfl, by kernel_rfl, by decide⟩
theorem r166 : FlP 166 y166 := fun h => by cases h
theorem q167 : TyP 167 y167 := ⟨Try.underlying167, Try.t167, by kernel_rfl, rfl, rfl, rfl, rfl, by kernel_rfl, by decide⟩
theorem r167 : FlP 167 y167 := fun h => by cases h
theorem q168 : TyP 168 y168 := ⟨Try.underlying168, Try.t168, by kernel_rfl, rfl, rfl, rfl, rfl, by kernel_rfl, by decide⟩
theorem r168 : FlP 168 y168 := fun h => by cases h
theorem q169 : TyP 169 y169 := ⟨Try.underlying169, Try.t169, by kernel_rfl, rfl, rfl, rfl, rfl, by kernel_rfl, by decide⟩
theorem r169 : FlP 169 y169 := fun h => by cases h
theorem q170 : TyP 170 y170 := ⟨Try.underlying170, Try.t170, by kernel_rfl, rfl, rfl, rfl, rfl, by kernel_rfl, by decide⟩
theorem r170 : FlP 170 y170 := fun h => by cases h
theorem q171 : TyP 171 y171 := ⟨Try.underlying171, Try.t171, by kernel_rfl, rfl, rfl, rfl, rfl, by kernel_rfl, by decide⟩
theorem r171 : FlP 171 y171 := fun h => by cases h
theorem q172 : TyP 172 y172 := ⟨Try.underlying172, Try.t172, by kernel_rfl, rfl, rfl, rfl, rfl, by kernel_rfl, by decide⟩
theorem r172 : FlP 172 y172 := fun h => by cases h
theorem q173 : TyP 173 y173 := ⟨Try.underlying173, Try.t173, by kernel_rfl, rfl, rfl, rfl, rfl, by kernel_rfl, by decide⟩
theorem r173 : FlP 173 y173 := fun h => by cases h
theorem q174 : TyP 174 y174 := ⟨Try.underlying174, Try.t174, by kernel_rfl, rfl, rfl, rfl, rfl, by kernel_rfl, by decide⟩
theorem r174 : FlP 174 y174 := fun h => by cases h
theorem q175 : TyP 175 y175 := ⟨Try.underlying175, Try.t175, by kernel_rfl, rfl, rfl, rfl, rfl, by kernel_rfl, by decide⟩
theorem r175 : FlP 175 y175 := fun h => by cases h
theorem q176 : TyP 176 y176 := ⟨Try.underlying176, Try.t176, by kernel_rfl, rfl, rfl, rfl, rfl, by kernel_rfl, by decide⟩
theorem r176 : FlP 176 y176 := fun h => by cases h
theorem q177 : TyP 177 y177 := ⟨Try.underlying177, Try.t177, by kernel_rfl, rfl, rfl, rfl, rfl, by kernel_rfl, by decide⟩
theorem r177 : FlP 177 y177 := fun h => by cases h
theorem q178 : TyP 178 y178 := ⟨Try.underlying178, Try.t178, by kernel_rfl, rfl, rfl, rfl, rfl, by kernel_rfl, by decide⟩
theorem r178 : FlP 178 y178 := fun h => by cases h
theorem q179 : TyP 179 y179 := ⟨Try.underlying179, Try.t179, by kernel_rfl, rfl, rfl, rfl, rfl, by kernel_rfl, by decide⟩
theorem r179 : FlP 179 y179 := fun h => by cases h
theorem q180 : TyP 180 y180 := ⟨Try.underlying180, Try.t180, by kernel_rfl, rfl, rfl, rfl, rfl, by kernel_rfl, by decide⟩
theorem r180 : FlP 180 y180 := fun h => by cases h
theorem q181 : TyP 181 y181 := ⟨Try.underlying181, Try.t181, by kernel_rfl, rfl, rfl, rfl, rfl, by kernel_rfl, by decide⟩
theorem r181 : FlP 181 y181 := fun h => by cases h
theorem q182 : TyP 182 y182 := ⟨Try.underlying182, Try.t182, by kernel_rfl, rfl, rfl, rfl, rfl, by kernel_rfl, by decide⟩
theorem r182 : FlP 182 y182 := fun h => by cases h
theorem q183 : TyP 183 y183 := ⟨Try.underlying183, Try.t183, by kernel_rfl, rfl, rfl, rfl, rfl, by kernel_rfl, by decide⟩
theorem r183 : FlP 183 y183 := fun h => by cases h
theorem q184 : TyP 184 y184 := ⟨Try.underlying184, Try.t184, by kernel_rfl, rfl, rfl, rfl, rfl, by kernel_rfl, by decide⟩
theorem r184 : FlP 184 y184 := fun h => by cases h
theorem q185 : TyP 185 y185 := ⟨Try.underlying185, Try.t185, by kernel_rfl, rfl, rfl, rfl, rfl, by kernel_rfl, by decide⟩
theorem r185 : FlP 185 y185 := fun h => by cases h
theorem q186 : TyP 186 y186 := ⟨Try.underlying186, Try.t186, by kernel_rfl, rfl, rfl, rfl, rfl, by kernel_rfl, by decide⟩
theorem r186 : FlP 186 y186 := fun h => by cases h
theorem q187 : TyP 187 y187 := ⟨Try.underlying187, Try.t187, by kernel_rfl, rfl, rfl, rfl, rfl, by kernel_rfl, by decide⟩
theorem r187 : FlP 187 y187 := fun h => by cases h
theorem q188 : TyP 188 y188 := ⟨Try.underlying188, Try.t188, by kernel_rfl, rfl, rfl, rfl, rfl, by kernel_rfl, by decide⟩
theorem r188 : FlP 188 y188 := fun h => by cases h
theorem q189 : TyP 189 y189 := ⟨Try.underlying189, Try.t189, by kernel_rfl, rfl, rfl, rfl, rfl, by kernel_rfl, by decide⟩
theorem r189 : FlP 189 y189 := fun h => by cases h
theorem q190 : TyP 190 y190 := ⟨Try.underlying190, Try.t190, by kernel_rfl, rfl, rfl, rfl, rfl, by kernel_rfl, by decide⟩
theorem r190 : FlP 190 y190 := fun h => by cases h
theorem q191 : TyP 191 y191 := ⟨Try.underlying191, Try.t191, by kernel_rfl, rfl, rfl, rfl, rfl, by kernel_rfl, by decide⟩
theorem r191 : FlP 191 y191 := fun h => by cases h
theorem q192 : TyP 192 y192 := ⟨Try.underlying192, Try.t192, by kernel_rfl, rfl, rfl, rfl, rfl, by kernel_rfl, by decide⟩
theorem r192 : FlP 192 y192 := fun h => by cases h
theorem q193 : TyP 193 y193 := ⟨Try.underlying193, Try.t193, by kernel_rfl, rfl, rfl, rfl, rfl, by kernel_rfl, by decide⟩
theorem r193 : FlP 193 y193 := fun h => by cases h
theorem q194 : TyP 194 y194 := ⟨Try.underlying194, Try.t194, by kernel_rfl, rfl, rfl, rfl, rfl, by kernel_rfl, by decide⟩
theorem r194 : FlP 194 y194 := fun h => by cases h
theorem q195 : TyP 195 y195 := ⟨Try.underlying195, Try.t195, by kernel_rfl, rfl, rfl, rfl, rfl, by kernel_rfl, by decide⟩
theorem r195 : FlP 195 y195 := fun h => by cases h
theorem q196 : TyP 196 y196 := ⟨Try.underlying196, Try.t196, by kernel_rfl, rfl, rfl, rfl, rfl, by kernel_rfl, by decide⟩
theorem r196 : FlP 196 y196 := fun h => by cases h
theorem q197 : TyP 197 y197 := ⟨Try.underlying197, Try.t197, by kernel_rfl, rfl, rfl, rfl, rfl, by kernel_rfl, by decide⟩
theorem r197 : FlP 197 y197 := fun h => by cases h
theorem q198 : TyP 198 y198 := ⟨Try.underlying198, Try.t198, by kernel_rfl, rfl, rfl, rfl, rfl, by kernel_rfl, by decide⟩
theorem r198 : FlP 198 y198 := fun h => by cases h
theorem q199 : TyP 199 y199 := ⟨Try.underlying199, Try.t199, by kernel_rfl, rfl, rfl, rfl, rfl, by kernel_rfl, by decide⟩
theorem r199 : FlP 199 y199 := fun h => by cases h
theorem q200 : TyP 200 y200 := ⟨Try.underlying200, Try.t200, by kernel_rfl, rfl, rfl, rfl, rfl, by kernel_rfl, by decide⟩
theorem r200 : FlP 200 y200 := fun h => by cases h
theorem fnOk : ∀ f F, fn.get f = some F → FnP f F := (get_node (fun F h => by simp at h) (get_node (fun F h => by simp at h) (get_node (fun F h => by simp at h) (get_node (fun F h => by simp at h) (get_node (fun F h => by simp at h) (get_node (fun F h => Option.some.inj h ▸ p31) (get_node (fun F h => Option.some.inj h ▸ p63) get_leaf get_leaf) (get_node (fun F h => Option.some.inj h ▸ p95) get_leaf get_leaf)) get_leaf) (get_node (fun F h => by simp at h) (get_node (fun F h => by simp at h) (get_node (fun F h => Option.some.inj h ▸ p71) get_leaf get_leaf) (get_node (fun F h => Option.some.inj h ▸ p103) get_leaf get_leaf)) (get_node (fun F h => Option.some.inj h ▸ p55) (get_node (fun F h => Option.some.inj h ▸ p87) get_leaf get_leaf) get_leaf))) (get_node (fun F h => by simp at h) (get_node (fun F h => by simp at h) (get_node (fun F h => Option.some.inj h ▸ p35) get_leaf (get_node (fun F h => Option.some.inj h ▸ p99) get_leaf get_leaf)) (get_node (fun F h => Option.some.inj h ▸ p51) (get_node (fun F h => Option.some.inj h ▸ p83) get_leaf get_leaf) get_leaf)) (get_node (fun F h => by simp at h) get_leaf (get_node (fun F h => Option.some.inj h ▸ p59) get_leaf get_leaf)))) (get_node (fun F h => by simp at h) (get_node (fun F h => Option.some.inj h ▸ p9) (get_node (fun F h => by simp at h) (get_node (fun F h => Option.some.inj h ▸ p33) (get_node (fun F h => Option.some.inj h ▸ p65) get_leaf get_leaf) (get_node (fun F h => Option.some.inj h ▸ p97) get_leaf get_leaf)) (get_node (fun F h => Option.some.inj h ▸ p49) get_leaf get_leaf)) (get_node (fun F h => Option.some.inj h ▸ p25) get_leaf (get_node (fun F h => Option.some.inj h ▸ p57) get_leaf get_leaf))) (get_node (fun F h => by simp at h) (get_node (fun F h => by simp at h) (get_node (fun F h => by simp at h) (get_node (fun F h => Option.some.inj h ▸ p69) get_leaf get_leaf) get_leaf) (get_node (fun F h => Option.some.inj h ▸ p53) (get_node (fun F h => Option.some.inj h ▸ p85) get_leaf get_leaf) get_leaf)) (get_node (fun F h => Option.some.inj h ▸ p29) get_leaf (get_node (fun F h => Option.some.inj h ▸ p61) get_leaf get_leaf))))) (get_node (fun F h => by simp at h) (get_node (fun F h => by simp at h) (get_node (fun F h => by simp at h) (get_node (fun F h => by simp at h) (get_node (fun F h => Option.some.inj h ▸ p32) (get_node (fun F h => Option.some.inj h ▸ p64) get_leaf get_leaf) (get_node (fun F h => Option.some.inj h ▸ p96) get_leaf get_leaf)) (get_node (fun F h => Option.some.inj h ▸ p48) (get_node (fun F h => Option.some.inj h ▸ p80) get_leaf get_leaf) get_leaf)) (get_node (fun F h => Option.some.inj h ▸ p24) (get_node (fun F h => Option.some.inj h ▸ p40) get_leaf (get_node (fun F h => Option.some.inj h ▸ p104) get_leaf get_leaf)) (get_node (fun F h => Option.some.inj h ▸ p56) (get_node (fun F h => Option.some.inj h ▸ p88) get_leaf get_leaf) get_leaf))) (get_node (fun F h => Option.some.inj h ▸ p12) (get_node (fun F h => by simp at h) (get_node (fun F h => Option.some.inj h ▸ p36) get_leaf get_leaf) (get_node (fun F h => Option.some.inj h ▸ p52) (get_node (fun F h => Option.some.inj h ▸ p84) get_leaf get_leaf) get_leaf)) (get_node (fun F h => Option.some.inj h ▸ p28) get_leaf (get_node (fun F h => Option.some.inj h ▸ p60) get_leaf get_leaf)))) (get_node (fun F h => by simp at h) (get_node (fun F h => by simp at h) (get_node (fun F h => by simp at h) (get_node (fun F h => Option.some.inj h ▸ p34) (get_node (fun F h => Option.some.inj h ▸ p66) get_leaf get_leaf) (get_node (fun F h => Option.some.inj h ▸ p98) get_leaf get_leaf)) (get_node (fun F h => Option.some.inj h ▸ p50) (get_node (fun F h => Option.some.inj h ▸ p82) get_leaf get_leaf) get_leaf)) (get_node (fun F h => by simp at h) get_leaf (get_node (fun F h => Option.some.inj h ▸ p58) get_leaf get_leaf))) (get_node (fun F h => Option.some.inj h ▸ p14) (get_node (fun F h => by simp at h) (get_node (fun F h => Option.some.inj h ▸ p38) (get_node (fun F h => Option.some.inj h ▸ p70) get_leaf get_leaf) get_leaf) (get_node (fun F h => Option.some.inj h ▸ p54) (get_node (fun F h => Option.some.inj h ▸ p86) get_leaf get_leaf) get_leaf)) (get_node (fun F h => Option.some.inj h ▸ p30) get_leaf (get_node (fun F h => Option.some.inj h ▸ p62) get_leaf get_leaf))))))
theorem tyOk : ∀ t i, ty.get t = some i → TyP t i := (get_node (fun F h => Option.some.inj h ▸ q0) (get_node (fun F h => Option.some.inj h ▸ q1) (get_node (fun F h => Option.some.inj h ▸ q3) (get_node (fun F h => Option.some.inj h ▸ q7) (get_node (fun F h => Option.some.inj h ▸ q15) (get_node (fun F h => Option.some.inj h ▸ q31) (get_node (fun F h => Option.some.inj h ▸ q63) (get_node (fun F h => Option.some.inj h ▸ q127) get_leaf get_leaf) (get_node (fun F h => Option.some.inj h ▸ q191) get_leaf get_leaf)) (get_node (fun F h => Option.some.inj h ▸ q95) (get_node (fun F h => Option.some.inj h ▸ q159) get_leaf get_leaf) get_leaf)) (get_node (fun F h => Option.some.inj h ▸ q47) (get_node (fun F h => Option.some.inj h ▸ q79) (get_node (fun F h => Option.some.inj h ▸ q143) get_leaf get_leaf) get_leaf) (get_node (fun F h => Option.some.inj h ▸ q111) (get_node (fun F h => Option.some.inj h ▸ q175) get_leaf get_leaf) get_leaf))) (get_node (fun F h => Option.some.inj h ▸ q23) (get_node (fun F h => Option.some.inj h ▸ q39) (get_node (fun F h => Option.some.inj h ▸ q71) (get_node (fun F h => Option.some.inj h ▸ q135) get_leaf get_leaf) (get_node (fun F h => Option.some.inj h ▸ q199) get_leaf get_leaf)) (get_node (fun F h => Option.some.inj h ▸ q103) (get_node (fun F h => Option.some.inj h ▸ q167) get_leaf get_leaf) get_leaf)) (get_node (fun F h => Option.some.inj h ▸ q55) (get_node (fun F h => Option.some.inj h ▸ q87) (get_node (fun F h => Option.some.inj h ▸ q151) get_leaf get_leaf) get_leaf) (get_node (fun F h => Option.some.inj h ▸ q119) (get_node (fun F h => Option.some.inj h ▸ q183) get_leaf get_leaf) get_leaf)))) (get_node (fun F h => Option.some.inj h ▸ q11) (get_node (fun F h => Option.some.inj h ▸ q19) (get_node (fun F h => Option.some.inj h ▸ q35) (get_node (fun F h => Option.some.inj h ▸ q67) (get_node (fun F h => Option.some.inj h ▸ q131) get_leaf get_leaf) (get_node (fun F h => Option.some.inj h ▸ q195) get_leaf get_leaf)) (get_node (fun F h => Option.some.inj h ▸ q99) (get_node (fun F h => Option.some.inj h ▸ q163) get_leaf get_leaf) get_leaf)) (get_node (fun F h => Option.some.inj h ▸ q51) (get_node (fun F h => Option.some.inj h ▸ q83) (get_node (fun F h => Option.some.inj h ▸ q147) get_leaf get_leaf) get_leaf) (get_node (fun F h => Option.some.inj h ▸ q115) (get_node (fun F h => Option.some.inj h ▸ q179) get_leaf get_leaf) get_leaf))) (get_node (fun F h => Option.some.inj h ▸ q27) (get_node (fun F h => Option.some.inj h ▸ q43) (get_node (fun F h => Option.some.inj h ▸ q75) (get_node (fun F h => Option.some.inj h ▸ q139) get_leaf get_leaf) get_leaf) (get_node (fun F h => Option.some.inj h ▸ q107) (get_node (fun F h => Option.some.inj h ▸ q171) get_leaf get_leaf) get_leaf)) (get_node (fun F h => Option.some.inj h ▸ q59) (get_node (fun F h => Option.some.inj h ▸ q91) (get_node (fun F h => Option.some.inj h ▸ q155) get_leaf get_leaf) get_leaf) (get_node (fun F h => Option.some.inj h ▸ q123) (get_node (fun F h => Option.some.inj h ▸ q187) get_leaf get_leaf) get_leaf))))) (get_node (fun F h => Option.some.inj h ▸ q5) (get_node (fun F h => Option.some.inj h ▸ q9) (get_node (fun F h => Option.some.inj h ▸ q17) (get_node (fun F h => Option.some.inj h ▸ q33) (get_node (fun F h => Option.some.inj h ▸ q65) (get_node (fun F h => Option.some.inj h ▸ q129) get_leaf get_leaf) (get_node (fun F h => Option.some.inj h ▸ q193) get_leaf get_leaf)) (get_node (fun F h => Option.some.inj h ▸ q97) (get_node (fun F h => Option.some.inj h ▸ q161) get_leaf get_leaf) get_leaf)) (get_node (fun F h => Option.some.inj h ▸ q49) (get_node (fun F h => Option.some.inj h ▸ q81) (get_node (fun F h => Option.some.inj h ▸ q145) get_leaf get_leaf) get_leaf) (get_node (fun F h => Option.some.inj h ▸ q113) (get_node (fun F h => Option.some.inj h ▸ q177) get_leaf get_leaf) get_leaf))) (get_node (fun F h => Option.some.inj h ▸ q25) (get_node (fun F h => Option.some.inj h ▸ q41) (get_node (fun F h => Option.some.inj h ▸ q73) (get_node (fun F h => Option.some.inj h ▸ q137) get_leaf get_leaf) get_leaf) (get_node (fun F h => Option.some.inj h ▸ q105) (get_node (fun F h => Option.some.inj h ▸ q169) get_leaf get_leaf) get_leaf)) (get_node (fun F h => Option.some.inj h ▸ q57) (get_node (fun F h => Option.some.inj h ▸ q89) (get_node (fun F h => Option.some.inj h ▸ q153) get_leaf get_leaf) get_leaf) (get_node (fun F h => Option.some.inj h ▸ q121) (get_node (fun F h => Option.some.inj h ▸ q185) get_leaf get_leaf) get_leaf)))) (get_node (fun F h => Option.some.inj h ▸ q13) (get_node (fun F h => Option.some.inj h ▸ q21) (get_node (fun F h => Option.some.inj h ▸ q37) (get_node (fun F h => Option.some.inj h ▸ q69) (get_node (fun F h => Option.some.inj h ▸ q133) get_leaf get_leaf) (get_node (fun F h => Option.some.inj h ▸ q197) get_leaf get_leaf)) (get_node (fun F h => Option.some.inj h ▸ q101) (get_node (fun F h => Option.some.inj h ▸ q165) get_leaf get_leaf) get_leaf)) (get_node (fun F h => Option.some.inj h ▸ q53) (get_node (fun F h => Option.some.inj h ▸ q85) (get_node (fun F h => Option.some.inj h ▸ q149) get_leaf get_leaf) get_leaf) (get_node (fun F h => Option.some.inj h ▸ q117) (get_node (fun F h => Option.some.inj h ▸ q181) get_leaf get_leaf) get_leaf))) (get_node (fun F h => Option.some.inj h ▸ q29) (get_node (fun F h => Option.some.inj h ▸ q45) (get_node (fun F h => Option.some.inj h ▸ q77) (get_node (fun F h => Option.some.inj h ▸ q141) get_leaf get_leaf) get_leaf) (get_node (fun F h => Option.some.inj h ▸ q109) (get_node (fun F h => Option.some.inj h ▸ q173) get_leaf get_leaf) get_leaf)) (get_node (fun F h => Option.some.inj h ▸ q61) (get_node (fun F h => Option.some.inj h ▸ q93) (get_node (fun F h => Option.some.inj h ▸ q157) get_leaf get_leaf) get_leaf) (get_node (fun F h => Option.some.inj h ▸ q125) (get_node (fun F h => Option.some.inj h ▸ q189) get_leaf get_leaf) get_leaf)))))) (get_node (fun F h => Option.some.inj h ▸ q2) (get_node (fun F h => Option.some.inj h ▸ q4) (get_node (fun F h => Option.some.inj h ▸ q8) (get_node (fun F h => Option.some.inj h ▸ q16) (get_node (fun F h => Option.some.inj h ▸ q32) (get_node (fun F h => Option.some.inj h ▸ q64) (get_node (fun F h => Option.some.inj h ▸ q128) get_leaf get_leaf) (get_node (fun F h => Option.some.inj h ▸ q192) get_leaf get_leaf)) (get_node (fun F h => Option.some.inj h ▸ q96) (get_node (fun F h => Option.some.inj h ▸ q160) get_leaf get_leaf) get_leaf)) (get_node (fun F h => Option.some.inj h ▸ q48) (get_node (fun F h => Option.some.inj h ▸ q80) (get_node (fun F h => Option.some.inj h ▸ q144) get_leaf get_leaf) get_leaf) (get_node (fun F h => Option.some.inj h ▸ q112) (get_node (fun F h => Option.some.inj h ▸ q176) get_leaf get_leaf) get_leaf))) (get_node (fun F h => Option.some.inj h ▸ q24) (get_node (fun F h => Option.some.inj h ▸ q40) (get_node (fun F h => Option.some.inj h ▸ q72) (get_node (fun F h => Option.some.inj h ▸ q136) get_leaf get_leaf) (get_node (fun F h => Option.some.inj h ▸ q200) get_leaf get_leaf)) (get_node (fun F h => Option.some.inj h ▸ q104) (get_node (fun F h => Option.some.inj h ▸ q168) get_leaf get_leaf) get_leaf)) (get_node (fun F h => Option.some.inj h ▸ q56) (get_node (fun F h => Option.some.inj h ▸ q88) (get_node (fun F h => Option.some.inj h ▸ q152) get_leaf get_leaf) get_leaf) (get_node (fun F h => Option.some.inj h ▸ q120) (get_node (fun F h => Option.some.inj h ▸ q184) get_leaf get_leaf) get_leaf)))) (get_node (fun F h => Option.some.inj h ▸ q12) (get_node (fun F h => Option.some.inj h ▸ q20) (get_node (fun F h => Option.some.inj h ▸ q36) (get_node (fun F h => Option.some.inj h ▸ q68) (get_node (fun F h => Option.some.inj h ▸ q132) get_leaf get_leaf) (get_node (fun F h => Option.some.inj h ▸ q196) get_leaf get_leaf)) (get_node (fun F h => Option.some.inj h ▸ q100) (get_node (fun F h => Option.some.inj h ▸ q164) get_leaf get_leaf) get_leaf)) (get_node (fun F h => Option.some.inj h ▸ q52) (get_node (fun F h => Option.some.inj h ▸ q84) (get_node (fun F h => Option.some.inj h ▸ q148) get_leaf get_leaf) get_leaf) (get_node (fun F h => Option.some.inj h ▸ q116) (get_node (fun F h => Option.some.inj h ▸ q180) get_leaf get_leaf) get_leaf))) (get_node (fun F h => Option.some.inj h ▸ q28) (get_node (fun F h => Option.some.inj h ▸ q44) (get_node (fun F h => Option.some.inj h ▸ q76) (get_node (fun F h => Option.some.inj h ▸ q140) get_leaf get_leaf) get_leaf) (get_node (fun F h => Option.some.inj h ▸ q108) (get_node (fun F h => Option.some.inj h ▸ q172) get_leaf get_leaf) get_leaf)) (get_node (fun F h => Option.some.inj h ▸ q60) (get_node (fun F h => Option.some.inj h ▸ q92) (get_node (fun F h => Option.some.inj h ▸ q156) get_leaf get_leaf) get_leaf) (get_node (fun F h => Option.some.inj h ▸ q124) (get_node (fun F h => Option.some.inj h ▸ q188) get_leaf get_leaf) get_leaf))))) (get_node (fun F h => Option.some.inj h ▸ q6) (get_node (fun F h => Option.some.inj h ▸ q10) (get_node (fun F h => Option.some.inj h ▸ q18) (get_node (fun F h => Option.some.inj h ▸ q34) (get_node (fun F h => Option.some.inj h ▸ q66) (get_node (fun F h => Option.some.inj h ▸ q130) get_leaf get_leaf) (get_node (fun F h => Option.some.inj h ▸ q194) get_leaf get_leaf)) (get_node (fun F h => Option.some.inj h ▸ q98) (get_node (fun F h => Option.some.inj h ▸ q162) get_leaf get_leaf) get_leaf)) (get_node (fun F h => Option.some.inj h ▸ q50) (get_node (fun F h => Option.some.inj h ▸ q82) (get_node (fun F h => Option.some.inj h ▸ q146) get_leaf get_leaf) get_leaf) (get_node (fun F h => Option.some.inj h ▸ q114) (get_node (fun F h => Option.some.inj h ▸ q178) get_leaf get_leaf) get_leaf))) (get_node (fun F h => Option.some.inj h ▸ q26) (get_node (fun F h => Option.some.inj h ▸ q42) (get_node (fun F h => Option.some.inj h ▸ q74) (get_node (fun F h => Option.some.inj h ▸ q138) get_leaf get_leaf) get_leaf) (get_node (fun F h => Option.some.inj h ▸ q106) (get_node (fun F h => Option.some.inj h ▸ q170) get_leaf get_leaf) get_leaf)) (get_node (fun F h => Option.some.inj h ▸ q58) (get_node (fun F h => Option.some.inj h ▸ q90) (get_node (fun F h => Option.some.inj h ▸ q154) get_leaf get_leaf) get_leaf) (get_node (fun F h => Option.some.inj h ▸ q122) (get_node (fun F h => Option.some.inj h ▸ q186) get_leaf get_leaf) get_leaf)))) (get_node (fun F h => Option.some.inj h ▸ q14) (get_node (fun F h => Option.some.inj h ▸ q22) (get_node (fun F h => Option.some.inj h ▸ q38) (get_node (fun F h => Option.some.inj h ▸ q70) (get_node (fun F h => Option.some.inj h ▸ q134) get_leaf get_leaf) (get_node (fun F h => Option.some.inj h ▸ q198) get_leaf get_leaf)) (get_node (fun F h => Option.some.inj h ▸ q102) (get_node (fun F h => Option.some.inj h ▸ q166) get_leaf get_leaf) get_leaf)) (get_node (fun F h => Option.some.inj h ▸ q54) (get_node (fun F h => Option.some.inj h ▸ q86) (get_node (fun F h => Option.some.inj h ▸ q150) get_leaf get_leaf) get_leaf) (get_node (fun F h => Option.some.inj h ▸ q118) (get_node (fun F h => Option.some.inj h ▸ q182) get_leaf get_leaf) get_leaf))) (get_node (fun F h => Option.some.inj h ▸ q30) (get_node (fun F h => Option.some.inj h ▸ q46) (get_node (fun F h => Option.some.inj h ▸ q78) (get_node (fun F h => Option.some.inj h ▸ q142) get_leaf get_leaf) get_leaf) (get_node (fun F h => Option.some.inj h ▸ q110) (get_node (fun F h => Option.some.inj h ▸ q174) get_leaf get_leaf) get_leaf)) (get_node (fun F h => Option.some.inj h ▸ q62) (get_node (fun F h => Option.some.inj h ▸ q94) (get_node (fun F h => Option.some.inj h ▸ q158) get_leaf get_leaf) get_leaf) (get_node (fun F h => Option.some.inj h ▸ q126) (get_node (fun F h => Option.some.inj h ▸ q190) get_leaf get_leaf) get_leaf)))))))
theorem flOk : ∀ t i, ty.get t = some i → FlP t i := (get_node (fun F h => Option.some.inj h ▸ r0) (get_node (fun F h => Option.some.inj h ▸ r1) (get_node (fun F h => Option.some.inj h ▸ r3) (get_node (fun F h => Option.some.inj h ▸ r7) (get_node (fun F h => Option.some.inj h ▸ r15) (get_node (fun F h => Option.some.inj h ▸ r31) (get_node (fun F h => Option.some.inj h ▸ r63) (get_node (fun F h => Option.some.inj h ▸ r127) get_leaf get_leaf) (get_node (fun F h => Option.some.inj h ▸ r191) get_leaf get_leaf)) (get_node (fun F h => Option.some.inj h ▸ r95) (get_node (fun F h => Option.some.inj h ▸ r159) get_leaf get_leaf) get_leaf)) (get_node (fun F h => Option.some.inj h ▸ r47) (get_node (fun F h => Option.some.inj h ▸ r79) (get_node (fun F h => Option.some.inj h ▸ r143) get_leaf get_leaf) get_leaf) (get_node (fun F h => Option.some.inj h ▸ r111) (get_node (fun F h => Option.some.inj h ▸ r175) get_leaf get_leaf) get_leaf))) (get_node (fun F h => Option.some.inj h ▸ r23) (get_node (fun F h => Option.some.inj h ▸ r39) (get_node (fun F h => Option.some.inj h ▸ r71) (get_node (fun F h => Option.some.inj h ▸ r135) get_leaf get_leaf) (get_node (fun F h => Option.some.inj h ▸ r199) get_leaf get_leaf)) (get_node (fun F h => Option.some.inj h ▸ r103) (get_node (fun F h => Option.some.inj h ▸ r167) get_leaf get_leaf) get_leaf)) (get_node (fun F h => Option.some.inj h ▸ r55) (get_node (fun F h => Option.some.inj h ▸ r87) (get_node (fun F h => Option.some.inj h ▸ r151) get_leaf get_leaf) get_leaf) (get_node (fun F h => Option.some.inj h ▸ r119) (get_node (fun F h => Option.some.inj h ▸ r183) get_leaf get_leaf) get_leaf)))) (get_node (fun F h => Option.some.inj h ▸ r11) (get_node (fun F h => Option.some.inj h ▸ r19) (get_node (fun F h => Option.some.inj h ▸ r35) (get_node (fun F h => Option.some.inj h ▸ r67) (get_node (fun F h => Option.some.inj h ▸ r131) get_leaf get_leaf) (get_node (fun F h => Option.some.inj h ▸ r195) get_leaf get_leaf)) (get_node (fun F h => Option.some.inj h ▸ r99) (get_node (fun F h => Option.some.inj h ▸ r163) get_leaf get_leaf) get_leaf)) (get_node (fun F h => Option.some.inj h ▸ r51) (get_node (fun F h => Option.some.inj h ▸ r83) (get_node (fun F h => Option.some.inj h ▸ r147) get_leaf get_leaf) get_leaf) (get_node (fun F h => Option.some.inj h ▸ r115) (get_node (fun F h => Option.some.inj h ▸ r179) get_leaf get_leaf) get_leaf))) (get_node (fun F h => Option.some.inj h ▸ r27) (get_node (fun F h => Option.some.inj h ▸ r43) (get_node (fun F h => Option.some.inj h ▸ r75) (get_node (fun F h => Option.some.inj h ▸ r139) get_leaf get_leaf) get_leaf) (get_node (fun F h => Option.some.inj h ▸ r107) (get_node (fun F h => Option.some.inj h ▸ r171) get_leaf get_leaf) get_leaf)) (get_node (fun F h => Option.some.inj h ▸ r59) (get_node (fun F h => Option.some.inj h ▸ r91) (get_node (fun F h => Option.some.inj h ▸ r155) get_leaf get_leaf) get_leaf) (get_node (fun F h => Option.some.inj h ▸ r123) (get_node (fun F h => Option.some.inj h ▸ r187) get_leaf get_leaf) get_leaf))))) (get_node (fun F h => Option.some.inj h ▸ r5) (get_node (fun F h => Option.some.inj h ▸ r9) (get_node (fun F h => Option.some.inj h ▸ r17) (get_node (fun F h => Option.some.inj h ▸ r33) (get_node (fun F h => Option.some.inj h ▸ r65) (get_node (fun F h => Option.some.inj h ▸ r129) get_leaf get_leaf) (get_node (fun F h => Option.some.inj h ▸ r193) get_leaf get_leaf)) (get_node (fun F h => Option.some.inj h ▸ r97) (get_node (fun F h => Option.some.inj h ▸ r161) get_leaf get_leaf) get_leaf)) (get_node (fun F h => Option.some.inj h ▸ r49) (get_node (fun F h => Option.some.inj h ▸ r81) (get_node (fun F h => Option.some.inj h ▸ r145) get_leaf get_leaf) get_leaf) (get_node (fun F h => Option.some.inj h ▸ r113) (get_node (fun F h => Option.some.inj h ▸ r177) get_leaf get_leaf) get_leaf))) (get_node (fun F h => Option.some.inj h ▸ r25) (get_node (fun F h => Option.some.inj h ▸ r41) (get_node (fun F h => Option.some.inj h ▸ r73) (get_node (fun F h => Option.some.inj h ▸ r137) get_leaf get_leaf) get_leaf) (get_node (fun F h => Option.some.inj h ▸ r105) (get_node (fun F h => Option.some.inj h ▸ r169) get_leaf get_leaf) get_leaf)) (get_node (fun F h => Option.some.inj h ▸ r57) (get_node (fun F h => Option.some.inj h ▸ r89) (get_node (fun F h => Option.some.inj h ▸ r153) get_leaf get_leaf) get_leaf) (get_node (fun F h => Option.some.inj h ▸ r121) (get_node (fun F h => Option.some.inj h ▸ r185) get_leaf get_leaf) get_leaf)))) (get_node (fun F h => Option.some.inj h ▸ r13) (get_node (fun F h => Option.some.inj h ▸ r21) (get_node (fun F h => Option.some.inj h ▸ r37) (get_node (fun F h => Option.some.inj h ▸ r69) (get_node (fun F h => Option.some.inj h ▸ r133) get_leaf get_leaf) (get_node (fun F h => Option.some.inj h ▸ r197) get_leaf get_leaf)) (get_node (fun F h => Option.some.inj h ▸ r101) (get_node (fun F h => Option.some.inj h ▸ r165) get_leaf get_leaf) get_leaf)) (get_node (fun F h => Option.some.inj h ▸ r53) (get_node (fun F h => Option.some.inj h ▸ r85) (get_node (fun F h => Option.some.inj h ▸ r149) get_leaf get_leaf) get_leaf) (get_node (fun F h => Option.some.inj h ▸ r117) (get_node (fun F h => Option.some.inj h ▸ r181) get_leaf get_leaf) get_leaf))) (get_node (fun F h => Option.some.inj h ▸ r29) (get_node (fun F h => Option.some.inj h ▸ r45) (get_node (fun F h => Option.some.inj h ▸ r77) (get_node (fun F h => Option.some.inj h ▸ r141) get_leaf get_leaf) get_leaf) (get_node (fun F h => Option.some.inj h ▸ r109) (get_node (fun F h => Option.some.inj h ▸ r173) get_leaf get_leaf) get_leaf)) (get_node (fun F h => Option.some.inj h ▸ r61) (get_node (fun F h => Option.some.inj h ▸ r93) (get_node (fun F h => Option.some.inj h ▸ r157) get_leaf get_leaf) get_leaf) (get_node (fun F h => Option.some.inj h ▸ r125) (get_node (fun F h => Option.some.inj h ▸ r189) get_leaf get_leaf) get_leaf)))))) (get_node (fun F h => Option.some.inj h ▸ r2) (get_node (fun F h => Option.some.inj h ▸ r4) (get_node (fun F h => Option.some.inj h ▸ r8) (get_node (fun F h => Option.some.inj h ▸ r16) (get_node (fun F h => Option.some.inj h ▸ r32) (get_node (fun F h => Option.some.inj h ▸ r64) (get_node (fun F h => Option.some.inj h ▸ r128) get_leaf get_leaf) (get_node (fun F h => Option.some.inj h ▸ r192) get_leaf get_leaf)) (get_node (fun F h => Option.some.inj h ▸ r96) (get_node (fun F h => Option.some.inj h ▸ r160) get_leaf get_leaf) get_leaf)) (get_node (fun F h => Option.some.inj h ▸ r48) (get_node (fun F h => Option.some.inj h ▸ r80) (get_node (fun F h => Option.some.inj h ▸ r144) get_leaf get_leaf) get_leaf) (get_node (fun F h => Option.some.inj h ▸ r112) (get_node (fun F h => Option.some.inj h ▸ r176) get_leaf get_leaf) get_leaf))) (get_node (fun F h => Option.some.inj h ▸ r24) (get_node (fun F h => Option.some.inj h ▸ r40) (get_node (fun F h => Option.some.inj h ▸ r72) (get_node (fun F h => Option.some.inj h ▸ r136) get_leaf get_leaf) (get_node (fun F h => Option.some.inj h ▸ r200) get_leaf get_leaf)) (get_node (fun F h => Option.some.inj h ▸ r104) (get_node (fun F h => Option.some.inj h ▸ r168) get_leaf get_leaf) get_leaf)) (get_node (fun F h => Option.some.inj h ▸ r56) (get_node (fun F h => Option.some.inj h ▸ r88) (get_node (fun F h => Option.some.inj h ▸ r152) get_leaf get_leaf) get_leaf) (get_node (fun F h => Option.some.inj h ▸ r120) (get_node (fun F h => Option.some.inj h ▸ r184) get_leaf get_leaf) get_leaf)))) (get_node (fun F h => Option.some.inj h ▸ r12) (get_node (fun F h => Option.some.inj h ▸ r20) (get_node (fun F h => Option.some.inj h ▸ r36) (get_node (fun F h => Option.some.inj h ▸ r68) (get_node (fun F h => Option.some.inj h ▸ r132) get_leaf get_leaf) (get_node (fun F h => Option.some.inj h ▸ r196) get_leaf get_leaf)) (get_node (fun F h => Option.some.inj h ▸ r100) (get_node (fun F h => Option.some.inj h ▸ r164) get_leaf get_leaf) get_leaf)) (get_node (fun F h => Option.some.inj h ▸ r52) (get_node (fun F h => Option.some.inj h ▸ r84) (get_node (fun F h => Option.some.inj h ▸ r148) get_leaf get_leaf) get_leaf) (get_node (fun F h => Option.some.inj h ▸ r116) (get_node (fun F h => Option.some.inj h ▸ r180) get_leaf get_leaf) get_leaf))) (get_node (fun F h => Option.some.inj h ▸ r28) (get_node (fun F h => Option.some.inj h ▸ r44) (get_node (fun F h => Option.some.inj h ▸ r76) (get_node (fun F h => Option.some.inj h ▸ r140) get_leaf get_leaf) get_leaf) (get_node (fun F h => Option.some.inj h ▸ r108) (get_node (fun F h => Option.some.inj h ▸ r172) get_leaf get_leaf) get_leaf)) (get_node (fun F h => Option.some.inj h ▸ r60) (get_node (fun F h => Option.some.inj h ▸ r92) (get_node (fun F h => Option.some.inj h ▸ r156) get_leaf get_leaf) get_leaf) (get_node (fun F h => Option.some.inj h ▸ r124) (get_node (fun F h => Option.some.inj h ▸ r188) get_leaf get_leaf) get_leaf))))) (get_node (fun F h => Option.some.inj h ▸ r6) (get_node (fun F h => Option.some.inj h ▸ r10) (get_node (fun F h => Option.some.inj h ▸ r18) (get_node (fun F h => Option.some.inj h ▸ r34) (get_node (fun F h => Option.some.inj h ▸ r66) (get_node (fun F h => Option.some.inj h ▸ r130) get_leaf get_leaf) (get_node (fun F h => Option.some.inj h ▸ r194) get_leaf get_leaf)) (get_node (fun F h => Option.some.inj h ▸ r98) (get_node (fun F h => Option.some.inj h ▸ r162) get_leaf get_leaf) get_leaf)) (get_node (fun F h => Option.some.inj h ▸ r50) (get_node (fun F h => Option.some.inj h ▸ r82) (get_node (fun F h => Option.some.inj h ▸ r146) get_leaf get_leaf) get_leaf) (get_node (fun F h => Option.some.inj h ▸ r114) (get_node (fun F h => Option.some.inj h ▸ r178) get_leaf get_leaf) get_leaf))) (get_node (fun F h => Option.some.inj h ▸ r26) (get_node (fun F h => Option.some.inj h ▸ r42) (get_node (fun F h => Option.some.inj h ▸ r74) (get_node (fun F h => Option.some.inj h ▸ r138) get_leaf get_leaf) get_leaf) (get_node (fun F h => Option.some.inj h ▸ r106) (get_node (fun F h => Option.some.inj h ▸ r170) get_leaf get_leaf) get_leaf)) (get_node (fun F h => Option.some.inj h ▸ r58) (get_node (fun F h => Option.some.inj h ▸ r90) (get_node (fun F h => Option.some.inj h ▸ r154) get_leaf get_leaf) get_leaf) (get_node (fun F h => Option.some.inj h ▸ r122) (get_node (fun F h => Option.some.inj h ▸ r186) get_leaf get_leaf) get_leaf)))) (get_node (fun F h => Option.some.inj h ▸ r14) (get_node (fun F h => Option.some.inj h ▸ r22) (get_node (fun F h => Option.some.inj h ▸ r38) (get_node (fun F h => Option.some.inj h ▸ r70) (get_node (fun F h => Option.some.inj h ▸ r134) get_leaf get_leaf) (get_node (fun F h => Option.some.inj h ▸ r198) get_leaf get_leaf)) (get_node (fun F h => Option.some.inj h ▸ r102) (get_node (fun F h => Option.some.inj h ▸ r166) get_leaf get_leaf) get_leaf)) (get_node (fun F h => Option.some.inj h ▸ r54) (get_node (fun F h => Option.some.inj h ▸ r86) (get_node (fun F h => Option.some.inj h ▸ r150) get_leaf get_leaf) get_leaf) (get_node (fun F h => Option.some.inj h ▸ r118) (get_node (fun F h => Option.some.inj h ▸ r182) get_leaf get_leaf) get_leaf))) (get_node (fun F h => Option.some.inj h ▸ r30) (get_node (fun F h => Option.some.inj h ▸ r46) (get_node (fun F h => Option.some.inj h ▸ r78) (get_node (fun F h => Option.some.inj h ▸ r142) get_leaf get_leaf) get_leaf) (get_node (fun F h => Option.some.inj h ▸ r110) (get_node (fun F h => Option.some.inj h ▸ r174) get_leaf get_leaf) get_leaf)) (get_node (fun F h => Option.some.inj h ▸ r62) (get_node (fun F h => Option.some.inj h ▸ r94) (get_node (fun F h => Option.some.inj h ▸ r158) get_leaf get_leaf) get_leaf) (get_node (fun F h => Option.some.inj h ▸ r126) (get_node (fun F h => Option.some.inj h ▸ r190) get_leaf get_leaf) get_leaf)))))))
noncomputable def D : Abs.Data := { fn := fn, ty := ty }
theorem dok : DOk Try.prog D := ⟨fun f F h => fnOk f F h, fun t i h => tyOk t i h, fun t i h hf => flOk t i h hf, by kernel_rfl⟩
theorem ovok : OvOK Try.prog D := fun f g h => by simp [D] at h
end Go.Proofs.Ytaebjajbogedkaa.Tab
