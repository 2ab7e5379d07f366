/- The tables of the seat's program: its functions, its types; that they tell the program's own. Written by a program of this session (wip/mktab.py). -/
import Derived.Test.YtlikepnpamejmaaGreatProg
import Derived.Test.YtlikepnpamejmaaGreatAbsE
import Derived.KernelRfl
set_option linter.unusedVariables false
set_option maxRecDepth 100000
namespace Go.Proofs.YtlikepnpamejmaaGreat.Tab
open Go Go.Abs Go.Proofs
theorem get_leaf {α : Type} {p : Nat → α → Prop} : ∀ f F, (Tr.leaf : Tr α).get f = some F → p f F := fun f F h => by simp [Tr.get] at h
theorem get_node {α : Type} {p : Nat → α → Prop} {l r : Tr α} {v : Option α} (h0 : ∀ F, v = some F → p 0 F) (hl : ∀ f F, l.get f = some F → p (2 * f + 1) F) (hr : ∀ f F, r.get f = some F → p (2 * f + 2) F) : ∀ f F, (Tr.node l v r).get f = some F → p f F := by
  intro f F h
  unfold Tr.get at h
  by_cases h1 : f = 0
  · subst h1; exact h0 F h
  · rw [nbeq_f h1] at h
    by_cases h2 : f % 2 = 1
    · rw [nbeq_t h2] at h
      have := hl _ F h
      rwa [show 2 * (f / 2) + 1 = f by omega] at this
    · rw [nbeq_f h2] at h
      have := hr _ F h
      rwa [show 2 * (f / 2 - 1) + 2 = f by omega] at this
noncomputable def y0 : TyI := ⟨1, 0, (Go.Value.tuple #[]), (Go.TypeDesc.tuple #[]), false⟩
noncomputable def y1 : TyI := ⟨1, 8, Go.Value.nilFunc, (Go.TypeDesc.func #[] #[] false), false⟩
noncomputable def y2 : TyI := ⟨1, 8, (Go.Value.int Go.IntKind.i64 0), (Go.TypeDesc.int Go.IntKind.i64), false⟩
noncomputable def y3 : TyI := ⟨1, 8, (Go.Value.int Go.IntKind.i64 0), (Go.TypeDesc.int Go.IntKind.i64), false⟩
noncomputable def y4 : TyI := ⟨1, 1, (Go.Value.bool false), Go.TypeDesc.bool, false⟩
noncomputable def y5 : TyI := ⟨1, 1, (Go.Value.int Go.IntKind.u8 0), (Go.TypeDesc.int Go.IntKind.u8), false⟩
noncomputable def y6 : TyI := ⟨1, 1, (Go.Value.int Go.IntKind.u8 0), (Go.TypeDesc.int Go.IntKind.u8), false⟩
noncomputable def y7 : TyI := ⟨4, 24, (Go.Value.agg #[Go.Value.int Go.IntKind.i64 0, Go.Value.int Go.IntKind.i64 0, Go.Value.bool false, Go.Value.int Go.IntKind.u8 0]), (Go.TypeDesc.struct #[{ name := "x", type := 2, offset := 0, embedded := false, tag := "", pkgPath := "runtime", byteOffset := 0 }, { name := "y", type := 3, offset := 1, embedded := false, tag := "", pkgPath := "runtime", byteOffset := 8 }, { name := "signed", type := 4, offset := 2, embedded := false, tag := "", pkgPath := "runtime", byteOffset := 16 }, { name := "code", type := 6, offset := 3, embedded := false, tag := "", pkgPath := "runtime", byteOffset := 17 }]), false⟩
noncomputable def y8 : TyI := ⟨4, 24, (Go.Value.agg #[Go.Value.int Go.IntKind.i64 0, Go.Value.int Go.IntKind.i64 0, Go.Value.bool false, Go.Value.int Go.IntKind.u8 0]), (Go.TypeDesc.struct #[{ name := "x", type := 2, offset := 0, embedded := false, tag := "", pkgPath := "runtime", byteOffset := 0 }, { name := "y", type := 3, offset := 1, embedded := false, tag := "", pkgPath := "runtime", byteOffset := 8 }, { name := "signed", type := 4, offset := 2, embedded := false, tag := "", pkgPath := "runtime", byteOffset := 16 }, { name := "code", type := 6, offset := 3, embedded := false, tag := "", pkgPath := "runtime", byteOffset := 17 }]), false⟩
noncomputable def y9 : TyI := ⟨1, 16, (Go.Value.string { data := #[] }), Go.TypeDesc.string, false⟩
noncomputable def y10 : TyI := ⟨1, 16, (Go.Value.string { data := #[] }), Go.TypeDesc.string, false⟩
noncomputable def y11 : TyI := ⟨1, 16, (Go.Value.string { data := #[] }), Go.TypeDesc.string, false⟩
noncomputable def y12 : TyI := ⟨1, 8, (Go.Value.int Go.IntKind.u64 0), (Go.TypeDesc.int Go.IntKind.u64), false⟩
noncomputable def y13 : TyI := ⟨2, 24, (Go.Value.agg #[Go.Value.string { data := #[] }, Go.Value.int Go.IntKind.u64 0]), (Go.TypeDesc.struct #[{ name := "msg", type := 9, offset := 0, embedded := false, tag := "", pkgPath := "runtime", byteOffset := 0 }, { name := "addr", type := 12, offset := 1, embedded := false, tag := "", pkgPath := "runtime", byteOffset := 16 }]), false⟩
noncomputable def y14 : TyI := ⟨2, 24, (Go.Value.agg #[Go.Value.string { data := #[] }, Go.Value.int Go.IntKind.u64 0]), (Go.TypeDesc.struct #[{ name := "msg", type := 9, offset := 0, embedded := false, tag := "", pkgPath := "runtime", byteOffset := 0 }, { name := "addr", type := 12, offset := 1, embedded := false, tag := "", pkgPath := "runtime", byteOffset := 16 }]), false⟩
noncomputable def y15 : TyI := ⟨1, 8, (Go.Value.pointer none), (Go.TypeDesc.pointer 194), false⟩
noncomputable def y16 : TyI := ⟨1, 8, (Go.Value.pointer none), (Go.TypeDesc.pointer 197), false⟩
noncomputable def y17 : TyI := ⟨1, 8, (Go.Value.pointer none), (Go.TypeDesc.pointer 205), false⟩
noncomputable def y18 : TyI := ⟨1, 8, (Go.Value.agg #[Go.Value.pointer none]), (Go.TypeDesc.struct #[{ name := "typ", type := 17, offset := 0, embedded := false, tag := "", pkgPath := "internal/runtime/maps", byteOffset := 0 }]), false⟩
noncomputable def y19 : TyI := ⟨1, 8, (Go.Value.agg #[Go.Value.pointer none]), (Go.TypeDesc.struct #[{ name := "typ", type := 17, offset := 0, embedded := false, tag := "", pkgPath := "internal/runtime/maps", byteOffset := 0 }]), false⟩
noncomputable def y20 : TyI := ⟨1, 16, Go.Value.nilIface, (Go.TypeDesc.interface #[]), false⟩
noncomputable def y21 : TyI := ⟨1, 4, (Go.Value.int Go.IntKind.i32 0), (Go.TypeDesc.int Go.IntKind.i32), false⟩
noncomputable def y22 : TyI := ⟨1, 24, (Go.Value.slice none 0 0), (Go.TypeDesc.slice 3), false⟩
noncomputable def y23 : TyI := ⟨1, 8, (Go.Value.pointer none), (Go.TypeDesc.pointer 38), false⟩
noncomputable def y24 : TyI := ⟨1, 8, Go.Value.nilFunc, (Go.TypeDesc.func #[] #[23] false), false⟩
noncomputable def y25 : TyI := ⟨1, 8, Go.Value.nilFunc, (Go.TypeDesc.func #[] #[4] false), false⟩
noncomputable def y26 : TyI := ⟨1, 8, Go.Value.nilFunc, (Go.TypeDesc.func #[3, 3] #[3] false), false⟩
noncomputable def y27 : TyI := ⟨1, 24, (Go.Value.slice none 0 0), (Go.TypeDesc.slice 5), false⟩
noncomputable def y28 : TyI := ⟨1, 8, (Go.Value.int Go.IntKind.i64 0), (Go.TypeDesc.int Go.IntKind.i64), false⟩
noncomputable def y29 : TyI := ⟨1, 0, (Go.Value.tuple #[Go.Value.int Go.IntKind.i64 0, Go.Value.int Go.IntKind.i64 0]), (Go.TypeDesc.tuple #[3, 28]), false⟩
noncomputable def y30 : TyI := ⟨1, 8, Go.Value.nilFunc, (Go.TypeDesc.func #[3, 3, 3, 3, 27] #[3, 28] false), false⟩
noncomputable def y31 : TyI := ⟨1, 8, Go.Value.nilFunc, (Go.TypeDesc.func #[3] #[3] false), false⟩
noncomputable def y32 : TyI := ⟨1, 8, Go.Value.nilFunc, (Go.TypeDesc.func #[] #[22] false), false⟩
noncomputable def y33 : TyI := ⟨1, 8, (Go.Value.map none), (Go.TypeDesc.map 3 3), false⟩
noncomputable def y34 : TyI := ⟨1, 8, (Go.Value.agg #[Go.Value.map none]), (Go.TypeDesc.struct #[{ name := "at", type := 33, offset := 0, embedded := false, tag := "", pkgPath := "argosy/order", byteOffset := 0 }]), false⟩
noncomputable def y35 : TyI := ⟨1, 8, (Go.Value.agg #[Go.Value.map none]), (Go.TypeDesc.struct #[{ name := "at", type := 33, offset := 0, embedded := false, tag := "", pkgPath := "argosy/order", byteOffset := 0 }]), false⟩
noncomputable def y36 : TyI := ⟨1, 24, (Go.Value.slice none 0 0), (Go.TypeDesc.slice 47), false⟩
noncomputable def y37 : TyI := ⟨3, 56, (Go.Value.agg #[Go.Value.map none, Go.Value.slice none 0 0, Go.Value.slice none 0 0]), (Go.TypeDesc.struct #[{ name := "Order", type := 35, offset := 0, embedded := true, tag := "", pkgPath := "", byteOffset := 0 }, { name := "l", type := 36, offset := 1, embedded := false, tag := "", pkgPath := "argosy/outbox", byteOffset := 8 }, { name := "needless", type := 22, offset := 2, embedded := false, tag := "", pkgPath := "argosy/outbox", byteOffset := 32 }]), false⟩
noncomputable def y38 : TyI := ⟨3, 56, (Go.Value.agg #[Go.Value.map none, Go.Value.slice none 0 0, Go.Value.slice none 0 0]), (Go.TypeDesc.struct #[{ name := "Order", type := 35, offset := 0, embedded := true, tag := "", pkgPath := "", byteOffset := 0 }, { name := "l", type := 36, offset := 1, embedded := false, tag := "", pkgPath := "argosy/outbox", byteOffset := 8 }, { name := "needless", type := 22, offset := 2, embedded := false, tag := "", pkgPath := "argosy/outbox", byteOffset := 32 }]), false⟩
noncomputable def y39 : TyI := ⟨1, 8, Go.Value.nilFunc, (Go.TypeDesc.func #[22, 3] #[4] false), false⟩
noncomputable def y40 : TyI := ⟨1, 8, (Go.Value.pointer none), (Go.TypeDesc.pointer 94), false⟩
noncomputable def y41 : TyI := ⟨1, 8, Go.Value.nilFunc, (Go.TypeDesc.func #[3, 42, 3] #[40] false), false⟩
noncomputable def y42 : TyI := ⟨1, 8, (Go.Value.int Go.IntKind.u64 0), (Go.TypeDesc.int Go.IntKind.u64), false⟩
noncomputable def y43 : TyI := ⟨1, 24, (Go.Value.slice none 0 0), (Go.TypeDesc.slice 46), false⟩
noncomputable def y44 : TyI := ⟨1, 8, Go.Value.nilFunc, (Go.TypeDesc.func #[3, 40] #[43] false), false⟩
noncomputable def y45 : TyI := ⟨4, 40, (Go.Value.agg #[Go.Value.int Go.IntKind.i64 0, Go.Value.int Go.IntKind.i64 0, Go.Value.int Go.IntKind.i64 0, Go.Value.string { data := #[] }]), (Go.TypeDesc.struct #[{ name := "Kind", type := 3, offset := 0, embedded := false, tag := "", pkgPath := "", byteOffset := 0 }, { name := "ID", type := 3, offset := 1, embedded := false, tag := "", pkgPath := "", byteOffset := 8 }, { name := "At", type := 3, offset := 2, embedded := false, tag := "", pkgPath := "", byteOffset := 16 }, { name := "Bytes", type := 9, offset := 3, embedded := false, tag := "", pkgPath := "", byteOffset := 24 }]), false⟩
noncomputable def y46 : TyI := ⟨4, 40, (Go.Value.agg #[Go.Value.int Go.IntKind.i64 0, Go.Value.int Go.IntKind.i64 0, Go.Value.int Go.IntKind.i64 0, Go.Value.string { data := #[] }]), (Go.TypeDesc.struct #[{ name := "Kind", type := 3, offset := 0, embedded := false, tag := "", pkgPath := "", byteOffset := 0 }, { name := "ID", type := 3, offset := 1, embedded := false, tag := "", pkgPath := "", byteOffset := 8 }, { name := "At", type := 3, offset := 2, embedded := false, tag := "", pkgPath := "", byteOffset := 16 }, { name := "Bytes", type := 9, offset := 3, embedded := false, tag := "", pkgPath := "", byteOffset := 24 }]), true⟩
noncomputable def y47 : TyI := ⟨1, 8, (Go.Value.pointer none), (Go.TypeDesc.pointer 54), false⟩
noncomputable def y48 : TyI := ⟨5, 40, (Go.Value.agg #[Go.Value.int Go.IntKind.i64 0, Go.Value.int Go.IntKind.i64 0, Go.Value.int Go.IntKind.i64 0, Go.Value.int Go.IntKind.i64 0, Go.Value.int Go.IntKind.i64 0]), (Go.TypeDesc.struct #[{ name := "ID", type := 3, offset := 0, embedded := false, tag := "", pkgPath := "", byteOffset := 0 }, { name := "Deadline", type := 3, offset := 1, embedded := false, tag := "", pkgPath := "", byteOffset := 8 }, { name := "Count", type := 3, offset := 2, embedded := false, tag := "", pkgPath := "", byteOffset := 16 }, { name := "Index", type := 3, offset := 3, embedded := false, tag := "", pkgPath := "", byteOffset := 24 }, { name := "Size", type := 3, offset := 4, embedded := false, tag := "", pkgPath := "", byteOffset := 32 }]), false⟩
noncomputable def y49 : TyI := ⟨5, 40, (Go.Value.agg #[Go.Value.int Go.IntKind.i64 0, Go.Value.int Go.IntKind.i64 0, Go.Value.int Go.IntKind.i64 0, Go.Value.int Go.IntKind.i64 0, Go.Value.int Go.IntKind.i64 0]), (Go.TypeDesc.struct #[{ name := "ID", type := 3, offset := 0, embedded := false, tag := "", pkgPath := "", byteOffset := 0 }, { name := "Deadline", type := 3, offset := 1, embedded := false, tag := "", pkgPath := "", byteOffset := 8 }, { name := "Count", type := 3, offset := 2, embedded := false, tag := "", pkgPath := "", byteOffset := 16 }, { name := "Index", type := 3, offset := 3, embedded := false, tag := "", pkgPath := "", byteOffset := 24 }, { name := "Size", type := 3, offset := 4, embedded := false, tag := "", pkgPath := "", byteOffset := 32 }]), false⟩
noncomputable def y50 : TyI := ⟨1, 8, Go.Value.nilFunc, (Go.TypeDesc.func #[3, 3, 3] #[49] false), false⟩
noncomputable def y51 : TyI := ⟨1, 8, Go.Value.nilFunc, (Go.TypeDesc.func #[27] #[27] false), false⟩
noncomputable def y52 : TyI := ⟨8, 8, (Go.Value.agg #[Go.Value.bool false, Go.Value.bool false, Go.Value.bool false, Go.Value.bool false, Go.Value.bool false, Go.Value.bool false, Go.Value.bool false, Go.Value.bool false]), (Go.TypeDesc.array 8 4), false⟩
noncomputable def y53 : TyI := ⟨18, 104, (Go.Value.agg #[Go.Value.int Go.IntKind.i64 0, Go.Value.int Go.IntKind.i64 0, Go.Value.int Go.IntKind.i64 0, Go.Value.int Go.IntKind.i64 0, Go.Value.int Go.IntKind.i64 0, Go.Value.slice none 0 0, Go.Value.int Go.IntKind.i64 0, Go.Value.int Go.IntKind.i64 0, Go.Value.int Go.IntKind.i64 0, Go.Value.bool false, Go.Value.bool false, Go.Value.bool false, Go.Value.bool false, Go.Value.bool false, Go.Value.bool false, Go.Value.bool false, Go.Value.bool false, Go.Value.int Go.IntKind.i64 0]), (Go.TypeDesc.struct #[{ name := "h", type := 49, offset := 0, embedded := false, tag := "", pkgPath := "argosy/outbox", byteOffset := 0 }, { name := "b", type := 27, offset := 5, embedded := false, tag := "", pkgPath := "argosy/outbox", byteOffset := 40 }, { name := "way", type := 3, offset := 6, embedded := false, tag := "", pkgPath := "argosy/outbox", byteOffset := 64 }, { name := "budget", type := 3, offset := 7, embedded := false, tag := "", pkgPath := "argosy/outbox", byteOffset := 72 }, { name := "state", type := 3, offset := 8, embedded := false, tag := "", pkgPath := "argosy/outbox", byteOffset := 80 }, { name := "waits", type := 52, offset := 9, embedded := false, tag := "", pkgPath := "argosy/outbox", byteOffset := 88 }, { name := "stream", type := 3, offset := 17, embedded := false, tag := "", pkgPath := "argosy/outbox", byteOffset := 96 }]), false⟩
noncomputable def y54 : TyI := ⟨18, 104, (Go.Value.agg #[Go.Value.int Go.IntKind.i64 0, Go.Value.int Go.IntKind.i64 0, Go.Value.int Go.IntKind.i64 0, Go.Value.int Go.IntKind.i64 0, Go.Value.int Go.IntKind.i64 0, Go.Value.slice none 0 0, Go.Value.int Go.IntKind.i64 0, Go.Value.int Go.IntKind.i64 0, Go.Value.int Go.IntKind.i64 0, Go.Value.bool false, Go.Value.bool false, Go.Value.bool false, Go.Value.bool false, Go.Value.bool false, Go.Value.bool false, Go.Value.bool false, Go.Value.bool false, Go.Value.int Go.IntKind.i64 0]), (Go.TypeDesc.struct #[{ name := "h", type := 49, offset := 0, embedded := false, tag := "", pkgPath := "argosy/outbox", byteOffset := 0 }, { name := "b", type := 27, offset := 5, embedded := false, tag := "", pkgPath := "argosy/outbox", byteOffset := 40 }, { name := "way", type := 3, offset := 6, embedded := false, tag := "", pkgPath := "argosy/outbox", byteOffset := 64 }, { name := "budget", type := 3, offset := 7, embedded := false, tag := "", pkgPath := "argosy/outbox", byteOffset := 72 }, { name := "state", type := 3, offset := 8, embedded := false, tag := "", pkgPath := "argosy/outbox", byteOffset := 80 }, { name := "waits", type := 52, offset := 9, embedded := false, tag := "", pkgPath := "argosy/outbox", byteOffset := 88 }, { name := "stream", type := 3, offset := 17, embedded := false, tag := "", pkgPath := "argosy/outbox", byteOffset := 96 }]), false⟩
noncomputable def y55 : TyI := ⟨1, 8, Go.Value.nilFunc, (Go.TypeDesc.func #[3, 3] #[] false), false⟩
noncomputable def y56 : TyI := ⟨1, 8, (Go.Value.pointer none), (Go.TypeDesc.pointer 35), false⟩
noncomputable def y57 : TyI := ⟨1, 8, Go.Value.nilFunc, (Go.TypeDesc.func #[22] #[22] false), false⟩
noncomputable def y58 : TyI := ⟨1, 8, Go.Value.nilFunc, (Go.TypeDesc.func #[60, 26] #[22] false), false⟩
noncomputable def y59 : TyI := ⟨1, 8, Go.Value.nilFunc, (Go.TypeDesc.func #[106] #[] false), false⟩
noncomputable def y60 : TyI := ⟨1, 8, Go.Value.nilFunc, (Go.TypeDesc.func #[106] #[] false), false⟩
noncomputable def y61 : TyI := ⟨1, 8, Go.Value.nilFunc, (Go.TypeDesc.func #[33] #[60] false), false⟩
noncomputable def y62 : TyI := ⟨1, 8, Go.Value.nilFunc, (Go.TypeDesc.func #[22] #[3] true), false⟩
noncomputable def y63 : TyI := ⟨4, 32, (Go.Value.agg #[Go.Value.int Go.IntKind.i64 0, Go.Value.int Go.IntKind.i64 0, Go.Value.int Go.IntKind.i64 0, Go.Value.bool false]), (Go.TypeDesc.struct #[{ name := "Smooth", type := 3, offset := 0, embedded := false, tag := "", pkgPath := "", byteOffset := 0 }, { name := "Var", type := 3, offset := 1, embedded := false, tag := "", pkgPath := "", byteOffset := 8 }, { name := "Back", type := 3, offset := 2, embedded := false, tag := "", pkgPath := "", byteOffset := 16 }, { name := "Some", type := 4, offset := 3, embedded := false, tag := "", pkgPath := "", byteOffset := 24 }]), false⟩
noncomputable def y64 : TyI := ⟨4, 32, (Go.Value.agg #[Go.Value.int Go.IntKind.i64 0, Go.Value.int Go.IntKind.i64 0, Go.Value.int Go.IntKind.i64 0, Go.Value.bool false]), (Go.TypeDesc.struct #[{ name := "Smooth", type := 3, offset := 0, embedded := false, tag := "", pkgPath := "", byteOffset := 0 }, { name := "Var", type := 3, offset := 1, embedded := false, tag := "", pkgPath := "", byteOffset := 8 }, { name := "Back", type := 3, offset := 2, embedded := false, tag := "", pkgPath := "", byteOffset := 16 }, { name := "Some", type := 4, offset := 3, embedded := false, tag := "", pkgPath := "", byteOffset := 24 }]), false⟩
noncomputable def y65 : TyI := ⟨1, 24, (Go.Value.slice none 0 0), (Go.TypeDesc.slice 208), false⟩
noncomputable def y66 : TyI := ⟨3, 40, (Go.Value.agg #[Go.Value.slice none 0 0, Go.Value.int Go.IntKind.i64 0, Go.Value.int Go.IntKind.i64 0]), (Go.TypeDesc.struct #[{ name := "out", type := 65, offset := 0, embedded := false, tag := "", pkgPath := "argosy/ledger", byteOffset := 0 }, { name := "next", type := 3, offset := 1, embedded := false, tag := "", pkgPath := "argosy/ledger", byteOffset := 24 }, { name := "top", type := 3, offset := 2, embedded := false, tag := "", pkgPath := "argosy/ledger", byteOffset := 32 }]), false⟩
noncomputable def y67 : TyI := ⟨3, 40, (Go.Value.agg #[Go.Value.slice none 0 0, Go.Value.int Go.IntKind.i64 0, Go.Value.int Go.IntKind.i64 0]), (Go.TypeDesc.struct #[{ name := "out", type := 65, offset := 0, embedded := false, tag := "", pkgPath := "argosy/ledger", byteOffset := 0 }, { name := "next", type := 3, offset := 1, embedded := false, tag := "", pkgPath := "argosy/ledger", byteOffset := 24 }, { name := "top", type := 3, offset := 2, embedded := false, tag := "", pkgPath := "argosy/ledger", byteOffset := 32 }]), false⟩
noncomputable def y68 : TyI := ⟨4, 32, (Go.Value.agg #[Go.Value.int Go.IntKind.i64 0, Go.Value.int Go.IntKind.i64 0, Go.Value.int Go.IntKind.i64 0, Go.Value.int Go.IntKind.i64 0]), (Go.TypeDesc.struct #[{ name := "Size", type := 3, offset := 0, embedded := false, tag := "", pkgPath := "", byteOffset := 0 }, { name := "Slow", type := 3, offset := 1, embedded := false, tag := "", pkgPath := "", byteOffset := 8 }, { name := "Part", type := 3, offset := 2, embedded := false, tag := "", pkgPath := "", byteOffset := 16 }, { name := "Till", type := 3, offset := 3, embedded := false, tag := "", pkgPath := "", byteOffset := 24 }]), false⟩
noncomputable def y69 : TyI := ⟨4, 32, (Go.Value.agg #[Go.Value.int Go.IntKind.i64 0, Go.Value.int Go.IntKind.i64 0, Go.Value.int Go.IntKind.i64 0, Go.Value.int Go.IntKind.i64 0]), (Go.TypeDesc.struct #[{ name := "Size", type := 3, offset := 0, embedded := false, tag := "", pkgPath := "", byteOffset := 0 }, { name := "Slow", type := 3, offset := 1, embedded := false, tag := "", pkgPath := "", byteOffset := 8 }, { name := "Part", type := 3, offset := 2, embedded := false, tag := "", pkgPath := "", byteOffset := 16 }, { name := "Till", type := 3, offset := 3, embedded := false, tag := "", pkgPath := "", byteOffset := 24 }]), false⟩
noncomputable def y70 : TyI := ⟨11, 104, (Go.Value.agg #[Go.Value.int Go.IntKind.i64 0, Go.Value.int Go.IntKind.i64 0, Go.Value.int Go.IntKind.i64 0, Go.Value.bool false, Go.Value.slice none 0 0, Go.Value.int Go.IntKind.i64 0, Go.Value.int Go.IntKind.i64 0, Go.Value.int Go.IntKind.i64 0, Go.Value.int Go.IntKind.i64 0, Go.Value.int Go.IntKind.i64 0, Go.Value.int Go.IntKind.i64 0]), (Go.TypeDesc.struct #[{ name := "Rtt", type := 64, offset := 0, embedded := true, tag := "", pkgPath := "", byteOffset := 0 }, { name := "Ledger", type := 67, offset := 4, embedded := true, tag := "", pkgPath := "", byteOffset := 32 }, { name := "Window", type := 69, offset := 7, embedded := true, tag := "", pkgPath := "", byteOffset := 72 }]), false⟩
noncomputable def y71 : TyI := ⟨11, 104, (Go.Value.agg #[Go.Value.int Go.IntKind.i64 0, Go.Value.int Go.IntKind.i64 0, Go.Value.int Go.IntKind.i64 0, Go.Value.bool false, Go.Value.slice none 0 0, Go.Value.int Go.IntKind.i64 0, Go.Value.int Go.IntKind.i64 0, Go.Value.int Go.IntKind.i64 0, Go.Value.int Go.IntKind.i64 0, Go.Value.int Go.IntKind.i64 0, Go.Value.int Go.IntKind.i64 0]), (Go.TypeDesc.struct #[{ name := "Rtt", type := 64, offset := 0, embedded := true, tag := "", pkgPath := "", byteOffset := 0 }, { name := "Ledger", type := 67, offset := 4, embedded := true, tag := "", pkgPath := "", byteOffset := 32 }, { name := "Window", type := 69, offset := 7, embedded := true, tag := "", pkgPath := "", byteOffset := 72 }]), false⟩
noncomputable def y72 : TyI := ⟨1, 8, (Go.Value.pointer none), (Go.TypeDesc.pointer 71), false⟩
noncomputable def y73 : TyI := ⟨1, 8, Go.Value.nilFunc, (Go.TypeDesc.func #[] #[72] false), false⟩
noncomputable def y74 : TyI := ⟨1, 8, (Go.Value.pointer none), (Go.TypeDesc.pointer 112), false⟩
noncomputable def y75 : TyI := ⟨1, 8, Go.Value.nilFunc, (Go.TypeDesc.func #[] #[74] false), false⟩
noncomputable def y76 : TyI := ⟨1, 8, (Go.Value.pointer none), (Go.TypeDesc.pointer 118), false⟩
noncomputable def y77 : TyI := ⟨1, 8, Go.Value.nilFunc, (Go.TypeDesc.func #[3] #[76] false), false⟩
noncomputable def y78 : TyI := ⟨1, 8, Go.Value.nilFunc, (Go.TypeDesc.func #[42, 42] #[42] false), false⟩
noncomputable def y79 : TyI := ⟨2, 16, (Go.Value.agg #[Go.Value.int Go.IntKind.i64 0, Go.Value.int Go.IntKind.i64 0]), (Go.TypeDesc.struct #[{ name := "Limit", type := 3, offset := 0, embedded := false, tag := "", pkgPath := "", byteOffset := 0 }, { name := "Used", type := 3, offset := 1, embedded := false, tag := "", pkgPath := "", byteOffset := 8 }]), false⟩
noncomputable def y80 : TyI := ⟨2, 16, (Go.Value.agg #[Go.Value.int Go.IntKind.i64 0, Go.Value.int Go.IntKind.i64 0]), (Go.TypeDesc.struct #[{ name := "Limit", type := 3, offset := 0, embedded := false, tag := "", pkgPath := "", byteOffset := 0 }, { name := "Used", type := 3, offset := 1, embedded := false, tag := "", pkgPath := "", byteOffset := 8 }]), false⟩
noncomputable def y81 : TyI := ⟨3, 24, (Go.Value.agg #[Go.Value.int Go.IntKind.i64 0, Go.Value.int Go.IntKind.i64 0, Go.Value.int Go.IntKind.i64 0]), (Go.TypeDesc.struct #[{ name := "Room", type := 3, offset := 0, embedded := false, tag := "", pkgPath := "", byteOffset := 0 }, { name := "Read", type := 3, offset := 1, embedded := false, tag := "", pkgPath := "", byteOffset := 8 }, { name := "Told", type := 3, offset := 2, embedded := false, tag := "", pkgPath := "", byteOffset := 16 }]), false⟩
noncomputable def y82 : TyI := ⟨3, 24, (Go.Value.agg #[Go.Value.int Go.IntKind.i64 0, Go.Value.int Go.IntKind.i64 0, Go.Value.int Go.IntKind.i64 0]), (Go.TypeDesc.struct #[{ name := "Room", type := 3, offset := 0, embedded := false, tag := "", pkgPath := "", byteOffset := 0 }, { name := "Read", type := 3, offset := 1, embedded := false, tag := "", pkgPath := "", byteOffset := 8 }, { name := "Told", type := 3, offset := 2, embedded := false, tag := "", pkgPath := "", byteOffset := 16 }]), false⟩
noncomputable def y83 : TyI := ⟨1, 8, Go.Value.nilFunc, (Go.TypeDesc.func #[3] #[82] false), false⟩
noncomputable def y84 : TyI := ⟨1, 8, (Go.Value.map none), (Go.TypeDesc.map 3 4), false⟩
noncomputable def y85 : TyI := ⟨2, 2, (Go.Value.agg #[Go.Value.bool false, Go.Value.bool false]), (Go.TypeDesc.array 2 4), false⟩
noncomputable def y86 : TyI := ⟨4, 16, (Go.Value.agg #[Go.Value.bool false, Go.Value.bool false, Go.Value.bool false, Go.Value.map none]), (Go.TypeDesc.struct #[{ name := "data", type := 4, offset := 0, embedded := false, tag := "", pkgPath := "argosy/conn", byteOffset := 0 }, { name := "counts", type := 85, offset := 1, embedded := false, tag := "", pkgPath := "argosy/conn", byteOffset := 1 }, { name := "streams", type := 84, offset := 3, embedded := false, tag := "", pkgPath := "argosy/conn", byteOffset := 8 }]), false⟩
noncomputable def y87 : TyI := ⟨4, 16, (Go.Value.agg #[Go.Value.bool false, Go.Value.bool false, Go.Value.bool false, Go.Value.map none]), (Go.TypeDesc.struct #[{ name := "data", type := 4, offset := 0, embedded := false, tag := "", pkgPath := "argosy/conn", byteOffset := 0 }, { name := "counts", type := 85, offset := 1, embedded := false, tag := "", pkgPath := "argosy/conn", byteOffset := 1 }, { name := "streams", type := 84, offset := 3, embedded := false, tag := "", pkgPath := "argosy/conn", byteOffset := 8 }]), false⟩
noncomputable def y88 : TyI := ⟨1, 24, (Go.Value.slice none 0 0), (Go.TypeDesc.slice 143), false⟩
noncomputable def y89 : TyI := ⟨1, 24, (Go.Value.slice none 0 0), (Go.TypeDesc.slice 139), false⟩
noncomputable def y90 : TyI := ⟨1, 24, (Go.Value.agg #[Go.Value.slice none 0 0]), (Go.TypeDesc.struct #[{ name := "l", type := 89, offset := 0, embedded := false, tag := "", pkgPath := "argosy/queue", byteOffset := 0 }]), false⟩
noncomputable def y91 : TyI := ⟨1, 24, (Go.Value.agg #[Go.Value.slice none 0 0]), (Go.TypeDesc.struct #[{ name := "l", type := 89, offset := 0, embedded := false, tag := "", pkgPath := "argosy/queue", byteOffset := 0 }]), false⟩
noncomputable def y92 : TyI := ⟨1, 24, (Go.Value.slice none 0 0), (Go.TypeDesc.slice 27), false⟩
noncomputable def y93 : TyI := ⟨36, 376, (Go.Value.agg #[Go.Value.int Go.IntKind.i64 0, Go.Value.int Go.IntKind.i64 0, Go.Value.int Go.IntKind.i64 0, Go.Value.bool false, Go.Value.slice none 0 0, Go.Value.int Go.IntKind.i64 0, Go.Value.int Go.IntKind.i64 0, Go.Value.int Go.IntKind.i64 0, Go.Value.int Go.IntKind.i64 0, Go.Value.int Go.IntKind.i64 0, Go.Value.int Go.IntKind.i64 0, Go.Value.pointer none, Go.Value.pointer none, Go.Value.int Go.IntKind.u64 0, Go.Value.int Go.IntKind.u64 0, Go.Value.int Go.IntKind.i64 0, Go.Value.int Go.IntKind.i64 0, Go.Value.int Go.IntKind.i64 0, Go.Value.int Go.IntKind.i64 0, Go.Value.int Go.IntKind.i64 0, Go.Value.int Go.IntKind.i64 0, Go.Value.slice none 0 0, Go.Value.slice none 0 0, Go.Value.slice none 0 0, Go.Value.slice none 0 0, Go.Value.slice none 0 0, Go.Value.slice none 0 0, Go.Value.bool false, Go.Value.bool false, Go.Value.bool false, Go.Value.map none, Go.Value.map none, Go.Value.int Go.IntKind.i64 0, Go.Value.bool false, Go.Value.bool false, Go.Value.int Go.IntKind.i64 0]), (Go.TypeDesc.struct #[{ name := "Path", type := 71, offset := 0, embedded := true, tag := "", pkgPath := "", byteOffset := 0 }, { name := "seen", type := 74, offset := 11, embedded := false, tag := "", pkgPath := "argosy/conn", byteOffset := 104 }, { name := "t", type := 76, offset := 12, embedded := false, tag := "", pkgPath := "argosy/conn", byteOffset := 112 }, { name := "own", type := 42, offset := 13, embedded := false, tag := "", pkgPath := "argosy/conn", byteOffset := 120 }, { name := "other", type := 42, offset := 14, embedded := false, tag := "", pkgPath := "argosy/conn", byteOffset := 128 }, { name := "credit", type := 80, offset := 15, embedded := false, tag := "", pkgPath := "argosy/conn", byteOffset := 136 }, { name := "grant", type := 82, offset := 17, embedded := false, tag := "", pkgPath := "argosy/conn", byteOffset := 152 }, { name := "fresh", type := 3, offset := 20, embedded := false, tag := "", pkgPath := "argosy/conn", byteOffset := 176 }, { name := "waits", type := 88, offset := 21, embedded := false, tag := "", pkgPath := "argosy/conn", byteOffset := 184 }, { name := "datagrams", type := 91, offset := 22, embedded := false, tag := "", pkgPath := "argosy/conn", byteOffset := 208 }, { name := "data", type := 92, offset := 23, embedded := false, tag := "", pkgPath := "argosy/conn", byteOffset := 232 }, { name := "controls", type := 88, offset := 24, embedded := false, tag := "", pkgPath := "argosy/conn", byteOffset := 256 }, { name := "came", type := 22, offset := 25, embedded := false, tag := "", pkgPath := "argosy/conn", byteOffset := 280 }, { name := "lost", type := 22, offset := 26, embedded := false, tag := "", pkgPath := "argosy/conn", byteOffset := 304 }, { name := "again", type := 87, offset := 27, embedded := false, tag := "", pkgPath := "argosy/conn", byteOffset := 328 }, { name := "told", type := 84, offset := 31, embedded := false, tag := "", pkgPath := "argosy/conn", byteOffset := 344 }, { name := "heard", type := 3, offset := 32, embedded := false, tag := "", pkgPath := "argosy/conn", byteOffset := 352 }, { name := "closing", type := 4, offset := 33, embedded := false, tag := "", pkgPath := "argosy/conn", byteOffset := 360 }, { name := "over", type := 4, offset := 34, embedded := false, tag := "", pkgPath := "argosy/conn", byteOffset := 361 }, { name := "code", type := 3, offset := 35, embedded := false, tag := "", pkgPath := "argosy/conn", byteOffset := 368 }]), false⟩
noncomputable def y94 : TyI := ⟨36, 376, (Go.Value.agg #[Go.Value.int Go.IntKind.i64 0, Go.Value.int Go.IntKind.i64 0, Go.Value.int Go.IntKind.i64 0, Go.Value.bool false, Go.Value.slice none 0 0, Go.Value.int Go.IntKind.i64 0, Go.Value.int Go.IntKind.i64 0, Go.Value.int Go.IntKind.i64 0, Go.Value.int Go.IntKind.i64 0, Go.Value.int Go.IntKind.i64 0, Go.Value.int Go.IntKind.i64 0, Go.Value.pointer none, Go.Value.pointer none, Go.Value.int Go.IntKind.u64 0, Go.Value.int Go.IntKind.u64 0, Go.Value.int Go.IntKind.i64 0, Go.Value.int Go.IntKind.i64 0, Go.Value.int Go.IntKind.i64 0, Go.Value.int Go.IntKind.i64 0, Go.Value.int Go.IntKind.i64 0, Go.Value.int Go.IntKind.i64 0, Go.Value.slice none 0 0, Go.Value.slice none 0 0, Go.Value.slice none 0 0, Go.Value.slice none 0 0, Go.Value.slice none 0 0, Go.Value.slice none 0 0, Go.Value.bool false, Go.Value.bool false, Go.Value.bool false, Go.Value.map none, Go.Value.map none, Go.Value.int Go.IntKind.i64 0, Go.Value.bool false, Go.Value.bool false, Go.Value.int Go.IntKind.i64 0]), (Go.TypeDesc.struct #[{ name := "Path", type := 71, offset := 0, embedded := true, tag := "", pkgPath := "", byteOffset := 0 }, { name := "seen", type := 74, offset := 11, embedded := false, tag := "", pkgPath := "argosy/conn", byteOffset := 104 }, { name := "t", type := 76, offset := 12, embedded := false, tag := "", pkgPath := "argosy/conn", byteOffset := 112 }, { name := "own", type := 42, offset := 13, embedded := false, tag := "", pkgPath := "argosy/conn", byteOffset := 120 }, { name := "other", type := 42, offset := 14, embedded := false, tag := "", pkgPath := "argosy/conn", byteOffset := 128 }, { name := "credit", type := 80, offset := 15, embedded := false, tag := "", pkgPath := "argosy/conn", byteOffset := 136 }, { name := "grant", type := 82, offset := 17, embedded := false, tag := "", pkgPath := "argosy/conn", byteOffset := 152 }, { name := "fresh", type := 3, offset := 20, embedded := false, tag := "", pkgPath := "argosy/conn", byteOffset := 176 }, { name := "waits", type := 88, offset := 21, embedded := false, tag := "", pkgPath := "argosy/conn", byteOffset := 184 }, { name := "datagrams", type := 91, offset := 22, embedded := false, tag := "", pkgPath := "argosy/conn", byteOffset := 208 }, { name := "data", type := 92, offset := 23, embedded := false, tag := "", pkgPath := "argosy/conn", byteOffset := 232 }, { name := "controls", type := 88, offset := 24, embedded := false, tag := "", pkgPath := "argosy/conn", byteOffset := 256 }, { name := "came", type := 22, offset := 25, embedded := false, tag := "", pkgPath := "argosy/conn", byteOffset := 280 }, { name := "lost", type := 22, offset := 26, embedded := false, tag := "", pkgPath := "argosy/conn", byteOffset := 304 }, { name := "again", type := 87, offset := 27, embedded := false, tag := "", pkgPath := "argosy/conn", byteOffset := 328 }, { name := "told", type := 84, offset := 31, embedded := false, tag := "", pkgPath := "argosy/conn", byteOffset := 344 }, { name := "heard", type := 3, offset := 32, embedded := false, tag := "", pkgPath := "argosy/conn", byteOffset := 352 }, { name := "closing", type := 4, offset := 33, embedded := false, tag := "", pkgPath := "argosy/conn", byteOffset := 360 }, { name := "over", type := 4, offset := 34, embedded := false, tag := "", pkgPath := "argosy/conn", byteOffset := 361 }, { name := "code", type := 3, offset := 35, embedded := false, tag := "", pkgPath := "argosy/conn", byteOffset := 368 }]), false⟩
noncomputable def y95 : TyI := ⟨1, 0, (Go.Value.tuple #[Go.Value.slice none 0 0, Go.Value.slice none 0 0]), (Go.TypeDesc.tuple #[22, 22]), false⟩
noncomputable def y96 : TyI := ⟨1, 8, Go.Value.nilFunc, (Go.TypeDesc.func #[] #[22, 22] false), false⟩
noncomputable def y97 : TyI := ⟨1, 8, Go.Value.nilFunc, (Go.TypeDesc.func #[3, 3, 40] #[43] false), false⟩
noncomputable def y98 : TyI := ⟨1, 8, Go.Value.nilFunc, (Go.TypeDesc.func #[3] #[22] false), false⟩
noncomputable def y99 : TyI := ⟨1, 8, Go.Value.nilFunc, (Go.TypeDesc.func #[3, 3, 40] #[46] false), false⟩
noncomputable def y100 : TyI := ⟨1, 8, Go.Value.nilFunc, (Go.TypeDesc.func #[40] #[] false), false⟩
noncomputable def y101 : TyI := ⟨1, 8, Go.Value.nilFunc, (Go.TypeDesc.func #[40] #[4] false), false⟩
noncomputable def y102 : TyI := ⟨1, 8, Go.Value.nilFunc, (Go.TypeDesc.func #[43] #[43] false), false⟩
noncomputable def y103 : TyI := ⟨1, 8, Go.Value.nilFunc, (Go.TypeDesc.func #[49] #[4] false), false⟩
noncomputable def y104 : TyI := ⟨1, 8, Go.Value.nilFunc, (Go.TypeDesc.func #[60] #[22] false), false⟩
noncomputable def y105 : TyI := ⟨1, 8, Go.Value.nilFunc, (Go.TypeDesc.func #[22, 26] #[] false), false⟩
noncomputable def y106 : TyI := ⟨1, 8, Go.Value.nilFunc, (Go.TypeDesc.func #[3] #[4] false), false⟩
noncomputable def y107 : TyI := ⟨1, 8, Go.Value.nilFunc, (Go.TypeDesc.func #[] #[69] false), false⟩
noncomputable def y108 : TyI := ⟨1, 24, (Go.Value.slice none 0 0), (Go.TypeDesc.slice 190), false⟩
noncomputable def y109 : TyI := ⟨1, 24, (Go.Value.agg #[Go.Value.slice none 0 0]), (Go.TypeDesc.struct #[{ name := "l", type := 108, offset := 0, embedded := false, tag := "", pkgPath := "argosy/spans", byteOffset := 0 }]), false⟩
noncomputable def y110 : TyI := ⟨1, 24, (Go.Value.agg #[Go.Value.slice none 0 0]), (Go.TypeDesc.struct #[{ name := "l", type := 108, offset := 0, embedded := false, tag := "", pkgPath := "argosy/spans", byteOffset := 0 }]), false⟩
noncomputable def y111 : TyI := ⟨3, 40, (Go.Value.agg #[Go.Value.slice none 0 0, Go.Value.bool false, Go.Value.int Go.IntKind.i64 0]), (Go.TypeDesc.struct #[{ name := "Set", type := 110, offset := 0, embedded := true, tag := "", pkgPath := "", byteOffset := 0 }, { name := "Owed", type := 4, offset := 1, embedded := false, tag := "", pkgPath := "", byteOffset := 24 }, { name := "newest", type := 3, offset := 2, embedded := false, tag := "", pkgPath := "argosy/acks", byteOffset := 32 }]), false⟩
noncomputable def y112 : TyI := ⟨3, 40, (Go.Value.agg #[Go.Value.slice none 0 0, Go.Value.bool false, Go.Value.int Go.IntKind.i64 0]), (Go.TypeDesc.struct #[{ name := "Set", type := 110, offset := 0, embedded := true, tag := "", pkgPath := "", byteOffset := 0 }, { name := "Owed", type := 4, offset := 1, embedded := false, tag := "", pkgPath := "", byteOffset := 24 }, { name := "newest", type := 3, offset := 2, embedded := false, tag := "", pkgPath := "argosy/acks", byteOffset := 32 }]), false⟩
noncomputable def y113 : TyI := ⟨1, 8, (Go.Value.map none), (Go.TypeDesc.map 3 145), false⟩
noncomputable def y114 : TyI := ⟨1, 8, (Go.Value.map none), (Go.TypeDesc.map 3 209), false⟩
noncomputable def y115 : TyI := ⟨4, 32, (Go.Value.agg #[Go.Value.int Go.IntKind.i64 0, Go.Value.int Go.IntKind.i64 0, Go.Value.int Go.IntKind.i64 0, Go.Value.int Go.IntKind.i64 0]), (Go.TypeDesc.array 2 80), false⟩
noncomputable def y116 : TyI := ⟨6, 48, (Go.Value.agg #[Go.Value.int Go.IntKind.i64 0, Go.Value.int Go.IntKind.i64 0, Go.Value.int Go.IntKind.i64 0, Go.Value.int Go.IntKind.i64 0, Go.Value.int Go.IntKind.i64 0, Go.Value.int Go.IntKind.i64 0]), (Go.TypeDesc.array 2 82), false⟩
noncomputable def y117 : TyI := ⟨13, 104, (Go.Value.agg #[Go.Value.int Go.IntKind.i64 0, Go.Value.int Go.IntKind.i64 0, Go.Value.int Go.IntKind.i64 0, Go.Value.int Go.IntKind.i64 0, Go.Value.int Go.IntKind.i64 0, Go.Value.int Go.IntKind.i64 0, Go.Value.int Go.IntKind.i64 0, Go.Value.int Go.IntKind.i64 0, Go.Value.int Go.IntKind.i64 0, Go.Value.int Go.IntKind.i64 0, Go.Value.int Go.IntKind.i64 0, Go.Value.map none, Go.Value.map none]), (Go.TypeDesc.struct #[{ name := "who", type := 3, offset := 0, embedded := false, tag := "", pkgPath := "argosy/table", byteOffset := 0 }, { name := "credits", type := 115, offset := 1, embedded := false, tag := "", pkgPath := "argosy/table", byteOffset := 8 }, { name := "grants", type := 116, offset := 5, embedded := false, tag := "", pkgPath := "argosy/table", byteOffset := 40 }, { name := "sends", type := 113, offset := 11, embedded := false, tag := "", pkgPath := "argosy/table", byteOffset := 88 }, { name := "recvs", type := 114, offset := 12, embedded := false, tag := "", pkgPath := "argosy/table", byteOffset := 96 }]), false⟩
noncomputable def y118 : TyI := ⟨13, 104, (Go.Value.agg #[Go.Value.int Go.IntKind.i64 0, Go.Value.int Go.IntKind.i64 0, Go.Value.int Go.IntKind.i64 0, Go.Value.int Go.IntKind.i64 0, Go.Value.int Go.IntKind.i64 0, Go.Value.int Go.IntKind.i64 0, Go.Value.int Go.IntKind.i64 0, Go.Value.int Go.IntKind.i64 0, Go.Value.int Go.IntKind.i64 0, Go.Value.int Go.IntKind.i64 0, Go.Value.int Go.IntKind.i64 0, Go.Value.map none, Go.Value.map none]), (Go.TypeDesc.struct #[{ name := "who", type := 3, offset := 0, embedded := false, tag := "", pkgPath := "argosy/table", byteOffset := 0 }, { name := "credits", type := 115, offset := 1, embedded := false, tag := "", pkgPath := "argosy/table", byteOffset := 8 }, { name := "grants", type := 116, offset := 5, embedded := false, tag := "", pkgPath := "argosy/table", byteOffset := 40 }, { name := "sends", type := 113, offset := 11, embedded := false, tag := "", pkgPath := "argosy/table", byteOffset := 88 }, { name := "recvs", type := 114, offset := 12, embedded := false, tag := "", pkgPath := "argosy/table", byteOffset := 96 }]), false⟩
noncomputable def y119 : TyI := ⟨1, 8, Go.Value.nilFunc, (Go.TypeDesc.func #[42, 3] #[42] false), false⟩
noncomputable def y120 : TyI := ⟨1, 0, (Go.Value.tuple #[Go.Value.pointer none, Go.Value.bool false]), (Go.TypeDesc.tuple #[47, 4]), false⟩
noncomputable def y121 : TyI := ⟨1, 8, Go.Value.nilFunc, (Go.TypeDesc.func #[3] #[47, 4] false), false⟩
noncomputable def y122 : TyI := ⟨1, 8, Go.Value.nilFunc, (Go.TypeDesc.func #[22, 106] #[22] false), false⟩
noncomputable def y123 : TyI := ⟨1, 8, Go.Value.nilFunc, (Go.TypeDesc.func #[3, 3] #[28] false), false⟩
noncomputable def y124 : TyI := ⟨1, 8, Go.Value.nilFunc, (Go.TypeDesc.func #[3, 3, 3] #[28] false), false⟩
noncomputable def y125 : TyI := ⟨1, 8, Go.Value.nilFunc, (Go.TypeDesc.func #[49] #[27] false), false⟩
noncomputable def y126 : TyI := ⟨1, 8, Go.Value.nilFunc, (Go.TypeDesc.func #[3, 3, 3] #[46] false), false⟩
noncomputable def y127 : TyI := ⟨1, 8, Go.Value.nilFunc, (Go.TypeDesc.func #[3] #[3, 28] false), false⟩
noncomputable def y128 : TyI := ⟨1, 8, Go.Value.nilFunc, (Go.TypeDesc.func #[3, 27] #[28] false), false⟩
noncomputable def y129 : TyI := ⟨1, 8, Go.Value.nilFunc, (Go.TypeDesc.func #[3] #[28] false), false⟩
noncomputable def y130 : TyI := ⟨1, 8, Go.Value.nilFunc, (Go.TypeDesc.func #[49, 92] #[27] true), false⟩
noncomputable def y131 : TyI := ⟨1, 8, Go.Value.nilFunc, (Go.TypeDesc.func #[49, 27] #[27] false), false⟩
noncomputable def y132 : TyI := ⟨1, 8, Go.Value.nilFunc, (Go.TypeDesc.func #[22, 60] #[22] false), false⟩
noncomputable def y133 : TyI := ⟨1, 8, Go.Value.nilFunc, (Go.TypeDesc.func #[22, 3, 3, 3, 26] #[] false), false⟩
noncomputable def y134 : TyI := ⟨1, 8, Go.Value.nilFunc, (Go.TypeDesc.func #[135] #[3] false), false⟩
noncomputable def y135 : TyI := ⟨1, 8, (Go.Value.int Go.IntKind.u64 0), (Go.TypeDesc.int Go.IntKind.u64), false⟩
noncomputable def y136 : TyI := ⟨1, 8, (Go.Value.pointer none), (Go.TypeDesc.pointer 91), false⟩
noncomputable def y137 : TyI := ⟨1, 8, Go.Value.nilFunc, (Go.TypeDesc.func #[89, 140] #[89] false), false⟩
noncomputable def y138 : TyI := ⟨2, 32, (Go.Value.agg #[Go.Value.int Go.IntKind.i64 0, Go.Value.slice none 0 0]), (Go.TypeDesc.struct #[{ name := "Note", type := 3, offset := 0, embedded := false, tag := "", pkgPath := "", byteOffset := 0 }, { name := "Data", type := 27, offset := 1, embedded := false, tag := "", pkgPath := "", byteOffset := 8 }]), false⟩
noncomputable def y139 : TyI := ⟨2, 32, (Go.Value.agg #[Go.Value.int Go.IntKind.i64 0, Go.Value.slice none 0 0]), (Go.TypeDesc.struct #[{ name := "Note", type := 3, offset := 0, embedded := false, tag := "", pkgPath := "", byteOffset := 0 }, { name := "Data", type := 27, offset := 1, embedded := false, tag := "", pkgPath := "", byteOffset := 8 }]), false⟩
noncomputable def y140 : TyI := ⟨1, 8, Go.Value.nilFunc, (Go.TypeDesc.func #[139] #[4] false), false⟩
noncomputable def y141 : TyI := ⟨1, 8, Go.Value.nilFunc, (Go.TypeDesc.func #[22, 106] #[3] false), false⟩
noncomputable def y142 : TyI := ⟨9, 104, (Go.Value.agg #[Go.Value.int Go.IntKind.i64 0, Go.Value.int Go.IntKind.i64 0, Go.Value.int Go.IntKind.i64 0, Go.Value.int Go.IntKind.i64 0, Go.Value.int Go.IntKind.i64 0, Go.Value.int Go.IntKind.i64 0, Go.Value.bool false, Go.Value.slice none 0 0, Go.Value.slice none 0 0]), (Go.TypeDesc.struct #[{ name := "Kind", type := 3, offset := 0, embedded := false, tag := "", pkgPath := "", byteOffset := 0 }, { name := "ID", type := 3, offset := 1, embedded := false, tag := "", pkgPath := "", byteOffset := 8 }, { name := "Off", type := 3, offset := 2, embedded := false, tag := "", pkgPath := "", byteOffset := 16 }, { name := "A", type := 3, offset := 3, embedded := false, tag := "", pkgPath := "", byteOffset := 24 }, { name := "B", type := 3, offset := 4, embedded := false, tag := "", pkgPath := "", byteOffset := 32 }, { name := "Note", type := 3, offset := 5, embedded := false, tag := "", pkgPath := "", byteOffset := 40 }, { name := "Fin", type := 4, offset := 6, embedded := false, tag := "", pkgPath := "", byteOffset := 48 }, { name := "Data", type := 27, offset := 7, embedded := false, tag := "", pkgPath := "", byteOffset := 56 }, { name := "Spans", type := 108, offset := 8, embedded := false, tag := "", pkgPath := "", byteOffset := 80 }]), false⟩
noncomputable def y143 : TyI := ⟨9, 104, (Go.Value.agg #[Go.Value.int Go.IntKind.i64 0, Go.Value.int Go.IntKind.i64 0, Go.Value.int Go.IntKind.i64 0, Go.Value.int Go.IntKind.i64 0, Go.Value.int Go.IntKind.i64 0, Go.Value.int Go.IntKind.i64 0, Go.Value.bool false, Go.Value.slice none 0 0, Go.Value.slice none 0 0]), (Go.TypeDesc.struct #[{ name := "Kind", type := 3, offset := 0, embedded := false, tag := "", pkgPath := "", byteOffset := 0 }, { name := "ID", type := 3, offset := 1, embedded := false, tag := "", pkgPath := "", byteOffset := 8 }, { name := "Off", type := 3, offset := 2, embedded := false, tag := "", pkgPath := "", byteOffset := 16 }, { name := "A", type := 3, offset := 3, embedded := false, tag := "", pkgPath := "", byteOffset := 24 }, { name := "B", type := 3, offset := 4, embedded := false, tag := "", pkgPath := "", byteOffset := 32 }, { name := "Note", type := 3, offset := 5, embedded := false, tag := "", pkgPath := "", byteOffset := 40 }, { name := "Fin", type := 4, offset := 6, embedded := false, tag := "", pkgPath := "", byteOffset := 48 }, { name := "Data", type := 27, offset := 7, embedded := false, tag := "", pkgPath := "", byteOffset := 56 }, { name := "Spans", type := 108, offset := 8, embedded := false, tag := "", pkgPath := "", byteOffset := 80 }]), false⟩
noncomputable def y144 : TyI := ⟨1, 8, Go.Value.nilFunc, (Go.TypeDesc.func #[3, 146] #[28] false), false⟩
noncomputable def y145 : TyI := ⟨1, 8, (Go.Value.pointer none), (Go.TypeDesc.pointer 172), false⟩
noncomputable def y146 : TyI := ⟨1, 8, Go.Value.nilFunc, (Go.TypeDesc.func #[145] #[28] false), false⟩
noncomputable def y147 : TyI := ⟨1, 8, Go.Value.nilFunc, (Go.TypeDesc.func #[27, 22] #[27] true), false⟩
noncomputable def y148 : TyI := ⟨1, 8, Go.Value.nilFunc, (Go.TypeDesc.func #[27] #[28] false), false⟩
noncomputable def y149 : TyI := ⟨1, 8, Go.Value.nilFunc, (Go.TypeDesc.func #[] #[28] false), false⟩
noncomputable def y150 : TyI := ⟨1, 8, Go.Value.nilFunc, (Go.TypeDesc.func #[89] #[3] true), false⟩
noncomputable def y151 : TyI := ⟨1, 8, Go.Value.nilFunc, (Go.TypeDesc.func #[92] #[27] true), false⟩
noncomputable def y152 : TyI := ⟨1, 0, (Go.Value.tuple #[Go.Value.int Go.IntKind.i64 0, Go.Value.int Go.IntKind.i64 0]), (Go.TypeDesc.tuple #[3, 3]), false⟩
noncomputable def y153 : TyI := ⟨1, 8, Go.Value.nilFunc, (Go.TypeDesc.func #[49] #[3, 3] false), false⟩
noncomputable def y154 : TyI := ⟨1, 8, Go.Value.nilFunc, (Go.TypeDesc.func #[22, 3, 3, 26] #[] false), false⟩
noncomputable def y155 : TyI := ⟨1, 8, (Go.Value.int Go.IntKind.i64 0), (Go.TypeDesc.int Go.IntKind.i64), false⟩
noncomputable def y156 : TyI := ⟨1, 0, (Go.Value.tuple #[Go.Value.int Go.IntKind.i64 0, Go.Value.int Go.IntKind.i64 0]), (Go.TypeDesc.tuple #[3, 155]), false⟩
noncomputable def y157 : TyI := ⟨1, 8, Go.Value.nilFunc, (Go.TypeDesc.func #[22, 3, 3, 26] #[3, 155] false), false⟩
noncomputable def y158 : TyI := ⟨1, 8, Go.Value.nilFunc, (Go.TypeDesc.func #[22, 3, 3, 26] #[4] false), false⟩
noncomputable def y159 : TyI := ⟨1, 8, Go.Value.nilFunc, (Go.TypeDesc.func #[22, 3, 3, 3, 26] #[3] false), false⟩
noncomputable def y160 : TyI := ⟨1, 0, (Go.Value.tuple #[Go.Value.int Go.IntKind.i64 0, Go.Value.bool false]), (Go.TypeDesc.tuple #[3, 4]), false⟩
noncomputable def y161 : TyI := ⟨1, 8, Go.Value.nilFunc, (Go.TypeDesc.func #[22, 3, 3, 3, 26] #[3, 4] false), false⟩
noncomputable def y162 : TyI := ⟨1, 8, Go.Value.nilFunc, (Go.TypeDesc.func #[163] #[3] false), false⟩
noncomputable def y163 : TyI := ⟨1, 4, (Go.Value.int Go.IntKind.u32 0), (Go.TypeDesc.int Go.IntKind.u32), false⟩
noncomputable def y164 : TyI := ⟨1, 8, Go.Value.nilFunc, (Go.TypeDesc.func #[42] #[3] false), false⟩
noncomputable def y165 : TyI := ⟨1, 8, Go.Value.nilFunc, (Go.TypeDesc.func #[89, 140] #[3] false), false⟩
noncomputable def y166 : TyI := ⟨1, 8, Go.Value.nilFunc, (Go.TypeDesc.func #[22, 3] #[3] false), false⟩
noncomputable def y167 : TyI := ⟨1, 0, (Go.Value.tuple #[Go.Value.pointer none, Go.Value.bool false]), (Go.TypeDesc.tuple #[145, 4]), false⟩
noncomputable def y168 : TyI := ⟨1, 8, Go.Value.nilFunc, (Go.TypeDesc.func #[3] #[145, 4] false), false⟩
noncomputable def y169 : TyI := ⟨3, 3, (Go.Value.agg #[Go.Value.bool false, Go.Value.bool false, Go.Value.bool false]), (Go.TypeDesc.struct #[{ name := "told", type := 4, offset := 0, embedded := false, tag := "", pkgPath := "argosy/send", byteOffset := 0 }, { name := "due", type := 4, offset := 1, embedded := false, tag := "", pkgPath := "argosy/send", byteOffset := 1 }, { name := "came", type := 4, offset := 2, embedded := false, tag := "", pkgPath := "argosy/send", byteOffset := 2 }]), false⟩
noncomputable def y170 : TyI := ⟨3, 3, (Go.Value.agg #[Go.Value.bool false, Go.Value.bool false, Go.Value.bool false]), (Go.TypeDesc.struct #[{ name := "told", type := 4, offset := 0, embedded := false, tag := "", pkgPath := "argosy/send", byteOffset := 0 }, { name := "due", type := 4, offset := 1, embedded := false, tag := "", pkgPath := "argosy/send", byteOffset := 1 }, { name := "came", type := 4, offset := 2, embedded := false, tag := "", pkgPath := "argosy/send", byteOffset := 2 }]), false⟩
noncomputable def y171 : TyI := ⟨16, 120, (Go.Value.agg #[Go.Value.int Go.IntKind.i64 0, Go.Value.int Go.IntKind.i64 0, Go.Value.int Go.IntKind.i64 0, Go.Value.slice none 0 0, Go.Value.slice none 0 0, Go.Value.slice none 0 0, Go.Value.bool false, Go.Value.bool false, Go.Value.bool false, Go.Value.bool false, Go.Value.bool false, Go.Value.bool false, Go.Value.bool false, Go.Value.bool false, Go.Value.int Go.IntKind.i64 0, Go.Value.int Go.IntKind.i64 0]), (Go.TypeDesc.struct #[{ name := "Credit", type := 80, offset := 0, embedded := true, tag := "", pkgPath := "", byteOffset := 0 }, { name := "id", type := 3, offset := 2, embedded := false, tag := "", pkgPath := "argosy/send", byteOffset := 16 }, { name := "b", type := 27, offset := 3, embedded := false, tag := "", pkgPath := "argosy/send", byteOffset := 24 }, { name := "lost", type := 110, offset := 4, embedded := false, tag := "", pkgPath := "argosy/send", byteOffset := 48 }, { name := "came", type := 110, offset := 5, embedded := false, tag := "", pkgPath := "argosy/send", byteOffset := 72 }, { name := "finished", type := 4, offset := 6, embedded := false, tag := "", pkgPath := "argosy/send", byteOffset := 96 }, { name := "reset", type := 4, offset := 7, embedded := false, tag := "", pkgPath := "argosy/send", byteOffset := 97 }, { name := "fin", type := 170, offset := 8, embedded := false, tag := "", pkgPath := "argosy/send", byteOffset := 98 }, { name := "turn", type := 170, offset := 11, embedded := false, tag := "", pkgPath := "argosy/send", byteOffset := 101 }, { name := "code", type := 3, offset := 14, embedded := false, tag := "", pkgPath := "argosy/send", byteOffset := 104 }, { name := "sure", type := 3, offset := 15, embedded := false, tag := "", pkgPath := "argosy/send", byteOffset := 112 }]), false⟩
noncomputable def y172 : TyI := ⟨16, 120, (Go.Value.agg #[Go.Value.int Go.IntKind.i64 0, Go.Value.int Go.IntKind.i64 0, Go.Value.int Go.IntKind.i64 0, Go.Value.slice none 0 0, Go.Value.slice none 0 0, Go.Value.slice none 0 0, Go.Value.bool false, Go.Value.bool false, Go.Value.bool false, Go.Value.bool false, Go.Value.bool false, Go.Value.bool false, Go.Value.bool false, Go.Value.bool false, Go.Value.int Go.IntKind.i64 0, Go.Value.int Go.IntKind.i64 0]), (Go.TypeDesc.struct #[{ name := "Credit", type := 80, offset := 0, embedded := true, tag := "", pkgPath := "", byteOffset := 0 }, { name := "id", type := 3, offset := 2, embedded := false, tag := "", pkgPath := "argosy/send", byteOffset := 16 }, { name := "b", type := 27, offset := 3, embedded := false, tag := "", pkgPath := "argosy/send", byteOffset := 24 }, { name := "lost", type := 110, offset := 4, embedded := false, tag := "", pkgPath := "argosy/send", byteOffset := 48 }, { name := "came", type := 110, offset := 5, embedded := false, tag := "", pkgPath := "argosy/send", byteOffset := 72 }, { name := "finished", type := 4, offset := 6, embedded := false, tag := "", pkgPath := "argosy/send", byteOffset := 96 }, { name := "reset", type := 4, offset := 7, embedded := false, tag := "", pkgPath := "argosy/send", byteOffset := 97 }, { name := "fin", type := 170, offset := 8, embedded := false, tag := "", pkgPath := "argosy/send", byteOffset := 98 }, { name := "turn", type := 170, offset := 11, embedded := false, tag := "", pkgPath := "argosy/send", byteOffset := 101 }, { name := "code", type := 3, offset := 14, embedded := false, tag := "", pkgPath := "argosy/send", byteOffset := 104 }, { name := "sure", type := 3, offset := 15, embedded := false, tag := "", pkgPath := "argosy/send", byteOffset := 112 }]), false⟩
noncomputable def y173 : TyI := ⟨1, 8, Go.Value.nilFunc, (Go.TypeDesc.func #[3, 3] #[4] false), false⟩
noncomputable def y174 : TyI := ⟨1, 8, Go.Value.nilFunc, (Go.TypeDesc.func #[3, 3, 3] #[3] false), false⟩
noncomputable def y175 : TyI := ⟨1, 8, Go.Value.nilFunc, (Go.TypeDesc.func #[3] #[145] false), false⟩
noncomputable def y176 : TyI := ⟨1, 8, Go.Value.nilFunc, (Go.TypeDesc.func #[] #[139] false), false⟩
noncomputable def y177 : TyI := ⟨1, 8, Go.Value.nilFunc, (Go.TypeDesc.func #[27, 3] #[27] false), false⟩
noncomputable def y178 : TyI := ⟨1, 8, (Go.Value.int Go.IntKind.u64 0), (Go.TypeDesc.int Go.IntKind.u64), false⟩
noncomputable def y179 : TyI := ⟨1, 8, Go.Value.nilFunc, (Go.TypeDesc.func #[3] #[135] false), false⟩
noncomputable def y180 : TyI := ⟨1, 8, Go.Value.nilFunc, (Go.TypeDesc.func #[] #[42] false), false⟩
noncomputable def y181 : TyI := ⟨1, 8, Go.Value.nilFunc, (Go.TypeDesc.func #[22, 3, 182, 26] #[3] false), false⟩
noncomputable def y182 : TyI := ⟨1, 8, (Go.Value.pointer none), (Go.TypeDesc.pointer 3), false⟩
noncomputable def y183 : TyI := ⟨1, 8, Go.Value.nilFunc, (Go.TypeDesc.func #[22, 3, 3, 3, 182, 26] #[3] false), false⟩
noncomputable def y184 : TyI := ⟨1, 8, (Go.Value.pointer none), (Go.TypeDesc.pointer 80), false⟩
noncomputable def y185 : TyI := ⟨1, 8, Go.Value.nilFunc, (Go.TypeDesc.func #[] #[3] false), false⟩
noncomputable def y186 : TyI := ⟨1, 8, (Go.Value.pointer none), (Go.TypeDesc.pointer 178), false⟩
noncomputable def y187 : TyI := ⟨1, 8, Go.Value.nilFunc, (Go.TypeDesc.func #[22, 3, 3, 182, 26] #[3, 3] false), false⟩
noncomputable def y188 : TyI := ⟨1, 8, (Go.Value.pointer none), (Go.TypeDesc.pointer 110), false⟩
noncomputable def y189 : TyI := ⟨1, 8, Go.Value.nilFunc, (Go.TypeDesc.func #[3, 3] #[108] false), false⟩
noncomputable def y190 : TyI := ⟨2, 16, (Go.Value.agg #[Go.Value.int Go.IntKind.i64 0, Go.Value.int Go.IntKind.i64 0]), (Go.TypeDesc.array 2 3), false⟩
noncomputable def y191 : TyI := ⟨1, 8, Go.Value.nilFunc, (Go.TypeDesc.func #[108] #[108] false), false⟩
noncomputable def y192 : TyI := ⟨1, 8, Go.Value.nilFunc, (Go.TypeDesc.func #[] #[9] false), false⟩
noncomputable def y193 : TyI := ⟨4, 40, (Go.Value.agg #[Go.Value.pointer none, Go.Value.pointer none, Go.Value.pointer none, Go.Value.string { data := #[] }]), (Go.TypeDesc.struct #[{ name := "_interface", type := 17, offset := 0, embedded := false, tag := "", pkgPath := "runtime", byteOffset := 0 }, { name := "concrete", type := 17, offset := 1, embedded := false, tag := "", pkgPath := "runtime", byteOffset := 8 }, { name := "asserted", type := 17, offset := 2, embedded := false, tag := "", pkgPath := "runtime", byteOffset := 16 }, { name := "missingMethod", type := 9, offset := 3, embedded := false, tag := "", pkgPath := "runtime", byteOffset := 24 }]), false⟩
noncomputable def y194 : TyI := ⟨4, 40, (Go.Value.agg #[Go.Value.pointer none, Go.Value.pointer none, Go.Value.pointer none, Go.Value.string { data := #[] }]), (Go.TypeDesc.struct #[{ name := "_interface", type := 17, offset := 0, embedded := false, tag := "", pkgPath := "runtime", byteOffset := 0 }, { name := "concrete", type := 17, offset := 1, embedded := false, tag := "", pkgPath := "runtime", byteOffset := 8 }, { name := "asserted", type := 17, offset := 2, embedded := false, tag := "", pkgPath := "runtime", byteOffset := 16 }, { name := "missingMethod", type := 9, offset := 3, embedded := false, tag := "", pkgPath := "runtime", byteOffset := 24 }]), false⟩
noncomputable def y195 : TyI := ⟨0, 0, (Go.Value.agg #[]), (Go.TypeDesc.array 0 16), false⟩
noncomputable def y196 : TyI := ⟨0, 0, (Go.Value.agg #[]), (Go.TypeDesc.struct #[{ name := "_", type := 195, offset := 0, embedded := false, tag := "", pkgPath := "runtime", byteOffset := 0 }]), false⟩
noncomputable def y197 : TyI := ⟨0, 0, (Go.Value.agg #[]), (Go.TypeDesc.struct #[{ name := "_", type := 195, offset := 0, embedded := false, tag := "", pkgPath := "runtime", byteOffset := 0 }]), false⟩
noncomputable def y198 : TyI := ⟨1, 1, (Go.Value.int Go.IntKind.u8 0), (Go.TypeDesc.int Go.IntKind.u8), false⟩
noncomputable def y199 : TyI := ⟨1, 1, (Go.Value.int Go.IntKind.u8 0), (Go.TypeDesc.int Go.IntKind.u8), false⟩
noncomputable def y200 : TyI := ⟨1, 8, Go.Value.nilFunc, (Go.TypeDesc.func #[210, 210] #[4] false), false⟩
noncomputable def y201 : TyI := ⟨1, 8, (Go.Value.pointer none), (Go.TypeDesc.pointer 5), false⟩
noncomputable def y202 : TyI := ⟨1, 4, (Go.Value.int Go.IntKind.i32 0), (Go.TypeDesc.int Go.IntKind.i32), false⟩
noncomputable def y203 : TyI := ⟨1, 4, (Go.Value.int Go.IntKind.i32 0), (Go.TypeDesc.int Go.IntKind.i32), false⟩
noncomputable def y204 : TyI := ⟨11, 48, (Go.Value.agg #[Go.Value.int Go.IntKind.u64 0, Go.Value.int Go.IntKind.u64 0, Go.Value.int Go.IntKind.u32 0, Go.Value.int Go.IntKind.u8 0, Go.Value.int Go.IntKind.u8 0, Go.Value.int Go.IntKind.u8 0, Go.Value.int Go.IntKind.u8 0, Go.Value.nilFunc, Go.Value.pointer none, Go.Value.int Go.IntKind.i32 0, Go.Value.int Go.IntKind.i32 0]), (Go.TypeDesc.struct #[{ name := "Size_", type := 12, offset := 0, embedded := false, tag := "", pkgPath := "", byteOffset := 0 }, { name := "PtrBytes", type := 12, offset := 1, embedded := false, tag := "", pkgPath := "", byteOffset := 8 }, { name := "Hash", type := 163, offset := 2, embedded := false, tag := "", pkgPath := "", byteOffset := 16 }, { name := "TFlag", type := 198, offset := 3, embedded := false, tag := "", pkgPath := "", byteOffset := 20 }, { name := "Align_", type := 5, offset := 4, embedded := false, tag := "", pkgPath := "", byteOffset := 21 }, { name := "FieldAlign_", type := 5, offset := 5, embedded := false, tag := "", pkgPath := "", byteOffset := 22 }, { name := "Kind_", type := 199, offset := 6, embedded := false, tag := "", pkgPath := "", byteOffset := 23 }, { name := "Equal", type := 200, offset := 7, embedded := false, tag := "", pkgPath := "", byteOffset := 24 }, { name := "GCData", type := 201, offset := 8, embedded := false, tag := "", pkgPath := "", byteOffset := 32 }, { name := "Str", type := 202, offset := 9, embedded := false, tag := "", pkgPath := "", byteOffset := 40 }, { name := "PtrToThis", type := 203, offset := 10, embedded := false, tag := "", pkgPath := "", byteOffset := 44 }]), false⟩
noncomputable def y205 : TyI := ⟨11, 48, (Go.Value.agg #[Go.Value.int Go.IntKind.u64 0, Go.Value.int Go.IntKind.u64 0, Go.Value.int Go.IntKind.u32 0, Go.Value.int Go.IntKind.u8 0, Go.Value.int Go.IntKind.u8 0, Go.Value.int Go.IntKind.u8 0, Go.Value.int Go.IntKind.u8 0, Go.Value.nilFunc, Go.Value.pointer none, Go.Value.int Go.IntKind.i32 0, Go.Value.int Go.IntKind.i32 0]), (Go.TypeDesc.struct #[{ name := "Size_", type := 12, offset := 0, embedded := false, tag := "", pkgPath := "", byteOffset := 0 }, { name := "PtrBytes", type := 12, offset := 1, embedded := false, tag := "", pkgPath := "", byteOffset := 8 }, { name := "Hash", type := 163, offset := 2, embedded := false, tag := "", pkgPath := "", byteOffset := 16 }, { name := "TFlag", type := 198, offset := 3, embedded := false, tag := "", pkgPath := "", byteOffset := 20 }, { name := "Align_", type := 5, offset := 4, embedded := false, tag := "", pkgPath := "", byteOffset := 21 }, { name := "FieldAlign_", type := 5, offset := 5, embedded := false, tag := "", pkgPath := "", byteOffset := 22 }, { name := "Kind_", type := 199, offset := 6, embedded := false, tag := "", pkgPath := "", byteOffset := 23 }, { name := "Equal", type := 200, offset := 7, embedded := false, tag := "", pkgPath := "", byteOffset := 24 }, { name := "GCData", type := 201, offset := 8, embedded := false, tag := "", pkgPath := "", byteOffset := 32 }, { name := "Str", type := 202, offset := 9, embedded := false, tag := "", pkgPath := "", byteOffset := 40 }, { name := "PtrToThis", type := 203, offset := 10, embedded := false, tag := "", pkgPath := "", byteOffset := 44 }]), false⟩
noncomputable def y206 : TyI := ⟨1, 8, Go.Value.nilFunc, (Go.TypeDesc.func #[] #[3, 4] false), false⟩
noncomputable def y207 : TyI := ⟨4, 48, (Go.Value.agg #[Go.Value.int Go.IntKind.i64 0, Go.Value.int Go.IntKind.i64 0, Go.Value.bool false, Go.Value.slice none 0 0]), (Go.TypeDesc.struct #[{ name := "Num", type := 3, offset := 0, embedded := false, tag := "", pkgPath := "", byteOffset := 0 }, { name := "At", type := 3, offset := 1, embedded := false, tag := "", pkgPath := "", byteOffset := 8 }, { name := "Elicits", type := 4, offset := 2, embedded := false, tag := "", pkgPath := "", byteOffset := 16 }, { name := "Frames", type := 88, offset := 3, embedded := false, tag := "", pkgPath := "", byteOffset := 24 }]), false⟩
noncomputable def y208 : TyI := ⟨4, 48, (Go.Value.agg #[Go.Value.int Go.IntKind.i64 0, Go.Value.int Go.IntKind.i64 0, Go.Value.bool false, Go.Value.slice none 0 0]), (Go.TypeDesc.struct #[{ name := "Num", type := 3, offset := 0, embedded := false, tag := "", pkgPath := "", byteOffset := 0 }, { name := "At", type := 3, offset := 1, embedded := false, tag := "", pkgPath := "", byteOffset := 8 }, { name := "Elicits", type := 4, offset := 2, embedded := false, tag := "", pkgPath := "", byteOffset := 16 }, { name := "Frames", type := 88, offset := 3, embedded := false, tag := "", pkgPath := "", byteOffset := 24 }]), false⟩
noncomputable def y209 : TyI := ⟨1, 8, (Go.Value.pointer none), (Go.TypeDesc.pointer 212), false⟩
noncomputable def y210 : TyI := ⟨1, 8, (Go.Value.pointer none), Go.TypeDesc.unsafePointer, false⟩
noncomputable def y211 : TyI := ⟨13, 128, (Go.Value.agg #[Go.Value.slice none 0 0, Go.Value.int Go.IntKind.i64 0, Go.Value.int Go.IntKind.i64 0, Go.Value.int Go.IntKind.i64 0, Go.Value.int Go.IntKind.i64 0, Go.Value.int Go.IntKind.i64 0, Go.Value.int Go.IntKind.i64 0, Go.Value.slice none 0 0, Go.Value.bool false, Go.Value.bool false, Go.Value.int Go.IntKind.i64 0, Go.Value.int Go.IntKind.i64 0, Go.Value.int Go.IntKind.i64 0]), (Go.TypeDesc.struct #[{ name := "Set", type := 110, offset := 0, embedded := true, tag := "", pkgPath := "", byteOffset := 0 }, { name := "Grant", type := 82, offset := 1, embedded := true, tag := "", pkgPath := "", byteOffset := 24 }, { name := "id", type := 3, offset := 4, embedded := false, tag := "", pkgPath := "argosy/recv", byteOffset := 48 }, { name := "taken", type := 3, offset := 5, embedded := false, tag := "", pkgPath := "argosy/recv", byteOffset := 56 }, { name := "top", type := 3, offset := 6, embedded := false, tag := "", pkgPath := "argosy/recv", byteOffset := 64 }, { name := "b", type := 27, offset := 7, embedded := false, tag := "", pkgPath := "argosy/recv", byteOffset := 72 }, { name := "ended", type := 4, offset := 8, embedded := false, tag := "", pkgPath := "argosy/recv", byteOffset := 96 }, { name := "broken", type := 4, offset := 9, embedded := false, tag := "", pkgPath := "argosy/recv", byteOffset := 97 }, { name := "end", type := 3, offset := 10, embedded := false, tag := "", pkgPath := "argosy/recv", byteOffset := 104 }, { name := "code", type := 3, offset := 11, embedded := false, tag := "", pkgPath := "argosy/recv", byteOffset := 112 }, { name := "sure", type := 3, offset := 12, embedded := false, tag := "", pkgPath := "argosy/recv", byteOffset := 120 }]), false⟩
noncomputable def y212 : TyI := ⟨13, 128, (Go.Value.agg #[Go.Value.slice none 0 0, Go.Value.int Go.IntKind.i64 0, Go.Value.int Go.IntKind.i64 0, Go.Value.int Go.IntKind.i64 0, Go.Value.int Go.IntKind.i64 0, Go.Value.int Go.IntKind.i64 0, Go.Value.int Go.IntKind.i64 0, Go.Value.slice none 0 0, Go.Value.bool false, Go.Value.bool false, Go.Value.int Go.IntKind.i64 0, Go.Value.int Go.IntKind.i64 0, Go.Value.int Go.IntKind.i64 0]), (Go.TypeDesc.struct #[{ name := "Set", type := 110, offset := 0, embedded := true, tag := "", pkgPath := "", byteOffset := 0 }, { name := "Grant", type := 82, offset := 1, embedded := true, tag := "", pkgPath := "", byteOffset := 24 }, { name := "id", type := 3, offset := 4, embedded := false, tag := "", pkgPath := "argosy/recv", byteOffset := 48 }, { name := "taken", type := 3, offset := 5, embedded := false, tag := "", pkgPath := "argosy/recv", byteOffset := 56 }, { name := "top", type := 3, offset := 6, embedded := false, tag := "", pkgPath := "argosy/recv", byteOffset := 64 }, { name := "b", type := 27, offset := 7, embedded := false, tag := "", pkgPath := "argosy/recv", byteOffset := 72 }, { name := "ended", type := 4, offset := 8, embedded := false, tag := "", pkgPath := "argosy/recv", byteOffset := 96 }, { name := "broken", type := 4, offset := 9, embedded := false, tag := "", pkgPath := "argosy/recv", byteOffset := 97 }, { name := "end", type := 3, offset := 10, embedded := false, tag := "", pkgPath := "argosy/recv", byteOffset := 104 }, { name := "code", type := 3, offset := 11, embedded := false, tag := "", pkgPath := "argosy/recv", byteOffset := 112 }, { name := "sure", type := 3, offset := 12, embedded := false, tag := "", pkgPath := "argosy/recv", byteOffset := 120 }]), false⟩
noncomputable def y213 : TyI := ⟨1, 8, (Go.Value.pointer none), (Go.TypeDesc.pointer 67), false⟩
noncomputable def ty : Tr TyI := (.node (.node (.node (.node (.node (.node (.node (.node .leaf (some y127) .leaf) (some y63) (.node .leaf (some y191) .leaf)) (some y31) (.node (.node .leaf (some y159) .leaf) (some y95) .leaf)) (some y15) (.node (.node (.node .leaf (some y143) .leaf) (some y79) (.node .leaf (some y207) .leaf)) (some y47) (.node (.node .leaf (some y175) .leaf) (some y111) .leaf))) (some y7) (.node (.node (.node (.node .leaf (some y135) .leaf) (some y71) (.node .leaf (some y199) .leaf)) (some y39) (.node (.node .leaf (some y167) .leaf) (some y103) .leaf)) (some y23) (.node (.node (.node .leaf (some y151) .leaf) (some y87) .leaf) (some y55) (.node (.node .leaf (some y183) .leaf) (some y119) .leaf)))) (some y3) (.node (.node (.node (.node (.node .leaf (some y131) .leaf) (some y67) (.node .leaf (some y195) .leaf)) (some y35) (.node (.node .leaf (some y163) .leaf) (some y99) .leaf)) (some y19) (.node (.node (.node .leaf (some y147) .leaf) (some y83) (.node .leaf (some y211) .leaf)) (some y51) (.node (.node .leaf (some y179) .leaf) (some y115) .leaf))) (some y11) (.node (.node (.node (.node .leaf (some y139) .leaf) (some y75) (.node .leaf (some y203) .leaf)) (some y43) (.node (.node .leaf (some y171) .leaf) (some y107) .leaf)) (some y27) (.node (.node (.node .leaf (some y155) .leaf) (some y91) .leaf) (some y59) (.node (.node .leaf (some y187) .leaf) (some y123) .leaf))))) (some y1) (.node (.node (.node (.node (.node (.node .leaf (some y129) .leaf) (some y65) (.node .leaf (some y193) .leaf)) (some y33) (.node (.node .leaf (some y161) .leaf) (some y97) .leaf)) (some y17) (.node (.node (.node .leaf (some y145) .leaf) (some y81) (.node .leaf (some y209) .leaf)) (some y49) (.node (.node .leaf (some y177) .leaf) (some y113) .leaf))) (some y9) (.node (.node (.node (.node .leaf (some y137) .leaf) (some y73) (.node .leaf (some y201) .leaf)) (some y41) (.node (.node .leaf (some y169) .leaf) (some y105) .leaf)) (some y25) (.node (.node (.node .leaf (some y153) .leaf) (some y89) .leaf) (some y57) (.node (.node .leaf (some y185) .leaf) (some y121) .leaf)))) (some y5) (.node (.node (.node (.node (.node .leaf (some y133) .leaf) (some y69) (.node .leaf (some y197) .leaf)) (some y37) (.node (.node .leaf (some y165) .leaf) (some y101) .leaf)) (some y21) (.node (.node (.node .leaf (some y149) .leaf) (some y85) (.node .leaf (some y213) .leaf)) (some y53) (.node (.node .leaf (some y181) .leaf) (some y117) .leaf))) (some y13) (.node (.node (.node (.node .leaf (some y141) .leaf) (some y77) (.node .leaf (some y205) .leaf)) (some y45) (.node (.node .leaf (some y173) .leaf) (some y109) .leaf)) (some y29) (.node (.node (.node .leaf (some y157) .leaf) (some y93) .leaf) (some y61) (.node (.node .leaf (some y189) .leaf) (some y125) .leaf)))))) (some y0) (.node (.node (.node (.node (.node (.node (.node .leaf (some y128) .leaf) (some y64) (.node .leaf (some y192) .leaf)) (some y32) (.node (.node .leaf (some y160) .leaf) (some y96) .leaf)) (some y16) (.node (.node (.node .leaf (some y144) .leaf) (some y80) (.node .leaf (some y208) .leaf)) (some y48) (.node (.node .leaf (some y176) .leaf) (some y112) .leaf))) (some y8) (.node (.node (.node (.node .leaf (some y136) .leaf) (some y72) (.node .leaf (some y200) .leaf)) (some y40) (.node (.node .leaf (some y168) .leaf) (some y104) .leaf)) (some y24) (.node (.node (.node .leaf (some y152) .leaf) (some y88) .leaf) (some y56) (.node (.node .leaf (some y184) .leaf) (some y120) .leaf)))) (some y4) (.node (.node (.node (.node (.node .leaf (some y132) .leaf) (some y68) (.node .leaf (some y196) .leaf)) (some y36) (.node (.node .leaf (some y164) .leaf) (some y100) .leaf)) (some y20) (.node (.node (.node .leaf (some y148) .leaf) (some y84) (.node .leaf (some y212) .leaf)) (some y52) (.node (.node .leaf (some y180) .leaf) (some y116) .leaf))) (some y12) (.node (.node (.node (.node .leaf (some y140) .leaf) (some y76) (.node .leaf (some y204) .leaf)) (some y44) (.node (.node .leaf (some y172) .leaf) (some y108) .leaf)) (some y28) (.node (.node (.node .leaf (some y156) .leaf) (some y92) .leaf) (some y60) (.node (.node .leaf (some y188) .leaf) (some y124) .leaf))))) (some y2) (.node (.node (.node (.node (.node (.node .leaf (some y130) .leaf) (some y66) (.node .leaf (some y194) .leaf)) (some y34) (.node (.node .leaf (some y162) .leaf) (some y98) .leaf)) (some y18) (.node (.node (.node .leaf (some y146) .leaf) (some y82) (.node .leaf (some y210) .leaf)) (some y50) (.node (.node .leaf (some y178) .leaf) (some y114) .leaf))) (some y10) (.node (.node (.node (.node .leaf (some y138) .leaf) (some y74) (.node .leaf (some y202) .leaf)) (some y42) (.node (.node .leaf (some y170) .leaf) (some y106) .leaf)) (some y26) (.node (.node (.node .leaf (some y154) .leaf) (some y90) .leaf) (some y58) (.node (.node .leaf (some y186) .leaf) (some y122) .leaf)))) (some y6) (.node (.node (.node (.node (.node .leaf (some y134) .leaf) (some y70) (.node .leaf (some y198) .leaf)) (some y38) (.node (.node .leaf (some y166) .leaf) (some y102) .leaf)) (some y22) (.node (.node (.node .leaf (some y150) .leaf) (some y86) .leaf) (some y54) (.node (.node .leaf (some y182) .leaf) (some y118) .leaf))) (some y14) (.node (.node (.node (.node .leaf (some y142) .leaf) (some y78) (.node .leaf (some y206) .leaf)) (some y46) (.node (.node .leaf (some y174) .leaf) (some y110) .leaf)) (some y30) (.node (.node (.node .leaf (some y158) .leaf) (some y94) .leaf) (some y62) (.node (.node .leaf (some y190) .leaf) (some y126) .leaf)))))))
noncomputable def fn : Tr Func := (.node (.node (.node (.node (.node (.node (.node .leaf (some Tryz.f63) .leaf) (some Tryz.f31) .leaf) (some Tryz.f15) (.node .leaf (some Tryz.f47) .leaf)) (some Tryz.f7) (.node (.node .leaf (some Tryz.f39) .leaf) (some Tryz.f23) .leaf)) (some Tryz.f3) (.node (.node (.node .leaf (some Tryz.f35) .leaf) (some Tryz.f19) .leaf) (some Tryz.f11) (.node .leaf (some Tryz.f27) .leaf))) none (.node (.node (.node (.node .leaf (some Tryz.f33) .leaf) (some Tryz.f17) (.node .leaf (some Tryz.f49) .leaf)) (some Tryz.f9) (.node (.node .leaf (some Tryz.f41) .leaf) (some Tryz.f25) (.node (.node .leaf (some Tryz.f89) .leaf) none .leaf))) (some Tryz.f5) (.node (.node (.node (.node .leaf (some Tryz.f69) .leaf) none .leaf) (some Tryz.f21) .leaf) (some Tryz.f13) (.node (.node .leaf (some Tryz.f45) .leaf) (some Tryz.f29) (.node .leaf (some Tryz.f61) .leaf))))) none (.node (.node (.node (.node (.node (.node .leaf (some Tryz.f64) .leaf) (some Tryz.f32) .leaf) (some Tryz.f16) (.node .leaf (some Tryz.f48) .leaf)) (some Tryz.f8) (.node (.node .leaf (some Tryz.f40) .leaf) (some Tryz.f24) .leaf)) (some Tryz.f4) (.node (.node .leaf (some Tryz.f20) .leaf) (some Tryz.f12) (.node (.node .leaf (some Tryz.f44) .leaf) (some Tryz.f28) (.node .leaf (some Tryz.f60) .leaf)))) none (.node (.node (.node (.node .leaf (some Tryz.f34) .leaf) (some Tryz.f18) (.node .leaf (some Tryz.f50) .leaf)) (some Tryz.f10) (.node (.node .leaf (some Tryz.f42) .leaf) (some Tryz.f26) .leaf)) (some Tryz.f6) (.node (.node .leaf (some Tryz.f22) .leaf) (some Tryz.f14) (.node (.node .leaf (some Tryz.f46) .leaf) (some Tryz.f30) .leaf)))))
def FnP (f : Nat) (F : Func) : Prop := Tryz.prog.funcs[f]? = some F ∧ F.body ≠ none ∧ (F.name == "runtime.NumGoroutine") = false
def TyP (t : Nat) (i : TyI) : Prop := Tryz.prog.underlying t = some i.desc ∧ ∃ inf, Tryz.prog.info? t = some inf ∧ inf.size = i.size ∧ inf.bytes = i.bytes ∧ inf.zero = some i.zero ∧ i.zero.cells.size = i.size ∧ free i.zero = true ∧ i.size < 4294967296
def FlP (t : Nat) (i : TyI) : Prop := i.flat = true → ∀ xs ys b, xs.length = i.size → cellsEq i.zero.cells.toList xs ys = some b → ∀ w, (Op.equal t (.agg xs.toArray) (.agg ys.toArray)).run Tryz.prog w = .ok b w ∧ ∀ op x y, (eqGuard op t x y (.agg xs.toArray) (.agg ys.toArray)).run Tryz.prog w = .ok () w
theorem p3 : FnP 3 Tryz.f3 := ⟨Tryz.func3, fun h => Option.some_ne_none _ h, by decide +kernel⟩
theorem p4 : FnP 4 Tryz.f4 := ⟨Tryz.func4, fun h => Option.some_ne_none _ h, by decide +kernel⟩
theorem p5 : FnP 5 Tryz.f5 := ⟨Tryz.func5, fun h => Option.some_ne_none _ h, by decide +kernel⟩
theorem p6 : FnP 6 Tryz.f6 := ⟨Tryz.func6, fun h => Option.some_ne_none _ h, by decide +kernel⟩
theorem p7 : FnP 7 Tryz.f7 := ⟨Tryz.func7, fun h => Option.some_ne_none _ h, by decide +kernel⟩
theorem p8 : FnP 8 Tryz.f8 := ⟨Tryz.func8, fun h => Option.some_ne_none _ h, by decide +kernel⟩
theorem p9 : FnP 9 Tryz.f9 := ⟨Tryz.func9, fun h => Option.some_ne_none _ h, by decide +kernel⟩
theorem p10 : FnP 10 Tryz.f10 := ⟨Tryz.func10, fun h => Option.some_ne_none _ h, by decide +kernel⟩
theorem p11 : FnP 11 Tryz.f11 := ⟨Tryz.func11, fun h => Option.some_ne_none _ h, by decide +kernel⟩
theorem p12 : FnP 12 Tryz.f12 := ⟨Tryz.func12, fun h => Option.some_ne_none _ h, by decide +kernel⟩
theorem p13 : FnP 13 Tryz.f13 := ⟨Tryz.func13, fun h => Option.some_ne_none _ h, by decide +kernel⟩
theorem p14 : FnP 14 Tryz.f14 := ⟨Tryz.func14, fun h => Option.some_ne_none _ h, by decide +kernel⟩
theorem p15 : FnP 15 Tryz.f15 := ⟨Tryz.func15, fun h => Option.some_ne_none _ h, by decide +kernel⟩
theorem p16 : FnP 16 Tryz.f16 := ⟨Tryz.func16, fun h => Option.some_ne_none _ h, by decide +kernel⟩
theorem p17 : FnP 17 Tryz.f17 := ⟨Tryz.func17, fun h => Option.some_ne_none _ h, by decide +kernel⟩
theorem p18 : FnP 18 Tryz.f18 := ⟨Tryz.func18, fun h => Option.some_ne_none _ h, by decide +kernel⟩
theorem p19 : FnP 19 Tryz.f19 := ⟨Tryz.func19, fun h => Option.some_ne_none _ h, by decide +kernel⟩
theorem p20 : FnP 20 Tryz.f20 := ⟨Tryz.func20, fun h => Option.some_ne_none _ h, by decide +kernel⟩
theorem p21 : FnP 21 Tryz.f21 := ⟨Tryz.func21, fun h => Option.some_ne_none _ h, by decide +kernel⟩
theorem p22 : FnP 22 Tryz.f22 := ⟨Tryz.func22, fun h => Option.some_ne_none _ h, by decide +kernel⟩
theorem p23 : FnP 23 Tryz.f23 := ⟨Tryz.func23, fun h => Option.some_ne_none _ h, by decide +kernel⟩
theorem p24 : FnP 24 Tryz.f24 := ⟨Tryz.func24, fun h => Option.some_ne_none _ h, by decide +kernel⟩
theorem p25 : FnP 25 Tryz.f25 := ⟨Tryz.func25, fun h => Option.some_ne_none _ h, by decide +kernel⟩
theorem p26 : FnP 26 Tryz.f26 := ⟨Tryz.func26, fun h => Option.some_ne_none _ h, by decide +kernel⟩
theorem p27 : FnP 27 Tryz.f27 := ⟨Tryz.func27, fun h => Option.some_ne_none _ h, by decide +kernel⟩
theorem p28 : FnP 28 Tryz.f28 := ⟨Tryz.func28, fun h => Option.some_ne_none _ h, by decide +kernel⟩
theorem p29 : FnP 29 Tryz.f29 := ⟨Tryz.func29, fun h => Option.some_ne_none _ h, by decide +kernel⟩
theorem p30 : FnP 30 Tryz.f30 := ⟨Tryz.func30, fun h => Option.some_ne_none _ h, by decide +kernel⟩
theorem p31 : FnP 31 Tryz.f31 := ⟨Tryz.func31, fun h => Option.some_ne_none _ h, by decide +kernel⟩
theorem p32 : FnP 32 Tryz.f32 := ⟨Tryz.func32, fun h => Option.some_ne_none _ h, by decide +kernel⟩
theorem p33 : FnP 33 Tryz.f33 := ⟨Tryz.func33, fun h => Option.some_ne_none _ h, by decide +kernel⟩
theorem p34 : FnP 34 Tryz.f34 := ⟨Tryz.func34, fun h => Option.some_ne_none _ h, by decide +kernel⟩
theorem p35 : FnP 35 Tryz.f35 := ⟨Tryz.func35, fun h => Option.some_ne_none _ h, by decide +kernel⟩
theorem p39 : FnP 39 Tryz.f39 := ⟨Tryz.func39, fun h => Option.some_ne_none _ h, by decide +kernel⟩
theorem p40 : FnP 40 Tryz.f40 := ⟨Tryz.func40, fun h => Option.some_ne_none _ h, by decide +kernel⟩
theorem p41 : FnP 41 Tryz.f41 := ⟨Tryz.func41, fun h => Option.some_ne_none _ h, by decide +kernel⟩
theorem p42 : FnP 42 Tryz.f42 := ⟨Tryz.func42, fun h => Option.some_ne_none _ h, by decide +kernel⟩
theorem p44 : FnP 44 Tryz.f44 := ⟨Tryz.func44, fun h => Option.some_ne_none _ h, by decide +kernel⟩
theorem p45 : FnP 45 Tryz.f45 := ⟨Tryz.func45, fun h => Option.some_ne_none _ h, by decide +kernel⟩
theorem p46 : FnP 46 Tryz.f46 := ⟨Tryz.func46, fun h => Option.some_ne_none _ h, by decide +kernel⟩
theorem p47 : FnP 47 Tryz.f47 := ⟨Tryz.func47, fun h => Option.some_ne_none _ h, by decide +kernel⟩
theorem p48 : FnP 48 Tryz.f48 := ⟨Tryz.func48, fun h => Option.some_ne_none _ h, by decide +kernel⟩
theorem p49 : FnP 49 Tryz.f49 := ⟨Tryz.func49, fun h => Option.some_ne_none _ h, by decide +kernel⟩
theorem p50 : FnP 50 Tryz.f50 := ⟨Tryz.func50, fun h => Option.some_ne_none _ h, by decide +kernel⟩
theorem p60 : FnP 60 Tryz.f60 := ⟨Tryz.func60, fun h => Option.some_ne_none _ h, by decide +kernel⟩
theorem p61 : FnP 61 Tryz.f61 := ⟨Tryz.func61, fun h => Option.some_ne_none _ h, by decide +kernel⟩
theorem p63 : FnP 63 Tryz.f63 := ⟨Tryz.func63, fun h => Option.some_ne_none _ h, by decide +kernel⟩
theorem p64 : FnP 64 Tryz.f64 := ⟨Tryz.func64, fun h => Option.some_ne_none _ h, by decide +kernel⟩
theorem p69 : FnP 69 Tryz.f69 := ⟨Tryz.func69, fun h => Option.some_ne_none _ h, by decide +kernel⟩
theorem p89 : FnP 89 Tryz.f89 := ⟨Tryz.func89, fun h => Option.some_ne_none _ h, by decide +kernel⟩
theorem q0 : TyP 0 y0 := ⟨Tryz.underlying0, Tryz.t0, by kernel_rfl, rfl, rfl, rfl, rfl, by kernel_rfl, by decide⟩
theorem r0 : FlP 0 y0 := fun h => by cases h
theorem q1 : TyP 1 y1 := ⟨Tryz.underlying1, Tryz.t1, by kernel_rfl, rfl, rfl, rfl, rfl, by kernel_rfl, by decide⟩
theorem r1 : FlP 1 y1 := fun h => by cases h
theorem q2 : TyP 2 y2 := ⟨Tryz.underlying2, Tryz.t2, by kernel_rfl, rfl, rfl, rfl, rfl, by kernel_rfl, by decide⟩
theorem r2 : FlP 2 y2 := fun h => by cases h
theorem q3 : TyP 3 y3 := ⟨Tryz.underlying3, Tryz.t3, by kernel_rfl, rfl, rfl, rfl, rfl, by kernel_rfl, by decide⟩
theorem r3 : FlP 3 y3 := fun h => by cases h
theorem q4 : TyP 4 y4 := ⟨Tryz.underlying4, Tryz.t4, by kernel_rfl, rfl, rfl, rfl, rfl, by kernel_rfl, by decide⟩
theorem r4 : FlP 4 y4 := fun h => by cases h
theorem q5 : TyP 5 y5 := ⟨Tryz.underlying5, Tryz.t5, by kernel_rfl, rfl, rfl, rfl, rfl, by kernel_rfl, by decide⟩
theorem r5 : FlP 5 y5 := fun h => by cases h
theorem q6 : TyP 6 y6 := ⟨Tryz.underlying6, Tryz.t6, by kernel_rfl, rfl, rfl, rfl, rfl, by kernel_rfl, by decide⟩
theorem r6 : FlP 6 y6 := fun h => by cases h
theorem q7 : TyP 7 y7 := ⟨Tryz.underlying7, Tryz.t7, by kernel_rfl, rfl, rfl, rfl, rfl, by kernel_rfl, by decide⟩
theorem r7 : FlP 7 y7 := fun h => by cases h
theorem q8 : TyP 8 y8 := ⟨Tryz.underlying8, Tryz.t8, by kernel_rfl, rfl, rfl, rfl, rfl, by kernel_rfl, by decide⟩
theorem r8 : FlP 8 y8 := fun h => by cases h
theorem q9 : TyP 9 y9 := ⟨Tryz.underlying9, Tryz.t9, by kernel_rfl, rfl, rfl, rfl, rfl, by kernel_rfl, by decide⟩
theorem r9 : FlP 9 y9 := fun h => by cases h
theorem q10 : TyP 10 y10 := ⟨Tryz.underlying10, Tryz.t10, by kernel_rfl, rfl, rfl, rfl, rfl, by kernel_rfl, by decide⟩
theorem r10 : FlP 10 y10 := fun h => by cases h
theorem q11 : TyP 11 y11 := ⟨Tryz.underlying11, Tryz.t11, by kernel_rfl, rfl, rfl, rfl, rfl, by kernel_rfl, by decide⟩
theorem r11 : FlP 11 y11 := fun h => by cases h
theorem q12 : TyP 12 y12 := ⟨Tryz.underlying12, Tryz.t12, by kernel_rfl, rfl, rfl, rfl, rfl, by kernel_rfl, by decide⟩
theorem r12 : FlP 12 y12 := fun h => by cases h
theorem q13 : TyP 13 y13 := ⟨Tryz.underlying13, Tryz.t13, by kernel_rfl, rfl, rfl, rfl, rfl, by kernel_rfl, by decide⟩
theorem r13 : FlP 13 y13 := fun h => by cases h
theorem q14 : TyP 14 y14 := ⟨Tryz.underlying14, Tryz.t14, by kernel_rfl, rfl, rfl, rfl, rfl, by kernel_rfl, by decide⟩
theorem r14 : FlP 14 y14 := fun h => by cases h
theorem q15 : TyP 15 y15 := ⟨Tryz.underlying15, Tryz.t15, by kernel_rfl, rfl, rfl, rfl, rfl, by kernel_rfl, by decide⟩
theorem r15 : FlP 15 y15 := fun h => by cases h
theorem q16 : TyP 16 y16 := ⟨Tryz.underlying16, Tryz.t16, by kernel_rfl, rfl, rfl, rfl, rfl, by kernel_rfl, by decide⟩
theorem r16 : FlP 16 y16 := fun h => by cases h
theorem q17 : TyP 17 y17 := ⟨Tryz.underlying17, Tryz.t17, by kernel_rfl, rfl, rfl, rfl, rfl, by kernel_rfl, by decide⟩
theorem r17 : FlP 17 y17 := fun h => by cases h
theorem q18 : TyP 18 y18 := ⟨Tryz.underlying18, Tryz.t18, by kernel_rfl, rfl, rfl, rfl, rfl, by kernel_rfl, by decide⟩
theorem r18 : FlP 18 y18 := fun h => by cases h
theorem q19 : TyP 19 y19 := ⟨Tryz.underlying19, Tryz.t19, by kernel_rfl, rfl, rfl, rfl, rfl, by kernel_rfl, by decide⟩
theorem r19 : FlP 19 y19 := fun h => by cases h
theorem q20 : TyP 20 y20 := ⟨Tryz.underlying20, Tryz.t20, by kernel_rfl, rfl, rfl, rfl, rfl, by kernel_rfl, by decide⟩
theorem r20 : FlP 20 y20 := fun h => by cases h
theorem q21 : TyP 21 y21 := ⟨Tryz.underlying21, Tryz.t21, by kernel_rfl, rfl, rfl, rfl, rfl, by kernel_rfl, by decide⟩
theorem r21 : FlP 21 y21 := fun h => by cases h
theorem q22 : TyP 22 y22 := ⟨Tryz.underlying22, Tryz.t22, by kernel_rfl, rfl, rfl, rfl, rfl, by kernel_rfl, by decide⟩
theorem r22 : FlP 22 y22 := fun h => by cases h
theorem q23 : TyP 23 y23 := ⟨Tryz.underlying23, Tryz.t23, by kernel_rfl, rfl, rfl, rfl, rfl, by kernel_rfl, by decide⟩
theorem r23 : FlP 23 y23 := fun h => by cases h
theorem q24 : TyP 24 y24 := ⟨Tryz.underlying24, Tryz.t24, by kernel_rfl, rfl, rfl, rfl, rfl, by kernel_rfl, by decide⟩
theorem r24 : FlP 24 y24 := fun h => by cases h
theorem q25 : TyP 25 y25 := ⟨Tryz.underlying25, Tryz.t25, by kernel_rfl, rfl, rfl, rfl, rfl, by kernel_rfl, by decide⟩
theorem r25 : FlP 25 y25 := fun h => by cases h
theorem q26 : TyP 26 y26 := ⟨Tryz.underlying26, Tryz.t26, by kernel_rfl, rfl, rfl, rfl, rfl, by kernel_rfl, by decide⟩
theorem r26 : FlP 26 y26 := fun h => by cases h
theorem q27 : TyP 27 y27 := ⟨Tryz.underlying27, Tryz.t27, by kernel_rfl, rfl, rfl, rfl, rfl, by kernel_rfl, by decide⟩
theorem r27 : FlP 27 y27 := fun h => by cases h
theorem q28 : TyP 28 y28 := ⟨Tryz.underlying28, Tryz.t28, by kernel_rfl, rfl, rfl, rfl, rfl, by kernel_rfl, by decide⟩
theorem r28 : FlP 28 y28 := fun h => by cases h
theorem q29 : TyP 29 y29 := ⟨Tryz.underlying29, Tryz.t29, by kernel_rfl, rfl, rfl, rfl, rfl, by kernel_rfl, by decide⟩
theorem r29 : FlP 29 y29 := fun h => by cases h
theorem q30 : TyP 30 y30 := ⟨Tryz.underlying30, Tryz.t30, by kernel_rfl, rfl, rfl, rfl, rfl, by kernel_rfl, by decide⟩
theorem r30 : FlP 30 y30 := fun h => by cases h
theorem q31 : TyP 31 y31 := ⟨Tryz.underlying31, Tryz.t31, by kernel_rfl, rfl, rfl, rfl, rfl, by kernel_rfl, by decide⟩
theorem r31 : FlP 31 y31 := fun h => by cases h
theorem q32 : TyP 32 y32 := ⟨Tryz.underlying32, Tryz.t32, by kernel_rfl, rfl, rfl, rfl, rfl, by kernel_rfl, by decide⟩
theorem r32 : FlP 32 y32 := fun h => by cases h
theorem q33 : TyP 33 y33 := ⟨Tryz.underlying33, Tryz.t33, by kernel_rfl, rfl, rfl, rfl, rfl, by kernel_rfl, by decide⟩
theorem r33 : FlP 33 y33 := fun h => by cases h
theorem q34 : TyP 34 y34 := ⟨Tryz.underlying34, Tryz.t34, by kernel_rfl, rfl, rfl, rfl, rfl, by kernel_rfl, by decide⟩
theorem r34 : FlP 34 y34 := fun h => by cases h
theorem q35 : TyP 35 y35 := ⟨Tryz.underlying35, Tryz.t35, by kernel_rfl, rfl, rfl, rfl, rfl, by kernel_rfl, by decide⟩
theorem r35 : FlP 35 y35 := fun h => by cases h
theorem q36 : TyP 36 y36 := ⟨Tryz.underlying36, Tryz.t36, by kernel_rfl, rfl, rfl, rfl, rfl, by kernel_rfl, by decide⟩
theorem r36 : FlP 36 y36 := fun h => by cases h
theorem q37 : TyP 37 y37 := ⟨Tryz.underlying37, Tryz.t37, by kernel_rfl, rfl, rfl, rfl, rfl, by kernel_rfl, by decide⟩
theorem r37 : FlP 37 y37 := fun h => by cases h
theorem q38 : TyP 38 y38 := ⟨Tryz.underlying38, Tryz.t38, by kernel_rfl, rfl, rfl, rfl, rfl, by kernel_rfl, by decide⟩
theorem r38 : FlP 38 y38 := fun h => by cases h
theorem q39 : TyP 39 y39 := ⟨Tryz.underlying39, Tryz.t39, by kernel_rfl, rfl, rfl, rfl, rfl, by kernel_rfl, by decide⟩
theorem r39 : FlP 39 y39 := fun h => by cases h
theorem q40 : TyP 40 y40 := ⟨Tryz.underlying40, Tryz.t40, by kernel_rfl, rfl, rfl, rfl, rfl, by kernel_rfl, by decide⟩
theorem r40 : FlP 40 y40 := fun h => by cases h
theorem q41 : TyP 41 y41 := ⟨Tryz.underlying41, Tryz.t41, by kernel_rfl, rfl, rfl, rfl, rfl, by kernel_rfl, by decide⟩
theorem r41 : FlP 41 y41 := fun h => by cases h
theorem q42 : TyP 42 y42 := ⟨Tryz.underlying42, Tryz.t42, by kernel_rfl, rfl, rfl, rfl, rfl, by kernel_rfl, by decide⟩
theorem r42 : FlP 42 y42 := fun h => by cases h
theorem q43 : TyP 43 y43 := ⟨Tryz.underlying43, Tryz.t43, by kernel_rfl, rfl, rfl, rfl, rfl, by kernel_rfl, by decide⟩
theorem r43 : FlP 43 y43 := fun h => by cases h
theorem q44 : TyP 44 y44 := ⟨Tryz.underlying44, Tryz.t44, by kernel_rfl, rfl, rfl, rfl, rfl, by kernel_rfl, by decide⟩
theorem r44 : FlP 44 y44 := fun h => by cases h
theorem q45 : TyP 45 y45 := ⟨Tryz.underlying45, Tryz.t45, by kernel_rfl, rfl, rfl, rfl, rfl, by kernel_rfl, by decide⟩
theorem r45 : FlP 45 y45 := fun h => by cases h
theorem q46 : TyP 46 y46 := ⟨Tryz.underlying46, Tryz.t46, by kernel_rfl, rfl, rfl, rfl, rfl, by kernel_rfl, by decide⟩
theorem r46 : FlP 46 y46 := fun _ xs ys b hl hb w => flat_struct3s Tryz.underlying46 Tryz.underlying3 Tryz.underlying9 ⟨rfl, rfl, rfl, rfl⟩ ⟨rfl, rfl, rfl, rfl⟩ (by decide +kernel) (by kernel_rfl) (by kernel_rfl) (by kernel_rfl) (by kernel_rfl) ⟨_, rfl⟩ xs ys b hb w (by kernel_rfl)
theorem q47 : TyP 47 y47 := ⟨Tryz.underlying47, Tryz.t47, by kernel_rfl, rfl, rfl, rfl, rfl, by kernel_rfl, by decide⟩
theorem r47 : FlP 47 y47 := fun h => by cases h
theorem q48 : TyP 48 y48 := ⟨Tryz.underlying48, Tryz.t48, by kernel_rfl, rfl, rfl, rfl, rfl, by kernel_rfl, by decide⟩
theorem r48 : FlP 48 y48 := fun h => by cases h
theorem q49 : TyP 49 y49 := ⟨Tryz.underlying49, Tryz.t49, by kernel_rfl, rfl, rfl, rfl, rfl, by kernel_rfl, by decide⟩
theorem r49 : FlP 49 y49 := fun h => by cases h
theorem q50 : TyP 50 y50 := ⟨Tryz.underlying50, Tryz.t50, by kernel_rfl, rfl, rfl, rfl, rfl, by kernel_rfl, by decide⟩
theorem r50 : FlP 50 y50 := fun h => by cases h
theorem q51 : TyP 51 y51 := ⟨Tryz.underlying51, Tryz.t51, by kernel_rfl, rfl, rfl, rfl, rfl, by kernel_rfl, by decide⟩
theorem r51 : FlP 51 y51 := fun h => by cases h
theorem q52 : TyP 52 y52 := ⟨Tryz.underlying52, Tryz.t52, by kernel_rfl, rfl, rfl, rfl, rfl, by kernel_rfl, by decide⟩
theorem r52 : FlP 52 y52 := fun h => by cases h
theorem q53 : TyP 53 y53 := ⟨Tryz.underlying53, Tryz.t53, by kernel_rfl, rfl, rfl, rfl, rfl, by kernel_rfl, by decide⟩
theorem r53 : FlP 53 y53 := fun h => by cases h
theorem q54 : TyP 54 y54 := ⟨Tryz.underlying54, Tryz.t54, by kernel_rfl, rfl, rfl, rfl, rfl, by kernel_rfl, by decide⟩
theorem r54 : FlP 54 y54 := fun h => by cases h
theorem q55 : TyP 55 y55 := ⟨Tryz.underlying55, Tryz.t55, by kernel_rfl, rfl, rfl, rfl, rfl, by kernel_rfl, by decide⟩
theorem r55 : FlP 55 y55 := fun h => by cases h
theorem q56 : TyP 56 y56 := ⟨Tryz.underlying56, Tryz.t56, by kernel_rfl, rfl, rfl, rfl, rfl, by kernel_rfl, by decide⟩
theorem r56 : FlP 56 y56 := fun h => by cases h
theorem q57 : TyP 57 y57 := ⟨Tryz.underlying57, Tryz.t57, by kernel_rfl, rfl, rfl, rfl, rfl, by kernel_rfl, by decide⟩
theorem r57 : FlP 57 y57 := fun h => by cases h
theorem q58 : TyP 58 y58 := ⟨Tryz.underlying58, Tryz.t58, by kernel_rfl, rfl, rfl, rfl, rfl, by kernel_rfl, by decide⟩
theorem r58 : FlP 58 y58 := fun h => by cases h
theorem q59 : TyP 59 y59 := ⟨Tryz.underlying59, Tryz.t59, by kernel_rfl, rfl, rfl, rfl, rfl, by kernel_rfl, by decide⟩
theorem r59 : FlP 59 y59 := fun h => by cases h
theorem q60 : TyP 60 y60 := ⟨Tryz.underlying60, Tryz.t60, by kernel_rfl, rfl, rfl, rfl, rfl, by kernel_rfl, by decide⟩
theorem r60 : FlP 60 y60 := fun h => by cases h
theorem q61 : TyP 61 y61 := ⟨Tryz.underlying61, Tryz.t61, by kernel_rfl, rfl, rfl, rfl, rfl, by kernel_rfl, by decide⟩
theorem r61 : FlP 61 y61 := fun h => by cases h
theorem q62 : TyP 62 y62 := ⟨Tryz.underlying62, Tryz.t62, by kernel_rfl, rfl, rfl, rfl, rfl, by kernel_rfl, by decide⟩
theorem r62 : FlP 62 y62 := fun h => by cases h
theorem q63 : TyP 63 y63 := ⟨Tryz.underlying63, Tryz.t63, by kernel_rfl, rfl, rfl, rfl, rfl, by kernel_rfl, by decide⟩
theorem r63 : FlP 63 y63 := fun h => by cases h
theorem q64 : TyP 64 y64 := ⟨Tryz.underlying64, Tryz.t64, by kernel_rfl, rfl, rfl, rfl, rfl, by kernel_rfl, by decide⟩
theorem r64 : FlP 64 y64 := fun h => by cases h
theorem q65 : TyP 65 y65 := ⟨Tryz.underlying65, Tryz.t65, by kernel_rfl, rfl, rfl, rfl, rfl, by kernel_rfl, by decide⟩
theorem r65 : FlP 65 y65 := fun h => by cases h
theorem q66 : TyP 66 y66 := ⟨Tryz.underlying66, Tryz.t66, by kernel_rfl, rfl, rfl, rfl, rfl, by kernel_rfl, by decide⟩
theorem r66 : FlP 66 y66 := fun h => by cases h
theorem q67 : TyP 67 y67 := ⟨Tryz.underlying67, Tryz.t67, by kernel_rfl, rfl, rfl, rfl, rfl, by kernel_rfl, by decide⟩
theorem r67 : FlP 67 y67 := fun h => by cases h
theorem q68 : TyP 68 y68 := ⟨Tryz.underlying68, Tryz.t68, by kernel_rfl, rfl, rfl, rfl, rfl, by kernel_rfl, by decide⟩
theorem r68 : FlP 68 y68 := fun h => by cases h
theorem q69 : TyP 69 y69 := ⟨Tryz.underlying69, Tryz.t69, by kernel_rfl, rfl, rfl, rfl, rfl, by kernel_rfl, by decide⟩
theorem r69 : FlP 69 y69 := fun h => by cases h
theorem q70 : TyP 70 y70 := ⟨Tryz.underlying70, Tryz.t70, by kernel_rfl, rfl, rfl, rfl, rfl, by kernel_rfl, by decide⟩
theorem r70 : FlP 70 y70 := fun h => by cases h
theorem q71 : TyP 71 y71 := ⟨Tryz.underlying71, Tryz.t71, by kernel_rfl, rfl, rfl, rfl, rfl, by kernel_rfl, by decide⟩
theorem r71 : FlP 71 y71 := fun h => by cases h
theorem q72 : TyP 72 y72 := ⟨Tryz.underlying72, Tryz.t72, by kernel_rfl, rfl, rfl, rfl, rfl, by kernel_rfl, by decide⟩
theorem r72 : FlP 72 y72 := fun h => by cases h
theorem q73 : TyP 73 y73 := ⟨Tryz.underlying73, Tryz.t73, by kernel_rfl, rfl, rfl, rfl, rfl, by kernel_rfl, by decide⟩
theorem r73 : FlP 73 y73 := fun h => by cases h
theorem q74 : TyP 74 y74 := ⟨Tryz.underlying74, Tryz.t74, by kernel_rfl, rfl, rfl, rfl, rfl, by kernel_rfl, by decide⟩
theorem r74 : FlP 74 y74 := fun h => by cases h
theorem q75 : TyP 75 y75 := ⟨Tryz.underlying75, Tryz.t75, by kernel_rfl, rfl, rfl, rfl, rfl, by kernel_rfl, by decide⟩
theorem r75 : FlP 75 y75 := fun h => by cases h
theorem q76 : TyP 76 y76 := ⟨Tryz.underlying76, Tryz.t76, by kernel_rfl, rfl, rfl, rfl, rfl, by kernel_rfl, by decide⟩
theorem r76 : FlP 76 y76 := fun h => by cases h
theorem q77 : TyP 77 y77 := ⟨Tryz.underlying77, Tryz.t77, by kernel_rfl, rfl, rfl, rfl, rfl, by kernel_rfl, by decide⟩
theorem r77 : FlP 77 y77 := fun h => by cases h
theorem q78 : TyP 78 y78 := ⟨Tryz.underlying78, Tryz.t78, by kernel_rfl, rfl, rfl, rfl, rfl, by kernel_rfl, by decide⟩
theorem r78 : FlP 78 y78 := fun h => by cases h
theorem q79 : TyP 79 y79 := ⟨Tryz.underlying79, Tryz.t79, by kernel_rfl, rfl, rfl, rfl, rfl, by kernel_rfl, by decide⟩
theorem r79 : FlP 79 y79 := fun h => by cases h
theorem q80 : TyP 80 y80 := ⟨Tryz.underlying80, Tryz.t80, by kernel_rfl, rfl, rfl, rfl, rfl, by kernel_rfl, by decide⟩
theorem r80 : FlP 80 y80 := fun h => by cases h
theorem q81 : TyP 81 y81 := ⟨Tryz.underlying81, Tryz.t81, by kernel_rfl, rfl, rfl, rfl, rfl, by kernel_rfl, by decide⟩
theorem r81 : FlP 81 y81 := fun h => by cases h
theorem q82 : TyP 82 y82 := ⟨Tryz.underlying82, Tryz.t82, by kernel_rfl, rfl, rfl, rfl, rfl, by kernel_rfl, by decide⟩
theorem r82 : FlP 82 y82 := fun h => by cases h
theorem q83 : TyP 83 y83 := ⟨Tryz.underlying83, Tryz.t83, by kernel_rfl, rfl, rfl, rfl, rfl, by kernel_rfl, by decide⟩
theorem r83 : FlP 83 y83 := fun h => by cases h
theorem q84 : TyP 84 y84 := ⟨Tryz.underlying84, Tryz.t84, by kernel_rfl, rfl, rfl, rfl, rfl, by kernel_rfl, by decide⟩
theorem r84 : FlP 84 y84 := fun h => by cases h
theorem q85 : TyP 85 y85 := ⟨Tryz.underlying85, Tryz.t85, by kernel_rfl, rfl, rfl, rfl, rfl, by kernel_rfl, by decide⟩
theorem r85 : FlP 85 y85 := fun h => by cases h
theorem q86 : TyP 86 y86 := ⟨Tryz.underlying86, Tryz.t86, by kernel_rfl, rfl, rfl, rfl, rfl, by kernel_rfl, by decide⟩
theorem r86 : FlP 86 y86 := fun h => by cases h
theorem q87 : TyP 87 y87 := ⟨Tryz.underlying87, Tryz.t87, by kernel_rfl, rfl, rfl, rfl, rfl, by kernel_rfl, by decide⟩
theorem r87 : FlP 87 y87 := fun h => by cases h
theorem q88 : TyP 88 y88 := ⟨Tryz.underlying88, Tryz.t88, by kernel_rfl, rfl, rfl, rfl, rfl, by kernel_rfl, by decide⟩
theorem r88 : FlP 88 y88 := fun h => by cases h
theorem q89 : TyP 89 y89 := ⟨Tryz.underlying89, Tryz.t89, by kernel_rfl, rfl, rfl, rfl, rfl, by kernel_rfl, by decide⟩
theorem r89 : FlP 89 y89 := fun h => by cases h
theorem q90 : TyP 90 y90 := ⟨Tryz.underlying90, Tryz.t90, by kernel_rfl, rfl, rfl, rfl, rfl, by kernel_rfl, by decide⟩
theorem r90 : FlP 90 y90 := fun h => by cases h
theorem q91 : TyP 91 y91 := ⟨Tryz.underlying91, Tryz.t91, by kernel_rfl, rfl, rfl, rfl, rfl, by kernel_rfl, by decide⟩
theorem r91 : FlP 91 y91 := fun h => by cases h
theorem q92 : TyP 92 y92 := ⟨Tryz.underlying92, Tryz.t92, by kernel_rfl, rfl, rfl, rfl, rfl, by kernel_rfl, by decide⟩
theorem r92 : FlP 92 y92 := fun h => by cases h
theorem q93 : TyP 93 y93 := ⟨Tryz.underlying93, Tryz.t93, by kernel_rfl, rfl, rfl, rfl, rfl, by kernel_rfl, by decide⟩
theorem r93 : FlP 93 y93 := fun h => by cases h
theorem q94 : TyP 94 y94 := ⟨Tryz.underlying94, Tryz.t94, by kernel_rfl, rfl, rfl, rfl, rfl, by kernel_rfl, by decide⟩
theorem r94 : FlP 94 y94 := fun h => by cases h
theorem q95 : TyP 95 y95 := ⟨Tryz.underlying95, Tryz.t95, by kernel_rfl, rfl, rfl, rfl, rfl, by kernel_rfl, by decide⟩
theorem r95 : FlP 95 y95 := fun h => by cases h
theorem q96 : TyP 96 y96 := ⟨Tryz.underlying96, Tryz.t96, by kernel_rfl, rfl, rfl, rfl, rfl, by kernel_rfl, by decide⟩
theorem r96 : FlP 96 y96 := fun h => by cases h
theorem q97 : TyP 97 y97 := ⟨Tryz.underlying97, Tryz.t97, by kernel_rfl, rfl, rfl, rfl, rfl, by kernel_rfl, by decide⟩
theorem r97 : FlP 97 y97 := fun h => by cases h
theorem q98 : TyP 98 y98 := ⟨Tryz.underlying98, Tryz.t98, by kernel_rfl, rfl, rfl, rfl, rfl, by kernel_rfl, by decide⟩
theorem r98 : FlP 98 y98 := fun h => by cases h
theorem q99 : TyP 99 y99 := ⟨Tryz.underlying99, Tryz.t99, by kernel_rfl, rfl, rfl, rfl, rfl, by kernel_rfl, by decide⟩
theorem r99 : FlP 99 y99 := fun h => by cases h
theorem q100 : TyP 100 y100 := ⟨Tryz.underlying100, Tryz.t100, by kernel_rfl, rfl, rfl, rfl, rfl, by kernel_rfl, by decide⟩
theorem r100 : FlP 100 y100 := fun h => by cases h
theorem q101 : TyP 101 y101 := ⟨Tryz.underlying101, Tryz.t101, by kernel_rfl, rfl, rfl, rfl, rfl, by kernel_rfl, by decide⟩
theorem r101 : FlP 101 y101 := fun h => by cases h
theorem q102 : TyP 102 y102 := ⟨Tryz.underlying102, Tryz.t102, by kernel_rfl, rfl, rfl, rfl, rfl, by kernel_rfl, by decide⟩
theorem r102 : FlP 102 y102 := fun h => by cases h
theorem q103 : TyP 103 y103 := ⟨Tryz.underlying103, Tryz.t103, by kernel_rfl, rfl, rfl, rfl, rfl, by kernel_rfl, by decide⟩
theorem r103 : FlP 103 y103 := fun h => by cases h
theorem q104 : TyP 104 y104 := ⟨Tryz.underlying104, Tryz.t104, by kernel_rfl, rfl, rfl, rfl, rfl, by kernel_rfl, by decide⟩
theorem r104 : FlP 104 y104 := fun h => by cases h
theorem q105 : TyP 105 y105 := ⟨Tryz.underlying105, Tryz.t105, by kernel_rfl, rfl, rfl, rfl, rfl, by kernel_rfl, by decide⟩
theorem r105 : FlP 105 y105 := fun h => by cases h
theorem q106 : TyP 106 y106 := ⟨Tryz.underlying106, Tryz.t106, by kernel_rfl, rfl, rfl, rfl, rfl, by kernel_rfl, by decide⟩
theorem r106 : FlP 106 y106 := fun h => by cases h
theorem q107 : TyP 107 y107 := ⟨Tryz.underlying107, Tryz.t107, by kernel_rfl, rfl, rfl, rfl, rfl, by kernel_rfl, by decide⟩
theorem r107 : FlP 107 y107 := fun h => by cases h
theorem q108 : TyP 108 y108 := ⟨Tryz.underlying108, Tryz.t108, by kernel_rfl, rfl, rfl, rfl, rfl, by kernel_rfl, by decide⟩
theorem r108 : FlP 108 y108 := fun h => by cases h
theorem q109 : TyP 109 y109 := ⟨Tryz.underlying109, Tryz.t109, by kernel_rfl, rfl, rfl, rfl, rfl, by kernel_rfl, by decide⟩
theorem r109 : FlP 109 y109 := fun h => by cases h
theorem q110 : TyP 110 y110 := ⟨Tryz.underlying110, Tryz.t110, by kernel_rfl, rfl, rfl, rfl, rfl, by kernel_rfl, by decide⟩
theorem r110 : FlP 110 y110 := fun h => by cases h
theorem q111 : TyP 111 y111 := ⟨Tryz.underlying111, Tryz.t111, by kernel_rfl, rfl, rfl, rfl, rfl, by kernel_rfl, by decide⟩
theorem r111 : FlP 111 y111 := fun h => by cases h
theorem q112 : TyP 112 y112 := ⟨Tryz.underlying112, Tryz.t112, by kernel_rfl, rfl, rfl, rfl, rfl, by kernel_rfl, by decide⟩
theorem r112 : FlP 112 y112 := fun h => by cases h
theorem q113 : TyP 113 y113 := ⟨Tryz.underlying113, Tryz.t113, by kernel_rfl, rfl, rfl, rfl, rfl, by kernel_rfl, by decide⟩
theorem r113 : FlP 113 y113 := fun h => by cases h
theorem q114 : TyP 114 y114 := ⟨Tryz.underlying114, Tryz.t114, by kernel_rfl, rfl, rfl, rfl, rfl, by kernel_rfl, by decide⟩
theorem r114 : FlP 114 y114 := fun h => by cases h
theorem q115 : TyP 115 y115 := ⟨Tryz.underlying115, Tryz.t115, by kernel_rfl, rfl, rfl, rfl, rfl, by kernel_rfl, by decide⟩
theorem r115 : FlP 115 y115 := fun h => by cases h
theorem q116 : TyP 116 y116 := ⟨Tryz.underlying116, Tryz.t116, by kernel_rfl, rfl, rfl, rfl, rfl, by kernel_rfl, by decide⟩
theorem r116 : FlP 116 y116 := fun h => by cases h
theorem q117 : TyP 117 y117 := ⟨Tryz.underlying117, Tryz.t117, by kernel_rfl, rfl, rfl, rfl, rfl, by kernel_rfl, by decide⟩
theorem r117 : FlP 117 y117 := fun h => by cases h
theorem q118 : TyP 118 y118 := ⟨Tryz.underlying118, Tryz.t118, by kernel_rfl, rfl, rfl, rfl, rfl, by kernel_rfl, by decide⟩
theorem r118 : FlP 118 y118 := fun h => by cases h
theorem q119 : TyP 119 y119 := ⟨Tryz.underlying119, Tryz.t119, by kernel_rfl, rfl, rfl, rfl, rfl, by kernel_rfl, by decide⟩
theorem r119 : FlP 119 y119 := fun h => by cases h
theorem q120 : TyP 120 y120 := ⟨Tryz.underlying120, Tryz.t120, by kernel_rfl, rfl, rfl, rfl, rfl, by kernel_rfl, by decide⟩
theorem r120 : FlP 120 y120 := fun h => by cases h
theorem q121 : TyP 121 y121 := ⟨Tryz.underlying121, Tryz.t121, by kernel_rfl, rfl, rfl, rfl, rfl, by kernel_rfl, by decide⟩
theorem r121 : FlP 121 y121 := fun h => by cases h
theorem q122 : TyP 122 y122 := ⟨Tryz.underlying122, Tryz.t122, by kernel_rfl, rfl, rfl, rfl, rfl, by kernel_rfl, by decide⟩
theorem r122 : FlP 122 y122 := fun h => by cases h
theorem q123 : TyP 123 y123 := ⟨Tryz.underlying123, Tryz.t123, by kernel_rfl, rfl, rfl, rfl, rfl, by kernel_rfl, by decide⟩
theorem r123 : FlP 123 y123 := fun h => by cases h
theorem q124 : TyP 124 y124 := ⟨Tryz.underlying124, Tryz.t124, by kernel_rfl, rfl, rfl, rfl, rfl, by kernel_rfl, by decide⟩
theorem r124 : FlP 124 y124 := fun h => by cases h
theorem q125 : TyP 125 y125 := ⟨Tryz.underlying125, Tryz.t125, by kernel_rfl, rfl, rfl, rfl, rfl, by kernel_rfl, by decide⟩
theorem r125 : FlP 125 y125 := fun h => by cases h
theorem q126 : TyP 126 y126 := ⟨Tryz.underlying126, Tryz.t126, by kernel_rfl, rfl, rfl, rfl, rfl, by kernel_rfl, by decide⟩
theorem r126 : FlP 126 y126 := fun h => by cases h
theorem q127 : TyP 127 y127 := ⟨Tryz.underlying127, Tryz.t127, by kernel_rfl, rfl, rfl, rfl, rfl, by kernel_rfl, by decide⟩
theorem r127 : FlP 127 y127 := fun h => by cases h
theorem q128 : TyP 128 y128 := ⟨Tryz.underlying128, Tryz.t128, by kernel_rfl, rfl, rfl, rfl, rfl, by kernel_rfl, by decide⟩
theorem r128 : FlP 128 y128 := fun h => by cases h
theorem q129 : TyP 129 y129 := ⟨Tryz.underlying129, Tryz.t129, by kernel_rfl, rfl, rfl, rfl, rfl, by kernel_rfl, by decide⟩
theorem r129 : FlP 129 y129 := fun h => by cases h
theorem q130 : TyP 130 y130 := ⟨Tryz.underlying130, Tryz.t130, by kernel_rfl, rfl, rfl, rfl, rfl, by kernel_rfl, by decide⟩
theorem r130 : FlP 130 y130 := fun h => by cases h
theorem q131 : TyP 131 y131 := ⟨Tryz.underlying131, Tryz.t131, by kernel_rfl, rfl, rfl, rfl, rfl, by kernel_rfl, by decide⟩
theorem r131 : FlP 131 y131 := fun h => by cases h
theorem q132 : TyP 132 y132 := ⟨Tryz.underlying132, Tryz.t132, by kernel_rfl, rfl, rfl, rfl, rfl, by kernel_rfl, by decide⟩
theorem r132 : FlP 132 y132 := fun h => by cases h
theorem q133 : TyP 133 y133 := ⟨Tryz.underlying133, Tryz.t133, by kernel_rfl, rfl, rfl, rfl, rfl, by kernel_rfl, by decide⟩
theorem r133 : FlP 133 y133 := fun h => by cases h
theorem q134 : TyP 134 y134 := ⟨Tryz.underlying134, Tryz.t134, by kernel_rfl, rfl, rfl, rfl, rfl, by kernel_rfl, by decide⟩
theorem r134 : FlP 134 y134 := fun h => by cases h
theorem q135 : TyP 135 y135 := ⟨Tryz.underlying135, Tryz.t135, by kernel_rfl, rfl, rfl, rfl, rfl, by kernel_rfl, by decide⟩
theorem r135 : FlP 135 y135 := fun h => by cases h
theorem q136 : TyP 136 y136 := ⟨Tryz.underlying136, Tryz.t136, by kernel_rfl, rfl, rfl, rfl, rfl, by kernel_rfl, by decide⟩
theorem r136 : FlP 136 y136 := fun h => by cases h
theorem q137 : TyP 137 y137 := ⟨Tryz.underlying137, Tryz.t137, by kernel_rfl, rfl, rfl, rfl, rfl, by kernel_rfl, by decide⟩
theorem r137 : FlP 137 y137 := fun h => by cases h
theorem q138 : TyP 138 y138 := ⟨Tryz.underlying138, Tryz.t138, by kernel_rfl, rfl, rfl, rfl, rfl, by kernel_rfl, by decide⟩
theorem r138 : FlP 138 y138 := fun h => by cases h
theorem q139 : TyP 139 y139 := ⟨Tryz.underlying139, Tryz.t139, by kernel_rfl, rfl, rfl, rfl, rfl, by kernel_rfl, by decide⟩
theorem r139 : FlP 139 y139 := fun h => by cases h
theorem q140 : TyP 140 y140 := ⟨Tryz.underlying140, Tryz.t140, by kernel_rfl, rfl, rfl, rfl, rfl, by kernel_rfl, by decide⟩
theorem r140 : FlP 140 y140 := fun h => by cases h
theorem q141 : TyP 141 y141 := ⟨Tryz.underlying141, Tryz.t141, by kernel_rfl, rfl, rfl, rfl, rfl, by kernel_rfl, by decide⟩
theorem r141 : FlP 141 y141 := fun h => by cases h
theorem q142 : TyP 142 y142 := ⟨Tryz.underlying142, Tryz.t142, by kernel_rfl, rfl, rfl, rfl, rfl, by kernel_rfl, by decide⟩
theorem r142 : FlP 142 y142 := fun h => by cases h
theorem q143 : TyP 143 y143 := ⟨Tryz.underlying143, Tryz.t143, by kernel_rfl, rfl, rfl, rfl, rfl, by kernel_rfl, by decide⟩
theorem r143 : FlP 143 y143 := fun h => by cases h
theorem q144 : TyP 144 y144 := ⟨Tryz.underlying144, Tryz.t144, by kernel_rfl, rfl, rfl, rfl, rfl, by kernel_rfl, by decide⟩
theorem r144 : FlP 144 y144 := fun h => by cases h
theorem q145 : TyP 145 y145 := ⟨Tryz.underlying145, Tryz.t145, by kernel_rfl, rfl, rfl, rfl, rfl, by kernel_rfl, by decide⟩
theorem r145 : FlP 145 y145 := fun h => by cases h
theorem q146 : TyP 146 y146 := ⟨Tryz.underlying146, Tryz.t146, by kernel_rfl, rfl, rfl, rfl, rfl, by kernel_rfl, by decide⟩
theorem r146 : FlP 146 y146 := fun h => by cases h
theorem q147 : TyP 147 y147 := ⟨Tryz.underlying147, Tryz.t147, by kernel_rfl, rfl, rfl, rfl, rfl, by kernel_rfl, by decide⟩
theorem r147 : FlP 147 y147 := fun h => by cases h
theorem q148 : TyP 148 y148 := ⟨Tryz.underlying148, Tryz.t148, by kernel_rfl, rfl, rfl, rfl, rfl, by kernel_rfl, by decide⟩
theorem r148 : FlP 148 y148 := fun h => by cases h
theorem q149 : TyP 149 y149 := ⟨Tryz.underlying149, Tryz.t149, by kernel_rfl, rfl, rfl, rfl, rfl, by kernel_rfl, by decide⟩
theorem r149 : FlP 149 y149 := fun h => by cases h
theorem q150 : TyP 150 y150 := ⟨Tryz.underlying150, Tryz.t150, by kernel_rfl, rfl, rfl, rfl, rfl, by kernel_rfl, by decide⟩
theorem r150 : FlP 150 y150 := fun h => by cases h
theorem q151 : TyP 151 y151 := ⟨Tryz.underlying151, Tryz.t151, by kernel_rfl, rfl, rfl, rfl, rfl, by kernel_rfl, by decide⟩
theorem r151 : FlP 151 y151 := fun h => by cases h
theorem q152 : TyP 152 y152 := ⟨Tryz.underlying152, Tryz.t152, by kernel_rfl, rfl, rfl, rfl, rfl, by kernel_rfl, by decide⟩
theorem r152 : FlP 152 y152 := fun h => by cases h
theorem q153 : TyP 153 y153 := ⟨Tryz.underlying153, Tryz.t153, by kernel_rfl, rfl, rfl, rfl, rfl, by kernel_rfl, by decide⟩
theorem r153 : FlP 153 y153 := fun h => by cases h
theorem q154 : TyP 154 y154 := ⟨Tryz.underlying154, Tryz.t154, by kernel_rfl, rfl, rfl, rfl, rfl, by kernel_rfl, by decide⟩
theorem r154 : FlP 154 y154 := fun h => by cases h
theorem q155 : TyP 155 y155 := ⟨Tryz.underlying155, Tryz.t155, by kernel_rfl, rfl, rfl, rfl, rfl, by kernel_rfl, by decide⟩
theorem r155 : FlP 155 y155 := fun h => by cases h
theorem q156 : TyP 156 y156 := ⟨Tryz.underlying156, Tryz.t156, by kernel_rfl, rfl, rfl, rfl, rfl, by kernel_rfl, by decide⟩
theorem r156 : FlP 156 y156 := fun h => by cases h
theorem q157 : TyP 157 y157 := ⟨Tryz.underlying157, Tryz.t157, by kernel_rfl, rfl, rfl, rfl, rfl, by kernel_rfl, by decide⟩
theorem r157 : FlP 157 y157 := fun h => by cases h
theorem q158 : TyP 158 y158 := ⟨Tryz.underlying158, Tryz.t158, by kernel_rfl, rfl, rfl, rfl, rfl, by kernel_rfl, by decide⟩
theorem r158 : FlP 158 y158 := fun h => by cases h
theorem q159 : TyP 159 y159 := ⟨Tryz.underlying159, Tryz.t159, by kernel_rfl, rfl, rfl, rfl, rfl, by kernel_rfl, by decide⟩
theorem r159 : FlP 159 y159 := fun h => by cases h
theorem q160 : TyP 160 y160 := ⟨Tryz.underlying160, Tryz.t160, by kernel_rfl, rfl, rfl, rfl, rfl, by kernel_rfl, by decide⟩
theorem r160 : FlP 160 y160 := fun h => by cases h
theorem q161 : TyP 161 y161 := ⟨Tryz.underlying161, Tryz.t161, by kernel_rfl, rfl, rfl, rfl, rfl, by kernel_rfl, by decide⟩
theorem r161 : FlP 161 y161 := fun h => by cases h
theorem q162 : TyP 162 y162 := ⟨Tryz.underlying162, Tryz.t162, by kernel_rfl, rfl, rfl, rfl, rfl, by kernel_rfl, by decide⟩
theorem r162 : FlP 162 y162 := fun h => by cases h
theorem q163 : TyP 163 y163 := ⟨Tryz.underlying163, Tryz.t163, by kernel_rfl, rfl, rfl, rfl, rfl, by kernel_rfl, by decide⟩
theorem r163 : FlP 163 y163 := fun h => by cases h
theorem q164 : TyP 164 y164 := ⟨Tryz.underlying164, Tryz.t164, by kernel_rfl, rfl, rfl, rfl, rfl, by kernel_rfl, by decide⟩
theorem r164 : FlP 164 y164 := fun h => by cases h
theorem q165 : TyP 165 y165 := ⟨Tryz.underlying165, Tryz.t165, by kernel_rfl, rfl, rfl, rfl, rfl, by kernel_rfl, by decide⟩
theorem r165 : FlP 165 y165 := fun h => by cases h
theorem q166 : TyP 166 y166 := ⟨Tryz.underlying166, Tryz.t166, by kernel_rfl, rfl, rfl, rfl, rfl, by kernel_rfl, by decide⟩
theorem r166 : FlP 166 y166 := fun h => by cases h
theorem q167 : TyP 167 y167 := ⟨Tryz.underlying167, Tryz.t167, by kernel_rfl, rfl, rfl, rfl, rfl, by kernel_rfl, by decide⟩
theorem r167 : FlP 167 y167 := fun h => by cases h
theorem q168 : TyP 168 y168 := ⟨Tryz.underlying168, Tryz.t168, by kernel_rfl, rfl, rfl, rfl, rfl, by kernel_rfl, by decide⟩
theorem r168 : FlP 168 y168 := fun h => by cases h
theorem q169 : TyP 169 y169 := ⟨Tryz.underlying169, Tryz.t169, by kernel_rfl, rfl, rfl, rfl, rfl, by kernel_rfl, by decide⟩
theorem r169 : FlP 169 y169 := fun h => by cases h
theorem q170 : TyP 170 y170 := ⟨Tryz.underlying170, Tryz.t170, by kernel_rfl, rfl, rfl, rfl, rfl, by kernel_rfl, by decide⟩
theorem r170 : FlP 170 y170 := fun h => by cases h
theorem q171 : TyP 171 y171 := ⟨Tryz.underlying171, Tryz.t171, by kernel_rfl, rfl, rfl, rfl, rfl, by kernel_rfl, by decide⟩
theorem r171 : FlP 171 y171 := fun h => by cases h
theorem q172 : TyP 172 y172 := ⟨Tryz.underlying172, Tryz.t172, by kernel_rfl, rfl, rfl, rfl, rfl, by kernel_rfl, by decide⟩
theorem r172 : FlP 172 y172 := fun h => by cases h
theorem q173 : TyP 173 y173 := ⟨Tryz.underlying173, Tryz.t173, by kernel_rfl, rfl, rfl, rfl, rfl, by kernel_rfl, by decide⟩
theorem r173 : FlP 173 y173 := fun h => by cases h
theorem q174 : TyP 174 y174 := ⟨Tryz.underlying174, Tryz.t174, by kernel_rfl, rfl, rfl, rfl, rfl, by kernel_rfl, by decide⟩
theorem r174 : FlP 174 y174 := fun h => by cases h
theorem q175 : TyP 175 y175 := ⟨Tryz.underlying175, Tryz.t175, by kernel_rfl, rfl, rfl, rfl, rfl, by kernel_rfl, by decide⟩
theorem r175 : FlP 175 y175 := fun h => by cases h
theorem q176 : TyP 176 y176 := ⟨Tryz.underlying176, Tryz.t176, by kernel_rfl, rfl, rfl, rfl, rfl, by kernel_rfl, by decide⟩
theorem r176 : FlP 176 y176 := fun h => by cases h
theorem q177 : TyP 177 y177 := ⟨Tryz.underlying177, Tryz.t177, by kernel_rfl, rfl, rfl, rfl, rfl, by kernel_rfl, by decide⟩
theorem r177 : FlP 177 y177 := fun h => by cases h
theorem q178 : TyP 178 y178 := ⟨Tryz.underlying178, Tryz.t178, by kernel_rfl, rfl, rfl, rfl, rfl, by kernel_rfl, by decide⟩
theorem r178 : FlP 178 y178 := fun h => by cases h
theorem q179 : TyP 179 y179 := ⟨Tryz.underlying179, Tryz.t179, by kernel_rfl, rfl, rfl, rfl, rfl, by kernel_rfl, by decide⟩
theorem r179 : FlP 179 y179 := fun h => by cases h
theorem q180 : TyP 180 y180 := ⟨Tryz.underlying180, Tryz.t180, by kernel_rfl, rfl, rfl, rfl, rfl, by kernel_rfl, by decide⟩
theorem r180 : FlP 180 y180 := fun h => by cases h
theorem q181 : TyP 181 y181 := ⟨Tryz.underlying181, Tryz.t181, by kernel_rfl, rfl, rfl, rfl, rfl, by kernel_rfl, by decide⟩
theorem r181 : FlP 181 y181 := fun h => by cases h
theorem q182 : TyP 182 y182 := ⟨Tryz.underlying182, Tryz.t182, by kernel_rfl, rfl, rfl, rfl, rfl, by kernel_rfl, by decide⟩
theorem r182 : FlP 182 y182 := fun h => by cases h
theorem q183 : TyP 183 y183 := ⟨Tryz.underlying183, Tryz.t183, by kernel_rfl, rfl, rfl, rfl, rfl, by kernel_rfl, by decide⟩
theorem r183 : FlP 183 y183 := fun h => by cases h
theorem q184 : TyP 184 y184 := ⟨Tryz.underlying184, Tryz.t184, by kernel_rfl, rfl, rfl, rfl, rfl, by kernel_rfl, by decide⟩
theorem r184 : FlP 184 y184 := fun h => by cases h
theorem q185 : TyP 185 y185 := ⟨Tryz.underlying185, Tryz.t185, by kernel_rfl, rfl, rfl, rfl, rfl, by kernel_rfl, by decide⟩
theorem r185 : FlP 185 y185 := fun h => by cases h
theorem q186 : TyP 186 y186 := ⟨Tryz.underlying186, Tryz.t186, by kernel_rfl, rfl, rfl, rfl, rfl, by kernel_rfl, by decide⟩
theorem r186 : FlP 186 y186 := fun h => by cases h
theorem q187 : TyP 187 y187 := ⟨Tryz.underlying187, Tryz.t187, by kernel_rfl, rfl, rfl, rfl, rfl, by kernel_rfl, by decide⟩
theorem r187 : FlP 187 y187 := fun h => by cases h
theorem q188 : TyP 188 y188 := ⟨Tryz.underlying188, Tryz.t188, by kernel_rfl, rfl, rfl, rfl, rfl, by kernel_rfl, by decide⟩
theorem r188 : FlP 188 y188 := fun h => by cases h
theorem q189 : TyP 189 y189 := ⟨Tryz.underlying189, Tryz.t189, by kernel_rfl, rfl, rfl, rfl, rfl, by kernel_rfl, by decide⟩
theorem r189 : FlP 189 y189 := fun h => by cases h
theorem q190 : TyP 190 y190 := ⟨Tryz.underlying190, Tryz.t190, by kernel_rfl, rfl, rfl, rfl, rfl, by kernel_rfl, by decide⟩
theorem r190 : FlP 190 y190 := fun h => by cases h
theorem q191 : TyP 191 y191 := ⟨Tryz.underlying191, Tryz.t191, by kernel_rfl, rfl, rfl, rfl, rfl, by kernel_rfl, by decide⟩
theorem r191 : FlP 191 y191 := fun h => by cases h
theorem q192 : TyP 192 y192 := ⟨Tryz.underlying192, Tryz.t192, by kernel_rfl, rfl, rfl, rfl, rfl, by kernel_rfl, by decide⟩
theorem r192 : FlP 192 y192 := fun h => by cases h
theorem q193 : TyP 193 y193 := ⟨Tryz.underlying193, Tryz.t193, by kernel_rfl, rfl, rfl, rfl, rfl, by kernel_rfl, by decide⟩
theorem r193 : FlP 193 y193 := fun h => by cases h
theorem q194 : TyP 194 y194 := ⟨Tryz.underlying194, Tryz.t194, by kernel_rfl, rfl, rfl, rfl, rfl, by kernel_rfl, by decide⟩
theorem r194 : FlP 194 y194 := fun h => by cases h
theorem q195 : TyP 195 y195 := ⟨Tryz.underlying195, Tryz.t195, by kernel_rfl, rfl, rfl, rfl, rfl, by kernel_rfl, by decide⟩
theorem r195 : FlP 195 y195 := fun h => by cases h
theorem q196 : TyP 196 y196 := ⟨Tryz.underlying196, Tryz.t196, by kernel_rfl, rfl, rfl, rfl, rfl, by kernel_rfl, by decide⟩
theorem r196 : FlP 196 y196 := fun h => by cases h
theorem q197 : TyP 197 y197 := ⟨Tryz.underlying197, Tryz.t197, by kernel_rfl, rfl, rfl, rfl, rfl, by kernel_rfl, by decide⟩
theorem r197 : FlP 197 y197 := fun h => by cases h
theorem q198 : TyP 198 y198 := ⟨Tryz.underlying198, Tryz.t198, by kernel_rfl, rfl, rfl, rfl, rfl, by kernel_rfl, by decide⟩
theorem r198 : FlP 198 y198 := fun h => by cases h
theorem q199 : TyP 199 y199 := ⟨Tryz.underlying199, Tryz.t199, by kernel_rfl, rfl, rfl, rfl, rfl, by kernel_rfl, by decide⟩
theorem r199 : FlP 199 y199 := fun h => by cases h
theorem q200 : TyP 200 y200 := ⟨Tryz.underlying200, Tryz.t200, by kernel_rfl, rfl, rfl, rfl, rfl, by kernel_rfl, by decide⟩
theorem r200 : FlP 200 y200 := fun h => by cases h
theorem q201 : TyP 201 y201 := ⟨Tryz.underlying201, Tryz.t201, by kernel_rfl, rfl, rfl, rfl, rfl, by kernel_rfl, by decide⟩
theorem r201 : FlP 201 y201 := fun h => by cases h
theorem q202 : TyP 202 y202 := ⟨Tryz.underlying202, Tryz.t202, by kernel_rfl, rfl, rfl, rfl, rfl, by kernel_rfl, by decide⟩
theorem r202 : FlP 202 y202 := fun h => by cases h
theorem q203 : TyP 203 y203 := ⟨Tryz.underlying203, Tryz.t203, by kernel_rfl, rfl, rfl, rfl, rfl, by kernel_rfl, by decide⟩
theorem r203 : FlP 203 y203 := fun h => by cases h
theorem q204 : TyP 204 y204 := ⟨Tryz.underlying204, Tryz.t204, by kernel_rfl, rfl, rfl, rfl, rfl, by kernel_rfl, by decide⟩
theorem r204 : FlP 204 y204 := fun h => by cases h
theorem q205 : TyP 205 y205 := ⟨Tryz.underlying205, Tryz.t205, by kernel_rfl, rfl, rfl, rfl, rfl, by kernel_rfl, by decide⟩
theorem r205 : FlP 205 y205 := fun h => by cases h
theorem q206 : TyP 206 y206 := ⟨Tryz.underlying206, Tryz.t206, by kernel_rfl, rfl, rfl, rfl, rfl, by kernel_rfl, by decide⟩
theorem r206 : FlP 206 y206 := fun h => by cases h
theorem q207 : TyP 207 y207 := ⟨Tryz.underlying207, Tryz.t207, by kernel_rfl, rfl, rfl, rfl, rfl, by kernel_rfl, by decide⟩
theorem r207 : FlP 207 y207 := fun h => by cases h
theorem q208 : TyP 208 y208 := ⟨Tryz.underlying208, Tryz.t208, by kernel_rfl, rfl, rfl, rfl, rfl, by kernel_rfl, by decide⟩
theorem r208 : FlP 208 y208 := fun h => by cases h
theorem q209 : TyP 209 y209 := ⟨Tryz.underlying209, Tryz.t209, by kernel_rfl, rfl, rfl, rfl, rfl, by kernel_rfl, by decide⟩
theorem r209 : FlP 209 y209 := fun h => by cases h
theorem q210 : TyP 210 y210 := ⟨Tryz.underlying210, Tryz.t210, by kernel_rfl, rfl, rfl, rfl, rfl, by kernel_rfl, by decide⟩
theorem r210 : FlP 210 y210 := fun h => by cases h
theorem q211 : TyP 211 y211 := ⟨Tryz.underlying211, Tryz.t211, by kernel_rfl, rfl, rfl, rfl, rfl, by kernel_rfl, by decide⟩
theorem r211 : FlP 211 y211 := fun h => by cases h
theorem q212 : TyP 212 y212 := ⟨Tryz.underlying212, Tryz.t212, by kernel_rfl, rfl, rfl, rfl, rfl, by kernel_rfl, by decide⟩
theorem r212 : FlP 212 y212 := fun h => by cases h
theorem q213 : TyP 213 y213 := ⟨Tryz.underlying213, Tryz.t213, by kernel_rfl, rfl, rfl, rfl, rfl, by kernel_rfl, by decide⟩
theorem r213 : FlP 213 y213 := fun h => by cases h
theorem fnOk : ∀ f F, fn.get f = some F → FnP f F := (get_node (fun F h => by simp at h) (get_node (fun F h => by simp at h) (get_node (fun F h => Option.some.inj h ▸ p3) (get_node (fun F h => Option.some.inj h ▸ p7) (get_node (fun F h => Option.some.inj h ▸ p15) (get_node (fun F h => Option.some.inj h ▸ p31) (get_node (fun F h => Option.some.inj h ▸ p63) get_leaf get_leaf) get_leaf) (get_node (fun F h => Option.some.inj h ▸ p47) get_leaf get_leaf)) (get_node (fun F h => Option.some.inj h ▸ p23) (get_node (fun F h => Option.some.inj h ▸ p39) get_leaf get_leaf) get_leaf)) (get_node (fun F h => Option.some.inj h ▸ p11) (get_node (fun F h => Option.some.inj h ▸ p19) (get_node (fun F h => Option.some.inj h ▸ p35) get_leaf get_leaf) get_leaf) (get_node (fun F h => Option.some.inj h ▸ p27) get_leaf get_leaf))) (get_node (fun F h => Option.some.inj h ▸ p5) (get_node (fun F h => Option.some.inj h ▸ p9) (get_node (fun F h => Option.some.inj h ▸ p17) (get_node (fun F h => Option.some.inj h ▸ p33) get_leaf get_leaf) (get_node (fun F h => Option.some.inj h ▸ p49) get_leaf get_leaf)) (get_node (fun F h => Option.some.inj h ▸ p25) (get_node (fun F h => Option.some.inj h ▸ p41) get_leaf get_leaf) (get_node (fun F h => by simp at h) (get_node (fun F h => Option.some.inj h ▸ p89) get_leaf get_leaf) get_leaf))) (get_node (fun F h => Option.some.inj h ▸ p13) (get_node (fun F h => Option.some.inj h ▸ p21) (get_node (fun F h => by simp at h) (get_node (fun F h => Option.some.inj h ▸ p69) get_leaf get_leaf) get_leaf) get_leaf) (get_node (fun F h => Option.some.inj h ▸ p29) (get_node (fun F h => Option.some.inj h ▸ p45) get_leaf get_leaf) (get_node (fun F h => Option.some.inj h ▸ p61) get_leaf get_leaf))))) (get_node (fun F h => by simp at h) (get_node (fun F h => Option.some.inj h ▸ p4) (get_node (fun F h => Option.some.inj h ▸ p8) (get_node (fun F h => Option.some.inj h ▸ p16) (get_node (fun F h => Option.some.inj h ▸ p32) (get_node (fun F h => Option.some.inj h ▸ p64) get_leaf get_leaf) get_leaf) (get_node (fun F h => Option.some.inj h ▸ p48) get_leaf get_leaf)) (get_node (fun F h => Option.some.inj h ▸ p24) (get_node (fun F h => Option.some.inj h ▸ p40) get_leaf get_leaf) get_leaf)) (get_node (fun F h => Option.some.inj h ▸ p12) (get_node (fun F h => Option.some.inj h ▸ p20) get_leaf get_leaf) (get_node (fun F h => Option.some.inj h ▸ p28) (get_node (fun F h => Option.some.inj h ▸ p44) get_leaf get_leaf) (get_node (fun F h => Option.some.inj h ▸ p60) get_leaf get_leaf)))) (get_node (fun F h => Option.some.inj h ▸ p6) (get_node (fun F h => Option.some.inj h ▸ p10) (get_node (fun F h => Option.some.inj h ▸ p18) (get_node (fun F h => Option.some.inj h ▸ p34) get_leaf get_leaf) (get_node (fun F h => Option.some.inj h ▸ p50) get_leaf get_leaf)) (get_node (fun F h => Option.some.inj h ▸ p26) (get_node (fun F h => Option.some.inj h ▸ p42) get_leaf get_leaf) get_leaf)) (get_node (fun F h => Option.some.inj h ▸ p14) (get_node (fun F h => Option.some.inj h ▸ p22) get_leaf get_leaf) (get_node (fun F h => Option.some.inj h ▸ p30) (get_node (fun F h => Option.some.inj h ▸ p46) get_leaf get_leaf) get_leaf)))))
theorem tyOk : ∀ t i, ty.get t = some i → TyP t i := (get_node (fun F h => Option.some.inj h ▸ q0) (get_node (fun F h => Option.some.inj h ▸ q1) (get_node (fun F h => Option.some.inj h ▸ q3) (get_node (fun F h => Option.some.inj h ▸ q7) (get_node (fun F h => Option.some.inj h ▸ q15) (get_node (fun F h => Option.some.inj h ▸ q31) (get_node (fun F h => Option.some.inj h ▸ q63) (get_node (fun F h => Option.some.inj h ▸ q127) get_leaf get_leaf) (get_node (fun F h => Option.some.inj h ▸ q191) get_leaf get_leaf)) (get_node (fun F h => Option.some.inj h ▸ q95) (get_node (fun F h => Option.some.inj h ▸ q159) get_leaf get_leaf) get_leaf)) (get_node (fun F h => Option.some.inj h ▸ q47) (get_node (fun F h => Option.some.inj h ▸ q79) (get_node (fun F h => Option.some.inj h ▸ q143) get_leaf get_leaf) (get_node (fun F h => Option.some.inj h ▸ q207) get_leaf get_leaf)) (get_node (fun F h => Option.some.inj h ▸ q111) (get_node (fun F h => Option.some.inj h ▸ q175) get_leaf get_leaf) get_leaf))) (get_node (fun F h => Option.some.inj h ▸ q23) (get_node (fun F h => Option.some.inj h ▸ q39) (get_node (fun F h => Option.some.inj h ▸ q71) (get_node (fun F h => Option.some.inj h ▸ q135) get_leaf get_leaf) (get_node (fun F h => Option.some.inj h ▸ q199) get_leaf get_leaf)) (get_node (fun F h => Option.some.inj h ▸ q103) (get_node (fun F h => Option.some.inj h ▸ q167) get_leaf get_leaf) get_leaf)) (get_node (fun F h => Option.some.inj h ▸ q55) (get_node (fun F h => Option.some.inj h ▸ q87) (get_node (fun F h => Option.some.inj h ▸ q151) get_leaf get_leaf) get_leaf) (get_node (fun F h => Option.some.inj h ▸ q119) (get_node (fun F h => Option.some.inj h ▸ q183) get_leaf get_leaf) get_leaf)))) (get_node (fun F h => Option.some.inj h ▸ q11) (get_node (fun F h => Option.some.inj h ▸ q19) (get_node (fun F h => Option.some.inj h ▸ q35) (get_node (fun F h => Option.some.inj h ▸ q67) (get_node (fun F h => Option.some.inj h ▸ q131) get_leaf get_leaf) (get_node (fun F h => Option.some.inj h ▸ q195) get_leaf get_leaf)) (get_node (fun F h => Option.some.inj h ▸ q99) (get_node (fun F h => Option.some.inj h ▸ q163) get_leaf get_leaf) get_leaf)) (get_node (fun F h => Option.some.inj h ▸ q51) (get_node (fun F h => Option.some.inj h ▸ q83) (get_node (fun F h => Option.some.inj h ▸ q147) get_leaf get_leaf) (get_node (fun F h => Option.some.inj h ▸ q211) get_leaf get_leaf)) (get_node (fun F h => Option.some.inj h ▸ q115) (get_node (fun F h => Option.some.inj h ▸ q179) get_leaf get_leaf) get_leaf))) (get_node (fun F h => Option.some.inj h ▸ q27) (get_node (fun F h => Option.some.inj h ▸ q43) (get_node (fun F h => Option.some.inj h ▸ q75) (get_node (fun F h => Option.some.inj h ▸ q139) get_leaf get_leaf) (get_node (fun F h => Option.some.inj h ▸ q203) get_leaf get_leaf)) (get_node (fun F h => Option.some.inj h ▸ q107) (get_node (fun F h => Option.some.inj h ▸ q171) get_leaf get_leaf) get_leaf)) (get_node (fun F h => Option.some.inj h ▸ q59) (get_node (fun F h => Option.some.inj h ▸ q91) (get_node (fun F h => Option.some.inj h ▸ q155) get_leaf get_leaf) get_leaf) (get_node (fun F h => Option.some.inj h ▸ q123) (get_node (fun F h => Option.some.inj h ▸ q187) get_leaf get_leaf) get_leaf))))) (get_node (fun F h => Option.some.inj h ▸ q5) (get_node (fun F h => Option.some.inj h ▸ q9) (get_node (fun F h => Option.some.inj h ▸ q17) (get_node (fun F h => Option.some.inj h ▸ q33) (get_node (fun F h => Option.some.inj h ▸ q65) (get_node (fun F h => Option.some.inj h ▸ q129) get_leaf get_leaf) (get_node (fun F h => Option.some.inj h ▸ q193) get_leaf get_leaf)) (get_node (fun F h => Option.some.inj h ▸ q97) (get_node (fun F h => Option.some.inj h ▸ q161) get_leaf get_leaf) get_leaf)) (get_node (fun F h => Option.some.inj h ▸ q49) (get_node (fun F h => Option.some.inj h ▸ q81) (get_node (fun F h => Option.some.inj h ▸ q145) get_leaf get_leaf) (get_node (fun F h => Option.some.inj h ▸ q209) get_leaf get_leaf)) (get_node (fun F h => Option.some.inj h ▸ q113) (get_node (fun F h => Option.some.inj h ▸ q177) get_leaf get_leaf) get_leaf))) (get_node (fun F h => Option.some.inj h ▸ q25) (get_node (fun F h => Option.some.inj h ▸ q41) (get_node (fun F h => Option.some.inj h ▸ q73) (get_node (fun F h => Option.some.inj h ▸ q137) get_leaf get_leaf) (get_node (fun F h => Option.some.inj h ▸ q201) get_leaf get_leaf)) (get_node (fun F h => Option.some.inj h ▸ q105) (get_node (fun F h => Option.some.inj h ▸ q169) get_leaf get_leaf) get_leaf)) (get_node (fun F h => Option.some.inj h ▸ q57) (get_node (fun F h => Option.some.inj h ▸ q89) (get_node (fun F h => Option.some.inj h ▸ q153) get_leaf get_leaf) get_leaf) (get_node (fun F h => Option.some.inj h ▸ q121) (get_node (fun F h => Option.some.inj h ▸ q185) get_leaf get_leaf) get_leaf)))) (get_node (fun F h => Option.some.inj h ▸ q13) (get_node (fun F h => Option.some.inj h ▸ q21) (get_node (fun F h => Option.some.inj h ▸ q37) (get_node (fun F h => Option.some.inj h ▸ q69) (get_node (fun F h => Option.some.inj h ▸ q133) get_leaf get_leaf) (get_node (fun F h => Option.some.inj h ▸ q197) get_leaf get_leaf)) (get_node (fun F h => Option.some.inj h ▸ q101) (get_node (fun F h => Option.some.inj h ▸ q165) get_leaf get_leaf) get_leaf)) (get_node (fun F h => Option.some.inj h ▸ q53) (get_node (fun F h => Option.some.inj h ▸ q85) (get_node (fun F h => Option.some.inj h ▸ q149) get_leaf get_leaf) (get_node (fun F h => Option.some.inj h ▸ q213) get_leaf get_leaf)) (get_node (fun F h => Option.some.inj h ▸ q117) (get_node (fun F h => Option.some.inj h ▸ q181) get_leaf get_leaf) get_leaf))) (get_node (fun F h => Option.some.inj h ▸ q29) (get_node (fun F h => Option.some.inj h ▸ q45) (get_node (fun F h => Option.some.inj h ▸ q77) (get_node (fun F h => Option.some.inj h ▸ q141) get_leaf get_leaf) (get_node (fun F h => Option.some.inj h ▸ q205) get_leaf get_leaf)) (get_node (fun F h => Option.some.inj h ▸ q109) (get_node (fun F h => Option.some.inj h ▸ q173) get_leaf get_leaf) get_leaf)) (get_node (fun F h => Option.some.inj h ▸ q61) (get_node (fun F h => Option.some.inj h ▸ q93) (get_node (fun F h => Option.some.inj h ▸ q157) get_leaf get_leaf) get_leaf) (get_node (fun F h => Option.some.inj h ▸ q125) (get_node (fun F h => Option.some.inj h ▸ q189) get_leaf get_leaf) get_leaf)))))) (get_node (fun F h => Option.some.inj h ▸ q2) (get_node (fun F h => Option.some.inj h ▸ q4) (get_node (fun F h => Option.some.inj h ▸ q8) (get_node (fun F h => Option.some.inj h ▸ q16) (get_node (fun F h => Option.some.inj h ▸ q32) (get_node (fun F h => Option.some.inj h ▸ q64) (get_node (fun F h => Option.some.inj h ▸ q128) get_leaf get_leaf) (get_node (fun F h => Option.some.inj h ▸ q192) get_leaf get_leaf)) (get_node (fun F h => Option.some.inj h ▸ q96) (get_node (fun F h => Option.some.inj h ▸ q160) get_leaf get_leaf) get_leaf)) (get_node (fun F h => Option.some.inj h ▸ q48) (get_node (fun F h => Option.some.inj h ▸ q80) (get_node (fun F h => Option.some.inj h ▸ q144) get_leaf get_leaf) (get_node (fun F h => Option.some.inj h ▸ q208) get_leaf get_leaf)) (get_node (fun F h => Option.some.inj h ▸ q112) (get_node (fun F h => Option.some.inj h ▸ q176) get_leaf get_leaf) get_leaf))) (get_node (fun F h => Option.some.inj h ▸ q24) (get_node (fun F h => Option.some.inj h ▸ q40) (get_node (fun F h => Option.some.inj h ▸ q72) (get_node (fun F h => Option.some.inj h ▸ q136) get_leaf get_leaf) (get_node (fun F h => Option.some.inj h ▸ q200) get_leaf get_leaf)) (get_node (fun F h => Option.some.inj h ▸ q104) (get_node (fun F h => Option.some.inj h ▸ q168) get_leaf get_leaf) get_leaf)) (get_node (fun F h => Option.some.inj h ▸ q56) (get_node (fun F h => Option.some.inj h ▸ q88) (get_node (fun F h => Option.some.inj h ▸ q152) get_leaf get_leaf) get_leaf) (get_node (fun F h => Option.some.inj h ▸ q120) (get_node (fun F h => Option.some.inj h ▸ q184) get_leaf get_leaf) get_leaf)))) (get_node (fun F h => Option.some.inj h ▸ q12) (get_node (fun F h => Option.some.inj h ▸ q20) (get_node (fun F h => Option.some.inj h ▸ q36) (get_node (fun F h => Option.some.inj h ▸ q68) (get_node (fun F h => Option.some.inj h ▸ q132) get_leaf get_leaf) (get_node (fun F h => Option.some.inj h ▸ q196) get_leaf get_leaf)) (get_node (fun F h => Option.some.inj h ▸ q100) (get_node (fun F h => Option.some.inj h ▸ q164) get_leaf get_leaf) get_leaf)) (get_node (fun F h => Option.some.inj h ▸ q52) (get_node (fun F h => Option.some.inj h ▸ q84) (get_node (fun F h => Option.some.inj h ▸ q148) get_leaf get_leaf) (get_node (fun F h => Option.some.inj h ▸ q212) get_leaf get_leaf)) (get_node (fun F h => Option.some.inj h ▸ q116) (get_node (fun F h => Option.some.inj h ▸ q180) get_leaf get_leaf) get_leaf))) (get_node (fun F h => Option.some.inj h ▸ q28) (get_node (fun F h => Option.some.inj h ▸ q44) (get_node (fun F h => Option.some.inj h ▸ q76) (get_node (fun F h => Option.some.inj h ▸ q140) get_leaf get_leaf) (get_node (fun F h => Option.some.inj h ▸ q204) get_leaf get_leaf)) (get_node (fun F h => Option.some.inj h ▸ q108) (get_node (fun F h => Option.some.inj h ▸ q172) get_leaf get_leaf) get_leaf)) (get_node (fun F h => Option.some.inj h ▸ q60) (get_node (fun F h => Option.some.inj h ▸ q92) (get_node (fun F h => Option.some.inj h ▸ q156) get_leaf get_leaf) get_leaf) (get_node (fun F h => Option.some.inj h ▸ q124) (get_node (fun F h => Option.some.inj h ▸ q188) get_leaf get_leaf) get_leaf))))) (get_node (fun F h => Option.some.inj h ▸ q6) (get_node (fun F h => Option.some.inj h ▸ q10) (get_node (fun F h => Option.some.inj h ▸ q18) (get_node (fun F h => Option.some.inj h ▸ q34) (get_node (fun F h => Option.some.inj h ▸ q66) (get_node (fun F h => Option.some.inj h ▸ q130) get_leaf get_leaf) (get_node (fun F h => Option.some.inj h ▸ q194) get_leaf get_leaf)) (get_node (fun F h => Option.some.inj h ▸ q98) (get_node (fun F h => Option.some.inj h ▸ q162) get_leaf get_leaf) get_leaf)) (get_node (fun F h => Option.some.inj h ▸ q50) (get_node (fun F h => Option.some.inj h ▸ q82) (get_node (fun F h => Option.some.inj h ▸ q146) get_leaf get_leaf) (get_node (fun F h => Option.some.inj h ▸ q210) get_leaf get_leaf)) (get_node (fun F h => Option.some.inj h ▸ q114) (get_node (fun F h => Option.some.inj h ▸ q178) get_leaf get_leaf) get_leaf))) (get_node (fun F h => Option.some.inj h ▸ q26) (get_node (fun F h => Option.some.inj h ▸ q42) (get_node (fun F h => Option.some.inj h ▸ q74) (get_node (fun F h => Option.some.inj h ▸ q138) get_leaf get_leaf) (get_node (fun F h => Option.some.inj h ▸ q202) get_leaf get_leaf)) (get_node (fun F h => Option.some.inj h ▸ q106) (get_node (fun F h => Option.some.inj h ▸ q170) get_leaf get_leaf) get_leaf)) (get_node (fun F h => Option.some.inj h ▸ q58) (get_node (fun F h => Option.some.inj h ▸ q90) (get_node (fun F h => Option.some.inj h ▸ q154) get_leaf get_leaf) get_leaf) (get_node (fun F h => Option.some.inj h ▸ q122) (get_node (fun F h => Option.some.inj h ▸ q186) get_leaf get_leaf) get_leaf)))) (get_node (fun F h => Option.some.inj h ▸ q14) (get_node (fun F h => Option.some.inj h ▸ q22) (get_node (fun F h => Option.some.inj h ▸ q38) (get_node (fun F h => Option.some.inj h ▸ q70) (get_node (fun F h => Option.some.inj h ▸ q134) get_leaf get_leaf) (get_node (fun F h => Option.some.inj h ▸ q198) get_leaf get_leaf)) (get_node (fun F h => Option.some.inj h ▸ q102) (get_node (fun F h => Option.some.inj h ▸ q166) get_leaf get_leaf) get_leaf)) (get_node (fun F h => Option.some.inj h ▸ q54) (get_node (fun F h => Option.some.inj h ▸ q86) (get_node (fun F h => Option.some.inj h ▸ q150) get_leaf get_leaf) get_leaf) (get_node (fun F h => Option.some.inj h ▸ q118) (get_node (fun F h => Option.some.inj h ▸ q182) get_leaf get_leaf) get_leaf))) (get_node (fun F h => Option.some.inj h ▸ q30) (get_node (fun F h => Option.some.inj h ▸ q46) (get_node (fun F h => Option.some.inj h ▸ q78) (get_node (fun F h => Option.some.inj h ▸ q142) get_leaf get_leaf) (get_node (fun F h => Option.some.inj h ▸ q206) get_leaf get_leaf)) (get_node (fun F h => Option.some.inj h ▸ q110) (get_node (fun F h => Option.some.inj h ▸ q174) get_leaf get_leaf) get_leaf)) (get_node (fun F h => Option.some.inj h ▸ q62) (get_node (fun F h => Option.some.inj h ▸ q94) (get_node (fun F h => Option.some.inj h ▸ q158) get_leaf get_leaf) get_leaf) (get_node (fun F h => Option.some.inj h ▸ q126) (get_node (fun F h => Option.some.inj h ▸ q190) get_leaf get_leaf) get_leaf)))))))
theorem flOk : ∀ t i, ty.get t = some i → FlP t i := (get_node (fun F h => Option.some.inj h ▸ r0) (get_node (fun F h => Option.some.inj h ▸ r1) (get_node (fun F h => Option.some.inj h ▸ r3) (get_node (fun F h => Option.some.inj h ▸ r7) (get_node (fun F h => Option.some.inj h ▸ r15) (get_node (fun F h => Option.some.inj h ▸ r31) (get_node (fun F h => Option.some.inj h ▸ r63) (get_node (fun F h => Option.some.inj h ▸ r127) get_leaf get_leaf) (get_node (fun F h => Option.some.inj h ▸ r191) get_leaf get_leaf)) (get_node (fun F h => Option.some.inj h ▸ r95) (get_node (fun F h => Option.some.inj h ▸ r159) get_leaf get_leaf) get_leaf)) (get_node (fun F h => Option.some.inj h ▸ r47) (get_node (fun F h => Option.some.inj h ▸ r79) (get_node (fun F h => Option.some.inj h ▸ r143) get_leaf get_leaf) (get_node (fun F h => Option.some.inj h ▸ r207) get_leaf get_leaf)) (get_node (fun F h => Option.some.inj h ▸ r111) (get_node (fun F h => Option.some.inj h ▸ r175) get_leaf get_leaf) get_leaf))) (get_node (fun F h => Option.some.inj h ▸ r23) (get_node (fun F h => Option.some.inj h ▸ r39) (get_node (fun F h => Option.some.inj h ▸ r71) (get_node (fun F h => Option.some.inj h ▸ r135) get_leaf get_leaf) (get_node (fun F h => Option.some.inj h ▸ r199) get_leaf get_leaf)) (get_node (fun F h => Option.some.inj h ▸ r103) (get_node (fun F h => Option.some.inj h ▸ r167) get_leaf get_leaf) get_leaf)) (get_node (fun F h => Option.some.inj h ▸ r55) (get_node (fun F h => Option.some.inj h ▸ r87) (get_node (fun F h => Option.some.inj h ▸ r151) get_leaf get_leaf) get_leaf) (get_node (fun F h => Option.some.inj h ▸ r119) (get_node (fun F h => Option.some.inj h ▸ r183) get_leaf get_leaf) get_leaf)))) (get_node (fun F h => Option.some.inj h ▸ r11) (get_node (fun F h => Option.some.inj h ▸ r19) (get_node (fun F h => Option.some.inj h ▸ r35) (get_node (fun F h => Option.some.inj h ▸ r67) (get_node (fun F h => Option.some.inj h ▸ r131) get_leaf get_leaf) (get_node (fun F h => Option.some.inj h ▸ r195) get_leaf get_leaf)) (get_node (fun F h => Option.some.inj h ▸ r99) (get_node (fun F h => Option.some.inj h ▸ r163) get_leaf get_leaf) get_leaf)) (get_node (fun F h => Option.some.inj h ▸ r51) (get_node (fun F h => Option.some.inj h ▸ r83) (get_node (fun F h => Option.some.inj h ▸ r147) get_leaf get_leaf) (get_node (fun F h => Option.some.inj h ▸ r211) get_leaf get_leaf)) (get_node (fun F h => Option.some.inj h ▸ r115) (get_node (fun F h => Option.some.inj h ▸ r179) get_leaf get_leaf) get_leaf))) (get_node (fun F h => Option.some.inj h ▸ r27) (get_node (fun F h => Option.some.inj h ▸ r43) (get_node (fun F h => Option.some.inj h ▸ r75) (get_node (fun F h => Option.some.inj h ▸ r139) get_leaf get_leaf) (get_node (fun F h => Option.some.inj h ▸ r203) get_leaf get_leaf)) (get_node (fun F h => Option.some.inj h ▸ r107) (get_node (fun F h => Option.some.inj h ▸ r171) get_leaf get_leaf) get_leaf)) (get_node (fun F h => Option.some.inj h ▸ r59) (get_node (fun F h => Option.some.inj h ▸ r91) (get_node (fun F h => Option.some.inj h ▸ r155) get_leaf get_leaf) get_leaf) (get_node (fun F h => Option.some.inj h ▸ r123) (get_node (fun F h => Option.some.inj h ▸ r187) get_leaf get_leaf) get_leaf))))) (get_node (fun F h => Option.some.inj h ▸ r5) (get_node (fun F h => Option.some.inj h ▸ r9) (get_node (fun F h => Option.some.inj h ▸ r17) (get_node (fun F h => Option.some.inj h ▸ r33) (get_node (fun F h => Option.some.inj h ▸ r65) (get_node (fun F h => Option.some.inj h ▸ r129) get_leaf get_leaf) (get_node (fun F h => Option.some.inj h ▸ r193) get_leaf get_leaf)) (get_node (fun F h => Option.some.inj h ▸ r97) (get_node (fun F h => Option.some.inj h ▸ r161) get_leaf get_leaf) get_leaf)) (get_node (fun F h => Option.some.inj h ▸ r49) (get_node (fun F h => Option.some.inj h ▸ r81) (get_node (fun F h => Option.some.inj h ▸ r145) get_leaf get_leaf) (get_node (fun F h => Option.some.inj h ▸ r209) get_leaf get_leaf)) (get_node (fun F h => Option.some.inj h ▸ r113) (get_node (fun F h => Option.some.inj h ▸ r177) get_leaf get_leaf) get_leaf))) (get_node (fun F h => Option.some.inj h ▸ r25) (get_node (fun F h => Option.some.inj h ▸ r41) (get_node (fun F h => Option.some.inj h ▸ r73) (get_node (fun F h => Option.some.inj h ▸ r137) get_leaf get_leaf) (get_node (fun F h => Option.some.inj h ▸ r201) get_leaf get_leaf)) (get_node (fun F h => Option.some.inj h ▸ r105) (get_node (fun F h => Option.some.inj h ▸ r169) get_leaf get_leaf) get_leaf)) (get_node (fun F h => Option.some.inj h ▸ r57) (get_node (fun F h => Option.some.inj h ▸ r89) (get_node (fun F h => Option.some.inj h ▸ r153) get_leaf get_leaf) get_leaf) (get_node (fun F h => Option.some.inj h ▸ r121) (get_node (fun F h => Option.some.inj h ▸ r185) get_leaf get_leaf) get_leaf)))) (get_node (fun F h => Option.some.inj h ▸ r13) (get_node (fun F h => Option.some.inj h ▸ r21) (get_node (fun F h => Option.some.inj h ▸ r37) (get_node (fun F h => Option.some.inj h ▸ r69) (get_node (fun F h => Option.some.inj h ▸ r133) get_leaf get_leaf) (get_node (fun F h => Option.some.inj h ▸ r197) get_leaf get_leaf)) (get_node (fun F h => Option.some.inj h ▸ r101) (get_node (fun F h => Option.some.inj h ▸ r165) get_leaf get_leaf) get_leaf)) (get_node (fun F h => Option.some.inj h ▸ r53) (get_node (fun F h => Option.some.inj h ▸ r85) (get_node (fun F h => Option.some.inj h ▸ r149) get_leaf get_leaf) (get_node (fun F h => Option.some.inj h ▸ r213) get_leaf get_leaf)) (get_node (fun F h => Option.some.inj h ▸ r117) (get_node (fun F h => Option.some.inj h ▸ r181) get_leaf get_leaf) get_leaf))) (get_node (fun F h => Option.some.inj h ▸ r29) (get_node (fun F h => Option.some.inj h ▸ r45) (get_node (fun F h => Option.some.inj h ▸ r77) (get_node (fun F h => Option.some.inj h ▸ r141) get_leaf get_leaf) (get_node (fun F h => Option.some.inj h ▸ r205) get_leaf get_leaf)) (get_node (fun F h => Option.some.inj h ▸ r109) (get_node (fun F h => Option.some.inj h ▸ r173) get_leaf get_leaf) get_leaf)) (get_node (fun F h => Option.some.inj h ▸ r61) (get_node (fun F h => Option.some.inj h ▸ r93) (get_node (fun F h => Option.some.inj h ▸ r157) get_leaf get_leaf) get_leaf) (get_node (fun F h => Option.some.inj h ▸ r125) (get_node (fun F h => Option.some.inj h ▸ r189) get_leaf get_leaf) get_leaf)))))) (get_node (fun F h => Option.some.inj h ▸ r2) (get_node (fun F h => Option.some.inj h ▸ r4) (get_node (fun F h => Option.some.inj h ▸ r8) (get_node (fun F h => Option.some.inj h ▸ r16) (get_node (fun F h => Option.some.inj h ▸ r32) (get_node (fun F h => Option.some.inj h ▸ r64) (get_node (fun F h => Option.some.inj h ▸ r128) get_leaf get_leaf) (get_node (fun F h => Option.some.inj h ▸ r192) get_leaf get_leaf)) (get_node (fun F h => Option.some.inj h ▸ r96) (get_node (fun F h => Option.some.inj h ▸ r160) get_leaf get_leaf) get_leaf)) (get_node (fun F h => Option.some.inj h ▸ r48) (get_node (fun F h => Option.some.inj h ▸ r80) (get_node (fun F h => Option.some.inj h ▸ r144) get_leaf get_leaf) (get_node (fun F h => Option.some.inj h ▸ r208) get_leaf get_leaf)) (get_node (fun F h => Option.some.inj h ▸ r112) (get_node (fun F h => Option.some.inj h ▸ r176) get_leaf get_leaf) get_leaf))) (get_node (fun F h => Option.some.inj h ▸ r24) (get_node (fun F h => Option.some.inj h ▸ r40) (get_node (fun F h => Option.some.inj h ▸ r72) (get_node (fun F h => Option.some.inj h ▸ r136) get_leaf get_leaf) (get_node (fun F h => Option.some.inj h ▸ r200) get_leaf get_leaf)) (get_node (fun F h => Option.some.inj h ▸ r104) (get_node (fun F h => Option.some.inj h ▸ r168) get_leaf get_leaf) get_leaf)) (get_node (fun F h => Option.some.inj h ▸ r56) (get_node (fun F h => Option.some.inj h ▸ r88) (get_node (fun F h => Option.some.inj h ▸ r152) get_leaf get_leaf) get_leaf) (get_node (fun F h => Option.some.inj h ▸ r120) (get_node (fun F h => Option.some.inj h ▸ r184) get_leaf get_leaf) get_leaf)))) (get_node (fun F h => Option.some.inj h ▸ r12) (get_node (fun F h => Option.some.inj h ▸ r20) (get_node (fun F h => Option.some.inj h ▸ r36) (get_node (fun F h => Option.some.inj h ▸ r68) (get_node (fun F h => Option.some.inj h ▸ r132) get_leaf get_leaf) (get_node (fun F h => Option.some.inj h ▸ r196) get_leaf get_leaf)) (get_node (fun F h => Option.some.inj h ▸ r100) (get_node (fun F h => Option.some.inj h ▸ r164) get_leaf get_leaf) get_leaf)) (get_node (fun F h => Option.some.inj h ▸ r52) (get_node (fun F h => Option.some.inj h ▸ r84) (get_node (fun F h => Option.some.inj h ▸ r148) get_leaf get_leaf) (get_node (fun F h => Option.some.inj h ▸ r212) get_leaf get_leaf)) (get_node (fun F h => Option.some.inj h ▸ r116) (get_node (fun F h => Option.some.inj h ▸ r180) get_leaf get_leaf) get_leaf))) (get_node (fun F h => Option.some.inj h ▸ r28) (get_node (fun F h => Option.some.inj h ▸ r44) (get_node (fun F h => Option.some.inj h ▸ r76) (get_node (fun F h => Option.some.inj h ▸ r140) get_leaf get_leaf) (get_node (fun F h => Option.some.inj h ▸ r204) get_leaf get_leaf)) (get_node (fun F h => Option.some.inj h ▸ r108) (get_node (fun F h => Option.some.inj h ▸ r172) get_leaf get_leaf) get_leaf)) (get_node (fun F h => Option.some.inj h ▸ r60) (get_node (fun F h => Option.some.inj h ▸ r92) (get_node (fun F h => Option.some.inj h ▸ r156) get_leaf get_leaf) get_leaf) (get_node (fun F h => Option.some.inj h ▸ r124) (get_node (fun F h => Option.some.inj h ▸ r188) get_leaf get_leaf) get_leaf))))) (get_node (fun F h => Option.some.inj h ▸ r6) (get_node (fun F h => Option.some.inj h ▸ r10) (get_node (fun F h => Option.some.inj h ▸ r18) (get_node (fun F h => Option.some.inj h ▸ r34) (get_node (fun F h => Option.some.inj h ▸ r66) (get_node (fun F h => Option.some.inj h ▸ r130) get_leaf get_leaf) (get_node (fun F h => Option.some.inj h ▸ r194) get_leaf get_leaf)) (get_node (fun F h => Option.some.inj h ▸ r98) (get_node (fun F h => Option.some.inj h ▸ r162) get_leaf get_leaf) get_leaf)) (get_node (fun F h => Option.some.inj h ▸ r50) (get_node (fun F h => Option.some.inj h ▸ r82) (get_node (fun F h => Option.some.inj h ▸ r146) get_leaf get_leaf) (get_node (fun F h => Option.some.inj h ▸ r210) get_leaf get_leaf)) (get_node (fun F h => Option.some.inj h ▸ r114) (get_node (fun F h => Option.some.inj h ▸ r178) get_leaf get_leaf) get_leaf))) (get_node (fun F h => Option.some.inj h ▸ r26) (get_node (fun F h => Option.some.inj h ▸ r42) (get_node (fun F h => Option.some.inj h ▸ r74) (get_node (fun F h => Option.some.inj h ▸ r138) get_leaf get_leaf) (get_node (fun F h => Option.some.inj h ▸ r202) get_leaf get_leaf)) (get_node (fun F h => Option.some.inj h ▸ r106) (get_node (fun F h => Option.some.inj h ▸ r170) get_leaf get_leaf) get_leaf)) (get_node (fun F h => Option.some.inj h ▸ r58) (get_node (fun F h => Option.some.inj h ▸ r90) (get_node (fun F h => Option.some.inj h ▸ r154) get_leaf get_leaf) get_leaf) (get_node (fun F h => Option.some.inj h ▸ r122) (get_node (fun F h => Option.some.inj h ▸ r186) get_leaf get_leaf) get_leaf)))) (get_node (fun F h => Option.some.inj h ▸ r14) (get_node (fun F h => Option.some.inj h ▸ r22) (get_node (fun F h => Option.some.inj h ▸ r38) (get_node (fun F h => Option.some.inj h ▸ r70) (get_node (fun F h => Option.some.inj h ▸ r134) get_leaf get_leaf) (get_node (fun F h => Option.some.inj h ▸ r198) get_leaf get_leaf)) (get_node (fun F h => Option.some.inj h ▸ r102) (get_node (fun F h => Option.some.inj h ▸ r166) get_leaf get_leaf) get_leaf)) (get_node (fun F h => Option.some.inj h ▸ r54) (get_node (fun F h => Option.some.inj h ▸ r86) (get_node (fun F h => Option.some.inj h ▸ r150) get_leaf get_leaf) get_leaf) (get_node (fun F h => Option.some.inj h ▸ r118) (get_node (fun F h => Option.some.inj h ▸ r182) get_leaf get_leaf) get_leaf))) (get_node (fun F h => Option.some.inj h ▸ r30) (get_node (fun F h => Option.some.inj h ▸ r46) (get_node (fun F h => Option.some.inj h ▸ r78) (get_node (fun F h => Option.some.inj h ▸ r142) get_leaf get_leaf) (get_node (fun F h => Option.some.inj h ▸ r206) get_leaf get_leaf)) (get_node (fun F h => Option.some.inj h ▸ r110) (get_node (fun F h => Option.some.inj h ▸ r174) get_leaf get_leaf) get_leaf)) (get_node (fun F h => Option.some.inj h ▸ r62) (get_node (fun F h => Option.some.inj h ▸ r94) (get_node (fun F h => Option.some.inj h ▸ r158) get_leaf get_leaf) get_leaf) (get_node (fun F h => Option.some.inj h ▸ r126) (get_node (fun F h => Option.some.inj h ▸ r190) get_leaf get_leaf) get_leaf)))))))
noncomputable def D : Abs.Data := { fn := fn, ty := ty }
theorem dok : DOk Tryz.prog D := ⟨fun f F h => fnOk f F h, fun t i h => tyOk t i h, fun t i h hf => flOk t i h hf, by kernel_rfl⟩
theorem ovok : OvOK Tryz.prog D := fun f g h => by simp [D] at h
end Go.Proofs.YtlikepnpamejmaaGreat.Tab
