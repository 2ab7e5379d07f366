/- The tables of the seat's program: its functions, its types; that they tell the program's own. Written by a program of this session (wip/mktab.py). -/
import Derived.Test.YthiccnmplgdheaaProg
import Derived.Test.YthiccnmplgdheaaAbsE
import Derived.KernelRfl
set_option linter.unusedVariables false
set_option maxRecDepth 100000
namespace Go.Proofs.Ythiccnmplgdheaa.Tab
open Go Go.Abs Go.Proofs
noncomputable section
theorem get_leaf {α : Type} {p : Nat → α → Prop} : ∀ f F, (Tr.leaf : Tr α).get f = some F → p f F := fun f F h => by simp [Tr.get] at h
theorem get_node {α : Type} {p : Nat → α → Prop} {l r : Tr α} {v : Option α} (h0 : ∀ F, v = some F → p 0 F) (hl : ∀ f F, l.get f = some F → p (2 * f + 1) F) (hr : ∀ f F, r.get f = some F → p (2 * f + 2) F) : ∀ f F, (Tr.node l v r).get f = some F → p f F := by
  intro f F h
  unfold Tr.get at h
  by_cases h1 : f = 0
  · subst h1; exact h0 F h
  · rw [nbeq_f h1] at h
    by_cases h2 : f % 2 = 1
    · rw [nbeq_t h2] at h
      have := hl _ F h
      rwa [show 2 * (f / 2) + 1 = f by omega] at this
    · rw [nbeq_f h2] at h
      have := hr _ F h
      rwa [show 2 * (f / 2 - 1) + 2 = f by omega] at this
def y0 : TyI := ⟨1, 0, (Value.tuple #[]), (TypeDesc.tuple #[]), false⟩
def y1 : TyI := ⟨1, 8, Value.nilFunc, (TypeDesc.func #[] #[] false), false⟩
def y2 : TyI := ⟨1, 8, (Value.int .i64 0), (TypeDesc.int .i64), false⟩
def y3 : TyI := ⟨1, 8, (Value.int .i64 0), (TypeDesc.int .i64), false⟩
def y4 : TyI := ⟨1, 1, (Value.bool false), TypeDesc.bool, false⟩
def y5 : TyI := ⟨1, 1, (Value.int .u8 0), (TypeDesc.int .u8), false⟩
def y6 : TyI := ⟨1, 1, (Value.int .u8 0), (TypeDesc.int .u8), false⟩
def y7 : TyI := ⟨4, 24, (Value.agg #[Value.int .i64 0, Value.int .i64 0, Value.bool false, Value.int .u8 0]), (TypeDesc.struct #[⟨"x", 2, 0, false, "", "runtime", 0⟩, ⟨"y", 3, 1, false, "", "runtime", 8⟩, ⟨"signed", 4, 2, false, "", "runtime", 16⟩, ⟨"code", 6, 3, false, "", "runtime", 17⟩]), false⟩
def y8 : TyI := ⟨4, 24, (Value.agg #[Value.int .i64 0, Value.int .i64 0, Value.bool false, Value.int .u8 0]), (TypeDesc.struct #[⟨"x", 2, 0, false, "", "runtime", 0⟩, ⟨"y", 3, 1, false, "", "runtime", 8⟩, ⟨"signed", 4, 2, false, "", "runtime", 16⟩, ⟨"code", 6, 3, false, "", "runtime", 17⟩]), false⟩
def y9 : TyI := ⟨1, 16, (Value.string { data := #[] }), TypeDesc.string, false⟩
def y10 : TyI := ⟨1, 16, (Value.string { data := #[] }), TypeDesc.string, false⟩
def y11 : TyI := ⟨1, 16, (Value.string { data := #[] }), TypeDesc.string, false⟩
def y12 : TyI := ⟨1, 8, (Value.int .u64 0), (TypeDesc.int .u64), false⟩
def y13 : TyI := ⟨2, 24, (Value.agg #[Value.string { data := #[] }, Value.int .u64 0]), (TypeDesc.struct #[⟨"msg", 9, 0, false, "", "runtime", 0⟩, ⟨"addr", 12, 1, false, "", "runtime", 16⟩]), false⟩
def y14 : TyI := ⟨2, 24, (Value.agg #[Value.string { data := #[] }, Value.int .u64 0]), (TypeDesc.struct #[⟨"msg", 9, 0, false, "", "runtime", 0⟩, ⟨"addr", 12, 1, false, "", "runtime", 16⟩]), false⟩
def y15 : TyI := ⟨1, 8, (Value.pointer none), (TypeDesc.pointer 212), false⟩
def y16 : TyI := ⟨1, 8, (Value.pointer none), (TypeDesc.pointer 215), false⟩
def y17 : TyI := ⟨1, 8, (Value.pointer none), (TypeDesc.pointer 223), false⟩
def y18 : TyI := ⟨1, 8, (Value.agg #[Value.pointer none]), (TypeDesc.struct #[⟨"typ", 17, 0, false, "", "internal/runtime/maps", 0⟩]), false⟩
def y19 : TyI := ⟨1, 8, (Value.agg #[Value.pointer none]), (TypeDesc.struct #[⟨"typ", 17, 0, false, "", "internal/runtime/maps", 0⟩]), false⟩
def y20 : TyI := ⟨1, 16, Value.nilIface, (TypeDesc.interface #[]), false⟩
def y21 : TyI := ⟨1, 4, (Value.int .i32 0), (TypeDesc.int .i32), false⟩
def y22 : TyI := ⟨1, 24, (Value.slice none 0 0), (TypeDesc.slice 3), false⟩
def y23 : TyI := ⟨1, 24, (Value.slice none 0 0), (TypeDesc.slice 4), false⟩
def y24 : TyI := ⟨1, 8, (Value.pointer none), (TypeDesc.pointer 42), false⟩
def y25 : TyI := ⟨1, 8, Value.nilFunc, (TypeDesc.func #[] #[24] false), false⟩
def y26 : TyI := ⟨1, 8, Value.nilFunc, (TypeDesc.func #[] #[4] false), false⟩
def y27 : TyI := ⟨400, 400, (Value.agg ((([Value.bool false, Value.bool false, Value.bool false, Value.bool false, Value.bool false, Value.bool false, Value.bool false, Value.bool false, Value.bool false, Value.bool false, Value.bool false, Value.bool false, Value.bool false, Value.bool false, Value.bool false, Value.bool false, Value.bool false, Value.bool false, Value.bool false, Value.bool false, Value.bool false, Value.bool false, Value.bool false, Value.bool false, Value.bool false, Value.bool false, Value.bool false, Value.bool false, Value.bool false, Value.bool false, Value.bool false, Value.bool false, Value.bool false, Value.bool false, Value.bool false, Value.bool false, Value.bool false, Value.bool false, Value.bool false, Value.bool false, Value.bool false, Value.bool false, Value.bool false, Value.bool false, Value.bool false, Value.bool false, Value.bool false, Value.bool false, Value.bool false, Value.bool false].append [Value.bool false, Value.bool false, Value.bool false, Value.bool false, Value.bool false, Value.bool false, Value.bool false, Value.bool false, Value.bool false, Value.bool false, Value.bool false, Value.bool false, Value.bool false, Value.bool false, Value.bool false, Value.bool false, Value.bool false, Value.bool false, Value.bool false, Value.bool false, Value.bool false, Value.bool false, Value.bool false, Value.bool false, Value.bool false, Value.bool false, Value.bool false, Value.bool false, Value.bool false, Value.bool false, Value.bool false, Value.bool false, Value.bool false, Value.bool false, Value.bool false, Value.bool false, Value.bool false, Value.bool false, Value.bool false, Value.bool false, Value.bool false, Value.bool false, Value.bool false, Value.bool false, Value.bool false, Value.bool false, Value.bool false, Value.bool false, Value.bool false, Value.bool false]).append ([Value.bool false, Value.bool false, Value.bool false, Value.bool false, Value.bool false, Value.bool false, Value.bool false, Value.bool false, Value.bool false, Value.bool false, Value.bool false, Value.bool false, Value.bool false, Value.bool false, Value.bool false, Value.bool false, Value.bool false, Value.bool false, Value.bool false, Value.bool false, Value.bool false, Value.bool false, Value.bool false, Value.bool false, Value.bool false, Value.bool false, Value.bool false, Value.bool false, Value.bool false, Value.bool false, Value.bool false, Value.bool false, Value.bool false, Value.bool false, Value.bool false, Value.bool false, Value.bool false, Value.bool false, Value.bool false, Value.bool false, Value.bool false, Value.bool false, Value.bool false, Value.bool false, Value.bool false, Value.bool false, Value.bool false, Value.bool false, Value.bool false, Value.bool false].append [Value.bool false, Value.bool false, Value.bool false, Value.bool false, Value.bool false, Value.bool false, Value.bool false, Value.bool false, Value.bool false, Value.bool false, Value.bool false, Value.bool false, Value.bool false, Value.bool false, Value.bool false, Value.bool false, Value.bool false, Value.bool false, Value.bool false, Value.bool false, Value.bool false, Value.bool false, Value.bool false, Value.bool false, Value.bool false, Value.bool false, Value.bool false, Value.bool false, Value.bool false, Value.bool false, Value.bool false, Value.bool false, Value.bool false, Value.bool false, Value.bool false, Value.bool false, Value.bool false, Value.bool false, Value.bool false, Value.bool false, Value.bool false, Value.bool false, Value.bool false, Value.bool false, Value.bool false, Value.bool false, Value.bool false, Value.bool false, Value.bool false, Value.bool false])).append (([Value.bool false, Value.bool false, Value.bool false, Value.bool false, Value.bool false, Value.bool false, Value.bool false, Value.bool false, Value.bool false, Value.bool false, Value.bool false, Value.bool false, Value.bool false, Value.bool false, Value.bool false, Value.bool false, Value.bool false, Value.bool false, Value.bool false, Value.bool false, Value.bool false, Value.bool false, Value.bool false, Value.bool false, Value.bool false, Value.bool false, Value.bool false, Value.bool false, Value.bool false, Value.bool false, Value.bool false, Value.bool false, Value.bool false, Value.bool false, Value.bool false, Value.bool false, Value.bool false, Value.bool false, Value.bool false, Value.bool false, Value.bool false, Value.bool false, Value.bool false, Value.bool false, Value.bool false, Value.bool false, Value.bool false, Value.bool false, Value.bool false, Value.bool false].append [Value.bool false, Value.bool false, Value.bool false, Value.bool false, Value.bool false, Value.bool false, Value.bool false, Value.bool false, Value.bool false, Value.bool false, Value.bool false, Value.bool false, Value.bool false, Value.bool false, Value.bool false, Value.bool false, Value.bool false, Value.bool false, Value.bool false, Value.bool false, Value.bool false, Value.bool false, Value.bool false, Value.bool false, Value.bool false, Value.bool false, Value.bool false, Value.bool false, Value.bool false, Value.bool false, Value.bool false, Value.bool false, Value.bool false, Value.bool false, Value.bool false, Value.bool false, Value.bool false, Value.bool false, Value.bool false, Value.bool false, Value.bool false, Value.bool false, Value.bool false, Value.bool false, Value.bool false, Value.bool false, Value.bool false, Value.bool false, Value.bool false, Value.bool false]).append ([Value.bool false, Value.bool false, Value.bool false, Value.bool false, Value.bool false, Value.bool false, Value.bool false, Value.bool false, Value.bool false, Value.bool false, Value.bool false, Value.bool false, Value.bool false, Value.bool false, Value.bool false, Value.bool false, Value.bool false, Value.bool false, Value.bool false, Value.bool false, Value.bool false, Value.bool false, Value.bool false, Value.bool false, Value.bool false, Value.bool false, Value.bool false, Value.bool false, Value.bool false, Value.bool false, Value.bool false, Value.bool false, Value.bool false, Value.bool false, Value.bool false, Value.bool false, Value.bool false, Value.bool false, Value.bool false, Value.bool false, Value.bool false, Value.bool false, Value.bool false, Value.bool false, Value.bool false, Value.bool false, Value.bool false, Value.bool false, Value.bool false, Value.bool false].append [Value.bool false, Value.bool false, Value.bool false, Value.bool false, Value.bool false, Value.bool false, Value.bool false, Value.bool false, Value.bool false, Value.bool false, Value.bool false, Value.bool false, Value.bool false, Value.bool false, Value.bool false, Value.bool false, Value.bool false, Value.bool false, Value.bool false, Value.bool false, Value.bool false, Value.bool false, Value.bool false, Value.bool false, Value.bool false, Value.bool false, Value.bool false, Value.bool false, Value.bool false, Value.bool false, Value.bool false, Value.bool false, Value.bool false, Value.bool false, Value.bool false, Value.bool false, Value.bool false, Value.bool false, Value.bool false, Value.bool false, Value.bool false, Value.bool false, Value.bool false, Value.bool false, Value.bool false, Value.bool false, Value.bool false, Value.bool false, Value.bool false, Value.bool false]))).toArray), (TypeDesc.array 400 4), false⟩
def y28 : TyI := ⟨1, 8, Value.nilFunc, (TypeDesc.func #[3, 3] #[3] false), false⟩
def y29 : TyI := ⟨1, 8, Value.nilFunc, (TypeDesc.func #[3, 4] #[4] false), false⟩
def y30 : TyI := ⟨1, 24, (Value.slice none 0 0), (TypeDesc.slice 5), false⟩
def y31 : TyI := ⟨1, 24, (Value.slice none 0 0), (TypeDesc.slice 36), false⟩
def y32 : TyI := ⟨9, 104, (Value.agg #[Value.int .i64 0, Value.int .i64 0, Value.int .i64 0, Value.int .i64 0, Value.int .i64 0, Value.int .i64 0, Value.bool false, Value.slice none 0 0, Value.slice none 0 0]), (TypeDesc.struct #[⟨"Kind", 3, 0, false, "", "", 0⟩, ⟨"ID", 3, 1, false, "", "", 8⟩, ⟨"Off", 3, 2, false, "", "", 16⟩, ⟨"A", 3, 3, false, "", "", 24⟩, ⟨"B", 3, 4, false, "", "", 32⟩, ⟨"Note", 3, 5, false, "", "", 40⟩, ⟨"Fin", 4, 6, false, "", "", 48⟩, ⟨"Data", 30, 7, false, "", "", 56⟩, ⟨"Spans", 31, 8, false, "", "", 80⟩]), false⟩
def y33 : TyI := ⟨9, 104, (Value.agg #[Value.int .i64 0, Value.int .i64 0, Value.int .i64 0, Value.int .i64 0, Value.int .i64 0, Value.int .i64 0, Value.bool false, Value.slice none 0 0, Value.slice none 0 0]), (TypeDesc.struct #[⟨"Kind", 3, 0, false, "", "", 0⟩, ⟨"ID", 3, 1, false, "", "", 8⟩, ⟨"Off", 3, 2, false, "", "", 16⟩, ⟨"A", 3, 3, false, "", "", 24⟩, ⟨"B", 3, 4, false, "", "", 32⟩, ⟨"Note", 3, 5, false, "", "", 40⟩, ⟨"Fin", 4, 6, false, "", "", 48⟩, ⟨"Data", 30, 7, false, "", "", 56⟩, ⟨"Spans", 31, 8, false, "", "", 80⟩]), false⟩
def y34 : TyI := ⟨1, 0, (Value.tuple #[Value.agg #[Value.int .i64 0, Value.int .i64 0, Value.int .i64 0, Value.int .i64 0, Value.int .i64 0, Value.int .i64 0, Value.bool false, Value.slice none 0 0, Value.slice none 0 0], Value.bool false]), (TypeDesc.tuple #[33, 4]), false⟩
def y35 : TyI := ⟨1, 8, Value.nilFunc, (TypeDesc.func #[] #[33, 4] false), false⟩
def y36 : TyI := ⟨2, 16, (Value.agg #[Value.int .i64 0, Value.int .i64 0]), (TypeDesc.array 2 3), true⟩
def y37 : TyI := ⟨1, 8, Value.nilFunc, (TypeDesc.func #[33] #[4] false), false⟩
def y38 : TyI := ⟨1, 8, Value.nilFunc, (TypeDesc.func #[] #[3] false), false⟩
def y39 : TyI := ⟨1, 24, (Value.agg #[Value.slice none 0 0]), (TypeDesc.struct #[⟨"l", 31, 0, false, "", "argosy/spans", 0⟩]), false⟩
def y40 : TyI := ⟨1, 24, (Value.agg #[Value.slice none 0 0]), (TypeDesc.struct #[⟨"l", 31, 0, false, "", "argosy/spans", 0⟩]), false⟩
def y41 : TyI := ⟨3, 40, (Value.agg #[Value.slice none 0 0, Value.bool false, Value.int .i64 0]), (TypeDesc.struct #[⟨"Set", 40, 0, true, "", "", 0⟩, ⟨"Owed", 4, 1, false, "", "", 24⟩, ⟨"newest", 3, 2, false, "", "argosy/acks", 32⟩]), false⟩
def y42 : TyI := ⟨3, 40, (Value.agg #[Value.slice none 0 0, Value.bool false, Value.int .i64 0]), (TypeDesc.struct #[⟨"Set", 40, 0, true, "", "", 0⟩, ⟨"Owed", 4, 1, false, "", "", 24⟩, ⟨"newest", 3, 2, false, "", "argosy/acks", 32⟩]), false⟩
def y43 : TyI := ⟨1, 8, Value.nilFunc, (TypeDesc.func #[22, 23] #[4] false), false⟩
def y44 : TyI := ⟨1, 8, Value.nilFunc, (TypeDesc.func #[3] #[4] false), false⟩
def y45 : TyI := ⟨5, 40, (Value.agg #[Value.int .i64 0, Value.int .i64 0, Value.int .i64 0, Value.int .i64 0, Value.int .i64 0]), (TypeDesc.struct #[⟨"ID", 3, 0, false, "", "", 0⟩, ⟨"Deadline", 3, 1, false, "", "", 8⟩, ⟨"Count", 3, 2, false, "", "", 16⟩, ⟨"Index", 3, 3, false, "", "", 24⟩, ⟨"Size", 3, 4, false, "", "", 32⟩]), true⟩
def y46 : TyI := ⟨5, 40, (Value.agg #[Value.int .i64 0, Value.int .i64 0, Value.int .i64 0, Value.int .i64 0, Value.int .i64 0]), (TypeDesc.struct #[⟨"ID", 3, 0, false, "", "", 0⟩, ⟨"Deadline", 3, 1, false, "", "", 8⟩, ⟨"Count", 3, 2, false, "", "", 16⟩, ⟨"Index", 3, 3, false, "", "", 24⟩, ⟨"Size", 3, 4, false, "", "", 32⟩]), true⟩
def y47 : TyI := ⟨1, 8, Value.nilFunc, (TypeDesc.func #[3, 3, 3] #[46] false), false⟩
def y48 : TyI := ⟨1, 8, Value.nilFunc, (TypeDesc.func #[46, 30] #[30] false), false⟩
def y49 : TyI := ⟨1, 8, Value.nilFunc, (TypeDesc.func #[30, 3] #[30] false), false⟩
def y50 : TyI := ⟨1, 24, (Value.slice none 0 0), (TypeDesc.slice 30), false⟩
def y51 : TyI := ⟨1, 8, Value.nilFunc, (TypeDesc.func #[46, 50] #[30] true), false⟩
def y52 : TyI := ⟨1, 8, (Value.int .i64 0), (TypeDesc.int .i64), false⟩
def y53 : TyI := ⟨1, 0, (Value.tuple #[Value.agg #[Value.int .i64 0, Value.int .i64 0, Value.int .i64 0, Value.int .i64 0, Value.int .i64 0], Value.slice none 0 0, Value.int .i64 0]), (TypeDesc.tuple #[46, 30, 52]), false⟩
def y54 : TyI := ⟨1, 8, Value.nilFunc, (TypeDesc.func #[30] #[46, 30, 52] false), false⟩
def y55 : TyI := ⟨1, 8, Value.nilFunc, (TypeDesc.func #[3, 3, 3, 3, 3, 30] #[4] false), false⟩
def y56 : TyI := ⟨1, 8, Value.nilFunc, (TypeDesc.func #[46] #[30] false), false⟩
def y57 : TyI := ⟨1, 0, (Value.tuple #[Value.agg #[Value.int .i64 0, Value.int .i64 0, Value.int .i64 0, Value.int .i64 0, Value.int .i64 0], Value.int .i64 0, Value.int .i64 0]), (TypeDesc.tuple #[46, 3, 52]), false⟩
def y58 : TyI := ⟨1, 8, Value.nilFunc, (TypeDesc.func #[30] #[46, 3, 52] false), false⟩
def y59 : TyI := ⟨1, 8, Value.nilFunc, (TypeDesc.func #[46] #[4] false), false⟩
def y60 : TyI := ⟨1, 8, Value.nilFunc, (TypeDesc.func #[3, 3, 3, 3, 3] #[46] false), false⟩
def y61 : TyI := ⟨1, 8, Value.nilFunc, (TypeDesc.func #[46, 50] #[30] false), false⟩
def y62 : TyI := ⟨1, 8, Value.nilFunc, (TypeDesc.func #[3] #[3] false), false⟩
def y63 : TyI := ⟨1, 8, Value.nilFunc, (TypeDesc.func #[30, 22] #[30] false), false⟩
def y64 : TyI := ⟨4, 96, (Value.agg #[Value.slice none 0 0, Value.slice none 0 0, Value.slice none 0 0, Value.slice none 0 0]), (TypeDesc.array 4 30), false⟩
def y65 : TyI := ⟨1, 8, Value.nilFunc, (TypeDesc.func #[3, 3, 3, 3, 3, 30, 30, 3, 3, 5, 50] #[4] false), false⟩
def y66 : TyI := ⟨1, 8, Value.nilFunc, (TypeDesc.func #[3, 3, 3, 30, 30] #[4] false), false⟩
def y67 : TyI := ⟨1, 24, (Value.slice none 0 0), (TypeDesc.slice 132), false⟩
def y68 : TyI := ⟨1, 24, (Value.slice none 0 0), (TypeDesc.slice 33), false⟩
def y69 : TyI := ⟨1, 8, Value.nilFunc, (TypeDesc.func #[67, 3] #[68] false), false⟩
def y70 : TyI := ⟨1, 8, Value.nilFunc, (TypeDesc.func #[68] #[4] true), false⟩
def y71 : TyI := ⟨1, 8, Value.nilFunc, (TypeDesc.func #[67, 3] #[4] false), false⟩
def y72 : TyI := ⟨1, 0, (Value.tuple #[Value.slice none 0 0, Value.int .i64 0]), (TypeDesc.tuple #[30, 52]), false⟩
def y73 : TyI := ⟨1, 8, Value.nilFunc, (TypeDesc.func #[68] #[30, 52] true), false⟩
def y74 : TyI := ⟨1, 0, (Value.tuple #[Value.slice none 0 0, Value.int .i64 0]), (TypeDesc.tuple #[68, 52]), false⟩
def y75 : TyI := ⟨1, 8, Value.nilFunc, (TypeDesc.func #[30] #[68, 52] false), false⟩
def y76 : TyI := ⟨1, 8, Value.nilFunc, (TypeDesc.func #[33] #[3] false), false⟩
def y77 : TyI := ⟨1, 8, Value.nilFunc, (TypeDesc.func #[68, 68] #[4] false), false⟩
def y78 : TyI := ⟨40, 40, (Value.agg #[Value.bool false, Value.bool false, Value.bool false, Value.bool false, Value.bool false, Value.bool false, Value.bool false, Value.bool false, Value.bool false, Value.bool false, Value.bool false, Value.bool false, Value.bool false, Value.bool false, Value.bool false, Value.bool false, Value.bool false, Value.bool false, Value.bool false, Value.bool false, Value.bool false, Value.bool false, Value.bool false, Value.bool false, Value.bool false, Value.bool false, Value.bool false, Value.bool false, Value.bool false, Value.bool false, Value.bool false, Value.bool false, Value.bool false, Value.bool false, Value.bool false, Value.bool false, Value.bool false, Value.bool false, Value.bool false, Value.bool false]), (TypeDesc.array 40 4), false⟩
def y79 : TyI := ⟨1, 8, Value.nilFunc, (TypeDesc.func #[22] #[4] false), false⟩
def y80 : TyI := ⟨1, 24, (Value.slice none 0 0), (TypeDesc.slice 86), false⟩
def y81 : TyI := ⟨1, 8, (Value.map none), (TypeDesc.map 3 3), false⟩
def y82 : TyI := ⟨1, 8, (Value.agg #[Value.map none]), (TypeDesc.struct #[⟨"at", 81, 0, false, "", "argosy/order", 0⟩]), false⟩
def y83 : TyI := ⟨1, 8, (Value.agg #[Value.map none]), (TypeDesc.struct #[⟨"at", 81, 0, false, "", "argosy/order", 0⟩]), false⟩
def y84 : TyI := ⟨30, 30, (Value.agg #[Value.bool false, Value.bool false, Value.bool false, Value.bool false, Value.bool false, Value.bool false, Value.bool false, Value.bool false, Value.bool false, Value.bool false, Value.bool false, Value.bool false, Value.bool false, Value.bool false, Value.bool false, Value.bool false, Value.bool false, Value.bool false, Value.bool false, Value.bool false, Value.bool false, Value.bool false, Value.bool false, Value.bool false, Value.bool false, Value.bool false, Value.bool false, Value.bool false, Value.bool false, Value.bool false]), (TypeDesc.array 30 4), false⟩
def y85 : TyI := ⟨4, 48, (Value.agg #[Value.int .i64 0, Value.int .i64 0, Value.int .i64 0, Value.slice none 0 0]), (TypeDesc.struct #[⟨"What", 3, 0, false, "", "", 0⟩, ⟨"A", 3, 1, false, "", "", 8⟩, ⟨"B", 3, 2, false, "", "", 16⟩, ⟨"L", 22, 3, false, "", "", 24⟩]), false⟩
def y86 : TyI := ⟨4, 48, (Value.agg #[Value.int .i64 0, Value.int .i64 0, Value.int .i64 0, Value.slice none 0 0]), (TypeDesc.struct #[⟨"What", 3, 0, false, "", "", 0⟩, ⟨"A", 3, 1, false, "", "", 8⟩, ⟨"B", 3, 2, false, "", "", 16⟩, ⟨"L", 22, 3, false, "", "", 24⟩]), false⟩
def y87 : TyI := ⟨1, 8, Value.nilFunc, (TypeDesc.func #[3, 3] #[] false), false⟩
def y88 : TyI := ⟨1, 8, Value.nilFunc, (TypeDesc.func #[22, 22] #[4] false), false⟩
def y89 : TyI := ⟨1, 8, Value.nilFunc, (TypeDesc.func #[] #[22] false), false⟩
def y90 : TyI := ⟨1, 8, Value.nilFunc, (TypeDesc.func #[22] #[3] true), false⟩
def y91 : TyI := ⟨1, 8, Value.nilFunc, (TypeDesc.func #[80, 3, 22] #[4] false), false⟩
def y92 : TyI := ⟨1, 0, (Value.tuple #[Value.int .i64 0, Value.bool false]), (TypeDesc.tuple #[3, 4]), false⟩
def y93 : TyI := ⟨1, 8, Value.nilFunc, (TypeDesc.func #[] #[3, 4] false), false⟩
def y94 : TyI := ⟨1, 8, Value.nilFunc, (TypeDesc.func #[3] #[3, 4] false), false⟩
def y95 : TyI := ⟨1, 8, Value.nilFunc, (TypeDesc.func #[3] #[22] false), false⟩
def y96 : TyI := ⟨1, 24, (Value.slice none 0 0), (TypeDesc.slice 100), false⟩
def y97 : TyI := ⟨1, 24, (Value.agg #[Value.slice none 0 0]), (TypeDesc.struct #[⟨"L", 96, 0, false, "", "", 0⟩]), false⟩
def y98 : TyI := ⟨1, 24, (Value.agg #[Value.slice none 0 0]), (TypeDesc.struct #[⟨"L", 96, 0, false, "", "", 0⟩]), false⟩
def y99 : TyI := ⟨2, 16, (Value.agg #[Value.int .i64 0, Value.int .i64 0]), (TypeDesc.struct #[⟨"Deadline", 3, 0, false, "", "", 0⟩, ⟨"ID", 3, 1, false, "", "", 8⟩]), false⟩
def y100 : TyI := ⟨2, 16, (Value.agg #[Value.int .i64 0, Value.int .i64 0]), (TypeDesc.struct #[⟨"Deadline", 3, 0, false, "", "", 0⟩, ⟨"ID", 3, 1, false, "", "", 8⟩]), false⟩
def y101 : TyI := ⟨1, 8, Value.nilFunc, (TypeDesc.func #[80, 3] #[4] false), false⟩
def y102 : TyI := ⟨1, 8, Value.nilFunc, (TypeDesc.func #[103, 3, 3, 68] #[30, 52] true), false⟩
def y103 : TyI := ⟨1, 8, (Value.int .u64 0), (TypeDesc.int .u64), false⟩
def y104 : TyI := ⟨1, 0, (Value.tuple #[Value.int .i64 0, Value.slice none 0 0, Value.int .i64 0]), (TypeDesc.tuple #[3, 68, 52]), false⟩
def y105 : TyI := ⟨1, 8, Value.nilFunc, (TypeDesc.func #[103, 3, 30] #[3, 68, 52] false), false⟩
def y106 : TyI := ⟨1, 8, Value.nilFunc, (TypeDesc.func #[103, 3, 3, 68] #[30, 52] false), false⟩
def y107 : TyI := ⟨1, 8, Value.nilFunc, (TypeDesc.func #[103, 3, 30, 30] #[30] false), false⟩
def y108 : TyI := ⟨1, 8, Value.nilFunc, (TypeDesc.func #[103, 3, 3, 3, 67, 30, 3, 5, 4] #[4] false), false⟩
def y109 : TyI := ⟨1, 8, Value.nilFunc, (TypeDesc.func #[103, 103, 3, 3, 3, 67, 3, 5] #[4] false), false⟩
def y110 : TyI := ⟨1, 8, Value.nilFunc, (TypeDesc.func #[103, 3, 3, 3, 67] #[4] false), false⟩
def y111 : TyI := ⟨20, 480, (Value.agg #[Value.slice none 0 0, Value.slice none 0 0, Value.slice none 0 0, Value.slice none 0 0, Value.slice none 0 0, Value.slice none 0 0, Value.slice none 0 0, Value.slice none 0 0, Value.slice none 0 0, Value.slice none 0 0, Value.slice none 0 0, Value.slice none 0 0, Value.slice none 0 0, Value.slice none 0 0, Value.slice none 0 0, Value.slice none 0 0, Value.slice none 0 0, Value.slice none 0 0, Value.slice none 0 0, Value.slice none 0 0]), (TypeDesc.array 20 30), false⟩
def y112 : TyI := ⟨1, 8, Value.nilFunc, (TypeDesc.func #[103, 3, 22, 67] #[4] false), false⟩
def y113 : TyI := ⟨1, 8, Value.nilFunc, (TypeDesc.func #[] #[31] false), false⟩
def y114 : TyI := ⟨1, 8, Value.nilFunc, (TypeDesc.func #[31] #[] false), false⟩
def y115 : TyI := ⟨1, 8, Value.nilFunc, (TypeDesc.func #[31] #[31] false), false⟩
def y116 : TyI := ⟨1, 8, Value.nilFunc, (TypeDesc.func #[33, 33] #[4] false), false⟩
def y117 : TyI := ⟨1, 8, Value.nilFunc, (TypeDesc.func #[33] #[33] false), false⟩
def y118 : TyI := ⟨1, 8, Value.nilFunc, (TypeDesc.func #[22] #[4] true), false⟩
def y119 : TyI := ⟨1, 8, Value.nilFunc, (TypeDesc.func #[31] #[4] false), false⟩
def y120 : TyI := ⟨1, 8, (Value.pointer none), (TypeDesc.pointer 40), false⟩
def y121 : TyI := ⟨1, 8, Value.nilFunc, (TypeDesc.func #[31, 122] #[4] false), false⟩
def y122 : TyI := ⟨1, 8, Value.nilFunc, (TypeDesc.func #[36] #[4] false), false⟩
def y123 : TyI := ⟨1, 0, (Value.tuple #[Value.int .i64 0, Value.int .i64 0]), (TypeDesc.tuple #[3, 3]), false⟩
def y124 : TyI := ⟨1, 8, Value.nilFunc, (TypeDesc.func #[46] #[3, 3] false), false⟩
def y125 : TyI := ⟨1, 8, Value.nilFunc, (TypeDesc.func #[30] #[30] false), false⟩
def y126 : TyI := ⟨1, 8, Value.nilFunc, (TypeDesc.func #[50] #[30] true), false⟩
def y127 : TyI := ⟨1, 8, Value.nilFunc, (TypeDesc.func #[30, 22] #[30] true), false⟩
def y128 : TyI := ⟨1, 0, (Value.tuple #[Value.slice none 0 0, Value.slice none 0 0, Value.int .i64 0]), (TypeDesc.tuple #[22, 30, 52]), false⟩
def y129 : TyI := ⟨1, 8, Value.nilFunc, (TypeDesc.func #[30, 3] #[22, 30, 52] false), false⟩
def y130 : TyI := ⟨1, 8, Value.nilFunc, (TypeDesc.func #[22] #[3] false), false⟩
def y131 : TyI := ⟨9, 104, (Value.agg #[Value.int .i64 0, Value.int .i64 0, Value.int .i64 0, Value.int .i64 0, Value.int .i64 0, Value.int .i64 0, Value.bool false, Value.slice none 0 0, Value.slice none 0 0]), (TypeDesc.struct #[⟨"Kind", 3, 0, false, "", "", 0⟩, ⟨"ID", 3, 1, false, "", "", 8⟩, ⟨"Off", 3, 2, false, "", "", 16⟩, ⟨"A", 3, 3, false, "", "", 24⟩, ⟨"B", 3, 4, false, "", "", 32⟩, ⟨"Bend", 3, 5, false, "", "", 40⟩, ⟨"Fin", 4, 6, false, "", "", 48⟩, ⟨"Data", 30, 7, false, "", "", 56⟩, ⟨"Spans", 22, 8, false, "", "", 80⟩]), false⟩
def y132 : TyI := ⟨9, 104, (Value.agg #[Value.int .i64 0, Value.int .i64 0, Value.int .i64 0, Value.int .i64 0, Value.int .i64 0, Value.int .i64 0, Value.bool false, Value.slice none 0 0, Value.slice none 0 0]), (TypeDesc.struct #[⟨"Kind", 3, 0, false, "", "", 0⟩, ⟨"ID", 3, 1, false, "", "", 8⟩, ⟨"Off", 3, 2, false, "", "", 16⟩, ⟨"A", 3, 3, false, "", "", 24⟩, ⟨"B", 3, 4, false, "", "", 32⟩, ⟨"Bend", 3, 5, false, "", "", 40⟩, ⟨"Fin", 4, 6, false, "", "", 48⟩, ⟨"Data", 30, 7, false, "", "", 56⟩, ⟨"Spans", 22, 8, false, "", "", 80⟩]), false⟩
def y133 : TyI := ⟨1, 8, Value.nilFunc, (TypeDesc.func #[132] #[33] false), false⟩
def y134 : TyI := ⟨1, 8, Value.nilFunc, (TypeDesc.func #[68, 37] #[4] false), false⟩
def y135 : TyI := ⟨1, 8, Value.nilFunc, (TypeDesc.func #[33] #[22] false), false⟩
def y136 : TyI := ⟨1, 8, (Value.pointer none), (TypeDesc.pointer 138), false⟩
def y137 : TyI := ⟨2, 32, (Value.agg #[Value.slice none 0 0, Value.int .i64 0]), (TypeDesc.struct #[⟨"b", 30, 0, false, "", "argosy/frame", 0⟩, ⟨"e", 52, 1, false, "", "argosy/frame", 24⟩]), false⟩
def y138 : TyI := ⟨2, 32, (Value.agg #[Value.slice none 0 0, Value.int .i64 0]), (TypeDesc.struct #[⟨"b", 30, 0, false, "", "argosy/frame", 0⟩, ⟨"e", 52, 1, false, "", "argosy/frame", 24⟩]), false⟩
def y139 : TyI := ⟨1, 8, Value.nilFunc, (TypeDesc.func #[] #[33] false), false⟩
def y140 : TyI := ⟨1, 8, Value.nilFunc, (TypeDesc.func #[68] #[68] false), false⟩
def y141 : TyI := ⟨1, 8, Value.nilFunc, (TypeDesc.func #[68, 68, 116] #[4] false), false⟩
def y142 : TyI := ⟨1, 8, (Value.pointer none), (TypeDesc.pointer 83), false⟩
def y143 : TyI := ⟨1, 8, Value.nilFunc, (TypeDesc.func #[22] #[22] false), false⟩
def y144 : TyI := ⟨1, 8, Value.nilFunc, (TypeDesc.func #[146, 28] #[22] false), false⟩
def y145 : TyI := ⟨1, 8, Value.nilFunc, (TypeDesc.func #[44] #[] false), false⟩
def y146 : TyI := ⟨1, 8, Value.nilFunc, (TypeDesc.func #[44] #[] false), false⟩
def y147 : TyI := ⟨1, 8, Value.nilFunc, (TypeDesc.func #[81] #[146] false), false⟩
def y148 : TyI := ⟨1, 8, Value.nilFunc, (TypeDesc.func #[22, 44] #[22] false), false⟩
def y149 : TyI := ⟨1, 8, (Value.pointer none), (TypeDesc.pointer 98), false⟩
def y150 : TyI := ⟨1, 8, Value.nilFunc, (TypeDesc.func #[3, 3] #[30] false), false⟩
def y151 : TyI := ⟨1, 8, (Value.int .u64 0), (TypeDesc.int .u64), false⟩
def y152 : TyI := ⟨1, 8, Value.nilFunc, (TypeDesc.func #[3, 3, 3] #[3] false), false⟩
def y153 : TyI := ⟨1, 0, (Value.tuple #[Value.slice none 0 0, Value.bool false]), (TypeDesc.tuple #[30, 4]), false⟩
def y154 : TyI := ⟨1, 8, Value.nilFunc, (TypeDesc.func #[103, 3, 30, 30] #[30, 4] false), false⟩
def y155 : TyI := ⟨1, 8, Value.nilFunc, (TypeDesc.func #[68] #[30, 52] false), false⟩
def y156 : TyI := ⟨1, 8, Value.nilFunc, (TypeDesc.func #[103, 3, 30] #[30] false), false⟩
def y157 : TyI := ⟨1, 8, Value.nilFunc, (TypeDesc.func #[103] #[30] false), false⟩
def y158 : TyI := ⟨1, 8, Value.nilFunc, (TypeDesc.func #[103, 50] #[103] false), false⟩
def y159 : TyI := ⟨1, 8, Value.nilFunc, (TypeDesc.func #[103, 103] #[103] false), false⟩
def y160 : TyI := ⟨1, 8, Value.nilFunc, (TypeDesc.func #[33] #[30] false), false⟩
def y161 : TyI := ⟨1, 8, Value.nilFunc, (TypeDesc.func #[30, 30] #[4] false), false⟩
def y162 : TyI := ⟨1, 8, Value.nilFunc, (TypeDesc.func #[31, 31] #[4] false), false⟩
def y163 : TyI := ⟨1, 8, Value.nilFunc, (TypeDesc.func #[22, 44] #[4] false), false⟩
def y164 : TyI := ⟨1, 8, Value.nilFunc, (TypeDesc.func #[31, 122] #[3] false), false⟩
def y165 : TyI := ⟨1, 0, (Value.tuple #[Value.int .i64 0, Value.slice none 0 0, Value.int .i64 0]), (TypeDesc.tuple #[3, 30, 52]), false⟩
def y166 : TyI := ⟨1, 8, Value.nilFunc, (TypeDesc.func #[30] #[3, 30, 52] false), false⟩
def y167 : TyI := ⟨1, 8, Value.nilFunc, (TypeDesc.func #[22] #[31] false), false⟩
def y168 : TyI := ⟨1, 8, Value.nilFunc, (TypeDesc.func #[68, 37] #[3] false), false⟩
def y169 : TyI := ⟨1, 8, Value.nilFunc, (TypeDesc.func #[4] #[3] false), false⟩
def y170 : TyI := ⟨1, 8, Value.nilFunc, (TypeDesc.func #[182] #[] true), false⟩
def y171 : TyI := ⟨1, 8, (Value.pointer none), (TypeDesc.pointer 3), false⟩
def y172 : TyI := ⟨1, 8, Value.nilFunc, (TypeDesc.func #[] #[30] false), false⟩
def y173 : TyI := ⟨1, 8, Value.nilFunc, (TypeDesc.func #[52] #[] false), false⟩
def y174 : TyI := ⟨1, 8, Value.nilFunc, (TypeDesc.func #[146] #[22] false), false⟩
def y175 : TyI := ⟨1, 8, Value.nilFunc, (TypeDesc.func #[22, 28] #[] false), false⟩
def y176 : TyI := ⟨1, 8, Value.nilFunc, (TypeDesc.func #[22, 44] #[3] false), false⟩
def y177 : TyI := ⟨1, 0, (Value.tuple #[Value.agg #[Value.int .i64 0, Value.int .i64 0, Value.int .i64 0, Value.int .i64 0, Value.int .i64 0, Value.int .i64 0, Value.bool false, Value.slice none 0 0, Value.slice none 0 0], Value.slice none 0 0, Value.int .i64 0]), (TypeDesc.tuple #[33, 30, 52]), false⟩
def y178 : TyI := ⟨1, 8, Value.nilFunc, (TypeDesc.func #[30] #[33, 30, 52] false), false⟩
def y179 : TyI := ⟨7, 7, (Value.agg #[Value.bool false, Value.bool false, Value.bool false, Value.bool false, Value.bool false, Value.bool false, Value.bool false]), (TypeDesc.array 7 4), false⟩
def y180 : TyI := ⟨1, 8, Value.nilFunc, (TypeDesc.func #[3] #[179] false), false⟩
def y181 : TyI := ⟨1, 8, Value.nilFunc, (TypeDesc.func #[151] #[3] false), false⟩
def y182 : TyI := ⟨1, 24, (Value.slice none 0 0), (TypeDesc.slice 171), false⟩
def y183 : TyI := ⟨1, 8, Value.nilFunc, (TypeDesc.func #[22, 146] #[22] false), false⟩
def y184 : TyI := ⟨1, 8, Value.nilFunc, (TypeDesc.func #[22, 3, 3, 3, 28] #[] false), false⟩
def y185 : TyI := ⟨1, 8, Value.nilFunc, (TypeDesc.func #[103, 50] #[103] true), false⟩
def y186 : TyI := ⟨1, 0, (Value.tuple #[Value.slice none 0 0, Value.slice none 0 0, Value.int .i64 0]), (TypeDesc.tuple #[31, 30, 52]), false⟩
def y187 : TyI := ⟨1, 8, Value.nilFunc, (TypeDesc.func #[30] #[31, 30, 52] false), false⟩
def y188 : TyI := ⟨13, 104, (Value.agg #[Value.int .i64 0, Value.int .i64 0, Value.int .i64 0, Value.int .i64 0, Value.int .i64 0, Value.int .i64 0, Value.int .i64 0, Value.int .i64 0, Value.int .i64 0, Value.int .i64 0, Value.int .i64 0, Value.int .i64 0, Value.int .i64 0]), (TypeDesc.array 13 3), false⟩
def y189 : TyI := ⟨4, 32, (Value.agg #[Value.int .i64 0, Value.int .i64 0, Value.int .i64 0, Value.int .i64 0]), (TypeDesc.array 4 3), false⟩
def y190 : TyI := ⟨1, 0, (Value.tuple #[Value.slice none 0 0, Value.slice none 0 0, Value.int .i64 0]), (TypeDesc.tuple #[30, 30, 52]), false⟩
def y191 : TyI := ⟨1, 8, Value.nilFunc, (TypeDesc.func #[30] #[30, 30, 52] false), false⟩
def y192 : TyI := ⟨1, 8, Value.nilFunc, (TypeDesc.func #[193] #[3] false), false⟩
def y193 : TyI := ⟨1, 4, (Value.int .u32 0), (TypeDesc.int .u32), false⟩
def y194 : TyI := ⟨1, 8, Value.nilFunc, (TypeDesc.func #[103] #[3] false), false⟩
def y195 : TyI := ⟨1, 8, Value.nilFunc, (TypeDesc.func #[22, 3, 3, 28] #[] false), false⟩
def y196 : TyI := ⟨1, 8, (Value.int .i64 0), (TypeDesc.int .i64), false⟩
def y197 : TyI := ⟨1, 0, (Value.tuple #[Value.int .i64 0, Value.int .i64 0]), (TypeDesc.tuple #[3, 196]), false⟩
def y198 : TyI := ⟨1, 8, Value.nilFunc, (TypeDesc.func #[22, 3, 3, 28] #[3, 196] false), false⟩
def y199 : TyI := ⟨1, 8, Value.nilFunc, (TypeDesc.func #[22, 3, 3, 28] #[4] false), false⟩
def y200 : TyI := ⟨1, 8, Value.nilFunc, (TypeDesc.func #[22, 3, 3, 3, 28] #[3] false), false⟩
def y201 : TyI := ⟨1, 8, Value.nilFunc, (TypeDesc.func #[22, 3, 3, 3, 28] #[3, 4] false), false⟩
def y202 : TyI := ⟨1, 8, Value.nilFunc, (TypeDesc.func #[103, 3] #[103] false), false⟩
def y203 : TyI := ⟨1, 8, (Value.int .u64 0), (TypeDesc.int .u64), false⟩
def y204 : TyI := ⟨1, 8, Value.nilFunc, (TypeDesc.func #[3] #[151] false), false⟩
def y205 : TyI := ⟨1, 8, Value.nilFunc, (TypeDesc.func #[] #[103] false), false⟩
def y206 : TyI := ⟨1, 8, Value.nilFunc, (TypeDesc.func #[22, 3, 171, 28] #[3] false), false⟩
def y207 : TyI := ⟨1, 8, Value.nilFunc, (TypeDesc.func #[22, 3, 3, 3, 171, 28] #[3] false), false⟩
def y208 : TyI := ⟨1, 8, (Value.pointer none), (TypeDesc.pointer 203), false⟩
def y209 : TyI := ⟨1, 8, Value.nilFunc, (TypeDesc.func #[22, 3, 3, 171, 28] #[3, 3] false), false⟩
def y210 : TyI := ⟨1, 8, Value.nilFunc, (TypeDesc.func #[] #[9] false), false⟩
def y211 : TyI := ⟨4, 40, (Value.agg #[Value.pointer none, Value.pointer none, Value.pointer none, Value.string { data := #[] }]), (TypeDesc.struct #[⟨"_interface", 17, 0, false, "", "runtime", 0⟩, ⟨"concrete", 17, 1, false, "", "runtime", 8⟩, ⟨"asserted", 17, 2, false, "", "runtime", 16⟩, ⟨"missingMethod", 9, 3, false, "", "runtime", 24⟩]), false⟩
def y212 : TyI := ⟨4, 40, (Value.agg #[Value.pointer none, Value.pointer none, Value.pointer none, Value.string { data := #[] }]), (TypeDesc.struct #[⟨"_interface", 17, 0, false, "", "runtime", 0⟩, ⟨"concrete", 17, 1, false, "", "runtime", 8⟩, ⟨"asserted", 17, 2, false, "", "runtime", 16⟩, ⟨"missingMethod", 9, 3, false, "", "runtime", 24⟩]), false⟩
def y213 : TyI := ⟨0, 0, (Value.agg #[]), (TypeDesc.array 0 16), false⟩
def y214 : TyI := ⟨0, 0, (Value.agg #[]), (TypeDesc.struct #[⟨"_", 213, 0, false, "", "runtime", 0⟩]), false⟩
def y215 : TyI := ⟨0, 0, (Value.agg #[]), (TypeDesc.struct #[⟨"_", 213, 0, false, "", "runtime", 0⟩]), false⟩
def y216 : TyI := ⟨1, 1, (Value.int .u8 0), (TypeDesc.int .u8), false⟩
def y217 : TyI := ⟨1, 1, (Value.int .u8 0), (TypeDesc.int .u8), false⟩
def y218 : TyI := ⟨1, 8, Value.nilFunc, (TypeDesc.func #[224, 224] #[4] false), false⟩
def y219 : TyI := ⟨1, 8, (Value.pointer none), (TypeDesc.pointer 5), false⟩
def y220 : TyI := ⟨1, 4, (Value.int .i32 0), (TypeDesc.int .i32), false⟩
def y221 : TyI := ⟨1, 4, (Value.int .i32 0), (TypeDesc.int .i32), false⟩
def y222 : TyI := ⟨11, 48, (Value.agg #[Value.int .u64 0, Value.int .u64 0, Value.int .u32 0, Value.int .u8 0, Value.int .u8 0, Value.int .u8 0, Value.int .u8 0, Value.nilFunc, Value.pointer none, Value.int .i32 0, Value.int .i32 0]), (TypeDesc.struct #[⟨"Size_", 12, 0, false, "", "", 0⟩, ⟨"PtrBytes", 12, 1, false, "", "", 8⟩, ⟨"Hash", 193, 2, false, "", "", 16⟩, ⟨"TFlag", 216, 3, false, "", "", 20⟩, ⟨"Align_", 5, 4, false, "", "", 21⟩, ⟨"FieldAlign_", 5, 5, false, "", "", 22⟩, ⟨"Kind_", 217, 6, false, "", "", 23⟩, ⟨"Equal", 218, 7, false, "", "", 24⟩, ⟨"GCData", 219, 8, false, "", "", 32⟩, ⟨"Str", 220, 9, false, "", "", 40⟩, ⟨"PtrToThis", 221, 10, false, "", "", 44⟩]), false⟩
def y223 : TyI := ⟨11, 48, (Value.agg #[Value.int .u64 0, Value.int .u64 0, Value.int .u32 0, Value.int .u8 0, Value.int .u8 0, Value.int .u8 0, Value.int .u8 0, Value.nilFunc, Value.pointer none, Value.int .i32 0, Value.int .i32 0]), (TypeDesc.struct #[⟨"Size_", 12, 0, false, "", "", 0⟩, ⟨"PtrBytes", 12, 1, false, "", "", 8⟩, ⟨"Hash", 193, 2, false, "", "", 16⟩, ⟨"TFlag", 216, 3, false, "", "", 20⟩, ⟨"Align_", 5, 4, false, "", "", 21⟩, ⟨"FieldAlign_", 5, 5, false, "", "", 22⟩, ⟨"Kind_", 217, 6, false, "", "", 23⟩, ⟨"Equal", 218, 7, false, "", "", 24⟩, ⟨"GCData", 219, 8, false, "", "", 32⟩, ⟨"Str", 220, 9, false, "", "", 40⟩, ⟨"PtrToThis", 221, 10, false, "", "", 44⟩]), false⟩
def y224 : TyI := ⟨1, 8, (Value.pointer none), TypeDesc.unsafePointer, false⟩
def ty : Tr TyI := (.node (.node (.node (.node (.node (.node (.node (.node .leaf (some y127) .leaf) (some y63) (.node .leaf (some y191) .leaf)) (some y31) (.node (.node .leaf (some y159) .leaf) (some y95) (.node .leaf (some y223) .leaf))) (some y15) (.node (.node (.node .leaf (some y143) .leaf) (some y79) (.node .leaf (some y207) .leaf)) (some y47) (.node (.node .leaf (some y175) .leaf) (some y111) .leaf))) (some y7) (.node (.node (.node (.node .leaf (some y135) .leaf) (some y71) (.node .leaf (some y199) .leaf)) (some y39) (.node (.node .leaf (some y167) .leaf) (some y103) .leaf)) (some y23) (.node (.node (.node .leaf (some y151) .leaf) (some y87) (.node .leaf (some y215) .leaf)) (some y55) (.node (.node .leaf (some y183) .leaf) (some y119) .leaf)))) (some y3) (.node (.node (.node (.node (.node .leaf (some y131) .leaf) (some y67) (.node .leaf (some y195) .leaf)) (some y35) (.node (.node .leaf (some y163) .leaf) (some y99) .leaf)) (some y19) (.node (.node (.node .leaf (some y147) .leaf) (some y83) (.node .leaf (some y211) .leaf)) (some y51) (.node (.node .leaf (some y179) .leaf) (some y115) .leaf))) (some y11) (.node (.node (.node (.node .leaf (some y139) .leaf) (some y75) (.node .leaf (some y203) .leaf)) (some y43) (.node (.node .leaf (some y171) .leaf) (some y107) .leaf)) (some y27) (.node (.node (.node .leaf (some y155) .leaf) (some y91) (.node .leaf (some y219) .leaf)) (some y59) (.node (.node .leaf (some y187) .leaf) (some y123) .leaf))))) (some y1) (.node (.node (.node (.node (.node (.node .leaf (some y129) .leaf) (some y65) (.node .leaf (some y193) .leaf)) (some y33) (.node (.node .leaf (some y161) .leaf) (some y97) .leaf)) (some y17) (.node (.node (.node .leaf (some y145) .leaf) (some y81) (.node .leaf (some y209) .leaf)) (some y49) (.node (.node .leaf (some y177) .leaf) (some y113) .leaf))) (some y9) (.node (.node (.node (.node .leaf (some y137) .leaf) (some y73) (.node .leaf (some y201) .leaf)) (some y41) (.node (.node .leaf (some y169) .leaf) (some y105) .leaf)) (some y25) (.node (.node (.node .leaf (some y153) .leaf) (some y89) (.node .leaf (some y217) .leaf)) (some y57) (.node (.node .leaf (some y185) .leaf) (some y121) .leaf)))) (some y5) (.node (.node (.node (.node (.node .leaf (some y133) .leaf) (some y69) (.node .leaf (some y197) .leaf)) (some y37) (.node (.node .leaf (some y165) .leaf) (some y101) .leaf)) (some y21) (.node (.node (.node .leaf (some y149) .leaf) (some y85) (.node .leaf (some y213) .leaf)) (some y53) (.node (.node .leaf (some y181) .leaf) (some y117) .leaf))) (some y13) (.node (.node (.node (.node .leaf (some y141) .leaf) (some y77) (.node .leaf (some y205) .leaf)) (some y45) (.node (.node .leaf (some y173) .leaf) (some y109) .leaf)) (some y29) (.node (.node (.node .leaf (some y157) .leaf) (some y93) (.node .leaf (some y221) .leaf)) (some y61) (.node (.node .leaf (some y189) .leaf) (some y125) .leaf)))))) (some y0) (.node (.node (.node (.node (.node (.node (.node .leaf (some y128) .leaf) (some y64) (.node .leaf (some y192) .leaf)) (some y32) (.node (.node .leaf (some y160) .leaf) (some y96) (.node .leaf (some y224) .leaf))) (some y16) (.node (.node (.node .leaf (some y144) .leaf) (some y80) (.node .leaf (some y208) .leaf)) (some y48) (.node (.node .leaf (some y176) .leaf) (some y112) .leaf))) (some y8) (.node (.node (.node (.node .leaf (some y136) .leaf) (some y72) (.node .leaf (some y200) .leaf)) (some y40) (.node (.node .leaf (some y168) .leaf) (some y104) .leaf)) (some y24) (.node (.node (.node .leaf (some y152) .leaf) (some y88) (.node .leaf (some y216) .leaf)) (some y56) (.node (.node .leaf (some y184) .leaf) (some y120) .leaf)))) (some y4) (.node (.node (.node (.node (.node .leaf (some y132) .leaf) (some y68) (.node .leaf (some y196) .leaf)) (some y36) (.node (.node .leaf (some y164) .leaf) (some y100) .leaf)) (some y20) (.node (.node (.node .leaf (some y148) .leaf) (some y84) (.node .leaf (some y212) .leaf)) (some y52) (.node (.node .leaf (some y180) .leaf) (some y116) .leaf))) (some y12) (.node (.node (.node (.node .leaf (some y140) .leaf) (some y76) (.node .leaf (some y204) .leaf)) (some y44) (.node (.node .leaf (some y172) .leaf) (some y108) .leaf)) (some y28) (.node (.node (.node .leaf (some y156) .leaf) (some y92) (.node .leaf (some y220) .leaf)) (some y60) (.node (.node .leaf (some y188) .leaf) (some y124) .leaf))))) (some y2) (.node (.node (.node (.node (.node (.node .leaf (some y130) .leaf) (some y66) (.node .leaf (some y194) .leaf)) (some y34) (.node (.node .leaf (some y162) .leaf) (some y98) .leaf)) (some y18) (.node (.node (.node .leaf (some y146) .leaf) (some y82) (.node .leaf (some y210) .leaf)) (some y50) (.node (.node .leaf (some y178) .leaf) (some y114) .leaf))) (some y10) (.node (.node (.node (.node .leaf (some y138) .leaf) (some y74) (.node .leaf (some y202) .leaf)) (some y42) (.node (.node .leaf (some y170) .leaf) (some y106) .leaf)) (some y26) (.node (.node (.node .leaf (some y154) .leaf) (some y90) (.node .leaf (some y218) .leaf)) (some y58) (.node (.node .leaf (some y186) .leaf) (some y122) .leaf)))) (some y6) (.node (.node (.node (.node (.node .leaf (some y134) .leaf) (some y70) (.node .leaf (some y198) .leaf)) (some y38) (.node (.node .leaf (some y166) .leaf) (some y102) .leaf)) (some y22) (.node (.node (.node .leaf (some y150) .leaf) (some y86) (.node .leaf (some y214) .leaf)) (some y54) (.node (.node .leaf (some y182) .leaf) (some y118) .leaf))) (some y14) (.node (.node (.node (.node .leaf (some y142) .leaf) (some y78) (.node .leaf (some y206) .leaf)) (some y46) (.node (.node .leaf (some y174) .leaf) (some y110) .leaf)) (some y30) (.node (.node (.node .leaf (some y158) .leaf) (some y94) (.node .leaf (some y222) .leaf)) (some y62) (.node (.node .leaf (some y190) .leaf) (some y126) .leaf)))))))
def fn : Tr Func := (.node (.node (.node (.node (.node (.node (.node (.node .leaf (some Try.f127) .leaf) none .leaf) none (.node (.node .leaf (some Try.f159) .leaf) none .leaf)) none (.node (.node .leaf (some Try.f79) .leaf) (some Try.f47) (.node (.node .leaf (some Try.f175) .leaf) (some Try.f111) .leaf))) none (.node (.node (.node (.node .leaf (some Try.f135) .leaf) none .leaf) none (.node (.node .leaf (some Try.f167) .leaf) (some Try.f103) .leaf)) none (.node (.node (.node .leaf (some Try.f151) .leaf) none .leaf) (some Try.f55) (.node (.node .leaf (some Try.f183) .leaf) none .leaf)))) none (.node (.node (.node (.node (.node .leaf (some Try.f131) .leaf) none .leaf) none (.node .leaf (some Try.f99) .leaf)) none (.node (.node (.node .leaf (some Try.f147) .leaf) none .leaf) none (.node (.node .leaf (some Try.f179) .leaf) none .leaf))) none (.node (.node (.node (.node .leaf (some Try.f139) .leaf) (some Try.f75) .leaf) none (.node (.node .leaf (some Try.f171) .leaf) none .leaf)) (some Try.f27) (.node (.node .leaf (some Try.f91) .leaf) none (.node (.node .leaf (some Try.f187) .leaf) none .leaf))))) none (.node (.node (.node (.node (.node (.node .leaf (some Try.f129) .leaf) none .leaf) none (.node (.node .leaf (some Try.f161) .leaf) (some Try.f97) .leaf)) none (.node (.node (.node .leaf (some Try.f145) .leaf) (some Try.f81) .leaf) (some Try.f49) (.node (.node .leaf (some Try.f177) .leaf) (some Try.f113) .leaf))) none (.node (.node (.node (.node .leaf (some Try.f137) .leaf) (some Try.f73) .leaf) none (.node (.node .leaf (some Try.f169) .leaf) (some Try.f105) .leaf)) none (.node (.node (.node .leaf (some Try.f153) .leaf) (some Try.f89) .leaf) none (.node (.node .leaf (some Try.f185) .leaf) none .leaf)))) none (.node (.node (.node (.node (.node .leaf (some Try.f133) .leaf) none (.node .leaf (some Try.f197) .leaf)) none .leaf) none (.node (.node (.node .leaf (some Try.f149) .leaf) none .leaf) none .leaf)) none (.node (.node (.node (.node .leaf (some Try.f141) .leaf) (some Try.f77) .leaf) (some Try.f45) (.node (.node .leaf (some Try.f173) .leaf) none .leaf)) none (.node (.node (.node .leaf (some Try.f157) .leaf) none .leaf) none (.node .leaf (some Try.f125) .leaf)))))) none (.node (.node (.node (.node (.node (.node (.node .leaf (some Try.f128) .leaf) none .leaf) none (.node (.node .leaf (some Try.f160) .leaf) none .leaf)) none (.node (.node (.node .leaf (some Try.f144) .leaf) (some Try.f80) .leaf) (some Try.f48) (.node (.node .leaf (some Try.f176) .leaf) (some Try.f112) .leaf))) none (.node (.node (.node (.node .leaf (some Try.f136) .leaf) (some Try.f72) .leaf) none (.node (.node .leaf (some Try.f168) .leaf) none .leaf)) (some Try.f24) (.node (.node (.node .leaf (some Try.f152) .leaf) none .leaf) (some Try.f56) (.node (.node .leaf (some Try.f184) .leaf) none .leaf)))) none (.node (.node (.node (.node (.node .leaf (some Try.f132) .leaf) none .leaf) none (.node .leaf (some Try.f100) .leaf)) none (.node .leaf (some Try.f52) (.node (.node .leaf (some Try.f180) .leaf) none .leaf))) none (.node (.node (.node (.node .leaf (some Try.f140) .leaf) (some Try.f76) .leaf) none (.node (.node .leaf (some Try.f172) .leaf) (some Try.f108) .leaf)) none (.node (.node (.node .leaf (some Try.f156) .leaf) (some Try.f92) .leaf) none (.node (.node .leaf (some Try.f188) .leaf) (some Try.f124) .leaf))))) none (.node (.node (.node (.node (.node (.node .leaf (some Try.f130) .leaf) none .leaf) none (.node .leaf (some Try.f98) .leaf)) (some Try.f18) (.node (.node (.node .leaf (some Try.f146) .leaf) none .leaf) none (.node (.node .leaf (some Try.f178) .leaf) none .leaf))) none (.node (.node (.node (.node .leaf (some Try.f138) .leaf) (some Try.f74) .leaf) none (.node (.node .leaf (some Try.f170) .leaf) (some Try.f106) .leaf)) none (.node (.node (.node .leaf (some Try.f154) .leaf) (some Try.f90) .leaf) none (.node (.node .leaf (some Try.f186) .leaf) none .leaf)))) none (.node (.node (.node (.node (.node .leaf (some Try.f134) .leaf) none .leaf) none (.node (.node .leaf (some Try.f166) .leaf) none .leaf)) none (.node (.node (.node .leaf (some Try.f150) .leaf) none .leaf) none .leaf)) none (.node (.node (.node .leaf (some Try.f78) .leaf) none (.node (.node .leaf (some Try.f174) .leaf) none .leaf)) none (.node (.node (.node .leaf (some Try.f158) .leaf) none .leaf) none (.node .leaf (some Try.f126) .leaf)))))))
def FnP (f : Nat) (F : Func) : Prop := Try.prog.funcs[f]? = some F ∧ F.body ≠ none ∧ (F.name == "runtime.NumGoroutine") = false
def TyP (t : Nat) (i : TyI) : Prop := Try.prog.underlying t = some i.desc ∧ ∃ inf, Try.prog.info? t = some inf ∧ inf.size = i.size ∧ inf.bytes = i.bytes ∧ inf.zero = some i.zero ∧ i.zero.cells.size = i.size ∧ free i.zero = true ∧ i.size < 4294967296
def FlP (t : Nat) (i : TyI) : Prop := i.flat = true → ∀ xs ys b, xs.length = i.size → cellsEq i.zero.cells.toList xs ys = some b → ∀ w, (Op.equal t (.agg xs.toArray) (.agg ys.toArray)).run Try.prog w = .ok b w ∧ ∀ op x y, (eqGuard op t x y (.agg xs.toArray) (.agg ys.toArray)).run Try.prog w = .ok () w
theorem p18 : FnP 18 Try.f18 := ⟨Try.func18, fun h => Option.some_ne_none _ h, by decide +kernel⟩
theorem p24 : FnP 24 Try.f24 := ⟨Try.func24, fun h => Option.some_ne_none _ h, by decide +kernel⟩
theorem p27 : FnP 27 Try.f27 := ⟨Try.func27, fun h => Option.some_ne_none _ h, by decide +kernel⟩
theorem p45 : FnP 45 Try.f45 := ⟨Try.func45, fun h => Option.some_ne_none _ h, by decide +kernel⟩
theorem p47 : FnP 47 Try.f47 := ⟨Try.func47, fun h => Option.some_ne_none _ h, by decide +kernel⟩
theorem p48 : FnP 48 Try.f48 := ⟨Try.func48, fun h => Option.some_ne_none _ h, by decide +kernel⟩
theorem p49 : FnP 49 Try.f49 := ⟨Try.func49, fun h => Option.some_ne_none _ h, by decide +kernel⟩
theorem p52 : FnP 52 Try.f52 := ⟨Try.func52, fun h => Option.some_ne_none _ h, by decide +kernel⟩
theorem p55 : FnP 55 Try.f55 := ⟨Try.func55, fun h => Option.some_ne_none _ h, by decide +kernel⟩
theorem p56 : FnP 56 Try.f56 := ⟨Try.func56, fun h => Option.some_ne_none _ h, by decide +kernel⟩
theorem p72 : FnP 72 Try.f72 := ⟨Try.func72, fun h => Option.some_ne_none _ h, by decide +kernel⟩
theorem p73 : FnP 73 Try.f73 := ⟨Try.func73, fun h => Option.some_ne_none _ h, by decide +kernel⟩
theorem p74 : FnP 74 Try.f74 := ⟨Try.func74, fun h => Option.some_ne_none _ h, by decide +kernel⟩
theorem p75 : FnP 75 Try.f75 := ⟨Try.func75, fun h => Option.some_ne_none _ h, by decide +kernel⟩
theorem p76 : FnP 76 Try.f76 := ⟨Try.func76, fun h => Option.some_ne_none _ h, by decide +kernel⟩
theorem p77 : FnP 77 Try.f77 := ⟨Try.func77, fun h => Option.some_ne_none _ h, by decide +kernel⟩
theorem p78 : FnP 78 Try.f78 := ⟨Try.func78, fun h => Option.some_ne_none _ h, by decide +kernel⟩
theorem p79 : FnP 79 Try.f79 := ⟨Try.func79, fun h => Option.some_ne_none _ h, by decide +kernel⟩
theorem p80 : FnP 80 Try.f80 := ⟨Try.func80, fun h => Option.some_ne_none _ h, by decide +kernel⟩
theorem p81 : FnP 81 Try.f81 := ⟨Try.func81, fun h => Option.some_ne_none _ h, by decide +kernel⟩
theorem p89 : FnP 89 Try.f89 := ⟨Try.func89, fun h => Option.some_ne_none _ h, by decide +kernel⟩
theorem p90 : FnP 90 Try.f90 := ⟨Try.func90, fun h => Option.some_ne_none _ h, by decide +kernel⟩
theorem p91 : FnP 91 Try.f91 := ⟨Try.func91, fun h => Option.some_ne_none _ h, by decide +kernel⟩
theorem p92 : FnP 92 Try.f92 := ⟨Try.func92, fun h => Option.some_ne_none _ h, by decide +kernel⟩
theorem p97 : FnP 97 Try.f97 := ⟨Try.func97, fun h => Option.some_ne_none _ h, by decide +kernel⟩
theorem p98 : FnP 98 Try.f98 := ⟨Try.func98, fun h => Option.some_ne_none _ h, by decide +kernel⟩
theorem p99 : FnP 99 Try.f99 := ⟨Try.func99, fun h => Option.some_ne_none _ h, by decide +kernel⟩
theorem p100 : FnP 100 Try.f100 := ⟨Try.func100, fun h => Option.some_ne_none _ h, by decide +kernel⟩
theorem p103 : FnP 103 Try.f103 := ⟨Try.func103, fun h => Option.some_ne_none _ h, by decide +kernel⟩
theorem p105 : FnP 105 Try.f105 := ⟨Try.func105, fun h => Option.some_ne_none _ h, by decide +kernel⟩
theorem p106 : FnP 106 Try.f106 := ⟨Try.func106, fun h => Option.some_ne_none _ h, by decide +kernel⟩
theorem p108 : FnP 108 Try.f108 := ⟨Try.func108, fun h => Option.some_ne_none _ h, by decide +kernel⟩
theorem p111 : FnP 111 Try.f111 := ⟨Try.func111, fun h => Option.some_ne_none _ h, by decide +kernel⟩
theorem p112 : FnP 112 Try.f112 := ⟨Try.func112, fun h => Option.some_ne_none _ h, by decide +kernel⟩
theorem p113 : FnP 113 Try.f113 := ⟨Try.func113, fun h => Option.some_ne_none _ h, by decide +kernel⟩
theorem p124 : FnP 124 Try.f124 := ⟨Try.func124, fun h => Option.some_ne_none _ h, by decide +kernel⟩
theorem p125 : FnP 125 Try.f125 := ⟨Try.func125, fun h => Option.some_ne_none _ h, by decide +kernel⟩
theorem p126 : FnP 126 Try.f126 := ⟨Try.func126, fun h => Option.some_ne_none _ h, by decide +kernel⟩
theorem p127 : FnP 127 Try.f127 := ⟨Try.func127, fun h => Option.some_ne_none _ h, by decide +kernel⟩
theorem p128 : FnP 128 Try.f128 := ⟨Try.func128, fun h => Option.some_ne_none _ h, by decide +kernel⟩
theorem p129 : FnP 129 Try.f129 := ⟨Try.func129, fun h => Option.some_ne_none _ h, by decide +kernel⟩
theorem p130 : FnP 130 Try.f130 := ⟨Try.func130, fun h => Option.some_ne_none _ h, by decide +kernel⟩
theorem p131 : FnP 131 Try.f131 := ⟨Try.func131, fun h => Option.some_ne_none _ h, by decide +kernel⟩
theorem p132 : FnP 132 Try.f132 := ⟨Try.func132, fun h => Option.some_ne_none _ h, by decide +kernel⟩
theorem p133 : FnP 133 Try.f133 := ⟨Try.func133, fun h => Option.some_ne_none _ h, by decide +kernel⟩
theorem p134 : FnP 134 Try.f134 := ⟨Try.func134, fun h => Option.some_ne_none _ h, by decide +kernel⟩
theorem p135 : FnP 135 Try.f135 := ⟨Try.func135, fun h => Option.some_ne_none _ h, by decide +kernel⟩
theorem p136 : FnP 136 Try.f136 := ⟨Try.func136, fun h => Option.some_ne_none _ h, by decide +kernel⟩
theorem p137 : FnP 137 Try.f137 := ⟨Try.func137, fun h => Option.some_ne_none _ h, by decide +kernel⟩
theorem p138 : FnP 138 Try.f138 := ⟨Try.func138, fun h => Option.some_ne_none _ h, by decide +kernel⟩
theorem p139 : FnP 139 Try.f139 := ⟨Try.func139, fun h => Option.some_ne_none _ h, by decide +kernel⟩
theorem p140 : FnP 140 Try.f140 := ⟨Try.func140, fun h => Option.some_ne_none _ h, by decide +kernel⟩
theorem p141 : FnP 141 Try.f141 := ⟨Try.func141, fun h => Option.some_ne_none _ h, by decide +kernel⟩
theorem p144 : FnP 144 Try.f144 := ⟨Try.func144, fun h => Option.some_ne_none _ h, by decide +kernel⟩
theorem p145 : FnP 145 Try.f145 := ⟨Try.func145, fun h => Option.some_ne_none _ h, by decide +kernel⟩
theorem p146 : FnP 146 Try.f146 := ⟨Try.func146, fun h => Option.some_ne_none _ h, by decide +kernel⟩
theorem p147 : FnP 147 Try.f147 := ⟨Try.func147, fun h => Option.some_ne_none _ h, by decide +kernel⟩
theorem p149 : FnP 149 Try.f149 := ⟨Try.func149, fun h => Option.some_ne_none _ h, by decide +kernel⟩
theorem p150 : FnP 150 Try.f150 := ⟨Try.func150, fun h => Option.some_ne_none _ h, by decide +kernel⟩
theorem p151 : FnP 151 Try.f151 := ⟨Try.func151, fun h => Option.some_ne_none _ h, by decide +kernel⟩
theorem p152 : FnP 152 Try.f152 := ⟨Try.func152, fun h => Option.some_ne_none _ h, by decide +kernel⟩
theorem p153 : FnP 153 Try.f153 := ⟨Try.func153, fun h => Option.some_ne_none _ h, by decide +kernel⟩
theorem p154 : FnP 154 Try.f154 := ⟨Try.func154, fun h => Option.some_ne_none _ h, by decide +kernel⟩
theorem p156 : FnP 156 Try.f156 := ⟨Try.func156, fun h => Option.some_ne_none _ h, by decide +kernel⟩
theorem p157 : FnP 157 Try.f157 := ⟨Try.func157, fun h => Option.some_ne_none _ h, by decide +kernel⟩
theorem p158 : FnP 158 Try.f158 := ⟨Try.func158, fun h => Option.some_ne_none _ h, by decide +kernel⟩
theorem p159 : FnP 159 Try.f159 := ⟨Try.func159, fun h => Option.some_ne_none _ h, by decide +kernel⟩
theorem p160 : FnP 160 Try.f160 := ⟨Try.func160, fun h => Option.some_ne_none _ h, by decide +kernel⟩
theorem p161 : FnP 161 Try.f161 := ⟨Try.func161, fun h => Option.some_ne_none _ h, by decide +kernel⟩
theorem p166 : FnP 166 Try.f166 := ⟨Try.func166, fun h => Option.some_ne_none _ h, by decide +kernel⟩
theorem p167 : FnP 167 Try.f167 := ⟨Try.func167, fun h => Option.some_ne_none _ h, by decide +kernel⟩
theorem p168 : FnP 168 Try.f168 := ⟨Try.func168, fun h => Option.some_ne_none _ h, by decide +kernel⟩
theorem p169 : FnP 169 Try.f169 := ⟨Try.func169, fun h => Option.some_ne_none _ h, by decide +kernel⟩
theorem p170 : FnP 170 Try.f170 := ⟨Try.func170, fun h => Option.some_ne_none _ h, by decide +kernel⟩
theorem p171 : FnP 171 Try.f171 := ⟨Try.func171, fun h => Option.some_ne_none _ h, by decide +kernel⟩
theorem p172 : FnP 172 Try.f172 := ⟨Try.func172, fun h => Option.some_ne_none _ h, by decide +kernel⟩
theorem p173 : FnP 173 Try.f173 := ⟨Try.func173, fun h => Option.some_ne_none _ h, by decide +kernel⟩
theorem p174 : FnP 174 Try.f174 := ⟨Try.func174, fun h => Option.some_ne_none _ h, by decide +kernel⟩
theorem p175 : FnP 175 Try.f175 := ⟨Try.func175, fun h => Option.some_ne_none _ h, by decide +kernel⟩
theorem p176 : FnP 176 Try.f176 := ⟨Try.func176, fun h => Option.some_ne_none _ h, by decide +kernel⟩
theorem p177 : FnP 177 Try.f177 := ⟨Try.func177, fun h => Option.some_ne_none _ h, by decide +kernel⟩
theorem p178 : FnP 178 Try.f178 := ⟨Try.func178, fun h => Option.some_ne_none _ h, by decide +kernel⟩
theorem p179 : FnP 179 Try.f179 := ⟨Try.func179, fun h => Option.some_ne_none _ h, by decide +kernel⟩
theorem p180 : FnP 180 Try.f180 := ⟨Try.func180, fun h => Option.some_ne_none _ h, by decide +kernel⟩
theorem p183 : FnP 183 Try.f183 := ⟨Try.func183, fun h => Option.some_ne_none _ h, by decide +kernel⟩
theorem p184 : FnP 184 Try.f184 := ⟨Try.func184, fun h => Option.some_ne_none _ h, by decide +kernel⟩
theorem p185 : FnP 185 Try.f185 := ⟨Try.func185, fun h => Option.some_ne_none _ h, by decide +kernel⟩
theorem p186 : FnP 186 Try.f186 := ⟨Try.func186, fun h => Option.some_ne_none _ h, by decide +kernel⟩
theorem p187 : FnP 187 Try.f187 := ⟨Try.func187, fun h => Option.some_ne_none _ h, by decide +kernel⟩
theorem p188 : FnP 188 Try.f188 := ⟨Try.func188, fun h => Option.some_ne_none _ h, by decide +kernel⟩
theorem p197 : FnP 197 Try.f197 := ⟨Try.func197, fun h => Option.some_ne_none _ h, by decide +kernel⟩
def TF (t : Nat) (i : TyI) : Prop := TyP t i ∧ FlP t i
theorem nf {t : Nat} {i : TyI} (h : i.flat = false) : FlP t i := fun e => by rw [h] at e; cases e
theorem nd {α : Type} {p : Nat → α → Prop} {l r : Tr α} {v : α} (h0 : p 0 v) (hl : ∀ f F, l.get f = some F → p (2 * f + 1) F) (hr : ∀ f F, r.get f = some F → p (2 * f + 2) F) : ∀ f F, (Tr.node l (some v) r).get f = some F → p f F := get_node (fun F h => Option.some.inj h ▸ h0) hl hr
theorem nn {α : Type} {p : Nat → α → Prop} {l r : Tr α} (hl : ∀ f F, l.get f = some F → p (2 * f + 1) F) (hr : ∀ f F, r.get f = some F → p (2 * f + 2) F) : ∀ f F, (Tr.node l none r).get f = some F → p f F := get_node (fun F h => nomatch h) hl hr
theorem lf {α : Type} {p : Nat → α → Prop} : ∀ f F, (Tr.leaf : Tr α).get f = some F → p f F := get_leaf
open Try
theorem q0 : TF 0 y0 := ⟨⟨underlying0, t0, by kernel_rfl, rfl, rfl, rfl, rfl, by kernel_rfl, by decide⟩, nf rfl⟩
theorem q1 : TF 1 y1 := ⟨⟨underlying1, t1, by kernel_rfl, rfl, rfl, rfl, rfl, by kernel_rfl, by decide⟩, nf rfl⟩
theorem q2 : TF 2 y2 := ⟨⟨underlying2, t2, by kernel_rfl, rfl, rfl, rfl, rfl, by kernel_rfl, by decide⟩, nf rfl⟩
theorem q3 : TF 3 y3 := ⟨⟨underlying3, t3, by kernel_rfl, rfl, rfl, rfl, rfl, by kernel_rfl, by decide⟩, nf rfl⟩
theorem q4 : TF 4 y4 := ⟨⟨underlying4, t4, by kernel_rfl, rfl, rfl, rfl, rfl, by kernel_rfl, by decide⟩, nf rfl⟩
theorem q5 : TF 5 y5 := ⟨⟨underlying5, t5, by kernel_rfl, rfl, rfl, rfl, rfl, by kernel_rfl, by decide⟩, nf rfl⟩
theorem q6 : TF 6 y6 := ⟨⟨underlying6, t6, by kernel_rfl, rfl, rfl, rfl, rfl, by kernel_rfl, by decide⟩, nf rfl⟩
theorem q7 : TF 7 y7 := ⟨⟨underlying7, t7, by kernel_rfl, rfl, rfl, rfl, rfl, by kernel_rfl, by decide⟩, nf rfl⟩
theorem q8 : TF 8 y8 := ⟨⟨underlying8, t8, by kernel_rfl, rfl, rfl, rfl, rfl, by kernel_rfl, by decide⟩, nf rfl⟩
theorem q9 : TF 9 y9 := ⟨⟨underlying9, t9, by kernel_rfl, rfl, rfl, rfl, rfl, by kernel_rfl, by decide⟩, nf rfl⟩
theorem q10 : TF 10 y10 := ⟨⟨underlying10, t10, by kernel_rfl, rfl, rfl, rfl, rfl, by kernel_rfl, by decide⟩, nf rfl⟩
theorem q11 : TF 11 y11 := ⟨⟨underlying11, t11, by kernel_rfl, rfl, rfl, rfl, rfl, by kernel_rfl, by decide⟩, nf rfl⟩
theorem q12 : TF 12 y12 := ⟨⟨underlying12, t12, by kernel_rfl, rfl, rfl, rfl, rfl, by kernel_rfl, by decide⟩, nf rfl⟩
theorem q13 : TF 13 y13 := ⟨⟨underlying13, t13, by kernel_rfl, rfl, rfl, rfl, rfl, by kernel_rfl, by decide⟩, nf rfl⟩
theorem q14 : TF 14 y14 := ⟨⟨underlying14, t14, by kernel_rfl, rfl, rfl, rfl, rfl, by kernel_rfl, by decide⟩, nf rfl⟩
theorem q15 : TF 15 y15 := ⟨⟨underlying15, t15, by kernel_rfl, rfl, rfl, rfl, rfl, by kernel_rfl, by decide⟩, nf rfl⟩
theorem q16 : TF 16 y16 := ⟨⟨underlying16, t16, by kernel_rfl, rfl, rfl, rfl, rfl, by kernel_rfl, by decide⟩, nf rfl⟩
theorem q17 : TF 17 y17 := ⟨⟨underlying17, t17, by kernel_rfl, rfl, rfl, rfl, rfl, by kernel_rfl, by decide⟩, nf rfl⟩
theorem q18 : TF 18 y18 := ⟨⟨underlying18, t18, by kernel_rfl, rfl, rfl, rfl, rfl, by kernel_rfl, by decide⟩, nf rfl⟩
theorem q19 : TF 19 y19 := ⟨⟨underlying19, t19, by kernel_rfl, rfl, rfl, rfl, rfl, by kernel_rfl, by decide⟩, nf rfl⟩
theorem q20 : TF 20 y20 := ⟨⟨underlying20, t20, by kernel_rfl, rfl, rfl, rfl, rfl, by kernel_rfl, by decide⟩, nf rfl⟩
theorem q21 : TF 21 y21 := ⟨⟨underlying21, t21, by kernel_rfl, rfl, rfl, rfl, rfl, by kernel_rfl, by decide⟩, nf rfl⟩
theorem q22 : TF 22 y22 := ⟨⟨underlying22, t22, by kernel_rfl, rfl, rfl, rfl, rfl, by kernel_rfl, by decide⟩, nf rfl⟩
theorem q23 : TF 23 y23 := ⟨⟨underlying23, t23, by kernel_rfl, rfl, rfl, rfl, rfl, by kernel_rfl, by decide⟩, nf rfl⟩
theorem q24 : TF 24 y24 := ⟨⟨underlying24, t24, by kernel_rfl, rfl, rfl, rfl, rfl, by kernel_rfl, by decide⟩, nf rfl⟩
theorem q25 : TF 25 y25 := ⟨⟨underlying25, t25, by kernel_rfl, rfl, rfl, rfl, rfl, by kernel_rfl, by decide⟩, nf rfl⟩
theorem q26 : TF 26 y26 := ⟨⟨underlying26, t26, by kernel_rfl, rfl, rfl, rfl, rfl, by kernel_rfl, by decide⟩, nf rfl⟩
theorem q27 : TF 27 y27 := ⟨⟨underlying27, t27, by kernel_rfl, rfl, rfl, by kernel_rfl, by kernel_rfl, by kernel_rfl, by decide⟩, nf rfl⟩
theorem q28 : TF 28 y28 := ⟨⟨underlying28, t28, by kernel_rfl, rfl, rfl, rfl, rfl, by kernel_rfl, by decide⟩, nf rfl⟩
theorem q29 : TF 29 y29 := ⟨⟨underlying29, t29, by kernel_rfl, rfl, rfl, rfl, rfl, by kernel_rfl, by decide⟩, nf rfl⟩
theorem q30 : TF 30 y30 := ⟨⟨underlying30, t30, by kernel_rfl, rfl, rfl, rfl, rfl, by kernel_rfl, by decide⟩, nf rfl⟩
theorem q31 : TF 31 y31 := ⟨⟨underlying31, t31, by kernel_rfl, rfl, rfl, rfl, rfl, by kernel_rfl, by decide⟩, nf rfl⟩
theorem q32 : TF 32 y32 := ⟨⟨underlying32, t32, by kernel_rfl, rfl, rfl, rfl, rfl, by kernel_rfl, by decide⟩, nf rfl⟩
theorem q33 : TF 33 y33 := ⟨⟨underlying33, t33, by kernel_rfl, rfl, rfl, rfl, rfl, by kernel_rfl, by decide⟩, nf rfl⟩
theorem q34 : TF 34 y34 := ⟨⟨underlying34, t34, by kernel_rfl, rfl, rfl, rfl, rfl, by kernel_rfl, by decide⟩, nf rfl⟩
theorem q35 : TF 35 y35 := ⟨⟨underlying35, t35, by kernel_rfl, rfl, rfl, rfl, rfl, by kernel_rfl, by decide⟩, nf rfl⟩
theorem q36 : TF 36 y36 := ⟨⟨underlying36, t36, by kernel_rfl, rfl, rfl, rfl, rfl, by kernel_rfl, by decide⟩, fun _ xs ys b hl hb w => flat_array2 Try.underlying36 Try.underlying3 (inf := Try.t3) (by kernel_rfl) rfl xs ys b hl (cellsEq_ints _ _ _ _ (by kernel_rfl) hb) w (by kernel_rfl)⟩
theorem q37 : TF 37 y37 := ⟨⟨underlying37, t37, by kernel_rfl, rfl, rfl, rfl, rfl, by kernel_rfl, by decide⟩, nf rfl⟩
theorem q38 : TF 38 y38 := ⟨⟨underlying38, t38, by kernel_rfl, rfl, rfl, rfl, rfl, by kernel_rfl, by decide⟩, nf rfl⟩
theorem q39 : TF 39 y39 := ⟨⟨underlying39, t39, by kernel_rfl, rfl, rfl, rfl, rfl, by kernel_rfl, by decide⟩, nf rfl⟩
theorem q40 : TF 40 y40 := ⟨⟨underlying40, t40, by kernel_rfl, rfl, rfl, rfl, rfl, by kernel_rfl, by decide⟩, nf rfl⟩
theorem q41 : TF 41 y41 := ⟨⟨underlying41, t41, by kernel_rfl, rfl, rfl, rfl, rfl, by kernel_rfl, by decide⟩, nf rfl⟩
theorem q42 : TF 42 y42 := ⟨⟨underlying42, t42, by kernel_rfl, rfl, rfl, rfl, rfl, by kernel_rfl, by decide⟩, nf rfl⟩
theorem q43 : TF 43 y43 := ⟨⟨underlying43, t43, by kernel_rfl, rfl, rfl, rfl, rfl, by kernel_rfl, by decide⟩, nf rfl⟩
theorem q44 : TF 44 y44 := ⟨⟨underlying44, t44, by kernel_rfl, rfl, rfl, rfl, rfl, by kernel_rfl, by decide⟩, nf rfl⟩
theorem q45 : TF 45 y45 := ⟨⟨underlying45, t45, by kernel_rfl, rfl, rfl, rfl, rfl, by kernel_rfl, by decide⟩, fun _ xs ys b hl hb w => flat_struct5 Try.underlying45 Try.underlying3 ⟨rfl, rfl, rfl, rfl, rfl⟩ ⟨rfl, rfl, rfl, rfl, rfl⟩ (by decide +kernel) (by kernel_rfl) xs ys b hl (cellsEq_ints _ _ _ _ (by kernel_rfl) hb) w (by kernel_rfl)⟩
theorem q46 : TF 46 y46 := ⟨⟨underlying46, t46, by kernel_rfl, rfl, rfl, rfl, rfl, by kernel_rfl, by decide⟩, fun _ xs ys b hl hb w => flat_struct5 Try.underlying46 Try.underlying3 ⟨rfl, rfl, rfl, rfl, rfl⟩ ⟨rfl, rfl, rfl, rfl, rfl⟩ (by decide +kernel) (by kernel_rfl) xs ys b hl (cellsEq_ints _ _ _ _ (by kernel_rfl) hb) w (by kernel_rfl)⟩
theorem q47 : TF 47 y47 := ⟨⟨underlying47, t47, by kernel_rfl, rfl, rfl, rfl, rfl, by kernel_rfl, by decide⟩, nf rfl⟩
theorem q48 : TF 48 y48 := ⟨⟨underlying48, t48, by kernel_rfl, rfl, rfl, rfl, rfl, by kernel_rfl, by decide⟩, nf rfl⟩
theorem q49 : TF 49 y49 := ⟨⟨underlying49, t49, by kernel_rfl, rfl, rfl, rfl, rfl, by kernel_rfl, by decide⟩, nf rfl⟩
theorem q50 : TF 50 y50 := ⟨⟨underlying50, t50, by kernel_rfl, rfl, rfl, rfl, rfl, by kernel_rfl, by decide⟩, nf rfl⟩
theorem q51 : TF 51 y51 := ⟨⟨underlying51, t51, by kernel_rfl, rfl, rfl, rfl, rfl, by kernel_rfl, by decide⟩, nf rfl⟩
theorem q52 : TF 52 y52 := ⟨⟨underlying52, t52, by kernel_rfl, rfl, rfl, rfl, rfl, by kernel_rfl, by decide⟩, nf rfl⟩
theorem q53 : TF 53 y53 := ⟨⟨underlying53, t53, by kernel_rfl, rfl, rfl, rfl, rfl, by kernel_rfl, by decide⟩, nf rfl⟩
theorem q54 : TF 54 y54 := ⟨⟨underlying54, t54, by kernel_rfl, rfl, rfl, rfl, rfl, by kernel_rfl, by decide⟩, nf rfl⟩
theorem q55 : TF 55 y55 := ⟨⟨underlying55, t55, by kernel_rfl, rfl, rfl, rfl, rfl, by kernel_rfl, by decide⟩, nf rfl⟩
theorem q56 : TF 56 y56 := ⟨⟨underlying56, t56, by kernel_rfl, rfl, rfl, rfl, rfl, by kernel_rfl, by decide⟩, nf rfl⟩
theorem q57 : TF 57 y57 := ⟨⟨underlying57, t57, by kernel_rfl, rfl, rfl, rfl, rfl, by kernel_rfl, by decide⟩, nf rfl⟩
theorem q58 : TF 58 y58 := ⟨⟨underlying58, t58, by kernel_rfl, rfl, rfl, rfl, rfl, by kernel_rfl, by decide⟩, nf rfl⟩
theorem q59 : TF 59 y59 := ⟨⟨underlying59, t59, by kernel_rfl, rfl, rfl, rfl, rfl, by kernel_rfl, by decide⟩, nf rfl⟩
theorem q60 : TF 60 y60 := ⟨⟨underlying60, t60, by kernel_rfl, rfl, rfl, rfl, rfl, by kernel_rfl, by decide⟩, nf rfl⟩
theorem q61 : TF 61 y61 := ⟨⟨underlying61, t61, by kernel_rfl, rfl, rfl, rfl, rfl, by kernel_rfl, by decide⟩, nf rfl⟩
theorem q62 : TF 62 y62 := ⟨⟨underlying62, t62, by kernel_rfl, rfl, rfl, rfl, rfl, by kernel_rfl, by decide⟩, nf rfl⟩
theorem q63 : TF 63 y63 := ⟨⟨underlying63, t63, by kernel_rfl, rfl, rfl, rfl, rfl, by kernel_rfl, by decide⟩, nf rfl⟩
theorem q64 : TF 64 y64 := ⟨⟨underlying64, t64, by kernel_rfl, rfl, rfl, rfl, rfl, by kernel_rfl, by decide⟩, nf rfl⟩
theorem q65 : TF 65 y65 := ⟨⟨underlying65, t65, by kernel_rfl, rfl, rfl, rfl, rfl, by kernel_rfl, by decide⟩, nf rfl⟩
theorem q66 : TF 66 y66 := ⟨⟨underlying66, t66, by kernel_rfl, rfl, rfl, rfl, rfl, by kernel_rfl, by decide⟩, nf rfl⟩
theorem q67 : TF 67 y67 := ⟨⟨underlying67, t67, by kernel_rfl, rfl, rfl, rfl, rfl, by kernel_rfl, by decide⟩, nf rfl⟩
theorem q68 : TF 68 y68 := ⟨⟨underlying68, t68, by kernel_rfl, rfl, rfl, rfl, rfl, by kernel_rfl, by decide⟩, nf rfl⟩
theorem q69 : TF 69 y69 := ⟨⟨underlying69, t69, by kernel_rfl, rfl, rfl, rfl, rfl, by kernel_rfl, by decide⟩, nf rfl⟩
theorem q70 : TF 70 y70 := ⟨⟨underlying70, t70, by kernel_rfl, rfl, rfl, rfl, rfl, by kernel_rfl, by decide⟩, nf rfl⟩
theorem q71 : TF 71 y71 := ⟨⟨underlying71, t71, by kernel_rfl, rfl, rfl, rfl, rfl, by kernel_rfl, by decide⟩, nf rfl⟩
theorem q72 : TF 72 y72 := ⟨⟨underlying72, t72, by kernel_rfl, rfl, rfl, rfl, rfl, by kernel_rfl, by decide⟩, nf rfl⟩
theorem q73 : TF 73 y73 := ⟨⟨underlying73, t73, by kernel_rfl, rfl, rfl, rfl, rfl, by kernel_rfl, by decide⟩, nf rfl⟩
theorem q74 : TF 74 y74 := ⟨⟨underlying74, t74, by kernel_rfl, rfl, rfl, rfl, rfl, by kernel_rfl, by decide⟩, nf rfl⟩
theorem q75 : TF 75 y75 := ⟨⟨underlying75, t75, by kernel_rfl, rfl, rfl, rfl, rfl, by kernel_rfl, by decide⟩, nf rfl⟩
theorem q76 : TF 76 y76 := ⟨⟨underlying76, t76, by kernel_rfl, rfl, rfl, rfl, rfl, by kernel_rfl, by decide⟩, nf rfl⟩
theorem q77 : TF 77 y77 := ⟨⟨underlying77, t77, by kernel_rfl, rfl, rfl, rfl, rfl, by kernel_rfl, by decide⟩, nf rfl⟩
theorem q78 : TF 78 y78 := ⟨⟨underlying78, t78, by kernel_rfl, rfl, rfl, rfl, rfl, by kernel_rfl, by decide⟩, nf rfl⟩
theorem q79 : TF 79 y79 := ⟨⟨underlying79, t79, by kernel_rfl, rfl, rfl, rfl, rfl, by kernel_rfl, by decide⟩, nf rfl⟩
theorem q80 : TF 80 y80 := ⟨⟨underlying80, t80, by kernel_rfl, rfl, rfl, rfl, rfl, by kernel_rfl, by decide⟩, nf rfl⟩
theorem q81 : TF 81 y81 := ⟨⟨underlying81, t81, by kernel_rfl, rfl, rfl, rfl, rfl, by kernel_rfl, by decide⟩, nf rfl⟩
theorem q82 : TF 82 y82 := ⟨⟨underlying82, t82, by kernel_rfl, rfl, rfl, rfl, rfl, by kernel_rfl, by decide⟩, nf rfl⟩
theorem q83 : TF 83 y83 := ⟨⟨underlying83, t83, by kernel_rfl, rfl, rfl, rfl, rfl, by kernel_rfl, by decide⟩, nf rfl⟩
theorem q84 : TF 84 y84 := ⟨⟨underlying84, t84, by kernel_rfl, rfl, rfl, rfl, rfl, by kernel_rfl, by decide⟩, nf rfl⟩
theorem q85 : TF 85 y85 := ⟨⟨underlying85, t85, by kernel_rfl, rfl, rfl, rfl, rfl, by kernel_rfl, by decide⟩, nf rfl⟩
theorem q86 : TF 86 y86 := ⟨⟨underlying86, t86, by kernel_rfl, rfl, rfl, rfl, rfl, by kernel_rfl, by decide⟩, nf rfl⟩
theorem q87 : TF 87 y87 := ⟨⟨underlying87, t87, by kernel_rfl, rfl, rfl, rfl, rfl, by kernel_rfl, by decide⟩, nf rfl⟩
theorem q88 : TF 88 y88 := ⟨⟨underlying88, t88, by kernel_rfl, rfl, rfl, rfl, rfl, by kernel_rfl, by decide⟩, nf rfl⟩
theorem q89 : TF 89 y89 := ⟨⟨underlying89, t89, by kernel_rfl, rfl, rfl, rfl, rfl, by kernel_rfl, by decide⟩, nf rfl⟩
theorem q90 : TF 90 y90 := ⟨⟨underlying90, t90, by kernel_rfl, rfl, rfl, rfl, rfl, by kernel_rfl, by decide⟩, nf rfl⟩
theorem q91 : TF 91 y91 := ⟨⟨underlying91, t91, by kernel_rfl, rfl, rfl, rfl, rfl, by kernel_rfl, by decide⟩, nf rfl⟩
theorem q92 : TF 92 y92 := ⟨⟨underlying92, t92, by kernel_rfl, rfl, rfl, rfl, rfl, by kernel_rfl, by decide⟩, nf rfl⟩
theorem q93 : TF 93 y93 := ⟨⟨underlying93, t93, by kernel_rfl, rfl, rfl, rfl, rfl, by kernel_rfl, by decide⟩, nf rfl⟩
theorem q94 : TF 94 y94 := ⟨⟨underlying94, t94, by kernel_rfl, rfl, rfl, rfl, rfl, by kernel_rfl, by decide⟩, nf rfl⟩
theorem q95 : TF 95 y95 := ⟨⟨underlying95, t95, by kernel_rfl, rfl, rfl, rfl, rfl, by kernel_rfl, by decide⟩, nf rfl⟩
theorem q96 : TF 96 y96 := ⟨⟨underlying96, t96, by kernel_rfl, rfl, rfl, rfl, rfl, by kernel_rfl, by decide⟩, nf rfl⟩
theorem q97 : TF 97 y97 := ⟨⟨underlying97, t97, by kernel_rfl, rfl, rfl, rfl, rfl, by kernel_rfl, by decide⟩, nf rfl⟩
theorem q98 : TF 98 y98 := ⟨⟨underlying98, t98, by kernel_rfl, rfl, rfl, rfl, rfl, by kernel_rfl, by decide⟩, nf rfl⟩
theorem q99 : TF 99 y99 := ⟨⟨underlying99, t99, by kernel_rfl, rfl, rfl, rfl, rfl, by kernel_rfl, by decide⟩, nf rfl⟩
theorem q100 : TF 100 y100 := ⟨⟨underlying100, t100, by kernel_rfl, rfl, rfl, rfl, rfl, by kernel_rfl, by decide⟩, nf rfl⟩
theorem q101 : TF 101 y101 := ⟨⟨underlying101, t101, by kernel_rfl, rfl, rfl, rfl, rfl, by kernel_rfl, by decide⟩, nf rfl⟩
theorem q102 : TF 102 y102 := ⟨⟨underlying102, t102, by kernel_rfl, rfl, rfl, rfl, rfl, by kernel_rfl, by decide⟩, nf rfl⟩
theorem q103 : TF 103 y103 := ⟨⟨underlying103, t103, by kernel_rfl, rfl, rfl, rfl, rfl, by kernel_rfl, by decide⟩, nf rfl⟩
theorem q104 : TF 104 y104 := ⟨⟨underlying104, t104, by kernel_rfl, rfl, rfl, rfl, rfl, by kernel_rfl, by decide⟩, nf rfl⟩
theorem q105 : TF 105 y105 := ⟨⟨underlying105, t105, by kernel_rfl, rfl, rfl, rfl, rfl, by kernel_rfl, by decide⟩, nf rfl⟩
theorem q106 : TF 106 y106 := ⟨⟨underlying106, t106, by kernel_rfl, rfl, rfl, rfl, rfl, by kernel_rfl, by decide⟩, nf rfl⟩
theorem q107 : TF 107 y107 := ⟨⟨underlying107, t107, by kernel_rfl, rfl, rfl, rfl, rfl, by kernel_rfl, by decide⟩, nf rfl⟩
theorem q108 : TF 108 y108 := ⟨⟨underlying108, t108, by kernel_rfl, rfl, rfl, rfl, rfl, by kernel_rfl, by decide⟩, nf rfl⟩
theorem q109 : TF 109 y109 := ⟨⟨underlying109, t109, by kernel_rfl, rfl, rfl, rfl, rfl, by kernel_rfl, by decide⟩, nf rfl⟩
theorem q110 : TF 110 y110 := ⟨⟨underlying110, t110, by kernel_rfl, rfl, rfl, rfl, rfl, by kernel_rfl, by decide⟩, nf rfl⟩
theorem q111 : TF 111 y111 := ⟨⟨underlying111, t111, by kernel_rfl, rfl, rfl, rfl, rfl, by kernel_rfl, by decide⟩, nf rfl⟩
theorem q112 : TF 112 y112 := ⟨⟨underlying112, t112, by kernel_rfl, rfl, rfl, rfl, rfl, by kernel_rfl, by decide⟩, nf rfl⟩
theorem q113 : TF 113 y113 := ⟨⟨underlying113, t113, by kernel_rfl, rfl, rfl, rfl, rfl, by kernel_rfl, by decide⟩, nf rfl⟩
theorem q114 : TF 114 y114 := ⟨⟨underlying114, t114, by kernel_rfl, rfl, rfl, rfl, rfl, by kernel_rfl, by decide⟩, nf rfl⟩
theorem q115 : TF 115 y115 := ⟨⟨underlying115, t115, by kernel_rfl, rfl, rfl, rfl, rfl, by kernel_rfl, by decide⟩, nf rfl⟩
theorem q116 : TF 116 y116 := ⟨⟨underlying116, t116, by kernel_rfl, rfl, rfl, rfl, rfl, by kernel_rfl, by decide⟩, nf rfl⟩
theorem q117 : TF 117 y117 := ⟨⟨underlying117, t117, by kernel_rfl, rfl, rfl, rfl, rfl, by kernel_rfl, by decide⟩, nf rfl⟩
theorem q118 : TF 118 y118 := ⟨⟨underlying118, t118, by kernel_rfl, rfl, rfl, rfl, rfl, by kernel_rfl, by decide⟩, nf rfl⟩
theorem q119 : TF 119 y119 := ⟨⟨underlying119, t119, by kernel_rfl, rfl, rfl, rfl, rfl, by kernel_rfl, by decide⟩, nf rfl⟩
theorem q120 : TF 120 y120 := ⟨⟨underlying120, t120, by kernel_rfl, rfl, rfl, rfl, rfl, by kernel_rfl, by decide⟩, nf rfl⟩
theorem q121 : TF 121 y121 := ⟨⟨underlying121, t121, by kernel_rfl, rfl, rfl, rfl, rfl, by kernel_rfl, by decide⟩, nf rfl⟩
theorem q122 : TF 122 y122 := ⟨⟨underlying122, t122, by kernel_rfl, rfl, rfl, rfl, rfl, by kernel_rfl, by decide⟩, nf rfl⟩
theorem q123 : TF 123 y123 := ⟨⟨underlying123, t123, by kernel_rfl, rfl, rfl, rfl, rfl, by kernel_rfl, by decide⟩, nf rfl⟩
theorem q124 : TF 124 y124 := ⟨⟨underlying124, t124, by kernel_rfl, rfl, rfl, rfl, rfl, by kernel_rfl, by decide⟩, nf rfl⟩
theorem q125 : TF 125 y125 := ⟨⟨underlying125, t125, by kernel_rfl, rfl, rfl, rfl, rfl, by kernel_rfl, by decide⟩, nf rfl⟩
theorem q126 : TF 126 y126 := ⟨⟨underlying126, t126, by kernel_rfl, rfl, rfl, rfl, rfl, by kernel_rfl, by decide⟩, nf rfl⟩
theorem q127 : TF 127 y127 := ⟨⟨underlying127, t127, by kernel_rfl, rfl, rfl, rfl, rfl, by kernel_rfl, by decide⟩, nf rfl⟩
theorem q128 : TF 128 y128 := ⟨⟨underlying128, t128, by kernel_rfl, rfl, rfl, rfl, rfl, by kernel_rfl, by decide⟩, nf rfl⟩
theorem q129 : TF 129 y129 := ⟨⟨underlying129, t129, by kernel_rfl, rfl, rfl, rfl, rfl, by kernel_rfl, by decide⟩, nf rfl⟩
theorem q130 : TF 130 y130 := ⟨⟨underlying130, t130, by kernel_rfl, rfl, rfl, rfl, rfl, by kernel_rfl, by decide⟩, nf rfl⟩
theorem q131 : TF 131 y131 := ⟨⟨underlying131, t131, by kernel_rfl, rfl, rfl, rfl, rfl, by kernel_rfl, by decide⟩, nf rfl⟩
theorem q132 : TF 132 y132 := ⟨⟨underlying132, t132, by kernel_rfl, rfl, rfl, rfl, rfl, by kernel_rfl, by decide⟩, nf rfl⟩
theorem q133 : TF 133 y133 := ⟨⟨underlying133, t133, by kernel_rfl, rfl, rfl, rfl, rfl, by kernel_rfl, by decide⟩, nf rfl⟩
theorem q134 : TF 134 y134 := ⟨⟨underlying134, t134, by kernel_rfl, rfl, rfl, rfl, rfl, by kernel_rfl, by decide⟩, nf rfl⟩
theorem q135 : TF 135 y135 := ⟨⟨underlying135, t135, by kernel_rfl, rfl, rfl, rfl, rfl, by kernel_rfl, by decide⟩, nf rfl⟩
theorem q136 : TF 136 y136 := ⟨⟨underlying136, t136, by kernel_rfl, rfl, rfl, rfl, rfl, by kernel_rfl, by decide⟩, nf rfl⟩
theorem q137 : TF 137 y137 := ⟨⟨underlying137, t137, by kernel_rfl, rfl, rfl, rfl, rfl, by kernel_rfl, by decide⟩, nf rfl⟩
theorem q138 : TF 138 y138 := ⟨⟨underlying138, t138, by kernel_rfl, rfl, rfl, rfl, rfl, by kernel_rfl, by decide⟩, nf rfl⟩
theorem q139 : TF 139 y139 := ⟨⟨underlying139, t139, by kernel_rfl, rfl, rfl, rfl, rfl, by kernel_rfl, by decide⟩, nf rfl⟩
theorem q140 : TF 140 y140 := ⟨⟨underlying140, t140, by kernel_rfl, rfl, rfl, rfl, rfl, by kernel_rfl, by decide⟩, nf rfl⟩
theorem q141 : TF 141 y141 := ⟨⟨underlying141, t141, by kernel_rfl, rfl, rfl, rfl, rfl, by kernel_rfl, by decide⟩, nf rfl⟩
theorem q142 : TF 142 y142 := ⟨⟨underlying142, t142, by kernel_rfl, rfl, rfl, rfl, rfl, by kernel_rfl, by decide⟩, nf rfl⟩
theorem q143 : TF 143 y143 := ⟨⟨underlying143, t143, by kernel_rfl, rfl, rfl, rfl, rfl, by kernel_rfl, by decide⟩, nf rfl⟩
theorem q144 : TF 144 y144 := ⟨⟨underlying144, t144, by kernel_rfl, rfl, rfl, rfl, rfl, by kernel_rfl, by decide⟩, nf rfl⟩
theorem q145 : TF 145 y145 := ⟨⟨underlying145, t145, by kernel_rfl, rfl, rfl, rfl, rfl, by kernel_rfl, by decide⟩, nf rfl⟩
theorem q146 : TF 146 y146 := ⟨⟨underlying146, t146, by kernel_rfl, rfl, rfl, rfl, rfl, by kernel_rfl, by decide⟩, nf rfl⟩
theorem q147 : TF 147 y147 := ⟨⟨underlying147, t147, by kernel_rfl, rfl, rfl, rfl, rfl, by kernel_rfl, by decide⟩, nf rfl⟩
theorem q148 : TF 148 y148 := ⟨⟨underlying148, t148, by kernel_rfl, rfl, rfl, rfl, rfl, by kernel_rfl, by decide⟩, nf rfl⟩
theorem q149 : TF 149 y149 := ⟨⟨underlying149, t149, by kernel_rfl, rfl, rfl, rfl, rfl, by kernel_rfl, by decide⟩, nf rfl⟩
theorem q150 : TF 150 y150 := ⟨⟨underlying150, t150, by kernel_rfl, rfl, rfl, rfl, rfl, by kernel_rfl, by decide⟩, nf rfl⟩
theorem q151 : TF 151 y151 := ⟨⟨underlying151, t151, by kernel_rfl, rfl, rfl, rfl, rfl, by kernel_rfl, by decide⟩, nf rfl⟩
theorem q152 : TF 152 y152 := ⟨⟨underlying152, t152, by kernel_rfl, rfl, rfl, rfl, rfl, by kernel_rfl, by decide⟩, nf rfl⟩
theorem q153 : TF 153 y153 := ⟨⟨underlying153, t153, by kernel_rfl, rfl, rfl, rfl, rfl, by kernel_rfl, by decide⟩, nf rfl⟩
theorem q154 : TF 154 y154 := ⟨⟨underlying154, t154, by kernel_rfl, rfl, rfl, rfl, rfl, by kernel_rfl, by decide⟩, nf rfl⟩
theorem q155 : TF 155 y155 := ⟨⟨underlying155, t155, by kernel_rfl, rfl, rfl, rfl, rfl, by kernel_rfl, by decide⟩, nf rfl⟩
theorem q156 : TF 156 y156 := ⟨⟨underlying156, t156, by kernel_rfl, rfl, rfl, rfl, rfl, by kernel_rfl, by decide⟩, nf rfl⟩
theorem q157 : TF 157 y157 := ⟨⟨underlying157, t157, by kernel_rfl, rfl, rfl, rfl, rfl, by kernel_rfl, by decide⟩, nf rfl⟩
theorem q158 : TF 158 y158 := ⟨⟨underlying158, t158, by kernel_rfl, rfl, rfl, rfl, rfl, by kernel_rfl, by decide⟩, nf rfl⟩
theorem q159 : TF 159 y159 := ⟨⟨underlying159, t159, by kernel_rfl, rfl, rfl, rfl, rfl, by kernel_rfl, by decide⟩, nf rfl⟩
theorem q160 : TF 160 y160 := ⟨⟨underlying160, t160, by kernel_rfl, rfl, rfl, rfl, rfl, by kernel_rfl, by decide⟩, nf rfl⟩
theorem q161 : TF 161 y161 := ⟨⟨underlying161, t161, by kernel_rfl, rfl, rfl, rfl, rfl, by kernel_rfl, by decide⟩, nf rfl⟩
theorem q162 : TF 162 y162 := ⟨⟨underlying162, t162, by kernel_rfl, rfl, rfl, rfl, rfl, by kernel_rfl, by decide⟩, nf rfl⟩
theorem q163 : TF 163 y163 := ⟨⟨underlying163, t163, by kernel_rfl, rfl, rfl, rfl, rfl, by kernel_rfl, by decide⟩, nf rfl⟩
theorem q164 : TF 164 y164 := ⟨⟨underlying164, t164, by kernel_rfl, rfl, rfl, rfl, rfl, by kernel_rfl, by decide⟩, nf rfl⟩
theorem q165 : TF 165 y165 := ⟨⟨underlying165, t165, by kernel_rfl, rfl, rfl, rfl, rfl, by kernel_rfl, by decide⟩, nf rfl⟩
theorem q166 : TF 166 y166 := ⟨⟨underlying166, t166, by kernel_rfl, rfl, rfl, rfl, rfl, by kernel_rfl, by decide⟩, nf rfl⟩
theorem q167 : TF 167 y167 := ⟨⟨underlying167, t167, by kernel_rfl, rfl, rfl, rfl, rfl, by kernel_rfl, by decide⟩, nf rfl⟩
theorem q168 : TF 168 y168 := ⟨⟨underlying168, t168, by kernel_rfl, rfl, rfl, rfl, rfl, by kernel_rfl, by decide⟩, nf rfl⟩
theorem q169 : TF 169 y169 := ⟨⟨underlying169, t169, by kernel_rfl, rfl, rfl, rfl, rfl, by kernel_rfl, by decide⟩, nf rfl⟩
theorem q170 : TF 170 y170 := ⟨⟨underlying170, t170, by kernel_rfl, rfl, rfl, rfl, rfl, by kernel_rfl, by decide⟩, nf rfl⟩
theorem q171 : TF 171 y171 := ⟨⟨underlying171, t171, by kernel_rfl, rfl, rfl, rfl, rfl, by kernel_rfl, by decide⟩, nf rfl⟩
theorem q172 : TF 172 y172 := ⟨⟨underlying172, t172, by kernel_rfl, rfl, rfl, rfl, rfl, by kernel_rfl, by decide⟩, nf rfl⟩
theorem q173 : TF 173 y173 := ⟨⟨underlying173, t173, by kernel_rfl, rfl, rfl, rfl, rfl, by kernel_rfl, by decide⟩, nf rfl⟩
theorem q174 : TF 174 y174 := ⟨⟨underlying174, t174, by kernel_rfl, rfl, rfl, rfl, rfl, by kernel_rfl, by decide⟩, nf rfl⟩
theorem q175 : TF 175 y175 := ⟨⟨underlying175, t175, by kernel_rfl, rfl, rfl, rfl, rfl, by kernel_rfl, by decide⟩, nf rfl⟩
theorem q176 : TF 176 y176 := ⟨⟨underlying176, t176, by kernel_rfl, rfl, rfl, rfl, rfl, by kernel_rfl, by decide⟩, nf rfl⟩
theorem q177 : TF 177 y177 := ⟨⟨underlying177, t177, by kernel_rfl, rfl, rfl, rfl, rfl, by kernel_rfl, by decide⟩, nf rfl⟩
theorem q178 : TF 178 y178 := ⟨⟨underlying178, t178, by kernel_rfl, rfl, rfl, rfl, rfl, by kernel_rfl, by decide⟩, nf rfl⟩
theorem q179 : TF 179 y179 := ⟨⟨underlying179, t179, by kernel_rfl, rfl, rfl, rfl, rfl, by kernel_rfl, by decide⟩, nf rfl⟩
theorem q180 : TF 180 y180 := ⟨⟨underlying180, t180, by kernel_rfl, rfl, rfl, rfl, rfl, by kernel_rfl, by decide⟩, nf rfl⟩
theorem q181 : TF 181 y181 := ⟨⟨underlying181, t181, by kernel_rfl, rfl, rfl, rfl, rfl, by kernel_rfl, by decide⟩, nf rfl⟩
theorem q182 : TF 182 y182 := ⟨⟨underlying182, t182, by kernel_rfl, rfl, rfl, rfl, rfl, by kernel_rfl, by decide⟩, nf rfl⟩
theorem q183 : TF 183 y183 := ⟨⟨underlying183, t183, by kernel_rfl, rfl, rfl, rfl, rfl, by kernel_rfl, by decide⟩, nf rfl⟩
theorem q184 : TF 184 y184 := ⟨⟨underlying184, t184, by kernel_rfl, rfl, rfl, rfl, rfl, by kernel_rfl, by decide⟩, nf rfl⟩
theorem q185 : TF 185 y185 := ⟨⟨underlying185, t185, by kernel_rfl, rfl, rfl, rfl, rfl, by kernel_rfl, by decide⟩, nf rfl⟩
theorem q186 : TF 186 y186 := ⟨⟨underlying186, t186, by kernel_rfl, rfl, rfl, rfl, rfl, by kernel_rfl, by decide⟩, nf rfl⟩
theorem q187 : TF 187 y187 := ⟨⟨underlying187, t187, by kernel_rfl, rfl, rfl, rfl, rfl, by kernel_rfl, by decide⟩, nf rfl⟩
theorem q188 : TF 188 y188 := ⟨⟨underlying188, t188, by kernel_rfl, rfl, rfl, rfl, rfl, by kernel_rfl, by decide⟩, nf rfl⟩
theorem q189 : TF 189 y189 := ⟨⟨underlying189, t189, by kernel_rfl, rfl, rfl, rfl, rfl, by kernel_rfl, by decide⟩, nf rfl⟩
theorem q190 : TF 190 y190 := ⟨⟨underlying190, t190, by kernel_rfl, rfl, rfl, rfl, rfl, by kernel_rfl, by decide⟩, nf rfl⟩
theorem q191 : TF 191 y191 := ⟨⟨underlying191, t191, by kernel_rfl, rfl, rfl, rfl, rfl, by kernel_rfl, by decide⟩, nf rfl⟩
theorem q192 : TF 192 y192 := ⟨⟨underlying192, t192, by kernel_rfl, rfl, rfl, rfl, rfl, by kernel_rfl, by decide⟩, nf rfl⟩
theorem q193 : TF 193 y193 := ⟨⟨underlying193, t193, by kernel_rfl, rfl, rfl, rfl, rfl, by kernel_rfl, by decide⟩, nf rfl⟩
theorem q194 : TF 194 y194 := ⟨⟨underlying194, t194, by kernel_rfl, rfl, rfl, rfl, rfl, by kernel_rfl, by decide⟩, nf rfl⟩
theorem q195 : TF 195 y195 := ⟨⟨underlying195, t195, by kernel_rfl, rfl, rfl, rfl, rfl, by kernel_rfl, by decide⟩, nf rfl⟩
theorem q196 : TF 196 y196 := ⟨⟨underlying196, t196, by kernel_rfl, rfl, rfl, rfl, rfl, by kernel_rfl, by decide⟩, nf rfl⟩
theorem q197 : TF 197 y197 := ⟨⟨underlying197, t197, by kernel_rfl, rfl, rfl, rfl, rfl, by kernel_rfl, by decide⟩, nf rfl⟩
theorem q198 : TF 198 y198 := ⟨⟨underlying198, t198, by kernel_rfl, rfl, rfl, rfl, rfl, by kernel_rfl, by decide⟩, nf rfl⟩
theorem q199 : TF 199 y199 := ⟨⟨underlying199, t199, by kernel_rfl, rfl, rfl, rfl, rfl, by kernel_rfl, by decide⟩, nf rfl⟩
theorem q200 : TF 200 y200 := ⟨⟨underlying200, t200, by kernel_rfl, rfl, rfl, rfl, rfl, by kernel_rfl, by decide⟩, nf rfl⟩
theorem q201 : TF 201 y201 := ⟨⟨underlying201, t201, by kernel_rfl, rfl, rfl, rfl, rfl, by kernel_rfl, by decide⟩, nf rfl⟩
theorem q202 : TF 202 y202 := ⟨⟨underlying202, t202, by kernel_rfl, rfl, rfl, rfl, rfl, by kernel_rfl, by decide⟩, nf rfl⟩
theorem q203 : TF 203 y203 := ⟨⟨underlying203, t203, by kernel_rfl, rfl, rfl, rfl, rfl, by kernel_rfl, by decide⟩, nf rfl⟩
theorem q204 : TF 204 y204 := ⟨⟨underlying204, t204, by kernel_rfl, rfl, rfl, rfl, rfl, by kernel_rfl, by decide⟩, nf rfl⟩
theorem q205 : TF 205 y205 := ⟨⟨underlying205, t205, by kernel_rfl, rfl, rfl, rfl, rfl, by kernel_rfl, by decide⟩, nf rfl⟩
theorem q206 : TF 206 y206 := ⟨⟨underlying206, t206, by kernel_rfl, rfl, rfl, rfl, rfl, by kernel_rfl, by decide⟩, nf rfl⟩
theorem q207 : TF 207 y207 := ⟨⟨underlying207, t207, by kernel_rfl, rfl, rfl, rfl, rfl, by kernel_rfl, by decide⟩, nf rfl⟩
theorem q208 : TF 208 y208 := ⟨⟨underlying208, t208, by kernel_rfl, rfl, rfl, rfl, rfl, by kernel_rfl, by decide⟩, nf rfl⟩
theorem q209 : TF 209 y209 := ⟨⟨underlying209, t209, by kernel_rfl, rfl, rfl, rfl, rfl, by kernel_rfl, by decide⟩, nf rfl⟩
theorem q210 : TF 210 y210 := ⟨⟨underlying210, t210, by kernel_rfl, rfl, rfl, rfl, rfl, by kernel_rfl, by decide⟩, nf rfl⟩
theorem q211 : TF 211 y211 := ⟨⟨underlying211, t211, by kernel_rfl, rfl, rfl, rfl, rfl, by kernel_rfl, by decide⟩, nf rfl⟩
theorem q212 : TF 212 y212 := ⟨⟨underlying212, t212, by kernel_rfl, rfl, rfl, rfl, rfl, by kernel_rfl, by decide⟩, nf rfl⟩
theorem q213 : TF 213 y213 := ⟨⟨underlying213, t213, by kernel_rfl, rfl, rfl, rfl, rfl, by kernel_rfl, by decide⟩, nf rfl⟩
theorem q214 : TF 214 y214 := ⟨⟨underlying214, t214, by kernel_rfl, rfl, rfl, rfl, rfl, by kernel_rfl, by decide⟩, nf rfl⟩
theorem q215 : TF 215 y215 := ⟨⟨underlying215, t215, by kernel_rfl, rfl, rfl, rfl, rfl, by kernel_rfl, by decide⟩, nf rfl⟩
theorem q216 : TF 216 y216 := ⟨⟨underlying216, t216, by kernel_rfl, rfl, rfl, rfl, rfl, by kernel_rfl, by decide⟩, nf rfl⟩
theorem q217 : TF 217 y217 := ⟨⟨underlying217, t217, by kernel_rfl, rfl, rfl, rfl, rfl, by kernel_rfl, by decide⟩, nf rfl⟩
theorem q218 : TF 218 y218 := ⟨⟨underlying218, t218, by kernel_rfl, rfl, rfl, rfl, rfl, by kernel_rfl, by decide⟩, nf rfl⟩
theorem q219 : TF 219 y219 := ⟨⟨underlying219, t219, by kernel_rfl, rfl, rfl, rfl, rfl, by kernel_rfl, by decide⟩, nf rfl⟩
theorem q220 : TF 220 y220 := ⟨⟨underlying220, t220, by kernel_rfl, rfl, rfl, rfl, rfl, by kernel_rfl, by decide⟩, nf rfl⟩
theorem q221 : TF 221 y221 := ⟨⟨underlying221, t221, by kernel_rfl, rfl, rfl, rfl, rfl, by kernel_rfl, by decide⟩, nf rfl⟩
theorem q222 : TF 222 y222 := ⟨⟨underlying222, t222, by kernel_rfl, rfl, rfl, rfl, rfl, by kernel_rfl, by decide⟩, nf rfl⟩
theorem q223 : TF 223 y223 := ⟨⟨underlying223, t223, by kernel_rfl, rfl, rfl, rfl, rfl, by kernel_rfl, by decide⟩, nf rfl⟩
theorem q224 : TF 224 y224 := ⟨⟨underlying224, t224, by kernel_rfl, rfl, rfl, rfl, rfl, by kernel_rfl, by decide⟩, nf rfl⟩
theorem fnOk : ∀ f F, fn.get f = some F → FnP f F := (nn (nn (nn (nn (nn (nn (nn (nd p127 lf lf) lf) (nn (nd p159 lf lf) lf)) (nd p47 (nd p79 lf lf) (nd p111 (nd p175 lf lf) lf))) (nn (nn (nn (nd p135 lf lf) lf) (nd p103 (nd p167 lf lf) lf)) (nd p55 (nn (nd p151 lf lf) lf) (nn (nd p183 lf lf) lf)))) (nn (nn (nn (nn (nd p131 lf lf) lf) (nd p99 lf lf)) (nn (nn (nd p147 lf lf) lf) (nn (nd p179 lf lf) lf))) (nd p27 (nn (nd p75 (nd p139 lf lf) lf) (nn (nd p171 lf lf) lf)) (nn (nd p91 lf lf) (nn (nd p187 lf lf) lf))))) (nn (nn (nn (nn (nn (nd p129 lf lf) lf) (nd p97 (nd p161 lf lf) lf)) (nd p49 (nd p81 (nd p145 lf lf) lf) (nd p113 (nd p177 lf lf) lf))) (nn (nn (nd p73 (nd p137 lf lf) lf) (nd p105 (nd p169 lf lf) lf)) (nn (nd p89 (nd p153 lf lf) lf) (nn (nd p185 lf lf) lf)))) (nn (nn (nn (nn (nd p133 lf lf) (nd p197 lf lf)) lf) (nn (nn (nd p149 lf lf) lf) lf)) (nn (nd p45 (nd p77 (nd p141 lf lf) lf) (nn (nd p173 lf lf) lf)) (nn (nn (nd p157 lf lf) lf) (nd p125 lf lf)))))) (nn (nn (nn (nn (nn (nn (nd p128 lf lf) lf) (nn (nd p160 lf lf) lf)) (nd p48 (nd p80 (nd p144 lf lf) lf) (nd p112 (nd p176 lf lf) lf))) (nd p24 (nn (nd p72 (nd p136 lf lf) lf) (nn (nd p168 lf lf) lf)) (nd p56 (nn (nd p152 lf lf) lf) (nn (nd p184 lf lf) lf)))) (nn (nn (nn (nn (nd p132 lf lf) lf) (nd p100 lf lf)) (nd p52 lf (nn (nd p180 lf lf) lf))) (nn (nn (nd p76 (nd p140 lf lf) lf) (nd p108 (nd p172 lf lf) lf)) (nn (nd p92 (nd p156 lf lf) lf) (nd p124 (nd p188 lf lf) lf))))) (nn (nn (nd p18 (nn (nn (nd p130 lf lf) lf) (nd p98 lf lf)) (nn (nn (nd p146 lf lf) lf) (nn (nd p178 lf lf) lf))) (nn (nn (nd p74 (nd p138 lf lf) lf) (nd p106 (nd p170 lf lf) lf)) (nn (nd p90 (nd p154 lf lf) lf) (nn (nd p186 lf lf) lf)))) (nn (nn (nn (nn (nd p134 lf lf) lf) (nn (nd p166 lf lf) lf)) (nn (nn (nd p150 lf lf) lf) lf)) (nn (nn (nd p78 lf lf) (nn (nd p174 lf lf) lf)) (nn (nn (nd p158 lf lf) lf) (nd p126 lf lf)))))))
theorem tfOk : ∀ t i, ty.get t = some i → TF t i := (nd q0 (nd q1 (nd q3 (nd q7 (nd q15 (nd q31 (nd q63 (nd q127 lf lf) (nd q191 lf lf)) (nd q95 (nd q159 lf lf) (nd q223 lf lf))) (nd q47 (nd q79 (nd q143 lf lf) (nd q207 lf lf)) (nd q111 (nd q175 lf lf) lf))) (nd q23 (nd q39 (nd q71 (nd q135 lf lf) (nd q199 lf lf)) (nd q103 (nd q167 lf lf) lf)) (nd q55 (nd q87 (nd q151 lf lf) (nd q215 lf lf)) (nd q119 (nd q183 lf lf) lf)))) (nd q11 (nd q19 (nd q35 (nd q67 (nd q131 lf lf) (nd q195 lf lf)) (nd q99 (nd q163 lf lf) lf)) (nd q51 (nd q83 (nd q147 lf lf) (nd q211 lf lf)) (nd q115 (nd q179 lf lf) lf))) (nd q27 (nd q43 (nd q75 (nd q139 lf lf) (nd q203 lf lf)) (nd q107 (nd q171 lf lf) lf)) (nd q59 (nd q91 (nd q155 lf lf) (nd q219 lf lf)) (nd q123 (nd q187 lf lf) lf))))) (nd q5 (nd q9 (nd q17 (nd q33 (nd q65 (nd q129 lf lf) (nd q193 lf lf)) (nd q97 (nd q161 lf lf) lf)) (nd q49 (nd q81 (nd q145 lf lf) (nd q209 lf lf)) (nd q113 (nd q177 lf lf) lf))) (nd q25 (nd q41 (nd q73 (nd q137 lf lf) (nd q201 lf lf)) (nd q105 (nd q169 lf lf) lf)) (nd q57 (nd q89 (nd q153 lf lf) (nd q217 lf lf)) (nd q121 (nd q185 lf lf) lf)))) (nd q13 (nd q21 (nd q37 (nd q69 (nd q133 lf lf) (nd q197 lf lf)) (nd q101 (nd q165 lf lf) lf)) (nd q53 (nd q85 (nd q149 lf lf) (nd q213 lf lf)) (nd q117 (nd q181 lf lf) lf))) (nd q29 (nd q45 (nd q77 (nd q141 lf lf) (nd q205 lf lf)) (nd q109 (nd q173 lf lf) lf)) (nd q61 (nd q93 (nd q157 lf lf) (nd q221 lf lf)) (nd q125 (nd q189 lf lf) lf)))))) (nd q2 (nd q4 (nd q8 (nd q16 (nd q32 (nd q64 (nd q128 lf lf) (nd q192 lf lf)) (nd q96 (nd q160 lf lf) (nd q224 lf lf))) (nd q48 (nd q80 (nd q144 lf lf) (nd q208 lf lf)) (nd q112 (nd q176 lf lf) lf))) (nd q24 (nd q40 (nd q72 (nd q136 lf lf) (nd q200 lf lf)) (nd q104 (nd q168 lf lf) lf)) (nd q56 (nd q88 (nd q152 lf lf) (nd q216 lf lf)) (nd q120 (nd q184 lf lf) lf)))) (nd q12 (nd q20 (nd q36 (nd q68 (nd q132 lf lf) (nd q196 lf lf)) (nd q100 (nd q164 lf lf) lf)) (nd q52 (nd q84 (nd q148 lf lf) (nd q212 lf lf)) (nd q116 (nd q180 lf lf) lf))) (nd q28 (nd q44 (nd q76 (nd q140 lf lf) (nd q204 lf lf)) (nd q108 (nd q172 lf lf) lf)) (nd q60 (nd q92 (nd q156 lf lf) (nd q220 lf lf)) (nd q124 (nd q188 lf lf) lf))))) (nd q6 (nd q10 (nd q18 (nd q34 (nd q66 (nd q130 lf lf) (nd q194 lf lf)) (nd q98 (nd q162 lf lf) lf)) (nd q50 (nd q82 (nd q146 lf lf) (nd q210 lf lf)) (nd q114 (nd q178 lf lf) lf))) (nd q26 (nd q42 (nd q74 (nd q138 lf lf) (nd q202 lf lf)) (nd q106 (nd q170 lf lf) lf)) (nd q58 (nd q90 (nd q154 lf lf) (nd q218 lf lf)) (nd q122 (nd q186 lf lf) lf)))) (nd q14 (nd q22 (nd q38 (nd q70 (nd q134 lf lf) (nd q198 lf lf)) (nd q102 (nd q166 lf lf) lf)) (nd q54 (nd q86 (nd q150 lf lf) (nd q214 lf lf)) (nd q118 (nd q182 lf lf) lf))) (nd q30 (nd q46 (nd q78 (nd q142 lf lf) (nd q206 lf lf)) (nd q110 (nd q174 lf lf) lf)) (nd q62 (nd q94 (nd q158 lf lf) (nd q222 lf lf)) (nd q126 (nd q190 lf lf) lf)))))))
def D : Abs.Data := { fn := fn, ty := ty }
theorem dok : DOk Try.prog D := ⟨fun f F h => fnOk f F h, fun t i h => (tfOk t i h).1, fun t i h hf => (tfOk t i h).2 hf, by kernel_rfl⟩
theorem ovok : OvOK Try.prog D := fun f g h => by simp [D] at h
end
end Go.Proofs.Ythiccnmplgdheaa.Tab
