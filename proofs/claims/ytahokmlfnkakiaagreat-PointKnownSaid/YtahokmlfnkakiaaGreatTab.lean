/- The tables of the seat's program: its functions, its types; that they tell the program's own. Written by a program of this session (wip/mktab.py). -/
import Derived.Test.YtahokmlfnkakiaaGreatProg
import Derived.Test.YtahokmlfnkakiaaGreatAbsE
import Derived.KernelRfl
set_option linter.unusedVariables false
set_option maxRecDepth 100000
namespace Go.Proofs.YtahokmlfnkakiaaGreat.Tab
open Go Go.Abs Go.Proofs
theorem get_leaf {α : Type} {p : Nat → α → Prop} : ∀ f F, (Tr.leaf : Tr α).get f = some F → p f F := fun f F h => by simp [Tr.get] at h
theorem get_node {α : Type} {p : Nat → α → Prop} {l r : Tr α} {v : Option α} (h0 : ∀ F, v = some F → p 0 F) (hl : ∀ f F, l.get f = some F → p (2 * f + 1) F) (hr : ∀ f F, r.get f = some F → p (2 * f + 2) F) : ∀ f F, (Tr.node l v r).get f = some F → p f F := by
  intro f F h
  unfold Tr.get at h
  by_cases h1 : f = 0
  · subst h1; exact h0 F h
  · rw [nbeq_f h1] at h
    by_cases h2 : f % 2 = 1
    · rw [nbeq_t h2] at h
      have := hl _ F h
      rwa [show 2 * (f / 2) + 1 = f by omega] at this
    · rw [nbeq_f h2] at h
      have := hr _ F h
      rwa [show 2 * (f / 2 - 1) + 2 = f by omega] at this
noncomputable def y0 : TyI := ⟨1, 0, (Value.tuple #[]), (TypeDesc.tuple #[]), false⟩
noncomputable def y1 : TyI := ⟨1, 8, Value.nilFunc, (TypeDesc.func #[] #[] false), false⟩
noncomputable def y2 : TyI := ⟨1, 8, (Value.int .i64 0), (TypeDesc.int .i64), false⟩
noncomputable def y3 : TyI := ⟨1, 8, (Value.int .i64 0), (TypeDesc.int .i64), false⟩
noncomputable def y4 : TyI := ⟨1, 1, (Value.bool false), TypeDesc.bool, false⟩
noncomputable def y5 : TyI := ⟨1, 1, (Value.int .u8 0), (TypeDesc.int .u8), false⟩
noncomputable def y6 : TyI := ⟨1, 1, (Value.int .u8 0), (TypeDesc.int .u8), false⟩
noncomputable def y7 : TyI := ⟨4, 24, (Value.agg #[Value.int .i64 0, Value.int .i64 0, Value.bool false, Value.int .u8 0]), (TypeDesc.struct #[⟨"x", 2, 0, false, "", "runtime", 0⟩, ⟨"y", 3, 1, false, "", "runtime", 8⟩, ⟨"signed", 4, 2, false, "", "runtime", 16⟩, ⟨"code", 6, 3, false, "", "runtime", 17⟩]), false⟩
noncomputable def y8 : TyI := ⟨4, 24, (Value.agg #[Value.int .i64 0, Value.int .i64 0, Value.bool false, Value.int .u8 0]), (TypeDesc.struct #[⟨"x", 2, 0, false, "", "runtime", 0⟩, ⟨"y", 3, 1, false, "", "runtime", 8⟩, ⟨"signed", 4, 2, false, "", "runtime", 16⟩, ⟨"code", 6, 3, false, "", "runtime", 17⟩]), false⟩
noncomputable def y9 : TyI := ⟨1, 16, (Value.string { data := #[] }), TypeDesc.string, false⟩
noncomputable def y10 : TyI := ⟨1, 16, (Value.string { data := #[] }), TypeDesc.string, false⟩
noncomputable def y11 : TyI := ⟨1, 16, (Value.string { data := #[] }), TypeDesc.string, false⟩
noncomputable def y12 : TyI := ⟨1, 8, (Value.int .u64 0), (TypeDesc.int .u64), false⟩
noncomputable def y13 : TyI := ⟨2, 24, (Value.agg #[Value.string { data := #[] }, Value.int .u64 0]), (TypeDesc.struct #[⟨"msg", 9, 0, false, "", "runtime", 0⟩, ⟨"addr", 12, 1, false, "", "runtime", 16⟩]), false⟩
noncomputable def y14 : TyI := ⟨2, 24, (Value.agg #[Value.string { data := #[] }, Value.int .u64 0]), (TypeDesc.struct #[⟨"msg", 9, 0, false, "", "runtime", 0⟩, ⟨"addr", 12, 1, false, "", "runtime", 16⟩]), false⟩
noncomputable def y15 : TyI := ⟨1, 8, (Value.pointer none), (TypeDesc.pointer 384), false⟩
noncomputable def y16 : TyI := ⟨1, 8, (Value.pointer none), (TypeDesc.pointer 387), false⟩
noncomputable def y17 : TyI := ⟨1, 8, (Value.pointer none), (TypeDesc.pointer 395), false⟩
noncomputable def y18 : TyI := ⟨1, 8, (Value.agg #[Value.pointer none]), (TypeDesc.struct #[⟨"typ", 17, 0, false, "", "internal/runtime/maps", 0⟩]), false⟩
noncomputable def y19 : TyI := ⟨1, 8, (Value.agg #[Value.pointer none]), (TypeDesc.struct #[⟨"typ", 17, 0, false, "", "internal/runtime/maps", 0⟩]), false⟩
noncomputable def y20 : TyI := ⟨1, 16, Value.nilIface, (TypeDesc.interface #[]), false⟩
noncomputable def y21 : TyI := ⟨1, 4, (Value.int .i32 0), (TypeDesc.int .i32), false⟩
noncomputable def y22 : TyI := ⟨1, 8, (Value.pointer none), (TypeDesc.pointer 87), false⟩
noncomputable def y23 : TyI := ⟨1, 8, Value.nilFunc, (TypeDesc.func #[] #[22] false), false⟩
noncomputable def y24 : TyI := ⟨1, 8, (Value.pointer none), (TypeDesc.pointer 118), false⟩
noncomputable def y25 : TyI := ⟨1, 8, Value.nilFunc, (TypeDesc.func #[3, 26, 3] #[24] false), false⟩
noncomputable def y26 : TyI := ⟨1, 8, (Value.int .u64 0), (TypeDesc.int .u64), false⟩
noncomputable def y27 : TyI := ⟨1, 8, Value.nilFunc, (TypeDesc.func #[] #[4] false), false⟩
noncomputable def y28 : TyI := ⟨1, 24, (Value.slice none 0 0), (TypeDesc.slice 5), false⟩
noncomputable def y29 : TyI := ⟨1, 8, (Value.int .i64 0), (TypeDesc.int .i64), false⟩
noncomputable def y30 : TyI := ⟨1, 0, (Value.tuple #[Value.int .i64 0, Value.int .i64 0]), (TypeDesc.tuple #[3, 29]), false⟩
noncomputable def y31 : TyI := ⟨1, 8, Value.nilFunc, (TypeDesc.func #[3, 3, 3, 3, 28] #[3, 29] false), false⟩
noncomputable def y32 : TyI := ⟨1, 24, (Value.slice none 0 0), (TypeDesc.slice 38), false⟩
noncomputable def y33 : TyI := ⟨1, 8, Value.nilFunc, (TypeDesc.func #[3, 24] #[32] false), false⟩
noncomputable def y34 : TyI := ⟨1, 24, (Value.slice none 0 0), (TypeDesc.slice 28), false⟩
noncomputable def y35 : TyI := ⟨1, 8, Value.nilFunc, (TypeDesc.func #[3] #[34] false), false⟩
noncomputable def y36 : TyI := ⟨1, 8, Value.nilFunc, (TypeDesc.func #[3, 85] #[32] true), false⟩
noncomputable def y37 : TyI := ⟨4, 40, (Value.agg #[Value.int .i64 0, Value.int .i64 0, Value.int .i64 0, Value.string { data := #[] }]), (TypeDesc.struct #[⟨"Kind", 3, 0, false, "", "", 0⟩, ⟨"ID", 3, 1, false, "", "", 8⟩, ⟨"At", 3, 2, false, "", "", 16⟩, ⟨"Bytes", 9, 3, false, "", "", 24⟩]), false⟩
noncomputable def y38 : TyI := ⟨4, 40, (Value.agg #[Value.int .i64 0, Value.int .i64 0, Value.int .i64 0, Value.string { data := #[] }]), (TypeDesc.struct #[⟨"Kind", 3, 0, false, "", "", 0⟩, ⟨"ID", 3, 1, false, "", "", 8⟩, ⟨"At", 3, 2, false, "", "", 16⟩, ⟨"Bytes", 9, 3, false, "", "", 24⟩]), true⟩
noncomputable def y39 : TyI := ⟨1, 8, Value.nilFunc, (TypeDesc.func #[3] #[3] false), false⟩
noncomputable def y40 : TyI := ⟨1, 8, (Value.pointer none), (TypeDesc.pointer 59), false⟩
noncomputable def y41 : TyI := ⟨1, 8, Value.nilFunc, (TypeDesc.func #[] #[40] false), false⟩
noncomputable def y42 : TyI := ⟨5, 40, (Value.agg #[Value.int .i64 0, Value.int .i64 0, Value.int .i64 0, Value.int .i64 0, Value.int .i64 0]), (TypeDesc.struct #[⟨"ID", 3, 0, false, "", "", 0⟩, ⟨"Deadline", 3, 1, false, "", "", 8⟩, ⟨"Count", 3, 2, false, "", "", 16⟩, ⟨"Index", 3, 3, false, "", "", 24⟩, ⟨"Size", 3, 4, false, "", "", 32⟩]), false⟩
noncomputable def y43 : TyI := ⟨5, 40, (Value.agg #[Value.int .i64 0, Value.int .i64 0, Value.int .i64 0, Value.int .i64 0, Value.int .i64 0]), (TypeDesc.struct #[⟨"ID", 3, 0, false, "", "", 0⟩, ⟨"Deadline", 3, 1, false, "", "", 8⟩, ⟨"Count", 3, 2, false, "", "", 16⟩, ⟨"Index", 3, 3, false, "", "", 24⟩, ⟨"Size", 3, 4, false, "", "", 32⟩]), true⟩
noncomputable def y44 : TyI := ⟨1, 8, Value.nilFunc, (TypeDesc.func #[3, 3, 3] #[43] false), false⟩
noncomputable def y45 : TyI := ⟨1, 8, Value.nilFunc, (TypeDesc.func #[3, 28] #[32] false), false⟩
noncomputable def y46 : TyI := ⟨1, 8, Value.nilFunc, (TypeDesc.func #[43, 34] #[28] true), false⟩
noncomputable def y47 : TyI := ⟨1, 8, Value.nilFunc, (TypeDesc.func #[3] #[32] false), false⟩
noncomputable def y48 : TyI := ⟨1, 8, Value.nilFunc, (TypeDesc.func #[3, 28] #[29] false), false⟩
noncomputable def y49 : TyI := ⟨1, 8, Value.nilFunc, (TypeDesc.func #[3] #[3, 29] false), false⟩
noncomputable def y50 : TyI := ⟨1, 8, Value.nilFunc, (TypeDesc.func #[43] #[28] false), false⟩
noncomputable def y51 : TyI := ⟨1, 8, Value.nilFunc, (TypeDesc.func #[3, 3, 3] #[29] false), false⟩
noncomputable def y52 : TyI := ⟨1, 8, Value.nilFunc, (TypeDesc.func #[] #[3] false), false⟩
noncomputable def y53 : TyI := ⟨1, 24, (Value.slice none 0 0), (TypeDesc.slice 183), false⟩
noncomputable def y54 : TyI := ⟨1, 24, (Value.agg #[Value.slice none 0 0]), (TypeDesc.struct #[⟨"l", 53, 0, false, "", "argosy/spans", 0⟩]), false⟩
noncomputable def y55 : TyI := ⟨1, 24, (Value.agg #[Value.slice none 0 0]), (TypeDesc.struct #[⟨"l", 53, 0, false, "", "argosy/spans", 0⟩]), false⟩
noncomputable def y56 : TyI := ⟨1, 8, (Value.map none), (TypeDesc.map 3 152), false⟩
noncomputable def y57 : TyI := ⟨1, 8, (Value.map none), (TypeDesc.map 3 162), false⟩
noncomputable def y58 : TyI := ⟨3, 40, (Value.agg #[Value.slice none 0 0, Value.map none, Value.map none]), (TypeDesc.struct #[⟨"Set", 55, 0, true, "", "", 0⟩, ⟨"wholes", 56, 1, false, "", "argosy/inbox", 24⟩, ⟨"streams", 57, 2, false, "", "argosy/inbox", 32⟩]), false⟩
noncomputable def y59 : TyI := ⟨3, 40, (Value.agg #[Value.slice none 0 0, Value.map none, Value.map none]), (TypeDesc.struct #[⟨"Set", 55, 0, true, "", "", 0⟩, ⟨"wholes", 56, 1, false, "", "argosy/inbox", 24⟩, ⟨"streams", 57, 2, false, "", "argosy/inbox", 32⟩]), false⟩
noncomputable def y60 : TyI := ⟨1, 8, (Value.pointer none), (TypeDesc.pointer 65), false⟩
noncomputable def y61 : TyI := ⟨1, 8, Value.nilFunc, (TypeDesc.func #[3, 26, 3] #[60] false), false⟩
noncomputable def y62 : TyI := ⟨1, 0, (Value.tuple #[Value.slice none 0 0, Value.slice none 0 0]), (TypeDesc.tuple #[34, 32]), false⟩
noncomputable def y63 : TyI := ⟨1, 8, Value.nilFunc, (TypeDesc.func #[3] #[34, 32] false), false⟩
noncomputable def y64 : TyI := ⟨3, 24, (Value.agg #[Value.pointer none, Value.pointer none, Value.pointer none]), (TypeDesc.struct #[⟨"Conn", 24, 0, true, "", "", 0⟩, ⟨"Out", 22, 1, false, "", "", 8⟩, ⟨"In", 40, 2, false, "", "", 16⟩]), false⟩
noncomputable def y65 : TyI := ⟨3, 24, (Value.agg #[Value.pointer none, Value.pointer none, Value.pointer none]), (TypeDesc.struct #[⟨"Conn", 24, 0, true, "", "", 0⟩, ⟨"Out", 22, 1, false, "", "", 8⟩, ⟨"In", 40, 2, false, "", "", 16⟩]), false⟩
noncomputable def y66 : TyI := ⟨1, 8, Value.nilFunc, (TypeDesc.func #[3] #[29] false), false⟩
noncomputable def y67 : TyI := ⟨1, 8, (Value.pointer none), (TypeDesc.pointer 188), false⟩
noncomputable def y68 : TyI := ⟨1, 8, Value.nilFunc, (TypeDesc.func #[26] #[67] false), false⟩
noncomputable def y69 : TyI := ⟨2, 48, (Value.agg #[Value.slice none 0 0, Value.slice none 0 0]), (TypeDesc.array 2 32), false⟩
noncomputable def y70 : TyI := ⟨6, 88, (Value.agg #[Value.int .i64 0, Value.int .i64 0, Value.int .i64 0, Value.string { data := #[] }, Value.slice none 0 0, Value.slice none 0 0]), (TypeDesc.struct #[⟨"Why", 29, 0, false, "", "", 0⟩, ⟨"N", 3, 1, false, "", "", 8⟩, ⟨"Code", 3, 2, false, "", "", 16⟩, ⟨"Bytes", 9, 3, false, "", "", 24⟩, ⟨"Events", 69, 4, false, "", "", 40⟩]), false⟩
noncomputable def y71 : TyI := ⟨6, 88, (Value.agg #[Value.int .i64 0, Value.int .i64 0, Value.int .i64 0, Value.string { data := #[] }, Value.slice none 0 0, Value.slice none 0 0]), (TypeDesc.struct #[⟨"Why", 29, 0, false, "", "", 0⟩, ⟨"N", 3, 1, false, "", "", 8⟩, ⟨"Code", 3, 2, false, "", "", 16⟩, ⟨"Bytes", 9, 3, false, "", "", 24⟩, ⟨"Events", 69, 4, false, "", "", 40⟩]), false⟩
noncomputable def y72 : TyI := ⟨1, 8, Value.nilFunc, (TypeDesc.func #[74] #[71] false), false⟩
noncomputable def y73 : TyI := ⟨7, 64, (Value.agg #[Value.int .i64 0, Value.int .i64 0, Value.int .i64 0, Value.int .i64 0, Value.int .i64 0, Value.int .i64 0, Value.string { data := #[] }]), (TypeDesc.struct #[⟨"Kind", 3, 0, false, "", "", 0⟩, ⟨"Who", 3, 1, false, "", "", 8⟩, ⟨"A", 3, 2, false, "", "", 16⟩, ⟨"B", 3, 3, false, "", "", 24⟩, ⟨"C", 3, 4, false, "", "", 32⟩, ⟨"D", 3, 5, false, "", "", 40⟩, ⟨"Bytes", 9, 6, false, "", "", 48⟩]), false⟩
noncomputable def y74 : TyI := ⟨7, 64, (Value.agg #[Value.int .i64 0, Value.int .i64 0, Value.int .i64 0, Value.int .i64 0, Value.int .i64 0, Value.int .i64 0, Value.string { data := #[] }]), (TypeDesc.struct #[⟨"Kind", 3, 0, false, "", "", 0⟩, ⟨"Who", 3, 1, false, "", "", 8⟩, ⟨"A", 3, 2, false, "", "", 16⟩, ⟨"B", 3, 3, false, "", "", 24⟩, ⟨"C", 3, 4, false, "", "", 32⟩, ⟨"D", 3, 5, false, "", "", 40⟩, ⟨"Bytes", 9, 6, false, "", "", 48⟩]), false⟩
noncomputable def y75 : TyI := ⟨1, 8, Value.nilFunc, (TypeDesc.func #[3, 3, 3, 3, 3, 9] #[71] false), false⟩
noncomputable def y76 : TyI := ⟨1, 24, (Value.slice none 0 0), (TypeDesc.slice 192), false⟩
noncomputable def y77 : TyI := ⟨1, 8, Value.nilFunc, (TypeDesc.func #[] #[76] false), false⟩
noncomputable def y78 : TyI := ⟨1, 8, Value.nilFunc, (TypeDesc.func #[3] #[60] false), false⟩
noncomputable def y79 : TyI := ⟨1, 0, (Value.tuple #[Value.int .i64 0, Value.bool false]), (TypeDesc.tuple #[3, 4]), false⟩
noncomputable def y80 : TyI := ⟨1, 8, Value.nilFunc, (TypeDesc.func #[] #[3, 4] false), false⟩
noncomputable def y81 : TyI := ⟨1, 8, (Value.map none), (TypeDesc.map 3 3), false⟩
noncomputable def y82 : TyI := ⟨1, 8, (Value.agg #[Value.map none]), (TypeDesc.struct #[⟨"at", 81, 0, false, "", "argosy/order", 0⟩]), false⟩
noncomputable def y83 : TyI := ⟨1, 8, (Value.agg #[Value.map none]), (TypeDesc.struct #[⟨"at", 81, 0, false, "", "argosy/order", 0⟩]), false⟩
noncomputable def y84 : TyI := ⟨1, 24, (Value.slice none 0 0), (TypeDesc.slice 120), false⟩
noncomputable def y85 : TyI := ⟨1, 24, (Value.slice none 0 0), (TypeDesc.slice 3), false⟩
noncomputable def y86 : TyI := ⟨3, 56, (Value.agg #[Value.map none, Value.slice none 0 0, Value.slice none 0 0]), (TypeDesc.struct #[⟨"Order", 83, 0, true, "", "", 0⟩, ⟨"l", 84, 1, false, "", "argosy/outbox", 8⟩, ⟨"needless", 85, 2, false, "", "argosy/outbox", 32⟩]), false⟩
noncomputable def y87 : TyI := ⟨3, 56, (Value.agg #[Value.map none, Value.slice none 0 0, Value.slice none 0 0]), (TypeDesc.struct #[⟨"Order", 83, 0, true, "", "", 0⟩, ⟨"l", 84, 1, false, "", "argosy/outbox", 8⟩, ⟨"needless", 85, 2, false, "", "argosy/outbox", 32⟩]), false⟩
noncomputable def y88 : TyI := ⟨4, 32, (Value.agg #[Value.int .i64 0, Value.int .i64 0, Value.int .i64 0, Value.bool false]), (TypeDesc.struct #[⟨"Smooth", 3, 0, false, "", "", 0⟩, ⟨"Var", 3, 1, false, "", "", 8⟩, ⟨"Back", 3, 2, false, "", "", 16⟩, ⟨"Some", 4, 3, false, "", "", 24⟩]), false⟩
noncomputable def y89 : TyI := ⟨4, 32, (Value.agg #[Value.int .i64 0, Value.int .i64 0, Value.int .i64 0, Value.bool false]), (TypeDesc.struct #[⟨"Smooth", 3, 0, false, "", "", 0⟩, ⟨"Var", 3, 1, false, "", "", 8⟩, ⟨"Back", 3, 2, false, "", "", 16⟩, ⟨"Some", 4, 3, false, "", "", 24⟩]), false⟩
noncomputable def y90 : TyI := ⟨1, 24, (Value.slice none 0 0), (TypeDesc.slice 222), false⟩
noncomputable def y91 : TyI := ⟨3, 40, (Value.agg #[Value.slice none 0 0, Value.int .i64 0, Value.int .i64 0]), (TypeDesc.struct #[⟨"out", 90, 0, false, "", "argosy/ledger", 0⟩, ⟨"next", 3, 1, false, "", "argosy/ledger", 24⟩, ⟨"top", 3, 2, false, "", "argosy/ledger", 32⟩]), false⟩
noncomputable def y92 : TyI := ⟨3, 40, (Value.agg #[Value.slice none 0 0, Value.int .i64 0, Value.int .i64 0]), (TypeDesc.struct #[⟨"out", 90, 0, false, "", "argosy/ledger", 0⟩, ⟨"next", 3, 1, false, "", "argosy/ledger", 24⟩, ⟨"top", 3, 2, false, "", "argosy/ledger", 32⟩]), false⟩
noncomputable def y93 : TyI := ⟨4, 32, (Value.agg #[Value.int .i64 0, Value.int .i64 0, Value.int .i64 0, Value.int .i64 0]), (TypeDesc.struct #[⟨"Size", 3, 0, false, "", "", 0⟩, ⟨"Slow", 3, 1, false, "", "", 8⟩, ⟨"Part", 3, 2, false, "", "", 16⟩, ⟨"Till", 3, 3, false, "", "", 24⟩]), false⟩
noncomputable def y94 : TyI := ⟨4, 32, (Value.agg #[Value.int .i64 0, Value.int .i64 0, Value.int .i64 0, Value.int .i64 0]), (TypeDesc.struct #[⟨"Size", 3, 0, false, "", "", 0⟩, ⟨"Slow", 3, 1, false, "", "", 8⟩, ⟨"Part", 3, 2, false, "", "", 16⟩, ⟨"Till", 3, 3, false, "", "", 24⟩]), false⟩
noncomputable def y95 : TyI := ⟨11, 104, (Value.agg #[Value.int .i64 0, Value.int .i64 0, Value.int .i64 0, Value.bool false, Value.slice none 0 0, Value.int .i64 0, Value.int .i64 0, Value.int .i64 0, Value.int .i64 0, Value.int .i64 0, Value.int .i64 0]), (TypeDesc.struct #[⟨"Rtt", 89, 0, true, "", "", 0⟩, ⟨"Ledger", 92, 4, true, "", "", 32⟩, ⟨"Window", 94, 7, true, "", "", 72⟩]), false⟩
noncomputable def y96 : TyI := ⟨11, 104, (Value.agg #[Value.int .i64 0, Value.int .i64 0, Value.int .i64 0, Value.bool false, Value.slice none 0 0, Value.int .i64 0, Value.int .i64 0, Value.int .i64 0, Value.int .i64 0, Value.int .i64 0, Value.int .i64 0]), (TypeDesc.struct #[⟨"Rtt", 89, 0, true, "", "", 0⟩, ⟨"Ledger", 92, 4, true, "", "", 32⟩, ⟨"Window", 94, 7, true, "", "", 72⟩]), false⟩
noncomputable def y97 : TyI := ⟨1, 8, (Value.pointer none), (TypeDesc.pointer 96), false⟩
noncomputable def y98 : TyI := ⟨1, 8, Value.nilFunc, (TypeDesc.func #[] #[97] false), false⟩
noncomputable def y99 : TyI := ⟨1, 8, (Value.pointer none), (TypeDesc.pointer 202), false⟩
noncomputable def y100 : TyI := ⟨1, 8, Value.nilFunc, (TypeDesc.func #[] #[99] false), false⟩
noncomputable def y101 : TyI := ⟨1, 8, (Value.pointer none), (TypeDesc.pointer 208), false⟩
noncomputable def y102 : TyI := ⟨1, 8, Value.nilFunc, (TypeDesc.func #[3] #[101] false), false⟩
noncomputable def y103 : TyI := ⟨1, 8, Value.nilFunc, (TypeDesc.func #[26, 26] #[26] false), false⟩
noncomputable def y104 : TyI := ⟨2, 16, (Value.agg #[Value.int .i64 0, Value.int .i64 0]), (TypeDesc.struct #[⟨"Limit", 3, 0, false, "", "", 0⟩, ⟨"Used", 3, 1, false, "", "", 8⟩]), false⟩
noncomputable def y105 : TyI := ⟨2, 16, (Value.agg #[Value.int .i64 0, Value.int .i64 0]), (TypeDesc.struct #[⟨"Limit", 3, 0, false, "", "", 0⟩, ⟨"Used", 3, 1, false, "", "", 8⟩]), false⟩
noncomputable def y106 : TyI := ⟨3, 24, (Value.agg #[Value.int .i64 0, Value.int .i64 0, Value.int .i64 0]), (TypeDesc.struct #[⟨"Room", 3, 0, false, "", "", 0⟩, ⟨"Read", 3, 1, false, "", "", 8⟩, ⟨"Told", 3, 2, false, "", "", 16⟩]), false⟩
noncomputable def y107 : TyI := ⟨3, 24, (Value.agg #[Value.int .i64 0, Value.int .i64 0, Value.int .i64 0]), (TypeDesc.struct #[⟨"Room", 3, 0, false, "", "", 0⟩, ⟨"Read", 3, 1, false, "", "", 8⟩, ⟨"Told", 3, 2, false, "", "", 16⟩]), false⟩
noncomputable def y108 : TyI := ⟨1, 8, Value.nilFunc, (TypeDesc.func #[3] #[107] false), false⟩
noncomputable def y109 : TyI := ⟨1, 8, (Value.map none), (TypeDesc.map 3 4), false⟩
noncomputable def y110 : TyI := ⟨2, 2, (Value.agg #[Value.bool false, Value.bool false]), (TypeDesc.array 2 4), false⟩
noncomputable def y111 : TyI := ⟨4, 16, (Value.agg #[Value.bool false, Value.bool false, Value.bool false, Value.map none]), (TypeDesc.struct #[⟨"data", 4, 0, false, "", "argosy/conn", 0⟩, ⟨"counts", 110, 1, false, "", "argosy/conn", 1⟩, ⟨"streams", 109, 3, false, "", "argosy/conn", 8⟩]), false⟩
noncomputable def y112 : TyI := ⟨4, 16, (Value.agg #[Value.bool false, Value.bool false, Value.bool false, Value.map none]), (TypeDesc.struct #[⟨"data", 4, 0, false, "", "argosy/conn", 0⟩, ⟨"counts", 110, 1, false, "", "argosy/conn", 1⟩, ⟨"streams", 109, 3, false, "", "argosy/conn", 8⟩]), false⟩
noncomputable def y113 : TyI := ⟨1, 24, (Value.slice none 0 0), (TypeDesc.slice 138), false⟩
noncomputable def y114 : TyI := ⟨1, 24, (Value.slice none 0 0), (TypeDesc.slice 278), false⟩
noncomputable def y115 : TyI := ⟨1, 24, (Value.agg #[Value.slice none 0 0]), (TypeDesc.struct #[⟨"l", 114, 0, false, "", "argosy/queue", 0⟩]), false⟩
noncomputable def y116 : TyI := ⟨1, 24, (Value.agg #[Value.slice none 0 0]), (TypeDesc.struct #[⟨"l", 114, 0, false, "", "argosy/queue", 0⟩]), false⟩
noncomputable def y117 : TyI := ⟨36, 376, (Value.agg #[Value.int .i64 0, Value.int .i64 0, Value.int .i64 0, Value.bool false, Value.slice none 0 0, Value.int .i64 0, Value.int .i64 0, Value.int .i64 0, Value.int .i64 0, Value.int .i64 0, Value.int .i64 0, Value.pointer none, Value.pointer none, Value.int .u64 0, Value.int .u64 0, Value.int .i64 0, Value.int .i64 0, Value.int .i64 0, Value.int .i64 0, Value.int .i64 0, Value.int .i64 0, Value.slice none 0 0, Value.slice none 0 0, Value.slice none 0 0, Value.slice none 0 0, Value.slice none 0 0, Value.slice none 0 0, Value.bool false, Value.bool false, Value.bool false, Value.map none, Value.map none, Value.int .i64 0, Value.bool false, Value.bool false, Value.int .i64 0]), (TypeDesc.struct #[⟨"Path", 96, 0, true, "", "", 0⟩, ⟨"seen", 99, 11, false, "", "argosy/conn", 104⟩, ⟨"t", 101, 12, false, "", "argosy/conn", 112⟩, ⟨"own", 26, 13, false, "", "argosy/conn", 120⟩, ⟨"other", 26, 14, false, "", "argosy/conn", 128⟩, ⟨"credit", 105, 15, false, "", "argosy/conn", 136⟩, ⟨"grant", 107, 17, false, "", "argosy/conn", 152⟩, ⟨"fresh", 3, 20, false, "", "argosy/conn", 176⟩, ⟨"waits", 113, 21, false, "", "argosy/conn", 184⟩, ⟨"datagrams", 116, 22, false, "", "argosy/conn", 208⟩, ⟨"data", 34, 23, false, "", "argosy/conn", 232⟩, ⟨"controls", 113, 24, false, "", "argosy/conn", 256⟩, ⟨"came", 85, 25, false, "", "argosy/conn", 280⟩, ⟨"lost", 85, 26, false, "", "argosy/conn", 304⟩, ⟨"again", 112, 27, false, "", "argosy/conn", 328⟩, ⟨"told", 109, 31, false, "", "argosy/conn", 344⟩, ⟨"heard", 3, 32, false, "", "argosy/conn", 352⟩, ⟨"closing", 4, 33, false, "", "argosy/conn", 360⟩, ⟨"over", 4, 34, false, "", "argosy/conn", 361⟩, ⟨"code", 3, 35, false, "", "argosy/conn", 368⟩]), false⟩
noncomputable def y118 : TyI := ⟨36, 376, (Value.agg #[Value.int .i64 0, Value.int .i64 0, Value.int .i64 0, Value.bool false, Value.slice none 0 0, Value.int .i64 0, Value.int .i64 0, Value.int .i64 0, Value.int .i64 0, Value.int .i64 0, Value.int .i64 0, Value.pointer none, Value.pointer none, Value.int .u64 0, Value.int .u64 0, Value.int .i64 0, Value.int .i64 0, Value.int .i64 0, Value.int .i64 0, Value.int .i64 0, Value.int .i64 0, Value.slice none 0 0, Value.slice none 0 0, Value.slice none 0 0, Value.slice none 0 0, Value.slice none 0 0, Value.slice none 0 0, Value.bool false, Value.bool false, Value.bool false, Value.map none, Value.map none, Value.int .i64 0, Value.bool false, Value.bool false, Value.int .i64 0]), (TypeDesc.struct #[⟨"Path", 96, 0, true, "", "", 0⟩, ⟨"seen", 99, 11, false, "", "argosy/conn", 104⟩, ⟨"t", 101, 12, false, "", "argosy/conn", 112⟩, ⟨"own", 26, 13, false, "", "argosy/conn", 120⟩, ⟨"other", 26, 14, false, "", "argosy/conn", 128⟩, ⟨"credit", 105, 15, false, "", "argosy/conn", 136⟩, ⟨"grant", 107, 17, false, "", "argosy/conn", 152⟩, ⟨"fresh", 3, 20, false, "", "argosy/conn", 176⟩, ⟨"waits", 113, 21, false, "", "argosy/conn", 184⟩, ⟨"datagrams", 116, 22, false, "", "argosy/conn", 208⟩, ⟨"data", 34, 23, false, "", "argosy/conn", 232⟩, ⟨"controls", 113, 24, false, "", "argosy/conn", 256⟩, ⟨"came", 85, 25, false, "", "argosy/conn", 280⟩, ⟨"lost", 85, 26, false, "", "argosy/conn", 304⟩, ⟨"again", 112, 27, false, "", "argosy/conn", 328⟩, ⟨"told", 109, 31, false, "", "argosy/conn", 344⟩, ⟨"heard", 3, 32, false, "", "argosy/conn", 352⟩, ⟨"closing", 4, 33, false, "", "argosy/conn", 360⟩, ⟨"over", 4, 34, false, "", "argosy/conn", 361⟩, ⟨"code", 3, 35, false, "", "argosy/conn", 368⟩]), false⟩
noncomputable def y119 : TyI := ⟨1, 8, Value.nilFunc, (TypeDesc.func #[] #[85] false), false⟩
noncomputable def y120 : TyI := ⟨1, 8, (Value.pointer none), (TypeDesc.pointer 124), false⟩
noncomputable def y121 : TyI := ⟨1, 8, Value.nilFunc, (TypeDesc.func #[28] #[28] false), false⟩
noncomputable def y122 : TyI := ⟨8, 8, (Value.agg #[Value.bool false, Value.bool false, Value.bool false, Value.bool false, Value.bool false, Value.bool false, Value.bool false, Value.bool false]), (TypeDesc.array 8 4), false⟩
noncomputable def y123 : TyI := ⟨18, 104, (Value.agg #[Value.int .i64 0, Value.int .i64 0, Value.int .i64 0, Value.int .i64 0, Value.int .i64 0, Value.slice none 0 0, Value.int .i64 0, Value.int .i64 0, Value.int .i64 0, Value.bool false, Value.bool false, Value.bool false, Value.bool false, Value.bool false, Value.bool false, Value.bool false, Value.bool false, Value.int .i64 0]), (TypeDesc.struct #[⟨"h", 43, 0, false, "", "argosy/outbox", 0⟩, ⟨"b", 28, 5, false, "", "argosy/outbox", 40⟩, ⟨"way", 3, 6, false, "", "argosy/outbox", 64⟩, ⟨"budget", 3, 7, false, "", "argosy/outbox", 72⟩, ⟨"state", 3, 8, false, "", "argosy/outbox", 80⟩, ⟨"waits", 122, 9, false, "", "argosy/outbox", 88⟩, ⟨"stream", 3, 17, false, "", "argosy/outbox", 96⟩]), false⟩
noncomputable def y124 : TyI := ⟨18, 104, (Value.agg #[Value.int .i64 0, Value.int .i64 0, Value.int .i64 0, Value.int .i64 0, Value.int .i64 0, Value.slice none 0 0, Value.int .i64 0, Value.int .i64 0, Value.int .i64 0, Value.bool false, Value.bool false, Value.bool false, Value.bool false, Value.bool false, Value.bool false, Value.bool false, Value.bool false, Value.int .i64 0]), (TypeDesc.struct #[⟨"h", 43, 0, false, "", "argosy/outbox", 0⟩, ⟨"b", 28, 5, false, "", "argosy/outbox", 40⟩, ⟨"way", 3, 6, false, "", "argosy/outbox", 64⟩, ⟨"budget", 3, 7, false, "", "argosy/outbox", 72⟩, ⟨"state", 3, 8, false, "", "argosy/outbox", 80⟩, ⟨"waits", 122, 9, false, "", "argosy/outbox", 88⟩, ⟨"stream", 3, 17, false, "", "argosy/outbox", 96⟩]), false⟩
noncomputable def y125 : TyI := ⟨1, 8, Value.nilFunc, (TypeDesc.func #[3, 3] #[] false), false⟩
noncomputable def y126 : TyI := ⟨1, 8, Value.nilFunc, (TypeDesc.func #[85] #[3] true), false⟩
noncomputable def y127 : TyI := ⟨1, 0, (Value.tuple #[Value.slice none 0 0, Value.slice none 0 0]), (TypeDesc.tuple #[85, 85]), false⟩
noncomputable def y128 : TyI := ⟨1, 8, Value.nilFunc, (TypeDesc.func #[] #[85, 85] false), false⟩
noncomputable def y129 : TyI := ⟨1, 8, Value.nilFunc, (TypeDesc.func #[3, 3, 24] #[32] false), false⟩
noncomputable def y130 : TyI := ⟨1, 8, Value.nilFunc, (TypeDesc.func #[3] #[85] false), false⟩
noncomputable def y131 : TyI := ⟨1, 8, Value.nilFunc, (TypeDesc.func #[3, 3, 24] #[38] false), false⟩
noncomputable def y132 : TyI := ⟨1, 8, Value.nilFunc, (TypeDesc.func #[24] #[] false), false⟩
noncomputable def y133 : TyI := ⟨1, 8, Value.nilFunc, (TypeDesc.func #[24] #[4] false), false⟩
noncomputable def y134 : TyI := ⟨1, 8, Value.nilFunc, (TypeDesc.func #[32] #[32] false), false⟩
noncomputable def y135 : TyI := ⟨1, 8, Value.nilFunc, (TypeDesc.func #[3] #[] false), false⟩
noncomputable def y136 : TyI := ⟨1, 8, Value.nilFunc, (TypeDesc.func #[3] #[113] false), false⟩
noncomputable def y137 : TyI := ⟨9, 104, (Value.agg #[Value.int .i64 0, Value.int .i64 0, Value.int .i64 0, Value.int .i64 0, Value.int .i64 0, Value.int .i64 0, Value.bool false, Value.slice none 0 0, Value.slice none 0 0]), (TypeDesc.struct #[⟨"Kind", 3, 0, false, "", "", 0⟩, ⟨"ID", 3, 1, false, "", "", 8⟩, ⟨"Off", 3, 2, false, "", "", 16⟩, ⟨"A", 3, 3, false, "", "", 24⟩, ⟨"B", 3, 4, false, "", "", 32⟩, ⟨"Note", 3, 5, false, "", "", 40⟩, ⟨"Fin", 4, 6, false, "", "", 48⟩, ⟨"Data", 28, 7, false, "", "", 56⟩, ⟨"Spans", 53, 8, false, "", "", 80⟩]), false⟩
noncomputable def y138 : TyI := ⟨9, 104, (Value.agg #[Value.int .i64 0, Value.int .i64 0, Value.int .i64 0, Value.int .i64 0, Value.int .i64 0, Value.int .i64 0, Value.bool false, Value.slice none 0 0, Value.slice none 0 0]), (TypeDesc.struct #[⟨"Kind", 3, 0, false, "", "", 0⟩, ⟨"ID", 3, 1, false, "", "", 8⟩, ⟨"Off", 3, 2, false, "", "", 16⟩, ⟨"A", 3, 3, false, "", "", 24⟩, ⟨"B", 3, 4, false, "", "", 32⟩, ⟨"Note", 3, 5, false, "", "", 40⟩, ⟨"Fin", 4, 6, false, "", "", 48⟩, ⟨"Data", 28, 7, false, "", "", 56⟩, ⟨"Spans", 53, 8, false, "", "", 80⟩]), false⟩
noncomputable def y139 : TyI := ⟨1, 8, Value.nilFunc, (TypeDesc.func #[138] #[] false), false⟩
noncomputable def y140 : TyI := ⟨1, 0, (Value.tuple #[Value.slice none 0 0, Value.bool false]), (TypeDesc.tuple #[113, 4]), false⟩
noncomputable def y141 : TyI := ⟨1, 8, Value.nilFunc, (TypeDesc.func #[3] #[113, 4] false), false⟩
noncomputable def y142 : TyI := ⟨1, 8, Value.nilFunc, (TypeDesc.func #[4, 4] #[113] false), false⟩
noncomputable def y143 : TyI := ⟨1, 8, Value.nilFunc, (TypeDesc.func #[3, 113] #[28] false), false⟩
noncomputable def y144 : TyI := ⟨1, 0, (Value.tuple #[Value.pointer none, Value.bool false]), (TypeDesc.tuple #[120, 4]), false⟩
noncomputable def y145 : TyI := ⟨1, 8, Value.nilFunc, (TypeDesc.func #[3] #[120, 4] false), false⟩
noncomputable def y146 : TyI := ⟨1, 8, Value.nilFunc, (TypeDesc.func #[3, 3, 3] #[38] false), false⟩
noncomputable def y147 : TyI := ⟨1, 8, Value.nilFunc, (TypeDesc.func #[3] #[4] false), false⟩
noncomputable def y148 : TyI := ⟨1, 8, Value.nilFunc, (TypeDesc.func #[43] #[4] false), false⟩
noncomputable def y149 : TyI := ⟨1, 0, (Value.tuple #[Value.agg #[Value.int .i64 0, Value.int .i64 0, Value.int .i64 0, Value.int .i64 0, Value.int .i64 0], Value.slice none 0 0, Value.int .i64 0]), (TypeDesc.tuple #[43, 28, 29]), false⟩
noncomputable def y150 : TyI := ⟨1, 8, Value.nilFunc, (TypeDesc.func #[28] #[43, 28, 29] false), false⟩
noncomputable def y151 : TyI := ⟨1, 8, Value.nilFunc, (TypeDesc.func #[3, 3, 3, 28] #[38] false), false⟩
noncomputable def y152 : TyI := ⟨1, 8, (Value.pointer none), (TypeDesc.pointer 242), false⟩
noncomputable def y153 : TyI := ⟨1, 0, (Value.tuple #[Value.pointer none, Value.bool false]), (TypeDesc.tuple #[152, 4]), false⟩
noncomputable def y154 : TyI := ⟨1, 8, Value.nilFunc, (TypeDesc.func #[43] #[152] false), false⟩
noncomputable def y155 : TyI := ⟨1, 8, Value.nilFunc, (TypeDesc.func #[43, 28] #[4] false), false⟩
noncomputable def y156 : TyI := ⟨1, 8, Value.nilFunc, (TypeDesc.func #[] #[28] false), false⟩
noncomputable def y157 : TyI := ⟨1, 8, Value.nilFunc, (TypeDesc.func #[34] #[28] true), false⟩
noncomputable def y158 : TyI := ⟨1, 0, (Value.tuple #[Value.int .i64 0, Value.int .i64 0]), (TypeDesc.tuple #[3, 3]), false⟩
noncomputable def y159 : TyI := ⟨1, 8, Value.nilFunc, (TypeDesc.func #[43] #[3, 3] false), false⟩
noncomputable def y160 : TyI := ⟨1, 8, Value.nilFunc, (TypeDesc.func #[28, 85] #[28] true), false⟩
noncomputable def y161 : TyI := ⟨1, 8, Value.nilFunc, (TypeDesc.func #[] #[43] false), false⟩
noncomputable def y162 : TyI := ⟨1, 8, (Value.pointer none), (TypeDesc.pointer 164), false⟩
noncomputable def y163 : TyI := ⟨10, 80, (Value.agg #[Value.slice none 0 0, Value.int .i64 0, Value.int .i64 0, Value.int .i64 0, Value.int .i64 0, Value.int .i64 0, Value.int .i64 0, Value.bool false, Value.bool false, Value.bool false]), (TypeDesc.struct #[⟨"b", 28, 0, false, "", "argosy/inbox", 0⟩, ⟨"h", 43, 1, false, "", "argosy/inbox", 24⟩, ⟨"used", 3, 6, false, "", "argosy/inbox", 64⟩, ⟨"read", 4, 7, false, "", "argosy/inbox", 72⟩, ⟨"left", 4, 8, false, "", "argosy/inbox", 73⟩, ⟨"over", 4, 9, false, "", "argosy/inbox", 74⟩]), false⟩
noncomputable def y164 : TyI := ⟨10, 80, (Value.agg #[Value.slice none 0 0, Value.int .i64 0, Value.int .i64 0, Value.int .i64 0, Value.int .i64 0, Value.int .i64 0, Value.int .i64 0, Value.bool false, Value.bool false, Value.bool false]), (TypeDesc.struct #[⟨"b", 28, 0, false, "", "argosy/inbox", 0⟩, ⟨"h", 43, 1, false, "", "argosy/inbox", 24⟩, ⟨"used", 3, 6, false, "", "argosy/inbox", 64⟩, ⟨"read", 4, 7, false, "", "argosy/inbox", 72⟩, ⟨"left", 4, 8, false, "", "argosy/inbox", 73⟩, ⟨"over", 4, 9, false, "", "argosy/inbox", 74⟩]), false⟩
noncomputable def y165 : TyI := ⟨1, 8, Value.nilFunc, (TypeDesc.func #[3] #[3, 4] false), false⟩
noncomputable def y166 : TyI := ⟨1, 8, Value.nilFunc, (TypeDesc.func #[3, 169] #[29] false), false⟩
noncomputable def y167 : TyI := ⟨1, 8, (Value.pointer none), (TypeDesc.pointer 248), false⟩
noncomputable def y168 : TyI := ⟨1, 8, Value.nilFunc, (TypeDesc.func #[28] #[29] false), false⟩
noncomputable def y169 : TyI := ⟨1, 8, Value.nilFunc, (TypeDesc.func #[167] #[29] false), false⟩
noncomputable def y170 : TyI := ⟨1, 0, (Value.tuple #[Value.int .i64 0, Value.slice none 0 0, Value.int .i64 0]), (TypeDesc.tuple #[3, 113, 29]), false⟩
noncomputable def y171 : TyI := ⟨1, 8, Value.nilFunc, (TypeDesc.func #[26, 3, 28] #[3, 113, 29] false), false⟩
noncomputable def y172 : TyI := ⟨1, 8, Value.nilFunc, (TypeDesc.func #[29] #[29] false), false⟩
noncomputable def y173 : TyI := ⟨1, 8, Value.nilFunc, (TypeDesc.func #[3, 4] #[4] false), false⟩
noncomputable def y174 : TyI := ⟨1, 8, Value.nilFunc, (TypeDesc.func #[113] #[4] true), false⟩
noncomputable def y175 : TyI := ⟨1, 8, Value.nilFunc, (TypeDesc.func #[3, 138] #[29] false), false⟩
noncomputable def y176 : TyI := ⟨1, 8, Value.nilFunc, (TypeDesc.func #[85] #[85] false), false⟩
noncomputable def y177 : TyI := ⟨1, 0, (Value.tuple #[Value.pointer none, Value.bool false]), (TypeDesc.tuple #[162, 4]), false⟩
noncomputable def y178 : TyI := ⟨1, 0, (Value.tuple #[Value.slice none 0 0, Value.int .i64 0, Value.int .i64 0, Value.int .i64 0]), (TypeDesc.tuple #[28, 3, 3, 29]), false⟩
noncomputable def y179 : TyI := ⟨1, 8, Value.nilFunc, (TypeDesc.func #[3, 3] #[28, 3, 3, 29] false), false⟩
noncomputable def y180 : TyI := ⟨1, 8, Value.nilFunc, (TypeDesc.func #[3, 162, 3] #[32] false), false⟩
noncomputable def y181 : TyI := ⟨1, 8, Value.nilFunc, (TypeDesc.func #[3, 3] #[29] false), false⟩
noncomputable def y182 : TyI := ⟨1, 8, (Value.pointer none), (TypeDesc.pointer 55), false⟩
noncomputable def y183 : TyI := ⟨2, 16, (Value.agg #[Value.int .i64 0, Value.int .i64 0]), (TypeDesc.array 2 3), true⟩
noncomputable def y184 : TyI := ⟨2, 16, (Value.agg #[Value.pointer none, Value.pointer none]), (TypeDesc.array 2 60), false⟩
noncomputable def y185 : TyI := ⟨1, 24, (Value.agg #[Value.slice none 0 0]), (TypeDesc.struct #[⟨"l", 76, 0, false, "", "argosy/net", 0⟩]), false⟩
noncomputable def y186 : TyI := ⟨1, 24, (Value.agg #[Value.slice none 0 0]), (TypeDesc.struct #[⟨"l", 76, 0, false, "", "argosy/net", 0⟩]), false⟩
noncomputable def y187 : TyI := ⟨4, 48, (Value.agg #[Value.pointer none, Value.pointer none, Value.slice none 0 0, Value.int .i64 0]), (TypeDesc.struct #[⟨"l", 184, 0, false, "", "argosy/world", 0⟩, ⟨"net", 186, 2, false, "", "argosy/world", 16⟩, ⟨"now", 3, 3, false, "", "argosy/world", 40⟩]), false⟩
noncomputable def y188 : TyI := ⟨4, 48, (Value.agg #[Value.pointer none, Value.pointer none, Value.slice none 0 0, Value.int .i64 0]), (TypeDesc.struct #[⟨"l", 184, 0, false, "", "argosy/world", 0⟩, ⟨"net", 186, 2, false, "", "argosy/world", 16⟩, ⟨"now", 3, 3, false, "", "argosy/world", 40⟩]), false⟩
noncomputable def y189 : TyI := ⟨1, 8, Value.nilFunc, (TypeDesc.func #[] #[71] false), false⟩
noncomputable def y190 : TyI := ⟨1, 8, Value.nilFunc, (TypeDesc.func #[3] #[71] false), false⟩
noncomputable def y191 : TyI := ⟨2, 24, (Value.agg #[Value.int .i64 0, Value.string { data := #[] }]), (TypeDesc.struct #[⟨"To", 3, 0, false, "", "", 0⟩, ⟨"Bytes", 9, 1, false, "", "", 8⟩]), false⟩
noncomputable def y192 : TyI := ⟨2, 24, (Value.agg #[Value.int .i64 0, Value.string { data := #[] }]), (TypeDesc.struct #[⟨"To", 3, 0, false, "", "", 0⟩, ⟨"Bytes", 9, 1, false, "", "", 8⟩]), false⟩
noncomputable def y193 : TyI := ⟨1, 0, (Value.tuple #[Value.agg #[Value.int .i64 0, Value.string { data := #[] }], Value.bool false]), (TypeDesc.tuple #[192, 4]), false⟩
noncomputable def y194 : TyI := ⟨1, 8, Value.nilFunc, (TypeDesc.func #[3] #[192, 4] false), false⟩
noncomputable def y195 : TyI := ⟨1, 8, Value.nilFunc, (TypeDesc.func #[4] #[71] false), false⟩
noncomputable def y196 : TyI := ⟨1, 8, Value.nilFunc, (TypeDesc.func #[3, 3, 5] #[4] false), false⟩
noncomputable def y197 : TyI := ⟨1, 8, Value.nilFunc, (TypeDesc.func #[3, 3] #[4] false), false⟩
noncomputable def y198 : TyI := ⟨1, 8, Value.nilFunc, (TypeDesc.func #[76] #[3] true), false⟩
noncomputable def y199 : TyI := ⟨1, 8, Value.nilFunc, (TypeDesc.func #[60, 74] #[71] false), false⟩
noncomputable def y200 : TyI := ⟨1, 8, Value.nilFunc, (TypeDesc.func #[] #[94] false), false⟩
noncomputable def y201 : TyI := ⟨3, 40, (Value.agg #[Value.slice none 0 0, Value.bool false, Value.int .i64 0]), (TypeDesc.struct #[⟨"Set", 55, 0, true, "", "", 0⟩, ⟨"Owed", 4, 1, false, "", "", 24⟩, ⟨"newest", 3, 2, false, "", "argosy/acks", 32⟩]), false⟩
noncomputable def y202 : TyI := ⟨3, 40, (Value.agg #[Value.slice none 0 0, Value.bool false, Value.int .i64 0]), (TypeDesc.struct #[⟨"Set", 55, 0, true, "", "", 0⟩, ⟨"Owed", 4, 1, false, "", "", 24⟩, ⟨"newest", 3, 2, false, "", "argosy/acks", 32⟩]), false⟩
noncomputable def y203 : TyI := ⟨1, 8, (Value.map none), (TypeDesc.map 3 167), false⟩
noncomputable def y204 : TyI := ⟨1, 8, (Value.map none), (TypeDesc.map 3 257), false⟩
noncomputable def y205 : TyI := ⟨4, 32, (Value.agg #[Value.int .i64 0, Value.int .i64 0, Value.int .i64 0, Value.int .i64 0]), (TypeDesc.array 2 105), false⟩
noncomputable def y206 : TyI := ⟨6, 48, (Value.agg #[Value.int .i64 0, Value.int .i64 0, Value.int .i64 0, Value.int .i64 0, Value.int .i64 0, Value.int .i64 0]), (TypeDesc.array 2 107), false⟩
noncomputable def y207 : TyI := ⟨13, 104, (Value.agg #[Value.int .i64 0, Value.int .i64 0, Value.int .i64 0, Value.int .i64 0, Value.int .i64 0, Value.int .i64 0, Value.int .i64 0, Value.int .i64 0, Value.int .i64 0, Value.int .i64 0, Value.int .i64 0, Value.map none, Value.map none]), (TypeDesc.struct #[⟨"who", 3, 0, false, "", "argosy/table", 0⟩, ⟨"credits", 205, 1, false, "", "argosy/table", 8⟩, ⟨"grants", 206, 5, false, "", "argosy/table", 40⟩, ⟨"sends", 203, 11, false, "", "argosy/table", 88⟩, ⟨"recvs", 204, 12, false, "", "argosy/table", 96⟩]), false⟩
noncomputable def y208 : TyI := ⟨13, 104, (Value.agg #[Value.int .i64 0, Value.int .i64 0, Value.int .i64 0, Value.int .i64 0, Value.int .i64 0, Value.int .i64 0, Value.int .i64 0, Value.int .i64 0, Value.int .i64 0, Value.int .i64 0, Value.int .i64 0, Value.map none, Value.map none]), (TypeDesc.struct #[⟨"who", 3, 0, false, "", "argosy/table", 0⟩, ⟨"credits", 205, 1, false, "", "argosy/table", 8⟩, ⟨"grants", 206, 5, false, "", "argosy/table", 40⟩, ⟨"sends", 203, 11, false, "", "argosy/table", 88⟩, ⟨"recvs", 204, 12, false, "", "argosy/table", 96⟩]), false⟩
noncomputable def y209 : TyI := ⟨1, 8, Value.nilFunc, (TypeDesc.func #[26, 3] #[26] false), false⟩
noncomputable def y210 : TyI := ⟨1, 8, (Value.pointer none), (TypeDesc.pointer 83), false⟩
noncomputable def y211 : TyI := ⟨1, 8, Value.nilFunc, (TypeDesc.func #[213, 215] #[85] false), false⟩
noncomputable def y212 : TyI := ⟨1, 8, Value.nilFunc, (TypeDesc.func #[147] #[] false), false⟩
noncomputable def y213 : TyI := ⟨1, 8, Value.nilFunc, (TypeDesc.func #[147] #[] false), false⟩
noncomputable def y214 : TyI := ⟨1, 8, Value.nilFunc, (TypeDesc.func #[81] #[213] false), false⟩
noncomputable def y215 : TyI := ⟨1, 8, Value.nilFunc, (TypeDesc.func #[3, 3] #[3] false), false⟩
noncomputable def y216 : TyI := ⟨1, 8, Value.nilFunc, (TypeDesc.func #[85, 147] #[85] false), false⟩
noncomputable def y217 : TyI := ⟨1, 8, Value.nilFunc, (TypeDesc.func #[43, 28] #[28] false), false⟩
noncomputable def y218 : TyI := ⟨1, 8, Value.nilFunc, (TypeDesc.func #[3, 3] #[90] false), false⟩
noncomputable def y219 : TyI := ⟨1, 0, (Value.tuple #[Value.slice none 0 0, Value.int .i64 0]), (TypeDesc.tuple #[113, 3]), false⟩
noncomputable def y220 : TyI := ⟨1, 8, Value.nilFunc, (TypeDesc.func #[90] #[113, 3] false), false⟩
noncomputable def y221 : TyI := ⟨4, 48, (Value.agg #[Value.int .i64 0, Value.int .i64 0, Value.bool false, Value.slice none 0 0]), (TypeDesc.struct #[⟨"Num", 3, 0, false, "", "", 0⟩, ⟨"At", 3, 1, false, "", "", 8⟩, ⟨"Elicits", 4, 2, false, "", "", 16⟩, ⟨"Frames", 113, 3, false, "", "", 24⟩]), false⟩
noncomputable def y222 : TyI := ⟨4, 48, (Value.agg #[Value.int .i64 0, Value.int .i64 0, Value.bool false, Value.slice none 0 0]), (TypeDesc.struct #[⟨"Num", 3, 0, false, "", "", 0⟩, ⟨"At", 3, 1, false, "", "", 8⟩, ⟨"Elicits", 4, 2, false, "", "", 16⟩, ⟨"Frames", 113, 3, false, "", "", 24⟩]), false⟩
noncomputable def y223 : TyI := ⟨1, 0, (Value.tuple #[Value.pointer none, Value.bool false]), (TypeDesc.tuple #[167, 4]), false⟩
noncomputable def y224 : TyI := ⟨1, 8, Value.nilFunc, (TypeDesc.func #[3] #[167, 4] false), false⟩
noncomputable def y225 : TyI := ⟨1, 8, Value.nilFunc, (TypeDesc.func #[138] #[3] false), false⟩
noncomputable def y226 : TyI := ⟨1, 8, Value.nilFunc, (TypeDesc.func #[] #[90] false), false⟩
noncomputable def y227 : TyI := ⟨1, 8, (Value.pointer none), (TypeDesc.pointer 229), false⟩
noncomputable def y228 : TyI := ⟨2, 32, (Value.agg #[Value.int .i64 0, Value.slice none 0 0]), (TypeDesc.struct #[⟨"room", 3, 0, false, "", "argosy/conn", 0⟩, ⟨"f", 113, 1, false, "", "argosy/conn", 8⟩]), false⟩
noncomputable def y229 : TyI := ⟨2, 32, (Value.agg #[Value.int .i64 0, Value.slice none 0 0]), (TypeDesc.struct #[⟨"room", 3, 0, false, "", "argosy/conn", 0⟩, ⟨"f", 113, 1, false, "", "argosy/conn", 8⟩]), false⟩
noncomputable def y230 : TyI := ⟨1, 0, (Value.tuple #[Value.agg #[Value.int .i64 0, Value.int .i64 0, Value.int .i64 0, Value.int .i64 0, Value.int .i64 0, Value.int .i64 0, Value.bool false, Value.slice none 0 0, Value.slice none 0 0], Value.bool false]), (TypeDesc.tuple #[138, 4]), false⟩
noncomputable def y231 : TyI := ⟨1, 8, Value.nilFunc, (TypeDesc.func #[] #[138, 4] false), false⟩
noncomputable def y232 : TyI := ⟨1, 8, Value.nilFunc, (TypeDesc.func #[138] #[4] false), false⟩
noncomputable def y233 : TyI := ⟨1, 8, Value.nilFunc, (TypeDesc.func #[227] #[] false), false⟩
noncomputable def y234 : TyI := ⟨1, 0, (Value.tuple #[Value.slice none 0 0, Value.int .i64 0]), (TypeDesc.tuple #[28, 29]), false⟩
noncomputable def y235 : TyI := ⟨1, 8, Value.nilFunc, (TypeDesc.func #[26, 3, 3, 113] #[28, 29] true), false⟩
noncomputable def y236 : TyI := ⟨1, 8, Value.nilFunc, (TypeDesc.func #[3, 113] #[3] true), false⟩
noncomputable def y237 : TyI := ⟨1, 8, Value.nilFunc, (TypeDesc.func #[53, 238] #[4] false), false⟩
noncomputable def y238 : TyI := ⟨1, 8, Value.nilFunc, (TypeDesc.func #[183] #[4] false), false⟩
noncomputable def y239 : TyI := ⟨1, 0, (Value.tuple #[Value.slice none 0 0, Value.slice none 0 0, Value.int .i64 0]), (TypeDesc.tuple #[85, 28, 29]), false⟩
noncomputable def y240 : TyI := ⟨1, 8, Value.nilFunc, (TypeDesc.func #[28, 3] #[85, 28, 29] false), false⟩
noncomputable def y241 : TyI := ⟨7, 88, (Value.agg #[Value.slice none 0 0, Value.int .i64 0, Value.int .i64 0, Value.int .i64 0, Value.int .i64 0, Value.int .i64 0, Value.slice none 0 0]), (TypeDesc.struct #[⟨"Set", 55, 0, true, "", "", 0⟩, ⟨"h", 43, 1, false, "", "argosy/frags", 24⟩, ⟨"b", 28, 6, false, "", "argosy/frags", 64⟩]), false⟩
noncomputable def y242 : TyI := ⟨7, 88, (Value.agg #[Value.slice none 0 0, Value.int .i64 0, Value.int .i64 0, Value.int .i64 0, Value.int .i64 0, Value.int .i64 0, Value.slice none 0 0]), (TypeDesc.struct #[⟨"Set", 55, 0, true, "", "", 0⟩, ⟨"h", 43, 1, false, "", "argosy/frags", 24⟩, ⟨"b", 28, 6, false, "", "argosy/frags", 64⟩]), false⟩
noncomputable def y243 : TyI := ⟨1, 8, Value.nilFunc, (TypeDesc.func #[28, 3] #[28] false), false⟩
noncomputable def y244 : TyI := ⟨1, 8, (Value.int .u64 0), (TypeDesc.int .u64), false⟩
noncomputable def y245 : TyI := ⟨3, 3, (Value.agg #[Value.bool false, Value.bool false, Value.bool false]), (TypeDesc.struct #[⟨"told", 4, 0, false, "", "argosy/send", 0⟩, ⟨"due", 4, 1, false, "", "argosy/send", 1⟩, ⟨"came", 4, 2, false, "", "argosy/send", 2⟩]), false⟩
noncomputable def y246 : TyI := ⟨3, 3, (Value.agg #[Value.bool false, Value.bool false, Value.bool false]), (TypeDesc.struct #[⟨"told", 4, 0, false, "", "argosy/send", 0⟩, ⟨"due", 4, 1, false, "", "argosy/send", 1⟩, ⟨"came", 4, 2, false, "", "argosy/send", 2⟩]), false⟩
noncomputable def y247 : TyI := ⟨16, 120, (Value.agg #[Value.int .i64 0, Value.int .i64 0, Value.int .i64 0, Value.slice none 0 0, Value.slice none 0 0, Value.slice none 0 0, Value.bool false, Value.bool false, Value.bool false, Value.bool false, Value.bool false, Value.bool false, Value.bool false, Value.bool false, Value.int .i64 0, Value.int .i64 0]), (TypeDesc.struct #[⟨"Credit", 105, 0, true, "", "", 0⟩, ⟨"id", 3, 2, false, "", "argosy/send", 16⟩, ⟨"b", 28, 3, false, "", "argosy/send", 24⟩, ⟨"lost", 55, 4, false, "", "argosy/send", 48⟩, ⟨"came", 55, 5, false, "", "argosy/send", 72⟩, ⟨"finished", 4, 6, false, "", "argosy/send", 96⟩, ⟨"reset", 4, 7, false, "", "argosy/send", 97⟩, ⟨"fin", 246, 8, false, "", "argosy/send", 98⟩, ⟨"turn", 246, 11, false, "", "argosy/send", 101⟩, ⟨"code", 3, 14, false, "", "argosy/send", 104⟩, ⟨"sure", 3, 15, false, "", "argosy/send", 112⟩]), false⟩
noncomputable def y248 : TyI := ⟨16, 120, (Value.agg #[Value.int .i64 0, Value.int .i64 0, Value.int .i64 0, Value.slice none 0 0, Value.slice none 0 0, Value.slice none 0 0, Value.bool false, Value.bool false, Value.bool false, Value.bool false, Value.bool false, Value.bool false, Value.bool false, Value.bool false, Value.int .i64 0, Value.int .i64 0]), (TypeDesc.struct #[⟨"Credit", 105, 0, true, "", "", 0⟩, ⟨"id", 3, 2, false, "", "argosy/send", 16⟩, ⟨"b", 28, 3, false, "", "argosy/send", 24⟩, ⟨"lost", 55, 4, false, "", "argosy/send", 48⟩, ⟨"came", 55, 5, false, "", "argosy/send", 72⟩, ⟨"finished", 4, 6, false, "", "argosy/send", 96⟩, ⟨"reset", 4, 7, false, "", "argosy/send", 97⟩, ⟨"fin", 246, 8, false, "", "argosy/send", 98⟩, ⟨"turn", 246, 11, false, "", "argosy/send", 101⟩, ⟨"code", 3, 14, false, "", "argosy/send", 104⟩, ⟨"sure", 3, 15, false, "", "argosy/send", 112⟩]), false⟩
noncomputable def y249 : TyI := ⟨1, 8, Value.nilFunc, (TypeDesc.func #[3, 3, 3] #[3] false), false⟩
noncomputable def y250 : TyI := ⟨1, 0, (Value.tuple #[Value.slice none 0 0, Value.bool false]), (TypeDesc.tuple #[28, 4]), false⟩
noncomputable def y251 : TyI := ⟨1, 8, Value.nilFunc, (TypeDesc.func #[26, 3, 28, 28] #[28, 4] false), false⟩
noncomputable def y252 : TyI := ⟨1, 0, (Value.tuple #[Value.slice none 0 0, Value.int .i64 0]), (TypeDesc.tuple #[113, 29]), false⟩
noncomputable def y253 : TyI := ⟨1, 8, Value.nilFunc, (TypeDesc.func #[28] #[113, 29] false), false⟩
noncomputable def y254 : TyI := ⟨1, 8, Value.nilFunc, (TypeDesc.func #[113, 232] #[4] false), false⟩
noncomputable def y255 : TyI := ⟨1, 8, Value.nilFunc, (TypeDesc.func #[3, 53] #[29] false), false⟩
noncomputable def y256 : TyI := ⟨1, 8, Value.nilFunc, (TypeDesc.func #[138] #[29] false), false⟩
noncomputable def y257 : TyI := ⟨1, 8, (Value.pointer none), (TypeDesc.pointer 296), false⟩
noncomputable def y258 : TyI := ⟨1, 0, (Value.tuple #[Value.pointer none, Value.bool false]), (TypeDesc.tuple #[257, 4]), false⟩
noncomputable def y259 : TyI := ⟨1, 8, Value.nilFunc, (TypeDesc.func #[3] #[257, 4] false), false⟩
noncomputable def y260 : TyI := ⟨1, 0, (Value.tuple #[Value.slice none 0 0, Value.int .i64 0, Value.int .i64 0]), (TypeDesc.tuple #[28, 3, 3]), false⟩
noncomputable def y261 : TyI := ⟨1, 8, Value.nilFunc, (TypeDesc.func #[3] #[28, 3, 3] false), false⟩
noncomputable def y262 : TyI := ⟨1, 8, (Value.pointer none), (TypeDesc.pointer 107), false⟩
noncomputable def y263 : TyI := ⟨1, 8, Value.nilFunc, (TypeDesc.func #[3] #[262] false), false⟩
noncomputable def y264 : TyI := ⟨1, 8, Value.nilFunc, (TypeDesc.func #[4] #[] false), false⟩
noncomputable def y265 : TyI := ⟨1, 8, Value.nilFunc, (TypeDesc.func #[3] #[167] false), false⟩
noncomputable def y266 : TyI := ⟨1, 8, (Value.pointer none), (TypeDesc.pointer 92), false⟩
noncomputable def y267 : TyI := ⟨1, 8, Value.nilFunc, (TypeDesc.func #[] #[113] false), false⟩
noncomputable def y268 : TyI := ⟨1, 8, Value.nilFunc, (TypeDesc.func #[] #[34] false), false⟩
noncomputable def y269 : TyI := ⟨1, 8, (Value.pointer none), (TypeDesc.pointer 186), false⟩
noncomputable def y270 : TyI := ⟨1, 8, Value.nilFunc, (TypeDesc.func #[76, 3, 3] #[76] false), false⟩
noncomputable def y271 : TyI := ⟨1, 8, Value.nilFunc, (TypeDesc.func #[3, 29] #[71] false), false⟩
noncomputable def y272 : TyI := ⟨1, 8, Value.nilFunc, (TypeDesc.func #[76] #[76] false), false⟩
noncomputable def y273 : TyI := ⟨1, 8, Value.nilFunc, (TypeDesc.func #[213] #[85] false), false⟩
noncomputable def y274 : TyI := ⟨1, 8, Value.nilFunc, (TypeDesc.func #[85, 215] #[] false), false⟩
noncomputable def y275 : TyI := ⟨1, 8, (Value.pointer none), (TypeDesc.pointer 116), false⟩
noncomputable def y276 : TyI := ⟨1, 8, Value.nilFunc, (TypeDesc.func #[114, 280] #[114] false), false⟩
noncomputable def y277 : TyI := ⟨2, 32, (Value.agg #[Value.int .i64 0, Value.slice none 0 0]), (TypeDesc.struct #[⟨"Note", 3, 0, false, "", "", 0⟩, ⟨"Data", 28, 1, false, "", "", 8⟩]), false⟩
noncomputable def y278 : TyI := ⟨2, 32, (Value.agg #[Value.int .i64 0, Value.slice none 0 0]), (TypeDesc.struct #[⟨"Note", 3, 0, false, "", "", 0⟩, ⟨"Data", 28, 1, false, "", "", 8⟩]), false⟩
noncomputable def y279 : TyI := ⟨1, 8, Value.nilFunc, (TypeDesc.func #[85, 3] #[4] false), false⟩
noncomputable def y280 : TyI := ⟨1, 8, Value.nilFunc, (TypeDesc.func #[278] #[4] false), false⟩
noncomputable def y281 : TyI := ⟨1, 8, Value.nilFunc, (TypeDesc.func #[85, 147] #[3] false), false⟩
noncomputable def y282 : TyI := ⟨1, 8, Value.nilFunc, (TypeDesc.func #[] #[29] false), false⟩
noncomputable def y283 : TyI := ⟨1, 8, Value.nilFunc, (TypeDesc.func #[114] #[3] true), false⟩
noncomputable def y284 : TyI := ⟨1, 8, Value.nilFunc, (TypeDesc.func #[285] #[90] false), false⟩
noncomputable def y285 : TyI := ⟨1, 8, Value.nilFunc, (TypeDesc.func #[222] #[4] false), false⟩
noncomputable def y286 : TyI := ⟨1, 8, (Value.pointer none), (TypeDesc.pointer 89), false⟩
noncomputable def y287 : TyI := ⟨1, 8, Value.nilFunc, (TypeDesc.func #[113] #[113] false), false⟩
noncomputable def y288 : TyI := ⟨1, 8, (Value.pointer none), (TypeDesc.pointer 94), false⟩
noncomputable def y289 : TyI := ⟨1, 8, Value.nilFunc, (TypeDesc.func #[138] #[3, 3] false), false⟩
noncomputable def y290 : TyI := ⟨1, 8, Value.nilFunc, (TypeDesc.func #[3, 3] #[53] false), false⟩
noncomputable def y291 : TyI := ⟨1, 8, Value.nilFunc, (TypeDesc.func #[] #[53] false), false⟩
noncomputable def y292 : TyI := ⟨1, 8, Value.nilFunc, (TypeDesc.func #[53] #[] false), false⟩
noncomputable def y293 : TyI := ⟨1, 8, Value.nilFunc, (TypeDesc.func #[53] #[53] false), false⟩
noncomputable def y294 : TyI := ⟨1, 8, Value.nilFunc, (TypeDesc.func #[262, 4] #[3, 4] false), false⟩
noncomputable def y295 : TyI := ⟨13, 128, (Value.agg #[Value.slice none 0 0, Value.int .i64 0, Value.int .i64 0, Value.int .i64 0, Value.int .i64 0, Value.int .i64 0, Value.int .i64 0, Value.slice none 0 0, Value.bool false, Value.bool false, Value.int .i64 0, Value.int .i64 0, Value.int .i64 0]), (TypeDesc.struct #[⟨"Set", 55, 0, true, "", "", 0⟩, ⟨"Grant", 107, 1, true, "", "", 24⟩, ⟨"id", 3, 4, false, "", "argosy/recv", 48⟩, ⟨"taken", 3, 5, false, "", "argosy/recv", 56⟩, ⟨"top", 3, 6, false, "", "argosy/recv", 64⟩, ⟨"b", 28, 7, false, "", "argosy/recv", 72⟩, ⟨"ended", 4, 8, false, "", "argosy/recv", 96⟩, ⟨"broken", 4, 9, false, "", "argosy/recv", 97⟩, ⟨"end", 3, 10, false, "", "argosy/recv", 104⟩, ⟨"code", 3, 11, false, "", "argosy/recv", 112⟩, ⟨"sure", 3, 12, false, "", "argosy/recv", 120⟩]), false⟩
noncomputable def y296 : TyI := ⟨13, 128, (Value.agg #[Value.slice none 0 0, Value.int .i64 0, Value.int .i64 0, Value.int .i64 0, Value.int .i64 0, Value.int .i64 0, Value.int .i64 0, Value.slice none 0 0, Value.bool false, Value.bool false, Value.int .i64 0, Value.int .i64 0, Value.int .i64 0]), (TypeDesc.struct #[⟨"Set", 55, 0, true, "", "", 0⟩, ⟨"Grant", 107, 1, true, "", "", 24⟩, ⟨"id", 3, 4, false, "", "argosy/recv", 48⟩, ⟨"taken", 3, 5, false, "", "argosy/recv", 56⟩, ⟨"top", 3, 6, false, "", "argosy/recv", 64⟩, ⟨"b", 28, 7, false, "", "argosy/recv", 72⟩, ⟨"ended", 4, 8, false, "", "argosy/recv", 96⟩, ⟨"broken", 4, 9, false, "", "argosy/recv", 97⟩, ⟨"end", 3, 10, false, "", "argosy/recv", 104⟩, ⟨"code", 3, 11, false, "", "argosy/recv", 112⟩, ⟨"sure", 3, 12, false, "", "argosy/recv", 120⟩]), false⟩
noncomputable def y297 : TyI := ⟨1, 0, (Value.tuple #[Value.agg #[Value.int .i64 0, Value.slice none 0 0], Value.bool false]), (TypeDesc.tuple #[278, 4]), false⟩
noncomputable def y298 : TyI := ⟨1, 8, Value.nilFunc, (TypeDesc.func #[] #[278, 4] false), false⟩
noncomputable def y299 : TyI := ⟨1, 8, Value.nilFunc, (TypeDesc.func #[227, 167] #[4] false), false⟩
noncomputable def y300 : TyI := ⟨1, 0, (Value.tuple #[Value.agg #[Value.int .i64 0, Value.int .i64 0, Value.int .i64 0, Value.int .i64 0, Value.int .i64 0, Value.int .i64 0, Value.bool false, Value.slice none 0 0, Value.slice none 0 0], Value.int .i64 0, Value.bool false]), (TypeDesc.tuple #[138, 3, 4]), false⟩
noncomputable def y301 : TyI := ⟨1, 8, Value.nilFunc, (TypeDesc.func #[3, 3] #[138, 3, 4] false), false⟩
noncomputable def y302 : TyI := ⟨1, 8, Value.nilFunc, (TypeDesc.func #[113] #[28, 29] true), false⟩
noncomputable def y303 : TyI := ⟨1, 8, Value.nilFunc, (TypeDesc.func #[3, 3] #[28] false), false⟩
noncomputable def y304 : TyI := ⟨1, 8, Value.nilFunc, (TypeDesc.func #[26, 3, 28, 28] #[28] false), false⟩
noncomputable def y305 : TyI := ⟨1, 8, Value.nilFunc, (TypeDesc.func #[90] #[] true), false⟩
noncomputable def y306 : TyI := ⟨1, 8, Value.nilFunc, (TypeDesc.func #[113] #[4] false), false⟩
noncomputable def y307 : TyI := ⟨1, 8, Value.nilFunc, (TypeDesc.func #[53, 238] #[3] false), false⟩
noncomputable def y308 : TyI := ⟨1, 0, (Value.tuple #[Value.int .i64 0, Value.slice none 0 0, Value.int .i64 0]), (TypeDesc.tuple #[3, 28, 29]), false⟩
noncomputable def y309 : TyI := ⟨1, 8, Value.nilFunc, (TypeDesc.func #[28] #[3, 28, 29] false), false⟩
noncomputable def y310 : TyI := ⟨1, 8, Value.nilFunc, (TypeDesc.func #[244] #[3] false), false⟩
noncomputable def y311 : TyI := ⟨1, 8, Value.nilFunc, (TypeDesc.func #[28, 28] #[4] false), false⟩
noncomputable def y312 : TyI := ⟨1, 8, Value.nilFunc, (TypeDesc.func #[26, 3, 28] #[28] false), false⟩
noncomputable def y313 : TyI := ⟨1, 8, (Value.pointer none), (TypeDesc.pointer 315), false⟩
noncomputable def y314 : TyI := ⟨2, 32, (Value.agg #[Value.slice none 0 0, Value.int .i64 0]), (TypeDesc.struct #[⟨"b", 28, 0, false, "", "argosy/frame", 0⟩, ⟨"e", 29, 1, false, "", "argosy/frame", 24⟩]), false⟩
noncomputable def y315 : TyI := ⟨2, 32, (Value.agg #[Value.slice none 0 0, Value.int .i64 0]), (TypeDesc.struct #[⟨"b", 28, 0, false, "", "argosy/frame", 0⟩, ⟨"e", 29, 1, false, "", "argosy/frame", 24⟩]), false⟩
noncomputable def y316 : TyI := ⟨1, 8, Value.nilFunc, (TypeDesc.func #[] #[138] false), false⟩
noncomputable def y317 : TyI := ⟨1, 8, Value.nilFunc, (TypeDesc.func #[113, 232] #[3] false), false⟩
noncomputable def y318 : TyI := ⟨1, 8, Value.nilFunc, (TypeDesc.func #[53, 3] #[113, 29] false), false⟩
noncomputable def y319 : TyI := ⟨1, 0, (Value.tuple #[Value.pointer none, Value.int .i64 0]), (TypeDesc.tuple #[257, 29]), false⟩
noncomputable def y320 : TyI := ⟨1, 8, Value.nilFunc, (TypeDesc.func #[3] #[257, 29] false), false⟩
noncomputable def y321 : TyI := ⟨1, 8, Value.nilFunc, (TypeDesc.func #[3, 4, 28] #[3, 29] false), false⟩
noncomputable def y322 : TyI := ⟨1, 8, Value.nilFunc, (TypeDesc.func #[3, 3, 3] #[3, 29] false), false⟩
noncomputable def y323 : TyI := ⟨1, 8, (Value.pointer none), (TypeDesc.pointer 105), false⟩
noncomputable def y324 : TyI := ⟨1, 8, Value.nilFunc, (TypeDesc.func #[204] #[213] false), false⟩
noncomputable def y325 : TyI := ⟨1, 0, (Value.tuple #[Value.agg #[Value.int .i64 0, Value.int .i64 0, Value.int .i64 0, Value.int .i64 0, Value.int .i64 0], Value.int .i64 0, Value.int .i64 0]), (TypeDesc.tuple #[43, 3, 29]), false⟩
noncomputable def y326 : TyI := ⟨1, 8, Value.nilFunc, (TypeDesc.func #[28] #[43, 3, 29] false), false⟩
noncomputable def y327 : TyI := ⟨1, 8, Value.nilFunc, (TypeDesc.func #[34] #[34] false), false⟩
noncomputable def y328 : TyI := ⟨1, 8, Value.nilFunc, (TypeDesc.func #[85, 213] #[85] false), false⟩
noncomputable def y329 : TyI := ⟨1, 8, Value.nilFunc, (TypeDesc.func #[85, 3, 3, 3, 215] #[] false), false⟩
noncomputable def y330 : TyI := ⟨1, 8, Value.nilFunc, (TypeDesc.func #[114, 280] #[3] false), false⟩
noncomputable def y331 : TyI := ⟨1, 8, Value.nilFunc, (TypeDesc.func #[85, 3] #[3] false), false⟩
noncomputable def y332 : TyI := ⟨1, 8, Value.nilFunc, (TypeDesc.func #[] #[278] false), false⟩
noncomputable def y333 : TyI := ⟨1, 8, Value.nilFunc, (TypeDesc.func #[90] #[90] false), false⟩
noncomputable def y334 : TyI := ⟨1, 8, Value.nilFunc, (TypeDesc.func #[138] #[85] false), false⟩
noncomputable def y335 : TyI := ⟨1, 8, Value.nilFunc, (TypeDesc.func #[203] #[213] false), false⟩
noncomputable def y336 : TyI := ⟨1, 8, Value.nilFunc, (TypeDesc.func #[3, 3] #[138, 4] false), false⟩
noncomputable def y337 : TyI := ⟨1, 8, Value.nilFunc, (TypeDesc.func #[222] #[222] false), false⟩
noncomputable def y338 : TyI := ⟨1, 8, Value.nilFunc, (TypeDesc.func #[339] #[3] false), false⟩
noncomputable def y339 : TyI := ⟨1, 4, (Value.int .u32 0), (TypeDesc.int .u32), false⟩
noncomputable def y340 : TyI := ⟨1, 8, Value.nilFunc, (TypeDesc.func #[26] #[3] false), false⟩
noncomputable def y341 : TyI := ⟨1, 8, Value.nilFunc, (TypeDesc.func #[26, 34] #[26] true), false⟩
noncomputable def y342 : TyI := ⟨1, 8, Value.nilFunc, (TypeDesc.func #[363] #[] true), false⟩
noncomputable def y343 : TyI := ⟨1, 8, (Value.pointer none), (TypeDesc.pointer 3), false⟩
noncomputable def y344 : TyI := ⟨1, 8, Value.nilFunc, (TypeDesc.func #[29] #[] false), false⟩
noncomputable def y345 : TyI := ⟨1, 0, (Value.tuple #[Value.slice none 0 0, Value.int .i64 0]), (TypeDesc.tuple #[90, 29]), false⟩
noncomputable def y346 : TyI := ⟨1, 8, Value.nilFunc, (TypeDesc.func #[53] #[90, 29] false), false⟩
noncomputable def y347 : TyI := ⟨1, 8, Value.nilFunc, (TypeDesc.func #[3] #[257] false), false⟩
noncomputable def y348 : TyI := ⟨1, 8, Value.nilFunc, (TypeDesc.func #[85] #[] false), false⟩
noncomputable def y349 : TyI := ⟨1, 8, Value.nilFunc, (TypeDesc.func #[85, 3, 3, 215] #[] false), false⟩
noncomputable def y350 : TyI := ⟨1, 8, (Value.int .i64 0), (TypeDesc.int .i64), false⟩
noncomputable def y351 : TyI := ⟨1, 0, (Value.tuple #[Value.int .i64 0, Value.int .i64 0]), (TypeDesc.tuple #[3, 350]), false⟩
noncomputable def y352 : TyI := ⟨1, 8, Value.nilFunc, (TypeDesc.func #[85, 3, 3, 215] #[3, 350] false), false⟩
noncomputable def y353 : TyI := ⟨1, 8, Value.nilFunc, (TypeDesc.func #[85, 3, 3, 215] #[4] false), false⟩
noncomputable def y354 : TyI := ⟨1, 8, Value.nilFunc, (TypeDesc.func #[85, 3, 3, 3, 215] #[3] false), false⟩
noncomputable def y355 : TyI := ⟨1, 8, Value.nilFunc, (TypeDesc.func #[85, 3, 3, 3, 215] #[3, 4] false), false⟩
noncomputable def y356 : TyI := ⟨1, 8, Value.nilFunc, (TypeDesc.func #[138, 138] #[4] false), false⟩
noncomputable def y357 : TyI := ⟨1, 8, Value.nilFunc, (TypeDesc.func #[138] #[138] false), false⟩
noncomputable def y358 : TyI := ⟨1, 8, Value.nilFunc, (TypeDesc.func #[85] #[4] true), false⟩
noncomputable def y359 : TyI := ⟨1, 8, Value.nilFunc, (TypeDesc.func #[53] #[4] false), false⟩
noncomputable def y360 : TyI := ⟨1, 8, Value.nilFunc, (TypeDesc.func #[4] #[3] false), false⟩
noncomputable def y361 : TyI := ⟨1, 8, Value.nilFunc, (TypeDesc.func #[3, 3, 3] #[138, 4] false), false⟩
noncomputable def y362 : TyI := ⟨1, 8, Value.nilFunc, (TypeDesc.func #[3, 3] #[138] false), false⟩
noncomputable def y363 : TyI := ⟨1, 24, (Value.slice none 0 0), (TypeDesc.slice 343), false⟩
noncomputable def y364 : TyI := ⟨1, 8, Value.nilFunc, (TypeDesc.func #[85, 3, 3, 3] #[] false), false⟩
noncomputable def y365 : TyI := ⟨1, 8, (Value.int .u64 0), (TypeDesc.int .u64), false⟩
noncomputable def y366 : TyI := ⟨1, 8, Value.nilFunc, (TypeDesc.func #[3] #[244] false), false⟩
noncomputable def y367 : TyI := ⟨1, 8, Value.nilFunc, (TypeDesc.func #[] #[26] false), false⟩
noncomputable def y368 : TyI := ⟨1, 8, Value.nilFunc, (TypeDesc.func #[85, 3, 343, 215] #[3] false), false⟩
noncomputable def y369 : TyI := ⟨1, 8, Value.nilFunc, (TypeDesc.func #[85, 3, 3, 3, 343, 215] #[3] false), false⟩
noncomputable def y370 : TyI := ⟨1, 8, Value.nilFunc, (TypeDesc.func #[53, 53] #[4] false), false⟩
noncomputable def y371 : TyI := ⟨1, 8, Value.nilFunc, (TypeDesc.func #[85, 147] #[4] false), false⟩
noncomputable def y372 : TyI := ⟨1, 8, Value.nilFunc, (TypeDesc.func #[85, 3, 3] #[] false), false⟩
noncomputable def y373 : TyI := ⟨1, 8, Value.nilFunc, (TypeDesc.func #[85, 3, 3] #[3, 350] false), false⟩
noncomputable def y374 : TyI := ⟨1, 8, Value.nilFunc, (TypeDesc.func #[85, 3, 3] #[4] false), false⟩
noncomputable def y375 : TyI := ⟨1, 8, Value.nilFunc, (TypeDesc.func #[85, 3, 3, 3] #[3] false), false⟩
noncomputable def y376 : TyI := ⟨1, 8, Value.nilFunc, (TypeDesc.func #[85, 3, 3, 3] #[3, 4] false), false⟩
noncomputable def y377 : TyI := ⟨1, 8, (Value.pointer none), (TypeDesc.pointer 365), false⟩
noncomputable def y378 : TyI := ⟨1, 8, Value.nilFunc, (TypeDesc.func #[85, 3, 3, 343, 215] #[3, 3] false), false⟩
noncomputable def y379 : TyI := ⟨1, 8, Value.nilFunc, (TypeDesc.func #[85, 3, 343] #[3] false), false⟩
noncomputable def y380 : TyI := ⟨1, 8, Value.nilFunc, (TypeDesc.func #[85, 3, 3, 3, 343] #[3] false), false⟩
noncomputable def y381 : TyI := ⟨1, 8, Value.nilFunc, (TypeDesc.func #[85, 3, 3, 343] #[3, 3] false), false⟩
noncomputable def y382 : TyI := ⟨1, 8, Value.nilFunc, (TypeDesc.func #[] #[9] false), false⟩
noncomputable def y383 : TyI := ⟨4, 40, (Value.agg #[Value.pointer none, Value.pointer none, Value.pointer none, Value.string { data := #[] }]), (TypeDesc.struct #[⟨"_interface", 17, 0, false, "", "runtime", 0⟩, ⟨"concrete", 17, 1, false, "", "runtime", 8⟩, ⟨"asserted", 17, 2, false, "", "runtime", 16⟩, ⟨"missingMethod", 9, 3, false, "", "runtime", 24⟩]), false⟩
noncomputable def y384 : TyI := ⟨4, 40, (Value.agg #[Value.pointer none, Value.pointer none, Value.pointer none, Value.string { data := #[] }]), (TypeDesc.struct #[⟨"_interface", 17, 0, false, "", "runtime", 0⟩, ⟨"concrete", 17, 1, false, "", "runtime", 8⟩, ⟨"asserted", 17, 2, false, "", "runtime", 16⟩, ⟨"missingMethod", 9, 3, false, "", "runtime", 24⟩]), false⟩
noncomputable def y385 : TyI := ⟨0, 0, (Value.agg #[]), (TypeDesc.array 0 16), false⟩
noncomputable def y386 : TyI := ⟨0, 0, (Value.agg #[]), (TypeDesc.struct #[⟨"_", 385, 0, false, "", "runtime", 0⟩]), false⟩
noncomputable def y387 : TyI := ⟨0, 0, (Value.agg #[]), (TypeDesc.struct #[⟨"_", 385, 0, false, "", "runtime", 0⟩]), false⟩
noncomputable def y388 : TyI := ⟨1, 1, (Value.int .u8 0), (TypeDesc.int .u8), false⟩
noncomputable def y389 : TyI := ⟨1, 1, (Value.int .u8 0), (TypeDesc.int .u8), false⟩
noncomputable def y390 : TyI := ⟨1, 8, Value.nilFunc, (TypeDesc.func #[396, 396] #[4] false), false⟩
noncomputable def y391 : TyI := ⟨1, 8, (Value.pointer none), (TypeDesc.pointer 5), false⟩
noncomputable def y392 : TyI := ⟨1, 4, (Value.int .i32 0), (TypeDesc.int .i32), false⟩
noncomputable def y393 : TyI := ⟨1, 4, (Value.int .i32 0), (TypeDesc.int .i32), false⟩
noncomputable def y394 : TyI := ⟨11, 48, (Value.agg #[Value.int .u64 0, Value.int .u64 0, Value.int .u32 0, Value.int .u8 0, Value.int .u8 0, Value.int .u8 0, Value.int .u8 0, Value.nilFunc, Value.pointer none, Value.int .i32 0, Value.int .i32 0]), (TypeDesc.struct #[⟨"Size_", 12, 0, false, "", "", 0⟩, ⟨"PtrBytes", 12, 1, false, "", "", 8⟩, ⟨"Hash", 339, 2, false, "", "", 16⟩, ⟨"TFlag", 388, 3, false, "", "", 20⟩, ⟨"Align_", 5, 4, false, "", "", 21⟩, ⟨"FieldAlign_", 5, 5, false, "", "", 22⟩, ⟨"Kind_", 389, 6, false, "", "", 23⟩, ⟨"Equal", 390, 7, false, "", "", 24⟩, ⟨"GCData", 391, 8, false, "", "", 32⟩, ⟨"Str", 392, 9, false, "", "", 40⟩, ⟨"PtrToThis", 393, 10, false, "", "", 44⟩]), false⟩
noncomputable def y395 : TyI := ⟨11, 48, (Value.agg #[Value.int .u64 0, Value.int .u64 0, Value.int .u32 0, Value.int .u8 0, Value.int .u8 0, Value.int .u8 0, Value.int .u8 0, Value.nilFunc, Value.pointer none, Value.int .i32 0, Value.int .i32 0]), (TypeDesc.struct #[⟨"Size_", 12, 0, false, "", "", 0⟩, ⟨"PtrBytes", 12, 1, false, "", "", 8⟩, ⟨"Hash", 339, 2, false, "", "", 16⟩, ⟨"TFlag", 388, 3, false, "", "", 20⟩, ⟨"Align_", 5, 4, false, "", "", 21⟩, ⟨"FieldAlign_", 5, 5, false, "", "", 22⟩, ⟨"Kind_", 389, 6, false, "", "", 23⟩, ⟨"Equal", 390, 7, false, "", "", 24⟩, ⟨"GCData", 391, 8, false, "", "", 32⟩, ⟨"Str", 392, 9, false, "", "", 40⟩, ⟨"PtrToThis", 393, 10, false, "", "", 44⟩]), false⟩
noncomputable def y396 : TyI := ⟨1, 8, (Value.pointer none), TypeDesc.unsafePointer, false⟩
noncomputable def ty : Tr TyI := (.node (.node (.node (.node (.node (.node (.node (.node (.node .leaf (some y255) .leaf) (some y127) (.node .leaf (some y383) .leaf)) (some y63) (.node (.node .leaf (some y319) .leaf) (some y191) .leaf)) (some y31) (.node (.node (.node .leaf (some y287) .leaf) (some y159) .leaf) (some y95) (.node (.node .leaf (some y351) .leaf) (some y223) .leaf))) (some y15) (.node (.node (.node (.node .leaf (some y271) .leaf) (some y143) .leaf) (some y79) (.node (.node .leaf (some y335) .leaf) (some y207) .leaf)) (some y47) (.node (.node (.node .leaf (some y303) .leaf) (some y175) .leaf) (some y111) (.node (.node .leaf (some y367) .leaf) (some y239) .leaf)))) (some y7) (.node (.node (.node (.node (.node .leaf (some y263) .leaf) (some y135) (.node .leaf (some y391) .leaf)) (some y71) (.node (.node .leaf (some y327) .leaf) (some y199) .leaf)) (some y39) (.node (.node (.node .leaf (some y295) .leaf) (some y167) .leaf) (some y103) (.node (.node .leaf (some y359) .leaf) (some y231) .leaf))) (some y23) (.node (.node (.node (.node .leaf (some y279) .leaf) (some y151) .leaf) (some y87) (.node (.node .leaf (some y343) .leaf) (some y215) .leaf)) (some y55) (.node (.node (.node .leaf (some y311) .leaf) (some y183) .leaf) (some y119) (.node (.node .leaf (some y375) .leaf) (some y247) .leaf))))) (some y3) (.node (.node (.node (.node (.node (.node .leaf (some y259) .leaf) (some y131) (.node .leaf (some y387) .leaf)) (some y67) (.node (.node .leaf (some y323) .leaf) (some y195) .leaf)) (some y35) (.node (.node (.node .leaf (some y291) .leaf) (some y163) .leaf) (some y99) (.node (.node .leaf (some y355) .leaf) (some y227) .leaf))) (some y19) (.node (.node (.node (.node .leaf (some y275) .leaf) (some y147) .leaf) (some y83) (.node (.node .leaf (some y339) .leaf) (some y211) .leaf)) (some y51) (.node (.node (.node .leaf (some y307) .leaf) (some y179) .leaf) (some y115) (.node (.node .leaf (some y371) .leaf) (some y243) .leaf)))) (some y11) (.node (.node (.node (.node (.node .leaf (some y267) .leaf) (some y139) (.node .leaf (some y395) .leaf)) (some y75) (.node (.node .leaf (some y331) .leaf) (some y203) .leaf)) (some y43) (.node (.node (.node .leaf (some y299) .leaf) (some y171) .leaf) (some y107) (.node (.node .leaf (some y363) .leaf) (some y235) .leaf))) (some y27) (.node (.node (.node (.node .leaf (some y283) .leaf) (some y155) .leaf) (some y91) (.node (.node .leaf (some y347) .leaf) (some y219) .leaf)) (some y59) (.node (.node (.node .leaf (some y315) .leaf) (some y187) .leaf) (some y123) (.node (.node .leaf (some y379) .leaf) (some y251) .leaf)))))) (some y1) (.node (.node (.node (.node (.node (.node (.node .leaf (some y257) .leaf) (some y129) (.node .leaf (some y385) .leaf)) (some y65) (.node (.node .leaf (some y321) .leaf) (some y193) .leaf)) (some y33) (.node (.node (.node .leaf (some y289) .leaf) (some y161) .leaf) (some y97) (.node (.node .leaf (some y353) .leaf) (some y225) .leaf))) (some y17) (.node (.node (.node (.node .leaf (some y273) .leaf) (some y145) .leaf) (some y81) (.node (.node .leaf (some y337) .leaf) (some y209) .leaf)) (some y49) (.node (.node (.node .leaf (some y305) .leaf) (some y177) .leaf) (some y113) (.node (.node .leaf (some y369) .leaf) (some y241) .leaf)))) (some y9) (.node (.node (.node (.node (.node .leaf (some y265) .leaf) (some y137) (.node .leaf (some y393) .leaf)) (some y73) (.node (.node .leaf (some y329) .leaf) (some y201) .leaf)) (some y41) (.node (.node (.node .leaf (some y297) .leaf) (some y169) .leaf) (some y105) (.node (.node .leaf (some y361) .leaf) (some y233) .leaf))) (some y25) (.node (.node (.node (.node .leaf (some y281) .leaf) (some y153) .leaf) (some y89) (.node (.node .leaf (some y345) .leaf) (some y217) .leaf)) (some y57) (.node (.node (.node .leaf (some y313) .leaf) (some y185) .leaf) (some y121) (.node (.node .leaf (some y377) .leaf) (some y249) .leaf))))) (some y5) (.node (.node (.node (.node (.node (.node .leaf (some y261) .leaf) (some y133) (.node .leaf (some y389) .leaf)) (some y69) (.node (.node .leaf (some y325) .leaf) (some y197) .leaf)) (some y37) (.node (.node (.node .leaf (some y293) .leaf) (some y165) .leaf) (some y101) (.node (.node .leaf (some y357) .leaf) (some y229) .leaf))) (some y21) (.node (.node (.node (.node .leaf (some y277) .leaf) (some y149) .leaf) (some y85) (.node (.node .leaf (some y341) .leaf) (some y213) .leaf)) (some y53) (.node (.node (.node .leaf (some y309) .leaf) (some y181) .leaf) (some y117) (.node (.node .leaf (some y373) .leaf) (some y245) .leaf)))) (some y13) (.node (.node (.node (.node (.node .leaf (some y269) .leaf) (some y141) .leaf) (some y77) (.node (.node .leaf (some y333) .leaf) (some y205) .leaf)) (some y45) (.node (.node (.node .leaf (some y301) .leaf) (some y173) .leaf) (some y109) (.node (.node .leaf (some y365) .leaf) (some y237) .leaf))) (some y29) (.node (.node (.node (.node .leaf (some y285) .leaf) (some y157) .leaf) (some y93) (.node (.node .leaf (some y349) .leaf) (some y221) .leaf)) (some y61) (.node (.node (.node .leaf (some y317) .leaf) (some y189) .leaf) (some y125) (.node (.node .leaf (some y381) .leaf) (some y253) .leaf))))))) (some y0) (.node (.node (.node (.node (.node (.node (.node (.node .leaf (some y256) .leaf) (some y128) (.node .leaf (some y384) .leaf)) (some y64) (.node (.node .leaf (some y320) .leaf) (some y192) .leaf)) (some y32) (.node (.node (.node .leaf (some y288) .leaf) (some y160) .leaf) (some y96) (.node (.node .leaf (some y352) .leaf) (some y224) .leaf))) (some y16) (.node (.node (.node (.node .leaf (some y272) .leaf) (some y144) .leaf) (some y80) (.node (.node .leaf (some y336) .leaf) (some y208) .leaf)) (some y48) (.node (.node (.node .leaf (some y304) .leaf) (some y176) .leaf) (some y112) (.node (.node .leaf (some y368) .leaf) (some y240) .leaf)))) (some y8) (.node (.node (.node (.node (.node .leaf (some y264) .leaf) (some y136) (.node .leaf (some y392) .leaf)) (some y72) (.node (.node .leaf (some y328) .leaf) (some y200) .leaf)) (some y40) (.node (.node (.node .leaf (some y296) .leaf) (some y168) .leaf) (some y104) (.node (.node .leaf (some y360) .leaf) (some y232) .leaf))) (some y24) (.node (.node (.node (.node .leaf (some y280) .leaf) (some y152) .leaf) (some y88) (.node (.node .leaf (some y344) .leaf) (some y216) .leaf)) (some y56) (.node (.node (.node .leaf (some y312) .leaf) (some y184) .leaf) (some y120) (.node (.node .leaf (some y376) .leaf) (some y248) .leaf))))) (some y4) (.node (.node (.node (.node (.node (.node .leaf (some y260) .leaf) (some y132) (.node .leaf (some y388) .leaf)) (some y68) (.node (.node .leaf (some y324) .leaf) (some y196) .leaf)) (some y36) (.node (.node (.node .leaf (some y292) .leaf) (some y164) .leaf) (some y100) (.node (.node .leaf (some y356) .leaf) (some y228) .leaf))) (some y20) (.node (.node (.node (.node .leaf (some y276) .leaf) (some y148) .leaf) (some y84) (.node (.node .leaf (some y340) .leaf) (some y212) .leaf)) (some y52) (.node (.node (.node .leaf (some y308) .leaf) (some y180) .leaf) (some y116) (.node (.node .leaf (some y372) .leaf) (some y244) .leaf)))) (some y12) (.node (.node (.node (.node (.node .leaf (some y268) .leaf) (some y140) (.node .leaf (some y396) .leaf)) (some y76) (.node (.node .leaf (some y332) .leaf) (some y204) .leaf)) (some y44) (.node (.node (.node .leaf (some y300) .leaf) (some y172) .leaf) (some y108) (.node (.node .leaf (some y364) .leaf) (some y236) .leaf))) (some y28) (.node (.node (.node (.node .leaf (some y284) .leaf) (some y156) .leaf) (some y92) (.node (.node .leaf (some y348) .leaf) (some y220) .leaf)) (some y60) (.node (.node (.node .leaf (some y316) .leaf) (some y188) .leaf) (some y124) (.node (.node .leaf (some y380) .leaf) (some y252) .leaf)))))) (some y2) (.node (.node (.node (.node (.node (.node (.node .leaf (some y258) .leaf) (some y130) (.node .leaf (some y386) .leaf)) (some y66) (.node (.node .leaf (some y322) .leaf) (some y194) .leaf)) (some y34) (.node (.node (.node .leaf (some y290) .leaf) (some y162) .leaf) (some y98) (.node (.node .leaf (some y354) .leaf) (some y226) .leaf))) (some y18) (.node (.node (.node (.node .leaf (some y274) .leaf) (some y146) .leaf) (some y82) (.node (.node .leaf (some y338) .leaf) (some y210) .leaf)) (some y50) (.node (.node (.node .leaf (some y306) .leaf) (some y178) .leaf) (some y114) (.node (.node .leaf (some y370) .leaf) (some y242) .leaf)))) (some y10) (.node (.node (.node (.node (.node .leaf (some y266) .leaf) (some y138) (.node .leaf (some y394) .leaf)) (some y74) (.node (.node .leaf (some y330) .leaf) (some y202) .leaf)) (some y42) (.node (.node (.node .leaf (some y298) .leaf) (some y170) .leaf) (some y106) (.node (.node .leaf (some y362) .leaf) (some y234) .leaf))) (some y26) (.node (.node (.node (.node .leaf (some y282) .leaf) (some y154) .leaf) (some y90) (.node (.node .leaf (some y346) .leaf) (some y218) .leaf)) (some y58) (.node (.node (.node .leaf (some y314) .leaf) (some y186) .leaf) (some y122) (.node (.node .leaf (some y378) .leaf) (some y250) .leaf))))) (some y6) (.node (.node (.node (.node (.node (.node .leaf (some y262) .leaf) (some y134) (.node .leaf (some y390) .leaf)) (some y70) (.node (.node .leaf (some y326) .leaf) (some y198) .leaf)) (some y38) (.node (.node (.node .leaf (some y294) .leaf) (some y166) .leaf) (some y102) (.node (.node .leaf (some y358) .leaf) (some y230) .leaf))) (some y22) (.node (.node (.node (.node .leaf (some y278) .leaf) (some y150) .leaf) (some y86) (.node (.node .leaf (some y342) .leaf) (some y214) .leaf)) (some y54) (.node (.node (.node .leaf (some y310) .leaf) (some y182) .leaf) (some y118) (.node (.node .leaf (some y374) .leaf) (some y246) .leaf)))) (some y14) (.node (.node (.node (.node (.node .leaf (some y270) .leaf) (some y142) .leaf) (some y78) (.node (.node .leaf (some y334) .leaf) (some y206) .leaf)) (some y46) (.node (.node (.node .leaf (some y302) .leaf) (some y174) .leaf) (some y110) (.node (.node .leaf (some y366) .leaf) (some y238) .leaf))) (some y30) (.node (.node (.node (.node .leaf (some y286) .leaf) (some y158) .leaf) (some y94) (.node (.node .leaf (some y350) .leaf) (some y222) .leaf)) (some y62) (.node (.node (.node .leaf (some y318) .leaf) (some y190) .leaf) (some y126) (.node (.node .leaf (some y382) .leaf) (some y254) .leaf))))))))
noncomputable def fn : Tr Func := (.node (.node (.node (.node (.node (.node (.node (.node (.node .leaf (some Tryz.f255) .leaf) (some Tryz.f127) .leaf) (some Tryz.f63) (.node (.node .leaf (some Tryz.f319) .leaf) (some Tryz.f191) .leaf)) (some Tryz.f31) (.node (.node (.node .leaf (some Tryz.f287) .leaf) (some Tryz.f159) .leaf) (some Tryz.f95) (.node .leaf (some Tryz.f223) .leaf))) (some Tryz.f15) (.node (.node (.node (.node .leaf (some Tryz.f271) .leaf) (some Tryz.f143) .leaf) (some Tryz.f79) (.node .leaf (some Tryz.f207) .leaf)) (some Tryz.f47) (.node (.node (.node .leaf (some Tryz.f303) .leaf) (some Tryz.f175) .leaf) (some Tryz.f111) (.node .leaf (some Tryz.f239) .leaf)))) (some Tryz.f7) (.node (.node (.node (.node (.node .leaf (some Tryz.f263) .leaf) (some Tryz.f135) .leaf) (some Tryz.f71) (.node (.node .leaf (some Tryz.f327) .leaf) (some Tryz.f199) .leaf)) (some Tryz.f39) (.node (.node (.node .leaf (some Tryz.f295) .leaf) (some Tryz.f167) .leaf) (some Tryz.f103) (.node .leaf (some Tryz.f231) .leaf))) (some Tryz.f23) (.node (.node (.node (.node .leaf (some Tryz.f279) .leaf) (some Tryz.f151) .leaf) (some Tryz.f87) (.node .leaf (some Tryz.f215) .leaf)) (some Tryz.f55) (.node (.node (.node .leaf (some Tryz.f311) .leaf) (some Tryz.f183) .leaf) (some Tryz.f119) (.node .leaf (some Tryz.f247) .leaf))))) (some Tryz.f3) (.node (.node (.node (.node (.node (.node .leaf (some Tryz.f259) .leaf) (some Tryz.f131) .leaf) (some Tryz.f67) (.node (.node .leaf (some Tryz.f323) .leaf) (some Tryz.f195) .leaf)) (some Tryz.f35) (.node (.node (.node .leaf (some Tryz.f291) .leaf) (some Tryz.f163) .leaf) (some Tryz.f99) (.node .leaf (some Tryz.f227) .leaf))) (some Tryz.f19) (.node (.node (.node (.node .leaf (some Tryz.f275) .leaf) (some Tryz.f147) .leaf) (some Tryz.f83) (.node .leaf (some Tryz.f211) .leaf)) (some Tryz.f51) (.node (.node (.node .leaf (some Tryz.f307) .leaf) (some Tryz.f179) .leaf) (some Tryz.f115) (.node .leaf (some Tryz.f243) .leaf)))) (some Tryz.f11) (.node (.node (.node (.node (.node .leaf (some Tryz.f267) .leaf) (some Tryz.f139) .leaf) (some Tryz.f75) (.node .leaf (some Tryz.f203) .leaf)) (some Tryz.f43) (.node (.node (.node .leaf (some Tryz.f299) .leaf) (some Tryz.f171) .leaf) (some Tryz.f107) (.node .leaf (some Tryz.f235) .leaf))) (some Tryz.f27) (.node (.node (.node (.node .leaf (some Tryz.f283) .leaf) (some Tryz.f155) .leaf) (some Tryz.f91) (.node .leaf (some Tryz.f219) .leaf)) (some Tryz.f59) (.node (.node (.node .leaf (some Tryz.f315) .leaf) (some Tryz.f187) .leaf) (some Tryz.f123) (.node .leaf (some Tryz.f251) .leaf)))))) none (.node (.node (.node (.node (.node (.node (.node .leaf (some Tryz.f257) .leaf) (some Tryz.f129) .leaf) (some Tryz.f65) (.node (.node .leaf (some Tryz.f321) .leaf) (some Tryz.f193) .leaf)) (some Tryz.f33) (.node (.node (.node .leaf (some Tryz.f289) .leaf) (some Tryz.f161) .leaf) (some Tryz.f97) (.node .leaf (some Tryz.f225) .leaf))) (some Tryz.f17) (.node (.node (.node (.node .leaf (some Tryz.f273) .leaf) (some Tryz.f145) .leaf) (some Tryz.f81) (.node .leaf (some Tryz.f209) .leaf)) (some Tryz.f49) (.node (.node (.node .leaf (some Tryz.f305) .leaf) (some Tryz.f177) .leaf) (some Tryz.f113) (.node .leaf (some Tryz.f241) .leaf)))) (some Tryz.f9) (.node (.node (.node (.node (.node .leaf (some Tryz.f265) .leaf) (some Tryz.f137) .leaf) (some Tryz.f73) (.node (.node .leaf (some Tryz.f329) .leaf) (some Tryz.f201) .leaf)) (some Tryz.f41) (.node (.node (.node .leaf (some Tryz.f297) .leaf) (some Tryz.f169) .leaf) (some Tryz.f105) (.node .leaf (some Tryz.f233) .leaf))) (some Tryz.f25) (.node (.node (.node (.node .leaf (some Tryz.f281) .leaf) (some Tryz.f153) .leaf) (some Tryz.f89) (.node .leaf (some Tryz.f217) .leaf)) (some Tryz.f57) (.node (.node (.node .leaf (some Tryz.f313) .leaf) (some Tryz.f185) .leaf) (some Tryz.f121) (.node .leaf (some Tryz.f249) .leaf))))) (some Tryz.f5) (.node (.node (.node (.node (.node (.node .leaf (some Tryz.f261) .leaf) (some Tryz.f133) .leaf) (some Tryz.f69) (.node (.node .leaf (some Tryz.f325) .leaf) (some Tryz.f197) .leaf)) (some Tryz.f37) (.node (.node (.node .leaf (some Tryz.f293) .leaf) (some Tryz.f165) .leaf) (some Tryz.f101) (.node .leaf (some Tryz.f229) .leaf))) (some Tryz.f21) (.node (.node (.node (.node .leaf (some Tryz.f277) .leaf) (some Tryz.f149) .leaf) (some Tryz.f85) (.node .leaf (some Tryz.f213) .leaf)) (some Tryz.f53) (.node (.node (.node .leaf (some Tryz.f309) .leaf) (some Tryz.f181) .leaf) (some Tryz.f117) (.node .leaf (some Tryz.f245) .leaf)))) (some Tryz.f13) (.node (.node (.node (.node (.node .leaf (some Tryz.f269) .leaf) (some Tryz.f141) .leaf) (some Tryz.f77) (.node .leaf (some Tryz.f205) .leaf)) (some Tryz.f45) (.node (.node (.node .leaf (some Tryz.f301) .leaf) (some Tryz.f173) .leaf) (some Tryz.f109) (.node .leaf (some Tryz.f237) .leaf))) (some Tryz.f29) (.node (.node (.node (.node .leaf (some Tryz.f285) .leaf) (some Tryz.f157) .leaf) (some Tryz.f93) (.node .leaf (some Tryz.f221) .leaf)) (some Tryz.f61) (.node (.node (.node .leaf (some Tryz.f317) .leaf) (some Tryz.f189) .leaf) (some Tryz.f125) (.node .leaf (some Tryz.f253) .leaf))))))) none (.node (.node (.node (.node (.node (.node (.node (.node .leaf (some Tryz.f256) .leaf) (some Tryz.f128) .leaf) (some Tryz.f64) (.node (.node .leaf (some Tryz.f320) .leaf) (some Tryz.f192) .leaf)) (some Tryz.f32) (.node (.node (.node .leaf (some Tryz.f288) .leaf) (some Tryz.f160) .leaf) (some Tryz.f96) (.node .leaf (some Tryz.f224) .leaf))) (some Tryz.f16) (.node (.node (.node (.node .leaf (some Tryz.f272) .leaf) (some Tryz.f144) .leaf) (some Tryz.f80) (.node .leaf (some Tryz.f208) .leaf)) (some Tryz.f48) (.node (.node (.node .leaf (some Tryz.f304) .leaf) (some Tryz.f176) .leaf) (some Tryz.f112) (.node .leaf (some Tryz.f240) .leaf)))) (some Tryz.f8) (.node (.node (.node (.node (.node .leaf (some Tryz.f264) .leaf) (some Tryz.f136) .leaf) (some Tryz.f72) (.node (.node .leaf (some Tryz.f328) .leaf) (some Tryz.f200) .leaf)) (some Tryz.f40) (.node (.node (.node .leaf (some Tryz.f296) .leaf) (some Tryz.f168) .leaf) (some Tryz.f104) (.node .leaf (some Tryz.f232) .leaf))) (some Tryz.f24) (.node (.node (.node (.node .leaf (some Tryz.f280) .leaf) (some Tryz.f152) .leaf) (some Tryz.f88) (.node .leaf (some Tryz.f216) .leaf)) (some Tryz.f56) (.node (.node (.node .leaf (some Tryz.f312) .leaf) (some Tryz.f184) .leaf) (some Tryz.f120) (.node .leaf (some Tryz.f248) .leaf))))) (some Tryz.f4) (.node (.node (.node (.node (.node (.node .leaf (some Tryz.f260) .leaf) (some Tryz.f132) .leaf) (some Tryz.f68) (.node (.node .leaf (some Tryz.f324) .leaf) (some Tryz.f196) .leaf)) (some Tryz.f36) (.node (.node (.node .leaf (some Tryz.f292) .leaf) (some Tryz.f164) .leaf) (some Tryz.f100) (.node .leaf (some Tryz.f228) .leaf))) (some Tryz.f20) (.node (.node (.node (.node .leaf (some Tryz.f276) .leaf) (some Tryz.f148) .leaf) (some Tryz.f84) (.node .leaf (some Tryz.f212) .leaf)) (some Tryz.f52) (.node (.node (.node .leaf (some Tryz.f308) .leaf) (some Tryz.f180) .leaf) (some Tryz.f116) (.node .leaf (some Tryz.f244) .leaf)))) (some Tryz.f12) (.node (.node (.node (.node (.node .leaf (some Tryz.f268) .leaf) (some Tryz.f140) .leaf) (some Tryz.f76) (.node .leaf (some Tryz.f204) .leaf)) (some Tryz.f44) (.node (.node (.node .leaf (some Tryz.f300) .leaf) (some Tryz.f172) .leaf) (some Tryz.f108) (.node .leaf (some Tryz.f236) .leaf))) (some Tryz.f28) (.node (.node (.node (.node .leaf (some Tryz.f284) .leaf) (some Tryz.f156) .leaf) (some Tryz.f92) (.node .leaf (some Tryz.f220) .leaf)) (some Tryz.f60) (.node (.node (.node .leaf (some Tryz.f316) .leaf) (some Tryz.f188) .leaf) (some Tryz.f124) (.node .leaf (some Tryz.f252) .leaf)))))) none (.node (.node (.node (.node (.node (.node (.node .leaf (some Tryz.f258) .leaf) (some Tryz.f130) .leaf) (some Tryz.f66) (.node (.node .leaf (some Tryz.f322) .leaf) (some Tryz.f194) .leaf)) (some Tryz.f34) (.node (.node (.node .leaf (some Tryz.f290) .leaf) (some Tryz.f162) .leaf) (some Tryz.f98) (.node .leaf (some Tryz.f226) .leaf))) (some Tryz.f18) (.node (.node (.node (.node .leaf (some Tryz.f274) .leaf) (some Tryz.f146) .leaf) (some Tryz.f82) (.node .leaf (some Tryz.f210) .leaf)) (some Tryz.f50) (.node (.node (.node .leaf (some Tryz.f306) .leaf) (some Tryz.f178) .leaf) (some Tryz.f114) (.node .leaf (some Tryz.f242) .leaf)))) (some Tryz.f10) (.node (.node (.node (.node (.node .leaf (some Tryz.f266) .leaf) (some Tryz.f138) .leaf) (some Tryz.f74) (.node .leaf (some Tryz.f202) .leaf)) (some Tryz.f42) (.node (.node (.node .leaf (some Tryz.f298) .leaf) (some Tryz.f170) .leaf) (some Tryz.f106) (.node .leaf (some Tryz.f234) .leaf))) (some Tryz.f26) (.node (.node (.node (.node .leaf (some Tryz.f282) .leaf) (some Tryz.f154) .leaf) (some Tryz.f90) (.node .leaf (some Tryz.f218) .leaf)) (some Tryz.f58) (.node (.node (.node .leaf (some Tryz.f314) .leaf) (some Tryz.f186) .leaf) (some Tryz.f122) (.node .leaf (some Tryz.f250) .leaf))))) (some Tryz.f6) (.node (.node (.node (.node (.node (.node .leaf (some Tryz.f262) .leaf) (some Tryz.f134) .leaf) (some Tryz.f70) (.node (.node .leaf (some Tryz.f326) .leaf) (some Tryz.f198) .leaf)) (some Tryz.f38) (.node (.node (.node .leaf (some Tryz.f294) .leaf) (some Tryz.f166) .leaf) (some Tryz.f102) (.node .leaf (some Tryz.f230) .leaf))) (some Tryz.f22) (.node (.node (.node (.node .leaf (some Tryz.f278) .leaf) (some Tryz.f150) .leaf) (some Tryz.f86) (.node .leaf (some Tryz.f214) .leaf)) (some Tryz.f54) (.node (.node (.node .leaf (some Tryz.f310) .leaf) (some Tryz.f182) .leaf) (some Tryz.f118) (.node .leaf (some Tryz.f246) .leaf)))) (some Tryz.f14) (.node (.node (.node (.node (.node .leaf (some Tryz.f270) .leaf) (some Tryz.f142) .leaf) (some Tryz.f78) (.node .leaf (some Tryz.f206) .leaf)) (some Tryz.f46) (.node (.node (.node .leaf (some Tryz.f302) .leaf) (some Tryz.f174) .leaf) (some Tryz.f110) (.node .leaf (some Tryz.f238) .leaf))) (some Tryz.f30) (.node (.node (.node (.node .leaf (some Tryz.f286) .leaf) (some Tryz.f158) .leaf) (some Tryz.f94) (.node .leaf (some Tryz.f222) .leaf)) (some Tryz.f62) (.node (.node (.node .leaf (some Tryz.f318) .leaf) (some Tryz.f190) .leaf) (some Tryz.f126) (.node .leaf (some Tryz.f254) .leaf))))))))
def FnP (f : Nat) (F : Func) : Prop := Tryz.prog.funcs[f]? = some F ∧ F.body ≠ none ∧ (F.name == "runtime.NumGoroutine") = false
def TyP (t : Nat) (i : TyI) : Prop := Tryz.prog.underlying t = some i.desc ∧ ∃ inf, Tryz.prog.info? t = some inf ∧ inf.size = i.size ∧ inf.bytes = i.bytes ∧ inf.zero = some i.zero ∧ i.zero.cells.size = i.size ∧ free i.zero = true ∧ i.size < 4294967296
def FlP (t : Nat) (i : TyI) : Prop := i.flat = true → ∀ xs ys b, xs.length = i.size → cellsEq i.zero.cells.toList xs ys = some b → ∀ w, (Op.equal t (.agg xs.toArray) (.agg ys.toArray)).run Tryz.prog w = .ok b w ∧ ∀ op x y, (eqGuard op t x y (.agg xs.toArray) (.agg ys.toArray)).run Tryz.prog w = .ok () w
theorem p3 : FnP 3 Tryz.f3 := ⟨Tryz.func3, fun h => Option.some_ne_none _ h, by decide +kernel⟩
theorem p4 : FnP 4 Tryz.f4 := ⟨Tryz.func4, fun h => Option.some_ne_none _ h, by decide +kernel⟩
theorem p5 : FnP 5 Tryz.f5 := ⟨Tryz.func5, fun h => Option.some_ne_none _ h, by decide +kernel⟩
theorem p6 : FnP 6 Tryz.f6 := ⟨Tryz.func6, fun h => Option.some_ne_none _ h, by decide +kernel⟩
theorem p7 : FnP 7 Tryz.f7 := ⟨Tryz.func7, fun h => Option.some_ne_none _ h, by decide +kernel⟩
theorem p8 : FnP 8 Tryz.f8 := ⟨Tryz.func8, fun h => Option.some_ne_none _ h, by decide +kernel⟩
theorem p9 : FnP 9 Tryz.f9 := ⟨Tryz.func9, fun h => Option.some_ne_none _ h, by decide +kernel⟩
theorem p10 : FnP 10 Tryz.f10 := ⟨Tryz.func10, fun h => Option.some_ne_none _ h, by decide +kernel⟩
theorem p11 : FnP 11 Tryz.f11 := ⟨Tryz.func11, fun h => Option.some_ne_none _ h, by decide +kernel⟩
theorem p12 : FnP 12 Tryz.f12 := ⟨Tryz.func12, fun h => Option.some_ne_none _ h, by decide +kernel⟩
theorem p13 : FnP 13 Tryz.f13 := ⟨Tryz.func13, fun h => Option.some_ne_none _ h, by decide +kernel⟩
theorem p14 : FnP 14 Tryz.f14 := ⟨Tryz.func14, fun h => Option.some_ne_none _ h, by decide +kernel⟩
theorem p15 : FnP 15 Tryz.f15 := ⟨Tryz.func15, fun h => Option.some_ne_none _ h, by decide +kernel⟩
theorem p16 : FnP 16 Tryz.f16 := ⟨Tryz.func16, fun h => Option.some_ne_none _ h, by decide +kernel⟩
theorem p17 : FnP 17 Tryz.f17 := ⟨Tryz.func17, fun h => Option.some_ne_none _ h, by decide +kernel⟩
theorem p18 : FnP 18 Tryz.f18 := ⟨Tryz.func18, fun h => Option.some_ne_none _ h, by decide +kernel⟩
theorem p19 : FnP 19 Tryz.f19 := ⟨Tryz.func19, fun h => Option.some_ne_none _ h, by decide +kernel⟩
theorem p20 : FnP 20 Tryz.f20 := ⟨Tryz.func20, fun h => Option.some_ne_none _ h, by decide +kernel⟩
theorem p21 : FnP 21 Tryz.f21 := ⟨Tryz.func21, fun h => Option.some_ne_none _ h, by decide +kernel⟩
theorem p22 : FnP 22 Tryz.f22 := ⟨Tryz.func22, fun h => Option.some_ne_none _ h, by decide +kernel⟩
theorem p23 : FnP 23 Tryz.f23 := ⟨Tryz.func23, fun h => Option.some_ne_none _ h, by decide +kernel⟩
theorem p24 : FnP 24 Tryz.f24 := ⟨Tryz.func24, fun h => Option.some_ne_none _ h, by decide +kernel⟩
theorem p25 : FnP 25 Tryz.f25 := ⟨Tryz.func25, fun h => Option.some_ne_none _ h, by decide +kernel⟩
theorem p26 : FnP 26 Tryz.f26 := ⟨Tryz.func26, fun h => Option.some_ne_none _ h, by decide +kernel⟩
theorem p27 : FnP 27 Tryz.f27 := ⟨Tryz.func27, fun h => Option.some_ne_none _ h, by decide +kernel⟩
theorem p28 : FnP 28 Tryz.f28 := ⟨Tryz.func28, fun h => Option.some_ne_none _ h, by decide +kernel⟩
theorem p29 : FnP 29 Tryz.f29 := ⟨Tryz.func29, fun h => Option.some_ne_none _ h, by decide +kernel⟩
theorem p30 : FnP 30 Tryz.f30 := ⟨Tryz.func30, fun h => Option.some_ne_none _ h, by decide +kernel⟩
theorem p31 : FnP 31 Tryz.f31 := ⟨Tryz.func31, fun h => Option.some_ne_none _ h, by decide +kernel⟩
theorem p32 : FnP 32 Tryz.f32 := ⟨Tryz.func32, fun h => Option.some_ne_none _ h, by decide +kernel⟩
theorem p33 : FnP 33 Tryz.f33 := ⟨Tryz.func33, fun h => Option.some_ne_none _ h, by decide +kernel⟩
theorem p34 : FnP 34 Tryz.f34 := ⟨Tryz.func34, fun h => Option.some_ne_none _ h, by decide +kernel⟩
theorem p35 : FnP 35 Tryz.f35 := ⟨Tryz.func35, fun h => Option.some_ne_none _ h, by decide +kernel⟩
theorem p36 : FnP 36 Tryz.f36 := ⟨Tryz.func36, fun h => Option.some_ne_none _ h, by decide +kernel⟩
theorem p37 : FnP 37 Tryz.f37 := ⟨Tryz.func37, fun h => Option.some_ne_none _ h, by decide +kernel⟩
theorem p38 : FnP 38 Tryz.f38 := ⟨Tryz.func38, fun h => Option.some_ne_none _ h, by decide +kernel⟩
theorem p39 : FnP 39 Tryz.f39 := ⟨Tryz.func39, fun h => Option.some_ne_none _ h, by decide +kernel⟩
theorem p40 : FnP 40 Tryz.f40 := ⟨Tryz.func40, fun h => Option.some_ne_none _ h, by decide +kernel⟩
theorem p41 : FnP 41 Tryz.f41 := ⟨Tryz.func41, fun h => Option.some_ne_none _ h, by decide +kernel⟩
theorem p42 : FnP 42 Tryz.f42 := ⟨Tryz.func42, fun h => Option.some_ne_none _ h, by decide +kernel⟩
theorem p43 : FnP 43 Tryz.f43 := ⟨Tryz.func43, fun h => Option.some_ne_none _ h, by decide +kernel⟩
theorem p44 : FnP 44 Tryz.f44 := ⟨Tryz.func44, fun h => Option.some_ne_none _ h, by decide +kernel⟩
theorem p45 : FnP 45 Tryz.f45 := ⟨Tryz.func45, fun h => Option.some_ne_none _ h, by decide +kernel⟩
theorem p46 : FnP 46 Tryz.f46 := ⟨Tryz.func46, fun h => Option.some_ne_none _ h, by decide +kernel⟩
theorem p47 : FnP 47 Tryz.f47 := ⟨Tryz.func47, fun h => Option.some_ne_none _ h, by decide +kernel⟩
theorem p48 : FnP 48 Tryz.f48 := ⟨Tryz.func48, fun h => Option.some_ne_none _ h, by decide +kernel⟩
theorem p49 : FnP 49 Tryz.f49 := ⟨Tryz.func49, fun h => Option.some_ne_none _ h, by decide +kernel⟩
theorem p50 : FnP 50 Tryz.f50 := ⟨Tryz.func50, fun h => Option.some_ne_none _ h, by decide +kernel⟩
theorem p51 : FnP 51 Tryz.f51 := ⟨Tryz.func51, fun h => Option.some_ne_none _ h, by decide +kernel⟩
theorem p52 : FnP 52 Tryz.f52 := ⟨Tryz.func52, fun h => Option.some_ne_none _ h, by decide +kernel⟩
theorem p53 : FnP 53 Tryz.f53 := ⟨Tryz.func53, fun h => Option.some_ne_none _ h, by decide +kernel⟩
theorem p54 : FnP 54 Tryz.f54 := ⟨Tryz.func54, fun h => Option.some_ne_none _ h, by decide +kernel⟩
theorem p55 : FnP 55 Tryz.f55 := ⟨Tryz.func55, fun h => Option.some_ne_none _ h, by decide +kernel⟩
theorem p56 : FnP 56 Tryz.f56 := ⟨Tryz.func56, fun h => Option.some_ne_none _ h, by decide +kernel⟩
theorem p57 : FnP 57 Tryz.f57 := ⟨Tryz.func57, fun h => Option.some_ne_none _ h, by decide +kernel⟩
theorem p58 : FnP 58 Tryz.f58 := ⟨Tryz.func58, fun h => Option.some_ne_none _ h, by decide +kernel⟩
theorem p59 : FnP 59 Tryz.f59 := ⟨Tryz.func59, fun h => Option.some_ne_none _ h, by decide +kernel⟩
theorem p60 : FnP 60 Tryz.f60 := ⟨Tryz.func60, fun h => Option.some_ne_none _ h, by decide +kernel⟩
theorem p61 : FnP 61 Tryz.f61 := ⟨Tryz.func61, fun h => Option.some_ne_none _ h, by decide +kernel⟩
theorem p62 : FnP 62 Tryz.f62 := ⟨Tryz.func62, fun h => Option.some_ne_none _ h, by decide +kernel⟩
theorem p63 : FnP 63 Tryz.f63 := ⟨Tryz.func63, fun h => Option.some_ne_none _ h, by decide +kernel⟩
theorem p64 : FnP 64 Tryz.f64 := ⟨Tryz.func64, fun h => Option.some_ne_none _ h, by decide +kernel⟩
theorem p65 : FnP 65 Tryz.f65 := ⟨Tryz.func65, fun h => Option.some_ne_none _ h, by decide +kernel⟩
theorem p66 : FnP 66 Tryz.f66 := ⟨Tryz.func66, fun h => Option.some_ne_none _ h, by decide +kernel⟩
theorem p67 : FnP 67 Tryz.f67 := ⟨Tryz.func67, fun h => Option.some_ne_none _ h, by decide +kernel⟩
theorem p68 : FnP 68 Tryz.f68 := ⟨Tryz.func68, fun h => Option.some_ne_none _ h, by decide +kernel⟩
theorem p69 : FnP 69 Tryz.f69 := ⟨Tryz.func69, fun h => Option.some_ne_none _ h, by decide +kernel⟩
theorem p70 : FnP 70 Tryz.f70 := ⟨Tryz.func70, fun h => Option.some_ne_none _ h, by decide +kernel⟩
theorem p71 : FnP 71 Tryz.f71 := ⟨Tryz.func71, fun h => Option.some_ne_none _ h, by decide +kernel⟩
theorem p72 : FnP 72 Tryz.f72 := ⟨Tryz.func72, fun h => Option.some_ne_none _ h, by decide +kernel⟩
theorem p73 : FnP 73 Tryz.f73 := ⟨Tryz.func73, fun h => Option.some_ne_none _ h, by decide +kernel⟩
theorem p74 : FnP 74 Tryz.f74 := ⟨Tryz.func74, fun h => Option.some_ne_none _ h, by decide +kernel⟩
theorem p75 : FnP 75 Tryz.f75 := ⟨Tryz.func75, fun h => Option.some_ne_none _ h, by decide +kernel⟩
theorem p76 : FnP 76 Tryz.f76 := ⟨Tryz.func76, fun h => Option.some_ne_none _ h, by decide +kernel⟩
theorem p77 : FnP 77 Tryz.f77 := ⟨Tryz.func77, fun h => Option.some_ne_none _ h, by decide +kernel⟩
theorem p78 : FnP 78 Tryz.f78 := ⟨Tryz.func78, fun h => Option.some_ne_none _ h, by decide +kernel⟩
theorem p79 : FnP 79 Tryz.f79 := ⟨Tryz.func79, fun h => Option.some_ne_none _ h, by decide +kernel⟩
theorem p80 : FnP 80 Tryz.f80 := ⟨Tryz.func80, fun h => Option.some_ne_none _ h, by decide +kernel⟩
theorem p81 : FnP 81 Tryz.f81 := ⟨Tryz.func81, fun h => Option.some_ne_none _ h, by decide +kernel⟩
theorem p82 : FnP 82 Tryz.f82 := ⟨Tryz.func82, fun h => Option.some_ne_none _ h, by decide +kernel⟩
theorem p83 : FnP 83 Tryz.f83 := ⟨Tryz.func83, fun h => Option.some_ne_none _ h, by decide +kernel⟩
theorem p84 : FnP 84 Tryz.f84 := ⟨Tryz.func84, fun h => Option.some_ne_none _ h, by decide +kernel⟩
theorem p85 : FnP 85 Tryz.f85 := ⟨Tryz.func85, fun h => Option.some_ne_none _ h, by decide +kernel⟩
theorem p86 : FnP 86 Tryz.f86 := ⟨Tryz.func86, fun h => Option.some_ne_none _ h, by decide +kernel⟩
theorem p87 : FnP 87 Tryz.f87 := ⟨Tryz.func87, fun h => Option.some_ne_none _ h, by decide +kernel⟩
theorem p88 : FnP 88 Tryz.f88 := ⟨Tryz.func88, fun h => Option.some_ne_none _ h, by decide +kernel⟩
theorem p89 : FnP 89 Tryz.f89 := ⟨Tryz.func89, fun h => Option.some_ne_none _ h, by decide +kernel⟩
theorem p90 : FnP 90 Tryz.f90 := ⟨Tryz.func90, fun h => Option.some_ne_none _ h, by decide +kernel⟩
theorem p91 : FnP 91 Tryz.f91 := ⟨Tryz.func91, fun h => Option.some_ne_none _ h, by decide +kernel⟩
theorem p92 : FnP 92 Tryz.f92 := ⟨Tryz.func92, fun h => Option.some_ne_none _ h, by decide +kernel⟩
theorem p93 : FnP 93 Tryz.f93 := ⟨Tryz.func93, fun h => Option.some_ne_none _ h, by decide +kernel⟩
theorem p94 : FnP 94 Tryz.f94 := ⟨Tryz.func94, fun h => Option.some_ne_none _ h, by decide +kernel⟩
theorem p95 : FnP 95 Tryz.f95 := ⟨Tryz.func95, fun h => Option.some_ne_none _ h, by decide +kernel⟩
theorem p96 : FnP 96 Tryz.f96 := ⟨Tryz.func96, fun h => Option.some_ne_none _ h, by decide +kernel⟩
theorem p97 : FnP 97 Tryz.f97 := ⟨Tryz.func97, fun h => Option.some_ne_none _ h, by decide +kernel⟩
theorem p98 : FnP 98 Tryz.f98 := ⟨Tryz.func98, fun h => Option.some_ne_none _ h, by decide +kernel⟩
theorem p99 : FnP 99 Tryz.f99 := ⟨Tryz.func99, fun h => Option.some_ne_none _ h, by decide +kernel⟩
theorem p100 : FnP 100 Tryz.f100 := ⟨Tryz.func100, fun h => Option.some_ne_none _ h, by decide +kernel⟩
theorem p101 : FnP 101 Tryz.f101 := ⟨Tryz.func101, fun h => Option.some_ne_none _ h, by decide +kernel⟩
theorem p102 : FnP 102 Tryz.f102 := ⟨Tryz.func102, fun h => Option.some_ne_none _ h, by decide +kernel⟩
theorem p103 : FnP 103 Tryz.f103 := ⟨Tryz.func103, fun h => Option.some_ne_none _ h, by decide +kernel⟩
theorem p104 : FnP 104 Tryz.f104 := ⟨Tryz.func104, fun h => Option.some_ne_none _ h, by decide +kernel⟩
theorem p105 : FnP 105 Tryz.f105 := ⟨Tryz.func105, fun h => Option.some_ne_none _ h, by decide +kernel⟩
theorem p106 : FnP 106 Tryz.f106 := ⟨Tryz.func106, fun h => Option.some_ne_none _ h, by decide +kernel⟩
theorem p107 : FnP 107 Tryz.f107 := ⟨Tryz.func107, fun h => Option.some_ne_none _ h, by decide +kernel⟩
theorem p108 : FnP 108 Tryz.f108 := ⟨Tryz.func108, fun h => Option.some_ne_none _ h, by decide +kernel⟩
theorem p109 : FnP 109 Tryz.f109 := ⟨Tryz.func109, fun h => Option.some_ne_none _ h, by decide +kernel⟩
theorem p110 : FnP 110 Tryz.f110 := ⟨Tryz.func110, fun h => Option.some_ne_none _ h, by decide +kernel⟩
theorem p111 : FnP 111 Tryz.f111 := ⟨Tryz.func111, fun h => Option.some_ne_none _ h, by decide +kernel⟩
theorem p112 : FnP 112 Tryz.f112 := ⟨Tryz.func112, fun h => Option.some_ne_none _ h, by decide +kernel⟩
theorem p113 : FnP 113 Tryz.f113 := ⟨Tryz.func113, fun h => Option.some_ne_none _ h, by decide +kernel⟩
theorem p114 : FnP 114 Tryz.f114 := ⟨Tryz.func114, fun h => Option.some_ne_none _ h, by decide +kernel⟩
theorem p115 : FnP 115 Tryz.f115 := ⟨Tryz.func115, fun h => Option.some_ne_none _ h, by decide +kernel⟩
theorem p116 : FnP 116 Tryz.f116 := ⟨Tryz.func116, fun h => Option.some_ne_none _ h, by decide +kernel⟩
theorem p117 : FnP 117 Tryz.f117 := ⟨Tryz.func117, fun h => Option.some_ne_none _ h, by decide +kernel⟩
theorem p118 : FnP 118 Tryz.f118 := ⟨Tryz.func118, fun h => Option.some_ne_none _ h, by decide +kernel⟩
theorem p119 : FnP 119 Tryz.f119 := ⟨Tryz.func119, fun h => Option.some_ne_none _ h, by decide +kernel⟩
theorem p120 : FnP 120 Tryz.f120 := ⟨Tryz.func120, fun h => Option.some_ne_none _ h, by decide +kernel⟩
theorem p121 : FnP 121 Tryz.f121 := ⟨Tryz.func121, fun h => Option.some_ne_none _ h, by decide +kernel⟩
theorem p122 : FnP 122 Tryz.f122 := ⟨Tryz.func122, fun h => Option.some_ne_none _ h, by decide +kernel⟩
theorem p123 : FnP 123 Tryz.f123 := ⟨Tryz.func123, fun h => Option.some_ne_none _ h, by decide +kernel⟩
theorem p124 : FnP 124 Tryz.f124 := ⟨Tryz.func124, fun h => Option.some_ne_none _ h, by decide +kernel⟩
theorem p125 : FnP 125 Tryz.f125 := ⟨Tryz.func125, fun h => Option.some_ne_none _ h, by decide +kernel⟩
theorem p126 : FnP 126 Tryz.f126 := ⟨Tryz.func126, fun h => Option.some_ne_none _ h, by decide +kernel⟩
theorem p127 : FnP 127 Tryz.f127 := ⟨Tryz.func127, fun h => Option.some_ne_none _ h, by decide +kernel⟩
theorem p128 : FnP 128 Tryz.f128 := ⟨Tryz.func128, fun h => Option.some_ne_none _ h, by decide +kernel⟩
theorem p129 : FnP 129 Tryz.f129 := ⟨Tryz.func129, fun h => Option.some_ne_none _ h, by decide +kernel⟩
theorem p130 : FnP 130 Tryz.f130 := ⟨Tryz.func130, fun h => Option.some_ne_none _ h, by decide +kernel⟩
theorem p131 : FnP 131 Tryz.f131 := ⟨Tryz.func131, fun h => Option.some_ne_none _ h, by decide +kernel⟩
theorem p132 : FnP 132 Tryz.f132 := ⟨Tryz.func132, fun h => Option.some_ne_none _ h, by decide +kernel⟩
theorem p133 : FnP 133 Tryz.f133 := ⟨Tryz.func133, fun h => Option.some_ne_none _ h, by decide +kernel⟩
theorem p134 : FnP 134 Tryz.f134 := ⟨Tryz.func134, fun h => Option.some_ne_none _ h, by decide +kernel⟩
theorem p135 : FnP 135 Tryz.f135 := ⟨Tryz.func135, fun h => Option.some_ne_none _ h, by decide +kernel⟩
theorem p136 : FnP 136 Tryz.f136 := ⟨Tryz.func136, fun h => Option.some_ne_none _ h, by decide +kernel⟩
theorem p137 : FnP 137 Tryz.f137 := ⟨Tryz.func137, fun h => Option.some_ne_none _ h, by decide +kernel⟩
theorem p138 : FnP 138 Tryz.f138 := ⟨Tryz.func138, fun h => Option.some_ne_none _ h, by decide +kernel⟩
theorem p139 : FnP 139 Tryz.f139 := ⟨Tryz.func139, fun h => Option.some_ne_none _ h, by decide +kernel⟩
theorem p140 : FnP 140 Tryz.f140 := ⟨Tryz.func140, fun h => Option.some_ne_none _ h, by decide +kernel⟩
theorem p141 : FnP 141 Tryz.f141 := ⟨Tryz.func141, fun h => Option.some_ne_none _ h, by decide +kernel⟩
theorem p142 : FnP 142 Tryz.f142 := ⟨Tryz.func142, fun h => Option.some_ne_none _ h, by decide +kernel⟩
theorem p143 : FnP 143 Tryz.f143 := ⟨Tryz.func143, fun h => Option.some_ne_none _ h, by decide +kernel⟩
theorem p144 : FnP 144 Tryz.f144 := ⟨Tryz.func144, fun h => Option.some_ne_none _ h, by decide +kernel⟩
theorem p145 : FnP 145 Tryz.f145 := ⟨Tryz.func145, fun h => Option.some_ne_none _ h, by decide +kernel⟩
theorem p146 : FnP 146 Tryz.f146 := ⟨Tryz.func146, fun h => Option.some_ne_none _ h, by decide +kernel⟩
theorem p147 : FnP 147 Tryz.f147 := ⟨Tryz.func147, fun h => Option.some_ne_none _ h, by decide +kernel⟩
theorem p148 : FnP 148 Tryz.f148 := ⟨Tryz.func148, fun h => Option.some_ne_none _ h, by decide +kernel⟩
theorem p149 : FnP 149 Tryz.f149 := ⟨Tryz.func149, fun h => Option.some_ne_none _ h, by decide +kernel⟩
theorem p150 : FnP 150 Tryz.f150 := ⟨Tryz.func150, fun h => Option.some_ne_none _ h, by decide +kernel⟩
theorem p151 : FnP 151 Tryz.f151 := ⟨Tryz.func151, fun h => Option.some_ne_none _ h, by decide +kernel⟩
theorem p152 : FnP 152 Tryz.f152 := ⟨Tryz.func152, fun h => Option.some_ne_none _ h, by decide +kernel⟩
theorem p153 : FnP 153 Tryz.f153 := ⟨Tryz.func153, fun h => Option.some_ne_none _ h, by decide +kernel⟩
theorem p154 : FnP 154 Tryz.f154 := ⟨Tryz.func154, fun h => Option.some_ne_none _ h, by decide +kernel⟩
theorem p155 : FnP 155 Tryz.f155 := ⟨Tryz.func155, fun h => Option.some_ne_none _ h, by decide +kernel⟩
theorem p156 : FnP 156 Tryz.f156 := ⟨Tryz.func156, fun h => Option.some_ne_none _ h, by decide +kernel⟩
theorem p157 : FnP 157 Tryz.f157 := ⟨Tryz.func157, fun h => Option.some_ne_none _ h, by decide +kernel⟩
theorem p158 : FnP 158 Tryz.f158 := ⟨Tryz.func158, fun h => Option.some_ne_none _ h, by decide +kernel⟩
theorem p159 : FnP 159 Tryz.f159 := ⟨Tryz.func159, fun h => Option.some_ne_none _ h, by decide +kernel⟩
theorem p160 : FnP 160 Tryz.f160 := ⟨Tryz.func160, fun h => Option.some_ne_none _ h, by decide +kernel⟩
theorem p161 : FnP 161 Tryz.f161 := ⟨Tryz.func161, fun h => Option.some_ne_none _ h, by decide +kernel⟩
theorem p162 : FnP 162 Tryz.f162 := ⟨Tryz.func162, fun h => Option.some_ne_none _ h, by decide +kernel⟩
theorem p163 : FnP 163 Tryz.f163 := ⟨Tryz.func163, fun h => Option.some_ne_none _ h, by decide +kernel⟩
theorem p164 : FnP 164 Tryz.f164 := ⟨Tryz.func164, fun h => Option.some_ne_none _ h, by decide +kernel⟩
theorem p165 : FnP 165 Tryz.f165 := ⟨Tryz.func165, fun h => Option.some_ne_none _ h, by decide +kernel⟩
theorem p166 : FnP 166 Tryz.f166 := ⟨Tryz.func166, fun h => Option.some_ne_none _ h, by decide +kernel⟩
theorem p167 : FnP 167 Tryz.f167 := ⟨Tryz.func167, fun h => Option.some_ne_none _ h, by decide +kernel⟩
theorem p168 : FnP 168 Tryz.f168 := ⟨Tryz.func168, fun h => Option.some_ne_none _ h, by decide +kernel⟩
theorem p169 : FnP 169 Tryz.f169 := ⟨Tryz.func169, fun h => Option.some_ne_none _ h, by decide +kernel⟩
theorem p170 : FnP 170 Tryz.f170 := ⟨Tryz.func170, fun h => Option.some_ne_none _ h, by decide +kernel⟩
theorem p171 : FnP 171 Tryz.f171 := ⟨Tryz.func171, fun h => Option.some_ne_none _ h, by decide +kernel⟩
theorem p172 : FnP 172 Tryz.f172 := ⟨Tryz.func172, fun h => Option.some_ne_none _ h, by decide +kernel⟩
theorem p173 : FnP 173 Tryz.f173 := ⟨Tryz.func173, fun h => Option.some_ne_none _ h, by decide +kernel⟩
theorem p174 : FnP 174 Tryz.f174 := ⟨Tryz.func174, fun h => Option.some_ne_none _ h, by decide +kernel⟩
theorem p175 : FnP 175 Tryz.f175 := ⟨Tryz.func175, fun h => Option.some_ne_none _ h, by decide +kernel⟩
theorem p176 : FnP 176 Tryz.f176 := ⟨Tryz.func176, fun h => Option.some_ne_none _ h, by decide +kernel⟩
theorem p177 : FnP 177 Tryz.f177 := ⟨Tryz.func177, fun h => Option.some_ne_none _ h, by decide +kernel⟩
theorem p178 : FnP 178 Tryz.f178 := ⟨Tryz.func178, fun h => Option.some_ne_none _ h, by decide +kernel⟩
theorem p179 : FnP 179 Tryz.f179 := ⟨Tryz.func179, fun h => Option.some_ne_none _ h, by decide +kernel⟩
theorem p180 : FnP 180 Tryz.f180 := ⟨Tryz.func180, fun h => Option.some_ne_none _ h, by decide +kernel⟩
theorem p181 : FnP 181 Tryz.f181 := ⟨Tryz.func181, fun h => Option.some_ne_none _ h, by decide +kernel⟩
theorem p182 : FnP 182 Tryz.f182 := ⟨Tryz.func182, fun h => Option.some_ne_none _ h, by decide +kernel⟩
theorem p183 : FnP 183 Tryz.f183 := ⟨Tryz.func183, fun h => Option.some_ne_none _ h, by decide +kernel⟩
theorem p184 : FnP 184 Tryz.f184 := ⟨Tryz.func184, fun h => Option.some_ne_none _ h, by decide +kernel⟩
theorem p185 : FnP 185 Tryz.f185 := ⟨Tryz.func185, fun h => Option.some_ne_none _ h, by decide +kernel⟩
theorem p186 : FnP 186 Tryz.f186 := ⟨Tryz.func186, fun h => Option.some_ne_none _ h, by decide +kernel⟩
theorem p187 : FnP 187 Tryz.f187 := ⟨Tryz.func187, fun h => Option.some_ne_none _ h, by decide +kernel⟩
theorem p188 : FnP 188 Tryz.f188 := ⟨Tryz.func188, fun h => Option.some_ne_none _ h, by decide +kernel⟩
theorem p189 : FnP 189 Tryz.f189 := ⟨Tryz.func189, fun h => Option.some_ne_none _ h, by decide +kernel⟩
theorem p190 : FnP 190 Tryz.f190 := ⟨Tryz.func190, fun h => Option.some_ne_none _ h, by decide +kernel⟩
theorem p191 : FnP 191 Tryz.f191 := ⟨Tryz.func191, fun h => Option.some_ne_none _ h, by decide +kernel⟩
theorem p192 : FnP 192 Tryz.f192 := ⟨Tryz.func192, fun h => Option.some_ne_none _ h, by decide +kernel⟩
theorem p193 : FnP 193 Tryz.f193 := ⟨Tryz.func193, fun h => Option.some_ne_none _ h, by decide +kernel⟩
theorem p194 : FnP 194 Tryz.f194 := ⟨Tryz.func194, fun h => Option.some_ne_none _ h, by decide +kernel⟩
theorem p195 : FnP 195 Tryz.f195 := ⟨Tryz.func195, fun h => Option.some_ne_none _ h, by decide +kernel⟩
theorem p196 : FnP 196 Tryz.f196 := ⟨Tryz.func196, fun h => Option.some_ne_none _ h, by decide +kernel⟩
theorem p197 : FnP 197 Tryz.f197 := ⟨Tryz.func197, fun h => Option.some_ne_none _ h, by decide +kernel⟩
theorem p198 : FnP 198 Tryz.f198 := ⟨Tryz.func198, fun h => Option.some_ne_none _ h, by decide +kernel⟩
theorem p199 : FnP 199 Tryz.f199 := ⟨Tryz.func199, fun h => Option.some_ne_none _ h, by decide +kernel⟩
theorem p200 : FnP 200 Tryz.f200 := ⟨Tryz.func200, fun h => Option.some_ne_none _ h, by decide +kernel⟩
theorem p201 : FnP 201 Tryz.f201 := ⟨Tryz.func201, fun h => Option.some_ne_none _ h, by decide +kernel⟩
theorem p202 : FnP 202 Tryz.f202 := ⟨Tryz.func202, fun h => Option.some_ne_none _ h, by decide +kernel⟩
theorem p203 : FnP 203 Tryz.f203 := ⟨Tryz.func203, fun h => Option.some_ne_none _ h, by decide +kernel⟩
theorem p204 : FnP 204 Tryz.f204 := ⟨Tryz.func204, fun h => Option.some_ne_none _ h, by decide +kernel⟩
theorem p205 : FnP 205 Tryz.f205 := ⟨Tryz.func205, fun h => Option.some_ne_none _ h, by decide +kernel⟩
theorem p206 : FnP 206 Tryz.f206 := ⟨Tryz.func206, fun h => Option.some_ne_none _ h, by decide +kernel⟩
theorem p207 : FnP 207 Tryz.f207 := ⟨Tryz.func207, fun h => Option.some_ne_none _ h, by decide +kernel⟩
theorem p208 : FnP 208 Tryz.f208 := ⟨Tryz.func208, fun h => Option.some_ne_none _ h, by decide +kernel⟩
theorem p209 : FnP 209 Tryz.f209 := ⟨Tryz.func209, fun h => Option.some_ne_none _ h, by decide +kernel⟩
theorem p210 : FnP 210 Tryz.f210 := ⟨Tryz.func210, fun h => Option.some_ne_none _ h, by decide +kernel⟩
theorem p211 : FnP 211 Tryz.f211 := ⟨Tryz.func211, fun h => Option.some_ne_none _ h, by decide +kernel⟩
theorem p212 : FnP 212 Tryz.f212 := ⟨Tryz.func212, fun h => Option.some_ne_none _ h, by decide +kernel⟩
theorem p213 : FnP 213 Tryz.f213 := ⟨Tryz.func213, fun h => Option.some_ne_none _ h, by decide +kernel⟩
theorem p214 : FnP 214 Tryz.f214 := ⟨Tryz.func214, fun h => Option.some_ne_none _ h, by decide +kernel⟩
theorem p215 : FnP 215 Tryz.f215 := ⟨Tryz.func215, fun h => Option.some_ne_none _ h, by decide +kernel⟩
theorem p216 : FnP 216 Tryz.f216 := ⟨Tryz.func216, fun h => Option.some_ne_none _ h, by decide +kernel⟩
theorem p217 : FnP 217 Tryz.f217 := ⟨Tryz.func217, fun h => Option.some_ne_none _ h, by decide +kernel⟩
theorem p218 : FnP 218 Tryz.f218 := ⟨Tryz.func218, fun h => Option.some_ne_none _ h, by decide +kernel⟩
theorem p219 : FnP 219 Tryz.f219 := ⟨Tryz.func219, fun h => Option.some_ne_none _ h, by decide +kernel⟩
theorem p220 : FnP 220 Tryz.f220 := ⟨Tryz.func220, fun h => Option.some_ne_none _ h, by decide +kernel⟩
theorem p221 : FnP 221 Tryz.f221 := ⟨Tryz.func221, fun h => Option.some_ne_none _ h, by decide +kernel⟩
theorem p222 : FnP 222 Tryz.f222 := ⟨Tryz.func222, fun h => Option.some_ne_none _ h, by decide +kernel⟩
theorem p223 : FnP 223 Tryz.f223 := ⟨Tryz.func223, fun h => Option.some_ne_none _ h, by decide +kernel⟩
theorem p224 : FnP 224 Tryz.f224 := ⟨Tryz.func224, fun h => Option.some_ne_none _ h, by decide +kernel⟩
theorem p225 : FnP 225 Tryz.f225 := ⟨Tryz.func225, fun h => Option.some_ne_none _ h, by decide +kernel⟩
theorem p226 : FnP 226 Tryz.f226 := ⟨Tryz.func226, fun h => Option.some_ne_none _ h, by decide +kernel⟩
theorem p227 : FnP 227 Tryz.f227 := ⟨Tryz.func227, fun h => Option.some_ne_none _ h, by decide +kernel⟩
theorem p228 : FnP 228 Tryz.f228 := ⟨Tryz.func228, fun h => Option.some_ne_none _ h, by decide +kernel⟩
theorem p229 : FnP 229 Tryz.f229 := ⟨Tryz.func229, fun h => Option.some_ne_none _ h, by decide +kernel⟩
theorem p230 : FnP 230 Tryz.f230 := ⟨Tryz.func230, fun h => Option.some_ne_none _ h, by decide +kernel⟩
theorem p231 : FnP 231 Tryz.f231 := ⟨Tryz.func231, fun h => Option.some_ne_none _ h, by decide +kernel⟩
theorem p232 : FnP 232 Tryz.f232 := ⟨Tryz.func232, fun h => Option.some_ne_none _ h, by decide +kernel⟩
theorem p233 : FnP 233 Tryz.f233 := ⟨Tryz.func233, fun h => Option.some_ne_none _ h, by decide +kernel⟩
theorem p234 : FnP 234 Tryz.f234 := ⟨Tryz.func234, fun h => Option.some_ne_none _ h, by decide +kernel⟩
theorem p235 : FnP 235 Tryz.f235 := ⟨Tryz.func235, fun h => Option.some_ne_none _ h, by decide +kernel⟩
theorem p236 : FnP 236 Tryz.f236 := ⟨Tryz.func236, fun h => Option.some_ne_none _ h, by decide +kernel⟩
theorem p237 : FnP 237 Tryz.f237 := ⟨Tryz.func237, fun h => Option.some_ne_none _ h, by decide +kernel⟩
theorem p238 : FnP 238 Tryz.f238 := ⟨Tryz.func238, fun h => Option.some_ne_none _ h, by decide +kernel⟩
theorem p239 : FnP 239 Tryz.f239 := ⟨Tryz.func239, fun h => Option.some_ne_none _ h, by decide +kernel⟩
theorem p240 : FnP 240 Tryz.f240 := ⟨Tryz.func240, fun h => Option.some_ne_none _ h, by decide +kernel⟩
theorem p241 : FnP 241 Tryz.f241 := ⟨Tryz.func241, fun h => Option.some_ne_none _ h, by decide +kernel⟩
theorem p242 : FnP 242 Tryz.f242 := ⟨Tryz.func242, fun h => Option.some_ne_none _ h, by decide +kernel⟩
theorem p243 : FnP 243 Tryz.f243 := ⟨Tryz.func243, fun h => Option.some_ne_none _ h, by decide +kernel⟩
theorem p244 : FnP 244 Tryz.f244 := ⟨Tryz.func244, fun h => Option.some_ne_none _ h, by decide +kernel⟩
theorem p245 : FnP 245 Tryz.f245 := ⟨Tryz.func245, fun h => Option.some_ne_none _ h, by decide +kernel⟩
theorem p246 : FnP 246 Tryz.f246 := ⟨Tryz.func246, fun h => Option.some_ne_none _ h, by decide +kernel⟩
theorem p247 : FnP 247 Tryz.f247 := ⟨Tryz.func247, fun h => Option.some_ne_none _ h, by decide +kernel⟩
theorem p248 : FnP 248 Tryz.f248 := ⟨Tryz.func248, fun h => Option.some_ne_none _ h, by decide +kernel⟩
theorem p249 : FnP 249 Tryz.f249 := ⟨Tryz.func249, fun h => Option.some_ne_none _ h, by decide +kernel⟩
theorem p250 : FnP 250 Tryz.f250 := ⟨Tryz.func250, fun h => Option.some_ne_none _ h, by decide +kernel⟩
theorem p251 : FnP 251 Tryz.f251 := ⟨Tryz.func251, fun h => Option.some_ne_none _ h, by decide +kernel⟩
theorem p252 : FnP 252 Tryz.f252 := ⟨Tryz.func252, fun h => Option.some_ne_none _ h, by decide +kernel⟩
theorem p253 : FnP 253 Tryz.f253 := ⟨Tryz.func253, fun h => Option.some_ne_none _ h, by decide +kernel⟩
theorem p254 : FnP 254 Tryz.f254 := ⟨Tryz.func254, fun h => Option.some_ne_none _ h, by decide +kernel⟩
theorem p255 : FnP 255 Tryz.f255 := ⟨Tryz.func255, fun h => Option.some_ne_none _ h, by decide +kernel⟩
theorem p256 : FnP 256 Tryz.f256 := ⟨Tryz.func256, fun h => Option.some_ne_none _ h, by decide +kernel⟩
theorem p257 : FnP 257 Tryz.f257 := ⟨Tryz.func257, fun h => Option.some_ne_none _ h, by decide +kernel⟩
theorem p258 : FnP 258 Tryz.f258 := ⟨Tryz.func258, fun h => Option.some_ne_none _ h, by decide +kernel⟩
theorem p259 : FnP 259 Tryz.f259 := ⟨Tryz.func259, fun h => Option.some_ne_none _ h, by decide +kernel⟩
theorem p260 : FnP 260 Tryz.f260 := ⟨Tryz.func260, fun h => Option.some_ne_none _ h, by decide +kernel⟩
theorem p261 : FnP 261 Tryz.f261 := ⟨Tryz.func261, fun h => Option.some_ne_none _ h, by decide +kernel⟩
theorem p262 : FnP 262 Tryz.f262 := ⟨Tryz.func262, fun h => Option.some_ne_none _ h, by decide +kernel⟩
theorem p263 : FnP 263 Tryz.f263 := ⟨Tryz.func263, fun h => Option.some_ne_none _ h, by decide +kernel⟩
theorem p264 : FnP 264 Tryz.f264 := ⟨Tryz.func264, fun h => Option.some_ne_none _ h, by decide +kernel⟩
theorem p265 : FnP 265 Tryz.f265 := ⟨Tryz.func265, fun h => Option.some_ne_none _ h, by decide +kernel⟩
theorem p266 : FnP 266 Tryz.f266 := ⟨Tryz.func266, fun h => Option.some_ne_none _ h, by decide +kernel⟩
theorem p267 : FnP 267 Tryz.f267 := ⟨Tryz.func267, fun h => Option.some_ne_none _ h, by decide +kernel⟩
theorem p268 : FnP 268 Tryz.f268 := ⟨Tryz.func268, fun h => Option.some_ne_none _ h, by decide +kernel⟩
theorem p269 : FnP 269 Tryz.f269 := ⟨Tryz.func269, fun h => Option.some_ne_none _ h, by decide +kernel⟩
theorem p270 : FnP 270 Tryz.f270 := ⟨Tryz.func270, fun h => Option.some_ne_none _ h, by decide +kernel⟩
theorem p271 : FnP 271 Tryz.f271 := ⟨Tryz.func271, fun h => Option.some_ne_none _ h, by decide +kernel⟩
theorem p272 : FnP 272 Tryz.f272 := ⟨Tryz.func272, fun h => Option.some_ne_none _ h, by decide +kernel⟩
theorem p273 : FnP 273 Tryz.f273 := ⟨Tryz.func273, fun h => Option.some_ne_none _ h, by decide +kernel⟩
theorem p274 : FnP 274 Tryz.f274 := ⟨Tryz.func274, fun h => Option.some_ne_none _ h, by decide +kernel⟩
theorem p275 : FnP 275 Tryz.f275 := ⟨Tryz.func275, fun h => Option.some_ne_none _ h, by decide +kernel⟩
theorem p276 : FnP 276 Tryz.f276 := ⟨Tryz.func276, fun h => Option.some_ne_none _ h, by decide +kernel⟩
theorem p277 : FnP 277 Tryz.f277 := ⟨Tryz.func277, fun h => Option.some_ne_none _ h, by decide +kernel⟩
theorem p278 : FnP 278 Tryz.f278 := ⟨Tryz.func278, fun h => Option.some_ne_none _ h, by decide +kernel⟩
theorem p279 : FnP 279 Tryz.f279 := ⟨Tryz.func279, fun h => Option.some_ne_none _ h, by decide +kernel⟩
theorem p280 : FnP 280 Tryz.f280 := ⟨Tryz.func280, fun h => Option.some_ne_none _ h, by decide +kernel⟩
theorem p281 : FnP 281 Tryz.f281 := ⟨Tryz.func281, fun h => Option.some_ne_none _ h, by decide +kernel⟩
theorem p282 : FnP 282 Tryz.f282 := ⟨Tryz.func282, fun h => Option.some_ne_none _ h, by decide +kernel⟩
theorem p283 : FnP 283 Tryz.f283 := ⟨Tryz.func283, fun h => Option.some_ne_none _ h, by decide +kernel⟩
theorem p284 : FnP 284 Tryz.f284 := ⟨Tryz.func284, fun h => Option.some_ne_none _ h, by decide +kernel⟩
theorem p285 : FnP 285 Tryz.f285 := ⟨Tryz.func285, fun h => Option.some_ne_none _ h, by decide +kernel⟩
theorem p286 : FnP 286 Tryz.f286 := ⟨Tryz.func286, fun h => Option.some_ne_none _ h, by decide +kernel⟩
theorem p287 : FnP 287 Tryz.f287 := ⟨Tryz.func287, fun h => Option.some_ne_none _ h, by decide +kernel⟩
theorem p288 : FnP 288 Tryz.f288 := ⟨Tryz.func288, fun h => Option.some_ne_none _ h, by decide +kernel⟩
theorem p289 : FnP 289 Tryz.f289 := ⟨Tryz.func289, fun h => Option.some_ne_none _ h, by decide +kernel⟩
theorem p290 : FnP 290 Tryz.f290 := ⟨Tryz.func290, fun h => Option.some_ne_none _ h, by decide +kernel⟩
theorem p291 : FnP 291 Tryz.f291 := ⟨Tryz.func291, fun h => Option.some_ne_none _ h, by decide +kernel⟩
theorem p292 : FnP 292 Tryz.f292 := ⟨Tryz.func292, fun h => Option.some_ne_none _ h, by decide +kernel⟩
theorem p293 : FnP 293 Tryz.f293 := ⟨Tryz.func293, fun h => Option.some_ne_none _ h, by decide +kernel⟩
theorem p294 : FnP 294 Tryz.f294 := ⟨Tryz.func294, fun h => Option.some_ne_none _ h, by decide +kernel⟩
theorem p295 : FnP 295 Tryz.f295 := ⟨Tryz.func295, fun h => Option.some_ne_none _ h, by decide +kernel⟩
theorem p296 : FnP 296 Tryz.f296 := ⟨Tryz.func296, fun h => Option.some_ne_none _ h, by decide +kernel⟩
theorem p297 : FnP 297 Tryz.f297 := ⟨Tryz.func297, fun h => Option.some_ne_none _ h, by decide +kernel⟩
theorem p298 : FnP 298 Tryz.f298 := ⟨Tryz.func298, fun h => Option.some_ne_none _ h, by decide +kernel⟩
theorem p299 : FnP 299 Tryz.f299 := ⟨Tryz.func299, fun h => Option.some_ne_none _ h, by decide +kernel⟩
theorem p300 : FnP 300 Tryz.f300 := ⟨Tryz.func300, fun h => Option.some_ne_none _ h, by decide +kernel⟩
theorem p301 : FnP 301 Tryz.f301 := ⟨Tryz.func301, fun h => Option.some_ne_none _ h, by decide +kernel⟩
theorem p302 : FnP 302 Tryz.f302 := ⟨Tryz.func302, fun h => Option.some_ne_none _ h, by decide +kernel⟩
theorem p303 : FnP 303 Tryz.f303 := ⟨Tryz.func303, fun h => Option.some_ne_none _ h, by decide +kernel⟩
theorem p304 : FnP 304 Tryz.f304 := ⟨Tryz.func304, fun h => Option.some_ne_none _ h, by decide +kernel⟩
theorem p305 : FnP 305 Tryz.f305 := ⟨Tryz.func305, fun h => Option.some_ne_none _ h, by decide +kernel⟩
theorem p306 : FnP 306 Tryz.f306 := ⟨Tryz.func306, fun h => Option.some_ne_none _ h, by decide +kernel⟩
theorem p307 : FnP 307 Tryz.f307 := ⟨Tryz.func307, fun h => Option.some_ne_none _ h, by decide +kernel⟩
theorem p308 : FnP 308 Tryz.f308 := ⟨Tryz.func308, fun h => Option.some_ne_none _ h, by decide +kernel⟩
theorem p309 : FnP 309 Tryz.f309 := ⟨Tryz.func309, fun h => Option.some_ne_none _ h, by decide +kernel⟩
theorem p310 : FnP 310 Tryz.f310 := ⟨Tryz.func310, fun h => Option.some_ne_none _ h, by decide +kernel⟩
theorem p311 : FnP 311 Tryz.f311 := ⟨Tryz.func311, fun h => Option.some_ne_none _ h, by decide +kernel⟩
theorem p312 : FnP 312 Tryz.f312 := ⟨Tryz.func312, fun h => Option.some_ne_none _ h, by decide +kernel⟩
theorem p313 : FnP 313 Tryz.f313 := ⟨Tryz.func313, fun h => Option.some_ne_none _ h, by decide +kernel⟩
theorem p314 : FnP 314 Tryz.f314 := ⟨Tryz.func314, fun h => Option.some_ne_none _ h, by decide +kernel⟩
theorem p315 : FnP 315 Tryz.f315 := ⟨Tryz.func315, fun h => Option.some_ne_none _ h, by decide +kernel⟩
theorem p316 : FnP 316 Tryz.f316 := ⟨Tryz.func316, fun h => Option.some_ne_none _ h, by decide +kernel⟩
theorem p317 : FnP 317 Tryz.f317 := ⟨Tryz.func317, fun h => Option.some_ne_none _ h, by decide +kernel⟩
theorem p318 : FnP 318 Tryz.f318 := ⟨Tryz.func318, fun h => Option.some_ne_none _ h, by decide +kernel⟩
theorem p319 : FnP 319 Tryz.f319 := ⟨Tryz.func319, fun h => Option.some_ne_none _ h, by decide +kernel⟩
theorem p320 : FnP 320 Tryz.f320 := ⟨Tryz.func320, fun h => Option.some_ne_none _ h, by decide +kernel⟩
theorem p321 : FnP 321 Tryz.f321 := ⟨Tryz.func321, fun h => Option.some_ne_none _ h, by decide +kernel⟩
theorem p322 : FnP 322 Tryz.f322 := ⟨Tryz.func322, fun h => Option.some_ne_none _ h, by decide +kernel⟩
theorem p323 : FnP 323 Tryz.f323 := ⟨Tryz.func323, fun h => Option.some_ne_none _ h, by decide +kernel⟩
theorem p324 : FnP 324 Tryz.f324 := ⟨Tryz.func324, fun h => Option.some_ne_none _ h, by decide +kernel⟩
theorem p325 : FnP 325 Tryz.f325 := ⟨Tryz.func325, fun h => Option.some_ne_none _ h, by decide +kernel⟩
theorem p326 : FnP 326 Tryz.f326 := ⟨Tryz.func326, fun h => Option.some_ne_none _ h, by decide +kernel⟩
theorem p327 : FnP 327 Tryz.f327 := ⟨Tryz.func327, fun h => Option.some_ne_none _ h, by decide +kernel⟩
theorem p328 : FnP 328 Tryz.f328 := ⟨Tryz.func328, fun h => Option.some_ne_none _ h, by decide +kernel⟩
theorem p329 : FnP 329 Tryz.f329 := ⟨Tryz.func329, fun h => Option.some_ne_none _ h, by decide +kernel⟩
def TF (t : Nat) (i : TyI) : Prop := TyP t i ∧ FlP t i
theorem nf {t : Nat} {i : TyI} (h : i.flat = false) : FlP t i := fun e => by rw [h] at e; cases e
theorem nd {α : Type} {p : Nat → α → Prop} {l r : Tr α} {v : α} (h0 : p 0 v) (hl : ∀ f F, l.get f = some F → p (2 * f + 1) F) (hr : ∀ f F, r.get f = some F → p (2 * f + 2) F) : ∀ f F, (Tr.node l (some v) r).get f = some F → p f F := get_node (fun F h => Option.some.inj h ▸ h0) hl hr
theorem nn {α : Type} {p : Nat → α → Prop} {l r : Tr α} (hl : ∀ f F, l.get f = some F → p (2 * f + 1) F) (hr : ∀ f F, r.get f = some F → p (2 * f + 2) F) : ∀ f F, (Tr.node l none r).get f = some F → p f F := get_node (fun F h => nomatch h) hl hr
theorem lf {α : Type} {p : Nat → α → Prop} : ∀ f F, (Tr.leaf : Tr α).get f = some F → p f F := get_leaf
open Tryz
theorem q0 : TF 0 y0 := ⟨⟨underlying0, t0, by kernel_rfl, rfl, rfl, rfl, rfl, by kernel_rfl, by decide⟩, nf rfl⟩
theorem q1 : TF 1 y1 := ⟨⟨underlying1, t1, by kernel_rfl, rfl, rfl, rfl, rfl, by kernel_rfl, by decide⟩, nf rfl⟩
theorem q2 : TF 2 y2 := ⟨⟨underlying2, t2, by kernel_rfl, rfl, rfl, rfl, rfl, by kernel_rfl, by decide⟩, nf rfl⟩
theorem q3 : TF 3 y3 := ⟨⟨underlying3, t3, by kernel_rfl, rfl, rfl, rfl, rfl, by kernel_rfl, by decide⟩, nf rfl⟩
theorem q4 : TF 4 y4 := ⟨⟨underlying4, t4, by kernel_rfl, rfl, rfl, rfl, rfl, by kernel_rfl, by decide⟩, nf rfl⟩
theorem q5 : TF 5 y5 := ⟨⟨underlying5, t5, by kernel_rfl, rfl, rfl, rfl, rfl, by kernel_rfl, by decide⟩, nf rfl⟩
theorem q6 : TF 6 y6 := ⟨⟨underlying6, t6, by kernel_rfl, rfl, rfl, rfl, rfl, by kernel_rfl, by decide⟩, nf rfl⟩
theorem q7 : TF 7 y7 := ⟨⟨underlying7, t7, by kernel_rfl, rfl, rfl, rfl, rfl, by kernel_rfl, by decide⟩, nf rfl⟩
theorem q8 : TF 8 y8 := ⟨⟨underlying8, t8, by kernel_rfl, rfl, rfl, rfl, rfl, by kernel_rfl, by decide⟩, nf rfl⟩
theorem q9 : TF 9 y9 := ⟨⟨underlying9, t9, by kernel_rfl, rfl, rfl, rfl, rfl, by kernel_rfl, by decide⟩, nf rfl⟩
theorem q10 : TF 10 y10 := ⟨⟨underlying10, t10, by kernel_rfl, rfl, rfl, rfl, rfl, by kernel_rfl, by decide⟩, nf rfl⟩
theorem q11 : TF 11 y11 := ⟨⟨underlying11, t11, by kernel_rfl, rfl, rfl, rfl, rfl, by kernel_rfl, by decide⟩, nf rfl⟩
theorem q12 : TF 12 y12 := ⟨⟨underlying12, t12, by kernel_rfl, rfl, rfl, rfl, rfl, by kernel_rfl, by decide⟩, nf rfl⟩
theorem q13 : TF 13 y13 := ⟨⟨underlying13, t13, by kernel_rfl, rfl, rfl, rfl, rfl, by kernel_rfl, by decide⟩, nf rfl⟩
theorem q14 : TF 14 y14 := ⟨⟨underlying14, t14, by kernel_rfl, rfl, rfl, rfl, rfl, by kernel_rfl, by decide⟩, nf rfl⟩
theorem q15 : TF 15 y15 := ⟨⟨underlying15, t15, by kernel_rfl, rfl, rfl, rfl, rfl, by kernel_rfl, by decide⟩, nf rfl⟩
theorem q16 : TF 16 y16 := ⟨⟨underlying16, t16, by kernel_rfl, rfl, rfl, rfl, rfl, by kernel_rfl, by decide⟩, nf rfl⟩
theorem q17 : TF 17 y17 := ⟨⟨underlying17, t17, by kernel_rfl, rfl, rfl, rfl, rfl, by kernel_rfl, by decide⟩, nf rfl⟩
theorem q18 : TF 18 y18 := ⟨⟨underlying18, t18, by kernel_rfl, rfl, rfl, rfl, rfl, by kernel_rfl, by decide⟩, nf rfl⟩
theorem q19 : TF 19 y19 := ⟨⟨underlying19, t19, by kernel_rfl, rfl, rfl, rfl, rfl, by kernel_rfl, by decide⟩, nf rfl⟩
theorem q20 : TF 20 y20 := ⟨⟨underlying20, t20, by kernel_rfl, rfl, rfl, rfl, rfl, by kernel_rfl, by decide⟩, nf rfl⟩
theorem q21 : TF 21 y21 := ⟨⟨underlying21, t21, by kernel_rfl, rfl, rfl, rfl, rfl, by kernel_rfl, by decide⟩, nf rfl⟩
theorem q22 : TF 22 y22 := ⟨⟨underlying22, t22, by kernel_rfl, rfl, rfl, rfl, rfl, by kernel_rfl, by decide⟩, nf rfl⟩
theorem q23 : TF 23 y23 := ⟨⟨underlying23, t23, by kernel_rfl, rfl, rfl, rfl, rfl, by kernel_rfl, by decide⟩, nf rfl⟩
theorem q24 : TF 24 y24 := ⟨⟨underlying24, t24, by kernel_rfl, rfl, rfl, rfl, rfl, by kernel_rfl, by decide⟩, nf rfl⟩
theorem q25 : TF 25 y25 := ⟨⟨underlying25, t25, by kernel_rfl, rfl, rfl, rfl, rfl, by kernel_rfl, by decide⟩, nf rfl⟩
theorem q26 : TF 26 y26 := ⟨⟨underlying26, t26, by kernel_rfl, rfl, rfl, rfl, rfl, by kernel_rfl, by decide⟩, nf rfl⟩
theorem q27 : TF 27 y27 := ⟨⟨underlying27, t27, by kernel_rfl, rfl, rfl, rfl, rfl, by kernel_rfl, by decide⟩, nf rfl⟩
theorem q28 : TF 28 y28 := ⟨⟨underlying28, t28, by kernel_rfl, rfl, rfl, rfl, rfl, by kernel_rfl, by decide⟩, nf rfl⟩
theorem q29 : TF 29 y29 := ⟨⟨underlying29, t29, by kernel_rfl, rfl, rfl, rfl, rfl, by kernel_rfl, by decide⟩, nf rfl⟩
theorem q30 : TF 30 y30 := ⟨⟨underlying30, t30, by kernel_rfl, rfl, rfl, rfl, rfl, by kernel_rfl, by decide⟩, nf rfl⟩
theorem q31 : TF 31 y31 := ⟨⟨underlying31, t31, by kernel_rfl, rfl, rfl, rfl, rfl, by kernel_rfl, by decide⟩, nf rfl⟩
theorem q32 : TF 32 y32 := ⟨⟨underlying32, t32, by kernel_rfl, rfl, rfl, rfl, rfl, by kernel_rfl, by decide⟩, nf rfl⟩
theorem q33 : TF 33 y33 := ⟨⟨underlying33, t33, by kernel_rfl, rfl, rfl, rfl, rfl, by kernel_rfl, by decide⟩, nf rfl⟩
theorem q34 : TF 34 y34 := ⟨⟨underlying34, t34, by kernel_rfl, rfl, rfl, rfl, rfl, by kernel_rfl, by decide⟩, nf rfl⟩
theorem q35 : TF 35 y35 := ⟨⟨underlying35, t35, by kernel_rfl, rfl, rfl, rfl, rfl, by kernel_rfl, by decide⟩, nf rfl⟩
theorem q36 : TF 36 y36 := ⟨⟨underlying36, t36, by kernel_rfl, rfl, rfl, rfl, rfl, by kernel_rfl, by decide⟩, nf rfl⟩
theorem q37 : TF 37 y37 := ⟨⟨underlying37, t37, by kernel_rfl, rfl, rfl, rfl, rfl, by kernel_rfl, by decide⟩, nf rfl⟩
theorem q38 : TF 38 y38 := ⟨⟨underlying38, t38, by kernel_rfl, rfl, rfl, rfl, rfl, by kernel_rfl, by decide⟩, fun _ xs ys b hl hb w => flat_struct3s Tryz.underlying38 Tryz.underlying3 Tryz.underlying9 ⟨rfl, rfl, rfl, rfl⟩ ⟨rfl, rfl, rfl, rfl⟩ (by decide +kernel) (by kernel_rfl) (by kernel_rfl) (by kernel_rfl) (by kernel_rfl) ⟨_, rfl⟩ xs ys b hb w (by kernel_rfl)⟩
theorem q39 : TF 39 y39 := ⟨⟨underlying39, t39, by kernel_rfl, rfl, rfl, rfl, rfl, by kernel_rfl, by decide⟩, nf rfl⟩
theorem q40 : TF 40 y40 := ⟨⟨underlying40, t40, by kernel_rfl, rfl, rfl, rfl, rfl, by kernel_rfl, by decide⟩, nf rfl⟩
theorem q41 : TF 41 y41 := ⟨⟨underlying41, t41, by kernel_rfl, rfl, rfl, rfl, rfl, by kernel_rfl, by decide⟩, nf rfl⟩
theorem q42 : TF 42 y42 := ⟨⟨underlying42, t42, by kernel_rfl, rfl, rfl, rfl, rfl, by kernel_rfl, by decide⟩, nf rfl⟩
theorem q43 : TF 43 y43 := ⟨⟨underlying43, t43, by kernel_rfl, rfl, rfl, rfl, rfl, by kernel_rfl, by decide⟩, fun _ xs ys b hl hb w => flat_struct5 Tryz.underlying43 Tryz.underlying3 ⟨rfl, rfl, rfl, rfl, rfl⟩ ⟨rfl, rfl, rfl, rfl, rfl⟩ (by decide +kernel) (by kernel_rfl) xs ys b hl (cellsEq_ints _ _ _ _ (by kernel_rfl) hb) w (by kernel_rfl)⟩
theorem q44 : TF 44 y44 := ⟨⟨underlying44, t44, by kernel_rfl, rfl, rfl, rfl, rfl, by kernel_rfl, by decide⟩, nf rfl⟩
theorem q45 : TF 45 y45 := ⟨⟨underlying45, t45, by kernel_rfl, rfl, rfl, rfl, rfl, by kernel_rfl, by decide⟩, nf rfl⟩
theorem q46 : TF 46 y46 := ⟨⟨underlying46, t46, by kernel_rfl, rfl, rfl, rfl, rfl, by kernel_rfl, by decide⟩, nf rfl⟩
theorem q47 : TF 47 y47 := ⟨⟨underlying47, t47, by kernel_rfl, rfl, rfl, rfl, rfl, by kernel_rfl, by decide⟩, nf rfl⟩
theorem q48 : TF 48 y48 := ⟨⟨underlying48, t48, by kernel_rfl, rfl, rfl, rfl, rfl, by kernel_rfl, by decide⟩, nf rfl⟩
theorem q49 : TF 49 y49 := ⟨⟨underlying49, t49, by kernel_rfl, rfl, rfl, rfl, rfl, by kernel_rfl, by decide⟩, nf rfl⟩
theorem q50 : TF 50 y50 := ⟨⟨underlying50, t50, by kernel_rfl, rfl, rfl, rfl, rfl, by kernel_rfl, by decide⟩, nf rfl⟩
theorem q51 : TF 51 y51 := ⟨⟨underlying51, t51, by kernel_rfl, rfl, rfl, rfl, rfl, by kernel_rfl, by decide⟩, nf rfl⟩
theorem q52 : TF 52 y52 := ⟨⟨underlying52, t52, by kernel_rfl, rfl, rfl, rfl, rfl, by kernel_rfl, by decide⟩, nf rfl⟩
theorem q53 : TF 53 y53 := ⟨⟨underlying53, t53, by kernel_rfl, rfl, rfl, rfl, rfl, by kernel_rfl, by decide⟩, nf rfl⟩
theorem q54 : TF 54 y54 := ⟨⟨underlying54, t54, by kernel_rfl, rfl, rfl, rfl, rfl, by kernel_rfl, by decide⟩, nf rfl⟩
theorem q55 : TF 55 y55 := ⟨⟨underlying55, t55, by kernel_rfl, rfl, rfl, rfl, rfl, by kernel_rfl, by decide⟩, nf rfl⟩
theorem q56 : TF 56 y56 := ⟨⟨underlying56, t56, by kernel_rfl, rfl, rfl, rfl, rfl, by kernel_rfl, by decide⟩, nf rfl⟩
theorem q57 : TF 57 y57 := ⟨⟨underlying57, t57, by kernel_rfl, rfl, rfl, rfl, rfl, by kernel_rfl, by decide⟩, nf rfl⟩
theorem q58 : TF 58 y58 := ⟨⟨underlying58, t58, by kernel_rfl, rfl, rfl, rfl, rfl, by kernel_rfl, by decide⟩, nf rfl⟩
theorem q59 : TF 59 y59 := ⟨⟨underlying59, t59, by kernel_rfl, rfl, rfl, rfl, rfl, by kernel_rfl, by decide⟩, nf rfl⟩
theorem q60 : TF 60 y60 := ⟨⟨underlying60, t60, by kernel_rfl, rfl, rfl, rfl, rfl, by kernel_rfl, by decide⟩, nf rfl⟩
theorem q61 : TF 61 y61 := ⟨⟨underlying61, t61, by kernel_rfl, rfl, rfl, rfl, rfl, by kernel_rfl, by decide⟩, nf rfl⟩
theorem q62 : TF 62 y62 := ⟨⟨underlying62, t62, by kernel_rfl, rfl, rfl, rfl, rfl, by kernel_rfl, by decide⟩, nf rfl⟩
theorem q63 : TF 63 y63 := ⟨⟨underlying63, t63, by kernel_rfl, rfl, rfl, rfl, rfl, by kernel_rfl, by decide⟩, nf rfl⟩
theorem q64 : TF 64 y64 := ⟨⟨underlying64, t64, by kernel_rfl, rfl, rfl, rfl, rfl, by kernel_rfl, by decide⟩, nf rfl⟩
theorem q65 : TF 65 y65 := ⟨⟨underlying65, t65, by kernel_rfl, rfl, rfl, rfl, rfl, by kernel_rfl, by decide⟩, nf rfl⟩
theorem q66 : TF 66 y66 := ⟨⟨underlying66, t66, by kernel_rfl, rfl, rfl, rfl, rfl, by kernel_rfl, by decide⟩, nf rfl⟩
theorem q67 : TF 67 y67 := ⟨⟨underlying67, t67, by kernel_rfl, rfl, rfl, rfl, rfl, by kernel_rfl, by decide⟩, nf rfl⟩
theorem q68 : TF 68 y68 := ⟨⟨underlying68, t68, by kernel_rfl, rfl, rfl, rfl, rfl, by kernel_rfl, by decide⟩, nf rfl⟩
theorem q69 : TF 69 y69 := ⟨⟨underlying69, t69, by kernel_rfl, rfl, rfl, rfl, rfl, by kernel_rfl, by decide⟩, nf rfl⟩
theorem q70 : TF 70 y70 := ⟨⟨underlying70, t70, by kernel_rfl, rfl, rfl, rfl, rfl, by kernel_rfl, by decide⟩, nf rfl⟩
theorem q71 : TF 71 y71 := ⟨⟨underlying71, t71, by kernel_rfl, rfl, rfl, rfl, rfl, by kernel_rfl, by decide⟩, nf rfl⟩
theorem q72 : TF 72 y72 := ⟨⟨underlying72, t72, by kernel_rfl, rfl, rfl, rfl, rfl, by kernel_rfl, by decide⟩, nf rfl⟩
theorem q73 : TF 73 y73 := ⟨⟨underlying73, t73, by kernel_rfl, rfl, rfl, rfl, rfl, by kernel_rfl, by decide⟩, nf rfl⟩
theorem q74 : TF 74 y74 := ⟨⟨underlying74, t74, by kernel_rfl, rfl, rfl, rfl, rfl, by kernel_rfl, by decide⟩, nf rfl⟩
theorem q75 : TF 75 y75 := ⟨⟨underlying75, t75, by kernel_rfl, rfl, rfl, rfl, rfl, by kernel_rfl, by decide⟩, nf rfl⟩
theorem q76 : TF 76 y76 := ⟨⟨underlying76, t76, by kernel_rfl, rfl, rfl, rfl, rfl, by kernel_rfl, by decide⟩, nf rfl⟩
theorem q77 : TF 77 y77 := ⟨⟨underlying77, t77, by kernel_rfl, rfl, rfl, rfl, rfl, by kernel_rfl, by decide⟩, nf rfl⟩
theorem q78 : TF 78 y78 := ⟨⟨underlying78, t78, by kernel_rfl, rfl, rfl, rfl, rfl, by kernel_rfl, by decide⟩, nf rfl⟩
theorem q79 : TF 79 y79 := ⟨⟨underlying79, t79, by kernel_rfl, rfl, rfl, rfl, rfl, by kernel_rfl, by decide⟩, nf rfl⟩
theorem q80 : TF 80 y80 := ⟨⟨underlying80, t80, by kernel_rfl, rfl, rfl, rfl, rfl, by kernel_rfl, by decide⟩, nf rfl⟩
theorem q81 : TF 81 y81 := ⟨⟨underlying81, t81, by kernel_rfl, rfl, rfl, rfl, rfl, by kernel_rfl, by decide⟩, nf rfl⟩
theorem q82 : TF 82 y82 := ⟨⟨underlying82, t82, by kernel_rfl, rfl, rfl, rfl, rfl, by kernel_rfl, by decide⟩, nf rfl⟩
theorem q83 : TF 83 y83 := ⟨⟨underlying83, t83, by kernel_rfl, rfl, rfl, rfl, rfl, by kernel_rfl, by decide⟩, nf rfl⟩
theorem q84 : TF 84 y84 := ⟨⟨underlying84, t84, by kernel_rfl, rfl, rfl, rfl, rfl, by kernel_rfl, by decide⟩, nf rfl⟩
theorem q85 : TF 85 y85 := ⟨⟨underlying85, t85, by kernel_rfl, rfl, rfl, rfl, rfl, by kernel_rfl, by decide⟩, nf rfl⟩
theorem q86 : TF 86 y86 := ⟨⟨underlying86, t86, by kernel_rfl, rfl, rfl, rfl, rfl, by kernel_rfl, by decide⟩, nf rfl⟩
theorem q87 : TF 87 y87 := ⟨⟨underlying87, t87, by kernel_rfl, rfl, rfl, rfl, rfl, by kernel_rfl, by decide⟩, nf rfl⟩
theorem q88 : TF 88 y88 := ⟨⟨underlying88, t88, by kernel_rfl, rfl, rfl, rfl, rfl, by kernel_rfl, by decide⟩, nf rfl⟩
theorem q89 : TF 89 y89 := ⟨⟨underlying89, t89, by kernel_rfl, rfl, rfl, rfl, rfl, by kernel_rfl, by decide⟩, nf rfl⟩
theorem q90 : TF 90 y90 := ⟨⟨underlying90, t90, by kernel_rfl, rfl, rfl, rfl, rfl, by kernel_rfl, by decide⟩, nf rfl⟩
theorem q91 : TF 91 y91 := ⟨⟨underlying91, t91, by kernel_rfl, rfl, rfl, rfl, rfl, by kernel_rfl, by decide⟩, nf rfl⟩
theorem q92 : TF 92 y92 := ⟨⟨underlying92, t92, by kernel_rfl, rfl, rfl, rfl, rfl, by kernel_rfl, by decide⟩, nf rfl⟩
theorem q93 : TF 93 y93 := ⟨⟨underlying93, t93, by kernel_rfl, rfl, rfl, rfl, rfl, by kernel_rfl, by decide⟩, nf rfl⟩
theorem q94 : TF 94 y94 := ⟨⟨underlying94, t94, by kernel_rfl, rfl, rfl, rfl, rfl, by kernel_rfl, by decide⟩, nf rfl⟩
theorem q95 : TF 95 y95 := ⟨⟨underlying95, t95, by kernel_rfl, rfl, rfl, rfl, rfl, by kernel_rfl, by decide⟩, nf rfl⟩
theorem q96 : TF 96 y96 := ⟨⟨underlying96, t96, by kernel_rfl, rfl, rfl, rfl, rfl, by kernel_rfl, by decide⟩, nf rfl⟩
theorem q97 : TF 97 y97 := ⟨⟨underlying97, t97, by kernel_rfl, rfl, rfl, rfl, rfl, by kernel_rfl, by decide⟩, nf rfl⟩
theorem q98 : TF 98 y98 := ⟨⟨underlying98, t98, by kernel_rfl, rfl, rfl, rfl, rfl, by kernel_rfl, by decide⟩, nf rfl⟩
theorem q99 : TF 99 y99 := ⟨⟨underlying99, t99, by kernel_rfl, rfl, rfl, rfl, rfl, by kernel_rfl, by decide⟩, nf rfl⟩
theorem q100 : TF 100 y100 := ⟨⟨underlying100, t100, by kernel_rfl, rfl, rfl, rfl, rfl, by kernel_rfl, by decide⟩, nf rfl⟩
theorem q101 : TF 101 y101 := ⟨⟨underlying101, t101, by kernel_rfl, rfl, rfl, rfl, rfl, by kernel_rfl, by decide⟩, nf rfl⟩
theorem q102 : TF 102 y102 := ⟨⟨underlying102, t102, by kernel_rfl, rfl, rfl, rfl, rfl, by kernel_rfl, by decide⟩, nf rfl⟩
theorem q103 : TF 103 y103 := ⟨⟨underlying103, t103, by kernel_rfl, rfl, rfl, rfl, rfl, by kernel_rfl, by decide⟩, nf rfl⟩
theorem q104 : TF 104 y104 := ⟨⟨underlying104, t104, by kernel_rfl, rfl, rfl, rfl, rfl, by kernel_rfl, by decide⟩, nf rfl⟩
theorem q105 : TF 105 y105 := ⟨⟨underlying105, t105, by kernel_rfl, rfl, rfl, rfl, rfl, by kernel_rfl, by decide⟩, nf rfl⟩
theorem q106 : TF 106 y106 := ⟨⟨underlying106, t106, by kernel_rfl, rfl, rfl, rfl, rfl, by kernel_rfl, by decide⟩, nf rfl⟩
theorem q107 : TF 107 y107 := ⟨⟨underlying107, t107, by kernel_rfl, rfl, rfl, rfl, rfl, by kernel_rfl, by decide⟩, nf rfl⟩
theorem q108 : TF 108 y108 := ⟨⟨underlying108, t108, by kernel_rfl, rfl, rfl, rfl, rfl, by kernel_rfl, by decide⟩, nf rfl⟩
theorem q109 : TF 109 y109 := ⟨⟨underlying109, t109, by kernel_rfl, rfl, rfl, rfl, rfl, by kernel_rfl, by decide⟩, nf rfl⟩
theorem q110 : TF 110 y110 := ⟨⟨underlying110, t110, by kernel_rfl, rfl, rfl, rfl, rfl, by kernel_rfl, by decide⟩, nf rfl⟩
theorem q111 : TF 111 y111 := ⟨⟨underlying111, t111, by kernel_rfl, rfl, rfl, rfl, rfl, by kernel_rfl, by decide⟩, nf rfl⟩
theorem q112 : TF 112 y112 := ⟨⟨underlying112, t112, by kernel_rfl, rfl, rfl, rfl, rfl, by kernel_rfl, by decide⟩, nf rfl⟩
theorem q113 : TF 113 y113 := ⟨⟨underlying113, t113, by kernel_rfl, rfl, rfl, rfl, rfl, by kernel_rfl, by decide⟩, nf rfl⟩
theorem q114 : TF 114 y114 := ⟨⟨underlying114, t114, by kernel_rfl, rfl, rfl, rfl, rfl, by kernel_rfl, by decide⟩, nf rfl⟩
theorem q115 : TF 115 y115 := ⟨⟨underlying115, t115, by kernel_rfl, rfl, rfl, rfl, rfl, by kernel_rfl, by decide⟩, nf rfl⟩
theorem q116 : TF 116 y116 := ⟨⟨underlying116, t116, by kernel_rfl, rfl, rfl, rfl, rfl, by kernel_rfl, by decide⟩, nf rfl⟩
theorem q117 : TF 117 y117 := ⟨⟨underlying117, t117, by kernel_rfl, rfl, rfl, rfl, rfl, by kernel_rfl, by decide⟩, nf rfl⟩
theorem q118 : TF 118 y118 := ⟨⟨underlying118, t118, by kernel_rfl, rfl, rfl, rfl, rfl, by kernel_rfl, by decide⟩, nf rfl⟩
theorem q119 : TF 119 y119 := ⟨⟨underlying119, t119, by kernel_rfl, rfl, rfl, rfl, rfl, by kernel_rfl, by decide⟩, nf rfl⟩
theorem q120 : TF 120 y120 := ⟨⟨underlying120, t120, by kernel_rfl, rfl, rfl, rfl, rfl, by kernel_rfl, by decide⟩, nf rfl⟩
theorem q121 : TF 121 y121 := ⟨⟨underlying121, t121, by kernel_rfl, rfl, rfl, rfl, rfl, by kernel_rfl, by decide⟩, nf rfl⟩
theorem q122 : TF 122 y122 := ⟨⟨underlying122, t122, by kernel_rfl, rfl, rfl, rfl, rfl, by kernel_rfl, by decide⟩, nf rfl⟩
theorem q123 : TF 123 y123 := ⟨⟨underlying123, t123, by kernel_rfl, rfl, rfl, rfl, rfl, by kernel_rfl, by decide⟩, nf rfl⟩
theorem q124 : TF 124 y124 := ⟨⟨underlying124, t124, by kernel_rfl, rfl, rfl, rfl, rfl, by kernel_rfl, by decide⟩, nf rfl⟩
theorem q125 : TF 125 y125 := ⟨⟨underlying125, t125, by kernel_rfl, rfl, rfl, rfl, rfl, by kernel_rfl, by decide⟩, nf rfl⟩
theorem q126 : TF 126 y126 := ⟨⟨underlying126, t126, by kernel_rfl, rfl, rfl, rfl, rfl, by kernel_rfl, by decide⟩, nf rfl⟩
theorem q127 : TF 127 y127 := ⟨⟨underlying127, t127, by kernel_rfl, rfl, rfl, rfl, rfl, by kernel_rfl, by decide⟩, nf rfl⟩
theorem q128 : TF 128 y128 := ⟨⟨underlying128, t128, by kernel_rfl, rfl, rfl, rfl, rfl, by kernel_rfl, by decide⟩, nf rfl⟩
theorem q129 : TF 129 y129 := ⟨⟨underlying129, t129, by kernel_rfl, rfl, rfl, rfl, rfl, by kernel_rfl, by decide⟩, nf rfl⟩
theorem q130 : TF 130 y130 := ⟨⟨underlying130, t130, by kernel_rfl, rfl, rfl, rfl, rfl, by kernel_rfl, by decide⟩, nf rfl⟩
theorem q131 : TF 131 y131 := ⟨⟨underlying131, t131, by kernel_rfl, rfl, rfl, rfl, rfl, by kernel_rfl, by decide⟩, nf rfl⟩
theorem q132 : TF 132 y132 := ⟨⟨underlying132, t132, by kernel_rfl, rfl, rfl, rfl, rfl, by kernel_rfl, by decide⟩, nf rfl⟩
theorem q133 : TF 133 y133 := ⟨⟨underlying133, t133, by kernel_rfl, rfl, rfl, rfl, rfl, by kernel_rfl, by decide⟩, nf rfl⟩
theorem q134 : TF 134 y134 := ⟨⟨underlying134, t134, by kernel_rfl, rfl, rfl, rfl, rfl, by kernel_rfl, by decide⟩, nf rfl⟩
theorem q135 : TF 135 y135 := ⟨⟨underlying135, t135, by kernel_rfl, rfl, rfl, rfl, rfl, by kernel_rfl, by decide⟩, nf rfl⟩
theorem q136 : TF 136 y136 := ⟨⟨underlying136, t136, by kernel_rfl, rfl, rfl, rfl, rfl, by kernel_rfl, by decide⟩, nf rfl⟩
theorem q137 : TF 137 y137 := ⟨⟨underlying137, t137, by kernel_rfl, rfl, rfl, rfl, rfl, by kernel_rfl, by decide⟩, nf rfl⟩
theorem q138 : TF 138 y138 := ⟨⟨underlying138, t138, by kernel_rfl, rfl, rfl, rfl, rfl, by kernel_rfl, by decide⟩, nf rfl⟩
theorem q139 : TF 139 y139 := ⟨⟨underlying139, t139, by kernel_rfl, rfl, rfl, rfl, rfl, by kernel_rfl, by decide⟩, nf rfl⟩
theorem q140 : TF 140 y140 := ⟨⟨underlying140, t140, by kernel_rfl, rfl, rfl, rfl, rfl, by kernel_rfl, by decide⟩, nf rfl⟩
theorem q141 : TF 141 y141 := ⟨⟨underlying141, t141, by kernel_rfl, rfl, rfl, rfl, rfl, by kernel_rfl, by decide⟩, nf rfl⟩
theorem q142 : TF 142 y142 := ⟨⟨underlying142, t142, by kernel_rfl, rfl, rfl, rfl, rfl, by kernel_rfl, by decide⟩, nf rfl⟩
theorem q143 : TF 143 y143 := ⟨⟨underlying143, t143, by kernel_rfl, rfl, rfl, rfl, rfl, by kernel_rfl, by decide⟩, nf rfl⟩
theorem q144 : TF 144 y144 := ⟨⟨underlying144, t144, by kernel_rfl, rfl, rfl, rfl, rfl, by kernel_rfl, by decide⟩, nf rfl⟩
theorem q145 : TF 145 y145 := ⟨⟨underlying145, t145, by kernel_rfl, rfl, rfl, rfl, rfl, by kernel_rfl, by decide⟩, nf rfl⟩
theorem q146 : TF 146 y146 := ⟨⟨underlying146, t146, by kernel_rfl, rfl, rfl, rfl, rfl, by kernel_rfl, by decide⟩, nf rfl⟩
theorem q147 : TF 147 y147 := ⟨⟨underlying147, t147, by kernel_rfl, rfl, rfl, rfl, rfl, by kernel_rfl, by decide⟩, nf rfl⟩
theorem q148 : TF 148 y148 := ⟨⟨underlying148, t148, by kernel_rfl, rfl, rfl, rfl, rfl, by kernel_rfl, by decide⟩, nf rfl⟩
theorem q149 : TF 149 y149 := ⟨⟨underlying149, t149, by kernel_rfl, rfl, rfl, rfl, rfl, by kernel_rfl, by decide⟩, nf rfl⟩
theorem q150 : TF 150 y150 := ⟨⟨underlying150, t150, by kernel_rfl, rfl, rfl, rfl, rfl, by kernel_rfl, by decide⟩, nf rfl⟩
theorem q151 : TF 151 y151 := ⟨⟨underlying151, t151, by kernel_rfl, rfl, rfl, rfl, rfl, by kernel_rfl, by decide⟩, nf rfl⟩
theorem q152 : TF 152 y152 := ⟨⟨underlying152, t152, by kernel_rfl, rfl, rfl, rfl, rfl, by kernel_rfl, by decide⟩, nf rfl⟩
theorem q153 : TF 153 y153 := ⟨⟨underlying153, t153, by kernel_rfl, rfl, rfl, rfl, rfl, by kernel_rfl, by decide⟩, nf rfl⟩
theorem q154 : TF 154 y154 := ⟨⟨underlying154, t154, by kernel_rfl, rfl, rfl, rfl, rfl, by kernel_rfl, by decide⟩, nf rfl⟩
theorem q155 : TF 155 y155 := ⟨⟨underlying155, t155, by kernel_rfl, rfl, rfl, rfl, rfl, by kernel_rfl, by decide⟩, nf rfl⟩
theorem q156 : TF 156 y156 := ⟨⟨underlying156, t156, by kernel_rfl, rfl, rfl, rfl, rfl, by kernel_rfl, by decide⟩, nf rfl⟩
theorem q157 : TF 157 y157 := ⟨⟨underlying157, t157, by kernel_rfl, rfl, rfl, rfl, rfl, by kernel_rfl, by decide⟩, nf rfl⟩
theorem q158 : TF 158 y158 := ⟨⟨underlying158, t158, by kernel_rfl, rfl, rfl, rfl, rfl, by kernel_rfl, by decide⟩, nf rfl⟩
theorem q159 : TF 159 y159 := ⟨⟨underlying159, t159, by kernel_rfl, rfl, rfl, rfl, rfl, by kernel_rfl, by decide⟩, nf rfl⟩
theorem q160 : TF 160 y160 := ⟨⟨underlying160, t160, by kernel_rfl, rfl, rfl, rfl, rfl, by kernel_rfl, by decide⟩, nf rfl⟩
theorem q161 : TF 161 y161 := ⟨⟨underlying161, t161, by kernel_rfl, rfl, rfl, rfl, rfl, by kernel_rfl, by decide⟩, nf rfl⟩
theorem q162 : TF 162 y162 := ⟨⟨underlying162, t162, by kernel_rfl, rfl, rfl, rfl, rfl, by kernel_rfl, by decide⟩, nf rfl⟩
theorem q163 : TF 163 y163 := ⟨⟨underlying163, t163, by kernel_rfl, rfl, rfl, rfl, rfl, by kernel_rfl, by decide⟩, nf rfl⟩
theorem q164 : TF 164 y164 := ⟨⟨underlying164, t164, by kernel_rfl, rfl, rfl, rfl, rfl, by kernel_rfl, by decide⟩, nf rfl⟩
theorem q165 : TF 165 y165 := ⟨⟨underlying165, t165, by kernel_rfl, rfl, rfl, rfl, rfl, by kernel_rfl, by decide⟩, nf rfl⟩
theorem q166 : TF 166 y166 := ⟨⟨underlying166, t166, by kernel_rfl, rfl, rfl, rfl, rfl, by kernel_rfl, by decide⟩, nf rfl⟩
theorem q167 : TF 167 y167 := ⟨⟨underlying167, t167, by kernel_rfl, rfl, rfl, rfl, rfl, by kernel_rfl, by decide⟩, nf rfl⟩
theorem q168 : TF 168 y168 := ⟨⟨underlying168, t168, by kernel_rfl, rfl, rfl, rfl, rfl, by kernel_rfl, by decide⟩, nf rfl⟩
theorem q169 : TF 169 y169 := ⟨⟨underlying169, t169, by kernel_rfl, rfl, rfl, rfl, rfl, by kernel_rfl, by decide⟩, nf rfl⟩
theorem q170 : TF 170 y170 := ⟨⟨underlying170, t170, by kernel_rfl, rfl, rfl, rfl, rfl, by kernel_rfl, by decide⟩, nf rfl⟩
theorem q171 : TF 171 y171 := ⟨⟨underlying171, t171, by kernel_rfl, rfl, rfl, rfl, rfl, by kernel_rfl, by decide⟩, nf rfl⟩
theorem q172 : TF 172 y172 := ⟨⟨underlying172, t172, by kernel_rfl, rfl, rfl, rfl, rfl, by kernel_rfl, by decide⟩, nf rfl⟩
theorem q173 : TF 173 y173 := ⟨⟨underlying173, t173, by kernel_rfl, rfl, rfl, rfl, rfl, by kernel_rfl, by decide⟩, nf rfl⟩
theorem q174 : TF 174 y174 := ⟨⟨underlying174, t174, by kernel_rfl, rfl, rfl, rfl, rfl, by kernel_rfl, by decide⟩, nf rfl⟩
theorem q175 : TF 175 y175 := ⟨⟨underlying175, t175, by kernel_rfl, rfl, rfl, rfl, rfl, by kernel_rfl, by decide⟩, nf rfl⟩
theorem q176 : TF 176 y176 := ⟨⟨underlying176, t176, by kernel_rfl, rfl, rfl, rfl, rfl, by kernel_rfl, by decide⟩, nf rfl⟩
theorem q177 : TF 177 y177 := ⟨⟨underlying177, t177, by kernel_rfl, rfl, rfl, rfl, rfl, by kernel_rfl, by decide⟩, nf rfl⟩
theorem q178 : TF 178 y178 := ⟨⟨underlying178, t178, by kernel_rfl, rfl, rfl, rfl, rfl, by kernel_rfl, by decide⟩, nf rfl⟩
theorem q179 : TF 179 y179 := ⟨⟨underlying179, t179, by kernel_rfl, rfl, rfl, rfl, rfl, by kernel_rfl, by decide⟩, nf rfl⟩
theorem q180 : TF 180 y180 := ⟨⟨underlying180, t180, by kernel_rfl, rfl, rfl, rfl, rfl, by kernel_rfl, by decide⟩, nf rfl⟩
theorem q181 : TF 181 y181 := ⟨⟨underlying181, t181, by kernel_rfl, rfl, rfl, rfl, rfl, by kernel_rfl, by decide⟩, nf rfl⟩
theorem q182 : TF 182 y182 := ⟨⟨underlying182, t182, by kernel_rfl, rfl, rfl, rfl, rfl, by kernel_rfl, by decide⟩, nf rfl⟩
theorem q183 : TF 183 y183 := ⟨⟨underlying183, t183, by kernel_rfl, rfl, rfl, rfl, rfl, by kernel_rfl, by decide⟩, fun _ xs ys b hl hb w => flat_array2 Tryz.underlying183 Tryz.underlying3 (inf := Tryz.t3) (by kernel_rfl) rfl xs ys b hl (cellsEq_ints _ _ _ _ (by kernel_rfl) hb) w (by kernel_rfl)⟩
theorem q184 : TF 184 y184 := ⟨⟨underlying184, t184, by kernel_rfl, rfl, rfl, rfl, rfl, by kernel_rfl, by decide⟩, nf rfl⟩
theorem q185 : TF 185 y185 := ⟨⟨underlying185, t185, by kernel_rfl, rfl, rfl, rfl, rfl, by kernel_rfl, by decide⟩, nf rfl⟩
theorem q186 : TF 186 y186 := ⟨⟨underlying186, t186, by kernel_rfl, rfl, rfl, rfl, rfl, by kernel_rfl, by decide⟩, nf rfl⟩
theorem q187 : TF 187 y187 := ⟨⟨underlying187, t187, by kernel_rfl, rfl, rfl, rfl, rfl, by kernel_rfl, by decide⟩, nf rfl⟩
theorem q188 : TF 188 y188 := ⟨⟨underlying188, t188, by kernel_rfl, rfl, rfl, rfl, rfl, by kernel_rfl, by decide⟩, nf rfl⟩
theorem q189 : TF 189 y189 := ⟨⟨underlying189, t189, by kernel_rfl, rfl, rfl, rfl, rfl, by kernel_rfl, by decide⟩, nf rfl⟩
theorem q190 : TF 190 y190 := ⟨⟨underlying190, t190, by kernel_rfl, rfl, rfl, rfl, rfl, by kernel_rfl, by decide⟩, nf rfl⟩
theorem q191 : TF 191 y191 := ⟨⟨underlying191, t191, by kernel_rfl, rfl, rfl, rfl, rfl, by kernel_rfl, by decide⟩, nf rfl⟩
theorem q192 : TF 192 y192 := ⟨⟨underlying192, t192, by kernel_rfl, rfl, rfl, rfl, rfl, by kernel_rfl, by decide⟩, nf rfl⟩
theorem q193 : TF 193 y193 := ⟨⟨underlying193, t193, by kernel_rfl, rfl, rfl, rfl, rfl, by kernel_rfl, by decide⟩, nf rfl⟩
theorem q194 : TF 194 y194 := ⟨⟨underlying194, t194, by kernel_rfl, rfl, rfl, rfl, rfl, by kernel_rfl, by decide⟩, nf rfl⟩
theorem q195 : TF 195 y195 := ⟨⟨underlying195, t195, by kernel_rfl, rfl, rfl, rfl, rfl, by kernel_rfl, by decide⟩, nf rfl⟩
theorem q196 : TF 196 y196 := ⟨⟨underlying196, t196, by kernel_rfl, rfl, rfl, rfl, rfl, by kernel_rfl, by decide⟩, nf rfl⟩
theorem q197 : TF 197 y197 := ⟨⟨underlying197, t197, by kernel_rfl, rfl, rfl, rfl, rfl, by kernel_rfl, by decide⟩, nf rfl⟩
theorem q198 : TF 198 y198 := ⟨⟨underlying198, t198, by kernel_rfl, rfl, rfl, rfl, rfl, by kernel_rfl, by decide⟩, nf rfl⟩
theorem q199 : TF 199 y199 := ⟨⟨underlying199, t199, by kernel_rfl, rfl, rfl, rfl, rfl, by kernel_rfl, by decide⟩, nf rfl⟩
theorem q200 : TF 200 y200 := ⟨⟨underlying200, t200, by kernel_rfl, rfl, rfl, rfl, rfl, by kernel_rfl, by decide⟩, nf rfl⟩
theorem q201 : TF 201 y201 := ⟨⟨underlying201, t201, by kernel_rfl, rfl, rfl, rfl, rfl, by kernel_rfl, by decide⟩, nf rfl⟩
theorem q202 : TF 202 y202 := ⟨⟨underlying202, t202, by kernel_rfl, rfl, rfl, rfl, rfl, by kernel_rfl, by decide⟩, nf rfl⟩
theorem q203 : TF 203 y203 := ⟨⟨underlying203, t203, by kernel_rfl, rfl, rfl, rfl, rfl, by kernel_rfl, by decide⟩, nf rfl⟩
theorem q204 : TF 204 y204 := ⟨⟨underlying204, t204, by kernel_rfl, rfl, rfl, rfl, rfl, by kernel_rfl, by decide⟩, nf rfl⟩
theorem q205 : TF 205 y205 := ⟨⟨underlying205, t205, by kernel_rfl, rfl, rfl, rfl, rfl, by kernel_rfl, by decide⟩, nf rfl⟩
theorem q206 : TF 206 y206 := ⟨⟨underlying206, t206, by kernel_rfl, rfl, rfl, rfl, rfl, by kernel_rfl, by decide⟩, nf rfl⟩
theorem q207 : TF 207 y207 := ⟨⟨underlying207, t207, by kernel_rfl, rfl, rfl, rfl, rfl, by kernel_rfl, by decide⟩, nf rfl⟩
theorem q208 : TF 208 y208 := ⟨⟨underlying208, t208, by kernel_rfl, rfl, rfl, rfl, rfl, by kernel_rfl, by decide⟩, nf rfl⟩
theorem q209 : TF 209 y209 := ⟨⟨underlying209, t209, by kernel_rfl, rfl, rfl, rfl, rfl, by kernel_rfl, by decide⟩, nf rfl⟩
theorem q210 : TF 210 y210 := ⟨⟨underlying210, t210, by kernel_rfl, rfl, rfl, rfl, rfl, by kernel_rfl, by decide⟩, nf rfl⟩
theorem q211 : TF 211 y211 := ⟨⟨underlying211, t211, by kernel_rfl, rfl, rfl, rfl, rfl, by kernel_rfl, by decide⟩, nf rfl⟩
theorem q212 : TF 212 y212 := ⟨⟨underlying212, t212, by kernel_rfl, rfl, rfl, rfl, rfl, by kernel_rfl, by decide⟩, nf rfl⟩
theorem q213 : TF 213 y213 := ⟨⟨underlying213, t213, by kernel_rfl, rfl, rfl, rfl, rfl, by kernel_rfl, by decide⟩, nf rfl⟩
theorem q214 : TF 214 y214 := ⟨⟨underlying214, t214, by kernel_rfl, rfl, rfl, rfl, rfl, by kernel_rfl, by decide⟩, nf rfl⟩
theorem q215 : TF 215 y215 := ⟨⟨underlying215, t215, by kernel_rfl, rfl, rfl, rfl, rfl, by kernel_rfl, by decide⟩, nf rfl⟩
theorem q216 : TF 216 y216 := ⟨⟨underlying216, t216, by kernel_rfl, rfl, rfl, rfl, rfl, by kernel_rfl, by decide⟩, nf rfl⟩
theorem q217 : TF 217 y217 := ⟨⟨underlying217, t217, by kernel_rfl, rfl, rfl, rfl, rfl, by kernel_rfl, by decide⟩, nf rfl⟩
theorem q218 : TF 218 y218 := ⟨⟨underlying218, t218, by kernel_rfl, rfl, rfl, rfl, rfl, by kernel_rfl, by decide⟩, nf rfl⟩
theorem q219 : TF 219 y219 := ⟨⟨underlying219, t219, by kernel_rfl, rfl, rfl, rfl, rfl, by kernel_rfl, by decide⟩, nf rfl⟩
theorem q220 : TF 220 y220 := ⟨⟨underlying220, t220, by kernel_rfl, rfl, rfl, rfl, rfl, by kernel_rfl, by decide⟩, nf rfl⟩
theorem q221 : TF 221 y221 := ⟨⟨underlying221, t221, by kernel_rfl, rfl, rfl, rfl, rfl, by kernel_rfl, by decide⟩, nf rfl⟩
theorem q222 : TF 222 y222 := ⟨⟨underlying222, t222, by kernel_rfl, rfl, rfl, rfl, rfl, by kernel_rfl, by decide⟩, nf rfl⟩
theorem q223 : TF 223 y223 := ⟨⟨underlying223, t223, by kernel_rfl, rfl, rfl, rfl, rfl, by kernel_rfl, by decide⟩, nf rfl⟩
theorem q224 : TF 224 y224 := ⟨⟨underlying224, t224, by kernel_rfl, rfl, rfl, rfl, rfl, by kernel_rfl, by decide⟩, nf rfl⟩
theorem q225 : TF 225 y225 := ⟨⟨underlying225, t225, by kernel_rfl, rfl, rfl, rfl, rfl, by kernel_rfl, by decide⟩, nf rfl⟩
theorem q226 : TF 226 y226 := ⟨⟨underlying226, t226, by kernel_rfl, rfl, rfl, rfl, rfl, by kernel_rfl, by decide⟩, nf rfl⟩
theorem q227 : TF 227 y227 := ⟨⟨underlying227, t227, by kernel_rfl, rfl, rfl, rfl, rfl, by kernel_rfl, by decide⟩, nf rfl⟩
theorem q228 : TF 228 y228 := ⟨⟨underlying228, t228, by kernel_rfl, rfl, rfl, rfl, rfl, by kernel_rfl, by decide⟩, nf rfl⟩
theorem q229 : TF 229 y229 := ⟨⟨underlying229, t229, by kernel_rfl, rfl, rfl, rfl, rfl, by kernel_rfl, by decide⟩, nf rfl⟩
theorem q230 : TF 230 y230 := ⟨⟨underlying230, t230, by kernel_rfl, rfl, rfl, rfl, rfl, by kernel_rfl, by decide⟩, nf rfl⟩
theorem q231 : TF 231 y231 := ⟨⟨underlying231, t231, by kernel_rfl, rfl, rfl, rfl, rfl, by kernel_rfl, by decide⟩, nf rfl⟩
theorem q232 : TF 232 y232 := ⟨⟨underlying232, t232, by kernel_rfl, rfl, rfl, rfl, rfl, by kernel_rfl, by decide⟩, nf rfl⟩
theorem q233 : TF 233 y233 := ⟨⟨underlying233, t233, by kernel_rfl, rfl, rfl, rfl, rfl, by kernel_rfl, by decide⟩, nf rfl⟩
theorem q234 : TF 234 y234 := ⟨⟨underlying234, t234, by kernel_rfl, rfl, rfl, rfl, rfl, by kernel_rfl, by decide⟩, nf rfl⟩
theorem q235 : TF 235 y235 := ⟨⟨underlying235, t235, by kernel_rfl, rfl, rfl, rfl, rfl, by kernel_rfl, by decide⟩, nf rfl⟩
theorem q236 : TF 236 y236 := ⟨⟨underlying236, t236, by kernel_rfl, rfl, rfl, rfl, rfl, by kernel_rfl, by decide⟩, nf rfl⟩
theorem q237 : TF 237 y237 := ⟨⟨underlying237, t237, by kernel_rfl, rfl, rfl, rfl, rfl, by kernel_rfl, by decide⟩, nf rfl⟩
theorem q238 : TF 238 y238 := ⟨⟨underlying238, t238, by kernel_rfl, rfl, rfl, rfl, rfl, by kernel_rfl, by decide⟩, nf rfl⟩
theorem q239 : TF 239 y239 := ⟨⟨underlying239, t239, by kernel_rfl, rfl, rfl, rfl, rfl, by kernel_rfl, by decide⟩, nf rfl⟩
theorem q240 : TF 240 y240 := ⟨⟨underlying240, t240, by kernel_rfl, rfl, rfl, rfl, rfl, by kernel_rfl, by decide⟩, nf rfl⟩
theorem q241 : TF 241 y241 := ⟨⟨underlying241, t241, by kernel_rfl, rfl, rfl, rfl, rfl, by kernel_rfl, by decide⟩, nf rfl⟩
theorem q242 : TF 242 y242 := ⟨⟨underlying242, t242, by kernel_rfl, rfl, rfl, rfl, rfl, by kernel_rfl, by decide⟩, nf rfl⟩
theorem q243 : TF 243 y243 := ⟨⟨underlying243, t243, by kernel_rfl, rfl, rfl, rfl, rfl, by kernel_rfl, by decide⟩, nf rfl⟩
theorem q244 : TF 244 y244 := ⟨⟨underlying244, t244, by kernel_rfl, rfl, rfl, rfl, rfl, by kernel_rfl, by decide⟩, nf rfl⟩
theorem q245 : TF 245 y245 := ⟨⟨underlying245, t245, by kernel_rfl, rfl, rfl, rfl, rfl, by kernel_rfl, by decide⟩, nf rfl⟩
theorem q246 : TF 246 y246 := ⟨⟨underlying246, t246, by kernel_rfl, rfl, rfl, rfl, rfl, by kernel_rfl, by decide⟩, nf rfl⟩
theorem q247 : TF 247 y247 := ⟨⟨underlying247, t247, by kernel_rfl, rfl, rfl, rfl, rfl, by kernel_rfl, by decide⟩, nf rfl⟩
theorem q248 : TF 248 y248 := ⟨⟨underlying248, t248, by kernel_rfl, rfl, rfl, rfl, rfl, by kernel_rfl, by decide⟩, nf rfl⟩
theorem q249 : TF 249 y249 := ⟨⟨underlying249, t249, by kernel_rfl, rfl, rfl, rfl, rfl, by kernel_rfl, by decide⟩, nf rfl⟩
theorem q250 : TF 250 y250 := ⟨⟨underlying250, t250, by kernel_rfl, rfl, rfl, rfl, rfl, by kernel_rfl, by decide⟩, nf rfl⟩
theorem q251 : TF 251 y251 := ⟨⟨underlying251, t251, by kernel_rfl, rfl, rfl, rfl, rfl, by kernel_rfl, by decide⟩, nf rfl⟩
theorem q252 : TF 252 y252 := ⟨⟨underlying252, t252, by kernel_rfl, rfl, rfl, rfl, rfl, by kernel_rfl, by decide⟩, nf rfl⟩
theorem q253 : TF 253 y253 := ⟨⟨underlying253, t253, by kernel_rfl, rfl, rfl, rfl, rfl, by kernel_rfl, by decide⟩, nf rfl⟩
theorem q254 : TF 254 y254 := ⟨⟨underlying254, t254, by kernel_rfl, rfl, rfl, rfl, rfl, by kernel_rfl, by decide⟩, nf rfl⟩
theorem q255 : TF 255 y255 := ⟨⟨underlying255, t255, by kernel_rfl, rfl, rfl, rfl, rfl, by kernel_rfl, by decide⟩, nf rfl⟩
theorem q256 : TF 256 y256 := ⟨⟨underlying256, t256, by kernel_rfl, rfl, rfl, rfl, rfl, by kernel_rfl, by decide⟩, nf rfl⟩
theorem q257 : TF 257 y257 := ⟨⟨underlying257, t257, by kernel_rfl, rfl, rfl, rfl, rfl, by kernel_rfl, by decide⟩, nf rfl⟩
theorem q258 : TF 258 y258 := ⟨⟨underlying258, t258, by kernel_rfl, rfl, rfl, rfl, rfl, by kernel_rfl, by decide⟩, nf rfl⟩
theorem q259 : TF 259 y259 := ⟨⟨underlying259, t259, by kernel_rfl, rfl, rfl, rfl, rfl, by kernel_rfl, by decide⟩, nf rfl⟩
theorem q260 : TF 260 y260 := ⟨⟨underlying260, t260, by kernel_rfl, rfl, rfl, rfl, rfl, by kernel_rfl, by decide⟩, nf rfl⟩
theorem q261 : TF 261 y261 := ⟨⟨underlying261, t261, by kernel_rfl, rfl, rfl, rfl, rfl, by kernel_rfl, by decide⟩, nf rfl⟩
theorem q262 : TF 262 y262 := ⟨⟨underlying262, t262, by kernel_rfl, rfl, rfl, rfl, rfl, by kernel_rfl, by decide⟩, nf rfl⟩
theorem q263 : TF 263 y263 := ⟨⟨underlying263, t263, by kernel_rfl, rfl, rfl, rfl, rfl, by kernel_rfl, by decide⟩, nf rfl⟩
theorem q264 : TF 264 y264 := ⟨⟨underlying264, t264, by kernel_rfl, rfl, rfl, rfl, rfl, by kernel_rfl, by decide⟩, nf rfl⟩
theorem q265 : TF 265 y265 := ⟨⟨underlying265, t265, by kernel_rfl, rfl, rfl, rfl, rfl, by kernel_rfl, by decide⟩, nf rfl⟩
theorem q266 : TF 266 y266 := ⟨⟨underlying266, t266, by kernel_rfl, rfl, rfl, rfl, rfl, by kernel_rfl, by decide⟩, nf rfl⟩
theorem q267 : TF 267 y267 := ⟨⟨underlying267, t267, by kernel_rfl, rfl, rfl, rfl, rfl, by kernel_rfl, by decide⟩, nf rfl⟩
theorem q268 : TF 268 y268 := ⟨⟨underlying268, t268, by kernel_rfl, rfl, rfl, rfl, rfl, by kernel_rfl, by decide⟩, nf rfl⟩
theorem q269 : TF 269 y269 := ⟨⟨underlying269, t269, by kernel_rfl, rfl, rfl, rfl, rfl, by kernel_rfl, by decide⟩, nf rfl⟩
theorem q270 : TF 270 y270 := ⟨⟨underlying270, t270, by kernel_rfl, rfl, rfl, rfl, rfl, by kernel_rfl, by decide⟩, nf rfl⟩
theorem q271 : TF 271 y271 := ⟨⟨underlying271, t271, by kernel_rfl, rfl, rfl, rfl, rfl, by kernel_rfl, by decide⟩, nf rfl⟩
theorem q272 : TF 272 y272 := ⟨⟨underlying272, t272, by kernel_rfl, rfl, rfl, rfl, rfl, by kernel_rfl, by decide⟩, nf rfl⟩
theorem q273 : TF 273 y273 := ⟨⟨underlying273, t273, by kernel_rfl, rfl, rfl, rfl, rfl, by kernel_rfl, by decide⟩, nf rfl⟩
theorem q274 : TF 274 y274 := ⟨⟨underlying274, t274, by kernel_rfl, rfl, rfl, rfl, rfl, by kernel_rfl, by decide⟩, nf rfl⟩
theorem q275 : TF 275 y275 := ⟨⟨underlying275, t275, by kernel_rfl, rfl, rfl, rfl, rfl, by kernel_rfl, by decide⟩, nf rfl⟩
theorem q276 : TF 276 y276 := ⟨⟨underlying276, t276, by kernel_rfl, rfl, rfl, rfl, rfl, by kernel_rfl, by decide⟩, nf rfl⟩
theorem q277 : TF 277 y277 := ⟨⟨underlying277, t277, by kernel_rfl, rfl, rfl, rfl, rfl, by kernel_rfl, by decide⟩, nf rfl⟩
theorem q278 : TF 278 y278 := ⟨⟨underlying278, t278, by kernel_rfl, rfl, rfl, rfl, rfl, by kernel_rfl, by decide⟩, nf rfl⟩
theorem q279 : TF 279 y279 := ⟨⟨underlying279, t279, by kernel_rfl, rfl, rfl, rfl, rfl, by kernel_rfl, by decide⟩, nf rfl⟩
theorem q280 : TF 280 y280 := ⟨⟨underlying280, t280, by kernel_rfl, rfl, rfl, rfl, rfl, by kernel_rfl, by decide⟩, nf rfl⟩
theorem q281 : TF 281 y281 := ⟨⟨underlying281, t281, by kernel_rfl, rfl, rfl, rfl, rfl, by kernel_rfl, by decide⟩, nf rfl⟩
theorem q282 : TF 282 y282 := ⟨⟨underlying282, t282, by kernel_rfl, rfl, rfl, rfl, rfl, by kernel_rfl, by decide⟩, nf rfl⟩
theorem q283 : TF 283 y283 := ⟨⟨underlying283, t283, by kernel_rfl, rfl, rfl, rfl, rfl, by kernel_rfl, by decide⟩, nf rfl⟩
theorem q284 : TF 284 y284 := ⟨⟨underlying284, t284, by kernel_rfl, rfl, rfl, rfl, rfl, by kernel_rfl, by decide⟩, nf rfl⟩
theorem q285 : TF 285 y285 := ⟨⟨underlying285, t285, by kernel_rfl, rfl, rfl, rfl, rfl, by kernel_rfl, by decide⟩, nf rfl⟩
theorem q286 : TF 286 y286 := ⟨⟨underlying286, t286, by kernel_rfl, rfl, rfl, rfl, rfl, by kernel_rfl, by decide⟩, nf rfl⟩
theorem q287 : TF 287 y287 := ⟨⟨underlying287, t287, by kernel_rfl, rfl, rfl, rfl, rfl, by kernel_rfl, by decide⟩, nf rfl⟩
theorem q288 : TF 288 y288 := ⟨⟨underlying288, t288, by kernel_rfl, rfl, rfl, rfl, rfl, by kernel_rfl, by decide⟩, nf rfl⟩
theorem q289 : TF 289 y289 := ⟨⟨underlying289, t289, by kernel_rfl, rfl, rfl, rfl, rfl, by kernel_rfl, by decide⟩, nf rfl⟩
theorem q290 : TF 290 y290 := ⟨⟨underlying290, t290, by kernel_rfl, rfl, rfl, rfl, rfl, by kernel_rfl, by decide⟩, nf rfl⟩
theorem q291 : TF 291 y291 := ⟨⟨underlying291, t291, by kernel_rfl, rfl, rfl, rfl, rfl, by kernel_rfl, by decide⟩, nf rfl⟩
theorem q292 : TF 292 y292 := ⟨⟨underlying292, t292, by kernel_rfl, rfl, rfl, rfl, rfl, by kernel_rfl, by decide⟩, nf rfl⟩
theorem q293 : TF 293 y293 := ⟨⟨underlying293, t293, by kernel_rfl, rfl, rfl, rfl, rfl, by kernel_rfl, by decide⟩, nf rfl⟩
theorem q294 : TF 294 y294 := ⟨⟨underlying294, t294, by kernel_rfl, rfl, rfl, rfl, rfl, by kernel_rfl, by decide⟩, nf rfl⟩
theorem q295 : TF 295 y295 := ⟨⟨underlying295, t295, by kernel_rfl, rfl, rfl, rfl, rfl, by kernel_rfl, by decide⟩, nf rfl⟩
theorem q296 : TF 296 y296 := ⟨⟨underlying296, t296, by kernel_rfl, rfl, rfl, rfl, rfl, by kernel_rfl, by decide⟩, nf rfl⟩
theorem q297 : TF 297 y297 := ⟨⟨underlying297, t297, by kernel_rfl, rfl, rfl, rfl, rfl, by kernel_rfl, by decide⟩, nf rfl⟩
theorem q298 : TF 298 y298 := ⟨⟨underlying298, t298, by kernel_rfl, rfl, rfl, rfl, rfl, by kernel_rfl, by decide⟩, nf rfl⟩
theorem q299 : TF 299 y299 := ⟨⟨underlying299, t299, by kernel_rfl, rfl, rfl, rfl, rfl, by kernel_rfl, by decide⟩, nf rfl⟩
theorem q300 : TF 300 y300 := ⟨⟨underlying300, t300, by kernel_rfl, rfl, rfl, rfl, rfl, by kernel_rfl, by decide⟩, nf rfl⟩
theorem q301 : TF 301 y301 := ⟨⟨underlying301, t301, by kernel_rfl, rfl, rfl, rfl, rfl, by kernel_rfl, by decide⟩, nf rfl⟩
theorem q302 : TF 302 y302 := ⟨⟨underlying302, t302, by kernel_rfl, rfl, rfl, rfl, rfl, by kernel_rfl, by decide⟩, nf rfl⟩
theorem q303 : TF 303 y303 := ⟨⟨underlying303, t303, by kernel_rfl, rfl, rfl, rfl, rfl, by kernel_rfl, by decide⟩, nf rfl⟩
theorem q304 : TF 304 y304 := ⟨⟨underlying304, t304, by kernel_rfl, rfl, rfl, rfl, rfl, by kernel_rfl, by decide⟩, nf rfl⟩
theorem q305 : TF 305 y305 := ⟨⟨underlying305, t305, by kernel_rfl, rfl, rfl, rfl, rfl, by kernel_rfl, by decide⟩, nf rfl⟩
theorem q306 : TF 306 y306 := ⟨⟨underlying306, t306, by kernel_rfl, rfl, rfl, rfl, rfl, by kernel_rfl, by decide⟩, nf rfl⟩
theorem q307 : TF 307 y307 := ⟨⟨underlying307, t307, by kernel_rfl, rfl, rfl, rfl, rfl, by kernel_rfl, by decide⟩, nf rfl⟩
theorem q308 : TF 308 y308 := ⟨⟨underlying308, t308, by kernel_rfl, rfl, rfl, rfl, rfl, by kernel_rfl, by decide⟩, nf rfl⟩
theorem q309 : TF 309 y309 := ⟨⟨underlying309, t309, by kernel_rfl, rfl, rfl, rfl, rfl, by kernel_rfl, by decide⟩, nf rfl⟩
theorem q310 : TF 310 y310 := ⟨⟨underlying310, t310, by kernel_rfl, rfl, rfl, rfl, rfl, by kernel_rfl, by decide⟩, nf rfl⟩
theorem q311 : TF 311 y311 := ⟨⟨underlying311, t311, by kernel_rfl, rfl, rfl, rfl, rfl, by kernel_rfl, by decide⟩, nf rfl⟩
theorem q312 : TF 312 y312 := ⟨⟨underlying312, t312, by kernel_rfl, rfl, rfl, rfl, rfl, by kernel_rfl, by decide⟩, nf rfl⟩
theorem q313 : TF 313 y313 := ⟨⟨underlying313, t313, by kernel_rfl, rfl, rfl, rfl, rfl, by kernel_rfl, by decide⟩, nf rfl⟩
theorem q314 : TF 314 y314 := ⟨⟨underlying314, t314, by kernel_rfl, rfl, rfl, rfl, rfl, by kernel_rfl, by decide⟩, nf rfl⟩
theorem q315 : TF 315 y315 := ⟨⟨underlying315, t315, by kernel_rfl, rfl, rfl, rfl, rfl, by kernel_rfl, by decide⟩, nf rfl⟩
theorem q316 : TF 316 y316 := ⟨⟨underlying316, t316, by kernel_rfl, rfl, rfl, rfl, rfl, by kernel_rfl, by decide⟩, nf rfl⟩
theorem q317 : TF 317 y317 := ⟨⟨underlying317, t317, by kernel_rfl, rfl, rfl, rfl, rfl, by kernel_rfl, by decide⟩, nf rfl⟩
theorem q318 : TF 318 y318 := ⟨⟨underlying318, t318, by kernel_rfl, rfl, rfl, rfl, rfl, by kernel_rfl, by decide⟩, nf rfl⟩
theorem q319 : TF 319 y319 := ⟨⟨underlying319, t319, by kernel_rfl, rfl, rfl, rfl, rfl, by kernel_rfl, by decide⟩, nf rfl⟩
theorem q320 : TF 320 y320 := ⟨⟨underlying320, t320, by kernel_rfl, rfl, rfl, rfl, rfl, by kernel_rfl, by decide⟩, nf rfl⟩
theorem q321 : TF 321 y321 := ⟨⟨underlying321, t321, by kernel_rfl, rfl, rfl, rfl, rfl, by kernel_rfl, by decide⟩, nf rfl⟩
theorem q322 : TF 322 y322 := ⟨⟨underlying322, t322, by kernel_rfl, rfl, rfl, rfl, rfl, by kernel_rfl, by decide⟩, nf rfl⟩
theorem q323 : TF 323 y323 := ⟨⟨underlying323, t323, by kernel_rfl, rfl, rfl, rfl, rfl, by kernel_rfl, by decide⟩, nf rfl⟩
theorem q324 : TF 324 y324 := ⟨⟨underlying324, t324, by kernel_rfl, rfl, rfl, rfl, rfl, by kernel_rfl, by decide⟩, nf rfl⟩
theorem q325 : TF 325 y325 := ⟨⟨underlying325, t325, by kernel_rfl, rfl, rfl, rfl, rfl, by kernel_rfl, by decide⟩, nf rfl⟩
theorem q326 : TF 326 y326 := ⟨⟨underlying326, t326, by kernel_rfl, rfl, rfl, rfl, rfl, by kernel_rfl, by decide⟩, nf rfl⟩
theorem q327 : TF 327 y327 := ⟨⟨underlying327, t327, by kernel_rfl, rfl, rfl, rfl, rfl, by kernel_rfl, by decide⟩, nf rfl⟩
theorem q328 : TF 328 y328 := ⟨⟨underlying328, t328, by kernel_rfl, rfl, rfl, rfl, rfl, by kernel_rfl, by decide⟩, nf rfl⟩
theorem q329 : TF 329 y329 := ⟨⟨underlying329, t329, by kernel_rfl, rfl, rfl, rfl, rfl, by kernel_rfl, by decide⟩, nf rfl⟩
theorem q330 : TF 330 y330 := ⟨⟨underlying330, t330, by kernel_rfl, rfl, rfl, rfl, rfl, by kernel_rfl, by decide⟩, nf rfl⟩
theorem q331 : TF 331 y331 := ⟨⟨underlying331, t331, by kernel_rfl, rfl, rfl, rfl, rfl, by kernel_rfl, by decide⟩, nf rfl⟩
theorem q332 : TF 332 y332 := ⟨⟨underlying332, t332, by kernel_rfl, rfl, rfl, rfl, rfl, by kernel_rfl, by decide⟩, nf rfl⟩
theorem q333 : TF 333 y333 := ⟨⟨underlying333, t333, by kernel_rfl, rfl, rfl, rfl, rfl, by kernel_rfl, by decide⟩, nf rfl⟩
theorem q334 : TF 334 y334 := ⟨⟨underlying334, t334, by kernel_rfl, rfl, rfl, rfl, rfl, by kernel_rfl, by decide⟩, nf rfl⟩
theorem q335 : TF 335 y335 := ⟨⟨underlying335, t335, by kernel_rfl, rfl, rfl, rfl, rfl, by kernel_rfl, by decide⟩, nf rfl⟩
theorem q336 : TF 336 y336 := ⟨⟨underlying336, t336, by kernel_rfl, rfl, rfl, rfl, rfl, by kernel_rfl, by decide⟩, nf rfl⟩
theorem q337 : TF 337 y337 := ⟨⟨underlying337, t337, by kernel_rfl, rfl, rfl, rfl, rfl, by kernel_rfl, by decide⟩, nf rfl⟩
theorem q338 : TF 338 y338 := ⟨⟨underlying338, t338, by kernel_rfl, rfl, rfl, rfl, rfl, by kernel_rfl, by decide⟩, nf rfl⟩
theorem q339 : TF 339 y339 := ⟨⟨underlying339, t339, by kernel_rfl, rfl, rfl, rfl, rfl, by kernel_rfl, by decide⟩, nf rfl⟩
theorem q340 : TF 340 y340 := ⟨⟨underlying340, t340, by kernel_rfl, rfl, rfl, rfl, rfl, by kernel_rfl, by decide⟩, nf rfl⟩
theorem q341 : TF 341 y341 := ⟨⟨underlying341, t341, by kernel_rfl, rfl, rfl, rfl, rfl, by kernel_rfl, by decide⟩, nf rfl⟩
theorem q342 : TF 342 y342 := ⟨⟨underlying342, t342, by kernel_rfl, rfl, rfl, rfl, rfl, by kernel_rfl, by decide⟩, nf rfl⟩
theorem q343 : TF 343 y343 := ⟨⟨underlying343, t343, by kernel_rfl, rfl, rfl, rfl, rfl, by kernel_rfl, by decide⟩, nf rfl⟩
theorem q344 : TF 344 y344 := ⟨⟨underlying344, t344, by kernel_rfl, rfl, rfl, rfl, rfl, by kernel_rfl, by decide⟩, nf rfl⟩
theorem q345 : TF 345 y345 := ⟨⟨underlying345, t345, by kernel_rfl, rfl, rfl, rfl, rfl, by kernel_rfl, by decide⟩, nf rfl⟩
theorem q346 : TF 346 y346 := ⟨⟨underlying346, t346, by kernel_rfl, rfl, rfl, rfl, rfl, by kernel_rfl, by decide⟩, nf rfl⟩
theorem q347 : TF 347 y347 := ⟨⟨underlying347, t347, by kernel_rfl, rfl, rfl, rfl, rfl, by kernel_rfl, by decide⟩, nf rfl⟩
theorem q348 : TF 348 y348 := ⟨⟨underlying348, t348, by kernel_rfl, rfl, rfl, rfl, rfl, by kernel_rfl, by decide⟩, nf rfl⟩
theorem q349 : TF 349 y349 := ⟨⟨underlying349, t349, by kernel_rfl, rfl, rfl, rfl, rfl, by kernel_rfl, by decide⟩, nf rfl⟩
theorem q350 : TF 350 y350 := ⟨⟨underlying350, t350, by kernel_rfl, rfl, rfl, rfl, rfl, by kernel_rfl, by decide⟩, nf rfl⟩
theorem q351 : TF 351 y351 := ⟨⟨underlying351, t351, by kernel_rfl, rfl, rfl, rfl, rfl, by kernel_rfl, by decide⟩, nf rfl⟩
theorem q352 : TF 352 y352 := ⟨⟨underlying352, t352, by kernel_rfl, rfl, rfl, rfl, rfl, by kernel_rfl, by decide⟩, nf rfl⟩
theorem q353 : TF 353 y353 := ⟨⟨underlying353, t353, by kernel_rfl, rfl, rfl, rfl, rfl, by kernel_rfl, by decide⟩, nf rfl⟩
theorem q354 : TF 354 y354 := ⟨⟨underlying354, t354, by kernel_rfl, rfl, rfl, rfl, rfl, by kernel_rfl, by decide⟩, nf rfl⟩
theorem q355 : TF 355 y355 := ⟨⟨underlying355, t355, by kernel_rfl, rfl, rfl, rfl, rfl, by kernel_rfl, by decide⟩, nf rfl⟩
theorem q356 : TF 356 y356 := ⟨⟨underlying356, t356, by kernel_rfl, rfl, rfl, rfl, rfl, by kernel_rfl, by decide⟩, nf rfl⟩
theorem q357 : TF 357 y357 := ⟨⟨underlying357, t357, by kernel_rfl, rfl, rfl, rfl, rfl, by kernel_rfl, by decide⟩, nf rfl⟩
theorem q358 : TF 358 y358 := ⟨⟨underlying358, t358, by kernel_rfl, rfl, rfl, rfl, rfl, by kernel_rfl, by decide⟩, nf rfl⟩
theorem q359 : TF 359 y359 := ⟨⟨underlying359, t359, by kernel_rfl, rfl, rfl, rfl, rfl, by kernel_rfl, by decide⟩, nf rfl⟩
theorem q360 : TF 360 y360 := ⟨⟨underlying360, t360, by kernel_rfl, rfl, rfl, rfl, rfl, by kernel_rfl, by decide⟩, nf rfl⟩
theorem q361 : TF 361 y361 := ⟨⟨underlying361, t361, by kernel_rfl, rfl, rfl, rfl, rfl, by kernel_rfl, by decide⟩, nf rfl⟩
theorem q362 : TF 362 y362 := ⟨⟨underlying362, t362, by kernel_rfl, rfl, rfl, rfl, rfl, by kernel_rfl, by decide⟩, nf rfl⟩
theorem q363 : TF 363 y363 := ⟨⟨underlying363, t363, by kernel_rfl, rfl, rfl, rfl, rfl, by kernel_rfl, by decide⟩, nf rfl⟩
theorem q364 : TF 364 y364 := ⟨⟨underlying364, t364, by kernel_rfl, rfl, rfl, rfl, rfl, by kernel_rfl, by decide⟩, nf rfl⟩
theorem q365 : TF 365 y365 := ⟨⟨underlying365, t365, by kernel_rfl, rfl, rfl, rfl, rfl, by kernel_rfl, by decide⟩, nf rfl⟩
theorem q366 : TF 366 y366 := ⟨⟨underlying366, t366, by kernel_rfl, rfl, rfl, rfl, rfl, by kernel_rfl, by decide⟩, nf rfl⟩
theorem q367 : TF 367 y367 := ⟨⟨underlying367, t367, by kernel_rfl, rfl, rfl, rfl, rfl, by kernel_rfl, by decide⟩, nf rfl⟩
theorem q368 : TF 368 y368 := ⟨⟨underlying368, t368, by kernel_rfl, rfl, rfl, rfl, rfl, by kernel_rfl, by decide⟩, nf rfl⟩
theorem q369 : TF 369 y369 := ⟨⟨underlying369, t369, by kernel_rfl, rfl, rfl, rfl, rfl, by kernel_rfl, by decide⟩, nf rfl⟩
theorem q370 : TF 370 y370 := ⟨⟨underlying370, t370, by kernel_rfl, rfl, rfl, rfl, rfl, by kernel_rfl, by decide⟩, nf rfl⟩
theorem q371 : TF 371 y371 := ⟨⟨underlying371, t371, by kernel_rfl, rfl, rfl, rfl, rfl, by kernel_rfl, by decide⟩, nf rfl⟩
theorem q372 : TF 372 y372 := ⟨⟨underlying372, t372, by kernel_rfl, rfl, rfl, rfl, rfl, by kernel_rfl, by decide⟩, nf rfl⟩
theorem q373 : TF 373 y373 := ⟨⟨underlying373, t373, by kernel_rfl, rfl, rfl, rfl, rfl, by kernel_rfl, by decide⟩, nf rfl⟩
theorem q374 : TF 374 y374 := ⟨⟨underlying374, t374, by kernel_rfl, rfl, rfl, rfl, rfl, by kernel_rfl, by decide⟩, nf rfl⟩
theorem q375 : TF 375 y375 := ⟨⟨underlying375, t375, by kernel_rfl, rfl, rfl, rfl, rfl, by kernel_rfl, by decide⟩, nf rfl⟩
theorem q376 : TF 376 y376 := ⟨⟨underlying376, t376, by kernel_rfl, rfl, rfl, rfl, rfl, by kernel_rfl, by decide⟩, nf rfl⟩
theorem q377 : TF 377 y377 := ⟨⟨underlying377, t377, by kernel_rfl, rfl, rfl, rfl, rfl, by kernel_rfl, by decide⟩, nf rfl⟩
theorem q378 : TF 378 y378 := ⟨⟨underlying378, t378, by kernel_rfl, rfl, rfl, rfl, rfl, by kernel_rfl, by decide⟩, nf rfl⟩
theorem q379 : TF 379 y379 := ⟨⟨underlying379, t379, by kernel_rfl, rfl, rfl, rfl, rfl, by kernel_rfl, by decide⟩, nf rfl⟩
theorem q380 : TF 380 y380 := ⟨⟨underlying380, t380, by kernel_rfl, rfl, rfl, rfl, rfl, by kernel_rfl, by decide⟩, nf rfl⟩
theorem q381 : TF 381 y381 := ⟨⟨underlying381, t381, by kernel_rfl, rfl, rfl, rfl, rfl, by kernel_rfl, by decide⟩, nf rfl⟩
theorem q382 : TF 382 y382 := ⟨⟨underlying382, t382, by kernel_rfl, rfl, rfl, rfl, rfl, by kernel_rfl, by decide⟩, nf rfl⟩
theorem q383 : TF 383 y383 := ⟨⟨underlying383, t383, by kernel_rfl, rfl, rfl, rfl, rfl, by kernel_rfl, by decide⟩, nf rfl⟩
theorem q384 : TF 384 y384 := ⟨⟨underlying384, t384, by kernel_rfl, rfl, rfl, rfl, rfl, by kernel_rfl, by decide⟩, nf rfl⟩
theorem q385 : TF 385 y385 := ⟨⟨underlying385, t385, by kernel_rfl, rfl, rfl, rfl, rfl, by kernel_rfl, by decide⟩, nf rfl⟩
theorem q386 : TF 386 y386 := ⟨⟨underlying386, t386, by kernel_rfl, rfl, rfl, rfl, rfl, by kernel_rfl, by decide⟩, nf rfl⟩
theorem q387 : TF 387 y387 := ⟨⟨underlying387, t387, by kernel_rfl, rfl, rfl, rfl, rfl, by kernel_rfl, by decide⟩, nf rfl⟩
theorem q388 : TF 388 y388 := ⟨⟨underlying388, t388, by kernel_rfl, rfl, rfl, rfl, rfl, by kernel_rfl, by decide⟩, nf rfl⟩
theorem q389 : TF 389 y389 := ⟨⟨underlying389, t389, by kernel_rfl, rfl, rfl, rfl, rfl, by kernel_rfl, by decide⟩, nf rfl⟩
theorem q390 : TF 390 y390 := ⟨⟨underlying390, t390, by kernel_rfl, rfl, rfl, rfl, rfl, by kernel_rfl, by decide⟩, nf rfl⟩
theorem q391 : TF 391 y391 := ⟨⟨underlying391, t391, by kernel_rfl, rfl, rfl, rfl, rfl, by kernel_rfl, by decide⟩, nf rfl⟩
theorem q392 : TF 392 y392 := ⟨⟨underlying392, t392, by kernel_rfl, rfl, rfl, rfl, rfl, by kernel_rfl, by decide⟩, nf rfl⟩
theorem q393 : TF 393 y393 := ⟨⟨underlying393, t393, by kernel_rfl, rfl, rfl, rfl, rfl, by kernel_rfl, by decide⟩, nf rfl⟩
theorem q394 : TF 394 y394 := ⟨⟨underlying394, t394, by kernel_rfl, rfl, rfl, rfl, rfl, by kernel_rfl, by decide⟩, nf rfl⟩
theorem q395 : TF 395 y395 := ⟨⟨underlying395, t395, by kernel_rfl, rfl, rfl, rfl, rfl, by kernel_rfl, by decide⟩, nf rfl⟩
theorem q396 : TF 396 y396 := ⟨⟨underlying396, t396, by kernel_rfl, rfl, rfl, rfl, rfl, by kernel_rfl, by decide⟩, nf rfl⟩
theorem fnOk : ∀ f F, fn.get f = some F → FnP f F := (nn (nn (nd p3 (nd p7 (nd p15 (nd p31 (nd p63 (nd p127 (nd p255 lf lf) lf) (nd p191 (nd p319 lf lf) lf)) (nd p95 (nd p159 (nd p287 lf lf) lf) (nd p223 lf lf))) (nd p47 (nd p79 (nd p143 (nd p271 lf lf) lf) (nd p207 lf lf)) (nd p111 (nd p175 (nd p303 lf lf) lf) (nd p239 lf lf)))) (nd p23 (nd p39 (nd p71 (nd p135 (nd p263 lf lf) lf) (nd p199 (nd p327 lf lf) lf)) (nd p103 (nd p167 (nd p295 lf lf) lf) (nd p231 lf lf))) (nd p55 (nd p87 (nd p151 (nd p279 lf lf) lf) (nd p215 lf lf)) (nd p119 (nd p183 (nd p311 lf lf) lf) (nd p247 lf lf))))) (nd p11 (nd p19 (nd p35 (nd p67 (nd p131 (nd p259 lf lf) lf) (nd p195 (nd p323 lf lf) lf)) (nd p99 (nd p163 (nd p291 lf lf) lf) (nd p227 lf lf))) (nd p51 (nd p83 (nd p147 (nd p275 lf lf) lf) (nd p211 lf lf)) (nd p115 (nd p179 (nd p307 lf lf) lf) (nd p243 lf lf)))) (nd p27 (nd p43 (nd p75 (nd p139 (nd p267 lf lf) lf) (nd p203 lf lf)) (nd p107 (nd p171 (nd p299 lf lf) lf) (nd p235 lf lf))) (nd p59 (nd p91 (nd p155 (nd p283 lf lf) lf) (nd p219 lf lf)) (nd p123 (nd p187 (nd p315 lf lf) lf) (nd p251 lf lf)))))) (nd p5 (nd p9 (nd p17 (nd p33 (nd p65 (nd p129 (nd p257 lf lf) lf) (nd p193 (nd p321 lf lf) lf)) (nd p97 (nd p161 (nd p289 lf lf) lf) (nd p225 lf lf))) (nd p49 (nd p81 (nd p145 (nd p273 lf lf) lf) (nd p209 lf lf)) (nd p113 (nd p177 (nd p305 lf lf) lf) (nd p241 lf lf)))) (nd p25 (nd p41 (nd p73 (nd p137 (nd p265 lf lf) lf) (nd p201 (nd p329 lf lf) lf)) (nd p105 (nd p169 (nd p297 lf lf) lf) (nd p233 lf lf))) (nd p57 (nd p89 (nd p153 (nd p281 lf lf) lf) (nd p217 lf lf)) (nd p121 (nd p185 (nd p313 lf lf) lf) (nd p249 lf lf))))) (nd p13 (nd p21 (nd p37 (nd p69 (nd p133 (nd p261 lf lf) lf) (nd p197 (nd p325 lf lf) lf)) (nd p101 (nd p165 (nd p293 lf lf) lf) (nd p229 lf lf))) (nd p53 (nd p85 (nd p149 (nd p277 lf lf) lf) (nd p213 lf lf)) (nd p117 (nd p181 (nd p309 lf lf) lf) (nd p245 lf lf)))) (nd p29 (nd p45 (nd p77 (nd p141 (nd p269 lf lf) lf) (nd p205 lf lf)) (nd p109 (nd p173 (nd p301 lf lf) lf) (nd p237 lf lf))) (nd p61 (nd p93 (nd p157 (nd p285 lf lf) lf) (nd p221 lf lf)) (nd p125 (nd p189 (nd p317 lf lf) lf) (nd p253 lf lf))))))) (nn (nd p4 (nd p8 (nd p16 (nd p32 (nd p64 (nd p128 (nd p256 lf lf) lf) (nd p192 (nd p320 lf lf) lf)) (nd p96 (nd p160 (nd p288 lf lf) lf) (nd p224 lf lf))) (nd p48 (nd p80 (nd p144 (nd p272 lf lf) lf) (nd p208 lf lf)) (nd p112 (nd p176 (nd p304 lf lf) lf) (nd p240 lf lf)))) (nd p24 (nd p40 (nd p72 (nd p136 (nd p264 lf lf) lf) (nd p200 (nd p328 lf lf) lf)) (nd p104 (nd p168 (nd p296 lf lf) lf) (nd p232 lf lf))) (nd p56 (nd p88 (nd p152 (nd p280 lf lf) lf) (nd p216 lf lf)) (nd p120 (nd p184 (nd p312 lf lf) lf) (nd p248 lf lf))))) (nd p12 (nd p20 (nd p36 (nd p68 (nd p132 (nd p260 lf lf) lf) (nd p196 (nd p324 lf lf) lf)) (nd p100 (nd p164 (nd p292 lf lf) lf) (nd p228 lf lf))) (nd p52 (nd p84 (nd p148 (nd p276 lf lf) lf) (nd p212 lf lf)) (nd p116 (nd p180 (nd p308 lf lf) lf) (nd p244 lf lf)))) (nd p28 (nd p44 (nd p76 (nd p140 (nd p268 lf lf) lf) (nd p204 lf lf)) (nd p108 (nd p172 (nd p300 lf lf) lf) (nd p236 lf lf))) (nd p60 (nd p92 (nd p156 (nd p284 lf lf) lf) (nd p220 lf lf)) (nd p124 (nd p188 (nd p316 lf lf) lf) (nd p252 lf lf)))))) (nd p6 (nd p10 (nd p18 (nd p34 (nd p66 (nd p130 (nd p258 lf lf) lf) (nd p194 (nd p322 lf lf) lf)) (nd p98 (nd p162 (nd p290 lf lf) lf) (nd p226 lf lf))) (nd p50 (nd p82 (nd p146 (nd p274 lf lf) lf) (nd p210 lf lf)) (nd p114 (nd p178 (nd p306 lf lf) lf) (nd p242 lf lf)))) (nd p26 (nd p42 (nd p74 (nd p138 (nd p266 lf lf) lf) (nd p202 lf lf)) (nd p106 (nd p170 (nd p298 lf lf) lf) (nd p234 lf lf))) (nd p58 (nd p90 (nd p154 (nd p282 lf lf) lf) (nd p218 lf lf)) (nd p122 (nd p186 (nd p314 lf lf) lf) (nd p250 lf lf))))) (nd p14 (nd p22 (nd p38 (nd p70 (nd p134 (nd p262 lf lf) lf) (nd p198 (nd p326 lf lf) lf)) (nd p102 (nd p166 (nd p294 lf lf) lf) (nd p230 lf lf))) (nd p54 (nd p86 (nd p150 (nd p278 lf lf) lf) (nd p214 lf lf)) (nd p118 (nd p182 (nd p310 lf lf) lf) (nd p246 lf lf)))) (nd p30 (nd p46 (nd p78 (nd p142 (nd p270 lf lf) lf) (nd p206 lf lf)) (nd p110 (nd p174 (nd p302 lf lf) lf) (nd p238 lf lf))) (nd p62 (nd p94 (nd p158 (nd p286 lf lf) lf) (nd p222 lf lf)) (nd p126 (nd p190 (nd p318 lf lf) lf) (nd p254 lf lf))))))))
theorem tfOk : ∀ t i, ty.get t = some i → TF t i := (nd q0 (nd q1 (nd q3 (nd q7 (nd q15 (nd q31 (nd q63 (nd q127 (nd q255 lf lf) (nd q383 lf lf)) (nd q191 (nd q319 lf lf) lf)) (nd q95 (nd q159 (nd q287 lf lf) lf) (nd q223 (nd q351 lf lf) lf))) (nd q47 (nd q79 (nd q143 (nd q271 lf lf) lf) (nd q207 (nd q335 lf lf) lf)) (nd q111 (nd q175 (nd q303 lf lf) lf) (nd q239 (nd q367 lf lf) lf)))) (nd q23 (nd q39 (nd q71 (nd q135 (nd q263 lf lf) (nd q391 lf lf)) (nd q199 (nd q327 lf lf) lf)) (nd q103 (nd q167 (nd q295 lf lf) lf) (nd q231 (nd q359 lf lf) lf))) (nd q55 (nd q87 (nd q151 (nd q279 lf lf) lf) (nd q215 (nd q343 lf lf) lf)) (nd q119 (nd q183 (nd q311 lf lf) lf) (nd q247 (nd q375 lf lf) lf))))) (nd q11 (nd q19 (nd q35 (nd q67 (nd q131 (nd q259 lf lf) (nd q387 lf lf)) (nd q195 (nd q323 lf lf) lf)) (nd q99 (nd q163 (nd q291 lf lf) lf) (nd q227 (nd q355 lf lf) lf))) (nd q51 (nd q83 (nd q147 (nd q275 lf lf) lf) (nd q211 (nd q339 lf lf) lf)) (nd q115 (nd q179 (nd q307 lf lf) lf) (nd q243 (nd q371 lf lf) lf)))) (nd q27 (nd q43 (nd q75 (nd q139 (nd q267 lf lf) (nd q395 lf lf)) (nd q203 (nd q331 lf lf) lf)) (nd q107 (nd q171 (nd q299 lf lf) lf) (nd q235 (nd q363 lf lf) lf))) (nd q59 (nd q91 (nd q155 (nd q283 lf lf) lf) (nd q219 (nd q347 lf lf) lf)) (nd q123 (nd q187 (nd q315 lf lf) lf) (nd q251 (nd q379 lf lf) lf)))))) (nd q5 (nd q9 (nd q17 (nd q33 (nd q65 (nd q129 (nd q257 lf lf) (nd q385 lf lf)) (nd q193 (nd q321 lf lf) lf)) (nd q97 (nd q161 (nd q289 lf lf) lf) (nd q225 (nd q353 lf lf) lf))) (nd q49 (nd q81 (nd q145 (nd q273 lf lf) lf) (nd q209 (nd q337 lf lf) lf)) (nd q113 (nd q177 (nd q305 lf lf) lf) (nd q241 (nd q369 lf lf) lf)))) (nd q25 (nd q41 (nd q73 (nd q137 (nd q265 lf lf) (nd q393 lf lf)) (nd q201 (nd q329 lf lf) lf)) (nd q105 (nd q169 (nd q297 lf lf) lf) (nd q233 (nd q361 lf lf) lf))) (nd q57 (nd q89 (nd q153 (nd q281 lf lf) lf) (nd q217 (nd q345 lf lf) lf)) (nd q121 (nd q185 (nd q313 lf lf) lf) (nd q249 (nd q377 lf lf) lf))))) (nd q13 (nd q21 (nd q37 (nd q69 (nd q133 (nd q261 lf lf) (nd q389 lf lf)) (nd q197 (nd q325 lf lf) lf)) (nd q101 (nd q165 (nd q293 lf lf) lf) (nd q229 (nd q357 lf lf) lf))) (nd q53 (nd q85 (nd q149 (nd q277 lf lf) lf) (nd q213 (nd q341 lf lf) lf)) (nd q117 (nd q181 (nd q309 lf lf) lf) (nd q245 (nd q373 lf lf) lf)))) (nd q29 (nd q45 (nd q77 (nd q141 (nd q269 lf lf) lf) (nd q205 (nd q333 lf lf) lf)) (nd q109 (nd q173 (nd q301 lf lf) lf) (nd q237 (nd q365 lf lf) lf))) (nd q61 (nd q93 (nd q157 (nd q285 lf lf) lf) (nd q221 (nd q349 lf lf) lf)) (nd q125 (nd q189 (nd q317 lf lf) lf) (nd q253 (nd q381 lf lf) lf))))))) (nd q2 (nd q4 (nd q8 (nd q16 (nd q32 (nd q64 (nd q128 (nd q256 lf lf) (nd q384 lf lf)) (nd q192 (nd q320 lf lf) lf)) (nd q96 (nd q160 (nd q288 lf lf) lf) (nd q224 (nd q352 lf lf) lf))) (nd q48 (nd q80 (nd q144 (nd q272 lf lf) lf) (nd q208 (nd q336 lf lf) lf)) (nd q112 (nd q176 (nd q304 lf lf) lf) (nd q240 (nd q368 lf lf) lf)))) (nd q24 (nd q40 (nd q72 (nd q136 (nd q264 lf lf) (nd q392 lf lf)) (nd q200 (nd q328 lf lf) lf)) (nd q104 (nd q168 (nd q296 lf lf) lf) (nd q232 (nd q360 lf lf) lf))) (nd q56 (nd q88 (nd q152 (nd q280 lf lf) lf) (nd q216 (nd q344 lf lf) lf)) (nd q120 (nd q184 (nd q312 lf lf) lf) (nd q248 (nd q376 lf lf) lf))))) (nd q12 (nd q20 (nd q36 (nd q68 (nd q132 (nd q260 lf lf) (nd q388 lf lf)) (nd q196 (nd q324 lf lf) lf)) (nd q100 (nd q164 (nd q292 lf lf) lf) (nd q228 (nd q356 lf lf) lf))) (nd q52 (nd q84 (nd q148 (nd q276 lf lf) lf) (nd q212 (nd q340 lf lf) lf)) (nd q116 (nd q180 (nd q308 lf lf) lf) (nd q244 (nd q372 lf lf) lf)))) (nd q28 (nd q44 (nd q76 (nd q140 (nd q268 lf lf) (nd q396 lf lf)) (nd q204 (nd q332 lf lf) lf)) (nd q108 (nd q172 (nd q300 lf lf) lf) (nd q236 (nd q364 lf lf) lf))) (nd q60 (nd q92 (nd q156 (nd q284 lf lf) lf) (nd q220 (nd q348 lf lf) lf)) (nd q124 (nd q188 (nd q316 lf lf) lf) (nd q252 (nd q380 lf lf) lf)))))) (nd q6 (nd q10 (nd q18 (nd q34 (nd q66 (nd q130 (nd q258 lf lf) (nd q386 lf lf)) (nd q194 (nd q322 lf lf) lf)) (nd q98 (nd q162 (nd q290 lf lf) lf) (nd q226 (nd q354 lf lf) lf))) (nd q50 (nd q82 (nd q146 (nd q274 lf lf) lf) (nd q210 (nd q338 lf lf) lf)) (nd q114 (nd q178 (nd q306 lf lf) lf) (nd q242 (nd q370 lf lf) lf)))) (nd q26 (nd q42 (nd q74 (nd q138 (nd q266 lf lf) (nd q394 lf lf)) (nd q202 (nd q330 lf lf) lf)) (nd q106 (nd q170 (nd q298 lf lf) lf) (nd q234 (nd q362 lf lf) lf))) (nd q58 (nd q90 (nd q154 (nd q282 lf lf) lf) (nd q218 (nd q346 lf lf) lf)) (nd q122 (nd q186 (nd q314 lf lf) lf) (nd q250 (nd q378 lf lf) lf))))) (nd q14 (nd q22 (nd q38 (nd q70 (nd q134 (nd q262 lf lf) (nd q390 lf lf)) (nd q198 (nd q326 lf lf) lf)) (nd q102 (nd q166 (nd q294 lf lf) lf) (nd q230 (nd q358 lf lf) lf))) (nd q54 (nd q86 (nd q150 (nd q278 lf lf) lf) (nd q214 (nd q342 lf lf) lf)) (nd q118 (nd q182 (nd q310 lf lf) lf) (nd q246 (nd q374 lf lf) lf)))) (nd q30 (nd q46 (nd q78 (nd q142 (nd q270 lf lf) lf) (nd q206 (nd q334 lf lf) lf)) (nd q110 (nd q174 (nd q302 lf lf) lf) (nd q238 (nd q366 lf lf) lf))) (nd q62 (nd q94 (nd q158 (nd q286 lf lf) lf) (nd q222 (nd q350 lf lf) lf)) (nd q126 (nd q190 (nd q318 lf lf) lf) (nd q254 (nd q382 lf lf) lf))))))))
noncomputable def D : Abs.Data := { fn := fn, ty := ty }
theorem dok : DOk Tryz.prog D := ⟨fun f F h => fnOk f F h, fun t i h => (tfOk t i h).1, fun t i h hf => (tfOk t i h).2 hf, by kernel_rfl⟩
theorem ovok : OvOK Tryz.prog D := fun f g h => by simp [D] at h
end Go.Proofs.YtahokmlfnkakiaaGreat.Tab
