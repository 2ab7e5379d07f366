/- Lemmas about the typed texts (joined: SHead1 SHead2 SHead3). -/
import Derived.Test.YtaebjajbogedkaaTxt
import Derived.Test.YtaebjajbogedkaaG3
import Derived.Test.YtaebjajbogedkaaG11
import Derived.Test.YtaebjajbogedkaaG9
import Derived.Test.YtaebjajbogedkaaG4
/- Chapter 18's functions over the typed texts: what a right head is, its pieces' bounds. -/
set_option linter.unusedVariables false
set_option linter.unusedSimpArgs false
namespace Go.Proofs.Ytaebjajbogedkaa.T
open Go Go.Abs Go.Proofs
abbrev Hd := Int × Int × Int × Int × Int
def hcnt (s : Int) : Int := (s + 79) / 80
def HR (x : Hd) : Prop := 0 ≤ x.1 ∧ x.1 < 40 ∧ 0 ≤ x.2.1 ∧ x.2.1 ≤ 4611686018427387903 ∧ 1 ≤ x.2.2.2.2 ∧ x.2.2.2.2 ≤ 600 ∧ x.2.2.1 = hcnt x.2.2.2.2 ∧ 0 ≤ x.2.2.2.1 ∧ x.2.2.2.1 < x.2.2.1
instance (x : Hd) : Decidable (HR x) := by unfold HR; infer_instance
/-! bounds of a piece -/
def hfrom (x : Hd) : Int := x.2.2.2.1 * 80
def hto (x : Hd) : Int := min (x.2.2.2.1 * 80 + 80) x.2.2.2.2
theorem HR.b {x : Hd} (h : HR x) : 0 ≤ hfrom x ∧ hfrom x < hto x ∧ hto x ≤ x.2.2.2.2 ∧ x.2.2.2.2 ≤ 600 ∧ hto x - hfrom x ≤ 80 := by
  unfold HR hcnt at h; unfold hfrom hto; omega
/-! a head of a message -/
def ofV (id dl sz : Int) : Hd := if HR (id, dl, hcnt sz, 0, sz) then (id, dl, hcnt sz, 0, sz) else (0, 0, 0, 0, 0)
end Go.Proofs.Ytaebjajbogedkaa.T
/- Chapter 18's functions over the typed texts: parts, pieces laid and read, short heads. -/
set_option linter.unusedVariables false
set_option linter.unusedSimpArgs false
namespace Go.Proofs.Ytaebjajbogedkaa.T
open Go Go.Abs Go.Proofs
theorem clipB_f {h : H} {s : Sl} {l : List UInt8} (hr : RdB h s l) (hl : l.length ≤ 2 ^ 47) : ∃ s', slices_Clip_byte s h = some (s', h) ∧ RdB h s' l ∧ ∀ n, Fr n s → Fr n s' := by
  obtain ⟨s3, e3, r3, _, _, f3⟩ := clip_ok (by omega) (by unfold B63; omega) hr (by rw [RdB.len hr]; unfold B63; omega)
  refine ⟨s3, ?_, r3, f3⟩
  unfold slices_Clip_byte
  rw [e3, bindO_some]
/-! a part of a message's bytes -/
def partV (x : Hd) (l : List UInt8) : List UInt8 := if HR x ∧ (l.length : Int) = x.2.2.2.2 then (l.drop (hfrom x).toNat).take ((hto x).toNat - (hfrom x).toNat) else []
theorem partV_len {x : Hd} {l : List UInt8} (h : HR x ∧ (l.length : Int) = x.2.2.2.2) : (partV x l).length = (hto x).toNat - (hfrom x).toNat := by
  have := h.1.b
  unfold partV; rw [if_pos h]; simp; omega
abbrev hdL (x : Hd) : List Value := [.int .i64 x.1, .int .i64 x.2.1, .int .i64 x.2.2.1, .int .i64 x.2.2.2.1, .int .i64 x.2.2.2.2]
/-! a piece laid -/
def hnums (x : Hd) : List Int := [x.1, x.2.1, x.2.2.1, x.2.2.2.1, x.2.2.2.2]
def layV (x : Hd) (l : List UInt8) : List UInt8 := if HR x ∧ (l.length : Int) = hto x - hfrom x then encs (hnums x) ++ l else []
theorem HR.ok {x : Hd} (h : HR x) : ∀ n ∈ hnums x, okN n := by
  unfold HR hcnt at h; unfold hnums okN; simp only [List.mem_cons, List.not_mem_nil, or_false, forall_eq_or_imp, forall_eq]; omega
end Go.Proofs.Ytaebjajbogedkaa.T
/- Chapter 18's functions over the typed texts: pieces read, short heads, texts, the chapter's example. -/
set_option linter.unusedVariables false
set_option linter.unusedSimpArgs false
namespace Go.Proofs.Ytaebjajbogedkaa.T
open Go Go.Abs Go.Proofs
def hd0 : Hd := (0, 0, 0, 0, 0)
def hdOf (ns : List Int) : Hd := (ns.getD 0 0, ns.getD 1 0, ns.getD 2 0, ns.getD 3 0, ns.getD 4 0)
def readV (l : List UInt8) : Hd × List UInt8 × Int := match tks 5 l with
  | some (ns, rest) => if HR (hdOf ns) ∧ (rest.length : Int) = hto (hdOf ns) - hfrom (hdOf ns) then (hdOf ns, rest, 0) else (hd0, [], 2)
  | none => (hd0, [], 3)
end Go.Proofs.Ytaebjajbogedkaa.T
