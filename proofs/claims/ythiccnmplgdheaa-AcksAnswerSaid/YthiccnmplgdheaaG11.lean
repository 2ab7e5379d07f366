/- Lemmas about the typed texts (joined: SRef2 SHead1 SHead2). -/
import Derived.Test.YthiccnmplgdheaaG10
import Derived.Test.YthiccnmplgdheaaTxt
import Derived.Test.YthiccnmplgdheaaG3
import Derived.Test.YthiccnmplgdheaaG9
import Derived.Test.YthiccnmplgdheaaG4
/- The reference's functions of chapter 1 over the typed texts: numbers put, taken. -/
set_option linter.unusedVariables false
set_option linter.unusedSimpArgs false
namespace Go.Proofs.Ythiccnmplgdheaa.T
open Go Go.Abs Go.Proofs
theorem app_new {h : H} {x : Sl} {l : List UInt8} (w : WF h) (hr : RdB h x l) (hl : l.length ≤ 2 ^ 47) :
    ∃ s' h', appT 5 1 1 (newAt (grow h 1) h.size (row 5 [])) ⟨some ⟨h.size, 0, some 0⟩, 0, 0⟩ x = some (s', h') ∧ EX h h' ∧ BufB h' s' l ∧ Fr h.size s' := by
  have x1 := wf_new w 5 (vB [])
  have b1 := bufB_new w 5 [] (by decide)
  rw [show row 5 [] = row 5 (vB []) from rfl]
  have f1 := fr_new h 0 0
  simp only [List.length_nil] at b1
  generalize newAt (grow h 1) h.size (row 5 (vB [])) = h1 at x1 b1 ⊢
  generalize (⟨some ⟨h.size, 0, some 0⟩, 0, 0⟩ : Sl) = s1 at b1 f1 ⊢
  obtain ⟨s', h', e2, k2, x2, b2, _, f2⟩ := appB_ok (e := 5) x1.wf b1 (hr.ex x1) (by simpa using hl)
  exact ⟨s', h', e2, x2 _ x1 f1, by simpa using b2, f2 _ x1.size f1⟩
def putV (l : List UInt8) (zs : List Int) : List UInt8 := if szV zs < 0 then [] else l ++ encs zs
theorem Put_all {h : H} {b n : Sl} {l : List UInt8} {zs : List Int} (w : WF h) (hb : RdB h b l) (hr : RdI .i64 h n zs) (hl : l.length + 8 * zs.length ≤ 2 ^ 47) :
    ∃ s' h', varint_Put b n h = some (s', h') ∧ EX h h' ∧ RdB h' s' (putV l zs) := by
  unfold putV
  by_cases hs : szV zs < 0
  · rw [if_pos hs]
    rw [szV_neg] at hs
    obtain ⟨h', e, x⟩ := Put_bad w hb hr hl (by
      have hd : ¬ ¬ ∃ x ∈ zs, ¬ okN x := fun hn => hs fun x hx => Decidable.not_not.1 fun hk => hn ⟨x, hx, hk⟩
      exact Classical.not_not.1 hd)
    exact ⟨_, h', e, x, rd_nil 1 h'⟩
  · rw [if_neg hs]
    have hall : ∀ x ∈ zs, okN x := Decidable.not_not.1 fun hn => hs ((szV_neg zs).2 hn)
    obtain ⟨s', h', e, x, r, _⟩ := Put_f w hb hr hl hall
    exact ⟨s', h', e, x, r⟩
/-! a number taken -/
/-! numbers taken one behind the other -/
end Go.Proofs.Ythiccnmplgdheaa.T
/- Chapter 18's functions over the typed texts: what a right head is, its pieces' bounds. -/
set_option linter.unusedVariables false
set_option linter.unusedSimpArgs false
namespace Go.Proofs.Ythiccnmplgdheaa.T
open Go Go.Abs Go.Proofs
abbrev Hd := Int × Int × Int × Int × Int
def hcnt (s : Int) : Int := (s + 79) / 80
def HR (x : Hd) : Prop := 0 ≤ x.1 ∧ x.1 < 40 ∧ 0 ≤ x.2.1 ∧ x.2.1 ≤ 4611686018427387903 ∧ 1 ≤ x.2.2.2.2 ∧ x.2.2.2.2 ≤ 600 ∧ x.2.2.1 = hcnt x.2.2.2.2 ∧ 0 ≤ x.2.2.2.1 ∧ x.2.2.2.1 < x.2.2.1
instance (x : Hd) : Decidable (HR x) := by unfold HR; infer_instance
/-! bounds of a piece -/
def hfrom (x : Hd) : Int := x.2.2.2.1 * 80
def hto (x : Hd) : Int := min (x.2.2.2.1 * 80 + 80) x.2.2.2.2
theorem HR.b {x : Hd} (h : HR x) : 0 ≤ hfrom x ∧ hfrom x < hto x ∧ hto x ≤ x.2.2.2.2 ∧ x.2.2.2.2 ≤ 600 ∧ hto x - hfrom x ≤ 80 := by
  unfold HR hcnt at h; unfold hfrom hto; omega
/-! a head of a message -/
def ofV (id dl sz : Int) : Hd := if HR (id, dl, hcnt sz, 0, sz) then (id, dl, hcnt sz, 0, sz) else (0, 0, 0, 0, 0)
end Go.Proofs.Ythiccnmplgdheaa.T
/- Chapter 18's functions over the typed texts: parts, pieces laid and read, short heads. -/
set_option linter.unusedVariables false
set_option linter.unusedSimpArgs false
namespace Go.Proofs.Ythiccnmplgdheaa.T
open Go Go.Abs Go.Proofs
theorem clipB_f {h : H} {s : Sl} {l : List UInt8} (hr : RdB h s l) (hl : l.length ≤ 2 ^ 47) : ∃ s', slices_Clip_byte s h = some (s', h) ∧ RdB h s' l ∧ ∀ n, Fr n s → Fr n s' := by
  obtain ⟨s3, e3, r3, _, _, f3⟩ := clip_ok (by omega) (by unfold B63; omega) hr (by rw [RdB.len hr]; unfold B63; omega)
  refine ⟨s3, ?_, r3, f3⟩
  unfold slices_Clip_byte
  rw [e3, bindO_some]
/-! a part of a message's bytes -/
def partV (x : Hd) (l : List UInt8) : List UInt8 := if HR x ∧ (l.length : Int) = x.2.2.2.2 then (l.drop (hfrom x).toNat).take ((hto x).toNat - (hfrom x).toNat) else []
theorem partV_len {x : Hd} {l : List UInt8} (h : HR x ∧ (l.length : Int) = x.2.2.2.2) : (partV x l).length = (hto x).toNat - (hfrom x).toNat := by
  have := h.1.b
  unfold partV; rw [if_pos h]; simp; omega
abbrev hdL (x : Hd) : List Value := [.int .i64 x.1, .int .i64 x.2.1, .int .i64 x.2.2.1, .int .i64 x.2.2.2.1, .int .i64 x.2.2.2.2]
/-! a piece laid -/
def hnums (x : Hd) : List Int := [x.1, x.2.1, x.2.2.1, x.2.2.2.1, x.2.2.2.2]
def layV (x : Hd) (l : List UInt8) : List UInt8 := if HR x ∧ (l.length : Int) = hto x - hfrom x then encs (hnums x) ++ l else []
theorem HR.ok {x : Hd} (h : HR x) : ∀ n ∈ hnums x, okN n := by
  unfold HR hcnt at h; unfold hnums okN; simp only [List.mem_cons, List.not_mem_nil, or_false, forall_eq_or_imp, forall_eq]; omega
end Go.Proofs.Ythiccnmplgdheaa.T
