/- The reference's functions of chapter 1 over the typed texts: numbers put, taken. -/
import Derived.Test.YthiccnmplgdheaaSRef1
set_option linter.unusedVariables false
set_option linter.unusedSimpArgs false
namespace Go.Proofs.Ythiccnmplgdheaa.T
open Go Go.Abs Go.Proofs
theorem app_new {h : H} {x : Sl} {l : List UInt8} (w : WF h) (hr : RdB h x l) (hl : l.length ≤ 2 ^ 47) :
    ∃ s' h', appT 5 1 1 (newAt (grow h 1) h.size (row 5 [])) ⟨some ⟨h.size, 0, some 0⟩, 0, 0⟩ x = some (s', h') ∧ EX h h' ∧ BufB h' s' l ∧ Fr h.size s' := by
  have x1 := wf_new w 5 (vB [])
  have b1 := bufB_new w 5 [] (by decide)
  rw [show row 5 [] = row 5 (vB []) from rfl]
  have f1 := fr_new h 0 0
  simp only [List.length_nil] at b1
  generalize newAt (grow h 1) h.size (row 5 (vB [])) = h1 at x1 b1 ⊢
  generalize (⟨some ⟨h.size, 0, some 0⟩, 0, 0⟩ : Sl) = s1 at b1 f1 ⊢
  obtain ⟨s', h', e2, k2, x2, b2, _, f2⟩ := appB_ok (e := 5) x1.wf b1 (hr.ex x1) (by simpa using hl)
  exact ⟨s', h', e2, x2 _ x1 f1, by simpa using b2, f2 _ x1.size f1⟩
def putV (l : List UInt8) (zs : List Int) : List UInt8 := if szV zs < 0 then [] else l ++ encs zs
theorem Put_all {h : H} {b n : Sl} {l : List UInt8} {zs : List Int} (w : WF h) (hb : RdB h b l) (hr : RdI .i64 h n zs) (hl : l.length + 8 * zs.length ≤ 2 ^ 47) :
    ∃ s' h', varint_Put b n h = some (s', h') ∧ EX h h' ∧ RdB h' s' (putV l zs) := by
  unfold putV
  by_cases hs : szV zs < 0
  · rw [if_pos hs]
    rw [szV_neg] at hs
    obtain ⟨h', e, x⟩ := Put_bad w hb hr hl (by
      have hd : ¬ ¬ ∃ x ∈ zs, ¬ okN x := fun hn => hs fun x hx => Decidable.not_not.1 fun hk => hn ⟨x, hx, hk⟩
      exact Classical.not_not.1 hd)
    exact ⟨_, h', e, x, rd_nil 1 h'⟩
  · rw [if_neg hs]
    have hall : ∀ x ∈ zs, okN x := Decidable.not_not.1 fun hn => hs ((szV_neg zs).2 hn)
    obtain ⟨s', h', e, x, r, _⟩ := Put_f w hb hr hl hall
    exact ⟨s', h', e, x, r⟩
/-! a number taken -/
/-! numbers taken one behind the other -/
end Go.Proofs.Ythiccnmplgdheaa.T
