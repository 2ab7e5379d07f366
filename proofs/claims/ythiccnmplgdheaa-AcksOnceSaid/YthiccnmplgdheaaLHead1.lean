/- Chapter 18's example and the law HeadSpread over the typed texts. -/
-- SEAT b
import Derived.Test.YthiccnmplgdheaaSHead4
set_option linter.unusedVariables false
set_option linter.unusedSimpArgs false
namespace Go.Proofs.Ythiccnmplgdheaa.T
open Go Go.Abs Go.Proofs
theorem capOk_self (sz n : Nat) (h : n < B63) : CapOK sz n n := by unfold CapOK; rw [capK_exact h]; exact Nat.le_refl _
theorem Box.rdS {h : H} {b n : Nat} {xs : List Sl} (B : Box h b (xs.map encSl)) (w : WF h) (hn : xs.length = n) (hb : n < B63) : RdS h ⟨some ⟨b, 0, some 0⟩, n, n⟩ xs := by
  subst hn; exact B.rd w (by simp) (capOk_self _ _ hb)
theorem Box.rdB {h : H} {b n : Nat} {xs : List UInt8} (B : Box h b (vB xs)) (w : WF h) (hn : xs.length = n) (hb : n < B63) : RdB h ⟨some ⟨b, 0, some 0⟩, n, n⟩ xs := by
  subst hn; exact B.rd w (by simp [vB]) (capOk_self _ _ hb)
def X0 : Hd := (3, 9, 2, 0, 81)
theorem PO.law {m : Option (Bool × H)} (p : PO m (fun (a, _) => a = true)) : ∃ h', m = some (true, h') := by
  obtain ⟨⟨a, h'⟩, e, ha⟩ := p
  have ha' : a = true := ha
  subst ha'
  exact ⟨h', e⟩
theorem slB_hi {h : H} {s : Sl} {l : List UInt8} (hr : RdB h s l) {hi : Int} (h1 : 0 ≤ hi) (h2 : hi ≤ l.length) : ∃ s', slT 1 h s none (some hi) none = some s' ∧ RdB h s' (l.take hi.toNat) := by
  obtain ⟨s', e, r, _, _⟩ := sl_hi (hi := hi) (by omega) (by unfold B63; omega) hr h1 (by rw [RdB.len hr]; exact h2)
  refine ⟨s', e, ?_⟩
  unfold vB at r; unfold RdB vB
  rw [Nat.mul_one] at r
  rw [List.map_take]; exact r
theorem slB_lo {h : H} {s : Sl} {l : List UInt8} (hr : RdB h s l) {lo : Int} (h1 : 0 ≤ lo) (h2 : lo ≤ l.length) : ∃ s', slT 1 h s (some lo) none none = some s' ∧ RdB h s' (l.drop lo.toNat) := by
  obtain ⟨s', e, r, _, _⟩ := sl_lo (lo := lo) (by omega) (by unfold B63; omega) hr h1 (by rw [RdB.len hr]; exact h2)
  refine ⟨s', e, ?_⟩
  unfold vB at r; unfold RdB vB
  rw [Nat.mul_one] at r
  rw [List.map_drop]; exact r
theorem ofV_ok {id dl sz : Int} (h : 0 ≤ id ∧ id < 40 ∧ 0 ≤ dl ∧ dl ≤ 4611686018427387903 ∧ 1 ≤ sz ∧ sz ≤ 600) : ofV id dl sz = (id, dl, hcnt sz, 0, sz) ∧ HR (id, dl, hcnt sz, 0, sz) := by
  have : HR (id, dl, hcnt sz, 0, sz) := ⟨h.1, h.2.1, h.2.2.1, h.2.2.2.1, h.2.2.2.2.1, h.2.2.2.2.2, rfl, Int.le_refl 0, by show 0 < hcnt sz; unfold hcnt; omega⟩
  exact ⟨by unfold ofV; rw [if_pos this], this⟩
abbrev RNG (n : Int) : Prop := -9223372036854775808 ≤ n ∧ n ≤ 9223372036854775807
theorem emod_b (a : Int) {m : Int} (h : 0 < m) : 0 ≤ a % m ∧ a % m < m := ⟨Int.emod_nonneg a (by omega), Int.emod_lt_of_pos a h⟩
theorem layV_no {x : Hd} {l : List UInt8} (h : (l.length : Int) ≠ hto x - hfrom x) : layV x l = [] := by unfold layV; rw [if_neg (fun e => h e.2)]
end Go.Proofs.Ythiccnmplgdheaa.T
