/- Lemmas about the typed texts (joined: SPnum SSpan2 SSpan3). -/
import Derived.Test.YthiccnmplgdheaaTxt
import Derived.Test.YthiccnmplgdheaaAbsF
import Derived.Test.YthiccnmplgdheaaG4
/- Chapter 2's functions, what they tell; the laws PnumMonotone and PnumBack over the typed texts. -/
set_option linter.unusedVariables false
set_option linter.unusedSimpArgs false
namespace Go.Proofs.Ythiccnmplgdheaa.T
open Go Go.Abs Go.Proofs
theorem pick_f (a m : Int) (hp : 0 < m) (h2 : m ≤ 4611686018427387904) (h : H) : hand_Pick a m h = some (a % m, h) := by
  have h3 := tmod_pos a m hp
  have h5 := Int.tmod_eq_emod (a := a) (b := m)
  have h6 := Int.emod_nonneg a (Int.ne_of_gt hp)
  have h7 := Int.emod_lt_of_pos a hp
  unfold hand_Pick
  rw [remT_ok _ _ (by omega)]
  simp only [bindO_some, condK_eq, decide_eq_true_eq]
  split at h3
  · rename_i hc; rw [if_pos hc]; simp only [joinO_inl]; rw [w64 (by omega) (by omega), h3]
  · rename_i hc; rw [if_neg hc]; simp only [joinO_inl]; rw [h3]
def sp (k : Int) : Int := if k = 1 then 256 else if k = 2 then 65536 else if k = 3 then 16777216 else 4294967296
theorem sp_pos (k : Int) : 0 < sp k ∧ sp k ≤ 4294967296 := by unfold sp; (repeat' split) <;> omega
def bk (cut by_ x : Int) : Int :=
  if x + (cut - x) % by_ - by_ < 0 then x + (cut - x) % by_
  else if x + (cut - x) % by_ ≤ 4611686018427387903 then
    (if (cut - x) % by_ ≤ by_ - (cut - x) % by_ then x + (cut - x) % by_ else x + (cut - x) % by_ - by_)
  else x + (cut - x) % by_ - by_
def nb (d : Int) : Int := if d ≤ 128 then 1 else if d ≤ 32768 then 2 else if d ≤ 8388608 then 3 else 4
theorem nb_mono (d e : Int) (h : d ≤ e) : nb d ≤ nb e := by
  unfold nb; (repeat' split) <;> omega
def mn (k j : Int) : Int := if j < k then j else k
theorem sp_min (k j : Int) (hk : 1 ≤ k) (hk2 : k ≤ 4) (hj : 1 ≤ j) (hj2 : j ≤ 4) (x : Int) : x % sp k % sp j = x % sp (mn k j) := by
  rcases (by omega : k = 1 ∨ k = 2 ∨ k = 3 ∨ k = 4) with rfl | rfl | rfl | rfl <;> rcases (by omega : j = 1 ∨ j = 2 ∨ j = 3 ∨ j = 4) with rfl | rfl | rfl | rfl <;> simp [sp, mn] <;> omega
theorem sp_shl (k : Int) (hk : 1 ≤ k) (hk2 : k ≤ 4) : shlT .i64 1 .u64 (IntKind.wrap .u64 (IntKind.wrap .i64 (8 * k))) = some (sp k) := by
  rcases (by omega : k = 1 ∨ k = 2 ∨ k = 3 ∨ k = 4) with rfl | rfl | rfl | rfl <;> decide +kernel
theorem bk_self (n x s : Int) (hs : 0 < s) (h1 : 0 ≤ x) (h2 : x ≤ n) (h3 : 2 * (n - x) ≤ s) (h4 : n ≤ 4611686018427387903) (h5 : n - x < s) : bk (n % s) s x = n := by
  have e : (n % s - x) % s = n - x := by
    rw [Int.emod_sub_emod]
    exact Int.emod_eq_of_lt (by omega) h5
  unfold bk
  rw [e]
  have e2 : x + (n - x) = n := by omega
  rw [e2]
  split
  · rfl
  · rw [if_pos (by omega)]
end Go.Proofs.Ythiccnmplgdheaa.T
/- Sets of numbers over the typed texts: runs in memory, Has, Add. -/
set_option linter.unusedVariables false
set_option linter.unusedSimpArgs false
namespace Go.Proofs.Ythiccnmplgdheaa.T
open Go Go.Abs Go.Proofs
/-! Has -/
def ixOf (n : Int) : List Run → Nat → Int
  | [], _ => -1
  | r :: l, i => if r.1 ≤ n ∧ n < r.2 then (i : Int) else ixOf n l (i + 1)
theorem ixOf_cons (n : Int) (r : Run) (l : List Run) (i : Nat) : ixOf n (r :: l) i = if r.1 ≤ n ∧ n < r.2 then (i : Int) else ixOf n l (i + 1) := rfl
theorem ixOf_mem (n : Int) : ∀ (l : List Run) (i : Nat), (0 ≤ ixOf n l i ↔ mem l n)
  | [], i => by simp [ixOf, mem]
  | r :: l, i => by
    unfold ixOf
    rw [mem_cons]
    by_cases c : r.1 ≤ n ∧ n < r.2
    · rw [if_pos c]; exact ⟨fun _ => .inl c, fun _ => by omega⟩
    · rw [if_neg c, ixOf_mem n l (i + 1)]; exact ⟨.inr, fun h => h.resolve_left c⟩
/-- a set: the cell k of a box holds its runs -/
structure SetAt (h : H) (b k : Nat) (L : List Value) (l : List Run) : Prop where
  ex : ∃ s, L[k]? = some (encSl s) ∧ RdR h s l ∧ ∀ a, s.base = some a → a.block ≠ b
  box : Box h b L
theorem SetAt.kx {h h' : H} {b k : Nat} {L : List Value} {l : List Run} (x : EX h h') (S : SetAt h b k L l) : SetAt h' b k L l := by
  obtain ⟨s, h1, h2, h3⟩ := S.ex
  exact ⟨⟨s, h1, h2.ex x, h3⟩, Box.kx x S.box⟩
/-! Add -/
def brg (n : Int) : Int := max 0 (min n 4611686018427387904)
end Go.Proofs.Ythiccnmplgdheaa.T
/- Sets of numbers over the typed texts: Add, Drop, Count, Spans. -/
set_option linter.unusedVariables false
set_option linter.unusedSimpArgs false
namespace Go.Proofs.Ythiccnmplgdheaa.T
open Go Go.Abs Go.Proofs
def addS (f t : Int) (l : List Run) : List Run := if brg f < brg t then addR (brg f) (brg t) false l else l
def dropS (f t : Int) (l : List Run) : List Run := if brg f < brg t then dropR (brg f) (brg t) l else l
theorem getElem_lt {α : Type} {L : List α} {k : Nat} {v : α} (h : L[k]? = some v) : k < L.length := (List.getElem?_eq_some_iff.1 h).1
theorem setAt_st {h0 h3 : H} {b k : Nat} {L : List Value} {l l' : List Run} {out : Sl} (S : SetAt h0 b k L l) (x : EX h0 h3) (hr : RdR h3 out l') (hf : Fr h0.size out) {α : Type} {Q : α → Prop} {g : H → Option α}
    (p : ∀ h4, SetAt h4 b k (L.set k (encSl out)) l' → UP (· = b) h0 h4 → h0.size ≤ h4.size → PO (g h4) Q) : PO (bindO (st1 h3 (add ⟨b, 0, some 0⟩ k) (encSl out)) g) Q := by
  obtain ⟨s, e1, _, _⟩ := S.ex
  have B3 := Box.kx x S.box
  refine PO.st1 B3 x.wf (getElem_lt e1) rfl fun h4 B4 u4 z4 w4 => ?_
  have hne : ∀ a, out.base = some a → a.block ≠ b := fun a ha e => by have := hf a ha; have := S.box.blt; omega
  refine p h4 ⟨⟨out, by rw [List.getElem?_set_self (getElem_lt e1)], Rd.up hr u4 hne, hne⟩, B4⟩ (x.trans_up u4) (by have := x.size; omega)
/-! Count -/
theorem cntR_cons (r : Run) (l : List Run) : cntR (r :: l) = (r.2 - r.1) + cntR l := rfl
end Go.Proofs.Ythiccnmplgdheaa.T
