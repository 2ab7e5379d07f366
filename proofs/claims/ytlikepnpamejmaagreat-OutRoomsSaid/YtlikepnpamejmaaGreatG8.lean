/- Lemmas about the typed texts (joined: SSpan2 SSpan3 SVar1). -/
import Derived.Test.YtlikepnpamejmaaGreatTxt
import Derived.Test.YtlikepnpamejmaaGreatG4
import Derived.Test.YtlikepnpamejmaaGreatG5
import Derived.Test.YtlikepnpamejmaaGreatG2
/- Sets of numbers over the typed texts: runs in memory, Has, Add. -/
set_option linter.unusedVariables false
set_option linter.unusedSimpArgs false
namespace Go.Proofs.YtlikepnpamejmaaGreat.T
open Go Go.Abs Go.Proofs
/-! Has -/
def ixOf (n : Int) : List Run → Nat → Int
  | [], _ => -1
  | r :: l, i => if r.1 ≤ n ∧ n < r.2 then (i : Int) else ixOf n l (i + 1)
theorem ixOf_cons (n : Int) (r : Run) (l : List Run) (i : Nat) : ixOf n (r :: l) i = if r.1 ≤ n ∧ n < r.2 then (i : Int) else ixOf n l (i + 1) := rfl
theorem ixOf_mem (n : Int) : ∀ (l : List Run) (i : Nat), (0 ≤ ixOf n l i ↔ mem l n)
  | [], i => by simp [ixOf, mem]
  | r :: l, i => by
    unfold ixOf
    rw [mem_cons]
    by_cases c : r.1 ≤ n ∧ n < r.2
    · rw [if_pos c]; exact ⟨fun _ => .inl c, fun _ => by omega⟩
    · rw [if_neg c, ixOf_mem n l (i + 1)]; exact ⟨.inr, fun h => h.resolve_left c⟩
/-- a set: the cell k of a box holds its runs -/
structure SetAt (h : H) (b k : Nat) (L : List Value) (l : List Run) : Prop where
  ex : ∃ s, L[k]? = some (encSl s) ∧ RdR h s l ∧ ∀ a, s.base = some a → a.block ≠ b
  box : Box h b L
theorem SetAt.kx {h h' : H} {b k : Nat} {L : List Value} {l : List Run} (x : EX h h') (S : SetAt h b k L l) : SetAt h' b k L l := by
  obtain ⟨s, h1, h2, h3⟩ := S.ex
  exact ⟨⟨s, h1, h2.ex x, h3⟩, Box.kx x S.box⟩
/-! Add -/
def brg (n : Int) : Int := max 0 (min n 4611686018427387904)
end Go.Proofs.YtlikepnpamejmaaGreat.T
/- Sets of numbers over the typed texts: Add, Drop, Count, Spans. -/
set_option linter.unusedVariables false
set_option linter.unusedSimpArgs false
namespace Go.Proofs.YtlikepnpamejmaaGreat.T
open Go Go.Abs Go.Proofs
def addS (f t : Int) (l : List Run) : List Run := if brg f < brg t then addR (brg f) (brg t) false l else l
def dropS (f t : Int) (l : List Run) : List Run := if brg f < brg t then dropR (brg f) (brg t) l else l
theorem getElem_lt {α : Type} {L : List α} {k : Nat} {v : α} (h : L[k]? = some v) : k < L.length := (List.getElem?_eq_some_iff.1 h).1
theorem setAt_st {h0 h3 : H} {b k : Nat} {L : List Value} {l l' : List Run} {out : Sl} (S : SetAt h0 b k L l) (x : EX h0 h3) (hr : RdR h3 out l') (hf : Fr h0.size out) {α : Type} {Q : α → Prop} {g : H → Option α}
    (p : ∀ h4, SetAt h4 b k (L.set k (encSl out)) l' → UP (· = b) h0 h4 → h0.size ≤ h4.size → PO (g h4) Q) : PO (bindO (st1 h3 (add ⟨b, 0, some 0⟩ k) (encSl out)) g) Q := by
  obtain ⟨s, e1, _, _⟩ := S.ex
  have B3 := Box.kx x S.box
  refine PO.st1 B3 x.wf (getElem_lt e1) rfl fun h4 B4 u4 z4 w4 => ?_
  have hne : ∀ a, out.base = some a → a.block ≠ b := fun a ha e => by have := hf a ha; have := S.box.blt; omega
  refine p h4 ⟨⟨out, by rw [List.getElem?_set_self (getElem_lt e1)], Rd.up hr u4 hne, hne⟩, B4⟩ (x.trans_up u4) (by have := x.size; omega)
/-! Count -/
theorem cntR_cons (r : Run) (l : List Run) : cntR (r :: l) = (r.2 - r.1) + cntR l := rfl
end Go.Proofs.YtlikepnpamejmaaGreat.T
/- Chapter 1's functions over the typed texts: kinds, sizes, bytes. -/
set_option linter.unusedVariables false
set_option linter.unusedSimpArgs false
namespace Go.Proofs.YtlikepnpamejmaaGreat.T
open Go Go.Abs Go.Proofs
def tt (x : Nat) : Nat := if x < 1 then 0 else if x < 2 then 1 else if x < 4 then 2 else if x < 8 then 3 else if x < 16 then 4 else if x < 32 then 5 else if x < 64 then 6 else if x < 128 then 7 else 8
def tbl : ByteArray := ⟨#[0, 1, 2, 2, 3, 3, 3, 3, 4, 4, 4, 4, 4, 4, 4, 4, 5, 5, 5, 5, 5, 5, 5, 5, 5, 5, 5, 5, 5, 5, 5, 5, 6, 6, 6, 6, 6, 6, 6, 6, 6, 6, 6, 6, 6, 6, 6, 6, 6, 6, 6, 6, 6, 6, 6, 6, 6, 6, 6, 6, 6, 6, 6, 6, 7, 7, 7, 7, 7, 7, 7, 7, 7, 7, 7, 7, 7, 7, 7, 7, 7, 7, 7, 7, 7, 7, 7, 7, 7, 7, 7, 7, 7, 7, 7, 7, 7, 7, 7, 7, 7, 7, 7, 7, 7, 7, 7, 7, 7, 7, 7, 7, 7, 7, 7, 7, 7, 7, 7, 7, 7, 7, 7, 7, 7, 7, 7, 7, 8, 8, 8, 8, 8, 8, 8, 8, 8, 8, 8, 8, 8, 8, 8, 8, 8, 8, 8, 8, 8, 8, 8, 8, 8, 8, 8, 8, 8, 8, 8, 8, 8, 8, 8, 8, 8, 8, 8, 8, 8, 8, 8, 8, 8, 8, 8, 8, 8, 8, 8, 8, 8, 8, 8, 8, 8, 8, 8, 8, 8, 8, 8, 8, 8, 8, 8, 8, 8, 8, 8, 8, 8, 8, 8, 8, 8, 8, 8, 8, 8, 8, 8, 8, 8, 8, 8, 8, 8, 8, 8, 8, 8, 8, 8, 8, 8, 8, 8, 8, 8, 8, 8, 8, 8, 8, 8, 8, 8, 8, 8, 8, 8, 8, 8, 8, 8, 8, 8, 8, 8, 8, 8, 8, 8, 8, 8, 8]⟩
theorem tbl_all : ∀ x : Nat, x < 256 → ixST tbl (x : Int) = some (tt x : Int) := by decide +kernel
theorem tbl_at {x : Int} (h0 : 0 ≤ x) (h1 : x < 256) : ixST tbl x = some (tt x.toNat : Int) := by
  have := tbl_all x.toNat (by omega)
  rwa [Int.toNat_of_nonneg h0] at this
theorem fdiv_pos (a : Int) {b : Int} (hb : 0 ≤ b) : Int.fdiv a b = a / b := Int.fdiv_eq_ediv_of_nonneg a hb
/-- how many bits a number has, as far as the kinds ask -/
theorem sh_step (c d x n : Int) (hc : 0 < c) (hd : 0 ≤ d) (hd2 : d ≤ 32) (hn : 0 ≤ n) (hn2 : n ≤ 64) (h0 : 0 ≤ x) {α : Type} (h : H) : ∃ y m, condK (decide (x ≥ c)) (some (Sum.inl (((Int.fdiv x c, IntKind.wrap .i64 (n + d))), h))) (some (Sum.inl ((x, n), h))) = (some (Sum.inl ((y, m), h)) : Option (((Int × Int) × H) ⊕ α)) ∧ ((m = n ∧ y = x ∧ x < c) ∨ (m = n + d ∧ y = x / c ∧ c ≤ x)) := by
  by_cases g : x ≥ c
  · refine ⟨x / c, n + d, ?_, .inr ⟨rfl, rfl, g⟩⟩
    rw [fdiv_pos x (by omega), w64 (by omega) (by omega), condK_eq, decide_eq_true g]; rfl
  · refine ⟨x, n, ?_, .inl ⟨rfl, rfl, by omega⟩⟩
    rw [condK_eq, decide_eq_false g]; rfl
def kd (n : Int) : Int := if n < 0 then -1 else if n > 4611686018427387903 then -1 else if n < 64 then 0 else if n < 16384 then 1 else if n < 1073741824 then 2 else 3
end Go.Proofs.YtlikepnpamejmaaGreat.T
