/- Chapter 4's functions over the typed texts: a tag's bytes, equality, closing and opening, the chapter's example. -/
import Derived.Test.YthiccnmplgdheaaSSeal3
set_option linter.unusedVariables false
set_option linter.unusedSimpArgs false
namespace Go.Proofs.Ythiccnmplgdheaa.T
open Go Go.Abs Go.Proofs
theorem byte_at64 {x : Int} (h0 : 0 ≤ x) (m : Nat) (hm : m < 8) : ∃ y, shrT .u64 x .i64 (8 * (m : Int)) = some y ∧ IntKind.wrap .u8 y = ((UInt8.ofNat (x.toNat / 256 ^ m)).toNat : Int) := by
  refine ⟨_, shrT_ok _ _ _ (by omega), ?_⟩
  have e1 : min (8 * (m : Int)).toNat IntKind.u64.bits = 8 * m := by
    have : IntKind.u64.bits = 64 := rfl
    omega
  rw [e1, wu8_mod]
  have e2 : (2 : Int) ^ (8 * m) = ((256 ^ m : Nat) : Int) := by
    rw [show (256 : Nat) = 2 ^ 8 from rfl, ← Nat.pow_mul, Int.natCast_pow]; rfl
  rw [e2, fdiv_pos _ (Int.natCast_nonneg _), UInt8.toNat_ofNat']
  obtain ⟨n, rfl⟩ : ∃ n : Nat, x = n := ⟨x.toNat, (Int.toNat_of_nonneg h0).symm⟩
  rw [Int.toNat_natCast, ← Int.natCast_ediv]
  exact (Int.natCast_emod _ 256).symm
def tagL (key num : Int) (head masked : List UInt8) : List UInt8 := be 8 (tagV (stepV key num) [head, masked]).toNat
theorem tagL_length (key num : Int) (head masked : List UInt8) : (tagL key num head masked).length = 8 := be_length _ _
/-- a new row of slices -/
theorem newS {h : H} (w : WF h) (xs : List Sl) (hx : xs.length < B63) : EX h (newAt (grow h 1) h.size (row 30 (xs.map encSl))) ∧ RdS (newAt (grow h 1) h.size (row 30 (xs.map encSl))) ⟨some ⟨h.size, 0, some 0⟩, xs.length, xs.length⟩ xs :=
  ⟨wf_new w 30 _, rd_new 30 1 _ _ _ (by simp) (by unfold CapOK; rw [capK_exact hx]; exact Nat.le_refl _)⟩
theorem eq_loop {h : H} {a b : Sl} {la lb : List UInt8} (ha : RdB h a la) (hb : RdB h b lb) (hl : la.length = lb.length) (hn : la.length ≤ 2 ^ 47) : ∀ (k i : Nat), i + k = la.length →
    loopO slices_Equal_byte_l1 ((a, (b, ((la.length : Int), (i : Int)))), h) = some (decide (la.drop i = lb.drop i), h)
  | 0, i, hik => by
    rw [loopO_eq, List.drop_eq_nil_of_le (by omega), List.drop_eq_nil_of_le (by omega)]
    simp only [slices_Equal_byte_l1, condK_eq, decide_eq_true_eq, show ¬ ((i : Int) < (la.length : Int)) by omega, if_false]
    simp
  | k + 1, i, hik => by
    obtain ⟨p, _, e1, e2⟩ := ha.at (i := (i : Int)) (by omega) (by omega)
    obtain ⟨q, _, e3, e4⟩ := hb.at (i := (i : Int)) (by omega) (by omega)
    simp only [Int.toNat_natCast] at e1 e2 e3 e4
    have d1 : la.drop i = la.getD i 0 :: la.drop (i + 1) := by
      rw [List.drop_eq_getElem_cons (by omega)]
      simp [List.getD, show i < la.length by omega]
    have d2 : lb.drop i = lb.getD i 0 :: lb.drop (i + 1) := by
      rw [List.drop_eq_getElem_cons (by omega)]
      simp [List.getD, show i < lb.length by omega]
    rw [loopO_eq]
    simp only [slices_Equal_byte_l1, condK_eq, decide_eq_true_eq, show ((i : Int) < (la.length : Int)) by omega, if_true]
    rw [e1, bindO_some, e2, bindO_some, e3, bindO_some, e4, bindO_some, d1, d2]
    by_cases hc : la.getD i 0 = lb.getD i 0
    · rw [hc]
      simp only [bne_self_eq_false, Bool.false_eq_true, if_false]
      rw [w64 (by omega) (by omega)]
      have := eq_loop ha hb hl hn k (i + 1) (by omega)
      simp only [List.cons.injEq, true_and]
      exact this
    · have hne : (((la.getD i 0).toNat : Int) != ((lb.getD i 0).toNat : Int)) = true := by
        simp only [bne_iff_ne, ne_eq]
        intro e
        exact hc (UInt8.toNat_inj.1 (by omega))
      rw [hne]
      simp only [if_true, List.cons.injEq, hc, false_and, decide_false]
theorem Equal_f {h : H} {a b : Sl} {la lb : List UInt8} (ha : RdB h a la) (hb : RdB h b lb) (hn : la.length ≤ 2 ^ 47) : slices_Equal_byte a b h = some (decide (la = lb), h) := by
  unfold slices_Equal_byte
  rw [ha.len, hb.len]
  by_cases hl : la.length = lb.length
  · have : (((la.length : Nat) : Int) != ((lb.length : Nat) : Int)) = false := by simp; omega
    rw [this, condK_eq, if_neg (by simp)]
    have e := eq_loop ha hb hl hn la.length 0 (by omega)
    simpa using e
  · have : (((la.length : Nat) : Int) != ((lb.length : Nat) : Int)) = true := by simp; omega
    rw [this, condK_eq, if_pos rfl, decide_eq_false]
    intro e; exact hl (by rw [e])
def closeV (key num : Int) (head body : List UInt8) : List UInt8 := mk (stepV key num) 0 body ++ tagL key num head (mk (stepV key num) 0 body)
theorem closeV_length (key num : Int) (head body : List UInt8) : (closeV key num head body).length = body.length + 8 := by
  unfold closeV; rw [List.length_append, mk_length, tagL_length]
def openV (key num : Int) (head l : List UInt8) : Option (List UInt8) :=
  if l.length < 8 then none else if tagL key num head (l.take (l.length - 8)) = l.drop (l.length - 8) then some (mk (stepV key num) 0 (l.take (l.length - 8))) else none
end Go.Proofs.Ythiccnmplgdheaa.T
