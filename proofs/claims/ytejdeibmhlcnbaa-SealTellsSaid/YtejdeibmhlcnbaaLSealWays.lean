/- The laws SealWays and SealParts over the typed texts. -/
import Derived.Test.YtejdeibmhlcnbaaSSeal5
set_option linter.unusedVariables false
set_option linter.unusedSimpArgs false
namespace Go.Proofs.Ytejdeibmhlcnbaa.T
open Go Go.Abs Go.Proofs
/-- what is closed is opened just by the same step -/
theorem open_close2 (k1 n1 k2 n2 : Int) (head body : List UInt8) : (openV k2 n2 head (closeV k1 n1 head body)).isSome = decide (stepV k2 n2 = stepV k1 n1) := by
  unfold openV
  have hl := closeV_length k1 n1 head body
  rw [hl, if_neg (by omega), Nat.add_sub_cancel]
  unfold closeV
  have hm := mk_length (stepV k1 n1) body 0
  rw [List.take_append_of_le_length (by omega), List.take_of_length_le (by omega), List.drop_append_of_le_length (by omega), List.drop_of_length_le (by omega), List.nil_append]
  by_cases he : stepV k2 n2 = stepV k1 n1
  · rw [decide_eq_true he, if_pos (by unfold tagL; rw [he])]; rfl
  · rw [decide_eq_false he, if_neg]
    · rfl
    · intro e
      exact he (tagV_inj _ (stepV_rng _ _) (stepV_rng _ _) (tagL_inj e))
theorem beq_dec {α : Type} [DecidableEq α] (a b : α) : (a == b) = decide (a = b) := by
  by_cases h : a = b
  · simp [h]
  · simp [h]
theorem SealWays (key other num : Int) (head body : Sl) (h : H) (w : WF h) (hk : 0 ≤ key ∧ key < 18446744073709551616) (ho : 0 ≤ other ∧ other < 18446744073709551616) (_ : -9223372036854775808 ≤ num ∧ num ≤ 9223372036854775807) (hl : List UInt8) (h1 : RdB h head hl) (l1 : hl.length ≤ 140737488351232) (bl : List UInt8) (h2 : RdB h body bl) (l2 : bl.length ≤ 140737488351232) : ∃ h', law4_SealWays key other num head body h = some (true, h') := by
  unfold law4_SealWays P.law4_SealWays
  have u0 : U64 0 := by unfold U64; omega
  have u1 : U64 1 := by unfold U64; omega
  rw [Step_f _ _ hk.1 hk.2, bind2_some]
  simp only
  rw [Step_f _ _ hk.1 hk.2, bind2_some]
  simp only
  have ra := stepV_rng key 0
  have rb := stepV_rng key 1
  have hab : stepV key 0 ≠ stepV key 1 := fun e => absurd (stepV_inj_r u0 u1 e) (by decide)
  obtain ⟨s, g1, room, e1, x1, b1, _⟩ := Close_f (num := num) w h1 h2 (by omega) (by omega) ra
  rw [e1, bind2_some]
  simp only
  have hcl := closeV_length (stepV key 0) num hl bl
  have r1 : RdB g1 s (closeV (stepV key 0) num hl bl) := b1.rd
  obtain ⟨p, g2, e2, x2, _⟩ := Open_f (num := num) x1.wf (h1.ex x1) r1 (by omega) (by omega) rb
  rw [e2, bind2_some]
  simp only
  obtain ⟨q, g3, e3, x3, _⟩ := Open_f (num := num) x2.wf ((h1.ex x1).ex x2) (r1.ex x2) (by omega) (by omega) ra
  rw [e3, bind2_some]
  simp only
  obtain ⟨g4, e4, x4⟩ := known4_f x3.wf
  rw [e4, bind2_some, open_close, open_close2]
  have hne : stepV (stepV key 1) num ≠ stepV (stepV key 0) num := fun e => hab (stepV_inj_l rb ra e).symm
  have hab' : (stepV key 0 != stepV key 1) = true := by simp [hab]
  simp only [condK_eq, if_true, hab', decide_eq_false hne, Bool.not_false, Option.isSome_some]
  rw [Step_f _ _ ho.1 ho.2, bind2_some]
  simp only
  have c1 : ((stepV other 0 == stepV key 0) == (other == key)) = true := by
    rw [beq_dec, beq_dec]
    by_cases he : other = key
    · simp [he]
    · have : stepV other 0 ≠ stepV key 0 := fun e => he (stepV_inj_l ho hk e)
      simp [he, this]
  have c2 : ((stepV other 1 == stepV key 1) == (other == key)) = true := by
    rw [beq_dec, beq_dec]
    by_cases he : other = key
    · simp [he]
    · have : stepV other 1 ≠ stepV key 1 := fun e => he (stepV_inj_l ho hk e)
      simp [he, this]
  rw [c1]
  simp only [if_true]
  rw [Step_f _ _ ho.1 ho.2, bind2_some, c2]
  exact ⟨g4, rfl⟩
theorem tag_row {h : H} (w : WF h) {xs : List Sl} {ls : List (List UInt8)} (hx : RdBs h xs ls) (hn : xs.length ≤ 4) {key : Int} (hk : U64 key) : seal_Tag key ⟨some ⟨h.size, 0, some 0⟩, xs.length, xs.length⟩ (newAt (grow h 1) h.size (row 31 (xs.map encSl))) = some (tagV key ls, newAt (grow h 1) h.size (row 31 (xs.map encSl))) ∧ EX h (newAt (grow h 1) h.size (row 31 (xs.map encSl))) := by
  obtain ⟨x1, r1⟩ := newS w xs (by unfold B63; omega)
  exact ⟨Tag_f r1 (hx.ex x1) (by omega) hk, x1⟩
theorem tag_two (key : Int) (a b : List UInt8) : tagV (tagV key [a]) [b] = tagV key [a, b] := by
  unfold tagV
  rw [List.foldl_cons, List.foldl_nil, List.foldl_cons, List.foldl_nil, List.foldl_cons, List.foldl_cons, List.foldl_nil]
theorem tag_empty (key : Int) : tagV key [[], []] = stepV (stepV key 256) 256 := by
  have e : ∀ k : Int, partTag k [] = stepV k 256 := fun k => by
    unfold partTag bytesTag
    rw [List.foldl_nil, List.length_nil, Int.natCast_zero, Int.add_zero]
  unfold tagV
  rw [List.foldl_cons, List.foldl_cons, List.foldl_nil, e, e]
theorem SealParts (key g h0 c d : Int) (a b : Sl) (h : H) (w : WF h) (hk : 0 ≤ key ∧ key < 18446744073709551616) (hg : 0 ≤ g ∧ g < 18446744073709551616) (hh : 0 ≤ h0 ∧ h0 < 18446744073709551616) (hc : 0 ≤ c ∧ c < 18446744073709551616) (hd : 0 ≤ d ∧ d < 18446744073709551616)
    (al : List UInt8) (h1 : RdB h a al) (l1 : al.length ≤ 140737488351232) (bl : List UInt8) (h2 : RdB h b bl) (l2 : bl.length ≤ 140737488351232) : ∃ h', law4_SealParts key g h0 c d a b h = some (true, h') := by
  unfold law4_SealParts P.law4_SealParts
  have la : al.length ≤ 2 ^ 47 := by omega
  have lb : bl.length ≤ 2 ^ 47 := by omega
  rw [newO_eq, show row 31 [Value.slice a.base a.len a.cap, .slice b.base b.len b.cap] = row 31 ([a, b].map encSl) from rfl, show row 31 [Value.slice a.base a.len a.cap] = row 31 ([a].map encSl) from rfl, show row 31 [Value.slice b.base b.len b.cap] = row 31 ([b].map encSl) from rfl]
  obtain ⟨x1, r1⟩ := newS w [a, b] (by simp [B63])
  simp only [List.length_cons, List.length_nil] at r1
  generalize newAt (grow h 1) h.size (row 31 ([a, b].map encSl)) = g1 at x1 r1 ⊢
  rw [newO_eq]
  have ab1 : RdBs g1 [a, b] [al, bl] := ⟨⟨h1.ex x1, la⟩, ⟨h2.ex x1, lb⟩, trivial⟩
  obtain ⟨e2, x2⟩ := tag_row x1.wf (xs := [a]) (ls := [al]) ⟨ab1.1, trivial⟩ (by simp) hk
  simp only [List.length_cons, List.length_nil] at e2
  rw [e2, bind2_some]
  simp only
  generalize newAt (grow g1 1) g1.size (row 31 ([a].map encSl)) = g2 at x2 ⊢
  obtain ⟨g3, e3, x3⟩ := known4_f x2.wf
  rw [e3, bind2_some]
  simp only [condK_eq, if_true]
  have ab3 := (ab1.ex x2).ex x3
  rw [Tag_f ((r1.ex x2).ex x3) ab3 (by simp) hk, bind2_some]
  simp only
  rw [newO_eq]
  obtain ⟨e4, x4⟩ := tag_row x3.wf ab3 (by simp) hk
  simp only [List.length_cons, List.length_nil] at e4
  rw [e4, bind2_some]
  simp only [beq_self_eq_true, if_true]
  have ab4 := ab3.ex x4
  generalize newAt (grow g3 1) g3.size (row 31 ([a, b].map encSl)) = g4 at x4 ab4 ⊢
  rw [newO_eq]
  have ht := tagV_rng [al] key hk
  obtain ⟨e5, x5⟩ := tag_row x4.wf (xs := [b]) (ls := [bl]) ⟨ab4.2.1, trivial⟩ (by simp) ht
  simp only [List.length_cons, List.length_nil] at e5
  rw [e5, bind2_some]
  simp only
  have ab5 := ab4.ex x5
  generalize newAt (grow g4 1) g4.size (row 31 ([b].map encSl)) = g5 at x5 ab5 ⊢
  rw [newO_eq]
  obtain ⟨e6, x6⟩ := tag_row x5.wf ab5 (by simp) hk
  simp only [List.length_cons, List.length_nil] at e6
  rw [e6, bind2_some]
  generalize newAt (grow g5 1) g5.size (row 31 ([a, b].map encSl)) = g6 at x6 ⊢
  rw [tag_two key al bl]
  simp only [beq_self_eq_true, if_true]
  rw [Step_f _ _ hg.1 hg.2, bind2_some]
  simp only
  rw [Step_f _ _ hh.1 hh.2, bind2_some]
  have c1 : ((stepV g c == stepV h0 c) == (g == h0)) = true := by
    rw [beq_dec, beq_dec]
    by_cases he : g = h0
    · simp [he]
    · have : stepV g c ≠ stepV h0 c := fun e => he (stepV_inj_l hg hh e)
      simp [he, this]
  have c2 : ((stepV g c == stepV g d) == (c == d)) = true := by
    rw [beq_dec, beq_dec]
    by_cases he : c = d
    · simp [he]
    · have : stepV g c ≠ stepV g d := fun e => he (stepV_inj_r hc hd e)
      simp [he, this]
  rw [c1]
  simp only [if_true]
  rw [Step_f _ _ hg.1 hg.2, bind2_some]
  simp only
  rw [Step_f _ _ hg.1 hg.2, bind2_some, c2]
  simp only [if_true]
  rw [newO_eq, show row 31 [Value.slice none 0 0, .slice none 0 0] = row 31 ([⟨none, 0, 0⟩, ⟨none, 0, 0⟩].map encSl) from rfl]
  obtain ⟨e7, x7⟩ := tag_row x6.wf (xs := [⟨none, 0, 0⟩, ⟨none, 0, 0⟩]) (ls := [[], []]) ⟨⟨rd_nil 1 _, by simp⟩, ⟨rd_nil 1 _, by simp⟩, trivial⟩ (by simp) hk
  simp only [List.length_cons, List.length_nil] at e7
  rw [e7, bind2_some]
  simp only
  rw [Step_f _ _ hk.1 hk.2, bind2_some]
  simp only
  have rk := stepV_rng key 256
  rw [Step_f _ _ rk.1 rk.2, bind2_some]
  have et : tagV key [[], []] = stepV (stepV key 256) 256 := tag_empty key
  rw [et]
  simp only [beq_self_eq_true]
  exact ⟨_, rfl⟩
end Go.Proofs.Ytejdeibmhlcnbaa.T
