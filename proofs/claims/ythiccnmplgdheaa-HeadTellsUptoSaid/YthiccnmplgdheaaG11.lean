/- Lemmas about the typed texts (joined: LSealWays LSealApart LSealBack). -/
import Derived.Test.YthiccnmplgdheaaG10
import Derived.Test.YthiccnmplgdheaaG5
/- The laws SealWays and SealParts over the typed texts. -/
set_option linter.unusedVariables false
set_option linter.unusedSimpArgs false
namespace Go.Proofs.Ythiccnmplgdheaa.T
open Go Go.Abs Go.Proofs
/-- what is closed is opened just by the same step -/
theorem open_close2 (k1 n1 k2 n2 : Int) (head body : List UInt8) : (openV k2 n2 head (closeV k1 n1 head body)).isSome = decide (stepV k2 n2 = stepV k1 n1) := by
  unfold openV
  have hl := closeV_length k1 n1 head body
  rw [hl, if_neg (by omega), Nat.add_sub_cancel]
  unfold closeV
  have hm := mk_length (stepV k1 n1) body 0
  rw [List.take_append_of_le_length (by omega), List.take_of_length_le (by omega), List.drop_append_of_le_length (by omega), List.drop_of_length_le (by omega), List.nil_append]
  by_cases he : stepV k2 n2 = stepV k1 n1
  · rw [decide_eq_true he, if_pos (by unfold tagL; rw [he])]; rfl
  · rw [decide_eq_false he, if_neg]
    · rfl
    · intro e
      exact he (tagV_inj _ (stepV_rng _ _) (stepV_rng _ _) (tagL_inj e))
theorem beq_dec {α : Type} [DecidableEq α] (a b : α) : (a == b) = decide (a = b) := by
  by_cases h : a = b
  · simp [h]
  · simp [h]
theorem tag_two (key : Int) (a b : List UInt8) : tagV (tagV key [a]) [b] = tagV key [a, b] := by
  unfold tagV
  rw [List.foldl_cons, List.foldl_nil, List.foldl_cons, List.foldl_nil, List.foldl_cons, List.foldl_cons, List.foldl_nil]
theorem tag_empty (key : Int) : tagV key [[], []] = stepV (stepV key 256) 256 := by
  have e : ∀ k : Int, partTag k [] = stepV k 256 := fun k => by
    unfold partTag bytesTag
    rw [List.foldl_nil, List.length_nil, Int.natCast_zero, Int.add_zero]
  unfold tagV
  rw [List.foldl_cons, List.foldl_cons, List.foldl_nil, e, e]
end Go.Proofs.Ythiccnmplgdheaa.T
/- The law SealApart over the typed texts (where the two bodies together are no longer than the machine's append takes). -/
set_option linter.unusedVariables false
set_option linter.unusedSimpArgs false
namespace Go.Proofs.Ythiccnmplgdheaa.T
open Go Go.Abs Go.Proofs
theorem stepV_inj_n {k a b : Int} (ha : -9223372036854775808 ≤ a ∧ a ≤ 9223372036854775807) (hb : -9223372036854775808 ≤ b ∧ b ≤ 9223372036854775807) (e : stepV k a = stepV k b) : a = b := by
  have h1 : stepV k (IntKind.wrap .u64 a) = stepV k (IntKind.wrap .u64 b) := by rw [stepV_wrap, stepV_wrap, e]
  rw [wu64_mod, wu64_mod] at h1
  have h2 := stepV_inj_r (by unfold U64; omega) (by unfold U64; omega) h1
  omega
theorem stepV_eqn {k a b : Int} (ha : -9223372036854775808 ≤ a ∧ a ≤ 9223372036854775807) (hb : -9223372036854775808 ≤ b ∧ b ≤ 9223372036854775807) : decide (stepV k a = stepV k b) = (a == b) := by
  rw [beq_dec]
  by_cases h : a = b
  · simp [h]
  · have : stepV k a ≠ stepV k b := fun e => h (stepV_inj_n ha hb e)
    simp [h, this]
theorem rdB_take {h : H} {s : Sl} {l : List UInt8} (r : RdB h s l) {n : Nat} (hn : n ≤ l.length) : ∃ s', slT 1 h s none (some (n : Int)) none = some s' ∧ RdB h s' (l.take n) := by
  obtain ⟨s', e, r', _⟩ := sl_hi (hi := (n : Int)) (by omega) (by unfold B63; omega) r (by omega) (by rw [r.len]; omega)
  refine ⟨s', e, ?_⟩
  unfold RdB vB
  rw [List.map_take]
  simpa [vB] using r'
end Go.Proofs.Ythiccnmplgdheaa.T
/- The law SealBack over the typed texts. -/
set_option linter.unusedVariables false
set_option linter.unusedSimpArgs false
namespace Go.Proofs.Ythiccnmplgdheaa.T
open Go Go.Abs Go.Proofs
/-! one byte that is another one -/
theorem xor_ne {a b : UInt8} (hb : b ≠ 0) : a ^^^ b ≠ a := by
  intro e
  apply hb
  have : a ^^^ (a ^^^ b) = a ^^^ a := by rw [e]
  rwa [← UInt8.xor_assoc, UInt8.xor_self, UInt8.zero_xor] at this
theorem u64_byte (a : UInt8) : U64 (a.toNat : Int) := by
  have := a.toNat_lt
  unfold U64; omega
theorem bytesTag_set : ∀ (l : List UInt8) (i : Nat) (key : Int) (v : UInt8), i < l.length → v ≠ l.getD i 0 → bytesTag key (l.set i v) ≠ bytesTag key l
  | [], i, key, v, hi, hv => by simp at hi
  | c :: l, 0, key, v, hi, hv => by
    intro e
    have e1 : bytesTag (stepV key (v.toNat : Int)) l = bytesTag (stepV key (c.toNat : Int)) l := e
    have e2 := bytesTag_inj l (stepV_rng _ _) (stepV_rng _ _) e1
    have e3 := stepV_inj_r (u64_byte v) (u64_byte c) e2
    apply hv
    rw [List.getD_cons_zero]
    apply UInt8.toNat_inj.1
    omega
  | c :: l, i + 1, key, v, hi, hv => by
    intro e
    have e1 : bytesTag (stepV key (c.toNat : Int)) (l.set i v) = bytesTag (stepV key (c.toNat : Int)) l := e
    exact bytesTag_set l i _ v (by simpa using hi) (by simpa using hv) e1
theorem partTag_set (l : List UInt8) (i : Nat) (key : Int) (hk : U64 key) (v : UInt8) (hi : i < l.length) (hv : v ≠ l.getD i 0) : partTag key (l.set i v) ≠ partTag key l := by
  intro e
  unfold partTag at e
  rw [List.length_set] at e
  exact bytesTag_set l i key v hi hv (stepV_inj_l (bytesTag_rng _ _ hk) (bytesTag_rng _ _ hk) e)
theorem partTag_rng (l : List UInt8) (key : Int) : U64 (partTag key l) := stepV_rng _ _
theorem open_sethead (key num : Int) (head body : List UInt8) (i : Nat) (v : UInt8) (hi : i < head.length) (hv : v ≠ head.getD i 0) : (openV key num (head.set i v) (closeV key num head body)).isSome = false := by
  unfold openV
  have hl := closeV_length key num head body
  rw [hl, if_neg (by omega), Nat.add_sub_cancel]
  unfold closeV
  have hm := mk_length (stepV key num) body 0
  rw [List.take_append_of_le_length (by omega), List.take_of_length_le (by omega), List.drop_append_of_le_length (by omega), List.drop_of_length_le (by omega), List.nil_append]
  rw [if_neg]
  · rfl
  · intro e
    have e1 := tagL_inj e
    have rs := stepV_rng key num
    exact partTag_set head i _ rs v hi hv (partTag_inj _ (partTag_rng _ _) (partTag_rng _ _) e1)
theorem open_setseal (key num : Int) (head body : List UInt8) (i : Nat) (v : UInt8) (hi : i < body.length + 8) (hv : v ≠ (closeV key num head body).getD i 0) : (openV key num head ((closeV key num head body).set i v)).isSome = false := by
  unfold openV
  have hl := closeV_length key num head body
  rw [List.length_set, hl, if_neg (by omega), Nat.add_sub_cancel]
  have hm := mk_length (stepV key num) body 0
  have ht := tagL_length key num head (mk (stepV key num) 0 body)
  rw [if_neg]
  · rfl
  unfold closeV at hv ⊢
  by_cases hb : i < body.length
  · rw [List.set_append_left _ _ (by omega)]
    have hs : ((mk (stepV key num) 0 body).set i v).length = body.length := by rw [List.length_set, hm]
    rw [List.take_append_of_le_length (by omega), List.take_of_length_le (by omega), List.drop_append_of_le_length (by omega), List.drop_of_length_le (by omega), List.nil_append]
    intro e
    have e1 := tagL_inj e
    have rs := stepV_rng key num
    have hv' : v ≠ (mk (stepV key num) 0 body).getD i 0 := by
      rwa [List.getD_eq_getElem?_getD, List.getElem?_append_left (by omega), ← List.getD_eq_getElem?_getD] at hv
    exact partTag_set _ i _ (partTag_rng _ _) v (by omega) hv' e1
  · rw [List.set_append_right _ _ (by omega), hm]
    rw [List.take_append_of_le_length (by omega), List.take_of_length_le (by omega), List.drop_append_of_le_length (by omega), List.drop_of_length_le (by omega), List.nil_append]
    intro e
    rw [List.getD_eq_getElem?_getD, List.getElem?_append_right (by omega), hm, ← List.getD_eq_getElem?_getD] at hv
    apply hv
    have := congrArg (fun l => l.getD (i - body.length) 0) e
    rw [this, List.getD_eq_getElem?_getD, List.getElem?_set_self (by omega)]
    rfl
/-- a write into one row leaves the rows in other blocks -/
theorem st1_bufB2 {h : H} {s : Sl} {l : List UInt8} {i : Nat} {v : UInt8} {a : Addr} (hs : BufB h s l) (ha : s.base = some a) (hi : i < l.length) (w : WF h) :
    ∃ h', st1 h (add a i) (.int .u8 (v.toNat : Int)) = some h' ∧ WF h' ∧ BufB h' s (l.set i v) ∧ (∀ h0, EX h0 h → Fr h0.size s → EX h0 h') ∧ (∀ s' l', RdB h s' l' → (∀ a', s'.base = some a' → a'.block ≠ a.block) → RdB h' s' l') := by
  obtain ⟨h', a1, a0, a2, a3, a4⟩ := st1_buf (h0 := h) (v := .int .u8 (v.toNat : Int)) hs ha (by simpa [vB] using hi) rfl w
  refine ⟨h', a1, a0, ?_, a3, fun s' l' r n => a4 s' _ r n⟩
  unfold BufB
  have : vB (l.set i v) = (vB l).set i (.int .u8 (v.toNat : Int)) := by simp [vB, List.map_set]
  rw [this]; exact a2
end Go.Proofs.Ythiccnmplgdheaa.T
