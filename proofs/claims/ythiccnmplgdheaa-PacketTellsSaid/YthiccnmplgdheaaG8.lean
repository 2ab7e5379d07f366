/- Lemmas about the typed texts (joined: LVarLong SVar4 LVarBack). -/
import Derived.Test.YthiccnmplgdheaaG7
set_option linter.unusedVariables false
set_option linter.unusedSimpArgs false
namespace Go.Abs
open Go
theorem mkT_ok {e : Nat} {h : H} (w : WF h) {k : Nat} (hk : k <= 2 ^ 40) : ∃ h', mkT e 1 1 (.int .u8 0) h (k : Int) (k : Int) = some (⟨some ⟨h.size, 0, some 0⟩, k, k⟩, h') /\ EX h h' /\ BufB h' ⟨some ⟨h.size, 0, some 0⟩, k, k⟩ (List.replicate k 0) := by
  have hz : zeros (.int .u8 0) k = vB (List.replicate k 0) := by
    unfold zeros vB
    have : (Value.int .u8 0).cells.toList = [Value.int .u8 0] := rfl
    rw [this, List.map_replicate]
    induction k with
    | zero => rfl
    | succ k ih => rw [List.replicate_succ, List.flatten_cons, ih (by omega), List.replicate_succ]; rfl
  have key : mkSl (DSE e (tyS 1 1 (.int .u8 0))) (e + 1) (.int .i64 (k : Int)) (.int .i64 (k : Int)) = some (.new (row e (vB (List.replicate k 0))) fun A => .slice (some ⟨A, 0, some 0⟩) k k) := by
    unfold mkSl
    rw [elem_DSE]
    have : (decide ((0 : Int) <= (k : Int)) && decide ((k : Int) <= (k : Int)) && decide ((k : Int) * (((tyS 1 1 (.int .u8 0)).bytes : Nat) + 1) <= 2 ^ 46)) = true := by
      have e1 : ((k : Int) * (((tyS 1 1 (.int .u8 0)).bytes : Nat) + 1) <= 2 ^ 46) := by
        show (k : Int) * (((1 : Nat) : Int) + 1) <= 2 ^ 46
        omega
      rw [decide_eq_true (show (0 : Int) <= (k : Int) by omega), decide_eq_true (show (k : Int) <= (k : Int) by omega), decide_eq_true e1]; rfl
    simp only [this, cond_true, Int.toNat_natCast]
    rw [<- hz]; rfl
  refine ⟨newAt (grow h 1) h.size (row e (vB (List.replicate k 0))), ?_, wf_new w e _, ?_⟩
  · unfold mkT; rw [key]; rfl
  · have := bufB_new w e (List.replicate k 0) (by simp [B63]; omega)
    simpa using this
end Go.Abs
namespace Go.Proofs.Ythiccnmplgdheaa.T
open Go Go.Abs Go.Proofs
def tks : Nat -> List UInt8 -> Option (List Int × List UInt8)
  | 0, l => some ([], l)
  | n + 1, l => if (tk l).2.2 = 0 then (tks n (tk l).2.1).map (fun p => ((tk l).1 :: p.1, p.2)) else none
theorem tk_err (l : List UInt8) : (tk l).2.2 = 0 \/ (tk l).2.2 = 3 := by
  cases l with
  | nil => exact .inr rfl
  | cons c t => simp only [tk]; split <;> simp
theorem tk_rest (l : List UInt8) : (tk l).2.1.length <= l.length := by
  cases l with
  | nil => simp [tk]
  | cons c t => simp only [tk]; split <;> simp; omega
theorem or_kind (b : UInt8) (k : Nat) (hb : b.toNat < 64) (hk : k < 4) : (b ||| UInt8.ofNat (k * 64)).toNat = b.toNat + k * 64 := by
  rw [UInt8.toNat_or, UInt8.toNat_ofNat', Nat.mod_eq_of_lt (by omega)]
  have := Nat.shiftLeft_add_eq_or_of_lt (show b.toNat < 2 ^ 6 by omega) k
  rw [Nat.shiftLeft_eq] at this
  rw [Nat.or_comm, <- this]; omega
theorem Few_f {h : H} {b : Sl} {l : List UInt8} (w : WF h) (hr : RdB h b l) (hl : l.length <= 2 ^ 47) {n : Int} (hn : 0 <= n) : ∃ s' h', hand_Few b n h = some (s', h') /\ EX h h' /\ BufB h' s' (l.take n.toNat) /\ Fr h.size s' := by
  unfold hand_Few
  have first : ∃ b1, (condK (decide ((((b.len : Nat) : Int) > n))) (bindO (slT 1 h b none (some n) none) fun (x0 : Sl) => some (Sum.inl (x0, h))) (some (Sum.inl (b, h))) : Option ((Sl × H) ⊕ (Sl × H))) = some (Sum.inl (b1, h)) /\ RdB h b1 (l.take n.toNat) := by
    have hlen := hr.len
    by_cases hc : ((b.len : Nat) : Int) > n
    · obtain ⟨s7, e9, r9, l9, _⟩ := sl_hi (hi := n) (by omega) (by unfold B63; omega) hr (by omega) (by omega)
      refine ⟨s7, by rw [condK_eq, if_pos (by simpa using hc), e9]; rfl, ?_⟩
      unfold RdB vB
      rw [List.map_take]
      simpa [vB] using r9
    · refine ⟨b, by rw [condK_eq, if_neg (by simpa using hc)], ?_⟩
      rw [List.take_of_length_le (by omega)]; exact hr
  obtain ⟨b1, e1, r1⟩ := first
  rw [e1, joinO_inl]
  simp only
  rw [newO_eq]
  have x1 := wf_new w 5 (vB [])
  have b0 := bufB_new w 5 [] (by decide)
  rw [show row 5 [] = row 5 (vB []) from rfl]
  have f1 := fr_new h 0 0
  simp only [List.length_nil] at b0
  generalize newAt (grow h 1) h.size (row 5 (vB [])) = h1 at x1 b0 ⊢
  generalize (⟨some ⟨h.size, 0, some 0⟩, 0, 0⟩ : Sl) = s1 at b0 f1 ⊢
  obtain ⟨s', h', e2, k2, x2, b2, _, f2⟩ := appB_ok (e := 5) x1.wf b0 (r1.ex x1) (by simp; omega)
  rw [e2, bind2_some]
  exact ⟨s', h', rfl, x2 _ x1 f1, by simpa using b2, f2 _ x1.size f1⟩
end Go.Proofs.Ythiccnmplgdheaa.T
