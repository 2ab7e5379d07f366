/- Chapter 7's functions over the typed texts: what was seen, noted; spans taken out, turned about. -/
-- SEAT b
import Derived.Test.YthiccnmplgdheaaS13
import Derived.Test.YthiccnmplgdheaaSSpan3
import Derived.Test.YthiccnmplgdheaaSSeal2
set_option linter.unusedVariables false
set_option linter.unusedSimpArgs false
namespace Go.Proofs.Ythiccnmplgdheaa.T
open Go Go.Abs Go.Proofs
/-- what was seen: at a box -/
def Seen (h : H) (b : Nat) (l : List Run) (owed : Bool) (nw : Int) : Prop := ∃ s, SetAt h b 0 [encSl s, .bool owed, .int .i64 nw] l
theorem Seen.kx {h h' : H} {b : Nat} {l : List Run} {owed : Bool} {nw : Int} (x : EX h h') (S : Seen h b l owed nw) : Seen h' b l owed nw := by
  obtain ⟨s, hs⟩ := S; exact ⟨s, hs.kx x⟩
theorem New_f {h : H} (w : WF h) : PO (acks_New h) (fun (a, h1) => a = some ⟨h.size, 0, some 0⟩ ∧ Seen h1 h.size [] false (-1) ∧ EX h h1 ∧ h1.size = h.size + 1) := by
  unfold acks_New
  refine PO.newB w fun h1 x1 B z1 w1 => .ret ⟨rfl, ⟨⟨none, 0, 0⟩, ⟨⟨⟨none, 0, 0⟩, rfl, rd_nil 2 h1, fun a ha => by simp at ha⟩, B⟩⟩, x1, z1⟩
theorem Newest_f {h : H} {b : Nat} {l : List Run} {owed : Bool} {nw : Int} (S : Seen h b l owed nw) : acks_Seen_Newest (some ⟨b, 0, some 0⟩) h = some (nw, h) := by
  obtain ⟨s, hs⟩ := S
  unfold acks_Seen_Newest
  rw [ptrK_some, hs.box.ldI (i := 2) rfl]; rfl
/-- a set's cell that is turned -/
theorem SetAt.seen {h : H} {b : Nat} {s : Sl} {v : Value} {l : List Run} {owed : Bool} {nw : Int} (S : SetAt h b 0 (([encSl s, .bool owed, .int .i64 nw] : List Value).set 0 v) l) : ∃ s', v = encSl s' ∧ SetAt h b 0 [encSl s', .bool owed, .int .i64 nw] l := by
  obtain ⟨s', h1, h2, h3⟩ := S.ex
  have hv : v = encSl s' := Option.some.inj h1
  subst hv
  exact ⟨s', rfl, ⟨⟨s', rfl, h2, h3⟩, S.box⟩⟩
def okA (l : List Run) (nw num : Int) : Prop := (0 ≤ num ∧ num ≤ 4611686018427387903) ∧ ¬ mem l num ∧ ¬ num < nw - 64
instance (l : List Run) (nw num : Int) : Decidable (okA l nw num) := by unfold okA; infer_instance
def noteL (l : List Run) (nw num : Int) : List Run := if okA l nw num then dropS 0 (max nw num - 64) (addS num (num + 1) l) else l
theorem SetAt.st {h : H} {b i : Nat} {L : List Value} {l : List Run} {v : Value} {α : Type} {Q : α → Prop} {g : H → Option α} (S : SetAt h b 0 L l) (w : WF h) (hi : i < L.length) (h0 : i ≠ 0) (ho : oneC v = true)
    (p : ∀ h', SetAt h' b 0 (L.set i v) l → UP (· = b) h h' → h'.size = h.size → WF h' → PO (g h') Q) : PO (bindO (st1 h (add ⟨b, 0, some 0⟩ i) v) g) Q := by
  obtain ⟨s, h1, h2, h3⟩ := S.ex
  exact PO.st1 S.box w hi ho fun h' B u z w' => p h' ⟨⟨s, by rw [List.getElem?_set_ne h0]; exact h1, Rd.up h2 u h3, h3⟩, B⟩ u z w'
theorem Note_f {h : H} (w : WF h) {b : Nat} {l : List Run} {owed : Bool} {nw : Int} (S : Seen h b l owed nw) (hl : l.length ≤ 1000) (hn : -1 ≤ nw ∧ nw ≤ 4611686018427387903) (num : Int) (hnum : -9223372036854775808 ≤ num ∧ num ≤ 9223372036854775807) (e : Bool) :
    PO (acks_Seen_Note (some ⟨b, 0, some 0⟩) num e h) (fun (a, h1) => a = decide (okA l nw num) ∧ UP (· = b) h h1 ∧ Seen h1 b (noteL l nw num) (if okA l nw num then owed || e else owed) (if okA l nw num then max nw num else nw)) := by
  unfold acks_Seen_Note
  obtain ⟨s, hs⟩ := S
  refine PO.join (fun st => ∃ (bad : Bool) (h1 : H), st = ((some ⟨b, 0, some 0⟩, (num, (e, bad))), h1) ∧ EX h h1 ∧ (bad = true ↔ ¬ okA l nw num)) ?_ ?_
  · refine .condD (fun c => .retL ⟨true, h, rfl, EX.refl w, ?_⟩) (fun c => .condD (fun c2 => .retL ⟨true, h, rfl, EX.refl w, ?_⟩) (fun c2 => .ptr ?_))
    · simp only [true_iff]; exact fun hh => by have := hh.1.1; omega
    · simp only [true_iff]; exact fun hh => by have := hh.1.2; omega
    · rw [show add (⟨b, 0, some 0⟩ : Addr) 0 = add ⟨b, 0, some 0⟩ 0 from rfl]
      refine PO.call (Has_f w hs (by omega) num) fun a h1 ⟨ea, x1⟩ => ?_
      subst ea
      refine .condD (fun c3 => .retL ⟨true, h1, rfl, x1, ?_⟩) (fun c3 => .ptr (.ldI (Box.kx x1 hs.box) rfl (.retL ⟨_, h1, rfl, x1, ?_⟩)))
      · simp only [true_iff]; exact fun hh => hh.2.1 c3
      · rw [w64 (by omega) (by omega), decide_eq_true_eq]
        exact ⟨fun hh h2 => h2.2.2 hh, fun hh => Decidable.byContradiction fun h3 => hh ⟨by omega, c3, h3⟩⟩
  rintro _ ⟨bad, h1, rfl, x1, hb⟩
  refine .cond (fun c => ?_) (fun c => ?_)
  · have hno := hb.1 c
    refine .ret ⟨(decide_eq_false hno).symm, x1.up, ?_⟩
    unfold noteL
    rw [if_neg hno, if_neg hno, if_neg hno]
    exact ⟨s, hs.kx x1⟩
  have hok : okA l nw num := Decidable.byContradiction fun hh => by rw [hb.2 hh] at c; simp at c
  have hnn := hok.1
  rw [w64 (n := num + 1) (by omega) (by omega)]
  refine .ptr (PO.call (Add_f x1.wf (hs.kx x1) (by omega) num (num + 1)) fun _ h2 ⟨v, S2, u2, z2⟩ => ?_)
  obtain ⟨s2, rfl, S2'⟩ := SetAt.seen S2
  have hl2 : (addS num (num + 1) l).length ≤ 1001 := by
    unfold addS; split
    · have := addR_length l (brg num) (brg (num + 1)) false; omega
    · omega
  refine .ptr (.ldI S2'.box rfl (.ptr (S2'.st u2.wf (by simp) (by omega) rfl fun h3 S3 u3 z3 w3 => .ptr (.ptr ?_))))
  have em : (if num > nw then num else nw) = max nw num := by split <;> omega
  simp only [em] at S3
  refine .ldI S3.box rfl ?_
  rw [show ([encSl s2, Value.bool owed, .int .i64 nw].set 2 (.int .i64 (max nw num))) = [encSl s2, .bool owed, .int .i64 (max nw num)] from rfl] at S3
  rw [w64 (n := max nw num - 64) (by omega) (by omega)]
  refine PO.call (Drop_f w3 S3 (by omega) 0 (max nw num - 64)) fun _ h4 ⟨v, S4, u4, z4⟩ => ?_
  obtain ⟨s4, rfl, S4'⟩ := SetAt.seen S4
  have hnl : noteL l nw num = dropS 0 (max nw num - 64) (addS num (num + 1) l) := by unfold noteL; rw [if_pos hok]
  have uu : UP (· = b) h h4 := (((x1.trans_up u2).trans u3 (fun _ _ t => t)).trans u4 (fun _ _ t => t))
  rw [if_pos hok, if_pos hok, hnl]
  refine .ptr (.ldB S4'.box rfl (.cond (fun co => ?_) (fun co => ?_)))
  · refine .ptr (S4'.st u4.wf (by simp) (by omega) rfl fun h5 S5 u5 z5 w5 => .ret ⟨(decide_eq_true hok).symm, uu.trans u5 (fun _ _ t => t), s4, ?_⟩)
    have co' : owed = true := co
    rw [co', Bool.true_or]; exact S5
  · refine .ptr (S4'.st u4.wf (by simp) (by omega) rfl fun h5 S5 u5 z5 w5 => .ret ⟨(decide_eq_true hok).symm, uu.trans u5 (fun _ _ t => t), s4, ?_⟩)
    have co' : owed = false := co
    rw [co', Bool.false_or]; exact S5
/-! plain laws of noting -/
theorem brg_id {n : Int} (h : 0 ≤ n ∧ n ≤ 4611686018427387904) : brg n = n := by unfold brg; omega
theorem note_nrm {l : List Run} {nw num : Int} (hn : Nrm (-1) 4611686018427387904 l) (h : okA l nw num) : Nrm (-1) 4611686018427387904 (noteL l nw num) := by
  unfold noteL
  rw [if_pos h]
  have h1 := h.1
  have ha : Nrm (-1) 4611686018427387904 (addS num (num + 1) l) := by
    unfold addS
    rw [brg_id (by omega), brg_id (by omega), if_pos (by omega)]
    exact addR_nrm _ _ _ _ _ hn (by omega) (by omega) (by omega)
  unfold dropS
  split
  · exact dropR_nrm _ _ _ _ _ ha (by assumption)
  · exact ha
theorem note_mem {l : List Run} {nw num n : Int} (hn : Nrm (-1) 4611686018427387904 l) (h : okA l nw num) (hw : nw ≤ 4611686018427387903) (h0 : 0 ≤ n) : mem (noteL l nw num) n ↔ (mem l n ∨ n = num) ∧ max nw num - 64 ≤ n := by
  unfold noteL
  rw [if_pos h]
  have h1 := h.1
  have ha : Nrm (-1) 4611686018427387904 (addR num (num + 1) false l) := addR_nrm _ _ _ _ _ hn (by omega) (by omega) (by omega)
  have hadd : addS num (num + 1) l = addR num (num + 1) false l := by
    unfold addS
    rw [brg_id (by omega), brg_id (by omega), if_pos (by omega)]
  have hm : mem (addR num (num + 1) false l) n ↔ mem l n ∨ n = num := by
    rw [addR_mem l _ _ num (num + 1) n hn (by omega)]
    exact or_congr Iff.rfl ⟨fun h => by omega, fun h => by omega⟩
  rw [hadd]
  unfold dropS
  have hb0 : brg 0 = 0 := brg_id (by omega)
  by_cases hc : 0 < max nw num - 64
  · have hb1 : brg (max nw num - 64) = max nw num - 64 := brg_id (by omega)
    rw [hb0, hb1, if_pos hc, dropR_mem 0 _ n _ _ _ ha hc, hm]
    exact and_congr Iff.rfl ⟨fun h => by omega, fun h => by omega⟩
  · have hb1 : brg (max nw num - 64) = 0 := by unfold brg; omega
    rw [hb0, hb1, if_neg (by omega), hm]
    exact ⟨fun h => ⟨h, by omega⟩, fun h => h.1⟩
theorem Nrm.length : ∀ {l : List Run} {lo e : Int}, Nrm lo e l → lo ≤ e → (l.length : Int) ≤ e - lo
  | [], lo, e, _, h => by simp; omega
  | r :: l, lo, e, ⟨h1, h2, h3, h4⟩, h => by
    have := Nrm.length h4 h3
    simp; omega
end Go.Proofs.Ythiccnmplgdheaa.T
