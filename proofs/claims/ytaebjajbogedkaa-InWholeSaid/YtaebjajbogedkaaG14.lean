/- Lemmas about the typed texts (joined: SFrame2 SFrame3 SAck1). -/
import Derived.Test.YtaebjajbogedkaaG11
import Derived.Test.YtaebjajbogedkaaG13
import Derived.Test.YtaebjajbogedkaaG5
import Derived.Test.YtaebjajbogedkaaG6
import Derived.Test.YtaebjajbogedkaaG10
/- Chapter 5's functions over the typed texts: same, may, right frames. -/
set_option linter.unusedVariables false
set_option linter.unusedSimpArgs false
namespace Go.Proofs.Ytaebjajbogedkaa.T
open Go Go.Abs Go.Proofs
structure FV where
  kind : Int
  id : Int
  off : Int
  a : Int
  b : Int
  note : Int
  fin : Bool
  data : List UInt8
  spans : List Run
structure FRd (h : H) (x : F9) (v : FV) : Prop where
  e : x.1 = v.kind ∧ x.2.1 = v.id ∧ x.2.2.1 = v.off ∧ x.2.2.2.1 = v.a ∧ x.2.2.2.2.1 = v.b ∧ x.2.2.2.2.2.1 = v.note ∧ x.2.2.2.2.2.2.1 = v.fin
  data : RdB h x.2.2.2.2.2.2.2.1 v.data
  spans : RdR h x.2.2.2.2.2.2.2.2 v.spans
theorem FRd.ex {h h' : H} {x : F9} {v : FV} (y : EX h h') (r : FRd h x v) : FRd h' x v := ⟨r.e, r.data.ex y, r.spans.ex y⟩
def sameV (v w : FV) : Prop := v.kind = w.kind ∧ v.id = w.id ∧ v.off = w.off ∧ v.a = w.a ∧ v.b = w.b ∧ v.fin = w.fin ∧ v.data = w.data ∧ v.spans = w.spans
instance (v w : FV) : Decidable (sameV v w) := by unfold sameV; infer_instance
/-! may -/
/-! an Ack's spans -/
def RSp : Option Int → List Run → Prop
  | _, [] => True
  | p, r :: l => (okN r.1 ∧ okN r.2) ∧ r.1 ≤ r.2 ∧ (∀ q, p = some q → 2 ≤ q - r.2) ∧ RSp (some r.1) l
def decRSp : (p : Option Int) → (l : List Run) → Decidable (RSp p l)
  | _, [] => .isTrue trivial
  | p, r :: l => by
    unfold RSp okN
    have := decRSp (some r.1) l
    cases p with
    | none => exact decidable_of_iff (((0 ≤ r.1 ∧ r.1 ≤ 4611686018427387903) ∧ 0 ≤ r.2 ∧ r.2 ≤ 4611686018427387903) ∧ r.1 ≤ r.2 ∧ RSp (some r.1) l) (by simp)
    | some q => exact decidable_of_iff (((0 ≤ r.1 ∧ r.1 ≤ 4611686018427387903) ∧ 0 ≤ r.2 ∧ r.2 ≤ 4611686018427387903) ∧ r.1 ≤ r.2 ∧ 2 ≤ q - r.2 ∧ RSp (some r.1) l) (by simp)
instance (p : Option Int) (l : List Run) : Decidable (RSp p l) := decRSp p l
def RSs (l : List Run) : Prop := RSp none l ∧ 1 ≤ l.length ∧ l.length ≤ 8
instance (l : List Run) : Decidable (RSs l) := by unfold RSs; infer_instance
def prevOf (l : List Run) (i : Nat) : Option Int := if i = 0 then none else some (l.getD (i - 1) (0, 0)).1
end Go.Proofs.Ytaebjajbogedkaa.T
/- Chapter 5's functions over the typed texts: right frames. -/
set_option linter.unusedVariables false
set_option linter.unusedSimpArgs false
namespace Go.Proofs.Ytaebjajbogedkaa.T
open Go Go.Abs Go.Proofs
def bareV (v : FV) : FV :=
  if v.kind = 2 then ⟨v.kind, 0, 0, 0, 0, 0, false, [], v.spans⟩
  else if v.kind = 3 then ⟨v.kind, v.id, v.off, 0, 0, 0, v.fin, v.data, []⟩
  else if v.kind = 4 then ⟨v.kind, v.id, v.off, v.a, v.b, 0, false, [], []⟩
  else if v.kind = 5 ∨ v.kind = 7 then ⟨v.kind, v.id, 0, v.a, 0, 0, false, [], []⟩
  else if v.kind = 6 ∨ v.kind = 12 then ⟨v.kind, 0, 0, v.a, 0, 0, false, [], []⟩
  else if v.kind = 8 then ⟨v.kind, 0, 0, v.a, 0, 0, v.fin, [], []⟩
  else if v.kind = 9 then ⟨v.kind, 0, 0, 0, 0, 0, false, v.data, []⟩
  else if v.kind = 10 ∨ v.kind = 11 then ⟨v.kind, v.id, 0, 0, 0, 0, false, [], []⟩
  else ⟨v.kind, 0, 0, 0, 0, 0, false, [], []⟩
theorem rdR_nil (h : H) : RdR h ⟨none, 0, 0⟩ [] := rd_nil 2 h
theorem rdB_nil (h : H) : RdB h ⟨none, 0, 0⟩ [] := rd_nil 1 h
theorem bareX_rd {h : H} {x : F9} {v : FV} (r : FRd h x v) : FRd h (bareX x) (bareV v) := by
  obtain ⟨e1, e2, e3, e4, e5, e6, e7⟩ := r.e
  have d := r.data
  have s := r.spans
  have n1 := rdB_nil h
  have n2 := rdR_nil h
  unfold bareX bareV
  rw [e1]
  (repeat' split) <;> first | exact ⟨⟨rfl, rfl, rfl, rfl, rfl, rfl, rfl⟩, by first | exact d | exact n1, by first | exact s | exact n2⟩ | exact ⟨⟨rfl, e2, rfl, e4, rfl, rfl, rfl⟩, by first | exact d | exact n1, by first | exact s | exact n2⟩ | exact ⟨⟨rfl, e2, e3, e4, e5, rfl, rfl⟩, by first | exact d | exact n1, by first | exact s | exact n2⟩ | exact ⟨⟨rfl, e2, e3, rfl, rfl, rfl, e7⟩, by first | exact d | exact n1, by first | exact s | exact n2⟩ | exact ⟨⟨rfl, rfl, rfl, e4, rfl, rfl, rfl⟩, by first | exact d | exact n1, by first | exact s | exact n2⟩ | exact ⟨⟨rfl, rfl, rfl, e4, rfl, rfl, e7⟩, by first | exact d | exact n1, by first | exact s | exact n2⟩ | exact ⟨⟨rfl, e2, rfl, rfl, rfl, rfl, rfl⟩, by first | exact d | exact n1, by first | exact s | exact n2⟩
def FR0 (v : FV) : Prop := (1 ≤ v.kind ∧ v.kind ≤ 12) ∧ sameV v (bareV v) ∧ (okN v.id ∧ okN v.off ∧ okN v.a ∧ okN v.b) ∧ v.data.length ≤ 120
def FR1 (v : FV) : Prop := if v.kind = 2 then RSs v.spans else if v.kind = 3 then v.off ≤ 4611686018427387903 - v.data.length else if v.kind = 4 then v.b ≤ v.off else if v.kind = 9 then 0 < v.data.length else True
def FR (v : FV) : Prop := FR0 v ∧ FR1 v
instance (v : FV) : Decidable (FR0 v) := by unfold FR0; infer_instance
instance (v : FV) : Decidable (FR1 v) := by unfold FR1; infer_instance
instance (v : FV) : Decidable (FR v) := by unfold FR; infer_instance
end Go.Proofs.Ytaebjajbogedkaa.T
/- Chapter 7's functions over the typed texts: what was seen, noted; spans taken out, turned about. -/
set_option linter.unusedVariables false
set_option linter.unusedSimpArgs false
namespace Go.Proofs.Ytaebjajbogedkaa.T
open Go Go.Abs Go.Proofs
/-- what was seen: at a box -/
def Seen (h : H) (b : Nat) (l : List Run) (owed : Bool) (nw : Int) : Prop := ∃ s, SetAt h b 0 [encSl s, .bool owed, .int .i64 nw] l
theorem Seen.kx {h h' : H} {b : Nat} {l : List Run} {owed : Bool} {nw : Int} (x : EX h h') (S : Seen h b l owed nw) : Seen h' b l owed nw := by
  obtain ⟨s, hs⟩ := S; exact ⟨s, hs.kx x⟩
/-- a set's cell that is turned -/
theorem SetAt.seen {h : H} {b : Nat} {s : Sl} {v : Value} {l : List Run} {owed : Bool} {nw : Int} (S : SetAt h b 0 (([encSl s, .bool owed, .int .i64 nw] : List Value).set 0 v) l) : ∃ s', v = encSl s' ∧ SetAt h b 0 [encSl s', .bool owed, .int .i64 nw] l := by
  obtain ⟨s', h1, h2, h3⟩ := S.ex
  have hv : v = encSl s' := Option.some.inj h1
  subst hv
  exact ⟨s', rfl, ⟨⟨s', rfl, h2, h3⟩, S.box⟩⟩
def okA (l : List Run) (nw num : Int) : Prop := (0 ≤ num ∧ num ≤ 4611686018427387903) ∧ ¬ mem l num ∧ ¬ num < nw - 64
instance (l : List Run) (nw num : Int) : Decidable (okA l nw num) := by unfold okA; infer_instance
def noteL (l : List Run) (nw num : Int) : List Run := if okA l nw num then dropS 0 (max nw num - 64) (addS num (num + 1) l) else l
theorem SetAt.st {h : H} {b i : Nat} {L : List Value} {l : List Run} {v : Value} {α : Type} {Q : α → Prop} {g : H → Option α} (S : SetAt h b 0 L l) (w : WF h) (hi : i < L.length) (h0 : i ≠ 0) (ho : oneC v = true)
    (p : ∀ h', SetAt h' b 0 (L.set i v) l → UP (· = b) h h' → h'.size = h.size → WF h' → PO (g h') Q) : PO (bindO (st1 h (add ⟨b, 0, some 0⟩ i) v) g) Q := by
  obtain ⟨s, h1, h2, h3⟩ := S.ex
  exact PO.st1 S.box w hi ho fun h' B u z w' => p h' ⟨⟨s, by rw [List.getElem?_set_ne h0]; exact h1, Rd.up h2 u h3, h3⟩, B⟩ u z w'
/-! plain laws of noting -/
theorem brg_id {n : Int} (h : 0 ≤ n ∧ n ≤ 4611686018427387904) : brg n = n := by unfold brg; omega
theorem note_nrm {l : List Run} {nw num : Int} (hn : Nrm (-1) 4611686018427387904 l) (h : okA l nw num) : Nrm (-1) 4611686018427387904 (noteL l nw num) := by
  unfold noteL
  rw [if_pos h]
  have h1 := h.1
  have ha : Nrm (-1) 4611686018427387904 (addS num (num + 1) l) := by
    unfold addS
    rw [brg_id (by omega), brg_id (by omega), if_pos (by omega)]
    exact addR_nrm _ _ _ _ _ hn (by omega) (by omega) (by omega)
  unfold dropS
  split
  · exact dropR_nrm _ _ _ _ _ ha (by assumption)
  · exact ha
theorem note_mem {l : List Run} {nw num n : Int} (hn : Nrm (-1) 4611686018427387904 l) (h : okA l nw num) (hw : nw ≤ 4611686018427387903) (h0 : 0 ≤ n) : mem (noteL l nw num) n ↔ (mem l n ∨ n = num) ∧ max nw num - 64 ≤ n := by
  unfold noteL
  rw [if_pos h]
  have h1 := h.1
  have ha : Nrm (-1) 4611686018427387904 (addR num (num + 1) false l) := addR_nrm _ _ _ _ _ hn (by omega) (by omega) (by omega)
  have hadd : addS num (num + 1) l = addR num (num + 1) false l := by
    unfold addS
    rw [brg_id (by omega), brg_id (by omega), if_pos (by omega)]
  have hm : mem (addR num (num + 1) false l) n ↔ mem l n ∨ n = num := by
    rw [addR_mem l _ _ num (num + 1) n hn (by omega)]
    exact or_congr Iff.rfl ⟨fun h => by omega, fun h => by omega⟩
  rw [hadd]
  unfold dropS
  have hb0 : brg 0 = 0 := brg_id (by omega)
  by_cases hc : 0 < max nw num - 64
  · have hb1 : brg (max nw num - 64) = max nw num - 64 := brg_id (by omega)
    rw [hb0, hb1, if_pos hc, dropR_mem 0 _ n _ _ _ ha hc, hm]
    exact and_congr Iff.rfl ⟨fun h => by omega, fun h => by omega⟩
  · have hb1 : brg (max nw num - 64) = 0 := by unfold brg; omega
    rw [hb0, hb1, if_neg (by omega), hm]
    exact ⟨fun h => ⟨h, by omega⟩, fun h => h.1⟩
theorem Nrm.length : ∀ {l : List Run} {lo e : Int}, Nrm lo e l → lo ≤ e → (l.length : Int) ≤ e - lo
  | [], lo, e, _, h => by simp; omega
  | r :: l, lo, e, ⟨h1, h2, h3, h4⟩, h => by
    have := Nrm.length h4 h3
    simp; omega
end Go.Proofs.Ytaebjajbogedkaa.T
