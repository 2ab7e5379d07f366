/- Lemmas about the typed texts (joined: SRead4 SRead5 LFrame1). -/
import Derived.Test.YthiccnmplgdheaaG16
/- The plain law of chapter 5's reader: what goes on behind, what is cut short, what was laid. -/
set_option linter.unusedVariables false
set_option linter.unusedSimpArgs false
namespace Go.Proofs.Ythiccnmplgdheaa.T
open Go Go.Abs Go.Proofs
/-- a parser: takes from the front; what lies behind matters only where it says 'short' (3) -/
structure Good {α : Type} (p : RP α) : Prop where
  shr : ∀ l a r, p l = .inr (a, r) → r.length ≤ l.length
  ext : ∀ l a r x, p l = .inr (a, r) → p (l ++ x) = .inr (a, r ++ x)
  err : ∀ l e, p l = .inl e → e = 3 ∨ (e = 2 ∧ ∀ x, p (l ++ x) = .inl e)
theorem Good.bind {α β : Type} {p : RP α} {f : α → RP β} (hp : Good p) (hf : ∀ a, Good (f a)) : Good (bindP p f) := by
  refine ⟨fun l b r e => ?_, fun l b r x e => ?_, fun l e h => ?_⟩
  · simp only [bindP] at e
    cases hq : p l with
    | inl e' => rw [hq] at e; simp at e
    | inr y =>
      obtain ⟨a, r'⟩ := y
      rw [hq] at e
      exact Nat.le_trans ((hf a).shr _ _ _ e) (hp.shr _ _ _ hq)
  · simp only [bindP] at e ⊢
    cases hq : p l with
    | inl e' => rw [hq] at e; simp at e
    | inr y =>
      obtain ⟨a, r'⟩ := y
      rw [hq] at e
      rw [hp.ext _ _ _ x hq]
      exact (hf a).ext _ _ _ x e
  · simp only [bindP] at h ⊢
    cases hq : p l with
    | inl e' =>
      rw [hq] at h
      cases h
      rcases hp.err _ _ hq with h3 | ⟨h2, hx⟩
      · exact .inl h3
      · exact .inr ⟨h2, fun x => by rw [hx x]⟩
    | inr y =>
      obtain ⟨a, r'⟩ := y
      rw [hq] at h
      rcases (hf a).err _ _ h with h3 | ⟨h2, hx⟩
      · exact .inl h3
      · exact .inr ⟨h2, fun x => by rw [hp.ext _ _ _ x hq]; exact hx x⟩
theorem Good.ret {α : Type} (a : α) : Good (retP a) :=
  ⟨fun l b r e => by simp [retP] at e; rw [e.2]; exact Nat.le_refl _, fun l b r x e => by simp [retP] at e ⊢; simp [e.1, e.2], fun l e h => by simp [retP] at h⟩
def failP {α : Type} : RP α := fun _ => .inl 2
theorem Good.fail {α : Type} : Good (failP (α := α)) := ⟨fun l b r e => by simp [failP] at e, fun l b r x e => by simp [failP] at e, fun l e h => by simp only [failP, Sum.inl.injEq] at h; exact .inr ⟨h.symm, fun x => by rw [← h]; rfl⟩⟩
theorem Good.ite {α : Type} {c : Prop} [Decidable c] {p q : RP α} (hp : Good p) (hq : Good q) : Good (if c then p else q) := by split <;> assumption
theorem tk_ext (l x : List UInt8) (h : (tk l).2.2 = 0) : tk (l ++ x) = ((tk l).1, (tk l).2.1 ++ x, 0) := by
  cases l with
  | nil => simp [tk] at h
  | cons b t =>
    simp only [tk, List.cons_append, List.length_append] at h ⊢
    split at h
    · simp at h
    · rename_i hlt
      rw [if_neg (by omega), if_neg hlt]
      have : tsz b - 1 ≤ t.length := by omega
      rw [List.take_append_of_le_length this, List.drop_append_of_le_length this]
theorem tk_lt (l : List UInt8) (h : (tk l).2.2 = 0) : (tk l).2.1.length < l.length := by
  cases l with
  | nil => simp [tk] at h
  | cons b t =>
    simp only [tk] at h ⊢
    split at h
    · simp at h
    · rename_i hlt
      rw [if_neg hlt]; simp; omega
theorem Good.pT : ∀ n, Good (pT n)
  | 0 => ⟨fun l a r e => by simp [T.pT, tks] at e; rw [e.2]; exact Nat.le_refl _, fun l a r x e => by simp [T.pT, tks] at e ⊢; simp [e.1, e.2], fun l e h => by simp [T.pT, tks] at h⟩
  | n + 1 => by
    have ih := Good.pT n
    refine ⟨fun l a r e => ?_, fun l a r x e => ?_, fun l e h => ?_⟩
    · rw [pT_succ] at e
      split at e
      · rename_i h0
        cases hq : T.pT n (tk l).2.1 with
        | inl e' => rw [hq] at e; simp at e
        | inr y =>
          rw [hq] at e
          simp only [Sum.inr.injEq, Prod.mk.injEq] at e
          have h1 := ih.shr _ y.1 y.2 hq
          have h2 := tk_lt l h0
          rw [← e.2]; omega
      · simp at e
    · rw [pT_succ] at e ⊢
      split at e
      · rename_i h0
        rw [tk_ext l x h0]
        simp only [if_true]
        cases hq : T.pT n (tk l).2.1 with
        | inl e' => rw [hq] at e; simp at e
        | inr y =>
          rw [hq] at e
          simp only [Sum.inr.injEq, Prod.mk.injEq] at e
          rw [ih.ext _ y.1 y.2 x hq]
          simp [← e.1, ← e.2]
      · simp at e
    · rw [pT_succ] at h
      split at h
      · rename_i h0
        cases hq : T.pT n (tk l).2.1 with
        | inl e' =>
          rw [hq] at h
          cases h
          rcases ih.err _ _ hq with h3 | ⟨h2, hx⟩
          · exact .inl h3
          · refine .inr ⟨h2, fun x => ?_⟩
            rw [pT_succ, tk_ext l x h0]
            simp only [if_true]
            rw [hx x]
        | inr y => rw [hq] at h; simp at h
      · simp only [Sum.inl.injEq] at h; exact .inl h.symm
theorem pFlag_eq : pFlag = bindP (pT 1) fun ns => if ns.getD 0 0 > 1 then failP else retP (decide (ns.getD 0 0 = 1)) := by
  funext l
  simp only [pFlag, bindP]
  cases pT 1 l with
  | inl e => rfl
  | inr y => simp only; split <;> rfl
def dataP (n : Int) : RP (List UInt8) := fun r => if n > (r.length : Int) then .inl 3 else .inr (r.take n.toNat, r.drop n.toNat)
theorem pData_eq : pData = bindP (pT 1) fun ns => if ns.getD 0 0 > 120 then failP else dataP (ns.getD 0 0) := by
  funext l
  simp only [pData, bindP]
  cases pT 1 l with
  | inl e => rfl
  | inr y => simp only; split <;> rfl
theorem Good.dataP (n : Int) : Good (dataP n) := by
  refine ⟨fun l a r e => ?_, fun l a r x e => ?_, fun l e h => ?_⟩
  · simp only [T.dataP] at e
    split at e
    · simp at e
    · simp at e; rw [← e.2]; simp
  · simp only [T.dataP] at e ⊢
    split at e
    · simp at e
    · rename_i hn
      simp only [Sum.inr.injEq, Prod.mk.injEq] at e
      rw [if_neg (by simp; omega), List.take_append_of_le_length (by omega), List.drop_append_of_le_length (by omega), e.1, e.2]
  · simp only [T.dataP] at h
    split at h
    · simp only [Sum.inl.injEq] at h; exact .inl h.symm
    · simp at h
theorem spK_eq (k : Nat) (p : Option Int) : spK (k + 1) p = bindP (pT 1) fun ns => if badP p (ns.getD 0 0) then failP else bindP (pT 1) fun ms => if ms.getD 0 0 > lastV p (ns.getD 0 0) then failP else bindP (spK k (some (lastV p (ns.getD 0 0) - ms.getD 0 0))) fun q => retP ((lastV p (ns.getD 0 0) - ms.getD 0 0, lastV p (ns.getD 0 0)) :: q) := by
  funext l
  simp only [spK, bindP]
  cases pT 1 l with
  | inl e => rfl
  | inr y =>
    simp only
    split
    · rfl
    · cases hq : pT 1 y.2 with
      | inl e => simp only [bindP, hq]
      | inr z =>
        simp only [bindP, hq]
        split
        · rfl
        · cases hz : spK k (some (lastV p (y.1.getD 0 0) - z.1.getD 0 0)) z.2 <;> simp only [bindP, hz] <;> rfl
theorem Good.spK : ∀ (k : Nat) (p : Option Int), Good (spK k p)
  | 0, p => Good.ret []
  | k + 1, p => by
    rw [spK_eq]
    exact (Good.pT 1).bind fun ns => .ite .fail ((Good.pT 1).bind fun ms => .ite .fail ((Good.spK k _).bind fun q => .ret _))
theorem pSpans_eq : pSpans = bindP (pT 1) fun ns => if ns.getD 0 0 < 1 ∨ ns.getD 0 0 > 8 then failP else spK (ns.getD 0 0).toNat none := by
  funext l
  simp only [pSpans, bindP]
  cases pT 1 l with
  | inl e => rfl
  | inr y => simp only; split <;> rfl
theorem Good.pSpans : Good pSpans := by rw [pSpans_eq]; exact (Good.pT 1).bind fun ns => .ite .fail (.spK _ _)
theorem Good.pFlag : Good pFlag := by rw [pFlag_eq]; exact (Good.pT 1).bind fun ns => .ite .fail (.ret _)
theorem Good.pData : Good pData := by rw [pData_eq]; exact (Good.pT 1).bind fun ns => .ite .fail (.dataP _)
theorem Good.rawP (k : Int) : Good (rawP k) := by
  unfold T.rawP
  exact .ite (Good.pSpans.bind fun _ => .ret _) (.ite ((Good.pT 2).bind fun _ => Good.pFlag.bind fun _ => Good.pData.bind fun _ => .ret _) (.ite ((Good.pT 4).bind fun _ => .ret _) (.ite ((Good.pT 2).bind fun _ => .ret _) (.ite ((Good.pT 1).bind fun _ => .ret _) (.ite ((Good.pT 1).bind fun _ => Good.pFlag.bind fun _ => .ret _) (.ite (Good.pData.bind fun _ => .ret _) (.ite ((Good.pT 1).bind fun _ => .ret _) (.ret _))))))))
theorem finF_eq (v : FV) : finF v = if FR v then retP v else failP := by
  funext l; unfold finF; split <;> rfl
theorem Good.finF (v : FV) : Good (finF v) := by rw [finF_eq]; exact .ite (.ret _) .fail
theorem Good.pFrame : Good pFrame := (Good.pT 1).bind fun ns => (Good.rawP _).bind fun v => .finF v
theorem pFrame_lt {l : List UInt8} {v : FV} {r : List UInt8} (h : pFrame l = .inr (v, r)) : r.length < l.length := by
  simp only [pFrame, bindP] at h
  cases hq : pT 1 l with
  | inl e => rw [hq] at h; simp at h
  | inr y =>
    obtain ⟨ns, r1⟩ := y
    rw [hq] at h
    have h1 : r1.length < l.length := by
      rw [pT_succ] at hq
      split at hq
      · rename_i h0
        have := tk_lt l h0
        simp [pT, tks] at hq
        rw [← hq.2]; exact this
      · simp at hq
    have h2 := ((Good.rawP (ns.getD 0 0)).bind Good.finF).shr r1 v r h
    omega
/-! what was laid is read -/
theorem encs_app : ∀ a b : List Int, encs (a ++ b) = encs a ++ encs b
  | [], b => rfl
  | x :: a, b => by simp [encs, encs_app a b]
theorem pT_encs {ns : List Int} (h : ∀ x ∈ ns, okN x) (l : List UInt8) : pT ns.length (encs ns ++ l) = .inr (ns, l) := by
  unfold pT; rw [tks_encs ns l h]
theorem pT1 {n : Int} (h : okN n) (l : List UInt8) : pT 1 (enc n ++ l) = .inr ([n], l) := by
  have := pT_encs (ns := [n]) (by simpa using h) l
  simpa [encs] using this
def gap1 : Option Int → Int → Int
  | none, y => y
  | some q, y => q - y
theorem ngo_cons (p : Option Int) (r : Run) (l : List Run) : ngo p (r :: l) = gap1 p r.2 :: (r.2 - r.1) :: ngo (some r.1) l := by cases p <;> rfl
theorem spK_rt : ∀ (l : List Run) (p : Option Int) (x : List UInt8), RSp p l → (∀ q, p = some q → okN q) → spK l.length p (encs (ngo p l) ++ x) = .inr (l, x)
  | [], p, x, _, _ => rfl
  | r :: l, p, x, h, hp => by
    obtain ⟨h1, h2, h3, h4⟩ := h
    have h1' := h1
    unfold okN at h1'
    have ho := ngo_ok (l := r :: l) ⟨h1, h2, h3, h4⟩ hp
    rw [ngo_cons] at ho
    simp only [List.mem_cons, forall_eq_or_imp] at ho
    obtain ⟨ho1, ho2, _⟩ := ho
    rw [ngo_cons]
    simp only [List.length_cons, encs, List.append_assoc]
    rw [spK_eq]
    simp only [bindP]
    rw [pT1 ho1]
    simp only [List.getD_cons_zero]
    have hb : badP p (gap1 p r.2) = false := by
      cases p with
      | none => rfl
      | some q => have := h3 q rfl; have := hp q rfl; unfold okN at this; show (decide (q - r.2 < 2) || decide (q - r.2 > q)) = false; rw [decide_eq_false (show ¬ q - r.2 < 2 by omega), decide_eq_false (show ¬ q - r.2 > q by omega)]; rfl
    have hl : lastV p (gap1 p r.2) = r.2 := by
      cases p with
      | none => rfl
      | some q => simp only [lastV, gap1]; omega
    rw [hb, hl]
    simp only [Bool.false_eq_true, if_false, bindP]
    rw [pT1 ho2]
    simp only [List.getD_cons_zero]
    rw [if_neg (by omega), show r.2 - (r.2 - r.1) = r.1 by omega]
    simp only [bindP]
    rw [spK_rt l (some r.1) x h4 (fun q hq => by cases hq; exact h1.1)]
    rfl
theorem FR.bare {v : FV} (h : FR v) : FR (bareV v) ∧ (bareV v).kind = v.kind := by
  have hs := h.1.2.1
  obtain ⟨e1, e2, e3, e4, e5, e6, e7, e8⟩ := hs
  have hb : bareV v = { v with note := (bareV v).note } := by
    rw [show bareV v = ⟨(bareV v).kind, (bareV v).id, (bareV v).off, (bareV v).a, (bareV v).b, (bareV v).note, (bareV v).fin, (bareV v).data, (bareV v).spans⟩ from rfl, ← e1, ← e2, ← e3, ← e4, ← e5, ← e6, ← e7, ← e8]
  refine ⟨?_, e1.symm⟩
  rw [hb]
  have hbb : bareV { v with note := (bareV v).note } = bareV v := rfl
  obtain ⟨⟨h1, h2, h3, h4⟩, h5⟩ := h
  exact ⟨⟨h1, by rw [hbb]; exact ⟨e1, e2, e3, e4, e5, e6, e7, e8⟩, h3, h4⟩, h5⟩
theorem pFlag_rt (b : Bool) (x : List UInt8) : pFlag (enc (flagV b) ++ x) = .inr (b, x) := by
  have ho : okN (flagV b) := by cases b <;> (unfold okN flagV; simp)
  rw [pFlag_eq]
  simp only [bindP]
  rw [pT1 ho]
  cases b <;> rfl
theorem pData_rt (d x : List UInt8) (h : d.length ≤ 120) : pData (enc (d.length : Int) ++ (d ++ x)) = .inr (d, x) := by
  have ho : okN (d.length : Int) := by unfold okN; omega
  rw [pData_eq]
  simp only [bindP]
  rw [pT1 ho]
  simp only [List.getD_cons_zero]
  rw [if_neg (by omega)]
  unfold dataP
  rw [if_neg (by simp; omega)]
  simp
theorem rawP_rt {v : FV} (h : FR v) (x : List UInt8) : ∃ r, numsV v = v.kind :: r ∧ rawP v.kind (encs r ++ v.data ++ x) = .inr (bareV v, x) := by
  obtain ⟨⟨h1, hs, ⟨h3, h4, h5, h6⟩, h7⟩, h8⟩ := h
  obtain ⟨k, id, off, a, b, note, fin, d, sp⟩ := v
  simp only at h1 h3 h4 h5 h6 h7
  have hnil : ∀ y : List UInt8, ([] : List UInt8) ++ y = y := fun y => rfl
  unfold numsV rawP bareV
  unfold sameV bareV at hs
  simp only at hs ⊢
  split
  · rename_i k2
    unfold FR1 at h8
    simp only [k2, if_true] at h8
    simp only [k2, if_true] at hs
    have hd : d = [] := hs.2.2.2.2.2.2.1
    subst hd
    refine ⟨_, rfl, ?_⟩
    have hn : okN (sp.length : Int) := by have := h8.2.2; unfold okN; omega
    rw [pSpans_eq]
    simp only [bindP, encs, List.append_assoc, List.nil_append]
    rw [pT1 hn]
    simp only [List.getD_cons_zero]
    have := h8.2
    rw [if_neg (by omega), Int.toNat_natCast, spK_rt sp none x h8.1 (fun q hq => by simp at hq)]
    rfl
  · rename_i k2
    simp only [k2, if_false] at hs ⊢
    split
    · refine ⟨_, rfl, ?_⟩
      have := pT_encs (ns := [id, off]) (by simp [h3, h4]) (enc (flagV fin) ++ (enc (d.length : Int) ++ (d ++ x)))
      simp only [encs, List.append_nil, List.append_assoc, List.length_cons, List.length_nil] at this ⊢
      simp only [bindP]
      rw [this]
      simp only
      rw [pFlag_rt]
      simp only
      rw [pData_rt d x h7]
      rfl
    · rename_i k3
      simp only [k3, if_false] at hs ⊢
      split
      · rename_i k4
        simp only [k4, if_true] at hs
        have hd : d = [] := hs.2.2.2.2.2.2.1
        subst hd
        refine ⟨_, rfl, ?_⟩
        have := pT_encs (ns := [id, a, off, b]) (by simp [h3, h4, h5, h6]) x
        simp only [encs, List.append_nil, List.nil_append, List.append_assoc, List.length_cons, List.length_nil] at this ⊢
        simp only [bindP]
        rw [this]
        rfl
      · rename_i k4
        simp only [k4, if_false] at hs ⊢
        split
        · rename_i k5
          simp only [k5, if_true] at hs
          have hd : d = [] := hs.2.2.2.2.2.2.1
          subst hd
          refine ⟨_, rfl, ?_⟩
          have := pT_encs (ns := [id, a]) (by simp [h3, h5]) x
          simp only [encs, List.append_nil, List.nil_append, List.append_assoc, List.length_cons, List.length_nil] at this ⊢
          simp only [bindP]
          rw [this]
          rfl
        · rename_i k5
          simp only [k5, if_false] at hs ⊢
          split
          · rename_i k6
            simp only [k6, if_true] at hs
            have hd : d = [] := hs.2.2.2.2.2.2.1
            subst hd
            refine ⟨_, rfl, ?_⟩
            simp only [encs, List.append_nil, List.nil_append, List.append_assoc]
            simp only [bindP]
            rw [pT1 h5]
            rfl
          · rename_i k6
            simp only [k6, if_false] at hs ⊢
            split
            · rename_i k8
              simp only [k8, if_true] at hs
              have hd : d = [] := hs.2.2.2.2.2.2.1
              subst hd
              refine ⟨_, rfl, ?_⟩
              simp only [encs, List.append_nil, List.nil_append, List.append_assoc]
              simp only [bindP]
              rw [pT1 h5]
              simp only
              rw [pFlag_rt]
              rfl
            · rename_i k8
              simp only [k8, if_false] at hs ⊢
              split
              · refine ⟨_, rfl, ?_⟩
                simp only [encs, List.append_nil, List.nil_append, List.append_assoc]
                simp only [bindP]
                rw [pData_rt d x h7]
                rfl
              · rename_i k9
                simp only [k9, if_false] at hs ⊢
                split
                · rename_i k10
                  simp only [k10, if_true] at hs
                  have hd : d = [] := hs.2.2.2.2.2.2.1
                  subst hd
                  refine ⟨_, rfl, ?_⟩
                  simp only [encs, List.append_nil, List.nil_append, List.append_assoc]
                  simp only [bindP]
                  rw [pT1 h3]
                  rfl
                · rename_i k10
                  simp only [k10, if_false] at hs
                  have hd : d = [] := hs.2.2.2.2.2.2.1
                  subst hd
                  exact ⟨_, rfl, rfl⟩
theorem pFrame_rt {v : FV} (h : FR v) (x : List UInt8) : pFrame (lay1 v ++ x) = .inr (bareV v, x) := by
  obtain ⟨r, h1, h2⟩ := rawP_rt h x
  have hk : okN v.kind := by have := h.1.1; unfold okN; omega
  unfold lay1
  rw [h1]
  simp only [pFrame, bindP, encs, List.append_assoc]
  rw [pT1 hk]
  simp only [List.getD_cons_zero]
  rw [← List.append_assoc, h2]
  simp only [finF]
  rw [if_pos (FR.bare h).1]
end Go.Proofs.Ythiccnmplgdheaa.T
/- Chapter 5's reader over the typed texts: frames read one behind the other. -/
set_option linter.unusedVariables false
set_option linter.unusedSimpArgs false
namespace Go.Proofs.Ythiccnmplgdheaa.T
open Go Go.Abs Go.Proofs
def pRead : Nat → List UInt8 → Int ⊕ List FV
  | _, [] => .inr []
  | 0, _ :: _ => .inl 3
  | n + 1, c :: t => match pFrame (c :: t) with
    | .inl e => .inl e
    | .inr (v, r) => match pRead n r with
      | .inl e => .inl e
      | .inr vs => .inr (v :: vs)
def consV (vs : List FV) : Int ⊕ List FV → Int ⊕ List FV
  | .inl e => .inl e
  | .inr us => .inr (vs ++ us)
theorem FRs.up {h h' : H} {b n : Nat} (u : UP (· = b) h h') (hb : b < n) : ∀ {xs : List F9} {vs : List FV}, (∀ x ∈ xs, Fr n x.2.2.2.2.2.2.2.1 ∧ Fr n x.2.2.2.2.2.2.2.2) → FRs h xs vs → FRs h' xs vs
  | [], [], _, _ => trivial
  | x :: xs, v :: vs, hn, r => ⟨⟨r.1.e, Rd.up r.1.data u (fun a ha e => by have := (hn x (by simp)).1 a ha; omega), Rd.up r.1.spans u (fun a ha e => by have := (hn x (by simp)).2 a ha; omega)⟩, FRs.up u hb (fun y hy => hn y (by simp [hy])) r.2⟩
  | [], _ :: _, _, r => r.elim
  | _ :: _, [], _, r => r.elim
def ReadQ (h1 : H) (a : Sl × Int) : Int ⊕ List FV → Prop
  | .inl e => a = (⟨none, 0, 0⟩, e)
  | .inr vs => (∃ xs, RdF h1 a.1 xs vs) ∧ a.2 = 0
theorem FRead_f {h : H} (w : WF h) {s : Sl} {l : List UInt8} (hr : RdB h s l) (hl : l.length ≤ 2 ^ 38) : PO (frame_Read s h) (fun (a, h1) => EX h h1 ∧ ReadQ h1 a (pRead l.length l)) := by
  unfold frame_Read
  refine PO.newB w fun g x0 B0 z0 w0 => ?_
  have hb : h.size < g.size := by omega
  have R0 : RdrA g h.size (.inr l) := ⟨by omega, s, B0, hr.ex x0⟩
  generalize hF : pRead l.length l = F
  refine PO.joinD (PO.mono (P := Sum.elim (fun a => (∃ xs vs, FRs a.2 xs vs ∧ Buf 9 a.2 a.1 (fsV xs) ∧ F = .inr vs ∧ vs.length ≤ l.length) ∧ UP (· = h.size) g a.2) (fun a => UP (· = h.size) g a.2 ∧ ∃ e, a.1 = (⟨none, 0, 0⟩, e) ∧ F = .inl e)) ?_ ?_)
  · refine PO.loop (fun m st => ∃ (l' : List UInt8) (out : Sl) (h' : H) (xs : List F9) (vs : List FV) (n : Nat), st = ((some ⟨h.size, 0, some 0⟩, out), h') ∧ m = l'.length ∧ RdrA h' h.size (.inr l') ∧ Buf 9 h' out (fsV xs) ∧ FRs h' xs vs ∧ (∀ x ∈ xs, Fr g.size x.2.2.2.2.2.2.2.1 ∧ Fr g.size x.2.2.2.2.2.2.2.2) ∧ Fr g.size out ∧ UP (· = h.size) g h' ∧ l'.length ≤ n ∧ F = consV vs (pRead n l') ∧ vs.length + l'.length ≤ l.length) ?_ l.length _ ⟨l, _, g, [], [], l.length, rfl, rfl, R0, buf_nil 9 g, trivial, by simp, fr_nil _, UP.refl w0, Nat.le_refl _, ?_, by simp⟩
    · rintro m st ⟨l', out, h', xs, vs, n, rfl, rfl, R, hbuf, hfr, hxs, hf, U, hn, hF', hvl⟩
      unfold P.frame_Read_l1
      have R' := R
      obtain ⟨hl', s', B', rd'⟩ := R
      have hsl := RdB.len rd'
      refine .ptr (.ldL B' rfl (.condD (fun c => ?_) (fun c => ?_)))
      · have hpos : 0 < l'.length := by have c' : ((s'.len : Nat) : Int) > 0 := c; omega
        refine PO.call (rframe_f U.wf R') fun x h1 ⟨⟨v, fv, V1⟩, R1, u1, fd, fs⟩ => ?_
        refine PO.boxF rfl u1.wf fun h3 x3 B3 z3 => ?_
        have R3 := R1.ex x3
        have U3 : UP (· = h.size) h' h3 := u1.ex x3
        have UU : UP (· = h.size) g h3 := U.trans U3 (fun A _ e => e)
        obtain ⟨n', hn'⟩ : ∃ n', n = n' + 1 := ⟨n - 1, by omega⟩
        subst hn'
        obtain ⟨cc, t, hct⟩ : ∃ cc t, l' = cc :: t := by
          cases l' with
          | nil => simp at hpos
          | cons cc t => exact ⟨cc, t, rfl⟩
        have hpr : pRead (n' + 1) l' = match pFrame l' with
            | .inl e => .inl e
            | .inr (v, r) => match pRead n' r with
              | .inl e => .inl e
              | .inr vs => .inr (v :: vs) := by subst hct; rfl
        cases hp : pFrame l' with
        | inl e =>
          rw [hp] at R3
          obtain ⟨he, l2, hl2, s2, B2, rd2⟩ := R3
          refine .ptr (.ldI B2 rfl (.condNE (fun _ => .ptr (.ldI B2 rfl (.retR ⟨UU, e, rfl, ?_⟩))) (fun hc => absurd hc he)))
          rw [hF', hpr, hp]; rfl
        | inr y =>
          obtain ⟨v', r⟩ := y
          have hv := V1 v' r hp
          subst hv
          rw [hp] at R3
          have R3' : RdrA h3 h.size (.inr r) := R3
          obtain ⟨hl2, s2, B2, rd2⟩ := R3
          refine .ptr (.ldI B2 rfl (.condNE (fun hc => absurd rfl hc) (fun _ => PO.ldF B3 ?_)))
          have b3 : Buf 9 h3 out (fsV xs) := Buf.up U.wf hbuf U3 (fun a ha e => by have := hf a ha; omega)
          have hfl := hfr.len
          have hlt := pFrame_lt hp
          refine PO.appF1 (n := g.size) x3.wf b3 (by rw [UU.nro]; exact w0.nro) UU.size hf (by omega) fun out1 h5 b5 u5 f5 k5 => .retL ⟨r.length, hlt, r, out1, h5, xs ++ [x], vs ++ [v'], n', rfl, rfl, R3'.kp k5 u5 hb, b5, ?_, ?_, f5, ?_, by omega, ?_, by simp; omega⟩
          · exact FRs.app ((hfr.up U3 hb hxs).kp k5) ⟨(fv.ex x3).kp k5, trivial⟩
          · intro q hq
            rcases List.mem_append.1 hq with hq | hq
            · exact hxs q hq
            · simp at hq; subst hq; exact ⟨fd.mono U.size, fs.mono U.size⟩
          · exact ⟨Nat.le_trans UU.size u5.size, u5.nro.trans UU.nro, u5.wf, fun A hA hn => (u5.same A (Nat.lt_of_lt_of_le hA UU.size) (by omega)).trans (UU.same A hA hn)⟩
          · rw [hF', hpr, hp]
            simp only
            cases pRead n' r with
            | inl e => rfl
            | inr us => simp [consV]
      · have hnil : l' = [] := List.eq_nil_of_length_eq_zero (by have c' : ¬ ((s'.len : Nat) : Int) > 0 := c; omega)
        subst hnil
        refine .retR ⟨⟨xs, vs, hfr, hbuf, ?_, by omega⟩, U⟩
        rw [hF']
        have : pRead n [] = .inr [] := by cases n <;> rfl
        rw [this]
        simp [consV]
    · rw [hF]
      cases F <;> simp [consV]
  · rintro (⟨out, h1⟩ | ⟨⟨a, e⟩, h1⟩) hp
    · obtain ⟨⟨xs, vs, hfr, hbuf, hF2, hvl⟩, U⟩ := hp
      have hfr' : FRs h1 xs vs := hfr
      have hbuf' : Buf 9 h1 out (fsV xs) := hbuf
      have U' : UP (· = h.size) g h1 := U
      have hol := hbuf'.rd.len
      rw [fsV_length] at hol
      have hxl := hfr'.len
      obtain ⟨s', e1, b1, _, _⟩ := clip_buf (by omega) (by unfold B63; omega) hbuf' (by unfold B63; omega)
      show PO (bind2 (slices_Clip_api_Frame_api_Frame out h1) _) _
      unfold slices_Clip_api_Frame_api_Frame
      refine PO.callE (a := s') (h1 := h1) (by rw [e1]; rfl) (.ret ⟨UP.ex0 U' x0 (fun A hA e => by omega), ?_⟩)
      rw [hF2]
      exact ⟨⟨xs, b1.rd, hfr'⟩, rfl⟩
    · obtain ⟨U, e', ee, hF2⟩ := hp
      simp only [Prod.mk.injEq] at ee
      obtain ⟨rfl, rfl⟩ := ee
      refine ⟨UP.ex0 U x0 (fun A hA e => by omega), ?_⟩
      rw [hF2]
      exact rfl
/-! what was laid is read; what is cut short is not -/
theorem pRead_fuel : ∀ (l : List UInt8) (n m : Nat), l.length ≤ n → l.length ≤ m → pRead n l = pRead m l := by
  intro l
  induction hk : l.length using Nat.strongRecOn generalizing l with
  | _ k ih =>
    intro n m hn hm
    cases l with
    | nil => cases n <;> cases m <;> rfl
    | cons c t =>
      simp only [List.length_cons] at hk
      obtain ⟨n', rfl⟩ : ∃ n', n = n' + 1 := ⟨n - 1, by omega⟩
      obtain ⟨m', rfl⟩ : ∃ m', m = m' + 1 := ⟨m - 1, by omega⟩
      simp only [pRead]
      cases hp : pFrame (c :: t) with
      | inl e => rfl
      | inr y =>
        obtain ⟨v, r⟩ := y
        have hlt := pFrame_lt hp
        simp only [List.length_cons] at hlt
        simp only
        rw [ih r.length (by omega) r rfl n' m' (by omega) (by omega)]
theorem lay1_pos {v : FV} (h : FR v) : 0 < (lay1 v).length := by
  have h1 := pFrame_rt h []
  have h2 := pFrame_lt h1
  simp only [List.append_nil, List.length_nil] at h2
  exact h2
theorem pRead_step {v : FV} (h : FR v) (x : List UInt8) {n : Nat} (hn : (lay1 v ++ x).length ≤ n) : pRead n (lay1 v ++ x) = match pRead x.length x with
    | .inl e => .inl e
    | .inr vs => .inr (bareV v :: vs) := by
  have h0 := lay1_pos h
  have h1 := pFrame_rt h x
  simp only [List.length_append] at hn
  obtain ⟨n', rfl⟩ : ∃ n', n = n' + 1 := ⟨n - 1, by omega⟩
  obtain ⟨c, t, hc⟩ : ∃ c t, lay1 v ++ x = c :: t := by
    cases hl : lay1 v ++ x with
    | nil => have := congrArg List.length hl; simp only [List.length_append, List.length_nil] at this; omega
    | cons c t => exact ⟨c, t, rfl⟩
  rw [hc] at h1 ⊢
  simp only [pRead, h1]
  rw [pRead_fuel x n' x.length (by omega) (Nat.le_refl _)]
theorem pRead_lay : ∀ {vs : List FV}, (∀ v ∈ vs, FR v) → pRead (layFs vs).length (layFs vs) = .inr (vs.map bareV)
  | [], _ => rfl
  | v :: vs, h => by
    simp only [layFs]
    rw [pRead_step (h v (by simp)) _ (Nat.le_refl _), pRead_lay (fun u hu => h u (by simp [hu]))]
    rfl
theorem pFrame_short {v : FV} (h : FR v) {p q : List UInt8} (e : p ++ q = lay1 v) (hq : q ≠ []) : pFrame p = .inl 3 := by
  have h1 := pFrame_rt h []
  rw [List.append_nil, ← e] at h1
  cases hp : pFrame p with
  | inl e' =>
    rcases Good.pFrame.err _ _ hp with h3 | ⟨h2, hx⟩
    · rw [h3]
    · rw [hx q] at h1; simp at h1
  | inr y =>
    obtain ⟨a, r⟩ := y
    rw [Good.pFrame.ext _ _ _ q hp] at h1
    simp at h1
    exact absurd h1.2.2 hq
theorem sameFs_bare : ∀ {vs : List FV}, (∀ v ∈ vs, FR v) → sameFs vs (vs.map bareV)
  | [], _ => trivial
  | v :: vs, h => ⟨(h v (by simp)).1.2.1, sameFs_bare (fun u hu => h u (by simp [hu]))⟩
theorem sameV_symm {v u : FV} (h : sameV v u) : sameV u v := ⟨h.1.symm, h.2.1.symm, h.2.2.1.symm, h.2.2.2.1.symm, h.2.2.2.2.1.symm, h.2.2.2.2.2.1.symm, h.2.2.2.2.2.2.1.symm, h.2.2.2.2.2.2.2.symm⟩
theorem sameFs_symm : ∀ {a b : List FV}, sameFs a b → sameFs b a
  | [], [], _ => trivial
  | v :: vs, u :: us, h => ⟨sameV_symm h.1, sameFs_symm h.2⟩
  | [], _ :: _, h => h.elim
  | _ :: _, [], h => h.elim
/-- the first so many bytes: whole frames, or short -/
theorem pRead_cut : ∀ {vs : List FV} (k : Nat), (∀ v ∈ vs, FR v) → k ≤ (layFs vs).length →
    ∃ n, n ≤ vs.length ∧ (layFs (vs.take n)).length ≤ k ∧ (∀ h : n < vs.length, k < (layFs (vs.take (n + 1))).length) ∧ pRead k ((layFs vs).take k) = if (layFs (vs.take n)).length = k then .inr ((vs.take n).map bareV) else .inl 3
  | [], k, _, hk => by
    have : k = 0 := by simpa [layFs] using hk
    subst this
    exact ⟨0, Nat.le_refl _, by simp [layFs], by simp, by simp [layFs, pRead]⟩
  | v :: vs, k, h, hk => by
    have hv := h v (by simp)
    have h0 := lay1_pos hv
    simp only [layFs, List.length_append] at hk
    by_cases hlt : k < (lay1 v).length
    · refine ⟨0, by simp, by simp [layFs], fun _ => by simp [layFs]; exact hlt, ?_⟩
      simp only [List.take_zero, layFs, List.length_nil, List.map_nil]
      rw [List.take_append_of_le_length (by omega)]
      by_cases hk0 : 0 = k
      · subst hk0; rw [if_pos rfl]; rfl
      · rw [if_neg hk0]
        have hs := pFrame_short hv (p := (lay1 v).take k) (q := (lay1 v).drop k) (List.take_append_drop _ _) (by intro e; have := congrArg List.length e; simp at this; omega)
        obtain ⟨k', rfl⟩ : ∃ k', k = k' + 1 := ⟨k - 1, by omega⟩
        cases hl : (lay1 v).take (k' + 1) with
        | nil => have := congrArg List.length hl; simp only [List.length_take, List.length_nil] at this; omega
        | cons c t => rw [hl] at hs; simp only [pRead, hs]
    · obtain ⟨n, h1, h2, h3, h4⟩ := pRead_cut (vs := vs) (k - (lay1 v).length) (fun u hu => h u (by simp [hu])) (by omega)
      refine ⟨n + 1, by simp; omega, by simp [layFs]; omega, fun hh => by simp only [List.take_succ_cons, layFs, List.length_append]; have := h3 (by simpa using hh); omega, ?_⟩
      have ht : (layFs (v :: vs)).take k = lay1 v ++ (layFs vs).take (k - (lay1 v).length) := by
        simp only [layFs]; rw [List.take_append, List.take_of_length_le (by omega)]
      have hll : ((layFs vs).take (k - (lay1 v).length)).length = k - (lay1 v).length := by simp; omega
      rw [ht, pRead_step hv _ (by simp only [List.length_append, hll]; omega), hll, h4]
      simp only [List.take_succ_cons, layFs, List.length_append]
      by_cases hc : (layFs (List.take n vs)).length = k - (lay1 v).length
      · rw [if_pos hc, if_pos (by omega)]; rfl
      · rw [if_neg hc, if_neg (by omega)]
end Go.Proofs.Ythiccnmplgdheaa.T
/- The laws FrameBack and FrameCut over typed texts: what is laid is read the same; frames that are cut short are refused. -/
set_option linter.unusedVariables false
set_option linter.unusedSimpArgs false
namespace Go.Proofs.Ythiccnmplgdheaa.T
open Go Go.Abs Go.Proofs
theorem take9 {α : Type} (A B : List α) (m : Nat) (h : A.length = 9) : (A ++ B).take (9 + m) = A ++ B.take m := by
  rw [List.take_append, List.take_of_length_le (by omega), h, Nat.add_sub_cancel_left]
theorem drop9 {α : Type} (A B : List α) (m : Nat) (h : A.length = 9) : (A ++ B).drop (9 + m) = B.drop m := by
  rw [List.drop_append, List.drop_eq_nil_of_le (by omega), h, Nat.add_sub_cancel_left]; rfl
theorem fsV_take : ∀ (l : List F9) (k : Nat), fsV (l.take k) = (fsV l).take (k * 9)
  | [], k => by simp [fsV]
  | x :: l, 0 => by simp [fsV]
  | x :: l, k + 1 => by
    rw [show (k + 1) * 9 = 9 + k * 9 by omega]
    show f9L x ++ fsV (l.take k) = (f9L x ++ fsV l).take (9 + k * 9)
    rw [take9 _ _ _ rfl, fsV_take l k]
theorem fsV_drop : ∀ (l : List F9) (k : Nat), fsV (l.drop k) = (fsV l).drop (k * 9)
  | [], k => by simp [fsV]
  | x :: l, 0 => by simp [fsV]
  | x :: l, k + 1 => by
    rw [show (k + 1) * 9 = 9 + k * 9 by omega]
    show fsV (l.drop k) = (f9L x ++ fsV l).drop (9 + k * 9)
    rw [drop9 _ _ _ rfl, fsV_drop l k]
theorem slF_hi {h : H} {s : Sl} {xs : List F9} {vs : List FV} (r : RdF h s xs vs) {hi : Int} (h1 : 0 ≤ hi) (h2 : hi ≤ vs.length) : ∃ s', slT 9 h s none (some hi) none = some s' ∧ RdF h s' (xs.take hi.toNat) (vs.take hi.toNat) := by
  obtain ⟨s', e, r', _, _⟩ := sl_hi (hi := hi) (by omega) (by unfold B63; omega) r.rd h1 (by rw [r.len]; exact h2)
  exact ⟨s', e, by rw [fsV_take]; exact r', r.frs.take _⟩
theorem slF_lo {h : H} {s : Sl} {xs : List F9} {vs : List FV} (r : RdF h s xs vs) {lo : Int} (h1 : 0 ≤ lo) (h2 : lo ≤ vs.length) : ∃ s', slT 9 h s (some lo) none none = some s' ∧ RdF h s' (xs.drop lo.toNat) (vs.drop lo.toNat) := by
  obtain ⟨s', e, r', _, _⟩ := sl_lo (lo := lo) (by omega) (by unfold B63; omega) r.rd h1 (by rw [r.len]; exact h2)
  exact ⟨s', e, by rw [fsV_drop]; exact r', r.frs.drop _⟩
theorem RdF.cell {h : H} {s : Sl} {xs : List F9} {vs : List FV} {b : Addr} (r : RdF h s xs vs) (hb : s.base = some b) {j i : Nat} {v : Value} (hj : j < xs.length) (hi : i < 9) (e : (f9L (xs.getD j f90))[i]? = some v) : ldCell h (add (add b (j * 9)) i) = some v := by
  rw [add_add]
  refine (r.rd.ld b hb _ _ ?_).2
  have := fsV_get xs j hj
  rw [← this, List.getElem?_take_of_lt hi, List.getElem?_drop] at e
  exact e
def kv1 : FV := ⟨1, 0, 0, 0, 0, 0, false, [], []⟩
def kv2 : FV := ⟨10, 5, 0, 0, 0, 0, false, [], []⟩
theorem szok_of {vs : List FV} (h : ∀ v ∈ vs, FR v) : SzOK vs := fun v hv => by
  have h1 := (h v hv).1.2.2.2
  refine ⟨by omega, ?_⟩
  have hs := (h v hv).1.2.1.2.2.2.2.2.2.2
  by_cases h2 : v.kind = 2
  · have := (h v hv).2
    unfold FR1 at this
    rw [if_pos h2] at this
    have := this.2.2
    omega
  · have : v.spans = [] := by
      rw [hs]
      unfold bareV
      rw [if_neg h2]
      (repeat' split) <;> rfl
    rw [this]; simp
theorem layFs_mono (vs : List FV) {i n : Nat} (h : i ≤ n) : (layFs (vs.take i)).length ≤ (layFs (vs.take n)).length := by
  obtain ⟨j, rfl⟩ : ∃ j, n = i + j := ⟨n - i, by omega⟩
  rw [List.take_add, layFs_app, List.length_append]
  omega
end Go.Proofs.Ythiccnmplgdheaa.T
