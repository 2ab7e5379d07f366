/- Lemmas about the typed texts (joined: SOrd4 SOrd5 SOrd6). -/
import Derived.Test.YthiccnmplgdheaaG6
/- Chapter 20's example over the typed texts. -/
set_option linter.unusedVariables false
set_option linter.unusedSimpArgs false
namespace Go.Proofs.Ythiccnmplgdheaa.T
open Go Go.Abs Go.Proofs
open TC (cmpI ordL before)
theorem ordL_eq {es : List (Int × Int)} (hn : (es.map (·.1)).Nodup) {l : List Int} (hp : l.Perm (es.map (·.1))) (hs : l.Pairwise (before es)) : ordL es = l := by
  refine List.Perm.eq_of_pairwise (le := before es) ?_ (TC.ordL_sorted es hn) hs ((TC.ordL_perm es).trans hp.symm)
  intro a b _ _ h1 h2
  unfold before at h1 h2
  omega
theorem good_put (k v : Int) (hk : (Lit.int .i64 k).wf = true) {es : List (Int × Int)} (hn : (es.map (·.1)).Nodup) (hw : ∀ k ∈ es.map (·.1), (Lit.int .i64 k).wf = true) :
    ((putI k v es).map (·.1)).Nodup ∧ (∀ x, x ∈ (putI k v es).map (·.1) ↔ x = k ∨ x ∈ es.map (·.1)) := by
  induction es with
  | nil => exact ⟨by simp [putI], fun x => by simp [putI]⟩
  | cons p es ih =>
    obtain ⟨k', v'⟩ := p
    simp only [List.map_cons, List.nodup_cons] at hn
    obtain ⟨ih1, ih2⟩ := ih hn.2 (fun x hx => hw x (List.mem_cons_of_mem _ hx))
    unfold putI
    split
    · rename_i e; subst e
      exact ⟨by simpa using hn, fun x => by simp⟩
    · rename_i hne
      refine ⟨?_, fun x => ?_⟩
      · simp only [List.map_cons, List.nodup_cons]
        refine ⟨fun hm => ?_, ih1⟩
        rcases (ih2 k').1 hm with e | e
        · exact hne e.symm
        · exact hn.1 e
      · simp only [List.map_cons, List.mem_cons, ih2]
        constructor
        · rintro (h | h | h)
          · exact .inr (.inl h)
          · exact .inl h
          · exact .inr (.inr h)
        · rintro (h | h | h)
          · exact .inr (.inl h)
          · exact .inl h
          · exact .inr (.inr h)
theorem putI_len (k v : Int) : ∀ es : List (Int × Int), (putI k v es).length ≤ es.length + 1
  | [] => by simp [putI]
  | (k', v') :: es => by
    unfold putI
    split
    · simp
    · have := putI_len k v es; simp; omega
theorem known20_f {h : H} (w : WF h) (hst : h.st = false) : PO (law20_known h) (fun (a, h') => a = true ∧ EX h h') := by
  unfold law20_known P.law20_known
  refine PO.newOrd w fun h2 x2 O2 => ?_
  refine PO.call (OPut_f x2.wf O2 5 1) ?_
  rintro _ h3 ⟨m3, O3, u3, f3⟩
  refine PO.call (OPut_f u3.wf O3 3 2) ?_
  rintro _ h4 ⟨m4, O4, u4, f4⟩
  have y3 : EX h h3 := u3.ex0 x2 fun A hA e => by rcases e with e | e <;> first | omega | cases e
  have y4 : EX h h4 := u4.ex0 y3 fun A hA e => by
    have := x2.size
    rcases e with e | e
    · omega
    · rcases f3 with f3 | ⟨r, f3, hr⟩
      · rw [f3] at e; cases e
      · rw [f3] at e; cases e; omega
  have es : putI 2 3 (putI 1 5 []) = [(1, 5), (2, 3)] := by decide
  rw [es] at O4
  have G : OGood [(1, 5), (2, 3)] := ⟨by decide, by decide, by decide⟩
  have ol : ordL [(1, 5), (2, 3)] = [2, 1] := ordL_eq (by decide) (List.Perm.swap (1 : Int) 2 []) (by
    refine List.Pairwise.cons (fun a ha => ?_) (List.pairwise_singleton _ _)
    simp at ha; subst ha
    left; decide)
  refine PO.call (First_f y4.wf (y4.st.trans hst) O4 G) ?_
  rintro ⟨a, b⟩ h5 ⟨e5, x5⟩
  rw [ol] at e5
  cases e5
  refine PO.call (All_f x5.wf ((y4.trans x5).st.trans hst) (O4.ex x5) G) ?_
  rintro s h6 ⟨x6, r6, _, _, _⟩
  rw [ol] at r6
  refine PO.newB x6.wf fun h7 x7 B7 z7 w7 => ?_
  have r7 : RdI .i64 h7 ⟨some ⟨h6.size, 0, some 0⟩, 2, 2⟩ [2, 1] := by
    refine B7.rd (n := 2) (cap := 2) w7 rfl ?_
    unfold CapOK; rw [capK_exact (by unfold B63; omega)]; exact Nat.le_refl _
  refine PO.call (osame_f (Rd.kx x7 r6) r7 (by decide)) ?_
  rintro c h8 ⟨e8, rfl⟩
  subst e8
  exact PO.condT (PO.condT (.ret ⟨rfl, ((y4.trans x5).trans x6).trans x7⟩))
end Go.Proofs.Ythiccnmplgdheaa.T
/- Chapter 20's order over the typed texts: those that are late. -/
set_option linter.unusedVariables false
set_option linter.unusedSimpArgs false
namespace Go.Proofs.Ythiccnmplgdheaa.T
open Go Go.Abs Go.Proofs
open TC (cmpI ordL before)
/-- what the closure sees; all of it lies below n0 -/
structure LateEnv (h : H) (n0 : Nat) (p q : Addr) (es : List (Int × Int)) (now : Int) : Prop where
  env : ∃ o m, ldCell h p = some (.pointer (some o)) ∧ ldCell h (add o 0) = some (.map m) ∧ MapR h m es ∧ p.block < n0 ∧ o.block < n0 ∧ ∀ r, m = some r → r < n0
  now : ldCell h q = some (.int .i64 now)
  q0 : q.block < n0
  n0 : n0 ≤ h.size
theorem LateEnv.up {h h1 : H} {n0 : Nat} {p q : Addr} {es : List (Int × Int)} {now : Int} (E : LateEnv h n0 p q es now) {S : Nat → Prop} (u : UP S h h1) (hS : ∀ A, A < n0 → ¬ S A) : LateEnv h1 n0 p q es now := by
  obtain ⟨o, m, e1, e2, M, l1, l2, l3⟩ := E.env
  have := E.n0
  refine ⟨⟨o, m, u.ld (by omega) (hS _ l1) e1, u.ld (a := add o 0) (show o.block < _ by omega) (hS _ l2) e2, ⟨M.nil, fun r hr => ⟨Nat.lt_of_lt_of_le (M.at_ r hr).1 u.size, (u.same r (M.at_ r hr).1 (hS r (l3 r hr))).trans (M.at_ r hr).2⟩⟩, l1, l2, l3⟩, u.ld (by have := E.q0; omega) (hS _ E.q0) E.now, E.q0, Nat.le_trans E.n0 u.size⟩
def keepL (es : List (Int × Int)) (now : Int) (x : Int) : Bool := decide (getI x es < now)
end Go.Proofs.Ythiccnmplgdheaa.T
/- Chapter 20: Late; the closed law OrderKnown over the typed texts. -/
set_option linter.unusedVariables false
set_option linter.unusedSimpArgs false
namespace Go.Proofs.Ythiccnmplgdheaa.T
open Go Go.Abs Go.Proofs
open TC (cmpI ordL before)
theorem clipR_I {h : H} {s : Sl} {l : List Int} (r : RdI .i64 h s l) (hl : l.length ≤ 2 ^ 40) : ∃ s', slices_Clip_int s h = some (s', h) ∧ RdI .i64 h s' l ∧ s'.len = l.length ∧ s'.base = s.base := by
  have hlen : s.len = l.length := r.len
  obtain ⟨s', e, r', h1, h2⟩ := clip_base (sz := 1) (by omega) (by unfold B63; omega) r (by rw [hlen]; unfold B63; omega)
  refine ⟨s', ?_, r', h1.trans hlen, h2⟩
  unfold slices_Clip_int
  rw [e]; rfl
end Go.Proofs.Ythiccnmplgdheaa.T
