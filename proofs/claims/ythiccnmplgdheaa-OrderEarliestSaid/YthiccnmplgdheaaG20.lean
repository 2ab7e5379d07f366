/- Lemmas about the typed texts (joined: LOrd13 LOrd16). -/
import Derived.Test.YthiccnmplgdheaaG8
import Derived.Test.YthiccnmplgdheaaG19
import Derived.Test.YthiccnmplgdheaaG17
/- The law OrderTwice over the typed texts. -/
set_option linter.unusedVariables false
set_option linter.unusedSimpArgs false
namespace Go.Proofs.Ythiccnmplgdheaa.T
open Go Go.Abs Go.Proofs
open TC (cmpI ordL before)
/-! a slice of calls -/
def zC : List Z := [.int .i64, .int .i64, .int .i64, .sl]
theorem PO.ixC {α : Type} {Q : α → Prop} {h : H} {s : Sl} {xs : List F4} {j : Int} {g : Addr → Option α} (r : Rd 4 h s (csV xs)) (h0 : 0 ≤ j) (h1 : j < xs.length)
    (p : ∀ a x, xs[j.toNat]? = some x → Abs.ldZ zC h a = some x → Abs.ldI .i64 h (add a 2) = some x.2.2.1 → PO (g a) Q) : PO (bindO (ixT 4 s j) g) Q := by
  have hl := r.len
  rw [csV_length] at hl
  obtain ⟨a, ha, e⟩ := ixT_ok r h0 (by omega)
  have hj : j.toNat < xs.length := by omega
  have hx : xs[j.toNat]? = some xs[j.toNat] := List.getElem?_eq_getElem hj
  have hc : ∀ q, q < 4 → ∀ v, (f4L xs[j.toNat])[q]? = some v → ldCell h (add (add a (j.toNat * 4)) q) = some v := by
    intro q hq v hv
    rw [add_add]
    refine (r.ld a ha _ v ?_).2
    rw [csV_get _ _ _ hq, hx]; exact hv
  refine .op e (p _ _ hx (ldZ_of (zs := zC) ?_) (ldI_of (hc 2 (by omega) _ rfl)))
  exact ldCells_of (f4L xs[j.toNat]) _ fun i v hi => hc i (List.getElem?_eq_some_iff.1 hi).1 v hi
theorem PO.callRow {α : Type} {Q : α → Prop} {h : H} {x : F4} {t : Nat} {L : List Value} {f : Nat → H → Option α} (hL : L.length = 4) (w : WF h) (p : ∀ h2, EX h h2 → Box h2 h.size (f4L x) → PO (f h.size h2) Q) :
    PO (newO (row t L) h fun (b : Nat) (h1 : H) => bindO (Abs.stZ [.int .i64, .int .i64, .int .i64, .sl] h1 ⟨b, 0, some 0⟩ x) fun (h2 : H) => f b h2) Q := by
  refine PO.newB w fun h1 x1 B1 z1 w1 => ?_
  refine PO.stZ (zs := zC) (x := x) B1 w1 hL.symm rfl fun h2 B2 u2 z2 w2 => ?_
  exact p h2 (u2.ex0 x1 fun A hA e => by omega) B2
/-! the marks -/
def marks (es : List (Int × Int)) : List Value := (List.range 30).map fun (q : Nat) => .bool (lookI (q : Int) es).isSome
theorem marks_len (es : List (Int × Int)) : (marks es).length = 30 := by simp [marks]
theorem marks_get (es : List (Int × Int)) {q : Nat} (hq : q < 30) : (marks es)[q]? = some (.bool (lookI (q : Int) es).isSome) := by
  simp [marks, List.getElem?_map, List.getElem?_range hq]
theorem marks_set {es es' : List (Int × Int)} {q : Nat} (hq : q < 30) {b : Bool} (h1 : (lookI (q : Int) es').isSome = b) (h2 : ∀ p : Nat, p ≠ q → lookI (p : Int) es' = lookI (p : Int) es) : (marks es).set q (.bool b) = marks es' := by
  refine List.ext_getElem? fun p => ?_
  by_cases hp : p < 30
  · by_cases e : p = q
    · subst e; rw [List.getElem?_set_self (by rw [marks_len]; exact hp), marks_get _ hp, h1]
    · rw [List.getElem?_set_ne (Ne.symm e), marks_get _ hp, marks_get _ hp, h2 p e]
  · rw [List.getElem?_eq_none (by simp [marks_len]; omega), List.getElem?_eq_none (by simp [marks_len]; omega)]
def valC (xs : List F4) (i : Nat) : Int := ((xs.getD i (0, 0, 0, ⟨none, 0, 0⟩)).2.2.1) % 12
theorem valC_at {xs : List F4} {i : Nat} {x : F4} (h : xs[i]? = some x) : valC xs i = x.2.2.1 % 12 := by
  unfold valC; rw [List.getD_eq_getElem?_getD, h]; rfl
theorem tmod30 (i : Nat) : Int.tmod (i : Int) 30 = ((i % 30 : Nat) : Int) := by
  rw [Int.tmod_eq_emod_of_nonneg (by omega)]; omega
/-! what is dropped -/
theorem dropI_len_eq (k : Int) : ∀ es : List (Int × Int), (dropI k es).length = es.length - (if (lookI k es).isSome then 1 else 0) ∧ ((lookI k es).isSome = true → 0 < es.length)
  | [] => by simp [dropI, lookI]
  | (k', v) :: es => by
    obtain ⟨h1, h2⟩ := dropI_len_eq k es
    by_cases h : k = k'
    · subst h; simp [dropI, lookI]
    · simp only [dropI, lookI, if_neg h, List.length_cons]
      refine ⟨?_, fun _ => by omega⟩
      rw [h1]
      split
      · rename_i hs; have := h2 hs; omega
      · omega
theorem drops_look (x : Int) : ∀ (l : List Int) (es : List (Int × Int)), (es.map (·.1)).Nodup → lookI x (dropsI l es) = if x ∈ l then none else lookI x es
  | [], es, _ => by simp [dropsI]
  | k :: l, es, hn => by
    have hn' : ((dropI k es).map (·.1)).Nodup := List.Nodup.sublist (dropI_sub k es) hn
    show lookI x (dropsI l (dropI k es)) = _
    rw [drops_look x l _ hn', lookI_drop _ _ _ hn]
    by_cases h1 : x ∈ l
    · rw [if_pos h1, if_pos (List.mem_cons_of_mem _ h1)]
    · rw [if_neg h1]
      by_cases h2 : x = k
      · subst h2; rw [if_pos rfl, if_pos List.mem_cons_self]
      · rw [if_neg h2, if_neg (by simp [h1, h2])]
theorem drops_sub : ∀ (l : List Int) (es : List (Int × Int)), ((dropsI l es).map (·.1)).Sublist (es.map (·.1))
  | [], es => List.Sublist.refl _
  | k :: l, es => (drops_sub l (dropI k es)).trans (dropI_sub k es)
theorem drops_nodup (l : List Int) {es : List (Int × Int)} (hn : (es.map (·.1)).Nodup) : ((dropsI l es).map (·.1)).Nodup := List.Nodup.sublist (drops_sub l es) hn
theorem len_congr {es es' : List (Int × Int)} (hn : (es.map (·.1)).Nodup) (hn' : (es'.map (·.1)).Nodup) (h : ∀ k, lookI k es = lookI k es') : es.length = es'.length := by
  have h1 := (TC.ordL_perm es).length_eq
  have h2 := (TC.ordL_perm es').length_eq
  rw [ordL_congr hn hn' h] at h1
  simp at h1 h2
  omega
theorem PO.appI1u {α : Type} {Q : α → Prop} {h : H} {out : Sl} {l : List Int} {x : Int} {n : Nat} {g : Sl → H → Option α} (w : WF h) (hb : Buf 1 h out (l.map (.int .i64))) (hn : h.nro ≤ n) (hn2 : n ≤ h.size) (hf : Fr n out) (hl : l.length + 1 ≤ 2 ^ 44)
    (k : ∀ out1 h2, Buf 1 h2 out1 ((l ++ [x]).map (.int .i64)) → UP (fun A => n ≤ A) h h2 → Fr n out1 → KP h h2 → PO (g out1 h2) Q) : PO (newO (row 3 [.int .i64 x]) h fun b h1 => bind2 (appT 3 1 8 h1 out ⟨some ⟨b, 0, some 0⟩, 1, 1⟩) g) Q := by
  refine PO.newB w fun h1 x1 B1 z1 w1 => ?_
  have r1 : RdI .i64 h1 ⟨some ⟨h.size, 0, some 0⟩, 1, 1⟩ [x] := B1.rd w1 rfl (by unfold CapOK; rw [capK_exact (by unfold B63; omega)]; exact Nat.le_refl _)
  have hb1 : Buf 1 h1 out (l.map (.int .i64)) := hb.ex w x1
  have hlen := hb1.rd.len
  simp at hlen
  obtain ⟨s', h', e, k1, x2, b2, _, f2⟩ := appT_ok (e := 3) (bytes := 8) (by omega) (by unfold B63; omega) w1 hb1 r1 (oneC_ints .i64 _) (by simp only; omega) (by simp only; omega)
  refine PO.callE e (k s' h' ?_ (x1.trans_up (up_of_ex w1 x2 k1 (by rw [x1.nro]; exact hn) (by omega) hf)) (f2 _ (by omega) hf) ((x1.kp w).trans k1))
  rw [List.map_append]; exact b2
/-- what is behind n is written -/
theorem Two.up {h0 h h1 : H} {a b c n : Nat} {ma mb : Option Nat} {ea eb : List (Int × Int)} {l : List Value} (T : Two h0 h a b c ma mb ea eb l) (u : UP (fun A => n ≤ A) h h1) (hn : h0.size ≤ n) (ha : a < n) (hb : b < n) (hc : c < n) (hma : ∀ r, ma = some r → r < n) (hmb : ∀ r, mb = some r → r < n) : Two h0 h1 a b c ma mb ea eb l :=
  ⟨u.ex0 T.ex fun A hA e => by omega, ⟨T.oa.box.up T.wf u (by omega), T.oa.map.up u fun r hr e => by have := hma r hr; omega, T.oa.ne⟩, ⟨T.ob.box.up T.wf u (by omega), T.ob.map.up u fun r hr e => by have := hmb r hr; omega, T.ob.ne⟩, T.box.up T.wf u (by omega), T.ab, T.ac, T.bc, T.a0, T.b0, T.c0, T.mab, T.mac, T.mba, T.mbc, T.mm, T.ma0, T.mb0⟩

theorem drops_in (l : List Int) {es : List (Int × Int)} (hb : ∀ x : Int, x ∈ es.map (·.1) → 0 ≤ x ∧ x < ((30 : Nat) : Int)) : ∀ x : Int, x ∈ (dropsI l es).map (·.1) → 0 ≤ x ∧ x < ((30 : Nat) : Int) :=
  fun x hx => hb x ((drops_sub l es).subset hx)
end Go.Proofs.Ythiccnmplgdheaa.T
/- The law OrderEarliest over the typed texts. -/
set_option linter.unusedVariables false
set_option linter.unusedSimpArgs false
namespace Go.Proofs.Ythiccnmplgdheaa.T
open Go Go.Abs Go.Proofs
open TC (cmpI ordL before)
/-- an order, and a map beside that holds the same -/
structure OM (h0 h : H) (a c : Nat) (ma : Option Nat) (es : List (Int × Int)) : Prop where
  ex : EX h0 h
  oa : Ord h a ma es
  mc : MapAt h (some c) es
  ac : a ≠ c
  a0 : h0.size ≤ a
  c0 : h0.size ≤ c
  mac : ma ≠ some c
  ma0 : ∀ r, ma = some r → h0.size ≤ r
  nd : (es.map (·.1)).Nodup
  in_ : ∀ x : Int, x ∈ es.map (·.1) → 0 ≤ x ∧ x < ((25 : Nat) : Int)
theorem OM.wf {h0 h : H} {a c : Nat} {ma : Option Nat} {es : List (Int × Int)} (T : OM h0 h a c ma es) : WF h := T.ex.wf
theorem OM.kx {h0 h h1 : H} {a c : Nat} {ma : Option Nat} {es : List (Int × Int)} (T : OM h0 h a c ma es) (x : EX h h1) : OM h0 h1 a c ma es :=
  ⟨T.ex.trans x, T.oa.ex x, T.mc.ex x, T.ac, T.a0, T.c0, T.mac, T.ma0, T.nd, T.in_⟩
theorem OM.good {h0 h : H} {a c : Nat} {ma : Option Nat} {es : List (Int × Int)} (T : OM h0 h a c ma es) : OGood es := good_of T.nd (N := 25) (by omega) T.in_
theorem OM.len {h0 h : H} {a c : Nat} {ma : Option Nat} {es : List (Int × Int)} (T : OM h0 h a c ma es) : es.length ≤ 25 := by
  have := nodup_len 25 _ T.nd T.in_
  simpa using this
theorem drop1 (k : Int) (es : List (Int × Int)) : (es.length : Int) - ((dropI k es).length : Int) = if (lookI k es).isSome then 1 else 0 := by
  obtain ⟨h1, h2⟩ := dropI_len_eq k es
  rw [h1]
  split
  · rename_i hs; have := h2 hs; omega
  · omega
theorem early_l1 {h0 : H} {calls : Sl} {xs : List F4} (r : Rd 4 h0 calls (csV xs)) (hn : xs.length ≤ 2 ^ 47) {a c : Nat} {now : Int} :
    ∀ n s, (∃ (i : Nat) (hh : H) (ma : Option Nat) (es : List (Int × Int)), s = ((now, (some ⟨a, 0, some 0⟩, (some c, (calls, ((xs.length : Int), (i : Int)))))), hh) ∧ n = xs.length - i ∧ i ≤ xs.length ∧ OM h0 hh a c ma es) →
    PO (loopO law20_OrderEarliest_l1 s) (fun q => ∃ (hh : H) (ma : Option Nat) (es : List (Int × Int)), q = Sum.inl ((now, (some ⟨a, 0, some 0⟩, some c)), hh) ∧ OM h0 hh a c ma es) := by
  refine PO.loop _ ?_
  rintro n _ ⟨i, hh, ma, es, rfl, rfl, hi, T⟩
  unfold law20_OrderEarliest_l1 P.law20_OrderEarliest_l1
  dsimp only
  refine PO.condD (fun hc => ?_) (fun hc => ?_)
  · refine PO.join (fun q => ∃ (h2 : H) (ma' : Option Nat) (es' : List (Int × Int)), q = ((now, (some ⟨a, 0, some 0⟩, (some c, (calls, ((xs.length : Int), (i : Int)))))), h2) ∧ OM h0 h2 a c ma' es') ?_ ?_
    · refine PO.ixC (r.ex T.ex) (by omega) (by omega) fun p x hx e1 _ => PO.op e1 ?_
      obtain ⟨x1, x2, x3, x4⟩ := x
      refine PO.callRow (x := (x1, x2, x3, x4)) rfl T.wf fun h2 y2 B2 => ?_
      have T2 := T.kx y2
      refine PO.ldI (i := 1) B2 rfl (PO.callE (pick_f x2 25 (by omega) (by omega) h2) ?_)
      refine PO.ldI (i := 0) B2 rfl (PO.callE (pick_f x1 5 (by omega) (by omega) h2) ?_)
      have i0 : 0 ≤ x2 % 25 := Int.emod_nonneg _ (by omega)
      have i1 : x2 % 25 < 25 := Int.emod_lt_of_pos _ (by omega)
      generalize x2 % 25 = id at *
      refine PO.condE (fun h5 => ?_) (fun h5 => ?_)
      · refine PO.op (lookOT_ok T2.mc.r id) ?_
        refine PO.newB T2.wf fun h3 y3 B3 z3 w3 => ?_
        have T3 := T2.kx y3
        have r3 : RdI .i64 h3 ⟨some ⟨h2.size, 0, some 0⟩, 1, 1⟩ [id] := B3.rd w3 rfl (by unfold CapOK; rw [capK_exact (by unfold B63; omega)]; exact Nat.le_refl _)
        refine PO.call (ODrop_f T3.wf T3.oa (by have := T.len; omega) r3 (by simp)) ?_
        rintro n1 h4 ⟨e4, O4, u4⟩
        have e4 : n1 = (es.length : Int) - ((dropI id es).length : Int) := e4
        rw [drop1] at e4
        subst e4
        have hb : (!(((if (lookI id es).isSome = true then (1 : Int) else 0) == 1) == (lookI id es).isSome)) = false := by cases (lookI id es).isSome <;> rfl
        rw [hb]
        refine PO.condF ?_
        have M4 : MapAt h4 (some c) es := T3.mc.up u4 fun q hq e => T3.mac (by cases hq; exact e)
        obtain ⟨h5, e5, M5, u5, z5⟩ := delT_ok u4.wf M4 id
        refine PO.op e5 (.retL ⟨h5, ma, dropI id es, rfl, ?_⟩)
        have O4 : Ord h4 a ma (dropI id es) := O4
        refine ⟨u5.ex0 (u4.ex0 T3.ex fun A hA e => by have := T.ma0 A e; omega) fun A hA e => by cases e; have := T.c0; omega, ⟨O4.box.up u4.wf u5 (fun e => T.ac (by cases e; rfl)), O4.map.up u5 fun q hq e => T.mac (by cases e; exact hq), T.oa.ne⟩, M5, T.ac, T.a0, T.c0, T.mac, T.ma0, List.Nodup.sublist (dropI_sub id es) T.nd, fun x hx => T.in_ x ((dropI_sub id es).subset hx)⟩
      · refine PO.ldI (i := 2) B2 rfl (PO.callE (pick_f x3 40 (by omega) (by omega) h2) ?_)
        generalize x3 % 40 = d
        obtain ⟨h4, e4, M4, u4, z4⟩ := updT_ok T2.wf T2.mc id d
        refine PO.op e4 (PO.op (lookT_ok M4.r id) ?_)
        have hg : getI id (putI id d es) = d := by unfold getI; rw [lookI_put, if_pos rfl]; rfl
        rw [hg]
        have O4 : Ord h4 a ma es := ⟨T2.oa.box.up T2.wf u4 T.ac, T2.oa.map.up u4 fun q hq e => T.mac (by rw [hq, e]), T.oa.ne⟩
        refine PO.call (OPut_f u4.wf O4 d id) ?_
        rintro _ h5 ⟨ma', O5, u5, f5⟩
        have x4 : EX h0 h4 := u4.ex0 T2.ex fun A hA e => by have := T.c0; omega
        refine .retL ⟨h5, ma', putI id d es, rfl, u5.ex0 x4 fun A hA e => ?_, O5, M4.up u5 fun q hq e => ?_, T.ac, T.a0, T.c0, ?_, ?_, nodup_put _ _ T.nd, fun x hx => ?_⟩
        · rcases e with e | e
          · have := T.a0; omega
          · have := T.ma0 A e; omega
        · cases hq
          rcases e with e | e
          · exact T.ac e.symm
          · exact T.mac e
        · rcases f5 with f | ⟨r', f, hr⟩
          · rw [f]; exact T.mac
          · rw [f]; intro e; cases e
            have := (M4.at_ _ rfl).2.1; omega
        · intro q hq
          rcases f5 with f | ⟨r', f, hr⟩
          · exact T.ma0 q (f ▸ hq)
          · rw [f] at hq; cases hq; have := x4.size; omega
        · rw [mem_put] at hx
          rcases hx with rfl | hx
          · exact ⟨i0, by omega⟩
          · exact T.in_ x hx
    · rintro _ ⟨h2, ma', es', rfl, T2⟩
      refine .retL ⟨_, ?_, i + 1, h2, ma', es', ?_, rfl, by omega, T2⟩
      · omega
      · rw [w64 (n := (i : Int) + 1) (by omega) (by omega)]; rfl
  · exact .retR ⟨hh, ma, es, rfl, T⟩
/-- what is kept of a list in order is its beginning -/
theorem filter_prefix {p : Int → Bool} : ∀ l : List Int, l.Pairwise (fun a b => p b = true → p a = true) → l.filter p = l.take (l.filter p).length ∧ ∀ i x, l[i]? = some x → (p x = true ↔ i < (l.filter p).length)
  | [], _ => by simp
  | a :: l, h => by
    rw [List.pairwise_cons] at h
    obtain ⟨h1, h2⟩ := filter_prefix l h.2
    cases hp : p a with
    | true =>
      have e : (a :: l).filter p = a :: l.filter p := by simp [hp]
      rw [e]
      refine ⟨by simp only [List.length_cons, List.take_succ_cons]; rw [← h1], fun i x hx => ?_⟩
      cases i with
      | zero => simp at hx; subst hx; simp [hp]
      | succ i => rw [h2 i x (by simpa using hx)]; simp
    | false =>
      have e : l.filter p = [] := by
        rw [List.filter_eq_nil_iff]
        intro b hb hpb
        have := h.1 b hb hpb
        rw [hp] at this; cases this
      have e2 : (a :: l).filter p = [] := by simp [hp, e]
      rw [e2]
      refine ⟨by simp, fun i x hx => ?_⟩
      have : p x = false := by
        cases i with
        | zero => simp at hx; subst hx; exact hp
        | succ i =>
          have hx : l[i]? = some x := by simpa using hx
          rw [Bool.eq_false_iff]; intro hpx
          have := h.1 x (List.mem_of_getElem? hx) hpx
          rw [hp] at this; cases this
      rw [this]; simp
theorem early_l2 {h0 hh : H} {a c : Nat} {ma : Option Nat} {es : List (Int × Int)} (T : OM h0 hh a c ma es) {l late : Sl} {now : Int} (rl : RdI .i64 hh l (ordL es)) (rt : RdI .i64 hh late ((ordL es).filter (keepL es now))) :
    ∀ n s, (∃ i : Nat, s = ((now, (some ⟨a, 0, some 0⟩, (some c, (l, (late, (l, (((ordL es).length : Int), (i : Int)))))))), hh) ∧ n = (ordL es).length - i ∧ i ≤ (ordL es).length) →
    PO (loopO law20_OrderEarliest_l2 s) (fun q => q.1 = true) := by
  have hsort := TC.ordL_sorted es T.nd
  have hmem : ∀ x, x ∈ ordL es → (lookI x es).isSome = true := fun x hx => lookI_mem.1 ((TC.ordL_perm es).mem_iff.1 hx)
  have hol : (ordL es).length ≤ 25 := by have h1 := (TC.ordL_perm es).length_eq; have h2 := T.len; simp at h1; omega
  obtain ⟨hp1, hp2⟩ := filter_prefix (p := keepL es now) (ordL es) (hsort.imp fun {x y} hb hk => by
    unfold before at hb
    have hk : decide (getI y es < now) = true := hk
    show decide (getI x es < now) = true
    rw [decide_eq_true_eq] at hk ⊢; omega)
  have hlate : late.len = ((ordL es).filter (keepL es now)).length := rt.len
  refine PO.loop _ ?_
  rintro n _ ⟨i, rfl, rfl, hi⟩
  unfold law20_OrderEarliest_l2 P.law20_OrderEarliest_l2
  dsimp only
  refine PO.condD (fun hc => ?_) (fun hc => .retR rfl)
  have hil : i < (ordL es).length := by omega
  refine PO.ixI rl (by omega) (by omega) fun p hp => PO.op hp ?_
  rw [show ((i : Int)).toNat = i from rfl, List.getD_eq_getElem?_getD, List.getElem?_eq_getElem hil, Option.getD_some]
  have hgi : (ordL es)[i]? = some (ordL es)[i] := List.getElem?_eq_getElem hil
  generalize (ordL es)[i] = id at *
  have hs := hmem id (List.mem_of_getElem? hgi)
  have hlt := hp2 i id hgi
  refine PO.op (lookOT_ok T.mc.r id) (PO.callE (Deadline_f T.oa id) ?_)
  rw [hs]
  refine PO.join (fun q => q = ((now, (some ⟨a, 0, some 0⟩, (some c, (l, (late, ((i : Int), (id, (getI id es, (l, (((ordL es).length : Int), ((i : Int), false))))))))))), hh)) ?_ ?_
  · refine PO.condF (PO.condF (PO.condNE (fun h => absurd rfl h) fun _ => PO.letO ?_))
    have hb : (!((decide (getI id es < now)) == (decide ((i : Int) < ((late.len : Nat) : Int))))) = false := by
      have : (decide (getI id es < now)) = decide ((i : Int) < ((late.len : Nat) : Int)) := by
        rw [decide_eq_decide]
        unfold keepL at hlt
        rw [decide_eq_true_eq] at hlt
        unfold keepL at hlate
        rw [hlt, hlate]; omega
      rw [this]; simp
    rw [hb]
    refine PO.condF (PO.condD (fun hli => ?_) (fun _ => .retL rfl))
    refine PO.ixI rt (by omega) (by omega) fun p2 hp2' => PO.op hp2' (.retL ?_)
    have e : ((ordL es).filter (keepL es now))[i]? = some id := by
      rw [hp1, List.getElem?_take_of_lt (by omega)]; exact hgi
    rw [show ((i : Int)).toNat = i from rfl, List.getD_eq_getElem?_getD, e, Option.getD_some]
    simp
  · rintro _ rfl
    dsimp only
    refine PO.condF ?_
    refine PO.join (fun q => q = ((now, (some ⟨a, 0, some 0⟩, (some c, (l, (late, (l, (((ordL es).length : Int), ((i : Int), false)))))))), hh)) ?_ ?_
    · refine PO.condD (fun h0 => ?_) (fun _ => .retL rfl)
      have hi1 : i - 1 < (ordL es).length := by omega
      have ew : IntKind.wrap .i64 ((i : Int) - 1) = ((i - 1 : Nat) : Int) := by rw [w64 (by omega) (by omega)]; omega
      rw [ew]
      have hg1 : (ordL es)[i - 1]? = some (ordL es)[i - 1] := List.getElem?_eq_getElem hi1
      have hb : before es (ordL es)[i - 1] id := by
        have := List.pairwise_iff_getElem.1 hsort (i - 1) i hi1 hil (by omega)
        have e : (ordL es)[i] = id := by
          have := List.getElem?_eq_getElem hil
          rw [hgi] at this; exact (Option.some.inj this).symm
        rw [e] at this; exact this
      have look : ∀ {α : Type} {Q : α → Prop} {f : Int → Option α}, PO (f (ordL es)[i - 1]) Q → PO (bindO (ixT 1 l ((i - 1 : Nat) : Int)) fun (a1 : Addr) => bindO (Abs.ldI .i64 hh a1) f) Q := by
        intro α Q f hf
        refine PO.ixI rl (by omega) (by omega) fun p1 hp1 => PO.op hp1 ?_
        rw [show (((i - 1 : Nat) : Int)).toNat = i - 1 from rfl, List.getD_eq_getElem?_getD, hg1, Option.getD_some]
        exact hf
      generalize (ordL es)[i - 1] = id1 at *
      unfold before at hb
      refine look (PO.op (lookT_ok T.mc.r id1) (PO.condD (fun hgt => absurd hgt (by omega)) fun _ => look (PO.op (lookT_ok T.mc.r id1) (PO.condE (fun he => look (.retL ?_)) (fun _ => .retL rfl)))))
      have : decide (id1 ≥ id) = false := decide_eq_false (by omega)
      rw [this]
    · rintro _ rfl
      refine PO.condF (.retL ⟨_, ?_, i + 1, ?_, rfl, by omega⟩)
      · omega
      · rw [w64 (n := (i : Int) + 1) (by omega) (by omega)]; rfl
theorem OrderEarliest (calls : Sl) (now : Int) (h : H) (w : WF h) (hst : h.st = false) (xs : List F4) (r : Rd 4 h calls (csV xs)) (hx : xs.length * 48 ≤ 140737488351232) (hxi : ∀ x ∈ xs, ∃ l, RdI .i64 h x.2.2.2 l ∧ l.length ≤ 2 ^ 47) (g1 : RNG now) :
    ∃ h', law20_OrderEarliest calls now h = some (true, h') := by
  refine PO.law ?_
  have hlc : calls.len = xs.length := by have := r.len; rw [csV_length] at this; omega
  unfold law20_OrderEarliest P.law20_OrderEarliest
  refine PO.newOrd w fun h1 x1 O1 => ?_
  refine PO.newM x1.wf fun h2 x2 M2 z2 => ?_
  have s1 : h.size < h1.size := O1.box.blt
  have T2 : OM h h2 h.size h1.size none [] := ⟨x1.trans x2, O1.ex x2, M2, by omega, Nat.le_refl _, by omega, by simp, by simp, by simp, by simp⟩
  rw [hlc]
  refine PO.joinD (PO.mono (early_l1 (now := now) r (by omega) xs.length _ ⟨0, h2, none, [], rfl, by omega, by omega, T2⟩) ?_)
  rintro _ ⟨h3, ma, es, rfl, T3⟩
  show PO _ _
  dsimp only
  have hol : (ordL es).length = es.length := by have := (TC.ordL_perm es).length_eq; simpa using this
  have hel := T3.len
  refine PO.call (All_f T3.wf (T3.ex.st.trans hst) T3.oa T3.good) ?_
  rintro s4 h4 ⟨x4, r4, l4, _, _⟩
  have T4 := T3.kx x4
  refine PO.callE (pick_f now 45 (by omega) (by omega) h4) ?_
  generalize now % 45 = now1
  refine PO.call (Late_f T4.wf (T4.ex.st.trans hst) T4.oa T4.good now1) ?_
  rintro s5 h5 ⟨x5, r5, _⟩
  have T5 := T4.kx x5
  refine PO.join (fun q => ∃ h7, q = ((now1, (some ⟨h.size, 0, some 0⟩, (some h1.size, (s4, (s5, false))))), h7) ∧ EX h5 h7) ?_ ?_
  · refine PO.call (known20_f T5.wf (T5.ex.st.trans hst)) ?_
    rintro q h7 ⟨e7, x7⟩
    subst e7
    refine PO.condF (PO.op (lenMT_ok (T5.kx x7).mc.r) (PO.condNE (fun hne => absurd (by rw [l4]) hne) fun _ => .retL ⟨h7, ?_, x7⟩))
    have h5l := r5.len
    have := List.length_filter_le (keepL es now1) (ordL es)
    have : decide (((s5.len : Nat) : Int) > ((s4.len : Nat) : Int)) = false := decide_eq_false (by omega)
    rw [this]
  · rintro _ ⟨h7, rfl, x7⟩
    dsimp only
    refine PO.condF ?_
    rw [l4, ← hol]
    exact (early_l2 (T5.kx x7) (RdI.ex x7 (RdI.ex x5 r4)) (RdI.ex x7 r5) (ordL es).length _ ⟨0, rfl, rfl, by omega⟩)
end Go.Proofs.Ythiccnmplgdheaa.T
