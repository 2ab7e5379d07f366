/- Lemmas about the typed texts (joined: SOrd1 SOrd2 SOrd3). -/
import Derived.Test.YtlikepnpamejmaaGreatTxt
import Derived.Test.YtlikepnpamejmaaGreatG5
/- Chapter 20's order: the comparing function, over the texts without overrides; the order of the keys. -/
set_option linter.unusedVariables false
set_option linter.unusedSimpArgs false
namespace Go.Proofs.YtlikepnpamejmaaGreat.TC
open Go Go.Abs Go.Proofs
def cv (a b : Int) : Int := if a < b then -1 else if b < a then 1 else 0
def cmpI (es : List (Int × Int)) (x y : Int) : Int := if cv (getI x es) (getI y es) ≠ 0 then cv (getI x es) (getI y es) else cv x y
theorem Compare_f (a b : Int) (h : H) : cmp_Compare_int a b h = some (cv a b, h) := by
  unfold cmp_Compare_int P.cmp_Compare_int cmp_isNaN_int
  simp only [bind2_some, bne_self_eq_false, condK_eq, decide_eq_true_eq, Bool.false_eq_true, if_false]
  unfold cv
  by_cases h1 : a < b
  · simp [h1]
  · by_cases h2 : b < a
    · simp [h1, h2]
    · simp [h1, h2]
theorem Or_f {h : H} {s : Sl} {a b : Int} (r : RdI .i64 h s [a, b]) : cmp_Or_int s h = some (if a ≠ 0 then a else b, h) := by
  have hl : s.len = 2 := r.len
  obtain ⟨p0, _, e0, d0⟩ := r.at (i := 0) (by omega) (by simp)
  obtain ⟨p1, _, e1, d1⟩ := r.at (i := 1) (by omega) (by simp)
  have d0 : Abs.ldI .i64 h (add p0 0) = some a := d0
  have d1 : Abs.ldI .i64 h (add p1 1) = some b := d1
  have st0 : cmp_Or_int_l1 ((0, (s, (2, 0))), h) = if a ≠ 0 then some (Sum.inr (Sum.inr (a, h))) else some (Sum.inl ((0, (s, (2, 1))), h)) := by
    unfold cmp_Or_int_l1
    dsimp only
    rw [show (decide ((0 : Int) < 2)) = true from rfl, condK_eq, if_pos rfl, e0]
    simp only [bindO_some, Int.toNat_zero, d0]
    by_cases ha : a = 0
    · subst ha; rfl
    · simp [ha]
  have st1 : cmp_Or_int_l1 ((0, (s, (2, 1))), h) = if b ≠ 0 then some (Sum.inr (Sum.inr (b, h))) else some (Sum.inl ((0, (s, (2, 2))), h)) := by
    unfold cmp_Or_int_l1
    dsimp only
    rw [show (decide ((1 : Int) < 2)) = true from rfl, condK_eq, if_pos rfl, e1]
    simp only [bindO_some, show (1 : Int).toNat = 1 from rfl, d1]
    by_cases hb : b = 0
    · subst hb; rfl
    · simp [hb]
  have st2 : cmp_Or_int_l1 ((0, (s, (2, 2))), h) = some (Sum.inr (Sum.inl (0, h))) := rfl
  unfold cmp_Or_int
  rw [hl]
  show joinO (loopO cmp_Or_int_l1 ((0, (s, (2, 0))), h)) _ = _
  rw [loopO_eq, st0]
  by_cases ha : a = 0
  · subst ha
    simp only [ne_eq, not_true_eq_false, if_false]
    rw [loopO_eq, st1]
    by_cases hb : b = 0
    · subst hb
      simp only [ne_eq, not_true_eq_false, if_false]
      rw [loopO_eq, st2]; rfl
    · simp only [ne_eq, hb, not_false_eq_true, if_true]; rfl
  · simp only [ne_eq, ha, not_false_eq_true, if_true]; rfl
/-- the comparing function: deadlines first, then numbers -/
theorem Cmp_f {h : H} (w : WF h) {a1 o : Addr} {m : Option Nat} {es : List (Int × Int)} (h1 : Abs.ldP h a1 = some (some o)) (h2 : Abs.ldM h (add o 0) = some m) (M : MapR h m es) (x y : Int) :
    PO (order_Order_All_1 x y (some a1) h) (fun (a, h1) => a = cmpI es x y) := by
  have w0 : WF (growIf h 19) := (ex_growIf w 19).wf
  have x0 := ex_growIf w 19
  have e1 : Abs.ldP (growIf h 19) a1 = some (some o) := by rw [growIf_eq]; exact h1
  have e2 : Abs.ldM (growIf h 19) (add o 0) = some m := by rw [growIf_eq]; exact h2
  have M0 : MapR (growIf h 19) m es := M.ex x0
  unfold order_Order_All_1 P.order_Order_All_1
  refine PO.ptr ?_
  show PO (letH _ _) _
  rw [letH_eq]
  refine PO.op e1 (PO.ptr (PO.op e2 (PO.op (lookT_ok M0 x) (PO.ptr (PO.op e1 (PO.ptr (PO.op e2 (PO.op (lookT_ok M0 y) ?_))))))))
  refine PO.callE (Compare_f _ _ _) (PO.callE (Compare_f _ _ _) ?_)
  have hsz : (growIf h 19).size = h.size + 19 := by rw [growIf_eq]; rfl
  have hnr : (growIf h 19).nro = h.nro := by rw [growIf_eq]; rfl
  have hno : (growIf h 19).objs.get (h.size + 16) = none := by rw [growIf_eq]; exact w.top _ (by omega)
  refine PO.addNew w0 (by decide) hno (by omega) (by have := w.nro; omega) fun h3 N3 B3 => ?_
  show PO (letH _ _) _
  rw [addP_nil]
  simp only [letH_eq]
  have r3 : RdI .i64 h3 ⟨some ⟨h.size + 16, 0, some 0⟩, 2, 2⟩ [cv (getI x es) (getI y es), cv x y] := by
    refine B3.rd (n := 2) (cap := 2) N3.up.wf rfl ?_
    unfold CapOK
    rw [capK_exact (by unfold B63; omega)]
    exact Nat.le_refl _
  rw [Or_f r3]
  simp only [bind2_some]
  exact .ret rfl
/-! the order -/
def before (es : List (Int × Int)) (x y : Int) : Prop := getI x es < getI y es ∨ getI x es = getI y es ∧ x < y
theorem cmpI_lt (es : List (Int × Int)) (x y : Int) : cmpI es x y < 0 ↔ before es x y := by
  unfold cmpI cv before
  (repeat' split) <;> omega
def leI (es : List (Int × Int)) (x y : Int) : Bool := decide (¬ cmpI es y x < 0)
/-- the keys, in order -/
def ordL (es : List (Int × Int)) : List Int := (es.map (·.1)).mergeSort (leI es)
theorem ordL_perm (es : List (Int × Int)) : (ordL es).Perm (es.map (·.1)) := List.mergeSort_perm _ _
theorem ordL_sorted (es : List (Int × Int)) (hn : (es.map (·.1)).Nodup) : (ordL es).Pairwise (before es) := by
  have tr : ∀ a b c : Int, leI es a b = true → leI es b c = true → leI es a c = true := by
    intro a b c h1 h2
    simp only [leI, decide_eq_true_eq, cmpI_lt, before] at *
    omega
  have to : ∀ a b : Int, (leI es a b || leI es b a) = true := by
    intro a b
    simp only [leI, Bool.or_eq_true, decide_eq_true_eq, cmpI_lt, before]
    omega
  have h1 := List.pairwise_mergeSort tr to (es.map (·.1))
  have h2 : (ordL es).Nodup := (ordL_perm es).nodup_iff.2 hn
  refine (h1.and h2).imp ?_
  rintro a b ⟨h3, h4⟩
  simp only [leI, decide_eq_true_eq, cmpI_lt, before] at h3 ⊢
  omega
theorem run_f {h : H} (w : WF h) {a1 o : Addr} {m : Option Nat} {es : List (Int × Int)} (h1 : Abs.ldP h a1 = some (some o)) (h2 : Abs.ldM h (add o 0) = some m) (M : MapR h m es) (x y : Int) :
    Ov.run 18 [.pointer (some a1)] x y (roH h) = some (cmpI es x y) := by
  have w' : WF (roH h) := ⟨Nat.le_refl _, w.top, w.arr⟩
  have M' : MapR (roH h) m es := ⟨M.nil, M.at_⟩
  obtain ⟨⟨c, h'⟩, e, e2⟩ := Cmp_f w' (a1 := a1) (o := o) h1 h2 M' x y
  subst e2
  show (order_Order_All_1 x y (some a1) (roH h)).map (·.1) = _
  rw [e]; rfl
end Go.Proofs.YtlikepnpamejmaaGreat.TC
/- Chapter 20's order over the typed texts: all of them, in order. -/
set_option linter.unusedVariables false
set_option linter.unusedSimpArgs false
namespace Go.Proofs.YtlikepnpamejmaaGreat.T
open Go Go.Abs Go.Proofs
open TC (cmpI ordL before)
/-- a map that may be put in order -/
structure OGood (es : List (Int × Int)) : Prop where
  nodup : (es.map (·.1)).Nodup
  wf : ∀ k ∈ es.map (·.1), (Lit.int .i64 k).wf = true
  len : es.length ≤ 1000000
theorem keyInts_encM : ∀ es : List (Int × Int), keyInts (encM es) = some (es.map (·.1))
  | [] => rfl
  | p :: es => by
    show (match keyInts (encM es) with | some ks => some (p.1 :: ks) | none => none) = _
    rw [keyInts_encM es]; rfl
theorem Sorted_f {h : H} (w : WF h) (hst : h.st = false) {c a1 o : Addr} {m : Option Nat} {es : List (Int × Int)} (hc : ldCell h c = some (.map m)) (h1 : Abs.ldP h a1 = some (some o)) (h2 : Abs.ldM h (add o 0) = some m) (M : MapR h m es) (G : OGood es) :
    PO (slices_SortedFunc_int_order_Order_All_1 (.func (.func 38) #[] #[.pointer (some c)]) (some a1) h) (fun (s, h') => EX h h' ∧ Buf 1 h' s ((ordL es).map (.int .i64)) ∧ Fr h.size s) := by
  have hk : keysA 38 (.func (.func 38) #[] #[.pointer (some c)]) h = some (encM es) := by
    show (match ldCell h c with | some (.map none) => some [] | some (.map (some r)) => (match h.objs.get r with | some (.map es) => some es | _ => none) | _ => none) = _
    rw [hc]
    cases m with
    | none => rw [M.nil rfl]; rfl
    | some r => simp only [(M.at_ r rfl).2]
  have key : Ov.ov16 [.func (.func 38) #[] #[.pointer (some c)], .func (.func 18) #[] #[.pointer (some a1)]] h = sortK 3 (fun x y => Ov.run 18 [.pointer (some a1)] x y (roH h)) (es.map (·.1)) h := by
    show (bif h.st then none else match keysA 38 (.func (.func 38) #[] #[.pointer (some c)]) h, ([] : List Value) with | some es, [] => (match keyInts es with | some ks => sortK 3 (fun x y => Ov.run 18 [.pointer (some a1)] x y (roH h)) ks h | none => none) | _, _ => none) = _
    rw [hst, hk]
    simp only [cond_false, keyInts_encM]
  show PO (slO (Ov.ov16 [.func (.func 38) #[] #[.pointer (some c)], .func (.func 18) #[] #[.pointer (some a1)]] h)) _
  rw [key]
  have hp := TC.ordL_perm es
  by_cases he : es = []
  · subst he
    rw [show ([] : List (Int × Int)).map (·.1) = [] from rfl, sortK_nil]
    refine .ret ⟨EX.refl w, ?_, fun a ha => by simp at ha⟩
    rw [show ordL ([] : List (Int × Int)) = [] from List.perm_nil.1 hp]
    exact buf_nil 1 h
  · have hS : SortsTo (fun x y => Ov.run 18 [.pointer (some a1)] x y (roH h)) (es.map (·.1)) (ordL es) := by
      refine ⟨hp, cmpI es, fun x _ y _ => TC.run_f w h1 h2 M x y, (TC.ordL_sorted es G.nodup).imp ?_, ?_⟩
      · intro x y hb
        rw [TC.cmpI_lt, TC.cmpI_lt]
        unfold before at hb ⊢
        omega
      · intro x _
        rw [TC.cmpI_lt]; unfold before; omega
    rw [sortK_eq G.wf G.nodup (by have := G.len; simp; omega) hS (by simpa using he)]
    have hl : (ordL es).length = es.length := by simpa using hp.length_eq
    refine .ret ⟨wf_new w 3 _, ?_, fun a ha => by cases ha; exact Nat.le_refl _⟩
    refine buf_new w 3 1 _ (UNK 1) _ (by simp) ?_ ?_
    · unfold CapOK; rw [capK_UNK 1 (by unfold B63; omega)]
    · rw [capK_UNK 1 (by unfold B63; omega)]; trivial
/-- an order's row, and what it holds -/
structure Ord (h : H) (o : Nat) (m : Option Nat) (es : List (Int × Int)) : Prop where
  box : Box h o [.map m]
  map : MapAt h m es
  ne : m ≠ some o
theorem Ord.ex {h h' : H} {o : Nat} {m : Option Nat} {es : List (Int × Int)} (O : Ord h o m es) (x : EX h h') : Ord h' o m es := ⟨O.box.kx x, O.map.ex x, O.ne⟩
theorem clipI_f {h : H} {s : Sl} {l : List Int} (r : Buf 1 h s (l.map (.int .i64))) (hl : l.length ≤ 1000000) : ∃ s', slices_Clip_int s h = some (s', h) ∧ RdI .i64 h s' l ∧ s'.len = l.length ∧ s'.base = s.base := by
  have hlen : s.len = l.length := by have := r.rd.len; simpa using this.symm
  obtain ⟨s', e, r', h1, h2⟩ := clip_base (sz := 1) (by omega) (by unfold B63; omega) r.rd (by rw [hlen]; unfold B63; omega)
  refine ⟨s', ?_, r', h1.trans hlen, h2⟩
  unfold slices_Clip_int
  rw [e]; rfl
theorem All_f {h : H} (w : WF h) (hst : h.st = false) {o : Nat} {m : Option Nat} {es : List (Int × Int)} (O : Ord h o m es) (G : OGood es) :
    PO (order_Order_All (some ⟨o, 0, some 0⟩) h) (fun (s, h') => EX h h' ∧ RdI .i64 h' s (ordL es) ∧ s.len = es.length ∧ OwnS 1 h' s ((ordL es).map (.int .i64)) ∧ Fr h.size s) := by
  unfold order_Order_All P.order_Order_All
  refine PO.newB w fun h1 x1 B1 z1 w1 => ?_
  refine PO.ldP0 B1 rfl (.ptr ?_)
  refine PO.op (ldM_of ((O.box.kx x1).ld rfl)) ?_
  refine PO.call (P := fun p => p.1 = .func (.func 38) #[] #[.pointer (some ⟨h1.size, 0, some 0⟩)] ∧ EX h1 p.2 ∧ Box p.2 h1.size [.map m]) ?_ ?_
  · unfold maps_Keys_map_int_int_int_int
    exact PO.newB w1 fun h2 x2 B2 z2 w2 => .ret ⟨rfl, x2, B2⟩
  · rintro v h2 ⟨rfl, x2, B2⟩
    have O2 := (O.ex x1).ex x2
    have B1' := B1.kx x2
    refine PO.call (Sorted_f x2.wf ((x1.trans x2).st.trans hst) (o := ⟨o, 0, some 0⟩) (B2.ld0 rfl) (ldP_of (B1'.ld0 rfl)) (ldM_of (O2.box.ld rfl)) O2.map.r G) ?_
    rintro s h3 ⟨x3, b3, f3⟩
    have hl : (ordL es).length = es.length := by simpa using (TC.ordL_perm es).length_eq
    obtain ⟨s', e, r', l', g'⟩ := clipI_f b3 (by rw [hl]; exact G.len)
    rw [e, bind2_some]
    refine .ret ⟨(x1.trans x2).trans x3, r', l'.trans hl, b3.own.sub g' r' (Nat.le_refl _), fun a ha => ?_⟩
    have := f3 a (by rw [← g']; exact ha)
    have := (x1.trans x2).size
    omega
end Go.Proofs.YtlikepnpamejmaaGreat.T
/- Chapter 20's order over the typed texts: put, drop, the first one, a deadline, two rows held against each other. -/
set_option linter.unusedVariables false
set_option linter.unusedSimpArgs false
namespace Go.Proofs.YtlikepnpamejmaaGreat.T
open Go Go.Abs Go.Proofs
open TC (cmpI ordL before)
theorem OPut_f {h : H} (w : WF h) {o : Nat} {m : Option Nat} {es : List (Int × Int)} (O : Ord h o m es) (d id : Int) :
    PO (order_Order_Put (some ⟨o, 0, some 0⟩) d id h) (fun (_, h') => ∃ m', Ord h' o m' (putI id d es) ∧ UP (fun A => A = o ∨ m = some A) h h' ∧ (m' = m ∨ ∃ r, m' = some r ∧ h.size ≤ r)) := by
  unfold order_Order_Put
  refine PO.join (fun s => s.1 = (some ⟨o, 0, some 0⟩, d, id) ∧ ∃ r, Ord s.2 o (some r) es ∧ UP (fun A => A = o ∨ m = some A) h s.2 ∧ (some r = m ∨ h.size ≤ r)) ?_ ?_
  · refine PO.ptr (PO.op (ldM_of (O.box.ld (i := 0) rfl)) (PO.op (eqMT_nil m) ?_))
    cases m with
    | none =>
      refine PO.condT ?_
      refine PO.newM w fun h1 x1 M1 z1 => ?_
      have he := O.map.nil rfl
      refine PO.ptr (PO.st1 (O.box.kx x1) x1.wf (by simp) rfl fun h2 B2 u2 z2 w2 => .retL ⟨rfl, h.size, ⟨B2, ?_, ?_⟩, ?_, .inr (Nat.le_refl _)⟩)
      · subst he
        have ol : o < h.size := O.box.blt
        exact M1.up u2 fun r hr => by cases hr; omega
      · have ol : o < h.size := O.box.blt
        intro e; cases e; omega
      · exact (x1.trans_up u2).mono fun A _ e => .inl e
    | some r => exact PO.condF (.retL ⟨rfl, r, O, UP.refl w, .inl rfl⟩)
  · rintro ⟨⟨a1, a2, a3⟩, h1⟩ ⟨e, r, O1, u1, hr⟩
    simp only [Prod.mk.injEq] at e
    obtain ⟨rfl, rfl, rfl⟩ := e
    refine PO.ptr (PO.op (ldM_of (O1.box.ld (i := 0) rfl)) ?_)
    obtain ⟨h2, e2, M2, u2, z2⟩ := updT_ok u1.wf O1.map a3 a2
    refine PO.op e2 (.ret ⟨some r, ⟨O1.box.up u1.wf u2 (fun e => O1.ne (by rw [e])), M2, O1.ne⟩, ?_, ?_⟩)
    · refine u1.trans u2 fun A hA e => ?_
      subst e
      rcases hr with hr | hr
      · exact .inr hr.symm
      · omega
    · rcases hr with hr | hr
      · exact .inl hr
      · exact .inr ⟨r, rfl, hr⟩
def dropsI (l : List Int) (es : List (Int × Int)) : List (Int × Int) := l.foldl (fun e k => dropI k e) es
theorem dropI_len (k : Int) : ∀ es : List (Int × Int), (dropI k es).length ≤ es.length
  | [] => Nat.le_refl _
  | (k', v) :: es => by
    unfold dropI
    split
    · simp
    · simp [dropI_len k es]
theorem dropsI_len : ∀ (l : List Int) (es : List (Int × Int)), (dropsI l es).length ≤ es.length
  | [], es => Nat.le_refl _
  | k :: l, es => Nat.le_trans (dropsI_len l (dropI k es)) (dropI_len k es)
theorem dropsI_snoc (l : List Int) (k : Int) (es : List (Int × Int)) : dropsI (l ++ [k]) es = dropI k (dropsI l es) := by simp [dropsI]
theorem ODrop_f {h : H} (w : WF h) {o : Nat} {m : Option Nat} {es : List (Int × Int)} (O : Ord h o m es) (hel : es.length ≤ 2 ^ 47) {ids : Sl} {l : List Int} (r : RdI .i64 h ids l) (hll : l.length ≤ 2 ^ 47) :
    PO (order_Order_Drop (some ⟨o, 0, some 0⟩) ids h) (fun (a, h') => a = (es.length : Int) - ((dropsI l es).length : Int) ∧ Ord h' o m (dropsI l es) ∧ UP (fun A => m = some A) h h') := by
  have hn : l ≠ [] → ∀ a, ids.base = some a → ¬ m = some a.block := by
    intro hl a ha hm
    exact rd_ne_map r (by simpa using hl) (O.map.at_ _ hm).2.2 a ha rfl
  unfold order_Order_Drop
  refine PO.ptr (PO.op (ldM_of (O.box.ld (i := 0) rfl)) (PO.op (lenMT_ok O.map.r) ?_))
  refine PO.join (fun s => s.1 = (some ⟨o, 0, some 0⟩, (es.length : Int)) ∧ Ord s.2 o m (dropsI l es) ∧ UP (fun A => m = some A) h s.2) ?_ ?_
  · rw [r.len]
    refine PO.loop (fun n s => ∃ (j : Nat) (hh : H), s = ((some ⟨o, 0, some 0⟩, ((es.length : Int), (ids, ((l.length : Int), (j : Int))))), hh) ∧ j ≤ l.length ∧ n = l.length - j ∧ Ord hh o m (dropsI (l.take j) es) ∧ UP (fun A => m = some A) h hh) ?_ (l.length - 0) _ ⟨0, h, rfl, Nat.zero_le _, rfl, O, UP.refl w⟩
    rintro n _ ⟨j, hh, rfl, hj, rfl, O1, u1⟩
    unfold order_Order_Drop_l1
    dsimp only
    refine PO.condD (fun hc => ?_) (fun hc => ?_)
    · have hjl : j < l.length := by omega
      have hl0 : l ≠ [] := by intro e; subst e; simp at hjl
      have r1 : RdI .i64 hh ids l := Rd.up r u1 (hn hl0)
      refine PO.ixI r1 (by omega) (by omega) fun p hp => PO.op hp (PO.ptr (PO.op (ldM_of (O1.box.ld (i := 0) rfl)) ?_))
      rw [show ((j : Int)).toNat = j from rfl, List.getD_eq_getElem?_getD, List.getElem?_eq_getElem hjl, Option.getD_some]
      obtain ⟨h2, e2, M2, u2, z2⟩ := delT_ok u1.wf O1.map l[j]
      refine PO.op e2 (.retL ⟨_, ?_, j + 1, h2, ?_, by omega, rfl, ⟨O1.box.up u1.wf u2 O1.ne, ?_, O1.ne⟩, u1.trans u2 fun _ _ e => e⟩)
      · omega
      · rw [w64 (by omega) (by omega)]; rfl
      · rw [List.take_succ_eq_append_getElem hjl, dropsI_snoc]; exact M2
    · have : j = l.length := by omega
      subst this
      rw [List.take_length] at O1
      exact .retR ⟨rfl, O1, u1⟩
  · rintro ⟨⟨a1, a2⟩, h1⟩ ⟨e, O1, u1⟩
    simp only [Prod.mk.injEq] at e
    obtain ⟨rfl, rfl⟩ := e
    refine PO.ptr (PO.op (ldM_of (O1.box.ld (i := 0) rfl)) (PO.op (lenMT_ok O1.map.r) (.ret ⟨?_, O1, u1⟩)))
    have := dropsI_len l es
    exact w64 (by omega) (by omega)
/-- a new order -/
theorem PO.newOrd {α : Type} {Q : α → Prop} {h : H} {f : Nat → H → Option α} (w : WF h) (k : ∀ h2, EX h h2 → Ord h2 h.size none [] → PO (f h.size h2) Q) :
    PO (newO (row 35 [(.map none)]) h fun (b : Nat) (h0 : H) => bindO (Abs.stZ [.map] h0 (⟨b, 0, (some 0)⟩ : Addr) ((none) : Option Nat)) fun (h1 : H) => f b h1) Q := by
  refine PO.newB w fun h1 x1 B1 z1 w1 => ?_
  refine PO.stZ (zs := [.map]) (x := (none : Option Nat)) B1 w1 rfl rfl fun h2 B2 u2 z2 w2 => ?_
  exact k h2 (u2.ex0 x1 fun A hA e => by omega) ⟨B2, mapAt_nil h2, fun e => by cases e⟩
end Go.Proofs.YtlikepnpamejmaaGreat.T
