/- Lemmas about the typed texts (joined: SOrd4 SOrd5 SOrd6). -/
import Derived.Test.YtlikepnpamejmaaGreatG6
/- Chapter 20's example over the typed texts. -/
set_option linter.unusedVariables false
set_option linter.unusedSimpArgs false
namespace Go.Proofs.YtlikepnpamejmaaGreat.T
open Go Go.Abs Go.Proofs
open TC (cmpI ordL before)
theorem ordL_eq {es : List (Int × Int)} (hn : (es.map (·.1)).Nodup) {l : List Int} (hp : l.Perm (es.map (·.1))) (hs : l.Pairwise (before es)) : ordL es = l := by
  refine List.Perm.eq_of_pairwise (le := before es) ?_ (TC.ordL_sorted es hn) hs ((TC.ordL_perm es).trans hp.symm)
  intro a b _ _ h1 h2
  unfold before at h1 h2
  omega
theorem good_put (k v : Int) (hk : (Lit.int .i64 k).wf = true) {es : List (Int × Int)} (hn : (es.map (·.1)).Nodup) (hw : ∀ k ∈ es.map (·.1), (Lit.int .i64 k).wf = true) :
    ((putI k v es).map (·.1)).Nodup ∧ (∀ x, x ∈ (putI k v es).map (·.1) ↔ x = k ∨ x ∈ es.map (·.1)) := by
  induction es with
  | nil => exact ⟨by simp [putI], fun x => by simp [putI]⟩
  | cons p es ih =>
    obtain ⟨k', v'⟩ := p
    simp only [List.map_cons, List.nodup_cons] at hn
    obtain ⟨ih1, ih2⟩ := ih hn.2 (fun x hx => hw x (List.mem_cons_of_mem _ hx))
    unfold putI
    split
    · rename_i e; subst e
      exact ⟨by simpa using hn, fun x => by simp⟩
    · rename_i hne
      refine ⟨?_, fun x => ?_⟩
      · simp only [List.map_cons, List.nodup_cons]
        refine ⟨fun hm => ?_, ih1⟩
        rcases (ih2 k').1 hm with e | e
        · exact hne e.symm
        · exact hn.1 e
      · simp only [List.map_cons, List.mem_cons, ih2]
        constructor
        · rintro (h | h | h)
          · exact .inr (.inl h)
          · exact .inl h
          · exact .inr (.inr h)
        · rintro (h | h | h)
          · exact .inr (.inl h)
          · exact .inl h
          · exact .inr (.inr h)
theorem putI_len (k v : Int) : ∀ es : List (Int × Int), (putI k v es).length ≤ es.length + 1
  | [] => by simp [putI]
  | (k', v') :: es => by
    unfold putI
    split
    · simp
    · have := putI_len k v es; simp; omega
end Go.Proofs.YtlikepnpamejmaaGreat.T
/- Chapter 20's order over the typed texts: those that are late. -/
set_option linter.unusedVariables false
set_option linter.unusedSimpArgs false
namespace Go.Proofs.YtlikepnpamejmaaGreat.T
open Go Go.Abs Go.Proofs
open TC (cmpI ordL before)
/-- what the closure sees; all of it lies below n0 -/
structure LateEnv (h : H) (n0 : Nat) (p q : Addr) (es : List (Int × Int)) (now : Int) : Prop where
  env : ∃ o m, ldCell h p = some (.pointer (some o)) ∧ ldCell h (add o 0) = some (.map m) ∧ MapR h m es ∧ p.block < n0 ∧ o.block < n0 ∧ ∀ r, m = some r → r < n0
  now : ldCell h q = some (.int .i64 now)
  q0 : q.block < n0
  n0 : n0 ≤ h.size
theorem LateEnv.up {h h1 : H} {n0 : Nat} {p q : Addr} {es : List (Int × Int)} {now : Int} (E : LateEnv h n0 p q es now) {S : Nat → Prop} (u : UP S h h1) (hS : ∀ A, A < n0 → ¬ S A) : LateEnv h1 n0 p q es now := by
  obtain ⟨o, m, e1, e2, M, l1, l2, l3⟩ := E.env
  have := E.n0
  refine ⟨⟨o, m, u.ld (by omega) (hS _ l1) e1, u.ld (a := add o 0) (show o.block < _ by omega) (hS _ l2) e2, ⟨M.nil, fun r hr => ⟨Nat.lt_of_lt_of_le (M.at_ r hr).1 u.size, (u.same r (M.at_ r hr).1 (hS r (l3 r hr))).trans (M.at_ r hr).2⟩⟩, l1, l2, l3⟩, u.ld (by have := E.q0; omega) (hS _ E.q0) E.now, E.q0, Nat.le_trans E.n0 u.size⟩
def keepL (es : List (Int × Int)) (now : Int) (x : Int) : Bool := decide (getI x es < now)
theorem Late1_f {h : H} {p q : Addr} {es : List (Int × Int)} {now : Int} {n0 : Nat} (E : LateEnv h n0 p q es now) (id : Int) : order_Order_Late_1 id (some p) (some q) h = some (!keepL es now id, h) := by
  obtain ⟨o, m, h1, h2, M, _, _, _⟩ := E.env
  have h1 := ldP_of h1
  have h2 := ldM_of h2
  unfold order_Order_Late_1
  rw [ptrK_some, h1]
  show bindO (Abs.ldM h (add o 0)) _ = _
  rw [h2]
  show bindO (lookT _ _ _ h m id) _ = _
  rw [lookT_ok M]
  show (bindO (some (getI id es)) fun x4 => ptrK (some q) fun a2 => bindO (Abs.ldI .i64 h a2) fun x5 => some (decide (x4 ≥ x5), h)) = _
  rw [bindO_some, ptrK_some, ldI_of E.now]
  show some (decide (getI id es ≥ now), h) = _
  unfold keepL
  congr 2
  by_cases hc : getI id es < now
  · simp [hc]
  · simp [hc]; omega
theorem Index_f {h : H} {p q : Addr} {es : List (Int × Int)} {now : Int} {n0 : Nat} (E : LateEnv h n0 p q es now) {s : Sl} {zs : List Int} (r : RdI .i64 h s zs) (hz : zs.length ≤ 2 ^ 40) :
    PO (slices_IndexFunc_int_order_Order_Late_1 s (some p, some q) h) (fun (a, h') => h' = h ∧ ((a = -1 ∧ ∀ x ∈ zs, keepL es now x = true) ∨ ∃ j : Nat, a = j ∧ j < zs.length ∧ (∀ x ∈ zs.take j, keepL es now x = true) ∧ ∀ x, zs[j]? = some x → keepL es now x = false)) := by
  unfold slices_IndexFunc_int_order_Order_Late_1 P.slices_IndexFunc_int_order_Order_Late_1
  rw [r.len]
  refine PO.loop (fun n s0 => ∃ j : Nat, s0 = ((s, ((some p, some q), ((zs.length : Int), (j : Int)))), h) ∧ j ≤ zs.length ∧ n = zs.length - j ∧ ∀ x ∈ zs.take j, keepL es now x = true) ?_ (zs.length - 0) _ ⟨0, rfl, Nat.zero_le _, rfl, by simp⟩
  rintro n _ ⟨j, rfl, hj, rfl, hk⟩
  unfold P.slices_IndexFunc_int_order_Order_Late_1_l1
  dsimp only
  refine PO.condD (fun hc => ?_) (fun hc => ?_)
  · have hjl : j < zs.length := by omega
    refine PO.ixI r (by omega) (by omega) fun a ha => PO.op ha (PO.callE (Late1_f E _) ?_)
    rw [show ((j : Int)).toNat = j from rfl, List.getD_eq_getElem?_getD, List.getElem?_eq_getElem hjl, Option.getD_some]
    refine PO.condN (fun hb => .retR ⟨rfl, .inr ⟨j, rfl, hjl, hk, fun x hx => by rw [List.getElem?_eq_getElem hjl] at hx; cases hx; exact hb⟩⟩) (fun hb => .retL ⟨_, ?_, j + 1, ?_, by omega, rfl, ?_⟩)
    · omega
    · rw [w64 (by omega) (by omega)]; rfl
    · intro x hx
      rw [List.take_succ_eq_append_getElem hjl, List.mem_append] at hx
      rcases hx with hx | hx
      · exact hk x hx
      · simp at hx; subst hx; exact hb
  · have : j = zs.length := by omega
    subst this
    rw [List.take_length] at hk
    exact .retR ⟨rfl, .inl ⟨rfl, hk⟩⟩
theorem Delete_f {h : H} (w : WF h) {n0 : Nat} {p q : Addr} {es : List (Int × Int)} {now : Int} (E : LateEnv h n0 p q es now) {s : Sl} {zs : List Int} (O : OwnS 1 h s (zs.map (.int .i64))) (hz : zs.length ≤ 2 ^ 40) (fr : Fr n0 s) :
    PO (slices_DeleteFunc_int_order_Order_Late_1 s (some p, some q) h) (fun (s', h') => UP (fun A => n0 ≤ A) h h' ∧ RdI .i64 h' s' (zs.filter (keepL es now)) ∧ Fr n0 s') := by
  have hnS : ∀ (A : Nat), A < n0 → ¬ (∃ a, s.base = some a ∧ A = a.block) := fun A hA ⟨a, ha, e⟩ => by have := fr a ha; omega
  have hSn : ∀ {h1 : H}, UP (fun A => ∃ a, s.base = some a ∧ A = a.block) h h1 → UP (fun A => n0 ≤ A) h h1 := fun u => u.mono fun A _ ⟨a, ha, e⟩ => by have := fr a ha; omega
  unfold slices_DeleteFunc_int_order_Order_Late_1 P.slices_DeleteFunc_int_order_Order_Late_1
  refine PO.call (Index_f E O.rd hz) ?_
  rintro a h1 ⟨e1, ha⟩
  have e1 := e1.symm
  subst e1
  refine PO.condE (fun h0 => ?_) (fun hne => ?_)
  · refine .ret ⟨UP.refl w, ?_, fr⟩
    rcases ha with ⟨_, ha⟩ | ⟨j, rfl, hj, _⟩
    · rw [List.filter_eq_self.2 ha]; exact O.rd
    · omega
  · obtain ⟨j0, rfl, hj0, hk0, hf0⟩ : ∃ j : Nat, a = j ∧ j < zs.length ∧ (∀ x ∈ zs.take j, keepL es now x = true) ∧ ∀ x, zs[j]? = some x → keepL es now x = false := by
      rcases ha with ⟨e, _⟩ | h
      · exact absurd e hne
      · exact h
    have hlen : s.len = zs.length := by have := O.rd.len; simpa using this.symm
    rw [w64 (n := (j0 : Int) + 1) (by omega) (by omega)]
    refine PO.join (fun st => st.1.1 = s ∧ ∃ (j : Nat) (L : List Int), st.1.2 = (j : Int) ∧ OwnS 1 st.2 s (L.map (.int .i64)) ∧ L.length = zs.length ∧ j ≤ zs.length ∧ L.take j = zs.filter (keepL es now) ∧ UP (fun A => ∃ a, s.base = some a ∧ A = a.block) h st.2) ?_ ?_
    · refine PO.loop (fun n st => ∃ (j v : Nat) (L : List Int) (hh : H), st = ((s, ((some p, some q), ((j : Int), (v : Int)))), hh) ∧ n = zs.length - v ∧ j ≤ v ∧ v ≤ zs.length ∧ L.length = zs.length ∧ OwnS 1 hh s (L.map (.int .i64)) ∧ L.take j = (zs.take v).filter (keepL es now) ∧ L.drop v = zs.drop v ∧ UP (fun A => ∃ a, s.base = some a ∧ A = a.block) h hh) ?_ (zs.length - (j0 + 1)) _ ⟨j0, j0 + 1, zs, h, by simp, rfl, by omega, by omega, rfl, O, ?_, rfl, UP.refl w⟩
      · rintro n _ ⟨j, v, L, hh, rfl, rfl, hjv, hv, hL, O1, ht, hd, u1⟩
        unfold P.slices_DeleteFunc_int_order_Order_Late_1_l1
        dsimp only
        have r1 : RdI .i64 hh s L := O1.rd
        refine PO.condD (fun hc => ?_) (fun hc => ?_)
        · rw [hlen] at hc
          have hvl : v < L.length := by omega
          have hvz : v < zs.length := by omega
          have hLv : L[v] = zs[v] := by
            have h1 : (L.drop v)[0]? = some L[v] := by rw [List.getElem?_drop, Nat.add_zero, List.getElem?_eq_getElem hvl]
            rw [hd, List.getElem?_drop, Nat.add_zero, List.getElem?_eq_getElem hvz] at h1
            exact (Option.some.inj h1).symm
          have hdd : L.drop (v + 1) = zs.drop (v + 1) := by
            rw [← List.drop_drop, ← List.drop_drop, hd]
          have htk : zs.take (v + 1) = zs.take v ++ [zs[v]] := List.take_succ_eq_append_getElem hvz
          refine PO.joinD ?_
          refine PO.ixI r1 (by omega) (by omega) fun a ha => PO.op ha (PO.callE (Late1_f (E.up u1 hnS) _) ?_)
          rw [show ((v : Int)).toNat = v from rfl, List.getD_eq_getElem?_getD, List.getElem?_eq_getElem hvl, Option.getD_some, hLv]
          have ws : IntKind.wrap .i64 ((v : Int) + 1) = ((v + 1 : Nat) : Int) := by rw [w64 (by omega) (by omega)]; rfl
          refine PO.condN (fun hb => ?_) (fun hb => ?_)
          · have hb' : keepL es now zs[v] = true := by simpa using hb
            obtain ⟨a2, ha2, e2, _⟩ := r1.at (i := (j : Int)) (by omega) (by omega)
            rw [show ((j : Int)).toNat = j from rfl] at e2
            obtain ⟨h3, e3, O3, u3, z3⟩ := O1.stC u1.wf ha2 j [.int .i64 zs[v]] (by simp; omega) rfl
            refine PO.op e2 (PO.op e3 (.retL (.retL ⟨_, ?_, j + 1, v + 1, L.take j ++ [zs[v]] ++ L.drop (j + 1), h3, ?_, rfl, by omega, by omega, by simp; omega, ?_, ?_, ?_, u1.trans u3 fun A _ e => ⟨a2, ha2, e⟩⟩)))
            · omega
            · rw [ws, w64 (n := (j : Int) + 1) (by omega) (by omega)]; rfl
            · simpa [List.map_append, List.map_take, List.map_drop] using O3
            · rw [htk, List.filter_append, List.take_left' (by simp; omega), ht]
              simp [hb']
            · rw [List.drop_append, List.drop_eq_nil_of_le (by simp; omega), List.nil_append, List.drop_drop, ← hdd]
              congr 1
              have e5 : (L.take j ++ [zs[v]]).length = j + 1 := by simp; omega
              rw [e5]; omega
          · have hb' : keepL es now zs[v] = false := by simpa using hb
            refine .retL (.retL ⟨_, ?_, j, v + 1, L, hh, ?_, rfl, by omega, by omega, hL, O1, ?_, hdd, u1⟩)
            · omega
            · rw [ws]
            · rw [htk, List.filter_append, ht]; simp [hb']
        · have : v = zs.length := by rw [hlen] at hc; omega
          subst this
          rw [List.take_length] at ht
          exact .retR ⟨rfl, j, L, rfl, O1, hL, hjv, ht, u1⟩
      · rw [List.take_succ_eq_append_getElem hj0, List.filter_append, List.filter_eq_self.2 hk0]
        simp [hf0 _ (List.getElem?_eq_getElem hj0)]
    · rintro ⟨⟨s1, a1⟩, h2⟩ ⟨e1, j, L, e2, O2, hL, hj, ht, u2⟩
      dsimp only at e1 e2 O2 u2
      subst e1
      subst e2
      have hj2 : j ≤ s1.len := by omega
      obtain ⟨s2, e2, r2, l2, v2, _⟩ := sl_lo (sz := 1) (by omega) (by unfold B63; omega) O2.rd (lo := (j : Int)) (by omega) (by omega)
      refine PO.op e2 ?_
      have hclr : ∃ h3, clrT 1 (.int .i64 0) h2 s2 = some h3 ∧ OwnS 1 h3 s1 ((L.take j ++ List.replicate (zs.length - j) 0).map (.int .i64)) ∧ UP (fun A => ∃ a, s1.base = some a ∧ A = a.block) h2 h3 := by
        have hz0 : zeros (.int .i64 0) (zs.length - j) = (List.replicate (zs.length - j) (0 : Int)).map (.int .i64) := by
          rw [List.map_replicate]
          generalize zs.length - j = k
          induction k with
          | zero => rfl
          | succ k ih => show Value.int .i64 0 :: zeros (.int .i64 0) k = _; rw [ih]; rfl
        have hcl : ∀ (b : Addr) (l c : Nat), clrT 1 (.int .i64 0) h2 ⟨some b, l, c⟩ = stCells h2 b (zeros (.int .i64 0) l) := fun b l c => rfl
        cases hb : s1.base with
        | none =>
          obtain ⟨g1, g2⟩ := O2.rd.nilOf hb
          have hL0 : L = [] := by simpa using g1
          subst hL0
          have hz0' : zs.length = 0 := by simpa using hL.symm
          have hj0' : j = 0 := by omega
          subst hj0'
          rw [g2] at v2
          subst v2
          refine ⟨h2, rfl, ?_, UP.refl u2.wf⟩
          rw [hz0']
          exact O2
        | some b =>
          by_cases hjl : j = zs.length
          · have hz1 : zs.length - j = 0 := by omega
            refine ⟨h2, ?_, ?_, UP.refl u2.wf⟩
            · obtain ⟨b2, l2', c2⟩ := s2
              simp only at l2
              have : l2' = 0 := by omega
              subst this
              cases b2 with
              | none =>
                have := r2.nilOf rfl
                simp only [Sl.mk.injEq] at this
                obtain ⟨_, _, _, rfl⟩ := this
                rfl
              | some b2 => rfl
            · rw [hz1, List.replicate_zero, List.append_nil, List.take_of_length_le (by omega)]
              exact O2
          · have hsb : s2 = ⟨some (add b (j * 1)), zs.length - j, s2.cap⟩ := by
              have hcap := O2.rd.cap (by rw [hb]; simp)
              unfold CapOK at hcap
              have hjn : j ≠ s1.len := by omega
              rw [v2]
              unfold slV
              rw [hb]
              simp only [Int.toNat_natCast]
              cases hk : capK s1.cap with
              | exact k =>
                rw [hk] at hcap
                simp only at hcap ⊢
                rw [nbeq_f (by omega)]
                simp only [cond_false, hlen]
              | unk z =>
                simp only
                by_cases hj0 : j = 0
                · subst hj0; simp [addA_zero, hlen]
                · rw [nbeq_f hj0, nbeq_f (Ne.symm hjn)]
                  simp only [cond_false, hlen]
              | unk0 z => rw [hk] at hcap; simp only at hcap; omega
              | any => simp only [hlen]
            obtain ⟨h3, g1, g2, g3, _⟩ := O2.stC u2.wf hb j (zeros (.int .i64 0) (zs.length - j)) (by rw [hz0]; simp; omega) (by rw [hz0]; simp [oneC])
            refine ⟨h3, ?_, ?_, g3.mono fun A _ e => ⟨b, rfl, e⟩⟩
            · rw [hsb, hcl, Nat.mul_one]; exact g1
            · rw [hz0] at g2
              have e6 : (L.map (Value.int .i64)).drop (j + ((List.replicate (zs.length - j) (0 : Int)).map (Value.int .i64)).length) = [] := List.drop_eq_nil_of_le (by simp; omega)
              rw [e6, List.append_nil, ← List.map_take, ← List.map_append] at g2
              exact g2
      obtain ⟨h3, e3, O3, u3⟩ := hclr
      refine PO.op e3 ?_
      obtain ⟨s3, e4, r4, l4, v4, f4⟩ := sl_hi (sz := 1) (by omega) (by unfold B63; omega) O3.rd (hi := (j : Int)) (by omega) (by omega)
      refine PO.op e4 (.ret ⟨hSn (u2.trans u3 fun A _ e => e), ?_, f4 n0 fr⟩)
      have : ((L.take j ++ List.replicate (zs.length - j) 0).map (Value.int .i64)).take (((j : Int)).toNat * 1) = (zs.filter (keepL es now)).map (.int .i64) := by
        rw [← List.map_take, show ((j : Int)).toNat * 1 = j by simp, List.take_left' (by simp; omega), ht]
      rw [this] at r4
      exact r4
end Go.Proofs.YtlikepnpamejmaaGreat.T
/- Chapter 20: Late; the closed law OrderKnown over the typed texts. -/
set_option linter.unusedVariables false
set_option linter.unusedSimpArgs false
namespace Go.Proofs.YtlikepnpamejmaaGreat.T
open Go Go.Abs Go.Proofs
open TC (cmpI ordL before)
theorem clipR_I {h : H} {s : Sl} {l : List Int} (r : RdI .i64 h s l) (hl : l.length ≤ 2 ^ 40) : ∃ s', slices_Clip_int s h = some (s', h) ∧ RdI .i64 h s' l ∧ s'.len = l.length ∧ s'.base = s.base := by
  have hlen : s.len = l.length := r.len
  obtain ⟨s', e, r', h1, h2⟩ := clip_base (sz := 1) (by omega) (by unfold B63; omega) r (by rw [hlen]; unfold B63; omega)
  refine ⟨s', ?_, r', h1.trans hlen, h2⟩
  unfold slices_Clip_int
  rw [e]; rfl
theorem Late_f {h : H} (w : WF h) (hst : h.st = false) {o : Nat} {m : Option Nat} {es : List (Int × Int)} (O : Ord h o m es) (G : OGood es) (now : Int) :
    PO (order_Order_Late (some ⟨o, 0, some 0⟩) now h) (fun (s, h') => EX h h' ∧ RdI .i64 h' s ((ordL es).filter (keepL es now)) ∧ Fr h.size s) := by
  unfold order_Order_Late P.order_Order_Late
  refine PO.newB w fun h1 x1 B1 z1 w1 => PO.newB w1 fun h2 x2 B2 z2 w2 => ?_
  have B1' := B1.kx x2
  have O2 := (O.ex x1).ex x2
  refine PO.ldP0 B1' rfl ?_
  refine PO.call (All_f w2 ((x1.trans x2).st.trans hst) O2 G) ?_
  rintro s h3 ⟨x3, r3, l3, o3, f3⟩
  have O3 := O2.ex x3
  have ol := O.box.blt
  have E : LateEnv h3 h2.size ⟨h.size, 0, some 0⟩ ⟨h1.size, 0, some 0⟩ es now := by
    refine ⟨⟨⟨o, 0, some 0⟩, m, (B1'.kx x3).ld0 rfl, O3.box.ld rfl, O3.map.r, show h.size < _ by omega, show o < _ by omega, fun r hr => ?_⟩, (B2.kx x3).ld0 rfl, show h1.size < _ by omega, x3.size⟩
    have := (O2.map.at_ r hr).2.1
    exact this
  have hl : (ordL es).length = es.length := by simpa using (TC.ordL_perm es).length_eq
  refine PO.call (Delete_f x3.wf E o3 (by rw [hl]; have := G.len; omega) f3) ?_
  rintro s4 h4 ⟨u4, r4, f4⟩
  have x4 : EX h h4 := u4.ex0 ((x1.trans x2).trans x3) fun A hA e => by have := (x1.trans x2).size; omega
  obtain ⟨s5, e5, r5, _, b5⟩ := clipR_I r4 (by have := List.length_filter_le (keepL es now) (ordL es); have := G.len; omega)
  rw [e5, bind2_some]
  refine .ret ⟨x4, r5, fun a ha => ?_⟩
  have := f4 a (by rw [← b5]; exact ha)
  have := (x1.trans x2).size
  omega
end Go.Proofs.YtlikepnpamejmaaGreat.T
