/- Lemmas about the typed texts (joined: SRead1 SRead2 SRead3). -/
import Derived.Test.YthiccnmplgdheaaG15
/- Chapter 5's reader over the typed texts: fail, take, flag, data. -/
set_option linter.unusedVariables false
set_option linter.unusedSimpArgs false
namespace Go.Proofs.Ythiccnmplgdheaa.T
open Go Go.Abs Go.Proofs
theorem tk_ok (l : List UInt8) : okN (tk l).1 := by
  cases l with
  | nil => exact ok0
  | cons b t =>
    simp only [tk]
    split
    · exact ok0
    · rename_i hlt
      have hb := b.toNat_lt
      obtain ⟨_, h1, h2⟩ := tsz_shl b
      have hlen : (t.take (tsz b - 1)).length ≤ 7 := by simp; omega
      have := val_lt (t.take (tsz b - 1)) (b.toNat % 64) 64 (by omega)
      have h3 : (256 : Nat) ^ (t.take (tsz b - 1)).length ≤ 256 ^ 7 := Nat.pow_le_pow_right (by omega) hlen
      have h4 : 64 * (256 : Nat) ^ 7 = 4611686018427387904 := by decide
      unfold okN
      simp only
      omega
/-! what a reader is at: an error, or bytes -/
abbrev RSt := Int ⊕ List UInt8
abbrev RP (α : Type) := List UInt8 → Int ⊕ (α × List UInt8)
def RdrS (h : H) (b : Nat) (l : List UInt8) (e : Int) : Prop := ∃ s, Box h b [encSl s, .int .i64 e] ∧ RdB h s l
def RdrA (h : H) (b : Nat) : RSt → Prop
  | .inl e => e ≠ 0 ∧ ∃ l, l.length ≤ 2 ^ 47 ∧ RdrS h b l e
  | .inr l => l.length ≤ 2 ^ 47 ∧ RdrS h b l 0
def stp {α : Type} (st : RSt) (p : RP α) : Int ⊕ (α × List UInt8) := match st with
  | .inl e => .inl e
  | .inr l => p l
def stO {α : Type} : Int ⊕ (α × List UInt8) → RSt
  | .inl e => .inl e
  | .inr (_, l) => .inr l
def isV {α : Type} (r : Int ⊕ (α × List UInt8)) (a : α) : Prop := ∀ x l, r = .inr (x, l) → x = a
def pT (n : Nat) : RP (List Int) := fun l => match tks n l with
  | some (ns, r) => .inr (ns, r)
  | none => .inl 3
theorem noU8_rdr (s : Sl) (e : Int) : ∀ v ∈ ([encSl s, .int .i64 e] : List Value), ∀ n, v ≠ .int .u8 n := by
  intro v hv n
  simp only [List.mem_cons, List.not_mem_nil, or_false] at hv
  rcases hv with rfl | rfl
  · simp [encSl]
  · simp
theorem RdrS.up {h h' : H} {b t : Nat} {l : List UInt8} {e : Int} {L : List Value} (w : WF h) (r : RdrS h b l e) (T : Box h t L) (hn : ∀ v ∈ L, ∀ n, v ≠ .int .u8 n) (ne : ¬ b = t) (u : UP (· = t) h h') : RdrS h' b l e := by
  obtain ⟨s, B, rd⟩ := r
  exact ⟨s, Box.ku u ne B, RdB.kbox w T u hn rd⟩
theorem RdrA.up {h h' : H} {b t : Nat} {st : RSt} {L : List Value} (w : WF h) (r : RdrA h b st) (T : Box h t L) (hn : ∀ v ∈ L, ∀ n, v ≠ .int .u8 n) (ne : ¬ b = t) (u : UP (· = t) h h') : RdrA h' b st := by
  cases st with
  | inl e => obtain ⟨h1, l, h2, h3⟩ := r; exact ⟨h1, l, h2, h3.up w T hn ne u⟩
  | inr l => exact ⟨r.1, r.2.up w T hn ne u⟩
theorem RdrS.ex {h h' : H} {b : Nat} {l : List UInt8} {e : Int} (x : EX h h') (r : RdrS h b l e) : RdrS h' b l e := by
  obtain ⟨s, B, rd⟩ := r
  exact ⟨s, Box.kx x B, rd.ex x⟩
theorem RdrA.ex {h h' : H} {b : Nat} {st : RSt} (x : EX h h') (r : RdrA h b st) : RdrA h' b st := by
  cases st with
  | inl e => obtain ⟨h1, l, h2, h3⟩ := r; exact ⟨h1, l, h2, h3.ex x⟩
  | inr l => exact ⟨r.1, r.2.ex x⟩
def failS (e : Int) : RSt → RSt
  | .inl e' => .inl e'
  | .inr _ => .inl e
theorem failB_f {h : H} {b : Nat} {s : Sl} {e0 : Int} (w : WF h) (B : Box h b [encSl s, .int .i64 e0]) (e : Int) : PO (frame_reader_fail (some ⟨b, 0, some 0⟩) e h) (fun (_, h1) => Box h1 b [encSl s, .int .i64 (if e0 = 0 then e else e0)] ∧ UP (· = b) h h1) := by
  unfold frame_reader_fail
  refine .ptr (.ldI B rfl (.condE (fun c => .ptr (PO.st1 B w (by simp) rfl fun h1 B1 u1 z1 w1 => .ret ⟨?_, u1⟩)) (fun c => .ret ⟨?_, UP.refl w⟩)))
  · have c' : e0 = 0 := c
    rw [if_pos c']; exact B1
  · have c' : ¬ e0 = 0 := c
    rw [if_neg c']; exact B
theorem fail_f {h : H} {b : Nat} {st : RSt} (w : WF h) (r : RdrA h b st) {e : Int} (he : e ≠ 0) : PO (frame_reader_fail (some ⟨b, 0, some 0⟩) e h) (fun (_, h1) => RdrA h1 b (failS e st) ∧ UP (· = b) h h1) := by
  have key : ∀ (s : Sl) (l : List UInt8) (e0 : Int), l.length ≤ 2 ^ 47 → Box h b [encSl s, .int .i64 e0] → RdB h s l → PO (frame_reader_fail (some ⟨b, 0, some 0⟩) e h) (fun (_, h1) => RdrA h1 b (.inl (if e0 = 0 then e else e0)) ∧ UP (· = b) h h1) := by
    intro s l e0 hl B rd
    refine PO.mono (failB_f w B e) fun (_, h1) ⟨B1, u⟩ => ⟨⟨by split <;> assumption, l, hl, s, B1, RdB.kbox w B u (noU8_rdr s e0) rd⟩, u⟩
  cases st with
  | inl e0 =>
    obtain ⟨h1, l, h2, s, B, rd⟩ := r
    have := key s l e0 h2 B rd
    rw [if_neg h1] at this
    exact this
  | inr l =>
    obtain ⟨h2, s, B, rd⟩ := r
    have := key s l 0 h2 B rd
    rw [if_pos rfl] at this
    exact this
/-! numbers taken into places of a row -/
def setAll : List Value → List Nat → List Int → List Value
  | L, k :: ks, n :: ns => setAll (L.set k (.int .i64 n)) ks ns
  | L, _, _ => L
def IntAt (L : List Value) (k : Nat) : Prop := ∃ n, L[k]? = some (.int .i64 n) ∧ okN n
theorem IntAt.set {L : List Value} {k j : Nat} {n : Int} (h : IntAt L j) (hn : okN n) (hk : k < L.length) : IntAt (L.set k (.int .i64 n)) j := by
  obtain ⟨m, h1, h2⟩ := h
  by_cases e : k = j
  · subst e; exact ⟨n, by rw [List.getElem?_set_self hk], hn⟩
  · exact ⟨m, by rw [List.getElem?_set_ne e]; exact h1, h2⟩
theorem setAll_self : ∀ (ks : List Nat) (L : List Value), (∀ k ∈ ks, IntAt L k) → ∃ ns, ns.length = ks.length ∧ (∀ n ∈ ns, okN n) ∧ setAll L ks ns = L
  | [], L, _ => ⟨[], rfl, by simp, rfl⟩
  | k :: ks, L, h => by
    obtain ⟨n, h1, h2⟩ := h k (by simp)
    obtain ⟨ns, h3, h4, h5⟩ := setAll_self ks L fun j hj => h j (by simp [hj])
    have hset : L.set k (.int .i64 n) = L := by
      obtain ⟨hk, he⟩ := List.getElem?_eq_some_iff.1 h1
      rw [← he, List.set_getElem_self]
    exact ⟨n :: ns, by simp [h3], by simp only [List.mem_cons, forall_eq_or_imp]; exact ⟨h2, h4⟩, by simp only [setAll]; rw [hset]; exact h5⟩
theorem setAll_length : ∀ (ks : List Nat) (L : List Value) (ns : List Int), (setAll L ks ns).length = L.length
  | [], L, ns => by simp [setAll]
  | k :: ks, L, [] => by simp [setAll]
  | k :: ks, L, n :: ns => by simp only [setAll]; rw [setAll_length ks]; simp
def noU8 (L : List Value) : Prop := ∀ v ∈ L, ∀ n, v ≠ .int .u8 n
theorem noU8.set {L : List Value} (h : noU8 L) (k : Nat) (n : Int) : noU8 (L.set k (.int .i64 n)) := by
  intro v hv m
  rcases List.mem_or_eq_of_mem_set hv with hv | rfl
  · exact h v hv m
  · simp
theorem PO.ixP {α : Type} {Q : α → Prop} {h : H} {p n : Nat} {ps : List (Option Addr)} {i : Int} {g : Addr → Option α} (P : Box h p (ps.map .pointer)) (w : WF h) (hn : ps.length = n) (hb : n < B63) (h0 : 0 ≤ i) (h1 : i < n) (k : ∀ a, Abs.ldP h a = some (ps.getD i.toNat none) → PO (g a) Q) : PO (bindO (ixT 1 ⟨some ⟨p, 0, some 0⟩, n, n⟩ i) g) Q := by
  have r : Rd 1 h ⟨some ⟨p, 0, some 0⟩, n, n⟩ (ps.map .pointer) := P.rd w (by simp; exact hn) (capOk_self _ _ hb)
  obtain ⟨a, ha, e⟩ := ixT_ok r h0 h1
  have hlt : i.toNat < ps.length := by omega
  refine .op e (k _ (ldP_of ?_))
  have := (r.ld a ha (i.toNat * 1) (.pointer (ps.getD i.toNat none)) (by
    rw [Nat.mul_one, List.getElem?_map, List.getD_eq_getElem?_getD, List.getElem?_eq_getElem hlt]; rfl)).2
  exact this
theorem PO.loop1 {σ α : Type} {Q : α → Prop} {step : σ → Option (σ ⊕ α)} {s : σ} (k : PO (step s) (Sum.elim (fun s' => PO (loopO step s') Q) Q)) : PO (loopO step s) Q := by
  obtain ⟨b, e, hb⟩ := k
  cases b with
  | inl s' =>
    obtain ⟨r, e2, h2⟩ := hb
    exact ⟨r, by rw [loopO_eq, e]; exact e2, h2⟩
  | inr r => exact ⟨r, by rw [loopO_eq, e], hb⟩
theorem pT_succ (m : Nat) (l : List UInt8) : pT (m + 1) l = if (tk l).2.2 = 0 then (match pT m (tk l).2.1 with
  | .inl e => .inl e
  | .inr (ns, r) => .inr ((tk l).1 :: ns, r)) else .inl 3 := by
  unfold pT
  simp only [tks]
  split
  · rename_i h
    split at h
    · rename_i h0
      simp only [Option.map_eq_some_iff] at h
      obtain ⟨p, h1, h2⟩ := h
      rw [if_pos h0, h1]
      simp only [Prod.mk.injEq] at h2
      rw [← h2.1, ← h2.2]
    · simp at h
  · rename_i h
    split at h
    · rename_i h0
      rw [Option.map_eq_none_iff] at h
      rw [if_pos h0, h]
    · rename_i h0
      rw [if_neg h0]
theorem take_f {b t p n : Nat} (hbt : ¬ b = t) (hpb : ¬ p = b) (hpt : ¬ p = t) (ks0 : List Nat) (hn : ks0.length = n) (hn9 : n ≤ 9) : ∀ (m i : Nat) (h : H) (L : List Value) (st : RSt), m + i = n → WF h → RdrA h b st → Box h t L → noU8 L → (∀ k ∈ ks0, IntAt L k) →
    Box h p ((ks0.map fun k => some (⟨t, 0 + k, some 0⟩ : Addr)).map .pointer) →
    PO (loopO frame_reader_take_l1 ((some ⟨b, 0, some 0⟩, ((⟨some ⟨p, 0, some 0⟩, n, n⟩ : Sl), ((n : Int), (i : Int)))), h)) (fun (_, h1) => ∃ ns, ns.length = m ∧ (∀ x ∈ ns, okN x) ∧ Box h1 t (setAll L (ks0.drop i) ns) ∧ RdrA h1 b (stO (stp st (pT m))) ∧ isV (stp st (pT m)) ns ∧ UP (fun A => A = b ∨ A = t) h h1)
  | 0, i, h, L, st, hm, w, R, T, hL, hI, Pb => by
    refine PO.loop1 ?_
    unfold frame_reader_take_l1 P.frame_reader_take_l1
    have : i = ks0.length := by omega
    subst this
    refine .condD (fun c => ?_) (fun c => .retR ⟨[], rfl, by simp, by rw [List.drop_length]; exact T, ?_, ?_, UP.refl w⟩)
    · have c' : (ks0.length : Int) < (n : Int) := c
      omega
    · cases st with
      | inl e => exact R
      | inr l => exact R
    · intro x l e
      cases st with
      | inl e' => simp [stp] at e
      | inr l' => simp [stp, pT, tks] at e; exact e.1
  | m + 1, i, h, L, st, hm, w, R, T, hL, hI, Pb => by
    refine PO.loop1 ?_
    unfold frame_reader_take_l1 P.frame_reader_take_l1
    have hik : i < ks0.length := by omega
    have hd : ks0.drop i = ks0.getD i 0 :: ks0.drop (i + 1) := by
      rw [List.drop_eq_getElem_cons hik]; simp [List.getD, hik]
    have hkm := getD_mem ks0 0 hik
    refine .condD (fun _ => ?_) (fun c => ?_)
    · refine PO.ixP Pb w (by simp; exact hn) (by unfold B63; omega) (by omega) (by omega) fun a ea => .op ea ?_
      have eg : (ks0.map fun k => some (⟨t, 0 + k, some 0⟩ : Addr)).getD (i : Int).toNat none = some ⟨t, 0 + ks0.getD i 0, some 0⟩ := by
        rw [Int.toNat_natCast, List.getD_eq_getElem?_getD, List.getElem?_map, List.getD_eq_getElem?_getD, List.getElem?_eq_getElem hik]; rfl
      rw [eg]
      generalize ks0.getD i 0 = k at *
      obtain ⟨n0, hk0, hk1⟩ := hI k hkm
      have hkl : k < L.length := (List.getElem?_eq_some_iff.1 hk0).1
      cases st with
      | inl e =>
        obtain ⟨he, l, hl, s, B, rd⟩ := R
        obtain ⟨ns, g1, g2, g3⟩ := setAll_self (k :: ks0.drop (i + 1)) L (fun j hj => hI j (by rw [← hd] at hj; exact List.mem_of_mem_drop hj))
        refine .ptr (.ldI B rfl (.condNE (fun _ => .retR ⟨ns, ?_, g2, ?_, ⟨he, l, hl, s, B, rd⟩, fun x l e => by simp [stp] at e, UP.refl w⟩) (fun hc => absurd hc he)))
        · rw [g1, ← hd]; simp; omega
        · rw [hd, g3]; exact T
      | inr l =>
        obtain ⟨hl, s, B, rd⟩ := R
        refine .ptr (.ldI B rfl (.condNE (fun hc => absurd rfl hc) (fun _ => .ptr (.ldL B rfl ?_))))
        obtain ⟨r', h1, e1, x1, rd1⟩ := Take_f w rd hl
        have B1 := Box.kx x1 B
        have T1 := Box.kx x1 T
        have P1 := Box.kx x1 Pb
        refine .callE e1 (PO.call (failB_f x1.wf B1 _) fun _ h2 ⟨B2, u2⟩ => ?_)
        have T2 := Box.ku u2 (fun e => hbt e.symm) T1
        have P2 := Box.ku u2 hpb P1
        have rd2 := RdB.kbox x1.wf B1 u2 (noU8_rdr _ _) rd1
        have hsz : h.size ≤ h2.size := Nat.le_trans x1.size u2.size
        refine .ptr (PO.st1 (i := k) (b := t) T2 u2.wf hkl rfl fun h3 T3 u3 z3 w3 => .ptr ?_)
        have B3 := Box.ku u3 hbt B2
        have P3 := Box.ku u3 hpt P2
        have rd3 := RdB.kbox u2.wf T2 u3 hL rd2
        refine PO.st1 B3 w3 (by simp) rfl fun h4 B4 u4 z4 w4 => .retL ?_
        have T4 := Box.ku u4 (fun e => hbt e.symm) T3
        have P4 := Box.ku u4 hpb P3
        have rd4 := RdB.kbox w3 B3 u4 (noU8_rdr _ _) rd3
        have B4' : Box h4 b [encSl r', .int .i64 (if (0 : Int) = 0 then (tk l).2.2 else 0)] := B4
        rw [if_pos rfl] at B4'
        have hr4 := tk_rest l
        have R4 : RdrA h4 b (if (tk l).2.2 = 0 then .inr (tk l).2.1 else .inl (tk l).2.2) := by
          split
          · rename_i h0
            rw [h0] at B4'
            exact ⟨by omega, r', B4', rd4⟩
          · rename_i h0
            exact ⟨h0, _, by omega, r', B4', rd4⟩
        have hwi : IntKind.wrap .i64 ((i : Int) + 1) = ((i + 1 : Nat) : Int) := by rw [w64 (by omega) (by omega)]; rfl
        show PO (loopO frame_reader_take_l1 (((some ⟨b, 0, some 0⟩ : Option Addr), ((⟨some ⟨p, 0, some 0⟩, n, n⟩ : Sl), ((n : Int), IntKind.wrap .i64 ((i : Int) + 1)))), h4)) _
        rw [hwi]
        have ih := take_f hbt hpb hpt ks0 hn hn9 m (i + 1) h4 (L.set k (.int .i64 (tk l).1)) _ (by omega) w4 R4 T4 (hL.set k _) (fun j hj => (hI j hj).set (tk_ok l) hkl) P4
        have U4 : UP (fun A => A = b ∨ A = t) h h4 := ((x1.trans_up (u2.mono (T := fun A => A = b ∨ A = t) fun A _ e => .inl e)).trans u3 (fun A _ e => .inr e)).trans u4 (fun A _ e => .inl e)
        refine PO.mono ih fun (_, h5) ⟨ns, g1, g2, g3, g4, g5, g6⟩ => ⟨(tk l).1 :: ns, by simp [g1], ?_, ?_, ?_, ?_, U4.trans g6 (fun A _ e => e)⟩
        · simp only [List.mem_cons, forall_eq_or_imp]; exact ⟨tk_ok l, g2⟩
        · rw [hd]; exact g3
        · rw [show stp (.inr l) (pT (m + 1)) = pT (m + 1) l from rfl, pT_succ]
          rcases tk_err l with h0 | h0
          · rw [h0, if_pos rfl] at g4 ⊢
            rw [show stp (.inr (tk l).2.1) (pT m) = pT m (tk l).2.1 from rfl] at g4
            cases hp : pT m (tk l).2.1 with
            | inl e => rw [hp] at g4; exact g4
            | inr q => rw [hp] at g4; exact g4
          · rw [h0, if_neg (by decide)] at g4 ⊢
            exact g4
        · intro x r e
          rw [show stp (.inr l) (pT (m + 1)) = pT (m + 1) l from rfl, pT_succ] at e
          rcases tk_err l with h0 | h0
          · rw [h0, if_pos rfl] at e g5
            rw [show stp (.inr (tk l).2.1) (pT m) = pT m (tk l).2.1 from rfl] at g5
            cases hp : pT m (tk l).2.1 with
            | inl e' => rw [hp] at e; simp at e
            | inr q =>
              rw [hp] at e g5
              simp only [Sum.inr.injEq, Prod.mk.injEq] at e
              have := g5 q.1 q.2 rfl
              rw [← e.1, this]
          · rw [h0, if_neg (by decide)] at e
            simp at e
    · have c' : ¬ (i : Int) < (n : Int) := c
      omega
/-- one number, taken into a place of a row -/
theorem PO.take1 {α : Type} {Q : α → Prop} {h : H} {b t k : Nat} {L : List Value} {st : RSt} {g : Unit → H → Option α} (w : WF h) (R : RdrA h b st) (T : Box h t L) (hL : noU8 L) (hI : IntAt L k) (hbt : ¬ b = t) (hb : b < h.size)
    (p : ∀ n h1, okN n → Box h1 t (L.set k (.int .i64 n)) → RdrA h1 b (stO (stp st (pT 1))) → isV (stp st (pT 1)) [n] → UP (fun A => A = b ∨ A = t) h h1 → PO (g () h1) Q) :
    PO (newO (row 171 [.pointer (some ⟨t, 0 + k, some 0⟩)]) h fun q h2 => bind2 (frame_reader_take (some ⟨b, 0, some 0⟩) ⟨some ⟨q, 0, some 0⟩, 1, 1⟩ h2) g) Q := by
  refine PO.newB w fun h2 x2 B2 z2 w2 => ?_
  have hT := T.blt
  refine PO.call (take_f (n := 1) hbt (by omega) (by omega) [k] rfl (by omega) 1 0 h2 L st rfl w2 (R.ex x2) (Box.kx x2 T) hL (fun j hj => by simp at hj; subst hj; exact hI) B2) fun _ h1 ⟨ns, g1, g2, g3, g4, g5, g6⟩ => ?_
  obtain ⟨n, rfl⟩ : ∃ n, ns = [n] := by
    match ns, g1 with
    | [n], _ => exact ⟨n, rfl⟩
  exact p n h1 (g2 n (by simp)) g3 g4 g5 (x2.trans_up g6)
theorem RdrA.blt {h : H} {b : Nat} {st : RSt} (R : RdrA h b st) : b < h.size := by
  cases st with
  | inl e => obtain ⟨_, _, _, _, B, _⟩ := R; exact B.blt
  | inr l => obtain ⟨_, _, B, _⟩ := R; exact B.blt
def pFlag : RP Bool := fun l => match pT 1 l with
  | .inl e => .inl e
  | .inr (ns, r) => if ns.getD 0 0 > 1 then .inl 2 else .inr (decide (ns.getD 0 0 = 1), r)
theorem noU8_1 (n : Int) : noU8 [.int .i64 n] := by
  intro v hv m; simp at hv; subst hv; simp
theorem rflag_f {h : H} {b : Nat} {st : RSt} (w : WF h) (R : RdrA h b st) : PO (frame_reader_flag (some ⟨b, 0, some 0⟩) h) (fun (a, h1) => RdrA h1 b (stO (stp st pFlag)) ∧ isV (stp st pFlag) a ∧ UP (· = b) h h1) := by
  unfold frame_reader_flag
  have hb := R.blt
  refine PO.newB w fun h1 x1 B1 z1 w1 => PO.st10 B1 w1 (by simp) rfl fun h2 B2 u2 z2 w2 => ?_
  have y2 : EX h h2 := u2.ex0 x1 (fun A hA e => by omega)
  have B2' : Box h2 h.size [.int .i64 0] := B2
  refine PO.take1 (k := 0) w2 (R.ex y2) B2' (noU8_1 0) ⟨0, rfl, ok0⟩ (by omega) (by omega) fun n h3 hn T3 R3 V3 u3 => ?_
  have T3' : Box h3 h.size [.int .i64 n] := T3
  have U3 : UP (· = b) h h3 := y2.trans_up u3 |>.mono (fun A hA e => by rcases e with e | e; exact e; omega)
  have fin : ∀ h4, RdrA h4 b (stO (stp st pFlag)) → Box h4 h.size [.int .i64 n] → UP (· = b) h h4 → PO (some (n == 1, h4)) (fun (a, h1) => RdrA h1 b (stO (stp st pFlag)) ∧ isV (stp st pFlag) a ∧ UP (· = b) h h1) := by
    intro h4 R4 T4 U4
    refine .ret ⟨R4, ?_, U4⟩
    intro x r e
    cases st with
    | inl e' => simp [stp] at e
    | inr l =>
      simp only [stp, pFlag] at e
      cases hp : pT 1 l with
      | inl e' => rw [hp] at e; simp at e
      | inr q =>
        rw [hp] at e
        have hv := V3 q.1 q.2 (by show pT 1 l = _; rw [hp])
        simp only [hv] at e
        split at e
        · simp at e
        · simp only [Sum.inr.injEq, Prod.mk.injEq] at e
          rw [← e.1]
          exact Bool.eq_iff_iff.2 (by simp)
  have rel : stO (stp st pFlag) = (if n > 1 then failS 2 (stO (stp st (pT 1))) else stO (stp st (pT 1))) := by
    cases st with
    | inl e' => simp [stp, stO, failS]
    | inr l =>
      simp only [stp, pFlag]
      cases hp : pT 1 l with
      | inl e' => simp [stO, failS]
      | inr q =>
        have hv := V3 q.1 q.2 (by show pT 1 l = _; rw [hp])
        simp only [hv]
        show stO (if n > 1 then _ else _) = _
        split <;> rfl
  refine PO.joinD (.ldI0 T3' rfl (.condD (fun c => ?_) (fun c => .retL (.ptr (.ldI0 T3' rfl (fin h3 (by rw [rel, if_neg c]; exact R3) T3' U3))))))
  refine PO.call (fail_f U3.wf R3 (by decide)) fun _ h4 ⟨R4, u4⟩ => .retL ?_
  have T4 := Box.ku u4 (show ¬ h.size = b by omega) T3'
  exact .ptr (.ldI0 T4 rfl (fin h4 (by rw [rel, if_pos c]; exact R4) T4 (U3.trans u4 (fun A _ e => e))))
def pData : RP (List UInt8) := fun l => match pT 1 l with
  | .inl e => .inl e
  | .inr (ns, r) => if ns.getD 0 0 > 120 then .inl 2 else if ns.getD 0 0 > (r.length : Int) then .inl 3 else .inr (r.take (ns.getD 0 0).toNat, r.drop (ns.getD 0 0).toNat)
def dataK : Int ⊕ (List Int × List UInt8) → Int ⊕ (List UInt8 × List UInt8)
  | .inl e => .inl e
  | .inr (ns, r) => if ns.getD 0 0 > 120 then .inl 2 else if ns.getD 0 0 > (r.length : Int) then .inl 3 else .inr (r.take (ns.getD 0 0).toNat, r.drop (ns.getD 0 0).toNat)
theorem stp_pData (st : RSt) : stp st pData = dataK (stp st (pT 1)) := by
  cases st with
  | inl e => rfl
  | inr l =>
    show pData l = dataK (pT 1 l)
    unfold pData
    cases pT 1 l <;> rfl
theorem rdata_f {h : H} {b : Nat} {st : RSt} (w : WF h) (R : RdrA h b st) : PO (frame_reader_data (some ⟨b, 0, some 0⟩) h) (fun (a, h1) => (∃ d, RdB h1 a d ∧ d.length ≤ 120 ∧ isV (stp st pData) d) ∧ RdrA h1 b (stO (stp st pData)) ∧ UP (· = b) h h1 ∧ Fr h.size a) := by
  unfold frame_reader_data
  have hb := R.blt
  refine PO.newB w fun h1 x1 B1 z1 w1 => PO.st10 B1 w1 (by simp) rfl fun h2 B2 u2 z2 w2 => ?_
  have y2 : EX h h2 := u2.ex0 x1 (fun A hA e => by omega)
  have B2' : Box h2 h.size [.int .i64 0] := B2
  refine PO.take1 (k := 0) w2 (R.ex y2) B2' (noU8_1 0) ⟨0, rfl, ok0⟩ (by omega) (by omega) fun n h3 hn T3 R3 V3 u3 => ?_
  have T3' : Box h3 h.size [.int .i64 n] := T3
  have U3 : UP (· = b) h h3 := y2.trans_up u3 |>.mono (fun A hA e => by rcases e with e | e; exact e; omega)
  rw [stp_pData]
  cases hq : stp st (pT 1) with
  | inl e =>
    rw [hq] at R3
    obtain ⟨he, l, hl, s, B, rd⟩ := R3
    exact .ptr (.ldI B rfl (.condNE (fun _ => .ret ⟨⟨[], rdB_nil _, by simp, fun x l e => by simp [dataK] at e⟩, ⟨he, l, hl, s, B, rd⟩, U3, fr_nil _⟩) (fun hc => absurd hc he)))
  | inr q =>
    obtain ⟨ns, r⟩ := q
    have hv := V3 ns r hq
    subst hv
    rw [hq] at R3
    have R3' : RdrA h3 b (.inr r) := R3
    obtain ⟨hl, s, B, rd⟩ := R3
    refine .ptr (.ldI B rfl (.condNE (fun hc => absurd rfl hc) (fun _ => .ldI0 T3' rfl (.condD (fun c => ?_) (fun c => ?_)))))
    · have c' : n > 120 := c
      refine PO.call (fail_f U3.wf R3' (by decide)) fun _ h4 ⟨R4, u4⟩ => .ret ⟨⟨[], rdB_nil _, by simp, fun x l e => ?_⟩, ?_, U3.trans u4 (fun A _ e => e), fr_nil _⟩
      · simp [dataK, c'] at e
      · simpa [dataK, c', stO, failS] using R4
    have c' : ¬ n > 120 := c
    have hsl := RdB.len rd
    refine .ldI0 T3' rfl (.ptr (.ldL B rfl (.condD (fun c2 => ?_) (fun c2 => ?_))))
    · have c2' : n > (r.length : Int) := by rw [← hsl]; exact c2
      refine PO.call (fail_f U3.wf R3' (by decide)) fun _ h4 ⟨R4, u4⟩ => .ret ⟨⟨[], rdB_nil _, by simp, fun x l e => ?_⟩, ?_, U3.trans u4 (fun A _ e => e), fr_nil _⟩
      · simp [dataK, c', c2'] at e
      · simpa [dataK, c', c2', stO, failS] using R4
    have c2' : ¬ n > (r.length : Int) := by rw [← hsl]; exact c2
    have hn0 : 0 ≤ n := hn.1
    refine .ptr (.ldL B rfl (.ldI0 T3' rfl ?_))
    obtain ⟨s6, e6, r6⟩ := slB_hi rd hn0 (by omega)
    have hl6 : (r.take n.toNat).length ≤ 120 := by simp; omega
    obtain ⟨s7, h6, e7, x7, b7, f7, _⟩ := clone_f U3.wf r6 (by omega)
    obtain ⟨s8, e8, r8, f8⟩ := clipB_f b7.rd (by omega)
    have B7 := Box.kx x7 B
    have T7 := Box.kx x7 T3'
    obtain ⟨s9, e9, r9⟩ := slB_lo (rd.ex x7) hn0 (by omega)
    refine .op e6 (.callE e7 (.callE e8 (.ptr (.ldL B7 rfl (.ldI0 T7 rfl (.op e9 (.ptr ?_)))))))
    refine PO.st1 B7 x7.wf (by simp) rfl fun h8 B8 u8 z8 w8 => .ret ⟨⟨_, RdB.kbox x7.wf B7 u8 (noU8_rdr _ _) r8, hl6, ?_⟩, ?_, ?_, ?_⟩
    · intro x l e
      simp [dataK, c', c2'] at e
      exact e.1.symm
    · have hB : Box h8 b [encSl s9, .int .i64 0] := B8
      have : stO (dataK (.inr ([n], r))) = .inr (r.drop n.toNat) := by simp [dataK, c', c2', stO]
      rw [this]
      exact ⟨by simp; omega, s9, hB, RdB.kbox x7.wf B7 u8 (noU8_rdr _ _) r9⟩
    · exact (U3.ex x7).trans u8 (fun A _ e => e)
    · exact fun a ha => Nat.le_trans U3.size ((f8 _ f7) a ha)
end Go.Proofs.Ythiccnmplgdheaa.T
/- Chapter 5's reader over the typed texts: an Ack's spans. -/
set_option linter.unusedVariables false
set_option linter.unusedSimpArgs false
namespace Go.Proofs.Ythiccnmplgdheaa.T
open Go Go.Abs Go.Proofs
def badP : Option Int → Int → Bool
  | none, _ => false
  | some q, n => decide (n < 2) || decide (n > q)
def lastV : Option Int → Int → Int
  | none, n => n
  | some q, n => q - n
def spK : Nat → Option Int → RP (List Run)
  | 0, _, l => .inr ([], l)
  | k + 1, p, l => match pT 1 l with
    | .inl e => .inl e
    | .inr (ns, r) => if badP p (ns.getD 0 0) then .inl 2 else match pT 1 r with
      | .inl e => .inl e
      | .inr (ms, r2) => if ms.getD 0 0 > lastV p (ns.getD 0 0) then .inl 2 else match spK k (some (lastV p (ns.getD 0 0) - ms.getD 0 0)) r2 with
        | .inl e => .inl e
        | .inr (q, r3) => .inr ((lastV p (ns.getD 0 0) - ms.getD 0 0, lastV p (ns.getD 0 0)) :: q, r3)
def pSpans : RP (List Run) := fun l => match pT 1 l with
  | .inl e => .inl e
  | .inr (ns, r) => if ns.getD 0 0 < 1 ∨ ns.getD 0 0 > 8 then .inl 2 else spK (ns.getD 0 0).toNat none r
theorem buf_lt {sz : Nat} {h : H} {s : Sl} {l : List Value} (w : WF h) (b : Buf sz h s l) : ∀ a, s.base = some a → a.block < h.size := by
  intro a ha
  rcases b.tip with ht | ⟨a', r, e, h1, h2, _⟩
  · rw [ht] at ha; simp at ha
  · rw [ha] at h1; cases h1; exact lt_of_get w h2
theorem PO.appR1u {α : Type} {Q : α → Prop} {h : H} {out : Sl} {l : List Run} {x y : Int} {n : Nat} {g : Sl → H → Option α} (w : WF h) (hb : BufR h out l) (hn : h.nro ≤ n) (hn2 : n ≤ h.size) (hf : Fr n out) (hl : l.length + 1 ≤ 2 ^ 42)
    (k : ∀ out1 h2, BufR h2 out1 (l ++ [(x, y)]) → UP (fun A => n ≤ A) h h2 → Fr n out1 → KP h h2 → PO (g out1 h2) Q) : PO (newO (row 36 [.int .i64 x, .int .i64 y]) h fun b h1 => bind2 (appT 36 2 16 h1 out ⟨some ⟨b, 0, some 0⟩, 1, 1⟩) g) Q := by
  refine PO.newB w fun h1 x1 B1 z1 w1 => ?_
  have r1 : RdR h1 ⟨some ⟨h.size, 0, some 0⟩, 1, 1⟩ [(x, y)] := B1.rd w1 rfl (by unfold CapOK; rw [capK_exact (by unfold B63; omega)]; exact Nat.le_refl _)
  have hb1 : BufR h1 out l := hb.ex w x1
  have hlen := RdR.len hb1.rd
  obtain ⟨s', h', e, k1, x2, b2, _, f2⟩ := appT_ok (e := 36) (bytes := 16) (by omega) (by unfold B63; omega) w1 hb1 r1 (runsV_oneC _) (by simp only; omega) (by simp only; omega)
  refine PO.callE e (k s' h' ?_ (x1.trans_up (up_of_ex w1 x2 k1 (by rw [x1.nro]; exact hn) (by omega) hf)) (f2 _ (by omega) hf) ((x1.kp w).trans k1))
  unfold BufR; rw [runsV_app]; exact b2
theorem RdrA.kp {h h' : H} {b n : Nat} {st : RSt} (k : KP h h') (u : UP (fun A => n ≤ A) h h') (hb : b < n) (R : RdrA h b st) : RdrA h' b st := by
  have key : ∀ l e, RdrS h b l e → RdrS h' b l e := fun l e ⟨s, B, rd⟩ => ⟨s, Box.ku u (by omega) B, RdB.mono rd k⟩
  cases st with
  | inl e => obtain ⟨h1, l, h2, h3⟩ := R; exact ⟨h1, l, h2, key _ _ h3⟩
  | inr l => exact ⟨R.1, key _ _ R.2⟩
def cons' (acc : List Run) : Int ⊕ (List Run × List UInt8) → Int ⊕ (List Run × List UInt8)
  | .inl e => .inl e
  | .inr (q, r) => .inr (acc ++ q, r)
/-- what the reader of spans is at -/
def SpI (F : Int ⊕ (List Run × List UInt8)) (N : Int) (acc : List Run) (m : Nat) : RSt → Prop
  | .inl e => F = .inl e
  | .inr l => N ≤ 8 ∧ (acc.length : Int) ≤ N ∧ F = cons' acc (spK (N.toNat - acc.length) (lst none acc) l) ∧ (∀ r ∈ acc, okN r.1) ∧ m = N.toNat - acc.length + 1
theorem lst_getD : ∀ (l : List Run) (p : Option Int), l ≠ [] → lst p l = some (l.getD (l.length - 1) (0, 0)).1
  | [r], p, _ => rfl
  | r :: q :: l, p, _ => by
    have := lst_getD (q :: l) (some r.1) (by simp)
    simpa [lst] using this
/-- the reader's state behind a step that was checked -/
theorem RdrA.st0 {h : H} {b : Nat} {st : RSt} (R : RdrA h b st) : ∃ s e, Box h b [encSl s, .int .i64 e] ∧ (e = 0 ↔ ∃ l, st = .inr l) := by
  cases st with
  | inl e => obtain ⟨he, l, _, s, B, _⟩ := R; exact ⟨s, e, B, by simp [he]⟩
  | inr l => obtain ⟨_, s, B, _⟩ := R; exact ⟨s, 0, B, by simp⟩
theorem spans_loop {b nb : Nat} {g : H} {N : Int} {F : Int ⊕ (List Run × List UInt8)} (hb : b < g.size) (hnb : nb < g.size) (hne : ¬ b = nb) (wg : WF g) :
    ∀ (m : Nat) (st : ((Option Addr × (Option Addr × (Sl × Int))) × H)), (∃ (k : Nat) (out : Sl) (h' : H) (acc : List Run) (s : RSt), st = ((some ⟨b, 0, some 0⟩, (some ⟨nb, 0, some 0⟩, (out, (k : Int)))), h') ∧ RdrA h' b s ∧ BufR h' out acc ∧ acc.length = k ∧ k ≤ 9 ∧ Box h' nb [.int .i64 N] ∧ UP (· = b) g h' ∧ Fr g.size out ∧ SpI F N acc m s) →
    PO (frame_reader_spans_l1 st) (Sum.elim (fun s' => ∃ n', n' < m ∧ ∃ (k : Nat) (out : Sl) (h' : H) (acc : List Run) (s : RSt), s' = ((some ⟨b, 0, some 0⟩, (some ⟨nb, 0, some 0⟩, (out, (k : Int)))), h') ∧ RdrA h' b s ∧ BufR h' out acc ∧ acc.length = k ∧ k ≤ 9 ∧ Box h' nb [.int .i64 N] ∧ UP (· = b) g h' ∧ Fr g.size out ∧ SpI F N acc n' s)
      (Sum.elim (fun a => ∃ acc, RdR a.2 a.1 acc ∧ acc.length ≤ 9 ∧ isV F acc ∧ RdrA a.2 b (stO F) ∧ UP (· = b) g a.2 ∧ Fr g.size a.1) (fun _ => False))) := by
  rintro m _ ⟨k, out, h', acc, s, rfl, R, hbuf, hacc, hk9, Bn, U, hf, hI⟩
  unfold frame_reader_spans_l1 P.frame_reader_spans_l1
  refine PO.join (fun st => ∃ c : Bool, st = ((some ⟨b, 0, some 0⟩, (some ⟨nb, 0, some 0⟩, (out, ((k : Int), c)))), h') ∧ (c = true ↔ ((k : Int) < N ∧ ∃ l, s = .inr l))) ?_ ?_
  · refine .ptr (.ldI0 Bn rfl (.condD (fun c => .ptr ?_) (fun c => .retL ⟨_, rfl, ?_⟩)))
    · obtain ⟨sl, e, B, he⟩ := R.st0
      refine .ldI B rfl (.retL ⟨_, rfl, ?_⟩)
      rw [beq_iff_eq]
      exact ⟨fun h0 => ⟨c, he.1 h0⟩, fun h0 => he.2 h0.2⟩
    · simp; intro hh; exact absurd hh c
  rintro _ ⟨c, rfl, hc⟩
  refine .cond (fun ct => ?_) (fun cf => .retR ⟨acc, hbuf.rd, by omega, ?_, ?_, U, hf⟩)
  · obtain ⟨hkN, l, rfl⟩ := hc.1 ct
    obtain ⟨hN8, haN, hF, hall, hm⟩ := hI
    have w' := U.wf
    have hgs := U.size
    refine PO.newB w' fun h2 x2 B2 z2 w2 => PO.newB w2 fun h3 x3 B3 z3 w3 => PO.st10 (Box.kx x3 B2) w3 (by simp) rfl fun h4 C4 u4 z4 w4 => ?_
    refine PO.st10 (Box.ku u4 (by omega) B3) w4 (by simp) rfl fun h5 D5 u5 z5 w5 => ?_
    have C5 : Box h5 h'.size [.int .i64 0] := Box.ku u5 (by omega) C4
    have D5' : Box h5 h2.size [.int .i64 0] := D5
    have y5 : EX h' h5 := u5.ex0 (u4.ex0 (x2.trans x3) (fun A hA e => by omega)) (fun A hA e => by omega)
    refine PO.take1 (k := 0) w5 (R.ex y5) C5 (noU8_1 0) ⟨0, rfl, ok0⟩ (by omega) (by omega) fun n1 h7 hn1 C7 R7 V7 u7 => ?_
    have C7' : Box h7 h'.size [.int .i64 n1] := C7
    have U7 : UP (· = b) h' h7 := y5.trans_up u7 |>.mono (fun A hA e => by rcases e with e | e; exact e; omega)
    have D7 : Box h7 h2.size [.int .i64 0] := Box.ku u7 (by omega) D5'
    generalize hs7 : stO (stp (.inr l) (pT 1)) = s7 at R7
    have hrd : ∀ {hh : H}, UP (· = b) h' hh → RdR hh out acc := fun u => Rd.up hbuf.rd u (fun a ha e => by have := hf a ha; omega)
    have hp1 : 0 < k → lst none acc = some (acc.getD (k - 1) (0, 0)).1 := fun h0 => by rw [← hacc]; exact lst_getD acc none (by intro e; subst e; simp at hacc; omega)
    have hp0 : k = 0 → lst none acc = none := fun h0 => by have : acc = [] := List.eq_nil_of_length_eq_zero (by omega); subst this; rfl
    have hwk : 0 < k → IntKind.wrap .i64 ((k : Int) - 1) = ((k - 1 : Nat) : Int) := fun h0 => by rw [w64 (by omega) (by omega)]; omega
    refine PO.join (fun st => ∃ (la : Int) (h8 : H) (s8 : RSt), st = ((some ⟨b, 0, some 0⟩, (some ⟨nb, 0, some 0⟩, (out, ((k : Int), (some ⟨h'.size, 0, some 0⟩, some ⟨h2.size, 0, some 0⟩))))), h8) ∧ s8 = (if badP (lst none acc) n1 then failS 2 s7 else s7) ∧ (badP (lst none acc) n1 = false → la = lastV (lst none acc) n1) ∧ Box h8 h'.size [.int .i64 la] ∧ Box h8 h2.size [.int .i64 0] ∧ RdrA h8 b s8 ∧ UP (· = b) h' h8) ?_ ?_
    · refine .condD (fun ck => ?_) (fun ck => .retL ⟨n1, h7, s7, rfl, ?_, ?_, C7', D7, R7, U7⟩)
      · have ck' : 0 < k := by have : (k : Int) > 0 := ck; omega
        rw [hp1 ck', hwk ck']
        have hqm := getD_mem acc (0, 0) (show k - 1 < acc.length by omega)
        have hq := hall _ hqm
        generalize hqq : (acc.getD (k - 1) (0, 0)).1 = q at *
        refine PO.join (fun st => ∃ (h8 : H), st = ((some ⟨b, 0, some 0⟩, (some ⟨nb, 0, some 0⟩, (out, ((k : Int), (some ⟨h'.size, 0, some 0⟩, some ⟨h2.size, 0, some 0⟩))))), h8) ∧ Box h8 h'.size [.int .i64 n1] ∧ Box h8 h2.size [.int .i64 0] ∧ RdrA h8 b (if badP (some q) n1 then failS 2 s7 else s7) ∧ UP (· = b) h' h8) ?_ ?_
        · refine PO.join (fun st => st = ((some ⟨b, 0, some 0⟩, (some ⟨nb, 0, some 0⟩, (out, ((k : Int), (some ⟨h'.size, 0, some 0⟩, (some ⟨h2.size, 0, some 0⟩, badP (some q) n1)))))), h7)) ?_ ?_
          · refine .ldI0 C7' rfl (.condD (fun c2 => .retL ?_) (fun c2 => .ldI0 C7' rfl (.ixR (hrd U7) (by omega) (by omega) fun a1 _ _ _ _ e1 _ => .ixA (by omega) (by omega) ?_)))
            · have c2' : n1 < 2 := c2
              rw [show badP (some q) n1 = true by simp [badP, c2']]
            · simp only [Int.toNat_natCast, hqq] at e1
              have c2' : ¬ n1 < 2 := c2
              refine .op e1 (.retL ?_)
              rw [show badP (some q) n1 = decide (n1 > q) by simp [badP, c2']]
          · rintro _ rfl
            refine .cond (fun cb => PO.call (fail_f U7.wf R7 (by decide)) fun _ h8 ⟨R8, u8⟩ => .retL ⟨h8, rfl, Box.ku u8 (by omega) C7', Box.ku u8 (by omega) D7, by rw [cb]; exact R8, U7.trans u8 (fun A _ e => e)⟩) (fun cb => .retL ⟨h7, rfl, C7', D7, by rw [cb]; exact R7, U7⟩)
        · rintro _ ⟨h8, rfl, C8, D8, R8, U8⟩
          show PO (bindO (ixT 2 out (IntKind.wrap .i64 ((k : Int) - 1))) _) _
          rw [hwk ck']
          refine .ixR (hrd U8) (by omega) (by omega) fun a1 _ _ _ _ e1 _ => .ixA (by omega) (by omega) ?_
          simp only [Int.toNat_natCast, hqq] at e1
          refine .op e1 (.ptr (.ldI0 C8 rfl (.ptr (PO.st10 C8 U8.wf (by simp) rfl fun h9 C9 u9 z9 w9 => .retL ⟨_, h9, _, rfl, rfl, ?_, C9, Box.ku u9 (by omega) D8, R8.up U8.wf C8 (noU8_1 _) (by omega) u9, ?_⟩))))
          · intro hb0
            unfold okN at hq hn1
            rw [w64 (by omega) (by omega)]; rfl
          · exact ⟨Nat.le_trans U8.size u9.size, u9.nro.trans U8.nro, w9, fun A hA hn => (u9.same A (Nat.lt_of_lt_of_le hA U8.size) (by omega)).trans (U8.same A hA hn)⟩
      · have ck' : k = 0 := by have : ¬ (k : Int) > 0 := ck; omega
        rw [hp0 ck']; rfl
      · have ck' : k = 0 := by have : ¬ (k : Int) > 0 := ck; omega
        rw [hp0 ck']; intro _; rfl
    · rintro _ ⟨la, h8, s8, rfl, hs8, hla, C8, D8, R8, U8⟩
      have hbb := R8.blt
      refine PO.take1 (k := 0) U8.wf R8 D8 (noU8_1 0) ⟨0, rfl, ok0⟩ (by omega) hbb fun n2 h10 hn2 D10 R10 V10 u10 => ?_
      have D10' : Box h10 h2.size [.int .i64 n2] := D10
      have C10 : Box h10 h'.size [.int .i64 la] := Box.ku u10 (by omega) C8
      have U10 : UP (· = b) h' h10 := U8.trans u10 (fun A hA e => by rcases e with e | e; exact e; omega)
      generalize hs10 : stO (stp s8 (pT 1)) = s10 at R10
      refine PO.join (fun st => ∃ (h11 : H), st = ((some ⟨b, 0, some 0⟩, (some ⟨nb, 0, some 0⟩, (out, ((k : Int), (some ⟨h'.size, 0, some 0⟩, some ⟨h2.size, 0, some 0⟩))))), h11) ∧ Box h11 h'.size [.int .i64 la] ∧ Box h11 h2.size [.int .i64 n2] ∧ RdrA h11 b (if n2 > la then failS 2 s10 else s10) ∧ UP (· = b) h' h11) ?_ ?_
      · refine .ptr (.ldI0 D10' rfl (.ptr (.ldI0 C10 rfl (.condD (fun cb => PO.call (fail_f U10.wf R10 (by decide)) fun _ h8 ⟨R8, u8⟩ => .retL ⟨h8, rfl, Box.ku u8 (by omega) C10, Box.ku u8 (by omega) D10', by rw [if_pos cb]; exact R8, U10.trans u8 (fun A _ e => e)⟩) (fun cb => .retL ⟨h10, rfl, C10, D10', by rw [if_neg cb]; exact R10, U10⟩)))))
      · rintro _ ⟨h11, rfl, C11, D11, R11, U11⟩
        have hb11 : BufR h11 out acc := Buf.up w' hbuf U11 (fun a ha e => by have := hf a ha; omega)
        refine .ptr (.ldI0 C11 rfl (.ptr (.ldI0 D11 rfl (.ptr (.ldI0 C11 rfl ?_)))))
        refine PO.appR1u (n := g.size) U11.wf hb11 (by rw [U11.nro, U.nro]; exact wg.nro) (by have := U11.size; omega) hf (by omega) fun out1 h12 b12 u12 f12 k12 => .retL ?_
        have R12 := R11.kp k12 u12 hb
        have hwi : IntKind.wrap .i64 ((k : Int) + 1) = ((k + 1 : Nat) : Int) := by rw [w64 (by omega) (by omega)]; rfl
        rw [hwi]
        have U12 : UP (· = b) g h12 := ⟨by have := U11.size; have := u12.size; omega, u12.nro.trans (U11.nro.trans U.nro), u12.wf, fun A hA hn => (u12.same A (by have := U11.size; omega) (by omega)).trans ((U11.same A (by omega) hn).trans (U.same A hA hn))⟩
        have Bn12 : Box h12 nb [.int .i64 N] := Box.ku u12 (by omega) (Box.ku U11 (fun e => hne e.symm) Bn)
        refine ⟨m - 1, by omega, k + 1, out1, h12, _, _, rfl, R12, b12, by simp [hacc], by omega, Bn12, U12, f12, ?_⟩
        obtain ⟨j, hj⟩ : ∃ j, N.toNat - acc.length = j + 1 := ⟨N.toNat - acc.length - 1, by omega⟩
        have hqok : ∀ q, lst none acc = some q → okN q := by
          intro q hq
          rcases Nat.eq_zero_or_pos k with h0 | h0
          · rw [hp0 h0] at hq; simp at hq
          · rw [hp1 h0] at hq; cases hq
            exact hall _ (getD_mem acc (0, 0) (by omega))
        rw [hj] at hF
        simp only [spK] at hF
        rw [show stp (.inr l) (pT 1) = pT 1 l from rfl] at hs7 V7
        cases hp : pT 1 l with
        | inl e =>
          rw [hp] at hs7 hF
          have e7 : s7 = .inl e := hs7.symm
          subst e7
          have e8 : s8 = .inl e := by rw [hs8]; split <;> rfl
          subst e8
          have e10 : s10 = .inl e := hs10.symm
          subst e10
          simp only [failS, ite_self]
          exact hF
        | inr x =>
          obtain ⟨ns, r⟩ := x
          rw [hp] at hs7 hF
          have hv := V7 ns r hp
          subst hv
          have e7 : s7 = .inr r := hs7.symm
          subst e7
          simp only [List.getD_cons_zero] at hF
          cases hbd : badP (lst none acc) n1 with
          | true =>
            rw [hbd] at hs8 hF
            have e8 : s8 = .inl 2 := hs8
            subst e8
            have e10 : s10 = .inl 2 := hs10.symm
            subst e10
            simp only [failS, ite_self]
            exact hF
          | false =>
            rw [hbd] at hs8 hF
            have e8 : s8 = .inr r := hs8
            subst e8
            have hlv := hla hbd
            rw [← hlv] at hF
            rw [show stp (.inr r) (pT 1) = pT 1 r from rfl] at hs10 V10
            cases hp2 : pT 1 r with
            | inl e =>
              rw [hp2] at hs10 hF
              have e10 : s10 = .inl e := hs10.symm
              subst e10
              simp only [failS, ite_self]
              exact hF
            | inr x =>
              obtain ⟨ms, r2⟩ := x
              rw [hp2] at hs10 hF
              have hv2 := V10 ms r2 hp2
              subst hv2
              have e10 : s10 = .inr r2 := hs10.symm
              subst e10
              simp only [List.getD_cons_zero, Bool.false_eq_true, if_false] at hF
              by_cases hgt : n2 > la
              · rw [if_pos hgt] at hF ⊢
                exact hF
              · rw [if_neg hgt] at hF ⊢
                have hlaok : okN la := by
                  rw [hlv]
                  unfold okN at hn1 ⊢
                  cases hl : lst none acc with
                  | none => exact hn1
                  | some q =>
                    have hq := hqok q hl
                    rw [hl] at hbd
                    unfold okN at hq
                    simp [badP] at hbd
                    simp only [lastV]
                    omega
                unfold okN at hlaok hn2
                rw [w64 (n := la - n2) (by omega) (by omega)]
                refine ⟨hN8, by simp only [List.length_append, List.length_singleton]; omega, ?_, ?_, by simp only [List.length_append, List.length_singleton]; omega⟩
                · rw [lst_snoc, show N.toNat - (acc ++ [(la - n2, la)]).length = j by simp only [List.length_append, List.length_singleton]; omega, hF]
                  cases spK j (some (la - n2)) r2 with
                  | inl e => rfl
                  | inr y => simp [cons']
                · intro y hy
                  rcases List.mem_append.1 hy with hy | hy
                  · exact hall y hy
                  · simp at hy; subst hy; unfold okN; simp only; omega
  · cases s with
    | inl e => intro x r hx; rw [show F = .inl e from hI] at hx; simp at hx
    | inr l =>
      obtain ⟨hN8, haN, hF, _, _⟩ := hI
      have : ¬ (k : Int) < N := fun hh => by rw [hc.2 ⟨hh, l, rfl⟩] at cf; simp at cf
      have h0 : N.toNat - acc.length = 0 := by omega
      rw [h0] at hF
      intro x r hx
      rw [hF] at hx
      simp [spK, cons'] at hx
      exact hx.1.symm
  · cases s with
    | inl e => rw [show F = .inl e from hI]; exact R
    | inr l =>
      obtain ⟨hN8, haN, hF, _, _⟩ := hI
      have : ¬ (k : Int) < N := fun hh => by rw [hc.2 ⟨hh, l, rfl⟩] at cf; simp at cf
      have h0 : N.toNat - acc.length = 0 := by omega
      rw [h0] at hF
      rw [hF]
      exact R
def spansK : Int ⊕ (List Int × List UInt8) → Int ⊕ (List Run × List UInt8)
  | .inl e => .inl e
  | .inr (ns, r) => if ns.getD 0 0 < 1 ∨ ns.getD 0 0 > 8 then .inl 2 else spK (ns.getD 0 0).toNat none r
theorem stp_pSpans (st : RSt) : stp st pSpans = spansK (stp st (pT 1)) := by
  cases st with
  | inl e => rfl
  | inr l =>
    show pSpans l = spansK (pT 1 l)
    unfold pSpans
    cases pT 1 l <;> rfl
theorem rspans_f {h : H} {b : Nat} {st : RSt} (w : WF h) (R : RdrA h b st) : PO (frame_reader_spans (some ⟨b, 0, some 0⟩) h) (fun (a, h1) => (∃ d, RdR h1 a d ∧ d.length ≤ 9 ∧ isV (stp st pSpans) d) ∧ RdrA h1 b (stO (stp st pSpans)) ∧ UP (· = b) h h1 ∧ Fr h.size a) := by
  unfold frame_reader_spans
  have hb := R.blt
  refine PO.newB w fun h1 x1 B1 z1 w1 => PO.st10 B1 w1 (by simp) rfl fun h2 B2 u2 z2 w2 => ?_
  have y2 : EX h h2 := u2.ex0 x1 (fun A hA e => by omega)
  have B2' : Box h2 h.size [.int .i64 0] := B2
  refine PO.take1 (k := 0) w2 (R.ex y2) B2' (noU8_1 0) ⟨0, rfl, ok0⟩ (by omega) (by omega) fun n h3 hn T3 R3 V3 u3 => ?_
  have T3' : Box h3 h.size [.int .i64 n] := T3
  have U3 : UP (· = b) h h3 := y2.trans_up u3 |>.mono (fun A hA e => by rcases e with e | e; exact e; omega)
  have hsz3 := T3'.blt
  rw [stp_pSpans]
  generalize hs3 : stO (stp st (pT 1)) = s3 at R3
  refine PO.join (fun st => ∃ h4, st = ((some ⟨b, 0, some 0⟩, some ⟨h.size, 0, some 0⟩), h4) ∧ Box h4 h.size [.int .i64 n] ∧ RdrA h4 b (if n < 1 ∨ n > 8 then failS 2 s3 else s3) ∧ UP (· = b) h h4) ?_ ?_
  · refine PO.join (fun st => st = ((some ⟨b, 0, some 0⟩, (some ⟨h.size, 0, some 0⟩, decide (n < 1 ∨ n > 8))), h3)) ?_ ?_
    · refine .ldI0 T3' rfl (.condD (fun c => .retL ?_) (fun c => .ldI0 T3' rfl (.retL ?_)))
      · have c' : n < 1 := c
        rw [decide_eq_true (show n < 1 ∨ n > 8 from .inl c')]
      · have c' : ¬ n < 1 := c
        rw [show decide (n < 1 ∨ n > 8) = decide (n > 8) by simp [c']]
    · rintro _ rfl
      refine .condD (fun c => PO.call (fail_f U3.wf R3 (by decide)) fun _ h4 ⟨R4, u4⟩ => .retL ⟨h4, rfl, Box.ku u4 (by omega) T3', by rw [if_pos c]; exact R4, U3.trans u4 (fun A _ e => e)⟩) (fun c => .retL ⟨h3, rfl, T3', by rw [if_neg c]; exact R3, U3⟩)
  · rintro _ ⟨h4, rfl, T4, R4, U4⟩
    have hsz4 := T4.blt
    refine PO.joinD (PO.mono (P := Sum.elim (fun a => ∃ acc, RdR a.2 a.1 acc ∧ acc.length ≤ 9 ∧ isV (spansK (stp st (pT 1))) acc ∧ RdrA a.2 b (stO (spansK (stp st (pT 1)))) ∧ UP (· = b) h4 a.2 ∧ Fr h4.size a.1) (fun _ => False)) ?_ ?_)
    · refine PO.loop (fun m st' => ∃ (k : Nat) (out : Sl) (h' : H) (acc : List Run) (s : RSt), st' = ((some ⟨b, 0, some 0⟩, (some ⟨h.size, 0, some 0⟩, (out, (k : Int)))), h') ∧ RdrA h' b s ∧ BufR h' out acc ∧ acc.length = k ∧ k ≤ 9 ∧ Box h' h.size [.int .i64 n] ∧ UP (· = b) h4 h' ∧ Fr h4.size out ∧ SpI (spansK (stp st (pT 1))) n acc m s) (spans_loop (by omega) hsz4 (by omega) U4.wf) (n.toNat + 1) _ ⟨0, _, h4, [], _, rfl, R4, buf_nil 2 h4, rfl, by omega, T4, UP.refl U4.wf, fr_nil _, ?_⟩
      cases hq : stp st (pT 1) with
      | inl e =>
        rw [hq] at hs3
        have e3 : s3 = .inl e := hs3.symm
        subst e3
        simp only [failS, ite_self]
        exact rfl
      | inr q =>
        obtain ⟨ns, r⟩ := q
        have hv := V3 ns r hq
        subst hv
        rw [hq] at hs3
        have e3 : s3 = .inr r := hs3.symm
        subst e3
        by_cases hc : n < 1 ∨ n > 8
        · rw [if_pos hc]
          show spansK (.inr ([n], r)) = _
          simp only [spansK, List.getD_cons_zero]
          rw [if_pos hc]
        · rw [if_neg hc]
          refine ⟨by omega, by simp; omega, ?_, by simp, by simp⟩
          simp only [spansK, List.getD_cons_zero]
          rw [if_neg hc]
          show _ = cons' [] (spK (n.toNat - 0) none r)
          rw [Nat.sub_zero]
          cases spK n.toNat none r with
          | inl e => rfl
          | inr y => simp [cons']
    · rintro (⟨out, h5⟩ | _) hp
      · obtain ⟨acc, g1, g2, g3, g4, g5, g6⟩ := hp
        exact .ret ⟨⟨acc, g1, g2, g3⟩, g4, U4.trans g5 (fun A _ e => e), Fr.mono g6 U4.size⟩
      · exact hp.elim
end Go.Proofs.Ythiccnmplgdheaa.T
/- Chapter 5's reader over the typed texts: a frame. -/
set_option linter.unusedVariables false
set_option linter.unusedSimpArgs false
namespace Go.Proofs.Ythiccnmplgdheaa.T
open Go Go.Abs Go.Proofs
def bindP {α β : Type} (p : RP α) (f : α → RP β) : RP β := fun l => match p l with
  | .inl e => .inl e
  | .inr (a, r) => f a r
def retP {α : Type} (a : α) : RP α := fun l => .inr (a, l)
theorem stp_bind {α β : Type} {st : RSt} {p : RP α} {a : α} (f : α → RP β) (V : isV (stp st p) a) : stp st (bindP p f) = stp (stO (stp st p)) (f a) := by
  cases st with
  | inl e => rfl
  | inr l =>
    simp only [stp, bindP]
    cases hp : p l with
    | inl e => rfl
    | inr x =>
      obtain ⟨y, r⟩ := x
      have := V y r hp
      subst this
      rfl
theorem stp_ret {α : Type} (st : RSt) (a : α) : stO (stp st (retP a)) = st ∧ isV (stp st (retP a)) a := by
  cases st with
  | inl e => exact ⟨rfl, fun x l e => by simp [stp] at e⟩
  | inr l => exact ⟨rfl, fun x l e => by simp [stp, retP] at e; exact e.1.symm⟩
def finF (v : FV) : RP FV := fun l => if FR v then .inr (v, l) else .inl 2
def rawP (k : Int) : RP FV :=
  if k = 2 then bindP pSpans fun s => retP ⟨k, 0, 0, 0, 0, 0, false, [], s⟩
  else if k = 3 then bindP (pT 2) fun ns => bindP pFlag fun fl => bindP pData fun d => retP ⟨k, ns.getD 0 0, ns.getD 1 0, 0, 0, 0, fl, d, []⟩
  else if k = 4 then bindP (pT 4) fun ns => retP ⟨k, ns.getD 0 0, ns.getD 2 0, ns.getD 1 0, ns.getD 3 0, 0, false, [], []⟩
  else if k = 5 ∨ k = 7 then bindP (pT 2) fun ns => retP ⟨k, ns.getD 0 0, 0, ns.getD 1 0, 0, 0, false, [], []⟩
  else if k = 6 ∨ k = 12 then bindP (pT 1) fun ns => retP ⟨k, 0, 0, ns.getD 0 0, 0, 0, false, [], []⟩
  else if k = 8 then bindP (pT 1) fun ns => bindP pFlag fun fl => retP ⟨k, 0, 0, ns.getD 0 0, 0, 0, fl, [], []⟩
  else if k = 9 then bindP pData fun d => retP ⟨k, 0, 0, 0, 0, 0, false, d, []⟩
  else if k = 10 ∨ k = 11 then bindP (pT 1) fun ns => retP ⟨k, ns.getD 0 0, 0, 0, 0, 0, false, [], []⟩
  else retP ⟨k, 0, 0, 0, 0, 0, false, [], []⟩
def pFrame : RP FV := bindP (pT 1) fun ns => bindP (rawP (ns.getD 0 0)) finF
theorem noU8_f9 (y : F9) : noU8 (f9L y) := by
  intro v hv n
  simp only [f9L, List.mem_cons, List.not_mem_nil, or_false] at hv
  rcases hv with rfl | rfl | rfl | rfl | rfl | rfl | rfl | rfl | rfl <;> simp
theorem PO.takeF {α : Type} {Q : α → Prop} {h : H} {b t n : Nat} {y : F9} {st : RSt} {g : Unit → H → Option α} (ks : List Nat) (hn : ks.length = n) (hn9 : n ≤ 9) (w : WF h) (R : RdrA h b st) (T : Box h t (f9L y)) (hI : ∀ k ∈ ks, IntAt (f9L y) k) (hbt : ¬ b = t)
    (p : ∀ ns h1, ns.length = n → (∀ x ∈ ns, okN x) → Box h1 t (setAll (f9L y) ks ns) → RdrA h1 b (stO (stp st (pT n))) → isV (stp st (pT n)) ns → UP (fun A => A = b ∨ A = t) h h1 → PO (g () h1) Q) :
    PO (newO (row 171 ((ks.map fun k => some (⟨t, 0 + k, some 0⟩ : Addr)).map .pointer)) h fun q h2 => bind2 (frame_reader_take (some ⟨b, 0, some 0⟩) ⟨some ⟨q, 0, some 0⟩, n, n⟩ h2) g) Q := by
  refine PO.newB w fun h2 x2 B2 z2 w2 => ?_
  have hT := T.blt
  have hb := R.blt
  refine PO.call (take_f (n := n) hbt (by omega) (by omega) ks hn hn9 n 0 h2 (f9L y) st (by omega) w2 (R.ex x2) (Box.kx x2 T) (noU8_f9 y) hI B2) fun _ h1 ⟨ns, g1, g2, g3, g4, g5, g6⟩ => ?_
  exact p ns h1 g1 g2 g3 g4 g5 (x2.trans_up g6)
/-- a frame that is being read -/
structure FB (h0 : H) (b t : Nat) (st : RSt) (h : H) (y : F9) (v : FV) : Prop where
  up : UP (· = b) h0 h
  box : Box h t (f9L y)
  rdr : RdrA h b st
  frd : FRd h y v
  fd : Fr (t + 1) y.2.2.2.2.2.2.2.1
  fs : Fr (t + 1) y.2.2.2.2.2.2.2.2
  ld : v.data.length ≤ 120
  ls : v.spans.length ≤ 9
def FJ (h0 : H) (b t rb : Nat) (F : Int ⊕ (FV × List UInt8)) (s : (Option Addr × Option Addr × Option Addr) × H) : Prop :=
  s.1 = (some ⟨b, 0, some 0⟩, some ⟨rb, 0, some 0⟩, some ⟨t, 0, some 0⟩) ∧ ∃ y v, FB h0 b t (stO F) s.2 y v ∧ isV F v
/-- what is written into the frame that is being read -/
theorem FB.st {α : Type} {Q : α → Prop} {h0 h : H} {b t i : Nat} {st : RSt} {y : F9} {v : FV} {x : Value} {f : H → Option α} (B : FB h0 b t st h y v) (hb : b < h0.size) (ht : h0.size ≤ t) (hi : i < 9) (ho : oneC x = true)
    (p : ∀ h1, Box h1 t ((f9L y).set i x) → RdrA h1 b st → UP (· = b) h0 h1 → UP (· = t) h h1 → PO (f h1) Q) : PO (bindO (Abs.st1 h (add ⟨t, 0, some 0⟩ i) x) f) Q :=
  PO.st1 B.box B.up.wf (by simpa using hi) ho fun h1 B1 u1 z1 w1 => p h1 B1 (B.rdr.up B.up.wf B.box (noU8_f9 y) (by omega) u1)
    ⟨Nat.le_trans B.up.size u1.size, u1.nro.trans B.up.nro, w1, fun A hA hn => (u1.same A (Nat.lt_of_lt_of_le hA B.up.size) (by omega)).trans (B.up.same A hA hn)⟩ u1
theorem FB.frdU {h0 h h1 : H} {b t : Nat} {st : RSt} {y : F9} {v : FV} (B : FB h0 b t st h y v) (hb : b < t) (u : UP (fun A => A = b ∨ A = t) h h1) : RdB h1 y.2.2.2.2.2.2.2.1 v.data ∧ RdR h1 y.2.2.2.2.2.2.2.2 v.spans :=
  ⟨Rd.up B.frd.data u (fun a ha e => by have := B.fd a ha; omega), Rd.up B.frd.spans u (fun a ha e => by have := B.fs a ha; omega)⟩
theorem FB.upU {h0 h h1 : H} {b t : Nat} {st : RSt} {y : F9} {v : FV} (B : FB h0 b t st h y v) (ht : h0.size ≤ t) (u : UP (fun A => A = b ∨ A = t) h h1) : UP (· = b) h0 h1 :=
  ⟨Nat.le_trans B.up.size u.size, u.nro.trans B.up.nro, u.wf, fun A hA hn => (u.same A (Nat.lt_of_lt_of_le hA B.up.size) (by omega)).trans (B.up.same A hA hn)⟩
theorem fjOut {h0 h : H} {b t rb : Nat} {F : Int ⊕ (FV × List UInt8)} {st : RSt} {y : F9} {v : FV} (B : FB h0 b t st h y v) (hF : stO F = st) (V : isV F v) : FJ h0 b t rb F ((some ⟨b, 0, some 0⟩, some ⟨rb, 0, some 0⟩, some ⟨t, 0, some 0⟩), h) := ⟨rfl, y, v, hF ▸ B, V⟩
theorem retOut {st st' : RSt} {p : RP FV} {v : FV} (h : stp st p = stp st' (retP v)) : stO (stp st p) = st' ∧ isV (stp st p) v := by rw [h]; exact stp_ret st' v
theorem leafI {α : Type} {Q : α → Prop} {h0 h : H} {b t rb n : Nat} {k : Int} {st : RSt} {y0 : F9} {v0 : FV} (B : FB h0 b t st h y0 v0) (hb : b < h0.size) (ht : h0.size ≤ t) (ks : List Nat) (hn : ks.length = n) (hn9 : n ≤ 9) (hI : ∀ k ∈ ks, IntAt (f9L y0) k) (yy : List Int → F9) (mk : List Int → FV)
    (hraw : rawP k = bindP (pT n) fun ns => retP (mk ns)) (hset : ∀ ns : List Int, ns.length = n → setAll (f9L y0) ks ns = f9L (yy ns)) (hfr : ∀ ns h, FRd h (yy ns) (mk ns) ∧ Fr (t + 1) (yy ns).2.2.2.2.2.2.2.1 ∧ Fr (t + 1) (yy ns).2.2.2.2.2.2.2.2 ∧ (mk ns).data.length ≤ 120 ∧ (mk ns).spans.length ≤ 9) :
    PO (newO (row 171 ((ks.map fun k => some (⟨t, 0 + k, some 0⟩ : Addr)).map .pointer)) h fun q h2 => bind2 (frame_reader_take (some ⟨b, 0, some 0⟩) ⟨some ⟨q, 0, some 0⟩, n, n⟩ h2) fun _ h1 => some (Sum.inl ((some ⟨b, 0, some 0⟩, some ⟨rb, 0, some 0⟩, some ⟨t, 0, some 0⟩), h1))) (Sum.elim (FJ h0 b t rb (stp st (rawP k))) Q) := by
  refine PO.takeF ks hn hn9 B.up.wf B.rdr B.box hI (by omega) fun ns h5 hl hok T5 R5 V5 u5 => ?_
  rw [hset ns hl] at T5
  obtain ⟨f1, f2, f3, f4, f5⟩ := hfr ns h5
  obtain ⟨o1, o2⟩ := retOut (p := rawP k) (v := mk ns) (by rw [hraw]; exact stp_bind _ V5)
  exact .retL (fjOut ⟨B.upU ht u5, T5, R5, f1, f2, f3, f4, f5⟩ o1 o2)
theorem rframe_f {h : H} {b : Nat} {l : List UInt8} (w : WF h) (R : RdrA h b (.inr l)) : PO (frame_reader_frame (some ⟨b, 0, some 0⟩) h) (fun (x, h1) => (∃ v, FRd h1 x v ∧ isV (pFrame l) v) ∧ RdrA h1 b (stO (pFrame l)) ∧ UP (· = b) h h1 ∧ Fr h.size x.2.2.2.2.2.2.2.1 ∧ Fr h.size x.2.2.2.2.2.2.2.2) := by
  unfold frame_reader_frame
  have hb := R.blt
  refine PO.newB w fun g0 x0 B0 z0 w0 => PO.newB w0 fun g1 x1 B1 z1 w1 => ?_
  have hne : ¬ b = g0.size := by omega
  refine PO.takeF (y := f90) [0] rfl (by omega) w1 ((R.ex x0).ex x1) B1 (by intro k hk; simp at hk; subst hk; exact ⟨0, rfl, ok0⟩) hne fun ns h3 hns hok T3 R3 V3 u3 => ?_
  obtain ⟨k, rfl⟩ : ∃ k, ns = [k] := by
    match ns, hns with
    | [k], _ => exact ⟨k, rfl⟩
  generalize hs3 : stO (stp (.inr l) (pT 1)) = s3 at R3
  have T3' : Box h3 g0.size (f9L (k, 0, 0, 0, 0, 0, false, ⟨none, 0, 0⟩, ⟨none, 0, 0⟩)) := T3
  have U3 : UP (· = b) g0 h3 := (x1.trans_up u3).mono (fun A hA e => by
    rcases e with e | e
    · exact e
    · exact absurd hA (by rw [e]; exact Nat.lt_irrefl _))
  have F3 : FB g0 b g0.size s3 h3 (k, 0, 0, 0, 0, 0, false, ⟨none, 0, 0⟩, ⟨none, 0, 0⟩) ⟨k, 0, 0, 0, 0, 0, false, [], []⟩ := ⟨U3, T3', R3, ⟨⟨rfl, rfl, rfl, rfl, rfl, rfl, rfl⟩, rdB_nil _, rdR_nil _⟩, fr_nil _, fr_nil _, by simp, by simp⟩
  have hb0 : b < g0.size := by omega
  have hle : g0.size ≤ g0.size := Nat.le_refl _
  have hraw : stp (.inr l) (bindP (pT 1) fun ns => bindP (rawP (ns.getD 0 0)) finF) = stp s3 (bindP (rawP k) finF) := by rw [stp_bind _ V3, hs3]; rfl
  refine PO.join (FJ g0 b g0.size h.size (stp s3 (rawP k))) ?_ ?_
  · refine .ldI T3' rfl ?_
    repeat' (refine .condE (fun e => ?_) (fun e => ?_))
    all_goals dsimp only at *
    all_goals (try (exfalso; omega))
    · refine PO.call (rspans_f U3.wf R3) fun a h4 ⟨⟨d, rd, hd, V4⟩, R4, u4, f4⟩ => ?_
      have B4 : FB g0 b g0.size _ h4 (k, 0, 0, 0, 0, 0, false, ⟨none, 0, 0⟩, ⟨none, 0, 0⟩) ⟨k, 0, 0, 0, 0, 0, false, [], []⟩ := ⟨U3.trans u4 (fun A _ e => e), Box.ku u4 (fun e => hne e.symm) T3', R4, ⟨⟨rfl, rfl, rfl, rfl, rfl, rfl, rfl⟩, rdB_nil _, rdR_nil _⟩, fr_nil _, fr_nil _, by simp, by simp⟩
      refine B4.st hb0 hle (by omega) rfl fun h5 T5 R5 U5 u5 => ?_
      have T5' : Box h5 g0.size (f9L (k, 0, 0, 0, 0, 0, false, ⟨none, 0, 0⟩, a)) := T5
      have hfa : Fr (g0.size + 1) a := f4.mono T3'.blt
      obtain ⟨o1, o2⟩ := retOut (p := rawP k) (v := ⟨k, 0, 0, 0, 0, 0, false, [], d⟩) (by unfold rawP; rw [if_pos e]; exact stp_bind _ V4)
      exact .retL (fjOut (v := ⟨k, 0, 0, 0, 0, 0, false, [], d⟩) ⟨U5, T5', R5, ⟨⟨rfl, rfl, rfl, rfl, rfl, rfl, rfl⟩, rdB_nil _, Rd.up rd u5 (fun p hp => by have := hfa p hp; omega)⟩, fr_nil _, hfa, by simp, hd⟩ o1 o2)
    · refine PO.takeF [1, 2] rfl (by omega) U3.wf R3 T3' (by intro j hj; simp at hj; rcases hj with rfl | rfl <;> exact ⟨0, rfl, ok0⟩) hne fun ns h5 hl hok T5 R5 V5 u5 => ?_
      obtain ⟨a, c, rfl⟩ : ∃ a c, ns = [a, c] := by
        match ns, hl with
        | [a, c], _ => exact ⟨a, c, rfl⟩
      have T5' : Box h5 g0.size (f9L (k, a, c, 0, 0, 0, false, ⟨none, 0, 0⟩, ⟨none, 0, 0⟩)) := T5
      have U5 := F3.upU hle u5
      refine PO.call (rflag_f U5.wf R5) fun fl h6 ⟨R6, V6, u6⟩ => ?_
      have B6 : FB g0 b g0.size _ h6 (k, a, c, 0, 0, 0, false, ⟨none, 0, 0⟩, ⟨none, 0, 0⟩) ⟨k, a, c, 0, 0, 0, false, [], []⟩ := ⟨U5.trans u6 (fun A _ e => e), Box.ku u6 (fun e => hne e.symm) T5', R6, ⟨⟨rfl, rfl, rfl, rfl, rfl, rfl, rfl⟩, rdB_nil _, rdR_nil _⟩, fr_nil _, fr_nil _, by simp, by simp⟩
      refine B6.st hb0 hle (by omega) rfl fun h7 T7 R7 U7 u7 => ?_
      have T7' : Box h7 g0.size (f9L (k, a, c, 0, 0, 0, fl, ⟨none, 0, 0⟩, ⟨none, 0, 0⟩)) := T7
      refine PO.call (rdata_f U7.wf R7) fun s8 h8 ⟨⟨d, rd, hd, V8⟩, R8, u8, f8⟩ => ?_
      have B8 : FB g0 b g0.size _ h8 (k, a, c, 0, 0, 0, fl, ⟨none, 0, 0⟩, ⟨none, 0, 0⟩) ⟨k, a, c, 0, 0, 0, fl, [], []⟩ := ⟨U7.trans u8 (fun A _ e => e), Box.ku u8 (fun e => hne e.symm) T7', R8, ⟨⟨rfl, rfl, rfl, rfl, rfl, rfl, rfl⟩, rdB_nil _, rdR_nil _⟩, fr_nil _, fr_nil _, by simp, by simp⟩
      refine B8.st hb0 hle (by omega) rfl fun h9 T9 R9 U9 u9 => ?_
      have T9' : Box h9 g0.size (f9L (k, a, c, 0, 0, 0, fl, s8, ⟨none, 0, 0⟩)) := T9
      have hfa : Fr (g0.size + 1) s8 := f8.mono T7'.blt
      obtain ⟨o1, o2⟩ := retOut (p := rawP k) (v := ⟨k, a, c, 0, 0, 0, fl, d, []⟩) (by
        unfold rawP
        rw [if_neg (by omega), if_pos (by assumption), stp_bind _ V5]
        exact (stp_bind _ V6).trans (stp_bind _ V8))
      exact .retL (fjOut (v := ⟨k, a, c, 0, 0, 0, fl, d, []⟩) ⟨U9, T9', R9, ⟨⟨rfl, rfl, rfl, rfl, rfl, rfl, rfl⟩, Rd.up rd u9 (fun p hp => by have := hfa p hp; omega), rdR_nil _⟩, hfa, fr_nil _, hd, by simp⟩ o1 o2)
    · exact leafI F3 hb0 hle [1, 3, 2, 4] rfl (by omega) (by intro j hj; simp at hj; rcases hj with rfl | rfl | rfl | rfl <;> exact ⟨0, rfl, ok0⟩) (fun ns => (k, ns.getD 0 0, ns.getD 2 0, ns.getD 1 0, ns.getD 3 0, 0, false, ⟨none, 0, 0⟩, ⟨none, 0, 0⟩)) (fun ns => ⟨k, ns.getD 0 0, ns.getD 2 0, ns.getD 1 0, ns.getD 3 0, 0, false, [], []⟩) (by unfold rawP; rw [if_neg (by omega), if_neg (by omega), if_pos (by omega)]) (by intro ns hl; match ns, hl with | [_, _, _, _], _ => rfl) (fun ns h => ⟨⟨⟨rfl, rfl, rfl, rfl, rfl, rfl, rfl⟩, rdB_nil _, rdR_nil _⟩, fr_nil _, fr_nil _, by simp, by simp⟩)
    · exact leafI F3 hb0 hle [1, 3] rfl (by omega) (by intro j hj; simp at hj; rcases hj with rfl | rfl <;> exact ⟨0, rfl, ok0⟩) (fun ns => (k, ns.getD 0 0, 0, ns.getD 1 0, 0, 0, false, ⟨none, 0, 0⟩, ⟨none, 0, 0⟩)) (fun ns => ⟨k, ns.getD 0 0, 0, ns.getD 1 0, 0, 0, false, [], []⟩) (by unfold rawP; rw [if_neg (by omega), if_neg (by omega), if_neg (by omega), if_pos (by omega)]) (by intro ns hl; match ns, hl with | [_, _], _ => rfl) (fun ns h => ⟨⟨⟨rfl, rfl, rfl, rfl, rfl, rfl, rfl⟩, rdB_nil _, rdR_nil _⟩, fr_nil _, fr_nil _, by simp, by simp⟩)
    · exact leafI F3 hb0 hle [1, 3] rfl (by omega) (by intro j hj; simp at hj; rcases hj with rfl | rfl <;> exact ⟨0, rfl, ok0⟩) (fun ns => (k, ns.getD 0 0, 0, ns.getD 1 0, 0, 0, false, ⟨none, 0, 0⟩, ⟨none, 0, 0⟩)) (fun ns => ⟨k, ns.getD 0 0, 0, ns.getD 1 0, 0, 0, false, [], []⟩) (by unfold rawP; rw [if_neg (by omega), if_neg (by omega), if_neg (by omega), if_pos (by omega)]) (by intro ns hl; match ns, hl with | [_, _], _ => rfl) (fun ns h => ⟨⟨⟨rfl, rfl, rfl, rfl, rfl, rfl, rfl⟩, rdB_nil _, rdR_nil _⟩, fr_nil _, fr_nil _, by simp, by simp⟩)
    · exact leafI F3 hb0 hle [3] rfl (by omega) (by intro j hj; simp at hj; subst hj; exact ⟨0, rfl, ok0⟩) (fun ns => (k, 0, 0, ns.getD 0 0, 0, 0, false, ⟨none, 0, 0⟩, ⟨none, 0, 0⟩)) (fun ns => ⟨k, 0, 0, ns.getD 0 0, 0, 0, false, [], []⟩) (by unfold rawP; rw [if_neg (by omega), if_neg (by omega), if_neg (by omega), if_neg (by omega), if_pos (by omega)]) (by intro ns hl; match ns, hl with | [_], _ => rfl) (fun ns h => ⟨⟨⟨rfl, rfl, rfl, rfl, rfl, rfl, rfl⟩, rdB_nil _, rdR_nil _⟩, fr_nil _, fr_nil _, by simp, by simp⟩)
    · exact leafI F3 hb0 hle [3] rfl (by omega) (by intro j hj; simp at hj; subst hj; exact ⟨0, rfl, ok0⟩) (fun ns => (k, 0, 0, ns.getD 0 0, 0, 0, false, ⟨none, 0, 0⟩, ⟨none, 0, 0⟩)) (fun ns => ⟨k, 0, 0, ns.getD 0 0, 0, 0, false, [], []⟩) (by unfold rawP; rw [if_neg (by omega), if_neg (by omega), if_neg (by omega), if_neg (by omega), if_pos (by omega)]) (by intro ns hl; match ns, hl with | [_], _ => rfl) (fun ns h => ⟨⟨⟨rfl, rfl, rfl, rfl, rfl, rfl, rfl⟩, rdB_nil _, rdR_nil _⟩, fr_nil _, fr_nil _, by simp, by simp⟩)
    · refine PO.takeF [3] rfl (by omega) U3.wf R3 T3' (by intro j hj; simp at hj; subst hj; exact ⟨0, rfl, ok0⟩) hne fun ns h5 hl hok T5 R5 V5 u5 => ?_
      obtain ⟨a, rfl⟩ : ∃ a, ns = [a] := by
        match ns, hl with
        | [a], _ => exact ⟨a, rfl⟩
      have T5' : Box h5 g0.size (f9L (k, 0, 0, a, 0, 0, false, ⟨none, 0, 0⟩, ⟨none, 0, 0⟩)) := T5
      have U5 := F3.upU hle u5
      refine PO.call (rflag_f U5.wf R5) fun fl h6 ⟨R6, V6, u6⟩ => ?_
      have B6 : FB g0 b g0.size _ h6 (k, 0, 0, a, 0, 0, false, ⟨none, 0, 0⟩, ⟨none, 0, 0⟩) ⟨k, 0, 0, a, 0, 0, false, [], []⟩ := ⟨U5.trans u6 (fun A _ e => e), Box.ku u6 (fun e => hne e.symm) T5', R6, ⟨⟨rfl, rfl, rfl, rfl, rfl, rfl, rfl⟩, rdB_nil _, rdR_nil _⟩, fr_nil _, fr_nil _, by simp, by simp⟩
      refine B6.st hb0 hle (by omega) rfl fun h7 T7 R7 U7 u7 => ?_
      have T7' : Box h7 g0.size (f9L (k, 0, 0, a, 0, 0, fl, ⟨none, 0, 0⟩, ⟨none, 0, 0⟩)) := T7
      obtain ⟨o1, o2⟩ := retOut (p := rawP k) (v := ⟨k, 0, 0, a, 0, 0, fl, [], []⟩) (by
        unfold rawP
        rw [if_neg (by omega), if_neg (by omega), if_neg (by omega), if_neg (by omega), if_neg (by omega), if_pos (by omega), stp_bind _ V5]
        exact stp_bind _ V6)
      exact .retL (fjOut (v := ⟨k, 0, 0, a, 0, 0, fl, [], []⟩) ⟨U7, T7', R7, ⟨⟨rfl, rfl, rfl, rfl, rfl, rfl, rfl⟩, rdB_nil _, rdR_nil _⟩, fr_nil _, fr_nil _, by simp, by simp⟩ o1 o2)
    · refine PO.call (rdata_f U3.wf R3) fun s8 h8 ⟨⟨d, rd, hd, V8⟩, R8, u8, f8⟩ => ?_
      have B8 : FB g0 b g0.size _ h8 (k, 0, 0, 0, 0, 0, false, ⟨none, 0, 0⟩, ⟨none, 0, 0⟩) ⟨k, 0, 0, 0, 0, 0, false, [], []⟩ := ⟨U3.trans u8 (fun A _ e => e), Box.ku u8 (fun e => hne e.symm) T3', R8, ⟨⟨rfl, rfl, rfl, rfl, rfl, rfl, rfl⟩, rdB_nil _, rdR_nil _⟩, fr_nil _, fr_nil _, by simp, by simp⟩
      refine B8.st hb0 hle (by omega) rfl fun h9 T9 R9 U9 u9 => ?_
      have T9' : Box h9 g0.size (f9L (k, 0, 0, 0, 0, 0, false, s8, ⟨none, 0, 0⟩)) := T9
      have hfa : Fr (g0.size + 1) s8 := f8.mono T3'.blt
      obtain ⟨o1, o2⟩ := retOut (p := rawP k) (v := ⟨k, 0, 0, 0, 0, 0, false, d, []⟩) (by
        unfold rawP
        rw [if_neg (by omega), if_neg (by omega), if_neg (by omega), if_neg (by omega), if_neg (by omega), if_neg (by omega), if_pos (by omega)]
        exact stp_bind _ V8)
      exact .retL (fjOut (v := ⟨k, 0, 0, 0, 0, 0, false, d, []⟩) ⟨U9, T9', R9, ⟨⟨rfl, rfl, rfl, rfl, rfl, rfl, rfl⟩, Rd.up rd u9 (fun p hp => by have := hfa p hp; omega), rdR_nil _⟩, hfa, fr_nil _, hd, by simp⟩ o1 o2)
    · exact leafI F3 hb0 hle [1] rfl (by omega) (by intro j hj; simp at hj; subst hj; exact ⟨0, rfl, ok0⟩) (fun ns => (k, ns.getD 0 0, 0, 0, 0, 0, false, ⟨none, 0, 0⟩, ⟨none, 0, 0⟩)) (fun ns => ⟨k, ns.getD 0 0, 0, 0, 0, 0, false, [], []⟩) (by unfold rawP; rw [if_neg (by omega), if_neg (by omega), if_neg (by omega), if_neg (by omega), if_neg (by omega), if_neg (by omega), if_neg (by omega), if_pos (by omega)]) (by intro ns hl; match ns, hl with | [_], _ => rfl) (fun ns h => ⟨⟨⟨rfl, rfl, rfl, rfl, rfl, rfl, rfl⟩, rdB_nil _, rdR_nil _⟩, fr_nil _, fr_nil _, by simp, by simp⟩)
    · exact leafI F3 hb0 hle [1] rfl (by omega) (by intro j hj; simp at hj; subst hj; exact ⟨0, rfl, ok0⟩) (fun ns => (k, ns.getD 0 0, 0, 0, 0, 0, false, ⟨none, 0, 0⟩, ⟨none, 0, 0⟩)) (fun ns => ⟨k, ns.getD 0 0, 0, 0, 0, 0, false, [], []⟩) (by unfold rawP; rw [if_neg (by omega), if_neg (by omega), if_neg (by omega), if_neg (by omega), if_neg (by omega), if_neg (by omega), if_neg (by omega), if_pos (by omega)]) (by intro ns hl; match ns, hl with | [_], _ => rfl) (fun ns h => ⟨⟨⟨rfl, rfl, rfl, rfl, rfl, rfl, rfl⟩, rdB_nil _, rdR_nil _⟩, fr_nil _, fr_nil _, by simp, by simp⟩)
    · obtain ⟨o1, o2⟩ := retOut (st := s3) (st' := s3) (p := rawP k) (v := ⟨k, 0, 0, 0, 0, 0, false, [], []⟩) (by
        unfold rawP
        rw [if_neg (by omega), if_neg (by omega), if_neg (by omega), if_neg (by omega), if_neg (by omega), if_neg (by omega), if_neg (by omega), if_neg (by omega)])
      exact .retL (fjOut F3 o1 o2)
  · rintro ⟨st, h5⟩ ⟨es, y, v, B5, V5⟩
    have es' : st = (some ⟨b, 0, some 0⟩, some ⟨h.size, 0, some 0⟩, some ⟨g0.size, 0, some 0⟩) := es
    subst es'
    have B5' : FB g0 b g0.size (stO (stp s3 (rawP k))) h5 y v := B5
    have U5 := B5'.up
    have hF : pFrame l = stp (stO (stp s3 (rawP k))) (finF v) := by
      show stp (.inr l) (bindP (pT 1) fun ns => bindP (rawP (ns.getD 0 0)) finF) = _
      rw [hraw]; exact stp_bind _ V5
    generalize stO (stp s3 (rawP k)) = s5 at *
    have hld := B5'.ld
    have hls := B5'.ls
    refine PO.join (fun st => ∃ h6, st = ((some ⟨h.size, 0, some 0⟩, some ⟨g0.size, 0, some 0⟩), h6) ∧ Box h6 g0.size (f9L y) ∧ RdrA h6 b (stO (pFrame l)) ∧ isV (pFrame l) v ∧ FRd h6 y v ∧ UP (· = b) g0 h6) ?_ ?_
    · refine .ptr (PO.ldF B5'.box (PO.call (FRight_f U5.wf B5'.frd (by omega) (by omega)) fun a h6 ⟨ea, x6⟩ => ?_))
      subst ea
      have T6 := Box.kx x6 B5'.box
      have R6 := B5'.rdr.ex x6
      have fr6 := B5'.frd.ex x6
      refine .condND (fun hn => PO.call (fail_f x6.wf R6 (by decide)) fun _ h7 ⟨R7, u7⟩ => .retL ⟨h7, rfl, Box.ku u7 (fun e => hne e.symm) T6, ?_, ?_, ⟨fr6.e, Rd.up fr6.data u7 (fun a ha e => by have := B5'.fd a ha; omega), Rd.up fr6.spans u7 (fun a ha e => by have := B5'.fs a ha; omega)⟩, (U5.ex x6).trans u7 (fun A _ e => e)⟩) (fun hv => .retL ⟨h6, rfl, T6, ?_, ?_, fr6, U5.ex x6⟩)
      · rw [hF]
        cases s5 with
        | inl e => exact R7
        | inr r => simpa [stp, finF, hn, stO, failS] using R7
      · rw [hF]
        intro x r hx
        cases s5 with
        | inl e => simp [stp] at hx
        | inr r => simp [stp, finF, hn] at hx
      · rw [hF]
        cases s5 with
        | inl e => exact R6
        | inr r => simpa [stp, finF, hv, stO] using R6
      · rw [hF]
        intro x r hx
        cases s5 with
        | inl e => simp [stp] at hx
        | inr r => simp [stp, finF, hv] at hx; exact hx.1.symm
    · rintro _ ⟨h6, rfl, T6, R6, V6, fr6, U6⟩
      have hhb : ¬ h.size = b := by omega
      have B6 : Box h6 h.size (f9L f90) := Box.ku U6 hhb B0
      refine .ptr (PO.ldF T6 (.ptr ?_))
      refine PO.stZ B6 U6.wf rfl rfl fun h7 B7 u7 z7 w7 => .ptr (PO.ldF (x := y) B7 (.ret ⟨⟨v, ⟨fr6.e, Rd.up fr6.data u7 (fun a ha e => by have := B5'.fd a ha; omega), Rd.up fr6.spans u7 (fun a ha e => by have := B5'.fs a ha; omega)⟩, V6⟩, R6.up U6.wf B6 (noU8_f9 _) (by omega) u7, ?_, fun a ha => ?_, fun a ha => ?_⟩))
      · exact ⟨by have := x0.size; have := U6.size; have := u7.size; omega, u7.nro.trans (U6.nro.trans x0.nro), w7, fun A hA hn => (u7.same A (by have := U6.size; omega) (by omega)).trans ((U6.same A (by omega) hn).trans (x0.same A hA))⟩
      · have := B5'.fd a ha; omega
      · have := B5'.fs a ha; omega
end Go.Proofs.Ythiccnmplgdheaa.T
