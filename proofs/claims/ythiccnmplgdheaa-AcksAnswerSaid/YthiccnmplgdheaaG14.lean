/- Lemmas about the typed texts (joined: SAck2 LAck1 SFrame4). -/
import Derived.Test.YthiccnmplgdheaaG13
import Derived.Test.YthiccnmplgdheaaG12
/- Chapter 7's functions over the typed texts: spans taken out, turned about, a frame of them. -/
set_option linter.unusedVariables false
set_option linter.unusedSimpArgs false
namespace Go.Proofs.Ythiccnmplgdheaa.T
open Go Go.Abs Go.Proofs
def OwnR (h : H) (s : Sl) (l : List Run) : Prop := OwnS 2 h s (runsV l)
theorem OwnR.rd {h : H} {s : Sl} {l : List Run} (o : OwnR h s l) : RdR h s l := OwnS.rd o
theorem runsV_set : ∀ (l : List Run) (i : Nat) (r : Run), i < l.length → (runsV l).take (i * 2) ++ [.int .i64 r.1, .int .i64 r.2] ++ (runsV l).drop (i * 2 + 2) = runsV (l.set i r)
  | q :: l, 0, r, _ => by simp [runsV]
  | q :: l, i + 1, r, h => by
    have := runsV_set l i r (by simpa using h)
    rw [show (i + 1) * 2 = i * 2 + 1 + 1 by omega, show i * 2 + 1 + 1 + 2 = i * 2 + 2 + 1 + 1 by omega]
    simp only [runsV, List.take_succ_cons, List.drop_succ_cons, List.set_cons_succ, List.cons_append]
    rw [← this]
theorem runsV_set2 : ∀ (l : List Run) (i : Nat) (y : Int), i < l.length → (runsV l).take (i * 2 + 1) ++ [.int .i64 y] ++ (runsV l).drop (i * 2 + 1 + 1) = runsV (l.set i ((l.getD i (0, 0)).1, y))
  | q :: l, 0, y, _ => by simp [runsV]
  | q :: l, i + 1, y, h => by
    have := runsV_set2 l i y (by simpa using h)
    rw [show (i + 1) * 2 + 1 = i * 2 + 1 + 1 + 1 by omega, show i * 2 + 1 + 1 + 1 + 1 = i * 2 + 1 + 1 + 1 + 1 by omega]
    simp only [runsV, List.take_succ_cons, List.drop_succ_cons, List.set_cons_succ, List.cons_append, List.getD_cons_succ]
    rw [← this]
theorem OwnR.set {α : Type} {Q : α → Prop} {h : H} {s : Sl} {l : List Run} {a : Addr} (o : OwnR h s l) (w : WF h) (ha : s.base = some a) {i : Nat} (hi : i < l.length) (r : Run) {g : H → Option α}
    (p : ∀ h', OwnR h' s (l.set i r) → UP (· = a.block) h h' → h'.size = h.size → WF h' → PO (g h') Q) : PO (bindO (Abs.stZ [.int .i64, .int .i64] h (add a (i * 2)) (r : Int × Int)) g) Q := by
  have hl := runsV_length l
  obtain ⟨h', e, o', u, z⟩ := OwnS.stC o w ha (i * 2) [.int .i64 r.1, .int .i64 r.2] (by simp; omega) rfl
  refine .op (x := h') e (p h' ?_ u z u.wf)
  unfold OwnR
  rw [← runsV_set l i r hi]
  exact o'
theorem OwnR.set2 {α : Type} {Q : α → Prop} {h : H} {s : Sl} {l : List Run} {a : Addr} (o : OwnR h s l) (w : WF h) (ha : s.base = some a) {i : Nat} (hi : i < l.length) (y : Int) {g : H → Option α}
    (p : ∀ h', OwnR h' s (l.set i ((l.getD i (0, 0)).1, y)) → UP (· = a.block) h h' → h'.size = h.size → WF h' → PO (g h') Q) : PO (bindO (Abs.st1 h (add (add a (i * 2)) 1) (.int .i64 y)) g) Q := by
  have hl := runsV_length l
  obtain ⟨h', e, o', u, z⟩ := OwnS.stC o w ha (i * 2 + 1) [.int .i64 y] (by simp; omega) rfl
  rw [add_add]
  refine .op (x := h') e (p h' ?_ u z u.wf)
  unfold OwnR
  rw [← runsV_set2 l i y hi]
  exact o'
theorem cloneR_f {h : H} {s : Sl} {l : List Run} (w : WF h) (hr : RdR h s l) (hl : l.length ≤ 2 ^ 40) : PO (slices_Clone_2_int_2_int s h) (fun (a, h1) => OwnR h1 a l ∧ EX h h1 ∧ Fr h.size a ∧ BufR h1 a l) := by
  unfold slices_Clone_2_int_2_int
  refine .op (eqLT_nil s hr.nil) (.cond (fun c => .ret ?_) (fun c => ?_))
  · have hn : s.base = none := by simpa using c
    have hv := (Rd.nilOf hr hn).1
    have hl0 : l = [] := by cases l with | nil => rfl | cons r q => simp [runsV] at hv
    subst hl0
    exact ⟨OwnS.nil 2 h, EX.refl w, fr_nil _, buf_nil 2 h⟩
  · refine PO.newB (l := runsV []) w fun h1 x1 B1 z1 w1 => ?_
    have b0 : BufR h1 ⟨some ⟨h.size, 0, some 0⟩, 0, 0⟩ [] := B1.buf w1 rfl (by unfold B63; omega)
    have hlen := RdR.len hr
    obtain ⟨s', h', e, k1, x2, b2, _, f2⟩ := appT_ok (e := 36) (bytes := 16) (by omega) (by unfold B63; omega) w1 b0 (hr.ex x1) (runsV_oneC _) (by simp only; omega) (by simp only; omega)
    have b2' : BufR h' s' l := b2
    exact PO.callE e (.ret ⟨b2'.own, x2 h x1 (fr_new h _ _), f2 _ x1.size (fr_new h _ _), b2'⟩)
theorem clipR_f {h : H} {s : Sl} {l : List Run} (hr : OwnR h s l) (hl : l.length ≤ 2 ^ 40) : ∃ s', slices_Clip_2_int_2_int s h = some (s', h) ∧ OwnR h s' l ∧ s'.base = s.base := by
  have hlen := RdR.len hr.rd
  obtain ⟨s', e, r, _, hb⟩ := clip_base (by omega) (by unfold B63; omega) hr.rd (by rw [hlen]; unfold B63; omega)
  refine ⟨s', ?_, OwnS.sub hr hb r (Nat.le_refl _), hb⟩
  unfold slices_Clip_2_int_2_int
  rw [e, bindO_some]
theorem Spans_f {h : H} (w : WF h) {b k : Nat} {L : List Value} {l : List Run} (S : SetAt h b k L l) (hl : l.length ≤ 2 ^ 40) :
    PO (spans_Set_Spans (some (add ⟨b, 0, some 0⟩ k)) h) (fun (a, h1) => OwnR h1 a l ∧ EX h h1 ∧ Fr h.size a) := by
  unfold spans_Set_Spans
  obtain ⟨s, e1, r1, n1⟩ := S.ex
  refine .ptr ?_
  rw [addA_zero]
  refine .ldL S.box e1 (PO.call (cloneR_f w r1 hl) fun a h1 ⟨o1, x1, f1, _⟩ => ?_)
  obtain ⟨s', e2, o2, hb⟩ := clipR_f o1 hl
  exact .callE e2 (.ret ⟨o2, x1, fun p hp => f1 p (hb ▸ hp)⟩)
theorem reverse_f {h0 h : H} {s : Sl} {l : List Run} (x : EX h0 h) (f : Fr h0.size s) (o : OwnR h s l) (hl : l.length ≤ 2 ^ 40) : PO (slices_Reverse_2_int_2_int s h) (fun (_, h1) => OwnR h1 s l.reverse ∧ EX h0 h1) := by
  unfold slices_Reverse_2_int_2_int
  have hlen := RdR.len o.rd
  rw [w64 (n := ((s.len : Nat) : Int) - 1) (by omega) (by omega)]
  refine PO.loop (fun m st => ∃ (i : Nat) (j : Int) (h' : H) (c : List Run), st = ((s, ((i : Int), j)), h') ∧ (i : Int) + j = (l.length : Int) - 1 ∧ m + i = l.length ∧ EX h0 h' ∧ OwnR h' s c ∧ c.length = l.length ∧ ∀ k : Nat, k < l.length → c[k]? = if (k : Int) < i ∨ j < (k : Int) then l[l.length - 1 - k]? else l[k]?) ?_ l.length _ ⟨0, (l.length : Int) - 1, h, l, by rw [hlen]; rfl, by omega, rfl, x, o, rfl, fun k hk => by rw [if_neg (by omega)]⟩
  rintro m st ⟨i, j, h', c, rfl, hij, hm, hx, oc, hcl, hc⟩
  unfold slices_Reverse_2_int_2_int_l1
  refine .condD (fun hlt => ?_) (fun hge => ?_)
  · have hlt' : (i : Int) < j := hlt
    obtain ⟨jn, hj⟩ : ∃ jn : Nat, j = (jn : Int) := ⟨j.toNat, by omega⟩
    subst hj
    refine .ixR oc.rd (by omega) (by omega) fun a1 b1 hb1 ha1 e1 _ _ => .op e1 (.ixR oc.rd (by omega) (by omega) fun a2 b2 hb2 ha2 e2 _ _ => .op e2 ?_)
    rw [hb1] at hb2; cases hb2
    simp only [Int.toNat_natCast] at ha1 ha2 ⊢
    refine .ixR oc.rd (by omega) (by omega) fun a3 b3 hb3 ha3 _ _ _ => ?_
    rw [hb1] at hb3; cases hb3
    simp only [Int.toNat_natCast] at ha3
    subst ha3
    refine oc.set hx.wf hb1 (by omega) (c.getD jn (0, 0)) fun h2 o2 u2 z2 w2 => ?_
    refine .ixR o2.rd (by omega) (by simp; omega) fun a4 b4 hb4 ha4 _ _ _ => ?_
    rw [hb1] at hb4; cases hb4
    simp only [Int.toNat_natCast] at ha4
    subst ha4
    have hfb := f b1 hb1
    have y2 : EX h0 h2 := u2.ex0 hx (fun A hA e => by omega)
    refine o2.set w2 hb1 (by simp; omega) (c.getD i (0, 0)) fun h3 o3 u3 z3 w3 => .retL ?_
    have y3 : EX h0 h3 := u3.ex0 y2 (fun A hA e => by omega)
    refine ⟨m - 1, by omega, i + 1, (jn : Int) - 1, h3, _, ?_, by omega, by omega, y3, o3, by simp; exact hcl, fun k hk => ?_⟩
    · rw [w64 (n := (i : Int) + 1) (by omega) (by omega), w64 (n := (jn : Int) - 1) (by omega) (by omega)]; rfl
    · have gi : c[i]? = some (c.getD i (0, 0)) := by rw [List.getD_eq_getElem?_getD, List.getElem?_eq_getElem (by omega)]; rfl
      have gj : c[jn]? = some (c.getD jn (0, 0)) := by rw [List.getD_eq_getElem?_getD, List.getElem?_eq_getElem (by omega)]; rfl
      rw [List.getElem?_set, List.length_set, List.getElem?_set]
      by_cases k1 : jn = k
      · subst k1
        rw [if_pos rfl, if_pos (by omega), if_pos (by omega), ← gi, hc i (by omega), if_neg (by omega)]
        congr 1; omega
      · rw [if_neg k1]
        by_cases k2 : i = k
        · subst k2
          rw [if_pos rfl, if_pos (by omega), if_pos (by omega), ← gj, hc jn (by omega), if_neg (by omega)]
          congr 1; omega
        · rw [if_neg k2, hc k hk]
          by_cases k3 : (k : Int) < i ∨ (jn : Int) < k
          · rw [if_pos k3, if_pos (by omega)]
          · rw [if_neg k3, if_neg (by omega)]
  · refine .retR ⟨?_, hx⟩
    have hge' : ¬ (i : Int) < j := hge
    have : c = l.reverse := by
      apply List.ext_getElem?
      intro k
      by_cases hk : k < l.length
      · rw [hc k hk, List.getElem?_reverse hk]
        split
        · rfl
        · congr 1; omega
      · rw [List.getElem?_eq_none (by omega), List.getElem?_eq_none (by simp; omega)]
    rw [← this]; exact oc
def decR (r : Run) : Run := (r.1, r.2 - 1)
def frV (l : List Run) : List Run := (l.reverse.take 8).map decR
theorem Frame_f {h : H} (w : WF h) {b : Nat} {l : List Run} {owed : Bool} {nw : Int} (S : Seen h b l owed nw) (hl : l.length ≤ 1000) (hn : ∀ r ∈ l, 0 ≤ r.1 ∧ r.1 < r.2 ∧ r.2 ≤ 4611686018427387904) :
    PO (acks_Seen_Frame (some ⟨b, 0, some 0⟩) h) (fun (a, h1) => EX h h1 ∧ a.2 = decide (l ≠ []) ∧ FRd h1 a.1 (if l = [] then ⟨0, 0, 0, 0, 0, 0, false, [], []⟩ else ⟨2, 0, 0, 0, 0, 0, false, [], frV l⟩)) := by
  unfold acks_Seen_Frame P.acks_Seen_Frame
  refine PO.newB w fun h1 x1 B1 z1 w1 => .ptr ?_
  obtain ⟨s, hs⟩ := S
  refine PO.call (Spans_f w1 (hs.kx x1) (by omega)) fun s2 h2 ⟨o2, x2, f2⟩ => ?_
  refine PO.call (reverse_f x2 f2 o2 (by omega)) fun _ h3 ⟨o3, x3⟩ => ?_
  have hl3 := RdR.len o3.rd
  have hrl : l.reverse.length = l.length := by simp
  have em : (if 8 < ((s2.len : Nat) : Int) then 8 else ((s2.len : Nat) : Int)) = ((min 8 l.length : Nat) : Int) := by split <;> omega
  rw [em]
  obtain ⟨s4, e4, r4, l4, hv4, f4⟩ := sl_hi (hi := ((min 8 l.length : Nat) : Int)) (by omega) (by unfold B63; omega) o3.rd (by omega) (by omega)
  have hb4 : s4.base = s2.base := by rw [hv4]; exact slV_base 2 s2 _
  have hrv : (runsV l.reverse).take (((min 8 l.length : Nat) : Int).toNat * 2) = runsV (l.reverse.take 8) := by
    have tk : ∀ (q : List Run) (n : Nat), (runsV q).take (n * 2) = runsV (q.take n) := by
      intro q
      induction q with
      | nil => intro n; simp [runsV]
      | cons r q ih =>
        intro n
        cases n with
        | zero => simp [runsV]
        | succ n => rw [show (n + 1) * 2 = n * 2 + 1 + 1 by omega]; simp [runsV, ih]
    rw [tk, Int.toNat_natCast]
    congr 1
    rw [← hrl]
    by_cases hh : 8 ≤ l.reverse.length
    · rw [Nat.min_eq_left hh]
    · rw [Nat.min_eq_right (by omega), List.take_of_length_le (Nat.le_refl _), List.take_of_length_le (by omega)]
  rw [hrv] at r4
  have o4 : OwnR h3 s4 (l.reverse.take 8) := OwnS.sub o3 hb4 r4 (by rw [runsV_length, runsV_length]; simp; omega)
  refine .op e4 ?_
  obtain ⟨s5, e5, o5, hb5⟩ := clipR_f o4 (by simp; omega)
  refine .callE e5 ?_
  have hl5 := RdR.len o5.rd
  have f5 : Fr h1.size s5 := fun a ha => f2 a (by rw [← hb4, ← hb5]; exact ha)
  have B3 := Box.kx x3 B1
  have hlt : (l.reverse.take 8).length = min 8 l.length := by simp
  refine .condE (fun hz => ?_) (fun hz => ?_)
  · have h0 : l = [] := List.eq_nil_of_length_eq_zero (by omega)
    refine PO.stZ B3 x3.wf rfl rfl fun h4 B4 u4 z4 w4 => PO.ldF (x := f90) B4 (.ret ⟨u4.ex0 (x1.trans x3) (fun A hA e => by omega), ?_, ?_⟩)
    · rw [decide_eq_false (fun hh => hh h0)]
    · rw [if_pos h0]
      exact ⟨⟨rfl, rfl, rfl, rfl, rfl, rfl, rfl⟩, rdB_nil _, rdR_nil _⟩
  · have h0 : l ≠ [] := fun hh => hz (by subst hh; rw [hl5]; simp)
    have hbnd : ∀ r ∈ l.reverse.take 8, 0 ≤ r.1 ∧ r.1 < r.2 ∧ r.2 ≤ 4611686018427387904 := fun r hr => hn r (by have := List.mem_of_mem_take hr; simpa using this)
    refine PO.joinD (PO.mono (P := fun st => ∃ h4, st = Sum.inl ((some ⟨h.size, 0, some 0⟩, s5), h4) ∧ EX h1 h4 ∧ RdR h4 s5 (frV l)) ?_ ?_)
    · generalize hq : l.reverse.take 8 = q at *
      refine PO.loop (fun m st => ∃ (k : Nat) (h' : H), st = ((some ⟨h.size, 0, some 0⟩, (s5, (((s5.len : Nat) : Int), (k : Int)))), h') ∧ m + k = q.length ∧ EX h1 h' ∧ OwnR h' s5 ((q.take k).map decR ++ q.drop k)) ?_ q.length _ ⟨0, h3, rfl, rfl, x3, by simpa using o5⟩
      rintro m st ⟨k, h', rfl, hm, hx, ok⟩
      unfold P.acks_Seen_Frame_l1
      refine .condD (fun c => ?_) (fun c => ?_)
      · have hkl : k < q.length := by omega
        have hcl : ((q.take k).map decR ++ q.drop k).length = q.length := by simp; omega
        have hck : ((q.take k).map decR ++ q.drop k).getD k (0, 0) = q.getD k (0, 0) := by
          rw [List.getD_eq_getElem?_getD, List.getElem?_append_right (by simp; omega), List.getElem?_drop]
          simp only [List.length_map, List.length_take]
          rw [show k + (k - min k q.length) = k by omega]
          rfl
        have hqm : q.getD k (0, 0) ∈ q := by rw [List.getD_eq_getElem?_getD, List.getElem?_eq_getElem hkl]; exact List.getElem_mem hkl
        refine .ixR ok.rd (by omega) (by omega) fun a1 b1 hb1 ha1 _ _ e1 => .ixA (by omega) (by omega) ?_
        rw [show (1 : Int).toNat * 1 = 1 from rfl]
        refine .op e1 (.ixR ok.rd (by omega) (by omega) fun a2 b2 hb2 ha2 _ _ _ => .ixA (by omega) (by omega) ?_)
        rw [hb1] at hb2; cases hb2
        simp only [Int.toNat_natCast] at ha2 ⊢
        subst ha2
        rw [hck]
        have hbb := hbnd _ hqm
        rw [w64 (n := (q.getD k (0, 0)).2 - 1) (by omega) (by omega)]
        refine ok.set2 hx.wf hb1 (by omega) _ fun h4 o4 u4 z4 w4 => .retL ⟨m - 1, by omega, k + 1, h4, ?_, by omega, u4.ex0 hx (fun A hA e => by have := f5 b1 hb1; omega), ?_⟩
        · rw [w64 (n := (k : Int) + 1) (by omega) (by omega)]; rfl
        · rw [hck] at o4
          have : ((q.take k).map decR ++ q.drop k).set k ((q.getD k (0, 0)).1, (q.getD k (0, 0)).2 - 1) = (q.take (k + 1)).map decR ++ q.drop (k + 1) := by
            have hle : (List.map decR (List.take k q)).length ≤ k := by simp; omega
            rw [List.set_append, if_neg (by omega)]
            simp only [List.length_map, List.length_take]
            rw [show k - min k q.length = 0 by omega]
            have hd : q.drop k = q.getD k (0, 0) :: q.drop (k + 1) := by
              rw [List.drop_eq_getElem_cons (by omega)]; simp [List.getD, hkl]
            have ht : q.take (k + 1) = q.take k ++ [q.getD k (0, 0)] := by
              rw [List.take_add_one, List.getD_eq_getElem?_getD, List.getElem?_eq_getElem hkl]; rfl
            rw [hd, ht]
            simp [decR]
          rw [← this]; exact o4
      · have : k = q.length := by omega
        subst this
        refine .retR ⟨h', rfl, hx, ?_⟩
        have := ok.rd
        rw [List.take_of_length_le (Nat.le_refl _), List.drop_length, List.append_nil] at this
        unfold frV; rw [hq]; exact this
    · rintro _ ⟨h4, rfl, x4, r4'⟩
      show PO _ _
      have B4 := Box.kx x4 B1
      refine .ptr (PO.stZ B4 x4.wf rfl rfl fun h5 B5 u5 z5 w5 => .ptr (PO.ldF (x := (2, 0, 0, 0, 0, 0, false, ⟨none, 0, 0⟩, s5)) B5 (.ret ⟨u5.ex0 (x1.trans x4) (fun A hA e => by omega), ?_, ?_⟩)))
      · rw [decide_eq_true h0]
      · rw [if_neg h0]
        refine ⟨⟨rfl, rfl, rfl, rfl, rfl, rfl, rfl⟩, rdB_nil _, ?_⟩
        exact Rd.up r4' u5 (fun a ha e => by have := f5 a ha; omega)
end Go.Proofs.Ythiccnmplgdheaa.T
/- Chapter 7's example and the law AcksOnce over the typed texts. -/
set_option linter.unusedVariables false
set_option linter.unusedSimpArgs false
set_option maxRecDepth 100000
namespace Go.Proofs.Ythiccnmplgdheaa.T
open Go Go.Abs Go.Proofs
theorem known7_f {h : H} (w : WF h) : PO (law7_known h) (fun (a, h1) => a = true ∧ EX h h1) := by
  unfold law7_known P.law7_known
  refine PO.call (New_f w) fun a h1 ⟨e, S1, x1, z1⟩ => ?_
  subst e
  refine .op (x := true) rfl (.condT (.callE (Newest_f S1) (.condE (fun _ => ?_) (fun hh => absurd rfl hh))))
  refine PO.call (Note_f x1.wf S1 (by simp) (by omega) 3 (by omega) false) fun a h2 ⟨e, u2, S2⟩ => ?_
  have hok : okA [] (-1) 3 := by decide
  rw [if_pos hok, if_pos hok] at S2
  have e' : a = true := by rw [e]; exact decide_eq_true hok
  subst e'
  have hl2 : noteL [] (-1) 3 = [(3, 4)] := by decide
  rw [hl2] at S2
  refine .condT (PO.call (Note_f u2.wf S2 (by simp) (by omega) 3 (by omega) true) fun a h3 ⟨e, u3, S3⟩ => ?_)
  have hno : ¬ okA [(3, 4)] (max (-1) 3) 3 := by decide
  have hl3 : noteL [(3, 4)] (max (-1) 3) 3 = [(3, 4)] := by decide
  rw [if_neg hno, if_neg hno, hl3] at S3
  have e' : a = false := by rw [e]; exact decide_eq_false hno
  subst e'
  have y3 : EX h h3 := u3.ex0 (u2.ex0 x1 (fun A hA e => by omega)) (fun A hA e => by omega)
  refine .condT (.ptr ?_)
  obtain ⟨s3, hs3⟩ := S3
  refine PO.call (Has_f u3.wf hs3 (by simp) 3) fun a h4 ⟨e, x4⟩ => ?_
  have e' : a = true := by rw [e]; decide
  subst e'
  refine .condT (.ptr (.ldB (Box.kx x4 hs3.box) rfl ?_))
  have S4 : Seen h4 h.size [(3, 4)] (false || false) (max (-1) 3) := ⟨s3, hs3.kx x4⟩
  refine .chk' rfl (.callE (Newest_f S4) (.ret ⟨rfl, y3.trans x4⟩))
/-! what a law keeps -/
structure J (l : List Run) (hd : List Bool) (nw : Int) : Prop where
  len : hd.length = 400
  nrm : Nrm (-1) 4611686018427387904 l
  rng : -1 ≤ nw ∧ nw < 400
  iff : ∀ k : Nat, k < 400 → (mem l k ↔ hd.getD k false = true ∧ nw - 64 ≤ k)
  bnd : ∀ n, mem l n → 0 ≤ n ∧ n ≤ nw ∧ nw - 64 ≤ n
  top : 0 ≤ nw → hd.getD nw.toNat false = true
  low : ∀ k : Nat, k < 400 → hd.getD k false = true → (k : Int) ≤ nw
theorem J.small {l : List Run} {hd : List Bool} {nw : Int} (j : J l hd nw) : Nrm (nw - 65) (nw + 1) l ∧ l.length ≤ 66 := by
  have h1 : Nrm (nw - 65) (nw + 1) l := j.nrm.of_mem fun n hn => by have := j.bnd n hn; omega
  refine ⟨h1, ?_⟩
  have := Nrm.length h1 (by omega)
  omega
theorem getD_set (hd : List Bool) (k i : Nat) (h : k < hd.length) : (hd.set k true).getD i false = if i = k then true else hd.getD i false := by
  rw [List.getD_eq_getElem?_getD, List.getElem?_set, List.getD_eq_getElem?_getD]
  by_cases e : k = i
  · rw [if_pos e, if_pos h, if_pos e.symm]; rfl
  · rw [if_neg e, if_neg (fun x => e x.symm)]
theorem J.step {l : List Run} {hd : List Bool} {nw : Int} (j : J l hd nw) {k : Nat} (hk : k < 400) (ok : okA l nw k) : J (noteL l nw k) (hd.set k true) (max nw k) := by
  have hw := j.rng
  have hm : ∀ n : Int, 0 ≤ n → (mem (noteL l nw k) n ↔ (mem l n ∨ n = k) ∧ max nw k - 64 ≤ n) := fun n hn => note_mem j.nrm ok (by omega) hn
  have hnrm := note_nrm j.nrm ok
  have hkl : k < hd.length := by rw [j.len]; exact hk
  refine ⟨by simp [j.len], hnrm, by omega, fun i hi => ?_, fun n hn => ?_, fun h0 => ?_, fun i hi hh => ?_⟩
  · rw [hm i (by omega), j.iff i hi, getD_set hd k i hkl]
    by_cases e : i = k
    · subst e; rw [if_pos rfl]; exact ⟨fun h => ⟨rfl, h.2⟩, fun h => ⟨.inr rfl, h.2⟩⟩
    · rw [if_neg e]
      exact ⟨fun h => ⟨by rcases h.1 with h1 | h1; exact h1.1; exact absurd (by omega) e, h.2⟩, fun h => ⟨.inl ⟨h.1, by omega⟩, h.2⟩⟩
  · have h0 : 0 ≤ n := by
      obtain ⟨r, hr, a, b⟩ := hn
      have := hnrm.low r hr; omega
    have := (hm n h0).1 hn
    rcases this.1 with h1 | h1
    · have := j.bnd n h1; omega
    · omega
  · rw [getD_set hd k _ hkl]
    split
    · rfl
    · rename_i hne
      have : max nw k = nw := by omega
      rw [this] at hne ⊢
      exact j.top (by omega)
  · rw [getD_set hd k i hkl] at hh
    split at hh
    · omega
    · have := j.low i hi hh; omega
theorem map_set_bool (hd : List Bool) (k : Nat) : (hd.map Value.bool).set k (.bool true) = (hd.set k true).map Value.bool := by rw [List.map_set]
theorem map_get_bool {hd : List Bool} {k : Nat} (h : k < hd.length) : (hd.map Value.bool)[k]? = some (.bool (hd.getD k false)) := by
  rw [List.getElem?_map, List.getD_eq_getElem?_getD, List.getElem?_eq_getElem h]; rfl
theorem runs_bool : ∀ {l : List Run} {hd : List Bool} {v : Value}, v ∈ runsV l → v ∈ hd.map Value.bool → False
  | r :: l, hd, v, h1, h2 => by
    simp only [runsV, List.mem_cons] at h1
    rcases h1 with rfl | rfl | h1
    · simp at h2
    · simp at h2
    · exact runs_bool h1 h2
def RdO (h : H) (s : Sl) (bs : List Bool) : Prop := Rd 1 h s (bs.map .bool)
/-! an Ack's frame is right -/
theorem nrm_pair : ∀ {l : List Run} {lo e : Int}, Nrm lo e l → l.Pairwise (fun a b => a.2 < b.1)
  | [], _, _, _ => List.Pairwise.nil
  | r :: l, lo, e, ⟨h1, h2, h3, h4⟩ => List.Pairwise.cons (fun q hq => by have := h4.low q hq; omega) (nrm_pair h4)
theorem rsp_of : ∀ (q : List Run) (p : Option Int), q.Pairwise (fun a b => b.2 < a.1) → (∀ r ∈ q, 0 ≤ r.1 ∧ r.1 < r.2 ∧ r.2 ≤ 4611686018427387904) → (∀ u, p = some u → ∀ r ∈ q, r.2 < u) → RSp p (q.map decR)
  | [], _, _, _, _ => trivial
  | r :: q, p, hp, hb, hu => by
    have h1 := hb r (List.mem_cons_self ..)
    have hp' := List.pairwise_cons.1 hp
    refine ⟨⟨⟨h1.1, ?_⟩, ?_, ?_⟩, ?_, fun u e => ?_, rsp_of q _ hp'.2 (fun x hx => hb x (List.mem_cons_of_mem _ hx)) fun u e x hx => ?_⟩
    · show r.1 ≤ _; omega
    · show 0 ≤ r.2 - 1; omega
    · show r.2 - 1 ≤ _; omega
    · show r.1 ≤ r.2 - 1; omega
    · have := hu u e r (List.mem_cons_self ..)
      show 2 ≤ u - (r.2 - 1); omega
    · cases e; exact hp'.1 x hx
theorem ack_right {l : List Run} (hn : Nrm (-1) 4611686018427387904 l) (h0 : l ≠ []) : FR ⟨2, 0, 0, 0, 0, 0, false, [], frV l⟩ := by
  have o0 : okN 0 := ⟨by omega, by omega⟩
  refine ⟨⟨⟨show (1 : Int) ≤ 2 by omega, show (2 : Int) ≤ 12 by omega⟩, ⟨rfl, rfl, rfl, rfl, rfl, rfl, rfl, rfl⟩, ⟨o0, o0, o0, o0⟩, Nat.zero_le _⟩, ?_⟩
  show RSs (frV l)
  have hl : 0 < l.length := List.length_pos_iff.2 h0
  refine ⟨?_, by simp [frV]; omega, by simp [frV]; omega⟩
  unfold frV
  refine rsp_of _ _ ?_ ?_ (fun u e => by cases e)
  · exact ((List.pairwise_reverse.2 (nrm_pair hn))).sublist (List.take_sublist ..)
  · intro r hr
    have hm : r ∈ l := by have := List.mem_of_mem_take hr; simpa using this
    have := hn.low r hm; omega
theorem fr_top {l : List Run} {nw : Int} {hd : List Bool} (j : J l hd nw) (h0 : l ≠ []) : ∃ q, frV l = q ∧ 0 < q.length ∧ (q.getD 0 (0, 0)).2 = nw ∧ 0 ≤ nw := by
  have hr : l.reverse ≠ [] := by simpa using h0
  obtain ⟨r, q, hq⟩ := List.exists_cons_of_ne_nil hr
  have hm : r ∈ l := by have : r ∈ l.reverse := by rw [hq]; exact List.mem_cons_self ..
                        simpa using this
  have hlow := j.nrm.low r hm
  have h1 := j.bnd (r.2 - 1) ⟨r, hm, by omega, by omega⟩
  have hw := j.rng
  have htop : mem l nw := by
    have := (j.iff nw.toNat (by omega)).2 ⟨j.top (by omega), by omega⟩
    rwa [Int.toNat_of_nonneg (by omega)] at this
  obtain ⟨x, hx, a, b⟩ := htop
  have hp := List.pairwise_reverse.2 (nrm_pair j.nrm)
  rw [hq] at hp
  have hp' := List.pairwise_cons.1 hp
  have hxr : x ∈ r :: q := by rw [← hq]; simpa using hx
  have hle : x.2 ≤ r.2 := by
    rcases List.mem_cons.1 hxr with rfl | hx2
    · exact Int.le_refl _
    · have := hp'.1 x hx2; omega
  refine ⟨frV l, rfl, ?_, ?_, by omega⟩
  · unfold frV; rw [hq]; simp
  · unfold frV; rw [hq]
    show r.2 - 1 = nw
    omega
theorem repl_getD (n k : Nat) : (List.replicate n false).getD k false = false := by
  rw [List.getD_eq_getElem?_getD]
  cases h : (List.replicate n false)[k]? with
  | none => rfl
  | some v => exact List.eq_of_mem_replicate (List.mem_of_getElem? h)
end Go.Proofs.Ythiccnmplgdheaa.T
/- Chapter 5's functions over the typed texts: the numbers that a frame is laid as. -/
set_option linter.unusedVariables false
set_option linter.unusedSimpArgs false
namespace Go.Proofs.Ythiccnmplgdheaa.T
open Go Go.Abs Go.Proofs
def ngo : Option Int → List Run → List Int
  | _, [] => []
  | p, r :: l => (match p with | none => r.2 | some q => q - r.2) :: (r.2 - r.1) :: ngo (some r.1) l
def flagV (b : Bool) : Int := if b then 1 else 0
def numsV (v : FV) : List Int :=
  if v.kind = 2 then v.kind :: (v.spans.length : Int) :: ngo none v.spans
  else if v.kind = 3 then [v.kind, v.id, v.off, flagV v.fin, (v.data.length : Int)]
  else if v.kind = 4 then [v.kind, v.id, v.a, v.off, v.b]
  else if v.kind = 5 ∨ v.kind = 7 then [v.kind, v.id, v.a]
  else if v.kind = 6 ∨ v.kind = 12 then [v.kind, v.a]
  else if v.kind = 8 then [v.kind, v.a, flagV v.fin]
  else if v.kind = 9 then [v.kind, (v.data.length : Int)]
  else if v.kind = 10 ∨ v.kind = 11 then [v.kind, v.id]
  else [v.kind]
theorem flag_f (b : Bool) (h : H) : frame_flag b h = some (flagV b, h) := by cases b <;> rfl
theorem rdI_of {h : H} {b n : Nat} {L : List Value} {ns : List Int} (B : Box h b L) (w : WF h) (hL : L = ns.map (.int .i64)) (hn : ns.length = n) (hb : n < B63) : RdI .i64 h ⟨some ⟨b, 0, some 0⟩, n, n⟩ ns := by
  subst hL
  exact B.rd w (by simp; exact hn) (capOk_self _ _ hb)
theorem PO.appI {α : Type} {Q : α → Prop} {h0 h : H} {out x : Sl} {acc ns : List Int} {g : Sl → H → Option α} (hb : Buf 1 h out (acc.map (.int .i64))) (hx : EX h0 h) (hf : Fr h0.size out) (r : RdI .i64 h x ns) (hl : acc.length + ns.length ≤ 2 ^ 40)
    (k : ∀ out1 h2, Buf 1 h2 out1 ((acc ++ ns).map (.int .i64)) → EX h0 h2 → Fr h0.size out1 → KP h h2 → PO (g out1 h2) Q) : PO (bind2 (appT 3 1 8 h out x) g) Q := by
  have l1 := hb.rd.len
  have l2 := r.len
  simp at l1
  obtain ⟨s', h', e, k1, x2, b2, _, f2⟩ := appT_ok (e := 3) (bytes := 8) (by omega) (by unfold B63; omega) hx.wf hb r (oneC_ints .i64 _) (by omega) (by omega)
  refine PO.callE e (k s' h' ?_ (x2 _ hx hf) (f2 _ hx.size hf) k1)
  rw [List.map_append]; exact b2
theorem RSp.all : ∀ {l : List Run} {p : Option Int}, RSp p l → ∀ r ∈ l, (0 ≤ r.1 ∧ r.1 ≤ r.2 ∧ r.2 ≤ 4611686018427387903)
  | [], _, _, r, hr => by simp at hr
  | q :: l, p, h, r, hr => by
    rcases List.mem_cons.1 hr with e | e
    · subst e; have := h.1; unfold okN at this; have := h.2.1; omega
    · exact RSp.all h.2.2.2 r e
theorem ngo_length : ∀ (l : List Run) (p : Option Int), (ngo p l).length = 2 * l.length
  | [], _ => rfl
  | r :: l, p => by simp [ngo, ngo_length l]; omega
theorem numbers_f {h : H} (w : WF h) {x : F9} {v : FV} (hx : FRd h x v) (hr : v.kind = 2 → RSs v.spans) : PO (frame_numbers x h) (fun (a, h1) => RdI .i64 h1 a (numsV v) ∧ EX h h1) := by
  unfold frame_numbers
  obtain ⟨k, id, off, va, vb, note, fin, data, spans⟩ := v
  obtain ⟨xk, xid, xoff, xa, xb, xnote, xfin, xdata, xspans⟩ := x
  obtain ⟨⟨e1, e2, e3, e4, e5, e6, e7⟩, rd, rs⟩ := hx
  simp only at e1 e2 e3 e4 e5 e6 e7 rd rs hr
  subst e1 e2 e3 e4 e5 e6 e7
  have hdl := RdB.len rd
  refine PO.newB w fun g0 x0 B0 z0 w0 => ?_
  have hn0 := w0.nro
  have b63 : ∀ n : Nat, n < 10 → n < B63 := fun n hn => by unfold B63; omega
  refine PO.joinD (PO.mono (P := Sum.elim (fun s => s = (some ⟨h.size, 0, some 0⟩, s.2) ∧ EX h s.2 ∧ numsV ⟨xk, xid, xoff, xa, xb, xnote, xfin, data, spans⟩ = [xk] ∧ Box s.2 h.size (f9L (xk, xid, xoff, xa, xb, xnote, xfin, xdata, xspans))) (fun (a, h1) => RdI .i64 h1 a (numsV ⟨xk, xid, xoff, xa, xb, xnote, xfin, data, spans⟩) ∧ EX h h1)) ?_ ?_)
  · refine .ldI B0 rfl (.condE (fun c2 => ?_) (fun c2 => ?_))
    · have hrs := hr c2
      have hl8 := hrs.2.2
      have hall := RSp.all hrs.1
      have hsl := RdR.len rs
      refine .ldI B0 rfl (.ldL B0 rfl (PO.newB w0 fun h1 x1 B1 z1 w1 => ?_))
      have C0 := Box.kx x1 B0
      have b1 : Buf 1 h1 ⟨some ⟨g0.size, 0, some 0⟩, 2, 2⟩ ([xk, (spans.length : Int)].map (.int .i64)) := by
        have := B1.buf (sz := 1) (n := 2) w1 rfl (by unfold B63; omega)
        rw [hsl] at this
        exact this
      refine PO.joinD (.ldL C0 rfl ?_)
      refine PO.loop (fun m st => ∃ (i : Nat) (out : Sl) (h' : H) (acc : List Int), st = ((some ⟨h.size, 0, some 0⟩, (out, (xspans, (((xspans.len : Nat) : Int), (i : Int))))), h') ∧ m + i = spans.length ∧ EX g0 h' ∧ Fr g0.size out ∧ Buf 1 h' out (acc.map (.int .i64)) ∧ acc.length = 2 + 2 * i ∧ acc ++ ngo (prevOf spans i) (spans.drop i) = xk :: (spans.length : Int) :: ngo none spans) ?_ spans.length _ ⟨0, _, h1, [xk, (spans.length : Int)], rfl, rfl, x1, fr_new _ _ _, b1, rfl, rfl⟩
      rintro m st ⟨i, out, h', acc, rfl, hm, hx', hf, hb, hal, hacc⟩
      unfold P.frame_numbers_l1
      refine .condD (fun c => ?_) (fun c => ?_)
      · have hil : i < spans.length := by omega
        have hd : spans.drop i = spans.getD i (0, 0) :: spans.drop (i + 1) := by
          rw [List.drop_eq_getElem_cons hil]; simp [List.getD, hil]
        have hpn : prevOf spans (i + 1) = some (spans.getD i (0, 0)).1 := by unfold prevOf; rw [if_neg (by omega)]; rfl
        have hrm : spans.getD i (0, 0) ∈ spans := by rw [List.getD_eq_getElem?_getD, List.getElem?_eq_getElem hil]; exact List.getElem_mem hil
        have hrb := hall _ hrm
        have rs1 := (rs.ex x0).ex hx'
        have hwi : IntKind.wrap .i64 ((i : Int) + 1) = ((i + 1 : Nat) : Int) := by rw [w64 (by omega) (by omega)]; rfl
        refine PO.joinD (.ixR rs1 (by omega) (by omega) fun a _ _ _ ez _ _ => .op ez ?_)
        simp only [Int.toNat_natCast]
        generalize hR : spans.getD i (0, 0) = r at *
        refine PO.newB hx'.wf fun h2 x2 B2 z2 w2 => PO.stZ B2 w2 rfl rfl fun h3 B3 u3 z3 w3 => ?_
        have B3' : Box h3 h'.size [.int .i64 r.1, .int .i64 r.2] := B3
        have y3 : EX g0 h3 := u3.ex0 (hx'.trans x2) (fun A hA e => by have := hx'.size; omega)
        have y3' : EX h' h3 := u3.ex0 x2 (fun A hA e => by omega)
        have b3 := hb.ex hx'.wf y3'
        have fin1 : ∀ (out1 : Sl) (h4 : H) (acc1 : List Int), acc1 = acc ++ [match prevOf spans i with | none => r.2 | some q => q - r.2, r.2 - r.1] → EX g0 h4 → Fr g0.size out1 → Buf 1 h4 out1 (acc1.map (.int .i64)) → ∃ n', n' < m ∧ ∃ (i1 : Nat) (out : Sl) (h' : H) (acc : List Int), (((some ⟨h.size, 0, some 0⟩ : Option Addr), (out1, (xspans, (((xspans.len : Nat) : Int), IntKind.wrap .i64 ((i : Int) + 1))))), h4) = (((some ⟨h.size, 0, some 0⟩ : Option Addr), (out, (xspans, (((xspans.len : Nat) : Int), (i1 : Int))))), h') ∧ n' + i1 = spans.length ∧ EX g0 h' ∧ Fr g0.size out ∧ Buf 1 h' out (acc.map (.int .i64)) ∧ acc.length = 2 + 2 * i1 ∧ acc ++ ngo (prevOf spans i1) (spans.drop i1) = xk :: (spans.length : Int) :: ngo none spans := by
          intro out1 h4 acc1 ea y f b
          refine ⟨m - 1, by omega, i + 1, out1, h4, acc1, by rw [hwi], by omega, y, f, b, by rw [ea]; simp; omega, ?_⟩
          rw [ea, hpn, ← hacc, hd]
          simp [ngo]
        refine .condE (fun ci => ?_) (fun ci => ?_)
        · have hi0 : i = 0 := by omega
          have hp : prevOf spans i = none := by unfold prevOf; rw [if_pos hi0]
          refine .ixA (by omega) (by omega) (.ldI B3' rfl (.ixA (by omega) (by omega) (.ldI B3' rfl (.ixA (by omega) (by omega) (.ldI B3' rfl ?_)))))
          rw [w64 (n := r.2 - r.1) (by omega) (by omega)]
          refine PO.newB w3 fun h4 x4 B4 z4 w4 => ?_
          have ri : RdI .i64 h4 ⟨some ⟨h3.size, 0, some 0⟩, 2, 2⟩ [r.2, r.2 - r.1] := rdI_of B4 w4 rfl rfl (b63 _ (by omega))
          refine PO.appI (b3.ex w3 x4) (y3.trans x4) hf ri (by simp; omega) fun out1 h5 b5 y5 f5 _ => .retL (show PO _ _ from .retL ?_)
          exact fin1 out1 h5 _ (by rw [hp]) y5 f5 b5
        · have hip : 0 < i := by
            have : (i : Int) ≠ 0 := ci
            omega
          have hpv : prevOf spans i = some (spans.getD (i - 1) (0, 0)).1 := by unfold prevOf; rw [if_neg (by omega)]
          have hqm : spans.getD (i - 1) (0, 0) ∈ spans := by rw [List.getD_eq_getElem?_getD, List.getElem?_eq_getElem (by omega)]; exact List.getElem_mem (by omega)
          have hqb := hall _ hqm
          refine .ptr (PO.letGrow w3 fun h4 x4 z4 w4 n4 => ?_)
          have D0 : Box h4 h.size (f9L (xk, xid, xoff, xa, xb, xnote, xfin, xdata, xspans)) := Box.kx (y3.trans x4) B0
          have B4 := Box.kx x4 B3'
          refine .ldL D0 rfl ?_
          rw [w64 (n := (i : Int) - 1) (by omega) (by omega), show (i : Int) - 1 = ((i - 1 : Nat) : Int) by omega]
          refine .ixR ((rs.ex x0).ex (y3.trans x4)) (by omega) (by omega) fun a1 _ _ _ _ e1 _ => .ixA (by omega) (by omega) ?_
          simp only [Int.toNat_natCast] at e1
          refine .op e1 (.ixA (by omega) (by omega) (.ldI B4 rfl (.ixA (by omega) (by omega) (.ldI B4 rfl (.ixA (by omega) (by omega) (.ldI B4 rfl ?_))))))
          rw [w64 (n := r.2 - r.1) (by omega) (by omega), w64 (n := (spans.getD (i - 1) (0, 0)).1 - r.2) (by omega) (by omega)]
          have hn3 := w3.nro
          refine PO.addNew w4 (by decide) (n4 16 (by omega)) (by omega) (by rw [x4.nro]; omega) fun h5 N5 B5 => .addNil ?_
          have y5 : EX g0 h5 := N5.ex0 (y3.trans x4) (by have := y3.size; omega)
          have ri : RdI .i64 h5 ⟨some ⟨h3.size + 16, 0, some 0⟩, 2, 2⟩ [(spans.getD (i - 1) (0, 0)).1 - r.2, r.2 - r.1] := rdI_of B5 N5.wf rfl rfl (b63 _ (by omega))
          refine PO.appI (N5.buf w4 (b3.ex w3 x4)) y5 hf ri (by simp; omega) fun out1 h6 b6 y6 f6 k6 => ?_
          refine .addOld (k6.som _ B5.ne) (.addNil (PO.letTick y6.wf fun h7 x7 z7 w7 => .retL (show PO _ _ from .retL ?_)))
          exact fin1 out1 h7 _ (by rw [hpv]) (y6.trans x7) f6 (b6.ex y6.wf x7)
      · have : i = spans.length := by omega
        subst this
        rw [List.drop_length] at hacc
        simp only [ngo, List.append_nil] at hacc
        refine .retR ?_
        show PO _ _
        refine .retR ⟨?_, x0.trans hx'⟩
        unfold numsV
        rw [if_pos c2, ← hacc]
        exact hb.rd
    · clear hr rs rd
      repeat' (first
        | refine PO.chk (by simp [slEq_self]) ?_
        | refine .condE (fun e => ?_) (fun e => ?_)
        | refine .ldI (by assumption) rfl ?_
        | refine .ldB (by assumption) rfl ?_
        | refine .ldL (by assumption) rfl ?_
        | refine .callE (flag_f _ _) ?_
        | (refine PO.letGrow w0 fun h1 x1 z1 w1 n1 => ?_; have C1 := Box.kx x1 B0)
        | refine PO.addOff (by decide) (PO.addNil ?_)
        | refine PO.addNew w1 (by decide) (n1 _ (by omega)) (by omega) (by rw [x1.nro]; omega) fun h2 N2 B2 => PO.addNil (PO.letTick N2.wf fun h3 x3 z3 w3 => PO.retR ⟨rdI_of (Box.kx x3 B2) w3 ?_ ?_ (b63 _ (by omega)), (N2.ex0 (x0.trans x1) (by omega)).trans x3⟩)
        | refine PO.newB w0 fun h2 x2 B2 z2 w2 => PO.retR ⟨rdI_of B2 w2 ?_ ?_ (b63 _ (by omega)), x0.trans x2⟩
        | refine PO.retL ⟨rfl, x0, ?_, B0⟩)
      all_goals dsimp only at *
      all_goals (first | (exfalso; omega) | simp [numsV, hdl, *])
  · rintro (⟨s, h1⟩ | ⟨a, h1⟩) hp
    · obtain ⟨es, x1, en, B1⟩ := hp
      have es' : s = some ⟨h.size, 0, some 0⟩ := congrArg Prod.fst es
      subst es'
      have x1' : EX h h1 := x1
      have B1' : Box h1 h.size (f9L (xk, xid, xoff, xa, xb, xnote, xfin, xdata, xspans)) := B1
      refine .ptr (.ldI B1' rfl (PO.newB x1'.wf fun h2 x2 B2 z2 w2 => .ret ⟨rdI_of B2 w2 ?_ ?_ (b63 _ (by omega)), x1'.trans x2⟩))
      · rw [en]; rfl
      · rw [en]; rfl
    · exact hp
end Go.Proofs.Ythiccnmplgdheaa.T
