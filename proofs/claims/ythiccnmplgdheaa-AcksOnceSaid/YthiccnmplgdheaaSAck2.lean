/- Chapter 7's functions over the typed texts: spans taken out, turned about, a frame of them. -/
-- SEAT b
import Derived.Test.YthiccnmplgdheaaSAck1
import Derived.Test.YthiccnmplgdheaaSFrame3
set_option linter.unusedVariables false
set_option linter.unusedSimpArgs false
namespace Go.Proofs.Ythiccnmplgdheaa.T
open Go Go.Abs Go.Proofs
def OwnR (h : H) (s : Sl) (l : List Run) : Prop := OwnS 2 h s (runsV l)
theorem OwnR.rd {h : H} {s : Sl} {l : List Run} (o : OwnR h s l) : RdR h s l := OwnS.rd o
theorem runsV_set : ∀ (l : List Run) (i : Nat) (r : Run), i < l.length → (runsV l).take (i * 2) ++ [.int .i64 r.1, .int .i64 r.2] ++ (runsV l).drop (i * 2 + 2) = runsV (l.set i r)
  | q :: l, 0, r, _ => by simp [runsV]
  | q :: l, i + 1, r, h => by
    have := runsV_set l i r (by simpa using h)
    rw [show (i + 1) * 2 = i * 2 + 1 + 1 by omega, show i * 2 + 1 + 1 + 2 = i * 2 + 2 + 1 + 1 by omega]
    simp only [runsV, List.take_succ_cons, List.drop_succ_cons, List.set_cons_succ, List.cons_append]
    rw [← this]
theorem runsV_set2 : ∀ (l : List Run) (i : Nat) (y : Int), i < l.length → (runsV l).take (i * 2 + 1) ++ [.int .i64 y] ++ (runsV l).drop (i * 2 + 1 + 1) = runsV (l.set i ((l.getD i (0, 0)).1, y))
  | q :: l, 0, y, _ => by simp [runsV]
  | q :: l, i + 1, y, h => by
    have := runsV_set2 l i y (by simpa using h)
    rw [show (i + 1) * 2 + 1 = i * 2 + 1 + 1 + 1 by omega, show i * 2 + 1 + 1 + 1 + 1 = i * 2 + 1 + 1 + 1 + 1 by omega]
    simp only [runsV, List.take_succ_cons, List.drop_succ_cons, List.set_cons_succ, List.cons_append, List.getD_cons_succ]
    rw [← this]
theorem OwnR.set {α : Type} {Q : α → Prop} {h : H} {s : Sl} {l : List Run} {a : Addr} (o : OwnR h s l) (w : WF h) (ha : s.base = some a) {i : Nat} (hi : i < l.length) (r : Run) {g : H → Option α}
    (p : ∀ h', OwnR h' s (l.set i r) → UP (· = a.block) h h' → h'.size = h.size → WF h' → PO (g h') Q) : PO (bindO (Abs.stZ [.int .i64, .int .i64] h (add a (i * 2)) (r : Int × Int)) g) Q := by
  have hl := runsV_length l
  obtain ⟨h', e, o', u, z⟩ := OwnS.stC o w ha (i * 2) [.int .i64 r.1, .int .i64 r.2] (by simp; omega) rfl
  refine .op (x := h') e (p h' ?_ u z u.wf)
  unfold OwnR
  rw [← runsV_set l i r hi]
  exact o'
theorem OwnR.set2 {α : Type} {Q : α → Prop} {h : H} {s : Sl} {l : List Run} {a : Addr} (o : OwnR h s l) (w : WF h) (ha : s.base = some a) {i : Nat} (hi : i < l.length) (y : Int) {g : H → Option α}
    (p : ∀ h', OwnR h' s (l.set i ((l.getD i (0, 0)).1, y)) → UP (· = a.block) h h' → h'.size = h.size → WF h' → PO (g h') Q) : PO (bindO (Abs.st1 h (add (add a (i * 2)) 1) (.int .i64 y)) g) Q := by
  have hl := runsV_length l
  obtain ⟨h', e, o', u, z⟩ := OwnS.stC o w ha (i * 2 + 1) [.int .i64 y] (by simp; omega) rfl
  rw [add_add]
  refine .op (x := h') e (p h' ?_ u z u.wf)
  unfold OwnR
  rw [← runsV_set2 l i y hi]
  exact o'
theorem cloneR_f {h : H} {s : Sl} {l : List Run} (w : WF h) (hr : RdR h s l) (hl : l.length ≤ 2 ^ 40) : PO (slices_Clone_2_int_2_int s h) (fun (a, h1) => OwnR h1 a l ∧ EX h h1 ∧ Fr h.size a ∧ BufR h1 a l) := by
  unfold slices_Clone_2_int_2_int
  refine .op (eqLT_nil s hr.nil) (.cond (fun c => .ret ?_) (fun c => ?_))
  · have hn : s.base = none := by simpa using c
    have hv := (Rd.nilOf hr hn).1
    have hl0 : l = [] := by cases l with | nil => rfl | cons r q => simp [runsV] at hv
    subst hl0
    exact ⟨OwnS.nil 2 h, EX.refl w, fr_nil _, buf_nil 2 h⟩
  · refine PO.newB (l := runsV []) w fun h1 x1 B1 z1 w1 => ?_
    have b0 : BufR h1 ⟨some ⟨h.size, 0, some 0⟩, 0, 0⟩ [] := B1.buf w1 rfl (by unfold B63; omega)
    have hlen := RdR.len hr
    obtain ⟨s', h', e, k1, x2, b2, _, f2⟩ := appT_ok (e := 36) (bytes := 16) (by omega) (by unfold B63; omega) w1 b0 (hr.ex x1) (runsV_oneC _) (by simp only; omega) (by simp only; omega)
    have b2' : BufR h' s' l := b2
    exact PO.callE e (.ret ⟨b2'.own, x2 h x1 (fr_new h _ _), f2 _ x1.size (fr_new h _ _), b2'⟩)
theorem clipR_f {h : H} {s : Sl} {l : List Run} (hr : OwnR h s l) (hl : l.length ≤ 2 ^ 40) : ∃ s', slices_Clip_2_int_2_int s h = some (s', h) ∧ OwnR h s' l ∧ s'.base = s.base := by
  have hlen := RdR.len hr.rd
  obtain ⟨s', e, r, _, hb⟩ := clip_base (by omega) (by unfold B63; omega) hr.rd (by rw [hlen]; unfold B63; omega)
  refine ⟨s', ?_, OwnS.sub hr hb r (Nat.le_refl _), hb⟩
  unfold slices_Clip_2_int_2_int
  rw [e, bindO_some]
theorem Spans_f {h : H} (w : WF h) {b k : Nat} {L : List Value} {l : List Run} (S : SetAt h b k L l) (hl : l.length ≤ 2 ^ 40) :
    PO (spans_Set_Spans (some (add ⟨b, 0, some 0⟩ k)) h) (fun (a, h1) => OwnR h1 a l ∧ EX h h1 ∧ Fr h.size a) := by
  unfold spans_Set_Spans
  obtain ⟨s, e1, r1, n1⟩ := S.ex
  refine .ptr ?_
  rw [addA_zero]
  refine .ldL S.box e1 (PO.call (cloneR_f w r1 hl) fun a h1 ⟨o1, x1, f1, _⟩ => ?_)
  obtain ⟨s', e2, o2, hb⟩ := clipR_f o1 hl
  exact .callE e2 (.ret ⟨o2, x1, fun p hp => f1 p (hb ▸ hp)⟩)
theorem reverse_f {h0 h : H} {s : Sl} {l : List Run} (x : EX h0 h) (f : Fr h0.size s) (o : OwnR h s l) (hl : l.length ≤ 2 ^ 40) : PO (slices_Reverse_2_int_2_int s h) (fun (_, h1) => OwnR h1 s l.reverse ∧ EX h0 h1) := by
  unfold slices_Reverse_2_int_2_int
  have hlen := RdR.len o.rd
  rw [w64 (n := ((s.len : Nat) : Int) - 1) (by omega) (by omega)]
  refine PO.loop (fun m st => ∃ (i : Nat) (j : Int) (h' : H) (c : List Run), st = ((s, ((i : Int), j)), h') ∧ (i : Int) + j = (l.length : Int) - 1 ∧ m + i = l.length ∧ EX h0 h' ∧ OwnR h' s c ∧ c.length = l.length ∧ ∀ k : Nat, k < l.length → c[k]? = if (k : Int) < i ∨ j < (k : Int) then l[l.length - 1 - k]? else l[k]?) ?_ l.length _ ⟨0, (l.length : Int) - 1, h, l, by rw [hlen]; rfl, by omega, rfl, x, o, rfl, fun k hk => by rw [if_neg (by omega)]⟩
  rintro m st ⟨i, j, h', c, rfl, hij, hm, hx, oc, hcl, hc⟩
  unfold slices_Reverse_2_int_2_int_l1
  refine .condD (fun hlt => ?_) (fun hge => ?_)
  · have hlt' : (i : Int) < j := hlt
    obtain ⟨jn, hj⟩ : ∃ jn : Nat, j = (jn : Int) := ⟨j.toNat, by omega⟩
    subst hj
    refine .ixR oc.rd (by omega) (by omega) fun a1 b1 hb1 ha1 e1 _ _ => .op e1 (.ixR oc.rd (by omega) (by omega) fun a2 b2 hb2 ha2 e2 _ _ => .op e2 ?_)
    rw [hb1] at hb2; cases hb2
    simp only [Int.toNat_natCast] at ha1 ha2 ⊢
    refine .ixR oc.rd (by omega) (by omega) fun a3 b3 hb3 ha3 _ _ _ => ?_
    rw [hb1] at hb3; cases hb3
    simp only [Int.toNat_natCast] at ha3
    subst ha3
    refine oc.set hx.wf hb1 (by omega) (c.getD jn (0, 0)) fun h2 o2 u2 z2 w2 => ?_
    refine .ixR o2.rd (by omega) (by simp; omega) fun a4 b4 hb4 ha4 _ _ _ => ?_
    rw [hb1] at hb4; cases hb4
    simp only [Int.toNat_natCast] at ha4
    subst ha4
    have hfb := f b1 hb1
    have y2 : EX h0 h2 := u2.ex0 hx (fun A hA e => by omega)
    refine o2.set w2 hb1 (by simp; omega) (c.getD i (0, 0)) fun h3 o3 u3 z3 w3 => .retL ?_
    have y3 : EX h0 h3 := u3.ex0 y2 (fun A hA e => by omega)
    refine ⟨m - 1, by omega, i + 1, (jn : Int) - 1, h3, _, ?_, by omega, by omega, y3, o3, by simp; exact hcl, fun k hk => ?_⟩
    · rw [w64 (n := (i : Int) + 1) (by omega) (by omega), w64 (n := (jn : Int) - 1) (by omega) (by omega)]; rfl
    · have gi : c[i]? = some (c.getD i (0, 0)) := by rw [List.getD_eq_getElem?_getD, List.getElem?_eq_getElem (by omega)]; rfl
      have gj : c[jn]? = some (c.getD jn (0, 0)) := by rw [List.getD_eq_getElem?_getD, List.getElem?_eq_getElem (by omega)]; rfl
      rw [List.getElem?_set, List.length_set, List.getElem?_set]
      by_cases k1 : jn = k
      · subst k1
        rw [if_pos rfl, if_pos (by omega), if_pos (by omega), ← gi, hc i (by omega), if_neg (by omega)]
        congr 1; omega
      · rw [if_neg k1]
        by_cases k2 : i = k
        · subst k2
          rw [if_pos rfl, if_pos (by omega), if_pos (by omega), ← gj, hc jn (by omega), if_neg (by omega)]
          congr 1; omega
        · rw [if_neg k2, hc k hk]
          by_cases k3 : (k : Int) < i ∨ (jn : Int) < k
          · rw [if_pos k3, if_pos (by omega)]
          · rw [if_neg k3, if_neg (by omega)]
  · refine .retR ⟨?_, hx⟩
    have hge' : ¬ (i : Int) < j := hge
    have : c = l.reverse := by
      apply List.ext_getElem?
      intro k
      by_cases hk : k < l.length
      · rw [hc k hk, List.getElem?_reverse hk]
        split
        · rfl
        · congr 1; omega
      · rw [List.getElem?_eq_none (by omega), List.getElem?_eq_none (by simp; omega)]
    rw [← this]; exact oc
def decR (r : Run) : Run := (r.1, r.2 - 1)
def frV (l : List Run) : List Run := (l.reverse.take 8).map decR
theorem Frame_f {h : H} (w : WF h) {b : Nat} {l : List Run} {owed : Bool} {nw : Int} (S : Seen h b l owed nw) (hl : l.length ≤ 1000) (hn : ∀ r ∈ l, 0 ≤ r.1 ∧ r.1 < r.2 ∧ r.2 ≤ 4611686018427387904) :
    PO (acks_Seen_Frame (some ⟨b, 0, some 0⟩) h) (fun (a, h1) => EX h h1 ∧ a.2 = decide (l ≠ []) ∧ FRd h1 a.1 (if l = [] then ⟨0, 0, 0, 0, 0, 0, false, [], []⟩ else ⟨2, 0, 0, 0, 0, 0, false, [], frV l⟩)) := by
  unfold acks_Seen_Frame P.acks_Seen_Frame
  refine PO.newB w fun h1 x1 B1 z1 w1 => .ptr ?_
  obtain ⟨s, hs⟩ := S
  refine PO.call (Spans_f w1 (hs.kx x1) (by omega)) fun s2 h2 ⟨o2, x2, f2⟩ => ?_
  refine PO.call (reverse_f x2 f2 o2 (by omega)) fun _ h3 ⟨o3, x3⟩ => ?_
  have hl3 := RdR.len o3.rd
  have hrl : l.reverse.length = l.length := by simp
  have em : (if 8 < ((s2.len : Nat) : Int) then 8 else ((s2.len : Nat) : Int)) = ((min 8 l.length : Nat) : Int) := by split <;> omega
  rw [em]
  obtain ⟨s4, e4, r4, l4, hv4, f4⟩ := sl_hi (hi := ((min 8 l.length : Nat) : Int)) (by omega) (by unfold B63; omega) o3.rd (by omega) (by omega)
  have hb4 : s4.base = s2.base := by rw [hv4]; exact slV_base 2 s2 _
  have hrv : (runsV l.reverse).take (((min 8 l.length : Nat) : Int).toNat * 2) = runsV (l.reverse.take 8) := by
    have tk : ∀ (q : List Run) (n : Nat), (runsV q).take (n * 2) = runsV (q.take n) := by
      intro q
      induction q with
      | nil => intro n; simp [runsV]
      | cons r q ih =>
        intro n
        cases n with
        | zero => simp [runsV]
        | succ n => rw [show (n + 1) * 2 = n * 2 + 1 + 1 by omega]; simp [runsV, ih]
    rw [tk, Int.toNat_natCast]
    congr 1
    rw [← hrl]
    by_cases hh : 8 ≤ l.reverse.length
    · rw [Nat.min_eq_left hh]
    · rw [Nat.min_eq_right (by omega), List.take_of_length_le (Nat.le_refl _), List.take_of_length_le (by omega)]
  rw [hrv] at r4
  have o4 : OwnR h3 s4 (l.reverse.take 8) := OwnS.sub o3 hb4 r4 (by rw [runsV_length, runsV_length]; simp; omega)
  refine .op e4 ?_
  obtain ⟨s5, e5, o5, hb5⟩ := clipR_f o4 (by simp; omega)
  refine .callE e5 ?_
  have hl5 := RdR.len o5.rd
  have f5 : Fr h1.size s5 := fun a ha => f2 a (by rw [← hb4, ← hb5]; exact ha)
  have B3 := Box.kx x3 B1
  have hlt : (l.reverse.take 8).length = min 8 l.length := by simp
  refine .condE (fun hz => ?_) (fun hz => ?_)
  · have h0 : l = [] := List.eq_nil_of_length_eq_zero (by omega)
    refine PO.stZ B3 x3.wf rfl rfl fun h4 B4 u4 z4 w4 => PO.ldF (x := f90) B4 (.ret ⟨u4.ex0 (x1.trans x3) (fun A hA e => by omega), ?_, ?_⟩)
    · rw [decide_eq_false (fun hh => hh h0)]
    · rw [if_pos h0]
      exact ⟨⟨rfl, rfl, rfl, rfl, rfl, rfl, rfl⟩, rdB_nil _, rdR_nil _⟩
  · have h0 : l ≠ [] := fun hh => hz (by subst hh; rw [hl5]; simp)
    have hbnd : ∀ r ∈ l.reverse.take 8, 0 ≤ r.1 ∧ r.1 < r.2 ∧ r.2 ≤ 4611686018427387904 := fun r hr => hn r (by have := List.mem_of_mem_take hr; simpa using this)
    refine PO.joinD (PO.mono (P := fun st => ∃ h4, st = Sum.inl ((some ⟨h.size, 0, some 0⟩, s5), h4) ∧ EX h1 h4 ∧ RdR h4 s5 (frV l)) ?_ ?_)
    · generalize hq : l.reverse.take 8 = q at *
      refine PO.loop (fun m st => ∃ (k : Nat) (h' : H), st = ((some ⟨h.size, 0, some 0⟩, (s5, (((s5.len : Nat) : Int), (k : Int)))), h') ∧ m + k = q.length ∧ EX h1 h' ∧ OwnR h' s5 ((q.take k).map decR ++ q.drop k)) ?_ q.length _ ⟨0, h3, rfl, rfl, x3, by simpa using o5⟩
      rintro m st ⟨k, h', rfl, hm, hx, ok⟩
      unfold P.acks_Seen_Frame_l1
      refine .condD (fun c => ?_) (fun c => ?_)
      · have hkl : k < q.length := by omega
        have hcl : ((q.take k).map decR ++ q.drop k).length = q.length := by simp; omega
        have hck : ((q.take k).map decR ++ q.drop k).getD k (0, 0) = q.getD k (0, 0) := by
          rw [List.getD_eq_getElem?_getD, List.getElem?_append_right (by simp; omega), List.getElem?_drop]
          simp only [List.length_map, List.length_take]
          rw [show k + (k - min k q.length) = k by omega]
          rfl
        have hqm : q.getD k (0, 0) ∈ q := by rw [List.getD_eq_getElem?_getD, List.getElem?_eq_getElem hkl]; exact List.getElem_mem hkl
        refine .ixR ok.rd (by omega) (by omega) fun a1 b1 hb1 ha1 _ _ e1 => .ixA (by omega) (by omega) ?_
        rw [show (1 : Int).toNat * 1 = 1 from rfl]
        refine .op e1 (.ixR ok.rd (by omega) (by omega) fun a2 b2 hb2 ha2 _ _ _ => .ixA (by omega) (by omega) ?_)
        rw [hb1] at hb2; cases hb2
        simp only [Int.toNat_natCast] at ha2 ⊢
        subst ha2
        rw [hck]
        have hbb := hbnd _ hqm
        rw [w64 (n := (q.getD k (0, 0)).2 - 1) (by omega) (by omega)]
        refine ok.set2 hx.wf hb1 (by omega) _ fun h4 o4 u4 z4 w4 => .retL ⟨m - 1, by omega, k + 1, h4, ?_, by omega, u4.ex0 hx (fun A hA e => by have := f5 b1 hb1; omega), ?_⟩
        · rw [w64 (n := (k : Int) + 1) (by omega) (by omega)]; rfl
        · rw [hck] at o4
          have : ((q.take k).map decR ++ q.drop k).set k ((q.getD k (0, 0)).1, (q.getD k (0, 0)).2 - 1) = (q.take (k + 1)).map decR ++ q.drop (k + 1) := by
            have hle : (List.map decR (List.take k q)).length ≤ k := by simp; omega
            rw [List.set_append, if_neg (by omega)]
            simp only [List.length_map, List.length_take]
            rw [show k - min k q.length = 0 by omega]
            have hd : q.drop k = q.getD k (0, 0) :: q.drop (k + 1) := by
              rw [List.drop_eq_getElem_cons (by omega)]; simp [List.getD, hkl]
            have ht : q.take (k + 1) = q.take k ++ [q.getD k (0, 0)] := by
              rw [List.take_add_one, List.getD_eq_getElem?_getD, List.getElem?_eq_getElem hkl]; rfl
            rw [hd, ht]
            simp [decR]
          rw [← this]; exact o4
      · have : k = q.length := by omega
        subst this
        refine .retR ⟨h', rfl, hx, ?_⟩
        have := ok.rd
        rw [List.take_of_length_le (Nat.le_refl _), List.drop_length, List.append_nil] at this
        unfold frV; rw [hq]; exact this
    · rintro _ ⟨h4, rfl, x4, r4'⟩
      show PO _ _
      have B4 := Box.kx x4 B1
      refine .ptr (PO.stZ B4 x4.wf rfl rfl fun h5 B5 u5 z5 w5 => .ptr (PO.ldF (x := (2, 0, 0, 0, 0, 0, false, ⟨none, 0, 0⟩, s5)) B5 (.ret ⟨u5.ex0 (x1.trans x4) (fun A hA e => by omega), ?_, ?_⟩)))
      · rw [decide_eq_true h0]
      · rw [if_neg h0]
        refine ⟨⟨rfl, rfl, rfl, rfl, rfl, rfl, rfl⟩, rdB_nil _, ?_⟩
        exact Rd.up r4' u5 (fun a ha e => by have := f5 a ha; omega)
end Go.Proofs.Ythiccnmplgdheaa.T
