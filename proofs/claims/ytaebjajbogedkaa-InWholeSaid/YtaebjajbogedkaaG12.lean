/- Lemmas about the typed texts (joined: SRef2 SHead1 SHead2). -/
import Derived.Test.YtaebjajbogedkaaG11
import Derived.Test.YtaebjajbogedkaaTxt
import Derived.Test.YtaebjajbogedkaaG3
import Derived.Test.YtaebjajbogedkaaG10
import Derived.Test.YtaebjajbogedkaaG4
/- The reference's functions of chapter 1 over the typed texts: numbers put, taken. -/
set_option linter.unusedVariables false
set_option linter.unusedSimpArgs false
namespace Go.Proofs.Ytaebjajbogedkaa.T
open Go Go.Abs Go.Proofs
theorem app_new {h : H} {x : Sl} {l : List UInt8} (w : WF h) (hr : RdB h x l) (hl : l.length ≤ 2 ^ 47) :
    ∃ s' h', appT 5 1 1 (newAt (grow h 1) h.size (row 5 [])) ⟨some ⟨h.size, 0, some 0⟩, 0, 0⟩ x = some (s', h') ∧ EX h h' ∧ BufB h' s' l ∧ Fr h.size s' := by
  have x1 := wf_new w 5 (vB [])
  have b1 := bufB_new w 5 [] (by decide)
  rw [show row 5 [] = row 5 (vB []) from rfl]
  have f1 := fr_new h 0 0
  simp only [List.length_nil] at b1
  generalize newAt (grow h 1) h.size (row 5 (vB [])) = h1 at x1 b1 ⊢
  generalize (⟨some ⟨h.size, 0, some 0⟩, 0, 0⟩ : Sl) = s1 at b1 f1 ⊢
  obtain ⟨s', h', e2, k2, x2, b2, _, f2⟩ := appB_ok (e := 5) x1.wf b1 (hr.ex x1) (by simpa using hl)
  exact ⟨s', h', e2, x2 _ x1 f1, by simpa using b2, f2 _ x1.size f1⟩
def putV (l : List UInt8) (zs : List Int) : List UInt8 := if szV zs < 0 then [] else l ++ encs zs
theorem Put_all {h : H} {b n : Sl} {l : List UInt8} {zs : List Int} (w : WF h) (hb : RdB h b l) (hr : RdI .i64 h n zs) (hl : l.length + 8 * zs.length ≤ 2 ^ 47) :
    ∃ s' h', varint_Put b n h = some (s', h') ∧ EX h h' ∧ RdB h' s' (putV l zs) := by
  unfold putV
  by_cases hs : szV zs < 0
  · rw [if_pos hs]
    rw [szV_neg] at hs
    obtain ⟨h', e, x⟩ := Put_bad w hb hr hl (by
      have hd : ¬ ¬ ∃ x ∈ zs, ¬ okN x := fun hn => hs fun x hx => Decidable.not_not.1 fun hk => hn ⟨x, hx, hk⟩
      exact Classical.not_not.1 hd)
    exact ⟨_, h', e, x, rd_nil 1 h'⟩
  · rw [if_neg hs]
    have hall : ∀ x ∈ zs, okN x := Decidable.not_not.1 fun hn => hs ((szV_neg zs).2 hn)
    obtain ⟨s', h', e, x, r, _⟩ := Put_f w hb hr hl hall
    exact ⟨s', h', e, x, r⟩
/-! a number taken -/
/-! numbers taken one behind the other -/
end Go.Proofs.Ytaebjajbogedkaa.T
/- Chapter 18's functions over the typed texts: what a right head is, its pieces' bounds. -/
set_option linter.unusedVariables false
set_option linter.unusedSimpArgs false
namespace Go.Proofs.Ytaebjajbogedkaa.T
open Go Go.Abs Go.Proofs
abbrev Hd := Int × Int × Int × Int × Int
def hcnt (s : Int) : Int := (s + 79) / 80
def HR (x : Hd) : Prop := 0 ≤ x.1 ∧ x.1 < 40 ∧ 0 ≤ x.2.1 ∧ x.2.1 ≤ 4611686018427387903 ∧ 1 ≤ x.2.2.2.2 ∧ x.2.2.2.2 ≤ 600 ∧ x.2.2.1 = hcnt x.2.2.2.2 ∧ 0 ≤ x.2.2.2.1 ∧ x.2.2.2.1 < x.2.2.1
instance (x : Hd) : Decidable (HR x) := by unfold HR; infer_instance
theorem pieces_f {s : Int} (h1 : 0 ≤ s) (h2 : s ≤ 600) (h : H) : head_pieces s h = some (hcnt s, h) := by
  unfold head_pieces hcnt
  rw [w64 (n := s + 80) (by omega) (by omega), w64 (n := s + 80 - 1) (by omega) (by omega), letO_eq, Int.tdiv_eq_ediv_of_nonneg (by omega), w64 (by omega) (by omega)]
  rw [show s + 80 - 1 = s + 79 by omega]
theorem Right_f {h : H} (w : WF h) (x : Hd) : PO (head_Right x h) (fun (a, h1) => a = decide (HR x) ∧ EX h h1) := by
  obtain ⟨i, d, c, k, s⟩ := x
  unfold head_Right P.head_Right
  refine PO.newB w fun h1 x1 B z1 w1 => ?_
  simp only [B.ldI (i := 0) rfl, B.ldI (i := 1) rfl, B.ldI (i := 2) rfl, B.ldI (i := 3) rfl, B.ldI (i := 4) rfl, bindO_some, condK_eq, decide_eq_true_eq, joinO_ite, joinO_inl, ptrK_some, if_true, Bool.false_eq_true, if_false]
  have no : ∀ (P : Prop) [Decidable P], ¬ P → PO (some (false, h1)) (fun (a, h1) => a = decide P ∧ EX h h1) := fun P _ hp => .ret ⟨(decide_eq_false hp).symm, x1⟩
  (repeat' split)
  all_goals (try exact no _ (by unfold HR; simp only; omega))
  rw [pieces_f (by omega) (by omega), bind2_some, B.ldI (i := 2) rfl, bindO_some, if_pos (beq_self_eq_true _), joinO_inl]
  simp only [bne_iff_ne, ne_eq, ptrK_some, B.ldI (i := 3) rfl, B.ldI (i := 2) rfl, bindO_some]
  (repeat' split)
  all_goals (try exact no _ (by unfold HR; simp only; omega))
  exact .ret ⟨decide_eq_decide.2 (by unfold HR; simp only; omega), x1⟩
/-! bounds of a piece -/
def hfrom (x : Hd) : Int := x.2.2.2.1 * 80
def hto (x : Hd) : Int := min (x.2.2.2.1 * 80 + 80) x.2.2.2.2
theorem HR.b {x : Hd} (h : HR x) : 0 ≤ hfrom x ∧ hfrom x < hto x ∧ hto x ≤ x.2.2.2.2 ∧ x.2.2.2.2 ≤ 600 ∧ hto x - hfrom x ≤ 80 := by
  unfold HR hcnt at h; unfold hfrom hto; omega
theorem bounds_f {h : H} (w : WF h) {x : Hd} (hx : HR x) : PO (head_bounds x h) (fun (a, h1) => a = (hfrom x, hto x) ∧ EX h h1) := by
  obtain ⟨i, d, c, k, s⟩ := x
  unfold HR hcnt at hx; simp only at hx
  unfold head_bounds
  refine PO.newB w fun h1 x1 B z1 w1 => .ldI B rfl (.ldI B rfl (.letO (.ret ⟨?_, x1⟩)))
  rw [w64 (n := k * 80) (by omega) (by omega), w64 (n := k * 80 + 80) (by omega) (by omega)]
  unfold hfrom hto
  simp only [Prod.mk.injEq, true_and]
  split <;> omega
/-! a head of a message -/
def ofV (id dl sz : Int) : Hd := if HR (id, dl, hcnt sz, 0, sz) then (id, dl, hcnt sz, 0, sz) else (0, 0, 0, 0, 0)
theorem Of_f {h : H} (w : WF h) (id dl sz : Int) : PO (head_Of id dl sz h) (fun (a, h1) => a = ofV id dl sz ∧ EX h h1) := by
  unfold head_Of P.head_Of
  refine PO.newB w fun h1 x1 B1 z1 w1 => PO.newB w1 fun h2 x2 B2 z2 w2 => PO.stZ B2 w2 rfl rfl fun h3 B3 u3 z3 w3 => ?_
  have ne : ¬ h.size = h1.size := by omega
  have C1 := (B1.ex w1 x2).up w2 u3 ne
  have xx : EX h h3 := u3.ex0 (x1.trans x2) (fun A hA e => by omega)
  simp only [encL, Z.enc] at B3
  refine PO.join (fun s => s.1 = (some ⟨h.size, 0, some 0⟩, some ⟨h1.size, 0, some 0⟩) ∧ EX h s.2 ∧ s.2.size = h3.size ∧ WF s.2 ∧ Box s.2 h.size [.int .i64 0, .int .i64 0, .int .i64 0, .int .i64 0, .int .i64 0] ∧ Box s.2 h1.size [.int .i64 id, .int .i64 dl, .int .i64 (if 1 ≤ sz ∧ sz ≤ 600 then hcnt sz else 0), .int .i64 0, .int .i64 sz]) ?_ ?_
  · have key : ∀ b : Bool, (b = true ↔ 1 ≤ sz ∧ sz ≤ 600) → PO (condK b (bind2 (head_pieces sz h3) fun (x2 : Int) (h5 : H) => ptrK (some (⟨h1.size, 0, some 0⟩ : Addr)) fun (a0 : Addr) => bindO (st1 h5 (add a0 2) (.int .i64 x2)) fun (h6 : H) => some (Sum.inl ((some (⟨h.size, 0, some 0⟩ : Addr), some (⟨h1.size, 0, some 0⟩ : Addr)), h6))) (some (Sum.inl ((some (⟨h.size, 0, some 0⟩ : Addr), some (⟨h1.size, 0, some 0⟩ : Addr)), h3)))) (Sum.elim (fun s : (Option Addr × Option Addr) × H => s.1 = (some ⟨h.size, 0, some 0⟩, some ⟨h1.size, 0, some 0⟩) ∧ EX h s.2 ∧ s.2.size = h3.size ∧ WF s.2 ∧ Box s.2 h.size [.int .i64 0, .int .i64 0, .int .i64 0, .int .i64 0, .int .i64 0] ∧ Box s.2 h1.size [.int .i64 id, .int .i64 dl, .int .i64 (if 1 ≤ sz ∧ sz ≤ 600 then hcnt sz else 0), .int .i64 0, .int .i64 sz]) (fun (a, h1) => a = ofV id dl sz ∧ EX h h1)) := by
      intro b hb
      refine PO.cond (fun hc => ?_) (fun hc => ?_)
      · have hs := hb.1 hc
        rw [pieces_f (by omega) (by omega), bind2_some, ptrK_some]
        refine PO.st1 B3 w3 (by simp) rfl fun h4 B4 u4 z4 w4 => .retL ⟨rfl, u4.ex0 xx (fun A hA e => by have := xx.size; omega), z4, w4, C1.up w3 u4 ne, ?_⟩
        rw [if_pos hs]; exact B4
      · have hs : ¬ (1 ≤ sz ∧ sz ≤ 600) := fun h => by rw [hb.2 h] at hc; simp at hc
        refine .retL ⟨rfl, xx, rfl, w3, C1, ?_⟩
        rw [if_neg hs]; exact B3
    refine PO.joinD (PO.condD (fun h1 => .retL ?_) (fun h1 => .retL ?_))
    · exact key _ (by simp; omega)
    · exact key _ (by simp; omega)
  · rintro ⟨s, h4⟩ ⟨rfl, xx4, z4, w4, C4, B4⟩
    refine .ptr (.ldZ5 B4 ?_)
    refine PO.call (Right_f w4 _) fun a h5 ⟨e1, x5⟩ => ?_
    subst e1
    have C5 := C4.ex w4 x5
    have B5 := B4.ex w4 x5
    have hv : HR (id, dl, if 1 ≤ sz ∧ sz ≤ 600 then hcnt sz else 0, 0, sz) ↔ HR (id, dl, hcnt sz, 0, sz) := by
      unfold HR; simp only
      by_cases hs : 1 ≤ sz ∧ sz ≤ 600
      · rw [if_pos hs]; simp
      · rw [if_neg hs]; omega
    refine PO.condND (fun hn => ?_) (fun hp => ?_)
    · refine .ptr (PO.stZ C5 x5.wf rfl rfl fun h6 B6 u6 z6 w6 => ?_)
      simp only [encL, Z.enc] at B6
      refine .ptr (.ldZ5 B6 (.ret ⟨?_, u6.ex0 (xx4.trans x5) (fun A hA e => by omega)⟩))
      unfold ofV; rw [if_neg (fun h => hn (hv.2 h))]
    · have hs : 1 ≤ sz ∧ sz ≤ 600 := by unfold HR at hp; simp only at hp; omega
      refine .ptr (.ldZ5 B5 (.ptr (PO.stZ C5 x5.wf rfl rfl fun h6 B6 u6 z6 w6 => ?_)))
      simp only [encL, Z.enc] at B6
      refine .ptr (.ldZ5 B6 (.ret ⟨?_, u6.ex0 (xx4.trans x5) (fun A hA e => by omega)⟩))
      unfold ofV; rw [if_pos (hv.1 hp), if_pos hs]
end Go.Proofs.Ytaebjajbogedkaa.T
/- Chapter 18's functions over the typed texts: parts, pieces laid and read, short heads. -/
set_option linter.unusedVariables false
set_option linter.unusedSimpArgs false
namespace Go.Proofs.Ytaebjajbogedkaa.T
open Go Go.Abs Go.Proofs
theorem clipB_f {h : H} {s : Sl} {l : List UInt8} (hr : RdB h s l) (hl : l.length ≤ 2 ^ 47) : ∃ s', slices_Clip_byte s h = some (s', h) ∧ RdB h s' l ∧ ∀ n, Fr n s → Fr n s' := by
  obtain ⟨s3, e3, r3, _, _, f3⟩ := clip_ok (by omega) (by unfold B63; omega) hr (by rw [RdB.len hr]; unfold B63; omega)
  refine ⟨s3, ?_, r3, f3⟩
  unfold slices_Clip_byte
  rw [e3, bindO_some]
theorem cc_nil {h : H} {parts : Sl} {xs : List Sl} {ls : List (List UInt8)} (w : WF h) (hp : RdS h parts xs) (hx : RdBs h xs ls) (hn : xs.length ≤ 2 ^ 47) (hc : (cat ls).length = 0) : ∀ (k i : Nat), i + k = xs.length → (cat (ls.drop i)).length = 0 →
    loopO slices_Concat_byte_l2 (((⟨none, 0, 0⟩ : Sl), (parts, ((xs.length : Int), (i : Int)))), h) = some (Sum.inl ((⟨none, 0, 0⟩ : Sl), h))
  | 0, i, hik, hz => by
    rw [loopO_eq]
    simp only [P.slices_Concat_byte_l2, condK_eq, decide_eq_true_eq, show ¬ ((i : Int) < (xs.length : Int)) by omega, if_false]
  | k + 1, i, hik, hz => by
    obtain ⟨x, l, e1, e2, r, hl⟩ := RdBs.get i hx (by omega)
    obtain ⟨a, e3, e4⟩ := hp.at e1
    rw [e2] at hz
    simp only [cat, List.length_append] at hz
    have hl0 : l = [] := List.eq_nil_of_length_eq_zero (by omega)
    subst hl0
    have hx0 : x.len = 0 := by have := r.len; simpa using this
    rw [loopO_eq]
    simp only [P.slices_Concat_byte_l2, condK_eq, decide_eq_true_eq, show ((i : Int) < (xs.length : Int)) by omega, if_true, e3, bindO_some, e4]
    obtain ⟨s', h', e5, _, _, _, _, _⟩ := appB_ok (e := 5) w (show BufB h ⟨none, 0, 0⟩ [] from buf_nil 1 h) r (by simp)
    have e6 : appT 5 1 1 h ⟨none, 0, 0⟩ x = some (⟨none, 0, 0⟩, h) := by
      have hA : appA (DSE 5 (tyS 1 1 .nilFunc)) h #[5 + 1, 5 + 1] (encSl ⟨none, 0, 0⟩) (encSl x) = appR h 5 (tyS 1 1 .nilFunc) (encSl ⟨none, 0, 0⟩) [] x.len := by
        have hf := Rd.first r
        unfold appA
        rw [show (#[5 + 1, 5 + 1] : Array TypeId)[0]? = some (5 + 1) from rfl, show (#[5 + 1, 5 + 1] : Array TypeId)[1]? = some (5 + 1) from rfl]
        simp only [elem_DSE, DSE_s]
        unfold encSl at hf ⊢
        simp only [show (tyS 1 1 .nilFunc).size = 1 from rfl, hf]
        rfl
      unfold appT
      rw [hA, hx0]; rfl
    rw [e6, bind2_some, w64 (by omega) (by omega)]
    exact cc_nil w hp hx hn hc k (i + 1) (by omega) (by omega)
theorem Concat_all {h : H} {parts : Sl} {xs : List Sl} {ls : List (List UInt8)} (w : WF h) (hp : RdS h parts xs) (hx : RdBs h xs ls) (hn : xs.length ≤ 2 ^ 47) (hl : (cat ls).length ≤ 2 ^ 47) :
    PO (slices_Concat_byte parts h) (fun (a, h1) => EX h h1 ∧ RdB h1 a (cat ls) ∧ Fr h.size a) := by
  rcases Nat.eq_zero_or_pos (cat ls).length with hz | hz
  · have e1 := cc_l1 hp hx hn xs.length 0 0 (by omega) (by simpa using hl)
    simp only [slices_Concat_byte_l1, Int.natCast_zero, List.drop_zero, Nat.zero_add] at e1
    unfold slices_Concat_byte P.slices_Concat_byte
    rw [hp.len, e1, joinO_inl]
    obtain ⟨s, h', e2, x2, f2, hs⟩ := grow_f (n := 0) w (by omega)
    rw [hz]
    rcases hs with ⟨_, rfl⟩ | ⟨h0, _⟩
    · refine .callE e2 ?_
      have e3 := cc_nil x2.wf (hp.ex x2) (hx.ex x2) hn hz xs.length 0 (by omega) (by simpa using hz)
      simp only [slices_Concat_byte_l2, Int.natCast_zero] at e3
      simp only [hp.len]
      rw [e3]
      refine .ret ⟨x2, ?_, f2⟩
      have : cat ls = [] := List.eq_nil_of_length_eq_zero hz
      rw [this]; exact rd_nil 1 h'
    · omega
  · obtain ⟨s, h', room, e, x, b, f⟩ := Concat_f w hp hx hn hz hl
    exact ⟨_, e, x, b.rd, f⟩
/-! a part of a message's bytes -/
def partV (x : Hd) (l : List UInt8) : List UInt8 := if HR x ∧ (l.length : Int) = x.2.2.2.2 then (l.drop (hfrom x).toNat).take ((hto x).toNat - (hfrom x).toNat) else []
theorem partV_len {x : Hd} {l : List UInt8} (h : HR x ∧ (l.length : Int) = x.2.2.2.2) : (partV x l).length = (hto x).toNat - (hfrom x).toNat := by
  have := h.1.b
  unfold partV; rw [if_pos h]; simp; omega
abbrev hdL (x : Hd) : List Value := [.int .i64 x.1, .int .i64 x.2.1, .int .i64 x.2.2.1, .int .i64 x.2.2.2.1, .int .i64 x.2.2.2.2]
theorem Part_f {h : H} (w : WF h) (x : Hd) {b : Sl} {l : List UInt8} (hr : RdB h b l) (hl : l.length ≤ 2 ^ 47) : PO (head_Part x b h) (fun (a, h1) => RdB h1 a (partV x l) ∧ EX h h1 ∧ Fr h.size a) := by
  unfold head_Part P.head_Part
  refine PO.newB w fun h1 x1 B z1 w1 => ?_
  refine PO.join (fun s => s.1.1 = b ∧ s.1.2.1 = some ⟨h.size, 0, some 0⟩ ∧ EX h s.2 ∧ WF s.2 ∧ Box s.2 h.size (hdL x) ∧ (s.1.2.2 = true ↔ ¬ (HR x ∧ (l.length : Int) = x.2.2.2.2))) ?_ ?_
  · refine .ldZ5 B (PO.call (Right_f w1 _) fun a h2 ⟨e, x2⟩ => ?_)
    subst e
    have B2 := B.ex w1 x2
    refine .condND (fun hn => .retL ⟨rfl, rfl, x1.trans x2, x2.wf, B2, ?_⟩) (fun hp => .ldI B2 rfl (.retL ⟨rfl, rfl, x1.trans x2, x2.wf, B2, ?_⟩))
    · simp only [true_iff]; exact fun h => hn h.1
    · have hp' : HR x := hp
      simp only [hr.len, bne_iff_ne, ne_eq, hp', true_and]
  · rintro ⟨⟨b', p, c⟩, h3⟩ ⟨e1, e2, x3, w3, B3, hc⟩
    simp only at e1 e2 x3 w3 B3 hc
    subst e1 e2
    refine .cond (fun c1 => .ret ⟨?_, x3, fr_nil _⟩) (fun c0 => ?_)
    · unfold partV; rw [if_neg (hc.1 c1)]; exact rd_nil 1 h3
    · have hx : HR x ∧ (l.length : Int) = x.2.2.2.2 := Classical.byContradiction fun hh => by rw [hc.2 hh] at c0; simp at c0
      have hb := hx.1.b
      refine .ptr (.ldZ5 B3 (PO.call (bounds_f w3 hx.1) fun a h4 ⟨e, x4⟩ => ?_))
      subst e
      have r4 := (hr.ex x3).ex x4
      obtain ⟨s5, e5, r5, l5, _, f5⟩ := sl_lohi (lo := hfrom x) (hi := hto x) (by omega) (by unfold B63; omega) r4 (by omega) (by omega) (by rw [RdB.len r4]; omega)
      refine .op e5 ?_
      have r5' : RdB h4 s5 (partV x l) := by
        unfold partV; rw [if_pos hx]
        unfold vB at r5
        unfold RdB vB
        rw [Nat.mul_one, Nat.mul_one] at r5
        rw [List.map_take, List.map_drop]; exact r5
      have hpl := partV_len hx
      obtain ⟨s6, h6, e6, x6, b6, f6, _⟩ := clone_f x4.wf r5' (by omega)
      refine .callE e6 ?_
      obtain ⟨s7, e7, r7, f7⟩ := clipB_f b6.rd (by omega)
      refine .callE e7 (.ret ⟨r7, (x3.trans x4).trans x6, f7 _ (f6.mono (by have := (x3.trans x4).size; omega))⟩)
/-! a piece laid -/
def hnums (x : Hd) : List Int := [x.1, x.2.1, x.2.2.1, x.2.2.2.1, x.2.2.2.2]
def layV (x : Hd) (l : List UInt8) : List UInt8 := if HR x ∧ (l.length : Int) = hto x - hfrom x then encs (hnums x) ++ l else []
theorem HR.ok {x : Hd} (h : HR x) : ∀ n ∈ hnums x, okN n := by
  unfold HR hcnt at h; unfold hnums okN; simp only [List.mem_cons, List.not_mem_nil, or_false, forall_eq_or_imp, forall_eq]; omega
theorem Lay_f {h : H} (w : WF h) (x : Hd) {parts : Sl} {xs : List Sl} {ls : List (List UInt8)} (hp : RdS h parts xs) (hx : RdBs h xs ls) (hn : xs.length ≤ 2 ^ 47) (hl : (cat ls).length ≤ 2 ^ 47) :
    PO (head_Lay x parts h) (fun (a, h1) => RdB h1 a (layV x (cat ls)) ∧ EX h h1) := by
  unfold head_Lay P.head_Lay
  refine PO.newB w fun h1 x1 B z1 w1 => ?_
  refine PO.call (Concat_all w1 (hp.ex x1) (hx.ex x1) hn hl) fun s2 h2 ⟨x2, r2, f2⟩ => ?_
  have B2 := B.ex w1 x2
  refine .ldZ5 B2 (PO.call (Right_f x2.wf _) fun a h3 ⟨e, x3⟩ => ?_)
  subst e
  have B3 := B2.ex x2.wf x3
  have r3 := r2.ex x3
  refine .condND (fun hn => .ret ⟨?_, (x1.trans x2).trans x3⟩) (fun hR => ?_)
  · unfold layV; rw [if_neg (fun h => hn h.1)]; exact rd_nil 1 h3
  have hR' : HR x := hR
  have hb := hR'.b
  refine .ldZ5 B3 (PO.call (bounds_f x3.wf hR') fun a h4 ⟨e, x4⟩ => ?_)
  subst e
  have B4 := B3.ex x3.wf x4
  have r4 := r3.ex x4
  simp only at B4 r4 ⊢
  have hlen := RdB.len r4
  rw [w64 (n := hto x - hfrom x) (by omega) (by omega)]
  refine .condNE (fun hne => .ret ⟨?_, ((x1.trans x2).trans x3).trans x4⟩) (fun heq => ?_)
  · unfold layV; rw [if_neg (fun h => hne (by rw [hlen]; exact h.2))]; exact rd_nil 1 h4
  rw [hlen] at heq
  refine .ldI B4 rfl (.ldI B4 rfl (.ldI B4 rfl (.ldI B4 rfl (.ldI B4 rfl ?_))))
  refine PO.newB x4.wf fun h5 x5 B5 z5 w5 => ?_
  have r5 := r4.ex x5
  have ri : RdI .i64 h5 ⟨some ⟨h4.size, 0, some 0⟩, 5, 5⟩ (hnums x) := B5.rd w5 rfl (by unfold CapOK; rw [capK_exact (by unfold B63; omega)]; exact Nat.le_refl _)
  obtain ⟨s6, h6, e6, x6, r6, f6⟩ := Put_f (l := []) w5 (rd_nil 1 h5) ri (by simp [hnums]) hR'.ok
  refine .callE e6 ?_
  rw [List.nil_append] at r6
  refine PO.newB (l := [s6, s2].map encSl) x6.wf fun h7 x7 B7 z7 w7 => ?_
  have rs : RdS h7 ⟨some ⟨h6.size, 0, some 0⟩, 2, 2⟩ [s6, s2] := B7.rd w7 rfl (by unfold CapOK; rw [capK_exact (by unfold B63; omega)]; exact Nat.le_refl _)
  have hel := encs_length (hnums x)
  have hnl : (hnums x).length = 5 := rfl
  have rb : RdBs h7 [s6, s2] [encs (hnums x), cat ls] := ⟨⟨RdB.ex x7 r6, by omega⟩, ⟨⟨(r5.ex x6).ex x7, hl⟩, trivial⟩⟩
  have hc2 : cat [encs (hnums x), cat ls] = encs (hnums x) ++ cat ls := by simp [cat]
  refine PO.call (Concat_all w7 rs rb (by simp) (by rw [hc2, List.length_append]; omega)) fun s8 h8 ⟨x8, r8, f8⟩ => .ret ⟨?_, (((((x1.trans x2).trans x3).trans x4).trans x5).trans x6).trans (x7.trans x8)⟩
  unfold layV; rw [if_pos ⟨hR', heq⟩, ← hc2]; exact r8
end Go.Proofs.Ytaebjajbogedkaa.T
