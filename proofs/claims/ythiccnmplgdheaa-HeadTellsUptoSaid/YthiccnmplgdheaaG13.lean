/- Lemmas about the typed texts (joined: SHead2 SHead3 SHead4). -/
import Derived.Test.YthiccnmplgdheaaG4
import Derived.Test.YthiccnmplgdheaaG12
/- Chapter 18's functions over the typed texts: parts, pieces laid and read, short heads. -/
set_option linter.unusedVariables false
set_option linter.unusedSimpArgs false
namespace Go.Proofs.Ythiccnmplgdheaa.T
open Go Go.Abs Go.Proofs
theorem clipB_f {h : H} {s : Sl} {l : List UInt8} (hr : RdB h s l) (hl : l.length ≤ 2 ^ 47) : ∃ s', slices_Clip_byte s h = some (s', h) ∧ RdB h s' l ∧ ∀ n, Fr n s → Fr n s' := by
  obtain ⟨s3, e3, r3, _, _, f3⟩ := clip_ok (by omega) (by unfold B63; omega) hr (by rw [RdB.len hr]; unfold B63; omega)
  refine ⟨s3, ?_, r3, f3⟩
  unfold slices_Clip_byte
  rw [e3, bindO_some]
theorem cc_nil {h : H} {parts : Sl} {xs : List Sl} {ls : List (List UInt8)} (w : WF h) (hp : RdS h parts xs) (hx : RdBs h xs ls) (hn : xs.length ≤ 2 ^ 47) (hc : (cat ls).length = 0) : ∀ (k i : Nat), i + k = xs.length → (cat (ls.drop i)).length = 0 →
    loopO slices_Concat_byte_l2 (((⟨none, 0, 0⟩ : Sl), (parts, ((xs.length : Int), (i : Int)))), h) = some (Sum.inl ((⟨none, 0, 0⟩ : Sl), h))
  | 0, i, hik, hz => by
    rw [loopO_eq]
    simp only [P.slices_Concat_byte_l2, condK_eq, decide_eq_true_eq, show ¬ ((i : Int) < (xs.length : Int)) by omega, if_false]
  | k + 1, i, hik, hz => by
    obtain ⟨x, l, e1, e2, r, hl⟩ := RdBs.get i hx (by omega)
    obtain ⟨a, e3, e4⟩ := hp.at e1
    rw [e2] at hz
    simp only [cat, List.length_append] at hz
    have hl0 : l = [] := List.eq_nil_of_length_eq_zero (by omega)
    subst hl0
    have hx0 : x.len = 0 := by have := r.len; simpa using this
    rw [loopO_eq]
    simp only [P.slices_Concat_byte_l2, condK_eq, decide_eq_true_eq, show ((i : Int) < (xs.length : Int)) by omega, if_true, e3, bindO_some, e4]
    obtain ⟨s', h', e5, _, _, _, _, _⟩ := appB_ok (e := 5) w (show BufB h ⟨none, 0, 0⟩ [] from buf_nil 1 h) r (by simp)
    have e6 : appT 5 1 1 h ⟨none, 0, 0⟩ x = some (⟨none, 0, 0⟩, h) := by
      have hA : appA (DSE 5 (tyS 1 1 .nilFunc)) h #[5 + 1, 5 + 1] (encSl ⟨none, 0, 0⟩) (encSl x) = appR h 5 (tyS 1 1 .nilFunc) (encSl ⟨none, 0, 0⟩) [] x.len := by
        have hf := Rd.first r
        unfold appA
        rw [show (#[5 + 1, 5 + 1] : Array TypeId)[0]? = some (5 + 1) from rfl, show (#[5 + 1, 5 + 1] : Array TypeId)[1]? = some (5 + 1) from rfl]
        simp only [elem_DSE, DSE_s]
        unfold encSl at hf ⊢
        simp only [show (tyS 1 1 .nilFunc).size = 1 from rfl, hf]
        rfl
      unfold appT
      rw [hA, hx0]; rfl
    rw [e6, bind2_some, w64 (by omega) (by omega)]
    exact cc_nil w hp hx hn hc k (i + 1) (by omega) (by omega)
theorem Concat_all {h : H} {parts : Sl} {xs : List Sl} {ls : List (List UInt8)} (w : WF h) (hp : RdS h parts xs) (hx : RdBs h xs ls) (hn : xs.length ≤ 2 ^ 47) (hl : (cat ls).length ≤ 2 ^ 47) :
    PO (slices_Concat_byte parts h) (fun (a, h1) => EX h h1 ∧ RdB h1 a (cat ls) ∧ Fr h.size a) := by
  rcases Nat.eq_zero_or_pos (cat ls).length with hz | hz
  · have e1 := cc_l1 hp hx hn xs.length 0 0 (by omega) (by simpa using hl)
    simp only [slices_Concat_byte_l1, Int.natCast_zero, List.drop_zero, Nat.zero_add] at e1
    unfold slices_Concat_byte P.slices_Concat_byte
    rw [hp.len, e1, joinO_inl]
    obtain ⟨s, h', e2, x2, f2, hs⟩ := grow_f (n := 0) w (by omega)
    rw [hz]
    rcases hs with ⟨_, rfl⟩ | ⟨h0, _⟩
    · refine .callE e2 ?_
      have e3 := cc_nil x2.wf (hp.ex x2) (hx.ex x2) hn hz xs.length 0 (by omega) (by simpa using hz)
      simp only [slices_Concat_byte_l2, Int.natCast_zero] at e3
      simp only [hp.len]
      rw [e3]
      refine .ret ⟨x2, ?_, f2⟩
      have : cat ls = [] := List.eq_nil_of_length_eq_zero hz
      rw [this]; exact rd_nil 1 h'
    · omega
  · obtain ⟨s, h', room, e, x, b, f⟩ := Concat_f w hp hx hn hz hl
    exact ⟨_, e, x, b.rd, f⟩
/-! a part of a message's bytes -/
def partV (x : Hd) (l : List UInt8) : List UInt8 := if HR x ∧ (l.length : Int) = x.2.2.2.2 then (l.drop (hfrom x).toNat).take ((hto x).toNat - (hfrom x).toNat) else []
theorem partV_len {x : Hd} {l : List UInt8} (h : HR x ∧ (l.length : Int) = x.2.2.2.2) : (partV x l).length = (hto x).toNat - (hfrom x).toNat := by
  have := h.1.b
  unfold partV; rw [if_pos h]; simp; omega
abbrev hdL (x : Hd) : List Value := [.int .i64 x.1, .int .i64 x.2.1, .int .i64 x.2.2.1, .int .i64 x.2.2.2.1, .int .i64 x.2.2.2.2]
theorem Part_f {h : H} (w : WF h) (x : Hd) {b : Sl} {l : List UInt8} (hr : RdB h b l) (hl : l.length ≤ 2 ^ 47) : PO (head_Part x b h) (fun (a, h1) => RdB h1 a (partV x l) ∧ EX h h1 ∧ Fr h.size a) := by
  unfold head_Part P.head_Part
  refine PO.newB w fun h1 x1 B z1 w1 => ?_
  refine PO.join (fun s => s.1.1 = b ∧ s.1.2.1 = some ⟨h.size, 0, some 0⟩ ∧ EX h s.2 ∧ WF s.2 ∧ Box s.2 h.size (hdL x) ∧ (s.1.2.2 = true ↔ ¬ (HR x ∧ (l.length : Int) = x.2.2.2.2))) ?_ ?_
  · refine .ldZ5 B (PO.call (Right_f w1 _) fun a h2 ⟨e, x2⟩ => ?_)
    subst e
    have B2 := B.ex w1 x2
    refine .condND (fun hn => .retL ⟨rfl, rfl, x1.trans x2, x2.wf, B2, ?_⟩) (fun hp => .ldI B2 rfl (.retL ⟨rfl, rfl, x1.trans x2, x2.wf, B2, ?_⟩))
    · simp only [true_iff]; exact fun h => hn h.1
    · have hp' : HR x := hp
      simp only [hr.len, bne_iff_ne, ne_eq, hp', true_and]
  · rintro ⟨⟨b', p, c⟩, h3⟩ ⟨e1, e2, x3, w3, B3, hc⟩
    simp only at e1 e2 x3 w3 B3 hc
    subst e1 e2
    refine .cond (fun c1 => .ret ⟨?_, x3, fr_nil _⟩) (fun c0 => ?_)
    · unfold partV; rw [if_neg (hc.1 c1)]; exact rd_nil 1 h3
    · have hx : HR x ∧ (l.length : Int) = x.2.2.2.2 := Classical.byContradiction fun hh => by rw [hc.2 hh] at c0; simp at c0
      have hb := hx.1.b
      refine .ptr (.ldZ5 B3 (PO.call (bounds_f w3 hx.1) fun a h4 ⟨e, x4⟩ => ?_))
      subst e
      have r4 := (hr.ex x3).ex x4
      obtain ⟨s5, e5, r5, l5, _, f5⟩ := sl_lohi (lo := hfrom x) (hi := hto x) (by omega) (by unfold B63; omega) r4 (by omega) (by omega) (by rw [RdB.len r4]; omega)
      refine .op e5 ?_
      have r5' : RdB h4 s5 (partV x l) := by
        unfold partV; rw [if_pos hx]
        unfold vB at r5
        unfold RdB vB
        rw [Nat.mul_one, Nat.mul_one] at r5
        rw [List.map_take, List.map_drop]; exact r5
      have hpl := partV_len hx
      obtain ⟨s6, h6, e6, x6, b6, f6, _⟩ := clone_f x4.wf r5' (by omega)
      refine .callE e6 ?_
      obtain ⟨s7, e7, r7, f7⟩ := clipB_f b6.rd (by omega)
      refine .callE e7 (.ret ⟨r7, (x3.trans x4).trans x6, f7 _ (f6.mono (by have := (x3.trans x4).size; omega))⟩)
/-! a piece laid -/
def hnums (x : Hd) : List Int := [x.1, x.2.1, x.2.2.1, x.2.2.2.1, x.2.2.2.2]
def layV (x : Hd) (l : List UInt8) : List UInt8 := if HR x ∧ (l.length : Int) = hto x - hfrom x then encs (hnums x) ++ l else []
theorem HR.ok {x : Hd} (h : HR x) : ∀ n ∈ hnums x, okN n := by
  unfold HR hcnt at h; unfold hnums okN; simp only [List.mem_cons, List.not_mem_nil, or_false, forall_eq_or_imp, forall_eq]; omega
theorem Lay_f {h : H} (w : WF h) (x : Hd) {parts : Sl} {xs : List Sl} {ls : List (List UInt8)} (hp : RdS h parts xs) (hx : RdBs h xs ls) (hn : xs.length ≤ 2 ^ 47) (hl : (cat ls).length ≤ 2 ^ 47) :
    PO (head_Lay x parts h) (fun (a, h1) => RdB h1 a (layV x (cat ls)) ∧ EX h h1) := by
  unfold head_Lay P.head_Lay
  refine PO.newB w fun h1 x1 B z1 w1 => ?_
  refine PO.call (Concat_all w1 (hp.ex x1) (hx.ex x1) hn hl) fun s2 h2 ⟨x2, r2, f2⟩ => ?_
  have B2 := B.ex w1 x2
  refine .ldZ5 B2 (PO.call (Right_f x2.wf _) fun a h3 ⟨e, x3⟩ => ?_)
  subst e
  have B3 := B2.ex x2.wf x3
  have r3 := r2.ex x3
  refine .condND (fun hn => .ret ⟨?_, (x1.trans x2).trans x3⟩) (fun hR => ?_)
  · unfold layV; rw [if_neg (fun h => hn h.1)]; exact rd_nil 1 h3
  have hR' : HR x := hR
  have hb := hR'.b
  refine .ldZ5 B3 (PO.call (bounds_f x3.wf hR') fun a h4 ⟨e, x4⟩ => ?_)
  subst e
  have B4 := B3.ex x3.wf x4
  have r4 := r3.ex x4
  simp only at B4 r4 ⊢
  have hlen := RdB.len r4
  rw [w64 (n := hto x - hfrom x) (by omega) (by omega)]
  refine .condNE (fun hne => .ret ⟨?_, ((x1.trans x2).trans x3).trans x4⟩) (fun heq => ?_)
  · unfold layV; rw [if_neg (fun h => hne (by rw [hlen]; exact h.2))]; exact rd_nil 1 h4
  rw [hlen] at heq
  refine .ldI B4 rfl (.ldI B4 rfl (.ldI B4 rfl (.ldI B4 rfl (.ldI B4 rfl ?_))))
  refine PO.newB x4.wf fun h5 x5 B5 z5 w5 => ?_
  have r5 := r4.ex x5
  have ri : RdI .i64 h5 ⟨some ⟨h4.size, 0, some 0⟩, 5, 5⟩ (hnums x) := B5.rd w5 rfl (by unfold CapOK; rw [capK_exact (by unfold B63; omega)]; exact Nat.le_refl _)
  obtain ⟨s6, h6, e6, x6, r6, f6⟩ := Put_f (l := []) w5 (rd_nil 1 h5) ri (by simp [hnums]) hR'.ok
  refine .callE e6 ?_
  rw [List.nil_append] at r6
  refine PO.newB (l := [s6, s2].map encSl) x6.wf fun h7 x7 B7 z7 w7 => ?_
  have rs : RdS h7 ⟨some ⟨h6.size, 0, some 0⟩, 2, 2⟩ [s6, s2] := B7.rd w7 rfl (by unfold CapOK; rw [capK_exact (by unfold B63; omega)]; exact Nat.le_refl _)
  have hel := encs_length (hnums x)
  have hnl : (hnums x).length = 5 := rfl
  have rb : RdBs h7 [s6, s2] [encs (hnums x), cat ls] := ⟨⟨RdB.ex x7 r6, by omega⟩, ⟨⟨(r5.ex x6).ex x7, hl⟩, trivial⟩⟩
  have hc2 : cat [encs (hnums x), cat ls] = encs (hnums x) ++ cat ls := by simp [cat]
  refine PO.call (Concat_all w7 rs rb (by simp) (by rw [hc2, List.length_append]; omega)) fun s8 h8 ⟨x8, r8, f8⟩ => .ret ⟨?_, (((((x1.trans x2).trans x3).trans x4).trans x5).trans x6).trans (x7.trans x8)⟩
  unfold layV; rw [if_pos ⟨hR', heq⟩, ← hc2]; exact r8
end Go.Proofs.Ythiccnmplgdheaa.T
/- Chapter 18's functions over the typed texts: pieces read, short heads, texts, the chapter's example. -/
set_option linter.unusedVariables false
set_option linter.unusedSimpArgs false
namespace Go.Proofs.Ythiccnmplgdheaa.T
open Go Go.Abs Go.Proofs
def hd0 : Hd := (0, 0, 0, 0, 0)
def hdOf (ns : List Int) : Hd := (ns.getD 0 0, ns.getD 1 0, ns.getD 2 0, ns.getD 3 0, ns.getD 4 0)
def readV (l : List UInt8) : Hd × List UInt8 × Int := match tks 5 l with
  | some (ns, rest) => if HR (hdOf ns) ∧ (rest.length : Int) = hto (hdOf ns) - hfrom (hdOf ns) then (hdOf ns, rest, 0) else (hd0, [], 2)
  | none => (hd0, [], 3)
theorem Read_f {h : H} (w : WF h) {b : Sl} {l : List UInt8} (hr : RdB h b l) (hl : l.length ≤ 2 ^ 47) :
    PO (head_Read b h) (fun (a, h1) => a.1 = (readV l).1 ∧ a.2.2 = (readV l).2.2 ∧ RdB h1 a.2.1 (readV l).2.1 ∧ EX h h1) := by
  unfold head_Read P.head_Read
  refine PO.newB w fun h0 x0 B z0 w0 => ?_
  have ht := Takes_f (cnt := 5) (c := 5) w0 (hr.ex x0) hl (by omega) (by simp)
  cases hk : tks 5 l with
  | none =>
    rw [hk] at ht
    obtain ⟨h1, e1, x1⟩ := ht
    have hv : readV l = (hd0, [], 3) := by unfold readV; rw [hk]
    have B1 := Box.kx x1 B
    refine .callE e1 (.condNE (fun _ => ?_) (fun e => by simp at e))
    refine PO.stZ B1 x1.wf rfl rfl fun h2 B2 u2 z2 w2 => ?_
    simp only [encL, Z.enc] at B2
    refine .ldZ5 B2 (.ret ?_)
    show _ ∧ _ ∧ _ ∧ _
    rw [hv]
    exact ⟨rfl, rfl, rd_nil 1 h2, u2.ex0 (x0.trans x1) (fun A hA e => by omega)⟩
  | some p =>
    obtain ⟨ns, rest⟩ := p
    rw [hk] at ht
    obtain ⟨s, t, h1, e1, x1, rs, rt⟩ := ht
    have hnl := tks_length 5 l ns rest hk
    have B1 := Box.kx x1 B
    have hz1 := (x0.trans x1).size
    have hs1 := x1.size
    have hn1 := x1.wf.nro
    obtain ⟨i, d, c, k, z, rfl⟩ : ∃ i d c k z, ns = [i, d, c, k, z] := by
      match ns, hnl with
      | [i, d, c, k, z], _ => exact ⟨i, d, c, k, z, rfl⟩
    refine .callE e1 (.condNE (fun e => absurd rfl e) (fun _ => ?_))
    refine PO.letGrow x1.wf fun h3 x3 z3 w3 n3 => ?_
    have rs3 : RdI .i64 h3 s [i, d, c, k, z] := rs.ex x3
    refine .ixI rs3 (by omega) (by simp) fun a0 (e0 : _ = some i) => .op e0 (.ixI rs3 (by omega) (by simp) fun a1 (e1 : _ = some d) => .op e1 (.ixI rs3 (by omega) (by simp) fun a2 (e2 : _ = some c) => .op e2 (.ixI rs3 (by omega) (by simp) fun a3 (e3 : _ = some k) => .op e3 (.ixI rs3 (by omega) (by simp) fun a4 (e4 : _ = some z) => .op e4 ?_))))
    refine PO.addNew w3 (by decide) (n3 16 (by omega)) (by omega) (by rw [x3.nro]; omega) fun h4 N4 B4 => .addNil ?_
    refine PO.stZ B4 N4.wf rfl rfl fun h5 B5 u5 z5 w5 => ?_
    refine .addOld B5.ne (.addNil (PO.letTick w5 fun h7 x7 z7 w7 => ?_))
    simp only [encL, Z.enc] at B5
    have xx3 : EX h h3 := (x0.trans x1).trans x3
    have xx5 : EX h h5 := u5.ex0 (N4.ex0 xx3 (by omega)) (fun A hA e => by omega)
    have C5 : Box h5 h.size (hdL hd0) := Box.ku u5 (by omega) (NW.kb N4 (Box.kx x3 B1))
    have t5 : RdB h5 t rest := Rd.old u5 rt (by omega) (NW.kr N4 (Rd.kx x3 rt))
    have B7 := Box.kx x7 B5
    have C7 := Box.kx x7 C5
    have t7 := t5.ex x7
    refine .ldZ5 B7 (PO.call (Right_f w7 _) fun a h8 ⟨e, x8⟩ => ?_)
    subst e
    have B8 := Box.kx x8 B7
    have C8 := Box.kx x8 C7
    have hz8 := (x7.trans x8).size
    have hv : readV l = if HR (i, d, c, k, z) ∧ (rest.length : Int) = hto (i, d, c, k, z) - hfrom (i, d, c, k, z) then ((i, d, c, k, z), rest, 0) else (hd0, [], 2) := by unfold readV; rw [hk]; rfl
    have t8 := RdB.ex x8 t7
    have xx8 : EX h h8 := (xx5.trans x7).trans x8
    refine .condND (fun hn => ?_) (fun hR => ?_)
    · refine PO.stZ C8 x8.wf rfl rfl fun h9 B9 u9 z9 w9 => ?_
      simp only [encL, Z.enc] at B9
      refine .ldZ5 B9 (.ret ?_)
      show _ ∧ _ ∧ _ ∧ _
      rw [hv, if_neg (fun h => hn h.1)]
      exact ⟨rfl, rfl, rd_nil 1 h9, u9.ex0 xx8 (fun A hA e => by omega)⟩
    · have hR' : HR (i, d, c, k, z) := hR
      have hb := hR'.b
      refine .ldZ5 B8 (PO.call (bounds_f x8.wf hR') fun a h10 ⟨e, x10⟩ => ?_)
      subst e
      have C10 := Box.kx x10 C8
      have t10 := RdB.ex x10 t8
      have B10 := Box.kx x10 B8
      have xx10 := xx8.trans x10
      have hlen := RdB.len t10
      simp only at C10 t10 B10 xx10 ⊢
      rw [w64 (n := hto (i, d, c, k, z) - hfrom (i, d, c, k, z)) (by omega) (by omega)]
      refine .condNE (fun hne => ?_) (fun heq => ?_)
      · refine PO.stZ C10 x10.wf rfl rfl fun h9 B9 u9 z9 w9 => ?_
        simp only [encL, Z.enc] at B9
        refine .ldZ5 B9 (.ret ?_)
        show _ ∧ _ ∧ _ ∧ _
        rw [hv, if_neg (fun h => hne (by rw [hlen]; exact h.2))]
        exact ⟨rfl, rfl, rd_nil 1 h9, u9.ex0 xx10 (fun A hA e => by omega)⟩
      · refine .ldZ5 B10 (PO.stZ C10 x10.wf rfl rfl fun h9 B9 u9 z9 w9 => ?_)
        simp only [encL, Z.enc] at B9
        refine .ldZ5 B9 (.ret ?_)
        show _ ∧ _ ∧ _ ∧ _
        rw [hv, if_pos ⟨hR', by rw [← hlen]; exact heq⟩]
        refine ⟨rfl, rfl, ?_, u9.ex0 xx10 (fun A hA e => by omega)⟩
        exact RdB.kbox x10.wf C10 u9 (by simp [hd0]) t10
end Go.Proofs.Ythiccnmplgdheaa.T
/- Chapter 18's functions over the typed texts: short heads, texts, the chapter's example; what is laid is read. -/
set_option linter.unusedVariables false
set_option linter.unusedSimpArgs false
namespace Go.Proofs.Ythiccnmplgdheaa.T
open Go Go.Abs Go.Proofs
theorem PO.app1 {α : Type} {Q : α → Prop} {h0 h : H} {out : Sl} {l : List UInt8} {bv : UInt8} {g : Sl → H → Option α} {x : Int} (hxv : x = (bv.toNat : Int)) (hb : BufB h out l) (hx : EX h0 h) (hf : Fr h0.size out) (hl : l.length + 1 ≤ 2 ^ 47)
    (k : ∀ out1 h2, BufB h2 out1 (l ++ [bv]) → EX h0 h2 → Fr h0.size out1 → PO (g out1 h2) Q) : PO (newO (row 5 [.int .u8 x]) h fun b h1 => bind2 (appT 5 1 1 h1 out ⟨some ⟨b, 0, some 0⟩, 1, 1⟩) g) Q := by
  subst hxv
  obtain ⟨out1, h2, e, b, x, f⟩ := app_one bv hb hx hf hl
  rw [newO_eq]
  exact PO.callE e (k out1 h2 b x f)
/-! short heads -/
def snums (x : Hd) : List Int := [x.1, x.2.1, x.2.2.2.2]
def shortV (x : Hd) : List UInt8 := if HR x then encs (snums x) else []
theorem HR.ok3 {x : Hd} (h : HR x) : ∀ n ∈ snums x, okN n := by
  unfold HR hcnt at h; unfold snums okN; simp only [List.mem_cons, List.not_mem_nil, or_false, forall_eq_or_imp, forall_eq]; omega
theorem Short_f {h : H} (w : WF h) (x : Hd) : PO (head_Short x h) (fun (a, h1) => RdB h1 a (shortV x) ∧ EX h h1 ∧ Fr h.size a) := by
  unfold head_Short P.head_Short
  refine PO.newB w fun h1 x1 B z1 w1 => .ldZ5 B (PO.call (Right_f w1 _) fun a h3 ⟨e, x3⟩ => ?_)
  subst e
  have B3 := Box.kx x3 B
  refine .condND (fun hn => .ret ⟨?_, x1.trans x3, fr_nil _⟩) (fun hR => ?_)
  · unfold shortV; rw [if_neg (fun h => hn h)]; exact rd_nil 1 h3
  have hR' : HR x := hR
  refine .ldI B3 rfl (.ldI B3 rfl (.ldI B3 rfl (PO.newB x3.wf fun h5 x5 B5 z5 w5 => ?_)))
  have ri : RdI .i64 h5 ⟨some ⟨h3.size, 0, some 0⟩, 3, 3⟩ (snums x) := B5.rd w5 rfl (by unfold CapOK; rw [capK_exact (by unfold B63; omega)]; exact Nat.le_refl _)
  obtain ⟨s6, h6, e6, x6, r6, f6⟩ := Put_f (l := []) w5 (rd_nil 1 h5) ri (by simp [snums]) hR'.ok3
  refine .callE e6 (.ret ⟨?_, ((x1.trans x3).trans x5).trans x6, f6.mono ((x1.trans x3).trans x5).size⟩)
  unfold shortV; rw [if_pos hR']; exact r6
def rsV (l : List UInt8) : Hd × Int × Int := match tks 3 l with
  | some (ns, rest) => if ofV (ns.getD 0 0) (ns.getD 1 0) (ns.getD 2 0) = hd0 then (hd0, 0, 2) else (ofV (ns.getD 0 0) (ns.getD 1 0) (ns.getD 2 0), (l.length : Int) - rest.length, 0)
  | none => (hd0, 0, 3)
theorem tks_rest : ∀ (n : Nat) (l : List UInt8) (ns : List Int) (r : List UInt8), tks n l = some (ns, r) → r.length ≤ l.length
  | 0, l, ns, r, h => by simp [tks] at h; rw [h.2]; omega
  | n + 1, l, ns, r, h => by
    unfold tks at h
    split at h
    · simp only [Option.map_eq_some_iff] at h
      obtain ⟨⟨p1, p2⟩, h1, h2⟩ := h
      simp only [Prod.mk.injEq] at h2
      have := tks_rest n _ p1 p2 h1
      have := tk_rest l
      rw [← h2.2]; omega
    · simp at h
theorem ReadShort_f {h : H} (w : WF h) {b : Sl} {l : List UInt8} (hr : RdB h b l) (hl : l.length ≤ 2 ^ 47) :
    PO (head_ReadShort b h) (fun (a, h1) => a = rsV l ∧ EX h h1) := by
  unfold head_ReadShort P.head_ReadShort
  refine PO.newB w fun h0 x0 B z0 w0 => ?_
  have ht := Takes_f (cnt := 3) (c := 3) w0 (hr.ex x0) hl (by omega) (by simp)
  cases hk : tks 3 l with
  | none =>
    rw [hk] at ht
    obtain ⟨h1, e1, x1⟩ := ht
    have hv : rsV l = (hd0, 0, 3) := by unfold rsV; rw [hk]
    have B1 := Box.kx x1 B
    refine .callE e1 (.condNE (fun _ => ?_) (fun e => by simp at e))
    refine PO.stZ B1 x1.wf rfl rfl fun h2 B2 u2 z2 w2 => ?_
    simp only [encL, Z.enc] at B2
    refine .ldZ5 B2 (.ret ?_)
    exact ⟨hv.symm, u2.ex0 (x0.trans x1) (fun A hA e => by omega)⟩
  | some p =>
    obtain ⟨ns, rest⟩ := p
    rw [hk] at ht
    obtain ⟨s, t, h1, e1, x1, rs, rt⟩ := ht
    have hnl := tks_length 3 l ns rest hk
    have hrl := tks_rest 3 l ns rest hk
    have B1 := Box.kx x1 B
    obtain ⟨i, d, z, rfl⟩ : ∃ i d z, ns = [i, d, z] := by
      match ns, hnl with
      | [i, d, z], _ => exact ⟨i, d, z, rfl⟩
    have hv : rsV l = if ofV i d z = hd0 then (hd0, 0, 2) else (ofV i d z, (l.length : Int) - rest.length, 0) := by unfold rsV; rw [hk]; rfl
    refine .callE e1 (.condNE (fun e => absurd rfl e) (fun _ => ?_))
    refine .ixI rs (by omega) (by simp) fun a0 (e0 : _ = some i) => .op e0 (.ixI rs (by omega) (by simp) fun a1 (e1 : _ = some d) => .op e1 (.ixI rs (by omega) (by simp) fun a2 (e2 : _ = some z) => .op e2 ?_))
    refine PO.call (Of_f x1.wf i d z) fun a h3 ⟨e, x3⟩ => ?_
    have e' : a = ofV i d z := e
    subst e'
    have B3 := Box.kx x3 B1
    refine PO.stZ B3 x3.wf rfl rfl fun h4 B4 u4 z4 w4 => ?_
    have B4' : Box h4 h.size (hdL (ofV i d z)) := B4
    have xx4 : EX h h4 := u4.ex0 ((x0.trans x1).trans x3) (fun A hA e => by omega)
    refine .ldZ5 B4' (.letO ?_)
    have hz : (((ofV i d z).1 == 0) && (((ofV i d z).2.1 == 0) && (((ofV i d z).2.2.1 == 0) && (((ofV i d z).2.2.2.1 == 0) && (((ofV i d z).2.2.2.2 == 0) && true))))) = decide (ofV i d z = hd0) := by
      rw [Bool.eq_iff_iff]
      simp [hd0, Prod.ext_iff]
    simp only [hz]
    refine .condD (fun hc => ?_) (fun hc => ?_)
    · refine PO.stZ B4' w4 rfl rfl fun h5 B5 u5 z5 w5 => ?_
      simp only [encL, Z.enc] at B5
      refine .ldZ5 B5 (.ret ⟨?_, u5.ex0 xx4 (fun A hA e => by omega)⟩)
      rw [hv, if_pos hc]; rfl
    · refine .ldZ5 B4' (PO.stZ B4' w4 rfl rfl fun h5 B5 u5 z5 w5 => ?_)
      have B5' : Box h5 h.size (hdL (ofV i d z)) := B5
      refine .ldZ5 B5' (.ret ⟨?_, u5.ex0 xx4 (fun A hA e => by omega)⟩)
      rw [hv, if_neg hc, RdB.len hr, RdB.len rt, w64 (by omega) (by omega)]
/-! texts -/
def txB (l : List UInt8) (i : Nat) : UInt8 := UInt8.ofNat (i * 7) + (if l.length = 0 then 0 else l.getD (i % l.length) 0)
def textL (l : List UInt8) (n : Nat) : List UInt8 := (List.range n).map (txB l)
theorem textL_length (l : List UInt8) (n : Nat) : (textL l n).length = n := by simp [textL]
theorem textL_succ (l : List UInt8) (n : Nat) : textL l (n + 1) = textL l n ++ [txB l n] := by simp [textL, List.range_succ]
theorem Text_f {h : H} (w : WF h) {b : Sl} {l : List UInt8} (hr : RdB h b l) (hl : l.length ≤ 2 ^ 47) (N : Nat) (hN : N ≤ 1000000) : PO (hand_Text b (N : Int) h) (fun (a, h1) => BufB h1 a (textL l N) ∧ EX h h1 ∧ Fr h.size a) := by
  unfold hand_Text
  refine PO.joinD (PO.mono (P := fun r => ∃ out h', r = Sum.inl (out, h') ∧ BufB h' out (textL l N) ∧ EX h h' ∧ Fr h.size out) ?_ (by
    rintro _ ⟨out, h', rfl, a, b, c⟩; exact .ret ⟨a, b, c⟩))
  refine PO.loop (fun m s => ∃ (i : Nat) (out : Sl) (h' : H), s = ((b, ((N : Int), (out, (i : Int)))), h') ∧ m + i = N ∧ BufB h' out (textL l i) ∧ EX h h' ∧ Fr h.size out) ?_ N _ ⟨0, ⟨none, 0, 0⟩, h, rfl, by omega, buf_nil 1 h, EX.refl w, fr_nil _⟩
  rintro m s ⟨i, out, h', rfl, hm, hb, hx, hf⟩
  unfold hand_Text_l1
  refine .condD (fun hlt => ?_) (fun hge => ?_)
  · have tl := textL_length l i
    refine PO.join (fun s => s = ((b, ((N : Int), (out, ((i : Int), ((txB l i).toNat : Int))))), h')) ?_ ?_
    · have hrl := RdB.len hr
      have hr' := RdB.ex hx hr
      refine .condD (fun hp => ?_) (fun hp => ?_)
      · have h0 : l.length ≠ 0 := by omega
        refine .op (remT_ok _ _ (by omega)) ?_
        have e : Int.tmod (i : Int) ((b.len : Nat) : Int) = ((i % l.length : Nat) : Int) := by rw [hrl]; exact (Int.ofNat_tmod i l.length).symm
        rw [e]
        have hmod := Nat.mod_lt i (Nat.pos_of_ne_zero h0)
        refine .ixB hr' (by omega) (by omega) fun a ea => .op ea (.letO (.retL ?_))
        rw [w64 (by omega) (by omega), wu8_mod, wu8_mod]
        have : (txB l i).toNat = (i * 7 % 256 + (l.getD (i % l.length) 0).toNat) % 256 := by
          unfold txB; rw [if_neg h0, UInt8.toNat_add]; simp
        rw [this]
        simp only [Int.toNat_natCast]
        congr 5
      · refine .retL ?_
        rw [w64 (by omega) (by omega), wu8_mod]
        have h0 : l.length = 0 := by omega
        have : (txB l i).toNat = i * 7 % 256 := by
          unfold txB; rw [if_pos h0]; simp
        rw [this]
        congr 5
    · rintro _ rfl
      refine PO.app1 rfl hb hx hf (by omega) fun out1 h2 b2 x2 f2 => .retL ?_
      rw [w64 (by omega) (by omega)]
      exact ⟨m - 1, by omega, i + 1, out1, h2, rfl, by omega, by rw [textL_succ]; exact b2, x2, f2⟩
  · have : i = N := by omega
    subst this
    exact .retR ⟨out, h', rfl, hb, hx, hf⟩
/-! what is laid is read -/
theorem readV_layV {x : Hd} {l : List UInt8} (h : HR x ∧ (l.length : Int) = hto x - hfrom x) : readV (layV x l) = (x, l, 0) := by
  unfold layV readV
  rw [if_pos h]
  have := tks_encs (hnums x) l h.1.ok
  have h5 : (hnums x).length = 5 := rfl
  rw [h5] at this
  rw [this]
  have hd : hdOf (hnums x) = x := rfl
  simp only [hd]
  rw [if_pos h]
theorem layV_length {x : Hd} {l : List UInt8} (h : HR x ∧ (l.length : Int) = hto x - hfrom x) : l.length < (layV x l).length ∧ (layV x l).length ≤ l.length + 40 := by
  unfold layV
  rw [if_pos h]
  have := encs_length (hnums x)
  have h5 : (hnums x).length = 5 := rfl
  have h1 : 0 < (encs (hnums x)).length := by
    unfold hnums encs
    rw [List.length_append, enc_length]
    have := sz_pos x.1
    omega
  simp; omega
end Go.Proofs.Ythiccnmplgdheaa.T
