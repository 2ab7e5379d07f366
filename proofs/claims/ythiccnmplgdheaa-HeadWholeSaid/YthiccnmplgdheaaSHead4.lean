/- Chapter 18's functions over the typed texts: short heads, texts, the chapter's example; what is laid is read. -/
-- SEAT b
import Derived.Test.YthiccnmplgdheaaSHead3
set_option linter.unusedVariables false
set_option linter.unusedSimpArgs false
namespace Go.Proofs.Ythiccnmplgdheaa.T
open Go Go.Abs Go.Proofs
theorem PO.app1 {α : Type} {Q : α → Prop} {h0 h : H} {out : Sl} {l : List UInt8} {bv : UInt8} {g : Sl → H → Option α} {x : Int} (hxv : x = (bv.toNat : Int)) (hb : BufB h out l) (hx : EX h0 h) (hf : Fr h0.size out) (hl : l.length + 1 ≤ 2 ^ 47)
    (k : ∀ out1 h2, BufB h2 out1 (l ++ [bv]) → EX h0 h2 → Fr h0.size out1 → PO (g out1 h2) Q) : PO (newO (row 5 [.int .u8 x]) h fun b h1 => bind2 (appT 5 1 1 h1 out ⟨some ⟨b, 0, some 0⟩, 1, 1⟩) g) Q := by
  subst hxv
  obtain ⟨out1, h2, e, b, x, f⟩ := app_one bv hb hx hf hl
  rw [newO_eq]
  exact PO.callE e (k out1 h2 b x f)
/-! short heads -/
def snums (x : Hd) : List Int := [x.1, x.2.1, x.2.2.2.2]
def shortV (x : Hd) : List UInt8 := if HR x then encs (snums x) else []
theorem HR.ok3 {x : Hd} (h : HR x) : ∀ n ∈ snums x, okN n := by
  unfold HR hcnt at h; unfold snums okN; simp only [List.mem_cons, List.not_mem_nil, or_false, forall_eq_or_imp, forall_eq]; omega
theorem Short_f {h : H} (w : WF h) (x : Hd) : PO (head_Short x h) (fun (a, h1) => RdB h1 a (shortV x) ∧ EX h h1 ∧ Fr h.size a) := by
  unfold head_Short P.head_Short
  refine PO.newB w fun h1 x1 B z1 w1 => .ldZ5 B (PO.call (Right_f w1 _) fun a h3 ⟨e, x3⟩ => ?_)
  subst e
  have B3 := Box.kx x3 B
  refine .condND (fun hn => .ret ⟨?_, x1.trans x3, fr_nil _⟩) (fun hR => ?_)
  · unfold shortV; rw [if_neg (fun h => hn h)]; exact rd_nil 1 h3
  have hR' : HR x := hR
  refine .ldI B3 rfl (.ldI B3 rfl (.ldI B3 rfl (PO.newB x3.wf fun h5 x5 B5 z5 w5 => ?_)))
  have ri : RdI .i64 h5 ⟨some ⟨h3.size, 0, some 0⟩, 3, 3⟩ (snums x) := B5.rd w5 rfl (by unfold CapOK; rw [capK_exact (by unfold B63; omega)]; exact Nat.le_refl _)
  obtain ⟨s6, h6, e6, x6, r6, f6⟩ := Put_f (l := []) w5 (rd_nil 1 h5) ri (by simp [snums]) hR'.ok3
  refine .callE e6 (.ret ⟨?_, ((x1.trans x3).trans x5).trans x6, f6.mono ((x1.trans x3).trans x5).size⟩)
  unfold shortV; rw [if_pos hR']; exact r6
def rsV (l : List UInt8) : Hd × Int × Int := match tks 3 l with
  | some (ns, rest) => if ofV (ns.getD 0 0) (ns.getD 1 0) (ns.getD 2 0) = hd0 then (hd0, 0, 2) else (ofV (ns.getD 0 0) (ns.getD 1 0) (ns.getD 2 0), (l.length : Int) - rest.length, 0)
  | none => (hd0, 0, 3)
theorem tks_rest : ∀ (n : Nat) (l : List UInt8) (ns : List Int) (r : List UInt8), tks n l = some (ns, r) → r.length ≤ l.length
  | 0, l, ns, r, h => by simp [tks] at h; rw [h.2]; omega
  | n + 1, l, ns, r, h => by
    unfold tks at h
    split at h
    · simp only [Option.map_eq_some_iff] at h
      obtain ⟨⟨p1, p2⟩, h1, h2⟩ := h
      simp only [Prod.mk.injEq] at h2
      have := tks_rest n _ p1 p2 h1
      have := tk_rest l
      rw [← h2.2]; omega
    · simp at h
theorem ReadShort_f {h : H} (w : WF h) {b : Sl} {l : List UInt8} (hr : RdB h b l) (hl : l.length ≤ 2 ^ 47) :
    PO (head_ReadShort b h) (fun (a, h1) => a = rsV l ∧ EX h h1) := by
  unfold head_ReadShort P.head_ReadShort
  refine PO.newB w fun h0 x0 B z0 w0 => ?_
  have ht := Takes_f (cnt := 3) (c := 3) w0 (hr.ex x0) hl (by omega) (by simp)
  cases hk : tks 3 l with
  | none =>
    rw [hk] at ht
    obtain ⟨h1, e1, x1⟩ := ht
    have hv : rsV l = (hd0, 0, 3) := by unfold rsV; rw [hk]
    have B1 := Box.kx x1 B
    refine .callE e1 (.condNE (fun _ => ?_) (fun e => by simp at e))
    refine PO.stZ B1 x1.wf rfl rfl fun h2 B2 u2 z2 w2 => ?_
    simp only [encL, Z.enc] at B2
    refine .ldZ5 B2 (.ret ?_)
    exact ⟨hv.symm, u2.ex0 (x0.trans x1) (fun A hA e => by omega)⟩
  | some p =>
    obtain ⟨ns, rest⟩ := p
    rw [hk] at ht
    obtain ⟨s, t, h1, e1, x1, rs, rt⟩ := ht
    have hnl := tks_length 3 l ns rest hk
    have hrl := tks_rest 3 l ns rest hk
    have B1 := Box.kx x1 B
    obtain ⟨i, d, z, rfl⟩ : ∃ i d z, ns = [i, d, z] := by
      match ns, hnl with
      | [i, d, z], _ => exact ⟨i, d, z, rfl⟩
    have hv : rsV l = if ofV i d z = hd0 then (hd0, 0, 2) else (ofV i d z, (l.length : Int) - rest.length, 0) := by unfold rsV; rw [hk]; rfl
    refine .callE e1 (.condNE (fun e => absurd rfl e) (fun _ => ?_))
    refine .ixI rs (by omega) (by simp) fun a0 (e0 : _ = some i) => .op e0 (.ixI rs (by omega) (by simp) fun a1 (e1 : _ = some d) => .op e1 (.ixI rs (by omega) (by simp) fun a2 (e2 : _ = some z) => .op e2 ?_))
    refine PO.call (Of_f x1.wf i d z) fun a h3 ⟨e, x3⟩ => ?_
    have e' : a = ofV i d z := e
    subst e'
    have B3 := Box.kx x3 B1
    refine PO.stZ B3 x3.wf rfl rfl fun h4 B4 u4 z4 w4 => ?_
    have B4' : Box h4 h.size (hdL (ofV i d z)) := B4
    have xx4 : EX h h4 := u4.ex0 ((x0.trans x1).trans x3) (fun A hA e => by omega)
    refine .ldZ5 B4' (.letO ?_)
    have hz : (((ofV i d z).1 == 0) && (((ofV i d z).2.1 == 0) && (((ofV i d z).2.2.1 == 0) && (((ofV i d z).2.2.2.1 == 0) && (((ofV i d z).2.2.2.2 == 0) && true))))) = decide (ofV i d z = hd0) := by
      rw [Bool.eq_iff_iff]
      simp [hd0, Prod.ext_iff]
    simp only [hz]
    refine .condD (fun hc => ?_) (fun hc => ?_)
    · refine PO.stZ B4' w4 rfl rfl fun h5 B5 u5 z5 w5 => ?_
      simp only [encL, Z.enc] at B5
      refine .ldZ5 B5 (.ret ⟨?_, u5.ex0 xx4 (fun A hA e => by omega)⟩)
      rw [hv, if_pos hc]; rfl
    · refine .ldZ5 B4' (PO.stZ B4' w4 rfl rfl fun h5 B5 u5 z5 w5 => ?_)
      have B5' : Box h5 h.size (hdL (ofV i d z)) := B5
      refine .ldZ5 B5' (.ret ⟨?_, u5.ex0 xx4 (fun A hA e => by omega)⟩)
      rw [hv, if_neg hc, RdB.len hr, RdB.len rt, w64 (by omega) (by omega)]
/-! texts -/
def txB (l : List UInt8) (i : Nat) : UInt8 := UInt8.ofNat (i * 7) + (if l.length = 0 then 0 else l.getD (i % l.length) 0)
def textL (l : List UInt8) (n : Nat) : List UInt8 := (List.range n).map (txB l)
theorem textL_length (l : List UInt8) (n : Nat) : (textL l n).length = n := by simp [textL]
theorem textL_succ (l : List UInt8) (n : Nat) : textL l (n + 1) = textL l n ++ [txB l n] := by simp [textL, List.range_succ]
theorem Text_f {h : H} (w : WF h) {b : Sl} {l : List UInt8} (hr : RdB h b l) (hl : l.length ≤ 2 ^ 47) (N : Nat) (hN : N ≤ 1000000) : PO (hand_Text b (N : Int) h) (fun (a, h1) => BufB h1 a (textL l N) ∧ EX h h1 ∧ Fr h.size a) := by
  unfold hand_Text
  refine PO.joinD (PO.mono (P := fun r => ∃ out h', r = Sum.inl (out, h') ∧ BufB h' out (textL l N) ∧ EX h h' ∧ Fr h.size out) ?_ (by
    rintro _ ⟨out, h', rfl, a, b, c⟩; exact .ret ⟨a, b, c⟩))
  refine PO.loop (fun m s => ∃ (i : Nat) (out : Sl) (h' : H), s = ((b, ((N : Int), (out, (i : Int)))), h') ∧ m + i = N ∧ BufB h' out (textL l i) ∧ EX h h' ∧ Fr h.size out) ?_ N _ ⟨0, ⟨none, 0, 0⟩, h, rfl, by omega, buf_nil 1 h, EX.refl w, fr_nil _⟩
  rintro m s ⟨i, out, h', rfl, hm, hb, hx, hf⟩
  unfold hand_Text_l1
  refine .condD (fun hlt => ?_) (fun hge => ?_)
  · have tl := textL_length l i
    refine PO.join (fun s => s = ((b, ((N : Int), (out, ((i : Int), ((txB l i).toNat : Int))))), h')) ?_ ?_
    · have hrl := RdB.len hr
      have hr' := RdB.ex hx hr
      refine .condD (fun hp => ?_) (fun hp => ?_)
      · have h0 : l.length ≠ 0 := by omega
        refine .op (remT_ok _ _ (by omega)) ?_
        have e : Int.tmod (i : Int) ((b.len : Nat) : Int) = ((i % l.length : Nat) : Int) := by rw [hrl]; exact (Int.ofNat_tmod i l.length).symm
        rw [e]
        have hmod := Nat.mod_lt i (Nat.pos_of_ne_zero h0)
        refine .ixB hr' (by omega) (by omega) fun a ea => .op ea (.letO (.retL ?_))
        rw [w64 (by omega) (by omega), wu8_mod, wu8_mod]
        have : (txB l i).toNat = (i * 7 % 256 + (l.getD (i % l.length) 0).toNat) % 256 := by
          unfold txB; rw [if_neg h0, UInt8.toNat_add]; simp
        rw [this]
        simp only [Int.toNat_natCast]
        congr 5
      · refine .retL ?_
        rw [w64 (by omega) (by omega), wu8_mod]
        have h0 : l.length = 0 := by omega
        have : (txB l i).toNat = i * 7 % 256 := by
          unfold txB; rw [if_pos h0]; simp
        rw [this]
        congr 5
    · rintro _ rfl
      refine PO.app1 rfl hb hx hf (by omega) fun out1 h2 b2 x2 f2 => .retL ?_
      rw [w64 (by omega) (by omega)]
      exact ⟨m - 1, by omega, i + 1, out1, h2, rfl, by omega, by rw [textL_succ]; exact b2, x2, f2⟩
  · have : i = N := by omega
    subst this
    exact .retR ⟨out, h', rfl, hb, hx, hf⟩
/-! what is laid is read -/
theorem readV_layV {x : Hd} {l : List UInt8} (h : HR x ∧ (l.length : Int) = hto x - hfrom x) : readV (layV x l) = (x, l, 0) := by
  unfold layV readV
  rw [if_pos h]
  have := tks_encs (hnums x) l h.1.ok
  have h5 : (hnums x).length = 5 := rfl
  rw [h5] at this
  rw [this]
  have hd : hdOf (hnums x) = x := rfl
  simp only [hd]
  rw [if_pos h]
theorem layV_length {x : Hd} {l : List UInt8} (h : HR x ∧ (l.length : Int) = hto x - hfrom x) : l.length < (layV x l).length ∧ (layV x l).length ≤ l.length + 40 := by
  unfold layV
  rw [if_pos h]
  have := encs_length (hnums x)
  have h5 : (hnums x).length = 5 := rfl
  have h1 : 0 < (encs (hnums x)).length := by
    unfold hnums encs
    rw [List.length_append, enc_length]
    have := sz_pos x.1
    omega
  simp; omega
end Go.Proofs.Ythiccnmplgdheaa.T
