/- Lemmas about the typed texts (joined: LHead2 SHead5 SFrame4). -/
import Derived.Test.YthiccnmplgdheaaG14
import Derived.Test.YthiccnmplgdheaaG12
/- The law HeadWhole over the typed texts. -/
set_option linter.unusedVariables false
set_option linter.unusedSimpArgs false
namespace Go.Proofs.Ythiccnmplgdheaa.T
open Go Go.Abs Go.Proofs
theorem hnums_len {x : Hd} (h : HR x) : (encs (hnums x)).length ≤ 16 := by
  have e : (encs (hnums x)).length = (sz x.1).toNat + ((sz x.2.1).toNat + ((sz x.2.2.1).toNat + ((sz x.2.2.2.1).toNat + (sz x.2.2.2.2).toNat))) := by
    simp [hnums, encs, enc_length]
  have h1 : sz x.1 = 1 := by unfold sz; rw [if_pos (by have := h.2.1; omega)]
  have h2 := sz_pos x.2.1
  have hc : x.2.2.1 ≤ 8 := by have := h.2.2.2.2.2.2.1; have := h.2.2.2.2.2.1; unfold hcnt at *; omega
  have h3 : sz x.2.2.1 = 1 := by unfold sz; rw [if_pos (by omega)]
  have h4 : sz x.2.2.2.1 = 1 := by unfold sz; rw [if_pos (by have := h.2.2.2.2.2.2.2.2; omega)]
  have h5 : sz x.2.2.2.2 ≤ 2 := by have := h.2.2.2.2.2.1; unfold sz; (repeat' split) <;> omega
  omega
theorem hd_self (x : Hd) : ((x.1 == x.1) && ((x.2.1 == x.2.1) && ((x.2.2.1 == x.2.2.1) && ((x.2.2.2.1 == x.2.2.2.1) && ((x.2.2.2.2 == x.2.2.2.2) && true))))) = true := by simp
theorem Box.app {h h' : H} {b : Nat} {l : List Value} {s : Sl} (C : Box h b l) (w : WF h) (x : ∀ h0, EX h0 h → Fr h0.size s → EX h0 h') (hf : Fr (b + 1) s) : Box h' b l := by
  have e : EX { h with size := b + 1 } h := ⟨C.blt, rfl, w, fun _ _ => rfl⟩
  have C' : Box { h with size := b + 1 } b l := ⟨C.get, C.nro, Nat.lt_succ_self _⟩
  exact Box.kx (x _ e hf) C'
end Go.Proofs.Ythiccnmplgdheaa.T
/- Chapter 18's reference over the typed texts. -/
set_option linter.unusedVariables false
set_option linter.unusedSimpArgs false
namespace Go.Proofs.Ythiccnmplgdheaa.T
open Go Go.Abs Go.Proofs
theorem rcount_f {s : Int} (h1 : 0 ≤ s) (h2 : s ≤ 600) (h : H) : ref18_count s h = some (hcnt s, h) := pieces_f h1 h2 h
theorem RRight_f {h : H} (w : WF h) (x : Hd) : PO (ref18_Right x h) (fun (a, h1) => a = decide (HR x) ∧ EX h h1) := by
  obtain ⟨i, d, c, k, s⟩ := x
  unfold ref18_Right P.ref18_Right
  refine PO.newB w fun h1 x1 B z1 w1 => ?_
  simp only [B.ldI (i := 0) rfl, B.ldI (i := 1) rfl, B.ldI (i := 2) rfl, B.ldI (i := 3) rfl, B.ldI (i := 4) rfl, bindO_some, may_f, bind2_some, condK_eq, decide_eq_true_eq]
  have no : ∀ (P : Prop) [Decidable P], ¬ P → PO (some (false, h1)) (fun (a, h1) => a = decide P ∧ EX h h1) := fun P _ hp => .ret ⟨(decide_eq_false hp).symm, x1⟩
  (repeat' split)
  all_goals (try unfold okN at *)
  all_goals (try exact no _ (by unfold HR; simp only; omega))
  rw [rcount_f (by omega) (by omega), bind2_some]
  simp only [B.ldI (i := 3) rfl, B.ldI (i := 2) rfl, bindO_some, beq_self_eq_true, if_true, beq_iff_eq]
  (repeat' split)
  all_goals (try exact no _ (by unfold HR; simp only; omega))
  exact .ret ⟨decide_eq_decide.2 (by unfold HR; simp only; omega), x1⟩
theorem rbounds_f {h : H} (w : WF h) {x : Hd} (hx : HR x) : PO (ref18_bounds x h) (fun (a, h1) => a = (hfrom x, hto x) ∧ EX h h1) := by
  obtain ⟨i, d, c, k, s⟩ := x
  unfold HR hcnt at hx; simp only at hx
  unfold ref18_bounds
  refine PO.newB w fun h1 x1 B z1 w1 => .ldI B rfl (.ldI B rfl (.ldI B rfl (.letO (.ret ⟨?_, x1⟩))))
  rw [w64 (n := k * 80) (by omega) (by omega), w64 (n := k + 1) (by omega) (by omega), w64 (n := (k + 1) * 80) (by omega) (by omega)]
  unfold hfrom hto
  simp only [Prod.mk.injEq, true_and]
  split <;> omega
theorem ROf_f {h : H} (w : WF h) (id dl sz : Int) : PO (ref18_Of id dl sz h) (fun (a, h1) => a = ofV id dl sz ∧ EX h h1) := by
  unfold ref18_Of P.ref18_Of
  refine PO.newB w fun h1 x1 B1 z1 w1 => PO.newB w1 fun h2 x2 B2 z2 w2 => PO.stZ B2 w2 rfl rfl fun h3 B3 u3 z3 w3 => ?_
  have ne : ¬ h.size = h1.size := by omega
  have C1 := (B1.ex w1 x2).up w2 u3 ne
  have xx : EX h h3 := u3.ex0 (x1.trans x2) (fun A hA e => by omega)
  simp only [encL, Z.enc] at B3
  refine PO.join (fun s => s.1 = (some ⟨h.size, 0, some 0⟩, some ⟨h1.size, 0, some 0⟩) ∧ EX h s.2 ∧ s.2.size = h3.size ∧ WF s.2 ∧ Box s.2 h.size [.int .i64 0, .int .i64 0, .int .i64 0, .int .i64 0, .int .i64 0] ∧ Box s.2 h1.size [.int .i64 id, .int .i64 dl, .int .i64 (if 1 ≤ sz ∧ sz ≤ 600 then hcnt sz else 0), .int .i64 0, .int .i64 sz]) ?_ ?_
  · refine PO.join (fun s => s.1.1 = sz ∧ s.1.2.1 = some ⟨h.size, 0, some 0⟩ ∧ s.1.2.2.1 = some ⟨h1.size, 0, some 0⟩ ∧ (s.1.2.2.2 = true ↔ 1 ≤ sz ∧ sz ≤ 600) ∧ s.2 = h3) (PO.condD (fun h1 => .retL ⟨rfl, rfl, rfl, by simp; omega, rfl⟩) (fun h1 => .retL ⟨rfl, rfl, rfl, by simp; omega, rfl⟩)) ?_
    rintro ⟨⟨a1, a2, a3, b⟩, hh⟩ ⟨e1, e2, e3, hb, e4⟩
    simp only at e1 e2 e3 hb e4
    subst e1 e2 e3 e4
    refine PO.cond (fun hc => ?_) (fun hc => ?_)
    · have hs := hb.1 hc
      rw [rcount_f (by omega) (by omega), bind2_some, ptrK_some]
      refine PO.st1 B3 w3 (by simp) rfl fun h4 B4 u4 z4 w4 => .retL ⟨rfl, u4.ex0 xx (fun A hA e => by have := xx.size; omega), z4, w4, C1.up w3 u4 ne, ?_⟩
      rw [if_pos hs]; exact B4
    · have hs : ¬ (1 ≤ a1 ∧ a1 ≤ 600) := fun h => by rw [hb.2 h] at hc; simp at hc
      refine .retL ⟨rfl, xx, rfl, w3, C1, ?_⟩
      rw [if_neg hs]; exact B3
  · rintro ⟨s, h4⟩ ⟨rfl, xx4, z4, w4, C4, B4⟩
    refine .ptr (.ldZ5 B4 ?_)
    refine PO.call (RRight_f w4 _) fun a h5 ⟨e1, x5⟩ => ?_
    subst e1
    have C5 := C4.ex w4 x5
    have B5 := B4.ex w4 x5
    have hv : HR (id, dl, if 1 ≤ sz ∧ sz ≤ 600 then hcnt sz else 0, 0, sz) ↔ HR (id, dl, hcnt sz, 0, sz) := by
      unfold HR; simp only
      by_cases hs : 1 ≤ sz ∧ sz ≤ 600
      · rw [if_pos hs]; simp
      · rw [if_neg hs]; omega
    refine PO.condND (fun hn => ?_) (fun hp => ?_)
    · refine .ptr (PO.stZ C5 x5.wf rfl rfl fun h6 B6 u6 z6 w6 => ?_)
      simp only [encL, Z.enc] at B6
      refine .ptr (.ldZ5 B6 (.ret ⟨?_, u6.ex0 (xx4.trans x5) (fun A hA e => by omega)⟩))
      unfold ofV; rw [if_neg (fun h => hn (hv.2 h))]
    · have hs : 1 ≤ sz ∧ sz ≤ 600 := by unfold HR at hp; simp only at hp; omega
      refine .ptr (.ldZ5 B5 (.ptr (PO.stZ C5 x5.wf rfl rfl fun h6 B6 u6 z6 w6 => ?_)))
      simp only [encL, Z.enc] at B6
      refine .ptr (.ldZ5 B6 (.ret ⟨?_, u6.ex0 (xx4.trans x5) (fun A hA e => by omega)⟩))
      unfold ofV; rw [if_pos (hv.1 hp), if_pos hs]
theorem RShort_f {h : H} (w : WF h) (x : Hd) : PO (ref18_Short x h) (fun (a, h1) => RdB h1 a (shortV x) ∧ EX h h1) := by
  unfold ref18_Short P.ref18_Short
  refine PO.newB w fun h1 x1 B z1 w1 => .ldZ5 B (PO.call (RRight_f w1 _) fun a h3 ⟨e, x3⟩ => ?_)
  subst e
  have B3 := Box.kx x3 B
  refine .condND (fun hn => .ret ⟨?_, x1.trans x3⟩) (fun hR => ?_)
  · unfold shortV; rw [if_neg (fun h => hn h)]; exact rd_nil 1 h3
  have hR' : HR x := hR
  refine .ldI B3 rfl (.ldI B3 rfl (.ldI B3 rfl (PO.newB x3.wf fun h5 x5 B5 z5 w5 => ?_)))
  have ri : RdI .i64 h5 ⟨some ⟨h3.size, 0, some 0⟩, 3, 3⟩ (snums x) := B5.rd w5 rfl (by unfold CapOK; rw [capK_exact (by unfold B63; omega)]; exact Nat.le_refl _)
  obtain ⟨s6, h6, e6, x6, r6, _⟩ := RPut_f (l := []) w5 (rd_nil 1 h5) ri (by simp [snums])
  refine .callE e6 (.ret ⟨?_, ((x1.trans x3).trans x5).trans x6⟩)
  have : ¬ szV (snums x) < 0 := by rw [szV_neg]; exact fun h => h hR'.ok3
  unfold putV at r6
  rw [if_neg this] at r6
  unfold shortV; rw [if_pos hR']; exact BufB.rd r6
theorem RPart_f {h : H} (w : WF h) (x : Hd) {b : Sl} {l : List UInt8} (hr : RdB h b l) (hl : l.length ≤ 2 ^ 47) : PO (ref18_Part x b h) (fun (a, h1) => RdB h1 a (partV x l) ∧ EX h h1) := by
  unfold ref18_Part P.ref18_Part
  refine PO.newB w fun h1 x1 B z1 w1 => ?_
  refine PO.join (fun s => s.1.1 = b ∧ s.1.2.1 = some ⟨h.size, 0, some 0⟩ ∧ EX h s.2 ∧ WF s.2 ∧ Box s.2 h.size (hdL x) ∧ (s.1.2.2 = true ↔ ¬ (HR x ∧ (l.length : Int) = x.2.2.2.2))) ?_ ?_
  · refine .ldZ5 B (PO.call (RRight_f w1 _) fun a h2 ⟨e, x2⟩ => ?_)
    subst e
    have B2 := B.ex w1 x2
    refine .condND (fun hn => .retL ⟨rfl, rfl, x1.trans x2, x2.wf, B2, ?_⟩) (fun hp => .ldI B2 rfl (.retL ⟨rfl, rfl, x1.trans x2, x2.wf, B2, ?_⟩))
    · simp only [true_iff]; exact fun h => hn h.1
    · have hp' : HR x := hp
      simp only [RdB.len hr, bne_iff_ne, ne_eq, hp', true_and]
  · rintro ⟨⟨b', p, c⟩, h3⟩ ⟨e1, e2, x3, w3, B3, hc⟩
    simp only at e1 e2 x3 w3 B3 hc
    subst e1 e2
    refine .cond (fun c1 => .ret ⟨?_, x3⟩) (fun c0 => ?_)
    · unfold partV; rw [if_neg (hc.1 c1)]; exact rd_nil 1 h3
    · have hx : HR x ∧ (l.length : Int) = x.2.2.2.2 := Classical.byContradiction fun hh => by rw [hc.2 hh] at c0; simp at c0
      have hb := hx.1.b
      refine .ptr (.ldZ5 B3 (PO.call (rbounds_f w3 hx.1) fun a h4 ⟨e, x4⟩ => ?_))
      subst e
      refine PO.newB (l := vB []) x4.wf fun h5 x5 B5 z5 w5 => ?_
      have r4 := RdB.ex x5 (RdB.ex x4 (RdB.ex x3 hr))
      obtain ⟨s5, e5, r5, l5, _, f5⟩ := sl_lohi (lo := hfrom x) (hi := hto x) (by omega) (by unfold B63; omega) r4 (by omega) (by omega) (by rw [RdB.len r4]; omega)
      refine .op e5 ?_
      have r5' : RdB h5 s5 (partV x l) := by
        unfold partV; rw [if_pos hx]
        unfold vB at r5
        unfold RdB vB
        rw [Nat.mul_one, Nat.mul_one] at r5
        rw [List.map_take, List.map_drop]; exact r5
      have hpl := partV_len hx
      have b0 : BufB h5 ⟨some ⟨h4.size, 0, some 0⟩, 0, 0⟩ [] := B5.buf w5 rfl (by unfold B63; omega)
      obtain ⟨s', h', e9, k9, x9, b9, _, f9⟩ := appB_ok (e := 5) w5 b0 r5' (by simp; omega)
      refine .callE e9 (.ret ⟨b9.rd, x9 h ((x3.trans x4).trans x5) (fr_at _ _ (by have := (x3.trans x4).size; omega) _)⟩)
end Go.Proofs.Ythiccnmplgdheaa.T
/- Chapter 5's functions over the typed texts: the numbers that a frame is laid as. -/
set_option linter.unusedVariables false
set_option linter.unusedSimpArgs false
namespace Go.Proofs.Ythiccnmplgdheaa.T
open Go Go.Abs Go.Proofs
def ngo : Option Int → List Run → List Int
  | _, [] => []
  | p, r :: l => (match p with | none => r.2 | some q => q - r.2) :: (r.2 - r.1) :: ngo (some r.1) l
def flagV (b : Bool) : Int := if b then 1 else 0
def numsV (v : FV) : List Int :=
  if v.kind = 2 then v.kind :: (v.spans.length : Int) :: ngo none v.spans
  else if v.kind = 3 then [v.kind, v.id, v.off, flagV v.fin, (v.data.length : Int)]
  else if v.kind = 4 then [v.kind, v.id, v.a, v.off, v.b]
  else if v.kind = 5 ∨ v.kind = 7 then [v.kind, v.id, v.a]
  else if v.kind = 6 ∨ v.kind = 12 then [v.kind, v.a]
  else if v.kind = 8 then [v.kind, v.a, flagV v.fin]
  else if v.kind = 9 then [v.kind, (v.data.length : Int)]
  else if v.kind = 10 ∨ v.kind = 11 then [v.kind, v.id]
  else [v.kind]
theorem rdI_of {h : H} {b n : Nat} {L : List Value} {ns : List Int} (B : Box h b L) (w : WF h) (hL : L = ns.map (.int .i64)) (hn : ns.length = n) (hb : n < B63) : RdI .i64 h ⟨some ⟨b, 0, some 0⟩, n, n⟩ ns := by
  subst hL
  exact B.rd w (by simp; exact hn) (capOk_self _ _ hb)
theorem PO.appI {α : Type} {Q : α → Prop} {h0 h : H} {out x : Sl} {acc ns : List Int} {g : Sl → H → Option α} (hb : Buf 1 h out (acc.map (.int .i64))) (hx : EX h0 h) (hf : Fr h0.size out) (r : RdI .i64 h x ns) (hl : acc.length + ns.length ≤ 2 ^ 40)
    (k : ∀ out1 h2, Buf 1 h2 out1 ((acc ++ ns).map (.int .i64)) → EX h0 h2 → Fr h0.size out1 → KP h h2 → PO (g out1 h2) Q) : PO (bind2 (appT 3 1 8 h out x) g) Q := by
  have l1 := hb.rd.len
  have l2 := r.len
  simp at l1
  obtain ⟨s', h', e, k1, x2, b2, _, f2⟩ := appT_ok (e := 3) (bytes := 8) (by omega) (by unfold B63; omega) hx.wf hb r (oneC_ints .i64 _) (by omega) (by omega)
  refine PO.callE e (k s' h' ?_ (x2 _ hx hf) (f2 _ hx.size hf) k1)
  rw [List.map_append]; exact b2
theorem RSp.all : ∀ {l : List Run} {p : Option Int}, RSp p l → ∀ r ∈ l, (0 ≤ r.1 ∧ r.1 ≤ r.2 ∧ r.2 ≤ 4611686018427387903)
  | [], _, _, r, hr => by simp at hr
  | q :: l, p, h, r, hr => by
    rcases List.mem_cons.1 hr with e | e
    · subst e; have := h.1; unfold okN at this; have := h.2.1; omega
    · exact RSp.all h.2.2.2 r e
theorem ngo_length : ∀ (l : List Run) (p : Option Int), (ngo p l).length = 2 * l.length
  | [], _ => rfl
  | r :: l, p => by simp [ngo, ngo_length l]; omega
end Go.Proofs.Ythiccnmplgdheaa.T
