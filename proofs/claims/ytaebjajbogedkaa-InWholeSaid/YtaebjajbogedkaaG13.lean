/- Lemmas about the typed texts (joined: SHead3 SHead4 LHead1). -/
import Derived.Test.YtaebjajbogedkaaG12
/- Chapter 18's functions over the typed texts: pieces read, short heads, texts, the chapter's example. -/
set_option linter.unusedVariables false
set_option linter.unusedSimpArgs false
namespace Go.Proofs.Ytaebjajbogedkaa.T
open Go Go.Abs Go.Proofs
def hd0 : Hd := (0, 0, 0, 0, 0)
def hdOf (ns : List Int) : Hd := (ns.getD 0 0, ns.getD 1 0, ns.getD 2 0, ns.getD 3 0, ns.getD 4 0)
def readV (l : List UInt8) : Hd × List UInt8 × Int := match tks 5 l with
  | some (ns, rest) => if HR (hdOf ns) ∧ (rest.length : Int) = hto (hdOf ns) - hfrom (hdOf ns) then (hdOf ns, rest, 0) else (hd0, [], 2)
  | none => (hd0, [], 3)
theorem Read_f {h : H} (w : WF h) {b : Sl} {l : List UInt8} (hr : RdB h b l) (hl : l.length ≤ 2 ^ 47) :
    PO (head_Read b h) (fun (a, h1) => a.1 = (readV l).1 ∧ a.2.2 = (readV l).2.2 ∧ RdB h1 a.2.1 (readV l).2.1 ∧ EX h h1) := by
  unfold head_Read P.head_Read
  refine PO.newB w fun h0 x0 B z0 w0 => ?_
  have ht := Takes_f (cnt := 5) (c := 5) w0 (hr.ex x0) hl (by omega) (by simp)
  cases hk : tks 5 l with
  | none =>
    rw [hk] at ht
    obtain ⟨h1, e1, x1⟩ := ht
    have hv : readV l = (hd0, [], 3) := by unfold readV; rw [hk]
    have B1 := Box.kx x1 B
    refine .callE e1 (.condNE (fun _ => ?_) (fun e => by simp at e))
    refine PO.stZ B1 x1.wf rfl rfl fun h2 B2 u2 z2 w2 => ?_
    simp only [encL, Z.enc] at B2
    refine .ldZ5 B2 (.ret ?_)
    show _ ∧ _ ∧ _ ∧ _
    rw [hv]
    exact ⟨rfl, rfl, rd_nil 1 h2, u2.ex0 (x0.trans x1) (fun A hA e => by omega)⟩
  | some p =>
    obtain ⟨ns, rest⟩ := p
    rw [hk] at ht
    obtain ⟨s, t, h1, e1, x1, rs, rt⟩ := ht
    have hnl := tks_length 5 l ns rest hk
    have B1 := Box.kx x1 B
    have hz1 := (x0.trans x1).size
    have hs1 := x1.size
    have hn1 := x1.wf.nro
    obtain ⟨i, d, c, k, z, rfl⟩ : ∃ i d c k z, ns = [i, d, c, k, z] := by
      match ns, hnl with
      | [i, d, c, k, z], _ => exact ⟨i, d, c, k, z, rfl⟩
    refine .callE e1 (.condNE (fun e => absurd rfl e) (fun _ => ?_))
    refine PO.letGrow x1.wf fun h3 x3 z3 w3 n3 => ?_
    have rs3 : RdI .i64 h3 s [i, d, c, k, z] := rs.ex x3
    refine .ixI rs3 (by omega) (by simp) fun a0 (e0 : _ = some i) => .op e0 (.ixI rs3 (by omega) (by simp) fun a1 (e1 : _ = some d) => .op e1 (.ixI rs3 (by omega) (by simp) fun a2 (e2 : _ = some c) => .op e2 (.ixI rs3 (by omega) (by simp) fun a3 (e3 : _ = some k) => .op e3 (.ixI rs3 (by omega) (by simp) fun a4 (e4 : _ = some z) => .op e4 ?_))))
    refine PO.addNew w3 (by decide) (n3 16 (by omega)) (by omega) (by rw [x3.nro]; omega) fun h4 N4 B4 => .addNil ?_
    refine PO.stZ B4 N4.wf rfl rfl fun h5 B5 u5 z5 w5 => ?_
    refine .addOld B5.ne (.addNil (PO.letTick w5 fun h7 x7 z7 w7 => ?_))
    simp only [encL, Z.enc] at B5
    have xx3 : EX h h3 := (x0.trans x1).trans x3
    have xx5 : EX h h5 := u5.ex0 (N4.ex0 xx3 (by omega)) (fun A hA e => by omega)
    have C5 : Box h5 h.size (hdL hd0) := Box.ku u5 (by omega) (NW.kb N4 (Box.kx x3 B1))
    have t5 : RdB h5 t rest := Rd.old u5 rt (by omega) (NW.kr N4 (Rd.kx x3 rt))
    have B7 := Box.kx x7 B5
    have C7 := Box.kx x7 C5
    have t7 := t5.ex x7
    refine .ldZ5 B7 (PO.call (Right_f w7 _) fun a h8 ⟨e, x8⟩ => ?_)
    subst e
    have B8 := Box.kx x8 B7
    have C8 := Box.kx x8 C7
    have hz8 := (x7.trans x8).size
    have hv : readV l = if HR (i, d, c, k, z) ∧ (rest.length : Int) = hto (i, d, c, k, z) - hfrom (i, d, c, k, z) then ((i, d, c, k, z), rest, 0) else (hd0, [], 2) := by unfold readV; rw [hk]; rfl
    have t8 := RdB.ex x8 t7
    have xx8 : EX h h8 := (xx5.trans x7).trans x8
    refine .condND (fun hn => ?_) (fun hR => ?_)
    · refine PO.stZ C8 x8.wf rfl rfl fun h9 B9 u9 z9 w9 => ?_
      simp only [encL, Z.enc] at B9
      refine .ldZ5 B9 (.ret ?_)
      show _ ∧ _ ∧ _ ∧ _
      rw [hv, if_neg (fun h => hn h.1)]
      exact ⟨rfl, rfl, rd_nil 1 h9, u9.ex0 xx8 (fun A hA e => by omega)⟩
    · have hR' : HR (i, d, c, k, z) := hR
      have hb := hR'.b
      refine .ldZ5 B8 (PO.call (bounds_f x8.wf hR') fun a h10 ⟨e, x10⟩ => ?_)
      subst e
      have C10 := Box.kx x10 C8
      have t10 := RdB.ex x10 t8
      have B10 := Box.kx x10 B8
      have xx10 := xx8.trans x10
      have hlen := RdB.len t10
      simp only at C10 t10 B10 xx10 ⊢
      rw [w64 (n := hto (i, d, c, k, z) - hfrom (i, d, c, k, z)) (by omega) (by omega)]
      refine .condNE (fun hne => ?_) (fun heq => ?_)
      · refine PO.stZ C10 x10.wf rfl rfl fun h9 B9 u9 z9 w9 => ?_
        simp only [encL, Z.enc] at B9
        refine .ldZ5 B9 (.ret ?_)
        show _ ∧ _ ∧ _ ∧ _
        rw [hv, if_neg (fun h => hne (by rw [hlen]; exact h.2))]
        exact ⟨rfl, rfl, rd_nil 1 h9, u9.ex0 xx10 (fun A hA e => by omega)⟩
      · refine .ldZ5 B10 (PO.stZ C10 x10.wf rfl rfl fun h9 B9 u9 z9 w9 => ?_)
        simp only [encL, Z.enc] at B9
        refine .ldZ5 B9 (.ret ?_)
        show _ ∧ _ ∧ _ ∧ _
        rw [hv, if_pos ⟨hR', by rw [← hlen]; exact heq⟩]
        refine ⟨rfl, rfl, ?_, u9.ex0 xx10 (fun A hA e => by omega)⟩
        exact RdB.kbox x10.wf C10 u9 (by simp [hd0]) t10
end Go.Proofs.Ytaebjajbogedkaa.T
/- Chapter 18's functions over the typed texts: short heads, texts, the chapter's example; what is laid is read. -/
set_option linter.unusedVariables false
set_option linter.unusedSimpArgs false
namespace Go.Proofs.Ytaebjajbogedkaa.T
open Go Go.Abs Go.Proofs
theorem PO.app1 {α : Type} {Q : α → Prop} {h0 h : H} {out : Sl} {l : List UInt8} {bv : UInt8} {g : Sl → H → Option α} {x : Int} (hxv : x = (bv.toNat : Int)) (hb : BufB h out l) (hx : EX h0 h) (hf : Fr h0.size out) (hl : l.length + 1 ≤ 2 ^ 47)
    (k : ∀ out1 h2, BufB h2 out1 (l ++ [bv]) → EX h0 h2 → Fr h0.size out1 → PO (g out1 h2) Q) : PO (newO (row 5 [.int .u8 x]) h fun b h1 => bind2 (appT 5 1 1 h1 out ⟨some ⟨b, 0, some 0⟩, 1, 1⟩) g) Q := by
  subst hxv
  obtain ⟨out1, h2, e, b, x, f⟩ := app_one bv hb hx hf hl
  rw [newO_eq]
  exact PO.callE e (k out1 h2 b x f)
/-! short heads -/
def snums (x : Hd) : List Int := [x.1, x.2.1, x.2.2.2.2]
def shortV (x : Hd) : List UInt8 := if HR x then encs (snums x) else []
theorem HR.ok3 {x : Hd} (h : HR x) : ∀ n ∈ snums x, okN n := by
  unfold HR hcnt at h; unfold snums okN; simp only [List.mem_cons, List.not_mem_nil, or_false, forall_eq_or_imp, forall_eq]; omega
def rsV (l : List UInt8) : Hd × Int × Int := match tks 3 l with
  | some (ns, rest) => if ofV (ns.getD 0 0) (ns.getD 1 0) (ns.getD 2 0) = hd0 then (hd0, 0, 2) else (ofV (ns.getD 0 0) (ns.getD 1 0) (ns.getD 2 0), (l.length : Int) - rest.length, 0)
  | none => (hd0, 0, 3)
theorem tks_rest : ∀ (n : Nat) (l : List UInt8) (ns : List Int) (r : List UInt8), tks n l = some (ns, r) → r.length ≤ l.length
  | 0, l, ns, r, h => by simp [tks] at h; rw [h.2]; omega
  | n + 1, l, ns, r, h => by
    unfold tks at h
    split at h
    · simp only [Option.map_eq_some_iff] at h
      obtain ⟨⟨p1, p2⟩, h1, h2⟩ := h
      simp only [Prod.mk.injEq] at h2
      have := tks_rest n _ p1 p2 h1
      have := tk_rest l
      rw [← h2.2]; omega
    · simp at h
/-! texts -/
def txB (l : List UInt8) (i : Nat) : UInt8 := UInt8.ofNat (i * 7) + (if l.length = 0 then 0 else l.getD (i % l.length) 0)
def textL (l : List UInt8) (n : Nat) : List UInt8 := (List.range n).map (txB l)
theorem textL_length (l : List UInt8) (n : Nat) : (textL l n).length = n := by simp [textL]
theorem textL_succ (l : List UInt8) (n : Nat) : textL l (n + 1) = textL l n ++ [txB l n] := by simp [textL, List.range_succ]
theorem Text_f {h : H} (w : WF h) {b : Sl} {l : List UInt8} (hr : RdB h b l) (hl : l.length ≤ 2 ^ 47) (N : Nat) (hN : N ≤ 1000000) : PO (hand_Text b (N : Int) h) (fun (a, h1) => BufB h1 a (textL l N) ∧ EX h h1 ∧ Fr h.size a) := by
  unfold hand_Text
  refine PO.joinD (PO.mono (P := fun r => ∃ out h', r = Sum.inl (out, h') ∧ BufB h' out (textL l N) ∧ EX h h' ∧ Fr h.size out) ?_ (by
    rintro _ ⟨out, h', rfl, a, b, c⟩; exact .ret ⟨a, b, c⟩))
  refine PO.loop (fun m s => ∃ (i : Nat) (out : Sl) (h' : H), s = ((b, ((N : Int), (out, (i : Int)))), h') ∧ m + i = N ∧ BufB h' out (textL l i) ∧ EX h h' ∧ Fr h.size out) ?_ N _ ⟨0, ⟨none, 0, 0⟩, h, rfl, by omega, buf_nil 1 h, EX.refl w, fr_nil _⟩
  rintro m s ⟨i, out, h', rfl, hm, hb, hx, hf⟩
  unfold hand_Text_l1
  refine .condD (fun hlt => ?_) (fun hge => ?_)
  · have tl := textL_length l i
    refine PO.join (fun s => s = ((b, ((N : Int), (out, ((i : Int), ((txB l i).toNat : Int))))), h')) ?_ ?_
    · have hrl := RdB.len hr
      have hr' := RdB.ex hx hr
      refine .condD (fun hp => ?_) (fun hp => ?_)
      · have h0 : l.length ≠ 0 := by omega
        refine .op (remT_ok _ _ (by omega)) ?_
        have e : Int.tmod (i : Int) ((b.len : Nat) : Int) = ((i % l.length : Nat) : Int) := by rw [hrl]; exact (Int.ofNat_tmod i l.length).symm
        rw [e]
        have hmod := Nat.mod_lt i (Nat.pos_of_ne_zero h0)
        refine .ixB hr' (by omega) (by omega) fun a ea => .op ea (.letO (.retL ?_))
        rw [w64 (by omega) (by omega), wu8_mod, wu8_mod]
        have : (txB l i).toNat = (i * 7 % 256 + (l.getD (i % l.length) 0).toNat) % 256 := by
          unfold txB; rw [if_neg h0, UInt8.toNat_add]; simp
        rw [this]
        simp only [Int.toNat_natCast]
        congr 5
      · refine .retL ?_
        rw [w64 (by omega) (by omega), wu8_mod]
        have h0 : l.length = 0 := by omega
        have : (txB l i).toNat = i * 7 % 256 := by
          unfold txB; rw [if_pos h0]; simp
        rw [this]
        congr 5
    · rintro _ rfl
      refine PO.app1 rfl hb hx hf (by omega) fun out1 h2 b2 x2 f2 => .retL ?_
      rw [w64 (by omega) (by omega)]
      exact ⟨m - 1, by omega, i + 1, out1, h2, rfl, by omega, by rw [textL_succ]; exact b2, x2, f2⟩
  · have : i = N := by omega
    subst this
    exact .retR ⟨out, h', rfl, hb, hx, hf⟩
/-! what is laid is read -/
theorem readV_layV {x : Hd} {l : List UInt8} (h : HR x ∧ (l.length : Int) = hto x - hfrom x) : readV (layV x l) = (x, l, 0) := by
  unfold layV readV
  rw [if_pos h]
  have := tks_encs (hnums x) l h.1.ok
  have h5 : (hnums x).length = 5 := rfl
  rw [h5] at this
  rw [this]
  have hd : hdOf (hnums x) = x := rfl
  simp only [hd]
  rw [if_pos h]
theorem layV_length {x : Hd} {l : List UInt8} (h : HR x ∧ (l.length : Int) = hto x - hfrom x) : l.length < (layV x l).length ∧ (layV x l).length ≤ l.length + 40 := by
  unfold layV
  rw [if_pos h]
  have := encs_length (hnums x)
  have h5 : (hnums x).length = 5 := rfl
  have h1 : 0 < (encs (hnums x)).length := by
    unfold hnums encs
    rw [List.length_append, enc_length]
    have := sz_pos x.1
    omega
  simp; omega
end Go.Proofs.Ytaebjajbogedkaa.T
/- Chapter 18's example and the law HeadSpread over the typed texts. -/
set_option linter.unusedVariables false
set_option linter.unusedSimpArgs false
namespace Go.Proofs.Ytaebjajbogedkaa.T
open Go Go.Abs Go.Proofs
theorem capOk_self (sz n : Nat) (h : n < B63) : CapOK sz n n := by unfold CapOK; rw [capK_exact h]; exact Nat.le_refl _
theorem Box.rdS {h : H} {b n : Nat} {xs : List Sl} (B : Box h b (xs.map encSl)) (w : WF h) (hn : xs.length = n) (hb : n < B63) : RdS h ⟨some ⟨b, 0, some 0⟩, n, n⟩ xs := by
  subst hn; exact B.rd w (by simp) (capOk_self _ _ hb)
theorem Box.rdB {h : H} {b n : Nat} {xs : List UInt8} (B : Box h b (vB xs)) (w : WF h) (hn : xs.length = n) (hb : n < B63) : RdB h ⟨some ⟨b, 0, some 0⟩, n, n⟩ xs := by
  subst hn; exact B.rd w (by simp [vB]) (capOk_self _ _ hb)
def X0 : Hd := (3, 9, 2, 0, 81)
theorem PO.law {m : Option (Bool × H)} (p : PO m (fun (a, _) => a = true)) : ∃ h', m = some (true, h') := by
  obtain ⟨⟨a, h'⟩, e, ha⟩ := p
  have ha' : a = true := ha
  subst ha'
  exact ⟨h', e⟩
theorem slB_hi {h : H} {s : Sl} {l : List UInt8} (hr : RdB h s l) {hi : Int} (h1 : 0 ≤ hi) (h2 : hi ≤ l.length) : ∃ s', slT 1 h s none (some hi) none = some s' ∧ RdB h s' (l.take hi.toNat) := by
  obtain ⟨s', e, r, _, _⟩ := sl_hi (hi := hi) (by omega) (by unfold B63; omega) hr h1 (by rw [RdB.len hr]; exact h2)
  refine ⟨s', e, ?_⟩
  unfold vB at r; unfold RdB vB
  rw [Nat.mul_one] at r
  rw [List.map_take]; exact r
theorem slB_lo {h : H} {s : Sl} {l : List UInt8} (hr : RdB h s l) {lo : Int} (h1 : 0 ≤ lo) (h2 : lo ≤ l.length) : ∃ s', slT 1 h s (some lo) none none = some s' ∧ RdB h s' (l.drop lo.toNat) := by
  obtain ⟨s', e, r, _, _⟩ := sl_lo (lo := lo) (by omega) (by unfold B63; omega) hr h1 (by rw [RdB.len hr]; exact h2)
  refine ⟨s', e, ?_⟩
  unfold vB at r; unfold RdB vB
  rw [Nat.mul_one] at r
  rw [List.map_drop]; exact r
theorem ofV_ok {id dl sz : Int} (h : 0 ≤ id ∧ id < 40 ∧ 0 ≤ dl ∧ dl ≤ 4611686018427387903 ∧ 1 ≤ sz ∧ sz ≤ 600) : ofV id dl sz = (id, dl, hcnt sz, 0, sz) ∧ HR (id, dl, hcnt sz, 0, sz) := by
  have : HR (id, dl, hcnt sz, 0, sz) := ⟨h.1, h.2.1, h.2.2.1, h.2.2.2.1, h.2.2.2.2.1, h.2.2.2.2.2, rfl, Int.le_refl 0, by show 0 < hcnt sz; unfold hcnt; omega⟩
  exact ⟨by unfold ofV; rw [if_pos this], this⟩
abbrev RNG (n : Int) : Prop := -9223372036854775808 ≤ n ∧ n ≤ 9223372036854775807
theorem emod_b (a : Int) {m : Int} (h : 0 < m) : 0 ≤ a % m ∧ a % m < m := ⟨Int.emod_nonneg a (by omega), Int.emod_lt_of_pos a h⟩
theorem layV_no {x : Hd} {l : List UInt8} (h : (l.length : Int) ≠ hto x - hfrom x) : layV x l = [] := by unfold layV; rw [if_neg (fun e => h e.2)]
end Go.Proofs.Ytaebjajbogedkaa.T
