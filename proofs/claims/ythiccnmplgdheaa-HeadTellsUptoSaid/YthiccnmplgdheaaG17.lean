/- Lemmas about the typed texts (joined: SHead6 LHead3). -/
import Derived.Test.YthiccnmplgdheaaG15
import Derived.Test.YthiccnmplgdheaaG10
import Derived.Test.YthiccnmplgdheaaG11
import Derived.Test.YthiccnmplgdheaaG16
/- Chapter 18's reference over the typed texts: pieces laid, read; heads made from numbers. -/
set_option linter.unusedVariables false
set_option linter.unusedSimpArgs false
namespace Go.Proofs.Ythiccnmplgdheaa.T
open Go Go.Abs Go.Proofs
theorem RRead18_f {h : H} (w : WF h) {b : Sl} {l : List UInt8} (hr : RdB h b l) (hl : l.length ≤ 2 ^ 47) :
    PO (ref18_Read b h) (fun (a, h1) => a.1 = (readV l).1 ∧ a.2.2 = (readV l).2.2 ∧ RdB h1 a.2.1 (readV l).2.1 ∧ EX h h1) := by
  unfold ref18_Read P.ref18_Read
  refine PO.newB w fun h0 x0 B z0 w0 => ?_
  have ht := RTakes_f (cnt := 5) (c := 5) w0 (hr.ex x0) hl (by omega) (by simp)
  cases hk : tks 5 l with
  | none =>
    rw [hk] at ht
    obtain ⟨h1, e1, x1⟩ := ht
    have hv : readV l = (hd0, [], 3) := by unfold readV; rw [hk]
    have B1 := Box.kx x1 B
    refine .callE e1 (.condNE (fun _ => ?_) (fun e => by simp at e))
    refine PO.stZ B1 x1.wf rfl rfl fun h2 B2 u2 z2 w2 => ?_
    simp only [encL, Z.enc] at B2
    refine .ldZ5 B2 (.ret ?_)
    show _ ∧ _ ∧ _ ∧ _
    rw [hv]
    exact ⟨rfl, rfl, rd_nil 1 h2, u2.ex0 (x0.trans x1) (fun A hA e => by omega)⟩
  | some p =>
    obtain ⟨ns, rest⟩ := p
    rw [hk] at ht
    obtain ⟨s, t, h1, e1, x1, rs, rt⟩ := ht
    have hnl := tks_length 5 l ns rest hk
    have B1 := Box.kx x1 B
    have hz1 := (x0.trans x1).size
    have hs1 := x1.size
    have hn1 := x1.wf.nro
    obtain ⟨i, d, c, k, z, rfl⟩ : ∃ i d c k z, ns = [i, d, c, k, z] := by
      match ns, hnl with
      | [i, d, c, k, z], _ => exact ⟨i, d, c, k, z, rfl⟩
    refine .callE e1 (.condNE (fun e => absurd rfl e) (fun _ => ?_))
    refine PO.letGrow x1.wf fun h3 x3 z3 w3 n3 => ?_
    have rs3 : RdI .i64 h3 s [i, d, c, k, z] := rs.ex x3
    refine .ixI rs3 (by omega) (by simp) fun a0 (e0 : _ = some i) => .op e0 (.ixI rs3 (by omega) (by simp) fun a1 (e1 : _ = some d) => .op e1 (.ixI rs3 (by omega) (by simp) fun a2 (e2 : _ = some c) => .op e2 (.ixI rs3 (by omega) (by simp) fun a3 (e3 : _ = some k) => .op e3 (.ixI rs3 (by omega) (by simp) fun a4 (e4 : _ = some z) => .op e4 ?_))))
    refine PO.addNew w3 (by decide) (n3 16 (by omega)) (by omega) (by rw [x3.nro]; omega) fun h4 N4 B4 => .addNil ?_
    refine PO.stZ B4 N4.wf rfl rfl fun h5 B5 u5 z5 w5 => ?_
    refine .addOld B5.ne (.addNil (PO.letTick w5 fun h7 x7 z7 w7 => ?_))
    simp only [encL, Z.enc] at B5
    have xx3 : EX h h3 := (x0.trans x1).trans x3
    have xx5 : EX h h5 := u5.ex0 (N4.ex0 xx3 (by omega)) (fun A hA e => by omega)
    have C5 : Box h5 h.size (hdL hd0) := Box.ku u5 (by omega) (NW.kb N4 (Box.kx x3 B1))
    have t5 : RdB h5 t rest := Rd.old u5 rt (by omega) (NW.kr N4 (Rd.kx x3 rt))
    have B7 := Box.kx x7 B5
    have C7 := Box.kx x7 C5
    have t7 := t5.ex x7
    refine .ldZ5 B7 (PO.call (RRight_f w7 _) fun a h8 ⟨e, x8⟩ => ?_)
    subst e
    have B8 := Box.kx x8 B7
    have C8 := Box.kx x8 C7
    have hz8 := (x7.trans x8).size
    have hv : readV l = if HR (i, d, c, k, z) ∧ (rest.length : Int) = hto (i, d, c, k, z) - hfrom (i, d, c, k, z) then ((i, d, c, k, z), rest, 0) else (hd0, [], 2) := by unfold readV; rw [hk]; rfl
    have t8 := RdB.ex x8 t7
    have xx8 : EX h h8 := (xx5.trans x7).trans x8
    refine .condND (fun hn => ?_) (fun hR => ?_)
    · refine PO.stZ C8 x8.wf rfl rfl fun h9 B9 u9 z9 w9 => ?_
      simp only [encL, Z.enc] at B9
      refine .ldZ5 B9 (.ret ?_)
      show _ ∧ _ ∧ _ ∧ _
      rw [hv, if_neg (fun h => hn h.1)]
      exact ⟨rfl, rfl, rd_nil 1 h9, u9.ex0 xx8 (fun A hA e => by omega)⟩
    · have hR' : HR (i, d, c, k, z) := hR
      have hb := hR'.b
      refine .ldZ5 B8 (PO.call (rbounds_f x8.wf hR') fun a h10 ⟨e, x10⟩ => ?_)
      subst e
      have C10 := Box.kx x10 C8
      have t10 := RdB.ex x10 t8
      have B10 := Box.kx x10 B8
      have xx10 := xx8.trans x10
      have hlen := RdB.len t10
      simp only at C10 t10 B10 xx10 ⊢
      rw [w64 (n := hto (i, d, c, k, z) - hfrom (i, d, c, k, z)) (by omega) (by omega)]
      refine .condNE (fun hne => ?_) (fun heq => ?_)
      · refine PO.stZ C10 x10.wf rfl rfl fun h9 B9 u9 z9 w9 => ?_
        simp only [encL, Z.enc] at B9
        refine .ldZ5 B9 (.ret ?_)
        show _ ∧ _ ∧ _ ∧ _
        rw [hv, if_neg (fun h => hne (by rw [hlen]; exact h.2))]
        exact ⟨rfl, rfl, rd_nil 1 h9, u9.ex0 xx10 (fun A hA e => by omega)⟩
      · refine .ldZ5 B10 (PO.stZ C10 x10.wf rfl rfl fun h9 B9 u9 z9 w9 => ?_)
        simp only [encL, Z.enc] at B9
        refine .ldZ5 B9 (.ret ?_)
        show _ ∧ _ ∧ _ ∧ _
        rw [hv, if_pos ⟨hR', by rw [← hlen]; exact heq⟩]
        refine ⟨rfl, rfl, ?_, u9.ex0 xx10 (fun A hA e => by omega)⟩
        exact RdB.kbox x10.wf C10 u9 (by simp [hd0]) t10
theorem RReadShort_f {h : H} (w : WF h) {b : Sl} {l : List UInt8} (hr : RdB h b l) (hl : l.length ≤ 2 ^ 47) :
    PO (ref18_ReadShort b h) (fun (a, h1) => a = rsV l ∧ EX h h1) := by
  unfold ref18_ReadShort P.ref18_ReadShort
  refine PO.newB w fun h0 x0 B z0 w0 => ?_
  have ht := RTakes_f (cnt := 3) (c := 3) w0 (hr.ex x0) hl (by omega) (by simp)
  cases hk : tks 3 l with
  | none =>
    rw [hk] at ht
    obtain ⟨h1, e1, x1⟩ := ht
    have hv : rsV l = (hd0, 0, 3) := by unfold rsV; rw [hk]
    have B1 := Box.kx x1 B
    refine .callE e1 (.condNE (fun _ => ?_) (fun e => by simp at e))
    refine PO.stZ B1 x1.wf rfl rfl fun h2 B2 u2 z2 w2 => ?_
    simp only [encL, Z.enc] at B2
    refine .ldZ5 B2 (.ret ?_)
    exact ⟨hv.symm, u2.ex0 (x0.trans x1) (fun A hA e => by omega)⟩
  | some p =>
    obtain ⟨ns, rest⟩ := p
    rw [hk] at ht
    obtain ⟨s, t, h1, e1, x1, rs, rt⟩ := ht
    have hnl := tks_length 3 l ns rest hk
    have hrl := tks_rest 3 l ns rest hk
    have B1 := Box.kx x1 B
    obtain ⟨i, d, z, rfl⟩ : ∃ i d z, ns = [i, d, z] := by
      match ns, hnl with
      | [i, d, z], _ => exact ⟨i, d, z, rfl⟩
    have hv : rsV l = if ofV i d z = hd0 then (hd0, 0, 2) else (ofV i d z, (l.length : Int) - rest.length, 0) := by unfold rsV; rw [hk]; rfl
    have hs1 := x1.size
    have hn1 := x1.wf.nro
    refine .callE e1 (.condNE (fun e => absurd rfl e) (fun _ => PO.letGrow x1.wf fun g3 y3 z3 w3 n3 => ?_))
    have rs3 : RdI .i64 g3 s [i, d, z] := rs.ex y3
    refine .ixI rs3 (by omega) (by simp) fun a0 (e0 : _ = some i) => .op e0 (.ixI rs3 (by omega) (by simp) fun a1 (e1 : _ = some d) => .op e1 (.ixI rs3 (by omega) (by simp) fun a2 (e2 : _ = some z) => .op e2 ?_))
    refine PO.call (ROf_f w3 i d z) fun a g4 ⟨e, y4⟩ => ?_
    have e' : a = ofV i d z := e
    subst e'
    have hs4 := y4.size
    refine PO.addNew y4.wf (by decide) (EX.nn y4 (by omega) (n3 10 (by omega))) (by omega) (by rw [y4.nro, y3.nro]; omega) fun g5 N5 B5 => .addNil ?_
    refine PO.stZ (zs := [.int .i64, .int .i64, .int .i64, .int .i64, .int .i64]) (x := ofV i d z) B5 N5.wf rfl rfl fun g6 B6 u6 z6 w6 => ?_
    have B6' : Box g6 (h1.size + 10) (hdL (ofV i d z)) := B6
    refine .addOld B6.ne (.addNil (PO.letTick w6 fun g8 y8 z8 w8 => ?_))
    have B8 := Box.kx y8 B6'
    have C8 := Box.kx y8 (Box.ku u6 (by omega) (NW.kb N5 (Box.kx y4 (Box.kx y3 B1))))
    have X8 : EX h g8 := (u6.ex0 (N5.ex0 (((x0.trans x1).trans y3).trans y4) (by omega)) (fun A hA e => by omega)).trans y8
    have hiff : (ofV i d z).2.2.2.2 = 0 ↔ ofV i d z = hd0 := by
      unfold ofV
      by_cases hH : HR (i, d, hcnt z, 0, z)
      · rw [if_pos hH]
        have h1 : 1 ≤ z := hH.2.2.2.2.1
        constructor
        · intro hh; have hh' : z = 0 := hh; omega
        · intro hh; have := congrArg (fun x : Hd => x.2.2.2.2) hh; exact this
      · rw [if_neg hH]; simp [hd0]
    refine .ldI B8 rfl (.condE (fun hc => ?_) (fun hc => ?_))
    · refine PO.stZ (zs := [.int .i64, .int .i64, .int .i64, .int .i64, .int .i64]) (x := hd0) C8 w8 rfl rfl fun h5 B5 u5 z5 w5 => ?_
      have B5' : Box h5 h.size (hdL hd0) := B5
      refine .ldZ5 B5' (.ret ⟨?_, u5.ex0 X8 (fun A hA e => by omega)⟩)
      rw [hv, if_pos (hiff.1 hc)]
    · refine .ldZ5 B8 (PO.stZ (zs := [.int .i64, .int .i64, .int .i64, .int .i64, .int .i64]) (x := ofV i d z) C8 w8 rfl rfl fun h5 B5 u5 z5 w5 => ?_)
      have B5' : Box h5 h.size (hdL (ofV i d z)) := B5
      refine .ldZ5 B5' (.ret ⟨?_, u5.ex0 X8 (fun A hA e => by omega)⟩)
      rw [hv, if_neg (fun hh => hc (hiff.2 hh)), RdB.len hr, RdB.len rt, w64 (by omega) (by omega)]
theorem rlay_l1 {h0 : H} {hp : Option Addr} {n : Int} {parts : Sl} {xs : List Sl} {ls : List (List UInt8)} (hps : RdS h0 parts xs) (hx : RdBs h0 xs ls) (hn : xs.length ≤ 2 ^ 47) {s : Sl} {acc : List UInt8} {h : H} (hl : acc.length + (cat ls).length ≤ 2 ^ 47) (x : EX h0 h) (f : Fr h0.size s) (b : BufB h s acc) :
    PO (loopO ref18_Lay_l1 ((parts, (hp, (s, (n, 0)))), h)) (fun r => ∃ s' h', r = Sum.inl ((hp, (s', n)), h') ∧ EX h0 h' ∧ BufB h' s' (acc ++ cat ls)) := by
  have hlen := RdS.len hps
  have hll : ls.length = xs.length := RdBs.length hx
  refine PO.loop (fun m st => ∃ (i : Nat) (s : Sl) (a : List UInt8) (h' : H), st = ((parts, (hp, (s, (n, (i : Int))))), h') ∧ m + i = xs.length ∧ EX h0 h' ∧ Fr h0.size s ∧ BufB h' s a ∧ a ++ cat (ls.drop i) = acc ++ cat ls) ?_ xs.length _ ⟨0, s, acc, h, rfl, rfl, x, f, b, rfl⟩
  rintro m st ⟨i, s, a, h', rfl, hm, hx', hf, hb, ha⟩
  unfold ref18_Lay_l1 P.ref18_Lay_l1
  refine .condD (fun c => ?_) (fun c => ?_)
  · have c' : (i : Int) < ((parts.len : Nat) : Int) := c
    obtain ⟨y, l, g1, g2, g3, g4⟩ := RdBs.get i hx (by omega)
    obtain ⟨ad, e1, e2⟩ := (hps.ex hx').at g1
    have gy := g3.ex hx'
    have hal := congrArg List.length ha
    rw [g2] at hal
    simp only [cat, List.length_append] at hal
    obtain ⟨s1, h1, e3, k3, y3, b3, _, f3⟩ := appB_ok (e := 5) hx'.wf hb gy (by omega)
    refine .op e1 (.op e2 (.callE e3 (.retL ⟨m - 1, by omega, i + 1, s1, a ++ l, h1, ?_, by omega, y3 _ hx' hf, f3 _ hx'.size hf, b3, ?_⟩)))
    · rw [w64 (by omega) (by omega)]; rfl
    · rw [← ha, g2, List.append_assoc]; rfl
  · have c' : ¬ (i : Int) < ((parts.len : Nat) : Int) := c
    rw [List.drop_eq_nil_of_le (by omega)] at ha
    simp only [cat, List.append_nil] at ha
    refine .retR ⟨s, h', rfl, hx', ?_⟩
    rw [← ha]; exact hb
theorem RLay18_f {h : H} (w : WF h) (x : Hd) {parts : Sl} {xs : List Sl} {ls : List (List UInt8)} (hp : RdS h parts xs) (hx : RdBs h xs ls) (hn : xs.length ≤ 2 ^ 47) (hl : (cat ls).length ≤ 2 ^ 46) :
    PO (ref18_Lay x parts h) (fun (a, h1) => RdB h1 a (layV x (cat ls)) ∧ EX h h1) := by
  unfold ref18_Lay P.ref18_Lay
  refine PO.newB w fun h1 x1 B z1 w1 => .ldZ5 B (PO.call (RRight_f w1 _) fun a h3 ⟨e, x3⟩ => ?_)
  subst e
  have B3 := Box.kx x3 B
  refine .condND (fun hn => .ret ⟨?_, x1.trans x3⟩) (fun hR => ?_)
  · unfold layV; rw [if_neg (fun h => hn h.1)]; exact rd_nil 1 h3
  have hR' : HR x := hR
  have hb := hR'.b
  refine .ldI B3 rfl (.ldI B3 rfl (.ldI B3 rfl (.ldI B3 rfl (.ldI B3 rfl (PO.newB x3.wf fun h5 x5 B5 z5 w5 => ?_)))))
  have ri : RdI .i64 h5 ⟨some ⟨h3.size, 0, some 0⟩, 5, 5⟩ (hnums x) := B5.rd w5 rfl (by unfold CapOK; rw [capK_exact (by unfold B63; omega)]; exact Nat.le_refl _)
  obtain ⟨s6, h6, e6, x6, b6, f6⟩ := RPut_f (l := []) w5 (rd_nil 1 h5) ri (by simp [hnums])
  have hpv : putV [] (hnums x) = encs (hnums x) := by
    unfold putV; rw [if_neg (by rw [szV_neg]; exact fun hh => hh hR'.ok)]; rfl
  rw [hpv] at b6
  have hel := encs_length (hnums x)
  have hnl : (hnums x).length = 5 := rfl
  have X5 := (x1.trans x3).trans x5
  have X6 := X5.trans x6
  have l6 := RdB.len b6.rd
  refine .callE e6 (PO.joinD (PO.mono (rlay_l1 (hp.ex X5) (hx.ex X5) hn (by omega) x6 f6 b6) ?_))
  rintro _ ⟨s7, h7, rfl, x7, b7⟩
  show PO _ _
  have l7 := RdB.len b7.rd
  have B7 := Box.kx x7 (Box.kx x5 B3)
  rw [List.length_append] at l7
  refine .ptr (.ldZ5 B7 (PO.call (rbounds_f x7.wf hR') fun a h8 ⟨e, x8⟩ => ?_))
  subst e
  refine .letO ?_
  simp only
  rw [w64 (n := ((s7.len : Nat) : Int) - ((s6.len : Nat) : Int)) (by omega) (by omega), w64 (n := hto x - hfrom x) (by omega) (by omega)]
  refine .condNE (fun hne => .ret ⟨?_, (X5.trans x7).trans x8⟩) (fun heq => .ret ⟨?_, (X5.trans x7).trans x8⟩)
  · unfold layV; rw [if_neg (fun h => hne (by rw [← h.2]; omega))]; exact rd_nil 1 h8
  · unfold layV; rw [if_pos ⟨hR', by rw [← heq]; omega⟩]; exact b7.rd.ex x8
theorem Head_f {h : H} (w : WF h) (id dl sz ix bd : Int) (g1 : RNG id) (g2 : RNG dl) (g3 : RNG sz) (g4 : RNG ix) (g5 : RNG bd) : PO (hand_Head id dl sz ix bd h) (fun (a, h1) => EX h h1 ∧ -20 ≤ a.2.2.2.2 ∧ a.2.2.2.2 ≤ 700) := by
  unfold hand_Head P.hand_Head
  have q1 := emod_b id (show (0 : Int) < 40 by omega)
  have q3 := emod_b sz (show (0 : Int) < 600 by omega)
  have hm := mayV_ok dl
  unfold okN at hm
  refine PO.newB w fun h1 x1 B1 z1 w1 => .callE (pick_f _ _ (by omega) (by omega) _) (.callE (May_f _ _) (.callE (pick_f _ _ (by omega) (by omega) _) ?_))
  rw [w64 (n := 1 + sz % 600) (by omega) (by omega)]
  have hR : HR (id % 40, mayV dl, hcnt (1 + sz % 600), 0, 1 + sz % 600) := by
    refine ⟨q1.1, q1.2, hm.1, hm.2, ?_, ?_, rfl, Int.le_refl _, ?_⟩
    · show (1 : Int) ≤ 1 + sz % 600; omega
    · show 1 + sz % 600 ≤ (600 : Int); omega
    · show (0 : Int) < hcnt (1 + sz % 600); unfold hcnt; omega
  refine PO.call (ROf_f w1 _ _ _) fun a h2 ⟨e, x2⟩ => ?_
  obtain ⟨C, hC⟩ : ∃ C, C = hcnt (1 + sz % 600) := ⟨_, rfl⟩
  have hCr : 1 ≤ C ∧ C ≤ 8 := by rw [hC]; unfold hcnt; omega
  have e' : a = (id % 40, mayV dl, C, 0, 1 + sz % 600) := by
    have : a = ofV (id % 40) (mayV dl) (1 + sz % 600) := e
    rw [this, hC]; unfold ofV; rw [if_pos hR]
  subst e'
  clear hR hC e
  have q6 := emod_b ix (show (0 : Int) < C by omega)
  refine PO.newB x2.wf fun h3 x3 B3 z3 w3 => PO.stZ (zs := [.int .i64, .int .i64, .int .i64, .int .i64, .int .i64]) (x := (id % 40, mayV dl, C, 0, 1 + sz % 600)) B3 w3 rfl rfl fun h4 B4 u4 z4 w4 => ?_
  have B4' : Box h4 h2.size (hdL (id % 40, mayV dl, C, 0, 1 + sz % 600)) := B4
  have hs2 := x2.size
  have X4 : EX h2 h4 := u4.ex0 x3 (fun A hA e => by omega)
  have t0 : TB h2 h.size h2.size [.int .i64 0, .int .i64 0, .int .i64 0, .int .i64 0, .int .i64 0] h4 (hdL (id % 40, mayV dl, C, 0, 1 + sz % 600)) := ⟨X4, Nat.le_refl _, by omega, Box.kx X4 (Box.kx x2 B1), B4'⟩
  refine .ldI B4' rfl (.callE (pick_f _ _ (by simp only; omega) (by simp only; omega) _) (TB.st1 t0 (by simp [hdL]) rfl fun h5 t5 => ?_))
  have q7 := emod_b (IntKind.wrap .i64 (Int.tdiv bd 12)) (show (0 : Int) < 60 by omega)
  refine .callE (pick_f _ _ (by omega) (by omega) _) ?_
  generalize IntKind.wrap .i64 (Int.tdiv bd 12) % 60 = K at *
  have q8 := emod_b bd (show (0 : Int) < 12 by omega)
  have q9 := emod_b bd (show (0 : Int) < 700 by omega)
  have q10 := emod_b (K - 5) (show (0 : Int) < 12 by omega)
  rw [w64 (n := K - 5) (by omega) (by omega)]
  refine PO.join (fun s => s.1 = (some ⟨h.size, 0, some 0⟩, some ⟨h2.size, 0, some 0⟩) ∧ ∃ y : Hd, TB h2 h.size h2.size [.int .i64 0, .int .i64 0, .int .i64 0, .int .i64 0, .int .i64 0] s.2 (hdL y) ∧ -20 ≤ y.2.2.2.2 ∧ y.2.2.2.2 ≤ 700) ?_ ?_
  · refine .callE (pick_f _ _ (by omega) (by omega) _) (.condE (fun _ => TB.st1 t5 (by simp [hdL]) rfl fun h6 t6 => .retL ⟨rfl, (K - 5, mayV dl, C, ix % C, 1 + sz % 600), t6, by simp only; omega, by simp only; omega⟩) (fun _ => .condE (fun _ => ?_) (fun _ => .condE (fun _ => ?_) (fun _ => .condE (fun _ => ?_) (fun _ => .retL ⟨rfl, (id % 40, mayV dl, C, ix % C, 1 + sz % 600), t5, by simp only; omega, by simp only; omega⟩)))))
    · refine .callE (pick_f _ _ (by omega) (by omega) _) ?_
      rw [w64 (n := (K - 5) % 12 - 1) (by omega) (by omega)]
      exact TB.st1 t5 (by simp [hdL]) rfl fun h6 t6 => .retL ⟨rfl, (id % 40, mayV dl, (K - 5) % 12 - 1, ix % C, 1 + sz % 600), t6, by simp only; omega, by simp only; omega⟩
    · refine .callE (pick_f _ _ (by omega) (by omega) _) ?_
      rw [w64 (n := (K - 5) % 12 - 1) (by omega) (by omega)]
      exact TB.st1 t5 (by simp [hdL]) rfl fun h6 t6 => .retL ⟨rfl, (id % 40, mayV dl, C, (K - 5) % 12 - 1, 1 + sz % 600), t6, by simp only; omega, by simp only; omega⟩
    · refine .callE (pick_f _ _ (by omega) (by omega) _) ?_
      rw [w64 (n := bd % 700 - 20) (by omega) (by omega)]
      exact TB.st1 t5 (by simp [hdL]) rfl fun h6 t6 => .retL ⟨rfl, (id % 40, mayV dl, C, ix % C, bd % 700 - 20), t6, by simp only; omega, by simp only; omega⟩
  rintro ⟨s, h6⟩ ⟨rfl, y, t6, y1, y2⟩
  have t6' : TB h2 h.size h2.size [.int .i64 0, .int .i64 0, .int .i64 0, .int .i64 0, .int .i64 0] h6 (hdL y) := t6
  refine .ptr (.ldZ5 t6'.box2 (.ptr (PO.stZ (zs := [.int .i64, .int .i64, .int .i64, .int .i64, .int .i64]) (x := y) t6'.box t6'.ex.wf rfl rfl fun h7 B7 u7 z7 w7 => ?_)))
  have B7' : Box h7 h.size (hdL y) := B7
  exact .ptr (.ldZ5 B7' (.ret ⟨u7.ex0 ((x1.trans x2).trans t6'.ex) (fun A hA e => by omega), y1, y2⟩))
end Go.Proofs.Ythiccnmplgdheaa.T
/- The law HeadTells over typed texts, for parts of bounded length in all. -/
set_option linter.unusedVariables false
set_option linter.unusedSimpArgs false
set_option maxRecDepth 100000
namespace Go.Abs
open Go
theorem PO.chkF {α : Type} {Q : α → Prop} {b : Bool} {x y : Option α} (h : b = false) (k : PO y Q) : PO (condK b x y) Q := by subst h; exact k
theorem bsd_self (x : ByteArray) : (x.data.toList == x.data.toList) = true := by simp
end Go.Abs
namespace Go.Proofs.Ythiccnmplgdheaa.T
open Go Go.Abs Go.Proofs
theorem hd_ne_self (x : Hd) : (!((x.1 == x.1) && ((x.2.1 == x.2.1) && ((x.2.2.1 == x.2.2.1) && ((x.2.2.2.1 == x.2.2.2.1) && ((x.2.2.2.2 == x.2.2.2.2) && true)))))) = false := by simp
theorem head_round {cut at' : Int} {v : UInt8} {x0 x1 x2 x3 z : Sl} {i : Nat} {h : H} {l : List UInt8} (w : WF h) (hat : RNG at') (hcut : RNG cut) (hi : i < 4)
    (hix : ixVT ⟨false, [.sl]⟩ [.slice x0.base x0.len x0.cap, .slice x1.base x1.len x1.cap, .slice x2.base x2.len x2.cap, .slice x3.base x3.len x3.cap] (i : Int) = some z) (hr : RdB h z l) (hl : l.length ≤ 2 ^ 47) :
    PO (law18_HeadTells_l1 ((cut, (at', ((v.toNat : Int), ((x0, (x1, (x2, x3))), (i : Int))))), h)) (fun r => ∃ h', r = Sum.inl ((cut, (at', ((v.toNat : Int), ((x0, (x1, (x2, x3))), ((i + 1 : Nat) : Int))))), h') ∧ EX h h') := by
  unfold law18_HeadTells_l1 P.law18_HeadTells_l1
  refine .condD (fun _ => .op hix ?_) (fun hh => absurd (show (i : Int) < 4 by omega) hh)
  refine PO.call (Few_po w hr hl (n := 800) (by omega)) fun y g1 ⟨y1, b1, f1⟩ => ?_
  have hl8 : (l.take (800 : Int).toNat).length ≤ 800 := by rw [List.length_take]; exact Nat.min_le_left _ _
  generalize l.take (800 : Int).toNat = yl at b1 hl8
  have hyl := RdB.len b1.rd
  refine PO.join (fun st => ∃ h2 wl, st = ((cut, (at', ((v.toNat : Int), (y, ((x0, (x1, (x2, x3))), (i : Int)))))), h2) ∧ EX h h2 ∧ RdB h2 y wl ∧ wl.length ≤ 800) ?_ ?_
  · refine PO.join (fun st => ∃ c : Bool, st = ((cut, (at', ((v.toNat : Int), (y, ((x0, (x1, (x2, x3))), ((i : Int), c)))))), g1) ∧ (c = true → 0 < yl.length)) (.condD (fun c => .retL ⟨_, rfl, fun _ => ?_⟩) (fun c => .retL ⟨false, rfl, fun hh => by cases hh⟩)) ?_
    · have c' : ((y.len : Nat) : Int) > 0 := c
      omega
    rintro _ ⟨c, rfl, hc⟩
    refine .cond (fun ct => ?_) (fun _ => .retL ⟨g1, yl, rfl, y1, b1.rd, hl8⟩)
    have hpos := hc ct
    refine .callE (pick_f _ _ (by omega) (by omega) _) ?_
    have q := emod_b (IntKind.wrap .i64 (Int.tdiv at' 3)) (show (0 : Int) < ((y.len : Nat) : Int) by omega)
    generalize IntKind.wrap .i64 (Int.tdiv at' 3) % ((y.len : Nat) : Int) = k at *
    obtain ⟨kn, rfl⟩ : ∃ kn : Nat, k = (kn : Int) := ⟨k.toNat, by omega⟩
    obtain ⟨a, ha, i1, i2⟩ := b1.rd.at (i := (kn : Int)) (by omega) (by omega)
    rw [Int.toNat_natCast] at i1 i2
    refine .op i1 (.op i2 (.letO (.op i1 ?_)))
    rw [xor8]
    obtain ⟨g2, e2, w2, b2, y2⟩ := st1_bufB (v := yl.getD kn 0 ^^^ v) b1 ha (i := kn) (by omega) y1.wf
    exact .op e2 (.retL ⟨g2, _, rfl, y2 _ y1 f1, b2.rd, by rw [List.length_set]; exact hl8⟩)
  rintro _ ⟨h2, wl, rfl, X2, r2, l2⟩
  have hwl := RdB.len r2
  refine PO.join (fun st => ∃ h3 w1 wl, st = ((cut, (at', ((v.toNat : Int), (w1, ((x0, (x1, (x2, x3))), (i : Int)))))), h3) ∧ EX h h3 ∧ RdB h3 w1 wl ∧ wl.length ≤ 800) ?_ ?_
  · refine .cond (fun _ => ?_) (fun _ => .retL ⟨h2, y, wl, rfl, X2, r2, l2⟩)
    rw [w64 (n := ((y.len : Nat) : Int) + 1) (by omega) (by omega)]
    refine .callE (pick_f _ _ (by omega) (by omega) _) ?_
    have q := emod_b (IntKind.wrap .i64 (Int.tdiv cut 4)) (show (0 : Int) < ((y.len : Nat) : Int) + 1 by omega)
    obtain ⟨s3, e3, r3⟩ := slB_hi (hi := IntKind.wrap .i64 (Int.tdiv cut 4) % (((y.len : Nat) : Int) + 1)) r2 (by omega) (by omega)
    exact .op e3 (.retL ⟨h2, s3, _, rfl, X2, r3, by rw [List.length_take]; omega⟩)
  rintro _ ⟨h3, w1, wl, rfl, X3, r3, l3⟩
  refine PO.call (Read_f X3.wf r3 (by omega)) fun a h4 ⟨ea, eb, ra, x4⟩ => ?_
  obtain ⟨A, sA, eA⟩ := a
  have ea' : A = (readV wl).1 := ea
  have eb' : eA = (readV wl).2.2 := eb
  subst ea' eb'
  refine PO.newB x4.wf fun h5 x5 B5 z5 w5 => PO.stZ (zs := [.int .i64, .int .i64, .int .i64, .int .i64, .int .i64]) (x := (readV wl).1) B5 w5 rfl rfl fun h6 B6 u6 z6 w6 => ?_
  have B6' : Box h6 h4.size (hdL (readV wl).1) := B6
  have y6 : EX h4 h6 := u6.ex0 x5 (fun A hA e => by omega)
  refine PO.call (RRead18_f y6.wf ((r3.ex x4).ex y6) (by omega)) fun a h7 ⟨ea, eb, rb, x7⟩ => ?_
  obtain ⟨A2, sB, eB⟩ := a
  have ea' : A2 = (readV wl).1 := ea
  have eb' : eB = (readV wl).2.2 := eb
  subst ea' eb'
  refine PO.newB x7.wf fun h8 x8 B8 z8 w8 => PO.stZ (zs := [.int .i64, .int .i64, .int .i64, .int .i64, .int .i64]) (x := (readV wl).1) B8 w8 rfl rfl fun h9 B9 u9 z9 w9 => ?_
  have B9' : Box h9 h7.size (hdL (readV wl).1) := B9
  have y9 : EX h7 h9 := u9.ex0 x8 (fun A hA e => by omega)
  have X49 : EX h4 h9 := (y6.trans x7).trans y9
  refine PO.call (ReadShort_f y9.wf ((r3.ex x4).ex X49) (by omega)) fun a h10 ⟨ea, x10⟩ => ?_
  have ea' : a = rsV wl := ea
  subst ea'
  refine PO.newB x10.wf fun h11 x11 B11 z11 w11 => PO.stZ (zs := [.int .i64, .int .i64, .int .i64, .int .i64, .int .i64]) (x := (rsV wl).1) B11 w11 rfl rfl fun h12 B12 u12 z12 w12 => ?_
  have B12' : Box h12 h10.size (hdL (rsV wl).1) := B12
  have y12 : EX h10 h12 := u12.ex0 x11 (fun A hA e => by omega)
  have X412 : EX h4 h12 := (X49.trans x10).trans y12
  refine PO.call (RReadShort_f y12.wf ((r3.ex x4).ex X412) (by omega)) fun a h13 ⟨ea, x13⟩ => ?_
  have ea' : a = rsV wl := ea
  subst ea'
  refine PO.newB x13.wf fun h14 x14 B14 z14 w14 => PO.stZ (zs := [.int .i64, .int .i64, .int .i64, .int .i64, .int .i64]) (x := (rsV wl).1) B14 w14 rfl rfl fun h15 B15 u15 z15 w15 => ?_
  have B15' : Box h15 h13.size (hdL (rsV wl).1) := B15
  have y15 : EX h13 h15 := u15.ex0 x14 (fun A hA e => by omega)
  have D6 := Box.kx y15 (Box.kx x13 (Box.kx y12 (Box.kx x10 (Box.kx y9 (Box.kx x7 B6')))))
  have D9 := Box.kx y15 (Box.kx x13 (Box.kx y12 (Box.kx x10 B9')))
  have D12 := Box.kx y15 (Box.kx x13 B12')
  have X15 : EX h h15 := ((((X3.trans x4).trans X412).trans x13).trans y15)
  have X4_15 : EX h4 h15 := (X412.trans x13).trans y15
  have X7_15 : EX h7 h15 := (((y9.trans x10).trans y12).trans x13).trans y15
  refine PO.join (fun st => st = ((cut, (at', ((v.toNat : Int), ((x0, (x1, (x2, x3))), ((i : Int), false))))), h15)) ?_ ?_
  · refine .ldZ5 D6 (.ldZ5 D9 (.letO (.chkF (hd_ne_self _) ?_)))
    refine .callE (strT_ok (ra.ex X4_15)) (.callE (strT_ok (rb.ex X7_15)) ?_)
    refine .chkF (by rw [bs_eq]; simp) (.chkF (by simp) (.ldZ5 D12 (.ldZ5 B15' (.letO (.chkF (hd_ne_self _) (.chkF (by simp) (.retL ?_)))))))
    rw [bne_self_eq_false]
  · rintro _ rfl
    refine .condF (.ret ⟨h15, ?_, X15⟩)
    rw [w64 (n := (i : Int) + 1) (by omega) (by omega)]; rfl
theorem HeadTellsU (id deadline size index bend : Int) (payload raw : Sl) (cut at' with' : Int) (parts : Sl) (h : H) (w : WF h) (g1 : RNG id) (g2 : RNG deadline) (g3 : RNG size) (g4 : RNG index) (g5 : RNG bend) (pl : List UInt8) (hp : RdB h payload pl) (lp : pl.length ≤ 1048576) (rl : List UInt8) (hrw : RdB h raw rl) (lr : rl.length ≤ 1048576) (g6 : RNG cut) (g7 : RNG at') (g8 : 0 ≤ with' ∧ with' < 256) (xs : List Sl) (ls : List (List UInt8)) (hps : RdS h parts xs) (hpx : RdBs h xs ls) (lx : xs.length ≤ 1048576) (lc : (cat ls).length ≤ 1048576) :
    ∃ h', law18_HeadTells id deadline size index bend payload raw cut at' with' parts h = some (true, h') := by
  refine PO.law ?_
  obtain ⟨v, rfl⟩ : ∃ v : UInt8, with' = (v.toNat : Int) := ⟨UInt8.ofNat with'.toNat, by rw [UInt8.toNat_ofNat']; omega⟩
  unfold law18_HeadTells P.law18_HeadTells
  refine PO.call (P := fun ((X, h0) : Hd × H) => EX h h0 ∧ -20 ≤ X.2.2.2.2 ∧ X.2.2.2.2 ≤ 700) (Head_f w id deadline size index bend g1 g2 g3 g4 g5) fun X h0 ⟨x0, s1, s2⟩ => ?_
  have s1' : -20 ≤ X.2.2.2.2 := s1
  have s2' : X.2.2.2.2 ≤ 700 := s2
  refine PO.newB x0.wf fun h1 x1 B1 z1 w1 => PO.stZ (zs := [.int .i64, .int .i64, .int .i64, .int .i64, .int .i64]) (x := X) B1 w1 rfl rfl fun h2 B2 u2 z2 w2 => ?_
  have B2' : Box h2 h0.size (hdL X) := B2
  have xx2 : EX h h2 := u2.ex0 (x0.trans x1) (fun A hA e => by have := x0.size; omega)
  obtain ⟨N, hN, hN2⟩ : ∃ N : Nat, (if ((if (700 < X.2.2.2.2) then 700 else X.2.2.2.2) > 0) then (if (700 < X.2.2.2.2) then 700 else X.2.2.2.2) else 0) = (N : Int) ∧ N ≤ 700 := by
    refine ⟨(if ((if (700 < X.2.2.2.2) then 700 else X.2.2.2.2) > 0) then (if (700 < X.2.2.2.2) then 700 else X.2.2.2.2) else 0).toNat, ?_, ?_⟩
    · (repeat' split) <;> omega
    · (repeat' split) <;> omega
  refine .ldI B2' rfl (.letO ?_)
  refine PO.call (P := fun (a, h1) => BufB h1 a (textL pl N) ∧ EX h2 h1 ∧ Fr h2.size a) (by rw [hN]; exact Text_f w2 (hp.ex xx2) (by omega) N (by omega)) fun tx h3 ⟨bt, x3, _⟩ => ?_
  have htl : (textL pl N).length ≤ 2 ^ 40 := by have := textL_length pl N; omega
  refine PO.join (fun st => ∃ b bl, st = ((id, (deadline, (size, (index, (bend, (payload, (raw, (cut, (at', ((v.toNat : Int), (parts, (some ⟨h0.size, 0, some 0⟩, b)))))))))))), h3) ∧ RdB h3 b bl ∧ bl.length ≤ 2 ^ 40) ?_ ?_
  · exact .cond (fun _ => .retL ⟨payload, pl, rfl, (hp.ex xx2).ex x3, by omega⟩) (fun _ => .retL ⟨tx, _, rfl, bt.rd, htl⟩)
  rintro _ ⟨b, bl, rfl, rb, lb⟩
  have B3 := Box.kx x3 B2'
  have xx3 := xx2.trans x3
  refine .ptr (.ldZ5 B3 (PO.call (RPart_f x3.wf X rb (by omega)) fun p h6 ⟨rp, x6⟩ => ?_))
  have hpl : (partV X bl).length ≤ 2 ^ 40 := by
    unfold partV
    split
    · simp; omega
    · simp
  have hplen := RdB.len rp
  rw [w64 (n := ((p.len : Nat) : Int) + 1) (by omega) (by omega)]
  refine .callE (pick_f _ _ (by omega) (by omega) _) ?_
  have q := emod_b cut (show (0 : Int) < ((p.len : Nat) : Int) + 1 by omega)
  generalize hk : cut % (((p.len : Nat) : Int) + 1) = k at *
  have B6 := Box.kx x6 B3
  have xx6 := xx3.trans x6
  have hn6 := x6.wf.nro
  have c2 : cat [(partV X bl).take k.toNat, (partV X bl).drop k.toNat] = partV X bl := by simp [cat]
  -- laid in parts
  refine .ptr (PO.letGrow x6.wf fun h8 x8 z8 w8 n8 => .ldZ5 (Box.kx x8 B6) ?_)
  obtain ⟨s20, e20, r20⟩ := slB_hi (hi := k) (rp.ex x8) (by omega) (by omega)
  obtain ⟨s21, e21, r21⟩ := slB_lo (lo := k) (rp.ex x8) (by omega) (by omega)
  refine .op e20 (.op e21 ?_)
  refine PO.addNew (vs := [s20, s21].map encSl) w8 (by decide) (n8 7 (by omega)) (by omega) (by rw [x8.nro]; omega) fun h9 N9 B9 => .addNil ?_
  have z9 := N9.size
  have X89 : EX h6 h9 := N9.ex0 x8 (by omega)
  have rb9 : RdBs h9 [s20, s21] [(partV X bl).take k.toNat, (partV X bl).drop k.toNat] := ⟨⟨NW.kr N9 r20, by simp; omega⟩, ⟨NW.kr N9 r21, by simp; omega⟩, trivial⟩
  refine PO.call (Lay_f N9.wf X (Box.rdS (n := 2) B9 N9.wf rfl (by unfold B63; omega)) rb9 (by simp) (by rw [c2]; omega)) fun s22 h10 ⟨r22, x10⟩ => ?_
  rw [c2] at r22
  refine .ptr (.addOld (Box.kx x10 B9).ne (.addNil (PO.letTick x10.wf fun h12 x12 z12 w12 => PO.letGrow w12 fun h13 x13 z13 w13 n13 => ?_)))
  have X13 : EX h6 h13 := ((X89.trans x10).trans x12).trans x13
  have hn12 := w12.nro
  refine .ldZ5 (Box.kx X13 B6) ?_
  obtain ⟨s28, e28, r28⟩ := slB_hi (hi := k) (rp.ex X13) (by omega) (by omega)
  obtain ⟨s29, e29, r29⟩ := slB_lo (lo := k) (rp.ex X13) (by omega) (by omega)
  refine .op e28 (.op e29 ?_)
  refine PO.addNew (vs := [s28, s29].map encSl) w13 (by decide) (n13 7 (by omega)) (by omega) (by rw [x13.nro]; omega) fun h14 N14 B14 => .addNil ?_
  have z14 := N14.size
  have X14 : EX h12 h14 := N14.ex0 x13 (by omega)
  have rb14 : RdBs h14 [s28, s29] [(partV X bl).take k.toNat, (partV X bl).drop k.toNat] := ⟨⟨NW.kr N14 r28, by simp; omega⟩, ⟨NW.kr N14 r29, by simp; omega⟩, trivial⟩
  refine PO.call (RLay18_f N14.wf X (Box.rdS (n := 2) B14 N14.wf rfl (by unfold B63; omega)) rb14 (by simp) (by rw [c2]; omega)) fun s30 h15 ⟨r30, x15⟩ => ?_
  rw [c2] at r30
  have X15 : EX h6 h15 := (((X89.trans x10).trans x12).trans X14).trans x15
  -- the checks
  refine PO.join (fun st => ∃ g, st = ((id, (deadline, (size, (index, (bend, (payload, (raw, (cut, (at', ((v.toNat : Int), (some ⟨h0.size, 0, some 0⟩, (s30, false)))))))))))), g) ∧ EX h15 g) ?_ ?_
  · refine .ptr (.addOld (Box.kx x15 B14).ne (.addNil (PO.letTick x15.wf fun h17 x17 z17 w17 => ?_)))
    have C17 := Box.kx x17 (Box.kx X15 B6)
    refine .ldZ5 C17 (PO.call (Right_f w17 X) fun a h18 ⟨ea, x18⟩ => ?_)
    subst ea
    have C18 := Box.kx x18 C17
    refine .ptr (.ldZ5 C18 (PO.call (RRight_f x18.wf X) fun a h19 ⟨ea, x19⟩ => ?_))
    subst ea
    have C19 := Box.kx x19 C18
    have X19 : EX h15 h19 := (x17.trans x18).trans x19
    refine .chkF (by simp) (.ptr (.ldZ5 C19 (PO.call (Part_f x19.wf X (((rb.ex x6).ex X15).ex X19) (by omega)) fun s53 h20 ⟨r53, x20, _⟩ => ?_)))
    have C20 := Box.kx x20 C19
    have X20 := X19.trans x20
    have rp20 := (rp.ex X15).ex X20
    have r22' : RdB h20 s22 (layV X (partV X bl)) := ((((r22.ex x12).ex X14).ex x15).ex X20)
    refine .callE (strT_ok r53) (.callE (strT_ok rp20) (.chkF (by rw [bs_eq]; simp) ?_))
    refine .callE (strT_ok r22') (.callE (strT_ok (r30.ex X20)) (.chkF (by rw [bs_eq]; simp) ?_))
    refine .ptr (.ldZ5 C20 (PO.call (Lay_f x20.wf X ((hps.ex (xx6.trans X15)).ex X20) ((hpx.ex (xx6.trans X15)).ex X20) (by omega) (by omega)) fun s75 h27 ⟨r75, x27⟩ => ?_))
    have C27 := Box.kx x27 C20
    have X27 := X20.trans x27
    refine .callE (strT_ok r75) (.ptr (.ldZ5 C27 (PO.call (RLay18_f x27.wf X ((hps.ex (xx6.trans X15)).ex X27) ((hpx.ex (xx6.trans X15)).ex X27) (by omega) (by omega)) fun s82 h29 ⟨r82, x29⟩ => ?_)))
    have C29 := Box.kx x29 C27
    have X29 := X27.trans x29
    refine .callE (strT_ok r82) (.chkF (by rw [bs_eq]; simp) (.ptr (.ldZ5 C29 (PO.call (Short_f x29.wf X) fun s101 h33 ⟨r101, x33, _⟩ => ?_))))
    have C33 := Box.kx x33 C29
    refine .callE (strT_ok r101) (.ptr (.ldZ5 C33 (PO.call (RShort_f x33.wf X) fun s108 h35 ⟨r108, x35⟩ => ?_)))
    refine .callE (strT_ok r108) (.ptr (.ldZ5 C29 (.chkV rfl ?_)))
    refine .callE (strT_ok (r101.ex x35)) (.chk (bsd_self _) (.ptr (.ldZ5 C20 (.chkV rfl ?_))))
    refine .callE (strT_ok (r75.ex x29)) (.chk (bsd_self _) ?_)
    refine .callE (strT_ok ((rp.ex X15).ex X19)) (.chk (bsd_self _) (.ptr (.ldZ5 C17 (.chkV rfl (.retL ⟨h35, ?_, (X29.trans x33).trans x35⟩)))))
    rw [bs_eq]; simp
  rintro _ ⟨h17, rfl, X17⟩
  have q1 := emod_b id (show (0 : Int) < 44 by omega)
  have q2 := emod_b size (show (0 : Int) < 610 by omega)
  refine .condF (.callE (pick_f _ _ (by omega) (by omega) _) (.callE (Num_f _ _) (.callE (pick_f _ _ (by omega) (by omega) _) ?_)))
  refine PO.call (Of_f X17.wf _ _ _) fun a h21 ⟨ea, x21⟩ => ?_
  obtain ⟨Y, hY⟩ : ∃ Y, Y = ofV (IntKind.wrap .i64 (id % 44 - 2)) (numV deadline) (IntKind.wrap .i64 (size % 610 - 4)) := ⟨_, rfl⟩
  have ea' : a = Y := by rw [hY]; exact ea
  subst ea'
  refine .callE (Num_f _ _) (.callE (pick_f _ _ (by omega) (by omega) _) (PO.call (ROf_f x21.wf _ _ _) fun a2 h24 ⟨eb, x24⟩ => ?_))
  have eb' : a2 = a := by rw [hY]; exact eb
  subst eb'
  refine .letO (.chkF (hd_ne_self _) ?_)
  have q3 := emod_b bend (show (0 : Int) < 9 by omega)
  have q4 := emod_b index (show (0 : Int) < 9 by omega)
  have q5 := emod_b size (show (0 : Int) < 620 by omega)
  refine .callE (pick_f _ _ (by omega) (by omega) _) (.callE (May_f _ _) (.callE (pick_f _ _ (by omega) (by omega) _) (.callE (pick_f _ _ (by omega) (by omega) _) (.callE (pick_f _ _ (by omega) (by omega) _) ?_))))
  have hm := mayV_ok deadline
  refine PO.newB x24.wf fun h30 x30 B30 z30 w30 => ?_
  have ri : RdI .i64 h30 ⟨some ⟨h24.size, 0, some 0⟩, 5, 5⟩ [id % 44, mayV deadline, bend % 9, index % 9, size % 620] := B30.rd w30 rfl (by unfold CapOK; rw [capK_exact (by unfold B63; omega)]; exact Nat.le_refl _)
  obtain ⟨s53, h31, e31, x31, b31, f31⟩ := RPut_f (l := []) w30 (rd_nil 1 h30) ri (by simp)
  have hel := encs_length [id % 44, mayV deadline, bend % 9, index % 9, size % 620]
  have hpv : (putV [] [id % 44, mayV deadline, bend % 9, index % 9, size % 620]).length ≤ 40 := by
    unfold putV
    split
    · simp
    · simp only [List.nil_append]
      have : ([id % 44, mayV deadline, bend % 9, index % 9, size % 620] : List Int).length = 5 := rfl
      omega
  have XX31 : EX h h31 := ((((((xx6.trans X15).trans X17).trans x21).trans x24).trans x30).trans x31)
  have X1531 : EX h15 h31 := (((X17.trans x21).trans x24).trans x30).trans x31
  have C31 := Box.kx X1531 (Box.kx X15 B6)
  refine .callE e31 (PO.joinD ?_)
  obtain ⟨s54, h32, e32, k32, y32, b32, _, f32⟩ := appB_ok (e := 5) x31.wf b31 (hp.ex XX31) (by omega)
  have x32 : EX h30 h32 := y32 _ x31 f31
  have X1530 : EX h15 h30 := ((X17.trans x21).trans x24).trans x30
  have C32 := Box.kx x32 (Box.kx X1530 (Box.kx X15 B6))
  refine .callE e32 (.ptr (.ldZ5 C32 (PO.call (RShort_f k32.wf X) fun s60 h33 ⟨r60, x33⟩ => .ptr (.ldZ5 C31 (.chkV rfl ?_)))))
  have X1533 : EX h15 h33 := (X1530.trans x32).trans x33
  have hsh : (shortV X).length ≤ 2 ^ 40 := by
    unfold shortV
    split
    · have := encs_length (snums X)
      have h3 : (snums X).length = 3 := rfl
      omega
    · simp
  have hly : (layV X (partV X bl)).length ≤ 2 ^ 46 := by
    by_cases hh : HR X ∧ ((partV X bl).length : Int) = hto X - hfrom X
    · have := layV_length hh; omega
    · unfold layV; rw [if_neg hh]; simp
  have ry := r30.ex X1533
  have rr := ((hrw.ex (xx6.trans X15)).ex X1533)
  have r54 := b32.rd.ex x33
  have l54 : (putV [] [id % 44, mayV deadline, bend % 9, index % 9, size % 620] ++ pl).length ≤ 2 ^ 40 := by rw [List.length_append]; omega
  generalize putV [] [id % 44, mayV deadline, bend % 9, index % 9, size % 620] ++ pl = L54 at r54 l54
  refine PO.mono (P := fun st => ∃ h', st = Sum.inl ((), h') ∧ EX h33 h') ?_ ?_
  · refine PO.loop (fun m st => ∃ (i : Nat) (h' : H), st = ((cut, (at', ((v.toNat : Int), ((s30, (raw, (s54, s60))), (i : Int))))), h') ∧ m + i = 4 ∧ EX h33 h') ?_ 4 _ ⟨0, h33, rfl, rfl, EX.refl x33.wf⟩
    rintro m st ⟨i, h', rfl, hm, hx⟩
    by_cases hi : i < 4
    · obtain ⟨z, l, hix, hr, hl⟩ : ∃ z l, ixVT ⟨false, [.sl]⟩ [.slice s30.base s30.len s30.cap, .slice raw.base raw.len raw.cap, .slice s54.base s54.len s54.cap, .slice s60.base s60.len s60.cap] (i : Int) = some z ∧ RdB h' z l ∧ l.length ≤ 2 ^ 47 := by
        rcases (by omega : i = 0 ∨ i = 1 ∨ i = 2 ∨ i = 3) with rfl | rfl | rfl | rfl
        · exact ⟨s30, _, rfl, ry.ex hx, by omega⟩
        · exact ⟨raw, _, rfl, rr.ex hx, by omega⟩
        · exact ⟨s54, _, rfl, r54.ex hx, by omega⟩
        · exact ⟨s60, _, rfl, r60.ex hx, by omega⟩
      refine PO.mono (head_round hx.wf g7 g6 hi hix hr hl) ?_
      rintro _ ⟨h'', rfl, x'⟩
      exact ⟨m - 1, by omega, i + 1, h'', rfl, by omega, hx.trans x'⟩
    · have : i = 4 := by omega
      subst this
      unfold P.law18_HeadTells_l1
      exact .condD (fun hh => absurd hh (by omega)) (fun _ => .retR ⟨h', rfl, hx⟩)
  rintro _ ⟨h34, rfl, x34⟩
  show PO _ _
  exact PO.call (known18_f x34.wf) fun a h35 ⟨ea, _⟩ => .ret ea
end Go.Proofs.Ythiccnmplgdheaa.T
