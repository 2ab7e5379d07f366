/- Lemmas about the typed texts (joined: SIn11 LIn2). -/
import Derived.Test.YtaebjajbogedkaaG21
-- SEAT c
/- Chapter 22's law InWhole: a round of its main loop. -/
set_option linter.unusedVariables false
set_option linter.unusedSimpArgs false
set_option maxHeartbeats 1000000
namespace Go.Proofs.Ytaebjajbogedkaa.T
open Go Go.Abs Go.Proofs
theorem lookG_put_none {K V : Type} [DecidableEq K] (d : V) (k k2 : K) (v : V) (es : List (K × V)) : (lookG k2 (putG k v es)).getD d = if k2 = k then v else (lookG k2 es).getD d := by
  rw [lookG_put]; split <;> rfl
theorem keep_lt {h : H} {p m : Nat} {l : List Run} {ws : List (Int × Wn)} (I : InB h p m l ws) {A : Nat} (k : keep p m ws A) : A < h.size := by
  rcases k with rfl | rfl | ⟨e, he, rfl | rfl⟩
  · exact I.blt
  · exact I.map.lt
  · exact (I.at1 he).1
  · exact (I.at1 he).2.1
theorem getD_mem' {l : List Run} {j : Nat} (h : j < l.length) : ((l.getD j (0, 0)).1, (l.getD j (0, 0)).2) ∈ l := by
  rw [List.getD_eq_getElem?_getD, List.getElem?_eq_getElem h]
  exact List.getElem_mem h
theorem _root_.Go.Abs.PO.ixE4 {α : Type} {Q : α → Prop} {h : H} {s : Sl} {e : EvT} {l : List EvT} {g : Addr → Option α} (r : RdE h s (e :: l))
    (p : ∀ a, Abs.ldI .i64 h (add a 0) = some e.1 → Abs.ldI .i64 h (add a 1) = some e.2.1 → Abs.ldS h (add a 3) = some e.2.2.2 → PO (g a) Q) : PO (bindO (ixT 4 s 0) g) Q := by
  obtain ⟨a, ha, e'⟩ := ixT_ok r (i := 0) (by omega) (by have := RdE.len r; simp at this; omega)
  rw [show (0 : Int).toNat * 4 = 0 from rfl, addA_zero] at e'
  have l0 := (Rd.ld r a ha 0 _ rfl).2
  have l1 := (Rd.ld r a ha 1 _ rfl).2
  have l3 := (Rd.ld r a ha 3 _ rfl).2
  exact .op e' (p a (ldI_of l0) (ldI_of l1) (ldS_of l3))
theorem allP_mono {f g : Int → Bool} (h : ∀ k, f k = true → g k = true) (n : Nat) : allP f n = true → allP g n = true := by
  rw [allP_iff, allP_iff]; exact fun q k h1 h2 => h k (q k h1 h2)
theorem inw_l3 {h0 hs : H} {n2 n3 p m b1 b3 b4 : Nat} {order all : Sl} {zs os : List Int} (hro : RdI .i64 h0 order os) (hol : os.length * 8 ≤ 140737488351232) (hor : ∀ n ∈ os, -9223372036854775808 ≤ n ∧ n ≤ 9223372036854775807) (h02 : h0.size ≤ n2) (hb1 : n2 ≤ b1 ∧ b1 < n3) (hb3 : n2 ≤ b3 ∧ b3 < n3) (hb4 : n2 ≤ b4 ∧ b4 < n3) (h34 : b3 ≠ b4) (hm2 : m + 1 < n2)
    (hpl : plK zs (min zs.length 8) ≠ []) (W0 : WInv h0 n2 n3 p m b1 b3 b4 zs all (plK zs (min zs.length 8)) (fun _ _ => false) hs) :
    PO (loopO law22_InWhole_l3 ((order, (some ⟨p, 0, some 0⟩, (all, (some ⟨b1, 0, some 0⟩, (some b3, (some b4, 0)))))), hs)) (fun r => ∃ h' Pr, r = Sum.inl (some ⟨p, 0, some 0⟩, h') ∧ WInv h0 n2 n3 p m b1 b3 b4 zs all (plK zs (min zs.length 8)) Pr h' ∧ ∀ q ∈ plK zs (min zs.length 8), Pr q.1 q.2 = true) := by
  generalize hplq : plK zs (min zs.length 8) = pl at *
  have hplen : pl.length ≤ 64 := by have := plK_len zs (min zs.length 8); rw [hplq] at this; omega
  have hpl0 : 0 < pl.length := List.length_pos_iff.2 hpl
  have hmem : ∀ a c, (a, c) ∈ pl → (0 ≤ a ∧ a < 8) ∧ 1 ≤ szF zs 8 a ∧ 0 ≤ c ∧ c < hcnt (szF zs 8 a) := by
    intro a c h
    rw [← hplq, mem_plK] at h
    exact ⟨by omega, szF_one (by omega), h.2⟩
  have holn : order.len = os.length := RdI.len hro
  have haln : all.len = pl.length := RdR.len W0.all_
  refine PO.loop (fun k st => ∃ (i : Nat) (h' : H) (Pr : Int → Int → Bool), st = ((order, (some ⟨p, 0, some 0⟩, (all, (some ⟨b1, 0, some 0⟩, (some b3, (some b4, (i : Int))))))), h') ∧ k + i = os.length + pl.length ∧ WInv h0 n2 n3 p m b1 b3 b4 zs all pl Pr h' ∧ ∀ j : Nat, j < pl.length → os.length + j < i → Pr (pl.getD j (0, 0)).1 (pl.getD j (0, 0)).2 = true) ?_ (os.length + pl.length) _ ⟨0, hs, _, rfl, rfl, W0, fun j _ h => by omega⟩
  rintro k st ⟨i, h, Pr, rfl, hk, W, hpr⟩
  unfold law22_InWhole_l3 P.law22_InWhole_l3
  refine .letO ?_
  have ew : IntKind.wrap .i64 (((order.len : Nat) : Int) + ((all.len : Nat) : Int)) = ((os.length + pl.length : Nat) : Int) := by
    rw [holn, haln, w64 (by omega) (by omega)]; omega
  rw [ew]
  refine .condD (fun hlt => ?_) (fun hge => ?_)
  rotate_left
  · -- all came
    refine .retR ⟨h, Pr, rfl, W, fun q hq => ?_⟩
    obtain ⟨j, hj, e⟩ := List.getElem_of_mem hq
    have := hpr j hj (by omega)
    rw [List.getD_eq_getElem?_getD, List.getElem?_eq_getElem hj] at this
    simp only [Option.getD_some, e] at this
    exact this
  have hilt : i < os.length + pl.length := by omega
  have hW := W
  obtain ⟨l, ws, I, C, hkeep⟩ := W.inb
  obtain ⟨esh, Mh, gh⟩ := W.had
  obtain ⟨esd, Md, gd⟩ := W.don
  have wf := W.ex0.wf
  refine PO.join (fun q => ∃ (h2 : H) (Pr2 : Int → Int → Bool), q = ((order, (some ⟨p, 0, some 0⟩, (all, (some ⟨b1, 0, some 0⟩, (some b3, (some b4, (i : Int))))))), h2) ∧ WInv h0 n2 n3 p m b1 b3 b4 zs all pl Pr2 h2 ∧ ∀ j : Nat, j < pl.length → os.length + j < i + 1 → Pr2 (pl.getD j (0, 0)).1 (pl.getD j (0, 0)).2 = true) ?_ ?_
  rotate_left
  · rintro _ ⟨h2, Pr2, rfl, W2, hp2⟩
    refine .retL ⟨k - 1, by omega, i + 1, h2, Pr2, ?_, by omega, W2, hp2⟩
    rw [w64 (n := (i : Int) + 1) (by omega) (by omega)]; rfl
  refine .letO ?_
  -- the place of the piece
  have hx1 : (if IntKind.wrap .i64 ((i : Int) - ((order.len : Nat) : Int)) > 0 then IntKind.wrap .i64 ((i : Int) - ((order.len : Nat) : Int)) else 0) = (((i - os.length : Nat)) : Int) := by
    rw [holn, w64 (n := (i : Int) - (os.length : Nat)) (by omega) (by omega)]; split <;> omega
  rw [hx1]
  refine .ixR W.all_ (by omega) (by omega) fun a _ _ _ e1 _ _ => .op e1 ?_
  rw [Int.toNat_natCast]
  refine PO.newB wf fun h1 x1 B1 z1 w1 => PO.stZ B1 w1 rfl rfl fun h2 B2 u2 z2 w2 => ?_
  have x2 : EX h h2 := u2.ex0 x1 (fun A hA e => by omega)
  -- the piece
  refine PO.join (fun q => ∃ (h3 : H) (a c : Int), q = ((order, (some ⟨p, 0, some 0⟩, (all, (some ⟨b1, 0, some 0⟩, (some b3, (some b4, ((i : Int), some ⟨h.size, 0, some 0⟩))))))), h3) ∧ EX h h3 ∧ h.size < h3.size ∧ Box h3 h.size [.int .i64 a, .int .i64 c] ∧ (a, c) ∈ pl ∧ (os.length ≤ i → (a, c) = pl.getD (i - os.length) (0, 0))) ?_ ?_
  · refine .condD (fun c1 => ?_) (fun c1 => ?_)
    · have hRo : RdI .i64 h2 order os := Rd.ex (W.ex0.trans x2) hro
      refine .ixI (j := (i : Int)) hRo (by omega) (by omega) fun a1 ea1 => .op ea1 (.callE (pick_f _ _ (by omega) (by omega) _) ?_)
      rw [Int.toNat_natCast, haln]
      have hm1 := Int.emod_nonneg (os.getD i 0) (show ((pl.length : Nat) : Int) ≠ 0 by omega)
      have hm3 := Int.emod_lt_of_pos (os.getD i 0) (show (0 : Int) < ((pl.length : Nat) : Int) by omega)
      refine .ixR (W.all_.ex x2) hm1 hm3 fun a2 _ _ _ e2 _ _ => .op e2 ?_
      refine PO.stZ B2 w2 rfl rfl fun h3 B3 u3 z3 w3 => .retL ⟨h3, _, _, rfl, u3.ex0 x2 (fun A hA e => by omega), by omega, B3, ?_, fun h => by omega⟩
      exact getD_mem' (by omega)
    · refine .retL ⟨h2, _, _, rfl, x2, by omega, B2, ?_, fun _ => rfl⟩
      exact getD_mem' (by omega)
  rintro _ ⟨h3, a, c, rfl, x3, hlt3, Bx, hac, hacd⟩
  obtain ⟨ha8, hs1, hc0, hc1⟩ := hmem a c hac
  have hsz := szF_b zs 8 a
  have hcb : 1 ≤ hcnt (szF zs 8 a) ∧ hcnt (szF zs 8 a) ≤ 8 := by unfold hcnt; omega
  have aN : ((a.toNat : Nat) : Int) = a := by omega
  have hat : (szC zs 8)[a.toNat]? = some (.int .i64 (szF zs 8 a)) := by rw [szC_at zs 8 (by omega), aN]
  have w3 := x3.wf
  dsimp only
  refine .ptr (PO.letGrow w3 fun h4 x4 z4 w4 n4 => .ldI (Box.kx x4 Bx) rfl (.ptr (.ldI (Box.kx x4 Bx) rfl (.ptr (PO.ixA ha8.1 ha8.2 ?_)))))
  rw [Nat.mul_one]
  have x04 := x3.trans x4
  refine .ldI (Box.kx x04 W.box) hat (PO.call (Of_f w4 a 9 (szF zs 8 a)) fun q h5 ⟨e, x5⟩ => ?_)
  rw [ofV_sz hs1] at e
  subst e
  dsimp only
  have hn3 := w3.nro
  have hs5 := x5.size
  refine PO.addNew x5.wf (by decide) (x5.nn (by omega) (n4 7 (by omega))) (by omega) (by rw [x5.nro, x4.nro]; omega) fun h6 N6 B6 => .addNil (PO.stZ B6 N6.wf rfl rfl fun h7 B7 u7 z7 w7 => .ptr (.addOld B7.ne (.addNil (PO.letTick w7 fun h9 x9 z9 w9 => ?_))))
  have hz6 := N6.size
  have x06 : EX h h6 := N6.ex0 (x04.trans x5) (by omega)
  have x07 : EX h h7 := u7.ex0 x06 (fun A hA e => by omega)
  have x37 : EX h3 h7 := u7.ex0 (N6.ex0 (x4.trans x5) (by omega)) (fun A hA e => by omega)
  have x09 := x07.trans x9
  have Bx9 := Box.kx (x37.trans x9) Bx
  refine .ldI Bx9 rfl (PO.st1 (Box.kx x9 B7) w9 (by simp [encL]) rfl fun h10 B10 u10 z10 w10 => ?_)
  have B10' : Box h10 (h3.size + 7) (hdL (a, 9, hcnt (szF zs 8 a), c, szF zs 8 a)) := B10
  have x010 : EX h h10 := u10.ex0 x09 (fun A hA e => by omega)
  have x310 : EX h3 h10 := u10.ex0 (x37.trans x9) (fun A hA e => by omega)
  have Bx10 := Box.kx x310 Bx
  refine .ptr (PO.letGrow w10 fun h11 x11 z11 w11 n11 => .ldI (Box.kx x11 Bx10) rfl (.ptr (.addOff (by decide) (.addNil (.ldI (Box.kx x11 Bx10) rfl (.ptr (PO.ixA ha8.1 ha8.2 (.addOff (by decide) (.addNil ?_)))))))))
  rw [Nat.mul_one]
  have x011 := x010.trans x11
  refine .ldI (Box.kx x011 W.box) hat ?_
  have hn10 := w10.nro
  have hsz10 : h.size < h10.size := by have := x310.size; omega
  have eu8 : IntKind.wrap .u8 a = (((UInt8.ofNat a.toNat).toNat : Nat) : Int) := by
    have : (UInt8.ofNat a.toNat).toNat = a.toNat % 256 := by simp
    rw [this]
    have e1 : a.toNat % 256 = a.toNat := Nat.mod_eq_of_lt (by omega)
    rw [e1, aN]
    exact wu8 (by omega) (by omega)
  rw [eu8]
  refine PO.addNew w11 (by decide) (n11 3 (by omega)) (by omega) (by rw [x11.nro]; omega) fun h14 N14 B14 => .addNil ?_
  have hz14 := N14.size
  have B14' : Box h14 (h10.size + 3) (vB [UInt8.ofNat a.toNat]) := B14
  have x014 : EX h h14 := N14.ex0 x011 (by omega)
  have rid : RdB h14 ⟨some ⟨h10.size + 3, 0, some 0⟩, 1, 1⟩ [UInt8.ofNat a.toNat] := B14'.rd N14.wf rfl (capOk_self _ _ (by unfold B63; omega))
  obtain ⟨N, hN⟩ : ∃ N : Nat, szF zs 8 a = (N : Int) := ⟨(szF zs 8 a).toNat, by omega⟩
  have hidt : idText a (szF zs 8 a) = textL [UInt8.ofNat a.toNat] N := by unfold idText; rw [hN]; rfl
  refine PO.call (P := fun (q, h1) => BufB h1 q (textL [UInt8.ofNat a.toNat] N) ∧ EX h14 h1 ∧ Fr h14.size q) (by rw [hN]; exact Text_f N14.wf rid (by simp) N (by omega)) fun tx h15 ⟨bt, x15, ft⟩ => ?_
  rw [← hidt] at bt
  refine .addOld (Box.kx x15 B14).ne (.addNil (PO.letTick x15.wf fun h17 x17 z17 w17 => ?_))
  have x017 := (x014.trans x15).trans x17
  have x1017 : EX h10 h17 := ((N14.ex0 x11 (by omega)).trans x15).trans x17
  have hs17 := x1017.size
  refine PO.letGrow w17 fun h18 x18 z18 w18 n18 => ?_
  have B18 := Box.kx (x1017.trans x18) B10'
  refine .ldZ5 B18 (.ldZ5 B18 ?_)
  have rt18 : RdB h18 tx (idText a (szF zs 8 a)) := RdB.ex (x17.trans x18) (Buf.rd bt)
  have htl : ((idText a (szF zs 8 a)).length : Int) = szF zs 8 a := by rw [idText_len]; omega
  refine PO.call (Part_f w18 (a, 9, hcnt (szF zs 8 a), c, szF zs 8 a) rt18 (by omega)) fun s28 h19 ⟨r28, x19, f28⟩ => ?_
  have hn17 := w17.nro
  have hs19 := x19.size
  refine PO.addNew (vs := [s28].map encSl) x19.wf (by decide) (x19.nn (by omega) (n18 5 (by omega))) (by omega) (by rw [x19.nro, x18.nro]; omega) fun h20 N20 B20 => .addNil ?_
  have hz20 := N20.size
  have hHR : HR (a, 9, hcnt (szF zs 8 a), c, szF zs 8 a) := by
    show 0 ≤ a ∧ a < 40 ∧ (0 : Int) ≤ 9 ∧ (9 : Int) ≤ 4611686018427387903 ∧ 1 ≤ szF zs 8 a ∧ szF zs 8 a ≤ 600 ∧ hcnt (szF zs 8 a) = hcnt (szF zs 8 a) ∧ 0 ≤ c ∧ c < hcnt (szF zs 8 a)
    refine ⟨by omega, by omega, by omega, by omega, by omega, by omega, rfl, by omega, by omega⟩
  have hX : HR (a, 9, hcnt (szF zs 8 a), c, szF zs 8 a) ∧ ((partV (a, 9, hcnt (szF zs 8 a), c, szF zs 8 a) (idText a (szF zs 8 a))).length : Int) = hto (a, 9, hcnt (szF zs 8 a), c, szF zs 8 a) - hfrom (a, 9, hcnt (szF zs 8 a), c, szF zs 8 a) := by
    refine ⟨hHR, ?_⟩
    have hb := hHR.b
    rw [partV_len ⟨hHR, htl⟩]
    omega
  generalize hdt : partV (a, 9, hcnt (szF zs 8 a), c, szF zs 8 a) (idText a (szF zs 8 a)) = dt at r28 hX
  have hdl : dt.length ≤ 80 := by have hb := hHR.b; omega
  have rs20 := Box.rdS (n := 1) B20 N20.wf rfl (by unfold B63; omega)
  have r28' : RdB h20 s28 dt := NW.kr N20 r28
  have c1 : cat [dt] = dt := by simp [cat]
  refine PO.call (Lay_f N20.wf (a, 9, hcnt (szF zs 8 a), c, szF zs 8 a) rs20 (ls := [dt]) ⟨⟨r28', by omega⟩, trivial⟩ (by simp) (by rw [c1]; omega)) fun s29 h21 ⟨r29, x21⟩ => ?_
  rw [c1] at r29
  have B21 := Box.kx x21 B20
  refine .addOld B21.ne (.addNil ?_)
  have hlay := layV_length hX
  have x020 : EX h h20 := N20.ex0 ((x017.trans x18).trans x19) (by have := x017.size; omega)
  have x021 := x020.trans x21
  have x321 : EX h3 h21 := ((N20.ex0 ((x310.trans (x1017.trans x18)).trans x19) (by have := x310.size; omega))).trans x21
  have I21 := I.ex x021
  have hps : ∀ e ∈ ws, e.1 = a → e.2.x = hd0' (a, 9, hcnt (szF zs 8 a), c, szF zs 8 a) ∧ Nrm (-1) 10 e.2.l ∧ (e.2.bl.length : Int) = szF zs 8 a := by
    intro e he hea
    obtain ⟨_, q2, q3, _, q5⟩ := C.some_ e he
    rw [hea] at q2 q5
    refine ⟨q2, q3, ?_⟩
    rw [q5, mskT_len]; exact htl
  refine PO.call (P := fun (q, h23) => ∃ l' ws', InB h23 p m l' ws' ∧ CI (szF zs 8) (prA Pr a c) l' ws' ∧ (∀ A, keep p m ws' A → h0.size ≤ A ∧ (A < n2 ∨ n3 ≤ A)) ∧ UP (keep p m ws) h21 h23 ∧
      (((q.len : Nat) : Int) == 1) = (allP (prA Pr a c a) (hcnt (szF zs 8 a)).toNat && !allP (Pr a) (hcnt (szF zs 8 a)).toNat) ∧ ((allP (prA Pr a c a) (hcnt (szF zs 8 a)).toNat && !allP (Pr a) (hcnt (szF zs 8 a)).toNat) = true → RdE h23 q [(1, a, 3, bsOf (idText a (szF zs 8 a)))]))
    ((Piece_g x021.wf I21 C.nrm (now := 3) r29 (by omega) (readV_layV hX) hHR hX.2 (by simp only; omega) hps).mono ?_) ?_
  · rintro ⟨q, h23⟩ hq
    simp only at hq
    have ndup := I.kn
    by_cases hm : mem l a
    · have hq : if mem l a then _ else _ := hq
      rw [if_pos hm] at hq
      obtain ⟨rfl, x23⟩ := hq
      obtain ⟨e1, e2⟩ := C.same ha8 hs1 ⟨hc0, hc1⟩ hm
      rw [e1, e2]
      exact ⟨l, ws, I21.ex x23, C, hkeep, x23.up, rfl, fun h => by simp at h⟩
    · have hq : if mem l a then _ else _ := hq
      rw [if_neg hm] at hq
      obtain ⟨Wq, q1, q2, q3, q4, q5⟩ := hq
      rw [← hdt] at q2
      obtain ⟨s1, s2, s3⟩ := C.step ndup ha8 ⟨hs1, hsz.2⟩ ⟨hc0, hc1⟩ hm q1 q2
      have hcomp : allP (Pr a) (hcnt (szF zs 8 a)).toNat = false := by
        cases hh : allP (Pr a) (hcnt (szF zs 8 a)).toNat with
        | false => rfl
        | true => exact absurd ((C.done a ha8.1 ha8.2 hs1).2 hh) hm
      rw [hcomp]
      have hs021 := x021.size
      by_cases hg : gapS 0 (hcnt (szF zs 8 a)) Wq.l = []
      · have q5 : if gapS 0 (hcnt (szF zs 8 a)) Wq.l = [] then _ else _ := q5
        rw [if_pos hg] at q5 s3
        obtain ⟨r1, r2⟩ := q5
        have hall := s1.1 hg
        rw [hall]
        have hbl : Wq.bl = idText a (szF zs 8 a) := by
          rw [s2]
          refine mskT_all _ fun j hj => allP_iff.1 hall _ (by omega) ?_
          rw [idText_len] at hj
          unfold hcnt; omega
        rw [hbl] at r1
        refine ⟨_, _, r2, s3, fun A hA => hkeep A ?_, q3, ?_, fun _ => r1⟩
        · rcases hA with h | h | ⟨e, he, h⟩
          · exact .inl h
          · exact .inr (.inl h)
          · exact .inr (.inr ⟨e, mem_dropG he, h⟩)
        · have := RdE.len r1
          rw [this]; rfl
      · have q5 : if gapS 0 (hcnt (szF zs 8 a)) Wq.l = [] then _ else _ := q5
        rw [if_neg hg] at q5 s3
        obtain ⟨rfl, r2⟩ := q5
        have hall : allP (prA Pr a c a) (hcnt (szF zs 8 a)).toNat = false := by
          cases hh : allP (prA Pr a c a) (hcnt (szF zs 8 a)).toNat with
          | false => rfl
          | true => exact absurd (s1.2 hh) hg
        rw [hall]
        refine ⟨_, _, r2, s3, fun A hA => ?_, q3, rfl, fun h => by simp at h⟩
        rcases hA with h | h | ⟨e, he, h⟩
        · exact hkeep A (.inl h)
        · exact hkeep A (.inr (.inl h))
        · rcases mem_putG he with rfl | ⟨he, _⟩ | ⟨he, _⟩
          · rcases q4 A h with h2 | h2
            · exact hkeep A h2
            · have := W.sz3
              have := W.ex0.size
              exact ⟨by omega, .inr (by omega)⟩
          · exact hkeep A (.inr (.inr ⟨e, he, h⟩))
          · exact hkeep A (.inr (.inr ⟨e, he, h⟩))
  rintro ev h23 ⟨l', ws', I23, C23, hk23, u23, hev1, hev2⟩
  have x1721 : EX h17 h21 := (N20.ex0 (x18.trans x19) (by omega)).trans x21
  have x1019 := (x1017.trans x18).trans x19
  have hkl : ∀ A, keep p m ws A → A < h.size := fun A k => keep_lt I k
  have hs23 := u23.size
  have hs21 := x021.size
  have hs20 := x21.size
  have hs3 := W.sz3
  have hs0 := W.ex0.size
  refine .addOff (by decide) (.addNil (.ldZ5 (Box.kx x1019 B10') (.chkV rfl (.ptr (.addOld (Box.ku u23 (fun k => ?_) B21).ne (.addNil (PO.letTick u23.wf fun h26 x26 z26 w26 => ?_)))))))
  · have := hkl _ k; omega
  have x021' := x021
  have hkn : ∀ A, n2 ≤ A → A < n3 → ¬ keep p m ws A := fun A h1 h2 k => by have := hkeep A k; omega
  have x10_21 : EX h10 h21 := x1017.trans x1721
  have Bx26 := Box.kx x26 (Box.ku u23 (fun k => by have := hkl _ k; omega) (Box.kx x10_21 Bx10))
  have Bh26 := Box.kx x26 (Box.ku u23 (fun k => by have := hkl _ k; have := x3.size; omega) (Box.kx x10_21 B10'))
  have Mh26 := ((Mh.ex x021).up u23 (hkn _ hb3.1 hb3.2)).ex x26
  have Md26 := ((Md.ex x021).up u23 (hkn _ hb4.1 hb4.2)).ex x26
  have rt26 : RdB h26 tx (idText a (szF zs 8 a)) := RdB.ex x26 (Rd.up (RdB.ex (x17.trans x1721) (Buf.rd bt)) u23 (fun ad had k => by have := hkl _ k; have := ft ad had; omega))
  have I26 := I23.ex x26
  have ex26 : EX h0 h26 := (u23.ex0 (W.ex0.trans x021) (fun A hA k => by have := (hkeep A k).1; omega)).trans x26
  refine .ldZ2 Bx26 ?_
  obtain ⟨h27, e27, M27, u27, z27⟩ := updZB w26 Mh26 [a, c] rfl true
  refine .op e27 ?_
  have w27 := u27.wf
  have Bx27 := Box.ku u27 (Mh26.neb Bx26) Bx26
  have Bh27 := Box.ku u27 (Mh26.neb Bh26) Bh26
  have Md27 := Md26.up u27 h34.symm
  have rt27 : RdB h27 tx (idText a (szF zs 8 a)) := Rd.upg Mh26 u27 rt26
  have I27 := I26.upg Mh26 u27 (fun e => by have := hk23 m (.inr (.inl rfl)); omega) (by omega)
  have ex27 : EX h0 h27 := u27.ex0 ex26 (fun A hA e => by omega)
  refine PO.join (fun q => q = ((order, (some ⟨p, 0, some 0⟩, (all, (some ⟨b1, 0, some 0⟩, (some b3, (some b4, ((i : Int), (some ⟨h.size, 0, some 0⟩, (tx, (ev, allP (prA Pr a c a) (hcnt (szF zs 8 a)).toNat)))))))))), h27)) ((inw_l4 w27 Bh27 Bx27 M27 (f := prA Pr a c a) (fun k => ?_) (by simp only; omega)).mono ?_) ?_
  · rw [lookG_put_none, gh]
    by_cases hk : k = c
    · subst hk; rw [if_pos rfl, prA_self]
    · rw [if_neg (fun e => hk (by have := congrArg Subtype.val e; simpa using this)), prA_ne Pr (fun e => hk e.2)]
  · rintro _ rfl; exact rfl
  rintro _ rfl
  dsimp only
  have hcmono := allP_mono (f := Pr a) (g := prA Pr a c a) (fun k => prA_mono Pr a c a k) (hcnt (szF zs 8 a)).toNat
  have hgd := gd a hs1
  generalize hcm : allP (Pr a) (hcnt (szF zs 8 a)).toNat = cm at hev1 hev2 hcmono hgd
  generalize hcm2 : allP (prA Pr a c a) (hcnt (szF zs 8 a)).toNat = cm2 at hev1 hev2 hcmono
  refine PO.join (fun q => q = ((order, (some ⟨p, 0, some 0⟩, (all, (some ⟨b1, 0, some 0⟩, (some b3, (some b4, ((i : Int), (some ⟨h.size, 0, some 0⟩, (cm2, false))))))))), h27)) ?_ ?_
  · rw [hev1]
    cases cm2 with
    | false => exact .condF (.condF (.condF (.retL rfl)))
    | true =>
      refine .condT (.ptr (.ldI Bx27 rfl (.op (lookIB Md27 a) ?_)))
      rw [hgd]
      cases cm with
      | true => exact .condF (.condF (.retL rfl))
      | false =>
        have hE : RdE h27 ev [(1, a, 3, bsOf (idText a (szF zs 8 a)))] := Rd.upg Mh26 u27 (Rd.ex x26 (hev2 rfl))
        refine .condF (.condT (PO.ixE4 hE fun ad q1 q2 q3 => .op q1 (.condNE (fun e => absurd rfl e) fun _ => ?_)))
        refine PO.ixE4 hE fun ad q1 q2 q3 => .op q2 (.ptr (.ldI Bx27 rfl (.condNE (fun e => absurd rfl e) fun _ => ?_)))
        refine PO.ixE4 hE fun ad q1 q2 q3 => .op q3 (.callE (strT_ok rt27) (.retL ?_))
        simp only [beq_self_eq_true, Bool.not_true]
  rintro _ rfl
  dsimp only
  refine .condF (PO.join (fun q => ∃ h31 : H, q = ((order, (some ⟨p, 0, some 0⟩, (all, (some ⟨b1, 0, some 0⟩, (some b3, (some b4, (i : Int))))))), h31) ∧ MapG EIB h31 b4 (putG a cm2 esd) ∧ UP (· = b4) h27 h31) ?_ ?_)
  · refine .ptr (.ldI Bx27 rfl (.ptr (.ldI Bx27 rfl (.op (lookIB Md27 a) ?_))))
    rw [hgd]
    cases cm with
    | true =>
      rw [hcmono rfl]
      obtain ⟨h31, e31, M31, u31, z31⟩ := updIB w27 Md27 a true
      exact .condT (.op e31 (.retL ⟨h31, rfl, M31, u31⟩))
    | false =>
      obtain ⟨h31, e31, M31, u31, z31⟩ := updIB w27 Md27 a cm2
      exact .condF (.op e31 (.retL ⟨h31, rfl, M31, u31⟩))
  rintro _ ⟨h31, rfl, M31, u31⟩
  have hs31 := u31.size
  have hs27 := u27.size
  have hs26 := x26.size
  have B1c : Box h27 b1 (szC zs 8) := by
    have q1 := Box.kx x26 (Box.ku u23 (hkn _ hb1.1 hb1.2) (Box.kx x021 W.box))
    exact Box.ku u27 (Mh26.neb q1) q1
  refine .retL ⟨h31, prA Pr a c, rfl, ⟨u31.ex0 ex27 (fun A hA e => by omega), by omega, Box.ku u31 (Md27.neb B1c) B1c, ?_, W.allb, ⟨_, M27.up u31 h34, fun a2 c2 => ?_⟩, ⟨_, M31, fun a2 hz2 => ?_⟩, ⟨l', ws', I27.upg Md27 u31 (fun e => by have := hk23 m (.inr (.inl rfl)); omega) (by omega), C23, hk23⟩⟩, fun j hj1 hj2 => ?_⟩
  · exact Rd.upg Md27 u31 (Rd.upg Mh26 u27 (Rd.ex x26 (Rd.up (W.all_.ex x021) u23 (fun ad had => hkn _ (W.allb ad had).1 (W.allb ad had).2))))
  · rw [lookG_put_none, gh]
    by_cases hk : a2 = a ∧ c2 = c
    · obtain ⟨rfl, rfl⟩ := hk; rw [if_pos rfl, prA_self]
    · rw [if_neg (fun e => hk (by have := congrArg Subtype.val e; simpa using this)), prA_ne Pr hk]
  · rw [lookG_put_none]
    by_cases hk : a2 = a
    · subst hk; rw [if_pos rfl, hcm2]
    · rw [if_neg hk, gd a2 hz2]
      have : prA Pr a c a2 = Pr a2 := funext fun b => prA_ne Pr (fun e => hk e.1)
      rw [this]
  · by_cases hj3 : os.length + j < i
    · exact prA_mono _ _ _ _ _ (hpr j hj1 hj3)
    · have hj4 : j = i - os.length := by omega
      have := hacd (by omega)
      rw [hj4, ← this]
      exact prA_self Pr a c
end Go.Proofs.Ytaebjajbogedkaa.T
-- SEAT c
/- Chapter 22: messages in pieces, whichever order, come whole once (InWhole). -/
set_option linter.unusedVariables false
set_option linter.unusedSimpArgs false
namespace Go.Proofs.Ytaebjajbogedkaa.T
open Go Go.Abs Go.Proofs
theorem Late_none {h : H} {p m : Nat} {l : List Run} (I : InB h p m l []) (hst : h.st = false) : inbox_Box_Late (some ⟨p, 0, some 0⟩) 99 h = some (⟨none, 0, 0⟩, h) := by
  obtain ⟨s, m2, B, r, M2, hm, _⟩ := I.set
  have e1 : ldCell h ⟨p, 1, some 0⟩ = some (.map (some m)) := B.ld (i := 1) rfl
  have e2 : ldCell h ⟨p, 2, some 0⟩ = some (.map (some m2)) := B.ld (i := 2) rfl
  have e3 : h.objs.get m = some (.map []) := I.map.at_
  have e4 : h.objs.get m2 = some (.map []) := M2.at_
  unfold inbox_Box_Late
  have : Go.Proofs.Ytaebjajbogedkaa.Ov.ov36 [.pointer (some ⟨p, 0, some 0⟩), .int .i64 99] h = some (.slice none 0 0, h) := by
    simp only [Go.Proofs.Ytaebjajbogedkaa.Ov.ov36, Go.Proofs.Ytaebjajbogedkaa.Ov.mapE?, e1, e2, e3, e4, hst, Bool.not_false, Bool.and_self, cond_true]
  show slO (Go.Proofs.Ytaebjajbogedkaa.Ov.ov36 [.pointer (some ⟨p, 0, some 0⟩), .int .i64 99] h) = _
  rw [this]; rfl
theorem allP_false : ∀ {n : Nat}, 0 < n → allP (fun _ => false) n = false
  | n + 1, _ => by simp [allP]
theorem InWhole (sizes order : Sl) (h : H) (w : WF h) (hst : h.st = false) (zs : List Int) (hr : RdI .i64 h sizes zs) (hz : zs.length * 8 ≤ 140737488351232) (hzr : ∀ n ∈ zs, -9223372036854775808 ≤ n ∧ n ≤ 9223372036854775807) (os : List Int) (hro : RdI .i64 h order os) (hol : os.length * 8 ≤ 140737488351232) (hor : ∀ n ∈ os, -9223372036854775808 ≤ n ∧ n ≤ 9223372036854775807) :
    ∃ h', law22_InWhole sizes order h = some (true, h') := by
  refine PO.law ?_
  unfold law22_InWhole P.law22_InWhole
  refine PO.call (INew_g w) ?_
  rintro _ h0 ⟨p, m, rfl, I0, x0, g1, g2, g3⟩
  refine PO.join (fun q => ∃ h1, q = ((sizes, (order, (some ⟨p, 0, some 0⟩, false))), h1) ∧ EX h0 h1) ?_ ?_
  · refine PO.call (known22_f x0.wf) ?_
    rintro _ h1 ⟨rfl, x1⟩
    exact .condF (.op (by rfl) (.retL ⟨h1, rfl, x1⟩))
  rintro _ ⟨h1, rfl, x1⟩
  have hpb := I0.blt
  have hs0 := x0.size
  have hs1 := x1.size
  have e0 : szC zs 0 = [.int .i64 0, .int .i64 0, .int .i64 0, .int .i64 0, .int .i64 0, .int .i64 0, .int .i64 0, .int .i64 0] := by
    have : ∀ j : Int, szF zs 0 j = 0 := fun j => by unfold szF; rw [if_neg (by omega)]
    simp [szC, this, List.range_succ]
  refine .condF (PO.newB x1.wf fun h2 x2 B2 z2 w2 => ?_)
  rw [← e0] at B2
  have x02 : EX h h2 := (x0.trans x1).trans x2
  refine PO.join (fun q => ∃ all h3, q = ((order, (some ⟨p, 0, some 0⟩, (all, some ⟨h1.size, 0, some 0⟩))), h3) ∧ BufR h3 all (plK zs (min zs.length 8)) ∧ Fr h2.size all ∧ UP (fun A => h1.size ≤ A) h2 h3 ∧ Box h3 h1.size (szC zs 8)) ((inw_l1 w2 x02 hr hz B2 (by omega) (by omega)).mono ?_) ?_
  · rintro _ ⟨all, h3, rfl, q⟩; exact ⟨all, h3, rfl, q⟩
  rintro _ ⟨all, h3, rfl, ha, fa, u3, B3⟩
  dsimp only
  have hal : all.len = (plK zs (min zs.length 8)).length := RdR.len ha.rd
  refine .condE (fun _ => .ret rfl) fun hne => ?_
  have hpl : plK zs (min zs.length 8) ≠ [] := by
    intro e; rw [e] at hal; exact hne (by simp [hal])
  have hs3 := u3.size
  have w3 := u3.wf
  refine PO.newG (EZB 2) w3 fun h4 x4 M4 z4 => PO.newG EIB x4.wf fun h5 x5 M5 z5 => ?_
  have x35 := x4.trans x5
  have x03 : EX h0 h3 := u3.ex0 (x1.trans x2) (fun A hA e => by omega)
  have r5 : RdR h5 all (plK zs (min zs.length 8)) := RdR.ex x35 ha.rd
  have W0 : WInv h h1.size h5.size p m h1.size h3.size h4.size zs all (plK zs (min zs.length 8)) (fun _ _ => false) h5 := by
    refine ⟨(x0.trans x03).trans x35, Nat.le_refl _, Box.kx x35 B3, r5, fun a ha' => ⟨?_, ?_⟩, ⟨[], M4.ex x5, fun a c => rfl⟩, ⟨[], M5, fun a hz2 => ?_⟩, ⟨[], [], I0.ex (x03.trans x35), ⟨?_, fun i h1' h2' h3' => ?_, (fun e he => nomatch he), (fun e he => nomatch he), fun i _ _ _ _ => .inr fun _ => rfl⟩, fun A hA => ?_⟩⟩
    · have := fa a ha'; omega
    · refine Rd.blt r5 (fun e => hpl ?_) ha'
      cases hq : plK zs (min zs.length 8) with
      | nil => rfl
      | cons a b => rw [hq] at e; simp [runsV] at e
    · rw [allP_false (by unfold hcnt; omega)]; rfl
    · trivial
    · rw [allP_false (by unfold hcnt; omega)]
      constructor
      · intro q; exact absurd q (by simp [mem])
      · intro q; simp at q
    · rcases hA with rfl | rfl | ⟨e, he, _⟩
      · exact ⟨g1, .inl (by omega)⟩
      · exact ⟨g2, .inl (by omega)⟩
      · nomatch he
  refine PO.join (fun q => ∃ h' Pr, q = (some ⟨p, 0, some 0⟩, h') ∧ WInv h h1.size h5.size p m h1.size h3.size h4.size zs all (plK zs (min zs.length 8)) Pr h' ∧ ∀ q ∈ plK zs (min zs.length 8), Pr q.1 q.2 = true)
    ((inw_l3 hro hol hor (by omega) ⟨Nat.le_refl _, by omega⟩ ⟨by omega, by omega⟩ ⟨by omega, by omega⟩ (by omega) (by omega) hpl W0).mono ?_) ?_
  · rintro _ ⟨h', Pr, rfl, q⟩; exact ⟨h', Pr, rfl, q⟩
  rintro _ ⟨h6, Pr, rfl, W, hall⟩
  dsimp only
  obtain ⟨l, ws, I, C, hkeep⟩ := W.inb
  have hws : ws = [] := by
    cases ws with
    | nil => rfl
    | cons e ws =>
      exfalso
      obtain ⟨k1, k2, k3⟩ := C.keys e (.head _)
      have := (C.some_ e (.head _)).1
      have hlt : e.1 < zs.length := by
        by_cases q : e.1 < zs.length
        · exact q
        · unfold szF at k3; rw [if_neg (by omega)] at k3; omega
      rw [allP_iff.2 fun k q1 q2 => hall (e.1, k) (mem_plK.2 ⟨by omega, by omega, by unfold hcnt at *; omega⟩)] at this
      cases this
  subst hws
  refine .callE (Late_none I (W.ex0.st.trans hst)) (.ret ?_)
  rfl
end Go.Proofs.Ytaebjajbogedkaa.T
