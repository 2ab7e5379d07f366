/- Lemmas about the typed texts (joined: SPktS LPkt6 S15). -/
import Derived.Test.YthiccnmplgdheaaG24
import Derived.KernelRfl
import Derived.Test.YthiccnmplgdheaaG5
import Derived.Test.YthiccnmplgdheaaG11
set_option linter.unusedVariables false
set_option linter.unusedSimpArgs false
set_option maxRecDepth 100000
namespace Go.Proofs.Ythiccnmplgdheaa.T
open Go Go.Abs Go.Proofs
theorem hrt6 : pktRead 7 3 (pktB 7 3 2 [kv1]) = (3, .inr ([kv1].map bareV)) := by kernel_rfl
theorem known6s_f {h : H} (w : WF h) : PO (law6_known h) (fun (a, h1) => a = true /\ EX h h1) := by
  unfold law6_known P.law6_known
  refine PO.newB w fun h1 x1 B1 z1 w1 => ?_
  have r1 : RdF h1 ⟨some ⟨h.size, 0, some 0⟩, 1, 1⟩ [(1, 0, 0, 0, 0, 0, false, ⟨none, 0, 0⟩, ⟨none, 0, 0⟩)] [kv1] :=
    ⟨B1.rd w1 rfl (capOk_self _ _ (by unfold B63; omega)), ⟨⟨rfl, rfl, rfl, rfl, rfl, rfl, rfl⟩, rdB_nil _, rdR_nil _⟩, trivial⟩
  have hall : ∀ v ∈ [kv1], FR v := by decide
  have hk7 : U64 7 := ⟨by omega, by omega⟩
  have hnb : nb (3 - 2) = 1 := by decide
  have hlay : layFs [kv1] = [1] := by decide
  have hlen := pktB_length 7 3 2 [kv1]
  rw [hnb, hlay] at hlen
  have hlen' : (pktB 7 3 2 [kv1]).length = 11 := by simp at hlen; omega
  have hpl : pktLay 7 3 2 [kv1] = .inr (pktB 7 3 2 [kv1]) := by
    unfold pktLay
    rw [if_neg (by decide), if_neg (fun hh => hh hall), if_neg (by omega)]
  refine PO.call (PLay_f w1 hk7 r1 (by simp) (szok_of hall)) fun a h2 ⟨x2, ha⟩ => ?_
  rw [hpl] at ha
  obtain ⟨s1, e1⟩ := a
  obtain ⟨rb, he⟩ := ha
  have he' : e1 = 0 := he
  subst he'
  have rb' : RdB h2 s1 (pktB 7 3 2 [kv1]) := rb
  have hrt := hrt6
  refine PO.call (PRead_f x2.wf hk7 (by omega) rb' (by omega)) fun a h3 ⟨x3, hn, hq⟩ => ?_
  rw [hrt] at hn hq
  obtain ⟨n3, s3, e3⟩ := a
  obtain ⟨⟨xs, rf⟩, he3⟩ := hq
  have he3' : e3 = 0 := he3
  subst he3'
  have hn' : n3 = 3 := hn
  subst hn'
  have hl3 : s3.len = 1 := RdF.len rf
  have hs1 : s1.len = 11 := by rw [RdB.len rb', hlen']
  have g0 : (pktB 7 3 2 [kv1]).getD 0 0 = 64 := rfl
  have g1 : (pktB 7 3 2 [kv1]).getD 1 0 = 3 := rfl
  refine .callE (PRoom_f 0 (-1) (by omega) (by omega) _) (.chk' (by decide) (.chk' rfl (.chk' (by rw [hs1]; rfl) ?_)))
  refine PO.ixB (rb'.ex x3) (by omega) (by rw [hlen']; decide) fun a ea => .op ea (.chk' (by rw [show (0 : Int).toNat = 0 from rfl, g0]; rfl) ?_)
  refine PO.ixB (rb'.ex x3) (by omega) (by rw [hlen']; decide) fun a eb => .op eb (.chk' (by rw [show (1 : Int).toNat = 1 from rfl, g1]; rfl) ?_)
  refine .chk' rfl (.chk' rfl (.ret ⟨?_, (x1.trans x2).trans x3⟩))
  rw [hl3]; rfl
set_option maxRecDepth 100000
theorem pFrame_FR {l r : List UInt8} {v : FV} (h : pFrame l = .inr (v, r)) : FR v := by
  unfold pFrame bindP at h
  split at h
  · cases h
  · simp only [bindP] at h
    split at h
    · cases h
    · unfold finF at h
      split at h
      · rename_i hf
        simp only [Sum.inr.injEq, Prod.mk.injEq] at h
        rw [<- h.1]; exact hf
      · cases h
theorem pRead_FR : ∀ (n : Nat) (l : List UInt8) (vs : List FV), pRead n l = .inr vs -> (∀ v ∈ vs, FR v) /\ vs.length <= l.length
  | n, [], vs, h => by
    have : pRead n [] = .inr [] := by cases n <;> rfl
    rw [this] at h; cases h
    exact ⟨by simp, by simp⟩
  | 0, c :: t, vs, h => by cases h
  | n + 1, c :: t, vs, h => by
    have hpr : pRead (n + 1) (c :: t) = match pFrame (c :: t) with
        | .inl e => .inl e
        | .inr (v, r) => match pRead n r with
          | .inl e => .inl e
          | .inr vs => .inr (v :: vs) := rfl
    rw [hpr] at h
    cases hp : pFrame (c :: t) with
    | inl e => rw [hp] at h; cases h
    | inr q =>
      obtain ⟨v, r⟩ := q
      rw [hp] at h
      simp only at h
      cases hq : pRead n r with
      | inl e => rw [hq] at h; cases h
      | inr us =>
        rw [hq] at h
        simp only [Sum.inr.injEq] at h
        subst h
        have ih := pRead_FR n r us hq
        have hlt := pFrame_lt hp
        refine ⟨?_, by simp only [List.length_cons] at hlt ⊢; omega⟩
        intro u hu
        rcases List.mem_cons.1 hu with rfl | hu
        · exact pFrame_FR hp
        · exact ih.1 u hu
theorem pktRead_FR {key next : Int} {l : List UInt8} {vs : List FV} (h : (pktRead key next l).2 = .inr vs) : (∀ v ∈ vs, FR v) /\ vs.length <= l.length := by
  unfold pktRead at h
  split at h
  · cases h
  split at h
  · cases h
  split at h
  · cases h
  split at h
  · cases h
  rename_i body hb
  simp only at h
  split at h
  · cases h
  · cases h
  · rename_i v us hp
    simp only [Sum.inr.injEq] at h
    subst h
    have h1 := pRead_FR _ _ _ hp
    have h2 := openV_length hb
    simp at h2
    exact ⟨h1.1, by omega⟩
theorem rdF_nil (h : H) : RdF h ⟨none, 0, 0⟩ [] [] := ⟨rd_nil 9 h, trivial⟩
theorem pkt_round {key next at' n : Int} {v : UInt8} {x0 x1 x2 x3 z : Sl} {i : Nat} {h : H} {l : List UInt8} (w : WF h) (hk : U64 key) (hat : RNG at') (hnx : RNG next) (hn : 0 <= n /\ n <= 4611686018427387903) (hi : i < 4)
    (hix : ixVT ⟨false, [.sl]⟩ [.slice x0.base x0.len x0.cap, .slice x1.base x1.len x1.cap, .slice x2.base x2.len x2.cap, .slice x3.base x3.len x3.cap] (i : Int) = some z) (hr : RdB h z l) (hl : l.length <= 2 ^ 47) :
    PO (law6_PacketTells_l1 ((key, (next, (at', ((v.toNat : Int), (n, ((x0, (x1, (x2, x3))), (i : Int))))))), h)) (fun r => ∃ h', r = Sum.inl ((key, (next, (at', ((v.toNat : Int), (n, ((x0, (x1, (x2, x3))), ((i + 1 : Nat) : Int))))))), h') /\ EX h h') := by
  unfold law6_PacketTells_l1 P.law6_PacketTells_l1
  refine .condD (fun _ => .op hix ?_) (fun hh => absurd (show (i : Int) < 4 by omega) hh)
  refine PO.call (Few_po w hr hl (n := 400) (by omega)) fun y g1 ⟨y1, b1, f1⟩ => ?_
  have hl8 : (l.take (400 : Int).toNat).length <= 400 := by rw [List.length_take]; exact Nat.min_le_left _ _
  generalize l.take (400 : Int).toNat = yl at b1 hl8
  have hyl := RdB.len b1.rd
  refine PO.join (fun st => ∃ h2 wl, st = ((key, (next, (at', ((v.toNat : Int), (n, (y, ((x0, (x1, (x2, x3))), (i : Int)))))))), h2) /\ EX h h2 /\ RdB h2 y wl /\ wl.length <= 400) ?_ ?_
  · refine PO.join (fun st => ∃ c : Bool, st = ((key, (next, (at', ((v.toNat : Int), (n, (y, ((x0, (x1, (x2, x3))), ((i : Int), c)))))))), g1) /\ (c = true -> 0 < yl.length)) (.condD (fun c => .retL ⟨_, rfl, fun _ => ?_⟩) (fun c => .retL ⟨false, rfl, fun hh => by cases hh⟩)) ?_
    · have c' : ((y.len : Nat) : Int) > 0 := c
      omega
    rintro _ ⟨c, rfl, hc⟩
    refine .cond (fun ct => ?_) (fun _ => .retL ⟨g1, yl, rfl, y1, b1.rd, hl8⟩)
    have hpos := hc ct
    refine .callE (pick_f _ _ (by omega) (by omega) _) ?_
    have q := emod_b (IntKind.wrap .i64 (Int.tdiv at' 3)) (show (0 : Int) < ((y.len : Nat) : Int) by omega)
    generalize IntKind.wrap .i64 (Int.tdiv at' 3) % ((y.len : Nat) : Int) = k at *
    obtain ⟨kn, rfl⟩ : ∃ kn : Nat, k = (kn : Int) := ⟨k.toNat, by omega⟩
    obtain ⟨a, ha, i1, i2⟩ := b1.rd.at (i := (kn : Int)) (by omega) (by omega)
    rw [Int.toNat_natCast] at i1 i2
    refine .op i1 (.op i2 (.letO (.op i1 ?_)))
    rw [xor8]
    obtain ⟨g2, e2, w2, b2, y2⟩ := st1_bufB (v := yl.getD kn 0 ^^^ v) b1 ha (i := kn) (by omega) y1.wf
    exact .op e2 (.retL ⟨g2, _, rfl, y2 _ y1 f1, b2.rd, by rw [List.length_set]; exact hl8⟩)
  rintro _ ⟨h2, wl, rfl, X2, r2, l2⟩
  dsimp only
  refine .callE (pick_f _ _ (by omega) (by omega) _) ?_
  have q := emod_b next (show (0 : Int) < 100 by omega)
  generalize next % 100 = d at *
  rw [w64 (n := n - d) (by omega) (by omega)]
  refine .letO ?_
  have hx : 0 <= (if n - d > 0 then n - d else 0) /\ (if n - d > 0 then n - d else 0) <= 4611686018427387903 := by split <;> omega
  generalize (if n - d > 0 then n - d else 0) = x at *
  refine PO.call (PRead_f X2.wf hk hx r2 (by omega)) fun a h3 ⟨x3', en, hq⟩ => ?_
  refine PO.call (RReadPacket_f x3'.wf hk hx (r2.ex x3') (by omega)) fun a' h4 ⟨x4, en', hq'⟩ => ?_
  obtain ⟨m1, s1, e1⟩ := a
  obtain ⟨m2, s2, e2⟩ := a'
  have hm : m1 = m2 := by
    have a1 : m1 = (pktRead key x wl).1 := en
    have a2 : m2 = (pktRead key x wl).1 := en'
    rw [a1, a2]
  subst hm
  have X4 := (X2.trans x3').trans x4
  refine PO.join (fun st => ∃ h5, st = ((key, (next, (at', ((v.toNat : Int), (n, ((x0, (x1, (x2, x3))), ((i : Int), false))))))), h5) /\ EX h h5) ?_ ?_
  · refine .condNE (fun hh => absurd rfl hh) (fun _ => ?_)
    cases hp : (pktRead key x wl).2 with
    | inl e =>
      rw [hp] at hq hq'
      have q1 : (s1, e1) = (⟨none, 0, 0⟩, e) := hq
      have q2 : (s2, e2) = (⟨none, 0, 0⟩, e) := hq'
      simp only [Prod.mk.injEq] at q1 q2
      obtain ⟨rfl, rfl⟩ := q1
      obtain ⟨rfl, rfl⟩ := q2
      refine .condNE (fun hh => absurd rfl hh) (fun _ => PO.call (RSameFrames_f X4.wf (rdF_nil h4) (rdF_nil h4) (by simp) (by intro v hv; cases hv)) fun a h5 ⟨ea, x5⟩ => .retL ⟨h5, ?_, X4.trans x5⟩)
      subst ea
      rfl
    | inr vs =>
      rw [hp] at hq hq'
      obtain ⟨⟨xs1, rf1⟩, he1⟩ := hq
      obtain ⟨⟨xs2, rf2⟩, he2⟩ := hq'
      have he1' : e1 = 0 := he1
      have he2' : e2 = 0 := he2
      subst he1' he2'
      have hfr := pktRead_FR hp
      refine .condNE (fun hh => absurd rfl hh) (fun _ => PO.call (RSameFrames_f X4.wf (rf1.ex x4) rf2 (by omega) (szok_of hfr.1)) fun a h5 ⟨ea, x5⟩ => .retL ⟨h5, ?_, X4.trans x5⟩)
      subst ea
      have : sameFs vs vs := by
        have hg : ∀ us : List FV, sameFs us us := by
          intro us
          induction us with
          | nil => trivial
          | cons u us ih => exact ⟨⟨rfl, rfl, rfl, rfl, rfl, rfl, rfl, rfl⟩, ih⟩
        exact hg vs
      rw [decide_eq_true this]; rfl
  rintro _ ⟨h5, rfl, X5⟩
  refine .condF (.ret ⟨h5, ?_, X5⟩)
  dsimp only
  rw [w64 (n := (i : Int) + 1) (by omega) (by omega)]
  rfl
theorem bytesQ_rd {h : H} {a : Sl × Int} {key n acked : Int} {vs : List FV} (q : BytesQ h a (pktLay key n acked vs)) : ∃ bl, RdB h a.1 bl /\ bl.length <= 240 := by
  cases hp : pktLay key n acked vs with
  | inl e =>
    rw [hp] at q
    have q' : a = (⟨none, 0, 0⟩, e) := q
    subst q'
    exact ⟨[], rdB_nil _, by simp⟩
  | inr b =>
    rw [hp] at q
    refine ⟨b, q.1, ?_⟩
    unfold pktLay at hp
    split at hp
    · cases hp
    split at hp
    · cases hp
    split at hp
    · cases hp
    · simp only [Sum.inr.injEq] at hp
      subst hp; omega
theorem PacketTells (key num far next : Int) (l raw : Sl) (at' with' : Int) (odd : Bool) (h : H) (w : WF h) (hk : 0 <= key /\ key < 18446744073709551616) (g1 : RNG num) (g2 : RNG far) (g3 : RNG next) (xs : List F9) (us : List RV) (r : RdW h l xs us) (hn : us.length <= 2 ^ 50) (hz : WzOK us) (rl : List UInt8) (hraw : RdB h raw rl) (hrl : rl.length <= 140737488351232) (g4 : RNG at') (g5 : 0 <= with' /\ with' < 256) : ∃ h', law6_PacketTells key num far next l raw at' with' odd h = some (true, h') := by
  refine PO.law ?_
  unfold law6_PacketTells P.law6_PacketTells
  have uk : U64 key := ⟨hk.1, hk.2⟩
  refine .callE (May_f _ _) (.callE (pick_f _ _ (by omega) (by omega) _) ?_)
  have hm := mayV_ok num
  unfold okN at hm
  generalize mayV num = n at *
  have q1 := emod_b far (show (0 : Int) < 131072 by omega)
  have q2 := emod_b far (show (0 : Int) < 1000 by omega)
  rw [w64 (n := n - 1) (by omega) (by omega), w64 (n := n - 1 - far % 131072) (by omega) (by omega)]
  refine .letO ?_
  refine PO.join (fun st => ∃ acked, st = ((key, (next, (l, (raw, (at', (with', (n, acked))))))), h) /\ -2 <= acked /\ acked <= 4611686018427387903) ?_ ?_
  · refine .cond (fun _ => .callE (pick_f _ _ (by omega) (by omega) _) (.retL ⟨_, rfl, ?_⟩)) (fun _ => .retL ⟨_, rfl, ?_⟩)
    · rw [w64 (n := far % 1000 - 2) (by omega) (by omega)]; omega
    · split <;> omega
  rintro _ ⟨acked, rfl, ha1, ha2⟩
  dsimp only
  refine PO.call (HFrames_f w r hn hz (N := 4) (by omega)) fun f h1 ⟨⟨ys, vs, rf, _, hsz0, hvl⟩, x1, _⟩ => ?_
  have hsz : SzOK vs := fun v hv => ⟨by have := (hsz0 v hv).1; omega, by have := (hsz0 v hv).2; omega⟩
  refine PO.call (PLay_f x1.wf (num := n) (acked := acked) uk rf (by omega) hsz) fun a h2 ⟨x2, hq⟩ => ?_
  refine PO.call (RLayPacket_f x2.wf (num := n) (acked := acked) uk (rf.ex x2) (by omega) hsz) fun a' h3 ⟨x3, hq'⟩ => ?_
  obtain ⟨s1, e1⟩ := a
  obtain ⟨s2, e2⟩ := a'
  have X3 := (x1.trans x2).trans x3
  refine PO.join (fun st => st = ((key, (next, (l, (raw, (at', (with', (n, (acked, false)))))))), h3)) ?_ ?_
  · obtain ⟨bl, b1, b2, hee⟩ : ∃ bl, RdB h3 s1 bl /\ RdB h3 s2 bl /\ e1 = e2 := by
      cases hp : pktLay key n acked vs with
      | inl e =>
        rw [hp] at hq hq'
        have q1 : (s1, e1) = (⟨none, 0, 0⟩, e) := hq
        have q2 : (s2, e2) = (⟨none, 0, 0⟩, e) := hq'
        simp only [Prod.mk.injEq] at q1 q2
        obtain ⟨rfl, rfl⟩ := q1
        obtain ⟨rfl, rfl⟩ := q2
        exact ⟨[], rdB_nil _, rdB_nil _, rfl⟩
      | inr b =>
        rw [hp] at hq hq'
        have he1 : e1 = 0 := hq.2
        have he2 : e2 = 0 := hq'.2
        exact ⟨b, RdB.ex x3 hq.1, hq'.1, by rw [he1, he2]⟩
    subst hee
    refine .condNE (fun hh => absurd rfl hh) (fun _ => .callE (strT_ok b1) (.callE (strT_ok b2) ?_))
    rw [bs_eq]
    refine .condND (fun hh => absurd rfl hh) (fun _ => ?_)
    rw [w64 (n := n - 1) (by omega) (by omega)]
    have hac : (if n - 1 < acked then n - 1 else acked) < n /\ n - (if n - 1 < acked then n - 1 else acked) < 9223372036854775808 := by split <;> omega
    generalize (if n - 1 < acked then n - 1 else acked) = ac at *
    refine .letO (.callE (PRoom_f n ac hac.1 hac.2 _) (.letO (.callE (RRoom_f n ac hac.1 hac.2 _) (.retL ?_))))
    simp
  rintro _ rfl
  refine .condF ?_
  refine PO.call (HRight_f X3.wf (r.ex X3) hn hz (N := 2) (by omega)) fun f2 h4 ⟨⟨ys2, vs2, rf2, _, hall2, hlen2⟩, x4, _⟩ => ?_
  refine PO.call (RLayPacket_f x4.wf (num := n) (acked := acked) uk rf2 (by omega) (szok_of hall2)) fun a h5 ⟨x5, hq5⟩ => ?_
  refine PO.call (RLayPacket_f x5.wf (num := n) (acked := acked) uk (rdF_nil h5) (by simp) (by intro v hv; cases hv)) fun a6 h6 ⟨x6, hq6⟩ => ?_
  obtain ⟨bl5, rb5, hb5⟩ := bytesQ_rd hq5
  obtain ⟨bl6, rb6, hb6⟩ := bytesQ_rd hq6
  obtain ⟨s5, e5⟩ := a
  obtain ⟨s6, e6⟩ := a6
  have rb5' : RdB h5 s5 bl5 := rb5
  have rb6' : RdB h6 s6 bl6 := rb6
  clear hq5 hq6 rb5 rb6
  have X6 := ((X3.trans x4).trans x5).trans x6
  have hw : IntKind.wrap .u8 n = ((UInt8.ofNat (n % 256).toNat).toNat : Int) := by
    rw [wu8_mod, UInt8.toNat_ofNat']; omega
  rw [hw]
  generalize UInt8.ofNat (n % 256).toNat = nb8
  refine PO.newB (l := vB [64, nb8]) X6.wf fun h7 x7 B7 z7 w7 => ?_
  have bb : BufB h7 ⟨some ⟨h6.size, 0, some 0⟩, 2, 2⟩ [64, nb8] := Box.buf (sz := 1) (n := 2) B7 w7 rfl (by unfold B63; omega)
  refine PO.call (Few_po w7 (hraw.ex (X6.trans x7)) (by omega) (n := 50) (by omega)) fun y8 h8 ⟨x8, b8, _⟩ => ?_
  have hl8 : (rl.take (50 : Int).toNat).length <= 50 := by rw [List.length_take]; exact Nat.min_le_left _ _
  generalize rl.take (50 : Int).toNat = yl at b8 hl8
  refine PO.call (RClose_po (num := Int.tmod n 256) x8.wf (RdB.ex x8 bb.rd) b8.rd (by simp) (by omega) uk) fun s9 h9 ⟨x9, r9⟩ => ?_
  have hcl := closeV_length key (Int.tmod n 256) [64, nb8] yl
  have X9 := ((X6.trans x7).trans x8).trans x9
  obtain ⟨v, rfl⟩ : ∃ v : UInt8, with' = (v.toNat : Int) := ⟨UInt8.ofNat with'.toNat, by rw [UInt8.toNat_ofNat']; omega⟩
  refine PO.joinD ?_
  refine PO.newB (l := vB [64, nb8]) x9.wf fun h10 x10 B10 z10 w10 => ?_
  have b10 : BufB h10 ⟨some ⟨h9.size, 0, some 0⟩, 2, 2⟩ [64, nb8] := Box.buf (sz := 1) (n := 2) B10 w10 rfl (by unfold B63; omega)
  obtain ⟨s11, h11, e11, k11, x11, b11, _, f11⟩ := appB_ok (e := 5) w10 b10 (r9.ex x10) (by simp; omega)
  have y11 : EX h9 h11 := x11 h9 x10 (fun a ha => by cases ha; exact Nat.le_refl _)
  refine .callE e11 ?_
  have l11 : ([64, nb8] ++ closeV key (Int.tmod n 256) [64, nb8] yl).length <= 100 := by simp; omega
  generalize [64, nb8] ++ closeV key (Int.tmod n 256) [64, nb8] yl = L11 at b11 l11
  have ry : RdB h11 s5 bl5 := ((((rb5'.ex x6).ex x7).ex x8).ex x9).ex y11
  have rr : RdB h11 raw rl := (hraw.ex X9).ex y11
  have re : RdB h11 s6 bl6 := (((rb6'.ex x7).ex x8).ex x9).ex y11
  refine PO.mono (P := fun st => ∃ h', st = Sum.inl ((), h') /\ EX h11 h') ?_ ?_
  · refine PO.loop (fun m st => ∃ (i : Nat) (h' : H), st = ((key, (next, (at', ((v.toNat : Int), (n, ((s5, (raw, (s6, s11))), (i : Int))))))), h') /\ m + i = 4 /\ EX h11 h') ?_ 4 _ ⟨0, h11, rfl, rfl, EX.refl y11.wf⟩
    rintro m st ⟨i, h', rfl, hm', hx⟩
    by_cases hi : i < 4
    · obtain ⟨z, l', hix, hr, hl⟩ : ∃ z l', ixVT ⟨false, [.sl]⟩ [.slice s5.base s5.len s5.cap, .slice raw.base raw.len raw.cap, .slice s6.base s6.len s6.cap, .slice s11.base s11.len s11.cap] (i : Int) = some z /\ RdB h' z l' /\ l'.length <= 2 ^ 47 := by
        rcases (by omega : i = 0 \/ i = 1 \/ i = 2 \/ i = 3) with rfl | rfl | rfl | rfl
        · exact ⟨s5, _, rfl, ry.ex hx, by omega⟩
        · exact ⟨raw, _, rfl, rr.ex hx, by omega⟩
        · exact ⟨s6, _, rfl, re.ex hx, by omega⟩
        · exact ⟨s11, _, rfl, RdB.ex hx b11.rd, by omega⟩
      refine PO.mono (pkt_round hx.wf uk g4 g3 hm hi hix hr hl) ?_
      rintro _ ⟨h'', rfl, x'⟩
      exact ⟨m - 1, by omega, i + 1, h'', rfl, by omega, hx.trans x'⟩
    · have : i = 4 := by omega
      subst this
      unfold P.law6_PacketTells_l1
      exact .condD (fun hh => absurd hh (by omega)) (fun _ => .retR ⟨h', rfl, hx⟩)
  rintro _ ⟨h12, rfl, x12⟩
  show PO _ _
  exact PO.call (known6s_f x12.wf) fun a h13 ⟨ea, _⟩ => .ret ea
end Go.Proofs.Ythiccnmplgdheaa.T
namespace Go.Abs
open Go Go.ChangeShapes Go.WideShapes Go.RowKit
structure RawA where
  k : Int
  id : Int
  off : Int
  a : Int
  b : Int
  bend : Int
  fin : Bool
  data : Part
  spans : Part
def IsInts (W : World) (y : Part) : Prop := IsRow .i64 W y.1 y.2.1 y.2.2.1 y.2.2.2 /\ y.2.1 * 8 <= 140737488351232
def rawCells (y : RawA) : List Value := [.int .i64 y.k, .int .i64 y.id, .int .i64 y.off, .int .i64 y.a, .int .i64 y.b, .int .i64 y.bend, .bool y.fin, .slice y.data.1 y.data.2.1 y.data.2.2.1, .slice y.spans.1 y.spans.2.1 y.spans.2.2.1]
def IsRaw (W : World) (y : RawA) : Prop := IsPart W y.data /\ IsInts W y.spans
def IsRowW (W : World) (a : Option Addr) (len cap : Nat) (ys : List RawA) : Prop :=
  (a = none /\ len = 0 /\ cap = 0 /\ ys = []) \/
  ∃ x, a = some x /\ len <= cap /\ cap <= maxLen /\ ys.length = len /\ ∀ i y, ys[i]? = some y -> W.cells? 0 (x.add (i * 9)) 9 = some (rawCells y) /\ IsRaw W y
theorem one_of_take {cs : List Value} {i : Nat} {v : Value} (h : (cs.drop i).take 1 = [v]) : cs[i]? = some v := by
  have : ((cs.drop i).take 1)[0]? = some v := by rw [h]; rfl
  rwa [List.getElem?_take_of_lt (by omega), List.getElem?_drop, Nat.add_zero] at this
theorem list9 {cs : List Value} {v0 v1 v2 v3 v4 v5 v6 v7 v8 : Value} (hl : cs.length = 9) (h0 : cs[0]? = some v0) (h1 : cs[1]? = some v1) (h2 : cs[2]? = some v2) (h3 : cs[3]? = some v3) (h4 : cs[4]? = some v4) (h5 : cs[5]? = some v5) (h6 : cs[6]? = some v6) (h7 : cs[7]? = some v7) (h8 : cs[8]? = some v8) : cs = [v0, v1, v2, v3, v4, v5, v6, v7, v8] := by
  match cs, hl with
  | [a0, a1, a2, a3, a4, a5, a6, a7, a8], _ => simp at h0 h1 h2 h3 h4 h5 h6 h7 h8; simp_all
theorem isPart_of {H : Type} {enc : TypeId × Value -> H} {P : Program} {W : World} {t e : TypeId} {fuel : Nat} {cs : List Value} {x : DataW H × List MemPlace} {ts : List TypeId} {ds : List (DataW H)} {j : Nat} {k : IntKind} {B : Nat}
    (hsz : (DataW.weightsEach P ts ds).all (· <= reachBytes) = true) (ht : ts[j]? = some t) (hd : ds[j]? = some x.1) (hu : P.underlying t = some (.slice e)) (he : P.underlying e = some (.int k)) (hc : P.cellsOf e = 1) (hB : P.bytesOf e = B)
    (h : DataW.trod enc P W 0 (fun _ => true) true fuel t cs = some x) : ∃ y : Part, cs = [.slice y.1 y.2.1 y.2.2.1] /\ IsRow k W y.1 y.2.1 y.2.2.1 y.2.2.2 /\ y.2.1 * B <= 140737488351232 := by
  rcases open_ints hu he hc h with ⟨hcs, _⟩ | ⟨x', l', c', zs, hcs, _⟩
  · subst hcs
    exact ⟨(none, 0, 0, []), rfl, .inl ⟨rfl, rfl, rfl, rfl⟩, by simp⟩
  · subst hcs
    have hT : DataW.Trod enc P W 0 (fun _ => true) true t (.slice (some x') l' c') x.1 x.2 := ⟨fuel, by simpa [Value.cells] using h⟩
    obtain ⟨zs', hz'⟩ := isRow_of hu he hc hT
    exact ⟨(some x', l', c', zs'), rfl, hz', sized_ints hsz ht hd hu he hc hB hT⟩
abbrev flds (tI tB tD tS : TypeId) : List (TypeId × Nat) := [(tI, 0), (tI, 1), (tI, 2), (tI, 3), (tI, 4), (tI, 5), (tB, 6), (tD, 7), (tS, 8)]
theorem isRowW_of {H : Type} {enc : TypeId × Value -> H} {P : Program} {W : World} {t e tI tB tD tU tS : TypeId} {fs : Array Field} {a : Option Addr} {len cap : Nat} {d : DataW H} {ps : List MemPlace} {ts : List TypeId} {ds : List (DataW H)} {j : Nat}
    (hsz : (DataW.weightsEach P ts ds).all (· <= reachBytes) = true) (ht : ts[j]? = some t) (hd : ds[j]? = some d)
    (hu : P.underlying t = some (.slice e)) (he : P.underlying e = some (.struct fs)) (hF : fs.toList.map (fun f => (f.type, f.offset)) = flds tI tB tD tS)
    (hc : P.cellsOf e = 9) (hB : P.bytesOf e = 104) (hI : P.underlying tI = some (.int .i64)) (cI : P.cellsOf tI = 1) (bI : P.bytesOf tI = 8) (hBo : P.underlying tB = some .bool) (cB : P.cellsOf tB = 1)
    (hD : P.underlying tD = some (.slice tU)) (cD : P.cellsOf tD = 1) (hU : P.underlying tU = some (.int .u8)) (cU : P.cellsOf tU = 1) (bU : P.bytesOf tU = 1) (hS : P.underlying tS = some (.slice tI)) (cS : P.cellsOf tS = 1)
    (h : DataW.Trod enc P W 0 (fun _ => true) true t (.slice a len cap) d ps) : ∃ ys, IsRowW W a len cap ys /\ len * 104 <= 140737488351232 := by
  obtain ⟨fuel, hf⟩ := h
  rcases DataW.trod_slice hu hf with ⟨hcs, _⟩ | ⟨x, l, c, elems, rest, n, rfl, hcs, hx, _, hl, hm, hlen, hel, hsp, _⟩
  · simp [Value.cells] at hcs
    obtain ⟨rfl, rfl, rfl⟩ := hcs
    exact ⟨[], .inl ⟨rfl, rfl, rfl, rfl⟩, by simp⟩
  · simp [Value.cells] at hcs
    obtain ⟨rfl, rfl, rfl⟩ := hcs
    obtain ⟨hx1, _⟩ := Prod.mk.inj hx
    subst hx1
    have z := sized_slice hsz ht hd hu
    rw [hB] at z
    have hz : (reachBytes : Nat) = 140737488351232 := by decide
    simp only [List.length_map] at z
    have fget : ∀ (i : Nat) (p : TypeId × Nat), (flds tI tB tD tS)[i]? = some p -> ∃ f : Field, fs[i]? = some f /\ f.type = p.1 /\ f.offset = p.2 := by
      intro i p hp
      rw [<- hF, List.getElem?_map, Option.map_eq_some_iff] at hp
      obtain ⟨f, h1, rfl⟩ := hp
      exact ⟨f, by simpa using h1, rfl, rfl⟩
    have fsz : fs.size = 9 := by have := congrArg List.length hF; simpa using this
    have each : ∀ i, i < len -> ∃ y : RawA, W.cells? 0 (x.add (i * 9)) 9 = some (rawCells y) /\ IsRaw W y := by
      intro i hi
      have h1 := hel i hi
      obtain ⟨el, hel1⟩ : ∃ el, elems[i]? = some el := ⟨elems[i]'(by omega), List.getElem?_eq_getElem (by omega)⟩
      rw [hel1, hc, Option.bind_eq_some_iff] at h1
      obtain ⟨cs', h2, h3⟩ := h1
      have hw : (DataW.weightsEach P [e] [el.1]).all (· <= reachBytes) = true := by
        rw [List.all_eq_true]
        intro m hm'
        refine List.all_eq_true.1 hsz m (DataW.weights_mem_each ht hd m ?_)
        simp only [DataW.weights, hu, List.mem_cons, List.mem_append]
        refine .inr (.inl (weights_all (d := el.1) (List.mem_map.2 ⟨el, List.mem_of_getElem? hel1, rfl⟩) m ?_))
        simpa [DataW.weightsEach] using hm'
      obtain ⟨xs, n', rfl, rfl, hl9, hxl, hxf⟩ := DataW.trod_struct he h3
      rw [hc] at hl9
      rw [fsz] at hxl
      have hw' : (DataW.weightsEach P (fs.toList.map (·.type)) (xs.map (·.1))).all (· <= reachBytes) = true := by
        simpa [DataW.weightsEach, DataW.weights, he] using hw
      have fld : ∀ (i : Nat) (p : TypeId × Nat), (flds tI tB tD tS)[i]? = some p -> ∃ y, xs[i]? = some y /\ DataW.trod enc P W 0 (fun _ => true) true n' p.1 ((cs'.drop p.2).take (P.cellsOf p.1)) = some y := by
        intro i p hp
        obtain ⟨f, h1, h2, h3⟩ := fget i p hp
        have hi9 : i < 9 := (List.getElem?_eq_some_iff.1 hp).1
        have := hxf i f h1
        rw [h2, h3] at this
        exact ⟨xs[i]'(by omega), List.getElem?_eq_getElem (by omega), by rw [this]; exact List.getElem?_eq_getElem (by omega)⟩
      have int : ∀ (i : Nat), (flds tI tB tD tS)[i]? = some (tI, i) -> ∃ m : Int, cs'[i]? = some (.int .i64 m) := by
        intro i hp
        obtain ⟨y, _, hy⟩ := fld i _ hp
        rw [cI] at hy
        obtain ⟨m, hm, _⟩ := DataW.trod_int hI hy
        exact ⟨m, one_of_take hm⟩
      obtain ⟨m0, c0⟩ := int 0 rfl
      obtain ⟨m1, c1⟩ := int 1 rfl
      obtain ⟨m2, c2⟩ := int 2 rfl
      obtain ⟨m3, c3⟩ := int 3 rfl
      obtain ⟨m4, c4⟩ := int 4 rfl
      obtain ⟨m5, c5⟩ := int 5 rfl
      obtain ⟨y6, _, hy6⟩ := fld 6 (tB, 6) rfl
      rw [cB] at hy6
      obtain ⟨b6, hb6, _⟩ := DataW.trod_bool hBo hy6
      have c6 := one_of_take hb6
      have tsj : ∀ (i : Nat) (p : TypeId × Nat), (flds tI tB tD tS)[i]? = some p -> (fs.toList.map (·.type))[i]? = some p.1 := by
        intro i p hp
        obtain ⟨f, h1, h2, _⟩ := fget i p hp
        rw [List.getElem?_map, Option.map_eq_some_iff]
        exact ⟨f, by simpa using h1, h2⟩
      obtain ⟨y7, hx7, hy7⟩ := fld 7 (tD, 7) rfl
      rw [cD] at hy7
      obtain ⟨p7, hp7, hr7, hs7⟩ := isPart_of (j := 7) hw' (tsj 7 (tD, 7) rfl) (by rw [List.getElem?_map, hx7]; rfl) hD hU cU bU hy7
      obtain ⟨y8, hx8, hy8⟩ := fld 8 (tS, 8) rfl
      rw [cS] at hy8
      obtain ⟨p8, hp8, hr8, hs8⟩ := isPart_of (j := 8) hw' (tsj 8 (tS, 8) rfl) (by rw [List.getElem?_map, hx8]; rfl) hS hI cI bI hy8
      refine ⟨⟨m0, m1, m2, m3, m4, m5, b6, p7, p8⟩, ?_, ⟨hr7, by simpa using hs7⟩, hr8, hs8⟩
      rw [h2]
      exact congrArg some (list9 hl9 c0 c1 c2 c3 c4 c5 c6 (one_of_take hp7) (one_of_take hp8))
    have hf : ∃ f : Nat -> RawA, ∀ i, i < len -> W.cells? 0 (x.add (i * 9)) 9 = some (rawCells (f i)) /\ IsRaw W (f i) :=
      ⟨fun i => if hi : i < len then Classical.choose (each i hi) else ⟨0, 0, 0, 0, 0, 0, false, (none, 0, 0, []), (none, 0, 0, [])⟩, fun i hi => by
        simp only [dif_pos hi]; exact Classical.choose_spec (each i hi)⟩
    obtain ⟨f, hf⟩ := hf
    refine ⟨(List.range len).map f, .inr ⟨x, rfl, hl, hm, by simp, fun i y hy => ?_⟩, by omega⟩
    rw [List.getElem?_map, Option.map_eq_some_iff] at hy
    obtain ⟨k, hk, rfl⟩ := hy
    obtain ⟨hk1, hk2⟩ := List.getElem?_eq_some_iff.1 hk
    rw [List.getElem_range] at hk2
    subst hk2
    exact hf i (by simpa using hk1)
end Go.Abs
