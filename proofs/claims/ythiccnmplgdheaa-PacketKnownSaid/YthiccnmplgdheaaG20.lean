/- Lemmas about the typed texts (joined: LPktK). -/
import Derived.Test.YthiccnmplgdheaaTxt
import Derived.Test.YthiccnmplgdheaaG19
/- The closed sentence PacketKnown over typed texts: chapter 6's example, sizes, each refusal. -/
set_option linter.unusedVariables false
set_option linter.unusedSimpArgs false
set_option maxRecDepth 1000000
namespace Go.Proofs.Ythiccnmplgdheaa.T
open Go Go.Abs Go.Proofs
theorem mkT_ok8 {h : H} {n : Nat} (hn : n ≤ 2 ^ 40) : Abs.mkT 5 1 1 (.int .u8 0) h (n : Int) (n : Int) = some (⟨some ⟨h.size, 0, some 0⟩, n, n⟩, newAt (grow h 1) h.size (row 5 (vB (List.replicate n 0)))) := by
  have he : Abs.elemOf (DSE 5 (tyS 1 1 (.int .u8 0))) (5 + 1) = some (5, tyS 1 1 (.int .u8 0)) := by
    unfold Abs.elemOf
    rw [DSE_s 5 _]
    simp only [DSE_e]; rfl
  have hb : (decide ((0 : Int) ≤ (n : Int)) && decide ((n : Int) ≤ (n : Int)) && decide ((n : Int) * (((tyS 1 1 (.int .u8 0)).bytes : Nat) + 1 : Int) ≤ 2 ^ 46)) = true := by
    rw [show (((tyS 1 1 (.int .u8 0)).bytes : Nat) : Int) = 1 from rfl]
    simp; omega
  have hm : mkSl (DSE 5 (tyS 1 1 (.int .u8 0))) (5 + 1) (.int .i64 (n : Int)) (.int .i64 (n : Int)) = some (.new (row 5 (zeros (.int .u8 0) (n : Int).toNat)) fun A => .slice (some ⟨A, 0, some 0⟩) (n : Int).toNat (n : Int).toNat) := by
    unfold mkSl
    rw [he]
    show (bif _ then _ else _) = _
    rw [hb]; rfl
  unfold Abs.mkT
  rw [hm, zeros8, Int.toNat_natCast]
  rfl
def kvL : FV := ⟨9, 0, 0, 0, 0, 0, false, List.replicate 112 0, []⟩
def kvZ : FV := ⟨0, 0, 0, 0, 0, 0, false, [], []⟩
theorem rf1 {h : H} {b : Nat} {x : F9} {v : FV} (w : WF h) (B : Box h b (f9L x)) (f : FRd h x v) : RdF h ⟨some ⟨b, 0, some 0⟩, 1, 1⟩ [x] [v] := ⟨B.rd w rfl (capOk_self _ _ (by unfold B63; omega)), f, trivial⟩
theorem frd_z {h : H} (k : Int) : FRd h (k, 0, 0, 0, 0, 0, false, ⟨none, 0, 0⟩, ⟨none, 0, 0⟩) ⟨k, 0, 0, 0, 0, 0, false, [], []⟩ := ⟨⟨rfl, rfl, rfl, rfl, rfl, rfl, rfl⟩, rdB_nil _, rdR_nil _⟩
theorem PacketKnown (h : H) (w : WF h) : ∃ h', law6_PacketKnown h = some (true, h') := by
  refine PO.law ?_
  unfold law6_PacketKnown P.law6_PacketKnown
  have uk : U64 7 := ⟨by omega, by omega⟩
  have uk8 : U64 8 := ⟨by omega, by omega⟩
  have hsz1 : SzOK [kv1] := szok_of (by decide)
  have hszZ : SzOK [kvZ] := fun v hv => by simp at hv; subst hv; exact ⟨by decide, by decide⟩
  have hallL : ∀ v ∈ [kvL, kvL], FR v := by
    have : FR kvL := by decide
    intro v hv; simp at hv; subst hv; exact this
  have hallM : ∀ v ∈ [kvL, kvL, kv1], FR v := by
    have h1 : FR kvL := by decide
    have h2 : FR kv1 := by decide
    intro v hv; simp at hv; rcases hv with rfl | rfl
    · exact h1
    · exact h2
  have hszL := szok_of hallL
  have hszM := szok_of hallM
  refine PO.newB w fun g0 x0 B0 z0 w0 => PO.stZ (zs := [.int .i64, .int .i64, .int .i64, .int .i64, .int .i64, .int .i64, .bool, .sl, .sl]) (x := (1, 0, 0, 0, 0, 0, false, ⟨none, 0, 0⟩, ⟨none, 0, 0⟩)) B0 w0 rfl rfl fun g1 B1 u1 z1 w1 => ?_
  have B1' : Box g1 h.size (f9L (1, 0, 0, 0, 0, 0, false, ⟨none, 0, 0⟩, ⟨none, 0, 0⟩)) := B1
  -- the first refusals
  refine PO.ldF B1' (PO.newB w1 fun g2 x2 B2 z2 w2 => PO.call (PLay_f w2 (num := 3) (acked := 3) uk (rf1 w2 B2 (frd_z 1)) (by decide) hsz1) fun a g3 ⟨x3, ha⟩ => ?_)
  rw [show pktLay 7 3 3 [⟨1, 0, 0, 0, 0, 0, false, [], []⟩] = .inl 1 by unfold pktLay; rw [if_pos (by decide)]] at ha
  obtain ⟨rfl⟩ : a = (⟨none, 0, 0⟩, 1) := ha
  have C3 := Box.kx x3 (Box.kx x2 B1')
  refine PO.ldF C3 (PO.newB x3.wf fun g4 x4 B4 z4 w4 => PO.call (PLay_f w4 (num := -1) (acked := -1) uk (rf1 w4 B4 (frd_z 1)) (by decide) hsz1) fun a g5 ⟨x5, ha⟩ => ?_)
  rw [show pktLay 7 (-1) (-1) [⟨1, 0, 0, 0, 0, 0, false, [], []⟩] = .inl 1 by unfold pktLay; rw [if_pos (by decide)]] at ha
  obtain ⟨rfl⟩ : a = (⟨none, 0, 0⟩, 1) := ha
  have C5 := Box.kx x5 (Box.kx x4 C3)
  refine PO.ldF C5 (PO.newB x5.wf fun g6 x6 B6 z6 w6 => PO.call (PLay_f w6 (num := 3) (acked := -2) uk (rf1 w6 B6 (frd_z 1)) (by decide) hsz1) fun a g7 ⟨x7, ha⟩ => ?_)
  rw [show pktLay 7 3 (-2) [⟨1, 0, 0, 0, 0, 0, false, [], []⟩] = .inl 1 by unfold pktLay; rw [if_pos (by decide)]] at ha
  obtain ⟨rfl⟩ : a = (⟨none, 0, 0⟩, 1) := ha
  have C7 := Box.kx x7 (Box.kx x6 C5)
  refine PO.newB x7.wf fun g8 x8 B8 z8 w8 => PO.call (PLay_f w8 (num := 3) (acked := 0) uk (rf1 w8 B8 (frd_z 0)) (by decide) hszZ) fun a g9 ⟨x9, ha⟩ => ?_
  rw [show pktLay 7 3 0 [⟨0, 0, 0, 0, 0, 0, false, [], []⟩] = .inl 1 by unfold pktLay; rw [if_neg (by decide), if_pos (by decide)]] at ha
  obtain ⟨rfl⟩ : a = (⟨none, 0, 0⟩, 1) := ha
  have C9 := Box.kx x9 (Box.kx x8 C7)
  -- long ones
  refine .callE (mkT_ok8 (n := 112) (by omega)) ?_
  have x10 := wf_new x9.wf 5 (vB (List.replicate 112 0))
  have r10 : RdB (newAt (grow g9 1) g9.size (row 5 (vB (List.replicate 112 0)))) ⟨some ⟨g9.size, 0, some 0⟩, 112, 112⟩ (List.replicate 112 0) := (bufB_new x9.wf 5 (List.replicate 112 0) (by unfold B63; simp)).rd
  generalize newAt (grow g9 1) g9.size (row 5 (vB (List.replicate 112 0))) = g10 at x10 r10 ⊢
  have C10 := Box.kx x10 C9
  generalize hS : (⟨some ⟨g9.size, 0, some 0⟩, 112, 112⟩ : Sl) = S at r10 ⊢
  refine PO.newB x10.wf fun g11 x11 B11 z11 w11 => PO.stZ (zs := [.int .i64, .int .i64, .int .i64, .int .i64, .int .i64, .int .i64, .bool, .sl, .sl]) (x := (9, 0, 0, 0, 0, 0, false, S, ⟨none, 0, 0⟩)) B11 w11 rfl rfl fun g12 B12 u12 z12 w12 => ?_
  have B12' : Box g12 g10.size (f9L (9, 0, 0, 0, 0, 0, false, S, ⟨none, 0, 0⟩)) := B12
  have x12 : EX g10 g12 := u12.ex0 x11 (fun A hA e => by omega)
  have C12 := Box.kx x12 C10
  have r12 := r10.ex x12
  have fL : ∀ {g : H}, RdB g S (List.replicate 112 0) → FRd g (9, 0, 0, 0, 0, 0, false, S, ⟨none, 0, 0⟩) kvL := fun r => ⟨⟨rfl, rfl, rfl, rfl, rfl, rfl, rfl⟩, r, rdR_nil _⟩
  refine PO.ldF B12' (PO.ldF B12' (PO.newB (l := fsV [(9, 0, 0, 0, 0, 0, false, S, ⟨none, 0, 0⟩), (9, 0, 0, 0, 0, 0, false, S, ⟨none, 0, 0⟩)]) w12 fun g13 x13 B13 z13 w13 => ?_))
  have r13 : RdF g13 ⟨some ⟨g12.size, 0, some 0⟩, 2, 2⟩ [(9, 0, 0, 0, 0, 0, false, S, ⟨none, 0, 0⟩), (9, 0, 0, 0, 0, 0, false, S, ⟨none, 0, 0⟩)] [kvL, kvL] := ⟨B13.rd w13 rfl (capOk_self _ _ (by unfold B63; omega)), fL (r12.ex x13), fL (r12.ex x13), trivial⟩
  have len2 : (pktB 7 0 (-1) [kvL, kvL]).length = 240 := by
    have := pktB_length 7 0 (-1) [kvL, kvL]
    have h1 : nb (0 - -1) = 1 := by decide
    have h2 : (layFs [kvL, kvL]).length = 230 := by decide
    rw [h1, h2] at this; omega
  have lay2 : pktLay 7 0 (-1) [kvL, kvL] = .inr (pktB 7 0 (-1) [kvL, kvL]) := by
    unfold pktLay; rw [if_neg (by decide), if_neg (fun hh => hh hallL), if_neg (by omega)]
  refine PO.call (PLay_f w13 (num := 0) (acked := -1) uk r13 (by decide) hszL) fun a g14 ⟨x14, ha⟩ => ?_
  rw [lay2] at ha
  obtain ⟨e, eE⟩ := a
  obtain ⟨re, he⟩ := ha
  have he' : eE = 0 := he
  subst he'
  have re' : RdB g14 e (pktB 7 0 (-1) [kvL, kvL]) := re
  have B14 := Box.kx x14 (Box.kx x13 B12')
  have C14 := Box.kx x14 (Box.kx x13 C12)
  have r14 := (r12.ex x13).ex x14
  refine PO.ldF B14 (PO.ldF B14 (PO.ldF C14 (PO.newB (l := fsV [(9, 0, 0, 0, 0, 0, false, S, ⟨none, 0, 0⟩), (9, 0, 0, 0, 0, 0, false, S, ⟨none, 0, 0⟩), (1, 0, 0, 0, 0, 0, false, ⟨none, 0, 0⟩, ⟨none, 0, 0⟩)]) x14.wf fun g15 x15 B15 z15 w15 => ?_)))
  have r15 : RdF g15 ⟨some ⟨g14.size, 0, some 0⟩, 3, 3⟩ [(9, 0, 0, 0, 0, 0, false, S, ⟨none, 0, 0⟩), (9, 0, 0, 0, 0, 0, false, S, ⟨none, 0, 0⟩), (1, 0, 0, 0, 0, 0, false, ⟨none, 0, 0⟩, ⟨none, 0, 0⟩)] [kvL, kvL, kv1] := ⟨B15.rd w15 rfl (capOk_self _ _ (by unfold B63; omega)), fL (r14.ex x15), fL (r14.ex x15), frd_z 1, trivial⟩
  have lay3 : pktLay 7 0 (-1) [kvL, kvL, kv1] = .inl 9 := by
    have := pktB_length 7 0 (-1) [kvL, kvL, kv1]
    have h1 : nb (0 - -1) = 1 := by decide
    have h2 : (layFs [kvL, kvL, kv1]).length = 231 := by decide
    rw [h1, h2] at this
    unfold pktLay; rw [if_neg (by decide), if_neg (fun hh => hh hallM), if_pos (by omega)]
  refine PO.call (PLay_f w15 (num := 0) (acked := -1) uk r15 (by decide) hszM) fun a g16 ⟨x16, ha⟩ => ?_
  rw [lay3] at ha
  obtain ⟨rfl⟩ : a = (⟨none, 0, 0⟩, 9) := ha
  -- reading what is none
  refine PO.newB (l := vB [68, 1, 2, 3, 4, 5, 6, 7, 8, 9, 10]) x16.wf fun g17 x17 B17 z17 w17 => PO.call (PRead_f w17 uk (next := 0) (by omega) (Box.rdB (n := 11) B17 w17 rfl (by unfold B63; omega)) (by decide)) fun a g18 ⟨x18, hn, hq⟩ => ?_
  rw [show pktRead 7 0 [68, 1, 2, 3, 4, 5, 6, 7, 8, 9, 10] = (0, .inl 2) by unfold pktRead; rw [if_neg (by decide), if_pos (by decide)]] at hn hq
  obtain ⟨n18, s18, e18⟩ := a
  have hq' : (s18, e18) = (⟨none, 0, 0⟩, 2) := hq
  simp only [Prod.mk.injEq] at hq'
  obtain ⟨rfl, rfl⟩ := hq'
  refine PO.newB (l := vB [64, 1, 2, 3, 4, 5, 6, 7, 8]) x18.wf fun g19 x19 B19 z19 w19 => PO.call (PRead_f w19 uk (next := 0) (by omega) (Box.rdB (n := 9) B19 w19 rfl (by unfold B63; omega)) (by decide)) fun a g20 ⟨x20, hn, hq⟩ => ?_
  rw [show pktRead 7 0 [64, 1, 2, 3, 4, 5, 6, 7, 8] = (0, .inl 3) by unfold pktRead; rw [if_neg (by decide), if_neg (by decide), if_pos (by decide)]] at hn hq
  obtain ⟨n20, s20, e20⟩ := a
  have hq' : (s20, e20) = (⟨none, 0, 0⟩, 3) := hq
  simp only [Prod.mk.injEq] at hq'
  obtain ⟨rfl, rfl⟩ := hq'
  refine PO.newB (l := vB [64, 1, 2, 3, 4, 5, 6, 7, 8, 9]) x20.wf fun g21 x21 B21 z21 w21 => PO.call (PRead_f w21 uk (next := 0) (by omega) (Box.rdB (n := 10) B21 w21 rfl (by unfold B63; omega)) (by decide)) fun a g22 ⟨x22, hn, hq⟩ => ?_
  have rd4 : pktRead 7 0 [64, 1, 2, 3, 4, 5, 6, 7, 8, 9] = (0, .inl 4) := by
    have ho : openV 7 1 [64, 1] [2, 3, 4, 5, 6, 7, 8, 9] = none := by decide +kernel
    unfold pktRead
    rw [if_neg (by decide), if_neg (by decide), if_neg (by decide)]
    have hb : bk (cutV (([64, 1, 2, 3, 4, 5, 6, 7, 8, 9].drop 1).take (([64, 1, 2, 3, 4, 5, 6, 7, 8, 9].getD 0 0 : UInt8).toNat - 63))) (sp (((([64, 1, 2, 3, 4, 5, 6, 7, 8, 9].getD 0 0 : UInt8).toNat : Nat) : Int) - 63)) 0 = 1 := by decide
    rw [hb]
    have ho' : openV 7 1 (([64, 1, 2, 3, 4, 5, 6, 7, 8, 9] : List UInt8).take (1 + ((([64, 1, 2, 3, 4, 5, 6, 7, 8, 9] : List UInt8).getD 0 0).toNat - 63))) (([64, 1, 2, 3, 4, 5, 6, 7, 8, 9] : List UInt8).drop (1 + ((([64, 1, 2, 3, 4, 5, 6, 7, 8, 9] : List UInt8).getD 0 0).toNat - 63))) = none := ho
    rw [ho']
  rw [rd4] at hn hq
  obtain ⟨n22, s22, e22⟩ := a
  have hq' : (s22, e22) = (⟨none, 0, 0⟩, 4) := hq
  simp only [Prod.mk.injEq] at hq'
  obtain ⟨rfl, rfl⟩ := hq'
  refine PO.call (PRead_f x22.wf uk (next := 0) (by omega) (rdB_nil g22) (by decide)) fun a g23 ⟨x23, hn, hq⟩ => ?_
  rw [show pktRead 7 0 [] = (0, .inl 3) by unfold pktRead; rw [if_pos (by decide)]] at hn hq
  obtain ⟨n23, s23, e23⟩ := a
  have hq' : (s23, e23) = (⟨none, 0, 0⟩, 3) := hq
  simp only [Prod.mk.injEq] at hq'
  obtain ⟨rfl, rfl⟩ := hq'
  have X14 : EX g14 g23 := (((((((x15.trans x16).trans x17).trans x18).trans x19).trans x20).trans x21).trans x22).trans x23
  have hsp : sp (nb (0 - -1)) = 256 := by decide
  refine PO.call (PRead_f x23.wf uk8 (next := 0) (by omega) (re'.ex X14) (by rw [len2]; decide)) fun a g24 ⟨x24, hn, hq⟩ => ?_
  rw [pkt_other uk uk8 (by decide) (by omega) (by omega) (by rw [hsp]; omega) (by rw [hsp]; omega)] at hn hq
  obtain ⟨n24, s24, e24⟩ := a
  have hq' : (s24, e24) = (⟨none, 0, 0⟩, 4) := hq
  simp only [Prod.mk.injEq] at hq'
  obtain ⟨rfl, rfl⟩ := hq'
  -- the empty one
  have lenE : (pktB 7 5 0 []).length = 10 := by
    have := pktB_length 7 5 0 []
    have h1 : nb (5 - 0) = 1 := by decide
    rw [h1] at this; simp [layFs] at this; omega
  have layE : pktLay 7 5 0 [] = .inr (pktB 7 5 0 []) := by
    unfold pktLay; rw [if_neg (by decide), if_neg (by simp), if_neg (by omega)]
  refine PO.call (PLay_f x24.wf (num := 5) (acked := 0) uk (⟨rd_nil 9 _, trivial⟩ : RdF g24 ⟨none, 0, 0⟩ [] []) (by decide) (fun v hv => by simp at hv)) fun a g25 ⟨x25, ha⟩ => ?_
  rw [layE] at ha
  obtain ⟨s25, e25⟩ := a
  obtain ⟨r25, he⟩ := ha
  have he' : e25 = 0 := he
  subst he'
  have hsp5 : sp (nb (5 - 0)) = 256 := by decide
  have rtE := pkt_rt (key := 7) (num := 5) (acked := 0) (next := 5) (vs := []) (by simp) (by omega) (by omega) (by rw [hsp5]; omega) (by rw [hsp5]; omega)
  refine PO.call (PRead_f x25.wf uk (next := 5) (by omega) r25 (by rw [lenE]; decide)) fun a g26 ⟨x26, hn, hq⟩ => ?_
  rw [rtE, if_pos rfl] at hn hq
  obtain ⟨n26, s26, e26⟩ := a
  have hq' : (s26, e26) = (⟨none, 0, 0⟩, 11) := hq
  simp only [Prod.mk.injEq] at hq'
  obtain ⟨rfl, rfl⟩ := hq'
  have hn' : n26 = 5 := hn
  subst hn'
  refine PO.call (known6_f x26.wf) fun a g27 ⟨ea, x27⟩ => ?_
  subst ea
  have hle : e.len = 240 := by rw [RdB.len re', len2]
  refine .chk' rfl (.chk' rfl (.chk' rfl (.chk' rfl (.chk' rfl (.chk' rfl (.chk' (by rw [hle]; rfl) (.chk' rfl (.chk' rfl (.chk' rfl (.chk' rfl (.chk' rfl (.chk' rfl (.chk' rfl (.chk' rfl (.chk' rfl (.chk' rfl ?_))))))))))))))))
  refine .callE (PRoom_f 1099511627776 0 (by omega) (by omega) _) (.ret ?_)
  show (231 - nb (1099511627776 - 0) == 227) = true
  decide
end Go.Proofs.Ythiccnmplgdheaa.T
