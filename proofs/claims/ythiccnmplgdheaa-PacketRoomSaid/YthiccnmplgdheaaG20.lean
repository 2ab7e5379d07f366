/- Lemmas about the typed texts (joined: SPkt2 LPkt1 S15). -/
import Derived.Test.YthiccnmplgdheaaG19
import Derived.Test.YthiccnmplgdheaaG11
import Derived.Test.YthiccnmplgdheaaG10
/- Packets over the typed texts: the reference's same frames; what is laid is read; chapter 6's example. -/
set_option linter.unusedVariables false
set_option linter.unusedSimpArgs false
set_option maxRecDepth 100000
namespace Go.Proofs.Ythiccnmplgdheaa.T
open Go Go.Abs Go.Proofs
/-! what is laid is read -/
theorem foldl_be : ∀ (m x : Nat) (c : Int), (be m x).foldl (fun c b => c * 256 + (b.toNat : Int)) c = c * 256 ^ m + ((x % 256 ^ m : Nat) : Int)
  | 0, x, c => by simp [be, Nat.mod_one]
  | m + 1, x, c => by
    simp only [be, List.foldl_cons]
    rw [foldl_be m x]
    have h1 : x % 256 ^ (m + 1) = (x / 256 ^ m % 256) * 256 ^ m + x % 256 ^ m := by
      rw [Nat.pow_succ, Nat.mod_mul, Nat.add_comm, Nat.mul_comm]
    rw [h1, UInt8.toNat_ofNat', Int.pow_succ]
    simp only [Int.natCast_add, Int.natCast_mul, Int.natCast_pow]
    rw [Int.add_mul, Int.mul_assoc, Int.mul_comm 256 (256 ^ m)]
    have : ((2 ^ 8 : Nat)) = 256 := rfl
    rw [this]
    have e2 : ((256 : Nat) : Int) = 256 := rfl
    rw [e2]; omega
theorem cutV_be (m x : Nat) (h : x < 256 ^ m) : cutV (be m x) = (x : Int) := by
  unfold cutV; rw [foldl_be, Nat.mod_eq_of_lt h]; simp
theorem sp_pow (k : Nat) (h1 : 1 ≤ k) (h2 : k ≤ 4) : sp (k : Int) = ((256 ^ k : Nat) : Int) := by
  rcases (by omega : k = 1 ∨ k = 2 ∨ k = 3 ∨ k = 4) with rfl | rfl | rfl | rfl <;> rfl
theorem bk_near (n x s : Int) (hs : 0 < s) (h1 : 0 ≤ x) (h0 : 0 ≤ n) (h3 : 2 * (n - x) ≤ s) (h3' : 2 * (x - n) < s) (h4 : n ≤ 4611686018427387903) : bk (n % s) s x = n := by
  by_cases hx : x ≤ n
  · exact bk_self n x s hs h1 hx h3 h4 (by omega)
  · unfold bk
    have e : (n % s - x) % s = n - x + s := by
      have e1 : (n % s - x) % s = (n - x) % s := by rw [Int.sub_emod, Int.emod_emod_of_dvd _ (Int.dvd_refl s), ← Int.sub_emod]
      have e2 : (n - x) % s = (n - x + s) % s := by rw [Int.add_emod_right]
      rw [e1, e2, Int.emod_eq_of_lt (by omega) (by omega)]
    rw [e, if_neg (by omega)]
    split
    · rw [if_neg (by omega)]; omega
    · omega
theorem pktRead_hd {k2 num next : Int} {kn : Nat} {S : List UInt8} (k1 : 1 ≤ kn) (k4 : kn ≤ 4) (hS : 8 ≤ S.length) (hn : 0 ≤ next) (hnum : 0 ≤ num ∧ num ≤ 4611686018427387903) (hx : 2 * (num - next) ≤ sp kn) (hx' : 2 * (next - num) < sp kn) :
    pktRead k2 next (headV num kn ++ S) = match openV k2 num (headV num kn) S with
      | none => (0, .inl 4)
      | some body => (num, match pRead body.length body with
        | .inl _ => .inl 11
        | .inr [] => .inl 11
        | .inr (v :: vs) => .inr (v :: vs)) := by
  have hl' : (headV num (kn : Int)).length = 1 + kn := by rw [headV_length]; rfl
  have e1 : ((headV num (kn : Int) ++ S).getD 0 0).toNat = 63 + kn := by
    unfold headV
    simp only [List.cons_append, List.getD_cons_zero]
    rw [UInt8.toNat_ofNat']
    have : ((63 : Int) + (kn : Int)).toNat = 63 + kn := by omega
    rw [this]; omega
  have e2 : (headV num (kn : Int) ++ S).take (1 + kn) = headV num (kn : Int) := by rw [← hl', List.take_left']; rfl
  have e3 : (headV num (kn : Int) ++ S).drop (1 + kn) = S := by rw [← hl', List.drop_left']; rfl
  have e4 : (headV num (kn : Int) ++ S).drop 1 = be kn (num % sp kn).toNat ++ S := by
    conv => lhs; arg 2; arg 1; unfold headV
    rfl
  have hl : (headV num (kn : Int) ++ S).length = 1 + kn + S.length := by rw [List.length_append, hl']
  unfold pktRead
  rw [if_neg (by omega), e1, if_neg (by omega), if_neg (by omega)]
  have s1 : 63 + kn - 63 = kn := by omega
  have s2 : ((63 + kn : Nat) : Int) - 63 = (kn : Int) := by omega
  rw [s1, s2, e2, e3, e4, List.take_left' (be_length _ _)]
  have hsp := sp_pow kn k1 k4
  have hm := emod_b num (sp_pos (kn : Int)).1
  have hm2 : (num % sp (kn : Int)).toNat < 256 ^ kn := by
    rw [← Int.ofNat_lt, Int.toNat_of_nonneg hm.1, ← hsp]; exact hm.2
  rw [cutV_be _ _ hm2, Int.toNat_of_nonneg hm.1]
  rw [bk_near num next _ (sp_pos _).1 hn hnum.1 hx hx' hnum.2]
  rfl
theorem pktRead_of {key k2 num acked next : Int} {vs : List FV} (hn : 0 ≤ next) (hnum : 0 ≤ num ∧ num ≤ 4611686018427387903) (hx : 2 * (num - next) ≤ sp (nb (num - acked))) (hx' : 2 * (next - num) < sp (nb (num - acked))) :
    pktRead k2 next (pktB key num acked vs) = match openV k2 num (headV num (nb (num - acked))) (closeV key num (headV num (nb (num - acked))) (layFs vs)) with
      | none => (0, .inl 4)
      | some body => (num, match pRead body.length body with
        | .inl _ => .inl 11
        | .inr [] => .inl 11
        | .inr (v :: vs) => .inr (v :: vs)) := by
  have h1 := nb_rng (num - acked)
  obtain ⟨kn, hk⟩ : ∃ kn : Nat, nb (num - acked) = (kn : Int) := ⟨(nb (num - acked)).toNat, by omega⟩
  unfold pktB
  rw [hk] at hx hx' ⊢
  exact pktRead_hd (by omega) (by omega) (by rw [closeV_length]; omega) hn hnum hx hx'
theorem pkt_rt {key num acked next : Int} {vs : List FV} (hv : ∀ v ∈ vs, FR v) (hn : 0 ≤ next) (hnum : 0 ≤ num ∧ num ≤ 4611686018427387903) (hx : 2 * (num - next) ≤ sp (nb (num - acked))) (hx' : 2 * (next - num) < sp (nb (num - acked))) :
    pktRead key next (pktB key num acked vs) = (num, if vs = [] then .inl 11 else .inr (vs.map bareV)) := by
  rw [pktRead_of hn hnum hx hx', open_close]
  simp only
  rw [pRead_lay hv]
  cases vs with
  | nil => rfl
  | cons v vs => rfl
theorem known6_f {h : H} (w : WF h) : PO (law6_known h) (fun (a, h1) => a = true ∧ EX h h1) := by
  unfold law6_known P.law6_known
  refine PO.newB w fun h1 x1 B1 z1 w1 => ?_
  have r1 : RdF h1 ⟨some ⟨h.size, 0, some 0⟩, 1, 1⟩ [(1, 0, 0, 0, 0, 0, false, ⟨none, 0, 0⟩, ⟨none, 0, 0⟩)] [kv1] :=
    ⟨B1.rd w1 rfl (capOk_self _ _ (by unfold B63; omega)), ⟨⟨rfl, rfl, rfl, rfl, rfl, rfl, rfl⟩, rdB_nil _, rdR_nil _⟩, trivial⟩
  have hall : ∀ v ∈ [kv1], FR v := by decide
  have hk7 : U64 7 := ⟨by omega, by omega⟩
  have hnb : nb (3 - 2) = 1 := by decide
  have hlay : layFs [kv1] = [1] := by decide
  have hlen := pktB_length 7 3 2 [kv1]
  rw [hnb, hlay] at hlen
  have hlen' : (pktB 7 3 2 [kv1]).length = 11 := by simp at hlen; omega
  have hpl : pktLay 7 3 2 [kv1] = .inr (pktB 7 3 2 [kv1]) := by
    unfold pktLay
    rw [if_neg (by decide), if_neg (fun hh => hh hall), if_neg (by omega)]
  refine PO.call (PLay_f w1 hk7 r1 (by simp) (szok_of hall)) fun a h2 ⟨x2, ha⟩ => ?_
  rw [hpl] at ha
  obtain ⟨s1, e1⟩ := a
  obtain ⟨rb, he⟩ := ha
  have he' : e1 = 0 := he
  subst he'
  have rb' : RdB h2 s1 (pktB 7 3 2 [kv1]) := rb
  have hsp : sp (nb (3 - 2)) = 256 := by decide
  have hrt : pktRead 7 3 (pktB 7 3 2 [kv1]) = (3, .inr ([kv1].map bareV)) := by
    rw [pkt_rt hall (by omega) (by omega) (by rw [hsp]; omega) (by rw [hsp]; omega)]; rfl
  refine PO.call (PRead_f x2.wf hk7 (by omega) rb' (by omega)) fun a h3 ⟨x3, hn, hq⟩ => ?_
  rw [hrt] at hn hq
  obtain ⟨n3, s3, e3⟩ := a
  obtain ⟨⟨xs, rf⟩, he3⟩ := hq
  have he3' : e3 = 0 := he3
  subst he3'
  have hn' : n3 = 3 := hn
  subst hn'
  have hl3 : s3.len = 1 := RdF.len rf
  have hs1 : s1.len = 11 := by rw [RdB.len rb', hlen']
  have g0 : (pktB 7 3 2 [kv1]).getD 0 0 = 64 := rfl
  have g1 : (pktB 7 3 2 [kv1]).getD 1 0 = 3 := rfl
  refine .callE (PRoom_f 0 (-1) (by omega) (by omega) _) (.chk' (by decide) (.chk' rfl (.chk' (by rw [hs1]; rfl) ?_)))
  refine PO.ixB (rb'.ex x3) (by omega) (by rw [hlen']; decide) fun a ea => .op ea (.chk' (by rw [show (0 : Int).toNat = 0 from rfl, g0]; rfl) ?_)
  refine PO.ixB (rb'.ex x3) (by omega) (by rw [hlen']; decide) fun a eb => .op eb (.chk' (by rw [show (1 : Int).toNat = 1 from rfl, g1]; rfl) ?_)
  refine .chk' rfl (.chk' rfl (.ret ⟨?_, (x1.trans x2).trans x3⟩))
  rw [hl3]; rfl
end Go.Proofs.Ythiccnmplgdheaa.T
/- The laws PacketRoom and PacketBack over typed texts. -/
set_option linter.unusedVariables false
set_option linter.unusedSimpArgs false
set_option maxRecDepth 100000
namespace Go.Proofs.Ythiccnmplgdheaa.T
open Go Go.Abs Go.Proofs
theorem U64_of {k : Int} (h : 0 ≤ k ∧ k < 18446744073709551616) : U64 k := ⟨h.1, h.2⟩
theorem PacketRoom (key acked far more : Int) (l : Sl) (h : H) (w : WF h) (hk : 0 ≤ key ∧ key < 18446744073709551616) (g1 : RNG acked) (g2 : RNG far) (g3 : RNG more) (xs : List F9) (us : List RV) (r : RdW h l xs us) (hn : us.length ≤ 2 ^ 50) (hz : WzOK us) : ∃ h', law6_PacketRoom key acked far more l h = some (true, h') := by
  refine PO.law ?_
  unfold law6_PacketRoom P.law6_PacketRoom
  have q1 := emod_b acked (show (0 : Int) < 1073741824 by omega)
  have q2 := emod_b far (show (0 : Int) < 33554432 by omega)
  have q3 := emod_b more (show (0 : Int) < 67108864 by omega)
  refine .callE (pick_f _ _ (by omega) (by omega) _) (.callE (pick_f _ _ (by omega) (by omega) _) (.letO ?_))
  generalize hA : acked % 1073741824 = A at *
  generalize hF : far % 33554432 = F at *
  rw [w64 (n := A - 1) (by omega) (by omega), w64 (n := A - 1 + 1) (by omega) (by omega), w64 (n := A - 1 + 1 + F) (by omega) (by omega), show A - 1 + 1 + F = A + F by omega]
  refine PO.call (HRight_f w r hn hz (N := 5) (by omega)) fun f h1 ⟨⟨ys, vs, rf, _, hall, hlen⟩, x1, _⟩ => ?_
  have hl5 : vs.length ≤ 5 := by omega
  have hfl := layFs_length hall
  have hsz := szok_of hall
  have hfLen := RdF.len rf
  refine PO.join (fun st => ∃ h2, st = ((key, (more, (A - 1, (A + F, (f, ((layFs vs).length : Int)))))), h2) ∧ EX h1 h2) ?_ ?_
  · refine PO.mono (P := fun st => ∃ h2, st = Sum.inl ((key, (more, (A - 1, (A + F, (f, ((layFs vs).length : Int)))))), h2) ∧ EX h1 h2) ?_ ?_
    · refine PO.loop (fun m st => ∃ (i : Nat) (h' : H), st = ((key, (more, (A - 1, (A + F, (f, (((layFs (vs.take i)).length : Int), (f, (((f.len : Nat) : Int), (i : Int))))))))), h') ∧ m + i = vs.length ∧ EX h1 h') ?_ vs.length _ ⟨0, h1, rfl, rfl, EX.refl x1.wf⟩
      rintro m st ⟨i, h', rfl, hm, hx⟩
      unfold P.law6_PacketRoom_l1
      refine .condD (fun c => ?_) (fun c => ?_)
      · have hi : i < vs.length := by omega
        have hone : (layFs (vs.take (i + 1))).length = (layFs (vs.take i)).length + (lay1 (vs.getD i fv0)).length := by
          rw [take_succ_getD vs fv0 hi, layFs_app]; simp [layFs]
        have hle : (layFs (vs.take (i + 1))).length ≤ 264 * 8 := by
          have := layFs_length (vs := vs.take (i + 1)) (fun v hv => hall v (List.mem_of_mem_take hv))
          have : (vs.take (i + 1)).length ≤ 8 := by simp; omega
          omega
        refine PO.ixF (rf.ex hx) (by omega) (by omega) fun a _ _ _ e1 fr => .op e1 ?_
        simp only [Int.toNat_natCast] at fr ⊢
        have hv := hall _ (getD_mem vs fv0 hi)
        have hzv := hsz _ (getD_mem vs fv0 hi)
        generalize ys.getD i f90 = x at *
        refine PO.boxF rfl hx.wf fun k2 y2 B2 z2 => PO.ldF B2 (PO.call (RFrameSize_f y2.wf (fr.ex y2) hzv.1 hzv.2) fun a k3 ⟨ea, y3⟩ => .retL ⟨m - 1, by omega, i + 1, k3, ?_, by omega, (hx.trans y2).trans y3⟩)
        subst ea
        unfold fszV
        rw [if_pos hv, w64 (by omega) (by omega), w64 (n := (i : Int) + 1) (by omega) (by omega), hone]
        simp
      · have : i = vs.length := by omega
        subst this
        rw [List.take_of_length_le (Nat.le_refl _)]
        exact .retR ⟨h', rfl, hx⟩
    · rintro _ ⟨h2, rfl, x2⟩
      exact ⟨h2, rfl, x2⟩
  rintro _ ⟨h2, rfl, x2⟩
  have hnb := nb_rng (A + F - (A - 1))
  have hpl := pktB_length key (A + F) (A - 1) vs
  refine PO.call (PLay_f x2.wf (num := A + F) (acked := A - 1) (U64_of hk) (rf.ex x2) (by omega) hsz) fun a h3 ⟨x3, ha⟩ => ?_
  have hok : pktOK (A + F) (A - 1) := ⟨by omega, by omega, by omega, by omega⟩
  obtain ⟨s1, e1⟩ := a
  refine .callE (PRoom_f (A + F) (A - 1) (by omega) (by omega) _) ?_
  unfold pktLay at ha
  rw [if_neg (fun hh => hh hok), if_neg (fun hh => hh hall)] at ha
  by_cases hc : (pktB key (A + F) (A - 1) vs).length > 240
  · rw [if_pos hc] at ha
    have ha' : (s1, e1) = (⟨none, 0, 0⟩, 9) := ha
    simp only [Prod.mk.injEq] at ha'
    obtain ⟨rfl, rfl⟩ := ha'
    refine .condE (fun hh => absurd hh (by omega)) (fun _ => PO.call (known6_f x3.wf) fun a h4 ⟨ea, x4⟩ => ?_)
    subst ea
    refine .chk' rfl (.chk' rfl (.condD (fun _ => .callE (pick_f _ _ (by omega) (by omega) _) ?_) (fun hh => absurd (show ((layFs vs).length : Int) > 231 - nb (A + F - (A - 1)) by omega) hh)))
    rw [w64 (n := A + F + more % 67108864) (by omega) (by omega)]
    refine .callE (PRoom_f (A + F + more % 67108864) (A - 1) (by omega) (by omega) _) (.ret ?_)
    have := nb_mono (A + F - (A - 1)) (A + F + more % 67108864 - (A - 1)) (by omega)
    exact decide_eq_true (by omega)
  · rw [if_neg hc] at ha
    obtain ⟨rb, he⟩ := ha
    have he' : e1 = 0 := he
    subst he'
    have rb' : RdB h3 s1 (pktB key (A + F) (A - 1) vs) := rb
    have hsl := RdB.len rb'
    refine .condE (fun _ => ?_) (fun hh => absurd rfl hh)
    refine PO.join (fun st => st.1 = true) ?_ (fun st hst => .ret hst)
    refine PO.call (known6_f x3.wf) fun a h4 ⟨ea, x4⟩ => ?_
    subst ea
    refine .chk' rfl (.condD (fun _ => .letO (.retL ?_)) (fun hh => absurd (show ((layFs vs).length : Int) ≤ 231 - nb (A + F - (A - 1)) by omega) hh))
    rw [w64 (n := 240 - (231 - nb (A + F - (A - 1)))) (by omega) (by omega), w64 (by omega) (by omega), hsl]
    show (_ == _) = true
    rw [beq_iff_eq]; omega
end Go.Proofs.Ythiccnmplgdheaa.T
/- A slice of raw frames (structs of six whole numbers, a bool, a slice of bytes and a slice of whole numbers) as a parameter. -/
set_option linter.unusedVariables false
set_option linter.unusedSimpArgs false
namespace Go.Abs
open Go Go.ChangeShapes Go.WideShapes Go.RowKit
structure RawA where
  k : Int
  id : Int
  off : Int
  a : Int
  b : Int
  bend : Int
  fin : Bool
  data : Part
  spans : Part
def IsInts (W : World) (y : Part) : Prop := IsRow .i64 W y.1 y.2.1 y.2.2.1 y.2.2.2 ∧ y.2.1 * 8 ≤ 140737488351232
def rawCells (y : RawA) : List Value := [.int .i64 y.k, .int .i64 y.id, .int .i64 y.off, .int .i64 y.a, .int .i64 y.b, .int .i64 y.bend, .bool y.fin, .slice y.data.1 y.data.2.1 y.data.2.2.1, .slice y.spans.1 y.spans.2.1 y.spans.2.2.1]
def IsRaw (W : World) (y : RawA) : Prop := IsPart W y.data ∧ IsInts W y.spans
def IsRowW (W : World) (a : Option Addr) (len cap : Nat) (ys : List RawA) : Prop :=
  (a = none ∧ len = 0 ∧ cap = 0 ∧ ys = []) ∨
  ∃ x, a = some x ∧ len ≤ cap ∧ cap ≤ maxLen ∧ ys.length = len ∧ ∀ i y, ys[i]? = some y → W.cells? 0 (x.add (i * 9)) 9 = some (rawCells y) ∧ IsRaw W y
theorem one_of_take {cs : List Value} {i : Nat} {v : Value} (h : (cs.drop i).take 1 = [v]) : cs[i]? = some v := by
  have : ((cs.drop i).take 1)[0]? = some v := by rw [h]; rfl
  rwa [List.getElem?_take_of_lt (by omega), List.getElem?_drop, Nat.add_zero] at this
theorem list9 {cs : List Value} {v0 v1 v2 v3 v4 v5 v6 v7 v8 : Value} (hl : cs.length = 9) (h0 : cs[0]? = some v0) (h1 : cs[1]? = some v1) (h2 : cs[2]? = some v2) (h3 : cs[3]? = some v3) (h4 : cs[4]? = some v4) (h5 : cs[5]? = some v5) (h6 : cs[6]? = some v6) (h7 : cs[7]? = some v7) (h8 : cs[8]? = some v8) : cs = [v0, v1, v2, v3, v4, v5, v6, v7, v8] := by
  match cs, hl with
  | [a0, a1, a2, a3, a4, a5, a6, a7, a8], _ => simp at h0 h1 h2 h3 h4 h5 h6 h7 h8; simp_all
theorem isPart_of {H : Type} {enc : TypeId × Value → H} {P : Program} {W : World} {t e : TypeId} {fuel : Nat} {cs : List Value} {x : DataW H × List MemPlace} {ts : List TypeId} {ds : List (DataW H)} {j : Nat} {k : IntKind} {B : Nat}
    (hsz : (DataW.weightsEach P ts ds).all (· ≤ reachBytes) = true) (ht : ts[j]? = some t) (hd : ds[j]? = some x.1) (hu : P.underlying t = some (.slice e)) (he : P.underlying e = some (.int k)) (hc : P.cellsOf e = 1) (hB : P.bytesOf e = B)
    (h : DataW.trod enc P W 0 (fun _ => true) true fuel t cs = some x) : ∃ y : Part, cs = [.slice y.1 y.2.1 y.2.2.1] ∧ IsRow k W y.1 y.2.1 y.2.2.1 y.2.2.2 ∧ y.2.1 * B ≤ 140737488351232 := by
  rcases open_ints hu he hc h with ⟨hcs, _⟩ | ⟨x', l', c', zs, hcs, _⟩
  · subst hcs
    exact ⟨(none, 0, 0, []), rfl, .inl ⟨rfl, rfl, rfl, rfl⟩, by simp⟩
  · subst hcs
    have hT : DataW.Trod enc P W 0 (fun _ => true) true t (.slice (some x') l' c') x.1 x.2 := ⟨fuel, by simpa [Value.cells] using h⟩
    obtain ⟨zs', hz'⟩ := isRow_of hu he hc hT
    exact ⟨(some x', l', c', zs'), rfl, hz', sized_ints hsz ht hd hu he hc hB hT⟩
abbrev flds (tI tB tD tS : TypeId) : List (TypeId × Nat) := [(tI, 0), (tI, 1), (tI, 2), (tI, 3), (tI, 4), (tI, 5), (tB, 6), (tD, 7), (tS, 8)]
theorem isRowW_of {H : Type} {enc : TypeId × Value → H} {P : Program} {W : World} {t e tI tB tD tU tS : TypeId} {fs : Array Field} {a : Option Addr} {len cap : Nat} {d : DataW H} {ps : List MemPlace} {ts : List TypeId} {ds : List (DataW H)} {j : Nat}
    (hsz : (DataW.weightsEach P ts ds).all (· ≤ reachBytes) = true) (ht : ts[j]? = some t) (hd : ds[j]? = some d)
    (hu : P.underlying t = some (.slice e)) (he : P.underlying e = some (.struct fs)) (hF : fs.toList.map (fun f => (f.type, f.offset)) = flds tI tB tD tS)
    (hc : P.cellsOf e = 9) (hB : P.bytesOf e = 104) (hI : P.underlying tI = some (.int .i64)) (cI : P.cellsOf tI = 1) (bI : P.bytesOf tI = 8) (hBo : P.underlying tB = some .bool) (cB : P.cellsOf tB = 1)
    (hD : P.underlying tD = some (.slice tU)) (cD : P.cellsOf tD = 1) (hU : P.underlying tU = some (.int .u8)) (cU : P.cellsOf tU = 1) (bU : P.bytesOf tU = 1) (hS : P.underlying tS = some (.slice tI)) (cS : P.cellsOf tS = 1)
    (h : DataW.Trod enc P W 0 (fun _ => true) true t (.slice a len cap) d ps) : ∃ ys, IsRowW W a len cap ys ∧ len * 104 ≤ 140737488351232 := by
  obtain ⟨fuel, hf⟩ := h
  rcases DataW.trod_slice hu hf with ⟨hcs, _⟩ | ⟨x, l, c, elems, rest, n, rfl, hcs, hx, _, hl, hm, hlen, hel, hsp, _⟩
  · simp [Value.cells] at hcs
    obtain ⟨rfl, rfl, rfl⟩ := hcs
    exact ⟨[], .inl ⟨rfl, rfl, rfl, rfl⟩, by simp⟩
  · simp [Value.cells] at hcs
    obtain ⟨rfl, rfl, rfl⟩ := hcs
    obtain ⟨hx1, _⟩ := Prod.mk.inj hx
    subst hx1
    have z := sized_slice hsz ht hd hu
    rw [hB] at z
    have hz : (reachBytes : Nat) = 140737488351232 := by decide
    simp only [List.length_map] at z
    have fget : ∀ (i : Nat) (p : TypeId × Nat), (flds tI tB tD tS)[i]? = some p → ∃ f : Field, fs[i]? = some f ∧ f.type = p.1 ∧ f.offset = p.2 := by
      intro i p hp
      rw [← hF, List.getElem?_map, Option.map_eq_some_iff] at hp
      obtain ⟨f, h1, rfl⟩ := hp
      exact ⟨f, by simpa using h1, rfl, rfl⟩
    have fsz : fs.size = 9 := by have := congrArg List.length hF; simpa using this
    have each : ∀ i, i < len → ∃ y : RawA, W.cells? 0 (x.add (i * 9)) 9 = some (rawCells y) ∧ IsRaw W y := by
      intro i hi
      have h1 := hel i hi
      obtain ⟨el, hel1⟩ : ∃ el, elems[i]? = some el := ⟨elems[i]'(by omega), List.getElem?_eq_getElem (by omega)⟩
      rw [hel1, hc, Option.bind_eq_some_iff] at h1
      obtain ⟨cs', h2, h3⟩ := h1
      have hw : (DataW.weightsEach P [e] [el.1]).all (· ≤ reachBytes) = true := by
        rw [List.all_eq_true]
        intro m hm'
        refine List.all_eq_true.1 hsz m (DataW.weights_mem_each ht hd m ?_)
        simp only [DataW.weights, hu, List.mem_cons, List.mem_append]
        refine .inr (.inl (weights_all (d := el.1) (List.mem_map.2 ⟨el, List.mem_of_getElem? hel1, rfl⟩) m ?_))
        simpa [DataW.weightsEach] using hm'
      obtain ⟨xs, n', rfl, rfl, hl9, hxl, hxf⟩ := DataW.trod_struct he h3
      rw [hc] at hl9
      rw [fsz] at hxl
      have hw' : (DataW.weightsEach P (fs.toList.map (·.type)) (xs.map (·.1))).all (· ≤ reachBytes) = true := by
        simpa [DataW.weightsEach, DataW.weights, he] using hw
      have fld : ∀ (i : Nat) (p : TypeId × Nat), (flds tI tB tD tS)[i]? = some p → ∃ y, xs[i]? = some y ∧ DataW.trod enc P W 0 (fun _ => true) true n' p.1 ((cs'.drop p.2).take (P.cellsOf p.1)) = some y := by
        intro i p hp
        obtain ⟨f, h1, h2, h3⟩ := fget i p hp
        have hi9 : i < 9 := (List.getElem?_eq_some_iff.1 hp).1
        have := hxf i f h1
        rw [h2, h3] at this
        exact ⟨xs[i]'(by omega), List.getElem?_eq_getElem (by omega), by rw [this]; exact List.getElem?_eq_getElem (by omega)⟩
      have int : ∀ (i : Nat), (flds tI tB tD tS)[i]? = some (tI, i) → ∃ m : Int, cs'[i]? = some (.int .i64 m) := by
        intro i hp
        obtain ⟨y, _, hy⟩ := fld i _ hp
        rw [cI] at hy
        obtain ⟨m, hm, _⟩ := DataW.trod_int hI hy
        exact ⟨m, one_of_take hm⟩
      obtain ⟨m0, c0⟩ := int 0 rfl
      obtain ⟨m1, c1⟩ := int 1 rfl
      obtain ⟨m2, c2⟩ := int 2 rfl
      obtain ⟨m3, c3⟩ := int 3 rfl
      obtain ⟨m4, c4⟩ := int 4 rfl
      obtain ⟨m5, c5⟩ := int 5 rfl
      obtain ⟨y6, _, hy6⟩ := fld 6 (tB, 6) rfl
      rw [cB] at hy6
      obtain ⟨b6, hb6, _⟩ := DataW.trod_bool hBo hy6
      have c6 := one_of_take hb6
      have tsj : ∀ (i : Nat) (p : TypeId × Nat), (flds tI tB tD tS)[i]? = some p → (fs.toList.map (·.type))[i]? = some p.1 := by
        intro i p hp
        obtain ⟨f, h1, h2, _⟩ := fget i p hp
        rw [List.getElem?_map, Option.map_eq_some_iff]
        exact ⟨f, by simpa using h1, h2⟩
      obtain ⟨y7, hx7, hy7⟩ := fld 7 (tD, 7) rfl
      rw [cD] at hy7
      obtain ⟨p7, hp7, hr7, hs7⟩ := isPart_of (j := 7) hw' (tsj 7 (tD, 7) rfl) (by rw [List.getElem?_map, hx7]; rfl) hD hU cU bU hy7
      obtain ⟨y8, hx8, hy8⟩ := fld 8 (tS, 8) rfl
      rw [cS] at hy8
      obtain ⟨p8, hp8, hr8, hs8⟩ := isPart_of (j := 8) hw' (tsj 8 (tS, 8) rfl) (by rw [List.getElem?_map, hx8]; rfl) hS hI cI bI hy8
      refine ⟨⟨m0, m1, m2, m3, m4, m5, b6, p7, p8⟩, ?_, ⟨hr7, by simpa using hs7⟩, hr8, hs8⟩
      rw [h2]
      exact congrArg some (list9 hl9 c0 c1 c2 c3 c4 c5 c6 (one_of_take hp7) (one_of_take hp8))
    have hf : ∃ f : Nat → RawA, ∀ i, i < len → W.cells? 0 (x.add (i * 9)) 9 = some (rawCells (f i)) ∧ IsRaw W (f i) :=
      ⟨fun i => if hi : i < len then Classical.choose (each i hi) else ⟨0, 0, 0, 0, 0, 0, false, (none, 0, 0, []), (none, 0, 0, [])⟩, fun i hi => by
        simp only [dif_pos hi]; exact Classical.choose_spec (each i hi)⟩
    obtain ⟨f, hf⟩ := hf
    refine ⟨(List.range len).map f, .inr ⟨x, rfl, hl, hm, by simp, fun i y hy => ?_⟩, by omega⟩
    rw [List.getElem?_map, Option.map_eq_some_iff] at hy
    obtain ⟨k, hk, rfl⟩ := hy
    obtain ⟨hk1, hk2⟩ := List.getElem?_eq_some_iff.1 hk
    rw [List.getElem_range] at hk2
    subst hk2
    exact hf i (by simpa using hk1)
end Go.Abs
