/- Lemmas about the typed texts (joined: SRF2 SPkt2 LPkt1). -/
import Derived.Test.YthiccnmplgdheaaG18
import Derived.Test.YthiccnmplgdheaaG11
import Derived.Test.YthiccnmplgdheaaG10
/- The reference's frames over the typed texts: laid, sized. -/
set_option linter.unusedVariables false
set_option linter.unusedSimpArgs false
set_option maxRecDepth 100000
namespace Go.Proofs.Ythiccnmplgdheaa.T
open Go Go.Abs Go.Proofs
end Go.Proofs.Ythiccnmplgdheaa.T
/- Packets over the typed texts: the reference's same frames; what is laid is read; chapter 6's example. -/
set_option linter.unusedVariables false
set_option linter.unusedSimpArgs false
set_option maxRecDepth 100000
namespace Go.Proofs.Ythiccnmplgdheaa.T
open Go Go.Abs Go.Proofs
/-! what is laid is read -/
theorem foldl_be : ∀ (m x : Nat) (c : Int), (be m x).foldl (fun c b => c * 256 + (b.toNat : Int)) c = c * 256 ^ m + ((x % 256 ^ m : Nat) : Int)
  | 0, x, c => by simp [be, Nat.mod_one]
  | m + 1, x, c => by
    simp only [be, List.foldl_cons]
    rw [foldl_be m x]
    have h1 : x % 256 ^ (m + 1) = (x / 256 ^ m % 256) * 256 ^ m + x % 256 ^ m := by
      rw [Nat.pow_succ, Nat.mod_mul, Nat.add_comm, Nat.mul_comm]
    rw [h1, UInt8.toNat_ofNat', Int.pow_succ]
    simp only [Int.natCast_add, Int.natCast_mul, Int.natCast_pow]
    rw [Int.add_mul, Int.mul_assoc, Int.mul_comm 256 (256 ^ m)]
    have : ((2 ^ 8 : Nat)) = 256 := rfl
    rw [this]
    have e2 : ((256 : Nat) : Int) = 256 := rfl
    rw [e2]; omega
theorem cutV_be (m x : Nat) (h : x < 256 ^ m) : cutV (be m x) = (x : Int) := by
  unfold cutV; rw [foldl_be, Nat.mod_eq_of_lt h]; simp
theorem sp_pow (k : Nat) (h1 : 1 ≤ k) (h2 : k ≤ 4) : sp (k : Int) = ((256 ^ k : Nat) : Int) := by
  rcases (by omega : k = 1 ∨ k = 2 ∨ k = 3 ∨ k = 4) with rfl | rfl | rfl | rfl <;> rfl
theorem bk_near (n x s : Int) (hs : 0 < s) (h1 : 0 ≤ x) (h0 : 0 ≤ n) (h3 : 2 * (n - x) ≤ s) (h3' : 2 * (x - n) < s) (h4 : n ≤ 4611686018427387903) : bk (n % s) s x = n := by
  by_cases hx : x ≤ n
  · exact bk_self n x s hs h1 hx h3 h4 (by omega)
  · unfold bk
    have e : (n % s - x) % s = n - x + s := by
      have e1 : (n % s - x) % s = (n - x) % s := by rw [Int.sub_emod, Int.emod_emod_of_dvd _ (Int.dvd_refl s), ← Int.sub_emod]
      have e2 : (n - x) % s = (n - x + s) % s := by rw [Int.add_emod_right]
      rw [e1, e2, Int.emod_eq_of_lt (by omega) (by omega)]
    rw [e, if_neg (by omega)]
    split
    · rw [if_neg (by omega)]; omega
    · omega
theorem nb_sp {d : Int} (h : 1 ≤ d) (h2 : d ≤ 2147483648) : 2 * d ≤ sp (nb d) := by
  unfold nb sp
  by_cases c1 : d ≤ 128
  · rw [if_pos c1, if_pos rfl]; omega
  · rw [if_neg c1]
    by_cases c2 : d ≤ 32768
    · rw [if_pos c2, if_neg (by omega), if_pos rfl]; omega
    · rw [if_neg c2]
      by_cases c3 : d ≤ 8388608
      · rw [if_pos c3, if_neg (by omega), if_neg (by omega), if_pos rfl]; omega
      · rw [if_neg c3, if_neg (by omega), if_neg (by omega), if_neg (by omega)]; omega
/-- a packet taken apart -/
theorem pkt_parts {key num acked : Int} {vs : List FV} : ∃ kn : Nat, nb (num - acked) = (kn : Int) ∧ 1 ≤ kn ∧ kn ≤ 4 ∧ ((pktB key num acked vs).getD 0 0).toNat = 63 + kn ∧
    (pktB key num acked vs).take (1 + kn) = headV num (nb (num - acked)) ∧ (pktB key num acked vs).drop (1 + kn) = closeV key num (headV num (nb (num - acked))) (layFs vs) ∧ (pktB key num acked vs).drop 1 = be kn (num % sp kn).toNat ++ closeV key num (headV num (nb (num - acked))) (layFs vs) := by
  have h1 := nb_rng (num - acked)
  obtain ⟨kn, hk⟩ : ∃ kn : Nat, nb (num - acked) = (kn : Int) := ⟨(nb (num - acked)).toNat, by omega⟩
  have hl := headV_length num (nb (num - acked))
  have hl' : (headV num (nb (num - acked))).length = 1 + kn := by rw [hl, hk]; rfl
  refine ⟨kn, hk, by omega, by omega, ?_, ?_, ?_, ?_⟩
  · show ((headV num (nb (num - acked)) ++ closeV key num (headV num (nb (num - acked))) (layFs vs)).getD 0 0).toNat = 63 + kn
    unfold headV
    simp only [List.cons_append, List.getD_cons_zero]
    rw [UInt8.toNat_ofNat', hk]
    have : ((63 : Int) + (kn : Int)).toNat = 63 + kn := by omega
    rw [this]; omega
  · unfold pktB; rw [← hl', List.take_left']; rfl
  · unfold pktB; rw [← hl', List.drop_left']; rfl
  · unfold pktB
    conv => lhs; arg 2; arg 1; unfold headV
    rw [hk]; rfl
theorem pktRead_hd {k2 num next : Int} {kn : Nat} {S : List UInt8} (k1 : 1 ≤ kn) (k4 : kn ≤ 4) (hS : 8 ≤ S.length) (hn : 0 ≤ next) (hnum : 0 ≤ num ∧ num ≤ 4611686018427387903) (hx : 2 * (num - next) ≤ sp kn) (hx' : 2 * (next - num) < sp kn) :
    pktRead k2 next (headV num kn ++ S) = match openV k2 num (headV num kn) S with
      | none => (0, .inl 4)
      | some body => (num, match pRead body.length body with
        | .inl _ => .inl 11
        | .inr [] => .inl 11
        | .inr (v :: vs) => .inr (v :: vs)) := by
  have hl' : (headV num (kn : Int)).length = 1 + kn := by rw [headV_length]; rfl
  have e1 : ((headV num (kn : Int) ++ S).getD 0 0).toNat = 63 + kn := by
    unfold headV
    simp only [List.cons_append, List.getD_cons_zero]
    rw [UInt8.toNat_ofNat']
    have : ((63 : Int) + (kn : Int)).toNat = 63 + kn := by omega
    rw [this]; omega
  have e2 : (headV num (kn : Int) ++ S).take (1 + kn) = headV num (kn : Int) := by rw [← hl', List.take_left']; rfl
  have e3 : (headV num (kn : Int) ++ S).drop (1 + kn) = S := by rw [← hl', List.drop_left']; rfl
  have e4 : (headV num (kn : Int) ++ S).drop 1 = be kn (num % sp kn).toNat ++ S := by
    conv => lhs; arg 2; arg 1; unfold headV
    rfl
  have hl : (headV num (kn : Int) ++ S).length = 1 + kn + S.length := by rw [List.length_append, hl']
  unfold pktRead
  rw [if_neg (by omega), e1, if_neg (by omega), if_neg (by omega)]
  have s1 : 63 + kn - 63 = kn := by omega
  have s2 : ((63 + kn : Nat) : Int) - 63 = (kn : Int) := by omega
  rw [s1, s2, e2, e3, e4, List.take_left' (be_length _ _)]
  have hsp := sp_pow kn k1 k4
  have hm := emod_b num (sp_pos (kn : Int)).1
  have hm2 : (num % sp (kn : Int)).toNat < 256 ^ kn := by
    rw [← Int.ofNat_lt, Int.toNat_of_nonneg hm.1, ← hsp]; exact hm.2
  rw [cutV_be _ _ hm2, Int.toNat_of_nonneg hm.1]
  rw [bk_near num next _ (sp_pos _).1 hn hnum.1 hx hx' hnum.2]
  rfl
theorem pktRead_of {key k2 num acked next : Int} {vs : List FV} (hn : 0 ≤ next) (hnum : 0 ≤ num ∧ num ≤ 4611686018427387903) (hx : 2 * (num - next) ≤ sp (nb (num - acked))) (hx' : 2 * (next - num) < sp (nb (num - acked))) :
    pktRead k2 next (pktB key num acked vs) = match openV k2 num (headV num (nb (num - acked))) (closeV key num (headV num (nb (num - acked))) (layFs vs)) with
      | none => (0, .inl 4)
      | some body => (num, match pRead body.length body with
        | .inl _ => .inl 11
        | .inr [] => .inl 11
        | .inr (v :: vs) => .inr (v :: vs)) := by
  have h1 := nb_rng (num - acked)
  obtain ⟨kn, hk⟩ : ∃ kn : Nat, nb (num - acked) = (kn : Int) := ⟨(nb (num - acked)).toNat, by omega⟩
  unfold pktB
  rw [hk] at hx hx' ⊢
  exact pktRead_hd (by omega) (by omega) (by rw [closeV_length]; omega) hn hnum hx hx'
theorem pkt_rt {key num acked next : Int} {vs : List FV} (hv : ∀ v ∈ vs, FR v) (hn : 0 ≤ next) (hnum : 0 ≤ num ∧ num ≤ 4611686018427387903) (hx : 2 * (num - next) ≤ sp (nb (num - acked))) (hx' : 2 * (next - num) < sp (nb (num - acked))) :
    pktRead key next (pktB key num acked vs) = (num, if vs = [] then .inl 11 else .inr (vs.map bareV)) := by
  rw [pktRead_of hn hnum hx hx', open_close]
  simp only
  rw [pRead_lay hv]
  cases vs with
  | nil => rfl
  | cons v vs => rfl
theorem pkt_other {key k2 num acked next : Int} {vs : List FV} (hk : U64 key) (h2 : U64 k2) (hne : k2 ≠ key) (hn : 0 ≤ next) (hnum : 0 ≤ num ∧ num ≤ 4611686018427387903) (hx : 2 * (num - next) ≤ sp (nb (num - acked))) (hx' : 2 * (next - num) < sp (nb (num - acked))) :
    pktRead k2 next (pktB key num acked vs) = (0, .inl 4) := by
  rw [pktRead_of hn hnum hx hx']
  have := open_close2 key num k2 num (headV num (nb (num - acked))) (layFs vs)
  rw [decide_eq_false (fun e => hne (stepV_inj_l h2 hk e))] at this
  cases ho : openV k2 num (headV num (nb (num - acked))) (closeV key num (headV num (nb (num - acked))) (layFs vs)) with
  | none => rfl
  | some b => rw [ho] at this; simp at this
theorem known6_f {h : H} (w : WF h) : PO (law6_known h) (fun (a, h1) => a = true ∧ EX h h1) := by
  unfold law6_known P.law6_known
  refine PO.newB w fun h1 x1 B1 z1 w1 => ?_
  have r1 : RdF h1 ⟨some ⟨h.size, 0, some 0⟩, 1, 1⟩ [(1, 0, 0, 0, 0, 0, false, ⟨none, 0, 0⟩, ⟨none, 0, 0⟩)] [kv1] :=
    ⟨B1.rd w1 rfl (capOk_self _ _ (by unfold B63; omega)), ⟨⟨rfl, rfl, rfl, rfl, rfl, rfl, rfl⟩, rdB_nil _, rdR_nil _⟩, trivial⟩
  have hall : ∀ v ∈ [kv1], FR v := by decide
  have hk7 : U64 7 := ⟨by omega, by omega⟩
  have hnb : nb (3 - 2) = 1 := by decide
  have hlay : layFs [kv1] = [1] := by decide
  have hlen := pktB_length 7 3 2 [kv1]
  rw [hnb, hlay] at hlen
  have hlen' : (pktB 7 3 2 [kv1]).length = 11 := by simp at hlen; omega
  have hpl : pktLay 7 3 2 [kv1] = .inr (pktB 7 3 2 [kv1]) := by
    unfold pktLay
    rw [if_neg (by decide), if_neg (fun hh => hh hall), if_neg (by omega)]
  refine PO.call (PLay_f w1 hk7 r1 (by simp) (szok_of hall)) fun a h2 ⟨x2, ha⟩ => ?_
  rw [hpl] at ha
  obtain ⟨s1, e1⟩ := a
  obtain ⟨rb, he⟩ := ha
  have he' : e1 = 0 := he
  subst he'
  have rb' : RdB h2 s1 (pktB 7 3 2 [kv1]) := rb
  have hsp : sp (nb (3 - 2)) = 256 := by decide
  have hrt : pktRead 7 3 (pktB 7 3 2 [kv1]) = (3, .inr ([kv1].map bareV)) := by
    rw [pkt_rt hall (by omega) (by omega) (by rw [hsp]; omega) (by rw [hsp]; omega)]; rfl
  refine PO.call (PRead_f x2.wf hk7 (by omega) rb' (by omega)) fun a h3 ⟨x3, hn, hq⟩ => ?_
  rw [hrt] at hn hq
  obtain ⟨n3, s3, e3⟩ := a
  obtain ⟨⟨xs, rf⟩, he3⟩ := hq
  have he3' : e3 = 0 := he3
  subst he3'
  have hn' : n3 = 3 := hn
  subst hn'
  have hl3 : s3.len = 1 := RdF.len rf
  have hs1 : s1.len = 11 := by rw [RdB.len rb', hlen']
  have g0 : (pktB 7 3 2 [kv1]).getD 0 0 = 64 := rfl
  have g1 : (pktB 7 3 2 [kv1]).getD 1 0 = 3 := rfl
  refine .callE (PRoom_f 0 (-1) (by omega) (by omega) _) (.chk' (by decide) (.chk' rfl (.chk' (by rw [hs1]; rfl) ?_)))
  refine PO.ixB (rb'.ex x3) (by omega) (by rw [hlen']; decide) fun a ea => .op ea (.chk' (by rw [show (0 : Int).toNat = 0 from rfl, g0]; rfl) ?_)
  refine PO.ixB (rb'.ex x3) (by omega) (by rw [hlen']; decide) fun a eb => .op eb (.chk' (by rw [show (1 : Int).toNat = 1 from rfl, g1]; rfl) ?_)
  refine .chk' rfl (.chk' rfl (.ret ⟨?_, (x1.trans x2).trans x3⟩))
  rw [hl3]; rfl
end Go.Proofs.Ythiccnmplgdheaa.T
/- The laws PacketRoom and PacketBack over typed texts. -/
set_option linter.unusedVariables false
set_option linter.unusedSimpArgs false
set_option maxRecDepth 100000
namespace Go.Proofs.Ythiccnmplgdheaa.T
open Go Go.Abs Go.Proofs
theorem U64_of {k : Int} (h : 0 ≤ k ∧ k < 18446744073709551616) : U64 k := ⟨h.1, h.2⟩
end Go.Proofs.Ythiccnmplgdheaa.T
