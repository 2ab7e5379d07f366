/- Lemmas about the typed texts (joined: LFrame2 SPkt1 SRF1). -/
import Derived.Test.YthiccnmplgdheaaG17
import Derived.Test.YthiccnmplgdheaaG9
import Derived.Test.YthiccnmplgdheaaG11
/- The law FrameBack over typed texts: what is laid is read the same, however many; laid in parts it is the same bytes; sizes add up. -/
set_option linter.unusedVariables false
set_option linter.unusedSimpArgs false
namespace Go.Proofs.Ythiccnmplgdheaa.T
open Go Go.Abs Go.Proofs
theorem catT_ok (a b : List UInt8) (h : a.length + b.length ≤ 2 ^ 47) : catT (bsOf a) (bsOf b) = some (bsOf (a ++ b)) := by
  unfold catT
  have : bsOf a ++ bsOf b = bsOf (a ++ b) := by
    apply ByteArray.ext
    simp [bsOf]
  rw [← this]
  have hs : ∀ l : List UInt8, (bsOf l).size = l.length := fun l => by simp [bsOf, ByteArray.size]
  unfold strBin
  rw [hs, hs]
  have : decide (((a.length + b.length : Nat) : Int) ≤ IntKind.i64.max) = true := decide_eq_true (by show _ ≤ (9223372036854775807 : Int); omega)
  simp only [this]
  rfl
end Go.Proofs.Ythiccnmplgdheaa.T
/- Chapter 6's functions over the typed texts: a packet's head, packets laid, packets read, their room. -/
set_option linter.unusedVariables false
set_option linter.unusedSimpArgs false
set_option maxRecDepth 100000
namespace Go.Abs
open Go
theorem PO.appB1 {α : Type} {Q : α → Prop} {h0 h : H} {out : Sl} {l : List UInt8} {v : Int} {b : UInt8} {g : Sl → H → Option α} (hv : v = (b.toNat : Int)) (hb : BufB h out l) (hx : EX h0 h) (hf : Fr h0.size out) (hl : l.length + 1 ≤ 2 ^ 47)
    (k : ∀ out1 h2, BufB h2 out1 (l ++ [b]) → EX h0 h2 → Fr h0.size out1 → PO (g out1 h2) Q) : PO (newO (row 5 [.int .u8 v]) h fun b' h1 => bind2 (appT 5 1 1 h1 out ⟨some ⟨b', 0, some 0⟩, 1, 1⟩) g) Q := by
  subst hv
  rw [newO_eq, show row 5 [Value.int .u8 (b.toNat : Int)] = row 5 (vB [b]) from rfl]
  have x1 := wf_new hx.wf 5 (vB [b])
  have b1 : BufB _ ⟨some ⟨h.size, 0, some 0⟩, 1, 1⟩ [b] := bufB_new hx.wf 5 [b] (by simp [B63])
  generalize newAt (grow h 1) h.size (row 5 (vB [b])) = h1 at x1 b1 ⊢
  generalize (⟨some ⟨h.size, 0, some 0⟩, 1, 1⟩ : Sl) = s1 at b1 ⊢
  obtain ⟨out1, h2, e3, k3, x3, b3, _, f3⟩ := appB_ok (e := 5) x1.wf (hb.ex hx.wf x1) b1.rd (by simp; omega)
  exact .callE e3 (k out1 h2 b3 (x3 _ (hx.trans x1) hf) (f3 _ (hx.trans x1).size hf))
end Go.Abs
namespace Go.Proofs.Ythiccnmplgdheaa.T
open Go Go.Abs Go.Proofs
def headV (num k : Int) : List UInt8 := UInt8.ofNat (63 + k).toNat :: be k.toNat (num % sp k).toNat
theorem headV_length (num k : Int) : (headV num k).length = 1 + k.toNat := by unfold headV; rw [List.length_cons, be_length]; omega
theorem headOf_f {h : H} (w : WF h) (num k : Int) (h1 : 1 ≤ k) (h2 : k ≤ 4) : PO (packet_headOf num k h) (fun (a, h1) => BufB h1 a (headV num k) ∧ EX h h1 ∧ Fr h.size a) := by
  unfold packet_headOf P.packet_headOf
  have hsp := sp_pos k
  refine PO.letO ?_
  have hw : IntKind.wrap .u8 (IntKind.wrap .i64 ((IntKind.wrap .i64 (64 + k)) - 1)) = ((UInt8.ofNat (63 + k).toNat).toNat : Int) := by
    rcases (by omega : k = 1 ∨ k = 2 ∨ k = 3 ∨ k = 4) with rfl | rfl | rfl | rfl <;> decide
  rw [hw]
  refine PO.newB (l := vB [UInt8.ofNat (63 + k).toNat]) w fun g1 x1 B1 z1 w1 => .callE (cut_f num k h1 h2 _) ?_
  have b1 : BufB g1 ⟨some ⟨h.size, 0, some 0⟩, 1, 1⟩ [UInt8.ofNat (63 + k).toNat] := Box.buf (n := 1) B1 w1 rfl (by unfold B63; omega)
  have hm := emod_b num hsp.1
  generalize hc : num % sp k = c at *
  rw [w64 (n := 8 * k) (by omega) (by omega), w64 (n := 8 * k - 8) (by omega) (by omega)]
  refine PO.joinD (PO.mono (P := fun r => ∃ out h', r = Sum.inl (out, h') ∧ BufB h' out (headV num k) ∧ EX h h' ∧ Fr h.size out) ?_ ?_)
  · obtain ⟨kn, hk⟩ : ∃ kn : Nat, k = kn := ⟨k.toNat, by omega⟩
    subst hk
    refine PO.loop (fun m st => ∃ (out : Sl) (l : List UInt8) (h' : H), st = ((out, (c, 8 * (m : Int) - 8)), h') ∧ m ≤ 4 ∧ BufB h' out l ∧ EX h h' ∧ Fr h.size out ∧ l.length ≤ 6 - m ∧ l ++ be m c.toNat = headV num kn) ?_ kn _ ⟨_, _, g1, rfl, by omega, b1, x1, fr_new h _ _, by simp; omega, by unfold headV; rw [hc]; rfl⟩
    rintro m st ⟨out, l, h', rfl, hm4, hb, hx, hf, hl, hh⟩
    unfold P.packet_headOf_l1
    cases m with
    | zero =>
      refine .condD (fun cc => absurd cc (by simp)) (fun cc => .retR ⟨out, h', rfl, ?_, hx, hf⟩)
      rw [← hh]; simpa [be] using hb
    | succ m =>
      refine .condD (fun cc => ?_) (fun cc => absurd (show 8 * ((m + 1 : Nat) : Int) - 8 ≥ 0 by omega) cc)
      obtain ⟨y, e1, e2⟩ := byte_at (x := c) (by omega) m (by omega)
      rw [show (8 * ((m + 1 : Nat) : Int) - 8) = 8 * (m : Int) by omega]
      refine .op e1 (PO.appB1 e2 hb hx hf (by omega) fun out1 h2 b2 x2 f2 => .retL ⟨m, by omega, out1, _, h2, ?_, by omega, b2, x2, f2, by simp; omega, ?_⟩)
      · rw [w64 (by omega) (by omega)]
      · rw [← hh, List.append_assoc]; rfl
  · rintro _ ⟨out, h', rfl, hb, hx, hf⟩
    exact .ret ⟨hb, hx, hf⟩
theorem bytes_f2 (n a : Int) (h1 : a < n) (h2 : n - a < 9223372036854775808) (h : H) : pnum_Bytes n a h = some (nb (n - a), h) := by
  have hs1 : pnum_span 1 h = some (256, h) := span_f 1 (by omega) (by omega) h
  have hs2 : pnum_span 2 h = some (65536, h) := span_f 2 (by omega) (by omega) h
  have hs3 : pnum_span 3 h = some (16777216, h) := span_f 3 (by omega) (by omega) h
  have hd : IntKind.wrap .u64 (IntKind.wrap .u64 n - IntKind.wrap .u64 a) = n - a := by
    rw [wu64_mod, wu64_mod, wu64_mod]; omega
  have t1 : IntKind.wrap .u64 (IntKind.wrap .i64 (Int.tdiv 256 2)) = 128 := by decide +kernel
  have t2 : IntKind.wrap .u64 (IntKind.wrap .i64 (Int.tdiv 65536 2)) = 32768 := by decide +kernel
  have t3 : IntKind.wrap .u64 (IntKind.wrap .i64 (Int.tdiv 16777216 2)) = 8388608 := by decide +kernel
  have hle : ¬ n ≤ a := by omega
  unfold pnum_Bytes P.pnum_Bytes nb
  rw [loopO_eq]
  simp only [P.pnum_Bytes_l1, condK_eq, decide_eq_true_eq, hle, if_false, letO_eq, hd, hs1, bind2_some, t1, joinO_inl, show (1 : Int) < 4 by omega, if_true]
  by_cases c1 : n - a ≤ 128
  · simp [c1]
  simp only [c1, if_false]
  rw [w64 (by omega) (by omega), loopO_eq]
  simp only [P.pnum_Bytes_l1, condK_eq, decide_eq_true_eq, hle, if_false, letO_eq, hd, show (1 : Int) + 1 = 2 by omega, hs2, bind2_some, t2, joinO_inl, show (2 : Int) < 4 by omega, if_true]
  by_cases c2 : n - a ≤ 32768
  · simp [c2]
  simp only [c2, if_false]
  rw [w64 (by omega) (by omega), loopO_eq]
  simp only [P.pnum_Bytes_l1, condK_eq, decide_eq_true_eq, hle, if_false, letO_eq, hd, show (2 : Int) + 1 = 3 by omega, hs3, bind2_some, t3, joinO_inl, show (3 : Int) < 4 by omega, if_true]
  by_cases c3 : n - a ≤ 8388608
  · simp [c3]
  simp only [c3, if_false]
  rw [w64 (by omega) (by omega), loopO_eq]
  simp only [P.pnum_Bytes_l1, condK_eq, decide_eq_true_eq, show (3 : Int) + 1 = 4 by omega, show ¬ (4 : Int) < 4 by omega, if_false]
/-! laying -/
def pktOK (num acked : Int) : Prop := ¬ num < 0 ∧ ¬ num > 4611686018427387903 ∧ ¬ acked < -1 ∧ ¬ acked ≥ num
instance (num acked : Int) : Decidable (pktOK num acked) := by unfold pktOK; infer_instance
def pktB (key num acked : Int) (vs : List FV) : List UInt8 := headV num (nb (num - acked)) ++ closeV key num (headV num (nb (num - acked))) (layFs vs)
def pktLay (key num acked : Int) (vs : List FV) : Int ⊕ List UInt8 :=
  if ¬ pktOK num acked then .inl 1 else if ¬ ∀ v ∈ vs, FR v then .inl 1 else if (pktB key num acked vs).length > 240 then .inl 9 else .inr (pktB key num acked vs)
def BytesQ (h1 : H) (a : Sl × Int) : Int ⊕ List UInt8 → Prop
  | .inl e => a = (⟨none, 0, 0⟩, e)
  | .inr l => RdB h1 a.1 l ∧ a.2 = 0
theorem nb_rng (d : Int) : 1 ≤ nb d ∧ nb d ≤ 4 := by unfold nb; (repeat' split) <;> omega
theorem pktB_length (key num acked : Int) (vs : List FV) : ((pktB key num acked vs).length : Int) = 1 + nb (num - acked) + (layFs vs).length + 8 := by
  have := nb_rng (num - acked)
  unfold pktB
  rw [List.length_append, headV_length, closeV_length]; omega
theorem PLay_f {h : H} (w : WF h) {key num acked : Int} (hk : U64 key) {s : Sl} {xs : List F9} {vs : List FV} (r : RdF h s xs vs) (hn : vs.length ≤ 2 ^ 30) (hz : SzOK vs) :
    PO (packet_Lay key num acked s h) (fun (a, h1) => EX h h1 ∧ BytesQ h1 a (pktLay key num acked vs)) := by
  unfold packet_Lay P.packet_Lay pktLay
  refine PO.join (fun st => st = ((key, (num, (acked, (s, decide (¬ pktOK num acked))))), h)) ?_ ?_
  · refine .condD (fun c => .retL ?_) (fun c => .condD (fun c2 => .retL ?_) (fun c2 => .condD (fun c3 => .retL ?_) (fun c3 => .retL ?_)))
    · rw [decide_eq_true (show ¬ pktOK num acked from fun hh => hh.1 c)]
    · rw [decide_eq_true (show ¬ pktOK num acked from fun hh => hh.2.1 c2)]
    · rw [decide_eq_true (show ¬ pktOK num acked from fun hh => hh.2.2.1 c3)]
    · have : (acked ≥ num) ↔ ¬ pktOK num acked := ⟨fun hh hx => hx.2.2.2 hh, fun hh => Decidable.byContradiction fun hx => hh ⟨c, c2, c3, hx⟩⟩
      rw [decide_eq_decide.2 this]
  rintro _ rfl
  refine .condD (fun c => ?_) (fun c => ?_)
  · rw [if_pos c]; exact .ret ⟨EX.refl w, rfl⟩
  have ok : pktOK num acked := Decidable.byContradiction c
  rw [if_neg c]
  obtain ⟨o1, o2, o3, o4⟩ := ok
  refine PO.call (FLay_f w r hn hz) fun a h1 ⟨x1, ha⟩ => ?_
  by_cases hall : ∀ v ∈ vs, FR v
  · rw [if_pos hall] at ha
    rw [if_neg (fun hh => hh hall)]
    obtain ⟨s1, e1⟩ := a
    obtain ⟨rb, he⟩ := ha
    have he' : e1 = 0 := he
    subst he'
    have rb' : RdB h1 s1 (layFs vs) := rb
    have hll := layFs_length hall
    have hnb := nb_rng (num - acked)
    refine .condNE (fun hh => absurd rfl hh) (fun _ => .callE (bytes_f2 num acked (by omega) (by omega) _) ?_)
    refine PO.call (headOf_f x1.wf num _ hnb.1 hnb.2) fun s2 h2 ⟨b2, x2, f2⟩ => ?_
    have hhl := headV_length num (nb (num - acked))
    obtain ⟨s3, h3, rm, e3, x3, b3, f3⟩ := Close_f (num := num) x2.wf b2.rd (rb'.ex x2) (by omega) (by omega) hk
    have hcl := closeV_length key num (headV num (nb (num - acked))) (layFs vs)
    refine .callE e3 (PO.newB (l := [s2, s3].map encSl) x3.wf fun h4 x4 B4 z4 w4 => ?_)
    obtain ⟨s5, h5, rm5, e5, x5, b5, f5⟩ := Concat_f (xs := [s2, s3]) (ls := [headV num (nb (num - acked)), closeV key num (headV num (nb (num - acked))) (layFs vs)]) w4 (Box.rdS (n := 2) B4 w4 rfl (by unfold B63; omega)) ⟨⟨(b2.rd.ex x3).ex x4, by omega⟩, ⟨RdB.ex x4 b3.rd, by omega⟩, trivial⟩ (by simp) (by simp [cat]; omega) (by simp [cat]; omega)
    have hcat : cat [headV num (nb (num - acked)), closeV key num (headV num (nb (num - acked))) (layFs vs)] = pktB key num acked vs := by simp [cat, pktB]
    rw [hcat] at b5
    have r5 : RdB h5 s5 (pktB key num acked vs) := b5.rd
    have l5 := RdB.len r5
    refine .callE e5 (.condD (fun c => ?_) (fun c => ?_))
    · have c' : ((s5.len : Nat) : Int) > 240 := c
      rw [if_pos (by omega)]
      exact .ret ⟨(((x1.trans x2).trans x3).trans x4).trans x5, rfl⟩
    · have c' : ¬ ((s5.len : Nat) : Int) > 240 := c
      rw [if_neg (by omega)]
      exact .ret ⟨(((x1.trans x2).trans x3).trans x4).trans x5, r5, rfl⟩
  · rw [if_neg hall] at ha
    rw [if_pos hall]
    obtain ⟨s1, e1⟩ := a
    obtain ⟨rb, he⟩ := ha
    have he' : e1 = 1 := he
    subst he'
    exact .condNE (fun _ => .ret ⟨x1, rfl⟩) (fun hh => absurd hh (by omega))
theorem PRoom_f (num acked : Int) (h1 : acked < num) (h2 : num - acked < 9223372036854775808) (h : H) : packet_Room num acked h = some (231 - nb (num - acked), h) := by
  unfold packet_Room P.packet_Room
  have hnb := nb_rng (num - acked)
  rw [bytes_f2 num acked h1 h2, bind2_some]
  simp only
  rw [w64 (n := 239 - nb (num - acked)) (by omega) (by omega), w64 (by omega) (by omega)]
  simp only [Option.some.injEq, Prod.mk.injEq, and_true]; omega
/-! reading -/
def cutV (l : List UInt8) : Int := l.foldl (fun c b => c * 256 + (b.toNat : Int)) 0
theorem cutV_app (l : List UInt8) (b : UInt8) : cutV (l ++ [b]) = cutV l * 256 + (b.toNat : Int) := by simp [cutV]
theorem cutV_rng : ∀ (l : List UInt8) (n : Nat), l.length = n → 0 ≤ cutV l ∧ cutV l < 256 ^ n := by
  intro l n hn
  induction n generalizing l with
  | zero =>
    have : l = [] := List.eq_nil_of_length_eq_zero hn
    subst this; exact ⟨Int.le_refl _, by show (0 : Int) < 256 ^ 0; decide⟩
  | succ n ih =>
    have hne : l ≠ [] := by intro h; rw [h] at hn; simp at hn
    obtain ⟨l', b, rfl⟩ : ∃ l' b, l = l' ++ [b] := ⟨l.dropLast, l.getLast hne, (List.dropLast_concat_getLast hne).symm⟩
    have := ih l' (by rw [List.length_append, List.length_singleton] at hn; omega)
    have hb := b.toNat_lt
    rw [cutV_app, Int.pow_succ]; omega
theorem or_byte {c d : Int} (h : 0 ≤ c ∧ c < 4294967296) (hd : 0 ≤ d ∧ d < 256) : IntKind.wrap .i64 (((BitVec.toNat ((BitVec.ofInt 64 (IntKind.wrap .i64 (c * 256))) ||| (BitVec.ofInt 64 (IntKind.wrap .i64 d))) : Nat)) : Int) = c * 256 + d := by
  rw [w64 (n := c * 256) (by omega) (by omega), w64 (n := d) (by omega) (by omega)]
  obtain ⟨m, rfl⟩ : ∃ m : Nat, c = m := ⟨c.toNat, by omega⟩
  obtain ⟨e, rfl⟩ : ∃ e : Nat, d = e := ⟨d.toNat, by omega⟩
  have e1 : (m : Int) * 256 = ((m * 256 : Nat) : Int) := by omega
  rw [e1, BitVec.ofInt_natCast, BitVec.ofInt_natCast, BitVec.toNat_or, BitVec.toNat_ofNat, BitVec.toNat_ofNat, Nat.mod_eq_of_lt (by omega), Nat.mod_eq_of_lt (by omega)]
  have h2 : m * 256 ||| e = m * 256 + e := by
    have := Nat.shiftLeft_add_eq_or_of_lt (a := m) (b := e) (i := 8) (by omega)
    rw [Nat.shiftLeft_eq] at this
    exact this.symm
  rw [h2, w64 (by omega) (by omega)]; omega
def pktRead (key next : Int) (l : List UInt8) : Int × (Int ⊕ List FV) :=
  if l.length = 0 then (0, .inl 3)
  else if ((l.getD 0 0).toNat : Int) - 63 < 1 ∨ ((l.getD 0 0).toNat : Int) - 63 > 4 then (0, .inl 2)
  else if (l.length : Int) < 1 + (((l.getD 0 0).toNat : Int) - 63) + 8 then (0, .inl 3)
  else match openV key (bk (cutV ((l.drop 1).take ((l.getD 0 0).toNat - 63))) (sp (((l.getD 0 0).toNat : Int) - 63)) next) (l.take (1 + ((l.getD 0 0).toNat - 63))) (l.drop (1 + ((l.getD 0 0).toNat - 63))) with
    | none => (0, .inl 4)
    | some body => (bk (cutV ((l.drop 1).take ((l.getD 0 0).toNat - 63))) (sp (((l.getD 0 0).toNat : Int) - 63)) next, match pRead body.length body with
      | .inl _ => .inl 11
      | .inr [] => .inl 11
      | .inr (v :: vs) => .inr (v :: vs))
theorem slB_mid {h : H} {s : Sl} {l : List UInt8} (hr : RdB h s l) {lo hi : Int} (h0 : 0 ≤ lo) (h1 : lo ≤ hi) (h2 : hi ≤ l.length) : ∃ s', slT 1 h s (some lo) (some hi) none = some s' ∧ RdB h s' ((l.drop lo.toNat).take (hi.toNat - lo.toNat)) := by
  obtain ⟨s', e, r, _, _⟩ := sl_lohi (lo := lo) (hi := hi) (by omega) (by unfold B63; omega) hr h0 h1 (by rw [RdB.len hr]; exact h2)
  refine ⟨s', e, ?_⟩
  unfold RdB vB
  rw [List.map_take, List.map_drop]
  simpa [vB] using r
theorem openV_length {key num : Int} {hd l b : List UInt8} (h : openV key num hd l = some b) : b.length ≤ l.length := by
  unfold openV at h
  split at h
  · simp at h
  · split at h
    · cases h; rw [mk_length]; simp
    · simp at h
theorem PRead_f {h : H} (w : WF h) {key next : Int} (hk : U64 key) (hn : 0 ≤ next ∧ next ≤ 4611686018427387903) {s : Sl} {l : List UInt8} (r : RdB h s l) (hl : l.length ≤ 2 ^ 38) :
    PO (packet_Read key next s h) (fun (a, h1) => EX h h1 ∧ a.1 = (pktRead key next l).1 ∧ ReadQ h1 a.2 (pktRead key next l).2) := by
  unfold packet_Read P.packet_Read pktRead
  have hsl := RdB.len r
  refine .condE (fun c => ?_) (fun c => ?_)
  · rw [if_pos (by omega)]; exact .ret ⟨EX.refl w, rfl, rfl⟩
  rw [if_neg (by omega)]
  refine PO.ixB r (by omega) (by omega) fun a e1 => .op e1 (.letO ?_)
  rw [show (0 : Int).toNat = 0 from rfl]
  have hb := (l.getD 0 0).toNat_lt
  generalize hbv : (l.getD 0 0).toNat = bn at *
  rw [w64 (n := (bn : Int)) (by omega) (by omega), w64 (n := (bn : Int) - 64) (by omega) (by omega), w64 (n := (bn : Int) - 64 + 1) (by omega) (by omega), show (bn : Int) - 64 + 1 = (bn : Int) - 63 by omega]
  refine PO.join (fun st => st = ((key, (next, (s, ((bn : Int) - 63, decide ((bn : Int) - 63 < 1 ∨ (bn : Int) - 63 > 4))))), h)) ?_ ?_
  · refine .condD (fun c => .retL ?_) (fun c => .retL ?_)
    · rw [decide_eq_true (Or.inl c)]
    · have : ((bn : Int) - 63 > 4) ↔ ((bn : Int) - 63 < 1 ∨ (bn : Int) - 63 > 4) := ⟨.inr, fun hh => hh.resolve_left c⟩
      rw [decide_eq_decide.2 this]
  rintro _ rfl
  refine .condD (fun c => ?_) (fun c => ?_)
  · rw [if_pos c]; exact .ret ⟨EX.refl w, rfl, rfl⟩
  rw [if_neg c]
  obtain ⟨kn, hkn⟩ : ∃ kn : Nat, bn = 63 + kn := ⟨bn - 63, by omega⟩
  subst hkn
  have hk4 : 1 ≤ kn ∧ kn ≤ 4 := by omega
  rw [show ((63 + kn : Nat) : Int) - 63 = (kn : Int) by omega, show 63 + kn - 63 = kn by omega]
  rw [w64 (n := 1 + (kn : Int)) (by omega) (by omega), w64 (n := 1 + (kn : Int) + 8) (by omega) (by omega)]
  refine .letO (.condD (fun c2 => ?_) (fun c2 => ?_))
  · have c2' : ((s.len : Nat) : Int) < 1 + (kn : Int) + 8 := c2
    rw [if_pos (by omega)]; exact .ret ⟨EX.refl w, rfl, rfl⟩
  have c2' : ¬ ((s.len : Nat) : Int) < 1 + (kn : Int) + 8 := c2
  rw [if_neg (by omega)]
  refine PO.join (fun st => st = ((key, (next, (s, ((kn : Int), cutV ((l.drop 1).take kn))))), h)) ?_ ?_
  · obtain ⟨s1, e1, r1⟩ := slB_mid r (lo := 1) (hi := 1 + (kn : Int)) (by omega) (by omega) (by omega)
    rw [show (1 + (kn : Int)).toNat - (1 : Int).toNat = kn by omega, show (1 : Int).toNat = 1 from rfl] at r1
    have l1 := RdB.len r1
    refine .op e1 (PO.mono (P := fun st => st = Sum.inl ((key, (next, (s, ((kn : Int), cutV ((l.drop 1).take kn))))), h)) ?_ (fun _ e => e ▸ rfl))
    generalize hq : (l.drop 1).take kn = q at *
    have hql : q.length = kn := by rw [← hq]; simp; omega
    refine PO.loop (fun m st => ∃ i : Nat, st = ((key, (next, (s, ((kn : Int), (cutV (q.take i), (s1, (((s1.len : Nat) : Int), (i : Int)))))))), h) ∧ m + i = kn) ?_ kn _ ⟨0, rfl, rfl⟩
    rintro m st ⟨i, rfl, hm⟩
    unfold P.packet_Read_l1
    refine .condD (fun cc => ?_) (fun cc => ?_)
    · refine PO.ixB r1 (by omega) (by omega) fun a e2 => .op e2 (.letO (.retL ⟨m - 1, by omega, i + 1, ?_, by omega⟩))
      have hi : i < q.length := by omega
      have hr := cutV_rng (q.take i) i (by simp; omega)
      have hp : (256 : Int) ^ i ≤ 256 ^ 3 := by
        have := Nat.pow_le_pow_right (n := 256) (by omega) (show i ≤ 3 by omega)
        exact_mod_cast this
      have hbt := (q.getD i 0).toNat_lt
      rw [Int.toNat_natCast, or_byte (by omega) (by omega), take_succ_getD q 0 hi, cutV_app, w64 (n := (i : Int) + 1) (by omega) (by omega)]
      rfl
    · have : i = kn := by omega
      subst this
      rw [List.take_of_length_le (by omega)]
      exact .retR rfl
  rintro _ rfl
  have hcr := cutV_rng ((l.drop 1).take kn) kn (by simp; omega)
  refine .callE (back_f _ (kn : Int) next (by omega) (by omega) hn.1 hn.2 _) ?_
  generalize bk (cutV ((l.drop 1).take kn)) (sp (kn : Int)) next = num
  obtain ⟨s2, e2, r2⟩ := slB_hi (hi := 1 + (kn : Int)) r (by omega) (by omega)
  obtain ⟨s3, e3, r3⟩ := slB_lo (lo := 1 + (kn : Int)) r (by omega) (by omega)
  rw [show (1 + (kn : Int)).toNat = 1 + kn by omega] at r2 r3
  obtain ⟨s4, h4, e4, x4, r4⟩ := Open_f (num := num) w r2 r3 (by simp; omega) (by simp; omega) hk
  rw [w64 (n := 1 + (kn : Int)) (by omega) (by omega)]
  refine .op e2 (.op e3 (.callE e4 ?_))
  cases ho : openV key num (l.take (1 + kn)) (l.drop (1 + kn)) with
  | none => exact .condT (.ret ⟨x4, rfl, rfl⟩)
  | some body =>
    rw [ho] at r4
    have r4' : RdB h4 s4 body := r4
    show PO _ (fun ((a, h1) : (Int × Sl × Int) × H) => EX h h1 ∧ a.1 = num ∧ ReadQ h1 a.2 (match pRead body.length body with | .inl _ => .inl 11 | .inr [] => .inl 11 | .inr (v :: vs) => .inr (v :: vs)))
    have hbl := openV_length ho
    refine .condF (PO.call (FRead_f x4.wf r4' (by simp at hbl; omega)) fun a h5 ⟨x5, hq⟩ => ?_)
    obtain ⟨s5, e5⟩ := a
    cases hp : pRead body.length body with
    | inl e =>
      rw [hp] at hq
      have hq' : (s5, e5) = (⟨none, 0, 0⟩, e) := hq
      simp only [Prod.mk.injEq] at hq'
      obtain ⟨rfl, rfl⟩ := hq'
      refine PO.join (fun st => st = ((num, ((⟨none, 0, 0⟩ : Sl), true)), h5)) (.condNE (fun _ => .retL rfl) (fun _ => .retL rfl)) ?_
      rintro _ rfl
      exact .condT (.ret ⟨x4.trans x5, rfl, rfl⟩)
    | inr vs =>
      rw [hp] at hq
      obtain ⟨⟨xs, rf⟩, he⟩ := hq
      have he' : e5 = 0 := he
      subst he'
      have hl5 := RdF.len rf
      refine PO.join (fun st => st = ((num, (s5, decide (vs.length = 0))), h5)) (.condNE (fun hh => absurd rfl hh) (fun _ => .retL ?_)) ?_
      · have hl5' : s5.len = vs.length := hl5
        rw [hl5']
        have : (((vs.length : Nat) : Int) == 0) = decide (vs.length = 0) := by
          by_cases h0 : vs.length = 0
          · rw [h0]; rfl
          · rw [decide_eq_false h0]; simp; intro h1; subst h1; simp at h0
        rw [this]
      · rintro _ rfl
        cases vs with
        | nil => exact .condT (.ret ⟨x4.trans x5, rfl, rfl⟩)
        | cons v vs => exact .condF (.ret ⟨x4.trans x5, rfl, ⟨xs, rf⟩, rfl⟩)
end Go.Proofs.Ythiccnmplgdheaa.T
/- The reference's frames over the typed texts: what a kind names, right runs, right frames. -/
set_option linter.unusedVariables false
set_option linter.unusedSimpArgs false
set_option maxRecDepth 100000
namespace Go.Abs
open Go
/-- a box of its own, behind an older heap -/
structure OB (h0 : H) (b : Nat) (h : H) (L : List Value) : Prop where
  ex : EX h0 h
  hb : h0.size ≤ b
  box : Box h b L
section
variable {α : Type} {Q : α → Prop} {h0 h : H} {b i : Nat} {L : List Value}
theorem OB.st1 {v : Value} {f : H → Option α} (t : OB h0 b h L) (hi : i < L.length) (ho : oneC v = true) (p : ∀ h', OB h0 b h' (L.set i v) → PO (f h') Q) : PO (bindO (Abs.st1 h (add ⟨b, 0, some 0⟩ i) v) f) Q :=
  PO.st1 t.box t.ex.wf hi ho fun h' B u z w => p h' ⟨u.ex0 t.ex (fun A hA e => by have := t.hb; omega), t.hb, B⟩
theorem OB.cast {L' : List Value} (t : OB h0 b h L) (e : L = L') : OB h0 b h L' := e ▸ t
end
end Go.Abs
namespace Go.Proofs.Ythiccnmplgdheaa.T
open Go Go.Abs Go.Proofs
abbrev B7 := Bool × Bool × Bool × Bool × Bool × Bool × Bool
def b7L (x : B7) : List Value := [.bool x.1, .bool x.2.1, .bool x.2.2.1, .bool x.2.2.2.1, .bool x.2.2.2.2.1, .bool x.2.2.2.2.2.1, .bool x.2.2.2.2.2.2]
def nmV (k : Int) : B7 :=
  if k = 2 then (false, false, false, false, false, false, true)
  else if k = 3 then (true, true, false, false, true, true, false)
  else if k = 4 then (true, true, true, true, false, false, false)
  else if k = 5 ∨ k = 7 then (true, false, true, false, false, false, false)
  else if k = 6 ∨ k = 12 then (false, false, true, false, false, false, false)
  else if k = 8 then (false, false, true, false, true, false, false)
  else if k = 9 then (false, false, false, false, false, true, false)
  else if k = 10 ∨ k = 11 then (true, false, false, false, false, false, false)
  else (false, false, false, false, false, false, false)
theorem PO.ldB7 {α : Type} {Q : α → Prop} {h : H} {b : Nat} {x : B7} {f : B7 → Option α} (B : Box h b (b7L x)) (p : PO (f x) Q) : PO (bindO (Abs.ldZ [.bool, .bool, .bool, .bool, .bool, .bool, .bool] h ⟨b, 0, some 0⟩) f) Q := .op (B.ldZ [.bool, .bool, .bool, .bool, .bool, .bool, .bool] x rfl) p
/-! right frames -/
def nmOK (v : FV) (n : B7) : Prop := (n.1 = true ∨ v.id = 0) ∧ (n.2.1 = true ∨ v.off = 0) ∧ (n.2.2.1 = true ∨ v.a = 0) ∧ (n.2.2.2.1 = true ∨ v.b = 0) ∧ (n.2.2.2.2.1 = true ∨ v.fin = false) ∧ (n.2.2.2.2.2.1 = true ∨ v.data = []) ∧ (n.2.2.2.2.2.2 = true ∨ v.spans = [])
instance (v : FV) (n : B7) : Decidable (nmOK v n) := by unfold nmOK; infer_instance
theorem nmOK_iff (v : FV) : nmOK v (nmV v.kind) ↔ sameV v (bareV v) := by
  unfold nmOK sameV bareV nmV
  (repeat' split) <;> simp
end Go.Proofs.Ythiccnmplgdheaa.T
