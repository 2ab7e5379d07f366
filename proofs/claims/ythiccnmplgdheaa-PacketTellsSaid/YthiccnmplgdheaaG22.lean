/- Lemmas about the typed texts (joined: SPkt1 SRF1 SRF2). -/
import Derived.Test.YthiccnmplgdheaaG21
import Derived.Test.YthiccnmplgdheaaG10
import Derived.Test.YthiccnmplgdheaaG13
set_option linter.unusedVariables false
set_option linter.unusedSimpArgs false
set_option maxRecDepth 100000
namespace Go.Abs
open Go
theorem PO.appB1 {α : Type} {Q : α -> Prop} {h0 h : H} {out : Sl} {l : List UInt8} {v : Int} {b : UInt8} {g : Sl -> H -> Option α} (hv : v = (b.toNat : Int)) (hb : BufB h out l) (hx : EX h0 h) (hf : Fr h0.size out) (hl : l.length + 1 <= 2 ^ 47)
    (k : ∀ out1 h2, BufB h2 out1 (l ++ [b]) -> EX h0 h2 -> Fr h0.size out1 -> PO (g out1 h2) Q) : PO (newO (row 5 [.int .u8 v]) h fun b' h1 => bind2 (appT 5 1 1 h1 out ⟨some ⟨b', 0, some 0⟩, 1, 1⟩) g) Q := by
  subst hv
  rw [newO_eq, show row 5 [Value.int .u8 (b.toNat : Int)] = row 5 (vB [b]) from rfl]
  have x1 := wf_new hx.wf 5 (vB [b])
  have b1 : BufB _ ⟨some ⟨h.size, 0, some 0⟩, 1, 1⟩ [b] := bufB_new hx.wf 5 [b] (by simp [B63])
  generalize newAt (grow h 1) h.size (row 5 (vB [b])) = h1 at x1 b1 ⊢
  generalize (⟨some ⟨h.size, 0, some 0⟩, 1, 1⟩ : Sl) = s1 at b1 ⊢
  obtain ⟨out1, h2, e3, k3, x3, b3, _, f3⟩ := appB_ok (e := 5) x1.wf (hb.ex hx.wf x1) b1.rd (by simp; omega)
  exact .callE e3 (k out1 h2 b3 (x3 _ (hx.trans x1) hf) (f3 _ (hx.trans x1).size hf))
end Go.Abs
namespace Go.Proofs.Ythiccnmplgdheaa.T
open Go Go.Abs Go.Proofs
def headV (num k : Int) : List UInt8 := UInt8.ofNat (63 + k).toNat :: be k.toNat (num % sp k).toNat
theorem headV_length (num k : Int) : (headV num k).length = 1 + k.toNat := by unfold headV; rw [List.length_cons, be_length]; omega
theorem headOf_f {h : H} (w : WF h) (num k : Int) (h1 : 1 <= k) (h2 : k <= 4) : PO (packet_headOf num k h) (fun (a, h1) => BufB h1 a (headV num k) /\ EX h h1 /\ Fr h.size a) := by
  unfold packet_headOf P.packet_headOf
  have hsp := sp_pos k
  refine PO.letO ?_
  have hw : IntKind.wrap .u8 (IntKind.wrap .i64 ((IntKind.wrap .i64 (64 + k)) - 1)) = ((UInt8.ofNat (63 + k).toNat).toNat : Int) := by
    rcases (by omega : k = 1 \/ k = 2 \/ k = 3 \/ k = 4) with rfl | rfl | rfl | rfl <;> decide
  rw [hw]
  refine PO.newB (l := vB [UInt8.ofNat (63 + k).toNat]) w fun g1 x1 B1 z1 w1 => .callE (cut_f num k h1 h2 _) ?_
  have b1 : BufB g1 ⟨some ⟨h.size, 0, some 0⟩, 1, 1⟩ [UInt8.ofNat (63 + k).toNat] := Box.buf (n := 1) B1 w1 rfl (by unfold B63; omega)
  have hm := emod_b num hsp.1
  generalize hc : num % sp k = c at *
  rw [w64 (n := 8 * k) (by omega) (by omega), w64 (n := 8 * k - 8) (by omega) (by omega)]
  refine PO.joinD (PO.mono (P := fun r => ∃ out h', r = Sum.inl (out, h') /\ BufB h' out (headV num k) /\ EX h h' /\ Fr h.size out) ?_ ?_)
  · obtain ⟨kn, hk⟩ : ∃ kn : Nat, k = kn := ⟨k.toNat, by omega⟩
    subst hk
    refine PO.loop (fun m st => ∃ (out : Sl) (l : List UInt8) (h' : H), st = ((out, (c, 8 * (m : Int) - 8)), h') /\ m <= 4 /\ BufB h' out l /\ EX h h' /\ Fr h.size out /\ l.length <= 6 - m /\ l ++ be m c.toNat = headV num kn) ?_ kn _ ⟨_, _, g1, rfl, by omega, b1, x1, fr_new h _ _, by simp; omega, by unfold headV; rw [hc]; rfl⟩
    rintro m st ⟨out, l, h', rfl, hm4, hb, hx, hf, hl, hh⟩
    unfold P.packet_headOf_l1
    cases m with
    | zero =>
      refine .condD (fun cc => absurd cc (by simp)) (fun cc => .retR ⟨out, h', rfl, ?_, hx, hf⟩)
      rw [<- hh]; simpa [be] using hb
    | succ m =>
      refine .condD (fun cc => ?_) (fun cc => absurd (show 8 * ((m + 1 : Nat) : Int) - 8 >= 0 by omega) cc)
      obtain ⟨y, e1, e2⟩ := byte_at (x := c) (by omega) m (by omega)
      rw [show (8 * ((m + 1 : Nat) : Int) - 8) = 8 * (m : Int) by omega]
      refine .op e1 (PO.appB1 e2 hb hx hf (by omega) fun out1 h2 b2 x2 f2 => .retL ⟨m, by omega, out1, _, h2, ?_, by omega, b2, x2, f2, by simp; omega, ?_⟩)
      · rw [w64 (by omega) (by omega)]
      · rw [<- hh, List.append_assoc]; rfl
  · rintro _ ⟨out, h', rfl, hb, hx, hf⟩
    exact .ret ⟨hb, hx, hf⟩
theorem bytes_f2 (n a : Int) (h1 : a < n) (h2 : n - a < 9223372036854775808) (h : H) : pnum_Bytes n a h = some (nb (n - a), h) := by
  have hs1 : pnum_span 1 h = some (256, h) := span_f 1 (by omega) (by omega) h
  have hs2 : pnum_span 2 h = some (65536, h) := span_f 2 (by omega) (by omega) h
  have hs3 : pnum_span 3 h = some (16777216, h) := span_f 3 (by omega) (by omega) h
  have hd : IntKind.wrap .u64 (IntKind.wrap .u64 n - IntKind.wrap .u64 a) = n - a := by
    rw [wu64_mod, wu64_mod, wu64_mod]; omega
  have t1 : IntKind.wrap .u64 (IntKind.wrap .i64 (Int.tdiv 256 2)) = 128 := by decide +kernel
  have t2 : IntKind.wrap .u64 (IntKind.wrap .i64 (Int.tdiv 65536 2)) = 32768 := by decide +kernel
  have t3 : IntKind.wrap .u64 (IntKind.wrap .i64 (Int.tdiv 16777216 2)) = 8388608 := by decide +kernel
  have hle : ¬ n <= a := by omega
  unfold pnum_Bytes P.pnum_Bytes nb
  rw [loopO_eq]
  simp only [P.pnum_Bytes_l1, condK_eq, decide_eq_true_eq, hle, if_false, letO_eq, hd, hs1, bind2_some, t1, joinO_inl, show (1 : Int) < 4 by omega, if_true]
  by_cases c1 : n - a <= 128
  · simp [c1]
  simp only [c1, if_false]
  rw [w64 (by omega) (by omega), loopO_eq]
  simp only [P.pnum_Bytes_l1, condK_eq, decide_eq_true_eq, hle, if_false, letO_eq, hd, show (1 : Int) + 1 = 2 by omega, hs2, bind2_some, t2, joinO_inl, show (2 : Int) < 4 by omega, if_true]
  by_cases c2 : n - a <= 32768
  · simp [c2]
  simp only [c2, if_false]
  rw [w64 (by omega) (by omega), loopO_eq]
  simp only [P.pnum_Bytes_l1, condK_eq, decide_eq_true_eq, hle, if_false, letO_eq, hd, show (2 : Int) + 1 = 3 by omega, hs3, bind2_some, t3, joinO_inl, show (3 : Int) < 4 by omega, if_true]
  by_cases c3 : n - a <= 8388608
  · simp [c3]
  simp only [c3, if_false]
  rw [w64 (by omega) (by omega), loopO_eq]
  simp only [P.pnum_Bytes_l1, condK_eq, decide_eq_true_eq, show (3 : Int) + 1 = 4 by omega, show ¬ (4 : Int) < 4 by omega, if_false]
def pktOK (num acked : Int) : Prop := ¬ num < 0 /\ ¬ num > 4611686018427387903 /\ ¬ acked < -1 /\ ¬ acked >= num
instance (num acked : Int) : Decidable (pktOK num acked) := by unfold pktOK; infer_instance
def pktB (key num acked : Int) (vs : List FV) : List UInt8 := headV num (nb (num - acked)) ++ closeV key num (headV num (nb (num - acked))) (layFs vs)
def pktLay (key num acked : Int) (vs : List FV) : Int ⊕ List UInt8 :=
  if ¬ pktOK num acked then .inl 1 else if ¬ ∀ v ∈ vs, FR v then .inl 1 else if (pktB key num acked vs).length > 240 then .inl 9 else .inr (pktB key num acked vs)
def BytesQ (h1 : H) (a : Sl × Int) : Int ⊕ List UInt8 -> Prop
  | .inl e => a = (⟨none, 0, 0⟩, e)
  | .inr l => RdB h1 a.1 l /\ a.2 = 0
theorem nb_rng (d : Int) : 1 <= nb d /\ nb d <= 4 := by unfold nb; (repeat' split) <;> omega
theorem pktB_length (key num acked : Int) (vs : List FV) : ((pktB key num acked vs).length : Int) = 1 + nb (num - acked) + (layFs vs).length + 8 := by
  have := nb_rng (num - acked)
  unfold pktB
  rw [List.length_append, headV_length, closeV_length]; omega
theorem PLay_f {h : H} (w : WF h) {key num acked : Int} (hk : U64 key) {s : Sl} {xs : List F9} {vs : List FV} (r : RdF h s xs vs) (hn : vs.length <= 2 ^ 30) (hz : SzOK vs) :
    PO (packet_Lay key num acked s h) (fun (a, h1) => EX h h1 /\ BytesQ h1 a (pktLay key num acked vs)) := by
  unfold packet_Lay P.packet_Lay pktLay
  refine PO.join (fun st => st = ((key, (num, (acked, (s, decide (¬ pktOK num acked))))), h)) ?_ ?_
  · refine .condD (fun c => .retL ?_) (fun c => .condD (fun c2 => .retL ?_) (fun c2 => .condD (fun c3 => .retL ?_) (fun c3 => .retL ?_)))
    · rw [decide_eq_true (show ¬ pktOK num acked from fun hh => hh.1 c)]
    · rw [decide_eq_true (show ¬ pktOK num acked from fun hh => hh.2.1 c2)]
    · rw [decide_eq_true (show ¬ pktOK num acked from fun hh => hh.2.2.1 c3)]
    · have : (acked >= num) ↔ ¬ pktOK num acked := ⟨fun hh hx => hx.2.2.2 hh, fun hh => Decidable.byContradiction fun hx => hh ⟨c, c2, c3, hx⟩⟩
      rw [decide_eq_decide.2 this]
  rintro _ rfl
  refine .condD (fun c => ?_) (fun c => ?_)
  · rw [if_pos c]; exact .ret ⟨EX.refl w, rfl⟩
  have ok : pktOK num acked := Decidable.byContradiction c
  rw [if_neg c]
  obtain ⟨o1, o2, o3, o4⟩ := ok
  refine PO.call (FLay_f w r hn hz) fun a h1 ⟨x1, ha⟩ => ?_
  by_cases hall : ∀ v ∈ vs, FR v
  · rw [if_pos hall] at ha
    rw [if_neg (fun hh => hh hall)]
    obtain ⟨s1, e1⟩ := a
    obtain ⟨rb, he⟩ := ha
    have he' : e1 = 0 := he
    subst he'
    have rb' : RdB h1 s1 (layFs vs) := rb
    have hll := layFs_length hall
    have hnb := nb_rng (num - acked)
    refine .condNE (fun hh => absurd rfl hh) (fun _ => .callE (bytes_f2 num acked (by omega) (by omega) _) ?_)
    refine PO.call (headOf_f x1.wf num _ hnb.1 hnb.2) fun s2 h2 ⟨b2, x2, f2⟩ => ?_
    have hhl := headV_length num (nb (num - acked))
    obtain ⟨s3, h3, rm, e3, x3, b3, f3⟩ := Close_f (num := num) x2.wf b2.rd (rb'.ex x2) (by omega) (by omega) hk
    have hcl := closeV_length key num (headV num (nb (num - acked))) (layFs vs)
    refine .callE e3 (PO.newB (l := [s2, s3].map encSl) x3.wf fun h4 x4 B4 z4 w4 => ?_)
    obtain ⟨s5, h5, rm5, e5, x5, b5, f5⟩ := Concat_f (xs := [s2, s3]) (ls := [headV num (nb (num - acked)), closeV key num (headV num (nb (num - acked))) (layFs vs)]) w4 (Box.rdS (n := 2) B4 w4 rfl (by unfold B63; omega)) ⟨⟨(b2.rd.ex x3).ex x4, by omega⟩, ⟨RdB.ex x4 b3.rd, by omega⟩, trivial⟩ (by simp) (by simp [cat]; omega) (by simp [cat]; omega)
    have hcat : cat [headV num (nb (num - acked)), closeV key num (headV num (nb (num - acked))) (layFs vs)] = pktB key num acked vs := by simp [cat, pktB]
    rw [hcat] at b5
    have r5 : RdB h5 s5 (pktB key num acked vs) := b5.rd
    have l5 := RdB.len r5
    refine .callE e5 (.condD (fun c => ?_) (fun c => ?_))
    · have c' : ((s5.len : Nat) : Int) > 240 := c
      rw [if_pos (by omega)]
      exact .ret ⟨(((x1.trans x2).trans x3).trans x4).trans x5, rfl⟩
    · have c' : ¬ ((s5.len : Nat) : Int) > 240 := c
      rw [if_neg (by omega)]
      exact .ret ⟨(((x1.trans x2).trans x3).trans x4).trans x5, r5, rfl⟩
  · rw [if_neg hall] at ha
    rw [if_pos hall]
    obtain ⟨s1, e1⟩ := a
    obtain ⟨rb, he⟩ := ha
    have he' : e1 = 1 := he
    subst he'
    exact .condNE (fun _ => .ret ⟨x1, rfl⟩) (fun hh => absurd hh (by omega))
theorem PRoom_f (num acked : Int) (h1 : acked < num) (h2 : num - acked < 9223372036854775808) (h : H) : packet_Room num acked h = some (231 - nb (num - acked), h) := by
  unfold packet_Room P.packet_Room
  have hnb := nb_rng (num - acked)
  rw [bytes_f2 num acked h1 h2, bind2_some]
  simp only
  rw [w64 (n := 239 - nb (num - acked)) (by omega) (by omega), w64 (by omega) (by omega)]
  simp only [Option.some.injEq, Prod.mk.injEq, and_true]; omega
def cutV (l : List UInt8) : Int := l.foldl (fun c b => c * 256 + (b.toNat : Int)) 0
theorem cutV_app (l : List UInt8) (b : UInt8) : cutV (l ++ [b]) = cutV l * 256 + (b.toNat : Int) := by simp [cutV]
theorem cutV_rng : ∀ (l : List UInt8) (n : Nat), l.length = n -> 0 <= cutV l /\ cutV l < 256 ^ n := by
  intro l n hn
  induction n generalizing l with
  | zero =>
    have : l = [] := List.eq_nil_of_length_eq_zero hn
    subst this; exact ⟨Int.le_refl _, by show (0 : Int) < 256 ^ 0; decide⟩
  | succ n ih =>
    have hne : l ≠ [] := by intro h; rw [h] at hn; simp at hn
    obtain ⟨l', b, rfl⟩ : ∃ l' b, l = l' ++ [b] := ⟨l.dropLast, l.getLast hne, (List.dropLast_concat_getLast hne).symm⟩
    have := ih l' (by rw [List.length_append, List.length_singleton] at hn; omega)
    have hb := b.toNat_lt
    rw [cutV_app, Int.pow_succ]; omega
theorem or_byte {c d : Int} (h : 0 <= c /\ c < 4294967296) (hd : 0 <= d /\ d < 256) : IntKind.wrap .i64 (((BitVec.toNat ((BitVec.ofInt 64 (IntKind.wrap .i64 (c * 256))) ||| (BitVec.ofInt 64 (IntKind.wrap .i64 d))) : Nat)) : Int) = c * 256 + d := by
  rw [w64 (n := c * 256) (by omega) (by omega), w64 (n := d) (by omega) (by omega)]
  obtain ⟨m, rfl⟩ : ∃ m : Nat, c = m := ⟨c.toNat, by omega⟩
  obtain ⟨e, rfl⟩ : ∃ e : Nat, d = e := ⟨d.toNat, by omega⟩
  have e1 : (m : Int) * 256 = ((m * 256 : Nat) : Int) := by omega
  rw [e1, BitVec.ofInt_natCast, BitVec.ofInt_natCast, BitVec.toNat_or, BitVec.toNat_ofNat, BitVec.toNat_ofNat, Nat.mod_eq_of_lt (by omega), Nat.mod_eq_of_lt (by omega)]
  have h2 : m * 256 ||| e = m * 256 + e := by
    have := Nat.shiftLeft_add_eq_or_of_lt (a := m) (b := e) (i := 8) (by omega)
    rw [Nat.shiftLeft_eq] at this
    exact this.symm
  rw [h2, w64 (by omega) (by omega)]; omega
def pktRead (key next : Int) (l : List UInt8) : Int × (Int ⊕ List FV) :=
  if l.length = 0 then (0, .inl 3)
  else if ((l.getD 0 0).toNat : Int) - 63 < 1 \/ ((l.getD 0 0).toNat : Int) - 63 > 4 then (0, .inl 2)
  else if (l.length : Int) < 1 + (((l.getD 0 0).toNat : Int) - 63) + 8 then (0, .inl 3)
  else match openV key (bk (cutV ((l.drop 1).take ((l.getD 0 0).toNat - 63))) (sp (((l.getD 0 0).toNat : Int) - 63)) next) (l.take (1 + ((l.getD 0 0).toNat - 63))) (l.drop (1 + ((l.getD 0 0).toNat - 63))) with
    | none => (0, .inl 4)
    | some body => (bk (cutV ((l.drop 1).take ((l.getD 0 0).toNat - 63))) (sp (((l.getD 0 0).toNat : Int) - 63)) next, match pRead body.length body with
      | .inl _ => .inl 11
      | .inr [] => .inl 11
      | .inr (v :: vs) => .inr (v :: vs))
theorem slB_mid {h : H} {s : Sl} {l : List UInt8} (hr : RdB h s l) {lo hi : Int} (h0 : 0 <= lo) (h1 : lo <= hi) (h2 : hi <= l.length) : ∃ s', slT 1 h s (some lo) (some hi) none = some s' /\ RdB h s' ((l.drop lo.toNat).take (hi.toNat - lo.toNat)) := by
  obtain ⟨s', e, r, _, _⟩ := sl_lohi (lo := lo) (hi := hi) (by omega) (by unfold B63; omega) hr h0 h1 (by rw [RdB.len hr]; exact h2)
  refine ⟨s', e, ?_⟩
  unfold RdB vB
  rw [List.map_take, List.map_drop]
  simpa [vB] using r
theorem openV_length {key num : Int} {hd l b : List UInt8} (h : openV key num hd l = some b) : b.length <= l.length := by
  unfold openV at h
  split at h
  · simp at h
  · split at h
    · cases h; rw [mk_length]; simp
    · simp at h
theorem PRead_f {h : H} (w : WF h) {key next : Int} (hk : U64 key) (hn : 0 <= next /\ next <= 4611686018427387903) {s : Sl} {l : List UInt8} (r : RdB h s l) (hl : l.length <= 2 ^ 38) :
    PO (packet_Read key next s h) (fun (a, h1) => EX h h1 /\ a.1 = (pktRead key next l).1 /\ ReadQ h1 a.2 (pktRead key next l).2) := by
  unfold packet_Read P.packet_Read pktRead
  have hsl := RdB.len r
  refine .condE (fun c => ?_) (fun c => ?_)
  · rw [if_pos (by omega)]; exact .ret ⟨EX.refl w, rfl, rfl⟩
  rw [if_neg (by omega)]
  refine PO.ixB r (by omega) (by omega) fun a e1 => .op e1 (.letO ?_)
  rw [show (0 : Int).toNat = 0 from rfl]
  have hb := (l.getD 0 0).toNat_lt
  generalize hbv : (l.getD 0 0).toNat = bn at *
  rw [w64 (n := (bn : Int)) (by omega) (by omega), w64 (n := (bn : Int) - 64) (by omega) (by omega), w64 (n := (bn : Int) - 64 + 1) (by omega) (by omega), show (bn : Int) - 64 + 1 = (bn : Int) - 63 by omega]
  refine PO.join (fun st => st = ((key, (next, (s, ((bn : Int) - 63, decide ((bn : Int) - 63 < 1 \/ (bn : Int) - 63 > 4))))), h)) ?_ ?_
  · refine .condD (fun c => .retL ?_) (fun c => .retL ?_)
    · rw [decide_eq_true (Or.inl c)]
    · have : ((bn : Int) - 63 > 4) ↔ ((bn : Int) - 63 < 1 \/ (bn : Int) - 63 > 4) := ⟨.inr, fun hh => hh.resolve_left c⟩
      rw [decide_eq_decide.2 this]
  rintro _ rfl
  refine .condD (fun c => ?_) (fun c => ?_)
  · rw [if_pos c]; exact .ret ⟨EX.refl w, rfl, rfl⟩
  rw [if_neg c]
  obtain ⟨kn, hkn⟩ : ∃ kn : Nat, bn = 63 + kn := ⟨bn - 63, by omega⟩
  subst hkn
  have hk4 : 1 <= kn /\ kn <= 4 := by omega
  rw [show ((63 + kn : Nat) : Int) - 63 = (kn : Int) by omega, show 63 + kn - 63 = kn by omega]
  rw [w64 (n := 1 + (kn : Int)) (by omega) (by omega), w64 (n := 1 + (kn : Int) + 8) (by omega) (by omega)]
  refine .letO (.condD (fun c2 => ?_) (fun c2 => ?_))
  · have c2' : ((s.len : Nat) : Int) < 1 + (kn : Int) + 8 := c2
    rw [if_pos (by omega)]; exact .ret ⟨EX.refl w, rfl, rfl⟩
  have c2' : ¬ ((s.len : Nat) : Int) < 1 + (kn : Int) + 8 := c2
  rw [if_neg (by omega)]
  refine PO.join (fun st => st = ((key, (next, (s, ((kn : Int), cutV ((l.drop 1).take kn))))), h)) ?_ ?_
  · obtain ⟨s1, e1, r1⟩ := slB_mid r (lo := 1) (hi := 1 + (kn : Int)) (by omega) (by omega) (by omega)
    rw [show (1 + (kn : Int)).toNat - (1 : Int).toNat = kn by omega, show (1 : Int).toNat = 1 from rfl] at r1
    have l1 := RdB.len r1
    refine .op e1 (PO.mono (P := fun st => st = Sum.inl ((key, (next, (s, ((kn : Int), cutV ((l.drop 1).take kn))))), h)) ?_ (fun _ e => e ▸ rfl))
    generalize hq : (l.drop 1).take kn = q at *
    have hql : q.length = kn := by rw [<- hq]; simp; omega
    refine PO.loop (fun m st => ∃ i : Nat, st = ((key, (next, (s, ((kn : Int), (cutV (q.take i), (s1, (((s1.len : Nat) : Int), (i : Int)))))))), h) /\ m + i = kn) ?_ kn _ ⟨0, rfl, rfl⟩
    rintro m st ⟨i, rfl, hm⟩
    unfold P.packet_Read_l1
    refine .condD (fun cc => ?_) (fun cc => ?_)
    · refine PO.ixB r1 (by omega) (by omega) fun a e2 => .op e2 (.letO (.retL ⟨m - 1, by omega, i + 1, ?_, by omega⟩))
      have hi : i < q.length := by omega
      have hr := cutV_rng (q.take i) i (by simp; omega)
      have hp : (256 : Int) ^ i <= 256 ^ 3 := by
        have := Nat.pow_le_pow_right (n := 256) (by omega) (show i <= 3 by omega)
        exact_mod_cast this
      have hbt := (q.getD i 0).toNat_lt
      rw [Int.toNat_natCast, or_byte (by omega) (by omega), take_succ_getD q 0 hi, cutV_app, w64 (n := (i : Int) + 1) (by omega) (by omega)]
      rfl
    · have : i = kn := by omega
      subst this
      rw [List.take_of_length_le (by omega)]
      exact .retR rfl
  rintro _ rfl
  have hcr := cutV_rng ((l.drop 1).take kn) kn (by simp; omega)
  refine .callE (back_f _ (kn : Int) next (by omega) (by omega) hn.1 hn.2 _) ?_
  generalize bk (cutV ((l.drop 1).take kn)) (sp (kn : Int)) next = num
  obtain ⟨s2, e2, r2⟩ := slB_hi (hi := 1 + (kn : Int)) r (by omega) (by omega)
  obtain ⟨s3, e3, r3⟩ := slB_lo (lo := 1 + (kn : Int)) r (by omega) (by omega)
  rw [show (1 + (kn : Int)).toNat = 1 + kn by omega] at r2 r3
  obtain ⟨s4, h4, e4, x4, r4⟩ := Open_f (num := num) w r2 r3 (by simp; omega) (by simp; omega) hk
  rw [w64 (n := 1 + (kn : Int)) (by omega) (by omega)]
  refine .op e2 (.op e3 (.callE e4 ?_))
  cases ho : openV key num (l.take (1 + kn)) (l.drop (1 + kn)) with
  | none => exact .condT (.ret ⟨x4, rfl, rfl⟩)
  | some body =>
    rw [ho] at r4
    have r4' : RdB h4 s4 body := r4
    show PO _ (fun ((a, h1) : (Int × Sl × Int) × H) => EX h h1 /\ a.1 = num /\ ReadQ h1 a.2 (match pRead body.length body with | .inl _ => .inl 11 | .inr [] => .inl 11 | .inr (v :: vs) => .inr (v :: vs)))
    have hbl := openV_length ho
    refine .condF (PO.call (FRead_f x4.wf r4' (by simp at hbl; omega)) fun a h5 ⟨x5, hq⟩ => ?_)
    obtain ⟨s5, e5⟩ := a
    cases hp : pRead body.length body with
    | inl e =>
      rw [hp] at hq
      have hq' : (s5, e5) = (⟨none, 0, 0⟩, e) := hq
      simp only [Prod.mk.injEq] at hq'
      obtain ⟨rfl, rfl⟩ := hq'
      refine PO.join (fun st => st = ((num, ((⟨none, 0, 0⟩ : Sl), true)), h5)) (.condNE (fun _ => .retL rfl) (fun _ => .retL rfl)) ?_
      rintro _ rfl
      exact .condT (.ret ⟨x4.trans x5, rfl, rfl⟩)
    | inr vs =>
      rw [hp] at hq
      obtain ⟨⟨xs, rf⟩, he⟩ := hq
      have he' : e5 = 0 := he
      subst he'
      have hl5 := RdF.len rf
      refine PO.join (fun st => st = ((num, (s5, decide (vs.length = 0))), h5)) (.condNE (fun hh => absurd rfl hh) (fun _ => .retL ?_)) ?_
      · have hl5' : s5.len = vs.length := hl5
        rw [hl5']
        have : (((vs.length : Nat) : Int) == 0) = decide (vs.length = 0) := by
          by_cases h0 : vs.length = 0
          · rw [h0]; rfl
          · rw [decide_eq_false h0]; simp; intro h1; subst h1; simp at h0
        rw [this]
      · rintro _ rfl
        cases vs with
        | nil => exact .condT (.ret ⟨x4.trans x5, rfl, rfl⟩)
        | cons v vs => exact .condF (.ret ⟨x4.trans x5, rfl, ⟨xs, rf⟩, rfl⟩)
end Go.Proofs.Ythiccnmplgdheaa.T
set_option maxRecDepth 100000
namespace Go.Abs
open Go
/-- a box of its own, behind an older heap -/
structure OB (h0 : H) (b : Nat) (h : H) (L : List Value) : Prop where
  ex : EX h0 h
  hb : h0.size <= b
  box : Box h b L
section
variable {α : Type} {Q : α -> Prop} {h0 h : H} {b i : Nat} {L : List Value}
theorem OB.st1 {v : Value} {f : H -> Option α} (t : OB h0 b h L) (hi : i < L.length) (ho : oneC v = true) (p : ∀ h', OB h0 b h' (L.set i v) -> PO (f h') Q) : PO (bindO (Abs.st1 h (add ⟨b, 0, some 0⟩ i) v) f) Q :=
  PO.st1 t.box t.ex.wf hi ho fun h' B u z w => p h' ⟨u.ex0 t.ex (fun A hA e => by have := t.hb; omega), t.hb, B⟩
theorem OB.cast {L' : List Value} (t : OB h0 b h L) (e : L = L') : OB h0 b h L' := e ▸ t
end
end Go.Abs
namespace Go.Proofs.Ythiccnmplgdheaa.T
open Go Go.Abs Go.Proofs
abbrev B7 := Bool × Bool × Bool × Bool × Bool × Bool × Bool
def b7L (x : B7) : List Value := [.bool x.1, .bool x.2.1, .bool x.2.2.1, .bool x.2.2.2.1, .bool x.2.2.2.2.1, .bool x.2.2.2.2.2.1, .bool x.2.2.2.2.2.2]
def nmV (k : Int) : B7 :=
  if k = 2 then (false, false, false, false, false, false, true)
  else if k = 3 then (true, true, false, false, true, true, false)
  else if k = 4 then (true, true, true, true, false, false, false)
  else if k = 5 \/ k = 7 then (true, false, true, false, false, false, false)
  else if k = 6 \/ k = 12 then (false, false, true, false, false, false, false)
  else if k = 8 then (false, false, true, false, true, false, false)
  else if k = 9 then (false, false, false, false, false, true, false)
  else if k = 10 \/ k = 11 then (true, false, false, false, false, false, false)
  else (false, false, false, false, false, false, false)
theorem PO.ldB7 {α : Type} {Q : α -> Prop} {h : H} {b : Nat} {x : B7} {f : B7 -> Option α} (B : Box h b (b7L x)) (p : PO (f x) Q) : PO (bindO (Abs.ldZ [.bool, .bool, .bool, .bool, .bool, .bool, .bool] h ⟨b, 0, some 0⟩) f) Q := .op (B.ldZ [.bool, .bool, .bool, .bool, .bool, .bool, .bool] x rfl) p
theorem names_f {h : H} (w : WF h) (k : Int) : PO (ref1_names k h) (fun (a, h1) => a = nmV k /\ EX h h1) := by
  unfold ref1_names
  refine PO.newB w fun g0 x0 B0 z0 w0 => ?_
  have t0 : OB h h.size g0 (b7L (false, false, false, false, false, false, false)) := ⟨x0, Nat.le_refl _, B0⟩
  refine PO.join (fun s => s.1 = some ⟨h.size, 0, some 0⟩ /\ OB h h.size s.2 (b7L (nmV k))) ?_ ?_
  · clear B0 x0 w0 z0
    repeat' (first
      | refine .condE (fun e => ?_) (fun e => ?_)
      | refine PO.ixA (by omega) (by omega) ?_
      | refine OB.st1 (by assumption) (by decide) rfl (fun h' t => ?_)
      | refine PO.retL ⟨rfl, OB.cast (by assumption) ?_⟩)
    all_goals (first | (exfalso; omega) | (simp [nmV, *]; done) | (simp only [nmV, *]; rfl))
  · rintro ⟨s, h1⟩ ⟨rfl, t1⟩
    have t : OB h h.size h1 (b7L (nmV k)) := t1
    refine .ptr (PO.ldB7 t.box (.ptr (PO.stZ t.box t.ex.wf rfl rfl fun h2 B2 u2 z2 w2 => .ptr (PO.ldB7 (x := nmV k) B2 (.ret ⟨rfl, u2.ex0 t.ex (fun A hA e => by have := t.hb; omega)⟩)))))
theorem rrightSpans_f {h : H} (w : WF h) {s : Sl} {l : List Run} (hr : RdR h s l) (hl : l.length <= 2 ^ 40) : ref1_rightSpans s h = some (decide (RSs l), h) := by
  have hlen := RdR.len hr
  have main : PO (ref1_rightSpans s h) (fun (a, h1) => a = decide (RSs l) /\ h1 = h) := by
    unfold ref1_rightSpans P.ref1_rightSpans
    refine PO.join (fun st => st = ((s, decide (¬ (1 <= l.length /\ l.length <= 8))), h)) (.condD (fun c => .retL ?_) (fun c => .retL ?_)) ?_
    · have c' : ((s.len : Nat) : Int) < 1 := c
      rw [decide_eq_true (show ¬ (1 <= l.length /\ l.length <= 8) by omega)]
    · have c' : ¬ ((s.len : Nat) : Int) < 1 := c
      have : (((s.len : Nat) : Int) > 8) ↔ ¬ (1 <= l.length /\ l.length <= 8) := by omega
      rw [decide_eq_decide.2 this]
    rintro _ rfl
    refine .condD (fun c => .ret ⟨(decide_eq_false fun hh => c hh.2).symm, rfl⟩) (fun c => ?_)
    have c' : 1 <= l.length /\ l.length <= 8 := Decidable.byContradiction c
    refine PO.loop (fun m st => ∃ i : Nat, st = ((s, (i : Int)), h) /\ m + i = l.length /\ (RSp (prevOf l i) (l.drop i) ↔ RSp none l) /\ (∀ q, prevOf l i = some q -> okN q)) ?_ l.length _ ⟨0, rfl, rfl, by simp [prevOf], by simp [prevOf]⟩
    rintro m st ⟨i, rfl, hm, hiff, hq⟩
    unfold P.ref1_rightSpans_l1
    refine .condD (fun c => ?_) (fun c => ?_)
    · have hd : l.drop i = l.getD i (0, 0) :: l.drop (i + 1) := by
        rw [List.drop_eq_getElem_cons (by omega)]; simp [List.getD, show i < l.length by omega]
      have hpn : prevOf l (i + 1) = some (l.getD i (0, 0)).1 := by unfold prevOf; rw [if_neg (by omega)]; rfl
      have rsc : ∀ (p : Option Int) (r : Run) (q : List Run), RSp p (r :: q) ↔ (okN r.1 /\ okN r.2) /\ r.1 <= r.2 /\ (∀ u, p = some u -> 2 <= u - r.2) /\ RSp (some r.1) q := fun _ _ _ => Iff.rfl
      rw [hd, rsc] at hiff
      refine PO.join (fun st => ∃ bad : Bool, st = ((s, ((i : Int), bad)), h) /\ (bad = true ↔ ¬ ((okN (l.getD i (0, 0)).1 /\ okN (l.getD i (0, 0)).2) /\ (l.getD i (0, 0)).1 <= (l.getD i (0, 0)).2 /\ ∀ u, prevOf l i = some u -> 2 <= u - (l.getD i (0, 0)).2))) ?_ ?_
      · refine .ixR hr (by omega) (by omega) fun a _ _ _ _ ea eb => .ixA (by omega) (by omega) ?_
        simp only [Int.toNat_natCast] at ea eb
        refine .op ea (.callE (may_f _ _) (.condND (fun hb => .retL ⟨true, rfl, ?_⟩) (fun hb => ?_)))
        · simp only [true_iff]; exact fun hh => hb hh.1.1
        refine .ixR hr (by omega) (by omega) fun a _ _ _ _ ea eb => .ixA (by omega) (by omega) ?_
        simp only [Int.toNat_natCast] at ea eb
        refine .op eb (.callE (may_f _ _) (.condND (fun hb2 => .retL ⟨true, rfl, ?_⟩) (fun hb2 => ?_)))
        · simp only [true_iff]; exact fun hh => hb2 hh.1.2
        refine .ixR hr (by omega) (by omega) fun a _ _ _ _ ea _ => .ixA (by omega) (by omega) ?_
        simp only [Int.toNat_natCast] at ea
        refine .op ea (.ixR hr (by omega) (by omega) fun a _ _ _ _ _ eb => .ixA (by omega) (by omega) ?_)
        simp only [Int.toNat_natCast] at eb
        refine .op eb (.condD (fun hc => .retL ⟨true, rfl, ?_⟩) (fun hc => .condD (fun h0 => ?_) (fun h0 => .retL ⟨false, rfl, ?_⟩)))
        · have hc' : (l.getD i (0, 0)).1 > (l.getD i (0, 0)).2 := hc
          simp only [true_iff]; exact fun hh => by omega
        · have hip : 0 < i := by have h0' : (i : Int) > 0 := h0; omega
          have hc' : ¬ (l.getD i (0, 0)).1 > (l.getD i (0, 0)).2 := hc
          rw [w64 (n := (i : Int) - 1) (by omega) (by omega), show (i : Int) - 1 = ((i - 1 : Nat) : Int) by omega]
          refine .ixR hr (by omega) (by omega) fun a _ _ _ _ ep _ => .ixA (by omega) (by omega) ?_
          simp only [Int.toNat_natCast] at ep
          refine .op ep (.ixR hr (by omega) (by omega) fun a _ _ _ _ _ eb => .ixA (by omega) (by omega) ?_)
          simp only [Int.toNat_natCast] at eb
          have hpv : prevOf l i = some (l.getD (i - 1) (0, 0)).1 := by unfold prevOf; rw [if_neg (by omega)]
          have hq' := hq _ hpv
          refine .op eb (.retL ⟨_, rfl, ?_⟩)
          unfold okN at hq' hb hb2
          rw [w64 (n := (l.getD (i - 1) (0, 0)).1 - (l.getD i (0, 0)).2) (by omega) (by omega), decide_eq_true_eq]
          constructor
          · intro hh hall
            have := hall.2.2 _ hpv
            omega
          · intro hh
            refine Decidable.byContradiction fun h2 => hh ⟨⟨hb, hb2⟩, by omega, fun u hu => ?_⟩
            rw [hpv] at hu; cases hu; omega
        · have : i = 0 := by have h0' : ¬ (i : Int) > 0 := h0; omega
          have hc' : ¬ (l.getD i (0, 0)).1 > (l.getD i (0, 0)).2 := hc
          simp only [Bool.false_eq_true, false_iff, Decidable.not_not]
          exact ⟨⟨hb, hb2⟩, by omega, fun u hu => by rw [this] at hu; simp [prevOf] at hu⟩
      · rintro _ ⟨bad, rfl, hbad⟩
        refine .cond (fun hb => .retR ⟨(decide_eq_false fun hall => ?_).symm, rfl⟩) (fun hb => .retL ⟨m - 1, by omega, i + 1, ?_, by omega, ?_, ?_⟩)
        · exact (hbad.1 hb) (by have := hiff.2 hall.1; exact ⟨this.1, this.2.1, this.2.2.1⟩)
        · rw [w64 (n := (i : Int) + 1) (by omega) (by omega)]; rfl
        · have hg := Decidable.byContradiction fun hh => by rw [hbad.2 hh] at hb; simp at hb
          rw [hpn, <- hiff]
          exact ⟨fun hh => ⟨hg.1, hg.2.1, hg.2.2, hh⟩, fun hh => hh.2.2.2⟩
        · intro q hq2
          have hg := Decidable.byContradiction fun hh => by rw [hbad.2 hh] at hb; simp at hb
          rw [hpn] at hq2; cases hq2; exact hg.1.1
    · have : i = l.length := by omega
      subst this
      rw [List.drop_length] at hiff
      exact .retR ⟨(decide_eq_true ⟨hiff.1 trivial, c'⟩).symm, rfl⟩
  obtain ⟨⟨a, h1⟩, e, rfl, rfl⟩ := main
  exact e
def nmOK (v : FV) (n : B7) : Prop := (n.1 = true \/ v.id = 0) /\ (n.2.1 = true \/ v.off = 0) /\ (n.2.2.1 = true \/ v.a = 0) /\ (n.2.2.2.1 = true \/ v.b = 0) /\ (n.2.2.2.2.1 = true \/ v.fin = false) /\ (n.2.2.2.2.2.1 = true \/ v.data = []) /\ (n.2.2.2.2.2.2 = true \/ v.spans = [])
instance (v : FV) (n : B7) : Decidable (nmOK v n) := by unfold nmOK; infer_instance
theorem nmOK_iff (v : FV) : nmOK v (nmV v.kind) ↔ sameV v (bareV v) := by
  unfold nmOK sameV bareV nmV
  (repeat' split) <;> simp
set_option maxHeartbeats 1000000 in
theorem RRightF_f {h : H} (w : WF h) {x : F9} {v : FV} (hx : FRd h x v) (h1 : v.data.length <= 2 ^ 47) (h2 : v.spans.length <= 2 ^ 40) : PO (ref1_RightFrame x h) (fun (a, h1) => a = decide (FR v) /\ EX h h1) := by
  unfold ref1_RightFrame P.ref1_RightFrame
  obtain ⟨e1, e2, e3, e4, e5, e6, e7⟩ := hx.e
  have hdl := RdB.len hx.data
  have hsl := RdR.len hx.spans
  refine PO.newB w fun g0 x0 B0 z0 w0 => ?_
  have B0' : Box g0 h.size (f9L x) := B0
  refine PO.join (fun s => s = ((some ⟨h.size, 0, some 0⟩, decide (¬ ((1 <= v.kind /\ v.kind <= 12) /\ (okN v.id /\ okN v.off /\ okN v.a /\ okN v.b) /\ v.data.length <= 120))), g0)) ?_ ?_
  · have hb : ∀ {b : Bool}, (b = true ↔ ¬ ((1 <= v.kind /\ v.kind <= 12) /\ (okN v.id /\ okN v.off /\ okN v.a /\ okN v.b) /\ v.data.length <= 120)) -> (((some ⟨h.size, 0, some 0⟩ : Option Addr), b), g0) = ((some ⟨h.size, 0, some 0⟩, decide (¬ ((1 <= v.kind /\ v.kind <= 12) /\ (okN v.id /\ okN v.off /\ okN v.a /\ okN v.b) /\ v.data.length <= 120))), g0) := by
      intro b hh
      cases b with
      | true => rw [decide_eq_true (hh.1 rfl)]
      | false => rw [decide_eq_false (fun hn => by have := hh.2 hn; cases this)]
    refine .ldI B0' rfl (.condD (fun c => .retL (hb ?_)) (fun c => ?_))
    · have c' : x.1 < 1 := c
      simp only [true_iff]; exact fun hh => by omega
    refine .ldI B0' rfl (.condD (fun c2 => .retL (hb ?_)) (fun c2 => ?_))
    · have c' : x.1 > 12 := c2
      simp only [true_iff]; exact fun hh => by omega
    refine .ldI B0' rfl (.callE (may_f _ _) (.condND (fun c3 => .retL (hb ?_)) (fun c3 => ?_)))
    · simp only [true_iff]; exact fun hh => c3 (by rw [e2]; exact hh.2.1.1)
    refine .ldI B0' rfl (.callE (may_f _ _) (.condND (fun c4 => .retL (hb ?_)) (fun c4 => ?_)))
    · simp only [true_iff]; exact fun hh => c4 (by rw [e3]; exact hh.2.1.2.1)
    refine .ldI B0' rfl (.callE (may_f _ _) (.condND (fun c5 => .retL (hb ?_)) (fun c5 => ?_)))
    · simp only [true_iff]; exact fun hh => c5 (by rw [e4]; exact hh.2.1.2.2.1)
    refine .ldI B0' rfl (.callE (may_f _ _) (.condND (fun c6 => .retL (hb ?_)) (fun c6 => ?_)))
    · simp only [true_iff]; exact fun hh => c6 (by rw [e5]; exact hh.2.1.2.2.2)
    refine .ldL B0' rfl (.retL (hb ?_))
    · have c' : ¬ x.1 < 1 := c
      have c2' : ¬ x.1 > 12 := c2
      rw [decide_eq_true_eq]
      constructor
      · intro hh hn; have := hn.2.2; omega
      · intro hn
        rw [e2] at c3; rw [e3] at c4; rw [e4] at c5; rw [e5] at c6
        refine Decidable.byContradiction fun hh => hn ⟨by omega, ⟨c3, c4, c5, c6⟩, by omega⟩
  rintro _ rfl
  refine .condD (fun c => .ret ⟨(decide_eq_false fun hh => c ⟨hh.1.1, hh.1.2.2.1, hh.1.2.2.2⟩).symm, x0⟩) (fun c => ?_)
  have ok := Decidable.byContradiction c
  clear c
  refine .ptr (.ldI B0' rfl (PO.call (names_f w0 x.1) fun n g2 ⟨en, x2⟩ => ?_))
  subst en
  refine PO.newB x2.wf fun g3 x3 B3 z3 w3 => PO.stZ (zs := [.bool, .bool, .bool, .bool, .bool, .bool, .bool]) (x := nmV x.1) B3 w3 rfl rfl fun g4 B4 u4 z4 w4 => ?_
  have B4' : Box g4 g2.size (b7L (nmV x.1)) := B4
  have y4 : EX g2 g4 := u4.ex0 x3 (fun A hA e => by omega)
  have C4 : Box g4 h.size (f9L x) := Box.kx (x2.trans y4) B0'
  have X4 : EX h g4 := x0.trans (x2.trans y4)
  rw [e1] at B4'
  have hnm := nmOK_iff v
  have hx7 : (((x.2.2.2.2.2.2.2.1.len : Nat) : Int) > 0) ↔ ¬ v.data = [] := by
    rw [hdl]; cases v.data <;> simp <;> omega
  have hx8 : (((x.2.2.2.2.2.2.2.2.len : Nat) : Int) > 0) ↔ ¬ v.spans = [] := by
    rw [hsl]; cases v.spans <;> simp <;> omega
  refine PO.join (fun s => s = ((some ⟨h.size, 0, some 0⟩, decide (¬ nmOK v (nmV v.kind))), g4)) ?_ ?_
  · have hb : ∀ {b : Bool}, (b = true ↔ ¬ nmOK v (nmV v.kind)) -> (((some ⟨h.size, 0, some 0⟩ : Option Addr), b), g4) = ((some ⟨h.size, 0, some 0⟩, decide (¬ nmOK v (nmV v.kind))), g4) := by
      intro b hh
      cases b with
      | true => rw [decide_eq_true (hh.1 rfl)]
      | false => rw [decide_eq_false (fun hn => by have := hh.2 hn; cases this)]
    clear hnm u4 z4 w4 z3 w3 B3 x3 y4 X4
    have hc : nmV v.kind = (false, false, false, false, false, false, true) \/ nmV v.kind = (true, true, false, false, true, true, false) \/ nmV v.kind = (true, true, true, true, false, false, false) \/ nmV v.kind = (true, false, true, false, false, false, false) \/ nmV v.kind = (false, false, true, false, false, false, false) \/ nmV v.kind = (false, false, true, false, true, false, false) \/ nmV v.kind = (false, false, false, false, false, true, false) \/ nmV v.kind = (true, false, false, false, false, false, false) \/ nmV v.kind = (false, false, false, false, false, false, false) := by
      unfold nmV; (repeat' split) <;> simp
    generalize nmV v.kind = N at *
    rcases hc with hN | hN | hN | hN | hN | hN | hN | hN | hN <;> subst hN
    all_goals
      repeat' (first
        | refine PO.ptr ?_
        | refine PO.ixA (by omega) (by omega) ?_
        | refine PO.ldB B4' rfl ?_
        | refine PO.ldB C4 rfl ?_
        | refine PO.ldI C4 rfl ?_
        | refine PO.ldL C4 rfl ?_
        | refine PO.condT ?_
        | refine PO.condF ?_
        | refine PO.condNE (fun c => ?_) (fun c => ?_)
        | refine PO.condD (fun c => ?_) (fun c => ?_)
        | refine PO.cond (fun c => ?_) (fun c => ?_)
        | refine PO.retL (hb ?_))
    all_goals clear hb B4' C4 B0' B0 ok hx hdl hsl
    all_goals simp only [nmOK, Bool.false_eq_true, false_or, true_or, true_and, and_true]
    all_goals simp_all
  rintro _ rfl
  refine .condD (fun c => .ret ⟨(decide_eq_false fun hh => c (hnm.2 hh.1.2.1)).symm, X4⟩) (fun c => ?_)
  have h0 : FR0 v := ⟨ok.1, hnm.1 (Decidable.byContradiction c), ok.2.1, ok.2.2⟩
  have key : ∀ (P : Prop) [Decidable P] (g : H), EX h g -> (FR1 v ↔ P) -> PO (some (decide P, g)) (fun (a, h1) => a = decide (FR v) /\ EX h h1) := fun P _ g y hp => .ret ⟨decide_eq_decide.2 ⟨fun q => ⟨h0, hp.2 q⟩, fun q => hp.1 q.2⟩, y⟩
  refine .ptr (.ldI C4 rfl (.condE (fun k2 => ?_) (fun k2 => .condE (fun k3 => ?_) (fun k3 => .condE (fun k4 => ?_) (fun k4 => .condE (fun k9 => ?_) (fun k9 => ?_))))))
  · have k2' : v.kind = 2 := by rw [<- e1]; exact k2
    refine .ptr (.ldL C4 rfl (.callE (rrightSpans_f w4 (hx.ex X4).spans h2) (key _ _ X4 ?_)))
    unfold FR1; rw [if_pos k2']
  · have k3' : v.kind = 3 := by rw [<- e1]; exact k3
    refine .ptr (.ldI C4 rfl (.ptr (.ldL C4 rfl (.letO (key _ _ X4 ?_)))))
    unfold FR1; rw [if_neg (by omega), if_pos k3', w64 (by omega) (by omega)]
    show _ ↔ x.2.2.1 <= 4611686018427387903 - ((x.2.2.2.2.2.2.2.1.len : Nat) : Int)
    rw [e3, hdl]
  · have k4' : v.kind = 4 := by rw [<- e1]; exact k4
    refine .ptr (.ldI C4 rfl (.ptr (.ldI C4 rfl (key _ _ X4 ?_))))
    unfold FR1; rw [if_neg (by omega), if_neg (by omega), if_pos k4']
    show _ ↔ x.2.2.2.2.1 <= x.2.2.1
    rw [e3, e5]
  · have k9' : v.kind = 9 := by rw [<- e1]; exact k9
    refine .ptr (.ldL C4 rfl (key _ _ X4 ?_))
    unfold FR1; rw [if_neg (by omega), if_neg (by omega), if_neg (by omega), if_pos k9']
    show _ ↔ ((x.2.2.2.2.2.2.2.1.len : Nat) : Int) > 0
    rw [hdl]; omega
  · have n2 : ¬ v.kind = 2 := by rw [<- e1]; exact k2
    have n3 : ¬ v.kind = 3 := by rw [<- e1]; exact k3
    have n4 : ¬ v.kind = 4 := by rw [<- e1]; exact k4
    have n9 : ¬ v.kind = 9 := by rw [<- e1]; exact k9
    refine .ret ⟨(decide_eq_true ⟨h0, ?_⟩).symm, X4⟩
    unfold FR1; rw [if_neg n2, if_neg n3, if_neg n4, if_neg n9]; trivial
set_option maxRecDepth 100000
theorem bit_f (b : Bool) (h : H) : ref1_bit b h = some (flagV b, h) := by cases b <;> rfl
theorem rlay_loop {h0 : H} {f9 : Nat} {x : F9} {spans : List Run} {out0 : Sl} {h1 : H} (C : Box h0 f9 (f9L x)) (rs : RdR h0 x.2.2.2.2.2.2.2.2 spans) (hrs : RSs spans) (x1 : EX h0 h1) (b1 : Buf 1 h1 out0 ([(spans.length : Int)].map (.int .i64))) (f1 : Fr h0.size out0) :
    PO (loopO ref1_lay_l1 ((some ⟨f9, 0, some 0⟩, (out0, 0)), h1)) (fun r => ∃ l h', r = Sum.inl ((some ⟨f9, 0, some 0⟩, l), h') /\ EX h0 h' /\ RdI .i64 h' l ((spans.length : Int) :: ngo none spans)) := by
  have hl8 := hrs.2.2
  have hall := RSp.all hrs.1
  have hsl := RdR.len rs
  refine PO.loop (fun m st => ∃ (i : Nat) (out : Sl) (h' : H) (acc : List Int), st = ((some ⟨f9, 0, some 0⟩, (out, (i : Int))), h') /\ m + i = spans.length /\ EX h0 h' /\ Fr h0.size out /\ Buf 1 h' out (acc.map (.int .i64)) /\ acc.length = 1 + 2 * i /\ acc ++ ngo (prevOf spans i) (spans.drop i) = (spans.length : Int) :: ngo none spans) ?_ spans.length _ ⟨0, _, h1, [(spans.length : Int)], rfl, rfl, x1, f1, b1, rfl, rfl⟩
  rintro m st ⟨i, out, h', acc, rfl, hm, hx', hf, hb, hal, hacc⟩
  unfold ref1_lay_l1 P.ref1_lay_l1
  have C' := Box.kx hx' C
  refine .ptr (.ldL C' rfl (.condD (fun c => ?_) (fun c => ?_)))
  · have hil : i < spans.length := by
      have c' : (i : Int) < ((x.2.2.2.2.2.2.2.2.len : Nat) : Int) := c
      omega
    have hd : spans.drop i = spans.getD i (0, 0) :: spans.drop (i + 1) := by
      rw [List.drop_eq_getElem_cons hil]; simp [List.getD, hil]
    have hpn : prevOf spans (i + 1) = some (spans.getD i (0, 0)).1 := by unfold prevOf; rw [if_neg (by omega)]; rfl
    have hrm : spans.getD i (0, 0) ∈ spans := by rw [List.getD_eq_getElem?_getD, List.getElem?_eq_getElem hil]; exact List.getElem_mem hil
    have hrb := hall _ hrm
    have rs1 := rs.ex hx'
    refine .ptr (.ldL C' rfl (.ixR rs1 (by omega) (by omega) fun a _ _ _ ez _ _ => .op ez ?_))
    simp only [Int.toNat_natCast]
    generalize hR : spans.getD i (0, 0) = r at *
    refine PO.newB hx'.wf fun h2 x2 B2 z2 w2 => PO.stZ B2 w2 rfl rfl fun h3 B3 u3 z3 w3 => ?_
    have B3' : Box h3 h'.size [.int .i64 r.1, .int .i64 r.2] := B3
    have y3' : EX h' h3 := u3.ex0 x2 (fun A hA e => by omega)
    have y3 : EX h0 h3 := hx'.trans y3'
    have b3 := hb.ex hx'.wf y3'
    have D0 := Box.kx y3 C
    refine PO.join (fun st => ∃ out1 h4, st = ((some ⟨f9, 0, some 0⟩, (out1, ((i : Int), some ⟨h'.size, 0, some 0⟩))), h4) /\ EX h0 h4 /\ KP h3 h4 /\ Fr h0.size out1 /\ Buf 1 h4 out1 ((acc ++ [match prevOf spans i with | none => r.2 | some q => q - r.2]).map (.int .i64))) ?_ ?_
    · refine .condE (fun ci => ?_) (fun ci => ?_)
      · have hi0 : i = 0 := by have ci' : (i : Int) = 0 := ci; omega
        have hp : prevOf spans i = none := by unfold prevOf; rw [if_pos hi0]
        refine .ixA (by omega) (by omega) (.ldI B3' rfl (PO.newB w3 fun h4 x4 B4 z4 w4 => ?_))
        have ri : RdI .i64 h4 ⟨some ⟨h3.size, 0, some 0⟩, 1, 1⟩ [r.2] := rdI_of B4 w4 rfl rfl (by unfold B63; omega)
        refine PO.appI (b3.ex w3 x4) (y3.trans x4) hf ri (by simp; omega) fun out1 h5 b5 y5 f5 k5 => .retL ⟨out1, h5, rfl, y5, (x4.kp w3).trans k5, f5, ?_⟩
        rw [hp]; exact b5
      · have hip : 0 < i := by
          have : (i : Int) ≠ 0 := ci
          omega
        have hpv : prevOf spans i = some (spans.getD (i - 1) (0, 0)).1 := by unfold prevOf; rw [if_neg (by omega)]
        have hqm : spans.getD (i - 1) (0, 0) ∈ spans := by rw [List.getD_eq_getElem?_getD, List.getElem?_eq_getElem (by omega)]; exact List.getElem_mem (by omega)
        have hqb := hall _ hqm
        refine .ptr (PO.letGrow w3 fun h4 x4 z4 w4 n4 => ?_)
        have D4 := Box.kx x4 D0
        have B4 := Box.kx x4 B3'
        refine .ldL D4 rfl ?_
        rw [w64 (n := (i : Int) - 1) (by omega) (by omega), show (i : Int) - 1 = ((i - 1 : Nat) : Int) by omega]
        refine .ixR (rs.ex (y3.trans x4)) (by omega) (by omega) fun a1 _ _ _ _ e1 _ => .ixA (by omega) (by omega) ?_
        simp only [Int.toNat_natCast] at e1
        refine .op e1 (.ixA (by omega) (by omega) (.ldI B4 rfl ?_))
        rw [w64 (n := (spans.getD (i - 1) (0, 0)).1 - r.2) (by omega) (by omega)]
        have hn3 := w3.nro
        refine PO.addNew w4 (by decide) (n4 11 (by omega)) (by omega) (by rw [x4.nro]; omega) fun h5 N5 B5 => .addNil ?_
        have y5 : EX h0 h5 := N5.ex0 (y3.trans x4) (by have := y3.size; omega)
        have k35 : EX h3 h5 := N5.ex0 x4 (by omega)
        have ri : RdI .i64 h5 ⟨some ⟨h3.size + 11, 0, some 0⟩, 1, 1⟩ [(spans.getD (i - 1) (0, 0)).1 - r.2] := rdI_of B5 N5.wf rfl rfl (by unfold B63; omega)
        refine PO.appI (N5.buf w4 (b3.ex w3 x4)) y5 hf ri (by simp; omega) fun out1 h6 b6 y6 f6 k6 => ?_
        refine .addOld (k6.som _ B5.ne) (.addNil (PO.letTick y6.wf fun h7 x7 z7 w7 => .retL ⟨out1, h7, rfl, y6.trans x7, ((k35.kp w3).trans k6).trans (x7.kp y6.wf), f6, ?_⟩))
        rw [hpv]; exact b6.ex y6.wf x7
    · rintro _ ⟨out1, h4, rfl, y4, k4, f4, b4⟩
      have r4 : RdR h4 ⟨some ⟨h'.size, 0, some 0⟩, 1, 1⟩ [r] := RdR.mono k4 (Box.r1 B3' w3)
      have l1 : ldI .i64 h4 (add ⟨h'.size, 0, some 0⟩ 1) = some r.2 := ldI_of (Rd.ld r4 _ rfl 1 _ rfl).2
      have l0 : ldI .i64 h4 (add ⟨h'.size, 0, some 0⟩ 0) = some r.1 := ldI_of (Rd.ld r4 _ rfl 0 _ rfl).2
      refine .ptr (.ixA (by omega) (by omega) (.op l1 (.ptr (.ixA (by omega) (by omega) (.op l0 ?_)))))
      rw [w64 (n := r.2 - r.1) (by omega) (by omega)]
      refine PO.newB y4.wf fun h5 x5 B5 z5 w5 => ?_
      have ri : RdI .i64 h5 ⟨some ⟨h4.size, 0, some 0⟩, 1, 1⟩ [r.2 - r.1] := rdI_of B5 w5 rfl rfl (by unfold B63; omega)
      refine PO.appI (b4.ex y4.wf x5) (y4.trans x5) f4 ri (by simp; omega) fun out2 h6 b6 y6 f6 k6 => .retL ⟨m - 1, by omega, i + 1, out2, h6, _, ?_, by omega, y6, f6, b6, by simp; omega, ?_⟩
      · rw [w64 (n := (i : Int) + 1) (by omega) (by omega)]; rfl
      · rw [hpn, <- hacc, hd]
        cases prevOf spans i <;> simp [ngo]
  · have c' : ¬ (i : Int) < ((x.2.2.2.2.2.2.2.2.len : Nat) : Int) := c
    have : i = spans.length := by omega
    subst this
    rw [List.drop_length] at hacc
    simp only [ngo, List.append_nil] at hacc
    refine .retR ⟨out, h', rfl, hx', ?_⟩
    rw [<- hacc]; exact hb.rd
theorem RLay1_f {h : H} (w : WF h) {x : F9} {v : FV} (hx : FRd h x v) (hv : FR v) : PO (ref1_lay x h) (fun (a, h1) => BufB h1 a (lay1 v) /\ EX h h1 /\ Fr h.size a) := by
  unfold ref1_lay
  have hnums := FR.nums hv
  have hel := encs_length (numsV v)
  have hrs : v.kind = 2 -> RSs v.spans := fun k2 => by have := hv.2; unfold FR1 at this; rwa [if_pos k2] at this
  have hdl0 := hv.1.2.2.2
  have hdl := RdB.len hx.data
  have hsl := RdR.len hx.spans
  refine PO.newB w fun g0 x0 B0 z0 w0 => ?_
  have B0' : Box g0 h.size (f9L x) := B0
  have hn0 := w0.nro
  have b63 : ∀ n : Nat, n < 10 -> n < B63 := fun n hn => by unfold B63; omega
  have e1' := hx.e.1
  refine PO.join (fun st => ∃ l h1, st = ((some ⟨h.size, 0, some 0⟩, l), h1) /\ EX g0 h1 /\ RdI .i64 h1 l (numsV v).tail) ?_ ?_
  · have rs0 := hx.spans.ex x0
    refine .ldI B0' rfl (.condE (fun c2 => ?_) (fun c2 => ?_))
    · have c2' : v.kind = 2 := by rw [<- e1']; exact c2
      refine .ldL B0' rfl (PO.newB w0 fun h1 x1 B1 z1 w1 => ?_)
      have b1 : Buf 1 h1 ⟨some ⟨g0.size, 0, some 0⟩, 1, 1⟩ ([(v.spans.length : Int)].map (.int .i64)) := by
        have := B1.buf (sz := 1) (n := 1) w1 rfl (by unfold B63; omega)
        rw [hsl] at this
        exact this
      refine PO.mono (rlay_loop B0' rs0 (hrs c2') x1 b1 (fr_new _ _ _)) ?_
      rintro _ ⟨l, h', rfl, xx, rr⟩
      refine ⟨l, h', rfl, xx, ?_⟩
      unfold numsV; rw [if_pos c2']; exact rr
    · obtain ⟨k, id, off, va, vb, note, fin, data, spans⟩ := v
      obtain ⟨xk, xid, xoff, xa, xb, xnote, xfin, xdata, xspans⟩ := x
      obtain ⟨⟨e1, e2, e3, e4, e5, e6, e7⟩, rd, rs⟩ := hx
      simp only at e1 e2 e3 e4 e5 e6 e7 rd rs hdl hsl c2
      subst e1 e2 e3 e4 e5 e6 e7
      clear hrs rs rd rs0 hv hnums hel hdl0 hsl e1'
      repeat' (first
        | refine PO.chk (by simp [slEq_self]) ?_
        | refine PO.condE (fun e => ?_) (fun e => ?_)
        | refine PO.ldI (by assumption) rfl ?_
        | refine PO.ldB (by assumption) rfl ?_
        | refine PO.ldL (by assumption) rfl ?_
        | refine PO.callE (bit_f _ _) ?_
        | (refine PO.letGrow w0 fun h1 x1 z1 w1 n1 => ?_; have C1 := Box.kx x1 B0')
        | refine PO.addOff (by decide) (PO.addNil ?_)
        | refine PO.addNew w1 (by decide) (n1 _ (by omega)) (by omega) (by rw [x1.nro]; omega) fun h2 N2 B2 => PO.addNil (PO.letTick N2.wf fun h3 x3 z3 w3 => PO.retL ⟨_, _, rfl, (N2.ex0 x1 (by omega)).trans x3, rdI_of (Box.kx x3 B2) w3 ?_ ?_ (b63 _ (by omega))⟩)
        | refine PO.newB w0 fun h2 x2 B2 z2 w2 => PO.retL ⟨_, _, rfl, x2, rdI_of B2 w2 ?_ ?_ (b63 _ (by omega))⟩
        | refine PO.retL ⟨_, _, rfl, EX.refl w0, ?_⟩)
      all_goals dsimp only at *
      all_goals (first | (exfalso; omega) | (simp [numsV, hdl, *]; done) | (simp [numsV, hdl, *]; exact rd_nil 1 _))
  rintro _ ⟨l, g1, rfl, x1, rl⟩
  have B1 := Box.kx x1 B0'
  have hn1 := x1.wf.nro
  have hcons : numsV v = v.kind :: (numsV v).tail := by unfold numsV; (repeat' split) <;> rfl
  have hk := hnums.1 v.kind (by rw [hcons]; simp)
  have hrest : ∀ n ∈ (numsV v).tail, okN n := fun n hn => hnums.1 n (by rw [hcons]; simp [hn])
  have hle : encs [v.kind] ++ encs (numsV v).tail = encs (numsV v) := by
    conv => rhs; rw [hcons]
    simp [encs]
  have htl : (numsV v).tail.length <= 18 := by have := hnums.2; simp; omega
  refine .ptr (PO.letGrow x1.wf fun g2 x2 z2 w2 n2 => .ldI (Box.kx x2 B1) rfl ?_)
  rw [e1']
  refine PO.addNew w2 (by decide) (n2 2 (by omega)) (by omega) (by rw [x2.nro]; omega) fun g3 N3 D3 => .addNil ?_
  have rk : RdI .i64 g3 ⟨some ⟨g1.size + 2, 0, some 0⟩, 1, 1⟩ [v.kind] := rdI_of D3 N3.wf rfl rfl (b63 _ (by omega))
  have X13 : EX g1 g3 := N3.ex0 x2 (by omega)
  obtain ⟨s4, g4, e4, x4, b4, f4⟩ := RPut_f N3.wf (rdB_nil g3) rk (by simp)
  have p4 : putV [] [v.kind] = encs [v.kind] := by
    unfold putV; rw [if_neg (by rw [szV_neg]; exact fun hh => hh fun n hn => by simp at hn; subst hn; exact hk)]; rfl
  rw [p4] at b4
  refine .callE e4 (.addOld (Box.kx x4 D3).ne (.addNil ?_))
  have l4 := encs_length [v.kind]
  obtain ⟨s6, g6, e6, x6, b6, f6⟩ := RPut_f x4.wf b4.rd ((rl.ex X13).ex x4) (by simp at l4; omega)
  have p6 : putV (encs [v.kind]) (numsV v).tail = encs (numsV v) := by
    unfold putV; rw [if_neg (by rw [szV_neg]; exact fun hh => hh hrest)]; exact hle
  rw [p6] at b6
  have X16 := (X13.trans x4).trans x6
  have rdd : RdB g6 x.2.2.2.2.2.2.2.1 v.data := ((hx.data.ex x0).ex x1).ex X16
  refine .callE e6 (.ptr (.addOff (by decide) (.addNil (.ldL (Box.kx X16 B1) rfl (.addOld (Box.kx x6 (Box.kx x4 D3)).ne (.addNil ?_))))))
  obtain ⟨s9, g9, e9, k9, x9, b9, _, f9⟩ := appB_ok (e := 5) x6.wf b6 rdd (by omega)
  refine .callE e9 (.addOff (by decide) (.addNil (.ldL (Box.kx (X13.trans x4) B1) rfl (.chk' (slEq_self _) (.addOff (by decide) (.addNil (.ldL (Box.kx x2 B1) rfl (.chk' (slEq_self _) (.addOld (k9.som _ (Box.kx x6 (Box.kx x4 D3)).ne) (.addNil (PO.letTick k9.wf fun g10 x10 z10 w10 => .ret ⟨b9.ex k9.wf x10, ?_, ?_⟩)))))))))))
  · exact (x9 _ (((x0.trans x1).trans X16)) (f6.mono (by have := ((x0.trans x1).trans (X13.trans x4)).size; exact this))).trans x10
  · exact f9 _ (((x0.trans x1).trans X16)).size (f6.mono (by have := ((x0.trans x1).trans (X13.trans x4)).size; exact this))
theorem RLayFrames_f {h : H} (w : WF h) {s : Sl} {xs : List F9} {vs : List FV} (r : RdF h s xs vs) (hn : vs.length <= 2 ^ 30) (hz : SzOK vs) :
    PO (ref1_LayFrames s h) (fun (a, h1) => EX h h1 /\ if ∀ v ∈ vs, FR v then RdB h1 a.1 (layFs vs) /\ a.2 = 0 else RdB h1 a.1 [] /\ a.2 = 1) := by
  unfold ref1_LayFrames P.ref1_LayFrames
  have hlen := RdF.len r
  refine PO.joinD (PO.mono (P := Sum.elim (fun a => EX h a.2 /\ BufB a.2 a.1 (layFs vs) /\ ∀ v ∈ vs, FR v) (fun a => a.1 = (⟨none, 0, 0⟩, 1) /\ EX h a.2 /\ ¬ ∀ v ∈ vs, FR v)) ?_ ?_)
  · refine PO.loop (fun m st => ∃ (i : Nat) (out : Sl) (h' : H), st = ((s, (out, (i : Int))), h') /\ m + i = vs.length /\ EX h h' /\ Fr h.size out /\ BufB h' out (layFs (vs.take i)) /\ ∀ v ∈ vs.take i, FR v) ?_ vs.length _ ⟨0, _, h, rfl, rfl, EX.refl w, fr_nil _, buf_nil 1 h, by simp⟩
    rintro m st ⟨i, out, h', rfl, hm, hx, hf, hb, hall⟩
    unfold P.ref1_LayFrames_l1
    refine .condD (fun c => ?_) (fun c => ?_)
    · have c' : (i : Int) < ((s.len : Nat) : Int) := c
      have hil : i < vs.length := by omega
      refine PO.ixF (r.ex hx) (by omega) (by omega) fun a _ _ _ e1 fr => .op e1 ?_
      simp only [Int.toNat_natCast] at fr ⊢
      have hv := hz _ (getD_mem vs fv0 hil)
      have htk := take_succ_getD vs fv0 hil
      have hmem := getD_mem vs fv0 hil
      refine PO.call (RRightF_f hx.wf fr hv.1 hv.2) fun a h3 ⟨ea, x3⟩ => ?_
      subst ea
      refine .condND (fun hn => .retR ⟨rfl, hx.trans x3, fun ha => hn (ha _ hmem)⟩) (fun hv2 => ?_)
      refine PO.ixF ((r.ex hx).ex x3) (by omega) (by omega) fun a _ _ _ e1 fr => .op e1 ?_
      simp only [Int.toNat_natCast] at fr ⊢
      generalize vs.getD i fv0 = v at *
      generalize xs.getD i f90 = x at *
      refine PO.call (RLay1_f x3.wf fr hv2) fun a h4 ⟨ba, x4, fa⟩ => ?_
      have hlt := layFs_length hall
      have hl1 := lay1_length hv2
      have hl2 : (vs.take i).length <= i := by simp; omega
      have hx4 := x3.trans x4
      obtain ⟨s6, h6, e6, k6, x6, b6, _, f6⟩ := appB_ok (e := 5) x4.wf (BufB.ex hx.wf hx4 hb) ba.rd (by omega)
      refine .callE e6 (.retL ⟨m - 1, by omega, i + 1, s6, h6, ?_, by omega, x6 h (hx.trans hx4) hf, f6 _ (hx.trans hx4).size hf, ?_, ?_⟩)
      · rw [w64 (by omega) (by omega)]; rfl
      · rw [htk, layFs_app]
        simp only [layFs, List.append_nil]
        exact b6
      · rw [htk]
        intro u hu
        rcases List.mem_append.1 hu with hu | hu
        · exact hall u hu
        · simp at hu; subst hu; exact hv2
    · have c' : ¬ (i : Int) < ((s.len : Nat) : Int) := c
      have : i = vs.length := by omega
      subst this
      rw [List.take_of_length_le (Nat.le_refl _)] at hb hall
      exact .retR ⟨hx, hb, hall⟩
  · rintro (⟨out, h1⟩ | ⟨⟨a, e⟩, h1⟩) hp
    · obtain ⟨x1, b1, hall⟩ := hp
      have b1' : BufB h1 out (layFs vs) := b1
      refine .ret ⟨x1, ?_⟩
      rw [if_pos hall]
      exact ⟨b1'.rd, rfl⟩
    · obtain ⟨ea, x1, hnall⟩ := hp
      simp only [Prod.mk.injEq] at ea
      obtain ⟨rfl, rfl⟩ := ea
      refine ⟨x1, ?_⟩
      rw [if_neg hnall]
      exact ⟨rdB_nil _, rfl⟩
end Go.Proofs.Ythiccnmplgdheaa.T
