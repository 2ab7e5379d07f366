/- Lemmas about the typed texts (joined: LFrame1 LFrame2 S15). -/
import Derived.Test.YthiccnmplgdheaaG16
import Derived.Test.YthiccnmplgdheaaG10
/- The laws FrameBack and FrameCut over typed texts: what is laid is read the same; frames that are cut short are refused. -/
set_option linter.unusedVariables false
set_option linter.unusedSimpArgs false
namespace Go.Proofs.Ythiccnmplgdheaa.T
open Go Go.Abs Go.Proofs
theorem take9 {α : Type} (A B : List α) (m : Nat) (h : A.length = 9) : (A ++ B).take (9 + m) = A ++ B.take m := by
  rw [List.take_append, List.take_of_length_le (by omega), h, Nat.add_sub_cancel_left]
theorem drop9 {α : Type} (A B : List α) (m : Nat) (h : A.length = 9) : (A ++ B).drop (9 + m) = B.drop m := by
  rw [List.drop_append, List.drop_eq_nil_of_le (by omega), h, Nat.add_sub_cancel_left]; rfl
theorem fsV_take : ∀ (l : List F9) (k : Nat), fsV (l.take k) = (fsV l).take (k * 9)
  | [], k => by simp [fsV]
  | x :: l, 0 => by simp [fsV]
  | x :: l, k + 1 => by
    rw [show (k + 1) * 9 = 9 + k * 9 by omega]
    show f9L x ++ fsV (l.take k) = (f9L x ++ fsV l).take (9 + k * 9)
    rw [take9 _ _ _ rfl, fsV_take l k]
theorem fsV_drop : ∀ (l : List F9) (k : Nat), fsV (l.drop k) = (fsV l).drop (k * 9)
  | [], k => by simp [fsV]
  | x :: l, 0 => by simp [fsV]
  | x :: l, k + 1 => by
    rw [show (k + 1) * 9 = 9 + k * 9 by omega]
    show fsV (l.drop k) = (f9L x ++ fsV l).drop (9 + k * 9)
    rw [drop9 _ _ _ rfl, fsV_drop l k]
theorem slF_hi {h : H} {s : Sl} {xs : List F9} {vs : List FV} (r : RdF h s xs vs) {hi : Int} (h1 : 0 ≤ hi) (h2 : hi ≤ vs.length) : ∃ s', slT 9 h s none (some hi) none = some s' ∧ RdF h s' (xs.take hi.toNat) (vs.take hi.toNat) := by
  obtain ⟨s', e, r', _, _⟩ := sl_hi (hi := hi) (by omega) (by unfold B63; omega) r.rd h1 (by rw [r.len]; exact h2)
  exact ⟨s', e, by rw [fsV_take]; exact r', r.frs.take _⟩
theorem slF_lo {h : H} {s : Sl} {xs : List F9} {vs : List FV} (r : RdF h s xs vs) {lo : Int} (h1 : 0 ≤ lo) (h2 : lo ≤ vs.length) : ∃ s', slT 9 h s (some lo) none none = some s' ∧ RdF h s' (xs.drop lo.toNat) (vs.drop lo.toNat) := by
  obtain ⟨s', e, r', _, _⟩ := sl_lo (lo := lo) (by omega) (by unfold B63; omega) r.rd h1 (by rw [r.len]; exact h2)
  exact ⟨s', e, by rw [fsV_drop]; exact r', r.frs.drop _⟩
theorem RdF.cell {h : H} {s : Sl} {xs : List F9} {vs : List FV} {b : Addr} (r : RdF h s xs vs) (hb : s.base = some b) {j i : Nat} {v : Value} (hj : j < xs.length) (hi : i < 9) (e : (f9L (xs.getD j f90))[i]? = some v) : ldCell h (add (add b (j * 9)) i) = some v := by
  rw [add_add]
  refine (r.rd.ld b hb _ _ ?_).2
  have := fsV_get xs j hj
  rw [← this, List.getElem?_take_of_lt hi, List.getElem?_drop] at e
  exact e
def kv1 : FV := ⟨1, 0, 0, 0, 0, 0, false, [], []⟩
def kv2 : FV := ⟨10, 5, 0, 0, 0, 0, false, [], []⟩
theorem szok_of {vs : List FV} (h : ∀ v ∈ vs, FR v) : SzOK vs := fun v hv => by
  have h1 := (h v hv).1.2.2.2
  refine ⟨by omega, ?_⟩
  have hs := (h v hv).1.2.1.2.2.2.2.2.2.2
  by_cases h2 : v.kind = 2
  · have := (h v hv).2
    unfold FR1 at this
    rw [if_pos h2] at this
    have := this.2.2
    omega
  · have : v.spans = [] := by
      rw [hs]
      unfold bareV
      rw [if_neg h2]
      (repeat' split) <;> rfl
    rw [this]; simp
theorem known5_f {h : H} (w : WF h) : PO (law5_known h) (fun (a, h1) => a = true ∧ EX h h1) := by
  unfold law5_known
  refine PO.newB w fun h1 x1 B1 z1 w1 => ?_
  have r1 : RdF h1 ⟨some ⟨h.size, 0, some 0⟩, 2, 2⟩ [(1, 0, 0, 0, 0, 0, false, ⟨none, 0, 0⟩, ⟨none, 0, 0⟩), (10, 5, 0, 0, 0, 0, false, ⟨none, 0, 0⟩, ⟨none, 0, 0⟩)] [kv1, kv2] :=
    ⟨B1.rd w1 rfl (capOk_self _ _ (by unfold B63; omega)), ⟨⟨rfl, rfl, rfl, rfl, rfl, rfl, rfl⟩, rdB_nil _, rdR_nil _⟩, ⟨⟨rfl, rfl, rfl, rfl, rfl, rfl, rfl⟩, rdB_nil _, rdR_nil _⟩, trivial⟩
  have hall : ∀ v ∈ [kv1, kv2], FR v := by decide
  refine PO.call (FLay_f w1 r1 (by simp) (szok_of hall)) fun a h2 ⟨x2, ha⟩ => ?_
  rw [if_pos hall] at ha
  obtain ⟨s1, e1⟩ := a
  obtain ⟨rb, he⟩ := ha
  have he' : e1 = 0 := he
  subst he'
  have rb' : RdB h2 s1 [1, 10, 5] := rb
  refine PO.call (FRead_f x2.wf rb (by decide)) fun a h3 ⟨x3, hq⟩ => ?_
  rw [pRead_lay hall] at hq
  obtain ⟨s2, e2⟩ := a
  obtain ⟨⟨xs, r3⟩, he2⟩ := hq
  have he2' : e2 = 0 := he2
  subst he2'
  have r3' : RdF h3 s2 xs [kv1, kv2] := r3
  have hl3 := RdF.len r3'
  have hxl := r3'.frs.len
  refine .chk' rfl (.callE (strT_ok (rb'.ex x3)) (.chk' ?_ (.chk' rfl (.chk' ?_ ?_))))
  · exact (bs_eq [1, 10, 5] [1, 10, 5]).trans (by decide)
  · rw [hl3]; rfl
  refine PO.ixF r3' (by decide) (by decide) fun a b hb ha _ fr => ?_
  subst ha
  have f1 := fr.e.1
  have f2 := fr.e.2.1
  refine .op (ldI_of (RdF.cell r3' hb (by rw [hxl]; decide) (i := 0) (by decide) rfl)) (.chk' ?_ (PO.ixF r3' (by decide) (by decide) fun a b' hb' ha _ _ => ?_))
  · rw [beq_iff_eq]; exact f1
  subst ha
  rw [hb] at hb'; cases hb'
  refine .op (ldI_of (RdF.cell r3' hb (by rw [hxl]; decide) (i := 1) (by decide) rfl)) (.ret ⟨?_, (x1.trans x2).trans x3⟩)
  rw [beq_iff_eq]; exact f2
theorem layFs_mono (vs : List FV) {i n : Nat} (h : i ≤ n) : (layFs (vs.take i)).length ≤ (layFs (vs.take n)).length := by
  obtain ⟨j, rfl⟩ : ∃ j, n = i + j := ⟨n - i, by omega⟩
  rw [List.take_add, layFs_app, List.length_append]
  omega
end Go.Proofs.Ythiccnmplgdheaa.T
/- The law FrameBack over typed texts: what is laid is read the same, however many; laid in parts it is the same bytes; sizes add up. -/
set_option linter.unusedVariables false
set_option linter.unusedSimpArgs false
namespace Go.Proofs.Ythiccnmplgdheaa.T
open Go Go.Abs Go.Proofs
theorem catT_ok (a b : List UInt8) (h : a.length + b.length ≤ 2 ^ 47) : catT (bsOf a) (bsOf b) = some (bsOf (a ++ b)) := by
  unfold catT
  have : bsOf a ++ bsOf b = bsOf (a ++ b) := by
    apply ByteArray.ext
    simp [bsOf]
  rw [← this]
  have hs : ∀ l : List UInt8, (bsOf l).size = l.length := fun l => by simp [bsOf, ByteArray.size]
  unfold strBin
  rw [hs, hs]
  have : decide (((a.length + b.length : Nat) : Int) ≤ IntKind.i64.max) = true := decide_eq_true (by show _ ≤ (9223372036854775807 : Int); omega)
  simp only [this]
  rfl
theorem FrameBack (l : Sl) (cut : Int) (h : H) (w : WF h) (xs : List F9) (us : List RV) (r : RdW h l xs us) (hn : us.length ≤ 2 ^ 50) (hz : WzOK us) (g1 : RNG cut) : ∃ h', law5_FrameBack l cut h = some (true, h') := by
  refine PO.law ?_
  unfold law5_FrameBack P.law5_FrameBack
  refine PO.call (HRight_f w r hn hz (N := 8) (by omega)) fun f h1 ⟨⟨ys, vs, rf, _, hall, hlen⟩, x1, _⟩ => ?_
  have hl8 : vs.length ≤ 8 := by omega
  have hfl := layFs_length hall
  have hsz := szok_of hall
  refine PO.call (FLay_f x1.wf rf (by omega) hsz) fun a h2 ⟨x2, ha⟩ => ?_
  rw [if_pos hall] at ha
  obtain ⟨s1, e1⟩ := a
  obtain ⟨rb, he⟩ := ha
  have he' : e1 = 0 := he
  subst he'
  have rb' : RdB h2 s1 (layFs vs) := rb
  refine PO.call (FRead_f x2.wf rb' (by omega)) fun a h3 ⟨x3, hq⟩ => ?_
  rw [pRead_lay hall] at hq
  obtain ⟨s2, e2⟩ := a
  obtain ⟨⟨zs, rz⟩, he2⟩ := hq
  have he2' : e2 = 0 := he2
  subst he2'
  have rz' : RdF h3 s2 zs (vs.map bareV) := rz
  have hfLen := RdF.len rf
  refine .callE (by rw [w64 (by omega) (by omega)]; exact pick_f _ _ (by omega) (by omega) _) ?_
  have hkb := emod_b cut (m := ((f.len : Nat) : Int) + 1) (by omega)
  generalize cut % (((f.len : Nat) : Int) + 1) = k at *
  obtain ⟨kn, hkn⟩ : ∃ kn : Nat, k = kn := ⟨k.toNat, by omega⟩
  subst hkn
  obtain ⟨s6, e6, r6⟩ := slF_hi (hi := (kn : Int)) ((rf.ex x2).ex x3) (by omega) (by omega)
  have ht : ∀ v ∈ vs.take (kn : Int).toNat, FR v := fun v hv => hall v (List.mem_of_mem_take hv)
  have hd : ∀ v ∈ vs.drop (kn : Int).toNat, FR v := fun v hv => hall v (List.mem_of_mem_drop hv)
  refine .op e6 (PO.call (FLay_f x3.wf r6 (by simp; omega) (szok_of ht)) fun a h4 ⟨x4, ha⟩ => ?_)
  rw [if_pos ht] at ha
  obtain ⟨s7, e7⟩ := a
  obtain ⟨rc, hec⟩ := ha
  have hec' : e7 = 0 := hec
  subst hec'
  obtain ⟨s9, e9, r9⟩ := slF_lo (lo := (kn : Int)) (((rf.ex x2).ex x3).ex x4) (by omega) (by omega)
  refine .op e9 (PO.call (FLay_f x4.wf r9 (by simp; omega) (szok_of hd)) fun a h5 ⟨x5, ha⟩ => ?_)
  rw [if_pos hd] at ha
  obtain ⟨s10, e10⟩ := a
  obtain ⟨rd, hed⟩ := ha
  have hed' : e10 = 0 := hed
  subst hed'
  have rc' : RdB h4 s7 (layFs (vs.take (kn : Int).toNat)) := rc
  have rd' : RdB h5 s10 (layFs (vs.drop (kn : Int).toNat)) := rd
  have x25 := (x3.trans x4).trans x5
  refine PO.join (fun st => ∃ h6, st = ((f, (s1, ((0 : Int), (s2, ((0 : Int), (s7, ((0 : Int), (s10, ((0 : Int), ((layFs vs).length : Int)))))))))), h6) ∧ EX h5 h6) ?_ ?_
  · refine PO.mono (P := fun st => ∃ h6, st = Sum.inl ((f, (s1, ((0 : Int), (s2, ((0 : Int), (s7, ((0 : Int), (s10, ((0 : Int), ((layFs vs).length : Int)))))))))), h6) ∧ EX h5 h6) ?_ ?_
    · refine PO.loop (fun m st => ∃ (i : Nat) (h' : H), st = ((f, (s1, ((0 : Int), (s2, ((0 : Int), (s7, ((0 : Int), (s10, ((0 : Int), (((layFs (vs.take i)).length : Int), (f, (((f.len : Nat) : Int), (i : Int))))))))))))), h') ∧ m + i = vs.length ∧ EX h5 h') ?_ vs.length _ ⟨0, h5, rfl, rfl, EX.refl x5.wf⟩
      rintro m st ⟨i, h', rfl, hm, hx⟩
      unfold P.law5_FrameBack_l1
      refine .condD (fun c => ?_) (fun c => ?_)
      · have hi : i < vs.length := by omega
        have hone : (layFs (vs.take (i + 1))).length = (layFs (vs.take i)).length + (lay1 (vs.getD i fv0)).length := by
          rw [take_succ_getD vs fv0 hi, layFs_app]; simp [layFs]
        have hle : (layFs (vs.take (i + 1))).length ≤ 264 * 8 := by
          have := layFs_length (vs := vs.take (i + 1)) (fun v hv => hall v (List.mem_of_mem_take hv))
          have : (vs.take (i + 1)).length ≤ 8 := by simp; omega
          omega
        refine PO.ixF (((rf.ex x2).ex x25).ex hx) (by omega) (by omega) fun a _ _ _ e1 fr => .op e1 ?_
        simp only [Int.toNat_natCast] at fr ⊢
        have hv := hall _ (getD_mem vs fv0 hi)
        have hzv := hsz _ (getD_mem vs fv0 hi)
        generalize xs.getD i f90 = x at *
        refine PO.boxF rfl hx.wf fun g2 y2 B2 z2 => PO.ldF B2 (PO.call (FRight_f y2.wf (fr.ex y2) hzv.1 hzv.2) fun a g3 ⟨ea, y3⟩ => ?_)
        subst ea
        refine .condND (fun hc => absurd hv hc) (fun _ => PO.ldF (Box.kx y3 B2) (PO.call (FSize_f y3.wf ((fr.ex y2).ex y3) hzv.1 hzv.2) fun a g4 ⟨ea, y4⟩ => .retL ⟨m - 1, by omega, i + 1, g4, ?_, by omega, ((hx.trans y2).trans y3).trans y4⟩))
        subst ea
        unfold fszV
        rw [if_pos hv, w64 (by omega) (by omega), w64 (n := (i : Int) + 1) (by omega) (by omega), hone]
        simp
      · have : i = vs.length := by omega
        subst this
        rw [List.take_of_length_le (Nat.le_refl _)]
        exact .retR ⟨h', rfl, hx⟩
    · rintro _ ⟨h6, rfl, x6⟩
      exact ⟨h6, rfl, x6⟩
  · rintro _ ⟨h6, rfl, x6⟩
    refine PO.call (known5_f x6.wf) fun a h7 ⟨ea, x7⟩ => ?_
    subst ea
    have hbm : ∀ v ∈ vs.map bareV, FR v := fun v hv => by
      obtain ⟨u, hu, rfl⟩ := List.mem_map.1 hv
      exact (FR.bare (hall u hu)).1
    have x27 := (x25.trans x6).trans x7
    have x37 := (((x4.trans x5).trans x6).trans x7)
    refine .chk' rfl (.chk' rfl (.chk' rfl (.chk' rfl (.chk' rfl (PO.call (FSame_f x7.wf ((rf.ex x2).ex x27) (rz'.ex x37) (by omega) hsz) fun a h8 ⟨ea, x8⟩ => ?_)))))
    subst ea
    refine .chk' (decide_eq_true (sameFs_bare hall)) (PO.call (FSame_f x8.wf ((rz'.ex x37).ex x8) (((rf.ex x2).ex x27).ex x8) (by simp; omega) (szok_of hbm)) fun a h9 ⟨ea, x9⟩ => ?_)
    subst ea
    have x79 := x8.trans x9
    refine .chk' (decide_eq_true (sameFs_symm (sameFs_bare hall))) (.callE (strT_ok (((rc'.ex x5).ex (x6.trans x7)).ex x79)) (.callE (strT_ok ((rd'.ex (x6.trans x7)).ex x79)) (.op (catT_ok _ _ (by rw [← List.length_append, ← layFs_app, List.take_append_drop]; omega)) (.callE (strT_ok ((rb'.ex x27).ex x79)) (.chk' ?_ (.ret ?_))))))
    · rw [bs_eq, ← layFs_app, List.take_append_drop]
      exact decide_eq_true rfl
    · have hbl := RdB.len rb'
      rw [hbl]
      exact beq_self_eq_true _
end Go.Proofs.Ythiccnmplgdheaa.T
/- A slice of raw frames (structs of six whole numbers, a bool, a slice of bytes and a slice of whole numbers) as a parameter. -/
set_option linter.unusedVariables false
set_option linter.unusedSimpArgs false
namespace Go.Abs
open Go Go.ChangeShapes Go.WideShapes Go.RowKit
structure RawA where
  k : Int
  id : Int
  off : Int
  a : Int
  b : Int
  bend : Int
  fin : Bool
  data : Part
  spans : Part
def IsInts (W : World) (y : Part) : Prop := IsRow .i64 W y.1 y.2.1 y.2.2.1 y.2.2.2 ∧ y.2.1 * 8 ≤ 140737488351232
def rawCells (y : RawA) : List Value := [.int .i64 y.k, .int .i64 y.id, .int .i64 y.off, .int .i64 y.a, .int .i64 y.b, .int .i64 y.bend, .bool y.fin, .slice y.data.1 y.data.2.1 y.data.2.2.1, .slice y.spans.1 y.spans.2.1 y.spans.2.2.1]
def IsRaw (W : World) (y : RawA) : Prop := IsPart W y.data ∧ IsInts W y.spans
def IsRowW (W : World) (a : Option Addr) (len cap : Nat) (ys : List RawA) : Prop :=
  (a = none ∧ len = 0 ∧ cap = 0 ∧ ys = []) ∨
  ∃ x, a = some x ∧ len ≤ cap ∧ cap ≤ maxLen ∧ ys.length = len ∧ ∀ i y, ys[i]? = some y → W.cells? 0 (x.add (i * 9)) 9 = some (rawCells y) ∧ IsRaw W y
theorem one_of_take {cs : List Value} {i : Nat} {v : Value} (h : (cs.drop i).take 1 = [v]) : cs[i]? = some v := by
  have : ((cs.drop i).take 1)[0]? = some v := by rw [h]; rfl
  rwa [List.getElem?_take_of_lt (by omega), List.getElem?_drop, Nat.add_zero] at this
theorem list9 {cs : List Value} {v0 v1 v2 v3 v4 v5 v6 v7 v8 : Value} (hl : cs.length = 9) (h0 : cs[0]? = some v0) (h1 : cs[1]? = some v1) (h2 : cs[2]? = some v2) (h3 : cs[3]? = some v3) (h4 : cs[4]? = some v4) (h5 : cs[5]? = some v5) (h6 : cs[6]? = some v6) (h7 : cs[7]? = some v7) (h8 : cs[8]? = some v8) : cs = [v0, v1, v2, v3, v4, v5, v6, v7, v8] := by
  match cs, hl with
  | [a0, a1, a2, a3, a4, a5, a6, a7, a8], _ => simp at h0 h1 h2 h3 h4 h5 h6 h7 h8; simp_all
theorem isPart_of {H : Type} {enc : TypeId × Value → H} {P : Program} {W : World} {t e : TypeId} {fuel : Nat} {cs : List Value} {x : DataW H × List MemPlace} {ts : List TypeId} {ds : List (DataW H)} {j : Nat} {k : IntKind} {B : Nat}
    (hsz : (DataW.weightsEach P ts ds).all (· ≤ reachBytes) = true) (ht : ts[j]? = some t) (hd : ds[j]? = some x.1) (hu : P.underlying t = some (.slice e)) (he : P.underlying e = some (.int k)) (hc : P.cellsOf e = 1) (hB : P.bytesOf e = B)
    (h : DataW.trod enc P W 0 (fun _ => true) true fuel t cs = some x) : ∃ y : Part, cs = [.slice y.1 y.2.1 y.2.2.1] ∧ IsRow k W y.1 y.2.1 y.2.2.1 y.2.2.2 ∧ y.2.1 * B ≤ 140737488351232 := by
  rcases open_ints hu he hc h with ⟨hcs, _⟩ | ⟨x', l', c', zs, hcs, _⟩
  · subst hcs
    exact ⟨(none, 0, 0, []), rfl, .inl ⟨rfl, rfl, rfl, rfl⟩, by simp⟩
  · subst hcs
    have hT : DataW.Trod enc P W 0 (fun _ => true) true t (.slice (some x') l' c') x.1 x.2 := ⟨fuel, by simpa [Value.cells] using h⟩
    obtain ⟨zs', hz'⟩ := isRow_of hu he hc hT
    exact ⟨(some x', l', c', zs'), rfl, hz', sized_ints hsz ht hd hu he hc hB hT⟩
abbrev flds (tI tB tD tS : TypeId) : List (TypeId × Nat) := [(tI, 0), (tI, 1), (tI, 2), (tI, 3), (tI, 4), (tI, 5), (tB, 6), (tD, 7), (tS, 8)]
theorem isRowW_of {H : Type} {enc : TypeId × Value → H} {P : Program} {W : World} {t e tI tB tD tU tS : TypeId} {fs : Array Field} {a : Option Addr} {len cap : Nat} {d : DataW H} {ps : List MemPlace} {ts : List TypeId} {ds : List (DataW H)} {j : Nat}
    (hsz : (DataW.weightsEach P ts ds).all (· ≤ reachBytes) = true) (ht : ts[j]? = some t) (hd : ds[j]? = some d)
    (hu : P.underlying t = some (.slice e)) (he : P.underlying e = some (.struct fs)) (hF : fs.toList.map (fun f => (f.type, f.offset)) = flds tI tB tD tS)
    (hc : P.cellsOf e = 9) (hB : P.bytesOf e = 104) (hI : P.underlying tI = some (.int .i64)) (cI : P.cellsOf tI = 1) (bI : P.bytesOf tI = 8) (hBo : P.underlying tB = some .bool) (cB : P.cellsOf tB = 1)
    (hD : P.underlying tD = some (.slice tU)) (cD : P.cellsOf tD = 1) (hU : P.underlying tU = some (.int .u8)) (cU : P.cellsOf tU = 1) (bU : P.bytesOf tU = 1) (hS : P.underlying tS = some (.slice tI)) (cS : P.cellsOf tS = 1)
    (h : DataW.Trod enc P W 0 (fun _ => true) true t (.slice a len cap) d ps) : ∃ ys, IsRowW W a len cap ys ∧ len * 104 ≤ 140737488351232 := by
  obtain ⟨fuel, hf⟩ := h
  rcases DataW.trod_slice hu hf with ⟨hcs, _⟩ | ⟨x, l, c, elems, rest, n, rfl, hcs, hx, _, hl, hm, hlen, hel, hsp, _⟩
  · simp [Value.cells] at hcs
    obtain ⟨rfl, rfl, rfl⟩ := hcs
    exact ⟨[], .inl ⟨rfl, rfl, rfl, rfl⟩, by simp⟩
  · simp [Value.cells] at hcs
    obtain ⟨rfl, rfl, rfl⟩ := hcs
    obtain ⟨hx1, _⟩ := Prod.mk.inj hx
    subst hx1
    have z := sized_slice hsz ht hd hu
    rw [hB] at z
    have hz : (reachBytes : Nat) = 140737488351232 := by decide
    simp only [List.length_map] at z
    have fget : ∀ (i : Nat) (p : TypeId × Nat), (flds tI tB tD tS)[i]? = some p → ∃ f : Field, fs[i]? = some f ∧ f.type = p.1 ∧ f.offset = p.2 := by
      intro i p hp
      rw [← hF, List.getElem?_map, Option.map_eq_some_iff] at hp
      obtain ⟨f, h1, rfl⟩ := hp
      exact ⟨f, by simpa using h1, rfl, rfl⟩
    have fsz : fs.size = 9 := by have := congrArg List.length hF; simpa using this
    have each : ∀ i, i < len → ∃ y : RawA, W.cells? 0 (x.add (i * 9)) 9 = some (rawCells y) ∧ IsRaw W y := by
      intro i hi
      have h1 := hel i hi
      obtain ⟨el, hel1⟩ : ∃ el, elems[i]? = some el := ⟨elems[i]'(by omega), List.getElem?_eq_getElem (by omega)⟩
      rw [hel1, hc, Option.bind_eq_some_iff] at h1
      obtain ⟨cs', h2, h3⟩ := h1
      have hw : (DataW.weightsEach P [e] [el.1]).all (· ≤ reachBytes) = true := by
        rw [List.all_eq_true]
        intro m hm'
        refine List.all_eq_true.1 hsz m (DataW.weights_mem_each ht hd m ?_)
        simp only [DataW.weights, hu, List.mem_cons, List.mem_append]
        refine .inr (.inl (weights_all (d := el.1) (List.mem_map.2 ⟨el, List.mem_of_getElem? hel1, rfl⟩) m ?_))
        simpa [DataW.weightsEach] using hm'
      obtain ⟨xs, n', rfl, rfl, hl9, hxl, hxf⟩ := DataW.trod_struct he h3
      rw [hc] at hl9
      rw [fsz] at hxl
      have hw' : (DataW.weightsEach P (fs.toList.map (·.type)) (xs.map (·.1))).all (· ≤ reachBytes) = true := by
        simpa [DataW.weightsEach, DataW.weights, he] using hw
      have fld : ∀ (i : Nat) (p : TypeId × Nat), (flds tI tB tD tS)[i]? = some p → ∃ y, xs[i]? = some y ∧ DataW.trod enc P W 0 (fun _ => true) true n' p.1 ((cs'.drop p.2).take (P.cellsOf p.1)) = some y := by
        intro i p hp
        obtain ⟨f, h1, h2, h3⟩ := fget i p hp
        have hi9 : i < 9 := (List.getElem?_eq_some_iff.1 hp).1
        have := hxf i f h1
        rw [h2, h3] at this
        exact ⟨xs[i]'(by omega), List.getElem?_eq_getElem (by omega), by rw [this]; exact List.getElem?_eq_getElem (by omega)⟩
      have int : ∀ (i : Nat), (flds tI tB tD tS)[i]? = some (tI, i) → ∃ m : Int, cs'[i]? = some (.int .i64 m) := by
        intro i hp
        obtain ⟨y, _, hy⟩ := fld i _ hp
        rw [cI] at hy
        obtain ⟨m, hm, _⟩ := DataW.trod_int hI hy
        exact ⟨m, one_of_take hm⟩
      obtain ⟨m0, c0⟩ := int 0 rfl
      obtain ⟨m1, c1⟩ := int 1 rfl
      obtain ⟨m2, c2⟩ := int 2 rfl
      obtain ⟨m3, c3⟩ := int 3 rfl
      obtain ⟨m4, c4⟩ := int 4 rfl
      obtain ⟨m5, c5⟩ := int 5 rfl
      obtain ⟨y6, _, hy6⟩ := fld 6 (tB, 6) rfl
      rw [cB] at hy6
      obtain ⟨b6, hb6, _⟩ := DataW.trod_bool hBo hy6
      have c6 := one_of_take hb6
      have tsj : ∀ (i : Nat) (p : TypeId × Nat), (flds tI tB tD tS)[i]? = some p → (fs.toList.map (·.type))[i]? = some p.1 := by
        intro i p hp
        obtain ⟨f, h1, h2, _⟩ := fget i p hp
        rw [List.getElem?_map, Option.map_eq_some_iff]
        exact ⟨f, by simpa using h1, h2⟩
      obtain ⟨y7, hx7, hy7⟩ := fld 7 (tD, 7) rfl
      rw [cD] at hy7
      obtain ⟨p7, hp7, hr7, hs7⟩ := isPart_of (j := 7) hw' (tsj 7 (tD, 7) rfl) (by rw [List.getElem?_map, hx7]; rfl) hD hU cU bU hy7
      obtain ⟨y8, hx8, hy8⟩ := fld 8 (tS, 8) rfl
      rw [cS] at hy8
      obtain ⟨p8, hp8, hr8, hs8⟩ := isPart_of (j := 8) hw' (tsj 8 (tS, 8) rfl) (by rw [List.getElem?_map, hx8]; rfl) hS hI cI bI hy8
      refine ⟨⟨m0, m1, m2, m3, m4, m5, b6, p7, p8⟩, ?_, ⟨hr7, by simpa using hs7⟩, hr8, hs8⟩
      rw [h2]
      exact congrArg some (list9 hl9 c0 c1 c2 c3 c4 c5 c6 (one_of_take hp7) (one_of_take hp8))
    have hf : ∃ f : Nat → RawA, ∀ i, i < len → W.cells? 0 (x.add (i * 9)) 9 = some (rawCells (f i)) ∧ IsRaw W (f i) :=
      ⟨fun i => if hi : i < len then Classical.choose (each i hi) else ⟨0, 0, 0, 0, 0, 0, false, (none, 0, 0, []), (none, 0, 0, [])⟩, fun i hi => by
        simp only [dif_pos hi]; exact Classical.choose_spec (each i hi)⟩
    obtain ⟨f, hf⟩ := hf
    refine ⟨(List.range len).map f, .inr ⟨x, rfl, hl, hm, by simp, fun i y hy => ?_⟩, by omega⟩
    rw [List.getElem?_map, Option.map_eq_some_iff] at hy
    obtain ⟨k, hk, rfl⟩ := hy
    obtain ⟨hk1, hk2⟩ := List.getElem?_eq_some_iff.1 hk
    rw [List.getElem_range] at hk2
    subst hk2
    exact hf i (by simpa using hk1)
end Go.Abs
