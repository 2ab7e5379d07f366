/- Lemmas about the typed texts (joined: LFrame1 LFrame2 LFrame3). -/
import Derived.Test.YthiccnmplgdheaaG16
/- The laws FrameBack and FrameCut over typed texts: what is laid is read the same; frames that are cut short are refused. -/
set_option linter.unusedVariables false
set_option linter.unusedSimpArgs false
namespace Go.Proofs.Ythiccnmplgdheaa.T
open Go Go.Abs Go.Proofs
theorem take9 {α : Type} (A B : List α) (m : Nat) (h : A.length = 9) : (A ++ B).take (9 + m) = A ++ B.take m := by
  rw [List.take_append, List.take_of_length_le (by omega), h, Nat.add_sub_cancel_left]
theorem drop9 {α : Type} (A B : List α) (m : Nat) (h : A.length = 9) : (A ++ B).drop (9 + m) = B.drop m := by
  rw [List.drop_append, List.drop_eq_nil_of_le (by omega), h, Nat.add_sub_cancel_left]; rfl
theorem fsV_take : ∀ (l : List F9) (k : Nat), fsV (l.take k) = (fsV l).take (k * 9)
  | [], k => by simp [fsV]
  | x :: l, 0 => by simp [fsV]
  | x :: l, k + 1 => by
    rw [show (k + 1) * 9 = 9 + k * 9 by omega]
    show f9L x ++ fsV (l.take k) = (f9L x ++ fsV l).take (9 + k * 9)
    rw [take9 _ _ _ rfl, fsV_take l k]
theorem fsV_drop : ∀ (l : List F9) (k : Nat), fsV (l.drop k) = (fsV l).drop (k * 9)
  | [], k => by simp [fsV]
  | x :: l, 0 => by simp [fsV]
  | x :: l, k + 1 => by
    rw [show (k + 1) * 9 = 9 + k * 9 by omega]
    show fsV (l.drop k) = (f9L x ++ fsV l).drop (9 + k * 9)
    rw [drop9 _ _ _ rfl, fsV_drop l k]
theorem slF_hi {h : H} {s : Sl} {xs : List F9} {vs : List FV} (r : RdF h s xs vs) {hi : Int} (h1 : 0 ≤ hi) (h2 : hi ≤ vs.length) : ∃ s', slT 9 h s none (some hi) none = some s' ∧ RdF h s' (xs.take hi.toNat) (vs.take hi.toNat) := by
  obtain ⟨s', e, r', _, _⟩ := sl_hi (hi := hi) (by omega) (by unfold B63; omega) r.rd h1 (by rw [r.len]; exact h2)
  exact ⟨s', e, by rw [fsV_take]; exact r', r.frs.take _⟩
theorem slF_lo {h : H} {s : Sl} {xs : List F9} {vs : List FV} (r : RdF h s xs vs) {lo : Int} (h1 : 0 ≤ lo) (h2 : lo ≤ vs.length) : ∃ s', slT 9 h s (some lo) none none = some s' ∧ RdF h s' (xs.drop lo.toNat) (vs.drop lo.toNat) := by
  obtain ⟨s', e, r', _, _⟩ := sl_lo (lo := lo) (by omega) (by unfold B63; omega) r.rd h1 (by rw [r.len]; exact h2)
  exact ⟨s', e, by rw [fsV_drop]; exact r', r.frs.drop _⟩
theorem RdF.cell {h : H} {s : Sl} {xs : List F9} {vs : List FV} {b : Addr} (r : RdF h s xs vs) (hb : s.base = some b) {j i : Nat} {v : Value} (hj : j < xs.length) (hi : i < 9) (e : (f9L (xs.getD j f90))[i]? = some v) : ldCell h (add (add b (j * 9)) i) = some v := by
  rw [add_add]
  refine (r.rd.ld b hb _ _ ?_).2
  have := fsV_get xs j hj
  rw [← this, List.getElem?_take_of_lt hi, List.getElem?_drop] at e
  exact e
def kv1 : FV := ⟨1, 0, 0, 0, 0, 0, false, [], []⟩
def kv2 : FV := ⟨10, 5, 0, 0, 0, 0, false, [], []⟩
theorem szok_of {vs : List FV} (h : ∀ v ∈ vs, FR v) : SzOK vs := fun v hv => by
  have h1 := (h v hv).1.2.2.2
  refine ⟨by omega, ?_⟩
  have hs := (h v hv).1.2.1.2.2.2.2.2.2.2
  by_cases h2 : v.kind = 2
  · have := (h v hv).2
    unfold FR1 at this
    rw [if_pos h2] at this
    have := this.2.2
    omega
  · have : v.spans = [] := by
      rw [hs]
      unfold bareV
      rw [if_neg h2]
      (repeat' split) <;> rfl
    rw [this]; simp
theorem known5_f {h : H} (w : WF h) : PO (law5_known h) (fun (a, h1) => a = true ∧ EX h h1) := by
  unfold law5_known
  refine PO.newB w fun h1 x1 B1 z1 w1 => ?_
  have r1 : RdF h1 ⟨some ⟨h.size, 0, some 0⟩, 2, 2⟩ [(1, 0, 0, 0, 0, 0, false, ⟨none, 0, 0⟩, ⟨none, 0, 0⟩), (10, 5, 0, 0, 0, 0, false, ⟨none, 0, 0⟩, ⟨none, 0, 0⟩)] [kv1, kv2] :=
    ⟨B1.rd w1 rfl (capOk_self _ _ (by unfold B63; omega)), ⟨⟨rfl, rfl, rfl, rfl, rfl, rfl, rfl⟩, rdB_nil _, rdR_nil _⟩, ⟨⟨rfl, rfl, rfl, rfl, rfl, rfl, rfl⟩, rdB_nil _, rdR_nil _⟩, trivial⟩
  have hall : ∀ v ∈ [kv1, kv2], FR v := by decide
  refine PO.call (FLay_f w1 r1 (by simp) (szok_of hall)) fun a h2 ⟨x2, ha⟩ => ?_
  rw [if_pos hall] at ha
  obtain ⟨s1, e1⟩ := a
  obtain ⟨rb, he⟩ := ha
  have he' : e1 = 0 := he
  subst he'
  have rb' : RdB h2 s1 [1, 10, 5] := rb
  refine PO.call (FRead_f x2.wf rb (by decide)) fun a h3 ⟨x3, hq⟩ => ?_
  rw [pRead_lay hall] at hq
  obtain ⟨s2, e2⟩ := a
  obtain ⟨⟨xs, r3⟩, he2⟩ := hq
  have he2' : e2 = 0 := he2
  subst he2'
  have r3' : RdF h3 s2 xs [kv1, kv2] := r3
  have hl3 := RdF.len r3'
  have hxl := r3'.frs.len
  refine .chk' rfl (.callE (strT_ok (rb'.ex x3)) (.chk' ?_ (.chk' rfl (.chk' ?_ ?_))))
  · exact (bs_eq [1, 10, 5] [1, 10, 5]).trans (by decide)
  · rw [hl3]; rfl
  refine PO.ixF r3' (by decide) (by decide) fun a b hb ha _ fr => ?_
  subst ha
  have f1 := fr.e.1
  have f2 := fr.e.2.1
  refine .op (ldI_of (RdF.cell r3' hb (by rw [hxl]; decide) (i := 0) (by decide) rfl)) (.chk' ?_ (PO.ixF r3' (by decide) (by decide) fun a b' hb' ha _ _ => ?_))
  · rw [beq_iff_eq]; exact f1
  subst ha
  rw [hb] at hb'; cases hb'
  refine .op (ldI_of (RdF.cell r3' hb (by rw [hxl]; decide) (i := 1) (by decide) rfl)) (.ret ⟨?_, (x1.trans x2).trans x3⟩)
  rw [beq_iff_eq]; exact f2
theorem layFs_mono (vs : List FV) {i n : Nat} (h : i ≤ n) : (layFs (vs.take i)).length ≤ (layFs (vs.take n)).length := by
  obtain ⟨j, rfl⟩ : ∃ j, n = i + j := ⟨n - i, by omega⟩
  rw [List.take_add, layFs_app, List.length_append]
  omega
end Go.Proofs.Ythiccnmplgdheaa.T
/- The law FrameBack over typed texts: what is laid is read the same, however many; laid in parts it is the same bytes; sizes add up. -/
set_option linter.unusedVariables false
set_option linter.unusedSimpArgs false
namespace Go.Proofs.Ythiccnmplgdheaa.T
open Go Go.Abs Go.Proofs
theorem catT_ok (a b : List UInt8) (h : a.length + b.length ≤ 2 ^ 47) : catT (bsOf a) (bsOf b) = some (bsOf (a ++ b)) := by
  unfold catT
  have : bsOf a ++ bsOf b = bsOf (a ++ b) := by
    apply ByteArray.ext
    simp [bsOf]
  rw [← this]
  have hs : ∀ l : List UInt8, (bsOf l).size = l.length := fun l => by simp [bsOf, ByteArray.size]
  unfold strBin
  rw [hs, hs]
  have : decide (((a.length + b.length : Nat) : Int) ≤ IntKind.i64.max) = true := decide_eq_true (by show _ ≤ (9223372036854775807 : Int); omega)
  simp only [this]
  rfl
end Go.Proofs.Ythiccnmplgdheaa.T
/- The law FrameElicits over typed texts: of many frames one that elicits is enough, wherever it stands. -/
set_option linter.unusedVariables false
set_option linter.unusedSimpArgs false
namespace Go.Abs
open Go
theorem slT_lo_h {sz : Nat} (h h' : H) (s : Sl) (lo : Option Int) : slT sz h s lo none none = slT sz h' s lo none none := by
  obtain ⟨b, len, cap⟩ := s
  cases b <;> rfl
theorem NW.som {B A : Nat} {h h' : H} (n : NW B h h') (w : WF h) (e : h.objs.get A ≠ none) : h'.objs.get A ≠ none := by
  have hlt : A < h.size := by
    rcases Nat.lt_or_ge A h.size with x | x
    · exact x
    · exact absurd (w.top A x) e
  by_cases hA : A = B
  · subst hA; exact absurd n.non e
  · rw [n.up.same A hlt hA]; exact e
end Go.Abs
namespace Go.Proofs.Ythiccnmplgdheaa.T
open Go Go.Abs Go.Proofs
def anyE (vs : List FV) : Bool := decide (∃ v ∈ vs, elV v)
theorem FrameElicits (l : Sl) (at' : Int) (h : H) (w : WF h) (xs : List F9) (us : List RV) (r : RdW h l xs us) (hn : us.length ≤ 2 ^ 50) (hz : WzOK us) (g1 : RNG at') : ∃ h', law5_FrameElicits l at' h = some (true, h') := by
  refine PO.law ?_
  unfold law5_FrameElicits P.law5_FrameElicits
  refine PO.call (HRight_f w r hn hz (N := 8) (by omega)) fun f h1 ⟨⟨xs, vs, rf, _, hall, hlen⟩, x1, _⟩ => ?_
  have hl8 : vs.length ≤ 8 := by omega
  have hsz := szok_of hall
  have hfLen := RdF.len rf
  refine PO.join (fun st => ∃ pl h2 ys ps, st = ((at', (f, (pl, anyE vs))), h2) ∧ EX h1 h2 ∧ Fr h1.size pl ∧ Buf 9 h2 pl (fsV ys) ∧ FRs h2 ys ps ∧ (∀ v ∈ ps, ¬ elV v) ∧ ps.length ≤ 8) ?_ ?_
  · refine PO.mono (P := fun st => ∃ pl h2 ys ps, st = Sum.inl ((at', (f, (pl, anyE vs))), h2) ∧ EX h1 h2 ∧ Fr h1.size pl ∧ Buf 9 h2 pl (fsV ys) ∧ FRs h2 ys ps ∧ (∀ v ∈ ps, ¬ elV v) ∧ ps.length ≤ 8) ?_ ?_
    · refine PO.loop (fun m st => ∃ (i : Nat) (pl : Sl) (h2 : H) (ys : List F9) (ps : List FV), st = ((at', (f, (pl, (anyE (vs.take i), (f, (((f.len : Nat) : Int), (i : Int))))))), h2) ∧ m + i = vs.length ∧ EX h1 h2 ∧ Fr h1.size pl ∧ Buf 9 h2 pl (fsV ys) ∧ FRs h2 ys ps ∧ (∀ v ∈ ps, ¬ elV v) ∧ ps.length ≤ i) ?_ vs.length _ ⟨0, _, h1, [], [], rfl, by simp, EX.refl x1.wf, fr_nil _, buf_nil 9 h1, trivial, by simp, by simp⟩
      rintro m st ⟨i, pl, h2, ys, ps, rfl, hm, hx, hf, hb, hfr, hel, hpl⟩
      unfold P.law5_FrameElicits_l1
      refine .condD (fun c => ?_) (fun c => ?_)
      · have hi : i < vs.length := by omega
        have htk := take_succ_getD vs fv0 hi
        refine PO.join (fun st => ∃ (pl : Sl) (h2 : H) (ys : List F9) (ps : List FV), st = ((at', (f, (pl, (anyE (vs.take (i + 1)), (f, (((f.len : Nat) : Int), (i : Int))))))), h2) ∧ EX h1 h2 ∧ Fr h1.size pl ∧ Buf 9 h2 pl (fsV ys) ∧ FRs h2 ys ps ∧ (∀ v ∈ ps, ¬ elV v) ∧ ps.length ≤ i + 1) ?_ ?_
        · refine PO.ixF (rf.ex hx) (by omega) (by omega) fun a _ _ _ e1 fr => .op e1 ?_
          simp only [Int.toNat_natCast] at fr ⊢
          rw [htk]
          generalize vs.getD i fv0 = v at *
          generalize xs.getD i f90 = x at *
          refine PO.boxF rfl hx.wf fun h3 x3 B3 z3 => ?_
          have hk : (x.1 = 2 ∨ x.1 = 12) ↔ ¬ elV v := by unfold elV; rw [fr.e.1]; omega
          refine PO.join (fun st => st = ((at', (f, (pl, (anyE (vs.take i), (some ⟨h2.size, 0, some 0⟩, (f, (((f.len : Nat) : Int), ((i : Int), decide (x.1 = 2 ∨ x.1 = 12))))))))), h3)) ?_ ?_
          · refine .ldI B3 rfl (.condE (fun e => .retL ?_) (fun e => .ldI B3 rfl (.retL ?_)))
            · have e' : x.1 = 2 := e
              simp [e']
            · have e' : ¬ x.1 = 2 := e
              by_cases h12 : x.1 = 12 <;> simp [h12, e']
          · rintro _ rfl
            have hyl := hfr.len
            refine .condD (fun c2 => .ptr (PO.ldF (x := x) B3 (PO.appF (x := x) (hx.trans x3) (hb.ex hx.wf x3) hf (by omega) fun out1 h5 b5 x5 f5 k5 => .retL ⟨out1, h5, ys ++ [x], ps ++ [v], ?_, x5, f5, b5, FRs.app ((hfr.ex x3).kp k5) ⟨(fr.ex x3).kp k5, trivial⟩, ?_, by simp; omega⟩))) (fun c2 => .retL ⟨pl, h3, ys, ps, ?_, hx.trans x3, hf, hb.ex hx.wf x3, hfr.ex x3, hel, by omega⟩)
            · have : (∃ u ∈ vs.take i ++ [v], elV u) ↔ ∃ u ∈ vs.take i, elV u := by
                constructor
                · rintro ⟨u, hu, he⟩
                  rcases List.mem_append.1 hu with hu | hu
                  · exact ⟨u, hu, he⟩
                  · simp at hu; subst hu; exact absurd he (hk.1 c2)
                · rintro ⟨u, hu, he⟩; exact ⟨u, by simp [hu], he⟩
              rw [show anyE (vs.take i ++ [v]) = anyE (vs.take i) from decide_eq_decide.2 this]
            · intro u hu
              rcases List.mem_append.1 hu with hu | hu
              · exact hel u hu
              · simp at hu; subst hu; exact hk.1 c2
            · have hv : elV v := Decidable.byContradiction fun hh => c2 (hk.2 hh)
              rw [show anyE (vs.take i ++ [v]) = true from decide_eq_true ⟨v, by simp, hv⟩]
        · rintro _ ⟨pl, h2, ys, ps, rfl, q⟩
          refine .retL ⟨m - 1, by omega, i + 1, pl, h2, ys, ps, ?_, by omega, q⟩
          rw [w64 (n := (i : Int) + 1) (by omega) (by omega)]; rfl
      · have : i = vs.length := by omega
        subst this
        rw [List.take_of_length_le (Nat.le_refl _)]
        exact .retR ⟨pl, h2, ys, ps, rfl, hx, hf, hb, hfr, hel, by omega⟩
    · rintro _ ⟨pl, h2, ys, ps, rfl, q⟩
      exact ⟨pl, h2, ys, ps, rfl, q⟩
  · rintro _ ⟨pl, h2, ys, ps, rfl, x2, f2, b2, fr2, hel, hpl⟩
    have w2 := x2.wf
    have hnr := w2.nro
    have hyl := fr2.len
    have r2 : RdF h2 pl ys ps := ⟨b2.rd, fr2⟩
    have hpLen := RdF.len r2
    refine .callE (by rw [w64 (by omega) (by omega)]; exact pick_f _ _ (by omega) (by omega) _) ?_
    have hkb := emod_b at' (m := ((pl.len : Nat) : Int) + 1) (by omega)
    generalize at' % (((pl.len : Nat) : Int) + 1) = k at *
    obtain ⟨kn, hkn⟩ : ∃ kn : Nat, k = kn := ⟨k.toNat, by omega⟩
    subst hkn
    refine PO.letGrow w2 fun h3 x3 z3 w3 n3 => .addOff (by decide) (.addNil ?_)
    have r3 := r2.ex x3
    obtain ⟨s4, e4, r4⟩ := slF_hi (hi := (kn : Int)) r3 (by omega) (by omega)
    simp only [Int.toNat_natCast] at r4
    refine .op e4 (PO.addNew (vs := []) w3 (by decide) (n3 0 (by omega)) (by omega) (by rw [x3.nro]; omega) fun h5 N5 B5 => .addNil ?_)
    have z5 := N5.size
    have r5 : Rd 9 h5 s4 (fsV (ys.take kn)) := NW.kr N5 r4.rd
    have fr5 : FRs h5 ys ps := (fr2.ex x3).map fun x v q => ⟨q.e, NW.kr N5 q.data, NW.kr N5 q.spans⟩
    have rp5 : Rd 9 h5 pl (fsV ys) := NW.kr N5 r3.rd
    have u5 : Buf 9 h5 ⟨some ⟨h2.size + 0, 0, some 0⟩, 0, 0⟩ [] := Box.buf (n := 0) B5 N5.wf rfl (by unfold B63; omega)
    have l4 := r4.len
    have nn5 := N5.nn (C := h2.size + 6) (by omega) (by omega) (n3 6 (by omega))
    obtain ⟨s6, h6, e6, k6, y6, b6, q6, f6⟩ := appT_ok (e := 33) (bytes := 104) (by omega) (by unfold B63; omega) N5.wf u5 r5 (fsV_oneC _) (by simp only; simp at l4; omega) (by simp only; simp at l4; omega)
    refine .callE e6 (.addOld (k6.som _ B5.ne) (PO.addNew (vs := f9L (1, 0, 0, 0, 0, 0, false, ⟨none, 0, 0⟩, ⟨none, 0, 0⟩)) k6.wf (by decide) (k6.non _ (by omega) nn5) (by have := k6.size; omega) (by rw [k6.nro, N5.up.nro, x3.nro]; omega) fun h7 N7 B7 => .addNil ?_))
    have z7 := N7.size
    have z6 := k6.size
    have k7 : Rd 9 h7 ⟨some ⟨h2.size + 6, 0, some 0⟩, 1, 1⟩ (fsV [(1, 0, 0, 0, 0, 0, false, ⟨none, 0, 0⟩, ⟨none, 0, 0⟩)]) := B7.rd N7.wf rfl (by unfold CapOK; rw [capK_exact (by unfold B63; omega)]; exact Nat.le_refl _)
    have b7 := NW.buf N7 k6.wf b6
    have fr7 : FRs h7 ys ps := (fr5.kp k6).map fun x v q => ⟨q.e, NW.kr N7 q.data, NW.kr N7 q.spans⟩
    have rp7 : Rd 9 h7 pl (fsV ys) := NW.kr N7 (Rd.mono rp5 k6)
    have l6 := b6.rd.len
    obtain ⟨s8, h8, e8, k8, y8, b8, q8, f8⟩ := appT_ok (e := 33) (bytes := 104) (by omega) (by unfold B63; omega) N7.wf b7 k7 (fsV_oneC _) (by simp only; rw [q6]; simp at l4; simp only; omega) (by simp only; rw [q6]; simp at l4; simp only; omega)
    have fr8 := fr7.kp k8
    have r8 : RdF h8 pl ys ps := ⟨Rd.mono rp7 k8, fr8⟩
    obtain ⟨s9, e9, r9⟩ := slF_lo (lo := (kn : Int)) r8 (by omega) (by omega)
    simp only [Int.toNat_natCast] at r9
    have l9 := r9.len
    refine .callE e8 (.addOff (by decide) (.addOff (by decide) (.addNil (.op e9 ?_))))
    refine .addOld (k8.som _ (N7.som k6.wf (k6.som _ B5.ne))) (.addOld (k8.som _ B7.ne) (.addNil ?_))
    have l8 := b8.rd.len
    obtain ⟨s11, h11, e11, k11, y11, b11, q11, f11⟩ := appT_ok (e := 33) (bytes := 104) (by omega) (by unfold B63; omega) k8.wf b8 r9.rd (fsV_oneC _) (by rw [q8, q6]; simp at l4 l9; simp only; omega) (by rw [q8, q6]; simp at l4 l9; simp only; omega)
    refine .callE e11 (.addOff (by decide) (.addOff (by decide) (.addNil (.op ((slT_lo_h _ _ _ _).trans e9) (.chk' (slEq_self _) (.addOff (by decide) (.addOff (by decide) (.addNil (.op ((slT_lo_h _ _ _ _).trans e9) (.chk' (slEq_self _) ?_))))))))))
    refine .addOld (k11.som _ (k8.som _ (N7.som k6.wf (k6.som _ B5.ne)))) (.addOld (k11.som _ (k8.som _ B7.ne)) (.addNil (PO.letTick k11.wf fun h15 x15 z15 w15 => ?_)))
    have X25 : EX h2 h5 := N5.ex0 x3 (by omega)
    have F5 : Fr h2.size ⟨some ⟨h2.size + 0, 0, some 0⟩, 0, 0⟩ := fun a ha => by cases ha; exact Nat.le_refl _
    have X26 := y6 _ X25 F5
    have F6 := f6 _ X25.size F5
    have X27 : EX h2 h7 := N7.ex0 X26 (by omega)
    have X28 := y8 _ X27 F6
    have F8 := f8 _ X27.size F6
    have X2 := (y11 _ X28 F8).trans x15
    have r11 : RdF h11 s11 (ys.take kn ++ [(1, 0, 0, 0, 0, 0, false, ⟨none, 0, 0⟩, ⟨none, 0, 0⟩)] ++ ys.drop kn) (ps.take kn ++ [kv1] ++ ps.drop kn) := by
      refine ⟨?_, FRs.app (FRs.app ((fr8.kp k11).take kn) ⟨⟨⟨rfl, rfl, rfl, rfl, rfl, rfl, rfl⟩, rdB_nil _, rdR_nil _⟩, trivial⟩) ((fr8.kp k11).drop kn)⟩
      have := b11.rd
      rw [List.nil_append, ← fsV_app, ← fsV_app] at this
      exact this
    refine PO.call (known5_f w15) fun a h16 ⟨ea, x16⟩ => ?_
    subst ea
    refine .chk' rfl (PO.call (Elicits_f x16.wf (((rf.ex x2).ex X2).ex x16) (by omega)) fun a h17 ⟨ea, x17⟩ => ?_)
    subst ea
    refine .chk' (beq_self_eq_true _) (PO.call (Elicits_f x17.wf (((r2.ex X2).ex x16).ex x17) (by omega)) fun a h18 ⟨ea, x18⟩ => ?_)
    subst ea
    rw [decide_eq_false (show ¬ ∃ v ∈ ps, elV v from fun ⟨v, hv, he⟩ => hel v hv he)]
    refine .chk' rfl (PO.call (Elicits_f x18.wf ((((r11.ex x15).ex x16).ex x17).ex x18) (by simp; omega)) fun a h19 ⟨ea, x19⟩ => ?_)
    subst ea
    exact .ret (decide_eq_true ⟨kv1, by simp, by decide⟩)
end Go.Proofs.Ythiccnmplgdheaa.T
