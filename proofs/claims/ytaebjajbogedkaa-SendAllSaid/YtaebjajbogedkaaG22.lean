/- Lemmas about the typed texts (joined: LSendA). -/
import Derived.Test.YtaebjajbogedkaaG21
-- SEAT c
/- The law SendAll over the typed texts. -/
set_option linter.unusedVariables false
set_option linter.unusedSimpArgs false
namespace Go.Proofs.Ytaebjajbogedkaa.T
open Go Go.Abs Go.Proofs
/-! what is written -/
structure WA (h0 hh : H) (p : Nat) (l : List UInt8) (all : Sl) : Prop where
  ex : EX h0 hh
  str : ∃ sb, StrA h0.size hh p { ss0 6 with b := l } sb ⟨none, 0, 0⟩ ⟨none, 0, 0⟩ ∧ BufB hh sb l ∧ Fr (p + 1) sb ∧ ∀ a b, sb.base = some a → all.base = some b → a.block ≠ b.block
  ra : BufB hh all l
  fa : Fr (p + 1) all
theorem all_l1 {h0 : H} {parts fates rooms : Sl} {xs : List Sl} {ls : List (List UInt8)} (hp : RdS h0 parts xs) (hx : RdBs h0 xs ls) (hn : xs.length ≤ 2 ^ 47) {p : Nat} :
    ∀ n s, (∃ (i : Nat) (hh : H) (all : Sl) (l : List UInt8), s = ((parts, (fates, (rooms, (some ⟨p, 0, some 0⟩, (all, (i : Int)))))), hh) ∧ n = 6 - i ∧ i ≤ 6 ∧ WA h0 hh p l all ∧ l.length ≤ 60 * i) →
    PO (loopO law13_SendAll_l1 s) (Sum.elim (fun q => ∃ (hh : H) (all : Sl) (l : List UInt8), q = ((fates, (rooms, (some ⟨p, 0, some 0⟩, all))), hh) ∧ WA h0 hh p l all ∧ l.length ≤ 360) (fun q => q.1 = true)) := by
  refine PO.loop _ ?_
  rintro n _ ⟨i, hh, all, l, rfl, rfl, hi, T, hl⟩
  unfold law13_SendAll_l1 P.law13_SendAll_l1
  dsimp only
  have hpl : parts.len = xs.length := hp.len
  refine PO.join (fun q => q = ((parts, (fates, (rooms, (some ⟨p, 0, some 0⟩, (all, ((i : Int), decide (i < xs.length ∧ i < 6))))))), hh)) ?_ ?_
  · rw [hpl]
    refine PO.condD (fun h1 => .retL ?_) (fun h1 => .retL ?_)
    · have : decide ((i : Int) < 6) = decide (i < xs.length ∧ i < 6) := decide_eq_decide.2 (by omega)
      rw [this]
    · rw [decide_eq_false (show ¬ (i < xs.length ∧ i < 6) by omega)]
  rintro _ rfl
  dsimp only
  refine PO.condD (fun hc => ?_) (fun hc => .retR ⟨hh, all, l, rfl, T, by omega⟩)
  obtain ⟨y, m, hy, hm, ry, hml⟩ := RdBs.get i hx hc.1
  obtain ⟨a, e1, e2⟩ := (hp.ex T.ex).at hy
  have w := T.ex.wf
  refine PO.op e1 (PO.op e2 ?_)
  refine PO.call (Few_po w (RdB.ex T.ex ry) hml (n := 60) (by omega)) ?_
  rintro z h1 ⟨x1, bz, fz⟩
  obtain ⟨sb, S, bs, fs, ap⟩ := T.str
  have hpb := S.box.blt
  have hpn := S.box.nro
  have S1 := S.kx w x1
  have hml2 : (m.take (60 : Int).toNat).length ≤ 60 := by simp; omega
  generalize m.take (60 : Int).toNat = m' at *
  have bs1 : BufB h1 sb l := Buf.ex w x1 bs
  refine PO.call (Write_f' x1.wf S1 bs1 fs bz.rd rfl rfl (by show l.length + m'.length ≤ 4000; omega)) ?_
  rintro _ h3 ⟨rfl, ⟨sb3, S3, bs3, fs3, ob3⟩, h2, k2, u2, v2, w3⟩
  refine PO.condNE (fun g => absurd rfl g) fun _ => ?_
  have ball1 : BufB h1 all l := Buf.ex w x1 T.ra
  have ball2 : BufB h2 all l := Buf.up x1.wf ball1 v2 (fun a ha ⟨c, hc, e⟩ => ap c a hc ha e)
  have ball3 : BufB h3 all l := Buf.up u2.wf ball2 w3 (fun a ha e => by have := T.fa a ha; have e : a.block = p := e; omega)
  have rz3 : RdB h3 z m' := Rd.up (RdB.mono bz.rd k2) w3 fun a ha e => by have := fz a ha; have e : a.block = p := e; omega
  obtain ⟨all', h4, e4, k4, x4, b4, _, f4⟩ := appB_ok (e := 5) w3.wf ball3 rz3 (by omega)
  refine PO.callE e4 ?_
  have hs3 : p + 1 ≤ h3.size := by have := w3.size; have := u2.size; have := x1.size; omega
  have hn3 : h3.nro ≤ p + 1 := by rw [w3.nro, u2.nro, x1.nro]; omega
  have u4 : UP (fun A => p + 1 ≤ A) h3 h4 := up_of_ex w3.wf x4 k4 hn3 hs3 T.fa
  have u4' := up_app e4 k4
  have hab : ∀ a, all.base = some a → a.block < h1.size := buf_lt' x1.wf ball1
  have bs4 : BufB h4 sb3 (l ++ m') := Buf.up w3.wf bs3 u4' fun a ha ⟨c, hc, e⟩ => by
    rcases ob3 a ha with g | ⟨d, hd, g⟩
    · have := hab c hc; omega
    · exact ap d c hd hc (by omega)
  have S4 := S3.kp w3.wf k4 u4
  refine .retL ⟨_, ?_, i + 1, h4, all', l ++ m', ?_, rfl, by omega, ⟨?_, ⟨sb3, S4, bs4, fs3, ?_⟩, b4, f4 _ hs3 T.fa⟩, by simp; omega⟩
  · omega
  · rw [w64 (n := (i : Int) + 1) (by omega) (by omega)]; rfl
  · have hp0 := S.p0
    exact u4.ex0 (w3.ex0 (u2.ex0 (T.ex.trans x1) fun A hA e => by omega) fun A hA e => by omega) fun A hA e => by omega
  · intro a b ha hb
    have h1' := buf_lt' w3.wf bs3 a ha
    rcases appT_base e4 b hb with g | ⟨c, hc, g⟩
    · omega
    · rcases ob3 a ha with g2 | ⟨d, hd, g2⟩
      · have := hab c hc; omega
      · intro e; exact ap d c hd hc (by omega)
/-! what is sent -/
structure A2 (h0 hh : H) (p cb : Nat) (x : SS) (all : Sl) : Prop where
  ex : EX h0 hh
  str : ∃ sb sl sc, StrA h0.size hh p x sb sl sc
  ra : RdB hh all x.b
  fa : Fr (p + 1) all
  cm : ∃ s, Box hh cb [encSl s] ∧ RdR hh s x.came ∧ (∀ a, s.base = some a → a.block ≠ cb) ∧ Fr (p + 1) s
  ne : p < cb
theorem A2.kx {h0 hh h1 : H} {p cb : Nat} {x : SS} {all : Sl} (T : A2 h0 hh p cb x all) (y : EX hh h1) : A2 h0 h1 p cb x all :=
  ⟨T.ex.trans y, let ⟨sb, sl, sc, S⟩ := T.str; ⟨sb, sl, sc, S.kx T.ex.wf y⟩, RdB.ex y T.ra, T.fa, let ⟨s, B, r, a, b⟩ := T.cm; ⟨s, B.kx y, r.ex y, a, b⟩, T.ne⟩
/-- the stream is written; the set beside does not hold what came -/
structure A2' (h0 hh : H) (p cb : Nat) (x : SS) (b : List UInt8) (cm : List Run) (all : Sl) : Prop where
  ex : EX h0 hh
  str : ∃ sb sl sc, StrA h0.size hh p x sb sl sc
  ra : RdB hh all b
  fa : Fr (p + 1) all
  cm : ∃ s, Box hh cb [encSl s] ∧ RdR hh s cm ∧ (∀ a, s.base = some a → a.block ≠ cb) ∧ Fr (p + 1) s
  ne : p < cb
theorem A2.upd {h0 hh h1 : H} {p cb : Nat} {x y : SS} {all : Sl} (T : A2 h0 hh p cb x all) (u : UP (· = p) hh h1) (S : ∃ sb sl sc, StrA h0.size h1 p y sb sl sc) : A2' h0 h1 p cb y x.b x.came all := by
  obtain ⟨_, _, _, A⟩ := T.str
  obtain ⟨s, B, r, a, b⟩ := T.cm
  have hne := T.ne
  exact ⟨u.ex0 T.ex fun B hB e => by have := A.p0; omega, S, Rd.up T.ra u fun q hq e => by have := T.fa q hq; have e : q.block = p := e; omega, T.fa, ⟨s, B.up T.ex.wf u (by omega), Rd.up r u fun q hq e => by have := b q hq; have e : q.block = p := e; omega, a, b⟩, T.ne⟩
theorem A2'.same {h0 hh : H} {p cb : Nat} {x : SS} {b : List UInt8} {cm : List Run} {all : Sl} (T : A2' h0 hh p cb x b cm all) (e1 : x.b = b) (e2 : x.came = cm) : A2 h0 hh p cb x all :=
  ⟨T.ex, T.str, by rw [e1]; exact T.ra, T.fa, by rw [e2]; exact T.cm, T.ne⟩
theorem A2'.kx {h0 hh h1 : H} {p cb : Nat} {x : SS} {b : List UInt8} {cm : List Run} {all : Sl} (T : A2' h0 hh p cb x b cm all) (y : EX hh h1) : A2' h0 h1 p cb x b cm all :=
  ⟨T.ex.trans y, let ⟨sb, sl, sc, S⟩ := T.str; ⟨sb, sl, sc, S.kx T.ex.wf y⟩, RdB.ex y T.ra, T.fa, let ⟨s, B, r, a, b⟩ := T.cm; ⟨s, B.kx y, r.ex y, a, b⟩, T.ne⟩
theorem A2'.upd {h0 hh h1 : H} {p cb : Nat} {x y : SS} {b : List UInt8} {cm : List Run} {all : Sl} (T : A2' h0 hh p cb x b cm all) (u : UP (· = p) hh h1) (S : ∃ sb sl sc, StrA h0.size h1 p y sb sl sc) : A2' h0 h1 p cb y b cm all := by
  obtain ⟨_, _, _, A⟩ := T.str
  obtain ⟨s, B, r, a, b'⟩ := T.cm
  have hne := T.ne
  exact ⟨u.ex0 T.ex fun B hB e => by have := A.p0; omega, S, Rd.up T.ra u fun q hq e => by have := T.fa q hq; have e : q.block = p := e; omega, T.fa, ⟨s, B.up T.ex.wf u (by omega), Rd.up r u fun q hq e => by have := b' q hq; have e : q.block = p := e; omega, a, b'⟩, T.ne⟩
theorem A2'.add {h0 hh : H} {p cb : Nat} {x : SS} {b : List UInt8} {cm : List Run} {all : Sl} (T : A2' h0 hh p cb x b cm all) (hl : cm.length ≤ 2 ^ 40) (f t : Int) :
    PO (spans_Set_Add (some ⟨cb, 0, some 0⟩) f t hh) (fun (_, h') => A2' h0 h' p cb x b (addS f t cm) all ∧ UP (· = cb) hh h') := by
  obtain ⟨s, B, r, hnb, fs⟩ := T.cm
  have w := T.ex.wf
  have hne := T.ne
  refine (Add_f2 w B r hnb hl f t).mono ?_
  rintro ⟨_, h'⟩ ⟨s', B', r', hnb', fr', u⟩
  obtain ⟨sb, sl, sc, S⟩ := T.str
  have hpb := S.box.blt
  have hd : ∀ {l : List Run}, ∀ v ∈ runsV l, v ∉ [encSl s] := fun {l} v hv => by
    intro hm
    simp only [List.mem_singleton] at hm
    subst hm
    clear r r' hnb' hnb
    induction l with
    | nil => cases hv
    | cons q l ih =>
      simp only [runsV, List.mem_cons] at hv
      rcases hv with hv | hv | hv
      · unfold encSl at hv; cases hv
      · unfold encSl at hv; cases hv
      · exact ih hv
  have hdb : ∀ v ∈ [encSl s], ∀ n, v ≠ .int .u8 n := fun v hv n e => by
    simp only [List.mem_singleton] at hv
    subst hv
    unfold encSl at e; cases e
  refine ⟨⟨u.ex0 T.ex fun A hA e => by have := S.p0; omega, ⟨sb, sl, sc, ⟨S.box.up w u (by omega), RdB.kbox w B u hdb S.rb, Rd.kbox w B u hd S.rl, Rd.kbox w B u hd S.rc, S.nb, S.nl, S.nc, S.p0⟩⟩, RdB.kbox w B u hdb T.ra, T.fa, ⟨s', B', r', hnb', fr' _ hpb fs⟩, T.ne⟩, u⟩
theorem A2.all_f {h0 hh : H} {p cb : Nat} {x : SS} {all : Sl} (T : A2 h0 hh p cb x all) (hl : x.came.length ≤ 10000) (t : Int) :
    PO (spans_Set_All (some ⟨cb, 0, some 0⟩) 0 t hh) (fun (a, h') => EX hh h' ∧ a = decide (gapS 0 t x.came = [])) := by
  obtain ⟨s, B, r, hnb, fs⟩ := T.cm
  have S : SetAt hh cb 0 [encSl s] x.came := ⟨⟨s, rfl, r, hnb⟩, B⟩
  have := SAll_f T.ex.wf S (by omega) 0 t
  rwa [addA_zero] at this
set_option maxHeartbeats 2000000 in
theorem all_l2 {h0 : H} {fates rooms : Sl} {zs ws : List Int} (r : RdI .i64 h0 fates zs) (hz : zs.length ≤ 2 ^ 47) (r2 : RdI .i64 h0 rooms ws) (hw : ws.length ≤ 2 ^ 47) {p cb : Nat} {all : Sl} :
    ∀ n s, (∃ (i : Nat) (hh : H) (x : SS), s = ((fates, (rooms, (some ⟨p, 0, some 0⟩, (all, (some ⟨cb, 0, some 0⟩, (x.fc, (i : Int))))))), hh) ∧ n = 400 - i ∧ i ≤ 400 ∧ A2 h0 hh p cb x all ∧ AJ x i) →
    PO (loopO law13_SendAll_l2 s) (Sum.elim (fun q => ∃ (hh : H) (x : SS), q = ((some ⟨p, 0, some 0⟩, (all, (some ⟨cb, 0, some 0⟩, x.fc))), hh) ∧ A2 h0 hh p cb x all ∧ GInv x ∧ doneV x = true ∧ x.reset = false) (fun q => q.1 = true)) := by
  refine PO.loop _ ?_
  rintro n _ ⟨i, hh, x, rfl, rfl, hi, T, J⟩
  unfold law13_SendAll_l2 P.law13_SendAll_l2
  dsimp only
  have I := J.inv
  have w := T.ex.wf
  have hcl := came_len I
  have hll := I.ok.lostLen
  obtain ⟨sb, sl, sc, S⟩ := T.str
  refine PO.join (fun q => ∃ h1, q = ((fates, (rooms, (some ⟨p, 0, some 0⟩, (all, (some ⟨cb, 0, some 0⟩, (x.fc, ((i : Int), !doneV x))))))), h1) ∧ EX hh h1 ∧ (doneV x = false → i < 400)) ?_ ?_
  · refine PO.condD (fun hc => ?_) (fun hc => ?_)
    · refine PO.call (Done_f w S (by omega)) ?_
      rintro q h1 ⟨e, x1⟩
      have e : q = _ := e
      subst e
      exact .retL ⟨h1, rfl, x1, fun _ => by omega⟩
    · have := J.mu (by omega)
      exfalso
      omega
  rintro _ ⟨h1, rfl, x1, hi2⟩
  dsimp only
  have T1 := T.kx x1
  have S1 := S.kx w x1
  refine PO.condN (fun hd => ?_) (fun hd => .retR ⟨h1, x, rfl, T1, I, hd, J.rst⟩)
  have hi2 := hi2 hd
  refine PO.join (fun q => ∃ (h2 : H) (y : SS), q = ((fates, (rooms, (some ⟨p, 0, some 0⟩, (all, (some ⟨cb, 0, some 0⟩, (y.fc, (i : Int))))))), h2) ∧ A2 h0 h2 p cb y all ∧ AJ y (i + 1)) ?_ ?_
  · -- the room
    refine PO.join (fun q => ∃ room : Int, q = ((fates, (rooms, (some ⟨p, 0, some 0⟩, (all, (some ⟨cb, 0, some 0⟩, (x.fc, ((i : Int), room))))))), h1) ∧ (60 ≤ i → room = 60)) ?_ ?_
    · refine PO.join (fun q => q = ((fates, (rooms, (some ⟨p, 0, some 0⟩, (all, (some ⟨cb, 0, some 0⟩, (x.fc, ((i : Int), (60, decide (i < ws.length ∧ i < 60))))))))), h1)) ?_ ?_
      · rw [r2.len]
        refine PO.condD (fun g1 => .retL ?_) (fun g1 => .retL ?_)
        · have : decide ((i : Int) < 60) = decide (i < ws.length ∧ i < 60) := decide_eq_decide.2 (by omega)
          rw [this]
        · rw [decide_eq_false (show ¬ (i < ws.length ∧ i < 60) by omega)]
      · rintro _ rfl
        dsimp only
        refine PO.condD (fun hc => ?_) (fun hc => .retL ⟨60, rfl, fun _ => rfl⟩)
        refine PO.ixI (RdI.ex T1.ex r2) (by omega) (by omega) fun a ha => PO.op ha (PO.callE (pick_f _ 70 (by omega) (by omega) h1) (.retL ⟨_, rfl, fun g => by omega⟩))
    rintro _ ⟨room, rfl, hroom⟩
    dsimp only
    refine PO.call (Next_f x1.wf S1 I.ok room 500 (by omega)) ?_
    rintro ⟨⟨b1, b2, b3, b4, b5, b6, b7, b8, b9⟩, fresh, ok'⟩ h4 ⟨u4, hq⟩
    refine PO.boxF (x := (b1, b2, b3, b4, b5, b6, b7, b8, b9)) rfl u4.wf fun h5 x5 B5 z5 => ?_
    rcases hq with ⟨e1, _, hn, S4⟩ | ⟨e1, f, u, hp, _, fa, sl', S4⟩
    · have e1 : ok' = false := e1
      subst e1
      have hdf : doneV x = false := hd
      refine PO.condT (PO.condD (fun hr => ?_) (fun hr => ?_))
      · have := J.nopick (by omega) hn
        rw [hdf] at this; cases this
      · have T5 := ((T1.upd u4 ⟨sb, sl, sc, S4⟩).same rfl rfl).kx x5
        exact .retL ⟨h5, x, rfl, T5, J.skip (by have := hroom; omega)⟩
    · have e1 : ok' = true := e1
      subst e1
      have P := hp.picked I.ok
      have S5 := S4.kx u4.wf x5
      have T4 := T1.upd u4 ⟨sb, sl', sc, S4⟩
      have T5 := T4.kx x5
      have f0 := P.f0; have fu := P.fu; have ub := P.ub; have hbl := J.bl
      have hoff : b3 = f := fa.rd.e.2.2.1
      have hfin : b7 = endsV x u := fa.rd.e.2.2.2.2.2.2
      have hlen : (b8.len : Int) = u - f := by
        have h1 : b8.len = (sfr x f u).data.length := RdB.len fa.rd.data
        have h2 := sfr_len (x := x) f0 fu ub
        omega
      have hto : IntKind.wrap .i64 (b3 + ((b8.len : Nat) : Int)) = u := by rw [hoff, hlen, w64 (by omega) (by omega)]; omega
      have hall : (all.len : Int) = x.b.length := by have := RdB.len T1.ra; omega
      refine PO.condF (PO.ldI (i := 2) B5 rfl (PO.ldL (i := 7) B5 rfl ?_))
      dsimp only
      rw [hto]
      -- the checks
      refine PO.join (fun q => ∃ h6, q = ((fates, (rooms, (some ⟨p, 0, some 0⟩, (all, (some ⟨cb, 0, some 0⟩, (x.fc, ((i : Int), (some ⟨h4.size, 0, some 0⟩, (u, false))))))))), h6) ∧ EX h5 h6) ?_ ?_
      · refine PO.ldF B5 ?_
        have fr5 := fa.ex x5
        refine PO.call (FSize_f x5.wf fr5.rd (by have := sfr_sz x f u; omega) (by simp [sfr])) ?_
        rintro q h6 ⟨e6, x6⟩
        have e6 : q = _ := e6
        subst e6
        have B6 := B5.kx x6
        have hsz := PickV.size I.ok hp
        refine PO.condD (fun g => absurd g (by omega)) fun _ => PO.ldI (i := 2) B6 rfl (PO.condD (fun g => absurd g (by show ¬ b3 < 0; omega)) fun _ => PO.letO ?_)
        rw [hall, decide_eq_false (by omega)]
        refine PO.condF (PO.ldI (i := 2) B6 rfl ?_)
        have rall : RdB h6 all x.b := RdB.ex x6 T5.ra
        obtain ⟨s', e7, r7⟩ := slB_mid2 rall (lo := b3) (hi := u) (by omega) (by omega) (by omega)
        refine PO.op e7 (PO.callE (strT_ok r7) (PO.ldL (i := 7) B6 rfl ?_))
        have rdat : RdB h6 b8 (sfr x f u).data := RdB.ex x6 fr5.rd.data
        refine PO.callE (strT_ok rdat) ?_
        have heq : (!((bsOf ((x.b.drop b3.toNat).take (u.toNat - b3.toNat))).toList == (bsOf (sfr x f u).data).toList)) = false := by
          rw [bs_eq, hoff]; simp [sfr]
        rw [heq]
        refine PO.condF (PO.ldB (i := 6) B6 rfl (PO.cond (fun g => PO.letO (.retL ⟨h6, ?_, x6⟩)) (fun g => .retL ⟨h6, rfl, x6⟩)))
        have g : b7 = true := g
        rw [hfin, endsA J] at g
        have : (u != (x.b.length : Int)) = false := by have := of_decide_eq_true g; rw [this]; simp
        rw [this]
      rintro _ ⟨h6, rfl, x6⟩
      dsimp only
      refine PO.condF ?_
      have T6 := T5.kx x6
      have S6 := S5.kx x5.wf x6
      have B6 := B5.kx x6
      -- the fate
      refine PO.join (fun q => ∃ lost : Bool, q = ((fates, (rooms, (some ⟨p, 0, some 0⟩, (all, (some ⟨cb, 0, some 0⟩, (x.fc, ((i : Int), (some ⟨h4.size, 0, some 0⟩, (u, lost))))))))), h6) ∧ (lost = true → i < 60)) ?_ ?_
      · rw [r.len]
        refine PO.condD (fun hc => PO.condD (fun hc2 => ?_) (fun hc2 => .retL ⟨false, rfl, fun g => by cases g⟩)) (fun hc => .retL ⟨false, rfl, fun g => by cases g⟩)
        exact PO.ixI (RdI.ex T6.ex r) (by omega) (by omega) fun a ha => PO.op ha (.retL ⟨_, rfl, fun _ => by omega⟩)
      rintro _ ⟨lost, rfl, hlost⟩
      dsimp only
      have Rn : SRng (nextX x f u) := by
        have hl0 := I.ok.rng.l0; have hu0 := I.ok.rng.u0
        exact ⟨hl0, ⟨by show 0 ≤ max x.used u; omega, by show max x.used u ≤ 4611686018427387903; have := I.ok.ub; omega⟩, I.ok.rng.bl⟩
      have hdl : (dropS f u x.lost).length ≤ 10000 := by have := (drop_lenA J hp).1; omega
      refine PO.cond (fun hl => ?_) (fun hl => ?_)
      · refine ld9 B6 ?_
        refine PO.call (Lost_f x6.wf S6 Rn hdl (by show x.came.length ≤ _; omega) (pick_sm I hp) fa.rd.hd) ?_
        rintro _ h7 ⟨sl7, S7, u7⟩
        obtain ⟨I7, m1, m2, m3, m4, m5, m6, m7, m8, m9, m10, m11, m12, m13, m14, m15⟩ := I.losing hp rfl
        obtain ⟨g1, g2⟩ := fd_lose J hp rfl
        have T7 := (T6.upd u7 ⟨sb, sl7, sc, S7⟩).same m6 m3
        have J' := J.step I7 m5 m8 m9 m7 m6 g2 (fun _ => by rw [m2]; have := addS_len f u (dropS f u x.lost); have := (drop_lenA J hp).1; omega) (fun h60 => by have := hlost hl; omega)
        exact .retL ⟨h7, _, by rw [g1], T7, J'⟩
      · refine ld9 B6 ?_
        refine PO.call (Acked_f x6.wf S6 Rn hdl (by show x.came.length ≤ _; omega) (pick_sm I hp) fa.rd.hd) ?_
        rintro _ h7 ⟨sl7, sc7, S7, u7⟩
        obtain ⟨I7, m1, m2, m3, m4, m5, m6, m7, m8, m9, m10, m11, m12, m13⟩ := I.acked hp rfl
        obtain ⟨g1, g2, _, _⟩ := fd_ack J hp rfl
        have T7 := T6.upd u7 ⟨sb, sl7, sc7, S7⟩
        have hs56 : h4.size < h6.size := B6.blt
        have B7 := B6.up x6.wf u7 (by have := S4.box.blt; omega)
        have hcame : (ackS (nextX x f u) (sfr x f u)).came = addS f u x.came := by
          rw [ack_step I hp]
          simp only
          split <;> rfl
        have J' := J.step I7 m4 m7 m8 m6 m5 g2 (fun _ => by rw [m1]; have := (drop_lenA J hp).1; omega) (fun h60 => mu_ackA J (by rw [hroom h60]; omega) hp rfl)
        refine PO.ptr (PO.ldI (i := 2) B7 rfl ?_)
        dsimp only
        rw [hoff]
        refine PO.call (T7.add (by omega) f u) ?_
        rintro _ h8 ⟨T8, u8⟩
        have hcb : h4.size ≠ cb := by
          obtain ⟨s, Bc, _⟩ := T4.cm
          have := Bc.blt; omega
        have B8 := B7.up u7.wf u8 (fun e => hcb e)
        have T8' := T8.same m5 hcame
        generalize hyy : ackS (nextX x f u) (sfr x f u) = y at *
        refine PO.join (fun q => q = ((fates, (rooms, (some ⟨p, 0, some 0⟩, (all, (some ⟨cb, 0, some 0⟩, (y.fc, (i : Int))))))), h8)) ?_ ?_
        · refine PO.cond (fun gc => .retL ?_) (fun gc => PO.ptr (PO.ldB (i := 6) B8 rfl (.retL ?_)))
          · rw [g1, gc]; rfl
          · rw [g1, gc, ← hfin]; rfl
        rintro _ rfl
        dsimp only
        have hcy := came_len I7
        have hyl : ((all.len : Nat) : Int) = y.b.length := by rw [m5]; exact hall
        refine PO.join (fun q => ∃ h9, q = ((fates, (rooms, (some ⟨p, 0, some 0⟩, (all, (some ⟨cb, 0, some 0⟩, (y.fc, ((i : Int), false))))))), h9) ∧ EX h8 h9) ?_ ?_
        · obtain ⟨_, _, _, S8⟩ := T8'.str
          refine PO.call (Done_f T8'.ex.wf S8 (by omega)) ?_
          rintro q h9 ⟨e9, x9⟩
          have e9 : q = _ := e9
          subst e9
          refine PO.cond (fun gd => ?_) (fun gd => .retL ⟨h9, rfl, x9⟩)
          have hrs : y.reset = false := m8.trans J.rst
          have hdd : y.fc = true ∧ gapS 0 y.b.length y.came = [] := by
            unfold doneV at gd
            rw [hrs] at gd
            simp at gd
            exact ⟨gd.1.2, gd.2⟩
          refine PO.condN (fun gf => ?_) (fun _ => ?_)
          · rw [hdd.1] at gf; cases gf
          · rw [hyl]
            refine PO.call ((T8'.kx x9).all_f (by omega) (y.b.length : Int)) ?_
            rintro q h10 ⟨x10, e10⟩
            have e10 : q = _ := e10
            rw [hdd.2, decide_eq_true rfl] at e10
            subst e10
            exact .retL ⟨h10, rfl, x9.trans x10⟩
        rintro _ ⟨h9, rfl, x9⟩
        exact PO.condF (.retL ⟨h9, y, rfl, T8'.kx x9, J'⟩)
  · rintro _ ⟨h2, y, rfl, T2, J2⟩
    refine .retL ⟨_, ?_, i + 1, h2, y, ?_, rfl, by omega, T2, J2⟩
    · omega
    · rw [w64 (n := (i : Int) + 1) (by omega) (by omega)]; rfl
theorem SendAll (parts fates rooms : Sl) (h : H) (w : WF h) (xs : List Sl) (ls : List (List UInt8)) (hps : RdS h parts xs) (hpx : RdBs h xs ls) (hxn : xs.length * 24 ≤ 140737488351232) (zs : List Int) (hr : RdI .i64 h fates zs) (hz : zs.length * 8 ≤ 140737488351232) (hzr : ∀ n ∈ zs, -9223372036854775808 ≤ n ∧ n ≤ 9223372036854775807) (ws : List Int) (hr2 : RdI .i64 h rooms ws) (hw : ws.length * 8 ≤ 140737488351232) (hwr : ∀ n ∈ ws, -9223372036854775808 ≤ n ∧ n ≤ 9223372036854775807) :
    ∃ h', law13_SendAll parts fates rooms h = some (true, h') := by
  refine PO.law ?_
  unfold law13_SendAll P.law13_SendAll
  refine PO.call (SNew_f w 6) ?_
  rintro _ h1 ⟨rfl, S1, x1⟩
  refine PO.join (fun q => ∃ h2, q = ((parts, (fates, (rooms, (some ⟨h.size, 0, some 0⟩, false)))), h2) ∧ EX h1 h2) ?_ ?_
  · refine PO.call (known13_f x1.wf) ?_
    rintro _ h2 ⟨rfl, x2⟩
    exact PO.condF (PO.op (x := false) rfl (.retL ⟨h2, rfl, x2⟩))
  rintro _ ⟨h2, rfl, x2⟩
  dsimp only
  refine PO.condF ?_
  have S2 := S1.kx x1.wf x2
  refine PO.join (fun q => ∃ (hh : H) (all : Sl) (l : List UInt8), q = ((fates, (rooms, (some ⟨h.size, 0, some 0⟩, all))), hh) ∧ WA h hh h.size l all ∧ l.length ≤ 360) (all_l1 hps hpx (by omega) (p := h.size) 6 _ ⟨0, h2, ⟨none, 0, 0⟩, [], rfl, rfl, by omega, ⟨x1.trans x2, ⟨_, S2, buf_nil 1 h2, fun a ha => by simp at ha, fun a b ha => by simp at ha⟩, buf_nil 1 h2, fun a ha => by simp at ha⟩, by simp⟩) ?_
  rintro _ ⟨h3, all, l, rfl, T3, hl⟩
  dsimp only
  obtain ⟨sb, S3, _, _, _⟩ := T3.str
  have hpb := S3.box.blt
  refine PO.call (Finish_f T3.ex.wf S3 rfl rfl) ?_
  rintro _ h4 ⟨rfl, S4, u4⟩
  have x4 : EX h h4 := u4.ex0 T3.ex fun A hA e => by omega
  refine PO.condNE (fun g => absurd rfl g) fun _ => ?_
  have ra4 : RdB h4 all l := Rd.up T3.ra.rd u4 fun a ha e => by have := T3.fa a ha; have e : a.block = h.size := e; omega
  refine PO.newB x4.wf fun h5 x5 B5 z5 w5 => ?_
  have hs4 : h.size < h4.size := by have := u4.size; omega
  obtain ⟨x, hx⟩ : ∃ x : SS, x = { ss0 6 with b := l, finished := true, fd := true } := ⟨_, rfl⟩
  have S5 : StrA h.size h5 h.size x sb ⟨none, 0, 0⟩ ⟨none, 0, 0⟩ := by rw [hx]; exact S4.kx x4.wf x5
  have e1 : x.b = l ∧ x.came = [] ∧ x.fc = false ∧ x.lost = [] := by rw [hx]; exact ⟨rfl, rfl, rfl, rfl⟩
  have T5 : A2 h h5 h.size h4.size x all := ⟨x4.trans x5, ⟨_, _, _, S5⟩, by rw [e1.1]; exact RdB.ex x5 ra4, T3.fa, ⟨⟨none, 0, 0⟩, B5, by rw [e1.2.1]; exact rd_nil 2 h5, fun a ha => by simp at ha, fun a ha => by simp at ha⟩, hs4⟩
  have J : AJ x 0 := by
    rw [hx]
    refine ⟨⟨⟨⟨by simp [ss0], by simp [ss0], by show l.length ≤ 4000; omega⟩, trivial, by show (0 : Int) ≤ 0 ∧ (0 : Int) ≤ (l.length : Int); omega, by show (0 : Int) ≤ (l.length : Int); omega⟩, by show okN 6; unfold okN; omega, trivial, fun n a b => ?_, fun n a => absurd a (by simp [ss0, mem_nil]), by simp [ss0]⟩, rfl, rfl, rfl, rfl, hl, rfl, fun _ => by simp [ss0], fun g => by omega⟩
    have b : n < 0 := b
    omega
  refine PO.join (fun q => ∃ (hh : H) (x : SS), q = ((some ⟨h.size, 0, some 0⟩, (all, (some ⟨h4.size, 0, some 0⟩, x.fc))), hh) ∧ A2 h hh h.size h4.size x all ∧ GInv x ∧ doneV x = true ∧ x.reset = false) (all_l2 hr (by omega) hr2 (by omega) (p := h.size) (cb := h4.size) (all := all) 400 _ ⟨0, h5, x, by rw [e1.2.2.1]; rfl, rfl, by omega, T5, J⟩) ?_
  rintro _ ⟨h6, y, rfl, T6, I6, d6, r6⟩
  dsimp only
  obtain ⟨_, _, _, S6⟩ := T6.str
  have hcy := came_len I6
  refine PO.call (Done_f T6.ex.wf S6 (by omega)) ?_
  rintro q h7 ⟨e, x7⟩
  have e : q = _ := e
  rw [d6] at e
  subst e
  have hdd : y.fc = true ∧ gapS 0 y.b.length y.came = [] := by
    unfold doneV at d6
    rw [r6] at d6
    simp at d6
    exact ⟨d6.1.2, d6.2⟩
  rw [hdd.1]
  refine PO.condT (PO.condT ?_)
  have hal : ((all.len : Nat) : Int) = y.b.length := by have := RdB.len T6.ra; omega
  rw [hal]
  refine PO.call ((T6.kx x7).all_f (by omega) (y.b.length : Int)) ?_
  rintro q h8 ⟨x8, e8⟩
  have e8 : q = _ := e8
  rw [hdd.2, decide_eq_true rfl] at e8
  exact .ret e8
end Go.Proofs.Ytaebjajbogedkaa.T
