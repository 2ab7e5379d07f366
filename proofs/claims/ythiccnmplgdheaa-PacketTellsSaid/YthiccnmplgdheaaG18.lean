/- Lemmas about the typed texts (joined: SBend SBend2 SRead1). -/
import Derived.Test.YthiccnmplgdheaaG17
import Derived.Test.YthiccnmplgdheaaG5
set_option linter.unusedVariables false
set_option linter.unusedSimpArgs false
namespace Go.Proofs.Ythiccnmplgdheaa.T
open Go Go.Abs Go.Proofs
theorem Runs_f2 {h : H} (w : WF h) {s : Sl} {zs : List Int} (hr : RdI .i64 h s zs) (hl : zs.length <= 2 ^ 50) : PO (hand_Runs s h) (fun (a, h1) => (∃ l, BufR h1 a l /\ RSs l) /\ EX h h1 /\ Fr h.size a) := by
  unfold hand_Runs
  have hlen := hr.len
  refine PO.joinD (PO.mono (P := Sum.elim (fun a => (∃ l, BufR a.2 a.1 l /\ RSp none l /\ l.length <= 8) /\ EX h a.2 /\ Fr h.size a.1) (fun a => False)) ?_ ?_)
  · refine PO.loop (fun m st => ∃ (i : Nat) (out : Sl) (low : Int) (h' : H) (l : List Run), st = ((s, (out, (low, (i : Int)))), h') /\ m + i = zs.length /\ EX h h' /\ Fr h.size out /\ BufR h' out l /\ RSp none l /\ l.length <= 8 /\ 1099511627776 - 400 * (l.length : Int) <= low /\ low <= 1099511627776 /\ (∀ q, lst none l = some q -> q = low)) ?_ zs.length _ ⟨0, _, _, h, [], rfl, rfl, EX.refl w, fr_nil _, buf_nil 2 h, trivial, by simp, by simp, by simp, fun q hq => by simp [lst] at hq⟩
    rintro m st ⟨i, out, low, h', l, rfl, hm, hx, hf, hb, hp, h8, hlow, hlow2, hq⟩
    unfold P.hand_Runs_l1
    have hol := RdR.len hb.rd
    refine PO.join (fun st => ∃ c : Bool, st = ((s, (out, (low, ((i : Int), c)))), h') /\ (c = true -> (i : Int) < zs.length /\ l.length < 8)) ?_ ?_
    · refine .condD (fun c => .retL ⟨_, rfl, fun hc => ?_⟩) (fun c => .retL ⟨_, rfl, fun hc => by simp at hc⟩)
      have c' : (i : Int) < ((s.len : Nat) : Int) := c
      have hc' : (((out.len : Nat) : Int) < 8) := by simpa using hc
      exact ⟨by omega, by omega⟩
    · rintro _ ⟨c, rfl, hc⟩
      refine .cond (fun ct => ?_) (fun _ => .retR ⟨⟨l, hb, hp, h8⟩, hx, hf⟩)
      obtain ⟨hi, h8'⟩ := hc ct
      refine .ixI (hr.ex hx) (by omega) hi fun a e1 => .op e1 (.callE (pick_f _ 300 (by decide) (by decide) _) (.ixI (hr.ex hx) (by omega) hi fun a2 e2 => .op e2 (.callE (pick_f _ 40 (by decide) (by decide) _) (.letO ?_))))
      simp only [Int.toNat_natCast]
      have p1 := emod_b (zs.getD i 0) (m := 300) (by decide)
      have p2 := emod_b (IntKind.wrap .i64 (Int.tdiv (zs.getD i 0) 300)) (m := 40) (by decide)
      generalize zs.getD i 0 % 300 = u at *
      generalize IntKind.wrap .i64 (Int.tdiv (zs.getD i 0) 300) % 40 = v at *
      rw [w64 (n := low - 2) (by omega) (by omega), w64 (n := low - 2 - u) (by omega) (by omega), w64 (n := low - 2 - u - v) (by omega) (by omega)]
      refine .appR1 hb hx hf (by omega) fun out1 h2 b2 x2 f2 k2 => .retL ⟨m - 1, by omega, i + 1, out1, low - 2 - u - v, h2, l ++ [(low - 2 - u - v, low - 2 - u)], ?_, by omega, x2, f2, b2, RSp_snoc hp (by unfold okN; simp only; omega) (by unfold okN; simp only; omega) (by simp only; omega) (fun q e => ?_), by simp only [List.length_append, List.length_singleton]; omega, by simp only [List.length_append, List.length_singleton]; omega, by omega, fun q e => ?_⟩
      · rw [w64 (n := (i : Int) + 1) (by omega) (by omega)]; rfl
      · have := hq q e; simp only; omega
      · rw [lst_snoc] at e; cases e; rfl
  · rintro (⟨out, h1⟩ | _) hp
    · obtain ⟨⟨l, b1, hp, h8⟩, x1, f1⟩ := hp
      have b1' : BufR h1 out l := b1
      have x1' : EX h h1 := x1
      have f1' : Fr h.size out := f1
      have hol := RdR.len b1'.rd
      refine PO.joinD (.condE (fun c => PO.newB x1'.wf fun h2 x2 B2 z2 w2 => .retL (.ret ⟨⟨[(3, 3)], B2.buf (sz := 2) (n := 1) w2 rfl (by unfold B63; omega), by decide⟩, x1'.trans x2, ?_⟩)) (fun c => .retL (.ret ⟨⟨l, b1', hp, ?_, h8⟩, x1', f1'⟩)))
      · intro a ha
        simp only [Option.some.injEq] at ha
        subst ha
        exact x1'.size
      · have c' : ((out.len : Nat) : Int) ≠ 0 := c
        omega
    · exact hp.elim
theorem bufB_nil (h : H) : BufB h ⟨none, 0, 0⟩ [] := buf_nil 1 h
theorem bufR_nil (h : H) : BufR h ⟨none, 0, 0⟩ [] := buf_nil 2 h
def FOut2 (h0 : H) (b b1 b2 : Nat) (x : F9) (st : (Option Addr × Option Addr × Option Addr) × H) : Prop :=
  st.1 = (some ⟨b, 0, some 0⟩, some ⟨b1, 0, some 0⟩, some ⟨b2, 0, some 0⟩) /\ ∃ y v, TB h0 b b2 (f9L x) st.2 (f9L y) /\ FRd st.2 y v /\ FR v /\ Fr (b2 + 1) y.2.2.2.2.2.2.2.1 /\ Fr (b2 + 1) y.2.2.2.2.2.2.2.2 /\ BufB st.2 y.2.2.2.2.2.2.2.1 v.data /\ BufR st.2 y.2.2.2.2.2.2.2.2 v.spans
theorem fout2 {h0 h : H} {b b1 b2 : Nat} {x : F9} {k id off a b' : Int} {fin : Bool} {d s : Sl} {dl : List UInt8} {sl : List Run} (t : TB h0 b b2 (f9L x) h (f9L (k, id, off, a, b', 0, fin, d, s))) (hd : BufB h d dl) (hs : BufR h s sl) (hdf : Fr (b2 + 1) d) (hsf : Fr (b2 + 1) s) (hv : FR ⟨k, id, off, a, b', 0, fin, dl, sl⟩) :
    FOut2 h0 b b1 b2 x ((some ⟨b, 0, some 0⟩, some ⟨b1, 0, some 0⟩, some ⟨b2, 0, some 0⟩), h) := ⟨rfl, _, _, t, ⟨⟨rfl, rfl, rfl, rfl, rfl, rfl, rfl⟩, hd.rd, hs.rd⟩, hv, hdf, hsf, hd, hs⟩
theorem runsV_set : ∀ (l : List Run) (i : Nat) (z : Int), i < l.length * 2 -> ∃ l' : List Run, l'.length = l.length /\ runsV l' = (runsV l).set i (.int .i64 z)
  | [], i, z, h => absurd h (by simp)
  | r :: l, 0, z, h => ⟨(z, r.2) :: l, rfl, rfl⟩
  | r :: l, 1, z, h => ⟨(r.1, z) :: l, rfl, rfl⟩
  | r :: l, i + 2, z, h => by
    obtain ⟨l', h1, h2⟩ := runsV_set l i z (by simp at h; omega)
    exact ⟨r :: l', by simp [h1], by
      show (Value.int .i64 r.1) :: (.int .i64 r.2) :: runsV l' = _
      rw [h2]; rfl⟩
theorem fr_lens {v : FV} (h : FR v) : v.data.length <= 120 /\ v.spans.length <= 8 := by
  have h1 := h.1.2.2.2
  refine ⟨by omega, ?_⟩
  have hs := h.1.2.1.2.2.2.2.2.2.2
  by_cases h2 : v.kind = 2
  · have := h.2
    unfold FR1 at this
    rw [if_pos h2] at this
    exact this.2.2
  · have : v.spans = [] := by
      rw [hs]
      unfold bareV
      rw [if_neg h2]
      (repeat' split) <;> rfl
    rw [this]; simp
theorem fr_excl {v : FV} (h : FR v) (hs : v.spans ≠ []) : v.data = [] := by
  have hd := h.1.2.1.2.2.2.2.2.2.1
  have hp := h.1.2.1.2.2.2.2.2.2.2
  by_cases h2 : v.kind = 2
  · rw [hd]; unfold bareV; rw [if_pos h2]
  · refine absurd ?_ hs
    rw [hp]; unfold bareV; rw [if_neg h2]
    (repeat' split) <;> rfl
def BOut (h0 : H) (b1 b2 : Nat) (st : (Option Addr × Option Addr) × H) : Prop :=
  st.1 = (some ⟨b1, 0, some 0⟩, some ⟨b2, 0, some 0⟩) /\ ∃ y v, EX h0 st.2 /\ Box st.2 b2 (f9L y) /\ FRd st.2 y v /\ v.data.length <= 200 /\ v.spans.length <= 10 /\ Fr (b2 + 1) y.2.2.2.2.2.2.2.1 /\ Fr (b2 + 1) y.2.2.2.2.2.2.2.2
attribute [local irreducible] mayV in
theorem HFrameB_f {h : H} (w : WF h) {x : F9} {u : RV} (hx : WRd h x u) (h1 : u.data.length <= 2 ^ 47) (h2 : u.spans.length <= 2 ^ 50) : PO (hand_Frame x h) (fun (a, h1) => (∃ v, FRd h1 a v /\ v.data.length <= 200 /\ v.spans.length <= 10) /\ EX h h1) := by
  unfold hand_Frame
  obtain ⟨e1, e2, e3, e4, e5, e6, e7⟩ := hx.e
  refine PO.newB w fun g0 x0 B0 z0 w0 => PO.newB w0 fun g1 x1 B1 z1 w1 => .ldI (Box.kx x1 B0) rfl (.callE (pick_f _ 12 (by decide) (by decide) _) ?_)
  have hk := emod_b x.1 (m := 12) (by decide)
  show PO _ _
  generalize hkk : x.1 % 12 = k0 at *
  rw [w64 (n := 1 + k0) (by omega) (by omega)]
  refine PO.newB w1 fun g2 x2 B2 z2 w2 => PO.stZ B2 w2 rfl rfl fun g3 B3 u3 z3 w3 => ?_
  have y3 : EX g1 g3 := u3.ex0 x2 (fun A hA e => by omega)
  have C0 : Box g3 h.size (f9L x) := Box.kx y3 (Box.kx x1 B0)
  have t0 : TB g1 h.size g1.size (f9L x) g3 (f9L (1 + k0, 0, 0, 0, 0, 0, false, ⟨none, 0, 0⟩, ⟨none, 0, 0⟩)) := ⟨y3, Nat.le_refl _, by omega, C0, B3⟩
  have wx : ∀ {g : H}, EX g1 g -> WRd g x u := fun y => ((hx.ex x0).ex x1).ex y
  generalize hK : 1 + k0 = k at *
  clear B2 B3 u3 y3 C0 x2 w2 w3
  refine PO.join (FOut2 g1 h.size g0.size g1.size x) ?_ ?_
  · refine .ldI t0.box2 rfl ?_
    have t := t0
    repeat' (first
      | refine .condE (fun e => ?_) (fun e => ?_)
      | refine TB.ldI t rfl ?_
      | refine TB.ldB t rfl ?_
      | refine TB.ldL t rfl ?_
      | refine .ldI t.box2 rfl ?_
      | refine TB.st1 t (by simp) rfl (fun h' t => ?_)
      | refine .callE (May_f _ _) ?_
      | refine .callE (pick_f _ 1099511627776 (by decide) (by decide) _) ?_
      | refine .callE (pickB_f _ _ _) ?_
      )
    all_goals dsimp only at *
    all_goals (try (exfalso; omega))
    all_goals (try simp only [f9L, List.set_cons_succ, List.set_cons_zero] at t)
    all_goals (try refine PO.retL (fout2 t (bufB_nil _) (bufR_nil _) (fr_nil _) (fr_nil _) ?_))
    all_goals (try (simp [FR, FR0, FR1, sameV, bareV, mayV_ok, ok0, *]; done))
    · refine PO.call (Runs_f2 t.ex.wf ((wx t.ex).spans) h2) fun a g5 ⟨⟨l, rl, hl⟩, x5, f5⟩ => ?_
      refine TB.stu (t.kx x5) (by simp) rfl fun g6 t6 u6 => ?_
      simp only [f9L, List.set_cons_succ, List.set_cons_zero] at t6
      refine PO.retL (fout2 t6 (bufB_nil _) (Buf.up x5.wf rl u6 (fun p hp => ?_)) (fr_nil _) (f5.mono t.box2.blt) (by simp [FR, FR0, FR1, sameV, bareV, mayV_ok, ok0, *]))
      have := f5 p hp
      have := t.box2.blt
      omega
    · refine PO.call (Few_po t.ex.wf (wx t.ex).data h1 (by omega)) fun a g5 ⟨x5, b5, f5⟩ => ?_
      refine TB.stu (t.kx x5) (by simp) rfl fun g6 t6 u6 => ?_
      simp only [f9L, List.set_cons_succ, List.set_cons_zero] at t6
      have hof := emod_b x.2.2.1 (m := 1099511627776) (by decide)
      have hok : okN (x.2.2.1 % 1099511627776) := by unfold okN; omega
      refine PO.retL (fout2 t6 (Buf.up x5.wf b5 u6 (fun p hp => ?_)) (bufR_nil _) (f5.mono t.box2.blt) (fr_nil _) ?_)
      · have := f5 p hp
        have := t.box2.blt
        omega
      · have hlt : (u.data.take (120 : Int).toNat).length <= 120 := by simp; omega
        generalize u.data.take (120 : Int).toNat = dd at *
        generalize x.2.2.1 % 1099511627776 = oo at *
        simp [FR, FR0, FR1, sameV, bareV, mayV_ok, ok0, *]
        omega
    · have hm := mayV_ok x.2.2.1
      have hmb := emod_b x.2.2.2.2.1 (m := mayV x.2.2.1 + 1) (by unfold okN at hm; omega)
      have hok : okN (x.2.2.2.2.1 % (mayV x.2.2.1 + 1)) := by unfold okN at hm ⊢; omega
      have hle : x.2.2.2.2.1 % (mayV x.2.2.1 + 1) <= mayV x.2.2.1 := by omega
      generalize x.2.2.2.2.1 % (mayV x.2.2.1 + 1) = bb at *
      generalize hmm : mayV x.2.2.1 = mm at *
      simp [FR, FR0, FR1, sameV, bareV, mayV_ok, ok0, hm, hok, hle, e]
    · refine PO.letGrow t.ex.wf fun g4 x4 z4 w4 n4 => ?_
      have t4 := t.kx x4
      refine TB.ldL t4 rfl (PO.call (Few_po w4 (wx t4.ex).data h1 (by omega)) fun a g5 ⟨x5, b5, f5⟩ => ?_)
      have t5 := t4.kx x5
      refine TB.ldI t5 rfl ?_
      have hg3 := t.ex.wf.nro
      refine PO.addNew x5.wf (by decide) (EX.nn x5 (by omega) (n4 6 (by omega))) (by have := x5.size; omega) (by rw [x5.nro, x4.nro]; omega) fun g6 N6 B6 => .addNil ?_
      have y6 : EX g1 g6 := N6.ex0 t5.ex (by have := t.ex.size; omega)
      have y46 : EX g3 g6 := N6.ex0 (x4.trans x5) (by omega)
      have hbv : IntKind.wrap .u8 x.2.2.2.1 = ((UInt8.ofNat (x.2.2.2.1 % 256).toNat).toNat : Int) := by
        rw [wu8_mod, UInt8.toNat_ofNat']; omega
      have B6' : Box g6 (g3.size + 6) (vB [UInt8.ofNat (x.2.2.2.1 % 256).toNat]) := by
        have : ([.int .u8 (IntKind.wrap .u8 x.2.2.2.1)] : List Value) = vB [UInt8.ofNat (x.2.2.2.1 % 256).toNat] := by rw [hbv]; rfl
        rw [<- this]; exact B6
      have r6 : RdB g6 ⟨some ⟨g3.size + 6, 0, some 0⟩, 1, 1⟩ [UInt8.ofNat (x.2.2.2.1 % 256).toNat] := Box.rdB B6' N6.wf rfl (by unfold B63; omega)
      have b6 : BufB g6 a (u.data.take (119 : Int).toNat) := N6.buf x5.wf b5
      have hlt : (u.data.take (119 : Int).toNat).length <= 119 := by simp; omega
      obtain ⟨s7, g7, e7, k7, x7, b7, _, f7⟩ := appB_ok (e := 5) N6.wf b6 r6 (by simp only [List.length_singleton]; omega)
      have fa : Fr g3.size a := f5.mono (by omega)
      have y37 := x7 g3 y46 fa
      refine PO.callE e7 (.addOld (k7.som _ B6.ne) (.addNil ?_))
      have t7 := t.kx y37
      refine TB.stu t7 (by simp) rfl fun g8 t8 u8 => ?_
      refine .addOff (by decide) (.addNil ?_)
      refine TB.ldI t4 rfl ?_
      refine .chk (by simp) ?_
      refine .addOld ?_ (.addNil (PO.letTick t8.ex.wf fun g9 x9 z9 w9 => ?_))
      · rw [u8.same _ (Nat.lt_of_lt_of_le (B6.blt) k7.size) (fun hh => by have := t.box2.blt; omega)]
        exact k7.som _ B6.ne
      have t9 := t8.kx x9
      simp only [f9L, List.set_cons_succ, List.set_cons_zero] at t9
      refine PO.retL (fout2 t9 ((Buf.up k7.wf b7 u8 (fun p hp => ?_)).ex t8.ex.wf x9) (bufR_nil _) ((f7 g3.size y46.size fa).mono t.box2.blt) (fr_nil _) ?_)
      · have := f7 g3.size y46.size fa p hp
        have := t.box2.blt
        omega
      · have hl2 : (u.data.take (119 : Int).toNat ++ [UInt8.ofNat (x.2.2.2.1 % 256).toNat]).length <= 120 := by simp only [List.length_append, List.length_singleton]; omega
        have hl3 : 0 < (u.data.take (119 : Int).toNat ++ [UInt8.ofNat (x.2.2.2.1 % 256).toNat]).length := by simp
        generalize u.data.take (119 : Int).toNat ++ [UInt8.ofNat (x.2.2.2.1 % 256).toNat] = dd at *
        simp [FR, FR0, FR1, sameV, bareV, mayV_ok, ok0, *]
    · have hk1 : 1 <= k /\ k <= 12 := by omega
      simp [FR, FR0, FR1, sameV, bareV, mayV_ok, ok0, *]
  · rintro ⟨st, h5⟩ ⟨es, y, v, t5, f5, hv, fd, fs, bd, bs⟩
    have es' : st = (some ⟨h.size, 0, some 0⟩, some ⟨g0.size, 0, some 0⟩, some ⟨g1.size, 0, some 0⟩) := es
    subst es'
    have t : TB g1 h.size g1.size (f9L x) h5 (f9L y) := t5
    have F5 : FRd h5 y v := f5
    have D5 : BufB h5 y.2.2.2.2.2.2.2.1 v.data := bd
    have S5 : BufR h5 y.2.2.2.2.2.2.2.2 v.spans := bs
    have hln := fr_lens hv
    have hex := fr_excl hv
    clear t5 f5 bd bs hv
    refine .ptr ?_
    refine TB.ldI t rfl ?_
    obtain ⟨k9, id9, of9, a9, b9, n9, fi9, d9, s9⟩ := y
    obtain ⟨e1', e2', e3', e4', e5', e6', e7'⟩ := F5.e
    simp only at e1' e2' e3' e4' e5' e6' e7' D5 S5 fd fs
    have D5r : RdB h5 d9 v.data := D5.rd
    have S5r : RdR h5 s9 v.spans := S5.rd
    refine PO.join (BOut g1 g0.size g1.size) ?_ ?_
    · refine .ptr (TB.ldI t rfl (.callE (pick_f _ 20 (by decide) (by decide) _) ?_))
      have sc : ∀ {i : Nat} {vv : Value} (y' : F9) (v' : FV), i < 9 -> oneC vv = true -> (f9L (k9, id9, of9, a9, b9, n9, fi9, d9, s9)).set i vv = f9L y' -> y'.2.2.2.2.2.2.2.1 = d9 -> y'.2.2.2.2.2.2.2.2 = s9 -> v'.data = v.data -> v'.spans = v.spans -> (y'.1 = v'.kind /\ y'.2.1 = v'.id /\ y'.2.2.1 = v'.off /\ y'.2.2.2.1 = v'.a /\ y'.2.2.2.2.1 = v'.b /\ y'.2.2.2.2.2.1 = v'.note /\ y'.2.2.2.2.2.2.1 = v'.fin) ->
          PO (bindO (Abs.st1 h5 (add ⟨g1.size, 0, some 0⟩ i) vv) fun h8 => (some (Sum.inl ((some ⟨g0.size, 0, some 0⟩, some ⟨g1.size, 0, some 0⟩), h8)) : Option (((Option Addr × Option Addr) × H) ⊕ (F9 × H)))) (Sum.elim (BOut g1 g0.size g1.size) (fun (a, h1) => (∃ v, FRd h1 a v /\ v.data.length <= 200 /\ v.spans.length <= 10) /\ EX h h1)) := by
        intro i vv y' v' hi ho hy hd hs hvd hvs he
        refine TB.stu t hi ho fun h6 t6 u6 => .retL ⟨rfl, y', v', t6.ex, hy ▸ t6.box2, ⟨he, ?_, ?_⟩, by rw [hvd]; omega, by rw [hvs]; omega, by rw [hd]; exact fd, by rw [hs]; exact fs⟩
        · rw [hd, hvd]; exact Rd.up D5r u6 fun p hp => by have := fd p hp; omega
        · rw [hs, hvs]; exact Rd.up S5r u6 fun p hp => by have := fs p hp; omega
      generalize IntKind.wrap .i64 (Int.tdiv x.2.2.2.2.2.1 20) = kk
      refine .condE (fun _ => ?_) (fun _ => .condE (fun _ => ?_) (fun _ => .condE (fun _ => ?_) (fun _ => .condE (fun _ => ?_) (fun _ => .condE (fun _ => ?_) (fun _ => .condE (fun _ => ?_) (fun _ => .condE (fun _ => ?_) (fun _ => .condE (fun _ => ?_) (fun _ => .condE (fun _ => ?_) (fun _ => .condE (fun _ => ?_) (fun _ => ?_))))))))))
      · exact .callE (pick_f _ 15 (by decide) (by decide) _) (.ptr (sc (i := 0) (IntKind.wrap .i64 (kk % 15 - 1), id9, of9, a9, b9, n9, fi9, d9, s9) ⟨IntKind.wrap .i64 (kk % 15 - 1), v.id, v.off, v.a, v.b, v.note, v.fin, v.data, v.spans⟩ (by decide) rfl rfl rfl rfl rfl rfl ⟨rfl, e2', e3', e4', e5', e6', e7'⟩))
      · exact .callE (Num_f _ _) (.ptr (sc (i := 1) (k9, numV kk, of9, a9, b9, n9, fi9, d9, s9) ⟨v.kind, numV kk, v.off, v.a, v.b, v.note, v.fin, v.data, v.spans⟩ (by decide) rfl rfl rfl rfl rfl rfl ⟨e1', rfl, e3', e4', e5', e6', e7'⟩))
      · exact .callE (Num_f _ _) (.ptr (sc (i := 2) (k9, id9, numV kk, a9, b9, n9, fi9, d9, s9) ⟨v.kind, v.id, numV kk, v.a, v.b, v.note, v.fin, v.data, v.spans⟩ (by decide) rfl rfl rfl rfl rfl rfl ⟨e1', e2', rfl, e4', e5', e6', e7'⟩))
      · exact .callE (Num_f _ _) (.ptr (sc (i := 3) (k9, id9, of9, numV kk, b9, n9, fi9, d9, s9) ⟨v.kind, v.id, v.off, numV kk, v.b, v.note, v.fin, v.data, v.spans⟩ (by decide) rfl rfl rfl rfl rfl rfl ⟨e1', e2', e3', rfl, e5', e6', e7'⟩))
      · exact .callE (Num_f _ _) (.ptr (sc (i := 4) (k9, id9, of9, a9, numV kk, n9, fi9, d9, s9) ⟨v.kind, v.id, v.off, v.a, numV kk, v.note, v.fin, v.data, v.spans⟩ (by decide) rfl rfl rfl rfl rfl rfl ⟨e1', e2', e3', e4', rfl, e6', e7'⟩))
      · exact .ptr (PO.ldB (i := 6) t.box2 rfl (.ptr (sc (i := 6) (k9, id9, of9, a9, b9, n9, !fi9, d9, s9) ⟨v.kind, v.id, v.off, v.a, v.b, v.note, !fi9, v.data, v.spans⟩ (by decide) rfl rfl rfl rfl rfl rfl ⟨e1', e2', e3', e4', e5', e6', rfl⟩)))
      · refine PO.loop (fun m st => ∃ (h' : H) (s' : Sl) (dl : List UInt8), st = ((some ⟨g0.size, 0, some 0⟩, (some ⟨g1.size, 0, some 0⟩, kk)), h') /\ m + dl.length = 200 /\ EX g1 h' /\ Box h' g1.size (f9L (k9, id9, of9, a9, b9, n9, fi9, s', s9)) /\ BufB h' s' dl /\ Fr (g1.size + 1) s' /\ RdR h' s9 v.spans) ?_ (200 - v.data.length) _ ⟨h5, d9, v.data, rfl, by omega, t.ex, t.box2, D5, fd, S5r⟩
        rintro m st ⟨h', s', dl, rfl, hm, x', B', D', f', r'⟩
        unfold P.hand_Frame_l1
        have hl' := RdB.len D'.rd
        have hp := emod_b kk (m := 3) (by decide)
        refine .ptr (PO.ldL (i := 7) B' rfl (.callE (pick_f _ 3 (by decide) (by decide) _) (.chk (by simp) (PO.ldL (i := 7) B' rfl (.chk (slEq_self s') (.condD (fun hlt => .ptr (PO.ldL (i := 7) B' rfl ?_)) (fun hge => .retR ?_)))))))
        · dsimp only at hlt ⊢
          rw [w64 (n := 119 + kk % 3) (by omega) (by omega)] at hlt
          refine PO.newB x'.wf fun h6 x6 B6 z6 w6 => ?_
          have hbv : IntKind.wrap .u8 kk = ((UInt8.ofNat (kk % 256).toNat).toNat : Int) := by
            rw [wu8_mod, UInt8.toNat_ofNat']; omega
          have B6' : Box h6 h'.size (vB [UInt8.ofNat (kk % 256).toNat]) := by
            have : ([.int .u8 (IntKind.wrap .u8 kk)] : List Value) = vB [UInt8.ofNat (kk % 256).toNat] := by rw [hbv]; rfl
            rw [<- this]; exact B6
          have r6 : RdB h6 ⟨some ⟨h'.size, 0, some 0⟩, 1, 1⟩ [UInt8.ofNat (kk % 256).toNat] := Box.rdB B6' w6 rfl (by unfold B63; omega)
          have hb' := B'.blt
          obtain ⟨s7, h7, e7, k7, x7, b7, _, f7⟩ := appB_ok (e := 5) w6 (Buf.ex x'.wf x6 D') r6 (by simp only [List.length_singleton]; omega)
          have u7 := up_app e7 k7
          have B7 := Box.ku u7 (fun ⟨a, ha, e⟩ => by have := f' a ha; omega) (Box.kx x6 B')
          have y7 : EX g1 h7 := x7 g1 (x'.trans x6) (f'.mono (by omega))
          have f7' : Fr (g1.size + 1) s7 := f7 _ (by omega) f'
          refine PO.callE e7 (.ptr (PO.st1 (i := 7) B7 y7.wf (by simp [f9L]) rfl fun h8 B8 u8 z8 w8 => .retL ⟨m - 1, by omega, h8, s7, dl ++ [UInt8.ofNat (kk % 256).toNat], rfl, by simp only [List.length_append, List.length_singleton]; omega, u8.ex0 y7 (fun A hA e => by omega), B8, Buf.up k7.wf b7 u8 (fun p hp => by have := f7' p hp; omega), f7', Rd.up ((r'.ex x6).mono k7) u8 (fun p hp => by have := fs p hp; omega)⟩))
        · exact ⟨rfl, (k9, id9, of9, a9, b9, n9, fi9, s', s9), ⟨v.kind, v.id, v.off, v.a, v.b, v.note, v.fin, dl, v.spans⟩, x', B', ⟨⟨e1', e2', e3', e4', e5', e6', e7'⟩, D'.rd, r'⟩, by show dl.length <= 200; omega, by show v.spans.length <= 10; omega, f', fs⟩
      · have hsl := RdR.len S5r
        refine .ptr (PO.ldL (i := 8) t.box2 rfl (.condD (fun hpos => ?_) (fun _ => .retL ⟨rfl, _, v, t.ex, t.box2, F5, by omega, by omega, fd, fs⟩)))
        dsimp only at hpos
        refine .ptr (PO.ldL (i := 8) t.box2 rfl (.ptr (PO.ldL (i := 8) t.box2 rfl ?_)))
        dsimp only
        have q1 := emod_b kk (m := ((s9.len : Nat) : Int)) (by omega)
        refine .callE (pick_f _ _ (by omega) (by omega) _) (.callE (pick_f _ 2 (by decide) (by decide) _) ?_)
        have q2 := emod_b (IntKind.wrap .i64 (Int.tdiv kk 8)) (m := 2) (by decide)
        generalize kk % ((s9.len : Nat) : Int) = j at *
        generalize IntKind.wrap .i64 (Int.tdiv kk 8) % 2 = q at *
        refine .ixR S5r (by omega) (by omega) fun a b hba hab _ l0 l1 => .ixA (by omega) (by omega) ?_
        obtain ⟨z, hz⟩ : ∃ z, Abs.ldI .i64 h5 (add a (q.toNat * 1)) = some z := by
          rcases (show q = 0 \/ q = 1 by omega) with rfl | rfl
          · exact ⟨_, l0⟩
          · exact ⟨_, l1⟩
        refine .op hz (.callE (pick_f _ 7 (by decide) (by decide) _) (.ixR S5r (by omega) (by omega) fun a' b' hba' hab' _ _ _ => .ixA (by omega) (by omega) ?_))
        generalize IntKind.wrap .i64 (z + _) = zz
        have hbb : b' = b := by rw [hba] at hba'; exact (Option.some.inj hba').symm
        subst hbb
        rw [hab', add_add]
        have hrl := runsV_length v.spans
        obtain ⟨h6, e6, o6, u6, z6⟩ := (Buf.own S5).stC t.ex.wf hba (j.toNat * 2 + q.toNat * 1) [.int .i64 zz] (by simp only [List.length_singleton]; omega) rfl
        obtain ⟨l', hl', e'⟩ := runsV_set v.spans (j.toNat * 2 + q.toNat * 1) zz (by omega)
        rw [List.length_singleton, take_set_drop _ _ _ (by omega), <- e'] at o6
        have hfb := fs b' hba
        refine .op e6 (.op hz (.chk (by simp) (PO.ldL (i := 8) t.box2 rfl (.chk (slEq_self s9) (PO.ldL (i := 8) t.box2 rfl (.chk (slEq_self s9) (PO.ldL (i := 8) t.box2 rfl (.chk (slEq_self s9) (.retL ?_)))))))))
        have y6 : EX g1 h6 := u6.ex0 t.ex (fun A hA e => by omega)
        have hd0 : v.data = [] := hex (fun e => by rw [e] at hsl; simp at hsl; omega)
        exact ⟨rfl, (k9, id9, of9, a9, b9, n9, fi9, d9, s9), ⟨v.kind, v.id, v.off, v.a, v.b, v.note, v.fin, v.data, l'⟩, y6, Box.ku u6 (fun e => by omega) t.box2, ⟨⟨e1', e2', e3', e4', e5', e6', e7'⟩, ⟨Rd.len D5r, Rd.nil D5r, fun a ha i w hi => by rw [hd0] at hi; simp [vB] at hi, Rd.cap D5r⟩, o6.rd⟩, by show v.data.length <= 200; omega, by show l'.length <= 10; omega, fd, fs⟩
      · refine .ptr (PO.letGrow t.ex.wf fun g4 x4 z4 w4 n4 => ?_)
        have B4 := Box.kx x4 t.box2
        refine PO.ldL (i := 8) B4 rfl (.callE (pick_f _ 2 (by decide) (by decide) _) ?_)
        have hn5 := t.ex.wf.nro
        have hl5 := RdR.len S5r
        dsimp only
        refine PO.addNew (vs := [.int .i64 0, .int .i64 (kk % 2)]) w4 (by decide) (n4 5 (by omega)) (by omega) (by rw [x4.nro]; omega) fun g5 N5 B5 => .addNil ?_
        have r5 : RdR g5 ⟨some ⟨h5.size + 5, 0, some 0⟩, 1, 1⟩ [(0, kk % 2)] := Box.r1 (r := (0, kk % 2)) B5 N5.wf
        have b5 : BufR g5 s9 v.spans := N5.buf w4 (Buf.ex t.ex.wf x4 S5)
        obtain ⟨s7, g7, e7, k7, x7, b7, _, f7⟩ := appT_ok (e := 36) (bytes := 16) (by omega) (by unfold B63; omega) N5.wf b5 r5 (runsV_oneC _) (by simp only; omega) (by simp only; omega)
        have hs1 := t.ex.size
        have hs5 := N5.size
        have hb2 := t.box2.blt
        have y5 : EX g1 g5 := N5.ex0 (t.ex.trans x4) (by omega)
        have y7 : EX g1 g7 := x7 g1 y5 (fs.mono (by omega))
        have B7 := Box.ku (up_app e7 k7) (fun ⟨a, ha, e⟩ => by have := fs a ha; omega) (NW.kb N5 B4)
        have f7' : Fr (g1.size + 1) s7 := f7 _ (by omega) fs
        have hs7 := k7.size
        refine .callE e7 (.ptr (.addOld (k7.som _ B5.ne) (.addNil (PO.st1 (i := 8) B7 y7.wf (by simp [f9L]) rfl fun g8 B8 u8 z8 w8 => ?_))))
        refine .addOff (by decide) (.addNil (PO.ldL (i := 8) B4 rfl (.chk (slEq_self s9) (.addOld ?_ (.addNil (PO.letTick w8 fun g9 x9 z9 w9 => .retL ?_))))))
        · rw [u8.same _ (by omega) (fun hh => by omega)]
          exact k7.som _ B5.ne
        · have bq : BufR g7 s7 (v.spans ++ [(0, kk % 2)]) := by unfold BufR; rw [runsV_app]; exact b7
          refine ⟨rfl, (k9, id9, of9, a9, b9, n9, fi9, d9, s7), ⟨v.kind, v.id, v.off, v.a, v.b, v.note, v.fin, v.data, v.spans ++ [(0, kk % 2)]⟩, (u8.ex0 y7 (fun A hA e => by omega)).trans x9, Box.kx x9 B8, ⟨⟨e1', e2', e3', e4', e5', e6', e7'⟩, ?_, ?_⟩, by show v.data.length <= 200; omega, by show (v.spans ++ [(0, kk % 2)]).length <= 10; simp; omega, fd, f7'⟩
          · exact Rd.ex x9 (Rd.up (Rd.mono (NW.kr N5 (Rd.kx x4 D5r)) k7) u8 fun p hp => by have := fd p hp; omega)
          · exact Rd.ex x9 (Rd.up bq.rd u8 fun p hp => by have := f7' p hp; omega)
      · exact .ptr (sc (i := 5) (k9, id9, of9, a9, b9, kk, fi9, d9, s9) ⟨v.kind, v.id, v.off, v.a, v.b, kk, v.fin, v.data, v.spans⟩ (by decide) rfl rfl rfl rfl rfl rfl ⟨e1', e2', e3', e4', e5', rfl, e7'⟩)
      · exact .retL ⟨rfl, _, v, t.ex, t.box2, F5, by omega, by omega, fd, fs⟩
    · rintro ⟨st, h6⟩ ⟨es, y, v, x6, B6, F6, ld, ls, fd, fs⟩
      have es' : st = (some ⟨g0.size, 0, some 0⟩, some ⟨g1.size, 0, some 0⟩) := es
      subst es'
      have x6' : EX g1 h6 := x6
      have F6' : FRd h6 y v := F6
      refine .ptr (PO.ldF B6 (.ptr ?_))
      have C1 : Box h6 g0.size (f9L f90) := Box.kx x6' B1
      refine PO.stZ C1 x6'.wf rfl rfl fun h7 B7 u7 z7 w7 => .ptr (PO.ldF B7 (.ret ⟨⟨v, ⟨F6'.e, Rd.up F6'.data u7 (fun p hp => ?_), Rd.up F6'.spans u7 (fun p hp => ?_)⟩, ld, ls⟩, ?_⟩))
      · have := fd p hp; omega
      · have := fs p hp; omega
      · exact u7.ex0 ((x0.trans x1).trans x6') (fun A hA e => by have := x0.size; omega)
theorem HFrames_f {h : H} (w : WF h) {s : Sl} {xs : List F9} {us : List RV} (r : RdW h s xs us) (hn : us.length <= 2 ^ 50) (hz : WzOK us) {N : Nat} (hN : N <= 100) :
    PO (hand_Frames s (N : Int) h) (fun (a, h1) => (∃ ys vs, RdF h1 a ys vs /\ Buf 9 h1 a (fsV ys) /\ (∀ v ∈ vs, v.data.length <= 200 /\ v.spans.length <= 10) /\ vs.length = min us.length N) /\ EX h h1 /\ Fr h.size a) := by
  unfold hand_Frames
  have hlen := RdW.len r
  refine PO.joinD (PO.mono (P := Sum.elim (fun a => (∃ ys vs, FRs a.2 ys vs /\ Buf 9 a.2 a.1 (fsV ys) /\ (∀ v ∈ vs, v.data.length <= 200 /\ v.spans.length <= 10) /\ vs.length = min us.length N) /\ EX h a.2 /\ Fr h.size a.1) (fun a => False)) ?_ ?_)
  · refine PO.loop (fun m st => ∃ (i : Nat) (out : Sl) (h' : H) (ys : List F9) (vs : List FV), st = ((s, ((N : Int), (out, (i : Int)))), h') /\ m + i = N /\ EX h h' /\ Fr h.size out /\ Buf 9 h' out (fsV ys) /\ FRs h' ys vs /\ (∀ v ∈ vs, v.data.length <= 200 /\ v.spans.length <= 10) /\ vs.length = i /\ i <= us.length) ?_ N _ ⟨0, _, h, [], [], rfl, rfl, EX.refl w, fr_nil _, buf_nil 9 h, trivial, by simp, rfl, by omega⟩
    rintro m st ⟨i, out, h', ys, vs, rfl, hm, hx, hf, hb, hfr, hv, hvl, hiu⟩
    unfold P.hand_Frames_l1
    refine PO.join (fun st => ∃ c : Bool, st = ((s, ((N : Int), (out, ((i : Int), c)))), h') /\ (c = true ↔ (i < us.length /\ i < N))) ?_ ?_
    · refine .condD (fun c => .retL ⟨_, rfl, ?_⟩) (fun c => .retL ⟨_, rfl, ?_⟩)
      · have c' : (i : Int) < ((s.len : Nat) : Int) := c
        simp; omega
      · have c' : ¬ (i : Int) < ((s.len : Nat) : Int) := c
        simp; omega
    · rintro _ ⟨c, rfl, hc⟩
      refine .cond (fun ct => ?_) (fun cf => .retR ⟨⟨ys, vs, hfr, hb, hv, ?_⟩, hx, hf⟩)
      · obtain ⟨hi, hiN⟩ := hc.1 ct
        refine PO.ixW (r.ex hx) (by omega) (by omega) fun a _ _ _ e1 wr => .op e1 ?_
        simp only [Int.toNat_natCast] at wr ⊢
        have hzz := hz _ (getD_mem us rv0 hi)
        generalize us.getD i rv0 = u at *
        generalize xs.getD i f90 = x at *
        have wr3 := wr
        refine PO.call (HFrameB_f hx.wf wr3 hzz.1 hzz.2) fun y h4 ⟨⟨v, fv, hvv⟩, y4⟩ => ?_
        have hyl := hfr.len
        refine PO.appF (x := y) (hx.trans y4) (hb.ex hx.wf y4) hf (by omega) fun out1 h5 b5 x5 f5 k5 => .retL ⟨m - 1, by omega, i + 1, out1, h5, ys ++ [y], vs ++ [v], ?_, by omega, x5, f5, b5, ?_, ?_, by simp [hvl], by omega⟩
        · rw [w64 (n := (i : Int) + 1) (by omega) (by omega)]; rfl
        · exact FRs.app ((hfr.ex y4).kp k5) ⟨fv.kp k5, trivial⟩
        · intro q hq
          rcases List.mem_append.1 hq with hq | hq
          · exact hv q hq
          · simp at hq; subst hq; exact hvv
      · have : ¬ (i < us.length /\ i < N) := fun hh => by rw [hc.2 hh] at cf; simp at cf
        omega
  · rintro (⟨out, h1⟩ | _) hp
    · obtain ⟨⟨ys, vs, hfr, hb, hv, hl⟩, x1, f1⟩ := hp
      exact .ret ⟨⟨ys, vs, ⟨hb.rd, hfr⟩, hb, hv, hl⟩, x1, f1⟩
    · exact hp.elim
theorem tk_ok (l : List UInt8) : okN (tk l).1 := by
  cases l with
  | nil => exact ok0
  | cons b t =>
    simp only [tk]
    split
    · exact ok0
    · rename_i hlt
      have hb := b.toNat_lt
      obtain ⟨_, h1, h2⟩ := tsz_shl b
      have hlen : (t.take (tsz b - 1)).length <= 7 := by simp; omega
      have := val_lt (t.take (tsz b - 1)) (b.toNat % 64) 64 (by omega)
      have h3 : (256 : Nat) ^ (t.take (tsz b - 1)).length <= 256 ^ 7 := Nat.pow_le_pow_right (by omega) hlen
      have h4 : 64 * (256 : Nat) ^ 7 = 4611686018427387904 := by decide
      unfold okN
      simp only
      omega
abbrev RSt := Int ⊕ List UInt8
abbrev RP (α : Type) := List UInt8 -> Int ⊕ (α × List UInt8)
def RdrS (h : H) (b : Nat) (l : List UInt8) (e : Int) : Prop := ∃ s, Box h b [encSl s, .int .i64 e] /\ RdB h s l
def RdrA (h : H) (b : Nat) : RSt -> Prop
  | .inl e => e ≠ 0 /\ ∃ l, l.length <= 2 ^ 47 /\ RdrS h b l e
  | .inr l => l.length <= 2 ^ 47 /\ RdrS h b l 0
def stp {α : Type} (st : RSt) (p : RP α) : Int ⊕ (α × List UInt8) := match st with
  | .inl e => .inl e
  | .inr l => p l
def stO {α : Type} : Int ⊕ (α × List UInt8) -> RSt
  | .inl e => .inl e
  | .inr (_, l) => .inr l
def isV {α : Type} (r : Int ⊕ (α × List UInt8)) (a : α) : Prop := ∀ x l, r = .inr (x, l) -> x = a
def pT (n : Nat) : RP (List Int) := fun l => match tks n l with
  | some (ns, r) => .inr (ns, r)
  | none => .inl 3
theorem noU8_rdr (s : Sl) (e : Int) : ∀ v ∈ ([encSl s, .int .i64 e] : List Value), ∀ n, v ≠ .int .u8 n := by
  intro v hv n
  simp only [List.mem_cons, List.not_mem_nil, or_false] at hv
  rcases hv with rfl | rfl
  · simp [encSl]
  · simp
theorem RdrS.up {h h' : H} {b t : Nat} {l : List UInt8} {e : Int} {L : List Value} (w : WF h) (r : RdrS h b l e) (T : Box h t L) (hn : ∀ v ∈ L, ∀ n, v ≠ .int .u8 n) (ne : ¬ b = t) (u : UP (· = t) h h') : RdrS h' b l e := by
  obtain ⟨s, B, rd⟩ := r
  exact ⟨s, Box.ku u ne B, RdB.kbox w T u hn rd⟩
theorem RdrA.up {h h' : H} {b t : Nat} {st : RSt} {L : List Value} (w : WF h) (r : RdrA h b st) (T : Box h t L) (hn : ∀ v ∈ L, ∀ n, v ≠ .int .u8 n) (ne : ¬ b = t) (u : UP (· = t) h h') : RdrA h' b st := by
  cases st with
  | inl e => obtain ⟨h1, l, h2, h3⟩ := r; exact ⟨h1, l, h2, h3.up w T hn ne u⟩
  | inr l => exact ⟨r.1, r.2.up w T hn ne u⟩
theorem RdrS.ex {h h' : H} {b : Nat} {l : List UInt8} {e : Int} (x : EX h h') (r : RdrS h b l e) : RdrS h' b l e := by
  obtain ⟨s, B, rd⟩ := r
  exact ⟨s, Box.kx x B, rd.ex x⟩
theorem RdrA.ex {h h' : H} {b : Nat} {st : RSt} (x : EX h h') (r : RdrA h b st) : RdrA h' b st := by
  cases st with
  | inl e => obtain ⟨h1, l, h2, h3⟩ := r; exact ⟨h1, l, h2, h3.ex x⟩
  | inr l => exact ⟨r.1, r.2.ex x⟩
def failS (e : Int) : RSt -> RSt
  | .inl e' => .inl e'
  | .inr _ => .inl e
theorem failB_f {h : H} {b : Nat} {s : Sl} {e0 : Int} (w : WF h) (B : Box h b [encSl s, .int .i64 e0]) (e : Int) : PO (frame_reader_fail (some ⟨b, 0, some 0⟩) e h) (fun (_, h1) => Box h1 b [encSl s, .int .i64 (if e0 = 0 then e else e0)] /\ UP (· = b) h h1) := by
  unfold frame_reader_fail
  refine .ptr (.ldI B rfl (.condE (fun c => .ptr (PO.st1 B w (by simp) rfl fun h1 B1 u1 z1 w1 => .ret ⟨?_, u1⟩)) (fun c => .ret ⟨?_, UP.refl w⟩)))
  · have c' : e0 = 0 := c
    rw [if_pos c']; exact B1
  · have c' : ¬ e0 = 0 := c
    rw [if_neg c']; exact B
theorem fail_f {h : H} {b : Nat} {st : RSt} (w : WF h) (r : RdrA h b st) {e : Int} (he : e ≠ 0) : PO (frame_reader_fail (some ⟨b, 0, some 0⟩) e h) (fun (_, h1) => RdrA h1 b (failS e st) /\ UP (· = b) h h1) := by
  have key : ∀ (s : Sl) (l : List UInt8) (e0 : Int), l.length <= 2 ^ 47 -> Box h b [encSl s, .int .i64 e0] -> RdB h s l -> PO (frame_reader_fail (some ⟨b, 0, some 0⟩) e h) (fun (_, h1) => RdrA h1 b (.inl (if e0 = 0 then e else e0)) /\ UP (· = b) h h1) := by
    intro s l e0 hl B rd
    refine PO.mono (failB_f w B e) fun (_, h1) ⟨B1, u⟩ => ⟨⟨by split <;> assumption, l, hl, s, B1, RdB.kbox w B u (noU8_rdr s e0) rd⟩, u⟩
  cases st with
  | inl e0 =>
    obtain ⟨h1, l, h2, s, B, rd⟩ := r
    have := key s l e0 h2 B rd
    rw [if_neg h1] at this
    exact this
  | inr l =>
    obtain ⟨h2, s, B, rd⟩ := r
    have := key s l 0 h2 B rd
    rw [if_pos rfl] at this
    exact this
def setAll : List Value -> List Nat -> List Int -> List Value
  | L, k :: ks, n :: ns => setAll (L.set k (.int .i64 n)) ks ns
  | L, _, _ => L
def IntAt (L : List Value) (k : Nat) : Prop := ∃ n, L[k]? = some (.int .i64 n) /\ okN n
theorem IntAt.set {L : List Value} {k j : Nat} {n : Int} (h : IntAt L j) (hn : okN n) (hk : k < L.length) : IntAt (L.set k (.int .i64 n)) j := by
  obtain ⟨m, h1, h2⟩ := h
  by_cases e : k = j
  · subst e; exact ⟨n, by rw [List.getElem?_set_self hk], hn⟩
  · exact ⟨m, by rw [List.getElem?_set_ne e]; exact h1, h2⟩
theorem setAll_self : ∀ (ks : List Nat) (L : List Value), (∀ k ∈ ks, IntAt L k) -> ∃ ns, ns.length = ks.length /\ (∀ n ∈ ns, okN n) /\ setAll L ks ns = L
  | [], L, _ => ⟨[], rfl, by simp, rfl⟩
  | k :: ks, L, h => by
    obtain ⟨n, h1, h2⟩ := h k (by simp)
    obtain ⟨ns, h3, h4, h5⟩ := setAll_self ks L fun j hj => h j (by simp [hj])
    have hset : L.set k (.int .i64 n) = L := by
      obtain ⟨hk, he⟩ := List.getElem?_eq_some_iff.1 h1
      rw [<- he, List.set_getElem_self]
    exact ⟨n :: ns, by simp [h3], by simp only [List.mem_cons, forall_eq_or_imp]; exact ⟨h2, h4⟩, by simp only [setAll]; rw [hset]; exact h5⟩
def noU8 (L : List Value) : Prop := ∀ v ∈ L, ∀ n, v ≠ .int .u8 n
theorem noU8.set {L : List Value} (h : noU8 L) (k : Nat) (n : Int) : noU8 (L.set k (.int .i64 n)) := by
  intro v hv m
  rcases List.mem_or_eq_of_mem_set hv with hv | rfl
  · exact h v hv m
  · simp
theorem PO.ixP {α : Type} {Q : α -> Prop} {h : H} {p n : Nat} {ps : List (Option Addr)} {i : Int} {g : Addr -> Option α} (P : Box h p (ps.map .pointer)) (w : WF h) (hn : ps.length = n) (hb : n < B63) (h0 : 0 <= i) (h1 : i < n) (k : ∀ a, Abs.ldP h a = some (ps.getD i.toNat none) -> PO (g a) Q) : PO (bindO (ixT 1 ⟨some ⟨p, 0, some 0⟩, n, n⟩ i) g) Q := by
  have r : Rd 1 h ⟨some ⟨p, 0, some 0⟩, n, n⟩ (ps.map .pointer) := P.rd w (by simp; exact hn) (capOk_self _ _ hb)
  obtain ⟨a, ha, e⟩ := ixT_ok r h0 h1
  have hlt : i.toNat < ps.length := by omega
  refine .op e (k _ (ldP_of ?_))
  have := (r.ld a ha (i.toNat * 1) (.pointer (ps.getD i.toNat none)) (by
    rw [Nat.mul_one, List.getElem?_map, List.getD_eq_getElem?_getD, List.getElem?_eq_getElem hlt]; rfl)).2
  exact this
theorem PO.loop1 {σ α : Type} {Q : α -> Prop} {step : σ -> Option (σ ⊕ α)} {s : σ} (k : PO (step s) (Sum.elim (fun s' => PO (loopO step s') Q) Q)) : PO (loopO step s) Q := by
  obtain ⟨b, e, hb⟩ := k
  cases b with
  | inl s' =>
    obtain ⟨r, e2, h2⟩ := hb
    exact ⟨r, by rw [loopO_eq, e]; exact e2, h2⟩
  | inr r => exact ⟨r, by rw [loopO_eq, e], hb⟩
theorem pT_succ (m : Nat) (l : List UInt8) : pT (m + 1) l = if (tk l).2.2 = 0 then (match pT m (tk l).2.1 with
  | .inl e => .inl e
  | .inr (ns, r) => .inr ((tk l).1 :: ns, r)) else .inl 3 := by
  unfold pT
  simp only [tks]
  split
  · rename_i h
    split at h
    · rename_i h0
      simp only [Option.map_eq_some_iff] at h
      obtain ⟨p, h1, h2⟩ := h
      rw [if_pos h0, h1]
      simp only [Prod.mk.injEq] at h2
      rw [<- h2.1, <- h2.2]
    · simp at h
  · rename_i h
    split at h
    · rename_i h0
      rw [Option.map_eq_none_iff] at h
      rw [if_pos h0, h]
    · rename_i h0
      rw [if_neg h0]
theorem take_f {b t p n : Nat} (hbt : ¬ b = t) (hpb : ¬ p = b) (hpt : ¬ p = t) (ks0 : List Nat) (hn : ks0.length = n) (hn9 : n <= 9) : ∀ (m i : Nat) (h : H) (L : List Value) (st : RSt), m + i = n -> WF h -> RdrA h b st -> Box h t L -> noU8 L -> (∀ k ∈ ks0, IntAt L k) ->
    Box h p ((ks0.map fun k => some (⟨t, 0 + k, some 0⟩ : Addr)).map .pointer) ->
    PO (loopO frame_reader_take_l1 ((some ⟨b, 0, some 0⟩, ((⟨some ⟨p, 0, some 0⟩, n, n⟩ : Sl), ((n : Int), (i : Int)))), h)) (fun (_, h1) => ∃ ns, ns.length = m /\ (∀ x ∈ ns, okN x) /\ Box h1 t (setAll L (ks0.drop i) ns) /\ RdrA h1 b (stO (stp st (pT m))) /\ isV (stp st (pT m)) ns /\ UP (fun A => A = b \/ A = t) h h1)
  | 0, i, h, L, st, hm, w, R, T, hL, hI, Pb => by
    refine PO.loop1 ?_
    unfold frame_reader_take_l1 P.frame_reader_take_l1
    have : i = ks0.length := by omega
    subst this
    refine .condD (fun c => ?_) (fun c => .retR ⟨[], rfl, by simp, by rw [List.drop_length]; exact T, ?_, ?_, UP.refl w⟩)
    · have c' : (ks0.length : Int) < (n : Int) := c
      omega
    · cases st with
      | inl e => exact R
      | inr l => exact R
    · intro x l e
      cases st with
      | inl e' => simp [stp] at e
      | inr l' => simp [stp, pT, tks] at e; exact e.1
  | m + 1, i, h, L, st, hm, w, R, T, hL, hI, Pb => by
    refine PO.loop1 ?_
    unfold frame_reader_take_l1 P.frame_reader_take_l1
    have hik : i < ks0.length := by omega
    have hd : ks0.drop i = ks0.getD i 0 :: ks0.drop (i + 1) := by
      rw [List.drop_eq_getElem_cons hik]; simp [List.getD, hik]
    have hkm := getD_mem ks0 0 hik
    refine .condD (fun _ => ?_) (fun c => ?_)
    · refine PO.ixP Pb w (by simp; exact hn) (by unfold B63; omega) (by omega) (by omega) fun a ea => .op ea ?_
      have eg : (ks0.map fun k => some (⟨t, 0 + k, some 0⟩ : Addr)).getD (i : Int).toNat none = some ⟨t, 0 + ks0.getD i 0, some 0⟩ := by
        rw [Int.toNat_natCast, List.getD_eq_getElem?_getD, List.getElem?_map, List.getD_eq_getElem?_getD, List.getElem?_eq_getElem hik]; rfl
      rw [eg]
      generalize ks0.getD i 0 = k at *
      obtain ⟨n0, hk0, hk1⟩ := hI k hkm
      have hkl : k < L.length := (List.getElem?_eq_some_iff.1 hk0).1
      cases st with
      | inl e =>
        obtain ⟨he, l, hl, s, B, rd⟩ := R
        obtain ⟨ns, g1, g2, g3⟩ := setAll_self (k :: ks0.drop (i + 1)) L (fun j hj => hI j (by rw [<- hd] at hj; exact List.mem_of_mem_drop hj))
        refine .ptr (.ldI B rfl (.condNE (fun _ => .retR ⟨ns, ?_, g2, ?_, ⟨he, l, hl, s, B, rd⟩, fun x l e => by simp [stp] at e, UP.refl w⟩) (fun hc => absurd hc he)))
        · rw [g1, <- hd]; simp; omega
        · rw [hd, g3]; exact T
      | inr l =>
        obtain ⟨hl, s, B, rd⟩ := R
        refine .ptr (.ldI B rfl (.condNE (fun hc => absurd rfl hc) (fun _ => .ptr (.ldL B rfl ?_))))
        obtain ⟨r', h1, e1, x1, rd1⟩ := Take_f w rd hl
        have B1 := Box.kx x1 B
        have T1 := Box.kx x1 T
        have P1 := Box.kx x1 Pb
        refine .callE e1 (PO.call (failB_f x1.wf B1 _) fun _ h2 ⟨B2, u2⟩ => ?_)
        have T2 := Box.ku u2 (fun e => hbt e.symm) T1
        have P2 := Box.ku u2 hpb P1
        have rd2 := RdB.kbox x1.wf B1 u2 (noU8_rdr _ _) rd1
        have hsz : h.size <= h2.size := Nat.le_trans x1.size u2.size
        refine .ptr (PO.st1 (i := k) (b := t) T2 u2.wf hkl rfl fun h3 T3 u3 z3 w3 => .ptr ?_)
        have B3 := Box.ku u3 hbt B2
        have P3 := Box.ku u3 hpt P2
        have rd3 := RdB.kbox u2.wf T2 u3 hL rd2
        refine PO.st1 B3 w3 (by simp) rfl fun h4 B4 u4 z4 w4 => .retL ?_
        have T4 := Box.ku u4 (fun e => hbt e.symm) T3
        have P4 := Box.ku u4 hpb P3
        have rd4 := RdB.kbox w3 B3 u4 (noU8_rdr _ _) rd3
        have B4' : Box h4 b [encSl r', .int .i64 (if (0 : Int) = 0 then (tk l).2.2 else 0)] := B4
        rw [if_pos rfl] at B4'
        have hr4 := tk_rest l
        have R4 : RdrA h4 b (if (tk l).2.2 = 0 then .inr (tk l).2.1 else .inl (tk l).2.2) := by
          split
          · rename_i h0
            rw [h0] at B4'
            exact ⟨by omega, r', B4', rd4⟩
          · rename_i h0
            exact ⟨h0, _, by omega, r', B4', rd4⟩
        have hwi : IntKind.wrap .i64 ((i : Int) + 1) = ((i + 1 : Nat) : Int) := by rw [w64 (by omega) (by omega)]; rfl
        show PO (loopO frame_reader_take_l1 (((some ⟨b, 0, some 0⟩ : Option Addr), ((⟨some ⟨p, 0, some 0⟩, n, n⟩ : Sl), ((n : Int), IntKind.wrap .i64 ((i : Int) + 1)))), h4)) _
        rw [hwi]
        have ih := take_f hbt hpb hpt ks0 hn hn9 m (i + 1) h4 (L.set k (.int .i64 (tk l).1)) _ (by omega) w4 R4 T4 (hL.set k _) (fun j hj => (hI j hj).set (tk_ok l) hkl) P4
        have U4 : UP (fun A => A = b \/ A = t) h h4 := ((x1.trans_up (u2.mono (T := fun A => A = b \/ A = t) fun A _ e => .inl e)).trans u3 (fun A _ e => .inr e)).trans u4 (fun A _ e => .inl e)
        refine PO.mono ih fun (_, h5) ⟨ns, g1, g2, g3, g4, g5, g6⟩ => ⟨(tk l).1 :: ns, by simp [g1], ?_, ?_, ?_, ?_, U4.trans g6 (fun A _ e => e)⟩
        · simp only [List.mem_cons, forall_eq_or_imp]; exact ⟨tk_ok l, g2⟩
        · rw [hd]; exact g3
        · rw [show stp (.inr l) (pT (m + 1)) = pT (m + 1) l from rfl, pT_succ]
          rcases tk_err l with h0 | h0
          · rw [h0, if_pos rfl] at g4 ⊢
            rw [show stp (.inr (tk l).2.1) (pT m) = pT m (tk l).2.1 from rfl] at g4
            cases hp : pT m (tk l).2.1 with
            | inl e => rw [hp] at g4; exact g4
            | inr q => rw [hp] at g4; exact g4
          · rw [h0, if_neg (by decide)] at g4 ⊢
            exact g4
        · intro x r e
          rw [show stp (.inr l) (pT (m + 1)) = pT (m + 1) l from rfl, pT_succ] at e
          rcases tk_err l with h0 | h0
          · rw [h0, if_pos rfl] at e g5
            rw [show stp (.inr (tk l).2.1) (pT m) = pT m (tk l).2.1 from rfl] at g5
            cases hp : pT m (tk l).2.1 with
            | inl e' => rw [hp] at e; simp at e
            | inr q =>
              rw [hp] at e g5
              simp only [Sum.inr.injEq, Prod.mk.injEq] at e
              have := g5 q.1 q.2 rfl
              rw [<- e.1, this]
          · rw [h0, if_neg (by decide)] at e
            simp at e
    · have c' : ¬ (i : Int) < (n : Int) := c
      omega
/-- one number, taken into a place of a row -/
theorem PO.take1 {α : Type} {Q : α -> Prop} {h : H} {b t k : Nat} {L : List Value} {st : RSt} {g : Unit -> H -> Option α} (w : WF h) (R : RdrA h b st) (T : Box h t L) (hL : noU8 L) (hI : IntAt L k) (hbt : ¬ b = t) (hb : b < h.size)
    (p : ∀ n h1, okN n -> Box h1 t (L.set k (.int .i64 n)) -> RdrA h1 b (stO (stp st (pT 1))) -> isV (stp st (pT 1)) [n] -> UP (fun A => A = b \/ A = t) h h1 -> PO (g () h1) Q) :
    PO (newO (row 171 [.pointer (some ⟨t, 0 + k, some 0⟩)]) h fun q h2 => bind2 (frame_reader_take (some ⟨b, 0, some 0⟩) ⟨some ⟨q, 0, some 0⟩, 1, 1⟩ h2) g) Q := by
  refine PO.newB w fun h2 x2 B2 z2 w2 => ?_
  have hT := T.blt
  refine PO.call (take_f (n := 1) hbt (by omega) (by omega) [k] rfl (by omega) 1 0 h2 L st rfl w2 (R.ex x2) (Box.kx x2 T) hL (fun j hj => by simp at hj; subst hj; exact hI) B2) fun _ h1 ⟨ns, g1, g2, g3, g4, g5, g6⟩ => ?_
  obtain ⟨n, rfl⟩ : ∃ n, ns = [n] := by
    match ns, g1 with
    | [n], _ => exact ⟨n, rfl⟩
  exact p n h1 (g2 n (by simp)) g3 g4 g5 (x2.trans_up g6)
theorem RdrA.blt {h : H} {b : Nat} {st : RSt} (R : RdrA h b st) : b < h.size := by
  cases st with
  | inl e => obtain ⟨_, _, _, _, B, _⟩ := R; exact B.blt
  | inr l => obtain ⟨_, _, B, _⟩ := R; exact B.blt
def pFlag : RP Bool := fun l => match pT 1 l with
  | .inl e => .inl e
  | .inr (ns, r) => if ns.getD 0 0 > 1 then .inl 2 else .inr (decide (ns.getD 0 0 = 1), r)
theorem noU8_1 (n : Int) : noU8 [.int .i64 n] := by
  intro v hv m; simp at hv; subst hv; simp
theorem rflag_f {h : H} {b : Nat} {st : RSt} (w : WF h) (R : RdrA h b st) : PO (frame_reader_flag (some ⟨b, 0, some 0⟩) h) (fun (a, h1) => RdrA h1 b (stO (stp st pFlag)) /\ isV (stp st pFlag) a /\ UP (· = b) h h1) := by
  unfold frame_reader_flag
  have hb := R.blt
  refine PO.newB w fun h1 x1 B1 z1 w1 => PO.st10 B1 w1 (by simp) rfl fun h2 B2 u2 z2 w2 => ?_
  have y2 : EX h h2 := u2.ex0 x1 (fun A hA e => by omega)
  have B2' : Box h2 h.size [.int .i64 0] := B2
  refine PO.take1 (k := 0) w2 (R.ex y2) B2' (noU8_1 0) ⟨0, rfl, ok0⟩ (by omega) (by omega) fun n h3 hn T3 R3 V3 u3 => ?_
  have T3' : Box h3 h.size [.int .i64 n] := T3
  have U3 : UP (· = b) h h3 := y2.trans_up u3 |>.mono (fun A hA e => by rcases e with e | e; exact e; omega)
  have fin : ∀ h4, RdrA h4 b (stO (stp st pFlag)) -> Box h4 h.size [.int .i64 n] -> UP (· = b) h h4 -> PO (some (n == 1, h4)) (fun (a, h1) => RdrA h1 b (stO (stp st pFlag)) /\ isV (stp st pFlag) a /\ UP (· = b) h h1) := by
    intro h4 R4 T4 U4
    refine .ret ⟨R4, ?_, U4⟩
    intro x r e
    cases st with
    | inl e' => simp [stp] at e
    | inr l =>
      simp only [stp, pFlag] at e
      cases hp : pT 1 l with
      | inl e' => rw [hp] at e; simp at e
      | inr q =>
        rw [hp] at e
        have hv := V3 q.1 q.2 (by show pT 1 l = _; rw [hp])
        simp only [hv] at e
        split at e
        · simp at e
        · simp only [Sum.inr.injEq, Prod.mk.injEq] at e
          rw [<- e.1]
          exact Bool.eq_iff_iff.2 (by simp)
  have rel : stO (stp st pFlag) = (if n > 1 then failS 2 (stO (stp st (pT 1))) else stO (stp st (pT 1))) := by
    cases st with
    | inl e' => simp [stp, stO, failS]
    | inr l =>
      simp only [stp, pFlag]
      cases hp : pT 1 l with
      | inl e' => simp [stO, failS]
      | inr q =>
        have hv := V3 q.1 q.2 (by show pT 1 l = _; rw [hp])
        simp only [hv]
        show stO (if n > 1 then _ else _) = _
        split <;> rfl
  refine PO.joinD (.ldI0 T3' rfl (.condD (fun c => ?_) (fun c => .retL (.ptr (.ldI0 T3' rfl (fin h3 (by rw [rel, if_neg c]; exact R3) T3' U3))))))
  refine PO.call (fail_f U3.wf R3 (by decide)) fun _ h4 ⟨R4, u4⟩ => .retL ?_
  have T4 := Box.ku u4 (show ¬ h.size = b by omega) T3'
  exact .ptr (.ldI0 T4 rfl (fin h4 (by rw [rel, if_pos c]; exact R4) T4 (U3.trans u4 (fun A _ e => e))))
def pData : RP (List UInt8) := fun l => match pT 1 l with
  | .inl e => .inl e
  | .inr (ns, r) => if ns.getD 0 0 > 120 then .inl 2 else if ns.getD 0 0 > (r.length : Int) then .inl 3 else .inr (r.take (ns.getD 0 0).toNat, r.drop (ns.getD 0 0).toNat)
def dataK : Int ⊕ (List Int × List UInt8) -> Int ⊕ (List UInt8 × List UInt8)
  | .inl e => .inl e
  | .inr (ns, r) => if ns.getD 0 0 > 120 then .inl 2 else if ns.getD 0 0 > (r.length : Int) then .inl 3 else .inr (r.take (ns.getD 0 0).toNat, r.drop (ns.getD 0 0).toNat)
theorem stp_pData (st : RSt) : stp st pData = dataK (stp st (pT 1)) := by
  cases st with
  | inl e => rfl
  | inr l =>
    show pData l = dataK (pT 1 l)
    unfold pData
    cases pT 1 l <;> rfl
theorem rdata_f {h : H} {b : Nat} {st : RSt} (w : WF h) (R : RdrA h b st) : PO (frame_reader_data (some ⟨b, 0, some 0⟩) h) (fun (a, h1) => (∃ d, RdB h1 a d /\ d.length <= 120 /\ isV (stp st pData) d) /\ RdrA h1 b (stO (stp st pData)) /\ UP (· = b) h h1 /\ Fr h.size a) := by
  unfold frame_reader_data
  have hb := R.blt
  refine PO.newB w fun h1 x1 B1 z1 w1 => PO.st10 B1 w1 (by simp) rfl fun h2 B2 u2 z2 w2 => ?_
  have y2 : EX h h2 := u2.ex0 x1 (fun A hA e => by omega)
  have B2' : Box h2 h.size [.int .i64 0] := B2
  refine PO.take1 (k := 0) w2 (R.ex y2) B2' (noU8_1 0) ⟨0, rfl, ok0⟩ (by omega) (by omega) fun n h3 hn T3 R3 V3 u3 => ?_
  have T3' : Box h3 h.size [.int .i64 n] := T3
  have U3 : UP (· = b) h h3 := y2.trans_up u3 |>.mono (fun A hA e => by rcases e with e | e; exact e; omega)
  rw [stp_pData]
  cases hq : stp st (pT 1) with
  | inl e =>
    rw [hq] at R3
    obtain ⟨he, l, hl, s, B, rd⟩ := R3
    exact .ptr (.ldI B rfl (.condNE (fun _ => .ret ⟨⟨[], rdB_nil _, by simp, fun x l e => by simp [dataK] at e⟩, ⟨he, l, hl, s, B, rd⟩, U3, fr_nil _⟩) (fun hc => absurd hc he)))
  | inr q =>
    obtain ⟨ns, r⟩ := q
    have hv := V3 ns r hq
    subst hv
    rw [hq] at R3
    have R3' : RdrA h3 b (.inr r) := R3
    obtain ⟨hl, s, B, rd⟩ := R3
    refine .ptr (.ldI B rfl (.condNE (fun hc => absurd rfl hc) (fun _ => .ldI0 T3' rfl (.condD (fun c => ?_) (fun c => ?_)))))
    · have c' : n > 120 := c
      refine PO.call (fail_f U3.wf R3' (by decide)) fun _ h4 ⟨R4, u4⟩ => .ret ⟨⟨[], rdB_nil _, by simp, fun x l e => ?_⟩, ?_, U3.trans u4 (fun A _ e => e), fr_nil _⟩
      · simp [dataK, c'] at e
      · simpa [dataK, c', stO, failS] using R4
    have c' : ¬ n > 120 := c
    have hsl := RdB.len rd
    refine .ldI0 T3' rfl (.ptr (.ldL B rfl (.condD (fun c2 => ?_) (fun c2 => ?_))))
    · have c2' : n > (r.length : Int) := by rw [<- hsl]; exact c2
      refine PO.call (fail_f U3.wf R3' (by decide)) fun _ h4 ⟨R4, u4⟩ => .ret ⟨⟨[], rdB_nil _, by simp, fun x l e => ?_⟩, ?_, U3.trans u4 (fun A _ e => e), fr_nil _⟩
      · simp [dataK, c', c2'] at e
      · simpa [dataK, c', c2', stO, failS] using R4
    have c2' : ¬ n > (r.length : Int) := by rw [<- hsl]; exact c2
    have hn0 : 0 <= n := hn.1
    refine .ptr (.ldL B rfl (.ldI0 T3' rfl ?_))
    obtain ⟨s6, e6, r6⟩ := slB_hi rd hn0 (by omega)
    have hl6 : (r.take n.toNat).length <= 120 := by simp; omega
    obtain ⟨s7, h6, e7, x7, b7, f7, _⟩ := clone_f U3.wf r6 (by omega)
    obtain ⟨s8, e8, r8, f8⟩ := clipB_f b7.rd (by omega)
    have B7 := Box.kx x7 B
    have T7 := Box.kx x7 T3'
    obtain ⟨s9, e9, r9⟩ := slB_lo (rd.ex x7) hn0 (by omega)
    refine .op e6 (.callE e7 (.callE e8 (.ptr (.ldL B7 rfl (.ldI0 T7 rfl (.op e9 (.ptr ?_)))))))
    refine PO.st1 B7 x7.wf (by simp) rfl fun h8 B8 u8 z8 w8 => .ret ⟨⟨_, RdB.kbox x7.wf B7 u8 (noU8_rdr _ _) r8, hl6, ?_⟩, ?_, ?_, ?_⟩
    · intro x l e
      simp [dataK, c', c2'] at e
      exact e.1.symm
    · have hB : Box h8 b [encSl s9, .int .i64 0] := B8
      have : stO (dataK (.inr ([n], r))) = .inr (r.drop n.toNat) := by simp [dataK, c', c2', stO]
      rw [this]
      exact ⟨by simp; omega, s9, hB, RdB.kbox x7.wf B7 u8 (noU8_rdr _ _) r9⟩
    · exact (U3.ex x7).trans u8 (fun A _ e => e)
    · exact fun a ha => Nat.le_trans U3.size ((f8 _ f7) a ha)
end Go.Proofs.Ythiccnmplgdheaa.T
