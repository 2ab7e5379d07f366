/- Lemmas about the typed texts (joined: SRaw1 SRaw2 SApp). -/
import Derived.Test.YthiccnmplgdheaaG16
import Derived.Test.YthiccnmplgdheaaG3
set_option linter.unusedVariables false
set_option linter.unusedSimpArgs false
namespace Go.Proofs.Ythiccnmplgdheaa.T
open Go Go.Abs Go.Proofs
def lst : Option Int -> List Run -> Option Int
  | p, [] => p
  | _, r :: l => lst (some r.1) l
theorem lst_snoc : ∀ (l : List Run) (p : Option Int) (r : Run), lst p (l ++ [r]) = some r.1
  | [], _, _ => rfl
  | q :: l, p, r => lst_snoc l (some q.1) r
theorem RSp_snoc : ∀ {l : List Run} {p : Option Int} {r : Run}, RSp p l -> okN r.1 -> okN r.2 -> r.1 <= r.2 -> (∀ q, lst p l = some q -> 2 <= q - r.2) -> RSp p (l ++ [r])
  | [], p, r, _, h1, h2, h3, h4 => ⟨⟨h1, h2⟩, h3, h4, trivial⟩
  | q :: l, p, r, h, h1, h2, h3, h4 => ⟨h.1, h.2.1, h.2.2.1, RSp_snoc h.2.2.2 h1 h2 h3 h4⟩
theorem Runs_f {h : H} (w : WF h) {s : Sl} {zs : List Int} (hr : RdI .i64 h s zs) (hl : zs.length <= 2 ^ 50) : PO (hand_Runs s h) (fun (a, h1) => (∃ l, RdR h1 a l /\ RSs l) /\ EX h h1 /\ Fr h.size a) := by
  unfold hand_Runs
  have hlen := hr.len
  refine PO.joinD (PO.mono (P := Sum.elim (fun a => (∃ l, BufR a.2 a.1 l /\ RSp none l /\ l.length <= 8) /\ EX h a.2 /\ Fr h.size a.1) (fun a => False)) ?_ ?_)
  · refine PO.loop (fun m st => ∃ (i : Nat) (out : Sl) (low : Int) (h' : H) (l : List Run), st = ((s, (out, (low, (i : Int)))), h') /\ m + i = zs.length /\ EX h h' /\ Fr h.size out /\ BufR h' out l /\ RSp none l /\ l.length <= 8 /\ 1099511627776 - 400 * (l.length : Int) <= low /\ low <= 1099511627776 /\ (∀ q, lst none l = some q -> q = low)) ?_ zs.length _ ⟨0, _, _, h, [], rfl, rfl, EX.refl w, fr_nil _, buf_nil 2 h, trivial, by simp, by simp, by simp, fun q hq => by simp [lst] at hq⟩
    rintro m st ⟨i, out, low, h', l, rfl, hm, hx, hf, hb, hp, h8, hlow, hlow2, hq⟩
    unfold P.hand_Runs_l1
    have hol := RdR.len hb.rd
    refine PO.join (fun st => ∃ c : Bool, st = ((s, (out, (low, ((i : Int), c)))), h') /\ (c = true -> (i : Int) < zs.length /\ l.length < 8)) ?_ ?_
    · refine .condD (fun c => .retL ⟨_, rfl, fun hc => ?_⟩) (fun c => .retL ⟨_, rfl, fun hc => by simp at hc⟩)
      have c' : (i : Int) < ((s.len : Nat) : Int) := c
      have hc' : (((out.len : Nat) : Int) < 8) := by simpa using hc
      exact ⟨by omega, by omega⟩
    · rintro _ ⟨c, rfl, hc⟩
      refine .cond (fun ct => ?_) (fun _ => .retR ⟨⟨l, hb, hp, h8⟩, hx, hf⟩)
      obtain ⟨hi, h8'⟩ := hc ct
      refine .ixI (hr.ex hx) (by omega) hi fun a e1 => .op e1 (.callE (pick_f _ 300 (by decide) (by decide) _) (.ixI (hr.ex hx) (by omega) hi fun a2 e2 => .op e2 (.callE (pick_f _ 40 (by decide) (by decide) _) (.letO ?_))))
      simp only [Int.toNat_natCast]
      have p1 := emod_b (zs.getD i 0) (m := 300) (by decide)
      have p2 := emod_b (IntKind.wrap .i64 (Int.tdiv (zs.getD i 0) 300)) (m := 40) (by decide)
      generalize zs.getD i 0 % 300 = u at *
      generalize IntKind.wrap .i64 (Int.tdiv (zs.getD i 0) 300) % 40 = v at *
      rw [w64 (n := low - 2) (by omega) (by omega), w64 (n := low - 2 - u) (by omega) (by omega), w64 (n := low - 2 - u - v) (by omega) (by omega)]
      refine .appR1 hb hx hf (by omega) fun out1 h2 b2 x2 f2 k2 => .retL ⟨m - 1, by omega, i + 1, out1, low - 2 - u - v, h2, l ++ [(low - 2 - u - v, low - 2 - u)], ?_, by omega, x2, f2, b2, RSp_snoc hp (by unfold okN; simp only; omega) (by unfold okN; simp only; omega) (by simp only; omega) (fun q e => ?_), by simp only [List.length_append, List.length_singleton]; omega, by simp only [List.length_append, List.length_singleton]; omega, by omega, fun q e => ?_⟩
      · rw [w64 (n := (i : Int) + 1) (by omega) (by omega)]; rfl
      · have := hq q e; simp only; omega
      · rw [lst_snoc] at e; cases e; rfl
  · rintro (⟨out, h1⟩ | _) hp
    · obtain ⟨⟨l, b1, hp, h8⟩, x1, f1⟩ := hp
      have b1' : BufR h1 out l := b1
      have x1' : EX h h1 := x1
      have f1' : Fr h.size out := f1
      have hol := RdR.len b1'.rd
      refine PO.joinD (.condE (fun c => PO.newB x1'.wf fun h2 x2 B2 z2 w2 => .retL (.ret ⟨⟨[(3, 3)], B2.r1 w2, by decide⟩, x1'.trans x2, ?_⟩)) (fun c => .retL (.ret ⟨⟨l, b1'.rd, hp, ?_, h8⟩, x1', f1'⟩)))
      · intro a ha
        simp only [Option.some.injEq] at ha
        subst ha
        exact x1'.size
      · have c' : ((out.len : Nat) : Int) ≠ 0 := c
        omega
    · exact hp.elim
structure RV where
  kind : Int
  id : Int
  off : Int
  a : Int
  b : Int
  bend : Int
  fin : Bool
  data : List UInt8
  spans : List Int
structure WRd (h : H) (x : F9) (v : RV) : Prop where
  e : x.1 = v.kind /\ x.2.1 = v.id /\ x.2.2.1 = v.off /\ x.2.2.2.1 = v.a /\ x.2.2.2.2.1 = v.b /\ x.2.2.2.2.2.1 = v.bend /\ x.2.2.2.2.2.2.1 = v.fin
  data : RdB h x.2.2.2.2.2.2.2.1 v.data
  spans : RdI .i64 h x.2.2.2.2.2.2.2.2 v.spans
theorem WRd.ex {h h' : H} {x : F9} {v : RV} (y : EX h h') (r : WRd h x v) : WRd h' x v := ⟨r.e, r.data.ex y, Rd.ex y r.spans⟩
def FOut (h0 : H) (b b1 b2 : Nat) (x : F9) (st : (Option Addr × Option Addr × Option Addr) × H) : Prop :=
  st.1 = (some ⟨b, 0, some 0⟩, some ⟨b1, 0, some 0⟩, some ⟨b2, 0, some 0⟩) /\ ∃ y v, TB h0 b b2 (f9L x) st.2 (f9L y) /\ FRd st.2 y v /\ FR v /\ Fr h0.size y.2.2.2.2.2.2.2.1 /\ Fr h0.size y.2.2.2.2.2.2.2.2
theorem fout {h0 h : H} {b b1 b2 : Nat} {x : F9} {k id off a b' : Int} {fin : Bool} {d s : Sl} {dl : List UInt8} {sl : List Run} (t : TB h0 b b2 (f9L x) h (f9L (k, id, off, a, b', 0, fin, d, s))) (hd : RdB h d dl) (hs : RdR h s sl) (hdf : Fr h0.size d) (hsf : Fr h0.size s) (hv : FR ⟨k, id, off, a, b', 0, fin, dl, sl⟩) :
    FOut h0 b b1 b2 x ((some ⟨b, 0, some 0⟩, some ⟨b1, 0, some 0⟩, some ⟨b2, 0, some 0⟩), h) := ⟨rfl, _, _, t, ⟨⟨rfl, rfl, rfl, rfl, rfl, rfl, rfl⟩, hd, hs⟩, hv, hdf, hsf⟩
theorem pickB_f (a n : Int) (h : H) : hand_Pick a (IntKind.wrap .i64 (mayV n + 1)) h = some (a % (mayV n + 1), h) := by
  have := mayV_ok n
  unfold okN at this
  rw [w64 (by omega) (by omega)]
  exact pick_f _ _ (by omega) (by omega) _
theorem Few_po {h : H} {b : Sl} {l : List UInt8} (w : WF h) (hr : RdB h b l) (hl : l.length <= 2 ^ 47) {n : Int} (hn : 0 <= n) : PO (hand_Few b n h) (fun (a, h1) => EX h h1 /\ BufB h1 a (l.take n.toNat) /\ Fr h.size a) := by
  obtain ⟨s', h', e, x, b, f⟩ := Few_f w hr hl hn
  exact ⟨_, e, x, b, f⟩
theorem TB.kx {h0 h h' : H} {b b2 : Nat} {L L2 : List Value} (t : TB h0 b b2 L h L2) (x : EX h h') : TB h0 b b2 L h' L2 := ⟨t.ex.trans x, t.hb, t.ne, Box.kx x t.box, Box.kx x t.box2⟩
theorem TB.stu {α : Type} {Q : α -> Prop} {h0 h : H} {b b2 i : Nat} {L L2 : List Value} {v : Value} {f : H -> Option α} (t : TB h0 b b2 L h L2) (hi : i < L2.length) (ho : oneC v = true) (p : ∀ h', TB h0 b b2 L h' (L2.set i v) -> UP (· = b2) h h' -> PO (f h') Q) : PO (bindO (Abs.st1 h (add ⟨b2, 0, some 0⟩ i) v) f) Q :=
  PO.st1 t.box2 t.ex.wf hi ho fun h' B u z w => p h' ⟨u.ex0 t.ex (fun A hA e => by have := t.hb; omega), t.hb, t.ne, Box.ku u t.ne t.box, B⟩ u
theorem ok0 : okN 0 := by unfold okN; omega
attribute [local irreducible] mayV in
theorem HFrame_f {h : H} (w : WF h) {x : F9} {u : RV} (hx : WRd h x u) (hb : u.bend = 0) (h1 : u.data.length <= 2 ^ 47) (h2 : u.spans.length <= 2 ^ 50) : PO (hand_Frame x h) (fun (a, h1) => (∃ v, FRd h1 a v /\ FR v) /\ EX h h1) := by
  unfold hand_Frame
  obtain ⟨e1, e2, e3, e4, e5, e6, e7⟩ := hx.e
  have e6' : x.2.2.2.2.2.1 = 0 := e6.trans hb
  refine PO.newB w fun g0 x0 B0 z0 w0 => PO.newB w0 fun g1 x1 B1 z1 w1 => .ldI (Box.kx x1 B0) rfl (.callE (pick_f _ 12 (by decide) (by decide) _) ?_)
  have hk := emod_b x.1 (m := 12) (by decide)
  show PO _ _
  generalize hkk : x.1 % 12 = k0 at *
  rw [w64 (n := 1 + k0) (by omega) (by omega)]
  refine PO.newB w1 fun g2 x2 B2 z2 w2 => PO.stZ B2 w2 rfl rfl fun g3 B3 u3 z3 w3 => ?_
  have y3 : EX g1 g3 := u3.ex0 x2 (fun A hA e => by omega)
  have C0 : Box g3 h.size (f9L x) := Box.kx y3 (Box.kx x1 B0)
  have t0 : TB g1 h.size g1.size (f9L x) g3 (f9L (1 + k0, 0, 0, 0, 0, 0, false, ⟨none, 0, 0⟩, ⟨none, 0, 0⟩)) := ⟨y3, Nat.le_refl _, by omega, C0, B3⟩
  have wx : ∀ {g : H}, EX g1 g -> WRd g x u := fun y => ((hx.ex x0).ex x1).ex y
  generalize hK : 1 + k0 = k at *
  clear B2 B3 u3 y3 C0 x2 w2 w3
  refine PO.join (FOut g1 h.size g0.size g1.size x) ?_ ?_
  · refine .ldI t0.box2 rfl ?_
    have t := t0
    repeat' (first
      | refine .condE (fun e => ?_) (fun e => ?_)
      | refine TB.ldI t rfl ?_
      | refine TB.ldB t rfl ?_
      | refine TB.ldL t rfl ?_
      | refine .ldI t.box2 rfl ?_
      | refine TB.st1 t (by simp) rfl (fun h' t => ?_)
      | refine .callE (May_f _ _) ?_
      | refine .callE (pick_f _ 1099511627776 (by decide) (by decide) _) ?_
      | refine .callE (pickB_f _ _ _) ?_
      )
    all_goals dsimp only at *
    all_goals (try (exfalso; omega))
    all_goals (try simp only [f9L, List.set_cons_succ, List.set_cons_zero] at t)
    all_goals (try refine PO.retL (fout t (rdB_nil _) (rdR_nil _) (fr_nil _) (fr_nil _) ?_))
    all_goals (try (simp [FR, FR0, FR1, sameV, bareV, mayV_ok, ok0, *]; done))
    · refine PO.call (Runs_f t.ex.wf ((wx t.ex).spans) h2) fun a g5 ⟨⟨l, rl, hl⟩, x5, f5⟩ => ?_
      refine TB.stu (t.kx x5) (by simp) rfl fun g6 t6 u6 => ?_
      simp only [f9L, List.set_cons_succ, List.set_cons_zero] at t6
      refine PO.retL (fout t6 (rdB_nil _) (Rd.up rl u6 (fun p hp => ?_)) (fr_nil _) (f5.mono t.ex.size) (by simp [FR, FR0, FR1, sameV, bareV, mayV_ok, ok0, *]))
      have := f5 p hp
      have := t.box2.blt
      omega
    · refine PO.call (Few_po t.ex.wf (wx t.ex).data h1 (by omega)) fun a g5 ⟨x5, b5, f5⟩ => ?_
      refine TB.stu (t.kx x5) (by simp) rfl fun g6 t6 u6 => ?_
      simp only [f9L, List.set_cons_succ, List.set_cons_zero] at t6
      have hof := emod_b x.2.2.1 (m := 1099511627776) (by decide)
      have hok : okN (x.2.2.1 % 1099511627776) := by unfold okN; omega
      refine PO.retL (fout t6 (Rd.up b5.rd u6 (fun p hp => ?_)) (rdR_nil _) (f5.mono t.ex.size) (fr_nil _) ?_)
      · have := f5 p hp
        have := t.box2.blt
        omega
      · have hlt : (u.data.take (120 : Int).toNat).length <= 120 := by simp; omega
        generalize u.data.take (120 : Int).toNat = dd at *
        generalize x.2.2.1 % 1099511627776 = oo at *
        simp [FR, FR0, FR1, sameV, bareV, mayV_ok, ok0, *]
        omega
    · have hm := mayV_ok x.2.2.1
      have hmb := emod_b x.2.2.2.2.1 (m := mayV x.2.2.1 + 1) (by unfold okN at hm; omega)
      have hok : okN (x.2.2.2.2.1 % (mayV x.2.2.1 + 1)) := by unfold okN at hm ⊢; omega
      have hle : x.2.2.2.2.1 % (mayV x.2.2.1 + 1) <= mayV x.2.2.1 := by omega
      generalize x.2.2.2.2.1 % (mayV x.2.2.1 + 1) = bb at *
      generalize hmm : mayV x.2.2.1 = mm at *
      simp [FR, FR0, FR1, sameV, bareV, mayV_ok, ok0, hm, hok, hle, e]
    · refine PO.letGrow t.ex.wf fun g4 x4 z4 w4 n4 => ?_
      have t4 := t.kx x4
      refine TB.ldL t4 rfl (PO.call (Few_po w4 (wx t4.ex).data h1 (by omega)) fun a g5 ⟨x5, b5, f5⟩ => ?_)
      have t5 := t4.kx x5
      refine TB.ldI t5 rfl ?_
      have hg3 := t.ex.wf.nro
      refine PO.addNew x5.wf (by decide) (EX.nn x5 (by omega) (n4 6 (by omega))) (by have := x5.size; omega) (by rw [x5.nro, x4.nro]; omega) fun g6 N6 B6 => .addNil ?_
      have y6 : EX g1 g6 := N6.ex0 t5.ex (by have := t.ex.size; omega)
      have y46 : EX g3 g6 := N6.ex0 (x4.trans x5) (by omega)
      have hbv : IntKind.wrap .u8 x.2.2.2.1 = ((UInt8.ofNat (x.2.2.2.1 % 256).toNat).toNat : Int) := by
        rw [wu8_mod, UInt8.toNat_ofNat']; omega
      have B6' : Box g6 (g3.size + 6) (vB [UInt8.ofNat (x.2.2.2.1 % 256).toNat]) := by
        have : ([.int .u8 (IntKind.wrap .u8 x.2.2.2.1)] : List Value) = vB [UInt8.ofNat (x.2.2.2.1 % 256).toNat] := by rw [hbv]; rfl
        rw [<- this]; exact B6
      have r6 : RdB g6 ⟨some ⟨g3.size + 6, 0, some 0⟩, 1, 1⟩ [UInt8.ofNat (x.2.2.2.1 % 256).toNat] := Box.rdB B6' N6.wf rfl (by unfold B63; omega)
      have b6 : BufB g6 a (u.data.take (119 : Int).toNat) := N6.buf x5.wf b5
      have hlt : (u.data.take (119 : Int).toNat).length <= 119 := by simp; omega
      obtain ⟨s7, g7, e7, k7, x7, b7, _, f7⟩ := appB_ok (e := 5) N6.wf b6 r6 (by simp only [List.length_singleton]; omega)
      have fa : Fr g3.size a := f5.mono (by omega)
      have y37 := x7 g3 y46 fa
      refine PO.callE e7 (.addOld (k7.som _ B6.ne) (.addNil ?_))
      have t7 := t.kx y37
      refine TB.stu t7 (by simp) rfl fun g8 t8 u8 => ?_
      refine .addOff (by decide) (.addNil ?_)
      refine TB.ldI t4 rfl ?_
      refine .chk (by simp) ?_
      refine .addOld ?_ (.addNil (PO.letTick t8.ex.wf fun g9 x9 z9 w9 => ?_))
      · rw [u8.same _ (Nat.lt_of_lt_of_le (B6.blt) k7.size) (fun hh => by have := t.box2.blt; omega)]
        exact k7.som _ B6.ne
      have t9 := t8.kx x9
      simp only [f9L, List.set_cons_succ, List.set_cons_zero] at t9
      refine PO.retL (fout t9 (Rd.ex x9 (Rd.up b7.rd u8 (fun p hp => ?_))) (rdR_nil _) ((f7 g3.size y46.size fa).mono t.ex.size) (fr_nil _) ?_)
      · have := f7 g3.size y46.size fa p hp
        have := t.box2.blt
        omega
      · have hl2 : (u.data.take (119 : Int).toNat ++ [UInt8.ofNat (x.2.2.2.1 % 256).toNat]).length <= 120 := by simp only [List.length_append, List.length_singleton]; omega
        have hl3 : 0 < (u.data.take (119 : Int).toNat ++ [UInt8.ofNat (x.2.2.2.1 % 256).toNat]).length := by simp
        generalize u.data.take (119 : Int).toNat ++ [UInt8.ofNat (x.2.2.2.1 % 256).toNat] = dd at *
        simp [FR, FR0, FR1, sameV, bareV, mayV_ok, ok0, *]
    · have hk1 : 1 <= k /\ k <= 12 := by omega
      simp [FR, FR0, FR1, sameV, bareV, mayV_ok, ok0, *]
  · rintro ⟨st, h5⟩ ⟨es, y, v, t5, f5, hv, fd, fs⟩
    have es' : st = (some ⟨h.size, 0, some 0⟩, some ⟨g0.size, 0, some 0⟩, some ⟨g1.size, 0, some 0⟩) := es
    subst es'
    have t : TB g1 h.size g1.size (f9L x) h5 (f9L y) := t5
    have f5' : FRd h5 y v := f5
    refine .ptr ?_
    refine TB.ldI t rfl ?_
    refine PO.joinD (.ptr ?_)
    refine TB.ldI t rfl (.callE (pick_f _ 20 (by decide) (by decide) _) ?_)
    rw [e6']
    refine .condE (fun c => absurd c (by decide)) (fun _ => .condE (fun c => absurd c (by decide)) (fun _ => .condE (fun c => absurd c (by decide)) (fun _ => .condE (fun c => absurd c (by decide)) (fun _ => .condE (fun c => absurd c (by decide)) (fun _ => .condE (fun c => absurd c (by decide)) (fun _ => .condE (fun c => absurd c (by decide)) (fun _ => .condE (fun c => absurd c (by decide)) (fun _ => .condE (fun c => absurd c (by decide)) (fun _ => .condE (fun c => absurd c (by decide)) (fun _ => .retL ?_))))))))))
    refine .ptr (PO.ldF t.box2 (.ptr ?_))
    have C1 : Box h5 g0.size (f9L f90) := Box.kx t.ex B1
    refine PO.stZ C1 t.ex.wf rfl rfl fun h6 B6 u6 z6 w6 => .ptr (PO.ldF B6 (.ret ⟨⟨v, ?_, hv⟩, ?_⟩))
    · refine ⟨f5'.e, Rd.up f5'.data u6 (fun p hp => ?_), Rd.up f5'.spans u6 (fun p hp => ?_)⟩
      · have := fd p hp; omega
      · have := fs p hp; omega
    · exact u6.ex0 ((x0.trans x1).trans t.ex) (fun A hA e => by have := x0.size; omega)
def WRs (h : H) : List F9 -> List RV -> Prop
  | [], [] => True
  | x :: xs, v :: vs => WRd h x v /\ WRs h xs vs
  | _, _ => False
structure RdW (h : H) (s : Sl) (xs : List F9) (vs : List RV) : Prop where
  rd : Rd 9 h s (fsV xs)
  wrs : WRs h xs vs
theorem WRs.len {h : H} : ∀ {xs : List F9} {vs : List RV}, WRs h xs vs -> xs.length = vs.length
  | [], [], _ => rfl
  | x :: xs, v :: vs, r => by simp [WRs.len r.2]
  | [], _ :: _, r => r.elim
  | _ :: _, [], r => r.elim
theorem WRs.ex {h h' : H} (y : EX h h') : ∀ {xs : List F9} {vs : List RV}, WRs h xs vs -> WRs h' xs vs
  | [], [], _ => trivial
  | x :: xs, v :: vs, r => ⟨WRd.ex y r.1, WRs.ex y r.2⟩
  | [], _ :: _, r => r.elim
  | _ :: _, [], r => r.elim
def rv0 : RV := ⟨0, 0, 0, 0, 0, 0, false, [], []⟩
theorem WRs.get {h : H} : ∀ {xs : List F9} {vs : List RV}, WRs h xs vs -> ∀ j, j < vs.length -> WRd h (xs.getD j f90) (vs.getD j rv0)
  | [], [], _, j, hj => by simp at hj
  | x :: xs, v :: vs, r, 0, _ => r.1
  | x :: xs, v :: vs, r, j + 1, hj => WRs.get r.2 j (by simpa using hj)
  | [], _ :: _, r, _, _ => r.elim
  | _ :: _, [], r, _, _ => r.elim
theorem RdW.ex {h h' : H} {s : Sl} {xs : List F9} {vs : List RV} (y : EX h h') (r : RdW h s xs vs) : RdW h' s xs vs := ⟨Rd.ex y r.rd, WRs.ex y r.wrs⟩
theorem RdW.len {h : H} {s : Sl} {xs : List F9} {vs : List RV} (r : RdW h s xs vs) : s.len = vs.length := by
  have := r.rd.len; rw [fsV_length] at this; have := r.wrs.len; omega
theorem PO.ixW {α : Type} {Q : α -> Prop} {h : H} {s : Sl} {xs : List F9} {vs : List RV} {j : Int} {g : Addr -> Option α} (r : RdW h s xs vs) (h0 : 0 <= j) (h1 : j < vs.length)
    (p : ∀ a b, s.base = some b -> a = add b (j.toNat * 9) -> Abs.ldZ [.int .i64, .int .i64, .int .i64, .int .i64, .int .i64, .int .i64, .bool, .sl, .sl] h a = some (xs.getD j.toNat f90) -> WRd h (xs.getD j.toNat f90) (vs.getD j.toNat rv0) -> PO (g a) Q) : PO (bindO (ixT 9 s j) g) Q := by
  obtain ⟨a, ha, e⟩ := ixT_ok r.rd h0 (by rw [RdW.len r]; exact h1)
  have hl := r.wrs.len
  have hj : j.toNat < xs.length := by omega
  exact .op e (p _ a ha rfl (Rd.ldZat r.rd ha _ zF (xs.getD j.toNat f90) (fsV_get xs _ hj)) (r.wrs.get _ (by omega)))
def WzOK (vs : List RV) : Prop := ∀ v ∈ vs, v.data.length <= 2 ^ 47 /\ v.spans.length <= 2 ^ 50
/-- an append of one frame -/
theorem PO.appF {α : Type} {Q : α -> Prop} {h0 h : H} {out : Sl} {xs : List F9} {x : F9} {g : Sl -> H -> Option α} (hx : EX h0 h) (hb : Buf 9 h out (fsV xs)) (hf : Fr h0.size out) (hl : xs.length + 1 <= 2 ^ 40)
    (k : ∀ out1 h2, Buf 9 h2 out1 (fsV (xs ++ [x])) -> EX h0 h2 -> Fr h0.size out1 -> KP h h2 -> PO (g out1 h2) Q) : PO (newO (row 33 (f9L x)) h fun b h1 => bind2 (appT 33 9 104 h1 out ⟨some ⟨b, 0, some 0⟩, 1, 1⟩) g) Q := by
  refine PO.newB hx.wf fun h1 x1 B1 z1 w1 => ?_
  have r1 : Rd 9 h1 ⟨some ⟨h.size, 0, some 0⟩, 1, 1⟩ (fsV [x]) := B1.rd w1 rfl (by unfold CapOK; rw [capK_exact (by unfold B63; omega)]; exact Nat.le_refl _)
  have hb1 : Buf 9 h1 out (fsV xs) := hb.ex hx.wf x1
  have hlen := hb1.rd.len
  rw [fsV_length] at hlen
  obtain ⟨s', h', e, k1, x2, b2, _, f2⟩ := appT_ok (e := 33) (bytes := 104) (by omega) (by unfold B63; omega) w1 hb1 r1 (fsV_oneC _) (by simp only; omega) (by simp only; omega)
  refine PO.callE e (k s' h' ?_ (x2 _ (hx.trans x1) hf) (f2 _ (hx.trans x1).size hf) ((x1.kp hx.wf).trans k1))
  rw [fsV_app]; exact b2
theorem FRd.kp {h h' : H} (k : KP h h') {x : F9} {v : FV} (r : FRd h x v) : FRd h' x v := ⟨r.e, RdB.mono r.data k, RdR.mono k r.spans⟩
theorem FRs.kp {h h' : H} {xs : List F9} {vs : List FV} (k : KP h h') (r : FRs h xs vs) : FRs h' xs vs := r.map fun x v => FRd.kp k
theorem HRight_f {h : H} (w : WF h) {s : Sl} {xs : List F9} {us : List RV} (r : RdW h s xs us) (hn : us.length <= 2 ^ 50) (hz : WzOK us) {N : Nat} (hN : N <= 100) :
    PO (hand_Right s (N : Int) h) (fun (a, h1) => (∃ ys vs, RdF h1 a ys vs /\ Buf 9 h1 a (fsV ys) /\ (∀ v ∈ vs, FR v) /\ vs.length = min us.length N) /\ EX h h1 /\ Fr h.size a) := by
  unfold hand_Right
  have hlen := RdW.len r
  refine PO.joinD (PO.mono (P := Sum.elim (fun a => (∃ ys vs, FRs a.2 ys vs /\ Buf 9 a.2 a.1 (fsV ys) /\ (∀ v ∈ vs, FR v) /\ vs.length = min us.length N) /\ EX h a.2 /\ Fr h.size a.1) (fun a => False)) ?_ ?_)
  · refine PO.loop (fun m st => ∃ (i : Nat) (out : Sl) (h' : H) (ys : List F9) (vs : List FV), st = ((s, ((N : Int), (out, (i : Int)))), h') /\ m + i = N /\ EX h h' /\ Fr h.size out /\ Buf 9 h' out (fsV ys) /\ FRs h' ys vs /\ (∀ v ∈ vs, FR v) /\ vs.length = i /\ i <= us.length) ?_ N _ ⟨0, _, h, [], [], rfl, rfl, EX.refl w, fr_nil _, buf_nil 9 h, trivial, by simp, rfl, by omega⟩
    rintro m st ⟨i, out, h', ys, vs, rfl, hm, hx, hf, hb, hfr, hv, hvl, hiu⟩
    unfold P.hand_Right_l1
    refine PO.join (fun st => ∃ c : Bool, st = ((s, ((N : Int), (out, ((i : Int), c)))), h') /\ (c = true ↔ (i < us.length /\ i < N))) ?_ ?_
    · refine .condD (fun c => .retL ⟨_, rfl, ?_⟩) (fun c => .retL ⟨_, rfl, ?_⟩)
      · have c' : (i : Int) < ((s.len : Nat) : Int) := c
        simp; omega
      · have c' : ¬ (i : Int) < ((s.len : Nat) : Int) := c
        simp; omega
    · rintro _ ⟨c, rfl, hc⟩
      refine .cond (fun ct => ?_) (fun cf => .retR ⟨⟨ys, vs, hfr, hb, hv, ?_⟩, hx, hf⟩)
      · obtain ⟨hi, hiN⟩ := hc.1 ct
        refine PO.ixW (r.ex hx) (by omega) (by omega) fun a _ _ _ e1 wr => .op e1 ?_
        simp only [Int.toNat_natCast] at wr ⊢
        have hzz := hz _ (getD_mem us rv0 hi)
        generalize us.getD i rv0 = u at *
        generalize xs.getD i f90 = x at *
        refine PO.boxF rfl hx.wf fun h2 x2 B2 z2 => PO.st1 B2 x2.wf (by simp) rfl fun h3 B3 u3 z3 w3 => ?_
        have y3 : EX h' h3 := u3.ex0 x2 (fun A hA e => by omega)
        have B3' : Box h3 h'.size (f9L (x.1, x.2.1, x.2.2.1, x.2.2.2.1, x.2.2.2.2.1, 0, x.2.2.2.2.2.2.1, x.2.2.2.2.2.2.2.1, x.2.2.2.2.2.2.2.2)) := B3
        have wr3 := wr.ex y3
        have wu : WRd h3 (x.1, x.2.1, x.2.2.1, x.2.2.2.1, x.2.2.2.2.1, 0, x.2.2.2.2.2.2.1, x.2.2.2.2.2.2.2.1, x.2.2.2.2.2.2.2.2) { u with bend := 0 } := by
          obtain ⟨e1, e2, e3, e4, e5, e6, e7⟩ := wr3.e
          exact ⟨⟨e1, e2, e3, e4, e5, rfl, e7⟩, wr3.data, wr3.spans⟩
        refine PO.ldF B3' (PO.call (HFrame_f w3 wu rfl hzz.1 hzz.2) fun y h4 ⟨⟨v, fv, hvv⟩, x4⟩ => ?_)
        have y4 := y3.trans x4
        have hyl := hfr.len
        refine PO.appF (x := y) (hx.trans y4) (hb.ex hx.wf y4) hf (by omega) fun out1 h5 b5 x5 f5 k5 => .retL ⟨m - 1, by omega, i + 1, out1, h5, ys ++ [y], vs ++ [v], ?_, by omega, x5, f5, b5, ?_, ?_, by simp [hvl], by omega⟩
        · rw [w64 (n := (i : Int) + 1) (by omega) (by omega)]; rfl
        · exact FRs.app ((hfr.ex y4).kp k5) ⟨fv.kp k5, trivial⟩
        · intro q hq
          rcases List.mem_append.1 hq with hq | hq
          · exact hv q hq
          · simp at hq; subst hq; exact hvv
      · have : ¬ (i < us.length /\ i < N) := fun hh => by rw [hc.2 hh] at cf; simp at cf
        omega
  · rintro (⟨out, h1⟩ | _) hp
    · obtain ⟨⟨ys, vs, hfr, hb, hv, hl⟩, x1, f1⟩ := hp
      exact .ret ⟨⟨ys, vs, ⟨hb.rd, hfr⟩, hb, hv, hl⟩, x1, f1⟩
    · exact hp.elim
end Go.Proofs.Ythiccnmplgdheaa.T
-- SEAT c
namespace Go.Abs
open Go
theorem stCell_same {h h' : H} {a : Addr} {v : Value} (e : stCell h a v = some h') : h'.size = h.size /\ ∀ A, A ≠ a.block -> h'.objs.get A = h.objs.get A := by
  unfold stCell at e
  split at e
  · rename_i r ev _ _
    cases hb : (ev.beq r.ver && h.nro.ble a.block && a.off.blt r.size && oneC v) <;> rw [hb] at e
    · simp at e
    · cases e
      refine ⟨rfl, fun A hA => ?_⟩
      show (Tr.set _ _ _).get A = _
      rw [Tr.get_set, if_neg hA]
  · simp at e
theorem stCells_same : ∀ (vs : List Value) {h h' : H} {a : Addr}, stCells h a vs = some h' -> h'.size = h.size /\ ∀ A, A ≠ a.block -> h'.objs.get A = h.objs.get A
  | [], h, h', a, e => by cases e; exact ⟨rfl, fun _ _ => rfl⟩
  | v :: vs, h, h', a, e => by
    unfold stCells at e
    split at e
    · rename_i h1 e1
      obtain ⟨g1, g2⟩ := stCell_same e1
      obtain ⟨g3, g4⟩ := stCells_same vs e
      exact ⟨g3.trans g1, fun A hA => (g4 A hA).trans (g2 A hA)⟩
    · simp at e
def opH (h : H) : OpR -> H
  | .val _ h' => h'
  | .new ob _ => newAt (grow h 1) h.size ob
  | _ => h
theorem appR_same {h : H} {e : TypeId} {j : TyI} {s : Sl} {new : List Value} {m : Nat} {R : OpR} (hr : appR h e j (encSl s) new m = some R) : ∀ A, A < h.size -> (∀ a, s.base = some a -> a.block ≠ A) -> (opH h R).objs.get A = h.objs.get A := by
  have hnew : ∀ ob A, A < h.size -> (newAt (grow h 1) h.size ob).objs.get A = h.objs.get A := fun ob A hA => by
    rw [newAt_get, if_neg (by omega)]; rfl
  obtain ⟨b, len, cap⟩ := s
  unfold appR encSl at hr
  simp only at hr
  intro A hA hs
  cases h0 : m.beq 0 <;> rw [h0] at hr
  case true => simp only [cond_true, Option.some.injEq] at hr; subst hr; rfl
  simp only [cond_false] at hr
  cases h1 : (!(((len + m) * j.bytes).ble (2 ^ 47) && (len + m).ble (2 ^ 62))) <;> rw [h1] at hr
  case true => simp at hr
  simp only [cond_false] at hr
  cases b with
  | none =>
    simp only at hr
    cases h2 : (len.beq 0 && cap.beq 0) <;> rw [h2] at hr
    · simp at hr
    · simp only [cond_true, Option.some.injEq] at hr
      subst hr
      exact hnew _ A hA
  | some a =>
    have ha := hs a rfl
    have hne : A ≠ a.block := fun e => ha e.symm
    simp only at hr
    cases hc : capK cap <;> rw [hc] at hr <;> simp only at hr
    case exact k =>
      cases h2 : (len + m).ble k <;> rw [h2] at hr <;> simp only [cond_false, cond_true] at hr
      · split at hr
        · simp only [Option.some.injEq] at hr; subst hr; exact hnew _ A hA
        · simp at hr
      · rw [Option.map_eq_some_iff] at hr
        obtain ⟨h', e1, rfl⟩ := hr
        exact (stCells_same _ e1).2 A (by simpa [add] using hne)
    case any => simp at hr
    case unk z =>
      cases h2 : z.beq j.size <;> rw [h2] at hr <;> simp only [cond_false, cond_true] at hr
      · simp at hr
      · split at hr
        · rename_i r ev _ _
          cases h3 : (ev.beq r.ver && h.nro.ble a.block && (a.off + len * j.size).ble r.size && (0).blt j.size) <;> rw [h3] at hr <;> simp only [cond_false, cond_true] at hr
          · simp at hr
          · cases h4 : (a.off + (len + m) * j.size).ble r.size <;> rw [h4] at hr <;> simp only [cond_false, cond_true] at hr
            · simp only [Option.some.injEq] at hr; subst hr
              show (Tr.set _ _ _).get A = _
              rw [Tr.get_set, if_neg hne]
            · rw [Option.map_eq_some_iff] at hr
              obtain ⟨h', e1, rfl⟩ := hr
              exact (stCells_same _ e1).2 A (by simpa [add] using hne)
        · simp at hr
    case unk0 z =>
      cases h2 : z.beq j.size <;> rw [h2] at hr <;> simp only [cond_false, cond_true] at hr
      · simp at hr
      · split at hr
        · rename_i r ev _ _
          cases h3 : (ev.beq r.ver && h.nro.ble a.block && (a.off + len * j.size).ble r.size && r.size.blt (a.off + (len + m) * j.size) && (0).blt j.size) <;> rw [h3] at hr <;> simp only [cond_false, cond_true] at hr
          · simp at hr
          · simp only [Option.some.injEq] at hr; subst hr
            show (Tr.set _ _ _).get A = _
            rw [Tr.get_set, if_neg hne]
        · simp at hr
theorem appT_same {e sz bytes : Nat} {h : H} {s x : Sl} {s' : Sl} {h' : H} (hr : appT e sz bytes h s x = some (s', h')) : ∀ A, A < h.size -> (∀ a, s.base = some a -> a.block ≠ A) -> h'.objs.get A = h.objs.get A := by
  have key : ∃ R new n, appR h e (tyS sz bytes .nilFunc) (encSl s) new n = some R /\ opH h R = h' := by
    unfold appT appA at hr
    rw [show (#[e + 1, e + 1] : Array TypeId)[0]? = some (e + 1) from rfl, show (#[e + 1, e + 1] : Array TypeId)[1]? = some (e + 1) from rfl] at hr
    simp only [elem_DSE, DSE_s] at hr
    simp only [encSl] at hr
    cases hf : firstA h (tyS sz bytes .nilFunc).size x.len (.slice x.base x.len x.cap) with
    | none => rw [hf] at hr; simp [decR] at hr
    | some new =>
      rw [hf] at hr
      simp only at hr
      cases hq : new.all oneC <;> rw [hq] at hr
      · simp [decR] at hr
      · simp only [cond_true] at hr
        cases hR : appR h e (tyS sz bytes .nilFunc) (.slice s.base s.len s.cap) new x.len with
        | none => rw [hR] at hr; simp [decR] at hr
        | some R =>
          rw [hR] at hr
          refine ⟨R, new, x.len, hR, ?_⟩
          cases R with
          | val v g =>
            simp only [decR] at hr
            split at hr
            · cases hr; rfl
            · simp at hr
          | new ob mk =>
            simp only [decR] at hr
            split at hr
            · cases hr; rfl
            · simp at hr
          | skip h2 => simp [decR] at hr
          | call f2 v2 => simp [decR] at hr
  obtain ⟨R, new, n, h1, rfl⟩ := key
  exact appR_same h1
/-- an append, all but its own row as it was -/
theorem up_app {e sz bytes : Nat} {h : H} {s x : Sl} {s' : Sl} {h' : H} (hr : appT e sz bytes h s x = some (s', h')) (k : KP h h') : UP (fun A => ∃ a, s.base = some a /\ a.block = A) h h' :=
  ⟨k.size, k.nro, k.wf, fun A hA hn => appT_same hr A hA fun a ha e => hn ⟨a, ha, e⟩, k.st⟩
end Go.Abs
