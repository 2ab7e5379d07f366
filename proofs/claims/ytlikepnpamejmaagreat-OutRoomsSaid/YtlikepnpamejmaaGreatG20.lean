/- Lemmas about the typed texts (joined: SOut4 LOutR). -/
import Derived.Test.YtlikepnpamejmaaGreatG19
import Derived.Test.YtlikepnpamejmaaGreatG17
-- SEAT c
/- Chapter 21's example over the typed texts. -/
set_option linter.unusedVariables false
set_option linter.unusedSimpArgs false
set_option maxRecDepth 100000
namespace Go.Proofs.YtlikepnpamejmaaGreat.T
open Go Go.Abs Go.Proofs
open TC (cmpI ordL before)
theorem good_one (d : Int) : OGood [((0 : Int), d)] := ⟨by simp, by intro k hk; simp at hk; subst hk; rfl, by simp⟩
theorem good_nil : OGood [] := ⟨by simp, by intro k hk; simp at hk, by simp⟩
theorem ordL_one (d : Int) : ordL [((0 : Int), d)] = [0] := ordL_eq (by simp) (by simp) (by simp)
section
variable {h0 h h' : H} {b : Nat} {es : List (Int × Int)} {ps : List (Option Addr)} {M : Option Nat} {l : Sl}
theorem addb (b : Nat) : add (⟨b, 0, some 0⟩ : Addr) 0 = ⟨b, 0, some 0⟩ := rfl
theorem Drive_f {q c : Nat} (X : BX h0 h b [((0 : Int), (3 : Int))] [some ⟨q, 0, some 0⟩] M l) (hst : h.st = false) (F : Off h0 b M l q) {s : Sl} (B : Box h q (msgL 0 3 0 s true)) {L : List Value} (C : CX h0 h c L) (Fc : Off h0 b M l c) (hcq : c ≠ q) :
    PO (outbox_Box_Drive (some ⟨b, 0, some 0⟩) 4 (some ⟨c, 0, some 0⟩) h) (fun (a, h1) => Rd 4 h1 a (evL (4, 0, 4, ⟨#[]⟩)) ∧ BX h0 h1 b [] [some ⟨q, 0, some 0⟩] M l ∧ Box h1 q ((msgL 0 3 0 s true).set 8 (.int .i64 4)) ∧ h1.st = false) := by
  unfold outbox_Box_Drive P.outbox_Box_Drive
  have w := X.ex.wf
  refine .ptr (.ldL X.ord.box rfl ?_)
  refine PO.call (Drop_f' w C ⟨none, 0, 0⟩) fun d h1 ⟨C1, u1⟩ => ?_
  have X1 := X.upq Fc u1
  have B1 := B.up w u1 (fun e => hcq e.symm)
  refine .ptr (PO.st1 X1.ord.box X1.ex.wf (by simp) rfl fun h2 Bx2 u2 z2 w2 => ?_)
  have X2 : BX h0 h2 b [((0 : Int), (3 : Int))] [some ⟨q, 0, some 0⟩] M l := ⟨u2.ex0 X1.ex (fun A hA e => by have := X1.lo; omega), X1.lo, ⟨Bx2, X1.ord.map.up u2 (fun r hr e => X1.ord.ne (by rw [hr, e])), X1.ord.ne⟩, X1.mlo, Buf.up X1.ex.wf X1.buf u2 (fun a ha e => (X1.sep a ha).2.1 e), X1.sep⟩
  have C2 : CX h0 h2 c L := ⟨C1.lo, C1.ok, C1.box.up X1.ex.wf u2 Fc.nb⟩
  have B2 := B1.up X1.ex.wf u2 F.nb
  refine PO.call (Notes_f' w2 C2) fun a h3 ⟨hn, C3, u3⟩ => ?_
  obtain ⟨n1, n2⟩ := a
  have hn' : n2.len = 0 := hn
  have X3 := X2.upq Fc u3
  have B3 := B2.up w2 u3 (fun e => hcq e.symm)
  have st3 : h3.st = false := by rw [u3.st, u2.st, u1.st, hst]
  refine PO.join (fun st => st = ((some ⟨b, 0, some 0⟩, (4, (some ⟨c, 0, some 0⟩, nSl))), h3)) ?_ ?_
  · refine PO.loop1 ?_
    unfold P.outbox_Box_Drive_l1
    dsimp only
    rw [hn']
    exact .condD (fun c => absurd c (by decide)) (fun _ => .retR rfl)
  rintro _ rfl
  dsimp only
  refine PO.join (fun st => ∃ out h4, st = ((some ⟨b, 0, some 0⟩, (some ⟨c, 0, some 0⟩, out)), h4) ∧ Buf 4 h4 out (evL (4, 0, 4, ⟨#[]⟩)) ∧ BX h0 h4 b [] [some ⟨q, 0, some 0⟩] M l ∧ Box h4 q ((msgL 0 3 0 s true).set 8 (.int .i64 4)) ∧ h4.st = false) ?_ ?_
  · refine .ptr ?_
    rw [addb]
    refine PO.call (LateX_f X3.ex.wf st3 X3.ord (good_one 3) 4) fun t h4 ⟨x4, r4, _⟩ => ?_
    rw [ordL_one, show ([0] : List Int).filter (keepL [((0 : Int), (3 : Int))] 4) = [0] by decide] at r4
    have tl : t.len = 1 := r4.len
    have X4 := X3.step x4
    refine PO.loop1 ?_
    unfold P.outbox_Box_Drive_l2
    dsimp only
    rw [tl]
    refine .condD (fun _ => ?_) (fun c => absurd (show (0 : Int) < ((1 : Nat) : Int) by decide) c)
    refine PO.ixI r4 (by decide) (by decide) fun a ea => .op ea ?_
    rw [show (([0] : List Int).getD (0 : Int).toNat 0) = ((0 : Nat) : Int) from rfl]
    refine PO.call (Expires_f X4 (i := 0) rfl F (B3.kx x4) (by simp) (by omega) 4 ⟨C3.lo, C3.ok, C3.box.kx x4⟩ Fc hcq) fun v h5 ⟨ev, X5, B5⟩ => ?_
    have ev' : v = (4, ((0 : Nat) : Int), 4, ⟨#[]⟩) := ev
    subst ev'
    have st5 : h5.st = false := by rw [X5.ex.st, ← X4.ex.st, x4.st, st3]
    refine PO.newB X5.ex.wf fun h6 x6 B6 z6 w6 => ?_
    have r6 : Rd 4 h6 ⟨some ⟨h5.size, 0, some 0⟩, 1, 1⟩ (evL (4, 0, 4, ⟨#[]⟩)) := B6.rd w6 rfl (by unfold CapOK; rw [capK_exact (by unfold B63; omega)]; exact Nat.le_refl _)
    obtain ⟨o7, h7, e7, k7, xx7, b7, _, f7⟩ := appT_ok (e := 46) (bytes := 40) (by omega) (by unfold B63; omega) w6 (buf_nil 4 h6) r6 rfl (by simp only; omega) (by simp only; omega)
    have x7 : EX h5 h7 := xx7 h5 x6 (fr_nil _)
    refine .callE e7 (.retL ?_)
    refine PO.loop1 ?_
    refine .condD (fun c => absurd (show ((1 : Nat) : Int) > IntKind.wrap .i64 (0 + 1) from c) (by decide)) (fun _ => .retR ⟨o7, h7, rfl, by simpa using b7, ?_, B5.kx x7, by rw [x7.st, st5]⟩)
    have hd : dropsI [((0 : Nat) : Int)] [((0 : Int), (3 : Int))] = [] := by decide
    rw [hd] at X5
    exact X5.step x7
  rintro _ ⟨out, h4, rfl, b4, X4, B4, st4⟩
  dsimp only
  refine PO.join (fun st => ∃ h5, st = (out, h5) ∧ EX h4 h5) ?_ ?_
  · refine .ptr ?_
    rw [addb]
    refine PO.call (AllX_f X4.ex.wf st4 X4.ord good_nil) fun t h5 ⟨x5, _, tl, _⟩ => ?_
    have tl' : t.len = 0 := tl
    refine PO.loop1 ?_
    unfold P.outbox_Box_Drive_l3
    dsimp only
    rw [tl']
    exact .condD (fun c => absurd c (by decide)) (fun _ => .retR ⟨h5, rfl, x5⟩)
  rintro _ ⟨h5, rfl, x5⟩
  have hol : out.len = 1 := by have := b4.rd.len; simp [evL] at this; omega
  obtain ⟨s', e, r', l', _⟩ := clip_base (sz := 4) (by omega) (by unfold B63; omega) (Rd.ex x5 b4.rd) (by rw [hol]; unfold B63; omega)
  refine PO.callE (a := s') (h1 := h5) ?_ (.ret ⟨r', X4.step x5, B4.kx x5, by rw [x5.st, st4]⟩)
  unfold slices_Clip_api_Event_api_Event
  rw [e]; rfl
theorem known21_f (w : WF h) (hst : h.st = false) : PO (law21_known h) (fun (a, h1) => a = true ∧ EX h h1) := by
  unfold law21_known P.law21_known
  suffices hN : ∀ (f : Option Addr → H → Option (Bool × H)) (Q : Bool × H → Prop), (∀ h1, BX h h1 h.size [] [] none ⟨none, 0, 0⟩ → PO (f (some ⟨h.size, 0, some 0⟩) h1) Q) → PO (bind2 (outbox_New h) f) Q by
    refine hN _ _ fun h1 X1 => ?_
    have st1' : h1.st = false := X1.ex.st.trans hst
    refine PO.call (conn_New_f X1.ex.wf) fun a h2 ⟨x2, c, L, ea, hc, hok, B2⟩ => ?_
    have ea' : a = some ⟨c, 0, some 0⟩ := ea
    subst ea'
    have Fc := X1.off hc
    have C2 : CX h h2 c L := ⟨Nat.le_trans X1.ex.size hc, hok, B2⟩
    have X2 := X1.step x2
    refine PO.join (fun st => st = ((some ⟨h.size, 0, some 0⟩, (some ⟨c, 0, some 0⟩, false)), h2)) ?_ ?_
    · exact .op (show eqPT (some (⟨h.size, 0, some 0⟩ : Addr)) none = some false from rfl) (.condF (.op (show eqPT (some (⟨c, 0, some 0⟩ : Addr)) none = some false from rfl) (.retL rfl)))
    rintro _ rfl
    refine .condF ?_
    refine PO.newB (l := vB [120]) x2.wf fun h3 x3 B3 z3 w3 => ?_
    have b3 : BufB h3 ⟨some ⟨h2.size, 0, some 0⟩, 1, 1⟩ [120] := Box.buf (sz := 1) (n := 1) B3 w3 rfl (by unfold B63; omega)
    refine .callE (bbT_ok b3 w3 (by simp) rfl (by unfold B63; simp)) ?_
    have X3 := X2.step x3
    refine PO.call (Submit_ok X3 b3.rd (now := 1) (dl := 3) (by decide) (by decide) (by decide) (by simp)) fun a h4 hp => ?_
    have hp' : a = (((0 : Nat) : Int), 0) ∧ ∃ M' l' q s, BX h h4 h.size (putI ((0 : Nat) : Int) 3 []) ([] ++ [some ⟨q, 0, some 0⟩]) M' l' ∧ Off h h.size M' l' q ∧ Box h4 q (msgL ((0 : Nat) : Int) 3 0 s true) ∧ h3.size ≤ q ∧ ∀ q0, q0 < h3.size → Off h h.size none ⟨none, 0, 0⟩ q0 → Off h h.size M' l' q0 ∧ ∀ L, Box h3 q0 L → Box h4 q0 L := by
      have : (if ([] : List (Option Addr)).length = 40 then a = (0, 9) ∧ h4 = h3 else _) := hp
      rw [if_neg (by simp)] at this
      exact this
    obtain ⟨rfl, M', l', q, s, X4, F4, B4, hq, keep⟩ := hp'
    have hcs := (B2.kx x3).blt
    obtain ⟨Fc4, kc⟩ := keep c hcs Fc
    have C4 : CX h h4 c L := ⟨C2.lo, hok, kc _ (B2.kx x3)⟩
    have st4 : h4.st = false := X4.ex.st.trans hst
    refine PO.call (Drive_f (q := q) (c := c) X4 st4 F4 B4 C4 Fc4 (by omega)) fun ev h5 ⟨r5, X5, B5, st5⟩ => ?_
    have evl : ev.len = 1 := by have := r5.len; simp [evL] at this; omega
    refine .condT (.condT ?_)
    rw [evl]
    refine .condT ?_
    obtain ⟨a, ha, e⟩ := ixT_ok r5 (i := 0) (by decide) (by omega)
    refine .op e (.op (Rd.ldZat r5 ha 0 zE ((4, 0, 4, ⟨#[]⟩) : Ev4) rfl) (.letO (.chk' (by simp) ?_)))
    have hs0 := State_at X5 (i := 0) rfl B5 (s := 4) rfl
    have hs0' : outbox_Box_State (some ⟨h.size, 0, some 0⟩) 0 h5 = some (4, h5) := hs0
    refine .callE hs0' (.condT (.callE (State_none X5 1 (.inr (by simp))) (.condT (.ptr ?_))))
    rw [addb]
    refine PO.call (AllX_f X5.ex.wf st5 X5.ord good_nil) fun t h6 ⟨x6, _, tl, _⟩ => .ret ⟨?_, X5.ex.trans x6⟩
    have tl' : t.len = 0 := tl
    rw [tl']; rfl
  intro f Q k
  obtain ⟨⟨a, h1⟩, e, ea, X⟩ : PO (outbox_New h) (fun (a, h1) => a = some ⟨h.size, 0, some 0⟩ ∧ BX h h1 h.size [] [] none ⟨none, 0, 0⟩) := by
    unfold outbox_New
    exact PO.newB w fun h1 x1 B1 z1 w1 => .ret ⟨rfl, ⟨x1, Nat.le_refl _, ⟨B1, mapAt_nil h1, (fun e => nomatch e)⟩, (fun r hr => nomatch hr), buf_nil 1 h1, (fun a ha => nomatch ha)⟩⟩
  have ea' : a = some ⟨h.size, 0, some 0⟩ := ea
  subst ea'
  exact .callE e (k h1 X)
end
end Go.Proofs.YtlikepnpamejmaaGreat.T
-- SEAT c
/- The law OutRooms over typed texts. -/
set_option linter.unusedVariables false
set_option linter.unusedSimpArgs false
set_option maxRecDepth 100000
namespace Go.Proofs.YtlikepnpamejmaaGreat.T
open Go Go.Abs Go.Proofs
open TC (cmpI ordL before)
def esN (n : Nat) : List (Int × Int) := (List.range n).map fun (i : Nat) => ((i : Int), (9 : Int))
theorem esN_length (n : Nat) : (esN n).length = n := by unfold esN; simp
theorem putI_new (k v : Int) : ∀ es : List (Int × Int), (∀ p ∈ es, p.1 ≠ k) → putI k v es = es ++ [(k, v)]
  | [], _ => rfl
  | (k', v') :: es, h => by
    unfold putI
    rw [if_neg (fun e => h (k', v') (by simp) e.symm), putI_new k v es (fun p hp => h p (by simp [hp]))]; rfl
theorem esN_put (n : Nat) : putI (n : Int) 9 (esN n) = esN (n + 1) := by
  rw [putI_new]
  · unfold esN; rw [List.range_succ, List.map_append]; rfl
  · intro p hp e
    unfold esN at hp
    obtain ⟨i, hi, rfl⟩ := List.mem_map.1 hp
    have := List.mem_range.1 hi
    simp only at e
    omega
theorem esN_good (n : Nat) (hn : n ≤ 40) : OGood (esN n) := by
  have hm : (esN n).map (·.1) = (List.range n).map fun (i : Nat) => (i : Int) := by unfold esN; rw [List.map_map]; rfl
  refine ⟨?_, ?_, by rw [esN_length]; omega⟩
  · rw [hm]
    exact List.Pairwise.map _ (fun a b (h : a ≠ b) e => h (by exact_mod_cast e)) List.nodup_range
  · intro k hk
    rw [hm] at hk
    obtain ⟨i, hi, rfl⟩ := List.mem_map.1 hk
    have := List.mem_range.1 hi
    simp [Lit.wf, IntKind.has, IntKind.min, IntKind.max, IntKind.signed, IntKind.bits]
    omega
theorem OutRooms (l : Sl) (n : Int) (h : H) (w : WF h) (hst : h.st = false) (zs : List Int) (r : RdI .i64 h l zs) (hz : zs.length * 8 ≤ 140737488351232) (hzr : ∀ n ∈ zs, -9223372036854775808 ≤ n ∧ n ≤ 9223372036854775807) (g1 : RNG n) : ∃ h', law21_OutRooms l n h = some (true, h') := by
  refine PO.law ?_
  unfold law21_OutRooms P.law21_OutRooms
  have q1 := emod_b n (show (0 : Int) < 45 by omega)
  have hl := r.len
  obtain ⟨⟨a, h1⟩, e, ea, X⟩ : PO (outbox_New h) (fun (a, h1) => a = some ⟨h.size, 0, some 0⟩ ∧ BX h h1 h.size [] [] none ⟨none, 0, 0⟩) := by
    unfold outbox_New
    exact PO.newB w fun h1 x1 B1 z1 w1 => .ret ⟨rfl, ⟨x1, Nat.le_refl _, ⟨B1, mapAt_nil h1, (fun e => nomatch e)⟩, (fun r hr => nomatch hr), buf_nil 1 h1, (fun a ha => nomatch ha)⟩⟩
  have ea' : a = some ⟨h.size, 0, some 0⟩ := ea
  subst ea'
  have X' : BX h h1 h.size [] [] none ⟨none, 0, 0⟩ := X
  refine .callE e ?_
  refine PO.join (fun st => ∃ h2, st = ((l, (n, (some ⟨h.size, 0, some 0⟩, false))), h2) ∧ EX h1 h2) ?_ ?_
  · refine PO.call (known21_f X'.ex.wf (X'.ex.st.trans hst)) fun a h2 ⟨ea, x2⟩ => ?_
    have ea2 : a = true := ea
    subst ea2
    exact .condF (.op (show eqPT (some (⟨h.size, 0, some 0⟩ : Addr)) none = some false from rfl) (.retL ⟨h2, rfl, x2⟩))
  rintro _ ⟨h2, rfl, x2⟩
  have X2 := X'.step x2
  refine .condF ?_
  generalize hT : zs.length + (n % 45).toNat = T at *
  refine PO.loop (fun m st => ∃ (i next : Nat) (h' : H) (ps : List (Option Addr)) (M : Option Nat) (lb : Sl), st = ((l, (n, (some ⟨h.size, 0, some 0⟩, ((next : Int), (i : Int))))), h') ∧ m + i = T ∧ BX h h' h.size (esN next) ps M lb ∧ ps.length = next ∧ next ≤ 40) ?_ T _ ⟨0, 0, h2, [], none, ⟨none, 0, 0⟩, rfl, rfl, X2, rfl, by omega⟩
  rintro m st ⟨i, next, h3, ps, M, lb, rfl, hm, X3, hps, hnx⟩
  unfold P.law21_OutRooms_l1
  refine .callE (pick_f _ _ (by omega) (by omega) _) ?_
  rw [w64 (n := ((l.len : Nat) : Int) + n % 45) (by omega) (by omega)]
  refine .condD (fun c => ?_) (fun c => .retR rfl)
  have c' : (i : Int) < ((l.len : Nat) : Int) + n % 45 := c
  have hiT : i < T := by omega
  refine PO.join (fun st => ∃ bad : Bool, st = ((l, (n, (some ⟨h.size, 0, some 0⟩, ((next : Int), ((i : Int), bad))))), h3)) ?_ ?_
  · refine .condD (fun c2 => ?_) (fun c2 => .retL ⟨false, rfl⟩)
    refine PO.ixI (r.ex X3.ex) (by omega) (by omega) fun a ea => .op ea (.retL ⟨_, rfl⟩)
  rintro _ ⟨bad, rfl⟩
  dsimp only
  refine PO.newB (l := vB [1]) X3.ex.wf fun h4 x4 B4 z4 w4 => ?_
  have X4 := X3.step x4
  have r4 : RdB h4 ⟨some ⟨h3.size, 0, some 0⟩, 1, 1⟩ [1] := (Box.buf (sz := 1) (n := 1) B4 w4 rfl (by unfold B63; omega) : BufB h4 _ [1]).rd
  -- the message is taken in, or not
  have fin : ∀ (next' : Nat) (h5 : H) (ps' : List (Option Addr)) (M' : Option Nat) (lb' : Sl), BX h h5 h.size (esN next') ps' M' lb' → ps'.length = next' → next' ≤ 40 →
      PO (joinO (bind2 (outbox_Box_State (some ⟨h.size, 0, some 0⟩) (next' : Int) h5) fun (x3 : Int) (h7 : H) => condK (x3 != (-1)) (some (Sum.inl ((l, (n, (some (⟨h.size, 0, some 0⟩ : Addr), ((next' : Int), ((i : Int), true))))), h7))) (ptrK (some (⟨h.size, 0, some 0⟩ : Addr)) fun (a0 : Addr) => bind2 (order_Order_All (some (add a0 0)) h7) fun (x4 : Sl) (h8 : H) => some (Sum.inl ((l, (n, (some (⟨h.size, 0, some 0⟩ : Addr), ((next' : Int), ((i : Int), (((x4.len : Nat) : Int) != (next' : Int))))))), h8)))) fun (((l4, (n4, (b5, (next4, (i4, x3))))), h7) : ((Sl × (Int × ((Option Addr) × (Int × (Int × Bool))))) × H)) => condK x3 (some (Sum.inr (false, h7))) (some (Sum.inl ((l4, (n4, (b5, (next4, (IntKind.wrap .i64 (i4 + 1)))))), h7))))
        (Sum.elim (fun s' => ∃ n', n' < m ∧ ∃ (i next : Nat) (h' : H) (ps : List (Option Addr)) (M : Option Nat) (lb : Sl), s' = ((l, (n, (some ⟨h.size, 0, some 0⟩, ((next : Int), (i : Int))))), h') ∧ n' + i = T ∧ BX h h' h.size (esN next) ps M lb ∧ ps.length = next ∧ next ≤ 40) (fun (a : Bool × H) => a.1 = true)) := by
    intro next' h5 ps' M' lb' X5 hp5 hn5
    refine PO.join (fun st => ∃ h6, st = ((l, (n, (some (⟨h.size, 0, some 0⟩ : Addr), ((next' : Int), ((i : Int), false))))), h6) ∧ EX h5 h6) ?_ ?_
    · refine .callE (State_none X5 _ (.inr (by omega))) (.condNE (fun hh => absurd rfl hh) (fun _ => .ptr ?_))
      rw [addb]
      refine PO.call (AllX_f X5.ex.wf (X5.ex.st.trans hst) X5.ord (esN_good _ hn5)) fun t h6 ⟨x6, _, tl, _⟩ => .retL ⟨h6, ?_, x6⟩
      have tl' : t.len = next' := by rw [← esN_length next']; exact tl
      rw [tl']; simp
    · rintro _ ⟨h6, rfl, x6⟩
      refine .condF (.retL ⟨m - 1, by omega, i + 1, next', h6, ps', M', lb', ?_, by omega, X5.step x6, hp5, hn5⟩)
      rw [w64 (n := (i : Int) + 1) (by omega) (by omega)]; rfl
  cases bad with
  | true =>
    refine PO.join (fun st => st = ((l, (n, (some ⟨h.size, 0, some 0⟩, ((next : Int), ((i : Int), (true, (⟨none, 0, 0⟩ : Sl))))))), h4)) (.condT (.retL rfl)) ?_
    rintro _ rfl
    dsimp only
    refine .callE (Submit_bad X4 rfl 5 9) ?_
    refine PO.join (fun st => st = ((l, (n, (some ⟨h.size, 0, some 0⟩, ((next : Int), (i : Int))))), h4)) ?_ ?_
    · exact .condT (.condNE (fun hh => absurd rfl hh) (fun _ => .retL rfl))
    rintro _ rfl
    exact fin next h4 ps M lb X4 hps hnx
  | false =>
    refine PO.join (fun st => st = ((l, (n, (some ⟨h.size, 0, some 0⟩, ((next : Int), ((i : Int), (false, (⟨some ⟨h3.size, 0, some 0⟩, 1, 1⟩ : Sl))))))), h4)) (.condF (.retL rfl)) ?_
    rintro _ rfl
    dsimp only
    refine PO.call (Submit_ok X4 r4 (now := 5) (dl := 9) (by decide) (by decide) (by decide) (by omega)) fun a h5 hp => ?_
    by_cases h40 : ps.length = 40
    · have hp' : a = (0, 9) ∧ h5 = h4 := by
        have : (if ps.length = 40 then a = (0, 9) ∧ h5 = h4 else _) := hp
        rw [if_pos h40] at this
        exact this
      obtain ⟨rfl, rfl⟩ := hp'
      refine PO.join (fun st => st = ((l, (n, (some ⟨h.size, 0, some 0⟩, ((next : Int), (i : Int))))), h5)) ?_ ?_
      · exact .condF (.condE (fun _ => .condNE (fun hh => absurd rfl hh) (fun _ => .retL rfl)) (fun hh => absurd (show (next : Int) = 40 by omega) hh))
      rintro _ rfl
      exact fin next h5 ps M lb X4 hps hnx
    · have hp' : a = ((ps.length : Int), 0) ∧ ∃ M' l' q s, BX h h5 h.size (putI (ps.length : Int) 9 (esN next)) (ps ++ [some ⟨q, 0, some 0⟩]) M' l' ∧ Off h h.size M' l' q ∧ Box h5 q (msgL (ps.length : Int) 9 0 s true) ∧ h4.size ≤ q ∧ ∀ q0, q0 < h4.size → Off h h.size M lb q0 → Off h h.size M' l' q0 ∧ ∀ L, Box h4 q0 L → Box h5 q0 L := by
        have : (if ps.length = 40 then a = (0, 9) ∧ h5 = h4 else _) := hp
        rw [if_neg h40] at this
        exact this
      obtain ⟨rfl, M', l', q, s, X5, F5, B5, _, _⟩ := hp'
      rw [hps, esN_put] at X5
      have hs0 := State_at X5 (i := ps.length) (by simp) B5 (s := 0) rfl
      refine PO.join (fun st => st = ((l, (n, (some ⟨h.size, 0, some 0⟩, (((next + 1 : Nat) : Int), (i : Int))))), h5)) ?_ ?_
      · refine .condF (.condE (fun hh => absurd (show (next : Int) = 40 from hh) (by omega)) (fun _ => ?_))
        refine PO.join (fun st => st = ((l, (n, (some ⟨h.size, 0, some 0⟩, ((next : Int), ((i : Int), false))))), h5)) ?_ ?_
        · refine .condNE (fun hh => absurd rfl hh) (fun _ => .condNE (fun hh => absurd (show (ps.length : Int) = (next : Int) by omega) hh) (fun _ => .callE hs0 (.retL rfl)))
        · rintro _ rfl
          refine .condF (.retL ?_)
          dsimp only
          rw [w64 (n := (next : Int) + 1) (by omega) (by omega)]; rfl
      rintro _ rfl
      exact fin (next + 1) h5 _ M' l' X5 (by simp [hps]) (by omega)
end Go.Proofs.YtlikepnpamejmaaGreat.T
