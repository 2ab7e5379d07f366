/- Lemmas about the typed texts (joined: SOut1 SOut2 SOut3). -/
import Derived.Test.YtlikepnpamejmaaGreatG7
import Derived.Test.YtlikepnpamejmaaGreatG18
import Derived.Test.YtlikepnpamejmaaGreatG14
import Derived.Test.YtlikepnpamejmaaGreatG9
import Derived.Test.YtlikepnpamejmaaGreatG16
import Derived.Test.YtlikepnpamejmaaGreatG11
import Derived.Test.YtlikepnpamejmaaGreatG12
-- SEAT c
/- Chapter 21's box over the typed texts: its order (in the box's own row), messages taken in, their states. -/
set_option linter.unusedVariables false
set_option linter.unusedSimpArgs false
namespace Go.Proofs.YtlikepnpamejmaaGreat.T
open Go Go.Abs Go.Proofs
open TC (cmpI ordL before)
/-- an order within a row -/
structure OrdX (h : H) (o : Nat) (m : Option Nat) (es : List (Int × Int)) (L : List Value) : Prop where
  box : Box h o (.map m :: L)
  map : MapAt h m es
  ne : m ≠ some o
section
variable {h h' : H} {o : Nat} {m : Option Nat} {es : List (Int × Int)} {L : List Value}
theorem OrdX.ex (O : OrdX h o m es L) (x : EX h h') : OrdX h' o m es L := ⟨O.box.kx x, O.map.ex x, O.ne⟩
theorem OrdX.up {S : Nat → Prop} (w : WF h) (O : OrdX h o m es L) (u : UP S h h') (h1 : ¬ S o) (h2 : ∀ r, m = some r → ¬ S r) : OrdX h' o m es L := ⟨O.box.up w u h1, O.map.up u h2, O.ne⟩
theorem AllX_f (w : WF h) (hst : h.st = false) (O : OrdX h o m es L) (G : OGood es) :
    PO (order_Order_All (some ⟨o, 0, some 0⟩) h) (fun (s, h') => EX h h' ∧ RdI .i64 h' s (ordL es) ∧ s.len = es.length ∧ OwnS 1 h' s ((ordL es).map (.int .i64)) ∧ Fr h.size s) := by
  unfold order_Order_All P.order_Order_All
  refine PO.newB w fun h1 x1 B1 z1 w1 => ?_
  refine PO.ldP0 B1 rfl (.ptr ?_)
  refine PO.op (ldM_of ((O.box.kx x1).ld (i := 0) rfl)) ?_
  refine PO.call (P := fun p => p.1 = .func (.func 38) #[] #[.pointer (some ⟨h1.size, 0, some 0⟩)] ∧ EX h1 p.2 ∧ Box p.2 h1.size [.map m]) ?_ ?_
  · unfold maps_Keys_map_int_int_int_int
    exact PO.newB w1 fun h2 x2 B2 z2 w2 => .ret ⟨rfl, x2, B2⟩
  · rintro v h2 ⟨rfl, x2, B2⟩
    have O2 := (O.ex x1).ex x2
    have B1' := B1.kx x2
    refine PO.call (Sorted_f x2.wf ((x1.trans x2).st.trans hst) (o := ⟨o, 0, some 0⟩) (B2.ld0 rfl) (ldP_of (B1'.ld0 rfl)) (ldM_of (O2.box.ld (i := 0) rfl)) O2.map.r G) ?_
    rintro s h3 ⟨x3, b3, f3⟩
    have hl : (ordL es).length = es.length := by simpa using (TC.ordL_perm es).length_eq
    obtain ⟨s', e, r', l', g'⟩ := clipI_f b3 (by rw [hl]; exact G.len)
    rw [e, bind2_some]
    refine .ret ⟨(x1.trans x2).trans x3, r', l'.trans hl, b3.own.sub g' r' (Nat.le_refl _), fun a ha => ?_⟩
    have := f3 a (by rw [← g']; exact ha)
    have := (x1.trans x2).size
    omega
theorem OPutX_f (w : WF h) (O : OrdX h o m es L) (d id : Int) :
    PO (order_Order_Put (some ⟨o, 0, some 0⟩) d id h) (fun (_, h') => ∃ m', OrdX h' o m' (putI id d es) L ∧ UP (fun A => A = o ∨ m = some A) h h' ∧ (m' = m ∨ ∃ r, m' = some r ∧ h.size ≤ r)) := by
  unfold order_Order_Put
  refine PO.join (fun s => s.1 = (some ⟨o, 0, some 0⟩, d, id) ∧ ∃ r, OrdX s.2 o (some r) es L ∧ UP (fun A => A = o ∨ m = some A) h s.2 ∧ (some r = m ∨ h.size ≤ r)) ?_ ?_
  · refine PO.ptr (PO.op (ldM_of (O.box.ld (i := 0) rfl)) (PO.op (eqMT_nil m) ?_))
    cases m with
    | none =>
      refine PO.condT ?_
      refine PO.newM w fun h1 x1 M1 z1 => ?_
      have he := O.map.nil rfl
      refine PO.ptr (PO.st1 (O.box.kx x1) x1.wf (by simp) rfl fun h2 B2 u2 z2 w2 => .retL ⟨rfl, h.size, ⟨B2, ?_, ?_⟩, ?_, .inr (Nat.le_refl _)⟩)
      · subst he
        have ol : o < h.size := O.box.blt
        exact M1.up u2 fun r hr => by cases hr; omega
      · have ol : o < h.size := O.box.blt
        intro e; cases e; omega
      · exact (x1.trans_up u2).mono fun A _ e => .inl e
    | some r => exact PO.condF (.retL ⟨rfl, r, O, UP.refl w, .inl rfl⟩)
  · rintro ⟨⟨a1, a2, a3⟩, h1⟩ ⟨e, r, O1, u1, hr⟩
    simp only [Prod.mk.injEq] at e
    obtain ⟨rfl, rfl, rfl⟩ := e
    refine PO.ptr (PO.op (ldM_of (O1.box.ld (i := 0) rfl)) ?_)
    obtain ⟨h2, e2, M2, u2, z2⟩ := updT_ok u1.wf O1.map a3 a2
    refine PO.op e2 (.ret ⟨some r, ⟨O1.box.up u1.wf u2 (fun e => O1.ne (by rw [e])), M2, O1.ne⟩, ?_, ?_⟩)
    · refine u1.trans u2 fun A hA e => ?_
      subst e
      rcases hr with hr | hr
      · exact .inr hr.symm
      · omega
    · rcases hr with hr | hr
      · exact .inl hr
      · exact .inr ⟨r, rfl, hr⟩
theorem ODropX_f (w : WF h) (O : OrdX h o m es L) (hel : es.length ≤ 2 ^ 47) {ids : Sl} {l : List Int} (r : RdI .i64 h ids l) (hll : l.length ≤ 2 ^ 47) :
    PO (order_Order_Drop (some ⟨o, 0, some 0⟩) ids h) (fun (a, h') => a = (es.length : Int) - ((dropsI l es).length : Int) ∧ OrdX h' o m (dropsI l es) L ∧ UP (fun A => m = some A) h h') := by
  have hn : l ≠ [] → ∀ a, ids.base = some a → ¬ m = some a.block := by
    intro hl a ha hm
    exact rd_ne_map r (by simpa using hl) (O.map.at_ _ hm).2.2 a ha rfl
  unfold order_Order_Drop
  refine PO.ptr (PO.op (ldM_of (O.box.ld (i := 0) rfl)) (PO.op (lenMT_ok O.map.r) ?_))
  refine PO.join (fun s => s.1 = (some ⟨o, 0, some 0⟩, (es.length : Int)) ∧ OrdX s.2 o m (dropsI l es) L ∧ UP (fun A => m = some A) h s.2) ?_ ?_
  · rw [r.len]
    refine PO.loop (fun n s => ∃ (j : Nat) (hh : H), s = ((some ⟨o, 0, some 0⟩, ((es.length : Int), (ids, ((l.length : Int), (j : Int))))), hh) ∧ j ≤ l.length ∧ n = l.length - j ∧ OrdX hh o m (dropsI (l.take j) es) L ∧ UP (fun A => m = some A) h hh) ?_ (l.length - 0) _ ⟨0, h, rfl, Nat.zero_le _, rfl, O, UP.refl w⟩
    rintro n _ ⟨j, hh, rfl, hj, rfl, O1, u1⟩
    unfold order_Order_Drop_l1
    dsimp only
    refine PO.condD (fun hc => ?_) (fun hc => ?_)
    · have hjl : j < l.length := by omega
      have hl0 : l ≠ [] := by intro e; subst e; simp at hjl
      have r1 : RdI .i64 hh ids l := Rd.up r u1 (hn hl0)
      refine PO.ixI r1 (by omega) (by omega) fun p hp => PO.op hp (PO.ptr (PO.op (ldM_of (O1.box.ld (i := 0) rfl)) ?_))
      rw [show ((j : Int)).toNat = j from rfl, List.getD_eq_getElem?_getD, List.getElem?_eq_getElem hjl, Option.getD_some]
      obtain ⟨h2, e2, M2, u2, z2⟩ := delT_ok u1.wf O1.map l[j]
      refine PO.op e2 (.retL ⟨_, ?_, j + 1, h2, ?_, by omega, rfl, ⟨O1.box.up u1.wf u2 O1.ne, ?_, O1.ne⟩, u1.trans u2 fun _ _ e => e⟩)
      · omega
      · rw [w64 (by omega) (by omega)]; rfl
      · rw [List.take_succ_eq_append_getElem hjl, dropsI_snoc]; exact M2
    · have : j = l.length := by omega
      subst this
      rw [List.take_length] at O1
      exact .retR ⟨rfl, O1, u1⟩
  · rintro ⟨⟨a1, a2⟩, h1⟩ ⟨e, O1, u1⟩
    simp only [Prod.mk.injEq] at e
    obtain ⟨rfl, rfl⟩ := e
    refine PO.ptr (PO.op (ldM_of (O1.box.ld (i := 0) rfl)) (PO.op (lenMT_ok O1.map.r) (.ret ⟨?_, O1, u1⟩)))
    have := dropsI_len l es
    exact w64 (by omega) (by omega)
theorem LateX_f (w : WF h) (hst : h.st = false) (O : OrdX h o m es L) (G : OGood es) (now : Int) :
    PO (order_Order_Late (some ⟨o, 0, some 0⟩) now h) (fun (s, h') => EX h h' ∧ RdI .i64 h' s ((ordL es).filter (keepL es now)) ∧ Fr h.size s) := by
  unfold order_Order_Late P.order_Order_Late
  refine PO.newB w fun h1 x1 B1 z1 w1 => PO.newB w1 fun h2 x2 B2 z2 w2 => ?_
  have B1' := B1.kx x2
  have O2 := (O.ex x1).ex x2
  refine PO.ldP0 B1' rfl ?_
  refine PO.call (AllX_f w2 ((x1.trans x2).st.trans hst) O2 G) ?_
  rintro s h3 ⟨x3, r3, l3, o3, f3⟩
  have O3 := O2.ex x3
  have ol := O.box.blt
  have E : LateEnv h3 h2.size ⟨h.size, 0, some 0⟩ ⟨h1.size, 0, some 0⟩ es now := by
    refine ⟨⟨⟨o, 0, some 0⟩, m, (B1'.kx x3).ld0 rfl, O3.box.ld (i := 0) rfl, O3.map.r, show h.size < _ by omega, show o < _ by omega, fun r hr => ?_⟩, (B2.kx x3).ld0 rfl, show h1.size < _ by omega, x3.size⟩
    have := (O2.map.at_ r hr).2.1
    exact this
  have hl : (ordL es).length = es.length := by simpa using (TC.ordL_perm es).length_eq
  refine PO.call (Delete_f x3.wf E o3 (by rw [hl]; have := G.len; omega) f3) ?_
  rintro s4 h4 ⟨u4, r4, f4⟩
  have x4 : EX h h4 := u4.ex0 ((x1.trans x2).trans x3) fun A hA e => by have := (x1.trans x2).size; omega
  obtain ⟨s5, e5, r5, _, b5⟩ := clipR_I r4 (by have := List.length_filter_le (keepL es now) (ordL es); have := G.len; omega)
  rw [e5, bind2_some]
  refine .ret ⟨x4, r5, fun a ha => ?_⟩
  have := f4 a (by rw [← b5]; exact ha)
  have := (x1.trans x2).size
  omega
end
/-- a box of messages, apart from whatever lay below h0 -/
structure BX (h0 h : H) (b : Nat) (es : List (Int × Int)) (ps : List (Option Addr)) (M : Option Nat) (l : Sl) : Prop where
  ex : EX h0 h
  lo : h0.size ≤ b
  ord : OrdX h b M es [encSl l, encSl ⟨none, 0, 0⟩]
  mlo : ∀ r, M = some r → h0.size ≤ r
  buf : Buf 1 h l (ps.map .pointer)
  sep : ∀ a, l.base = some a → h0.size ≤ a.block ∧ a.block ≠ b ∧ M ≠ some a.block
section
variable {h0 h h' : H} {b : Nat} {es : List (Int × Int)} {ps : List (Option Addr)} {M : Option Nat} {l : Sl}
theorem BX.blt (X : BX h0 h b es ps M l) : b < h.size := X.ord.box.blt
theorem BX.llt (X : BX h0 h b es ps M l) : ∀ a, l.base = some a → a.block < h.size := buf_lt X.ex.wf X.buf
theorem BX.mlt (X : BX h0 h b es ps M l) : ∀ r, M = some r → r < h.size := fun r hr => (X.ord.map.at_ r hr).2.1
theorem BX.len (X : BX h0 h b es ps M l) : l.len = ps.length := by have := X.buf.rd.len; simpa using this.symm
theorem BX.step (X : BX h0 h b es ps M l) (x : EX h h') : BX h0 h' b es ps M l := ⟨X.ex.trans x, X.lo, X.ord.ex x, X.mlo, X.buf.ex X.ex.wf x, X.sep⟩
theorem BX.up {S : Nat → Prop} (X : BX h0 h b es ps M l) (u : UP S h h') (h1 : ∀ A, A < h0.size → ¬ S A) (h2 : ¬ S b) (h3 : ∀ r, M = some r → ¬ S r) (h4 : ∀ a, l.base = some a → ¬ S a.block) : BX h0 h' b es ps M l :=
  ⟨u.ex0 X.ex h1, X.lo, X.ord.up X.ex.wf u h2 h3, X.mlo, Buf.up X.ex.wf X.buf u h4, X.sep⟩
/-- a row that is none of the box's -/
structure Off (h0 : H) (b : Nat) (M : Option Nat) (l : Sl) (q : Nat) : Prop where
  lo : h0.size ≤ q
  nb : q ≠ b
  nm : M ≠ some q
  nl : ∀ a, l.base = some a → a.block ≠ q
theorem BX.upq {q : Nat} (X : BX h0 h b es ps M l) (F : Off h0 b M l q) (u : UP (· = q) h h') : BX h0 h' b es ps M l :=
  X.up u (fun A hA e => by have := F.lo; omega) (fun e => F.nb e.symm) (fun r hr e => F.nm (by rw [hr, e])) (fun a ha e => F.nl a ha e)
theorem BX.off {q : Nat} (X : BX h0 h b es ps M l) (hq : h.size ≤ q) : Off h0 b M l q :=
  ⟨Nat.le_trans X.ex.size hq, fun e => by have := X.blt; omega, fun e => by have := X.mlt q e; omega, fun a ha e => by have := X.llt a ha; omega⟩
theorem State_none (X : BX h0 h b es ps M l) (id : Int) (hid : id < 0 ∨ (ps.length : Int) ≤ id) : outbox_Box_State (some ⟨b, 0, some 0⟩) id h = some (-1, h) := by
  suffices hh : PO (outbox_Box_State (some ⟨b, 0, some 0⟩) id h) (fun r => r = (-1, h)) by
    obtain ⟨r, e, rfl⟩ := hh; exact e
  unfold outbox_Box_State
  have hl := X.len
  refine PO.join (fun st => st = ((some ⟨b, 0, some 0⟩, (id, true)), h)) ?_ (fun st e => by subst e; exact .condT (.ret rfl))
  refine .condD (fun c => .retL rfl) (fun c => .ptr (.ldL X.ord.box rfl (.retL ?_)))
  rw [decide_eq_true (show id ≥ ((l.len : Nat) : Int) by omega)]
theorem ixPtr (X : BX h0 h b es ps M l) {i : Nat} {p : Option Addr} (hp : ps[i]? = some p) : ∃ a, ixT 1 l (i : Int) = some a ∧ Abs.ldP h a = some p := by
  have hlt := (List.getElem?_eq_some_iff.1 hp).1
  have hl := X.len
  obtain ⟨a, ha, e⟩ := ixT_ok X.buf.rd (i := (i : Int)) (by omega) (by omega)
  refine ⟨_, e, ldP_of ?_⟩
  exact (X.buf.rd.ld a ha ((i : Int).toNat * 1) (.pointer p) (by rw [Int.toNat_natCast, Nat.mul_one, List.getElem?_map, hp]; rfl)).2
theorem State_at (X : BX h0 h b es ps M l) {i q : Nat} (hp : ps[i]? = some (some ⟨q, 0, some 0⟩)) {L : List Value} (B : Box h q L) {s : Int} (hs : L[8]? = some (.int .i64 s)) : outbox_Box_State (some ⟨b, 0, some 0⟩) (i : Int) h = some (s, h) := by
  suffices hh : PO (outbox_Box_State (some ⟨b, 0, some 0⟩) (i : Int) h) (fun r => r = (s, h)) by
    obtain ⟨r, e, rfl⟩ := hh; exact e
  unfold outbox_Box_State
  have hl := X.len
  have hlt := (List.getElem?_eq_some_iff.1 hp).1
  obtain ⟨a, e1, e2⟩ := ixPtr X hp
  refine PO.join (fun st => st = ((some ⟨b, 0, some 0⟩, ((i : Int), false)), h)) ?_ ?_
  · refine .condD (fun c => absurd c (by omega)) (fun c => .ptr (.ldL X.ord.box rfl (.retL ?_)))
    rw [decide_eq_false (show ¬ (i : Int) ≥ ((l.len : Nat) : Int) by omega)]
  · rintro _ rfl
    exact .condF (.ptr (.ldL X.ord.box rfl (.op e1 (.op e2 (.ptr (.ldI B hs (.ret rfl)))))))
/-- a message's row -/
def msgL (id dl bud : Int) (s : Sl) (w0 : Bool) : List Value := [.int .i64 id, .int .i64 dl, .int .i64 1, .int .i64 0, .int .i64 1, encSl s, .int .i64 0, .int .i64 bud, .int .i64 0, .bool w0, .bool false, .bool false, .bool false, .bool false, .bool false, .bool false, .bool false, .int .i64 (-1)]
theorem Submit_bad (X : BX h0 h b es ps M l) {p : Sl} (hp : p.len = 0) (now dl : Int) : outbox_Box_Submit (some ⟨b, 0, some 0⟩) now 0 0 dl p h = some ((0, 1), h) := by
  suffices hh : PO (outbox_Box_Submit (some ⟨b, 0, some 0⟩) now 0 0 dl p h) (fun r => r = ((0, 1), h)) by
    obtain ⟨r, e, rfl⟩ := hh; exact e
  unfold outbox_Box_Submit P.outbox_Box_Submit
  refine PO.join (fun st => st = ((some ⟨b, 0, some 0⟩, (now, (0, (0, (dl, (p, true)))))), h)) (.condT (.retL rfl)) ?_
  rintro _ rfl
  refine PO.join (fun st => st = ((some ⟨b, 0, some 0⟩, (0, (0, (dl, (p, (((p.len : Nat) : Int), true)))))), h)) ?_ (fun st e => by subst e; exact .condT (.ret rfl))
  refine .condF (.condD (fun _ => .retL rfl) (fun _ => .condD (fun _ => .retL rfl) (fun _ => .condD (fun _ => .retL rfl) (fun _ => .condD (fun _ => .retL rfl) (fun _ => .condD (fun _ => .retL rfl) (fun c => absurd (show ((p.len : Nat) : Int) < 1 by omega) c))))))
theorem Submit_ok (X : BX h0 h b es ps M l) {p : Sl} {pv : UInt8} (rp : RdB h p [pv]) {now dl : Int} (hd : now ≤ dl) (hd0 : 0 ≤ dl) (hd2 : dl ≤ 4611686018427387903) (hn : ps.length ≤ 40) :
    PO (outbox_Box_Submit (some ⟨b, 0, some 0⟩) now 0 0 dl p h) (fun (a, h') => if ps.length = 40 then a = (0, 9) ∧ h' = h else a = ((ps.length : Int), 0) ∧ ∃ M' l' q s, BX h0 h' b (putI (ps.length : Int) dl es) (ps ++ [some ⟨q, 0, some 0⟩]) M' l' ∧ Off h0 b M' l' q ∧ Box h' q (msgL (ps.length : Int) dl 0 s true) ∧ h.size ≤ q ∧ ∀ q0, q0 < h.size → Off h0 b M l q0 → Off h0 b M' l' q0 ∧ ∀ L, Box h q0 L → Box h' q0 L) := by
  unfold outbox_Box_Submit P.outbox_Box_Submit
  have hpl : p.len = 1 := by have := RdB.len rp; simpa using this
  have hl := X.len
  refine PO.join (fun st => st = ((some ⟨b, 0, some 0⟩, (now, (0, (0, (dl, (p, true)))))), h)) (.condT (.retL rfl)) ?_
  rintro _ rfl
  refine PO.join (fun st => st = ((some ⟨b, 0, some 0⟩, (0, (0, (dl, (p, (((p.len : Nat) : Int), false)))))), h)) ?_ ?_
  · refine .condF (.condD (fun c => absurd c (by decide)) (fun _ => .condD (fun c => absurd c (by decide)) (fun _ => .condD (fun c => absurd c (by omega)) (fun _ => .condD (fun c => absurd c (by omega)) (fun _ => .condD (fun c => absurd c (by omega)) (fun c => .retL ?_))))))
    rw [decide_eq_false (show ¬ ((p.len : Nat) : Int) > 600 by omega)]
  rintro _ rfl
  refine .condF (.ptr (.ldL X.ord.box rfl ?_))
  refine .condE (fun c => ?_) (fun c => ?_)
  · have c' : ((l.len : Nat) : Int) = 40 := c
    refine .ret ?_
    show (if _ then _ else _)
    rw [if_pos (by omega)]; exact ⟨rfl, rfl⟩
  have c' : ¬ ((l.len : Nat) : Int) = 40 := c
  refine PO.mono (P := fun r => r.1 = ((ps.length : Int), 0) ∧ ∃ M' l' q s, BX h0 r.2 b (putI (ps.length : Int) dl es) (ps ++ [some ⟨q, 0, some 0⟩]) M' l' ∧ Off h0 b M' l' q ∧ Box r.2 q (msgL (ps.length : Int) dl 0 s true) ∧ h.size ≤ q ∧ ∀ q0, q0 < h.size → Off h0 b M l q0 → Off h0 b M' l' q0 ∧ ∀ L, Box h q0 L → Box r.2 q0 L) ?_ (fun r hr => by
    show (if _ then _ else _)
    rw [if_neg (by omega)]; exact hr)
  rw [hpl]
  refine .ptr (.ldL X.ord.box rfl ?_)
  rw [hl]
  refine PO.call (Of_f X.ex.wf _ _ _) fun hd' h1 ⟨ea, x1⟩ => ?_
  have hof : ofV (ps.length : Int) dl ((1 : Nat) : Int) = ((ps.length : Int), dl, 1, 0, 1) := by
    unfold ofV
    rw [if_pos]
    · rfl
    · exact ⟨by simp only; omega, by simp only; omega, hd0, hd2, by simp only; omega, by simp only; omega, rfl, by simp only; omega, by simp only [hcnt]; omega⟩
  rw [hof] at ea
  subst ea
  obtain ⟨s2, h2, e2, x2, b2, _, _⟩ := clone_f x1.wf (rp.ex x1) (by simp)
  refine .callE e2 (PO.newB (l := msgL (ps.length : Int) dl 0 s2 false) x2.wf fun h3 x3 B3 z3 w3 => ?_)
  have X3 := ((X.step x1).step x2).step x3
  have F3 : Off h0 b M l h2.size := ((X.step x1).step x2).off (Nat.le_refl _)
  have hq : h.size ≤ h2.size := Nat.le_trans x1.size x2.size
  refine PO.join (fun st => ∃ h4, st = ((some ⟨b, 0, some 0⟩, (dl, ((ps.length : Int), some ⟨h2.size, 0, some 0⟩))), h4) ∧ BX h0 h4 b es ps M l ∧ Box h4 h2.size (msgL (ps.length : Int) dl 0 s2 true) ∧ UP (· = h2.size) h3 h4) ?_ ?_
  · refine .op (B3.ldI (i := 2) rfl) ?_
    refine PO.loop1 ?_
    unfold P.outbox_Box_Submit_l1
    refine .condD (fun _ => .ptr (PO.ixA (by omega) (by omega) (PO.st1 (i := 9) B3 w3 (Nat.le_of_ble_eq_true rfl) rfl fun h4 B4 u4 z4 w4 => .retL ?_))) (fun c => absurd (show (0 : Int) < 1 by decide) c)
    have B4' : Box h4 h2.size (msgL (ps.length : Int) dl 0 s2 true) := B4
    have X4 := X3.upq F3 u4
    refine PO.loop1 ?_
    refine .condD (fun c => absurd c (by decide)) (fun _ => .retR ?_)
    exact ⟨h4, rfl, X4, B4', u4⟩
  rintro _ ⟨h4, rfl, X4, B4, u4⟩
  dsimp only
  refine .ptr (.ldL X4.ord.box rfl ?_)
  refine PO.newB X4.ex.wf fun h5 x5 B5 z5 w5 => ?_
  have X5 := X4.step x5
  have r5 : Rd 1 h5 ⟨some ⟨h4.size, 0, some 0⟩, 1, 1⟩ [.pointer (some ⟨h2.size, 0, some 0⟩)] := B5.rd w5 rfl (by unfold CapOK; rw [capK_exact (by unfold B63; omega)]; exact Nat.le_refl _)
  obtain ⟨l', h6, e6, k6, x6, b6, n6, f6⟩ := appT_ok (e := 47) (bytes := 8) (by omega) (by unfold B63; omega) w5 X5.buf r5 rfl (by simp only; omega) (by simp only; omega)
  have u6 := up_app e6 k6
  have g6 := appT_base e6
  have b6' : Buf 1 h6 l' ((ps ++ [some (⟨h2.size, 0, some 0⟩ : Addr)]).map .pointer) := by rw [List.map_append]; exact b6
  have O6 : OrdX h6 b M es [encSl l, encSl ⟨none, 0, 0⟩] := X5.ord.up X5.ex.wf u6 (by rintro ⟨a, ha, e⟩; exact (X5.sep a ha).2.1 e) (by rintro r hr ⟨a, ha, e⟩; exact (X5.sep a ha).2.2 (by rw [hr, e]))
  have E6 : EX h0 h6 := u6.ex0 X5.ex (by rintro A hA ⟨a, ha, e⟩; have := (X5.sep a ha).1; omega)
  have B6 : Box h6 h2.size (msgL (ps.length : Int) dl 0 s2 true) := (Box.kx x5 B4).up w5 u6 (by rintro ⟨a, ha, e⟩; exact F3.nl a ha e)
  have sep6 : ∀ a, l'.base = some a → h0.size ≤ a.block ∧ a.block ≠ b ∧ M ≠ some a.block ∧ a.block ≠ h2.size := by
    intro a ha
    have hb5 := X5.blt
    have hs2 : h2.size < h5.size := by have := (Box.kx x5 B4).blt; omega
    rcases g6 a ha with hg | ⟨a0, h1', h2'⟩
    · refine ⟨Nat.le_trans X5.ex.size hg, by omega, fun e => ?_, by omega⟩
      have := X5.mlt _ e; omega
    · have hs := X5.sep a0 h1'
      rw [← h2']
      exact ⟨hs.1, hs.2.1, hs.2.2, F3.nl a0 h1'⟩
  refine .callE e6 (.ptr (PO.st1 (i := 1) O6.box k6.wf (by simp) rfl fun h7 B7 u7 z7 w7 => .ptr ?_))
  have O7 : OrdX h7 b M es [encSl l', encSl ⟨none, 0, 0⟩] := ⟨B7, O6.map.up u7 (fun r hr e => O6.ne (by rw [hr, e])), O6.ne⟩
  have b7 : Buf 1 h7 l' ((ps ++ [some (⟨h2.size, 0, some 0⟩ : Addr)]).map .pointer) := Buf.up k6.wf b6' u7 (fun a ha e => (sep6 a ha).2.1 e)
  have B7' : Box h7 h2.size (msgL (ps.length : Int) dl 0 s2 true) := Box.ku u7 (fun e => F3.nb e) B6
  have E7 : EX h0 h7 := u7.ex0 E6 (fun A hA e => by have := X.lo; omega)
  refine PO.call (OPutX_f w7 O7 dl (ps.length : Int)) fun _ h8 ⟨M', O8, u8, hM⟩ => ?_
  have hb7 := O7.box.blt
  have hl7 := buf_lt w7 b7
  refine .ret ⟨rfl, M', l', h2.size, s2, ⟨u8.ex0 E7 (fun A hA e => ?_), X.lo, O8, fun r hr => ?_, Buf.up w7 b7 u8 (fun a ha e => ?_), fun a ha => ⟨(sep6 a ha).1, (sep6 a ha).2.1, fun e => ?_⟩⟩, ⟨F3.lo, F3.nb, fun e => ?_, fun a ha => (sep6 a ha).2.2.2⟩, B7'.up w7 u8 (fun e => ?_), hq, fun q0 hq0 F0 => ⟨⟨F0.lo, F0.nb, fun e => ?_, fun a ha e => ?_⟩, fun L0 B0 => ?_⟩⟩
  · rcases e with e | e
    · have := X.lo; omega
    · have := X.mlo A e; omega
  · rcases hM with hM | ⟨r', hM, hr'⟩
    · exact X.mlo r (by rw [← hM]; exact hr)
    · rw [hM] at hr; cases hr; exact Nat.le_trans E7.size hr'
  · rcases e with e | e
    · exact (sep6 a ha).2.1 e
    · exact (sep6 a ha).2.2.1 e
  · rcases hM with hM | ⟨r', hM, hr'⟩
    · exact (sep6 a ha).2.2.1 (by rw [← hM]; exact e)
    · rw [hM] at e; cases e; have := hl7 a ha; omega
  · rcases hM with hM | ⟨r', hM, hr'⟩
    · exact F3.nm (by rw [← hM]; exact e)
    · rw [hM] at e; cases e; have := B7'.blt; omega
  · rcases e with e | e
    · exact F3.nb e
    · exact F3.nm e
  · rcases hM with hM | ⟨r', hM, hr'⟩
    · exact F0.nm (by rw [← hM]; exact e)
    · rw [hM] at e; cases e
      have := (B7'.blt); omega
  · rcases g6 a ha with hg | ⟨a0, h1', h2'⟩
    · have := X5.blt; have := x1.size; have := x2.size; have := x3.size; have := u4.size; have := x5.size; omega
    · exact F0.nl a0 h1' (by rw [h2']; exact e)
  · have C3 := ((B0.kx x1).kx x2).kx x3
    have C5 := (C3.up w3 u4 (by omega)).kx x5
    have C6 := C5.up w5 u6 (by rintro ⟨a, ha, e⟩; exact F0.nl a ha e)
    have C7 := C6.up k6.wf u7 (fun e => F0.nb e)
    exact C7.up w7 u8 (fun e => by
      rcases e with e | e
      · exact F0.nb e
      · exact F0.nm e)
end
end Go.Proofs.YtlikepnpamejmaaGreat.T
-- SEAT c
/- A new connection over the typed texts, and what chapter 21's box asks of it. -/
set_option linter.unusedVariables false
set_option linter.unusedSimpArgs false
set_option maxRecDepth 100000
namespace Go.Abs
open Go
theorem nw_map {h : H} {B : Nat} (w : WF h) (hB : B < h.size) (hn : h.objs.get B = none) : NW B h (newAt h B (.map [])) := by
  refine ⟨⟨Nat.le_refl _, rfl, ⟨w.nro, fun A hA => ?_, fun A r hr => ?_⟩, fun A hA hne => by rw [newAt_get, if_neg hne], rfl⟩, hn, rfl⟩
  · have hA' : h.size ≤ A := hA
    rw [newAt_get, if_neg (by omega)]; exact w.top A hA'
  · rw [newAt_get] at hr
    split at hr
    · cases hr
    · exact w.arr A r hr
theorem PO.addNewM {α : Type} {Q : α → Prop} {h : H} {f : H → Option α} {mask n0 i : Nat} {cs : List (Nat × AObj)} (w : WF h) (hm : mask.testBit i = true) (hn : h.objs.get (n0 + i) = none) (hB : n0 + i < h.size) (p : ∀ h1, NW (n0 + i) h h1 → PO (letH (addP mask n0 cs h1) f) Q) : PO (letH (addP mask n0 ((i, .map []) :: cs) h) f) Q := by
  rw [addP_new hm hn]
  exact p _ (nw_map w hB hn)
end Go.Abs
namespace Go.Proofs.YtlikepnpamejmaaGreat.T
open Go Go.Abs Go.Proofs
open TC (cmpI ordL before)
def nSl : Sl := ⟨none, 0, 0⟩
def pathL : List Value := [.int .i64 0, .int .i64 0, .int .i64 0, .bool false, encSl nSl, .int .i64 0, .int .i64 0, .int .i64 4, .int .i64 32, .int .i64 0, .int .i64 0]
theorem path_New_f {h : H} (w : WF h) : PO (path_New h) (fun (a, h1) => EX h h1 ∧ ∃ q, a = some ⟨q, 0, some 0⟩ ∧ Box h1 q pathL) := by
  unfold path_New P.path_New
  refine PO.call (P := fun r => r.1 = (4, 32, 0, 0) ∧ EX h r.2) ?_ ?_
  · unfold cong_New
    refine PO.newB w fun h1 x1 B1 z1 w1 => PO.stZ (zs := [.int .i64, .int .i64, .int .i64, .int .i64]) (x := ((4, 32, 0, 0) : Int × Int × Int × Int)) B1 w1 rfl rfl fun h2 B2 u2 z2 w2 => .op (B2.ldZ [.int .i64, .int .i64, .int .i64, .int .i64] ((4, 32, 0, 0) : Int × Int × Int × Int) rfl) (.ret ⟨rfl, u2.ex0 x1 (fun A hA e => by omega)⟩)
  · rintro ⟨a1, a2, a3, a4⟩ h1 ⟨e, x1⟩
    simp only [Prod.mk.injEq] at e
    obtain ⟨rfl, rfl, rfl, rfl⟩ := e
    exact PO.newB (l := pathL) x1.wf fun h2 x2 B2 z2 w2 => .ret ⟨x1.trans x2, _, rfl, B2⟩
theorem acks_New_f {h : H} (w : WF h) : PO (acks_New h) (fun (a, h1) => EX h h1) := by
  unfold acks_New
  exact PO.newB w fun h1 x1 B1 z1 w1 => .ret x1
theorem Grant_f {h : H} (w : WF h) (n : Int) (h1 : 1 ≤ n) (h2 : n ≤ 1048576) : PO (credit_NewGrant n h) (fun (a, h1) => a = (n, 0, n) ∧ EX h h1) := by
  unfold credit_NewGrant
  refine PO.newB w fun g1 x1 B1 z1 w1 => .letO ?_
  have e : (if (if (1048576 : Int) < n then 1048576 else n) > 1 then (if (1048576 : Int) < n then 1048576 else n) else 1) = n := by
    split <;> (split at * <;> omega)
  rw [e]
  exact PO.stZ (zs := [.int .i64, .int .i64, .int .i64]) (x := ((n, 0, n) : Int × Int × Int)) B1 w1 rfl rfl fun g2 B2 u2 z2 w2 => .op (B2.ldZ [.int .i64, .int .i64, .int .i64] ((n, 0, n) : Int × Int × Int) rfl) (.ret ⟨rfl, u2.ex0 x1 (fun A hA e => by omega)⟩)
theorem table_New_f {h : H} (w : WF h) : PO (table_New 0 h) (fun (a, h1) => EX h h1) := by
  unfold table_New P.table_New
  refine .letO ?_
  refine PO.newM w fun h1 x1 _ z1 => PO.newM x1.wf fun h2 x2 _ z2 => PO.newB x2.wf fun h3 x3 B3 z3 w3 => ?_
  have X3 := (x1.trans x2).trans x3
  have hlo : h.size ≤ h2.size := (x1.trans x2).size
  refine PO.joinD (PO.loop (fun n s => ∃ (k : Nat) (h' : H) (L : List Value), s = ((some ⟨h2.size, 0, some 0⟩, (k : Int)), h') ∧ n + k = 2 ∧ EX h h' ∧ Box h' h2.size L ∧ L.length = 13) ?_ 2 _ ⟨0, h3, _, rfl, rfl, X3, B3, rfl⟩)
  rintro n _ ⟨k, h', L, rfl, hn, xx, B, hL⟩
  unfold P.table_New_l1
  refine .condD (fun c => ?_) (fun c => .retR (show PO (some (some (⟨h2.size, 0, some 0⟩ : Addr), h')) _ from .ret xx))
  refine .ptr (PO.ixA (by omega) (by omega) ?_)
  rw [Int.toNat_natCast]
  have a1 : add (add (add (⟨h2.size, 0, some 0⟩ : Addr) 1) (k * 2)) 0 = add ⟨h2.size, 0, some 0⟩ (1 + k * 2) := by simp [add]
  rw [a1]
  refine PO.st1 B xx.wf (by omega) rfl fun h4 B4 u4 z4 w4 => ?_
  have x4 : EX h h4 := u4.ex0 xx (fun A hA e => by omega)
  refine PO.call (Grant_f w4 6 (by decide) (by decide)) fun g h5 ⟨eg, x5⟩ => ?_
  subst eg
  refine .ptr (PO.ixA (by omega) (by omega) ?_)
  rw [Int.toNat_natCast]
  have a2 : add (add (⟨h2.size, 0, some 0⟩ : Addr) 5) (k * 3) = add ⟨h2.size, 0, some 0⟩ (5 + k * 3) := by simp [add]
  rw [a2]
  obtain ⟨h6, e6, B6, u6, _⟩ := (B4.kx x5).stZat x5.wf (5 + k * 3) [.int .i64, .int .i64, .int .i64] ((6, 0, 6) : Int × Int × Int) (by simp; omega) rfl
  refine .op e6 (.retL ⟨n - 1, by omega, k + 1, h6, _, ?_, by omega, u6.ex0 (x4.trans x5) (fun A hA e => by omega), B6, by have he : (encL [.int .i64, .int .i64, .int .i64] ((6, 0, 6) : Int × Int × Int)).length = 3 := rfl; simp only [List.length_append, List.length_take, List.length_drop, List.length_set, he, List.length_cons, List.length_nil]; omega⟩)
  rw [w64 (n := (k : Int) + 1) (by omega) (by omega)]; rfl
/-- the cells of a connection that the box's calls read -/
def cOK (L : List Value) : Prop := L.length = 36 ∧ L[21]? = some (encSl nSl) ∧ L[22]? = some (encSl nSl) ∧ L[25]? = some (encSl nSl) ∧ L[26]? = some (encSl nSl) ∧ L[34]? = some (.bool false)
theorem conn_New_f {h : H} (w : WF h) : PO (conn_New 0 7 0 h) (fun (a, h1) => EX h h1 ∧ ∃ c L, a = some ⟨c, 0, some 0⟩ ∧ h.size ≤ c ∧ cOK L ∧ Box h1 c L) := by
  unfold conn_New P.conn_New
  refine .letO ?_
  rw [show (if (if (1 : Int) < 0 then (1 : Int) else 0) > 0 then (if (1 : Int) < 0 then (1 : Int) else 0) else 0) = 0 by decide]
  have hnz := w.nro
  refine PO.letGrow w fun g0 y0 z0 w0 n0 => ?_
  refine PO.call (path_New_f w0) fun a h1 ⟨x1, q, ea, B1⟩ => ?_
  have ea' : a = some ⟨q, 0, some 0⟩ := ea
  subst ea'
  have ld : ∀ {h' : H}, EX h1 h' → Abs.ldZ [.int .i64, .int .i64, .int .i64, .bool, .sl, .int .i64, .int .i64, .int .i64, .int .i64, .int .i64, .int .i64] h' ⟨q, 0, some 0⟩ = some ((0, 0, 0, false, nSl, 0, 0, 4, 32, 0, 0) : Int × Int × Int × Bool × Sl × Int × Int × Int × Int × Int × Int) := fun x => (B1.kx x).ldZ [.int .i64, .int .i64, .int .i64, .bool, .sl, .int .i64, .int .i64, .int .i64, .int .i64, .int .i64, .int .i64] ((0, 0, 0, false, nSl, 0, 0, 4, 32, 0, 0) : Int × Int × Int × Bool × Sl × Int × Int × Int × Int × Int × Int) rfl
  refine .ptr (.op (ld (EX.refl x1.wf)) ?_)
  refine PO.call (acks_New_f x1.wf) fun a2 h2 x2 => ?_
  have x2' : EX h1 h2 := x2
  refine PO.call (table_New_f x2'.wf) fun a3 h3 x3 => ?_
  have x3' : EX h2 h3 := x3
  refine .callE (Step_f 7 _ (by omega) (by omega) _) (.callE (Step_f 7 _ (by omega) (by omega) _) ?_)
  refine PO.call (Grant_f x3'.wf 1000 (by decide) (by decide)) fun g h6 ⟨eg, x6⟩ => ?_
  subst eg
  have x16 := (x2'.trans x3').trans x6
  refine .addOff (by decide) (.addOff (by decide) (.addOff (by decide) (.addNil (.op (ld x16) (PO.chkV rfl ?_)))))
  refine .addOff (by decide) (.addOff (by decide) (.addOff (by decide) (.addNil (.op (ld (x2'.trans x3')) (PO.chkV rfl ?_)))))
  refine .addOff (by decide) (.addOff (by decide) (.addOff (by decide) (.addNil (.op (ld (x2'.trans x3')) (PO.chkV rfl ?_)))))
  refine .addOff (by decide) (.addOff (by decide) (.addOff (by decide) (.addNil (.op (ld (x2'.trans x3')) (PO.chkV rfl ?_)))))
  refine .addOff (by decide) (.addOff (by decide) (.addOff (by decide) (.addNil (.op (ld x2') (PO.chkV rfl ?_)))))
  have X6 := x1.trans x16
  have hs6 := X6.size
  have non : ∀ i, i < 24 → h6.objs.get (h.size + i) = none := fun i hi => X6.nn (by omega) (n0 i hi)
  refine PO.addNewM X6.wf (by decide) (non 17 (by omega)) (by omega) fun h7 N7 => ?_
  refine PO.addNewM N7.wf (by decide) (N7.nn (by omega) (by omega) (non 19 (by omega))) (by have := N7.size; omega) fun h8 N8 => ?_
  refine PO.addNew N8.wf (by decide) (N8.nn (by have := N7.size; omega) (by omega) (N7.nn (by omega) (by omega) (non 22 (by omega)))) (by have := N7.size; have := N8.size; omega) (by rw [N8.up.nro, N7.up.nro, X6.nro, y0.nro]; omega) fun h9 N9 B9 => .addNil (PO.letTick N9.wf fun h10 x10 z10 w10 => .ret ⟨?_, h.size + 22, _, rfl, by omega, ?_, B9.kx x10⟩)
  · exact (N9.ex0 (N8.ex0 (N7.ex0 (y0.trans X6) (by omega)) (by omega)) (by omega)).trans x10
  · exact ⟨rfl, rfl, rfl, rfl, rfl, rfl⟩
/-- a connection apart from whatever lay below h0 -/
structure CX (h0 h : H) (c : Nat) (L : List Value) : Prop where
  lo : h0.size ≤ c
  ok : cOK L
  box : Box h c L
theorem Drop_f' {h0 h : H} {c : Nat} {L : List Value} (w : WF h) (C : CX h0 h c L) (notes : Sl) : PO (conn_Conn_Drop (some ⟨c, 0, some 0⟩) notes h) (fun (a, h1) => CX h0 h1 c L ∧ UP (· = c) h h1) := by
  unfold conn_Conn_Drop P.conn_Conn_Drop
  obtain ⟨k0, k1, k2, k3, k4, k5⟩ := C.ok
  refine .ptr (.ldB C.box k5 (.condF (.ptr ?_)))
  suffices hh : PO (queue_Queue_Drop (some (add ⟨c, 0, some 0⟩ 22)) notes h) (fun (a, h1) => CX h0 h1 c L ∧ UP (· = c) h h1) from PO.call hh fun a h1 hp => .ret hp
  unfold queue_Queue_Drop P.queue_Queue_Drop
  refine PO.newB w fun h1 x1 B1 z1 w1 => ?_
  have C1 := C.box.kx x1
  have hc := C.box.blt
  have ha : add (add (⟨c, 0, some 0⟩ : Addr) 22) 0 = add ⟨c, 0, some 0⟩ 22 := rfl
  refine .ptr ?_
  rw [ha]
  refine .ldL C1 k2 (.ptr ?_)
  rw [ha]
  refine .ldL C1 k2 ?_
  refine PO.callE (a := nSl) (h1 := h1) ?_ (.ptr ?_)
  · suffices hh : PO (slices_DeleteFunc_queue_Item_queue_Item_queue_Queue_Drop_1 nSl (some ⟨h.size, 0, some 0⟩) h1) (fun r => r = (nSl, h1)) by
      obtain ⟨r, e, rfl⟩ := hh; exact e
    unfold slices_DeleteFunc_queue_Item_queue_Item_queue_Queue_Drop_1 P.slices_DeleteFunc_queue_Item_queue_Item_queue_Queue_Drop_1
    refine PO.callE (a := -1) (h1 := h1) ?_ (.condE (fun _ => .ret rfl) (fun c => absurd rfl c))
    suffices hh : PO (slices_IndexFunc_queue_Item_queue_Item_queue_Queue_Drop_1 nSl (some ⟨h.size, 0, some 0⟩) h1) (fun r => r = (-1, h1)) by
      obtain ⟨r, e, rfl⟩ := hh; exact e
    unfold slices_IndexFunc_queue_Item_queue_Item_queue_Queue_Drop_1 P.slices_IndexFunc_queue_Item_queue_Item_queue_Queue_Drop_1
    refine PO.loop1 ?_
    unfold P.slices_IndexFunc_queue_Item_queue_Item_queue_Queue_Drop_1_l1
    exact .condD (fun c => absurd c (by decide)) (fun _ => .retR rfl)
  rw [ha]
  refine PO.st1 C1 w1 (by omega) rfl fun h2 B2 u2 z2 w2 => .ptr ?_
  have hset : L.set 22 (encSl nSl) = L := by
    obtain ⟨hlt, hv⟩ := List.getElem?_eq_some_iff.1 k2
    rw [← hv]; exact List.set_getElem_self hlt
  have B2' : Box h2 c L := by rw [← hset]; exact B2
  rw [ha]
  exact .ldL B2' k2 (.ret ⟨⟨C.lo, C.ok, B2'⟩, x1.trans_up u2⟩)
theorem Notes_f' {h0 h : H} {c : Nat} {L : List Value} (w : WF h) (C : CX h0 h c L) : PO (conn_Conn_Notes (some ⟨c, 0, some 0⟩) h) (fun (a, h1) => a.2.len = 0 ∧ CX h0 h1 c L ∧ UP (· = c) h h1) := by
  unfold conn_Conn_Notes P.conn_Conn_Notes
  obtain ⟨k0, k1, k2, k3, k4, k5⟩ := C.ok
  have rn : RdI .i64 h nSl [] := rd_nil 1 h
  obtain ⟨s1, e1, _, l1, _⟩ := clipR_I rn (by simp)
  refine .ptr (.ldL C.box k3 (.callE e1 (.ptr (.ldL C.box k4 (.callE e1 ?_)))))
  refine .ldL C.box k4 (.chk (slEq_self _) (.ptr ?_))
  refine PO.st1 C.box w (by omega) rfl fun h2 B2 u2 z2 w2 => .ptr (PO.st1 B2 w2 (by simp; omega) rfl fun h3 B3 u3 z3 w3 => .ret ⟨l1, ⟨C.lo, C.ok, ?_⟩, u2.trans u3 (fun A _ e => e)⟩)
  have hs : ∀ k, L[k]? = some (encSl nSl) → L.set k (encSl nSl) = L := fun k hk => by
    obtain ⟨hlt, hv⟩ := List.getElem?_eq_some_iff.1 hk
    rw [← hv]; exact List.set_getElem_self hlt
  have e : (L.set 25 (encSl nSl)).set 26 (encSl nSl) = L := by rw [hs 25 k3, hs 26 k4]
  rw [← e]; exact B3
theorem Control_f' {h0 h : H} {c : Nat} {L : List Value} (w : WF h) (C : CX h0 h c L) (id : Int) (hid : okN id) : PO (conn_Conn_Control (some ⟨c, 0, some 0⟩) 11 id h) (fun (a, h1) => UP (· = c) h h1) := by
  unfold conn_Conn_Control P.conn_Conn_Control
  obtain ⟨k0, k1, k2, k3, k4, k5⟩ := C.ok
  have hc := C.box.blt
  unfold okN at hid
  have hmay : conn_may id h = some (true, h) := by
    unfold conn_may
    rw [decide_eq_true (show id ≥ 0 from hid.1), decide_eq_true hid.2]; rfl
  refine .ptr (.ldB C.box k5 (.condF ?_))
  refine PO.join (fun st => st = ((some ⟨c, 0, some 0⟩, (11, (id, false))), h)) ?_ ?_
  · exact .condT (.condF (.callE hmay (.retL rfl)))
  rintro _ rfl
  refine .condF (.ptr (.ldL C.box k1 ?_))
  refine PO.newB w fun h1 x1 B1 z1 w1 => ?_
  have r1 : Rd 9 h1 ⟨some ⟨h.size, 0, some 0⟩, 1, 1⟩ [.int .i64 11, .int .i64 id, .int .i64 0, .int .i64 0, .int .i64 0, .int .i64 0, .bool false, .slice none 0 0, .slice none 0 0] := B1.rd w1 rfl (by unfold CapOK; rw [capK_exact (by unfold B63; omega)]; exact Nat.le_refl _)
  obtain ⟨s', h2, e2, k2', x2, b2, _, f2⟩ := appT_ok (e := 143) (bytes := 104) (by omega) (by unfold B63; omega) w1 (buf_nil 9 h1) r1 rfl (by simp only; omega) (by simp only; omega)
  have x02 : EX h h2 := x2 h x1 (fr_nil _)
  refine .callE e2 (.ptr (PO.st1 (C.box.kx x02) x02.wf (by omega) rfl fun h3 B3 u3 z3 w3 => .ret (x02.trans_up u3)))
theorem onotes_f {h : H} (w : WF h) (id : Int) (hid : 0 ≤ id ∧ id ≤ 1000) : PO (outbox_notes id h) (fun (s, h1) => EX h h1) := by
  unfold outbox_notes
  refine PO.joinD (PO.loop (fun m st => ∃ (i : Nat) (out : Sl) (zs : List Int) (h' : H), st = ((id, (out, (i : Int))), h') ∧ m + i = 8 ∧ EX h h' ∧ Fr h.size out ∧ Buf 1 h' out (zs.map (.int .i64)) ∧ zs.length = i) ?_ 8 _ ⟨0, nSl, [], h, rfl, rfl, EX.refl w, fr_nil _, buf_nil 1 h, rfl⟩)
  rintro m st ⟨i, out, zs, h', rfl, hm, hx, hf, hb, hz⟩
  unfold outbox_notes_l1
  refine .condD (fun c => ?_) (fun c => .retR (show PO (some (out, h')) _ from .ret hx))
  refine PO.newB hx.wf fun h1 x1 B1 z1 w1 => ?_
  have r1 : RdI .i64 h1 ⟨some ⟨h'.size, 0, some 0⟩, 1, 1⟩ [IntKind.wrap .i64 (IntKind.wrap .i64 (8 * id) + (i : Int))] := rdI_of B1 w1 rfl rfl (by unfold B63; omega)
  refine PO.appI (hb.ex hx.wf x1) (hx.trans x1) hf r1 (by simp; omega) fun out1 h2 b2 x2 f2 k2 => .retL ⟨m - 1, by omega, i + 1, out1, _, h2, ?_, by omega, x2, f2, b2, by simp; omega⟩
  rw [w64 (n := (i : Int) + 1) (by omega) (by omega)]; rfl
end Go.Proofs.YtlikepnpamejmaaGreat.T
-- SEAT c
/- Chapter 21's example over the typed texts: a message that expires. -/
set_option linter.unusedVariables false
set_option linter.unusedSimpArgs false
set_option maxRecDepth 100000
namespace Go.Proofs.YtlikepnpamejmaaGreat.T
open Go Go.Abs Go.Proofs
open TC (cmpI ordL before)
abbrev Ev4 := Int × Int × Int × ByteArray
abbrev zE : List Z := [.int .i64, .int .i64, .int .i64, .str]
def evL (x : Ev4) : List Value := [.int .i64 x.1, .int .i64 x.2.1, .int .i64 x.2.2.1, .string x.2.2.2]
section
variable {h0 h h' : H} {b : Nat} {es : List (Int × Int)} {ps : List (Option Addr)} {M : Option Nat} {l : Sl}
theorem BX.drop {es' : List (Int × Int)} (X : BX h0 h b es ps M l) (O : OrdX h' b M es' [encSl l, encSl ⟨none, 0, 0⟩]) (u : UP (fun A => M = some A) h h') : BX h0 h' b es' ps M l :=
  ⟨u.ex0 X.ex (fun A hA e => by have := X.mlo A e; omega), X.lo, O, X.mlo, Buf.up X.ex.wf X.buf u (fun a ha e => (X.sep a ha).2.2 e), X.sep⟩
theorem End_f (X : BX h0 h b es ps M l) {i q : Nat} (hp : ps[i]? = some (some ⟨q, 0, some 0⟩)) (F : Off h0 b M l q) {mL : List Value} (B : Box h q mL) (hm : mL.length = 18) (he : es.length ≤ 2 ^ 40) (now st : Int) {x : Nat} (Fx : Off h0 b M l x) (hxq : x ≠ q) {xL : List Value} (D : Box h x xL) :
    PO (outbox_Box_end (some ⟨b, 0, some 0⟩) now (i : Int) st h) (fun (a, h1) => a = (st, (i : Int), now, ⟨#[]⟩) ∧ BX h0 h1 b (dropsI [(i : Int)] es) ps M l ∧ Box h1 q (mL.set 8 (.int .i64 st)) ∧ Box h1 x xL) := by
  unfold outbox_Box_end P.outbox_Box_end
  have w := X.ex.wf
  refine PO.newB w fun h1 x1 B1 z1 w1 => ?_
  have X1 := X.step x1
  have F1 := X.off (Nat.le_refl _)
  obtain ⟨a, e1, e2⟩ := ixPtr X1 hp
  refine .ptr (.ldL X1.ord.box rfl (.op e1 (.op e2 (.ptr ?_))))
  refine PO.st1 (B.kx x1) w1 (by omega) rfl fun h2 B2 u2 z2 w2 => .ptr ?_
  have X2 := X1.upq F u2
  have hqs := B.blt
  have B1' : Box h2 h.size (evL (0, 0, 0, ⟨#[]⟩)) := B1.up w1 u2 (by omega)
  refine PO.newB w2 fun h3 x3 B3 z3 w3 => ?_
  have X3 := X2.step x3
  have r3 : RdI .i64 h3 ⟨some ⟨h2.size, 0, some 0⟩, 1, 1⟩ [(i : Int)] := rdI_of B3 w3 rfl rfl (by unfold B63; omega)
  refine PO.call (ODropX_f w3 X3.ord (by omega) r3 (by simp)) fun d h4 ⟨_, O4, u4⟩ => ?_
  have X4 := X3.drop O4 u4
  have hxs := D.blt
  have D4 : Box h4 x xL := (((D.kx x1).up w1 u2 hxq).kx x3).up w3 u4 (fun e => Fx.nm e)
  have B4 : Box h4 h.size (evL (0, 0, 0, ⟨#[]⟩)) := (B1'.kx x3).up w3 u4 (fun e => F1.nm e)
  have C4 : Box h4 q (mL.set 8 (.int .i64 st)) := (B2.kx x3).up w3 u4 (fun e => F.nm e)
  refine PO.stZ (zs := zE) (x := ((st, (i : Int), now, ⟨#[]⟩) : Ev4)) B4 X4.ex.wf rfl rfl fun h5 B5 u5 z5 w5 => ?_
  exact .op (B5.ldZ zE ((st, (i : Int), now, ⟨#[]⟩) : Ev4) rfl) (.ret ⟨rfl, X4.upq F1 u5, C4.up X4.ex.wf u5 (by omega), D4.up X4.ex.wf u5 (by omega)⟩)
theorem Expires_f (X : BX h0 h b es ps M l) {i q : Nat} (hp : ps[i]? = some (some ⟨q, 0, some 0⟩)) (F : Off h0 b M l q) {id dl bud : Int} {s : Sl} {w0 : Bool} (B : Box h q (msgL id dl bud s w0)) (he : es.length ≤ 2 ^ 40) (hi : i ≤ 1000) (now : Int)
    {c : Nat} {L : List Value} (C : CX h0 h c L) (Fc : Off h0 b M l c) (hcq : c ≠ q) :
    PO (outbox_Box_expires (some ⟨b, 0, some 0⟩) now (i : Int) (some ⟨c, 0, some 0⟩) h) (fun (a, h1) => a = (4, (i : Int), now, ⟨#[]⟩) ∧ BX h0 h1 b (dropsI [(i : Int)] es) ps M l ∧ Box h1 q ((msgL id dl bud s w0).set 8 (.int .i64 4))) := by
  unfold outbox_Box_expires P.outbox_Box_expires
  have w := X.ex.wf
  refine PO.newB w fun h1 x1 B1 z1 w1 => ?_
  have X1 := X.step x1
  have F1 := X.off (Nat.le_refl _)
  have hqs := B.blt
  have hcs := C.box.blt
  obtain ⟨a, e1, e2⟩ := ixPtr X1 hp
  refine .ptr (.ldL X1.ord.box rfl (.op e1 (.op e2 ?_)))
  have C1 : CX h0 h1 c L := ⟨C.lo, C.ok, C.box.kx x1⟩
  refine PO.join (fun st => ∃ h2, st = ((some ⟨b, 0, some 0⟩, (now, ((i : Int), (some ⟨c, 0, some 0⟩, (some ⟨h.size, 0, some 0⟩, some ⟨q, 0, some 0⟩))))), h2) ∧ BX h0 h2 b es ps M l ∧ Box h2 q (msgL id dl bud s w0) ∧ CX h0 h2 c L ∧ Box h2 h.size (evL (0, 0, 0, ⟨#[]⟩))) ?_ ?_
  · refine .ptr (.ldI (B.kx x1) rfl (.condE (fun _ => ?_) (fun hh => absurd rfl hh)))
    refine PO.call (onotes_f w1 (i : Int) (by omega)) fun n h2 x2 => ?_
    have x2' : EX h1 h2 := x2
    have C2 : CX h0 h2 c L := ⟨C.lo, C.ok, C1.box.kx x2'⟩
    refine PO.call (Drop_f' x2'.wf C2 n) fun d h3 ⟨C3, u3⟩ => .retL ⟨h3, rfl, (X1.step x2').upq Fc u3, ((B.kx x1).kx x2').up x2'.wf u3 (fun e => hcq e.symm), C3, (B1.kx x2').up x2'.wf u3 (by omega)⟩
  rintro _ ⟨h2, rfl, X2, B2, C2, E2⟩
  dsimp only
  refine PO.join (fun st => ∃ h3, st = ((some ⟨b, 0, some 0⟩, (now, ((i : Int), some ⟨h.size, 0, some 0⟩))), h3) ∧ BX h0 h3 b es ps M l ∧ Box h3 q (msgL id dl bud s w0) ∧ Box h3 h.size (evL (0, 0, 0, ⟨#[]⟩))) ?_ ?_
  · refine .ptr (.ldI B2 rfl (.condE (fun _ => ?_) (fun hh => absurd rfl hh)))
    refine PO.call (Control_f' X2.ex.wf C2 (i : Int) ⟨by omega, by omega⟩) fun d h3 u3 => .retL ?_
    have u3' : UP (· = c) h2 h3 := u3
    exact ⟨h3, rfl, X2.upq Fc u3', B2.up X2.ex.wf u3' (fun e => hcq e.symm), E2.up X2.ex.wf u3' (by omega)⟩
  rintro _ ⟨h3, rfl, X3, B3, E3⟩
  dsimp only
  have hE3 := E3.blt
  refine PO.call (P := fun r => r.1 = (4, (i : Int), now, ⟨#[]⟩) ∧ BX h0 r.2 b (dropsI [(i : Int)] es) ps M l ∧ Box r.2 q ((msgL id dl bud s w0).set 8 (.int .i64 4)) ∧ Box r.2 h.size (evL (0, 0, 0, ⟨#[]⟩))) ?_ ?_
  · exact End_f X3 hp F B3 rfl he now 4 F1 (by omega) E3
  rintro ⟨y1, y2, y3, y4⟩ h4 ⟨e4, X4, B4, E4⟩
  simp only [Prod.mk.injEq] at e4
  obtain ⟨rfl, rfl, rfl, rfl⟩ := e4
  refine .ptr (PO.stZ (zs := zE) (x := ((4, (i : Int), y3, ⟨#[]⟩) : Ev4)) E4 X4.ex.wf rfl rfl fun h5 B5 u5 z5 w5 => .ptr ?_)
  exact .op (B5.ldZ zE ((4, (i : Int), y3, ⟨#[]⟩) : Ev4) rfl) (.ret ⟨rfl, X4.upq F1 u5, B4.up X4.ex.wf u5 (by omega)⟩)
end
end Go.Proofs.YtlikepnpamejmaaGreat.T
