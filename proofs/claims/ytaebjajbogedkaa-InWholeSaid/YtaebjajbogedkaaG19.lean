/- Lemmas about the typed texts (joined: SIn2 SIn3 SIn4). -/
import Derived.Test.YtaebjajbogedkaaG18
import Derived.Test.YtaebjajbogedkaaG16
import Derived.Test.YtaebjajbogedkaaG5
-- SEAT c
/- Chapter 22's box over the typed texts: pieces of messages of one piece, messages that are away. -/
set_option linter.unusedVariables false
set_option linter.unusedSimpArgs false
namespace Go.Abs
open Go
theorem Rd.pm {sz b m : Nat} {h h1 : H} {L : List Value} {es : List (Value × Value)} (w : WF h) (B : Box h b L) (M : MapV h m es) (u : UP (fun A => A = b ∨ A = m) h h1) {s : Sl} {l : List Value} (hd : ∀ v ∈ l, v ∉ L) (r : Rd sz h s l) : Rd sz h1 s l :=
  ⟨r.len, r.nil, fun a ha i v hi => by
    obtain ⟨g1, g2⟩ := r.ld a ha i v hi
    refine ⟨Nat.lt_of_lt_of_le g1 u.size, u.ld (a := add a i) g1 (fun e => ?_) g2⟩
    rcases e with e | e
    · exact hd v (List.mem_of_getElem? hi) (ld_box w B e g2)
    · exact M.neq g2 e, r.cap⟩
abbrev EvT := Int × Int × Int × ByteArray
def evV : List EvT → List Value
  | [] => []
  | e :: l => .int .i64 e.1 :: .int .i64 e.2.1 :: .int .i64 e.2.2.1 :: .string e.2.2.2 :: evV l
theorem evV_length : ∀ l : List EvT, (evV l).length = l.length * 4
  | [] => rfl
  | e :: l => by simp only [evV, List.length_cons, evV_length l]; omega
theorem evV_app : ∀ a b : List EvT, evV (a ++ b) = evV a ++ evV b
  | [], b => rfl
  | e :: a, b => by simp only [List.cons_append, evV, evV_app a b]
theorem evV_oneC : ∀ l : List EvT, (evV l).all oneC = true
  | [] => rfl
  | e :: l => by simp only [evV, List.all_cons, evV_oneC l, oneC, Bool.and_self]
def RdE (h : H) (s : Sl) (l : List EvT) : Prop := Rd 4 h s (evV l)
theorem RdE.len {h : H} {s : Sl} {l : List EvT} (r : RdE h s l) : s.len = l.length := by
  have := Rd.len r; rw [evV_length] at this; omega
theorem PO.ixE0 {α : Type} {Q : α → Prop} {h : H} {s : Sl} {e : EvT} {l : List EvT} {g : Addr → Option α} (r : RdE h s (e :: l))
    (p : ∀ a, Abs.ldZ [.int .i64, .int .i64, .int .i64, .str] h a = some e → Abs.ldI .i64 h (add a 0) = some e.1 → PO (g a) Q) : PO (bindO (ixT 4 s 0) g) Q := by
  obtain ⟨a, ha, e'⟩ := ixT_ok r (i := 0) (by omega) (by have := RdE.len r; simp at this; omega)
  rw [show (0 : Int).toNat * 4 = 0 from rfl, addA_zero] at e'
  have l0 := (Rd.ld r a ha 0 _ rfl).2
  have l1 := (Rd.ld r a ha 1 _ rfl).2
  have l2 := (Rd.ld r a ha 2 _ rfl).2
  have l3 := (Rd.ld r a ha 3 _ rfl).2
  refine .op e' (p a ?_ (ldI_of l0))
  refine ldZ_of (zs := [.int .i64, .int .i64, .int .i64, .str]) (x := e) ?_
  have := ldCells_of (h := h) [Value.int .i64 e.1, .int .i64 e.2.1, .int .i64 e.2.2.1, .string e.2.2.2] a (fun i v hi => by
    match i, hi with
    | 0, hi => cases hi; exact l0
    | 1, hi => cases hi; exact l1
    | 2, hi => cases hi; exact l2
    | 3, hi => cases hi; exact l3)
  exact this
end Go.Abs
namespace Go.Proofs.Ytaebjajbogedkaa.T
open Go Go.Abs Go.Proofs
/-- Add, telling where its new row lies -/
theorem Add_f3 {h : H} (w : WF h) {b : Nat} {s : Sl} {L : List Value} {l : List Run} (B : Box h b (encSl s :: L)) (r : RdR h s l) (hnb : ∀ a, s.base = some a → a.block ≠ b) (hl : l.length ≤ 2 ^ 40) (f t : Int) :
    PO (spans_Set_Add (some ⟨b, 0, some 0⟩) f t h) (fun (_, h') => ∃ s', Box h' b (encSl s' :: L) ∧ RdR h' s' (addS f t l) ∧ (∀ a, s'.base = some a → a.block ≠ b) ∧ ((s' = s ∧ addS f t l = l) ∨ Fr h.size s') ∧ UP (· = b) h h') := by
  unfold spans_Set_Add P.spans_Set_Add
  refine .callE (bring_f _ _) (.callE (bring_f _ _) (.condD (fun c => ?_) (fun c => ?_)))
  · have e : addS f t l = l := by unfold addS; rw [if_neg (by omega)]
    exact .ret ⟨s, B, e.symm ▸ r, hnb, .inl ⟨rfl, e⟩, UP.refl w⟩
  · refine PO.joinD (.ptr ?_)
    refine PO.ldL (i := 0) B rfl (PO.mono (add_loop r hl w) ?_)
    rintro _ ⟨f', t', out, done, o, h2, rfl, b2, e2, x2, f2, l2⟩
    refine PO.join (fun st => ∃ (out' : Sl) (h3 : H), st = ((some ⟨b, 0, some 0⟩, out'), h3) ∧ RdR h3 out' (addS f t l) ∧ EX h h3 ∧ Fr h.size out') ?_ ?_
    · have hv : addS f t l = o ++ (if done then [] else [(f', t')]) := by unfold addS; rw [if_pos (by omega), ← e2]; cases done <;> rfl
      refine .condN (fun cd => ?_) (fun cd => ?_)
      · refine PO.appRg b2 x2 f2 (by omega) fun out1 h3 b3 x3 f3 _ => .retL ⟨out1, h3, rfl, ?_, x3, f3⟩
        rw [hv, cd]; exact b3.rd
      · refine .retL ⟨out, h2, rfl, ?_, x2, f2⟩
        rw [hv, cd]; simpa using b2.rd
    · rintro _ ⟨out', h3, rfl, r3, x3, f3⟩
      have hb := B.blt
      have hne : ∀ a, out'.base = some a → a.block ≠ b := fun a ha e => by have := f3 a ha; omega
      refine .ptr (PO.st1 (i := 0) (B.kx x3) x3.wf (by simp) rfl fun h4 B4 u4 z4 w4 => .ret ⟨out', B4, Rd.up r3 u4 hne, hne, .inr f3, x3.trans_up u4⟩)
/-- a box of messages that come -/
structure InA (h : H) (p m : Nat) (l : List Run) (es : List (Value × Value)) : Prop where
  set : ∃ s m2, Box h p [encSl s, .map (some m), .map (some m2)] ∧ RdR h s l ∧ ∀ a, s.base = some a → a.block ≠ p
  map : MapV h m es
section
variable {h h1 : H} {p m : Nat} {l : List Run} {es : List (Value × Value)}
theorem InA.ex (I : InA h p m l es) (x : EX h h1) : InA h1 p m l es := by
  obtain ⟨s, m2, B, r, n⟩ := I.set
  exact ⟨⟨s, m2, Box.kx x B, r.ex x, n⟩, I.map.ex x⟩
theorem InA.blt (I : InA h p m l es) : p < h.size := let ⟨s, m2, B, r, n⟩ := I.set; B.blt
theorem InA.mlt (I : InA h p m l es) : m < h.size := I.map.lt
theorem InA.ne (I : InA h p m l es) : p ≠ m := let ⟨s, m2, B, r, n⟩ := I.set; I.map.neb B
theorem InA.som (I : InA h p m l es) : h.objs.get p ≠ none := let ⟨s, m2, B, r, n⟩ := I.set; B.ne
theorem InA.nw {b : Nat} (I : InA h p m l es) (N : NW b h h1) : InA h1 p m l es := by
  obtain ⟨s, m2, B, r, n⟩ := I.set
  exact ⟨⟨s, m2, NW.kb N B, NW.kr N r, n⟩, I.map.nw N⟩
/-- another slice is appended to -/
theorem InA.app {s0 : Sl} (I : InA h p m l es) (k : KP h h1) (u : UP (fun A => ∃ a, s0.base = some a ∧ a.block = A) h h1) (hp : ∀ a, s0.base = some a → a.block ≠ p) (hm : ∀ a, s0.base = some a → a.block ≠ m) : InA h1 p m l es := by
  obtain ⟨s, m2, B, r, n⟩ := I.set
  exact ⟨⟨s, m2, Box.ku u (fun ⟨a, ha, e⟩ => hp a ha e) B, r.mono k, n⟩, I.map.up u fun ⟨a, ha, e⟩ => hm a ha e⟩
theorem InA.rdB (w : WF h) (I : InA h p m l es) (u : UP (fun A => A = p ∨ A = m) h h1) {s : Sl} {bs : List UInt8} (r : RdB h s bs) : RdB h1 s bs := by
  obtain ⟨s0, m2, B, _, n⟩ := I.set
  exact RdB.pm w B (by intro v hv k; simp only [List.mem_cons, List.not_mem_nil, or_false, encSl] at hv; rcases hv with rfl | rfl | rfl <;> simp) I.map u r
theorem InA.rdI {k : IntKind} (w : WF h) (I : InA h p m l es) (u : UP (fun A => A = p ∨ A = m) h h1) {s : Sl} {ns : List Int} (r : RdI k h s ns) : RdI k h1 s ns := by
  obtain ⟨s0, m2, B, _, n⟩ := I.set
  refine Rd.pm w B I.map u (fun v hv hL => ?_) r
  obtain ⟨z, _, rfl⟩ := List.mem_map.1 hv
  simp only [List.mem_cons, List.not_mem_nil, or_false, encSl] at hL
  simp at hL
theorem IHas_f (w : WF h) (I : InA h p m l es) (hl : l.length ≤ 2 ^ 42) (n : Int) :
    PO (spans_Set_Has (some ⟨p, 0, some 0⟩) n h) (fun (a, h1) => a = decide (mem l n) ∧ EX h h1) := by
  obtain ⟨s, m2, B, r, hn⟩ := I.set
  exact Has_f (k := 0) w ⟨⟨s, rfl, r, hn⟩, B⟩ hl n
theorem ICount_f (w : WF h) (I : InA h p m l es) (hl : l.length ≤ 2 ^ 40) {e : Int} (hn : Nrm (-1) e l) (he : 0 ≤ e ∧ e ≤ 4611686018427387904) :
    PO (spans_Set_Count (some ⟨p, 0, some 0⟩) h) (fun (a, h1) => a = cntR l ∧ EX h h1) := by
  obtain ⟨s, m2, B, r, hnb⟩ := I.set
  exact Count_f (k := 0) w ⟨⟨s, rfl, r, hnb⟩, B⟩ hl hn he
end
theorem INew_f {h : H} (w : WF h) : PO (inbox_New h) (fun (a, h') => ∃ p m, a = some ⟨p, 0, some 0⟩ ∧ InA h' p m [] [] ∧ EX h h' ∧ h.size ≤ p ∧ h.size ≤ m) := by
  unfold inbox_New
  refine PO.newV w fun h1 x1 M1 z1 => PO.newV x1.wf fun h2 x2 M2 z2 => PO.newB x2.wf fun h3 x3 B3 z3 w3 => .ret ⟨_, _, rfl, ⟨⟨⟨none, 0, 0⟩, _, B3, rd_nil 2 h3, fun a ha => by cases ha⟩, (M1.ex x2).ex x3⟩, (x1.trans x2).trans x3, by omega, by omega⟩
theorem settle_f {h : H} (w : WF h) {p m : Nat} {l : List Run} {es : List (Value × Value)} (I : InA h p m l es) (hl : l.length ≤ 2 ^ 40) {now kind id : Int} (hid : 0 ≤ id ∧ id < 40) (he : es = [] ∨ ∃ v, es = [(.int .i64 id, v)]) {bs : Sl} {x : List UInt8} (r : RdB h bs x) :
    PO (inbox_Box_settle (some ⟨p, 0, some 0⟩) now kind id bs h) (fun (a, h') => a = (kind, id, now, bsOf x) ∧ InA h' p m (addS id (id + 1) l) [] ∧ UP (fun A => A = p ∨ A = m) h h') := by
  unfold inbox_Box_settle P.inbox_Box_settle
  have hpl := I.blt
  have hml := I.mlt
  have hpm := I.ne
  refine PO.newB w fun h0 x0 B0 z0 w0 => .ptr ?_
  obtain ⟨s, m2, B, rs, hn⟩ := I.set
  have rs0 := rs.ex x0
  rw [addA_zero, w64 (n := id + 1) (by omega) (by omega)]
  refine PO.call (Add_f3 w0 (Box.kx x0 B) rs0 hn hl id (id + 1)) fun _ h1 ⟨s', B1, r1, n1, hs', u1⟩ => .ptr (.op (ldM_of (B1.ld (i := 1) rfl)) ?_)
  have M1 : MapV h1 m es := (I.map.ex x0).up u1 fun e => hpm e.symm
  have E1 : Box h1 h.size _ := Box.ku u1 (by omega) B0
  obtain ⟨h2, e2, M2, u2, z2⟩ := delT_e u1.wf M1 id he
  refine .op e2 ?_
  have r2 : RdR h2 s' (addS id (id + 1) l) := Rd.upm M1 u2 r1
  have B2 := Box.ku u2 hpm B1
  have E2 := Box.ku u2 (by omega) E1
  have u02 : UP (fun A => A = p ∨ A = m) h h2 := (x0.trans_up (u1.mono fun A _ e => .inl e)).trans (u2.mono fun A _ e => .inr e) fun A _ e => e
  refine .callE (strT_ok (I.rdB w u02 r)) (PO.stZ E2 u2.wf rfl rfl fun h3 E3 u3 z3 w3 => .ldZ E3 rfl (.ret ⟨rfl, ⟨⟨s', m2, Box.ku u3 (by omega) B2, ?_, n1⟩, M2.up u3 (by omega)⟩, u02.trans u3 fun A hA e => by omega⟩))
  rcases hs' with ⟨rfl, e⟩ | f
  · rw [e] at r2 ⊢
    exact Rd.old u3 rs (Nat.le_refl _) r2
  · exact Rd.up r2 u3 fun a ha e => by have := f a ha; omega
/-- a piece of a message of one piece, in time -/
theorem Piece_f {h : H} (w : WF h) {p m : Nat} {l : List Run} (I : InA h p m l []) (hl : l.length ≤ 2 ^ 40) {now : Int} {s : Sl} {bs : List UInt8} (r : RdB h s bs) (hb : bs.length ≤ 2 ^ 47) {x : Hd} {dt : List UInt8} (hv : readV bs = (x, dt, 0)) (hx : HR x) (h0 : x.2.2.2.1 = 0) (h80 : x.2.2.2.2 ≤ 80) (hd : (dt.length : Int) = x.2.2.2.2) (hnow : now ≤ x.2.1) :
    PO (inbox_Box_Piece (some ⟨p, 0, some 0⟩) now s h) (fun (a, h') => if mem l x.1 then a = ⟨none, 0, 0⟩ ∧ EX h h' else RdE h' a [(1, x.1, now, bsOf dt)] ∧ InA h' p m (addS x.1 (x.1 + 1) l) [] ∧ UP (fun A => A = p ∨ A = m) h h') := by
  unfold inbox_Box_Piece P.inbox_Box_Piece
  obtain ⟨i, d, c, k, z⟩ := x
  simp only at h0 h80 hd hnow
  subst h0
  refine PO.call (Read_f w r hb) fun a h1 ⟨e1, e2, r1, x1⟩ => ?_
  rw [hv] at e1 e2 r1
  obtain ⟨a1, a2, a3⟩ := a
  simp only at e1 e2 r1 x1
  subst e1 e2
  have hid : 0 ≤ i ∧ i < 40 := by unfold HR at hx; simp only at hx; omega
  have hc : c = 1 := by unfold HR hcnt at hx; simp only at hx; omega
  subst hc
  refine PO.newB x1.wf fun h2 x2 B2 z2 w2 => PO.stZ B2 w2 rfl rfl fun h3 B3 u3 z3 w3 => ?_
  have B3' : Box h3 h1.size [.int .i64 i, .int .i64 d, .int .i64 1, .int .i64 0, .int .i64 z] := B3
  have xx3 : EX h h3 := u3.ex0 (x1.trans x2) (fun A hA e => by have := x1.size; omega)
  have xx13 : EX h1 h3 := u3.ex0 x2 (fun A hA e => by omega)
  have I3 := I.ex xx3
  refine PO.join (fun st => ∃ h4, st = ((some ⟨p, 0, some 0⟩, (now, (some ⟨h1.size, 0, some 0⟩, (a2, decide (mem l i))))), h4) ∧ EX h3 h4) ?_ ?_
  · refine .condNE (fun hh => absurd rfl hh) (fun _ => .ptr (.ldI B3' rfl ?_))
    rw [addA_zero]
    exact PO.call (IHas_f w3 I3 (by omega) i) fun a h4 ⟨e, x4⟩ => .retL ⟨h4, by rw [e], x4⟩
  · rintro _ ⟨h4, rfl, x4⟩
    simp only
    refine .condD (fun hm => .ret ?_) (fun hm => ?_)
    · show if mem l i then _ else _
      rw [if_pos hm]; exact ⟨rfl, xx3.trans x4⟩
    suffices key : PO _ (fun (q : Sl × H) => RdE q.2 q.1 [(1, i, now, bsOf dt)] ∧ InA q.2 p m (addS i (i + 1) l) [] ∧ UP (fun A => A = p ∨ A = m) h q.2) by
      refine PO.mono key ?_
      rintro ⟨a, h'⟩ hq
      show if mem l i then _ else _
      rw [if_neg hm]; exact hq
    have B4 := Box.kx x4 B3'
    have I4 := I3.ex x4
    obtain ⟨s4, m24, P4, _, _⟩ := I4.set
    have r4 : RdB h4 a2 dt := RdB.ex (xx13.trans x4) r1
    have xx4 := xx3.trans x4
    refine .ptr (.ldI B4 rfl (.condD (fun hh => absurd hh (by omega)) (fun _ => .ptr (.op (ldM_of (P4.ld (i := 1) rfl)) (.ptr (.ldI B4 rfl (.op (lookOT_e I4.map i) ?_)))))))
    refine PO.join (fun st => ∃ h5 q bb, st = ((some ⟨p, 0, some 0⟩, (now, (some ⟨h1.size, 0, some 0⟩, (a2, some ⟨q, 0, some 0⟩)))), h5) ∧ Box h5 q (whL (encSl ⟨none, 0, 0⟩) (i, d, 1, 0, z) bb) ∧ Box h5 bb (List.replicate z.toNat (.int .u8 0)) ∧ EX h4 h5 ∧ h4.size ≤ q ∧ h4.size ≤ bb ∧ bb ≠ q) ?_ ?_
    · refine .condT (.ptr (.ldZ5 B4 (PO.call (FNew_f x4.wf hx rfl) fun a h5 ⟨q, bb, e, Bq, Bb, x5, g1, g2, g3⟩ => .retL ⟨h5, q, bb, by rw [e], Bq, Bb, x5, g1, g2, g3⟩)))
    · rintro _ ⟨h5, q, bb, rfl, Bq, Bb, x5, g1, g2, g3⟩
      refine .ptr (.ldZ5 (Box.kx x5 B4) ?_)
      refine PO.call (FPut_f x5.wf hx rfl h80 Bq Bb g3 (RdB.ex x5 r4) hd) fun a h6 ⟨e, ⟨v, S6⟩, C6, u6⟩ => ?_
      subst e
      have x46 : EX h4 h6 := u6.ex0 x5 (fun A hA e => by omega)
      have I6 := I4.ex x46
      have B6 := Box.kx x46 B4
      obtain ⟨s6, m26, P6, _, _⟩ := I6.set
      refine .condF (.ptr (.op (ldM_of (P6.ld (i := 1) rfl)) (.ptr (.ldI B6 rfl ?_))))
      obtain ⟨h7, e7, M7, u7, z7⟩ := updT_e u6.wf I6.map i (some ⟨q, 0, some 0⟩)
      refine .op e7 ?_
      have hpm := I6.ne
      have I7 : InA h7 p m l [(.int .i64 i, .pointer (some ⟨q, 0, some 0⟩))] := by
        obtain ⟨s0, m0, B0, r0, n0⟩ := I6.set
        exact ⟨⟨s0, m0, Box.ku u7 hpm B0, Rd.upm I6.map u7 r0, n0⟩, M7⟩
      have hB6 := I6.map.neb B6
      have B7 := Box.ku u7 hB6 B6
      have S7 : SetAt h7 q 0 (whL v (i, d, 1, 0, z) bb) [(0, 1)] := by
        obtain ⟨s0, e0, r0, n0⟩ := S6.ex
        exact ⟨⟨s0, e0, Rd.upm I6.map u7 r0, n0⟩, Box.ku u7 (I6.map.neb S6.box) S6.box⟩
      have C7 := Box.ku u7 (I6.map.neb C6) C6
      have u07 : UP (fun A => A = p ∨ A = m) h h7 := (xx4.trans x46).trans_up (u7.mono fun A _ e => .inr e)
      refine PO.call (Full_f u7.wf rfl S7) fun a h8 ⟨e, x8⟩ => ?_
      subst e
      refine .condF (.ptr (PO.letGrow x8.wf fun h9 x9 z9 w9 n9 => ?_))
      have x79 := x8.trans x9
      have B9 := Box.kx x79 B7
      have hn8 := x8.wf.nro
      refine .ldI B9 rfl (PO.call (Bytes_f w9 rfl (S7.kx x79) (Box.kx x79 C7) hd (by omega)) fun s10 h10 ⟨r10, x10⟩ => ?_)
      have x710 := x79.trans x10
      have I10 := I7.ex x710
      have B10 := Box.kx x710 B7
      have hpl := I10.blt
      refine PO.call (settle_f x10.wf I10 hl hid (.inr ⟨_, rfl⟩) r10) fun a h11 ⟨e, I11, u11⟩ => ?_
      subst e
      refine .addOff (by decide) (.addNil (.ldI B10 rfl (.chk (by simp) ?_)))
      have hn10 : h10.objs.get (h8.size + 7) = none := x10.nn (by omega) (n9 7 (by omega))
      have hs10 := x10.size
      have hpo := I10.som
      have n11 : h11.objs.get (h8.size + 7) = none := by
        rw [u11.same _ (by omega) ?_]; exact hn10
        rintro (e | e)
        · exact hpo (e ▸ hn10)
        · have := I10.map.at_; rw [← e, hn10] at this; cases this
      have hz11 := u11.size
      refine PO.addNew u11.wf (by decide) n11 (by omega) (by rw [u11.nro, x10.nro, x9.nro]; omega) fun h12 N12 B12 => .addNil (PO.letTick N12.wf fun h13 x13 z13 w13 => .ret ?_)
      refine ⟨(Box.kx x13 B12).rd w13 rfl (capOk_self _ _ (by unfold B63; omega)), (I11.nw N12).ex x13, ?_⟩
      have ua : UP (fun A => A = p ∨ A = m) h h11 := (u07.ex x710).trans u11 fun A _ e => e
      refine (ua.trans (T := fun A => A = h8.size + 7) N12.up fun A hA e => ?_).ex x13
      have := (u07.ex x8).size; omega
end Go.Proofs.Ytaebjajbogedkaa.T
-- SEAT c
/- Chapter 22's box over the typed texts: messages that are away; the chapter's example. -/
set_option linter.unusedVariables false
set_option linter.unusedSimpArgs false
namespace Go.Proofs.Ytaebjajbogedkaa.T
open Go Go.Abs Go.Proofs
def awayL (now : Int) : List Run → List Int → List EvT × List Run
  | l, [] => ([], l)
  | l, id :: ids => if 0 ≤ id ∧ id < 40 ∧ ¬ mem l id then ((2, id, now, bsOf []) :: (awayL now (addS id (id + 1) l) ids).1, (awayL now (addS id (id + 1) l) ids).2) else awayL now l ids
theorem addS_len (f t : Int) (l : List Run) : (addS f t l).length ≤ l.length + 1 := by
  unfold addS
  split
  · exact addR_length _ _ _ _
  · omega
/-! runs -/
def runI (i : Int) : List Run := if i = 0 then [] else [(0, i)]
theorem addS_run {i : Int} (h0 : 0 ≤ i) (h1 : i < 40) : addS i (i + 1) (runI i) = runI (i + 1) := by
  have b1 : brg i = i := by unfold brg; omega
  have b2 : brg (i + 1) = i + 1 := by unfold brg; omega
  unfold addS
  rw [b1, b2, if_pos (by omega)]
  unfold runI
  rw [if_neg (show ¬ i + 1 = 0 by omega)]
  by_cases h : i = 0
  · subst h; rfl
  · rw [if_neg h, addR_cons, if_neg (by simp only; omega), if_neg (by simp only; omega), show min i 0 = 0 by omega, show max (i + 1) i = i + 1 by omega]
    rfl
theorem mem_runI {i n : Int} (h0 : 0 ≤ i) : mem (runI i) n ↔ 0 ≤ n ∧ n < i := by
  unfold runI
  split
  · rename_i hh; rw [mem_nil, hh]; exact ⟨False.elim, fun x => by omega⟩
  · rw [mem_cons, mem_nil]; simp
theorem cnt_runI {i : Int} (h0 : 0 ≤ i) : cntR (runI i) = i := by
  unfold runI
  split
  · rename_i h; rw [h]; rfl
  · rw [cntR_cons]; show i - 0 + 0 = i; omega
theorem nrm_runI {i : Int} (h0 : 0 ≤ i) (h1 : i ≤ 40) : Nrm (-1) 41 (runI i) := by
  unfold runI
  split
  · trivial
  · exact ⟨by show (-1 : Int) < 0; decide, by show (0 : Int) < i; omega, by show i ≤ 41; omega, trivial⟩
theorem runI_len (i : Int) : (runI i).length ≤ 1 := by unfold runI; split <;> simp
theorem layX {id dl : Int} (h : 0 ≤ id ∧ id < 40 ∧ 0 ≤ dl ∧ dl ≤ 100) {sz : Int} (hs : 1 ≤ sz ∧ sz ≤ 3) : ofV id dl sz = (id, dl, 1, 0, sz) ∧ HR (id, dl, 1, 0, sz) ∧ hto (id, dl, 1, 0, sz) - hfrom (id, dl, 1, 0, sz) = sz := by
  have hr : HR (id, dl, hcnt sz, 0, sz) := ⟨h.1, h.2.1, h.2.2.1, by show dl ≤ 4611686018427387903; omega, hs.1, by show sz ≤ 600; omega, rfl, Int.le_refl 0, by show 0 < hcnt sz; unfold hcnt; omega⟩
  have hc : hcnt sz = 1 := by unfold hcnt; omega
  refine ⟨?_, by rw [← hc]; exact hr, ?_⟩
  · unfold ofV; rw [if_pos hr, hc]
  · unfold hto hfrom; simp only; omega
/-- a small message laid -/
theorem mkB_ok {h : H} (w : WF h) {b n : Nat} {dt : List UInt8} (B : Box h b (vB dt)) (hn : dt.length = n) (h0 : 0 < n) (h1 : n ≤ 3) : bbT h ⟨some ⟨b, 0, some 0⟩, n, n⟩ = some (⟨some ⟨b, 0, some 0⟩, n, n⟩, h) ∧ RdB h ⟨some ⟨b, 0, some 0⟩, n, n⟩ dt := by
  have bb : BufB h ⟨some ⟨b, 0, some 0⟩, n, n⟩ dt := B.buf (sz := 1) (n := n) w (by simp [vB, hn]) (by unfold B63; omega)
  exact ⟨bbT_ok bb w (by omega) hn.symm (by unfold B63; omega), Buf.rd bb⟩
theorem LayB2 {h : H} (w : WF h) {id dl sz : Int} (hx : 0 ≤ id ∧ id < 40 ∧ 0 ≤ dl ∧ dl ≤ 100) (hs : 1 ≤ sz ∧ sz ≤ 3) {s s1 : Sl} {dt : List UInt8} (hd : (dt.length : Int) = sz) (B : RdS h s [s1]) (r : RdB h s1 dt) :
    PO (head_Lay (id, dl, 1, 0, sz) s h) (fun (a, h1) => RdB h1 a (layV (id, dl, 1, 0, sz) dt) ∧ EX h h1) := by
  have c1 : cat [dt] = dt := by simp [cat]
  have := Lay_f w (id, dl, 1, 0, sz) B (ls := [dt]) ⟨⟨r, by omega⟩, trivial⟩ (by simp) (by rw [c1]; omega)
  rw [c1] at this
  exact this
/-- a small piece comes -/
theorem PieceB {h : H} (w : WF h) {p m : Nat} {l : List Run} (I : InA h p m l []) (hl : l.length ≤ 2 ^ 30) {id dl sz now : Int} (hx : 0 ≤ id ∧ id < 40 ∧ 0 ≤ dl ∧ dl ≤ 100) (hs : 1 ≤ sz ∧ sz ≤ 3) {dt : List UInt8} (hd : (dt.length : Int) = sz) (hnow : now ≤ dl) {s : Sl} (r : RdB h s (layV (id, dl, 1, 0, sz) dt)) :
    PO (inbox_Box_Piece (some ⟨p, 0, some 0⟩) now s h) (fun (a, h') => if mem l id then a = ⟨none, 0, 0⟩ ∧ EX h h' else RdE h' a [(1, id, now, bsOf dt)] ∧ InA h' p m (addS id (id + 1) l) [] ∧ UP (fun A => A = p ∨ A = m) h h') := by
  obtain ⟨_, hr, ht⟩ := layX hx hs
  have hX : HR (id, dl, 1, 0, sz) ∧ (dt.length : Int) = hto (id, dl, 1, 0, sz) - hfrom (id, dl, 1, 0, sz) := ⟨hr, by omega⟩
  have hlen := layV_length hX
  exact Piece_f w I (by omega) r (by omega) (readV_layV hX) hr rfl (by simp only; omega) hd hnow
theorem PieceN {h : H} (w : WF h) {p m : Nat} {l : List Run} (I : InA h p m l []) (hl : l.length ≤ 2 ^ 30) {id dl sz now : Int} (hx : 0 ≤ id ∧ id < 40 ∧ 0 ≤ dl ∧ dl ≤ 100) (hs : 1 ≤ sz ∧ sz ≤ 3) {dt : List UInt8} (hd : (dt.length : Int) = sz) (hnow : now ≤ dl) {s : Sl} (r : RdB h s (layV (id, dl, 1, 0, sz) dt)) (hm : ¬ mem l id) :
    PO (inbox_Box_Piece (some ⟨p, 0, some 0⟩) now s h) (fun (a, h') => RdE h' a [(1, id, now, bsOf dt)] ∧ InA h' p m (addS id (id + 1) l) [] ∧ UP (fun A => A = p ∨ A = m) h h') := by
  refine (PieceB w I hl hx hs hd hnow r).mono ?_
  rintro ⟨a, h'⟩ q
  have q : if mem l id then _ else _ := q
  rw [if_neg hm] at q; exact q
theorem PieceO {h : H} (w : WF h) {p m : Nat} {l : List Run} (I : InA h p m l []) (hl : l.length ≤ 2 ^ 30) {id dl sz now : Int} (hx : 0 ≤ id ∧ id < 40 ∧ 0 ≤ dl ∧ dl ≤ 100) (hs : 1 ≤ sz ∧ sz ≤ 3) {dt : List UInt8} (hd : (dt.length : Int) = sz) (hnow : now ≤ dl) {s : Sl} (r : RdB h s (layV (id, dl, 1, 0, sz) dt)) (hm : mem l id) :
    PO (inbox_Box_Piece (some ⟨p, 0, some 0⟩) now s h) (fun (a, h') => a = ⟨none, 0, 0⟩ ∧ EX h h') := by
  refine (PieceB w I hl hx hs hd hnow r).mono ?_
  rintro ⟨a, h'⟩ q
  have q : if mem l id then _ else _ := q
  rw [if_pos hm] at q; exact q
theorem known22_f {h : H} (w : WF h) : PO (law22_known h) (fun (a, h1) => a = true ∧ EX h h1) := by
  unfold law22_known P.law22_known
  refine PO.call (INew_f w) ?_
  rintro _ h0 ⟨p, m, rfl, I0, x0, g1, g2⟩
  refine .op (by rfl) (.condF (PO.call (Of_f x0.wf 3 9 2) fun a h1 ⟨e, x1⟩ => ?_))
  rw [(layX (id := 3) (dl := 9) (sz := 2) (by omega) (by omega)).1] at e
  subst e
  dsimp only
  refine PO.newB (l := vB [104, 105]) x1.wf fun h2 x2 B2 z2 w2 => ?_
  obtain ⟨e2, r2⟩ := mkB_ok w2 B2 (n := 2) rfl (by omega) (by omega)
  refine .callE e2 (PO.newB (l := [(⟨some ⟨h1.size, 0, some 0⟩, 2, 2⟩ : Sl)].map encSl) w2 fun h4 x34 B4 z4 w4 => ?_)
  have x4 := x2.trans x34
  have rb := RdB.ex x34 r2
  have rs := Box.rdS (n := 1) B4 w4 rfl (by unfold B63; omega)
  refine PO.call (LayB2 (id := 3) (dl := 9) (sz := 2) x4.wf (by omega) (by omega) rfl rs rb) fun s5 h5 ⟨r5, x5⟩ => ?_
  have I5 := I0.ex ((x1.trans x4).trans x5)
  refine PO.call (PieceN (id := 3) (dl := 9) (sz := 2) x5.wf I5 (by simp) (by omega) (by omega) rfl (by omega) r5 (by rw [mem_nil]; exact id)) ?_
  rintro s6 h6 ⟨e6, I6, u6⟩
  have r6 := I5.rdB x5.wf u6 r5
  rw [show addS 3 (3 + 1) [] = [(3, 4)] by decide] at I6
  refine PO.call (PieceO (id := 3) (dl := 9) (sz := 2) u6.wf I6 (by decide) (by omega) (by omega) rfl (by omega) r6 (by simp [mem_cons])) ?_
  rintro _ h7 ⟨rfl, x7⟩
  have hl6 := RdE.len e6
  rw [hl6]
  have I7 := I6.ex x7
  refine .condT (.ixE0 (Rd.ex x7 e6) fun a ea _ => .op ea (.letO ?_))
  rw [show bsOf [104, 105] = (⟨#[104, 105]⟩ : ByteArray) from rfl]
  simp only [beq_self_eq_true, Bool.and_self]
  refine PO.condT (.condT (.ptr ?_))
  rw [addA_zero]
  refine PO.call (IHas_f x7.wf I7 (by decide) 3) ?_
  rintro _ h8 ⟨rfl, x8⟩
  rw [decide_eq_true (show mem [(3, 4)] 3 by simp [mem_cons])]
  refine PO.condT (.ptr ?_)
  rw [addA_zero]
  refine PO.call (ICount_f (e := 40) x8.wf (I7.ex x8) (by decide) ⟨by decide, by decide, by decide, trivial⟩ (by omega)) ?_
  rintro _ h9 ⟨rfl, x9⟩
  refine .ret ⟨rfl, ?_⟩
  exact u6.ex0 (((x0.trans x1).trans x4).trans x5) (fun A hA e => by omega) |>.trans ((x7.trans x8).trans x9)
end Go.Proofs.Ytaebjajbogedkaa.T
-- SEAT c
/- Chapter 19's wholes over the typed texts: however many pieces, in whatever order. -/
set_option linter.unusedVariables false
set_option linter.unusedSimpArgs false
namespace Go.Abs
open Go
/-- bytes copied to a place of a box of bytes -/
theorem cpT_at {h : H} (w : WF h) {b : Nat} {bl : List UInt8} (B : Box h b (vB bl)) {o n c : Nat} {s : Sl} {l : List UInt8} (r : RdB h s l) (hn : n ≠ 0) (hl : l.length ≤ n) (ho : o + l.length ≤ bl.length) :
    ∃ h1, cpT 1 h ⟨some ⟨b, o, some 0⟩, n, c⟩ s = some ((l.length : Int), h1) ∧ Box h1 b (vB (bl.take o ++ l ++ bl.drop (o + l.length))) ∧ UP (· = b) h h1 ∧ h1.size = h.size := by
  have hlen := RdB.len r
  have hv : (vB l).length = l.length := by simp [vB]
  obtain ⟨h', e, B', u, z⟩ := B.stC w o (vB l) (by simp [vB]; omega) (by simp [vB, oneC])
  have eb : (vB bl).take o ++ vB l ++ (vB bl).drop (o + (vB l).length) = vB (bl.take o ++ l ++ bl.drop (o + l.length)) := by simp [vB]
  rw [eb] at B'
  refine ⟨h', ?_, B', u, z⟩
  have hf : firstA h 1 s.len (encSl s) = some (vB l) := Rd.first r
  have hm : min s.len n = s.len := by omega
  have ea : add (⟨b, 0, some 0⟩ : Addr) o = ⟨b, o, some 0⟩ := by simp [add]
  rw [ea] at e
  have key : copyA (DSE 0 (tyS 1 0 .nilFunc)) h 1 (encSl ⟨some ⟨b, o, some 0⟩, n, c⟩) (encSl s) = some (.val (.int .i64 (l.length : Int)) h') := by
    unfold copyA
    rw [show elemOf (DSE 0 (tyS 1 0 .nilFunc)) 1 = some (0, tyS 1 0 .nilFunc) from elem_DSE 0 _]
    show (match firstA h 1 (min s.len n) (encSl s) with
      | some cells => (stCells h ⟨b, o, some 0⟩ cells).map fun h' => OpR.val (.int .i64 ((min s.len n : Nat) : Int)) h'
      | none => none) = _
    rw [hm, hf]
    simp only [e, Option.map_some, hlen]
  unfold cpT
  rw [key]; rfl
/-- a row's block is there, where it is not empty -/
theorem Rd.blt {sz : Nat} {h : H} {s : Sl} {l : List Value} (r : Rd sz h s l) (hne : l ≠ []) {a : Addr} (ha : s.base = some a) : a.block < h.size := by
  cases l with
  | nil => exact absurd rfl hne
  | cons v l => exact (r.ld a ha 0 v rfl).1
end Go.Abs
namespace Go.Proofs.Ytaebjajbogedkaa.T
open Go Go.Abs Go.Proofs
/-- a head without its place -/
def hd0' (x : Hd) : Hd := (x.1, x.2.1, x.2.2.1, 0, x.2.2.2.2)
theorem hd0'_HR {x : Hd} (h : HR x) : HR (hd0' x) := by unfold HR hcnt at *; unfold hd0'; simp only; omega
/-- a whole: where it lies, what came -/
structure WhA (h : H) (q bb : Nat) (s : Sl) (x : Hd) (l : List Run) (bl : List UInt8) : Prop where
  box : Box h q (whL (encSl s) x bb)
  set : RdR h s l
  row : ∀ a, s.base = some a → a.block ≠ q ∧ a.block ≠ bb
  data : Box h bb (vB bl)
  ne : bb ≠ q
theorem WhA.ex {h h1 : H} {q bb : Nat} {s : Sl} {x : Hd} {l : List Run} {bl : List UInt8} (W : WhA h q bb s x l bl) (e : EX h h1) : WhA h1 q bb s x l bl :=
  ⟨Box.kx e W.box, W.set.ex e, W.row, Box.kx e W.data, W.ne⟩
theorem WhA.setAt {h : H} {q bb : Nat} {s : Sl} {x : Hd} {l : List Run} {bl : List UInt8} (W : WhA h q bb s x l bl) : SetAt h q 0 (whL (encSl s) x bb) l :=
  ⟨⟨s, rfl, W.set, fun a ha => (W.row a ha).1⟩, W.box⟩
/-- what else is turned leaves it -/
theorem WhA.up {S : Nat → Prop} {h h1 : H} {q bb : Nat} {s : Sl} {x : Hd} {l : List Run} {bl : List UInt8} (W : WhA h q bb s x l bl) (u : UP S h h1) (hq : ¬ S q) (hb : ¬ S bb) (hr : ∀ a, s.base = some a → ¬ S a.block) : WhA h1 q bb s x l bl :=
  ⟨Box.ku u hq W.box, Rd.up W.set u hr, W.row, Box.ku u hb W.data, W.ne⟩
theorem FNew_g {h : H} (w : WF h) {x : Hd} (hx : HR x) : PO (frags_New x h) (fun (a, h') => ∃ q bb, a = some ⟨q, 0, some 0⟩ ∧ WhA h' q bb ⟨none, 0, 0⟩ (hd0' x) [] (List.replicate x.2.2.2.2.toNat 0) ∧ EX h h' ∧ h.size ≤ q ∧ h.size ≤ bb) := by
  obtain ⟨i, d, c, k, z⟩ := x
  unfold frags_New P.frags_New
  refine PO.newB w fun h1 x1 B1 z1 w1 => .ldZ5 B1 (PO.call (Right_f w1 _) fun a h2 ⟨e, x2⟩ => ?_)
  subst e
  refine .condND (fun hn => absurd hx hn) (fun _ => ?_)
  have B2 := Box.kx x2 B1
  have hs2 := x2.size
  refine PO.st1 B2 x2.wf (by simp) rfl fun h3 B3 u3 z3 w3 => ?_
  have B3' : Box h3 h.size [.int .i64 i, .int .i64 d, .int .i64 c, .int .i64 0, .int .i64 z] := B3
  have xx3 : EX h h3 := u3.ex0 (x1.trans x2) (fun A hA e => by omega)
  have hn3 := w3.nro
  refine PO.letGrow w3 fun h4 x4 z4 w4 n4 => .ldZ5 (Box.kx x4 B3') (.ldI (Box.kx x4 B3') rfl (.chk ?_ (.letO ?_)))
  · unfold HR at hx; simp only at hx; simp; omega
  have hzl : zeros (.int .u8 0) z.toNat = vB (List.replicate z.toNat 0) := by
    unfold zeros vB
    generalize z.toNat = n
    induction n with
    | zero => rfl
    | succ n ih => simp only [List.replicate_succ, List.flatten_cons, ih, List.map_cons]; rfl
  rw [hzl]
  refine PO.addNew w4 (by decide) (n4 3 (by omega)) (by omega) (by rw [x4.nro]; omega) fun h5 N5 B5 => ?_
  have z5 := N5.size
  refine PO.addNew N5.wf (by decide) (N5.nn (by omega) (by omega) (n4 5 (by omega))) (by omega) (by rw [N5.up.nro, x4.nro]; omega) fun h6 N6 B6 => .addNil (PO.letTick N6.wf fun h7 x7 z7 w7 => .ret ?_)
  exact ⟨h3.size + 5, h3.size + 3, rfl, ⟨Box.kx x7 B6, rd_nil 2 h7, (fun a ha => by cases ha), Box.kx x7 (NW.kb N6 B5), by omega⟩, (N6.ex0 (N5.ex0 (xx3.trans x4) (by omega)) (by omega)).trans x7, by omega, by omega⟩
/-- the bytes behind a piece -/
def putP (k : Int) (dt bl : List UInt8) : List UInt8 := bl.take (k * 80).toNat ++ dt ++ bl.drop ((k * 80).toNat + dt.length)
theorem putP_len {k : Int} {dt bl : List UInt8} (h : (k * 80).toNat + dt.length ≤ bl.length) : (putP k dt bl).length = bl.length := by
  unfold putP; simp; omega
theorem FPut_g {h : H} (w : WF h) {q bb : Nat} {s0 : Sl} {x : Hd} (hx : HR x) {lr : List Run} {bl : List UInt8} (W : WhA h q bb s0 (hd0' x) lr bl) (hbl : (bl.length : Int) = x.2.2.2.2) (hlr : lr.length ≤ 2 ^ 30) {s : Sl} {l : List UInt8} (r : RdB h s l) (hl : (l.length : Int) = hto x - hfrom x) :
    PO (frags_Whole_Put (some ⟨q, 0, some 0⟩) x s h) (fun (a, h') => a = true ∧ ∃ s', WhA h' q bb s' (hd0' x) (if mem lr x.2.2.2.1 then lr else addS x.2.2.2.1 (x.2.2.2.1 + 1) lr) (if mem lr x.2.2.2.1 then bl else putP x.2.2.2.1 l bl) ∧ (s' = s0 ∨ Fr h.size s') ∧ UP (fun A => A = q ∨ A = bb) h h') := by
  obtain ⟨i, d, c, k, z⟩ := x
  simp only at hbl
  have hb := hx.b
  unfold hfrom hto at hb hl
  simp only at hb hl
  have hk : 0 ≤ k ∧ k < c ∧ k < 40 := by unfold HR hcnt at hx; simp only at hx; omega
  unfold frags_Whole_Put P.frags_Whole_Put
  have hlen := RdB.len r
  refine PO.newB w fun h1 x1 B1 z1 w1 => .ldI B1 rfl (PO.st1 B1 w1 (by simp) rfl fun h2 B2 u2 z2 w2 => ?_)
  have B2' : Box h2 h.size [.int .i64 i, .int .i64 d, .int .i64 c, .int .i64 0, .int .i64 z] := B2
  have xx2 : EX h h2 := u2.ex0 x1 (fun A hA e => by omega)
  have W2 := W.ex xx2
  have r2 := RdB.ex xx2 r
  have ew : IntKind.wrap .i64 (k * 80) = k * 80 := w64 (by omega) (by omega)
  refine PO.join (fun st => st = ((some ⟨q, 0, some 0⟩, (s, (k, (k * 80, false)))), h2)) ?_ ?_
  · refine .ldZ5 B2' (.ptr (.op (Box.ldZat W2.box 1 [.int .i64, .int .i64, .int .i64, .int .i64, .int .i64] (i, d, c, 0, z) rfl) (.letO ?_)))
    simp only [beq_self_eq_true, Bool.and_self, Bool.not_true]
    refine .condF (.condD (fun hh => absurd hh (by omega)) (fun _ => .ldI B2' rfl (.condD (fun hh => absurd hh (by omega)) (fun _ => .ldI B2' rfl (.letO (.retL ?_))))))
    rw [ew, w64 (n := z - k * 80) (by omega) (by omega)]
    have e : ((((s.len : Nat) : Int)) != (if z - k * 80 < 80 then z - k * 80 else 80)) = false := by
      rw [bne_eq_false_iff_eq]; split <;> omega
    rw [e]
  · rintro _ rfl
    refine .condF (.ptr ?_)
    refine PO.call (Has_f w2 W2.setAt (by omega) k) fun a h3 ⟨e, x3⟩ => ?_
    subst e
    have W3 := W2.ex x3
    have r3 := RdB.ex x3 r2
    refine .condND (fun hm => ?_) (fun hm => .ret ?_)
    rotate_left
    · simp only
      rw [if_pos hm, if_pos hm]
      exact ⟨trivial, s0, W3, .inl rfl, (xx2.trans x3).up⟩
    simp only
    rw [if_neg hm, if_neg hm]
    refine .ptr (.ldL W3.box rfl ?_)
    have hzn : z.toNat = bl.length := by omega
    have rb : RdB h3 ⟨some ⟨bb, 0, some 0⟩, z.toNat, z.toNat⟩ bl := W3.data.rd (sz := 1) (n := z.toNat) (cap := z.toNat) x3.wf (by simp [vB]; omega) (capOk_self _ _ (by unfold B63; omega))
    obtain ⟨s4, e4, r4, l4, v4, _⟩ := sl_lo (sz := 1) (lo := k * 80) (by omega) (by unfold B63; omega) rb (by omega) (by simp only; omega)
    have hko : (k * 80).toNat < z.toNat := by omega
    have hs4 : s4 = ⟨some ⟨bb, (k * 80).toNat, some 0⟩, z.toNat - (k * 80).toNat, z.toNat - (k * 80).toNat⟩ := by
      rw [v4]
      unfold slV
      simp only [capK_exact (show z.toNat < B63 by unfold B63; omega)]
      have : (z.toNat).beq (k * 80).toNat = false := nbeq_f (by omega)
      simp only [this, cond_false, Nat.mul_one, add, Nat.zero_add]
    rw [hs4] at e4
    refine .op e4 ?_
    obtain ⟨h5, e5, B5, u5, z5⟩ := cpT_at x3.wf W3.data (o := (k * 80).toNat) (n := z.toNat - (k * 80).toNat) (c := z.toNat - (k * 80).toNat) r3 (by omega) (by omega) (by omega)
    refine .callE e5 (.ptr ?_)
    have Bq5 := Box.ku u5 (fun e => W.ne e.symm) W3.box
    have R5 : RdR h5 s0 lr := Rd.up W3.set u5 fun a ha => (W.row a ha).2
    rw [addA_zero, w64 (n := k + 1) (by omega) (by omega)]
    refine PO.call (Add_f3 u5.wf Bq5 R5 (fun a ha => (W.row a ha).1) (by omega) k (k + 1)) fun a h6 ⟨s', B6, r6, n6, f6, u6⟩ => .ret ⟨rfl, s', ⟨B6, r6, fun a ha => ⟨n6 a ha, ?_⟩, Box.ku u6 W.ne B5, W.ne⟩, ?_, ?_⟩
    · rcases f6 with ⟨rfl, _⟩ | f
      · exact (W.row a ha).2
      · have h1 := f a ha
        have h2 := W3.data.blt
        have := u5.size
        omega
    · rcases f6 with ⟨rfl, _⟩ | f
      · exact .inl rfl
      · refine .inr fun a ha => ?_
        have h1 := f a ha
        have h2 := (xx2.trans x3).size
        have := u5.size
        omega
    · exact ((xx2.trans x3).trans_up (u5.mono fun A _ e => .inr e)).trans (u6.mono fun A _ e => .inl e) fun A _ e => e
theorem Full_g {h : H} (w : WF h) {q bb : Nat} {s : Sl} {x : Hd} {l : List Run} {bl : List UInt8} (W : WhA h q bb s x l bl) (hl : l.length ≤ 2 ^ 30) :
    PO (frags_Whole_Full (some ⟨q, 0, some 0⟩) h) (fun (a, h') => a = decide (gapS 0 x.2.2.1 l = []) ∧ EX h h') := by
  obtain ⟨i, d, c, k, z⟩ := x
  unfold frags_Whole_Full P.frags_Whole_Full
  refine .ptr (.ptr ?_)
  rw [add_add]
  refine .ldI W.box rfl (PO.call (SAll_f w W.setAt (by omega) 0 c) fun a h1 ⟨x1, e⟩ => .ret ⟨e, x1⟩)
theorem Bytes_g {h : H} (w : WF h) {q bb : Nat} {s : Sl} {x : Hd} {l : List Run} {bl : List UInt8} (W : WhA h q bb s x l bl) (hl : l.length ≤ 2 ^ 30) (hb : (bl.length : Int) = x.2.2.2.2) (hb2 : bl.length ≤ 1000) (hf : gapS 0 x.2.2.1 l = []) :
    PO (frags_Whole_Bytes (some ⟨q, 0, some 0⟩) h) (fun (a, h') => RdB h' a bl ∧ EX h h') := by
  unfold frags_Whole_Bytes P.frags_Whole_Bytes
  refine PO.call (Full_g w W hl) fun a h1 ⟨e, x1⟩ => ?_
  rw [decide_eq_true hf] at e
  subst e
  have W1 := W.ex x1
  obtain ⟨i, d, c, k, z⟩ := x
  simp only at hb
  refine .condF (.ptr (.ldL W1.box rfl ?_))
  have r1 : RdB h1 ⟨some ⟨bb, 0, some 0⟩, z.toNat, z.toNat⟩ bl := W1.data.rd x1.wf (by simp [vB]; omega) (capOk_self _ _ (by unfold B63; omega))
  obtain ⟨s2, h2, e2, x2, b2, _⟩ := clone_f x1.wf r1 (by omega)
  obtain ⟨s3, e3, r3, _⟩ := clipB_f (Buf.rd b2) (by omega)
  exact .callE e2 (.callE e3 (.ret ⟨r3, x1.trans x2⟩))
end Go.Proofs.Ytaebjajbogedkaa.T
