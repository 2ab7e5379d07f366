/- Lemmas about the typed texts (joined: SIn1 SIn2 SIn3). -/
import Derived.Test.YtaebjajbogedkaaG17
import Derived.Test.YtaebjajbogedkaaG13
import Derived.Test.YtaebjajbogedkaaG6
import Derived.Test.YtaebjajbogedkaaG5
import Derived.Test.YtaebjajbogedkaaG11
import Derived.Test.YtaebjajbogedkaaG16
-- SEAT c
/- Chapter 22 over the typed texts: maps of pointers, copies of bytes; wholes of one piece. -/
set_option linter.unusedVariables false
set_option linter.unusedSimpArgs false
namespace Go.Abs
open Go
/-- what lies at a map's block -/
structure MapV (h : H) (m : Nat) (es : List (Value × Value)) : Prop where
  nro : h.nro ≤ m
  lt : m < h.size
  at_ : h.objs.get m = some (.map es)
section
variable {h h1 : H} {m b : Nat} {es : List (Value × Value)} {L : List Value}
theorem MapV.up {S : Nat → Prop} (M : MapV h m es) (u : UP S h h1) (hn : ¬ S m) : MapV h1 m es :=
  ⟨by rw [u.nro]; exact M.nro, Nat.lt_of_lt_of_le M.lt u.size, (u.same m M.lt hn).trans M.at_⟩
theorem MapV.ex (M : MapV h m es) (x : EX h h1) : MapV h1 m es := M.up (x.up (S := fun _ => False)) id
theorem MapV.nw (M : MapV h m es) (n : NW b h h1) : MapV h1 m es := M.up n.up fun e => by have := M.at_; rw [e, n.non] at this; cases this
theorem MapV.neb (M : MapV h m es) (B : Box h b L) : b ≠ m := by
  rintro rfl
  obtain ⟨e, c, g, _⟩ := B.get
  rw [M.at_] at g; cases g
theorem MapV.neq {v : Value} {a : Addr} (M : MapV h m es) (e : ldCell h a = some v) : a.block ≠ m := by
  intro hb
  rw [ldCell_eq, hb, M.at_] at e
  simp [ldO] at e
theorem ld_box (w : WF h) (B : Box h b L) {a : Addr} {v : Value} (e : a.block = b) (h2 : ldCell h a = some v) : v ∈ L := by
  obtain ⟨t, c, g1, g2⟩ := B.get
  rw [ldCell_eq] at h2
  simp only [e, g1] at h2
  unfold ldO at h2
  simp only at h2
  split at h2
  · rename_i sp hsp
    split at h2
    · rename_i cl hcl
      have hlt := w.arr b _ g1 _ _ hcl
      simp only at hlt
      have hg := g2 a.off _ (List.getElem?_eq_getElem hlt)
      rw [hg] at hcl
      cases hcl
      simp only [Nat.zero_le, Nat.ble_eq, show Nat.ble 0 sp = true by simp, cond_true, Option.some.injEq] at h2
      exact h2 ▸ List.getElem_mem hlt
    · simp at h2
  · simp at h2
/-- bytes stay where a box of other things, and a map, are turned -/
theorem RdB.pm (w : WF h) (B : Box h b L) (hd : ∀ v ∈ L, ∀ n, v ≠ .int .u8 n) (M : MapV h m es) (u : UP (fun A => A = b ∨ A = m) h h1) {s : Sl} {l : List UInt8} (r : RdB h s l) : RdB h1 s l :=
  ⟨Rd.len r, Rd.nil r, fun a ha i v hi => by
    obtain ⟨g1, g2⟩ := Rd.ld r a ha i v hi
    refine ⟨Nat.lt_of_lt_of_le g1 u.size, u.ld (a := add a i) g1 (fun e => ?_) g2⟩
    rcases e with e | e
    · have hv := ld_box w B e g2
      have hi' := List.mem_of_getElem? hi
      unfold vB at hi'
      obtain ⟨n, _, en⟩ := List.mem_map.1 hi'
      exact hd v hv _ en.symm
    · exact M.neq g2 e, Rd.cap r⟩
theorem Rd.upm {sz : Nat} (M : MapV h m es) (u : UP (· = m) h h1) {s : Sl} {l : List Value} (r : Rd sz h s l) : Rd sz h1 s l :=
  ⟨r.len, r.nil, fun a ha i v hi => by
    obtain ⟨g1, g2⟩ := r.ld a ha i v hi
    exact ⟨Nat.lt_of_lt_of_le g1 u.size, u.ld (a := add a i) g1 (M.neq g2) g2⟩, r.cap⟩
theorem lookOT_e (M : MapV h m []) (k : Int) : lookOT .i64 ⟨false, [.ptr]⟩ (.pointer none) h (some m) k = some (none, false) := by
  unfold lookOT lookA
  show decT _ (match (match h.objs.get m with | some (.map es) => mfind (.int .i64 k) es 0 | _ => none) with | some (some (_, v)) => some (if true then .tuple #[v, .bool true] else v) | some none => some (if true then .tuple #[Value.pointer none, .bool false] else Value.pointer none) | none => none) = _
  rw [M.at_]
  rfl
theorem mapV_turned (w : WF h) (M : MapV h m es) (es2 : List (Value × Value)) :
    MapV { h with tick := h.tick + 1, objs := h.objs.set m (.map es2) } m es2 ∧ UP (· = m) h { h with tick := h.tick + 1, objs := h.objs.set m (.map es2) } := by
  have get : ∀ A, (h.objs.set m (.map es2)).get A = if A = m then some (.map es2) else h.objs.get A := fun A => Tr.get_set _ _ _ _
  refine ⟨⟨M.nro, M.lt, by show (h.objs.set m _).get m = _; rw [get, if_pos rfl]⟩, ⟨Nat.le_refl _, rfl, ⟨w.nro, fun A hA => ?_, fun A a ha => ?_⟩, fun A _ hA => by show (h.objs.set m _).get A = _; rw [get, if_neg hA], rfl⟩⟩
  · show (h.objs.set m _).get A = none
    have hA' : h.size ≤ A := hA
    rw [get, if_neg (by have := M.lt; omega)]; exact w.top A hA
  · have ha : (h.objs.set m (.map es2)).get A = some (.arr a) := ha
    rw [get] at ha
    split at ha
    · simp at ha
    · exact w.arr A a ha
theorem updT_e (w : WF h) (M : MapV h m []) (k : Int) (p : Option Addr) : ∃ h1, updT .i64 ⟨false, [.ptr]⟩ h (some m) k p = some h1 ∧ MapV h1 m [(.int .i64 k, .pointer p)] ∧ UP (· = m) h h1 ∧ h1.size = h.size := by
  have hro : h.nro.ble m = true := Nat.ble_eq_true_of_le M.nro
  unfold updT updA
  show ∃ h1, (bif (true && h.nro.ble m) then (match h.objs.get m with
      | some (.map es) => match mfind (.int .i64 k) es 0 with
        | some (some (i, _)) => some { h with tick := h.tick + 1, objs := h.objs.set m (.map (setAt es i (.pointer p))) }
        | some none => some { h with tick := h.tick + 1, objs := h.objs.set m (.map (es ++ [(.int .i64 k, .pointer p)])) }
        | none => none
      | _ => none) else none) = some h1 ∧ _
  rw [hro, M.at_]
  obtain ⟨g1, g2⟩ := mapV_turned w M ([] ++ [(Value.int .i64 k, Value.pointer p)])
  exact ⟨_, rfl, g1, g2, rfl⟩
theorem delT_e (w : WF h) (M : MapV h m es) (k : Int) (he : es = [] ∨ ∃ v, es = [(.int .i64 k, v)]) : ∃ h1, delT .i64 h (some m) k = some h1 ∧ MapV h1 m [] ∧ UP (· = m) h h1 ∧ h1.size = h.size := by
  have hro : h.nro.ble m = true := Nat.ble_eq_true_of_le M.nro
  unfold delT delA
  show ∃ h1, (bif (true && h.nro.ble m) then (match h.objs.get m with
      | some (.map es) => match mfind (.int .i64 k) es 0 with
        | some (some (i, _)) => some { h with tick := h.tick + 1, objs := h.objs.set m (.map (es.eraseIdx i)) }
        | some none => some { h with tick := h.tick + 1, objs := h.objs.set m (.map es) }
        | none => none
      | _ => none) else none) = some h1 ∧ _
  rw [hro, M.at_]
  obtain ⟨g1, g2⟩ := mapV_turned w M []
  rcases he with rfl | ⟨v, rfl⟩
  · exact ⟨_, rfl, g1, g2, rfl⟩
  · have hf : mfind (.int .i64 k) [(.int .i64 k, v)] 0 = some (some (0, v)) := by simp [mfind, keq]
    simp only [Bool.and_self, cond_true, hf]
    exact ⟨_, rfl, g1, g2, rfl⟩
theorem PO.newV {α : Type} {Q : α → Prop} {f : Nat → H → Option α} (w : WF h) (k : ∀ h1, EX h h1 → MapV h1 h.size [] → h1.size = h.size + 1 → PO (f h.size h1) Q) : PO (newO (.map []) h f) Q :=
  PO.newM w fun h1 x M z => k h1 x ⟨(M.at_ _ rfl).1, (M.at_ _ rfl).2.1, (M.at_ _ rfl).2.2⟩ z
theorem cpT_box (w : WF h) (B : Box h b L) {n c : Nat} (hL : L.length = n) {s : Sl} {l : List UInt8} (r : RdB h s l) (hl : l.length = n) : ∃ h1, cpT 1 h ⟨some ⟨b, 0, some 0⟩, n, c⟩ s = some ((n : Int), h1) ∧ Box h1 b (vB l) ∧ UP (· = b) h h1 ∧ h1.size = h.size := by
  have hlen := RdB.len r
  have hv : (vB l).length = n := by simp [vB, hl]
  obtain ⟨h', e, B', u, z⟩ := B.stC w 0 (vB l) (by omega) (by simp [vB, oneC])
  rw [addA_zero] at e
  rw [List.take_zero, List.nil_append, Nat.zero_add, hv, ← hL, List.drop_length, List.append_nil] at B'
  refine ⟨h', ?_, B', u, z⟩
  have hf : firstA h 1 s.len (encSl s) = some (vB l) := Rd.first r
  have hm : min s.len n = s.len := by omega
  have key : copyA (DSE 0 (tyS 1 0 .nilFunc)) h 1 (encSl ⟨some ⟨b, 0, some 0⟩, n, c⟩) (encSl s) = some (.val (.int .i64 (n : Int)) h') := by
    unfold copyA
    rw [show elemOf (DSE 0 (tyS 1 0 .nilFunc)) 1 = some (0, tyS 1 0 .nilFunc) from elem_DSE 0 _]
    show (match firstA h 1 (min s.len n) (encSl s) with
      | some cells => (stCells h ⟨b, 0, some 0⟩ cells).map fun h' => OpR.val (.int .i64 ((min s.len n : Nat) : Int)) h'
      | none => none) = _
    rw [hm, hf]
    simp only [e, Option.map_some, hlen, hl]
  unfold cpT
  rw [key]; rfl
end
end Go.Abs
namespace Go.Proofs.Ytaebjajbogedkaa.T
open Go Go.Abs Go.Proofs
/-! wholes of one piece -/
def whL (v : Value) (x : Hd) (bb : Nat) : List Value := [v, .int .i64 x.1, .int .i64 x.2.1, .int .i64 x.2.2.1, .int .i64 x.2.2.2.1, .int .i64 x.2.2.2.2, encSl ⟨some ⟨bb, 0, some 0⟩, x.2.2.2.2.toNat, x.2.2.2.2.toNat⟩]
theorem FNew_f {h : H} (w : WF h) {x : Hd} (hx : HR x) (h0 : x.2.2.2.1 = 0) : PO (frags_New x h) (fun (a, h') => ∃ q bb, a = some ⟨q, 0, some 0⟩ ∧ Box h' q (whL (encSl ⟨none, 0, 0⟩) x bb) ∧ Box h' bb (List.replicate x.2.2.2.2.toNat (.int .u8 0)) ∧ EX h h' ∧ h.size ≤ q ∧ h.size ≤ bb ∧ bb ≠ q) := by
  obtain ⟨i, d, c, k, z⟩ := x
  simp only at h0
  subst h0
  unfold frags_New P.frags_New
  refine PO.newB w fun h1 x1 B1 z1 w1 => .ldZ5 B1 (PO.call (Right_f w1 _) fun a h2 ⟨e, x2⟩ => ?_)
  subst e
  refine .condND (fun hn => absurd hx hn) (fun _ => ?_)
  have B2 := Box.kx x2 B1
  have hs2 := x2.size
  refine PO.st1 B2 x2.wf (by simp) rfl fun h3 B3 u3 z3 w3 => ?_
  have B3' : Box h3 h.size [.int .i64 i, .int .i64 d, .int .i64 c, .int .i64 0, .int .i64 z] := B3
  have xx3 : EX h h3 := u3.ex0 (x1.trans x2) (fun A hA e => by omega)
  have hn3 := w3.nro
  refine PO.letGrow w3 fun h4 x4 z4 w4 n4 => .ldZ5 (Box.kx x4 B3') (.ldI (Box.kx x4 B3') rfl (.chk ?_ (.letO ?_)))
  · unfold HR at hx; simp only at hx; simp; omega
  have hzl : zeros (.int .u8 0) z.toNat = List.replicate z.toNat (.int .u8 0) := by
    unfold zeros
    generalize z.toNat = n
    induction n with
    | zero => rfl
    | succ n ih => simp only [List.replicate_succ, List.flatten_cons, ih]; rfl
  rw [hzl]
  refine PO.addNew w4 (by decide) (n4 3 (by omega)) (by omega) (by rw [x4.nro]; omega) fun h5 N5 B5 => ?_
  have z5 := N5.size
  refine PO.addNew N5.wf (by decide) (N5.nn (by omega) (by omega) (n4 5 (by omega))) (by omega) (by rw [N5.up.nro, x4.nro]; omega) fun h6 N6 B6 => .addNil (PO.letTick N6.wf fun h7 x7 z7 w7 => .ret ?_)
  exact ⟨h3.size + 5, h3.size + 3, rfl, Box.kx x7 B6, Box.kx x7 (NW.kb N6 B5), (N6.ex0 (N5.ex0 (xx3.trans x4) (by omega)) (by omega)).trans x7, by omega, by omega, by omega⟩
theorem FPut_f {h : H} (w : WF h) {q bb : Nat} {x : Hd} (hx : HR x) (h0 : x.2.2.2.1 = 0) (h80 : x.2.2.2.2 ≤ 80) (B : Box h q (whL (encSl ⟨none, 0, 0⟩) x bb)) (C : Box h bb (List.replicate x.2.2.2.2.toNat (.int .u8 0))) (hq : bb ≠ q) {s : Sl} {l : List UInt8} (r : RdB h s l) (hl : (l.length : Int) = x.2.2.2.2) :
    PO (frags_Whole_Put (some ⟨q, 0, some 0⟩) x s h) (fun (a, h') => a = true ∧ (∃ v, SetAt h' q 0 (whL v x bb) [(0, 1)]) ∧ Box h' bb (vB l) ∧ UP (fun A => A = q ∨ A = bb) h h') := by
  obtain ⟨i, d, c, k, z⟩ := x
  simp only at h0 h80 hl
  subst h0
  have hc : c = 1 := by unfold HR hcnt at hx; simp only at hx; omega
  subst hc
  have hz1 : 1 ≤ z := by unfold HR at hx; simp only at hx; omega
  unfold frags_Whole_Put P.frags_Whole_Put
  have hlen := RdB.len r
  refine PO.newB w fun h1 x1 B1 z1 w1 => .ldI B1 rfl (PO.st1 B1 w1 (by simp) rfl fun h2 B2 u2 z2 w2 => ?_)
  have B2' : Box h2 h.size [.int .i64 i, .int .i64 d, .int .i64 1, .int .i64 0, .int .i64 z] := B2
  have xx2 : EX h h2 := u2.ex0 x1 (fun A hA e => by omega)
  have Bq := Box.kx xx2 B
  have Bb := Box.kx xx2 C
  have r2 := RdB.ex xx2 r
  refine PO.join (fun st => st = ((some ⟨q, 0, some 0⟩, (s, (0, (0, false)))), h2)) ?_ ?_
  · refine .ldZ5 B2' (.ptr (.op (Box.ldZat Bq 1 [.int .i64, .int .i64, .int .i64, .int .i64, .int .i64] (i, d, 1, 0, z) rfl) (.letO ?_)))
    simp only [beq_self_eq_true, Bool.and_self, Bool.not_true]
    refine .condF (.condD (fun hh => absurd hh (by omega)) (fun _ => .ldI B2' rfl (.condD (fun hh => absurd hh (by omega)) (fun _ => .ldI B2' rfl (.letO (.retL ?_))))))
    rw [w64 (n := 0 * 80) (by omega) (by omega), w64 (n := z - 0 * 80) (by omega) (by omega)]
    have e : ((((s.len : Nat) : Int)) != (if z - 0 * 80 < 80 then z - 0 * 80 else 80)) = false := by
      rw [bne_eq_false_iff_eq]; split <;> omega
    rw [e]; rfl
  · rintro _ rfl
    refine .condF (.ptr ?_)
    have S2 : SetAt h2 q 0 (whL (encSl ⟨none, 0, 0⟩) (i, d, 1, 0, z) bb) [] := ⟨⟨⟨none, 0, 0⟩, rfl, rd_nil 2 h2, fun a ha => by cases ha⟩, Bq⟩
    refine PO.call (Has_f w2 S2 (by simp) 0) fun a h3 ⟨e, x3⟩ => ?_
    subst e
    refine .condND (fun _ => ?_) (fun hh => absurd hh (by simp [mem_nil]))
    have Bq3 := Box.kx x3 Bq
    have Bb3 := Box.kx x3 Bb
    have r3 := RdB.ex x3 r2
    refine .ptr (.ldL Bq3 rfl ?_)
    have hzl : (List.replicate z.toNat (Value.int .u8 0)) = vB (List.replicate z.toNat 0) := by simp [vB]
    have rb : RdB h3 ⟨some ⟨bb, 0, some 0⟩, z.toNat, z.toNat⟩ (List.replicate z.toNat 0) := by
      have q := Bb3.rd (sz := 1) (n := z.toNat) (cap := z.toNat) x3.wf (by simp) (capOk_self _ _ (by unfold B63; omega))
      rw [hzl] at q; exact q
    obtain ⟨s4, e4, r4, l4, v4, _⟩ := sl_lo (sz := 1) (lo := 0) (by omega) (by unfold B63; omega) rb (Int.le_refl _) (by omega)
    have hs4 : s4 = ⟨some ⟨bb, 0, some 0⟩, z.toNat, z.toNat⟩ := by
      rw [v4]
      unfold slV
      simp only [capK_exact (show z.toNat < B63 by unfold B63; omega)]
      have : (z.toNat).beq 0 = false := by cases hh : (z.toNat).beq 0 with
        | false => rfl
        | true => have := Nat.eq_of_beq_eq_true hh; omega
      simp only [Int.toNat_zero, this, cond_false, Nat.zero_mul, addA_zero, Nat.sub_zero]
    rw [hs4] at e4
    refine .op e4 ?_
    obtain ⟨h5, e5, B5, u5, z5⟩ := cpT_box x3.wf Bb3 (n := z.toNat) (c := z.toNat) (by simp) r3 (by omega)
    refine .callE e5 (.ptr ?_)
    have Bq5 := Box.ku u5 (fun e => hq e.symm) Bq3
    have S5 : SetAt h5 q 0 (whL (encSl ⟨none, 0, 0⟩) (i, d, 1, 0, z) bb) [] := ⟨⟨⟨none, 0, 0⟩, rfl, rd_nil 2 h5, fun a ha => by cases ha⟩, Bq5⟩
    rw [w64 (n := 0 + 1) (by omega) (by omega)]
    refine PO.call (Add_f u5.wf S5 (by simp) 0 (0 + 1)) fun a h6 ⟨v, S6, u6, _⟩ => .ret ⟨rfl, ⟨v, S6⟩, Box.ku u6 hq B5, ?_⟩
    exact ((xx2.trans x3).trans_up (u5.mono fun A _ e => .inr e)).trans (u6.mono fun A _ e => .inl e) fun A _ e => e
theorem Full_f {h : H} (w : WF h) {q bb : Nat} {x : Hd} (hc : x.2.2.1 = 1) {v : Value} (S : SetAt h q 0 (whL v x bb) [(0, 1)]) :
    PO (frags_Whole_Full (some ⟨q, 0, some 0⟩) h) (fun (a, h') => a = true ∧ EX h h') := by
  obtain ⟨i, d, c, k, z⟩ := x
  simp only at hc
  subst hc
  unfold frags_Whole_Full P.frags_Whole_Full
  refine .ptr (.ptr ?_)
  rw [add_add]
  refine .ldI S.box rfl (PO.call (SAll_f w S (by simp) 0 1) fun a h1 ⟨x1, e⟩ => .ret ⟨?_, x1⟩)
  subst e
  decide
theorem Bytes_f {h : H} (w : WF h) {q bb : Nat} {x : Hd} (hc : x.2.2.1 = 1) {v : Value} (S : SetAt h q 0 (whL v x bb) [(0, 1)]) {l : List UInt8} (B : Box h bb (vB l)) (hl : (l.length : Int) = x.2.2.2.2) (hl2 : l.length ≤ 1000) :
    PO (frags_Whole_Bytes (some ⟨q, 0, some 0⟩) h) (fun (a, h') => RdB h' a l ∧ EX h h') := by
  obtain ⟨i, d, c, k, z⟩ := x
  simp only at hc hl
  subst hc
  unfold frags_Whole_Bytes P.frags_Whole_Bytes
  refine PO.call (Full_f w rfl S) fun a h1 ⟨e, x1⟩ => ?_
  subst e
  refine .condF (.ptr (.ldL (Box.kx x1 S.box) rfl ?_))
  have r1 : RdB h1 ⟨some ⟨bb, 0, some 0⟩, z.toNat, z.toNat⟩ l := (Box.kx x1 B).rd x1.wf (by simp [vB]; omega) (capOk_self _ _ (by unfold B63; omega))
  obtain ⟨s2, h2, e2, x2, b2, _⟩ := clone_f x1.wf r1 (by omega)
  obtain ⟨s3, e3, r3, _⟩ := clipB_f (Buf.rd b2) (by omega)
  exact .callE e2 (.callE e3 (.ret ⟨r3, x1.trans x2⟩))
end Go.Proofs.Ytaebjajbogedkaa.T
-- SEAT c
/- Chapter 22's box over the typed texts: pieces of messages of one piece, messages that are away. -/
set_option linter.unusedVariables false
set_option linter.unusedSimpArgs false
namespace Go.Abs
open Go
theorem Rd.pm {sz b m : Nat} {h h1 : H} {L : List Value} {es : List (Value × Value)} (w : WF h) (B : Box h b L) (M : MapV h m es) (u : UP (fun A => A = b ∨ A = m) h h1) {s : Sl} {l : List Value} (hd : ∀ v ∈ l, v ∉ L) (r : Rd sz h s l) : Rd sz h1 s l :=
  ⟨r.len, r.nil, fun a ha i v hi => by
    obtain ⟨g1, g2⟩ := r.ld a ha i v hi
    refine ⟨Nat.lt_of_lt_of_le g1 u.size, u.ld (a := add a i) g1 (fun e => ?_) g2⟩
    rcases e with e | e
    · exact hd v (List.mem_of_getElem? hi) (ld_box w B e g2)
    · exact M.neq g2 e, r.cap⟩
abbrev EvT := Int × Int × Int × ByteArray
def evV : List EvT → List Value
  | [] => []
  | e :: l => .int .i64 e.1 :: .int .i64 e.2.1 :: .int .i64 e.2.2.1 :: .string e.2.2.2 :: evV l
theorem evV_length : ∀ l : List EvT, (evV l).length = l.length * 4
  | [] => rfl
  | e :: l => by simp only [evV, List.length_cons, evV_length l]; omega
theorem evV_app : ∀ a b : List EvT, evV (a ++ b) = evV a ++ evV b
  | [], b => rfl
  | e :: a, b => by simp only [List.cons_append, evV, evV_app a b]
theorem evV_oneC : ∀ l : List EvT, (evV l).all oneC = true
  | [] => rfl
  | e :: l => by simp only [evV, List.all_cons, evV_oneC l, oneC, Bool.and_self]
def RdE (h : H) (s : Sl) (l : List EvT) : Prop := Rd 4 h s (evV l)
theorem RdE.len {h : H} {s : Sl} {l : List EvT} (r : RdE h s l) : s.len = l.length := by
  have := Rd.len r; rw [evV_length] at this; omega
theorem PO.ixE0 {α : Type} {Q : α → Prop} {h : H} {s : Sl} {e : EvT} {l : List EvT} {g : Addr → Option α} (r : RdE h s (e :: l))
    (p : ∀ a, Abs.ldZ [.int .i64, .int .i64, .int .i64, .str] h a = some e → Abs.ldI .i64 h (add a 0) = some e.1 → PO (g a) Q) : PO (bindO (ixT 4 s 0) g) Q := by
  obtain ⟨a, ha, e'⟩ := ixT_ok r (i := 0) (by omega) (by have := RdE.len r; simp at this; omega)
  rw [show (0 : Int).toNat * 4 = 0 from rfl, addA_zero] at e'
  have l0 := (Rd.ld r a ha 0 _ rfl).2
  have l1 := (Rd.ld r a ha 1 _ rfl).2
  have l2 := (Rd.ld r a ha 2 _ rfl).2
  have l3 := (Rd.ld r a ha 3 _ rfl).2
  refine .op e' (p a ?_ (ldI_of l0))
  refine ldZ_of (zs := [.int .i64, .int .i64, .int .i64, .str]) (x := e) ?_
  have := ldCells_of (h := h) [Value.int .i64 e.1, .int .i64 e.2.1, .int .i64 e.2.2.1, .string e.2.2.2] a (fun i v hi => by
    match i, hi with
    | 0, hi => cases hi; exact l0
    | 1, hi => cases hi; exact l1
    | 2, hi => cases hi; exact l2
    | 3, hi => cases hi; exact l3)
  exact this
end Go.Abs
namespace Go.Proofs.Ytaebjajbogedkaa.T
open Go Go.Abs Go.Proofs
/-- Add, telling where its new row lies -/
theorem Add_f3 {h : H} (w : WF h) {b : Nat} {s : Sl} {L : List Value} {l : List Run} (B : Box h b (encSl s :: L)) (r : RdR h s l) (hnb : ∀ a, s.base = some a → a.block ≠ b) (hl : l.length ≤ 2 ^ 40) (f t : Int) :
    PO (spans_Set_Add (some ⟨b, 0, some 0⟩) f t h) (fun (_, h') => ∃ s', Box h' b (encSl s' :: L) ∧ RdR h' s' (addS f t l) ∧ (∀ a, s'.base = some a → a.block ≠ b) ∧ ((s' = s ∧ addS f t l = l) ∨ Fr h.size s') ∧ UP (· = b) h h') := by
  unfold spans_Set_Add P.spans_Set_Add
  refine .callE (bring_f _ _) (.callE (bring_f _ _) (.condD (fun c => ?_) (fun c => ?_)))
  · have e : addS f t l = l := by unfold addS; rw [if_neg (by omega)]
    exact .ret ⟨s, B, e.symm ▸ r, hnb, .inl ⟨rfl, e⟩, UP.refl w⟩
  · refine PO.joinD (.ptr ?_)
    refine PO.ldL (i := 0) B rfl (PO.mono (add_loop r hl w) ?_)
    rintro _ ⟨f', t', out, done, o, h2, rfl, b2, e2, x2, f2, l2⟩
    refine PO.join (fun st => ∃ (out' : Sl) (h3 : H), st = ((some ⟨b, 0, some 0⟩, out'), h3) ∧ RdR h3 out' (addS f t l) ∧ EX h h3 ∧ Fr h.size out') ?_ ?_
    · have hv : addS f t l = o ++ (if done then [] else [(f', t')]) := by unfold addS; rw [if_pos (by omega), ← e2]; cases done <;> rfl
      refine .condN (fun cd => ?_) (fun cd => ?_)
      · refine PO.appRg b2 x2 f2 (by omega) fun out1 h3 b3 x3 f3 _ => .retL ⟨out1, h3, rfl, ?_, x3, f3⟩
        rw [hv, cd]; exact b3.rd
      · refine .retL ⟨out, h2, rfl, ?_, x2, f2⟩
        rw [hv, cd]; simpa using b2.rd
    · rintro _ ⟨out', h3, rfl, r3, x3, f3⟩
      have hb := B.blt
      have hne : ∀ a, out'.base = some a → a.block ≠ b := fun a ha e => by have := f3 a ha; omega
      refine .ptr (PO.st1 (i := 0) (B.kx x3) x3.wf (by simp) rfl fun h4 B4 u4 z4 w4 => .ret ⟨out', B4, Rd.up r3 u4 hne, hne, .inr f3, x3.trans_up u4⟩)
/-- a box of messages that come -/
structure InA (h : H) (p m : Nat) (l : List Run) (es : List (Value × Value)) : Prop where
  set : ∃ s m2, Box h p [encSl s, .map (some m), .map (some m2)] ∧ RdR h s l ∧ ∀ a, s.base = some a → a.block ≠ p
  map : MapV h m es
section
variable {h h1 : H} {p m : Nat} {l : List Run} {es : List (Value × Value)}
theorem InA.ex (I : InA h p m l es) (x : EX h h1) : InA h1 p m l es := by
  obtain ⟨s, m2, B, r, n⟩ := I.set
  exact ⟨⟨s, m2, Box.kx x B, r.ex x, n⟩, I.map.ex x⟩
theorem InA.blt (I : InA h p m l es) : p < h.size := let ⟨s, m2, B, r, n⟩ := I.set; B.blt
theorem InA.mlt (I : InA h p m l es) : m < h.size := I.map.lt
theorem InA.ne (I : InA h p m l es) : p ≠ m := let ⟨s, m2, B, r, n⟩ := I.set; I.map.neb B
theorem InA.som (I : InA h p m l es) : h.objs.get p ≠ none := let ⟨s, m2, B, r, n⟩ := I.set; B.ne
theorem InA.nw {b : Nat} (I : InA h p m l es) (N : NW b h h1) : InA h1 p m l es := by
  obtain ⟨s, m2, B, r, n⟩ := I.set
  exact ⟨⟨s, m2, NW.kb N B, NW.kr N r, n⟩, I.map.nw N⟩
/-- another slice is appended to -/
theorem InA.app {s0 : Sl} (I : InA h p m l es) (k : KP h h1) (u : UP (fun A => ∃ a, s0.base = some a ∧ a.block = A) h h1) (hp : ∀ a, s0.base = some a → a.block ≠ p) (hm : ∀ a, s0.base = some a → a.block ≠ m) : InA h1 p m l es := by
  obtain ⟨s, m2, B, r, n⟩ := I.set
  exact ⟨⟨s, m2, Box.ku u (fun ⟨a, ha, e⟩ => hp a ha e) B, r.mono k, n⟩, I.map.up u fun ⟨a, ha, e⟩ => hm a ha e⟩
theorem InA.rdB (w : WF h) (I : InA h p m l es) (u : UP (fun A => A = p ∨ A = m) h h1) {s : Sl} {bs : List UInt8} (r : RdB h s bs) : RdB h1 s bs := by
  obtain ⟨s0, m2, B, _, n⟩ := I.set
  exact RdB.pm w B (by intro v hv k; simp only [List.mem_cons, List.not_mem_nil, or_false, encSl] at hv; rcases hv with rfl | rfl | rfl <;> simp) I.map u r
theorem InA.rdI {k : IntKind} (w : WF h) (I : InA h p m l es) (u : UP (fun A => A = p ∨ A = m) h h1) {s : Sl} {ns : List Int} (r : RdI k h s ns) : RdI k h1 s ns := by
  obtain ⟨s0, m2, B, _, n⟩ := I.set
  refine Rd.pm w B I.map u (fun v hv hL => ?_) r
  obtain ⟨z, _, rfl⟩ := List.mem_map.1 hv
  simp only [List.mem_cons, List.not_mem_nil, or_false, encSl] at hL
  simp at hL
theorem IHas_f (w : WF h) (I : InA h p m l es) (hl : l.length ≤ 2 ^ 42) (n : Int) :
    PO (spans_Set_Has (some ⟨p, 0, some 0⟩) n h) (fun (a, h1) => a = decide (mem l n) ∧ EX h h1) := by
  obtain ⟨s, m2, B, r, hn⟩ := I.set
  exact Has_f (k := 0) w ⟨⟨s, rfl, r, hn⟩, B⟩ hl n
theorem ICount_f (w : WF h) (I : InA h p m l es) (hl : l.length ≤ 2 ^ 40) {e : Int} (hn : Nrm (-1) e l) (he : 0 ≤ e ∧ e ≤ 4611686018427387904) :
    PO (spans_Set_Count (some ⟨p, 0, some 0⟩) h) (fun (a, h1) => a = cntR l ∧ EX h h1) := by
  obtain ⟨s, m2, B, r, hnb⟩ := I.set
  exact Count_f (k := 0) w ⟨⟨s, rfl, r, hnb⟩, B⟩ hl hn he
end
theorem INew_f {h : H} (w : WF h) : PO (inbox_New h) (fun (a, h') => ∃ p m, a = some ⟨p, 0, some 0⟩ ∧ InA h' p m [] [] ∧ EX h h' ∧ h.size ≤ p ∧ h.size ≤ m) := by
  unfold inbox_New
  refine PO.newV w fun h1 x1 M1 z1 => PO.newV x1.wf fun h2 x2 M2 z2 => PO.newB x2.wf fun h3 x3 B3 z3 w3 => .ret ⟨_, _, rfl, ⟨⟨⟨none, 0, 0⟩, _, B3, rd_nil 2 h3, fun a ha => by cases ha⟩, (M1.ex x2).ex x3⟩, (x1.trans x2).trans x3, by omega, by omega⟩
theorem settle_f {h : H} (w : WF h) {p m : Nat} {l : List Run} {es : List (Value × Value)} (I : InA h p m l es) (hl : l.length ≤ 2 ^ 40) {now kind id : Int} (hid : 0 ≤ id ∧ id < 40) (he : es = [] ∨ ∃ v, es = [(.int .i64 id, v)]) {bs : Sl} {x : List UInt8} (r : RdB h bs x) :
    PO (inbox_Box_settle (some ⟨p, 0, some 0⟩) now kind id bs h) (fun (a, h') => a = (kind, id, now, bsOf x) ∧ InA h' p m (addS id (id + 1) l) [] ∧ UP (fun A => A = p ∨ A = m) h h') := by
  unfold inbox_Box_settle P.inbox_Box_settle
  have hpl := I.blt
  have hml := I.mlt
  have hpm := I.ne
  refine PO.newB w fun h0 x0 B0 z0 w0 => .ptr ?_
  obtain ⟨s, m2, B, rs, hn⟩ := I.set
  have rs0 := rs.ex x0
  rw [addA_zero, w64 (n := id + 1) (by omega) (by omega)]
  refine PO.call (Add_f3 w0 (Box.kx x0 B) rs0 hn hl id (id + 1)) fun _ h1 ⟨s', B1, r1, n1, hs', u1⟩ => .ptr (.op (ldM_of (B1.ld (i := 1) rfl)) ?_)
  have M1 : MapV h1 m es := (I.map.ex x0).up u1 fun e => hpm e.symm
  have E1 : Box h1 h.size _ := Box.ku u1 (by omega) B0
  obtain ⟨h2, e2, M2, u2, z2⟩ := delT_e u1.wf M1 id he
  refine .op e2 ?_
  have r2 : RdR h2 s' (addS id (id + 1) l) := Rd.upm M1 u2 r1
  have B2 := Box.ku u2 hpm B1
  have E2 := Box.ku u2 (by omega) E1
  have u02 : UP (fun A => A = p ∨ A = m) h h2 := (x0.trans_up (u1.mono fun A _ e => .inl e)).trans (u2.mono fun A _ e => .inr e) fun A _ e => e
  refine .callE (strT_ok (I.rdB w u02 r)) (PO.stZ E2 u2.wf rfl rfl fun h3 E3 u3 z3 w3 => .ldZ E3 rfl (.ret ⟨rfl, ⟨⟨s', m2, Box.ku u3 (by omega) B2, ?_, n1⟩, M2.up u3 (by omega)⟩, u02.trans u3 fun A hA e => by omega⟩))
  rcases hs' with ⟨rfl, e⟩ | f
  · rw [e] at r2 ⊢
    exact Rd.old u3 rs (Nat.le_refl _) r2
  · exact Rd.up r2 u3 fun a ha e => by have := f a ha; omega
/-- a piece of a message of one piece, in time -/
theorem Piece_f {h : H} (w : WF h) {p m : Nat} {l : List Run} (I : InA h p m l []) (hl : l.length ≤ 2 ^ 40) {now : Int} {s : Sl} {bs : List UInt8} (r : RdB h s bs) (hb : bs.length ≤ 2 ^ 47) {x : Hd} {dt : List UInt8} (hv : readV bs = (x, dt, 0)) (hx : HR x) (h0 : x.2.2.2.1 = 0) (h80 : x.2.2.2.2 ≤ 80) (hd : (dt.length : Int) = x.2.2.2.2) (hnow : now ≤ x.2.1) :
    PO (inbox_Box_Piece (some ⟨p, 0, some 0⟩) now s h) (fun (a, h') => if mem l x.1 then a = ⟨none, 0, 0⟩ ∧ EX h h' else RdE h' a [(1, x.1, now, bsOf dt)] ∧ InA h' p m (addS x.1 (x.1 + 1) l) [] ∧ UP (fun A => A = p ∨ A = m) h h') := by
  unfold inbox_Box_Piece P.inbox_Box_Piece
  obtain ⟨i, d, c, k, z⟩ := x
  simp only at h0 h80 hd hnow
  subst h0
  refine PO.call (Read_f w r hb) fun a h1 ⟨e1, e2, r1, x1⟩ => ?_
  rw [hv] at e1 e2 r1
  obtain ⟨a1, a2, a3⟩ := a
  simp only at e1 e2 r1 x1
  subst e1 e2
  have hid : 0 ≤ i ∧ i < 40 := by unfold HR at hx; simp only at hx; omega
  have hc : c = 1 := by unfold HR hcnt at hx; simp only at hx; omega
  subst hc
  refine PO.newB x1.wf fun h2 x2 B2 z2 w2 => PO.stZ B2 w2 rfl rfl fun h3 B3 u3 z3 w3 => ?_
  have B3' : Box h3 h1.size [.int .i64 i, .int .i64 d, .int .i64 1, .int .i64 0, .int .i64 z] := B3
  have xx3 : EX h h3 := u3.ex0 (x1.trans x2) (fun A hA e => by have := x1.size; omega)
  have xx13 : EX h1 h3 := u3.ex0 x2 (fun A hA e => by omega)
  have I3 := I.ex xx3
  refine PO.join (fun st => ∃ h4, st = ((some ⟨p, 0, some 0⟩, (now, (some ⟨h1.size, 0, some 0⟩, (a2, decide (mem l i))))), h4) ∧ EX h3 h4) ?_ ?_
  · refine .condNE (fun hh => absurd rfl hh) (fun _ => .ptr (.ldI B3' rfl ?_))
    rw [addA_zero]
    exact PO.call (IHas_f w3 I3 (by omega) i) fun a h4 ⟨e, x4⟩ => .retL ⟨h4, by rw [e], x4⟩
  · rintro _ ⟨h4, rfl, x4⟩
    simp only
    refine .condD (fun hm => .ret ?_) (fun hm => ?_)
    · show if mem l i then _ else _
      rw [if_pos hm]; exact ⟨rfl, xx3.trans x4⟩
    suffices key : PO _ (fun (q : Sl × H) => RdE q.2 q.1 [(1, i, now, bsOf dt)] ∧ InA q.2 p m (addS i (i + 1) l) [] ∧ UP (fun A => A = p ∨ A = m) h q.2) by
      refine PO.mono key ?_
      rintro ⟨a, h'⟩ hq
      show if mem l i then _ else _
      rw [if_neg hm]; exact hq
    have B4 := Box.kx x4 B3'
    have I4 := I3.ex x4
    obtain ⟨s4, m24, P4, _, _⟩ := I4.set
    have r4 : RdB h4 a2 dt := RdB.ex (xx13.trans x4) r1
    have xx4 := xx3.trans x4
    refine .ptr (.ldI B4 rfl (.condD (fun hh => absurd hh (by omega)) (fun _ => .ptr (.op (ldM_of (P4.ld (i := 1) rfl)) (.ptr (.ldI B4 rfl (.op (lookOT_e I4.map i) ?_)))))))
    refine PO.join (fun st => ∃ h5 q bb, st = ((some ⟨p, 0, some 0⟩, (now, (some ⟨h1.size, 0, some 0⟩, (a2, some ⟨q, 0, some 0⟩)))), h5) ∧ Box h5 q (whL (encSl ⟨none, 0, 0⟩) (i, d, 1, 0, z) bb) ∧ Box h5 bb (List.replicate z.toNat (.int .u8 0)) ∧ EX h4 h5 ∧ h4.size ≤ q ∧ h4.size ≤ bb ∧ bb ≠ q) ?_ ?_
    · refine .condT (.ptr (.ldZ5 B4 (PO.call (FNew_f x4.wf hx rfl) fun a h5 ⟨q, bb, e, Bq, Bb, x5, g1, g2, g3⟩ => .retL ⟨h5, q, bb, by rw [e], Bq, Bb, x5, g1, g2, g3⟩)))
    · rintro _ ⟨h5, q, bb, rfl, Bq, Bb, x5, g1, g2, g3⟩
      refine .ptr (.ldZ5 (Box.kx x5 B4) ?_)
      refine PO.call (FPut_f x5.wf hx rfl h80 Bq Bb g3 (RdB.ex x5 r4) hd) fun a h6 ⟨e, ⟨v, S6⟩, C6, u6⟩ => ?_
      subst e
      have x46 : EX h4 h6 := u6.ex0 x5 (fun A hA e => by omega)
      have I6 := I4.ex x46
      have B6 := Box.kx x46 B4
      obtain ⟨s6, m26, P6, _, _⟩ := I6.set
      refine .condF (.ptr (.op (ldM_of (P6.ld (i := 1) rfl)) (.ptr (.ldI B6 rfl ?_))))
      obtain ⟨h7, e7, M7, u7, z7⟩ := updT_e u6.wf I6.map i (some ⟨q, 0, some 0⟩)
      refine .op e7 ?_
      have hpm := I6.ne
      have I7 : InA h7 p m l [(.int .i64 i, .pointer (some ⟨q, 0, some 0⟩))] := by
        obtain ⟨s0, m0, B0, r0, n0⟩ := I6.set
        exact ⟨⟨s0, m0, Box.ku u7 hpm B0, Rd.upm I6.map u7 r0, n0⟩, M7⟩
      have hB6 := I6.map.neb B6
      have B7 := Box.ku u7 hB6 B6
      have S7 : SetAt h7 q 0 (whL v (i, d, 1, 0, z) bb) [(0, 1)] := by
        obtain ⟨s0, e0, r0, n0⟩ := S6.ex
        exact ⟨⟨s0, e0, Rd.upm I6.map u7 r0, n0⟩, Box.ku u7 (I6.map.neb S6.box) S6.box⟩
      have C7 := Box.ku u7 (I6.map.neb C6) C6
      have u07 : UP (fun A => A = p ∨ A = m) h h7 := (xx4.trans x46).trans_up (u7.mono fun A _ e => .inr e)
      refine PO.call (Full_f u7.wf rfl S7) fun a h8 ⟨e, x8⟩ => ?_
      subst e
      refine .condF (.ptr (PO.letGrow x8.wf fun h9 x9 z9 w9 n9 => ?_))
      have x79 := x8.trans x9
      have B9 := Box.kx x79 B7
      have hn8 := x8.wf.nro
      refine .ldI B9 rfl (PO.call (Bytes_f w9 rfl (S7.kx x79) (Box.kx x79 C7) hd (by omega)) fun s10 h10 ⟨r10, x10⟩ => ?_)
      have x710 := x79.trans x10
      have I10 := I7.ex x710
      have B10 := Box.kx x710 B7
      have hpl := I10.blt
      refine PO.call (settle_f x10.wf I10 hl hid (.inr ⟨_, rfl⟩) r10) fun a h11 ⟨e, I11, u11⟩ => ?_
      subst e
      refine .addOff (by decide) (.addNil (.ldI B10 rfl (.chk (by simp) ?_)))
      have hn10 : h10.objs.get (h8.size + 7) = none := x10.nn (by omega) (n9 7 (by omega))
      have hs10 := x10.size
      have hpo := I10.som
      have n11 : h11.objs.get (h8.size + 7) = none := by
        rw [u11.same _ (by omega) ?_]; exact hn10
        rintro (e | e)
        · exact hpo (e ▸ hn10)
        · have := I10.map.at_; rw [← e, hn10] at this; cases this
      have hz11 := u11.size
      refine PO.addNew u11.wf (by decide) n11 (by omega) (by rw [u11.nro, x10.nro, x9.nro]; omega) fun h12 N12 B12 => .addNil (PO.letTick N12.wf fun h13 x13 z13 w13 => .ret ?_)
      refine ⟨(Box.kx x13 B12).rd w13 rfl (capOk_self _ _ (by unfold B63; omega)), (I11.nw N12).ex x13, ?_⟩
      have ua : UP (fun A => A = p ∨ A = m) h h11 := (u07.ex x710).trans u11 fun A _ e => e
      refine (ua.trans (T := fun A => A = h8.size + 7) N12.up fun A hA e => ?_).ex x13
      have := (u07.ex x8).size; omega
end Go.Proofs.Ytaebjajbogedkaa.T
-- SEAT c
/- Chapter 22's box over the typed texts: messages that are away; the chapter's example. -/
set_option linter.unusedVariables false
set_option linter.unusedSimpArgs false
namespace Go.Proofs.Ytaebjajbogedkaa.T
open Go Go.Abs Go.Proofs
def awayL (now : Int) : List Run → List Int → List EvT × List Run
  | l, [] => ([], l)
  | l, id :: ids => if 0 ≤ id ∧ id < 40 ∧ ¬ mem l id then ((2, id, now, bsOf []) :: (awayL now (addS id (id + 1) l) ids).1, (awayL now (addS id (id + 1) l) ids).2) else awayL now l ids
theorem addS_len (f t : Int) (l : List Run) : (addS f t l).length ≤ l.length + 1 := by
  unfold addS
  split
  · exact addR_length _ _ _ _
  · omega
theorem Away_f {h : H} (w : WF h) {p m : Nat} {l : List Run} (I : InA h p m l []) (hl : l.length ≤ 2 ^ 30) {now : Int} {s : Sl} {ids : List Int} (r : RdI .i64 h s ids) (hn : ids.length ≤ 1000) :
    PO (inbox_Box_Away (some ⟨p, 0, some 0⟩) now s h) (fun (a, h') => RdE h' a (awayL now l ids).1 ∧ InA h' p m (awayL now l ids).2 [] ∧ UP (fun A => A = p ∨ A = m) h h') := by
  unfold inbox_Box_Away P.inbox_Box_Away
  have hlen : s.len = ids.length := RdI.len r
  have hp0 := I.blt
  have hm0 := I.mlt
  refine PO.joinD (PO.mono (P := fun q => ∃ out o l' h', q = Sum.inl (out, h') ∧ Buf 4 h' out (evV o) ∧ o = (awayL now l ids).1 ∧ l' = (awayL now l ids).2 ∧ InA h' p m l' [] ∧ UP (fun A => A = p ∨ A = m) h h' ∧ o.length ≤ 1000) ?_ ?_)
  · refine PO.loop (fun k st => ∃ (i : Nat) (out : Sl) (o : List EvT) (l' : List Run) (h' : H), st = ((some ⟨p, 0, some 0⟩, (now, (out, (s, (((s.len : Nat) : Int), (i : Int)))))), h') ∧ k + i = ids.length ∧ Buf 4 h' out (evV o) ∧ o ++ (awayL now l' (ids.drop i)).1 = (awayL now l ids).1 ∧ (awayL now l' (ids.drop i)).2 = (awayL now l ids).2 ∧ InA h' p m l' [] ∧ UP (fun A => A = p ∨ A = m) h h' ∧ Fr h.size out ∧ o.length ≤ i ∧ l'.length ≤ l.length + i) ?_ ids.length _ ⟨0, ⟨none, 0, 0⟩, [], l, h, rfl, rfl, buf_nil 4 h, rfl, rfl, I, UP.refl w, fr_nil _, Nat.le_refl _, Nat.le_refl _⟩
    rintro k st ⟨i, out, o, l', h', rfl, hk, hb, he1, he2, I', u', hf, ho, hl'⟩
    unfold P.inbox_Box_Away_l1
    refine .condD (fun hlt => ?_) (fun hge => ?_)
    · have hd : ids.drop i = ids.getD i 0 :: ids.drop (i + 1) := by
        rw [List.drop_eq_getElem_cons (by omega)]; simp [List.getD, show i < ids.length by omega]
      have r' := I.rdI w u' r
      rw [hd] at he1 he2
      refine PO.join (fun st => ∃ (out2 : Sl) (o2 : List EvT) (l2 : List Run) (h2 : H), st = ((some ⟨p, 0, some 0⟩, (now, (out2, (s, (((s.len : Nat) : Int), (i : Int)))))), h2) ∧ Buf 4 h2 out2 (evV o2) ∧ o2 ++ (awayL now l2 (ids.drop (i + 1))).1 = (awayL now l ids).1 ∧ (awayL now l2 (ids.drop (i + 1))).2 = (awayL now l ids).2 ∧ InA h2 p m l2 [] ∧ UP (fun A => A = p ∨ A = m) h h2 ∧ Fr h.size out2 ∧ o2.length ≤ i + 1 ∧ l2.length ≤ l.length + (i + 1)) ?_ ?_
      · refine .ixI r' (by omega) (by omega) fun a ea => .op ea ?_
        rw [Int.toNat_natCast]
        generalize ids.getD i 0 = id at *
        refine PO.join (fun st => ∃ h1, st = ((some ⟨p, 0, some 0⟩, (now, (out, (id, (s, (((s.len : Nat) : Int), ((i : Int), decide (0 ≤ id ∧ id < 40 ∧ ¬ mem l' id)))))))), h1) ∧ EX h' h1) ?_ ?_
        · refine .condD (fun c0 => .condD (fun c1 => .ptr ?_) (fun c1 => .retL ⟨h', ?_, EX.refl u'.wf⟩)) (fun c0 => .retL ⟨h', ?_, EX.refl u'.wf⟩)
          · rw [addA_zero]
            refine PO.call (IHas_f u'.wf I' (by omega) id) fun a h1 ⟨e, x1⟩ => .retL ⟨h1, ?_, x1⟩
            subst e
            have : (!decide (mem l' id)) = decide (0 ≤ id ∧ id < 40 ∧ ¬ mem l' id) := by
              by_cases hm : mem l' id
              · simp [hm]
              · simp [hm]; omega
            rw [this]
          · rw [decide_eq_false (fun hh => c1 hh.2.1)]
          · rw [decide_eq_false (fun hh => c0 hh.1)]
        · rintro _ ⟨h1, rfl, x1⟩
          have I1 := I'.ex x1
          have u1 := u'.ex x1
          have b1 : Buf 4 h1 out (evV o) := hb.ex u'.wf x1
          refine .condD (fun hc => ?_) (fun hc => ?_)
          · have hss := addS_len id (id + 1) l'
            refine PO.call (settle_f (x := []) x1.wf I1 (by omega) ⟨hc.1, hc.2.1⟩ (.inl rfl) (rd_nil 1 h1)) fun a h2 ⟨e, I2, u2⟩ => ?_
            subst e
            have b2 : Buf 4 h2 out (evV o) := Buf.up x1.wf b1 u2 fun a ha e => by have := hf a ha; omega
            refine PO.newB u2.wf fun h3 x3 B3 z3 w3 => ?_
            have b3 := b2.ex u2.wf x3
            have I3 := I2.ex x3
            have re : RdE h3 ⟨some ⟨h2.size, 0, some 0⟩, 1, 1⟩ [(2, id, now, bsOf [])] := B3.rd w3 rfl (capOk_self _ _ (by unfold B63; omega))
            have hol : out.len = o.length := RdE.len b3.rd
            obtain ⟨s', h4, e4, k4, _, b4, _, f4⟩ := appT_ok (e := 72) (bytes := 40) (by omega) (by unfold B63; omega) w3 b3 re (evV_oneC _) (by simp only; omega) (by simp only; omega)
            have u3 := (u1.trans u2 fun A _ e => e).ex x3
            refine .callE e4 (.retL ⟨s', o ++ [(2, id, now, bsOf [])], addS id (id + 1) l', h4, rfl, by rw [evV_app]; exact b4, ?_, ?_, ?_, ?_, f4 _ u3.size hf, by simp; omega, by omega⟩)
            · rw [← he1]; simp only [awayL, if_pos hc, List.append_assoc, List.singleton_append]
            · rw [← he2]; simp only [awayL, if_pos hc]
            · exact I3.app k4 (up_app e4 k4) (fun a ha e => by have := hf a ha; omega) (fun a ha e => by have := hf a ha; omega)
            · exact u3.trans (up_app e4 k4) fun A hA ⟨a, ha, e⟩ => by have := hf a ha; omega
          · refine .retL ⟨out, o, l', h1, rfl, b1, ?_, ?_, I1, u1, hf, by omega, by omega⟩
            · rw [← he1]; simp only [awayL, if_neg hc]
            · rw [← he2]; simp only [awayL, if_neg hc]
      · rintro _ ⟨out2, o2, l2, h2, rfl, b2, e1, e2, I2, u2, f2, ho2, hl2⟩
        refine .retL ⟨k - 1, by omega, i + 1, out2, o2, l2, h2, ?_, by omega, b2, e1, e2, I2, u2, f2, ho2, hl2⟩
        rw [w64 (n := (i : Int) + 1) (by omega) (by omega)]; rfl
    · have : i = ids.length := by omega
      subst this
      rw [List.drop_length] at he1 he2
      refine .retR ⟨out, o, l', h', rfl, hb, ?_, he2, I', u', by omega⟩
      rw [← he1]; simp [awayL]
  · rintro _ ⟨out, o, l', h', rfl, hb, rfl, rfl, I', u', ho⟩
    have hol : out.len = _ := RdE.len hb.rd
    obtain ⟨s', e, r', _, _⟩ := clip_base (by omega) (by unfold B63; omega) hb.rd (by rw [hol]; unfold B63; omega)
    refine PO.callE (h1 := h') (a := s') ?_ (.ret ⟨r', I', u'⟩)
    unfold slices_Clip_api_Event_api_Event
    rw [e, bindO_some]
/-! runs -/
def runI (i : Int) : List Run := if i = 0 then [] else [(0, i)]
theorem addS_run {i : Int} (h0 : 0 ≤ i) (h1 : i < 40) : addS i (i + 1) (runI i) = runI (i + 1) := by
  have b1 : brg i = i := by unfold brg; omega
  have b2 : brg (i + 1) = i + 1 := by unfold brg; omega
  unfold addS
  rw [b1, b2, if_pos (by omega)]
  unfold runI
  rw [if_neg (show ¬ i + 1 = 0 by omega)]
  by_cases h : i = 0
  · subst h; rfl
  · rw [if_neg h, addR_cons, if_neg (by simp only; omega), if_neg (by simp only; omega), show min i 0 = 0 by omega, show max (i + 1) i = i + 1 by omega]
    rfl
theorem mem_runI {i n : Int} (h0 : 0 ≤ i) : mem (runI i) n ↔ 0 ≤ n ∧ n < i := by
  unfold runI
  split
  · rename_i hh; rw [mem_nil, hh]; exact ⟨False.elim, fun x => by omega⟩
  · rw [mem_cons, mem_nil]; simp
theorem cnt_runI {i : Int} (h0 : 0 ≤ i) : cntR (runI i) = i := by
  unfold runI
  split
  · rename_i h; rw [h]; rfl
  · rw [cntR_cons]; show i - 0 + 0 = i; omega
theorem nrm_runI {i : Int} (h0 : 0 ≤ i) (h1 : i ≤ 40) : Nrm (-1) 41 (runI i) := by
  unfold runI
  split
  · trivial
  · exact ⟨by show (-1 : Int) < 0; decide, by show (0 : Int) < i; omega, by show i ≤ 41; omega, trivial⟩
theorem runI_len (i : Int) : (runI i).length ≤ 1 := by unfold runI; split <;> simp
theorem layX {id dl : Int} (h : 0 ≤ id ∧ id < 40 ∧ 0 ≤ dl ∧ dl ≤ 100) {sz : Int} (hs : 1 ≤ sz ∧ sz ≤ 3) : ofV id dl sz = (id, dl, 1, 0, sz) ∧ HR (id, dl, 1, 0, sz) ∧ hto (id, dl, 1, 0, sz) - hfrom (id, dl, 1, 0, sz) = sz := by
  have hr : HR (id, dl, hcnt sz, 0, sz) := ⟨h.1, h.2.1, h.2.2.1, by show dl ≤ 4611686018427387903; omega, hs.1, by show sz ≤ 600; omega, rfl, Int.le_refl 0, by show 0 < hcnt sz; unfold hcnt; omega⟩
  have hc : hcnt sz = 1 := by unfold hcnt; omega
  refine ⟨?_, by rw [← hc]; exact hr, ?_⟩
  · unfold ofV; rw [if_pos hr, hc]
  · unfold hto hfrom; simp only; omega
/-- a small message laid -/
theorem mkB_ok {h : H} (w : WF h) {b n : Nat} {dt : List UInt8} (B : Box h b (vB dt)) (hn : dt.length = n) (h0 : 0 < n) (h1 : n ≤ 3) : bbT h ⟨some ⟨b, 0, some 0⟩, n, n⟩ = some (⟨some ⟨b, 0, some 0⟩, n, n⟩, h) ∧ RdB h ⟨some ⟨b, 0, some 0⟩, n, n⟩ dt := by
  have bb : BufB h ⟨some ⟨b, 0, some 0⟩, n, n⟩ dt := B.buf (sz := 1) (n := n) w (by simp [vB, hn]) (by unfold B63; omega)
  exact ⟨bbT_ok bb w (by omega) hn.symm (by unfold B63; omega), Buf.rd bb⟩
theorem LayB2 {h : H} (w : WF h) {id dl sz : Int} (hx : 0 ≤ id ∧ id < 40 ∧ 0 ≤ dl ∧ dl ≤ 100) (hs : 1 ≤ sz ∧ sz ≤ 3) {s s1 : Sl} {dt : List UInt8} (hd : (dt.length : Int) = sz) (B : RdS h s [s1]) (r : RdB h s1 dt) :
    PO (head_Lay (id, dl, 1, 0, sz) s h) (fun (a, h1) => RdB h1 a (layV (id, dl, 1, 0, sz) dt) ∧ EX h h1) := by
  have c1 : cat [dt] = dt := by simp [cat]
  have := Lay_f w (id, dl, 1, 0, sz) B (ls := [dt]) ⟨⟨r, by omega⟩, trivial⟩ (by simp) (by rw [c1]; omega)
  rw [c1] at this
  exact this
/-- a small piece comes -/
theorem PieceB {h : H} (w : WF h) {p m : Nat} {l : List Run} (I : InA h p m l []) (hl : l.length ≤ 2 ^ 30) {id dl sz now : Int} (hx : 0 ≤ id ∧ id < 40 ∧ 0 ≤ dl ∧ dl ≤ 100) (hs : 1 ≤ sz ∧ sz ≤ 3) {dt : List UInt8} (hd : (dt.length : Int) = sz) (hnow : now ≤ dl) {s : Sl} (r : RdB h s (layV (id, dl, 1, 0, sz) dt)) :
    PO (inbox_Box_Piece (some ⟨p, 0, some 0⟩) now s h) (fun (a, h') => if mem l id then a = ⟨none, 0, 0⟩ ∧ EX h h' else RdE h' a [(1, id, now, bsOf dt)] ∧ InA h' p m (addS id (id + 1) l) [] ∧ UP (fun A => A = p ∨ A = m) h h') := by
  obtain ⟨_, hr, ht⟩ := layX hx hs
  have hX : HR (id, dl, 1, 0, sz) ∧ (dt.length : Int) = hto (id, dl, 1, 0, sz) - hfrom (id, dl, 1, 0, sz) := ⟨hr, by omega⟩
  have hlen := layV_length hX
  exact Piece_f w I (by omega) r (by omega) (readV_layV hX) hr rfl (by simp only; omega) hd hnow
theorem PieceN {h : H} (w : WF h) {p m : Nat} {l : List Run} (I : InA h p m l []) (hl : l.length ≤ 2 ^ 30) {id dl sz now : Int} (hx : 0 ≤ id ∧ id < 40 ∧ 0 ≤ dl ∧ dl ≤ 100) (hs : 1 ≤ sz ∧ sz ≤ 3) {dt : List UInt8} (hd : (dt.length : Int) = sz) (hnow : now ≤ dl) {s : Sl} (r : RdB h s (layV (id, dl, 1, 0, sz) dt)) (hm : ¬ mem l id) :
    PO (inbox_Box_Piece (some ⟨p, 0, some 0⟩) now s h) (fun (a, h') => RdE h' a [(1, id, now, bsOf dt)] ∧ InA h' p m (addS id (id + 1) l) [] ∧ UP (fun A => A = p ∨ A = m) h h') := by
  refine (PieceB w I hl hx hs hd hnow r).mono ?_
  rintro ⟨a, h'⟩ q
  have q : if mem l id then _ else _ := q
  rw [if_neg hm] at q; exact q
theorem PieceO {h : H} (w : WF h) {p m : Nat} {l : List Run} (I : InA h p m l []) (hl : l.length ≤ 2 ^ 30) {id dl sz now : Int} (hx : 0 ≤ id ∧ id < 40 ∧ 0 ≤ dl ∧ dl ≤ 100) (hs : 1 ≤ sz ∧ sz ≤ 3) {dt : List UInt8} (hd : (dt.length : Int) = sz) (hnow : now ≤ dl) {s : Sl} (r : RdB h s (layV (id, dl, 1, 0, sz) dt)) (hm : mem l id) :
    PO (inbox_Box_Piece (some ⟨p, 0, some 0⟩) now s h) (fun (a, h') => a = ⟨none, 0, 0⟩ ∧ EX h h') := by
  refine (PieceB w I hl hx hs hd hnow r).mono ?_
  rintro ⟨a, h'⟩ q
  have q : if mem l id then _ else _ := q
  rw [if_pos hm] at q; exact q
theorem known22_f {h : H} (w : WF h) : PO (law22_known h) (fun (a, h1) => a = true ∧ EX h h1) := by
  unfold law22_known P.law22_known
  refine PO.call (INew_f w) ?_
  rintro _ h0 ⟨p, m, rfl, I0, x0, g1, g2⟩
  refine .op (by rfl) (.condF (PO.call (Of_f x0.wf 3 9 2) fun a h1 ⟨e, x1⟩ => ?_))
  rw [(layX (id := 3) (dl := 9) (sz := 2) (by omega) (by omega)).1] at e
  subst e
  dsimp only
  refine PO.newB (l := vB [104, 105]) x1.wf fun h2 x2 B2 z2 w2 => ?_
  obtain ⟨e2, r2⟩ := mkB_ok w2 B2 (n := 2) rfl (by omega) (by omega)
  refine .callE e2 (PO.newB (l := [(⟨some ⟨h1.size, 0, some 0⟩, 2, 2⟩ : Sl)].map encSl) w2 fun h4 x34 B4 z4 w4 => ?_)
  have x4 := x2.trans x34
  have rb := RdB.ex x34 r2
  have rs := Box.rdS (n := 1) B4 w4 rfl (by unfold B63; omega)
  refine PO.call (LayB2 (id := 3) (dl := 9) (sz := 2) x4.wf (by omega) (by omega) rfl rs rb) fun s5 h5 ⟨r5, x5⟩ => ?_
  have I5 := I0.ex ((x1.trans x4).trans x5)
  refine PO.call (PieceN (id := 3) (dl := 9) (sz := 2) x5.wf I5 (by simp) (by omega) (by omega) rfl (by omega) r5 (by rw [mem_nil]; exact id)) ?_
  rintro s6 h6 ⟨e6, I6, u6⟩
  have r6 := I5.rdB x5.wf u6 r5
  rw [show addS 3 (3 + 1) [] = [(3, 4)] by decide] at I6
  refine PO.call (PieceO (id := 3) (dl := 9) (sz := 2) u6.wf I6 (by decide) (by omega) (by omega) rfl (by omega) r6 (by simp [mem_cons])) ?_
  rintro _ h7 ⟨rfl, x7⟩
  have hl6 := RdE.len e6
  rw [hl6]
  have I7 := I6.ex x7
  refine .condT (.ixE0 (Rd.ex x7 e6) fun a ea _ => .op ea (.letO ?_))
  rw [show bsOf [104, 105] = (⟨#[104, 105]⟩ : ByteArray) from rfl]
  simp only [beq_self_eq_true, Bool.and_self]
  refine PO.condT (.condT (.ptr ?_))
  rw [addA_zero]
  refine PO.call (IHas_f x7.wf I7 (by decide) 3) ?_
  rintro _ h8 ⟨rfl, x8⟩
  rw [decide_eq_true (show mem [(3, 4)] 3 by simp [mem_cons])]
  refine PO.condT (.ptr ?_)
  rw [addA_zero]
  refine PO.call (ICount_f (e := 40) x8.wf (I7.ex x8) (by decide) ⟨by decide, by decide, by decide, trivial⟩ (by omega)) ?_
  rintro _ h9 ⟨rfl, x9⟩
  refine .ret ⟨rfl, ?_⟩
  exact u6.ex0 (((x0.trans x1).trans x4).trans x5) (fun A hA e => by omega) |>.trans ((x7.trans x8).trans x9)
end Go.Proofs.Ytaebjajbogedkaa.T
