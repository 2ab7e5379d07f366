/- Lemmas about the typed texts (joined: SFrame4 SFrame5 SFrame6). -/
import Derived.Test.YthiccnmplgdheaaG15
set_option linter.unusedVariables false
set_option linter.unusedSimpArgs false
namespace Go.Proofs.Ythiccnmplgdheaa.T
open Go Go.Abs Go.Proofs
def ngo : Option Int -> List Run -> List Int
  | _, [] => []
  | p, r :: l => (match p with | none => r.2 | some q => q - r.2) :: (r.2 - r.1) :: ngo (some r.1) l
def flagV (b : Bool) : Int := if b then 1 else 0
def numsV (v : FV) : List Int :=
  if v.kind = 2 then v.kind :: (v.spans.length : Int) :: ngo none v.spans
  else if v.kind = 3 then [v.kind, v.id, v.off, flagV v.fin, (v.data.length : Int)]
  else if v.kind = 4 then [v.kind, v.id, v.a, v.off, v.b]
  else if v.kind = 5 \/ v.kind = 7 then [v.kind, v.id, v.a]
  else if v.kind = 6 \/ v.kind = 12 then [v.kind, v.a]
  else if v.kind = 8 then [v.kind, v.a, flagV v.fin]
  else if v.kind = 9 then [v.kind, (v.data.length : Int)]
  else if v.kind = 10 \/ v.kind = 11 then [v.kind, v.id]
  else [v.kind]
theorem flag_f (b : Bool) (h : H) : frame_flag b h = some (flagV b, h) := by cases b <;> rfl
theorem rdI_of {h : H} {b n : Nat} {L : List Value} {ns : List Int} (B : Box h b L) (w : WF h) (hL : L = ns.map (.int .i64)) (hn : ns.length = n) (hb : n < B63) : RdI .i64 h ⟨some ⟨b, 0, some 0⟩, n, n⟩ ns := by
  subst hL
  exact B.rd w (by simp; exact hn) (capOk_self _ _ hb)
theorem PO.appI {α : Type} {Q : α -> Prop} {h0 h : H} {out x : Sl} {acc ns : List Int} {g : Sl -> H -> Option α} (hb : Buf 1 h out (acc.map (.int .i64))) (hx : EX h0 h) (hf : Fr h0.size out) (r : RdI .i64 h x ns) (hl : acc.length + ns.length <= 2 ^ 40)
    (k : ∀ out1 h2, Buf 1 h2 out1 ((acc ++ ns).map (.int .i64)) -> EX h0 h2 -> Fr h0.size out1 -> KP h h2 -> PO (g out1 h2) Q) : PO (bind2 (appT 3 1 8 h out x) g) Q := by
  have l1 := hb.rd.len
  have l2 := r.len
  simp at l1
  obtain ⟨s', h', e, k1, x2, b2, _, f2⟩ := appT_ok (e := 3) (bytes := 8) (by omega) (by unfold B63; omega) hx.wf hb r (oneC_ints .i64 _) (by omega) (by omega)
  refine PO.callE e (k s' h' ?_ (x2 _ hx hf) (f2 _ hx.size hf) k1)
  rw [List.map_append]; exact b2
theorem RSp.all : ∀ {l : List Run} {p : Option Int}, RSp p l -> ∀ r ∈ l, (0 <= r.1 /\ r.1 <= r.2 /\ r.2 <= 4611686018427387903)
  | [], _, _, r, hr => by simp at hr
  | q :: l, p, h, r, hr => by
    rcases List.mem_cons.1 hr with e | e
    · subst e; have := h.1; unfold okN at this; have := h.2.1; omega
    · exact RSp.all h.2.2.2 r e
theorem ngo_length : ∀ (l : List Run) (p : Option Int), (ngo p l).length = 2 * l.length
  | [], _ => rfl
  | r :: l, p => by simp [ngo, ngo_length l]; omega
theorem numbers_f {h : H} (w : WF h) {x : F9} {v : FV} (hx : FRd h x v) (hr : v.kind = 2 -> RSs v.spans) : PO (frame_numbers x h) (fun (a, h1) => RdI .i64 h1 a (numsV v) /\ EX h h1) := by
  unfold frame_numbers
  obtain ⟨k, id, off, va, vb, note, fin, data, spans⟩ := v
  obtain ⟨xk, xid, xoff, xa, xb, xnote, xfin, xdata, xspans⟩ := x
  obtain ⟨⟨e1, e2, e3, e4, e5, e6, e7⟩, rd, rs⟩ := hx
  simp only at e1 e2 e3 e4 e5 e6 e7 rd rs hr
  subst e1 e2 e3 e4 e5 e6 e7
  have hdl := RdB.len rd
  refine PO.newB w fun g0 x0 B0 z0 w0 => ?_
  have hn0 := w0.nro
  have b63 : ∀ n : Nat, n < 10 -> n < B63 := fun n hn => by unfold B63; omega
  refine PO.joinD (PO.mono (P := Sum.elim (fun s => s = (some ⟨h.size, 0, some 0⟩, s.2) /\ EX h s.2 /\ numsV ⟨xk, xid, xoff, xa, xb, xnote, xfin, data, spans⟩ = [xk] /\ Box s.2 h.size (f9L (xk, xid, xoff, xa, xb, xnote, xfin, xdata, xspans))) (fun (a, h1) => RdI .i64 h1 a (numsV ⟨xk, xid, xoff, xa, xb, xnote, xfin, data, spans⟩) /\ EX h h1)) ?_ ?_)
  · refine .ldI B0 rfl (.condE (fun c2 => ?_) (fun c2 => ?_))
    · have hrs := hr c2
      have hl8 := hrs.2.2
      have hall := RSp.all hrs.1
      have hsl := RdR.len rs
      refine .ldI B0 rfl (.ldL B0 rfl (PO.newB w0 fun h1 x1 B1 z1 w1 => ?_))
      have C0 := Box.kx x1 B0
      have b1 : Buf 1 h1 ⟨some ⟨g0.size, 0, some 0⟩, 2, 2⟩ ([xk, (spans.length : Int)].map (.int .i64)) := by
        have := B1.buf (sz := 1) (n := 2) w1 rfl (by unfold B63; omega)
        rw [hsl] at this
        exact this
      refine PO.joinD (.ldL C0 rfl ?_)
      refine PO.loop (fun m st => ∃ (i : Nat) (out : Sl) (h' : H) (acc : List Int), st = ((some ⟨h.size, 0, some 0⟩, (out, (xspans, (((xspans.len : Nat) : Int), (i : Int))))), h') /\ m + i = spans.length /\ EX g0 h' /\ Fr g0.size out /\ Buf 1 h' out (acc.map (.int .i64)) /\ acc.length = 2 + 2 * i /\ acc ++ ngo (prevOf spans i) (spans.drop i) = xk :: (spans.length : Int) :: ngo none spans) ?_ spans.length _ ⟨0, _, h1, [xk, (spans.length : Int)], rfl, rfl, x1, fr_new _ _ _, b1, rfl, rfl⟩
      rintro m st ⟨i, out, h', acc, rfl, hm, hx', hf, hb, hal, hacc⟩
      unfold P.frame_numbers_l1
      refine .condD (fun c => ?_) (fun c => ?_)
      · have hil : i < spans.length := by omega
        have hd : spans.drop i = spans.getD i (0, 0) :: spans.drop (i + 1) := by
          rw [List.drop_eq_getElem_cons hil]; simp [List.getD, hil]
        have hpn : prevOf spans (i + 1) = some (spans.getD i (0, 0)).1 := by unfold prevOf; rw [if_neg (by omega)]; rfl
        have hrm : spans.getD i (0, 0) ∈ spans := by rw [List.getD_eq_getElem?_getD, List.getElem?_eq_getElem hil]; exact List.getElem_mem hil
        have hrb := hall _ hrm
        have rs1 := (rs.ex x0).ex hx'
        have hwi : IntKind.wrap .i64 ((i : Int) + 1) = ((i + 1 : Nat) : Int) := by rw [w64 (by omega) (by omega)]; rfl
        refine PO.joinD (.ixR rs1 (by omega) (by omega) fun a _ _ _ ez _ _ => .op ez ?_)
        simp only [Int.toNat_natCast]
        generalize hR : spans.getD i (0, 0) = r at *
        refine PO.newB hx'.wf fun h2 x2 B2 z2 w2 => PO.stZ B2 w2 rfl rfl fun h3 B3 u3 z3 w3 => ?_
        have B3' : Box h3 h'.size [.int .i64 r.1, .int .i64 r.2] := B3
        have y3 : EX g0 h3 := u3.ex0 (hx'.trans x2) (fun A hA e => by have := hx'.size; omega)
        have y3' : EX h' h3 := u3.ex0 x2 (fun A hA e => by omega)
        have b3 := hb.ex hx'.wf y3'
        have fin1 : ∀ (out1 : Sl) (h4 : H) (acc1 : List Int), acc1 = acc ++ [match prevOf spans i with | none => r.2 | some q => q - r.2, r.2 - r.1] -> EX g0 h4 -> Fr g0.size out1 -> Buf 1 h4 out1 (acc1.map (.int .i64)) -> ∃ n', n' < m /\ ∃ (i1 : Nat) (out : Sl) (h' : H) (acc : List Int), (((some ⟨h.size, 0, some 0⟩ : Option Addr), (out1, (xspans, (((xspans.len : Nat) : Int), IntKind.wrap .i64 ((i : Int) + 1))))), h4) = (((some ⟨h.size, 0, some 0⟩ : Option Addr), (out, (xspans, (((xspans.len : Nat) : Int), (i1 : Int))))), h') /\ n' + i1 = spans.length /\ EX g0 h' /\ Fr g0.size out /\ Buf 1 h' out (acc.map (.int .i64)) /\ acc.length = 2 + 2 * i1 /\ acc ++ ngo (prevOf spans i1) (spans.drop i1) = xk :: (spans.length : Int) :: ngo none spans := by
          intro out1 h4 acc1 ea y f b
          refine ⟨m - 1, by omega, i + 1, out1, h4, acc1, by rw [hwi], by omega, y, f, b, by rw [ea]; simp; omega, ?_⟩
          rw [ea, hpn, <- hacc, hd]
          simp [ngo]
        refine .condE (fun ci => ?_) (fun ci => ?_)
        · have hi0 : i = 0 := by omega
          have hp : prevOf spans i = none := by unfold prevOf; rw [if_pos hi0]
          refine .ixA (by omega) (by omega) (.ldI B3' rfl (.ixA (by omega) (by omega) (.ldI B3' rfl (.ixA (by omega) (by omega) (.ldI B3' rfl ?_)))))
          rw [w64 (n := r.2 - r.1) (by omega) (by omega)]
          refine PO.newB w3 fun h4 x4 B4 z4 w4 => ?_
          have ri : RdI .i64 h4 ⟨some ⟨h3.size, 0, some 0⟩, 2, 2⟩ [r.2, r.2 - r.1] := rdI_of B4 w4 rfl rfl (b63 _ (by omega))
          refine PO.appI (b3.ex w3 x4) (y3.trans x4) hf ri (by simp; omega) fun out1 h5 b5 y5 f5 _ => .retL (show PO _ _ from .retL ?_)
          exact fin1 out1 h5 _ (by rw [hp]) y5 f5 b5
        · have hip : 0 < i := by
            have : (i : Int) ≠ 0 := ci
            omega
          have hpv : prevOf spans i = some (spans.getD (i - 1) (0, 0)).1 := by unfold prevOf; rw [if_neg (by omega)]
          have hqm : spans.getD (i - 1) (0, 0) ∈ spans := by rw [List.getD_eq_getElem?_getD, List.getElem?_eq_getElem (by omega)]; exact List.getElem_mem (by omega)
          have hqb := hall _ hqm
          refine .ptr (PO.letGrow w3 fun h4 x4 z4 w4 n4 => ?_)
          have D0 : Box h4 h.size (f9L (xk, xid, xoff, xa, xb, xnote, xfin, xdata, xspans)) := Box.kx (y3.trans x4) B0
          have B4 := Box.kx x4 B3'
          refine .ldL D0 rfl ?_
          rw [w64 (n := (i : Int) - 1) (by omega) (by omega), show (i : Int) - 1 = ((i - 1 : Nat) : Int) by omega]
          refine .ixR ((rs.ex x0).ex (y3.trans x4)) (by omega) (by omega) fun a1 _ _ _ _ e1 _ => .ixA (by omega) (by omega) ?_
          simp only [Int.toNat_natCast] at e1
          refine .op e1 (.ixA (by omega) (by omega) (.ldI B4 rfl (.ixA (by omega) (by omega) (.ldI B4 rfl (.ixA (by omega) (by omega) (.ldI B4 rfl ?_))))))
          rw [w64 (n := r.2 - r.1) (by omega) (by omega), w64 (n := (spans.getD (i - 1) (0, 0)).1 - r.2) (by omega) (by omega)]
          have hn3 := w3.nro
          refine PO.addNew w4 (by decide) (n4 16 (by omega)) (by omega) (by rw [x4.nro]; omega) fun h5 N5 B5 => .addNil ?_
          have y5 : EX g0 h5 := N5.ex0 (y3.trans x4) (by have := y3.size; omega)
          have ri : RdI .i64 h5 ⟨some ⟨h3.size + 16, 0, some 0⟩, 2, 2⟩ [(spans.getD (i - 1) (0, 0)).1 - r.2, r.2 - r.1] := rdI_of B5 N5.wf rfl rfl (b63 _ (by omega))
          refine PO.appI (N5.buf w4 (b3.ex w3 x4)) y5 hf ri (by simp; omega) fun out1 h6 b6 y6 f6 k6 => ?_
          refine .addOld (k6.som _ B5.ne) (.addNil (PO.letTick y6.wf fun h7 x7 z7 w7 => .retL (show PO _ _ from .retL ?_)))
          exact fin1 out1 h7 _ (by rw [hpv]) (y6.trans x7) f6 (b6.ex y6.wf x7)
      · have : i = spans.length := by omega
        subst this
        rw [List.drop_length] at hacc
        simp only [ngo, List.append_nil] at hacc
        refine .retR ?_
        show PO _ _
        refine .retR ⟨?_, x0.trans hx'⟩
        unfold numsV
        rw [if_pos c2, <- hacc]
        exact hb.rd
    · clear hr rs rd
      repeat' (first
        | refine PO.chk (by simp [slEq_self]) ?_
        | refine .condE (fun e => ?_) (fun e => ?_)
        | refine .ldI (by assumption) rfl ?_
        | refine .ldB (by assumption) rfl ?_
        | refine .ldL (by assumption) rfl ?_
        | refine .callE (flag_f _ _) ?_
        | (refine PO.letGrow w0 fun h1 x1 z1 w1 n1 => ?_; have C1 := Box.kx x1 B0)
        | refine PO.addOff (by decide) (PO.addNil ?_)
        | refine PO.addNew w1 (by decide) (n1 _ (by omega)) (by omega) (by rw [x1.nro]; omega) fun h2 N2 B2 => PO.addNil (PO.letTick N2.wf fun h3 x3 z3 w3 => PO.retR ⟨rdI_of (Box.kx x3 B2) w3 ?_ ?_ (b63 _ (by omega)), (N2.ex0 (x0.trans x1) (by omega)).trans x3⟩)
        | refine PO.newB w0 fun h2 x2 B2 z2 w2 => PO.retR ⟨rdI_of B2 w2 ?_ ?_ (b63 _ (by omega)), x0.trans x2⟩
        | refine PO.retL ⟨rfl, x0, ?_, B0⟩)
      all_goals dsimp only at *
      all_goals (first | (exfalso; omega) | simp [numsV, hdl, *])
  · rintro (⟨s, h1⟩ | ⟨a, h1⟩) hp
    · obtain ⟨es, x1, en, B1⟩ := hp
      have es' : s = some ⟨h.size, 0, some 0⟩ := congrArg Prod.fst es
      subst es'
      have x1' : EX h h1 := x1
      have B1' : Box h1 h.size (f9L (xk, xid, xoff, xa, xb, xnote, xfin, xdata, xspans)) := B1
      refine .ptr (.ldI B1' rfl (PO.newB x1'.wf fun h2 x2 B2 z2 w2 => .ret ⟨rdI_of B2 w2 ?_ ?_ (b63 _ (by omega)), x1'.trans x2⟩))
      · rw [en]; rfl
      · rw [en]; rfl
    · exact hp
end Go.Proofs.Ythiccnmplgdheaa.T
namespace Go.Abs
open Go
/-- a heap's first blocks -/
def cutH (h : H) (n : Nat) : H := { h with size := n, objs := trOf h.objs.get n }
theorem cutH_ex {h : H} (w : WF h) {n : Nat} (h1 : h.nro <= n) (h2 : n <= h.size) : EX (cutH h n) h /\ WF (cutH h n) :=
  ⟨⟨h2, rfl, w, fun A hA => by show _ = (trOf _ _).get A; rw [get_trOf, if_pos (show A < n from hA)], rfl⟩, ⟨h1, fun A hA => by show (trOf _ _).get A = none; rw [get_trOf, if_neg (by have : n <= A := hA; omega)], fun A r hr => by
    have : (trOf h.objs.get n).get A = some (.arr r) := hr
    rw [get_trOf] at this
    split at this
    · exact w.arr A r this
    · simp at this⟩⟩
/-- what goes on with every heap's first blocks stays but behind them -/
theorem up_of_ex {h h' : H} {s : Sl} (w : WF h) (x : ∀ h0, EX h0 h -> Fr h0.size s -> EX h0 h') (k : KP h h') {n : Nat} (h1 : h.nro <= n) (h2 : n <= h.size) (f : Fr n s) : UP (fun A => n <= A) h h' := by
  have y := x (cutH h n) (cutH_ex w h1 h2).1 f
  refine ⟨k.size, k.nro, k.wf, fun A hA hn => ?_, k.st⟩
  have hA' : A < n := by omega
  rw [y.same A hA', (cutH_ex w h1 h2).1.same A hA']
theorem clip_eq {sz : Nat} (hz : 0 < sz) (hz2 : sz < B63) {h : H} {s : Sl} {l : List Value} (r : Rd sz h s l) (hl : s.len < B63) :
    ∃ s', slT sz h s none (some (s.len : Int)) (some (s.len : Int)) = some s' /\ Rd sz h s' l /\ s'.len = s.len /\ s'.base = s.base /\ s'.cap = s.len := by
  obtain ⟨s', e, r', h1, h2, h3⟩ := clip_ok hz hz2 r hl
  refine ⟨s', e, r', h1, ?_⟩
  obtain ⟨b, len, cap⟩ := s
  cases b with
  | none =>
    refine ⟨h2 rfl, ?_⟩
    have := (r'.nilOf (h2 rfl)).2
    have hn := (r.nil rfl).1
    simp only at hn
    rw [this]; exact hn.symm
  | some a =>
    have hcap := r.cap (by simp)
    simp only at hcap hl
    have hcl := capLow_ge h a hcap
    have b1 : bnd (capLow h a len sz (capK cap)) (.int .i64 (len : Int)) = some len := by
      have := bnd_int (y := capLow h a len sz (capK cap)) (i := (len : Int)) (k := .i64) (by omega) (by omega)
      simpa using this
    have b2 : bnd len (.int .i64 (len : Int)) = some len := by
      have := bnd_int (y := len) (i := (len : Int)) (k := .i64) (by omega) (by omega)
      simpa using this
    have u0 : (isUnk0 (capK cap) && !Nat.beq 0 0 || !len.blt B63) = false := by
      simp only [show Nat.beq 0 0 = true from rfl, Bool.not_true, Bool.and_false, Bool.false_or, Bool.not_eq_false']
      simp only [Nat.blt_eq]; exact hl
    have : slA (DSE 0 (tyS sz 0 .nilFunc)) h 1 (encSl ⟨some a, len, cap⟩) none (some (.int .i64 (len : Int))) (some (.int .i64 (len : Int))) = some (.slice (some (bif len.beq 0 then a else add a (0 * sz))) (len - 0) (len - 0)) := by
      unfold slA encSl
      simp only [show (DSE 0 (tyS sz 0 .nilFunc)).ty.get 1 = some ⟨1, 24, .slice none 0 0, .slice 0, false⟩ from DSE_s 0 _, DSE_e]
      simp only [DSE_e, show (tyS sz 0 .nilFunc).size = sz from rfl, b1, b2, bndO_none, u0, cond_false]
    have e2 := slT_of (lo := none) (hi := some (len : Int)) (mx := some (len : Int)) this
    simp only at e
    rw [e] at e2
    have e3 := Option.some.inj e2
    rw [e3]
    simp only [Nat.zero_mul, addA_zero]
    cases len.beq 0 <;> exact ⟨rfl, rfl⟩
theorem clip_buf {sz : Nat} (hz : 0 < sz) (hz2 : sz < B63) {h : H} {s : Sl} {l : List Value} (r : Buf sz h s l) (hl : s.len < B63) :
    ∃ s', slT sz h s none (some (s.len : Int)) (some (s.len : Int)) = some s' /\ Buf sz h s' l /\ s'.len = s.len /\ s'.base = s.base := by
  obtain ⟨s', e, r', h1, h2, h3⟩ := clip_eq hz hz2 r.rd hl
  refine ⟨s', e, ⟨r', ?_⟩, h1, h2⟩
  rcases r.tip with ht | ⟨a, q, e, g1, g2, g3, g4, g5, g6, g7⟩
  · exact .inl (h2.trans ht)
  · exact .inr ⟨a, q, e, h2.trans g1, g2, g3, g4, g5, by rw [h1]; exact g6, by rw [h3, h1, capK_exact hl]⟩
theorem Rd.ldZat {sz : Nat} {h : H} {s : Sl} {l : List Value} {a : Addr} (r : Rd sz h s l) (ha : s.base = some a) (k : Nat) (zs : List Z) (x : ZT zs) (hl : (l.drop k).take zs.length = encL zs x) : Abs.ldZ zs h (add a k) = some x := by
  refine ldZ_of ?_
  have h1 := encL_length zs x
  have := ldCells_of (h := h) (encL zs x) (add a k) (fun i v hi => by
    have hlt := (List.getElem?_eq_some_iff.1 hi).1
    rw [h1] at hlt
    rw [<- hl, List.getElem?_take_of_lt hlt, List.getElem?_drop] at hi
    rw [add_add]
    exact (r.ld a ha _ _ hi).2)
  rwa [h1] at this
end Go.Abs
namespace Go.Proofs.Ythiccnmplgdheaa.T
open Go Go.Abs Go.Proofs
theorem Put_buf {h : H} {b n : Sl} {l : List UInt8} {zs : List Int} (w : WF h) (hb : RdB h b l) (hr : RdI .i64 h n zs) (hl : l.length + 8 * zs.length <= 2 ^ 47) (hall : ∀ x ∈ zs, okN x) :
    ∃ s' h', varint_Put b n h = some (s', h') /\ EX h h' /\ BufB h' s' (l ++ encs zs) /\ Fr h.size s' := by
  unfold varint_Put P.varint_Put
  obtain ⟨s1, h1, e1, x1, b1, f1, _⟩ := clone_f w hb (by omega)
  rw [e1, bind2_some, hr.len]
  simp only
  obtain ⟨out', h', e2, b2, x2, f2⟩ := put_l1 hr (by omega) zs.length 0 s1 l h1 (by omega) b1 x1 f1 (by omega) (by simpa using hall)
  simp only [varint_Put_l1, Int.natCast_zero] at e2
  rw [e2, joinO_inl]
  simp only
  have hlen := b2.rd.len
  have hel := encs_length zs
  obtain ⟨s3, e3, r3, _, hb3⟩ := clip_buf (by omega) (by unfold B63; omega) b2 (by rw [hlen]; unfold B63; simp; omega)
  unfold slices_Clip_byte
  rw [e3, bindO_some, bind2_some]
  exact ⟨s3, h', rfl, x2, by simpa [BufB] using r3, fun a ha => f2 a (hb3 ▸ ha)⟩
def fsV : List F9 -> List Value
  | [] => []
  | x :: l => f9L x ++ fsV l
theorem fsV_app : ∀ (a b : List F9), fsV (a ++ b) = fsV a ++ fsV b
  | [], b => rfl
  | r :: a, b => by simp [fsV, fsV_app a b]
theorem fsV_length : ∀ l : List F9, (fsV l).length = l.length * 9
  | [] => rfl
  | r :: l => by simp [fsV, fsV_length l]; omega
theorem fsV_oneC : ∀ l : List F9, (fsV l).all oneC = true
  | [] => rfl
  | r :: l => by simp [fsV, oneC, fsV_oneC l]
theorem fsV_get : ∀ (l : List F9) (j : Nat), j < l.length -> ((fsV l).drop (j * 9)).take 9 = f9L (l.getD j f90)
  | r :: l, 0, _ => by simp [fsV]
  | r :: l, j + 1, h => by
    have := fsV_get l j (by simpa using h)
    rw [show (j + 1) * 9 = 9 + j * 9 by omega, <- List.drop_drop]
    exact this
def FRs (h : H) : List F9 -> List FV -> Prop
  | [], [] => True
  | x :: xs, v :: vs => FRd h x v /\ FRs h xs vs
  | _, _ => False
structure RdF (h : H) (s : Sl) (xs : List F9) (vs : List FV) : Prop where
  rd : Rd 9 h s (fsV xs)
  frs : FRs h xs vs
theorem FRs.len {h : H} : ∀ {xs : List F9} {vs : List FV}, FRs h xs vs -> xs.length = vs.length
  | [], [], _ => rfl
  | x :: xs, v :: vs, r => by simp [FRs.len r.2]
  | [], _ :: _, r => r.elim
  | _ :: _, [], r => r.elim
theorem FRs.map {h h' : H} (k : ∀ x v, FRd h x v -> FRd h' x v) : ∀ {xs : List F9} {vs : List FV}, FRs h xs vs -> FRs h' xs vs
  | [], [], _ => trivial
  | x :: xs, v :: vs, r => ⟨k x v r.1, FRs.map k r.2⟩
  | [], _ :: _, r => r.elim
  | _ :: _, [], r => r.elim
theorem FRs.ex {h h' : H} {xs : List F9} {vs : List FV} (y : EX h h') (r : FRs h xs vs) : FRs h' xs vs := r.map fun x v => FRd.ex y
theorem FRs.app {h : H} : ∀ {xs ys : List F9} {vs us : List FV}, FRs h xs vs -> FRs h ys us -> FRs h (xs ++ ys) (vs ++ us)
  | [], _, [], _, _, r => r
  | x :: xs, _, v :: vs, _, r, q => ⟨r.1, FRs.app r.2 q⟩
  | [], _, _ :: _, _, r, _ => r.elim
  | _ :: _, _, [], _, r, _ => r.elim
def fv0 : FV := ⟨0, 0, 0, 0, 0, 0, false, [], []⟩
theorem FRs.get {h : H} : ∀ {xs : List F9} {vs : List FV}, FRs h xs vs -> ∀ j, j < vs.length -> FRd h (xs.getD j f90) (vs.getD j fv0)
  | [], [], _, j, hj => by simp at hj
  | x :: xs, v :: vs, r, 0, _ => r.1
  | x :: xs, v :: vs, r, j + 1, hj => FRs.get r.2 j (by simpa using hj)
  | [], _ :: _, r, _, _ => r.elim
  | _ :: _, [], r, _, _ => r.elim
theorem FRs.take {h : H} : ∀ {xs : List F9} {vs : List FV}, FRs h xs vs -> ∀ j, FRs h (xs.take j) (vs.take j)
  | [], [], _, j => by simp [FRs]
  | x :: xs, v :: vs, r, 0 => trivial
  | x :: xs, v :: vs, r, j + 1 => ⟨r.1, FRs.take r.2 j⟩
  | [], _ :: _, r, _ => r.elim
  | _ :: _, [], r, _ => r.elim
theorem RdF.ex {h h' : H} {s : Sl} {xs : List F9} {vs : List FV} (y : EX h h') (r : RdF h s xs vs) : RdF h' s xs vs := ⟨Rd.ex y r.rd, r.frs.ex y⟩
theorem RdF.len {h : H} {s : Sl} {xs : List F9} {vs : List FV} (r : RdF h s xs vs) : s.len = vs.length := by
  have := r.rd.len; rw [fsV_length] at this; have := r.frs.len; omega
theorem PO.ixF {α : Type} {Q : α -> Prop} {h : H} {s : Sl} {xs : List F9} {vs : List FV} {j : Int} {g : Addr -> Option α} (r : RdF h s xs vs) (h0 : 0 <= j) (h1 : j < vs.length)
    (p : ∀ a b, s.base = some b -> a = add b (j.toNat * 9) -> Abs.ldZ [.int .i64, .int .i64, .int .i64, .int .i64, .int .i64, .int .i64, .bool, .sl, .sl] h a = some (xs.getD j.toNat f90) -> FRd h (xs.getD j.toNat f90) (vs.getD j.toNat fv0) -> PO (g a) Q) : PO (bindO (ixT 9 s j) g) Q := by
  obtain ⟨a, ha, e⟩ := ixT_ok r.rd h0 (by rw [RdF.len r]; exact h1)
  have hl := r.frs.len
  have hj : j.toNat < xs.length := by omega
  exact .op e (p _ a ha rfl (Rd.ldZat r.rd ha _ zF (xs.getD j.toNat f90) (fsV_get xs _ hj)) (r.frs.get _ (by omega)))
theorem PO.appF1 {α : Type} {Q : α -> Prop} {h : H} {out : Sl} {xs : List F9} {x : F9} {n : Nat} {g : Sl -> H -> Option α} (w : WF h) (hb : Buf 9 h out (fsV xs)) (hn : h.nro <= n) (hn2 : n <= h.size) (hf : Fr n out) (hl : xs.length + 1 <= 2 ^ 40)
    (k : ∀ out1 h2, Buf 9 h2 out1 (fsV (xs ++ [x])) -> UP (fun A => n <= A) h h2 -> Fr n out1 -> KP h h2 -> PO (g out1 h2) Q) : PO (newO (row 33 (f9L x)) h fun b h1 => bind2 (appT 33 9 104 h1 out ⟨some ⟨b, 0, some 0⟩, 1, 1⟩) g) Q := by
  refine PO.newB w fun h1 x1 B1 z1 w1 => ?_
  have r1 : Rd 9 h1 ⟨some ⟨h.size, 0, some 0⟩, 1, 1⟩ (fsV [x]) := B1.rd w1 rfl (by unfold CapOK; rw [capK_exact (by unfold B63; omega)]; exact Nat.le_refl _)
  have hb1 : Buf 9 h1 out (fsV xs) := hb.ex w x1
  have hlen := hb1.rd.len
  rw [fsV_length] at hlen
  obtain ⟨s', h', e, k1, x2, b2, _, f2⟩ := appT_ok (e := 33) (bytes := 104) (by omega) (by unfold B63; omega) w1 hb1 r1 (fsV_oneC _) (by simp only; omega) (by simp only; omega)
  refine PO.callE e (k s' h' ?_ (x1.trans_up (up_of_ex w1 x2 k1 (by rw [x1.nro]; exact hn) (by omega) hf)) (f2 _ (by omega) hf) ((x1.kp w).trans k1))
  rw [fsV_app]; exact b2
/-- a frame copied into a box of its own -/
theorem PO.boxF {α : Type} {Q : α -> Prop} {h : H} {x : F9} {t : Nat} {L : List Value} {f : Nat -> H -> Option α} (hL : L.length = 9) (w : WF h) (p : ∀ h2, EX h h2 -> Box h2 h.size (f9L x) -> h2.size = h.size + 1 -> PO (f h.size h2) Q) :
    PO (newO (row t L) h fun b h1 => bindO (Abs.stZ [.int .i64, .int .i64, .int .i64, .int .i64, .int .i64, .int .i64, .bool, .sl, .sl] h1 ⟨b, 0, some 0⟩ x) fun h2 => f b h2) Q :=
  PO.newB w fun h1 x1 B1 z1 w1 => PO.stZ B1 w1 (by rw [hL]; rfl) rfl fun h2 B2 u2 z2 w2 => p h2 (u2.ex0 x1 (fun A hA e => by omega)) B2 (by omega)
theorem ngo_ok : ∀ {l : List Run} {p : Option Int}, RSp p l -> (∀ q, p = some q -> okN q) -> ∀ n ∈ ngo p l, okN n
  | [], _, _, _, n, hn => by simp [ngo] at hn
  | r :: l, p, h, hp, n, hn => by
    obtain ⟨h1, h2, h3, h4⟩ := h
    have h1' := h1
    unfold okN at h1'
    simp only [ngo, List.mem_cons] at hn
    rcases hn with e | e | e
    · subst e
      cases p with
      | none => exact h1.2
      | some q => have := h3 q rfl; have := hp q rfl; unfold okN at this ⊢; simp only; omega
    · subst e; unfold okN; omega
    · exact ngo_ok h4 (fun q hq => by cases hq; exact h1.1) n e
theorem FR.nums {v : FV} (h : FR v) : (∀ n ∈ numsV v, okN n) /\ (numsV v).length <= 18 := by
  obtain ⟨⟨h1, h2, ⟨h3, h4, h5, h6⟩, h7⟩, h8⟩ := h
  have hk : okN v.kind := by unfold okN; omega
  have hf : okN (flagV v.fin) := by unfold okN flagV; split <;> omega
  have hd : okN (v.data.length : Int) := by unfold okN; omega
  unfold numsV
  split
  · rename_i k2
    have hs : RSs v.spans := by unfold FR1 at h8; rwa [if_pos k2] at h8
    have hl := hs.2.2
    refine ⟨?_, by simp [ngo_length]; omega⟩
    intro n hn
    rcases List.mem_cons.1 hn with e | hn
    · subst e; exact hk
    · rcases List.mem_cons.1 hn with e | hn
      · subst e; unfold okN; omega
      · exact ngo_ok hs.1 (fun q hq => by simp at hq) n hn
  · (repeat' split) <;> exact ⟨by simp [hk, h3, h4, h5, h6, hf, hd], by simp⟩
def lay1 (v : FV) : List UInt8 := encs (numsV v) ++ v.data
def layFs : List FV -> List UInt8
  | [] => []
  | v :: l => lay1 v ++ layFs l
theorem layFs_app : ∀ (a b : List FV), layFs (a ++ b) = layFs a ++ layFs b
  | [], b => rfl
  | r :: a, b => by simp [layFs, layFs_app a b]
theorem lay1_length {v : FV} (h : FR v) : (lay1 v).length <= 264 := by
  have h1 := encs_length (numsV v)
  have h2 := (FR.nums h).2
  have h3 := h.1.2.2.2
  simp only [lay1, List.length_append]; omega
def SzOK (vs : List FV) : Prop := ∀ v ∈ vs, v.data.length <= 2 ^ 47 /\ v.spans.length <= 2 ^ 40
theorem take_succ_getD {α : Type} (l : List α) (d : α) {i : Nat} (h : i < l.length) : l.take (i + 1) = l.take i ++ [l.getD i d] := by
  rw [List.take_add_one, List.getD_eq_getElem?_getD, List.getElem?_eq_getElem h]; rfl
theorem getD_mem {α : Type} (l : List α) (d : α) {i : Nat} (h : i < l.length) : l.getD i d ∈ l := by
  rw [List.getD_eq_getElem?_getD, List.getElem?_eq_getElem h]; exact List.getElem_mem h
theorem layFs_length : ∀ {vs : List FV}, (∀ v ∈ vs, FR v) -> (layFs vs).length <= 264 * vs.length
  | [], _ => by simp [layFs]
  | v :: vs, h => by
    have h1 := lay1_length (h v (by simp))
    have h2 := layFs_length (vs := vs) (fun u hu => h u (by simp [hu]))
    simp only [layFs, List.length_append, List.length_cons]; omega
theorem FLay_f {h : H} (w : WF h) {s : Sl} {xs : List F9} {vs : List FV} (r : RdF h s xs vs) (hn : vs.length <= 2 ^ 30) (hz : SzOK vs) :
    PO (frame_Lay s h) (fun (a, h1) => EX h h1 /\ if ∀ v ∈ vs, FR v then RdB h1 a.1 (layFs vs) /\ a.2 = 0 else RdB h1 a.1 [] /\ a.2 = 1) := by
  unfold frame_Lay
  have hlen := RdF.len r
  refine PO.joinD (PO.mono (P := Sum.elim (fun a => EX h a.2 /\ BufB a.2 a.1 (layFs vs) /\ ∀ v ∈ vs, FR v) (fun a => a.1 = (⟨none, 0, 0⟩, 1) /\ EX h a.2 /\ ¬ ∀ v ∈ vs, FR v)) ?_ ?_)
  · refine PO.loop (fun m st => ∃ (i : Nat) (out : Sl) (h' : H), st = ((out, (s, (((s.len : Nat) : Int), (i : Int)))), h') /\ m + i = vs.length /\ EX h h' /\ Fr h.size out /\ BufB h' out (layFs (vs.take i)) /\ ∀ v ∈ vs.take i, FR v) ?_ vs.length _ ⟨0, _, h, rfl, rfl, EX.refl w, fr_nil _, buf_nil 1 h, by simp⟩
    rintro m st ⟨i, out, h', rfl, hm, hx, hf, hb, hall⟩
    unfold P.frame_Lay_l1
    refine .condD (fun c => ?_) (fun c => ?_)
    · have hil : i < vs.length := by omega
      refine PO.ixF (r.ex hx) (by omega) (by omega) fun a _ _ _ e1 fr => .op e1 ?_
      simp only [Int.toNat_natCast] at fr ⊢
      have hv := hz _ (getD_mem vs fv0 hil)
      have htk := take_succ_getD vs fv0 hil
      have hmem := getD_mem vs fv0 hil
      generalize vs.getD i fv0 = v at *
      generalize xs.getD i f90 = x at *
      refine PO.boxF rfl hx.wf fun h2 x2 B2 z2 => PO.ldF B2 (PO.call (FRight_f x2.wf (fr.ex x2) hv.1 hv.2) fun a h3 ⟨ea, x3⟩ => ?_)
      subst ea
      have B3 := Box.kx x3 B2
      refine .condND (fun hn => .retR ⟨rfl, (hx.trans x2).trans x3, fun ha => hn (ha v hmem)⟩) (fun hv2 => ?_)
      have hnum := FR.nums hv2
      refine PO.ldF B3 (PO.call (numbers_f x3.wf ((fr.ex x2).ex x3) (fun k2 => by have := hv2.2; unfold FR1 at this; rwa [if_pos k2] at this)) fun a h4 ⟨ra, x4⟩ => ?_)
      have B4 := Box.kx x4 B3
      have x04 := (x2.trans x3).trans x4
      have hlt := layFs_length hall
      have hl2 : (vs.take i).length <= i := by simp; omega
      have hd := hv2.1.2.2.2
      have hel := encs_length (numsV v)
      obtain ⟨s5, h5, e5, x5, b5, f5⟩ := Put_buf x4.wf ((BufB.rd hb).ex x04) ra (by omega) hnum.1
      have B5 := Box.kx x5 B4
      refine .callE e5 (.ldL B5 rfl ?_)
      have rd5 := ((fr.ex x04).ex x5).data
      obtain ⟨s6, h6, e6, k6, x6, b6, _, f6⟩ := appB_ok (e := 5) x5.wf b5 rd5 (by simp only [List.length_append]; omega)
      have hs5 : Fr h.size s5 := f5.mono ((hx.trans x04).size)
      refine .callE e6 (.ldL B4 rfl (.chk (by simp [slEq_self]) (.ldL B3 rfl (.chk (by simp [slEq_self]) (.retL ⟨m - 1, by omega, i + 1, s6, h6, ?_, by omega, x6 h ((hx.trans x04).trans x5) hs5, f6 _ ((hx.trans x04).trans x5).size hs5, ?_, ?_⟩)))))
      · rw [w64 (by omega) (by omega)]; rfl
      · rw [htk, layFs_app]
        simp only [layFs, lay1, List.append_nil]
        rw [<- List.append_assoc]
        exact b6
      · rw [htk]
        intro u hu
        rcases List.mem_append.1 hu with hu | hu
        · exact hall u hu
        · simp at hu; subst hu; exact hv2
    · have : i = vs.length := by omega
      subst this
      rw [List.take_of_length_le (Nat.le_refl _)] at hb hall
      exact .retR ⟨hx, hb, hall⟩
  · rintro (⟨out, h1⟩ | ⟨⟨a, e⟩, h1⟩) hp
    · obtain ⟨x1, b1, hall⟩ := hp
      have b1' : BufB h1 out (layFs vs) := b1
      have hlt := layFs_length hall
      obtain ⟨s', e1, r1, _⟩ := clipB_f b1'.rd (by omega)
      refine PO.callE e1 (.ret ⟨x1, ?_⟩)
      rw [if_pos hall]
      exact ⟨r1, rfl⟩
    · obtain ⟨ea, x1, hnall⟩ := hp
      simp only [Prod.mk.injEq] at ea
      obtain ⟨rfl, rfl⟩ := ea
      refine ⟨x1, ?_⟩
      rw [if_neg hnall]
      exact ⟨rdB_nil _, rfl⟩
def sameFs : List FV -> List FV -> Prop
  | [], [] => True
  | v :: vs, u :: us => sameV v u /\ sameFs vs us
  | _, _ => False
def decSameFs : (a b : List FV) -> Decidable (sameFs a b)
  | [], [] => .isTrue trivial
  | v :: vs, u :: us => by
    have := decSameFs vs us
    exact inferInstanceAs (Decidable (sameV v u /\ sameFs vs us))
  | [], _ :: _ => .isFalse id
  | _ :: _, [] => .isFalse id
instance (a b : List FV) : Decidable (sameFs a b) := decSameFs a b
theorem sameFs_len : ∀ {a b : List FV}, sameFs a b -> a.length = b.length
  | [], [], _ => rfl
  | v :: vs, u :: us, h => by simp [sameFs_len h.2]
  | [], _ :: _, h => h.elim
  | _ :: _, [], h => h.elim
theorem sameFs_drop {a b : List FV} {i : Nat} (ha : i < a.length) (hb : i < b.length) : sameFs (a.drop i) (b.drop i) ↔ sameV (a.getD i fv0) (b.getD i fv0) /\ sameFs (a.drop (i + 1)) (b.drop (i + 1)) := by
  have h1 : a.drop i = a.getD i fv0 :: a.drop (i + 1) := by rw [List.drop_eq_getElem_cons ha]; simp [List.getD, ha]
  have h2 : b.drop i = b.getD i fv0 :: b.drop (i + 1) := by rw [List.drop_eq_getElem_cons hb]; simp [List.getD, hb]
  rw [h1, h2]; exact Iff.rfl
end Go.Proofs.Ythiccnmplgdheaa.T
