/- Lemmas about the typed texts (joined: SAck2 SFrame4 SFrame5). -/
import Derived.Test.YtaebjajbogedkaaG14
/- Chapter 7's functions over the typed texts: spans taken out, turned about, a frame of them. -/
set_option linter.unusedVariables false
set_option linter.unusedSimpArgs false
namespace Go.Proofs.Ytaebjajbogedkaa.T
open Go Go.Abs Go.Proofs
def OwnR (h : H) (s : Sl) (l : List Run) : Prop := OwnS 2 h s (runsV l)
theorem OwnR.rd {h : H} {s : Sl} {l : List Run} (o : OwnR h s l) : RdR h s l := OwnS.rd o
theorem runsV_set : ∀ (l : List Run) (i : Nat) (r : Run), i < l.length → (runsV l).take (i * 2) ++ [.int .i64 r.1, .int .i64 r.2] ++ (runsV l).drop (i * 2 + 2) = runsV (l.set i r)
  | q :: l, 0, r, _ => by simp [runsV]
  | q :: l, i + 1, r, h => by
    have := runsV_set l i r (by simpa using h)
    rw [show (i + 1) * 2 = i * 2 + 1 + 1 by omega, show i * 2 + 1 + 1 + 2 = i * 2 + 2 + 1 + 1 by omega]
    simp only [runsV, List.take_succ_cons, List.drop_succ_cons, List.set_cons_succ, List.cons_append]
    rw [← this]
theorem runsV_set2 : ∀ (l : List Run) (i : Nat) (y : Int), i < l.length → (runsV l).take (i * 2 + 1) ++ [.int .i64 y] ++ (runsV l).drop (i * 2 + 1 + 1) = runsV (l.set i ((l.getD i (0, 0)).1, y))
  | q :: l, 0, y, _ => by simp [runsV]
  | q :: l, i + 1, y, h => by
    have := runsV_set2 l i y (by simpa using h)
    rw [show (i + 1) * 2 + 1 = i * 2 + 1 + 1 + 1 by omega, show i * 2 + 1 + 1 + 1 + 1 = i * 2 + 1 + 1 + 1 + 1 by omega]
    simp only [runsV, List.take_succ_cons, List.drop_succ_cons, List.set_cons_succ, List.cons_append, List.getD_cons_succ]
    rw [← this]
theorem OwnR.set {α : Type} {Q : α → Prop} {h : H} {s : Sl} {l : List Run} {a : Addr} (o : OwnR h s l) (w : WF h) (ha : s.base = some a) {i : Nat} (hi : i < l.length) (r : Run) {g : H → Option α}
    (p : ∀ h', OwnR h' s (l.set i r) → UP (· = a.block) h h' → h'.size = h.size → WF h' → PO (g h') Q) : PO (bindO (Abs.stZ [.int .i64, .int .i64] h (add a (i * 2)) (r : Int × Int)) g) Q := by
  have hl := runsV_length l
  obtain ⟨h', e, o', u, z⟩ := OwnS.stC o w ha (i * 2) [.int .i64 r.1, .int .i64 r.2] (by simp; omega) rfl
  refine .op (x := h') e (p h' ?_ u z u.wf)
  unfold OwnR
  rw [← runsV_set l i r hi]
  exact o'
theorem OwnR.set2 {α : Type} {Q : α → Prop} {h : H} {s : Sl} {l : List Run} {a : Addr} (o : OwnR h s l) (w : WF h) (ha : s.base = some a) {i : Nat} (hi : i < l.length) (y : Int) {g : H → Option α}
    (p : ∀ h', OwnR h' s (l.set i ((l.getD i (0, 0)).1, y)) → UP (· = a.block) h h' → h'.size = h.size → WF h' → PO (g h') Q) : PO (bindO (Abs.st1 h (add (add a (i * 2)) 1) (.int .i64 y)) g) Q := by
  have hl := runsV_length l
  obtain ⟨h', e, o', u, z⟩ := OwnS.stC o w ha (i * 2 + 1) [.int .i64 y] (by simp; omega) rfl
  rw [add_add]
  refine .op (x := h') e (p h' ?_ u z u.wf)
  unfold OwnR
  rw [← runsV_set2 l i y hi]
  exact o'
theorem clipR_f {h : H} {s : Sl} {l : List Run} (hr : OwnR h s l) (hl : l.length ≤ 2 ^ 40) : ∃ s', slices_Clip_2_int_2_int s h = some (s', h) ∧ OwnR h s' l ∧ s'.base = s.base := by
  have hlen := RdR.len hr.rd
  obtain ⟨s', e, r, _, hb⟩ := clip_base (by omega) (by unfold B63; omega) hr.rd (by rw [hlen]; unfold B63; omega)
  refine ⟨s', ?_, OwnS.sub hr hb r (Nat.le_refl _), hb⟩
  unfold slices_Clip_2_int_2_int
  rw [e, bindO_some]
def decR (r : Run) : Run := (r.1, r.2 - 1)
def frV (l : List Run) : List Run := (l.reverse.take 8).map decR
end Go.Proofs.Ytaebjajbogedkaa.T
/- Chapter 5's functions over the typed texts: the numbers that a frame is laid as. -/
set_option linter.unusedVariables false
set_option linter.unusedSimpArgs false
namespace Go.Proofs.Ytaebjajbogedkaa.T
open Go Go.Abs Go.Proofs
def ngo : Option Int → List Run → List Int
  | _, [] => []
  | p, r :: l => (match p with | none => r.2 | some q => q - r.2) :: (r.2 - r.1) :: ngo (some r.1) l
def flagV (b : Bool) : Int := if b then 1 else 0
def numsV (v : FV) : List Int :=
  if v.kind = 2 then v.kind :: (v.spans.length : Int) :: ngo none v.spans
  else if v.kind = 3 then [v.kind, v.id, v.off, flagV v.fin, (v.data.length : Int)]
  else if v.kind = 4 then [v.kind, v.id, v.a, v.off, v.b]
  else if v.kind = 5 ∨ v.kind = 7 then [v.kind, v.id, v.a]
  else if v.kind = 6 ∨ v.kind = 12 then [v.kind, v.a]
  else if v.kind = 8 then [v.kind, v.a, flagV v.fin]
  else if v.kind = 9 then [v.kind, (v.data.length : Int)]
  else if v.kind = 10 ∨ v.kind = 11 then [v.kind, v.id]
  else [v.kind]
theorem rdI_of {h : H} {b n : Nat} {L : List Value} {ns : List Int} (B : Box h b L) (w : WF h) (hL : L = ns.map (.int .i64)) (hn : ns.length = n) (hb : n < B63) : RdI .i64 h ⟨some ⟨b, 0, some 0⟩, n, n⟩ ns := by
  subst hL
  exact B.rd w (by simp; exact hn) (capOk_self _ _ hb)
theorem PO.appI {α : Type} {Q : α → Prop} {h0 h : H} {out x : Sl} {acc ns : List Int} {g : Sl → H → Option α} (hb : Buf 1 h out (acc.map (.int .i64))) (hx : EX h0 h) (hf : Fr h0.size out) (r : RdI .i64 h x ns) (hl : acc.length + ns.length ≤ 2 ^ 40)
    (k : ∀ out1 h2, Buf 1 h2 out1 ((acc ++ ns).map (.int .i64)) → EX h0 h2 → Fr h0.size out1 → KP h h2 → PO (g out1 h2) Q) : PO (bind2 (appT 3 1 8 h out x) g) Q := by
  have l1 := hb.rd.len
  have l2 := r.len
  simp at l1
  obtain ⟨s', h', e, k1, x2, b2, _, f2⟩ := appT_ok (e := 3) (bytes := 8) (by omega) (by unfold B63; omega) hx.wf hb r (oneC_ints .i64 _) (by omega) (by omega)
  refine PO.callE e (k s' h' ?_ (x2 _ hx hf) (f2 _ hx.size hf) k1)
  rw [List.map_append]; exact b2
theorem RSp.all : ∀ {l : List Run} {p : Option Int}, RSp p l → ∀ r ∈ l, (0 ≤ r.1 ∧ r.1 ≤ r.2 ∧ r.2 ≤ 4611686018427387903)
  | [], _, _, r, hr => by simp at hr
  | q :: l, p, h, r, hr => by
    rcases List.mem_cons.1 hr with e | e
    · subst e; have := h.1; unfold okN at this; have := h.2.1; omega
    · exact RSp.all h.2.2.2 r e
theorem ngo_length : ∀ (l : List Run) (p : Option Int), (ngo p l).length = 2 * l.length
  | [], _ => rfl
  | r :: l, p => by simp [ngo, ngo_length l]; omega
end Go.Proofs.Ytaebjajbogedkaa.T
/- Chapter 5's functions over the typed texts: frames side by side; laid, sized, eliciting, the same. -/
set_option linter.unusedVariables false
set_option linter.unusedSimpArgs false
namespace Go.Abs
open Go
/-- a heap's first blocks -/
def cutH (h : H) (n : Nat) : H := { h with size := n, objs := trOf h.objs.get n }
theorem cutH_ex {h : H} (w : WF h) {n : Nat} (h1 : h.nro ≤ n) (h2 : n ≤ h.size) : EX (cutH h n) h ∧ WF (cutH h n) :=
  ⟨⟨h2, rfl, w, fun A hA => by show _ = (trOf _ _).get A; rw [get_trOf, if_pos (show A < n from hA)], rfl⟩, ⟨h1, fun A hA => by show (trOf _ _).get A = none; rw [get_trOf, if_neg (by have : n ≤ A := hA; omega)], fun A r hr => by
    have : (trOf h.objs.get n).get A = some (.arr r) := hr
    rw [get_trOf] at this
    split at this
    · exact w.arr A r this
    · simp at this⟩⟩
/-- what goes on with every heap's first blocks stays but behind them -/
theorem up_of_ex {h h' : H} {s : Sl} (w : WF h) (x : ∀ h0, EX h0 h → Fr h0.size s → EX h0 h') (k : KP h h') {n : Nat} (h1 : h.nro ≤ n) (h2 : n ≤ h.size) (f : Fr n s) : UP (fun A => n ≤ A) h h' := by
  have y := x (cutH h n) (cutH_ex w h1 h2).1 f
  refine ⟨k.size, k.nro, k.wf, fun A hA hn => ?_, k.st⟩
  have hA' : A < n := by omega
  rw [y.same A hA', (cutH_ex w h1 h2).1.same A hA']
theorem clip_eq {sz : Nat} (hz : 0 < sz) (hz2 : sz < B63) {h : H} {s : Sl} {l : List Value} (r : Rd sz h s l) (hl : s.len < B63) :
    ∃ s', slT sz h s none (some (s.len : Int)) (some (s.len : Int)) = some s' ∧ Rd sz h s' l ∧ s'.len = s.len ∧ s'.base = s.base ∧ s'.cap = s.len := by
  obtain ⟨s', e, r', h1, h2, h3⟩ := clip_ok hz hz2 r hl
  refine ⟨s', e, r', h1, ?_⟩
  obtain ⟨b, len, cap⟩ := s
  cases b with
  | none =>
    refine ⟨h2 rfl, ?_⟩
    have := (r'.nilOf (h2 rfl)).2
    have hn := (r.nil rfl).1
    simp only at hn
    rw [this]; exact hn.symm
  | some a =>
    have hcap := r.cap (by simp)
    simp only at hcap hl
    have hcl := capLow_ge h a hcap
    have b1 : bnd (capLow h a len sz (capK cap)) (.int .i64 (len : Int)) = some len := by
      have := bnd_int (y := capLow h a len sz (capK cap)) (i := (len : Int)) (k := .i64) (by omega) (by omega)
      simpa using this
    have b2 : bnd len (.int .i64 (len : Int)) = some len := by
      have := bnd_int (y := len) (i := (len : Int)) (k := .i64) (by omega) (by omega)
      simpa using this
    have u0 : (isUnk0 (capK cap) && !Nat.beq 0 0 || !len.blt B63) = false := by
      simp only [show Nat.beq 0 0 = true from rfl, Bool.not_true, Bool.and_false, Bool.false_or, Bool.not_eq_false']
      simp only [Nat.blt_eq]; exact hl
    have : slA (DSE 0 (tyS sz 0 .nilFunc)) h 1 (encSl ⟨some a, len, cap⟩) none (some (.int .i64 (len : Int))) (some (.int .i64 (len : Int))) = some (.slice (some (bif len.beq 0 then a else add a (0 * sz))) (len - 0) (len - 0)) := by
      unfold slA encSl
      simp only [show (DSE 0 (tyS sz 0 .nilFunc)).ty.get 1 = some ⟨1, 24, .slice none 0 0, .slice 0, false⟩ from DSE_s 0 _, DSE_e]
      simp only [DSE_e, show (tyS sz 0 .nilFunc).size = sz from rfl, b1, b2, bndO_none, u0, cond_false]
    have e2 := slT_of (lo := none) (hi := some (len : Int)) (mx := some (len : Int)) this
    simp only at e
    rw [e] at e2
    have e3 := Option.some.inj e2
    rw [e3]
    simp only [Nat.zero_mul, addA_zero]
    cases len.beq 0 <;> exact ⟨rfl, rfl⟩
theorem clip_buf {sz : Nat} (hz : 0 < sz) (hz2 : sz < B63) {h : H} {s : Sl} {l : List Value} (r : Buf sz h s l) (hl : s.len < B63) :
    ∃ s', slT sz h s none (some (s.len : Int)) (some (s.len : Int)) = some s' ∧ Buf sz h s' l ∧ s'.len = s.len ∧ s'.base = s.base := by
  obtain ⟨s', e, r', h1, h2, h3⟩ := clip_eq hz hz2 r.rd hl
  refine ⟨s', e, ⟨r', ?_⟩, h1, h2⟩
  rcases r.tip with ht | ⟨a, q, e, g1, g2, g3, g4, g5, g6, g7⟩
  · exact .inl (h2.trans ht)
  · exact .inr ⟨a, q, e, h2.trans g1, g2, g3, g4, g5, by rw [h1]; exact g6, by rw [h3, h1, capK_exact hl]⟩
theorem Rd.ldZat {sz : Nat} {h : H} {s : Sl} {l : List Value} {a : Addr} (r : Rd sz h s l) (ha : s.base = some a) (k : Nat) (zs : List Z) (x : ZT zs) (hl : (l.drop k).take zs.length = encL zs x) : Abs.ldZ zs h (add a k) = some x := by
  refine ldZ_of ?_
  have h1 := encL_length zs x
  have := ldCells_of (h := h) (encL zs x) (add a k) (fun i v hi => by
    have hlt := (List.getElem?_eq_some_iff.1 hi).1
    rw [h1] at hlt
    rw [← hl, List.getElem?_take_of_lt hlt, List.getElem?_drop] at hi
    rw [add_add]
    exact (r.ld a ha _ _ hi).2)
  rwa [h1] at this
end Go.Abs
namespace Go.Proofs.Ytaebjajbogedkaa.T
open Go Go.Abs Go.Proofs
theorem Put_buf {h : H} {b n : Sl} {l : List UInt8} {zs : List Int} (w : WF h) (hb : RdB h b l) (hr : RdI .i64 h n zs) (hl : l.length + 8 * zs.length ≤ 2 ^ 47) (hall : ∀ x ∈ zs, okN x) :
    ∃ s' h', varint_Put b n h = some (s', h') ∧ EX h h' ∧ BufB h' s' (l ++ encs zs) ∧ Fr h.size s' := by
  unfold varint_Put P.varint_Put
  obtain ⟨s1, h1, e1, x1, b1, f1, _⟩ := clone_f w hb (by omega)
  rw [e1, bind2_some, hr.len]
  simp only
  obtain ⟨out', h', e2, b2, x2, f2⟩ := put_l1 hr (by omega) zs.length 0 s1 l h1 (by omega) b1 x1 f1 (by omega) (by simpa using hall)
  simp only [varint_Put_l1, Int.natCast_zero] at e2
  rw [e2, joinO_inl]
  simp only
  have hlen := b2.rd.len
  have hel := encs_length zs
  obtain ⟨s3, e3, r3, _, hb3⟩ := clip_buf (by omega) (by unfold B63; omega) b2 (by rw [hlen]; unfold B63; simp; omega)
  unfold slices_Clip_byte
  rw [e3, bindO_some, bind2_some]
  exact ⟨s3, h', rfl, x2, by simpa [BufB] using r3, fun a ha => f2 a (hb3 ▸ ha)⟩
/-! frames side by side -/
def fsV : List F9 → List Value
  | [] => []
  | x :: l => f9L x ++ fsV l
theorem fsV_app : ∀ (a b : List F9), fsV (a ++ b) = fsV a ++ fsV b
  | [], b => rfl
  | r :: a, b => by simp [fsV, fsV_app a b]
theorem fsV_length : ∀ l : List F9, (fsV l).length = l.length * 9
  | [] => rfl
  | r :: l => by simp [fsV, fsV_length l]; omega
theorem fsV_oneC : ∀ l : List F9, (fsV l).all oneC = true
  | [] => rfl
  | r :: l => by simp [fsV, oneC, fsV_oneC l]
theorem fsV_get : ∀ (l : List F9) (j : Nat), j < l.length → ((fsV l).drop (j * 9)).take 9 = f9L (l.getD j f90)
  | r :: l, 0, _ => by simp [fsV]
  | r :: l, j + 1, h => by
    have := fsV_get l j (by simpa using h)
    rw [show (j + 1) * 9 = 9 + j * 9 by omega, ← List.drop_drop]
    exact this
def FRs (h : H) : List F9 → List FV → Prop
  | [], [] => True
  | x :: xs, v :: vs => FRd h x v ∧ FRs h xs vs
  | _, _ => False
structure RdF (h : H) (s : Sl) (xs : List F9) (vs : List FV) : Prop where
  rd : Rd 9 h s (fsV xs)
  frs : FRs h xs vs
theorem FRs.len {h : H} : ∀ {xs : List F9} {vs : List FV}, FRs h xs vs → xs.length = vs.length
  | [], [], _ => rfl
  | x :: xs, v :: vs, r => by simp [FRs.len r.2]
  | [], _ :: _, r => r.elim
  | _ :: _, [], r => r.elim
theorem FRs.map {h h' : H} (k : ∀ x v, FRd h x v → FRd h' x v) : ∀ {xs : List F9} {vs : List FV}, FRs h xs vs → FRs h' xs vs
  | [], [], _ => trivial
  | x :: xs, v :: vs, r => ⟨k x v r.1, FRs.map k r.2⟩
  | [], _ :: _, r => r.elim
  | _ :: _, [], r => r.elim
theorem FRs.ex {h h' : H} {xs : List F9} {vs : List FV} (y : EX h h') (r : FRs h xs vs) : FRs h' xs vs := r.map fun x v => FRd.ex y
theorem FRs.app {h : H} : ∀ {xs ys : List F9} {vs us : List FV}, FRs h xs vs → FRs h ys us → FRs h (xs ++ ys) (vs ++ us)
  | [], _, [], _, _, r => r
  | x :: xs, _, v :: vs, _, r, q => ⟨r.1, FRs.app r.2 q⟩
  | [], _, _ :: _, _, r, _ => r.elim
  | _ :: _, _, [], _, r, _ => r.elim
def fv0 : FV := ⟨0, 0, 0, 0, 0, 0, false, [], []⟩
theorem FRs.get {h : H} : ∀ {xs : List F9} {vs : List FV}, FRs h xs vs → ∀ j, j < vs.length → FRd h (xs.getD j f90) (vs.getD j fv0)
  | [], [], _, j, hj => by simp at hj
  | x :: xs, v :: vs, r, 0, _ => r.1
  | x :: xs, v :: vs, r, j + 1, hj => FRs.get r.2 j (by simpa using hj)
  | [], _ :: _, r, _, _ => r.elim
  | _ :: _, [], r, _, _ => r.elim
theorem FRs.drop {h : H} : ∀ {xs : List F9} {vs : List FV}, FRs h xs vs → ∀ j, FRs h (xs.drop j) (vs.drop j)
  | [], [], _, j => by simp [FRs]
  | x :: xs, v :: vs, r, 0 => r
  | x :: xs, v :: vs, r, j + 1 => FRs.drop r.2 j
  | [], _ :: _, r, _ => r.elim
  | _ :: _, [], r, _ => r.elim
theorem FRs.take {h : H} : ∀ {xs : List F9} {vs : List FV}, FRs h xs vs → ∀ j, FRs h (xs.take j) (vs.take j)
  | [], [], _, j => by simp [FRs]
  | x :: xs, v :: vs, r, 0 => trivial
  | x :: xs, v :: vs, r, j + 1 => ⟨r.1, FRs.take r.2 j⟩
  | [], _ :: _, r, _ => r.elim
  | _ :: _, [], r, _ => r.elim
theorem RdF.ex {h h' : H} {s : Sl} {xs : List F9} {vs : List FV} (y : EX h h') (r : RdF h s xs vs) : RdF h' s xs vs := ⟨Rd.ex y r.rd, r.frs.ex y⟩
theorem RdF.len {h : H} {s : Sl} {xs : List F9} {vs : List FV} (r : RdF h s xs vs) : s.len = vs.length := by
  have := r.rd.len; rw [fsV_length] at this; have := r.frs.len; omega
theorem PO.ixF {α : Type} {Q : α → Prop} {h : H} {s : Sl} {xs : List F9} {vs : List FV} {j : Int} {g : Addr → Option α} (r : RdF h s xs vs) (h0 : 0 ≤ j) (h1 : j < vs.length)
    (p : ∀ a b, s.base = some b → a = add b (j.toNat * 9) → Abs.ldZ [.int .i64, .int .i64, .int .i64, .int .i64, .int .i64, .int .i64, .bool, .sl, .sl] h a = some (xs.getD j.toNat f90) → FRd h (xs.getD j.toNat f90) (vs.getD j.toNat fv0) → PO (g a) Q) : PO (bindO (ixT 9 s j) g) Q := by
  obtain ⟨a, ha, e⟩ := ixT_ok r.rd h0 (by rw [RdF.len r]; exact h1)
  have hl := r.frs.len
  have hj : j.toNat < xs.length := by omega
  exact .op e (p _ a ha rfl (Rd.ldZat r.rd ha _ zF (xs.getD j.toNat f90) (fsV_get xs _ hj)) (r.frs.get _ (by omega)))
theorem PO.appF1 {α : Type} {Q : α → Prop} {h : H} {out : Sl} {xs : List F9} {x : F9} {n : Nat} {g : Sl → H → Option α} (w : WF h) (hb : Buf 9 h out (fsV xs)) (hn : h.nro ≤ n) (hn2 : n ≤ h.size) (hf : Fr n out) (hl : xs.length + 1 ≤ 2 ^ 40)
    (k : ∀ out1 h2, Buf 9 h2 out1 (fsV (xs ++ [x])) → UP (fun A => n ≤ A) h h2 → Fr n out1 → KP h h2 → PO (g out1 h2) Q) : PO (newO (row 47 (f9L x)) h fun b h1 => bind2 (appT 47 9 104 h1 out ⟨some ⟨b, 0, some 0⟩, 1, 1⟩) g) Q := by
  refine PO.newB w fun h1 x1 B1 z1 w1 => ?_
  have r1 : Rd 9 h1 ⟨some ⟨h.size, 0, some 0⟩, 1, 1⟩ (fsV [x]) := B1.rd w1 rfl (by unfold CapOK; rw [capK_exact (by unfold B63; omega)]; exact Nat.le_refl _)
  have hb1 : Buf 9 h1 out (fsV xs) := hb.ex w x1
  have hlen := hb1.rd.len
  rw [fsV_length] at hlen
  obtain ⟨s', h', e, k1, x2, b2, _, f2⟩ := appT_ok (e := 47) (bytes := 104) (by omega) (by unfold B63; omega) w1 hb1 r1 (fsV_oneC _) (by simp only; omega) (by simp only; omega)
  refine PO.callE e (k s' h' ?_ (x1.trans_up (up_of_ex w1 x2 k1 (by rw [x1.nro]; exact hn) (by omega) hf)) (f2 _ (by omega) hf) ((x1.kp w).trans k1))
  rw [fsV_app]; exact b2
theorem PO.ldF' {α : Type} {Q : α → Prop} {h : H} {a : Addr} {x : F9} {f : F9 → Option α} (e : Abs.ldZ [.int .i64, .int .i64, .int .i64, .int .i64, .int .i64, .int .i64, .bool, .sl, .sl] h a = some x) (p : PO (f x) Q) : PO (bindO (Abs.ldZ [.int .i64, .int .i64, .int .i64, .int .i64, .int .i64, .int .i64, .bool, .sl, .sl] h a) f) Q := .op e p
/-- a frame copied into a box of its own -/
theorem PO.boxF {α : Type} {Q : α → Prop} {h : H} {x : F9} {t : Nat} {L : List Value} {f : Nat → H → Option α} (hL : L.length = 9) (w : WF h) (p : ∀ h2, EX h h2 → Box h2 h.size (f9L x) → h2.size = h.size + 1 → PO (f h.size h2) Q) :
    PO (newO (row t L) h fun b h1 => bindO (Abs.stZ [.int .i64, .int .i64, .int .i64, .int .i64, .int .i64, .int .i64, .bool, .sl, .sl] h1 ⟨b, 0, some 0⟩ x) fun h2 => f b h2) Q :=
  PO.newB w fun h1 x1 B1 z1 w1 => PO.stZ B1 w1 (by rw [hL]; rfl) rfl fun h2 B2 u2 z2 w2 => p h2 (u2.ex0 x1 (fun A hA e => by omega)) B2 (by omega)
/-! numbers of right frames may be -/
theorem ngo_ok : ∀ {l : List Run} {p : Option Int}, RSp p l → (∀ q, p = some q → okN q) → ∀ n ∈ ngo p l, okN n
  | [], _, _, _, n, hn => by simp [ngo] at hn
  | r :: l, p, h, hp, n, hn => by
    obtain ⟨h1, h2, h3, h4⟩ := h
    have h1' := h1
    unfold okN at h1'
    simp only [ngo, List.mem_cons] at hn
    rcases hn with e | e | e
    · subst e
      cases p with
      | none => exact h1.2
      | some q => have := h3 q rfl; have := hp q rfl; unfold okN at this ⊢; simp only; omega
    · subst e; unfold okN; omega
    · exact ngo_ok h4 (fun q hq => by cases hq; exact h1.1) n e
theorem FR.nums {v : FV} (h : FR v) : (∀ n ∈ numsV v, okN n) ∧ (numsV v).length ≤ 18 := by
  obtain ⟨⟨h1, h2, ⟨h3, h4, h5, h6⟩, h7⟩, h8⟩ := h
  have hk : okN v.kind := by unfold okN; omega
  have hf : okN (flagV v.fin) := by unfold okN flagV; split <;> omega
  have hd : okN (v.data.length : Int) := by unfold okN; omega
  unfold numsV
  split
  · rename_i k2
    have hs : RSs v.spans := by unfold FR1 at h8; rwa [if_pos k2] at h8
    have hl := hs.2.2
    refine ⟨?_, by simp [ngo_length]; omega⟩
    intro n hn
    rcases List.mem_cons.1 hn with e | hn
    · subst e; exact hk
    · rcases List.mem_cons.1 hn with e | hn
      · subst e; unfold okN; omega
      · exact ngo_ok hs.1 (fun q hq => by simp at hq) n hn
  · (repeat' split) <;> exact ⟨by simp [hk, h3, h4, h5, h6, hf, hd], by simp⟩
def lay1 (v : FV) : List UInt8 := encs (numsV v) ++ v.data
def layFs : List FV → List UInt8
  | [] => []
  | v :: l => lay1 v ++ layFs l
theorem layFs_app : ∀ (a b : List FV), layFs (a ++ b) = layFs a ++ layFs b
  | [], b => rfl
  | r :: a, b => by simp [layFs, layFs_app a b]
theorem lay1_length {v : FV} (h : FR v) : (lay1 v).length ≤ 264 := by
  have h1 := encs_length (numsV v)
  have h2 := (FR.nums h).2
  have h3 := h.1.2.2.2
  simp only [lay1, List.length_append]; omega
def SzOK (vs : List FV) : Prop := ∀ v ∈ vs, v.data.length ≤ 2 ^ 47 ∧ v.spans.length ≤ 2 ^ 40
end Go.Proofs.Ytaebjajbogedkaa.T
