/- Lemmas about the typed texts (joined: SFrame5 SFrame6 SRaw1). -/
import Derived.Test.YthiccnmplgdheaaG15
/- Chapter 5's functions over the typed texts: frames side by side; laid, sized, eliciting, the same. -/
set_option linter.unusedVariables false
set_option linter.unusedSimpArgs false
namespace Go.Abs
open Go
/-- a heap's first blocks -/
def cutH (h : H) (n : Nat) : H := { h with size := n, objs := trOf h.objs.get n }
theorem cutH_ex {h : H} (w : WF h) {n : Nat} (h1 : h.nro ≤ n) (h2 : n ≤ h.size) : EX (cutH h n) h ∧ WF (cutH h n) :=
  ⟨⟨h2, rfl, w, fun A hA => by show _ = (trOf _ _).get A; rw [get_trOf, if_pos (show A < n from hA)]⟩, ⟨h1, fun A hA => by show (trOf _ _).get A = none; rw [get_trOf, if_neg (by have : n ≤ A := hA; omega)], fun A r hr => by
    have : (trOf h.objs.get n).get A = some (.arr r) := hr
    rw [get_trOf] at this
    split at this
    · exact w.arr A r this
    · simp at this⟩⟩
/-- what goes on with every heap's first blocks stays but behind them -/
theorem up_of_ex {h h' : H} {s : Sl} (w : WF h) (x : ∀ h0, EX h0 h → Fr h0.size s → EX h0 h') (k : KP h h') {n : Nat} (h1 : h.nro ≤ n) (h2 : n ≤ h.size) (f : Fr n s) : UP (fun A => n ≤ A) h h' := by
  have y := x (cutH h n) (cutH_ex w h1 h2).1 f
  refine ⟨k.size, k.nro, k.wf, fun A hA hn => ?_⟩
  have hA' : A < n := by omega
  rw [y.same A hA', (cutH_ex w h1 h2).1.same A hA']
theorem clip_eq {sz : Nat} (hz : 0 < sz) (hz2 : sz < B63) {h : H} {s : Sl} {l : List Value} (r : Rd sz h s l) (hl : s.len < B63) :
    ∃ s', slT sz h s none (some (s.len : Int)) (some (s.len : Int)) = some s' ∧ Rd sz h s' l ∧ s'.len = s.len ∧ s'.base = s.base ∧ s'.cap = s.len := by
  obtain ⟨s', e, r', h1, h2, h3⟩ := clip_ok hz hz2 r hl
  refine ⟨s', e, r', h1, ?_⟩
  obtain ⟨b, len, cap⟩ := s
  cases b with
  | none =>
    refine ⟨h2 rfl, ?_⟩
    have := (r'.nilOf (h2 rfl)).2
    have hn := (r.nil rfl).1
    simp only at hn
    rw [this]; exact hn.symm
  | some a =>
    have hcap := r.cap (by simp)
    simp only at hcap hl
    have hcl := capLow_ge h a hcap
    have b1 : bnd (capLow h a len sz (capK cap)) (.int .i64 (len : Int)) = some len := by
      have := bnd_int (y := capLow h a len sz (capK cap)) (i := (len : Int)) (k := .i64) (by omega) (by omega)
      simpa using this
    have b2 : bnd len (.int .i64 (len : Int)) = some len := by
      have := bnd_int (y := len) (i := (len : Int)) (k := .i64) (by omega) (by omega)
      simpa using this
    have u0 : (isUnk0 (capK cap) && !Nat.beq 0 0 || !len.blt B63) = false := by
      simp only [show Nat.beq 0 0 = true from rfl, Bool.not_true, Bool.and_false, Bool.false_or, Bool.not_eq_false']
      simp only [Nat.blt_eq]; exact hl
    have : slA (DSE 0 (tyS sz 0 .nilFunc)) h 1 (encSl ⟨some a, len, cap⟩) none (some (.int .i64 (len : Int))) (some (.int .i64 (len : Int))) = some (.slice (some (bif len.beq 0 then a else add a (0 * sz))) (len - 0) (len - 0)) := by
      unfold slA encSl
      simp only [show (DSE 0 (tyS sz 0 .nilFunc)).ty.get 1 = some ⟨1, 24, .slice none 0 0, .slice 0, false⟩ from DSE_s 0 _, DSE_e]
      simp only [DSE_e, show (tyS sz 0 .nilFunc).size = sz from rfl, b1, b2, bndO_none, u0, cond_false]
    have e2 := slT_of (lo := none) (hi := some (len : Int)) (mx := some (len : Int)) this
    simp only at e
    rw [e] at e2
    have e3 := Option.some.inj e2
    rw [e3]
    simp only [Nat.zero_mul, addA_zero]
    cases len.beq 0 <;> exact ⟨rfl, rfl⟩
theorem clip_buf {sz : Nat} (hz : 0 < sz) (hz2 : sz < B63) {h : H} {s : Sl} {l : List Value} (r : Buf sz h s l) (hl : s.len < B63) :
    ∃ s', slT sz h s none (some (s.len : Int)) (some (s.len : Int)) = some s' ∧ Buf sz h s' l ∧ s'.len = s.len ∧ s'.base = s.base := by
  obtain ⟨s', e, r', h1, h2, h3⟩ := clip_eq hz hz2 r.rd hl
  refine ⟨s', e, ⟨r', ?_⟩, h1, h2⟩
  rcases r.tip with ht | ⟨a, q, e, g1, g2, g3, g4, g5, g6, g7⟩
  · exact .inl (h2.trans ht)
  · exact .inr ⟨a, q, e, h2.trans g1, g2, g3, g4, g5, by rw [h1]; exact g6, by rw [h3, h1, capK_exact hl]⟩
theorem Rd.ldZat {sz : Nat} {h : H} {s : Sl} {l : List Value} {a : Addr} (r : Rd sz h s l) (ha : s.base = some a) (k : Nat) (zs : List Z) (x : ZT zs) (hl : (l.drop k).take zs.length = encL zs x) : Abs.ldZ zs h (add a k) = some x := by
  refine ldZ_of ?_
  have h1 := encL_length zs x
  have := ldCells_of (h := h) (encL zs x) (add a k) (fun i v hi => by
    have hlt := (List.getElem?_eq_some_iff.1 hi).1
    rw [h1] at hlt
    rw [← hl, List.getElem?_take_of_lt hlt, List.getElem?_drop] at hi
    rw [add_add]
    exact (r.ld a ha _ _ hi).2)
  rwa [h1] at this
end Go.Abs
namespace Go.Proofs.Ythiccnmplgdheaa.T
open Go Go.Abs Go.Proofs
theorem Put_buf {h : H} {b n : Sl} {l : List UInt8} {zs : List Int} (w : WF h) (hb : RdB h b l) (hr : RdI .i64 h n zs) (hl : l.length + 8 * zs.length ≤ 2 ^ 47) (hall : ∀ x ∈ zs, okN x) :
    ∃ s' h', varint_Put b n h = some (s', h') ∧ EX h h' ∧ BufB h' s' (l ++ encs zs) ∧ Fr h.size s' := by
  unfold varint_Put P.varint_Put
  obtain ⟨s1, h1, e1, x1, b1, f1, _⟩ := clone_f w hb (by omega)
  rw [e1, bind2_some, hr.len]
  simp only
  obtain ⟨out', h', e2, b2, x2, f2⟩ := put_l1 hr (by omega) zs.length 0 s1 l h1 (by omega) b1 x1 f1 (by omega) (by simpa using hall)
  simp only [varint_Put_l1, Int.natCast_zero] at e2
  rw [e2, joinO_inl]
  simp only
  have hlen := b2.rd.len
  have hel := encs_length zs
  obtain ⟨s3, e3, r3, _, hb3⟩ := clip_buf (by omega) (by unfold B63; omega) b2 (by rw [hlen]; unfold B63; simp; omega)
  unfold slices_Clip_byte
  rw [e3, bindO_some, bind2_some]
  exact ⟨s3, h', rfl, x2, by simpa [BufB] using r3, fun a ha => f2 a (hb3 ▸ ha)⟩
/-! frames side by side -/
def fsV : List F9 → List Value
  | [] => []
  | x :: l => f9L x ++ fsV l
theorem fsV_app : ∀ (a b : List F9), fsV (a ++ b) = fsV a ++ fsV b
  | [], b => rfl
  | r :: a, b => by simp [fsV, fsV_app a b]
theorem fsV_length : ∀ l : List F9, (fsV l).length = l.length * 9
  | [] => rfl
  | r :: l => by simp [fsV, fsV_length l]; omega
theorem fsV_oneC : ∀ l : List F9, (fsV l).all oneC = true
  | [] => rfl
  | r :: l => by simp [fsV, oneC, fsV_oneC l]
theorem fsV_get : ∀ (l : List F9) (j : Nat), j < l.length → ((fsV l).drop (j * 9)).take 9 = f9L (l.getD j f90)
  | r :: l, 0, _ => by simp [fsV]
  | r :: l, j + 1, h => by
    have := fsV_get l j (by simpa using h)
    rw [show (j + 1) * 9 = 9 + j * 9 by omega, ← List.drop_drop]
    exact this
def FRs (h : H) : List F9 → List FV → Prop
  | [], [] => True
  | x :: xs, v :: vs => FRd h x v ∧ FRs h xs vs
  | _, _ => False
structure RdF (h : H) (s : Sl) (xs : List F9) (vs : List FV) : Prop where
  rd : Rd 9 h s (fsV xs)
  frs : FRs h xs vs
theorem FRs.len {h : H} : ∀ {xs : List F9} {vs : List FV}, FRs h xs vs → xs.length = vs.length
  | [], [], _ => rfl
  | x :: xs, v :: vs, r => by simp [FRs.len r.2]
  | [], _ :: _, r => r.elim
  | _ :: _, [], r => r.elim
theorem FRs.map {h h' : H} (k : ∀ x v, FRd h x v → FRd h' x v) : ∀ {xs : List F9} {vs : List FV}, FRs h xs vs → FRs h' xs vs
  | [], [], _ => trivial
  | x :: xs, v :: vs, r => ⟨k x v r.1, FRs.map k r.2⟩
  | [], _ :: _, r => r.elim
  | _ :: _, [], r => r.elim
theorem FRs.ex {h h' : H} {xs : List F9} {vs : List FV} (y : EX h h') (r : FRs h xs vs) : FRs h' xs vs := r.map fun x v => FRd.ex y
theorem FRs.app {h : H} : ∀ {xs ys : List F9} {vs us : List FV}, FRs h xs vs → FRs h ys us → FRs h (xs ++ ys) (vs ++ us)
  | [], _, [], _, _, r => r
  | x :: xs, _, v :: vs, _, r, q => ⟨r.1, FRs.app r.2 q⟩
  | [], _, _ :: _, _, r, _ => r.elim
  | _ :: _, _, [], _, r, _ => r.elim
def fv0 : FV := ⟨0, 0, 0, 0, 0, 0, false, [], []⟩
theorem FRs.get {h : H} : ∀ {xs : List F9} {vs : List FV}, FRs h xs vs → ∀ j, j < vs.length → FRd h (xs.getD j f90) (vs.getD j fv0)
  | [], [], _, j, hj => by simp at hj
  | x :: xs, v :: vs, r, 0, _ => r.1
  | x :: xs, v :: vs, r, j + 1, hj => FRs.get r.2 j (by simpa using hj)
  | [], _ :: _, r, _, _ => r.elim
  | _ :: _, [], r, _, _ => r.elim
theorem FRs.drop {h : H} : ∀ {xs : List F9} {vs : List FV}, FRs h xs vs → ∀ j, FRs h (xs.drop j) (vs.drop j)
  | [], [], _, j => by simp [FRs]
  | x :: xs, v :: vs, r, 0 => r
  | x :: xs, v :: vs, r, j + 1 => FRs.drop r.2 j
  | [], _ :: _, r, _ => r.elim
  | _ :: _, [], r, _ => r.elim
theorem FRs.take {h : H} : ∀ {xs : List F9} {vs : List FV}, FRs h xs vs → ∀ j, FRs h (xs.take j) (vs.take j)
  | [], [], _, j => by simp [FRs]
  | x :: xs, v :: vs, r, 0 => trivial
  | x :: xs, v :: vs, r, j + 1 => ⟨r.1, FRs.take r.2 j⟩
  | [], _ :: _, r, _ => r.elim
  | _ :: _, [], r, _ => r.elim
theorem RdF.ex {h h' : H} {s : Sl} {xs : List F9} {vs : List FV} (y : EX h h') (r : RdF h s xs vs) : RdF h' s xs vs := ⟨Rd.ex y r.rd, r.frs.ex y⟩
theorem RdF.len {h : H} {s : Sl} {xs : List F9} {vs : List FV} (r : RdF h s xs vs) : s.len = vs.length := by
  have := r.rd.len; rw [fsV_length] at this; have := r.frs.len; omega
theorem PO.ixF {α : Type} {Q : α → Prop} {h : H} {s : Sl} {xs : List F9} {vs : List FV} {j : Int} {g : Addr → Option α} (r : RdF h s xs vs) (h0 : 0 ≤ j) (h1 : j < vs.length)
    (p : ∀ a b, s.base = some b → a = add b (j.toNat * 9) → Abs.ldZ [.int .i64, .int .i64, .int .i64, .int .i64, .int .i64, .int .i64, .bool, .sl, .sl] h a = some (xs.getD j.toNat f90) → FRd h (xs.getD j.toNat f90) (vs.getD j.toNat fv0) → PO (g a) Q) : PO (bindO (ixT 9 s j) g) Q := by
  obtain ⟨a, ha, e⟩ := ixT_ok r.rd h0 (by rw [RdF.len r]; exact h1)
  have hl := r.frs.len
  have hj : j.toNat < xs.length := by omega
  exact .op e (p _ a ha rfl (Rd.ldZat r.rd ha _ zF (xs.getD j.toNat f90) (fsV_get xs _ hj)) (r.frs.get _ (by omega)))
theorem PO.appF1 {α : Type} {Q : α → Prop} {h : H} {out : Sl} {xs : List F9} {x : F9} {n : Nat} {g : Sl → H → Option α} (w : WF h) (hb : Buf 9 h out (fsV xs)) (hn : h.nro ≤ n) (hn2 : n ≤ h.size) (hf : Fr n out) (hl : xs.length + 1 ≤ 2 ^ 40)
    (k : ∀ out1 h2, Buf 9 h2 out1 (fsV (xs ++ [x])) → UP (fun A => n ≤ A) h h2 → Fr n out1 → KP h h2 → PO (g out1 h2) Q) : PO (newO (row 33 (f9L x)) h fun b h1 => bind2 (appT 33 9 104 h1 out ⟨some ⟨b, 0, some 0⟩, 1, 1⟩) g) Q := by
  refine PO.newB w fun h1 x1 B1 z1 w1 => ?_
  have r1 : Rd 9 h1 ⟨some ⟨h.size, 0, some 0⟩, 1, 1⟩ (fsV [x]) := B1.rd w1 rfl (by unfold CapOK; rw [capK_exact (by unfold B63; omega)]; exact Nat.le_refl _)
  have hb1 : Buf 9 h1 out (fsV xs) := hb.ex w x1
  have hlen := hb1.rd.len
  rw [fsV_length] at hlen
  obtain ⟨s', h', e, k1, x2, b2, _, f2⟩ := appT_ok (e := 33) (bytes := 104) (by omega) (by unfold B63; omega) w1 hb1 r1 (fsV_oneC _) (by simp only; omega) (by simp only; omega)
  refine PO.callE e (k s' h' ?_ (x1.trans_up (up_of_ex w1 x2 k1 (by rw [x1.nro]; exact hn) (by omega) hf)) (f2 _ (by omega) hf) ((x1.kp w).trans k1))
  rw [fsV_app]; exact b2
theorem PO.ldF' {α : Type} {Q : α → Prop} {h : H} {a : Addr} {x : F9} {f : F9 → Option α} (e : Abs.ldZ [.int .i64, .int .i64, .int .i64, .int .i64, .int .i64, .int .i64, .bool, .sl, .sl] h a = some x) (p : PO (f x) Q) : PO (bindO (Abs.ldZ [.int .i64, .int .i64, .int .i64, .int .i64, .int .i64, .int .i64, .bool, .sl, .sl] h a) f) Q := .op e p
/-- a frame copied into a box of its own -/
theorem PO.boxF {α : Type} {Q : α → Prop} {h : H} {x : F9} {t : Nat} {L : List Value} {f : Nat → H → Option α} (hL : L.length = 9) (w : WF h) (p : ∀ h2, EX h h2 → Box h2 h.size (f9L x) → h2.size = h.size + 1 → PO (f h.size h2) Q) :
    PO (newO (row t L) h fun b h1 => bindO (Abs.stZ [.int .i64, .int .i64, .int .i64, .int .i64, .int .i64, .int .i64, .bool, .sl, .sl] h1 ⟨b, 0, some 0⟩ x) fun h2 => f b h2) Q :=
  PO.newB w fun h1 x1 B1 z1 w1 => PO.stZ B1 w1 (by rw [hL]; rfl) rfl fun h2 B2 u2 z2 w2 => p h2 (u2.ex0 x1 (fun A hA e => by omega)) B2 (by omega)
/-! numbers of right frames may be -/
theorem ngo_ok : ∀ {l : List Run} {p : Option Int}, RSp p l → (∀ q, p = some q → okN q) → ∀ n ∈ ngo p l, okN n
  | [], _, _, _, n, hn => by simp [ngo] at hn
  | r :: l, p, h, hp, n, hn => by
    obtain ⟨h1, h2, h3, h4⟩ := h
    have h1' := h1
    unfold okN at h1'
    simp only [ngo, List.mem_cons] at hn
    rcases hn with e | e | e
    · subst e
      cases p with
      | none => exact h1.2
      | some q => have := h3 q rfl; have := hp q rfl; unfold okN at this ⊢; simp only; omega
    · subst e; unfold okN; omega
    · exact ngo_ok h4 (fun q hq => by cases hq; exact h1.1) n e
theorem FR.nums {v : FV} (h : FR v) : (∀ n ∈ numsV v, okN n) ∧ (numsV v).length ≤ 18 := by
  obtain ⟨⟨h1, h2, ⟨h3, h4, h5, h6⟩, h7⟩, h8⟩ := h
  have hk : okN v.kind := by unfold okN; omega
  have hf : okN (flagV v.fin) := by unfold okN flagV; split <;> omega
  have hd : okN (v.data.length : Int) := by unfold okN; omega
  unfold numsV
  split
  · rename_i k2
    have hs : RSs v.spans := by unfold FR1 at h8; rwa [if_pos k2] at h8
    have hl := hs.2.2
    refine ⟨?_, by simp [ngo_length]; omega⟩
    intro n hn
    rcases List.mem_cons.1 hn with e | hn
    · subst e; exact hk
    · rcases List.mem_cons.1 hn with e | hn
      · subst e; unfold okN; omega
      · exact ngo_ok hs.1 (fun q hq => by simp at hq) n hn
  · (repeat' split) <;> exact ⟨by simp [hk, h3, h4, h5, h6, hf, hd], by simp⟩
def lay1 (v : FV) : List UInt8 := encs (numsV v) ++ v.data
def layFs : List FV → List UInt8
  | [] => []
  | v :: l => lay1 v ++ layFs l
theorem layFs_app : ∀ (a b : List FV), layFs (a ++ b) = layFs a ++ layFs b
  | [], b => rfl
  | r :: a, b => by simp [layFs, layFs_app a b]
theorem lay1_length {v : FV} (h : FR v) : (lay1 v).length ≤ 264 := by
  have h1 := encs_length (numsV v)
  have h2 := (FR.nums h).2
  have h3 := h.1.2.2.2
  simp only [lay1, List.length_append]; omega
def SzOK (vs : List FV) : Prop := ∀ v ∈ vs, v.data.length ≤ 2 ^ 47 ∧ v.spans.length ≤ 2 ^ 40
end Go.Proofs.Ythiccnmplgdheaa.T
/- Chapter 5's functions over the typed texts: frames laid, sized; which elicit; which are the same. -/
set_option linter.unusedVariables false
set_option linter.unusedSimpArgs false
namespace Go.Proofs.Ythiccnmplgdheaa.T
open Go Go.Abs Go.Proofs
theorem take_succ_getD {α : Type} (l : List α) (d : α) {i : Nat} (h : i < l.length) : l.take (i + 1) = l.take i ++ [l.getD i d] := by
  rw [List.take_add_one, List.getD_eq_getElem?_getD, List.getElem?_eq_getElem h]; rfl
theorem getD_mem {α : Type} (l : List α) (d : α) {i : Nat} (h : i < l.length) : l.getD i d ∈ l := by
  rw [List.getD_eq_getElem?_getD, List.getElem?_eq_getElem h]; exact List.getElem_mem h
theorem layFs_length : ∀ {vs : List FV}, (∀ v ∈ vs, FR v) → (layFs vs).length ≤ 264 * vs.length
  | [], _ => by simp [layFs]
  | v :: vs, h => by
    have h1 := lay1_length (h v (by simp))
    have h2 := layFs_length (vs := vs) (fun u hu => h u (by simp [hu]))
    simp only [layFs, List.length_append, List.length_cons]; omega
/-! sizes -/
theorem szs_sum : ∀ {zs : List Int}, (∀ n ∈ zs, okN n) → szs zs = some ((encs zs).length : Int)
  | [], _ => rfl
  | n :: zs, h => by
    have h1 := szs_sum (zs := zs) (fun m hm => h m (by simp [hm]))
    have h2 := h n (by simp)
    have h3 := sz_pos n
    simp only [encs, List.length_append, enc_length, szs]
    rw [if_pos h2, h1]
    simp; omega
def fszV (v : FV) : Int := if FR v then ((lay1 v).length : Int) else -1
/-! who elicits -/
def elV (v : FV) : Prop := v.kind ≠ 2 ∧ v.kind ≠ 12
instance (v : FV) : Decidable (elV v) := by unfold elV; infer_instance
/-! the same frames -/
def sameFs : List FV → List FV → Prop
  | [], [] => True
  | v :: vs, u :: us => sameV v u ∧ sameFs vs us
  | _, _ => False
def decSameFs : (a b : List FV) → Decidable (sameFs a b)
  | [], [] => .isTrue trivial
  | v :: vs, u :: us => by
    have := decSameFs vs us
    exact inferInstanceAs (Decidable (sameV v u ∧ sameFs vs us))
  | [], _ :: _ => .isFalse id
  | _ :: _, [] => .isFalse id
instance (a b : List FV) : Decidable (sameFs a b) := decSameFs a b
theorem sameV_refl (v : FV) : sameV v v := ⟨rfl, rfl, rfl, rfl, rfl, rfl, rfl, rfl⟩
theorem sameFs_refl : ∀ vs : List FV, sameFs vs vs
  | [] => trivial
  | v :: vs => ⟨sameV_refl v, sameFs_refl vs⟩
theorem sameFs_len : ∀ {a b : List FV}, sameFs a b → a.length = b.length
  | [], [], _ => rfl
  | v :: vs, u :: us, h => by simp [sameFs_len h.2]
  | [], _ :: _, h => h.elim
  | _ :: _, [], h => h.elim
theorem sameFs_drop {a b : List FV} {i : Nat} (ha : i < a.length) (hb : i < b.length) : sameFs (a.drop i) (b.drop i) ↔ sameV (a.getD i fv0) (b.getD i fv0) ∧ sameFs (a.drop (i + 1)) (b.drop (i + 1)) := by
  have h1 : a.drop i = a.getD i fv0 :: a.drop (i + 1) := by rw [List.drop_eq_getElem_cons ha]; simp [List.getD, ha]
  have h2 : b.drop i = b.getD i fv0 :: b.drop (i + 1) := by rw [List.drop_eq_getElem_cons hb]; simp [List.getD, hb]
  rw [h1, h2]; exact Iff.rfl
end Go.Proofs.Ythiccnmplgdheaa.T
/- Frames that are made from numbers (argosyhand): an Ack's runs, right frames. -/
set_option linter.unusedVariables false
set_option linter.unusedSimpArgs false
namespace Go.Proofs.Ythiccnmplgdheaa.T
open Go Go.Abs Go.Proofs
def lst : Option Int → List Run → Option Int
  | p, [] => p
  | _, r :: l => lst (some r.1) l
theorem lst_snoc : ∀ (l : List Run) (p : Option Int) (r : Run), lst p (l ++ [r]) = some r.1
  | [], _, _ => rfl
  | q :: l, p, r => lst_snoc l (some q.1) r
theorem RSp_snoc : ∀ {l : List Run} {p : Option Int} {r : Run}, RSp p l → okN r.1 → okN r.2 → r.1 ≤ r.2 → (∀ q, lst p l = some q → 2 ≤ q - r.2) → RSp p (l ++ [r])
  | [], p, r, _, h1, h2, h3, h4 => ⟨⟨h1, h2⟩, h3, h4, trivial⟩
  | q :: l, p, r, h, h1, h2, h3, h4 => ⟨h.1, h.2.1, h.2.2.1, RSp_snoc h.2.2.2 h1 h2 h3 h4⟩
/-! raw frames -/
structure RV where
  kind : Int
  id : Int
  off : Int
  a : Int
  b : Int
  bend : Int
  fin : Bool
  data : List UInt8
  spans : List Int
structure WRd (h : H) (x : F9) (v : RV) : Prop where
  e : x.1 = v.kind ∧ x.2.1 = v.id ∧ x.2.2.1 = v.off ∧ x.2.2.2.1 = v.a ∧ x.2.2.2.2.1 = v.b ∧ x.2.2.2.2.2.1 = v.bend ∧ x.2.2.2.2.2.2.1 = v.fin
  data : RdB h x.2.2.2.2.2.2.2.1 v.data
  spans : RdI .i64 h x.2.2.2.2.2.2.2.2 v.spans
theorem WRd.ex {h h' : H} {x : F9} {v : RV} (y : EX h h') (r : WRd h x v) : WRd h' x v := ⟨r.e, r.data.ex y, Rd.ex y r.spans⟩
def FOut (h0 : H) (b b1 b2 : Nat) (x : F9) (st : (Option Addr × Option Addr × Option Addr) × H) : Prop :=
  st.1 = (some ⟨b, 0, some 0⟩, some ⟨b1, 0, some 0⟩, some ⟨b2, 0, some 0⟩) ∧ ∃ y v, TB h0 b b2 (f9L x) st.2 (f9L y) ∧ FRd st.2 y v ∧ FR v ∧ Fr h0.size y.2.2.2.2.2.2.2.1 ∧ Fr h0.size y.2.2.2.2.2.2.2.2
theorem fout {h0 h : H} {b b1 b2 : Nat} {x : F9} {k id off a b' : Int} {fin : Bool} {d s : Sl} {dl : List UInt8} {sl : List Run} (t : TB h0 b b2 (f9L x) h (f9L (k, id, off, a, b', 0, fin, d, s))) (hd : RdB h d dl) (hs : RdR h s sl) (hdf : Fr h0.size d) (hsf : Fr h0.size s) (hv : FR ⟨k, id, off, a, b', 0, fin, dl, sl⟩) :
    FOut h0 b b1 b2 x ((some ⟨b, 0, some 0⟩, some ⟨b1, 0, some 0⟩, some ⟨b2, 0, some 0⟩), h) := ⟨rfl, _, _, t, ⟨⟨rfl, rfl, rfl, rfl, rfl, rfl, rfl⟩, hd, hs⟩, hv, hdf, hsf⟩
theorem pickB_f (a n : Int) (h : H) : hand_Pick a (IntKind.wrap .i64 (mayV n + 1)) h = some (a % (mayV n + 1), h) := by
  have := mayV_ok n
  unfold okN at this
  rw [w64 (by omega) (by omega)]
  exact pick_f _ _ (by omega) (by omega) _
theorem Few_po {h : H} {b : Sl} {l : List UInt8} (w : WF h) (hr : RdB h b l) (hl : l.length ≤ 2 ^ 47) {n : Int} (hn : 0 ≤ n) : PO (hand_Few b n h) (fun (a, h1) => EX h h1 ∧ BufB h1 a (l.take n.toNat) ∧ Fr h.size a) := by
  obtain ⟨s', h', e, x, b, f⟩ := Few_f w hr hl hn
  exact ⟨_, e, x, b, f⟩
theorem TB.kx {h0 h h' : H} {b b2 : Nat} {L L2 : List Value} (t : TB h0 b b2 L h L2) (x : EX h h') : TB h0 b b2 L h' L2 := ⟨t.ex.trans x, t.hb, t.ne, Box.kx x t.box, Box.kx x t.box2⟩
theorem TB.stu {α : Type} {Q : α → Prop} {h0 h : H} {b b2 i : Nat} {L L2 : List Value} {v : Value} {f : H → Option α} (t : TB h0 b b2 L h L2) (hi : i < L2.length) (ho : oneC v = true) (p : ∀ h', TB h0 b b2 L h' (L2.set i v) → UP (· = b2) h h' → PO (f h') Q) : PO (bindO (Abs.st1 h (add ⟨b2, 0, some 0⟩ i) v) f) Q :=
  PO.st1 t.box2 t.ex.wf hi ho fun h' B u z w => p h' ⟨u.ex0 t.ex (fun A hA e => by have := t.hb; omega), t.hb, t.ne, Box.ku u t.ne t.box, B⟩ u
theorem ok0 : okN 0 := by unfold okN; omega
end Go.Proofs.Ythiccnmplgdheaa.T
