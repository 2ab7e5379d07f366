/- Lemmas about the typed texts (joined: SFrame6 SRaw1 SRaw2). -/
import Derived.Test.YtlikepnpamejmaaGreatG16
/- Chapter 5's functions over the typed texts: frames laid, sized; which elicit; which are the same. -/
set_option linter.unusedVariables false
set_option linter.unusedSimpArgs false
namespace Go.Proofs.YtlikepnpamejmaaGreat.T
open Go Go.Abs Go.Proofs
theorem take_succ_getD {α : Type} (l : List α) (d : α) {i : Nat} (h : i < l.length) : l.take (i + 1) = l.take i ++ [l.getD i d] := by
  rw [List.take_add_one, List.getD_eq_getElem?_getD, List.getElem?_eq_getElem h]; rfl
theorem getD_mem {α : Type} (l : List α) (d : α) {i : Nat} (h : i < l.length) : l.getD i d ∈ l := by
  rw [List.getD_eq_getElem?_getD, List.getElem?_eq_getElem h]; exact List.getElem_mem h
theorem layFs_length : ∀ {vs : List FV}, (∀ v ∈ vs, FR v) → (layFs vs).length ≤ 264 * vs.length
  | [], _ => by simp [layFs]
  | v :: vs, h => by
    have h1 := lay1_length (h v (by simp))
    have h2 := layFs_length (vs := vs) (fun u hu => h u (by simp [hu]))
    simp only [layFs, List.length_append, List.length_cons]; omega
/-! sizes -/
theorem szs_sum : ∀ {zs : List Int}, (∀ n ∈ zs, okN n) → szs zs = some ((encs zs).length : Int)
  | [], _ => rfl
  | n :: zs, h => by
    have h1 := szs_sum (zs := zs) (fun m hm => h m (by simp [hm]))
    have h2 := h n (by simp)
    have h3 := sz_pos n
    simp only [encs, List.length_append, enc_length, szs]
    rw [if_pos h2, h1]
    simp; omega
def fszV (v : FV) : Int := if FR v then ((lay1 v).length : Int) else -1
/-! who elicits -/
def elV (v : FV) : Prop := v.kind ≠ 2 ∧ v.kind ≠ 12
instance (v : FV) : Decidable (elV v) := by unfold elV; infer_instance
/-! the same frames -/
def sameFs : List FV → List FV → Prop
  | [], [] => True
  | v :: vs, u :: us => sameV v u ∧ sameFs vs us
  | _, _ => False
def decSameFs : (a b : List FV) → Decidable (sameFs a b)
  | [], [] => .isTrue trivial
  | v :: vs, u :: us => by
    have := decSameFs vs us
    exact inferInstanceAs (Decidable (sameV v u ∧ sameFs vs us))
  | [], _ :: _ => .isFalse id
  | _ :: _, [] => .isFalse id
instance (a b : List FV) : Decidable (sameFs a b) := decSameFs a b
theorem sameV_refl (v : FV) : sameV v v := ⟨rfl, rfl, rfl, rfl, rfl, rfl, rfl, rfl⟩
theorem sameFs_refl : ∀ vs : List FV, sameFs vs vs
  | [] => trivial
  | v :: vs => ⟨sameV_refl v, sameFs_refl vs⟩
theorem sameFs_len : ∀ {a b : List FV}, sameFs a b → a.length = b.length
  | [], [], _ => rfl
  | v :: vs, u :: us, h => by simp [sameFs_len h.2]
  | [], _ :: _, h => h.elim
  | _ :: _, [], h => h.elim
theorem sameFs_drop {a b : List FV} {i : Nat} (ha : i < a.length) (hb : i < b.length) : sameFs (a.drop i) (b.drop i) ↔ sameV (a.getD i fv0) (b.getD i fv0) ∧ sameFs (a.drop (i + 1)) (b.drop (i + 1)) := by
  have h1 : a.drop i = a.getD i fv0 :: a.drop (i + 1) := by rw [List.drop_eq_getElem_cons ha]; simp [List.getD, ha]
  have h2 : b.drop i = b.getD i fv0 :: b.drop (i + 1) := by rw [List.drop_eq_getElem_cons hb]; simp [List.getD, hb]
  rw [h1, h2]; exact Iff.rfl
end Go.Proofs.YtlikepnpamejmaaGreat.T
/- Frames that are made from numbers (argosyhand): an Ack's runs, right frames. -/
set_option linter.unusedVariables false
set_option linter.unusedSimpArgs false
namespace Go.Proofs.YtlikepnpamejmaaGreat.T
open Go Go.Abs Go.Proofs
def lst : Option Int → List Run → Option Int
  | p, [] => p
  | _, r :: l => lst (some r.1) l
theorem lst_snoc : ∀ (l : List Run) (p : Option Int) (r : Run), lst p (l ++ [r]) = some r.1
  | [], _, _ => rfl
  | q :: l, p, r => lst_snoc l (some q.1) r
theorem RSp_snoc : ∀ {l : List Run} {p : Option Int} {r : Run}, RSp p l → okN r.1 → okN r.2 → r.1 ≤ r.2 → (∀ q, lst p l = some q → 2 ≤ q - r.2) → RSp p (l ++ [r])
  | [], p, r, _, h1, h2, h3, h4 => ⟨⟨h1, h2⟩, h3, h4, trivial⟩
  | q :: l, p, r, h, h1, h2, h3, h4 => ⟨h.1, h.2.1, h.2.2.1, RSp_snoc h.2.2.2 h1 h2 h3 h4⟩
/-! raw frames -/
structure RV where
  kind : Int
  id : Int
  off : Int
  a : Int
  b : Int
  bend : Int
  fin : Bool
  data : List UInt8
  spans : List Int
structure WRd (h : H) (x : F9) (v : RV) : Prop where
  e : x.1 = v.kind ∧ x.2.1 = v.id ∧ x.2.2.1 = v.off ∧ x.2.2.2.1 = v.a ∧ x.2.2.2.2.1 = v.b ∧ x.2.2.2.2.2.1 = v.bend ∧ x.2.2.2.2.2.2.1 = v.fin
  data : RdB h x.2.2.2.2.2.2.2.1 v.data
  spans : RdI .i64 h x.2.2.2.2.2.2.2.2 v.spans
theorem WRd.ex {h h' : H} {x : F9} {v : RV} (y : EX h h') (r : WRd h x v) : WRd h' x v := ⟨r.e, r.data.ex y, Rd.ex y r.spans⟩
def FOut (h0 : H) (b b1 b2 : Nat) (x : F9) (st : (Option Addr × Option Addr × Option Addr) × H) : Prop :=
  st.1 = (some ⟨b, 0, some 0⟩, some ⟨b1, 0, some 0⟩, some ⟨b2, 0, some 0⟩) ∧ ∃ y v, TB h0 b b2 (f9L x) st.2 (f9L y) ∧ FRd st.2 y v ∧ FR v ∧ Fr h0.size y.2.2.2.2.2.2.2.1 ∧ Fr h0.size y.2.2.2.2.2.2.2.2
theorem fout {h0 h : H} {b b1 b2 : Nat} {x : F9} {k id off a b' : Int} {fin : Bool} {d s : Sl} {dl : List UInt8} {sl : List Run} (t : TB h0 b b2 (f9L x) h (f9L (k, id, off, a, b', 0, fin, d, s))) (hd : RdB h d dl) (hs : RdR h s sl) (hdf : Fr h0.size d) (hsf : Fr h0.size s) (hv : FR ⟨k, id, off, a, b', 0, fin, dl, sl⟩) :
    FOut h0 b b1 b2 x ((some ⟨b, 0, some 0⟩, some ⟨b1, 0, some 0⟩, some ⟨b2, 0, some 0⟩), h) := ⟨rfl, _, _, t, ⟨⟨rfl, rfl, rfl, rfl, rfl, rfl, rfl⟩, hd, hs⟩, hv, hdf, hsf⟩
theorem pickB_f (a n : Int) (h : H) : hand_Pick a (IntKind.wrap .i64 (mayV n + 1)) h = some (a % (mayV n + 1), h) := by
  have := mayV_ok n
  unfold okN at this
  rw [w64 (by omega) (by omega)]
  exact pick_f _ _ (by omega) (by omega) _
theorem TB.kx {h0 h h' : H} {b b2 : Nat} {L L2 : List Value} (t : TB h0 b b2 L h L2) (x : EX h h') : TB h0 b b2 L h' L2 := ⟨t.ex.trans x, t.hb, t.ne, Box.kx x t.box, Box.kx x t.box2⟩
theorem TB.stu {α : Type} {Q : α → Prop} {h0 h : H} {b b2 i : Nat} {L L2 : List Value} {v : Value} {f : H → Option α} (t : TB h0 b b2 L h L2) (hi : i < L2.length) (ho : oneC v = true) (p : ∀ h', TB h0 b b2 L h' (L2.set i v) → UP (· = b2) h h' → PO (f h') Q) : PO (bindO (Abs.st1 h (add ⟨b2, 0, some 0⟩ i) v) f) Q :=
  PO.st1 t.box2 t.ex.wf hi ho fun h' B u z w => p h' ⟨u.ex0 t.ex (fun A hA e => by have := t.hb; omega), t.hb, t.ne, Box.ku u t.ne t.box, B⟩ u
theorem ok0 : okN 0 := by unfold okN; omega
end Go.Proofs.YtlikepnpamejmaaGreat.T
/- Right frames made from a list of raw ones (argosyhand). -/
set_option linter.unusedVariables false
set_option linter.unusedSimpArgs false
namespace Go.Proofs.YtlikepnpamejmaaGreat.T
open Go Go.Abs Go.Proofs
def WRs (h : H) : List F9 → List RV → Prop
  | [], [] => True
  | x :: xs, v :: vs => WRd h x v ∧ WRs h xs vs
  | _, _ => False
structure RdW (h : H) (s : Sl) (xs : List F9) (vs : List RV) : Prop where
  rd : Rd 9 h s (fsV xs)
  wrs : WRs h xs vs
theorem WRs.len {h : H} : ∀ {xs : List F9} {vs : List RV}, WRs h xs vs → xs.length = vs.length
  | [], [], _ => rfl
  | x :: xs, v :: vs, r => by simp [WRs.len r.2]
  | [], _ :: _, r => r.elim
  | _ :: _, [], r => r.elim
theorem WRs.ex {h h' : H} (y : EX h h') : ∀ {xs : List F9} {vs : List RV}, WRs h xs vs → WRs h' xs vs
  | [], [], _ => trivial
  | x :: xs, v :: vs, r => ⟨WRd.ex y r.1, WRs.ex y r.2⟩
  | [], _ :: _, r => r.elim
  | _ :: _, [], r => r.elim
def rv0 : RV := ⟨0, 0, 0, 0, 0, 0, false, [], []⟩
theorem WRs.get {h : H} : ∀ {xs : List F9} {vs : List RV}, WRs h xs vs → ∀ j, j < vs.length → WRd h (xs.getD j f90) (vs.getD j rv0)
  | [], [], _, j, hj => by simp at hj
  | x :: xs, v :: vs, r, 0, _ => r.1
  | x :: xs, v :: vs, r, j + 1, hj => WRs.get r.2 j (by simpa using hj)
  | [], _ :: _, r, _, _ => r.elim
  | _ :: _, [], r, _, _ => r.elim
theorem RdW.ex {h h' : H} {s : Sl} {xs : List F9} {vs : List RV} (y : EX h h') (r : RdW h s xs vs) : RdW h' s xs vs := ⟨Rd.ex y r.rd, WRs.ex y r.wrs⟩
theorem RdW.len {h : H} {s : Sl} {xs : List F9} {vs : List RV} (r : RdW h s xs vs) : s.len = vs.length := by
  have := r.rd.len; rw [fsV_length] at this; have := r.wrs.len; omega
theorem PO.ixW {α : Type} {Q : α → Prop} {h : H} {s : Sl} {xs : List F9} {vs : List RV} {j : Int} {g : Addr → Option α} (r : RdW h s xs vs) (h0 : 0 ≤ j) (h1 : j < vs.length)
    (p : ∀ a b, s.base = some b → a = add b (j.toNat * 9) → Abs.ldZ [.int .i64, .int .i64, .int .i64, .int .i64, .int .i64, .int .i64, .bool, .sl, .sl] h a = some (xs.getD j.toNat f90) → WRd h (xs.getD j.toNat f90) (vs.getD j.toNat rv0) → PO (g a) Q) : PO (bindO (ixT 9 s j) g) Q := by
  obtain ⟨a, ha, e⟩ := ixT_ok r.rd h0 (by rw [RdW.len r]; exact h1)
  have hl := r.wrs.len
  have hj : j.toNat < xs.length := by omega
  exact .op e (p _ a ha rfl (Rd.ldZat r.rd ha _ zF (xs.getD j.toNat f90) (fsV_get xs _ hj)) (r.wrs.get _ (by omega)))
def WzOK (vs : List RV) : Prop := ∀ v ∈ vs, v.data.length ≤ 2 ^ 47 ∧ v.spans.length ≤ 2 ^ 50
/-- an append of one frame -/
theorem PO.appF {α : Type} {Q : α → Prop} {h0 h : H} {out : Sl} {xs : List F9} {x : F9} {g : Sl → H → Option α} (hx : EX h0 h) (hb : Buf 9 h out (fsV xs)) (hf : Fr h0.size out) (hl : xs.length + 1 ≤ 2 ^ 40)
    (k : ∀ out1 h2, Buf 9 h2 out1 (fsV (xs ++ [x])) → EX h0 h2 → Fr h0.size out1 → KP h h2 → PO (g out1 h2) Q) : PO (newO (row 143 (f9L x)) h fun b h1 => bind2 (appT 143 9 104 h1 out ⟨some ⟨b, 0, some 0⟩, 1, 1⟩) g) Q := by
  refine PO.newB hx.wf fun h1 x1 B1 z1 w1 => ?_
  have r1 : Rd 9 h1 ⟨some ⟨h.size, 0, some 0⟩, 1, 1⟩ (fsV [x]) := B1.rd w1 rfl (by unfold CapOK; rw [capK_exact (by unfold B63; omega)]; exact Nat.le_refl _)
  have hb1 : Buf 9 h1 out (fsV xs) := hb.ex hx.wf x1
  have hlen := hb1.rd.len
  rw [fsV_length] at hlen
  obtain ⟨s', h', e, k1, x2, b2, _, f2⟩ := appT_ok (e := 143) (bytes := 104) (by omega) (by unfold B63; omega) w1 hb1 r1 (fsV_oneC _) (by simp only; omega) (by simp only; omega)
  refine PO.callE e (k s' h' ?_ (x2 _ (hx.trans x1) hf) (f2 _ (hx.trans x1).size hf) ((x1.kp hx.wf).trans k1))
  rw [fsV_app]; exact b2
theorem FRd.kp {h h' : H} (k : KP h h') {x : F9} {v : FV} (r : FRd h x v) : FRd h' x v := ⟨r.e, RdB.mono r.data k, RdR.mono k r.spans⟩
theorem FRs.kp {h h' : H} {xs : List F9} {vs : List FV} (k : KP h h') (r : FRs h xs vs) : FRs h' xs vs := r.map fun x v => FRd.kp k
end Go.Proofs.YtlikepnpamejmaaGreat.T
