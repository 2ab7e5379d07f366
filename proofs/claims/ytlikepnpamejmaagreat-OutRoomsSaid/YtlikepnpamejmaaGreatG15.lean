/- Lemmas about the typed texts (joined: SHead4 LHead1 SFrame2). -/
import Derived.Test.YtlikepnpamejmaaGreatG14
import Derived.Test.YtlikepnpamejmaaGreatG13
/- Chapter 18's functions over the typed texts: short heads, texts, the chapter's example; what is laid is read. -/
set_option linter.unusedVariables false
set_option linter.unusedSimpArgs false
namespace Go.Proofs.YtlikepnpamejmaaGreat.T
open Go Go.Abs Go.Proofs
theorem PO.app1 {α : Type} {Q : α → Prop} {h0 h : H} {out : Sl} {l : List UInt8} {bv : UInt8} {g : Sl → H → Option α} {x : Int} (hxv : x = (bv.toNat : Int)) (hb : BufB h out l) (hx : EX h0 h) (hf : Fr h0.size out) (hl : l.length + 1 ≤ 2 ^ 47)
    (k : ∀ out1 h2, BufB h2 out1 (l ++ [bv]) → EX h0 h2 → Fr h0.size out1 → PO (g out1 h2) Q) : PO (newO (row 5 [.int .u8 x]) h fun b h1 => bind2 (appT 5 1 1 h1 out ⟨some ⟨b, 0, some 0⟩, 1, 1⟩) g) Q := by
  subst hxv
  obtain ⟨out1, h2, e, b, x, f⟩ := app_one bv hb hx hf hl
  rw [newO_eq]
  exact PO.callE e (k out1 h2 b x f)
/-! short heads -/
def snums (x : Hd) : List Int := [x.1, x.2.1, x.2.2.2.2]
def shortV (x : Hd) : List UInt8 := if HR x then encs (snums x) else []
theorem HR.ok3 {x : Hd} (h : HR x) : ∀ n ∈ snums x, okN n := by
  unfold HR hcnt at h; unfold snums okN; simp only [List.mem_cons, List.not_mem_nil, or_false, forall_eq_or_imp, forall_eq]; omega
def rsV (l : List UInt8) : Hd × Int × Int := match tks 3 l with
  | some (ns, rest) => if ofV (ns.getD 0 0) (ns.getD 1 0) (ns.getD 2 0) = hd0 then (hd0, 0, 2) else (ofV (ns.getD 0 0) (ns.getD 1 0) (ns.getD 2 0), (l.length : Int) - rest.length, 0)
  | none => (hd0, 0, 3)
theorem tks_rest : ∀ (n : Nat) (l : List UInt8) (ns : List Int) (r : List UInt8), tks n l = some (ns, r) → r.length ≤ l.length
  | 0, l, ns, r, h => by simp [tks] at h; rw [h.2]; omega
  | n + 1, l, ns, r, h => by
    unfold tks at h
    split at h
    · simp only [Option.map_eq_some_iff] at h
      obtain ⟨⟨p1, p2⟩, h1, h2⟩ := h
      simp only [Prod.mk.injEq] at h2
      have := tks_rest n _ p1 p2 h1
      have := tk_rest l
      rw [← h2.2]; omega
    · simp at h
/-! texts -/
def txB (l : List UInt8) (i : Nat) : UInt8 := UInt8.ofNat (i * 7) + (if l.length = 0 then 0 else l.getD (i % l.length) 0)
def textL (l : List UInt8) (n : Nat) : List UInt8 := (List.range n).map (txB l)
theorem textL_length (l : List UInt8) (n : Nat) : (textL l n).length = n := by simp [textL]
theorem textL_succ (l : List UInt8) (n : Nat) : textL l (n + 1) = textL l n ++ [txB l n] := by simp [textL, List.range_succ]
/-! what is laid is read -/
theorem readV_layV {x : Hd} {l : List UInt8} (h : HR x ∧ (l.length : Int) = hto x - hfrom x) : readV (layV x l) = (x, l, 0) := by
  unfold layV readV
  rw [if_pos h]
  have := tks_encs (hnums x) l h.1.ok
  have h5 : (hnums x).length = 5 := rfl
  rw [h5] at this
  rw [this]
  have hd : hdOf (hnums x) = x := rfl
  simp only [hd]
  rw [if_pos h]
theorem layV_length {x : Hd} {l : List UInt8} (h : HR x ∧ (l.length : Int) = hto x - hfrom x) : l.length < (layV x l).length ∧ (layV x l).length ≤ l.length + 40 := by
  unfold layV
  rw [if_pos h]
  have := encs_length (hnums x)
  have h5 : (hnums x).length = 5 := rfl
  have h1 : 0 < (encs (hnums x)).length := by
    unfold hnums encs
    rw [List.length_append, enc_length]
    have := sz_pos x.1
    omega
  simp; omega
end Go.Proofs.YtlikepnpamejmaaGreat.T
/- Chapter 18's example and the law HeadSpread over the typed texts. -/
set_option linter.unusedVariables false
set_option linter.unusedSimpArgs false
namespace Go.Proofs.YtlikepnpamejmaaGreat.T
open Go Go.Abs Go.Proofs
theorem capOk_self (sz n : Nat) (h : n < B63) : CapOK sz n n := by unfold CapOK; rw [capK_exact h]; exact Nat.le_refl _
theorem Box.rdS {h : H} {b n : Nat} {xs : List Sl} (B : Box h b (xs.map encSl)) (w : WF h) (hn : xs.length = n) (hb : n < B63) : RdS h ⟨some ⟨b, 0, some 0⟩, n, n⟩ xs := by
  subst hn; exact B.rd w (by simp) (capOk_self _ _ hb)
theorem Box.rdB {h : H} {b n : Nat} {xs : List UInt8} (B : Box h b (vB xs)) (w : WF h) (hn : xs.length = n) (hb : n < B63) : RdB h ⟨some ⟨b, 0, some 0⟩, n, n⟩ xs := by
  subst hn; exact B.rd w (by simp [vB]) (capOk_self _ _ hb)
def X0 : Hd := (3, 9, 2, 0, 81)
theorem PO.law {m : Option (Bool × H)} (p : PO m (fun (a, _) => a = true)) : ∃ h', m = some (true, h') := by
  obtain ⟨⟨a, h'⟩, e, ha⟩ := p
  have ha' : a = true := ha
  subst ha'
  exact ⟨h', e⟩
theorem slB_hi {h : H} {s : Sl} {l : List UInt8} (hr : RdB h s l) {hi : Int} (h1 : 0 ≤ hi) (h2 : hi ≤ l.length) : ∃ s', slT 1 h s none (some hi) none = some s' ∧ RdB h s' (l.take hi.toNat) := by
  obtain ⟨s', e, r, _, _⟩ := sl_hi (hi := hi) (by omega) (by unfold B63; omega) hr h1 (by rw [RdB.len hr]; exact h2)
  refine ⟨s', e, ?_⟩
  unfold vB at r; unfold RdB vB
  rw [Nat.mul_one] at r
  rw [List.map_take]; exact r
theorem slB_lo {h : H} {s : Sl} {l : List UInt8} (hr : RdB h s l) {lo : Int} (h1 : 0 ≤ lo) (h2 : lo ≤ l.length) : ∃ s', slT 1 h s (some lo) none none = some s' ∧ RdB h s' (l.drop lo.toNat) := by
  obtain ⟨s', e, r, _, _⟩ := sl_lo (lo := lo) (by omega) (by unfold B63; omega) hr h1 (by rw [RdB.len hr]; exact h2)
  refine ⟨s', e, ?_⟩
  unfold vB at r; unfold RdB vB
  rw [Nat.mul_one] at r
  rw [List.map_drop]; exact r
theorem ofV_ok {id dl sz : Int} (h : 0 ≤ id ∧ id < 40 ∧ 0 ≤ dl ∧ dl ≤ 4611686018427387903 ∧ 1 ≤ sz ∧ sz ≤ 600) : ofV id dl sz = (id, dl, hcnt sz, 0, sz) ∧ HR (id, dl, hcnt sz, 0, sz) := by
  have : HR (id, dl, hcnt sz, 0, sz) := ⟨h.1, h.2.1, h.2.2.1, h.2.2.2.1, h.2.2.2.2.1, h.2.2.2.2.2, rfl, Int.le_refl 0, by show 0 < hcnt sz; unfold hcnt; omega⟩
  exact ⟨by unfold ofV; rw [if_pos this], this⟩
abbrev RNG (n : Int) : Prop := -9223372036854775808 ≤ n ∧ n ≤ 9223372036854775807
theorem emod_b (a : Int) {m : Int} (h : 0 < m) : 0 ≤ a % m ∧ a % m < m := ⟨Int.emod_nonneg a (by omega), Int.emod_lt_of_pos a h⟩
theorem layV_no {x : Hd} {l : List UInt8} (h : (l.length : Int) ≠ hto x - hfrom x) : layV x l = [] := by unfold layV; rw [if_neg (fun e => h e.2)]
end Go.Proofs.YtlikepnpamejmaaGreat.T
/- Chapter 5's functions over the typed texts: same, may, right frames. -/
set_option linter.unusedVariables false
set_option linter.unusedSimpArgs false
namespace Go.Proofs.YtlikepnpamejmaaGreat.T
open Go Go.Abs Go.Proofs
structure FV where
  kind : Int
  id : Int
  off : Int
  a : Int
  b : Int
  note : Int
  fin : Bool
  data : List UInt8
  spans : List Run
structure FRd (h : H) (x : F9) (v : FV) : Prop where
  e : x.1 = v.kind ∧ x.2.1 = v.id ∧ x.2.2.1 = v.off ∧ x.2.2.2.1 = v.a ∧ x.2.2.2.2.1 = v.b ∧ x.2.2.2.2.2.1 = v.note ∧ x.2.2.2.2.2.2.1 = v.fin
  data : RdB h x.2.2.2.2.2.2.2.1 v.data
  spans : RdR h x.2.2.2.2.2.2.2.2 v.spans
theorem FRd.ex {h h' : H} {x : F9} {v : FV} (y : EX h h') (r : FRd h x v) : FRd h' x v := ⟨r.e, r.data.ex y, r.spans.ex y⟩
def sameV (v w : FV) : Prop := v.kind = w.kind ∧ v.id = w.id ∧ v.off = w.off ∧ v.a = w.a ∧ v.b = w.b ∧ v.fin = w.fin ∧ v.data = w.data ∧ v.spans = w.spans
instance (v w : FV) : Decidable (sameV v w) := by unfold sameV; infer_instance
/-! may -/
/-! an Ack's spans -/
def RSp : Option Int → List Run → Prop
  | _, [] => True
  | p, r :: l => (okN r.1 ∧ okN r.2) ∧ r.1 ≤ r.2 ∧ (∀ q, p = some q → 2 ≤ q - r.2) ∧ RSp (some r.1) l
def decRSp : (p : Option Int) → (l : List Run) → Decidable (RSp p l)
  | _, [] => .isTrue trivial
  | p, r :: l => by
    unfold RSp okN
    have := decRSp (some r.1) l
    cases p with
    | none => exact decidable_of_iff (((0 ≤ r.1 ∧ r.1 ≤ 4611686018427387903) ∧ 0 ≤ r.2 ∧ r.2 ≤ 4611686018427387903) ∧ r.1 ≤ r.2 ∧ RSp (some r.1) l) (by simp)
    | some q => exact decidable_of_iff (((0 ≤ r.1 ∧ r.1 ≤ 4611686018427387903) ∧ 0 ≤ r.2 ∧ r.2 ≤ 4611686018427387903) ∧ r.1 ≤ r.2 ∧ 2 ≤ q - r.2 ∧ RSp (some r.1) l) (by simp)
instance (p : Option Int) (l : List Run) : Decidable (RSp p l) := decRSp p l
def RSs (l : List Run) : Prop := RSp none l ∧ 1 ≤ l.length ∧ l.length ≤ 8
instance (l : List Run) : Decidable (RSs l) := by unfold RSs; infer_instance
def prevOf (l : List Run) (i : Nat) : Option Int := if i = 0 then none else some (l.getD (i - 1) (0, 0)).1
end Go.Proofs.YtlikepnpamejmaaGreat.T
