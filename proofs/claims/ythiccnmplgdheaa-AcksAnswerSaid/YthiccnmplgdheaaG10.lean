/- Lemmas about the typed texts (joined: SSeal4 SFrame1 SRef1). -/
import Derived.Test.YthiccnmplgdheaaG9
import Derived.Test.YthiccnmplgdheaaG6
import Derived.Test.YthiccnmplgdheaaG8
/- Chapter 4's functions over the typed texts: a tag's bytes, equality, closing and opening, the chapter's example. -/
set_option linter.unusedVariables false
set_option linter.unusedSimpArgs false
namespace Go.Proofs.Ythiccnmplgdheaa.T
open Go Go.Abs Go.Proofs
theorem byte_at64 {x : Int} (h0 : 0 ≤ x) (m : Nat) (hm : m < 8) : ∃ y, shrT .u64 x .i64 (8 * (m : Int)) = some y ∧ IntKind.wrap .u8 y = ((UInt8.ofNat (x.toNat / 256 ^ m)).toNat : Int) := by
  refine ⟨_, shrT_ok _ _ _ (by omega), ?_⟩
  have e1 : min (8 * (m : Int)).toNat IntKind.u64.bits = 8 * m := by
    have : IntKind.u64.bits = 64 := rfl
    omega
  rw [e1, wu8_mod]
  have e2 : (2 : Int) ^ (8 * m) = ((256 ^ m : Nat) : Int) := by
    rw [show (256 : Nat) = 2 ^ 8 from rfl, ← Nat.pow_mul, Int.natCast_pow]; rfl
  rw [e2, fdiv_pos _ (Int.natCast_nonneg _), UInt8.toNat_ofNat']
  obtain ⟨n, rfl⟩ : ∃ n : Nat, x = n := ⟨x.toNat, (Int.toNat_of_nonneg h0).symm⟩
  rw [Int.toNat_natCast, ← Int.natCast_ediv]
  exact (Int.natCast_emod _ 256).symm
def tagL (key num : Int) (head masked : List UInt8) : List UInt8 := be 8 (tagV (stepV key num) [head, masked]).toNat
theorem tagL_length (key num : Int) (head masked : List UInt8) : (tagL key num head masked).length = 8 := be_length _ _
/-- a new row of slices -/
theorem newS {h : H} (w : WF h) (xs : List Sl) (hx : xs.length < B63) : EX h (newAt (grow h 1) h.size (row 30 (xs.map encSl))) ∧ RdS (newAt (grow h 1) h.size (row 30 (xs.map encSl))) ⟨some ⟨h.size, 0, some 0⟩, xs.length, xs.length⟩ xs :=
  ⟨wf_new w 30 _, rd_new 30 1 _ _ _ (by simp) (by unfold CapOK; rw [capK_exact hx]; exact Nat.le_refl _)⟩
theorem eq_loop {h : H} {a b : Sl} {la lb : List UInt8} (ha : RdB h a la) (hb : RdB h b lb) (hl : la.length = lb.length) (hn : la.length ≤ 2 ^ 47) : ∀ (k i : Nat), i + k = la.length →
    loopO slices_Equal_byte_l1 ((a, (b, ((la.length : Int), (i : Int)))), h) = some (decide (la.drop i = lb.drop i), h)
  | 0, i, hik => by
    rw [loopO_eq, List.drop_eq_nil_of_le (by omega), List.drop_eq_nil_of_le (by omega)]
    simp only [slices_Equal_byte_l1, condK_eq, decide_eq_true_eq, show ¬ ((i : Int) < (la.length : Int)) by omega, if_false]
    simp
  | k + 1, i, hik => by
    obtain ⟨p, _, e1, e2⟩ := ha.at (i := (i : Int)) (by omega) (by omega)
    obtain ⟨q, _, e3, e4⟩ := hb.at (i := (i : Int)) (by omega) (by omega)
    simp only [Int.toNat_natCast] at e1 e2 e3 e4
    have d1 : la.drop i = la.getD i 0 :: la.drop (i + 1) := by
      rw [List.drop_eq_getElem_cons (by omega)]
      simp [List.getD, show i < la.length by omega]
    have d2 : lb.drop i = lb.getD i 0 :: lb.drop (i + 1) := by
      rw [List.drop_eq_getElem_cons (by omega)]
      simp [List.getD, show i < lb.length by omega]
    rw [loopO_eq]
    simp only [slices_Equal_byte_l1, condK_eq, decide_eq_true_eq, show ((i : Int) < (la.length : Int)) by omega, if_true]
    rw [e1, bindO_some, e2, bindO_some, e3, bindO_some, e4, bindO_some, d1, d2]
    by_cases hc : la.getD i 0 = lb.getD i 0
    · rw [hc]
      simp only [bne_self_eq_false, Bool.false_eq_true, if_false]
      rw [w64 (by omega) (by omega)]
      have := eq_loop ha hb hl hn k (i + 1) (by omega)
      simp only [List.cons.injEq, true_and]
      exact this
    · have hne : (((la.getD i 0).toNat : Int) != ((lb.getD i 0).toNat : Int)) = true := by
        simp only [bne_iff_ne, ne_eq]
        intro e
        exact hc (UInt8.toNat_inj.1 (by omega))
      rw [hne]
      simp only [if_true, List.cons.injEq, hc, false_and, decide_false]
theorem Equal_f {h : H} {a b : Sl} {la lb : List UInt8} (ha : RdB h a la) (hb : RdB h b lb) (hn : la.length ≤ 2 ^ 47) : slices_Equal_byte a b h = some (decide (la = lb), h) := by
  unfold slices_Equal_byte
  rw [ha.len, hb.len]
  by_cases hl : la.length = lb.length
  · have : (((la.length : Nat) : Int) != ((lb.length : Nat) : Int)) = false := by simp; omega
    rw [this, condK_eq, if_neg (by simp)]
    have e := eq_loop ha hb hl hn la.length 0 (by omega)
    simpa using e
  · have : (((la.length : Nat) : Int) != ((lb.length : Nat) : Int)) = true := by simp; omega
    rw [this, condK_eq, if_pos rfl, decide_eq_false]
    intro e; exact hl (by rw [e])
def closeV (key num : Int) (head body : List UInt8) : List UInt8 := mk (stepV key num) 0 body ++ tagL key num head (mk (stepV key num) 0 body)
theorem closeV_length (key num : Int) (head body : List UInt8) : (closeV key num head body).length = body.length + 8 := by
  unfold closeV; rw [List.length_append, mk_length, tagL_length]
def openV (key num : Int) (head l : List UInt8) : Option (List UInt8) :=
  if l.length < 8 then none else if tagL key num head (l.take (l.length - 8)) = l.drop (l.length - 8) then some (mk (stepV key num) 0 (l.take (l.length - 8))) else none
end Go.Proofs.Ythiccnmplgdheaa.T
/- Chapter 5's functions over the typed texts: frames in memory, bare, same, may. -/
set_option linter.unusedVariables false
set_option linter.unusedSimpArgs false
namespace Go.Proofs.Ythiccnmplgdheaa.T
open Go Go.Abs Go.Proofs
abbrev F9 := Int × Int × Int × Int × Int × Int × Bool × Sl × Sl
abbrev zF : List Z := [.int .i64, .int .i64, .int .i64, .int .i64, .int .i64, .int .i64, .bool, .sl, .sl]
abbrev f9L (x : F9) : List Value := [.int .i64 x.1, .int .i64 x.2.1, .int .i64 x.2.2.1, .int .i64 x.2.2.2.1, .int .i64 x.2.2.2.2.1, .int .i64 x.2.2.2.2.2.1, .bool x.2.2.2.2.2.2.1, .slice x.2.2.2.2.2.2.2.1.base x.2.2.2.2.2.2.2.1.len x.2.2.2.2.2.2.2.1.cap, .slice x.2.2.2.2.2.2.2.2.base x.2.2.2.2.2.2.2.2.len x.2.2.2.2.2.2.2.2.cap]
def f90 : F9 := (0, 0, 0, 0, 0, 0, false, ⟨none, 0, 0⟩, ⟨none, 0, 0⟩)
theorem PO.ldF {α : Type} {Q : α → Prop} {h : H} {b : Nat} {x : F9} {f : F9 → Option α} (B : Box h b (f9L x)) (p : PO (f x) Q) : PO (bindO (Abs.ldZ [.int .i64, .int .i64, .int .i64, .int .i64, .int .i64, .int .i64, .bool, .sl, .sl] h ⟨b, 0, some 0⟩) f) Q := .op (B.ldZ zF x rfl) p
/-- two boxes, the second one written -/
structure TB (h0 : H) (b b2 : Nat) (L : List Value) (h : H) (L2 : List Value) : Prop where
  ex : EX h0 h
  hb : h0.size ≤ b2
  ne : ¬ b = b2
  box : Box h b L
  box2 : Box h b2 L2
section
variable {α : Type} {Q : α → Prop} {h0 h : H} {b b2 i : Nat} {L L2 : List Value}
theorem TB.ldI {k : IntKind} {n : Int} {f : Int → Option α} (t : TB h0 b b2 L h L2) (hi : L[i]? = some (.int k n)) (p : PO (f n) Q) : PO (bindO (Abs.ldI k h (add ⟨b, 0, some 0⟩ i)) f) Q := .ldI t.box hi p
theorem TB.ldB {n : Bool} {f : Bool → Option α} (t : TB h0 b b2 L h L2) (hi : L[i]? = some (.bool n)) (p : PO (f n) Q) : PO (bindO (Abs.ldB h (add ⟨b, 0, some 0⟩ i)) f) Q := .ldB t.box hi p
theorem TB.ldL {n : Sl} {f : Sl → Option α} (t : TB h0 b b2 L h L2) (hi : L[i]? = some (encSl n)) (p : PO (f n) Q) : PO (bindO (Abs.ldL h (add ⟨b, 0, some 0⟩ i)) f) Q := .ldL t.box hi p
theorem TB.st1 {v : Value} {f : H → Option α} (t : TB h0 b b2 L h L2) (hi : i < L2.length) (ho : oneC v = true) (p : ∀ h', TB h0 b b2 L h' (L2.set i v) → PO (f h') Q) : PO (bindO (Abs.st1 h (add ⟨b2, 0, some 0⟩ i) v) f) Q :=
  PO.st1 t.box2 t.ex.wf hi ho fun h' B u z w => p h' ⟨u.ex0 t.ex (fun A hA e => by have := t.hb; omega), t.hb, t.ne, Box.ku u t.ne t.box, B⟩
theorem TB.cast {h0 h : H} {b b2 : Nat} {L L2 L2' : List Value} (t : TB h0 b b2 L h L2) (e : L2 = L2') : TB h0 b b2 L h L2' := e ▸ t
end
def bareX (x : F9) : F9 :=
  if x.1 = 2 then (x.1, 0, 0, 0, 0, 0, false, ⟨none, 0, 0⟩, x.2.2.2.2.2.2.2.2)
  else if x.1 = 3 then (x.1, x.2.1, x.2.2.1, 0, 0, 0, x.2.2.2.2.2.2.1, x.2.2.2.2.2.2.2.1, ⟨none, 0, 0⟩)
  else if x.1 = 4 then (x.1, x.2.1, x.2.2.1, x.2.2.2.1, x.2.2.2.2.1, 0, false, ⟨none, 0, 0⟩, ⟨none, 0, 0⟩)
  else if x.1 = 5 ∨ x.1 = 7 then (x.1, x.2.1, 0, x.2.2.2.1, 0, 0, false, ⟨none, 0, 0⟩, ⟨none, 0, 0⟩)
  else if x.1 = 6 ∨ x.1 = 12 then (x.1, 0, 0, x.2.2.2.1, 0, 0, false, ⟨none, 0, 0⟩, ⟨none, 0, 0⟩)
  else if x.1 = 8 then (x.1, 0, 0, x.2.2.2.1, 0, 0, x.2.2.2.2.2.2.1, ⟨none, 0, 0⟩, ⟨none, 0, 0⟩)
  else if x.1 = 9 then (x.1, 0, 0, 0, 0, 0, false, x.2.2.2.2.2.2.2.1, ⟨none, 0, 0⟩)
  else if x.1 = 10 ∨ x.1 = 11 then (x.1, x.2.1, 0, 0, 0, 0, false, ⟨none, 0, 0⟩, ⟨none, 0, 0⟩)
  else (x.1, 0, 0, 0, 0, 0, false, ⟨none, 0, 0⟩, ⟨none, 0, 0⟩)
theorem bare_f {h : H} (w : WF h) (x : F9) : PO (frame_bare x h) (fun (a, h1) => a = bareX x ∧ EX h h1) := by
  unfold frame_bare
  refine PO.newB w fun h1 x1 B1 z1 w1 => PO.newB w1 fun h2 x2 B2 z2 w2 => .ldI (Box.kx x2 B1) rfl (PO.newB w2 fun h3 x3 B3 z3 w3 => PO.stZ B3 w3 rfl rfl fun h4 B4 u4 z4 w4 => ?_)
  have y4 : EX h2 h4 := u4.ex0 x3 (fun A hA e => by omega)
  have t0 : TB h2 h.size h2.size (f9L x) h4 (f9L (x.1, 0, 0, 0, 0, 0, false, ⟨none, 0, 0⟩, ⟨none, 0, 0⟩)) := ⟨y4, Nat.le_refl _, by omega, Box.kx y4 (Box.kx x2 B1), B4⟩
  refine PO.join (fun s => s.1 = (some ⟨h1.size, 0, some 0⟩, some ⟨h2.size, 0, some 0⟩) ∧ TB h2 h.size h2.size (f9L x) s.2 (f9L (bareX x))) ?_ ?_
  · clear B1 B2 B3 B4 u4 y4 x3 w3 w4
    repeat' (first
      | refine PO.chk (by simp [slEq_self]) ?_
      | refine .condE (fun e => ?_) (fun e => ?_)
      | refine TB.ldI (by assumption) rfl ?_
      | refine TB.ldB (by assumption) rfl ?_
      | refine TB.ldL (by assumption) rfl ?_
      | refine TB.st1 (by assumption) (by simp) rfl (fun h' t => ?_)
      | refine PO.retL ⟨rfl, TB.cast (by assumption) ?_⟩)
    all_goals (first | (exfalso; omega) | simp [bareX, *])
  · rintro ⟨s, h5⟩ ⟨rfl, t5⟩
    have t : TB h2 h.size h2.size (f9L x) h5 (f9L (bareX x)) := t5
    refine .ptr (PO.ldF t.box2 (.ptr (PO.stZ (Box.kx t.ex B2) t.ex.wf rfl rfl fun h6 B6 u6 z6 w6 => .ptr (PO.ldF B6 (.ret ⟨rfl, ?_⟩)))))
    exact u6.ex0 ((x1.trans x2).trans t.ex) (fun A hA e => by have := x1.size; omega)
end Go.Proofs.Ythiccnmplgdheaa.T
/- The reference's functions of chapter 1 over the typed texts. -/
set_option linter.unusedVariables false
set_option linter.unusedSimpArgs false
namespace Go.Proofs.Ythiccnmplgdheaa.T
open Go Go.Abs Go.Proofs
theorem szs_nonneg : ∀ (zs : List Int) (t : Int), szs zs = some t → 0 ≤ t
  | [], t, h => by simp [szs] at h; omega
  | n :: l, t, h => by
    unfold szs at h
    split at h
    · simp only [Option.map_eq_some_iff] at h
      obtain ⟨u, h1, h2⟩ := h
      have := szs_nonneg l u h1
      have := sz_pos n
      omega
    · simp at h
theorem szs_all : ∀ zs : List Int, (szs zs).isSome = true ↔ ∀ x ∈ zs, okN x
  | [] => by simp [szs]
  | n :: l => by
    have ih := szs_all l
    unfold szs
    by_cases hn : okN n
    · simp [hn, ih]
    · simp [hn]
theorem szV_neg (zs : List Int) : szV zs < 0 ↔ ¬ ∀ x ∈ zs, okN x := by
  rw [← szs_all]
  unfold szV
  cases hz : szs zs with
  | none => simp
  | some t => have := szs_nonneg zs t hz; simp; omega
/-! bytes put -/
theorem byte_atk (k' : IntKind) {x : Int} (h0 : 0 ≤ x) (m : Nat) (hm : m < 8) : ∃ y, shrT .i64 x k' (8 * (m : Int)) = some y ∧ IntKind.wrap .u8 y = ((UInt8.ofNat (x.toNat / 256 ^ m)).toNat : Int) := by
  obtain ⟨y, e1, e2⟩ := byte_at h0 m hm
  refine ⟨y, ?_, e2⟩
  rw [shrT_ok _ _ _ (by omega)] at e1 ⊢
  exact e1
theorem app_one {h0 h : H} {out : Sl} {l : List UInt8} (bv : UInt8) (hb : BufB h out l) (hx : EX h0 h) (hf : Fr h0.size out) (hl : l.length + 1 ≤ 2 ^ 47) :
    ∃ out1 h2, appT 5 1 1 (newAt (grow h 1) h.size (row 5 [.int .u8 (bv.toNat : Int)])) out ⟨some ⟨h.size, 0, some 0⟩, 1, 1⟩ = some (out1, h2) ∧ BufB h2 out1 (l ++ [bv]) ∧ EX h0 h2 ∧ Fr h0.size out1 := by
  rw [show row 5 [Value.int .u8 (bv.toNat : Int)] = row 5 (vB [bv]) from rfl]
  have x1 := wf_new hx.wf 5 (vB [bv])
  have b1 : BufB _ ⟨some ⟨h.size, 0, some 0⟩, 1, 1⟩ [bv] := bufB_new hx.wf 5 [bv] (by simp [B63])
  generalize newAt (grow h 1) h.size (row 5 (vB [bv])) = h1 at x1 b1 ⊢
  generalize (⟨some ⟨h.size, 0, some 0⟩, 1, 1⟩ : Sl) = s1 at b1 ⊢
  obtain ⟨out1, h2, e3, k3, x3, b3, _, f3⟩ := appB_ok (e := 5) x1.wf (hb.ex hx.wf x1) b1.rd (by simp; omega)
  exact ⟨out1, h2, e3, b3, x3 _ (hx.trans x1) hf, f3 _ (hx.trans x1).size hf⟩
theorem add_kind (b : UInt8) (k : Nat) (hb : b.toNat < 64) (hk : k < 4) : IntKind.wrap .u8 ((b.toNat : Int) + (k * 64 : Nat)) = ((b ||| UInt8.ofNat (k * 64)).toNat : Int) := by
  rw [or_kind b k hb hk, wu8_mod]; omega
theorem kd_sz {x : Int} (h : okN x) : (kd x = 0 ∧ sz x = 1) ∨ (kd x = 1 ∧ sz x = 2) ∨ (kd x = 2 ∧ sz x = 4) ∨ (kd x = 3 ∧ sz x = 8) := by
  unfold okN at h
  unfold kd sz
  rw [if_neg (by omega), if_neg (by omega)]
  (repeat' split) <;> simp
theorem top_lt {x : Int} (h : okN x) : x.toNat / 256 ^ ((sz x).toNat - 1) < 64 := by
  have h' := h
  unfold okN at h'
  have h1 : (64 : Nat) * 256 ^ 0 = 64 ∧ 64 * 256 ^ 1 = 16384 ∧ 64 * 256 ^ 3 = 1073741824 ∧ 64 * 256 ^ 7 = 4611686018427387904 := by decide
  apply Nat.div_lt_of_lt_mul
  rw [Nat.mul_comm]
  rcases sz_cases x with hs | hs | hs | hs <;> rw [hs] <;> simp only [Int.toNat_one, Int.reduceToNat, Nat.reduceSub] <;> unfold sz at hs <;> (repeat' split at hs) <;> omega
end Go.Proofs.Ythiccnmplgdheaa.T
