/- Lemmas about the typed texts (joined: SSeal4 SSeal5 SFrame1). -/
import Derived.Test.YtaebjajbogedkaaG9
import Derived.Test.YtaebjajbogedkaaG6
/- Chapter 4's functions over the typed texts: a tag's bytes, equality, closing and opening, the chapter's example. -/
set_option linter.unusedVariables false
set_option linter.unusedSimpArgs false
namespace Go.Proofs.Ytaebjajbogedkaa.T
open Go Go.Abs Go.Proofs
theorem byte_at64 {x : Int} (h0 : 0 ≤ x) (m : Nat) (hm : m < 8) : ∃ y, shrT .u64 x .i64 (8 * (m : Int)) = some y ∧ IntKind.wrap .u8 y = ((UInt8.ofNat (x.toNat / 256 ^ m)).toNat : Int) := by
  refine ⟨_, shrT_ok _ _ _ (by omega), ?_⟩
  have e1 : min (8 * (m : Int)).toNat IntKind.u64.bits = 8 * m := by
    have : IntKind.u64.bits = 64 := rfl
    omega
  rw [e1, wu8_mod]
  have e2 : (2 : Int) ^ (8 * m) = ((256 ^ m : Nat) : Int) := by
    rw [show (256 : Nat) = 2 ^ 8 from rfl, ← Nat.pow_mul, Int.natCast_pow]; rfl
  rw [e2, fdiv_pos _ (Int.natCast_nonneg _), UInt8.toNat_ofNat']
  obtain ⟨n, rfl⟩ : ∃ n : Nat, x = n := ⟨x.toNat, (Int.toNat_of_nonneg h0).symm⟩
  rw [Int.toNat_natCast, ← Int.natCast_ediv]
  exact (Int.natCast_emod _ 256).symm
def tagL (key num : Int) (head masked : List UInt8) : List UInt8 := be 8 (tagV (stepV key num) [head, masked]).toNat
theorem tagL_length (key num : Int) (head masked : List UInt8) : (tagL key num head masked).length = 8 := be_length _ _
/-- a new row of slices -/
theorem newS {h : H} (w : WF h) (xs : List Sl) (hx : xs.length < B63) : EX h (newAt (grow h 1) h.size (row 29 (xs.map encSl))) ∧ RdS (newAt (grow h 1) h.size (row 29 (xs.map encSl))) ⟨some ⟨h.size, 0, some 0⟩, xs.length, xs.length⟩ xs :=
  ⟨wf_new w 29 _, rd_new 29 1 _ _ _ (by simp) (by unfold CapOK; rw [capK_exact hx]; exact Nat.le_refl _)⟩
theorem eq_loop {h : H} {a b : Sl} {la lb : List UInt8} (ha : RdB h a la) (hb : RdB h b lb) (hl : la.length = lb.length) (hn : la.length ≤ 2 ^ 47) : ∀ (k i : Nat), i + k = la.length →
    loopO slices_Equal_byte_l1 ((a, (b, ((la.length : Int), (i : Int)))), h) = some (decide (la.drop i = lb.drop i), h)
  | 0, i, hik => by
    rw [loopO_eq, List.drop_eq_nil_of_le (by omega), List.drop_eq_nil_of_le (by omega)]
    simp only [slices_Equal_byte_l1, condK_eq, decide_eq_true_eq, show ¬ ((i : Int) < (la.length : Int)) by omega, if_false]
    simp
  | k + 1, i, hik => by
    obtain ⟨p, _, e1, e2⟩ := ha.at (i := (i : Int)) (by omega) (by omega)
    obtain ⟨q, _, e3, e4⟩ := hb.at (i := (i : Int)) (by omega) (by omega)
    simp only [Int.toNat_natCast] at e1 e2 e3 e4
    have d1 : la.drop i = la.getD i 0 :: la.drop (i + 1) := by
      rw [List.drop_eq_getElem_cons (by omega)]
      simp [List.getD, show i < la.length by omega]
    have d2 : lb.drop i = lb.getD i 0 :: lb.drop (i + 1) := by
      rw [List.drop_eq_getElem_cons (by omega)]
      simp [List.getD, show i < lb.length by omega]
    rw [loopO_eq]
    simp only [slices_Equal_byte_l1, condK_eq, decide_eq_true_eq, show ((i : Int) < (la.length : Int)) by omega, if_true]
    rw [e1, bindO_some, e2, bindO_some, e3, bindO_some, e4, bindO_some, d1, d2]
    by_cases hc : la.getD i 0 = lb.getD i 0
    · rw [hc]
      simp only [bne_self_eq_false, Bool.false_eq_true, if_false]
      rw [w64 (by omega) (by omega)]
      have := eq_loop ha hb hl hn k (i + 1) (by omega)
      simp only [List.cons.injEq, true_and]
      exact this
    · have hne : (((la.getD i 0).toNat : Int) != ((lb.getD i 0).toNat : Int)) = true := by
        simp only [bne_iff_ne, ne_eq]
        intro e
        exact hc (UInt8.toNat_inj.1 (by omega))
      rw [hne]
      simp only [if_true, List.cons.injEq, hc, false_and, decide_false]
theorem Equal_f {h : H} {a b : Sl} {la lb : List UInt8} (ha : RdB h a la) (hb : RdB h b lb) (hn : la.length ≤ 2 ^ 47) : slices_Equal_byte a b h = some (decide (la = lb), h) := by
  unfold slices_Equal_byte
  rw [ha.len, hb.len]
  by_cases hl : la.length = lb.length
  · have : (((la.length : Nat) : Int) != ((lb.length : Nat) : Int)) = false := by simp; omega
    rw [this, condK_eq, if_neg (by simp)]
    have e := eq_loop ha hb hl hn la.length 0 (by omega)
    simpa using e
  · have : (((la.length : Nat) : Int) != ((lb.length : Nat) : Int)) = true := by simp; omega
    rw [this, condK_eq, if_pos rfl, decide_eq_false]
    intro e; exact hl (by rw [e])
def closeV (key num : Int) (head body : List UInt8) : List UInt8 := mk (stepV key num) 0 body ++ tagL key num head (mk (stepV key num) 0 body)
theorem closeV_length (key num : Int) (head body : List UInt8) : (closeV key num head body).length = body.length + 8 := by
  unfold closeV; rw [List.length_append, mk_length, tagL_length]
def openV (key num : Int) (head l : List UInt8) : Option (List UInt8) :=
  if l.length < 8 then none else if tagL key num head (l.take (l.length - 8)) = l.drop (l.length - 8) then some (mk (stepV key num) 0 (l.take (l.length - 8))) else none
end Go.Proofs.Ytaebjajbogedkaa.T
/- Chapter 4: what is closed is opened; steps are one to one; the chapter's example. -/
set_option linter.unusedVariables false
set_option linter.unusedSimpArgs false
namespace Go.Abs
open Go
theorem bbT_ok {h : H} {s : Sl} {l : List UInt8} (hs : BufB h s l) (w : WF h) (hl : 0 < l.length) (hc : s.cap = l.length) (hl2 : l.length < B63) : bbT h s = some (s, h) := by
  rcases hs.tip with ht | ⟨a, r, e, ha, hobj, hsp, hver, hnro, hoff, hcap⟩
  · have := (Rd.nil hs.rd ht).1; rw [hs.rd.len] at this; omega
  obtain ⟨b, n, c⟩ := s
  simp only at ha hc
  subst ha hc
  have key : convA (DSE 0 tyB) h 1 1 (encSl ⟨some a, n, l.length⟩) = some (.val (.slice (some a) n l.length) h) := by
    unfold convA encSl
    simp only [show (DSE 0 tyB).ty.get 1 = some ⟨1, 24, .slice none 0 0, .slice 0, false⟩ from DSE_s 0 _, DSE_e, show tyB.desc = .int .u8 from rfl, capK_exact hl2, hobj]
    have : (Nat.beq 1 1 && Nat.blt 0 l.length && h.nro.ble a.block) = true := by
      simp only [Bool.and_eq_true, Nat.ble_eq, Nat.blt_eq]; exact ⟨⟨rfl, hl⟩, hnro⟩
    rw [this]; rfl
  unfold bbT
  rw [key]; rfl
end Go.Abs
namespace Go.Proofs.Ytaebjajbogedkaa.T
open Go Go.Abs Go.Proofs
theorem mk_mk (h0 : Int) : ∀ (l : List UInt8) (i : Nat), mk h0 i (mk h0 i l) = l
  | [], _ => rfl
  | b :: t, i => by
    simp only [mk, mk_mk h0 t, UInt8.xor_assoc, UInt8.xor_self, UInt8.xor_zero]
theorem open_close (key num : Int) (head body : List UInt8) : openV key num head (closeV key num head body) = some body := by
  unfold openV
  have hl := closeV_length key num head body
  rw [hl, if_neg (by omega), Nat.add_sub_cancel]
  unfold closeV
  have hm := mk_length (stepV key num) body 0
  rw [List.take_append_of_le_length (by omega), List.take_of_length_le (by omega), List.drop_append_of_le_length (by omega), List.drop_of_length_le (by omega), List.nil_append, if_pos rfl, mk_mk]
/-! steps are one to one -/
theorem mul_inj {x y : BitVec 64} (h : x * 15485907386658061715#64 = y * 15485907386658061715#64) : x = y := by
  have e : 15485907386658061715#64 * 14982988110149298331#64 = 1#64 := by decide +kernel
  have : x * 15485907386658061715#64 * 14982988110149298331#64 = y * 15485907386658061715#64 * 14982988110149298331#64 := by rw [h]
  rwa [BitVec.mul_assoc, BitVec.mul_assoc, e, BitVec.mul_one, BitVec.mul_one] at this
theorem rot_nat (h : BitVec 64) : (h <<< 13 ||| h >>> 51).toNat = h.toNat % 2 ^ 51 * 2 ^ 13 + h.toNat / 2 ^ 51 := by
  have hl := h.isLt
  rw [BitVec.toNat_or, BitVec.toNat_shiftLeft, BitVec.toNat_ushiftRight, Nat.shiftRight_eq_div_pow, Nat.shiftLeft_eq]
  have e : h.toNat * 2 ^ 13 % 2 ^ 64 = (h.toNat % 2 ^ 51) * 2 ^ 13 := by omega
  rw [e]
  have := Nat.shiftLeft_add_eq_or_of_lt (show h.toNat / 2 ^ 51 < 2 ^ 13 by omega) (h.toNat % 2 ^ 51)
  rw [Nat.shiftLeft_eq] at this
  exact this.symm
theorem rot_inj {x y : BitVec 64} (h : (x <<< 13 ||| x >>> 51) = (y <<< 13 ||| y >>> 51)) : x = y := by
  have hx := rot_nat x
  have hy := rot_nat y
  rw [h, hy] at hx
  apply BitVec.eq_of_toNat_eq
  have lx := x.isLt
  have ly := y.isLt
  have dx := Nat.div_add_mod x.toNat (2 ^ 51)
  have dy := Nat.div_add_mod y.toNat (2 ^ 51)
  have ax : x.toNat / 2 ^ 51 < 8192 := by omega
  have ay : y.toNat / 2 ^ 51 < 8192 := by omega
  rw [← dx, ← dy]
  generalize x.toNat / 2 ^ 51 = a at *
  generalize y.toNat / 2 ^ 51 = b at *
  generalize x.toNat % 2 ^ 51 = c at *
  generalize y.toNat % 2 ^ 51 = d at *
  have : a = b ∧ c = d := by omega
  rw [this.1, this.2]
theorem xor_inj_l {a b c : BitVec 64} (h : a ^^^ c = b ^^^ c) : a = b := by
  have : a ^^^ c ^^^ c = b ^^^ c ^^^ c := by rw [h]
  rwa [BitVec.xor_assoc, BitVec.xor_assoc, BitVec.xor_self, BitVec.xor_zero, BitVec.xor_zero] at this
theorem xor_inj_r {a b c : BitVec 64} (h : c ^^^ a = c ^^^ b) : a = b := by
  rw [BitVec.xor_comm c a, BitVec.xor_comm c b] at h; exact xor_inj_l h
theorem ofInt_inj {x y : Int} (hx : U64 x) (hy : U64 y) (h : BitVec.ofInt 64 x = BitVec.ofInt 64 y) : x = y := by
  have := congrArg BitVec.toNat h
  simp only [BitVec.toNat_ofInt] at this
  unfold U64 at hx hy
  omega
theorem toNat_inj {x y : BitVec 64} (h : ((x.toNat : Nat) : Int) = (y.toNat : Int)) : x = y := BitVec.eq_of_toNat_eq (by omega)
theorem stepV_inj_l {g h c : Int} (hg : U64 g) (hh : U64 h) (e : stepV g c = stepV h c) : g = h := by
  have := toNat_inj e
  unfold stepB at this
  exact ofInt_inj hg hh (rot_inj (xor_inj_l (mul_inj this)))
theorem stepV_inj_b {g c d : Int} (e : stepV g c = stepV g d) : BitVec.ofInt 64 c = BitVec.ofInt 64 d := by
  have := toNat_inj e
  unfold stepB at this
  exact xor_inj_r (mul_inj this)
theorem stepV_inj_r {g c d : Int} (hc : U64 c) (hd : U64 d) (e : stepV g c = stepV g d) : c = d := ofInt_inj hc hd (stepV_inj_b e)
theorem bytesTag_inj : ∀ (l : List UInt8) {a b : Int}, U64 a → U64 b → bytesTag a l = bytesTag b l → a = b
  | [], a, b, _, _, e => e
  | c :: l, a, b, ha, hb, e => stepV_inj_l ha hb (bytesTag_inj l (stepV_rng a c.toNat) (stepV_rng b c.toNat) e)
theorem partTag_inj (l : List UInt8) {a b : Int} (ha : U64 a) (hb : U64 b) (e : partTag a l = partTag b l) : a = b :=
  bytesTag_inj l ha hb (stepV_inj_l (bytesTag_rng l a ha) (bytesTag_rng l b hb) e)
theorem tagV_inj : ∀ (ls : List (List UInt8)) {a b : Int}, U64 a → U64 b → tagV a ls = tagV b ls → a = b
  | [], a, b, _, _, e => e
  | l :: ls, a, b, ha, hb, e => partTag_inj l ha hb (tagV_inj ls (stepV_rng _ _) (stepV_rng _ _) e)
theorem be_inj : ∀ (m x y : Nat), x < 256 ^ m → y < 256 ^ m → be m x = be m y → x = y
  | 0, x, y, hx, hy, _ => by simp at hx hy; omega
  | m + 1, x, y, hx, hy, e => by
    have hbx := val_be (m + 1) x
    have hby := val_be (m + 1) y
    rw [Nat.div_eq_of_lt hx] at hbx
    rw [Nat.div_eq_of_lt hy] at hby
    rw [← hbx, ← hby, e]
theorem tagL_inj {k1 k2 n1 n2 : Int} {h1 h2 m1 m2 : List UInt8} (e : tagL k1 n1 h1 m1 = tagL k2 n2 h2 m2) : tagV (stepV k1 n1) [h1, m1] = tagV (stepV k2 n2) [h2, m2] := by
  have r1 := tagV_rng [h1, m1] _ (stepV_rng k1 n1)
  have r2 := tagV_rng [h2, m2] _ (stepV_rng k2 n2)
  have p : (256 : Nat) ^ 8 = 18446744073709551616 := by decide
  unfold U64 at r1 r2
  have := be_inj 8 _ _ (by rw [p]; omega) (by rw [p]; omega) e
  omega
/-! the chapter's example -/
end Go.Proofs.Ytaebjajbogedkaa.T
/- Chapter 5's functions over the typed texts: frames in memory, bare, same, may. -/
set_option linter.unusedVariables false
set_option linter.unusedSimpArgs false
namespace Go.Proofs.Ytaebjajbogedkaa.T
open Go Go.Abs Go.Proofs
abbrev F9 := Int × Int × Int × Int × Int × Int × Bool × Sl × Sl
abbrev zF : List Z := [.int .i64, .int .i64, .int .i64, .int .i64, .int .i64, .int .i64, .bool, .sl, .sl]
abbrev f9L (x : F9) : List Value := [.int .i64 x.1, .int .i64 x.2.1, .int .i64 x.2.2.1, .int .i64 x.2.2.2.1, .int .i64 x.2.2.2.2.1, .int .i64 x.2.2.2.2.2.1, .bool x.2.2.2.2.2.2.1, .slice x.2.2.2.2.2.2.2.1.base x.2.2.2.2.2.2.2.1.len x.2.2.2.2.2.2.2.1.cap, .slice x.2.2.2.2.2.2.2.2.base x.2.2.2.2.2.2.2.2.len x.2.2.2.2.2.2.2.2.cap]
def f90 : F9 := (0, 0, 0, 0, 0, 0, false, ⟨none, 0, 0⟩, ⟨none, 0, 0⟩)
theorem PO.ldF {α : Type} {Q : α → Prop} {h : H} {b : Nat} {x : F9} {f : F9 → Option α} (B : Box h b (f9L x)) (p : PO (f x) Q) : PO (bindO (Abs.ldZ [.int .i64, .int .i64, .int .i64, .int .i64, .int .i64, .int .i64, .bool, .sl, .sl] h ⟨b, 0, some 0⟩) f) Q := .op (B.ldZ zF x rfl) p
/-- two boxes, the second one written -/
structure TB (h0 : H) (b b2 : Nat) (L : List Value) (h : H) (L2 : List Value) : Prop where
  ex : EX h0 h
  hb : h0.size ≤ b2
  ne : ¬ b = b2
  box : Box h b L
  box2 : Box h b2 L2
section
variable {α : Type} {Q : α → Prop} {h0 h : H} {b b2 i : Nat} {L L2 : List Value}
theorem TB.ldI {k : IntKind} {n : Int} {f : Int → Option α} (t : TB h0 b b2 L h L2) (hi : L[i]? = some (.int k n)) (p : PO (f n) Q) : PO (bindO (Abs.ldI k h (add ⟨b, 0, some 0⟩ i)) f) Q := .ldI t.box hi p
theorem TB.ldB {n : Bool} {f : Bool → Option α} (t : TB h0 b b2 L h L2) (hi : L[i]? = some (.bool n)) (p : PO (f n) Q) : PO (bindO (Abs.ldB h (add ⟨b, 0, some 0⟩ i)) f) Q := .ldB t.box hi p
theorem TB.ldL {n : Sl} {f : Sl → Option α} (t : TB h0 b b2 L h L2) (hi : L[i]? = some (encSl n)) (p : PO (f n) Q) : PO (bindO (Abs.ldL h (add ⟨b, 0, some 0⟩ i)) f) Q := .ldL t.box hi p
theorem TB.st1 {v : Value} {f : H → Option α} (t : TB h0 b b2 L h L2) (hi : i < L2.length) (ho : oneC v = true) (p : ∀ h', TB h0 b b2 L h' (L2.set i v) → PO (f h') Q) : PO (bindO (Abs.st1 h (add ⟨b2, 0, some 0⟩ i) v) f) Q :=
  PO.st1 t.box2 t.ex.wf hi ho fun h' B u z w => p h' ⟨u.ex0 t.ex (fun A hA e => by have := t.hb; omega), t.hb, t.ne, Box.ku u t.ne t.box, B⟩
theorem TB.cast {h0 h : H} {b b2 : Nat} {L L2 L2' : List Value} (t : TB h0 b b2 L h L2) (e : L2 = L2') : TB h0 b b2 L h L2' := e ▸ t
end
def bareX (x : F9) : F9 :=
  if x.1 = 2 then (x.1, 0, 0, 0, 0, 0, false, ⟨none, 0, 0⟩, x.2.2.2.2.2.2.2.2)
  else if x.1 = 3 then (x.1, x.2.1, x.2.2.1, 0, 0, 0, x.2.2.2.2.2.2.1, x.2.2.2.2.2.2.2.1, ⟨none, 0, 0⟩)
  else if x.1 = 4 then (x.1, x.2.1, x.2.2.1, x.2.2.2.1, x.2.2.2.2.1, 0, false, ⟨none, 0, 0⟩, ⟨none, 0, 0⟩)
  else if x.1 = 5 ∨ x.1 = 7 then (x.1, x.2.1, 0, x.2.2.2.1, 0, 0, false, ⟨none, 0, 0⟩, ⟨none, 0, 0⟩)
  else if x.1 = 6 ∨ x.1 = 12 then (x.1, 0, 0, x.2.2.2.1, 0, 0, false, ⟨none, 0, 0⟩, ⟨none, 0, 0⟩)
  else if x.1 = 8 then (x.1, 0, 0, x.2.2.2.1, 0, 0, x.2.2.2.2.2.2.1, ⟨none, 0, 0⟩, ⟨none, 0, 0⟩)
  else if x.1 = 9 then (x.1, 0, 0, 0, 0, 0, false, x.2.2.2.2.2.2.2.1, ⟨none, 0, 0⟩)
  else if x.1 = 10 ∨ x.1 = 11 then (x.1, x.2.1, 0, 0, 0, 0, false, ⟨none, 0, 0⟩, ⟨none, 0, 0⟩)
  else (x.1, 0, 0, 0, 0, 0, false, ⟨none, 0, 0⟩, ⟨none, 0, 0⟩)
theorem bare_f {h : H} (w : WF h) (x : F9) : PO (frame_bare x h) (fun (a, h1) => a = bareX x ∧ EX h h1) := by
  unfold frame_bare
  refine PO.newB w fun h1 x1 B1 z1 w1 => PO.newB w1 fun h2 x2 B2 z2 w2 => .ldI (Box.kx x2 B1) rfl (PO.newB w2 fun h3 x3 B3 z3 w3 => PO.stZ B3 w3 rfl rfl fun h4 B4 u4 z4 w4 => ?_)
  have y4 : EX h2 h4 := u4.ex0 x3 (fun A hA e => by omega)
  have t0 : TB h2 h.size h2.size (f9L x) h4 (f9L (x.1, 0, 0, 0, 0, 0, false, ⟨none, 0, 0⟩, ⟨none, 0, 0⟩)) := ⟨y4, Nat.le_refl _, by omega, Box.kx y4 (Box.kx x2 B1), B4⟩
  refine PO.join (fun s => s.1 = (some ⟨h1.size, 0, some 0⟩, some ⟨h2.size, 0, some 0⟩) ∧ TB h2 h.size h2.size (f9L x) s.2 (f9L (bareX x))) ?_ ?_
  · clear B1 B2 B3 B4 u4 y4 x3 w3 w4
    repeat' (first
      | refine PO.chk (by simp [slEq_self]) ?_
      | refine .condE (fun e => ?_) (fun e => ?_)
      | refine TB.ldI (by assumption) rfl ?_
      | refine TB.ldB (by assumption) rfl ?_
      | refine TB.ldL (by assumption) rfl ?_
      | refine TB.st1 (by assumption) (by simp) rfl (fun h' t => ?_)
      | refine PO.retL ⟨rfl, TB.cast (by assumption) ?_⟩)
    all_goals (first | (exfalso; omega) | simp [bareX, *])
  · rintro ⟨s, h5⟩ ⟨rfl, t5⟩
    have t : TB h2 h.size h2.size (f9L x) h5 (f9L (bareX x)) := t5
    refine .ptr (PO.ldF t.box2 (.ptr (PO.stZ (Box.kx t.ex B2) t.ex.wf rfl rfl fun h6 B6 u6 z6 w6 => .ptr (PO.ldF B6 (.ret ⟨rfl, ?_⟩)))))
    exact u6.ex0 ((x1.trans x2).trans t.ex) (fun A hA e => by have := x1.size; omega)
end Go.Proofs.Ytaebjajbogedkaa.T
