/- Lemmas about the typed texts (joined: SVar2 SVar3 LVarShort). -/
import Derived.Test.YtlikepnpamejmaaGreatG8
/- Chapter 1's functions over the typed texts: sizes of several; a copy; bytes put. -/
set_option linter.unusedVariables false
set_option linter.unusedSimpArgs false
namespace Go.Proofs.YtlikepnpamejmaaGreat.T
open Go Go.Abs Go.Proofs
def sz (n : Int) : Int := if n < 64 then 1 else if n < 16384 then 2 else if n < 1073741824 then 4 else 8
def okN (n : Int) : Prop := 0 ≤ n ∧ n ≤ 4611686018427387903
instance (n : Int) : Decidable (okN n) := inferInstanceAs (Decidable (_ ∧ _))
theorem kd_neg (n : Int) : kd n < 0 ↔ ¬ okN n := by
  unfold kd okN; (repeat' split) <;> omega
theorem shl_kd {n : Int} (h : okN n) : shlT .i64 1 .i64 (kd n) = some (sz n) := by
  have h' := h
  unfold okN at h
  unfold kd sz
  rw [if_neg (by omega), if_neg (by omega)]
  (repeat' split) <;> rfl
theorem sz_pos (n : Int) : 1 ≤ sz n ∧ sz n ≤ 8 := by unfold sz; (repeat' split) <;> omega
def szs : List Int → Option Int
  | [] => some 0
  | n :: l => if okN n then (szs l).map (sz n + ·) else none
def szV (zs : List Int) : Int := match szs zs with | some t => t | none => -1
/-! a copy -/
theorem clone_f {h : H} {s : Sl} {l : List UInt8} (w : WF h) (hr : RdB h s l) (hl : l.length ≤ 2 ^ 47) : ∃ s' h', slices_Clone_byte s h = some (s', h') ∧ EX h h' ∧ BufB h' s' l ∧ Fr h.size s' ∧ (s.base = none → s'.base = none) := by
  unfold slices_Clone_byte
  rw [eqLT_nil s hr.nil, bindO_some]
  cases hb : s.base with
  | none =>
    have := Rd.nilOf hr hb
    simp only [vB, List.map_eq_nil_iff] at this
    obtain ⟨rfl, _⟩ := this
    simp only [Option.isNone_none, condK_eq, if_true]
    exact ⟨_, _, rfl, EX.refl w, buf_nil 1 h, fr_nil _, fun _ => rfl⟩
  | some a =>
    simp only [Option.isNone_some, condK_eq, Bool.false_eq_true, if_false]
    rw [newO_eq]
    have x1 := wf_new w 5 (vB [])
    have b1 := bufB_new w 5 [] (by decide)
    rw [show row 5 [] = row 5 (vB []) from rfl]
    have f1 := fr_new h 0 0
    simp only [List.length_nil] at b1
    generalize newAt (grow h 1) h.size (row 5 (vB [])) = h1 at x1 b1 ⊢
    generalize (⟨some ⟨h.size, 0, some 0⟩, 0, 0⟩ : Sl) = s1 at b1 f1 ⊢
    obtain ⟨s', h', e2, k2, x2, b2, _, f2⟩ := appB_ok (e := 5) x1.wf b1 (hr.ex x1) (by simpa using hl)
    rw [e2, bind2_some]
    exact ⟨s', h', rfl, x2 _ x1 f1, by simpa using b2, f2 _ x1.size f1, fun hn => by simp at hn⟩
/-! bytes put -/
def be : Nat → Nat → List UInt8
  | 0, _ => []
  | m + 1, x => UInt8.ofNat (x / 256 ^ m) :: be m x
theorem be_length : ∀ m x, (be m x).length = m
  | 0, _ => rfl
  | m + 1, x => by simp [be, be_length m x]
theorem byte_at {x : Int} (h0 : 0 ≤ x) (m : Nat) (hm : m < 8) : ∃ y, shrT .i64 x .i64 (8 * (m : Int)) = some y ∧ IntKind.wrap .u8 y = ((UInt8.ofNat (x.toNat / 256 ^ m)).toNat : Int) := by
  refine ⟨_, shrT_ok _ _ _ (by omega), ?_⟩
  have e1 : min (8 * (m : Int)).toNat IntKind.i64.bits = 8 * m := by
    have : IntKind.i64.bits = 64 := rfl
    omega
  rw [e1, wu8_mod]
  have e2 : (2 : Int) ^ (8 * m) = ((256 ^ m : Nat) : Int) := by
    rw [show (256 : Nat) = 2 ^ 8 from rfl, ← Nat.pow_mul, Int.natCast_pow]; rfl
  rw [e2, fdiv_pos _ (Int.natCast_nonneg _), UInt8.toNat_ofNat']
  obtain ⟨n, rfl⟩ : ∃ n : Nat, x = n := ⟨x.toNat, (Int.toNat_of_nonneg h0).symm⟩
  rw [Int.toNat_natCast, ← Int.natCast_ediv]
  exact (Int.natCast_emod _ 256).symm
theorem or8 (a b : UInt8) : IntKind.wrap .u8 ((BitVec.toNat ((BitVec.ofInt 8 (a.toNat : Int)) ||| (BitVec.ofInt 8 (b.toNat : Int))) : Nat) : Int) = ((a ||| b).toNat : Int) := by
  have e : ∀ c : UInt8, BitVec.ofInt 8 (c.toNat : Int) = c.toBitVec := by
    intro c
    apply BitVec.eq_of_toNat_eq
    simp
  rw [e, e, wu8_mod]
  have : ((a ||| b).toNat) = (a.toBitVec ||| b.toBitVec).toNat := rfl
  rw [← this]
  have h := (a ||| b).toNat_lt
  omega
def enc (x : Int) : List UInt8 := match be (sz x).toNat x.toNat with
  | [] => []
  | b :: t => (b ||| UInt8.ofNat ((kd x).toNat * 64)) :: t
theorem enc_length (x : Int) : (enc x).length = (sz x).toNat := by
  have h := be_length (sz x).toNat x.toNat
  unfold enc
  cases hb : be (sz x).toNat x.toNat with
  | nil => rw [hb] at h; exact h
  | cons b t => rw [hb] at h; simpa using h
def encs : List Int → List UInt8
  | [] => []
  | x :: l => enc x ++ encs l
theorem encs_length : ∀ l, (encs l).length ≤ 8 * l.length
  | [] => by simp [encs]
  | x :: l => by
    have := encs_length l
    have := enc_length x
    have := sz_pos x
    simp [encs]; omega
theorem shl8_kd {n : Int} (h : okN n) : shlT .i64 8 .i64 (kd n) = some (8 * sz n) := by
  unfold okN at h
  unfold kd sz
  rw [if_neg (by omega), if_neg (by omega)]
  (repeat' split) <;> rfl
theorem drop_getD {zs : List Int} {i : Nat} (h : i < zs.length) : zs.drop i = zs.getD i 0 :: zs.drop (i + 1) := by
  rw [List.drop_eq_getElem_cons h]
  simp [List.getD, h]
end Go.Proofs.YtlikepnpamejmaaGreat.T
/- Chapter 1's functions over the typed texts: a number taken; numbers that may be; the chapter's example. -/
set_option linter.unusedVariables false
set_option linter.unusedSimpArgs false
namespace Go.Proofs.YtlikepnpamejmaaGreat.T
open Go Go.Abs Go.Proofs
theorem and63 : ∀ b : Nat, b < 256 → IntKind.wrap .u8 ((BitVec.toNat ((BitVec.ofInt 8 (b : Int)) &&& (BitVec.ofInt 8 63)) : Nat) : Int) = ((b % 64 : Nat) : Int) := by decide +kernel
theorem or64 (n c : Nat) (hn : n < 2 ^ 54) (hc : c < 256) : IntKind.wrap .i64 ((BitVec.toNat ((BitVec.ofInt 64 (IntKind.wrap .i64 ((n : Int) * 256))) ||| (BitVec.ofInt 64 (IntKind.wrap .i64 (c : Int)))) : Nat) : Int) = ((n * 256 + c : Nat) : Int) := by
  rw [w64 (n := (n : Int) * 256) (by omega) (by omega), w64 (n := (c : Int)) (by omega) (by omega)]
  have e1 : BitVec.ofInt 64 ((n : Int) * 256) = BitVec.ofNat 64 (n * 256) := by
    rw [show (n : Int) * 256 = ((n * 256 : Nat) : Int) by omega]; exact BitVec.ofInt_natCast _ _
  have e2 : BitVec.ofInt 64 (c : Int) = BitVec.ofNat 64 c := BitVec.ofInt_natCast _ _
  rw [e1, e2, BitVec.toNat_or, BitVec.toNat_ofNat, BitVec.toNat_ofNat, Nat.mod_eq_of_lt (by omega), Nat.mod_eq_of_lt (by omega)]
  have e3 : n * 256 ||| c = n * 256 + c := by
    have := Nat.shiftLeft_add_eq_or_of_lt (show c < 2 ^ 8 by omega) n
    rw [Nat.shiftLeft_eq] at this
    exact this.symm
  rw [e3, w64 (by omega) (by omega)]
def val (n : Nat) (l : List UInt8) : Nat := l.foldl (fun n c => n * 256 + c.toNat) n
theorem val_lt : ∀ (l : List UInt8) (n B : Nat), n < B → val n l < B * 256 ^ l.length
  | [], n, B, h => by simpa [val] using h
  | c :: l, n, B, h => by
    have hc := c.toNat_lt
    have := val_lt l (n * 256 + c.toNat) (B * 256) (by omega)
    simp only [val, List.foldl_cons, List.length_cons, Nat.pow_succ] at this ⊢
    rw [Nat.mul_assoc, Nat.mul_comm 256] at this
    exact this
def tsz (b : UInt8) : Nat := 2 ^ (b.toNat / 64)
def tk : List UInt8 → Int × List UInt8 × Int
  | [] => (0, [], 3)
  | b :: t => if t.length + 1 < tsz b then (0, [], 3) else ((val (b.toNat % 64) (t.take (tsz b - 1)) : Nat), t.drop (tsz b - 1), 0)
theorem tsz_shl (b : UInt8) : shlT .i64 1 .u8 (Int.fdiv (b.toNat : Int) 64) = some (tsz b : Int) ∧ 1 ≤ tsz b ∧ tsz b ≤ 8 := by
  have hb := b.toNat_lt
  have e : Int.fdiv (b.toNat : Int) 64 = ((b.toNat / 64 : Nat) : Int) := by rw [fdiv_pos _ (by omega)]; omega
  rw [e]
  unfold tsz
  have hq : b.toNat / 64 < 4 := by omega
  generalize b.toNat / 64 = q at hq
  rcases (by omega : q = 0 ∨ q = 1 ∨ q = 2 ∨ q = 3) with rfl | rfl | rfl | rfl <;> exact ⟨rfl, by decide, by decide⟩
/-! numbers that may be -/
def numV (n : Int) : Int :=
  if n % 9 = 0 then 64 + (IntKind.wrap .i64 (n.tdiv 9) % 3 - 1) else if n % 9 = 1 then 16384 + (IntKind.wrap .i64 (n.tdiv 9) % 3 - 1) else if n % 9 = 2 then 1073741824 + (IntKind.wrap .i64 (n.tdiv 9) % 3 - 1)
  else if n % 9 = 3 then 4611686018427387903 + (IntKind.wrap .i64 (n.tdiv 9) % 3 - 1) else if n % 9 = 4 then n else IntKind.wrap .i64 (n.tdiv 9) % 500
def mayV (n : Int) : Int := if okN (numV n) then numV n else n % 1048576
theorem mayV_ok (n : Int) : okN (mayV n) := by
  unfold mayV
  split
  · assumption
  · have h3 := Int.emod_nonneg n (show (1048576 : Int) ≠ 0 by omega)
    have h3' := Int.emod_lt_of_pos n (show (0 : Int) < 1048576 by omega)
    unfold okN; omega
/-! the chapter's example -/
theorem bs_eq (a b : List UInt8) : ((bsOf a).toList == (bsOf b).toList) = decide (a = b) := by
  rw [ByteArray.toList_eq, ByteArray.toList_eq, bsOf_toList, bsOf_toList]
  by_cases e : a = b
  · simp [e]
  · simp [e]
end Go.Proofs.YtlikepnpamejmaaGreat.T
/- The law VarintShortest over the typed text. -/
set_option linter.unusedVariables false
set_option linter.unusedSimpArgs false
namespace Go.Proofs.YtlikepnpamejmaaGreat.T
open Go Go.Abs Go.Proofs
theorem sz_cases (x : Int) : sz x = 1 ∨ sz x = 2 ∨ sz x = 4 ∨ sz x = 8 := by unfold sz; (repeat' split) <;> omega
theorem sz_mono {x y : Int} (h : x ≤ y) : sz x ≤ sz y := by unfold sz; (repeat' split) <;> omega
theorem szV_one {x : Int} (h : okN x) : szV [x] = sz x := by
  unfold szV szs szs
  rw [if_pos h]; simp
/-- a row of one number -/
theorem one_new (x : Int) {h : H} (w : WF h) : EX h (newAt (grow h 1) h.size (row 3 [.int .i64 x])) ∧ Buf 1 (newAt (grow h 1) h.size (row 3 [.int .i64 x])) ⟨some ⟨h.size, 0, some 0⟩, 1, 1⟩ ([x].map (.int .i64)) :=
  ⟨wf_new w 3 ([x].map (Value.int .i64)), bufI_new w 3 .i64 [x] (by simp [B63])⟩
theorem tk_sz (l : List UInt8) (hl : (tk l).2.2 = 0) : okN (tk l).1 ∧ sz (tk l).1 ≤ (l.length : Int) - ((tk l).2.1.length : Int) := by
  cases l with
  | nil => simp [tk] at hl
  | cons c t =>
    obtain ⟨e3, s1, s2⟩ := tsz_shl c
    by_cases hsh : t.length + 1 < tsz c
    · simp [tk, hsh] at hl
    · simp only [tk, hsh, if_false]
      have hv := val_lt (t.take (tsz c - 1)) (c.toNat % 64) 64 (by omega)
      have hlt : (t.take (tsz c - 1)).length = tsz c - 1 := by simp; omega
      rw [hlt] at hv
      have hs : tsz c = 1 ∨ tsz c = 2 ∨ tsz c = 4 ∨ tsz c = 8 := by
        unfold tsz
        have hq : c.toNat / 64 < 4 := by have := c.toNat_lt; omega
        generalize c.toNat / 64 = q at hq
        rcases (by omega : q = 0 ∨ q = 1 ∨ q = 2 ∨ q = 3) with rfl | rfl | rfl | rfl <;> decide
      have hd : (t.drop (tsz c - 1)).length = t.length - (tsz c - 1) := by simp
      rw [hd]
      generalize val (c.toNat % 64) (t.take (tsz c - 1)) = v at hv
      have : (64 : Nat) * 256 ^ 0 = 64 ∧ 64 * 256 ^ 1 = 16384 ∧ 64 * 256 ^ 3 = 1073741824 ∧ 64 * 256 ^ 7 = 4611686018427387904 := by decide
      unfold okN sz
      simp only [List.length_cons]
      rcases hs with hs | hs | hs | hs <;> rw [hs] at hv ⊢ hsh <;> simp only [Nat.sub_self, Nat.add_one_sub_one, Nat.reduceSub] at hv ⊢ <;> (refine ⟨by omega, ?_⟩) <;> (repeat' split) <;> omega
end Go.Proofs.YtlikepnpamejmaaGreat.T
