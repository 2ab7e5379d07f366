/- Lemmas about the typed texts (joined: SVar3 LVarShort LVarLong). -/
import Derived.Test.YtaebjajbogedkaaG6
/- Chapter 1's functions over the typed texts: a number taken; numbers that may be; the chapter's example. -/
set_option linter.unusedVariables false
set_option linter.unusedSimpArgs false
namespace Go.Proofs.Ytaebjajbogedkaa.T
open Go Go.Abs Go.Proofs
theorem and63 : ∀ b : Nat, b < 256 → IntKind.wrap .u8 ((BitVec.toNat ((BitVec.ofInt 8 (b : Int)) &&& (BitVec.ofInt 8 63)) : Nat) : Int) = ((b % 64 : Nat) : Int) := by decide +kernel
theorem or64 (n c : Nat) (hn : n < 2 ^ 54) (hc : c < 256) : IntKind.wrap .i64 ((BitVec.toNat ((BitVec.ofInt 64 (IntKind.wrap .i64 ((n : Int) * 256))) ||| (BitVec.ofInt 64 (IntKind.wrap .i64 (c : Int)))) : Nat) : Int) = ((n * 256 + c : Nat) : Int) := by
  rw [w64 (n := (n : Int) * 256) (by omega) (by omega), w64 (n := (c : Int)) (by omega) (by omega)]
  have e1 : BitVec.ofInt 64 ((n : Int) * 256) = BitVec.ofNat 64 (n * 256) := by
    rw [show (n : Int) * 256 = ((n * 256 : Nat) : Int) by omega]; exact BitVec.ofInt_natCast _ _
  have e2 : BitVec.ofInt 64 (c : Int) = BitVec.ofNat 64 c := BitVec.ofInt_natCast _ _
  rw [e1, e2, BitVec.toNat_or, BitVec.toNat_ofNat, BitVec.toNat_ofNat, Nat.mod_eq_of_lt (by omega), Nat.mod_eq_of_lt (by omega)]
  have e3 : n * 256 ||| c = n * 256 + c := by
    have := Nat.shiftLeft_add_eq_or_of_lt (show c < 2 ^ 8 by omega) n
    rw [Nat.shiftLeft_eq] at this
    exact this.symm
  rw [e3, w64 (by omega) (by omega)]
def val (n : Nat) (l : List UInt8) : Nat := l.foldl (fun n c => n * 256 + c.toNat) n
theorem val_lt : ∀ (l : List UInt8) (n B : Nat), n < B → val n l < B * 256 ^ l.length
  | [], n, B, h => by simpa [val] using h
  | c :: l, n, B, h => by
    have hc := c.toNat_lt
    have := val_lt l (n * 256 + c.toNat) (B * 256) (by omega)
    simp only [val, List.foldl_cons, List.length_cons, Nat.pow_succ] at this ⊢
    rw [Nat.mul_assoc, Nat.mul_comm 256] at this
    exact this
def tsz (b : UInt8) : Nat := 2 ^ (b.toNat / 64)
def tk : List UInt8 → Int × List UInt8 × Int
  | [] => (0, [], 3)
  | b :: t => if t.length + 1 < tsz b then (0, [], 3) else ((val (b.toNat % 64) (t.take (tsz b - 1)) : Nat), t.drop (tsz b - 1), 0)
theorem tsz_shl (b : UInt8) : shlT .i64 1 .u8 (Int.fdiv (b.toNat : Int) 64) = some (tsz b : Int) ∧ 1 ≤ tsz b ∧ tsz b ≤ 8 := by
  have hb := b.toNat_lt
  have e : Int.fdiv (b.toNat : Int) 64 = ((b.toNat / 64 : Nat) : Int) := by rw [fdiv_pos _ (by omega)]; omega
  rw [e]
  unfold tsz
  have hq : b.toNat / 64 < 4 := by omega
  generalize b.toNat / 64 = q at hq
  rcases (by omega : q = 0 ∨ q = 1 ∨ q = 2 ∨ q = 3) with rfl | rfl | rfl | rfl <;> exact ⟨rfl, by decide, by decide⟩
/-! numbers that may be -/
def numV (n : Int) : Int :=
  if n % 9 = 0 then 64 + (IntKind.wrap .i64 (n.tdiv 9) % 3 - 1) else if n % 9 = 1 then 16384 + (IntKind.wrap .i64 (n.tdiv 9) % 3 - 1) else if n % 9 = 2 then 1073741824 + (IntKind.wrap .i64 (n.tdiv 9) % 3 - 1)
  else if n % 9 = 3 then 4611686018427387903 + (IntKind.wrap .i64 (n.tdiv 9) % 3 - 1) else if n % 9 = 4 then n else IntKind.wrap .i64 (n.tdiv 9) % 500
def mayV (n : Int) : Int := if okN (numV n) then numV n else n % 1048576
theorem mayV_ok (n : Int) : okN (mayV n) := by
  unfold mayV
  split
  · assumption
  · have h3 := Int.emod_nonneg n (show (1048576 : Int) ≠ 0 by omega)
    have h3' := Int.emod_lt_of_pos n (show (0 : Int) < 1048576 by omega)
    unfold okN; omega
/-! the chapter's example -/
theorem bs_eq (a b : List UInt8) : ((bsOf a).toList == (bsOf b).toList) = decide (a = b) := by
  rw [ByteArray.toList_eq, ByteArray.toList_eq, bsOf_toList, bsOf_toList]
  by_cases e : a = b
  · simp [e]
  · simp [e]
end Go.Proofs.Ytaebjajbogedkaa.T
/- The law VarintShortest over the typed text. -/
set_option linter.unusedVariables false
set_option linter.unusedSimpArgs false
namespace Go.Proofs.Ytaebjajbogedkaa.T
open Go Go.Abs Go.Proofs
theorem sz_cases (x : Int) : sz x = 1 ∨ sz x = 2 ∨ sz x = 4 ∨ sz x = 8 := by unfold sz; (repeat' split) <;> omega
theorem sz_mono {x y : Int} (h : x ≤ y) : sz x ≤ sz y := by unfold sz; (repeat' split) <;> omega
theorem szV_one {x : Int} (h : okN x) : szV [x] = sz x := by
  unfold szV szs szs
  rw [if_pos h]; simp
/-- a row of one number -/
theorem one_new (x : Int) {h : H} (w : WF h) : EX h (newAt (grow h 1) h.size (row 3 [.int .i64 x])) ∧ Buf 1 (newAt (grow h 1) h.size (row 3 [.int .i64 x])) ⟨some ⟨h.size, 0, some 0⟩, 1, 1⟩ ([x].map (.int .i64)) :=
  ⟨wf_new w 3 ([x].map (Value.int .i64)), bufI_new w 3 .i64 [x] (by simp [B63])⟩
theorem tk_sz (l : List UInt8) (hl : (tk l).2.2 = 0) : okN (tk l).1 ∧ sz (tk l).1 ≤ (l.length : Int) - ((tk l).2.1.length : Int) := by
  cases l with
  | nil => simp [tk] at hl
  | cons c t =>
    obtain ⟨e3, s1, s2⟩ := tsz_shl c
    by_cases hsh : t.length + 1 < tsz c
    · simp [tk, hsh] at hl
    · simp only [tk, hsh, if_false]
      have hv := val_lt (t.take (tsz c - 1)) (c.toNat % 64) 64 (by omega)
      have hlt : (t.take (tsz c - 1)).length = tsz c - 1 := by simp; omega
      rw [hlt] at hv
      have hs : tsz c = 1 ∨ tsz c = 2 ∨ tsz c = 4 ∨ tsz c = 8 := by
        unfold tsz
        have hq : c.toNat / 64 < 4 := by have := c.toNat_lt; omega
        generalize c.toNat / 64 = q at hq
        rcases (by omega : q = 0 ∨ q = 1 ∨ q = 2 ∨ q = 3) with rfl | rfl | rfl | rfl <;> decide
      have hd : (t.drop (tsz c - 1)).length = t.length - (tsz c - 1) := by simp
      rw [hd]
      generalize val (c.toNat % 64) (t.take (tsz c - 1)) = v at hv
      have : (64 : Nat) * 256 ^ 0 = 64 ∧ 64 * 256 ^ 1 = 16384 ∧ 64 * 256 ^ 3 = 1073741824 ∧ 64 * 256 ^ 7 = 4611686018427387904 := by decide
      unfold okN sz
      simp only [List.length_cons]
      rcases hs with hs | hs | hs | hs <;> rw [hs] at hv ⊢ hsh <;> simp only [Nat.sub_self, Nat.add_one_sub_one, Nat.reduceSub] at hv ⊢ <;> (refine ⟨by omega, ?_⟩) <;> (repeat' split) <;> omega
end Go.Proofs.Ytaebjajbogedkaa.T
/- The law VarintLong over the typed text. -/
set_option linter.unusedVariables false
set_option linter.unusedSimpArgs false
namespace Go.Abs
open Go
theorem mkT_ok {e : Nat} {h : H} (w : WF h) {k : Nat} (hk : k ≤ 2 ^ 40) : ∃ h', mkT e 1 1 (.int .u8 0) h (k : Int) (k : Int) = some (⟨some ⟨h.size, 0, some 0⟩, k, k⟩, h') ∧ EX h h' ∧ BufB h' ⟨some ⟨h.size, 0, some 0⟩, k, k⟩ (List.replicate k 0) := by
  have hz : zeros (.int .u8 0) k = vB (List.replicate k 0) := by
    unfold zeros vB
    have : (Value.int .u8 0).cells.toList = [Value.int .u8 0] := rfl
    rw [this, List.map_replicate]
    induction k with
    | zero => rfl
    | succ k ih => rw [List.replicate_succ, List.flatten_cons, ih (by omega), List.replicate_succ]; rfl
  have key : mkSl (DSE e (tyS 1 1 (.int .u8 0))) (e + 1) (.int .i64 (k : Int)) (.int .i64 (k : Int)) = some (.new (row e (vB (List.replicate k 0))) fun A => .slice (some ⟨A, 0, some 0⟩) k k) := by
    unfold mkSl
    rw [elem_DSE]
    have : (decide ((0 : Int) ≤ (k : Int)) && decide ((k : Int) ≤ (k : Int)) && decide ((k : Int) * (((tyS 1 1 (.int .u8 0)).bytes : Nat) + 1) ≤ 2 ^ 46)) = true := by
      have e1 : ((k : Int) * (((tyS 1 1 (.int .u8 0)).bytes : Nat) + 1) ≤ 2 ^ 46) := by
        show (k : Int) * (((1 : Nat) : Int) + 1) ≤ 2 ^ 46
        omega
      rw [decide_eq_true (show (0 : Int) ≤ (k : Int) by omega), decide_eq_true (show (k : Int) ≤ (k : Int) by omega), decide_eq_true e1]; rfl
    simp only [this, cond_true, Int.toNat_natCast]
    rw [← hz]; rfl
  refine ⟨newAt (grow h 1) h.size (row e (vB (List.replicate k 0))), ?_, wf_new w e _, ?_⟩
  · unfold mkT; rw [key]; rfl
  · have := bufB_new w e (List.replicate k 0) (by simp [B63]; omega)
    simpa using this
end Go.Abs
namespace Go.Proofs.Ytaebjajbogedkaa.T
open Go Go.Abs Go.Proofs
theorem val_be : ∀ (m n : Nat), val (n / 256 ^ m) (be m n) = n
  | 0, n => by simp [val, be]
  | m + 1, n => by
    have ih := val_be m n
    have hb : (UInt8.ofNat (n / 256 ^ m)).toNat = n / 256 ^ m % 256 := UInt8.toNat_ofNat'
    have e : n / 256 ^ (m + 1) * 256 + n / 256 ^ m % 256 = n / 256 ^ m := by
      rw [Nat.pow_succ, ← Nat.div_div_eq_div_mul]; omega
    simp only [val, be, List.foldl_cons, hb, e] at ih ⊢
    exact ih
theorem add8 (a b : Nat) (h : a + b < 256) : IntKind.wrap .u8 (((UInt8.ofNat a).toNat : Int) + IntKind.wrap .u8 (IntKind.wrap .i64 (b : Int))) = ((UInt8.ofNat (a + b)).toNat : Int) := by
  rw [UInt8.toNat_ofNat', UInt8.toNat_ofNat', w64 (by omega) (by omega), wu8 (n := (b : Int)) (by omega) (by omega), wu8 (by omega) (by omega)]
  omega
end Go.Proofs.Ytaebjajbogedkaa.T
