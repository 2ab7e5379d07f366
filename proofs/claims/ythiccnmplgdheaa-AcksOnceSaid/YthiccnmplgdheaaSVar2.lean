/- Chapter 1's functions over the typed texts: sizes of several; a copy; bytes put. -/
import Derived.Test.YthiccnmplgdheaaSVar1
set_option linter.unusedVariables false
set_option linter.unusedSimpArgs false
namespace Go.Proofs.Ythiccnmplgdheaa.T
open Go Go.Abs Go.Proofs
def sz (n : Int) : Int := if n < 64 then 1 else if n < 16384 then 2 else if n < 1073741824 then 4 else 8
def okN (n : Int) : Prop := 0 ≤ n ∧ n ≤ 4611686018427387903
instance (n : Int) : Decidable (okN n) := inferInstanceAs (Decidable (_ ∧ _))
theorem kd_neg (n : Int) : kd n < 0 ↔ ¬ okN n := by
  unfold kd okN; (repeat' split) <;> omega
theorem shl_kd {n : Int} (h : okN n) : shlT .i64 1 .i64 (kd n) = some (sz n) := by
  have h' := h
  unfold okN at h
  unfold kd sz
  rw [if_neg (by omega), if_neg (by omega)]
  (repeat' split) <;> rfl
theorem sz_pos (n : Int) : 1 ≤ sz n ∧ sz n ≤ 8 := by unfold sz; (repeat' split) <;> omega
def szs : List Int → Option Int
  | [] => some 0
  | n :: l => if okN n then (szs l).map (sz n + ·) else none
def szV (zs : List Int) : Int := match szs zs with | some t => t | none => -1
/-! a copy -/
/-! bytes put -/
def be : Nat → Nat → List UInt8
  | 0, _ => []
  | m + 1, x => UInt8.ofNat (x / 256 ^ m) :: be m x
theorem be_length : ∀ m x, (be m x).length = m
  | 0, _ => rfl
  | m + 1, x => by simp [be, be_length m x]
theorem byte_at {x : Int} (h0 : 0 ≤ x) (m : Nat) (hm : m < 8) : ∃ y, shrT .i64 x .i64 (8 * (m : Int)) = some y ∧ IntKind.wrap .u8 y = ((UInt8.ofNat (x.toNat / 256 ^ m)).toNat : Int) := by
  refine ⟨_, shrT_ok _ _ _ (by omega), ?_⟩
  have e1 : min (8 * (m : Int)).toNat IntKind.i64.bits = 8 * m := by
    have : IntKind.i64.bits = 64 := rfl
    omega
  rw [e1, wu8_mod]
  have e2 : (2 : Int) ^ (8 * m) = ((256 ^ m : Nat) : Int) := by
    rw [show (256 : Nat) = 2 ^ 8 from rfl, ← Nat.pow_mul, Int.natCast_pow]; rfl
  rw [e2, fdiv_pos _ (Int.natCast_nonneg _), UInt8.toNat_ofNat']
  obtain ⟨n, rfl⟩ : ∃ n : Nat, x = n := ⟨x.toNat, (Int.toNat_of_nonneg h0).symm⟩
  rw [Int.toNat_natCast, ← Int.natCast_ediv]
  exact (Int.natCast_emod _ 256).symm
theorem or8 (a b : UInt8) : IntKind.wrap .u8 ((BitVec.toNat ((BitVec.ofInt 8 (a.toNat : Int)) ||| (BitVec.ofInt 8 (b.toNat : Int))) : Nat) : Int) = ((a ||| b).toNat : Int) := by
  have e : ∀ c : UInt8, BitVec.ofInt 8 (c.toNat : Int) = c.toBitVec := by
    intro c
    apply BitVec.eq_of_toNat_eq
    simp
  rw [e, e, wu8_mod]
  have : ((a ||| b).toNat) = (a.toBitVec ||| b.toBitVec).toNat := rfl
  rw [← this]
  have h := (a ||| b).toNat_lt
  omega
def enc (x : Int) : List UInt8 := match be (sz x).toNat x.toNat with
  | [] => []
  | b :: t => (b ||| UInt8.ofNat ((kd x).toNat * 64)) :: t
theorem enc_length (x : Int) : (enc x).length = (sz x).toNat := by
  have h := be_length (sz x).toNat x.toNat
  unfold enc
  cases hb : be (sz x).toNat x.toNat with
  | nil => rw [hb] at h; exact h
  | cons b t => rw [hb] at h; simpa using h
def encs : List Int → List UInt8
  | [] => []
  | x :: l => enc x ++ encs l
theorem encs_length : ∀ l, (encs l).length ≤ 8 * l.length
  | [] => by simp [encs]
  | x :: l => by
    have := encs_length l
    have := enc_length x
    have := sz_pos x
    simp [encs]; omega
theorem shl8_kd {n : Int} (h : okN n) : shlT .i64 8 .i64 (kd n) = some (8 * sz n) := by
  unfold okN at h
  unfold kd sz
  rw [if_neg (by omega), if_neg (by omega)]
  (repeat' split) <;> rfl
theorem drop_getD {zs : List Int} {i : Nat} (h : i < zs.length) : zs.drop i = zs.getD i 0 :: zs.drop (i + 1) := by
  rw [List.drop_eq_getElem_cons h]
  simp [List.getD, h]
end Go.Proofs.Ythiccnmplgdheaa.T
