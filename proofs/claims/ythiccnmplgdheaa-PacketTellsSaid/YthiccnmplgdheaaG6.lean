/- Lemmas about the typed texts (joined: SSpan2 SSpan3 SVar1). -/
import Derived.Test.YthiccnmplgdheaaTxt
import Derived.Test.YthiccnmplgdheaaG4
import Derived.Test.YthiccnmplgdheaaG5
import Derived.Test.YthiccnmplgdheaaG2
set_option linter.unusedVariables false
set_option linter.unusedSimpArgs false
namespace Go.Proofs.Ythiccnmplgdheaa.T
open Go Go.Abs Go.Proofs
def tt (x : Nat) : Nat := if x < 1 then 0 else if x < 2 then 1 else if x < 4 then 2 else if x < 8 then 3 else if x < 16 then 4 else if x < 32 then 5 else if x < 64 then 6 else if x < 128 then 7 else 8
def tbl : ByteArray := ⟨#[0, 1, 2, 2, 3, 3, 3, 3, 4, 4, 4, 4, 4, 4, 4, 4, 5, 5, 5, 5, 5, 5, 5, 5, 5, 5, 5, 5, 5, 5, 5, 5, 6, 6, 6, 6, 6, 6, 6, 6, 6, 6, 6, 6, 6, 6, 6, 6, 6, 6, 6, 6, 6, 6, 6, 6, 6, 6, 6, 6, 6, 6, 6, 6, 7, 7, 7, 7, 7, 7, 7, 7, 7, 7, 7, 7, 7, 7, 7, 7, 7, 7, 7, 7, 7, 7, 7, 7, 7, 7, 7, 7, 7, 7, 7, 7, 7, 7, 7, 7, 7, 7, 7, 7, 7, 7, 7, 7, 7, 7, 7, 7, 7, 7, 7, 7, 7, 7, 7, 7, 7, 7, 7, 7, 7, 7, 7, 7, 8, 8, 8, 8, 8, 8, 8, 8, 8, 8, 8, 8, 8, 8, 8, 8, 8, 8, 8, 8, 8, 8, 8, 8, 8, 8, 8, 8, 8, 8, 8, 8, 8, 8, 8, 8, 8, 8, 8, 8, 8, 8, 8, 8, 8, 8, 8, 8, 8, 8, 8, 8, 8, 8, 8, 8, 8, 8, 8, 8, 8, 8, 8, 8, 8, 8, 8, 8, 8, 8, 8, 8, 8, 8, 8, 8, 8, 8, 8, 8, 8, 8, 8, 8, 8, 8, 8, 8, 8, 8, 8, 8, 8, 8, 8, 8, 8, 8, 8, 8, 8, 8, 8, 8, 8, 8, 8, 8, 8, 8, 8, 8, 8, 8, 8, 8, 8, 8, 8, 8, 8, 8, 8, 8, 8, 8, 8, 8]⟩
theorem tbl_all : ∀ x : Nat, x < 256 -> ixST tbl (x : Int) = some (tt x : Int) := by decide +kernel
theorem tbl_at {x : Int} (h0 : 0 <= x) (h1 : x < 256) : ixST tbl x = some (tt x.toNat : Int) := by
  have := tbl_all x.toNat (by omega)
  rwa [Int.toNat_of_nonneg h0] at this
theorem fdiv_pos (a : Int) {b : Int} (hb : 0 <= b) : Int.fdiv a b = a / b := Int.fdiv_eq_ediv_of_nonneg a hb
/-- how many bits a number has, as far as the kinds ask -/
theorem sh_step (c d x n : Int) (hc : 0 < c) (hd : 0 <= d) (hd2 : d <= 32) (hn : 0 <= n) (hn2 : n <= 64) (h0 : 0 <= x) {α : Type} (h : H) : ∃ y m, condK (decide (x >= c)) (some (Sum.inl (((Int.fdiv x c, IntKind.wrap .i64 (n + d))), h))) (some (Sum.inl ((x, n), h))) = (some (Sum.inl ((y, m), h)) : Option (((Int × Int) × H) ⊕ α)) /\ ((m = n /\ y = x /\ x < c) \/ (m = n + d /\ y = x / c /\ c <= x)) := by
  by_cases g : x >= c
  · refine ⟨x / c, n + d, ?_, .inr ⟨rfl, rfl, g⟩⟩
    rw [fdiv_pos x (by omega), w64 (by omega) (by omega), condK_eq, decide_eq_true g]; rfl
  · refine ⟨x, n, ?_, .inl ⟨rfl, rfl, by omega⟩⟩
    rw [condK_eq, decide_eq_false g]; rfl
set_option maxRecDepth 100000 in
theorem len64_f (n : Int) (h0 : 0 <= n) (h1 : n < 4611686018427387904) (h : H) : ∃ L, math_bits_Len64 n h = some (L, h) /\ (L <= 6 ↔ n < 64) /\ (L <= 14 ↔ n < 16384) /\ (L <= 30 ↔ n < 1073741824) := by
  unfold math_bits_Len64
  obtain ⟨x1, n1, e1, p1⟩ := sh_step 4294967296 32 n 0 (by omega) (by omega) (by omega) (by omega) (by omega) h0 (α := Int × H) h
  rw [show IntKind.wrap .i64 (0 + 32) = 32 from rfl] at e1
  rw [e1, joinO_inl]
  have q1 : 0 <= x1 /\ x1 < 4294967296 /\ ((n1 = 0 /\ x1 = n) \/ (n1 = 32 /\ 4294967296 <= n)) := by omega
  clear e1 p1
  obtain ⟨x2, n2, e2, p2⟩ := sh_step 65536 16 x1 n1 (by omega) (by omega) (by omega) (by omega) (by omega) (by omega) (α := Int × H) h
  simp only
  rw [e2, joinO_inl]
  have q2 : 0 <= x2 /\ x2 < 65536 /\ ((n2 = 0 /\ x2 = n) \/ (n2 = 16 /\ x2 = n / 65536 /\ 65536 <= n /\ n < 4294967296) \/ (32 <= n2 /\ n2 <= 48 /\ 4294967296 <= n)) := by omega
  clear e2 p2 q1
  obtain ⟨x3, n3, e3, p3⟩ := sh_step 256 8 x2 n2 (by omega) (by omega) (by omega) (by omega) (by omega) (by omega) (α := Int × H) h
  simp only
  rw [e3, joinO_inl]
  have q3 : 0 <= x3 /\ x3 < 256 /\ 0 <= n3 /\ n3 <= 56 /\ ((n3 = 0 /\ x3 = n) \/ (n3 = 8 /\ x3 = n / 256 /\ 256 <= n /\ n < 65536) \/ (n3 = 16 /\ x3 = n / 65536 /\ 65536 <= n /\ n < 16777216) \/ (n3 = 24 /\ x3 = n / 65536 / 256 /\ 16777216 <= n /\ n < 4294967296) \/ (32 <= n3 /\ 4294967296 <= n)) := by omega
  clear e3 p3 q2
  simp only
  rw [wu8 q3.1 q3.2.1]
  have ht := tbl_at q3.1 q3.2.1
  unfold tbl at ht
  rw [ht, bindO_some]
  have hb : tt x3.toNat <= 8 /\ (tt x3.toNat <= 6 ↔ x3 < 64) /\ (1 <= x3 -> 1 <= tt x3.toNat) := by unfold tt; (repeat' split) <;> omega
  generalize tt x3.toNat = t at *
  rw [w64 (n := (t : Int)) (by omega) (by omega), w64 (by omega) (by omega)]
  refine ⟨_, rfl, ?_, ?_, ?_⟩
  · omega
  · omega
  · omega
theorem len_f (n : Int) (h0 : 0 <= n) (h1 : n < 4611686018427387904) (h : H) : ∃ L, math_bits_Len n h = some (L, h) /\ (L <= 6 ↔ n < 64) /\ (L <= 14 ↔ n < 16384) /\ (L <= 30 ↔ n < 1073741824) := by
  obtain ⟨L, e, r⟩ := len64_f n h0 h1 h
  exact ⟨L, by unfold math_bits_Len P.math_bits_Len; rw [e]; rfl, r⟩
def kd (n : Int) : Int := if n < 0 then -1 else if n > 4611686018427387903 then -1 else if n < 64 then 0 else if n < 16384 then 1 else if n < 1073741824 then 2 else 3
theorem kind_f (n : Int) (h : H) : varint_kind n h = some (kd n, h) := by
  unfold varint_kind P.varint_kind kd
  simp only [condK_eq, decide_eq_true_eq]
  by_cases c0 : n < 0
  · simp [c0]
  by_cases c1 : n > 4611686018427387903
  · simp [c0, c1]
  simp only [c0, c1, if_false, joinO_inl, decide_false, Bool.false_eq_true]
  obtain ⟨L, e, t1, t2, t3⟩ := len_f n (by omega) (by omega) h
  rw [loopO_eq]
  simp only [P.varint_kind_l1, condK_eq, decide_eq_true_eq, show (0 : Int) < 3 by omega, if_true]
  rw [wu64 (by omega) (by omega), e, bind2_some, show shlT .i64 8 .i64 0 = some 8 from rfl, bindO_some, show IntKind.wrap .i64 (8 - 2) = 6 from rfl]
  by_cases d1 : n < 64
  · simp [t1, d1]
  simp only [t1, d1, if_false]
  rw [show IntKind.wrap .i64 (0 + 1) = 1 from rfl, loopO_eq]
  simp only [P.varint_kind_l1, condK_eq, decide_eq_true_eq, show (1 : Int) < 3 by omega, if_true]
  rw [wu64 (by omega) (by omega), e, bind2_some, show shlT .i64 8 .i64 1 = some 16 from rfl, bindO_some, show IntKind.wrap .i64 (16 - 2) = 14 from rfl]
  by_cases d2 : n < 16384
  · simp [t2, d2]
  simp only [t2, d2, if_false]
  rw [show IntKind.wrap .i64 (1 + 1) = 2 from rfl, loopO_eq]
  simp only [P.varint_kind_l1, condK_eq, decide_eq_true_eq, show (2 : Int) < 3 by omega, if_true]
  rw [wu64 (by omega) (by omega), e, bind2_some, show shlT .i64 8 .i64 2 = some 32 from rfl, bindO_some, show IntKind.wrap .i64 (32 - 2) = 30 from rfl]
  by_cases d3 : n < 1073741824
  · simp [t3, d3]
  simp only [t3, d3, if_false]
  rw [show IntKind.wrap .i64 (2 + 1) = 3 from rfl, loopO_eq]
  simp only [P.varint_kind_l1, condK_eq, decide_eq_true_eq, show ¬ (3 : Int) < 3 by omega, if_false]
end Go.Proofs.Ythiccnmplgdheaa.T
