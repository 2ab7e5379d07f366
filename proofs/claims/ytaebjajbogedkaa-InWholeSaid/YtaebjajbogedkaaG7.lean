/- Lemmas about the typed texts (joined: SVar1 SVar2 SVar3). -/
import Derived.Test.YtaebjajbogedkaaG5
import Derived.Test.YtaebjajbogedkaaG2
/- Chapter 1's functions over the typed texts: kinds, sizes, bytes. -/
set_option linter.unusedVariables false
set_option linter.unusedSimpArgs false
namespace Go.Proofs.Ytaebjajbogedkaa.T
open Go Go.Abs Go.Proofs
def tt (x : Nat) : Nat := if x < 1 then 0 else if x < 2 then 1 else if x < 4 then 2 else if x < 8 then 3 else if x < 16 then 4 else if x < 32 then 5 else if x < 64 then 6 else if x < 128 then 7 else 8
def tbl : ByteArray := ⟨#[0, 1, 2, 2, 3, 3, 3, 3, 4, 4, 4, 4, 4, 4, 4, 4, 5, 5, 5, 5, 5, 5, 5, 5, 5, 5, 5, 5, 5, 5, 5, 5, 6, 6, 6, 6, 6, 6, 6, 6, 6, 6, 6, 6, 6, 6, 6, 6, 6, 6, 6, 6, 6, 6, 6, 6, 6, 6, 6, 6, 6, 6, 6, 6, 7, 7, 7, 7, 7, 7, 7, 7, 7, 7, 7, 7, 7, 7, 7, 7, 7, 7, 7, 7, 7, 7, 7, 7, 7, 7, 7, 7, 7, 7, 7, 7, 7, 7, 7, 7, 7, 7, 7, 7, 7, 7, 7, 7, 7, 7, 7, 7, 7, 7, 7, 7, 7, 7, 7, 7, 7, 7, 7, 7, 7, 7, 7, 7, 8, 8, 8, 8, 8, 8, 8, 8, 8, 8, 8, 8, 8, 8, 8, 8, 8, 8, 8, 8, 8, 8, 8, 8, 8, 8, 8, 8, 8, 8, 8, 8, 8, 8, 8, 8, 8, 8, 8, 8, 8, 8, 8, 8, 8, 8, 8, 8, 8, 8, 8, 8, 8, 8, 8, 8, 8, 8, 8, 8, 8, 8, 8, 8, 8, 8, 8, 8, 8, 8, 8, 8, 8, 8, 8, 8, 8, 8, 8, 8, 8, 8, 8, 8, 8, 8, 8, 8, 8, 8, 8, 8, 8, 8, 8, 8, 8, 8, 8, 8, 8, 8, 8, 8, 8, 8, 8, 8, 8, 8, 8, 8, 8, 8, 8, 8, 8, 8, 8, 8, 8, 8, 8, 8, 8, 8, 8, 8]⟩
theorem tbl_all : ∀ x : Nat, x < 256 → ixST tbl (x : Int) = some (tt x : Int) := by decide +kernel
theorem tbl_at {x : Int} (h0 : 0 ≤ x) (h1 : x < 256) : ixST tbl x = some (tt x.toNat : Int) := by
  have := tbl_all x.toNat (by omega)
  rwa [Int.toNat_of_nonneg h0] at this
theorem fdiv_pos (a : Int) {b : Int} (hb : 0 ≤ b) : Int.fdiv a b = a / b := Int.fdiv_eq_ediv_of_nonneg a hb
/-- how many bits a number has, as far as the kinds ask -/
theorem sh_step (c d x n : Int) (hc : 0 < c) (hd : 0 ≤ d) (hd2 : d ≤ 32) (hn : 0 ≤ n) (hn2 : n ≤ 64) (h0 : 0 ≤ x) {α : Type} (h : H) : ∃ y m, condK (decide (x ≥ c)) (some (Sum.inl (((Int.fdiv x c, IntKind.wrap .i64 (n + d))), h))) (some (Sum.inl ((x, n), h))) = (some (Sum.inl ((y, m), h)) : Option (((Int × Int) × H) ⊕ α)) ∧ ((m = n ∧ y = x ∧ x < c) ∨ (m = n + d ∧ y = x / c ∧ c ≤ x)) := by
  by_cases g : x ≥ c
  · refine ⟨x / c, n + d, ?_, .inr ⟨rfl, rfl, g⟩⟩
    rw [fdiv_pos x (by omega), w64 (by omega) (by omega), condK_eq, decide_eq_true g]; rfl
  · refine ⟨x, n, ?_, .inl ⟨rfl, rfl, by omega⟩⟩
    rw [condK_eq, decide_eq_false g]; rfl
set_option maxRecDepth 100000 in
theorem len64_f (n : Int) (h0 : 0 ≤ n) (h1 : n < 4611686018427387904) (h : H) : ∃ L, math_bits_Len64 n h = some (L, h) ∧ (L ≤ 6 ↔ n < 64) ∧ (L ≤ 14 ↔ n < 16384) ∧ (L ≤ 30 ↔ n < 1073741824) := by
  unfold math_bits_Len64
  obtain ⟨x1, n1, e1, p1⟩ := sh_step 4294967296 32 n 0 (by omega) (by omega) (by omega) (by omega) (by omega) h0 (α := Int × H) h
  rw [show IntKind.wrap .i64 (0 + 32) = 32 from rfl] at e1
  rw [e1, joinO_inl]
  have q1 : 0 ≤ x1 ∧ x1 < 4294967296 ∧ ((n1 = 0 ∧ x1 = n) ∨ (n1 = 32 ∧ 4294967296 ≤ n)) := by omega
  clear e1 p1
  obtain ⟨x2, n2, e2, p2⟩ := sh_step 65536 16 x1 n1 (by omega) (by omega) (by omega) (by omega) (by omega) (by omega) (α := Int × H) h
  simp only
  rw [e2, joinO_inl]
  have q2 : 0 ≤ x2 ∧ x2 < 65536 ∧ ((n2 = 0 ∧ x2 = n) ∨ (n2 = 16 ∧ x2 = n / 65536 ∧ 65536 ≤ n ∧ n < 4294967296) ∨ (32 ≤ n2 ∧ n2 ≤ 48 ∧ 4294967296 ≤ n)) := by omega
  clear e2 p2 q1
  obtain ⟨x3, n3, e3, p3⟩ := sh_step 256 8 x2 n2 (by omega) (by omega) (by omega) (by omega) (by omega) (by omega) (α := Int × H) h
  simp only
  rw [e3, joinO_inl]
  have q3 : 0 ≤ x3 ∧ x3 < 256 ∧ 0 ≤ n3 ∧ n3 ≤ 56 ∧ ((n3 = 0 ∧ x3 = n) ∨ (n3 = 8 ∧ x3 = n / 256 ∧ 256 ≤ n ∧ n < 65536) ∨ (n3 = 16 ∧ x3 = n / 65536 ∧ 65536 ≤ n ∧ n < 16777216) ∨ (n3 = 24 ∧ x3 = n / 65536 / 256 ∧ 16777216 ≤ n ∧ n < 4294967296) ∨ (32 ≤ n3 ∧ 4294967296 ≤ n)) := by omega
  clear e3 p3 q2
  simp only
  rw [wu8 q3.1 q3.2.1]
  have ht := tbl_at q3.1 q3.2.1
  unfold tbl at ht
  rw [ht, bindO_some]
  have hb : tt x3.toNat ≤ 8 ∧ (tt x3.toNat ≤ 6 ↔ x3 < 64) ∧ (1 ≤ x3 → 1 ≤ tt x3.toNat) := by unfold tt; (repeat' split) <;> omega
  generalize tt x3.toNat = t at *
  rw [w64 (n := (t : Int)) (by omega) (by omega), w64 (by omega) (by omega)]
  refine ⟨_, rfl, ?_, ?_, ?_⟩
  · omega
  · omega
  · omega
theorem len_f (n : Int) (h0 : 0 ≤ n) (h1 : n < 4611686018427387904) (h : H) : ∃ L, math_bits_Len n h = some (L, h) ∧ (L ≤ 6 ↔ n < 64) ∧ (L ≤ 14 ↔ n < 16384) ∧ (L ≤ 30 ↔ n < 1073741824) := by
  obtain ⟨L, e, r⟩ := len64_f n h0 h1 h
  exact ⟨L, by unfold math_bits_Len P.math_bits_Len; rw [e]; rfl, r⟩
def kd (n : Int) : Int := if n < 0 then -1 else if n > 4611686018427387903 then -1 else if n < 64 then 0 else if n < 16384 then 1 else if n < 1073741824 then 2 else 3
theorem kind_f (n : Int) (h : H) : varint_kind n h = some (kd n, h) := by
  unfold varint_kind P.varint_kind kd
  simp only [condK_eq, decide_eq_true_eq]
  by_cases c0 : n < 0
  · simp [c0]
  by_cases c1 : n > 4611686018427387903
  · simp [c0, c1]
  simp only [c0, c1, if_false, joinO_inl, decide_false, Bool.false_eq_true]
  obtain ⟨L, e, t1, t2, t3⟩ := len_f n (by omega) (by omega) h
  rw [loopO_eq]
  simp only [P.varint_kind_l1, condK_eq, decide_eq_true_eq, show (0 : Int) < 3 by omega, if_true]
  rw [wu64 (by omega) (by omega), e, bind2_some, show shlT .i64 8 .i64 0 = some 8 from rfl, bindO_some, show IntKind.wrap .i64 (8 - 2) = 6 from rfl]
  by_cases d1 : n < 64
  · simp [t1, d1]
  simp only [t1, d1, if_false]
  rw [show IntKind.wrap .i64 (0 + 1) = 1 from rfl, loopO_eq]
  simp only [P.varint_kind_l1, condK_eq, decide_eq_true_eq, show (1 : Int) < 3 by omega, if_true]
  rw [wu64 (by omega) (by omega), e, bind2_some, show shlT .i64 8 .i64 1 = some 16 from rfl, bindO_some, show IntKind.wrap .i64 (16 - 2) = 14 from rfl]
  by_cases d2 : n < 16384
  · simp [t2, d2]
  simp only [t2, d2, if_false]
  rw [show IntKind.wrap .i64 (1 + 1) = 2 from rfl, loopO_eq]
  simp only [P.varint_kind_l1, condK_eq, decide_eq_true_eq, show (2 : Int) < 3 by omega, if_true]
  rw [wu64 (by omega) (by omega), e, bind2_some, show shlT .i64 8 .i64 2 = some 32 from rfl, bindO_some, show IntKind.wrap .i64 (32 - 2) = 30 from rfl]
  by_cases d3 : n < 1073741824
  · simp [t3, d3]
  simp only [t3, d3, if_false]
  rw [show IntKind.wrap .i64 (2 + 1) = 3 from rfl, loopO_eq]
  simp only [P.varint_kind_l1, condK_eq, decide_eq_true_eq, show ¬ (3 : Int) < 3 by omega, if_false]
end Go.Proofs.Ytaebjajbogedkaa.T
/- Chapter 1's functions over the typed texts: sizes of several; a copy; bytes put. -/
set_option linter.unusedVariables false
set_option linter.unusedSimpArgs false
namespace Go.Proofs.Ytaebjajbogedkaa.T
open Go Go.Abs Go.Proofs
def sz (n : Int) : Int := if n < 64 then 1 else if n < 16384 then 2 else if n < 1073741824 then 4 else 8
def okN (n : Int) : Prop := 0 ≤ n ∧ n ≤ 4611686018427387903
instance (n : Int) : Decidable (okN n) := inferInstanceAs (Decidable (_ ∧ _))
theorem kd_neg (n : Int) : kd n < 0 ↔ ¬ okN n := by
  unfold kd okN; (repeat' split) <;> omega
theorem shl_kd {n : Int} (h : okN n) : shlT .i64 1 .i64 (kd n) = some (sz n) := by
  have h' := h
  unfold okN at h
  unfold kd sz
  rw [if_neg (by omega), if_neg (by omega)]
  (repeat' split) <;> rfl
theorem sz_pos (n : Int) : 1 ≤ sz n ∧ sz n ≤ 8 := by unfold sz; (repeat' split) <;> omega
def szs : List Int → Option Int
  | [] => some 0
  | n :: l => if okN n then (szs l).map (sz n + ·) else none
def szV (zs : List Int) : Int := match szs zs with | some t => t | none => -1
/-! a copy -/
theorem clone_f {h : H} {s : Sl} {l : List UInt8} (w : WF h) (hr : RdB h s l) (hl : l.length ≤ 2 ^ 47) : ∃ s' h', slices_Clone_byte s h = some (s', h') ∧ EX h h' ∧ BufB h' s' l ∧ Fr h.size s' ∧ (s.base = none → s'.base = none) := by
  unfold slices_Clone_byte
  rw [eqLT_nil s hr.nil, bindO_some]
  cases hb : s.base with
  | none =>
    have := Rd.nilOf hr hb
    simp only [vB, List.map_eq_nil_iff] at this
    obtain ⟨rfl, _⟩ := this
    simp only [Option.isNone_none, condK_eq, if_true]
    exact ⟨_, _, rfl, EX.refl w, buf_nil 1 h, fr_nil _, fun _ => rfl⟩
  | some a =>
    simp only [Option.isNone_some, condK_eq, Bool.false_eq_true, if_false]
    rw [newO_eq]
    have x1 := wf_new w 5 (vB [])
    have b1 := bufB_new w 5 [] (by decide)
    rw [show row 5 [] = row 5 (vB []) from rfl]
    have f1 := fr_new h 0 0
    simp only [List.length_nil] at b1
    generalize newAt (grow h 1) h.size (row 5 (vB [])) = h1 at x1 b1 ⊢
    generalize (⟨some ⟨h.size, 0, some 0⟩, 0, 0⟩ : Sl) = s1 at b1 f1 ⊢
    obtain ⟨s', h', e2, k2, x2, b2, _, f2⟩ := appB_ok (e := 5) x1.wf b1 (hr.ex x1) (by simpa using hl)
    rw [e2, bind2_some]
    exact ⟨s', h', rfl, x2 _ x1 f1, by simpa using b2, f2 _ x1.size f1, fun hn => by simp at hn⟩
/-! bytes put -/
def be : Nat → Nat → List UInt8
  | 0, _ => []
  | m + 1, x => UInt8.ofNat (x / 256 ^ m) :: be m x
theorem be_length : ∀ m x, (be m x).length = m
  | 0, _ => rfl
  | m + 1, x => by simp [be, be_length m x]
theorem byte_at {x : Int} (h0 : 0 ≤ x) (m : Nat) (hm : m < 8) : ∃ y, shrT .i64 x .i64 (8 * (m : Int)) = some y ∧ IntKind.wrap .u8 y = ((UInt8.ofNat (x.toNat / 256 ^ m)).toNat : Int) := by
  refine ⟨_, shrT_ok _ _ _ (by omega), ?_⟩
  have e1 : min (8 * (m : Int)).toNat IntKind.i64.bits = 8 * m := by
    have : IntKind.i64.bits = 64 := rfl
    omega
  rw [e1, wu8_mod]
  have e2 : (2 : Int) ^ (8 * m) = ((256 ^ m : Nat) : Int) := by
    rw [show (256 : Nat) = 2 ^ 8 from rfl, ← Nat.pow_mul, Int.natCast_pow]; rfl
  rw [e2, fdiv_pos _ (Int.natCast_nonneg _), UInt8.toNat_ofNat']
  obtain ⟨n, rfl⟩ : ∃ n : Nat, x = n := ⟨x.toNat, (Int.toNat_of_nonneg h0).symm⟩
  rw [Int.toNat_natCast, ← Int.natCast_ediv]
  exact (Int.natCast_emod _ 256).symm
theorem put_l2 {h0 : H} {x k f : Int} {n : Sl} {c i : Int} (hx : 0 ≤ x) : ∀ (m : Nat) (out : Sl) (l : List UInt8) (h : H), m ≤ 8 → BufB h out l → EX h0 h → Fr h0.size out → l.length + m ≤ 2 ^ 47 →
    ∃ out' h', loopO varint_Put_l2 ((out, (x, (k, (f, (8 * (m : Int) - 8, (n, (c, i))))))), h) = some (Sum.inl ((out', (k, (f, (n, (c, i))))), h')) ∧ BufB h' out' (l ++ be m x.toNat) ∧ EX h0 h' ∧ Fr h0.size out'
  | 0, out, l, h, hm, hb, hx0, hf, hl => by
    refine ⟨out, h, ?_, by simpa [be] using hb, hx0, hf⟩
    rw [loopO_eq]
    simp only [P.varint_Put_l2, condK_eq, decide_eq_true_eq, show ¬ (8 * ((0 : Nat) : Int) - 8 ≥ 0) by omega, if_false]
  | m + 1, out, l, h, hm, hb, hx0, hf, hl => by
    obtain ⟨y, e1, e2⟩ := byte_at hx m (by omega)
    rw [loopO_eq]
    simp only [P.varint_Put_l2, condK_eq, decide_eq_true_eq, show (8 * ((m + 1 : Nat) : Int) - 8 ≥ 0) by omega, if_true]
    rw [show (8 * ((m + 1 : Nat) : Int) - 8) = 8 * (m : Int) by omega, e1, bindO_some, e2]
    rw [newO_eq, show row 5 [Value.int .u8 ((UInt8.ofNat (x.toNat / 256 ^ m)).toNat : Int)] = row 5 (vB [UInt8.ofNat (x.toNat / 256 ^ m)]) from rfl]
    generalize hbv : UInt8.ofNat (x.toNat / 256 ^ m) = bv
    have x1 := wf_new hx0.wf 5 (vB [bv])
    have b1 : BufB _ ⟨some ⟨h.size, 0, some 0⟩, 1, 1⟩ [bv] := bufB_new hx0.wf 5 [bv] (by simp [B63])
    generalize newAt (grow h 1) h.size (row 5 (vB [bv])) = h1 at x1 b1 ⊢
    generalize (⟨some ⟨h.size, 0, some 0⟩, 1, 1⟩ : Sl) = s1 at b1 ⊢
    obtain ⟨out1, h2, e3, k3, x3, b3, _, f3⟩ := appB_ok (e := 5) x1.wf (hb.ex hx0.wf x1) b1.rd (by simp; omega)
    rw [e3, bind2_some]
    simp only
    rw [w64 (by omega) (by omega)]
    obtain ⟨out', h', e4, b4, x4, f4⟩ := put_l2 (k := k) (f := f) (n := n) (c := c) (i := i) hx m out1 (l ++ [bv]) h2 (by omega) b3 (x3 _ (hx0.trans x1) hf) (f3 _ (hx0.trans x1).size hf) (by simp; omega)
    refine ⟨out', h', e4, ?_, x4, f4⟩
    rw [List.append_assoc] at b4
    simpa [be, hbv] using b4
theorem or8 (a b : UInt8) : IntKind.wrap .u8 ((BitVec.toNat ((BitVec.ofInt 8 (a.toNat : Int)) ||| (BitVec.ofInt 8 (b.toNat : Int))) : Nat) : Int) = ((a ||| b).toNat : Int) := by
  have e : ∀ c : UInt8, BitVec.ofInt 8 (c.toNat : Int) = c.toBitVec := by
    intro c
    apply BitVec.eq_of_toNat_eq
    simp
  rw [e, e, wu8_mod]
  have : ((a ||| b).toNat) = (a.toBitVec ||| b.toBitVec).toNat := rfl
  rw [← this]
  have h := (a ||| b).toNat_lt
  omega
def enc (x : Int) : List UInt8 := match be (sz x).toNat x.toNat with
  | [] => []
  | b :: t => (b ||| UInt8.ofNat ((kd x).toNat * 64)) :: t
theorem enc_length (x : Int) : (enc x).length = (sz x).toNat := by
  have h := be_length (sz x).toNat x.toNat
  unfold enc
  cases hb : be (sz x).toNat x.toNat with
  | nil => rw [hb] at h; exact h
  | cons b t => rw [hb] at h; simpa using h
def encs : List Int → List UInt8
  | [] => []
  | x :: l => enc x ++ encs l
theorem encs_length : ∀ l, (encs l).length ≤ 8 * l.length
  | [] => by simp [encs]
  | x :: l => by
    have := encs_length l
    have := enc_length x
    have := sz_pos x
    simp [encs]; omega
theorem shl8_kd {n : Int} (h : okN n) : shlT .i64 8 .i64 (kd n) = some (8 * sz n) := by
  unfold okN at h
  unfold kd sz
  rw [if_neg (by omega), if_neg (by omega)]
  (repeat' split) <;> rfl
/-- one number put -/
theorem put_step {h0 : H} {n : Sl} {zs : List Int} (hr : RdI .i64 h0 n zs) {i : Nat} (hi : i < zs.length) (hz : zs.length ≤ 2 ^ 47) {out : Sl} {l : List UInt8} {h : H} (hb : BufB h out l) (hx : EX h0 h) (hf : Fr h0.size out) (hl : l.length + 8 ≤ 2 ^ 47) (hok : okN (zs.getD i 0)) :
    ∃ out1 h1, varint_Put_l1 ((out, (n, ((zs.length : Int), (i : Int)))), h) = some (Sum.inl ((out1, (n, ((zs.length : Int), ((i + 1 : Nat) : Int)))), h1)) ∧ BufB h1 out1 (l ++ enc (zs.getD i 0)) ∧ EX h0 h1 ∧ Fr h0.size out1 := by
  obtain ⟨a, ha, e1, e2⟩ := (hr.ex hx).at (i := (i : Int)) (by omega) (by omega)
  simp only [Int.toNat_natCast] at e1 e2
  generalize zs.getD i 0 = x at e2 hok
  have hs := sz_pos x
  have hkd : ¬ kd x < 0 := by rw [kd_neg]; exact fun hh => hh hok
  have hkd2 : kd x ≤ 3 := by unfold kd; (repeat' split) <;> omega
  simp only [varint_Put_l1, P.varint_Put_l1, condK_eq, decide_eq_true_eq, show ((i : Int) < (zs.length : Int)) by omega, if_true]
  rw [e1, bindO_some, e2, bindO_some, kind_f, bind2_some]
  simp only [hkd, if_false]
  rw [shl8_kd hok, bindO_some, w64 (by omega) (by omega), hb.rd.len]
  obtain ⟨out1, h1, e3, b3, x3, f3⟩ := put_l2 (x := x) (k := kd x) (f := (l.length : Int)) (n := n) (c := (zs.length : Int)) (i := (i : Int)) hok.1 (sz x).toNat out l h (by omega) hb hx hf (by omega)
  rw [show 8 * sz x = 8 * ((sz x).toNat : Int) by omega]
  simp only [varint_Put_l2] at e3
  rw [e3, joinO_inl]
  simp only
  cases hbe : be (sz x).toNat x.toNat with
  | nil => have := be_length (sz x).toNat x.toNat; rw [hbe] at this; simp at this; omega
  | cons b t =>
  rw [hbe] at b3
  obtain ⟨a', ha', e5, e6⟩ := b3.rd.at (i := (l.length : Int)) (by omega) (by simp; omega)
  simp only [Int.toNat_natCast] at e5 e6
  rw [e5, bindO_some, e6, bindO_some, letO_eq, bindO_some]
  have hg : (l ++ b :: t).getD l.length 0 = b := by simp [List.getD]
  rw [hg]
  have ek : IntKind.wrap .u8 (IntKind.wrap .i64 (kd x * 64)) = ((UInt8.ofNat ((kd x).toNat * 64)).toNat : Int) := by
    have : 0 ≤ kd x := by omega
    rw [w64 (by omega) (by omega), wu8_mod, UInt8.toNat_ofNat']
    omega
  rw [ek, or8]
  obtain ⟨h2, e7, w2, b4, x4⟩ := st1_bufB (v := b ||| UInt8.ofNat ((kd x).toNat * 64)) b3 ha' (i := l.length) (by simp) x3.wf
  rw [e7, bindO_some, joinO_inl]
  simp only
  rw [w64 (by omega) (by omega)]
  have hset : (l ++ b :: t).set l.length (b ||| UInt8.ofNat ((kd x).toNat * 64)) = l ++ enc x := by
    unfold enc; rw [hbe]; simp
  rw [hset] at b4
  exact ⟨out1, h2, by simp, b4, x4 _ x3 f3, f3⟩
theorem drop_getD {zs : List Int} {i : Nat} (h : i < zs.length) : zs.drop i = zs.getD i 0 :: zs.drop (i + 1) := by
  rw [List.drop_eq_getElem_cons h]
  simp [List.getD, h]
/-- all of them may be -/
theorem put_l1 {h0 : H} {n : Sl} {zs : List Int} (hr : RdI .i64 h0 n zs) (hz : zs.length ≤ 2 ^ 47) : ∀ (k i : Nat) (out : Sl) (l : List UInt8) (h : H), i + k = zs.length → BufB h out l → EX h0 h → Fr h0.size out → l.length + 8 * k ≤ 2 ^ 47 →
    (∀ x ∈ zs.drop i, okN x) →
    ∃ out' h', loopO varint_Put_l1 ((out, (n, ((zs.length : Int), (i : Int)))), h) = some (Sum.inl (out', h')) ∧ BufB h' out' (l ++ encs (zs.drop i)) ∧ EX h0 h' ∧ Fr h0.size out'
  | 0, i, out, l, h, hik, hb, hx, hf, hl, hall => by
    have : zs.drop i = [] := List.drop_eq_nil_of_le (by omega)
    rw [this]
    refine ⟨out, h, ?_, by simpa [encs] using hb, hx, hf⟩
    rw [loopO_eq]
    simp only [P.varint_Put_l1, condK_eq, decide_eq_true_eq, show ¬ ((i : Int) < (zs.length : Int)) by omega, if_false]
  | k + 1, i, out, l, h, hik, hb, hx, hf, hl, hall => by
    have hd := drop_getD (zs := zs) (i := i) (by omega)
    obtain ⟨out1, h1, e1, b1, x1, f1⟩ := put_step hr (i := i) (by omega) hz hb hx hf (by omega) (hall _ (by rw [hd]; exact List.mem_cons_self ..))
    have hs := sz_pos (zs.getD i 0)
    have hel := enc_length (zs.getD i 0)
    obtain ⟨out', h', e8, b5, x5, f5⟩ := put_l1 hr hz k (i + 1) out1 _ h1 (by omega) b1 x1 f1 (by rw [List.length_append]; omega) (fun y hy => hall y (by rw [hd]; exact List.mem_cons_of_mem _ hy))
    refine ⟨out', h', ?_, ?_, x5, f5⟩
    · rw [loopO_eq, e1]; exact e8
    · rw [hd]; simpa [encs] using b5
/-- one of them may not be -/
theorem put_bad {h0 : H} {n : Sl} {zs : List Int} (hr : RdI .i64 h0 n zs) (hz : zs.length ≤ 2 ^ 47) : ∀ (k i : Nat) (out : Sl) (l : List UInt8) (h : H), i + k = zs.length → BufB h out l → EX h0 h → Fr h0.size out → l.length + 8 * k ≤ 2 ^ 47 →
    (∃ x ∈ zs.drop i, ¬ okN x) →
    ∃ h', loopO varint_Put_l1 ((out, (n, ((zs.length : Int), (i : Int)))), h) = some (Sum.inr (⟨none, 0, 0⟩, h')) ∧ EX h0 h'
  | 0, i, out, l, h, hik, hb, hx, hf, hl, ⟨x, hm, hn⟩ => by
    rw [List.drop_eq_nil_of_le (by omega)] at hm; simp at hm
  | k + 1, i, out, l, h, hik, hb, hx, hf, hl, ⟨x, hm, hn⟩ => by
    have hd := drop_getD (zs := zs) (i := i) (by omega)
    by_cases hok : okN (zs.getD i 0)
    · obtain ⟨out1, h1, e1, b1, x1, f1⟩ := put_step hr (i := i) (by omega) hz hb hx hf (by omega) hok
      have hs := sz_pos (zs.getD i 0)
      have hel := enc_length (zs.getD i 0)
      rw [hd, List.mem_cons] at hm
      rcases hm with rfl | hm
      · exact absurd hok hn
      obtain ⟨h', e8, x5⟩ := put_bad hr hz k (i + 1) out1 _ h1 (by omega) b1 x1 f1 (by rw [List.length_append]; omega) ⟨x, hm, hn⟩
      exact ⟨h', by rw [loopO_eq, e1]; exact e8, x5⟩
    · obtain ⟨a, ha, e1, e2⟩ := (hr.ex hx).at (i := (i : Int)) (by omega) (by omega)
      simp only [Int.toNat_natCast] at e1 e2
      refine ⟨h, ?_, hx⟩
      rw [loopO_eq]
      simp only [P.varint_Put_l1, condK_eq, decide_eq_true_eq, show ((i : Int) < (zs.length : Int)) by omega, if_true]
      rw [e1, bindO_some, e2, bindO_some, kind_f, bind2_some]
      simp only [kd_neg, hok, not_false_eq_true, if_true, joinO_inr]
theorem Put_f {h : H} {b n : Sl} {l : List UInt8} {zs : List Int} (w : WF h) (hb : RdB h b l) (hr : RdI .i64 h n zs) (hl : l.length + 8 * zs.length ≤ 2 ^ 47) (hall : ∀ x ∈ zs, okN x) :
    ∃ s' h', varint_Put b n h = some (s', h') ∧ EX h h' ∧ RdB h' s' (l ++ encs zs) ∧ Fr h.size s' := by
  unfold varint_Put P.varint_Put
  obtain ⟨s1, h1, e1, x1, b1, f1, _⟩ := clone_f w hb (by omega)
  rw [e1, bind2_some, hr.len]
  simp only
  obtain ⟨out', h', e2, b2, x2, f2⟩ := put_l1 hr (by omega) zs.length 0 s1 l h1 (by omega) b1 x1 f1 (by omega) (by simpa using hall)
  simp only [varint_Put_l1, Int.natCast_zero] at e2
  rw [e2, joinO_inl]
  simp only
  have hlen := b2.rd.len
  have hel := encs_length zs
  obtain ⟨s3, e3, r3, _, _, f3⟩ := clip_ok (by omega) (by unfold B63; omega) b2.rd (by rw [hlen]; unfold B63; simp; omega)
  unfold slices_Clip_byte
  rw [e3, bindO_some, bind2_some]
  exact ⟨s3, h', rfl, x2, by simpa [RdB] using r3, f3 _ f2⟩
theorem Put_bad {h : H} {b n : Sl} {l : List UInt8} {zs : List Int} (w : WF h) (hb : RdB h b l) (hr : RdI .i64 h n zs) (hl : l.length + 8 * zs.length ≤ 2 ^ 47) (hall : ∃ x ∈ zs, ¬ okN x) :
    ∃ h', varint_Put b n h = some (⟨none, 0, 0⟩, h') ∧ EX h h' := by
  unfold varint_Put P.varint_Put
  obtain ⟨s1, h1, e1, x1, b1, f1, _⟩ := clone_f w hb (by omega)
  rw [e1, bind2_some, hr.len]
  simp only
  obtain ⟨h', e2, x2⟩ := put_bad hr (by omega) zs.length 0 s1 l h1 (by omega) b1 x1 f1 (by omega) (by simpa using hall)
  simp only [varint_Put_l1, Int.natCast_zero] at e2
  rw [e2]
  exact ⟨h', rfl, x2⟩
end Go.Proofs.Ytaebjajbogedkaa.T
/- Chapter 1's functions over the typed texts: a number taken; numbers that may be; the chapter's example. -/
set_option linter.unusedVariables false
set_option linter.unusedSimpArgs false
namespace Go.Proofs.Ytaebjajbogedkaa.T
open Go Go.Abs Go.Proofs
theorem and63 : ∀ b : Nat, b < 256 → IntKind.wrap .u8 ((BitVec.toNat ((BitVec.ofInt 8 (b : Int)) &&& (BitVec.ofInt 8 63)) : Nat) : Int) = ((b % 64 : Nat) : Int) := by decide +kernel
theorem or64 (n c : Nat) (hn : n < 2 ^ 54) (hc : c < 256) : IntKind.wrap .i64 ((BitVec.toNat ((BitVec.ofInt 64 (IntKind.wrap .i64 ((n : Int) * 256))) ||| (BitVec.ofInt 64 (IntKind.wrap .i64 (c : Int)))) : Nat) : Int) = ((n * 256 + c : Nat) : Int) := by
  rw [w64 (n := (n : Int) * 256) (by omega) (by omega), w64 (n := (c : Int)) (by omega) (by omega)]
  have e1 : BitVec.ofInt 64 ((n : Int) * 256) = BitVec.ofNat 64 (n * 256) := by
    rw [show (n : Int) * 256 = ((n * 256 : Nat) : Int) by omega]; exact BitVec.ofInt_natCast _ _
  have e2 : BitVec.ofInt 64 (c : Int) = BitVec.ofNat 64 c := BitVec.ofInt_natCast _ _
  rw [e1, e2, BitVec.toNat_or, BitVec.toNat_ofNat, BitVec.toNat_ofNat, Nat.mod_eq_of_lt (by omega), Nat.mod_eq_of_lt (by omega)]
  have e3 : n * 256 ||| c = n * 256 + c := by
    have := Nat.shiftLeft_add_eq_or_of_lt (show c < 2 ^ 8 by omega) n
    rw [Nat.shiftLeft_eq] at this
    exact this.symm
  rw [e3, w64 (by omega) (by omega)]
def val (n : Nat) (l : List UInt8) : Nat := l.foldl (fun n c => n * 256 + c.toNat) n
theorem val_lt : ∀ (l : List UInt8) (n B : Nat), n < B → val n l < B * 256 ^ l.length
  | [], n, B, h => by simpa [val] using h
  | c :: l, n, B, h => by
    have hc := c.toNat_lt
    have := val_lt l (n * 256 + c.toNat) (B * 256) (by omega)
    simp only [val, List.foldl_cons, List.length_cons, Nat.pow_succ] at this ⊢
    rw [Nat.mul_assoc, Nat.mul_comm 256] at this
    exact this
theorem take_loop {h : H} {b x0 : Sl} {size : Int} {l : List UInt8} (hr : RdB h x0 l) (hl : l.length ≤ 7) : ∀ (k i n : Nat), i + k = l.length → n < 64 * 256 ^ i →
    loopO varint_Take_l1 ((b, ((n : Int), (size, (x0, ((l.length : Int), (i : Int)))))), h) = some (Sum.inl ((b, ((val n (l.drop i) : Int), size)), h))
  | 0, i, n, hik, hn => by
    rw [loopO_eq, List.drop_eq_nil_of_le (by omega)]
    simp only [P.varint_Take_l1, condK_eq, decide_eq_true_eq, show ¬ ((i : Int) < (l.length : Int)) by omega, if_false]
    rfl
  | k + 1, i, n, hik, hn => by
    obtain ⟨a, ha, e1, e2⟩ := hr.at (i := (i : Int)) (by omega) (by omega)
    simp only [Int.toNat_natCast] at e1 e2
    have hd : l.drop i = l.getD i 0 :: l.drop (i + 1) := by
      rw [List.drop_eq_getElem_cons (by omega)]
      simp [List.getD, show i < l.length by omega]
    have hc := (l.getD i 0).toNat_lt
    have hp : 256 ^ i ≤ 256 ^ 6 := Nat.pow_le_pow_right (by omega) (by omega)
    rw [loopO_eq]
    simp only [P.varint_Take_l1, condK_eq, decide_eq_true_eq, show ((i : Int) < (l.length : Int)) by omega, if_true]
    rw [e1, bindO_some, e2, bindO_some, letO_eq, or64 n _ (by omega) hc, w64 (by omega) (by omega)]
    have := take_loop (b := b) (size := size) hr hl k (i + 1) (n * 256 + (l.getD i 0).toNat) (by omega) (by rw [Nat.pow_succ]; omega)
    rw [hd]
    exact this
def tsz (b : UInt8) : Nat := 2 ^ (b.toNat / 64)
def tk : List UInt8 → Int × List UInt8 × Int
  | [] => (0, [], 3)
  | b :: t => if t.length + 1 < tsz b then (0, [], 3) else ((val (b.toNat % 64) (t.take (tsz b - 1)) : Nat), t.drop (tsz b - 1), 0)
theorem tsz_shl (b : UInt8) : shlT .i64 1 .u8 (Int.fdiv (b.toNat : Int) 64) = some (tsz b : Int) ∧ 1 ≤ tsz b ∧ tsz b ≤ 8 := by
  have hb := b.toNat_lt
  have e : Int.fdiv (b.toNat : Int) 64 = ((b.toNat / 64 : Nat) : Int) := by rw [fdiv_pos _ (by omega)]; omega
  rw [e]
  unfold tsz
  have hq : b.toNat / 64 < 4 := by omega
  generalize b.toNat / 64 = q at hq
  rcases (by omega : q = 0 ∨ q = 1 ∨ q = 2 ∨ q = 3) with rfl | rfl | rfl | rfl <;> exact ⟨rfl, by decide, by decide⟩
theorem Take_f {h : H} {b : Sl} {l : List UInt8} (w : WF h) (hr : RdB h b l) (hl : l.length ≤ 2 ^ 47) : ∃ r h', varint_Take b h = some (((tk l).1, (r, (tk l).2.2)), h') ∧ EX h h' ∧ RdB h' r (tk l).2.1 := by
  unfold varint_Take P.varint_Take
  rw [hr.len]
  cases l with
  | nil =>
    simp only [List.length_nil, Int.natCast_zero, beq_self_eq_true, condK_eq, if_true, joinO_inl, tk]
    exact ⟨_, h, rfl, EX.refl w, rd_nil 1 h⟩
  | cons c t =>
    obtain ⟨a, ha, e1, e2⟩ := hr.at (i := 0) (by omega) (by simp)
    simp only [Int.toNat_zero, List.getD_cons_zero] at e1 e2
    obtain ⟨e3, s1, s2⟩ := tsz_shl c
    have hz : (((c :: t).length : Int) == 0) = false := by simp; omega
    simp only [hz, condK_eq, Bool.false_eq_true, if_false, e1, bindO_some, e2, e3, joinO_inl, decide_eq_true_eq]
    by_cases hsh : t.length + 1 < tsz c
    · simp only [tk, hsh, if_true]
      rw [if_pos (by simp; omega)]
      exact ⟨_, h, rfl, EX.refl w, rd_nil 1 h⟩
    · simp only [tk, hsh, if_false]
      rw [if_neg (by simp; omega), letO_eq, and63 _ c.toNat_lt, w64 (by omega) (by omega)]
      obtain ⟨x5, e4, r4, l4, _⟩ := sl_lohi (lo := 1) (hi := (tsz c : Int)) (by omega) (by unfold B63; omega) hr (by omega) (by omega) (by rw [hr.len]; simp; omega)
      rw [e4, bindO_some, l4]
      have hr5 : RdB h x5 (t.take (tsz c - 1)) := by
        simp only [vB, Int.toNat_one, Nat.mul_one, Int.toNat_natCast, List.map_cons, List.drop_succ_cons, List.drop_zero, Nat.one_mul] at r4
        unfold RdB vB
        rw [List.map_take]; exact r4
      have hlt : (t.take (tsz c - 1)).length = tsz c - 1 := by simp; omega
      have := take_loop (b := b) (size := (tsz c : Int)) hr5 (by omega) (tsz c - 1) 0 (c.toNat % 64) (by omega) (by omega)
      rw [hlt] at this
      simp only [varint_Take_l1, Int.natCast_zero, List.drop_zero] at this
      rw [show (((tsz c : Int).toNat - (1 : Int).toNat : Nat) : Int) = ((tsz c - 1 : Nat) : Int) by omega, this, joinO_inl]
      simp only
      obtain ⟨x6, e5, r5, l5, _⟩ := sl_lo (lo := (tsz c : Int)) (by omega) (by unfold B63; omega) hr (by omega) (by rw [hr.len]; simp; omega)
      rw [e5, bindO_some]
      have hr6 : RdB h x6 (t.drop (tsz c - 1)) := by
        obtain ⟨m, hm⟩ : ∃ m, tsz c = m + 1 := ⟨tsz c - 1, by omega⟩
        simp only [vB, Int.toNat_natCast, Nat.mul_one, List.map_cons, hm, List.drop_succ_cons] at r5
        unfold RdB vB
        rw [hm, List.map_drop]; exact r5
      obtain ⟨s', h', e6, x6', b6, _, _⟩ := clone_f w hr6 (by simp at hl ⊢; omega)
      rw [e6, bind2_some]
      exact ⟨s', h', rfl, x6', b6.rd⟩
/-! numbers that may be -/
def numV (n : Int) : Int :=
  if n % 9 = 0 then 64 + (IntKind.wrap .i64 (n.tdiv 9) % 3 - 1) else if n % 9 = 1 then 16384 + (IntKind.wrap .i64 (n.tdiv 9) % 3 - 1) else if n % 9 = 2 then 1073741824 + (IntKind.wrap .i64 (n.tdiv 9) % 3 - 1)
  else if n % 9 = 3 then 4611686018427387903 + (IntKind.wrap .i64 (n.tdiv 9) % 3 - 1) else if n % 9 = 4 then n else IntKind.wrap .i64 (n.tdiv 9) % 500
def mayV (n : Int) : Int := if okN (numV n) then numV n else n % 1048576
theorem mayV_ok (n : Int) : okN (mayV n) := by
  unfold mayV
  split
  · assumption
  · have h3 := Int.emod_nonneg n (show (1048576 : Int) ≠ 0 by omega)
    have h3' := Int.emod_lt_of_pos n (show (0 : Int) < 1048576 by omega)
    unfold okN; omega
/-! the chapter's example -/
theorem bs_eq (a b : List UInt8) : ((bsOf a).toList == (bsOf b).toList) = decide (a = b) := by
  rw [ByteArray.toList_eq, ByteArray.toList_eq, bsOf_toList, bsOf_toList]
  by_cases e : a = b
  · simp [e]
  · simp [e]
end Go.Proofs.Ytaebjajbogedkaa.T
