/- Lemmas about the typed texts (joined: LVarNone SSeal1 SSeal2). -/
import Derived.Test.YtlikepnpamejmaaGreatG10
import Derived.Test.YtlikepnpamejmaaGreatG2
import Derived.Test.YtlikepnpamejmaaGreatG3
/- The law VarintNone over the typed text. -/
set_option linter.unusedVariables false
set_option linter.unusedSimpArgs false
namespace Go.Proofs.YtlikepnpamejmaaGreat.T
open Go Go.Abs Go.Proofs
theorem tks_more : ∀ (ns : List Int) (j : Nat), (∀ x ∈ ns, okN x) → tks (ns.length + (j + 1)) (encs ns) = none
  | [], j, _ => by
    rw [show ([] : List Int).length + (j + 1) = j + 1 by simp]
    rfl
  | x :: ns, j, h => by
    have hx := tk_enc (h x (List.mem_cons_self ..)) (encs ns)
    have ih := tks_more ns j (fun y hy => h y (List.mem_cons_of_mem _ hy))
    rw [show (x :: ns).length + (j + 1) = (ns.length + (j + 1)) + 1 by simp; omega]
    show (if _ then _ else _) = _
    rw [show encs (x :: ns) = enc x ++ encs ns from rfl, hx, if_pos rfl, ih]; rfl
theorem szs_bad : ∀ (ns : List Int), (∃ x ∈ ns, ¬ okN x) → szs ns = none
  | [], ⟨x, hx, _⟩ => by simp at hx
  | y :: ns, ⟨x, hx, hn⟩ => by
    unfold szs
    by_cases hy : okN y
    · rw [if_pos hy]
      rw [List.mem_cons] at hx
      rcases hx with rfl | hx
      · exact absurd hy hn
      · rw [szs_bad ns ⟨x, hx, hn⟩]; rfl
    · rw [if_neg hy]
end Go.Proofs.YtlikepnpamejmaaGreat.T
/- Chapter 4's functions over the typed texts: steps, tags. -/
set_option linter.unusedVariables false
set_option linter.unusedSimpArgs false
namespace Go.Proofs.YtlikepnpamejmaaGreat.T
open Go Go.Abs Go.Proofs
/-- a step, on words of 64 bits -/
def stepB (h c : BitVec 64) : BitVec 64 := ((h <<< 13 ||| h >>> 51) ^^^ c) * 15485907386658061715#64
def stepV (h c : Int) : Int := ((stepB (BitVec.ofInt 64 h) (BitVec.ofInt 64 c)).toNat : Int)
theorem k13 : IntKind.wrap .u64 ((BitVec.toNat ((BitVec.ofInt 64 (IntKind.wrap .u64 13)) &&& (BitVec.ofInt 64 63)) : Nat) : Int) = 13 := by decide +kernel
theorem k51 : IntKind.wrap .u64 (64 - 13) = 51 := by decide +kernel
theorem shl13 (n : Int) : shlT .u64 n .u64 13 = some (IntKind.wrap .u64 (n * 2 ^ 13)) := by
  rw [shlT_ok _ _ _ (by omega), show min (13 : Int).toNat IntKind.u64.bits = 13 by decide]
theorem shr51 (n : Int) : shrT .u64 n .u64 51 = some (n / 2 ^ 51) := by
  rw [shrT_ok _ _ _ (by omega), show min (51 : Int).toNat IntKind.u64.bits = 51 by decide, fdiv_pos _ (by decide)]
theorem bv13 (n : Nat) : BitVec.ofInt 64 (IntKind.wrap .u64 ((n : Int) * 2 ^ 13)) = BitVec.ofInt 64 (n : Int) <<< 13 := by
  apply BitVec.eq_of_toNat_eq
  rw [wu64_mod]
  simp only [BitVec.toNat_shiftLeft, BitVec.ofInt_natCast, BitVec.toNat_ofNat, BitVec.toNat_ofInt, Nat.shiftLeft_eq]
  omega
theorem bv51 (n : Nat) (h : n < 18446744073709551616) : BitVec.ofInt 64 ((n : Int) / 2 ^ 51) = BitVec.ofInt 64 (n : Int) >>> 51 := by
  apply BitVec.eq_of_toNat_eq
  simp only [BitVec.toNat_ushiftRight, BitVec.ofInt_natCast, BitVec.toNat_ofNat, BitVec.toNat_ofInt, Nat.shiftRight_eq_div_pow]
  omega
theorem wbv (z : BitVec 64) : IntKind.wrap .u64 ((z.toNat : Nat) : Int) = (z.toNat : Int) := by
  have hz := z.isLt
  exact wu64 (by omega) (by omega)
theorem rot_f (x : Int) (h0 : 0 ≤ x) (h1 : x < 18446744073709551616) (h : H) : math_bits_RotateLeft64 x 13 h = some (((BitVec.ofInt 64 x <<< 13 ||| BitVec.ofInt 64 x >>> 51).toNat : Int), h) := by
  obtain ⟨n, rfl⟩ : ∃ n : Nat, x = n := ⟨x.toNat, (Int.toNat_of_nonneg h0).symm⟩
  rw [← bv13, ← bv51 n (by omega)]
  unfold math_bits_RotateLeft64
  rw [k13]
  simp only [letO_eq, shl13, bindO_some, k51, shr51, wbv]
theorem Step_f (x c : Int) (h0 : 0 ≤ x) (h1 : x < 18446744073709551616) (h : H) : seal_Step x c h = some (stepV x c, h) := by
  unfold seal_Step P.seal_Step
  rw [rot_f x h0 h1, bind2_some]
  simp only [letO_eq]
  have e : ∀ y : BitVec 64, BitVec.ofInt 64 ((y.toNat : Nat) : Int) = y := by
    intro y
    apply BitVec.eq_of_toNat_eq
    rw [BitVec.ofInt_natCast, BitVec.toNat_ofNat]
    exact Nat.mod_eq_of_lt y.isLt
  rw [e]
  unfold stepV stepB
  generalize (BitVec.ofInt 64 x <<< 13 ||| BitVec.ofInt 64 x >>> 51) ^^^ BitVec.ofInt 64 c = z
  have hz := z.isLt
  rw [wu64 (n := (z.toNat : Int)) (by omega) (by omega), wu64_mod]
  have hm : (z * 15485907386658061715#64).toNat = z.toNat * 15485907386658061715 % 2 ^ 64 := by
    rw [BitVec.toNat_mul]; rfl
  rw [hm]
  congr 2
theorem stepV_rng (x c : Int) : 0 ≤ stepV x c ∧ stepV x c < 18446744073709551616 := by
  unfold stepV
  have := (stepB (BitVec.ofInt 64 x) (BitVec.ofInt 64 c)).isLt
  omega
theorem wrap_ofInt (c : Int) : BitVec.ofInt 64 (IntKind.wrap .u64 c) = BitVec.ofInt 64 c := by
  rw [wu64_mod]
  apply BitVec.eq_of_toNat_eq
  simp only [BitVec.toNat_ofInt]
  omega
theorem stepV_wrap (x c : Int) : stepV x (IntKind.wrap .u64 c) = stepV x c := by unfold stepV; rw [wrap_ofInt]
end Go.Proofs.YtlikepnpamejmaaGreat.T
/- Chapter 4's functions over the typed texts: a tag of parts, a mask, a tag's bytes. -/
set_option linter.unusedVariables false
set_option linter.unusedSimpArgs false
namespace Go.Abs
open Go
/-- slices of slices -/
def RdS (h : H) (s : Sl) (xs : List Sl) : Prop := Rd 1 h s (xs.map encSl)
theorem RdS.len {h : H} {s : Sl} {xs : List Sl} (r : RdS h s xs) : s.len = xs.length := by
  have := Rd.len r; simpa using this.symm
theorem RdS.ex {h h' : H} {s : Sl} {xs : List Sl} (x : EX h h') (r : RdS h s xs) : RdS h' s xs := Rd.ex x r
theorem RdS.at {h : H} {s : Sl} {xs : List Sl} (r : RdS h s xs) {i : Nat} {x : Sl} (hi : xs[i]? = some x) : ∃ a, ixT 1 s (i : Int) = some (add a i) ∧ ldL h (add a i) = some x := by
  have hlt := (List.getElem?_eq_some_iff.1 hi).1
  obtain ⟨a, ha, he⟩ := ixT_ok r (i := (i : Int)) (by omega) (by rw [r.len]; omega)
  refine ⟨a, by simpa using he, ldL_of (Rd.ld r a ha i _ ?_).2⟩
  simp [hi]
/-- each of them reads as its bytes -/
def RdBs (h : H) : List Sl → List (List UInt8) → Prop
  | [], [] => True
  | x :: xs, l :: ls => (RdB h x l ∧ l.length ≤ 2 ^ 47) ∧ RdBs h xs ls
  | _, _ => False
theorem RdBs.ex {h h' : H} (x : EX h h') : ∀ {xs : List Sl} {ls : List (List UInt8)}, RdBs h xs ls → RdBs h' xs ls
  | [], [], _ => trivial
  | _ :: _, _ :: _, ⟨⟨a, b⟩, c⟩ => ⟨⟨a.ex x, b⟩, RdBs.ex x c⟩
  | [], _ :: _, h => h.elim
  | _ :: _, [], h => h.elim
end Go.Abs
namespace Go.Proofs.YtlikepnpamejmaaGreat.T
open Go Go.Abs Go.Proofs
def bytesTag (key : Int) (l : List UInt8) : Int := l.foldl (fun k c => stepV k (c.toNat : Int)) key
def partTag (key : Int) (l : List UInt8) : Int := stepV (bytesTag key l) (256 + l.length)
def tagV (key : Int) (ls : List (List UInt8)) : Int := ls.foldl partTag key
def U64 (x : Int) : Prop := 0 ≤ x ∧ x < 18446744073709551616
theorem bytesTag_rng : ∀ (l : List UInt8) (key : Int), U64 key → U64 (bytesTag key l)
  | [], key, h => h
  | c :: l, key, h => bytesTag_rng l _ (stepV_rng key c.toNat)
theorem tagV_rng : ∀ (ls : List (List UInt8)) (key : Int), U64 key → U64 (tagV key ls)
  | [], key, h => h
  | l :: ls, key, h => tagV_rng ls _ (stepV_rng _ _)
theorem RdBs.get {h : H} : ∀ {xs : List Sl} {ls : List (List UInt8)} (i : Nat), RdBs h xs ls → i < xs.length → ∃ x l, xs[i]? = some x ∧ ls.drop i = l :: ls.drop (i + 1) ∧ RdB h x l ∧ l.length ≤ 2 ^ 47
  | x :: xs, l :: ls, 0, ⟨⟨a, b⟩, c⟩, _ => ⟨x, l, rfl, rfl, a, b⟩
  | x :: xs, l :: ls, i + 1, ⟨_, c⟩, hi => by
    obtain ⟨y, m, h1, h2, h3⟩ := RdBs.get i c (by simpa using hi)
    exact ⟨y, m, by simpa using h1, by simpa using h2, h3⟩
  | [], [], i, _, hi => by simp at hi
theorem RdBs.length {h : H} : ∀ {xs : List Sl} {ls : List (List UInt8)}, RdBs h xs ls → ls.length = xs.length
  | [], [], _ => rfl
  | _ :: _, _ :: _, ⟨_, c⟩ => by simp [RdBs.length c]
  | [], _ :: _, h => h.elim
  | _ :: _, [], h => h.elim
/-! a mask -/
def mk (h0 : Int) : Nat → List UInt8 → List UInt8
  | _, [] => []
  | i, b :: t => (b ^^^ UInt8.ofNat ((stepV h0 (i : Int)).toNat / 4294967296)) :: mk h0 (i + 1) t
theorem mk_length (h0 : Int) : ∀ (l : List UInt8) (i : Nat), (mk h0 i l).length = l.length
  | [], _ => rfl
  | b :: t, i => by simp [mk, mk_length h0 t]
theorem mk_append (h0 : Int) : ∀ (a b : List UInt8) (i : Nat), mk h0 i (a ++ b) = mk h0 i a ++ mk h0 (i + a.length) b
  | [], b, i => rfl
  | x :: a, b, i => by simp [mk, mk_append h0 a b]; rw [show i + 1 + a.length = i + (a.length + 1) by omega]
theorem xor8 (a b : UInt8) : IntKind.wrap .u8 ((BitVec.toNat ((BitVec.ofInt 8 (a.toNat : Int)) ^^^ (BitVec.ofInt 8 (b.toNat : Int))) : Nat) : Int) = ((a ^^^ b).toNat : Int) := by
  have e : ∀ c : UInt8, BitVec.ofInt 8 (c.toNat : Int) = c.toBitVec := by
    intro c
    apply BitVec.eq_of_toNat_eq
    simp
  rw [e, e, wu8_mod]
  have : ((a ^^^ b).toNat) = (a.toBitVec ^^^ b.toBitVec).toNat := rfl
  rw [← this]
  have h := (a ^^^ b).toNat_lt
  omega
theorem upper8 (x : Int) (hx : U64 x) : IntKind.wrap .u8 (Int.fdiv x 4294967296) = ((UInt8.ofNat (x.toNat / 4294967296)).toNat : Int) := by
  unfold U64 at hx
  rw [wu8_mod, fdiv_pos _ (by omega), UInt8.toNat_ofNat']
  omega
end Go.Proofs.YtlikepnpamejmaaGreat.T
