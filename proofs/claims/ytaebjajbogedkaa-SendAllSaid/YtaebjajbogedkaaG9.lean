/- Lemmas about the typed texts (joined: SSeal1 SSeal2 SSeal3). -/
import Derived.Test.YtaebjajbogedkaaG8
import Derived.Test.YtaebjajbogedkaaG3
/- Chapter 4's functions over the typed texts: steps, tags. -/
set_option linter.unusedVariables false
set_option linter.unusedSimpArgs false
namespace Go.Proofs.Ytaebjajbogedkaa.T
open Go Go.Abs Go.Proofs
/-- a step, on words of 64 bits -/
def stepB (h c : BitVec 64) : BitVec 64 := ((h <<< 13 ||| h >>> 51) ^^^ c) * 15485907386658061715#64
def stepV (h c : Int) : Int := ((stepB (BitVec.ofInt 64 h) (BitVec.ofInt 64 c)).toNat : Int)
theorem k13 : IntKind.wrap .u64 ((BitVec.toNat ((BitVec.ofInt 64 (IntKind.wrap .u64 13)) &&& (BitVec.ofInt 64 63)) : Nat) : Int) = 13 := by decide +kernel
theorem k51 : IntKind.wrap .u64 (64 - 13) = 51 := by decide +kernel
theorem shl13 (n : Int) : shlT .u64 n .u64 13 = some (IntKind.wrap .u64 (n * 2 ^ 13)) := by
  rw [shlT_ok _ _ _ (by omega), show min (13 : Int).toNat IntKind.u64.bits = 13 by decide]
theorem shr51 (n : Int) : shrT .u64 n .u64 51 = some (n / 2 ^ 51) := by
  rw [shrT_ok _ _ _ (by omega), show min (51 : Int).toNat IntKind.u64.bits = 51 by decide, fdiv_pos _ (by decide)]
theorem bv13 (n : Nat) : BitVec.ofInt 64 (IntKind.wrap .u64 ((n : Int) * 2 ^ 13)) = BitVec.ofInt 64 (n : Int) <<< 13 := by
  apply BitVec.eq_of_toNat_eq
  rw [wu64_mod]
  simp only [BitVec.toNat_shiftLeft, BitVec.ofInt_natCast, BitVec.toNat_ofNat, BitVec.toNat_ofInt, Nat.shiftLeft_eq]
  omega
theorem bv51 (n : Nat) (h : n < 18446744073709551616) : BitVec.ofInt 64 ((n : Int) / 2 ^ 51) = BitVec.ofInt 64 (n : Int) >>> 51 := by
  apply BitVec.eq_of_toNat_eq
  simp only [BitVec.toNat_ushiftRight, BitVec.ofInt_natCast, BitVec.toNat_ofNat, BitVec.toNat_ofInt, Nat.shiftRight_eq_div_pow]
  omega
theorem wbv (z : BitVec 64) : IntKind.wrap .u64 ((z.toNat : Nat) : Int) = (z.toNat : Int) := by
  have hz := z.isLt
  exact wu64 (by omega) (by omega)
theorem stepV_rng (x c : Int) : 0 ≤ stepV x c ∧ stepV x c < 18446744073709551616 := by
  unfold stepV
  have := (stepB (BitVec.ofInt 64 x) (BitVec.ofInt 64 c)).isLt
  omega
theorem wrap_ofInt (c : Int) : BitVec.ofInt 64 (IntKind.wrap .u64 c) = BitVec.ofInt 64 c := by
  rw [wu64_mod]
  apply BitVec.eq_of_toNat_eq
  simp only [BitVec.toNat_ofInt]
  omega
theorem stepV_wrap (x c : Int) : stepV x (IntKind.wrap .u64 c) = stepV x c := by unfold stepV; rw [wrap_ofInt]
end Go.Proofs.Ytaebjajbogedkaa.T
/- Chapter 4's functions over the typed texts: a tag of parts, a mask, a tag's bytes. -/
set_option linter.unusedVariables false
set_option linter.unusedSimpArgs false
namespace Go.Abs
open Go
/-- slices of slices -/
def RdS (h : H) (s : Sl) (xs : List Sl) : Prop := Rd 1 h s (xs.map encSl)
theorem RdS.len {h : H} {s : Sl} {xs : List Sl} (r : RdS h s xs) : s.len = xs.length := by
  have := Rd.len r; simpa using this.symm
theorem RdS.ex {h h' : H} {s : Sl} {xs : List Sl} (x : EX h h') (r : RdS h s xs) : RdS h' s xs := Rd.ex x r
theorem RdS.at {h : H} {s : Sl} {xs : List Sl} (r : RdS h s xs) {i : Nat} {x : Sl} (hi : xs[i]? = some x) : ∃ a, ixT 1 s (i : Int) = some (add a i) ∧ ldL h (add a i) = some x := by
  have hlt := (List.getElem?_eq_some_iff.1 hi).1
  obtain ⟨a, ha, he⟩ := ixT_ok r (i := (i : Int)) (by omega) (by rw [r.len]; omega)
  refine ⟨a, by simpa using he, ldL_of (Rd.ld r a ha i _ ?_).2⟩
  simp [hi]
/-- each of them reads as its bytes -/
def RdBs (h : H) : List Sl → List (List UInt8) → Prop
  | [], [] => True
  | x :: xs, l :: ls => (RdB h x l ∧ l.length ≤ 2 ^ 47) ∧ RdBs h xs ls
  | _, _ => False
theorem RdBs.ex {h h' : H} (x : EX h h') : ∀ {xs : List Sl} {ls : List (List UInt8)}, RdBs h xs ls → RdBs h' xs ls
  | [], [], _ => trivial
  | _ :: _, _ :: _, ⟨⟨a, b⟩, c⟩ => ⟨⟨a.ex x, b⟩, RdBs.ex x c⟩
  | [], _ :: _, h => h.elim
  | _ :: _, [], h => h.elim
end Go.Abs
namespace Go.Proofs.Ytaebjajbogedkaa.T
open Go Go.Abs Go.Proofs
def bytesTag (key : Int) (l : List UInt8) : Int := l.foldl (fun k c => stepV k (c.toNat : Int)) key
def partTag (key : Int) (l : List UInt8) : Int := stepV (bytesTag key l) (256 + l.length)
def tagV (key : Int) (ls : List (List UInt8)) : Int := ls.foldl partTag key
def U64 (x : Int) : Prop := 0 ≤ x ∧ x < 18446744073709551616
theorem bytesTag_rng : ∀ (l : List UInt8) (key : Int), U64 key → U64 (bytesTag key l)
  | [], key, h => h
  | c :: l, key, h => bytesTag_rng l _ (stepV_rng key c.toNat)
theorem tagV_rng : ∀ (ls : List (List UInt8)) (key : Int), U64 key → U64 (tagV key ls)
  | [], key, h => h
  | l :: ls, key, h => tagV_rng ls _ (stepV_rng _ _)
theorem RdBs.get {h : H} : ∀ {xs : List Sl} {ls : List (List UInt8)} (i : Nat), RdBs h xs ls → i < xs.length → ∃ x l, xs[i]? = some x ∧ ls.drop i = l :: ls.drop (i + 1) ∧ RdB h x l ∧ l.length ≤ 2 ^ 47
  | x :: xs, l :: ls, 0, ⟨⟨a, b⟩, c⟩, _ => ⟨x, l, rfl, rfl, a, b⟩
  | x :: xs, l :: ls, i + 1, ⟨_, c⟩, hi => by
    obtain ⟨y, m, h1, h2, h3⟩ := RdBs.get i c (by simpa using hi)
    exact ⟨y, m, by simpa using h1, by simpa using h2, h3⟩
  | [], [], i, _, hi => by simp at hi
theorem RdBs.length {h : H} : ∀ {xs : List Sl} {ls : List (List UInt8)}, RdBs h xs ls → ls.length = xs.length
  | [], [], _ => rfl
  | _ :: _, _ :: _, ⟨_, c⟩ => by simp [RdBs.length c]
  | [], _ :: _, h => h.elim
  | _ :: _, [], h => h.elim
/-! a mask -/
def mk (h0 : Int) : Nat → List UInt8 → List UInt8
  | _, [] => []
  | i, b :: t => (b ^^^ UInt8.ofNat ((stepV h0 (i : Int)).toNat / 4294967296)) :: mk h0 (i + 1) t
theorem mk_length (h0 : Int) : ∀ (l : List UInt8) (i : Nat), (mk h0 i l).length = l.length
  | [], _ => rfl
  | b :: t, i => by simp [mk, mk_length h0 t]
theorem mk_append (h0 : Int) : ∀ (a b : List UInt8) (i : Nat), mk h0 i (a ++ b) = mk h0 i a ++ mk h0 (i + a.length) b
  | [], b, i => rfl
  | x :: a, b, i => by simp [mk, mk_append h0 a b]; rw [show i + 1 + a.length = i + (a.length + 1) by omega]
theorem xor8 (a b : UInt8) : IntKind.wrap .u8 ((BitVec.toNat ((BitVec.ofInt 8 (a.toNat : Int)) ^^^ (BitVec.ofInt 8 (b.toNat : Int))) : Nat) : Int) = ((a ^^^ b).toNat : Int) := by
  have e : ∀ c : UInt8, BitVec.ofInt 8 (c.toNat : Int) = c.toBitVec := by
    intro c
    apply BitVec.eq_of_toNat_eq
    simp
  rw [e, e, wu8_mod]
  have : ((a ^^^ b).toNat) = (a.toBitVec ^^^ b.toBitVec).toNat := rfl
  rw [← this]
  have h := (a ^^^ b).toNat_lt
  omega
theorem upper8 (x : Int) (hx : U64 x) : IntKind.wrap .u8 (Int.fdiv x 4294967296) = ((UInt8.ofNat (x.toNat / 4294967296)).toNat : Int) := by
  unfold U64 at hx
  rw [wu8_mod, fdiv_pos _ (by omega), UInt8.toNat_ofNat']
  omega
end Go.Proofs.Ytaebjajbogedkaa.T
/- Chapter 4's functions over the typed texts: a tag's bytes; Grow, Concat, Equal; closing and opening. -/
set_option linter.unusedVariables false
set_option linter.unusedSimpArgs false
namespace Go.Abs
open Go
theorem DSI_e (e : TypeId) (j : TyI) : (DSI e j).ty.get e = some j := by
  unfold DSI; rw [Tr.get_set, if_neg (by omega), Tr.get_set, if_neg (by omega), Tr.get_set, if_pos rfl]
theorem DSI_s (e : TypeId) (j : TyI) : (DSI e j).ty.get (e + 1) = some ⟨1, 24, .slice none 0 0, .slice e, false⟩ := by
  unfold DSI; rw [Tr.get_set, if_neg (by omega), Tr.get_set, if_pos rfl]
theorem DSI_t (e : TypeId) (j : TyI) : (DSI e j).ty.get (e + 2) = some ⟨1, 8, .int .i64 0, .int .i64, false⟩ := by
  unfold DSI; rw [Tr.get_set, if_pos rfl]
theorem zeros8 (k : Nat) : zeros (.int .u8 0) k = vB (List.replicate k 0) := by
  unfold zeros vB
  have : (Value.int .u8 0).cells.toList = [Value.int .u8 0] := rfl
  rw [this, List.map_replicate]
  induction k with
  | zero => rfl
  | succ k ih => rw [List.replicate_succ, List.flatten_cons, ih, List.replicate_succ]; rfl
/-- so many zeros behind nothing -/
theorem appNT_nil {e : Nat} {h : H} {n : Nat} (hn : 0 < n) (hb : n ≤ 2 ^ 47) : appNT e 1 1 (.int .u8 0) h ⟨none, 0, 0⟩ (n : Int) = some (⟨some ⟨h.size, 0, some 0⟩, n, UNK 1⟩, newAt (grow h 1) h.size (row e (vB (List.replicate n 0)))) := by
  have key : appA (DSI e (tyS 1 1 (.int .u8 0))) h #[e + 1, e + 2] (encSl ⟨none, 0, 0⟩) (.int .i64 (n : Int)) = some (.new (row e (vB (List.replicate n 0))) fun A => .slice (some ⟨A, 0, some 0⟩) n (UNK 1)) := by
    unfold appA
    rw [show (#[e + 1, e + 2] : Array TypeId)[0]? = some (e + 1) from rfl, show (#[e + 1, e + 2] : Array TypeId)[1]? = some (e + 2) from rfl]
    have he : elemOf (DSI e (tyS 1 1 (.int .u8 0))) (e + 1) = some (e, tyS 1 1 (.int .u8 0)) := by
      unfold elemOf; rw [DSI_s]; simp [DSI_e]
    simp only [he, DSI_t]
    have c : (decide ((0 : Int) ≤ (n : Int)) && decide ((n : Int) < 2 ^ 62) && decide ((n : Int) * ((tyS 1 1 (.int .u8 0)).bytes : Nat) ≤ 2 ^ 47) && (tyS 1 1 (.int .u8 0)).zero.cells.toList.all oneC) = true := by
      have e1 : (n : Int) * ((tyS 1 1 (.int .u8 0)).bytes : Nat) ≤ 2 ^ 47 := by
        show (n : Int) * ((1 : Nat) : Int) ≤ 2 ^ 47
        omega
      rw [decide_eq_true (show (0 : Int) ≤ (n : Int) by omega), decide_eq_true (show (n : Int) < 2 ^ 62 by omega), decide_eq_true e1]; rfl
    simp only [c, cond_true, Int.toNat_natCast]
    unfold appR encSl
    have hbb : (((0 + n) * (tyS 1 1 (.int .u8 0)).bytes).ble (2 ^ 47) && (0 + n).ble (2 ^ 62)) = true := by
      simp only [Bool.and_eq_true, Nat.ble_eq, tyS]; omega
    simp only [nbeq_f (show ¬ n = 0 by omega), cond_false, hbb, Bool.not_true, show Nat.beq 0 0 = true from rfl, Bool.and_self, cond_true]
    rw [show (tyS 1 1 (.int .u8 0)).zero = .int .u8 0 from rfl, zeros8]
    rfl
  unfold appNT
  rw [key]; rfl
theorem capT_nil : capT ⟨none, 0, 0⟩ = some 0 := rfl
end Go.Abs
namespace Go.Proofs.Ytaebjajbogedkaa.T
open Go Go.Abs Go.Proofs
def cat : List (List UInt8) → List UInt8
  | [] => []
  | l :: ls => l ++ cat ls
end Go.Proofs.Ytaebjajbogedkaa.T
