/- Chapter 4's functions over the typed texts: a tag of parts, a mask, a tag's bytes. -/
import Derived.Test.YthiccnmplgdheaaSSeal1
set_option linter.unusedVariables false
set_option linter.unusedSimpArgs false
namespace Go.Abs
open Go
/-- slices of slices -/
def RdS (h : H) (s : Sl) (xs : List Sl) : Prop := Rd 1 h s (xs.map encSl)
theorem RdS.len {h : H} {s : Sl} {xs : List Sl} (r : RdS h s xs) : s.len = xs.length := by
  have := Rd.len r; simpa using this.symm
theorem RdS.ex {h h' : H} {s : Sl} {xs : List Sl} (x : EX h h') (r : RdS h s xs) : RdS h' s xs := Rd.ex x r
theorem RdS.at {h : H} {s : Sl} {xs : List Sl} (r : RdS h s xs) {i : Nat} {x : Sl} (hi : xs[i]? = some x) : ∃ a, ixT 1 s (i : Int) = some (add a i) ∧ ldL h (add a i) = some x := by
  have hlt := (List.getElem?_eq_some_iff.1 hi).1
  obtain ⟨a, ha, he⟩ := ixT_ok r (i := (i : Int)) (by omega) (by rw [r.len]; omega)
  refine ⟨a, by simpa using he, ldL_of (Rd.ld r a ha i _ ?_).2⟩
  simp [hi]
/-- each of them reads as its bytes -/
def RdBs (h : H) : List Sl → List (List UInt8) → Prop
  | [], [] => True
  | x :: xs, l :: ls => (RdB h x l ∧ l.length ≤ 2 ^ 47) ∧ RdBs h xs ls
  | _, _ => False
theorem RdBs.ex {h h' : H} (x : EX h h') : ∀ {xs : List Sl} {ls : List (List UInt8)}, RdBs h xs ls → RdBs h' xs ls
  | [], [], _ => trivial
  | _ :: _, _ :: _, ⟨⟨a, b⟩, c⟩ => ⟨⟨a.ex x, b⟩, RdBs.ex x c⟩
  | [], _ :: _, h => h.elim
  | _ :: _, [], h => h.elim
end Go.Abs
namespace Go.Proofs.Ythiccnmplgdheaa.T
open Go Go.Abs Go.Proofs
def bytesTag (key : Int) (l : List UInt8) : Int := l.foldl (fun k c => stepV k (c.toNat : Int)) key
def partTag (key : Int) (l : List UInt8) : Int := stepV (bytesTag key l) (256 + l.length)
def tagV (key : Int) (ls : List (List UInt8)) : Int := ls.foldl partTag key
def U64 (x : Int) : Prop := 0 ≤ x ∧ x < 18446744073709551616
theorem bytesTag_rng : ∀ (l : List UInt8) (key : Int), U64 key → U64 (bytesTag key l)
  | [], key, h => h
  | c :: l, key, h => bytesTag_rng l _ (stepV_rng key c.toNat)
theorem tagV_rng : ∀ (ls : List (List UInt8)) (key : Int), U64 key → U64 (tagV key ls)
  | [], key, h => h
  | l :: ls, key, h => tagV_rng ls _ (stepV_rng _ _)
theorem RdBs.get {h : H} : ∀ {xs : List Sl} {ls : List (List UInt8)} (i : Nat), RdBs h xs ls → i < xs.length → ∃ x l, xs[i]? = some x ∧ ls.drop i = l :: ls.drop (i + 1) ∧ RdB h x l ∧ l.length ≤ 2 ^ 47
  | x :: xs, l :: ls, 0, ⟨⟨a, b⟩, c⟩, _ => ⟨x, l, rfl, rfl, a, b⟩
  | x :: xs, l :: ls, i + 1, ⟨_, c⟩, hi => by
    obtain ⟨y, m, h1, h2, h3⟩ := RdBs.get i c (by simpa using hi)
    exact ⟨y, m, by simpa using h1, by simpa using h2, h3⟩
  | [], [], i, _, hi => by simp at hi
theorem RdBs.length {h : H} : ∀ {xs : List Sl} {ls : List (List UInt8)}, RdBs h xs ls → ls.length = xs.length
  | [], [], _ => rfl
  | _ :: _, _ :: _, ⟨_, c⟩ => by simp [RdBs.length c]
  | [], _ :: _, h => h.elim
  | _ :: _, [], h => h.elim
/-! a mask -/
def mk (h0 : Int) : Nat → List UInt8 → List UInt8
  | _, [] => []
  | i, b :: t => (b ^^^ UInt8.ofNat ((stepV h0 (i : Int)).toNat / 4294967296)) :: mk h0 (i + 1) t
theorem mk_length (h0 : Int) : ∀ (l : List UInt8) (i : Nat), (mk h0 i l).length = l.length
  | [], _ => rfl
  | b :: t, i => by simp [mk, mk_length h0 t]
theorem mk_append (h0 : Int) : ∀ (a b : List UInt8) (i : Nat), mk h0 i (a ++ b) = mk h0 i a ++ mk h0 (i + a.length) b
  | [], b, i => rfl
  | x :: a, b, i => by simp [mk, mk_append h0 a b]; rw [show i + 1 + a.length = i + (a.length + 1) by omega]
theorem xor8 (a b : UInt8) : IntKind.wrap .u8 ((BitVec.toNat ((BitVec.ofInt 8 (a.toNat : Int)) ^^^ (BitVec.ofInt 8 (b.toNat : Int))) : Nat) : Int) = ((a ^^^ b).toNat : Int) := by
  have e : ∀ c : UInt8, BitVec.ofInt 8 (c.toNat : Int) = c.toBitVec := by
    intro c
    apply BitVec.eq_of_toNat_eq
    simp
  rw [e, e, wu8_mod]
  have : ((a ^^^ b).toNat) = (a.toBitVec ^^^ b.toBitVec).toNat := rfl
  rw [← this]
  have h := (a ^^^ b).toNat_lt
  omega
theorem upper8 (x : Int) (hx : U64 x) : IntKind.wrap .u8 (Int.fdiv x 4294967296) = ((UInt8.ofNat (x.toNat / 4294967296)).toNat : Int) := by
  unfold U64 at hx
  rw [wu8_mod, fdiv_pos _ (by omega), UInt8.toNat_ofNat']
  omega
end Go.Proofs.Ythiccnmplgdheaa.T
