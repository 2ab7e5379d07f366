/- Lemmas about the typed texts (joined: SSeal2 SSeal3 SSeal4). -/
import Derived.Test.YthiccnmplgdheaaG8
/- Chapter 4's functions over the typed texts: a tag of parts, a mask, a tag's bytes. -/
set_option linter.unusedVariables false
set_option linter.unusedSimpArgs false
namespace Go.Abs
open Go
/-- slices of slices -/
def RdS (h : H) (s : Sl) (xs : List Sl) : Prop := Rd 1 h s (xs.map encSl)
theorem RdS.len {h : H} {s : Sl} {xs : List Sl} (r : RdS h s xs) : s.len = xs.length := by
  have := Rd.len r; simpa using this.symm
theorem RdS.ex {h h' : H} {s : Sl} {xs : List Sl} (x : EX h h') (r : RdS h s xs) : RdS h' s xs := Rd.ex x r
theorem RdS.at {h : H} {s : Sl} {xs : List Sl} (r : RdS h s xs) {i : Nat} {x : Sl} (hi : xs[i]? = some x) : ∃ a, ixT 1 s (i : Int) = some (add a i) ∧ ldL h (add a i) = some x := by
  have hlt := (List.getElem?_eq_some_iff.1 hi).1
  obtain ⟨a, ha, he⟩ := ixT_ok r (i := (i : Int)) (by omega) (by rw [r.len]; omega)
  refine ⟨a, by simpa using he, ldL_of (Rd.ld r a ha i _ ?_).2⟩
  simp [hi]
/-- each of them reads as its bytes -/
def RdBs (h : H) : List Sl → List (List UInt8) → Prop
  | [], [] => True
  | x :: xs, l :: ls => (RdB h x l ∧ l.length ≤ 2 ^ 47) ∧ RdBs h xs ls
  | _, _ => False
theorem RdBs.ex {h h' : H} (x : EX h h') : ∀ {xs : List Sl} {ls : List (List UInt8)}, RdBs h xs ls → RdBs h' xs ls
  | [], [], _ => trivial
  | _ :: _, _ :: _, ⟨⟨a, b⟩, c⟩ => ⟨⟨a.ex x, b⟩, RdBs.ex x c⟩
  | [], _ :: _, h => h.elim
  | _ :: _, [], h => h.elim
end Go.Abs
namespace Go.Proofs.Ythiccnmplgdheaa.T
open Go Go.Abs Go.Proofs
def bytesTag (key : Int) (l : List UInt8) : Int := l.foldl (fun k c => stepV k (c.toNat : Int)) key
def partTag (key : Int) (l : List UInt8) : Int := stepV (bytesTag key l) (256 + l.length)
def tagV (key : Int) (ls : List (List UInt8)) : Int := ls.foldl partTag key
def U64 (x : Int) : Prop := 0 ≤ x ∧ x < 18446744073709551616
theorem bytesTag_rng : ∀ (l : List UInt8) (key : Int), U64 key → U64 (bytesTag key l)
  | [], key, h => h
  | c :: l, key, h => bytesTag_rng l _ (stepV_rng key c.toNat)
theorem tagV_rng : ∀ (ls : List (List UInt8)) (key : Int), U64 key → U64 (tagV key ls)
  | [], key, h => h
  | l :: ls, key, h => tagV_rng ls _ (stepV_rng _ _)
theorem RdBs.get {h : H} : ∀ {xs : List Sl} {ls : List (List UInt8)} (i : Nat), RdBs h xs ls → i < xs.length → ∃ x l, xs[i]? = some x ∧ ls.drop i = l :: ls.drop (i + 1) ∧ RdB h x l ∧ l.length ≤ 2 ^ 47
  | x :: xs, l :: ls, 0, ⟨⟨a, b⟩, c⟩, _ => ⟨x, l, rfl, rfl, a, b⟩
  | x :: xs, l :: ls, i + 1, ⟨_, c⟩, hi => by
    obtain ⟨y, m, h1, h2, h3⟩ := RdBs.get i c (by simpa using hi)
    exact ⟨y, m, by simpa using h1, by simpa using h2, h3⟩
  | [], [], i, _, hi => by simp at hi
theorem RdBs.length {h : H} : ∀ {xs : List Sl} {ls : List (List UInt8)}, RdBs h xs ls → ls.length = xs.length
  | [], [], _ => rfl
  | _ :: _, _ :: _, ⟨_, c⟩ => by simp [RdBs.length c]
  | [], _ :: _, h => h.elim
  | _ :: _, [], h => h.elim
/-! a mask -/
def mk (h0 : Int) : Nat → List UInt8 → List UInt8
  | _, [] => []
  | i, b :: t => (b ^^^ UInt8.ofNat ((stepV h0 (i : Int)).toNat / 4294967296)) :: mk h0 (i + 1) t
theorem mk_length (h0 : Int) : ∀ (l : List UInt8) (i : Nat), (mk h0 i l).length = l.length
  | [], _ => rfl
  | b :: t, i => by simp [mk, mk_length h0 t]
theorem mk_append (h0 : Int) : ∀ (a b : List UInt8) (i : Nat), mk h0 i (a ++ b) = mk h0 i a ++ mk h0 (i + a.length) b
  | [], b, i => rfl
  | x :: a, b, i => by simp [mk, mk_append h0 a b]; rw [show i + 1 + a.length = i + (a.length + 1) by omega]
theorem xor8 (a b : UInt8) : IntKind.wrap .u8 ((BitVec.toNat ((BitVec.ofInt 8 (a.toNat : Int)) ^^^ (BitVec.ofInt 8 (b.toNat : Int))) : Nat) : Int) = ((a ^^^ b).toNat : Int) := by
  have e : ∀ c : UInt8, BitVec.ofInt 8 (c.toNat : Int) = c.toBitVec := by
    intro c
    apply BitVec.eq_of_toNat_eq
    simp
  rw [e, e, wu8_mod]
  have : ((a ^^^ b).toNat) = (a.toBitVec ^^^ b.toBitVec).toNat := rfl
  rw [← this]
  have h := (a ^^^ b).toNat_lt
  omega
theorem upper8 (x : Int) (hx : U64 x) : IntKind.wrap .u8 (Int.fdiv x 4294967296) = ((UInt8.ofNat (x.toNat / 4294967296)).toNat : Int) := by
  unfold U64 at hx
  rw [wu8_mod, fdiv_pos _ (by omega), UInt8.toNat_ofNat']
  omega
end Go.Proofs.Ythiccnmplgdheaa.T
/- Chapter 4's functions over the typed texts: a tag's bytes; Grow, Concat, Equal; closing and opening. -/
set_option linter.unusedVariables false
set_option linter.unusedSimpArgs false
namespace Go.Abs
open Go
theorem DSI_e (e : TypeId) (j : TyI) : (DSI e j).ty.get e = some j := by
  unfold DSI; rw [Tr.get_set, if_neg (by omega), Tr.get_set, if_neg (by omega), Tr.get_set, if_pos rfl]
theorem DSI_s (e : TypeId) (j : TyI) : (DSI e j).ty.get (e + 1) = some ⟨1, 24, .slice none 0 0, .slice e, false⟩ := by
  unfold DSI; rw [Tr.get_set, if_neg (by omega), Tr.get_set, if_pos rfl]
theorem DSI_t (e : TypeId) (j : TyI) : (DSI e j).ty.get (e + 2) = some ⟨1, 8, .int .i64 0, .int .i64, false⟩ := by
  unfold DSI; rw [Tr.get_set, if_pos rfl]
theorem zeros8 (k : Nat) : zeros (.int .u8 0) k = vB (List.replicate k 0) := by
  unfold zeros vB
  have : (Value.int .u8 0).cells.toList = [Value.int .u8 0] := rfl
  rw [this, List.map_replicate]
  induction k with
  | zero => rfl
  | succ k ih => rw [List.replicate_succ, List.flatten_cons, ih, List.replicate_succ]; rfl
/-- so many zeros behind nothing -/
theorem appNT_nil {e : Nat} {h : H} {n : Nat} (hn : 0 < n) (hb : n ≤ 2 ^ 47) : appNT e 1 1 (.int .u8 0) h ⟨none, 0, 0⟩ (n : Int) = some (⟨some ⟨h.size, 0, some 0⟩, n, UNK 1⟩, newAt (grow h 1) h.size (row e (vB (List.replicate n 0)))) := by
  have key : appA (DSI e (tyS 1 1 (.int .u8 0))) h #[e + 1, e + 2] (encSl ⟨none, 0, 0⟩) (.int .i64 (n : Int)) = some (.new (row e (vB (List.replicate n 0))) fun A => .slice (some ⟨A, 0, some 0⟩) n (UNK 1)) := by
    unfold appA
    rw [show (#[e + 1, e + 2] : Array TypeId)[0]? = some (e + 1) from rfl, show (#[e + 1, e + 2] : Array TypeId)[1]? = some (e + 2) from rfl]
    have he : elemOf (DSI e (tyS 1 1 (.int .u8 0))) (e + 1) = some (e, tyS 1 1 (.int .u8 0)) := by
      unfold elemOf; rw [DSI_s]; simp [DSI_e]
    simp only [he, DSI_t]
    have c : (decide ((0 : Int) ≤ (n : Int)) && decide ((n : Int) < 2 ^ 62) && decide ((n : Int) * ((tyS 1 1 (.int .u8 0)).bytes : Nat) ≤ 2 ^ 47) && (tyS 1 1 (.int .u8 0)).zero.cells.toList.all oneC) = true := by
      have e1 : (n : Int) * ((tyS 1 1 (.int .u8 0)).bytes : Nat) ≤ 2 ^ 47 := by
        show (n : Int) * ((1 : Nat) : Int) ≤ 2 ^ 47
        omega
      rw [decide_eq_true (show (0 : Int) ≤ (n : Int) by omega), decide_eq_true (show (n : Int) < 2 ^ 62 by omega), decide_eq_true e1]; rfl
    simp only [c, cond_true, Int.toNat_natCast]
    unfold appR encSl
    have hbb : (((0 + n) * (tyS 1 1 (.int .u8 0)).bytes).ble (2 ^ 47) && (0 + n).ble (2 ^ 62)) = true := by
      simp only [Bool.and_eq_true, Nat.ble_eq, tyS]; omega
    simp only [nbeq_f (show ¬ n = 0 by omega), cond_false, hbb, Bool.not_true, show Nat.beq 0 0 = true from rfl, Bool.and_self, cond_true]
    rw [show (tyS 1 1 (.int .u8 0)).zero = .int .u8 0 from rfl, zeros8]
    rfl
  unfold appNT
  rw [key]; rfl
theorem capT_nil : capT ⟨none, 0, 0⟩ = some 0 := rfl
end Go.Abs
namespace Go.Proofs.Ythiccnmplgdheaa.T
open Go Go.Abs Go.Proofs
def cat : List (List UInt8) → List UInt8
  | [] => []
  | l :: ls => l ++ cat ls
end Go.Proofs.Ythiccnmplgdheaa.T
/- Chapter 4's functions over the typed texts: a tag's bytes, equality, closing and opening, the chapter's example. -/
set_option linter.unusedVariables false
set_option linter.unusedSimpArgs false
namespace Go.Proofs.Ythiccnmplgdheaa.T
open Go Go.Abs Go.Proofs
theorem byte_at64 {x : Int} (h0 : 0 ≤ x) (m : Nat) (hm : m < 8) : ∃ y, shrT .u64 x .i64 (8 * (m : Int)) = some y ∧ IntKind.wrap .u8 y = ((UInt8.ofNat (x.toNat / 256 ^ m)).toNat : Int) := by
  refine ⟨_, shrT_ok _ _ _ (by omega), ?_⟩
  have e1 : min (8 * (m : Int)).toNat IntKind.u64.bits = 8 * m := by
    have : IntKind.u64.bits = 64 := rfl
    omega
  rw [e1, wu8_mod]
  have e2 : (2 : Int) ^ (8 * m) = ((256 ^ m : Nat) : Int) := by
    rw [show (256 : Nat) = 2 ^ 8 from rfl, ← Nat.pow_mul, Int.natCast_pow]; rfl
  rw [e2, fdiv_pos _ (Int.natCast_nonneg _), UInt8.toNat_ofNat']
  obtain ⟨n, rfl⟩ : ∃ n : Nat, x = n := ⟨x.toNat, (Int.toNat_of_nonneg h0).symm⟩
  rw [Int.toNat_natCast, ← Int.natCast_ediv]
  exact (Int.natCast_emod _ 256).symm
def tagL (key num : Int) (head masked : List UInt8) : List UInt8 := be 8 (tagV (stepV key num) [head, masked]).toNat
theorem tagL_length (key num : Int) (head masked : List UInt8) : (tagL key num head masked).length = 8 := be_length _ _
/-- a new row of slices -/
theorem newS {h : H} (w : WF h) (xs : List Sl) (hx : xs.length < B63) : EX h (newAt (grow h 1) h.size (row 30 (xs.map encSl))) ∧ RdS (newAt (grow h 1) h.size (row 30 (xs.map encSl))) ⟨some ⟨h.size, 0, some 0⟩, xs.length, xs.length⟩ xs :=
  ⟨wf_new w 30 _, rd_new 30 1 _ _ _ (by simp) (by unfold CapOK; rw [capK_exact hx]; exact Nat.le_refl _)⟩
theorem eq_loop {h : H} {a b : Sl} {la lb : List UInt8} (ha : RdB h a la) (hb : RdB h b lb) (hl : la.length = lb.length) (hn : la.length ≤ 2 ^ 47) : ∀ (k i : Nat), i + k = la.length →
    loopO slices_Equal_byte_l1 ((a, (b, ((la.length : Int), (i : Int)))), h) = some (decide (la.drop i = lb.drop i), h)
  | 0, i, hik => by
    rw [loopO_eq, List.drop_eq_nil_of_le (by omega), List.drop_eq_nil_of_le (by omega)]
    simp only [slices_Equal_byte_l1, condK_eq, decide_eq_true_eq, show ¬ ((i : Int) < (la.length : Int)) by omega, if_false]
    simp
  | k + 1, i, hik => by
    obtain ⟨p, _, e1, e2⟩ := ha.at (i := (i : Int)) (by omega) (by omega)
    obtain ⟨q, _, e3, e4⟩ := hb.at (i := (i : Int)) (by omega) (by omega)
    simp only [Int.toNat_natCast] at e1 e2 e3 e4
    have d1 : la.drop i = la.getD i 0 :: la.drop (i + 1) := by
      rw [List.drop_eq_getElem_cons (by omega)]
      simp [List.getD, show i < la.length by omega]
    have d2 : lb.drop i = lb.getD i 0 :: lb.drop (i + 1) := by
      rw [List.drop_eq_getElem_cons (by omega)]
      simp [List.getD, show i < lb.length by omega]
    rw [loopO_eq]
    simp only [slices_Equal_byte_l1, condK_eq, decide_eq_true_eq, show ((i : Int) < (la.length : Int)) by omega, if_true]
    rw [e1, bindO_some, e2, bindO_some, e3, bindO_some, e4, bindO_some, d1, d2]
    by_cases hc : la.getD i 0 = lb.getD i 0
    · rw [hc]
      simp only [bne_self_eq_false, Bool.false_eq_true, if_false]
      rw [w64 (by omega) (by omega)]
      have := eq_loop ha hb hl hn k (i + 1) (by omega)
      simp only [List.cons.injEq, true_and]
      exact this
    · have hne : (((la.getD i 0).toNat : Int) != ((lb.getD i 0).toNat : Int)) = true := by
        simp only [bne_iff_ne, ne_eq]
        intro e
        exact hc (UInt8.toNat_inj.1 (by omega))
      rw [hne]
      simp only [if_true, List.cons.injEq, hc, false_and, decide_false]
theorem Equal_f {h : H} {a b : Sl} {la lb : List UInt8} (ha : RdB h a la) (hb : RdB h b lb) (hn : la.length ≤ 2 ^ 47) : slices_Equal_byte a b h = some (decide (la = lb), h) := by
  unfold slices_Equal_byte
  rw [ha.len, hb.len]
  by_cases hl : la.length = lb.length
  · have : (((la.length : Nat) : Int) != ((lb.length : Nat) : Int)) = false := by simp; omega
    rw [this, condK_eq, if_neg (by simp)]
    have e := eq_loop ha hb hl hn la.length 0 (by omega)
    simpa using e
  · have : (((la.length : Nat) : Int) != ((lb.length : Nat) : Int)) = true := by simp; omega
    rw [this, condK_eq, if_pos rfl, decide_eq_false]
    intro e; exact hl (by rw [e])
def closeV (key num : Int) (head body : List UInt8) : List UInt8 := mk (stepV key num) 0 body ++ tagL key num head (mk (stepV key num) 0 body)
theorem closeV_length (key num : Int) (head body : List UInt8) : (closeV key num head body).length = body.length + 8 := by
  unfold closeV; rw [List.length_append, mk_length, tagL_length]
def openV (key num : Int) (head l : List UInt8) : Option (List UInt8) :=
  if l.length < 8 then none else if tagL key num head (l.take (l.length - 8)) = l.drop (l.length - 8) then some (mk (stepV key num) 0 (l.take (l.length - 8))) else none
end Go.Proofs.Ythiccnmplgdheaa.T
