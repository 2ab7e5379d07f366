/- Lemmas about the typed texts (joined: SSeal2 SSeal3 SSeal4). -/
import Derived.Test.YtaebjajbogedkaaG9
/- Chapter 4's functions over the typed texts: a tag of parts, a mask, a tag's bytes. -/
set_option linter.unusedVariables false
set_option linter.unusedSimpArgs false
namespace Go.Abs
open Go
/-- slices of slices -/
def RdS (h : H) (s : Sl) (xs : List Sl) : Prop := Rd 1 h s (xs.map encSl)
theorem RdS.len {h : H} {s : Sl} {xs : List Sl} (r : RdS h s xs) : s.len = xs.length := by
  have := Rd.len r; simpa using this.symm
theorem RdS.ex {h h' : H} {s : Sl} {xs : List Sl} (x : EX h h') (r : RdS h s xs) : RdS h' s xs := Rd.ex x r
theorem RdS.at {h : H} {s : Sl} {xs : List Sl} (r : RdS h s xs) {i : Nat} {x : Sl} (hi : xs[i]? = some x) : ∃ a, ixT 1 s (i : Int) = some (add a i) ∧ ldL h (add a i) = some x := by
  have hlt := (List.getElem?_eq_some_iff.1 hi).1
  obtain ⟨a, ha, he⟩ := ixT_ok r (i := (i : Int)) (by omega) (by rw [r.len]; omega)
  refine ⟨a, by simpa using he, ldL_of (Rd.ld r a ha i _ ?_).2⟩
  simp [hi]
/-- each of them reads as its bytes -/
def RdBs (h : H) : List Sl → List (List UInt8) → Prop
  | [], [] => True
  | x :: xs, l :: ls => (RdB h x l ∧ l.length ≤ 2 ^ 47) ∧ RdBs h xs ls
  | _, _ => False
theorem RdBs.ex {h h' : H} (x : EX h h') : ∀ {xs : List Sl} {ls : List (List UInt8)}, RdBs h xs ls → RdBs h' xs ls
  | [], [], _ => trivial
  | _ :: _, _ :: _, ⟨⟨a, b⟩, c⟩ => ⟨⟨a.ex x, b⟩, RdBs.ex x c⟩
  | [], _ :: _, h => h.elim
  | _ :: _, [], h => h.elim
end Go.Abs
namespace Go.Proofs.Ytaebjajbogedkaa.T
open Go Go.Abs Go.Proofs
def bytesTag (key : Int) (l : List UInt8) : Int := l.foldl (fun k c => stepV k (c.toNat : Int)) key
def partTag (key : Int) (l : List UInt8) : Int := stepV (bytesTag key l) (256 + l.length)
def tagV (key : Int) (ls : List (List UInt8)) : Int := ls.foldl partTag key
def U64 (x : Int) : Prop := 0 ≤ x ∧ x < 18446744073709551616
theorem bytesTag_rng : ∀ (l : List UInt8) (key : Int), U64 key → U64 (bytesTag key l)
  | [], key, h => h
  | c :: l, key, h => bytesTag_rng l _ (stepV_rng key c.toNat)
theorem tagV_rng : ∀ (ls : List (List UInt8)) (key : Int), U64 key → U64 (tagV key ls)
  | [], key, h => h
  | l :: ls, key, h => tagV_rng ls _ (stepV_rng _ _)
theorem RdBs.get {h : H} : ∀ {xs : List Sl} {ls : List (List UInt8)} (i : Nat), RdBs h xs ls → i < xs.length → ∃ x l, xs[i]? = some x ∧ ls.drop i = l :: ls.drop (i + 1) ∧ RdB h x l ∧ l.length ≤ 2 ^ 47
  | x :: xs, l :: ls, 0, ⟨⟨a, b⟩, c⟩, _ => ⟨x, l, rfl, rfl, a, b⟩
  | x :: xs, l :: ls, i + 1, ⟨_, c⟩, hi => by
    obtain ⟨y, m, h1, h2, h3⟩ := RdBs.get i c (by simpa using hi)
    exact ⟨y, m, by simpa using h1, by simpa using h2, h3⟩
  | [], [], i, _, hi => by simp at hi
theorem RdBs.length {h : H} : ∀ {xs : List Sl} {ls : List (List UInt8)}, RdBs h xs ls → ls.length = xs.length
  | [], [], _ => rfl
  | _ :: _, _ :: _, ⟨_, c⟩ => by simp [RdBs.length c]
  | [], _ :: _, h => h.elim
  | _ :: _, [], h => h.elim
/-! a mask -/
def mk (h0 : Int) : Nat → List UInt8 → List UInt8
  | _, [] => []
  | i, b :: t => (b ^^^ UInt8.ofNat ((stepV h0 (i : Int)).toNat / 4294967296)) :: mk h0 (i + 1) t
theorem mk_length (h0 : Int) : ∀ (l : List UInt8) (i : Nat), (mk h0 i l).length = l.length
  | [], _ => rfl
  | b :: t, i => by simp [mk, mk_length h0 t]
theorem mk_append (h0 : Int) : ∀ (a b : List UInt8) (i : Nat), mk h0 i (a ++ b) = mk h0 i a ++ mk h0 (i + a.length) b
  | [], b, i => rfl
  | x :: a, b, i => by simp [mk, mk_append h0 a b]; rw [show i + 1 + a.length = i + (a.length + 1) by omega]
theorem xor8 (a b : UInt8) : IntKind.wrap .u8 ((BitVec.toNat ((BitVec.ofInt 8 (a.toNat : Int)) ^^^ (BitVec.ofInt 8 (b.toNat : Int))) : Nat) : Int) = ((a ^^^ b).toNat : Int) := by
  have e : ∀ c : UInt8, BitVec.ofInt 8 (c.toNat : Int) = c.toBitVec := by
    intro c
    apply BitVec.eq_of_toNat_eq
    simp
  rw [e, e, wu8_mod]
  have : ((a ^^^ b).toNat) = (a.toBitVec ^^^ b.toBitVec).toNat := rfl
  rw [← this]
  have h := (a ^^^ b).toNat_lt
  omega
theorem upper8 (x : Int) (hx : U64 x) : IntKind.wrap .u8 (Int.fdiv x 4294967296) = ((UInt8.ofNat (x.toNat / 4294967296)).toNat : Int) := by
  unfold U64 at hx
  rw [wu8_mod, fdiv_pos _ (by omega), UInt8.toNat_ofNat']
  omega
end Go.Proofs.Ytaebjajbogedkaa.T
/- Chapter 4's functions over the typed texts: a tag's bytes; Grow, Concat, Equal; closing and opening. -/
set_option linter.unusedVariables false
set_option linter.unusedSimpArgs false
namespace Go.Abs
open Go
theorem DSI_e (e : TypeId) (j : TyI) : (DSI e j).ty.get e = some j := by
  unfold DSI; rw [Tr.get_set, if_neg (by omega), Tr.get_set, if_neg (by omega), Tr.get_set, if_pos rfl]
theorem DSI_s (e : TypeId) (j : TyI) : (DSI e j).ty.get (e + 1) = some ⟨1, 24, .slice none 0 0, .slice e, false⟩ := by
  unfold DSI; rw [Tr.get_set, if_neg (by omega), Tr.get_set, if_pos rfl]
theorem DSI_t (e : TypeId) (j : TyI) : (DSI e j).ty.get (e + 2) = some ⟨1, 8, .int .i64 0, .int .i64, false⟩ := by
  unfold DSI; rw [Tr.get_set, if_pos rfl]
theorem zeros8 (k : Nat) : zeros (.int .u8 0) k = vB (List.replicate k 0) := by
  unfold zeros vB
  have : (Value.int .u8 0).cells.toList = [Value.int .u8 0] := rfl
  rw [this, List.map_replicate]
  induction k with
  | zero => rfl
  | succ k ih => rw [List.replicate_succ, List.flatten_cons, ih, List.replicate_succ]; rfl
/-- so many zeros behind nothing -/
theorem appNT_nil {e : Nat} {h : H} {n : Nat} (hn : 0 < n) (hb : n ≤ 2 ^ 47) : appNT e 1 1 (.int .u8 0) h ⟨none, 0, 0⟩ (n : Int) = some (⟨some ⟨h.size, 0, some 0⟩, n, UNK 1⟩, newAt (grow h 1) h.size (row e (vB (List.replicate n 0)))) := by
  have key : appA (DSI e (tyS 1 1 (.int .u8 0))) h #[e + 1, e + 2] (encSl ⟨none, 0, 0⟩) (.int .i64 (n : Int)) = some (.new (row e (vB (List.replicate n 0))) fun A => .slice (some ⟨A, 0, some 0⟩) n (UNK 1)) := by
    unfold appA
    rw [show (#[e + 1, e + 2] : Array TypeId)[0]? = some (e + 1) from rfl, show (#[e + 1, e + 2] : Array TypeId)[1]? = some (e + 2) from rfl]
    have he : elemOf (DSI e (tyS 1 1 (.int .u8 0))) (e + 1) = some (e, tyS 1 1 (.int .u8 0)) := by
      unfold elemOf; rw [DSI_s]; simp [DSI_e]
    simp only [he, DSI_t]
    have c : (decide ((0 : Int) ≤ (n : Int)) && decide ((n : Int) < 2 ^ 62) && decide ((n : Int) * ((tyS 1 1 (.int .u8 0)).bytes : Nat) ≤ 2 ^ 47) && (tyS 1 1 (.int .u8 0)).zero.cells.toList.all oneC) = true := by
      have e1 : (n : Int) * ((tyS 1 1 (.int .u8 0)).bytes : Nat) ≤ 2 ^ 47 := by
        show (n : Int) * ((1 : Nat) : Int) ≤ 2 ^ 47
        omega
      rw [decide_eq_true (show (0 : Int) ≤ (n : Int) by omega), decide_eq_true (show (n : Int) < 2 ^ 62 by omega), decide_eq_true e1]; rfl
    simp only [c, cond_true, Int.toNat_natCast]
    unfold appR encSl
    have hbb : (((0 + n) * (tyS 1 1 (.int .u8 0)).bytes).ble (2 ^ 47) && (0 + n).ble (2 ^ 62)) = true := by
      simp only [Bool.and_eq_true, Nat.ble_eq, tyS]; omega
    simp only [nbeq_f (show ¬ n = 0 by omega), cond_false, hbb, Bool.not_true, show Nat.beq 0 0 = true from rfl, Bool.and_self, cond_true]
    rw [show (tyS 1 1 (.int .u8 0)).zero = .int .u8 0 from rfl, zeros8]
    rfl
  unfold appNT
  rw [key]; rfl
theorem capT_nil : capT ⟨none, 0, 0⟩ = some 0 := rfl
end Go.Abs
namespace Go.Proofs.Ytaebjajbogedkaa.T
open Go Go.Abs Go.Proofs
/-- room for so many bytes -/
theorem grow_f {h : H} {n : Nat} (w : WF h) (hb : n ≤ 2 ^ 47) : ∃ s h', slices_Grow_byte ⟨none, 0, 0⟩ (n : Int) h = some (s, h') ∧ EX h h' ∧ Fr h.size s ∧ (n = 0 ∧ s = ⟨none, 0, 0⟩ ∨ 0 < n ∧ BufW 1 h' s [] n) := by
  unfold slices_Grow_byte
  have h0 : ¬ (n : Int) < 0 := by omega
  simp only [condK_eq, decide_eq_true_eq, h0, if_false, joinO_inl, capT_nil, bindO_some, letO_eq]
  rw [show (((0 : Nat) : Int)) = 0 from rfl, show IntKind.wrap .i64 ((0 : Int) - 0) = 0 from rfl, w64 (n := (n : Int) - 0) (by omega) (by omega)]
  by_cases hn : n = 0
  · subst hn
    rw [if_neg (by omega)]
    exact ⟨_, h, rfl, EX.refl w, fr_nil _, .inl ⟨rfl, rfl⟩⟩
  · rw [if_pos (by omega)]
    have e1 : slT 1 h ⟨none, 0, 0⟩ none (some 0) none = some ⟨none, 0, 0⟩ := by
      obtain ⟨s', a1, a2, a3, a4, _⟩ := sl_hi (hi := 0) (by omega) (by unfold B63; omega) (rd_nil 1 h) (by omega) (by simp)
      rw [a1, a4]; rfl
    rw [e1, bindO_some, Int.sub_zero, appNT_nil (by omega) hb, bind2_some]
    simp only
    have x1 := wf_new w 5 (vB (List.replicate n 0))
    have b1 : Buf 1 (newAt (grow h 1) h.size (row 5 (vB (List.replicate n 0)))) ⟨some ⟨h.size, 0, some 0⟩, n, UNK 1⟩ (vB (List.replicate n 0)) :=
      buf_new w 5 1 n (UNK 1) _ (by simp [vB]) (by unfold CapOK; rw [capK_UNK _ (by unfold B63; omega)]) (by rw [capK_UNK _ (by unfold B63; omega)]; trivial)
    have hobj : (newAt (grow h 1) h.size (row 5 (vB (List.replicate n 0)))).objs.get h.size = some (row 5 (vB (List.replicate n 0))) := by
      rw [newAt_get, if_pos rfl]
    generalize newAt (grow h 1) h.size (row 5 (vB (List.replicate n 0))) = h1 at *
    obtain ⟨s', a1, a2, a3, a4, _⟩ := sl_hi (hi := 0) (by omega) (by unfold B63; omega) b1.rd (by omega) (by simp)
    have hs' : s' = ⟨some ⟨h.size, 0, some 0⟩, 0, UNK 1⟩ := by
      rw [a4]; unfold slV; simp only [capK_UNK 1 (by unfold B63; omega)]; rfl
    rw [a1, bindO_some, joinO_inl, hs']
    rw [hs'] at a2
    refine ⟨_, h1, rfl, x1, fr_new h 0 (UNK 1), .inr ⟨by omega, by simpa using a2, ⟨h.size, 0, some 0⟩, _, 0, rfl, hobj, rfl, rfl, by rw [x1.nro]; exact w.nro, ?_, capK_UNK 1 (by unfold B63; omega)⟩⟩
    simp [vB]
def cat : List (List UInt8) → List UInt8
  | [] => []
  | l :: ls => l ++ cat ls
theorem cc_l1 {h : H} {parts : Sl} {xs : List Sl} {ls : List (List UInt8)} (hp : RdS h parts xs) (hx : RdBs h xs ls) (hn : xs.length ≤ 2 ^ 47) : ∀ (k i size : Nat), i + k = xs.length → size + (cat (ls.drop i)).length ≤ 2 ^ 47 →
    loopO slices_Concat_byte_l1 ((parts, ((size : Int), (parts, ((xs.length : Int), (i : Int))))), h) = some (Sum.inl ((parts, ((size + (cat (ls.drop i)).length : Nat) : Int)), h))
  | 0, i, size, hik, hs => by
    rw [loopO_eq, List.drop_eq_nil_of_le (by rw [RdBs.length hx]; omega)]
    simp only [P.slices_Concat_byte_l1, condK_eq, decide_eq_true_eq, show ¬ ((i : Int) < (xs.length : Int)) by omega, if_false]
    rfl
  | k + 1, i, size, hik, hs => by
    obtain ⟨x, l, g1, g2, g3, g4⟩ := RdBs.get i hx (by omega)
    obtain ⟨a, e1, e2⟩ := hp.at g1
    rw [g2, cat, List.length_append] at hs
    rw [loopO_eq]
    simp only [P.slices_Concat_byte_l1, condK_eq, decide_eq_true_eq, show ((i : Int) < (xs.length : Int)) by omega, if_true]
    rw [e1, bindO_some, e2, bindO_some, g3.len, w64 (n := (size : Int) + ((l.length : Nat) : Int)) (by omega) (by omega), if_neg (by omega), joinO_inl]
    simp only
    rw [w64 (by omega) (by omega), g2]
    have := cc_l1 hp hx hn k (i + 1) (size + l.length) (by omega) (by omega)
    simp only [cat, List.length_append, Nat.add_assoc, Int.natCast_add, Int.natCast_one] at this ⊢
    exact this
theorem cc_l2 {h0 : H} {parts : Sl} {xs : List Sl} {ls : List (List UInt8)} (hp : RdS h0 parts xs) (hx : RdBs h0 xs ls) (hn : xs.length ≤ 2 ^ 47) : ∀ (k i : Nat) (s : Sl) (acc : List UInt8) (h : H) (room : Nat), i + k = xs.length → acc.length + (cat (ls.drop i)).length ≤ 2 ^ 47 → (cat (ls.drop i)).length ≤ room → BufW 1 h s (vB acc) room → EX h0 h → Fr h0.size s →
    ∃ s' h' room', loopO slices_Concat_byte_l2 ((s, (parts, ((xs.length : Int), (i : Int)))), h) = some (Sum.inl (s', h')) ∧ BufW 1 h' s' (vB (acc ++ cat (ls.drop i))) room' ∧ EX h0 h' ∧ Fr h0.size s'
  | 0, i, s, acc, h, room, hik, hs, hr, hb, hx0, hf => by
    rw [List.drop_eq_nil_of_le (by rw [RdBs.length hx]; omega)]
    refine ⟨s, h, room, ?_, by simpa [cat] using hb, hx0, hf⟩
    rw [loopO_eq]
    simp only [P.slices_Concat_byte_l2, condK_eq, decide_eq_true_eq, show ¬ ((i : Int) < (xs.length : Int)) by omega, if_false]
  | k + 1, i, s, acc, h, room, hik, hs, hr, hb, hx0, hf => by
    obtain ⟨x, l, g1, g2, g3, g4⟩ := RdBs.get i hx (by omega)
    obtain ⟨a, e1, e2⟩ := (hp.ex hx0).at g1
    rw [g2, cat, List.length_append] at hs hr
    rw [loopO_eq]
    simp only [P.slices_Concat_byte_l2, condK_eq, decide_eq_true_eq, show ((i : Int) < (xs.length : Int)) by omega, if_true]
    rw [e1, bindO_some, e2, bindO_some]
    have gx := g3.ex hx0
    have hsl : s.len = acc.length := by have := hb.rd.len; simp [vB] at this; omega
    obtain ⟨s1, h1, e3, b3, hbase, x3⟩ := appW_ok (e := 5) (bytes := 1) hx0.wf hb gx (oneC_vB l) (by rw [gx.len]; omega) (by rw [hsl, gx.len]; omega) (by rw [hsl, gx.len]; omega)
    rw [e3, bind2_some]
    simp only
    rw [w64 (by omega) (by omega), g2]
    rw [← vB_append] at b3
    obtain ⟨s', h', room', e4, b4, x4, f4⟩ := cc_l2 hp hx hn k (i + 1) s1 (acc ++ l) h1 (room - x.len) (by omega) (by rw [List.length_append]; omega) (by rw [gx.len]; omega) b3 (x3 _ hx0 hf) (fun a ha => hf a (by rw [← hbase]; exact ha))
    refine ⟨s', h', room', e4, ?_, x4, f4⟩
    simpa [cat] using b4
theorem Concat_f {h : H} {parts : Sl} {xs : List Sl} {ls : List (List UInt8)} (w : WF h) (hp : RdS h parts xs) (hx : RdBs h xs ls) (hn : xs.length ≤ 2 ^ 47) (hc : 0 < (cat ls).length) (hl : (cat ls).length ≤ 2 ^ 47) :
    ∃ s h' room, slices_Concat_byte parts h = some (s, h') ∧ EX h h' ∧ BufW 1 h' s (vB (cat ls)) room ∧ Fr h.size s := by
  unfold slices_Concat_byte P.slices_Concat_byte
  have e1 := cc_l1 hp hx hn xs.length 0 0 (by omega) (by simpa using hl)
  simp only [slices_Concat_byte_l1, Int.natCast_zero, List.drop_zero, Nat.zero_add] at e1
  rw [hp.len, e1, joinO_inl]
  simp only
  obtain ⟨s1, h1, e2, x2, f2, hcase⟩ := grow_f w hl
  rw [e2, bind2_some]
  rcases hcase with ⟨h0, _⟩ | ⟨h0, b2⟩
  · omega
  simp only
  obtain ⟨s', h', room', e3, b3, x3, f3⟩ := cc_l2 hp hx hn xs.length 0 s1 [] h1 (cat ls).length (by omega) (by simpa using hl) (by simp) (by simpa [vB] using b2) x2 f2
  simp only [slices_Concat_byte_l2, Int.natCast_zero, List.drop_zero, List.nil_append] at e3 b3
  rw [hp.len, e3, joinO_inl]
  exact ⟨s', h', room', rfl, x3, b3, f3⟩
end Go.Proofs.Ytaebjajbogedkaa.T
/- Chapter 4's functions over the typed texts: a tag's bytes, equality, closing and opening, the chapter's example. -/
set_option linter.unusedVariables false
set_option linter.unusedSimpArgs false
namespace Go.Proofs.Ytaebjajbogedkaa.T
open Go Go.Abs Go.Proofs
theorem byte_at64 {x : Int} (h0 : 0 ≤ x) (m : Nat) (hm : m < 8) : ∃ y, shrT .u64 x .i64 (8 * (m : Int)) = some y ∧ IntKind.wrap .u8 y = ((UInt8.ofNat (x.toNat / 256 ^ m)).toNat : Int) := by
  refine ⟨_, shrT_ok _ _ _ (by omega), ?_⟩
  have e1 : min (8 * (m : Int)).toNat IntKind.u64.bits = 8 * m := by
    have : IntKind.u64.bits = 64 := rfl
    omega
  rw [e1, wu8_mod]
  have e2 : (2 : Int) ^ (8 * m) = ((256 ^ m : Nat) : Int) := by
    rw [show (256 : Nat) = 2 ^ 8 from rfl, ← Nat.pow_mul, Int.natCast_pow]; rfl
  rw [e2, fdiv_pos _ (Int.natCast_nonneg _), UInt8.toNat_ofNat']
  obtain ⟨n, rfl⟩ : ∃ n : Nat, x = n := ⟨x.toNat, (Int.toNat_of_nonneg h0).symm⟩
  rw [Int.toNat_natCast, ← Int.natCast_ediv]
  exact (Int.natCast_emod _ 256).symm
def tagL (key num : Int) (head masked : List UInt8) : List UInt8 := be 8 (tagV (stepV key num) [head, masked]).toNat
theorem tagL_length (key num : Int) (head masked : List UInt8) : (tagL key num head masked).length = 8 := be_length _ _
/-- a new row of slices -/
theorem newS {h : H} (w : WF h) (xs : List Sl) (hx : xs.length < B63) : EX h (newAt (grow h 1) h.size (row 29 (xs.map encSl))) ∧ RdS (newAt (grow h 1) h.size (row 29 (xs.map encSl))) ⟨some ⟨h.size, 0, some 0⟩, xs.length, xs.length⟩ xs :=
  ⟨wf_new w 29 _, rd_new 29 1 _ _ _ (by simp) (by unfold CapOK; rw [capK_exact hx]; exact Nat.le_refl _)⟩
def closeV (key num : Int) (head body : List UInt8) : List UInt8 := mk (stepV key num) 0 body ++ tagL key num head (mk (stepV key num) 0 body)
theorem closeV_length (key num : Int) (head body : List UInt8) : (closeV key num head body).length = body.length + 8 := by
  unfold closeV; rw [List.length_append, mk_length, tagL_length]
def openV (key num : Int) (head l : List UInt8) : Option (List UInt8) :=
  if l.length < 8 then none else if tagL key num head (l.take (l.length - 8)) = l.drop (l.length - 8) then some (mk (stepV key num) 0 (l.take (l.length - 8))) else none
end Go.Proofs.Ytaebjajbogedkaa.T
