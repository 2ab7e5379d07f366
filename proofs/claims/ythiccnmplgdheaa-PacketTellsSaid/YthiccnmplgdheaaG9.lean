/- Lemmas about the typed texts (joined: LVarNone SSeal1 SSeal2). -/
import Derived.Test.YthiccnmplgdheaaG8
import Derived.Test.YthiccnmplgdheaaG2
import Derived.Test.YthiccnmplgdheaaG3
set_option linter.unusedVariables false
set_option linter.unusedSimpArgs false
namespace Go.Proofs.Ythiccnmplgdheaa.T
open Go Go.Abs Go.Proofs
/-- a step, on words of 64 bits -/
def stepB (h c : BitVec 64) : BitVec 64 := ((h <<< 13 ||| h >>> 51) ^^^ c) * 15485907386658061715#64
def stepV (h c : Int) : Int := ((stepB (BitVec.ofInt 64 h) (BitVec.ofInt 64 c)).toNat : Int)
theorem k13 : IntKind.wrap .u64 ((BitVec.toNat ((BitVec.ofInt 64 (IntKind.wrap .u64 13)) &&& (BitVec.ofInt 64 63)) : Nat) : Int) = 13 := by decide +kernel
theorem k51 : IntKind.wrap .u64 (64 - 13) = 51 := by decide +kernel
theorem shl13 (n : Int) : shlT .u64 n .u64 13 = some (IntKind.wrap .u64 (n * 2 ^ 13)) := by
  rw [shlT_ok _ _ _ (by omega), show min (13 : Int).toNat IntKind.u64.bits = 13 by decide]
theorem shr51 (n : Int) : shrT .u64 n .u64 51 = some (n / 2 ^ 51) := by
  rw [shrT_ok _ _ _ (by omega), show min (51 : Int).toNat IntKind.u64.bits = 51 by decide, fdiv_pos _ (by decide)]
theorem bv13 (n : Nat) : BitVec.ofInt 64 (IntKind.wrap .u64 ((n : Int) * 2 ^ 13)) = BitVec.ofInt 64 (n : Int) <<< 13 := by
  apply BitVec.eq_of_toNat_eq
  rw [wu64_mod]
  simp only [BitVec.toNat_shiftLeft, BitVec.ofInt_natCast, BitVec.toNat_ofNat, BitVec.toNat_ofInt, Nat.shiftLeft_eq]
  omega
theorem bv51 (n : Nat) (h : n < 18446744073709551616) : BitVec.ofInt 64 ((n : Int) / 2 ^ 51) = BitVec.ofInt 64 (n : Int) >>> 51 := by
  apply BitVec.eq_of_toNat_eq
  simp only [BitVec.toNat_ushiftRight, BitVec.ofInt_natCast, BitVec.toNat_ofNat, BitVec.toNat_ofInt, Nat.shiftRight_eq_div_pow]
  omega
theorem wbv (z : BitVec 64) : IntKind.wrap .u64 ((z.toNat : Nat) : Int) = (z.toNat : Int) := by
  have hz := z.isLt
  exact wu64 (by omega) (by omega)
theorem rot_f (x : Int) (h0 : 0 <= x) (h1 : x < 18446744073709551616) (h : H) : math_bits_RotateLeft64 x 13 h = some (((BitVec.ofInt 64 x <<< 13 ||| BitVec.ofInt 64 x >>> 51).toNat : Int), h) := by
  obtain ⟨n, rfl⟩ : ∃ n : Nat, x = n := ⟨x.toNat, (Int.toNat_of_nonneg h0).symm⟩
  rw [<- bv13, <- bv51 n (by omega)]
  unfold math_bits_RotateLeft64
  rw [k13]
  simp only [letO_eq, shl13, bindO_some, k51, shr51, wbv]
theorem Step_f (x c : Int) (h0 : 0 <= x) (h1 : x < 18446744073709551616) (h : H) : seal_Step x c h = some (stepV x c, h) := by
  unfold seal_Step P.seal_Step
  rw [rot_f x h0 h1, bind2_some]
  simp only [letO_eq]
  have e : ∀ y : BitVec 64, BitVec.ofInt 64 ((y.toNat : Nat) : Int) = y := by
    intro y
    apply BitVec.eq_of_toNat_eq
    rw [BitVec.ofInt_natCast, BitVec.toNat_ofNat]
    exact Nat.mod_eq_of_lt y.isLt
  rw [e]
  unfold stepV stepB
  generalize (BitVec.ofInt 64 x <<< 13 ||| BitVec.ofInt 64 x >>> 51) ^^^ BitVec.ofInt 64 c = z
  have hz := z.isLt
  rw [wu64 (n := (z.toNat : Int)) (by omega) (by omega), wu64_mod]
  have hm : (z * 15485907386658061715#64).toNat = z.toNat * 15485907386658061715 % 2 ^ 64 := by
    rw [BitVec.toNat_mul]; rfl
  rw [hm]
  congr 2
theorem stepV_rng (x c : Int) : 0 <= stepV x c /\ stepV x c < 18446744073709551616 := by
  unfold stepV
  have := (stepB (BitVec.ofInt 64 x) (BitVec.ofInt 64 c)).isLt
  omega
theorem wrap_ofInt (c : Int) : BitVec.ofInt 64 (IntKind.wrap .u64 c) = BitVec.ofInt 64 c := by
  rw [wu64_mod]
  apply BitVec.eq_of_toNat_eq
  simp only [BitVec.toNat_ofInt]
  omega
theorem stepV_wrap (x c : Int) : stepV x (IntKind.wrap .u64 c) = stepV x c := by unfold stepV; rw [wrap_ofInt]
end Go.Proofs.Ythiccnmplgdheaa.T
namespace Go.Abs
open Go
/-- slices of slices -/
def RdS (h : H) (s : Sl) (xs : List Sl) : Prop := Rd 1 h s (xs.map encSl)
theorem RdS.len {h : H} {s : Sl} {xs : List Sl} (r : RdS h s xs) : s.len = xs.length := by
  have := Rd.len r; simpa using this.symm
theorem RdS.ex {h h' : H} {s : Sl} {xs : List Sl} (x : EX h h') (r : RdS h s xs) : RdS h' s xs := Rd.ex x r
theorem RdS.at {h : H} {s : Sl} {xs : List Sl} (r : RdS h s xs) {i : Nat} {x : Sl} (hi : xs[i]? = some x) : ∃ a, ixT 1 s (i : Int) = some (add a i) /\ ldL h (add a i) = some x := by
  have hlt := (List.getElem?_eq_some_iff.1 hi).1
  obtain ⟨a, ha, he⟩ := ixT_ok r (i := (i : Int)) (by omega) (by rw [r.len]; omega)
  refine ⟨a, by simpa using he, ldL_of (Rd.ld r a ha i _ ?_).2⟩
  simp [hi]
/-- each of them reads as its bytes -/
def RdBs (h : H) : List Sl -> List (List UInt8) -> Prop
  | [], [] => True
  | x :: xs, l :: ls => (RdB h x l /\ l.length <= 2 ^ 47) /\ RdBs h xs ls
  | _, _ => False
end Go.Abs
namespace Go.Proofs.Ythiccnmplgdheaa.T
open Go Go.Abs Go.Proofs
def bytesTag (key : Int) (l : List UInt8) : Int := l.foldl (fun k c => stepV k (c.toNat : Int)) key
def partTag (key : Int) (l : List UInt8) : Int := stepV (bytesTag key l) (256 + l.length)
def tagV (key : Int) (ls : List (List UInt8)) : Int := ls.foldl partTag key
def U64 (x : Int) : Prop := 0 <= x /\ x < 18446744073709551616
theorem bytesTag_rng : ∀ (l : List UInt8) (key : Int), U64 key -> U64 (bytesTag key l)
  | [], key, h => h
  | c :: l, key, h => bytesTag_rng l _ (stepV_rng key c.toNat)
theorem tagV_rng : ∀ (ls : List (List UInt8)) (key : Int), U64 key -> U64 (tagV key ls)
  | [], key, h => h
  | l :: ls, key, h => tagV_rng ls _ (stepV_rng _ _)
theorem tag_l2 {h : H} {p s x0 : Sl} {l : List UInt8} {a b : Int} (hr : RdB h s l) (hl : l.length <= 2 ^ 47) : ∀ (k i : Nat) (key : Int), i + k = l.length -> U64 key ->
    loopO seal_Tag_l2 ((key, (p, (x0, (a, (b, (s, ((l.length : Int), (i : Int)))))))), h) = some (Sum.inl ((bytesTag key (l.drop i), (p, (x0, (a, b)))), h))
  | 0, i, key, hik, hk => by
    rw [loopO_eq, List.drop_eq_nil_of_le (by omega)]
    simp only [P.seal_Tag_l2, condK_eq, decide_eq_true_eq, show ¬ ((i : Int) < (l.length : Int)) by omega, if_false]
    rfl
  | k + 1, i, key, hik, hk => by
    obtain ⟨c, hc, e1, e2⟩ := hr.at (i := (i : Int)) (by omega) (by omega)
    simp only [Int.toNat_natCast] at e1 e2
    have hd : l.drop i = l.getD i 0 :: l.drop (i + 1) := by
      rw [List.drop_eq_getElem_cons (by omega)]
      simp [List.getD, show i < l.length by omega]
    rw [loopO_eq]
    simp only [P.seal_Tag_l2, condK_eq, decide_eq_true_eq, show ((i : Int) < (l.length : Int)) by omega, if_true]
    rw [e1, bindO_some, e2, bindO_some, Step_f _ _ hk.1 hk.2, bind2_some, stepV_wrap, w64 (by omega) (by omega), hd]
    exact tag_l2 hr hl k (i + 1) _ (by omega) (stepV_rng _ _)
theorem RdBs.get {h : H} : ∀ {xs : List Sl} {ls : List (List UInt8)} (i : Nat), RdBs h xs ls -> i < xs.length -> ∃ x l, xs[i]? = some x /\ ls.drop i = l :: ls.drop (i + 1) /\ RdB h x l /\ l.length <= 2 ^ 47
  | x :: xs, l :: ls, 0, ⟨⟨a, b⟩, c⟩, _ => ⟨x, l, rfl, rfl, a, b⟩
  | x :: xs, l :: ls, i + 1, ⟨_, c⟩, hi => by
    obtain ⟨y, m, h1, h2, h3⟩ := RdBs.get i c (by simpa using hi)
    exact ⟨y, m, by simpa using h1, by simpa using h2, h3⟩
  | [], [], i, _, hi => by simp at hi
theorem RdBs.length {h : H} : ∀ {xs : List Sl} {ls : List (List UInt8)}, RdBs h xs ls -> ls.length = xs.length
  | [], [], _ => rfl
  | _ :: _, _ :: _, ⟨_, c⟩ => by simp [RdBs.length c]
  | [], _ :: _, h => h.elim
  | _ :: _, [], h => h.elim
theorem tag_l1 {h : H} {parts : Sl} {xs : List Sl} {ls : List (List UInt8)} (hp : RdS h parts xs) (hx : RdBs h xs ls) (hn : xs.length <= 2 ^ 47) : ∀ (k i : Nat) (key : Int), i + k = xs.length -> U64 key ->
    loopO seal_Tag_l1 ((key, (parts, ((xs.length : Int), (i : Int)))), h) = some (Sum.inl (tagV key (ls.drop i), h))
  | 0, i, key, hik, hk => by
    rw [loopO_eq, List.drop_eq_nil_of_le (by rw [RdBs.length hx]; omega)]
    simp only [P.seal_Tag_l1, condK_eq, decide_eq_true_eq, show ¬ ((i : Int) < (xs.length : Int)) by omega, if_false]
    rfl
  | k + 1, i, key, hik, hk => by
    obtain ⟨x, l, g1, g2, g3, g4⟩ := RdBs.get i hx (by omega)
    obtain ⟨a, e1, e2⟩ := hp.at g1
    rw [loopO_eq]
    simp only [P.seal_Tag_l1, condK_eq, decide_eq_true_eq, show ((i : Int) < (xs.length : Int)) by omega, if_true]
    rw [e1, bindO_some, e2, bindO_some, g3.len]
    have e3 := tag_l2 (p := x) (x0 := parts) (a := (xs.length : Int)) (b := (i : Int)) g3 g4 l.length 0 key (by omega) hk
    simp only [seal_Tag_l2, Int.natCast_zero, List.drop_zero] at e3
    rw [e3, joinO_inl]
    simp only
    have hb := bytesTag_rng l key hk
    rw [g3.len, Step_f _ _ hb.1 hb.2, bind2_some, joinO_inl, stepV_wrap, wu64 (n := ((l.length : Nat) : Int)) (by omega) (by omega)]
    simp only
    rw [w64 (by omega) (by omega), g2]
    exact tag_l1 hp hx hn k (i + 1) _ (by omega) (stepV_rng _ _)
theorem Tag_f {h : H} {parts : Sl} {xs : List Sl} {ls : List (List UInt8)} {key : Int} (hp : RdS h parts xs) (hx : RdBs h xs ls) (hn : xs.length <= 2 ^ 47) (hk : U64 key) : seal_Tag key parts h = some (tagV key ls, h) := by
  unfold seal_Tag P.seal_Tag
  have := tag_l1 hp hx hn xs.length 0 key (by omega) hk
  simp only [seal_Tag_l1, Int.natCast_zero, List.drop_zero] at this
  rw [hp.len, this, joinO_inl]
def mk (h0 : Int) : Nat -> List UInt8 -> List UInt8
  | _, [] => []
  | i, b :: t => (b ^^^ UInt8.ofNat ((stepV h0 (i : Int)).toNat / 4294967296)) :: mk h0 (i + 1) t
theorem mk_length (h0 : Int) : ∀ (l : List UInt8) (i : Nat), (mk h0 i l).length = l.length
  | [], _ => rfl
  | b :: t, i => by simp [mk, mk_length h0 t]
theorem mk_append (h0 : Int) : ∀ (a b : List UInt8) (i : Nat), mk h0 i (a ++ b) = mk h0 i a ++ mk h0 (i + a.length) b
  | [], b, i => rfl
  | x :: a, b, i => by simp [mk, mk_append h0 a b]; rw [show i + 1 + a.length = i + (a.length + 1) by omega]
theorem xor8 (a b : UInt8) : IntKind.wrap .u8 ((BitVec.toNat ((BitVec.ofInt 8 (a.toNat : Int)) ^^^ (BitVec.ofInt 8 (b.toNat : Int))) : Nat) : Int) = ((a ^^^ b).toNat : Int) := by
  have e : ∀ c : UInt8, BitVec.ofInt 8 (c.toNat : Int) = c.toBitVec := by
    intro c
    apply BitVec.eq_of_toNat_eq
    simp
  rw [e, e, wu8_mod]
  have : ((a ^^^ b).toNat) = (a.toBitVec ^^^ b.toBitVec).toNat := rfl
  rw [<- this]
  have h := (a ^^^ b).toNat_lt
  omega
theorem upper8 (x : Int) (hx : U64 x) : IntKind.wrap .u8 (Int.fdiv x 4294967296) = ((UInt8.ofNat (x.toNat / 4294967296)).toNat : Int) := by
  unfold U64 at hx
  rw [wu8_mod, fdiv_pos _ (by omega), UInt8.toNat_ofNat']
  omega
theorem mask_loop {h00 : H} {h0 : Int} (hk : U64 h0) {l : List UInt8} (hl : l.length <= 2 ^ 47) : ∀ (k i : Nat) (out : Sl) (h : H), i + k = l.length -> BufB h out (mk h0 0 (l.take i) ++ l.drop i) -> EX h00 h -> Fr h00.size out ->
    ∃ h', loopO seal_Mask_l1 ((h0, (out, ((l.length : Int), (i : Int)))), h) = some (Sum.inl (out, h')) /\ BufB h' out (mk h0 0 l) /\ EX h00 h'
  | 0, i, out, h, hik, hb, hx, hf => by
    rw [List.take_of_length_le (by omega), List.drop_eq_nil_of_le (by omega), List.append_nil] at hb
    refine ⟨h, ?_, hb, hx⟩
    rw [loopO_eq]
    simp only [P.seal_Mask_l1, condK_eq, decide_eq_true_eq, show ¬ ((i : Int) < (l.length : Int)) by omega, if_false]
  | k + 1, i, out, h, hik, hb, hx, hf => by
    have hd : l.drop i = l.getD i 0 :: l.drop (i + 1) := by
      rw [List.drop_eq_getElem_cons (by omega)]
      simp [List.getD, show i < l.length by omega]
    have ht : l.take (i + 1) = l.take i ++ [l.getD i 0] := by
      rw [List.take_succ_eq_append_getElem (by omega)]
      simp [List.getD, show i < l.length by omega]
    have htl : (mk h0 0 (l.take i)).length = i := by rw [mk_length]; simp; omega
    have hlen : (mk h0 0 (l.take i) ++ l.drop i).length = l.length := by simp [htl]; omega
    obtain ⟨a, ha, e1, e2⟩ := hb.rd.at (i := (i : Int)) (by omega) (by rw [hlen]; omega)
    simp only [Int.toNat_natCast] at e1 e2
    have hg : (mk h0 0 (l.take i) ++ l.drop i).getD i 0 = l.getD i 0 := by
      rw [hd, List.getD, List.getElem?_append_right (by omega), htl]; simp
    rw [hg] at e2
    rw [loopO_eq]
    simp only [P.seal_Mask_l1, condK_eq, decide_eq_true_eq, show ((i : Int) < (l.length : Int)) by omega, if_true]
    rw [e1, bindO_some, e2, bindO_some, Step_f _ _ hk.1 hk.2, bind2_some, letO_eq, bindO_some, stepV_wrap]
    simp only
    rw [upper8 _ (stepV_rng _ _), xor8]
    obtain ⟨h1, e3, w1, b1, x1⟩ := st1_bufB (v := l.getD i 0 ^^^ UInt8.ofNat ((stepV h0 (i : Int)).toNat / 4294967296)) hb ha (i := i) (by rw [hlen]; omega) hx.wf
    rw [e3, bindO_some, e2, bindO_some]
    simp only [beq_self_eq_true, if_true]
    rw [w64 (by omega) (by omega)]
    have hset : (mk h0 0 (l.take i) ++ l.drop i).set i (l.getD i 0 ^^^ UInt8.ofNat ((stepV h0 (i : Int)).toNat / 4294967296)) = mk h0 0 (l.take (i + 1)) ++ l.drop (i + 1) := by
      rw [hd, List.set_append_right _ _ (by omega), htl, Nat.sub_self, List.set_cons_zero, ht, mk_append, List.append_assoc]
      have : (l.take i).length = i := by simp; omega
      simp [mk, this]
    rw [hset] at b1
    exact mask_loop hk hl k (i + 1) out h1 (by omega) b1 (x1 _ hx hf) hf
theorem Mask_f {h : H} {b : Sl} {l : List UInt8} {key num : Int} (w : WF h) (hr : RdB h b l) (hl : l.length <= 2 ^ 47) (hk : U64 key) : ∃ s h', seal_Mask key num b h = some (s, h') /\ EX h h' /\ RdB h' s (mk (stepV key num) 0 l) /\ Fr h.size s := by
  unfold seal_Mask P.seal_Mask
  rw [Step_f _ _ hk.1 hk.2, bind2_some, stepV_wrap]
  simp only
  obtain ⟨s1, h1, e1, x1, b1, f1, _⟩ := clone_f w hr hl
  rw [e1, bind2_some, b1.rd.len]
  simp only
  obtain ⟨h2, e2, b2, x2⟩ := mask_loop (h0 := stepV key num) (stepV_rng _ _) hl l.length 0 s1 h1 (by omega) (by simpa [mk] using b1) x1 f1
  simp only [seal_Mask_l1, Int.natCast_zero] at e2
  rw [e2, joinO_inl]
  simp only
  have hlen := b2.rd.len
  rw [mk_length] at hlen
  obtain ⟨s3, e3, r3, _, _, f3⟩ := clip_ok (by omega) (by unfold B63; omega) b2.rd (by rw [hlen]; unfold B63; omega)
  unfold slices_Clip_byte
  rw [e3, bindO_some, bind2_some]
  exact ⟨s3, h2, rfl, x2, r3, f3 _ f1⟩
end Go.Proofs.Ythiccnmplgdheaa.T
