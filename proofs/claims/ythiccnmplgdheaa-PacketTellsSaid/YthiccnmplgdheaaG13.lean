/- Lemmas about the typed texts (joined: SRef2 SRef4 SHead1). -/
import Derived.Test.YthiccnmplgdheaaG12
import Derived.Test.YthiccnmplgdheaaG10
import Derived.Test.YthiccnmplgdheaaTxt
import Derived.Test.YthiccnmplgdheaaG3
set_option linter.unusedVariables false
set_option linter.unusedSimpArgs false
namespace Go.Proofs.Ythiccnmplgdheaa.T
open Go Go.Abs Go.Proofs
theorem app_new {h : H} {x : Sl} {l : List UInt8} (w : WF h) (hr : RdB h x l) (hl : l.length <= 2 ^ 47) :
    ∃ s' h', appT 5 1 1 (newAt (grow h 1) h.size (row 5 [])) ⟨some ⟨h.size, 0, some 0⟩, 0, 0⟩ x = some (s', h') /\ EX h h' /\ BufB h' s' l /\ Fr h.size s' := by
  have x1 := wf_new w 5 (vB [])
  have b1 := bufB_new w 5 [] (by decide)
  rw [show row 5 [] = row 5 (vB []) from rfl]
  have f1 := fr_new h 0 0
  simp only [List.length_nil] at b1
  generalize newAt (grow h 1) h.size (row 5 (vB [])) = h1 at x1 b1 ⊢
  generalize (⟨some ⟨h.size, 0, some 0⟩, 0, 0⟩ : Sl) = s1 at b1 f1 ⊢
  obtain ⟨s', h', e2, k2, x2, b2, _, f2⟩ := appB_ok (e := 5) x1.wf b1 (hr.ex x1) (by simpa using hl)
  exact ⟨s', h', e2, x2 _ x1 f1, by simpa using b2, f2 _ x1.size f1⟩
def putV (l : List UInt8) (zs : List Int) : List UInt8 := if szV zs < 0 then [] else l ++ encs zs
theorem rput_l1 {h0 : H} {n : Sl} {zs : List Int} (hr : RdI .i64 h0 n zs) (hz : zs.length <= 2 ^ 47) (hall : ∀ x ∈ zs, okN x) : ∀ (k i : Nat) (out : Sl) (l : List UInt8) (h : H), i + k = zs.length -> BufB h out l -> EX h0 h -> Fr h0.size out -> l.length + 8 * k <= 2 ^ 47 ->
    ∃ out' h', loopO ref1_Put_l1 ((n, (out, (i : Int))), h) = some (Sum.inl (out', h')) /\ BufB h' out' (l ++ encs (zs.drop i)) /\ EX h0 h' /\ Fr h0.size out'
  | 0, i, out, l, h, hik, hb, hx, hf, hl => by
    have : zs.drop i = [] := List.drop_eq_nil_of_le (by omega)
    rw [this]
    refine ⟨out, h, ?_, by simpa [encs] using hb, hx, hf⟩
    rw [loopO_eq]
    simp only [P.ref1_Put_l1, condK_eq, decide_eq_true_eq, hr.len, show ¬ ((i : Int) < (zs.length : Int)) by omega, if_false]
  | k + 1, i, out, l, h, hik, hb, hx, hf, hl => by
    have hd := drop_getD (zs := zs) (i := i) (by omega)
    obtain ⟨a, ha, e1, e2⟩ := (hr.ex hx).at (i := (i : Int)) (by omega) (by omega)
    simp only [Int.toNat_natCast] at e1 e2
    have hok : okN (zs.getD i 0) := hall _ (List.mem_of_mem_drop (by rw [hd]; exact List.mem_cons_self ..))
    have hs := sz_pos (zs.getD i 0)
    have hel := enc_length (zs.getD i 0)
    obtain ⟨out1, h1, e3, b1, x1, f1⟩ := rput_f hok hb hx hf (by omega)
    obtain ⟨out', h', e8, b5, x5, f5⟩ := rput_l1 hr hz hall k (i + 1) out1 _ h1 (by omega) b1 x1 f1 (by rw [List.length_append]; omega)
    refine ⟨out', h', ?_, ?_, x5, f5⟩
    · rw [loopO_eq]
      simp only [P.ref1_Put_l1, condK_eq, decide_eq_true_eq, hr.len, show ((i : Int) < (zs.length : Int)) by omega, if_true]
      rw [e1, bindO_some, e2, bindO_some, e3, bind2_some]
      simp only
      rw [w64 (by omega) (by omega)]
      exact e8
    · rw [hd]; simpa [encs] using b5
theorem RPut_f {h : H} {b n : Sl} {l : List UInt8} {zs : List Int} (w : WF h) (hb : RdB h b l) (hr : RdI .i64 h n zs) (hl : l.length + 8 * zs.length <= 2 ^ 47) :
    ∃ s' h', ref1_Put b n h = some (s', h') /\ EX h h' /\ BufB h' s' (putV l zs) /\ Fr h.size s' := by
  unfold ref1_Put P.ref1_Put putV
  rw [RSize_f hr (by omega), bind2_some]
  simp only [condK_eq, decide_eq_true_eq]
  by_cases hs : szV zs < 0
  · simp only [hs, if_true]
    exact ⟨_, h, rfl, EX.refl w, buf_nil 1 h, fr_nil _⟩
  · simp only [hs, if_false]
    have hall : ∀ x ∈ zs, okN x := by
      have := szV_neg zs
      exact Decidable.not_not.1 fun hn => hs (this.2 hn)
    rw [newO_eq]
    obtain ⟨s1, h1, e1, x1, b1, f1⟩ := app_new w hb (by omega)
    rw [e1, bind2_some]
    simp only
    obtain ⟨out', h', e2, b2, x2, f2⟩ := rput_l1 hr (by omega) hall zs.length 0 s1 l h1 (by omega) b1 x1 f1 (by omega)
    simp only [ref1_Put_l1, Int.natCast_zero, List.drop_zero] at e2 b2
    rw [e2, joinO_inl]
    exact ⟨out', h', rfl, x2, b2, f2⟩
theorem rtake_l1 {b : Sl} {h : H} : ∀ (q k : Nat), q <= 3 -> k * 2 ^ q <= 64 -> loopO ref1_Take_l1 ((b, ((k : Int), (q : Int))), h) = some (Sum.inl ((b, ((k * 2 ^ q : Nat) : Int)), h))
  | 0, k, hq, hk => by
    rw [loopO_eq]
    simp only [ref1_Take_l1, condK_eq, decide_eq_true_eq, show ¬ (((0 : Nat) : Int) > 0) by omega, if_false, Nat.pow_zero, Nat.mul_one]
  | q + 1, k, hq, hk => by
    have e : k * 2 ^ (q + 1) = 2 * k * 2 ^ q := by rw [Nat.pow_succ, Nat.mul_comm 2 k, Nat.mul_assoc, Nat.mul_comm 2]
    rw [e] at hk ⊢
    have h1 : 2 * k <= 2 * k * 2 ^ q := Nat.le_mul_of_pos_right _ (Nat.pow_pos (by omega))
    rw [loopO_eq]
    simp only [ref1_Take_l1, condK_eq, decide_eq_true_eq, show (((q + 1 : Nat) : Int) > 0) by omega, if_true]
    rw [w64 (by omega) (by omega), wu8 (by omega) (by omega), show (2 : Int) * (k : Int) = ((2 * k : Nat) : Int) by omega, show ((q + 1 : Nat) : Int) - 1 = (q : Int) by omega]
    exact rtake_l1 q (2 * k) (by omega) hk
theorem rtake_l2 {h : H} {b : Sl} {l : List UInt8} {K : Nat} (hr : RdB h b l) (hK : K <= l.length) (hK8 : K <= 8) : ∀ (j i n : Nat), 1 <= i -> i + j = K -> n < 64 * 256 ^ (i - 1) ->
    loopO ref1_Take_l2 ((b, ((K : Int), ((n : Int), (i : Int)))), h) = some (Sum.inl ((b, ((K : Int), (val n ((l.drop i).take j) : Int))), h))
  | 0, i, n, hi, hij, hn => by
    rw [loopO_eq]
    simp only [ref1_Take_l2, condK_eq, decide_eq_true_eq, show ¬ ((i : Int) < (K : Int)) by omega, if_false, List.take_zero]
    rfl
  | j + 1, i, n, hi, hij, hn => by
    obtain ⟨a, ha, e1, e2⟩ := hr.at (i := (i : Int)) (by omega) (by omega)
    simp only [Int.toNat_natCast] at e1 e2
    have hd : l.drop i = l.getD i 0 :: l.drop (i + 1) := by
      rw [List.drop_eq_getElem_cons (by omega)]
      simp [List.getD, show i < l.length by omega]
    have hc := (l.getD i 0).toNat_lt
    have hp : 256 ^ (i - 1) <= 256 ^ 6 := Nat.pow_le_pow_right (by omega) (by omega)
    rw [loopO_eq]
    simp only [ref1_Take_l2, condK_eq, decide_eq_true_eq, show ((i : Int) < (K : Int)) by omega, if_true]
    rw [e1, bindO_some, e2, bindO_some, letO_eq, w64 (n := 256 * (n : Int)) (by omega) (by omega), w64 (n := ((l.getD i 0).toNat : Int)) (by omega) (by omega), w64 (n := 256 * (n : Int) + _) (by omega) (by omega), w64 (n := (i : Int) + 1) (by omega) (by omega)]
    have hpw : 256 ^ (i + 1 - 1) = 256 ^ (i - 1) * 256 := by rw [<- Nat.pow_succ]; congr 1; omega
    have := rtake_l2 hr hK hK8 j (i + 1) (n * 256 + (l.getD i 0).toNat) (by omega) (by omega) (by rw [hpw]; omega)
    rw [hd, List.take_succ_cons, show 256 * (n : Int) + ((l.getD i 0).toNat : Int) = ((n * 256 + (l.getD i 0).toNat : Nat) : Int) by omega]
    exact this
theorem RTake_f {h : H} {b : Sl} {l : List UInt8} (w : WF h) (hr : RdB h b l) (hl : l.length <= 2 ^ 47) : ∃ r h', ref1_Take b h = some (((tk l).1, (r, (tk l).2.2)), h') /\ EX h h' /\ RdB h' r (tk l).2.1 := by
  unfold ref1_Take
  cases l with
  | nil =>
    rw [hr.len]
    simp only [List.length_nil, Int.natCast_zero, beq_self_eq_true, condK_eq, if_true, tk]
    exact ⟨_, h, rfl, EX.refl w, rd_nil 1 h⟩
  | cons c t =>
    obtain ⟨a, ha, e1, e2⟩ := hr.at (i := 0) (by omega) (by simp)
    simp only [Int.toNat_zero, List.getD_cons_zero] at e1 e2
    obtain ⟨e3, s1, s2⟩ := tsz_shl c
    have hc := c.toNat_lt
    have hz : ((b.len : Int) == 0) = false := by rw [hr.len]; simp; omega
    rw [hz]
    simp only [condK_eq, Bool.false_eq_true, if_false, e1, bindO_some, e2]
    have hq : IntKind.wrap .u8 (Int.tdiv (c.toNat : Int) 64) = ((c.toNat / 64 : Nat) : Int) := by
      rw [Int.tdiv_eq_ediv_of_nonneg (by omega), wu8 (by omega) (by omega)]; omega
    have ht := rtake_l1 (b := b) (h := h) (c.toNat / 64) 1 (by omega) (by
      rcases (by omega : c.toNat / 64 = 0 \/ c.toNat / 64 = 1 \/ c.toNat / 64 = 2 \/ c.toNat / 64 = 3) with e | e | e | e <;> rw [e] <;> decide)
    rw [Nat.one_mul, Int.natCast_one] at ht
    rw [hq, ht, joinO_inl]
    simp only [hr.len, decide_eq_true_eq]
    rw [show (2 : Nat) ^ (c.toNat / 64) = tsz c from rfl]
    by_cases hsh : t.length + 1 < tsz c
    · simp only [tk, hsh, if_true]
      rw [if_pos (by simp; omega)]
      exact ⟨_, h, rfl, EX.refl w, rd_nil 1 h⟩
    · simp only [tk, hsh, if_false]
      rw [if_neg (by simp; omega), e1, bindO_some, e2, bindO_some]
      have hm : IntKind.wrap .i64 (Int.tmod (c.toNat : Int) 64) = ((c.toNat % 64 : Nat) : Int) := by
        rw [Int.tmod_eq_emod_of_nonneg (by omega), w64 (by omega) (by omega)]; omega
      have h2 := rtake_l2 hr (K := tsz c) (by simp; omega) s2 (tsz c - 1) 1 (c.toNat % 64) (by omega) (by omega) (by omega)
      rw [List.drop_succ_cons, List.drop_zero, Int.natCast_one] at h2
      rw [hm, h2, joinO_inl]
      simp only
      rw [newO_eq]
      have x1 := wf_new w 5 (vB [])
      obtain ⟨x6, e5, r5, l5, _⟩ := sl_lo (h := newAt (grow h 1) h.size (row 5 [])) (lo := (tsz c : Int)) (by omega) (by unfold B63; omega) (hr.ex x1) (by omega) (by rw [hr.len]; simp; omega)
      rw [e5, bindO_some]
      have e5' := sl_lo (h := h) (lo := (tsz c : Int)) (by omega) (by unfold B63; omega) hr (by omega) (by rw [hr.len]; simp; omega)
      obtain ⟨x7, e7, r7, l7, s7, _⟩ := e5'
      obtain ⟨x8, e8, r8, l8, s8, _⟩ := sl_lo (h := newAt (grow h 1) h.size (row 5 [])) (lo := (tsz c : Int)) (by omega) (by unfold B63; omega) (hr.ex x1) (by omega) (by rw [hr.len]; simp; omega)
      have h68 : x6 = x8 := by rw [e5] at e8; exact Option.some.inj e8
      have h67 : x6 = x7 := by rw [h68, s8, s7]
      have hr6 : RdB h x6 (t.drop (tsz c - 1)) := by
        rw [h67]
        obtain ⟨m, hm⟩ : ∃ m, tsz c = m + 1 := ⟨tsz c - 1, by omega⟩
        simp only [vB, Int.toNat_natCast, Nat.mul_one, List.map_cons, hm, List.drop_succ_cons] at r7
        unfold RdB vB
        rw [hm, List.map_drop]; exact r7
      obtain ⟨s', h', e6, x6', b6, _⟩ := app_new w hr6 (by simp at hl ⊢; omega)
      rw [e6, bind2_some]
      exact ⟨s', h', rfl, x6', b6.rd⟩
theorem turned (n : Nat) (hn : n < 18446744073709551616) : BitVec.ofInt 64 (IntKind.wrap .u64 ((IntKind.wrap .u64 ((n : Int) * 8192)) + (IntKind.wrap .u64 (Int.tdiv (n : Int) 2251799813685248)))) = BitVec.ofInt 64 (n : Int) <<< 13 ||| BitVec.ofInt 64 (n : Int) >>> 51 := by
  apply BitVec.eq_of_toNat_eq
  rw [Int.tdiv_eq_ediv_of_nonneg (by omega), wu64_mod, wu64_mod, wu64_mod]
  simp only [BitVec.toNat_or, BitVec.toNat_shiftLeft, BitVec.toNat_ushiftRight, BitVec.ofInt_natCast, BitVec.toNat_ofNat, BitVec.toNat_ofInt, Nat.shiftRight_eq_div_pow]
  have e := Nat.shiftLeft_add_eq_or_of_lt (i := 13) (b := n / 2 ^ 51) (by omega) (n % 2 ^ 51)
  rw [Nat.mod_eq_of_lt (show n < 2 ^ 64 by omega)]
  have e2 : n <<< 13 % 2 ^ 64 = (n % 2 ^ 51) <<< 13 := by
    rw [Nat.shiftLeft_eq, Nat.shiftLeft_eq]; omega
  rw [e2, <- e, Nat.shiftLeft_eq]
  omega
theorem RStep_f (x c : Int) (h0 : 0 <= x) (h1 : x < 18446744073709551616) (h : H) : ref1_Step x c h = some (stepV x c, h) := by
  obtain ⟨n, rfl⟩ : ∃ n : Nat, x = n := ⟨x.toNat, (Int.toNat_of_nonneg h0).symm⟩
  unfold ref1_Step
  simp only [letO_eq]
  rw [turned n (by omega)]
  unfold stepV stepB
  generalize (BitVec.ofInt 64 (n : Int) <<< 13 ||| BitVec.ofInt 64 (n : Int) >>> 51) ^^^ BitVec.ofInt 64 c = z
  have hz := z.isLt
  rw [wu64 (n := (z.toNat : Int)) (by omega) (by omega), wu64_mod]
  have hm : (z * 15485907386658061715#64).toNat = z.toNat * 15485907386658061715 % 2 ^ 64 := by
    rw [BitVec.toNat_mul]; rfl
  rw [hm]
  congr 2
theorem rtag_l2 {h : H} {parts s : Sl} {xs : List Sl} {l : List UInt8} {j : Nat} (hp : RdS h parts xs) (hj : xs[j]? = some s) (hr : RdB h s l) (hl : l.length <= 2 ^ 47) : ∀ (k i : Nat) (key : Int), i + k = l.length -> U64 key ->
    loopO ref1_Tag_l2 ((parts, (key, ((j : Int), (i : Int)))), h) = some (Sum.inl ((parts, (bytesTag key (l.drop i), (j : Int))), h))
  | 0, i, key, hik, hk => by
    obtain ⟨a, p1, p2⟩ := hp.at hj
    rw [loopO_eq, List.drop_eq_nil_of_le (by omega)]
    simp only [P.ref1_Tag_l2, p1, bindO_some, p2, hr.len, condK_eq, decide_eq_true_eq, show ¬ ((i : Int) < (l.length : Int)) by omega, if_false]
    rfl
  | k + 1, i, key, hik, hk => by
    obtain ⟨a, p1, p2⟩ := hp.at hj
    obtain ⟨c, hc, e1, e2⟩ := hr.at (i := (i : Int)) (by omega) (by omega)
    simp only [Int.toNat_natCast] at e1 e2
    have hd : l.drop i = l.getD i 0 :: l.drop (i + 1) := by
      rw [List.drop_eq_getElem_cons (by omega)]
      simp [List.getD, show i < l.length by omega]
    rw [loopO_eq]
    simp only [P.ref1_Tag_l2, p1, bindO_some, p2, hr.len, condK_eq, decide_eq_true_eq, show ((i : Int) < (l.length : Int)) by omega, if_true]
    rw [e1, bindO_some, e2, bindO_some, RStep_f _ _ hk.1 hk.2, bind2_some, stepV_wrap, w64 (by omega) (by omega), hd]
    exact rtag_l2 hp hj hr hl k (i + 1) _ (by omega) (stepV_rng _ _)
theorem rtag_l1 {h : H} {parts : Sl} {xs : List Sl} {ls : List (List UInt8)} (hp : RdS h parts xs) (hx : RdBs h xs ls) (hn : xs.length <= 2 ^ 47) : ∀ (k i : Nat) (key : Int), i + k = xs.length -> U64 key ->
    loopO ref1_Tag_l1 ((parts, (key, (i : Int))), h) = some (Sum.inl (tagV key (ls.drop i), h))
  | 0, i, key, hik, hk => by
    rw [loopO_eq, List.drop_eq_nil_of_le (by rw [RdBs.length hx]; omega)]
    simp only [P.ref1_Tag_l1, hp.len, condK_eq, decide_eq_true_eq, show ¬ ((i : Int) < (xs.length : Int)) by omega, if_false]
    rfl
  | k + 1, i, key, hik, hk => by
    obtain ⟨x, l, g1, g2, g3, g4⟩ := RdBs.get i hx (by omega)
    obtain ⟨a, e1, e2⟩ := hp.at g1
    rw [loopO_eq]
    simp only [P.ref1_Tag_l1, hp.len, condK_eq, decide_eq_true_eq, show ((i : Int) < (xs.length : Int)) by omega, if_true]
    have e3 := rtag_l2 hp g1 g3 g4 l.length 0 key (by omega) hk
    simp only [ref1_Tag_l2, Int.natCast_zero, List.drop_zero] at e3
    rw [e3, joinO_inl]
    simp only
    have hb := bytesTag_rng l key hk
    rw [e1, bindO_some, e2, bindO_some, g3.len, wu64 (n := ((l.length : Nat) : Int)) (by omega) (by omega), RStep_f _ _ hb.1 hb.2, bind2_some, joinO_inl, stepV_wrap]
    simp only
    rw [w64 (by omega) (by omega), g2]
    exact rtag_l1 hp hx hn k (i + 1) _ (by omega) (stepV_rng _ _)
theorem RTag_f {h : H} {parts : Sl} {xs : List Sl} {ls : List (List UInt8)} {key : Int} (hp : RdS h parts xs) (hx : RdBs h xs ls) (hn : xs.length <= 2 ^ 47) (hk : U64 key) : ref1_Tag key parts h = some (tagV key ls, h) := by
  unfold ref1_Tag P.ref1_Tag
  have := rtag_l1 hp hx hn xs.length 0 key (by omega) hk
  simp only [ref1_Tag_l1, Int.natCast_zero, List.drop_zero] at this
  rw [this, joinO_inl]
theorem eight_b (Q : Nat) : IntKind.wrap .u8 (Int.tmod (Q : Int) 256) = ((UInt8.ofNat Q).toNat : Int) := by
  rw [Int.tmod_eq_emod_of_nonneg (by omega), wu8_mod, UInt8.toNat_ofNat']; omega
theorem eight_d (Q : Nat) (h : Q < 18446744073709551616) : IntKind.wrap .u64 (Int.tdiv (Q : Int) 256) = ((Q / 256 : Nat) : Int) := by
  rw [Int.tdiv_eq_ediv_of_nonneg (by omega), wu64 (by omega) (by omega)]; omega
theorem eight_loop {N : Nat} {b : Sl} {h0 : H} (hN : N < 18446744073709551616) : ∀ (j : Nat) (h : H), j <= 8 -> BufB h b (List.replicate j 0 ++ be (8 - j) N) -> EX h0 h -> Fr h0.size b ->
    ∃ h', loopO ref1_eight_l1 ((((N / 256 ^ (8 - j) : Nat) : Int), (b, (j : Int) - 1)), h) = some (Sum.inl (b, h')) /\ BufB h' b (be 8 N) /\ EX h0 h'
  | 0, h, hj, hb, hx, hf => by
    refine ⟨h, ?_, by simpa using hb, hx⟩
    rw [loopO_eq]
    simp only [ref1_eight_l1, condK_eq, decide_eq_true_eq, show ¬ ((((0 : Nat) : Int)) - 1 >= 0) by omega, if_false]
  | j + 1, h, hj, hb, hx, hf => by
    have hlen : (List.replicate (j + 1) (0 : UInt8) ++ be (8 - (j + 1)) N).length = 8 := by simp [be_length]; omega
    obtain ⟨a, ha, e1, _⟩ := hb.rd.at (i := (j : Int)) (by omega) (by rw [hlen]; omega)
    simp only [Int.toNat_natCast] at e1
    rw [loopO_eq]
    simp only [ref1_eight_l1, condK_eq, decide_eq_true_eq]
    rw [show (((j + 1 : Nat) : Int)) - 1 = (j : Int) by omega, if_pos (by omega), e1, bindO_some]
    have hq : N / 256 ^ (8 - (j + 1)) <= N := Nat.div_le_self _ _
    have eb := eight_b (N / 256 ^ (8 - (j + 1)))
    rw [eb]
    obtain ⟨h1, e2, w1, b1, x1⟩ := st1_bufB (v := UInt8.ofNat (N / 256 ^ (8 - (j + 1)))) hb ha (i := j) (by rw [hlen]; omega) hx.wf
    rw [e2, bindO_some]
    have hset : (List.replicate (j + 1) (0 : UInt8) ++ be (8 - (j + 1)) N).set j (UInt8.ofNat (N / 256 ^ (8 - (j + 1)))) = List.replicate j 0 ++ be (8 - j) N := by
      rw [List.replicate_succ', List.append_assoc, List.set_append_right _ _ (by simp)]
      obtain ⟨m, hm⟩ : ∃ m, 8 - j = m + 1 := ⟨8 - j - 1, by omega⟩
      rw [hm, show 8 - (j + 1) = m by omega]
      simp [be]
    rw [hset] at b1
    have ed : IntKind.wrap .u64 (Int.tdiv ((N / 256 ^ (8 - (j + 1)) : Nat) : Int) 256) = ((N / 256 ^ (8 - j) : Nat) : Int) := by
      rw [eight_d _ (Nat.lt_of_le_of_lt hq hN), Nat.div_div_eq_div_mul, <- Nat.pow_succ, show (8 - (j + 1)).succ = 8 - j by omega]
    rw [ed, w64 (by omega) (by omega)]
    exact eight_loop hN j h1 (by omega) b1 (x1 _ hx hf) hf
theorem Eight_f {h : H} {x : Int} (w : WF h) (hx : U64 x) : ∃ s h', ref1_eight x h = some (s, h') /\ EX h h' /\ BufB h' s (be 8 x.toNat) /\ Fr h.size s := by
  obtain ⟨h1, e1, x1, b1⟩ := mkT_ok (e := 5) w (k := 8) (by omega)
  unfold U64 at hx
  have f1 := fr_new h 8 8
  unfold ref1_eight
  rw [show (8 : Int) = ((8 : Nat) : Int) from rfl, e1, bind2_some]
  dsimp only
  obtain ⟨h', e2, b2, x2⟩ := eight_loop (N := x.toNat) (b := ⟨some ⟨h.size, 0, some 0⟩, 8, 8⟩) (h0 := h) (by omega) 8 h1 (by omega) (by simpa [be] using b1) x1 f1
  rw [Nat.sub_self, Nat.pow_zero, Nat.div_one, Int.toNat_of_nonneg hx.1, show (((8 : Nat) : Int) - 1) = 7 from rfl] at e2
  rw [e2, joinO_inl]
  exact ⟨_, h', rfl, x2, b2, f1⟩
end Go.Proofs.Ythiccnmplgdheaa.T
