/- The reference's functions of chapter 4 over the typed texts: steps, tags, a tag's bytes. -/
import Derived.Test.YtejdeibmhlcnbaaSSeal5
set_option linter.unusedVariables false
set_option linter.unusedSimpArgs false
namespace Go.Proofs.Ytejdeibmhlcnbaa.T
open Go Go.Abs Go.Proofs
theorem turned (n : Nat) (hn : n < 18446744073709551616) : BitVec.ofInt 64 (IntKind.wrap .u64 ((IntKind.wrap .u64 ((n : Int) * 8192)) + (IntKind.wrap .u64 (Int.tdiv (n : Int) 2251799813685248)))) = BitVec.ofInt 64 (n : Int) <<< 13 ||| BitVec.ofInt 64 (n : Int) >>> 51 := by
  apply BitVec.eq_of_toNat_eq
  rw [Int.tdiv_eq_ediv_of_nonneg (by omega), wu64_mod, wu64_mod, wu64_mod]
  simp only [BitVec.toNat_or, BitVec.toNat_shiftLeft, BitVec.toNat_ushiftRight, BitVec.ofInt_natCast, BitVec.toNat_ofNat, BitVec.toNat_ofInt, Nat.shiftRight_eq_div_pow]
  have e := Nat.shiftLeft_add_eq_or_of_lt (i := 13) (b := n / 2 ^ 51) (by omega) (n % 2 ^ 51)
  rw [Nat.mod_eq_of_lt (show n < 2 ^ 64 by omega)]
  have e2 : n <<< 13 % 2 ^ 64 = (n % 2 ^ 51) <<< 13 := by
    rw [Nat.shiftLeft_eq, Nat.shiftLeft_eq]; omega
  rw [e2, ← e, Nat.shiftLeft_eq]
  omega
theorem RStep_f (x c : Int) (h0 : 0 ≤ x) (h1 : x < 18446744073709551616) (h : H) : ref1_Step x c h = some (stepV x c, h) := by
  obtain ⟨n, rfl⟩ : ∃ n : Nat, x = n := ⟨x.toNat, (Int.toNat_of_nonneg h0).symm⟩
  unfold ref1_Step
  simp only [letO_eq]
  rw [turned n (by omega)]
  unfold stepV stepB
  generalize (BitVec.ofInt 64 (n : Int) <<< 13 ||| BitVec.ofInt 64 (n : Int) >>> 51) ^^^ BitVec.ofInt 64 c = z
  have hz := z.isLt
  rw [wu64 (n := (z.toNat : Int)) (by omega) (by omega), wu64_mod]
  have hm : (z * 15485907386658061715#64).toNat = z.toNat * 15485907386658061715 % 2 ^ 64 := by
    rw [BitVec.toNat_mul]; rfl
  rw [hm]
  congr 2
theorem rtag_l2 {h : H} {parts s : Sl} {xs : List Sl} {l : List UInt8} {j : Nat} (hp : RdS h parts xs) (hj : xs[j]? = some s) (hr : RdB h s l) (hl : l.length ≤ 2 ^ 47) : ∀ (k i : Nat) (key : Int), i + k = l.length → U64 key →
    loopO ref1_Tag_l2 ((parts, (key, ((j : Int), (i : Int)))), h) = some (Sum.inl ((parts, (bytesTag key (l.drop i), (j : Int))), h))
  | 0, i, key, hik, hk => by
    obtain ⟨a, p1, p2⟩ := hp.at hj
    rw [loopO_eq, List.drop_eq_nil_of_le (by omega)]
    simp only [P.ref1_Tag_l2, p1, bindO_some, p2, hr.len, condK_eq, decide_eq_true_eq, show ¬ ((i : Int) < (l.length : Int)) by omega, if_false]
    rfl
  | k + 1, i, key, hik, hk => by
    obtain ⟨a, p1, p2⟩ := hp.at hj
    obtain ⟨c, hc, e1, e2⟩ := hr.at (i := (i : Int)) (by omega) (by omega)
    simp only [Int.toNat_natCast] at e1 e2
    have hd : l.drop i = l.getD i 0 :: l.drop (i + 1) := by
      rw [List.drop_eq_getElem_cons (by omega)]
      simp [List.getD, show i < l.length by omega]
    rw [loopO_eq]
    simp only [P.ref1_Tag_l2, p1, bindO_some, p2, hr.len, condK_eq, decide_eq_true_eq, show ((i : Int) < (l.length : Int)) by omega, if_true]
    rw [e1, bindO_some, e2, bindO_some, RStep_f _ _ hk.1 hk.2, bind2_some, stepV_wrap, w64 (by omega) (by omega), hd]
    exact rtag_l2 hp hj hr hl k (i + 1) _ (by omega) (stepV_rng _ _)
theorem rtag_l1 {h : H} {parts : Sl} {xs : List Sl} {ls : List (List UInt8)} (hp : RdS h parts xs) (hx : RdBs h xs ls) (hn : xs.length ≤ 2 ^ 47) : ∀ (k i : Nat) (key : Int), i + k = xs.length → U64 key →
    loopO ref1_Tag_l1 ((parts, (key, (i : Int))), h) = some (Sum.inl (tagV key (ls.drop i), h))
  | 0, i, key, hik, hk => by
    rw [loopO_eq, List.drop_eq_nil_of_le (by rw [RdBs.length hx]; omega)]
    simp only [P.ref1_Tag_l1, hp.len, condK_eq, decide_eq_true_eq, show ¬ ((i : Int) < (xs.length : Int)) by omega, if_false]
    rfl
  | k + 1, i, key, hik, hk => by
    obtain ⟨x, l, g1, g2, g3, g4⟩ := RdBs.get i hx (by omega)
    obtain ⟨a, e1, e2⟩ := hp.at g1
    rw [loopO_eq]
    simp only [P.ref1_Tag_l1, hp.len, condK_eq, decide_eq_true_eq, show ((i : Int) < (xs.length : Int)) by omega, if_true]
    have e3 := rtag_l2 hp g1 g3 g4 l.length 0 key (by omega) hk
    simp only [ref1_Tag_l2, Int.natCast_zero, List.drop_zero] at e3
    rw [e3, joinO_inl]
    simp only
    have hb := bytesTag_rng l key hk
    rw [e1, bindO_some, e2, bindO_some, g3.len, wu64 (n := ((l.length : Nat) : Int)) (by omega) (by omega), RStep_f _ _ hb.1 hb.2, bind2_some, joinO_inl, stepV_wrap]
    simp only
    rw [w64 (by omega) (by omega), g2]
    exact rtag_l1 hp hx hn k (i + 1) _ (by omega) (stepV_rng _ _)
theorem RTag_f {h : H} {parts : Sl} {xs : List Sl} {ls : List (List UInt8)} {key : Int} (hp : RdS h parts xs) (hx : RdBs h xs ls) (hn : xs.length ≤ 2 ^ 47) (hk : U64 key) : ref1_Tag key parts h = some (tagV key ls, h) := by
  unfold ref1_Tag P.ref1_Tag
  have := rtag_l1 hp hx hn xs.length 0 key (by omega) hk
  simp only [ref1_Tag_l1, Int.natCast_zero, List.drop_zero] at this
  rw [this, joinO_inl]
theorem eight_b (Q : Nat) : IntKind.wrap .u8 (Int.tmod (Q : Int) 256) = ((UInt8.ofNat Q).toNat : Int) := by
  rw [Int.tmod_eq_emod_of_nonneg (by omega), wu8_mod, UInt8.toNat_ofNat']; omega
theorem eight_d (Q : Nat) (h : Q < 18446744073709551616) : IntKind.wrap .u64 (Int.tdiv (Q : Int) 256) = ((Q / 256 : Nat) : Int) := by
  rw [Int.tdiv_eq_ediv_of_nonneg (by omega), wu64 (by omega) (by omega)]; omega
theorem eight_loop {N : Nat} {b : Sl} {h0 : H} (hN : N < 18446744073709551616) : ∀ (j : Nat) (h : H), j ≤ 8 → BufB h b (List.replicate j 0 ++ be (8 - j) N) → EX h0 h → Fr h0.size b →
    ∃ h', loopO ref1_eight_l1 ((((N / 256 ^ (8 - j) : Nat) : Int), (b, (j : Int) - 1)), h) = some (Sum.inl (b, h')) ∧ BufB h' b (be 8 N) ∧ EX h0 h'
  | 0, h, hj, hb, hx, hf => by
    refine ⟨h, ?_, by simpa using hb, hx⟩
    rw [loopO_eq]
    simp only [ref1_eight_l1, condK_eq, decide_eq_true_eq, show ¬ ((((0 : Nat) : Int)) - 1 ≥ 0) by omega, if_false]
  | j + 1, h, hj, hb, hx, hf => by
    have hlen : (List.replicate (j + 1) (0 : UInt8) ++ be (8 - (j + 1)) N).length = 8 := by simp [be_length]; omega
    obtain ⟨a, ha, e1, _⟩ := hb.rd.at (i := (j : Int)) (by omega) (by rw [hlen]; omega)
    simp only [Int.toNat_natCast] at e1
    rw [loopO_eq]
    simp only [ref1_eight_l1, condK_eq, decide_eq_true_eq]
    rw [show (((j + 1 : Nat) : Int)) - 1 = (j : Int) by omega, if_pos (by omega), e1, bindO_some]
    have hq : N / 256 ^ (8 - (j + 1)) ≤ N := Nat.div_le_self _ _
    have eb := eight_b (N / 256 ^ (8 - (j + 1)))
    rw [eb]
    obtain ⟨h1, e2, w1, b1, x1⟩ := st1_bufB (v := UInt8.ofNat (N / 256 ^ (8 - (j + 1)))) hb ha (i := j) (by rw [hlen]; omega) hx.wf
    rw [e2, bindO_some]
    have hset : (List.replicate (j + 1) (0 : UInt8) ++ be (8 - (j + 1)) N).set j (UInt8.ofNat (N / 256 ^ (8 - (j + 1)))) = List.replicate j 0 ++ be (8 - j) N := by
      rw [List.replicate_succ', List.append_assoc, List.set_append_right _ _ (by simp)]
      obtain ⟨m, hm⟩ : ∃ m, 8 - j = m + 1 := ⟨8 - j - 1, by omega⟩
      rw [hm, show 8 - (j + 1) = m by omega]
      simp [be]
    rw [hset] at b1
    have ed : IntKind.wrap .u64 (Int.tdiv ((N / 256 ^ (8 - (j + 1)) : Nat) : Int) 256) = ((N / 256 ^ (8 - j) : Nat) : Int) := by
      rw [eight_d _ (Nat.lt_of_le_of_lt hq hN), Nat.div_div_eq_div_mul, ← Nat.pow_succ, show (8 - (j + 1)).succ = 8 - j by omega]
    rw [ed, w64 (by omega) (by omega)]
    exact eight_loop hN j h1 (by omega) b1 (x1 _ hx hf) hf
theorem Eight_f {h : H} {x : Int} (w : WF h) (hx : U64 x) : ∃ s h', ref1_eight x h = some (s, h') ∧ EX h h' ∧ BufB h' s (be 8 x.toNat) ∧ Fr h.size s := by
  obtain ⟨h1, e1, x1, b1⟩ := mkT_ok (e := 5) w (k := 8) (by omega)
  unfold U64 at hx
  have f1 := fr_new h 8 8
  unfold ref1_eight
  rw [show (8 : Int) = ((8 : Nat) : Int) from rfl, e1, bind2_some]
  dsimp only
  obtain ⟨h', e2, b2, x2⟩ := eight_loop (N := x.toNat) (b := ⟨some ⟨h.size, 0, some 0⟩, 8, 8⟩) (h0 := h) (by omega) 8 h1 (by omega) (by simpa [be] using b1) x1 f1
  rw [Nat.sub_self, Nat.pow_zero, Nat.div_one, Int.toNat_of_nonneg hx.1, show (((8 : Nat) : Int) - 1) = 7 from rfl] at e2
  rw [e2, joinO_inl]
  exact ⟨_, h', rfl, x2, b2, f1⟩
theorem rmask_loop {H0 : H} {b : Sl} {l : List UInt8} {key num : Int} (hk : U64 key) (hr : RdB H0 b l) (hl : l.length ≤ 2 ^ 47) : ∀ (k i : Nat) (out : Sl) (h : H), i + k = l.length → BufB h out (mk (stepV key num) 0 (l.take i)) → EX H0 h → Fr H0.size out →
    ∃ out' h', loopO ref1_Mask_l1 ((key, (num, (b, (out, (i : Int))))), h) = some (Sum.inl (out', h')) ∧ BufB h' out' (mk (stepV key num) 0 l) ∧ EX H0 h' ∧ Fr H0.size out'
  | 0, i, out, h, hik, hb, hx, hf => by
    rw [List.take_of_length_le (by omega)] at hb
    refine ⟨out, h, ?_, hb, hx, hf⟩
    rw [loopO_eq]
    simp only [P.ref1_Mask_l1, condK_eq, decide_eq_true_eq, hr.len, show ¬ ((i : Int) < (l.length : Int)) by omega, if_false]
  | k + 1, i, out, h, hik, hb, hx, hf => by
    have hd : l.drop i = l.getD i 0 :: l.drop (i + 1) := by
      rw [List.drop_eq_getElem_cons (by omega)]
      simp [List.getD, show i < l.length by omega]
    have ht : l.take (i + 1) = l.take i ++ [l.getD i 0] := by
      rw [List.take_succ_eq_append_getElem (by omega)]
      simp [List.getD, show i < l.length by omega]
    have w := hx.wf
    have xG := ex_growIf w 18
    have hGs := growIf_size h 18
    have hn : (growIf h 18).objs.get (h.size + 15) = none := by rw [growIf_eq]; exact w.top _ (by omega)
    have hro : (growIf h 18).nro ≤ h.size + 15 := by have := xG.nro; have := w.nro; omega
    obtain ⟨a, ha, e1, e2⟩ := (hr.ex (hx.trans xG)).at (i := (i : Int)) (by omega) (by omega)
    simp only [Int.toNat_natCast] at e1 e2
    have rs := stepV_rng key num
    rw [loopO_eq]
    simp only [P.ref1_Mask_l1]
    rw [condK_eq, if_pos (by rw [hr.len]; simp; omega), e1, bindO_some, e2, bindO_some, RStep_f _ _ hk.1 hk.2, bind2_some, stepV_wrap]
    dsimp only
    rw [RStep_f _ _ rs.1 rs.2, bind2_some, stepV_wrap]
    dsimp only
    rw [upper8 _ (stepV_rng _ _), xor8, letO_eq]
    generalize hv : l.getD i 0 ^^^ UInt8.ofNat ((stepV (stepV key num) (i : Int)).toNat / 4294967296) = v
    rw [addP_new (mask := 65535) (i := 15) (by decide) hn, addP_nil]
    have bb : BufB (newAt (growIf h 18) (h.size + 15) (row 5 [.int .u8 (v.toNat : Int)])) ⟨some ⟨h.size + 15, 0, some 0⟩, 1, 1⟩ [v] := buf_row_at hro (by omega) 5 .u8 [(v.toNat : Int)] (by simp [B63])
    have xA : EX h (newAt (growIf h 18) (h.size + 15) (row 5 [.int .u8 (v.toNat : Int)])) := ex_at xG.wf xG (by omega) (by omega) 5 _
    have hs : (newAt (growIf h 18) (h.size + 15) (row 5 [.int .u8 (v.toNat : Int)])).objs.get (h.size + 15) ≠ none := by
      rw [newAt_get, if_pos rfl]; simp
    generalize newAt (growIf h 18) (h.size + 15) (row 5 [.int .u8 (v.toNat : Int)]) = A at bb xA hs
    have hll := mk_length (stepV key num) (l.take i) 0
    have hlt : (l.take i).length = i := by rw [List.length_take]; omega
    obtain ⟨out1, h3, e3, kp3, x3, b3, _, f3⟩ := appB_ok (e := 5) xA.wf (hb.ex w xA) bb.rd (by rw [hll, hlt]; simp; omega)
    rw [e3, bind2_some]
    dsimp only
    rw [addP_off (mask := 14) (i := 15) (by decide), addP_nil, e2, bindO_some, condK_eq, if_pos (beq_self_eq_true _), bindO_some, condK_eq, if_pos (beq_self_eq_true _), addP_old (mask := 262143) (i := 15) (by decide) (kp3.som _ hs), addP_nil, w64 (by omega) (by omega)]
    have x03 := x3 _ (hx.trans xA) hf
    have xT := ex_tick x03.wf 18
    have b4 := b3.ex x03.wf xT
    have he : mk (stepV key num) 0 (l.take i) ++ [v] = mk (stepV key num) 0 (l.take (i + 1)) := by
      rw [ht, mk_append, hlt, ← hv]; simp [mk]
    rw [he] at b4
    exact rmask_loop hk hr hl k (i + 1) out1 _ (by omega) b4 (x03.trans xT) (f3 _ (hx.trans xA).size hf)
theorem RMask_f {h : H} {b : Sl} {l : List UInt8} {key num : Int} (w : WF h) (hr : RdB h b l) (hl : l.length ≤ 2 ^ 47) (hk : U64 key) : ∃ s h', ref1_Mask key num b h = some (s, h') ∧ EX h h' ∧ RdB h' s (mk (stepV key num) 0 l) ∧ Fr h.size s := by
  obtain ⟨s, h', e, b, x, f⟩ := rmask_loop (num := num) hk hr hl l.length 0 ⟨none, 0, 0⟩ h (by omega) (buf_nil 1 h) (EX.refl w) (fr_nil _)
  unfold ref1_Mask P.ref1_Mask
  simp only [ref1_Mask_l1, Int.natCast_zero] at e
  rw [e, joinO_inl]
  exact ⟨s, h', rfl, x, b.rd, f⟩
end Go.Proofs.Ytejdeibmhlcnbaa.T
