/- The reference's functions of chapter 1 over the typed texts: numbers put, taken. -/
import Derived.Test.YtejdeibmhlcnbaaSRef1
set_option linter.unusedVariables false
set_option linter.unusedSimpArgs false
namespace Go.Proofs.Ytejdeibmhlcnbaa.T
open Go Go.Abs Go.Proofs
theorem app_new {h : H} {x : Sl} {l : List UInt8} (w : WF h) (hr : RdB h x l) (hl : l.length ≤ 2 ^ 47) :
    ∃ s' h', appT 5 1 1 (newAt (grow h 1) h.size (row 5 [])) ⟨some ⟨h.size, 0, some 0⟩, 0, 0⟩ x = some (s', h') ∧ EX h h' ∧ BufB h' s' l ∧ Fr h.size s' := by
  have x1 := wf_new w 5 (vB [])
  have b1 := bufB_new w 5 [] (by decide)
  rw [show row 5 [] = row 5 (vB []) from rfl]
  have f1 := fr_new h 0 0
  simp only [List.length_nil] at b1
  generalize newAt (grow h 1) h.size (row 5 (vB [])) = h1 at x1 b1 ⊢
  generalize (⟨some ⟨h.size, 0, some 0⟩, 0, 0⟩ : Sl) = s1 at b1 f1 ⊢
  obtain ⟨s', h', e2, k2, x2, b2, _, f2⟩ := appB_ok (e := 5) x1.wf b1 (hr.ex x1) (by simpa using hl)
  exact ⟨s', h', e2, x2 _ x1 f1, by simpa using b2, f2 _ x1.size f1⟩
def putV (l : List UInt8) (zs : List Int) : List UInt8 := if szV zs < 0 then [] else l ++ encs zs
theorem rput_l1 {h0 : H} {n : Sl} {zs : List Int} (hr : RdI .i64 h0 n zs) (hz : zs.length ≤ 2 ^ 47) (hall : ∀ x ∈ zs, okN x) : ∀ (k i : Nat) (out : Sl) (l : List UInt8) (h : H), i + k = zs.length → BufB h out l → EX h0 h → Fr h0.size out → l.length + 8 * k ≤ 2 ^ 47 →
    ∃ out' h', loopO ref1_Put_l1 ((n, (out, (i : Int))), h) = some (Sum.inl (out', h')) ∧ BufB h' out' (l ++ encs (zs.drop i)) ∧ EX h0 h' ∧ Fr h0.size out'
  | 0, i, out, l, h, hik, hb, hx, hf, hl => by
    have : zs.drop i = [] := List.drop_eq_nil_of_le (by omega)
    rw [this]
    refine ⟨out, h, ?_, by simpa [encs] using hb, hx, hf⟩
    rw [loopO_eq]
    simp only [P.ref1_Put_l1, condK_eq, decide_eq_true_eq, hr.len, show ¬ ((i : Int) < (zs.length : Int)) by omega, if_false]
  | k + 1, i, out, l, h, hik, hb, hx, hf, hl => by
    have hd := drop_getD (zs := zs) (i := i) (by omega)
    obtain ⟨a, ha, e1, e2⟩ := (hr.ex hx).at (i := (i : Int)) (by omega) (by omega)
    simp only [Int.toNat_natCast] at e1 e2
    have hok : okN (zs.getD i 0) := hall _ (List.mem_of_mem_drop (by rw [hd]; exact List.mem_cons_self ..))
    have hs := sz_pos (zs.getD i 0)
    have hel := enc_length (zs.getD i 0)
    obtain ⟨out1, h1, e3, b1, x1, f1⟩ := rput_f hok hb hx hf (by omega)
    obtain ⟨out', h', e8, b5, x5, f5⟩ := rput_l1 hr hz hall k (i + 1) out1 _ h1 (by omega) b1 x1 f1 (by rw [List.length_append]; omega)
    refine ⟨out', h', ?_, ?_, x5, f5⟩
    · rw [loopO_eq]
      simp only [P.ref1_Put_l1, condK_eq, decide_eq_true_eq, hr.len, show ((i : Int) < (zs.length : Int)) by omega, if_true]
      rw [e1, bindO_some, e2, bindO_some, e3, bind2_some]
      simp only
      rw [w64 (by omega) (by omega)]
      exact e8
    · rw [hd]; simpa [encs] using b5
theorem RPut_f {h : H} {b n : Sl} {l : List UInt8} {zs : List Int} (w : WF h) (hb : RdB h b l) (hr : RdI .i64 h n zs) (hl : l.length + 8 * zs.length ≤ 2 ^ 47) :
    ∃ s' h', ref1_Put b n h = some (s', h') ∧ EX h h' ∧ BufB h' s' (putV l zs) ∧ Fr h.size s' := by
  unfold ref1_Put P.ref1_Put putV
  rw [RSize_f hr (by omega), bind2_some]
  simp only [condK_eq, decide_eq_true_eq]
  by_cases hs : szV zs < 0
  · simp only [hs, if_true]
    exact ⟨_, h, rfl, EX.refl w, buf_nil 1 h, fr_nil _⟩
  · simp only [hs, if_false]
    have hall : ∀ x ∈ zs, okN x := by
      have := szV_neg zs
      exact Decidable.not_not.1 fun hn => hs (this.2 hn)
    rw [newO_eq]
    obtain ⟨s1, h1, e1, x1, b1, f1⟩ := app_new w hb (by omega)
    rw [e1, bind2_some]
    simp only
    obtain ⟨out', h', e2, b2, x2, f2⟩ := rput_l1 hr (by omega) hall zs.length 0 s1 l h1 (by omega) b1 x1 f1 (by omega)
    simp only [ref1_Put_l1, Int.natCast_zero, List.drop_zero] at e2 b2
    rw [e2, joinO_inl]
    exact ⟨out', h', rfl, x2, b2, f2⟩
theorem Put_all {h : H} {b n : Sl} {l : List UInt8} {zs : List Int} (w : WF h) (hb : RdB h b l) (hr : RdI .i64 h n zs) (hl : l.length + 8 * zs.length ≤ 2 ^ 47) :
    ∃ s' h', varint_Put b n h = some (s', h') ∧ EX h h' ∧ RdB h' s' (putV l zs) := by
  unfold putV
  by_cases hs : szV zs < 0
  · rw [if_pos hs]
    rw [szV_neg] at hs
    obtain ⟨h', e, x⟩ := Put_bad w hb hr hl (by
      have hd : ¬ ¬ ∃ x ∈ zs, ¬ okN x := fun hn => hs fun x hx => Decidable.not_not.1 fun hk => hn ⟨x, hx, hk⟩
      exact Classical.not_not.1 hd)
    exact ⟨_, h', e, x, rd_nil 1 h'⟩
  · rw [if_neg hs]
    have hall : ∀ x ∈ zs, okN x := Decidable.not_not.1 fun hn => hs ((szV_neg zs).2 hn)
    obtain ⟨s', h', e, x, r, _⟩ := Put_f w hb hr hl hall
    exact ⟨s', h', e, x, r⟩
/-! a number taken -/
theorem rtake_l1 {b : Sl} {h : H} : ∀ (q k : Nat), q ≤ 3 → k * 2 ^ q ≤ 64 → loopO ref1_Take_l1 ((b, ((k : Int), (q : Int))), h) = some (Sum.inl ((b, ((k * 2 ^ q : Nat) : Int)), h))
  | 0, k, hq, hk => by
    rw [loopO_eq]
    simp only [ref1_Take_l1, condK_eq, decide_eq_true_eq, show ¬ (((0 : Nat) : Int) > 0) by omega, if_false, Nat.pow_zero, Nat.mul_one]
  | q + 1, k, hq, hk => by
    have e : k * 2 ^ (q + 1) = 2 * k * 2 ^ q := by rw [Nat.pow_succ, Nat.mul_comm 2 k, Nat.mul_assoc, Nat.mul_comm 2]
    rw [e] at hk ⊢
    have h1 : 2 * k ≤ 2 * k * 2 ^ q := Nat.le_mul_of_pos_right _ (Nat.pow_pos (by omega))
    rw [loopO_eq]
    simp only [ref1_Take_l1, condK_eq, decide_eq_true_eq, show (((q + 1 : Nat) : Int) > 0) by omega, if_true]
    rw [w64 (by omega) (by omega), wu8 (by omega) (by omega), show (2 : Int) * (k : Int) = ((2 * k : Nat) : Int) by omega, show ((q + 1 : Nat) : Int) - 1 = (q : Int) by omega]
    exact rtake_l1 q (2 * k) (by omega) hk
theorem rtake_l2 {h : H} {b : Sl} {l : List UInt8} {K : Nat} (hr : RdB h b l) (hK : K ≤ l.length) (hK8 : K ≤ 8) : ∀ (j i n : Nat), 1 ≤ i → i + j = K → n < 64 * 256 ^ (i - 1) →
    loopO ref1_Take_l2 ((b, ((K : Int), ((n : Int), (i : Int)))), h) = some (Sum.inl ((b, ((K : Int), (val n ((l.drop i).take j) : Int))), h))
  | 0, i, n, hi, hij, hn => by
    rw [loopO_eq]
    simp only [ref1_Take_l2, condK_eq, decide_eq_true_eq, show ¬ ((i : Int) < (K : Int)) by omega, if_false, List.take_zero]
    rfl
  | j + 1, i, n, hi, hij, hn => by
    obtain ⟨a, ha, e1, e2⟩ := hr.at (i := (i : Int)) (by omega) (by omega)
    simp only [Int.toNat_natCast] at e1 e2
    have hd : l.drop i = l.getD i 0 :: l.drop (i + 1) := by
      rw [List.drop_eq_getElem_cons (by omega)]
      simp [List.getD, show i < l.length by omega]
    have hc := (l.getD i 0).toNat_lt
    have hp : 256 ^ (i - 1) ≤ 256 ^ 6 := Nat.pow_le_pow_right (by omega) (by omega)
    rw [loopO_eq]
    simp only [ref1_Take_l2, condK_eq, decide_eq_true_eq, show ((i : Int) < (K : Int)) by omega, if_true]
    rw [e1, bindO_some, e2, bindO_some, letO_eq, w64 (n := 256 * (n : Int)) (by omega) (by omega), w64 (n := ((l.getD i 0).toNat : Int)) (by omega) (by omega), w64 (n := 256 * (n : Int) + _) (by omega) (by omega), w64 (n := (i : Int) + 1) (by omega) (by omega)]
    have hpw : 256 ^ (i + 1 - 1) = 256 ^ (i - 1) * 256 := by rw [← Nat.pow_succ]; congr 1; omega
    have := rtake_l2 hr hK hK8 j (i + 1) (n * 256 + (l.getD i 0).toNat) (by omega) (by omega) (by rw [hpw]; omega)
    rw [hd, List.take_succ_cons, show 256 * (n : Int) + ((l.getD i 0).toNat : Int) = ((n * 256 + (l.getD i 0).toNat : Nat) : Int) by omega]
    exact this
theorem RTake_f {h : H} {b : Sl} {l : List UInt8} (w : WF h) (hr : RdB h b l) (hl : l.length ≤ 2 ^ 47) : ∃ r h', ref1_Take b h = some (((tk l).1, (r, (tk l).2.2)), h') ∧ EX h h' ∧ RdB h' r (tk l).2.1 := by
  unfold ref1_Take
  cases l with
  | nil =>
    rw [hr.len]
    simp only [List.length_nil, Int.natCast_zero, beq_self_eq_true, condK_eq, if_true, tk]
    exact ⟨_, h, rfl, EX.refl w, rd_nil 1 h⟩
  | cons c t =>
    obtain ⟨a, ha, e1, e2⟩ := hr.at (i := 0) (by omega) (by simp)
    simp only [Int.toNat_zero, List.getD_cons_zero] at e1 e2
    obtain ⟨e3, s1, s2⟩ := tsz_shl c
    have hc := c.toNat_lt
    have hz : ((b.len : Int) == 0) = false := by rw [hr.len]; simp; omega
    rw [hz]
    simp only [condK_eq, Bool.false_eq_true, if_false, e1, bindO_some, e2]
    have hq : IntKind.wrap .u8 (Int.tdiv (c.toNat : Int) 64) = ((c.toNat / 64 : Nat) : Int) := by
      rw [Int.tdiv_eq_ediv_of_nonneg (by omega), wu8 (by omega) (by omega)]; omega
    have ht := rtake_l1 (b := b) (h := h) (c.toNat / 64) 1 (by omega) (by
      rcases (by omega : c.toNat / 64 = 0 ∨ c.toNat / 64 = 1 ∨ c.toNat / 64 = 2 ∨ c.toNat / 64 = 3) with e | e | e | e <;> rw [e] <;> decide)
    rw [Nat.one_mul, Int.natCast_one] at ht
    rw [hq, ht, joinO_inl]
    simp only [hr.len, decide_eq_true_eq]
    rw [show (2 : Nat) ^ (c.toNat / 64) = tsz c from rfl]
    by_cases hsh : t.length + 1 < tsz c
    · simp only [tk, hsh, if_true]
      rw [if_pos (by simp; omega)]
      exact ⟨_, h, rfl, EX.refl w, rd_nil 1 h⟩
    · simp only [tk, hsh, if_false]
      rw [if_neg (by simp; omega), e1, bindO_some, e2, bindO_some]
      have hm : IntKind.wrap .i64 (Int.tmod (c.toNat : Int) 64) = ((c.toNat % 64 : Nat) : Int) := by
        rw [Int.tmod_eq_emod_of_nonneg (by omega), w64 (by omega) (by omega)]; omega
      have h2 := rtake_l2 hr (K := tsz c) (by simp; omega) s2 (tsz c - 1) 1 (c.toNat % 64) (by omega) (by omega) (by omega)
      rw [List.drop_succ_cons, List.drop_zero, Int.natCast_one] at h2
      rw [hm, h2, joinO_inl]
      simp only
      rw [newO_eq]
      have x1 := wf_new w 5 (vB [])
      obtain ⟨x6, e5, r5, l5, _⟩ := sl_lo (h := newAt (grow h 1) h.size (row 5 [])) (lo := (tsz c : Int)) (by omega) (by unfold B63; omega) (hr.ex x1) (by omega) (by rw [hr.len]; simp; omega)
      rw [e5, bindO_some]
      have e5' := sl_lo (h := h) (lo := (tsz c : Int)) (by omega) (by unfold B63; omega) hr (by omega) (by rw [hr.len]; simp; omega)
      obtain ⟨x7, e7, r7, l7, s7, _⟩ := e5'
      obtain ⟨x8, e8, r8, l8, s8, _⟩ := sl_lo (h := newAt (grow h 1) h.size (row 5 [])) (lo := (tsz c : Int)) (by omega) (by unfold B63; omega) (hr.ex x1) (by omega) (by rw [hr.len]; simp; omega)
      have h68 : x6 = x8 := by rw [e5] at e8; exact Option.some.inj e8
      have h67 : x6 = x7 := by rw [h68, s8, s7]
      have hr6 : RdB h x6 (t.drop (tsz c - 1)) := by
        rw [h67]
        obtain ⟨m, hm⟩ : ∃ m, tsz c = m + 1 := ⟨tsz c - 1, by omega⟩
        simp only [vB, Int.toNat_natCast, Nat.mul_one, List.map_cons, hm, List.drop_succ_cons] at r7
        unfold RdB vB
        rw [hm, List.map_drop]; exact r7
      obtain ⟨s', h', e6, x6', b6, _⟩ := app_new w hr6 (by simp at hl ⊢; omega)
      rw [e6, bind2_some]
      exact ⟨s', h', rfl, x6', b6.rd⟩
/-! numbers taken one behind the other -/
theorem rtakes_loop {h0 : H} {cnt : Nat} {cc : Int} (hc : cnt * 8 ≤ 2 ^ 47) (hcc : ∀ i : Nat, ((i : Int) < cc ↔ i < cnt)) : ∀ (k i : Nat) (out rest : Sl) (acc : List Int) (l : List UInt8) (h : H), i + k = cnt → acc.length = i → Buf 1 h out (acc.map (.int .i64)) → RdB h rest l → l.length ≤ 2 ^ 47 → EX h0 h → Fr h0.size out →
    TksR h0 acc (loopO ref1_Takes_l1 ((cc, (out, (rest, (i : Int)))), h)) (tks k l)
  | 0, i, out, rest, acc, l, h, hik, ha, hb, hr, hl, hx, hf => by
    refine ⟨out, rest, h, ?_, by simpa using hb, hr, hx, hf⟩
    have hn : ¬ ((i : Int) < cc) := by rw [hcc]; omega
    rw [loopO_eq]
    simp only [P.ref1_Takes_l1, condK_eq, decide_eq_true_eq, hn, if_false]
  | k + 1, i, out, rest, acc, l, h, hik, ha, hb, hr, hl, hx, hf => by
    obtain ⟨r, h1, e1, x1, r1⟩ := RTake_f hx.wf hr hl
    have hn : ((i : Int) < cc) := by rw [hcc]; omega
    rw [loopO_eq]
    simp only [P.ref1_Takes_l1, condK_eq, decide_eq_true_eq, hn, if_true]
    rw [e1, bind2_some]
    simp only
    rcases tk_err l with hk | hk
    · have et : tks (k + 1) l = (tks k (tk l).2.1).map (fun p => ((tk l).1 :: p.1, p.2)) := by
        show (if _ then _ else _) = _
        rw [if_pos hk]
      rw [et, hk]
      simp only [show ((0 : Int) != 0) = false from rfl, Bool.false_eq_true, if_false]
      rw [newO_eq]
      obtain ⟨x2, b2⟩ := one_new (tk l).1 x1.wf
      generalize newAt (grow h1 1) h1.size (row 3 [.int .i64 (tk l).1]) = h2 at x2 b2 ⊢
      generalize (⟨some ⟨h1.size, 0, some 0⟩, 1, 1⟩ : Sl) = s1 at b2 ⊢
      have hbo : Buf 1 h2 out (acc.map (.int .i64)) := (hb.ex hx.wf x1).ex x1.wf x2
      have l1 : out.len = acc.length := by have := hb.rd.len; simpa using this.symm
      have l2 : s1.len = 1 := by have := b2.rd.len; simpa using this.symm
      obtain ⟨out', h3, e3, k3, x3, b3, _, f3⟩ := appT_ok (e := 3) (bytes := 8) (by omega) (by unfold B63; omega) x2.wf hbo b2.rd (oneC_ints .i64 _) (by rw [l1, l2]; omega) (by rw [l1, l2]; omega)
      rw [e3, bind2_some]
      simp only
      rw [w64 (by omega) (by omega)]
      have hx2 := (hx.trans x1).trans x2
      rw [← List.map_append] at b3
      have ih := rtakes_loop hc hcc k (i + 1) out' r (acc ++ [(tk l).1]) (tk l).2.1 h3 (by omega) (by simp [ha]) b3 ((r1.ex x2).mono k3) (by have := tk_rest l; omega) (x3 _ hx2 hf) (f3 _ hx2.size hf)
      cases ht : tks k (tk l).2.1 with
      | none =>
        rw [ht] at ih
        obtain ⟨h', a1, a2⟩ := ih
        exact ⟨h', a1, a2⟩
      | some p =>
        obtain ⟨ns, rr⟩ := p
        rw [ht] at ih
        obtain ⟨o', r', h', a1, a2, a3, a4, a5⟩ := ih
        exact ⟨o', r', h', a1, by simpa using a2, a3, a4, a5⟩
    · have et : tks (k + 1) l = none := by
        show (if _ then _ else _) = _
        rw [if_neg (by rw [hk]; decide)]
      rw [et, hk]
      simp only [show ((3 : Int) != 0) = true from rfl, if_true]
      exact ⟨h1, rfl, hx.trans x1⟩
theorem RTakes_f {h : H} {b : Sl} {l : List UInt8} {cnt : Nat} (w : WF h) (hr : RdB h b l) (hl : l.length ≤ 2 ^ 47) (hc : cnt * 8 ≤ 2 ^ 47) {c : Int} (hcc : (if c > 0 then c else 0) = (cnt : Int)) :
    match tks cnt l with
    | some (ns, r) => ∃ s t h', ref1_Takes b c h = some ((s, t, 0), h') ∧ EX h h' ∧ RdI .i64 h' s ns ∧ RdB h' t r
    | none => ∃ h', ref1_Takes b c h = some ((⟨none, 0, 0⟩, ⟨none, 0, 0⟩, 3), h') ∧ EX h h' := by
  have hcc2 : ∀ i : Nat, ((i : Int) < c ↔ i < cnt) := by
    intro i
    split at hcc <;> omega
  obtain ⟨s1, h1, e1, x1, b1, f1⟩ := app_new w hr hl
  have ih := rtakes_loop (h0 := h) hc hcc2 cnt 0 ⟨none, 0, 0⟩ s1 [] l h1 (by omega) rfl (buf_nil 1 h1) b1.rd hl x1 (fr_nil _)
  unfold ref1_Takes P.ref1_Takes
  rw [newO_eq, e1, bind2_some]
  simp only
  cases hk : tks cnt l with
  | none =>
    rw [hk] at ih
    obtain ⟨h', a1, a2⟩ := ih
    simp only [Int.natCast_zero, ref1_Takes_l1] at a1
    exact ⟨h', by rw [a1]; rfl, a2⟩
  | some p =>
    obtain ⟨ns, rr⟩ := p
    rw [hk] at ih
    obtain ⟨o', r', h', a1, a2, a3, a4, a5⟩ := ih
    simp only [Int.natCast_zero, List.nil_append, ref1_Takes_l1] at a1 a2
    exact ⟨o', r', h', by rw [a1]; rfl, a4, a2.rd, a3⟩
end Go.Proofs.Ytejdeibmhlcnbaa.T
