/- The law VarintNone over the typed text. -/
import Derived.Test.YtejdeibmhlcnbaaLVarBack
import Derived.Test.YtejdeibmhlcnbaaS6
set_option linter.unusedVariables false
set_option linter.unusedSimpArgs false
namespace Go.Proofs.Ytejdeibmhlcnbaa.T
open Go Go.Abs Go.Proofs
theorem none_l1 {h0 : H} {s b : Sl} {zs : List Int} {bad at' count : Int} (hr : RdI .i64 h0 s zs) (hz : zs.length ≤ 2 ^ 47) : ∀ (k i : Nat) (n : Sl) (h : H), i + k = min zs.length 10 → Buf 1 h n (((zs.take i).map mayV).map (.int .i64)) → EX h0 h → Fr h0.size n →
    ∃ n' h', loopO law1_VarintNone_l1 ((s, (bad, (at', (count, (b, (n, (i : Int))))))), h) = some (Sum.inl ((bad, (at', (count, (b, n')))), h')) ∧ Buf 1 h' n' (((zs.take 10).map mayV).map (.int .i64)) ∧ EX h0 h' ∧ Fr h0.size n'
  | 0, i, n, h, hik, hb, hx, hf => by
    have ht : zs.take i = zs.take 10 := by
      rcases (by omega : i = zs.length ∨ i = 10) with rfl | rfl
      · rw [List.take_of_length_le (Nat.le_refl _), List.take_of_length_le (by omega)]
      · rfl
    rw [ht] at hb
    refine ⟨n, h, ?_, hb, hx, hf⟩
    rw [loopO_eq]
    simp only [P.law1_VarintNone_l1, condK_eq, decide_eq_true_eq, hr.len]
    by_cases h1 : (i : Int) < (zs.length : Int)
    · simp only [h1, if_true, joinO_inl, decide_eq_false (show ¬ ((i : Int) < 10) by omega), Bool.false_eq_true, if_false]
    · simp only [h1, if_false, joinO_inl, Bool.false_eq_true]
  | k + 1, i, n, h, hik, hb, hx, hf => by
    obtain ⟨a, ha, e1, e2⟩ := (hr.ex hx).at (i := (i : Int)) (by omega) (by omega)
    simp only [Int.toNat_natCast] at e1 e2
    rw [loopO_eq]
    simp only [P.law1_VarintNone_l1, condK_eq, decide_eq_true_eq, hr.len, show ((i : Int) < (zs.length : Int)) by omega, if_true, joinO_inl, decide_eq_true (show ((i : Int) < 10) by omega)]
    rw [e1, bindO_some, e2, bindO_some, May_f, bind2_some]
    simp only
    rw [newO_eq]
    obtain ⟨x2, b2⟩ := one_new (mayV (zs.getD i 0)) hx.wf
    generalize newAt (grow h 1) h.size (row 3 [.int .i64 (mayV (zs.getD i 0))]) = h2 at x2 b2 ⊢
    generalize (⟨some ⟨h.size, 0, some 0⟩, 1, 1⟩ : Sl) = s1 at b2 ⊢
    have hbo := hb.ex hx.wf x2
    have l1 : n.len = i := by have := hb.rd.len; simp at this; omega
    have l2 : s1.len = 1 := by have := b2.rd.len; simpa using this.symm
    obtain ⟨out', h3, e3, k3, x3, b3, _, f3⟩ := appT_ok (e := 3) (bytes := 8) (by omega) (by unfold B63; omega) x2.wf hbo b2.rd (oneC_ints .i64 _) (by rw [l1, l2]; omega) (by rw [l1, l2]; omega)
    rw [e3, bind2_some]
    simp only
    rw [w64 (by omega) (by omega)]
    have hx2 := hx.trans x2
    have ht : ((zs.take i).map mayV).map (Value.int .i64) ++ [mayV (zs.getD i 0)].map (.int .i64) = ((zs.take (i + 1)).map mayV).map (.int .i64) := by
      have e : zs.take (i + 1) = zs.take i ++ [zs.getD i 0] := by
        rw [List.take_succ_eq_append_getElem (by omega)]
        simp [List.getD, show i < zs.length by omega]
      rw [e, List.map_append, List.map_append]; rfl
    rw [ht] at b3
    exact none_l1 hr hz k (i + 1) out' h3 (by omega) b3 (x3 _ hx2 hf) (f3 _ hx2.size hf)
theorem tks_more : ∀ (ns : List Int) (j : Nat), (∀ x ∈ ns, okN x) → tks (ns.length + (j + 1)) (encs ns) = none
  | [], j, _ => by
    rw [show ([] : List Int).length + (j + 1) = j + 1 by simp]
    rfl
  | x :: ns, j, h => by
    have hx := tk_enc (h x (List.mem_cons_self ..)) (encs ns)
    have ih := tks_more ns j (fun y hy => h y (List.mem_cons_of_mem _ hy))
    rw [show (x :: ns).length + (j + 1) = (ns.length + (j + 1)) + 1 by simp; omega]
    show (if _ then _ else _) = _
    rw [show encs (x :: ns) = enc x ++ encs ns from rfl, hx, if_pos rfl, ih]; rfl
theorem szs_bad : ∀ (ns : List Int), (∃ x ∈ ns, ¬ okN x) → szs ns = none
  | [], ⟨x, hx, _⟩ => by simp at hx
  | y :: ns, ⟨x, hx, hn⟩ => by
    unfold szs
    by_cases hy : okN y
    · rw [if_pos hy]
      rw [List.mem_cons] at hx
      rcases hx with rfl | hx
      · exact absurd hy hn
      · rw [szs_bad ns ⟨x, hx, hn⟩]; rfl
    · rw [if_neg hy]
theorem VarintNone (s : Sl) (bad at' count : Int) (b : Sl) (h : H) (w : WF h) (zs : List Int) (hs : RdI .i64 h s zs) (hz : zs.length * 8 ≤ 140737488351232) (_ : ∀ n ∈ zs, -9223372036854775808 ≤ n ∧ n ≤ 9223372036854775807)
    (_ : -9223372036854775808 ≤ bad ∧ bad ≤ 9223372036854775807) (_ : -9223372036854775808 ≤ at' ∧ at' ≤ 9223372036854775807) (_ : -9223372036854775808 ≤ count ∧ count ≤ 9223372036854775807) (bl : List UInt8) (hb : RdB h b bl) (hbl : bl.length ≤ 140737488351232) : ∃ h', law1_VarintNone s bad at' count b h = some (true, h') := by
  unfold law1_VarintNone P.law1_VarintNone
  obtain ⟨n, h1, e1, b1, x1, f1⟩ := none_l1 (bad := bad) (at' := at') (count := count) (b := b) hs (by omega) (min zs.length 10) 0 ⟨none, 0, 0⟩ h (by omega) (buf_nil 1 h) (EX.refl w) (fr_nil _)
  simp only [law1_VarintNone_l1, Int.natCast_zero] at e1
  rw [e1, joinO_inl]
  simp only
  have hok : ∀ x ∈ (zs.take 10).map mayV, okN x := by
    intro x hx; simp only [List.mem_map] at hx; obtain ⟨y, _, rfl⟩ := hx; exact mayV_ok y
  have hnl : ((zs.take 10).map mayV).length ≤ 10 := by simp; omega
  generalize (zs.take 10).map mayV = ns at *
  have rn : RdI .i64 h1 n ns := b1.rd
  rw [rn.len, w64 (n := (ns.length : Int) + 1) (by omega) (by omega), pick_f _ _ (by omega) (by omega), bind2_some]
  simp only
  have k0 := Int.emod_nonneg at' (show (ns.length : Int) + 1 ≠ 0 by omega)
  have k1 := Int.emod_lt_of_pos at' (show 0 < (ns.length : Int) + 1 by omega)
  generalize at' % ((ns.length : Int) + 1) = k at *
  rw [pick_f _ _ (by omega) (by omega), bind2_some]
  simp only
  rw [pick_f _ _ (by omega) (by omega), bind2_some]
  have q0 := Int.emod_nonneg bad (show (1099511627776 : Int) ≠ 0 by omega)
  have q1 := Int.emod_lt_of_pos bad (show (0 : Int) < 1099511627776 by omega)
  generalize bad % 1099511627776 = q at *
  rw [w64 (n := 4611686018427387904 + q) (by omega) (by omega), w64 (n := -1 - q) (by omega) (by omega)]
  obtain ⟨wr, hwr, ew⟩ : ∃ wr : Int, ¬ okN wr ∧ (condK (Int.tmod bad 2 == 0) (some (Sum.inl ((count, (b, (n, (k, 4611686018427387904 + q)))), h1))) (some (Sum.inl ((count, (b, (n, (k, -1 - q)))), h1))) : Option (((Int × (Sl × (Sl × (Int × Int)))) × H) ⊕ (Bool × H))) = some (Sum.inl ((count, (b, (n, (k, wr)))), h1)) := by
    by_cases hc : (Int.tmod bad 2 == 0) = true
    · exact ⟨4611686018427387904 + q, by unfold okN; omega, by rw [condK_eq, if_pos hc]⟩
    · exact ⟨-1 - q, by unfold okN; omega, by rw [condK_eq, if_neg hc]⟩
  simp only
  rw [ew, joinO_inl]
  simp only
  -- the region of open order
  have xg := ex_growIf x1.wf 13
  have hsz := growIf_size h1 13
  have hgn : ∀ B, h1.size ≤ B → (growIf h1 13).objs.get B = none := by
    intro B hB
    rw [growIf_eq]; exact x1.wf.top B hB
  generalize growIf h1 13 = g at *
  rw [addP_off (mask := 6) (i := 0) (by decide), addP_nil]
  have rng := rn.ex xg
  obtain ⟨n1, e2, r2, l2, _⟩ := sl_hi (hi := k) (by omega) (by unfold B63; omega) rng (by omega) (by rw [rng.len]; omega)
  rw [e2, bindO_some]
  have r2' : RdI .i64 g n1 (ns.take k.toNat) := by unfold RdI; rw [List.map_take]; simpa using r2
  have hnro : g.nro ≤ h1.size := by rw [xg.nro]; exact x1.wf.nro
  rw [addP_new (mask := 15) (i := 0) (by decide) (hgn _ (by omega)), addP_nil]
  have wfa := wf_at xg.wf (B := h1.size + 0) (by omega) 3 []
  have exa := ex_at (h0 := h1) xg.wf xg (B := h1.size + 0) (by omega) (by omega) 3 []
  have ba := buf_row_at (h := g) (B := h1.size + 0) (by omega) (by omega) 3 .i64 [] (by decide)
  simp only [List.map_nil, List.length_nil] at ba
  have ra := rd_at (hgn (h1.size + 0) (by omega)) 3 [] r2'
  have hga : ∀ B, h1.size + 0 ≠ B → h1.size ≤ B → (newAt g (h1.size + 0) (row 3 [])).objs.get B = none := by
    intro B hne hB; rw [newAt_get, if_neg (fun e => hne e.symm)]; exact hgn B hB
  have hsa : (newAt g (h1.size + 0) (row 3 [])).objs.get (h1.size + 0) ≠ none := by rw [newAt_get, if_pos rfl]; simp
  have hna : (newAt g (h1.size + 0) (row 3 [])).nro = h1.nro := xg.nro
  have hza : (newAt g (h1.size + 0) (row 3 [])).size = h1.size + 13 := hsz
  generalize newAt g (h1.size + 0) (row 3 []) = A at *
  have htl : (ns.take k.toNat).length ≤ 10 := by simp; omega
  have l2' : n1.len ≤ 10 := by rw [RdI.len r2']; exact htl
  obtain ⟨s3, h4, e3, kp3, x3, b3, l3, f3⟩ := appT_ok (e := 3) (bytes := 8) (by omega) (by unfold B63; omega) wfa ba ra (oneC_ints .i64 _) (by simp only; omega) (by simp only; omega)
  rw [e3, bind2_some]
  simp only
  have fra : Fr h1.size ⟨some ⟨h1.size + 0, 0, some 0⟩, 0, 0⟩ := fr_at (h1.size + 0) 0 (by omega) 0
  have ex4 := x3 _ exa fra
  have hn6 : h4.objs.get (h1.size + 6) = none := kp3.non _ (by omega) (hga _ (by omega) (by omega))
  have hs0 : h4.objs.get (h1.size + 0) ≠ none := kp3.som _ hsa
  rw [addP_old (mask := 127) (i := 0) (by decide) hs0, addP_new (mask := 127) (i := 6) (by decide) hn6, addP_nil]
  have hz4 : h1.size + 13 ≤ h4.size := by rw [← hza]; exact kp3.size
  have wfb := wf_at ex4.wf (B := h1.size + 6) (by omega) 3 [.int .i64 wr]
  have exb := ex_at (h0 := h1) ex4.wf ex4 (B := h1.size + 6) (by omega) (by omega) 3 [.int .i64 wr]
  have bb : Buf 1 (newAt h4 (h1.size + 6) (row 3 [.int .i64 wr])) ⟨some ⟨h1.size + 6, 0, some 0⟩, 1, 1⟩ ([wr].map (.int .i64)) := buf_row_at (h := h4) (B := h1.size + 6) (by rw [ex4.nro]; have := x1.wf.nro; omega) (by omega) 3 .i64 [wr] (by simp [B63])
  have b3b := buf_at hn6 3 [.int .i64 wr] b3
  have hsb : (newAt h4 (h1.size + 6) (row 3 [.int .i64 wr])).objs.get (h1.size + 6) ≠ none := by rw [newAt_get, if_pos rfl]; simp
  have hsb0 : (newAt h4 (h1.size + 6) (row 3 [.int .i64 wr])).objs.get (h1.size + 0) ≠ none := by rw [newAt_get, if_neg (by omega)]; exact hs0
  generalize newAt h4 (h1.size + 6) (row 3 [.int .i64 wr]) = Bq at *
  have l3' : s3.len ≤ 10 := by rw [l3]; simp only; omega
  obtain ⟨s4, h5, e4, kp4, x4, b4, l4, f4⟩ := appT_ok (e := 3) (bytes := 8) (by omega) (by unfold B63; omega) wfb b3b bb.rd (oneC_ints .i64 _) (by simp only; omega) (by simp only; omega)
  rw [e4, bind2_some]
  simp only
  have f3' := f3 _ exa.size fra
  have ex5 := x4 _ exb f3'
  rw [addP_off (mask := 768) (i := 0) (by decide), addP_off (mask := 768) (i := 6) (by decide), addP_nil]
  have rn5 := rn.ex ex5
  obtain ⟨n2, e5, r5, l5, v5, _⟩ := sl_lo (lo := k) (by omega) (by unfold B63; omega) rn5 (by omega) (by rw [rn5.len]; omega)
  rw [e5, bindO_some]
  have r5' : RdI .i64 h5 n2 (ns.drop k.toNat) := by unfold RdI; rw [List.map_drop]; simpa using r5
  rw [addP_old (mask := 2047) (i := 0) (by decide) (kp4.som _ hsb0), addP_old (mask := 2047) (i := 6) (by decide) (kp4.som _ hsb), addP_nil]
  have l5' : n2.len ≤ 10 := by rw [l5, rn5.len]; omega
  have l4' : s4.len ≤ 11 := by rw [l4]; simp only; omega
  have f4' := f4 _ exb.size f3'
  obtain ⟨s5, h6, e6, kp5, x6, b6, l6, _⟩ := appT_ok (e := 3) (bytes := 8) (by omega) (by unfold B63; omega) ex5.wf b4 r5' (oneC_ints .i64 _) (by omega) (by omega)
  rw [e6, bind2_some]
  simp only
  have ex6 := x6 _ ex5 f4'
  have rn4 := rn.ex ex4
  obtain ⟨n3, e7, _, _, v7, _⟩ := sl_lo (lo := k) (by omega) (by unfold B63; omega) rn4 (by omega) (by rw [rn4.len]; omega)
  have hn32 : n3 = n2 := by rw [v5, v7]
  subst hn32
  rw [addP_off (mask := 768) (i := 0) (by decide), addP_off (mask := 768) (i := 6) (by decide), addP_nil, e7, bindO_some]
  have hsl : slEq n3.base n3.len n3.cap n3.base n3.len n3.cap = true := by simp [slEq]
  rw [hsl, condK_eq, if_pos rfl]
  obtain ⟨n4, e8, _, _, v8, _⟩ := sl_lo (lo := k) (by omega) (by unfold B63; omega) rng (by omega) (by rw [rng.len]; omega)
  have hn42 : n4 = n3 := by rw [v5, v8]
  rw [addP_off (mask := 768) (i := 0) (by decide), addP_off (mask := 768) (i := 6) (by decide), addP_nil, e8, bindO_some, hn42, hsl, condK_eq, if_pos rfl]
  rw [addP_old (mask := 8191) (i := 0) (by decide) (kp5.som _ (kp4.som _ hsb0)), addP_old (mask := 8191) (i := 6) (by decide) (kp5.som _ (kp4.som _ hsb)), addP_nil]
  have xt := ex_tick ex6.wf 13
  have r6 : RdI .i64 (tickIf 13 h6) s5 (ns.take k.toNat ++ [wr] ++ ns.drop k.toNat) := by
    have := b6.rd.ex xt
    unfold RdI
    simpa using this
  have ex7 := ex6.trans xt
  generalize tickIf 13 h6 = h7 at *
  have rn7 := rn.ex ex7
  have hel := encs_length ns
  obtain ⟨d, h8, e9, x9, r9, _⟩ := Put_f (l := []) (zs := ns) ex7.wf (rd_nil 1 _) rn7 (by simp; omega) hok
  rw [e9, bind2_some]
  simp only
  rw [pick_f _ 4 (by omega) (by omega), bind2_some]
  have c0 := Int.emod_nonneg count (show (4 : Int) ≠ 0 by omega)
  have c1 := Int.emod_lt_of_pos count (show (0 : Int) < 4 by omega)
  generalize count % 4 = c at *
  simp only
  rw [rn7.len, w64 (n := (ns.length : Int) + 1) (by omega) (by omega), w64 (n := (ns.length : Int) + 1 + c) (by omega) (by omega), letO_eq]
  have hT := Takes_f (cnt := ns.length + (c.toNat + 1)) (c := (ns.length : Int) + 1 + c) x9.wf r9 (by simp; omega) (by omega) (by split <;> omega)
  rw [List.nil_append, tks_more ns c.toNat hok] at hT
  obtain ⟨h9, e10, x10⟩ := hT
  rw [e10, bind2_some]
  simp only
  obtain ⟨h10, e11, x11⟩ := known1_f x10.wf
  rw [e11, bind2_some]
  have hm : (ns.take k.toNat ++ [wr] ++ ns.drop k.toNat).length ≤ 11 := by simp; omega
  have hbad : ∃ x ∈ ns.take k.toNat ++ [wr] ++ ns.drop k.toNat, ¬ okN x := ⟨wr, by simp, hwr⟩
  have hx := (x9.trans x10).trans x11
  have r10 := r6.ex hx
  generalize ns.take k.toNat ++ [wr] ++ ns.drop k.toNat = ms at *
  simp only [condK_eq, if_true]
  have hsv : szV ms = -1 := by unfold szV; rw [szs_bad ms hbad]
  rw [Size_f r10 (by omega), bind2_some, hsv]
  simp only [beq_self_eq_true, if_true]
  have hb10 : RdB h10 b bl := (hb.ex (x1.trans ex7)).ex hx
  obtain ⟨h11, e12, x12⟩ := Put_bad x11.wf hb10 r10 (by omega) hbad
  rw [e12, bind2_some]
  exact ⟨h11, rfl⟩
end Go.Proofs.Ytejdeibmhlcnbaa.T
