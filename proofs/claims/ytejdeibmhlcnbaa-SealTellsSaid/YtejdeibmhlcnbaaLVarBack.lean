/- The law VarintBack over the typed text. -/
import Derived.Test.YtejdeibmhlcnbaaSVar4
set_option linter.unusedVariables false
set_option linter.unusedSimpArgs false
namespace Go.Proofs.Ytejdeibmhlcnbaa.T
open Go Go.Abs Go.Proofs
theorem szV_encs : ∀ (ns : List Int), (∀ x ∈ ns, okN x) → szs ns = some ((encs ns).length : Int)
  | [], _ => rfl
  | x :: ns, h => by
    have ih := szV_encs ns (fun y hy => h y (List.mem_cons_of_mem _ hy))
    have hx := h x (List.mem_cons_self ..)
    have hs := sz_pos x
    have he := enc_length x
    unfold szs
    rw [if_pos hx, ih]
    simp only [Option.map_some, encs, List.length_append, Option.some.injEq]
    omega
theorem encs_append : ∀ (a b : List Int), encs (a ++ b) = encs a ++ encs b
  | [], b => rfl
  | x :: a, b => by simp [encs, encs_append a b]
theorem back_l1 {h0 : H} {s : Sl} {zs : List Int} {cut : Int} {front behind : Sl} (hr : RdI .i64 h0 s zs) (hz : zs.length * 8 ≤ 2 ^ 47) : ∀ (k i : Nat) (n : Sl) (h : H), i + k = zs.length → Buf 1 h n (((zs.take i).map mayV).map (.int .i64)) → EX h0 h → Fr h0.size n →
    ∃ n' h', loopO law1_VarintBack_l1 ((cut, (front, (behind, (n, (s, ((zs.length : Int), (i : Int))))))), h) = some (Sum.inl ((cut, (front, (behind, n'))), h')) ∧ Buf 1 h' n' ((zs.map mayV).map (.int .i64)) ∧ EX h0 h' ∧ Fr h0.size n'
  | 0, i, n, h, hik, hb, hx, hf => by
    refine ⟨n, h, ?_, by rwa [List.take_of_length_le (by omega)] at hb, hx, hf⟩
    rw [loopO_eq]
    simp only [P.law1_VarintBack_l1, condK_eq, decide_eq_true_eq, show ¬ ((i : Int) < (zs.length : Int)) by omega, if_false]
  | k + 1, i, n, h, hik, hb, hx, hf => by
    obtain ⟨a, ha, e1, e2⟩ := (hr.ex hx).at (i := (i : Int)) (by omega) (by omega)
    simp only [Int.toNat_natCast] at e1 e2
    rw [loopO_eq]
    simp only [P.law1_VarintBack_l1, condK_eq, decide_eq_true_eq, show ((i : Int) < (zs.length : Int)) by omega, if_true]
    rw [e1, bindO_some, e2, bindO_some, May_f, bind2_some]
    simp only
    rw [newO_eq]
    obtain ⟨x2, b2⟩ := one_new (mayV (zs.getD i 0)) hx.wf
    generalize newAt (grow h 1) h.size (row 3 [.int .i64 (mayV (zs.getD i 0))]) = h2 at x2 b2 ⊢
    generalize (⟨some ⟨h.size, 0, some 0⟩, 1, 1⟩ : Sl) = s1 at b2 ⊢
    have hbo := hb.ex hx.wf x2
    have l1 : n.len = i := by have := hb.rd.len; simp at this; omega
    have l2 : s1.len = 1 := by have := b2.rd.len; simpa using this.symm
    obtain ⟨out', h3, e3, k3, x3, b3, _, f3⟩ := appT_ok (e := 3) (bytes := 8) (by omega) (by unfold B63; omega) x2.wf hbo b2.rd (oneC_ints .i64 _) (by rw [l1, l2]; omega) (by rw [l1, l2]; omega)
    rw [e3, bind2_some]
    simp only
    rw [w64 (by omega) (by omega)]
    have hx2 := hx.trans x2
    have ht : ((zs.take i).map mayV).map (Value.int .i64) ++ [mayV (zs.getD i 0)].map (.int .i64) = ((zs.take (i + 1)).map mayV).map (.int .i64) := by
      have e : zs.take (i + 1) = zs.take i ++ [zs.getD i 0] := by
        rw [List.take_succ_eq_append_getElem (by omega)]
        simp [List.getD, show i < zs.length by omega]
      rw [e, List.map_append, List.map_append]; rfl
    rw [ht] at b3
    exact back_l1 hr hz k (i + 1) out' h3 (by omega) b3 (x3 _ hx2 hf) (f3 _ hx2.size hf)
theorem back_l2 {h0 : H} {t n : Sl} {ns : List Int} {bh : List UInt8} (ht : RdI .i64 h0 t ns) (hn : RdI .i64 h0 n ns) (hok : ∀ x ∈ ns, okN x) (hlen : 8 * ns.length + bh.length ≤ 2 ^ 47) : ∀ (k i : Nat) (d : Sl) (h : H), i + k = ns.length → RdB h d (encs (ns.drop i) ++ bh) → EX h0 h →
    ∃ h', loopO law1_VarintBack_l2 ((n, (d, (t, ((ns.length : Int), (i : Int))))), h) = some (true, h')
  | 0, i, d, h, hik, hd, hx => by
    refine ⟨h, ?_⟩
    rw [loopO_eq]
    simp only [P.law1_VarintBack_l2, condK_eq, decide_eq_true_eq, show ¬ ((i : Int) < (ns.length : Int)) by omega, if_false]
  | k + 1, i, d, h, hik, hd, hx => by
    have hdr := drop_getD (zs := ns) (i := i) (by omega)
    have hxo : okN (ns.getD i 0) := hok _ (by
      have : ns.getD i 0 ∈ ns.drop i := by rw [hdr]; exact List.mem_cons_self ..
      exact List.mem_of_mem_drop this)
    rw [hdr, encs, List.append_assoc] at hd
    have hel := encs_length (ns.drop (i + 1))
    have hel1 := enc_length (ns.getD i 0)
    have hs := sz_pos (ns.getD i 0)
    obtain ⟨r, h1, e1, x1, r1⟩ := Take_f hx.wf hd (by simp only [List.length_append, List.length_drop] at *; omega)
    rw [tk_enc hxo] at e1 r1
    have hx1 := hx.trans x1
    obtain ⟨a, ha, e2, e3⟩ := (ht.ex hx1).at (i := (i : Int)) (by omega) (by omega)
    obtain ⟨a', ha', e4, e5⟩ := (hn.ex hx1).at (i := (i : Int)) (by omega) (by omega)
    simp only [Int.toNat_natCast] at e2 e3 e4 e5
    rw [loopO_eq]
    simp only [P.law1_VarintBack_l2, condK_eq, decide_eq_true_eq, show ((i : Int) < (ns.length : Int)) by omega, if_true]
    rw [e1, bind2_some]
    simp only [e2, e3, e4, e5, bindO_some, bne_self_eq_false, Bool.false_eq_true, if_false, joinO_inl]
    rw [w64 (by omega) (by omega)]
    exact back_l2 ht hn hok hlen k (i + 1) r h1 (by omega) r1 hx1
theorem VarintBack (s : Sl) (cut : Int) (front behind : Sl) (h : H) (w : WF h) (zs : List Int) (hs : RdI .i64 h s zs) (hz : zs.length * 8 ≤ 140737488351232) (_ : ∀ n ∈ zs, -9223372036854775808 ≤ n ∧ n ≤ 9223372036854775807)
    (_ : -9223372036854775808 ≤ cut ∧ cut ≤ 9223372036854775807) (fl : List UInt8) (hf : RdB h front fl) (hfl : fl.length ≤ 140737488351232) (bl : List UInt8) (hb : RdB h behind bl) (hbl : bl.length ≤ 140737488351232) : ∃ h', law1_VarintBack s cut front behind h = some (true, h') := by
  unfold law1_VarintBack P.law1_VarintBack
  obtain ⟨n, h1, e1, b1, x1, f1⟩ := back_l1 (cut := cut) (front := front) (behind := behind) hs (by omega) zs.length 0 ⟨none, 0, 0⟩ h (by omega) (buf_nil 1 h) (EX.refl w) (fr_nil _)
  simp only [law1_VarintBack_l1, Int.natCast_zero] at e1
  rw [hs.len, e1, joinO_inl]
  simp only
  have hok : ∀ x ∈ zs.map mayV, okN x := by
    intro x hx; simp only [List.mem_map] at hx; obtain ⟨y, _, rfl⟩ := hx; exact mayV_ok y
  have hnl : (zs.map mayV).length = zs.length := by simp
  generalize zs.map mayV = ns at *
  have rn : RdI .i64 h1 n ns := b1.rd
  obtain ⟨a, h2, e2, x2, b2, f2⟩ := Few_f x1.wf (hf.ex x1) (by omega) (n := 20) (by omega)
  rw [e2, bind2_some]
  simp only
  have hfl2 : (fl.take 20).length ≤ 20 := by simp; omega
  simp only [show (20 : Int).toNat = 20 from rfl] at b2
  generalize fl.take 20 = f at *
  have hel := encs_length ns
  obtain ⟨b, h3, e3, x3, r3, f3⟩ := Put_f x2.wf b2.rd (rn.ex x2) (by omega) hok
  rw [e3, bind2_some]
  simp only
  rw [rn.len, w64 (n := (ns.length : Int) + 1) (by omega) (by omega), pick_f _ _ (by omega) (by omega), bind2_some]
  simp only
  have k0 := Int.emod_nonneg cut (show (ns.length : Int) + 1 ≠ 0 by omega)
  have k1 := Int.emod_lt_of_pos cut (show 0 < (ns.length : Int) + 1 by omega)
  generalize cut % ((ns.length : Int) + 1) = k at *
  have rn3 := (rn.ex x2).ex x3
  obtain ⟨n1, e4, r4, l4, _⟩ := sl_hi (hi := k) (by omega) (by unfold B63; omega) rn3 (by omega) (by rw [rn3.len]; omega)
  rw [e4, bindO_some]
  have r4' : RdI .i64 h3 n1 (ns.take k.toNat) := by unfold RdI; rw [List.map_take]; simpa using r4
  have ra3 : RdB h3 a f := b2.rd.ex x3
  have htl : (ns.take k.toNat).length ≤ ns.length := by simp; omega
  have hdl : (ns.drop k.toNat).length ≤ ns.length := by simp
  have hsum : (ns.take k.toNat).length + (ns.drop k.toNat).length = ns.length := by simp; omega
  obtain ⟨c1, h4, e5, x4, r5, _⟩ := Put_f x3.wf ra3 r4' (by omega) (fun x hx => hok x (List.mem_of_mem_take hx))
  rw [e5, bind2_some]
  simp only
  have rn4 := rn3.ex x4
  obtain ⟨n2, e6, r6, l6, v6, _⟩ := sl_lo (lo := k) (by omega) (by unfold B63; omega) rn4 (by omega) (by rw [rn4.len]; omega)
  rw [e6, bindO_some]
  have r6' : RdI .i64 h4 n2 (ns.drop k.toNat) := by unfold RdI; rw [List.map_drop]; simpa using r6
  have hel2 := encs_length (ns.take k.toNat)
  obtain ⟨c2, h5, e7, x5, r7, _⟩ := Put_f x4.wf r5 r6' (by simp only [List.length_append]; omega) (fun x hx => hok x (List.mem_of_mem_drop hx))
  rw [e7, bind2_some]
  simp only
  obtain ⟨n3, e8, r8, l8, v8, _⟩ := sl_lo (lo := k) (by omega) (by unfold B63; omega) rn3 (by omega) (by rw [rn3.len]; omega)
  rw [e8, bindO_some]
  have hn23 : n3 = n2 := by rw [v6, v8]
  subst hn23
  have hsl : slEq n3.base n3.len n3.cap n3.base n3.len n3.cap = true := by simp [slEq]
  rw [hsl]
  have hc2 : f ++ encs (ns.take k.toNat) ++ encs (ns.drop k.toNat) = f ++ encs ns := by
    rw [List.append_assoc, ← encs_append, List.take_append_drop]
  rw [hc2] at r7
  have rb5 : RdB h5 b (f ++ encs ns) := (r3.ex x4).ex x5
  have ra5 : RdB h5 a f := (ra3.ex x4).ex x5
  have rn5 : RdI .i64 h5 n ns := rn4.ex x5
  have hszs := szV_encs ns hok
  have hszv : szV ns = ((encs ns).length : Int) := by unfold szV; rw [hszs]
  have hbl5 : b.len = f.length + (encs ns).length := by rw [rb5.len]; simp
  obtain ⟨b1', e9, r9, l9, _⟩ := sl_hi (hi := ((a.len : Nat) : Int)) (by omega) (by unfold B63; omega) rb5 (by omega) (by rw [hbl5, ra5.len]; omega)
  have r9' : RdB h5 b1' f := by
    unfold RdB
    have : (vB (f ++ encs ns)).take (((a.len : Nat) : Int).toNat * 1) = vB f := by
      rw [Int.toNat_natCast, Nat.mul_one, ra5.len, vB_append, List.take_append_of_le_length (by simp [vB]), List.take_of_length_le (by simp [vB])]
    rw [this] at r9; exact r9
  simp only [condK_eq, if_true]
  simp only [strT_ok r7, strT_ok rb5, strT_ok r9', strT_ok ra5, bind2_some, beq_self_eq_true, Bool.not_true, Bool.false_eq_true, if_false]
  rw [Size_f rn5 (by omega), bind2_some, hszv, hbl5, ra5.len, w64 (by omega) (by omega), letO_eq]
  have hd1 : ((((f.length + (encs ns).length : Nat) : Int) - ((f.length : Nat) : Int)) != ((encs ns).length : Int)) = false := by simp; omega
  rw [ra5.len] at e9
  rw [hd1]
  simp only [Bool.false_eq_true, if_false, decide_eq_false (show ¬ (((f.length + (encs ns).length : Nat) : Int) < ((f.length : Nat) : Int)) by omega), e9, bindO_some, strT_ok r9', strT_ok ra5, bind2_some, beq_self_eq_true, Bool.not_true, if_true, joinO_inl]
  obtain ⟨p1, e10, r10, l10, _⟩ := sl_lo (lo := ((f.length : Nat) : Int)) (by omega) (by unfold B63; omega) rb5 (by omega) (by rw [hbl5]; omega)
  have r10' : RdB h5 p1 (encs ns) := by
    unfold RdB
    have : (vB (f ++ encs ns)).drop (((f.length : Nat) : Int).toNat * 1) = vB (encs ns) := by
      rw [Int.toNat_natCast, Nat.mul_one, vB_append, List.drop_append_of_le_length (by simp [vB]), List.drop_of_length_le (by simp [vB])]; rfl
    rw [this] at r10; exact r10
  simp only [hbl5, ra5.len] at e10 ⊢
  rw [e10, bindO_some]
  have wf5 := x5.wf
  obtain ⟨p2, h6, e11, x6, b11, f11⟩ := Few_f wf5 r10' (by omega) (n := ((f.length + (encs ns).length : Nat) : Int)) (by omega)
  rw [e11, bind2_some]
  rw [Int.toNat_natCast, List.take_of_length_le (by omega)] at b11
  simp only
  have hx05 : EX h h5 := (((x1.trans x2).trans x3).trans x4).trans x5
  have hbh5 : RdB h5 behind bl := hb.ex hx05
  obtain ⟨p3, h7, e12, x7, b12, _⟩ := Few_f x6.wf (hbh5.ex x6) (by omega) (n := 20) (by omega)
  rw [e12, bind2_some]
  simp only [show (20 : Int).toNat = 20 from rfl] at b12 ⊢
  have hbh : (bl.take 20).length ≤ 20 := by simp; omega
  generalize hbg : bl.take 20 = bh at *
  obtain ⟨p4, h8, e13, k8, x8, b13, _, _⟩ := appB_ok (e := 5) x7.wf (b11.ex x6.wf x7) b12.rd (by omega)
  rw [e13, bind2_some]
  simp only
  have x58 : EX h5 h8 := x8 _ (x6.trans x7) f11
  have hT := Takes_f (cnt := ns.length) (c := ((n.len : Nat) : Int)) x58.wf b13.rd (by simp only [List.length_append]; omega) (by omega) (by rw [rn.len]; split <;> omega)
  rw [tks_encs ns bh hok] at hT
  obtain ⟨t, r, h9, e14, x9, rt, rr⟩ := hT
  rw [e14, bind2_some]
  simp only
  obtain ⟨h10, e15, x10⟩ := known1_f x9.wf
  rw [e15, bind2_some]
  have rr10 : RdB h10 r bh := rr.ex x10
  have rt10 : RdI .i64 h10 t ns := rt.ex x10
  simp only [Bool.not_true, Bool.false_eq_true, if_false, bne_self_eq_false, rt10.len, rn.len]
  rw [strT_ok rr10, bind2_some]
  simp only
  obtain ⟨p5, h11, e16, x11, b16, _⟩ := Few_f x10.wf (((hbh5.ex x58).ex x9).ex x10) (by omega) (n := 20) (by omega)
  rw [e16, bind2_some]
  simp only [show (20 : Int).toNat = 20 from rfl, hbg] at b16 ⊢
  rw [strT_ok b16.rd, bind2_some, strT_ok (rr10.ex x11), bind2_some]
  simp only [beq_self_eq_true, if_true, Bool.not_true, joinO_inl, Bool.false_eq_true, if_false]
  have rn11 : RdI .i64 h11 n ns := (((rn5.ex x58).ex x9).ex x10).ex x11
  have rd11 : RdB h11 p4 (encs ns ++ bh) := ((b13.rd.ex x9).ex x10).ex x11
  obtain ⟨h', e17⟩ := back_l2 (bh := bh) (rt10.ex x11) rn11 hok (by omega) ns.length 0 p4 h11 (by omega) (by simpa using rd11) (EX.refl x11.wf)
  simp only [law1_VarintBack_l2, Int.natCast_zero] at e17
  exact ⟨h', by rw [rn.len]; exact e17⟩
end Go.Proofs.Ytejdeibmhlcnbaa.T
