/- The law VarintTells over the typed text. -/
import Derived.Test.YtejdeibmhlcnbaaTxt2
import Derived.Test.YtejdeibmhlcnbaaSRef2
import Derived.Test.YtejdeibmhlcnbaaLSealApart
set_option linter.unusedVariables false
set_option linter.unusedSimpArgs false
namespace Go.Proofs.Ytejdeibmhlcnbaa.T
open Go Go.Abs Go.Proofs
/-- a round of the law behind the bytes' change: cut, taken both ways, compared -/
noncomputable def tells_rest (cut1 count1 at'1 with'1 : Int) (w x6 x7 x8 : Sl) (x9 : Int) (h2 : H) : Option (((Int × (Int × (Int × (Int × ((Sl × (Sl × Sl)) × Int))))) × H) ⊕ (((Int × (Int × (Int × (Int × ((Sl × (Sl × Sl)) × Int))))) × H) ⊕ ((PUnit × H) ⊕ (Bool × H)))) :=
      joinO (
        condK ((Int.tmod cut1 4) == 0) (
          bind2 (hand_Pick cut1 (IntKind.wrap .i64 (((w.len : Nat) : Int) + 1)) h2) fun (x10 : Int) (h3 : H) =>
          bindO (slT 1 h3 w none (some x10) none) fun (x11 : Sl) =>
          some (Sum.inl ((cut1, (count1, (at'1, (with'1, (x11, ((x6, (x7, x8)), x9)))))), h3))) (
          some (Sum.inl ((cut1, (count1, (at'1, (with'1, (w, ((x6, (x7, x8)), x9)))))), h2)))) fun (((cut2, (count2, (at'2, (with'2, (w1, ((x10, (x11, x12)), x13)))))), h3) : ((Int × (Int × (Int × (Int × (Sl × ((Sl × (Sl × Sl)) × Int)))))) × H)) =>
      bind2 (varint_Take w1 h3) fun ((x14, x15, x16) : Int × Sl × Int) (h4 : H) =>
      bind2 (ref1_Take w1 h4) fun ((x17, x18, x19) : Int × Sl × Int) (h5 : H) =>
      bind2 (hand_Pick count2 9 h5) fun (x20 : Int) (h6 : H) =>
      bind2 (varint_Takes w1 (IntKind.wrap .i64 (x20 - 2)) h6) fun ((x21, x22, x23) : Sl × Sl × Int) (h7 : H) =>
      bind2 (ref1_Takes w1 (IntKind.wrap .i64 (x20 - 2)) h7) fun ((x24, x25, x26) : Sl × Sl × Int) (h8 : H) =>
      joinO (
        condK (x14 != x17) (
          some (Sum.inl ((cut2, (count2, (at'2, (with'2, (x21, (x24, ((x10, (x11, x12)), (x13, true)))))))), h8))) (
          bind2 (strT h8 x15) fun (x27 : ByteArray) (h9 : H) =>
          bind2 (strT h9 x18) fun (x28 : ByteArray) (h10 : H) =>
          condK (!(x27.toList == x28.toList)) (
            some (Sum.inl ((cut2, (count2, (at'2, (with'2, (x21, (x24, ((x10, (x11, x12)), (x13, true)))))))), h10))) (
            condK (x16 != x19) (
              some (Sum.inl ((cut2, (count2, (at'2, (with'2, (x21, (x24, ((x10, (x11, x12)), (x13, true)))))))), h10))) (
              condK (((x21.len : Nat) : Int) != ((x24.len : Nat) : Int)) (
                some (Sum.inl ((cut2, (count2, (at'2, (with'2, (x21, (x24, ((x10, (x11, x12)), (x13, true)))))))), h10))) (
                bind2 (strT h10 x22) fun (x29 : ByteArray) (h11 : H) =>
                bind2 (strT h11 x25) fun (x30 : ByteArray) (h12 : H) =>
                condK (!(x29.toList == x30.toList)) (
                  some (Sum.inl ((cut2, (count2, (at'2, (with'2, (x21, (x24, ((x10, (x11, x12)), (x13, true)))))))), h12))) (
                  some (Sum.inl ((cut2, (count2, (at'2, (with'2, (x21, (x24, ((x10, (x11, x12)), (x13, (x23 != x26))))))))), h12)))))))) fun (((cut3, (count3, (at'3, (with'3, (t, (v, ((x27, (x28, x29)), (x30, x31)))))))), h9) : ((Int × (Int × (Int × (Int × (Sl × (Sl × ((Sl × (Sl × Sl)) × (Int × Bool)))))))) × H)) =>
      condK x31 (
        some (Sum.inr (Sum.inr (Sum.inr (false, h9))))) (
        loopO law1_VarintTells_l2 ((cut3, (count3, (at'3, (with'3, (t, (v, ((x27, (x28, x29)), (x30, (((t.len : Nat) : Int), 0))))))))), h9))
theorem nums_loop {h0 : H} {s : Sl} {zs : List Int} (hr : RdI .i64 h0 s zs) (hz : zs.length ≤ 2 ^ 47) : ∀ (k i : Nat) (n : Sl) (h : H), i + k = min zs.length 12 → Buf 1 h n (((zs.take i).map numV).map (.int .i64)) → EX h0 h → Fr h0.size n →
    ∃ n' h', loopO law1_nums_l1 ((s, (n, (i : Int))), h) = some (Sum.inl (n', h')) ∧ Buf 1 h' n' (((zs.take 12).map numV).map (.int .i64)) ∧ EX h0 h' ∧ Fr h0.size n'
  | 0, i, n, h, hik, hb, hx, hf => by
    have ht : zs.take i = zs.take 12 := by
      rw [show i = min zs.length 12 by omega]
      by_cases hl : zs.length ≤ 12
      · rw [Nat.min_eq_left hl, List.take_of_length_le (Nat.le_refl _), List.take_of_length_le hl]
      · rw [Nat.min_eq_right (by omega)]
    rw [ht] at hb
    refine ⟨n, h, ?_, hb, hx, hf⟩
    rw [loopO_eq]
    simp only [P.law1_nums_l1, condK_eq, decide_eq_true_eq, hr.len]
    by_cases hl : (i : Int) < (zs.length : Int)
    · simp only [hl, if_true, joinO_inl]
      simp only [show ¬ ((i : Int) < 12) by omega, decide_false, Bool.false_eq_true, if_false]
    · simp only [hl, if_false, joinO_inl, Bool.false_eq_true]
  | k + 1, i, n, h, hik, hb, hx, hf => by
    obtain ⟨a, ha, e1, e2⟩ := (hr.ex hx).at (i := (i : Int)) (by omega) (by omega)
    simp only [Int.toNat_natCast] at e1 e2
    rw [loopO_eq]
    simp only [P.law1_nums_l1, condK_eq, decide_eq_true_eq, hr.len, show ((i : Int) < (zs.length : Int)) by omega, show ((i : Int) < 12) by omega, if_true, joinO_inl, decide_true]
    rw [e1, bindO_some, e2, bindO_some, Num_f, bind2_some]
    simp only
    rw [newO_eq]
    obtain ⟨x2, b2⟩ := one_new (numV (zs.getD i 0)) hx.wf
    generalize newAt (grow h 1) h.size (row 3 [.int .i64 (numV (zs.getD i 0))]) = h2 at x2 b2 ⊢
    generalize (⟨some ⟨h.size, 0, some 0⟩, 1, 1⟩ : Sl) = s1 at b2 ⊢
    have hbo := hb.ex hx.wf x2
    have l1 : n.len = i := by have := hb.rd.len; simp at this; omega
    have l2 : s1.len = 1 := by have := b2.rd.len; simpa using this.symm
    obtain ⟨out', h3, e3, k3, x3, b3, _, f3⟩ := appT_ok (e := 3) (bytes := 8) (by omega) (by unfold B63; omega) x2.wf hbo b2.rd (oneC_ints .i64 _) (by rw [l1, l2]; omega) (by rw [l1, l2]; omega)
    rw [e3, bind2_some]
    simp only
    rw [w64 (by omega) (by omega)]
    have hx2 := hx.trans x2
    have ht : ((zs.take i).map numV).map (Value.int .i64) ++ [numV (zs.getD i 0)].map (.int .i64) = ((zs.take (i + 1)).map numV).map (.int .i64) := by
      have e : zs.take (i + 1) = zs.take i ++ [zs.getD i 0] := by
        rw [List.take_succ_eq_append_getElem (by omega)]
        simp [List.getD, show i < zs.length by omega]
      rw [e, List.map_append, List.map_append]; rfl
    rw [ht] at b3
    exact nums_loop hr hz k (i + 1) out' h3 (by omega) b3 (x3 _ hx2 hf) (f3 _ hx2.size hf)
theorem nums_f {h : H} {s : Sl} {zs : List Int} (w : WF h) (hr : RdI .i64 h s zs) (hz : zs.length ≤ 2 ^ 47) : ∃ s' h', law1_nums s h = some (s', h') ∧ EX h h' ∧ RdI .i64 h' s' ((zs.take 12).map numV) := by
  obtain ⟨n', h', e, b, x, _⟩ := nums_loop hr hz (min zs.length 12) 0 ⟨none, 0, 0⟩ h (by omega) (buf_nil 1 h) (EX.refl w) (fr_nil _)
  unfold law1_nums P.law1_nums
  simp only [Int.natCast_zero, law1_nums_l1] at e
  rw [e, joinO_inl]
  exact ⟨n', h', rfl, x, b.rd⟩
theorem tells_l2 {h : H} {t v : Sl} {ns : List Int} {cut count at' with' : Int} {x0 x1 x2 : Sl} {x3 : Int} (ht : RdI .i64 h t ns) (hv : RdI .i64 h v ns) (hn : ns.length ≤ 2 ^ 47) : ∀ (k i : Nat), i + k = ns.length →
    loopO law1_VarintTells_l2 ((cut, (count, (at', (with', (t, (v, ((x0, (x1, x2)), (x3, ((ns.length : Int), (i : Int)))))))))), h) = some (Sum.inl ((cut, (count, (at', (with', ((x0, (x1, x2)), x3))))), h))
  | 0, i, hik => by
    rw [loopO_eq]
    simp only [law1_VarintTells_l2, P.law1_VarintTells_l2, condK_eq, decide_eq_true_eq, show ¬ ((i : Int) < (ns.length : Int)) by omega, if_false]
  | k + 1, i, hik => by
    obtain ⟨a, _, e1, e2⟩ := ht.at (i := (i : Int)) (by omega) (by omega)
    obtain ⟨b, _, e3, e4⟩ := hv.at (i := (i : Int)) (by omega) (by omega)
    rw [loopO_eq]
    simp only [law1_VarintTells_l2, P.law1_VarintTells_l2, condK_eq, decide_eq_true_eq, show ((i : Int) < (ns.length : Int)) by omega, if_true]
    rw [e1, bindO_some, e2, bindO_some, e3, bindO_some, e4, bindO_some]
    simp only [bne_self_eq_false, Bool.false_eq_true, if_false]
    rw [w64 (by omega) (by omega)]
    exact tells_l2 ht hv hn k (i + 1) (by omega)
theorem tells_cut {cut count at' with' : Int} {w x6 x7 x8 : Sl} {x9 : Int} {h : H} {wl : List UInt8} (hr : RdB h w wl) (hl : wl.length ≤ 60) :
    ∃ w1 wl1, (condK ((Int.tmod cut 4) == 0) (
          bind2 (hand_Pick cut (IntKind.wrap .i64 (((w.len : Nat) : Int) + 1)) h) fun (x10 : Int) (h3 : H) =>
          bindO (slT 1 h3 w none (some x10) none) fun (x11 : Sl) =>
          some (Sum.inl ((cut, (count, (at', (with', (x11, ((x6, (x7, x8)), x9)))))), h3))) (
          some (Sum.inl ((cut, (count, (at', (with', (w, ((x6, (x7, x8)), x9)))))), h))) : Option (((Int × (Int × (Int × (Int × (Sl × ((Sl × (Sl × Sl)) × Int)))))) × H) ⊕ (((Int × (Int × (Int × (Int × ((Sl × (Sl × Sl)) × Int))))) × H) ⊕ (((Int × (Int × (Int × (Int × ((Sl × (Sl × Sl)) × Int))))) × H) ⊕ ((PUnit × H) ⊕ (Bool × H)))))) = some (Sum.inl ((cut, (count, (at', (with', (w1, ((x6, (x7, x8)), x9)))))), h)) ∧ RdB h w1 wl1 ∧ wl1.length ≤ 60 := by
  rw [condK_eq]
  by_cases hc : (Int.tmod cut 4 == 0) = true
  · rw [if_pos hc, hr.len, w64 (by omega) (by omega), pick_f _ _ (by omega) (by omega), bind2_some]
    simp only
    have q1 := Int.emod_nonneg cut (b := (wl.length : Int) + 1) (by omega)
    have q2 := Int.emod_lt_of_pos cut (b := (wl.length : Int) + 1) (by omega)
    generalize cut % ((wl.length : Int) + 1) = k at q1 q2 ⊢
    obtain ⟨n, rfl⟩ : ∃ n : Nat, k = (n : Int) := ⟨k.toNat, by omega⟩
    obtain ⟨w1, e, r⟩ := rdB_take hr (n := n) (by omega)
    rw [e, bindO_some]
    exact ⟨w1, _, rfl, r, by rw [List.length_take]; omega⟩
  · rw [if_neg hc]
    exact ⟨w, wl, rfl, hr, hl⟩
theorem tells_rest_f {cut count at' with' : Int} {w x6 x7 x8 : Sl} {x9 : Int} {h : H} {wl : List UInt8} (w0 : WF h) (hr : RdB h w wl) (hl : wl.length ≤ 60) :
    ∃ h', tells_rest cut count at' with' w x6 x7 x8 x9 h = some (Sum.inl ((cut, (count, (at', (with', ((x6, (x7, x8)), x9))))), h')) ∧ EX h h' := by
  unfold tells_rest
  obtain ⟨w1, l, e0, r0, hl1⟩ := tells_cut (cut := cut) (count := count) (at' := at') (with' := with') (x6 := x6) (x7 := x7) (x8 := x8) (x9 := x9) hr hl
  rw [e0, joinO_inl]
  simp only
  obtain ⟨p, h1, e1, x1, r1⟩ := Take_f w0 r0 (by omega)
  rw [e1, bind2_some]
  simp only
  obtain ⟨q, h2, e2, x2, r2⟩ := RTake_f x1.wf (r0.ex x1) (by omega)
  rw [e2, bind2_some]
  simp only
  have q1 := Int.emod_nonneg count (b := 9) (by omega)
  have q2 := Int.emod_lt_of_pos count (b := 9) (by omega)
  rw [pick_f _ _ (by omega) (by omega), bind2_some]
  simp only
  generalize count % 9 = c at q1 q2 ⊢
  rw [w64 (by omega) (by omega)]
  obtain ⟨cnt, hcnt⟩ : ∃ cnt : Nat, (if c - 2 > 0 then c - 2 else 0) = (cnt : Int) := ⟨(if c - 2 > 0 then c - 2 else 0).toNat, by split <;> omega⟩
  have hc8 : cnt ≤ 8 := by split at hcnt <;> omega
  have x02 := x1.trans x2
  have ht := Takes_f (cnt := cnt) (c := c - 2) x2.wf (r0.ex x02) (by omega) (by omega) hcnt
  cases hk : tks cnt l with
  | none =>
    rw [hk] at ht
    obtain ⟨h3, e3, x3⟩ := ht
    rw [e3, bind2_some]
    simp only
    have hu := RTakes_f (cnt := cnt) (c := c - 2) x3.wf ((r0.ex x02).ex x3) (by omega) (by omega) hcnt
    rw [hk] at hu
    obtain ⟨h4, e4, x4⟩ := hu
    rw [e4, bind2_some]
    simp only [bne_self_eq_false, condK_eq, Bool.false_eq_true, if_false]
    have x24 := x3.trans x4
    rw [strT_ok ((r1.ex x2).ex x24), bind2_some, strT_ok (r2.ex x24), bind2_some]
    simp only [beq_self_eq_true, Bool.not_true, Bool.false_eq_true, if_false]
    have rn : RdB h4 ⟨none, 0, 0⟩ [] := rd_nil 1 h4
    rw [strT_ok rn, bind2_some]
    simp only
    rw [strT_ok rn, bind2_some]
    simp only [beq_self_eq_true, Bool.not_true, Bool.false_eq_true, if_false, joinO_inl]
    have hl2 := tells_l2 (cut := cut) (count := count) (at' := at') (with' := with') (x0 := x6) (x1 := x7) (x2 := x8) (x3 := x9) (t := ⟨none, 0, 0⟩) (v := ⟨none, 0, 0⟩) (ns := []) (rd_nil 1 h4) (rd_nil 1 h4) (by simp) 0 0 (by simp)
    simp only [List.length_nil, Int.natCast_zero] at hl2 ⊢
    exact ⟨h4, hl2, x02.trans x24⟩
  | some pr =>
    obtain ⟨ns, rr⟩ := pr
    rw [hk] at ht
    obtain ⟨t, u, h3, e3, x3, rt, ru⟩ := ht
    rw [e3, bind2_some]
    simp only
    have hu := RTakes_f (cnt := cnt) (c := c - 2) x3.wf ((r0.ex x02).ex x3) (by omega) (by omega) hcnt
    rw [hk] at hu
    obtain ⟨v, o, h4, e4, x4, rv, ro⟩ := hu
    rw [e4, bind2_some]
    have hnl := tks_length cnt l ns rr hk
    simp only [bne_self_eq_false, condK_eq, Bool.false_eq_true, if_false]
    have x24 := x3.trans x4
    rw [strT_ok ((r1.ex x2).ex x24), bind2_some, strT_ok (r2.ex x24), bind2_some]
    simp only [beq_self_eq_true, Bool.not_true, Bool.false_eq_true, if_false]
    rw [rt.len, rv.len]
    simp only [bne_self_eq_false, Bool.false_eq_true, if_false]
    rw [strT_ok (ru.ex x4), bind2_some, strT_ok ro, bind2_some]
    simp only [beq_self_eq_true, Bool.not_true, Bool.false_eq_true, if_false, joinO_inl]
    have hl2 := tells_l2 (cut := cut) (count := count) (at' := at') (with' := with') (x0 := x6) (x1 := x7) (x2 := x8) (x3 := x9) (rt.ex x4) rv (by omega) ns.length 0 (by omega)
    simp only [Int.natCast_zero] at hl2
    rw [rt.len]
    exact ⟨h4, hl2, x02.trans x24⟩
theorem tells_round {cut count at' : Int} {v : UInt8} {x0 x1 x2 z : Sl} {i : Int} {h : H} {l : List UInt8} (w0 : WF h) (hat : -9223372036854775808 ≤ at' ∧ at' ≤ 9223372036854775807) (h0 : 0 ≤ i) (h3 : i < 3)
    (hix : ixVT ⟨false, [.sl]⟩ [.slice x0.base x0.len x0.cap, .slice x1.base x1.len x1.cap, .slice x2.base x2.len x2.cap] i = some z) (hr : RdB h z l) (hl : l.length ≤ 2 ^ 47) :
    ∃ h', law1_VarintTells_l1 ((cut, (count, (at', ((v.toNat : Int), ((x0, (x1, x2)), i))))), h) = some (Sum.inl ((cut, (count, (at', ((v.toNat : Int), ((x0, (x1, x2)), i + 1))))), h')) ∧ EX h h' := by
  have fin : ∀ (w : Sl) (wl : List UInt8) (h2 : H), RdB h2 w wl → wl.length ≤ 60 → EX h h2 →
      ∃ h', joinO (tells_rest cut count at' (v.toNat : Int) w x0 x1 x2 i h2) (fun (((cut1, (count1, (at'1, (with'1, ((x4, (x5, x6)), x7))))), h1) : ((Int × (Int × (Int × (Int × ((Sl × (Sl × Sl)) × Int))))) × H)) =>
        (some (Sum.inl ((cut1, (count1, (at'1, (with'1, ((x4, (x5, x6)), (IntKind.wrap .i64 (x7 + 1))))))), h1)) : Option (((Int × (Int × (Int × (Int × ((Sl × (Sl × Sl)) × Int))))) × H) ⊕ ((PUnit × H) ⊕ (Bool × H))))) = some (Sum.inl ((cut, (count, (at', ((v.toNat : Int), ((x0, (x1, x2)), i + 1))))), h')) ∧ EX h h' := by
    intro w wl h2 r hw x
    obtain ⟨h', e, x'⟩ := tells_rest_f (cut := cut) (count := count) (at' := at') (with' := (v.toNat : Int)) (x6 := x0) (x7 := x1) (x8 := x2) (x9 := i) x.wf r hw
    rw [e, joinO_inl]
    simp only
    rw [w64 (by omega) (by omega)]
    exact ⟨h', rfl, x.trans x'⟩
  unfold law1_VarintTells_l1 P.law1_VarintTells_l1
  dsimp only
  rw [condK_eq, if_pos (decide_eq_true h3), hix]
  erw [bindO_some]
  obtain ⟨y, g1, e1, y1, b1, f1⟩ := Few_f w0 hr hl (n := 60) (by omega)
  rw [e1, bind2_some]
  dsimp only
  have hl60 : (l.take (60 : Int).toNat).length ≤ 60 := by rw [List.length_take]; exact Nat.min_le_left _ _
  generalize l.take (60 : Int).toNat = yl at b1 hl60
  rw [b1.rd.len]
  by_cases hz : (0 : Int) < (yl.length : Int)
  · rw [condK_eq, if_pos (decide_eq_true hz), joinO_inl]
    dsimp only
    by_cases h3' : (Int.tmod at' 3 == 0) = true
    · rw [condK_eq, if_pos h3', b1.rd.len, pick_f _ _ (by omega) (by omega), bind2_some]
      dsimp only
      have q1 := Int.emod_nonneg at' (b := (yl.length : Int)) (by omega)
      have q2 := Int.emod_lt_of_pos at' (b := (yl.length : Int)) (by omega)
      generalize at' % (yl.length : Int) = k at q1 q2 ⊢
      obtain ⟨a, ha, i1, i2⟩ := b1.rd.at q1 q2
      rw [i1, bindO_some, i2, bindO_some, xor8, letO_eq, bindO_some]
      obtain ⟨g2, e2, w2, b2, y2⟩ := st1_bufB (v := yl.getD k.toNat 0 ^^^ v) b1 ha (i := k.toNat) (by omega) y1.wf
      rw [e2, bindO_some, joinO_inl]
      exact fin y _ g2 b2.rd (by rw [List.length_set]; exact hl60) (y2 _ y1 f1)
    · rw [condK_eq, if_neg h3', joinO_inl]
      exact fin y yl g1 b1.rd hl60 y1
  · rw [condK_eq, if_neg (by simpa using hz), joinO_inl]
    dsimp only
    rw [condK_eq, if_neg (by simp), joinO_inl]
    exact fin y yl g1 b1.rd hl60 y1
theorem VarintTells (b l more : Sl) (cut count at' with' : Int) (h : H) (w : WF h) (bl : List UInt8) (hb : RdB h b bl) (lb : bl.length ≤ 140737488351232) (zs : List Int) (hl : RdI .i64 h l zs) (ll : zs.length * 8 ≤ 140737488351232) (_ : ∀ n ∈ zs, -9223372036854775808 ≤ n ∧ n ≤ 9223372036854775807)
    (ml : List UInt8) (hm : RdB h more ml) (lm : ml.length ≤ 140737488351232) (_ : -9223372036854775808 ≤ cut ∧ cut ≤ 9223372036854775807) (_ : -9223372036854775808 ≤ count ∧ count ≤ 9223372036854775807) (hat : -9223372036854775808 ≤ at' ∧ at' ≤ 9223372036854775807) (hw : 0 ≤ with' ∧ with' < 256) : ∃ h', law1_VarintTells b l more cut count at' with' h = some (true, h') := by
  obtain ⟨v, rfl⟩ : ∃ v : UInt8, with' = (v.toNat : Int) := ⟨UInt8.ofNat with'.toNat, by rw [UInt8.toNat_ofNat']; omega⟩
  have rd0 : ∀ g : H, RdB g ⟨none, 0, 0⟩ [] := fun g => rd_nil 1 g
  unfold law1_VarintTells P.law1_VarintTells
  obtain ⟨hd, g1, e1, x1, b1, _⟩ := Few_f w hb (by omega) (n := 20) (by omega)
  rw [e1, bind2_some]
  dsimp only
  have hl20 : (bl.take (20 : Int).toNat).length ≤ 20 := by rw [List.length_take]; exact Nat.min_le_left _ _
  generalize bl.take (20 : Int).toNat = hdl at b1 hl20
  obtain ⟨n, g2, e2, x2, rn⟩ := nums_f x1.wf (hl.ex x1) (by omega)
  rw [e2, bind2_some]
  dsimp only
  have hn12 : ((zs.take 12).map numV).length ≤ 12 := by rw [List.length_map, List.length_take]; exact Nat.min_le_left _ _
  generalize (zs.take 12).map numV = ns at rn hn12
  have rh2 := b1.rd.ex x2
  obtain ⟨p, g3, e3, x3, rp⟩ := Put_all x2.wf rh2 rn (by omega)
  rw [e3, bind2_some]
  dsimp only
  obtain ⟨q, g4, e4, x4, bq, _⟩ := RPut_f x3.wf (rh2.ex x3) (rn.ex x3) (by omega)
  rw [e4, bind2_some]
  dsimp only
  rw [strT_ok (rp.ex x4), bind2_some]
  dsimp only
  rw [strT_ok bq.rd, bind2_some]
  dsimp only
  have rn4 := (rn.ex x3).ex x4
  rw [condK_eq, if_neg (by simp), Size_f rn4 (by omega), bind2_some]
  dsimp only
  rw [RSize_f rn4 (by omega), bind2_some, joinO_inl]
  dsimp only
  rw [condK_eq, if_neg (by simp)]
  obtain ⟨u, g5, e5, x5, bu, _⟩ := RPut_f (l := []) (b := ⟨none, 0, 0⟩) ((x3.trans x4).wf) (rd0 g4) rn4 (by simp; omega)
  rw [e5, bind2_some]
  dsimp only
  rw [May_f, bind2_some]
  dsimp only
  rw [newO_eq]
  obtain ⟨x6, b6⟩ := one_new (mayV at') x5.wf
  generalize newAt (grow g5 1) g5.size (row 3 [.int .i64 (mayV at')]) = g6 at x6 b6 ⊢
  generalize (⟨some ⟨g5.size, 0, some 0⟩, 1, 1⟩ : Sl) = s6 at b6 ⊢
  obtain ⟨s7, g7, e7, x7, b7, f7⟩ := RPut_f (l := []) (b := ⟨none, 0, 0⟩) (zs := [mayV at']) x6.wf (rd0 g6) b6.rd (by simp)
  rw [e7, bind2_some]
  dsimp only
  have hp8 : (putV [] [mayV at']).length ≤ 8 := by
    unfold putV
    have := encs_length [mayV at']
    split <;> simp at this ⊢
    omega
  have x17 : EX h g7 := ((((((x1.trans x2).trans x3).trans x4).trans x5).trans x6).trans x7)
  obtain ⟨s8, g8, e8, _, x8, b8, _, _⟩ := appB_ok (e := 5) x7.wf b7 (hm.ex x17) (by omega)
  rw [e8, bind2_some]
  dsimp only
  have x68 : EX g6 g8 := x8 _ x7 f7
  have x08 : EX h g8 := ((((((x1.trans x2).trans x3).trans x4).trans x5).trans x6).trans x68)
  have hup : (putV [] ns).length ≤ 2 ^ 47 := by
    unfold putV
    have := encs_length ns
    split <;> simp at this ⊢
    omega
  obtain ⟨h1, t1, y1⟩ := tells_round (cut := cut) (count := count) (v := v) (x0 := b) (x1 := u) (x2 := s8) (i := 0) x68.wf hat (by omega) (by omega) rfl (hb.ex x08) (by omega)
  obtain ⟨h2, t2, y2⟩ := tells_round (cut := cut) (count := count) (v := v) (x0 := b) (x1 := u) (x2 := s8) (i := 0 + 1) y1.wf hat (by omega) (by omega) rfl ((bu.rd.ex (x6.trans x68)).ex y1) hup
  obtain ⟨h3, t3, y3⟩ := tells_round (cut := cut) (count := count) (v := v) (x0 := b) (x1 := u) (x2 := s8) (i := 0 + 1 + 1) y2.wf hat (by omega) (by omega) rfl ((b8.rd.ex y1).ex y2) (by rw [List.length_append]; omega)
  have hloop : loopO law1_VarintTells_l1 ((cut, (count, (at', ((v.toNat : Int), ((b, (u, s8)), 0))))), g8) = some (Sum.inl ((), h3)) := by
    rw [loopO_eq, t1]
    dsimp only
    rw [loopO_eq, t2]
    dsimp only
    rw [loopO_eq, t3]
    dsimp only
    rw [loopO_eq]
    unfold law1_VarintTells_l1 P.law1_VarintTells_l1
    dsimp only
    rw [condK_eq, if_neg (by simp)]
  unfold law1_VarintTells_l1 at hloop
  rw [hloop, joinO_inl]
  dsimp only
  obtain ⟨h', e9, _⟩ := known1_f y3.wf
  rw [e9, bind2_some]
  exact ⟨h', rfl⟩
end Go.Proofs.Ytejdeibmhlcnbaa.T
