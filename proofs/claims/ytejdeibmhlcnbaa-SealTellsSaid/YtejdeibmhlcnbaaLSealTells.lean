/- The law SealTells over the typed text. -/
import Derived.Test.YtejdeibmhlcnbaaTxt2
import Derived.Test.YtejdeibmhlcnbaaSRef5
import Derived.Test.YtejdeibmhlcnbaaLSealBack
set_option linter.unusedVariables false
set_option linter.unusedSimpArgs false
namespace Go.Proofs.Ytejdeibmhlcnbaa.T
open Go Go.Abs Go.Proofs
theorem seal_round {key num : Int} {head x0 x1 z : Sl} {i : Int} {h : H} {hl l : List UInt8} (w : WF h) (hk : U64 key) (h0 : 0 ≤ i) (h2 : i < 2)
    (hix : ixVT ⟨false, [.sl]⟩ [.slice x0.base x0.len x0.cap, .slice x1.base x1.len x1.cap] i = some z) (hh : RdB h head hl) (hr : RdB h z l) (l1 : hl.length ≤ 2 ^ 47) (l2 : l.length ≤ 2 ^ 47) :
    ∃ h', law4_SealTells_l1 ((key, (num, (head, ((x0, x1), i)))), h) = some (Sum.inl ((key, (num, (head, ((x0, x1), i + 1)))), h')) ∧ EX h h' := by
  unfold law4_SealTells_l1 P.law4_SealTells_l1
  dsimp only
  rw [condK_eq, if_pos (decide_eq_true h2), hix]
  erw [bindO_some]
  obtain ⟨p, g1, e1, y1, r1⟩ := Open_f (num := num) w hh hr l1 l2 hk
  rw [e1, bind2_some]
  dsimp only
  obtain ⟨q, g2, e2, y2, r2⟩ := ROpen_f (num := num) y1.wf (hh.ex y1) (hr.ex y1) l1 l2 hk
  rw [e2, bind2_some]
  dsimp only
  rw [condK_eq, if_neg (by simp), strT_ok (r1.ex y2), bind2_some]
  dsimp only
  rw [strT_ok r2, bind2_some, joinO_inl]
  dsimp only
  rw [condK_eq, if_neg (by simp), w64 (by omega) (by omega)]
  exact ⟨g2, rfl, y1.trans y2⟩
theorem BufW.ex {sz : Nat} {h h' : H} {s : Sl} {l : List Value} {room : Nat} (w : WF h) (x : EX h h') (r : BufW sz h s l room) : BufW sz h' s l room := by
  obtain ⟨rdl, a, q, e, ha, hobj, hsp, hver, hnro, hoff, hcap⟩ := r
  have hlt : a.block < h.size := by
    rcases Nat.lt_or_ge a.block h.size with y | y
    · exact y
    · rw [w.top _ y] at hobj; simp at hobj
  exact ⟨rdl.ex x, a, q, e, ha, by rw [x.same _ hlt]; exact hobj, hsp, hver, by rw [x.nro]; exact hnro, hoff, hcap⟩
/-- the law behind the change of a byte -/
noncomputable def seal_rest (key2 num2 : Int) (head2 body2 : Sl) (at'2 : Int) (x3 : Sl) (h3 : H) : Option (Bool × H) :=
    joinO (
      condK ((Int.tmod at'2 5) == 4) (
        bind2 (hand_Pick at'2 (IntKind.wrap .i64 (((x3.len : Nat) : Int) + 1)) h3) fun (x4 : Int) (h4 : H) =>
        bindO (slT 1 h4 x3 none (some x4) none) fun (x5 : Sl) =>
        some (Sum.inl ((key2, (num2, (head2, (body2, x5)))), h4))) (
        some (Sum.inl ((key2, (num2, (head2, (body2, x3)))), h3)))) fun (((key3, (num3, (head3, (body3, x4)))), h4) : ((Int × (Int × (Sl × (Sl × Sl)))) × H)) =>
    joinO (
      loopO law4_SealTells_l1 ((key3, (num3, (head3, ((x4, body3), 0)))), h4)) fun (((), h5) : (PUnit × H)) =>
    bind2 (law4_known h5) fun (x5 : Bool) (h6 : H) =>
    some (x5, h6)
theorem seal_rest_f {key num : Int} {head body x : Sl} {at' : Int} {h : H} {hl bl l : List UInt8} (w : WF h) (hk : U64 key) (hh : RdB h head hl) (hb : RdB h body bl) (hx : RdB h x l) (l1 : hl.length ≤ 2 ^ 47) (l2 : bl.length ≤ 2 ^ 47) (l3 : l.length ≤ 2 ^ 47) :
    ∃ h', seal_rest key num head body at' x h = some (true, h') := by
  unfold seal_rest
  have fin : ∀ (y : Sl) (m : List UInt8), RdB h y m → m.length ≤ 2 ^ 47 → ∃ h', (joinO (loopO law4_SealTells_l1 ((key, (num, (head, ((y, body), 0)))), h)) fun (((), h5) : (PUnit × H)) => bind2 (law4_known h5) fun (x5 : Bool) (h6 : H) => some (x5, h6)) = some (true, h') := by
    intro y m hy lm
    obtain ⟨g1, t1, y1⟩ := seal_round (key := key) (num := num) (head := head) (x0 := y) (x1 := body) (i := 0) w hk (by omega) (by omega) rfl hh hy l1 lm
    obtain ⟨g2, t2, y2⟩ := seal_round (key := key) (num := num) (head := head) (x0 := y) (x1 := body) (i := 0 + 1) y1.wf hk (by omega) (by omega) rfl (hh.ex y1) (hb.ex y1) l1 l2
    have hloop : loopO law4_SealTells_l1 ((key, (num, (head, ((y, body), 0)))), h) = some (Sum.inl ((), g2)) := by
      rw [loopO_eq, t1]
      dsimp only
      rw [loopO_eq, t2]
      dsimp only
      rw [loopO_eq]
      unfold law4_SealTells_l1 P.law4_SealTells_l1
      dsimp only
      rw [condK_eq, if_neg (by simp)]
    rw [hloop, joinO_inl]
    dsimp only
    obtain ⟨h', e9, _⟩ := known4_f y2.wf
    rw [e9, bind2_some]
    exact ⟨h', rfl⟩
  by_cases hc : (Int.tmod at' 5 == 4) = true
  · rw [condK_eq, if_pos hc, hx.len, w64 (by omega) (by omega), pick_f _ _ (by omega) (by omega), bind2_some]
    dsimp only
    have q1 := Int.emod_nonneg at' (b := (l.length : Int) + 1) (by omega)
    have q2 := Int.emod_lt_of_pos at' (b := (l.length : Int) + 1) (by omega)
    generalize at' % ((l.length : Int) + 1) = k at q1 q2 ⊢
    obtain ⟨n, rfl⟩ : ∃ n : Nat, k = (n : Int) := ⟨k.toNat, by omega⟩
    obtain ⟨y, e, r⟩ := rdB_take hx (n := n) (by omega)
    rw [e, bindO_some, joinO_inl]
    exact fin y _ r (by rw [List.length_take]; omega)
  · rw [condK_eq, if_neg hc, joinO_inl]
    exact fin x l hx l3
theorem SealTells (key h0 c num : Int) (head body parts : Sl) (at' with' : Int) (h : H) (w : WF h) (hk : 0 ≤ key ∧ key < 18446744073709551616) (hh0 : 0 ≤ h0 ∧ h0 < 18446744073709551616) (_ : 0 ≤ c ∧ c < 18446744073709551616) (_ : -9223372036854775808 ≤ num ∧ num ≤ 9223372036854775807)
    (hl : List UInt8) (h1 : RdB h head hl) (l1 : hl.length ≤ 140737488351232) (bl : List UInt8) (h2 : RdB h body bl) (l2 : bl.length ≤ 140737488351232) (xs : List Sl) (ls : List (List UInt8)) (hp : RdS h parts xs) (hx : RdBs h xs ls) (hn : xs.length ≤ 2 ^ 47)
    (_ : -9223372036854775808 ≤ at' ∧ at' ≤ 9223372036854775807) (hw : 0 ≤ with' ∧ with' < 256) : ∃ h', law4_SealTells key h0 c num head body parts at' with' h = some (true, h') := by
  obtain ⟨v, rfl⟩ : ∃ v : UInt8, with' = (v.toNat : Int) := ⟨UInt8.ofNat with'.toNat, by rw [UInt8.toNat_ofNat']; omega⟩
  unfold law4_SealTells P.law4_SealTells
  obtain ⟨x, g1, room, e1, x1, bx, fx⟩ := Close_f (num := num) w h1 h2 (by omega) (by omega) hk
  rw [e1, bind2_some]
  dsimp only
  have hcl := closeV_length key num hl bl
  have rx : RdB g1 x (closeV key num hl bl) := bx.rd
  rw [Step_f _ _ hh0.1 hh0.2, bind2_some]
  dsimp only
  rw [RStep_f _ _ hh0.1 hh0.2, bind2_some]
  dsimp only
  rw [condK_eq, if_neg (by simp), Tag_f (hp.ex x1) (hx.ex x1) hn hk, bind2_some]
  dsimp only
  rw [RTag_f (hp.ex x1) (hx.ex x1) hn hk, bind2_some]
  dsimp only
  rw [condK_eq, if_neg (by simp)]
  obtain ⟨m, g2, e2, x2, r2, _⟩ := Mask_f (num := num) x1.wf (h2.ex x1) (by omega) hk
  rw [e2, bind2_some]
  dsimp only
  rw [strT_ok r2, bind2_some]
  dsimp only
  have x12 := x1.trans x2
  obtain ⟨m', g3, e3, x3, r3, _⟩ := RMask_f (num := num) x2.wf (h2.ex x12) (by omega) hk
  rw [e3, bind2_some]
  dsimp only
  rw [strT_ok r3, bind2_some]
  dsimp only
  have x13 := x12.trans x3
  rw [condK_eq, if_neg (by simp), strT_ok ((rx.ex x2).ex x3), bind2_some]
  dsimp only
  obtain ⟨y, g4, e4, x4, r4⟩ := RClose_f (num := num) x3.wf (h1.ex x13) (h2.ex x13) (by omega) (by omega) hk
  rw [e4, bind2_some]
  dsimp only
  have x24 := (x2.trans x3).trans x4
  rw [strT_ok r4, bind2_some]
  dsimp only
  rw [strT_ok (rx.ex x24), bind2_some]
  dsimp only
  rw [condK_eq, if_pos (beq_self_eq_true _), strT_ok (r2.ex x3), bind2_some]
  dsimp only
  rw [condK_eq, if_pos (beq_self_eq_true _), joinO_inl]
  dsimp only
  rw [condK_eq, if_neg (by simp)]
  have x14 := x1.trans x24
  have rx4 := rx.ex x24
  have bx4 := BufW.ex x1.wf x24 bx
  rw [condK_eq, if_pos (by rw [rx.len, hcl]; simp; omega), joinO_inl]
  dsimp only
  by_cases hc : (Int.tmod at' 2 == 0) = true
  · rw [condK_eq, if_pos hc, rx.len, pick_f _ _ (by omega) (by omega), bind2_some]
    dsimp only
    have q1 := Int.emod_nonneg at' (b := ((closeV key num hl bl).length : Int)) (by omega)
    have q2 := Int.emod_lt_of_pos at' (b := ((closeV key num hl bl).length : Int)) (by omega)
    generalize at' % ((closeV key num hl bl).length : Int) = k at q1 q2 ⊢
    obtain ⟨a, ha, i1, i2⟩ := rx4.at q1 q2
    rw [i1, bindO_some, i2, bindO_some, xor8, letO_eq, bindO_some]
    obtain ⟨g5, e5, w5, b5, y5⟩ := st1_w (v := .int .u8 ((((closeV key num hl bl).getD k.toNat 0 ^^^ v).toNat : Nat) : Int)) bx4 ha (i := k.toNat) (by simp [vB]; omega) rfl x14.wf
    rw [e5, bindO_some, joinO_inl]
    have x15 := y5 _ x14 fx
    have r5 : RdB g5 x ((closeV key num hl bl).set k.toNat ((closeV key num hl bl).getD k.toNat 0 ^^^ v)) := by
      unfold RdB
      have : vB ((closeV key num hl bl).set k.toNat ((closeV key num hl bl).getD k.toNat 0 ^^^ v)) = (vB (closeV key num hl bl)).set k.toNat (.int .u8 ((((closeV key num hl bl).getD k.toNat 0 ^^^ v).toNat : Nat) : Int)) := by simp [vB, List.map_set]
      rw [this]; exact b5.rd
    exact seal_rest_f w5 hk (h1.ex x15) (h2.ex x15) r5 (by omega) (by omega) (by rw [List.length_set]; omega)
  · rw [condK_eq, if_neg hc, joinO_inl]
    exact seal_rest_f x14.wf hk (h1.ex x14) (h2.ex x14) rx4 (by omega) (by omega) (by omega)
end Go.Proofs.Ytejdeibmhlcnbaa.T
