/- The law SealBack over the typed texts. -/
import Derived.Test.YtejdeibmhlcnbaaLSealApart
import Derived.Test.YtejdeibmhlcnbaaSPnum
set_option linter.unusedVariables false
set_option linter.unusedSimpArgs false
namespace Go.Proofs.Ytejdeibmhlcnbaa.T
open Go Go.Abs Go.Proofs
/-! one byte that is another one -/
theorem xor_ne {a b : UInt8} (hb : b ≠ 0) : a ^^^ b ≠ a := by
  intro e
  apply hb
  have : a ^^^ (a ^^^ b) = a ^^^ a := by rw [e]
  rwa [← UInt8.xor_assoc, UInt8.xor_self, UInt8.zero_xor] at this
theorem u64_byte (a : UInt8) : U64 (a.toNat : Int) := by
  have := a.toNat_lt
  unfold U64; omega
theorem bytesTag_set : ∀ (l : List UInt8) (i : Nat) (key : Int) (v : UInt8), i < l.length → v ≠ l.getD i 0 → bytesTag key (l.set i v) ≠ bytesTag key l
  | [], i, key, v, hi, hv => by simp at hi
  | c :: l, 0, key, v, hi, hv => by
    intro e
    have e1 : bytesTag (stepV key (v.toNat : Int)) l = bytesTag (stepV key (c.toNat : Int)) l := e
    have e2 := bytesTag_inj l (stepV_rng _ _) (stepV_rng _ _) e1
    have e3 := stepV_inj_r (u64_byte v) (u64_byte c) e2
    apply hv
    rw [List.getD_cons_zero]
    apply UInt8.toNat_inj.1
    omega
  | c :: l, i + 1, key, v, hi, hv => by
    intro e
    have e1 : bytesTag (stepV key (c.toNat : Int)) (l.set i v) = bytesTag (stepV key (c.toNat : Int)) l := e
    exact bytesTag_set l i _ v (by simpa using hi) (by simpa using hv) e1
theorem partTag_set (l : List UInt8) (i : Nat) (key : Int) (hk : U64 key) (v : UInt8) (hi : i < l.length) (hv : v ≠ l.getD i 0) : partTag key (l.set i v) ≠ partTag key l := by
  intro e
  unfold partTag at e
  rw [List.length_set] at e
  exact bytesTag_set l i key v hi hv (stepV_inj_l (bytesTag_rng _ _ hk) (bytesTag_rng _ _ hk) e)
theorem partTag_rng (l : List UInt8) (key : Int) : U64 (partTag key l) := stepV_rng _ _
theorem open_sethead (key num : Int) (head body : List UInt8) (i : Nat) (v : UInt8) (hi : i < head.length) (hv : v ≠ head.getD i 0) : (openV key num (head.set i v) (closeV key num head body)).isSome = false := by
  unfold openV
  have hl := closeV_length key num head body
  rw [hl, if_neg (by omega), Nat.add_sub_cancel]
  unfold closeV
  have hm := mk_length (stepV key num) body 0
  rw [List.take_append_of_le_length (by omega), List.take_of_length_le (by omega), List.drop_append_of_le_length (by omega), List.drop_of_length_le (by omega), List.nil_append]
  rw [if_neg]
  · rfl
  · intro e
    have e1 := tagL_inj e
    have rs := stepV_rng key num
    exact partTag_set head i _ rs v hi hv (partTag_inj _ (partTag_rng _ _) (partTag_rng _ _) e1)
theorem open_setseal (key num : Int) (head body : List UInt8) (i : Nat) (v : UInt8) (hi : i < body.length + 8) (hv : v ≠ (closeV key num head body).getD i 0) : (openV key num head ((closeV key num head body).set i v)).isSome = false := by
  unfold openV
  have hl := closeV_length key num head body
  rw [List.length_set, hl, if_neg (by omega), Nat.add_sub_cancel]
  have hm := mk_length (stepV key num) body 0
  have ht := tagL_length key num head (mk (stepV key num) 0 body)
  rw [if_neg]
  · rfl
  unfold closeV at hv ⊢
  by_cases hb : i < body.length
  · rw [List.set_append_left _ _ (by omega)]
    have hs : ((mk (stepV key num) 0 body).set i v).length = body.length := by rw [List.length_set, hm]
    rw [List.take_append_of_le_length (by omega), List.take_of_length_le (by omega), List.drop_append_of_le_length (by omega), List.drop_of_length_le (by omega), List.nil_append]
    intro e
    have e1 := tagL_inj e
    have rs := stepV_rng key num
    have hv' : v ≠ (mk (stepV key num) 0 body).getD i 0 := by
      rwa [List.getD_eq_getElem?_getD, List.getElem?_append_left (by omega), ← List.getD_eq_getElem?_getD] at hv
    exact partTag_set _ i _ (partTag_rng _ _) v (by omega) hv' e1
  · rw [List.set_append_right _ _ (by omega), hm]
    rw [List.take_append_of_le_length (by omega), List.take_of_length_le (by omega), List.drop_append_of_le_length (by omega), List.drop_of_length_le (by omega), List.nil_append]
    intro e
    rw [List.getD_eq_getElem?_getD, List.getElem?_append_right (by omega), hm, ← List.getD_eq_getElem?_getD] at hv
    apply hv
    have := congrArg (fun l => l.getD (i - body.length) 0) e
    rw [this, List.getD_eq_getElem?_getD, List.getElem?_set_self (by omega)]
    rfl
/-- a write into one row leaves the rows in other blocks -/
theorem st1_bufB2 {h : H} {s : Sl} {l : List UInt8} {i : Nat} {v : UInt8} {a : Addr} (hs : BufB h s l) (ha : s.base = some a) (hi : i < l.length) (w : WF h) :
    ∃ h', st1 h (add a i) (.int .u8 (v.toNat : Int)) = some h' ∧ WF h' ∧ BufB h' s (l.set i v) ∧ (∀ h0, EX h0 h → Fr h0.size s → EX h0 h') ∧ (∀ s' l', RdB h s' l' → (∀ a', s'.base = some a' → a'.block ≠ a.block) → RdB h' s' l') := by
  obtain ⟨h', a1, a0, a2, a3, a4⟩ := st1_buf (h0 := h) (v := .int .u8 (v.toNat : Int)) hs ha (by simpa [vB] using hi) rfl w
  refine ⟨h', a1, a0, ?_, a3, fun s' l' r n => a4 s' _ r n⟩
  unfold BufB
  have : vB (l.set i v) = (vB l).set i (.int .u8 (v.toNat : Int)) := by simp [vB, List.map_set]
  rw [this]; exact a2
theorem SealBack (key other num m : Int) (head body : Sl) (at' by' : Int) (h : H) (w : WF h) (hk : 0 ≤ key ∧ key < 18446744073709551616) (ho : 0 ≤ other ∧ other < 18446744073709551616) (hn : -9223372036854775808 ≤ num ∧ num ≤ 9223372036854775807) (hm : -9223372036854775808 ≤ m ∧ m ≤ 9223372036854775807)
    (hl : List UInt8) (h1 : RdB h head hl) (l1 : hl.length ≤ 140737488351232) (bl : List UInt8) (h2 : RdB h body bl) (l2 : bl.length ≤ 140737488351232) (hat : -9223372036854775808 ≤ at' ∧ at' ≤ 9223372036854775807) (hby : 0 ≤ by' ∧ by' < 256) : ∃ h', law4_SealBack key other num m head body at' by' h = some (true, h') := by
  unfold law4_SealBack P.law4_SealBack
  obtain ⟨x, g1, room, e1, x1, bx, fx⟩ := Close_f (num := num) w h1 h2 (by omega) (by omega) hk
  rw [e1, bind2_some]
  simp only
  have rx : RdB g1 x (closeV key num hl bl) := bx.rd
  have hcl := closeV_length key num hl bl
  obtain ⟨p2, g2, e2, x2, r2⟩ := Open_f (num := num) x1.wf (h1.ex x1) rx (by omega) (by omega) hk
  rw [e2, bind2_some]
  simp only
  rw [open_close, Option.getD_some] at r2
  obtain ⟨g3, e3, x3⟩ := known4_f x2.wf
  rw [e3, bind2_some, open_close]
  have x03 := (x1.trans x2).trans x3
  have hb3 := h2.ex x03
  have hh3 := h1.ex x03
  have rx3 := (rx.ex x2).ex x3
  simp only [condK_eq, Bool.not_true, Bool.false_eq_true, if_false, Option.isSome_some]
  rw [strT_ok (r2.ex x3), bind2_some, strT_ok hb3, bind2_some]
  simp only [beq_self_eq_true, Bool.not_true, Bool.false_eq_true, if_false, letO_eq]
  rw [rx.len, h2.len, hcl, w64 (by omega) (by omega)]
  have hc : ((((bl.length + 8 : Nat) : Int)) != ((bl.length : Int) + 8)) = false := by simp
  rw [hc]
  simp only [Bool.false_eq_true, if_false]
  obtain ⟨s4, g4, e4, x4, r4, _⟩ := Mask_f (num := num) x03.wf hb3 (by omega) hk
  rw [e4, bind2_some]
  simp only
  have hml := mk_length (stepV key num) bl 0
  obtain ⟨s5, g5, e5, x5, r5, _⟩ := Mask_f (num := num) x4.wf r4 (by omega) hk
  rw [e5, bind2_some]
  simp only
  rw [mk_mk] at r5
  have hb4 := hb3.ex x4
  have hb5 := hb4.ex x5
  rw [strT_ok r5, bind2_some, strT_ok hb5, bind2_some, strT_ok hb4, bind2_some]
  simp only [beq_self_eq_true, if_true]
  rw [bind2_some]
  simp only [beq_self_eq_true, if_true, Bool.not_true, joinO_inl, Bool.false_eq_true, if_false]
  have x35 := x4.trans x5
  have hh5 := hh3.ex x35
  have rx5 := rx3.ex x35
  obtain ⟨s6, g6, e6, x6, _⟩ := Open_f (num := num) x35.wf hh5 rx5 (by omega) (by omega) ho
  rw [e6, bind2_some]
  simp only
  obtain ⟨s7, g7, e7, x7, _⟩ := Open_f (num := m) x6.wf (hh5.ex x6) (rx5.ex x6) (by omega) (by omega) hk
  rw [e7, bind2_some]
  simp only
  have c1 : decide (stepV other num = stepV key num) = (other == key) := by
    rw [beq_dec]
    by_cases he : other = key
    · simp [he]
    · have : stepV other num ≠ stepV key num := fun e => he (stepV_inj_l ho hk e)
      simp [he, this]
  rw [open_close2, open_close2, c1, stepV_eqn hm hn]
  simp only [beq_self_eq_true, Bool.not_true, Bool.false_eq_true, if_false, joinO_inl]
  by_cases hz : by' = 0
  · simp only [hz, beq_self_eq_true, if_true]
    exact ⟨g7, rfl⟩
  have hz' : (by' == 0) = false := by simp [hz]
  rw [hz']
  simp only [Bool.false_eq_true, if_false]
  have x57 := x6.trans x7
  have hh7 := hh5.ex x57
  have rx7 := rx5.ex x57
  rw [rx.len, hcl]
  obtain ⟨y, g8, e8, x8, by8, fy⟩ := Few_f x57.wf rx7 (by omega) (n := ((bl.length + 8 : Nat) : Int)) (by omega)
  rw [e8, bind2_some]
  rw [Int.toNat_natCast, List.take_of_length_le (by omega)] at by8
  simp only
  rw [h1.len]
  have hh8 := hh7.ex x8
  obtain ⟨z, g9, e9, x9, bz, fz⟩ := Few_f x8.wf hh8 (by omega) (n := (hl.length : Int)) (by omega)
  rw [e9, bind2_some]
  rw [Int.toNat_natCast, List.take_of_length_le (by omega)] at bz
  simp only
  rw [w64 (by omega) (by omega), pick_f _ _ (by omega) (by omega), bind2_some]
  simp only
  have q1 := Int.emod_nonneg at' (b := ((bl.length + 8 : Nat) : Int) + (hl.length : Int)) (by omega)
  have q2 := Int.emod_lt_of_pos at' (b := ((bl.length + 8 : Nat) : Int) + (hl.length : Int)) (by omega)
  generalize at' % (((bl.length + 8 : Nat) : Int) + (hl.length : Int)) = k at q1 q2 ⊢
  rw [bz.rd.len]
  obtain ⟨v, rfl⟩ : ∃ v : UInt8, by' = (v.toNat : Int) := ⟨UInt8.ofNat by'.toNat, by rw [UInt8.toNat_ofNat']; omega⟩
  have hv : v ≠ 0 := by rintro rfl; exact hz rfl
  by_cases hkh : k < (hl.length : Int)
  · have hd : decide (k < (hl.length : Int)) = true := by simp [hkh]
    rw [hd]
    simp only [if_true]
    obtain ⟨a, ha, i1, i2⟩ := bz.rd.at q1 hkh
    rw [i1, bindO_some, i2, bindO_some, xor8, bindO_some]
    obtain ⟨g10, e10, w10, b10, y10⟩ := st1_bufB (v := hl.getD k.toNat 0 ^^^ v) bz ha (i := k.toNat) (by omega) x9.wf
    rw [e10, bindO_some]
    simp only [joinO_inl]
    have x10 : EX g8 g10 := y10 _ x9 fz
    obtain ⟨s11, g11, e11, x11, _⟩ := Open_f (num := num) w10 b10.rd (by8.rd.ex x10) (by rw [List.length_set]; omega) (by omega) hk
    rw [e11, bind2_some, open_sethead key num hl bl k.toNat _ (by omega) (xor_ne hv)]
    exact ⟨g11, rfl⟩
  · have hd : decide (k < (hl.length : Int)) = false := by simp; omega
    rw [hd]
    simp only [Bool.false_eq_true, if_false]
    rw [w64 (by omega) (by omega)]
    have by9 : BufB g9 y (closeV key num hl bl) := by8.ex x8.wf x9
    obtain ⟨a, ha, i1, i2⟩ := by9.rd.at (i := k - (hl.length : Int)) (by omega) (by omega)
    rw [i1, bindO_some, i2, bindO_some, xor8, bindO_some]
    obtain ⟨g10, e10, w10, b10, _, n10⟩ := st1_bufB2 (v := (closeV key num hl bl).getD (k - (hl.length : Int)).toNat 0 ^^^ v) by9 ha (i := (k - (hl.length : Int)).toNat) (by omega) x9.wf
    rw [e10, bindO_some]
    simp only [joinO_inl]
    have hlt : a.block < g8.size := (by8.rd.ld a ha 0 _ (List.getElem?_eq_getElem (by simp [vB]; omega))).1
    have rz : RdB g10 z hl := n10 z hl bz.rd fun a' ha' => by have := fz a' ha'; omega
    obtain ⟨s11, g11, e11, x11, _⟩ := Open_f (num := num) w10 rz b10.rd (by omega) (by rw [List.length_set]; omega) hk
    rw [e11, bind2_some, open_setseal key num hl bl _ _ (by omega) (xor_ne hv)]
    exact ⟨g11, rfl⟩
end Go.Proofs.Ytejdeibmhlcnbaa.T
