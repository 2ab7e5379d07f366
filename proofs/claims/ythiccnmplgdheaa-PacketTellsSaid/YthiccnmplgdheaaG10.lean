/- Lemmas about the typed texts (joined: SSeal3 SSeal4 SSeal5). -/
import Derived.Test.YthiccnmplgdheaaG9
set_option linter.unusedVariables false
set_option linter.unusedSimpArgs false
namespace Go.Abs
open Go
theorem DSI_e (e : TypeId) (j : TyI) : (DSI e j).ty.get e = some j := by
  unfold DSI; rw [Tr.get_set, if_neg (by omega), Tr.get_set, if_neg (by omega), Tr.get_set, if_pos rfl]
theorem DSI_s (e : TypeId) (j : TyI) : (DSI e j).ty.get (e + 1) = some ⟨1, 24, .slice none 0 0, .slice e, false⟩ := by
  unfold DSI; rw [Tr.get_set, if_neg (by omega), Tr.get_set, if_pos rfl]
theorem DSI_t (e : TypeId) (j : TyI) : (DSI e j).ty.get (e + 2) = some ⟨1, 8, .int .i64 0, .int .i64, false⟩ := by
  unfold DSI; rw [Tr.get_set, if_pos rfl]
theorem zeros8 (k : Nat) : zeros (.int .u8 0) k = vB (List.replicate k 0) := by
  unfold zeros vB
  have : (Value.int .u8 0).cells.toList = [Value.int .u8 0] := rfl
  rw [this, List.map_replicate]
  induction k with
  | zero => rfl
  | succ k ih => rw [List.replicate_succ, List.flatten_cons, ih, List.replicate_succ]; rfl
/-- so many zeros behind nothing -/
theorem appNT_nil {e : Nat} {h : H} {n : Nat} (hn : 0 < n) (hb : n <= 2 ^ 47) : appNT e 1 1 (.int .u8 0) h ⟨none, 0, 0⟩ (n : Int) = some (⟨some ⟨h.size, 0, some 0⟩, n, UNK 1⟩, newAt (grow h 1) h.size (row e (vB (List.replicate n 0)))) := by
  have key : appA (DSI e (tyS 1 1 (.int .u8 0))) h #[e + 1, e + 2] (encSl ⟨none, 0, 0⟩) (.int .i64 (n : Int)) = some (.new (row e (vB (List.replicate n 0))) fun A => .slice (some ⟨A, 0, some 0⟩) n (UNK 1)) := by
    unfold appA
    rw [show (#[e + 1, e + 2] : Array TypeId)[0]? = some (e + 1) from rfl, show (#[e + 1, e + 2] : Array TypeId)[1]? = some (e + 2) from rfl]
    have he : elemOf (DSI e (tyS 1 1 (.int .u8 0))) (e + 1) = some (e, tyS 1 1 (.int .u8 0)) := by
      unfold elemOf; rw [DSI_s]; simp [DSI_e]
    simp only [he, DSI_t]
    have c : (decide ((0 : Int) <= (n : Int)) && decide ((n : Int) < 2 ^ 62) && decide ((n : Int) * ((tyS 1 1 (.int .u8 0)).bytes : Nat) <= 2 ^ 47) && (tyS 1 1 (.int .u8 0)).zero.cells.toList.all oneC) = true := by
      have e1 : (n : Int) * ((tyS 1 1 (.int .u8 0)).bytes : Nat) <= 2 ^ 47 := by
        show (n : Int) * ((1 : Nat) : Int) <= 2 ^ 47
        omega
      rw [decide_eq_true (show (0 : Int) <= (n : Int) by omega), decide_eq_true (show (n : Int) < 2 ^ 62 by omega), decide_eq_true e1]; rfl
    simp only [c, cond_true, Int.toNat_natCast]
    unfold appR encSl
    have hbb : (((0 + n) * (tyS 1 1 (.int .u8 0)).bytes).ble (2 ^ 47) && (0 + n).ble (2 ^ 62)) = true := by
      simp only [Bool.and_eq_true, Nat.ble_eq, tyS]; omega
    simp only [nbeq_f (show ¬ n = 0 by omega), cond_false, hbb, Bool.not_true, show Nat.beq 0 0 = true from rfl, Bool.and_self, cond_true]
    rw [show (tyS 1 1 (.int .u8 0)).zero = .int .u8 0 from rfl, zeros8]
    rfl
  unfold appNT
  rw [key]; rfl
theorem capT_nil : capT ⟨none, 0, 0⟩ = some 0 := rfl
end Go.Abs
namespace Go.Proofs.Ythiccnmplgdheaa.T
open Go Go.Abs Go.Proofs
/-- room for so many bytes -/
theorem grow_f {h : H} {n : Nat} (w : WF h) (hb : n <= 2 ^ 47) : ∃ s h', slices_Grow_byte ⟨none, 0, 0⟩ (n : Int) h = some (s, h') /\ EX h h' /\ Fr h.size s /\ (n = 0 /\ s = ⟨none, 0, 0⟩ \/ 0 < n /\ BufW 1 h' s [] n) := by
  unfold slices_Grow_byte
  have h0 : ¬ (n : Int) < 0 := by omega
  simp only [condK_eq, decide_eq_true_eq, h0, if_false, joinO_inl, capT_nil, bindO_some, letO_eq]
  rw [show (((0 : Nat) : Int)) = 0 from rfl, show IntKind.wrap .i64 ((0 : Int) - 0) = 0 from rfl, w64 (n := (n : Int) - 0) (by omega) (by omega)]
  by_cases hn : n = 0
  · subst hn
    rw [if_neg (by omega)]
    exact ⟨_, h, rfl, EX.refl w, fr_nil _, .inl ⟨rfl, rfl⟩⟩
  · rw [if_pos (by omega)]
    have e1 : slT 1 h ⟨none, 0, 0⟩ none (some 0) none = some ⟨none, 0, 0⟩ := by
      obtain ⟨s', a1, a2, a3, a4, _⟩ := sl_hi (hi := 0) (by omega) (by unfold B63; omega) (rd_nil 1 h) (by omega) (by simp)
      rw [a1, a4]; rfl
    rw [e1, bindO_some, Int.sub_zero, appNT_nil (by omega) hb, bind2_some]
    simp only
    have x1 := wf_new w 5 (vB (List.replicate n 0))
    have b1 : Buf 1 (newAt (grow h 1) h.size (row 5 (vB (List.replicate n 0)))) ⟨some ⟨h.size, 0, some 0⟩, n, UNK 1⟩ (vB (List.replicate n 0)) :=
      buf_new w 5 1 n (UNK 1) _ (by simp [vB]) (by unfold CapOK; rw [capK_UNK _ (by unfold B63; omega)]) (by rw [capK_UNK _ (by unfold B63; omega)]; trivial)
    have hobj : (newAt (grow h 1) h.size (row 5 (vB (List.replicate n 0)))).objs.get h.size = some (row 5 (vB (List.replicate n 0))) := by
      rw [newAt_get, if_pos rfl]
    generalize newAt (grow h 1) h.size (row 5 (vB (List.replicate n 0))) = h1 at *
    obtain ⟨s', a1, a2, a3, a4, _⟩ := sl_hi (hi := 0) (by omega) (by unfold B63; omega) b1.rd (by omega) (by simp)
    have hs' : s' = ⟨some ⟨h.size, 0, some 0⟩, 0, UNK 1⟩ := by
      rw [a4]; unfold slV; simp only [capK_UNK 1 (by unfold B63; omega)]; rfl
    rw [a1, bindO_some, joinO_inl, hs']
    rw [hs'] at a2
    refine ⟨_, h1, rfl, x1, fr_new h 0 (UNK 1), .inr ⟨by omega, by simpa using a2, ⟨h.size, 0, some 0⟩, _, 0, rfl, hobj, rfl, rfl, by rw [x1.nro]; exact w.nro, ?_, capK_UNK 1 (by unfold B63; omega)⟩⟩
    simp [vB]
def cat : List (List UInt8) -> List UInt8
  | [] => []
  | l :: ls => l ++ cat ls
theorem cc_l1 {h : H} {parts : Sl} {xs : List Sl} {ls : List (List UInt8)} (hp : RdS h parts xs) (hx : RdBs h xs ls) (hn : xs.length <= 2 ^ 47) : ∀ (k i size : Nat), i + k = xs.length -> size + (cat (ls.drop i)).length <= 2 ^ 47 ->
    loopO slices_Concat_byte_l1 ((parts, ((size : Int), (parts, ((xs.length : Int), (i : Int))))), h) = some (Sum.inl ((parts, ((size + (cat (ls.drop i)).length : Nat) : Int)), h))
  | 0, i, size, hik, hs => by
    rw [loopO_eq, List.drop_eq_nil_of_le (by rw [RdBs.length hx]; omega)]
    simp only [P.slices_Concat_byte_l1, condK_eq, decide_eq_true_eq, show ¬ ((i : Int) < (xs.length : Int)) by omega, if_false]
    rfl
  | k + 1, i, size, hik, hs => by
    obtain ⟨x, l, g1, g2, g3, g4⟩ := RdBs.get i hx (by omega)
    obtain ⟨a, e1, e2⟩ := hp.at g1
    rw [g2, cat, List.length_append] at hs
    rw [loopO_eq]
    simp only [P.slices_Concat_byte_l1, condK_eq, decide_eq_true_eq, show ((i : Int) < (xs.length : Int)) by omega, if_true]
    rw [e1, bindO_some, e2, bindO_some, g3.len, w64 (n := (size : Int) + ((l.length : Nat) : Int)) (by omega) (by omega), if_neg (by omega), joinO_inl]
    simp only
    rw [w64 (by omega) (by omega), g2]
    have := cc_l1 hp hx hn k (i + 1) (size + l.length) (by omega) (by omega)
    simp only [cat, List.length_append, Nat.add_assoc, Int.natCast_add, Int.natCast_one] at this ⊢
    exact this
theorem cc_l2 {h0 : H} {parts : Sl} {xs : List Sl} {ls : List (List UInt8)} (hp : RdS h0 parts xs) (hx : RdBs h0 xs ls) (hn : xs.length <= 2 ^ 47) : ∀ (k i : Nat) (s : Sl) (acc : List UInt8) (h : H) (room : Nat), i + k = xs.length -> acc.length + (cat (ls.drop i)).length <= 2 ^ 47 -> (cat (ls.drop i)).length <= room -> BufW 1 h s (vB acc) room -> EX h0 h -> Fr h0.size s ->
    ∃ s' h' room', loopO slices_Concat_byte_l2 ((s, (parts, ((xs.length : Int), (i : Int)))), h) = some (Sum.inl (s', h')) /\ BufW 1 h' s' (vB (acc ++ cat (ls.drop i))) room' /\ EX h0 h' /\ Fr h0.size s'
  | 0, i, s, acc, h, room, hik, hs, hr, hb, hx0, hf => by
    rw [List.drop_eq_nil_of_le (by rw [RdBs.length hx]; omega)]
    refine ⟨s, h, room, ?_, by simpa [cat] using hb, hx0, hf⟩
    rw [loopO_eq]
    simp only [P.slices_Concat_byte_l2, condK_eq, decide_eq_true_eq, show ¬ ((i : Int) < (xs.length : Int)) by omega, if_false]
  | k + 1, i, s, acc, h, room, hik, hs, hr, hb, hx0, hf => by
    obtain ⟨x, l, g1, g2, g3, g4⟩ := RdBs.get i hx (by omega)
    obtain ⟨a, e1, e2⟩ := (hp.ex hx0).at g1
    rw [g2, cat, List.length_append] at hs hr
    rw [loopO_eq]
    simp only [P.slices_Concat_byte_l2, condK_eq, decide_eq_true_eq, show ((i : Int) < (xs.length : Int)) by omega, if_true]
    rw [e1, bindO_some, e2, bindO_some]
    have gx := g3.ex hx0
    have hsl : s.len = acc.length := by have := hb.rd.len; simp [vB] at this; omega
    obtain ⟨s1, h1, e3, b3, hbase, x3⟩ := appW_ok (e := 5) (bytes := 1) hx0.wf hb gx (oneC_vB l) (by rw [gx.len]; omega) (by rw [hsl, gx.len]; omega) (by rw [hsl, gx.len]; omega)
    rw [e3, bind2_some]
    simp only
    rw [w64 (by omega) (by omega), g2]
    rw [<- vB_append] at b3
    obtain ⟨s', h', room', e4, b4, x4, f4⟩ := cc_l2 hp hx hn k (i + 1) s1 (acc ++ l) h1 (room - x.len) (by omega) (by rw [List.length_append]; omega) (by rw [gx.len]; omega) b3 (x3 _ hx0 hf) (fun a ha => hf a (by rw [<- hbase]; exact ha))
    refine ⟨s', h', room', e4, ?_, x4, f4⟩
    simpa [cat] using b4
theorem Concat_f {h : H} {parts : Sl} {xs : List Sl} {ls : List (List UInt8)} (w : WF h) (hp : RdS h parts xs) (hx : RdBs h xs ls) (hn : xs.length <= 2 ^ 47) (hc : 0 < (cat ls).length) (hl : (cat ls).length <= 2 ^ 47) :
    ∃ s h' room, slices_Concat_byte parts h = some (s, h') /\ EX h h' /\ BufW 1 h' s (vB (cat ls)) room /\ Fr h.size s := by
  unfold slices_Concat_byte P.slices_Concat_byte
  have e1 := cc_l1 hp hx hn xs.length 0 0 (by omega) (by simpa using hl)
  simp only [slices_Concat_byte_l1, Int.natCast_zero, List.drop_zero, Nat.zero_add] at e1
  rw [hp.len, e1, joinO_inl]
  simp only
  obtain ⟨s1, h1, e2, x2, f2, hcase⟩ := grow_f w hl
  rw [e2, bind2_some]
  rcases hcase with ⟨h0, _⟩ | ⟨h0, b2⟩
  · omega
  simp only
  obtain ⟨s', h', room', e3, b3, x3, f3⟩ := cc_l2 hp hx hn xs.length 0 s1 [] h1 (cat ls).length (by omega) (by simpa using hl) (by simp) (by simpa [vB] using b2) x2 f2
  simp only [slices_Concat_byte_l2, Int.natCast_zero, List.drop_zero, List.nil_append] at e3 b3
  rw [hp.len, e3, joinO_inl]
  exact ⟨s', h', room', rfl, x3, b3, f3⟩
theorem byte_at64 {x : Int} (h0 : 0 <= x) (m : Nat) (hm : m < 8) : ∃ y, shrT .u64 x .i64 (8 * (m : Int)) = some y /\ IntKind.wrap .u8 y = ((UInt8.ofNat (x.toNat / 256 ^ m)).toNat : Int) := by
  refine ⟨_, shrT_ok _ _ _ (by omega), ?_⟩
  have e1 : min (8 * (m : Int)).toNat IntKind.u64.bits = 8 * m := by
    have : IntKind.u64.bits = 64 := rfl
    omega
  rw [e1, wu8_mod]
  have e2 : (2 : Int) ^ (8 * m) = ((256 ^ m : Nat) : Int) := by
    rw [show (256 : Nat) = 2 ^ 8 from rfl, <- Nat.pow_mul, Int.natCast_pow]; rfl
  rw [e2, fdiv_pos _ (Int.natCast_nonneg _), UInt8.toNat_ofNat']
  obtain ⟨n, rfl⟩ : ∃ n : Nat, x = n := ⟨x.toNat, (Int.toNat_of_nonneg h0).symm⟩
  rw [Int.toNat_natCast, <- Int.natCast_ediv]
  exact (Int.natCast_emod _ 256).symm
theorem tagb_loop {h0 : H} {x : Int} (hx : 0 <= x) : ∀ (m : Nat) (out : Sl) (l : List UInt8) (h : H), m <= 8 -> BufB h out l -> EX h0 h -> Fr h0.size out -> l.length + m <= 2 ^ 47 ->
    ∃ out' h', loopO seal_tag_l1 ((x, (out, 8 * (m : Int) - 8)), h) = some (Sum.inl (out', h')) /\ BufB h' out' (l ++ be m x.toNat) /\ EX h0 h' /\ Fr h0.size out'
  | 0, out, l, h, hm, hb, hx0, hf, hl => by
    refine ⟨out, h, ?_, by simpa [be] using hb, hx0, hf⟩
    rw [loopO_eq]
    simp only [P.seal_tag_l1, condK_eq, decide_eq_true_eq, show ¬ (8 * ((0 : Nat) : Int) - 8 >= 0) by omega, if_false]
  | m + 1, out, l, h, hm, hb, hx0, hf, hl => by
    obtain ⟨y, e1, e2⟩ := byte_at64 hx m (by omega)
    rw [loopO_eq]
    simp only [P.seal_tag_l1, condK_eq, decide_eq_true_eq, show (8 * ((m + 1 : Nat) : Int) - 8 >= 0) by omega, if_true]
    rw [show (8 * ((m + 1 : Nat) : Int) - 8) = 8 * (m : Int) by omega, e1, bindO_some, e2]
    rw [newO_eq, show row 5 [Value.int .u8 ((UInt8.ofNat (x.toNat / 256 ^ m)).toNat : Int)] = row 5 (vB [UInt8.ofNat (x.toNat / 256 ^ m)]) from rfl]
    generalize hbv : UInt8.ofNat (x.toNat / 256 ^ m) = bv
    have x1 := wf_new hx0.wf 5 (vB [bv])
    have b1 : BufB _ ⟨some ⟨h.size, 0, some 0⟩, 1, 1⟩ [bv] := bufB_new hx0.wf 5 [bv] (by simp [B63])
    generalize newAt (grow h 1) h.size (row 5 (vB [bv])) = h1 at x1 b1 ⊢
    generalize (⟨some ⟨h.size, 0, some 0⟩, 1, 1⟩ : Sl) = s1 at b1 ⊢
    obtain ⟨out1, h2, e3, k3, x3, b3, _, f3⟩ := appB_ok (e := 5) x1.wf (hb.ex hx0.wf x1) b1.rd (by simp; omega)
    rw [e3, bind2_some]
    simp only
    rw [w64 (by omega) (by omega)]
    obtain ⟨out', h', e4, b4, x4, f4⟩ := tagb_loop hx m out1 (l ++ [bv]) h2 (by omega) b3 (x3 _ (hx0.trans x1) hf) (f3 _ (hx0.trans x1).size hf) (by simp; omega)
    refine ⟨out', h', e4, ?_, x4, f4⟩
    rw [List.append_assoc] at b4
    simpa [be, hbv] using b4
def tagL (key num : Int) (head masked : List UInt8) : List UInt8 := be 8 (tagV (stepV key num) [head, masked]).toNat
theorem tagL_length (key num : Int) (head masked : List UInt8) : (tagL key num head masked).length = 8 := be_length _ _
/-- a new row of slices -/
theorem newS {h : H} (w : WF h) (xs : List Sl) (hx : xs.length < B63) : EX h (newAt (grow h 1) h.size (row 30 (xs.map encSl))) /\ RdS (newAt (grow h 1) h.size (row 30 (xs.map encSl))) ⟨some ⟨h.size, 0, some 0⟩, xs.length, xs.length⟩ xs :=
  ⟨wf_new w 30 _, rd_new 30 1 _ _ _ (by simp) (by unfold CapOK; rw [capK_exact hx]; exact Nat.le_refl _)⟩
theorem tag_f {h : H} {head masked : Sl} {hl ml : List UInt8} {key num : Int} (w : WF h) (h1 : RdB h head hl) (h2 : RdB h masked ml) (l1 : hl.length <= 2 ^ 47) (l2 : ml.length <= 2 ^ 47) (hk : U64 key) :
    ∃ s h', seal_tag key num head masked h = some (s, h') /\ EX h h' /\ RdB h' s (tagL key num hl ml) /\ Fr h.size s := by
  unfold seal_tag P.seal_tag
  rw [Step_f _ _ hk.1 hk.2, bind2_some, stepV_wrap]
  simp only
  rw [newO_eq, show row 30 [Value.slice head.base head.len head.cap, .slice masked.base masked.len masked.cap] = row 30 ([head, masked].map encSl) from rfl]
  obtain ⟨x1, r1⟩ := newS w [head, masked] (by simp [B63])
  generalize newAt (grow h 1) h.size (row 30 ([head, masked].map encSl)) = g at x1 r1 ⊢
  simp only [List.length_cons, List.length_nil] at r1
  have hs := stepV_rng key num
  rw [Tag_f (xs := [head, masked]) (ls := [hl, ml]) r1 ⟨⟨h1.ex x1, l1⟩, ⟨h2.ex x1, l2⟩, trivial⟩ (by simp) hs, bind2_some]
  have ht := tagV_rng [hl, ml] _ hs
  obtain ⟨out, h', e2, b2, x2, f2⟩ := tagb_loop (h0 := h) ht.1 8 ⟨none, 0, 0⟩ [] g (by omega) (buf_nil 1 g) x1 (fr_nil _) (by simp)
  simp only [seal_tag_l1] at e2
  rw [show (8 * ((8 : Nat) : Int) - 8) = 56 by omega] at e2
  simp only
  rw [e2, joinO_inl]
  exact ⟨out, h', rfl, x2, by simpa [tagL] using b2.rd, f2⟩
theorem eq_loop {h : H} {a b : Sl} {la lb : List UInt8} (ha : RdB h a la) (hb : RdB h b lb) (hl : la.length = lb.length) (hn : la.length <= 2 ^ 47) : ∀ (k i : Nat), i + k = la.length ->
    loopO slices_Equal_byte_l1 ((a, (b, ((la.length : Int), (i : Int)))), h) = some (decide (la.drop i = lb.drop i), h)
  | 0, i, hik => by
    rw [loopO_eq, List.drop_eq_nil_of_le (by omega), List.drop_eq_nil_of_le (by omega)]
    simp only [slices_Equal_byte_l1, condK_eq, decide_eq_true_eq, show ¬ ((i : Int) < (la.length : Int)) by omega, if_false]
    simp
  | k + 1, i, hik => by
    obtain ⟨p, _, e1, e2⟩ := ha.at (i := (i : Int)) (by omega) (by omega)
    obtain ⟨q, _, e3, e4⟩ := hb.at (i := (i : Int)) (by omega) (by omega)
    simp only [Int.toNat_natCast] at e1 e2 e3 e4
    have d1 : la.drop i = la.getD i 0 :: la.drop (i + 1) := by
      rw [List.drop_eq_getElem_cons (by omega)]
      simp [List.getD, show i < la.length by omega]
    have d2 : lb.drop i = lb.getD i 0 :: lb.drop (i + 1) := by
      rw [List.drop_eq_getElem_cons (by omega)]
      simp [List.getD, show i < lb.length by omega]
    rw [loopO_eq]
    simp only [slices_Equal_byte_l1, condK_eq, decide_eq_true_eq, show ((i : Int) < (la.length : Int)) by omega, if_true]
    rw [e1, bindO_some, e2, bindO_some, e3, bindO_some, e4, bindO_some, d1, d2]
    by_cases hc : la.getD i 0 = lb.getD i 0
    · rw [hc]
      simp only [bne_self_eq_false, Bool.false_eq_true, if_false]
      rw [w64 (by omega) (by omega)]
      have := eq_loop ha hb hl hn k (i + 1) (by omega)
      simp only [List.cons.injEq, true_and]
      exact this
    · have hne : (((la.getD i 0).toNat : Int) != ((lb.getD i 0).toNat : Int)) = true := by
        simp only [bne_iff_ne, ne_eq]
        intro e
        exact hc (UInt8.toNat_inj.1 (by omega))
      rw [hne]
      simp only [if_true, List.cons.injEq, hc, false_and, decide_false]
theorem Equal_f {h : H} {a b : Sl} {la lb : List UInt8} (ha : RdB h a la) (hb : RdB h b lb) (hn : la.length <= 2 ^ 47) : slices_Equal_byte a b h = some (decide (la = lb), h) := by
  unfold slices_Equal_byte
  rw [ha.len, hb.len]
  by_cases hl : la.length = lb.length
  · have : (((la.length : Nat) : Int) != ((lb.length : Nat) : Int)) = false := by simp; omega
    rw [this, condK_eq, if_neg (by simp)]
    have e := eq_loop ha hb hl hn la.length 0 (by omega)
    simpa using e
  · have : (((la.length : Nat) : Int) != ((lb.length : Nat) : Int)) = true := by simp; omega
    rw [this, condK_eq, if_pos rfl, decide_eq_false]
    intro e; exact hl (by rw [e])
def closeV (key num : Int) (head body : List UInt8) : List UInt8 := mk (stepV key num) 0 body ++ tagL key num head (mk (stepV key num) 0 body)
theorem closeV_length (key num : Int) (head body : List UInt8) : (closeV key num head body).length = body.length + 8 := by
  unfold closeV; rw [List.length_append, mk_length, tagL_length]
theorem Close_f {h : H} {head body : Sl} {hl bl : List UInt8} {key num : Int} (w : WF h) (h1 : RdB h head hl) (h2 : RdB h body bl) (l1 : hl.length <= 2 ^ 47) (l2 : bl.length + 8 <= 2 ^ 47) (hk : U64 key) :
    ∃ s h' room, seal_Close key num head body h = some (s, h') /\ EX h h' /\ BufW 1 h' s (vB (closeV key num hl bl)) room /\ Fr h.size s := by
  unfold seal_Close P.seal_Close
  obtain ⟨m, g1, e1, x1, r1, f1⟩ := Mask_f (num := num) w h2 (by omega) hk
  rw [e1, bind2_some]
  simp only
  have hml := mk_length (stepV key num) bl 0
  obtain ⟨t, g2, e2, x2, r2, f2⟩ := tag_f (num := num) x1.wf (h1.ex x1) r1 l1 (by omega) hk
  rw [e2, bind2_some]
  simp only
  rw [newO_eq, show row 30 [Value.slice m.base m.len m.cap, .slice t.base t.len t.cap] = row 30 ([m, t].map encSl) from rfl]
  obtain ⟨x3, r3⟩ := newS x2.wf [m, t] (by simp [B63])
  generalize newAt (grow g2 1) g2.size (row 30 ([m, t].map encSl)) = g3 at x3 r3 ⊢
  simp only [List.length_cons, List.length_nil] at r3
  have htl := tagL_length key num hl (mk (stepV key num) 0 bl)
  obtain ⟨s, h', room, e4, x4, b4, f4⟩ := Concat_f (xs := [m, t]) (ls := [mk (stepV key num) 0 bl, tagL key num hl (mk (stepV key num) 0 bl)]) x3.wf r3 ⟨⟨(r1.ex x2).ex x3, by omega⟩, ⟨r2.ex x3, by omega⟩, trivial⟩ (by simp) (by simp [cat]; omega) (by simp [cat]; omega)
  rw [e4, bind2_some]
  have hx := (x1.trans x2).trans x3
  exact ⟨s, h', room, rfl, hx.trans x4, by simpa [cat, closeV] using b4, f4.mono hx.size⟩
def openV (key num : Int) (head l : List UInt8) : Option (List UInt8) :=
  if l.length < 8 then none else if tagL key num head (l.take (l.length - 8)) = l.drop (l.length - 8) then some (mk (stepV key num) 0 (l.take (l.length - 8))) else none
theorem Open_f {h : H} {head sealed : Sl} {hl l : List UInt8} {key num : Int} (w : WF h) (h1 : RdB h head hl) (h2 : RdB h sealed l) (l1 : hl.length <= 2 ^ 47) (l2 : l.length <= 2 ^ 47) (hk : U64 key) :
    ∃ s h', seal_Open key num head sealed h = some ((s, (openV key num hl l).isSome), h') /\ EX h h' /\ RdB h' s ((openV key num hl l).getD []) := by
  unfold seal_Open P.seal_Open openV
  rw [h2.len]
  by_cases hc : l.length < 8
  · rw [condK_eq, if_pos (by simp; omega), if_pos hc]
    exact ⟨_, h, rfl, EX.refl w, rd_nil 1 h⟩
  · rw [condK_eq, if_neg (by simp; omega), if_neg hc, w64 (by omega) (by omega)]
    have e8 : ((l.length : Nat) : Int) - 8 = ((l.length - 8 : Nat) : Int) := by omega
    rw [e8]
    obtain ⟨p, e1, r1, _, _, _⟩ := sl_hi (hi := ((l.length - 8 : Nat) : Int)) (by omega) (by unfold B63; omega) h2 (by omega) (by rw [h2.len]; omega)
    obtain ⟨q, e2, r2, _, _, _⟩ := sl_lo (lo := ((l.length - 8 : Nat) : Int)) (by omega) (by unfold B63; omega) h2 (by omega) (by rw [h2.len]; omega)
    rw [e1, bindO_some, e2, bindO_some]
    have rp : RdB h p (l.take (l.length - 8)) := by unfold RdB vB; rw [List.map_take]; simpa [vB] using r1
    have rq : RdB h q (l.drop (l.length - 8)) := by unfold RdB vB; rw [List.map_drop]; simpa [vB] using r2
    have htl : (l.take (l.length - 8)).length <= 2 ^ 47 := by simp; omega
    obtain ⟨t, g1, e3, x3, r3, _⟩ := tag_f (num := num) w h1 rp l1 htl hk
    rw [e3, bind2_some]
    simp only
    rw [Equal_f r3 (rq.ex x3) (by rw [tagL_length]; omega), bind2_some]
    by_cases he : tagL key num hl (l.take (l.length - 8)) = l.drop (l.length - 8)
    · rw [if_pos he, decide_eq_true he, condK_eq, if_neg (by simp)]
      obtain ⟨m, g2, e4, x4, r4, _⟩ := Mask_f (num := num) x3.wf (rp.ex x3) htl hk
      rw [e4, bind2_some]
      exact ⟨m, g2, rfl, x3.trans x4, r4⟩
    · rw [if_neg he, decide_eq_false he, condK_eq, if_pos (by simp)]
      exact ⟨_, g1, rfl, x3, rd_nil 1 g1⟩
end Go.Proofs.Ythiccnmplgdheaa.T
namespace Go.Abs
open Go
end Go.Abs
namespace Go.Proofs.Ythiccnmplgdheaa.T
open Go Go.Abs Go.Proofs
end Go.Proofs.Ythiccnmplgdheaa.T
