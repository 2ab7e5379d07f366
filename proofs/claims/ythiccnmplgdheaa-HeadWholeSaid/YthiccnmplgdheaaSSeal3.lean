/- Chapter 4's functions over the typed texts: a tag's bytes; Grow, Concat, Equal; closing and opening. -/
import Derived.Test.YthiccnmplgdheaaSSeal2
set_option linter.unusedVariables false
set_option linter.unusedSimpArgs false
namespace Go.Abs
open Go
theorem DSI_e (e : TypeId) (j : TyI) : (DSI e j).ty.get e = some j := by
  unfold DSI; rw [Tr.get_set, if_neg (by omega), Tr.get_set, if_neg (by omega), Tr.get_set, if_pos rfl]
theorem DSI_s (e : TypeId) (j : TyI) : (DSI e j).ty.get (e + 1) = some ⟨1, 24, .slice none 0 0, .slice e, false⟩ := by
  unfold DSI; rw [Tr.get_set, if_neg (by omega), Tr.get_set, if_pos rfl]
theorem DSI_t (e : TypeId) (j : TyI) : (DSI e j).ty.get (e + 2) = some ⟨1, 8, .int .i64 0, .int .i64, false⟩ := by
  unfold DSI; rw [Tr.get_set, if_pos rfl]
theorem zeros8 (k : Nat) : zeros (.int .u8 0) k = vB (List.replicate k 0) := by
  unfold zeros vB
  have : (Value.int .u8 0).cells.toList = [Value.int .u8 0] := rfl
  rw [this, List.map_replicate]
  induction k with
  | zero => rfl
  | succ k ih => rw [List.replicate_succ, List.flatten_cons, ih, List.replicate_succ]; rfl
/-- so many zeros behind nothing -/
theorem appNT_nil {e : Nat} {h : H} {n : Nat} (hn : 0 < n) (hb : n ≤ 2 ^ 47) : appNT e 1 1 (.int .u8 0) h ⟨none, 0, 0⟩ (n : Int) = some (⟨some ⟨h.size, 0, some 0⟩, n, UNK 1⟩, newAt (grow h 1) h.size (row e (vB (List.replicate n 0)))) := by
  have key : appA (DSI e (tyS 1 1 (.int .u8 0))) h #[e + 1, e + 2] (encSl ⟨none, 0, 0⟩) (.int .i64 (n : Int)) = some (.new (row e (vB (List.replicate n 0))) fun A => .slice (some ⟨A, 0, some 0⟩) n (UNK 1)) := by
    unfold appA
    rw [show (#[e + 1, e + 2] : Array TypeId)[0]? = some (e + 1) from rfl, show (#[e + 1, e + 2] : Array TypeId)[1]? = some (e + 2) from rfl]
    have he : elemOf (DSI e (tyS 1 1 (.int .u8 0))) (e + 1) = some (e, tyS 1 1 (.int .u8 0)) := by
      unfold elemOf; rw [DSI_s]; simp [DSI_e]
    simp only [he, DSI_t]
    have c : (decide ((0 : Int) ≤ (n : Int)) && decide ((n : Int) < 2 ^ 62) && decide ((n : Int) * ((tyS 1 1 (.int .u8 0)).bytes : Nat) ≤ 2 ^ 47) && (tyS 1 1 (.int .u8 0)).zero.cells.toList.all oneC) = true := by
      have e1 : (n : Int) * ((tyS 1 1 (.int .u8 0)).bytes : Nat) ≤ 2 ^ 47 := by
        show (n : Int) * ((1 : Nat) : Int) ≤ 2 ^ 47
        omega
      rw [decide_eq_true (show (0 : Int) ≤ (n : Int) by omega), decide_eq_true (show (n : Int) < 2 ^ 62 by omega), decide_eq_true e1]; rfl
    simp only [c, cond_true, Int.toNat_natCast]
    unfold appR encSl
    have hbb : (((0 + n) * (tyS 1 1 (.int .u8 0)).bytes).ble (2 ^ 47) && (0 + n).ble (2 ^ 62)) = true := by
      simp only [Bool.and_eq_true, Nat.ble_eq, tyS]; omega
    simp only [nbeq_f (show ¬ n = 0 by omega), cond_false, hbb, Bool.not_true, show Nat.beq 0 0 = true from rfl, Bool.and_self, cond_true]
    rw [show (tyS 1 1 (.int .u8 0)).zero = .int .u8 0 from rfl, zeros8]
    rfl
  unfold appNT
  rw [key]; rfl
theorem capT_nil : capT ⟨none, 0, 0⟩ = some 0 := rfl
end Go.Abs
namespace Go.Proofs.Ythiccnmplgdheaa.T
open Go Go.Abs Go.Proofs
/-- room for so many bytes -/
theorem grow_f {h : H} {n : Nat} (w : WF h) (hb : n ≤ 2 ^ 47) : ∃ s h', slices_Grow_byte ⟨none, 0, 0⟩ (n : Int) h = some (s, h') ∧ EX h h' ∧ Fr h.size s ∧ (n = 0 ∧ s = ⟨none, 0, 0⟩ ∨ 0 < n ∧ BufW 1 h' s [] n) := by
  unfold slices_Grow_byte
  have h0 : ¬ (n : Int) < 0 := by omega
  simp only [condK_eq, decide_eq_true_eq, h0, if_false, joinO_inl, capT_nil, bindO_some, letO_eq]
  rw [show (((0 : Nat) : Int)) = 0 from rfl, show IntKind.wrap .i64 ((0 : Int) - 0) = 0 from rfl, w64 (n := (n : Int) - 0) (by omega) (by omega)]
  by_cases hn : n = 0
  · subst hn
    rw [if_neg (by omega)]
    exact ⟨_, h, rfl, EX.refl w, fr_nil _, .inl ⟨rfl, rfl⟩⟩
  · rw [if_pos (by omega)]
    have e1 : slT 1 h ⟨none, 0, 0⟩ none (some 0) none = some ⟨none, 0, 0⟩ := by
      obtain ⟨s', a1, a2, a3, a4, _⟩ := sl_hi (hi := 0) (by omega) (by unfold B63; omega) (rd_nil 1 h) (by omega) (by simp)
      rw [a1, a4]; rfl
    rw [e1, bindO_some, Int.sub_zero, appNT_nil (by omega) hb, bind2_some]
    simp only
    have x1 := wf_new w 5 (vB (List.replicate n 0))
    have b1 : Buf 1 (newAt (grow h 1) h.size (row 5 (vB (List.replicate n 0)))) ⟨some ⟨h.size, 0, some 0⟩, n, UNK 1⟩ (vB (List.replicate n 0)) :=
      buf_new w 5 1 n (UNK 1) _ (by simp [vB]) (by unfold CapOK; rw [capK_UNK _ (by unfold B63; omega)]) (by rw [capK_UNK _ (by unfold B63; omega)]; trivial)
    have hobj : (newAt (grow h 1) h.size (row 5 (vB (List.replicate n 0)))).objs.get h.size = some (row 5 (vB (List.replicate n 0))) := by
      rw [newAt_get, if_pos rfl]
    generalize newAt (grow h 1) h.size (row 5 (vB (List.replicate n 0))) = h1 at *
    obtain ⟨s', a1, a2, a3, a4, _⟩ := sl_hi (hi := 0) (by omega) (by unfold B63; omega) b1.rd (by omega) (by simp)
    have hs' : s' = ⟨some ⟨h.size, 0, some 0⟩, 0, UNK 1⟩ := by
      rw [a4]; unfold slV; simp only [capK_UNK 1 (by unfold B63; omega)]; rfl
    rw [a1, bindO_some, joinO_inl, hs']
    rw [hs'] at a2
    refine ⟨_, h1, rfl, x1, fr_new h 0 (UNK 1), .inr ⟨by omega, by simpa using a2, ⟨h.size, 0, some 0⟩, _, 0, rfl, hobj, rfl, rfl, by rw [x1.nro]; exact w.nro, ?_, capK_UNK 1 (by unfold B63; omega)⟩⟩
    simp [vB]
def cat : List (List UInt8) → List UInt8
  | [] => []
  | l :: ls => l ++ cat ls
theorem cc_l1 {h : H} {parts : Sl} {xs : List Sl} {ls : List (List UInt8)} (hp : RdS h parts xs) (hx : RdBs h xs ls) (hn : xs.length ≤ 2 ^ 47) : ∀ (k i size : Nat), i + k = xs.length → size + (cat (ls.drop i)).length ≤ 2 ^ 47 →
    loopO slices_Concat_byte_l1 ((parts, ((size : Int), (parts, ((xs.length : Int), (i : Int))))), h) = some (Sum.inl ((parts, ((size + (cat (ls.drop i)).length : Nat) : Int)), h))
  | 0, i, size, hik, hs => by
    rw [loopO_eq, List.drop_eq_nil_of_le (by rw [RdBs.length hx]; omega)]
    simp only [P.slices_Concat_byte_l1, condK_eq, decide_eq_true_eq, show ¬ ((i : Int) < (xs.length : Int)) by omega, if_false]
    rfl
  | k + 1, i, size, hik, hs => by
    obtain ⟨x, l, g1, g2, g3, g4⟩ := RdBs.get i hx (by omega)
    obtain ⟨a, e1, e2⟩ := hp.at g1
    rw [g2, cat, List.length_append] at hs
    rw [loopO_eq]
    simp only [P.slices_Concat_byte_l1, condK_eq, decide_eq_true_eq, show ((i : Int) < (xs.length : Int)) by omega, if_true]
    rw [e1, bindO_some, e2, bindO_some, g3.len, w64 (n := (size : Int) + ((l.length : Nat) : Int)) (by omega) (by omega), if_neg (by omega), joinO_inl]
    simp only
    rw [w64 (by omega) (by omega), g2]
    have := cc_l1 hp hx hn k (i + 1) (size + l.length) (by omega) (by omega)
    simp only [cat, List.length_append, Nat.add_assoc, Int.natCast_add, Int.natCast_one] at this ⊢
    exact this
theorem cc_l2 {h0 : H} {parts : Sl} {xs : List Sl} {ls : List (List UInt8)} (hp : RdS h0 parts xs) (hx : RdBs h0 xs ls) (hn : xs.length ≤ 2 ^ 47) : ∀ (k i : Nat) (s : Sl) (acc : List UInt8) (h : H) (room : Nat), i + k = xs.length → acc.length + (cat (ls.drop i)).length ≤ 2 ^ 47 → (cat (ls.drop i)).length ≤ room → BufW 1 h s (vB acc) room → EX h0 h → Fr h0.size s →
    ∃ s' h' room', loopO slices_Concat_byte_l2 ((s, (parts, ((xs.length : Int), (i : Int)))), h) = some (Sum.inl (s', h')) ∧ BufW 1 h' s' (vB (acc ++ cat (ls.drop i))) room' ∧ EX h0 h' ∧ Fr h0.size s'
  | 0, i, s, acc, h, room, hik, hs, hr, hb, hx0, hf => by
    rw [List.drop_eq_nil_of_le (by rw [RdBs.length hx]; omega)]
    refine ⟨s, h, room, ?_, by simpa [cat] using hb, hx0, hf⟩
    rw [loopO_eq]
    simp only [P.slices_Concat_byte_l2, condK_eq, decide_eq_true_eq, show ¬ ((i : Int) < (xs.length : Int)) by omega, if_false]
  | k + 1, i, s, acc, h, room, hik, hs, hr, hb, hx0, hf => by
    obtain ⟨x, l, g1, g2, g3, g4⟩ := RdBs.get i hx (by omega)
    obtain ⟨a, e1, e2⟩ := (hp.ex hx0).at g1
    rw [g2, cat, List.length_append] at hs hr
    rw [loopO_eq]
    simp only [P.slices_Concat_byte_l2, condK_eq, decide_eq_true_eq, show ((i : Int) < (xs.length : Int)) by omega, if_true]
    rw [e1, bindO_some, e2, bindO_some]
    have gx := g3.ex hx0
    have hsl : s.len = acc.length := by have := hb.rd.len; simp [vB] at this; omega
    obtain ⟨s1, h1, e3, b3, hbase, x3⟩ := appW_ok (e := 5) (bytes := 1) hx0.wf hb gx (oneC_vB l) (by rw [gx.len]; omega) (by rw [hsl, gx.len]; omega) (by rw [hsl, gx.len]; omega)
    rw [e3, bind2_some]
    simp only
    rw [w64 (by omega) (by omega), g2]
    rw [← vB_append] at b3
    obtain ⟨s', h', room', e4, b4, x4, f4⟩ := cc_l2 hp hx hn k (i + 1) s1 (acc ++ l) h1 (room - x.len) (by omega) (by rw [List.length_append]; omega) (by rw [gx.len]; omega) b3 (x3 _ hx0 hf) (fun a ha => hf a (by rw [← hbase]; exact ha))
    refine ⟨s', h', room', e4, ?_, x4, f4⟩
    simpa [cat] using b4
theorem Concat_f {h : H} {parts : Sl} {xs : List Sl} {ls : List (List UInt8)} (w : WF h) (hp : RdS h parts xs) (hx : RdBs h xs ls) (hn : xs.length ≤ 2 ^ 47) (hc : 0 < (cat ls).length) (hl : (cat ls).length ≤ 2 ^ 47) :
    ∃ s h' room, slices_Concat_byte parts h = some (s, h') ∧ EX h h' ∧ BufW 1 h' s (vB (cat ls)) room ∧ Fr h.size s := by
  unfold slices_Concat_byte P.slices_Concat_byte
  have e1 := cc_l1 hp hx hn xs.length 0 0 (by omega) (by simpa using hl)
  simp only [slices_Concat_byte_l1, Int.natCast_zero, List.drop_zero, Nat.zero_add] at e1
  rw [hp.len, e1, joinO_inl]
  simp only
  obtain ⟨s1, h1, e2, x2, f2, hcase⟩ := grow_f w hl
  rw [e2, bind2_some]
  rcases hcase with ⟨h0, _⟩ | ⟨h0, b2⟩
  · omega
  simp only
  obtain ⟨s', h', room', e3, b3, x3, f3⟩ := cc_l2 hp hx hn xs.length 0 s1 [] h1 (cat ls).length (by omega) (by simpa using hl) (by simp) (by simpa [vB] using b2) x2 f2
  simp only [slices_Concat_byte_l2, Int.natCast_zero, List.drop_zero, List.nil_append] at e3 b3
  rw [hp.len, e3, joinO_inl]
  exact ⟨s', h', room', rfl, x3, b3, f3⟩
end Go.Proofs.Ythiccnmplgdheaa.T
