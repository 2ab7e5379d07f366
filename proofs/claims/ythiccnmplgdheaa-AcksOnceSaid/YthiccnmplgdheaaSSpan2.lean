/- Sets of numbers over the typed texts: runs in memory, Has, Add. -/
-- SEAT b
import Derived.Test.YthiccnmplgdheaaTxt
import Derived.Test.YthiccnmplgdheaaS12
import Derived.Test.YthiccnmplgdheaaSPnum
set_option linter.unusedVariables false
set_option linter.unusedSimpArgs false
namespace Go.Proofs.Ythiccnmplgdheaa.T
open Go Go.Abs Go.Proofs
/-! Has -/
theorem has1_f {h : H} (w : WF h) (r : Run) (b : Nat) {n : Int} (B : Box h b [.int .i64 n]) : PO (spans_Set_Has_1 r (some ⟨b, 0, some 0⟩) h) (fun (a, h1) => a = (decide (r.1 ≤ n) && decide (n < r.2)) ∧ EX h h1) := by
  unfold spans_Set_Has_1
  refine PO.newB w fun h1 x1 B1 z1 w1 => ?_
  have C1 := Box.kx x1 B
  refine .ixA (by omega) (by omega) (.ldI B1 rfl (.ptr (.ldI0 C1 rfl (.condD (fun c1 => .ptr (.ldI0 C1 rfl (.ixA (by omega) (by omega) (.ldI B1 rfl (.ret ⟨?_, x1⟩))))) (fun c1 => .ret ⟨?_, x1⟩)))))
  · have c1' : r.1 ≤ n := c1
    simp [c1']
  · have c1' : ¬ r.1 ≤ n := c1
    simp [c1']
def ixOf (n : Int) : List Run → Nat → Int
  | [], _ => -1
  | r :: l, i => if r.1 ≤ n ∧ n < r.2 then (i : Int) else ixOf n l (i + 1)
theorem ixOf_cons (n : Int) (r : Run) (l : List Run) (i : Nat) : ixOf n (r :: l) i = if r.1 ≤ n ∧ n < r.2 then (i : Int) else ixOf n l (i + 1) := rfl
theorem ixOf_mem (n : Int) : ∀ (l : List Run) (i : Nat), (0 ≤ ixOf n l i ↔ mem l n)
  | [], i => by simp [ixOf, mem]
  | r :: l, i => by
    unfold ixOf
    rw [mem_cons]
    by_cases c : r.1 ≤ n ∧ n < r.2
    · rw [if_pos c]; exact ⟨fun _ => .inl c, fun _ => by omega⟩
    · rw [if_neg c, ixOf_mem n l (i + 1)]; exact ⟨.inr, fun h => h.resolve_left c⟩
theorem index_f {h0 : H} {s : Sl} {l : List Run} {b : Nat} {n : Int} (hr : RdR h0 s l) (hl : l.length ≤ 2 ^ 42) (B : Box h0 b [.int .i64 n]) (w : WF h0) :
    PO (slices_IndexFunc_2_int_2_int_spans_Set_Has_1 s (some ⟨b, 0, some 0⟩) h0) (fun (a, h1) => a = ixOf n l 0 ∧ EX h0 h1) := by
  unfold slices_IndexFunc_2_int_2_int_spans_Set_Has_1
  refine PO.loop (fun m st => ∃ (i : Nat) (h' : H), st = ((s, (some ⟨b, 0, some 0⟩, (((s.len : Nat) : Int), (i : Int)))), h') ∧ m + i = l.length ∧ EX h0 h' ∧ ixOf n (l.drop i) i = ixOf n l 0) ?_ l.length _ ⟨0, h0, rfl, rfl, EX.refl w, rfl⟩
  rintro m st ⟨i, h', rfl, hm, hx, hi⟩
  have hlen := RdR.len hr
  unfold P.slices_IndexFunc_2_int_2_int_spans_Set_Has_1_l1
  refine .condD (fun c => ?_) (fun c => ?_)
  · refine .ixR (hr.ex hx) (by omega) (by omega) fun a _ _ _ e1 _ _ => .op e1 ?_
    have hd : l.drop i = l.getD i (0, 0) :: l.drop (i + 1) := by
      rw [List.drop_eq_getElem_cons (by omega)]; simp [List.getD, show i < l.length by omega]
    simp only [Int.toNat_natCast] at e1 ⊢
    rw [hd, ixOf_cons] at hi
    generalize l.getD i (0, 0) = r at *
    refine PO.call (has1_f hx.wf r b (Box.kx hx B)) fun a h1 ⟨e, x1⟩ => ?_
    subst e
    refine .cond (fun c1 => .retR ⟨?_, hx.trans x1⟩) (fun c1 => .retL ⟨m - 1, by omega, i + 1, h1, ?_, by omega, hx.trans x1, ?_⟩)
    · simp only [Bool.and_eq_true, decide_eq_true_eq] at c1
      rw [if_pos c1] at hi
      exact hi
    · rw [w64 (by omega) (by omega)]; rfl
    · rw [if_neg (by simpa using c1)] at hi
      exact hi
  · have : i = l.length := by omega
    subst this
    rw [List.drop_length] at hi
    exact .retR ⟨hi, hx⟩
/-- a set: the cell k of a box holds its runs -/
structure SetAt (h : H) (b k : Nat) (L : List Value) (l : List Run) : Prop where
  ex : ∃ s, L[k]? = some (encSl s) ∧ RdR h s l ∧ ∀ a, s.base = some a → a.block ≠ b
  box : Box h b L
theorem SetAt.kx {h h' : H} {b k : Nat} {L : List Value} {l : List Run} (x : EX h h') (S : SetAt h b k L l) : SetAt h' b k L l := by
  obtain ⟨s, h1, h2, h3⟩ := S.ex
  exact ⟨⟨s, h1, h2.ex x, h3⟩, Box.kx x S.box⟩
theorem Has_f {h : H} (w : WF h) {b k : Nat} {L : List Value} {l : List Run} (S : SetAt h b k L l) (hl : l.length ≤ 2 ^ 42) (n : Int) :
    PO (spans_Set_Has (some (add ⟨b, 0, some 0⟩ k)) n h) (fun (a, h1) => a = decide (mem l n) ∧ EX h h1) := by
  unfold spans_Set_Has P.spans_Set_Has
  refine PO.newB w fun h1 x1 B1 z1 w1 => .ptr ?_
  obtain ⟨s, e1, r1, _⟩ := (S.kx x1).ex
  rw [addA_zero]
  refine .ldL (S.kx x1).box e1 ?_
  unfold slices_ContainsFunc_2_int_2_int_spans_Set_Has_1 P.slices_ContainsFunc_2_int_2_int_spans_Set_Has_1
  refine PO.call (P := fun (a, h2) => a = decide (mem l n) ∧ EX h1 h2) (PO.call (index_f r1 hl B1 w1) fun a h2 ⟨e, x2⟩ => .ret ⟨?_, x2⟩) fun a h2 ⟨e, x2⟩ => .ret ⟨e, x1.trans x2⟩
  subst e
  exact decide_eq_decide.2 (ixOf_mem n l 0)
/-! Add -/
def brg (n : Int) : Int := max 0 (min n 4611686018427387904)
theorem bring_f (n : Int) (h : H) : spans_bring n h = some (brg n, h) := by
  unfold spans_bring brg
  rw [letO_eq]
  congr 2
  (repeat' split) <;> omega
theorem add_loop {h0 : H} {s : Option Addr} {x2 : Sl} {l : List Run} {f0 t0 : Int} (hr : RdR h0 x2 l) (hl : l.length ≤ 2 ^ 40) (w : WF h0) :
    PO (loopO spans_Set_Add_l1 ((s, (f0, (t0, ((⟨none, 0, 0⟩ : Sl), (false, (x2, (((x2.len : Nat) : Int), 0))))))), h0)) (fun r => ∃ (f t : Int) (out : Sl) (done : Bool) (o : List Run) (h' : H), r = Sum.inl ((s, (f, (t, (out, done)))), h') ∧ BufR h' out o ∧ o ++ addR f t done [] = addR f0 t0 false l ∧ EX h0 h' ∧ Fr h0.size out ∧ o.length ≤ 2 * l.length) := by
  refine PO.loop (fun m st => ∃ (i : Nat) (f t : Int) (done : Bool) (out : Sl) (o : List Run) (h' : H), st = ((s, (f, (t, (out, (done, (x2, (((x2.len : Nat) : Int), (i : Int)))))))), h') ∧ m + i = l.length ∧ BufR h' out o ∧ o ++ addR f t done (l.drop i) = addR f0 t0 false l ∧ EX h0 h' ∧ Fr h0.size out ∧ o.length ≤ 2 * i) ?_ l.length _ ⟨0, f0, t0, false, ⟨none, 0, 0⟩, [], h0, rfl, rfl, buf_nil 2 h0, rfl, EX.refl w, fr_nil _, Nat.le_refl _⟩
  rintro m st ⟨i, f, t, done, out, o, h', rfl, hm, hb, he, hx, hf, ho⟩
  have hlen := RdR.len hr
  unfold spans_Set_Add_l1
  refine .condD (fun c => ?_) (fun c => ?_)
  · have hd : l.drop i = l.getD i (0, 0) :: l.drop (i + 1) := by
      rw [List.drop_eq_getElem_cons (by omega)]; simp [List.getD, show i < l.length by omega]
    rw [hd, addR_cons] at he
    have hi : IntKind.wrap .i64 ((i : Int) + 1) = ((i + 1 : Nat) : Int) := by rw [w64 (by omega) (by omega)]; rfl
    refine PO.join (fun st => ∃ (f' t' : Int) (done' : Bool) (out' : Sl) (o' : List Run) (h2 : H), st = ((s, (f', (t', (out', (done', (x2, (((x2.len : Nat) : Int), (i : Int)))))))), h2) ∧ BufR h2 out' o' ∧ o' ++ addR f' t' done' (l.drop (i + 1)) = addR f0 t0 false l ∧ EX h0 h2 ∧ Fr h0.size out' ∧ o'.length ≤ 2 * (i + 1)) ?_ ?_
    · refine .ixR (hr.ex hx) (by omega) (by omega) fun a _ _ _ e1 _ _ => .op e1 ?_
      simp only [Int.toNat_natCast]
      generalize l.getD i (0, 0) = r at *
      refine PO.newB hx.wf fun h1 x1 B1 z1 w1 => PO.stZ B1 w1 rfl rfl fun h2 B2 u2 z2 w2 => ?_
      have B2' : Box h2 h'.size [.int .i64 r.1, .int .i64 r.2] := B2
      have y2 : EX h' h2 := u2.ex0 x1 (fun A hA e => by omega)
      have xx := hx.trans y2
      have hb2 := hb.ex hx.wf y2
      refine .ixA (by omega) (by omega) (.ldI B2' rfl (.condD (fun c1 => ?_) (fun c1 => ?_)))
      · have c1' : r.2 < f := c1
        rw [if_pos c1'] at he
        refine .ldZ2 B2' (PO.appR1 hb2 xx hf (by omega) fun out1 h3 b3 x3 f3 _ => .retL ⟨f, t, done, out1, o ++ [r], h3, rfl, b3, by simpa using he, x3, f3, by simp; omega⟩)
      · have c1' : ¬ r.2 < f := c1
        rw [if_neg c1'] at he
        refine .ixA (by omega) (by omega) (.ldI B2' rfl (.condD (fun c2 => ?_) (fun c2 => ?_)))
        · have c2' : r.1 > t := c2
          rw [if_pos c2'] at he
          refine PO.join (fun st => ∃ (out' : Sl) (o' : List Run) (h3 : H), st = ((s, (f, (t, (out', (some ⟨h'.size, 0, some 0⟩, (x2, (((x2.len : Nat) : Int), (i : Int)))))))), h3) ∧ BufR h3 out' o' ∧ o' = o ++ (if done then [] else [(f, t)]) ∧ EX h0 h3 ∧ Fr h0.size out' ∧ RdR h3 ⟨some ⟨h'.size, 0, some 0⟩, 1, 1⟩ [r]) ?_ ?_
          · refine .condN (fun cd => ?_) (fun cd => ?_)
            · exact PO.appR1 hb2 xx hf (by omega) fun out1 h3 b3 x3 f3 k3 => .retL ⟨out1, o ++ [(f, t)], h3, rfl, b3, by simp [cd], x3, f3, RdR.mono k3 (B2'.r1 w2)⟩
            · exact .retL ⟨out, o, h2, rfl, hb2, by simp [cd], xx, hf, B2'.r1 w2⟩
          · rintro _ ⟨out', o', h3, rfl, b3, eo, x3, f3, B3⟩
            refine .ptr (.ldR1 B3 (PO.appR1 b3 x3 f3 (by rw [eo]; split <;> simp <;> omega) fun out1 h4 b4 x4 f4 _ => .retL ⟨f, t, true, out1, o' ++ [r], h4, rfl, b4, ?_, x4, f4, ?_⟩))
            · rw [eo, ← he]
              cases done <;> simp
            · rw [eo]; split <;> simp <;> omega
        · have c2' : ¬ r.1 > t := c2
          rw [if_neg c2'] at he
          refine .ixA (by omega) (by omega) (.ldI B2' rfl (.ixA (by omega) (by omega) (.ldI B2' rfl (.retL ⟨_, _, done, out, o, h2, rfl, hb2, ?_, xx, hf, by omega⟩))))
          rw [← he]
          congr 2
          · show (if r.1 < f then r.1 else f) = min f r.1
            split <;> omega
          · show (if r.2 > t then r.2 else t) = max t r.2
            split <;> omega
    · rintro _ ⟨f', t', done', out', o', h2, rfl, b2, e2, x2', f2, l2⟩
      exact .retL ⟨m - 1, by omega, i + 1, f', t', done', out', o', h2, by rw [hi], by omega, b2, e2, x2', f2, l2⟩
  · have : i = l.length := by omega
    subst this
    rw [List.drop_length] at he
    exact .retR ⟨f, t, out, done, o, h', rfl, hb, he, hx, hf, ho⟩
end Go.Proofs.Ythiccnmplgdheaa.T
