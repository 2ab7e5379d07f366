/- Sets of numbers over the typed texts: Add, Drop, Count, Spans. -/
-- SEAT b
import Derived.Test.YthiccnmplgdheaaSSpan2
set_option linter.unusedVariables false
set_option linter.unusedSimpArgs false
namespace Go.Proofs.Ythiccnmplgdheaa.T
open Go Go.Abs Go.Proofs
def addS (f t : Int) (l : List Run) : List Run := if brg f < brg t then addR (brg f) (brg t) false l else l
def dropS (f t : Int) (l : List Run) : List Run := if brg f < brg t then dropR (brg f) (brg t) l else l
theorem getElem_lt {α : Type} {L : List α} {k : Nat} {v : α} (h : L[k]? = some v) : k < L.length := (List.getElem?_eq_some_iff.1 h).1
theorem setAt_st {h0 h3 : H} {b k : Nat} {L : List Value} {l l' : List Run} {out : Sl} (S : SetAt h0 b k L l) (x : EX h0 h3) (hr : RdR h3 out l') (hf : Fr h0.size out) {α : Type} {Q : α → Prop} {g : H → Option α}
    (p : ∀ h4, SetAt h4 b k (L.set k (encSl out)) l' → UP (· = b) h0 h4 → h0.size ≤ h4.size → PO (g h4) Q) : PO (bindO (st1 h3 (add ⟨b, 0, some 0⟩ k) (encSl out)) g) Q := by
  obtain ⟨s, e1, _, _⟩ := S.ex
  have B3 := Box.kx x S.box
  refine PO.st1 B3 x.wf (getElem_lt e1) rfl fun h4 B4 u4 z4 w4 => ?_
  have hne : ∀ a, out.base = some a → a.block ≠ b := fun a ha e => by have := hf a ha; have := S.box.blt; omega
  refine p h4 ⟨⟨out, by rw [List.getElem?_set_self (getElem_lt e1)], Rd.up hr u4 hne, hne⟩, B4⟩ (x.trans_up u4) (by have := x.size; omega)
theorem Add_f {h : H} (w : WF h) {b k : Nat} {L : List Value} {l : List Run} (S : SetAt h b k L l) (hl : l.length ≤ 2 ^ 40) (f t : Int) :
    PO (spans_Set_Add (some (add ⟨b, 0, some 0⟩ k)) f t h) (fun (_, h') => ∃ v, SetAt h' b k (L.set k v) (addS f t l) ∧ UP (· = b) h h' ∧ h.size ≤ h'.size) := by
  unfold spans_Set_Add P.spans_Set_Add
  refine .callE (bring_f _ _) (.callE (bring_f _ _) (.condD (fun c => ?_) (fun c => ?_)))
  · obtain ⟨s, e1, r1, n1⟩ := S.ex
    refine .ret ⟨encSl s, ?_, UP.refl w, Nat.le_refl _⟩
    unfold addS
    rw [if_neg (by omega)]
    have : L.set k (encSl s) = L := by
      apply List.ext_getElem?; intro i
      rw [List.getElem?_set]
      split
      · rename_i e; subst e; rw [if_pos (getElem_lt e1), e1]
      · rfl
    rw [this]; exact S
  · obtain ⟨s, e1, r1, n1⟩ := S.ex
    refine PO.joinD (.ptr ?_)
    rw [addA_zero]
    refine .ldL S.box e1 (PO.mono (add_loop r1 hl w) ?_)
    rintro _ ⟨f', t', out, done, o, h2, rfl, b2, e2, x2, f2, l2⟩
    refine PO.join (fun st => ∃ (out' : Sl) (h3 : H), st = ((some (add ⟨b, 0, some 0⟩ k), out'), h3) ∧ RdR h3 out' (addS f t l) ∧ EX h h3 ∧ Fr h.size out') ?_ ?_
    · have hv : addS f t l = o ++ (if done then [] else [(f', t')]) := by unfold addS; rw [if_pos (by omega), ← e2]; cases done <;> rfl
      refine .condN (fun cd => ?_) (fun cd => ?_)
      · refine PO.appR1 b2 x2 f2 (by omega) fun out1 h3 b3 x3 f3 _ => .retL ⟨out1, h3, rfl, ?_, x3, f3⟩
        rw [hv, cd]; exact b3.rd
      · refine .retL ⟨out, h2, rfl, ?_, x2, f2⟩
        rw [hv, cd]; simpa using b2.rd
    · rintro _ ⟨out', h3, rfl, r3, x3, f3⟩
      refine .ptr ?_
      rw [addA_zero]
      exact setAt_st S x3 r3 f3 fun h4 S4 u4 z4 => .ret ⟨_, S4, u4, z4⟩
theorem drop_loop {h0 : H} {s : Option Addr} {x2 : Sl} {l : List Run} {f0 t0 : Int} (hr : RdR h0 x2 l) (hl : l.length ≤ 2 ^ 40) (w : WF h0) :
    PO (loopO spans_Set_Drop_l1 ((s, (f0, (t0, ((⟨none, 0, 0⟩ : Sl), (x2, (((x2.len : Nat) : Int), 0)))))), h0)) (fun r => ∃ (out : Sl) (h' : H), r = Sum.inl ((s, out), h') ∧ RdR h' out (dropR f0 t0 l) ∧ EX h0 h' ∧ Fr h0.size out) := by
  refine PO.loop (fun m st => ∃ (i : Nat) (out : Sl) (o : List Run) (h' : H), st = ((s, (f0, (t0, (out, (x2, (((x2.len : Nat) : Int), (i : Int))))))), h') ∧ m + i = l.length ∧ BufR h' out o ∧ o ++ dropR f0 t0 (l.drop i) = dropR f0 t0 l ∧ EX h0 h' ∧ Fr h0.size out ∧ o.length ≤ 2 * i) ?_ l.length _ ⟨0, ⟨none, 0, 0⟩, [], h0, rfl, rfl, buf_nil 2 h0, rfl, EX.refl w, fr_nil _, Nat.le_refl _⟩
  rintro m st ⟨i, out, o, h', rfl, hm, hb, he, hx, hf, ho⟩
  have hlen := RdR.len hr
  unfold spans_Set_Drop_l1
  refine .condD (fun c => ?_) (fun c => ?_)
  · have hd : l.drop i = l.getD i (0, 0) :: l.drop (i + 1) := by
      rw [List.drop_eq_getElem_cons (by omega)]; simp [List.getD, show i < l.length by omega]
    have dc : ∀ (r : Run) (q : List Run), dropR f0 t0 (r :: q) = (if r.1 < min r.2 f0 then [(r.1, min r.2 f0)] else []) ++ (if max r.1 t0 < r.2 then [(max r.1 t0, r.2)] else []) ++ dropR f0 t0 q := fun _ _ => rfl
    rw [hd, dc] at he
    have hi : IntKind.wrap .i64 ((i : Int) + 1) = ((i + 1 : Nat) : Int) := by rw [w64 (by omega) (by omega)]; rfl
    refine PO.join (fun st => ∃ (out' : Sl) (o' : List Run) (h2 : H), st = ((s, (f0, (t0, (out', (x2, (((x2.len : Nat) : Int), (i : Int))))))), h2) ∧ BufR h2 out' o' ∧ o' ++ dropR f0 t0 (l.drop (i + 1)) = dropR f0 t0 l ∧ EX h0 h2 ∧ Fr h0.size out' ∧ o'.length ≤ 2 * (i + 1)) ?_ ?_
    · refine .ixR (hr.ex hx) (by omega) (by omega) fun a _ _ _ e1 _ _ => .op e1 ?_
      simp only [Int.toNat_natCast]
      generalize l.getD i (0, 0) = r at *
      refine PO.newB hx.wf fun h1 x1 B1 z1 w1 => PO.stZ B1 w1 rfl rfl fun h2 B2 u2 z2 w2 => ?_
      have B2' : Box h2 h'.size [.int .i64 r.1, .int .i64 r.2] := B2
      have y2 : EX h' h2 := u2.ex0 x1 (fun A hA e => by omega)
      have xx := hx.trans y2
      have hb2 := hb.ex hx.wf y2
      have em : (if f0 < r.2 then f0 else r.2) = min r.2 f0 := by split <;> omega
      have eM : (if t0 > r.1 then t0 else r.1) = max r.1 t0 := by split <;> omega
      refine PO.join (fun st => ∃ (out' : Sl) (h3 : H), st = ((s, (f0, (t0, (out', (some ⟨h'.size, 0, some 0⟩, (x2, (((x2.len : Nat) : Int), (i : Int)))))))), h3) ∧ BufR h3 out' (o ++ (if r.1 < min r.2 f0 then [(r.1, min r.2 f0)] else [])) ∧ EX h0 h3 ∧ Fr h0.size out' ∧ RdR h3 ⟨some ⟨h'.size, 0, some 0⟩, 1, 1⟩ [r]) ?_ ?_
      · refine .ixA (by omega) (by omega) (.ldI B2' rfl (.ixA (by omega) (by omega) (.ldI B2' rfl ?_)))
        show PO (condK (decide (r.1 < (if f0 < r.2 then f0 else r.2))) _ _) _
        rw [em]
        refine .condD (fun c1 => .ixA (by omega) (by omega) (.ldI B2' rfl ?_)) (fun c1 => .retL ⟨out, h2, rfl, ?_, xx, hf, B2'.r1 w2⟩)
        · exact PO.appR1 hb2 xx hf (by omega) fun out1 h3 b3 x3 f3 k3 => .retL ⟨out1, h3, rfl, by rw [if_pos c1]; exact b3, x3, f3, RdR.mono k3 (B2'.r1 w2)⟩
        · rw [if_neg c1, List.append_nil]; exact hb2
      · rintro _ ⟨out', h3, rfl, b3, x3, f3, r3⟩
        have l0 : ldCell h3 (add (⟨h'.size, 0, some 0⟩ : Addr) 0) = some (.int .i64 r.1) := (Rd.ld r3 _ rfl 0 _ rfl).2
        have l1 : ldCell h3 (add (⟨h'.size, 0, some 0⟩ : Addr) 1) = some (.int .i64 r.2) := (Rd.ld r3 _ rfl 1 _ rfl).2
        refine .ptr (.ixA (by omega) (by omega) (.op (ldI_of l0) (.ptr (.ixA (by omega) (by omega) (.op (ldI_of l1) ?_)))))
        rw [eM]
        refine .condD (fun c1 => .ptr (.ixA (by omega) (by omega) (.op (ldI_of l1) ?_))) (fun c1 => .retL ⟨out', _, h3, rfl, b3, ?_, x3, f3, ?_⟩)
        · refine PO.appR1 b3 x3 f3 (by split <;> simp <;> omega) fun out1 h4 b4 x4 f4 k4 => .retL ⟨out1, _, h4, rfl, b4, ?_, x4, f4, ?_⟩
          · rw [if_pos c1] at he
            rw [← he]; simp
          · split <;> simp <;> omega
        · rw [if_neg c1] at he
          rw [← he]; simp
        · split <;> simp <;> omega
    · rintro _ ⟨out', o', h2, rfl, b2, e2, x2', f2, l2⟩
      exact .retL ⟨m - 1, by omega, i + 1, out', o', h2, by rw [hi], by omega, b2, e2, x2', f2, l2⟩
  · have : i = l.length := by omega
    subst this
    rw [List.drop_length] at he
    refine .retR ⟨out, h', rfl, ?_, hx, hf⟩
    rw [← he]
    simpa [dropR] using hb.rd
theorem Drop_f {h : H} (w : WF h) {b k : Nat} {L : List Value} {l : List Run} (S : SetAt h b k L l) (hl : l.length ≤ 2 ^ 40) (f t : Int) :
    PO (spans_Set_Drop (some (add ⟨b, 0, some 0⟩ k)) f t h) (fun (_, h') => ∃ v, SetAt h' b k (L.set k v) (dropS f t l) ∧ UP (· = b) h h' ∧ h.size ≤ h'.size) := by
  unfold spans_Set_Drop P.spans_Set_Drop
  refine .callE (bring_f _ _) (.callE (bring_f _ _) (.condD (fun c => ?_) (fun c => ?_)))
  · obtain ⟨s, e1, r1, n1⟩ := S.ex
    refine .ret ⟨encSl s, ?_, UP.refl w, Nat.le_refl _⟩
    unfold dropS
    rw [if_neg (by omega)]
    have : L.set k (encSl s) = L := by
      apply List.ext_getElem?; intro i
      rw [List.getElem?_set]
      split
      · rename_i e; subst e; rw [if_pos (getElem_lt e1), e1]
      · rfl
    rw [this]; exact S
  · obtain ⟨s, e1, r1, n1⟩ := S.ex
    refine PO.joinD (.ptr ?_)
    rw [addA_zero]
    refine .ldL S.box e1 (PO.mono (drop_loop r1 hl w) ?_)
    rintro _ ⟨out, h2, rfl, r2, x2, f2⟩
    refine .ptr ?_
    rw [addA_zero]
    refine setAt_st S x2 (l' := dropS f t l) ?_ f2 fun h4 S4 u4 z4 => .ret ⟨_, S4, u4, z4⟩
    unfold dropS; rw [if_pos (by omega)]; exact r2
/-! Count -/
theorem cntR_cons (r : Run) (l : List Run) : cntR (r :: l) = (r.2 - r.1) + cntR l := rfl
theorem Count_f {h : H} (w : WF h) {b k : Nat} {L : List Value} {l : List Run} (S : SetAt h b k L l) (hl : l.length ≤ 2 ^ 40) {e : Int} (hn : Nrm (-1) e l) (he : 0 ≤ e ∧ e ≤ 4611686018427387904) :
    PO (spans_Set_Count (some (add ⟨b, 0, some 0⟩ k)) h) (fun (a, h1) => a = cntR l ∧ EX h h1) := by
  unfold spans_Set_Count
  obtain ⟨s, e1, r1, n1⟩ := S.ex
  have hlen := RdR.len r1
  refine PO.joinD (.ptr ?_)
  rw [addA_zero]
  refine .ldL S.box e1 (PO.mono (P := fun r => ∃ h1, r = Sum.inl (cntR l, h1) ∧ EX h h1) ?_ (by rintro _ ⟨h1, rfl, x1⟩; exact .ret ⟨rfl, x1⟩))
  refine PO.loop (fun m st => ∃ (i : Nat) (c lo : Int) (h' : H), st = ((c, (s, (((s.len : Nat) : Int), (i : Int)))), h') ∧ m + i = l.length ∧ c + cntR (l.drop i) = cntR l ∧ 0 ≤ c ∧ Nrm lo e (l.drop i) ∧ -1 ≤ lo ∧ EX h h') ?_ l.length _ ⟨0, 0, -1, h, rfl, rfl, by simp, Int.le_refl _, hn, Int.le_refl _, EX.refl w⟩
  rintro m st ⟨i, c, lo, h', rfl, hm, hc, h0, hN, hlo, hx⟩
  have htot := cntR_le hn (by omega)
  unfold spans_Set_Count_l1
  refine .condD (fun c1 => ?_) (fun c1 => ?_)
  · have hd : l.drop i = l.getD i (0, 0) :: l.drop (i + 1) := by
      rw [List.drop_eq_getElem_cons (by omega)]; simp [List.getD, show i < l.length by omega]
    rw [hd] at hN
    rw [hd, cntR_cons] at hc
    refine .ixR (r1.ex hx) (by omega) (by omega) fun a _ _ _ e1 _ _ => .op e1 ?_
    simp only [Int.toNat_natCast]
    generalize l.getD i (0, 0) = r at *
    obtain ⟨g1, g2, g3, g4⟩ := hN
    have hrest : 0 ≤ cntR (l.drop (i + 1)) := by
      by_cases hh : r.2 < e
      · exact (cntR_le g4 hh).1
      · have : l.drop (i + 1) = [] := by
          cases hq : l.drop (i + 1) with
          | nil => rfl
          | cons q t => rw [hq] at g4; have := g4.1; have := g4.2.1; have := g4.2.2.1; omega
        rw [this]; exact Int.le_refl _
    refine PO.newB hx.wf fun h1 x1 B1 z1 w1 => PO.stZ B1 w1 rfl rfl fun h2 B2 u2 z2 w2 => ?_
    have B2' : Box h2 h'.size [.int .i64 r.1, .int .i64 r.2] := B2
    have y2 : EX h' h2 := u2.ex0 x1 (fun A hA e => by omega)
    refine .ixA (by omega) (by omega) (.ldI B2' rfl (.ixA (by omega) (by omega) (.ldI B2' rfl (.retL ⟨m - 1, by omega, i + 1, c + (r.2 - r.1), r.2, h2, ?_, by omega, by omega, by omega, g4, by omega, hx.trans y2⟩))))
    show ((IntKind.wrap .i64 (c + IntKind.wrap .i64 (r.2 - r.1)), (s, (((s.len : Nat) : Int), IntKind.wrap .i64 ((i : Int) + 1)))), h2) = _
    rw [w64 (n := r.2 - r.1) (by omega) (by omega), w64 (n := c + (r.2 - r.1)) (by omega) (by omega), w64 (n := (i : Int) + 1) (by omega) (by omega)]
    rfl
  · have : i = l.length := by omega
    subst this
    rw [List.drop_length] at hc
    have hc' : c = cntR l := by have : cntR [] = 0 := rfl; omega
    subst hc'
    exact .retR ⟨h', rfl, hx⟩
end Go.Proofs.Ythiccnmplgdheaa.T
