/- Lemmas about the typed texts (joined: SSpan3 SVar1 SVar2). -/
import Derived.Test.YtaebjajbogedkaaG5
import Derived.Test.YtaebjajbogedkaaG2
/- Sets of numbers over the typed texts: Add, Drop, Count, Spans. -/
set_option linter.unusedVariables false
set_option linter.unusedSimpArgs false
namespace Go.Proofs.Ytaebjajbogedkaa.T
open Go Go.Abs Go.Proofs
def addS (f t : Int) (l : List Run) : List Run := if brg f < brg t then addR (brg f) (brg t) false l else l
def dropS (f t : Int) (l : List Run) : List Run := if brg f < brg t then dropR (brg f) (brg t) l else l
theorem getElem_lt {α : Type} {L : List α} {k : Nat} {v : α} (h : L[k]? = some v) : k < L.length := (List.getElem?_eq_some_iff.1 h).1
theorem setAt_st {h0 h3 : H} {b k : Nat} {L : List Value} {l l' : List Run} {out : Sl} (S : SetAt h0 b k L l) (x : EX h0 h3) (hr : RdR h3 out l') (hf : Fr h0.size out) {α : Type} {Q : α → Prop} {g : H → Option α}
    (p : ∀ h4, SetAt h4 b k (L.set k (encSl out)) l' → UP (· = b) h0 h4 → h0.size ≤ h4.size → PO (g h4) Q) : PO (bindO (st1 h3 (add ⟨b, 0, some 0⟩ k) (encSl out)) g) Q := by
  obtain ⟨s, e1, _, _⟩ := S.ex
  have B3 := Box.kx x S.box
  refine PO.st1 B3 x.wf (getElem_lt e1) rfl fun h4 B4 u4 z4 w4 => ?_
  have hne : ∀ a, out.base = some a → a.block ≠ b := fun a ha e => by have := hf a ha; have := S.box.blt; omega
  refine p h4 ⟨⟨out, by rw [List.getElem?_set_self (getElem_lt e1)], Rd.up hr u4 hne, hne⟩, B4⟩ (x.trans_up u4) (by have := x.size; omega)
theorem Add_f {h : H} (w : WF h) {b k : Nat} {L : List Value} {l : List Run} (S : SetAt h b k L l) (hl : l.length ≤ 2 ^ 40) (f t : Int) :
    PO (spans_Set_Add (some (add ⟨b, 0, some 0⟩ k)) f t h) (fun (_, h') => ∃ v, SetAt h' b k (L.set k v) (addS f t l) ∧ UP (· = b) h h' ∧ h.size ≤ h'.size) := by
  unfold spans_Set_Add P.spans_Set_Add
  refine .callE (bring_f _ _) (.callE (bring_f _ _) (.condD (fun c => ?_) (fun c => ?_)))
  · obtain ⟨s, e1, r1, n1⟩ := S.ex
    refine .ret ⟨encSl s, ?_, UP.refl w, Nat.le_refl _⟩
    unfold addS
    rw [if_neg (by omega)]
    have : L.set k (encSl s) = L := by
      apply List.ext_getElem?; intro i
      rw [List.getElem?_set]
      split
      · rename_i e; subst e; rw [if_pos (getElem_lt e1), e1]
      · rfl
    rw [this]; exact S
  · obtain ⟨s, e1, r1, n1⟩ := S.ex
    refine PO.joinD (.ptr ?_)
    rw [addA_zero]
    refine .ldL S.box e1 (PO.mono (add_loop r1 hl w) ?_)
    rintro _ ⟨f', t', out, done, o, h2, rfl, b2, e2, x2, f2, l2⟩
    refine PO.join (fun st => ∃ (out' : Sl) (h3 : H), st = ((some (add ⟨b, 0, some 0⟩ k), out'), h3) ∧ RdR h3 out' (addS f t l) ∧ EX h h3 ∧ Fr h.size out') ?_ ?_
    · have hv : addS f t l = o ++ (if done then [] else [(f', t')]) := by unfold addS; rw [if_pos (by omega), ← e2]; cases done <;> rfl
      refine .condN (fun cd => ?_) (fun cd => ?_)
      · refine PO.appR1 b2 x2 f2 (by omega) fun out1 h3 b3 x3 f3 _ => .retL ⟨out1, h3, rfl, ?_, x3, f3⟩
        rw [hv, cd]; exact b3.rd
      · refine .retL ⟨out, h2, rfl, ?_, x2, f2⟩
        rw [hv, cd]; simpa using b2.rd
    · rintro _ ⟨out', h3, rfl, r3, x3, f3⟩
      refine .ptr ?_
      rw [addA_zero]
      exact setAt_st S x3 r3 f3 fun h4 S4 u4 z4 => .ret ⟨_, S4, u4, z4⟩
theorem drop_loop {h0 : H} {s : Option Addr} {x2 : Sl} {l : List Run} {f0 t0 : Int} (hr : RdR h0 x2 l) (hl : l.length ≤ 2 ^ 40) (w : WF h0) :
    PO (loopO spans_Set_Drop_l1 ((s, (f0, (t0, ((⟨none, 0, 0⟩ : Sl), (x2, (((x2.len : Nat) : Int), 0)))))), h0)) (fun r => ∃ (out : Sl) (h' : H), r = Sum.inl ((s, out), h') ∧ RdR h' out (dropR f0 t0 l) ∧ EX h0 h' ∧ Fr h0.size out) := by
  refine PO.loop (fun m st => ∃ (i : Nat) (out : Sl) (o : List Run) (h' : H), st = ((s, (f0, (t0, (out, (x2, (((x2.len : Nat) : Int), (i : Int))))))), h') ∧ m + i = l.length ∧ BufR h' out o ∧ o ++ dropR f0 t0 (l.drop i) = dropR f0 t0 l ∧ EX h0 h' ∧ Fr h0.size out ∧ o.length ≤ 2 * i) ?_ l.length _ ⟨0, ⟨none, 0, 0⟩, [], h0, rfl, rfl, buf_nil 2 h0, rfl, EX.refl w, fr_nil _, Nat.le_refl _⟩
  rintro m st ⟨i, out, o, h', rfl, hm, hb, he, hx, hf, ho⟩
  have hlen := RdR.len hr
  unfold spans_Set_Drop_l1
  refine .condD (fun c => ?_) (fun c => ?_)
  · have hd : l.drop i = l.getD i (0, 0) :: l.drop (i + 1) := by
      rw [List.drop_eq_getElem_cons (by omega)]; simp [List.getD, show i < l.length by omega]
    have dc : ∀ (r : Run) (q : List Run), dropR f0 t0 (r :: q) = (if r.1 < min r.2 f0 then [(r.1, min r.2 f0)] else []) ++ (if max r.1 t0 < r.2 then [(max r.1 t0, r.2)] else []) ++ dropR f0 t0 q := fun _ _ => rfl
    rw [hd, dc] at he
    have hi : IntKind.wrap .i64 ((i : Int) + 1) = ((i + 1 : Nat) : Int) := by rw [w64 (by omega) (by omega)]; rfl
    refine PO.join (fun st => ∃ (out' : Sl) (o' : List Run) (h2 : H), st = ((s, (f0, (t0, (out', (x2, (((x2.len : Nat) : Int), (i : Int))))))), h2) ∧ BufR h2 out' o' ∧ o' ++ dropR f0 t0 (l.drop (i + 1)) = dropR f0 t0 l ∧ EX h0 h2 ∧ Fr h0.size out' ∧ o'.length ≤ 2 * (i + 1)) ?_ ?_
    · refine .ixR (hr.ex hx) (by omega) (by omega) fun a _ _ _ e1 _ _ => .op e1 ?_
      simp only [Int.toNat_natCast]
      generalize l.getD i (0, 0) = r at *
      refine PO.newB hx.wf fun h1 x1 B1 z1 w1 => PO.stZ B1 w1 rfl rfl fun h2 B2 u2 z2 w2 => ?_
      have B2' : Box h2 h'.size [.int .i64 r.1, .int .i64 r.2] := B2
      have y2 : EX h' h2 := u2.ex0 x1 (fun A hA e => by omega)
      have xx := hx.trans y2
      have hb2 := hb.ex hx.wf y2
      have em : (if f0 < r.2 then f0 else r.2) = min r.2 f0 := by split <;> omega
      have eM : (if t0 > r.1 then t0 else r.1) = max r.1 t0 := by split <;> omega
      refine PO.join (fun st => ∃ (out' : Sl) (h3 : H), st = ((s, (f0, (t0, (out', (some ⟨h'.size, 0, some 0⟩, (x2, (((x2.len : Nat) : Int), (i : Int)))))))), h3) ∧ BufR h3 out' (o ++ (if r.1 < min r.2 f0 then [(r.1, min r.2 f0)] else [])) ∧ EX h0 h3 ∧ Fr h0.size out' ∧ RdR h3 ⟨some ⟨h'.size, 0, some 0⟩, 1, 1⟩ [r]) ?_ ?_
      · refine .ixA (by omega) (by omega) (.ldI B2' rfl (.ixA (by omega) (by omega) (.ldI B2' rfl ?_)))
        show PO (condK (decide (r.1 < (if f0 < r.2 then f0 else r.2))) _ _) _
        rw [em]
        refine .condD (fun c1 => .ixA (by omega) (by omega) (.ldI B2' rfl ?_)) (fun c1 => .retL ⟨out, h2, rfl, ?_, xx, hf, B2'.r1 w2⟩)
        · exact PO.appR1 hb2 xx hf (by omega) fun out1 h3 b3 x3 f3 k3 => .retL ⟨out1, h3, rfl, by rw [if_pos c1]; exact b3, x3, f3, RdR.mono k3 (B2'.r1 w2)⟩
        · rw [if_neg c1, List.append_nil]; exact hb2
      · rintro _ ⟨out', h3, rfl, b3, x3, f3, r3⟩
        have l0 : ldCell h3 (add (⟨h'.size, 0, some 0⟩ : Addr) 0) = some (.int .i64 r.1) := (Rd.ld r3 _ rfl 0 _ rfl).2
        have l1 : ldCell h3 (add (⟨h'.size, 0, some 0⟩ : Addr) 1) = some (.int .i64 r.2) := (Rd.ld r3 _ rfl 1 _ rfl).2
        refine .ptr (.ixA (by omega) (by omega) (.op (ldI_of l0) (.ptr (.ixA (by omega) (by omega) (.op (ldI_of l1) ?_)))))
        rw [eM]
        refine .condD (fun c1 => .ptr (.ixA (by omega) (by omega) (.op (ldI_of l1) ?_))) (fun c1 => .retL ⟨out', _, h3, rfl, b3, ?_, x3, f3, ?_⟩)
        · refine PO.appR1 b3 x3 f3 (by split <;> simp <;> omega) fun out1 h4 b4 x4 f4 k4 => .retL ⟨out1, _, h4, rfl, b4, ?_, x4, f4, ?_⟩
          · rw [if_pos c1] at he
            rw [← he]; simp
          · split <;> simp <;> omega
        · rw [if_neg c1] at he
          rw [← he]; simp
        · split <;> simp <;> omega
    · rintro _ ⟨out', o', h2, rfl, b2, e2, x2', f2, l2⟩
      exact .retL ⟨m - 1, by omega, i + 1, out', o', h2, by rw [hi], by omega, b2, e2, x2', f2, l2⟩
  · have : i = l.length := by omega
    subst this
    rw [List.drop_length] at he
    refine .retR ⟨out, h', rfl, ?_, hx, hf⟩
    rw [← he]
    simpa [dropR] using hb.rd
theorem Drop_f {h : H} (w : WF h) {b k : Nat} {L : List Value} {l : List Run} (S : SetAt h b k L l) (hl : l.length ≤ 2 ^ 40) (f t : Int) :
    PO (spans_Set_Drop (some (add ⟨b, 0, some 0⟩ k)) f t h) (fun (_, h') => ∃ v, SetAt h' b k (L.set k v) (dropS f t l) ∧ UP (· = b) h h' ∧ h.size ≤ h'.size) := by
  unfold spans_Set_Drop P.spans_Set_Drop
  refine .callE (bring_f _ _) (.callE (bring_f _ _) (.condD (fun c => ?_) (fun c => ?_)))
  · obtain ⟨s, e1, r1, n1⟩ := S.ex
    refine .ret ⟨encSl s, ?_, UP.refl w, Nat.le_refl _⟩
    unfold dropS
    rw [if_neg (by omega)]
    have : L.set k (encSl s) = L := by
      apply List.ext_getElem?; intro i
      rw [List.getElem?_set]
      split
      · rename_i e; subst e; rw [if_pos (getElem_lt e1), e1]
      · rfl
    rw [this]; exact S
  · obtain ⟨s, e1, r1, n1⟩ := S.ex
    refine PO.joinD (.ptr ?_)
    rw [addA_zero]
    refine .ldL S.box e1 (PO.mono (drop_loop r1 hl w) ?_)
    rintro _ ⟨out, h2, rfl, r2, x2, f2⟩
    refine .ptr ?_
    rw [addA_zero]
    refine setAt_st S x2 (l' := dropS f t l) ?_ f2 fun h4 S4 u4 z4 => .ret ⟨_, S4, u4, z4⟩
    unfold dropS; rw [if_pos (by omega)]; exact r2
/-! Count -/
theorem cntR_cons (r : Run) (l : List Run) : cntR (r :: l) = (r.2 - r.1) + cntR l := rfl
end Go.Proofs.Ytaebjajbogedkaa.T
/- Chapter 1's functions over the typed texts: kinds, sizes, bytes. -/
set_option linter.unusedVariables false
set_option linter.unusedSimpArgs false
namespace Go.Proofs.Ytaebjajbogedkaa.T
open Go Go.Abs Go.Proofs
def tt (x : Nat) : Nat := if x < 1 then 0 else if x < 2 then 1 else if x < 4 then 2 else if x < 8 then 3 else if x < 16 then 4 else if x < 32 then 5 else if x < 64 then 6 else if x < 128 then 7 else 8
def tbl : ByteArray := ⟨#[0, 1, 2, 2, 3, 3, 3, 3, 4, 4, 4, 4, 4, 4, 4, 4, 5, 5, 5, 5, 5, 5, 5, 5, 5, 5, 5, 5, 5, 5, 5, 5, 6, 6, 6, 6, 6, 6, 6, 6, 6, 6, 6, 6, 6, 6, 6, 6, 6, 6, 6, 6, 6, 6, 6, 6, 6, 6, 6, 6, 6, 6, 6, 6, 7, 7, 7, 7, 7, 7, 7, 7, 7, 7, 7, 7, 7, 7, 7, 7, 7, 7, 7, 7, 7, 7, 7, 7, 7, 7, 7, 7, 7, 7, 7, 7, 7, 7, 7, 7, 7, 7, 7, 7, 7, 7, 7, 7, 7, 7, 7, 7, 7, 7, 7, 7, 7, 7, 7, 7, 7, 7, 7, 7, 7, 7, 7, 7, 8, 8, 8, 8, 8, 8, 8, 8, 8, 8, 8, 8, 8, 8, 8, 8, 8, 8, 8, 8, 8, 8, 8, 8, 8, 8, 8, 8, 8, 8, 8, 8, 8, 8, 8, 8, 8, 8, 8, 8, 8, 8, 8, 8, 8, 8, 8, 8, 8, 8, 8, 8, 8, 8, 8, 8, 8, 8, 8, 8, 8, 8, 8, 8, 8, 8, 8, 8, 8, 8, 8, 8, 8, 8, 8, 8, 8, 8, 8, 8, 8, 8, 8, 8, 8, 8, 8, 8, 8, 8, 8, 8, 8, 8, 8, 8, 8, 8, 8, 8, 8, 8, 8, 8, 8, 8, 8, 8, 8, 8, 8, 8, 8, 8, 8, 8, 8, 8, 8, 8, 8, 8, 8, 8, 8, 8, 8, 8]⟩
theorem tbl_all : ∀ x : Nat, x < 256 → ixST tbl (x : Int) = some (tt x : Int) := by decide +kernel
theorem tbl_at {x : Int} (h0 : 0 ≤ x) (h1 : x < 256) : ixST tbl x = some (tt x.toNat : Int) := by
  have := tbl_all x.toNat (by omega)
  rwa [Int.toNat_of_nonneg h0] at this
theorem fdiv_pos (a : Int) {b : Int} (hb : 0 ≤ b) : Int.fdiv a b = a / b := Int.fdiv_eq_ediv_of_nonneg a hb
/-- how many bits a number has, as far as the kinds ask -/
theorem sh_step (c d x n : Int) (hc : 0 < c) (hd : 0 ≤ d) (hd2 : d ≤ 32) (hn : 0 ≤ n) (hn2 : n ≤ 64) (h0 : 0 ≤ x) {α : Type} (h : H) : ∃ y m, condK (decide (x ≥ c)) (some (Sum.inl (((Int.fdiv x c, IntKind.wrap .i64 (n + d))), h))) (some (Sum.inl ((x, n), h))) = (some (Sum.inl ((y, m), h)) : Option (((Int × Int) × H) ⊕ α)) ∧ ((m = n ∧ y = x ∧ x < c) ∨ (m = n + d ∧ y = x / c ∧ c ≤ x)) := by
  by_cases g : x ≥ c
  · refine ⟨x / c, n + d, ?_, .inr ⟨rfl, rfl, g⟩⟩
    rw [fdiv_pos x (by omega), w64 (by omega) (by omega), condK_eq, decide_eq_true g]; rfl
  · refine ⟨x, n, ?_, .inl ⟨rfl, rfl, by omega⟩⟩
    rw [condK_eq, decide_eq_false g]; rfl
set_option maxRecDepth 100000 in
theorem len64_f (n : Int) (h0 : 0 ≤ n) (h1 : n < 4611686018427387904) (h : H) : ∃ L, math_bits_Len64 n h = some (L, h) ∧ (L ≤ 6 ↔ n < 64) ∧ (L ≤ 14 ↔ n < 16384) ∧ (L ≤ 30 ↔ n < 1073741824) := by
  unfold math_bits_Len64
  obtain ⟨x1, n1, e1, p1⟩ := sh_step 4294967296 32 n 0 (by omega) (by omega) (by omega) (by omega) (by omega) h0 (α := Int × H) h
  rw [show IntKind.wrap .i64 (0 + 32) = 32 from rfl] at e1
  rw [e1, joinO_inl]
  have q1 : 0 ≤ x1 ∧ x1 < 4294967296 ∧ ((n1 = 0 ∧ x1 = n) ∨ (n1 = 32 ∧ 4294967296 ≤ n)) := by omega
  clear e1 p1
  obtain ⟨x2, n2, e2, p2⟩ := sh_step 65536 16 x1 n1 (by omega) (by omega) (by omega) (by omega) (by omega) (by omega) (α := Int × H) h
  simp only
  rw [e2, joinO_inl]
  have q2 : 0 ≤ x2 ∧ x2 < 65536 ∧ ((n2 = 0 ∧ x2 = n) ∨ (n2 = 16 ∧ x2 = n / 65536 ∧ 65536 ≤ n ∧ n < 4294967296) ∨ (32 ≤ n2 ∧ n2 ≤ 48 ∧ 4294967296 ≤ n)) := by omega
  clear e2 p2 q1
  obtain ⟨x3, n3, e3, p3⟩ := sh_step 256 8 x2 n2 (by omega) (by omega) (by omega) (by omega) (by omega) (by omega) (α := Int × H) h
  simp only
  rw [e3, joinO_inl]
  have q3 : 0 ≤ x3 ∧ x3 < 256 ∧ 0 ≤ n3 ∧ n3 ≤ 56 ∧ ((n3 = 0 ∧ x3 = n) ∨ (n3 = 8 ∧ x3 = n / 256 ∧ 256 ≤ n ∧ n < 65536) ∨ (n3 = 16 ∧ x3 = n / 65536 ∧ 65536 ≤ n ∧ n < 16777216) ∨ (n3 = 24 ∧ x3 = n / 65536 / 256 ∧ 16777216 ≤ n ∧ n < 4294967296) ∨ (32 ≤ n3 ∧ 4294967296 ≤ n)) := by omega
  clear e3 p3 q2
  simp only
  rw [wu8 q3.1 q3.2.1]
  have ht := tbl_at q3.1 q3.2.1
  unfold tbl at ht
  rw [ht, bindO_some]
  have hb : tt x3.toNat ≤ 8 ∧ (tt x3.toNat ≤ 6 ↔ x3 < 64) ∧ (1 ≤ x3 → 1 ≤ tt x3.toNat) := by unfold tt; (repeat' split) <;> omega
  generalize tt x3.toNat = t at *
  rw [w64 (n := (t : Int)) (by omega) (by omega), w64 (by omega) (by omega)]
  refine ⟨_, rfl, ?_, ?_, ?_⟩
  · omega
  · omega
  · omega
theorem len_f (n : Int) (h0 : 0 ≤ n) (h1 : n < 4611686018427387904) (h : H) : ∃ L, math_bits_Len n h = some (L, h) ∧ (L ≤ 6 ↔ n < 64) ∧ (L ≤ 14 ↔ n < 16384) ∧ (L ≤ 30 ↔ n < 1073741824) := by
  obtain ⟨L, e, r⟩ := len64_f n h0 h1 h
  exact ⟨L, by unfold math_bits_Len P.math_bits_Len; rw [e]; rfl, r⟩
def kd (n : Int) : Int := if n < 0 then -1 else if n > 4611686018427387903 then -1 else if n < 64 then 0 else if n < 16384 then 1 else if n < 1073741824 then 2 else 3
theorem kind_f (n : Int) (h : H) : varint_kind n h = some (kd n, h) := by
  unfold varint_kind P.varint_kind kd
  simp only [condK_eq, decide_eq_true_eq]
  by_cases c0 : n < 0
  · simp [c0]
  by_cases c1 : n > 4611686018427387903
  · simp [c0, c1]
  simp only [c0, c1, if_false, joinO_inl, decide_false, Bool.false_eq_true]
  obtain ⟨L, e, t1, t2, t3⟩ := len_f n (by omega) (by omega) h
  rw [loopO_eq]
  simp only [P.varint_kind_l1, condK_eq, decide_eq_true_eq, show (0 : Int) < 3 by omega, if_true]
  rw [wu64 (by omega) (by omega), e, bind2_some, show shlT .i64 8 .i64 0 = some 8 from rfl, bindO_some, show IntKind.wrap .i64 (8 - 2) = 6 from rfl]
  by_cases d1 : n < 64
  · simp [t1, d1]
  simp only [t1, d1, if_false]
  rw [show IntKind.wrap .i64 (0 + 1) = 1 from rfl, loopO_eq]
  simp only [P.varint_kind_l1, condK_eq, decide_eq_true_eq, show (1 : Int) < 3 by omega, if_true]
  rw [wu64 (by omega) (by omega), e, bind2_some, show shlT .i64 8 .i64 1 = some 16 from rfl, bindO_some, show IntKind.wrap .i64 (16 - 2) = 14 from rfl]
  by_cases d2 : n < 16384
  · simp [t2, d2]
  simp only [t2, d2, if_false]
  rw [show IntKind.wrap .i64 (1 + 1) = 2 from rfl, loopO_eq]
  simp only [P.varint_kind_l1, condK_eq, decide_eq_true_eq, show (2 : Int) < 3 by omega, if_true]
  rw [wu64 (by omega) (by omega), e, bind2_some, show shlT .i64 8 .i64 2 = some 32 from rfl, bindO_some, show IntKind.wrap .i64 (32 - 2) = 30 from rfl]
  by_cases d3 : n < 1073741824
  · simp [t3, d3]
  simp only [t3, d3, if_false]
  rw [show IntKind.wrap .i64 (2 + 1) = 3 from rfl, loopO_eq]
  simp only [P.varint_kind_l1, condK_eq, decide_eq_true_eq, show ¬ (3 : Int) < 3 by omega, if_false]
end Go.Proofs.Ytaebjajbogedkaa.T
/- Chapter 1's functions over the typed texts: sizes of several; a copy; bytes put. -/
set_option linter.unusedVariables false
set_option linter.unusedSimpArgs false
namespace Go.Proofs.Ytaebjajbogedkaa.T
open Go Go.Abs Go.Proofs
def sz (n : Int) : Int := if n < 64 then 1 else if n < 16384 then 2 else if n < 1073741824 then 4 else 8
def okN (n : Int) : Prop := 0 ≤ n ∧ n ≤ 4611686018427387903
instance (n : Int) : Decidable (okN n) := inferInstanceAs (Decidable (_ ∧ _))
theorem kd_neg (n : Int) : kd n < 0 ↔ ¬ okN n := by
  unfold kd okN; (repeat' split) <;> omega
theorem shl_kd {n : Int} (h : okN n) : shlT .i64 1 .i64 (kd n) = some (sz n) := by
  have h' := h
  unfold okN at h
  unfold kd sz
  rw [if_neg (by omega), if_neg (by omega)]
  (repeat' split) <;> rfl
theorem sz_pos (n : Int) : 1 ≤ sz n ∧ sz n ≤ 8 := by unfold sz; (repeat' split) <;> omega
def szs : List Int → Option Int
  | [] => some 0
  | n :: l => if okN n then (szs l).map (sz n + ·) else none
theorem size_loop {h : H} {s : Sl} {zs : List Int} (hr : RdI .i64 h s zs) (hl : zs.length ≤ 2 ^ 46) : ∀ (k i : Nat) (sum : Int), i + k = zs.length → 0 ≤ sum → sum ≤ 8 * i →
    loopO varint_Size_l1 ((sum, (s, ((zs.length : Int), (i : Int)))), h) = some (match szs (zs.drop i) with | some t => Sum.inl (sum + t, h) | none => Sum.inr (-1, h))
  | 0, i, sum, hik, h0, h1 => by
    rw [loopO_eq]
    have : zs.drop i = [] := List.drop_eq_nil_of_le (by omega)
    rw [this]
    simp only [P.varint_Size_l1, condK_eq, decide_eq_true_eq, show ¬ ((i : Int) < (zs.length : Int)) by omega, if_false, szs, Int.add_zero]
  | k + 1, i, sum, hik, h0, h1 => by
    rw [loopO_eq]
    obtain ⟨a, ha, e1, e2⟩ := hr.at (i := (i : Int)) (by omega) (by omega)
    have hd : zs.drop i = zs.getD i 0 :: zs.drop (i + 1) := by
      rw [List.drop_eq_getElem_cons (by omega)]
      simp [List.getD, show i < zs.length by omega]
    simp only [Int.toNat_natCast] at e1 e2
    simp only [P.varint_Size_l1, condK_eq, decide_eq_true_eq, show ((i : Int) < (zs.length : Int)) by omega, if_true]
    rw [e1, bindO_some, e2, bindO_some, kind_f, bind2_some]
    simp only [kd_neg, hd, szs]
    by_cases hn : okN (zs.getD i 0)
    · simp only [hn, not_true_eq_false, if_false, if_true]
      rw [shl_kd hn, bindO_some]
      have hs := sz_pos (zs.getD i 0)
      rw [w64 (n := sum + sz _) (by omega) (by omega), w64 (n := (i : Int) + 1) (by omega) (by omega)]
      have := size_loop hr hl k (i + 1) (sum + sz (zs.getD i 0)) (by omega) (by omega) (by omega)
      simp only [Int.natCast_add, Int.natCast_one] at this
      simp only [this]
      cases szs (zs.drop (i + 1)) with
      | none => rfl
      | some t => simp only [Option.map_some, Int.add_assoc]
    · simp only [hn, not_false_eq_true, if_true, if_false]
def szV (zs : List Int) : Int := match szs zs with | some t => t | none => -1
theorem Size_f {h : H} {s : Sl} {zs : List Int} (hr : RdI .i64 h s zs) (hl : zs.length ≤ 2 ^ 46) : varint_Size s h = some (szV zs, h) := by
  unfold varint_Size P.varint_Size szV
  have := size_loop hr hl zs.length 0 0 (by omega) (by omega) (by omega)
  simp only [Int.natCast_zero, List.drop_zero, Int.zero_add] at this
  rw [hr.len]
  rw [show loopO (P.varint_Size_l1 varint_kind) = loopO varint_Size_l1 from rfl, this]
  cases szs zs <;> rfl
/-! a copy -/
theorem clone_f {h : H} {s : Sl} {l : List UInt8} (w : WF h) (hr : RdB h s l) (hl : l.length ≤ 2 ^ 47) : ∃ s' h', slices_Clone_byte s h = some (s', h') ∧ EX h h' ∧ BufB h' s' l ∧ Fr h.size s' ∧ (s.base = none → s'.base = none) := by
  unfold slices_Clone_byte
  rw [eqLT_nil s hr.nil, bindO_some]
  cases hb : s.base with
  | none =>
    have := Rd.nilOf hr hb
    simp only [vB, List.map_eq_nil_iff] at this
    obtain ⟨rfl, _⟩ := this
    simp only [Option.isNone_none, condK_eq, if_true]
    exact ⟨_, _, rfl, EX.refl w, buf_nil 1 h, fr_nil _, fun _ => rfl⟩
  | some a =>
    simp only [Option.isNone_some, condK_eq, Bool.false_eq_true, if_false]
    rw [newO_eq]
    have x1 := wf_new w 5 (vB [])
    have b1 := bufB_new w 5 [] (by decide)
    rw [show row 5 [] = row 5 (vB []) from rfl]
    have f1 := fr_new h 0 0
    simp only [List.length_nil] at b1
    generalize newAt (grow h 1) h.size (row 5 (vB [])) = h1 at x1 b1 ⊢
    generalize (⟨some ⟨h.size, 0, some 0⟩, 0, 0⟩ : Sl) = s1 at b1 f1 ⊢
    obtain ⟨s', h', e2, k2, x2, b2, _, f2⟩ := appB_ok (e := 5) x1.wf b1 (hr.ex x1) (by simpa using hl)
    rw [e2, bind2_some]
    exact ⟨s', h', rfl, x2 _ x1 f1, by simpa using b2, f2 _ x1.size f1, fun hn => by simp at hn⟩
/-! bytes put -/
def be : Nat → Nat → List UInt8
  | 0, _ => []
  | m + 1, x => UInt8.ofNat (x / 256 ^ m) :: be m x
theorem be_length : ∀ m x, (be m x).length = m
  | 0, _ => rfl
  | m + 1, x => by simp [be, be_length m x]
theorem byte_at {x : Int} (h0 : 0 ≤ x) (m : Nat) (hm : m < 8) : ∃ y, shrT .i64 x .i64 (8 * (m : Int)) = some y ∧ IntKind.wrap .u8 y = ((UInt8.ofNat (x.toNat / 256 ^ m)).toNat : Int) := by
  refine ⟨_, shrT_ok _ _ _ (by omega), ?_⟩
  have e1 : min (8 * (m : Int)).toNat IntKind.i64.bits = 8 * m := by
    have : IntKind.i64.bits = 64 := rfl
    omega
  rw [e1, wu8_mod]
  have e2 : (2 : Int) ^ (8 * m) = ((256 ^ m : Nat) : Int) := by
    rw [show (256 : Nat) = 2 ^ 8 from rfl, ← Nat.pow_mul, Int.natCast_pow]; rfl
  rw [e2, fdiv_pos _ (Int.natCast_nonneg _), UInt8.toNat_ofNat']
  obtain ⟨n, rfl⟩ : ∃ n : Nat, x = n := ⟨x.toNat, (Int.toNat_of_nonneg h0).symm⟩
  rw [Int.toNat_natCast, ← Int.natCast_ediv]
  exact (Int.natCast_emod _ 256).symm
theorem or8 (a b : UInt8) : IntKind.wrap .u8 ((BitVec.toNat ((BitVec.ofInt 8 (a.toNat : Int)) ||| (BitVec.ofInt 8 (b.toNat : Int))) : Nat) : Int) = ((a ||| b).toNat : Int) := by
  have e : ∀ c : UInt8, BitVec.ofInt 8 (c.toNat : Int) = c.toBitVec := by
    intro c
    apply BitVec.eq_of_toNat_eq
    simp
  rw [e, e, wu8_mod]
  have : ((a ||| b).toNat) = (a.toBitVec ||| b.toBitVec).toNat := rfl
  rw [← this]
  have h := (a ||| b).toNat_lt
  omega
def enc (x : Int) : List UInt8 := match be (sz x).toNat x.toNat with
  | [] => []
  | b :: t => (b ||| UInt8.ofNat ((kd x).toNat * 64)) :: t
theorem enc_length (x : Int) : (enc x).length = (sz x).toNat := by
  have h := be_length (sz x).toNat x.toNat
  unfold enc
  cases hb : be (sz x).toNat x.toNat with
  | nil => rw [hb] at h; exact h
  | cons b t => rw [hb] at h; simpa using h
def encs : List Int → List UInt8
  | [] => []
  | x :: l => enc x ++ encs l
theorem encs_length : ∀ l, (encs l).length ≤ 8 * l.length
  | [] => by simp [encs]
  | x :: l => by
    have := encs_length l
    have := enc_length x
    have := sz_pos x
    simp [encs]; omega
theorem shl8_kd {n : Int} (h : okN n) : shlT .i64 8 .i64 (kd n) = some (8 * sz n) := by
  unfold okN at h
  unfold kd sz
  rw [if_neg (by omega), if_neg (by omega)]
  (repeat' split) <;> rfl
theorem drop_getD {zs : List Int} {i : Nat} (h : i < zs.length) : zs.drop i = zs.getD i 0 :: zs.drop (i + 1) := by
  rw [List.drop_eq_getElem_cons h]
  simp [List.getD, h]
end Go.Proofs.Ytaebjajbogedkaa.T
