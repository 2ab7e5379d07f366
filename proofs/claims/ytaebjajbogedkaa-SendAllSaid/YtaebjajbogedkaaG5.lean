/- Lemmas about the typed texts (joined: S13 SPnum SSpan2). -/
import Derived.Test.YtaebjajbogedkaaG4
import Derived.Test.YtaebjajbogedkaaTxt
import Derived.Test.YtaebjajbogedkaaAbsF
/- Slices that may be written in place. -/
set_option linter.unusedVariables false
set_option linter.unusedSimpArgs false
namespace Go.Abs
open Go
/-- a slice whose row is at its newest version: it may be written -/
structure OwnS (sz : Nat) (h : H) (s : Sl) (l : List Value) : Prop where
  rd : Rd sz h s l
  tip : ∀ a, s.base = some a → ∃ r e, h.objs.get a.block = some (.arr r) ∧ a.spot = some e ∧ r.ver = e ∧ h.nro ≤ a.block ∧ a.off + l.length ≤ r.size
theorem OwnS.ex {sz : Nat} {h h' : H} {s : Sl} {l : List Value} (w : WF h) (x : EX h h') (o : OwnS sz h s l) : OwnS sz h' s l := by
  refine ⟨o.rd.ex x, fun a ha => ?_⟩
  obtain ⟨r, e, h1, h2, h3, h4, h5⟩ := o.tip a ha
  exact ⟨r, e, (x.same _ (lt_of_get w h1)).trans h1, h2, h3, by rw [x.nro]; exact h4, h5⟩
theorem Buf.own {sz : Nat} {h : H} {s : Sl} {l : List Value} (b : Buf sz h s l) : OwnS sz h s l := by
  refine ⟨b.rd, fun a ha => ?_⟩
  rcases b.tip with ht | ⟨a', r, e, h1, h2, h3, h4, h5, h6, _⟩
  · rw [ht] at ha; simp at ha
  · rw [ha] at h1; cases h1
    have := b.rd.len
    exact ⟨r, e, h2, h3, h4, h5, by omega⟩
theorem OwnS.nil (sz : Nat) (h : H) : OwnS sz h ⟨none, 0, 0⟩ [] := ⟨rd_nil sz h, fun a ha => by simp at ha⟩
/-- another slice on the same place, no longer -/
theorem OwnS.sub {sz : Nat} {h : H} {s s' : Sl} {l l' : List Value} (o : OwnS sz h s l) (hb : s'.base = s.base) (r : Rd sz h s' l') (hl : l'.length ≤ l.length) : OwnS sz h s' l' := by
  refine ⟨r, fun a ha => ?_⟩
  obtain ⟨r', e, h1, h2, h3, h4, h5⟩ := o.tip a (hb ▸ ha)
  exact ⟨r', e, h1, h2, h3, h4, by omega⟩
theorem OwnS.stC {sz : Nat} {h : H} {s : Sl} {l : List Value} {a : Addr} (o : OwnS sz h s l) (w : WF h) (ha : s.base = some a) (k : Nat) (vs : List Value) (hk : k + vs.length ≤ l.length) (ho : vs.all oneC = true) :
    ∃ h', stCells h (add a k) vs = some h' ∧ OwnS sz h' s (l.take k ++ vs ++ l.drop (k + vs.length)) ∧ UP (· = a.block) h h' ∧ h'.size = h.size := by
  obtain ⟨r, e, h1, h2, h3, h4, h5⟩ := o.tip a ha
  obtain ⟨h', r', e1, g1, g2, g3, g4, g5, g6, g7, g8⟩ := stCells_ok vs h (add a k) r e w h1 h2 h3 h4 (by simp only [add]; omega) ho
  have hlen : (l.take k ++ vs ++ l.drop (k + vs.length)).length = l.length := by simp; omega
  refine ⟨h', e1, ⟨⟨by rw [hlen]; exact o.rd.len, o.rd.nil, fun p hp i v hi => ?_, o.rd.cap⟩, fun p hp => ?_⟩, ⟨Nat.le_of_eq g4.symm, g5, g6, fun A _ hA => g7 A hA, stCells_st _ e1⟩, g4⟩
  · rw [ha] at hp; cases hp
    have hil := (List.getElem?_eq_some_iff.1 hi).1
    rw [hlen] at hil
    refine ⟨by rw [g4]; exact lt_of_get w h1, ?_⟩
    rw [ldCell_eq]
    show ldO (h'.objs.get a.block) _ = some v
    rw [show h'.objs.get a.block = some (.arr r') from g1]
    have g8' : ∀ j, r'.cells.get j = if a.off + k ≤ j ∧ j < a.off + k + vs.length then (vs[j - (a.off + k)]?).map (⟨·, e⟩) else r.cells.get j := g8
    simp only [ldO, add, h2]
    rw [g8']
    by_cases hi1 : i < k
    · rw [if_neg (by omega)]
      rw [List.append_assoc, List.getElem?_append_left (by simp; omega), List.getElem?_take_of_lt hi1] at hi
      have := (o.rd.ld a ha i v hi).2
      rw [ldCell_eq] at this
      simp only [ldO, add, h1, h2] at this
      exact this
    · by_cases hi2 : i < k + vs.length
      · rw [if_pos (by omega)]
        rw [List.append_assoc, List.getElem?_append_right (by simp; omega), List.getElem?_append_left (by simp; omega)] at hi
        have : i - (List.take k l).length = a.off + i - (a.off + k) := by simp; omega
        rw [this] at hi
        rw [hi]
        simp only [Option.map_some]
        have : e.ble e = true := by simp
        rw [this]; rfl
      · rw [if_neg (by omega)]
        rw [List.getElem?_append_right (by simp; omega), List.getElem?_drop] at hi
        have : k + vs.length + (i - (List.take k l ++ vs).length) = i := by simp; omega
        rw [this] at hi
        have := (o.rd.ld a ha i v hi).2
        rw [ldCell_eq] at this
        simp only [ldO, add, h1, h2] at this
        exact this
  · rw [ha] at hp; cases hp
    exact ⟨r', e, g1, h2, g2, by rw [g5]; exact h4, by rw [hlen, g3]; exact h5⟩
theorem slV_base (sz : Nat) (s : Sl) (N : Nat) : (slV sz s 0 N).base = s.base := by
  unfold slV
  cases hb : s.base with
  | none => rfl
  | some a =>
    simp only
    cases capK s.cap with
    | exact k => cases h : k.beq 0 <;> simp [addA_zero]
    | unk z => rfl
    | unk0 z => rfl
    | any => simp [addA_zero]
theorem clip_base {sz : Nat} (hz : 0 < sz) (hz2 : sz < B63) {h : H} {s : Sl} {l : List Value} (r : Rd sz h s l) (hl : s.len < B63) :
    ∃ s', slT sz h s none (some (s.len : Int)) (some (s.len : Int)) = some s' ∧ Rd sz h s' l ∧ s'.len = s.len ∧ s'.base = s.base := by
  obtain ⟨s', e, r', h1, h2, h3⟩ := clip_ok hz hz2 r hl
  refine ⟨s', e, r', h1, ?_⟩
  obtain ⟨b, len, cap⟩ := s
  cases b with
  | none => exact h2 rfl
  | some a =>
    have hcap := r.cap (by simp)
    simp only at hcap hl
    have hcl := capLow_ge h a hcap
    have b1 : bnd (capLow h a len sz (capK cap)) (.int .i64 (len : Int)) = some len := by
      have := bnd_int (y := capLow h a len sz (capK cap)) (i := (len : Int)) (k := .i64) (by omega) (by omega)
      simpa using this
    have b2 : bnd len (.int .i64 (len : Int)) = some len := by
      have := bnd_int (y := len) (i := (len : Int)) (k := .i64) (by omega) (by omega)
      simpa using this
    have u0 : (isUnk0 (capK cap) && !Nat.beq 0 0 || !len.blt B63) = false := by
      simp only [show Nat.beq 0 0 = true from rfl, Bool.not_true, Bool.and_false, Bool.false_or, Bool.not_eq_false']
      simp only [Nat.blt_eq]; exact hl
    have : slA (DSE 0 (tyS sz 0 .nilFunc)) h 1 (encSl ⟨some a, len, cap⟩) none (some (.int .i64 (len : Int))) (some (.int .i64 (len : Int))) = some (.slice (some (bif len.beq 0 then a else add a (0 * sz))) (len - 0) (len - 0)) := by
      unfold slA encSl
      simp only [show (DSE 0 (tyS sz 0 .nilFunc)).ty.get 1 = some ⟨1, 24, .slice none 0 0, .slice 0, false⟩ from DSE_s 0 _, DSE_e]
      simp only [DSE_e, show (tyS sz 0 .nilFunc).size = sz from rfl, b1, b2, bndO_none, u0, cond_false]
    have e2 := slT_of (lo := none) (hi := some (len : Int)) (mx := some (len : Int)) this
    simp only at e
    rw [e] at e2
    have e3 := Option.some.inj e2
    rw [e3]
    simp only [Nat.zero_mul, addA_zero]
    cases len.beq 0 <;> rfl
end Go.Abs
/- Chapter 2's functions, what they tell; the laws PnumMonotone and PnumBack over the typed texts. -/
set_option linter.unusedVariables false
set_option linter.unusedSimpArgs false
namespace Go.Proofs.Ytaebjajbogedkaa.T
open Go Go.Abs Go.Proofs
theorem pick_f (a m : Int) (hp : 0 < m) (h2 : m ≤ 4611686018427387904) (h : H) : hand_Pick a m h = some (a % m, h) := by
  have h3 := tmod_pos a m hp
  have h5 := Int.tmod_eq_emod (a := a) (b := m)
  have h6 := Int.emod_nonneg a (Int.ne_of_gt hp)
  have h7 := Int.emod_lt_of_pos a hp
  unfold hand_Pick
  rw [remT_ok _ _ (by omega)]
  simp only [bindO_some, condK_eq, decide_eq_true_eq]
  split at h3
  · rename_i hc; rw [if_pos hc]; simp only [joinO_inl]; rw [w64 (by omega) (by omega), h3]
  · rename_i hc; rw [if_neg hc]; simp only [joinO_inl]; rw [h3]
def sp (k : Int) : Int := if k = 1 then 256 else if k = 2 then 65536 else if k = 3 then 16777216 else 4294967296
theorem sp_pos (k : Int) : 0 < sp k ∧ sp k ≤ 4294967296 := by unfold sp; (repeat' split) <;> omega
def bk (cut by_ x : Int) : Int :=
  if x + (cut - x) % by_ - by_ < 0 then x + (cut - x) % by_
  else if x + (cut - x) % by_ ≤ 4611686018427387903 then
    (if (cut - x) % by_ ≤ by_ - (cut - x) % by_ then x + (cut - x) % by_ else x + (cut - x) % by_ - by_)
  else x + (cut - x) % by_ - by_
def nb (d : Int) : Int := if d ≤ 128 then 1 else if d ≤ 32768 then 2 else if d ≤ 8388608 then 3 else 4
theorem nb_mono (d e : Int) (h : d ≤ e) : nb d ≤ nb e := by
  unfold nb; (repeat' split) <;> omega
def mn (k j : Int) : Int := if j < k then j else k
theorem sp_min (k j : Int) (hk : 1 ≤ k) (hk2 : k ≤ 4) (hj : 1 ≤ j) (hj2 : j ≤ 4) (x : Int) : x % sp k % sp j = x % sp (mn k j) := by
  rcases (by omega : k = 1 ∨ k = 2 ∨ k = 3 ∨ k = 4) with rfl | rfl | rfl | rfl <;> rcases (by omega : j = 1 ∨ j = 2 ∨ j = 3 ∨ j = 4) with rfl | rfl | rfl | rfl <;> simp [sp, mn] <;> omega
theorem sp_shl (k : Int) (hk : 1 ≤ k) (hk2 : k ≤ 4) : shlT .i64 1 .u64 (IntKind.wrap .u64 (IntKind.wrap .i64 (8 * k))) = some (sp k) := by
  rcases (by omega : k = 1 ∨ k = 2 ∨ k = 3 ∨ k = 4) with rfl | rfl | rfl | rfl <;> decide +kernel
theorem bk_self (n x s : Int) (hs : 0 < s) (h1 : 0 ≤ x) (h2 : x ≤ n) (h3 : 2 * (n - x) ≤ s) (h4 : n ≤ 4611686018427387903) (h5 : n - x < s) : bk (n % s) s x = n := by
  have e : (n % s - x) % s = n - x := by
    rw [Int.emod_sub_emod]
    exact Int.emod_eq_of_lt (by omega) h5
  unfold bk
  rw [e]
  have e2 : x + (n - x) = n := by omega
  rw [e2]
  split
  · rfl
  · rw [if_pos (by omega)]
end Go.Proofs.Ytaebjajbogedkaa.T
/- Sets of numbers over the typed texts: runs in memory, Has, Add. -/
set_option linter.unusedVariables false
set_option linter.unusedSimpArgs false
namespace Go.Proofs.Ytaebjajbogedkaa.T
open Go Go.Abs Go.Proofs
/-! Has -/
def ixOf (n : Int) : List Run → Nat → Int
  | [], _ => -1
  | r :: l, i => if r.1 ≤ n ∧ n < r.2 then (i : Int) else ixOf n l (i + 1)
theorem ixOf_cons (n : Int) (r : Run) (l : List Run) (i : Nat) : ixOf n (r :: l) i = if r.1 ≤ n ∧ n < r.2 then (i : Int) else ixOf n l (i + 1) := rfl
theorem ixOf_mem (n : Int) : ∀ (l : List Run) (i : Nat), (0 ≤ ixOf n l i ↔ mem l n)
  | [], i => by simp [ixOf, mem]
  | r :: l, i => by
    unfold ixOf
    rw [mem_cons]
    by_cases c : r.1 ≤ n ∧ n < r.2
    · rw [if_pos c]; exact ⟨fun _ => .inl c, fun _ => by omega⟩
    · rw [if_neg c, ixOf_mem n l (i + 1)]; exact ⟨.inr, fun h => h.resolve_left c⟩
/-- a set: the cell k of a box holds its runs -/
structure SetAt (h : H) (b k : Nat) (L : List Value) (l : List Run) : Prop where
  ex : ∃ s, L[k]? = some (encSl s) ∧ RdR h s l ∧ ∀ a, s.base = some a → a.block ≠ b
  box : Box h b L
theorem SetAt.kx {h h' : H} {b k : Nat} {L : List Value} {l : List Run} (x : EX h h') (S : SetAt h b k L l) : SetAt h' b k L l := by
  obtain ⟨s, h1, h2, h3⟩ := S.ex
  exact ⟨⟨s, h1, h2.ex x, h3⟩, Box.kx x S.box⟩
/-! Add -/
def brg (n : Int) : Int := max 0 (min n 4611686018427387904)
theorem bring_f (n : Int) (h : H) : spans_bring n h = some (brg n, h) := by
  unfold spans_bring brg
  rw [letO_eq]
  congr 2
  (repeat' split) <;> omega
theorem add_loop {h0 : H} {s : Option Addr} {x2 : Sl} {l : List Run} {f0 t0 : Int} (hr : RdR h0 x2 l) (hl : l.length ≤ 2 ^ 40) (w : WF h0) :
    PO (loopO spans_Set_Add_l1 ((s, (f0, (t0, ((⟨none, 0, 0⟩ : Sl), (false, (x2, (((x2.len : Nat) : Int), 0))))))), h0)) (fun r => ∃ (f t : Int) (out : Sl) (done : Bool) (o : List Run) (h' : H), r = Sum.inl ((s, (f, (t, (out, done)))), h') ∧ BufR h' out o ∧ o ++ addR f t done [] = addR f0 t0 false l ∧ EX h0 h' ∧ Fr h0.size out ∧ o.length ≤ 2 * l.length) := by
  refine PO.loop (fun m st => ∃ (i : Nat) (f t : Int) (done : Bool) (out : Sl) (o : List Run) (h' : H), st = ((s, (f, (t, (out, (done, (x2, (((x2.len : Nat) : Int), (i : Int)))))))), h') ∧ m + i = l.length ∧ BufR h' out o ∧ o ++ addR f t done (l.drop i) = addR f0 t0 false l ∧ EX h0 h' ∧ Fr h0.size out ∧ o.length ≤ 2 * i) ?_ l.length _ ⟨0, f0, t0, false, ⟨none, 0, 0⟩, [], h0, rfl, rfl, buf_nil 2 h0, rfl, EX.refl w, fr_nil _, Nat.le_refl _⟩
  rintro m st ⟨i, f, t, done, out, o, h', rfl, hm, hb, he, hx, hf, ho⟩
  have hlen := RdR.len hr
  unfold spans_Set_Add_l1
  refine .condD (fun c => ?_) (fun c => ?_)
  · have hd : l.drop i = l.getD i (0, 0) :: l.drop (i + 1) := by
      rw [List.drop_eq_getElem_cons (by omega)]; simp [List.getD, show i < l.length by omega]
    rw [hd, addR_cons] at he
    have hi : IntKind.wrap .i64 ((i : Int) + 1) = ((i + 1 : Nat) : Int) := by rw [w64 (by omega) (by omega)]; rfl
    refine PO.join (fun st => ∃ (f' t' : Int) (done' : Bool) (out' : Sl) (o' : List Run) (h2 : H), st = ((s, (f', (t', (out', (done', (x2, (((x2.len : Nat) : Int), (i : Int)))))))), h2) ∧ BufR h2 out' o' ∧ o' ++ addR f' t' done' (l.drop (i + 1)) = addR f0 t0 false l ∧ EX h0 h2 ∧ Fr h0.size out' ∧ o'.length ≤ 2 * (i + 1)) ?_ ?_
    · refine .ixR (hr.ex hx) (by omega) (by omega) fun a _ _ _ e1 _ _ => .op e1 ?_
      simp only [Int.toNat_natCast]
      generalize l.getD i (0, 0) = r at *
      refine PO.newB hx.wf fun h1 x1 B1 z1 w1 => PO.stZ B1 w1 rfl rfl fun h2 B2 u2 z2 w2 => ?_
      have B2' : Box h2 h'.size [.int .i64 r.1, .int .i64 r.2] := B2
      have y2 : EX h' h2 := u2.ex0 x1 (fun A hA e => by omega)
      have xx := hx.trans y2
      have hb2 := hb.ex hx.wf y2
      refine .ixA (by omega) (by omega) (.ldI B2' rfl (.condD (fun c1 => ?_) (fun c1 => ?_)))
      · have c1' : r.2 < f := c1
        rw [if_pos c1'] at he
        refine .ldZ2 B2' (PO.appR1 hb2 xx hf (by omega) fun out1 h3 b3 x3 f3 _ => .retL ⟨f, t, done, out1, o ++ [r], h3, rfl, b3, by simpa using he, x3, f3, by simp; omega⟩)
      · have c1' : ¬ r.2 < f := c1
        rw [if_neg c1'] at he
        refine .ixA (by omega) (by omega) (.ldI B2' rfl (.condD (fun c2 => ?_) (fun c2 => ?_)))
        · have c2' : r.1 > t := c2
          rw [if_pos c2'] at he
          refine PO.join (fun st => ∃ (out' : Sl) (o' : List Run) (h3 : H), st = ((s, (f, (t, (out', (some ⟨h'.size, 0, some 0⟩, (x2, (((x2.len : Nat) : Int), (i : Int)))))))), h3) ∧ BufR h3 out' o' ∧ o' = o ++ (if done then [] else [(f, t)]) ∧ EX h0 h3 ∧ Fr h0.size out' ∧ RdR h3 ⟨some ⟨h'.size, 0, some 0⟩, 1, 1⟩ [r]) ?_ ?_
          · refine .condN (fun cd => ?_) (fun cd => ?_)
            · exact PO.appR1 hb2 xx hf (by omega) fun out1 h3 b3 x3 f3 k3 => .retL ⟨out1, o ++ [(f, t)], h3, rfl, b3, by simp [cd], x3, f3, RdR.mono k3 (B2'.r1 w2)⟩
            · exact .retL ⟨out, o, h2, rfl, hb2, by simp [cd], xx, hf, B2'.r1 w2⟩
          · rintro _ ⟨out', o', h3, rfl, b3, eo, x3, f3, B3⟩
            refine .ptr (.ldR1 B3 (PO.appR1 b3 x3 f3 (by rw [eo]; split <;> simp <;> omega) fun out1 h4 b4 x4 f4 _ => .retL ⟨f, t, true, out1, o' ++ [r], h4, rfl, b4, ?_, x4, f4, ?_⟩))
            · rw [eo, ← he]
              cases done <;> simp
            · rw [eo]; split <;> simp <;> omega
        · have c2' : ¬ r.1 > t := c2
          rw [if_neg c2'] at he
          refine .ixA (by omega) (by omega) (.ldI B2' rfl (.ixA (by omega) (by omega) (.ldI B2' rfl (.retL ⟨_, _, done, out, o, h2, rfl, hb2, ?_, xx, hf, by omega⟩))))
          rw [← he]
          congr 2
          · show (if r.1 < f then r.1 else f) = min f r.1
            split <;> omega
          · show (if r.2 > t then r.2 else t) = max t r.2
            split <;> omega
    · rintro _ ⟨f', t', done', out', o', h2, rfl, b2, e2, x2', f2, l2⟩
      exact .retL ⟨m - 1, by omega, i + 1, f', t', done', out', o', h2, by rw [hi], by omega, b2, e2, x2', f2, l2⟩
  · have : i = l.length := by omega
    subst this
    rw [List.drop_length] at he
    exact .retR ⟨f, t, out, done, o, h', rfl, hb, he, hx, hf, ho⟩
end Go.Proofs.Ytaebjajbogedkaa.T
