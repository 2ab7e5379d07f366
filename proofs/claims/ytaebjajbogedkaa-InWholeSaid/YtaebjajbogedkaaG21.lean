/- Lemmas about the typed texts (joined: SIn8 SIn9 SIn10). -/
import Derived.Test.YtaebjajbogedkaaG20
import Derived.Test.YtaebjajbogedkaaG5
-- SEAT c
/- Chapter 22's law InWhole: the pieces there are. -/
set_option linter.unusedVariables false
set_option linter.unusedSimpArgs false
namespace Go.Proofs.Ytaebjajbogedkaa.T
open Go Go.Abs Go.Proofs
theorem buf_lt' {s0 : Nat} {h : H} {s : Sl} {l : List Value} (w : WF h) (b : Buf s0 h s l) : ∀ a, s.base = some a → a.block < h.size := by
  intro a ha
  rcases b.tip with ht | ⟨a', r, e, h1, h2, _⟩
  · rw [ht] at ha; simp at ha
  · rw [ha] at h1; cases h1; exact lt_of_get w h2
theorem PO.appRu {α : Type} {Q : α → Prop} {h : H} {out : Sl} {l : List Run} {x y : Int} {n : Nat} {e : TypeId} {g : Sl → H → Option α} (w : WF h) (hb : BufR h out l) (hn : h.nro ≤ n) (hn2 : n ≤ h.size) (hf : Fr n out) (hl : l.length + 1 ≤ 2 ^ 42)
    (k : ∀ out1 h2, BufR h2 out1 (l ++ [(x, y)]) → UP (fun A => n ≤ A) h h2 → Fr n out1 → PO (g out1 h2) Q) : PO (newO (row e [.int .i64 x, .int .i64 y]) h fun b h1 => bind2 (appT e 2 16 h1 out ⟨some ⟨b, 0, some 0⟩, 1, 1⟩) g) Q := by
  refine PO.newB w fun h1 x1 B1 z1 w1 => ?_
  have r1 : RdR h1 ⟨some ⟨h.size, 0, some 0⟩, 1, 1⟩ [(x, y)] := B1.rd w1 rfl (by unfold CapOK; rw [capK_exact (by unfold B63; omega)]; exact Nat.le_refl _)
  have hb1 : BufR h1 out l := hb.ex w x1
  have hlen := RdR.len hb1.rd
  obtain ⟨s', h', e', k1, x2, b2, _, f2⟩ := appT_ok (e := e) (bytes := 16) (by omega) (by unfold B63; omega) w1 hb1 r1 (runsV_oneC _) (by simp only; omega) (by simp only; omega)
  refine PO.callE e' (k s' h' ?_ (x1.trans_up (up_of_ex w1 x2 k1 (by rw [x1.nro]; exact hn) (by omega) hf)) (f2 _ (by omega) hf))
  unfold BufR; rw [runsV_app]; exact b2
/-- the sizes, those of the first n alone -/
def szF (zs : List Int) (n : Nat) (i : Int) : Int := if 0 ≤ i ∧ i < n ∧ i < zs.length then 1 + zs.getD i.toNat 0 % 600 else 0
def szC (zs : List Int) (n : Nat) : List Value := (List.range 8).map fun (j : Nat) => .int .i64 (szF zs n j)
theorem szC_len (zs : List Int) (n : Nat) : (szC zs n).length = 8 := by simp [szC]
theorem szC_at (zs : List Int) (n : Nat) {j : Nat} (hj : j < 8) : (szC zs n)[j]? = some (.int .i64 (szF zs n j)) := by simp [szC, hj]
theorem szC_set {zs : List Int} {n : Nat} (hn : n < 8) (hz : n < zs.length) : (szC zs n).set n (.int .i64 (1 + zs.getD n 0 % 600)) = szC zs (n + 1) := by
  apply List.ext_getElem?
  intro j
  rw [List.getElem?_set]
  by_cases h8 : j < 8
  · by_cases hj : n = j
    · subst hj
      rw [if_pos rfl, szC_len, if_pos hn, szC_at _ _ h8]
      unfold szF
      rw [if_pos (by omega)]
      simp
    · rw [if_neg hj, szC_at _ _ h8, szC_at _ _ h8]
      unfold szF
      congr 2
      by_cases h1 : 0 ≤ (j : Int) ∧ (j : Int) < n ∧ (j : Int) < zs.length
      · rw [if_pos h1, if_pos (by omega)]
      · rw [if_neg h1, if_neg (by omega)]
  · rw [List.getElem?_eq_none (by rw [szC_len]; omega)]
    rw [if_neg (by omega), List.getElem?_eq_none (by rw [szC_len]; omega)]
theorem szF_b (zs : List Int) (n : Nat) (i : Int) : 0 ≤ szF zs n i ∧ szF zs n i ≤ 600 := by
  unfold szF
  split
  · have := Int.emod_nonneg (zs.getD i.toNat 0) (show (600 : Int) ≠ 0 by omega)
    have := Int.emod_lt_of_pos (zs.getD i.toNat 0) (show (0 : Int) < 600 by omega)
    omega
  · omega
theorem szF_pos {zs : List Int} {n : Nat} {i : Int} (h : 1 ≤ szF zs n i) : 0 ≤ i ∧ i < n ∧ i < zs.length := by
  unfold szF at h
  split at h
  · assumption
  · omega
theorem szF_one {zs : List Int} {n : Nat} {i : Int} (h : 0 ≤ i ∧ i < n ∧ i < zs.length) : 1 ≤ szF zs n i := by
  unfold szF
  rw [if_pos h]
  have := Int.emod_nonneg (zs.getD i.toNat 0) (show (600 : Int) ≠ 0 by omega)
  omega
theorem szF_mono {zs : List Int} {n m : Nat} {i : Int} (h : i < n) (hm : n ≤ m) : szF zs m i = szF zs n i := by
  unfold szF
  by_cases h1 : 0 ≤ i ∧ i < n ∧ i < zs.length
  · rw [if_pos h1, if_pos (by omega)]
  · rw [if_neg h1, if_neg (by omega)]
def rowP (i : Int) (k : Nat) : List Run := (List.range k).map fun (j : Nat) => (i, (j : Int))
theorem rowP_succ (i : Int) (k : Nat) : rowP i (k + 1) = rowP i k ++ [(i, (k : Int))] := by simp [rowP, List.range_succ]
/-- the pieces of the first n -/
def plK (zs : List Int) : Nat → List Run
  | 0 => []
  | n + 1 => plK zs n ++ rowP n (hcnt (szF zs 8 n)).toNat
theorem plK_len (zs : List Int) : ∀ n, (plK zs n).length ≤ 8 * n
  | 0 => by simp [plK]
  | n + 1 => by
    have := plK_len zs n
    have := szF_b zs 8 n
    simp only [plK, List.length_append, rowP, List.length_map, List.length_range]
    unfold hcnt
    omega
theorem mem_plK {zs : List Int} {a b : Int} : ∀ {n : Nat}, (a, b) ∈ plK zs n ↔ (0 ≤ a ∧ a < n) ∧ 0 ≤ b ∧ b < hcnt (szF zs 8 a)
  | 0 => by simp [plK]; omega
  | n + 1 => by
    simp only [plK, List.mem_append, mem_plK (n := n), rowP, List.mem_map, List.mem_range, Prod.mk.injEq]
    constructor
    · rintro (⟨h1, h2⟩ | ⟨j, h1, rfl, rfl⟩)
      · exact ⟨by omega, h2⟩
      · exact ⟨by omega, by omega⟩
    · rintro ⟨h1, h2⟩
      by_cases h : a = n
      · subst h
        exact .inr ⟨b.toNat, by omega, rfl, by omega⟩
      · exact .inl ⟨by omega, h2⟩
end Go.Proofs.Ytaebjajbogedkaa.T
-- SEAT c
/- Chapter 22's law InWhole: its loops over the sizes. -/
set_option linter.unusedVariables false
set_option linter.unusedSimpArgs false
namespace Go.Proofs.Ytaebjajbogedkaa.T
open Go Go.Abs Go.Proofs
theorem ofV_sz {zs : List Int} {i : Int} (h : 1 ≤ szF zs 8 i) : ofV i 9 (szF zs 8 i) = (i, 9, hcnt (szF zs 8 i), 0, szF zs 8 i) := by
  unfold ofV
  have h1 := szF_pos h
  have h2 := szF_b zs 8 i
  refine if_pos ?_
  show 0 ≤ i ∧ i < 40 ∧ (0 : Int) ≤ 9 ∧ (9 : Int) ≤ 4611686018427387903 ∧ 1 ≤ szF zs 8 i ∧ szF zs 8 i ≤ 600 ∧ hcnt (szF zs 8 i) = hcnt (szF zs 8 i) ∧ (0 : Int) ≤ 0 ∧ 0 < hcnt (szF zs 8 i)
  refine ⟨by omega, by omega, by omega, by omega, by omega, by omega, rfl, by omega, ?_⟩
  unfold hcnt; omega
theorem inw_l2 {h : H} (w : WF h) {sizes order : Sl} {b : Option Addr} {b1 n : Nat} {zs : List Int} {i : Nat} (hi : i < 8) (hz : i < zs.length) (B : Box h b1 (szC zs (i + 1))) (hb1 : b1 < n) (hn : h.nro ≤ n) (hn2 : n ≤ h.size) {all : Sl} (ha : BufR h all (plK zs i)) (hf : Fr n all) :
    PO (loopO law22_InWhole_l2 ((sizes, (order, (b, (all, (some ⟨b1, 0, some 0⟩, ((i : Int), 0)))))), h)) (fun r => ∃ all' h', r = Sum.inl ((sizes, (order, (b, (all', (some ⟨b1, 0, some 0⟩, (i : Int)))))), h') ∧ BufR h' all' (plK zs (i + 1)) ∧ Fr n all' ∧ UP (fun A => n ≤ A) h h' ∧ Box h' b1 (szC zs (i + 1))) := by
  have hs1 : szF zs (i + 1) i = szF zs 8 i := (szF_mono (by omega) (by omega)).symm
  have hpos : 1 ≤ szF zs 8 i := szF_one (by omega)
  have hc : 0 ≤ hcnt (szF zs 8 i) ∧ hcnt (szF zs 8 i) ≤ 8 := by have := szF_b zs 8 i; unfold hcnt; omega
  have hpl := plK_len zs i
  refine PO.loop (fun m st => ∃ (k : Nat) (all' : Sl) (h' : H), st = ((sizes, (order, (b, (all', (some ⟨b1, 0, some 0⟩, ((i : Int), (k : Int))))))), h') ∧ m + k = (hcnt (szF zs 8 i)).toNat ∧ BufR h' all' (plK zs i ++ rowP i k) ∧ Fr n all' ∧ UP (fun A => n ≤ A) h h') ?_ (hcnt (szF zs 8 i)).toNat _ ⟨0, all, h, rfl, rfl, by simpa [rowP] using ha, hf, UP.refl w⟩
  rintro m st ⟨k, all', h', rfl, hk, ha', hf', u⟩
  unfold law22_InWhole_l2 P.law22_InWhole_l2
  have B' : Box h' b1 (szC zs (i + 1)) := Box.ku u (by omega) B
  refine .ptr (PO.ixA (by omega) (by omega) ?_)
  rw [Nat.mul_one, Int.toNat_natCast]
  refine .ldI B' (by rw [szC_at zs (i + 1) hi, hs1]) (PO.call (Of_f u.wf i 9 (szF zs 8 i)) fun a h1 ⟨e, x1⟩ => ?_)
  rw [ofV_sz hpos] at e
  subst e
  dsimp only
  have hlen : (plK zs i ++ rowP i k).length ≤ 72 := by simp [rowP]; omega
  refine .condD (fun hlt => ?_) (fun hge => ?_)
  · refine PO.appRu x1.wf (ha'.ex u.wf x1) (by rw [x1.nro, u.nro]; exact hn) (Nat.le_trans hn2 (Nat.le_trans u.size x1.size)) hf' (by omega) fun out2 h2 b2 u2 f2 => .retL ⟨m - 1, by omega, k + 1, out2, h2, ?_, by omega, ?_, f2, (u.ex x1).trans u2 fun A _ e => e⟩
    · rw [w64 (n := (k : Int) + 1) (by omega) (by omega)]; rfl
    · rw [rowP_succ, ← List.append_assoc]; exact b2
  · have : k = (hcnt (szF zs 8 i)).toNat := by omega
    subst this
    exact .retR ⟨all', h1, rfl, ha'.ex u.wf x1, hf', u.ex x1, Box.kx x1 B'⟩
theorem inw_l1 {h h0 : H} (w : WF h) (x0 : EX h0 h) {sizes order : Sl} {b : Option Addr} {b1 : Nat} {zs : List Int} (hr : RdI .i64 h0 sizes zs) (hz : zs.length * 8 ≤ 140737488351232) (B : Box h b1 (szC zs 0)) (hb1 : h0.size ≤ b1) (hb2 : b1 + 1 = h.size) :
    PO (loopO law22_InWhole_l1 ((sizes, (order, (b, (⟨none, 0, 0⟩, (some ⟨b1, 0, some 0⟩, 0))))), h)) (fun r => ∃ all h', r = Sum.inl ((order, (b, (all, some ⟨b1, 0, some 0⟩))), h') ∧ BufR h' all (plK zs (min zs.length 8)) ∧ Fr h.size all ∧ UP (fun A => b1 ≤ A) h h' ∧ Box h' b1 (szC zs 8)) := by
  have hlen : sizes.len = zs.length := RdI.len hr
  have hnro := w.nro
  have hb1h : h.nro ≤ b1 := B.nro
  refine PO.loop (fun m st => ∃ (i : Nat) (all : Sl) (h' : H), st = ((sizes, (order, (b, (all, (some ⟨b1, 0, some 0⟩, (i : Int)))))), h') ∧ m + i = min zs.length 8 ∧ BufR h' all (plK zs i) ∧ Fr h.size all ∧ UP (fun A => b1 ≤ A) h h' ∧ Box h' b1 (szC zs i)) ?_ (min zs.length 8) _ ⟨0, ⟨none, 0, 0⟩, h, rfl, rfl, buf_nil 2 h, fr_nil _, UP.refl w, B⟩
  rintro m st ⟨i, all, h', rfl, hm, ha, hf, u, B'⟩
  unfold law22_InWhole_l1 P.law22_InWhole_l1
  have xx : EX h0 h' := u.ex0 x0 (fun A hA e => by omega)
  refine PO.join (fun q => q = ((sizes, (order, (b, (all, (some ⟨b1, 0, some 0⟩, ((i : Int), decide (i < min zs.length 8))))))), h')) ?_ ?_
  · refine .condD (fun c => .retL ?_) (fun c => .retL ?_)
    · have : decide ((i : Int) < 8) = decide (i < min zs.length 8) := decide_eq_decide.2 (by omega)
      rw [this]
    · rw [decide_eq_false (by omega)]
  rintro _ rfl
  refine .condD (fun hlt => ?_) (fun hge => ?_)
  rotate_left
  · have : i = min zs.length 8 := by omega
    refine .retR ⟨all, h', rfl, this ▸ ha, hf, u, ?_⟩
    have e : szC zs i = szC zs 8 := by
      unfold szC
      refine List.map_congr_left fun j hj => ?_
      have := List.mem_range.1 hj
      congr 1
      unfold szF
      by_cases h1 : 0 ≤ (j : Int) ∧ (j : Int) < (i : Nat) ∧ (j : Int) < zs.length
      · rw [if_pos h1, if_pos (by omega)]
      · rw [if_neg h1, if_neg (by omega)]
    rw [← e]; exact B'
  have hi : i < 8 ∧ i < zs.length := by omega
  refine PO.join (fun q => ∃ (all' : Sl) (h2 : H), q = ((sizes, (order, (b, (all', (some ⟨b1, 0, some 0⟩, (i : Int)))))), h2) ∧ BufR h2 all' (plK zs (i + 1)) ∧ Fr h.size all' ∧ UP (fun A => b1 ≤ A) h h2 ∧ Box h2 b1 (szC zs (i + 1))) ?_ ?_
  rotate_left
  · rintro _ ⟨all', h2, rfl, b2, f2, u2, B2⟩
    refine .retL ⟨m - 1, by omega, i + 1, all', h2, ?_, by omega, b2, f2, u2, B2⟩
    rw [w64 (n := (i : Int) + 1) (by omega) (by omega)]; rfl
  refine .ixI (j := (i : Int)) (Rd.ex xx hr) (by omega) (by omega) fun a ea => .op ea (.callE (pick_f _ 600 (by omega) (by omega) _) (.ptr (PO.ixA (by omega) (by omega) ?_)))
  rw [Nat.mul_one, Int.toNat_natCast]
  have hmod := Int.emod_nonneg (zs.getD i 0) (show (600 : Int) ≠ 0 by omega)
  have hmod2 := Int.emod_lt_of_pos (zs.getD i 0) (show (0 : Int) < 600 by omega)
  rw [w64 (n := 1 + zs.getD i 0 % 600) (by omega) (by omega)]
  refine PO.st1 B' u.wf (by rw [szC_len]; exact hi.1) rfl fun h3 B3 u3 z3 w3 => ?_
  rw [szC_set hi.1 hi.2] at B3
  have ha3 : BufR h3 all (plK zs i) := Buf.up u.wf ha u3 fun a ha e => by have := hf a ha; omega
  have hs3 := u.size
  refine (inw_l2 w3 (n := h.size) hi.1 hi.2 B3 (by omega) (by rw [u3.nro, u.nro]; omega) (by omega) ha3 hf).mono ?_
  rintro _ ⟨all', h4, rfl, b4, f4, u4, B4⟩
  exact ⟨all', h4, rfl, b4, f4, (u.trans u3 fun A _ e => by omega).trans u4 fun A _ e => by omega, B4⟩
end Go.Proofs.Ytaebjajbogedkaa.T
-- SEAT c
/- Chapter 22's law InWhole: its main loop. -/
set_option linter.unusedVariables false
set_option linter.unusedSimpArgs false
namespace Go.Proofs.Ytaebjajbogedkaa.T
open Go Go.Abs Go.Proofs
theorem inw_l4 {h : H} (w : WF h) {order : Sl} {b : Option Addr} {all : Sl} {size : Option Addr} {b3 : Nat} {done : Option Nat} {i : Int} {bx bh : Nat} {text ev : Sl} {a c : Int} {x : Hd} (Bh : Box h bh (hdL x)) (Bx : Box h bx [.int .i64 a, .int .i64 c]) {es : List ({ l : List Int // l.length = 2 } × Bool)} (M : MapG (EZB 2) h b3 es)
    {f : Int → Bool} (hf : ∀ k, (lookG ⟨[a, k], rfl⟩ es).getD false = f k) (hc : 0 ≤ x.2.2.1 ∧ x.2.2.1 ≤ 8) :
    PO (loopO law22_InWhole_l4 ((order, (b, (all, (size, (some b3, (done, (i, (some ⟨bx, 0, some 0⟩, (some ⟨bh, 0, some 0⟩, (text, (ev, (true, 0)))))))))))), h)) (fun r => r = Sum.inl ((order, (b, (all, (size, (some b3, (done, (i, (some ⟨bx, 0, some 0⟩, (text, (ev, allP f x.2.2.1.toNat)))))))))), h)) := by
  refine PO.loop (fun m st => ∃ k : Nat, st = ((order, (b, (all, (size, (some b3, (done, (i, (some ⟨bx, 0, some 0⟩, (some ⟨bh, 0, some 0⟩, (text, (ev, (allP f k, (k : Int))))))))))))), h) ∧ m + k = x.2.2.1.toNat) ?_ x.2.2.1.toNat _ ⟨0, rfl, rfl⟩
  rintro m st ⟨k, rfl, hk⟩
  unfold law22_InWhole_l4 P.law22_InWhole_l4
  refine .ptr (.ldI Bh rfl (.condD (fun hlt => ?_) (fun hge => ?_)))
  · refine PO.join (fun q => q = ((order, (b, (all, (size, (some b3, (done, (i, (some ⟨bx, 0, some 0⟩, (some ⟨bh, 0, some 0⟩, (text, (ev, (allP f (k + 1), (k : Int))))))))))))), h)) ?_ ?_
    · refine .cond (fun e => ?_) (fun e => ?_)
      · refine .ptr (.ldI Bx rfl (.op (lookZB M [a, (k : Int)] rfl) (.retL ?_)))
        rw [hf]
        simp only [allP, e, Bool.true_and]
      · refine .retL ?_
        simp only [allP, e, Bool.false_and]
    · rintro _ rfl
      refine .retL ⟨m - 1, by omega, k + 1, ?_, by omega⟩
      rw [w64 (n := (k : Int) + 1) (by omega) (by omega)]; rfl
  · have : k = x.2.2.1.toNat := by omega
    subst this
    exact .retR rfl
/-- what the main loop keeps -/
structure WInv (h0 : H) (n2 n3 p m b1 b3 b4 : Nat) (zs : List Int) (all : Sl) (pl : List Run) (Pr : Int → Int → Bool) (h : H) : Prop where
  ex0 : EX h0 h
  sz3 : n3 ≤ h.size
  box : Box h b1 (szC zs 8)
  all_ : RdR h all pl
  allb : ∀ a, all.base = some a → n2 ≤ a.block ∧ a.block < n3
  had : ∃ es, MapG (EZB 2) h b3 es ∧ ∀ a c, (lookG ⟨[a, c], rfl⟩ es).getD false = Pr a c
  don : ∃ es, MapG EIB h b4 es ∧ ∀ a, 1 ≤ szF zs 8 a → (lookG a es).getD false = allP (Pr a) (hcnt (szF zs 8 a)).toNat
  inb : ∃ l ws, InB h p m l ws ∧ CI (szF zs 8) Pr l ws ∧ ∀ A, keep p m ws A → h0.size ≤ A ∧ (A < n2 ∨ n3 ≤ A)
theorem WInv.ex {h0 h h1 : H} {n2 n3 p m b1 b3 b4 : Nat} {zs : List Int} {all : Sl} {pl : List Run} {Pr : Int → Int → Bool} (W : WInv h0 n2 n3 p m b1 b3 b4 zs all pl Pr h) (x : EX h h1) : WInv h0 n2 n3 p m b1 b3 b4 zs all pl Pr h1 := by
  obtain ⟨e1, M1, g1⟩ := W.had
  obtain ⟨e2, M2, g2⟩ := W.don
  obtain ⟨l, ws, I, C, k⟩ := W.inb
  exact ⟨W.ex0.trans x, Nat.le_trans W.sz3 x.size, Box.kx x W.box, W.all_.ex x, W.allb, ⟨e1, M1.ex x, g1⟩, ⟨e2, M2.ex x, g2⟩, ⟨l, ws, I.ex x, C, k⟩⟩
theorem WInv.nw {h0 h h1 : H} {n2 n3 p m b1 b3 b4 b : Nat} {zs : List Int} {all : Sl} {pl : List Run} {Pr : Int → Int → Bool} (W : WInv h0 n2 n3 p m b1 b3 b4 zs all pl Pr h) (N : NW b h h1) (hb : h0.size ≤ b) : WInv h0 n2 n3 p m b1 b3 b4 zs all pl Pr h1 := by
  obtain ⟨e1, M1, g1⟩ := W.had
  obtain ⟨e2, M2, g2⟩ := W.don
  obtain ⟨l, ws, I, C, k⟩ := W.inb
  exact ⟨N.ex0 W.ex0 hb, by rw [N.size]; exact W.sz3, NW.kb N W.box, NW.kr N W.all_, W.allb, ⟨e1, M1.nw N, g1⟩, ⟨e2, M2.nw N, g2⟩, ⟨l, ws, I.nw' N, C, k⟩⟩
end Go.Proofs.Ytaebjajbogedkaa.T
