/- Lemmas about the typed texts (joined: SPkt2 SRP1 SRP2). -/
import Derived.Test.YthiccnmplgdheaaG22
import Derived.Test.YthiccnmplgdheaaG12
import Derived.Test.YthiccnmplgdheaaG11
import Derived.Test.YthiccnmplgdheaaG23
set_option linter.unusedVariables false
set_option linter.unusedSimpArgs false
set_option maxRecDepth 100000
namespace Go.Proofs.Ythiccnmplgdheaa.T
open Go Go.Abs Go.Proofs
theorem RSameFrame_f {h : H} (w : WF h) {x y : F9} {v u : FV} (hx : FRd h x v) (hy : FRd h y u) (h1 : v.data.length <= 2 ^ 47) (h2 : v.spans.length <= 2 ^ 40) : PO (ref1_SameFrame x y h) (fun (a, h1) => a = decide (sameV v u) /\ EX h h1) := by
  unfold ref1_SameFrame
  obtain ⟨e1, e2, e3, e4, e5, e6, e7⟩ := hx.e
  obtain ⟨d1, d2, d3, d4, d5, d6, d7⟩ := hy.e
  refine PO.newB w fun g1 x1 B1 z1 w1 => PO.newB w1 fun g2 x2 B2 z2 w2 => ?_
  have C1 : Box g2 h.size (f9L x) := Box.kx x2 B1
  have C2 : Box g2 g1.size (f9L y) := B2
  have X := x1.trans x2
  have rx := hx.ex X
  have ry := hy.ex X
  have l1 := RdR.len rx.spans
  have l2 := RdR.len ry.spans
  refine PO.join (fun s => s = ((some ⟨h.size, 0, some 0⟩, (some ⟨g1.size, 0, some 0⟩, decide (¬ (v.kind = u.kind /\ v.id = u.id /\ v.off = u.off /\ v.a = u.a /\ v.b = u.b /\ v.fin = u.fin /\ v.data = u.data /\ v.spans.length = u.spans.length)))), g2)) ?_ ?_
  · have hb : ∀ {b : Bool}, (b = true ↔ ¬ (v.kind = u.kind /\ v.id = u.id /\ v.off = u.off /\ v.a = u.a /\ v.b = u.b /\ v.fin = u.fin /\ v.data = u.data /\ v.spans.length = u.spans.length)) -> (((some ⟨h.size, 0, some 0⟩ : Option Addr), ((some ⟨g1.size, 0, some 0⟩ : Option Addr), b)), g2) = ((some ⟨h.size, 0, some 0⟩, (some ⟨g1.size, 0, some 0⟩, decide (¬ (v.kind = u.kind /\ v.id = u.id /\ v.off = u.off /\ v.a = u.a /\ v.b = u.b /\ v.fin = u.fin /\ v.data = u.data /\ v.spans.length = u.spans.length)))), g2) := by
      intro b hh
      cases b with
      | true => rw [decide_eq_true (hh.1 rfl)]
      | false => rw [decide_eq_false (fun hn => by have := hh.2 hn; cases this)]
    refine .ldI C1 rfl (.ldI C2 rfl (.condNE (fun c => .retL (hb ?_)) (fun c1 => ?_)))
    · simp only [true_iff]; exact fun hh => c (by rw [e1, d1]; exact hh.1)
    refine .ldI C1 rfl (.ldI C2 rfl (.condNE (fun c => .retL (hb ?_)) (fun c2 => ?_)))
    · simp only [true_iff]; exact fun hh => c (by rw [e2, d2]; exact hh.2.1)
    refine .ldI C1 rfl (.ldI C2 rfl (.condNE (fun c => .retL (hb ?_)) (fun c3 => ?_)))
    · simp only [true_iff]; exact fun hh => c (by rw [e3, d3]; exact hh.2.2.1)
    refine .ldI C1 rfl (.ldI C2 rfl (.condNE (fun c => .retL (hb ?_)) (fun c4 => ?_)))
    · simp only [true_iff]; exact fun hh => c (by rw [e4, d4]; exact hh.2.2.2.1)
    refine .ldI C1 rfl (.ldI C2 rfl (.condNE (fun c => .retL (hb ?_)) (fun c5 => ?_)))
    · simp only [true_iff]; exact fun hh => c (by rw [e5, d5]; exact hh.2.2.2.2.1)
    refine .ldB C1 rfl (.ldB C2 rfl (.condN (fun c => .retL (hb ?_)) (fun c6 => ?_)))
    · simp only [true_iff]; exact fun hh => by rw [e7, d7, hh.2.2.2.2.2.1] at c; simp at c
    refine .ldL C1 rfl (.callE (strT_ok rx.data) (.ldL C2 rfl (.callE (strT_ok ry.data) ?_)))
    rw [bs_eq]
    refine .condND (fun c => .retL (hb ?_)) (fun c7 => .ldL C1 rfl (.ldL C2 rfl (.retL (hb ?_))))
    · simp only [true_iff]; exact fun hh => c hh.2.2.2.2.2.2.1
    · rw [e1, d1] at c1; rw [e2, d2] at c2; rw [e3, d3] at c3; rw [e4, d4] at c4; rw [e5, d5] at c5; rw [e7, d7] at c6
      rw [l1, l2, bne_iff_ne]
      have c6' : v.fin = u.fin := by simpa using c6
      constructor
      · intro hh hn; exact hh (by rw [hn.2.2.2.2.2.2.2])
      · intro hh hn; exact hh ⟨c1, c2, c3, c4, c5, c6', c7, by omega⟩
  rintro _ rfl
  refine .condD (fun c => .ret ⟨(decide_eq_false fun hh => c ⟨hh.1, hh.2.1, hh.2.2.1, hh.2.2.2.1, hh.2.2.2.2.1, hh.2.2.2.2.2.1, hh.2.2.2.2.2.2.1, by rw [hh.2.2.2.2.2.2.2]⟩).symm, X⟩) (fun c => ?_)
  obtain ⟨o1, o2, o3, o4, o5, o6, o7, o8⟩ := Decidable.byContradiction c
  refine PO.loop (fun m st => ∃ i : Nat, st = ((some ⟨h.size, 0, some 0⟩, (some ⟨g1.size, 0, some 0⟩, (i : Int))), g2) /\ m + i = v.spans.length /\ v.spans.take i = u.spans.take i) ?_ v.spans.length _ ⟨0, rfl, rfl, rfl⟩
  rintro m st ⟨i, rfl, hm, ht⟩
  unfold ref1_SameFrame_l1
  refine .ptr (.ldL C1 rfl (.condD (fun cc => ?_) (fun cc => ?_)))
  · have cc' : (i : Int) < ((x.2.2.2.2.2.2.2.2.len : Nat) : Int) := cc
    refine .ptr (.ldL C1 rfl (.ixR rx.spans (by omega) (by omega) fun a _ _ _ ea _ _ => .op ea (.ptr (.ldL C2 rfl (.ixR ry.spans (by omega) (by omega) fun a _ _ _ eb _ _ => .op eb ?_)))))
    simp only [Int.toNat_natCast]
    have t1 := take_succ_getD v.spans (0, 0) (i := i) (by omega)
    have t2 := take_succ_getD u.spans (0, 0) (i := i) (by omega)
    have heq : ((v.spans.getD i (0, 0)).1 == (u.spans.getD i (0, 0)).1 && ((v.spans.getD i (0, 0)).2 == (u.spans.getD i (0, 0)).2 && true)) = decide (v.spans.getD i (0, 0) = u.spans.getD i (0, 0)) := by
      generalize v.spans.getD i (0, 0) = p
      generalize u.spans.getD i (0, 0) = q
      obtain ⟨p1, p2⟩ := p
      obtain ⟨q1, q2⟩ := q
      by_cases hp : p1 = q1 <;> by_cases hq : p2 = q2 <;> simp [hp, hq]
    have goal : PO (condK (!decide (v.spans.getD i (0, 0) = u.spans.getD i (0, 0))) (some (Sum.inr (false, g2))) (some (Sum.inl (((some ⟨h.size, 0, some 0⟩ : Option Addr), ((some ⟨g1.size, 0, some 0⟩ : Option Addr), IntKind.wrap .i64 ((i : Int) + 1))), g2)))) (Sum.elim (fun s' => ∃ n', n' < m /\ ∃ i : Nat, s' = (((some ⟨h.size, 0, some 0⟩ : Option Addr), ((some ⟨g1.size, 0, some 0⟩ : Option Addr), (i : Int))), g2) /\ n' + i = v.spans.length /\ v.spans.take i = u.spans.take i) (fun (a, h1) => a = decide (sameV v u) /\ EX h h1)) := by
      refine .condND (fun hne => .retR ⟨(decide_eq_false fun hh => hne (by rw [hh.2.2.2.2.2.2.2])).symm, X⟩) (fun he => .retL ⟨m - 1, by omega, i + 1, ?_, by omega, ?_⟩)
      · rw [w64 (n := (i : Int) + 1) (by omega) (by omega)]; rfl
      · rw [t1, t2, ht, he]
    rw [<- heq] at goal
    exact goal
  · have cc' : ¬ (i : Int) < ((x.2.2.2.2.2.2.2.2.len : Nat) : Int) := cc
    have : i = v.spans.length := by omega
    subst this
    rw [List.take_of_length_le (Nat.le_refl _), o8, List.take_of_length_le (Nat.le_refl _)] at ht
    exact .retR ⟨(decide_eq_true ⟨o1, o2, o3, o4, o5, o6, o7, ht⟩).symm, X⟩
theorem RSameFrames_f {h : H} (w : WF h) {s t : Sl} {xs ys : List F9} {vs us : List FV} (r : RdF h s xs vs) (q : RdF h t ys us) (hn : vs.length <= 2 ^ 40) (hz : SzOK vs) : PO (ref1_SameFrames s t h) (fun (a, h1) => a = decide (sameFs vs us) /\ EX h h1) := by
  unfold ref1_SameFrames P.ref1_SameFrames
  have l1 := RdF.len r
  have l2 := RdF.len q
  refine .condNE (fun hne => .ret ⟨(decide_eq_false fun hh => ?_).symm, EX.refl w⟩) (fun he => ?_)
  · exact hne (by rw [l1, l2, sameFs_len hh])
  have hll : vs.length = us.length := by omega
  refine PO.loop (fun m st => ∃ (i : Nat) (h' : H), st = ((s, (t, (i : Int))), h') /\ m + i = vs.length /\ EX h h' /\ (sameFs vs us ↔ sameFs (vs.drop i) (us.drop i))) ?_ vs.length _ ⟨0, h, rfl, rfl, EX.refl w, Iff.rfl⟩
  rintro m st ⟨i, h', rfl, hm, hx, ht⟩
  unfold P.ref1_SameFrames_l1
  refine .condD (fun c => ?_) (fun c => ?_)
  · have c' : (i : Int) < ((s.len : Nat) : Int) := c
    have hil : i < vs.length := by omega
    rw [sameFs_drop hil (by omega)] at ht
    refine PO.ixF (r.ex hx) (by omega) (by omega) fun a _ _ _ e1 fr => .op e1 ?_
    simp only [Int.toNat_natCast] at fr ⊢
    have hv := hz _ (getD_mem vs fv0 hil)
    generalize vs.getD i fv0 = v at *
    generalize xs.getD i f90 = x at *
    refine PO.ixF (q.ex hx) (by omega) (by omega) fun a _ _ _ e2 fq => .op e2 ?_
    simp only [Int.toNat_natCast] at fq ⊢
    generalize us.getD i fv0 = u at *
    generalize ys.getD i f90 = y at *
    refine PO.call (RSameFrame_f hx.wf fr fq hv.1 hv.2) fun a h4 ⟨ea, x4⟩ => ?_
    subst ea
    refine .condND (fun hy => .retR ⟨(decide_eq_false fun hh => hy (ht.1 hh).1).symm, hx.trans x4⟩) (fun hy => .retL ⟨m - 1, by omega, i + 1, h4, ?_, by omega, hx.trans x4, ?_⟩)
    · rw [w64 (by omega) (by omega)]; rfl
    · exact ht.trans ⟨fun hh => hh.2, fun hh => ⟨hy, hh⟩⟩
  · have c' : ¬ (i : Int) < ((s.len : Nat) : Int) := c
    have : i = vs.length := by omega
    subst this
    refine .retR ⟨(decide_eq_true (ht.2 ?_)).symm, hx⟩
    rw [List.drop_length, hll, List.drop_length]
    trivial
theorem sp_pow (k : Nat) (h1 : 1 <= k) (h2 : k <= 4) : sp (k : Int) = ((256 ^ k : Nat) : Int) := by
  rcases (by omega : k = 1 \/ k = 2 \/ k = 3 \/ k = 4) with rfl | rfl | rfl | rfl <;> rfl
set_option maxRecDepth 100000
theorem modulo_f (a m : Int) (hp : 0 < m) (h2 : m <= 4611686018427387904) (h : H) : ref1_modulo a m h = some (a % m, h) := by
  have h3 := tmod_pos a m hp
  have h5 := Int.tmod_eq_emod (a := a) (b := m)
  have h6 := Int.emod_nonneg a (Int.ne_of_gt hp)
  have h7 := Int.emod_lt_of_pos a hp
  have hx : 0 <= Int.tmod a m + m /\ Int.tmod a m + m < 2 * m := by split at h3 <;> omega
  have hy : Int.tmod (Int.tmod a m + m) m = a % m := by
    rw [Int.tmod_eq_emod_of_nonneg hx.1, Int.add_emod_right]
    split at h3
    · have : Int.tmod a m = a % m - m := by omega
      rw [this, Int.sub_emod_right, Int.emod_emod_of_dvd _ (Int.dvd_refl m)]
    · rw [h3, Int.emod_emod_of_dvd _ (Int.dvd_refl m)]
  unfold ref1_modulo
  rw [remT_ok _ _ (by omega)]
  simp only [bindO_some]
  rw [w64 (n := Int.tmod a m + m) (by omega) (by omega), remT_ok _ _ (by omega)]
  simp only [bindO_some]
  rw [hy]
theorem within_f (n lo hi : Int) (h1 : lo <= n) (h2 : n <= hi) (h : H) : ref1_Within n lo hi h = some (n, h) := by
  unfold ref1_Within
  have e : (if (if n < hi then n else hi) > lo then (if n < hi then n else hi) else lo) = n := by
    split <;> (split <;> omega)
  simp only [letO_eq, e]
theorem radix_f (k : Int) (h1 : 1 <= k) (h2 : k <= 4) (h : H) : ref1_radix k h = some (sp k, h) := by
  unfold ref1_radix P.ref1_radix
  rw [within_f k 1 4 h1 h2, bind2_some]
  simp only
  rw [sp_shl k h1 h2]; rfl
/-- the reference's choice, one number more -/
def stB (next best n : Int) : Int :=
  if 0 <= n /\ n <= 4611686018427387903 then
    (if best < 0 \/ (if next - n > n - next then next - n else n - next) < (if next - best > best - next then next - best else best - next) \/ ((if next - n > n - next then next - n else n - next) = (if next - best > best - next then next - best else best - next) /\ n > best) then n else best)
  else best
theorem back_step {next m best at' i q : Int} (h0 : 0 <= next /\ next <= 4611686018427387903) (h1 : -1 <= best /\ best <= 4611686018427387903) (h2 : -4294967296 <= at' /\ at' <= 4611686018427387903) (hi : i < 3) (hi2 : -1 <= i) (hq : i * m = q) (h3 : -4294967296 <= q /\ q <= 8589934592) (h : H) :
    PO (ref1_Back_l1 ((next, (m, (best, (at', i)))), h)) (fun r => r = Sum.inl ((next, (m, (stB next best (at' + q), (at', i + 1)))), h)) := by
  unfold ref1_Back_l1 P.ref1_Back_l1
  refine .condD (fun _ => ?_) (fun c => absurd hi c)
  refine PO.join (fun st => st = ((next, (m, (stB next best (at' + q), (at', i)))), h)) ?_ (fun st hst => by subst hst; dsimp only; rw [w64 (n := i + 1) (by omega) (by omega)]; exact .ret rfl)
  dsimp only
  rw [hq, w64 (n := q) (by omega) (by omega), w64 (n := at' + q) (by omega) (by omega)]
  generalize at' + q = n at *
  refine .callE (may_f _ _) (.condND (fun hn => .retL ?_) (fun hn => ?_))
  · unfold stB; unfold okN at hn; rw [if_neg hn]
  have hn' := hn
  unfold okN at hn'
  rw [w64 (n := n - next) (by omega) (by omega), w64 (n := next - n) (by omega) (by omega), w64 (n := next - best) (by omega) (by omega), w64 (n := best - next) (by omega) (by omega)]
  refine .letO (.letO ?_)
  refine PO.join (fun st => ∃ b : Bool, st = ((next, (m, (best, (at', (i, (n, b)))))), h) /\ (b = true ↔ (best < 0 \/ (if next - n > n - next then next - n else n - next) < (if next - best > best - next then next - best else best - next) \/ ((if next - n > n - next then next - n else n - next) = (if next - best > best - next then next - best else best - next) /\ n > best)))) ?_ ?_
  · refine .condD (fun c => .retL ⟨true, rfl, by simp [c]⟩) (fun c => .letO (.condD (fun c2 => .retL ⟨true, rfl, ?_⟩) (fun c2 => .letO (.condE (fun c3 => .letO (.retL ⟨_, rfl, ?_⟩)) (fun c3 => .retL ⟨false, rfl, ?_⟩)))))
    · simp only [true_iff]; exact .inr (.inl c2)
    · rw [decide_eq_true_eq]
      exact ⟨fun hh => .inr (.inr ⟨c3, hh⟩), fun hh => by rcases hh with hh | hh | hh; exact absurd hh c; exact absurd hh c2; exact hh.2⟩
    · simp only [Bool.false_eq_true, false_iff]
      rintro (hh | hh | hh)
      · exact c hh
      · exact c2 hh
      · exact c3 hh.1
  rintro _ ⟨b, rfl, hb⟩
  dsimp only
  unfold stB
  rw [if_pos hn']
  refine .cond (fun c => .retL ?_) (fun c => .retL ?_)
  · rw [if_pos (hb.1 c)]
  · rw [if_neg (fun hh => by rw [hb.2 hh] at c; cases c)]
theorem stB_rng {next best n : Int} (h : -1 <= best /\ best <= 4611686018427387903) : -1 <= stB next best n /\ stB next best n <= 4611686018427387903 := by
  unfold stB; split
  · split <;> omega
  · exact h
theorem stB_bk (cut s next : Int) (hs : 0 < s) (hs2 : s <= 4294967296) (hn : 0 <= next /\ next <= 4611686018427387903) : stB next (stB next (stB next (stB next (-1) (next - (next - cut % s) % s + -s)) (next - (next - cut % s) % s + 0)) (next - (next - cut % s) % s + s)) (next - (next - cut % s) % s + 2 * s) = bk cut s next := by
  have e1 : (next - cut % s) % s = (next - cut) % s := by rw [Int.sub_emod, Int.emod_emod_of_dvd _ (Int.dvd_refl s), <- Int.sub_emod]
  rw [e1]
  unfold bk
  have r1 := Int.emod_nonneg (next - cut) (Int.ne_of_gt hs)
  have r2 := Int.emod_lt_of_pos (next - cut) hs
  have e2 : (cut - next) % s = if (next - cut) % s = 0 then 0 else s - (next - cut) % s := by
    have h1 : cut - next = -(next - cut) := by omega
    rw [h1]
    split
    · rename_i h0
      exact Int.emod_eq_zero_of_dvd (Int.dvd_neg.2 (Int.dvd_of_emod_eq_zero h0))
    · rename_i h0
      have h2 : (-(next - cut)) % s = (s - (next - cut) % s) % s := by
        rw [<- Int.emod_add_mul_ediv (next - cut) s]
        generalize hq : (next - cut) / s = q
        generalize hr : (next - cut) % s = r
        rw [Int.add_mul_emod_self_left, show -(r + s * q) = (s - r) + s * (-1 - q) by rw [Int.mul_sub]; omega, Int.add_mul_emod_self_left]
        rw [<- hr, Int.emod_emod_of_dvd _ (Int.dvd_refl s)]
      rw [h2, Int.emod_eq_of_lt (by omega) (by omega)]
  rw [e2]
  generalize (next - cut) % s = r at *
  have k1 : stB next (-1) (next - r + -s) = if 0 <= next - r + -s then next - r + -s else -1 := by
    unfold stB
    by_cases c : 0 <= next - r + -s
    · rw [if_pos ⟨c, by omega⟩, if_pos (.inl (by omega)), if_pos c]
    · rw [if_neg (fun hh => c hh.1), if_neg c]
  have k2 : stB next (if 0 <= next - r + -s then next - r + -s else -1) (next - r + 0) = if 0 <= next - r then next - r else -1 := by
    unfold stB
    by_cases c : 0 <= next - r
    · rw [if_pos ⟨by omega, by omega⟩, if_pos, if_pos c]
      · omega
      · by_cases c1 : 0 <= next - r + -s
        · rw [if_pos c1]; right; left
          split <;> split <;> omega
        · rw [if_neg c1]; left; omega
    · rw [if_neg (fun hh => c (by have := hh.1; omega)), if_neg c, if_neg (by omega)]
  have k3 : stB next (if 0 <= next - r then next - r else -1) (next - r + s) = if next - r + s <= 4611686018427387903 then (if next < r then next - r + s else if s - r <= r then next - r + s else next - r) else next - r := by
    unfold stB
    by_cases c : next - r + s <= 4611686018427387903
    · rw [if_pos ⟨by omega, c⟩, if_pos c]
      by_cases c1 : next < r
      · rw [if_pos c1, if_neg (show ¬ 0 <= next - r by omega), if_pos (.inl (by omega))]
      · rw [if_neg c1, if_pos (show 0 <= next - r by omega)]
        have d1 : (if next - (next - r + s) > next - r + s - next then next - (next - r + s) else next - r + s - next) = s - r := by split <;> omega
        have d2 : (if next - (next - r) > next - r - next then next - (next - r) else next - r - next) = r := by split <;> omega
        rw [d1, d2]
        by_cases c2 : s - r <= r
        · rw [if_pos c2, if_pos (by omega)]
        · rw [if_neg c2, if_neg (by omega)]
    · rw [if_neg (fun hh => c hh.2), if_neg c, if_pos (by omega)]
  have k4 : ∀ R : Int, R = (if next - r + s <= 4611686018427387903 then (if next < r then next - r + s else if s - r <= r then next - r + s else next - r) else next - r) -> stB next R (next - r + 2 * s) = R := by
    intro R hR
    unfold stB
    by_cases c : next - r + 2 * s <= 4611686018427387903
    · rw [if_pos ⟨by omega, c⟩, if_neg]
      rw [if_pos (by omega)] at hR
      have d1 : (if next - (next - r + 2 * s) > next - r + 2 * s - next then next - (next - r + 2 * s) else next - r + 2 * s - next) = 2 * s - r := by split <;> omega
      rw [d1]
      have hR2 : 0 <= R /\ next - R < 2 * s - r /\ R - next < 2 * s - r := by
        rw [hR]
        split
        · omega
        · split <;> omega
      have d2 : (if next - R > R - next then next - R else R - next) < 2 * s - r := by split <;> omega
      omega
    · rw [if_neg (fun hh => c hh.2)]
  rw [k1, k2, k3, k4 _ rfl]
  by_cases h0 : r = 0
  · subst h0
    simp only [if_true]
    rw [if_neg (show ¬ next < 0 by omega), if_neg (show ¬ s - 0 <= 0 by omega)]
    split <;> (split <;> (try split) <;> (try split) <;> omega)
  · rw [if_neg h0]
    by_cases c1 : next < r
    · rw [if_pos c1, if_pos (by omega), if_pos (by omega)]; omega
    · rw [if_neg c1, if_neg (show ¬ next + (s - r) - s < 0 by omega)]
      by_cases c2 : next - r + s <= 4611686018427387903
      · rw [if_pos c2, if_pos (show next + (s - r) <= 4611686018427387903 by omega)]
        by_cases c3 : s - r <= r
        · rw [if_pos c3, if_pos (show s - r <= s - (s - r) by omega)]; omega
        · rw [if_neg c3, if_neg (show ¬ s - r <= s - (s - r) by omega)]; omega
      · rw [if_neg c2, if_neg (show ¬ next + (s - r) <= 4611686018427387903 by omega)]; omega
theorem RBack_f (cut k next : Int) (h1 : 1 <= k) (h2 : k <= 4) (hx : 0 <= next) (hx2 : next <= 4611686018427387903) (h : H) : PO (ref1_Back cut k next h) (fun a => a = (bk cut (sp k) next, h)) := by
  have hp := sp_pos k
  have hs := stB_bk cut (sp k) next hp.1 hp.2 ⟨hx, hx2⟩
  unfold ref1_Back P.ref1_Back
  refine .callE (radix_f k h1 h2 h) (.callE (within_f next 0 _ hx hx2 h) (.callE (modulo_f cut _ hp.1 (by omega) h) ?_))
  have e1 := emod_b cut hp.1
  rw [w64 (n := next - cut % sp k) (by omega) (by omega)]
  refine .callE (modulo_f _ _ hp.1 (by omega) h) ?_
  have e2 := emod_b (next - cut % sp k) hp.1
  rw [w64 (n := next - (next - cut % sp k) % sp k) (by omega) (by omega)]
  generalize (next - cut % sp k) % sp k = r at *
  generalize sp k = s at *
  generalize ha : next - r = at' at *
  have b0 : (-1 : Int) <= -1 /\ (-1 : Int) <= 4611686018427387903 := by omega
  have b1 := stB_rng (next := next) (n := at' + -s) b0
  have b2 := stB_rng (next := next) (n := at' + 0) b1
  have b3 := stB_rng (next := next) (n := at' + s) b2
  refine PO.joinD ?_
  refine PO.loop1 ((back_step (m := s) (q := -s) ⟨hx, hx2⟩ b0 (by omega) (by omega) (by omega) (by omega) (by omega) h).mono ?_)
  rintro _ rfl
  refine PO.loop1 ((back_step (m := s) (i := -1 + 1) (q := 0) ⟨hx, hx2⟩ b1 (by omega) (by omega) (by omega) (by omega) (by omega) h).mono ?_)
  rintro _ rfl
  refine PO.loop1 ((back_step (m := s) (i := -1 + 1 + 1) (q := s) ⟨hx, hx2⟩ b2 (by omega) (by omega) (by omega) (by omega) (by omega) h).mono ?_)
  rintro _ rfl
  refine PO.loop1 ((back_step (m := s) (i := -1 + 1 + 1 + 1) (q := 2 * s) ⟨hx, hx2⟩ b3 (by omega) (by omega) (by omega) (by omega) (by omega) h).mono ?_)
  rintro _ rfl
  refine PO.loop1 ?_
  rw [hs]
  unfold P.ref1_Back_l1
  exact .condD (fun c => absurd c (by decide)) (fun c => .retR (PO.ret (b := (bk cut s next, h)) rfl))
theorem RBytes_f (n a : Int) (h1 : a < n) (h2 : n - a < 9223372036854775808) (h : H) : ref1_Bytes n a h = some (nb (n - a), h) := by
  have hd : IntKind.wrap .u64 (IntKind.wrap .u64 n - IntKind.wrap .u64 a) = n - a := by
    rw [wu64_mod, wu64_mod, wu64_mod]; omega
  have t1 : shlT .u64 1 .u64 (IntKind.wrap .u64 (IntKind.wrap .i64 (IntKind.wrap .i64 (8 * 1) - 1))) = some 128 := by decide +kernel
  have t2 : shlT .u64 1 .u64 (IntKind.wrap .u64 (IntKind.wrap .i64 (IntKind.wrap .i64 (8 * 2) - 1))) = some 32768 := by decide +kernel
  have t3 : shlT .u64 1 .u64 (IntKind.wrap .u64 (IntKind.wrap .i64 (IntKind.wrap .i64 (8 * 3) - 1))) = some 8388608 := by decide +kernel
  have hle : ¬ n <= a := by omega
  unfold ref1_Bytes nb
  rw [loopO_eq]
  simp only [ref1_Bytes_l1, condK_eq, decide_eq_true_eq, hle, if_false, letO_eq, hd, t1, bindO_some, joinO_inl, show (1 : Int) < 4 by omega, if_true]
  by_cases c1 : n - a <= 128
  · simp [c1]
  simp only [c1, if_false]
  rw [w64 (by omega) (by omega), loopO_eq]
  simp only [ref1_Bytes_l1, condK_eq, decide_eq_true_eq, hle, if_false, letO_eq, hd, show (1 : Int) + 1 = 2 by omega, t2, bindO_some, joinO_inl, show (2 : Int) < 4 by omega, if_true]
  by_cases c2 : n - a <= 32768
  · simp [c2]
  simp only [c2, if_false]
  rw [w64 (by omega) (by omega), loopO_eq]
  simp only [ref1_Bytes_l1, condK_eq, decide_eq_true_eq, hle, if_false, letO_eq, hd, show (2 : Int) + 1 = 3 by omega, t3, bindO_some, joinO_inl, show (3 : Int) < 4 by omega, if_true]
  by_cases c3 : n - a <= 8388608
  · simp [c3]
  simp only [c3, if_false]
  rw [w64 (by omega) (by omega), loopO_eq]
  simp only [ref1_Bytes_l1, condK_eq, decide_eq_true_eq, show (3 : Int) + 1 = 4 by omega, show ¬ (4 : Int) < 4 by omega, if_false]
theorem RRoom_f (num acked : Int) (h1 : acked < num) (h2 : num - acked < 9223372036854775808) (h : H) : ref1_Room num acked h = some (231 - nb (num - acked), h) := by
  unfold ref1_Room P.ref1_Room
  have hnb := nb_rng (num - acked)
  rw [RBytes_f num acked h1 h2, bind2_some]
  simp only
  rw [w64 (n := 231 - nb (num - acked)) (by omega) (by omega)]
theorem be_mod {m : Nat} : ∀ (j x : Nat), j <= m -> be j (x % 256 ^ m) = be j x
  | 0, x, h => rfl
  | j + 1, x, h => by
    unfold be
    rw [be_mod j x (by omega)]
    congr 1
    apply UInt8.toNat_inj.1
    rw [UInt8.toNat_ofNat', UInt8.toNat_ofNat']
    obtain ⟨d, rfl⟩ : ∃ d, m = j + 1 + d := ⟨m - (j + 1), by omega⟩
    have e : 256 ^ (j + 1 + d) = 256 ^ j * (256 * 256 ^ d) := by rw [Nat.pow_add, Nat.pow_succ, Nat.mul_assoc]
    rw [e, Nat.mod_mul, Nat.add_mul_div_left _ _ (Nat.pow_pos (by omega)), Nat.div_eq_of_lt (Nat.mod_lt _ (Nat.pow_pos (by omega))), Nat.zero_add]
    rw [Nat.mod_mod_of_dvd _ (Nat.dvd_mul_right 256 (256 ^ d))]
theorem RheadOf_f {h : H} (w : WF h) (num : Int) (kn : Nat) (h1 : 1 <= kn) (h2 : kn <= 4) (h3 : 0 <= num) : PO (ref1_headOf num (kn : Int) h) (fun (a, h1) => BufB h1 a (headV num (kn : Int)) /\ EX h h1 /\ Fr h.size a) := by
  unfold ref1_headOf
  have hw : IntKind.wrap .u8 (IntKind.wrap .i64 (63 + (kn : Int))) = ((UInt8.ofNat (63 + (kn : Int)).toNat).toNat : Int) := by
    rcases (by omega : kn = 1 \/ kn = 2 \/ kn = 3 \/ kn = 4) with rfl | rfl | rfl | rfl <;> decide
  rw [hw]
  have hsp := sp_pow kn h1 h2
  have hmod : (num % sp (kn : Int)).toNat = num.toNat % 256 ^ kn := by
    rw [hsp]; obtain ⟨n, rfl⟩ : ∃ n : Nat, num = n := ⟨num.toNat, by omega⟩
    rw [Int.toNat_natCast, <- Int.natCast_emod, Int.toNat_natCast]
  have hhead : headV num (kn : Int) = UInt8.ofNat (63 + (kn : Int)).toNat :: be kn num.toNat := by
    unfold headV
    rw [hmod, Int.toNat_natCast, be_mod kn _ (Nat.le_refl _)]
  rw [w64 (n := (kn : Int) - 1) (by omega) (by omega)]
  refine PO.newB (l := vB [UInt8.ofNat (63 + (kn : Int)).toNat]) w fun g1 x1 B1 z1 w1 => ?_
  have b1 : BufB g1 ⟨some ⟨h.size, 0, some 0⟩, 1, 1⟩ [UInt8.ofNat (63 + (kn : Int)).toNat] := Box.buf (n := 1) B1 w1 rfl (by unfold B63; omega)
  refine PO.joinD (PO.mono (P := fun r => ∃ out h', r = Sum.inl (out, h') /\ BufB h' out (headV num (kn : Int)) /\ EX h h' /\ Fr h.size out) ?_ ?_)
  · refine PO.loop (fun m st => ∃ (out : Sl) (l : List UInt8) (h' : H), st = ((num, (out, (m : Int) - 1)), h') /\ m <= 4 /\ BufB h' out l /\ EX h h' /\ Fr h.size out /\ l.length <= 6 - m /\ l ++ be m num.toNat = headV num (kn : Int)) ?_ kn _ ⟨_, _, g1, rfl, h2, b1, x1, fr_new h _ _, by simp; omega, by rw [hhead]; rfl⟩
    rintro m st ⟨out, l, h', rfl, hm4, hb, hx, hf, hl, hh⟩
    unfold ref1_headOf_l1
    cases m with
    | zero =>
      refine .condD (fun cc => absurd cc (by simp)) (fun cc => .retR ⟨out, h', rfl, ?_, hx, hf⟩)
      rw [<- hh]; simpa [be] using hb
    | succ m =>
      refine .condD (fun cc => ?_) (fun cc => absurd (show ((m + 1 : Nat) : Int) - 1 >= 0 by omega) cc)
      obtain ⟨y, e1, e2⟩ := byte_atk .u64 (x := num) h3 m (by omega)
      rw [show ((m + 1 : Nat) : Int) - 1 = (m : Int) by omega, w64 (n := 8 * (m : Int)) (by omega) (by omega), wu64 (n := 8 * (m : Int)) (by omega) (by omega)]
      refine .op e1 (PO.appB1 e2 hb hx hf (by omega) fun out1 h2 b2 x2 f2 => .retL ⟨m, by omega, out1, _, h2, ?_, by omega, b2, x2, f2, by simp; omega, ?_⟩)
      · rw [w64 (by omega) (by omega)]
      · rw [<- hh, List.append_assoc]; rfl
  · rintro _ ⟨out, h', rfl, hb, hx, hf⟩
    exact .ret ⟨hb, hx, hf⟩
theorem RLayPacket_f {h : H} (w : WF h) {key num acked : Int} (hk : U64 key) {s : Sl} {xs : List F9} {vs : List FV} (r : RdF h s xs vs) (hn : vs.length <= 2 ^ 30) (hz : SzOK vs) :
    PO (ref1_LayPacket key num acked s h) (fun (a, h1) => EX h h1 /\ BytesQ h1 a (pktLay key num acked vs)) := by
  unfold ref1_LayPacket P.ref1_LayPacket pktLay
  refine PO.join (fun st => st = ((key, (num, (acked, (s, decide (¬ pktOK num acked))))), h)) ?_ ?_
  · refine .callE (may_f _ _) (.condND (fun c => .retL ?_) (fun c => .condD (fun c3 => .retL ?_) (fun c3 => .retL ?_)))
    · rw [decide_eq_true (show ¬ pktOK num acked from fun hh => c (by unfold okN; have := hh.1; have := hh.2.1; omega))]
    · rw [decide_eq_true (show ¬ pktOK num acked from fun hh => hh.2.2.1 c3)]
    · unfold okN at c
      have : (acked >= num) ↔ ¬ pktOK num acked := ⟨fun hh hx => hx.2.2.2 hh, fun hh => Decidable.byContradiction fun hx => hh ⟨by omega, by omega, c3, hx⟩⟩
      rw [decide_eq_decide.2 this]
  rintro _ rfl
  refine .condD (fun c => ?_) (fun c => ?_)
  · rw [if_pos c]; exact .ret ⟨EX.refl w, rfl⟩
  have ok : pktOK num acked := Decidable.byContradiction c
  rw [if_neg c]
  obtain ⟨o1, o2, o3, o4⟩ := ok
  refine PO.call (RLayFrames_f w r hn hz) fun a h1 ⟨x1, ha⟩ => ?_
  by_cases hall : ∀ v ∈ vs, FR v
  · rw [if_pos hall] at ha
    rw [if_neg (fun hh => hh hall)]
    obtain ⟨s1, e1⟩ := a
    obtain ⟨rb, he⟩ := ha
    have he' : e1 = 0 := he
    subst he'
    have rb' : RdB h1 s1 (layFs vs) := rb
    have hsl := RdB.len rb'
    have hll := layFs_length hall
    have hnb := nb_rng (num - acked)
    have hpl := pktB_length key num acked vs
    refine .condNE (fun hh => absurd rfl hh) (fun _ => .callE (RRoom_f num acked (by omega) (by omega) _) ?_)
    refine .condD (fun c => ?_) (fun c => ?_)
    · have c' : ((s1.len : Nat) : Int) > 231 - nb (num - acked) := c
      rw [if_pos (by omega)]
      exact .ret ⟨x1, rfl⟩
    have c' : ¬ ((s1.len : Nat) : Int) > 231 - nb (num - acked) := c
    rw [if_neg (by omega)]
    refine .callE (RBytes_f num acked (by omega) (by omega) _) ?_
    obtain ⟨kn, hkn⟩ : ∃ kn : Nat, nb (num - acked) = (kn : Int) := ⟨(nb (num - acked)).toNat, by omega⟩
    have hpb : pktB key num acked vs = headV num (kn : Int) ++ closeV key num (headV num (kn : Int)) (layFs vs) := by unfold pktB; rw [hkn]
    rw [hpb]
    rw [hkn]
    refine PO.call (RheadOf_f x1.wf num kn (by omega) (by omega) (by omega)) fun s2 h2 ⟨b2, x2, f2⟩ => ?_
    have hhl := headV_length num (kn : Int)
    refine PO.newB x2.wf fun h3 x3 B3 z3 w3 => ?_
    have b3 : BufB h3 ⟨some ⟨h2.size, 0, some 0⟩, 0, 0⟩ [] := Box.buf (sz := 1) (n := 0) B3 w3 rfl (by unfold B63; omega)
    obtain ⟨s4, h4, e4, k4, x4, b4, _, f4⟩ := appB_ok (e := 5) w3 b3 (b2.rd.ex x3) (by simp; omega)
    have y4 : EX h2 h4 := x4 h2 x3 (fun a ha => by cases ha; exact Nat.le_refl _)
    have fr4 := f4 h2.size x3.size (fun a ha => by cases ha; exact Nat.le_refl _)
    rw [List.nil_append] at b4
    refine .callE e4 (PO.call (RClose_po (num := num) y4.wf (b2.rd.ex y4) ((rb'.ex x2).ex y4) (by omega) (by omega) hk) fun s5 h5 ⟨x5, r5⟩ => ?_)
    have hcl := closeV_length key num (headV num (kn : Int)) (layFs vs)
    obtain ⟨s6, h6, e6, k6, x6, b6, _, f6⟩ := appB_ok (e := 5) x5.wf (b4.ex y4.wf x5) r5 (by omega)
    exact .callE e6 (.ret ⟨(x1.trans x2).trans (x6 _ (y4.trans x5) fr4), b6.rd, rfl⟩)
  · rw [if_neg hall] at ha
    rw [if_pos hall]
    obtain ⟨s1, e1⟩ := a
    obtain ⟨rb, he⟩ := ha
    have he' : e1 = 1 := he
    subst he'
    exact .condNE (fun _ => .ret ⟨x1, rfl⟩) (fun hh => absurd hh (by decide))
set_option maxRecDepth 100000
def RReadQ (h1 : H) (a : Sl × Int) : Int ⊕ List FV -> Prop
  | .inl _ => a.2 ≠ 0
  | .inr vs => (∃ xs, RdF h1 a.1 xs vs) /\ a.2 = 0
theorem RReadFrames_f {h : H} (w : WF h) {s : Sl} {l : List UInt8} (hr : RdB h s l) (hl : l.length <= 2 ^ 38) : PO (ref1_ReadFrames s h) (fun (a, h1) => EX h h1 /\ RReadQ h1 a (pRead l.length l)) := by
  unfold ref1_ReadFrames P.ref1_ReadFrames
  refine PO.newB w fun g1 x1 B1 z1 w1 => ?_
  have b1 : BufB g1 ⟨some ⟨h.size, 0, some 0⟩, 0, 0⟩ [] := Box.buf (sz := 1) (n := 0) B1 w1 rfl (by unfold B63; omega)
  obtain ⟨s2, g2, e2, k2, x2, b2, _, f2⟩ := appB_ok (e := 5) w1 b1 (hr.ex x1) (by simp; omega)
  have y2 : EX h g2 := x2 h x1 (fun a ha => by cases ha; exact Nat.le_refl _)
  rw [List.nil_append] at b2
  refine .callE e2 ?_
  generalize hF : pRead l.length l = F
  refine PO.joinD (PO.loop (fun m st => ∃ (l' : List UInt8) (out rest : Sl) (h' : H) (xs : List F9) (vs : List FV) (n : Nat), st = ((out, rest), h') /\ m = l'.length /\ RdB h' rest l' /\ Buf 9 h' out (fsV xs) /\ FRs h' xs vs /\ Fr h.size out /\ EX h h' /\ l'.length <= n /\ F = consV vs (pRead n l') /\ vs.length + l'.length <= l.length) ?_ l.length _ ⟨l, _, s2, g2, [], [], l.length, rfl, rfl, b2.rd, buf_nil 9 g2, trivial, fr_nil _, y2, Nat.le_refl _, ?_, by simp⟩)
  rotate_left
  · rw [hF]; cases F <;> simp [consV]
  rintro m st ⟨l', out, rest, h', xs, vs, n, rfl, rfl, hrd, hbuf, hfr, hf, hx, hn, hF', hvl⟩
  unfold P.ref1_ReadFrames_l1
  have hsl := RdB.len hrd
  refine .condD (fun c => ?_) (fun c => .retR ?_)
  · have hpos : 0 < l'.length := by have c' : ((rest.len : Nat) : Int) > 0 := c; omega
    refine PO.call (ref1_read_f hx.wf hrd (by omega)) fun a h1 ⟨x1', hq⟩ => ?_
    obtain ⟨y, s1, e1⟩ := a
    obtain ⟨n', hn'⟩ : ∃ n', n = n' + 1 := ⟨n - 1, by omega⟩
    subst hn'
    obtain ⟨cc, t, hct⟩ : ∃ cc t, l' = cc :: t := by
      cases l' with
      | nil => simp at hpos
      | cons cc t => exact ⟨cc, t, rfl⟩
    have hpr : pRead (n' + 1) l' = match pFrame l' with
        | .inl e => .inl e
        | .inr (v, r) => match pRead n' r with
          | .inl e => .inl e
          | .inr vs => .inr (v :: vs) := by subst hct; rfl
    refine PO.boxF rfl x1'.wf fun h3 x3 B3 z3 => ?_
    cases hp : pFrame l' with
    | inl e =>
      rw [hp] at hq
      have hq' : e1 ≠ 0 := hq
      refine .condNE (fun hne => .retR ⟨(hx.trans x1').trans x3, ?_⟩) (fun he => absurd he hq')
      rw [hF', hpr, hp]; exact hq'
    | inr q =>
      obtain ⟨v, r⟩ := q
      rw [hp] at hq
      obtain ⟨q1, q2, q3⟩ := hq
      have q1' : e1 = 0 := q1
      have q2' : FRd h1 y v := q2
      have q3' : RdB h1 s1 r := q3
      have hlt := pFrame_lt hp
      have hfl := hfr.len
      have x03 := x1'.trans x3
      refine .condNE (fun hne => absurd q1' hne) (fun he => PO.ldF B3 (PO.appF (x := y) (hx.trans x03) (hbuf.ex hx.wf x03) hf (by omega) fun out1 h5 b5 x5 f5 k5 => .retL ⟨r.length, hlt, r, out1, s1, h5, xs ++ [y], vs ++ [v], n', rfl, rfl, RdB.mono (q3'.ex x3) k5, b5, FRs.app ((hfr.ex x03).kp k5) ⟨(q2'.ex x3).kp k5, trivial⟩, f5, x5, by omega, ?_, by simp; omega⟩))
      rw [hF', hpr, hp]
      simp only
      cases pRead n' r with
      | inl e => rfl
      | inr us => simp [consV]
  · have hnil : l' = [] := List.eq_nil_of_length_eq_zero (by have c' : ¬ ((rest.len : Nat) : Int) > 0 := c; omega)
    subst hnil
    refine PO.ret (b := ((out, 0), h')) ⟨hx, ?_⟩
    rw [hF']
    have : pRead n [] = .inr [] := by cases n <;> rfl
    rw [this]
    simp only [consV, List.append_nil]
    exact ⟨⟨xs, hbuf.rd, hfr⟩, rfl⟩
theorem RReadPacket_f {h : H} (w : WF h) {key next : Int} (hk : U64 key) (hn : 0 <= next /\ next <= 4611686018427387903) {s : Sl} {l : List UInt8} (r : RdB h s l) (hl : l.length <= 2 ^ 38) :
    PO (ref1_ReadPacket key next s h) (fun (a, h1) => EX h h1 /\ a.1 = (pktRead key next l).1 /\ ReadQ h1 a.2 (pktRead key next l).2) := by
  unfold ref1_ReadPacket P.ref1_ReadPacket pktRead
  have hsl := RdB.len r
  have hb := (l.getD 0 0).toNat_lt
  refine PO.join (fun st => st = ((key, (next, (s, decide (¬ l.length = 0 /\ (((l.getD 0 0).toNat : Int) - 63 < 1 \/ ((l.getD 0 0).toNat : Int) - 63 > 4))))), h)) ?_ ?_
  · refine .condD (fun c => ?_) (fun c => .retL ?_)
    · have c' : ((s.len : Nat) : Int) > 0 := c
      refine PO.ixB r (by omega) (by omega) fun a e1 => .op e1 (.condD (fun c1 => .retL ?_) (fun c1 => PO.ixB r (by omega) (by omega) fun a e1 => .op e1 (.retL ?_)))
      · have c1' : ((l.getD 0 0).toNat : Int) < 64 := c1
        rw [decide_eq_true ⟨by omega, .inl (by omega)⟩]
      · have c1' : ¬ ((l.getD 0 0).toNat : Int) < 64 := c1
        have : decide (((l.getD (0 : Int).toNat 0).toNat : Int) > 67) = decide (¬ l.length = 0 /\ (((l.getD 0 0).toNat : Int) - 63 < 1 \/ ((l.getD 0 0).toNat : Int) - 63 > 4)) := by
          rw [show (0 : Int).toNat = 0 from rfl]
          exact decide_eq_decide.2 (by omega)
        rw [this]
    · have c' : ¬ ((s.len : Nat) : Int) > 0 := c
      rw [decide_eq_false (fun hh => hh.1 (by omega))]
  rintro _ rfl
  dsimp only
  refine .condD (fun c => ?_) (fun c => ?_)
  · rw [if_neg c.1, if_pos c.2]; exact .ret ⟨EX.refl w, rfl, rfl⟩
  refine PO.join (fun st => st = ((key, (next, (s, decide (l.length = 0 \/ (l.length : Int) < 1 + (((l.getD 0 0).toNat : Int) - 63) + 8)))), h)) ?_ ?_
  · refine .condE (fun c1 => .retL ?_) (fun c1 => ?_)
    · rw [decide_eq_true (Or.inl (by omega))]
    · refine PO.ixB r (by omega) (by omega) fun a e1 => .op e1 ?_
      rw [show (0 : Int).toNat = 0 from rfl]
      generalize (l.getD 0 0).toNat = bn at *
      rw [w64 (n := (bn : Int)) (by omega) (by omega), w64 (n := (bn : Int) - 63) (by omega) (by omega), w64 (n := (bn : Int) - 63 + 1) (by omega) (by omega)]
      refine .letO (.retL ?_)
      rw [w64 (n := (bn : Int) - 63 + 1 + 8) (by omega) (by omega)]
      have : decide (((s.len : Nat) : Int) < (bn : Int) - 63 + 1 + 8) = decide (l.length = 0 \/ (l.length : Int) < 1 + ((bn : Int) - 63) + 8) := decide_eq_decide.2 (by omega)
      rw [this]
  rintro _ rfl
  dsimp only
  refine .condD (fun c1 => ?_) (fun c1 => ?_)
  · by_cases h0 : l.length = 0
    · rw [if_pos h0]; exact .ret ⟨EX.refl w, rfl, rfl⟩
    · rw [if_neg h0, if_neg (fun hh => c ⟨h0, hh⟩), if_pos (c1.resolve_left h0)]; exact .ret ⟨EX.refl w, rfl, rfl⟩
  have h0 : ¬ l.length = 0 := fun hh => c1 (.inl hh)
  rw [if_neg h0, if_neg (fun hh => c ⟨h0, hh⟩), if_neg (fun hh => c1 (.inr hh))]
  have c' : ¬ (((l.getD 0 0).toNat : Int) - 63 < 1 \/ ((l.getD 0 0).toNat : Int) - 63 > 4) := fun hh => c ⟨h0, hh⟩
  have c1' : ¬ (l.length : Int) < 1 + (((l.getD 0 0).toNat : Int) - 63) + 8 := fun hh => c1 (.inr hh)
  clear c c1
  refine PO.ixB r (by omega) (by omega) fun a e1 => .op e1 ?_
  rw [show (0 : Int).toNat = 0 from rfl]
  generalize hbv : (l.getD 0 0).toNat = bn at *
  obtain ⟨kn, hkn⟩ : ∃ kn : Nat, bn = 63 + kn := ⟨bn - 63, by omega⟩
  subst hkn
  have hk4 : 1 <= kn /\ kn <= 4 := by omega
  rw [w64 (n := ((63 + kn : Nat) : Int)) (by omega) (by omega), w64 (n := ((63 + kn : Nat) : Int) - 63) (by omega) (by omega)]
  rw [show ((63 + kn : Nat) : Int) - 63 = (kn : Int) by omega, show 63 + kn - 63 = kn by omega]
  have hcl : (kn : Int) + 9 <= l.length := by omega
  generalize hq : (l.drop 1).take kn = q at *
  have hql : q.length = kn := by rw [<- hq]; simp; omega
  have hqg : ∀ i, i < kn -> q.getD i 0 = l.getD (i + 1) 0 := by
    intro i hi
    rw [<- hq, List.getD_eq_getElem?_getD, List.getElem?_take_of_lt hi, List.getElem?_drop, List.getD_eq_getElem?_getD, Nat.add_comm 1 i]
  refine PO.join (fun st => st = ((key, (next, (s, ((kn : Int), cutV q)))), h)) ?_ ?_
  · refine PO.mono (P := fun st => st = Sum.inl ((key, (next, (s, ((kn : Int), cutV q)))), h)) ?_ (fun _ e => e ▸ rfl)
    refine PO.loop (fun m st => ∃ i : Nat, st = ((key, (next, (s, ((kn : Int), (cutV (q.take i), ((i : Int) + 1)))))), h) /\ m + i = kn) ?_ kn _ ⟨0, rfl, rfl⟩
    rintro m st ⟨i, rfl, hm⟩
    unfold P.ref1_ReadPacket_l1
    refine .condD (fun cc => ?_) (fun cc => ?_)
    · have cc' : (i : Int) + 1 <= (kn : Int) := cc
      refine PO.ixB r (by omega) (by omega) fun a e2 => .op e2 (.letO (.retL ⟨m - 1, by omega, i + 1, ?_, by omega⟩))
      have hi : i < q.length := by omega
      have hr := cutV_rng (q.take i) i (by simp; omega)
      have hp : (256 : Int) ^ i <= 256 ^ 3 := by
        have := Nat.pow_le_pow_right (n := 256) (by omega) (show i <= 3 by omega)
        exact_mod_cast this
      have hqi := hqg i (by omega)
      have hbt := (q.getD i 0).toNat_lt
      rw [show ((i : Int) + 1).toNat = i + 1 by omega, <- hqi, w64 (n := 256 * cutV (q.take i)) (by omega) (by omega), w64 (n := ((q.getD i 0).toNat : Int)) (by omega) (by omega), w64 (n := 256 * cutV (q.take i) + ((q.getD i 0).toNat : Int)) (by omega) (by omega), take_succ_getD q 0 hi, cutV_app, w64 (n := (i : Int) + 1 + 1) (by omega) (by omega), Int.mul_comm 256]
      rfl
    · have cc' : ¬ (i : Int) + 1 <= (kn : Int) := cc
      have : i = kn := by omega
      subst this
      rw [List.take_of_length_le (by omega)]
      exact .retR rfl
  rintro _ rfl
  dsimp only
  obtain ⟨_, ebk, rfl⟩ := RBack_f (cutV q) (kn : Int) next (by omega) (by omega) hn.1 hn.2 h
  refine .callE ebk ?_
  clear ebk
  generalize bk (cutV q) (sp (kn : Int)) next = num
  rw [w64 (n := (kn : Int) + 1) (by omega) (by omega)]
  obtain ⟨s2, e2, r2⟩ := slB_hi (hi := (kn : Int) + 1) r (by omega) (by omega)
  obtain ⟨s3, e3, r3⟩ := slB_lo (lo := (kn : Int) + 1) r (by omega) (by omega)
  rw [show ((kn : Int) + 1).toNat = 1 + kn by omega] at r2 r3
  refine .op e2 (.op e3 (PO.call (ROpen_po (num := num) w r2 r3 (by simp; omega) (by simp; omega) hk) fun a h4 ⟨x4, hs, r4⟩ => ?_))
  obtain ⟨s4, ok⟩ := a
  simp only at hs r4
  subst hs
  cases ho : openV key num (l.take (1 + kn)) (l.drop (1 + kn)) with
  | none => exact .condT (.ret ⟨x4, rfl, rfl⟩)
  | some body =>
    rw [ho] at r4
    have r4' : RdB h4 s4 body := r4
    show PO _ (fun ((a, h1) : (Int × Sl × Int) × H) => EX h h1 /\ a.1 = num /\ ReadQ h1 a.2 (match pRead body.length body with | .inl _ => .inl 11 | .inr [] => .inl 11 | .inr (v :: vs) => .inr (v :: vs)))
    have hbl := openV_length ho
    refine .condF (PO.call (RReadFrames_f x4.wf r4' (by simp at hbl; omega)) fun a h5 ⟨x5, hq⟩ => ?_)
    obtain ⟨s5, e5⟩ := a
    cases hp : pRead body.length body with
    | inl e =>
      rw [hp] at hq
      have hq' : e5 ≠ 0 := hq
      refine PO.join (fun st => st = ((num, (s5, true)), h5)) (.condNE (fun _ => .retL rfl) (fun hh => absurd hh hq')) ?_
      rintro _ rfl
      exact .condT (.ret ⟨x4.trans x5, rfl, rfl⟩)
    | inr vs =>
      rw [hp] at hq
      obtain ⟨⟨xs, rf⟩, he⟩ := hq
      have he' : e5 = 0 := he
      subst he'
      have hl5 := RdF.len rf
      refine PO.join (fun st => st = ((num, (s5, decide (vs.length = 0))), h5)) (.condNE (fun hh => absurd rfl hh) (fun _ => .retL ?_)) ?_
      · have hl5' : s5.len = vs.length := hl5
        rw [hl5']
        have : (((vs.length : Nat) : Int) == 0) = decide (vs.length = 0) := by
          by_cases h0 : vs.length = 0
          · rw [h0]; rfl
          · rw [decide_eq_false h0]; simp; intro h1; subst h1; simp at h0
        rw [this]
      · rintro _ rfl
        cases vs with
        | nil => exact .condT (.ret ⟨x4.trans x5, rfl, rfl⟩)
        | cons v vs => exact .condF (.ret ⟨x4.trans x5, rfl, ⟨xs, rf⟩, rfl⟩)
end Go.Proofs.Ythiccnmplgdheaa.T
