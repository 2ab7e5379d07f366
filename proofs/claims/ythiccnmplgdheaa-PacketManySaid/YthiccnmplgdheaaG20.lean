/- Lemmas about the typed texts (joined: SPkt2 LPkt1 LPkt2). -/
import Derived.Test.YthiccnmplgdheaaG19
import Derived.Test.YthiccnmplgdheaaG11
/- Packets over the typed texts: the reference's same frames; what is laid is read; chapter 6's example. -/
set_option linter.unusedVariables false
set_option linter.unusedSimpArgs false
set_option maxRecDepth 100000
namespace Go.Proofs.Ythiccnmplgdheaa.T
open Go Go.Abs Go.Proofs
theorem RSameFrame_f {h : H} (w : WF h) {x y : F9} {v u : FV} (hx : FRd h x v) (hy : FRd h y u) (h1 : v.data.length ≤ 2 ^ 47) (h2 : v.spans.length ≤ 2 ^ 40) : PO (ref1_SameFrame x y h) (fun (a, h1) => a = decide (sameV v u) ∧ EX h h1) := by
  unfold ref1_SameFrame
  obtain ⟨e1, e2, e3, e4, e5, e6, e7⟩ := hx.e
  obtain ⟨d1, d2, d3, d4, d5, d6, d7⟩ := hy.e
  refine PO.newB w fun g1 x1 B1 z1 w1 => PO.newB w1 fun g2 x2 B2 z2 w2 => ?_
  have C1 : Box g2 h.size (f9L x) := Box.kx x2 B1
  have C2 : Box g2 g1.size (f9L y) := B2
  have X := x1.trans x2
  have rx := hx.ex X
  have ry := hy.ex X
  have l1 := RdR.len rx.spans
  have l2 := RdR.len ry.spans
  refine PO.join (fun s => s = ((some ⟨h.size, 0, some 0⟩, (some ⟨g1.size, 0, some 0⟩, decide (¬ (v.kind = u.kind ∧ v.id = u.id ∧ v.off = u.off ∧ v.a = u.a ∧ v.b = u.b ∧ v.fin = u.fin ∧ v.data = u.data ∧ v.spans.length = u.spans.length)))), g2)) ?_ ?_
  · have hb : ∀ {b : Bool}, (b = true ↔ ¬ (v.kind = u.kind ∧ v.id = u.id ∧ v.off = u.off ∧ v.a = u.a ∧ v.b = u.b ∧ v.fin = u.fin ∧ v.data = u.data ∧ v.spans.length = u.spans.length)) → (((some ⟨h.size, 0, some 0⟩ : Option Addr), ((some ⟨g1.size, 0, some 0⟩ : Option Addr), b)), g2) = ((some ⟨h.size, 0, some 0⟩, (some ⟨g1.size, 0, some 0⟩, decide (¬ (v.kind = u.kind ∧ v.id = u.id ∧ v.off = u.off ∧ v.a = u.a ∧ v.b = u.b ∧ v.fin = u.fin ∧ v.data = u.data ∧ v.spans.length = u.spans.length)))), g2) := by
      intro b hh
      cases b with
      | true => rw [decide_eq_true (hh.1 rfl)]
      | false => rw [decide_eq_false (fun hn => by have := hh.2 hn; cases this)]
    refine .ldI C1 rfl (.ldI C2 rfl (.condNE (fun c => .retL (hb ?_)) (fun c1 => ?_)))
    · simp only [true_iff]; exact fun hh => c (by rw [e1, d1]; exact hh.1)
    refine .ldI C1 rfl (.ldI C2 rfl (.condNE (fun c => .retL (hb ?_)) (fun c2 => ?_)))
    · simp only [true_iff]; exact fun hh => c (by rw [e2, d2]; exact hh.2.1)
    refine .ldI C1 rfl (.ldI C2 rfl (.condNE (fun c => .retL (hb ?_)) (fun c3 => ?_)))
    · simp only [true_iff]; exact fun hh => c (by rw [e3, d3]; exact hh.2.2.1)
    refine .ldI C1 rfl (.ldI C2 rfl (.condNE (fun c => .retL (hb ?_)) (fun c4 => ?_)))
    · simp only [true_iff]; exact fun hh => c (by rw [e4, d4]; exact hh.2.2.2.1)
    refine .ldI C1 rfl (.ldI C2 rfl (.condNE (fun c => .retL (hb ?_)) (fun c5 => ?_)))
    · simp only [true_iff]; exact fun hh => c (by rw [e5, d5]; exact hh.2.2.2.2.1)
    refine .ldB C1 rfl (.ldB C2 rfl (.condN (fun c => .retL (hb ?_)) (fun c6 => ?_)))
    · simp only [true_iff]; exact fun hh => by rw [e7, d7, hh.2.2.2.2.2.1] at c; simp at c
    refine .ldL C1 rfl (.callE (strT_ok rx.data) (.ldL C2 rfl (.callE (strT_ok ry.data) ?_)))
    rw [bs_eq]
    refine .condND (fun c => .retL (hb ?_)) (fun c7 => .ldL C1 rfl (.ldL C2 rfl (.retL (hb ?_))))
    · simp only [true_iff]; exact fun hh => c hh.2.2.2.2.2.2.1
    · rw [e1, d1] at c1; rw [e2, d2] at c2; rw [e3, d3] at c3; rw [e4, d4] at c4; rw [e5, d5] at c5; rw [e7, d7] at c6
      rw [l1, l2, bne_iff_ne]
      have c6' : v.fin = u.fin := by simpa using c6
      constructor
      · intro hh hn; exact hh (by rw [hn.2.2.2.2.2.2.2])
      · intro hh hn; exact hh ⟨c1, c2, c3, c4, c5, c6', c7, by omega⟩
  rintro _ rfl
  refine .condD (fun c => .ret ⟨(decide_eq_false fun hh => c ⟨hh.1, hh.2.1, hh.2.2.1, hh.2.2.2.1, hh.2.2.2.2.1, hh.2.2.2.2.2.1, hh.2.2.2.2.2.2.1, by rw [hh.2.2.2.2.2.2.2]⟩).symm, X⟩) (fun c => ?_)
  obtain ⟨o1, o2, o3, o4, o5, o6, o7, o8⟩ := Decidable.byContradiction c
  refine PO.loop (fun m st => ∃ i : Nat, st = ((some ⟨h.size, 0, some 0⟩, (some ⟨g1.size, 0, some 0⟩, (i : Int))), g2) ∧ m + i = v.spans.length ∧ v.spans.take i = u.spans.take i) ?_ v.spans.length _ ⟨0, rfl, rfl, rfl⟩
  rintro m st ⟨i, rfl, hm, ht⟩
  unfold ref1_SameFrame_l1
  refine .ptr (.ldL C1 rfl (.condD (fun cc => ?_) (fun cc => ?_)))
  · have cc' : (i : Int) < ((x.2.2.2.2.2.2.2.2.len : Nat) : Int) := cc
    refine .ptr (.ldL C1 rfl (.ixR rx.spans (by omega) (by omega) fun a _ _ _ ea _ _ => .op ea (.ptr (.ldL C2 rfl (.ixR ry.spans (by omega) (by omega) fun a _ _ _ eb _ _ => .op eb ?_)))))
    simp only [Int.toNat_natCast]
    have t1 := take_succ_getD v.spans (0, 0) (i := i) (by omega)
    have t2 := take_succ_getD u.spans (0, 0) (i := i) (by omega)
    have heq : ((v.spans.getD i (0, 0)).1 == (u.spans.getD i (0, 0)).1 && ((v.spans.getD i (0, 0)).2 == (u.spans.getD i (0, 0)).2 && true)) = decide (v.spans.getD i (0, 0) = u.spans.getD i (0, 0)) := by
      generalize v.spans.getD i (0, 0) = p
      generalize u.spans.getD i (0, 0) = q
      obtain ⟨p1, p2⟩ := p
      obtain ⟨q1, q2⟩ := q
      by_cases hp : p1 = q1 <;> by_cases hq : p2 = q2 <;> simp [hp, hq]
    have goal : PO (condK (!decide (v.spans.getD i (0, 0) = u.spans.getD i (0, 0))) (some (Sum.inr (false, g2))) (some (Sum.inl (((some ⟨h.size, 0, some 0⟩ : Option Addr), ((some ⟨g1.size, 0, some 0⟩ : Option Addr), IntKind.wrap .i64 ((i : Int) + 1))), g2)))) (Sum.elim (fun s' => ∃ n', n' < m ∧ ∃ i : Nat, s' = (((some ⟨h.size, 0, some 0⟩ : Option Addr), ((some ⟨g1.size, 0, some 0⟩ : Option Addr), (i : Int))), g2) ∧ n' + i = v.spans.length ∧ v.spans.take i = u.spans.take i) (fun (a, h1) => a = decide (sameV v u) ∧ EX h h1)) := by
      refine .condND (fun hne => .retR ⟨(decide_eq_false fun hh => hne (by rw [hh.2.2.2.2.2.2.2])).symm, X⟩) (fun he => .retL ⟨m - 1, by omega, i + 1, ?_, by omega, ?_⟩)
      · rw [w64 (n := (i : Int) + 1) (by omega) (by omega)]; rfl
      · rw [t1, t2, ht, he]
    rw [← heq] at goal
    exact goal
  · have cc' : ¬ (i : Int) < ((x.2.2.2.2.2.2.2.2.len : Nat) : Int) := cc
    have : i = v.spans.length := by omega
    subst this
    rw [List.take_of_length_le (Nat.le_refl _), o8, List.take_of_length_le (Nat.le_refl _)] at ht
    exact .retR ⟨(decide_eq_true ⟨o1, o2, o3, o4, o5, o6, o7, ht⟩).symm, X⟩
theorem RSameFrames_f {h : H} (w : WF h) {s t : Sl} {xs ys : List F9} {vs us : List FV} (r : RdF h s xs vs) (q : RdF h t ys us) (hn : vs.length ≤ 2 ^ 40) (hz : SzOK vs) : PO (ref1_SameFrames s t h) (fun (a, h1) => a = decide (sameFs vs us) ∧ EX h h1) := by
  unfold ref1_SameFrames P.ref1_SameFrames
  have l1 := RdF.len r
  have l2 := RdF.len q
  refine .condNE (fun hne => .ret ⟨(decide_eq_false fun hh => ?_).symm, EX.refl w⟩) (fun he => ?_)
  · exact hne (by rw [l1, l2, sameFs_len hh])
  have hll : vs.length = us.length := by omega
  refine PO.loop (fun m st => ∃ (i : Nat) (h' : H), st = ((s, (t, (i : Int))), h') ∧ m + i = vs.length ∧ EX h h' ∧ (sameFs vs us ↔ sameFs (vs.drop i) (us.drop i))) ?_ vs.length _ ⟨0, h, rfl, rfl, EX.refl w, Iff.rfl⟩
  rintro m st ⟨i, h', rfl, hm, hx, ht⟩
  unfold P.ref1_SameFrames_l1
  refine .condD (fun c => ?_) (fun c => ?_)
  · have c' : (i : Int) < ((s.len : Nat) : Int) := c
    have hil : i < vs.length := by omega
    rw [sameFs_drop hil (by omega)] at ht
    refine PO.ixF (r.ex hx) (by omega) (by omega) fun a _ _ _ e1 fr => .op e1 ?_
    simp only [Int.toNat_natCast] at fr ⊢
    have hv := hz _ (getD_mem vs fv0 hil)
    generalize vs.getD i fv0 = v at *
    generalize xs.getD i f90 = x at *
    refine PO.ixF (q.ex hx) (by omega) (by omega) fun a _ _ _ e2 fq => .op e2 ?_
    simp only [Int.toNat_natCast] at fq ⊢
    generalize us.getD i fv0 = u at *
    generalize ys.getD i f90 = y at *
    refine PO.call (RSameFrame_f hx.wf fr fq hv.1 hv.2) fun a h4 ⟨ea, x4⟩ => ?_
    subst ea
    refine .condND (fun hy => .retR ⟨(decide_eq_false fun hh => hy (ht.1 hh).1).symm, hx.trans x4⟩) (fun hy => .retL ⟨m - 1, by omega, i + 1, h4, ?_, by omega, hx.trans x4, ?_⟩)
    · rw [w64 (by omega) (by omega)]; rfl
    · exact ht.trans ⟨fun hh => hh.2, fun hh => ⟨hy, hh⟩⟩
  · have c' : ¬ (i : Int) < ((s.len : Nat) : Int) := c
    have : i = vs.length := by omega
    subst this
    refine .retR ⟨(decide_eq_true (ht.2 ?_)).symm, hx⟩
    rw [List.drop_length, hll, List.drop_length]
    trivial
/-! what is laid is read -/
theorem foldl_be : ∀ (m x : Nat) (c : Int), (be m x).foldl (fun c b => c * 256 + (b.toNat : Int)) c = c * 256 ^ m + ((x % 256 ^ m : Nat) : Int)
  | 0, x, c => by simp [be, Nat.mod_one]
  | m + 1, x, c => by
    simp only [be, List.foldl_cons]
    rw [foldl_be m x]
    have h1 : x % 256 ^ (m + 1) = (x / 256 ^ m % 256) * 256 ^ m + x % 256 ^ m := by
      rw [Nat.pow_succ, Nat.mod_mul, Nat.add_comm, Nat.mul_comm]
    rw [h1, UInt8.toNat_ofNat', Int.pow_succ]
    simp only [Int.natCast_add, Int.natCast_mul, Int.natCast_pow]
    rw [Int.add_mul, Int.mul_assoc, Int.mul_comm 256 (256 ^ m)]
    have : ((2 ^ 8 : Nat)) = 256 := rfl
    rw [this]
    have e2 : ((256 : Nat) : Int) = 256 := rfl
    rw [e2]; omega
theorem cutV_be (m x : Nat) (h : x < 256 ^ m) : cutV (be m x) = (x : Int) := by
  unfold cutV; rw [foldl_be, Nat.mod_eq_of_lt h]; simp
theorem sp_pow (k : Nat) (h1 : 1 ≤ k) (h2 : k ≤ 4) : sp (k : Int) = ((256 ^ k : Nat) : Int) := by
  rcases (by omega : k = 1 ∨ k = 2 ∨ k = 3 ∨ k = 4) with rfl | rfl | rfl | rfl <;> rfl
theorem bk_near (n x s : Int) (hs : 0 < s) (h1 : 0 ≤ x) (h0 : 0 ≤ n) (h3 : 2 * (n - x) ≤ s) (h3' : 2 * (x - n) < s) (h4 : n ≤ 4611686018427387903) : bk (n % s) s x = n := by
  by_cases hx : x ≤ n
  · exact bk_self n x s hs h1 hx h3 h4 (by omega)
  · unfold bk
    have e : (n % s - x) % s = n - x + s := by
      have e1 : (n % s - x) % s = (n - x) % s := by rw [Int.sub_emod, Int.emod_emod_of_dvd _ (Int.dvd_refl s), ← Int.sub_emod]
      have e2 : (n - x) % s = (n - x + s) % s := by rw [Int.add_emod_right]
      rw [e1, e2, Int.emod_eq_of_lt (by omega) (by omega)]
    rw [e, if_neg (by omega)]
    split
    · rw [if_neg (by omega)]; omega
    · omega
theorem nb_sp {d : Int} (h : 1 ≤ d) (h2 : d ≤ 2147483648) : 2 * d ≤ sp (nb d) := by
  unfold nb sp
  by_cases c1 : d ≤ 128
  · rw [if_pos c1, if_pos rfl]; omega
  · rw [if_neg c1]
    by_cases c2 : d ≤ 32768
    · rw [if_pos c2, if_neg (by omega), if_pos rfl]; omega
    · rw [if_neg c2]
      by_cases c3 : d ≤ 8388608
      · rw [if_pos c3, if_neg (by omega), if_neg (by omega), if_pos rfl]; omega
      · rw [if_neg c3, if_neg (by omega), if_neg (by omega), if_neg (by omega)]; omega
/-- a packet taken apart -/
theorem pkt_parts {key num acked : Int} {vs : List FV} : ∃ kn : Nat, nb (num - acked) = (kn : Int) ∧ 1 ≤ kn ∧ kn ≤ 4 ∧ ((pktB key num acked vs).getD 0 0).toNat = 63 + kn ∧
    (pktB key num acked vs).take (1 + kn) = headV num (nb (num - acked)) ∧ (pktB key num acked vs).drop (1 + kn) = closeV key num (headV num (nb (num - acked))) (layFs vs) ∧ (pktB key num acked vs).drop 1 = be kn (num % sp kn).toNat ++ closeV key num (headV num (nb (num - acked))) (layFs vs) := by
  have h1 := nb_rng (num - acked)
  obtain ⟨kn, hk⟩ : ∃ kn : Nat, nb (num - acked) = (kn : Int) := ⟨(nb (num - acked)).toNat, by omega⟩
  have hl := headV_length num (nb (num - acked))
  have hl' : (headV num (nb (num - acked))).length = 1 + kn := by rw [hl, hk]; rfl
  refine ⟨kn, hk, by omega, by omega, ?_, ?_, ?_, ?_⟩
  · show ((headV num (nb (num - acked)) ++ closeV key num (headV num (nb (num - acked))) (layFs vs)).getD 0 0).toNat = 63 + kn
    unfold headV
    simp only [List.cons_append, List.getD_cons_zero]
    rw [UInt8.toNat_ofNat', hk]
    have : ((63 : Int) + (kn : Int)).toNat = 63 + kn := by omega
    rw [this]; omega
  · unfold pktB; rw [← hl', List.take_left']; rfl
  · unfold pktB; rw [← hl', List.drop_left']; rfl
  · unfold pktB
    conv => lhs; arg 2; arg 1; unfold headV
    rw [hk]; rfl
theorem pktRead_hd {k2 num next : Int} {kn : Nat} {S : List UInt8} (k1 : 1 ≤ kn) (k4 : kn ≤ 4) (hS : 8 ≤ S.length) (hn : 0 ≤ next) (hnum : 0 ≤ num ∧ num ≤ 4611686018427387903) (hx : 2 * (num - next) ≤ sp kn) (hx' : 2 * (next - num) < sp kn) :
    pktRead k2 next (headV num kn ++ S) = match openV k2 num (headV num kn) S with
      | none => (0, .inl 4)
      | some body => (num, match pRead body.length body with
        | .inl _ => .inl 11
        | .inr [] => .inl 11
        | .inr (v :: vs) => .inr (v :: vs)) := by
  have hl' : (headV num (kn : Int)).length = 1 + kn := by rw [headV_length]; rfl
  have e1 : ((headV num (kn : Int) ++ S).getD 0 0).toNat = 63 + kn := by
    unfold headV
    simp only [List.cons_append, List.getD_cons_zero]
    rw [UInt8.toNat_ofNat']
    have : ((63 : Int) + (kn : Int)).toNat = 63 + kn := by omega
    rw [this]; omega
  have e2 : (headV num (kn : Int) ++ S).take (1 + kn) = headV num (kn : Int) := by rw [← hl', List.take_left']; rfl
  have e3 : (headV num (kn : Int) ++ S).drop (1 + kn) = S := by rw [← hl', List.drop_left']; rfl
  have e4 : (headV num (kn : Int) ++ S).drop 1 = be kn (num % sp kn).toNat ++ S := by
    conv => lhs; arg 2; arg 1; unfold headV
    rfl
  have hl : (headV num (kn : Int) ++ S).length = 1 + kn + S.length := by rw [List.length_append, hl']
  unfold pktRead
  rw [if_neg (by omega), e1, if_neg (by omega), if_neg (by omega)]
  have s1 : 63 + kn - 63 = kn := by omega
  have s2 : ((63 + kn : Nat) : Int) - 63 = (kn : Int) := by omega
  rw [s1, s2, e2, e3, e4, List.take_left' (be_length _ _)]
  have hsp := sp_pow kn k1 k4
  have hm := emod_b num (sp_pos (kn : Int)).1
  have hm2 : (num % sp (kn : Int)).toNat < 256 ^ kn := by
    rw [← Int.ofNat_lt, Int.toNat_of_nonneg hm.1, ← hsp]; exact hm.2
  rw [cutV_be _ _ hm2, Int.toNat_of_nonneg hm.1]
  rw [bk_near num next _ (sp_pos _).1 hn hnum.1 hx hx' hnum.2]
  rfl
theorem pktRead_of {key k2 num acked next : Int} {vs : List FV} (hn : 0 ≤ next) (hnum : 0 ≤ num ∧ num ≤ 4611686018427387903) (hx : 2 * (num - next) ≤ sp (nb (num - acked))) (hx' : 2 * (next - num) < sp (nb (num - acked))) :
    pktRead k2 next (pktB key num acked vs) = match openV k2 num (headV num (nb (num - acked))) (closeV key num (headV num (nb (num - acked))) (layFs vs)) with
      | none => (0, .inl 4)
      | some body => (num, match pRead body.length body with
        | .inl _ => .inl 11
        | .inr [] => .inl 11
        | .inr (v :: vs) => .inr (v :: vs)) := by
  have h1 := nb_rng (num - acked)
  obtain ⟨kn, hk⟩ : ∃ kn : Nat, nb (num - acked) = (kn : Int) := ⟨(nb (num - acked)).toNat, by omega⟩
  unfold pktB
  rw [hk] at hx hx' ⊢
  exact pktRead_hd (by omega) (by omega) (by rw [closeV_length]; omega) hn hnum hx hx'
theorem pkt_rt {key num acked next : Int} {vs : List FV} (hv : ∀ v ∈ vs, FR v) (hn : 0 ≤ next) (hnum : 0 ≤ num ∧ num ≤ 4611686018427387903) (hx : 2 * (num - next) ≤ sp (nb (num - acked))) (hx' : 2 * (next - num) < sp (nb (num - acked))) :
    pktRead key next (pktB key num acked vs) = (num, if vs = [] then .inl 11 else .inr (vs.map bareV)) := by
  rw [pktRead_of hn hnum hx hx', open_close]
  simp only
  rw [pRead_lay hv]
  cases vs with
  | nil => rfl
  | cons v vs => rfl
theorem pkt_other {key k2 num acked next : Int} {vs : List FV} (hk : U64 key) (h2 : U64 k2) (hne : k2 ≠ key) (hn : 0 ≤ next) (hnum : 0 ≤ num ∧ num ≤ 4611686018427387903) (hx : 2 * (num - next) ≤ sp (nb (num - acked))) (hx' : 2 * (next - num) < sp (nb (num - acked))) :
    pktRead k2 next (pktB key num acked vs) = (0, .inl 4) := by
  rw [pktRead_of hn hnum hx hx']
  have := open_close2 key num k2 num (headV num (nb (num - acked))) (layFs vs)
  rw [decide_eq_false (fun e => hne (stepV_inj_l h2 hk e))] at this
  cases ho : openV k2 num (headV num (nb (num - acked))) (closeV key num (headV num (nb (num - acked))) (layFs vs)) with
  | none => rfl
  | some b => rw [ho] at this; simp at this
theorem known6_f {h : H} (w : WF h) : PO (law6_known h) (fun (a, h1) => a = true ∧ EX h h1) := by
  unfold law6_known P.law6_known
  refine PO.newB w fun h1 x1 B1 z1 w1 => ?_
  have r1 : RdF h1 ⟨some ⟨h.size, 0, some 0⟩, 1, 1⟩ [(1, 0, 0, 0, 0, 0, false, ⟨none, 0, 0⟩, ⟨none, 0, 0⟩)] [kv1] :=
    ⟨B1.rd w1 rfl (capOk_self _ _ (by unfold B63; omega)), ⟨⟨rfl, rfl, rfl, rfl, rfl, rfl, rfl⟩, rdB_nil _, rdR_nil _⟩, trivial⟩
  have hall : ∀ v ∈ [kv1], FR v := by decide
  have hk7 : U64 7 := ⟨by omega, by omega⟩
  have hnb : nb (3 - 2) = 1 := by decide
  have hlay : layFs [kv1] = [1] := by decide
  have hlen := pktB_length 7 3 2 [kv1]
  rw [hnb, hlay] at hlen
  have hlen' : (pktB 7 3 2 [kv1]).length = 11 := by simp at hlen; omega
  have hpl : pktLay 7 3 2 [kv1] = .inr (pktB 7 3 2 [kv1]) := by
    unfold pktLay
    rw [if_neg (by decide), if_neg (fun hh => hh hall), if_neg (by omega)]
  refine PO.call (PLay_f w1 hk7 r1 (by simp) (szok_of hall)) fun a h2 ⟨x2, ha⟩ => ?_
  rw [hpl] at ha
  obtain ⟨s1, e1⟩ := a
  obtain ⟨rb, he⟩ := ha
  have he' : e1 = 0 := he
  subst he'
  have rb' : RdB h2 s1 (pktB 7 3 2 [kv1]) := rb
  have hsp : sp (nb (3 - 2)) = 256 := by decide
  have hrt : pktRead 7 3 (pktB 7 3 2 [kv1]) = (3, .inr ([kv1].map bareV)) := by
    rw [pkt_rt hall (by omega) (by omega) (by rw [hsp]; omega) (by rw [hsp]; omega)]; rfl
  refine PO.call (PRead_f x2.wf hk7 (by omega) rb' (by omega)) fun a h3 ⟨x3, hn, hq⟩ => ?_
  rw [hrt] at hn hq
  obtain ⟨n3, s3, e3⟩ := a
  obtain ⟨⟨xs, rf⟩, he3⟩ := hq
  have he3' : e3 = 0 := he3
  subst he3'
  have hn' : n3 = 3 := hn
  subst hn'
  have hl3 : s3.len = 1 := RdF.len rf
  have hs1 : s1.len = 11 := by rw [RdB.len rb', hlen']
  have g0 : (pktB 7 3 2 [kv1]).getD 0 0 = 64 := rfl
  have g1 : (pktB 7 3 2 [kv1]).getD 1 0 = 3 := rfl
  refine .callE (PRoom_f 0 (-1) (by omega) (by omega) _) (.chk' (by decide) (.chk' rfl (.chk' (by rw [hs1]; rfl) ?_)))
  refine PO.ixB (rb'.ex x3) (by omega) (by rw [hlen']; decide) fun a ea => .op ea (.chk' (by rw [show (0 : Int).toNat = 0 from rfl, g0]; rfl) ?_)
  refine PO.ixB (rb'.ex x3) (by omega) (by rw [hlen']; decide) fun a eb => .op eb (.chk' (by rw [show (1 : Int).toNat = 1 from rfl, g1]; rfl) ?_)
  refine .chk' rfl (.chk' rfl (.ret ⟨?_, (x1.trans x2).trans x3⟩))
  rw [hl3]; rfl
end Go.Proofs.Ythiccnmplgdheaa.T
/- The laws PacketRoom and PacketBack over typed texts. -/
set_option linter.unusedVariables false
set_option linter.unusedSimpArgs false
set_option maxRecDepth 100000
namespace Go.Proofs.Ythiccnmplgdheaa.T
open Go Go.Abs Go.Proofs
theorem U64_of {k : Int} (h : 0 ≤ k ∧ k < 18446744073709551616) : U64 k := ⟨h.1, h.2⟩
end Go.Proofs.Ythiccnmplgdheaa.T
/- The law PacketMany over typed texts: packets of one way, read in whatever order, are each read as they were. -/
set_option linter.unusedVariables false
set_option linter.unusedSimpArgs false
set_option maxRecDepth 100000
namespace Go.Proofs.Ythiccnmplgdheaa.T
open Go Go.Abs Go.Proofs
def gotV (k : Int) : FV := ⟨10, k, 0, 0, 0, 0, false, [], []⟩
theorem gotV_FR {k : Int} (h : 0 ≤ k ∧ k < 20) : FR (gotV k) := by
  have o0 : okN 0 := ⟨by omega, by omega⟩
  refine ⟨⟨⟨show (1 : Int) ≤ 10 by omega, show (10 : Int) ≤ 12 by omega⟩, ⟨rfl, rfl, rfl, rfl, rfl, rfl, rfl, rfl⟩, ⟨⟨h.1, show k ≤ 4611686018427387903 by omega⟩, o0, o0, o0⟩, Nat.zero_le _⟩, ?_⟩
  simp [FR1, gotV]
theorem nb_small {d : Int} (h : d ≤ 128) : nb d = 1 := by unfold nb; rw [if_pos h]
theorem pkt_apart {key first : Int} {i j : Nat} {us ws : List FV} (hi : i < 20) (hj : j < i) (h0 : 0 ≤ first) : pktB key (first + (j : Int)) (first - 1) us ≠ pktB key (first + (i : Int)) (first - 1) ws := by
  intro e
  have hb : ∀ (m : Nat) (vs : List FV), m < 20 → ((pktB key (first + (m : Int)) (first - 1) vs).getD 1 0).toNat = ((first + (m : Int)) % 256).toNat := by
    intro m vs hm
    unfold pktB
    rw [nb_small (by omega)]
    have hq := emod_b (first + (m : Int)) (show (0 : Int) < 256 by omega)
    have : headV (first + (m : Int)) 1 = [64, UInt8.ofNat ((first + (m : Int)) % 256).toNat] := by
      unfold headV
      have : sp 1 = 256 := rfl
      rw [this]
      show [UInt8.ofNat 64, UInt8.ofNat (((first + (m : Int)) % 256).toNat / 256 ^ 0)] = _
      rw [Nat.pow_zero, Nat.div_one]; rfl
    rw [this]
    simp only [List.cons_append, List.nil_append, List.getD_cons_succ, List.getD_cons_zero]
    rw [UInt8.toNat_ofNat']; omega
  have h1 := hb j us (by omega)
  have h2 := hb i ws hi
  rw [e, h2] at h1
  omega
/-- what the law keeps: the packets that were laid -/
structure MA (key first : Int) (vs : List FV) (b : Nat) (i : Nat) (h : H) (Ls : List Sl) : Prop where
  len : Ls.length = 20
  box : Box h b (Ls.map encSl)
  rd : ∀ j : Nat, j < i → RdB h (Ls.getD j ⟨none, 0, 0⟩) (pktB key (first + (j : Int)) (first - 1) (gotV j :: vs)) ∧ (pktB key (first + (j : Int)) (first - 1) (gotV j :: vs)).length ≤ 240
theorem MA.ex {key first : Int} {vs : List FV} {b i : Nat} {h h' : H} {Ls : List Sl} (m : MA key first vs b i h Ls) (x : EX h h') : MA key first vs b i h' Ls := ⟨m.len, Box.kx x m.box, fun j hj => ⟨(m.rd j hj).1.ex x, (m.rd j hj).2⟩⟩
theorem encSl_get {Ls : List Sl} {j : Nat} (h : j < Ls.length) : (Ls.map encSl)[j]? = some (encSl (Ls.getD j ⟨none, 0, 0⟩)) := by
  rw [List.getElem?_map, List.getD_eq_getElem?_getD, List.getElem?_eq_getElem h]; rfl
theorem MA.ld {key first : Int} {vs : List FV} {b i : Nat} {h : H} {Ls : List Sl} (m : MA key first vs b i h Ls) {j : Nat} (hj : j < 20) : ldL h (add ⟨b, 0, some 0⟩ ((j : Int).toNat * 1)) = some (Ls.getD j ⟨none, 0, 0⟩) :=
  m.box.ldL (by rw [Int.toNat_natCast, Nat.mul_one]; exact encSl_get (by rw [m.len]; exact hj))
theorem many_l2 {key first : Int} {vs : List FV} {b i : Nat} {h : H} {Ls : List Sl} {order f : Sl} (m : MA key first vs b (i + 1) h Ls) (hi : i < 20) (h0 : 0 ≤ first) :
    PO (loopO law6_PacketMany_l2 ((key, (first, (order, (f, (some ⟨b, 0, some 0⟩, ((i : Int), (Ls.getD i ⟨none, 0, 0⟩, (0, (i : Int))))))))), h)) (fun r => r = Sum.inl ((key, (first, (order, (f, (some ⟨b, 0, some 0⟩, (i : Int)))))), h)) := by
  refine PO.loop (fun n st => ∃ j : Nat, st = ((key, (first, (order, (f, (some ⟨b, 0, some 0⟩, ((i : Int), (Ls.getD i ⟨none, 0, 0⟩, ((j : Int), (i : Int))))))))), h) ∧ n + j = i) ?_ i _ ⟨0, rfl, rfl⟩
  rintro n st ⟨j, rfl, hm⟩
  unfold law6_PacketMany_l2 P.law6_PacketMany_l2
  refine .condD (fun c => ?_) (fun c => .retR rfl)
  have hj : j < i := by omega
  refine .ptr (PO.ixA (by omega) (by omega) (.op (m.ld (by omega)) (.callE (strT_ok (m.rd j (by omega)).1) (.callE (strT_ok (m.rd i (by omega)).1) ?_))))
  rw [bs_eq, decide_eq_false (pkt_apart hi hj h0)]
  refine .condF (.retL ⟨n - 1, by omega, j + 1, ?_, by omega⟩)
  rw [w64 (n := (j : Int) + 1) (by omega) (by omega)]; rfl
theorem many_l1 {key first : Int} (hk : U64 key) (h0 : 0 ≤ first ∧ first < 1073741824) {order f : Sl} {b : Nat} {h1 : H} {ys : List F9} {vs : List FV} (hb : h1.size ≤ b) (rf : RdF h1 f ys vs) (hall : ∀ v ∈ vs, FR v) (hl : vs.length ≤ 1) :
    ∀ (n : Nat) (st : ((Int × (Int × (Sl × (Sl × ((Option Addr) × Int))))) × H)), (∃ (i : Nat) (h' : H) (Ls : List Sl), st = ((key, (first, (order, (f, (some ⟨b, 0, some 0⟩, (i : Int)))))), h') ∧ n + i = 20 ∧ EX h1 h' ∧ MA key first vs b i h' Ls) →
    PO (loopO law6_PacketMany_l1 st) (fun r => (∃ h' Ls, r = Sum.inl ((key, (first, (order, (f, some ⟨b, 0, some 0⟩)))), h') ∧ EX h1 h' ∧ MA key first vs b 20 h' Ls) ∨ ∃ h', r = Sum.inr (true, h')) := by
  refine PO.loop _ ?_
  rintro n st ⟨i, h', Ls, rfl, hn, hx, m⟩
  unfold law6_PacketMany_l1 P.law6_PacketMany_l1
  refine .condD (fun c => ?_) (fun c => ?_)
  · have hi : i < 20 := by omega
    have hgv := gotV_FR (k := (i : Int)) (by omega)
    have hall2 : ∀ v ∈ gotV i :: vs, FR v := fun v hv => by
      rcases List.mem_cons.1 hv with rfl | hv
      · exact hgv
      · exact hall v hv
    have hsz2 := szok_of hall2
    have hfl := layFs_length hall2
    have hll : (gotV i :: vs).length ≤ 2 := by simp; omega
    refine PO.join (fun st => ∃ h2 Ls, st = ((key, (first, (order, (f, (some ⟨b, 0, some 0⟩, (i : Int)))))), h2) ∧ EX h1 h2 ∧ MA key first vs b (i + 1) h2 Ls) ?_ ?_
    · refine PO.newB hx.wf fun h2 x2 B2 z2 w2 => ?_
      have b2 : Buf 9 h2 ⟨some ⟨h'.size, 0, some 0⟩, 1, 1⟩ (fsV [(10, (i : Int), 0, 0, 0, 0, false, ⟨none, 0, 0⟩, ⟨none, 0, 0⟩)]) := B2.buf (n := 1) w2 rfl (by unfold B63; omega)
      have rf2 := (rf.ex hx).ex x2
      have hfl2 := RdF.len rf2
      obtain ⟨s3, h3, e3, k3, y3, b3, _, f3⟩ := appT_ok (e := 33) (bytes := 104) (by omega) (by unfold B63; omega) w2 b2 rf2.rd (fsV_oneC _) (by simp only; omega) (by simp only; omega)
      have x3 : EX h' h3 := y3 h' x2 (fr_new _ _ _)
      rw [← fsV_app] at b3
      have r3 : RdF h3 s3 ((10, (i : Int), 0, 0, 0, 0, false, ⟨none, 0, 0⟩, ⟨none, 0, 0⟩) :: ys) (gotV i :: vs) := ⟨b3.rd, ⟨⟨rfl, rfl, rfl, rfl, rfl, rfl, rfl⟩, rdB_nil _, rdR_nil _⟩, (rf.frs.ex hx).ex x3⟩
      rw [w64 (n := first + (i : Int)) (by omega) (by omega), w64 (n := first - 1) (by omega) (by omega)]
      refine .callE e3 (PO.call (PLay_f x3.wf (num := first + (i : Int)) (acked := first - 1) hk r3 (by omega) hsz2) fun a h4 ⟨x4, ha⟩ => ?_)
      have hok : pktOK (first + (i : Int)) (first - 1) := ⟨by omega, by omega, by omega, by omega⟩
      obtain ⟨s4, e4⟩ := a
      unfold pktLay at ha
      rw [if_neg (fun hh => hh hok), if_neg (fun hh => hh hall2)] at ha
      by_cases hc : (pktB key (first + (i : Int)) (first - 1) (gotV i :: vs)).length > 240
      · rw [if_pos hc] at ha
        have ha' : (s4, e4) = (⟨none, 0, 0⟩, 9) := ha
        simp only [Prod.mk.injEq] at ha'
        obtain ⟨rfl, rfl⟩ := ha'
        refine .condNE (fun _ => ?_) (fun hh => absurd hh (by omega))
        refine PO.join (fun st => st.1 = true) ?_ ?_
        · refine PO.call (known6_f x4.wf) fun a h5 ⟨ea, x5⟩ => ?_
          subst ea
          exact .chk' rfl (.retL rfl)
        · rintro ⟨a, h5⟩ rfl
          exact .retR (Or.inr ⟨h5, rfl⟩)
      · rw [if_neg hc] at ha
        obtain ⟨rb, he⟩ := ha
        have he' : e4 = 0 := he
        subst he'
        have m4 := (m.ex x3).ex x4
        refine .condNE (fun hh => absurd rfl hh) (fun _ => .ptr (PO.ixA (by omega) (by omega) (PO.st1 m4.box x4.wf (by rw [List.length_map, m4.len]; omega) rfl fun h5 B5 u5 z5 w5 => ?_)))
        rw [Int.toNat_natCast, Nat.mul_one] at B5
        have hms : (Ls.map encSl).set i (.slice s4.base s4.len s4.cap) = (Ls.set i s4).map encSl := by rw [List.map_set]; rfl
        rw [hms] at B5
        have hd : ∀ v ∈ Ls.map encSl, ∀ n, v ≠ .int .u8 n := by
          intro v hv n
          obtain ⟨s, _, rfl⟩ := List.mem_map.1 hv
          simp [encSl]
        have m5 : MA key first vs b (i + 1) h5 (Ls.set i s4) := by
          refine ⟨by rw [List.length_set]; exact m4.len, B5, fun j hj => ?_⟩
          by_cases hji : j = i
          · subst hji
            have : (Ls.set j s4).getD j ⟨none, 0, 0⟩ = s4 := by rw [List.getD_eq_getElem?_getD, List.getElem?_set, if_pos rfl, if_pos (by rw [m4.len]; exact hi)]; rfl
            rw [this]
            exact ⟨RdB.kbox x4.wf m4.box u5 hd rb, by omega⟩
          · have : (Ls.set i s4).getD j ⟨none, 0, 0⟩ = Ls.getD j ⟨none, 0, 0⟩ := by rw [List.getD_eq_getElem?_getD, List.getElem?_set, if_neg (fun e => hji e.symm), List.getD_eq_getElem?_getD]
            rw [this]
            exact ⟨RdB.kbox x4.wf m4.box u5 hd (m4.rd j (by omega)).1, (m4.rd j (by omega)).2⟩
        have hget : (Ls.set i s4).getD i ⟨none, 0, 0⟩ = s4 := by rw [List.getD_eq_getElem?_getD, List.getElem?_set, if_pos rfl, if_pos (by rw [m4.len]; exact hi)]; rfl
        have hl2 := many_l2 (order := order) (f := f) m5 hi h0.1
        rw [hget] at hl2
        refine PO.mono hl2 ?_
        rintro _ rfl
        exact ⟨h5, _, rfl, u5.ex0 ((hx.trans x3).trans x4) (fun A hA e => by omega), m5⟩
    · rintro _ ⟨h2, Ls, rfl, x2, m2⟩
      refine .retL ⟨n - 1, by omega, i + 1, h2, Ls, ?_, by omega, x2, m2⟩
      rw [w64 (n := (i : Int) + 1) (by omega) (by omega)]; rfl
  · have : i = 20 := by omega
    subst this
    exact .retR (.inl ⟨h', Ls, rfl, hx, m⟩)
theorem many_l3 {key first : Int} (hk : U64 key) (h0 : 0 ≤ first ∧ first < 1073741824) {order f : Sl} {zs : List Int} {b : Nat} {h1 : H} {ys : List F9} {vs : List FV} {Ls : List Sl} (w : WF h1) (rf : RdF h1 f ys vs) (hall : ∀ v ∈ vs, FR v) (hl : vs.length ≤ 1) (hr : RdI .i64 h1 order zs) (hz : zs.length ≤ 2 ^ 47) (m : MA key first vs b 20 h1 Ls) :
    PO (loopO law6_PacketMany_l3 ((key, (first, (f, (some ⟨b, 0, some 0⟩, (first - 1, (order, (((order.len : Nat) : Int), 0))))))), h1)) (fun r => ∃ h', r = Sum.inl ((), h') ∧ EX h1 h') := by
  have hlen := hr.len
  refine PO.loop (fun n st => ∃ (i : Nat) (nw : Int) (h' : H), st = ((key, (first, (f, (some ⟨b, 0, some 0⟩, (nw, (order, (((order.len : Nat) : Int), (i : Int)))))))), h') ∧ n + i = zs.length ∧ EX h1 h' ∧ first - 1 ≤ nw ∧ nw ≤ first + 19) ?_ zs.length _ ⟨0, first - 1, h1, rfl, rfl, EX.refl w, by omega, by omega⟩
  rintro n st ⟨i, nw, h', rfl, hn, hx, hn1, hn2⟩
  unfold law6_PacketMany_l3 P.law6_PacketMany_l3
  refine .condD (fun c => ?_) (fun c => .retR ⟨h', rfl, hx⟩)
  refine .ixI (hr.ex hx) (by omega) (by omega) fun a e1 => .op e1 (.callE (pick_f _ _ (by omega) (by omega) _) ?_)
  have q := emod_b (zs.getD (i : Int).toNat 0) (show (0 : Int) < 20 by omega)
  obtain ⟨k, hkk⟩ : ∃ k : Nat, zs.getD (i : Int).toNat 0 % 20 = (k : Int) := ⟨(zs.getD (i : Int).toNat 0 % 20).toNat, by omega⟩
  rw [hkk] at q ⊢
  have hk20 : k < 20 := by omega
  have m' := m.ex hx
  have hgv := gotV_FR (k := (k : Int)) (by omega)
  have hall2 : ∀ v ∈ gotV k :: vs, FR v := fun v hv => by
    rcases List.mem_cons.1 hv with rfl | hv
    · exact hgv
    · exact hall v hv
  have hnb : nb (first + (k : Int) - (first - 1)) = 1 := nb_small (by omega)
  have hsp : sp (nb (first + (k : Int) - (first - 1))) = 256 := by rw [hnb]; rfl
  have hrt := pkt_rt (key := key) (num := first + (k : Int)) (acked := first - 1) (next := nw + 1) hall2 (by omega) (by omega) (by rw [hsp]; omega) (by rw [hsp]; omega)
  rw [w64 (n := nw + 1) (by omega) (by omega)]
  refine .ptr (PO.ixA (by omega) (by omega) (.op (m'.ld hk20) (PO.call (PRead_f hx.wf hk (next := nw + 1) (by omega) (m'.rd k hk20).1 (by have := (m'.rd k hk20).2; omega)) fun a h2 ⟨x2, hnn, hq⟩ => ?_)))
  rw [hrt] at hnn hq
  rw [if_neg (by simp)] at hq
  obtain ⟨n2, s2, e2⟩ := a
  have hnn' : n2 = first + (k : Int) := hnn
  subst hnn'
  obtain ⟨⟨zz, rz⟩, he⟩ := hq
  have he' : e2 = 0 := he
  subst he'
  have rz' : RdF h2 s2 zz (gotV k :: vs.map bareV) := rz
  have hl2 := RdF.len rz'
  have hzl := rz'.frs.len
  have hfl := RdF.len rf
  refine PO.join (fun st => ∃ h3, st = ((key, (first, (f, (some ⟨b, 0, some 0⟩, (nw, (first + (k : Int), (order, (((order.len : Nat) : Int), ((i : Int), false))))))))), h3) ∧ EX h1 h3) ?_ ?_
  · rw [w64 (n := first + (k : Int)) (by omega) (by omega)]
    refine .condNE (fun hh => absurd rfl hh) (fun _ => .condNE (fun hh => absurd rfl hh) (fun _ => .letO ?_))
    rw [w64 (n := 1 + ((f.len : Nat) : Int)) (by omega) (by omega)]
    refine .condNE (fun hh => absurd (show ((s2.len : Nat) : Int) = 1 + ((f.len : Nat) : Int) by simp at hl2; omega) hh) (fun _ => ?_)
    refine PO.ixF rz' (by omega) (by simp) fun a b hb ha _ fr => ?_
    subst ha
    refine .op (ldI_of (RdF.cell rz' hb (by rw [hzl]; simp) (i := 1) (by decide) rfl)) (.condNE (fun hh => absurd ?_ hh) (fun _ => ?_))
    · exact fr.e.2.1
    obtain ⟨s6, e6, r6⟩ := slF_lo (lo := 1) rz' (by omega) (by simp; omega)
    have hbm : ∀ v ∈ vs.map bareV, FR v := fun v hv => by
      obtain ⟨u, hu, rfl⟩ := List.mem_map.1 hv
      exact (FR.bare (hall u hu)).1
    have r6' : RdF h2 s6 (zz.drop 1) (vs.map bareV) := r6
    refine .op e6 (PO.call (RSameFrames_f x2.wf r6' ((rf.ex hx).ex x2) (by simp; omega) (szok_of hbm)) fun a h3 ⟨ea, x3⟩ => .retL ⟨h3, ?_, (hx.trans x2).trans x3⟩)
    subst ea
    rw [decide_eq_true (sameFs_symm (sameFs_bare hall))]; rfl
  · rintro _ ⟨h3, rfl, x3⟩
    refine .condF (.retL ⟨n - 1, by omega, i + 1, if first + (k : Int) > nw then first + (k : Int) else nw, h3, ?_, by omega, x3, ?_, ?_⟩)
    · rw [w64 (n := (i : Int) + 1) (by omega) (by omega)]; rfl
    · split <;> omega
    · split <;> omega
theorem PacketMany (key first : Int) (order l : Sl) (h : H) (w : WF h) (hk : 0 ≤ key ∧ key < 18446744073709551616) (g1 : RNG first) (zs : List Int) (hr : RdI .i64 h order zs) (hz : zs.length * 8 ≤ 140737488351232) (hzr : ∀ n ∈ zs, -9223372036854775808 ≤ n ∧ n ≤ 9223372036854775807) (xs : List F9) (us : List RV) (r : RdW h l xs us) (hn : us.length ≤ 2 ^ 50) (hwz : WzOK us) : ∃ h', law6_PacketMany key first order l h = some (true, h') := by
  refine PO.law ?_
  unfold law6_PacketMany P.law6_PacketMany
  have q1 := emod_b first (show (0 : Int) < 1073741824 by omega)
  have uk := U64_of hk
  refine .callE (pick_f _ _ (by omega) (by omega) _) ?_
  generalize first % 1073741824 = A at *
  refine PO.call (HRight_f w r hn hwz (N := 1) (by omega)) fun f h1 ⟨⟨ys, vs, rf, _, hall, hlen⟩, x1, _⟩ => ?_
  have hl1 : vs.length ≤ 1 := by omega
  refine PO.newB (l := (List.replicate 20 (⟨none, 0, 0⟩ : Sl)).map encSl) x1.wf fun h2 x2 B2 z2 w2 => ?_
  have m0 : MA key A vs h1.size 0 h2 (List.replicate 20 ⟨none, 0, 0⟩) := ⟨by simp, B2, fun j hj => by omega⟩
  refine PO.joinD (PO.mono (many_l1 (order := order) uk q1 (Nat.le_refl _) rf hall hl1 20 _ ⟨0, h2, _, rfl, rfl, x2, m0⟩) ?_)
  rintro _ (⟨h3, Ls, rfl, x3, m3⟩ | ⟨h3, rfl⟩)
  · show PO _ _
    dsimp only
    rw [w64 (n := A - 1) (by omega) (by omega)]
    refine PO.joinD (PO.mono (many_l3 uk q1 x3.wf (rf.ex x3) hall hl1 ((hr.ex x1).ex x3) (by omega) m3) ?_)
    rintro _ ⟨h4, rfl, x4⟩
    show PO _ _
    exact PO.call (known6_f x4.wf) fun a h5 ⟨ea, x5⟩ => .ret ea
  · exact rfl
end Go.Proofs.Ythiccnmplgdheaa.T
