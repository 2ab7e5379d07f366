/- Lemmas about the typed texts (joined: SPkt2 LPkt1 S15). -/
import Derived.Test.YthiccnmplgdheaaG19
import Derived.Test.YthiccnmplgdheaaG11
import Derived.Test.YthiccnmplgdheaaG10
/- Packets over the typed texts: the reference's same frames; what is laid is read; chapter 6's example. -/
set_option linter.unusedVariables false
set_option linter.unusedSimpArgs false
set_option maxRecDepth 100000
namespace Go.Proofs.Ythiccnmplgdheaa.T
open Go Go.Abs Go.Proofs
theorem RSameFrame_f {h : H} (w : WF h) {x y : F9} {v u : FV} (hx : FRd h x v) (hy : FRd h y u) (h1 : v.data.length ≤ 2 ^ 47) (h2 : v.spans.length ≤ 2 ^ 40) : PO (ref1_SameFrame x y h) (fun (a, h1) => a = decide (sameV v u) ∧ EX h h1) := by
  unfold ref1_SameFrame
  obtain ⟨e1, e2, e3, e4, e5, e6, e7⟩ := hx.e
  obtain ⟨d1, d2, d3, d4, d5, d6, d7⟩ := hy.e
  refine PO.newB w fun g1 x1 B1 z1 w1 => PO.newB w1 fun g2 x2 B2 z2 w2 => ?_
  have C1 : Box g2 h.size (f9L x) := Box.kx x2 B1
  have C2 : Box g2 g1.size (f9L y) := B2
  have X := x1.trans x2
  have rx := hx.ex X
  have ry := hy.ex X
  have l1 := RdR.len rx.spans
  have l2 := RdR.len ry.spans
  refine PO.join (fun s => s = ((some ⟨h.size, 0, some 0⟩, (some ⟨g1.size, 0, some 0⟩, decide (¬ (v.kind = u.kind ∧ v.id = u.id ∧ v.off = u.off ∧ v.a = u.a ∧ v.b = u.b ∧ v.fin = u.fin ∧ v.data = u.data ∧ v.spans.length = u.spans.length)))), g2)) ?_ ?_
  · have hb : ∀ {b : Bool}, (b = true ↔ ¬ (v.kind = u.kind ∧ v.id = u.id ∧ v.off = u.off ∧ v.a = u.a ∧ v.b = u.b ∧ v.fin = u.fin ∧ v.data = u.data ∧ v.spans.length = u.spans.length)) → (((some ⟨h.size, 0, some 0⟩ : Option Addr), ((some ⟨g1.size, 0, some 0⟩ : Option Addr), b)), g2) = ((some ⟨h.size, 0, some 0⟩, (some ⟨g1.size, 0, some 0⟩, decide (¬ (v.kind = u.kind ∧ v.id = u.id ∧ v.off = u.off ∧ v.a = u.a ∧ v.b = u.b ∧ v.fin = u.fin ∧ v.data = u.data ∧ v.spans.length = u.spans.length)))), g2) := by
      intro b hh
      cases b with
      | true => rw [decide_eq_true (hh.1 rfl)]
      | false => rw [decide_eq_false (fun hn => by have := hh.2 hn; cases this)]
    refine .ldI C1 rfl (.ldI C2 rfl (.condNE (fun c => .retL (hb ?_)) (fun c1 => ?_)))
    · simp only [true_iff]; exact fun hh => c (by rw [e1, d1]; exact hh.1)
    refine .ldI C1 rfl (.ldI C2 rfl (.condNE (fun c => .retL (hb ?_)) (fun c2 => ?_)))
    · simp only [true_iff]; exact fun hh => c (by rw [e2, d2]; exact hh.2.1)
    refine .ldI C1 rfl (.ldI C2 rfl (.condNE (fun c => .retL (hb ?_)) (fun c3 => ?_)))
    · simp only [true_iff]; exact fun hh => c (by rw [e3, d3]; exact hh.2.2.1)
    refine .ldI C1 rfl (.ldI C2 rfl (.condNE (fun c => .retL (hb ?_)) (fun c4 => ?_)))
    · simp only [true_iff]; exact fun hh => c (by rw [e4, d4]; exact hh.2.2.2.1)
    refine .ldI C1 rfl (.ldI C2 rfl (.condNE (fun c => .retL (hb ?_)) (fun c5 => ?_)))
    · simp only [true_iff]; exact fun hh => c (by rw [e5, d5]; exact hh.2.2.2.2.1)
    refine .ldB C1 rfl (.ldB C2 rfl (.condN (fun c => .retL (hb ?_)) (fun c6 => ?_)))
    · simp only [true_iff]; exact fun hh => by rw [e7, d7, hh.2.2.2.2.2.1] at c; simp at c
    refine .ldL C1 rfl (.callE (strT_ok rx.data) (.ldL C2 rfl (.callE (strT_ok ry.data) ?_)))
    rw [bs_eq]
    refine .condND (fun c => .retL (hb ?_)) (fun c7 => .ldL C1 rfl (.ldL C2 rfl (.retL (hb ?_))))
    · simp only [true_iff]; exact fun hh => c hh.2.2.2.2.2.2.1
    · rw [e1, d1] at c1; rw [e2, d2] at c2; rw [e3, d3] at c3; rw [e4, d4] at c4; rw [e5, d5] at c5; rw [e7, d7] at c6
      rw [l1, l2, bne_iff_ne]
      have c6' : v.fin = u.fin := by simpa using c6
      constructor
      · intro hh hn; exact hh (by rw [hn.2.2.2.2.2.2.2])
      · intro hh hn; exact hh ⟨c1, c2, c3, c4, c5, c6', c7, by omega⟩
  rintro _ rfl
  refine .condD (fun c => .ret ⟨(decide_eq_false fun hh => c ⟨hh.1, hh.2.1, hh.2.2.1, hh.2.2.2.1, hh.2.2.2.2.1, hh.2.2.2.2.2.1, hh.2.2.2.2.2.2.1, by rw [hh.2.2.2.2.2.2.2]⟩).symm, X⟩) (fun c => ?_)
  obtain ⟨o1, o2, o3, o4, o5, o6, o7, o8⟩ := Decidable.byContradiction c
  refine PO.loop (fun m st => ∃ i : Nat, st = ((some ⟨h.size, 0, some 0⟩, (some ⟨g1.size, 0, some 0⟩, (i : Int))), g2) ∧ m + i = v.spans.length ∧ v.spans.take i = u.spans.take i) ?_ v.spans.length _ ⟨0, rfl, rfl, rfl⟩
  rintro m st ⟨i, rfl, hm, ht⟩
  unfold ref1_SameFrame_l1
  refine .ptr (.ldL C1 rfl (.condD (fun cc => ?_) (fun cc => ?_)))
  · have cc' : (i : Int) < ((x.2.2.2.2.2.2.2.2.len : Nat) : Int) := cc
    refine .ptr (.ldL C1 rfl (.ixR rx.spans (by omega) (by omega) fun a _ _ _ ea _ _ => .op ea (.ptr (.ldL C2 rfl (.ixR ry.spans (by omega) (by omega) fun a _ _ _ eb _ _ => .op eb ?_)))))
    simp only [Int.toNat_natCast]
    have t1 := take_succ_getD v.spans (0, 0) (i := i) (by omega)
    have t2 := take_succ_getD u.spans (0, 0) (i := i) (by omega)
    have heq : ((v.spans.getD i (0, 0)).1 == (u.spans.getD i (0, 0)).1 && ((v.spans.getD i (0, 0)).2 == (u.spans.getD i (0, 0)).2 && true)) = decide (v.spans.getD i (0, 0) = u.spans.getD i (0, 0)) := by
      generalize v.spans.getD i (0, 0) = p
      generalize u.spans.getD i (0, 0) = q
      obtain ⟨p1, p2⟩ := p
      obtain ⟨q1, q2⟩ := q
      by_cases hp : p1 = q1 <;> by_cases hq : p2 = q2 <;> simp [hp, hq]
    have goal : PO (condK (!decide (v.spans.getD i (0, 0) = u.spans.getD i (0, 0))) (some (Sum.inr (false, g2))) (some (Sum.inl (((some ⟨h.size, 0, some 0⟩ : Option Addr), ((some ⟨g1.size, 0, some 0⟩ : Option Addr), IntKind.wrap .i64 ((i : Int) + 1))), g2)))) (Sum.elim (fun s' => ∃ n', n' < m ∧ ∃ i : Nat, s' = (((some ⟨h.size, 0, some 0⟩ : Option Addr), ((some ⟨g1.size, 0, some 0⟩ : Option Addr), (i : Int))), g2) ∧ n' + i = v.spans.length ∧ v.spans.take i = u.spans.take i) (fun (a, h1) => a = decide (sameV v u) ∧ EX h h1)) := by
      refine .condND (fun hne => .retR ⟨(decide_eq_false fun hh => hne (by rw [hh.2.2.2.2.2.2.2])).symm, X⟩) (fun he => .retL ⟨m - 1, by omega, i + 1, ?_, by omega, ?_⟩)
      · rw [w64 (n := (i : Int) + 1) (by omega) (by omega)]; rfl
      · rw [t1, t2, ht, he]
    rw [← heq] at goal
    exact goal
  · have cc' : ¬ (i : Int) < ((x.2.2.2.2.2.2.2.2.len : Nat) : Int) := cc
    have : i = v.spans.length := by omega
    subst this
    rw [List.take_of_length_le (Nat.le_refl _), o8, List.take_of_length_le (Nat.le_refl _)] at ht
    exact .retR ⟨(decide_eq_true ⟨o1, o2, o3, o4, o5, o6, o7, ht⟩).symm, X⟩
theorem RSameFrames_f {h : H} (w : WF h) {s t : Sl} {xs ys : List F9} {vs us : List FV} (r : RdF h s xs vs) (q : RdF h t ys us) (hn : vs.length ≤ 2 ^ 40) (hz : SzOK vs) : PO (ref1_SameFrames s t h) (fun (a, h1) => a = decide (sameFs vs us) ∧ EX h h1) := by
  unfold ref1_SameFrames P.ref1_SameFrames
  have l1 := RdF.len r
  have l2 := RdF.len q
  refine .condNE (fun hne => .ret ⟨(decide_eq_false fun hh => ?_).symm, EX.refl w⟩) (fun he => ?_)
  · exact hne (by rw [l1, l2, sameFs_len hh])
  have hll : vs.length = us.length := by omega
  refine PO.loop (fun m st => ∃ (i : Nat) (h' : H), st = ((s, (t, (i : Int))), h') ∧ m + i = vs.length ∧ EX h h' ∧ (sameFs vs us ↔ sameFs (vs.drop i) (us.drop i))) ?_ vs.length _ ⟨0, h, rfl, rfl, EX.refl w, Iff.rfl⟩
  rintro m st ⟨i, h', rfl, hm, hx, ht⟩
  unfold P.ref1_SameFrames_l1
  refine .condD (fun c => ?_) (fun c => ?_)
  · have c' : (i : Int) < ((s.len : Nat) : Int) := c
    have hil : i < vs.length := by omega
    rw [sameFs_drop hil (by omega)] at ht
    refine PO.ixF (r.ex hx) (by omega) (by omega) fun a _ _ _ e1 fr => .op e1 ?_
    simp only [Int.toNat_natCast] at fr ⊢
    have hv := hz _ (getD_mem vs fv0 hil)
    generalize vs.getD i fv0 = v at *
    generalize xs.getD i f90 = x at *
    refine PO.ixF (q.ex hx) (by omega) (by omega) fun a _ _ _ e2 fq => .op e2 ?_
    simp only [Int.toNat_natCast] at fq ⊢
    generalize us.getD i fv0 = u at *
    generalize ys.getD i f90 = y at *
    refine PO.call (RSameFrame_f hx.wf fr fq hv.1 hv.2) fun a h4 ⟨ea, x4⟩ => ?_
    subst ea
    refine .condND (fun hy => .retR ⟨(decide_eq_false fun hh => hy (ht.1 hh).1).symm, hx.trans x4⟩) (fun hy => .retL ⟨m - 1, by omega, i + 1, h4, ?_, by omega, hx.trans x4, ?_⟩)
    · rw [w64 (by omega) (by omega)]; rfl
    · exact ht.trans ⟨fun hh => hh.2, fun hh => ⟨hy, hh⟩⟩
  · have c' : ¬ (i : Int) < ((s.len : Nat) : Int) := c
    have : i = vs.length := by omega
    subst this
    refine .retR ⟨(decide_eq_true (ht.2 ?_)).symm, hx⟩
    rw [List.drop_length, hll, List.drop_length]
    trivial
/-! what is laid is read -/
theorem foldl_be : ∀ (m x : Nat) (c : Int), (be m x).foldl (fun c b => c * 256 + (b.toNat : Int)) c = c * 256 ^ m + ((x % 256 ^ m : Nat) : Int)
  | 0, x, c => by simp [be, Nat.mod_one]
  | m + 1, x, c => by
    simp only [be, List.foldl_cons]
    rw [foldl_be m x]
    have h1 : x % 256 ^ (m + 1) = (x / 256 ^ m % 256) * 256 ^ m + x % 256 ^ m := by
      rw [Nat.pow_succ, Nat.mod_mul, Nat.add_comm, Nat.mul_comm]
    rw [h1, UInt8.toNat_ofNat', Int.pow_succ]
    simp only [Int.natCast_add, Int.natCast_mul, Int.natCast_pow]
    rw [Int.add_mul, Int.mul_assoc, Int.mul_comm 256 (256 ^ m)]
    have : ((2 ^ 8 : Nat)) = 256 := rfl
    rw [this]
    have e2 : ((256 : Nat) : Int) = 256 := rfl
    rw [e2]; omega
theorem cutV_be (m x : Nat) (h : x < 256 ^ m) : cutV (be m x) = (x : Int) := by
  unfold cutV; rw [foldl_be, Nat.mod_eq_of_lt h]; simp
theorem sp_pow (k : Nat) (h1 : 1 ≤ k) (h2 : k ≤ 4) : sp (k : Int) = ((256 ^ k : Nat) : Int) := by
  rcases (by omega : k = 1 ∨ k = 2 ∨ k = 3 ∨ k = 4) with rfl | rfl | rfl | rfl <;> rfl
theorem bk_near (n x s : Int) (hs : 0 < s) (h1 : 0 ≤ x) (h0 : 0 ≤ n) (h3 : 2 * (n - x) ≤ s) (h3' : 2 * (x - n) < s) (h4 : n ≤ 4611686018427387903) : bk (n % s) s x = n := by
  by_cases hx : x ≤ n
  · exact bk_self n x s hs h1 hx h3 h4 (by omega)
  · unfold bk
    have e : (n % s - x) % s = n - x + s := by
      have e1 : (n % s - x) % s = (n - x) % s := by rw [Int.sub_emod, Int.emod_emod_of_dvd _ (Int.dvd_refl s), ← Int.sub_emod]
      have e2 : (n - x) % s = (n - x + s) % s := by rw [Int.add_emod_right]
      rw [e1, e2, Int.emod_eq_of_lt (by omega) (by omega)]
    rw [e, if_neg (by omega)]
    split
    · rw [if_neg (by omega)]; omega
    · omega
theorem nb_sp {d : Int} (h : 1 ≤ d) (h2 : d ≤ 2147483648) : 2 * d ≤ sp (nb d) := by
  unfold nb sp
  by_cases c1 : d ≤ 128
  · rw [if_pos c1, if_pos rfl]; omega
  · rw [if_neg c1]
    by_cases c2 : d ≤ 32768
    · rw [if_pos c2, if_neg (by omega), if_pos rfl]; omega
    · rw [if_neg c2]
      by_cases c3 : d ≤ 8388608
      · rw [if_pos c3, if_neg (by omega), if_neg (by omega), if_pos rfl]; omega
      · rw [if_neg c3, if_neg (by omega), if_neg (by omega), if_neg (by omega)]; omega
/-- a packet taken apart -/
theorem pkt_parts {key num acked : Int} {vs : List FV} : ∃ kn : Nat, nb (num - acked) = (kn : Int) ∧ 1 ≤ kn ∧ kn ≤ 4 ∧ ((pktB key num acked vs).getD 0 0).toNat = 63 + kn ∧
    (pktB key num acked vs).take (1 + kn) = headV num (nb (num - acked)) ∧ (pktB key num acked vs).drop (1 + kn) = closeV key num (headV num (nb (num - acked))) (layFs vs) ∧ (pktB key num acked vs).drop 1 = be kn (num % sp kn).toNat ++ closeV key num (headV num (nb (num - acked))) (layFs vs) := by
  have h1 := nb_rng (num - acked)
  obtain ⟨kn, hk⟩ : ∃ kn : Nat, nb (num - acked) = (kn : Int) := ⟨(nb (num - acked)).toNat, by omega⟩
  have hl := headV_length num (nb (num - acked))
  have hl' : (headV num (nb (num - acked))).length = 1 + kn := by rw [hl, hk]; rfl
  refine ⟨kn, hk, by omega, by omega, ?_, ?_, ?_, ?_⟩
  · show ((headV num (nb (num - acked)) ++ closeV key num (headV num (nb (num - acked))) (layFs vs)).getD 0 0).toNat = 63 + kn
    unfold headV
    simp only [List.cons_append, List.getD_cons_zero]
    rw [UInt8.toNat_ofNat', hk]
    have : ((63 : Int) + (kn : Int)).toNat = 63 + kn := by omega
    rw [this]; omega
  · unfold pktB; rw [← hl', List.take_left']; rfl
  · unfold pktB; rw [← hl', List.drop_left']; rfl
  · unfold pktB
    conv => lhs; arg 2; arg 1; unfold headV
    rw [hk]; rfl
theorem pktRead_hd {k2 num next : Int} {kn : Nat} {S : List UInt8} (k1 : 1 ≤ kn) (k4 : kn ≤ 4) (hS : 8 ≤ S.length) (hn : 0 ≤ next) (hnum : 0 ≤ num ∧ num ≤ 4611686018427387903) (hx : 2 * (num - next) ≤ sp kn) (hx' : 2 * (next - num) < sp kn) :
    pktRead k2 next (headV num kn ++ S) = match openV k2 num (headV num kn) S with
      | none => (0, .inl 4)
      | some body => (num, match pRead body.length body with
        | .inl _ => .inl 11
        | .inr [] => .inl 11
        | .inr (v :: vs) => .inr (v :: vs)) := by
  have hl' : (headV num (kn : Int)).length = 1 + kn := by rw [headV_length]; rfl
  have e1 : ((headV num (kn : Int) ++ S).getD 0 0).toNat = 63 + kn := by
    unfold headV
    simp only [List.cons_append, List.getD_cons_zero]
    rw [UInt8.toNat_ofNat']
    have : ((63 : Int) + (kn : Int)).toNat = 63 + kn := by omega
    rw [this]; omega
  have e2 : (headV num (kn : Int) ++ S).take (1 + kn) = headV num (kn : Int) := by rw [← hl', List.take_left']; rfl
  have e3 : (headV num (kn : Int) ++ S).drop (1 + kn) = S := by rw [← hl', List.drop_left']; rfl
  have e4 : (headV num (kn : Int) ++ S).drop 1 = be kn (num % sp kn).toNat ++ S := by
    conv => lhs; arg 2; arg 1; unfold headV
    rfl
  have hl : (headV num (kn : Int) ++ S).length = 1 + kn + S.length := by rw [List.length_append, hl']
  unfold pktRead
  rw [if_neg (by omega), e1, if_neg (by omega), if_neg (by omega)]
  have s1 : 63 + kn - 63 = kn := by omega
  have s2 : ((63 + kn : Nat) : Int) - 63 = (kn : Int) := by omega
  rw [s1, s2, e2, e3, e4, List.take_left' (be_length _ _)]
  have hsp := sp_pow kn k1 k4
  have hm := emod_b num (sp_pos (kn : Int)).1
  have hm2 : (num % sp (kn : Int)).toNat < 256 ^ kn := by
    rw [← Int.ofNat_lt, Int.toNat_of_nonneg hm.1, ← hsp]; exact hm.2
  rw [cutV_be _ _ hm2, Int.toNat_of_nonneg hm.1]
  rw [bk_near num next _ (sp_pos _).1 hn hnum.1 hx hx' hnum.2]
  rfl
theorem pktRead_of {key k2 num acked next : Int} {vs : List FV} (hn : 0 ≤ next) (hnum : 0 ≤ num ∧ num ≤ 4611686018427387903) (hx : 2 * (num - next) ≤ sp (nb (num - acked))) (hx' : 2 * (next - num) < sp (nb (num - acked))) :
    pktRead k2 next (pktB key num acked vs) = match openV k2 num (headV num (nb (num - acked))) (closeV key num (headV num (nb (num - acked))) (layFs vs)) with
      | none => (0, .inl 4)
      | some body => (num, match pRead body.length body with
        | .inl _ => .inl 11
        | .inr [] => .inl 11
        | .inr (v :: vs) => .inr (v :: vs)) := by
  have h1 := nb_rng (num - acked)
  obtain ⟨kn, hk⟩ : ∃ kn : Nat, nb (num - acked) = (kn : Int) := ⟨(nb (num - acked)).toNat, by omega⟩
  unfold pktB
  rw [hk] at hx hx' ⊢
  exact pktRead_hd (by omega) (by omega) (by rw [closeV_length]; omega) hn hnum hx hx'
theorem pkt_rt {key num acked next : Int} {vs : List FV} (hv : ∀ v ∈ vs, FR v) (hn : 0 ≤ next) (hnum : 0 ≤ num ∧ num ≤ 4611686018427387903) (hx : 2 * (num - next) ≤ sp (nb (num - acked))) (hx' : 2 * (next - num) < sp (nb (num - acked))) :
    pktRead key next (pktB key num acked vs) = (num, if vs = [] then .inl 11 else .inr (vs.map bareV)) := by
  rw [pktRead_of hn hnum hx hx', open_close]
  simp only
  rw [pRead_lay hv]
  cases vs with
  | nil => rfl
  | cons v vs => rfl
theorem pkt_other {key k2 num acked next : Int} {vs : List FV} (hk : U64 key) (h2 : U64 k2) (hne : k2 ≠ key) (hn : 0 ≤ next) (hnum : 0 ≤ num ∧ num ≤ 4611686018427387903) (hx : 2 * (num - next) ≤ sp (nb (num - acked))) (hx' : 2 * (next - num) < sp (nb (num - acked))) :
    pktRead k2 next (pktB key num acked vs) = (0, .inl 4) := by
  rw [pktRead_of hn hnum hx hx']
  have := open_close2 key num k2 num (headV num (nb (num - acked))) (layFs vs)
  rw [decide_eq_false (fun e => hne (stepV_inj_l h2 hk e))] at this
  cases ho : openV k2 num (headV num (nb (num - acked))) (closeV key num (headV num (nb (num - acked))) (layFs vs)) with
  | none => rfl
  | some b => rw [ho] at this; simp at this
theorem known6_f {h : H} (w : WF h) : PO (law6_known h) (fun (a, h1) => a = true ∧ EX h h1) := by
  unfold law6_known P.law6_known
  refine PO.newB w fun h1 x1 B1 z1 w1 => ?_
  have r1 : RdF h1 ⟨some ⟨h.size, 0, some 0⟩, 1, 1⟩ [(1, 0, 0, 0, 0, 0, false, ⟨none, 0, 0⟩, ⟨none, 0, 0⟩)] [kv1] :=
    ⟨B1.rd w1 rfl (capOk_self _ _ (by unfold B63; omega)), ⟨⟨rfl, rfl, rfl, rfl, rfl, rfl, rfl⟩, rdB_nil _, rdR_nil _⟩, trivial⟩
  have hall : ∀ v ∈ [kv1], FR v := by decide
  have hk7 : U64 7 := ⟨by omega, by omega⟩
  have hnb : nb (3 - 2) = 1 := by decide
  have hlay : layFs [kv1] = [1] := by decide
  have hlen := pktB_length 7 3 2 [kv1]
  rw [hnb, hlay] at hlen
  have hlen' : (pktB 7 3 2 [kv1]).length = 11 := by simp at hlen; omega
  have hpl : pktLay 7 3 2 [kv1] = .inr (pktB 7 3 2 [kv1]) := by
    unfold pktLay
    rw [if_neg (by decide), if_neg (fun hh => hh hall), if_neg (by omega)]
  refine PO.call (PLay_f w1 hk7 r1 (by simp) (szok_of hall)) fun a h2 ⟨x2, ha⟩ => ?_
  rw [hpl] at ha
  obtain ⟨s1, e1⟩ := a
  obtain ⟨rb, he⟩ := ha
  have he' : e1 = 0 := he
  subst he'
  have rb' : RdB h2 s1 (pktB 7 3 2 [kv1]) := rb
  have hsp : sp (nb (3 - 2)) = 256 := by decide
  have hrt : pktRead 7 3 (pktB 7 3 2 [kv1]) = (3, .inr ([kv1].map bareV)) := by
    rw [pkt_rt hall (by omega) (by omega) (by rw [hsp]; omega) (by rw [hsp]; omega)]; rfl
  refine PO.call (PRead_f x2.wf hk7 (by omega) rb' (by omega)) fun a h3 ⟨x3, hn, hq⟩ => ?_
  rw [hrt] at hn hq
  obtain ⟨n3, s3, e3⟩ := a
  obtain ⟨⟨xs, rf⟩, he3⟩ := hq
  have he3' : e3 = 0 := he3
  subst he3'
  have hn' : n3 = 3 := hn
  subst hn'
  have hl3 : s3.len = 1 := RdF.len rf
  have hs1 : s1.len = 11 := by rw [RdB.len rb', hlen']
  have g0 : (pktB 7 3 2 [kv1]).getD 0 0 = 64 := rfl
  have g1 : (pktB 7 3 2 [kv1]).getD 1 0 = 3 := rfl
  refine .callE (PRoom_f 0 (-1) (by omega) (by omega) _) (.chk' (by decide) (.chk' rfl (.chk' (by rw [hs1]; rfl) ?_)))
  refine PO.ixB (rb'.ex x3) (by omega) (by rw [hlen']; decide) fun a ea => .op ea (.chk' (by rw [show (0 : Int).toNat = 0 from rfl, g0]; rfl) ?_)
  refine PO.ixB (rb'.ex x3) (by omega) (by rw [hlen']; decide) fun a eb => .op eb (.chk' (by rw [show (1 : Int).toNat = 1 from rfl, g1]; rfl) ?_)
  refine .chk' rfl (.chk' rfl (.ret ⟨?_, (x1.trans x2).trans x3⟩))
  rw [hl3]; rfl
end Go.Proofs.Ythiccnmplgdheaa.T
/- The laws PacketRoom and PacketBack over typed texts. -/
set_option linter.unusedVariables false
set_option linter.unusedSimpArgs false
set_option maxRecDepth 100000
namespace Go.Proofs.Ythiccnmplgdheaa.T
open Go Go.Abs Go.Proofs
theorem U64_of {k : Int} (h : 0 ≤ k ∧ k < 18446744073709551616) : U64 k := ⟨h.1, h.2⟩
theorem PacketBack (key other acked far next : Int) (l : Sl) (at' by' : Int) (h : H) (w : WF h) (hk : 0 ≤ key ∧ key < 18446744073709551616) (ho : 0 ≤ other ∧ other < 18446744073709551616) (g1 : RNG acked) (g2 : RNG far) (g3 : RNG next) (xs : List F9) (us : List RV) (r : RdW h l xs us) (hn : us.length ≤ 2 ^ 50) (hz : WzOK us) (g4 : RNG at') (g5 : 0 ≤ by' ∧ by' < 256) : ∃ h', law6_PacketBack key other acked far next l at' by' h = some (true, h') := by
  refine PO.law ?_
  unfold law6_PacketBack P.law6_PacketBack
  have q1 := emod_b acked (show (0 : Int) < 1073741824 by omega)
  have q2 := emod_b far (show (0 : Int) < 65536 by omega)
  have uk := U64_of hk
  have uo := U64_of ho
  refine .callE (pick_f _ _ (by omega) (by omega) _) (.callE (pick_f _ _ (by omega) (by omega) _) (.letO ?_))
  generalize hA : acked % 1073741824 = A at *
  generalize hF : far % 65536 = F at *
  rw [w64 (n := A - 1) (by omega) (by omega), w64 (n := 1 + F) (by omega) (by omega), w64 (n := A - 1 + (1 + F)) (by omega) (by omega), show A - 1 + (1 + F) = A + F by omega, w64 (n := A - 1 + 1) (by omega) (by omega), show A - 1 + 1 = A by omega]
  refine PO.call (HRight_f w r hn hz (N := 2) (by omega)) fun f h1 ⟨⟨ys, vs, rf, _, hall, hlen⟩, x1, _⟩ => ?_
  have hl2 : vs.length ≤ 2 := by omega
  have hfl := layFs_length hall
  have hsz := szok_of hall
  have hfLen := RdF.len rf
  have hnb := nb_rng (A + F - (A - 1))
  have hpl := pktB_length key (A + F) (A - 1) vs
  refine PO.call (PLay_f x1.wf (num := A + F) (acked := A - 1) uk rf (by omega) hsz) fun a h2 ⟨x2, ha⟩ => ?_
  have hok : pktOK (A + F) (A - 1) := ⟨by omega, by omega, by omega, by omega⟩
  obtain ⟨s1, e1⟩ := a
  unfold pktLay at ha
  rw [if_neg (fun hh => hh hok), if_neg (fun hh => hh hall)] at ha
  by_cases hc : (pktB key (A + F) (A - 1) vs).length > 240
  · rw [if_pos hc] at ha
    have ha' : (s1, e1) = (⟨none, 0, 0⟩, 9) := ha
    simp only [Prod.mk.injEq] at ha'
    obtain ⟨rfl, rfl⟩ := ha'
    refine .condNE (fun _ => ?_) (fun hh => absurd hh (by omega))
    refine PO.join (fun st => st.1 = true) ?_ (fun st hst => .ret hst)
    refine PO.call (known6_f x2.wf) fun a h3 ⟨ea, x3⟩ => ?_
    subst ea
    exact .chk' rfl (.retL rfl)
  rw [if_neg hc] at ha
  obtain ⟨rb, he⟩ := ha
  have he' : e1 = 0 := he
  subst he'
  have rb' : RdB h2 s1 (pktB key (A + F) (A - 1) vs) := rb
  have hsl := RdB.len rb'
  have q3 := emod_b next (show (0 : Int) < 1 + F by omega)
  refine .condNE (fun hh => absurd rfl hh) (fun _ => .callE (pick_f _ _ (by omega) (by omega) _) ?_)
  generalize next % (1 + F) = X at *
  rw [w64 (n := A + X) (by omega) (by omega)]
  have hsp := nb_sp (d := A + F - (A - 1)) (by omega) (by omega)
  have hx1 : 2 * ((A + F) - (A + X)) ≤ sp (nb (A + F - (A - 1))) := by omega
  have hx2 : 2 * ((A + X) - (A + F)) < sp (nb (A + F - (A - 1))) := by omega
  have hrt := pkt_rt (key := key) (num := A + F) (acked := A - 1) (next := A + X) hall (by omega) (by omega) hx1 hx2
  refine .letO (PO.call (PRead_f x2.wf uk (next := A + X) (by omega) rb' (by omega)) fun a h3 ⟨x3, hn3, hq⟩ => ?_)
  rw [hrt] at hn3 hq
  obtain ⟨n3, s3, e3⟩ := a
  have hn3' : n3 = A + F := hn3
  subst hn3'
  refine PO.join (fun st => ∃ h4, st = ((key, (other, (at', (by', (s1, (A + X, false)))))), h4) ∧ EX h3 h4) ?_ ?_
  · refine PO.call (known6_f x3.wf) fun a h4 ⟨ea, x4⟩ => ?_
    subst ea
    have hd : decide (((s1.len : Nat) : Int) > 240) = false := decide_eq_false (by omega)
    refine .condF (.condNE (fun hh => absurd rfl hh) (fun _ => .condD (fun cl => ?_) (fun cl => ?_)))
    · have hne : vs ≠ [] := fun hh => by rw [hh] at hfLen; simp at hfLen; omega
      rw [if_neg hne] at hq
      obtain ⟨⟨zs, rz⟩, he3⟩ := hq
      have he3' : e3 = 0 := he3
      subst he3'
      have rz' : RdF h3 s3 zs (vs.map bareV) := rz
      refine .condNE (fun hh => absurd rfl hh) (fun _ => PO.call (RSameFrames_f x4.wf (((rf.ex x2).ex x3).ex x4) (rz'.ex x4) (by omega) hsz) fun a h5 ⟨ea, x5⟩ => ?_)
      subst ea
      rw [decide_eq_true (sameFs_bare hall)]
      refine .condF (.condE (fun hh => absurd hh (by omega)) (fun _ => .retL ⟨h5, ?_, x4.trans x5⟩))
      rw [hd]
    · have hne : vs = [] := List.eq_nil_of_length_eq_zero (by omega)
      rw [if_pos hne] at hq
      have hq' : (s3, e3) = (⟨none, 0, 0⟩, 11) := hq
      simp only [Prod.mk.injEq] at hq'
      obtain ⟨rfl, rfl⟩ := hq'
      refine .condE (fun _ => .condNE (fun hh => absurd rfl hh) (fun _ => .retL ⟨h4, ?_, x4⟩)) (fun hh => absurd (by rw [hfLen, hne]; rfl) hh)
      rw [hd]
  rintro _ ⟨h4, rfl, x4⟩
  have rb4 := (rb'.ex x3).ex x4
  refine .condF (PO.call (PRead_f x4.wf uo (next := A + X) (by omega) rb4 (by omega)) fun a h5 ⟨x5, hn5, hq5⟩ => ?_)
  obtain ⟨n5, s5, e5⟩ := a
  have h45 : (e5 == 4) = (other != key) := by
    by_cases hke : other = key
    · rw [hke, hrt] at hq5
      have : ¬ e5 = 4 := by
        by_cases hv : vs = []
        · rw [if_pos hv] at hq5
          have hq' : (s5, e5) = (⟨none, 0, 0⟩, 11) := hq5
          simp only [Prod.mk.injEq] at hq'
          omega
        · rw [if_neg hv] at hq5
          have := hq5.2
          have h' : e5 = 0 := this
          omega
      simp [hke, this]
    · rw [pkt_other uk uo hke (by omega) (by omega) hx1 hx2] at hq5
      have hq' : (s5, e5) = (⟨none, 0, 0⟩, 4) := hq5
      simp only [Prod.mk.injEq] at hq'
      simp [hke, hq'.2]
  refine .condN (fun hh => ?_) (fun _ => ?_)
  · have hh' : ((e5 == 4) == (other != key)) = false := hh
    rw [h45, beq_self_eq_true] at hh'; cases hh'
  obtain ⟨kn, hkn, k1, k4, e0, e2, e3', e4'⟩ := pkt_parts (key := key) (num := A + F) (acked := A - 1) (vs := vs)
  have rb5 := rb4.ex x5
  have hgd : ∀ z : Int, z.toNat = 0 → (((pktB key (A + F) (A - 1) vs).getD z.toNat 0).toNat : Int) = 63 + kn := fun z hz => by rw [hz, e0]; omega
  refine PO.join (fun st => st = ((key, (at', (by', (s1, (A + X, decide (by' = 0)))))), h5)) ?_ ?_
  · refine .condE (fun c0 => .retL ?_) (fun c0 => .condD (fun hh => absurd hh (by omega)) (fun _ => PO.ixB rb5 (by omega) (by omega) fun a ea => .op ea (.letO (.retL ?_))))
    · rw [decide_eq_true (show by' = 0 from c0)]
    · rw [hgd 0 rfl, w64 (n := 63 + (kn : Int)) (by omega) (by omega), w64 (n := 63 + (kn : Int) - 62) (by omega) (by omega), decide_eq_false (show ¬ by' = 0 from c0), decide_eq_false (by omega)]
  rintro _ rfl
  refine .condD (fun c0 => .ret ?_) (fun c0 => ?_)
  · have c0' : by' = 0 := c0
    rw [c0']; rfl
  obtain ⟨y, h6, e6, x6, b6, f6⟩ := Few_f x5.wf rb5 (by omega) (n := ((s1.len : Nat) : Int)) (by omega)
  rw [Int.toNat_natCast, List.take_of_length_le (by omega)] at b6
  have hyl := RdB.len b6.rd
  refine .callE e6 (PO.ixB (rb5.ex x6) (by omega) (by omega) fun a ea => .op ea (.letO ?_))
  rw [hgd 0 rfl, w64 (n := 63 + (kn : Int)) (by omega) (by omega), w64 (n := 63 + (kn : Int) - 62) (by omega) (by omega), w64 (n := ((y.len : Nat) : Int) - (63 + (kn : Int) - 62)) (by omega) (by omega)]
  refine .callE (pick_f _ _ (by omega) (by omega) _) (.letO ?_)
  have q4 := emod_b at' (show (0 : Int) < ((y.len : Nat) : Int) - (63 + (kn : Int) - 62) by omega)
  generalize at' % (((y.len : Nat) : Int) - (63 + (kn : Int) - 62)) = p at *
  rw [w64 (n := 63 + (kn : Int) - 62 + p) (by omega) (by omega)]
  obtain ⟨v, rfl⟩ : ∃ v : UInt8, by' = (v.toNat : Int) := ⟨UInt8.ofNat by'.toNat, by rw [UInt8.toNat_ofNat']; omega⟩
  have hv : v ≠ 0 := by rintro rfl; exact c0 rfl
  obtain ⟨pn, hpn⟩ : ∃ pn : Nat, p = (pn : Int) := ⟨p.toNat, by omega⟩
  subst hpn
  have hidx : 63 + (kn : Int) - 62 + (pn : Int) = ((1 + kn + pn : Nat) : Int) := by omega
  rw [hidx]
  obtain ⟨a, ha, i1, i2⟩ := b6.rd.at (i := ((1 + kn + pn : Nat) : Int)) (by omega) (by omega)
  rw [Int.toNat_natCast] at i1 i2
  refine .op i1 (.op i2 (.letO (.op i1 ?_)))
  rw [xor8]
  obtain ⟨h7, e7, w7, b7, y7⟩ := st1_bufB (v := (pktB key (A + F) (A - 1) vs).getD (1 + kn + pn) 0 ^^^ v) b6 ha (i := 1 + kn + pn) (by omega) x6.wf
  refine .op e7 ?_
  have hset : (pktB key (A + F) (A - 1) vs).set (1 + kn + pn) ((pktB key (A + F) (A - 1) vs).getD (1 + kn + pn) 0 ^^^ v) = headV (A + F) (nb (A + F - (A - 1))) ++ (closeV key (A + F) (headV (A + F) (nb (A + F - (A - 1)))) (layFs vs)).set pn ((closeV key (A + F) (headV (A + F) (nb (A + F - (A - 1)))) (layFs vs)).getD pn 0 ^^^ v) := by
    have hh : (headV (A + F) (nb (A + F - (A - 1)))).length = 1 + kn := by rw [headV_length, hkn]; rfl
    unfold pktB
    rw [List.set_append, if_neg (by omega), hh, show 1 + kn + pn - (1 + kn) = pn by omega]
    congr 2
    rw [List.getD_eq_getElem?_getD, List.getElem?_append_right (by omega), hh, show 1 + kn + pn - (1 + kn) = pn by omega, ← List.getD_eq_getElem?_getD]
  have hcl := closeV_length key (A + F) (headV (A + F) (nb (A + F - (A - 1)))) (layFs vs)
  have hos := open_setseal key (A + F) (headV (A + F) (nb (A + F - (A - 1)))) (layFs vs) pn _ (by omega) (xor_ne (a := (closeV key (A + F) (headV (A + F) (nb (A + F - (A - 1)))) (layFs vs)).getD pn 0) hv)
  have b7' := b7.rd
  rw [hset] at b7'
  refine PO.call (PRead_f w7 uk (next := A + X) (by omega) b7' (by rw [← hset, List.length_set]; omega)) fun a h8 ⟨x8, _, hq8⟩ => .ret ?_
  obtain ⟨n8, s8, e8⟩ := a
  have hpr : (pktRead key (A + X) (headV (A + F) (nb (A + F - (A - 1))) ++ (closeV key (A + F) (headV (A + F) (nb (A + F - (A - 1)))) (layFs vs)).set pn ((closeV key (A + F) (headV (A + F) (nb (A + F - (A - 1)))) (layFs vs)).getD pn 0 ^^^ v))).2 = .inl 4 := by
    rw [hkn] at hos hx1 hx2 hcl ⊢
    rw [pktRead_hd k1 k4 (by rw [List.length_set]; omega) (by omega) (by omega) hx1 hx2]
    cases ho : openV key (A + F) (headV (A + F) (kn : Int)) ((closeV key (A + F) (headV (A + F) (kn : Int)) (layFs vs)).set pn ((closeV key (A + F) (headV (A + F) (kn : Int)) (layFs vs)).getD pn 0 ^^^ v)) with
    | none => rfl
    | some b => rw [ho] at hos; simp at hos
  rw [hpr] at hq8
  have hq' : (s8, e8) = (⟨none, 0, 0⟩, 4) := hq8
  simp only [Prod.mk.injEq] at hq'
  show (e8 == 4) = true
  rw [hq'.2]; rfl
end Go.Proofs.Ythiccnmplgdheaa.T
/- A slice of raw frames (structs of six whole numbers, a bool, a slice of bytes and a slice of whole numbers) as a parameter. -/
set_option linter.unusedVariables false
set_option linter.unusedSimpArgs false
namespace Go.Abs
open Go Go.ChangeShapes Go.WideShapes Go.RowKit
structure RawA where
  k : Int
  id : Int
  off : Int
  a : Int
  b : Int
  bend : Int
  fin : Bool
  data : Part
  spans : Part
def IsInts (W : World) (y : Part) : Prop := IsRow .i64 W y.1 y.2.1 y.2.2.1 y.2.2.2 ∧ y.2.1 * 8 ≤ 140737488351232
def rawCells (y : RawA) : List Value := [.int .i64 y.k, .int .i64 y.id, .int .i64 y.off, .int .i64 y.a, .int .i64 y.b, .int .i64 y.bend, .bool y.fin, .slice y.data.1 y.data.2.1 y.data.2.2.1, .slice y.spans.1 y.spans.2.1 y.spans.2.2.1]
def IsRaw (W : World) (y : RawA) : Prop := IsPart W y.data ∧ IsInts W y.spans
def IsRowW (W : World) (a : Option Addr) (len cap : Nat) (ys : List RawA) : Prop :=
  (a = none ∧ len = 0 ∧ cap = 0 ∧ ys = []) ∨
  ∃ x, a = some x ∧ len ≤ cap ∧ cap ≤ maxLen ∧ ys.length = len ∧ ∀ i y, ys[i]? = some y → W.cells? 0 (x.add (i * 9)) 9 = some (rawCells y) ∧ IsRaw W y
theorem one_of_take {cs : List Value} {i : Nat} {v : Value} (h : (cs.drop i).take 1 = [v]) : cs[i]? = some v := by
  have : ((cs.drop i).take 1)[0]? = some v := by rw [h]; rfl
  rwa [List.getElem?_take_of_lt (by omega), List.getElem?_drop, Nat.add_zero] at this
theorem list9 {cs : List Value} {v0 v1 v2 v3 v4 v5 v6 v7 v8 : Value} (hl : cs.length = 9) (h0 : cs[0]? = some v0) (h1 : cs[1]? = some v1) (h2 : cs[2]? = some v2) (h3 : cs[3]? = some v3) (h4 : cs[4]? = some v4) (h5 : cs[5]? = some v5) (h6 : cs[6]? = some v6) (h7 : cs[7]? = some v7) (h8 : cs[8]? = some v8) : cs = [v0, v1, v2, v3, v4, v5, v6, v7, v8] := by
  match cs, hl with
  | [a0, a1, a2, a3, a4, a5, a6, a7, a8], _ => simp at h0 h1 h2 h3 h4 h5 h6 h7 h8; simp_all
theorem isPart_of {H : Type} {enc : TypeId × Value → H} {P : Program} {W : World} {t e : TypeId} {fuel : Nat} {cs : List Value} {x : DataW H × List MemPlace} {ts : List TypeId} {ds : List (DataW H)} {j : Nat} {k : IntKind} {B : Nat}
    (hsz : (DataW.weightsEach P ts ds).all (· ≤ reachBytes) = true) (ht : ts[j]? = some t) (hd : ds[j]? = some x.1) (hu : P.underlying t = some (.slice e)) (he : P.underlying e = some (.int k)) (hc : P.cellsOf e = 1) (hB : P.bytesOf e = B)
    (h : DataW.trod enc P W 0 (fun _ => true) true fuel t cs = some x) : ∃ y : Part, cs = [.slice y.1 y.2.1 y.2.2.1] ∧ IsRow k W y.1 y.2.1 y.2.2.1 y.2.2.2 ∧ y.2.1 * B ≤ 140737488351232 := by
  rcases open_ints hu he hc h with ⟨hcs, _⟩ | ⟨x', l', c', zs, hcs, _⟩
  · subst hcs
    exact ⟨(none, 0, 0, []), rfl, .inl ⟨rfl, rfl, rfl, rfl⟩, by simp⟩
  · subst hcs
    have hT : DataW.Trod enc P W 0 (fun _ => true) true t (.slice (some x') l' c') x.1 x.2 := ⟨fuel, by simpa [Value.cells] using h⟩
    obtain ⟨zs', hz'⟩ := isRow_of hu he hc hT
    exact ⟨(some x', l', c', zs'), rfl, hz', sized_ints hsz ht hd hu he hc hB hT⟩
abbrev flds (tI tB tD tS : TypeId) : List (TypeId × Nat) := [(tI, 0), (tI, 1), (tI, 2), (tI, 3), (tI, 4), (tI, 5), (tB, 6), (tD, 7), (tS, 8)]
theorem isRowW_of {H : Type} {enc : TypeId × Value → H} {P : Program} {W : World} {t e tI tB tD tU tS : TypeId} {fs : Array Field} {a : Option Addr} {len cap : Nat} {d : DataW H} {ps : List MemPlace} {ts : List TypeId} {ds : List (DataW H)} {j : Nat}
    (hsz : (DataW.weightsEach P ts ds).all (· ≤ reachBytes) = true) (ht : ts[j]? = some t) (hd : ds[j]? = some d)
    (hu : P.underlying t = some (.slice e)) (he : P.underlying e = some (.struct fs)) (hF : fs.toList.map (fun f => (f.type, f.offset)) = flds tI tB tD tS)
    (hc : P.cellsOf e = 9) (hB : P.bytesOf e = 104) (hI : P.underlying tI = some (.int .i64)) (cI : P.cellsOf tI = 1) (bI : P.bytesOf tI = 8) (hBo : P.underlying tB = some .bool) (cB : P.cellsOf tB = 1)
    (hD : P.underlying tD = some (.slice tU)) (cD : P.cellsOf tD = 1) (hU : P.underlying tU = some (.int .u8)) (cU : P.cellsOf tU = 1) (bU : P.bytesOf tU = 1) (hS : P.underlying tS = some (.slice tI)) (cS : P.cellsOf tS = 1)
    (h : DataW.Trod enc P W 0 (fun _ => true) true t (.slice a len cap) d ps) : ∃ ys, IsRowW W a len cap ys ∧ len * 104 ≤ 140737488351232 := by
  obtain ⟨fuel, hf⟩ := h
  rcases DataW.trod_slice hu hf with ⟨hcs, _⟩ | ⟨x, l, c, elems, rest, n, rfl, hcs, hx, _, hl, hm, hlen, hel, hsp, _⟩
  · simp [Value.cells] at hcs
    obtain ⟨rfl, rfl, rfl⟩ := hcs
    exact ⟨[], .inl ⟨rfl, rfl, rfl, rfl⟩, by simp⟩
  · simp [Value.cells] at hcs
    obtain ⟨rfl, rfl, rfl⟩ := hcs
    obtain ⟨hx1, _⟩ := Prod.mk.inj hx
    subst hx1
    have z := sized_slice hsz ht hd hu
    rw [hB] at z
    have hz : (reachBytes : Nat) = 140737488351232 := by decide
    simp only [List.length_map] at z
    have fget : ∀ (i : Nat) (p : TypeId × Nat), (flds tI tB tD tS)[i]? = some p → ∃ f : Field, fs[i]? = some f ∧ f.type = p.1 ∧ f.offset = p.2 := by
      intro i p hp
      rw [← hF, List.getElem?_map, Option.map_eq_some_iff] at hp
      obtain ⟨f, h1, rfl⟩ := hp
      exact ⟨f, by simpa using h1, rfl, rfl⟩
    have fsz : fs.size = 9 := by have := congrArg List.length hF; simpa using this
    have each : ∀ i, i < len → ∃ y : RawA, W.cells? 0 (x.add (i * 9)) 9 = some (rawCells y) ∧ IsRaw W y := by
      intro i hi
      have h1 := hel i hi
      obtain ⟨el, hel1⟩ : ∃ el, elems[i]? = some el := ⟨elems[i]'(by omega), List.getElem?_eq_getElem (by omega)⟩
      rw [hel1, hc, Option.bind_eq_some_iff] at h1
      obtain ⟨cs', h2, h3⟩ := h1
      have hw : (DataW.weightsEach P [e] [el.1]).all (· ≤ reachBytes) = true := by
        rw [List.all_eq_true]
        intro m hm'
        refine List.all_eq_true.1 hsz m (DataW.weights_mem_each ht hd m ?_)
        simp only [DataW.weights, hu, List.mem_cons, List.mem_append]
        refine .inr (.inl (weights_all (d := el.1) (List.mem_map.2 ⟨el, List.mem_of_getElem? hel1, rfl⟩) m ?_))
        simpa [DataW.weightsEach] using hm'
      obtain ⟨xs, n', rfl, rfl, hl9, hxl, hxf⟩ := DataW.trod_struct he h3
      rw [hc] at hl9
      rw [fsz] at hxl
      have hw' : (DataW.weightsEach P (fs.toList.map (·.type)) (xs.map (·.1))).all (· ≤ reachBytes) = true := by
        simpa [DataW.weightsEach, DataW.weights, he] using hw
      have fld : ∀ (i : Nat) (p : TypeId × Nat), (flds tI tB tD tS)[i]? = some p → ∃ y, xs[i]? = some y ∧ DataW.trod enc P W 0 (fun _ => true) true n' p.1 ((cs'.drop p.2).take (P.cellsOf p.1)) = some y := by
        intro i p hp
        obtain ⟨f, h1, h2, h3⟩ := fget i p hp
        have hi9 : i < 9 := (List.getElem?_eq_some_iff.1 hp).1
        have := hxf i f h1
        rw [h2, h3] at this
        exact ⟨xs[i]'(by omega), List.getElem?_eq_getElem (by omega), by rw [this]; exact List.getElem?_eq_getElem (by omega)⟩
      have int : ∀ (i : Nat), (flds tI tB tD tS)[i]? = some (tI, i) → ∃ m : Int, cs'[i]? = some (.int .i64 m) := by
        intro i hp
        obtain ⟨y, _, hy⟩ := fld i _ hp
        rw [cI] at hy
        obtain ⟨m, hm, _⟩ := DataW.trod_int hI hy
        exact ⟨m, one_of_take hm⟩
      obtain ⟨m0, c0⟩ := int 0 rfl
      obtain ⟨m1, c1⟩ := int 1 rfl
      obtain ⟨m2, c2⟩ := int 2 rfl
      obtain ⟨m3, c3⟩ := int 3 rfl
      obtain ⟨m4, c4⟩ := int 4 rfl
      obtain ⟨m5, c5⟩ := int 5 rfl
      obtain ⟨y6, _, hy6⟩ := fld 6 (tB, 6) rfl
      rw [cB] at hy6
      obtain ⟨b6, hb6, _⟩ := DataW.trod_bool hBo hy6
      have c6 := one_of_take hb6
      have tsj : ∀ (i : Nat) (p : TypeId × Nat), (flds tI tB tD tS)[i]? = some p → (fs.toList.map (·.type))[i]? = some p.1 := by
        intro i p hp
        obtain ⟨f, h1, h2, _⟩ := fget i p hp
        rw [List.getElem?_map, Option.map_eq_some_iff]
        exact ⟨f, by simpa using h1, h2⟩
      obtain ⟨y7, hx7, hy7⟩ := fld 7 (tD, 7) rfl
      rw [cD] at hy7
      obtain ⟨p7, hp7, hr7, hs7⟩ := isPart_of (j := 7) hw' (tsj 7 (tD, 7) rfl) (by rw [List.getElem?_map, hx7]; rfl) hD hU cU bU hy7
      obtain ⟨y8, hx8, hy8⟩ := fld 8 (tS, 8) rfl
      rw [cS] at hy8
      obtain ⟨p8, hp8, hr8, hs8⟩ := isPart_of (j := 8) hw' (tsj 8 (tS, 8) rfl) (by rw [List.getElem?_map, hx8]; rfl) hS hI cI bI hy8
      refine ⟨⟨m0, m1, m2, m3, m4, m5, b6, p7, p8⟩, ?_, ⟨hr7, by simpa using hs7⟩, hr8, hs8⟩
      rw [h2]
      exact congrArg some (list9 hl9 c0 c1 c2 c3 c4 c5 c6 (one_of_take hp7) (one_of_take hp8))
    have hf : ∃ f : Nat → RawA, ∀ i, i < len → W.cells? 0 (x.add (i * 9)) 9 = some (rawCells (f i)) ∧ IsRaw W (f i) :=
      ⟨fun i => if hi : i < len then Classical.choose (each i hi) else ⟨0, 0, 0, 0, 0, 0, false, (none, 0, 0, []), (none, 0, 0, [])⟩, fun i hi => by
        simp only [dif_pos hi]; exact Classical.choose_spec (each i hi)⟩
    obtain ⟨f, hf⟩ := hf
    refine ⟨(List.range len).map f, .inr ⟨x, rfl, hl, hm, by simp, fun i y hy => ?_⟩, by omega⟩
    rw [List.getElem?_map, Option.map_eq_some_iff] at hy
    obtain ⟨k, hk, rfl⟩ := hy
    obtain ⟨hk1, hk2⟩ := List.getElem?_eq_some_iff.1 hk
    rw [List.getElem_range] at hk2
    subst hk2
    exact hf i (by simpa using hk1)
end Go.Abs
