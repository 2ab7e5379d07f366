/- Lemmas about the typed texts (joined: SOrd7 SOrd8 SOrd9). -/
import Derived.Test.YthiccnmplgdheaaG7
/- Chapter 20's order: two maps that tell the same are in the same order. -/
set_option linter.unusedVariables false
set_option linter.unusedSimpArgs false
namespace Go.Proofs.Ythiccnmplgdheaa.T
open Go Go.Abs Go.Proofs
open TC (cmpI ordL before)
theorem lookI_put (x k v : Int) : ∀ es : List (Int × Int), lookI x (putI k v es) = if x = k then some v else lookI x es
  | [] => by simp only [putI, lookI]
  | (k', v') :: es => by
    unfold putI
    by_cases h1 : k = k'
    · subst h1
      rw [if_pos rfl]
      simp only [lookI]
      split <;> rfl
    · rw [if_neg h1]
      simp only [lookI, lookI_put x k v es]
      by_cases h2 : x = k'
      · subst h2
        rw [if_pos rfl, if_neg (Ne.symm h1), if_pos rfl]
      · rw [if_neg h2, if_neg h2]
theorem lookI_none {x : Int} : ∀ {es : List (Int × Int)}, x ∉ es.map (·.1) → lookI x es = none
  | [], _ => rfl
  | (k', v') :: es, h => by
    simp only [List.map_cons, List.mem_cons, not_or] at h
    simp only [lookI, if_neg h.1]
    exact lookI_none h.2
theorem lookI_mem {x : Int} : ∀ {es : List (Int × Int)}, x ∈ es.map (·.1) ↔ (lookI x es).isSome = true
  | [] => by simp [lookI]
  | (k', v') :: es => by
    simp only [List.map_cons, List.mem_cons, lookI]
    by_cases h : x = k'
    · subst h; simp
    · rw [if_neg h]
      constructor
      · rintro (e | e)
        · exact absurd e h
        · exact lookI_mem.1 e
      · exact fun e => .inr (lookI_mem.2 e)
theorem dropI_sub (k : Int) : ∀ es : List (Int × Int), ((dropI k es).map (·.1)).Sublist (es.map (·.1))
  | [] => .slnil
  | (k', v') :: es => by
    unfold dropI
    split
    · exact List.sublist_cons_self _ _
    · exact (dropI_sub k es).cons_cons _
theorem lookI_drop (x k : Int) : ∀ es : List (Int × Int), (es.map (·.1)).Nodup → lookI x (dropI k es) = if x = k then none else lookI x es
  | [], _ => by simp [dropI, lookI]
  | (k', v') :: es, hn => by
    simp only [List.map_cons, List.nodup_cons] at hn
    unfold dropI
    by_cases h1 : k = k'
    · subst h1
      rw [if_pos rfl]
      by_cases h2 : x = k
      · subst h2; rw [if_pos rfl]; exact lookI_none hn.1
      · rw [if_neg h2]; simp only [lookI, if_neg h2]
    · rw [if_neg h1]
      simp only [lookI, lookI_drop x k es hn.2]
      by_cases h2 : x = k'
      · subst h2
        rw [if_pos rfl, if_neg (Ne.symm h1), if_pos rfl]
      · rw [if_neg h2, if_neg h2]
theorem ordL_congr {es es' : List (Int × Int)} (hn : (es.map (·.1)).Nodup) (hn' : (es'.map (·.1)).Nodup) (h : ∀ k, lookI k es = lookI k es') : ordL es = ordL es' := by
  refine ordL_eq hn ((TC.ordL_perm es').trans ?_) ?_
  · exact (List.perm_ext_iff_of_nodup hn' hn).2 fun x => by rw [lookI_mem, lookI_mem, h]
  · refine (TC.ordL_sorted es' hn').imp ?_
    intro a b hb
    unfold before getI at hb ⊢
    rw [h a, h b]; exact hb
theorem nodup_put (k v : Int) {es : List (Int × Int)} (hn : (es.map (·.1)).Nodup) : ((putI k v es).map (·.1)).Nodup := by
  induction es with
  | nil => simp [putI]
  | cons p es ih =>
    obtain ⟨k', v'⟩ := p
    simp only [List.map_cons, List.nodup_cons] at hn
    unfold putI
    by_cases h1 : k = k'
    · subst h1; rw [if_pos rfl]; simpa using hn
    · rw [if_neg h1]
      simp only [List.map_cons, List.nodup_cons]
      refine ⟨fun hm => ?_, ih hn.2⟩
      rw [lookI_mem, lookI_put, if_neg (Ne.symm h1), ← lookI_mem] at hm
      exact hn.1 hm
end Go.Proofs.Ythiccnmplgdheaa.T
/- OrderTwice's plain law: put in another order it is in the same one. -/
set_option linter.unusedVariables false
set_option linter.unusedSimpArgs false
namespace Go.Proofs.Ythiccnmplgdheaa.T
open Go Go.Abs Go.Proofs
open TC (cmpI ordL before)
def esA (v : Nat → Int) : Nat → List (Int × Int)
  | 0 => []
  | i + 1 => putI ((i % 30 : Nat) : Int) (v i) (esA v i)
def esB (v : Nat → Int) (n k : Nat) : Nat → List (Int × Int)
  | 0 => []
  | i + 1 => if (i + k) % n + 30 < n then esB v n k i else putI (((i + k) % n % 30 : Nat) : Int) (v ((i + k) % n)) (esB v n k i)
theorem esA_look (v : Nat → Int) (id : Int) : ∀ m, (∃ i, i < m ∧ ((i % 30 : Nat) : Int) = id ∧ (∀ j, i < j → j < m → ((j % 30 : Nat) : Int) ≠ id) ∧ lookI id (esA v m) = some (v i)) ∨ ((∀ i, i < m → ((i % 30 : Nat) : Int) ≠ id) ∧ lookI id (esA v m) = none)
  | 0 => .inr ⟨fun i hi => by omega, rfl⟩
  | m + 1 => by
    simp only [esA, lookI_put]
    by_cases h : id = ((m % 30 : Nat) : Int)
    · rw [if_pos h]
      exact .inl ⟨m, by omega, h.symm, fun j h1 h2 => by omega, rfl⟩
    · rw [if_neg h]
      rcases esA_look v id m with ⟨i, h1, h2, h3, h4⟩ | ⟨h1, h2⟩
      · refine .inl ⟨i, by omega, h2, fun j h5 h6 => ?_, h4⟩
        by_cases h7 : j = m
        · subst h7; exact fun e => h e.symm
        · exact h3 j h5 (by omega)
      · refine .inr ⟨fun i hi => ?_, h2⟩
        by_cases h7 : i = m
        · subst h7; exact fun e => h e.symm
        · exact h1 i (by omega)
theorem esB_look (v : Nat → Int) (n k : Nat) (id : Int) : ∀ m, (∃ i, i < m ∧ n ≤ (i + k) % n + 30 ∧ (((i + k) % n % 30 : Nat) : Int) = id ∧ lookI id (esB v n k m) = some (v ((i + k) % n))) ∨ ((∀ i, i < m → n ≤ (i + k) % n + 30 → (((i + k) % n % 30 : Nat) : Int) ≠ id) ∧ lookI id (esB v n k m) = none)
  | 0 => .inr ⟨fun i hi => by omega, rfl⟩
  | m + 1 => by
    simp only [esB]
    by_cases hs : (m + k) % n + 30 < n
    · rw [if_pos hs]
      rcases esB_look v n k id m with ⟨i, h1, h2, h3, h4⟩ | ⟨h1, h2⟩
      · exact .inl ⟨i, by omega, h2, h3, h4⟩
      · refine .inr ⟨fun i hi => ?_, h2⟩
        by_cases h7 : i = m
        · subst h7; intro h8; omega
        · exact h1 i (by omega)
    · rw [if_neg hs, lookI_put]
      by_cases h : id = (((m + k) % n % 30 : Nat) : Int)
      · rw [if_pos h]
        exact .inl ⟨m, by omega, by omega, h.symm, rfl⟩
      · rw [if_neg h]
        rcases esB_look v n k id m with ⟨i, h1, h2, h3, h4⟩ | ⟨h1, h2⟩
        · exact .inl ⟨i, by omega, h2, h3, h4⟩
        · refine .inr ⟨fun i hi => ?_, h2⟩
          by_cases h7 : i = m
          · subst h7; exact fun _ e => h e.symm
          · exact h1 i (by omega)
theorem turned_same (v : Nat → Int) (n k : Nat) (hk : k ≤ n) (id : Int) : lookI id (esA v n) = lookI id (esB v n k n) := by
  rcases esA_look v id n with ⟨i, a1, a2, a3, a4⟩ | ⟨a1, a2⟩ <;> rcases esB_look v n k id n with ⟨j, b1, b2, b3, b4⟩ | ⟨b1, b2⟩
  · have h1 : (j + k) % n < n := Nat.mod_lt _ (by omega)
    have h2 : n ≤ i + 30 := by
      rcases Nat.lt_or_ge (i + 30) n with h | h
      · exact absurd (by have : (i + 30) % 30 = i % 30 := by omega
                         rw [this]; exact a2) (a3 (i + 30) (by omega) h)
      · exact h
    have h3 : i = (j + k) % n := by
      generalize (j + k) % n = q at *
      omega
    rw [a4, b4, h3]
  · exfalso
    have h2 : n ≤ i + 30 := by
      rcases Nat.lt_or_ge (i + 30) n with h | h
      · exact absurd (by have : (i + 30) % 30 = i % 30 := by omega
                         rw [this]; exact a2) (a3 (i + 30) (by omega) h)
      · exact h
    by_cases hc : k ≤ i
    · have e : (i - k + k) % n = i := by rw [show i - k + k = i by omega]; exact Nat.mod_eq_of_lt a1
      exact b1 (i - k) (by omega) (by rw [e]; omega) (by rw [e]; exact a2)
    · have e : (i + n - k + k) % n = i := by rw [show i + n - k + k = i + n by omega, Nat.add_mod_right]; exact Nat.mod_eq_of_lt a1
      exact b1 (i + n - k) (by omega) (by rw [e]; omega) (by rw [e]; exact a2)
  · exfalso
    have h1 : (j + k) % n < n := Nat.mod_lt _ (by omega)
    exact a1 _ h1 b3
  · rw [a2, b2]
theorem esA_nodup (v : Nat → Int) : ∀ m, ((esA v m).map (·.1)).Nodup
  | 0 => by simp [esA]
  | m + 1 => nodup_put _ _ (esA_nodup v m)
theorem esB_nodup (v : Nat → Int) (n k : Nat) : ∀ m, ((esB v n k m).map (·.1)).Nodup
  | 0 => by simp [esB]
  | m + 1 => by
    simp only [esB]
    split
    · exact esB_nodup v n k m
    · exact nodup_put _ _ (esB_nodup v n k m)
theorem nodup_len : ∀ (N : Nat) (l : List Int), l.Nodup → (∀ x ∈ l, 0 ≤ x ∧ x < N) → l.length ≤ N
  | 0, l, _, hb => by
    cases l with
    | nil => exact Nat.le_refl _
    | cons x l => have := hb x (by simp); omega
  | N + 1, l, hn, hb => by
    have h1 : (l.filter fun x => !(x == (N : Int))).length ≤ N := nodup_len N _ (hn.filter _) fun x hx => by
      rw [List.mem_filter] at hx
      have := hb x hx.1
      have h2 : x ≠ N := by simpa using hx.2
      omega
    have h2 : (l.filter fun x => x == (N : Int)).length ≤ 1 := by
      have h3 := List.nodup_iff_count.1 hn (N : Int)
      rwa [List.count_eq_length_filter] at h3
    have h3 : l.length = (l.filter fun x => x == (N : Int)).length + (l.filter fun x => !(x == (N : Int))).length := by
      have := List.length_eq_countP_add_countP (fun x => x == (N : Int)) (l := l)
      rw [List.countP_eq_length_filter, List.countP_eq_length_filter] at this
      have e : (l.filter fun x => decide ¬ (x == (N : Int)) = true) = l.filter fun x => !(x == (N : Int)) := List.filter_congr fun x _ => by by_cases h : x = (N : Int) <;> simp [h]
      rw [e] at this
      exact this
    omega
theorem mem_put (k v x : Int) (es : List (Int × Int)) : x ∈ (putI k v es).map (·.1) ↔ x = k ∨ x ∈ es.map (·.1) := by
  rw [lookI_mem, lookI_mem, lookI_put]
  by_cases h : x = k
  · simp [h]
  · simp [h]
theorem good_of {es : List (Int × Int)} (hn : (es.map (·.1)).Nodup) {N : Nat} (hN : N ≤ 1000000) (hb : ∀ x : Int, x ∈ es.map (·.1) → 0 ≤ x ∧ x < (N : Int)) : OGood es :=
  ⟨hn, fun k hk => by have := hb k hk; simp [Lit.wf, IntKind.min, IntKind.max, IntKind.signed, IntKind.bits]; omega, by have := nodup_len N _ hn hb; rw [List.length_map] at this; omega⟩
theorem esA_in (v : Nat → Int) : ∀ (m : Nat) (x : Int), x ∈ (esA v m).map (·.1) → 0 ≤ x ∧ x < ((30 : Nat) : Int)
  | 0, x, hx => by simp [esA] at hx
  | m + 1, x, hx => by
    rw [esA, mem_put] at hx
    rcases hx with rfl | hx
    · omega
    · exact esA_in v m x hx
theorem esB_in (v : Nat → Int) (n k : Nat) : ∀ (m : Nat) (x : Int), x ∈ (esB v n k m).map (·.1) → 0 ≤ x ∧ x < ((30 : Nat) : Int)
  | 0, x, hx => by simp [esB] at hx
  | m + 1, x, hx => by
    rw [esB] at hx
    split at hx
    · exact esB_in v n k m x hx
    · rw [mem_put] at hx
      rcases hx with rfl | hx
      · omega
      · exact esB_in v n k m x hx
end Go.Proofs.Ythiccnmplgdheaa.T
/- Two orders and a row in one heap, apart from each other. -/
set_option linter.unusedVariables false
set_option linter.unusedSimpArgs false
namespace Go.Proofs.Ythiccnmplgdheaa.T
open Go Go.Abs Go.Proofs
open TC (cmpI ordL before)
/-- h0: the heap at the start; a, b: the orders' rows; c: a row beside -/
structure Two (h0 h : H) (a b c : Nat) (ma mb : Option Nat) (ea eb : List (Int × Int)) (l : List Value) : Prop where
  ex : EX h0 h
  oa : Ord h a ma ea
  ob : Ord h b mb eb
  box : Box h c l
  ab : a ≠ b
  ac : a ≠ c
  bc : b ≠ c
  a0 : h0.size ≤ a
  b0 : h0.size ≤ b
  c0 : h0.size ≤ c
  mab : ma ≠ some b
  mac : ma ≠ some c
  mba : mb ≠ some a
  mbc : mb ≠ some c
  mm : ∀ r, ma = some r → mb ≠ some r
  ma0 : ∀ r, ma = some r → h0.size ≤ r
  mb0 : ∀ r, mb = some r → h0.size ≤ r
section
variable {h0 h h1 : H} {a b c : Nat} {ma mb : Option Nat} {ea eb : List (Int × Int)} {l : List Value}
theorem Two.symm (T : Two h0 h a b c ma mb ea eb l) : Two h0 h b a c mb ma eb ea l :=
  ⟨T.ex, T.ob, T.oa, T.box, T.ab.symm, T.bc, T.ac, T.b0, T.a0, T.c0, T.mba, T.mbc, T.mab, T.mac, fun r hr e => T.mm r e hr, T.mb0, T.ma0⟩
theorem Two.kx (T : Two h0 h a b c ma mb ea eb l) (x : EX h h1) : Two h0 h1 a b c ma mb ea eb l :=
  ⟨T.ex.trans x, T.oa.ex x, T.ob.ex x, T.box.kx x, T.ab, T.ac, T.bc, T.a0, T.b0, T.c0, T.mab, T.mac, T.mba, T.mbc, T.mm, T.ma0, T.mb0⟩
theorem Two.wf (T : Two h0 h a b c ma mb ea eb l) : WF h := T.ex.wf
theorem Two.putA (T : Two h0 h a b c ma mb ea eb l) (d id : Int) :
    PO (order_Order_Put (some ⟨a, 0, some 0⟩) d id h) (fun (_, h') => ∃ ma', Two h0 h' a b c ma' mb (putI id d ea) eb l) := by
  refine (OPut_f T.wf T.oa d id).mono ?_
  rintro ⟨_, h'⟩ ⟨m', O', u, f⟩
  have hS : ∀ A, A < h0.size → ¬ (A = a ∨ ma = some A) := fun A hA e => by
    rcases e with e | e
    · have := T.a0; omega
    · have := T.ma0 A e; omega
  have hb : ¬ (b = a ∨ ma = some b) := fun e => e.elim (fun e => T.ab e.symm) T.mab
  have hc : ¬ (c = a ∨ ma = some c) := fun e => e.elim (fun e => T.ac e.symm) T.mac
  have bl := T.ob.box.blt
  have cl := T.box.blt
  have s0 := T.ex.size
  refine ⟨m', ⟨u.ex0 T.ex hS, O', ⟨T.ob.box.up T.wf u hb, T.ob.map.up u fun r hr e => ?_, T.ob.ne⟩, T.box.up T.wf u hc, T.ab, T.ac, T.bc, T.a0, T.b0, T.c0, ?_, ?_, T.mba, T.mbc, ?_, ?_, T.mb0⟩⟩
  · rcases e with e | e
    · subst e; exact T.mba hr
    · exact T.mm r e hr
  · rcases f with f | ⟨r, f, hr⟩
    · rw [f]; exact T.mab
    · rw [f]; intro e; cases e; omega
  · rcases f with f | ⟨r, f, hr⟩
    · rw [f]; exact T.mac
    · rw [f]; intro e; cases e; omega
  · intro r hr e
    rcases f with f | ⟨r', f, hr'⟩
    · exact T.mm r (f ▸ hr) e
    · rw [f] at hr; cases hr
      have := (T.ob.map.at_ _ e).2.1
      omega
  · intro r hr
    rcases f with f | ⟨r', f, hr'⟩
    · exact T.ma0 r (f ▸ hr)
    · rw [f] at hr; cases hr; omega
/-- the row beside is written -/
theorem Two.set (T : Two h0 h a b c ma mb ea eb l) {l' : List Value} (B : Box h1 c l') (u : UP (· = c) h h1) : Two h0 h1 a b c ma mb ea eb l' :=
  ⟨u.ex0 T.ex fun A hA e => by have := T.c0; omega, ⟨T.oa.box.up T.wf u T.ac, T.oa.map.up u fun r hr e => T.mac (hr.trans (by rw [e])), T.oa.ne⟩, ⟨T.ob.box.up T.wf u T.bc, T.ob.map.up u fun r hr e => T.mbc (hr.trans (by rw [e])), T.ob.ne⟩, B, T.ab, T.ac, T.bc, T.a0, T.b0, T.c0, T.mab, T.mac, T.mba, T.mbc, T.mm, T.ma0, T.mb0⟩
/-- of the first one something is dropped -/
theorem Two.dropA (T : Two h0 h a b c ma mb ea eb l) (hel : ea.length ≤ 2 ^ 47) {ids : Sl} {zs : List Int} (r : RdI .i64 h ids zs) (hz : zs.length ≤ 2 ^ 47) :
    PO (order_Order_Drop (some ⟨a, 0, some 0⟩) ids h) (fun (n, h') => n = (ea.length : Int) - ((dropsI zs ea).length : Int) ∧ Two h0 h' a b c ma mb (dropsI zs ea) eb l ∧ UP (fun A => ma = some A) h h') := by
  refine (ODrop_f T.wf T.oa hel r hz).mono ?_
  rintro ⟨n, h'⟩ ⟨e1, O', u⟩
  refine ⟨e1, ⟨u.ex0 T.ex fun A hA e => by have := T.ma0 A e; omega, O', ⟨T.ob.box.up T.wf u T.mab, T.ob.map.up u fun r hr e => T.mm r e hr, T.ob.ne⟩, T.box.up T.wf u T.mac, T.ab, T.ac, T.bc, T.a0, T.b0, T.c0, T.mab, T.mac, T.mba, T.mbc, T.mm, T.ma0, T.mb0⟩, u⟩
end
end Go.Proofs.Ythiccnmplgdheaa.T
