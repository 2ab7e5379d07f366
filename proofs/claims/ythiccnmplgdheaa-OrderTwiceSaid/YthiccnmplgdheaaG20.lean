/- Lemmas about the typed texts (joined: LOrd13). -/
import Derived.Test.YthiccnmplgdheaaG8
import Derived.Test.YthiccnmplgdheaaG19
import Derived.Test.YthiccnmplgdheaaG17
/- The law OrderTwice over the typed texts. -/
set_option linter.unusedVariables false
set_option linter.unusedSimpArgs false
namespace Go.Proofs.Ythiccnmplgdheaa.T
open Go Go.Abs Go.Proofs
open TC (cmpI ordL before)
/-! a slice of calls -/
def zC : List Z := [.int .i64, .int .i64, .int .i64, .sl]
theorem PO.ixC {α : Type} {Q : α → Prop} {h : H} {s : Sl} {xs : List F4} {j : Int} {g : Addr → Option α} (r : Rd 4 h s (csV xs)) (h0 : 0 ≤ j) (h1 : j < xs.length)
    (p : ∀ a x, xs[j.toNat]? = some x → Abs.ldZ zC h a = some x → Abs.ldI .i64 h (add a 2) = some x.2.2.1 → PO (g a) Q) : PO (bindO (ixT 4 s j) g) Q := by
  have hl := r.len
  rw [csV_length] at hl
  obtain ⟨a, ha, e⟩ := ixT_ok r h0 (by omega)
  have hj : j.toNat < xs.length := by omega
  have hx : xs[j.toNat]? = some xs[j.toNat] := List.getElem?_eq_getElem hj
  have hc : ∀ q, q < 4 → ∀ v, (f4L xs[j.toNat])[q]? = some v → ldCell h (add (add a (j.toNat * 4)) q) = some v := by
    intro q hq v hv
    rw [add_add]
    refine (r.ld a ha _ v ?_).2
    rw [csV_get _ _ _ hq, hx]; exact hv
  refine .op e (p _ _ hx (ldZ_of (zs := zC) ?_) (ldI_of (hc 2 (by omega) _ rfl)))
  exact ldCells_of (f4L xs[j.toNat]) _ fun i v hi => hc i (List.getElem?_eq_some_iff.1 hi).1 v hi
theorem PO.callRow {α : Type} {Q : α → Prop} {h : H} {x : F4} {t : Nat} {L : List Value} {f : Nat → H → Option α} (hL : L.length = 4) (w : WF h) (p : ∀ h2, EX h h2 → Box h2 h.size (f4L x) → PO (f h.size h2) Q) :
    PO (newO (row t L) h fun (b : Nat) (h1 : H) => bindO (Abs.stZ [.int .i64, .int .i64, .int .i64, .sl] h1 ⟨b, 0, some 0⟩ x) fun (h2 : H) => f b h2) Q := by
  refine PO.newB w fun h1 x1 B1 z1 w1 => ?_
  refine PO.stZ (zs := zC) (x := x) B1 w1 hL.symm rfl fun h2 B2 u2 z2 w2 => ?_
  exact p h2 (u2.ex0 x1 fun A hA e => by omega) B2
/-! the marks -/
def marks (es : List (Int × Int)) : List Value := (List.range 30).map fun (q : Nat) => .bool (lookI (q : Int) es).isSome
theorem marks_len (es : List (Int × Int)) : (marks es).length = 30 := by simp [marks]
theorem marks_get (es : List (Int × Int)) {q : Nat} (hq : q < 30) : (marks es)[q]? = some (.bool (lookI (q : Int) es).isSome) := by
  simp [marks, List.getElem?_map, List.getElem?_range hq]
theorem marks_set {es es' : List (Int × Int)} {q : Nat} (hq : q < 30) {b : Bool} (h1 : (lookI (q : Int) es').isSome = b) (h2 : ∀ p : Nat, p ≠ q → lookI (p : Int) es' = lookI (p : Int) es) : (marks es).set q (.bool b) = marks es' := by
  refine List.ext_getElem? fun p => ?_
  by_cases hp : p < 30
  · by_cases e : p = q
    · subst e; rw [List.getElem?_set_self (by rw [marks_len]; exact hp), marks_get _ hp, h1]
    · rw [List.getElem?_set_ne (Ne.symm e), marks_get _ hp, marks_get _ hp, h2 p e]
  · rw [List.getElem?_eq_none (by simp [marks_len]; omega), List.getElem?_eq_none (by simp [marks_len]; omega)]
def valC (xs : List F4) (i : Nat) : Int := ((xs.getD i (0, 0, 0, ⟨none, 0, 0⟩)).2.2.1) % 12
theorem valC_at {xs : List F4} {i : Nat} {x : F4} (h : xs[i]? = some x) : valC xs i = x.2.2.1 % 12 := by
  unfold valC; rw [List.getD_eq_getElem?_getD, h]; rfl
theorem tmod30 (i : Nat) : Int.tmod (i : Int) 30 = ((i % 30 : Nat) : Int) := by
  rw [Int.tmod_eq_emod_of_nonneg (by omega)]; omega
theorem twice_l1 {h0 : H} {calls drops : Sl} {xs : List F4} (r : Rd 4 h0 calls (csV xs)) (hn : xs.length ≤ 2 ^ 47) {a b c : Nat} {k : Int} :
    ∀ n s, (∃ (i : Nat) (hh : H) (ma : Option Nat), s = ((calls, (drops, (some ⟨a, 0, some 0⟩, (some ⟨b, 0, some 0⟩, (some ⟨c, 0, some 0⟩, (k, ((xs.length : Int), (i : Int)))))))), hh) ∧ n = xs.length - i ∧ i ≤ xs.length ∧ Two h0 hh a b c ma none (esA (valC xs) i) [] (marks (esA (valC xs) i))) →
    PO (loopO law20_OrderTwice_l1 s) (fun q => ∃ (hh : H) (ma : Option Nat), q = Sum.inl ((calls, (drops, (some ⟨a, 0, some 0⟩, (some ⟨b, 0, some 0⟩, (some ⟨c, 0, some 0⟩, k))))), hh) ∧ Two h0 hh a b c ma none (esA (valC xs) xs.length) [] (marks (esA (valC xs) xs.length))) := by
  refine PO.loop _ ?_
  rintro n _ ⟨i, hh, ma, rfl, rfl, hi, T⟩
  unfold law20_OrderTwice_l1 P.law20_OrderTwice_l1
  dsimp only
  refine PO.condD (fun hc => ?_) (fun hc => ?_)
  · have hil : i < xs.length := by omega
    refine PO.ixC (r.ex T.ex) (by omega) (by omega) fun p x hx e1 _ => PO.op e1 ?_
    obtain ⟨x1, x2, x3, x4⟩ := x
    refine PO.callRow (x := (x1, x2, x3, x4)) rfl T.wf fun h2 y2 B2 => ?_
    refine PO.ldI (i := 2) B2 rfl (PO.callE (pick_f x3 12 (by omega) (by omega) h2) ?_)
    rw [tmod30]
    refine PO.call ((T.kx y2).putA (x3 % 12) ((i % 30 : Nat) : Int)) ?_
    rintro _ h4 ⟨ma', T4⟩
    refine PO.ptr (PO.ixA (by omega) (by omega) (PO.st1 T4.box T4.wf (by rw [marks_len]; omega) rfl fun h5 B5 u5 z5 w5 => .retL ⟨_, ?_, i + 1, h5, ma', ?_, rfl, by omega, ?_⟩))
    · omega
    · rw [w64 (by omega) (by omega)]; rfl
    · have hv : valC xs i = x3 % 12 := valC_at (by simpa using hx)
      have e5 : ((((i % 30 : Nat) : Int)).toNat * 1) = i % 30 := by omega
      rw [e5, marks_set (es' := esA (valC xs) (i + 1)) (q := i % 30) (b := true) (by omega) ?_ ?_] at B5
      · have := T4.set B5 u5
        rw [show putI ((i % 30 : Nat) : Int) (x3 % 12) (esA (valC xs) i) = esA (valC xs) (i + 1) by rw [← hv]; rfl] at this
        exact this
      · show (lookI _ (putI _ _ _)).isSome = true
        rw [lookI_put, if_pos rfl]; rfl
      · intro p hp
        show lookI _ (putI _ _ _) = _
        rw [lookI_put, if_neg (by omega)]
  · have : i = xs.length := by omega
    subst this
    exact .retR ⟨hh, ma, rfl, T⟩
theorem twice_l2 {h0 : H} {calls drops : Sl} {xs : List F4} (r : Rd 4 h0 calls (csV xs)) (hl : calls.len = xs.length) (hn : xs.length ≤ 2 ^ 47) {a b c k : Nat} (hk : k ≤ xs.length) {ma : Option Nat} {ea : List (Int × Int)} :
    ∀ n s, (∃ (i : Nat) (hh : H) (mb : Option Nat), s = ((calls, (drops, (some ⟨a, 0, some 0⟩, (some ⟨b, 0, some 0⟩, (some ⟨c, 0, some 0⟩, ((k : Int), ((xs.length : Int), (i : Int)))))))), hh) ∧ n = xs.length - i ∧ i ≤ xs.length ∧ Two h0 hh a b c ma mb ea (esB (valC xs) xs.length k i) (marks ea)) →
    PO (loopO law20_OrderTwice_l2 s) (fun q => ∃ (hh : H) (mb : Option Nat), q = Sum.inl ((drops, (some ⟨a, 0, some 0⟩, (some ⟨b, 0, some 0⟩, some ⟨c, 0, some 0⟩))), hh) ∧ Two h0 hh a b c ma mb ea (esB (valC xs) xs.length k xs.length) (marks ea)) := by
  refine PO.loop _ ?_
  rintro n _ ⟨i, hh, mb, rfl, rfl, hi, T⟩
  unfold law20_OrderTwice_l2 P.law20_OrderTwice_l2
  dsimp only
  refine PO.condD (fun hc => ?_) (fun hc => ?_)
  · have hil : i < xs.length := by omega
    refine PO.join (fun q => ∃ (h2 : H) (mb' : Option Nat), q = ((calls, (drops, (some ⟨a, 0, some 0⟩, (some ⟨b, 0, some 0⟩, (some ⟨c, 0, some 0⟩, ((k : Int), ((xs.length : Int), (i : Int)))))))), h2) ∧ Two h0 h2 a b c ma mb' ea (esB (valC xs) xs.length k (i + 1)) (marks ea)) ?_ (fun q hq => ?_)
    · have hm : (i + k) % xs.length < xs.length := Nat.mod_lt _ (by omega)
      have e1 : Int.tmod (IntKind.wrap .i64 ((i : Int) + (k : Int))) ((calls.len : Nat) : Int) = (((i + k) % xs.length : Nat) : Int) := by
        rw [w64 (by omega) (by omega), hl, Int.tmod_eq_emod_of_nonneg (by omega), ← Int.natCast_add, Int.natCast_emod]
      refine PO.op (remT_ok _ _ (by rw [hl]; omega)) ?_
      rw [e1]
      refine PO.condD (fun hs => ?_) (fun hs => ?_)
      · rw [w64 (by omega) (by omega), hl] at hs
        refine .retL ⟨hh, mb, rfl, ?_⟩
        rw [esB, if_pos (by omega)]; exact T
      · rw [w64 (by omega) (by omega), hl] at hs
        refine PO.ixC (r.ex T.ex) (by omega) (by omega) fun p x hx _ e2 => PO.op e2 ?_
        refine PO.callE (pick_f x.2.2.1 12 (by omega) (by omega) hh) ?_
        rw [tmod30]
        refine PO.call (T.symm.putA (x.2.2.1 % 12) _) ?_
        rintro _ h4 ⟨mb', T4⟩
        refine .retL ⟨h4, mb', rfl, ?_⟩
        rw [esB, if_neg (by omega), valC_at (show xs[(i + k) % xs.length]? = some x from hx)]
        exact T4.symm
    · obtain ⟨h2, mb', rfl, T2⟩ := hq
      refine .retL ⟨_, ?_, i + 1, h2, mb', ?_, rfl, by omega, T2⟩
      · omega
      · rw [w64 (n := (i : Int) + 1) (by omega) (by omega)]; rfl
  · have : i = xs.length := by omega
    subst this
    exact .retR ⟨hh, mb, rfl, T⟩
/-! what is dropped -/
theorem dropI_len_eq (k : Int) : ∀ es : List (Int × Int), (dropI k es).length = es.length - (if (lookI k es).isSome then 1 else 0) ∧ ((lookI k es).isSome = true → 0 < es.length)
  | [] => by simp [dropI, lookI]
  | (k', v) :: es => by
    obtain ⟨h1, h2⟩ := dropI_len_eq k es
    by_cases h : k = k'
    · subst h; simp [dropI, lookI]
    · simp only [dropI, lookI, if_neg h, List.length_cons]
      refine ⟨?_, fun _ => by omega⟩
      rw [h1]
      split
      · rename_i hs; have := h2 hs; omega
      · omega
theorem drops_look (x : Int) : ∀ (l : List Int) (es : List (Int × Int)), (es.map (·.1)).Nodup → lookI x (dropsI l es) = if x ∈ l then none else lookI x es
  | [], es, _ => by simp [dropsI]
  | k :: l, es, hn => by
    have hn' : ((dropI k es).map (·.1)).Nodup := List.Nodup.sublist (dropI_sub k es) hn
    show lookI x (dropsI l (dropI k es)) = _
    rw [drops_look x l _ hn', lookI_drop _ _ _ hn]
    by_cases h1 : x ∈ l
    · rw [if_pos h1, if_pos (List.mem_cons_of_mem _ h1)]
    · rw [if_neg h1]
      by_cases h2 : x = k
      · subst h2; rw [if_pos rfl, if_pos List.mem_cons_self]
      · rw [if_neg h2, if_neg (by simp [h1, h2])]
theorem drops_sub : ∀ (l : List Int) (es : List (Int × Int)), ((dropsI l es).map (·.1)).Sublist (es.map (·.1))
  | [], es => List.Sublist.refl _
  | k :: l, es => (drops_sub l (dropI k es)).trans (dropI_sub k es)
theorem drops_nodup (l : List Int) {es : List (Int × Int)} (hn : (es.map (·.1)).Nodup) : ((dropsI l es).map (·.1)).Nodup := List.Nodup.sublist (drops_sub l es) hn
theorem len_congr {es es' : List (Int × Int)} (hn : (es.map (·.1)).Nodup) (hn' : (es'.map (·.1)).Nodup) (h : ∀ k, lookI k es = lookI k es') : es.length = es'.length := by
  have h1 := (TC.ordL_perm es).length_eq
  have h2 := (TC.ordL_perm es').length_eq
  rw [ordL_congr hn hn' h] at h1
  simp at h1 h2
  omega
theorem PO.appI1u {α : Type} {Q : α → Prop} {h : H} {out : Sl} {l : List Int} {x : Int} {n : Nat} {g : Sl → H → Option α} (w : WF h) (hb : Buf 1 h out (l.map (.int .i64))) (hn : h.nro ≤ n) (hn2 : n ≤ h.size) (hf : Fr n out) (hl : l.length + 1 ≤ 2 ^ 44)
    (k : ∀ out1 h2, Buf 1 h2 out1 ((l ++ [x]).map (.int .i64)) → UP (fun A => n ≤ A) h h2 → Fr n out1 → KP h h2 → PO (g out1 h2) Q) : PO (newO (row 3 [.int .i64 x]) h fun b h1 => bind2 (appT 3 1 8 h1 out ⟨some ⟨b, 0, some 0⟩, 1, 1⟩) g) Q := by
  refine PO.newB w fun h1 x1 B1 z1 w1 => ?_
  have r1 : RdI .i64 h1 ⟨some ⟨h.size, 0, some 0⟩, 1, 1⟩ [x] := B1.rd w1 rfl (by unfold CapOK; rw [capK_exact (by unfold B63; omega)]; exact Nat.le_refl _)
  have hb1 : Buf 1 h1 out (l.map (.int .i64)) := hb.ex w x1
  have hlen := hb1.rd.len
  simp at hlen
  obtain ⟨s', h', e, k1, x2, b2, _, f2⟩ := appT_ok (e := 3) (bytes := 8) (by omega) (by unfold B63; omega) w1 hb1 r1 (oneC_ints .i64 _) (by simp only; omega) (by simp only; omega)
  refine PO.callE e (k s' h' ?_ (x1.trans_up (up_of_ex w1 x2 k1 (by rw [x1.nro]; exact hn) (by omega) hf)) (f2 _ (by omega) hf) ((x1.kp w).trans k1))
  rw [List.map_append]; exact b2
/-- what is behind n is written -/
theorem Two.up {h0 h h1 : H} {a b c n : Nat} {ma mb : Option Nat} {ea eb : List (Int × Int)} {l : List Value} (T : Two h0 h a b c ma mb ea eb l) (u : UP (fun A => n ≤ A) h h1) (hn : h0.size ≤ n) (ha : a < n) (hb : b < n) (hc : c < n) (hma : ∀ r, ma = some r → r < n) (hmb : ∀ r, mb = some r → r < n) : Two h0 h1 a b c ma mb ea eb l :=
  ⟨u.ex0 T.ex fun A hA e => by omega, ⟨T.oa.box.up T.wf u (by omega), T.oa.map.up u fun r hr e => by have := hma r hr; omega, T.oa.ne⟩, ⟨T.ob.box.up T.wf u (by omega), T.ob.map.up u fun r hr e => by have := hmb r hr; omega, T.ob.ne⟩, T.box.up T.wf u (by omega), T.ab, T.ac, T.bc, T.a0, T.b0, T.c0, T.mab, T.mac, T.mba, T.mbc, T.mm, T.ma0, T.mb0⟩

theorem drops_in (l : List Int) {es : List (Int × Int)} (hb : ∀ x : Int, x ∈ es.map (·.1) → 0 ≤ x ∧ x < ((30 : Nat) : Int)) : ∀ x : Int, x ∈ (dropsI l es).map (·.1) → 0 ≤ x ∧ x < ((30 : Nat) : Int) :=
  fun x hx => hb x ((drops_sub l es).subset hx)
theorem twice_l3 {h0 : H} {drops : Sl} {zs : List Int} (r : RdI .i64 h0 drops zs) (hz : zs.length ≤ 2 ^ 44 - 1) {a b c n1 : Nat} {ma mb : Option Nat} {ea eb : List (Int × Int)} (hna : (ea.map (·.1)).Nodup) (hin : ∀ x : Int, x ∈ ea.map (·.1) → 0 ≤ x ∧ x < ((30 : Nat) : Int)) (hel : ea.length ≤ 30)
    (hnr0 : h0.nro ≤ n1) (hn0 : h0.size ≤ n1) (ha : a < n1) (hb : b < n1) (hc : c < n1) (hma : ∀ r, ma = some r → r < n1) (hmb : ∀ r, mb = some r → r < n1) :
    ∀ m s, (∃ (j : Nat) (hh : H) (ls : Sl), s = ((some ⟨a, 0, some 0⟩, (some ⟨b, 0, some 0⟩, (some ⟨c, 0, some 0⟩, (ls, ((ea.length : Int) - ((dropsI ((zs.map (· % 33)).take j) ea).length : Int), (drops, ((zs.length : Int), (j : Int)))))))), hh) ∧ m = zs.length - j ∧ j ≤ zs.length ∧ n1 ≤ hh.size ∧
      Two h0 hh a b c ma mb (dropsI ((zs.map (· % 33)).take j) ea) eb (marks (dropsI ((zs.map (· % 33)).take j) ea)) ∧ Buf 1 hh ls (((zs.map (· % 33)).take j).map (.int .i64)) ∧ Fr n1 ls) →
    PO (loopO law20_OrderTwice_l3 s) (fun q => ∃ (hh : H) (ls : Sl), q = Sum.inl ((some ⟨a, 0, some 0⟩, (some ⟨b, 0, some 0⟩, (ls, (ea.length : Int) - ((dropsI (zs.map (· % 33)) ea).length : Int)))), hh) ∧
      Two h0 hh a b c ma mb (dropsI (zs.map (· % 33)) ea) eb (marks (dropsI (zs.map (· % 33)) ea)) ∧ RdI .i64 hh ls (zs.map (· % 33))) := by
  refine PO.loop _ ?_
  rintro m _ ⟨j, hh, ls, rfl, rfl, hj, hs1, T, B, fr⟩
  unfold law20_OrderTwice_l3 P.law20_OrderTwice_l3
  dsimp only
  refine PO.condD (fun hcj => ?_) (fun hcj => ?_)
  · have hjl : j < zs.length := by omega
    have hjm : j < (zs.map (· % 33)).length := by simpa using hjl
    refine PO.ixI (RdI.ex T.ex r) (by omega) (by omega) fun p hp => PO.op hp ?_
    rw [show ((j : Int)).toNat = j from rfl, List.getD_eq_getElem?_getD, List.getElem?_eq_getElem hjl, Option.getD_some]
    refine PO.callE (pick_f zs[j] 33 (by omega) (by omega) hh) ?_
    have htk : (zs.map (· % 33)).take (j + 1) = (zs.map (· % 33)).take j ++ [zs[j] % 33] := by rw [List.take_succ_eq_append_getElem hjm]; simp
    have hd0 : 0 ≤ zs[j] % 33 := Int.emod_nonneg _ (by omega)
    have hd1 : zs[j] % 33 < 33 := Int.emod_lt_of_pos _ (by omega)
    generalize hd : zs[j] % 33 = d at *
    generalize hE : dropsI ((zs.map (· % 33)).take j) ea = E at *
    have hnE : (E.map (·.1)).Nodup := by rw [← hE]; exact drops_nodup _ hna
    have hiE : ∀ x : Int, x ∈ E.map (·.1) → 0 ≤ x ∧ x < ((30 : Nat) : Int) := by rw [← hE]; exact drops_in _ hin
    have hEl : E.length ≤ ea.length := by rw [← hE]; exact dropsI_len _ _
    have hnr : hh.nro ≤ n1 := by rw [T.ex.nro]; exact hnr0
    refine PO.appI1u T.wf B hnr hs1 fr (by simp; omega) fun ls3 h3 B3 u3 f3 k3 => ?_
    have T3 := T.up u3 hn0 ha hb hc hma hmb
    have hm : d < 30 ∨ (lookI d E).isSome = false := by
      by_cases h : d < 30
      · exact .inl h
      · right
        rw [Bool.eq_false_iff]
        intro hh
        have := hiE d (lookI_mem.2 hh); omega
    refine PO.join (fun q => q = ((some ⟨a, 0, some 0⟩, (some ⟨b, 0, some 0⟩, (some ⟨c, 0, some 0⟩, (ls3, ((ea.length : Int) - ((if (lookI d E).isSome then E.length - 1 else E.length : Nat) : Int), (d, (drops, ((zs.length : Int), (j : Int))))))))), q.2) ∧ Two h0 q.2 a b c ma mb E eb (marks (dropI d E)) ∧ Buf 1 q.2 ls3 (((zs.map (· % 33)).take (j + 1)).map (.int .i64)) ∧ n1 ≤ q.2.size) ?_ ?_
    · refine PO.join (fun q => q = ((some ⟨a, 0, some 0⟩, (some ⟨b, 0, some 0⟩, (some ⟨c, 0, some 0⟩, (ls3, ((ea.length : Int) - (E.length : Int), (d, (drops, ((zs.length : Int), ((j : Int), (lookI d E).isSome))))))))), h3)) ?_ ?_
      · refine PO.condD (fun h30 => ?_) (fun h30 => ?_)
        · refine PO.ptr (PO.ixA hd0 (by omega) (PO.ldB (n := (lookI d E).isSome) T3.box ?_ (.retL rfl)))
          rw [show d.toNat * 1 = d.toNat by omega, marks_get _ (by omega), Int.toNat_of_nonneg hd0]
        · rcases hm with h | h
          · exact absurd h h30
          · refine .retL ?_
            rw [h]
      · rintro _ rfl
        dsimp only
        have hlq := dropI_len_eq d E
        refine PO.cond (fun hs => ?_) (fun hs => ?_)
        · have h30 : d < 30 := by
            rcases hm with h | h
            · exact h
            · rw [h] at hs; cases hs
          have h0E := hlq.2 hs
          refine PO.ptr (PO.ixA hd0 (by omega) (PO.st1 T3.box T3.wf (by rw [marks_len]; omega) rfl fun h5 B5 u5 z5 w5 => .retL ⟨?_, ?_, ?_, ?_⟩))
          · rw [hs, if_pos rfl, w64 (by omega) (by omega), show (ea.length : Int) - (E.length : Int) + 1 = (ea.length : Int) - ((E.length - 1 : Nat) : Int) by omega]
          · rw [show d.toNat * 1 = d.toNat by omega, marks_set (es' := dropI d E) (by omega) ?_ ?_] at B5
            · exact T3.set B5 u5
            · rw [Int.toNat_of_nonneg hd0, lookI_drop _ _ _ hnE, if_pos rfl]; rfl
            · intro q hq
              rw [lookI_drop _ _ _ hnE, if_neg (by omega)]
          · rw [htk]
            exact B3.up T3.wf u5 fun p hp e => by have := f3 p hp; omega
          · have := u3.size; have := u5.size; dsimp only; omega
        · refine .retL ⟨?_, ?_, ?_, ?_⟩
          · rw [hs]; rfl
          · have e : marks E = marks (dropI d E) := by
              refine List.map_congr_left fun q _ => ?_
              rw [lookI_drop _ _ _ hnE]
              by_cases e : (q : Int) = d
              · rw [if_pos e, e, hs]; rfl
              · rw [if_neg e]
            rw [← e]; exact T3
          · rw [htk]; exact B3
          · have := u3.size; dsimp only; omega
    · rintro ⟨⟨a1, a2, a3, a4, a5, a6, a7, a8, a9⟩, h4⟩ ⟨e4, T4, B4, s4⟩
      simp only [Prod.mk.injEq] at e4
      obtain ⟨⟨rfl, rfl, rfl, rfl, rfl, rfl, rfl, rfl, rfl⟩, _⟩ := e4
      dsimp only at T4 B4 s4 ⊢
      refine PO.newB T4.wf fun h5 x5 B5 z5 w5 => ?_
      have T5 := T4.kx x5
      have r5 : RdI .i64 h5 ⟨some ⟨h4.size, 0, some 0⟩, 1, 1⟩ [a6] := B5.rd w5 rfl (by unfold CapOK; rw [capK_exact (by unfold B63; omega)]; exact Nat.le_refl _)
      refine PO.call (T5.dropA (by omega) r5 (by simp)) ?_
      rintro _ h6 ⟨_, T6, u6⟩
      have hlq := dropI_len_eq a6 E
      have eE : dropsI ((zs.map (· % 33)).take (j + 1)) ea = dropI a6 E := by rw [htk, dropsI_snoc, hE]
      refine .retL ⟨_, ?_, j + 1, h6, a4, ?_, rfl, by omega, ?_, ?_, ?_, f3⟩
      · omega
      · rw [w64 (n := (j : Int) + 1) (by omega) (by omega), eE, hlq.1]
        have : (if (lookI a6 E).isSome = true then E.length - 1 else E.length) = E.length - (if (lookI a6 E).isSome = true then 1 else 0) := by split <;> omega
        rw [this]; rfl
      · have := x5.size; have := u6.size; omega
      · rw [eE]; exact T6
      · exact (B4.ex T4.wf x5).up w5 u6 fun p hp e => by have := f3 p hp; have := hma _ e; omega
  · have : j = zs.length := by omega
    subst this
    have e : (zs.map (· % 33)).take zs.length = zs.map (· % 33) := List.take_of_length_le (by simp)
    rw [e] at T B
    rw [e]
    exact .retR ⟨hh, ls, rfl, T, B.rd⟩
theorem OrderTwice (calls : Sl) (turn : Int) (drops : Sl) (h : H) (w : WF h) (hst : h.st = false) (xs : List F4) (r : Rd 4 h calls (csV xs)) (hx : xs.length * 48 ≤ 140737488351232) (hxi : ∀ x ∈ xs, ∃ l, RdI .i64 h x.2.2.2 l ∧ l.length ≤ 2 ^ 47) (g1 : RNG turn) (zs : List Int) (hr : RdI .i64 h drops zs) (hz : zs.length * 8 ≤ 140737488351232) (hzr : ∀ n ∈ zs, -9223372036854775808 ≤ n ∧ n ≤ 9223372036854775807) :
    ∃ h', law20_OrderTwice calls turn drops h = some (true, h') := by
  refine PO.law ?_
  have hlc : calls.len = xs.length := by have := r.len; rw [csV_length] at this; omega
  have hld : drops.len = zs.length := hr.len
  unfold law20_OrderTwice P.law20_OrderTwice
  refine PO.newOrd w fun h1 x1 O1 => ?_
  refine PO.newOrd x1.wf fun h2 x2 O2 => ?_
  refine PO.newB (l := marks []) x2.wf fun h3 x3 B3 z3 w3 => ?_
  have s1 : h.size < h1.size := O1.box.blt
  have s2 : h1.size < h2.size := O2.box.blt
  have T3 : Two h h3 h.size h1.size h2.size none none [] [] (marks []) :=
    ⟨(x1.trans x2).trans x3, (O1.ex x2).ex x3, O2.ex x3, B3, by omega, by omega, by omega, Nat.le_refl _, by omega, by omega, by simp, by simp, by simp, by simp, by simp, by simp, by simp⟩
  have k0 : 0 ≤ turn % ((xs.length : Int) + 1) := Int.emod_nonneg _ (by omega)
  have k1 : turn % ((xs.length : Int) + 1) < (xs.length : Int) + 1 := Int.emod_lt_of_pos _ (by omega)
  rw [hlc, w64 (by omega) (by omega)]
  refine PO.callE (pick_f turn _ (by omega) (by omega) h3) ?_
  obtain ⟨k, hk⟩ : ∃ k : Nat, turn % ((xs.length : Int) + 1) = k := ⟨(turn % ((xs.length : Int) + 1)).toNat, by omega⟩
  rw [hk] at k0 k1 ⊢
  refine PO.joinD (PO.mono (twice_l1 (drops := drops) (k := (k : Int)) r (by omega) xs.length _ ⟨0, h3, none, rfl, by omega, by omega, T3⟩) ?_)
  rintro _ ⟨h6, ma, rfl, T6⟩
  show PO _ _
  dsimp only
  rw [hlc]
  refine PO.joinD (PO.mono (twice_l2 (drops := drops) (k := k) (ea := esA (valC xs) xs.length) r hlc (by omega) (by omega) xs.length _ ⟨0, h6, none, rfl, by omega, by omega, T6⟩) ?_)
  rintro _ ⟨h7, mb, rfl, T7⟩
  show PO _ _
  dsimp only
  have na := esA_nodup (valC xs) xs.length
  have nb := esB_nodup (valC xs) xs.length k xs.length
  have ia := esA_in (valC xs) xs.length
  have ib := esB_in (valC xs) xs.length k xs.length
  have same0 := turned_same (valC xs) xs.length k (by omega)
  generalize esA (valC xs) xs.length = ea at *
  generalize esB (valC xs) xs.length k xs.length = eb at *
  have Ga := good_of na (N := 30) (by omega) ia
  have Gb := good_of nb (N := 30) (by omega) ib
  have eab : ea.length = eb.length := len_congr na nb same0
  have la : ea.length ≤ 30 := by
    have := nodup_len 30 _ na ia
    simpa using this
  refine PO.call (All_f T7.wf (T7.ex.st.trans hst) T7.oa Ga) ?_
  rintro sa h8 ⟨x8, r8, l8, _, _⟩
  have T8 := T7.kx x8
  refine PO.call (All_f T8.wf (T8.ex.st.trans hst) T8.ob Gb) ?_
  rintro sb h9 ⟨x9, r9, l9, _, _⟩
  have T9 := T8.kx x9
  have lol : (ordL ea).length = ea.length := by simpa using (TC.ordL_perm ea).length_eq
  refine PO.call (osame_f (RdI.ex x9 r8) r9 (by rw [lol]; omega)) ?_
  rintro q h10 ⟨e10, rfl⟩
  rw [ordL_congr na nb same0, decide_eq_true rfl] at e10
  subst e10
  refine PO.condF ?_
  rw [hld]
  refine PO.joinD (PO.mono (twice_l3 (n1 := h10.size) hr (by omega) na ia la (by have := T9.ex.size; have := w.nro; omega) T9.ex.size T9.oa.box.blt T9.ob.box.blt T9.box.blt (fun r hr => (T9.oa.map.at_ r hr).2.1) (fun r hr => (T9.ob.map.at_ r hr).2.1) zs.length _ ⟨0, h10, ⟨none, 0, 0⟩, ?_, by omega, by omega, Nat.le_refl _, T9, buf_nil 1 _, fun p hp => by simp at hp⟩) ?_)
  · show _ = ((_, (_, (_, (_, ((ea.length : Int) - (ea.length : Int), _))))), _)
    rw [Int.sub_self]; rfl
  rintro _ ⟨h11, ls, rfl, T11, r11⟩
  show PO _ _
  dsimp only
  refine PO.call (known20_f T11.wf (T11.ex.st.trans hst)) ?_
  rintro q h12 ⟨e12, x12⟩
  subst e12
  refine PO.condT ?_
  have T12 := T11.kx x12
  refine PO.call (T12.symm.dropA (by omega) (RdI.ex x12 r11) (by simp; omega)) ?_
  rintro n h13 ⟨e13, T13, _⟩
  subst e13
  generalize zs.map (· % 33) = zz at *
  have na' := drops_nodup zz na
  have nb' := drops_nodup zz nb
  have same1 : ∀ k, lookI k (dropsI zz ea) = lookI k (dropsI zz eb) := fun k => by rw [drops_look _ _ _ na, drops_look _ _ _ nb, same0]
  have ld := len_congr na' nb' same1
  refine PO.condE (fun _ => ?_) (fun hne => absurd (by rw [ld, eab]) hne)
  have T13 := T13.symm
  have Ga' := good_of na' (N := 30) (by omega) (drops_in zz ia)
  have Gb' := good_of nb' (N := 30) (by omega) (drops_in zz ib)
  refine PO.call (All_f T13.wf (T13.ex.st.trans hst) T13.oa Ga') ?_
  rintro s14 h14 ⟨x14, r14, _, _, _⟩
  have T14 := T13.kx x14
  refine PO.call (All_f T14.wf (T14.ex.st.trans hst) T14.ob Gb') ?_
  rintro s15 h15 ⟨x15, r15, _, _, _⟩
  have lol' : (ordL (dropsI zz ea)).length = (dropsI zz ea).length := by simpa using (TC.ordL_perm (dropsI zz ea)).length_eq
  have := dropsI_len zz ea
  refine PO.call (osame_f (RdI.ex x15 r14) r15 (by rw [lol']; omega)) ?_
  rintro q h16 ⟨e16, rfl⟩
  refine .ret ?_
  rw [e16, ordL_congr na' nb' same1]
  exact decide_eq_true rfl
end Go.Proofs.Ythiccnmplgdheaa.T
