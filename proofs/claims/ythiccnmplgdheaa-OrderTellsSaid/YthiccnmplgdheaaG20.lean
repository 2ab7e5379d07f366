/- Lemmas about the typed texts (joined: LOrd13 SROrd1 LOrd15). -/
import Derived.Test.YthiccnmplgdheaaG8
import Derived.Test.YthiccnmplgdheaaG19
import Derived.Test.YthiccnmplgdheaaG17
/- The law OrderTwice over the typed texts. -/
set_option linter.unusedVariables false
set_option linter.unusedSimpArgs false
namespace Go.Proofs.Ythiccnmplgdheaa.T
open Go Go.Abs Go.Proofs
open TC (cmpI ordL before)
/-! a slice of calls -/
def zC : List Z := [.int .i64, .int .i64, .int .i64, .sl]
theorem PO.ixC {α : Type} {Q : α → Prop} {h : H} {s : Sl} {xs : List F4} {j : Int} {g : Addr → Option α} (r : Rd 4 h s (csV xs)) (h0 : 0 ≤ j) (h1 : j < xs.length)
    (p : ∀ a x, xs[j.toNat]? = some x → Abs.ldZ zC h a = some x → Abs.ldI .i64 h (add a 2) = some x.2.2.1 → PO (g a) Q) : PO (bindO (ixT 4 s j) g) Q := by
  have hl := r.len
  rw [csV_length] at hl
  obtain ⟨a, ha, e⟩ := ixT_ok r h0 (by omega)
  have hj : j.toNat < xs.length := by omega
  have hx : xs[j.toNat]? = some xs[j.toNat] := List.getElem?_eq_getElem hj
  have hc : ∀ q, q < 4 → ∀ v, (f4L xs[j.toNat])[q]? = some v → ldCell h (add (add a (j.toNat * 4)) q) = some v := by
    intro q hq v hv
    rw [add_add]
    refine (r.ld a ha _ v ?_).2
    rw [csV_get _ _ _ hq, hx]; exact hv
  refine .op e (p _ _ hx (ldZ_of (zs := zC) ?_) (ldI_of (hc 2 (by omega) _ rfl)))
  exact ldCells_of (f4L xs[j.toNat]) _ fun i v hi => hc i (List.getElem?_eq_some_iff.1 hi).1 v hi
theorem PO.callRow {α : Type} {Q : α → Prop} {h : H} {x : F4} {t : Nat} {L : List Value} {f : Nat → H → Option α} (hL : L.length = 4) (w : WF h) (p : ∀ h2, EX h h2 → Box h2 h.size (f4L x) → PO (f h.size h2) Q) :
    PO (newO (row t L) h fun (b : Nat) (h1 : H) => bindO (Abs.stZ [.int .i64, .int .i64, .int .i64, .sl] h1 ⟨b, 0, some 0⟩ x) fun (h2 : H) => f b h2) Q := by
  refine PO.newB w fun h1 x1 B1 z1 w1 => ?_
  refine PO.stZ (zs := zC) (x := x) B1 w1 hL.symm rfl fun h2 B2 u2 z2 w2 => ?_
  exact p h2 (u2.ex0 x1 fun A hA e => by omega) B2
/-! the marks -/
def marks (es : List (Int × Int)) : List Value := (List.range 30).map fun (q : Nat) => .bool (lookI (q : Int) es).isSome
theorem marks_len (es : List (Int × Int)) : (marks es).length = 30 := by simp [marks]
theorem marks_get (es : List (Int × Int)) {q : Nat} (hq : q < 30) : (marks es)[q]? = some (.bool (lookI (q : Int) es).isSome) := by
  simp [marks, List.getElem?_map, List.getElem?_range hq]
theorem marks_set {es es' : List (Int × Int)} {q : Nat} (hq : q < 30) {b : Bool} (h1 : (lookI (q : Int) es').isSome = b) (h2 : ∀ p : Nat, p ≠ q → lookI (p : Int) es' = lookI (p : Int) es) : (marks es).set q (.bool b) = marks es' := by
  refine List.ext_getElem? fun p => ?_
  by_cases hp : p < 30
  · by_cases e : p = q
    · subst e; rw [List.getElem?_set_self (by rw [marks_len]; exact hp), marks_get _ hp, h1]
    · rw [List.getElem?_set_ne (Ne.symm e), marks_get _ hp, marks_get _ hp, h2 p e]
  · rw [List.getElem?_eq_none (by simp [marks_len]; omega), List.getElem?_eq_none (by simp [marks_len]; omega)]
def valC (xs : List F4) (i : Nat) : Int := ((xs.getD i (0, 0, 0, ⟨none, 0, 0⟩)).2.2.1) % 12
theorem valC_at {xs : List F4} {i : Nat} {x : F4} (h : xs[i]? = some x) : valC xs i = x.2.2.1 % 12 := by
  unfold valC; rw [List.getD_eq_getElem?_getD, h]; rfl
theorem tmod30 (i : Nat) : Int.tmod (i : Int) 30 = ((i % 30 : Nat) : Int) := by
  rw [Int.tmod_eq_emod_of_nonneg (by omega)]; omega
/-! what is dropped -/
theorem dropI_len_eq (k : Int) : ∀ es : List (Int × Int), (dropI k es).length = es.length - (if (lookI k es).isSome then 1 else 0) ∧ ((lookI k es).isSome = true → 0 < es.length)
  | [] => by simp [dropI, lookI]
  | (k', v) :: es => by
    obtain ⟨h1, h2⟩ := dropI_len_eq k es
    by_cases h : k = k'
    · subst h; simp [dropI, lookI]
    · simp only [dropI, lookI, if_neg h, List.length_cons]
      refine ⟨?_, fun _ => by omega⟩
      rw [h1]
      split
      · rename_i hs; have := h2 hs; omega
      · omega
theorem drops_look (x : Int) : ∀ (l : List Int) (es : List (Int × Int)), (es.map (·.1)).Nodup → lookI x (dropsI l es) = if x ∈ l then none else lookI x es
  | [], es, _ => by simp [dropsI]
  | k :: l, es, hn => by
    have hn' : ((dropI k es).map (·.1)).Nodup := List.Nodup.sublist (dropI_sub k es) hn
    show lookI x (dropsI l (dropI k es)) = _
    rw [drops_look x l _ hn', lookI_drop _ _ _ hn]
    by_cases h1 : x ∈ l
    · rw [if_pos h1, if_pos (List.mem_cons_of_mem _ h1)]
    · rw [if_neg h1]
      by_cases h2 : x = k
      · subst h2; rw [if_pos rfl, if_pos List.mem_cons_self]
      · rw [if_neg h2, if_neg (by simp [h1, h2])]
theorem drops_sub : ∀ (l : List Int) (es : List (Int × Int)), ((dropsI l es).map (·.1)).Sublist (es.map (·.1))
  | [], es => List.Sublist.refl _
  | k :: l, es => (drops_sub l (dropI k es)).trans (dropI_sub k es)
theorem drops_nodup (l : List Int) {es : List (Int × Int)} (hn : (es.map (·.1)).Nodup) : ((dropsI l es).map (·.1)).Nodup := List.Nodup.sublist (drops_sub l es) hn
theorem len_congr {es es' : List (Int × Int)} (hn : (es.map (·.1)).Nodup) (hn' : (es'.map (·.1)).Nodup) (h : ∀ k, lookI k es = lookI k es') : es.length = es'.length := by
  have h1 := (TC.ordL_perm es).length_eq
  have h2 := (TC.ordL_perm es').length_eq
  rw [ordL_congr hn hn' h] at h1
  simp at h1 h2
  omega
theorem PO.appI1u {α : Type} {Q : α → Prop} {h : H} {out : Sl} {l : List Int} {x : Int} {n : Nat} {g : Sl → H → Option α} (w : WF h) (hb : Buf 1 h out (l.map (.int .i64))) (hn : h.nro ≤ n) (hn2 : n ≤ h.size) (hf : Fr n out) (hl : l.length + 1 ≤ 2 ^ 44)
    (k : ∀ out1 h2, Buf 1 h2 out1 ((l ++ [x]).map (.int .i64)) → UP (fun A => n ≤ A) h h2 → Fr n out1 → KP h h2 → PO (g out1 h2) Q) : PO (newO (row 3 [.int .i64 x]) h fun b h1 => bind2 (appT 3 1 8 h1 out ⟨some ⟨b, 0, some 0⟩, 1, 1⟩) g) Q := by
  refine PO.newB w fun h1 x1 B1 z1 w1 => ?_
  have r1 : RdI .i64 h1 ⟨some ⟨h.size, 0, some 0⟩, 1, 1⟩ [x] := B1.rd w1 rfl (by unfold CapOK; rw [capK_exact (by unfold B63; omega)]; exact Nat.le_refl _)
  have hb1 : Buf 1 h1 out (l.map (.int .i64)) := hb.ex w x1
  have hlen := hb1.rd.len
  simp at hlen
  obtain ⟨s', h', e, k1, x2, b2, _, f2⟩ := appT_ok (e := 3) (bytes := 8) (by omega) (by unfold B63; omega) w1 hb1 r1 (oneC_ints .i64 _) (by simp only; omega) (by simp only; omega)
  refine PO.callE e (k s' h' ?_ (x1.trans_up (up_of_ex w1 x2 k1 (by rw [x1.nro]; exact hn) (by omega) hf)) (f2 _ (by omega) hf) ((x1.kp w).trans k1))
  rw [List.map_append]; exact b2
/-- what is behind n is written -/
theorem Two.up {h0 h h1 : H} {a b c n : Nat} {ma mb : Option Nat} {ea eb : List (Int × Int)} {l : List Value} (T : Two h0 h a b c ma mb ea eb l) (u : UP (fun A => n ≤ A) h h1) (hn : h0.size ≤ n) (ha : a < n) (hb : b < n) (hc : c < n) (hma : ∀ r, ma = some r → r < n) (hmb : ∀ r, mb = some r → r < n) : Two h0 h1 a b c ma mb ea eb l :=
  ⟨u.ex0 T.ex fun A hA e => by omega, ⟨T.oa.box.up T.wf u (by omega), T.oa.map.up u fun r hr e => by have := hma r hr; omega, T.oa.ne⟩, ⟨T.ob.box.up T.wf u (by omega), T.ob.map.up u fun r hr e => by have := hmb r hr; omega, T.ob.ne⟩, T.box.up T.wf u (by omega), T.ab, T.ac, T.bc, T.a0, T.b0, T.c0, T.mab, T.mac, T.mba, T.mbc, T.mm, T.ma0, T.mb0⟩

theorem drops_in (l : List Int) {es : List (Int × Int)} (hb : ∀ x : Int, x ∈ es.map (·.1) → 0 ≤ x ∧ x < ((30 : Nat) : Int)) : ∀ x : Int, x ∈ (dropsI l es).map (·.1) → 0 ≤ x ∧ x < ((30 : Nat) : Int) :=
  fun x hx => hb x ((drops_sub l es).subset hx)
end Go.Proofs.Ythiccnmplgdheaa.T
/- Chapter 20's reference (a list that is always in order) over the typed texts. -/
set_option linter.unusedVariables false
set_option linter.unusedSimpArgs false
namespace Go.Proofs.Ythiccnmplgdheaa.T
open Go Go.Abs Go.Proofs
open TC (cmpI ordL before)
/-- the reference's row, and the list it holds: deadlines, ids -/
def ROrd (h : H) (b : Nat) (L : List Run) : Prop := ∃ s, Box h b [encSl s] ∧ RdR h s L
theorem ROrd.kx {h h1 : H} {b : Nat} {L : List Run} (x : EX h h1) (R : ROrd h b L) : ROrd h1 b L := let ⟨s, B, r⟩ := R; ⟨s, B.kx x, r.ex x⟩
theorem PO.appRe {α : Type} {Q : α → Prop} {h0 h : H} {out : Sl} {l : List Run} {x y : Int} {e : TypeId} {g : Sl → H → Option α} (hb : BufR h out l) (hx : EX h0 h) (hf : Fr h0.size out) (hl : l.length + 1 ≤ 2 ^ 42)
    (k : ∀ out1 h2, BufR h2 out1 (l ++ [(x, y)]) → EX h0 h2 → Fr h0.size out1 → KP h h2 → PO (g out1 h2) Q) : PO (newO (row e [.int .i64 x, .int .i64 y]) h fun b h1 => bind2 (appT e 2 16 h1 out ⟨some ⟨b, 0, some 0⟩, 1, 1⟩) g) Q := by
  refine PO.newB hx.wf fun h1 x1 B1 z1 w1 => ?_
  have r1 : RdR h1 ⟨some ⟨h.size, 0, some 0⟩, 1, 1⟩ [(x, y)] := B1.rd w1 rfl (by unfold CapOK; rw [capK_exact (by unfold B63; omega)]; exact Nat.le_refl _)
  have hb1 : BufR h1 out l := hb.ex hx.wf x1
  have hlen := RdR.len hb1.rd
  obtain ⟨s', h', e', k1, x2, b2, _, f2⟩ := appT_ok (e := e) (bytes := 16) (by omega) (by unfold B63; omega) w1 hb1 r1 (runsV_oneC _) (by simp only; omega) (by simp only; omega)
  refine PO.callE e' (k s' h' ?_ (x2 _ (hx.trans x1) hf) (f2 _ (hx.trans x1).size hf) ((x1.kp hx.wf).trans k1))
  unfold BufR; rw [runsV_app]; exact b2
theorem PO.appI1 {α : Type} {Q : α → Prop} {h0 h : H} {out : Sl} {l : List Int} {x : Int} {g : Sl → H → Option α} (hb : Buf 1 h out (l.map (.int .i64))) (hx : EX h0 h) (hf : Fr h0.size out) (hl : l.length + 1 ≤ 2 ^ 44)
    (k : ∀ out1 h2, Buf 1 h2 out1 ((l ++ [x]).map (.int .i64)) → EX h0 h2 → Fr h0.size out1 → PO (g out1 h2) Q) : PO (newO (row 3 [.int .i64 x]) h fun b h1 => bind2 (appT 3 1 8 h1 out ⟨some ⟨b, 0, some 0⟩, 1, 1⟩) g) Q := by
  refine PO.newB hx.wf fun h1 x1 B1 z1 w1 => ?_
  have r1 : RdI .i64 h1 ⟨some ⟨h.size, 0, some 0⟩, 1, 1⟩ [x] := B1.rd w1 rfl (by unfold CapOK; rw [capK_exact (by unfold B63; omega)]; exact Nat.le_refl _)
  have hb1 : Buf 1 h1 out (l.map (.int .i64)) := hb.ex hx.wf x1
  have hlen := hb1.rd.len
  simp at hlen
  obtain ⟨s', h', e', k1, x2, b2, _, f2⟩ := appT_ok (e := 3) (bytes := 8) (by omega) (by unfold B63; omega) w1 hb1 r1 (oneC_ints .i64 _) (by simp only; omega) (by simp only; omega)
  refine PO.callE e' (k s' h' ?_ (x2 _ (hx.trans x1) hf) (f2 _ (hx.trans x1).size hf))
  rw [List.map_append]; exact b2
theorem getD_run {L : List Run} {j : Nat} (h : j < L.length) : L.getD j (0, 0) = L[j] := by simp [List.getD_eq_getElem?_getD, h]
/-! All, Late, Deadline -/
theorem ROAll_f {h : H} (w : WF h) {b : Nat} {L : List Run} (R : ROrd h b L) (hl : L.length ≤ 2 ^ 40) :
    PO (ref18_Order_All (some ⟨b, 0, some 0⟩) h) (fun (s, h') => EX h h' ∧ RdI .i64 h' s (L.map (·.2))) := by
  obtain ⟨s0, B0, r0⟩ := R
  have hlen := r0.len
  unfold ref18_Order_All
  refine PO.joinD ?_
  refine PO.loop (fun n q => ∃ (j : Nat) (hh : H) (out : Sl), q = ((some ⟨b, 0, some 0⟩, (out, (j : Int))), hh) ∧ n = L.length - j ∧ j ≤ L.length ∧ EX h hh ∧ Fr h.size out ∧ Buf 1 hh out (((L.take j).map (·.2)).map (.int .i64))) ?_ L.length _ ⟨0, h, ⟨none, 0, 0⟩, rfl, by omega, by omega, EX.refl w, fun a ha => by simp at ha, buf_nil 1 h⟩
  rintro n _ ⟨j, hh, out, rfl, rfl, hj, x, f, bo⟩
  unfold ref18_Order_All_l1
  dsimp only
  refine PO.ptr (PO.ldL (i := 0) (B0.kx x) rfl (PO.condD (fun hc => ?_) (fun hc => ?_)))
  · have hjl : j < L.length := by omega
    refine PO.ptr (PO.ldL (i := 0) (B0.kx x) rfl (PO.ixR (r0.ex x) (by omega) (by omega) fun a c hb ha e1 e2 e3 => PO.op e3 ?_))
    rw [show ((j : Int)).toNat = j from rfl, getD_run hjl]
    refine PO.appI1 bo x f (by simp; omega) fun out1 h2 b2 x2 f2 => .retL ⟨_, ?_, j + 1, h2, out1, ?_, rfl, by omega, x2, f2, ?_⟩
    · omega
    · rw [w64 (n := (j : Int) + 1) (by omega) (by omega)]; rfl
    · rw [List.take_succ_eq_append_getElem hjl, List.map_append]; exact b2
  · have : j = L.length := by omega
    subst this
    rw [List.take_length] at bo
    exact .retR (.ret ⟨x, bo.rd⟩)
theorem ROLate_f {h : H} (w : WF h) {b : Nat} {L : List Run} (R : ROrd h b L) (hl : L.length ≤ 2 ^ 40) (now : Int) :
    PO (ref18_Order_Late (some ⟨b, 0, some 0⟩) now h) (fun (s, h') => EX h h' ∧ RdI .i64 h' s ((L.filter fun p => decide (p.1 < now)).map (·.2))) := by
  obtain ⟨s0, B0, r0⟩ := R
  have hlen := r0.len
  unfold ref18_Order_Late
  refine PO.joinD ?_
  refine PO.loop (fun n q => ∃ (j : Nat) (hh : H) (out : Sl), q = ((some ⟨b, 0, some 0⟩, (now, (out, (j : Int)))), hh) ∧ n = L.length - j ∧ j ≤ L.length ∧ EX h hh ∧ Fr h.size out ∧ Buf 1 hh out ((((L.take j).filter fun p => decide (p.1 < now)).map (·.2)).map (.int .i64))) ?_ L.length _ ⟨0, h, ⟨none, 0, 0⟩, rfl, by omega, by omega, EX.refl w, fun a ha => by simp at ha, buf_nil 1 h⟩
  rintro n _ ⟨j, hh, out, rfl, rfl, hj, x, f, bo⟩
  unfold ref18_Order_Late_l1
  dsimp only
  refine PO.ptr (PO.ldL (i := 0) (B0.kx x) rfl (PO.condD (fun hc => ?_) (fun hc => ?_)))
  · have hjl : j < L.length := by omega
    have hfl : ((L.take j).filter fun p => decide (p.1 < now)).length ≤ j := by
      have := List.length_filter_le (fun p : Run => decide (p.1 < now)) (L.take j)
      simp at this ⊢; omega
    refine PO.joinD ?_
    refine PO.ptr (PO.ldL (i := 0) (B0.kx x) rfl (PO.ixR (r0.ex x) (by omega) (by omega) fun a c hb ha e1 e2 e3 => PO.op e2 ?_))
    rw [show ((j : Int)).toNat = j from rfl, getD_run hjl]
    refine PO.condD (fun hp => ?_) (fun hp => ?_)
    · refine PO.ptr (PO.ldL (i := 0) (B0.kx x) rfl (PO.ixR (r0.ex x) (by omega) (by omega) fun a c hb ha e1 e2 e3 => PO.op e3 ?_))
      rw [show ((j : Int)).toNat = j from rfl, getD_run hjl]
      refine PO.appI1 bo x f (by simp at hfl ⊢; omega) fun out1 h2 b2 x2 f2 => .retL (.retL ⟨_, ?_, j + 1, h2, out1, ?_, rfl, by omega, x2, f2, ?_⟩)
      · omega
      · rw [w64 (n := (j : Int) + 1) (by omega) (by omega)]; rfl
      · rw [List.take_succ_eq_append_getElem hjl, List.filter_append, List.map_append, List.filter_cons_of_pos (by simpa using hp)]; exact b2
    · refine .retL (.retL ⟨_, ?_, j + 1, hh, out, ?_, rfl, by omega, x, f, ?_⟩)
      · omega
      · rw [w64 (n := (j : Int) + 1) (by omega) (by omega)]; rfl
      · rw [List.take_succ_eq_append_getElem hjl, List.filter_append, List.map_append, List.filter_cons_of_neg (by simpa using hp)]; simpa using bo
  · have : j = L.length := by omega
    subst this
    rw [List.take_length] at bo
    exact .retR (.ret ⟨x, bo.rd⟩)
/-- the first one's deadline -/
def lookR (id : Int) : List Run → Option Int
  | [] => none
  | p :: L => if p.2 = id then some p.1 else lookR id L
theorem RODeadline_f {h : H} (w : WF h) {b : Nat} {L : List Run} (R : ROrd h b L) (hl : L.length ≤ 2 ^ 40) (id : Int) :
    PO (ref18_Order_Deadline (some ⟨b, 0, some 0⟩) id h) (fun (a, h') => a = ((lookR id L).getD 0, (lookR id L).isSome) ∧ h' = h) := by
  obtain ⟨s0, B0, r0⟩ := R
  have hlen := r0.len
  unfold ref18_Order_Deadline
  refine PO.joinD ?_
  refine PO.loop (fun n q => ∃ (j : Nat), q = ((some ⟨b, 0, some 0⟩, (id, (j : Int))), h) ∧ n = L.length - j ∧ j ≤ L.length ∧ lookR id L = lookR id (L.drop j)) ?_ L.length _ ⟨0, rfl, by omega, by omega, rfl⟩
  rintro n _ ⟨j, rfl, rfl, hj, hk⟩
  unfold ref18_Order_Deadline_l1
  dsimp only
  refine PO.ptr (PO.ldL (i := 0) B0 rfl (PO.condD (fun hc => ?_) (fun hc => ?_)))
  · have hjl : j < L.length := by omega
    rw [List.drop_eq_getElem_cons hjl, lookR] at hk
    refine PO.ptr (PO.ldL (i := 0) B0 rfl (PO.ixR r0 (by omega) (by omega) fun a c hb ha e1 e2 e3 => PO.op e3 ?_))
    rw [show ((j : Int)).toNat = j from rfl, getD_run hjl]
    refine PO.condE (fun he => ?_) (fun hne => ?_)
    · refine PO.ptr (PO.ldL (i := 0) B0 rfl (PO.ixR r0 (by omega) (by omega) fun a c hb ha e1 e2 e3 => PO.op e2 ?_))
      rw [show ((j : Int)).toNat = j from rfl, getD_run hjl]
      rw [if_pos he] at hk
      exact .retR ⟨by rw [hk]; rfl, rfl⟩
    · rw [if_neg hne] at hk
      refine .retL ⟨_, ?_, j + 1, ?_, rfl, by omega, hk⟩
      · omega
      · rw [w64 (n := (j : Int) + 1) (by omega) (by omega)]; rfl
  · have : j = L.length := by omega
    subst this
    rw [List.drop_length] at hk
    exact .retR (.ret ⟨by rw [hk]; rfl, rfl⟩)
/-! Drop, Put -/
def noId (id : Int) (L : List Run) : List Run := L.filter fun p => decide (p.2 ≠ id)
theorem noId_len (id : Int) (L : List Run) : (noId id L).length ≤ L.length := List.length_filter_le _ _
theorem ROrd.store {α : Type} {Q : α → Prop} {h hh : H} {b : Nat} {s0 : Sl} {L : List Run} {out : Sl} {f : H → Option α} (B0 : Box h b [encSl s0]) (x : EX h hh) (fo : Fr h.size out) (r : RdR hh out L)
    (k : ∀ h', ROrd h' b L → UP (· = b) h h' → PO (f h') Q) : PO (bindO (Abs.st1 hh (add ⟨b, 0, some 0⟩ 0) (.slice out.base out.len out.cap)) f) Q := by
  refine PO.st1 (B0.kx x) x.wf (by simp) rfl fun h' B' u z w' => ?_
  refine k h' ⟨out, B', Rd.up r u fun a ha e => ?_⟩ (x.trans_up u)
  have h1 := fo a ha
  have h2 := B0.blt
  have e : a.block = b := e
  omega
theorem RODrop_f {h : H} (w : WF h) {b : Nat} {L : List Run} (R : ROrd h b L) (hl : L.length ≤ 2 ^ 40) (id : Int) :
    PO (ref18_Order_Drop (some ⟨b, 0, some 0⟩) id h) (fun (a, h') => a = decide ((noId id L).length < L.length) ∧ ROrd h' b (noId id L) ∧ UP (· = b) h h') := by
  obtain ⟨s0, B0, r0⟩ := R
  have hlen := r0.len
  unfold ref18_Order_Drop
  refine PO.joinD ?_
  refine PO.loop (fun n q => ∃ (j : Nat) (hh : H) (out : Sl), q = ((some ⟨b, 0, some 0⟩, (id, (out, (j : Int)))), hh) ∧ n = L.length - j ∧ j ≤ L.length ∧ EX h hh ∧ Fr h.size out ∧ BufR hh out (noId id (L.take j))) ?_ L.length _ ⟨0, h, ⟨none, 0, 0⟩, rfl, by omega, by omega, EX.refl w, fun a ha => by simp at ha, buf_nil 2 h⟩
  rintro n _ ⟨j, hh, out, rfl, rfl, hj, x, f, bo⟩
  unfold ref18_Order_Drop_l1
  dsimp only
  refine PO.ptr (PO.ldL (i := 0) (B0.kx x) rfl (PO.condD (fun hc => ?_) (fun hc => ?_)))
  · have hjl : j < L.length := by omega
    have hfl : (noId id (L.take j)).length ≤ j := by
      have := noId_len id (L.take j)
      simp at this ⊢; omega
    refine PO.joinD ?_
    refine PO.ptr (PO.ldL (i := 0) (B0.kx x) rfl (PO.ixR (r0.ex x) (by omega) (by omega) fun a c hb ha e1 e2 e3 => PO.op e3 ?_))
    rw [show ((j : Int)).toNat = j from rfl, getD_run hjl]
    refine PO.condNE (fun hp => ?_) (fun hp => ?_)
    · refine PO.ptr (PO.ldL (i := 0) (B0.kx x) rfl (PO.ixR (r0.ex x) (by omega) (by omega) fun a c hb ha e1 e2 e3 => PO.op e1 ?_))
      rw [show ((j : Int)).toNat = j from rfl, getD_run hjl]
      refine PO.appRe bo x f (by omega) fun out1 h2 b2 x2 f2 _ => .retL (.retL ⟨_, ?_, j + 1, h2, out1, ?_, rfl, by omega, x2, f2, ?_⟩)
      · omega
      · rw [w64 (n := (j : Int) + 1) (by omega) (by omega)]; rfl
      · unfold noId
        rw [List.take_succ_eq_append_getElem hjl, List.filter_append, List.filter_cons_of_pos (by simpa using hp)]; exact b2
    · refine .retL (.retL ⟨_, ?_, j + 1, hh, out, ?_, rfl, by omega, x, f, ?_⟩)
      · omega
      · rw [w64 (n := (j : Int) + 1) (by omega) (by omega)]; rfl
      · unfold noId
        rw [List.take_succ_eq_append_getElem hjl, List.filter_append, List.filter_cons_of_neg (by simpa using hp), List.filter_nil, List.append_nil]; exact bo
  · have : j = L.length := by omega
    subst this
    rw [List.take_length] at bo
    refine .retR ?_
    refine PO.ptr (PO.ldL (i := 0) (B0.kx x) rfl (PO.ptr (ROrd.store B0 x f bo.rd fun h' R' u => .ret ⟨?_, R', u⟩)))
    have := bo.rd.len
    rw [this, hlen]
    exact decide_eq_decide.2 (by omega)
def ahead (d id : Int) (p : Run) : Prop := d < p.1 ∨ d = p.1 ∧ id < p.2
instance (d id : Int) (p : Run) : Decidable (ahead d id p) := inferInstanceAs (Decidable (_ ∨ _))
/-- what is put in so far -/
def Putting (d id : Int) (M out : List Run) (done : Bool) : Prop :=
  (done = false ∧ out = M ∧ ∀ x ∈ M, ¬ ahead d id x) ∨ (done = true ∧ ∃ A B, out = A ++ (d, id) :: B ∧ M = A ++ B ∧ (∀ x ∈ A, ¬ ahead d id x) ∧ ∃ y, B.head? = some y ∧ ahead d id y)
theorem ROPut_f {h : H} (w : WF h) {b : Nat} {L : List Run} (R : ROrd h b L) (hl : L.length ≤ 2 ^ 40) (d id : Int) :
    PO (ref18_Order_Put (some ⟨b, 0, some 0⟩) d id h) (fun (_, h') => ∃ A B, noId id L = A ++ B ∧ (∀ x ∈ A, ¬ ahead d id x) ∧ (∀ y, B.head? = some y → ahead d id y) ∧ ROrd h' b (A ++ (d, id) :: B) ∧ UP (· = b) h h') := by
  unfold ref18_Order_Put P.ref18_Order_Put
  refine PO.call (RODrop_f w R hl id) ?_
  rintro _ h1 ⟨_, R1, u1⟩
  have hl1 := noId_len id L
  generalize noId id L = M at *
  obtain ⟨s0, B0, r0⟩ := R1
  have hlen := r0.len
  have w1 := u1.wf
  refine PO.join (fun q => ∃ (hh : H) (out : Sl) (done : Bool) (O : List Run), q = ((some ⟨b, 0, some 0⟩, (d, (id, (out, done)))), hh) ∧ EX h1 hh ∧ Fr h1.size out ∧ BufR hh out O ∧ Putting d id M O done) ?_ ?_
  · refine PO.loop (fun n q => ∃ (j : Nat) (hh : H) (out : Sl) (done : Bool) (O : List Run), q = ((some ⟨b, 0, some 0⟩, (d, (id, (out, (done, (j : Int)))))), hh) ∧ n = M.length - j ∧ j ≤ M.length ∧ EX h1 hh ∧ Fr h1.size out ∧ BufR hh out O ∧ O.length ≤ j + 1 ∧ Putting d id (M.take j) O done) ?_ M.length _ ⟨0, h1, ⟨none, 0, 0⟩, false, [], rfl, by omega, by omega, EX.refl w1, fun a ha => by simp at ha, buf_nil 2 h1, by simp, .inl ⟨rfl, by simp, by simp⟩⟩
    rintro n _ ⟨j, hh, out, done, O, rfl, rfl, hj, x, f, bo, hO, hP⟩
    unfold P.ref18_Order_Put_l1
    dsimp only
    refine PO.ptr (PO.ldL (i := 0) (B0.kx x) rfl (PO.condD (fun hc => ?_) (fun hc => ?_)))
    · have hjl : j < M.length := by omega
      have htk : M.take (j + 1) = M.take j ++ [M[j]] := List.take_succ_eq_append_getElem hjl
      refine PO.ptr (PO.ldL (i := 0) (B0.kx x) rfl (PO.ixR (r0.ex x) (by omega) (by omega) fun a c hb ha e1 e2 e3 => PO.op e1 ?_))
      rw [show ((j : Int)).toNat = j from rfl, getD_run hjl]
      generalize hp : M[j] = p at *
      obtain ⟨p1, p2⟩ := p
      refine PO.newB x.wf fun h2 x2 B2 z2 w2 => PO.stZ (zs := [.int .i64, .int .i64]) (x := ((p1, p2) : Int × Int)) B2 w2 rfl rfl fun h3 B3 u3 z3 w3 => ?_
      have y3 : EX hh h3 := u3.ex0 x2 fun A hA e => by omega
      have B3 : Box h3 hh.size [.int .i64 p1, .int .i64 p2] := B3
      have x3 := x.trans y3
      have bo3 : BufR h3 out O := bo.ex x.wf y3
      have hcell : ∀ {h4 : H}, KP h3 h4 → Abs.ldZ [.int .i64, .int .i64] h4 ⟨hh.size, 0, some 0⟩ = some (p1, p2) := fun {h4} k => by
        refine ldZ_of (zs := [.int .i64, .int .i64]) (x := ((p1, p2) : Int × Int)) (ldCells2 (k.ld _ _ B3.blt (B3.ld (i := 0) rfl)) (k.ld _ _ B3.blt (B3.ld (i := 1) rfl)))
      have hd1 : done = true → O.length ≤ j + 1 := fun _ => hO
      have hd0 : done = false → O.length ≤ j := fun hd => by
        rcases hP with ⟨_, e, _⟩ | ⟨e, _⟩
        · rw [e]; simp; omega
        · rw [e] at hd; cases hd
      refine PO.join (fun q => ∃ (h4 : H) (out' : Sl) (O' : List Run), q = ((some ⟨b, 0, some 0⟩, (d, (id, (out', ((done || decide (ahead d id (p1, p2))), ((j : Int), some ⟨hh.size, 0, some 0⟩)))))), h4) ∧ EX h1 h4 ∧ Fr h1.size out' ∧ BufR h4 out' O' ∧ Abs.ldZ [.int .i64, .int .i64] h4 ⟨hh.size, 0, some 0⟩ = some (p1, p2) ∧ O' = (if !done && decide (ahead d id (p1, p2)) then O ++ [(d, id)] else O)) ?_ ?_
      · refine PO.join (fun q => q = ((some ⟨b, 0, some 0⟩, (d, (id, (out, (done, ((j : Int), (some ⟨hh.size, 0, some 0⟩, !done && decide (ahead d id (p1, p2))))))))), h3)) ?_ ?_
        · refine PO.condN (fun hd => ?_) (fun hd => ?_)
          · subst hd
            refine PO.ldI (i := 0) B3 rfl (PO.condD (fun h5 => .retL ?_) (fun h5 => PO.ldI (i := 0) B3 rfl (PO.condE (fun h6 => PO.ldI (i := 1) B3 rfl (.retL ?_)) (fun h6 => .retL ?_))))
            · rw [decide_eq_true (show ahead d id (p1, p2) from .inl h5)]; rfl
            · have : decide (id < p2) = decide (ahead d id (p1, p2)) := decide_eq_decide.2 ⟨fun h => .inr ⟨h6, h⟩, fun h => by rcases h with h | h; exact absurd h h5; exact h.2⟩
              rw [this]; rfl
            · rw [decide_eq_false (show ¬ ahead d id (p1, p2) from fun h => by rcases h with h | h; exact h5 h; exact h6 h.1)]; rfl
          · subst hd; exact .retL rfl
        · rintro _ rfl
          dsimp only
          refine PO.cond (fun hb => ?_) (fun hb => ?_)
          · have hb2 := hb
            rw [Bool.and_eq_true] at hb2
            refine PO.appRe bo3 x3 f (by omega) fun out1 h4 b4 x4 f4 k4 => .retL ⟨h4, out1, O ++ [(d, id)], ?_, x4, f4, b4, hcell k4, ?_⟩
            · rw [hb2.2, Bool.or_true]
            · rw [if_pos hb]
          · refine .retL ⟨h3, out, O, ?_, x3, f, bo3, hcell (KP.refl w3), by rw [hb]; rfl⟩
            have : (done || decide (ahead d id (p1, p2))) = done := by
              cases done <;> simp_all
            rw [this]
      · rintro _ ⟨h4, out', O', rfl, x4, f4, b4, l4, hO'⟩
        dsimp only
        have hO2 : O'.length ≤ j + 1 := by
          rw [hO']
          split
          · rename_i hb
            rw [Bool.and_eq_true] at hb
            have := hd0 (by simpa using hb.1)
            simp; omega
          · exact hO
        refine PO.ptr (PO.op l4 ?_)
        refine PO.appRe b4 x4 f4 (by omega) fun out1 h5 b5 x5 f5 k5 => .retL ⟨_, ?_, j + 1, h5, out1, (done || decide (ahead d id (p1, p2))), O' ++ [(p1, p2)], ?_, rfl, by omega, x5, f5, b5, by simp; omega, ?_⟩
        · omega
        · rw [w64 (n := (j : Int) + 1) (by omega) (by omega)]; rfl
        · rw [htk]
          rcases hP with ⟨e1, e2, e3⟩ | ⟨e1, A, B, e2, e3, e4, y, e5, e6⟩
          · subst e1
            subst e2
            by_cases hah : ahead d id (p1, p2)
            · refine .inr ⟨by simp [hah], M.take j, [(p1, p2)], ?_, rfl, e3, (p1, p2), rfl, hah⟩
              rw [hO', if_pos (by simp [hah])]; simp
            · refine .inl ⟨by simp [hah], ?_, fun x hx => ?_⟩
              · rw [hO', if_neg (by simp [hah])]
              · rcases List.mem_append.1 hx with hx | hx
                · exact e3 x hx
                · simp at hx; subst hx; exact hah
          · subst e1
            refine .inr ⟨by simp, A, B ++ [(p1, p2)], ?_, ?_, e4, y, ?_, e6⟩
            · rw [hO', if_neg (by simp), e2]; simp
            · rw [e3]; simp
            · cases B with
              | nil => cases e5
              | cons z B => exact e5
    · have : j = M.length := by omega
      subst this
      rw [List.take_length] at hP
      exact .retR ⟨hh, out, done, O, rfl, x, f, bo, hP⟩
  · rintro _ ⟨hh, out, done, O, rfl, x, f, bo, hP⟩
    dsimp only
    refine PO.join (fun q => ∃ (h2 : H) (out' : Sl) (A B : List Run), q = ((some ⟨b, 0, some 0⟩, out'), h2) ∧ EX h1 h2 ∧ Fr h1.size out' ∧ RdR h2 out' (A ++ (d, id) :: B) ∧ M = A ++ B ∧ (∀ x ∈ A, ¬ ahead d id x) ∧ (∀ y, B.head? = some y → ahead d id y)) ?_ ?_
    · rcases hP with ⟨rfl, rfl, e3⟩ | ⟨rfl, A, B, rfl, e3, e4, y, e5, e6⟩
      · refine PO.condT (PO.appRe bo x f (by omega) fun out1 h5 b5 x5 f5 k5 => .retL ⟨h5, out1, O, [], rfl, x5, f5, b5.rd, by simp, e3, by simp⟩)
      · exact PO.condF (.retL ⟨hh, out, A, B, rfl, x, f, bo.rd, e3, e4, fun z hz => by rw [e5] at hz; cases hz; exact e6⟩)
    · rintro _ ⟨h2, out', A, B, rfl, x2, f2, r2, e1, e2, e3⟩
      exact PO.ptr (ROrd.store B0 x2 f2 r2 fun h' R' u => .ret ⟨A, B, e1, e2, e3, R', u1.trans u fun _ _ e => e⟩)
end Go.Proofs.Ythiccnmplgdheaa.T
/- The law OrderTells over the typed texts. -/
set_option linter.unusedVariables false
set_option linter.unusedSimpArgs false
namespace Go.Proofs.Ythiccnmplgdheaa.T
open Go Go.Abs Go.Proofs
open TC (cmpI ordL before)
def ltR (p q : Run) : Prop := p.1 < q.1 ∨ p.1 = q.1 ∧ p.2 < q.2
/-- the reference's list stands for a map -/
structure IsRef (L : List Run) (es : List (Int × Int)) : Prop where
  mem : ∀ p : Run, p ∈ L ↔ lookI p.2 es = some p.1
  sorted : L.Pairwise ltR
theorem IsRef.ids {L : List Run} {es : List (Int × Int)} (R : IsRef L es) (hn : (es.map (·.1)).Nodup) : ordL es = L.map (·.2) := by
  have hnd : (L.map (·.2)).Nodup := by
    rw [List.Nodup, List.pairwise_map]
    refine (List.Pairwise.and_mem.1 R.sorted).imp ?_
    rintro p q ⟨hp, hq, h⟩ e
    have h1 := (R.mem p).1 hp
    have h2 := (R.mem q).1 hq
    rw [e, h2] at h1
    have h3 := Option.some.inj h1
    unfold ltR at h; omega
  refine ordL_eq hn ?_ ?_
  · refine (List.perm_ext_iff_of_nodup hnd hn).2 fun x => ?_
    rw [lookI_mem, List.mem_map]
    constructor
    · rintro ⟨p, hp, rfl⟩
      rw [(R.mem p).1 hp]; rfl
    · intro h
      obtain ⟨d, hd⟩ := Option.isSome_iff_exists.1 h
      exact ⟨(d, x), (R.mem (d, x)).2 hd, rfl⟩
  · rw [List.pairwise_map]
    refine (List.Pairwise.and_mem.1 R.sorted).imp ?_
    rintro p q ⟨hp, hq, h⟩
    have h1 := (R.mem p).1 hp
    have h2 := (R.mem q).1 hq
    unfold before getI
    rw [h1, h2]
    exact h
theorem IsRef.len {L : List Run} {es : List (Int × Int)} (R : IsRef L es) (hn : (es.map (·.1)).Nodup) : L.length = es.length := by
  have h1 := (TC.ordL_perm es).length_eq
  rw [R.ids hn] at h1
  simpa using h1
theorem IsRef.nil : IsRef [] [] := ⟨fun p => by simp [lookI], .nil⟩
theorem IsRef.drop {L : List Run} {es : List (Int × Int)} (R : IsRef L es) (hn : (es.map (·.1)).Nodup) (id : Int) : IsRef (noId id L) (dropI id es) := by
  refine ⟨fun p => ?_, R.sorted.sublist List.filter_sublist⟩
  unfold noId
  rw [List.mem_filter, R.mem, lookI_drop _ _ _ hn]
  by_cases h : p.2 = id
  · simp [h]
  · simp [h]
theorem IsRef.put {L A B : List Run} {es : List (Int × Int)} (R : IsRef L es) (hn : (es.map (·.1)).Nodup) {d id : Int} (e : noId id L = A ++ B) (hA : ∀ x ∈ A, ¬ ahead d id x) (hB : ∀ y, B.head? = some y → ahead d id y) : IsRef (A ++ (d, id) :: B) (putI id d es) := by
  have R1 := R.drop hn id
  have hne : ∀ p ∈ A ++ B, p.2 ≠ id := fun p hp => by rw [← e] at hp; unfold noId at hp; rw [List.mem_filter] at hp; simpa using hp.2
  have hs : (A ++ B).Pairwise ltR := by rw [← e]; exact R1.sorted
  rw [List.pairwise_append] at hs
  obtain ⟨sA, sB, sAB⟩ := hs
  have hA' : ∀ x ∈ A, ltR x (d, id) := fun x hx => by
    have h1 := hA x hx
    have h2 := hne x (List.mem_append_left _ hx)
    unfold ahead at h1; unfold ltR; simp only; omega
  have hB' : ∀ y ∈ B, ltR (d, id) y := by
    cases B with
    | nil => intro y hy; cases hy
    | cons z B =>
      have hz : ltR (d, id) z := hB z rfl
      intro y hy
      rcases List.mem_cons.1 hy with rfl | hy
      · exact hz
      · have := (List.pairwise_cons.1 sB).1 y hy
        unfold ltR at this hz ⊢; simp only at hz ⊢; omega
  refine ⟨fun p => ?_, ?_⟩
  · rw [lookI_put]
    have hm : p ∈ A ++ (d, id) :: B ↔ p = (d, id) ∨ p ∈ A ++ B := by
      simp only [List.mem_append, List.mem_cons]
      constructor
      · rintro (h | h | h)
        · exact .inr (.inl h)
        · exact .inl h
        · exact .inr (.inr h)
      · rintro (h | h | h)
        · exact .inr (.inl h)
        · exact .inl h
        · exact .inr (.inr h)
    rw [hm, ← e]
    by_cases h : p.2 = id
    · rw [if_pos h]
      constructor
      · rintro (rfl | hp)
        · rfl
        · rw [e] at hp; exact absurd h (hne p hp)
      · intro he
        left
        obtain ⟨p1, p2⟩ := p
        simp only at h he
        rw [h, ← Option.some.inj he]
    · rw [if_neg h, R1.mem, lookI_drop _ _ _ hn, if_neg h]
      constructor
      · rintro (rfl | hp)
        · exact absurd rfl h
        · exact hp
      · exact .inr
  · rw [List.pairwise_append]
    refine ⟨sA, List.pairwise_cons.2 ⟨hB', sB⟩, fun x hx y hy => ?_⟩
    rcases List.mem_cons.1 hy with rfl | hy
    · exact hA' x hx
    · exact sAB x hx y hy
theorem lookR_some {id d : Int} : ∀ {L : List Run}, lookR id L = some d → ((d, id) : Run) ∈ L
  | [], h => by simp [lookR] at h
  | p :: L, h => by
    unfold lookR at h
    split at h
    · rename_i e
      cases h
      subst e
      exact List.mem_cons_self
    · exact List.mem_cons_of_mem _ (lookR_some h)
theorem lookR_none {id : Int} : ∀ {L : List Run}, lookR id L = none → ∀ p ∈ L, p.2 ≠ id
  | [], _, p, hp => by cases hp
  | q :: L, h, p, hp => by
    unfold lookR at h
    split at h
    · cases h
    · rename_i e
      rcases List.mem_cons.1 hp with rfl | hp
      · exact e
      · exact lookR_none h p hp
theorem IsRef.look {L : List Run} {es : List (Int × Int)} (R : IsRef L es) (id : Int) : lookR id L = lookI id es := by
  cases h : lookR id L with
  | some d => exact ((R.mem (d, id)).1 (lookR_some h)).symm
  | none =>
    cases h2 : lookI id es with
    | none => rfl
    | some d => exact absurd rfl (lookR_none h (d, id) ((R.mem (d, id)).2 h2))
theorem IsRef.late {L : List Run} {es : List (Int × Int)} (R : IsRef L es) (hn : (es.map (·.1)).Nodup) (now : Int) : (ordL es).filter (keepL es now) = (L.filter fun p => decide (p.1 < now)).map (·.2) := by
  rw [R.ids hn, List.filter_map]
  congr 1
  refine List.filter_congr fun p hp => ?_
  show decide (getI p.2 es < now) = _
  unfold getI
  rw [(R.mem p).1 hp]; rfl
/-! both in one heap -/
structure OT (h0 h : H) (a b : Nat) (ma : Option Nat) (es : List (Int × Int)) (L : List Run) : Prop where
  ex : EX h0 h
  oa : Ord h a ma es
  rb : ROrd h b L
  ab : a ≠ b
  a0 : h0.size ≤ a
  b0 : h0.size ≤ b
  mab : ma ≠ some b
  ma0 : ∀ r, ma = some r → h0.size ≤ r
theorem Rd.ordUp {sz : Nat} {h h1 : H} {o : Nat} {m : Option Nat} {es : List (Int × Int)} {s : Sl} {l : List Value} (O : Ord h o m es) (w : WF h) (u : UP (fun A => A = o ∨ m = some A) h h1) (hint : ∀ v ∈ l, ∃ n, v = .int .i64 n) (r : Rd sz h s l) : Rd sz h1 s l :=
  ⟨r.len, r.nil, fun a ha i v hi => by
    obtain ⟨h1, h2⟩ := r.ld a ha i v hi
    obtain ⟨n, rfl⟩ := hint v (List.mem_of_getElem? hi)
    refine ⟨Nat.lt_of_lt_of_le h1 u.size, u.ld (a := add a i) h1 (fun e => ?_) h2⟩
    have e' : a.block = o ∨ m = some a.block := e
    rw [ldCell_eq] at h2
    rcases e' with e' | e'
    · obtain ⟨t, c, g1, g2⟩ := O.box.get
      simp only [add, e', g1] at h2
      unfold ldO at h2
      simp only at h2
      split at h2
      · rename_i sp hsp
        split at h2
        · rename_i cl hcl
          have hlt := w.arr o _ g1 _ _ hcl
          simp only [List.length_singleton] at hlt
          have h0 : a.off + i = 0 := by omega
          have hg := g2 0 _ rfl
          rw [h0, hg] at hcl
          cases hcl
          simp only [Nat.zero_le, Nat.ble_eq, show Nat.ble 0 sp = true by simp, cond_true, Option.some.injEq] at h2
          cases h2
        · simp at h2
      · simp at h2
    · have := (O.map.at_ _ e').2.2
      simp only [add, this] at h2
      simp [ldO] at h2, r.cap⟩
theorem runsV_ints (L : List Run) : ∀ v ∈ runsV L, ∃ n, v = .int .i64 n := by
  induction L with
  | nil => intro v hv; cases hv
  | cons p L ih =>
    intro v hv
    simp only [runsV, List.mem_cons] at hv
    rcases hv with rfl | rfl | hv
    · exact ⟨_, rfl⟩
    · exact ⟨_, rfl⟩
    · exact ih v hv
section
variable {h0 h h1 : H} {a b : Nat} {ma : Option Nat} {es : List (Int × Int)} {L : List Run}
theorem OT.wf (T : OT h0 h a b ma es L) : WF h := T.ex.wf
theorem OT.kx (T : OT h0 h a b ma es L) (x : EX h h1) : OT h0 h1 a b ma es L := ⟨T.ex.trans x, T.oa.ex x, T.rb.kx x, T.ab, T.a0, T.b0, T.mab, T.ma0⟩
theorem OT.rbUp (T : OT h0 h a b ma es L) (u : UP (fun A => A = a ∨ ma = some A) h h1) : ROrd h1 b L := by
  obtain ⟨s, B, r⟩ := T.rb
  exact ⟨s, B.up T.wf u (fun e => e.elim (fun e => T.ab e.symm) T.mab), Rd.ordUp T.oa T.wf u (runsV_ints L) r⟩
theorem OT.put (T : OT h0 h a b ma es L) (d id : Int) :
    PO (order_Order_Put (some ⟨a, 0, some 0⟩) d id h) (fun (_, h') => ∃ ma', OT h0 h' a b ma' (putI id d es) L) := by
  refine (OPut_f T.wf T.oa d id).mono ?_
  rintro ⟨_, h'⟩ ⟨m', O', u, f⟩
  obtain ⟨s, B, r⟩ := T.rb
  have bl := B.blt
  have s0 := T.ex.size
  refine ⟨m', u.ex0 T.ex fun A hA e => ?_, O', T.rbUp u, T.ab, T.a0, T.b0, ?_, ?_⟩
  · rcases e with e | e
    · have := T.a0; omega
    · have := T.ma0 A e; omega
  · rcases f with f | ⟨r, f, hr⟩
    · rw [f]; exact T.mab
    · rw [f]; intro e; cases e; omega
  · intro r hr
    rcases f with f | ⟨r', f, hr'⟩
    · exact T.ma0 r (f ▸ hr)
    · rw [f] at hr; cases hr; omega
theorem OT.drop (T : OT h0 h a b ma es L) (hel : es.length ≤ 2 ^ 47) {ids : Sl} {zs : List Int} (r : RdI .i64 h ids zs) (hz : zs.length ≤ 2 ^ 47) :
    PO (order_Order_Drop (some ⟨a, 0, some 0⟩) ids h) (fun (n, h') => n = (es.length : Int) - ((dropsI zs es).length : Int) ∧ OT h0 h' a b ma (dropsI zs es) L) := by
  refine (ODrop_f T.wf T.oa hel r hz).mono ?_
  rintro ⟨n, h'⟩ ⟨e1, O', u⟩
  exact ⟨e1, u.ex0 T.ex fun A hA e => by have := T.ma0 A e; omega, O', T.rbUp (u.mono fun _ _ e => .inr e), T.ab, T.a0, T.b0, T.mab, T.ma0⟩
theorem OT.ref (T : OT h0 h a b ma es L) {L' : List Run} (R : ROrd h1 b L') (u : UP (· = b) h h1) : OT h0 h1 a b ma es L' :=
  ⟨u.ex0 T.ex fun A hA e => by have := T.b0; omega, ⟨T.oa.box.up T.wf u T.ab, T.oa.map.up u fun r hr e => T.mab (hr.trans (by rw [e])), T.oa.ne⟩, R, T.ab, T.a0, T.b0, T.mab, T.ma0⟩
/-- what is behind n is written -/
theorem OT.up {n : Nat} (T : OT h0 h a b ma es L) (u : UP (fun A => n ≤ A) h h1) (k : KP h h1) (hn : h0.size ≤ n) (ha : a < n) (hb : b < n) (hma : ∀ r, ma = some r → r < n) : OT h0 h1 a b ma es L := by
  obtain ⟨s, B, r⟩ := T.rb
  exact ⟨u.ex0 T.ex fun A hA e => by omega, ⟨T.oa.box.up T.wf u (by omega), T.oa.map.up u fun r hr e => by have := hma r hr; omega, T.oa.ne⟩, ⟨s, B.up T.wf u (by omega), r.mono k⟩, T.ab, T.a0, T.b0, T.mab, T.ma0⟩
end
/-! the drops of one call -/
def pk (v : Int) : Int := v % 20 - 3
theorem tells_l2 {h0 hB : H} {a b c : Nat} {ma : Option Nat} {es : List (Int × Int)} {x : F4} {ls : List Int} (rx : RdI .i64 h0 x.2.2.2 ls) (hls : ls.length ≤ 2 ^ 47) (hn : (es.map (·.1)).Nodup) (hel : es.length ≤ 1000) {now id : Int} {calls : Sl} {x2 x3 : Int}
    (hnr : h0.nro ≤ hB.size) (hn0 : h0.size ≤ hB.size) (ha : a < hB.size) (hb : b < hB.size) (hc : c < hB.size) (hcb : c ≠ b) (hma : ∀ r, ma = some r → r < hB.size) :
    ∀ n s, (∃ (i : Nat) (hh : H) (l : Sl) (L : List Run), s = ((now, (some ⟨a, 0, some 0⟩, (some ⟨b, 0, some 0⟩, (some ⟨c, 0, some 0⟩, (id, ((es.length : Int) - ((dropsI ((ls.take i).map pk) es).length : Int), (l, ((i : Int), (calls, (x2, x3)))))))))), hh) ∧ n = 4 - i ∧ i ≤ 4 ∧ i ≤ ls.length ∧ hB.size ≤ hh.size ∧ OT h0 hh a b ma es L ∧ IsRef L (dropsI ((ls.take i).map pk) es) ∧ Box hh c (f4L x) ∧ Buf 1 hh l (((ls.take i).map pk).map (.int .i64)) ∧ Fr hB.size l) →
    PO (loopO law20_OrderTells_l2 s) (fun q => ∃ (hh : H) (l : Sl) (L : List Run) (zs : List Int), q = Sum.inl ((now, (some ⟨a, 0, some 0⟩, (some ⟨b, 0, some 0⟩, (id, ((es.length : Int) - ((dropsI zs es).length : Int), (l, (calls, (x2, x3)))))))), hh) ∧ zs.length ≤ 4 ∧ OT h0 hh a b ma es L ∧ IsRef L (dropsI zs es) ∧ RdI .i64 hh l zs) := by
  refine PO.loop _ ?_
  rintro n _ ⟨i, hh, l, L, rfl, rfl, hi, hil, hs, T, R, B, bo, fr⟩
  unfold law20_OrderTells_l2 P.law20_OrderTells_l2
  dsimp only
  have hxl : x.2.2.2.len = ls.length := rx.len
  refine PO.join (fun q => q = ((now, (some ⟨a, 0, some 0⟩, (some ⟨b, 0, some 0⟩, (some ⟨c, 0, some 0⟩, (id, ((es.length : Int) - ((dropsI ((ls.take i).map pk) es).length : Int), (l, ((i : Int), (calls, (x2, (x3, decide (i < ls.length ∧ i < 4)))))))))))), hh)) ?_ ?_
  · refine PO.ptr (PO.ldL (i := 3) B rfl ?_)
    rw [hxl]
    refine PO.condD (fun h1 => .retL ?_) (fun h1 => .retL ?_)
    · have : decide ((i : Int) < 4) = decide (i < ls.length ∧ i < 4) := decide_eq_decide.2 (by omega)
      rw [this]
    · rw [decide_eq_false (show ¬ (i < ls.length ∧ i < 4) by omega)]
  · rintro _ rfl
    dsimp only
    refine PO.condD (fun hcc => ?_) (fun hcc => ?_)
    · obtain ⟨hi1, hi4⟩ := hcc
      have htk : ls.take (i + 1) = ls.take i ++ [ls[i]] := List.take_succ_eq_append_getElem hi1
      have hzl : ((ls.take i).map pk).length = i := by simp; omega
      refine PO.join (fun q => ∃ (h2 : H) (l' : Sl) (L' : List Run), q = ((now, (some ⟨a, 0, some 0⟩, (some ⟨b, 0, some 0⟩, (some ⟨c, 0, some 0⟩, (id, ((es.length : Int) - ((dropsI ((ls.take (i + 1)).map pk) es).length : Int), (l', ((i : Int), (calls, (x2, x3)))))))))), h2) ∧ hB.size ≤ h2.size ∧ OT h0 h2 a b ma es L' ∧ IsRef L' (dropsI ((ls.take (i + 1)).map pk) es) ∧ Box h2 c (f4L x) ∧ Buf 1 h2 l' (((ls.take (i + 1)).map pk).map (.int .i64)) ∧ Fr hB.size l') ?_ ?_
      · refine PO.ptr (PO.ldL (i := 3) B rfl (PO.ixI (RdI.ex T.ex rx) (by omega) (by omega) fun p hp => PO.op hp ?_))
        rw [show ((i : Int)).toNat = i from rfl, List.getD_eq_getElem?_getD, List.getElem?_eq_getElem hi1, Option.getD_some]
        refine PO.callE (pick_f ls[i] 20 (by omega) (by omega) hh) ?_
        have e0 : 0 ≤ ls[i] % 20 := Int.emod_nonneg _ (by omega)
        have e1 : ls[i] % 20 < 20 := Int.emod_lt_of_pos _ (by omega)
        rw [w64 (n := ls[i] % 20 - 3) (by omega) (by omega)]
        refine PO.appI1u T.wf bo (by rw [T.ex.nro]; exact hnr) hs fr (by rw [hzl]; omega) fun l3 h3 b3 u3 f3 k3 => ?_
        have T3 := T.up u3 k3 hn0 ha hb hma
        have B3 := B.up T.wf u3 (by omega)
        have ez : (ls.take i).map pk ++ [ls[i] % 20 - 3] = (ls.take (i + 1)).map pk := by rw [htk, List.map_append]; rfl
        have r3 := b3.rd
        refine PO.ixI (zs := (ls.take i).map pk ++ [ls[i] % 20 - 3]) r3 (by omega) (by rw [List.length_append, hzl]; simp; omega) fun p hp => PO.op hp ?_
        have eg : ((ls.take i).map pk ++ [ls[i] % 20 - 3]).getD ((i : Int)).toNat 0 = ls[i] % 20 - 3 := by
          rw [show ((i : Int)).toNat = i from rfl, List.getD_eq_getElem?_getD, List.getElem?_append_right (by omega), hzl]; simp
        rw [eg]
        have hnd := drops_nodup ((ls.take i).map pk) hn
        have hlL : L.length = (dropsI ((ls.take i).map pk) es).length := R.len hnd
        have hdl := dropsI_len ((ls.take i).map pk) es
        refine PO.call (RODrop_f T3.wf T3.rb (by omega) (ls[i] % 20 - 3)) ?_
        rintro q h4 ⟨e4, R4, u4⟩
        have e4 : q = decide ((noId (ls[i] % 20 - 3) L).length < L.length) := e4
        have R' := R.drop hnd (ls[i] % 20 - 3)
        have hnd' := List.Nodup.sublist (dropI_sub (ls[i] % 20 - 3) _) hnd
        have hlL' := R'.len hnd'
        have ed : dropI (ls[i] % 20 - 3) (dropsI ((ls.take i).map pk) es) = dropsI ((ls.take (i + 1)).map pk) es := by rw [← ez, dropsI_snoc]
        obtain ⟨g1, g2⟩ := dropI_len_eq (ls[i] % 20 - 3) (dropsI ((ls.take i).map pk) es)
        rw [ed] at R' hlL' g1
        have fin : ∀ m : Int, m = (es.length : Int) - ((dropsI ((ls.take (i + 1)).map pk) es).length : Int) → ∃ (h2 : H) (l' : Sl) (L' : List Run), ((now, (some (⟨a, 0, some 0⟩ : Addr), (some (⟨b, 0, some 0⟩ : Addr), (some (⟨c, 0, some 0⟩ : Addr), (id, (m, (l3, ((i : Int), (calls, (x2, x3)))))))))), h4) = ((now, (some ⟨a, 0, some 0⟩, (some ⟨b, 0, some 0⟩, (some ⟨c, 0, some 0⟩, (id, ((es.length : Int) - ((dropsI ((ls.take (i + 1)).map pk) es).length : Int), (l', ((i : Int), (calls, (x2, x3)))))))))), h2) ∧ hB.size ≤ h2.size ∧ OT h0 h2 a b ma es L' ∧ IsRef L' (dropsI ((ls.take (i + 1)).map pk) es) ∧ Box h2 c (f4L x) ∧ Buf 1 h2 l' (((ls.take (i + 1)).map pk).map (.int .i64)) ∧ Fr hB.size l' := fun m hm => by
          subst hm
          refine ⟨h4, l3, _, rfl, by have := u3.size; have := u4.size; omega, T3.ref R4 u4, R', B3.up T3.wf u4 hcb, ?_, f3⟩
          rw [← ez]
          exact b3.up T3.wf u4 fun p hp e => by have := f3 p hp; have e : p.block = b := e; omega
        refine PO.cond (fun hq => ?_) (fun hq => ?_)
        · subst e4
          have hlt := of_decide_eq_true hq
          refine .retL (fin _ ?_)
          have hsm : (lookI (ls[i] % 20 - 3) (dropsI ((ls.take i).map pk) es)).isSome = true := by
            cases hx : (lookI (ls[i] % 20 - 3) (dropsI ((ls.take i).map pk) es)).isSome with
            | true => rfl
            | false => rw [hx] at g1; simp only [Bool.false_eq_true, if_false, Nat.sub_zero] at g1; omega
          rw [hsm, if_pos rfl] at g1
          have := g2 hsm
          rw [w64 (by omega) (by omega)]; omega
        · subst e4
          have hlt := of_decide_eq_false hq
          refine .retL (fin _ ?_)
          have : (dropsI ((ls.take (i + 1)).map pk) es).length = (dropsI ((ls.take i).map pk) es).length := by
            have : (dropsI ((ls.take (i + 1)).map pk) es).length ≤ (dropsI ((ls.take i).map pk) es).length := by rw [g1]; omega
            omega
          rw [this]
      · rintro _ ⟨h2, l', L', rfl, hs2, T2, R2, B2, b2, f2⟩
        refine .retL ⟨_, ?_, i + 1, h2, l', L', ?_, rfl, by omega, by omega, hs2, T2, R2, B2, b2, f2⟩
        · omega
        · rw [w64 (n := (i : Int) + 1) (by omega) (by omega)]; rfl
    · exact .retR ⟨hh, l, L, _, rfl, by simp; omega, T, R, bo.rd⟩
/-! the calls -/
theorem dl_sub {l : List Int} {es : List (Int × Int)} {N : Nat} (hb : ∀ x : Int, x ∈ es.map (·.1) → -3 ≤ x ∧ x < (N : Int) - 3) : ∀ x : Int, x ∈ (dropsI l es).map (·.1) → -3 ≤ x ∧ x < (N : Int) - 3 :=
  fun x hx => hb x ((drops_sub l es).subset hx)
structure KeyOK (es : List (Int × Int)) : Prop where
  nd : (es.map (·.1)).Nodup
  in_ : ∀ x : Int, x ∈ es.map (·.1) → -3 ≤ x ∧ x < ((20 : Nat) : Int) - 3
theorem KeyOK.len {es : List (Int × Int)} (K : KeyOK es) : es.length ≤ 20 := by
  have h1 : ((es.map (·.1)).map (· + 3)).Nodup := by
    rw [List.Nodup, List.pairwise_map]
    exact List.Pairwise.imp (fun {a b} (h : a ≠ b) => by omega) K.nd
  have := nodup_len 20 _ h1 fun x hx => by
    obtain ⟨y, hy, rfl⟩ := List.mem_map.1 hx
    have := K.in_ y hy; omega
  simpa using this
theorem KeyOK.good {es : List (Int × Int)} (K : KeyOK es) : OGood es :=
  ⟨K.nd, fun k hk => by have := K.in_ k hk; simp [Lit.wf, IntKind.min, IntKind.max, IntKind.signed, IntKind.bits]; omega, by have := K.len; omega⟩
theorem KeyOK.put {es : List (Int × Int)} (K : KeyOK es) (d : Int) {id : Int} (h : -3 ≤ id ∧ id < ((20 : Nat) : Int) - 3) : KeyOK (putI id d es) :=
  ⟨nodup_put _ _ K.nd, fun x hx => by
    rw [mem_put] at hx
    rcases hx with rfl | hx
    · exact h
    · exact K.in_ x hx⟩
theorem KeyOK.drops {es : List (Int × Int)} (K : KeyOK es) (l : List Int) : KeyOK (dropsI l es) := ⟨drops_nodup l K.nd, fun x hx => K.in_ x ((drops_sub l es).subset hx)⟩
theorem tells_l1 {h0 : H} (hst : h0.st = false) (w0 : WF h0) {calls : Sl} {xs : List F4} (r : Rd 4 h0 calls (csV xs)) (hn : xs.length ≤ 2 ^ 47) (hxi : ∀ x ∈ xs, ∃ l, RdI .i64 h0 x.2.2.2 l ∧ l.length ≤ 2 ^ 47) {a b : Nat} {now : Int} :
    ∀ n s, (∃ (i : Nat) (hh : H) (ma : Option Nat) (es : List (Int × Int)) (L : List Run), s = ((now, (some ⟨a, 0, some 0⟩, (some ⟨b, 0, some 0⟩, (calls, ((xs.length : Int), (i : Int)))))), hh) ∧ n = xs.length - i ∧ i ≤ xs.length ∧ OT h0 hh a b ma es L ∧ IsRef L es ∧ KeyOK es) →
    PO (loopO law20_OrderTells_l1 s) (fun q => ∃ (hh : H) (ma : Option Nat) (es : List (Int × Int)) (L : List Run), q = Sum.inl ((now, (some ⟨a, 0, some 0⟩, some ⟨b, 0, some 0⟩)), hh) ∧ OT h0 hh a b ma es L ∧ IsRef L es ∧ KeyOK es) := by
  refine PO.loop _ ?_
  rintro n _ ⟨i, hh, ma, es, L, rfl, rfl, hi, T, R, K⟩
  unfold law20_OrderTells_l1 P.law20_OrderTells_l1
  dsimp only
  refine PO.condD (fun hc => ?_) (fun hc => .retR ⟨hh, ma, es, L, rfl, T, R, K⟩)
  refine PO.join (fun q => ∃ (h2 : H) (ma' : Option Nat) (es' : List (Int × Int)) (L' : List Run), q = ((now, (some ⟨a, 0, some 0⟩, (some ⟨b, 0, some 0⟩, (calls, ((xs.length : Int), (i : Int)))))), h2) ∧ OT h0 h2 a b ma' es' L' ∧ IsRef L' es' ∧ KeyOK es') ?_ ?_
  · refine PO.ixC (r.ex T.ex) (by omega) (by omega) fun p x hx e1 _ => PO.op e1 ?_
    obtain ⟨ls, rls, hls⟩ := hxi x (List.mem_of_getElem? hx)
    obtain ⟨x1, x2, x3, x4⟩ := x
    refine PO.callRow (x := (x1, x2, x3, x4)) rfl T.wf fun h2 y2 B2 => ?_
    have T2 := T.kx y2
    refine PO.ldI (i := 1) B2 rfl (PO.callE (pick_f x2 20 (by omega) (by omega) h2) ?_)
    have i0 : 0 ≤ x2 % 20 := Int.emod_nonneg _ (by omega)
    have i1 : x2 % 20 < 20 := Int.emod_lt_of_pos _ (by omega)
    rw [w64 (n := x2 % 20 - 3) (by omega) (by omega)]
    have hid : -3 ≤ x2 % 20 - 3 ∧ x2 % 20 - 3 < ((20 : Nat) : Int) - 3 := by omega
    generalize x2 % 20 - 3 = id at *
    have al := T.oa.box.blt
    have bl : b < hh.size := by obtain ⟨_, B, _⟩ := T.rb; exact B.blt
    have ml : ∀ r, ma = some r → r < hh.size := fun r hr => (T.oa.map.at_ r hr).2.1
    have s0 := T.ex.size
    have s2 : hh.size < h2.size := B2.blt
    refine PO.join (fun q => ∃ (h4 : H) (ma' : Option Nat) (es' : List (Int × Int)) (L' : List Run), q = ((now, (some ⟨a, 0, some 0⟩, (some ⟨b, 0, some 0⟩, (id, (calls, ((xs.length : Int), (i : Int))))))), h4) ∧ OT h0 h4 a b ma' es' L' ∧ IsRef L' es' ∧ KeyOK es') ?_ ?_
    · refine PO.ldI (i := 0) B2 rfl (PO.callE (pick_f x1 4 (by omega) (by omega) h2) ?_)
      refine PO.condE (fun h4 => ?_) (fun h4 => ?_)
      · have hel := K.len
        refine PO.joinD (PO.mono (tells_l2 (x := (x1, x2, x3, x4)) (c := hh.size) (hB := h2) (now := now) (id := id) (calls := calls) (x2 := (xs.length : Int)) (x3 := (i : Int)) rls hls K.nd (by omega) (by have := w0.nro; omega) (by omega) (by omega) (by omega) s2 (by omega) (fun r hr => by have := ml r hr; omega) 4 _ ⟨0, h2, ⟨none, 0, 0⟩, L, ?_, rfl, by omega, by omega, Nat.le_refl _, T2, R, B2, buf_nil 1 h2, fun p hp => by simp at hp⟩) ?_)
        · show _ = ((_, (_, (_, (_, (_, ((es.length : Int) - (es.length : Int), _)))))), _)
          rw [Int.sub_self]; rfl
        · rintro _ ⟨h5, l, L', zs, rfl, hzs, T5, R5, r5⟩
          show PO _ _
          dsimp only
          refine PO.call (T5.drop (by omega) r5 (by omega)) ?_
          rintro m h6 ⟨e6, T6⟩
          have e6 : m = _ := e6
          subst e6
          exact PO.condNE (fun hne => absurd rfl hne) fun _ => .retL ⟨h6, ma, dropsI zs es, L', rfl, T6, R5, K.drops zs⟩
      · refine PO.ldI (i := 2) B2 rfl (PO.callE (pick_f x3 30 (by omega) (by omega) h2) ?_)
        refine PO.join (fun q => ∃ d : Int, q = ((now, (some ⟨a, 0, some 0⟩, (some ⟨b, 0, some 0⟩, (id, (d, (calls, ((xs.length : Int), (i : Int)))))))), h2)) ?_ ?_
        · refine PO.ldI (i := 2) B2 rfl (PO.callE (pick_f x3 13 (by omega) (by omega) h2) ?_)
          exact PO.condE (fun h12 => PO.ldI (i := 2) B2 rfl (.retL ⟨x3, rfl⟩)) (fun h12 => .retL ⟨x3 % 30, rfl⟩)
        · rintro _ ⟨d, rfl⟩
          dsimp only
          refine PO.call (T2.put d id) ?_
          rintro _ h5 ⟨ma', T5⟩
          have hlL := R.len K.nd
          have hel := K.len
          refine PO.call (ROPut_f T5.wf T5.rb (by omega) d id) ?_
          rintro _ h6 ⟨A, B, eAB, hA, hB, R6, u6⟩
          exact .retL ⟨h6, ma', putI id d es, A ++ (d, id) :: B, rfl, T5.ref R6 u6, R.put K.nd eAB hA hB, K.put d hid⟩
    · rintro _ ⟨h4, ma', es', L', rfl, T4, R4, K4⟩
      dsimp only
      have hlL := R4.len K4.nd
      have hel := K4.len
      have hids := R4.ids K4.nd
      have hol : (ordL es').length = es'.length := by rw [hids, List.length_map, hlL]
      refine PO.callE (Deadline_f T4.oa id) ?_
      refine PO.call (RODeadline_f T4.wf T4.rb (by omega) id) ?_
      rintro ⟨y1, y2⟩ h5 ⟨e5, rfl⟩
      rw [R4.look] at e5
      simp only [Prod.mk.injEq] at e5
      obtain ⟨rfl, rfl⟩ := e5
      refine PO.call (First_f T4.wf (T4.ex.st.trans hst) T4.oa K4.good) ?_
      rintro ⟨f1, f2⟩ h6 ⟨e6, x6⟩
      simp only [Prod.mk.injEq] at e6
      obtain ⟨rfl, rfl⟩ := e6
      have T6 := T4.kx x6
      obtain ⟨s6, B6, r6⟩ := T6.rb
      have hs6 := r6.len
      -- all of both
      have all : ∀ {α : Type} {Q : α → Prop} {f : Bool → H → Option α}, (∀ h9, EX h6 h9 → PO (f true h9) Q) → PO (bind2 (order_Order_All (some ⟨a, 0, some 0⟩) h6) fun (x21 : Sl) (h8 : H) => bind2 (ref18_Order_All (some ⟨b, 0, some 0⟩) h8) fun (x22 : Sl) (h9 : H) => bind2 (law20_same x21 x22 h9) f) Q := by
        intro α Q f hf
        refine PO.call (All_f T6.wf (T6.ex.st.trans hst) T6.oa K4.good) ?_
        rintro s7 h7 ⟨x7, r7, _, _, _⟩
        have T7 := T6.kx x7
        refine PO.call (ROAll_f T7.wf T7.rb (by omega)) ?_
        rintro s8 h8 ⟨x8, r8⟩
        refine PO.call (osame_f (RdI.ex x8 r7) r8 (by omega)) ?_
        rintro q h9 ⟨e9, rfl⟩
        have e9 : q = _ := e9
        rw [hids, decide_eq_true rfl] at e9
        subst e9
        exact hf h9 (x7.trans x8)
      refine PO.join (fun q => ∃ h8, q = ((now, (some ⟨a, 0, some 0⟩, (some ⟨b, 0, some 0⟩, (calls, ((xs.length : Int), ((i : Int), false)))))), h8) ∧ EX h6 h8) ?_ ?_
      · refine PO.condNE (fun hne => absurd rfl hne) fun _ => ?_
        have hb1 : (!((lookI id es').isSome == (lookI id es').isSome)) = false := by simp
        rw [hb1]
        refine PO.condF (PO.ptr (PO.ldL (i := 0) B6 rfl ?_))
        have hb2 : (!((!es'.isEmpty) == decide (((s6.len : Nat) : Int) > 0))) = false := by
          cases es' with
          | nil =>
            have : s6.len = 0 := by rw [hs6, hlL]; rfl
            rw [this]; rfl
          | cons e es' =>
            have : decide (((s6.len : Nat) : Int) > 0) = true := decide_eq_true (by rw [hs6, hlL]; simp)
            rw [this]; rfl
        rw [hb2]
        refine PO.condF (PO.cond (fun hne => ?_) (fun he => all fun h9 x9 => .retL ⟨h9, rfl, x9⟩))
        have hpos : 0 < L'.length := by
          cases es' with
          | nil => cases hne
          | cons e es' => rw [hlL]; simp
        refine PO.ptr (PO.ldL (i := 0) B6 rfl (PO.ixR r6 (by omega) (by omega) fun p c hb ha e1 e2 e3 => PO.op e3 ?_))
        have hh1 : (ordL es').headD 0 = (L'.getD ((0 : Int)).toNat (0, 0)).2 := by
          rw [hids]
          cases L' with
          | nil => simp at hpos
          | cons q L' => rfl
        rw [hh1]
        exact PO.condNE (fun hne => absurd rfl hne) fun _ => all fun h9 x9 => .retL ⟨h9, rfl, x9⟩
      · rintro _ ⟨h8, rfl, x8⟩
        exact PO.condF (.retL ⟨h8, ma', es', L', rfl, T6.kx x8, R4, K4⟩)
  · rintro _ ⟨h2, ma', es', L', rfl, T2, R2, K2⟩
    refine .retL ⟨_, ?_, i + 1, h2, ma', es', L', ?_, rfl, by omega, T2, R2, K2⟩
    · omega
    · rw [w64 (n := (i : Int) + 1) (by omega) (by omega)]; rfl
theorem OrderTells (calls : Sl) (now : Int) (h : H) (w : WF h) (hst : h.st = false) (xs : List F4) (r : Rd 4 h calls (csV xs)) (hx : xs.length * 48 ≤ 140737488351232) (hxi : ∀ x ∈ xs, ∃ l, RdI .i64 h x.2.2.2 l ∧ l.length ≤ 2 ^ 47) (g1 : RNG now) :
    ∃ h', law20_OrderTells calls now h = some (true, h') := by
  refine PO.law ?_
  have hlc : calls.len = xs.length := by have := r.len; rw [csV_length] at this; omega
  unfold law20_OrderTells P.law20_OrderTells
  refine PO.newOrd w fun h1 x1 O1 => ?_
  refine PO.newB x1.wf fun h2 x2 B2 z2 w2 => PO.stZ (zs := [.sl]) (x := (⟨none, 0, 0⟩ : Sl)) B2 w2 rfl rfl fun h3 B3 u3 z3 w3 => ?_
  have y3 : EX h1 h3 := u3.ex0 x2 fun A hA e => by omega
  have s1 : h.size < h1.size := O1.box.blt
  have T3 : OT h h3 h.size h1.size none [] [] := ⟨x1.trans y3, O1.ex y3, ⟨⟨none, 0, 0⟩, B3, rd_nil 2 h3⟩, by omega, Nat.le_refl _, by omega, by simp, by simp⟩
  rw [hlc]
  refine PO.joinD (PO.mono (tells_l1 (now := now) hst w r (by omega) hxi xs.length _ ⟨0, h3, none, [], [], rfl, by omega, by omega, T3, IsRef.nil, ⟨by simp, by simp⟩⟩) ?_)
  rintro _ ⟨h4, ma, es, L, rfl, T4, R, K⟩
  show PO _ _
  dsimp only
  have hlL := R.len K.nd
  have hel := K.len
  have hol : (ordL es).length = es.length := by have := (TC.ordL_perm es).length_eq; simpa using this
  refine PO.call (known20_f T4.wf (T4.ex.st.trans hst)) ?_
  rintro q h5 ⟨e5, x5⟩
  subst e5
  refine PO.condT ?_
  have late : ∀ {α : Type} {Q : α → Prop} {hh : H} {f : Bool → H → Option α} (nw : Int), OT h hh h.size h1.size ma es L → (∀ h9, EX hh h9 → PO (f true h9) Q) → PO (bind2 (order_Order_Late (some ⟨h.size, 0, some 0⟩) nw hh) fun (x21 : Sl) (h8 : H) => bind2 (ref18_Order_Late (some ⟨h1.size, 0, some 0⟩) nw h8) fun (x22 : Sl) (h9 : H) => bind2 (law20_same x21 x22 h9) f) Q := by
    intro α Q hh f nw T6 hf
    refine PO.call (Late_f T6.wf (T6.ex.st.trans hst) T6.oa K.good nw) ?_
    rintro s7 h7 ⟨x7, r7, _⟩
    have T7 := T6.kx x7
    refine PO.call (ROLate_f T7.wf T7.rb (by omega) nw) ?_
    rintro s8 h8 ⟨x8, r8⟩
    rw [R.late K.nd] at r7
    refine PO.call (osame_f (RdI.ex x8 r7) r8 (by have := List.length_filter_le (fun p : Run => decide (p.1 < nw)) L; simp at this ⊢; omega)) ?_
    rintro q h9 ⟨e9, rfl⟩
    have e9 : q = _ := e9
    rw [decide_eq_true rfl] at e9
    subst e9
    exact hf h9 (x7.trans x8)
  have T5 := T4.kx x5
  refine late now T5 fun h6 x6 => PO.condT ?_
  refine PO.callE (pick_f now 40 (by omega) (by omega) h6) ?_
  have T6 := T5.kx x6
  refine PO.call (Late_f T6.wf (T6.ex.st.trans hst) T6.oa K.good (now % 40)) ?_
  rintro s7 h7 ⟨x7, r7, _⟩
  have T7 := T6.kx x7
  refine PO.callE (pick_f now 40 (by omega) (by omega) h7) ?_
  refine PO.call (ROLate_f T7.wf T7.rb (by omega) (now % 40)) ?_
  rintro s8 h8 ⟨x8, r8⟩
  rw [R.late K.nd] at r7
  refine PO.call (osame_f (RdI.ex x8 r7) r8 (by have := List.length_filter_le (fun p : Run => decide (p.1 < now % 40)) L; simp at this ⊢; omega)) ?_
  rintro q h9 ⟨e9, rfl⟩
  exact .ret (e9.trans (decide_eq_true rfl))
end Go.Proofs.Ythiccnmplgdheaa.T
