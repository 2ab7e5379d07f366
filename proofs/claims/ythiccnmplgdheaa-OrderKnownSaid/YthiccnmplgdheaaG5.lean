/- Lemmas about the typed texts (joined: SPnum SMap1 SOrd1). -/
import Derived.Test.YthiccnmplgdheaaTxt
import Derived.Test.YthiccnmplgdheaaAbsF
import Derived.Test.YthiccnmplgdheaaG4
/- Chapter 2's functions, what they tell; the laws PnumMonotone and PnumBack over the typed texts. -/
set_option linter.unusedVariables false
set_option linter.unusedSimpArgs false
namespace Go.Proofs.Ythiccnmplgdheaa.T
open Go Go.Abs Go.Proofs
def sp (k : Int) : Int := if k = 1 then 256 else if k = 2 then 65536 else if k = 3 then 16777216 else 4294967296
theorem sp_pos (k : Int) : 0 < sp k ∧ sp k ≤ 4294967296 := by unfold sp; (repeat' split) <;> omega
def bk (cut by_ x : Int) : Int :=
  if x + (cut - x) % by_ - by_ < 0 then x + (cut - x) % by_
  else if x + (cut - x) % by_ ≤ 4611686018427387903 then
    (if (cut - x) % by_ ≤ by_ - (cut - x) % by_ then x + (cut - x) % by_ else x + (cut - x) % by_ - by_)
  else x + (cut - x) % by_ - by_
def nb (d : Int) : Int := if d ≤ 128 then 1 else if d ≤ 32768 then 2 else if d ≤ 8388608 then 3 else 4
theorem nb_mono (d e : Int) (h : d ≤ e) : nb d ≤ nb e := by
  unfold nb; (repeat' split) <;> omega
def mn (k j : Int) : Int := if j < k then j else k
theorem sp_min (k j : Int) (hk : 1 ≤ k) (hk2 : k ≤ 4) (hj : 1 ≤ j) (hj2 : j ≤ 4) (x : Int) : x % sp k % sp j = x % sp (mn k j) := by
  rcases (by omega : k = 1 ∨ k = 2 ∨ k = 3 ∨ k = 4) with rfl | rfl | rfl | rfl <;> rcases (by omega : j = 1 ∨ j = 2 ∨ j = 3 ∨ j = 4) with rfl | rfl | rfl | rfl <;> simp [sp, mn] <;> omega
theorem sp_shl (k : Int) (hk : 1 ≤ k) (hk2 : k ≤ 4) : shlT .i64 1 .u64 (IntKind.wrap .u64 (IntKind.wrap .i64 (8 * k))) = some (sp k) := by
  rcases (by omega : k = 1 ∨ k = 2 ∨ k = 3 ∨ k = 4) with rfl | rfl | rfl | rfl <;> decide +kernel
theorem bk_self (n x s : Int) (hs : 0 < s) (h1 : 0 ≤ x) (h2 : x ≤ n) (h3 : 2 * (n - x) ≤ s) (h4 : n ≤ 4611686018427387903) (h5 : n - x < s) : bk (n % s) s x = n := by
  have e : (n % s - x) % s = n - x := by
    rw [Int.emod_sub_emod]
    exact Int.emod_eq_of_lt (by omega) h5
  unfold bk
  rw [e]
  have e2 : x + (n - x) = n := by omega
  rw [e2]
  split
  · rfl
  · rw [if_pos (by omega)]
end Go.Proofs.Ythiccnmplgdheaa.T
/- Maps of whole numbers to whole numbers in the texts' memory: what a look, a put, a drop tell. -/
set_option linter.unusedVariables false
namespace Go.Abs
open Go
def encM (es : List (Int × Int)) : List (Value × Value) := es.map fun p => (.int .i64 p.1, .int .i64 p.2)
/-- what a map holds -/
structure MapAt (h : H) (m : Option Nat) (es : List (Int × Int)) : Prop where
  nil : m = none → es = []
  at_ : ∀ r, m = some r → h.nro ≤ r ∧ r < h.size ∧ h.objs.get r = some (.map (encM es))
/-- what a map holds, for reading -/
structure MapR (h : H) (m : Option Nat) (es : List (Int × Int)) : Prop where
  nil : m = none → es = []
  at_ : ∀ r, m = some r → r < h.size ∧ h.objs.get r = some (.map (encM es))
theorem MapAt.r {h : H} {m : Option Nat} {es : List (Int × Int)} (M : MapAt h m es) : MapR h m es := ⟨M.nil, fun r hr => (M.at_ r hr).2⟩
theorem MapR.ex {h h1 : H} {m : Option Nat} {es : List (Int × Int)} (M : MapR h m es) (x : EX h h1) : MapR h1 m es :=
  ⟨M.nil, fun r hr => ⟨Nat.lt_of_lt_of_le (M.at_ r hr).1 x.size, (x.same r (M.at_ r hr).1).trans (M.at_ r hr).2⟩⟩
/-- the place of a key -/
def ixOf (k : Int) : List (Int × Int) → Nat → Option (Nat × Int)
  | [], _ => none
  | (k', v) :: es, i => if k = k' then some (i, v) else ixOf k es (i + 1)
def lookI (k : Int) : List (Int × Int) → Option Int
  | [] => none
  | (k', v) :: es => if k = k' then some v else lookI k es
def putI (k v : Int) : List (Int × Int) → List (Int × Int)
  | [] => [(k, v)]
  | (k', v') :: es => if k = k' then (k', v) :: es else (k', v') :: putI k v es
def dropI (k : Int) : List (Int × Int) → List (Int × Int)
  | [] => []
  | (k', v') :: es => if k = k' then es else (k', v') :: dropI k es
theorem mfind_enc (k : Int) : ∀ (es : List (Int × Int)) (i : Nat), mfind (.int .i64 k) (encM es) i = some ((ixOf k es i).map fun p => (p.1, Value.int .i64 p.2))
  | [], i => rfl
  | (k', v) :: es, i => by
    show (match keq (.int .i64 k) (.int .i64 k') with | some true => some (some (i, Value.int .i64 v)) | some false => mfind (.int .i64 k) (encM es) (i + 1) | none => none) = _
    by_cases hk : k = k'
    · subst hk; simp [keq, ixOf]
    · have e : (k == k') = false := by simpa using hk
      have e2 : keq (.int .i64 k) (.int .i64 k') = some false := by simp [keq, e]
      rw [e2]
      simp only [ixOf, if_neg hk]
      exact mfind_enc k es (i + 1)
theorem ixOf_look (k : Int) : ∀ (es : List (Int × Int)) (i : Nat), (ixOf k es i).map (·.2) = lookI k es
  | [], i => rfl
  | (k', v) :: es, i => by
    by_cases hk : k = k'
    · simp [ixOf, lookI, hk]
    · simp [ixOf, lookI, hk, ixOf_look k es (i + 1)]
theorem ixOf_put (k v : Int) : ∀ (es : List (Int × Int)) (i : Nat), (match ixOf k es i with | some p => i ≤ p.1 ∧ encM (putI k v es) = setAt (encM es) (p.1 - i) (.int .i64 v) ∧ encM (dropI k es) = (encM es).eraseIdx (p.1 - i) | none => encM (putI k v es) = encM es ++ [(.int .i64 k, .int .i64 v)] ∧ encM (dropI k es) = encM es)
  | [], i => ⟨rfl, rfl⟩
  | (k', v') :: es, i => by
    by_cases hk : k = k'
    · subst hk; simp [ixOf, putI, dropI, encM, setAt]
    · have ih := ixOf_put k v es (i + 1)
      simp only [ixOf, if_neg hk, putI, dropI]
      cases hx : ixOf k es (i + 1) with
      | none => rw [hx] at ih; simp only at ih ⊢; exact ⟨by rw [show encM ((k', v') :: putI k v es) = (.int .i64 k', .int .i64 v') :: encM (putI k v es) from rfl, ih.1]; rfl, by rw [show encM ((k', v') :: dropI k es) = (.int .i64 k', .int .i64 v') :: encM (dropI k es) from rfl, ih.2]; rfl⟩
      | some p =>
        rw [hx] at ih; simp only at ih ⊢
        obtain ⟨h1, h2, h3⟩ := ih
        have e : p.1 - i = (p.1 - (i + 1)) + 1 := by omega
        refine ⟨by omega, ?_, ?_⟩
        · rw [e, show encM ((k', v') :: putI k v es) = (.int .i64 k', .int .i64 v') :: encM (putI k v es) from rfl, h2]; rfl
        · rw [e, show encM ((k', v') :: dropI k es) = (.int .i64 k', .int .i64 v') :: encM (dropI k es) from rfl, h3]; rfl
section
variable {α : Type} {Q : α → Prop} {h h1 : H} {m : Option Nat} {es : List (Int × Int)}
theorem MapAt.up {S : Nat → Prop} (M : MapAt h m es) (u : UP S h h1) (hn : ∀ r, m = some r → ¬ S r) : MapAt h1 m es :=
  ⟨M.nil, fun r hr => ⟨by rw [u.nro]; exact (M.at_ r hr).1, Nat.lt_of_lt_of_le (M.at_ r hr).2.1 u.size, (u.same r (M.at_ r hr).2.1 (hn r hr)).trans (M.at_ r hr).2.2⟩⟩
theorem MapAt.ex (M : MapAt h m es) (x : EX h h1) : MapAt h1 m es := M.up (x.up (S := fun _ => False)) fun _ _ => id
theorem mapAt_nil (h : H) : MapAt h none [] := ⟨fun _ => rfl, fun r hr => by cases hr⟩
def getI (k : Int) (es : List (Int × Int)) : Int := (lookI k es).getD 0
theorem lookT_ok (M : MapR h m es) (k : Int) : lookT .i64 ⟨false, [.int .i64]⟩ (.int .i64 0) h m k = some (getI k es) := by
  cases m with
  | none =>
    have := M.nil rfl; subst this
    rfl
  | some r =>
    have e := (M.at_ r rfl).2
    have hf := mfind_enc k es 0
    have hl := ixOf_look k es 0
    unfold lookT lookA
    show decO _ (match (match h.objs.get r with | some (.map es) => mfind (.int .i64 k) es 0 | _ => none) with | some (some (_, v)) => some (if false then .tuple #[v, .bool true] else v) | some none => some (if false then .tuple #[Value.int .i64 0, .bool false] else Value.int .i64 0) | none => none) = _
    rw [e]
    simp only [hf]
    unfold getI
    rw [← hl]
    cases ixOf k es 0 <;> rfl
theorem lookOT_ok (M : MapR h m es) (k : Int) : lookOT .i64 ⟨false, [.int .i64]⟩ (.int .i64 0) h m k = some (getI k es, (lookI k es).isSome) := by
  cases m with
  | none =>
    have := M.nil rfl; subst this
    rfl
  | some r =>
    have e := (M.at_ r rfl).2
    have hf := mfind_enc k es 0
    have hl := ixOf_look k es 0
    unfold lookOT lookA
    show decT _ (match (match h.objs.get r with | some (.map es) => mfind (.int .i64 k) es 0 | _ => none) with | some (some (_, v)) => some (if true then .tuple #[v, .bool true] else v) | some none => some (if true then .tuple #[Value.int .i64 0, .bool false] else Value.int .i64 0) | none => none) = _
    rw [e]
    simp only [hf]
    unfold getI
    rw [← hl]
    cases ixOf k es 0 <;> rfl
theorem lenMT_ok (M : MapR h m es) : lenMT h m = some (es.length : Int) := by
  cases m with
  | none =>
    have := M.nil rfl; subst this
    rfl
  | some r =>
    have e := (M.at_ r rfl).2
    unfold lenMT lenOf
    show decO _ (match h.objs.get r with | some (.map es) => some (.int .i64 es.length) | _ => none) = _
    rw [e]
    show some ((encM es).length : Int) = _
    simp [encM]
/-- a map that is turned -/
theorem map_turned (w : WF h) {r : Nat} (hr : h.nro ≤ r ∧ r < h.size ∧ h.objs.get r = some (.map (encM es))) (es2 : List (Value × Value)) {es' : List (Int × Int)} (e2 : es2 = encM es') :
    MapAt { h with tick := h.tick + 1, objs := h.objs.set r (.map es2) } (some r) es' ∧ UP (· = r) h { h with tick := h.tick + 1, objs := h.objs.set r (.map es2) } := by
  have get : ∀ A, (h.objs.set r (.map es2)).get A = if A = r then some (.map es2) else h.objs.get A := fun A => Tr.get_set _ _ _ _
  refine ⟨⟨fun x => by (cases x), fun q hq => ?_⟩, ⟨Nat.le_refl _, rfl, ⟨w.nro, fun A hA => ?_, fun A a ha => ?_⟩, fun A _ hA => by show (h.objs.set r _).get A = _; rw [get, if_neg hA], rfl⟩⟩
  · cases hq
    exact ⟨hr.1, hr.2.1, by show (h.objs.set r _).get r = _; rw [get, if_pos rfl, e2]⟩
  · show (h.objs.set r _).get A = none
    have hA' : h.size ≤ A := hA
    rw [get, if_neg (by omega)]; exact w.top A hA
  · have ha : (h.objs.set r (.map es2)).get A = some (.arr a) := ha
    rw [get] at ha
    split at ha
    · simp at ha
    · exact w.arr A a ha
theorem updT_ok (w : WF h) {r : Nat} (M : MapAt h (some r) es) (k v : Int) : ∃ h1, updT .i64 ⟨false, [.int .i64]⟩ h (some r) k v = some h1 ∧ MapAt h1 (some r) (putI k v es) ∧ UP (· = r) h h1 ∧ h1.size = h.size := by
  have hr := M.at_ r rfl
  have hf := mfind_enc k es 0
  have hp := ixOf_put k v es 0
  have hro : h.nro.ble r = true := Nat.ble_eq_true_of_le hr.1
  unfold updT updA
  show ∃ h1, (bif (true && h.nro.ble r) then (match h.objs.get r with
      | some (.map es) => match mfind (.int .i64 k) es 0 with
        | some (some (i, _)) => some { h with tick := h.tick + 1, objs := h.objs.set r (.map (setAt es i (.int .i64 v))) }
        | some none => some { h with tick := h.tick + 1, objs := h.objs.set r (.map (es ++ [(.int .i64 k, .int .i64 v)])) }
        | none => none
      | _ => none) else none) = some h1 ∧ _
  rw [hro, hr.2.2]
  simp only [Bool.and_self, cond_true, hf]
  cases hx : ixOf k es 0 with
  | none =>
    rw [hx] at hp
    obtain ⟨g1, g2⟩ := map_turned w hr _ hp.1.symm
    exact ⟨_, rfl, g1, g2, rfl⟩
  | some p =>
    rw [hx] at hp
    obtain ⟨g1, g2⟩ := map_turned w hr _ hp.2.1.symm
    exact ⟨_, rfl, g1, g2, rfl⟩
theorem delT_ok (w : WF h) (M : MapAt h m es) (k : Int) : ∃ h1, delT .i64 h m k = some h1 ∧ MapAt h1 m (dropI k es) ∧ UP (fun A => m = some A) h h1 ∧ h1.size = h.size := by
  cases m with
  | none =>
    have := M.nil rfl; subst this
    exact ⟨h, rfl, mapAt_nil h, UP.refl w, rfl⟩
  | some r =>
    have hr := M.at_ r rfl
    have hf := mfind_enc k es 0
    have hp := ixOf_put k 0 es 0
    have hro : h.nro.ble r = true := Nat.ble_eq_true_of_le hr.1
    unfold delT delA
    show ∃ h1, (bif (true && h.nro.ble r) then (match h.objs.get r with
        | some (.map es) => match mfind (.int .i64 k) es 0 with
          | some (some (i, _)) => some { h with tick := h.tick + 1, objs := h.objs.set r (.map (es.eraseIdx i)) }
          | some none => some { h with tick := h.tick + 1, objs := h.objs.set r (.map es) }
          | none => none
        | _ => none) else none) = some h1 ∧ _
    rw [hro, hr.2.2]
    simp only [Bool.and_self, cond_true, hf]
    cases hx : ixOf k es 0 with
    | none =>
      rw [hx] at hp
      obtain ⟨g1, g2⟩ := map_turned w hr _ hp.2.symm
      exact ⟨_, rfl, g1, g2.mono (fun A _ e => by rw [e]), rfl⟩
    | some p =>
      rw [hx] at hp
      obtain ⟨g1, g2⟩ := map_turned w hr _ hp.2.2.symm
      exact ⟨_, rfl, g1, g2.mono (fun A _ e => by rw [e]), rfl⟩
/-- a new map -/
theorem PO.newM {f : Nat → H → Option α} (w : WF h) (k : ∀ h1, EX h h1 → MapAt h1 (some h.size) [] → h1.size = h.size + 1 → PO (f h.size h1) Q) : PO (newO (.map []) h f) Q := by
  have get : ∀ A, (newAt (grow h 1) h.size (.map [])).objs.get A = if A = h.size then some (.map []) else h.objs.get A := fun A => Tr.get_set _ _ _ _
  refine k _ ⟨by simp [newAt, grow], rfl, ⟨by have := w.nro; simp [newAt, grow]; omega, fun A hA => ?_, fun A r hr => ?_⟩, fun A hA => ?_, rfl⟩ ⟨fun x => (nomatch x), fun r hr => ?_⟩ rfl
  · have hA' : h.size + 1 ≤ A := hA
    rw [get, if_neg (by omega)]; exact w.top A (by omega)
  · rw [get] at hr
    split at hr
    · simp at hr
    · exact w.arr A r hr
  · rw [get, if_neg (by omega)]
  · cases hr
    exact ⟨w.nro, by simp [newAt, grow], by rw [get, if_pos rfl]; rfl⟩
theorem eqMT_nil (m : Option Nat) : eqMT m none = some m.isNone := by cases m <;> rfl
/-- what is read is no map -/
theorem rd_ne_map {sz : Nat} {s : Sl} {l : List Value} (r : Rd sz h s l) (hl : l ≠ []) {q : Nat} {L : List (Value × Value)} (ho : h.objs.get q = some (.map L)) : ∀ a, s.base = some a → a.block ≠ q := by
  intro a ha hq
  cases l with
  | nil => exact hl rfl
  | cons v l =>
    have := (r.ld a ha 0 v rfl).2
    rw [ldCell_eq] at this
    simp only [add] at this
    rw [hq, ho] at this
    simp [ldO] at this
end
end Go.Abs
/- Chapter 20's order: the comparing function, over the texts without overrides; the order of the keys. -/
set_option linter.unusedVariables false
set_option linter.unusedSimpArgs false
namespace Go.Proofs.Ythiccnmplgdheaa.TC
open Go Go.Abs Go.Proofs
def cv (a b : Int) : Int := if a < b then -1 else if b < a then 1 else 0
def cmpI (es : List (Int × Int)) (x y : Int) : Int := if cv (getI x es) (getI y es) ≠ 0 then cv (getI x es) (getI y es) else cv x y
theorem Compare_f (a b : Int) (h : H) : cmp_Compare_int a b h = some (cv a b, h) := by
  unfold cmp_Compare_int P.cmp_Compare_int cmp_isNaN_int
  simp only [bind2_some, bne_self_eq_false, condK_eq, decide_eq_true_eq, Bool.false_eq_true, if_false]
  unfold cv
  by_cases h1 : a < b
  · simp [h1]
  · by_cases h2 : b < a
    · simp [h1, h2]
    · simp [h1, h2]
theorem Or_f {h : H} {s : Sl} {a b : Int} (r : RdI .i64 h s [a, b]) : cmp_Or_int s h = some (if a ≠ 0 then a else b, h) := by
  have hl : s.len = 2 := r.len
  obtain ⟨p0, _, e0, d0⟩ := r.at (i := 0) (by omega) (by simp)
  obtain ⟨p1, _, e1, d1⟩ := r.at (i := 1) (by omega) (by simp)
  have d0 : Abs.ldI .i64 h (add p0 0) = some a := d0
  have d1 : Abs.ldI .i64 h (add p1 1) = some b := d1
  have st0 : cmp_Or_int_l1 ((0, (s, (2, 0))), h) = if a ≠ 0 then some (Sum.inr (Sum.inr (a, h))) else some (Sum.inl ((0, (s, (2, 1))), h)) := by
    unfold cmp_Or_int_l1
    dsimp only
    rw [show (decide ((0 : Int) < 2)) = true from rfl, condK_eq, if_pos rfl, e0]
    simp only [bindO_some, Int.toNat_zero, d0]
    by_cases ha : a = 0
    · subst ha; rfl
    · simp [ha]
  have st1 : cmp_Or_int_l1 ((0, (s, (2, 1))), h) = if b ≠ 0 then some (Sum.inr (Sum.inr (b, h))) else some (Sum.inl ((0, (s, (2, 2))), h)) := by
    unfold cmp_Or_int_l1
    dsimp only
    rw [show (decide ((1 : Int) < 2)) = true from rfl, condK_eq, if_pos rfl, e1]
    simp only [bindO_some, show (1 : Int).toNat = 1 from rfl, d1]
    by_cases hb : b = 0
    · subst hb; rfl
    · simp [hb]
  have st2 : cmp_Or_int_l1 ((0, (s, (2, 2))), h) = some (Sum.inr (Sum.inl (0, h))) := rfl
  unfold cmp_Or_int
  rw [hl]
  show joinO (loopO cmp_Or_int_l1 ((0, (s, (2, 0))), h)) _ = _
  rw [loopO_eq, st0]
  by_cases ha : a = 0
  · subst ha
    simp only [ne_eq, not_true_eq_false, if_false]
    rw [loopO_eq, st1]
    by_cases hb : b = 0
    · subst hb
      simp only [ne_eq, not_true_eq_false, if_false]
      rw [loopO_eq, st2]; rfl
    · simp only [ne_eq, hb, not_false_eq_true, if_true]; rfl
  · simp only [ne_eq, ha, not_false_eq_true, if_true]; rfl
/-- the comparing function: deadlines first, then numbers -/
theorem Cmp_f {h : H} (w : WF h) {a1 o : Addr} {m : Option Nat} {es : List (Int × Int)} (h1 : Abs.ldP h a1 = some (some o)) (h2 : Abs.ldM h (add o 0) = some m) (M : MapR h m es) (x y : Int) :
    PO (order_Order_All_1 x y (some a1) h) (fun (a, h1) => a = cmpI es x y) := by
  have w0 : WF (growIf h 19) := (ex_growIf w 19).wf
  have x0 := ex_growIf w 19
  have e1 : Abs.ldP (growIf h 19) a1 = some (some o) := by rw [growIf_eq]; exact h1
  have e2 : Abs.ldM (growIf h 19) (add o 0) = some m := by rw [growIf_eq]; exact h2
  have M0 : MapR (growIf h 19) m es := M.ex x0
  unfold order_Order_All_1 P.order_Order_All_1
  refine PO.ptr ?_
  show PO (letH _ _) _
  rw [letH_eq]
  refine PO.op e1 (PO.ptr (PO.op e2 (PO.op (lookT_ok M0 x) (PO.ptr (PO.op e1 (PO.ptr (PO.op e2 (PO.op (lookT_ok M0 y) ?_))))))))
  refine PO.callE (Compare_f _ _ _) (PO.callE (Compare_f _ _ _) ?_)
  have hsz : (growIf h 19).size = h.size + 19 := by rw [growIf_eq]; rfl
  have hnr : (growIf h 19).nro = h.nro := by rw [growIf_eq]; rfl
  have hno : (growIf h 19).objs.get (h.size + 16) = none := by rw [growIf_eq]; exact w.top _ (by omega)
  refine PO.addNew w0 (by decide) hno (by omega) (by have := w.nro; omega) fun h3 N3 B3 => ?_
  show PO (letH _ _) _
  rw [addP_nil]
  simp only [letH_eq]
  have r3 : RdI .i64 h3 ⟨some ⟨h.size + 16, 0, some 0⟩, 2, 2⟩ [cv (getI x es) (getI y es), cv x y] := by
    refine B3.rd (n := 2) (cap := 2) N3.up.wf rfl ?_
    unfold CapOK
    rw [capK_exact (by unfold B63; omega)]
    exact Nat.le_refl _
  rw [Or_f r3]
  simp only [bind2_some]
  exact .ret rfl
/-! the order -/
def before (es : List (Int × Int)) (x y : Int) : Prop := getI x es < getI y es ∨ getI x es = getI y es ∧ x < y
theorem cmpI_lt (es : List (Int × Int)) (x y : Int) : cmpI es x y < 0 ↔ before es x y := by
  unfold cmpI cv before
  (repeat' split) <;> omega
def leI (es : List (Int × Int)) (x y : Int) : Bool := decide (¬ cmpI es y x < 0)
/-- the keys, in order -/
def ordL (es : List (Int × Int)) : List Int := (es.map (·.1)).mergeSort (leI es)
theorem ordL_perm (es : List (Int × Int)) : (ordL es).Perm (es.map (·.1)) := List.mergeSort_perm _ _
theorem ordL_sorted (es : List (Int × Int)) (hn : (es.map (·.1)).Nodup) : (ordL es).Pairwise (before es) := by
  have tr : ∀ a b c : Int, leI es a b = true → leI es b c = true → leI es a c = true := by
    intro a b c h1 h2
    simp only [leI, decide_eq_true_eq, cmpI_lt, before] at *
    omega
  have to : ∀ a b : Int, (leI es a b || leI es b a) = true := by
    intro a b
    simp only [leI, Bool.or_eq_true, decide_eq_true_eq, cmpI_lt, before]
    omega
  have h1 := List.pairwise_mergeSort tr to (es.map (·.1))
  have h2 : (ordL es).Nodup := (ordL_perm es).nodup_iff.2 hn
  refine (h1.and h2).imp ?_
  rintro a b ⟨h3, h4⟩
  simp only [leI, decide_eq_true_eq, cmpI_lt, before] at h3 ⊢
  omega
theorem run_f {h : H} (w : WF h) {a1 o : Addr} {m : Option Nat} {es : List (Int × Int)} (h1 : Abs.ldP h a1 = some (some o)) (h2 : Abs.ldM h (add o 0) = some m) (M : MapR h m es) (x y : Int) :
    Ov.run 119 [.pointer (some a1)] x y (roH h) = some (cmpI es x y) := by
  have w' : WF (roH h) := ⟨Nat.le_refl _, w.top, w.arr⟩
  have M' : MapR (roH h) m es := ⟨M.nil, M.at_⟩
  obtain ⟨⟨c, h'⟩, e, e2⟩ := Cmp_f w' (a1 := a1) (o := o) h1 h2 M' x y
  subst e2
  show (order_Order_All_1 x y (some a1) (roH h)).map (·.1) = _
  rw [e]; rfl
end Go.Proofs.Ythiccnmplgdheaa.TC
