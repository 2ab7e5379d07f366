/- Lemmas about the typed texts (joined: SMap1 SSpan2 SSpan3). -/
import Derived.Test.YtaebjajbogedkaaG5
import Derived.Test.YtaebjajbogedkaaTxt
import Derived.Test.YtaebjajbogedkaaG4
/- Maps of whole numbers to whole numbers in the texts' memory: what a look, a put, a drop tell. -/
set_option linter.unusedVariables false
namespace Go.Abs
open Go
def encM (es : List (Int × Int)) : List (Value × Value) := es.map fun p => (.int .i64 p.1, .int .i64 p.2)
/-- what a map holds -/
structure MapAt (h : H) (m : Option Nat) (es : List (Int × Int)) : Prop where
  nil : m = none → es = []
  at_ : ∀ r, m = some r → h.nro ≤ r ∧ r < h.size ∧ h.objs.get r = some (.map (encM es))
/-- what a map holds, for reading -/
structure MapR (h : H) (m : Option Nat) (es : List (Int × Int)) : Prop where
  nil : m = none → es = []
  at_ : ∀ r, m = some r → r < h.size ∧ h.objs.get r = some (.map (encM es))
theorem MapAt.r {h : H} {m : Option Nat} {es : List (Int × Int)} (M : MapAt h m es) : MapR h m es := ⟨M.nil, fun r hr => (M.at_ r hr).2⟩
theorem MapR.ex {h h1 : H} {m : Option Nat} {es : List (Int × Int)} (M : MapR h m es) (x : EX h h1) : MapR h1 m es :=
  ⟨M.nil, fun r hr => ⟨Nat.lt_of_lt_of_le (M.at_ r hr).1 x.size, (x.same r (M.at_ r hr).1).trans (M.at_ r hr).2⟩⟩
/-- the place of a key -/
def ixOfI (k : Int) : List (Int × Int) → Nat → Option (Nat × Int)
  | [], _ => none
  | (k', v) :: es, i => if k = k' then some (i, v) else ixOfI k es (i + 1)
def lookI (k : Int) : List (Int × Int) → Option Int
  | [] => none
  | (k', v) :: es => if k = k' then some v else lookI k es
def putI (k v : Int) : List (Int × Int) → List (Int × Int)
  | [] => [(k, v)]
  | (k', v') :: es => if k = k' then (k', v) :: es else (k', v') :: putI k v es
def dropI (k : Int) : List (Int × Int) → List (Int × Int)
  | [] => []
  | (k', v') :: es => if k = k' then es else (k', v') :: dropI k es
theorem mfind_enc (k : Int) : ∀ (es : List (Int × Int)) (i : Nat), mfind (.int .i64 k) (encM es) i = some ((ixOfI k es i).map fun p => (p.1, Value.int .i64 p.2))
  | [], i => rfl
  | (k', v) :: es, i => by
    show (match keq (.int .i64 k) (.int .i64 k') with | some true => some (some (i, Value.int .i64 v)) | some false => mfind (.int .i64 k) (encM es) (i + 1) | none => none) = _
    by_cases hk : k = k'
    · subst hk; simp [keq, ixOfI]
    · have e : (k == k') = false := by simpa using hk
      have e2 : keq (.int .i64 k) (.int .i64 k') = some false := by simp [keq, e]
      rw [e2]
      simp only [ixOfI, if_neg hk]
      exact mfind_enc k es (i + 1)
theorem ixOf_look (k : Int) : ∀ (es : List (Int × Int)) (i : Nat), (ixOfI k es i).map (·.2) = lookI k es
  | [], i => rfl
  | (k', v) :: es, i => by
    by_cases hk : k = k'
    · simp [ixOfI, lookI, hk]
    · simp [ixOfI, lookI, hk, ixOf_look k es (i + 1)]
theorem ixOf_put (k v : Int) : ∀ (es : List (Int × Int)) (i : Nat), (match ixOfI k es i with | some p => i ≤ p.1 ∧ encM (putI k v es) = setAt (encM es) (p.1 - i) (.int .i64 v) ∧ encM (dropI k es) = (encM es).eraseIdx (p.1 - i) | none => encM (putI k v es) = encM es ++ [(.int .i64 k, .int .i64 v)] ∧ encM (dropI k es) = encM es)
  | [], i => ⟨rfl, rfl⟩
  | (k', v') :: es, i => by
    by_cases hk : k = k'
    · subst hk; simp [ixOfI, putI, dropI, encM, setAt]
    · have ih := ixOf_put k v es (i + 1)
      simp only [ixOfI, if_neg hk, putI, dropI]
      cases hx : ixOfI k es (i + 1) with
      | none => rw [hx] at ih; simp only at ih ⊢; exact ⟨by rw [show encM ((k', v') :: putI k v es) = (.int .i64 k', .int .i64 v') :: encM (putI k v es) from rfl, ih.1]; rfl, by rw [show encM ((k', v') :: dropI k es) = (.int .i64 k', .int .i64 v') :: encM (dropI k es) from rfl, ih.2]; rfl⟩
      | some p =>
        rw [hx] at ih; simp only at ih ⊢
        obtain ⟨h1, h2, h3⟩ := ih
        have e : p.1 - i = (p.1 - (i + 1)) + 1 := by omega
        refine ⟨by omega, ?_, ?_⟩
        · rw [e, show encM ((k', v') :: putI k v es) = (.int .i64 k', .int .i64 v') :: encM (putI k v es) from rfl, h2]; rfl
        · rw [e, show encM ((k', v') :: dropI k es) = (.int .i64 k', .int .i64 v') :: encM (dropI k es) from rfl, h3]; rfl
section
variable {α : Type} {Q : α → Prop} {h h1 : H} {m : Option Nat} {es : List (Int × Int)}
theorem MapAt.up {S : Nat → Prop} (M : MapAt h m es) (u : UP S h h1) (hn : ∀ r, m = some r → ¬ S r) : MapAt h1 m es :=
  ⟨M.nil, fun r hr => ⟨by rw [u.nro]; exact (M.at_ r hr).1, Nat.lt_of_lt_of_le (M.at_ r hr).2.1 u.size, (u.same r (M.at_ r hr).2.1 (hn r hr)).trans (M.at_ r hr).2.2⟩⟩
theorem MapAt.ex (M : MapAt h m es) (x : EX h h1) : MapAt h1 m es := M.up (x.up (S := fun _ => False)) fun _ _ => id
theorem mapAt_nil (h : H) : MapAt h none [] := ⟨fun _ => rfl, fun r hr => by cases hr⟩
def getI (k : Int) (es : List (Int × Int)) : Int := (lookI k es).getD 0
theorem lookT_ok (M : MapR h m es) (k : Int) : lookT .i64 ⟨false, [.int .i64]⟩ (.int .i64 0) h m k = some (getI k es) := by
  cases m with
  | none =>
    have := M.nil rfl; subst this
    rfl
  | some r =>
    have e := (M.at_ r rfl).2
    have hf := mfind_enc k es 0
    have hl := ixOf_look k es 0
    unfold lookT lookA
    show decO _ (match (match h.objs.get r with | some (.map es) => mfind (.int .i64 k) es 0 | _ => none) with | some (some (_, v)) => some (if false then .tuple #[v, .bool true] else v) | some none => some (if false then .tuple #[Value.int .i64 0, .bool false] else Value.int .i64 0) | none => none) = _
    rw [e]
    simp only [hf]
    unfold getI
    rw [← hl]
    cases ixOfI k es 0 <;> rfl
theorem lookOT_ok (M : MapR h m es) (k : Int) : lookOT .i64 ⟨false, [.int .i64]⟩ (.int .i64 0) h m k = some (getI k es, (lookI k es).isSome) := by
  cases m with
  | none =>
    have := M.nil rfl; subst this
    rfl
  | some r =>
    have e := (M.at_ r rfl).2
    have hf := mfind_enc k es 0
    have hl := ixOf_look k es 0
    unfold lookOT lookA
    show decT _ (match (match h.objs.get r with | some (.map es) => mfind (.int .i64 k) es 0 | _ => none) with | some (some (_, v)) => some (if true then .tuple #[v, .bool true] else v) | some none => some (if true then .tuple #[Value.int .i64 0, .bool false] else Value.int .i64 0) | none => none) = _
    rw [e]
    simp only [hf]
    unfold getI
    rw [← hl]
    cases ixOfI k es 0 <;> rfl
theorem lenMT_ok (M : MapR h m es) : lenMT h m = some (es.length : Int) := by
  cases m with
  | none =>
    have := M.nil rfl; subst this
    rfl
  | some r =>
    have e := (M.at_ r rfl).2
    unfold lenMT lenOf
    show decO _ (match h.objs.get r with | some (.map es) => some (.int .i64 es.length) | _ => none) = _
    rw [e]
    show some ((encM es).length : Int) = _
    simp [encM]
/-- a map that is turned -/
theorem map_turned (w : WF h) {r : Nat} (hr : h.nro ≤ r ∧ r < h.size ∧ h.objs.get r = some (.map (encM es))) (es2 : List (Value × Value)) {es' : List (Int × Int)} (e2 : es2 = encM es') :
    MapAt { h with tick := h.tick + 1, objs := h.objs.set r (.map es2) } (some r) es' ∧ UP (· = r) h { h with tick := h.tick + 1, objs := h.objs.set r (.map es2) } := by
  have get : ∀ A, (h.objs.set r (.map es2)).get A = if A = r then some (.map es2) else h.objs.get A := fun A => Tr.get_set _ _ _ _
  refine ⟨⟨fun x => by (cases x), fun q hq => ?_⟩, ⟨Nat.le_refl _, rfl, ⟨w.nro, fun A hA => ?_, fun A a ha => ?_⟩, fun A _ hA => by show (h.objs.set r _).get A = _; rw [get, if_neg hA], rfl⟩⟩
  · cases hq
    exact ⟨hr.1, hr.2.1, by show (h.objs.set r _).get r = _; rw [get, if_pos rfl, e2]⟩
  · show (h.objs.set r _).get A = none
    have hA' : h.size ≤ A := hA
    rw [get, if_neg (by omega)]; exact w.top A hA
  · have ha : (h.objs.set r (.map es2)).get A = some (.arr a) := ha
    rw [get] at ha
    split at ha
    · simp at ha
    · exact w.arr A a ha
theorem updT_ok (w : WF h) {r : Nat} (M : MapAt h (some r) es) (k v : Int) : ∃ h1, updT .i64 ⟨false, [.int .i64]⟩ h (some r) k v = some h1 ∧ MapAt h1 (some r) (putI k v es) ∧ UP (· = r) h h1 ∧ h1.size = h.size := by
  have hr := M.at_ r rfl
  have hf := mfind_enc k es 0
  have hp := ixOf_put k v es 0
  have hro : h.nro.ble r = true := Nat.ble_eq_true_of_le hr.1
  unfold updT updA
  show ∃ h1, (bif (true && h.nro.ble r) then (match h.objs.get r with
      | some (.map es) => match mfind (.int .i64 k) es 0 with
        | some (some (i, _)) => some { h with tick := h.tick + 1, objs := h.objs.set r (.map (setAt es i (.int .i64 v))) }
        | some none => some { h with tick := h.tick + 1, objs := h.objs.set r (.map (es ++ [(.int .i64 k, .int .i64 v)])) }
        | none => none
      | _ => none) else none) = some h1 ∧ _
  rw [hro, hr.2.2]
  simp only [Bool.and_self, cond_true, hf]
  cases hx : ixOfI k es 0 with
  | none =>
    rw [hx] at hp
    obtain ⟨g1, g2⟩ := map_turned w hr _ hp.1.symm
    exact ⟨_, rfl, g1, g2, rfl⟩
  | some p =>
    rw [hx] at hp
    obtain ⟨g1, g2⟩ := map_turned w hr _ hp.2.1.symm
    exact ⟨_, rfl, g1, g2, rfl⟩
theorem delT_ok (w : WF h) (M : MapAt h m es) (k : Int) : ∃ h1, delT .i64 h m k = some h1 ∧ MapAt h1 m (dropI k es) ∧ UP (fun A => m = some A) h h1 ∧ h1.size = h.size := by
  cases m with
  | none =>
    have := M.nil rfl; subst this
    exact ⟨h, rfl, mapAt_nil h, UP.refl w, rfl⟩
  | some r =>
    have hr := M.at_ r rfl
    have hf := mfind_enc k es 0
    have hp := ixOf_put k 0 es 0
    have hro : h.nro.ble r = true := Nat.ble_eq_true_of_le hr.1
    unfold delT delA
    show ∃ h1, (bif (true && h.nro.ble r) then (match h.objs.get r with
        | some (.map es) => match mfind (.int .i64 k) es 0 with
          | some (some (i, _)) => some { h with tick := h.tick + 1, objs := h.objs.set r (.map (es.eraseIdx i)) }
          | some none => some { h with tick := h.tick + 1, objs := h.objs.set r (.map es) }
          | none => none
        | _ => none) else none) = some h1 ∧ _
    rw [hro, hr.2.2]
    simp only [Bool.and_self, cond_true, hf]
    cases hx : ixOfI k es 0 with
    | none =>
      rw [hx] at hp
      obtain ⟨g1, g2⟩ := map_turned w hr _ hp.2.symm
      exact ⟨_, rfl, g1, g2.mono (fun A _ e => by rw [e]), rfl⟩
    | some p =>
      rw [hx] at hp
      obtain ⟨g1, g2⟩ := map_turned w hr _ hp.2.2.symm
      exact ⟨_, rfl, g1, g2.mono (fun A _ e => by rw [e]), rfl⟩
/-- a new map -/
theorem PO.newM {f : Nat → H → Option α} (w : WF h) (k : ∀ h1, EX h h1 → MapAt h1 (some h.size) [] → h1.size = h.size + 1 → PO (f h.size h1) Q) : PO (newO (.map []) h f) Q := by
  have get : ∀ A, (newAt (grow h 1) h.size (.map [])).objs.get A = if A = h.size then some (.map []) else h.objs.get A := fun A => Tr.get_set _ _ _ _
  refine k _ ⟨by simp [newAt, grow], rfl, ⟨by have := w.nro; simp [newAt, grow]; omega, fun A hA => ?_, fun A r hr => ?_⟩, fun A hA => ?_, rfl⟩ ⟨fun x => (nomatch x), fun r hr => ?_⟩ rfl
  · have hA' : h.size + 1 ≤ A := hA
    rw [get, if_neg (by omega)]; exact w.top A (by omega)
  · rw [get] at hr
    split at hr
    · simp at hr
    · exact w.arr A r hr
  · rw [get, if_neg (by omega)]
  · cases hr
    exact ⟨w.nro, by simp [newAt, grow], by rw [get, if_pos rfl]; rfl⟩
theorem eqMT_nil (m : Option Nat) : eqMT m none = some m.isNone := by cases m <;> rfl
/-- what is read is no map -/
theorem rd_ne_map {sz : Nat} {s : Sl} {l : List Value} (r : Rd sz h s l) (hl : l ≠ []) {q : Nat} {L : List (Value × Value)} (ho : h.objs.get q = some (.map L)) : ∀ a, s.base = some a → a.block ≠ q := by
  intro a ha hq
  cases l with
  | nil => exact hl rfl
  | cons v l =>
    have := (r.ld a ha 0 v rfl).2
    rw [ldCell_eq] at this
    simp only [add] at this
    rw [hq, ho] at this
    simp [ldO] at this
end
end Go.Abs
/- Sets of numbers over the typed texts: runs in memory, Has, Add. -/
set_option linter.unusedVariables false
set_option linter.unusedSimpArgs false
namespace Go.Proofs.Ytaebjajbogedkaa.T
open Go Go.Abs Go.Proofs
/-! Has -/
theorem has1_f {h : H} (w : WF h) (r : Run) (b : Nat) {n : Int} (B : Box h b [.int .i64 n]) : PO (spans_Set_Has_1 r (some ⟨b, 0, some 0⟩) h) (fun (a, h1) => a = (decide (r.1 ≤ n) && decide (n < r.2)) ∧ EX h h1) := by
  unfold spans_Set_Has_1
  refine PO.newB w fun h1 x1 B1 z1 w1 => ?_
  have C1 := Box.kx x1 B
  refine .ixA (by omega) (by omega) (.ldI B1 rfl (.ptr (.ldI0 C1 rfl (.condD (fun c1 => .ptr (.ldI0 C1 rfl (.ixA (by omega) (by omega) (.ldI B1 rfl (.ret ⟨?_, x1⟩))))) (fun c1 => .ret ⟨?_, x1⟩)))))
  · have c1' : r.1 ≤ n := c1
    simp [c1']
  · have c1' : ¬ r.1 ≤ n := c1
    simp [c1']
def ixOf (n : Int) : List Run → Nat → Int
  | [], _ => -1
  | r :: l, i => if r.1 ≤ n ∧ n < r.2 then (i : Int) else ixOf n l (i + 1)
theorem ixOf_cons (n : Int) (r : Run) (l : List Run) (i : Nat) : ixOf n (r :: l) i = if r.1 ≤ n ∧ n < r.2 then (i : Int) else ixOf n l (i + 1) := rfl
theorem ixOf_mem (n : Int) : ∀ (l : List Run) (i : Nat), (0 ≤ ixOf n l i ↔ mem l n)
  | [], i => by simp [ixOf, mem]
  | r :: l, i => by
    unfold ixOf
    rw [mem_cons]
    by_cases c : r.1 ≤ n ∧ n < r.2
    · rw [if_pos c]; exact ⟨fun _ => .inl c, fun _ => by omega⟩
    · rw [if_neg c, ixOf_mem n l (i + 1)]; exact ⟨.inr, fun h => h.resolve_left c⟩
theorem index_f {h0 : H} {s : Sl} {l : List Run} {b : Nat} {n : Int} (hr : RdR h0 s l) (hl : l.length ≤ 2 ^ 42) (B : Box h0 b [.int .i64 n]) (w : WF h0) :
    PO (slices_IndexFunc_2_int_2_int_spans_Set_Has_1 s (some ⟨b, 0, some 0⟩) h0) (fun (a, h1) => a = ixOf n l 0 ∧ EX h0 h1) := by
  unfold slices_IndexFunc_2_int_2_int_spans_Set_Has_1
  refine PO.loop (fun m st => ∃ (i : Nat) (h' : H), st = ((s, (some ⟨b, 0, some 0⟩, (((s.len : Nat) : Int), (i : Int)))), h') ∧ m + i = l.length ∧ EX h0 h' ∧ ixOf n (l.drop i) i = ixOf n l 0) ?_ l.length _ ⟨0, h0, rfl, rfl, EX.refl w, rfl⟩
  rintro m st ⟨i, h', rfl, hm, hx, hi⟩
  have hlen := RdR.len hr
  unfold P.slices_IndexFunc_2_int_2_int_spans_Set_Has_1_l1
  refine .condD (fun c => ?_) (fun c => ?_)
  · refine .ixR (hr.ex hx) (by omega) (by omega) fun a _ _ _ e1 _ _ => .op e1 ?_
    have hd : l.drop i = l.getD i (0, 0) :: l.drop (i + 1) := by
      rw [List.drop_eq_getElem_cons (by omega)]; simp [List.getD, show i < l.length by omega]
    simp only [Int.toNat_natCast] at e1 ⊢
    rw [hd, ixOf_cons] at hi
    generalize l.getD i (0, 0) = r at *
    refine PO.call (has1_f hx.wf r b (Box.kx hx B)) fun a h1 ⟨e, x1⟩ => ?_
    subst e
    refine .cond (fun c1 => .retR ⟨?_, hx.trans x1⟩) (fun c1 => .retL ⟨m - 1, by omega, i + 1, h1, ?_, by omega, hx.trans x1, ?_⟩)
    · simp only [Bool.and_eq_true, decide_eq_true_eq] at c1
      rw [if_pos c1] at hi
      exact hi
    · rw [w64 (by omega) (by omega)]; rfl
    · rw [if_neg (by simpa using c1)] at hi
      exact hi
  · have : i = l.length := by omega
    subst this
    rw [List.drop_length] at hi
    exact .retR ⟨hi, hx⟩
/-- a set: the cell k of a box holds its runs -/
structure SetAt (h : H) (b k : Nat) (L : List Value) (l : List Run) : Prop where
  ex : ∃ s, L[k]? = some (encSl s) ∧ RdR h s l ∧ ∀ a, s.base = some a → a.block ≠ b
  box : Box h b L
theorem SetAt.kx {h h' : H} {b k : Nat} {L : List Value} {l : List Run} (x : EX h h') (S : SetAt h b k L l) : SetAt h' b k L l := by
  obtain ⟨s, h1, h2, h3⟩ := S.ex
  exact ⟨⟨s, h1, h2.ex x, h3⟩, Box.kx x S.box⟩
theorem Has_f {h : H} (w : WF h) {b k : Nat} {L : List Value} {l : List Run} (S : SetAt h b k L l) (hl : l.length ≤ 2 ^ 42) (n : Int) :
    PO (spans_Set_Has (some (add ⟨b, 0, some 0⟩ k)) n h) (fun (a, h1) => a = decide (mem l n) ∧ EX h h1) := by
  unfold spans_Set_Has P.spans_Set_Has
  refine PO.newB w fun h1 x1 B1 z1 w1 => .ptr ?_
  obtain ⟨s, e1, r1, _⟩ := (S.kx x1).ex
  rw [addA_zero]
  refine .ldL (S.kx x1).box e1 ?_
  unfold slices_ContainsFunc_2_int_2_int_spans_Set_Has_1 P.slices_ContainsFunc_2_int_2_int_spans_Set_Has_1
  refine PO.call (P := fun (a, h2) => a = decide (mem l n) ∧ EX h1 h2) (PO.call (index_f r1 hl B1 w1) fun a h2 ⟨e, x2⟩ => .ret ⟨?_, x2⟩) fun a h2 ⟨e, x2⟩ => .ret ⟨e, x1.trans x2⟩
  subst e
  exact decide_eq_decide.2 (ixOf_mem n l 0)
/-! Add -/
def brg (n : Int) : Int := max 0 (min n 4611686018427387904)
theorem bring_f (n : Int) (h : H) : spans_bring n h = some (brg n, h) := by
  unfold spans_bring brg
  rw [letO_eq]
  congr 2
  (repeat' split) <;> omega
theorem add_loop {h0 : H} {s : Option Addr} {x2 : Sl} {l : List Run} {f0 t0 : Int} (hr : RdR h0 x2 l) (hl : l.length ≤ 2 ^ 40) (w : WF h0) :
    PO (loopO spans_Set_Add_l1 ((s, (f0, (t0, ((⟨none, 0, 0⟩ : Sl), (false, (x2, (((x2.len : Nat) : Int), 0))))))), h0)) (fun r => ∃ (f t : Int) (out : Sl) (done : Bool) (o : List Run) (h' : H), r = Sum.inl ((s, (f, (t, (out, done)))), h') ∧ BufR h' out o ∧ o ++ addR f t done [] = addR f0 t0 false l ∧ EX h0 h' ∧ Fr h0.size out ∧ o.length ≤ 2 * l.length) := by
  refine PO.loop (fun m st => ∃ (i : Nat) (f t : Int) (done : Bool) (out : Sl) (o : List Run) (h' : H), st = ((s, (f, (t, (out, (done, (x2, (((x2.len : Nat) : Int), (i : Int)))))))), h') ∧ m + i = l.length ∧ BufR h' out o ∧ o ++ addR f t done (l.drop i) = addR f0 t0 false l ∧ EX h0 h' ∧ Fr h0.size out ∧ o.length ≤ 2 * i) ?_ l.length _ ⟨0, f0, t0, false, ⟨none, 0, 0⟩, [], h0, rfl, rfl, buf_nil 2 h0, rfl, EX.refl w, fr_nil _, Nat.le_refl _⟩
  rintro m st ⟨i, f, t, done, out, o, h', rfl, hm, hb, he, hx, hf, ho⟩
  have hlen := RdR.len hr
  unfold spans_Set_Add_l1
  refine .condD (fun c => ?_) (fun c => ?_)
  · have hd : l.drop i = l.getD i (0, 0) :: l.drop (i + 1) := by
      rw [List.drop_eq_getElem_cons (by omega)]; simp [List.getD, show i < l.length by omega]
    rw [hd, addR_cons] at he
    have hi : IntKind.wrap .i64 ((i : Int) + 1) = ((i + 1 : Nat) : Int) := by rw [w64 (by omega) (by omega)]; rfl
    refine PO.join (fun st => ∃ (f' t' : Int) (done' : Bool) (out' : Sl) (o' : List Run) (h2 : H), st = ((s, (f', (t', (out', (done', (x2, (((x2.len : Nat) : Int), (i : Int)))))))), h2) ∧ BufR h2 out' o' ∧ o' ++ addR f' t' done' (l.drop (i + 1)) = addR f0 t0 false l ∧ EX h0 h2 ∧ Fr h0.size out' ∧ o'.length ≤ 2 * (i + 1)) ?_ ?_
    · refine .ixR (hr.ex hx) (by omega) (by omega) fun a _ _ _ e1 _ _ => .op e1 ?_
      simp only [Int.toNat_natCast]
      generalize l.getD i (0, 0) = r at *
      refine PO.newB hx.wf fun h1 x1 B1 z1 w1 => PO.stZ B1 w1 rfl rfl fun h2 B2 u2 z2 w2 => ?_
      have B2' : Box h2 h'.size [.int .i64 r.1, .int .i64 r.2] := B2
      have y2 : EX h' h2 := u2.ex0 x1 (fun A hA e => by omega)
      have xx := hx.trans y2
      have hb2 := hb.ex hx.wf y2
      refine .ixA (by omega) (by omega) (.ldI B2' rfl (.condD (fun c1 => ?_) (fun c1 => ?_)))
      · have c1' : r.2 < f := c1
        rw [if_pos c1'] at he
        refine .ldZ2 B2' (PO.appR1 hb2 xx hf (by omega) fun out1 h3 b3 x3 f3 _ => .retL ⟨f, t, done, out1, o ++ [r], h3, rfl, b3, by simpa using he, x3, f3, by simp; omega⟩)
      · have c1' : ¬ r.2 < f := c1
        rw [if_neg c1'] at he
        refine .ixA (by omega) (by omega) (.ldI B2' rfl (.condD (fun c2 => ?_) (fun c2 => ?_)))
        · have c2' : r.1 > t := c2
          rw [if_pos c2'] at he
          refine PO.join (fun st => ∃ (out' : Sl) (o' : List Run) (h3 : H), st = ((s, (f, (t, (out', (some ⟨h'.size, 0, some 0⟩, (x2, (((x2.len : Nat) : Int), (i : Int)))))))), h3) ∧ BufR h3 out' o' ∧ o' = o ++ (if done then [] else [(f, t)]) ∧ EX h0 h3 ∧ Fr h0.size out' ∧ RdR h3 ⟨some ⟨h'.size, 0, some 0⟩, 1, 1⟩ [r]) ?_ ?_
          · refine .condN (fun cd => ?_) (fun cd => ?_)
            · exact PO.appR1 hb2 xx hf (by omega) fun out1 h3 b3 x3 f3 k3 => .retL ⟨out1, o ++ [(f, t)], h3, rfl, b3, by simp [cd], x3, f3, RdR.mono k3 (B2'.r1 w2)⟩
            · exact .retL ⟨out, o, h2, rfl, hb2, by simp [cd], xx, hf, B2'.r1 w2⟩
          · rintro _ ⟨out', o', h3, rfl, b3, eo, x3, f3, B3⟩
            refine .ptr (.ldR1 B3 (PO.appR1 b3 x3 f3 (by rw [eo]; split <;> simp <;> omega) fun out1 h4 b4 x4 f4 _ => .retL ⟨f, t, true, out1, o' ++ [r], h4, rfl, b4, ?_, x4, f4, ?_⟩))
            · rw [eo, ← he]
              cases done <;> simp
            · rw [eo]; split <;> simp <;> omega
        · have c2' : ¬ r.1 > t := c2
          rw [if_neg c2'] at he
          refine .ixA (by omega) (by omega) (.ldI B2' rfl (.ixA (by omega) (by omega) (.ldI B2' rfl (.retL ⟨_, _, done, out, o, h2, rfl, hb2, ?_, xx, hf, by omega⟩))))
          rw [← he]
          congr 2
          · show (if r.1 < f then r.1 else f) = min f r.1
            split <;> omega
          · show (if r.2 > t then r.2 else t) = max t r.2
            split <;> omega
    · rintro _ ⟨f', t', done', out', o', h2, rfl, b2, e2, x2', f2, l2⟩
      exact .retL ⟨m - 1, by omega, i + 1, f', t', done', out', o', h2, by rw [hi], by omega, b2, e2, x2', f2, l2⟩
  · have : i = l.length := by omega
    subst this
    rw [List.drop_length] at he
    exact .retR ⟨f, t, out, done, o, h', rfl, hb, he, hx, hf, ho⟩
end Go.Proofs.Ytaebjajbogedkaa.T
/- Sets of numbers over the typed texts: Add, Drop, Count, Spans. -/
set_option linter.unusedVariables false
set_option linter.unusedSimpArgs false
namespace Go.Proofs.Ytaebjajbogedkaa.T
open Go Go.Abs Go.Proofs
def addS (f t : Int) (l : List Run) : List Run := if brg f < brg t then addR (brg f) (brg t) false l else l
def dropS (f t : Int) (l : List Run) : List Run := if brg f < brg t then dropR (brg f) (brg t) l else l
theorem getElem_lt {α : Type} {L : List α} {k : Nat} {v : α} (h : L[k]? = some v) : k < L.length := (List.getElem?_eq_some_iff.1 h).1
theorem setAt_st {h0 h3 : H} {b k : Nat} {L : List Value} {l l' : List Run} {out : Sl} (S : SetAt h0 b k L l) (x : EX h0 h3) (hr : RdR h3 out l') (hf : Fr h0.size out) {α : Type} {Q : α → Prop} {g : H → Option α}
    (p : ∀ h4, SetAt h4 b k (L.set k (encSl out)) l' → UP (· = b) h0 h4 → h0.size ≤ h4.size → PO (g h4) Q) : PO (bindO (st1 h3 (add ⟨b, 0, some 0⟩ k) (encSl out)) g) Q := by
  obtain ⟨s, e1, _, _⟩ := S.ex
  have B3 := Box.kx x S.box
  refine PO.st1 B3 x.wf (getElem_lt e1) rfl fun h4 B4 u4 z4 w4 => ?_
  have hne : ∀ a, out.base = some a → a.block ≠ b := fun a ha e => by have := hf a ha; have := S.box.blt; omega
  refine p h4 ⟨⟨out, by rw [List.getElem?_set_self (getElem_lt e1)], Rd.up hr u4 hne, hne⟩, B4⟩ (x.trans_up u4) (by have := x.size; omega)
theorem Add_f {h : H} (w : WF h) {b k : Nat} {L : List Value} {l : List Run} (S : SetAt h b k L l) (hl : l.length ≤ 2 ^ 40) (f t : Int) :
    PO (spans_Set_Add (some (add ⟨b, 0, some 0⟩ k)) f t h) (fun (_, h') => ∃ v, SetAt h' b k (L.set k v) (addS f t l) ∧ UP (· = b) h h' ∧ h.size ≤ h'.size) := by
  unfold spans_Set_Add P.spans_Set_Add
  refine .callE (bring_f _ _) (.callE (bring_f _ _) (.condD (fun c => ?_) (fun c => ?_)))
  · obtain ⟨s, e1, r1, n1⟩ := S.ex
    refine .ret ⟨encSl s, ?_, UP.refl w, Nat.le_refl _⟩
    unfold addS
    rw [if_neg (by omega)]
    have : L.set k (encSl s) = L := by
      apply List.ext_getElem?; intro i
      rw [List.getElem?_set]
      split
      · rename_i e; subst e; rw [if_pos (getElem_lt e1), e1]
      · rfl
    rw [this]; exact S
  · obtain ⟨s, e1, r1, n1⟩ := S.ex
    refine PO.joinD (.ptr ?_)
    rw [addA_zero]
    refine .ldL S.box e1 (PO.mono (add_loop r1 hl w) ?_)
    rintro _ ⟨f', t', out, done, o, h2, rfl, b2, e2, x2, f2, l2⟩
    refine PO.join (fun st => ∃ (out' : Sl) (h3 : H), st = ((some (add ⟨b, 0, some 0⟩ k), out'), h3) ∧ RdR h3 out' (addS f t l) ∧ EX h h3 ∧ Fr h.size out') ?_ ?_
    · have hv : addS f t l = o ++ (if done then [] else [(f', t')]) := by unfold addS; rw [if_pos (by omega), ← e2]; cases done <;> rfl
      refine .condN (fun cd => ?_) (fun cd => ?_)
      · refine PO.appR1 b2 x2 f2 (by omega) fun out1 h3 b3 x3 f3 _ => .retL ⟨out1, h3, rfl, ?_, x3, f3⟩
        rw [hv, cd]; exact b3.rd
      · refine .retL ⟨out, h2, rfl, ?_, x2, f2⟩
        rw [hv, cd]; simpa using b2.rd
    · rintro _ ⟨out', h3, rfl, r3, x3, f3⟩
      refine .ptr ?_
      rw [addA_zero]
      exact setAt_st S x3 r3 f3 fun h4 S4 u4 z4 => .ret ⟨_, S4, u4, z4⟩
/-! Count -/
theorem cntR_cons (r : Run) (l : List Run) : cntR (r :: l) = (r.2 - r.1) + cntR l := rfl
theorem Count_f {h : H} (w : WF h) {b k : Nat} {L : List Value} {l : List Run} (S : SetAt h b k L l) (hl : l.length ≤ 2 ^ 40) {e : Int} (hn : Nrm (-1) e l) (he : 0 ≤ e ∧ e ≤ 4611686018427387904) :
    PO (spans_Set_Count (some (add ⟨b, 0, some 0⟩ k)) h) (fun (a, h1) => a = cntR l ∧ EX h h1) := by
  unfold spans_Set_Count
  obtain ⟨s, e1, r1, n1⟩ := S.ex
  have hlen := RdR.len r1
  refine PO.joinD (.ptr ?_)
  rw [addA_zero]
  refine .ldL S.box e1 (PO.mono (P := fun r => ∃ h1, r = Sum.inl (cntR l, h1) ∧ EX h h1) ?_ (by rintro _ ⟨h1, rfl, x1⟩; exact .ret ⟨rfl, x1⟩))
  refine PO.loop (fun m st => ∃ (i : Nat) (c lo : Int) (h' : H), st = ((c, (s, (((s.len : Nat) : Int), (i : Int)))), h') ∧ m + i = l.length ∧ c + cntR (l.drop i) = cntR l ∧ 0 ≤ c ∧ Nrm lo e (l.drop i) ∧ -1 ≤ lo ∧ EX h h') ?_ l.length _ ⟨0, 0, -1, h, rfl, rfl, by simp, Int.le_refl _, hn, Int.le_refl _, EX.refl w⟩
  rintro m st ⟨i, c, lo, h', rfl, hm, hc, h0, hN, hlo, hx⟩
  have htot := cntR_le hn (by omega)
  unfold spans_Set_Count_l1
  refine .condD (fun c1 => ?_) (fun c1 => ?_)
  · have hd : l.drop i = l.getD i (0, 0) :: l.drop (i + 1) := by
      rw [List.drop_eq_getElem_cons (by omega)]; simp [List.getD, show i < l.length by omega]
    rw [hd] at hN
    rw [hd, cntR_cons] at hc
    refine .ixR (r1.ex hx) (by omega) (by omega) fun a _ _ _ e1 _ _ => .op e1 ?_
    simp only [Int.toNat_natCast]
    generalize l.getD i (0, 0) = r at *
    obtain ⟨g1, g2, g3, g4⟩ := hN
    have hrest : 0 ≤ cntR (l.drop (i + 1)) := by
      by_cases hh : r.2 < e
      · exact (cntR_le g4 hh).1
      · have : l.drop (i + 1) = [] := by
          cases hq : l.drop (i + 1) with
          | nil => rfl
          | cons q t => rw [hq] at g4; have := g4.1; have := g4.2.1; have := g4.2.2.1; omega
        rw [this]; exact Int.le_refl _
    refine PO.newB hx.wf fun h1 x1 B1 z1 w1 => PO.stZ B1 w1 rfl rfl fun h2 B2 u2 z2 w2 => ?_
    have B2' : Box h2 h'.size [.int .i64 r.1, .int .i64 r.2] := B2
    have y2 : EX h' h2 := u2.ex0 x1 (fun A hA e => by omega)
    refine .ixA (by omega) (by omega) (.ldI B2' rfl (.ixA (by omega) (by omega) (.ldI B2' rfl (.retL ⟨m - 1, by omega, i + 1, c + (r.2 - r.1), r.2, h2, ?_, by omega, by omega, by omega, g4, by omega, hx.trans y2⟩))))
    show ((IntKind.wrap .i64 (c + IntKind.wrap .i64 (r.2 - r.1)), (s, (((s.len : Nat) : Int), IntKind.wrap .i64 ((i : Int) + 1)))), h2) = _
    rw [w64 (n := r.2 - r.1) (by omega) (by omega), w64 (n := c + (r.2 - r.1)) (by omega) (by omega), w64 (n := (i : Int) + 1) (by omega) (by omega)]
    rfl
  · have : i = l.length := by omega
    subst this
    rw [List.drop_length] at hc
    have hc' : c = cntR l := by have : cntR [] = 0 := rfl; omega
    subst hc'
    exact .retR ⟨h', rfl, hx⟩
end Go.Proofs.Ytaebjajbogedkaa.T
