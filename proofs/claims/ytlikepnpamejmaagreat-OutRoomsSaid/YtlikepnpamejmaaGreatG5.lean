/- Lemmas about the typed texts (joined: S13 SPnum SMap1). -/
import Derived.Test.YtlikepnpamejmaaGreatG4
import Derived.Test.YtlikepnpamejmaaGreatTxt
import Derived.Test.YtlikepnpamejmaaGreatAbsF
/- Slices that may be written in place. -/
set_option linter.unusedVariables false
set_option linter.unusedSimpArgs false
namespace Go.Abs
open Go
/-- a slice whose row is at its newest version: it may be written -/
structure OwnS (sz : Nat) (h : H) (s : Sl) (l : List Value) : Prop where
  rd : Rd sz h s l
  tip : ∀ a, s.base = some a → ∃ r e, h.objs.get a.block = some (.arr r) ∧ a.spot = some e ∧ r.ver = e ∧ h.nro ≤ a.block ∧ a.off + l.length ≤ r.size
theorem OwnS.ex {sz : Nat} {h h' : H} {s : Sl} {l : List Value} (w : WF h) (x : EX h h') (o : OwnS sz h s l) : OwnS sz h' s l := by
  refine ⟨o.rd.ex x, fun a ha => ?_⟩
  obtain ⟨r, e, h1, h2, h3, h4, h5⟩ := o.tip a ha
  exact ⟨r, e, (x.same _ (lt_of_get w h1)).trans h1, h2, h3, by rw [x.nro]; exact h4, h5⟩
theorem Buf.own {sz : Nat} {h : H} {s : Sl} {l : List Value} (b : Buf sz h s l) : OwnS sz h s l := by
  refine ⟨b.rd, fun a ha => ?_⟩
  rcases b.tip with ht | ⟨a', r, e, h1, h2, h3, h4, h5, h6, _⟩
  · rw [ht] at ha; simp at ha
  · rw [ha] at h1; cases h1
    have := b.rd.len
    exact ⟨r, e, h2, h3, h4, h5, by omega⟩
theorem OwnS.nil (sz : Nat) (h : H) : OwnS sz h ⟨none, 0, 0⟩ [] := ⟨rd_nil sz h, fun a ha => by simp at ha⟩
/-- another slice on the same place, no longer -/
theorem OwnS.sub {sz : Nat} {h : H} {s s' : Sl} {l l' : List Value} (o : OwnS sz h s l) (hb : s'.base = s.base) (r : Rd sz h s' l') (hl : l'.length ≤ l.length) : OwnS sz h s' l' := by
  refine ⟨r, fun a ha => ?_⟩
  obtain ⟨r', e, h1, h2, h3, h4, h5⟩ := o.tip a (hb ▸ ha)
  exact ⟨r', e, h1, h2, h3, h4, by omega⟩
theorem OwnS.stC {sz : Nat} {h : H} {s : Sl} {l : List Value} {a : Addr} (o : OwnS sz h s l) (w : WF h) (ha : s.base = some a) (k : Nat) (vs : List Value) (hk : k + vs.length ≤ l.length) (ho : vs.all oneC = true) :
    ∃ h', stCells h (add a k) vs = some h' ∧ OwnS sz h' s (l.take k ++ vs ++ l.drop (k + vs.length)) ∧ UP (· = a.block) h h' ∧ h'.size = h.size := by
  obtain ⟨r, e, h1, h2, h3, h4, h5⟩ := o.tip a ha
  obtain ⟨h', r', e1, g1, g2, g3, g4, g5, g6, g7, g8⟩ := stCells_ok vs h (add a k) r e w h1 h2 h3 h4 (by simp only [add]; omega) ho
  have hlen : (l.take k ++ vs ++ l.drop (k + vs.length)).length = l.length := by simp; omega
  refine ⟨h', e1, ⟨⟨by rw [hlen]; exact o.rd.len, o.rd.nil, fun p hp i v hi => ?_, o.rd.cap⟩, fun p hp => ?_⟩, ⟨Nat.le_of_eq g4.symm, g5, g6, fun A _ hA => g7 A hA, stCells_st _ e1⟩, g4⟩
  · rw [ha] at hp; cases hp
    have hil := (List.getElem?_eq_some_iff.1 hi).1
    rw [hlen] at hil
    refine ⟨by rw [g4]; exact lt_of_get w h1, ?_⟩
    rw [ldCell_eq]
    show ldO (h'.objs.get a.block) _ = some v
    rw [show h'.objs.get a.block = some (.arr r') from g1]
    have g8' : ∀ j, r'.cells.get j = if a.off + k ≤ j ∧ j < a.off + k + vs.length then (vs[j - (a.off + k)]?).map (⟨·, e⟩) else r.cells.get j := g8
    simp only [ldO, add, h2]
    rw [g8']
    by_cases hi1 : i < k
    · rw [if_neg (by omega)]
      rw [List.append_assoc, List.getElem?_append_left (by simp; omega), List.getElem?_take_of_lt hi1] at hi
      have := (o.rd.ld a ha i v hi).2
      rw [ldCell_eq] at this
      simp only [ldO, add, h1, h2] at this
      exact this
    · by_cases hi2 : i < k + vs.length
      · rw [if_pos (by omega)]
        rw [List.append_assoc, List.getElem?_append_right (by simp; omega), List.getElem?_append_left (by simp; omega)] at hi
        have : i - (List.take k l).length = a.off + i - (a.off + k) := by simp; omega
        rw [this] at hi
        rw [hi]
        simp only [Option.map_some]
        have : e.ble e = true := by simp
        rw [this]; rfl
      · rw [if_neg (by omega)]
        rw [List.getElem?_append_right (by simp; omega), List.getElem?_drop] at hi
        have : k + vs.length + (i - (List.take k l ++ vs).length) = i := by simp; omega
        rw [this] at hi
        have := (o.rd.ld a ha i v hi).2
        rw [ldCell_eq] at this
        simp only [ldO, add, h1, h2] at this
        exact this
  · rw [ha] at hp; cases hp
    exact ⟨r', e, g1, h2, g2, by rw [g5]; exact h4, by rw [hlen, g3]; exact h5⟩
theorem slV_base (sz : Nat) (s : Sl) (N : Nat) : (slV sz s 0 N).base = s.base := by
  unfold slV
  cases hb : s.base with
  | none => rfl
  | some a =>
    simp only
    cases capK s.cap with
    | exact k => cases h : k.beq 0 <;> simp [addA_zero]
    | unk z => rfl
    | unk0 z => rfl
    | any => simp [addA_zero]
theorem clip_base {sz : Nat} (hz : 0 < sz) (hz2 : sz < B63) {h : H} {s : Sl} {l : List Value} (r : Rd sz h s l) (hl : s.len < B63) :
    ∃ s', slT sz h s none (some (s.len : Int)) (some (s.len : Int)) = some s' ∧ Rd sz h s' l ∧ s'.len = s.len ∧ s'.base = s.base := by
  obtain ⟨s', e, r', h1, h2, h3⟩ := clip_ok hz hz2 r hl
  refine ⟨s', e, r', h1, ?_⟩
  obtain ⟨b, len, cap⟩ := s
  cases b with
  | none => exact h2 rfl
  | some a =>
    have hcap := r.cap (by simp)
    simp only at hcap hl
    have hcl := capLow_ge h a hcap
    have b1 : bnd (capLow h a len sz (capK cap)) (.int .i64 (len : Int)) = some len := by
      have := bnd_int (y := capLow h a len sz (capK cap)) (i := (len : Int)) (k := .i64) (by omega) (by omega)
      simpa using this
    have b2 : bnd len (.int .i64 (len : Int)) = some len := by
      have := bnd_int (y := len) (i := (len : Int)) (k := .i64) (by omega) (by omega)
      simpa using this
    have u0 : (isUnk0 (capK cap) && !Nat.beq 0 0 || !len.blt B63) = false := by
      simp only [show Nat.beq 0 0 = true from rfl, Bool.not_true, Bool.and_false, Bool.false_or, Bool.not_eq_false']
      simp only [Nat.blt_eq]; exact hl
    have : slA (DSE 0 (tyS sz 0 .nilFunc)) h 1 (encSl ⟨some a, len, cap⟩) none (some (.int .i64 (len : Int))) (some (.int .i64 (len : Int))) = some (.slice (some (bif len.beq 0 then a else add a (0 * sz))) (len - 0) (len - 0)) := by
      unfold slA encSl
      simp only [show (DSE 0 (tyS sz 0 .nilFunc)).ty.get 1 = some ⟨1, 24, .slice none 0 0, .slice 0, false⟩ from DSE_s 0 _, DSE_e]
      simp only [DSE_e, show (tyS sz 0 .nilFunc).size = sz from rfl, b1, b2, bndO_none, u0, cond_false]
    have e2 := slT_of (lo := none) (hi := some (len : Int)) (mx := some (len : Int)) this
    simp only at e
    rw [e] at e2
    have e3 := Option.some.inj e2
    rw [e3]
    simp only [Nat.zero_mul, addA_zero]
    cases len.beq 0 <;> rfl
end Go.Abs
/- Chapter 2's functions, what they tell; the laws PnumMonotone and PnumBack over the typed texts. -/
set_option linter.unusedVariables false
set_option linter.unusedSimpArgs false
namespace Go.Proofs.YtlikepnpamejmaaGreat.T
open Go Go.Abs Go.Proofs
theorem pick_f (a m : Int) (hp : 0 < m) (h2 : m ≤ 4611686018427387904) (h : H) : hand_Pick a m h = some (a % m, h) := by
  have h3 := tmod_pos a m hp
  have h5 := Int.tmod_eq_emod (a := a) (b := m)
  have h6 := Int.emod_nonneg a (Int.ne_of_gt hp)
  have h7 := Int.emod_lt_of_pos a hp
  unfold hand_Pick
  rw [remT_ok _ _ (by omega)]
  simp only [bindO_some, condK_eq, decide_eq_true_eq]
  split at h3
  · rename_i hc; rw [if_pos hc]; simp only [joinO_inl]; rw [w64 (by omega) (by omega), h3]
  · rename_i hc; rw [if_neg hc]; simp only [joinO_inl]; rw [h3]
def sp (k : Int) : Int := if k = 1 then 256 else if k = 2 then 65536 else if k = 3 then 16777216 else 4294967296
theorem sp_pos (k : Int) : 0 < sp k ∧ sp k ≤ 4294967296 := by unfold sp; (repeat' split) <;> omega
def bk (cut by_ x : Int) : Int :=
  if x + (cut - x) % by_ - by_ < 0 then x + (cut - x) % by_
  else if x + (cut - x) % by_ ≤ 4611686018427387903 then
    (if (cut - x) % by_ ≤ by_ - (cut - x) % by_ then x + (cut - x) % by_ else x + (cut - x) % by_ - by_)
  else x + (cut - x) % by_ - by_
def nb (d : Int) : Int := if d ≤ 128 then 1 else if d ≤ 32768 then 2 else if d ≤ 8388608 then 3 else 4
theorem nb_mono (d e : Int) (h : d ≤ e) : nb d ≤ nb e := by
  unfold nb; (repeat' split) <;> omega
def mn (k j : Int) : Int := if j < k then j else k
theorem sp_min (k j : Int) (hk : 1 ≤ k) (hk2 : k ≤ 4) (hj : 1 ≤ j) (hj2 : j ≤ 4) (x : Int) : x % sp k % sp j = x % sp (mn k j) := by
  rcases (by omega : k = 1 ∨ k = 2 ∨ k = 3 ∨ k = 4) with rfl | rfl | rfl | rfl <;> rcases (by omega : j = 1 ∨ j = 2 ∨ j = 3 ∨ j = 4) with rfl | rfl | rfl | rfl <;> simp [sp, mn] <;> omega
theorem sp_shl (k : Int) (hk : 1 ≤ k) (hk2 : k ≤ 4) : shlT .i64 1 .u64 (IntKind.wrap .u64 (IntKind.wrap .i64 (8 * k))) = some (sp k) := by
  rcases (by omega : k = 1 ∨ k = 2 ∨ k = 3 ∨ k = 4) with rfl | rfl | rfl | rfl <;> decide +kernel
theorem bk_self (n x s : Int) (hs : 0 < s) (h1 : 0 ≤ x) (h2 : x ≤ n) (h3 : 2 * (n - x) ≤ s) (h4 : n ≤ 4611686018427387903) (h5 : n - x < s) : bk (n % s) s x = n := by
  have e : (n % s - x) % s = n - x := by
    rw [Int.emod_sub_emod]
    exact Int.emod_eq_of_lt (by omega) h5
  unfold bk
  rw [e]
  have e2 : x + (n - x) = n := by omega
  rw [e2]
  split
  · rfl
  · rw [if_pos (by omega)]
end Go.Proofs.YtlikepnpamejmaaGreat.T
/- Maps of whole numbers to whole numbers in the texts' memory: what a look, a put, a drop tell. -/
set_option linter.unusedVariables false
namespace Go.Abs
open Go
def encM (es : List (Int × Int)) : List (Value × Value) := es.map fun p => (.int .i64 p.1, .int .i64 p.2)
/-- what a map holds -/
structure MapAt (h : H) (m : Option Nat) (es : List (Int × Int)) : Prop where
  nil : m = none → es = []
  at_ : ∀ r, m = some r → h.nro ≤ r ∧ r < h.size ∧ h.objs.get r = some (.map (encM es))
/-- what a map holds, for reading -/
structure MapR (h : H) (m : Option Nat) (es : List (Int × Int)) : Prop where
  nil : m = none → es = []
  at_ : ∀ r, m = some r → r < h.size ∧ h.objs.get r = some (.map (encM es))
theorem MapAt.r {h : H} {m : Option Nat} {es : List (Int × Int)} (M : MapAt h m es) : MapR h m es := ⟨M.nil, fun r hr => (M.at_ r hr).2⟩
theorem MapR.ex {h h1 : H} {m : Option Nat} {es : List (Int × Int)} (M : MapR h m es) (x : EX h h1) : MapR h1 m es :=
  ⟨M.nil, fun r hr => ⟨Nat.lt_of_lt_of_le (M.at_ r hr).1 x.size, (x.same r (M.at_ r hr).1).trans (M.at_ r hr).2⟩⟩
/-- the place of a key -/
def ixOfI (k : Int) : List (Int × Int) → Nat → Option (Nat × Int)
  | [], _ => none
  | (k', v) :: es, i => if k = k' then some (i, v) else ixOfI k es (i + 1)
def lookI (k : Int) : List (Int × Int) → Option Int
  | [] => none
  | (k', v) :: es => if k = k' then some v else lookI k es
def putI (k v : Int) : List (Int × Int) → List (Int × Int)
  | [] => [(k, v)]
  | (k', v') :: es => if k = k' then (k', v) :: es else (k', v') :: putI k v es
def dropI (k : Int) : List (Int × Int) → List (Int × Int)
  | [] => []
  | (k', v') :: es => if k = k' then es else (k', v') :: dropI k es
theorem mfind_enc (k : Int) : ∀ (es : List (Int × Int)) (i : Nat), mfind (.int .i64 k) (encM es) i = some ((ixOfI k es i).map fun p => (p.1, Value.int .i64 p.2))
  | [], i => rfl
  | (k', v) :: es, i => by
    show (match keq (.int .i64 k) (.int .i64 k') with | some true => some (some (i, Value.int .i64 v)) | some false => mfind (.int .i64 k) (encM es) (i + 1) | none => none) = _
    by_cases hk : k = k'
    · subst hk; simp [keq, ixOfI]
    · have e : (k == k') = false := by simpa using hk
      have e2 : keq (.int .i64 k) (.int .i64 k') = some false := by simp [keq, e]
      rw [e2]
      simp only [ixOfI, if_neg hk]
      exact mfind_enc k es (i + 1)
theorem ixOf_look (k : Int) : ∀ (es : List (Int × Int)) (i : Nat), (ixOfI k es i).map (·.2) = lookI k es
  | [], i => rfl
  | (k', v) :: es, i => by
    by_cases hk : k = k'
    · simp [ixOfI, lookI, hk]
    · simp [ixOfI, lookI, hk, ixOf_look k es (i + 1)]
theorem ixOf_put (k v : Int) : ∀ (es : List (Int × Int)) (i : Nat), (match ixOfI k es i with | some p => i ≤ p.1 ∧ encM (putI k v es) = setAt (encM es) (p.1 - i) (.int .i64 v) ∧ encM (dropI k es) = (encM es).eraseIdx (p.1 - i) | none => encM (putI k v es) = encM es ++ [(.int .i64 k, .int .i64 v)] ∧ encM (dropI k es) = encM es)
  | [], i => ⟨rfl, rfl⟩
  | (k', v') :: es, i => by
    by_cases hk : k = k'
    · subst hk; simp [ixOfI, putI, dropI, encM, setAt]
    · have ih := ixOf_put k v es (i + 1)
      simp only [ixOfI, if_neg hk, putI, dropI]
      cases hx : ixOfI k es (i + 1) with
      | none => rw [hx] at ih; simp only at ih ⊢; exact ⟨by rw [show encM ((k', v') :: putI k v es) = (.int .i64 k', .int .i64 v') :: encM (putI k v es) from rfl, ih.1]; rfl, by rw [show encM ((k', v') :: dropI k es) = (.int .i64 k', .int .i64 v') :: encM (dropI k es) from rfl, ih.2]; rfl⟩
      | some p =>
        rw [hx] at ih; simp only at ih ⊢
        obtain ⟨h1, h2, h3⟩ := ih
        have e : p.1 - i = (p.1 - (i + 1)) + 1 := by omega
        refine ⟨by omega, ?_, ?_⟩
        · rw [e, show encM ((k', v') :: putI k v es) = (.int .i64 k', .int .i64 v') :: encM (putI k v es) from rfl, h2]; rfl
        · rw [e, show encM ((k', v') :: dropI k es) = (.int .i64 k', .int .i64 v') :: encM (dropI k es) from rfl, h3]; rfl
section
variable {α : Type} {Q : α → Prop} {h h1 : H} {m : Option Nat} {es : List (Int × Int)}
theorem MapAt.up {S : Nat → Prop} (M : MapAt h m es) (u : UP S h h1) (hn : ∀ r, m = some r → ¬ S r) : MapAt h1 m es :=
  ⟨M.nil, fun r hr => ⟨by rw [u.nro]; exact (M.at_ r hr).1, Nat.lt_of_lt_of_le (M.at_ r hr).2.1 u.size, (u.same r (M.at_ r hr).2.1 (hn r hr)).trans (M.at_ r hr).2.2⟩⟩
theorem MapAt.ex (M : MapAt h m es) (x : EX h h1) : MapAt h1 m es := M.up (x.up (S := fun _ => False)) fun _ _ => id
theorem mapAt_nil (h : H) : MapAt h none [] := ⟨fun _ => rfl, fun r hr => by cases hr⟩
def getI (k : Int) (es : List (Int × Int)) : Int := (lookI k es).getD 0
theorem lookT_ok (M : MapR h m es) (k : Int) : lookT .i64 ⟨false, [.int .i64]⟩ (.int .i64 0) h m k = some (getI k es) := by
  cases m with
  | none =>
    have := M.nil rfl; subst this
    rfl
  | some r =>
    have e := (M.at_ r rfl).2
    have hf := mfind_enc k es 0
    have hl := ixOf_look k es 0
    unfold lookT lookA
    show decO _ (match (match h.objs.get r with | some (.map es) => mfind (.int .i64 k) es 0 | _ => none) with | some (some (_, v)) => some (if false then .tuple #[v, .bool true] else v) | some none => some (if false then .tuple #[Value.int .i64 0, .bool false] else Value.int .i64 0) | none => none) = _
    rw [e]
    simp only [hf]
    unfold getI
    rw [← hl]
    cases ixOfI k es 0 <;> rfl
theorem lookOT_ok (M : MapR h m es) (k : Int) : lookOT .i64 ⟨false, [.int .i64]⟩ (.int .i64 0) h m k = some (getI k es, (lookI k es).isSome) := by
  cases m with
  | none =>
    have := M.nil rfl; subst this
    rfl
  | some r =>
    have e := (M.at_ r rfl).2
    have hf := mfind_enc k es 0
    have hl := ixOf_look k es 0
    unfold lookOT lookA
    show decT _ (match (match h.objs.get r with | some (.map es) => mfind (.int .i64 k) es 0 | _ => none) with | some (some (_, v)) => some (if true then .tuple #[v, .bool true] else v) | some none => some (if true then .tuple #[Value.int .i64 0, .bool false] else Value.int .i64 0) | none => none) = _
    rw [e]
    simp only [hf]
    unfold getI
    rw [← hl]
    cases ixOfI k es 0 <;> rfl
theorem lenMT_ok (M : MapR h m es) : lenMT h m = some (es.length : Int) := by
  cases m with
  | none =>
    have := M.nil rfl; subst this
    rfl
  | some r =>
    have e := (M.at_ r rfl).2
    unfold lenMT lenOf
    show decO _ (match h.objs.get r with | some (.map es) => some (.int .i64 es.length) | _ => none) = _
    rw [e]
    show some ((encM es).length : Int) = _
    simp [encM]
/-- a map that is turned -/
theorem map_turned (w : WF h) {r : Nat} (hr : h.nro ≤ r ∧ r < h.size ∧ h.objs.get r = some (.map (encM es))) (es2 : List (Value × Value)) {es' : List (Int × Int)} (e2 : es2 = encM es') :
    MapAt { h with tick := h.tick + 1, objs := h.objs.set r (.map es2) } (some r) es' ∧ UP (· = r) h { h with tick := h.tick + 1, objs := h.objs.set r (.map es2) } := by
  have get : ∀ A, (h.objs.set r (.map es2)).get A = if A = r then some (.map es2) else h.objs.get A := fun A => Tr.get_set _ _ _ _
  refine ⟨⟨fun x => by (cases x), fun q hq => ?_⟩, ⟨Nat.le_refl _, rfl, ⟨w.nro, fun A hA => ?_, fun A a ha => ?_⟩, fun A _ hA => by show (h.objs.set r _).get A = _; rw [get, if_neg hA], rfl⟩⟩
  · cases hq
    exact ⟨hr.1, hr.2.1, by show (h.objs.set r _).get r = _; rw [get, if_pos rfl, e2]⟩
  · show (h.objs.set r _).get A = none
    have hA' : h.size ≤ A := hA
    rw [get, if_neg (by omega)]; exact w.top A hA
  · have ha : (h.objs.set r (.map es2)).get A = some (.arr a) := ha
    rw [get] at ha
    split at ha
    · simp at ha
    · exact w.arr A a ha
theorem updT_ok (w : WF h) {r : Nat} (M : MapAt h (some r) es) (k v : Int) : ∃ h1, updT .i64 ⟨false, [.int .i64]⟩ h (some r) k v = some h1 ∧ MapAt h1 (some r) (putI k v es) ∧ UP (· = r) h h1 ∧ h1.size = h.size := by
  have hr := M.at_ r rfl
  have hf := mfind_enc k es 0
  have hp := ixOf_put k v es 0
  have hro : h.nro.ble r = true := Nat.ble_eq_true_of_le hr.1
  unfold updT updA
  show ∃ h1, (bif (true && h.nro.ble r) then (match h.objs.get r with
      | some (.map es) => match mfind (.int .i64 k) es 0 with
        | some (some (i, _)) => some { h with tick := h.tick + 1, objs := h.objs.set r (.map (setAt es i (.int .i64 v))) }
        | some none => some { h with tick := h.tick + 1, objs := h.objs.set r (.map (es ++ [(.int .i64 k, .int .i64 v)])) }
        | none => none
      | _ => none) else none) = some h1 ∧ _
  rw [hro, hr.2.2]
  simp only [Bool.and_self, cond_true, hf]
  cases hx : ixOfI k es 0 with
  | none =>
    rw [hx] at hp
    obtain ⟨g1, g2⟩ := map_turned w hr _ hp.1.symm
    exact ⟨_, rfl, g1, g2, rfl⟩
  | some p =>
    rw [hx] at hp
    obtain ⟨g1, g2⟩ := map_turned w hr _ hp.2.1.symm
    exact ⟨_, rfl, g1, g2, rfl⟩
theorem delT_ok (w : WF h) (M : MapAt h m es) (k : Int) : ∃ h1, delT .i64 h m k = some h1 ∧ MapAt h1 m (dropI k es) ∧ UP (fun A => m = some A) h h1 ∧ h1.size = h.size := by
  cases m with
  | none =>
    have := M.nil rfl; subst this
    exact ⟨h, rfl, mapAt_nil h, UP.refl w, rfl⟩
  | some r =>
    have hr := M.at_ r rfl
    have hf := mfind_enc k es 0
    have hp := ixOf_put k 0 es 0
    have hro : h.nro.ble r = true := Nat.ble_eq_true_of_le hr.1
    unfold delT delA
    show ∃ h1, (bif (true && h.nro.ble r) then (match h.objs.get r with
        | some (.map es) => match mfind (.int .i64 k) es 0 with
          | some (some (i, _)) => some { h with tick := h.tick + 1, objs := h.objs.set r (.map (es.eraseIdx i)) }
          | some none => some { h with tick := h.tick + 1, objs := h.objs.set r (.map es) }
          | none => none
        | _ => none) else none) = some h1 ∧ _
    rw [hro, hr.2.2]
    simp only [Bool.and_self, cond_true, hf]
    cases hx : ixOfI k es 0 with
    | none =>
      rw [hx] at hp
      obtain ⟨g1, g2⟩ := map_turned w hr _ hp.2.symm
      exact ⟨_, rfl, g1, g2.mono (fun A _ e => by rw [e]), rfl⟩
    | some p =>
      rw [hx] at hp
      obtain ⟨g1, g2⟩ := map_turned w hr _ hp.2.2.symm
      exact ⟨_, rfl, g1, g2.mono (fun A _ e => by rw [e]), rfl⟩
/-- a new map -/
theorem PO.newM {f : Nat → H → Option α} (w : WF h) (k : ∀ h1, EX h h1 → MapAt h1 (some h.size) [] → h1.size = h.size + 1 → PO (f h.size h1) Q) : PO (newO (.map []) h f) Q := by
  have get : ∀ A, (newAt (grow h 1) h.size (.map [])).objs.get A = if A = h.size then some (.map []) else h.objs.get A := fun A => Tr.get_set _ _ _ _
  refine k _ ⟨by simp [newAt, grow], rfl, ⟨by have := w.nro; simp [newAt, grow]; omega, fun A hA => ?_, fun A r hr => ?_⟩, fun A hA => ?_, rfl⟩ ⟨fun x => (nomatch x), fun r hr => ?_⟩ rfl
  · have hA' : h.size + 1 ≤ A := hA
    rw [get, if_neg (by omega)]; exact w.top A (by omega)
  · rw [get] at hr
    split at hr
    · simp at hr
    · exact w.arr A r hr
  · rw [get, if_neg (by omega)]
  · cases hr
    exact ⟨w.nro, by simp [newAt, grow], by rw [get, if_pos rfl]; rfl⟩
theorem eqMT_nil (m : Option Nat) : eqMT m none = some m.isNone := by cases m <;> rfl
/-- what is read is no map -/
theorem rd_ne_map {sz : Nat} {s : Sl} {l : List Value} (r : Rd sz h s l) (hl : l ≠ []) {q : Nat} {L : List (Value × Value)} (ho : h.objs.get q = some (.map L)) : ∀ a, s.base = some a → a.block ≠ q := by
  intro a ha hq
  cases l with
  | nil => exact hl rfl
  | cons v l =>
    have := (r.ld a ha 0 v rfl).2
    rw [ldCell_eq] at this
    simp only [add] at this
    rw [hq, ho] at this
    simp [ldO] at this
end
end Go.Abs
