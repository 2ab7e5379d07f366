/- Lemmas about the typed texts (joined: SSpanM SMap2 SIn1). -/
import Derived.Test.YtaebjajbogedkaaG17
import Derived.Test.YtaebjajbogedkaaG6
import Derived.Test.YtaebjajbogedkaaG13
import Derived.Test.YtaebjajbogedkaaG5
import Derived.Test.YtaebjajbogedkaaG11
-- SEAT c
/- Sets of spans: what an add, what the gaps hold. -/
set_option linter.unusedVariables false
set_option linter.unusedSimpArgs false
namespace Go.Proofs.Ytaebjajbogedkaa.T
open Go Go.Abs Go.Proofs
theorem m_brg_mem {f t : Int} (hf : 0 ≤ f) (ht : t ≤ 4611686018427387904) (hft : f ≤ t) : brg f = f ∧ brg t = t := by unfold brg; omega
theorem m_addS_mem {l : List Run} {lo e f t : Int} (h : Nrm lo e l) (hf : 0 ≤ f) (hft : f ≤ t) (ht : t ≤ 4611686018427387904) (n : Int) : mem (addS f t l) n ↔ mem l n ∨ (f ≤ n ∧ n < t) := by
  obtain ⟨e1, e2⟩ := m_brg_mem hf ht hft
  unfold addS
  rw [e1, e2]
  split
  · exact addR_mem l lo e f t n h (by assumption)
  · exact ⟨.inl, fun g => by rcases g with g | g; exact g; omega⟩
theorem m_gapS_mem {l : List Run} {lo e f t : Int} (h : Nrm lo e l) (hf : 0 ≤ f) (hft : f ≤ t) (ht : t ≤ 4611686018427387904) (n : Int) : mem (gapS f t l) n ↔ (f ≤ n ∧ n < t) ∧ ¬ mem l n := by
  obtain ⟨e1, e2⟩ := m_brg_mem hf ht hft
  unfold gapS
  rw [e1, e2]
  exact gapR_mem l lo e f t n h
theorem m_gapS_nil {l : List Run} {lo e f t : Int} (h : Nrm lo e l) (hf : 0 ≤ f) (hft : f ≤ t) (ht : t ≤ 4611686018427387904) : gapS f t l = [] ↔ ∀ n, f ≤ n → n < t → mem l n := by
  constructor
  · intro e n h1 h2
    exact Decidable.byContradiction fun hn => by
      have := (m_gapS_mem h hf hft ht n).2 ⟨⟨h1, h2⟩, hn⟩
      rw [e] at this
      exact (mem_nil n).1 this
  · intro hall
    have hn : Nrm (f - 1) t (gapS f t l) := by
      obtain ⟨e1, e2⟩ := m_brg_mem hf ht hft
      unfold gapS; rw [e1, e2]
      exact gapR_nrm l lo e f t (f - 1) t h (by omega) (Int.le_refl _)
    exact nrm_ext _ [] _ _ 0 0 hn trivial fun n => by
      rw [m_gapS_mem h hf hft ht, mem_nil]
      exact ⟨fun ⟨a, b⟩ => b (hall n a.1 a.2), fun g => g.elim⟩
theorem m_addS_nrm {l : List Run} {e f t : Int} (h : Nrm (-1) e l) (he : e ≤ 4611686018427387904) (hf : 0 ≤ f) (ht : t ≤ e) : Nrm (-1) e (addS f t l) := by
  unfold addS
  split
  · rename_i hlt
    have h1 : brg f = f := by unfold brg at hlt ⊢; omega
    have h2 : brg t = t := by unfold brg at hlt ⊢; omega
    rw [h1, h2] at hlt ⊢
    exact addR_nrm _ _ _ _ _ h (by omega) hlt ht
  · exact h
end Go.Proofs.Ytaebjajbogedkaa.T
-- SEAT c
/- Maps with keys and values of any kind in the texts' memory: what a look, a put, a drop tell. -/
set_option linter.unusedVariables false
set_option linter.unusedSimpArgs false
namespace Go.Abs
open Go
section
variable {K V : Type} [DecidableEq K]
def lookG (k : K) : List (K × V) → Option V
  | [] => none
  | (k', v) :: es => if k = k' then some v else lookG k es
def putG (k : K) (v : V) : List (K × V) → List (K × V)
  | [] => [(k, v)]
  | (k', v') :: es => if k = k' then (k', v) :: es else (k', v') :: putG k v es
def dropG (k : K) : List (K × V) → List (K × V)
  | [] => []
  | (k', v') :: es => if k = k' then es else (k', v') :: dropG k es
theorem lookG_put (k k2 : K) (v : V) : ∀ es : List (K × V), lookG k2 (putG k v es) = if k2 = k then some v else lookG k2 es
  | [] => by simp [putG, lookG]
  | (k', v') :: es => by
    have ih := lookG_put k k2 v es
    unfold putG
    by_cases h : k = k'
    · subst h
      rw [if_pos rfl]
      by_cases h2 : k2 = k
      · subst h2; simp [lookG]
      · simp [lookG, h2]
    · rw [if_neg h]
      unfold lookG
      rw [ih]
      by_cases h2 : k2 = k'
      · subst h2
        rw [if_pos rfl, if_pos rfl, if_neg (fun e => h e.symm)]
      · rw [if_neg h2, if_neg h2]
theorem keys_put (k : K) (v : V) : ∀ es : List (K × V), (putG k v es).map (·.1) = if (lookG k es).isSome then es.map (·.1) else es.map (·.1) ++ [k]
  | [] => rfl
  | (k', v') :: es => by
    have ih := keys_put k v es
    unfold putG lookG
    by_cases h : k = k'
    · subst h; simp
    · rw [if_neg h, if_neg h, List.map_cons, ih]
      split <;> simp
theorem lookG_none {k : K} : ∀ {es : List (K × V)}, lookG k es = none ↔ k ∉ es.map (·.1)
  | [] => by simp [lookG]
  | (k', v') :: es => by
    unfold lookG
    by_cases h : k = k'
    · subst h; simp
    · rw [if_neg h, lookG_none (es := es)]; simp [h]
theorem lookG_mem {k : K} {v : V} : ∀ {es : List (K × V)}, lookG k es = some v → (k, v) ∈ es
  | [], h => by cases h
  | (k', v') :: es, h => by
    unfold lookG at h
    split at h
    · rename_i e; cases h; rw [e]; exact .head _
    · exact .tail _ (lookG_mem h)
theorem lookG_of_mem {k : K} {v : V} : ∀ {es : List (K × V)}, (es.map (·.1)).Nodup → (k, v) ∈ es → lookG k es = some v
  | [], _, h => by cases h
  | (k', v') :: es, hn, h => by
    unfold lookG
    rw [List.map_cons, List.nodup_cons] at hn
    rcases List.mem_cons.1 h with e | h'
    · cases e; rw [if_pos rfl]
    · rw [if_neg, lookG_of_mem hn.2 h']
      rintro rfl
      exact hn.1 (List.mem_map.2 ⟨_, h', rfl⟩)
theorem nodup_put (k : K) (v : V) {es : List (K × V)} (hn : (es.map (·.1)).Nodup) : ((putG k v es).map (·.1)).Nodup := by
  rw [keys_put]
  split
  · exact hn
  · rename_i h
    rw [List.nodup_append]
    refine ⟨hn, by simp, ?_⟩
    intro a ha b hb
    simp only [List.mem_singleton] at hb
    rintro rfl
    subst hb
    exact absurd ha (lookG_none.1 (by simpa using h))
theorem dropG_sub (k : K) : ∀ es : List (K × V), (dropG k es).Sublist es
  | [] => .slnil
  | (k', v') :: es => by
    unfold dropG
    split
    · exact List.sublist_cons_self _ _
    · exact (dropG_sub k es).cons_cons _
theorem lookG_drop (k k2 : K) {es : List (K × V)} (hn : (es.map (·.1)).Nodup) : lookG k2 (dropG k es) = if k2 = k then none else lookG k2 es := by
  induction es with
  | nil => simp [dropG, lookG]
  | cons p es ih =>
    obtain ⟨k', v'⟩ := p
    rw [List.map_cons, List.nodup_cons] at hn
    have ih := ih hn.2
    unfold dropG
    by_cases h : k = k'
    · subst h
      rw [if_pos rfl]
      by_cases h2 : k2 = k
      · subst h2; rw [if_pos rfl]; exact lookG_none.2 hn.1
      · rw [if_neg h2]; simp [lookG, h2]
    · rw [if_neg h]
      unfold lookG
      rw [ih]
      by_cases h2 : k2 = k'
      · subst h2
        rw [if_pos rfl, if_pos rfl, if_neg (fun e => h e.symm)]
      · rw [if_neg h2, if_neg h2]
theorem nodup_drop (k : K) {es : List (K × V)} (hn : (es.map (·.1)).Nodup) : ((dropG k es).map (·.1)).Nodup := hn.sublist ((dropG_sub k es).map _)
/-- how keys and values lie -/
structure Enc (K V : Type) [DecidableEq K] where
  k : K → Value
  v : V → Value
  eq : ∀ a b, keq (k a) (k b) = some (decide (a = b))
variable (E : Enc K V)
def Enc.l (es : List (K × V)) : List (Value × Value) := es.map fun p => (E.k p.1, E.v p.2)
def ixG (k : K) : List (K × V) → Nat → Option (Nat × V)
  | [], _ => none
  | (k', v) :: es, i => if k = k' then some (i, v) else ixG k es (i + 1)
theorem mfind_G (k : K) : ∀ (es : List (K × V)) (i : Nat), mfind (E.k k) (E.l es) i = some ((ixG k es i).map fun p => (p.1, E.v p.2))
  | [], i => rfl
  | (k', v) :: es, i => by
    show (match keq (E.k k) (E.k k') with | some true => some (some (i, E.v v)) | some false => mfind (E.k k) (E.l es) (i + 1) | none => none) = _
    rw [E.eq]
    by_cases hk : k = k'
    · subst hk; simp [ixG]
    · simp only [decide_eq_false hk, ixG, if_neg hk]
      exact mfind_G k es (i + 1)
theorem ixG_look (k : K) : ∀ (es : List (K × V)) (i : Nat), (ixG k es i).map (·.2) = lookG k es
  | [], i => rfl
  | (k', v) :: es, i => by
    by_cases hk : k = k'
    · simp [ixG, lookG, hk]
    · simp [ixG, lookG, hk, ixG_look k es (i + 1)]
theorem ixG_put (k : K) (v : V) : ∀ (es : List (K × V)) (i : Nat), (match ixG k es i with | some p => i ≤ p.1 ∧ E.l (putG k v es) = setAt (E.l es) (p.1 - i) (E.v v) ∧ E.l (dropG k es) = (E.l es).eraseIdx (p.1 - i) | none => E.l (putG k v es) = E.l es ++ [(E.k k, E.v v)] ∧ E.l (dropG k es) = E.l es)
  | [], i => ⟨rfl, rfl⟩
  | (k', v') :: es, i => by
    by_cases hk : k = k'
    · subst hk; simp [ixG, putG, dropG, Enc.l, setAt]
    · have ih := ixG_put k v es (i + 1)
      simp only [ixG, if_neg hk, putG, dropG]
      cases hx : ixG k es (i + 1) with
      | none => rw [hx] at ih; simp only at ih ⊢; exact ⟨by rw [show E.l ((k', v') :: putG k v es) = (E.k k', E.v v') :: E.l (putG k v es) from rfl, ih.1]; rfl, by rw [show E.l ((k', v') :: dropG k es) = (E.k k', E.v v') :: E.l (dropG k es) from rfl, ih.2]; rfl⟩
      | some p =>
        rw [hx] at ih; simp only at ih ⊢
        obtain ⟨h1, h2, h3⟩ := ih
        have e : p.1 - i = (p.1 - (i + 1)) + 1 := by omega
        refine ⟨by omega, ?_, ?_⟩
        · rw [e, show E.l ((k', v') :: putG k v es) = (E.k k', E.v v') :: E.l (putG k v es) from rfl, h2]; rfl
        · rw [e, show E.l ((k', v') :: dropG k es) = (E.k k', E.v v') :: E.l (dropG k es) from rfl, h3]; rfl
/-- what a map holds -/
structure MapG (h : H) (m : Nat) (es : List (K × V)) : Prop where
  nro : h.nro ≤ m
  lt : m < h.size
  at_ : h.objs.get m = some (.map (E.l es))
variable {E} {h h1 : H} {m b : Nat} {es : List (K × V)}
theorem MapG.up {S : Nat → Prop} (M : MapG E h m es) (u : UP S h h1) (hn : ¬ S m) : MapG E h1 m es :=
  ⟨by rw [u.nro]; exact M.nro, Nat.lt_of_lt_of_le M.lt u.size, (u.same m M.lt hn).trans M.at_⟩
theorem MapG.ex (M : MapG E h m es) (x : EX h h1) : MapG E h1 m es := M.up (x.up (S := fun _ => False)) id
theorem MapG.nw (M : MapG E h m es) (n : NW b h h1) : MapG E h1 m es := M.up n.up fun e => by have := M.at_; rw [e, n.non] at this; cases this
theorem MapG.neb {L : List Value} (M : MapG E h m es) (B : Box h b L) : b ≠ m := by
  rintro rfl
  obtain ⟨e, c, g, _⟩ := B.get
  rw [M.at_] at g; cases g
theorem MapG.neq {v : Value} {a : Addr} (M : MapG E h m es) (e : ldCell h a = some v) : a.block ≠ m := by
  intro hb
  rw [ldCell_eq, hb, M.at_] at e
  simp [ldO] at e
theorem Rd.upg {sz : Nat} (M : MapG E h m es) (u : UP (· = m) h h1) {s : Sl} {l : List Value} (r : Rd sz h s l) : Rd sz h1 s l :=
  ⟨r.len, r.nil, fun a ha i v hi => by
    obtain ⟨g1, g2⟩ := r.ld a ha i v hi
    exact ⟨Nat.lt_of_lt_of_le g1 u.size, u.ld (a := add a i) g1 (M.neq g2) g2⟩, r.cap⟩
theorem mapG_turned (w : WF h) (M : MapG E h m es) (es2 : List (Value × Value)) {es' : List (K × V)} (e2 : es2 = E.l es') :
    MapG E { h with tick := h.tick + 1, objs := h.objs.set m (.map es2) } m es' ∧ UP (· = m) h { h with tick := h.tick + 1, objs := h.objs.set m (.map es2) } := by
  have get : ∀ A, (h.objs.set m (.map es2)).get A = if A = m then some (.map es2) else h.objs.get A := fun A => Tr.get_set _ _ _ _
  refine ⟨⟨M.nro, M.lt, by show (h.objs.set m _).get m = _; rw [get, if_pos rfl, e2]⟩, ⟨Nat.le_refl _, rfl, ⟨w.nro, fun A hA => ?_, fun A a ha => ?_⟩, fun A _ hA => by show (h.objs.set m _).get A = _; rw [get, if_neg hA], rfl⟩⟩
  · show (h.objs.set m _).get A = none
    have hA' : h.size ≤ A := hA
    rw [get, if_neg (by have := M.lt; omega)]; exact w.top A hA
  · have ha : (h.objs.set m (.map es2)).get A = some (.arr a) := ha
    rw [get] at ha
    split at ha
    · simp at ha
    · exact w.arr A a ha
/-- a look, a put, a drop, by the entries -/
theorem find_G (M : MapG E h m es) (k : K) {D : Abs.Data} {t kt et : TypeId} {j : TyI} (h1 : mapTy D t = some (kt, et)) (h2 : keyOk D kt (E.k k) = true) (h3 : D.ty.get et = some j) (ok : Bool) :
    lookA D h t (.map (some m)) (E.k k) ok = some (match lookG k es with | some v => (if ok then .tuple #[E.v v, .bool true] else E.v v) | none => (if ok then .tuple #[j.zero, .bool false] else j.zero)) := by
  have hf := mfind_G E k es 0
  have hl := ixG_look k es 0
  unfold lookA
  rw [h1]
  simp only [h2, cond_true, h3, M.at_, hf]
  rw [← hl]
  cases ixG k es 0 <;> rfl
theorem upd_G (w : WF h) (M : MapG E h m es) (k : K) (v : V) {D : Abs.Data} {t kt et : TypeId} (h1 : mapTy D t = some (kt, et)) (h2 : keyOk D kt (E.k k) = true) :
    ∃ h', updA D h t (.map (some m)) (E.k k) (E.v v) = some h' ∧ MapG E h' m (putG k v es) ∧ UP (· = m) h h' ∧ h'.size = h.size := by
  have hf := mfind_G E k es 0
  have hp := ixG_put E k v es 0
  have hro : h.nro.ble m = true := Nat.ble_eq_true_of_le M.nro
  unfold updA
  rw [h1]
  simp only [h2, hro, Bool.and_self, cond_true, M.at_, hf]
  cases hx : ixG k es 0 with
  | none =>
    rw [hx] at hp; simp only at hp
    obtain ⟨g1, g2⟩ := mapG_turned w M _ (es' := putG k v es) hp.1.symm
    exact ⟨_, rfl, g1, g2, rfl⟩
  | some p =>
    rw [hx] at hp; simp only [Nat.sub_zero] at hp
    obtain ⟨g1, g2⟩ := mapG_turned w M _ (es' := putG k v es) hp.2.1.symm
    exact ⟨_, rfl, g1, g2, rfl⟩
theorem del_G (w : WF h) (M : MapG E h m es) (k : K) {D : Abs.Data} {t kt et : TypeId} (h1 : mapTy D t = some (kt, et)) (h2 : keyOk D kt (E.k k) = true) (v0 : V) :
    ∃ h', delA D h t (.map (some m)) (E.k k) = some h' ∧ MapG E h' m (dropG k es) ∧ UP (· = m) h h' ∧ h'.size = h.size := by
  have hf := mfind_G E k es 0
  have hp := ixG_put E k v0 es 0
  have hro : h.nro.ble m = true := Nat.ble_eq_true_of_le M.nro
  unfold delA
  rw [h1]
  simp only [h2, hro, Bool.and_self, cond_true, M.at_, hf]
  cases hx : ixG k es 0 with
  | none =>
    rw [hx] at hp; simp only at hp
    obtain ⟨g1, g2⟩ := mapG_turned w M _ (es' := dropG k es) hp.2.symm
    exact ⟨_, rfl, g1, g2, rfl⟩
  | some p =>
    rw [hx] at hp; simp only [Nat.sub_zero] at hp
    obtain ⟨g1, g2⟩ := mapG_turned w M _ (es' := dropG k es) hp.2.2.symm
    exact ⟨_, rfl, g1, g2, rfl⟩
end
/-! whole numbers to pointers, to truth; structs of whole numbers to truth -/
def EIP : Enc Int (Option Addr) := ⟨.int .i64, .pointer, fun a b => by simp [keq]; rfl⟩
def EIB : Enc Int Bool := ⟨.int .i64, .bool, fun a b => by simp [keq]; rfl⟩
theorem intsEq_map : ∀ a b : List Int, a.length = b.length → intsEq (a.map (.int .i64)) (b.map (.int .i64)) = some (decide (a = b))
  | [], [], _ => rfl
  | x :: a, y :: b, h => by
    simp only [List.map_cons, intsEq, decide_true, Bool.not_true, cond_false, intsEq_map a b (by simpa using h), Option.map_some, Option.some.injEq]
    by_cases h1 : x = y <;> by_cases h2 : a = b <;> simp [h1, h2]
  | [], _ :: _, h => by simp at h
  | _ :: _, [], h => by simp at h
/-- keys of n numbers -/
def EZB (n : Nat) : Enc { l : List Int // l.length = n } Bool := ⟨fun k => encK k.1, .bool, fun a b => by
  show intsEq (a.1.map (.int .i64)) (b.1.map (.int .i64)) = _
  rw [intsEq_map _ _ (a.2.trans b.2.symm)]
  congr 1
  exact decide_eq_decide.2 ⟨Subtype.ext, congrArg _⟩⟩
section
variable {h : H} {m : Nat}
theorem lookP {es : List (Int × Option Addr)} (M : MapG EIP h m es) (k : Int) : lookOT .i64 ⟨false, [.ptr]⟩ (.pointer none) h (some m) k = some ((lookG k es).getD none, (lookG k es).isSome) := by
  unfold lookOT
  have := find_G M k (D := DM .i64 (.pointer none)) (t := 0) (kt := 1) (et := 2) rfl rfl rfl true
  show decT _ (lookA (DM .i64 (.pointer none)) h 0 (.map (some m)) (EIP.k k) true) = _
  rw [this]
  cases lookG k es <;> rfl
theorem updP {es : List (Int × Option Addr)} (w : WF h) (M : MapG EIP h m es) (k : Int) (v : Option Addr) : ∃ h', updT .i64 ⟨false, [.ptr]⟩ h (some m) k v = some h' ∧ MapG EIP h' m (putG k v es) ∧ UP (· = m) h h' ∧ h'.size = h.size :=
  upd_G w M k v (D := DM .i64 .nilFunc) (t := 0) (kt := 1) (et := 2) rfl rfl
theorem delP {es : List (Int × Option Addr)} (w : WF h) (M : MapG EIP h m es) (k : Int) : ∃ h', delT .i64 h (some m) k = some h' ∧ MapG EIP h' m (dropG k es) ∧ UP (· = m) h h' ∧ h'.size = h.size :=
  del_G w M k (D := DM .i64 .nilFunc) (t := 0) (kt := 1) (et := 2) rfl rfl none
theorem lookIB {es : List (Int × Bool)} (M : MapG EIB h m es) (k : Int) : lookT .i64 ⟨false, [.bool]⟩ (.bool false) h (some m) k = some ((lookG k es).getD false) := by
  unfold lookT
  have := find_G M k (D := DM .i64 (.bool false)) (t := 0) (kt := 1) (et := 2) rfl rfl rfl false
  show decO _ (lookA (DM .i64 (.bool false)) h 0 (.map (some m)) (EIB.k k) false) = _
  rw [this]
  cases lookG k es <;> rfl
theorem updIB {es : List (Int × Bool)} (w : WF h) (M : MapG EIB h m es) (k : Int) (v : Bool) : ∃ h', updT .i64 ⟨false, [.bool]⟩ h (some m) k v = some h' ∧ MapG EIB h' m (putG k v es) ∧ UP (· = m) h h' ∧ h'.size = h.size :=
  upd_G w M k v (D := DM .i64 .nilFunc) (t := 0) (kt := 1) (et := 2) rfl rfl
theorem keyOkZ (n : Nat) (z : Value) (k : List Int) (hk : k.length = n) : keyOk (DMZ n z) 1 (encK k) = true := by
  have g : (DMZ n z).ty.get 1 = some ⟨n, 0, .agg (Array.mk (List.replicate n (.int .i64 0))), .struct (Array.mk ((List.range n).map fun i => ⟨"", 3, i, false, "", "", 0⟩)), true⟩ := rfl
  have g3 : (DMZ n z).ty.get 3 = some ⟨1, 8, .int .i64 0, .int .i64, false⟩ := rfl
  unfold keyOk encK
  rw [g]
  simp only
  have e1 : ((Array.mk (k.map (Value.int .i64))).size.beq n) = true := nbeq_t (by simp [hk])
  have e2 : ∀ (n : Nat) (k : List Int), k.length = n → sameK (List.replicate n (.int .i64 0)) (k.map (.int .i64)) = true := by
    intro n
    induction n with
    | zero => intro k h; cases k with | nil => rfl | cons _ _ => simp at h
    | succ n ih => intro k h; cases k with
      | nil => simp at h
      | cons x k => simp only [List.replicate_succ, List.map_cons, sameK, decide_true, Bool.true_and]; exact ih k (by simpa using h)
  have e3 : ((List.range n).map fun i => (⟨"", 3, i, false, "", "", 0⟩ : Field)).all (fldIntOk (DMZ n z) (Array.mk (k.map (Value.int .i64))).size) = true := by
    rw [List.all_eq_true]
    intro f hf
    obtain ⟨i, hi, rfl⟩ := List.mem_map.1 hf
    unfold fldIntOk
    simp only [g3]
    have := List.mem_range.1 hi
    exact Nat.ble_eq_true_of_le (by simp [hk]; omega)
  rw [e1]
  show (true && (true && (sameK (List.replicate n (.int .i64 0)) (k.map (.int .i64)) && _))) = true
  rw [e2 n k hk]
  simpa using e3
theorem lookZB {n : Nat} {es : List ({ l : List Int // l.length = n } × Bool)} (M : MapG (EZB n) h m es) (k : List Int) (hk : k.length = n) : lookTZ ⟨false, [.bool]⟩ (.bool false) h (some m) k = some ((lookG ⟨k, hk⟩ es).getD false) := by
  unfold lookTZ
  rw [hk]
  have := find_G M ⟨k, hk⟩ (D := DMZ n (.bool false)) (t := 0) (kt := 1) (et := 2) rfl (keyOkZ n _ k hk) rfl false
  show decO _ (lookA (DMZ n (.bool false)) h 0 (.map (some m)) ((EZB n).k ⟨k, hk⟩) false) = _
  rw [this]
  cases lookG (⟨k, hk⟩ : { l : List Int // l.length = n }) es <;> rfl
theorem updZB {n : Nat} {es : List ({ l : List Int // l.length = n } × Bool)} (w : WF h) (M : MapG (EZB n) h m es) (k : List Int) (hk : k.length = n) (v : Bool) : ∃ h', updTZ ⟨false, [.bool]⟩ h (some m) k v = some h' ∧ MapG (EZB n) h' m (putG ⟨k, hk⟩ v es) ∧ UP (· = m) h h' ∧ h'.size = h.size := by
  unfold updTZ
  rw [hk]
  exact upd_G w M ⟨k, hk⟩ v (D := DMZ n .nilFunc) (t := 0) (kt := 1) (et := 2) rfl (keyOkZ n _ k hk)
end
theorem PO.newG {K V : Type} [DecidableEq K] (E : Enc K V) {α : Type} {Q : α → Prop} {h : H} {f : Nat → H → Option α} (w : WF h) (k : ∀ h1, EX h h1 → MapG E h1 h.size [] → h1.size = h.size + 1 → PO (f h.size h1) Q) : PO (newO (.map []) h f) Q :=
  PO.newM w fun h1 x M z => k h1 x ⟨(M.at_ _ rfl).1, (M.at_ _ rfl).2.1, (M.at_ _ rfl).2.2⟩ z
end Go.Abs
-- SEAT c
/- Chapter 22 over the typed texts: maps of pointers, copies of bytes; wholes of one piece. -/
set_option linter.unusedVariables false
set_option linter.unusedSimpArgs false
namespace Go.Abs
open Go
/-- what lies at a map's block -/
structure MapV (h : H) (m : Nat) (es : List (Value × Value)) : Prop where
  nro : h.nro ≤ m
  lt : m < h.size
  at_ : h.objs.get m = some (.map es)
section
variable {h h1 : H} {m b : Nat} {es : List (Value × Value)} {L : List Value}
theorem MapV.up {S : Nat → Prop} (M : MapV h m es) (u : UP S h h1) (hn : ¬ S m) : MapV h1 m es :=
  ⟨by rw [u.nro]; exact M.nro, Nat.lt_of_lt_of_le M.lt u.size, (u.same m M.lt hn).trans M.at_⟩
theorem MapV.ex (M : MapV h m es) (x : EX h h1) : MapV h1 m es := M.up (x.up (S := fun _ => False)) id
theorem MapV.nw (M : MapV h m es) (n : NW b h h1) : MapV h1 m es := M.up n.up fun e => by have := M.at_; rw [e, n.non] at this; cases this
theorem MapV.neb (M : MapV h m es) (B : Box h b L) : b ≠ m := by
  rintro rfl
  obtain ⟨e, c, g, _⟩ := B.get
  rw [M.at_] at g; cases g
theorem MapV.neq {v : Value} {a : Addr} (M : MapV h m es) (e : ldCell h a = some v) : a.block ≠ m := by
  intro hb
  rw [ldCell_eq, hb, M.at_] at e
  simp [ldO] at e
theorem ld_box (w : WF h) (B : Box h b L) {a : Addr} {v : Value} (e : a.block = b) (h2 : ldCell h a = some v) : v ∈ L := by
  obtain ⟨t, c, g1, g2⟩ := B.get
  rw [ldCell_eq] at h2
  simp only [e, g1] at h2
  unfold ldO at h2
  simp only at h2
  split at h2
  · rename_i sp hsp
    split at h2
    · rename_i cl hcl
      have hlt := w.arr b _ g1 _ _ hcl
      simp only at hlt
      have hg := g2 a.off _ (List.getElem?_eq_getElem hlt)
      rw [hg] at hcl
      cases hcl
      simp only [Nat.zero_le, Nat.ble_eq, show Nat.ble 0 sp = true by simp, cond_true, Option.some.injEq] at h2
      exact h2 ▸ List.getElem_mem hlt
    · simp at h2
  · simp at h2
/-- bytes stay where a box of other things, and a map, are turned -/
theorem RdB.pm (w : WF h) (B : Box h b L) (hd : ∀ v ∈ L, ∀ n, v ≠ .int .u8 n) (M : MapV h m es) (u : UP (fun A => A = b ∨ A = m) h h1) {s : Sl} {l : List UInt8} (r : RdB h s l) : RdB h1 s l :=
  ⟨Rd.len r, Rd.nil r, fun a ha i v hi => by
    obtain ⟨g1, g2⟩ := Rd.ld r a ha i v hi
    refine ⟨Nat.lt_of_lt_of_le g1 u.size, u.ld (a := add a i) g1 (fun e => ?_) g2⟩
    rcases e with e | e
    · have hv := ld_box w B e g2
      have hi' := List.mem_of_getElem? hi
      unfold vB at hi'
      obtain ⟨n, _, en⟩ := List.mem_map.1 hi'
      exact hd v hv _ en.symm
    · exact M.neq g2 e, Rd.cap r⟩
theorem Rd.upm {sz : Nat} (M : MapV h m es) (u : UP (· = m) h h1) {s : Sl} {l : List Value} (r : Rd sz h s l) : Rd sz h1 s l :=
  ⟨r.len, r.nil, fun a ha i v hi => by
    obtain ⟨g1, g2⟩ := r.ld a ha i v hi
    exact ⟨Nat.lt_of_lt_of_le g1 u.size, u.ld (a := add a i) g1 (M.neq g2) g2⟩, r.cap⟩
theorem lookOT_e (M : MapV h m []) (k : Int) : lookOT .i64 ⟨false, [.ptr]⟩ (.pointer none) h (some m) k = some (none, false) := by
  unfold lookOT lookA
  show decT _ (match (match h.objs.get m with | some (.map es) => mfind (.int .i64 k) es 0 | _ => none) with | some (some (_, v)) => some (if true then .tuple #[v, .bool true] else v) | some none => some (if true then .tuple #[Value.pointer none, .bool false] else Value.pointer none) | none => none) = _
  rw [M.at_]
  rfl
theorem mapV_turned (w : WF h) (M : MapV h m es) (es2 : List (Value × Value)) :
    MapV { h with tick := h.tick + 1, objs := h.objs.set m (.map es2) } m es2 ∧ UP (· = m) h { h with tick := h.tick + 1, objs := h.objs.set m (.map es2) } := by
  have get : ∀ A, (h.objs.set m (.map es2)).get A = if A = m then some (.map es2) else h.objs.get A := fun A => Tr.get_set _ _ _ _
  refine ⟨⟨M.nro, M.lt, by show (h.objs.set m _).get m = _; rw [get, if_pos rfl]⟩, ⟨Nat.le_refl _, rfl, ⟨w.nro, fun A hA => ?_, fun A a ha => ?_⟩, fun A _ hA => by show (h.objs.set m _).get A = _; rw [get, if_neg hA], rfl⟩⟩
  · show (h.objs.set m _).get A = none
    have hA' : h.size ≤ A := hA
    rw [get, if_neg (by have := M.lt; omega)]; exact w.top A hA
  · have ha : (h.objs.set m (.map es2)).get A = some (.arr a) := ha
    rw [get] at ha
    split at ha
    · simp at ha
    · exact w.arr A a ha
theorem updT_e (w : WF h) (M : MapV h m []) (k : Int) (p : Option Addr) : ∃ h1, updT .i64 ⟨false, [.ptr]⟩ h (some m) k p = some h1 ∧ MapV h1 m [(.int .i64 k, .pointer p)] ∧ UP (· = m) h h1 ∧ h1.size = h.size := by
  have hro : h.nro.ble m = true := Nat.ble_eq_true_of_le M.nro
  unfold updT updA
  show ∃ h1, (bif (true && h.nro.ble m) then (match h.objs.get m with
      | some (.map es) => match mfind (.int .i64 k) es 0 with
        | some (some (i, _)) => some { h with tick := h.tick + 1, objs := h.objs.set m (.map (setAt es i (.pointer p))) }
        | some none => some { h with tick := h.tick + 1, objs := h.objs.set m (.map (es ++ [(.int .i64 k, .pointer p)])) }
        | none => none
      | _ => none) else none) = some h1 ∧ _
  rw [hro, M.at_]
  obtain ⟨g1, g2⟩ := mapV_turned w M ([] ++ [(Value.int .i64 k, Value.pointer p)])
  exact ⟨_, rfl, g1, g2, rfl⟩
theorem delT_e (w : WF h) (M : MapV h m es) (k : Int) (he : es = [] ∨ ∃ v, es = [(.int .i64 k, v)]) : ∃ h1, delT .i64 h (some m) k = some h1 ∧ MapV h1 m [] ∧ UP (· = m) h h1 ∧ h1.size = h.size := by
  have hro : h.nro.ble m = true := Nat.ble_eq_true_of_le M.nro
  unfold delT delA
  show ∃ h1, (bif (true && h.nro.ble m) then (match h.objs.get m with
      | some (.map es) => match mfind (.int .i64 k) es 0 with
        | some (some (i, _)) => some { h with tick := h.tick + 1, objs := h.objs.set m (.map (es.eraseIdx i)) }
        | some none => some { h with tick := h.tick + 1, objs := h.objs.set m (.map es) }
        | none => none
      | _ => none) else none) = some h1 ∧ _
  rw [hro, M.at_]
  obtain ⟨g1, g2⟩ := mapV_turned w M []
  rcases he with rfl | ⟨v, rfl⟩
  · exact ⟨_, rfl, g1, g2, rfl⟩
  · have hf : mfind (.int .i64 k) [(.int .i64 k, v)] 0 = some (some (0, v)) := by simp [mfind, keq]
    simp only [Bool.and_self, cond_true, hf]
    exact ⟨_, rfl, g1, g2, rfl⟩
theorem PO.newV {α : Type} {Q : α → Prop} {f : Nat → H → Option α} (w : WF h) (k : ∀ h1, EX h h1 → MapV h1 h.size [] → h1.size = h.size + 1 → PO (f h.size h1) Q) : PO (newO (.map []) h f) Q :=
  PO.newM w fun h1 x M z => k h1 x ⟨(M.at_ _ rfl).1, (M.at_ _ rfl).2.1, (M.at_ _ rfl).2.2⟩ z
theorem cpT_box (w : WF h) (B : Box h b L) {n c : Nat} (hL : L.length = n) {s : Sl} {l : List UInt8} (r : RdB h s l) (hl : l.length = n) : ∃ h1, cpT 1 h ⟨some ⟨b, 0, some 0⟩, n, c⟩ s = some ((n : Int), h1) ∧ Box h1 b (vB l) ∧ UP (· = b) h h1 ∧ h1.size = h.size := by
  have hlen := RdB.len r
  have hv : (vB l).length = n := by simp [vB, hl]
  obtain ⟨h', e, B', u, z⟩ := B.stC w 0 (vB l) (by omega) (by simp [vB, oneC])
  rw [addA_zero] at e
  rw [List.take_zero, List.nil_append, Nat.zero_add, hv, ← hL, List.drop_length, List.append_nil] at B'
  refine ⟨h', ?_, B', u, z⟩
  have hf : firstA h 1 s.len (encSl s) = some (vB l) := Rd.first r
  have hm : min s.len n = s.len := by omega
  have key : copyA (DSE 0 (tyS 1 0 .nilFunc)) h 1 (encSl ⟨some ⟨b, 0, some 0⟩, n, c⟩) (encSl s) = some (.val (.int .i64 (n : Int)) h') := by
    unfold copyA
    rw [show elemOf (DSE 0 (tyS 1 0 .nilFunc)) 1 = some (0, tyS 1 0 .nilFunc) from elem_DSE 0 _]
    show (match firstA h 1 (min s.len n) (encSl s) with
      | some cells => (stCells h ⟨b, 0, some 0⟩ cells).map fun h' => OpR.val (.int .i64 ((min s.len n : Nat) : Int)) h'
      | none => none) = _
    rw [hm, hf]
    simp only [e, Option.map_some, hlen, hl]
  unfold cpT
  rw [key]; rfl
end
end Go.Abs
namespace Go.Proofs.Ytaebjajbogedkaa.T
open Go Go.Abs Go.Proofs
/-! wholes of one piece -/
def whL (v : Value) (x : Hd) (bb : Nat) : List Value := [v, .int .i64 x.1, .int .i64 x.2.1, .int .i64 x.2.2.1, .int .i64 x.2.2.2.1, .int .i64 x.2.2.2.2, encSl ⟨some ⟨bb, 0, some 0⟩, x.2.2.2.2.toNat, x.2.2.2.2.toNat⟩]
theorem FNew_f {h : H} (w : WF h) {x : Hd} (hx : HR x) (h0 : x.2.2.2.1 = 0) : PO (frags_New x h) (fun (a, h') => ∃ q bb, a = some ⟨q, 0, some 0⟩ ∧ Box h' q (whL (encSl ⟨none, 0, 0⟩) x bb) ∧ Box h' bb (List.replicate x.2.2.2.2.toNat (.int .u8 0)) ∧ EX h h' ∧ h.size ≤ q ∧ h.size ≤ bb ∧ bb ≠ q) := by
  obtain ⟨i, d, c, k, z⟩ := x
  simp only at h0
  subst h0
  unfold frags_New P.frags_New
  refine PO.newB w fun h1 x1 B1 z1 w1 => .ldZ5 B1 (PO.call (Right_f w1 _) fun a h2 ⟨e, x2⟩ => ?_)
  subst e
  refine .condND (fun hn => absurd hx hn) (fun _ => ?_)
  have B2 := Box.kx x2 B1
  have hs2 := x2.size
  refine PO.st1 B2 x2.wf (by simp) rfl fun h3 B3 u3 z3 w3 => ?_
  have B3' : Box h3 h.size [.int .i64 i, .int .i64 d, .int .i64 c, .int .i64 0, .int .i64 z] := B3
  have xx3 : EX h h3 := u3.ex0 (x1.trans x2) (fun A hA e => by omega)
  have hn3 := w3.nro
  refine PO.letGrow w3 fun h4 x4 z4 w4 n4 => .ldZ5 (Box.kx x4 B3') (.ldI (Box.kx x4 B3') rfl (.chk ?_ (.letO ?_)))
  · unfold HR at hx; simp only at hx; simp; omega
  have hzl : zeros (.int .u8 0) z.toNat = List.replicate z.toNat (.int .u8 0) := by
    unfold zeros
    generalize z.toNat = n
    induction n with
    | zero => rfl
    | succ n ih => simp only [List.replicate_succ, List.flatten_cons, ih]; rfl
  rw [hzl]
  refine PO.addNew w4 (by decide) (n4 3 (by omega)) (by omega) (by rw [x4.nro]; omega) fun h5 N5 B5 => ?_
  have z5 := N5.size
  refine PO.addNew N5.wf (by decide) (N5.nn (by omega) (by omega) (n4 5 (by omega))) (by omega) (by rw [N5.up.nro, x4.nro]; omega) fun h6 N6 B6 => .addNil (PO.letTick N6.wf fun h7 x7 z7 w7 => .ret ?_)
  exact ⟨h3.size + 5, h3.size + 3, rfl, Box.kx x7 B6, Box.kx x7 (NW.kb N6 B5), (N6.ex0 (N5.ex0 (xx3.trans x4) (by omega)) (by omega)).trans x7, by omega, by omega, by omega⟩
theorem FPut_f {h : H} (w : WF h) {q bb : Nat} {x : Hd} (hx : HR x) (h0 : x.2.2.2.1 = 0) (h80 : x.2.2.2.2 ≤ 80) (B : Box h q (whL (encSl ⟨none, 0, 0⟩) x bb)) (C : Box h bb (List.replicate x.2.2.2.2.toNat (.int .u8 0))) (hq : bb ≠ q) {s : Sl} {l : List UInt8} (r : RdB h s l) (hl : (l.length : Int) = x.2.2.2.2) :
    PO (frags_Whole_Put (some ⟨q, 0, some 0⟩) x s h) (fun (a, h') => a = true ∧ (∃ v, SetAt h' q 0 (whL v x bb) [(0, 1)]) ∧ Box h' bb (vB l) ∧ UP (fun A => A = q ∨ A = bb) h h') := by
  obtain ⟨i, d, c, k, z⟩ := x
  simp only at h0 h80 hl
  subst h0
  have hc : c = 1 := by unfold HR hcnt at hx; simp only at hx; omega
  subst hc
  have hz1 : 1 ≤ z := by unfold HR at hx; simp only at hx; omega
  unfold frags_Whole_Put P.frags_Whole_Put
  have hlen := RdB.len r
  refine PO.newB w fun h1 x1 B1 z1 w1 => .ldI B1 rfl (PO.st1 B1 w1 (by simp) rfl fun h2 B2 u2 z2 w2 => ?_)
  have B2' : Box h2 h.size [.int .i64 i, .int .i64 d, .int .i64 1, .int .i64 0, .int .i64 z] := B2
  have xx2 : EX h h2 := u2.ex0 x1 (fun A hA e => by omega)
  have Bq := Box.kx xx2 B
  have Bb := Box.kx xx2 C
  have r2 := RdB.ex xx2 r
  refine PO.join (fun st => st = ((some ⟨q, 0, some 0⟩, (s, (0, (0, false)))), h2)) ?_ ?_
  · refine .ldZ5 B2' (.ptr (.op (Box.ldZat Bq 1 [.int .i64, .int .i64, .int .i64, .int .i64, .int .i64] (i, d, 1, 0, z) rfl) (.letO ?_)))
    simp only [beq_self_eq_true, Bool.and_self, Bool.not_true]
    refine .condF (.condD (fun hh => absurd hh (by omega)) (fun _ => .ldI B2' rfl (.condD (fun hh => absurd hh (by omega)) (fun _ => .ldI B2' rfl (.letO (.retL ?_))))))
    rw [w64 (n := 0 * 80) (by omega) (by omega), w64 (n := z - 0 * 80) (by omega) (by omega)]
    have e : ((((s.len : Nat) : Int)) != (if z - 0 * 80 < 80 then z - 0 * 80 else 80)) = false := by
      rw [bne_eq_false_iff_eq]; split <;> omega
    rw [e]; rfl
  · rintro _ rfl
    refine .condF (.ptr ?_)
    have S2 : SetAt h2 q 0 (whL (encSl ⟨none, 0, 0⟩) (i, d, 1, 0, z) bb) [] := ⟨⟨⟨none, 0, 0⟩, rfl, rd_nil 2 h2, fun a ha => by cases ha⟩, Bq⟩
    refine PO.call (Has_f w2 S2 (by simp) 0) fun a h3 ⟨e, x3⟩ => ?_
    subst e
    refine .condND (fun _ => ?_) (fun hh => absurd hh (by simp [mem_nil]))
    have Bq3 := Box.kx x3 Bq
    have Bb3 := Box.kx x3 Bb
    have r3 := RdB.ex x3 r2
    refine .ptr (.ldL Bq3 rfl ?_)
    have hzl : (List.replicate z.toNat (Value.int .u8 0)) = vB (List.replicate z.toNat 0) := by simp [vB]
    have rb : RdB h3 ⟨some ⟨bb, 0, some 0⟩, z.toNat, z.toNat⟩ (List.replicate z.toNat 0) := by
      have q := Bb3.rd (sz := 1) (n := z.toNat) (cap := z.toNat) x3.wf (by simp) (capOk_self _ _ (by unfold B63; omega))
      rw [hzl] at q; exact q
    obtain ⟨s4, e4, r4, l4, v4, _⟩ := sl_lo (sz := 1) (lo := 0) (by omega) (by unfold B63; omega) rb (Int.le_refl _) (by omega)
    have hs4 : s4 = ⟨some ⟨bb, 0, some 0⟩, z.toNat, z.toNat⟩ := by
      rw [v4]
      unfold slV
      simp only [capK_exact (show z.toNat < B63 by unfold B63; omega)]
      have : (z.toNat).beq 0 = false := by cases hh : (z.toNat).beq 0 with
        | false => rfl
        | true => have := Nat.eq_of_beq_eq_true hh; omega
      simp only [Int.toNat_zero, this, cond_false, Nat.zero_mul, addA_zero, Nat.sub_zero]
    rw [hs4] at e4
    refine .op e4 ?_
    obtain ⟨h5, e5, B5, u5, z5⟩ := cpT_box x3.wf Bb3 (n := z.toNat) (c := z.toNat) (by simp) r3 (by omega)
    refine .callE e5 (.ptr ?_)
    have Bq5 := Box.ku u5 (fun e => hq e.symm) Bq3
    have S5 : SetAt h5 q 0 (whL (encSl ⟨none, 0, 0⟩) (i, d, 1, 0, z) bb) [] := ⟨⟨⟨none, 0, 0⟩, rfl, rd_nil 2 h5, fun a ha => by cases ha⟩, Bq5⟩
    rw [w64 (n := 0 + 1) (by omega) (by omega)]
    refine PO.call (Add_f u5.wf S5 (by simp) 0 (0 + 1)) fun a h6 ⟨v, S6, u6, _⟩ => .ret ⟨rfl, ⟨v, S6⟩, Box.ku u6 hq B5, ?_⟩
    exact ((xx2.trans x3).trans_up (u5.mono fun A _ e => .inr e)).trans (u6.mono fun A _ e => .inl e) fun A _ e => e
theorem Full_f {h : H} (w : WF h) {q bb : Nat} {x : Hd} (hc : x.2.2.1 = 1) {v : Value} (S : SetAt h q 0 (whL v x bb) [(0, 1)]) :
    PO (frags_Whole_Full (some ⟨q, 0, some 0⟩) h) (fun (a, h') => a = true ∧ EX h h') := by
  obtain ⟨i, d, c, k, z⟩ := x
  simp only at hc
  subst hc
  unfold frags_Whole_Full P.frags_Whole_Full
  refine .ptr (.ptr ?_)
  rw [add_add]
  refine .ldI S.box rfl (PO.call (SAll_f w S (by simp) 0 1) fun a h1 ⟨x1, e⟩ => .ret ⟨?_, x1⟩)
  subst e
  decide
theorem Bytes_f {h : H} (w : WF h) {q bb : Nat} {x : Hd} (hc : x.2.2.1 = 1) {v : Value} (S : SetAt h q 0 (whL v x bb) [(0, 1)]) {l : List UInt8} (B : Box h bb (vB l)) (hl : (l.length : Int) = x.2.2.2.2) (hl2 : l.length ≤ 1000) :
    PO (frags_Whole_Bytes (some ⟨q, 0, some 0⟩) h) (fun (a, h') => RdB h' a l ∧ EX h h') := by
  obtain ⟨i, d, c, k, z⟩ := x
  simp only at hc hl
  subst hc
  unfold frags_Whole_Bytes P.frags_Whole_Bytes
  refine PO.call (Full_f w rfl S) fun a h1 ⟨e, x1⟩ => ?_
  subst e
  refine .condF (.ptr (.ldL (Box.kx x1 S.box) rfl ?_))
  have r1 : RdB h1 ⟨some ⟨bb, 0, some 0⟩, z.toNat, z.toNat⟩ l := (Box.kx x1 B).rd x1.wf (by simp [vB]; omega) (capOk_self _ _ (by unfold B63; omega))
  obtain ⟨s2, h2, e2, x2, b2, _⟩ := clone_f x1.wf r1 (by omega)
  obtain ⟨s3, e3, r3, _⟩ := clipB_f (Buf.rd b2) (by omega)
  exact .callE e2 (.callE e3 (.ret ⟨r3, x1.trans x2⟩))
end Go.Proofs.Ytaebjajbogedkaa.T
