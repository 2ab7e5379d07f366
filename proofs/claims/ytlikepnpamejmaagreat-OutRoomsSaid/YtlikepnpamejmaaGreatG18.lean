/- Lemmas about the typed texts (joined: SApp SRead1 SRead2). -/
import Derived.Test.YtlikepnpamejmaaGreatG3
import Derived.Test.YtlikepnpamejmaaGreatG17
-- SEAT c
/- What an append leaves as it was: all rows but the one that it appends to. -/
set_option linter.unusedVariables false
set_option linter.unusedSimpArgs false
namespace Go.Abs
open Go
theorem stCell_same {h h' : H} {a : Addr} {v : Value} (e : stCell h a v = some h') : h'.size = h.size ∧ ∀ A, A ≠ a.block → h'.objs.get A = h.objs.get A := by
  unfold stCell at e
  split at e
  · rename_i r ev _ _
    cases hb : (ev.beq r.ver && h.nro.ble a.block && a.off.blt r.size && oneC v) <;> rw [hb] at e
    · simp at e
    · cases e
      refine ⟨rfl, fun A hA => ?_⟩
      show (Tr.set _ _ _).get A = _
      rw [Tr.get_set, if_neg hA]
  · simp at e
theorem stCells_same : ∀ (vs : List Value) {h h' : H} {a : Addr}, stCells h a vs = some h' → h'.size = h.size ∧ ∀ A, A ≠ a.block → h'.objs.get A = h.objs.get A
  | [], h, h', a, e => by cases e; exact ⟨rfl, fun _ _ => rfl⟩
  | v :: vs, h, h', a, e => by
    unfold stCells at e
    split at e
    · rename_i h1 e1
      obtain ⟨g1, g2⟩ := stCell_same e1
      obtain ⟨g3, g4⟩ := stCells_same vs e
      exact ⟨g3.trans g1, fun A hA => (g4 A hA).trans (g2 A hA)⟩
    · simp at e
def opH (h : H) : OpR → H
  | .val _ h' => h'
  | .new ob _ => newAt (grow h 1) h.size ob
  | _ => h
theorem appR_same {h : H} {e : TypeId} {j : TyI} {s : Sl} {new : List Value} {m : Nat} {R : OpR} (hr : appR h e j (encSl s) new m = some R) : ∀ A, A < h.size → (∀ a, s.base = some a → a.block ≠ A) → (opH h R).objs.get A = h.objs.get A := by
  have hnew : ∀ ob A, A < h.size → (newAt (grow h 1) h.size ob).objs.get A = h.objs.get A := fun ob A hA => by
    rw [newAt_get, if_neg (by omega)]; rfl
  obtain ⟨b, len, cap⟩ := s
  unfold appR encSl at hr
  simp only at hr
  intro A hA hs
  cases h0 : m.beq 0 <;> rw [h0] at hr
  case true => simp only [cond_true, Option.some.injEq] at hr; subst hr; rfl
  simp only [cond_false] at hr
  cases h1 : (!(((len + m) * j.bytes).ble (2 ^ 47) && (len + m).ble (2 ^ 62))) <;> rw [h1] at hr
  case true => simp at hr
  simp only [cond_false] at hr
  cases b with
  | none =>
    simp only at hr
    cases h2 : (len.beq 0 && cap.beq 0) <;> rw [h2] at hr
    · simp at hr
    · simp only [cond_true, Option.some.injEq] at hr
      subst hr
      exact hnew _ A hA
  | some a =>
    have ha := hs a rfl
    have hne : A ≠ a.block := fun e => ha e.symm
    simp only at hr
    cases hc : capK cap <;> rw [hc] at hr <;> simp only at hr
    case exact k =>
      cases h2 : (len + m).ble k <;> rw [h2] at hr <;> simp only [cond_false, cond_true] at hr
      · split at hr
        · simp only [Option.some.injEq] at hr; subst hr; exact hnew _ A hA
        · simp at hr
      · rw [Option.map_eq_some_iff] at hr
        obtain ⟨h', e1, rfl⟩ := hr
        exact (stCells_same _ e1).2 A (by simpa [add] using hne)
    case any => simp at hr
    case unk z =>
      cases h2 : z.beq j.size <;> rw [h2] at hr <;> simp only [cond_false, cond_true] at hr
      · simp at hr
      · split at hr
        · rename_i r ev _ _
          cases h3 : (ev.beq r.ver && h.nro.ble a.block && (a.off + len * j.size).ble r.size && (0).blt j.size) <;> rw [h3] at hr <;> simp only [cond_false, cond_true] at hr
          · simp at hr
          · cases h4 : (a.off + (len + m) * j.size).ble r.size <;> rw [h4] at hr <;> simp only [cond_false, cond_true] at hr
            · simp only [Option.some.injEq] at hr; subst hr
              show (Tr.set _ _ _).get A = _
              rw [Tr.get_set, if_neg hne]
            · rw [Option.map_eq_some_iff] at hr
              obtain ⟨h', e1, rfl⟩ := hr
              exact (stCells_same _ e1).2 A (by simpa [add] using hne)
        · simp at hr
    case unk0 z =>
      cases h2 : z.beq j.size <;> rw [h2] at hr <;> simp only [cond_false, cond_true] at hr
      · simp at hr
      · split at hr
        · rename_i r ev _ _
          cases h3 : (ev.beq r.ver && h.nro.ble a.block && (a.off + len * j.size).ble r.size && r.size.blt (a.off + (len + m) * j.size) && (0).blt j.size) <;> rw [h3] at hr <;> simp only [cond_false, cond_true] at hr
          · simp at hr
          · simp only [Option.some.injEq] at hr; subst hr
            show (Tr.set _ _ _).get A = _
            rw [Tr.get_set, if_neg hne]
        · simp at hr
theorem appT_same {e sz bytes : Nat} {h : H} {s x : Sl} {s' : Sl} {h' : H} (hr : appT e sz bytes h s x = some (s', h')) : ∀ A, A < h.size → (∀ a, s.base = some a → a.block ≠ A) → h'.objs.get A = h.objs.get A := by
  have key : ∃ R new n, appR h e (tyS sz bytes .nilFunc) (encSl s) new n = some R ∧ opH h R = h' := by
    unfold appT appA at hr
    rw [show (#[e + 1, e + 1] : Array TypeId)[0]? = some (e + 1) from rfl, show (#[e + 1, e + 1] : Array TypeId)[1]? = some (e + 1) from rfl] at hr
    simp only [elem_DSE, DSE_s] at hr
    simp only [encSl] at hr
    cases hf : firstA h (tyS sz bytes .nilFunc).size x.len (.slice x.base x.len x.cap) with
    | none => rw [hf] at hr; simp [decR] at hr
    | some new =>
      rw [hf] at hr
      simp only at hr
      cases hq : new.all oneC <;> rw [hq] at hr
      · simp [decR] at hr
      · simp only [cond_true] at hr
        cases hR : appR h e (tyS sz bytes .nilFunc) (.slice s.base s.len s.cap) new x.len with
        | none => rw [hR] at hr; simp [decR] at hr
        | some R =>
          rw [hR] at hr
          refine ⟨R, new, x.len, hR, ?_⟩
          cases R with
          | val v g =>
            simp only [decR] at hr
            split at hr
            · cases hr; rfl
            · simp at hr
          | new ob mk =>
            simp only [decR] at hr
            split at hr
            · cases hr; rfl
            · simp at hr
          | skip h2 => simp [decR] at hr
          | call f2 v2 => simp [decR] at hr
  obtain ⟨R, new, n, h1, rfl⟩ := key
  exact appR_same h1
def baseOK (h : H) (b : Option Addr) : OpR → Prop
  | .val (.slice (some a') _ _) _ => ∃ a, b = some a ∧ a.block = a'.block
  | .new _ mk => ∀ a' l c, mk h.size = .slice (some a') l c → h.size ≤ a'.block
  | _ => True
theorem appR_base {h : H} {e : TypeId} {j : TyI} {s : Sl} {new : List Value} {m : Nat} {R : OpR} (hr : appR h e j (encSl s) new m = some R) : baseOK h s.base R := by
  have hnew : ∀ (ob : AObj) (n c : Nat), baseOK h s.base (.new ob fun A => .slice (some ⟨A, 0, some 0⟩) n c) := fun ob n c a' l c' e => by
    simp only [Value.slice.injEq, Option.some.injEq] at e
    obtain ⟨rfl, _⟩ := e
    exact Nat.le_refl _
  obtain ⟨b, len, cap⟩ := s
  unfold appR encSl at hr
  simp only at hr hnew ⊢
  cases h0 : m.beq 0 <;> rw [h0] at hr
  case true =>
    simp only [cond_true, Option.some.injEq] at hr; subst hr
    cases b with
    | none => trivial
    | some a => exact ⟨a, rfl, rfl⟩
  simp only [cond_false] at hr
  cases h1 : (!(((len + m) * j.bytes).ble (2 ^ 47) && (len + m).ble (2 ^ 62))) <;> rw [h1] at hr
  case true => simp at hr
  simp only [cond_false] at hr
  cases b with
  | none =>
    simp only at hr
    cases h2 : (len.beq 0 && cap.beq 0) <;> rw [h2] at hr
    · simp at hr
    · simp only [cond_true, Option.some.injEq] at hr
      subst hr
      exact hnew _ _ _
  | some a =>
    simp only at hr
    cases hc : capK cap <;> rw [hc] at hr <;> simp only at hr
    case exact k =>
      cases h2 : (len + m).ble k <;> rw [h2] at hr <;> simp only [cond_false, cond_true] at hr
      · split at hr
        · simp only [Option.some.injEq] at hr; subst hr; exact hnew _ _ _
        · simp at hr
      · rw [Option.map_eq_some_iff] at hr
        obtain ⟨h', e1, rfl⟩ := hr
        exact ⟨a, rfl, rfl⟩
    case any => simp at hr
    case unk z =>
      cases h2 : z.beq j.size <;> rw [h2] at hr <;> simp only [cond_false, cond_true] at hr
      · simp at hr
      · split at hr
        · rename_i r ev _ _
          cases h3 : (ev.beq r.ver && h.nro.ble a.block && (a.off + len * j.size).ble r.size && (0).blt j.size) <;> rw [h3] at hr <;> simp only [cond_false, cond_true] at hr
          · simp at hr
          · cases h4 : (a.off + (len + m) * j.size).ble r.size <;> rw [h4] at hr <;> simp only [cond_false, cond_true] at hr
            · simp only [Option.some.injEq] at hr; subst hr
              exact ⟨a, rfl, rfl⟩
            · rw [Option.map_eq_some_iff] at hr
              obtain ⟨h', e1, rfl⟩ := hr
              exact ⟨a, rfl, rfl⟩
        · simp at hr
    case unk0 z =>
      cases h2 : z.beq j.size <;> rw [h2] at hr <;> simp only [cond_false, cond_true] at hr
      · simp at hr
      · split at hr
        · rename_i r ev _ _
          cases h3 : (ev.beq r.ver && h.nro.ble a.block && (a.off + len * j.size).ble r.size && r.size.blt (a.off + (len + m) * j.size) && (0).blt j.size) <;> rw [h3] at hr <;> simp only [cond_false, cond_true] at hr
          · simp at hr
          · simp only [Option.some.injEq] at hr; subst hr
            exact ⟨a, rfl, rfl⟩
        · simp at hr
theorem appT_base {e sz bytes : Nat} {h : H} {s x : Sl} {s' : Sl} {h' : H} (hr : appT e sz bytes h s x = some (s', h')) : ∀ a', s'.base = some a' → h.size ≤ a'.block ∨ ∃ a, s.base = some a ∧ a.block = a'.block := by
  unfold appT appA at hr
  rw [show (#[e + 1, e + 1] : Array TypeId)[0]? = some (e + 1) from rfl, show (#[e + 1, e + 1] : Array TypeId)[1]? = some (e + 1) from rfl] at hr
  simp only [elem_DSE, DSE_s] at hr
  simp only [encSl] at hr
  intro a' ha'
  cases hf : firstA h (tyS sz bytes .nilFunc).size x.len (.slice x.base x.len x.cap) with
  | none => rw [hf] at hr; simp [decR] at hr
  | some new =>
    rw [hf] at hr
    simp only at hr
    cases hq : new.all oneC <;> rw [hq] at hr
    · simp [decR] at hr
    · simp only [cond_true] at hr
      cases hR : appR h e (tyS sz bytes .nilFunc) (.slice s.base s.len s.cap) new x.len with
      | none => rw [hR] at hr; simp [decR] at hr
      | some R =>
        rw [hR] at hr
        have hb := appR_base (s := s) hR
        cases R with
        | val v g =>
          simp only [decR] at hr
          split at hr
          · rename_i y hy
            cases hr
            cases v with
            | slice b l c =>
              have hy : some (⟨b, l, c⟩ : Sl) = some s' := hy
              cases hy
              simp only at ha'
              subst ha'
              exact .inr hb
            | _ => first | (cases (show (none : Option Sl) = some s' from hy)) | (simp [decV, decL, slY, Z.dec, asSl] at hy)
          · simp at hr
        | new ob mk =>
          simp only [decR] at hr
          split at hr
          · rename_i y hy
            cases hr
            cases hm : mk h.size with
            | slice b l c =>
              rw [hm] at hy
              have hy : some (⟨b, l, c⟩ : Sl) = some s' := hy
              cases hy
              simp only at ha'
              subst ha'
              exact .inl (hb _ _ _ hm)
            | _ => rw [hm] at hy; first | (cases (show (none : Option Sl) = some s' from hy)) | (simp [decV, decL, slY, Z.dec, asSl] at hy)
          · simp at hr
        | skip h2 => simp [decR] at hr
        | call f2 v2 => simp [decR] at hr
/-- an append, all but its own row as it was -/
theorem up_app {e sz bytes : Nat} {h : H} {s x : Sl} {s' : Sl} {h' : H} (hr : appT e sz bytes h s x = some (s', h')) (k : KP h h') : UP (fun A => ∃ a, s.base = some a ∧ a.block = A) h h' :=
  ⟨k.size, k.nro, k.wf, fun A hA hn => appT_same hr A hA fun a ha e => hn ⟨a, ha, e⟩, k.st⟩
end Go.Abs
/- Chapter 5's reader over the typed texts: fail, take, flag, data. -/
set_option linter.unusedVariables false
set_option linter.unusedSimpArgs false
namespace Go.Proofs.YtlikepnpamejmaaGreat.T
open Go Go.Abs Go.Proofs
theorem tk_ok (l : List UInt8) : okN (tk l).1 := by
  cases l with
  | nil => exact ok0
  | cons b t =>
    simp only [tk]
    split
    · exact ok0
    · rename_i hlt
      have hb := b.toNat_lt
      obtain ⟨_, h1, h2⟩ := tsz_shl b
      have hlen : (t.take (tsz b - 1)).length ≤ 7 := by simp; omega
      have := val_lt (t.take (tsz b - 1)) (b.toNat % 64) 64 (by omega)
      have h3 : (256 : Nat) ^ (t.take (tsz b - 1)).length ≤ 256 ^ 7 := Nat.pow_le_pow_right (by omega) hlen
      have h4 : 64 * (256 : Nat) ^ 7 = 4611686018427387904 := by decide
      unfold okN
      simp only
      omega
/-! what a reader is at: an error, or bytes -/
abbrev RSt := Int ⊕ List UInt8
abbrev RP (α : Type) := List UInt8 → Int ⊕ (α × List UInt8)
def RdrS (h : H) (b : Nat) (l : List UInt8) (e : Int) : Prop := ∃ s, Box h b [encSl s, .int .i64 e] ∧ RdB h s l
def RdrA (h : H) (b : Nat) : RSt → Prop
  | .inl e => e ≠ 0 ∧ ∃ l, l.length ≤ 2 ^ 47 ∧ RdrS h b l e
  | .inr l => l.length ≤ 2 ^ 47 ∧ RdrS h b l 0
def stp {α : Type} (st : RSt) (p : RP α) : Int ⊕ (α × List UInt8) := match st with
  | .inl e => .inl e
  | .inr l => p l
def stO {α : Type} : Int ⊕ (α × List UInt8) → RSt
  | .inl e => .inl e
  | .inr (_, l) => .inr l
def isV {α : Type} (r : Int ⊕ (α × List UInt8)) (a : α) : Prop := ∀ x l, r = .inr (x, l) → x = a
def pT (n : Nat) : RP (List Int) := fun l => match tks n l with
  | some (ns, r) => .inr (ns, r)
  | none => .inl 3
theorem noU8_rdr (s : Sl) (e : Int) : ∀ v ∈ ([encSl s, .int .i64 e] : List Value), ∀ n, v ≠ .int .u8 n := by
  intro v hv n
  simp only [List.mem_cons, List.not_mem_nil, or_false] at hv
  rcases hv with rfl | rfl
  · simp [encSl]
  · simp
theorem RdrS.up {h h' : H} {b t : Nat} {l : List UInt8} {e : Int} {L : List Value} (w : WF h) (r : RdrS h b l e) (T : Box h t L) (hn : ∀ v ∈ L, ∀ n, v ≠ .int .u8 n) (ne : ¬ b = t) (u : UP (· = t) h h') : RdrS h' b l e := by
  obtain ⟨s, B, rd⟩ := r
  exact ⟨s, Box.ku u ne B, RdB.kbox w T u hn rd⟩
theorem RdrA.up {h h' : H} {b t : Nat} {st : RSt} {L : List Value} (w : WF h) (r : RdrA h b st) (T : Box h t L) (hn : ∀ v ∈ L, ∀ n, v ≠ .int .u8 n) (ne : ¬ b = t) (u : UP (· = t) h h') : RdrA h' b st := by
  cases st with
  | inl e => obtain ⟨h1, l, h2, h3⟩ := r; exact ⟨h1, l, h2, h3.up w T hn ne u⟩
  | inr l => exact ⟨r.1, r.2.up w T hn ne u⟩
theorem RdrS.ex {h h' : H} {b : Nat} {l : List UInt8} {e : Int} (x : EX h h') (r : RdrS h b l e) : RdrS h' b l e := by
  obtain ⟨s, B, rd⟩ := r
  exact ⟨s, Box.kx x B, rd.ex x⟩
theorem RdrA.ex {h h' : H} {b : Nat} {st : RSt} (x : EX h h') (r : RdrA h b st) : RdrA h' b st := by
  cases st with
  | inl e => obtain ⟨h1, l, h2, h3⟩ := r; exact ⟨h1, l, h2, h3.ex x⟩
  | inr l => exact ⟨r.1, r.2.ex x⟩
def failS (e : Int) : RSt → RSt
  | .inl e' => .inl e'
  | .inr _ => .inl e
/-! numbers taken into places of a row -/
def setAll : List Value → List Nat → List Int → List Value
  | L, k :: ks, n :: ns => setAll (L.set k (.int .i64 n)) ks ns
  | L, _, _ => L
def IntAt (L : List Value) (k : Nat) : Prop := ∃ n, L[k]? = some (.int .i64 n) ∧ okN n
theorem IntAt.set {L : List Value} {k j : Nat} {n : Int} (h : IntAt L j) (hn : okN n) (hk : k < L.length) : IntAt (L.set k (.int .i64 n)) j := by
  obtain ⟨m, h1, h2⟩ := h
  by_cases e : k = j
  · subst e; exact ⟨n, by rw [List.getElem?_set_self hk], hn⟩
  · exact ⟨m, by rw [List.getElem?_set_ne e]; exact h1, h2⟩
theorem setAll_self : ∀ (ks : List Nat) (L : List Value), (∀ k ∈ ks, IntAt L k) → ∃ ns, ns.length = ks.length ∧ (∀ n ∈ ns, okN n) ∧ setAll L ks ns = L
  | [], L, _ => ⟨[], rfl, by simp, rfl⟩
  | k :: ks, L, h => by
    obtain ⟨n, h1, h2⟩ := h k (by simp)
    obtain ⟨ns, h3, h4, h5⟩ := setAll_self ks L fun j hj => h j (by simp [hj])
    have hset : L.set k (.int .i64 n) = L := by
      obtain ⟨hk, he⟩ := List.getElem?_eq_some_iff.1 h1
      rw [← he, List.set_getElem_self]
    exact ⟨n :: ns, by simp [h3], by simp only [List.mem_cons, forall_eq_or_imp]; exact ⟨h2, h4⟩, by simp only [setAll]; rw [hset]; exact h5⟩
theorem setAll_length : ∀ (ks : List Nat) (L : List Value) (ns : List Int), (setAll L ks ns).length = L.length
  | [], L, ns => by simp [setAll]
  | k :: ks, L, [] => by simp [setAll]
  | k :: ks, L, n :: ns => by simp only [setAll]; rw [setAll_length ks]; simp
def noU8 (L : List Value) : Prop := ∀ v ∈ L, ∀ n, v ≠ .int .u8 n
theorem noU8.set {L : List Value} (h : noU8 L) (k : Nat) (n : Int) : noU8 (L.set k (.int .i64 n)) := by
  intro v hv m
  rcases List.mem_or_eq_of_mem_set hv with hv | rfl
  · exact h v hv m
  · simp
theorem PO.ixP {α : Type} {Q : α → Prop} {h : H} {p n : Nat} {ps : List (Option Addr)} {i : Int} {g : Addr → Option α} (P : Box h p (ps.map .pointer)) (w : WF h) (hn : ps.length = n) (hb : n < B63) (h0 : 0 ≤ i) (h1 : i < n) (k : ∀ a, Abs.ldP h a = some (ps.getD i.toNat none) → PO (g a) Q) : PO (bindO (ixT 1 ⟨some ⟨p, 0, some 0⟩, n, n⟩ i) g) Q := by
  have r : Rd 1 h ⟨some ⟨p, 0, some 0⟩, n, n⟩ (ps.map .pointer) := P.rd w (by simp; exact hn) (capOk_self _ _ hb)
  obtain ⟨a, ha, e⟩ := ixT_ok r h0 h1
  have hlt : i.toNat < ps.length := by omega
  refine .op e (k _ (ldP_of ?_))
  have := (r.ld a ha (i.toNat * 1) (.pointer (ps.getD i.toNat none)) (by
    rw [Nat.mul_one, List.getElem?_map, List.getD_eq_getElem?_getD, List.getElem?_eq_getElem hlt]; rfl)).2
  exact this
theorem PO.loop1 {σ α : Type} {Q : α → Prop} {step : σ → Option (σ ⊕ α)} {s : σ} (k : PO (step s) (Sum.elim (fun s' => PO (loopO step s') Q) Q)) : PO (loopO step s) Q := by
  obtain ⟨b, e, hb⟩ := k
  cases b with
  | inl s' =>
    obtain ⟨r, e2, h2⟩ := hb
    exact ⟨r, by rw [loopO_eq, e]; exact e2, h2⟩
  | inr r => exact ⟨r, by rw [loopO_eq, e], hb⟩
theorem pT_succ (m : Nat) (l : List UInt8) : pT (m + 1) l = if (tk l).2.2 = 0 then (match pT m (tk l).2.1 with
  | .inl e => .inl e
  | .inr (ns, r) => .inr ((tk l).1 :: ns, r)) else .inl 3 := by
  unfold pT
  simp only [tks]
  split
  · rename_i h
    split at h
    · rename_i h0
      simp only [Option.map_eq_some_iff] at h
      obtain ⟨p, h1, h2⟩ := h
      rw [if_pos h0, h1]
      simp only [Prod.mk.injEq] at h2
      rw [← h2.1, ← h2.2]
    · simp at h
  · rename_i h
    split at h
    · rename_i h0
      rw [Option.map_eq_none_iff] at h
      rw [if_pos h0, h]
    · rename_i h0
      rw [if_neg h0]
theorem RdrA.blt {h : H} {b : Nat} {st : RSt} (R : RdrA h b st) : b < h.size := by
  cases st with
  | inl e => obtain ⟨_, _, _, _, B, _⟩ := R; exact B.blt
  | inr l => obtain ⟨_, _, B, _⟩ := R; exact B.blt
def pFlag : RP Bool := fun l => match pT 1 l with
  | .inl e => .inl e
  | .inr (ns, r) => if ns.getD 0 0 > 1 then .inl 2 else .inr (decide (ns.getD 0 0 = 1), r)
theorem noU8_1 (n : Int) : noU8 [.int .i64 n] := by
  intro v hv m; simp at hv; subst hv; simp
def pData : RP (List UInt8) := fun l => match pT 1 l with
  | .inl e => .inl e
  | .inr (ns, r) => if ns.getD 0 0 > 120 then .inl 2 else if ns.getD 0 0 > (r.length : Int) then .inl 3 else .inr (r.take (ns.getD 0 0).toNat, r.drop (ns.getD 0 0).toNat)
def dataK : Int ⊕ (List Int × List UInt8) → Int ⊕ (List UInt8 × List UInt8)
  | .inl e => .inl e
  | .inr (ns, r) => if ns.getD 0 0 > 120 then .inl 2 else if ns.getD 0 0 > (r.length : Int) then .inl 3 else .inr (r.take (ns.getD 0 0).toNat, r.drop (ns.getD 0 0).toNat)
theorem stp_pData (st : RSt) : stp st pData = dataK (stp st (pT 1)) := by
  cases st with
  | inl e => rfl
  | inr l =>
    show pData l = dataK (pT 1 l)
    unfold pData
    cases pT 1 l <;> rfl
end Go.Proofs.YtlikepnpamejmaaGreat.T
/- Chapter 5's reader over the typed texts: an Ack's spans. -/
set_option linter.unusedVariables false
set_option linter.unusedSimpArgs false
namespace Go.Proofs.YtlikepnpamejmaaGreat.T
open Go Go.Abs Go.Proofs
def badP : Option Int → Int → Bool
  | none, _ => false
  | some q, n => decide (n < 2) || decide (n > q)
def lastV : Option Int → Int → Int
  | none, n => n
  | some q, n => q - n
def spK : Nat → Option Int → RP (List Run)
  | 0, _, l => .inr ([], l)
  | k + 1, p, l => match pT 1 l with
    | .inl e => .inl e
    | .inr (ns, r) => if badP p (ns.getD 0 0) then .inl 2 else match pT 1 r with
      | .inl e => .inl e
      | .inr (ms, r2) => if ms.getD 0 0 > lastV p (ns.getD 0 0) then .inl 2 else match spK k (some (lastV p (ns.getD 0 0) - ms.getD 0 0)) r2 with
        | .inl e => .inl e
        | .inr (q, r3) => .inr ((lastV p (ns.getD 0 0) - ms.getD 0 0, lastV p (ns.getD 0 0)) :: q, r3)
def pSpans : RP (List Run) := fun l => match pT 1 l with
  | .inl e => .inl e
  | .inr (ns, r) => if ns.getD 0 0 < 1 ∨ ns.getD 0 0 > 8 then .inl 2 else spK (ns.getD 0 0).toNat none r
theorem buf_lt {sz : Nat} {h : H} {s : Sl} {l : List Value} (w : WF h) (b : Buf sz h s l) : ∀ a, s.base = some a → a.block < h.size := by
  intro a ha
  rcases b.tip with ht | ⟨a', r, e, h1, h2, _⟩
  · rw [ht] at ha; simp at ha
  · rw [ha] at h1; cases h1; exact lt_of_get w h2
theorem PO.appR1u {α : Type} {Q : α → Prop} {h : H} {out : Sl} {l : List Run} {x y : Int} {n : Nat} {g : Sl → H → Option α} (w : WF h) (hb : BufR h out l) (hn : h.nro ≤ n) (hn2 : n ≤ h.size) (hf : Fr n out) (hl : l.length + 1 ≤ 2 ^ 42)
    (k : ∀ out1 h2, BufR h2 out1 (l ++ [(x, y)]) → UP (fun A => n ≤ A) h h2 → Fr n out1 → KP h h2 → PO (g out1 h2) Q) : PO (newO (row 190 [.int .i64 x, .int .i64 y]) h fun b h1 => bind2 (appT 190 2 16 h1 out ⟨some ⟨b, 0, some 0⟩, 1, 1⟩) g) Q := by
  refine PO.newB w fun h1 x1 B1 z1 w1 => ?_
  have r1 : RdR h1 ⟨some ⟨h.size, 0, some 0⟩, 1, 1⟩ [(x, y)] := B1.rd w1 rfl (by unfold CapOK; rw [capK_exact (by unfold B63; omega)]; exact Nat.le_refl _)
  have hb1 : BufR h1 out l := hb.ex w x1
  have hlen := RdR.len hb1.rd
  obtain ⟨s', h', e, k1, x2, b2, _, f2⟩ := appT_ok (e := 190) (bytes := 16) (by omega) (by unfold B63; omega) w1 hb1 r1 (runsV_oneC _) (by simp only; omega) (by simp only; omega)
  refine PO.callE e (k s' h' ?_ (x1.trans_up (up_of_ex w1 x2 k1 (by rw [x1.nro]; exact hn) (by omega) hf)) (f2 _ (by omega) hf) ((x1.kp w).trans k1))
  unfold BufR; rw [runsV_app]; exact b2
theorem RdrA.kp {h h' : H} {b n : Nat} {st : RSt} (k : KP h h') (u : UP (fun A => n ≤ A) h h') (hb : b < n) (R : RdrA h b st) : RdrA h' b st := by
  have key : ∀ l e, RdrS h b l e → RdrS h' b l e := fun l e ⟨s, B, rd⟩ => ⟨s, Box.ku u (by omega) B, RdB.mono rd k⟩
  cases st with
  | inl e => obtain ⟨h1, l, h2, h3⟩ := R; exact ⟨h1, l, h2, key _ _ h3⟩
  | inr l => exact ⟨R.1, key _ _ R.2⟩
def cons' (acc : List Run) : Int ⊕ (List Run × List UInt8) → Int ⊕ (List Run × List UInt8)
  | .inl e => .inl e
  | .inr (q, r) => .inr (acc ++ q, r)
/-- what the reader of spans is at -/
def SpI (F : Int ⊕ (List Run × List UInt8)) (N : Int) (acc : List Run) (m : Nat) : RSt → Prop
  | .inl e => F = .inl e
  | .inr l => N ≤ 8 ∧ (acc.length : Int) ≤ N ∧ F = cons' acc (spK (N.toNat - acc.length) (lst none acc) l) ∧ (∀ r ∈ acc, okN r.1) ∧ m = N.toNat - acc.length + 1
theorem lst_getD : ∀ (l : List Run) (p : Option Int), l ≠ [] → lst p l = some (l.getD (l.length - 1) (0, 0)).1
  | [r], p, _ => rfl
  | r :: q :: l, p, _ => by
    have := lst_getD (q :: l) (some r.1) (by simp)
    simpa [lst] using this
/-- the reader's state behind a step that was checked -/
theorem RdrA.st0 {h : H} {b : Nat} {st : RSt} (R : RdrA h b st) : ∃ s e, Box h b [encSl s, .int .i64 e] ∧ (e = 0 ↔ ∃ l, st = .inr l) := by
  cases st with
  | inl e => obtain ⟨he, l, _, s, B, _⟩ := R; exact ⟨s, e, B, by simp [he]⟩
  | inr l => obtain ⟨_, s, B, _⟩ := R; exact ⟨s, 0, B, by simp⟩
def spansK : Int ⊕ (List Int × List UInt8) → Int ⊕ (List Run × List UInt8)
  | .inl e => .inl e
  | .inr (ns, r) => if ns.getD 0 0 < 1 ∨ ns.getD 0 0 > 8 then .inl 2 else spK (ns.getD 0 0).toNat none r
theorem stp_pSpans (st : RSt) : stp st pSpans = spansK (stp st (pT 1)) := by
  cases st with
  | inl e => rfl
  | inr l =>
    show pSpans l = spansK (pT 1 l)
    unfold pSpans
    cases pT 1 l <;> rfl
end Go.Proofs.YtlikepnpamejmaaGreat.T
