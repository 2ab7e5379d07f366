/- Lemmas about the typed texts (joined: SFrame6 SApp SSend1). -/
import Derived.Test.YtaebjajbogedkaaG15
import Derived.Test.YtaebjajbogedkaaG3
/- Chapter 5's functions over the typed texts: frames laid, sized; which elicit; which are the same. -/
set_option linter.unusedVariables false
set_option linter.unusedSimpArgs false
namespace Go.Proofs.Ytaebjajbogedkaa.T
open Go Go.Abs Go.Proofs
theorem take_succ_getD {α : Type} (l : List α) (d : α) {i : Nat} (h : i < l.length) : l.take (i + 1) = l.take i ++ [l.getD i d] := by
  rw [List.take_add_one, List.getD_eq_getElem?_getD, List.getElem?_eq_getElem h]; rfl
theorem getD_mem {α : Type} (l : List α) (d : α) {i : Nat} (h : i < l.length) : l.getD i d ∈ l := by
  rw [List.getD_eq_getElem?_getD, List.getElem?_eq_getElem h]; exact List.getElem_mem h
theorem layFs_length : ∀ {vs : List FV}, (∀ v ∈ vs, FR v) → (layFs vs).length ≤ 264 * vs.length
  | [], _ => by simp [layFs]
  | v :: vs, h => by
    have h1 := lay1_length (h v (by simp))
    have h2 := layFs_length (vs := vs) (fun u hu => h u (by simp [hu]))
    simp only [layFs, List.length_append, List.length_cons]; omega
/-! sizes -/
theorem szs_sum : ∀ {zs : List Int}, (∀ n ∈ zs, okN n) → szs zs = some ((encs zs).length : Int)
  | [], _ => rfl
  | n :: zs, h => by
    have h1 := szs_sum (zs := zs) (fun m hm => h m (by simp [hm]))
    have h2 := h n (by simp)
    have h3 := sz_pos n
    simp only [encs, List.length_append, enc_length, szs]
    rw [if_pos h2, h1]
    simp; omega
def fszV (v : FV) : Int := if FR v then ((lay1 v).length : Int) else -1
/-! who elicits -/
def elV (v : FV) : Prop := v.kind ≠ 2 ∧ v.kind ≠ 12
instance (v : FV) : Decidable (elV v) := by unfold elV; infer_instance
/-! the same frames -/
def sameFs : List FV → List FV → Prop
  | [], [] => True
  | v :: vs, u :: us => sameV v u ∧ sameFs vs us
  | _, _ => False
def decSameFs : (a b : List FV) → Decidable (sameFs a b)
  | [], [] => .isTrue trivial
  | v :: vs, u :: us => by
    have := decSameFs vs us
    exact inferInstanceAs (Decidable (sameV v u ∧ sameFs vs us))
  | [], _ :: _ => .isFalse id
  | _ :: _, [] => .isFalse id
instance (a b : List FV) : Decidable (sameFs a b) := decSameFs a b
theorem sameV_refl (v : FV) : sameV v v := ⟨rfl, rfl, rfl, rfl, rfl, rfl, rfl, rfl⟩
theorem sameFs_refl : ∀ vs : List FV, sameFs vs vs
  | [] => trivial
  | v :: vs => ⟨sameV_refl v, sameFs_refl vs⟩
theorem sameFs_len : ∀ {a b : List FV}, sameFs a b → a.length = b.length
  | [], [], _ => rfl
  | v :: vs, u :: us, h => by simp [sameFs_len h.2]
  | [], _ :: _, h => h.elim
  | _ :: _, [], h => h.elim
theorem sameFs_drop {a b : List FV} {i : Nat} (ha : i < a.length) (hb : i < b.length) : sameFs (a.drop i) (b.drop i) ↔ sameV (a.getD i fv0) (b.getD i fv0) ∧ sameFs (a.drop (i + 1)) (b.drop (i + 1)) := by
  have h1 : a.drop i = a.getD i fv0 :: a.drop (i + 1) := by rw [List.drop_eq_getElem_cons ha]; simp [List.getD, ha]
  have h2 : b.drop i = b.getD i fv0 :: b.drop (i + 1) := by rw [List.drop_eq_getElem_cons hb]; simp [List.getD, hb]
  rw [h1, h2]; exact Iff.rfl
end Go.Proofs.Ytaebjajbogedkaa.T
-- SEAT c
/- What an append leaves as it was: all rows but the one that it appends to. -/
set_option linter.unusedVariables false
set_option linter.unusedSimpArgs false
namespace Go.Abs
open Go
theorem stCell_same {h h' : H} {a : Addr} {v : Value} (e : stCell h a v = some h') : h'.size = h.size ∧ ∀ A, A ≠ a.block → h'.objs.get A = h.objs.get A := by
  unfold stCell at e
  split at e
  · rename_i r ev _ _
    cases hb : (ev.beq r.ver && h.nro.ble a.block && a.off.blt r.size && oneC v) <;> rw [hb] at e
    · simp at e
    · cases e
      refine ⟨rfl, fun A hA => ?_⟩
      show (Tr.set _ _ _).get A = _
      rw [Tr.get_set, if_neg hA]
  · simp at e
theorem stCells_same : ∀ (vs : List Value) {h h' : H} {a : Addr}, stCells h a vs = some h' → h'.size = h.size ∧ ∀ A, A ≠ a.block → h'.objs.get A = h.objs.get A
  | [], h, h', a, e => by cases e; exact ⟨rfl, fun _ _ => rfl⟩
  | v :: vs, h, h', a, e => by
    unfold stCells at e
    split at e
    · rename_i h1 e1
      obtain ⟨g1, g2⟩ := stCell_same e1
      obtain ⟨g3, g4⟩ := stCells_same vs e
      exact ⟨g3.trans g1, fun A hA => (g4 A hA).trans (g2 A hA)⟩
    · simp at e
def opH (h : H) : OpR → H
  | .val _ h' => h'
  | .new ob _ => newAt (grow h 1) h.size ob
  | _ => h
theorem appR_same {h : H} {e : TypeId} {j : TyI} {s : Sl} {new : List Value} {m : Nat} {R : OpR} (hr : appR h e j (encSl s) new m = some R) : ∀ A, A < h.size → (∀ a, s.base = some a → a.block ≠ A) → (opH h R).objs.get A = h.objs.get A := by
  have hnew : ∀ ob A, A < h.size → (newAt (grow h 1) h.size ob).objs.get A = h.objs.get A := fun ob A hA => by
    rw [newAt_get, if_neg (by omega)]; rfl
  obtain ⟨b, len, cap⟩ := s
  unfold appR encSl at hr
  simp only at hr
  intro A hA hs
  cases h0 : m.beq 0 <;> rw [h0] at hr
  case true => simp only [cond_true, Option.some.injEq] at hr; subst hr; rfl
  simp only [cond_false] at hr
  cases h1 : (!(((len + m) * j.bytes).ble (2 ^ 47) && (len + m).ble (2 ^ 62))) <;> rw [h1] at hr
  case true => simp at hr
  simp only [cond_false] at hr
  cases b with
  | none =>
    simp only at hr
    cases h2 : (len.beq 0 && cap.beq 0) <;> rw [h2] at hr
    · simp at hr
    · simp only [cond_true, Option.some.injEq] at hr
      subst hr
      exact hnew _ A hA
  | some a =>
    have ha := hs a rfl
    have hne : A ≠ a.block := fun e => ha e.symm
    simp only at hr
    cases hc : capK cap <;> rw [hc] at hr <;> simp only at hr
    case exact k =>
      cases h2 : (len + m).ble k <;> rw [h2] at hr <;> simp only [cond_false, cond_true] at hr
      · split at hr
        · simp only [Option.some.injEq] at hr; subst hr; exact hnew _ A hA
        · simp at hr
      · rw [Option.map_eq_some_iff] at hr
        obtain ⟨h', e1, rfl⟩ := hr
        exact (stCells_same _ e1).2 A (by simpa [add] using hne)
    case any => simp at hr
    case unk z =>
      cases h2 : z.beq j.size <;> rw [h2] at hr <;> simp only [cond_false, cond_true] at hr
      · simp at hr
      · split at hr
        · rename_i r ev _ _
          cases h3 : (ev.beq r.ver && h.nro.ble a.block && (a.off + len * j.size).ble r.size && (0).blt j.size) <;> rw [h3] at hr <;> simp only [cond_false, cond_true] at hr
          · simp at hr
          · cases h4 : (a.off + (len + m) * j.size).ble r.size <;> rw [h4] at hr <;> simp only [cond_false, cond_true] at hr
            · simp only [Option.some.injEq] at hr; subst hr
              show (Tr.set _ _ _).get A = _
              rw [Tr.get_set, if_neg hne]
            · rw [Option.map_eq_some_iff] at hr
              obtain ⟨h', e1, rfl⟩ := hr
              exact (stCells_same _ e1).2 A (by simpa [add] using hne)
        · simp at hr
    case unk0 z =>
      cases h2 : z.beq j.size <;> rw [h2] at hr <;> simp only [cond_false, cond_true] at hr
      · simp at hr
      · split at hr
        · rename_i r ev _ _
          cases h3 : (ev.beq r.ver && h.nro.ble a.block && (a.off + len * j.size).ble r.size && r.size.blt (a.off + (len + m) * j.size) && (0).blt j.size) <;> rw [h3] at hr <;> simp only [cond_false, cond_true] at hr
          · simp at hr
          · simp only [Option.some.injEq] at hr; subst hr
            show (Tr.set _ _ _).get A = _
            rw [Tr.get_set, if_neg hne]
        · simp at hr
theorem appT_same {e sz bytes : Nat} {h : H} {s x : Sl} {s' : Sl} {h' : H} (hr : appT e sz bytes h s x = some (s', h')) : ∀ A, A < h.size → (∀ a, s.base = some a → a.block ≠ A) → h'.objs.get A = h.objs.get A := by
  have key : ∃ R new n, appR h e (tyS sz bytes .nilFunc) (encSl s) new n = some R ∧ opH h R = h' := by
    unfold appT appA at hr
    rw [show (#[e + 1, e + 1] : Array TypeId)[0]? = some (e + 1) from rfl, show (#[e + 1, e + 1] : Array TypeId)[1]? = some (e + 1) from rfl] at hr
    simp only [elem_DSE, DSE_s] at hr
    simp only [encSl] at hr
    cases hf : firstA h (tyS sz bytes .nilFunc).size x.len (.slice x.base x.len x.cap) with
    | none => rw [hf] at hr; simp [decR] at hr
    | some new =>
      rw [hf] at hr
      simp only at hr
      cases hq : new.all oneC <;> rw [hq] at hr
      · simp [decR] at hr
      · simp only [cond_true] at hr
        cases hR : appR h e (tyS sz bytes .nilFunc) (.slice s.base s.len s.cap) new x.len with
        | none => rw [hR] at hr; simp [decR] at hr
        | some R =>
          rw [hR] at hr
          refine ⟨R, new, x.len, hR, ?_⟩
          cases R with
          | val v g =>
            simp only [decR] at hr
            split at hr
            · cases hr; rfl
            · simp at hr
          | new ob mk =>
            simp only [decR] at hr
            split at hr
            · cases hr; rfl
            · simp at hr
          | skip h2 => simp [decR] at hr
          | call f2 v2 => simp [decR] at hr
  obtain ⟨R, new, n, h1, rfl⟩ := key
  exact appR_same h1
def baseOK (h : H) (b : Option Addr) : OpR → Prop
  | .val (.slice (some a') _ _) _ => ∃ a, b = some a ∧ a.block = a'.block
  | .new _ mk => ∀ a' l c, mk h.size = .slice (some a') l c → h.size ≤ a'.block
  | _ => True
theorem appR_base {h : H} {e : TypeId} {j : TyI} {s : Sl} {new : List Value} {m : Nat} {R : OpR} (hr : appR h e j (encSl s) new m = some R) : baseOK h s.base R := by
  have hnew : ∀ (ob : AObj) (n c : Nat), baseOK h s.base (.new ob fun A => .slice (some ⟨A, 0, some 0⟩) n c) := fun ob n c a' l c' e => by
    simp only [Value.slice.injEq, Option.some.injEq] at e
    obtain ⟨rfl, _⟩ := e
    exact Nat.le_refl _
  obtain ⟨b, len, cap⟩ := s
  unfold appR encSl at hr
  simp only at hr hnew ⊢
  cases h0 : m.beq 0 <;> rw [h0] at hr
  case true =>
    simp only [cond_true, Option.some.injEq] at hr; subst hr
    cases b with
    | none => trivial
    | some a => exact ⟨a, rfl, rfl⟩
  simp only [cond_false] at hr
  cases h1 : (!(((len + m) * j.bytes).ble (2 ^ 47) && (len + m).ble (2 ^ 62))) <;> rw [h1] at hr
  case true => simp at hr
  simp only [cond_false] at hr
  cases b with
  | none =>
    simp only at hr
    cases h2 : (len.beq 0 && cap.beq 0) <;> rw [h2] at hr
    · simp at hr
    · simp only [cond_true, Option.some.injEq] at hr
      subst hr
      exact hnew _ _ _
  | some a =>
    simp only at hr
    cases hc : capK cap <;> rw [hc] at hr <;> simp only at hr
    case exact k =>
      cases h2 : (len + m).ble k <;> rw [h2] at hr <;> simp only [cond_false, cond_true] at hr
      · split at hr
        · simp only [Option.some.injEq] at hr; subst hr; exact hnew _ _ _
        · simp at hr
      · rw [Option.map_eq_some_iff] at hr
        obtain ⟨h', e1, rfl⟩ := hr
        exact ⟨a, rfl, rfl⟩
    case any => simp at hr
    case unk z =>
      cases h2 : z.beq j.size <;> rw [h2] at hr <;> simp only [cond_false, cond_true] at hr
      · simp at hr
      · split at hr
        · rename_i r ev _ _
          cases h3 : (ev.beq r.ver && h.nro.ble a.block && (a.off + len * j.size).ble r.size && (0).blt j.size) <;> rw [h3] at hr <;> simp only [cond_false, cond_true] at hr
          · simp at hr
          · cases h4 : (a.off + (len + m) * j.size).ble r.size <;> rw [h4] at hr <;> simp only [cond_false, cond_true] at hr
            · simp only [Option.some.injEq] at hr; subst hr
              exact ⟨a, rfl, rfl⟩
            · rw [Option.map_eq_some_iff] at hr
              obtain ⟨h', e1, rfl⟩ := hr
              exact ⟨a, rfl, rfl⟩
        · simp at hr
    case unk0 z =>
      cases h2 : z.beq j.size <;> rw [h2] at hr <;> simp only [cond_false, cond_true] at hr
      · simp at hr
      · split at hr
        · rename_i r ev _ _
          cases h3 : (ev.beq r.ver && h.nro.ble a.block && (a.off + len * j.size).ble r.size && r.size.blt (a.off + (len + m) * j.size) && (0).blt j.size) <;> rw [h3] at hr <;> simp only [cond_false, cond_true] at hr
          · simp at hr
          · simp only [Option.some.injEq] at hr; subst hr
            exact ⟨a, rfl, rfl⟩
        · simp at hr
theorem appT_base {e sz bytes : Nat} {h : H} {s x : Sl} {s' : Sl} {h' : H} (hr : appT e sz bytes h s x = some (s', h')) : ∀ a', s'.base = some a' → h.size ≤ a'.block ∨ ∃ a, s.base = some a ∧ a.block = a'.block := by
  unfold appT appA at hr
  rw [show (#[e + 1, e + 1] : Array TypeId)[0]? = some (e + 1) from rfl, show (#[e + 1, e + 1] : Array TypeId)[1]? = some (e + 1) from rfl] at hr
  simp only [elem_DSE, DSE_s] at hr
  simp only [encSl] at hr
  intro a' ha'
  cases hf : firstA h (tyS sz bytes .nilFunc).size x.len (.slice x.base x.len x.cap) with
  | none => rw [hf] at hr; simp [decR] at hr
  | some new =>
    rw [hf] at hr
    simp only at hr
    cases hq : new.all oneC <;> rw [hq] at hr
    · simp [decR] at hr
    · simp only [cond_true] at hr
      cases hR : appR h e (tyS sz bytes .nilFunc) (.slice s.base s.len s.cap) new x.len with
      | none => rw [hR] at hr; simp [decR] at hr
      | some R =>
        rw [hR] at hr
        have hb := appR_base (s := s) hR
        cases R with
        | val v g =>
          simp only [decR] at hr
          split at hr
          · rename_i y hy
            cases hr
            cases v with
            | slice b l c =>
              have hy : some (⟨b, l, c⟩ : Sl) = some s' := hy
              cases hy
              simp only at ha'
              subst ha'
              exact .inr hb
            | _ => first | (cases (show (none : Option Sl) = some s' from hy)) | (simp [decV, decL, slY, Z.dec, asSl] at hy)
          · simp at hr
        | new ob mk =>
          simp only [decR] at hr
          split at hr
          · rename_i y hy
            cases hr
            cases hm : mk h.size with
            | slice b l c =>
              rw [hm] at hy
              have hy : some (⟨b, l, c⟩ : Sl) = some s' := hy
              cases hy
              simp only at ha'
              subst ha'
              exact .inl (hb _ _ _ hm)
            | _ => rw [hm] at hy; first | (cases (show (none : Option Sl) = some s' from hy)) | (simp [decV, decL, slY, Z.dec, asSl] at hy)
          · simp at hr
        | skip h2 => simp [decR] at hr
        | call f2 v2 => simp [decR] at hr
/-- an append, all but its own row as it was -/
theorem up_app {e sz bytes : Nat} {h : H} {s x : Sl} {s' : Sl} {h' : H} (hr : appT e sz bytes h s x = some (s', h')) (k : KP h h') : UP (fun A => ∃ a, s.base = some a ∧ a.block = A) h h' :=
  ⟨k.size, k.nro, k.wf, fun A hA hn => appT_same hr A hA fun a ha e => hn ⟨a, ha, e⟩, k.st⟩
end Go.Abs
-- SEAT c
/- Chapter 13's stream, the writing side, over the typed texts: its row; the small functions. -/
set_option linter.unusedVariables false
set_option linter.unusedSimpArgs false
namespace Go.Proofs.Ytaebjajbogedkaa.T
open Go Go.Abs Go.Proofs
structure SS where
  limit : Int
  used : Int
  id : Int
  b : List UInt8
  lost : List Run
  came : List Run
  finished : Bool
  reset : Bool
  ft : Bool
  fd : Bool
  fc : Bool
  tt : Bool
  td : Bool
  tc : Bool
  code : Int
  sure : Int
def ssL (x : SS) (sb sl sc : Sl) : List Value := [.int .i64 x.limit, .int .i64 x.used, .int .i64 x.id, encSl sb, encSl sl, encSl sc, .bool x.finished, .bool x.reset, .bool x.ft, .bool x.fd, .bool x.fc, .bool x.tt, .bool x.td, .bool x.tc, .int .i64 x.code, .int .i64 x.sure]
/-- a stream's row at p, and what lies behind it; all of it at n0 or behind -/
structure StrA (n0 : Nat) (h : H) (p : Nat) (x : SS) (sb sl sc : Sl) : Prop where
  box : Box h p (ssL x sb sl sc)
  rb : RdB h sb x.b
  rl : RdR h sl x.lost
  rc : RdR h sc x.came
  nb : ∀ a, sb.base = some a → a.block ≠ p
  nl : ∀ a, sl.base = some a → a.block ≠ p
  nc : ∀ a, sc.base = some a → a.block ≠ p
  p0 : n0 ≤ p
def Strm (n0 : Nat) (h : H) (p : Nat) (x : SS) : Prop := ∃ sb sl sc, StrA n0 h p x sb sl sc
section
variable {n0 : Nat} {h h1 : H} {p : Nat} {x : SS} {sb sl sc : Sl}
theorem StrA.kx (w : WF h) (y : EX h h1) (S : StrA n0 h p x sb sl sc) : StrA n0 h1 p x sb sl sc := ⟨S.box.kx y, RdB.ex y S.rb, S.rl.ex y, S.rc.ex y, S.nb, S.nl, S.nc, S.p0⟩
theorem Strm.kx (w : WF h) (y : EX h h1) (S : Strm n0 h p x) : Strm n0 h1 p x := let ⟨sb, sl, sc, A⟩ := S; ⟨sb, sl, sc, A.kx w y⟩
/-- what lies behind the row is written, what was read stays -/
theorem StrA.kp (w : WF h) (k : KP h h1) (u : UP (fun A => p + 1 ≤ A) h h1) (S : StrA n0 h p x sb sl sc) : StrA n0 h1 p x sb sl sc := ⟨S.box.up w u (by omega), RdB.mono S.rb k, S.rl.mono k, S.rc.mono k, S.nb, S.nl, S.nc, S.p0⟩
theorem StrA.str (S : StrA n0 h p x sb sl sc) : Strm n0 h p x := ⟨sb, sl, sc, S⟩
theorem StrA.ofBox {x' : SS} {S' : Nat → Prop} (w : WF h) (S : StrA n0 h p x sb sl sc) (B : Box h1 p (ssL x' sb sl sc)) (u : UP (· = p) h h1) (eb : x'.b = x.b) (el : x'.lost = x.lost) (ec : x'.came = x.came) : StrA n0 h1 p x' sb sl sc :=
  ⟨B, by rw [eb]; exact Rd.up S.rb u S.nb, by rw [el]; exact Rd.up S.rl u S.nl, by rw [ec]; exact Rd.up S.rc u S.nc, S.nb, S.nl, S.nc, S.p0⟩
theorem StrA.st {α : Type} {Q : α → Prop} {f : H → Option α} {i : Nat} {v : Value} (S : StrA n0 h p x sb sl sc) (w : WF h) (x' : SS) (hi : i < 16) (ho : oneC v = true) (e : (ssL x sb sl sc).set i v = ssL x' sb sl sc) (eb : x'.b = x.b) (el : x'.lost = x.lost) (ec : x'.came = x.came)
    (k : ∀ h', StrA n0 h' p x' sb sl sc → UP (· = p) h h' → WF h' → PO (f h') Q) : PO (bindO (Abs.st1 h (add ⟨p, 0, some 0⟩ i) v) f) Q := by
  refine PO.st1 S.box w (by simpa [ssL] using hi) ho fun h' B u z w' => k h' ?_ u w'
  rw [e] at B
  exact S.ofBox (S' := fun _ => False) w B u eb el ec
theorem StrA.lost (S : StrA n0 h p x sb sl sc) : SetAt h p 4 (ssL x sb sl sc) x.lost := ⟨⟨sl, rfl, S.rl, S.nl⟩, S.box⟩
theorem StrA.came (S : StrA n0 h p x sb sl sc) : SetAt h p 5 (ssL x sb sl sc) x.came := ⟨⟨sc, rfl, S.rc, S.nc⟩, S.box⟩
theorem encSl_inj {s t : Sl} (e : encSl s = encSl t) : s = t := by
  unfold encSl at e
  cases s; cases t; cases e; rfl
theorem StrA.setLost {v : Value} {l : List Run} (w : WF h) (S : StrA n0 h p x sb sl sc) (T : SetAt h1 p 4 ((ssL x sb sl sc).set 4 v) l) (u : UP (· = p) h h1) : ∃ sl', StrA n0 h1 p { x with lost := l } sb sl' sc := by
  obtain ⟨s, e, r, n⟩ := T.ex
  have e1 : v = encSl s := by simpa [ssL] using e
  subst e1
  exact ⟨s, T.box, Rd.up S.rb u S.nb, r, Rd.up S.rc u S.nc, S.nb, n, S.nc, S.p0⟩
theorem StrA.setCame {v : Value} {l : List Run} (w : WF h) (S : StrA n0 h p x sb sl sc) (T : SetAt h1 p 5 ((ssL x sb sl sc).set 5 v) l) (u : UP (· = p) h h1) : ∃ sc', StrA n0 h1 p { x with came := l } sb sl sc' := by
  obtain ⟨s, e, r, n⟩ := T.ex
  have e1 : v = encSl s := by simpa [ssL] using e
  subst e1
  exact ⟨s, T.box, Rd.up S.rb u S.nb, Rd.up S.rl u S.nl, r, S.nb, S.nl, n, S.p0⟩
end
def ss0 (id : Int) : SS := ⟨400, 0, id, [], [], [], false, false, false, false, false, false, false, false, 0, 0⟩
def leftV (x : SS) : Int := max 0 (x.limit - x.used)
/-- numbers that may be, for the wraps -/
structure SRng (x : SS) : Prop where
  l0 : 0 ≤ x.limit ∧ x.limit ≤ 4611686018427387903
  u0 : 0 ≤ x.used ∧ x.used ≤ 4611686018427387903
  bl : x.b.length ≤ 4000
def raiseV (n : Int) (x : SS) : SS := if n ≤ x.limit ∨ n > 4611686018427387903 then x else { x with limit := n }
def mayS (x : SS) : Int := if x.reset then x.sure else x.b.length
theorem StrA.blen {n0 : Nat} {h : H} {p : Nat} {x : SS} {sb sl sc : Sl} (S : StrA n0 h p x sb sl sc) : sb.len = x.b.length := RdB.len S.rb
/-! a frame of some bytes -/
def endsV (x : SS) (to : Int) : Bool := x.finished && !x.reset && decide (to = x.b.length)
def sfr (x : SS) (f t : Int) : FV := ⟨3, x.id, f, 0, 0, 0, endsV x t, (x.b.drop f.toNat).take (t.toNat - f.toNat), []⟩
end Go.Proofs.Ytaebjajbogedkaa.T
