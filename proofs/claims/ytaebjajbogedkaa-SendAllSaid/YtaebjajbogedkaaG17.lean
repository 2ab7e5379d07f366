/- Lemmas about the typed texts (joined: S16 SApp S18). -/
import Derived.Test.YtaebjajbogedkaaG16
import Derived.Test.YtaebjajbogedkaaG3
/- A slice of raw frames as a parameter: what is read of it. -/
set_option linter.unusedVariables false
set_option linter.unusedSimpArgs false
namespace Go.Abs
open Go Go.ChangeShapes Go.WideShapes Go.RowKit
theorem row_abs {k : IntKind} {W : World} {y : Part} (h : IsRow k W y.1 y.2.1 y.2.2.1 y.2.2.2) : absV W (.slice y.1 y.2.1 y.2.2.1) = some (encSl (argSl y.1 y.2.1)) := by
  obtain ⟨a, l, c, zs⟩ := y
  rcases h with ⟨h1, h2, h3, _⟩ | ⟨x, h1, h2, h3, h4, h5, _⟩
  · simp only at h1 h2 h3
    subst h1; subst h2; subst h3
    rfl
  · simp only at h1 h2 h3 h4 h5
    subst h1
    have hk : (l.ble c && (l.beq 0 || okA W x)) = true := by
      simp only [Bool.and_eq_true, Nat.ble_eq, Bool.or_eq_true, nbeq_eq]
      refine ⟨h2, ?_⟩
      rcases Nat.eq_zero_or_pos l with h0 | h0
      · exact .inl h0
      · right
        have := h5 0 (by omega)
        rw [show x.add 0 = x by simp [Addr.add]] at this
        exact okA_of_cell this
    simp only [absV, hk, cond_true]
    rfl
theorem addB (x : Addr) (i : Nat) : (x.add i).block = x.block := by unfold Addr.add; split <;> rfl
theorem addO (x : Addr) (i : Nat) : (x.add i).off = x.off + i := by unfold Addr.add; split <;> simp_all
theorem isRowW_vr {W : World} {a : Option Addr} {len cap : Nat} {ys : List RawA} (h : IsRowW W a len cap ys) : VR (impR W) (encSl (argSl a len)) (.slice a len cap) := by
  rcases h with ⟨rfl, rfl, rfl, rfl⟩ | ⟨x, rfl, h1, h2, h3, h4⟩
  · exact .slice0
  · refine .slice _ _ _ _ _ ?_
    show SR _ _ len x cap (capK ANY)
    rw [capK_ANY]
    refine ⟨h1, ?_⟩
    rcases Nat.eq_zero_or_pos len with h0 | h0
    · exact .inl h0
    · right
      have := ((h4 0 (ys[0]'(by omega)) (List.getElem?_eq_getElem (by omega))).1)
      have := (World.cells?_some this).2.2 0 (by omega)
      rw [show (x.add (0 * 9)).add 0 = x by simp [Addr.add]] at this
      exact okA_ar (okA_of_cell this)
theorem isRowW_len {W : World} {a : Option Addr} {len cap : Nat} {ys : List RawA} (h : IsRowW W a len cap ys) : ys.length = len := by
  rcases h with ⟨_, rfl, _, rfl⟩ | ⟨x, _, _, _, h3, _⟩
  · rfl
  · exact h3
theorem isRowW_each {W : World} {a : Option Addr} {len cap : Nat} {ys : List RawA} (h : IsRowW W a len cap ys) : ∀ y ∈ ys, IsRaw W y := by
  rcases h with ⟨_, _, _, rfl⟩ | ⟨x, _, _, _, _, h4⟩
  · intro y hy; simp at hy
  · intro y hy
    obtain ⟨i, hi⟩ := List.getElem?_of_mem hy
    exact (h4 i y hi).2
end Go.Abs
namespace Go.Proofs.Ytaebjajbogedkaa.T
open Go Go.Abs Go.Proofs
def rawX (y : RawA) : F9 := (y.k, y.id, y.off, y.a, y.b, y.bend, y.fin, argSl y.data.1 y.data.2.1, argSl y.spans.1 y.spans.2.1)
def rawV (y : RawA) : RV := ⟨y.k, y.id, y.off, y.a, y.b, y.bend, y.fin, bytesIn (y.data.2.2.2.take y.data.2.1), y.spans.2.2.2.take y.spans.2.1⟩
theorem fsV_idx {xs : List F9} {i : Nat} {v : Value} (h : (fsV xs)[i]? = some v) : ∃ q r, i = q * 9 + r ∧ r < 9 ∧ q < xs.length ∧ (f9L (xs.getD q f90))[r]? = some v := by
  have hi := (List.getElem?_eq_some_iff.1 h).1
  rw [fsV_length] at hi
  refine ⟨i / 9, i % 9, by omega, Nat.mod_lt _ (by omega), by omega, ?_⟩
  rw [← fsV_get xs (i / 9) (by omega), List.getElem?_take_of_lt (Nat.mod_lt _ (by omega)), List.getElem?_drop, show i / 9 * 9 + i % 9 = i by omega]
  exact h
theorem raw_abs {W : World} {y : RawA} (h : IsRaw W y) {r : Nat} {v : Value} (hv : (f9L (rawX y))[r]? = some v) : ∃ u, (rawCells y)[r]? = some u ∧ absV W u = some v := by
  have hd := row_abs h.1.1
  have hs := row_abs h.2.1
  have hr : r < 9 := (List.getElem?_eq_some_iff.1 hv).1
  rcases (by omega : r = 0 ∨ r = 1 ∨ r = 2 ∨ r = 3 ∨ r = 4 ∨ r = 5 ∨ r = 6 ∨ r = 7 ∨ r = 8) with rfl | rfl | rfl | rfl | rfl | rfl | rfl | rfl | rfl
  all_goals first
    | exact ⟨_, rfl, by rw [← hv]; rfl⟩
    | exact ⟨_, rfl, by rw [← hv]; exact hd⟩
    | exact ⟨_, rfl, by rw [← hv]; exact hs⟩
theorem isRowW_rd {W : World} {a : Option Addr} {len cap : Nat} {ys : List RawA} (h : IsRowW W a len cap ys) : RdW (impH W) (argSl a len) (ys.map rawX) (ys.map rawV) := by
  have hl := isRowW_len h
  refine ⟨?_, ?_⟩
  · rcases h with ⟨rfl, rfl, rfl, rfl⟩ | ⟨x, rfl, h1, h2, h3, h4⟩
    · exact rd_nil 9 _
    · refine ⟨by rw [fsV_length]; simp [argSl]; omega, fun hn => by simp [argSl] at hn, fun b hb i v hi => ?_, fun _ => by unfold CapOK argSl; simp only [capK_ANY]⟩
      simp only [argSl, Option.some.injEq] at hb
      subst hb
      obtain ⟨q, r, rfl, hr, hq, hv⟩ := fsV_idx hi
      simp only [List.length_map] at hq
      have hy : ys[q]? = some (ys[q]'hq) := List.getElem?_eq_getElem hq
      obtain ⟨hc, hp⟩ := h4 q _ hy
      have he : (ys.map rawX).getD q f90 = rawX (ys[q]'hq) := by
        rw [List.getD_eq_getElem?_getD, List.getElem?_map, hy]; rfl
      rw [he] at hv
      obtain ⟨u, hu, ha⟩ := raw_abs hp hv
      have hcell := (World.cells?_some hc).2.2 r hr
      rw [hu] at hcell
      obtain ⟨g1, g2, g3⟩ := imp_ld hcell ha
      have hb : ((x.add (q * 9)).add r).block = x.block := by rw [addB, addB]
      have ho : ((x.add (q * 9)).add r).off = x.off + (q * 9 + r) := by rw [addO, addO, Nat.add_assoc]
      rw [hb] at g1 g3
      rw [ho] at g3
      exact ⟨g1, by simpa [add] using g3⟩
  · have he := isRowW_each h
    clear h hl
    induction ys with
    | nil => trivial
    | cons y ys ih =>
      have hy := he y (by simp)
      exact ⟨⟨⟨rfl, rfl, rfl, rfl, rfl, rfl, rfl⟩, isRow_rdB hy.1.1, isRow_rd hy.2.1⟩, ih fun z hz => he z (by simp [hz])⟩
theorem isRowW_sz {W : World} {a : Option Addr} {len cap : Nat} {ys : List RawA} (h : IsRowW W a len cap ys) : WzOK (ys.map rawV) := by
  intro v hv
  obtain ⟨y, hy, rfl⟩ := List.mem_map.1 hv
  have h1 := isRowW_each h y hy
  have h2 := h1.1.2
  have h3 := h1.2.2
  have h4 := bytesIn_len y.data.2.2.2 y.data.2.1
  have h5 := ints_len y.spans.2.2.2 y.spans.2.1
  exact ⟨by show (bytesIn (y.data.2.2.2.take y.data.2.1)).length ≤ _; omega, by show (y.spans.2.2.2.take y.spans.2.1).length ≤ _; omega⟩
end Go.Proofs.Ytaebjajbogedkaa.T
-- SEAT c
/- What an append leaves as it was: all rows but the one that it appends to. -/
set_option linter.unusedVariables false
set_option linter.unusedSimpArgs false
namespace Go.Abs
open Go
theorem stCell_same {h h' : H} {a : Addr} {v : Value} (e : stCell h a v = some h') : h'.size = h.size ∧ ∀ A, A ≠ a.block → h'.objs.get A = h.objs.get A := by
  unfold stCell at e
  split at e
  · rename_i r ev _ _
    cases hb : (ev.beq r.ver && h.nro.ble a.block && a.off.blt r.size && oneC v) <;> rw [hb] at e
    · simp at e
    · cases e
      refine ⟨rfl, fun A hA => ?_⟩
      show (Tr.set _ _ _).get A = _
      rw [Tr.get_set, if_neg hA]
  · simp at e
theorem stCells_same : ∀ (vs : List Value) {h h' : H} {a : Addr}, stCells h a vs = some h' → h'.size = h.size ∧ ∀ A, A ≠ a.block → h'.objs.get A = h.objs.get A
  | [], h, h', a, e => by cases e; exact ⟨rfl, fun _ _ => rfl⟩
  | v :: vs, h, h', a, e => by
    unfold stCells at e
    split at e
    · rename_i h1 e1
      obtain ⟨g1, g2⟩ := stCell_same e1
      obtain ⟨g3, g4⟩ := stCells_same vs e
      exact ⟨g3.trans g1, fun A hA => (g4 A hA).trans (g2 A hA)⟩
    · simp at e
def opH (h : H) : OpR → H
  | .val _ h' => h'
  | .new ob _ => newAt (grow h 1) h.size ob
  | _ => h
theorem appR_same {h : H} {e : TypeId} {j : TyI} {s : Sl} {new : List Value} {m : Nat} {R : OpR} (hr : appR h e j (encSl s) new m = some R) : ∀ A, A < h.size → (∀ a, s.base = some a → a.block ≠ A) → (opH h R).objs.get A = h.objs.get A := by
  have hnew : ∀ ob A, A < h.size → (newAt (grow h 1) h.size ob).objs.get A = h.objs.get A := fun ob A hA => by
    rw [newAt_get, if_neg (by omega)]; rfl
  obtain ⟨b, len, cap⟩ := s
  unfold appR encSl at hr
  simp only at hr
  intro A hA hs
  cases h0 : m.beq 0 <;> rw [h0] at hr
  case true => simp only [cond_true, Option.some.injEq] at hr; subst hr; rfl
  simp only [cond_false] at hr
  cases h1 : (!(((len + m) * j.bytes).ble (2 ^ 47) && (len + m).ble (2 ^ 62))) <;> rw [h1] at hr
  case true => simp at hr
  simp only [cond_false] at hr
  cases b with
  | none =>
    simp only at hr
    cases h2 : (len.beq 0 && cap.beq 0) <;> rw [h2] at hr
    · simp at hr
    · simp only [cond_true, Option.some.injEq] at hr
      subst hr
      exact hnew _ A hA
  | some a =>
    have ha := hs a rfl
    have hne : A ≠ a.block := fun e => ha e.symm
    simp only at hr
    cases hc : capK cap <;> rw [hc] at hr <;> simp only at hr
    case exact k =>
      cases h2 : (len + m).ble k <;> rw [h2] at hr <;> simp only [cond_false, cond_true] at hr
      · split at hr
        · simp only [Option.some.injEq] at hr; subst hr; exact hnew _ A hA
        · simp at hr
      · rw [Option.map_eq_some_iff] at hr
        obtain ⟨h', e1, rfl⟩ := hr
        exact (stCells_same _ e1).2 A (by simpa [add] using hne)
    case any => simp at hr
    case unk z =>
      cases h2 : z.beq j.size <;> rw [h2] at hr <;> simp only [cond_false, cond_true] at hr
      · simp at hr
      · split at hr
        · rename_i r ev _ _
          cases h3 : (ev.beq r.ver && h.nro.ble a.block && (a.off + len * j.size).ble r.size && (0).blt j.size) <;> rw [h3] at hr <;> simp only [cond_false, cond_true] at hr
          · simp at hr
          · cases h4 : (a.off + (len + m) * j.size).ble r.size <;> rw [h4] at hr <;> simp only [cond_false, cond_true] at hr
            · simp only [Option.some.injEq] at hr; subst hr
              show (Tr.set _ _ _).get A = _
              rw [Tr.get_set, if_neg hne]
            · rw [Option.map_eq_some_iff] at hr
              obtain ⟨h', e1, rfl⟩ := hr
              exact (stCells_same _ e1).2 A (by simpa [add] using hne)
        · simp at hr
    case unk0 z =>
      cases h2 : z.beq j.size <;> rw [h2] at hr <;> simp only [cond_false, cond_true] at hr
      · simp at hr
      · split at hr
        · rename_i r ev _ _
          cases h3 : (ev.beq r.ver && h.nro.ble a.block && (a.off + len * j.size).ble r.size && r.size.blt (a.off + (len + m) * j.size) && (0).blt j.size) <;> rw [h3] at hr <;> simp only [cond_false, cond_true] at hr
          · simp at hr
          · simp only [Option.some.injEq] at hr; subst hr
            show (Tr.set _ _ _).get A = _
            rw [Tr.get_set, if_neg hne]
        · simp at hr
theorem appT_same {e sz bytes : Nat} {h : H} {s x : Sl} {s' : Sl} {h' : H} (hr : appT e sz bytes h s x = some (s', h')) : ∀ A, A < h.size → (∀ a, s.base = some a → a.block ≠ A) → h'.objs.get A = h.objs.get A := by
  have key : ∃ R new n, appR h e (tyS sz bytes .nilFunc) (encSl s) new n = some R ∧ opH h R = h' := by
    unfold appT appA at hr
    rw [show (#[e + 1, e + 1] : Array TypeId)[0]? = some (e + 1) from rfl, show (#[e + 1, e + 1] : Array TypeId)[1]? = some (e + 1) from rfl] at hr
    simp only [elem_DSE, DSE_s] at hr
    simp only [encSl] at hr
    cases hf : firstA h (tyS sz bytes .nilFunc).size x.len (.slice x.base x.len x.cap) with
    | none => rw [hf] at hr; simp [decR] at hr
    | some new =>
      rw [hf] at hr
      simp only at hr
      cases hq : new.all oneC <;> rw [hq] at hr
      · simp [decR] at hr
      · simp only [cond_true] at hr
        cases hR : appR h e (tyS sz bytes .nilFunc) (.slice s.base s.len s.cap) new x.len with
        | none => rw [hR] at hr; simp [decR] at hr
        | some R =>
          rw [hR] at hr
          refine ⟨R, new, x.len, hR, ?_⟩
          cases R with
          | val v g =>
            simp only [decR] at hr
            split at hr
            · cases hr; rfl
            · simp at hr
          | new ob mk =>
            simp only [decR] at hr
            split at hr
            · cases hr; rfl
            · simp at hr
          | skip h2 => simp [decR] at hr
          | call f2 v2 => simp [decR] at hr
  obtain ⟨R, new, n, h1, rfl⟩ := key
  exact appR_same h1
def baseOK (h : H) (b : Option Addr) : OpR → Prop
  | .val (.slice (some a') _ _) _ => ∃ a, b = some a ∧ a.block = a'.block
  | .new _ mk => ∀ a' l c, mk h.size = .slice (some a') l c → h.size ≤ a'.block
  | _ => True
theorem appR_base {h : H} {e : TypeId} {j : TyI} {s : Sl} {new : List Value} {m : Nat} {R : OpR} (hr : appR h e j (encSl s) new m = some R) : baseOK h s.base R := by
  have hnew : ∀ (ob : AObj) (n c : Nat), baseOK h s.base (.new ob fun A => .slice (some ⟨A, 0, some 0⟩) n c) := fun ob n c a' l c' e => by
    simp only [Value.slice.injEq, Option.some.injEq] at e
    obtain ⟨rfl, _⟩ := e
    exact Nat.le_refl _
  obtain ⟨b, len, cap⟩ := s
  unfold appR encSl at hr
  simp only at hr hnew ⊢
  cases h0 : m.beq 0 <;> rw [h0] at hr
  case true =>
    simp only [cond_true, Option.some.injEq] at hr; subst hr
    cases b with
    | none => trivial
    | some a => exact ⟨a, rfl, rfl⟩
  simp only [cond_false] at hr
  cases h1 : (!(((len + m) * j.bytes).ble (2 ^ 47) && (len + m).ble (2 ^ 62))) <;> rw [h1] at hr
  case true => simp at hr
  simp only [cond_false] at hr
  cases b with
  | none =>
    simp only at hr
    cases h2 : (len.beq 0 && cap.beq 0) <;> rw [h2] at hr
    · simp at hr
    · simp only [cond_true, Option.some.injEq] at hr
      subst hr
      exact hnew _ _ _
  | some a =>
    simp only at hr
    cases hc : capK cap <;> rw [hc] at hr <;> simp only at hr
    case exact k =>
      cases h2 : (len + m).ble k <;> rw [h2] at hr <;> simp only [cond_false, cond_true] at hr
      · split at hr
        · simp only [Option.some.injEq] at hr; subst hr; exact hnew _ _ _
        · simp at hr
      · rw [Option.map_eq_some_iff] at hr
        obtain ⟨h', e1, rfl⟩ := hr
        exact ⟨a, rfl, rfl⟩
    case any => simp at hr
    case unk z =>
      cases h2 : z.beq j.size <;> rw [h2] at hr <;> simp only [cond_false, cond_true] at hr
      · simp at hr
      · split at hr
        · rename_i r ev _ _
          cases h3 : (ev.beq r.ver && h.nro.ble a.block && (a.off + len * j.size).ble r.size && (0).blt j.size) <;> rw [h3] at hr <;> simp only [cond_false, cond_true] at hr
          · simp at hr
          · cases h4 : (a.off + (len + m) * j.size).ble r.size <;> rw [h4] at hr <;> simp only [cond_false, cond_true] at hr
            · simp only [Option.some.injEq] at hr; subst hr
              exact ⟨a, rfl, rfl⟩
            · rw [Option.map_eq_some_iff] at hr
              obtain ⟨h', e1, rfl⟩ := hr
              exact ⟨a, rfl, rfl⟩
        · simp at hr
    case unk0 z =>
      cases h2 : z.beq j.size <;> rw [h2] at hr <;> simp only [cond_false, cond_true] at hr
      · simp at hr
      · split at hr
        · rename_i r ev _ _
          cases h3 : (ev.beq r.ver && h.nro.ble a.block && (a.off + len * j.size).ble r.size && r.size.blt (a.off + (len + m) * j.size) && (0).blt j.size) <;> rw [h3] at hr <;> simp only [cond_false, cond_true] at hr
          · simp at hr
          · simp only [Option.some.injEq] at hr; subst hr
            exact ⟨a, rfl, rfl⟩
        · simp at hr
theorem appT_base {e sz bytes : Nat} {h : H} {s x : Sl} {s' : Sl} {h' : H} (hr : appT e sz bytes h s x = some (s', h')) : ∀ a', s'.base = some a' → h.size ≤ a'.block ∨ ∃ a, s.base = some a ∧ a.block = a'.block := by
  unfold appT appA at hr
  rw [show (#[e + 1, e + 1] : Array TypeId)[0]? = some (e + 1) from rfl, show (#[e + 1, e + 1] : Array TypeId)[1]? = some (e + 1) from rfl] at hr
  simp only [elem_DSE, DSE_s] at hr
  simp only [encSl] at hr
  intro a' ha'
  cases hf : firstA h (tyS sz bytes .nilFunc).size x.len (.slice x.base x.len x.cap) with
  | none => rw [hf] at hr; simp [decR] at hr
  | some new =>
    rw [hf] at hr
    simp only at hr
    cases hq : new.all oneC <;> rw [hq] at hr
    · simp [decR] at hr
    · simp only [cond_true] at hr
      cases hR : appR h e (tyS sz bytes .nilFunc) (.slice s.base s.len s.cap) new x.len with
      | none => rw [hR] at hr; simp [decR] at hr
      | some R =>
        rw [hR] at hr
        have hb := appR_base (s := s) hR
        cases R with
        | val v g =>
          simp only [decR] at hr
          split at hr
          · rename_i y hy
            cases hr
            cases v with
            | slice b l c =>
              have hy : some (⟨b, l, c⟩ : Sl) = some s' := hy
              cases hy
              simp only at ha'
              subst ha'
              exact .inr hb
            | _ => first | (cases (show (none : Option Sl) = some s' from hy)) | (simp [decV, decL, slY, Z.dec, asSl] at hy)
          · simp at hr
        | new ob mk =>
          simp only [decR] at hr
          split at hr
          · rename_i y hy
            cases hr
            cases hm : mk h.size with
            | slice b l c =>
              rw [hm] at hy
              have hy : some (⟨b, l, c⟩ : Sl) = some s' := hy
              cases hy
              simp only at ha'
              subst ha'
              exact .inl (hb _ _ _ hm)
            | _ => rw [hm] at hy; first | (cases (show (none : Option Sl) = some s' from hy)) | (simp [decV, decL, slY, Z.dec, asSl] at hy)
          · simp at hr
        | skip h2 => simp [decR] at hr
        | call f2 v2 => simp [decR] at hr
/-- an append, all but its own row as it was -/
theorem up_app {e sz bytes : Nat} {h : H} {s x : Sl} {s' : Sl} {h' : H} (hr : appT e sz bytes h s x = some (s', h')) (k : KP h h') : UP (fun A => ∃ a, s.base = some a ∧ a.block = A) h h' :=
  ⟨k.size, k.nro, k.wf, fun A hA hn => appT_same hr A hA fun a ha e => hn ⟨a, ha, e⟩, k.st⟩
end Go.Abs
/- A slice of calls (structs of 4 whole numbers and a slice of bytes) as a parameter. -/
set_option linter.unusedVariables false
set_option linter.unusedSimpArgs false
namespace Go.Abs
open Go Go.ChangeShapes Go.WideShapes Go.RowKit
structure CallD4 where
  i0 : Int
  i1 : Int
  i2 : Int
  i3 : Int
  l : Part
def IsByts4 (W : World) (y : Part) : Prop := IsRow .u8 W y.1 y.2.1 y.2.2.1 y.2.2.2 ∧ y.2.1 * 1 ≤ 140737488351232
def cellsD4 (y : CallD4) : List Value := [.int .i64 y.i0, .int .i64 y.i1, .int .i64 y.i2, .int .i64 y.i3, .slice y.l.1 y.l.2.1 y.l.2.2.1]
def IsRowD4 (W : World) (a : Option Addr) (len cap : Nat) (ys : List CallD4) : Prop :=
  (a = none ∧ len = 0 ∧ cap = 0 ∧ ys = []) ∨
  ∃ x, a = some x ∧ len ≤ cap ∧ cap ≤ maxLen ∧ ys.length = len ∧ ∀ i y, ys[i]? = some y → W.cells? 0 (x.add (i * 5)) 5 = some (cellsD4 y) ∧ IsByts4 W y.l
theorem listD4 {cs : List Value} {v0 v1 v2 v3 v4 : Value} (hl : cs.length = 5) (h0 : cs[0]? = some v0) (h1 : cs[1]? = some v1) (h2 : cs[2]? = some v2) (h3 : cs[3]? = some v3) (h4 : cs[4]? = some v4) : cs = [v0, v1, v2, v3, v4] := by
  match cs, hl with
  | [a0, a1, a2, a3, a4], _ => simp at h0 h1 h2 h3 h4; simp_all
abbrev fldsD4 (tI tS : TypeId) : List (TypeId × Nat) := [(tI, 0), (tI, 1), (tI, 2), (tI, 3), (tS, 4)]
theorem isRowD4_of {H : Type} {enc : TypeId × Value → H} {P : Program} {W : World} {t e tI tU tS : TypeId} {fs : Array Field} {a : Option Addr} {len cap : Nat} {d : DataW H} {ps : List MemPlace} {ts : List TypeId} {ds : List (DataW H)} {j : Nat}
    (hsz : (DataW.weightsEach P ts ds).all (· ≤ reachBytes) = true) (ht : ts[j]? = some t) (hd : ds[j]? = some d)
    (hu : P.underlying t = some (.slice e)) (he : P.underlying e = some (.struct fs)) (hF : fs.toList.map (fun f => (f.type, f.offset)) = fldsD4 tI tS)
    (hc : P.cellsOf e = 5) (hB : P.bytesOf e = 56) (hI : P.underlying tI = some (.int .i64)) (cI : P.cellsOf tI = 1) (bI : P.bytesOf tI = 8) (hU : P.underlying tU = some (.int .u8)) (cU : P.cellsOf tU = 1) (bU : P.bytesOf tU = 1) (hS : P.underlying tS = some (.slice tU)) (cS : P.cellsOf tS = 1)
    (h : DataW.Trod enc P W 0 (fun _ => true) true t (.slice a len cap) d ps) : ∃ ys, IsRowD4 W a len cap ys ∧ len * 56 ≤ 140737488351232 := by
  obtain ⟨fuel, hf⟩ := h
  rcases DataW.trod_slice hu hf with ⟨hcs, _⟩ | ⟨x, l, c, elems, rest, n, rfl, hcs, hx, _, hl, hm, hlen, hel, hsp, _⟩
  · simp [Value.cells] at hcs
    obtain ⟨rfl, rfl, rfl⟩ := hcs
    exact ⟨[], .inl ⟨rfl, rfl, rfl, rfl⟩, by simp⟩
  · simp [Value.cells] at hcs
    obtain ⟨rfl, rfl, rfl⟩ := hcs
    obtain ⟨hx1, _⟩ := Prod.mk.inj hx
    subst hx1
    have z := sized_slice hsz ht hd hu
    rw [hB] at z
    have hz : (reachBytes : Nat) = 140737488351232 := by decide
    simp only [List.length_map] at z
    have fget : ∀ (i : Nat) (p : TypeId × Nat), (fldsD4 tI tS)[i]? = some p → ∃ f : Field, fs[i]? = some f ∧ f.type = p.1 ∧ f.offset = p.2 := by
      intro i p hp
      rw [← hF, List.getElem?_map, Option.map_eq_some_iff] at hp
      obtain ⟨f, h1, rfl⟩ := hp
      exact ⟨f, by simpa using h1, rfl, rfl⟩
    have fsz : fs.size = 5 := by have := congrArg List.length hF; simpa using this
    have each : ∀ i, i < len → ∃ y : CallD4, W.cells? 0 (x.add (i * 5)) 5 = some (cellsD4 y) ∧ IsByts4 W y.l := by
      intro i hi
      have h1 := hel i hi
      obtain ⟨el, hel1⟩ : ∃ el, elems[i]? = some el := ⟨elems[i]'(by omega), List.getElem?_eq_getElem (by omega)⟩
      rw [hel1, hc, Option.bind_eq_some_iff] at h1
      obtain ⟨cs', h2, h3⟩ := h1
      have hw : (DataW.weightsEach P [e] [el.1]).all (· ≤ reachBytes) = true := by
        rw [List.all_eq_true]
        intro m hm'
        refine List.all_eq_true.1 hsz m (DataW.weights_mem_each ht hd m ?_)
        simp only [DataW.weights, hu, List.mem_cons, List.mem_append]
        refine .inr (.inl (weights_all (d := el.1) (List.mem_map.2 ⟨el, List.mem_of_getElem? hel1, rfl⟩) m ?_))
        simpa [DataW.weightsEach] using hm'
      obtain ⟨xs, n', rfl, rfl, hl9, hxl, hxf⟩ := DataW.trod_struct he h3
      rw [hc] at hl9
      rw [fsz] at hxl
      have hw' : (DataW.weightsEach P (fs.toList.map (·.type)) (xs.map (·.1))).all (· ≤ reachBytes) = true := by
        simpa [DataW.weightsEach, DataW.weights, he] using hw
      have fld : ∀ (i : Nat) (p : TypeId × Nat), (fldsD4 tI tS)[i]? = some p → ∃ y, xs[i]? = some y ∧ DataW.trod enc P W 0 (fun _ => true) true n' p.1 ((cs'.drop p.2).take (P.cellsOf p.1)) = some y := by
        intro i p hp
        obtain ⟨f, h1, h2, h3⟩ := fget i p hp
        have hi9 : i < 5 := (List.getElem?_eq_some_iff.1 hp).1
        have := hxf i f h1
        rw [h2, h3] at this
        exact ⟨xs[i]'(by omega), List.getElem?_eq_getElem (by omega), by rw [this]; exact List.getElem?_eq_getElem (by omega)⟩
      have int : ∀ (i : Nat), (fldsD4 tI tS)[i]? = some (tI, i) → ∃ m : Int, cs'[i]? = some (.int .i64 m) := by
        intro i hp
        obtain ⟨y, _, hy⟩ := fld i _ hp
        rw [cI] at hy
        obtain ⟨m, hm, _⟩ := DataW.trod_int hI hy
        exact ⟨m, one_of_take hm⟩
      obtain ⟨m0, c0⟩ := int 0 rfl
      obtain ⟨m1, c1⟩ := int 1 rfl
      obtain ⟨m2, c2⟩ := int 2 rfl
      obtain ⟨m3, c3⟩ := int 3 rfl
      have tsj : ∀ (i : Nat) (p : TypeId × Nat), (fldsD4 tI tS)[i]? = some p → (fs.toList.map (·.type))[i]? = some p.1 := by
        intro i p hp
        obtain ⟨f, h1, h2, _⟩ := fget i p hp
        rw [List.getElem?_map, Option.map_eq_some_iff]
        exact ⟨f, by simpa using h1, h2⟩
      obtain ⟨y8, hx8, hy8⟩ := fld 4 (tS, 4) rfl
      rw [cS] at hy8
      obtain ⟨p8, hp8, hr8, hs8⟩ := isPart_of (j := 4) hw' (tsj 4 (tS, 4) rfl) (by rw [List.getElem?_map, hx8]; rfl) hS hU cU bU hy8
      refine ⟨⟨m0, m1, m2, m3, p8⟩, ?_, hr8, hs8⟩
      rw [h2]
      exact congrArg some (listD4 hl9 c0 c1 c2 c3 (one_of_take hp8))
    have hf : ∃ f : Nat → CallD4, ∀ i, i < len → W.cells? 0 (x.add (i * 5)) 5 = some (cellsD4 (f i)) ∧ IsByts4 W (f i).l :=
      ⟨fun i => if hi : i < len then Classical.choose (each i hi) else ⟨0, 0, 0, 0, (none, 0, 0, [])⟩, fun i hi => by
        simp only [dif_pos hi]; exact Classical.choose_spec (each i hi)⟩
    obtain ⟨f, hf⟩ := hf
    refine ⟨(List.range len).map f, .inr ⟨x, rfl, hl, hm, by simp, fun i y hy => ?_⟩, by omega⟩
    rw [List.getElem?_map, Option.map_eq_some_iff] at hy
    obtain ⟨k, hk, rfl⟩ := hy
    obtain ⟨hk1, hk2⟩ := List.getElem?_eq_some_iff.1 hk
    rw [List.getElem_range] at hk2
    subst hk2
    exact hf i (by simpa using hk1)
theorem isRowD4_vr {W : World} {a : Option Addr} {len cap : Nat} {ys : List CallD4} (h : IsRowD4 W a len cap ys) : VR (impR W) (encSl (argSl a len)) (.slice a len cap) := by
  rcases h with ⟨rfl, rfl, rfl, rfl⟩ | ⟨x, rfl, h1, h2, h3, h4⟩
  · exact .slice0
  · refine .slice _ _ _ _ _ ?_
    show SR _ _ len x cap (capK ANY)
    rw [capK_ANY]
    refine ⟨h1, ?_⟩
    rcases Nat.eq_zero_or_pos len with h0 | h0
    · exact .inl h0
    · right
      have := ((h4 0 (ys[0]'(by omega)) (List.getElem?_eq_getElem (by omega))).1)
      have := (World.cells?_some this).2.2 0 (by omega)
      rw [show (x.add (0 * 5)).add 0 = x by simp [Addr.add]] at this
      exact okA_ar (okA_of_cell this)
theorem isRowD4_len {W : World} {a : Option Addr} {len cap : Nat} {ys : List CallD4} (h : IsRowD4 W a len cap ys) : ys.length = len := by
  rcases h with ⟨_, rfl, _, rfl⟩ | ⟨x, _, _, _, h3, _⟩
  · rfl
  · exact h3
theorem isRowD4_each {W : World} {a : Option Addr} {len cap : Nat} {ys : List CallD4} (h : IsRowD4 W a len cap ys) : ∀ y ∈ ys, IsByts4 W y.l := by
  rcases h with ⟨_, _, _, rfl⟩ | ⟨x, _, _, _, _, h4⟩
  · intro y hy; simp at hy
  · intro y hy
    obtain ⟨i, hi⟩ := List.getElem?_of_mem hy
    exact (h4 i y hi).2
/-! what is read of it -/
abbrev F5 := Int × Int × Int × Int × Sl
def f5L (x : F5) : List Value := [.int .i64 x.1, .int .i64 x.2.1, .int .i64 x.2.2.1, .int .i64 x.2.2.2.1, encSl x.2.2.2.2]
def csD4 : List F5 → List Value
  | [] => []
  | x :: xs => f5L x ++ csD4 xs
theorem csD4_length : ∀ xs : List F5, (csD4 xs).length = xs.length * 5
  | [] => rfl
  | x :: xs => by simp [csD4, f5L, csD4_length xs]; omega
theorem csD4_get : ∀ (xs : List F5) (q : Nat) (r : Nat), r < 5 → (csD4 xs)[q * 5 + r]? = (xs[q]?).bind fun x => (f5L x)[r]?
  | [], q, r, _ => by simp [csD4]
  | x :: xs, 0, r, hr => by
    simp only [csD4]
    rw [List.getElem?_append_left (by simp [f5L]; omega)]
    simp
  | x :: xs, q + 1, r, hr => by
    simp only [csD4]
    rw [List.getElem?_append_right (by simp [f5L]; omega)]
    have : (q + 1) * 5 + r - (f5L x).length = q * 5 + r := by simp [f5L]; omega
    rw [this, csD4_get xs q r hr]
    simp
def callD4 (y : CallD4) : F5 := (y.i0, y.i1, y.i2, y.i3, argSl y.l.1 y.l.2.1)
theorem callD4_abs {W : World} {y : CallD4} (h : IsByts4 W y.l) {r : Nat} {v : Value} (hv : (f5L (callD4 y))[r]? = some v) : ∃ u, (cellsD4 y)[r]? = some u ∧ absV W u = some v := by
  have hs := row_abs h.1
  have hr : r < 5 := (List.getElem?_eq_some_iff.1 hv).1
  rcases (by omega : r = 0 ∨ r = 1 ∨ r = 2 ∨ r = 3 ∨ r = 4) with rfl | rfl | rfl | rfl | rfl
  all_goals first
    | exact ⟨_, rfl, by rw [← hv]; rfl⟩
    | exact ⟨_, rfl, by rw [← hv]; exact hs⟩
theorem isRowD4_rd {W : World} {a : Option Addr} {len cap : Nat} {ys : List CallD4} (h : IsRowD4 W a len cap ys) : Rd 5 (impH W) (argSl a len) (csD4 (ys.map callD4)) := by
  have hl := isRowD4_len h
  rcases h with ⟨rfl, rfl, rfl, rfl⟩ | ⟨x, rfl, h1, h2, h3, h4⟩
  · exact rd_nil 5 _
  · refine ⟨by rw [csD4_length]; simp [argSl]; omega, fun hn => by simp [argSl] at hn, fun b hb i v hi => ?_, fun _ => by unfold CapOK argSl; simp only [capK_ANY]⟩
    simp only [argSl, Option.some.injEq] at hb
    subst hb
    obtain ⟨q, r, rfl, hr⟩ : ∃ q r, i = q * 5 + r ∧ r < 5 := ⟨i / 5, i % 5, by omega, Nat.mod_lt _ (by omega)⟩
    rw [csD4_get _ _ _ hr, List.getElem?_map, Option.bind_eq_some_iff] at hi
    obtain ⟨xx, hxx, hv⟩ := hi
    rw [Option.map_eq_some_iff] at hxx
    obtain ⟨y, hy, rfl⟩ := hxx
    obtain ⟨hc, hp⟩ := h4 q _ hy
    obtain ⟨u, hu, ha⟩ := callD4_abs hp hv
    have hcell := (World.cells?_some hc).2.2 r hr
    rw [hu] at hcell
    obtain ⟨g1, g2, g3⟩ := imp_ld hcell ha
    have hb : ((x.add (q * 5)).add r).block = x.block := by rw [addB, addB]
    have ho : ((x.add (q * 5)).add r).off = x.off + (q * 5 + r) := by rw [addO, addO, Nat.add_assoc]
    rw [hb] at g1 g3
    rw [ho] at g3
    exact ⟨g1, by simpa [add] using g3⟩
theorem isRowD4_in {W : World} {a : Option Addr} {len cap : Nat} {ys : List CallD4} (h : IsRowD4 W a len cap ys) : ∀ x ∈ ys.map callD4, ∃ l, RdB (impH W) x.2.2.2.2 l ∧ l.length ≤ 2 ^ 47 := by
  intro x hx
  obtain ⟨y, hy, rfl⟩ := List.mem_map.1 hx
  have h1 := isRowD4_each h y hy
  have h2 := h1.2
  have h3 := bytesIn_len y.l.2.2.2 y.l.2.1
  exact ⟨_, isRow_rdB h1.1, by omega⟩
end Go.Abs
