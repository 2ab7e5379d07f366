/- Lemmas about the typed texts (joined: S16 S18 SSend1). -/
import Derived.Test.YtaebjajbogedkaaG16
import Derived.Test.YtaebjajbogedkaaG15
import Derived.Test.YtaebjajbogedkaaG14
/- A slice of raw frames as a parameter: what is read of it. -/
set_option linter.unusedVariables false
set_option linter.unusedSimpArgs false
namespace Go.Abs
open Go Go.ChangeShapes Go.WideShapes Go.RowKit
theorem row_abs {k : IntKind} {W : World} {y : Part} (h : IsRow k W y.1 y.2.1 y.2.2.1 y.2.2.2) : absV W (.slice y.1 y.2.1 y.2.2.1) = some (encSl (argSl y.1 y.2.1)) := by
  obtain ⟨a, l, c, zs⟩ := y
  rcases h with ⟨h1, h2, h3, _⟩ | ⟨x, h1, h2, h3, h4, h5, _⟩
  · simp only at h1 h2 h3
    subst h1; subst h2; subst h3
    rfl
  · simp only at h1 h2 h3 h4 h5
    subst h1
    have hk : (l.ble c && (l.beq 0 || okA W x)) = true := by
      simp only [Bool.and_eq_true, Nat.ble_eq, Bool.or_eq_true, nbeq_eq]
      refine ⟨h2, ?_⟩
      rcases Nat.eq_zero_or_pos l with h0 | h0
      · exact .inl h0
      · right
        have := h5 0 (by omega)
        rw [show x.add 0 = x by simp [Addr.add]] at this
        exact okA_of_cell this
    simp only [absV, hk, cond_true]
    rfl
theorem addB (x : Addr) (i : Nat) : (x.add i).block = x.block := by unfold Addr.add; split <;> rfl
theorem addO (x : Addr) (i : Nat) : (x.add i).off = x.off + i := by unfold Addr.add; split <;> simp_all
theorem isRowW_vr {W : World} {a : Option Addr} {len cap : Nat} {ys : List RawA} (h : IsRowW W a len cap ys) : VR (impR W) (encSl (argSl a len)) (.slice a len cap) := by
  rcases h with ⟨rfl, rfl, rfl, rfl⟩ | ⟨x, rfl, h1, h2, h3, h4⟩
  · exact .slice0
  · refine .slice _ _ _ _ _ ?_
    show SR _ _ len x cap (capK ANY)
    rw [capK_ANY]
    refine ⟨h1, ?_⟩
    rcases Nat.eq_zero_or_pos len with h0 | h0
    · exact .inl h0
    · right
      have := ((h4 0 (ys[0]'(by omega)) (List.getElem?_eq_getElem (by omega))).1)
      have := (World.cells?_some this).2.2 0 (by omega)
      rw [show (x.add (0 * 9)).add 0 = x by simp [Addr.add]] at this
      exact okA_ar (okA_of_cell this)
theorem isRowW_len {W : World} {a : Option Addr} {len cap : Nat} {ys : List RawA} (h : IsRowW W a len cap ys) : ys.length = len := by
  rcases h with ⟨_, rfl, _, rfl⟩ | ⟨x, _, _, _, h3, _⟩
  · rfl
  · exact h3
theorem isRowW_each {W : World} {a : Option Addr} {len cap : Nat} {ys : List RawA} (h : IsRowW W a len cap ys) : ∀ y ∈ ys, IsRaw W y := by
  rcases h with ⟨_, _, _, rfl⟩ | ⟨x, _, _, _, _, h4⟩
  · intro y hy; simp at hy
  · intro y hy
    obtain ⟨i, hi⟩ := List.getElem?_of_mem hy
    exact (h4 i y hi).2
end Go.Abs
namespace Go.Proofs.Ytaebjajbogedkaa.T
open Go Go.Abs Go.Proofs
def rawX (y : RawA) : F9 := (y.k, y.id, y.off, y.a, y.b, y.bend, y.fin, argSl y.data.1 y.data.2.1, argSl y.spans.1 y.spans.2.1)
def rawV (y : RawA) : RV := ⟨y.k, y.id, y.off, y.a, y.b, y.bend, y.fin, bytesIn (y.data.2.2.2.take y.data.2.1), y.spans.2.2.2.take y.spans.2.1⟩
theorem fsV_idx {xs : List F9} {i : Nat} {v : Value} (h : (fsV xs)[i]? = some v) : ∃ q r, i = q * 9 + r ∧ r < 9 ∧ q < xs.length ∧ (f9L (xs.getD q f90))[r]? = some v := by
  have hi := (List.getElem?_eq_some_iff.1 h).1
  rw [fsV_length] at hi
  refine ⟨i / 9, i % 9, by omega, Nat.mod_lt _ (by omega), by omega, ?_⟩
  rw [← fsV_get xs (i / 9) (by omega), List.getElem?_take_of_lt (Nat.mod_lt _ (by omega)), List.getElem?_drop, show i / 9 * 9 + i % 9 = i by omega]
  exact h
theorem raw_abs {W : World} {y : RawA} (h : IsRaw W y) {r : Nat} {v : Value} (hv : (f9L (rawX y))[r]? = some v) : ∃ u, (rawCells y)[r]? = some u ∧ absV W u = some v := by
  have hd := row_abs h.1.1
  have hs := row_abs h.2.1
  have hr : r < 9 := (List.getElem?_eq_some_iff.1 hv).1
  rcases (by omega : r = 0 ∨ r = 1 ∨ r = 2 ∨ r = 3 ∨ r = 4 ∨ r = 5 ∨ r = 6 ∨ r = 7 ∨ r = 8) with rfl | rfl | rfl | rfl | rfl | rfl | rfl | rfl | rfl
  all_goals first
    | exact ⟨_, rfl, by rw [← hv]; rfl⟩
    | exact ⟨_, rfl, by rw [← hv]; exact hd⟩
    | exact ⟨_, rfl, by rw [← hv]; exact hs⟩
theorem isRowW_rd {W : World} {a : Option Addr} {len cap : Nat} {ys : List RawA} (h : IsRowW W a len cap ys) : RdW (impH W) (argSl a len) (ys.map rawX) (ys.map rawV) := by
  have hl := isRowW_len h
  refine ⟨?_, ?_⟩
  · rcases h with ⟨rfl, rfl, rfl, rfl⟩ | ⟨x, rfl, h1, h2, h3, h4⟩
    · exact rd_nil 9 _
    · refine ⟨by rw [fsV_length]; simp [argSl]; omega, fun hn => by simp [argSl] at hn, fun b hb i v hi => ?_, fun _ => by unfold CapOK argSl; simp only [capK_ANY]⟩
      simp only [argSl, Option.some.injEq] at hb
      subst hb
      obtain ⟨q, r, rfl, hr, hq, hv⟩ := fsV_idx hi
      simp only [List.length_map] at hq
      have hy : ys[q]? = some (ys[q]'hq) := List.getElem?_eq_getElem hq
      obtain ⟨hc, hp⟩ := h4 q _ hy
      have he : (ys.map rawX).getD q f90 = rawX (ys[q]'hq) := by
        rw [List.getD_eq_getElem?_getD, List.getElem?_map, hy]; rfl
      rw [he] at hv
      obtain ⟨u, hu, ha⟩ := raw_abs hp hv
      have hcell := (World.cells?_some hc).2.2 r hr
      rw [hu] at hcell
      obtain ⟨g1, g2, g3⟩ := imp_ld hcell ha
      have hb : ((x.add (q * 9)).add r).block = x.block := by rw [addB, addB]
      have ho : ((x.add (q * 9)).add r).off = x.off + (q * 9 + r) := by rw [addO, addO, Nat.add_assoc]
      rw [hb] at g1 g3
      rw [ho] at g3
      exact ⟨g1, by simpa [add] using g3⟩
  · have he := isRowW_each h
    clear h hl
    induction ys with
    | nil => trivial
    | cons y ys ih =>
      have hy := he y (by simp)
      exact ⟨⟨⟨rfl, rfl, rfl, rfl, rfl, rfl, rfl⟩, isRow_rdB hy.1.1, isRow_rd hy.2.1⟩, ih fun z hz => he z (by simp [hz])⟩
theorem isRowW_sz {W : World} {a : Option Addr} {len cap : Nat} {ys : List RawA} (h : IsRowW W a len cap ys) : WzOK (ys.map rawV) := by
  intro v hv
  obtain ⟨y, hy, rfl⟩ := List.mem_map.1 hv
  have h1 := isRowW_each h y hy
  have h2 := h1.1.2
  have h3 := h1.2.2
  have h4 := bytesIn_len y.data.2.2.2 y.data.2.1
  have h5 := ints_len y.spans.2.2.2 y.spans.2.1
  exact ⟨by show (bytesIn (y.data.2.2.2.take y.data.2.1)).length ≤ _; omega, by show (y.spans.2.2.2.take y.spans.2.1).length ≤ _; omega⟩
end Go.Proofs.Ytaebjajbogedkaa.T
/- A slice of calls (structs of 4 whole numbers and a slice of bytes) as a parameter. -/
set_option linter.unusedVariables false
set_option linter.unusedSimpArgs false
namespace Go.Abs
open Go Go.ChangeShapes Go.WideShapes Go.RowKit
structure CallD4 where
  i0 : Int
  i1 : Int
  i2 : Int
  i3 : Int
  l : Part
def IsByts4 (W : World) (y : Part) : Prop := IsRow .u8 W y.1 y.2.1 y.2.2.1 y.2.2.2 ∧ y.2.1 * 1 ≤ 140737488351232
def cellsD4 (y : CallD4) : List Value := [.int .i64 y.i0, .int .i64 y.i1, .int .i64 y.i2, .int .i64 y.i3, .slice y.l.1 y.l.2.1 y.l.2.2.1]
def IsRowD4 (W : World) (a : Option Addr) (len cap : Nat) (ys : List CallD4) : Prop :=
  (a = none ∧ len = 0 ∧ cap = 0 ∧ ys = []) ∨
  ∃ x, a = some x ∧ len ≤ cap ∧ cap ≤ maxLen ∧ ys.length = len ∧ ∀ i y, ys[i]? = some y → W.cells? 0 (x.add (i * 5)) 5 = some (cellsD4 y) ∧ IsByts4 W y.l
theorem listD4 {cs : List Value} {v0 v1 v2 v3 v4 : Value} (hl : cs.length = 5) (h0 : cs[0]? = some v0) (h1 : cs[1]? = some v1) (h2 : cs[2]? = some v2) (h3 : cs[3]? = some v3) (h4 : cs[4]? = some v4) : cs = [v0, v1, v2, v3, v4] := by
  match cs, hl with
  | [a0, a1, a2, a3, a4], _ => simp at h0 h1 h2 h3 h4; simp_all
abbrev fldsD4 (tI tS : TypeId) : List (TypeId × Nat) := [(tI, 0), (tI, 1), (tI, 2), (tI, 3), (tS, 4)]
theorem isRowD4_of {H : Type} {enc : TypeId × Value → H} {P : Program} {W : World} {t e tI tU tS : TypeId} {fs : Array Field} {a : Option Addr} {len cap : Nat} {d : DataW H} {ps : List MemPlace} {ts : List TypeId} {ds : List (DataW H)} {j : Nat}
    (hsz : (DataW.weightsEach P ts ds).all (· ≤ reachBytes) = true) (ht : ts[j]? = some t) (hd : ds[j]? = some d)
    (hu : P.underlying t = some (.slice e)) (he : P.underlying e = some (.struct fs)) (hF : fs.toList.map (fun f => (f.type, f.offset)) = fldsD4 tI tS)
    (hc : P.cellsOf e = 5) (hB : P.bytesOf e = 56) (hI : P.underlying tI = some (.int .i64)) (cI : P.cellsOf tI = 1) (bI : P.bytesOf tI = 8) (hU : P.underlying tU = some (.int .u8)) (cU : P.cellsOf tU = 1) (bU : P.bytesOf tU = 1) (hS : P.underlying tS = some (.slice tU)) (cS : P.cellsOf tS = 1)
    (h : DataW.Trod enc P W 0 (fun _ => true) true t (.slice a len cap) d ps) : ∃ ys, IsRowD4 W a len cap ys ∧ len * 56 ≤ 140737488351232 := by
  obtain ⟨fuel, hf⟩ := h
  rcases DataW.trod_slice hu hf with ⟨hcs, _⟩ | ⟨x, l, c, elems, rest, n, rfl, hcs, hx, _, hl, hm, hlen, hel, hsp, _⟩
  · simp [Value.cells] at hcs
    obtain ⟨rfl, rfl, rfl⟩ := hcs
    exact ⟨[], .inl ⟨rfl, rfl, rfl, rfl⟩, by simp⟩
  · simp [Value.cells] at hcs
    obtain ⟨rfl, rfl, rfl⟩ := hcs
    obtain ⟨hx1, _⟩ := Prod.mk.inj hx
    subst hx1
    have z := sized_slice hsz ht hd hu
    rw [hB] at z
    have hz : (reachBytes : Nat) = 140737488351232 := by decide
    simp only [List.length_map] at z
    have fget : ∀ (i : Nat) (p : TypeId × Nat), (fldsD4 tI tS)[i]? = some p → ∃ f : Field, fs[i]? = some f ∧ f.type = p.1 ∧ f.offset = p.2 := by
      intro i p hp
      rw [← hF, List.getElem?_map, Option.map_eq_some_iff] at hp
      obtain ⟨f, h1, rfl⟩ := hp
      exact ⟨f, by simpa using h1, rfl, rfl⟩
    have fsz : fs.size = 5 := by have := congrArg List.length hF; simpa using this
    have each : ∀ i, i < len → ∃ y : CallD4, W.cells? 0 (x.add (i * 5)) 5 = some (cellsD4 y) ∧ IsByts4 W y.l := by
      intro i hi
      have h1 := hel i hi
      obtain ⟨el, hel1⟩ : ∃ el, elems[i]? = some el := ⟨elems[i]'(by omega), List.getElem?_eq_getElem (by omega)⟩
      rw [hel1, hc, Option.bind_eq_some_iff] at h1
      obtain ⟨cs', h2, h3⟩ := h1
      have hw : (DataW.weightsEach P [e] [el.1]).all (· ≤ reachBytes) = true := by
        rw [List.all_eq_true]
        intro m hm'
        refine List.all_eq_true.1 hsz m (DataW.weights_mem_each ht hd m ?_)
        simp only [DataW.weights, hu, List.mem_cons, List.mem_append]
        refine .inr (.inl (weights_all (d := el.1) (List.mem_map.2 ⟨el, List.mem_of_getElem? hel1, rfl⟩) m ?_))
        simpa [DataW.weightsEach] using hm'
      obtain ⟨xs, n', rfl, rfl, hl9, hxl, hxf⟩ := DataW.trod_struct he h3
      rw [hc] at hl9
      rw [fsz] at hxl
      have hw' : (DataW.weightsEach P (fs.toList.map (·.type)) (xs.map (·.1))).all (· ≤ reachBytes) = true := by
        simpa [DataW.weightsEach, DataW.weights, he] using hw
      have fld : ∀ (i : Nat) (p : TypeId × Nat), (fldsD4 tI tS)[i]? = some p → ∃ y, xs[i]? = some y ∧ DataW.trod enc P W 0 (fun _ => true) true n' p.1 ((cs'.drop p.2).take (P.cellsOf p.1)) = some y := by
        intro i p hp
        obtain ⟨f, h1, h2, h3⟩ := fget i p hp
        have hi9 : i < 5 := (List.getElem?_eq_some_iff.1 hp).1
        have := hxf i f h1
        rw [h2, h3] at this
        exact ⟨xs[i]'(by omega), List.getElem?_eq_getElem (by omega), by rw [this]; exact List.getElem?_eq_getElem (by omega)⟩
      have int : ∀ (i : Nat), (fldsD4 tI tS)[i]? = some (tI, i) → ∃ m : Int, cs'[i]? = some (.int .i64 m) := by
        intro i hp
        obtain ⟨y, _, hy⟩ := fld i _ hp
        rw [cI] at hy
        obtain ⟨m, hm, _⟩ := DataW.trod_int hI hy
        exact ⟨m, one_of_take hm⟩
      obtain ⟨m0, c0⟩ := int 0 rfl
      obtain ⟨m1, c1⟩ := int 1 rfl
      obtain ⟨m2, c2⟩ := int 2 rfl
      obtain ⟨m3, c3⟩ := int 3 rfl
      have tsj : ∀ (i : Nat) (p : TypeId × Nat), (fldsD4 tI tS)[i]? = some p → (fs.toList.map (·.type))[i]? = some p.1 := by
        intro i p hp
        obtain ⟨f, h1, h2, _⟩ := fget i p hp
        rw [List.getElem?_map, Option.map_eq_some_iff]
        exact ⟨f, by simpa using h1, h2⟩
      obtain ⟨y8, hx8, hy8⟩ := fld 4 (tS, 4) rfl
      rw [cS] at hy8
      obtain ⟨p8, hp8, hr8, hs8⟩ := isPart_of (j := 4) hw' (tsj 4 (tS, 4) rfl) (by rw [List.getElem?_map, hx8]; rfl) hS hU cU bU hy8
      refine ⟨⟨m0, m1, m2, m3, p8⟩, ?_, hr8, hs8⟩
      rw [h2]
      exact congrArg some (listD4 hl9 c0 c1 c2 c3 (one_of_take hp8))
    have hf : ∃ f : Nat → CallD4, ∀ i, i < len → W.cells? 0 (x.add (i * 5)) 5 = some (cellsD4 (f i)) ∧ IsByts4 W (f i).l :=
      ⟨fun i => if hi : i < len then Classical.choose (each i hi) else ⟨0, 0, 0, 0, (none, 0, 0, [])⟩, fun i hi => by
        simp only [dif_pos hi]; exact Classical.choose_spec (each i hi)⟩
    obtain ⟨f, hf⟩ := hf
    refine ⟨(List.range len).map f, .inr ⟨x, rfl, hl, hm, by simp, fun i y hy => ?_⟩, by omega⟩
    rw [List.getElem?_map, Option.map_eq_some_iff] at hy
    obtain ⟨k, hk, rfl⟩ := hy
    obtain ⟨hk1, hk2⟩ := List.getElem?_eq_some_iff.1 hk
    rw [List.getElem_range] at hk2
    subst hk2
    exact hf i (by simpa using hk1)
theorem isRowD4_vr {W : World} {a : Option Addr} {len cap : Nat} {ys : List CallD4} (h : IsRowD4 W a len cap ys) : VR (impR W) (encSl (argSl a len)) (.slice a len cap) := by
  rcases h with ⟨rfl, rfl, rfl, rfl⟩ | ⟨x, rfl, h1, h2, h3, h4⟩
  · exact .slice0
  · refine .slice _ _ _ _ _ ?_
    show SR _ _ len x cap (capK ANY)
    rw [capK_ANY]
    refine ⟨h1, ?_⟩
    rcases Nat.eq_zero_or_pos len with h0 | h0
    · exact .inl h0
    · right
      have := ((h4 0 (ys[0]'(by omega)) (List.getElem?_eq_getElem (by omega))).1)
      have := (World.cells?_some this).2.2 0 (by omega)
      rw [show (x.add (0 * 5)).add 0 = x by simp [Addr.add]] at this
      exact okA_ar (okA_of_cell this)
theorem isRowD4_len {W : World} {a : Option Addr} {len cap : Nat} {ys : List CallD4} (h : IsRowD4 W a len cap ys) : ys.length = len := by
  rcases h with ⟨_, rfl, _, rfl⟩ | ⟨x, _, _, _, h3, _⟩
  · rfl
  · exact h3
theorem isRowD4_each {W : World} {a : Option Addr} {len cap : Nat} {ys : List CallD4} (h : IsRowD4 W a len cap ys) : ∀ y ∈ ys, IsByts4 W y.l := by
  rcases h with ⟨_, _, _, rfl⟩ | ⟨x, _, _, _, _, h4⟩
  · intro y hy; simp at hy
  · intro y hy
    obtain ⟨i, hi⟩ := List.getElem?_of_mem hy
    exact (h4 i y hi).2
/-! what is read of it -/
abbrev F5 := Int × Int × Int × Int × Sl
def f5L (x : F5) : List Value := [.int .i64 x.1, .int .i64 x.2.1, .int .i64 x.2.2.1, .int .i64 x.2.2.2.1, encSl x.2.2.2.2]
def csD4 : List F5 → List Value
  | [] => []
  | x :: xs => f5L x ++ csD4 xs
theorem csD4_length : ∀ xs : List F5, (csD4 xs).length = xs.length * 5
  | [] => rfl
  | x :: xs => by simp [csD4, f5L, csD4_length xs]; omega
theorem csD4_get : ∀ (xs : List F5) (q : Nat) (r : Nat), r < 5 → (csD4 xs)[q * 5 + r]? = (xs[q]?).bind fun x => (f5L x)[r]?
  | [], q, r, _ => by simp [csD4]
  | x :: xs, 0, r, hr => by
    simp only [csD4]
    rw [List.getElem?_append_left (by simp [f5L]; omega)]
    simp
  | x :: xs, q + 1, r, hr => by
    simp only [csD4]
    rw [List.getElem?_append_right (by simp [f5L]; omega)]
    have : (q + 1) * 5 + r - (f5L x).length = q * 5 + r := by simp [f5L]; omega
    rw [this, csD4_get xs q r hr]
    simp
def callD4 (y : CallD4) : F5 := (y.i0, y.i1, y.i2, y.i3, argSl y.l.1 y.l.2.1)
theorem callD4_abs {W : World} {y : CallD4} (h : IsByts4 W y.l) {r : Nat} {v : Value} (hv : (f5L (callD4 y))[r]? = some v) : ∃ u, (cellsD4 y)[r]? = some u ∧ absV W u = some v := by
  have hs := row_abs h.1
  have hr : r < 5 := (List.getElem?_eq_some_iff.1 hv).1
  rcases (by omega : r = 0 ∨ r = 1 ∨ r = 2 ∨ r = 3 ∨ r = 4) with rfl | rfl | rfl | rfl | rfl
  all_goals first
    | exact ⟨_, rfl, by rw [← hv]; rfl⟩
    | exact ⟨_, rfl, by rw [← hv]; exact hs⟩
theorem isRowD4_rd {W : World} {a : Option Addr} {len cap : Nat} {ys : List CallD4} (h : IsRowD4 W a len cap ys) : Rd 5 (impH W) (argSl a len) (csD4 (ys.map callD4)) := by
  have hl := isRowD4_len h
  rcases h with ⟨rfl, rfl, rfl, rfl⟩ | ⟨x, rfl, h1, h2, h3, h4⟩
  · exact rd_nil 5 _
  · refine ⟨by rw [csD4_length]; simp [argSl]; omega, fun hn => by simp [argSl] at hn, fun b hb i v hi => ?_, fun _ => by unfold CapOK argSl; simp only [capK_ANY]⟩
    simp only [argSl, Option.some.injEq] at hb
    subst hb
    obtain ⟨q, r, rfl, hr⟩ : ∃ q r, i = q * 5 + r ∧ r < 5 := ⟨i / 5, i % 5, by omega, Nat.mod_lt _ (by omega)⟩
    rw [csD4_get _ _ _ hr, List.getElem?_map, Option.bind_eq_some_iff] at hi
    obtain ⟨xx, hxx, hv⟩ := hi
    rw [Option.map_eq_some_iff] at hxx
    obtain ⟨y, hy, rfl⟩ := hxx
    obtain ⟨hc, hp⟩ := h4 q _ hy
    obtain ⟨u, hu, ha⟩ := callD4_abs hp hv
    have hcell := (World.cells?_some hc).2.2 r hr
    rw [hu] at hcell
    obtain ⟨g1, g2, g3⟩ := imp_ld hcell ha
    have hb : ((x.add (q * 5)).add r).block = x.block := by rw [addB, addB]
    have ho : ((x.add (q * 5)).add r).off = x.off + (q * 5 + r) := by rw [addO, addO, Nat.add_assoc]
    rw [hb] at g1 g3
    rw [ho] at g3
    exact ⟨g1, by simpa [add] using g3⟩
theorem isRowD4_in {W : World} {a : Option Addr} {len cap : Nat} {ys : List CallD4} (h : IsRowD4 W a len cap ys) : ∀ x ∈ ys.map callD4, ∃ l, RdB (impH W) x.2.2.2.2 l ∧ l.length ≤ 2 ^ 47 := by
  intro x hx
  obtain ⟨y, hy, rfl⟩ := List.mem_map.1 hx
  have h1 := isRowD4_each h y hy
  have h2 := h1.2
  have h3 := bytesIn_len y.l.2.2.2 y.l.2.1
  exact ⟨_, isRow_rdB h1.1, by omega⟩
end Go.Abs
-- SEAT c
/- Chapter 13's stream, the writing side, over the typed texts: its row; the small functions. -/
set_option linter.unusedVariables false
set_option linter.unusedSimpArgs false
namespace Go.Proofs.Ytaebjajbogedkaa.T
open Go Go.Abs Go.Proofs
structure SS where
  limit : Int
  used : Int
  id : Int
  b : List UInt8
  lost : List Run
  came : List Run
  finished : Bool
  reset : Bool
  ft : Bool
  fd : Bool
  fc : Bool
  tt : Bool
  td : Bool
  tc : Bool
  code : Int
  sure : Int
def ssL (x : SS) (sb sl sc : Sl) : List Value := [.int .i64 x.limit, .int .i64 x.used, .int .i64 x.id, encSl sb, encSl sl, encSl sc, .bool x.finished, .bool x.reset, .bool x.ft, .bool x.fd, .bool x.fc, .bool x.tt, .bool x.td, .bool x.tc, .int .i64 x.code, .int .i64 x.sure]
/-- a stream's row at p, and what lies behind it; all of it at n0 or behind -/
structure StrA (n0 : Nat) (h : H) (p : Nat) (x : SS) (sb sl sc : Sl) : Prop where
  box : Box h p (ssL x sb sl sc)
  rb : RdB h sb x.b
  rl : RdR h sl x.lost
  rc : RdR h sc x.came
  nb : ∀ a, sb.base = some a → a.block ≠ p
  nl : ∀ a, sl.base = some a → a.block ≠ p
  nc : ∀ a, sc.base = some a → a.block ≠ p
  p0 : n0 ≤ p
def Strm (n0 : Nat) (h : H) (p : Nat) (x : SS) : Prop := ∃ sb sl sc, StrA n0 h p x sb sl sc
section
variable {n0 : Nat} {h h1 : H} {p : Nat} {x : SS} {sb sl sc : Sl}
theorem StrA.kx (w : WF h) (y : EX h h1) (S : StrA n0 h p x sb sl sc) : StrA n0 h1 p x sb sl sc := ⟨S.box.kx y, RdB.ex y S.rb, S.rl.ex y, S.rc.ex y, S.nb, S.nl, S.nc, S.p0⟩
theorem Strm.kx (w : WF h) (y : EX h h1) (S : Strm n0 h p x) : Strm n0 h1 p x := let ⟨sb, sl, sc, A⟩ := S; ⟨sb, sl, sc, A.kx w y⟩
/-- what lies behind the row is written, what was read stays -/
theorem StrA.kp (w : WF h) (k : KP h h1) (u : UP (fun A => p + 1 ≤ A) h h1) (S : StrA n0 h p x sb sl sc) : StrA n0 h1 p x sb sl sc := ⟨S.box.up w u (by omega), RdB.mono S.rb k, S.rl.mono k, S.rc.mono k, S.nb, S.nl, S.nc, S.p0⟩
theorem StrA.str (S : StrA n0 h p x sb sl sc) : Strm n0 h p x := ⟨sb, sl, sc, S⟩
theorem StrA.ofBox {x' : SS} {S' : Nat → Prop} (w : WF h) (S : StrA n0 h p x sb sl sc) (B : Box h1 p (ssL x' sb sl sc)) (u : UP (· = p) h h1) (eb : x'.b = x.b) (el : x'.lost = x.lost) (ec : x'.came = x.came) : StrA n0 h1 p x' sb sl sc :=
  ⟨B, by rw [eb]; exact Rd.up S.rb u S.nb, by rw [el]; exact Rd.up S.rl u S.nl, by rw [ec]; exact Rd.up S.rc u S.nc, S.nb, S.nl, S.nc, S.p0⟩
theorem StrA.st {α : Type} {Q : α → Prop} {f : H → Option α} {i : Nat} {v : Value} (S : StrA n0 h p x sb sl sc) (w : WF h) (x' : SS) (hi : i < 16) (ho : oneC v = true) (e : (ssL x sb sl sc).set i v = ssL x' sb sl sc) (eb : x'.b = x.b) (el : x'.lost = x.lost) (ec : x'.came = x.came)
    (k : ∀ h', StrA n0 h' p x' sb sl sc → UP (· = p) h h' → WF h' → PO (f h') Q) : PO (bindO (Abs.st1 h (add ⟨p, 0, some 0⟩ i) v) f) Q := by
  refine PO.st1 S.box w (by simpa [ssL] using hi) ho fun h' B u z w' => k h' ?_ u w'
  rw [e] at B
  exact S.ofBox (S' := fun _ => False) w B u eb el ec
theorem StrA.lost (S : StrA n0 h p x sb sl sc) : SetAt h p 4 (ssL x sb sl sc) x.lost := ⟨⟨sl, rfl, S.rl, S.nl⟩, S.box⟩
theorem StrA.came (S : StrA n0 h p x sb sl sc) : SetAt h p 5 (ssL x sb sl sc) x.came := ⟨⟨sc, rfl, S.rc, S.nc⟩, S.box⟩
theorem encSl_inj {s t : Sl} (e : encSl s = encSl t) : s = t := by
  unfold encSl at e
  cases s; cases t; cases e; rfl
theorem StrA.setLost {v : Value} {l : List Run} (w : WF h) (S : StrA n0 h p x sb sl sc) (T : SetAt h1 p 4 ((ssL x sb sl sc).set 4 v) l) (u : UP (· = p) h h1) : ∃ sl', StrA n0 h1 p { x with lost := l } sb sl' sc := by
  obtain ⟨s, e, r, n⟩ := T.ex
  have e1 : v = encSl s := by simpa [ssL] using e
  subst e1
  exact ⟨s, T.box, Rd.up S.rb u S.nb, r, Rd.up S.rc u S.nc, S.nb, n, S.nc, S.p0⟩
theorem StrA.setCame {v : Value} {l : List Run} (w : WF h) (S : StrA n0 h p x sb sl sc) (T : SetAt h1 p 5 ((ssL x sb sl sc).set 5 v) l) (u : UP (· = p) h h1) : ∃ sc', StrA n0 h1 p { x with came := l } sb sl sc' := by
  obtain ⟨s, e, r, n⟩ := T.ex
  have e1 : v = encSl s := by simpa [ssL] using e
  subst e1
  exact ⟨s, T.box, Rd.up S.rb u S.nb, Rd.up S.rl u S.nl, r, S.nb, S.nl, n, S.p0⟩
end
def ss0 (id : Int) : SS := ⟨400, 0, id, [], [], [], false, false, false, false, false, false, false, false, 0, 0⟩
theorem SNew_f {h : H} (w : WF h) (id : Int) : PO (send_New id h) (fun (a, h1) => a = some ⟨h.size, 0, some 0⟩ ∧ StrA h.size h1 h.size (ss0 id) ⟨none, 0, 0⟩ ⟨none, 0, 0⟩ ⟨none, 0, 0⟩ ∧ EX h h1) := by
  unfold send_New
  refine PO.newB w fun h1 x1 B1 z1 w1 => .ret ⟨rfl, ⟨B1, rd_nil 1 h1, rd_nil 2 h1, rd_nil 2 h1, fun a ha => by simp at ha, fun a ha => by simp at ha, fun a ha => by simp at ha, Nat.le_refl _⟩, x1⟩
def leftV (x : SS) : Int := max 0 (x.limit - x.used)
/-- numbers that may be, for the wraps -/
structure SRng (x : SS) : Prop where
  l0 : 0 ≤ x.limit ∧ x.limit ≤ 4611686018427387903
  u0 : 0 ≤ x.used ∧ x.used ≤ 4611686018427387903
  bl : x.b.length ≤ 4000
theorem Left_f {n0 : Nat} {h : H} {p : Nat} {x : SS} {sb sl sc : Sl} (S : StrA n0 h p x sb sl sc) (R : SRng x) : credit_Credit_Left (some ⟨p, 0, some 0⟩) h = some (leftV x, h) := by
  have := R.l0; have := R.u0
  unfold credit_Credit_Left
  rw [ptrK_some, S.box.ldI (i := 0) rfl, bindO_some, ptrK_some, S.box.ldI (i := 1) rfl, bindO_some, letO_eq, w64 (by omega) (by omega)]
  congr 2
  unfold leftV
  split <;> omega
theorem Use_f {n0 : Nat} {h : H} (w : WF h) {p : Nat} {x : SS} {sb sl sc : Sl} (S : StrA n0 h p x sb sl sc) (R : SRng x) {n : Int} (h0 : 0 ≤ n) (h1 : n ≤ leftV x) :
    PO (credit_Credit_Use (some ⟨p, 0, some 0⟩) n h) (fun (_, h') => StrA n0 h' p { x with used := x.used + n } sb sl sc ∧ UP (· = p) h h') := by
  have := R.l0; have := R.u0
  unfold credit_Credit_Use P.credit_Credit_Use
  have hl : leftV x ≤ 4611686018427387903 := by unfold leftV; omega
  refine PO.join (fun q => q = ((some ⟨p, 0, some 0⟩, (n, false)), h)) ?_ ?_
  · refine PO.condD (fun hc => absurd hc (by omega)) fun _ => PO.callE (Left_f S R) (.retL ?_)
    rw [decide_eq_false (by omega)]
  · rintro _ rfl
    refine PO.condF (PO.ptr (PO.ldI (i := 1) S.box rfl (PO.ptr ?_)))
    rw [w64 (by omega) (by omega)]
    exact S.st w { x with used := x.used + n } (by omega) rfl rfl rfl rfl rfl fun h' S' u w' => .ret ⟨S', u⟩
def raiseV (n : Int) (x : SS) : SS := if n ≤ x.limit ∨ n > 4611686018427387903 then x else { x with limit := n }
theorem Raise_f {n0 : Nat} {h : H} (w : WF h) {p : Nat} {x : SS} {sb sl sc : Sl} (S : StrA n0 h p x sb sl sc) (n : Int) :
    PO (credit_Credit_Raise (some ⟨p, 0, some 0⟩) n h) (fun (_, h') => StrA n0 h' p (raiseV n x) sb sl sc ∧ UP (· = p) h h') := by
  unfold credit_Credit_Raise raiseV
  refine PO.join (fun q => q = ((some ⟨p, 0, some 0⟩, n), h) ∧ ¬ (n ≤ x.limit ∨ n > 4611686018427387903)) ?_ ?_
  · refine PO.ptr (PO.ldI (i := 0) S.box rfl (PO.condD (fun hc => .retR ?_) fun h1 => PO.condD (fun hc => .retR ?_) fun h2 => .retL ⟨rfl, by omega⟩))
    · rw [if_pos (.inl hc)]; exact ⟨S, UP.refl w⟩
    · rw [if_pos (.inr hc)]; exact ⟨S, UP.refl w⟩
  · rintro _ ⟨rfl, hn⟩
    rw [if_neg hn]
    exact PO.ptr (S.st w { x with limit := n } (by omega) rfl rfl rfl rfl rfl fun h' S' u w' => .ret ⟨S', u⟩)
def mayS (x : SS) : Int := if x.reset then x.sure else x.b.length
theorem StrA.blen {n0 : Nat} {h : H} {p : Nat} {x : SS} {sb sl sc : Sl} (S : StrA n0 h p x sb sl sc) : sb.len = x.b.length := RdB.len S.rb
theorem mayS_f {n0 : Nat} {h : H} {p : Nat} {x : SS} {sb sl sc : Sl} (S : StrA n0 h p x sb sl sc) : PO (send_Stream_may (some ⟨p, 0, some 0⟩) h) (fun (a, h') => a = mayS x ∧ h' = h) := by
  unfold send_Stream_may mayS
  refine PO.ptr (PO.ldB (i := 7) S.box rfl (PO.cond (fun hc => PO.ptr (PO.ldI (i := 15) S.box rfl (.ret ⟨?_, rfl⟩))) fun hc => PO.ptr (PO.ldL (i := 3) S.box rfl (.ret ⟨?_, rfl⟩))))
  · rw [hc]; rfl
  · rw [hc, S.blen]; rfl
/-! a frame of some bytes -/
def endsV (x : SS) (to : Int) : Bool := x.finished && !x.reset && decide (to = x.b.length)
def sfr (x : SS) (f t : Int) : FV := ⟨3, x.id, f, 0, 0, 0, endsV x t, (x.b.drop f.toNat).take (t.toNat - f.toNat), []⟩
end Go.Proofs.Ytaebjajbogedkaa.T
