/- Lemmas about the typed texts (joined: S15 S16 S17). -/
import Derived.Test.YthiccnmplgdheaaG14
import Derived.Test.YthiccnmplgdheaaG18
/- A slice of raw frames (structs of six whole numbers, a bool, a slice of bytes and a slice of whole numbers) as a parameter. -/
set_option linter.unusedVariables false
set_option linter.unusedSimpArgs false
namespace Go.Abs
open Go Go.ChangeShapes Go.WideShapes Go.RowKit
structure RawA where
  k : Int
  id : Int
  off : Int
  a : Int
  b : Int
  bend : Int
  fin : Bool
  data : Part
  spans : Part
def IsInts (W : World) (y : Part) : Prop := IsRow .i64 W y.1 y.2.1 y.2.2.1 y.2.2.2 ∧ y.2.1 * 8 ≤ 140737488351232
def rawCells (y : RawA) : List Value := [.int .i64 y.k, .int .i64 y.id, .int .i64 y.off, .int .i64 y.a, .int .i64 y.b, .int .i64 y.bend, .bool y.fin, .slice y.data.1 y.data.2.1 y.data.2.2.1, .slice y.spans.1 y.spans.2.1 y.spans.2.2.1]
def IsRaw (W : World) (y : RawA) : Prop := IsPart W y.data ∧ IsInts W y.spans
def IsRowW (W : World) (a : Option Addr) (len cap : Nat) (ys : List RawA) : Prop :=
  (a = none ∧ len = 0 ∧ cap = 0 ∧ ys = []) ∨
  ∃ x, a = some x ∧ len ≤ cap ∧ cap ≤ maxLen ∧ ys.length = len ∧ ∀ i y, ys[i]? = some y → W.cells? 0 (x.add (i * 9)) 9 = some (rawCells y) ∧ IsRaw W y
theorem one_of_take {cs : List Value} {i : Nat} {v : Value} (h : (cs.drop i).take 1 = [v]) : cs[i]? = some v := by
  have : ((cs.drop i).take 1)[0]? = some v := by rw [h]; rfl
  rwa [List.getElem?_take_of_lt (by omega), List.getElem?_drop, Nat.add_zero] at this
theorem list9 {cs : List Value} {v0 v1 v2 v3 v4 v5 v6 v7 v8 : Value} (hl : cs.length = 9) (h0 : cs[0]? = some v0) (h1 : cs[1]? = some v1) (h2 : cs[2]? = some v2) (h3 : cs[3]? = some v3) (h4 : cs[4]? = some v4) (h5 : cs[5]? = some v5) (h6 : cs[6]? = some v6) (h7 : cs[7]? = some v7) (h8 : cs[8]? = some v8) : cs = [v0, v1, v2, v3, v4, v5, v6, v7, v8] := by
  match cs, hl with
  | [a0, a1, a2, a3, a4, a5, a6, a7, a8], _ => simp at h0 h1 h2 h3 h4 h5 h6 h7 h8; simp_all
theorem isPart_of {H : Type} {enc : TypeId × Value → H} {P : Program} {W : World} {t e : TypeId} {fuel : Nat} {cs : List Value} {x : DataW H × List MemPlace} {ts : List TypeId} {ds : List (DataW H)} {j : Nat} {k : IntKind} {B : Nat}
    (hsz : (DataW.weightsEach P ts ds).all (· ≤ reachBytes) = true) (ht : ts[j]? = some t) (hd : ds[j]? = some x.1) (hu : P.underlying t = some (.slice e)) (he : P.underlying e = some (.int k)) (hc : P.cellsOf e = 1) (hB : P.bytesOf e = B)
    (h : DataW.trod enc P W 0 (fun _ => true) true fuel t cs = some x) : ∃ y : Part, cs = [.slice y.1 y.2.1 y.2.2.1] ∧ IsRow k W y.1 y.2.1 y.2.2.1 y.2.2.2 ∧ y.2.1 * B ≤ 140737488351232 := by
  rcases open_ints hu he hc h with ⟨hcs, _⟩ | ⟨x', l', c', zs, hcs, _⟩
  · subst hcs
    exact ⟨(none, 0, 0, []), rfl, .inl ⟨rfl, rfl, rfl, rfl⟩, by simp⟩
  · subst hcs
    have hT : DataW.Trod enc P W 0 (fun _ => true) true t (.slice (some x') l' c') x.1 x.2 := ⟨fuel, by simpa [Value.cells] using h⟩
    obtain ⟨zs', hz'⟩ := isRow_of hu he hc hT
    exact ⟨(some x', l', c', zs'), rfl, hz', sized_ints hsz ht hd hu he hc hB hT⟩
abbrev flds (tI tB tD tS : TypeId) : List (TypeId × Nat) := [(tI, 0), (tI, 1), (tI, 2), (tI, 3), (tI, 4), (tI, 5), (tB, 6), (tD, 7), (tS, 8)]
theorem isRowW_of {H : Type} {enc : TypeId × Value → H} {P : Program} {W : World} {t e tI tB tD tU tS : TypeId} {fs : Array Field} {a : Option Addr} {len cap : Nat} {d : DataW H} {ps : List MemPlace} {ts : List TypeId} {ds : List (DataW H)} {j : Nat}
    (hsz : (DataW.weightsEach P ts ds).all (· ≤ reachBytes) = true) (ht : ts[j]? = some t) (hd : ds[j]? = some d)
    (hu : P.underlying t = some (.slice e)) (he : P.underlying e = some (.struct fs)) (hF : fs.toList.map (fun f => (f.type, f.offset)) = flds tI tB tD tS)
    (hc : P.cellsOf e = 9) (hB : P.bytesOf e = 104) (hI : P.underlying tI = some (.int .i64)) (cI : P.cellsOf tI = 1) (bI : P.bytesOf tI = 8) (hBo : P.underlying tB = some .bool) (cB : P.cellsOf tB = 1)
    (hD : P.underlying tD = some (.slice tU)) (cD : P.cellsOf tD = 1) (hU : P.underlying tU = some (.int .u8)) (cU : P.cellsOf tU = 1) (bU : P.bytesOf tU = 1) (hS : P.underlying tS = some (.slice tI)) (cS : P.cellsOf tS = 1)
    (h : DataW.Trod enc P W 0 (fun _ => true) true t (.slice a len cap) d ps) : ∃ ys, IsRowW W a len cap ys ∧ len * 104 ≤ 140737488351232 := by
  obtain ⟨fuel, hf⟩ := h
  rcases DataW.trod_slice hu hf with ⟨hcs, _⟩ | ⟨x, l, c, elems, rest, n, rfl, hcs, hx, _, hl, hm, hlen, hel, hsp, _⟩
  · simp [Value.cells] at hcs
    obtain ⟨rfl, rfl, rfl⟩ := hcs
    exact ⟨[], .inl ⟨rfl, rfl, rfl, rfl⟩, by simp⟩
  · simp [Value.cells] at hcs
    obtain ⟨rfl, rfl, rfl⟩ := hcs
    obtain ⟨hx1, _⟩ := Prod.mk.inj hx
    subst hx1
    have z := sized_slice hsz ht hd hu
    rw [hB] at z
    have hz : (reachBytes : Nat) = 140737488351232 := by decide
    simp only [List.length_map] at z
    have fget : ∀ (i : Nat) (p : TypeId × Nat), (flds tI tB tD tS)[i]? = some p → ∃ f : Field, fs[i]? = some f ∧ f.type = p.1 ∧ f.offset = p.2 := by
      intro i p hp
      rw [← hF, List.getElem?_map, Option.map_eq_some_iff] at hp
      obtain ⟨f, h1, rfl⟩ := hp
      exact ⟨f, by simpa using h1, rfl, rfl⟩
    have fsz : fs.size = 9 := by have := congrArg List.length hF; simpa using this
    have each : ∀ i, i < len → ∃ y : RawA, W.cells? 0 (x.add (i * 9)) 9 = some (rawCells y) ∧ IsRaw W y := by
      intro i hi
      have h1 := hel i hi
      obtain ⟨el, hel1⟩ : ∃ el, elems[i]? = some el := ⟨elems[i]'(by omega), List.getElem?_eq_getElem (by omega)⟩
      rw [hel1, hc, Option.bind_eq_some_iff] at h1
      obtain ⟨cs', h2, h3⟩ := h1
      have hw : (DataW.weightsEach P [e] [el.1]).all (· ≤ reachBytes) = true := by
        rw [List.all_eq_true]
        intro m hm'
        refine List.all_eq_true.1 hsz m (DataW.weights_mem_each ht hd m ?_)
        simp only [DataW.weights, hu, List.mem_cons, List.mem_append]
        refine .inr (.inl (weights_all (d := el.1) (List.mem_map.2 ⟨el, List.mem_of_getElem? hel1, rfl⟩) m ?_))
        simpa [DataW.weightsEach] using hm'
      obtain ⟨xs, n', rfl, rfl, hl9, hxl, hxf⟩ := DataW.trod_struct he h3
      rw [hc] at hl9
      rw [fsz] at hxl
      have hw' : (DataW.weightsEach P (fs.toList.map (·.type)) (xs.map (·.1))).all (· ≤ reachBytes) = true := by
        simpa [DataW.weightsEach, DataW.weights, he] using hw
      have fld : ∀ (i : Nat) (p : TypeId × Nat), (flds tI tB tD tS)[i]? = some p → ∃ y, xs[i]? = some y ∧ DataW.trod enc P W 0 (fun _ => true) true n' p.1 ((cs'.drop p.2).take (P.cellsOf p.1)) = some y := by
        intro i p hp
        obtain ⟨f, h1, h2, h3⟩ := fget i p hp
        have hi9 : i < 9 := (List.getElem?_eq_some_iff.1 hp).1
        have := hxf i f h1
        rw [h2, h3] at this
        exact ⟨xs[i]'(by omega), List.getElem?_eq_getElem (by omega), by rw [this]; exact List.getElem?_eq_getElem (by omega)⟩
      have int : ∀ (i : Nat), (flds tI tB tD tS)[i]? = some (tI, i) → ∃ m : Int, cs'[i]? = some (.int .i64 m) := by
        intro i hp
        obtain ⟨y, _, hy⟩ := fld i _ hp
        rw [cI] at hy
        obtain ⟨m, hm, _⟩ := DataW.trod_int hI hy
        exact ⟨m, one_of_take hm⟩
      obtain ⟨m0, c0⟩ := int 0 rfl
      obtain ⟨m1, c1⟩ := int 1 rfl
      obtain ⟨m2, c2⟩ := int 2 rfl
      obtain ⟨m3, c3⟩ := int 3 rfl
      obtain ⟨m4, c4⟩ := int 4 rfl
      obtain ⟨m5, c5⟩ := int 5 rfl
      obtain ⟨y6, _, hy6⟩ := fld 6 (tB, 6) rfl
      rw [cB] at hy6
      obtain ⟨b6, hb6, _⟩ := DataW.trod_bool hBo hy6
      have c6 := one_of_take hb6
      have tsj : ∀ (i : Nat) (p : TypeId × Nat), (flds tI tB tD tS)[i]? = some p → (fs.toList.map (·.type))[i]? = some p.1 := by
        intro i p hp
        obtain ⟨f, h1, h2, _⟩ := fget i p hp
        rw [List.getElem?_map, Option.map_eq_some_iff]
        exact ⟨f, by simpa using h1, h2⟩
      obtain ⟨y7, hx7, hy7⟩ := fld 7 (tD, 7) rfl
      rw [cD] at hy7
      obtain ⟨p7, hp7, hr7, hs7⟩ := isPart_of (j := 7) hw' (tsj 7 (tD, 7) rfl) (by rw [List.getElem?_map, hx7]; rfl) hD hU cU bU hy7
      obtain ⟨y8, hx8, hy8⟩ := fld 8 (tS, 8) rfl
      rw [cS] at hy8
      obtain ⟨p8, hp8, hr8, hs8⟩ := isPart_of (j := 8) hw' (tsj 8 (tS, 8) rfl) (by rw [List.getElem?_map, hx8]; rfl) hS hI cI bI hy8
      refine ⟨⟨m0, m1, m2, m3, m4, m5, b6, p7, p8⟩, ?_, ⟨hr7, by simpa using hs7⟩, hr8, hs8⟩
      rw [h2]
      exact congrArg some (list9 hl9 c0 c1 c2 c3 c4 c5 c6 (one_of_take hp7) (one_of_take hp8))
    have hf : ∃ f : Nat → RawA, ∀ i, i < len → W.cells? 0 (x.add (i * 9)) 9 = some (rawCells (f i)) ∧ IsRaw W (f i) :=
      ⟨fun i => if hi : i < len then Classical.choose (each i hi) else ⟨0, 0, 0, 0, 0, 0, false, (none, 0, 0, []), (none, 0, 0, [])⟩, fun i hi => by
        simp only [dif_pos hi]; exact Classical.choose_spec (each i hi)⟩
    obtain ⟨f, hf⟩ := hf
    refine ⟨(List.range len).map f, .inr ⟨x, rfl, hl, hm, by simp, fun i y hy => ?_⟩, by omega⟩
    rw [List.getElem?_map, Option.map_eq_some_iff] at hy
    obtain ⟨k, hk, rfl⟩ := hy
    obtain ⟨hk1, hk2⟩ := List.getElem?_eq_some_iff.1 hk
    rw [List.getElem_range] at hk2
    subst hk2
    exact hf i (by simpa using hk1)
end Go.Abs
/- A slice of raw frames as a parameter: what is read of it. -/
set_option linter.unusedVariables false
set_option linter.unusedSimpArgs false
namespace Go.Abs
open Go Go.ChangeShapes Go.WideShapes Go.RowKit
theorem row_abs {k : IntKind} {W : World} {y : Part} (h : IsRow k W y.1 y.2.1 y.2.2.1 y.2.2.2) : absV W (.slice y.1 y.2.1 y.2.2.1) = some (encSl (argSl y.1 y.2.1)) := by
  obtain ⟨a, l, c, zs⟩ := y
  rcases h with ⟨h1, h2, h3, _⟩ | ⟨x, h1, h2, h3, h4, h5, _⟩
  · simp only at h1 h2 h3
    subst h1; subst h2; subst h3
    rfl
  · simp only at h1 h2 h3 h4 h5
    subst h1
    have hk : (l.ble c && (l.beq 0 || okA W x)) = true := by
      simp only [Bool.and_eq_true, Nat.ble_eq, Bool.or_eq_true, nbeq_eq]
      refine ⟨h2, ?_⟩
      rcases Nat.eq_zero_or_pos l with h0 | h0
      · exact .inl h0
      · right
        have := h5 0 (by omega)
        rw [show x.add 0 = x by simp [Addr.add]] at this
        exact okA_of_cell this
    simp only [absV, hk, cond_true]
    rfl
theorem addB (x : Addr) (i : Nat) : (x.add i).block = x.block := by unfold Addr.add; split <;> rfl
theorem addO (x : Addr) (i : Nat) : (x.add i).off = x.off + i := by unfold Addr.add; split <;> simp_all
theorem isRowW_vr {W : World} {a : Option Addr} {len cap : Nat} {ys : List RawA} (h : IsRowW W a len cap ys) : VR (impR W) (encSl (argSl a len)) (.slice a len cap) := by
  rcases h with ⟨rfl, rfl, rfl, rfl⟩ | ⟨x, rfl, h1, h2, h3, h4⟩
  · exact .slice0
  · refine .slice _ _ _ _ _ ?_
    show SR _ _ len x cap (capK ANY)
    rw [capK_ANY]
    refine ⟨h1, ?_⟩
    rcases Nat.eq_zero_or_pos len with h0 | h0
    · exact .inl h0
    · right
      have := ((h4 0 (ys[0]'(by omega)) (List.getElem?_eq_getElem (by omega))).1)
      have := (World.cells?_some this).2.2 0 (by omega)
      rw [show (x.add (0 * 9)).add 0 = x by simp [Addr.add]] at this
      exact okA_ar (okA_of_cell this)
theorem isRowW_len {W : World} {a : Option Addr} {len cap : Nat} {ys : List RawA} (h : IsRowW W a len cap ys) : ys.length = len := by
  rcases h with ⟨_, rfl, _, rfl⟩ | ⟨x, _, _, _, h3, _⟩
  · rfl
  · exact h3
theorem isRowW_each {W : World} {a : Option Addr} {len cap : Nat} {ys : List RawA} (h : IsRowW W a len cap ys) : ∀ y ∈ ys, IsRaw W y := by
  rcases h with ⟨_, _, _, rfl⟩ | ⟨x, _, _, _, _, h4⟩
  · intro y hy; simp at hy
  · intro y hy
    obtain ⟨i, hi⟩ := List.getElem?_of_mem hy
    exact (h4 i y hi).2
end Go.Abs
namespace Go.Proofs.Ythiccnmplgdheaa.T
open Go Go.Abs Go.Proofs
def rawX (y : RawA) : F9 := (y.k, y.id, y.off, y.a, y.b, y.bend, y.fin, argSl y.data.1 y.data.2.1, argSl y.spans.1 y.spans.2.1)
def rawV (y : RawA) : RV := ⟨y.k, y.id, y.off, y.a, y.b, y.bend, y.fin, bytesIn (y.data.2.2.2.take y.data.2.1), y.spans.2.2.2.take y.spans.2.1⟩
theorem fsV_idx {xs : List F9} {i : Nat} {v : Value} (h : (fsV xs)[i]? = some v) : ∃ q r, i = q * 9 + r ∧ r < 9 ∧ q < xs.length ∧ (f9L (xs.getD q f90))[r]? = some v := by
  have hi := (List.getElem?_eq_some_iff.1 h).1
  rw [fsV_length] at hi
  refine ⟨i / 9, i % 9, by omega, Nat.mod_lt _ (by omega), by omega, ?_⟩
  rw [← fsV_get xs (i / 9) (by omega), List.getElem?_take_of_lt (Nat.mod_lt _ (by omega)), List.getElem?_drop, show i / 9 * 9 + i % 9 = i by omega]
  exact h
theorem raw_abs {W : World} {y : RawA} (h : IsRaw W y) {r : Nat} {v : Value} (hv : (f9L (rawX y))[r]? = some v) : ∃ u, (rawCells y)[r]? = some u ∧ absV W u = some v := by
  have hd := row_abs h.1.1
  have hs := row_abs h.2.1
  have hr : r < 9 := (List.getElem?_eq_some_iff.1 hv).1
  rcases (by omega : r = 0 ∨ r = 1 ∨ r = 2 ∨ r = 3 ∨ r = 4 ∨ r = 5 ∨ r = 6 ∨ r = 7 ∨ r = 8) with rfl | rfl | rfl | rfl | rfl | rfl | rfl | rfl | rfl
  all_goals first
    | exact ⟨_, rfl, by rw [← hv]; rfl⟩
    | exact ⟨_, rfl, by rw [← hv]; exact hd⟩
    | exact ⟨_, rfl, by rw [← hv]; exact hs⟩
theorem isRowW_rd {W : World} {a : Option Addr} {len cap : Nat} {ys : List RawA} (h : IsRowW W a len cap ys) : RdW (impH W) (argSl a len) (ys.map rawX) (ys.map rawV) := by
  have hl := isRowW_len h
  refine ⟨?_, ?_⟩
  · rcases h with ⟨rfl, rfl, rfl, rfl⟩ | ⟨x, rfl, h1, h2, h3, h4⟩
    · exact rd_nil 9 _
    · refine ⟨by rw [fsV_length]; simp [argSl]; omega, fun hn => by simp [argSl] at hn, fun b hb i v hi => ?_, fun _ => by unfold CapOK argSl; simp only [capK_ANY]⟩
      simp only [argSl, Option.some.injEq] at hb
      subst hb
      obtain ⟨q, r, rfl, hr, hq, hv⟩ := fsV_idx hi
      simp only [List.length_map] at hq
      have hy : ys[q]? = some (ys[q]'hq) := List.getElem?_eq_getElem hq
      obtain ⟨hc, hp⟩ := h4 q _ hy
      have he : (ys.map rawX).getD q f90 = rawX (ys[q]'hq) := by
        rw [List.getD_eq_getElem?_getD, List.getElem?_map, hy]; rfl
      rw [he] at hv
      obtain ⟨u, hu, ha⟩ := raw_abs hp hv
      have hcell := (World.cells?_some hc).2.2 r hr
      rw [hu] at hcell
      obtain ⟨g1, g2, g3⟩ := imp_ld hcell ha
      have hb : ((x.add (q * 9)).add r).block = x.block := by rw [addB, addB]
      have ho : ((x.add (q * 9)).add r).off = x.off + (q * 9 + r) := by rw [addO, addO, Nat.add_assoc]
      rw [hb] at g1 g3
      rw [ho] at g3
      exact ⟨g1, by simpa [add] using g3⟩
  · have he := isRowW_each h
    clear h hl
    induction ys with
    | nil => trivial
    | cons y ys ih =>
      have hy := he y (by simp)
      exact ⟨⟨⟨rfl, rfl, rfl, rfl, rfl, rfl, rfl⟩, isRow_rdB hy.1.1, isRow_rd hy.2.1⟩, ih fun z hz => he z (by simp [hz])⟩
theorem isRowW_sz {W : World} {a : Option Addr} {len cap : Nat} {ys : List RawA} (h : IsRowW W a len cap ys) : WzOK (ys.map rawV) := by
  intro v hv
  obtain ⟨y, hy, rfl⟩ := List.mem_map.1 hv
  have h1 := isRowW_each h y hy
  have h2 := h1.1.2
  have h3 := h1.2.2
  have h4 := bytesIn_len y.data.2.2.2 y.data.2.1
  have h5 := ints_len y.spans.2.2.2 y.spans.2.1
  exact ⟨by show (bytesIn (y.data.2.2.2.take y.data.2.1)).length ≤ _; omega, by show (y.spans.2.2.2.take y.spans.2.1).length ≤ _; omega⟩
end Go.Proofs.Ythiccnmplgdheaa.T
/- A slice of calls (structs of three whole numbers and a slice of whole numbers) as a parameter. -/
set_option linter.unusedVariables false
set_option linter.unusedSimpArgs false
namespace Go.Abs
open Go Go.ChangeShapes Go.WideShapes Go.RowKit
structure CallA where
  what : Int
  a : Int
  b : Int
  l : Part
def callCells (y : CallA) : List Value := [.int .i64 y.what, .int .i64 y.a, .int .i64 y.b, .slice y.l.1 y.l.2.1 y.l.2.2.1]
def IsRowC (W : World) (a : Option Addr) (len cap : Nat) (ys : List CallA) : Prop :=
  (a = none ∧ len = 0 ∧ cap = 0 ∧ ys = []) ∨
  ∃ x, a = some x ∧ len ≤ cap ∧ cap ≤ maxLen ∧ ys.length = len ∧ ∀ i y, ys[i]? = some y → W.cells? 0 (x.add (i * 4)) 4 = some (callCells y) ∧ IsInts W y.l
theorem list4 {cs : List Value} {v0 v1 v2 v3 : Value} (hl : cs.length = 4) (h0 : cs[0]? = some v0) (h1 : cs[1]? = some v1) (h2 : cs[2]? = some v2) (h3 : cs[3]? = some v3) : cs = [v0, v1, v2, v3] := by
  match cs, hl with
  | [a0, a1, a2, a3], _ => simp at h0 h1 h2 h3; simp_all
abbrev flds4 (tI tS : TypeId) : List (TypeId × Nat) := [(tI, 0), (tI, 1), (tI, 2), (tS, 3)]
theorem isRowC_of {H : Type} {enc : TypeId × Value → H} {P : Program} {W : World} {t e tI tS : TypeId} {fs : Array Field} {a : Option Addr} {len cap : Nat} {d : DataW H} {ps : List MemPlace} {ts : List TypeId} {ds : List (DataW H)} {j : Nat}
    (hsz : (DataW.weightsEach P ts ds).all (· ≤ reachBytes) = true) (ht : ts[j]? = some t) (hd : ds[j]? = some d)
    (hu : P.underlying t = some (.slice e)) (he : P.underlying e = some (.struct fs)) (hF : fs.toList.map (fun f => (f.type, f.offset)) = flds4 tI tS)
    (hc : P.cellsOf e = 4) (hB : P.bytesOf e = 48) (hI : P.underlying tI = some (.int .i64)) (cI : P.cellsOf tI = 1) (bI : P.bytesOf tI = 8) (hS : P.underlying tS = some (.slice tI)) (cS : P.cellsOf tS = 1)
    (h : DataW.Trod enc P W 0 (fun _ => true) true t (.slice a len cap) d ps) : ∃ ys, IsRowC W a len cap ys ∧ len * 48 ≤ 140737488351232 := by
  obtain ⟨fuel, hf⟩ := h
  rcases DataW.trod_slice hu hf with ⟨hcs, _⟩ | ⟨x, l, c, elems, rest, n, rfl, hcs, hx, _, hl, hm, hlen, hel, hsp, _⟩
  · simp [Value.cells] at hcs
    obtain ⟨rfl, rfl, rfl⟩ := hcs
    exact ⟨[], .inl ⟨rfl, rfl, rfl, rfl⟩, by simp⟩
  · simp [Value.cells] at hcs
    obtain ⟨rfl, rfl, rfl⟩ := hcs
    obtain ⟨hx1, _⟩ := Prod.mk.inj hx
    subst hx1
    have z := sized_slice hsz ht hd hu
    rw [hB] at z
    have hz : (reachBytes : Nat) = 140737488351232 := by decide
    simp only [List.length_map] at z
    have fget : ∀ (i : Nat) (p : TypeId × Nat), (flds4 tI tS)[i]? = some p → ∃ f : Field, fs[i]? = some f ∧ f.type = p.1 ∧ f.offset = p.2 := by
      intro i p hp
      rw [← hF, List.getElem?_map, Option.map_eq_some_iff] at hp
      obtain ⟨f, h1, rfl⟩ := hp
      exact ⟨f, by simpa using h1, rfl, rfl⟩
    have fsz : fs.size = 4 := by have := congrArg List.length hF; simpa using this
    have each : ∀ i, i < len → ∃ y : CallA, W.cells? 0 (x.add (i * 4)) 4 = some (callCells y) ∧ IsInts W y.l := by
      intro i hi
      have h1 := hel i hi
      obtain ⟨el, hel1⟩ : ∃ el, elems[i]? = some el := ⟨elems[i]'(by omega), List.getElem?_eq_getElem (by omega)⟩
      rw [hel1, hc, Option.bind_eq_some_iff] at h1
      obtain ⟨cs', h2, h3⟩ := h1
      have hw : (DataW.weightsEach P [e] [el.1]).all (· ≤ reachBytes) = true := by
        rw [List.all_eq_true]
        intro m hm'
        refine List.all_eq_true.1 hsz m (DataW.weights_mem_each ht hd m ?_)
        simp only [DataW.weights, hu, List.mem_cons, List.mem_append]
        refine .inr (.inl (weights_all (d := el.1) (List.mem_map.2 ⟨el, List.mem_of_getElem? hel1, rfl⟩) m ?_))
        simpa [DataW.weightsEach] using hm'
      obtain ⟨xs, n', rfl, rfl, hl9, hxl, hxf⟩ := DataW.trod_struct he h3
      rw [hc] at hl9
      rw [fsz] at hxl
      have hw' : (DataW.weightsEach P (fs.toList.map (·.type)) (xs.map (·.1))).all (· ≤ reachBytes) = true := by
        simpa [DataW.weightsEach, DataW.weights, he] using hw
      have fld : ∀ (i : Nat) (p : TypeId × Nat), (flds4 tI tS)[i]? = some p → ∃ y, xs[i]? = some y ∧ DataW.trod enc P W 0 (fun _ => true) true n' p.1 ((cs'.drop p.2).take (P.cellsOf p.1)) = some y := by
        intro i p hp
        obtain ⟨f, h1, h2, h3⟩ := fget i p hp
        have hi9 : i < 4 := (List.getElem?_eq_some_iff.1 hp).1
        have := hxf i f h1
        rw [h2, h3] at this
        exact ⟨xs[i]'(by omega), List.getElem?_eq_getElem (by omega), by rw [this]; exact List.getElem?_eq_getElem (by omega)⟩
      have int : ∀ (i : Nat), (flds4 tI tS)[i]? = some (tI, i) → ∃ m : Int, cs'[i]? = some (.int .i64 m) := by
        intro i hp
        obtain ⟨y, _, hy⟩ := fld i _ hp
        rw [cI] at hy
        obtain ⟨m, hm, _⟩ := DataW.trod_int hI hy
        exact ⟨m, one_of_take hm⟩
      obtain ⟨m0, c0⟩ := int 0 rfl
      obtain ⟨m1, c1⟩ := int 1 rfl
      obtain ⟨m2, c2⟩ := int 2 rfl
      have tsj : ∀ (i : Nat) (p : TypeId × Nat), (flds4 tI tS)[i]? = some p → (fs.toList.map (·.type))[i]? = some p.1 := by
        intro i p hp
        obtain ⟨f, h1, h2, _⟩ := fget i p hp
        rw [List.getElem?_map, Option.map_eq_some_iff]
        exact ⟨f, by simpa using h1, h2⟩
      obtain ⟨y8, hx8, hy8⟩ := fld 3 (tS, 3) rfl
      rw [cS] at hy8
      obtain ⟨p8, hp8, hr8, hs8⟩ := isPart_of (j := 3) hw' (tsj 3 (tS, 3) rfl) (by rw [List.getElem?_map, hx8]; rfl) hS hI cI bI hy8
      refine ⟨⟨m0, m1, m2, p8⟩, ?_, hr8, hs8⟩
      rw [h2]
      exact congrArg some (list4 hl9 c0 c1 c2 (one_of_take hp8))
    have hf : ∃ f : Nat → CallA, ∀ i, i < len → W.cells? 0 (x.add (i * 4)) 4 = some (callCells (f i)) ∧ IsInts W (f i).l :=
      ⟨fun i => if hi : i < len then Classical.choose (each i hi) else ⟨0, 0, 0, (none, 0, 0, [])⟩, fun i hi => by
        simp only [dif_pos hi]; exact Classical.choose_spec (each i hi)⟩
    obtain ⟨f, hf⟩ := hf
    refine ⟨(List.range len).map f, .inr ⟨x, rfl, hl, hm, by simp, fun i y hy => ?_⟩, by omega⟩
    rw [List.getElem?_map, Option.map_eq_some_iff] at hy
    obtain ⟨k, hk, rfl⟩ := hy
    obtain ⟨hk1, hk2⟩ := List.getElem?_eq_some_iff.1 hk
    rw [List.getElem_range] at hk2
    subst hk2
    exact hf i (by simpa using hk1)
theorem isRowC_vr {W : World} {a : Option Addr} {len cap : Nat} {ys : List CallA} (h : IsRowC W a len cap ys) : VR (impR W) (encSl (argSl a len)) (.slice a len cap) := by
  rcases h with ⟨rfl, rfl, rfl, rfl⟩ | ⟨x, rfl, h1, h2, h3, h4⟩
  · exact .slice0
  · refine .slice _ _ _ _ _ ?_
    show SR _ _ len x cap (capK ANY)
    rw [capK_ANY]
    refine ⟨h1, ?_⟩
    rcases Nat.eq_zero_or_pos len with h0 | h0
    · exact .inl h0
    · right
      have := ((h4 0 (ys[0]'(by omega)) (List.getElem?_eq_getElem (by omega))).1)
      have := (World.cells?_some this).2.2 0 (by omega)
      rw [show (x.add (0 * 4)).add 0 = x by simp [Addr.add]] at this
      exact okA_ar (okA_of_cell this)
theorem isRowC_len {W : World} {a : Option Addr} {len cap : Nat} {ys : List CallA} (h : IsRowC W a len cap ys) : ys.length = len := by
  rcases h with ⟨_, rfl, _, rfl⟩ | ⟨x, _, _, _, h3, _⟩
  · rfl
  · exact h3
theorem isRowC_each {W : World} {a : Option Addr} {len cap : Nat} {ys : List CallA} (h : IsRowC W a len cap ys) : ∀ y ∈ ys, IsInts W y.l := by
  rcases h with ⟨_, _, _, rfl⟩ | ⟨x, _, _, _, _, h4⟩
  · intro y hy; simp at hy
  · intro y hy
    obtain ⟨i, hi⟩ := List.getElem?_of_mem hy
    exact (h4 i y hi).2
/-! what is read of it -/
abbrev F4 := Int × Int × Int × Sl
def f4L (x : F4) : List Value := [.int .i64 x.1, .int .i64 x.2.1, .int .i64 x.2.2.1, encSl x.2.2.2]
def csV : List F4 → List Value
  | [] => []
  | x :: xs => f4L x ++ csV xs
theorem csV_length : ∀ xs : List F4, (csV xs).length = xs.length * 4
  | [] => rfl
  | x :: xs => by simp [csV, f4L, csV_length xs]; omega
theorem csV_get : ∀ (xs : List F4) (q : Nat) (r : Nat), r < 4 → (csV xs)[q * 4 + r]? = (xs[q]?).bind fun x => (f4L x)[r]?
  | [], q, r, _ => by simp [csV]
  | x :: xs, 0, r, hr => by
    simp only [csV]
    rw [List.getElem?_append_left (by simp [f4L]; omega)]
    simp
  | x :: xs, q + 1, r, hr => by
    simp only [csV]
    rw [List.getElem?_append_right (by simp [f4L]; omega)]
    have : (q + 1) * 4 + r - (f4L x).length = q * 4 + r := by simp [f4L]; omega
    rw [this, csV_get xs q r hr]
    simp
def callX (y : CallA) : F4 := (y.what, y.a, y.b, argSl y.l.1 y.l.2.1)
theorem call_abs {W : World} {y : CallA} (h : IsInts W y.l) {r : Nat} {v : Value} (hv : (f4L (callX y))[r]? = some v) : ∃ u, (callCells y)[r]? = some u ∧ absV W u = some v := by
  have hs := row_abs h.1
  have hr : r < 4 := (List.getElem?_eq_some_iff.1 hv).1
  rcases (by omega : r = 0 ∨ r = 1 ∨ r = 2 ∨ r = 3) with rfl | rfl | rfl | rfl
  all_goals first
    | exact ⟨_, rfl, by rw [← hv]; rfl⟩
    | exact ⟨_, rfl, by rw [← hv]; exact hs⟩
theorem isRowC_rd {W : World} {a : Option Addr} {len cap : Nat} {ys : List CallA} (h : IsRowC W a len cap ys) : Rd 4 (impH W) (argSl a len) (csV (ys.map callX)) := by
  have hl := isRowC_len h
  rcases h with ⟨rfl, rfl, rfl, rfl⟩ | ⟨x, rfl, h1, h2, h3, h4⟩
  · exact rd_nil 4 _
  · refine ⟨by rw [csV_length]; simp [argSl]; omega, fun hn => by simp [argSl] at hn, fun b hb i v hi => ?_, fun _ => by unfold CapOK argSl; simp only [capK_ANY]⟩
    simp only [argSl, Option.some.injEq] at hb
    subst hb
    obtain ⟨q, r, rfl, hr⟩ : ∃ q r, i = q * 4 + r ∧ r < 4 := ⟨i / 4, i % 4, by omega, Nat.mod_lt _ (by omega)⟩
    rw [csV_get _ _ _ hr, List.getElem?_map, Option.bind_eq_some_iff] at hi
    obtain ⟨xx, hxx, hv⟩ := hi
    rw [Option.map_eq_some_iff] at hxx
    obtain ⟨y, hy, rfl⟩ := hxx
    obtain ⟨hc, hp⟩ := h4 q _ hy
    obtain ⟨u, hu, ha⟩ := call_abs hp hv
    have hcell := (World.cells?_some hc).2.2 r hr
    rw [hu] at hcell
    obtain ⟨g1, g2, g3⟩ := imp_ld hcell ha
    have hb : ((x.add (q * 4)).add r).block = x.block := by rw [addB, addB]
    have ho : ((x.add (q * 4)).add r).off = x.off + (q * 4 + r) := by rw [addO, addO, Nat.add_assoc]
    rw [hb] at g1 g3
    rw [ho] at g3
    exact ⟨g1, by simpa [add] using g3⟩
theorem isRowC_in {W : World} {a : Option Addr} {len cap : Nat} {ys : List CallA} (h : IsRowC W a len cap ys) : ∀ x ∈ ys.map callX, ∃ l, RdI .i64 (impH W) x.2.2.2 l ∧ l.length ≤ 2 ^ 47 := by
  intro x hx
  obtain ⟨y, hy, rfl⟩ := List.mem_map.1 hx
  have h1 := isRowC_each h y hy
  have h2 := h1.2
  have h3 := ints_len y.l.2.2.2 y.l.2.1
  exact ⟨_, isRow_rd h1.1, by omega⟩
end Go.Abs
