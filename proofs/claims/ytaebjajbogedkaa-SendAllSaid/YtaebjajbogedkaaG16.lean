/- Lemmas about the typed texts (joined: SRaw1 SRaw2 S15). -/
import Derived.Test.YtaebjajbogedkaaG15
import Derived.Test.YtaebjajbogedkaaG11
/- Frames that are made from numbers (argosyhand): an Ack's runs, right frames. -/
set_option linter.unusedVariables false
set_option linter.unusedSimpArgs false
namespace Go.Proofs.Ytaebjajbogedkaa.T
open Go Go.Abs Go.Proofs
def lst : Option Int → List Run → Option Int
  | p, [] => p
  | _, r :: l => lst (some r.1) l
theorem lst_snoc : ∀ (l : List Run) (p : Option Int) (r : Run), lst p (l ++ [r]) = some r.1
  | [], _, _ => rfl
  | q :: l, p, r => lst_snoc l (some q.1) r
theorem RSp_snoc : ∀ {l : List Run} {p : Option Int} {r : Run}, RSp p l → okN r.1 → okN r.2 → r.1 ≤ r.2 → (∀ q, lst p l = some q → 2 ≤ q - r.2) → RSp p (l ++ [r])
  | [], p, r, _, h1, h2, h3, h4 => ⟨⟨h1, h2⟩, h3, h4, trivial⟩
  | q :: l, p, r, h, h1, h2, h3, h4 => ⟨h.1, h.2.1, h.2.2.1, RSp_snoc h.2.2.2 h1 h2 h3 h4⟩
/-! raw frames -/
structure RV where
  kind : Int
  id : Int
  off : Int
  a : Int
  b : Int
  bend : Int
  fin : Bool
  data : List UInt8
  spans : List Int
structure WRd (h : H) (x : F9) (v : RV) : Prop where
  e : x.1 = v.kind ∧ x.2.1 = v.id ∧ x.2.2.1 = v.off ∧ x.2.2.2.1 = v.a ∧ x.2.2.2.2.1 = v.b ∧ x.2.2.2.2.2.1 = v.bend ∧ x.2.2.2.2.2.2.1 = v.fin
  data : RdB h x.2.2.2.2.2.2.2.1 v.data
  spans : RdI .i64 h x.2.2.2.2.2.2.2.2 v.spans
theorem WRd.ex {h h' : H} {x : F9} {v : RV} (y : EX h h') (r : WRd h x v) : WRd h' x v := ⟨r.e, r.data.ex y, Rd.ex y r.spans⟩
def FOut (h0 : H) (b b1 b2 : Nat) (x : F9) (st : (Option Addr × Option Addr × Option Addr) × H) : Prop :=
  st.1 = (some ⟨b, 0, some 0⟩, some ⟨b1, 0, some 0⟩, some ⟨b2, 0, some 0⟩) ∧ ∃ y v, TB h0 b b2 (f9L x) st.2 (f9L y) ∧ FRd st.2 y v ∧ FR v ∧ Fr h0.size y.2.2.2.2.2.2.2.1 ∧ Fr h0.size y.2.2.2.2.2.2.2.2
theorem fout {h0 h : H} {b b1 b2 : Nat} {x : F9} {k id off a b' : Int} {fin : Bool} {d s : Sl} {dl : List UInt8} {sl : List Run} (t : TB h0 b b2 (f9L x) h (f9L (k, id, off, a, b', 0, fin, d, s))) (hd : RdB h d dl) (hs : RdR h s sl) (hdf : Fr h0.size d) (hsf : Fr h0.size s) (hv : FR ⟨k, id, off, a, b', 0, fin, dl, sl⟩) :
    FOut h0 b b1 b2 x ((some ⟨b, 0, some 0⟩, some ⟨b1, 0, some 0⟩, some ⟨b2, 0, some 0⟩), h) := ⟨rfl, _, _, t, ⟨⟨rfl, rfl, rfl, rfl, rfl, rfl, rfl⟩, hd, hs⟩, hv, hdf, hsf⟩
theorem pickB_f (a n : Int) (h : H) : hand_Pick a (IntKind.wrap .i64 (mayV n + 1)) h = some (a % (mayV n + 1), h) := by
  have := mayV_ok n
  unfold okN at this
  rw [w64 (by omega) (by omega)]
  exact pick_f _ _ (by omega) (by omega) _
theorem Few_po {h : H} {b : Sl} {l : List UInt8} (w : WF h) (hr : RdB h b l) (hl : l.length ≤ 2 ^ 47) {n : Int} (hn : 0 ≤ n) : PO (hand_Few b n h) (fun (a, h1) => EX h h1 ∧ BufB h1 a (l.take n.toNat) ∧ Fr h.size a) := by
  obtain ⟨s', h', e, x, b, f⟩ := Few_f w hr hl hn
  exact ⟨_, e, x, b, f⟩
theorem TB.kx {h0 h h' : H} {b b2 : Nat} {L L2 : List Value} (t : TB h0 b b2 L h L2) (x : EX h h') : TB h0 b b2 L h' L2 := ⟨t.ex.trans x, t.hb, t.ne, Box.kx x t.box, Box.kx x t.box2⟩
theorem TB.stu {α : Type} {Q : α → Prop} {h0 h : H} {b b2 i : Nat} {L L2 : List Value} {v : Value} {f : H → Option α} (t : TB h0 b b2 L h L2) (hi : i < L2.length) (ho : oneC v = true) (p : ∀ h', TB h0 b b2 L h' (L2.set i v) → UP (· = b2) h h' → PO (f h') Q) : PO (bindO (Abs.st1 h (add ⟨b2, 0, some 0⟩ i) v) f) Q :=
  PO.st1 t.box2 t.ex.wf hi ho fun h' B u z w => p h' ⟨u.ex0 t.ex (fun A hA e => by have := t.hb; omega), t.hb, t.ne, Box.ku u t.ne t.box, B⟩ u
theorem ok0 : okN 0 := by unfold okN; omega
end Go.Proofs.Ytaebjajbogedkaa.T
/- Right frames made from a list of raw ones (argosyhand). -/
set_option linter.unusedVariables false
set_option linter.unusedSimpArgs false
namespace Go.Proofs.Ytaebjajbogedkaa.T
open Go Go.Abs Go.Proofs
def WRs (h : H) : List F9 → List RV → Prop
  | [], [] => True
  | x :: xs, v :: vs => WRd h x v ∧ WRs h xs vs
  | _, _ => False
structure RdW (h : H) (s : Sl) (xs : List F9) (vs : List RV) : Prop where
  rd : Rd 9 h s (fsV xs)
  wrs : WRs h xs vs
theorem WRs.len {h : H} : ∀ {xs : List F9} {vs : List RV}, WRs h xs vs → xs.length = vs.length
  | [], [], _ => rfl
  | x :: xs, v :: vs, r => by simp [WRs.len r.2]
  | [], _ :: _, r => r.elim
  | _ :: _, [], r => r.elim
theorem WRs.ex {h h' : H} (y : EX h h') : ∀ {xs : List F9} {vs : List RV}, WRs h xs vs → WRs h' xs vs
  | [], [], _ => trivial
  | x :: xs, v :: vs, r => ⟨WRd.ex y r.1, WRs.ex y r.2⟩
  | [], _ :: _, r => r.elim
  | _ :: _, [], r => r.elim
def rv0 : RV := ⟨0, 0, 0, 0, 0, 0, false, [], []⟩
theorem WRs.get {h : H} : ∀ {xs : List F9} {vs : List RV}, WRs h xs vs → ∀ j, j < vs.length → WRd h (xs.getD j f90) (vs.getD j rv0)
  | [], [], _, j, hj => by simp at hj
  | x :: xs, v :: vs, r, 0, _ => r.1
  | x :: xs, v :: vs, r, j + 1, hj => WRs.get r.2 j (by simpa using hj)
  | [], _ :: _, r, _, _ => r.elim
  | _ :: _, [], r, _, _ => r.elim
theorem RdW.ex {h h' : H} {s : Sl} {xs : List F9} {vs : List RV} (y : EX h h') (r : RdW h s xs vs) : RdW h' s xs vs := ⟨Rd.ex y r.rd, WRs.ex y r.wrs⟩
theorem RdW.len {h : H} {s : Sl} {xs : List F9} {vs : List RV} (r : RdW h s xs vs) : s.len = vs.length := by
  have := r.rd.len; rw [fsV_length] at this; have := r.wrs.len; omega
theorem PO.ixW {α : Type} {Q : α → Prop} {h : H} {s : Sl} {xs : List F9} {vs : List RV} {j : Int} {g : Addr → Option α} (r : RdW h s xs vs) (h0 : 0 ≤ j) (h1 : j < vs.length)
    (p : ∀ a b, s.base = some b → a = add b (j.toNat * 9) → Abs.ldZ [.int .i64, .int .i64, .int .i64, .int .i64, .int .i64, .int .i64, .bool, .sl, .sl] h a = some (xs.getD j.toNat f90) → WRd h (xs.getD j.toNat f90) (vs.getD j.toNat rv0) → PO (g a) Q) : PO (bindO (ixT 9 s j) g) Q := by
  obtain ⟨a, ha, e⟩ := ixT_ok r.rd h0 (by rw [RdW.len r]; exact h1)
  have hl := r.wrs.len
  have hj : j.toNat < xs.length := by omega
  exact .op e (p _ a ha rfl (Rd.ldZat r.rd ha _ zF (xs.getD j.toNat f90) (fsV_get xs _ hj)) (r.wrs.get _ (by omega)))
def WzOK (vs : List RV) : Prop := ∀ v ∈ vs, v.data.length ≤ 2 ^ 47 ∧ v.spans.length ≤ 2 ^ 50
/-- an append of one frame -/
theorem PO.appF {α : Type} {Q : α → Prop} {h0 h : H} {out : Sl} {xs : List F9} {x : F9} {g : Sl → H → Option α} (hx : EX h0 h) (hb : Buf 9 h out (fsV xs)) (hf : Fr h0.size out) (hl : xs.length + 1 ≤ 2 ^ 40)
    (k : ∀ out1 h2, Buf 9 h2 out1 (fsV (xs ++ [x])) → EX h0 h2 → Fr h0.size out1 → KP h h2 → PO (g out1 h2) Q) : PO (newO (row 47 (f9L x)) h fun b h1 => bind2 (appT 47 9 104 h1 out ⟨some ⟨b, 0, some 0⟩, 1, 1⟩) g) Q := by
  refine PO.newB hx.wf fun h1 x1 B1 z1 w1 => ?_
  have r1 : Rd 9 h1 ⟨some ⟨h.size, 0, some 0⟩, 1, 1⟩ (fsV [x]) := B1.rd w1 rfl (by unfold CapOK; rw [capK_exact (by unfold B63; omega)]; exact Nat.le_refl _)
  have hb1 : Buf 9 h1 out (fsV xs) := hb.ex hx.wf x1
  have hlen := hb1.rd.len
  rw [fsV_length] at hlen
  obtain ⟨s', h', e, k1, x2, b2, _, f2⟩ := appT_ok (e := 47) (bytes := 104) (by omega) (by unfold B63; omega) w1 hb1 r1 (fsV_oneC _) (by simp only; omega) (by simp only; omega)
  refine PO.callE e (k s' h' ?_ (x2 _ (hx.trans x1) hf) (f2 _ (hx.trans x1).size hf) ((x1.kp hx.wf).trans k1))
  rw [fsV_app]; exact b2
theorem FRd.kp {h h' : H} (k : KP h h') {x : F9} {v : FV} (r : FRd h x v) : FRd h' x v := ⟨r.e, RdB.mono r.data k, RdR.mono k r.spans⟩
theorem FRs.kp {h h' : H} {xs : List F9} {vs : List FV} (k : KP h h') (r : FRs h xs vs) : FRs h' xs vs := r.map fun x v => FRd.kp k
end Go.Proofs.Ytaebjajbogedkaa.T
/- A slice of raw frames (structs of six whole numbers, a bool, a slice of bytes and a slice of whole numbers) as a parameter. -/
set_option linter.unusedVariables false
set_option linter.unusedSimpArgs false
namespace Go.Abs
open Go Go.ChangeShapes Go.WideShapes Go.RowKit
structure RawA where
  k : Int
  id : Int
  off : Int
  a : Int
  b : Int
  bend : Int
  fin : Bool
  data : Part
  spans : Part
def IsInts (W : World) (y : Part) : Prop := IsRow .i64 W y.1 y.2.1 y.2.2.1 y.2.2.2 ∧ y.2.1 * 8 ≤ 140737488351232
def rawCells (y : RawA) : List Value := [.int .i64 y.k, .int .i64 y.id, .int .i64 y.off, .int .i64 y.a, .int .i64 y.b, .int .i64 y.bend, .bool y.fin, .slice y.data.1 y.data.2.1 y.data.2.2.1, .slice y.spans.1 y.spans.2.1 y.spans.2.2.1]
def IsRaw (W : World) (y : RawA) : Prop := IsPart W y.data ∧ IsInts W y.spans
def IsRowW (W : World) (a : Option Addr) (len cap : Nat) (ys : List RawA) : Prop :=
  (a = none ∧ len = 0 ∧ cap = 0 ∧ ys = []) ∨
  ∃ x, a = some x ∧ len ≤ cap ∧ cap ≤ maxLen ∧ ys.length = len ∧ ∀ i y, ys[i]? = some y → W.cells? 0 (x.add (i * 9)) 9 = some (rawCells y) ∧ IsRaw W y
theorem one_of_take {cs : List Value} {i : Nat} {v : Value} (h : (cs.drop i).take 1 = [v]) : cs[i]? = some v := by
  have : ((cs.drop i).take 1)[0]? = some v := by rw [h]; rfl
  rwa [List.getElem?_take_of_lt (by omega), List.getElem?_drop, Nat.add_zero] at this
theorem list9 {cs : List Value} {v0 v1 v2 v3 v4 v5 v6 v7 v8 : Value} (hl : cs.length = 9) (h0 : cs[0]? = some v0) (h1 : cs[1]? = some v1) (h2 : cs[2]? = some v2) (h3 : cs[3]? = some v3) (h4 : cs[4]? = some v4) (h5 : cs[5]? = some v5) (h6 : cs[6]? = some v6) (h7 : cs[7]? = some v7) (h8 : cs[8]? = some v8) : cs = [v0, v1, v2, v3, v4, v5, v6, v7, v8] := by
  match cs, hl with
  | [a0, a1, a2, a3, a4, a5, a6, a7, a8], _ => simp at h0 h1 h2 h3 h4 h5 h6 h7 h8; simp_all
theorem isPart_of {H : Type} {enc : TypeId × Value → H} {P : Program} {W : World} {t e : TypeId} {fuel : Nat} {cs : List Value} {x : DataW H × List MemPlace} {ts : List TypeId} {ds : List (DataW H)} {j : Nat} {k : IntKind} {B : Nat}
    (hsz : (DataW.weightsEach P ts ds).all (· ≤ reachBytes) = true) (ht : ts[j]? = some t) (hd : ds[j]? = some x.1) (hu : P.underlying t = some (.slice e)) (he : P.underlying e = some (.int k)) (hc : P.cellsOf e = 1) (hB : P.bytesOf e = B)
    (h : DataW.trod enc P W 0 (fun _ => true) true fuel t cs = some x) : ∃ y : Part, cs = [.slice y.1 y.2.1 y.2.2.1] ∧ IsRow k W y.1 y.2.1 y.2.2.1 y.2.2.2 ∧ y.2.1 * B ≤ 140737488351232 := by
  rcases open_ints hu he hc h with ⟨hcs, _⟩ | ⟨x', l', c', zs, hcs, _⟩
  · subst hcs
    exact ⟨(none, 0, 0, []), rfl, .inl ⟨rfl, rfl, rfl, rfl⟩, by simp⟩
  · subst hcs
    have hT : DataW.Trod enc P W 0 (fun _ => true) true t (.slice (some x') l' c') x.1 x.2 := ⟨fuel, by simpa [Value.cells] using h⟩
    obtain ⟨zs', hz'⟩ := isRow_of hu he hc hT
    exact ⟨(some x', l', c', zs'), rfl, hz', sized_ints hsz ht hd hu he hc hB hT⟩
abbrev flds (tI tB tD tS : TypeId) : List (TypeId × Nat) := [(tI, 0), (tI, 1), (tI, 2), (tI, 3), (tI, 4), (tI, 5), (tB, 6), (tD, 7), (tS, 8)]
theorem isRowW_of {H : Type} {enc : TypeId × Value → H} {P : Program} {W : World} {t e tI tB tD tU tS : TypeId} {fs : Array Field} {a : Option Addr} {len cap : Nat} {d : DataW H} {ps : List MemPlace} {ts : List TypeId} {ds : List (DataW H)} {j : Nat}
    (hsz : (DataW.weightsEach P ts ds).all (· ≤ reachBytes) = true) (ht : ts[j]? = some t) (hd : ds[j]? = some d)
    (hu : P.underlying t = some (.slice e)) (he : P.underlying e = some (.struct fs)) (hF : fs.toList.map (fun f => (f.type, f.offset)) = flds tI tB tD tS)
    (hc : P.cellsOf e = 9) (hB : P.bytesOf e = 104) (hI : P.underlying tI = some (.int .i64)) (cI : P.cellsOf tI = 1) (bI : P.bytesOf tI = 8) (hBo : P.underlying tB = some .bool) (cB : P.cellsOf tB = 1)
    (hD : P.underlying tD = some (.slice tU)) (cD : P.cellsOf tD = 1) (hU : P.underlying tU = some (.int .u8)) (cU : P.cellsOf tU = 1) (bU : P.bytesOf tU = 1) (hS : P.underlying tS = some (.slice tI)) (cS : P.cellsOf tS = 1)
    (h : DataW.Trod enc P W 0 (fun _ => true) true t (.slice a len cap) d ps) : ∃ ys, IsRowW W a len cap ys ∧ len * 104 ≤ 140737488351232 := by
  obtain ⟨fuel, hf⟩ := h
  rcases DataW.trod_slice hu hf with ⟨hcs, _⟩ | ⟨x, l, c, elems, rest, n, rfl, hcs, hx, _, hl, hm, hlen, hel, hsp, _⟩
  · simp [Value.cells] at hcs
    obtain ⟨rfl, rfl, rfl⟩ := hcs
    exact ⟨[], .inl ⟨rfl, rfl, rfl, rfl⟩, by simp⟩
  · simp [Value.cells] at hcs
    obtain ⟨rfl, rfl, rfl⟩ := hcs
    obtain ⟨hx1, _⟩ := Prod.mk.inj hx
    subst hx1
    have z := sized_slice hsz ht hd hu
    rw [hB] at z
    have hz : (reachBytes : Nat) = 140737488351232 := by decide
    simp only [List.length_map] at z
    have fget : ∀ (i : Nat) (p : TypeId × Nat), (flds tI tB tD tS)[i]? = some p → ∃ f : Field, fs[i]? = some f ∧ f.type = p.1 ∧ f.offset = p.2 := by
      intro i p hp
      rw [← hF, List.getElem?_map, Option.map_eq_some_iff] at hp
      obtain ⟨f, h1, rfl⟩ := hp
      exact ⟨f, by simpa using h1, rfl, rfl⟩
    have fsz : fs.size = 9 := by have := congrArg List.length hF; simpa using this
    have each : ∀ i, i < len → ∃ y : RawA, W.cells? 0 (x.add (i * 9)) 9 = some (rawCells y) ∧ IsRaw W y := by
      intro i hi
      have h1 := hel i hi
      obtain ⟨el, hel1⟩ : ∃ el, elems[i]? = some el := ⟨elems[i]'(by omega), List.getElem?_eq_getElem (by omega)⟩
      rw [hel1, hc, Option.bind_eq_some_iff] at h1
      obtain ⟨cs', h2, h3⟩ := h1
      have hw : (DataW.weightsEach P [e] [el.1]).all (· ≤ reachBytes) = true := by
        rw [List.all_eq_true]
        intro m hm'
        refine List.all_eq_true.1 hsz m (DataW.weights_mem_each ht hd m ?_)
        simp only [DataW.weights, hu, List.mem_cons, List.mem_append]
        refine .inr (.inl (weights_all (d := el.1) (List.mem_map.2 ⟨el, List.mem_of_getElem? hel1, rfl⟩) m ?_))
        simpa [DataW.weightsEach] using hm'
      obtain ⟨xs, n', rfl, rfl, hl9, hxl, hxf⟩ := DataW.trod_struct he h3
      rw [hc] at hl9
      rw [fsz] at hxl
      have hw' : (DataW.weightsEach P (fs.toList.map (·.type)) (xs.map (·.1))).all (· ≤ reachBytes) = true := by
        simpa [DataW.weightsEach, DataW.weights, he] using hw
      have fld : ∀ (i : Nat) (p : TypeId × Nat), (flds tI tB tD tS)[i]? = some p → ∃ y, xs[i]? = some y ∧ DataW.trod enc P W 0 (fun _ => true) true n' p.1 ((cs'.drop p.2).take (P.cellsOf p.1)) = some y := by
        intro i p hp
        obtain ⟨f, h1, h2, h3⟩ := fget i p hp
        have hi9 : i < 9 := (List.getElem?_eq_some_iff.1 hp).1
        have := hxf i f h1
        rw [h2, h3] at this
        exact ⟨xs[i]'(by omega), List.getElem?_eq_getElem (by omega), by rw [this]; exact List.getElem?_eq_getElem (by omega)⟩
      have int : ∀ (i : Nat), (flds tI tB tD tS)[i]? = some (tI, i) → ∃ m : Int, cs'[i]? = some (.int .i64 m) := by
        intro i hp
        obtain ⟨y, _, hy⟩ := fld i _ hp
        rw [cI] at hy
        obtain ⟨m, hm, _⟩ := DataW.trod_int hI hy
        exact ⟨m, one_of_take hm⟩
      obtain ⟨m0, c0⟩ := int 0 rfl
      obtain ⟨m1, c1⟩ := int 1 rfl
      obtain ⟨m2, c2⟩ := int 2 rfl
      obtain ⟨m3, c3⟩ := int 3 rfl
      obtain ⟨m4, c4⟩ := int 4 rfl
      obtain ⟨m5, c5⟩ := int 5 rfl
      obtain ⟨y6, _, hy6⟩ := fld 6 (tB, 6) rfl
      rw [cB] at hy6
      obtain ⟨b6, hb6, _⟩ := DataW.trod_bool hBo hy6
      have c6 := one_of_take hb6
      have tsj : ∀ (i : Nat) (p : TypeId × Nat), (flds tI tB tD tS)[i]? = some p → (fs.toList.map (·.type))[i]? = some p.1 := by
        intro i p hp
        obtain ⟨f, h1, h2, _⟩ := fget i p hp
        rw [List.getElem?_map, Option.map_eq_some_iff]
        exact ⟨f, by simpa using h1, h2⟩
      obtain ⟨y7, hx7, hy7⟩ := fld 7 (tD, 7) rfl
      rw [cD] at hy7
      obtain ⟨p7, hp7, hr7, hs7⟩ := isPart_of (j := 7) hw' (tsj 7 (tD, 7) rfl) (by rw [List.getElem?_map, hx7]; rfl) hD hU cU bU hy7
      obtain ⟨y8, hx8, hy8⟩ := fld 8 (tS, 8) rfl
      rw [cS] at hy8
      obtain ⟨p8, hp8, hr8, hs8⟩ := isPart_of (j := 8) hw' (tsj 8 (tS, 8) rfl) (by rw [List.getElem?_map, hx8]; rfl) hS hI cI bI hy8
      refine ⟨⟨m0, m1, m2, m3, m4, m5, b6, p7, p8⟩, ?_, ⟨hr7, by simpa using hs7⟩, hr8, hs8⟩
      rw [h2]
      exact congrArg some (list9 hl9 c0 c1 c2 c3 c4 c5 c6 (one_of_take hp7) (one_of_take hp8))
    have hf : ∃ f : Nat → RawA, ∀ i, i < len → W.cells? 0 (x.add (i * 9)) 9 = some (rawCells (f i)) ∧ IsRaw W (f i) :=
      ⟨fun i => if hi : i < len then Classical.choose (each i hi) else ⟨0, 0, 0, 0, 0, 0, false, (none, 0, 0, []), (none, 0, 0, [])⟩, fun i hi => by
        simp only [dif_pos hi]; exact Classical.choose_spec (each i hi)⟩
    obtain ⟨f, hf⟩ := hf
    refine ⟨(List.range len).map f, .inr ⟨x, rfl, hl, hm, by simp, fun i y hy => ?_⟩, by omega⟩
    rw [List.getElem?_map, Option.map_eq_some_iff] at hy
    obtain ⟨k, hk, rfl⟩ := hy
    obtain ⟨hk1, hk2⟩ := List.getElem?_eq_some_iff.1 hk
    rw [List.getElem_range] at hk2
    subst hk2
    exact hf i (by simpa using hk1)
end Go.Abs
