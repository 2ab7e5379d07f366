/- Lemmas about the typed texts (joined: S4 S5 S6). -/
import Derived.Test.YtaebjajbogedkaaG1
import Derived.SizedLaws
import Derived.ChangeSlices
/- Laws of memory for the typed texts: stores into buffers; new rows; counting loops. -/
set_option linter.unusedVariables false
set_option linter.unusedSimpArgs false
namespace Go.Abs
open Go
theorem RdI.mono {k : IntKind} {h h' : H} {s : Sl} {zs : List Int} (r : RdI k h s zs) (x : KP h h') : RdI k h' s zs := Rd.mono r x
theorem RdI.ex {k : IntKind} {h h' : H} {s : Sl} {zs : List Int} (x : EX h h') (r : RdI k h s zs) : RdI k h' s zs := Rd.ex x r
theorem newO_eq {α : Type} (ob : AObj) (h : H) (f : Nat → H → Option α) : newO ob h f = f h.size (newAt (grow h 1) h.size ob) := rfl
/-- a store into a buffer -/
theorem st1_buf {h h0 : H} {s : Sl} {l : List Value} {i : Nat} {v : Value} {a : Addr} (hs : Buf 1 h s l) (ha : s.base = some a) (hi : i < l.length) (ho : oneC v = true) (w : WF h) :
    ∃ h', st1 h (add a i) v = some h' ∧ WF h' ∧ Buf 1 h' s (l.set i v) ∧ (∀ h0, EX h0 h → Fr h0.size s → EX h0 h') ∧ (∀ s' l', Rd 1 h s' l' → (∀ a', s'.base = some a' → a'.block ≠ a.block) → Rd 1 h' s' l') := by
  rcases hs.tip with ht | ⟨a', r, e, ha', hobj, hsp, hver, hnro, hoff, hcap⟩
  · rw [ht] at ha; simp at ha
  rw [ha] at ha'
  simp only [Option.some.injEq] at ha'
  subst ha'
  have hll := hs.rd.len
  have hlt : a.block < h.size := by
    rcases Nat.lt_or_ge a.block h.size with x | x
    · exact x
    · rw [w.top _ x] at hobj; simp at hobj
  have hc : stCell h (add a i) v = some { h with tick := h.tick + 1, objs := h.objs.set a.block (.arr { r with cells := r.cells.set (a.off + i) ⟨v, e⟩ }) } := by
    unfold stCell
    simp only [add, hobj, hsp]
    have : (e.beq r.ver && h.nro.ble a.block && (a.off + i).blt r.size && oneC v) = true := by
      simp only [Bool.and_eq_true, nbeq_eq, Nat.ble_eq, Nat.blt_eq]
      exact ⟨⟨⟨hver.symm, hnro⟩, by omega⟩, ho⟩
    rw [this]; rfl
  have get : ∀ B, ({ h with tick := h.tick + 1, objs := h.objs.set a.block (.arr { r with cells := r.cells.set (a.off + i) ⟨v, e⟩ }) } : H).objs.get B = if B = a.block then some (.arr { r with cells := r.cells.set (a.off + i) ⟨v, e⟩ }) else h.objs.get B := fun B => Tr.get_set _ _ _ _
  have wf' : WF { h with tick := h.tick + 1, objs := h.objs.set a.block (.arr { r with cells := r.cells.set (a.off + i) ⟨v, e⟩ }) } := by
    refine ⟨w.nro, fun B hB => ?_, fun B r' hr j c hj => ?_⟩
    · have hB' : h.size ≤ B := hB
      rw [get, if_neg (by omega)]; exact w.top B hB'
    · rw [get] at hr
      split at hr
      · simp only [Option.some.injEq, AObj.arr.injEq] at hr
        subst hr
        simp only [Tr.get_set] at hj ⊢
        split at hj
        · omega
        · exact w.arr a.block r hobj j c hj
      · exact w.arr B r' hr j c hj
  have ldo : ∀ b : Addr, b.block ≠ a.block → ldCell { h with tick := h.tick + 1, objs := h.objs.set a.block (.arr { r with cells := r.cells.set (a.off + i) ⟨v, e⟩ }) } b = ldCell h b := by
    intro b hb
    rw [ldCell_eq, ldCell_eq, get, if_neg hb]
  refine ⟨_, by unfold st1 stCells; rw [hc]; rfl, wf', ⟨⟨by simpa using hll, hs.rd.nil, fun b hb j u hj => ?_, hs.rd.cap⟩, ?_⟩, fun h0 hx hf => ?_, fun s' l' hr hne => ?_⟩
  · rw [ha] at hb
    simp only [Option.some.injEq] at hb
    subst hb
    refine ⟨hlt, ?_⟩
    rw [ldCell_eq]
    show ldO ((Tr.set h.objs a.block _).get a.block) _ = some u
    rw [Tr.get_set, if_pos rfl]
    simp only [ldO, add, hsp, Tr.get_set]
    rw [List.getElem?_set] at hj
    by_cases hij : i = j
    · subst hij
      rw [if_pos rfl] at hj
      rw [if_pos hi] at hj
      rw [if_pos rfl]
      have : e.ble e = true := by simp
      simp only [this, cond_true]
      exact hj
    · rw [if_neg hij] at hj
      rw [if_neg (by omega)]
      have := (hs.rd.ld a ha j u hj).2
      rw [ldCell_eq] at this
      simp only [ldO, add, hobj, hsp] at this
      exact this
  · refine .inr ⟨a, { r with cells := r.cells.set (a.off + i) ⟨v, e⟩ }, e, ha, ?_, hsp, hver, hnro, hoff, hcap⟩
    show (Tr.set _ _ _).get _ = _
    rw [Tr.get_set, if_pos rfl]
  · have hb := hf a ha
    exact ⟨hx.size, hx.nro, wf', fun B hB => by rw [get, if_neg (by omega)]; exact hx.same B hB, hx.st⟩
  · refine ⟨hr.len, hr.nil, fun b hb j u hj => ?_, hr.cap⟩
    obtain ⟨g1, g2⟩ := hr.ld b hb j u hj
    refine ⟨g1, ?_⟩
    exact (ldo (add b j) (hne b hb)).trans g2
theorem st1_bufB {h : H} {s : Sl} {l : List UInt8} {i : Nat} {v : UInt8} {a : Addr} (hs : BufB h s l) (ha : s.base = some a) (hi : i < l.length) (w : WF h) :
    ∃ h', st1 h (add a i) (.int .u8 (v.toNat : Int)) = some h' ∧ WF h' ∧ BufB h' s (l.set i v) ∧ (∀ h0, EX h0 h → Fr h0.size s → EX h0 h') := by
  obtain ⟨h', a1, a0, a2, a3, _⟩ := st1_buf (h0 := h) (v := .int .u8 (v.toNat : Int)) hs ha (by simpa [vB] using hi) rfl w
  refine ⟨h', a1, a0, ?_, a3⟩
  unfold BufB
  have : vB (l.set i v) = (vB l).set i (.int .u8 (v.toNat : Int)) := by simp [vB, List.map_set]
  rw [this]; exact a2
/-- a new row -/
theorem bufI_new {h : H} (w : WF h) (e : TypeId) (k : IntKind) (zs : List Int) (hz : zs.length < B63) : Buf 1 (newAt (grow h 1) h.size (row e (zs.map (.int k)))) ⟨some ⟨h.size, 0, some 0⟩, zs.length, zs.length⟩ (zs.map (.int k)) :=
  buf_new w e 1 _ _ _ (by simp) (by unfold CapOK; rw [capK_exact hz]; exact Nat.le_refl _) (by rw [capK_exact hz])
theorem bufB_new {h : H} (w : WF h) (e : TypeId) (l : List UInt8) (hz : l.length < B63) : BufB (newAt (grow h 1) h.size (row e (vB l))) ⟨some ⟨h.size, 0, some 0⟩, l.length, l.length⟩ l :=
  buf_new w e 1 _ _ _ (by simp [vB]) (by unfold CapOK; rw [capK_exact hz]; exact Nat.le_refl _) (by rw [capK_exact hz])
theorem eqLT_nil (s : Sl) (hs : s.base = none → s.len = 0 ∧ s.cap = 0) : eqLT s ⟨none, 0, 0⟩ = some s.base.isNone := by
  obtain ⟨b, l, c⟩ := s
  cases b with
  | none => rfl
  | some a => rfl
theorem fr_new (h : H) (n c : Nat) : Fr h.size ⟨some ⟨h.size, 0, some 0⟩, n, c⟩ := fun a ha => by
  simp only [Option.some.injEq] at ha; subst ha; exact Nat.le_refl _
theorem fr_nil (n : Nat) : Fr n ⟨none, 0, 0⟩ := fun a ha => by simp at ha
theorem Fr.mono {n m : Nat} {s : Sl} (h : Fr n s) (hm : m ≤ n) : Fr m s := fun a ha => Nat.le_trans hm (h a ha)
end Go.Abs
/- Rows of laws with slices: how long an argument may be, what its numbers may be. -/
set_option linter.unusedVariables false
set_option linter.unusedSimpArgs false
namespace Go.Abs
open Go Go.ChangeShapes Go.WideShapes
theorem sized_ints {H : Type} {enc : TypeId × Value → H} {P : Program} {W : World} {base : Nat} {spare : Nat → Bool} {held : Bool} {t e : TypeId} {k : IntKind} {a : Option Addr} {len cap : Nat} {d : DataW H} {ps : List MemPlace} {ts : List TypeId} {ds : List (DataW H)} {j : Nat}
    (hsz : (DataW.weightsEach P ts ds).all (· ≤ reachBytes) = true) (ht : ts[j]? = some t) (hd : ds[j]? = some d) (hu : P.underlying t = some (.slice e)) (he : P.underlying e = some (.int k)) (hc : P.cellsOf e = 1) {B : Nat} (hB : P.bytesOf e = B)
    (h : DataW.Trod enc P W base spare held t (.slice a len cap) d ps) : len * B ≤ 140737488351232 := by
  obtain ⟨fuel, hf⟩ := h
  rcases open_ints hu he hc hf with ⟨hcs, _⟩ | ⟨x, l, c, zs, hcs, _, hl, _, hz, hx, _, _⟩
  · simp [Value.cells] at hcs
    obtain ⟨rfl, rfl, rfl⟩ := hcs
    simp
  · simp [Value.cells] at hcs
    obtain ⟨rfl, rfl, rfl⟩ := hcs
    obtain ⟨hx, _⟩ := Prod.mk.inj hx
    subst hx
    have z := sized_slice hsz ht hd hu
    rw [hB] at z
    have hl2 : len ≤ zs.length := by
      rw [hz]
      split
      · exact hl
      · exact Nat.le_refl _
    have h1 : (lits (H := H) k (zs.take len)).length + (lits (H := H) k (zs.drop len)).length = zs.length := by
      simp [lits]
      omega
    rw [h1] at z
    exact Nat.le_trans (Nat.mul_le_mul_right _ hl2) z
theorem isRow_of {k : IntKind} {H : Type} {enc : TypeId × Value → H} {P : Program} {W : World} {t e : TypeId} {a : Option Addr} {len cap : Nat} {d : DataW H} {ps : List MemPlace} (hu : P.underlying t = some (.slice e)) (he : P.underlying e = some (.int k)) (hc : P.cellsOf e = 1)
    (h : DataW.Trod enc P W 0 (fun _ => true) true t (.slice a len cap) d ps) : ∃ zs, IsRow k W a len cap zs := by
  obtain ⟨fuel, hf⟩ := h
  rcases open_ints hu he hc hf with ⟨hcs, _⟩ | ⟨x, l, c, zs, hcs, _, hl, hm, hz, _, hcell, hwz⟩
  · simp [Value.cells] at hcs
    obtain ⟨rfl, rfl, rfl⟩ := hcs
    exact ⟨[], .inl ⟨rfl, rfl, rfl, rfl⟩⟩
  · simp [Value.cells] at hcs
    obtain ⟨rfl, rfl, rfl⟩ := hcs
    exact ⟨zs, .inr ⟨_, rfl, hl, hm, by simpa using hz, hcell, hwz⟩⟩
theorem wf_i64 {n : Int} (h : (Lit.int .i64 n).wf = true) : -9223372036854775808 ≤ n ∧ n ≤ 9223372036854775807 := by
  simp [Lit.wf, IntKind.has, IntKind.min, IntKind.max, IntKind.signed, IntKind.bits] at h
  omega
theorem wf_u64 {n : Int} (h : (Lit.int .u64 n).wf = true) : 0 ≤ n ∧ n < 18446744073709551616 := by
  simp [Lit.wf, IntKind.has, IntKind.min, IntKind.max, IntKind.signed, IntKind.bits] at h
  omega
theorem wf_u8 {n : Int} (h : (Lit.int .u8 n).wf = true) : 0 ≤ n ∧ n < 256 := by
  simp [Lit.wf, IntKind.has, IntKind.min, IntKind.max, IntKind.signed, IntKind.bits] at h
  omega
theorem isRow_i64 {W : World} {a : Option Addr} {len cap : Nat} {zs : List Int} (h : IsRow .i64 W a len cap zs) : ∀ n ∈ zs.take len, -9223372036854775808 ≤ n ∧ n ≤ 9223372036854775807 := by
  intro n hn
  rcases h with ⟨rfl, rfl, rfl, rfl⟩ | ⟨x, rfl, h1, h2, h3, h4, h5⟩
  · simp at hn
  · exact wf_i64 (h5 n (List.mem_of_mem_take hn))
theorem bytesIn_len (zs : List Int) (len : Nat) : (bytesIn (zs.take len)).length ≤ len := by simp [bytesIn]; omega
theorem ints_len (zs : List Int) (len : Nat) : (zs.take len).length ≤ len := by simp; omega
end Go.Abs
/- Laws of memory for the typed texts: rows that are laid at reserved blocks (regions of open order). -/
set_option linter.unusedVariables false
set_option linter.unusedSimpArgs false
namespace Go.Abs
open Go
theorem ex_grow {h : H} (w : WF h) (k : Nat) : EX h (grow h k) :=
  ⟨Nat.le_add_right _ _, rfl, ⟨Nat.le_trans w.nro (Nat.le_add_right _ _), fun A hA => w.top A (Nat.le_trans (Nat.le_add_right _ _) hA), w.arr⟩, fun _ _ => rfl, rfl⟩
theorem ex_growIf {h : H} (w : WF h) (k : Nat) : EX h (growIf h k) := by rw [growIf_eq]; exact ex_grow w k
theorem growIf_size (h : H) (k : Nat) : (growIf h k).size = h.size + k := by rw [growIf_eq]; rfl
theorem ex_tick {h : H} (w : WF h) (k : Nat) : EX h (tickIf k h) := by
  unfold tickIf
  cases k.beq 0
  · exact ⟨Nat.le_refl _, rfl, ⟨w.nro, w.top, w.arr⟩, fun _ _ => rfl, rfl⟩
  · exact EX.refl w
theorem addP_nil (mask n0 : Nat) (h : H) : addP mask n0 [] h = h := rfl
theorem addP_off {mask n0 i : Nat} {ob : AObj} {l : List (Nat × AObj)} {h : H} (hm : mask.testBit i = false) : addP mask n0 ((i, ob) :: l) h = addP mask n0 l h := by
  show (bif mask.testBit i then _ else _) = _
  rw [hm]; rfl
theorem addP_new {mask n0 i : Nat} {ob : AObj} {l : List (Nat × AObj)} {h : H} (hm : mask.testBit i = true) (hn : h.objs.get (n0 + i) = none) : addP mask n0 ((i, ob) :: l) h = addP mask n0 l (newAt h (n0 + i) ob) := by
  show (bif mask.testBit i then (match h.objs.get (n0 + i) with | none => _ | some _ => _) else _) = _
  rw [hm, hn]; rfl
theorem addP_old {mask n0 i : Nat} {ob : AObj} {l : List (Nat × AObj)} {h : H} (hm : mask.testBit i = true) (hn : h.objs.get (n0 + i) ≠ none) : addP mask n0 ((i, ob) :: l) h = addP mask n0 l h := by
  show (bif mask.testBit i then (match h.objs.get (n0 + i) with | none => _ | some _ => _) else _) = _
  rw [hm]
  cases hg : h.objs.get (n0 + i) with
  | none => exact absurd hg hn
  | some o => rfl
theorem newAt_get (h : H) (B : Nat) (ob : AObj) (A : Nat) : (newAt h B ob).objs.get A = if A = B then some ob else h.objs.get A := Tr.get_set _ _ _ _
/-- a row laid at a block that is reserved -/
theorem wf_at {h : H} (w : WF h) {B : Nat} (hB : B < h.size) (e : TypeId) (l : List Value) : WF (newAt h B (row e l)) := by
  refine ⟨w.nro, fun A hA => ?_, fun A r hr i c hc => ?_⟩
  · have hA' : h.size ≤ A := hA
    rw [newAt_get, if_neg (by omega)]; exact w.top A hA'
  · rw [newAt_get] at hr
    split at hr
    · simp only [row, Option.some.injEq, AObj.arr.injEq] at hr
      subst hr
      simp only [get_ofL] at hc
      cases hl : l[i]? with
      | none => rw [hl] at hc; simp at hc
      | some v => exact (List.getElem?_eq_some_iff.1 hl).1
    · exact w.arr A r hr i c hc
theorem ex_at {h0 h : H} (w : WF h) (x : EX h0 h) {B : Nat} (h0B : h0.size ≤ B) (hB : B < h.size) (e : TypeId) (l : List Value) : EX h0 (newAt h B (row e l)) :=
  ⟨x.size, x.nro, wf_at w hB e l, fun A hA => by rw [newAt_get, if_neg (by omega)]; exact x.same A hA, x.st⟩
theorem rd_at {sz : Nat} {h : H} {B : Nat} (hn : h.objs.get B = none) (e : TypeId) (l : List Value) {s : Sl} {m : List Value} (r : Rd sz h s m) : Rd sz (newAt h B (row e l)) s m := by
  refine ⟨r.len, r.nil, fun a ha i v hi => ?_, r.cap⟩
  obtain ⟨h1, h2⟩ := r.ld a ha i v hi
  refine ⟨h1, ?_⟩
  rw [ldCell_eq] at h2 ⊢
  rw [newAt_get]
  split
  · rename_i e'; rw [e', hn] at h2; simp [ldO] at h2
  · exact h2
theorem buf_at {sz : Nat} {h : H} {B : Nat} (hn : h.objs.get B = none) (e : TypeId) (l : List Value) {s : Sl} {m : List Value} (r : Buf sz h s m) : Buf sz (newAt h B (row e l)) s m := by
  refine ⟨rd_at hn e l r.rd, ?_⟩
  rcases r.tip with ht | ⟨a, q, e', h1, h2, h3, h4, h5, h6, h7⟩
  · exact .inl ht
  · refine .inr ⟨a, q, e', h1, ?_, h3, h4, h5, h6, h7⟩
    rw [newAt_get, if_neg (by intro e; rw [e, hn] at h2; simp at h2)]; exact h2
theorem buf_row_at {h : H} {B : Nat} (hnro : h.nro ≤ B) (hB : B < h.size) (e : TypeId) (k : IntKind) (zs : List Int) (hz : zs.length < B63) : Buf 1 (newAt h B (row e (zs.map (.int k)))) ⟨some ⟨B, 0, some 0⟩, zs.length, zs.length⟩ (zs.map (.int k)) := by
  refine ⟨⟨by simp, fun h => by simp at h, fun a ha i v hi => ?_, fun _ => by unfold CapOK; rw [capK_exact hz]; exact Nat.le_refl _⟩, .inr ⟨_, ⟨e, (zs.map (Value.int k)).length, 0, ofL (zs.map (.int k))⟩, 0, rfl, ?_, rfl, rfl, hnro, by simp, by simp only [capK_exact hz]⟩⟩
  · simp only [Option.some.injEq] at ha
    subst ha
    refine ⟨hB, ?_⟩
    rw [ldCell_eq]
    show ldO ((newAt h B (row e (zs.map (Value.int k)))).objs.get B) _ = _
    rw [newAt_get, if_pos rfl]
    simp only [row, ldO, add, get_ofL, Nat.zero_add, hi, Option.map_some]
    rfl
  · rw [newAt_get, if_pos rfl]; rfl
theorem fr_at (B n : Nat) {m : Nat} (h : m ≤ B) (c : Nat) : Fr m ⟨some ⟨B, 0, some 0⟩, n, c⟩ := fun a ha => by
  simp only [Option.some.injEq] at ha; subst ha; exact h
end Go.Abs
