/- Laws of memory for the typed texts: rows that are known whole (boxes of variables); heaps that differ at some blocks alone. -/
import Derived.Test.YthiccnmplgdheaaS7
set_option linter.unusedVariables false
set_option linter.unusedSimpArgs false
namespace Go.Abs
open Go
/-- a heap that goes on; what was there stays, but at the blocks of S -/
structure UP (S : Nat → Prop) (h h' : H) : Prop where
  size : h.size ≤ h'.size
  nro : h'.nro = h.nro
  wf : WF h'
  same : ∀ A, A < h.size → ¬ S A → h'.objs.get A = h.objs.get A
theorem EX.up {h h' : H} {S : Nat → Prop} (x : EX h h') : UP S h h' := ⟨x.size, x.nro, x.wf, fun A hA _ => x.same A hA⟩
theorem UP.ex0 {h0 h h' : H} {S : Nat → Prop} (u : UP S h h') (x : EX h0 h) (hS : ∀ A, A < h0.size → ¬ S A) : EX h0 h' :=
  ⟨Nat.le_trans x.size u.size, u.nro.trans x.nro, u.wf, fun A hA => (u.same A (Nat.lt_of_lt_of_le hA x.size) (hS A hA)).trans (x.same A hA)⟩
theorem UP.trans {h h1 h2 : H} {S T : Nat → Prop} (a : UP S h h1) (b : UP T h1 h2) (hT : ∀ A, A < h.size → T A → S A) : UP S h h2 :=
  ⟨Nat.le_trans a.size b.size, b.nro.trans a.nro, b.wf, fun A hA hn => (b.same A (Nat.lt_of_lt_of_le hA a.size) (fun t => hn (hT A hA t))).trans (a.same A hA hn)⟩
theorem UP.ex {h h1 h2 : H} {S : Nat → Prop} (a : UP S h h1) (x : EX h1 h2) : UP S h h2 := a.trans (T := fun _ => False) x.up (fun _ _ t => t.elim)
theorem EX.trans_up {h h1 h2 : H} {S : Nat → Prop} (x : EX h h1) (b : UP S h1 h2) : UP S h h2 := (x.up (S := S)).trans b (fun _ _ t => t)
theorem UP.mono {h h1 : H} {S T : Nat → Prop} (a : UP S h h1) (hS : ∀ A, A < h.size → S A → T A) : UP T h h1 :=
  ⟨a.size, a.nro, a.wf, fun A hA hn => a.same A hA fun s => hn (hS A hA s)⟩
theorem UP.refl {h : H} {S : Nat → Prop} (w : WF h) : UP S h h := (EX.refl w).up
theorem lt_of_get {h : H} (w : WF h) {A : Nat} {o : AObj} (e : h.objs.get A = some o) : A < h.size := by
  rcases Nat.lt_or_ge A h.size with x | x
  · exact x
  · rw [w.top A x] at e; simp at e
theorem lt_of_ld {h : H} (w : WF h) {a : Addr} {v : Value} (e : ldCell h a = some v) : a.block < h.size := by
  rcases Nat.lt_or_ge a.block h.size with x | x
  · exact x
  · rw [ldCell_eq, w.top _ x] at e; simp [ldO] at e
theorem UP.ld {h h' : H} {S : Nat → Prop} (u : UP S h h') {a : Addr} {v : Value} (hlt : a.block < h.size) (hn : ¬ S a.block) (e : ldCell h a = some v) : ldCell h' a = some v := by
  rw [ldCell_eq] at e ⊢; rw [u.same _ hlt hn]; exact e
theorem Rd.up {sz : Nat} {h h' : H} {S : Nat → Prop} {s : Sl} {l : List Value} (r : Rd sz h s l) (u : UP S h h') (hn : ∀ a, s.base = some a → ¬ S a.block) : Rd sz h' s l :=
  ⟨r.len, r.nil, fun a ha i v hi => let ⟨h1, h2⟩ := r.ld a ha i v hi; ⟨Nat.lt_of_lt_of_le h1 u.size, u.ld (a := add a i) h1 (hn a ha) h2⟩, r.cap⟩
theorem Buf.up {sz : Nat} {h h' : H} {S : Nat → Prop} {s : Sl} {l : List Value} (w : WF h) (r : Buf sz h s l) (u : UP S h h') (hn : ∀ a, s.base = some a → ¬ S a.block) : Buf sz h' s l := by
  refine ⟨r.rd.up u hn, ?_⟩
  rcases r.tip with ht | ⟨a, q, e, h1, h2, h3, h4, h5, h6, h7⟩
  · exact .inl ht
  · exact .inr ⟨a, q, e, h1, (u.same _ (lt_of_get w h2) (hn a h1)).trans h2, h3, h4, by rw [u.nro]; exact h5, h6, h7⟩
/-! boxes -/
structure Box (h : H) (b : Nat) (l : List Value) : Prop where
  get : ∃ e c, h.objs.get b = some (.arr ⟨e, l.length, 0, c⟩) ∧ ∀ i v, l[i]? = some v → c.get i = some ⟨v, 0⟩
  nro : h.nro ≤ b
  blt : b < h.size
theorem Box.lt {h : H} {b : Nat} {l : List Value} (B : Box h b l) (w : WF h) : b < h.size := B.blt
theorem Box.up {h h' : H} {S : Nat → Prop} {b : Nat} {l : List Value} (B : Box h b l) (w : WF h) (u : UP S h h') (hn : ¬ S b) : Box h' b l := by
  obtain ⟨e, c, h1, h2⟩ := B.get
  exact ⟨⟨e, c, (u.same b B.blt hn).trans h1, h2⟩, by rw [u.nro]; exact B.nro, Nat.lt_of_lt_of_le B.blt u.size⟩
theorem Box.ku {h h' : H} {S : Nat → Prop} {b : Nat} {l : List Value} (u : UP S h h') (hn : ¬ S b) (B : Box h b l) : Box h' b l := by
  obtain ⟨e, c, h1, h2⟩ := B.get
  exact ⟨⟨e, c, (u.same b B.blt hn).trans h1, h2⟩, by rw [u.nro]; exact B.nro, Nat.lt_of_lt_of_le B.blt u.size⟩
theorem Box.kx {h h' : H} {b : Nat} {l : List Value} (x : EX h h') (B : Box h b l) : Box h' b l := B.ku (x.up (S := fun _ => False)) id
theorem Rd.kx {sz : Nat} {h h' : H} {s : Sl} {l : List Value} (x : EX h h') (r : Rd sz h s l) : Rd sz h' s l := r.ex x
/-- a slice that was there ahead of the row that is written -/
theorem Rd.old {sz b : Nat} {h0 h h' : H} {s : Sl} {l : List Value} (u : UP (· = b) h h') (r0 : Rd sz h0 s l) (hb : h0.size ≤ b) (r : Rd sz h s l) : Rd sz h' s l :=
  ⟨r.len, r.nil, fun a ha i v hi => let ⟨h1, h2⟩ := r.ld a ha i v hi; ⟨Nat.lt_of_lt_of_le h1 u.size, u.ld (a := add a i) h1 (fun e => by have := (r0.ld a ha i v hi).1; have e' : a.block = b := e; omega) h2⟩, r.cap⟩
theorem Box.ex {h h' : H} {b : Nat} {l : List Value} (B : Box h b l) (w : WF h) (x : EX h h') : Box h' b l := B.up w (x.up (S := fun _ => False)) id
theorem Box.ld {h : H} {b : Nat} {l : List Value} (B : Box h b l) {i : Nat} {v : Value} (hi : l[i]? = some v) : ldCell h (add ⟨b, 0, some 0⟩ i) = some v := by
  obtain ⟨e, c, h1, h2⟩ := B.get
  rw [ldCell_eq]
  show ldO (h.objs.get b) _ = _
  rw [h1]
  simp only [ldO, add, Nat.zero_add, h2 i v hi]; rfl
theorem Box.ld0 {h : H} {b : Nat} {l : List Value} (B : Box h b l) {v : Value} (hi : l[0]? = some v) : ldCell h ⟨b, 0, some 0⟩ = some v := B.ld hi
theorem Z.dec_enc' : ∀ (z : Z) (x : z.T), z.dec (z.enc x) = some x
  | .int k, x => by simp [Z.dec, Z.enc, asInt]
  | .bool, x => rfl
  | .str, x => rfl
  | .ptr, x => rfl
  | .sl, x => rfl
  | .map, x => rfl
  | .any, x => rfl
  | .clo f n, x => by
    have : ∀ (n : Nat) (x : CloT n), decClo n (encClo n x) = some x := by
      intro n
      induction n using Nat.strongRecOn with
      | _ n ih =>
        match n with
        | 0 => intro x; rfl
        | 1 => intro x; rfl
        | n + 2 => intro x; simp only [encClo, decClo, asPtr0]; rw [ih (n + 1) (by omega)]
    simp only [Z.dec, Z.enc, asClo, Nat.beq_refl, cond_true]
    exact this n x
theorem decL_encL : ∀ (zs : List Z) (x : ZT zs), decL zs (encL zs x) = some x
  | [], x => rfl
  | [z], x => z.dec_enc' x
  | z :: z' :: zs, x => by simp only [encL, decL, z.dec_enc', decL_encL (z' :: zs) x.2]; rfl
theorem encL_length : ∀ (zs : List Z) (x : ZT zs), (encL zs x).length = zs.length
  | [], x => rfl
  | [z], x => rfl
  | z :: z' :: zs, x => by simp only [encL, List.length_cons, encL_length (z' :: zs) x.2]
theorem ldZ_of {zs : List Z} {h : H} {a : Addr} {x : ZT zs} (e : ldCells h a zs.length = some (encL zs x)) : ldZ zs h a = some x := by
  unfold ldZ
  rw [e]
  simp only [Option.map_some, decO, decV, cond_true]
  exact decL_encL zs x
theorem Box.cells {h : H} {b : Nat} {l : List Value} (B : Box h b l) (k n : Nat) (hk : k + n ≤ l.length) : ldCells h (add ⟨b, 0, some 0⟩ k) n = some ((l.drop k).take n) := by
  have hl : ((l.drop k).take n).length = n := by simp; omega
  have := ldCells_of (h := h) ((l.drop k).take n) (add ⟨b, 0, some 0⟩ k) (fun i v hi => by
    have hlt := (List.getElem?_eq_some_iff.1 hi).1
    rw [hl] at hlt
    rw [List.getElem?_take_of_lt hlt, List.getElem?_drop] at hi
    rw [add_add]
    exact B.ld hi)
  rwa [hl] at this
theorem Box.ldZ {h : H} {b : Nat} {l : List Value} (B : Box h b l) (zs : List Z) (x : ZT zs) (hl : l = encL zs x) : Abs.ldZ zs h ⟨b, 0, some 0⟩ = some x := by
  refine ldZ_of ?_
  have h1 := encL_length zs x
  have := B.cells 0 zs.length (by rw [hl, h1]; omega)
  rw [addA_zero] at this
  rw [this, hl, List.drop_zero, ← h1, List.take_length]
theorem Box.ldZat {h : H} {b : Nat} {l : List Value} (B : Box h b l) (k : Nat) (zs : List Z) (x : ZT zs) (hl : (l.drop k).take zs.length = encL zs x) : Abs.ldZ zs h (add ⟨b, 0, some 0⟩ k) = some x := by
  refine ldZ_of ?_
  have h1 := encL_length zs x
  have h2 : zs.length ≤ (l.drop k).length := by rw [← h1, ← hl]; simp; omega
  rcases Nat.eq_zero_or_pos zs.length with h0 | h0
  · rw [h0] at hl ⊢; rw [← hl]; rfl
  · have := B.cells k zs.length (by simp at h2; omega)
    rw [this, hl]
section
variable {h : H} {b : Nat} {l : List Value} {i : Nat}
theorem Box.ldI (B : Box h b l) {k : IntKind} {n : Int} (hi : l[i]? = some (.int k n)) : Abs.ldI k h (add ⟨b, 0, some 0⟩ i) = some n := ldI_of (B.ld hi)
theorem Box.ldI0 (B : Box h b l) {k : IntKind} {n : Int} (hi : l[0]? = some (.int k n)) : Abs.ldI k h ⟨b, 0, some 0⟩ = some n := ldI_of (B.ld hi)
theorem ldB_of {h : H} {a : Addr} {n : Bool} (e : ldCell h a = some (.bool n)) : Abs.ldB h a = some n := by unfold Abs.ldB; rw [e]; rfl
theorem ldP_of {h : H} {a : Addr} {n : Option Addr} (e : ldCell h a = some (.pointer n)) : Abs.ldP h a = some n := by unfold Abs.ldP; rw [e]; rfl
theorem ldS_of {h : H} {a : Addr} {n : ByteArray} (e : ldCell h a = some (.string n)) : Abs.ldS h a = some n := by unfold Abs.ldS; rw [e]; rfl
theorem ldM_of {h : H} {a : Addr} {n : Option Nat} (e : ldCell h a = some (.map n)) : Abs.ldM h a = some n := by unfold Abs.ldM; rw [e]; rfl
theorem Box.ldB (B : Box h b l) {n : Bool} (hi : l[i]? = some (.bool n)) : Abs.ldB h (add ⟨b, 0, some 0⟩ i) = some n := ldB_of (B.ld hi)
theorem Box.ldP (B : Box h b l) {n : Option Addr} (hi : l[i]? = some (.pointer n)) : Abs.ldP h (add ⟨b, 0, some 0⟩ i) = some n := ldP_of (B.ld hi)
theorem Box.ldL (B : Box h b l) {n : Sl} (hi : l[i]? = some (encSl n)) : Abs.ldL h (add ⟨b, 0, some 0⟩ i) = some n := ldL_of (B.ld hi)
theorem Box.ldL0 (B : Box h b l) {n : Sl} (hi : l[0]? = some (encSl n)) : Abs.ldL h ⟨b, 0, some 0⟩ = some n := ldL_of (B.ld hi)
theorem Box.ldB0 (B : Box h b l) {n : Bool} (hi : l[0]? = some (.bool n)) : Abs.ldB h ⟨b, 0, some 0⟩ = some n := ldB_of (B.ld hi)
theorem Box.ldP0 (B : Box h b l) {n : Option Addr} (hi : l[0]? = some (.pointer n)) : Abs.ldP h ⟨b, 0, some 0⟩ = some n := ldP_of (B.ld hi)
end
/-! new boxes -/
theorem box_row {h : H} (w : WF h) (e : TypeId) (l : List Value) : EX h (newAt (grow h 1) h.size (row e l)) ∧ Box (newAt (grow h 1) h.size (row e l)) h.size l := by
  refine ⟨wf_new w e l, ⟨⟨e, ofL l, ?_, fun i v hi => ?_⟩, w.nro, Nat.lt_succ_self _⟩⟩
  · show (Tr.set _ _ _).get _ = _
    rw [Tr.get_set, if_pos rfl]; rfl
  · rw [get_ofL, hi]; rfl
theorem box_at {h : H} {B : Nat} (hn : h.nro ≤ B) (hB : B < h.size) (e : TypeId) (l : List Value) : Box (newAt h B (row e l)) B l := by
  refine ⟨⟨e, ofL l, ?_, fun i v hi => ?_⟩, hn, hB⟩
  · rw [newAt_get, if_pos rfl]; rfl
  · rw [get_ofL, hi]; rfl
theorem newO_box {α : Type} {h : H} (w : WF h) (e : TypeId) (l : List Value) (f : Nat → H → Option α) : ∃ h1, newO (row e l) h f = f h.size h1 ∧ EX h h1 ∧ Box h1 h.size l ∧ h1.size = h.size + 1 :=
  ⟨_, rfl, (box_row w e l).1, (box_row w e l).2, rfl⟩
/-! stores -/
theorem Box.stC {h : H} {b : Nat} {l : List Value} (B : Box h b l) (w : WF h) (k : Nat) (vs : List Value) (hk : k + vs.length ≤ l.length) (ho : vs.all oneC = true) :
    ∃ h', stCells h (add ⟨b, 0, some 0⟩ k) vs = some h' ∧ Box h' b (l.take k ++ vs ++ l.drop (k + vs.length)) ∧ UP (· = b) h h' ∧ h'.size = h.size := by
  obtain ⟨e, c, h1, h2⟩ := B.get
  obtain ⟨h', r', e1, g1, g2, g3, g4, g5, g6, g7, g8⟩ := stCells_ok vs h (add ⟨b, 0, some 0⟩ k) ⟨e, l.length, 0, c⟩ 0 w h1 rfl rfl B.nro (by simp only [add]; omega) ho
  refine ⟨h', e1, ⟨⟨r'.elem, r'.cells, ?_, fun i v hi => ?_⟩, by rw [g5]; exact B.nro, by rw [g4]; exact B.blt⟩, ⟨Nat.le_of_eq g4.symm, g5, g6, fun A _ hA => g7 A hA⟩, g4⟩
  · have g1' : h'.objs.get b = some (.arr r') := g1
    rw [g1']
    have : (l.take k ++ vs ++ l.drop (k + vs.length)).length = l.length := by simp; omega
    rw [this]
    have hs : r'.size = l.length := g3
    cases r'; simp only at g2 hs ⊢; rw [g2, hs]
  · have g8' : ∀ i, r'.cells.get i = if 0 + k ≤ i ∧ i < 0 + k + vs.length then (vs[i - (0 + k)]?).map (⟨·, 0⟩) else c.get i := g8
    rw [g8']
    by_cases hi1 : i < k
    · rw [if_neg (by omega)]
      rw [List.append_assoc, List.getElem?_append_left (by simp; omega), List.getElem?_take_of_lt hi1] at hi
      exact h2 i v hi
    · by_cases hi2 : i < k + vs.length
      · rw [if_pos (by omega)]
        rw [List.append_assoc, List.getElem?_append_right (by simp; omega), List.getElem?_append_left (by simp; omega)] at hi
        have : i - (List.take k l).length = i - (0 + k) := by simp; omega
        rw [this] at hi
        rw [hi]; rfl
      · rw [if_neg (by omega)]
        rw [List.getElem?_append_right (by simp; omega), List.getElem?_drop] at hi
        have : k + vs.length + (i - (List.take k l ++ vs).length) = i := by simp; omega
        rw [this] at hi
        exact h2 i v hi
theorem take_set_drop {α : Type} (l : List α) (i : Nat) (v : α) (h : i < l.length) : l.take i ++ [v] ++ l.drop (i + 1) = l.set i v := by
  rw [List.set_eq_take_append_cons_drop, if_pos h]; simp
theorem Box.st1 {h : H} {b : Nat} {l : List Value} (B : Box h b l) (w : WF h) {i : Nat} {v : Value} (hi : i < l.length) (ho : oneC v = true) :
    ∃ h', Abs.st1 h (add ⟨b, 0, some 0⟩ i) v = some h' ∧ Box h' b (l.set i v) ∧ UP (· = b) h h' ∧ h'.size = h.size := by
  obtain ⟨h', e, B', u, hs⟩ := B.stC w i [v] (by simp only [List.length_cons, List.length_nil]; omega) (by simpa using ho)
  refine ⟨h', e, ?_, u, hs⟩
  rwa [List.length_singleton, take_set_drop l i v hi] at B'
theorem Box.st10 {h : H} {b : Nat} {l : List Value} (B : Box h b l) (w : WF h) {v : Value} (hi : 0 < l.length) (ho : oneC v = true) :
    ∃ h', Abs.st1 h ⟨b, 0, some 0⟩ v = some h' ∧ Box h' b (l.set 0 v) ∧ UP (· = b) h h' ∧ h'.size = h.size := B.st1 w hi ho
theorem oneC_enc : ∀ (z : Z) (x : z.T), (∀ v, z ≠ .any ∨ oneC v = true) → oneC (z.enc x) = true
  | .int k, x, _ => rfl
  | .bool, x, _ => rfl
  | .str, x, _ => rfl
  | .ptr, x, _ => rfl
  | .sl, x, _ => rfl
  | .map, x, _ => rfl
  | .any, x, h => by rcases h x with h | h; exact absurd rfl h; exact h
  | .clo f n, x, _ => rfl
def noAny : List Z → Bool
  | [] => true
  | .any :: _ => false
  | _ :: zs => noAny zs
theorem oneC_encL : ∀ (zs : List Z) (x : ZT zs), noAny zs = true → (encL zs x).all oneC = true
  | [], x, _ => rfl
  | [z], x, h => by
    have : z ≠ .any := by rintro rfl; simp [noAny] at h
    simp only [encL, List.all_cons, List.all_nil, Bool.and_true]
    exact oneC_enc z x (fun _ => .inl this)
  | z :: z' :: zs, x, h => by
    have hz : z ≠ .any := by rintro rfl; simp [noAny] at h
    have h2 : noAny (z' :: zs) = true := by cases z <;> first | exact absurd rfl hz | exact h
    simp only [encL, List.all_cons, oneC_enc z x.1 (fun _ => .inl hz), oneC_encL (z' :: zs) x.2 h2, Bool.and_self]
theorem Box.stZ {h : H} {b : Nat} {l : List Value} (B : Box h b l) (w : WF h) (zs : List Z) (x : ZT zs) (hl : zs.length = l.length) (hn : noAny zs = true) :
    ∃ h', Abs.stZ zs h ⟨b, 0, some 0⟩ x = some h' ∧ Box h' b (encL zs x) ∧ UP (· = b) h h' ∧ h'.size = h.size := by
  have h1 := encL_length zs x
  obtain ⟨h', e, B', u, hs⟩ := B.stC w 0 (encL zs x) (by omega) (oneC_encL zs x hn)
  rw [addA_zero] at e
  refine ⟨h', e, ?_, u, hs⟩
  rw [List.take_zero, List.nil_append, Nat.zero_add, h1, hl, List.drop_length, List.append_nil] at B'
  exact B'
theorem Box.stZat {h : H} {b : Nat} {l : List Value} (B : Box h b l) (w : WF h) (k : Nat) (zs : List Z) (x : ZT zs) (hl : k + zs.length ≤ l.length) (hn : noAny zs = true) :
    ∃ h', Abs.stZ zs h (add ⟨b, 0, some 0⟩ k) x = some h' ∧ Box h' b (l.take k ++ encL zs x ++ l.drop (k + zs.length)) ∧ UP (· = b) h h' ∧ h'.size = h.size := by
  have h1 := encL_length zs x
  obtain ⟨h', e, B', u, hs⟩ := B.stC w k (encL zs x) (by omega) (oneC_encL zs x hn)
  rw [h1] at B'
  exact ⟨h', e, B', u, hs⟩
/-! small words -/
@[simp] theorem inr?_some {α β : Type} (x : α) : (inr? (some x) : Option (β ⊕ α)) = some (.inr x) := rfl
@[simp] theorem inr?_none {α β : Type} : (inr? (none : Option α) : Option (β ⊕ α)) = none := rfl
theorem joinO_ite {α β : Type} (c : Prop) [Decidable c] (a b : Option (β ⊕ α)) (f : β → Option α) : joinO (if c then a else b) f = if c then joinO a f else joinO b f := by split <;> rfl
theorem ixAT_ok {n sz : Nat} (a : Addr) {i : Int} (h0 : 0 ≤ i) (h1 : i < n) : ixAT n sz a i = some (add a (i.toNat * sz)) := by
  have hi : idxAddr (DAR n sz) 0 (.pointer (some a)) (.int .i64 i) = some (.pointer (some (add a (i.toNat * sz)))) := by
    have hd := idx_in .i64 h0 h1
    have e0 : (DAR n sz).ty.get 0 = some ⟨n * sz, 0, .nilFunc, .array n 1, false⟩ := by
      unfold DAR; simp only; rw [Tr.get_set, if_neg (by omega), Tr.get_set, if_pos rfl]
    have e1 : (DAR n sz).ty.get 1 = some (tyS sz 0 .nilFunc) := by
      unfold DAR; simp only; rw [Tr.get_set, if_pos rfl]
    unfold idxAddr
    simp only [e0, e1, hd]; rfl
  unfold ixAT
  rw [hi]; rfl
theorem bits_self (n : Int) : (n == n) = true := by simp
theorem slEq_self (s : Sl) : slEq s.base s.len s.cap s.base s.len s.cap = true := by simp [slEq]
end Go.Abs
