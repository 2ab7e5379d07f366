/- A world, taken in: the machine's heap whose blocks are the world's, all of them to be read alone; laws with slices as parameters. -/
import Derived.Test.YthiccnmplgdheaaS2
set_option linter.unusedVariables false
set_option linter.unusedSimpArgs false
namespace Go.Abs
open Go Go.RowKit
def trOf {α : Type} (f : Nat → Option α) : Nat → Tr α
  | 0 => .leaf
  | n + 1 => match f n with
    | some a => (trOf f n).set n a
    | none => trOf f n
theorem get_trOf {α : Type} (f : Nat → Option α) : ∀ (n i : Nat), (trOf f n).get i = if i < n then f i else none
  | 0, i => by simp [trOf, Tr.get]
  | n + 1, i => by
    have ih := get_trOf f n i
    unfold trOf
    cases hf : f n with
    | none =>
      simp only
      rw [ih]
      by_cases h1 : i = n
      · subst h1; simp [hf]
      · by_cases h2 : i < n
        · rw [if_pos h2, if_pos (by omega)]
        · rw [if_neg h2, if_neg (by omega)]
    | some a =>
      simp only
      rw [Tr.get_set]
      by_cases h1 : i = n
      · subst h1; simp [hf]
      · rw [if_neg h1, ih]
        by_cases h2 : i < n
        · rw [if_pos h2, if_pos (by omega)]
        · rw [if_neg h2, if_neg (by omega)]
def okA (W : World) (a : Addr) : Bool := a.spot.isNone && (match W.heap[a.block]? with | some (.cells _ _ _) => true | _ => false)
def absV (W : World) : Value → Option Value
  | .bool b => some (.bool b)
  | .int k n => some (.int k n)
  | .string s => some (.string s)
  | .pointer none => some (.pointer none)
  | .pointer (some a) => bif okA W a then some (.pointer (some ⟨a.block, a.off, some 0⟩)) else none
  | .slice none l c => bif l.beq 0 && c.beq 0 then some (.slice none 0 0) else none
  | .slice (some a) l c => bif l.ble c && (l.beq 0 || okA W a) then some (.slice (some ⟨a.block, a.off, some 0⟩) l ANY) else none
  | _ => none
def impArr (W : World) (el : TypeId) (cs : Array Value) : Arr :=
  ⟨el, cs.size, 1, trOf (fun i => (cs[i]?).map fun v => match absV W v with | some u => ⟨u, 0⟩ | none => ⟨.bool false, 1⟩) cs.size⟩
def impO (W : World) (A : Nat) : Option AObj := match W.heap[A]? with
  | some (.cells cs el _) => some (.arr (impArr W el cs))
  | _ => none
def impH (W : World) : H := ⟨W.heap.size, 0, W.heap.size, trOf (impO W) W.heap.size⟩
def impR (W : World) : Ren := fun A e => if e = 0 then (match W.heap[A]? with
  | some (.cells cs _ _) => some ⟨A, 0, 0, 0, cs.size⟩
  | _ => none) else none
theorem impR_some {W : World} {A e : Nat} {L : Loc} (h : impR W A e = some L) : e = 0 ∧ ∃ cs el f, W.heap[A]? = some (.cells cs el f) ∧ L = ⟨A, 0, 0, 0, cs.size⟩ ∧ A < W.heap.size := by
  unfold impR at h
  split at h
  · rename_i he
    split at h
    · rename_i cs el f hc
      simp only [Option.some.injEq] at h
      exact ⟨he, cs, el, f, hc, h.symm, (Array.getElem?_eq_some_iff.1 hc).1⟩
    · simp at h
  · simp at h
theorem okA_ar {W : World} {a : Addr} (h : okA W a = true) : AR (impR W) ⟨a.block, a.off, some 0⟩ a := by
  unfold okA at h
  simp only [Bool.and_eq_true, Option.isNone_iff_eq_none] at h
  obtain ⟨h1, h2⟩ := h
  split at h2
  · rename_i cs el f hc
    exact ⟨⟨a.block, 0, 0, 0, cs.size⟩, 0, rfl, by simp [impR, hc], rfl, h1, Nat.zero_le _, by simp⟩
  · simp at h2
theorem capK_ANY : capK ANY = .any := by
  unfold capK ANY B63; rfl
theorem absV_ok {W : World} {v u : Value} (h : absV W v = some u) : VR (impR W) u v := by
  cases v <;> try (simp [absV] at h; done)
  · simp only [absV, Option.some.injEq] at h; subst h; exact .bool _
  · simp only [absV, Option.some.injEq] at h; subst h; exact .int _ _
  · simp only [absV, Option.some.injEq] at h; subst h; exact .string _
  · rename_i a
    cases a with
    | none => simp only [absV, Option.some.injEq] at h; subst h; exact .ptr0
    | some a =>
      simp only [absV] at h
      rw [cond_eq_ite] at h
      split at h
      · rename_i hk; cases h; exact .ptr _ _ (okA_ar hk)
      · simp at h
  · rename_i a l c
    cases a with
    | none =>
      simp only [absV] at h
      rw [cond_eq_ite] at h
      split at h
      · rename_i hk; cases h
        simp only [Bool.and_eq_true, nbeq_eq] at hk
        obtain ⟨rfl, rfl⟩ := hk
        exact .slice0
      · simp at h
    | some a =>
      simp only [absV] at h
      rw [cond_eq_ite] at h
      split at h
      · rename_i hk; cases h
        simp only [Bool.and_eq_true, Nat.ble_eq, Bool.or_eq_true, nbeq_eq] at hk
        refine .slice _ _ _ _ _ ?_
        rw [capK_ANY]
        exact ⟨hk.1, hk.2.imp id okA_ar⟩
      · simp at h
theorem imp_get (W : World) (A : Nat) : (impH W).objs.get A = impO W A := by
  show (trOf (impO W) W.heap.size).get A = _
  rw [get_trOf]
  split
  · rfl
  · rename_i h
    unfold impO
    have : W.heap[A]? = none := by simp; omega
    rw [this]
theorem impO_arr {W : World} {A : Nat} {ob : AObj} (h : impO W A = some ob) : ∃ cs el f, W.heap[A]? = some (.cells cs el f) ∧ ob = .arr (impArr W el cs) := by
  unfold impO at h
  split at h
  · rename_i cs el f hc; simp only [Option.some.injEq] at h; exact ⟨cs, el, f, hc, h.symm⟩
  · simp at h
theorem impArr_get {W : World} {el : TypeId} {cs : Array Value} {i : Nat} {c : Cell} (h : (impArr W el cs).cells.get i = some c) : ∃ v, cs[i]? = some v ∧ i < cs.size ∧ c = (match absV W v with | some u => ⟨u, 0⟩ | none => ⟨.bool false, 1⟩) := by
  simp only [impArr, get_trOf] at h
  split at h
  · rename_i hi
    simp only [Option.map_eq_some_iff] at h
    obtain ⟨v, h1, h2⟩ := h
    exact ⟨v, h1, hi, h2.symm⟩
  · simp at h
theorem imp_wr (W : World) : WR (impR W) (impH W) W := by
  refine ⟨fun A e L h => ?_, fun A e L A' e' L' h h' hne hcb => ?_, fun A ob h => ?_, fun A ob h => ?_, Nat.le_refl _⟩
  · obtain ⟨_, cs, el, f, h1, rfl, h2⟩ := impR_some h; exact ⟨h2, h2⟩
  · obtain ⟨_, cs, el, f, h1, rfl, h2⟩ := impR_some h
    obtain ⟨_, cs', el', f', h1', rfl, h2'⟩ := impR_some h'
    exact absurd hcb hne
  · rw [imp_get] at h
    obtain ⟨cs, el, f, hc, rfl⟩ := impO_arr h
    have hlt : A < W.heap.size := (Array.getElem?_eq_some_iff.1 hc).1
    have hno : ¬ ((impH W).nro ≤ A) := by show ¬ (W.heap.size ≤ A); omega
    refine ⟨fun e L hL => ?_, fun ho => absurd ho hno, fun i hi => ?_, fun i c hi => ?_⟩
    · obtain ⟨rfl, cs', el', f', h1, rfl, h2⟩ := impR_some hL
      rw [hc] at h1
      simp only [Option.some.injEq, Obj.cells.injEq] at h1
      obtain ⟨rfl, rfl, rfl⟩ := h1
      refine ⟨Nat.zero_le _, fun h => by simp [impArr] at h, cs, el, f, hc, rfl, fun ho => absurd ho hno, fun i c hi hlo _ => ?_⟩
      obtain ⟨v, h1, h2, h3⟩ := impArr_get hi
      refine ⟨v, by simpa using h1, ?_⟩
      cases ha : absV W v with
      | none => rw [ha] at h3; subst h3; simp at hlo
      | some u => rw [ha] at h3; subst h3; exact absV_ok ha
    · have hi' : i < cs.size := hi
      refine ⟨(match absV W cs[i] with | some u => ⟨u, 0⟩ | none => ⟨.bool false, 1⟩), ?_⟩
      simp only [impArr, get_trOf, if_pos hi', Array.getElem?_eq_getElem hi', Option.map_some]
    · obtain ⟨v, h1, h2, h3⟩ := impArr_get hi
      refine ⟨h2, ?_⟩
      rw [h3]
      cases absV W v <;> simp [impArr]
  · rw [imp_get] at h
    obtain ⟨cs, el, f, hc, rfl⟩ := impO_arr h
    exact (Array.getElem?_eq_some_iff.1 hc).1
theorem imp_wf (W : World) : WF (impH W) := by
  refine ⟨Nat.le_refl _, fun A hA => ?_, fun A r h i c hc => ?_⟩
  · have hA' : W.heap.size ≤ A := hA
    rw [imp_get]; unfold impO
    have : W.heap[A]? = none := by simp; omega
    rw [this]
  · rw [imp_get] at h
    obtain ⟨cs, el, f, hc', h2⟩ := impO_arr h
    simp only [AObj.arr.injEq] at h2
    subst h2
    obtain ⟨v, h1, h2, h3⟩ := impArr_get hc
    exact h2
theorem imp_ld {W : World} {c : Addr} {v u : Value} (h : W.cell? c = some v) (ha : absV W v = some u) : c.block < W.heap.size ∧ c.spot = none ∧ ldCell (impH W) ⟨c.block, c.off, some 0⟩ = some u := by
  unfold World.cell? at h
  split at h
  · rename_i cs el f hc
    split at h
    · simp at h
    · rename_i hs
      have hlt := (Array.getElem?_eq_some_iff.1 hc).1
      refine ⟨hlt, by simpa using hs, ?_⟩
      rw [ldCell_eq, imp_get]
      simp only [impO, hc, ldO, impArr, get_trOf]
      have h2 := (Array.getElem?_eq_some_iff.1 h).1
      rw [if_pos h2, h]
      simp only [Option.map_some, ha]
      rfl
  · simp at h
/-- a law, its parameters taken in from the world -/
theorem world_law {P : Program} {D : Data} (hD : DOk P D) (hov : OvOK P D) {f : Nat} {args : List Value} {h' : H} {W : World} {args' : Array Value} (he : Ev D f args (impH W) (.bool true) h') (ha : VRs (impR W) args args'.toList) : Calls P f args' W fun e w' => e = .returned (.bool true) ∧ Below W.heap.size W w' := by
  refine (calls_of_ev hD hov he (imp_wr W) ha).mono ?_
  rintro e w' ⟨v', ρ', rfl, hv, hwr, hx⟩
  cases hv
  refine ⟨rfl, hx.os, hx.tape, hx.output, hx.grow, fun b hb => hx.frame b hb fun A e L x _ hn => ?_⟩
  obtain ⟨_, cs, el, f, h1, rfl, h2⟩ := impR_some x
  have : W.heap.size ≤ A := hn
  omega
/-! slices of whole numbers as parameters -/
def IsRow (k : IntKind) (w : World) (a : Option Addr) (len cap : Nat) (zs : List Int) : Prop :=
  (a = none ∧ len = 0 ∧ cap = 0 ∧ zs = []) ∨
  ∃ x, a = some x ∧ len ≤ cap ∧ cap ≤ maxLen ∧ zs.length = cap ∧ (∀ i, i < zs.length → w.cell? (x.add i) = some (.int k (zs.getD i 0))) ∧ ∀ n ∈ zs, (Lit.int k n).wf = true
def argSl (a : Option Addr) (len : Nat) : Sl := match a with
  | none => ⟨none, 0, 0⟩
  | some x => ⟨some ⟨x.block, x.off, some 0⟩, len, ANY⟩
theorem okA_of_cell {W : World} {c : Addr} {v : Value} (h : W.cell? c = some v) : okA W c = true := by
  unfold World.cell? at h
  split at h
  · rename_i cs el f hc
    split at h
    · simp at h
    · rename_i hs; unfold okA; rw [hc]; simpa using hs
  · simp at h
theorem isRow_vr {k : IntKind} {W : World} {a : Option Addr} {len cap : Nat} {zs : List Int} (h : IsRow k W a len cap zs) : VR (impR W) (encSl (argSl a len)) (.slice a len cap) := by
  rcases h with ⟨rfl, rfl, rfl, rfl⟩ | ⟨x, rfl, h1, h2, h3, h4, h5⟩
  · exact .slice0
  · refine .slice _ _ _ _ _ ?_
    show SR _ _ len x cap (capK ANY)
    rw [capK_ANY]
    refine ⟨h1, ?_⟩
    rcases Nat.eq_zero_or_pos len with h0 | h0
    · exact .inl h0
    · right
      have := h4 0 (by omega)
      rw [show x.add 0 = x by simp [Addr.add]] at this
      exact okA_ar (okA_of_cell this)
theorem isRow_rd {k : IntKind} {W : World} {a : Option Addr} {len cap : Nat} {zs : List Int} (h : IsRow k W a len cap zs) : RdI k (impH W) (argSl a len) (zs.take len) := by
  rcases h with ⟨rfl, rfl, rfl, rfl⟩ | ⟨x, rfl, h1, h2, h3, h4, h5⟩
  · exact rd_nil 1 _
  · refine ⟨by simp [argSl]; omega, fun hn => by simp [argSl] at hn, fun b hb i v hi => ?_, fun _ => by unfold CapOK argSl; simp only [capK_ANY]⟩
    simp only [argSl, Option.some.injEq] at hb
    subst hb
    have hlt := (List.getElem?_eq_some_iff.1 hi).1
    have hlt : i < len ∧ i < zs.length := by simp at hlt; omega
    have hv : v = .int k (zs.getD i 0) := by
      rw [List.getElem?_map, List.getElem?_take_of_lt hlt.1] at hi
      simp [List.getD, hlt.2] at hi ⊢
      exact hi.symm
    subst hv
    have hc := h4 i hlt.2
    obtain ⟨g1, g2, g3⟩ := imp_ld hc (u := .int k (zs.getD i 0)) rfl
    have hb : (x.add i).block = x.block := by unfold Addr.add; split <;> rfl
    have ho : (x.add i).off = x.off + i := by unfold Addr.add; split <;> simp_all
    rw [hb] at g1 g3
    rw [ho] at g3
    exact ⟨g1, by simpa [add] using g3⟩
/-- bytes as a parameter -/
def bytesIn (zs : List Int) : List UInt8 := zs.map fun n => UInt8.ofNat n.toNat
theorem isRow_rdB {W : World} {a : Option Addr} {len cap : Nat} {zs : List Int} (h : IsRow .u8 W a len cap zs) : RdB (impH W) (argSl a len) (bytesIn (zs.take len)) := by
  have hr := isRow_rd h
  have hw : ∀ n ∈ zs.take len, 0 ≤ n ∧ n < 256 := by
    intro n hn
    rcases h with ⟨rfl, rfl, rfl, rfl⟩ | ⟨x, rfl, h1, h2, h3, h4, h5⟩
    · simp at hn
    · have := h5 n (List.mem_of_mem_take hn)
      simp [Lit.wf, IntKind.has, IntKind.min, IntKind.max, IntKind.signed, IntKind.bits] at this
      omega
  unfold RdB vB bytesIn
  rw [List.map_map]
  unfold RdI at hr
  have e : (zs.take len).map (Value.int .u8) = (zs.take len).map ((fun b : UInt8 => Value.int .u8 (b.toNat : Int)) ∘ fun n => UInt8.ofNat n.toNat) := by
    apply List.map_congr_left
    intro n hn
    obtain ⟨h0, h1⟩ := hw n hn
    simp only [Function.comp]
    congr 1
    have : (UInt8.ofNat n.toNat).toNat = n.toNat := by simp [UInt8.toNat_ofNat']; omega
    rw [this]; omega
  rw [← e]; exact hr
end Go.Abs
