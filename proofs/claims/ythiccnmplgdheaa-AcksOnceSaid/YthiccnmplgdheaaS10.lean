/- A logic for the typed texts: what a text answers. -/
import Derived.Test.YthiccnmplgdheaaS9
set_option linter.unusedVariables false
set_option linter.unusedSimpArgs false
namespace Go.Abs
open Go
/-- it answers, and the answer is so -/
def PO {β : Type} (m : Option β) (Q : β → Prop) : Prop := ∃ b, m = some b ∧ Q b
section
variable {α β γ σ ρ : Type} {Q : α → Prop}
theorem PO.ret {b : α} (h : Q b) : PO (some b) Q := ⟨b, rfl, h⟩
theorem PO.mono {m : Option α} {P : α → Prop} (p : PO m P) (h : ∀ b, P b → Q b) : PO m Q := let ⟨b, e, hb⟩ := p; ⟨b, e, h b hb⟩
theorem PO.and {m : Option α} {P : α → Prop} (p : PO m P) (q : PO m Q) : PO m (fun b => P b ∧ Q b) := by
  obtain ⟨b, e, h1⟩ := p
  obtain ⟨b', e', h2⟩ := q
  rw [e] at e'; cases e'
  exact ⟨b, e, h1, h2⟩
theorem PO.call {m : Option (β × H)} {f : β → H → Option α} {P : β × H → Prop} (p : PO m P) (k : ∀ a h1, P (a, h1) → PO (f a h1) Q) : PO (bind2 m f) Q := by
  obtain ⟨⟨a, h1⟩, rfl, hp⟩ := p; exact k a h1 hp
theorem PO.callE {m : Option (β × H)} {f : β → H → Option α} {a : β} {h1 : H} (e : m = some (a, h1)) (k : PO (f a h1) Q) : PO (bind2 m f) Q := by subst e; exact k
theorem PO.op {m : Option β} {f : β → Option α} {x : β} (e : m = some x) (k : PO (f x) Q) : PO (bindO m f) Q := by subst e; exact k
theorem PO.opP {m : Option β} {f : β → Option α} {P : β → Prop} (p : PO m P) (k : ∀ x, P x → PO (f x) Q) : PO (bindO m f) Q := by
  obtain ⟨a, rfl, hp⟩ := p; exact k a hp
theorem PO.letO {x : β} {f : β → Option α} (k : PO (f x) Q) : PO (Abs.letO x f) Q := k
theorem PO.ptr {a : Addr} {f : Addr → Option α} (k : PO (f a) Q) : PO (ptrK (some a) f) Q := k
theorem PO.cond {b : Bool} {x y : Option α} (h1 : b = true → PO x Q) (h2 : b = false → PO y Q) : PO (condK b x y) Q := by cases b <;> simp_all
theorem PO.condD {p : Prop} [Decidable p] {x y : Option α} (h1 : p → PO x Q) (h2 : ¬ p → PO y Q) : PO (condK (decide p) x y) Q := by by_cases h : p <;> simp_all
theorem PO.condND {p : Prop} [Decidable p] {x y : Option α} (h1 : ¬ p → PO x Q) (h2 : p → PO y Q) : PO (condK (!decide p) x y) Q := by by_cases h : p <;> simp_all
theorem PO.condN {b : Bool} {x y : Option α} (h1 : b = false → PO x Q) (h2 : b = true → PO y Q) : PO (condK (!b) x y) Q := by cases b <;> simp_all
theorem PO.condE {β : Type} [DecidableEq β] {a b : β} {x y : Option α} (h1 : a = b → PO x Q) (h2 : a ≠ b → PO y Q) : PO (condK (a == b) x y) Q := by by_cases h : a = b <;> simp_all
theorem PO.condNE {β : Type} [DecidableEq β] {a b : β} {x y : Option α} (h1 : a ≠ b → PO x Q) (h2 : a = b → PO y Q) : PO (condK (a != b) x y) Q := by by_cases h : a = b <;> simp_all
theorem PO.condT {x y : Option α} (k : PO x Q) : PO (condK true x y) Q := k
theorem PO.condF {x y : Option α} (k : PO y Q) : PO (condK false x y) Q := k
theorem PO.chk {b : Bool} {x : Option α} (h : b = true) (k : PO x Q) : PO (condK b x none) Q := by subst h; exact k
theorem PO.join {m : Option (β ⊕ α)} {f : β → Option α} (P : β → Prop) (p : PO m (Sum.elim P Q)) (k : ∀ x, P x → PO (f x) Q) : PO (joinO m f) Q := by
  obtain ⟨b, rfl, hb⟩ := p
  cases b with
  | inl x => exact k x hb
  | inr r => exact .ret hb
theorem PO.joinD {m : Option (β ⊕ α)} {f : β → Option α} (p : PO m (Sum.elim (fun x => PO (f x) Q) Q)) : PO (joinO m f) Q := PO.join _ p fun _ h => h
theorem PO.retL {P : β → Prop} {x : β} (h : P x) : PO (some (Sum.inl x)) (Sum.elim P Q) := ⟨_, rfl, h⟩
theorem PO.retR {P : β → Prop} {x : α} (h : Q x) : PO (some (Sum.inr x)) (Sum.elim P Q) := ⟨_, rfl, h⟩
theorem PO.inr {P : β → Prop} {m : Option α} (h : PO m Q) : PO (inr? m) (Sum.elim P Q) := by
  obtain ⟨b, rfl, hb⟩ := h; exact ⟨_, rfl, hb⟩
theorem PO.loop {step : σ → Option (σ ⊕ α)} (I : Nat → σ → Prop) (k : ∀ n s, I n s → PO (step s) (Sum.elim (fun s' => ∃ n', n' < n ∧ I n' s') Q)) : ∀ n s, I n s → PO (loopO step s) Q := by
  intro n
  induction n using Nat.strongRecOn with
  | _ n ih =>
    intro s hs
    obtain ⟨b, e, hb⟩ := k n s hs
    rw [loopO_eq, e]
    cases b with
    | inl s' => obtain ⟨n', h1, h2⟩ := hb; exact ih n' h1 s' h2
    | inr r => exact .ret hb
/-! rows -/
variable {h : H} {b i : Nat} {l : List Value}
theorem PO.newB {e : TypeId} {f : Nat → H → Option α} (w : WF h) (k : ∀ h1, EX h h1 → Box h1 h.size l → h1.size = h.size + 1 → WF h1 → PO (f h.size h1) Q) : PO (newO (row e l) h f) Q :=
  k _ (box_row w e l).1 (box_row w e l).2 rfl (box_row w e l).1.wf
theorem PO.ldI {k : IntKind} {n : Int} {f : Int → Option α} (B : Box h b l) (hi : l[i]? = some (.int k n)) (p : PO (f n) Q) : PO (bindO (Abs.ldI k h (Abs.add ⟨b, 0, some 0⟩ i)) f) Q := .op (B.ldI hi) p
theorem PO.ldI0 {k : IntKind} {n : Int} {f : Int → Option α} (B : Box h b l) (hi : l[0]? = some (.int k n)) (p : PO (f n) Q) : PO (bindO (Abs.ldI k h ⟨b, 0, some 0⟩) f) Q := .op (B.ldI0 hi) p
theorem PO.ldB {n : Bool} {f : Bool → Option α} (B : Box h b l) (hi : l[i]? = some (.bool n)) (p : PO (f n) Q) : PO (bindO (Abs.ldB h (Abs.add ⟨b, 0, some 0⟩ i)) f) Q := .op (B.ldB hi) p
theorem PO.ldB0 {n : Bool} {f : Bool → Option α} (B : Box h b l) (hi : l[0]? = some (.bool n)) (p : PO (f n) Q) : PO (bindO (Abs.ldB h ⟨b, 0, some 0⟩) f) Q := .op (B.ldB0 hi) p
theorem PO.ldL {n : Sl} {f : Sl → Option α} (B : Box h b l) (hi : l[i]? = some (encSl n)) (p : PO (f n) Q) : PO (bindO (Abs.ldL h (Abs.add ⟨b, 0, some 0⟩ i)) f) Q := .op (B.ldL hi) p
theorem PO.ldL0 {n : Sl} {f : Sl → Option α} (B : Box h b l) (hi : l[0]? = some (encSl n)) (p : PO (f n) Q) : PO (bindO (Abs.ldL h ⟨b, 0, some 0⟩) f) Q := .op (B.ldL0 hi) p
theorem PO.ldP {n : Option Addr} {f : Option Addr → Option α} (B : Box h b l) (hi : l[i]? = some (.pointer n)) (p : PO (f n) Q) : PO (bindO (Abs.ldP h (Abs.add ⟨b, 0, some 0⟩ i)) f) Q := .op (B.ldP hi) p
theorem PO.ldP0 {n : Option Addr} {f : Option Addr → Option α} (B : Box h b l) (hi : l[0]? = some (.pointer n)) (p : PO (f n) Q) : PO (bindO (Abs.ldP h ⟨b, 0, some 0⟩) f) Q := .op (B.ldP0 hi) p
theorem PO.ldZ {zs : List Z} {x : ZT zs} {f : ZT zs → Option α} (B : Box h b l) (hl : l = encL zs x) (p : PO (f x) Q) : PO (bindO (Abs.ldZ zs h ⟨b, 0, some 0⟩) f) Q := .op (B.ldZ zs x hl) p
theorem PO.ldZ2 {k1 k2 : IntKind} {a1 a2 : Int} {f : Int × Int → Option α} (B : Box h b [.int k1 a1, .int k2 a2]) (p : PO (f (a1, a2)) Q) : PO (bindO (Abs.ldZ [.int k1, .int k2] h ⟨b, 0, some 0⟩) f) Q := .op (B.ldZ [.int k1, .int k2] (a1, a2) rfl) p
theorem PO.ldZ5 {a1 a2 a3 a4 a5 : Int} {f : Int × Int × Int × Int × Int → Option α} (B : Box h b [.int .i64 a1, .int .i64 a2, .int .i64 a3, .int .i64 a4, .int .i64 a5]) (p : PO (f (a1, a2, a3, a4, a5)) Q) : PO (bindO (Abs.ldZ [.int .i64, .int .i64, .int .i64, .int .i64, .int .i64] h ⟨b, 0, some 0⟩) f) Q := .op (B.ldZ [.int .i64, .int .i64, .int .i64, .int .i64, .int .i64] (a1, a2, a3, a4, a5) rfl) p
theorem PO.st1 {v : Value} {f : H → Option α} (B : Box h b l) (w : WF h) (hi : i < l.length) (ho : oneC v = true) (p : ∀ h', Box h' b (l.set i v) → UP (· = b) h h' → h'.size = h.size → WF h' → PO (f h') Q) : PO (bindO (Abs.st1 h (Abs.add ⟨b, 0, some 0⟩ i) v) f) Q := by
  obtain ⟨h', e, B', u, hs⟩ := B.st1 w hi ho
  exact .op e (p h' B' u hs u.wf)
theorem PO.st10 {v : Value} {f : H → Option α} (B : Box h b l) (w : WF h) (hi : 0 < l.length) (ho : oneC v = true) (p : ∀ h', Box h' b (l.set 0 v) → UP (· = b) h h' → h'.size = h.size → WF h' → PO (f h') Q) : PO (bindO (Abs.st1 h ⟨b, 0, some 0⟩ v) f) Q := by
  obtain ⟨h', e, B', u, hs⟩ := B.st10 w hi ho
  exact .op e (p h' B' u hs u.wf)
theorem PO.stZ {zs : List Z} {x : ZT zs} {f : H → Option α} (B : Box h b l) (w : WF h) (hl : zs.length = l.length) (hn : noAny zs = true) (p : ∀ h', Box h' b (encL zs x) → UP (· = b) h h' → h'.size = h.size → WF h' → PO (f h') Q) : PO (bindO (Abs.stZ zs h ⟨b, 0, some 0⟩ x) f) Q := by
  obtain ⟨h', e, B', u, hs⟩ := B.stZ w zs x hl hn
  exact .op e (p h' B' u hs u.wf)
end
end Go.Abs
