/- A machine without capacities, orders and tapes runs the program's code; what it answers, every run of the model answers (heaps, cells and append stand for the model's). -/
import Derived.Test.YtaebjajbogedkaaAbsA
import Derived.Laws.Sem
import Derived.Laws.Append
import Derived.WalkKit
import Derived.Laws.Cells
import Derived.Deep.AppendSrc
set_option linter.unusedVariables false
set_option linter.unusedSimpArgs false
/- How the machine's values, cells and heaps stand for the model's: the relation, and what a step may turn. -/
namespace Go.Abs
open Go

/-- where a version of a row lies: block, cell, from which cell of the row on; how many cells the row had; how many the block has -/
structure Loc where
  cb : Nat
  co : Nat
  ao : Nat
  top : Nat
  n : Nat
abbrev Ren := Nat → Nat → Option Loc
def Ren.le (ρ ρ' : Ren) : Prop := ∀ A e L, ρ A e = some L → ρ' A e = some L
theorem Ren.le_refl (ρ : Ren) : ρ.le ρ := fun _ _ _ h => h
theorem Ren.le_trans {a b c : Ren} (h : a.le b) (h' : b.le c) : a.le c := fun A e L x => h' A e L (h A e L x)

def ARL (ρ : Ren) (a c : Addr) (L : Loc) : Prop :=
  ∃ e, a.spot = some e ∧ ρ a.block e = some L ∧ c.block = L.cb ∧ c.spot = none ∧ L.ao ≤ a.off ∧ c.off + L.ao = L.co + a.off
def AR (ρ : Ren) (a c : Addr) : Prop := ∃ L, ARL ρ a c L
def SRu (ρ : Ren) (a : Addr) (len z : Nat) (c : Addr) (cap' : Nat) : Prop :=
  len ≤ cap' ∧ ∃ L, ARL ρ a c L ∧ c.off + cap' * z ≤ L.n ∧ L.top ≤ a.off + cap' * z
def SR (ρ : Ren) (a : Addr) (len : Nat) (c : Addr) (cap' : Nat) : CapK → Prop
  | .exact k => cap' = k ∧ len ≤ k ∧ (k = 0 ∨ AR ρ a c)
  | .unk z => SRu ρ a len z c cap'
  | .unk0 z => (len = 0 ∧ cap' = 0) ∨ SRu ρ a len z c cap'
  | .any => len ≤ cap' ∧ (len = 0 ∨ AR ρ a c)

mutual
inductive VR (ρ : Ren) : Value → Value → Prop
  | bool (b) : VR ρ (.bool b) (.bool b)
  | int (k n) : VR ρ (.int k n) (.int k n)
  | string (s) : VR ρ (.string s) (.string s)
  | nilFunc : VR ρ .nilFunc .nilFunc
  | nilIface : VR ρ .nilIface .nilIface
  | ptr0 : VR ρ (.pointer none) (.pointer none)
  | ptr (a c) : AR ρ a c → VR ρ (.pointer (some a)) (.pointer (some c))
  | slice0 : VR ρ (.slice none 0 0) (.slice none 0 0)
  | slice (a c len cap cap') : SR ρ a len c cap' (capK cap) → VR ρ (.slice (some a) len cap) (.slice (some c) len cap')
  | map0 : VR ρ (.map none) (.map none)
  | map (A) (L : Loc) : ρ A 0 = some L → VR ρ (.map (some A)) (.map (some L.cb))
  | func (f) (x x' y y' : Array Value) : VRs ρ x.toList x'.toList → VRs ρ y.toList y'.toList → VR ρ (.func f x y) (.func f x' y')
  | iface (t v v') : VR ρ v v' → VR ρ (.iface t v) (.iface t v')
  | agg (x x' : Array Value) : VRs ρ x.toList x'.toList → VR ρ (.agg x) (.agg x')
  | tuple (x x' : Array Value) : VRs ρ x.toList x'.toList → VR ρ (.tuple x) (.tuple x')
inductive VRs (ρ : Ren) : List Value → List Value → Prop
  | nil : VRs ρ [] []
  | cons {v v' l l'} : VR ρ v v' → VRs ρ l l' → VRs ρ (v :: l) (v' :: l')
end

theorem ARL.mono {ρ ρ' : Ren} (h : ρ.le ρ') {a c : Addr} {L : Loc} (x : ARL ρ a c L) : ARL ρ' a c L :=
  let ⟨e, h1, h2, r⟩ := x; ⟨e, h1, h _ _ _ h2, r⟩
theorem AR.mono {ρ ρ' : Ren} (h : ρ.le ρ') {a c : Addr} (x : AR ρ a c) : AR ρ' a c := let ⟨L, y⟩ := x; ⟨L, y.mono h⟩
theorem SRu.mono {ρ ρ' : Ren} (h : ρ.le ρ') {a c : Addr} {l z k : Nat} (x : SRu ρ a l z c k) : SRu ρ' a l z c k :=
  let ⟨h1, L, h2, r⟩ := x; ⟨h1, L, h2.mono h, r⟩
theorem SR.mono {ρ ρ' : Ren} (h : ρ.le ρ') {a c : Addr} {l k : Nat} {ck : CapK} (x : SR ρ a l c k ck) : SR ρ' a l c k ck := by
  cases ck with
  | exact k => exact ⟨x.1, x.2.1, x.2.2.imp id (AR.mono h)⟩
  | unk z => exact SRu.mono h x
  | unk0 z => exact x.imp id (SRu.mono h)
  | any => exact ⟨x.1, x.2.imp id (AR.mono h)⟩
mutual
theorem VR.mono {ρ ρ' : Ren} (h : ρ.le ρ') : ∀ {v v' : Value}, VR ρ v v' → VR ρ' v v'
  | _, _, .bool b => .bool b
  | _, _, .int k n => .int k n
  | _, _, .string s => .string s
  | _, _, .nilFunc => .nilFunc
  | _, _, .nilIface => .nilIface
  | _, _, .ptr0 => .ptr0
  | _, _, .ptr a c x => .ptr a c (x.mono h)
  | _, _, .slice0 => .slice0
  | _, _, .slice a c l k k' x => .slice a c l k k' (x.mono h)
  | _, _, .map0 => .map0
  | _, _, .map A L x => .map A L (h _ _ _ x)
  | _, _, .func f x x' y y' p q => .func f x x' y y' (VRs.mono h p) (VRs.mono h q)
  | _, _, .iface t v v' p => .iface t v v' (VR.mono h p)
  | _, _, .agg x x' p => .agg x x' (VRs.mono h p)
  | _, _, .tuple x x' p => .tuple x x' (VRs.mono h p)
theorem VRs.mono {ρ ρ' : Ren} (h : ρ.le ρ') : ∀ {l l' : List Value}, VRs ρ l l' → VRs ρ' l l'
  | _, _, .nil => .nil
  | _, _, .cons p q => .cons (VR.mono h p) (VRs.mono h q)
end

section VRs
variable {ρ : Ren}
theorem VRs.length : ∀ {l l' : List Value}, VRs ρ l l' → l.length = l'.length
  | _, _, .nil => rfl
  | _, _, .cons _ q => by simp [q.length]
theorem VRs.get : ∀ {l l' : List Value}, VRs ρ l l' → ∀ (i : Nat) (v : Value), l[i]? = some v → ∃ v', l'[i]? = some v' ∧ VR ρ v v'
  | _, _, .nil, i, v, h => by simp at h
  | _, _, .cons (v := a) (v' := b) p q, i, v, h => by
    cases i with
    | zero => simp at h; subst h; exact ⟨b, by simp, p⟩
    | succ i => simp at h; obtain ⟨v', h1, h2⟩ := q.get i v h; exact ⟨v', by simpa using h1, h2⟩
theorem VRs.of_get : ∀ (l l' : List Value), l.length = l'.length → (∀ (i : Nat) (v : Value), l[i]? = some v → ∃ v' : Value, l'[i]? = some v' ∧ VR ρ v v') → VRs ρ l l'
  | [], [], _, _ => .nil
  | [], _ :: _, h, _ => by simp at h
  | _ :: _, [], h, _ => by simp at h
  | a :: l, b :: l', h, g => by
    refine .cons ?_ (VRs.of_get l l' (by simpa using h) fun i v hi => ?_)
    · obtain ⟨v', h1, h2⟩ := g 0 a rfl; simp at h1; subst h1; exact h2
    · obtain ⟨v', h1, h2⟩ := g (i + 1) v (by simpa using hi); exact ⟨v', by simpa using h1, h2⟩
theorem VRs.append {a a' b b' : List Value} (h : VRs ρ a a') (k : VRs ρ b b') : VRs ρ (a ++ b) (a' ++ b') := by
  induction a generalizing a' with
  | nil => cases h; exact k
  | cons x a ih => cases h with | cons p q => exact .cons p (ih q)
theorem VRs.take {a a' : List Value} (h : VRs ρ a a') (n : Nat) : VRs ρ (a.take n) (a'.take n) := by
  induction n generalizing a a' with
  | zero => simp; exact .nil
  | succ n ih => cases h with
    | nil => simp; exact .nil
    | cons p q => exact .cons p (ih q)
theorem VRs.drop {a a' : List Value} (h : VRs ρ a a') (n : Nat) : VRs ρ (a.drop n) (a'.drop n) := by
  induction n generalizing a a' with
  | zero => simpa
  | succ n ih => cases h with
    | nil => simp; exact .nil
    | cons p q => exact ih q
end VRs

theorem VR_refl_of_freeN {ρ : Ren} : ∀ (n : Nat) (v : Value), freeN n v = true → VR ρ v v := by
  have lst : ∀ (n : Nat), (∀ v, freeN n v = true → VR ρ v v) → ∀ l : List Value, l.all (freeN n) = true → VRs ρ l l := by
    intro n ih l
    induction l with
    | nil => intro _; exact .nil
    | cons a l il => intro h; simp only [List.all_cons, Bool.and_eq_true] at h; exact .cons (ih a h.1) (il h.2)
  have base : ∀ (n : Nat) (v : Value), (∀ m, n = m + 1 → ∀ v, freeN m v = true → VR ρ v v) → freeN n v = true → VR ρ v v := by
    intro n v ih h
    cases v with
    | bool b => exact .bool b
    | int k n => exact .int k n
    | string s => exact .string s
    | nilFunc => exact .nilFunc
    | nilIface => exact .nilIface
    | pointer a => cases a with
      | none => exact .ptr0
      | some a => simp [freeN] at h
    | map a => cases a with
      | none => exact .map0
      | some a => simp [freeN] at h
    | slice a l c => cases a with
      | none =>
        simp only [freeN, Bool.and_eq_true, nbeq_eq] at h
        obtain ⟨rfl, rfl⟩ := h
        exact .slice0
      | some a => simp [freeN] at h
    | func f x y => simp [freeN] at h
    | chan c => simp [freeN] at h
    | float k b => simp [freeN] at h
    | complex k a b => simp [freeN] at h
    | agg cs => cases n with
      | zero => simp [freeN] at h
      | succ m => exact .agg cs cs (lst m (ih m rfl) _ (by simpa [freeN] using h))
    | tuple cs => cases n with
      | zero => simp [freeN] at h
      | succ m => exact .tuple cs cs (lst m (ih m rfl) _ (by simpa [freeN] using h))
    | iface t v => cases n with
      | zero => simp [freeN] at h
      | succ m => exact .iface t v v (ih m rfl v (by simpa [freeN] using h))
  intro n
  induction n with
  | zero => exact fun v h => base 0 v (fun m hm => by omega) h
  | succ n ih => exact fun v h => base (n + 1) v (fun m hm => by cases hm; exact ih) h
theorem VR_free {ρ : Ren} {v : Value} (h : free v = true) : VR ρ v v := VR_refl_of_freeN 4 v h
theorem VR.oneC {ρ : Ren} {v v' : Value} (h : VR ρ v v') : oneC v' = oneC v := by cases h <;> rfl
theorem VR.cells {ρ : Ren} {v v' : Value} (h : VR ρ v v') : VRs ρ v.cells.toList v'.cells.toList := by
  cases h <;> first
    | (rename_i p; exact p)
    | (refine .cons ?_ .nil; constructor <;> assumption)

/-! ### heaps -/
def ESR (ρ : Ren) : List (Value × Value) → List MapEntry → Prop
  | [], [] => True
  | (k, v) :: l, e :: l' => e.key = k ∧ VR ρ k k ∧ VR ρ v e.val ∧ ESR ρ l l'
  | _, _ => False
/-- each entry was born ahead of now, no two at once -/
def BornR (l : List MapEntry) (clk : Nat) : Prop := (∀ x ∈ l, x.born < clk) ∧ (l.map (·.born)).Nodup
theorem BornR.nil (clk : Nat) : BornR [] clk := ⟨fun _ h => by simp at h, by simp⟩
theorem BornR.push {l : List MapEntry} {clk : Nat} (h : BornR l clk) (x : MapEntry) (hx : x.born = clk) : BornR (l ++ [x]) (clk + 1) := by
  refine ⟨fun y hy => ?_, ?_⟩
  · rcases List.mem_append.1 hy with hy | hy
    · have := h.1 y hy; omega
    · simp at hy; subst hy; omega
  · rw [List.map_append, List.nodup_append]
    refine ⟨h.2, by simp, ?_⟩
    intro a ha b hb
    obtain ⟨y, hy, rfl⟩ := List.mem_map.1 ha
    simp at hb; subst hb
    have := h.1 y hy; omega
theorem map_born_modify (f : MapEntry → MapEntry) (hf : ∀ x, (f x).born = x.born) : ∀ (l : List MapEntry) (i : Nat), (l.modify i f).map (·.born) = l.map (·.born)
  | [], i => by simp
  | x :: l, 0 => by simp [hf]
  | x :: l, i + 1 => by simp [map_born_modify f hf l i]
theorem BornR.modify {l : List MapEntry} {clk : Nat} (h : BornR l clk) (i : Nat) (f : MapEntry → MapEntry) (hf : ∀ x, (f x).born = x.born) : BornR (l.modify i f) clk := by
  have e := map_born_modify f hf l i
  refine ⟨fun x hx => ?_, by rw [e]; exact h.2⟩
  have : x.born ∈ (l.modify i f).map (·.born) := List.mem_map.2 ⟨x, hx, rfl⟩
  rw [e] at this
  obtain ⟨y, hy, e2⟩ := List.mem_map.1 this
  rw [← e2]; exact h.1 y hy
theorem BornR.erase {l : List MapEntry} {clk : Nat} (h : BornR l clk) (i : Nat) : BornR (l.eraseIdx i) clk :=
  ⟨fun x hx => h.1 x (List.mem_of_mem_eraseIdx hx), h.2.sublist ((List.eraseIdx_sublist l i).map _)⟩
def FrzOK (f : Nat × Nat) (n : Nat) : Prop := f.1 = f.2 ∨ n ≤ f.1
theorem FrzOK.not {f : Nat × Nat} {n : Nat} (h : FrzOK f n) (i : Nat) (hi : i < n) : ¬ (f.1 ≤ i ∧ i < f.2) := by
  rcases h with h | h <;> omega
structure LocR (ρ : Ren) (w : World) (own : Prop) (r : Arr) (e : Nat) (L : Loc) : Prop where
  le : e ≤ r.ver
  top : e = r.ver → L.top = r.size
  block : ∃ cs el f, w.heap[L.cb]? = some (.cells cs el f) ∧ cs.size = L.n ∧ (own → FrzOK f L.n) ∧
    ∀ i c, r.cells.get i = some c → c.lo ≤ e → L.ao ≤ i → ∃ v', cs[L.co + i - L.ao]? = some v' ∧ VR ρ c.v v'
structure ArrR (ρ : Ren) (w : World) (own : Prop) (A : Nat) (r : Arr) : Prop where
  loc : ∀ e L, ρ A e = some L → LocR ρ w own r e L
  align : own → ∀ e e' L L', ρ A e = some L → ρ A e' = some L' → L.cb = L'.cb → L.co + L'.ao = L'.co + L.ao
  all : ∀ i, i < r.size → ∃ c, r.cells.get i = some c
  in_ : ∀ i c, r.cells.get i = some c → i < r.size ∧ c.lo ≤ r.ver
def ObjR (ρ : Ren) (w : World) (nro A : Nat) : AObj → Prop
  | .arr r => ArrR ρ w (nro ≤ A) A r
  | .map es => ∀ e L, ρ A e = some L → e = 0 ∧ ∃ es' clk, w.heap[L.cb]? = some (.map es' clk) ∧ ESR ρ es es'.toList ∧ BornR es'.toList clk
structure WR (ρ : Ren) (h : H) (w : World) : Prop where
  dom : ∀ A e L, ρ A e = some L → A < h.size ∧ L.cb < w.heap.size
  dis : ∀ A e L A' e' L', ρ A e = some L → ρ A' e' = some L' → A ≠ A' → L.cb = L'.cb → A < h.nro ∧ A' < h.nro
  obj : ∀ A ob, h.objs.get A = some ob → ObjR ρ w h.nro A ob
  lt : ∀ A ob, h.objs.get A = some ob → A < h.size
  nro : h.nro ≤ h.size
/-- what is put out stays; draws go on -/
def OutR (w w' : World) : Prop := w'.output = w.output ∧ w.drawn ≤ w'.drawn
theorem OutR.refl (w : World) : OutR w w := ⟨rfl, Nat.le_refl _⟩
theorem OutR.trans {a b c : World} (h : OutR a b) (k : OutR b c) : OutR a c := ⟨k.1.trans h.1, Nat.le_trans h.2 k.2⟩
/-- what a step may turn -/
structure Ext (ρ : Ren) (h : H) (w : World) (ρ' : Ren) (h' : H) (w' : World) : Prop where
  mono : ρ.le ρ'
  nro : h'.nro = h.nro
  size : h.size ≤ h'.size
  pres : ∀ A, A < h.size → (h'.objs.get A = none ↔ h.objs.get A = none)
  new : ∀ A e L, ρ' A e = some L → ρ A e = none → w.heap.size ≤ L.cb ∨ ∃ e0 L0, ρ A e0 = some L0 ∧ h.objs.get A ≠ none ∧ h.nro ≤ A ∧ L.cb = L0.cb
  newA : ∀ A e L, ρ' A e = some L → ρ A e = none → h.size ≤ A ∨ h.objs.get A ≠ none
  grow : w.heap.size ≤ w'.heap.size
  frame : ∀ b, b < w.heap.size → (∀ A e L, ρ A e = some L → h.objs.get A ≠ none → h.nro ≤ A → L.cb ≠ b) → w'.heap[b]? = w.heap[b]?
  os : w'.os = w.os
  tape : w'.tape = w.tape
  output : w'.output = w.output
  st : h'.st = h.st
  drawn : h.st = true → w.drawn ≤ w'.drawn
theorem Ext.refl (ρ : Ren) (h : H) (w : World) : Ext ρ h w ρ h w :=
  ⟨Ren.le_refl _, rfl, Nat.le_refl _, fun _ _ => Iff.rfl, fun _ _ _ h1 h2 => by rw [h1] at h2; simp at h2, fun _ _ _ h1 h2 => by rw [h1] at h2; simp at h2, Nat.le_refl _, fun _ _ _ => rfl, rfl, rfl, rfl, rfl, fun _ => Nat.le_refl _⟩
/-- two steps, the heap between them being told in two ways -/
theorem Ext.trans2 {ρ ρ' ρ'' : Ren} {h h1 h1' h'' : H} {w w' w'' : World} (d : ∀ A e L, ρ A e = some L → A < h.size) (a : Ext ρ h w ρ' h1 w') (hn : h1'.nro = h1.nro) (ht : h1'.st = h1.st) (hs : h1.size ≤ h1'.size) (hp : ∀ A, A < h.size → (h1'.objs.get A = none ↔ h1.objs.get A = none)) (b : Ext ρ' h1' w' ρ'' h'' w'') : Ext ρ h w ρ'' h'' w'' where
  mono := Ren.le_trans a.mono b.mono
  nro := b.nro.trans (hn.trans a.nro)
  size := Nat.le_trans a.size (Nat.le_trans hs b.size)
  pres := fun A hA => (b.pres A (Nat.lt_of_lt_of_le hA (Nat.le_trans a.size hs))).trans ((hp A hA).trans (a.pres A hA))
  new := fun A e L h2 h3 => by
    by_cases h4 : ρ' A e = none
    · rcases b.new A e L h2 h4 with h5 | ⟨e0, L0, h5, h6, h7, h8⟩
      · exact .inl (Nat.le_trans a.grow h5)
      · by_cases h9 : ρ A e0 = none
        · rcases a.new A e0 L0 h5 h9 with h10 | ⟨e1, L1, h10, h11, h12, h13⟩
          · exact .inl (by omega)
          · exact .inr ⟨e1, L1, h10, h11, h12, h8.trans h13⟩
        · obtain ⟨L1, h10⟩ := Option.ne_none_iff_exists'.1 h9
          have := a.mono _ _ _ h10
          rw [h5] at this
          obtain rfl := Option.some.inj this
          have hA := d _ _ _ h10
          exact .inr ⟨e0, L0, h10, fun h => h6 ((hp A hA).2 ((a.pres A hA).2 h)), a.nro ▸ hn ▸ h7, h8⟩
    · obtain ⟨L1, h9⟩ := Option.ne_none_iff_exists'.1 h4
      have := b.mono _ _ _ h9
      rw [h2] at this
      obtain rfl := Option.some.inj this
      exact a.new A e L h9 h3
  newA := fun A e L h2 h3 => by
    by_cases hA : h.size ≤ A
    · exact .inl hA
    · right
      have hA : A < h.size := by omega
      by_cases h4 : ρ' A e = none
      · rcases b.newA A e L h2 h4 with h5 | h5
        · have := a.size; omega
        · exact fun h => h5 ((hp A hA).2 ((a.pres A hA).2 h))
      · obtain ⟨L1, h9⟩ := Option.ne_none_iff_exists'.1 h4
        rcases a.newA A e L1 h9 h3 with h5 | h5
        · omega
        · exact h5
  grow := Nat.le_trans a.grow b.grow
  frame := fun x hx hno => by
    rw [b.frame x (Nat.lt_of_lt_of_le hx a.grow) ?_, a.frame x hx hno]
    intro A e L h2 h3 h4 h5
    by_cases h6 : ρ A e = none
    · rcases a.new A e L h2 h6 with h7 | ⟨e0, L0, h7, h8, h9, h10⟩
      · omega
      · exact hno A e0 L0 h7 h8 h9 (h10 ▸ h5)
    · obtain ⟨L1, h7⟩ := Option.ne_none_iff_exists'.1 h6
      have := a.mono _ _ _ h7
      rw [h2] at this
      obtain rfl := Option.some.inj this
      have hA := d _ _ _ h7
      exact hno A e L h7 (fun h => h3 ((hp A hA).2 ((a.pres A hA).2 h))) (a.nro ▸ hn ▸ h4) h5
  os := b.os.trans a.os
  tape := b.tape.trans a.tape
  output := b.output.trans a.output
  st := b.st.trans (ht.trans a.st)
  drawn := fun s => Nat.le_trans (a.drawn s) (b.drawn ((ht.trans a.st).trans s))
theorem Ext.trans {ρ ρ' ρ'' : Ren} {h h' h'' : H} {w w' w'' : World} (d : ∀ A e L, ρ A e = some L → A < h.size) (a : Ext ρ h w ρ' h' w') (b : Ext ρ' h' w' ρ'' h'' w'') : Ext ρ h w ρ'' h'' w'' :=
  a.trans2 d rfl rfl (Nat.le_refl _) (fun _ _ => Iff.rfl) b
end Go.Abs

/- Loads, stores and new blocks stand for the model's. -/
namespace Go.Abs
open Go

theorem caddr {c : Addr} (h : c.spot = none) (n : Nat) : c.add n = ⟨c.block, c.off + n, none⟩ := by
  cases c with | mk b o s => simp at h; subst h; unfold Addr.add; split <;> simp_all
theorem ARL.add {ρ : Ren} {a c : Addr} {L : Loc} (h : ARL ρ a c L) (n : Nat) : ARL ρ (add a n) (c.add n) L := by
  obtain ⟨e, h1, h2, h3, h4, h5, h6⟩ := h
  rw [caddr h4]
  exact ⟨e, h1, h2, h3, rfl, by simp only [Abs.add]; omega, by simp only [Abs.add]; omega⟩
theorem AR.add {ρ : Ren} {a c : Addr} (h : AR ρ a c) (n : Nat) : AR ρ (Abs.add a n) (c.add n) := let ⟨L, x⟩ := h; ⟨L, x.add n⟩
theorem AR.spot {ρ : Ren} {a c : Addr} (h : AR ρ a c) : c.spot = none := let ⟨_, _, _, _, _, h4, _⟩ := h; h4

theorem get_setL : ∀ (vs : List Value) (t : Tr Cell) (i e m : Nat), (setL t i e vs).get m = if i ≤ m ∧ m < i + vs.length then (vs[m - i]?).map (⟨·, e⟩) else t.get m
  | [], t, i, e, m => by simp [setL]; omega
  | v :: vs, t, i, e, m => by
    rw [setL, get_setL vs, Tr.get_set]
    by_cases h : m = i
    · subst h
      rw [if_neg (by omega), if_pos rfl, if_pos (by simp)]; simp
    · by_cases h2 : i ≤ m ∧ m < i + (v :: vs).length
      · rw [if_pos h2, if_pos (by simp at h2 ⊢; omega)]
        obtain ⟨k, hk⟩ : ∃ k, m - i = k + 1 := ⟨m - i - 1, by omega⟩
        rw [hk, show m - (i + 1) = k by omega]; simp
      · rw [if_neg h2, if_neg (by simp at h2 ⊢; omega), if_neg h]
theorem get_ofL (l : List Value) (m : Nat) : (ofL l).get m = (l[m]?).map (⟨·, 0⟩) := by
  unfold ofL
  rw [get_setL]
  split
  · simp
  · rename_i h; rw [List.getElem?_eq_none (by simp at h; omega)]; rfl

theorem cell_of {w : World} {c : Addr} {cs : Array Value} {el : TypeId} {f : Nat × Nat} (hs : c.spot = none) (h : w.heap[c.block]? = some (.cells cs el f)) : w.cell? c = cs[c.off]? := by
  simp [World.cell?, h, hs]
theorem frozen_of {w : World} {c : Addr} {cs : Array Value} {el : TypeId} {f : Nat × Nat} (h : w.heap[c.block]? = some (.cells cs el f)) : w.frozen? c = (decide (f.1 ≤ c.off) && decide (c.off < f.2)) := by
  simp [World.frozen?, h]
theorem heap_setCell (w : World) (c : Addr) (v : Value) (b : Nat) (hs : c.spot = none) : (w.setCell c v).heap[b]? = if b = c.block then (match w.heap[b]? with | some (.cells cs el f) => some (.cells (cs.setIfInBounds c.off v) el f) | o => o) else w.heap[b]? := by
  simp only [World.setCell, Array.getElem?_modify, hs]
  by_cases h : b = c.block
  · subst h
    simp
    cases w.heap[c.block]? with
    | none => rfl
    | some o => cases o <;> rfl
  · simp [h, Ne.symm h]

theorem ESR.mono {ρ ρ' : Ren} (h : ρ.le ρ') : ∀ {l : List (Value × Value)} {l' : List MapEntry}, ESR ρ l l' → ESR ρ' l l'
  | [], [], _ => trivial
  | (k, v) :: l, e :: l', x => ⟨x.1, x.2.1.mono h, x.2.2.1.mono h, ESR.mono h x.2.2.2⟩
  | [], _ :: _, x => x.elim
  | _ :: _, [], x => x.elim
theorem LocR.keep {ρ ρ' : Ren} {w w' : World} {own : Prop} {r : Arr} {e : Nat} {L : Loc} (hle : ρ.le ρ') (hw : w'.heap[L.cb]? = w.heap[L.cb]?) (h : LocR ρ w own r e L) : LocR ρ' w' own r e L := by
  obtain ⟨h1, h2, cs, el, f, h3, h4, h5, h6⟩ := h
  refine ⟨h1, h2, cs, el, f, hw.trans h3, h4, h5, fun i c a b d => ?_⟩
  obtain ⟨v', x, y⟩ := h6 i c a b d
  exact ⟨v', x, y.mono hle⟩
theorem ObjR.keep {ρ ρ' : Ren} {w w' : World} {nro A : Nat} {ob : AObj} (hle : ρ.le ρ') (hold : ∀ e L, ρ' A e = some L → ρ A e = some L) (hw : ∀ e L, ρ A e = some L → w'.heap[L.cb]? = w.heap[L.cb]?) (h : ObjR ρ w nro A ob) : ObjR ρ' w' nro A ob := by
  cases ob with
  | arr r =>
    exact ⟨fun e L x => (h.loc e L (hold e L x)).keep hle (hw e L (hold e L x)), fun o e e' L L' x y => h.align o e e' L L' (hold _ _ x) (hold _ _ y), h.all, h.in_⟩
  | map es =>
    intro e L x
    obtain ⟨h0, es', clk, h1, h2⟩ := h e L (hold e L x)
    exact ⟨h0, es', clk, (hw e L (hold e L x)).trans h1, h2.1.mono hle, h2.2⟩

section
variable {P : Program} {ρ : Ren} {h : H} {w : World}

theorem ld_cell (hw : WR ρ h w) {a c : Addr} (ha : AR ρ a c) {v : Value} (hl : ldCell h a = some v) : ∃ v', w.cell? c = some v' ∧ VR ρ v v' := by
  obtain ⟨L, e, h1, h2, h3, h4, h5, h6⟩ := ha
  unfold ldCell at hl
  rw [h1] at hl
  split at hl
  · rename_i r e' ho he
    obtain rfl := Option.some.inj he
    split at hl
    · rename_i cl hc
      by_cases hlo : cl.lo.ble e = true
      · rw [hlo] at hl
        obtain rfl := Option.some.inj hl
        have ho' := hw.obj _ _ ho
        obtain ⟨_, _, cs, el, f, g1, g2, g3, g4⟩ := ho'.loc e L h2
        obtain ⟨v', k1, k2⟩ := g4 _ _ hc (Nat.le_of_ble_eq_true hlo) h5
        refine ⟨v', ?_, k2⟩
        rw [cell_of h4 (by rw [h3]; exact g1), ← k1, show c.off = L.co + a.off - L.ao by omega]
      · have : cl.lo.ble e = false := Bool.eq_false_iff.2 hlo
        rw [this] at hl; simp at hl
    · simp at hl
  · simp at hl

theorem ld_cells (hw : WR ρ h w) : ∀ (n : Nat) (a c : Addr) (l : List Value), (n = 0 ∨ AR ρ a c) → ldCells h a n = some l →
    ∃ l', l'.length = n ∧ l.length = n ∧ (∀ (j : Nat) (v : Value), l'[j]? = some v → w.cell? (c.add j) = some v) ∧ VRs ρ l l'
  | 0, a, c, l, _, hl => by
    obtain rfl := Option.some.inj hl
    exact ⟨[], rfl, rfl, fun j v hj => by simp at hj, .nil⟩
  | n + 1, a, c, l, ha, hl => by
    have ha' := ha.resolve_left (by omega)
    unfold ldCells at hl
    split at hl
    · rename_i v hv
      split at hl
      · rename_i l2 hl2
        obtain rfl := Option.some.inj hl
        obtain ⟨v', h1, h2⟩ := ld_cell hw ha' hv
        obtain ⟨l', g1, g0, g2, g3⟩ := ld_cells hw n _ _ l2 (.inr (ha'.add 1)) hl2
        refine ⟨v' :: l', by simp [g1], by simp [g0], fun j u hj => ?_, .cons h2 g3⟩
        cases j with
        | zero => simp at hj; subst hj; rw [caddr ha'.spot]; simpa using (by rw [← caddr ha'.spot 0]; simpa [Addr.add] using h1 : w.cell? ⟨c.block, c.off + 0, none⟩ = some v')
        | succ j =>
          have := g2 j u (by simpa using hj)
          rw [caddr (ha'.add 1).spot, caddr ha'.spot] at this
          rw [caddr ha'.spot]
          simpa [Nat.add_assoc, Nat.add_comm 1 j] using this
      · simp at hl
    · simp at hl

theorem st_cell (hw : WR ρ h w) {a c : Addr} (ha : AR ρ a c) {v v' : Value} (hv : VR ρ v v') {h' : H} (hs : stCell h a v = some h') :
    (∃ u, w.cell? c = some u) ∧ w.frozen? c = false ∧ Abs.oneC v' = true ∧ WR ρ h' (w.setCell c v') ∧ Ext ρ h w ρ h' (w.setCell c v') := by
  obtain ⟨L, e, h1, h2, h3, h4, h5, h6⟩ := ha
  unfold stCell at hs
  rw [h1] at hs
  split at hs
  · rename_i r e' ho he
    obtain rfl := Option.some.inj he
    by_cases hc : (e.beq r.ver && h.nro.ble a.block && a.off.blt r.size && Abs.oneC v) = true
    · rw [hc] at hs
      obtain rfl := Option.some.inj hs
      simp only [Bool.and_eq_true, nbeq_eq] at hc
      obtain ⟨⟨⟨c1, c2⟩, c3⟩, c4⟩ := hc
      have c2 := Nat.le_of_ble_eq_true c2
      have c3 : a.off < r.size := Nat.le_of_ble_eq_true c3
      have ho' := hw.obj _ _ ho
      obtain ⟨g0, g00, cs, el, f, g1, g2, g3, g4⟩ := ho'.loc e L h2
      obtain ⟨cl, hcl⟩ := ho'.all _ c3
      obtain ⟨u, hu, _⟩ := g4 _ _ hcl (by rw [c1]; exact (ho'.in_ _ _ hcl).2) h5
      have hoff : c.off = L.co + a.off - L.ao := by omega
      have hblk : w.heap[c.block]? = some (.cells cs el f) := by rw [h3]; exact g1
      have hlt : c.off < cs.size := by
        rw [← hoff] at hu
        exact (Array.getElem?_eq_some_iff.1 hu).1
      have hne : ∀ A' e' L', ρ A' e' = some L' → A' ≠ a.block → L'.cb ≠ c.block := by
        intro A' e' L' hA hne hcb
        have := (hw.dis A' e' L' _ _ _ hA h2 hne (by rw [hcb, h3])).2
        omega
      refine ⟨⟨u, by rw [cell_of h4 hblk, hoff]; exact hu⟩, ?_, by rw [hv.oneC]; exact c4, ⟨?_, hw.dis, ?_, ?_, hw.nro⟩, ?_⟩
      · rw [frozen_of hblk]
        have := (g3 c2).not c.off (by omega)
        by_cases x : f.1 ≤ c.off <;> by_cases y : c.off < f.2 <;> simp [x, y]
        exact this ⟨x, y⟩
      · intro A e2 L2 x
        have := hw.dom A e2 L2 x
        exact ⟨this.1, by simpa [World.setCell] using this.2⟩
      · intro A ob hob
        simp only [Tr.get_set] at hob
        by_cases hA : A = a.block
        · rw [if_pos hA] at hob
          obtain rfl := Option.some.inj hob
          subst hA
          refine ⟨?_, ho'.align, ?_, ?_⟩
          · intro e2 L2 x
            obtain ⟨k0, k00, cs2, el2, f2, k1, k2, k3, k4⟩ := ho'.loc e2 L2 x
            by_cases hcb : L2.cb = c.block
            · rw [hcb, hblk] at k1
              obtain ⟨rfl, rfl, rfl⟩ : cs = cs2 ∧ el = el2 ∧ f = f2 := by simpa using k1
              refine ⟨k0, k00, cs.setIfInBounds c.off v', el, f, by rw [hcb, heap_setCell _ _ _ _ h4, if_pos rfl, hblk], by simpa using k2, k3, ?_⟩
              intro i c5 hi hlo hao
              simp only [Tr.get_set] at hi
              have al := ho'.align c2 e2 e L2 L x h2 (by rw [hcb, h3])
              by_cases hi2 : i = a.off
              · rw [if_pos hi2] at hi
                obtain rfl := Option.some.inj hi
                refine ⟨v', ?_, hv⟩
                rw [show L2.co + i - L2.ao = c.off by omega, Array.getElem?_setIfInBounds_self_of_lt hlt]
              · rw [if_neg hi2] at hi
                obtain ⟨v2, z1, z2⟩ := k4 i c5 hi hlo hao
                refine ⟨v2, ?_, z2⟩
                rw [Array.getElem?_setIfInBounds_ne (by omega)]; exact z1
            · refine ⟨k0, k00, cs2, el2, f2, by rw [heap_setCell _ _ _ _ h4, if_neg hcb]; exact k1, k2, k3, ?_⟩
              intro i c5 hi hlo hao
              simp only [Tr.get_set] at hi
              by_cases hi2 : i = a.off
              · rw [if_pos hi2] at hi
                obtain rfl := Option.some.inj hi
                exfalso
                have : e2 = e := by simp at hlo k0; omega
                subst this
                rw [h2] at x
                obtain rfl := Option.some.inj x
                exact hcb h3.symm
              · rw [if_neg hi2] at hi
                exact k4 i c5 hi hlo hao
          · intro i hi
            simp only [Tr.get_set]
            by_cases hi2 : i = a.off
            · rw [if_pos hi2]; exact ⟨_, rfl⟩
            · rw [if_neg hi2]; exact ho'.all i hi
          · intro i c5 hi
            simp only [Tr.get_set] at hi
            by_cases hi2 : i = a.off
            · rw [if_pos hi2] at hi
              obtain rfl := Option.some.inj hi
              exact ⟨by rw [hi2]; exact c3, by simp; omega⟩
            · rw [if_neg hi2] at hi; exact ho'.in_ i c5 hi
        · rw [if_neg hA] at hob
          refine (hw.obj A ob hob).keep (Ren.le_refl _) (fun _ _ x => x) fun e2 L2 x => ?_
          rw [heap_setCell _ _ _ _ h4, if_neg (hne A e2 L2 x hA)]
      · intro A ob hob
        simp only [Tr.get_set] at hob
        by_cases hA : A = a.block
        · subst hA; exact hw.lt _ _ ho
        · rw [if_neg hA] at hob; exact hw.lt A ob hob
      · refine ⟨Ren.le_refl _, rfl, Nat.le_refl _, ?_, fun A e2 L2 x y => by rw [x] at y; simp at y, fun A e2 L2 x y => by rw [x] at y; simp at y, by simp [World.setCell], ?_, rfl, rfl, rfl, rfl, fun _ => Nat.le_refl _⟩
        · intro A hA
          simp only [Tr.get_set]
          by_cases hA2 : A = a.block
          · rw [if_pos hA2, hA2, ho]; simp
          · rw [if_neg hA2]
        · intro b hb hn
          rw [heap_setCell _ _ _ _ h4, if_neg]
          intro hb2
          exact hn a.block e L h2 (by rw [ho]; simp) c2 (by rw [hb2, h3])
    · have : (e.beq r.ver && h.nro.ble a.block && a.off.blt r.size && Abs.oneC v) = false := by simpa using hc
      rw [this] at hs; simp at hs
  · simp at hs

theorem one_eq (v : Value) : v.oneCell' = Abs.oneC v := by cases v <;> rfl
theorem run_store_ok {c : Addr} {v u : Value} (h1 : w.cell? c = some u) (h2 : w.frozen? c = false) (h3 : Abs.oneC v = true) : (store c v).run P w = .ok () (w.setCell c v) := by
  rw [run_store P w c v .plain (by rw [one_eq]; exact h3), h1]; simp [h2]

theorem st_cells : ∀ (l l' : List Value) (h : H) (w : World) (a c : Addr) (i : Nat) (h' : H), WR ρ h w → (l = [] ∨ AR ρ a c) → VRs ρ l l' → stCells h (add a i) l = some h' →
    ∃ w', (storeCells c l' i).run P w = .ok () w' ∧ WR ρ h' w' ∧ Ext ρ h w ρ h' w'
  | [], _, h, w, a, c, i, h', hw, ha, hl, hs => by
    cases hl
    obtain rfl := Option.some.inj hs
    exact ⟨w, rfl, hw, .refl _ _ _⟩
  | v :: l, _, h, w, a, c, i, h', hw, ha, .cons (v' := v') (l' := l') hv hl, hs => by
    have ha' := ha.resolve_left (by simp)
    unfold stCells at hs
    split at hs
    · rename_i h1 hs1
      obtain ⟨⟨u, k1⟩, k2, k3, k4, k5⟩ := st_cell hw (ha'.add i) hv hs1
      have e : add (add a i) 1 = add a (i + 1) := by simp [add, Nat.add_assoc]
      obtain ⟨w', g1, g2, g3⟩ := st_cells l l' h1 _ a c (i + 1) h' k4 (.inr ha') hl (by rw [← e]; exact hs)
      refine ⟨w', ?_, g2, k5.trans (fun A e L x => (hw.dom A e L x).1) g3⟩
      unfold storeCells
      rw [Sem.run_bind, run_store_ok k1 k2 k3]
      exact g1
    · simp at hs
end
end Go.Abs

/- New blocks and append stand for the model's. -/
namespace Go.Abs
open Go

/-- the tables tell the program's own functions and types -/
structure DOk (P : Program) (D : Data) : Prop where
  fn : ∀ f F, D.fn.get f = some F → P.funcs[f]? = some F ∧ F.body ≠ none ∧ (F.name == "runtime.NumGoroutine") = false
  ty : ∀ t i, D.ty.get t = some i → P.underlying t = some i.desc ∧ ∃ inf, P.info? t = some inf ∧ inf.size = i.size ∧ inf.bytes = i.bytes ∧ inf.zero = some i.zero ∧ i.zero.cells.size = i.size ∧ free i.zero = true ∧ i.size < 4294967296
  flat : ∀ t i, D.ty.get t = some i → i.flat = true → ∀ xs ys b, xs.length = i.size → cellsEq i.zero.cells.toList xs ys = some b → ∀ w, (Op.equal t (.agg xs.toArray) (.agg ys.toArray)).run P w = .ok b w ∧ ∀ op x y, (eqGuard op t x y (.agg xs.toArray) (.agg ys.toArray)).run P w = .ok () w
  mixed : P.follows .mixedOrders = true

def updR (ρ : Ren) (A e : Nat) (L : Loc) : Ren := fun A' e' => if A' = A ∧ e' = e then some L else ρ A' e'
theorem updR_self (ρ : Ren) (A e : Nat) (L : Loc) : updR ρ A e L A e = some L := by simp [updR]
theorem updR_inv {ρ : Ren} {A e : Nat} {L : Loc} {A' e' : Nat} {L' : Loc} (h : updR ρ A e L A' e' = some L') : (A' = A ∧ e' = e ∧ L' = L) ∨ ρ A' e' = some L' := by
  unfold updR at h
  split at h
  · rename_i g; exact .inl ⟨g.1, g.2, (Option.some.inj h).symm⟩
  · exact .inr h
theorem updR_le {ρ : Ren} {A e : Nat} {L : Loc} (h : ρ A e = none) : ρ.le (updR ρ A e L) := by
  intro A' e' L' h'
  unfold updR
  split
  · rename_i g; rw [g.1, g.2, h] at h'; simp at h'
  · exact h'
theorem heap_push (w w' : World) (o : Obj) (h : w'.heap = w.heap.push o) (b : Nat) (hb : b < w.heap.size) : w'.heap[b]? = w.heap[b]? := by
  rw [h, Array.getElem?_push, if_neg (by omega)]
theorem heap_push_new (w w' : World) (o : Obj) (h : w'.heap = w.heap.push o) : w'.heap[w.heap.size]? = some o := by
  rw [h, Array.getElem?_push, if_pos rfl]

section
variable {P : Program} {ρ : Ren} {h : H} {w : World}
theorem WR.grow (hw : WR ρ h w) (n : Nat) : WR ρ (Abs.grow h n) w :=
  ⟨fun A e L x => ⟨Nat.lt_of_lt_of_le (hw.dom A e L x).1 (Nat.le_add_right _ _), (hw.dom A e L x).2⟩, hw.dis, hw.obj, fun A ob x => Nat.lt_of_lt_of_le (hw.lt A ob x) (Nat.le_add_right _ _), Nat.le_trans hw.nro (Nat.le_add_right _ _)⟩
theorem WR.heap (hw : WR ρ h w) {w' : World} (hh : w'.heap = w.heap) : WR ρ h w' :=
  ⟨fun A e L x => by rw [hh]; exact hw.dom A e L x, hw.dis, fun A ob x => (hw.obj A ob x).keep (Ren.le_refl _) (fun _ _ y => y) (fun e L y => by rw [hh]), hw.lt, hw.nro⟩
theorem WR.map (hw : WR ρ h w) {id : Nat} (hid : id < h.size) (hun : ∀ e, ρ id e = none) (hnro : h.nro ≤ id) (habs : h.objs.get id = none) {w' : World} {o : Obj} (hh : w'.heap = w.heap.push o) {L : Loc} (hL : L.cb = w.heap.size) :
    WR (updR ρ id 0 L) h w' := by
  refine ⟨?_, ?_, ?_, hw.lt, hw.nro⟩
  · intro A e L' x
    rcases updR_inv x with ⟨rfl, rfl, rfl⟩ | x
    · exact ⟨hid, by rw [hL, hh]; simp⟩
    · have := hw.dom A e L' x
      exact ⟨this.1, by rw [hh]; simp; omega⟩
  · intro A e L1 A' e' L2 x y hne hcb
    rcases updR_inv x with ⟨x1, x2, x3⟩ | x1 <;> rcases updR_inv y with ⟨y1, y2, y3⟩ | y1
    · exact absurd (x1.trans y1.symm) hne
    · have := (hw.dom _ _ _ y1).2; rw [x3] at hcb; omega
    · have := (hw.dom _ _ _ x1).2; rw [y3] at hcb; omega
    · exact hw.dis A e L1 A' e' L2 x1 y1 hne hcb
  · intro A ob x
    refine (hw.obj A ob x).keep (updR_le (hun 0)) ?_ ?_
    · intro e L' y
      rcases updR_inv y with ⟨rfl, rfl, rfl⟩ | y
      · rw [habs] at x; simp at x
      · exact y
    · intro e L' y
      exact heap_push w w' o hh _ (hw.dom _ _ _ y).2
theorem WR.ins (hw : WR ρ h w) {id : Nat} {ob : AObj} (hid : id < h.size) (hob : ObjR ρ w h.nro id ob) : WR ρ (newAt h id ob) w := by
  refine ⟨hw.dom, hw.dis, ?_, ?_, hw.nro⟩
  · intro A ob' x
    simp only [newAt, Tr.get_set] at x
    by_cases hA : A = id
    · rw [if_pos hA] at x; obtain rfl := Option.some.inj x; subst hA; exact hob
    · rw [if_neg hA] at x; exact hw.obj A ob' x
  · intro A ob' x
    simp only [newAt, Tr.get_set] at x
    by_cases hA : A = id
    · subst hA; exact hid
    · rw [if_neg hA] at x; exact hw.lt A ob' x
theorem row_R {ρ' : Ren} {w' : World} {nro A : Nat} {elem el : TypeId} {l l' : List Value} {cs : Array Value} {f : Nat × Nat} {L : Loc} (hl : VRs ρ' l l') (hb : w'.heap[L.cb]? = some (.cells cs el f))
    (hf : FrzOK f cs.size) (hcs : ∀ (i : Nat) (v : Value), l'[i]? = some v → cs[i]? = some v) (hL : L.co = 0 ∧ L.ao = 0 ∧ L.top = l.length ∧ L.n = cs.size)
    (hmap : ∀ e L', ρ' A e = some L' → e = 0 ∧ L' = L) : ObjR ρ' w' nro A (row elem l) := by
  refine ⟨?_, ?_, ?_, ?_⟩
  · intro e L' x
    obtain ⟨rfl, rfl⟩ := hmap e L' x
    refine ⟨Nat.zero_le _, fun _ => hL.2.2.1, cs, el, f, hb, hL.2.2.2.symm, fun _ => by rw [hL.2.2.2]; exact hf, ?_⟩
    intro i c hi _ _
    simp only [get_ofL] at hi
    cases hv : l[i]? with
    | none => rw [hv] at hi; simp at hi
    | some v =>
      rw [hv] at hi
      simp at hi
      subst hi
      obtain ⟨v', h1, h2⟩ := hl.get i v hv
      exact ⟨v', by rw [show L'.co + i - L'.ao = i by omega]; exact hcs i v' h1, h2⟩
  · intro _ e e' L1 L2 x y _
    obtain ⟨rfl, rfl⟩ := hmap e L1 x
    obtain ⟨rfl, rfl⟩ := hmap e' L2 y
    rfl
  · intro i hi
    exact ⟨⟨l[i]'hi, 0⟩, by simp only [get_ofL, List.getElem?_eq_getElem hi, Option.map_some]⟩
  · intro i c hi
    simp only [get_ofL] at hi
    cases hv : l[i]? with
    | none => rw [hv] at hi; simp at hi
    | some v =>
      rw [hv] at hi; simp at hi; subst hi
      exact ⟨(List.getElem?_eq_some_iff.1 hv).1, Nat.le_refl _⟩

/-- a new block: what it is, whatever number it gets -/
structure NewOK (ρ : Ren) (nro : Nat) (w : World) (ob : AObj) (mk : Nat → Value) (v' : Value) (w' : World) (L : Loc) : Prop where
  cb : L.cb = w.heap.size
  push : ∃ o, w'.heap = w.heap.push o
  os : w'.os = w.os
  tape : w'.tape = w.tape
  output : OutR w w'
  rel : ∀ id ρ', ρ.le ρ' → ρ' id 0 = some L → VR ρ' (mk id) v'
  obj : ∀ id ρ', ρ.le ρ' → (∀ e L', ρ' id e = some L' → e = 0 ∧ L' = L) → ∀ w'', w''.heap[L.cb]? = w'.heap[L.cb]? → ObjR ρ' w'' nro id ob
theorem NewOK.step (hw : WR ρ h w) {ob : AObj} {mk : Nat → Value} {v' : Value} {w' : World} {L : Loc} (hn : NewOK ρ h.nro w ob mk v' w' L) :
    VR (updR ρ h.size 0 L) (mk h.size) v' ∧ WR (updR ρ h.size 0 L) (newAt (Abs.grow h 1) h.size ob) w' ∧ Ext ρ h w (updR ρ h.size 0 L) (newAt (Abs.grow h 1) h.size ob) w' := by
  have hun : ∀ e, ρ h.size e = none := by
    intro e
    cases x : ρ h.size e with
    | none => rfl
    | some L => have := (hw.dom _ _ _ x).1; omega
  have habs : h.objs.get h.size = none := by
    cases x : h.objs.get h.size with
    | none => rfl
    | some L => have := hw.lt _ _ x; omega
  have hle : ρ.le (updR ρ h.size 0 L) := updR_le (hun 0)
  obtain ⟨o, ho⟩ := hn.push
  have hmap : ∀ e L', updR ρ h.size 0 L h.size e = some L' → e = 0 ∧ L' = L := by
    intro e L' x
    rcases updR_inv x with ⟨_, rfl, rfl⟩ | x
    · exact ⟨rfl, rfl⟩
    · rw [hun] at x; simp at x
  refine ⟨hn.rel _ _ hle (updR_self _ _ _ _), ?_, ?_⟩
  · exact ((hw.grow 1).map (by simp [Abs.grow]) hun hw.nro habs ho hn.cb).ins (by simp [Abs.grow]) (hn.obj _ _ hle hmap _ rfl)
  · refine ⟨hle, rfl, by simp [newAt, Abs.grow], ?_, ?_, ?_, by rw [ho]; simp, ?_, hn.os, hn.tape, hn.output.1, rfl, fun _ => hn.output.2⟩
    · intro A hA
      simp only [newAt, Abs.grow, Tr.get_set]
      rw [if_neg (by omega)]
    · intro A e L' x y
      rcases updR_inv x with ⟨_, rfl, rfl⟩ | x
      · exact .inl (by rw [hn.cb]; exact Nat.le_refl _)
      · rw [x] at y; simp at y
    · intro A e L' x y
      rcases updR_inv x with ⟨rfl, rfl, rfl⟩ | x
      · exact .inl (Nat.le_refl _)
      · rw [x] at y; simp at y
    · intro b hb _
      exact heap_push w w' o ho b hb

/-- a row of cells in a new block, its first cells being known -/
theorem new_row {elem : TypeId} {l l' : List Value} (hl : VRs ρ l l') {w' : World} {cs : Array Value} {el : TypeId} {f : Nat × Nat} (hh : w'.heap = w.heap.push (.cells cs el f)) (hf : FrzOK f cs.size)
    (hcs : ∀ (i : Nat) (v : Value), l'[i]? = some v → cs[i]? = some v) (o1 : w'.os = w.os) (o2 : w'.tape = w.tape) (o3 : OutR w w') (mk : Nat → Value) (v' : Value)
    (hv : ∀ id ρ', ρ.le ρ' → ρ' id 0 = some ⟨w.heap.size, 0, 0, l.length, cs.size⟩ → VR ρ' (mk id) v') :
    NewOK ρ h.nro w (row elem l) mk v' w' ⟨w.heap.size, 0, 0, l.length, cs.size⟩ :=
  ⟨rfl, ⟨_, hh⟩, o1, o2, o3, hv, fun id ρ' hle hmap w'' hw'' => row_R (VRs.mono hle hl) (by rw [hw'']; exact heap_push_new w w' _ hh) hf hcs ⟨rfl, rfl, rfl, rfl⟩ hmap⟩
theorem AR_new {ρ' : Ren} {id b t n : Nat} (h : ρ' id 0 = some ⟨b, 0, 0, t, n⟩) : AR ρ' ⟨id, 0, some 0⟩ ⟨b, 0, none⟩ :=
  ⟨_, 0, rfl, h, rfl, rfl, Nat.le_refl _, rfl⟩
theorem capK_UNK (z : Nat) (h : z < B63) : capK (UNK z) = .unk z := by
  have h1 : (UNK z).blt B63 = false := by
    cases x : (UNK z).blt B63 with
    | false => rfl
    | true => have x : UNK z < B63 := Nat.le_of_ble_eq_true x; unfold UNK at x; omega
  have h2 : (UNK z).blt (2 * B63) = true := Nat.ble_eq_true_of_le (by show UNK z + 1 ≤ _; unfold UNK; omega)
  unfold capK
  rw [h1, h2]
  simp [UNK]
theorem capK_UNK0 (z : Nat) (h : z < B63) : capK (UNK0 z) = .unk0 z := by
  have h1 : (UNK0 z).blt B63 = false := by
    cases x : (UNK0 z).blt B63 with
    | false => rfl
    | true => have x : UNK0 z < B63 := Nat.le_of_ble_eq_true x; unfold UNK0 at x; omega
  have h2 : (UNK0 z).blt (2 * B63) = false := by
    cases x : (UNK0 z).blt (2 * B63) with
    | false => rfl
    | true => have x : UNK0 z < 2 * B63 := Nat.le_of_ble_eq_true x; unfold UNK0 at x; omega
  have h3 : (UNK0 z).blt (4 * B63) = true := Nat.ble_eq_true_of_le (by show UNK0 z + 1 ≤ _; unfold UNK0; omega)
  unfold capK
  rw [h1, h2, h3]
  simp [UNK0]
theorem capK_exact {k : Nat} (h : k < B63) : capK k = .exact k := by
  have h1 : k.blt B63 = true := Nat.ble_eq_true_of_le h
  unfold capK
  rw [h1]; rfl
theorem capK_exact_inv {c k : Nat} (h : capK c = .exact k) : c = k := by
  unfold capK at h
  cases h1 : c.blt B63 <;> rw [h1] at h
  · cases h2 : c.blt (2 * B63) <;> rw [h2] at h
    · cases h3 : c.blt (4 * B63) <;> rw [h3] at h <;> simp at h
    · simp at h
  · simpa using h
theorem capK_exact_lt {c k : Nat} (h : capK c = .exact k) : k < B63 := by
  have := capK_exact_inv h
  subst this
  unfold capK at h
  cases h1 : c.blt B63 with
  | true => exact Nat.le_of_ble_eq_true h1
  | false =>
    rw [h1] at h
    cases h2 : c.blt (2 * B63) <;> rw [h2] at h
    · cases h3 : c.blt (4 * B63) <;> rw [h3] at h <;> simp at h
    · simp at h
theorem VR_slice_unk {ρ' : Ren} {id b t n len c z : Nat} (hz : z < B63) (h : ρ' id 0 = some ⟨b, 0, 0, t, n⟩) (h1 : len ≤ c) (h2 : c * z ≤ n) (h3 : t ≤ c * z) :
    VR ρ' (.slice (some ⟨id, 0, some 0⟩) len (UNK z)) (.slice (some ⟨b, 0, none⟩) len c) := by
  refine .slice _ _ _ _ _ ?_
  rw [capK_UNK z hz]
  exact ⟨h1, _, ⟨0, rfl, h, rfl, rfl, Nat.le_refl _, rfl⟩, by simpa using h2, by simpa using h3⟩
end
end Go.Abs

/- append: what it appends (Src), with room and without. -/
namespace Go.Abs
open Go

section
variable {P : Program} {ρ : Ren} {h : H} {w : World}

/-- stores into one block, cell by cell -/
theorem store_run (b : Nat) (el : TypeId) (f : Nat × Nat) : ∀ (vs : List Value) (i o : Nat) (w : World) (cs : Array Value), w.heap[b]? = some (.cells cs el f) → o + i + vs.length ≤ cs.size → (∀ k, k < cs.size → ¬ (f.1 ≤ k ∧ k < f.2)) → (∀ v ∈ vs, oneC v = true) →
    ∃ w' cs', (storeCells ⟨b, o, none⟩ vs i).run P w = .ok () w' ∧ w'.heap[b]? = some (.cells cs' el f) ∧ cs'.size = cs.size ∧ (∀ k, cs'[k]? = if o + i ≤ k ∧ k < o + i + vs.length then vs[k - (o + i)]? else cs[k]?) ∧
      (∀ b', b' ≠ b → w'.heap[b']? = w.heap[b']?) ∧ w'.heap.size = w.heap.size ∧ w'.os = w.os ∧ w'.tape = w.tape ∧ OutR w w'
  | [], i, o, w, cs, hb, _, _, _ => ⟨w, cs, rfl, hb, rfl, fun k => by rw [if_neg (by simp)], fun _ _ => rfl, rfl, rfl, rfl, OutR.refl _⟩
  | v :: vs, i, o, w, cs, hb, hl, hf, h1 => by
    have ha : (⟨b, o, none⟩ : Addr).add i = ⟨b, o + i, none⟩ := caddr rfl i
    have hlt : o + i < cs.size := by simp at hl; omega
    have hb1 : (w.setCell ⟨b, o + i, none⟩ v).heap[b]? = some (.cells (cs.setIfInBounds (o + i) v) el f) := by
      rw [heap_setCell _ _ _ _ rfl, if_pos rfl, hb]
    obtain ⟨w', cs', g1, g2, g3, g4, g5, g6, g7, g8, g9⟩ := store_run b el f vs (i + 1) o _ _ hb1 (by simp at hl ⊢; omega) (by simpa using hf) (fun u hu => h1 u (List.mem_cons_of_mem _ hu))
    refine ⟨w', cs', ?_, g2, by simpa using g3, ?_, ?_, by simpa [World.setCell] using g6, g7, g8, g9⟩
    · unfold storeCells
      rw [Sem.run_bind, ha, run_store_ok (u := cs[o + i]) (by rw [cell_of rfl hb]; exact Array.getElem?_eq_getElem hlt) ?_ (h1 v (List.mem_cons_self ..))]
      · exact g1
      · rw [frozen_of hb]
        have := hf (o + i) hlt
        by_cases x : f.1 ≤ o + i <;> by_cases y : o + i < f.2 <;> simp [x, y]
        exact this ⟨x, y⟩
    · intro k
      rw [g4]
      by_cases hk : k = o + i
      · subst hk
        rw [if_neg (by omega), if_pos (by simp)]
        rw [Array.getElem?_setIfInBounds_self_of_lt hlt]; simp
      · by_cases hk2 : o + i ≤ k ∧ k < o + i + (v :: vs).length
        · rw [if_pos hk2, if_pos (by simp at hk2 ⊢; omega)]
          obtain ⟨d, hd⟩ : ∃ d, k - (o + i) = d + 1 := ⟨k - (o + i) - 1, by omega⟩
          rw [hd, show k - (o + (i + 1)) = d by omega]; simp
        · rw [if_neg hk2, if_neg (by simp at hk2 ⊢; omega), Array.getElem?_setIfInBounds_ne (by omega)]
    · intro b' hb'
      rw [g5 b' hb', heap_setCell _ _ _ _ rfl, if_neg (by simpa using hb')]

/-- what is appended -/
structure SrcAny (P : Program) (inf : TypeInfo) (xt : TypeId) (x : Value) (m : Nat) (new : List Value) (w : World) : Prop where
  len : new.length = m * inf.size
  one : ∀ u ∈ new, oneC u = true
  room : ∀ (st ty e : TypeId) (base : Option Addr) (sLen sCap : Nat) (w' : World), P.underlying st = some (.slice e) → P.info? e = some inf → sLen + m ≤ sCap →
    (∀ a, base = some a → (storeCells (a.add (sLen * inf.size)) new).run P w = .ok () w') → (base = none → w' = w) →
    (Builtin.append_ #[st, xt] ty #[.slice base sLen sCap, x]).run P w = .ok (.slice base (sLen + m) sCap) w'
  grow : ∀ (st ty e : TypeId) (base : Option Addr) (sLen sCap : Nat) (z : Value) (olds : List Value), P.underlying st = some (.slice e) → P.info? e = some inf → inf.zero = some z →
    (Builtin.firstCells inf.size sLen (.slice base sLen sCap)).run P w.drew = .ok olds.toArray w.drew → sCap < sLen + m → ((sLen + m : Nat) : Int) ≤ 9223372036854775807 → Builtin.nextslicecap (sLen + m) sCap * inf.bytes ≤ 281474976710656 →
    (Builtin.append_ #[st, xt] ty #[.slice base sLen sCap, x]).run P w =
      .ok (.slice (some ⟨w.heap.size, 0, none⟩) (sLen + m) (grownCap w (sLen + m) sCap e))
        (w.drew.alloc (.cells ((olds ++ new).toArray ++ Builtin.zeroCells z.cells (grownCap w (sLen + m) sCap e - (sLen + m))) e))

theorem SrcAny.ofSrc {inf : TypeInfo} {xt : TypeId} {x : Value} {m : Nat} {new : List Value} (hs : Src P inf.size xt x m new w) : SrcAny P inf xt x m new w := by
  refine ⟨hs.newsLen, fun u hu => by rw [← one_eq]; exact hs.one u hu, ?_, ?_⟩
  · intro st ty e base sLen sCap w' ht hi hroom hst hno
    cases base with
    | none =>
      rcases hs.kind with ⟨e', hk⟩ | hk <;> simp [Builtin.append_, run_underlying ht, run_underlying hk, sizeOf, typeInfo, hi, hs.len, hroom, hs.cells, hno rfl]
    | some a =>
      have hst := hst a rfl
      rcases hs.kind with ⟨e', hk⟩ | hk <;> simp [Builtin.append_, run_underlying ht, run_underlying hk, sizeOf, typeInfo, hi, hs.len, hroom, hs.cells, hst]
  · intro st ty e base sLen sCap z olds ht hi hz hold hg h63 hfit
    exact run_append_grow_src w st xt ty e inf z ht hi hz base sLen sCap olds hold x m new hs hg h63 hfit

theorem zeros_cells (z : Value) (n : Nat) : (Builtin.zeroCells z.cells n).toList = zeros z n := by
  unfold Builtin.zeroCells zeros
  generalize z.cells = c
  apply List.ext_getElem?
  intro i
  induction n generalizing i with
  | zero => simp
  | succ n ih =>
    rw [List.replicate_succ, List.flatten_cons]
    by_cases hi : i < c.size
    · rw [List.getElem?_append_left (by simpa using hi)]
      have h2 : i < (n + 1) * c.size := by rw [Nat.add_mul]; omega
      simp only [Array.toList_map, Array.toList_range, List.getElem?_map, List.getElem?_range h2, Option.map_some, Nat.mod_eq_of_lt hi]
      simp [hi]
    · rw [List.getElem?_append_right (by simpa using hi)]
      have := ih (i - c.toList.length)
      rw [← this]
      simp only [Array.length_toList, Array.toList_map, Array.toList_range, List.getElem?_map]
      by_cases hc : c.size = 0
      · simp [hc]
      · by_cases h2 : i < (n + 1) * c.size
        · rw [List.getElem?_range h2, List.getElem?_range (by rw [Nat.add_mul] at h2; omega)]
          have : (i - c.size) % c.size = i % c.size := by
            conv => rhs; rw [show i = (i - c.size) + c.size by omega, Nat.add_mod_right]
          simp [this]
        · rw [List.getElem?_eq_none (by simpa using h2), List.getElem?_eq_none (by rw [Nat.add_mul] at h2; simp; omega)]

theorem SrcAny.ofZeros {inf : TypeInfo} {xt e : TypeId} {z : Value} {m : Nat} (hk : P.underlying xt = some (.int .i64)) (hi : P.info? e = some inf) (hz : inf.zero = some z) (hzs : z.cells.size = inf.size) (hzo : free z = true ∧ ∀ u ∈ z.cells.toList, oneC u = true) (hm : m < 4611686018427387904) (hb : m * inf.bytes ≤ 281474976710656) : SrcAny P inf xt (.int .i64 m) m (zeros z m) w := by
  have hlen : (zeros z m).length = m * inf.size := by
    unfold zeros; simp [hzs]
  have hw : IntKind.i64.wrap (m : Int) = m := by
    have := IntKind.wrap_i64 (m : Int)
    rw [this]; omega
  have hneg : ¬ ((m : Int) < 0) := by omega
  have hbig : ¬ (281474976710656 < (m : Int) * (inf.bytes : Int)) := by rw [← Int.natCast_mul]; omega
  have hnil : m * inf.size = 0 → zeros z m = [] := fun h0 => List.eq_nil_of_length_eq_zero (by rw [hlen, h0])
  have hzc : Builtin.zeroCells z.cells m = (zeros z m).toArray := by
    apply Array.ext'; rw [zeros_cells]
  refine ⟨hlen, ?_, ?_, ?_⟩
  · intro u hu
    unfold zeros at hu
    simp only [List.mem_flatten, List.mem_replicate] at hu
    obtain ⟨l, ⟨_, rfl⟩, hu⟩ := hu
    exact hzo.2 u hu
  · intro st ty e' base sLen sCap w' ht hi' hroom hst hno
    by_cases h0 : m * inf.size = 0
    · cases base with
      | none =>
        simp [Builtin.append_, run_underlying ht, run_underlying hk, sizeOf, typeInfo, hi', asInt, asIntOf, hw, hneg, hbig, hroom, h0, hno rfl]
      | some a =>
        have hst := hst a rfl
        rw [hnil h0] at hst
        simp [Builtin.append_, run_underlying ht, run_underlying hk, sizeOf, typeInfo, hi', asInt, asIntOf, hw, hneg, hbig, hroom, h0, hst]
    · cases base with
      | none =>
        simp [Builtin.append_, run_underlying ht, run_underlying hk, sizeOf, typeInfo, zeroValue, hi', hz, asInt, asIntOf, hw, hneg, hbig, hroom, hno rfl]
      | some a =>
        have hst := hst a rfl
        simp [Builtin.append_, run_underlying ht, run_underlying hk, sizeOf, typeInfo, zeroValue, hi', hz, asInt, asIntOf, hw, hneg, hbig, hroom, h0, hzc, hst]
  · intro st ty e' base sLen sCap z' olds ht hi' hz' hold hg h63 hfit
    rw [hz] at hz'
    obtain rfl := Option.some.inj hz'
    have hn : ¬ (sLen + m ≤ sCap) := by omega
    have h63' : ¬ (9223372036854775807 < ((sLen : Int) + (m : Int))) := by omega
    have h48' : ¬ (281474976710656 < Builtin.nextslicecap (sLen + m) sCap * inf.bytes) := by omega
    by_cases h0 : m * inf.size = 0
    · simp [Builtin.append_, run_underlying ht, run_underlying hk, sizeOf, typeInfo, zeroValue, hi', hz, asInt, asIntOf, hw, hneg, hbig, hn, h63', h48', h0, Question.forced, hold, newRow, grownCap, hnil h0]
    · simp [Builtin.append_, run_underlying ht, run_underlying hk, sizeOf, typeInfo, zeroValue, hi', hz, asInt, asIntOf, hw, hneg, hbig, hn, h63', h48', h0, Question.forced, hold, newRow, grownCap, hzc]
      congr 2
      apply Array.ext'
      simp [List.append_assoc]
end
end Go.Abs

/- append, as the machine has it, stands for the model's. -/
namespace Go.Abs
open Go

section
variable {P : Program} {ρ : Ren} {h : H} {w : World}

def ValOK (ρ : Ren) (h : H) (w : World) (v : Value) (h' : H) (v' : Value) (w' : World) : Prop := ∃ ρ', VR ρ' v v' ∧ WR ρ' h' w' ∧ Ext ρ h w ρ' h' w'
def OpOK (ρ : Ren) (h : H) (w : World) (r : OpR) (res : Result Value) : Prop :=
  match r with
  | .val v h' => ∃ v' w', res = .ok v' w' ∧ ValOK ρ h w v h' v' w'
  | .new ob mk => ∃ v' w' L, res = .ok v' w' ∧ NewOK ρ h.nro w ob mk v' w' L
  | _ => False
theorem ValOK.same (hw : WR ρ h w) {v v' : Value} (hv : VR ρ v v') : ValOK ρ h w v h v' w := ⟨ρ, hv, hw, .refl _ _ _⟩

/-- a version more -/
theorem bump (hw : WR ρ h w) {A : Nat} {r : Arr} (ho : h.objs.get A = some (.arr r)) (hA : h.nro ≤ A) {s : Nat} {new new' : List Value} (hs : s ≤ r.size) (hn : r.size < s + new.length) {ρ' : Ren} {L' : Loc}
    (hρ : ρ' = updR ρ A (r.ver + 1) L') (hl : VRs ρ new new') {w' : World} (hsz : w.heap.size ≤ w'.heap.size) (hos : w'.os = w.os) (htp : w'.tape = w.tape) (hout : OutR w w')
    (hcb : L'.cb < w'.heap.size) (hdis : ∀ A2 e2 L2, ρ A2 e2 = some L2 → A2 ≠ A → L2.cb ≠ L'.cb)
    (hkeep : ∀ b, b < w.heap.size → b ≠ L'.cb → w'.heap[b]? = w.heap[b]?) (htop : L'.top = s + new.length)
    (hblk : ∃ cs el f, w'.heap[L'.cb]? = some (.cells cs el f) ∧ cs.size = L'.n ∧ FrzOK f L'.n ∧
      (∀ k v', new'[k]? = some v' → L'.ao ≤ s + k ∧ cs[L'.co + (s + k) - L'.ao]? = some v') ∧
      (∀ i c, r.cells.get i = some c → L'.ao ≤ i → i < s → ∃ v', cs[L'.co + i - L'.ao]? = some v' ∧ VR ρ c.v v'))
    (hold : ∀ e2 L2, ρ A e2 = some L2 → L2.cb = L'.cb → L2.co + L'.ao = L'.co + L2.ao ∧ ∃ cs cs' el f, w.heap[L2.cb]? = some (.cells cs el f) ∧ w'.heap[L2.cb]? = some (.cells cs' el f) ∧ cs'.size = cs.size ∧
      ∀ i, L2.ao ≤ i → ¬ (s ≤ i ∧ i < s + new.length) → cs'[L2.co + i - L2.ao]? = cs[L2.co + i - L2.ao]?)
    (hnewb : w.heap.size ≤ L'.cb ∨ ∃ e0 L0, ρ A e0 = some L0 ∧ L'.cb = L0.cb) :
    WR ρ' { h with tick := h.tick + 1, objs := h.objs.set A (.arr { r with size := s + new.length, ver := r.ver + 1, cells := setL r.cells s (r.ver + 1) new }) } w' ∧
    Ext ρ h w ρ' { h with tick := h.tick + 1, objs := h.objs.set A (.arr { r with size := s + new.length, ver := r.ver + 1, cells := setL r.cells s (r.ver + 1) new }) } w' := by
  have ho' := hw.obj _ _ ho
  have hAs := hw.lt _ _ ho
  have hun : ρ A (r.ver + 1) = none := by
    cases x : ρ A (r.ver + 1) with
    | none => rfl
    | some L => have := (ho'.loc _ _ x).le; omega
  have hle : ρ.le ρ' := by rw [hρ]; exact updR_le hun
  have inv : ∀ {A' e' L''}, ρ' A' e' = some L'' → (A' = A ∧ e' = r.ver + 1 ∧ L'' = L') ∨ ρ A' e' = some L'' := by
    intro A' e' L'' x; rw [hρ] at x; exact updR_inv x
  obtain ⟨cs, el, f, b1, b2, b3, b4, b5⟩ := hblk
  refine ⟨⟨?_, ?_, ?_, ?_, hw.nro⟩, ⟨hle, rfl, Nat.le_refl _, ?_, ?_, ?_, hsz, ?_, hos, htp, hout.1, rfl, fun _ => hout.2⟩⟩
  · intro A' e' L'' x
    rcases inv x with ⟨rfl, rfl, rfl⟩ | x1
    · exact ⟨hAs, hcb⟩
    · have := hw.dom _ _ _ x1; exact ⟨this.1, by omega⟩
  · intro A1 e1 L1 A2 e2 L2 x y hne hc
    rcases inv x with ⟨x1, x2, x3⟩ | x1 <;> rcases inv y with ⟨y1, y2, y3⟩ | y1
    · exact absurd (x1.trans y1.symm) hne
    · exact absurd (hc.symm.trans (by rw [x3])) (hdis _ _ _ y1 (fun z => hne (x1.trans z.symm)))
    · exact absurd (hc.trans (by rw [y3])) (hdis _ _ _ x1 (fun z => hne (z.trans y1.symm)))
    · exact hw.dis _ _ _ _ _ _ x1 y1 hne hc
  · intro A1 ob x
    simp only [Tr.get_set] at x
    by_cases hA1 : A1 = A
    · rw [if_pos hA1] at x
      obtain rfl := Option.some.inj x
      subst hA1
      refine ⟨?_, ?_, ?_, ?_⟩
      · intro e2 L2 y
        rcases inv y with ⟨y1, y2, y3⟩ | y1
        · subst y2; subst y3
          refine ⟨Nat.le_refl _, fun _ => htop, cs, el, f, b1, b2, fun _ => b3, ?_⟩
          intro i c hi hlo hao
          simp only [get_setL] at hi
          by_cases hr : s ≤ i ∧ i < s + new.length
          · rw [if_pos hr] at hi
            cases hv : new[i - s]? with
            | none => rw [hv] at hi; simp at hi
            | some v =>
              rw [hv] at hi; simp at hi; subst hi
              obtain ⟨v', z1, z2⟩ := hl.get _ _ hv
              obtain ⟨z3, z4⟩ := b4 _ _ z1
              exact ⟨v', by rw [show s + (i - s) = i by omega] at z4; exact z4, z2.mono hle⟩
          · rw [if_neg hr] at hi
            have := ho'.in_ _ _ hi
            obtain ⟨v', z1, z2⟩ := b5 i c hi hao (by omega)
            exact ⟨v', z1, z2.mono hle⟩
        · obtain ⟨k0, k00, cs2, el2, f2, k1, k2, k3, k4⟩ := ho'.loc e2 L2 y1
          have k0' : e2 ≤ r.ver := k0
          by_cases hc : L2.cb = L'.cb
          · obtain ⟨al, cs3, cs4, el3, f3, m1, m2, m3, m4⟩ := hold e2 L2 y1 hc
            rw [k1] at m1
            obtain ⟨rfl, rfl, rfl⟩ : cs2 = cs3 ∧ el2 = el3 ∧ f2 = f3 := by simpa using m1
            refine ⟨by show e2 ≤ r.ver + 1; omega, fun z => by simp at z; omega, cs4, el2, f2, m2, m3.trans k2, k3, ?_⟩
            intro i c hi hlo hao
            simp only [get_setL] at hi
            by_cases hr : s ≤ i ∧ i < s + new.length
            · rw [if_pos hr] at hi
              cases hv : new[i - s]? with
              | none => rw [hv] at hi; simp at hi
              | some v => rw [hv] at hi; simp at hi; subst hi; simp at hlo; omega
            · rw [if_neg hr] at hi
              obtain ⟨v', z1, z2⟩ := k4 i c hi hlo hao
              exact ⟨v', by rw [m4 i hao hr]; exact z1, z2.mono hle⟩
          · refine ⟨by show e2 ≤ r.ver + 1; omega, fun z => by simp at z; omega, cs2, el2, f2, by rw [hkeep _ (hw.dom _ _ _ y1).2 hc]; exact k1, k2, k3, ?_⟩
            intro i c hi hlo hao
            simp only [get_setL] at hi
            by_cases hr : s ≤ i ∧ i < s + new.length
            · rw [if_pos hr] at hi
              cases hv : new[i - s]? with
              | none => rw [hv] at hi; simp at hi
              | some v => rw [hv] at hi; simp at hi; subst hi; simp at hlo; omega
            · rw [if_neg hr] at hi
              obtain ⟨v', z1, z2⟩ := k4 i c hi hlo hao
              exact ⟨v', z1, z2.mono hle⟩
      · intro _ e1 e2 L1 L2 x1 y1 hc
        rcases inv x1 with ⟨_, _, x3⟩ | x2 <;> rcases inv y1 with ⟨_, _, y3⟩ | y2
        · rw [x3, y3]
        · have := (hold _ _ y2 (by rw [← hc, x3])).1; rw [x3]; omega
        · have := (hold _ _ x2 (by rw [hc, y3])).1; rw [y3]; omega
        · exact ho'.align hA _ _ _ _ x2 y2 hc
      · intro i hi
        simp only [get_setL]
        by_cases hr : s ≤ i ∧ i < s + new.length
        · rw [if_pos hr, List.getElem?_eq_getElem (by omega)]; exact ⟨_, rfl⟩
        · rw [if_neg hr]; simp at hi; exact ho'.all i (by omega)
      · intro i c hi
        simp only [get_setL] at hi
        by_cases hr : s ≤ i ∧ i < s + new.length
        · rw [if_pos hr] at hi
          cases hv : new[i - s]? with
          | none => rw [hv] at hi; simp at hi
          | some v => rw [hv] at hi; simp at hi; subst hi; exact ⟨hr.2, Nat.le_refl _⟩
        · rw [if_neg hr] at hi
          have := ho'.in_ _ _ hi
          exact ⟨by show i < s + new.length; omega, by show c.lo ≤ r.ver + 1; omega⟩
    · rw [if_neg hA1] at x
      refine (hw.obj A1 ob x).keep hle ?_ ?_
      · intro e L y
        rcases inv y with ⟨y1, _, _⟩ | y1
        · exact absurd y1 hA1
        · exact y1
      · intro e L y
        exact hkeep _ (hw.dom _ _ _ y).2 (hdis _ _ _ y hA1)
  · intro A1 ob x
    simp only [Tr.get_set] at x
    by_cases hA1 : A1 = A
    · rw [hA1]; exact hAs
    · rw [if_neg hA1] at x; exact hw.lt _ _ x
  · intro A1 _
    simp only [Tr.get_set]
    by_cases hA1 : A1 = A
    · rw [if_pos hA1, hA1, ho]; simp
    · rw [if_neg hA1]
  · intro A1 e L x y
    rcases inv x with ⟨rfl, _, rfl⟩ | x1
    · rcases hnewb with z | ⟨e0, L0, z1, z2⟩
      · exact .inl z
      · exact .inr ⟨e0, L0, z1, by rw [ho]; simp, hA, z2⟩
    · rw [x1] at y; simp at y
  · intro A1 e L x y
    rcases inv x with ⟨rfl, _, rfl⟩ | x1
    · exact .inr (by rw [ho]; simp)
    · rw [x1] at y; simp at y
  · intro b hb hno
    refine hkeep b hb ?_
    intro hc
    rcases hnewb with z | ⟨e0, L0, z1, z2⟩
    · omega
    · exact hno A e0 L0 z1 (by rw [ho]; simp) hA (by rw [hc, z2])
end
end Go.Abs

/- append, the machine's, stands for the model's. -/
namespace Go.Abs
open Go

structure TyOk (P : Program) (t : TypeId) (i : TyI) (inf : TypeInfo) : Prop where
  und : P.underlying t = some i.desc
  info : P.info? t = some inf
  size : inf.size = i.size
  bytes : inf.bytes = i.bytes
  zero : inf.zero = some i.zero
  zsize : i.zero.cells.size = i.size
  free : free i.zero = true
  small : i.size < 4294967296
theorem DOk.tyOk {P : Program} {D : Data} (hD : DOk P D) {t : TypeId} {i : TyI} (h : D.ty.get t = some i) : ∃ inf, TyOk P t i inf := by
  obtain ⟨h1, inf, h2, h3, h4, h5, h6, h7, h8⟩ := hD.ty t i h
  exact ⟨inf, h1, h2, h3, h4, h5, h6, h7, h8⟩
theorem grownCap_ge' (w : World) (need old : Nat) (e : TypeId) : need ≤ grownCap w need old e := by
  unfold grownCap Question.cut; simp only; omega
theorem VRs.oneC {ρ : Ren} {l l' : List Value} (h : VRs ρ l l') : (∀ u ∈ l', Abs.oneC u = true) → ∀ u ∈ l, Abs.oneC u = true := by
  intro g
  induction l generalizing l' with
  | nil => intro u hu; simp at hu
  | cons a l ih => cases h with
    | cons p q =>
      intro u hu
      rcases List.mem_cons.1 hu with rfl | hu
      · rw [← p.oneC]; exact g _ (List.mem_cons_self ..)
      · exact ih q (fun u hu => g u (List.mem_cons_of_mem _ hu)) u hu

section
variable {P : Program} {ρ : Ren} {h : H} {w : World}
theorem grow_res (hw : WR ρ h w) {elem : TypeId} {j : TyI} {inf : TypeInfo} (hj : TyOk P elem j inf) {old old' new new' : List Value} (ho : VRs ρ old old') (hn : VRs ρ new new') {len m sCap : Nat} (hol : old.length = len * j.size) (hnl : new.length = m * j.size) {wr : World}
    (hwr : wr = w.drew.alloc (.cells ((old' ++ new').toArray ++ Builtin.zeroCells j.zero.cells (grownCap w (len + m) sCap elem - (len + m))) elem)) :
    ∃ L, NewOK ρ h.nro w (row elem (old ++ new)) (fun A => .slice (some ⟨A, 0, some 0⟩) (len + m) (UNK j.size)) (.slice (some ⟨w.heap.size, 0, none⟩) (len + m) (grownCap w (len + m) sCap elem)) wr L := by
  have hge := grownCap_ge' w (len + m) sCap elem
  generalize grownCap w (len + m) sCap elem = c at hge hwr ⊢
  have hsz : ((old' ++ new').toArray ++ Builtin.zeroCells j.zero.cells (c - (len + m))).size = c * j.size := by
    have e1 : (Builtin.zeroCells j.zero.cells (c - (len + m))).size = (c - (len + m)) * j.size := by
      unfold Builtin.zeroCells; simp [hj.zsize]
    rw [Array.size_append, e1]
    simp only [List.size_toArray, List.length_append]
    rw [← ho.length, ← hn.length, hol, hnl, ← Nat.add_mul, ← Nat.add_mul]
    congr 1; omega
  subst hwr
  refine ⟨_, new_row (w := w) (h := h) (ho.append hn) (w' := w.drew.alloc _) (el := elem) (f := (0, 0)) rfl (.inl rfl) ?_ rfl rfl ⟨rfl, by first | exact Nat.le_refl _ | exact Nat.le_succ _⟩ _ _ ?_⟩
  · intro i v hi
    have hlt := (List.getElem?_eq_some_iff.1 hi).1
    rw [Array.getElem?_append_left (by simpa using hlt)]
    simpa using hi
  · intro id ρ' hle hm
    refine VR_slice_unk (by have := hj.small; unfold B63; omega) hm hge ?_ ?_
    · rw [hsz]; exact Nat.le_refl _
    · rw [List.length_append, hol, hnl, ← Nat.add_mul]; exact Nat.mul_le_mul_right _ hge

theorem SR.le {a c : Addr} {len cap' : Nat} {ck : CapK} (hs : SR ρ a len c cap' ck) : len ≤ cap' := by
  cases ck with
  | exact k => rw [hs.1]; exact hs.2.1
  | unk z => exact hs.1
  | unk0 z =>
    rcases hs with ⟨h1, h2⟩ | hs
    · omega
    · exact hs.1
  | any => exact hs.1
theorem SR.ar {a c : Addr} {len cap' : Nat} {ck : CapK} (hs : SR ρ a len c cap' ck) (hne : len ≠ 0) : AR ρ a c := by
  cases ck with
  | exact k => exact hs.2.2.resolve_left (by have := hs.2.1; omega)
  | unk z => obtain ⟨_, L, h, _⟩ := hs; exact ⟨L, h⟩
  | unk0 z =>
    rcases hs with ⟨h1, h2⟩ | ⟨_, L, h, _⟩
    · omega
    · exact ⟨L, h⟩
  | any => exact hs.2.resolve_left hne

/-- in place, past the end -/
theorem bump_in (hw : WR ρ h w) {a c : Addr} {L : Loc} {r : Arr} {e : Nat} (ho : h.objs.get a.block = some (.arr r)) (hsp : a.spot = some e) (he : e = r.ver) (hA : h.nro ≤ a.block) (hL : ARL ρ a c L) {k : Nat} (hs : a.off + k ≤ r.size)
    {new new' : List Value} (hn : r.size < a.off + k + new.length) (hl : VRs ρ new new') (h1 : ∀ u ∈ new', oneC u = true) (hroom : c.off + k + new.length ≤ L.n) :
    ∃ w' ρ', (storeCells (c.add k) new').run P w = .ok () w' ∧ ρ' = updR ρ a.block (r.ver + 1) { L with top := a.off + k + new.length } ∧
      WR ρ' { h with tick := h.tick + 1, objs := h.objs.set a.block (.arr { r with size := a.off + k + new.length, ver := r.ver + 1, cells := setL r.cells (a.off + k) (r.ver + 1) new }) } w' ∧
      Ext ρ h w ρ' { h with tick := h.tick + 1, objs := h.objs.set a.block (.arr { r with size := a.off + k + new.length, ver := r.ver + 1, cells := setL r.cells (a.off + k) (r.ver + 1) new }) } w' := by
  obtain ⟨e', p1, p2, p3, p4, p5, p6⟩ := hL
  rw [hsp] at p1
  obtain rfl := Option.some.inj p1
  have ho' := hw.obj _ _ ho
  obtain ⟨q1, q2, cs, el, f, q3, q4, q5, q6⟩ := ho'.loc _ _ p2
  have hb : w.heap[c.block]? = some (.cells cs el f) := by rw [p3]; exact q3
  have hln := hl.length
  obtain ⟨w', cs', g1, g2, g3, g4, g5, g6, g7, g8, g9⟩ := store_run (P := P) c.block el f new' 0 (c.off + k) w cs hb (by rw [← hln, q4]; simpa using hroom) (fun i hi => (q5 hA).not i (by rw [← q4]; exact hi)) h1
  have hcs : c.add k = ⟨c.block, c.off + k, none⟩ := caddr p4 k
  refine ⟨w', _, by rw [hcs]; exact g1, rfl, ?_⟩
  refine bump hw ho hA hs hn rfl hl (by rw [g6]; exact Nat.le_refl _) g7 g8 g9 ?_ ?_ ?_ rfl ?_ ?_ ?_
  · show L.cb < _
    rw [g6]; exact (hw.dom _ _ _ p2).2
  · intro A2 e2 L2 x hne hc
    have := (hw.dis _ _ _ _ _ _ x p2 hne hc).2
    omega
  · intro b _ hne
    exact g5 b (by rw [p3]; exact hne)
  · refine ⟨cs', el, f, by show w'.heap[L.cb]? = _; rw [← p3]; exact g2, g3.trans q4, q5 hA, ?_, ?_⟩
    · intro x v' hx
      have hlt := (List.getElem?_eq_some_iff.1 hx).1
      refine ⟨by show L.ao ≤ _; omega, ?_⟩
      show cs'[L.co + (a.off + k + x) - L.ao]? = _
      rw [g4, if_pos (by omega), show L.co + (a.off + k + x) - L.ao - (c.off + k + 0) = x by omega]
      exact hx
    · intro i cl hi hao his
      have hao : L.ao ≤ i := hao
      obtain ⟨v', z1, z2⟩ := q6 i cl hi (by rw [he]; exact (ho'.in_ _ _ hi).2) hao
      refine ⟨v', ?_, z2⟩
      show cs'[L.co + i - L.ao]? = _
      rw [g4, if_neg (by omega)]; exact z1
  · intro e2 L2 x hc
    have hc : L2.cb = L.cb := hc
    have al := ho'.align hA _ _ _ _ x p2 hc
    refine ⟨al, cs, cs', el, f, by rw [hc, ← p3]; exact hb, by rw [hc, ← p3]; exact g2, g3, ?_⟩
    intro i hi hr
    rw [g4, if_neg (by omega)]
  · exact .inr ⟨_, L, p2, rfl⟩

/-- into a new block, past the end -/
theorem bump_new (hw : WR ρ h w) {a : Addr} {r : Arr} {e : Nat} (ho : h.objs.get a.block = some (.arr r)) (he : e = r.ver) (hA : h.nro ≤ a.block) {k : Nat} (hs : a.off + k ≤ r.size)
    {new new' old' : List Value} (hn : r.size < a.off + k + new.length) (hl : VRs ρ new new') (hol : old'.length = k) (hold : ∀ (i : Nat) (c : Cell), r.cells.get i = some c → a.off ≤ i → i < a.off + k → ∃ v', old'[i - a.off]? = some v' ∧ VR ρ c.v v')
    {wr : World} {zs : Array Value} {elem : TypeId} (hwr : wr = w.drew.alloc (.cells ((old' ++ new').toArray ++ zs) elem)) :
    ∃ ρ' L', ρ' = updR ρ a.block (r.ver + 1) L' ∧ L' = ⟨w.heap.size, 0, a.off, a.off + k + new.length, k + new.length + zs.size⟩ ∧
      WR ρ' { h with tick := h.tick + 1, objs := h.objs.set a.block (.arr { r with size := a.off + k + new.length, ver := r.ver + 1, cells := setL r.cells (a.off + k) (r.ver + 1) new }) } wr ∧
      Ext ρ h w ρ' { h with tick := h.tick + 1, objs := h.objs.set a.block (.arr { r with size := a.off + k + new.length, ver := r.ver + 1, cells := setL r.cells (a.off + k) (r.ver + 1) new }) } wr := by
  have hln := hl.length
  have hh : wr.heap = w.heap.push (.cells ((old' ++ new').toArray ++ zs) elem) := by rw [hwr]; rfl
  refine ⟨_, _, rfl, rfl, ?_⟩
  refine bump hw ho hA hs hn rfl hl (by rw [hh]; simp) (by rw [hwr]; rfl) (by rw [hwr]; rfl) (by rw [hwr]; exact ⟨rfl, Nat.le_succ _⟩) (by rw [hh]; simp) ?_ ?_ rfl ?_ ?_ ?_
  · intro A2 e2 L2 x _ hc
    have := (hw.dom _ _ _ x).2
    have hc : L2.cb = w.heap.size := hc
    omega
  · intro b hb _
    exact heap_push w wr _ hh b hb
  · refine ⟨_, elem, (0, 0), heap_push_new w wr _ hh, ?_, .inl rfl, ?_, ?_⟩
    · simp [hol, hln]
    · intro x v' hx
      have hlt := (List.getElem?_eq_some_iff.1 hx).1
      refine ⟨by show a.off ≤ _; omega, ?_⟩
      show ((old' ++ new').toArray ++ zs)[0 + (a.off + k + x) - a.off]? = _
      rw [show 0 + (a.off + k + x) - a.off = k + x by omega, Array.getElem?_append_left (by simp [hol]; omega), List.getElem?_toArray, List.getElem?_append_right (by omega), hol, show k + x - k = x by omega]
      exact hx
    · intro i cl hi hao his
      have hao : a.off ≤ i := hao
      obtain ⟨v', z1, z2⟩ := hold i cl hi hao his
      refine ⟨v', ?_, z2⟩
      have hlt := (List.getElem?_eq_some_iff.1 z1).1
      show ((old' ++ new').toArray ++ zs)[0 + i - a.off]? = _
      rw [show 0 + i - a.off = i - a.off by omega, Array.getElem?_append_left (by simp; omega), List.getElem?_toArray, List.getElem?_append_left hlt]
      exact z1
  · intro e2 L2 x hc
    have := (hw.dom _ _ _ x).2
    have hc : L2.cb = w.heap.size := hc
    omega
  · exact .inl (Nat.le_refl _)

theorem appR_ok (hw : WR ρ h w) {elem : TypeId} {j : TyI} {inf : TypeInfo} (hj : TyOk P elem j inf) {s s' : Value} (hs : VR ρ s s') {new new' : List Value} (hn : VRs ρ new new') {m : Nat} {xt : TypeId} {x' : Value} (hx : SrcAny P inf xt x' m new' w)
    {r : OpR} (hr : appR h elem j s new m = some r) {st ty : TypeId} (ht : P.underlying st = some (.slice elem)) : OpOK ρ h w r ((Builtin.append_ #[st, xt] ty #[s', x']).run P w) := by
  have hnl : new.length = m * j.size := by rw [hn.length, hx.len, hj.size]
  have hone := hx.one
  unfold appR at hr
  split at hr
  case h_2 => simp at hr
  case h_1 base len cap =>
  by_cases hm : m = 0
  · -- nothing
    subst hm
    obtain rfl := Option.some.inj hr
    have hnil : new' = [] := List.eq_nil_of_length_eq_zero (by rw [hx.len]; simp)
    cases hs with
    | slice0 => exact ⟨_, w, hx.room st ty elem none 0 0 w ht hj.info (Nat.le_refl _) (fun a ha => by simp at ha) (fun _ => rfl), ρ, .slice0, hw, .refl _ _ _⟩
    | slice a c _ _ cap' hs =>
      exact ⟨_, w, hx.room st ty elem (some c) len cap' w ht hj.info (by have := hs.le; omega) (fun a ha => by rw [hnil]; rfl) (fun hh => by simp at hh), ρ, .slice _ _ _ _ _ hs, hw, .refl _ _ _⟩
  · rw [nbeq_f hm] at hr
    simp only [cond_false] at hr
    by_cases hb : (((len + m) * j.bytes).ble (2 ^ 47) && (len + m).ble (2 ^ 62)) = true
    case neg => rw [Bool.eq_false_iff.2 hb] at hr; simp at hr
    case pos =>
    rw [hb] at hr
    simp only [Bool.not_true, cond_false] at hr
    simp only [Bool.and_eq_true, Nat.ble_eq] at hb
    obtain ⟨hb, hb2⟩ := hb
    have hbb : (len + m) * inf.bytes ≤ 140737488355328 := by
      rw [hj.bytes]; have : 2 ^ 47 ≤ 140737488355328 := by decide
      omega
    have hb63 : ((len + m : Nat) : Int) ≤ 9223372036854775807 := by
      have : 2 ^ 62 ≤ 9223372036854775807 := by decide
      omega
    cases hs with
    | slice0 =>
      simp only at hr
      obtain rfl := Option.some.inj hr
      have hg := hx.grow st ty elem none 0 0 j.zero [] ht hj.info hj.zero (run_firstCells_none w.drew inf.size 0 0 0) (by omega) hb63 (growslice_fits (by omega) hbb)
      obtain ⟨L, hN⟩ := grow_res hw hj (old := []) (old' := []) .nil hn (len := 0) (m := m) (sCap := 0) (by simp) hnl rfl
      refine ⟨_, _, L, hg, ?_⟩
      simpa using hN
    | slice a c _ _ cap' hs =>
      simp only at hr
      have hlec := hs.le
      split at hr
      · -- the capacity is known
        rename_i k hk
        rw [hk] at hs
        have hk' := capK_exact_inv hk
        obtain ⟨e1, e2, e3⟩ := hs
        by_cases hle : (len + m).ble k = true
        · rw [hle] at hr
          simp only [cond_true, Option.map_eq_some_iff] at hr
          obtain ⟨h', hst, rfl⟩ := hr
          have hle := Nat.le_of_ble_eq_true hle
          have har : AR ρ a c := e3.resolve_left (by omega)
          obtain ⟨w', g1, g2, g3⟩ := st_cells (P := P) new new' h w a c (len * j.size) h' hw (.inr har) hn hst
          have hadd : storeCells (c.add (len * j.size)) new' 0 = storeCells c new' (len * j.size) := by
            have : ∀ (l : List Value) (i k : Nat), storeCells (c.add k) l i = storeCells c l (k + i) := by
              intro l
              induction l with
              | nil => intro i k; rfl
              | cons v l ih =>
                intro i k
                unfold storeCells
                rw [ih (i + 1) k, Nat.add_assoc]
                congr 1
                rw [caddr har.spot, caddr har.spot, caddr rfl]
                simp [Nat.add_assoc]
            rw [this]; rfl
          refine ⟨_, w', hx.room st ty elem (some c) len cap' w' ht hj.info (by omega) (fun a' ha' => ?_) (fun hh => by simp at hh), ρ, ?_, g2, g3⟩
          · obtain rfl := Option.some.inj ha'
            rw [hj.size, hadd]; exact g1
          · refine .slice _ _ _ _ _ ?_
            rw [hk]; exact ⟨e1, hle, .inr har⟩
        · rw [Bool.eq_false_iff.2 hle] at hr
          simp only [cond_false] at hr
          split at hr
          · rename_i old hold
            obtain rfl := Option.some.inj hr
            have hlt : k < len + m := by
              have := Nat.lt_of_not_le (fun hh => hle (Nat.ble_eq_true_of_le hh))
              omega
            obtain ⟨old', k1, k2, k3, k4⟩ := ld_cells hw (len * j.size) a c old (by
              by_cases hl0 : len = 0
              · left; rw [hl0]; simp
              · right; exact e3.resolve_left (by omega)) hold
            have hg := hx.grow st ty elem (some c) len cap' j.zero old' ht hj.info hj.zero (run_firstCells_some w.drew inf.size len c len cap' old' (by rw [hj.size]; exact k1) (fun i v hi => k3 i v hi)) (by omega) hb63 (growslice_fits (by omega) hbb)
            obtain ⟨L, hN⟩ := grow_res hw hj k4 hn (len := len) (m := m) (sCap := cap') k2 hnl rfl
            exact ⟨_, _, L, hg, hN⟩
          · simp at hr
      · simp at hr
      · -- unknown, to the row's end
        rename_i z hz
        rw [hz] at hs
        by_cases hzj : z = j.size
        case neg => rw [nbeq_f hzj] at hr; simp at hr
        case pos =>
        rw [nbeq_t hzj] at hr
        simp only [cond_true] at hr
        split at hr
        case h_2 => simp at hr
        case h_1 rr e ho hsp =>
        by_cases hc : (e.beq rr.ver && h.nro.ble a.block && (a.off + len * j.size).ble rr.size && (0).blt j.size) = true
        case neg => rw [Bool.eq_false_iff.2 hc] at hr; simp at hr
        case pos =>
        rw [hc] at hr
        simp only [cond_true] at hr
        simp only [Bool.and_eq_true, nbeq_eq] at hc
        obtain ⟨⟨⟨c1, c2⟩, c3⟩, c4⟩ := hc
        have c2 := Nat.le_of_ble_eq_true c2
        have c3 := Nat.le_of_ble_eq_true c3
        have c4 : 0 < j.size := Nat.le_of_ble_eq_true c4
        obtain ⟨s1, L, s2, s3, s4⟩ := hs
        have har : AR ρ a c := ⟨L, s2⟩
        have s2' := s2
        obtain ⟨e', p1, p2, p3, p4, p5, p6⟩ := s2'
        rw [hsp] at p1
        obtain rfl := Option.some.inj p1
        have ho' := hw.obj _ _ ho
        obtain ⟨q1, q2, cs, el, f, q3, q4, q5, q6⟩ := ho'.loc _ _ p2
        have q2 := q2 c1
        by_cases hin : (a.off + (len + m) * j.size).ble rr.size = true
        · rw [hin] at hr
          simp only [cond_true, Option.map_eq_some_iff] at hr
          obtain ⟨h', hst, rfl⟩ := hr
          have hin := Nat.le_of_ble_eq_true hin
          obtain ⟨w', g1, g2, g3⟩ := st_cells (P := P) new new' h w a c (len * j.size) h' hw (.inr har) hn hst
          have hroom : len + m ≤ cap' := by
            rw [hzj] at s4
            have : (len + m) * j.size ≤ cap' * j.size := by omega
            exact Nat.le_of_mul_le_mul_right this c4
          have hadd : storeCells (c.add (len * j.size)) new' 0 = storeCells c new' (len * j.size) := by
            have : ∀ (l : List Value) (i k : Nat), storeCells (c.add k) l i = storeCells c l (k + i) := by
              intro l
              induction l with
              | nil => intro i k; rfl
              | cons v l ih =>
                intro i k
                unfold storeCells
                rw [ih (i + 1) k, Nat.add_assoc]
                congr 1
                rw [caddr har.spot, caddr har.spot, caddr rfl]
                simp [Nat.add_assoc]
            rw [this]; rfl
          refine ⟨_, w', hx.room st ty elem (some c) len cap' w' ht hj.info hroom (fun a' ha' => ?_) (fun hh => by simp at hh), ρ, ?_, g2, g3⟩
          · obtain rfl := Option.some.inj ha'
            rw [hj.size, hadd]; exact g1
          · refine .slice _ _ _ _ _ ?_
            rw [hz]; exact ⟨hroom, L, s2, s3, s4⟩
        · rw [Bool.eq_false_iff.2 hin] at hr
          simp only [cond_false] at hr
          obtain rfl := Option.some.inj hr
          have hout : rr.size < a.off + len * j.size + new.length := by
            have := Nat.lt_of_not_le (fun hh => hin (Nat.ble_eq_true_of_le hh))
            rw [hnl, Nat.add_assoc, ← Nat.add_mul]; omega
          have hsz : a.off + (len + m) * j.size = a.off + len * j.size + new.length := by rw [hnl, Nat.add_mul]; omega
          rw [hzj] at s3 s4
          rw [hsz, c1]
          by_cases hroom : len + m ≤ cap'
          · have hrm : (len + m) * j.size ≤ cap' * j.size := Nat.mul_le_mul_right _ hroom
            rw [Nat.add_mul] at hrm
            obtain ⟨w', ρ', g1, g2, g3, g4⟩ := bump_in (P := P) hw ho hsp c1 c2 s2 (k := len * j.size) c3 hout hn hone (by rw [hnl]; omega)
            refine ⟨_, w', hx.room st ty elem (some c) len cap' w' ht hj.info hroom (fun a' ha' => ?_) (fun hh => by simp at hh), ρ', ?_, g3, g4⟩
            · obtain rfl := Option.some.inj ha'
              rw [hj.size]; exact g1
            · refine .slice _ _ _ _ _ ?_
              rw [hz]
              refine ⟨hroom, { L with top := a.off + len * j.size + new.length }, ⟨rr.ver + 1, rfl, by rw [g2]; exact updR_self _ _ _ _, p3, p4, p5, p6⟩, by rw [hzj]; exact s3, ?_⟩
              show a.off + len * j.size + new.length ≤ a.off + cap' * z
              rw [hnl, hzj]; omega
          · have hrl : len * j.size ≤ cap' * j.size := Nat.mul_le_mul_right _ s1
            have hb1 : w.heap[c.block]? = some (.cells cs el f) := by rw [p3]; exact q3
            have hol : ((cs.toList.drop c.off).take (len * j.size)).length = len * j.size := by
              simp only [List.length_take, List.length_drop, Array.length_toList]; omega
            obtain ⟨ρ', L', g1, g2, g3, g4⟩ := bump_new (elem := elem) hw ho c1 c2 (k := len * j.size) c3 hout hn hol (by
              intro i cl hi hao his
              obtain ⟨v', z1, z2⟩ := q6 i cl hi (by rw [c1]; exact (ho'.in_ _ _ hi).2) (by omega)
              refine ⟨v', ?_, z2⟩
              rw [List.getElem?_take, if_pos (by omega), List.getElem?_drop, Array.getElem?_toList]
              rw [show c.off + (i - a.off) = L.co + i - L.ao by omega]; exact z1) rfl (zs := Builtin.zeroCells j.zero.cells (grownCap w (len + m) cap' elem - (len + m)))
            have hg := hx.grow st ty elem (some c) len cap' j.zero ((cs.toList.drop c.off).take (len * j.size)) ht hj.info hj.zero (run_firstCells_some w.drew inf.size len c len cap' _ (by rw [hj.size]; exact hol) (by
              intro i v hi
              have hilt := (List.getElem?_eq_some_iff.1 hi).1
              rw [hol] at hilt
              rw [List.getElem?_take, if_pos hilt, List.getElem?_drop, Array.getElem?_toList] at hi
              rw [caddr p4, cell_of (c := ⟨c.block, c.off + i, none⟩) (w := w.drew) rfl hb1]; exact hi)) (by omega) hb63 (growslice_fits (by omega) hbb)
            have hge := grownCap_ge' w (len + m) cap' elem
            have hzc : (Builtin.zeroCells j.zero.cells (grownCap w (len + m) cap' elem - (len + m))).size = (grownCap w (len + m) cap' elem - (len + m)) * j.size := by
              unfold Builtin.zeroCells; simp [hj.zsize]
            refine ⟨_, _, hg, ρ', ?_, g3, g4⟩
            refine .slice _ _ _ _ _ ?_
            rw [hz]
            have hcz : len * j.size + new.length + (grownCap w (len + m) cap' elem - (len + m)) * j.size = grownCap w (len + m) cap' elem * j.size := by
              rw [hnl, ← Nat.add_mul, ← Nat.add_mul]; congr 1; omega
            have hgm : (len + m) * j.size ≤ grownCap w (len + m) cap' elem * j.size := Nat.mul_le_mul_right _ hge
            rw [Nat.add_mul] at hgm
            refine ⟨hge, L', ⟨rr.ver + 1, rfl, by rw [g1]; exact updR_self _ _ _ _, by rw [g2], rfl, by rw [g2]; exact Nat.le_refl _, by rw [g2]⟩, ?_, ?_⟩
            · rw [g2, hzj]; show 0 + grownCap w (len + m) cap' elem * j.size ≤ len * j.size + new.length + (Builtin.zeroCells j.zero.cells (grownCap w (len + m) cap' elem - (len + m))).size; rw [hzc, hcz]; omega
            · rw [g2, hzj]; show a.off + len * j.size + new.length ≤ a.off + _; rw [hnl]; omega
      · -- unknown, or none at all
        rename_i z hz
        rw [hz] at hs
        by_cases hzj : z = j.size
        case neg => rw [nbeq_f hzj] at hr; simp at hr
        case pos =>
        rw [nbeq_t hzj] at hr
        simp only [cond_true] at hr
        split at hr
        case h_2 => simp at hr
        case h_1 rr e ho hsp =>
        by_cases hc : (e.beq rr.ver && h.nro.ble a.block && (a.off + len * j.size).ble rr.size && rr.size.blt (a.off + (len + m) * j.size) && (0).blt j.size) = true
        case neg => rw [Bool.eq_false_iff.2 hc] at hr; simp at hr
        case pos =>
        rw [hc] at hr
        simp only [cond_true] at hr
        simp only [Bool.and_eq_true, nbeq_eq] at hc
        obtain ⟨⟨⟨⟨c1, c2⟩, c3⟩, c5⟩, c4⟩ := hc
        have c2 := Nat.le_of_ble_eq_true c2
        have c3 := Nat.le_of_ble_eq_true c3
        have c5 : rr.size < a.off + (len + m) * j.size := Nat.le_of_ble_eq_true c5
        have c4 : 0 < j.size := Nat.le_of_ble_eq_true c4
        have hout : rr.size < a.off + len * j.size + new.length := by
          rw [hnl, Nat.add_assoc, ← Nat.add_mul]; omega
        have hsz : a.off + (len + m) * j.size = a.off + len * j.size + new.length := by rw [hnl, Nat.add_mul]; omega
        have hzB : z < B63 := by have := hj.small; unfold B63; omega
        have ho' := hw.obj _ _ ho
        obtain rfl := Option.some.inj hr
        rw [hsz, c1]
        have hge := grownCap_ge' w (len + m) cap' elem
        have hzc : (Builtin.zeroCells j.zero.cells (grownCap w (len + m) cap' elem - (len + m))).size = (grownCap w (len + m) cap' elem - (len + m)) * j.size := by
          unfold Builtin.zeroCells; simp [hj.zsize]
        have hcz : len * j.size + new.length + (grownCap w (len + m) cap' elem - (len + m)) * j.size = grownCap w (len + m) cap' elem * j.size := by
          rw [hnl, ← Nat.add_mul, ← Nat.add_mul]; congr 1; omega
        have hgm : (len + m) * j.size ≤ grownCap w (len + m) cap' elem * j.size := Nat.mul_le_mul_right _ hge
        rw [Nat.add_mul] at hgm
        have fin : ∀ (old' : List Value), old'.length = len * j.size → (∀ (i : Nat) (c : Cell), rr.cells.get i = some c → a.off ≤ i → i < a.off + len * j.size → ∃ v', old'[i - a.off]? = some v' ∧ VR ρ c.v v') →
            (Builtin.firstCells inf.size len (.slice (some c) len cap')).run P w.drew = .ok old'.toArray w.drew → cap' < len + m →
            OpOK ρ h w (.val (.slice (some ⟨a.block, a.off, some (rr.ver + 1)⟩) (len + m) (UNK z)) { h with tick := h.tick + 1, objs := h.objs.set a.block (.arr { rr with size := a.off + len * j.size + new.length, ver := rr.ver + 1, cells := setL rr.cells (a.off + len * j.size) (rr.ver + 1) new }) })
              ((Builtin.append_ #[st, xt] ty #[.slice (some c) len cap', x']).run P w) := by
          intro old' hol hold hfc hgt
          obtain ⟨ρ', L', g1, g2, g3, g4⟩ := bump_new (elem := elem) hw ho c1 c2 (k := len * j.size) c3 hout hn hol hold rfl (zs := Builtin.zeroCells j.zero.cells (grownCap w (len + m) cap' elem - (len + m)))
          have hg := hx.grow st ty elem (some c) len cap' j.zero old' ht hj.info hj.zero hfc hgt hb63 (growslice_fits (by omega) hbb)
          refine ⟨_, _, hg, ρ', ?_, g3, g4⟩
          refine .slice _ _ _ _ _ ?_
          rw [capK_UNK z hzB]
          refine ⟨hge, L', ⟨rr.ver + 1, rfl, by rw [g1]; exact updR_self _ _ _ _, by rw [g2], rfl, by rw [g2]; exact Nat.le_refl _, by rw [g2]⟩, ?_, ?_⟩
          · rw [g2, hzj]; show 0 + grownCap w (len + m) cap' elem * j.size ≤ len * j.size + new.length + (Builtin.zeroCells j.zero.cells (grownCap w (len + m) cap' elem - (len + m))).size; rw [hzc, hcz]; omega
          · rw [g2, hzj]; show a.off + len * j.size + new.length ≤ a.off + _; rw [hnl]; omega
        rcases hs with ⟨d1, d2⟩ | ⟨s1, L, s2, s3, s4⟩
        · subst d1; subst d2
          refine fin [] (by simp) (fun i cl hi h1 h2 => by omega) ?_ (by omega)
          simp [Builtin.firstCells, loadCells, loadCellsFrom]
        · have s2' := s2
          obtain ⟨e', p1, p2, p3, p4, p5, p6⟩ := s2'
          rw [hsp] at p1
          obtain rfl := Option.some.inj p1
          obtain ⟨q1, q2, cs, el, f, q3, q4, q5, q6⟩ := ho'.loc _ _ p2
          rw [hzj] at s3 s4
          by_cases hroom : len + m ≤ cap'
          · have hrm : (len + m) * j.size ≤ cap' * j.size := Nat.mul_le_mul_right _ hroom
            rw [Nat.add_mul] at hrm
            obtain ⟨w', ρ', g1, g2, g3, g4⟩ := bump_in (P := P) hw ho hsp c1 c2 s2 (k := len * j.size) c3 hout hn hone (by rw [hnl]; omega)
            refine ⟨_, w', hx.room st ty elem (some c) len cap' w' ht hj.info hroom (fun a' ha' => ?_) (fun hh => by simp at hh), ρ', ?_, g3, g4⟩
            · obtain rfl := Option.some.inj ha'
              rw [hj.size]; exact g1
            · refine .slice _ _ _ _ _ ?_
              rw [capK_UNK z hzB]
              refine ⟨hroom, { L with top := a.off + len * j.size + new.length }, ⟨rr.ver + 1, rfl, by rw [g2]; exact updR_self _ _ _ _, p3, p4, p5, p6⟩, by rw [hzj]; exact s3, ?_⟩
              show a.off + len * j.size + new.length ≤ a.off + cap' * z
              rw [hnl, hzj]; omega
          · have hrl : len * j.size ≤ cap' * j.size := Nat.mul_le_mul_right _ s1
            have hb1 : w.heap[c.block]? = some (.cells cs el f) := by rw [p3]; exact q3
            have hol : ((cs.toList.drop c.off).take (len * j.size)).length = len * j.size := by
              simp only [List.length_take, List.length_drop, Array.length_toList]; omega
            refine fin ((cs.toList.drop c.off).take (len * j.size)) hol ?_ ?_ (by omega)
            · intro i cl hi hao his
              obtain ⟨v', z1, z2⟩ := q6 i cl hi (by rw [c1]; exact (ho'.in_ _ _ hi).2) (by omega)
              refine ⟨v', ?_, z2⟩
              rw [List.getElem?_take, if_pos (by omega), List.getElem?_drop, Array.getElem?_toList]
              rw [show c.off + (i - a.off) = L.co + i - L.ao by omega]; exact z1
            · refine run_firstCells_some w.drew inf.size len c len cap' _ (by rw [hj.size]; exact hol) ?_
              intro i v hi
              have hilt := (List.getElem?_eq_some_iff.1 hi).1
              rw [hol] at hilt
              rw [List.getElem?_take, if_pos hilt, List.getElem?_drop, Array.getElem?_toList] at hi
              rw [caddr p4, cell_of (c := ⟨c.block, c.off + i, none⟩) (w := w.drew) rfl hb1]; exact hi
end
end Go.Abs
