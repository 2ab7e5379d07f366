/- A machine without capacities, orders and tapes runs the program's code; what it answers, every run of the model answers (what the library puts in order, and calls that were seen, reckoned). -/
import Derived.Test.YtaebjajbogedkaaAbsG
import Derived.Maps.RangeRun
set_option linter.unusedVariables false
set_option linter.unusedSimpArgs false
/- A sort that the kernel can reckon: what it hands back, once checked, is what the override of SortedFunc asks for. -/
namespace Go.Abs
open Go Go.Proofs Go.Sort
def insI (lt : Int → Int → Bool) (x : Int) : List Int → List Int
  | [] => [x]
  | y :: l => bif lt x y then x :: y :: l else y :: insI lt x l
def srtI (lt : Int → Int → Bool) : List Int → List Int
  | [] => []
  | x :: l => insI lt x (srtI lt l)
theorem insI_perm (lt : Int → Int → Bool) (x : Int) : ∀ l, (insI lt x l).Perm (x :: l)
  | [] => .refl _
  | y :: l => by
    unfold insI
    cases lt x y
    · exact ((insI_perm lt x l).cons y).trans (.swap x y l)
    · exact .refl _
theorem srtI_perm (lt : Int → Int → Bool) : ∀ l, (srtI lt l).Perm l
  | [] => .refl _
  | x :: l => (insI_perm lt x _).trans ((srtI_perm lt l).cons x)
/-- each pair is compared, and as it lies -/
def chkRow (run : Int → Int → Option Int) (x : Int) : List Int → Bool
  | [] => true
  | y :: l => (match run x y, run y x with
    | some a, some b => decide (a < 0) && !decide (b < 0)
    | _, _ => false) && chkRow run x l
def chkS (run : Int → Int → Option Int) : List Int → Bool
  | [] => true
  | x :: l => (match run x x with
    | some a => !decide (a < 0)
    | none => false) && (chkRow run x l && chkS run l)
theorem chkRow_ok {run : Int → Int → Option Int} {x : Int} : ∀ {l : List Int}, chkRow run x l = true → ∀ y ∈ l, ∃ a b, run x y = some a ∧ run y x = some b ∧ a < 0 ∧ ¬ b < 0
  | [], _, y, hy => by cases hy
  | z :: l, h, y, hy => by
    unfold chkRow at h
    rw [Bool.and_eq_true] at h
    rcases List.mem_cons.1 hy with rfl | hy
    · have h1 := h.1
      split at h1
      · rename_i a b e1 e2
        rw [Bool.and_eq_true, decide_eq_true_eq, Bool.not_eq_true', decide_eq_false_iff_not] at h1
        exact ⟨a, b, e1, e2, h1.1, h1.2⟩
      · cases h1
    · exact chkRow_ok h.2 y hy
theorem chkS_ok {run : Int → Int → Option Int} : ∀ {l : List Int}, chkS run l = true → (∀ x ∈ l, ∀ y ∈ l, ∃ a, run x y = some a) ∧ l.Pairwise (fun x y => (run x y).getD 0 < 0 ∧ ¬ (run y x).getD 0 < 0) ∧ ∀ x ∈ l, ¬ (run x x).getD 0 < 0
  | [], _ => ⟨(fun x hx => nomatch hx), List.Pairwise.nil, (fun x hx => nomatch hx)⟩
  | z :: l, h => by
    unfold chkS at h
    rw [Bool.and_eq_true, Bool.and_eq_true] at h
    obtain ⟨h1, h2, h3⟩ := h
    obtain ⟨i1, i2, i3⟩ := chkS_ok h3
    have hr := chkRow_ok h2
    obtain ⟨c, e, hc⟩ : ∃ c, run z z = some c ∧ ¬ c < 0 := by
      split at h1
      · rename_i a e
        rw [Bool.not_eq_true', decide_eq_false_iff_not] at h1
        exact ⟨a, e, h1⟩
      · cases h1
    refine ⟨fun x hx y hy => ?_, .cons (fun y hy => ?_) i2, fun x hx => ?_⟩
    · rcases List.mem_cons.1 hx with hx' | hx'
      · rw [hx']
        rcases List.mem_cons.1 hy with hy' | hy'
        · rw [hy']; exact ⟨c, e⟩
        · obtain ⟨a, b, e1, _⟩ := hr y hy'; exact ⟨a, e1⟩
      · rcases List.mem_cons.1 hy with hy' | hy'
        · rw [hy']; obtain ⟨a, b, _, e2, _⟩ := hr x hx'; exact ⟨b, e2⟩
        · exact i1 x hx' y hy'
    · obtain ⟨a, b, e1, e2, h4, h5⟩ := hr y hy
      rw [e1, e2]; exact ⟨h4, h5⟩
    · rcases List.mem_cons.1 hx with rfl | hx
      · rw [e]; exact hc
      · exact i3 x hx
theorem sortsTo_of {run : Int → Int → Option Int} {ks l : List Int} (hp : l.Perm ks) (h : chkS run l = true) : SortsTo run ks l := by
  obtain ⟨h1, h2, h3⟩ := chkS_ok h
  refine ⟨hp, fun x y => (run x y).getD 0, fun x hx y hy => ?_, h2, fun x hx => h3 x (hp.mem_iff.2 hx)⟩
  obtain ⟨a, e⟩ := h1 x (hp.mem_iff.2 hx) y (hp.mem_iff.2 hy)
  simp only
  rw [e]; rfl
/-- what sortK answers, reckoned -/
noncomputable def sortC (e : TypeId) (cmp : Int → Int → Option Int) (ks : List Int) (h : H) : Option (Value × H) := match ks with
  | [] => some (.slice none 0 0, h)
  | k :: ks' =>
    let l := srtI (fun x y => match cmp x y with | some c => decide (c < 0) | none => false) (k :: ks')
    bif (k :: ks').all (fun k => (Lit.int .i64 k).wf) && (decide ((k :: ks').length ≤ 1000000) && chkS cmp l) then some (.slice (some ⟨h.size, 0, some 0⟩) l.length (UNK 1), newAt (Abs.grow h 1) h.size (row e (l.map (.int .i64)))) else none
theorem nodup_of_chk {run : Int → Int → Option Int} {l : List Int} (h : chkS run l = true) : l.Nodup := by
  obtain ⟨h1, h2, h3⟩ := chkS_ok h
  refine h2.imp fun {x y} ⟨h4, h5⟩ e => ?_
  subst e; exact h5 h4
theorem sortC_ok {e : TypeId} {cmp : Int → Int → Option Int} {ks : List Int} {h : H} {r : Value × H} (hs : sortC e cmp ks h = some r) : sortK e cmp ks h = some r := by
  cases ks with
  | nil => rw [sortK_nil]; exact hs
  | cons k ks =>
    unfold sortC at hs
    simp only at hs
    generalize hl : srtI (fun x y => match cmp x y with | some c => decide (c < 0) | none => false) (k :: ks) = l at hs
    have hp : l.Perm (k :: ks) := by rw [← hl]; exact srtI_perm _ _
    cases hc : ((k :: ks).all (fun k => (Lit.int .i64 k).wf) && (decide ((k :: ks).length ≤ 1000000) && chkS cmp l)) <;> rw [hc] at hs
    · cases hs
    · rw [Bool.and_eq_true, Bool.and_eq_true, decide_eq_true_eq, List.all_eq_true] at hc
      obtain ⟨c1, c2, c3⟩ := hc
      rw [sortK_eq c1 (hp.nodup_iff.1 (nodup_of_chk c3)) (by omega) (sortsTo_of hp c3) (by simp)]
      exact hs
/-- the step, reckoned -/
noncomputable def ovSortedC (kf : FuncId) (e : TypeId) (run : FuncId → List Value → Int → Int → H → Option Int) (args : List Value) (h : H) : Option (Value × H) := match args with
  | [s, .func (.func g) first cap] => bif h.st then none else match keysA kf s h, first.toList with
    | some es, [] => match keyInts es with
      | some ks => sortC e (fun x y => run g cap.toList x y (roH h)) ks h
      | none => none
    | _, _ => none
  | _ => none
theorem ovSortedC_le {kf : FuncId} {e : TypeId} {run : FuncId → List Value → Int → Int → H → Option Int} {args : List Value} {h : H} {r : Value × H} (hs : ovSortedC kf e run args h = some r) : ovSorted kf e run args h = some r := by
  unfold ovSortedC at hs
  unfold ovSorted
  split at hs
  · rename_i s g first cap
    cases hst : h.st <;> rw [hst] at hs
    · simp only [cond_false] at hs ⊢
      split at hs
      · rename_i es hk hf
        rw [hk, hf]
        simp only
        split at hs
        · rename_i ks hi
          rw [hi]; exact sortC_ok hs
        · cases hs
      · cases hs
    · cases hs
  · cases hs
end Go.Abs

/- A closed law's run, call by call: what a call was seen to answer at a heap, a later run takes as it is. -/
namespace Go.Abs
open Go
/-! equal, reckoned -/
def kIx : IntKind → Nat
  | .i8 => 0 | .i16 => 1 | .i32 => 2 | .i64 => 3 | .u8 => 4 | .u16 => 5 | .u32 => 6 | .u64 => 7
theorem kIx_eq {a b : IntKind} (h : (kIx a).beq (kIx b) = true) : a = b := by
  have := Nat.eq_of_beq_eq_true h
  cases a <;> cases b <;> first | rfl | (simp [kIx] at this)
def iEq : Int → Int → Bool
  | .ofNat a, .ofNat b => a.beq b
  | .negSucc a, .negSucc b => a.beq b
  | _, _ => false
theorem iEq_eq {a b : Int} (h : iEq a b = true) : a = b := by
  cases a <;> cases b <;> simp only [iEq] at h <;> first | (rw [Nat.eq_of_beq_eq_true h]) | cases h
def oEq : Option Nat → Option Nat → Bool
  | none, none => true
  | some a, some b => a.beq b
  | _, _ => false
theorem oEq_eq {a b : Option Nat} (h : oEq a b = true) : a = b := by
  cases a <;> cases b <;> simp only [oEq] at h <;> first | rfl | (rw [Nat.eq_of_beq_eq_true h]) | cases h
def adEq (a b : Addr) : Bool := a.block.beq b.block && (a.off.beq b.off && oEq a.spot b.spot)
theorem adEq_eq {a b : Addr} (h : adEq a b = true) : a = b := by
  unfold adEq at h
  rw [Bool.and_eq_true, Bool.and_eq_true] at h
  obtain ⟨x, y, z⟩ := a
  obtain ⟨x', y', z'⟩ := b
  rw [show x = x' from Nat.eq_of_beq_eq_true h.1, show y = y' from Nat.eq_of_beq_eq_true h.2.1, show z = z' from oEq_eq h.2.2]
def aoEq : Option Addr → Option Addr → Bool
  | none, none => true
  | some a, some b => adEq a b
  | _, _ => false
theorem aoEq_eq {a b : Option Addr} (h : aoEq a b = true) : a = b := by
  cases a <;> cases b <;> simp only [aoEq] at h <;> first | rfl | (rw [adEq_eq h]) | cases h
def vEq : Value → Value → Bool
  | .int k a, .int k' b => (kIx k).beq (kIx k') && iEq a b
  | .pointer a, .pointer b => aoEq a b
  | .slice a l c, .slice a' l' c' => l.beq l' && (c.beq c' && aoEq a a')
  | .map a, .map b => oEq a b
  | a, b => veq a b
theorem vEq_eq {a b : Value} (h : vEq a b = true) : a = b := by
  unfold vEq at h
  split at h
  · rw [Bool.and_eq_true] at h; rw [kIx_eq h.1, iEq_eq h.2]
  · rw [aoEq_eq h]
  · rw [Bool.and_eq_true, Bool.and_eq_true] at h
    rw [show _ = _ from Nat.eq_of_beq_eq_true h.1, show _ = _ from Nat.eq_of_beq_eq_true h.2.1, aoEq_eq h.2.2]
  · rw [oEq_eq h]
  · exact veqN_eq 4 _ _ h
def cEq (a b : Cell) : Bool := a.lo.beq b.lo && vEq a.v b.v
theorem cEq_eq {a b : Cell} (h : cEq a b = true) : a = b := by
  unfold cEq at h
  rw [Bool.and_eq_true] at h
  obtain ⟨v, l⟩ := a
  obtain ⟨v', l'⟩ := b
  rw [show l = l' from Nat.eq_of_beq_eq_true h.1, show v = v' from vEq_eq h.2]
def trEq {α : Type} (eq : α → α → Bool) : Tr α → Tr α → Bool
  | .leaf, .leaf => true
  | .node l v r, .node l' v' r' => (match v, v' with
    | none, none => true
    | some a, some b => eq a b
    | _, _ => false) && (trEq eq l l' && trEq eq r r')
  | _, _ => false
theorem trEq_eq {α : Type} {eq : α → α → Bool} (he : ∀ a b, eq a b = true → a = b) : ∀ {a b : Tr α}, trEq eq a b = true → a = b
  | .leaf, .leaf, _ => rfl
  | .leaf, .node _ _ _, h => by simp [trEq] at h
  | .node _ _ _, .leaf, h => by simp [trEq] at h
  | .node l v r, .node l' v' r', h => by
    unfold trEq at h
    rw [Bool.and_eq_true, Bool.and_eq_true] at h
    obtain ⟨h1, h2, h3⟩ := h
    rw [trEq_eq he h2, trEq_eq he h3]
    split at h1
    · rfl
    · rw [he _ _ h1]
    · cases h1
def eEq (x y : Value × Value) : Bool := vEq x.1 y.1 && vEq x.2 y.2
theorem eEq_eq {x y : Value × Value} (h : eEq x y = true) : x = y := by
  unfold eEq at h
  rw [Bool.and_eq_true] at h
  exact Prod.ext (vEq_eq h.1) (vEq_eq h.2)
theorem allB_eq' {α : Type} {f : α → α → Bool} (hf : ∀ a b, f a b = true → a = b) : ∀ {x y : List α}, allB f x y = true → x = y
  | [], [], _ => rfl
  | [], _ :: _, h => by simp [allB] at h
  | _ :: _, [], h => by simp [allB] at h
  | a :: x, b :: y, h => by
    unfold allB at h
    rw [Bool.and_eq_true] at h
    rw [hf _ _ h.1, allB_eq' hf h.2]
def obEq : AObj → AObj → Bool
  | .arr a, .arr b => a.size.beq b.size && (a.ver.beq b.ver && (a.elem.beq b.elem && trEq cEq a.cells b.cells))
  | .map x, .map y => allB eEq x y
  | _, _ => false
theorem obEq_eq {a b : AObj} (h : obEq a b = true) : a = b := by
  unfold obEq at h
  split at h
  · rename_i a b
    rw [Bool.and_eq_true, Bool.and_eq_true, Bool.and_eq_true] at h
    obtain ⟨e, s, v, c⟩ := a
    obtain ⟨e', s', v', c'⟩ := b
    rw [show s = s' from Nat.eq_of_beq_eq_true h.1, show v = v' from Nat.eq_of_beq_eq_true h.2.1, show e = e' from Nat.eq_of_beq_eq_true h.2.2.1, show c = c' from trEq_eq (fun _ _ => cEq_eq) h.2.2.2]
  · rw [allB_eq' (fun _ _ => eEq_eq) h]
  · cases h
def hEq (a b : H) : Bool := a.tick.beq b.tick && (a.size.beq b.size && (a.nro.beq b.nro && ((a.st == b.st) && trEq obEq a.objs b.objs)))
theorem hEq_eq {a b : H} (h : hEq a b = true) : a = b := by
  unfold hEq at h
  rw [Bool.and_eq_true, Bool.and_eq_true, Bool.and_eq_true, Bool.and_eq_true] at h
  obtain ⟨h1, h2, h3, h4, h5⟩ := h
  obtain ⟨s, t, n, o, st⟩ := a
  obtain ⟨s', t', n', o', st'⟩ := b
  rw [show s = s' from Nat.eq_of_beq_eq_true h2, show t = t' from Nat.eq_of_beq_eq_true h1, show n = n' from Nat.eq_of_beq_eq_true h3, show st = st' from eq_of_beq h4, show o = o' from trEq_eq (fun _ _ => obEq_eq) h5]
/-! heaps written short -/
def setO : Tr AObj → List (Nat × AObj) → Tr AObj
  | t, [] => t
  | t, (n, o) :: l => setO (t.set n o) l
theorem setO_none : ∀ (l : List (Nat × AObj)) (t : Tr AObj) (A : Nat), (setO t l).get A = none → t.get A = none ∧ ∀ p ∈ l, p.1 ≠ A
  | [], t, A, h => ⟨h, fun _ h => nomatch h⟩
  | (n, o) :: l, t, A, h => by
    obtain ⟨h1, h2⟩ := setO_none l _ A h
    rw [Tr.get_set] at h1
    split at h1
    · cases h1
    · rename_i hA
      exact ⟨h1, List.forall_mem_cons.2 ⟨fun e => hA e.symm, h2⟩⟩
theorem setO_get : ∀ (l : List (Nat × AObj)) (t : Tr AObj) (A : Nat), (∀ p ∈ l, p.1 ≠ A) → (setO t l).get A = t.get A
  | [], t, A, h => rfl
  | (n, o) :: l, t, A, h => by
    unfold setO
    rw [setO_get l _ A (fun p hp => h p (.tail _ hp)), Tr.get_set, if_neg (fun e => h _ (.head _) e.symm)]
/-- the first one's objects are the second one's -/
def subT : Tr AObj → Tr AObj → Bool
  | .leaf, _ => true
  | .node l v r, t => (match v with
    | none => true
    | some a => match t.val with
      | some b => obEq a b
      | none => false) && (subT l t.left && subT r t.right)
theorem subT_ok : ∀ {t t' : Tr AObj}, subT t t' = true → ∀ A ob, t.get A = some ob → t'.get A = some ob
  | .leaf, _, _, A, ob, h => by cases h
  | .node l v r, t', h, A, ob, hg => by
    unfold subT at h
    rw [Bool.and_eq_true, Bool.and_eq_true] at h
    obtain ⟨h1, h2, h3⟩ := h
    rw [Tr.get_node] at hg ⊢
    simp only [Tr.val, Tr.left, Tr.right] at hg
    by_cases a0 : A = 0
    · rw [nbeq_t a0] at hg ⊢
      simp only [cond_true] at hg ⊢
      subst hg
      simp only at h1
      cases hb : t'.val with
      | none => rw [hb] at h1; cases h1
      | some b => rw [hb] at h1; rw [obEq_eq h1]
    · rw [nbeq_f a0] at hg ⊢
      simp only [cond_false] at hg ⊢
      by_cases a1 : A % 2 = 1
      · rw [nbeq_t a1] at hg ⊢
        exact subT_ok h2 _ _ hg
      · rw [nbeq_f a1] at hg ⊢
        exact subT_ok h3 _ _ hg
/-! what was seen -/
structure Seen where
  f : FuncId
  args : List Value
  h : H
  v : Value
  size : Nat
  tick : Nat
  ch : List (Nat × AObj)
def Seen.h' (e : Seen) : H := ⟨e.size, e.tick, e.h.nro, setO e.h.objs e.ch, e.h.st⟩
def Seen.ok (e : Seen) (r : Option (Value × H)) : Bool := match r with
  | some (u, k) => k.tick.beq e.tick && (k.size.beq e.size && (vEq u e.v && (e.h.tick.blt e.tick && (e.ch.all (fun p => e.h.size.ble p.1 || (e.h.objs.get p.1).isSome) && subT (setO e.h.objs e.ch) k.objs))))
  | none => false
def lookS (f : FuncId) (args : List Value) (h : H) : List Seen → Option (Value × H)
  | [] => none
  | e :: M => bif e.f.beq f && (e.h.tick.beq h.tick && (allB vEq e.args args && hEq e.h h)) then some (e.v, e.h') else lookS f args h M
theorem lookS_ok {f : FuncId} {args : List Value} {h : H} {r : Value × H} : ∀ {M : List Seen}, lookS f args h M = some r → ∃ e ∈ M, e.f = f ∧ e.args = args ∧ e.h = h ∧ r = (e.v, e.h')
  | [], x => by cases x
  | e :: M, x => by
    unfold lookS at x
    cases hc : (e.f.beq f && (e.h.tick.beq h.tick && (allB vEq e.args args && hEq e.h h))) <;> rw [hc] at x
    · obtain ⟨e', h1, h2⟩ := lookS_ok x
      exact ⟨e', .tail _ h1, h2⟩
    · rw [Bool.and_eq_true, Bool.and_eq_true, Bool.and_eq_true] at hc
      cases x
      exact ⟨e, .head _, Nat.eq_of_beq_eq_true hc.1, allB_eq' (fun _ _ => vEq_eq) hc.2.2.1, hEq_eq hc.2.2.2, rfl⟩
def DSn (D : Data) (N : Nat) (M : List Seen) : Data := { D with ov := fun g => match D.ov g with
  | some o => some o
  | none => bif M.any (fun e => e.f.beq g) then some (fun args h => match lookS g args h M with
    | some r => some r
    | none => callA D N g args h) else none }
section
variable {P : Program}
def SeenOK (P : Program) (f : FuncId) (args : List Value) (h : H) (v : Value) (h' : H) : Prop := (h' = h ∨ h.tick < h'.tick) ∧ ∀ ρ w (args' : Array Value), WR ρ h w → VRs ρ args args'.toList → Calls P f args' w (CallPost ρ h w v h')
def Seen.Is (P : Program) (e : Seen) : Prop := SeenOK P e.f e.args e.h e.v e.h'
theorem dm_dok {D : Data} (hD : DOk P D) (N : Nat) (M : List Seen) : DOk P (DSn D N M) := ⟨fun f F h => hD.1 f F h, fun t i h => hD.2 t i h, fun t i h hf => hD.3 t i h hf, hD.4⟩
theorem call_seen {D : Data} (hD : DOk P D) (hov : OvOK P D) {N : Nat} {f : FuncId} {args : List Value} {h : H} {v : Value} {h' : H} (x : callA D N f args h = some (v, h')) : SeenOK P f args h v h' :=
  ⟨callW_tick hov (exec_ok hD hov N).2 f args h v h' x, fun ρ w args' hw ha => callA_ok hD hov N f args h v h' x ρ w args' hw ha⟩
theorem dm_ov {D : Data} (hD : DOk P D) (hov : OvOK P D) {N : Nat} {M : List Seen} (hM : ∀ e ∈ M, e.Is P) : OvOK P (DSn D N M) := by
  intro f g hg args h v h' hr
  unfold DSn at hg
  simp only at hg
  split at hg
  · rename_i o ho
    cases hg
    exact hov f _ ho args h v h' hr
  · cases ha : M.any (fun e => e.f.beq f) <;> rw [ha] at hg
    · cases hg
    · cases hg
      simp only at hr
      split at hr
      · rename_i r hl
        cases hr
        obtain ⟨e, he, rfl, rfl, rfl, h4⟩ := lookS_ok hl
        cases h4
        exact hM e he
      · exact call_seen hD hov hr
theorem seen_of {D : Data} (hD : DOk P D) (hov : OvOK P D) {N n : Nat} {M : List Seen} (hM : ∀ e ∈ M, e.Is P) {e : Seen} (x : e.ok (callA (DSn D N M) n e.f e.args e.h) = true) : e.Is P := by
  unfold Seen.ok at x
  split at x
  case h_2 => cases x
  rename_i u k hk
  simp only [Bool.and_eq_true] at x
  obtain ⟨x1, x2, x3, x4, x5, x6⟩ := x
  obtain rfl := vEq_eq x3
  have hs := call_seen (dm_dok hD N M) (dm_ov hD hov hM) hk
  refine ⟨.inr ?_, fun ρ w args' hw ha => ?_⟩
  · show e.h.tick < e.tick
    exact Nat.le_of_ble_eq_true x4
  refine (hs.2 ρ w args' hw ha).mono ?_
  rintro r w' ⟨v', ρ', rfl, p1, p2, p3⟩
  have hsz : e.size = k.size := (Nat.eq_of_beq_eq_true x2).symm
  refine ⟨v', ρ', rfl, p1, p2.sub hsz p3.nro.symm (subT_ok x6), p3.post p3.nro.symm p3.st.symm (by show e.h.size ≤ e.size; rw [hsz]; exact p3.size) fun A hA => ?_⟩
  rw [p3.pres A hA]
  constructor
  · intro h; exact (setO_none _ _ _ h).1
  · intro h
    refine (setO_get _ _ _ ?_).trans h
    intro p hp hpA
    have := List.all_eq_true.1 x5 p hp
    rw [Bool.or_eq_true] at this
    rcases this with h1 | h1
    · have := Nat.le_of_ble_eq_true h1; omega
    · rw [hpA, h] at h1; cases h1
theorem seen_nil : ∀ e ∈ ([] : List Seen), e.Is P := fun _ h => nomatch h
theorem seen_cons {e : Seen} {M : List Seen} (h : e.Is P) (t : ∀ e ∈ M, e.Is P) : ∀ x ∈ e :: M, x.Is P := List.forall_mem_cons.2 ⟨h, t⟩
end
end Go.Abs

/- 'for k, v := range m' over a map that has one entry at most, as one step of the machine: no order is open. -/
namespace Go.Abs
open Go
namespace Tr
variable {α : Type}
def remF : Nat → Tr α → Nat → Tr α
  | 0, t, _ => node t.left none t.right
  | f + 1, t, n => bif n.beq 0 then node t.left none t.right
    else bif (n % 2).beq 1 then node (remF f t.left (n / 2)) t.val t.right else node t.left t.val (remF f t.right (n / 2 - 1))
def rem (t : Tr α) (n : Nat) : Tr α := remF n t n
theorem get_remF : ∀ (f : Nat) (t : Tr α) (n m : Nat), n ≤ f → (remF f t n).get m = if m = n then none else t.get m
  | 0, t, n, m, h => by
    obtain rfl : n = 0 := by omega
    rw [get_node t m]
    by_cases hm : m = 0
    · subst hm; simp [remF, get]
    · have : m.beq 0 = false := nbeq_f hm
      simp [remF, get, this, hm]
  | f + 1, t, n, m, h => by
    have ih := get_remF f
    rw [get_node t m]
    by_cases hn : n = 0
    · subst hn
      by_cases hm : m = 0
      · subst hm; simp [remF, get]
      · have : m.beq 0 = false := nbeq_f hm
        simp [remF, get, this, hm]
    · have hnb : n.beq 0 = false := nbeq_f hn
      by_cases hm : m = 0
      · subst hm
        have : ¬ (0 = n) := fun h => hn h.symm
        by_cases ho : n % 2 = 1
        · have hob : (n % 2).beq 1 = true := nbeq_t ho
          simp [remF, get, hnb, hob, this]
        · have hob : (n % 2).beq 1 = false := nbeq_f ho
          simp [remF, get, hnb, hob, this]
      · have hmb : m.beq 0 = false := nbeq_f hm
        by_cases ho : n % 2 = 1
        · have hob : (n % 2).beq 1 = true := nbeq_t ho
          by_cases hp : m % 2 = 1
          · have hpb : (m % 2).beq 1 = true := nbeq_t hp
            have e : (m / 2 = n / 2) = (m = n) := by apply propext; omega
            simp [remF, get, hnb, hob, hmb, hpb, ih t.left (n / 2) (m / 2) (by omega), e]
          · have hpb : (m % 2).beq 1 = false := nbeq_f hp
            have e : ¬ (m = n) := by intro e; subst e; exact hp ho
            simp [remF, get, hnb, hob, hmb, hpb, e]
        · have hob : (n % 2).beq 1 = false := nbeq_f ho
          by_cases hp : m % 2 = 1
          · have hpb : (m % 2).beq 1 = true := nbeq_t hp
            have e : ¬ (m = n) := by intro e; subst e; exact ho hp
            simp [remF, get, hnb, hob, hmb, hpb, e]
          · have hpb : (m % 2).beq 1 = false := nbeq_f hp
            have e : (m / 2 - 1 = n / 2 - 1) = (m = n) := by apply propext; omega
            simp [remF, get, hnb, hob, hmb, hpb, ih t.right (n / 2 - 1) (m / 2 - 1) (by omega), e]
theorem get_rem (t : Tr α) (n m : Nat) : (t.rem n).get m = if m = n then none else t.get m := get_remF n t n m (Nat.le_refl _)
end Tr
/-! the loop's shape -/
structure Rng where
  ops1 : Array Oper
  pre : List Oper
  it : Tmp
  ty : TypeId
  mx : Operand
  ops2 : Array Oper
  nx : Tmp
  post2 : List Oper
  cx : Operand
  b : Nat
  b1 : Nat
  ops3 : Array Oper
  en : Tmp
  rest : List Oper
  tail : Code
def asRange (o : Oper) : Option (Tmp × TypeId × Operand) := match o.guard, o.dst with
  | none, some d => (match o.op with
    | .range t x => some (d, t, x)
    | _ => none)
  | _, _ => none
def asNext (o : Oper) : Option (Tmp × Tmp) := match o.guard, o.dst with
  | none, some d => (match o.op with
    | .next (.tmp i) false => some (d, i)
    | _ => none)
  | _, _ => none
def asEntry (o : Oper) : Option (Tmp × Tmp) := match o.guard, o.dst with
  | none, some d => (match o.op with
    | .entry (.tmp i) => some (d, i)
    | _ => none)
  | _, _ => none
theorem asRange_eq {o : Oper} {d : Tmp} {t : TypeId} {x : Operand} (h : asRange o = some (d, t, x)) : o.guard = none ∧ o.dst = some d ∧ o.op = .range t x := by
  unfold asRange at h
  split at h
  · rename_i h1 h2
    split at h
    · rename_i h3; cases h; exact ⟨h1, h2, h3⟩
    · cases h
  · cases h
theorem asNext_eq {o : Oper} {d i : Tmp} (h : asNext o = some (d, i)) : o.guard = none ∧ o.dst = some d ∧ o.op = .next (.tmp i) false := by
  unfold asNext at h
  split at h
  · rename_i h1 h2
    split at h
    · rename_i h3; cases h; exact ⟨h1, h2, h3⟩
    · cases h
  · cases h
theorem asEntry_eq {o : Oper} {d i : Tmp} (h : asEntry o = some (d, i)) : o.guard = none ∧ o.dst = some d ∧ o.op = .entry (.tmp i) := by
  unfold asEntry at h
  split at h
  · rename_i h1 h2
    split at h
    · rename_i h3; cases h; exact ⟨h1, h2, h3⟩
    · cases h
  · cases h
def lastOp : List Oper → Option (List Oper × Oper)
  | [] => none
  | [o] => some ([], o)
  | o :: l => match lastOp l with
    | some (p, x) => some (o :: p, x)
    | none => none
theorem lastOp_eq : ∀ {l p : List Oper} {x : Oper}, lastOp l = some (p, x) → l = p ++ [x]
  | [], _, _, h => by cases h
  | [o], _, _, h => by cases h; rfl
  | o :: o2 :: l, p, x, h => by
    unfold lastOp at h
    split at h
    · rename_i p' x' h1
      cases h
      rw [lastOp_eq h1]; rfl
    · cases h
def Rng.round (i2 i3 : Nat) (R : Rng) : Code := .seq (.region i2 R.ops2 false) (.seq (.cond R.cx .skip (.exit R.b)) (.block R.b1 (.seq (.region i3 R.ops3 false) R.tail)))
structure Rng.Is (R : Rng) (c : Code) : Prop where
  shape : ∃ i1 i2 i3, c = .seq (.region i1 R.ops1 false) (.block R.b (.loop (R.round i2 i3)))
  one : ∃ o, R.ops1.toList = R.pre ++ [o] ∧ asRange o = some (R.it, R.ty, R.mx)
  two : ∃ o, R.ops2.toList = o :: R.post2 ∧ asNext o = some (R.nx, R.it)
  three : ∃ o, R.ops3.toList = o :: R.rest ∧ asEntry o = some (R.en, R.it)
def rngOf : Code → Option Rng
  | .seq (.region _ ops1 false) (.block b (.loop (.seq (.region _ ops2 false) (.seq (.cond cx .skip (.exit b')) (.block b1 (.seq (.region _ ops3 false) tail)))))) =>
    match lastOp ops1.toList, ops2.toList, ops3.toList with
    | some (pre, ro), no :: post2, eo :: rest => match asRange ro, asNext no, asEntry eo with
      | some (it, ty, mx), some (nx, it2), some (en, it3) => if b = b' ∧ it = it2 ∧ it = it3 then some ⟨ops1, pre, it, ty, mx, ops2, nx, post2, cx, b, b1, ops3, en, rest, tail⟩ else none
      | _, _, _ => none
    | _, _, _ => none
  | _ => none
theorem rngOf_is {c : Code} {R : Rng} (h : rngOf c = some R) : R.Is c := by
  unfold rngOf at h
  split at h
  · split at h
    · rename_i h1 h2 h3
      split at h
      · rename_i g1 g2 g3
        split at h
        · rename_i hc
          obtain ⟨rfl, rfl, rfl⟩ := hc
          cases h
          exact ⟨⟨_, _, _, rfl⟩, ⟨_, lastOp_eq h1, g1⟩, ⟨_, h2, g2⟩, ⟨_, h3, g3⟩⟩
        · cases h
      · cases h
    · cases h
  · cases h
/-! the step -/
def rngIt (A : Nat) : Value := .pointer (some ⟨A, 0, some 0⟩)
/-- nothing is left -/
def rngEnd (D : Data) (call : CallF) (R : Rng) (s : St) : Option St := match putT s.t s.n (some R.nx) (.tuple #[.bool false]) with
  | some t => match runA D call R.ops2 R.post2 ⟨t, s.n, s.h⟩ with
    | some s2 => match evalO s2.t R.cx with
      | some (.bool false) => some s2
      | _ => none
    | none => none
  | none => none
/-- an entry comes -/
def rngGo (D : Data) (call : CallF) (R : Rng) (k v : Value) (s : St) : Option St := match putT s.t s.n (some R.nx) (.tuple #[.bool true, k, v]) with
  | some t => match runA D call R.ops2 R.post2 ⟨t, s.n, s.h⟩ with
    | some s2 => match evalO s2.t R.cx with
      | some (.bool true) => match evalO s2.t (.tmp R.it), evalO s.t (.tmp R.it) with
        | some (.pointer (some a)), some (.pointer (some a')) => bif adEq a a' then match putT s2.t s2.n (some R.en) (.tuple #[k, v]) with
          | some t3 => runA D call R.ops3 R.rest ⟨t3, s2.n, s2.h⟩
          | none => none else none
        | _, _ => none
      | _ => none
    | none => none
  | none => none
def goesOn (b1 : Nat) : Ex → Bool
  | .normal => true
  | .exit i => i.beq b1
  | .ret => false
def rngA (D : Data) (call : CallF) (run : Code → St → Option (Ex × St)) (R : Rng) (s : St) : Option St :=
  match runA D call R.ops1 R.pre s with
  | none => none
  | some s1 => match putT s1.t s1.n (some R.it) (rngIt s1.h.size) with
    | none => none
    | some t1 => match evalO s1.t R.mx, mapTy D R.ty with
      | some (.map none), some _ => rngEnd D call R ⟨t1, s1.n, { s1.h with size := s1.h.size + 1, tick := s1.h.tick + 1 }⟩
      | some (.map (some r)), some _ => match s1.h.objs.get r with
        | some (.map []) => rngEnd D call R ⟨t1, s1.n, { s1.h with size := s1.h.size + 1, tick := s1.h.tick + 1 }⟩
        | some (.map [(k, v)]) => bif s1.h.nro.ble r then
            match rngGo D call R k v ⟨t1, s1.n, { s1.h with size := s1.h.size + 1, tick := s1.h.tick + 1, objs := s1.h.objs.rem r }⟩ with
            | some s3 => match run R.tail s3 with
              | some (e, s4) => bif goesOn R.b1 e then (match evalO s4.t (.tmp R.it) with
                  | some (.pointer (some a)) => bif adEq a ⟨s1.h.size, 0, some 0⟩ then rngEnd D call R ⟨s4.t, s4.n, newAt s4.h r (.map [(k, v)])⟩ else none
                  | _ => none) else none
              | none => none
            | none => none
          else none
        | _ => none
      | _, _ => none
section
variable {P : Program} {D : Data} {ρ : Ren} {a : Act} {w : World} {call : CallF}
theorem runA_ok' (hD : DOk P D) (hcall : CallOK P call) {ops : Array Oper} {Q : Exit → Act → World → Prop} {r : List Nat} : ∀ (l : List Oper) (k : Nat) (ρ : Ren) (s s' : St) (a : Act) (w : World), (∀ j, j < l.length → l[j]? = ops[k + j]?) → runA D call ops l s = some s' → Rel ρ s a w →
    (∀ ρ' a' w', Rel ρ' s' a' w' → Ext ρ s.h w ρ' s'.h w' → wpOps P ops Q r a' w') → wpOps P ops Q (List.range' k l.length ++ r) a w
  | [], k, ρ, s, s', a, w, _, hrun, hr, hQ => by
    obtain rfl := Option.some.inj hrun
    exact hQ ρ a w hr (.refl _ _ _)
  | o :: l, k, ρ, s, s', a, w, hl, hrun, hr, hQ => by
    unfold runA at hrun
    split at hrun
    case h_2 => simp at hrun
    case h_1 s1 hs1 =>
    rw [List.length_cons, List.range'_succ, List.cons_append, wpOps_cons]
    refine stepA_ok hD hcall (by have := hl 0 (Nat.succ_pos _); simpa using this.symm) hs1 hr ?_
    intro ρ1 a1 w1 hr1 hx1
    refine runA_ok' hD hcall l (k + 1) ρ1 s1 s' a1 w1 (fun j hj => ?_) hrun hr1 ?_
    · have := hl (j + 1) (Nat.succ_lt_succ hj)
      simp only [List.getElem?_cons_succ] at this
      rw [this]; congr 1; omega
    · intro ρ' a' w' hr' hx'
      exact hQ ρ' a' w' hr' (hx1.trans (fun A e L x => (hr.wr.dom A e L x).1) hx')
theorem wpOp_val {ops : Array Oper} {Q : Exit → Act → World → Prop} {i : Nat} {K : Act → World → Prop} {o : Oper} (ho : ops[i]? = some o) (hg : o.guard = none) {v : Value} {w' : World} (hrun : (execOp a.eval o).run P w = .ok (.value v) w') (hK : K (a.put o.dst v) w') : wpOp P ops Q i K a w := by
  unfold wpOp
  simp only [ho]
  rw [if_pos (by unfold Region.wanted; rw [hg])]
  left
  unfold Oper.wp
  rw [hrun, Oper.upon_value]
  exact hK
theorem eval_it {t : Tr Value} (ht : TRel ρ t a) {A it : Nat} {L : Loc} (h : evalO t (.tmp it) = some (rngIt A)) (hL : ρ A 0 = some L) (h0 : L.co = 0 ∧ L.ao = 0) : a.eval (.tmp it) = .pointer (some ⟨L.cb, 0, none⟩) := by
  have hv := evalO_ok ht h
  generalize a.eval (.tmp it) = v at hv
  unfold rngIt at hv
  cases hv with
  | ptr _ c hc =>
    obtain ⟨L', e, h1, h2, h3, h4, h5, h6⟩ := hc
    cases h1
    rw [hL] at h2
    cases h2
    obtain ⟨cb, co, sp⟩ := c
    simp only at h3 h4 h6
    rw [h0.1, h0.2] at h6
    subst h3 h4
    have : co = 0 := by omega
    rw [this]
/-- nothing is left: the round lets out -/
theorem rngEnd_ok (hD : DOk P D) (hcall : CallOK P call) {R : Rng} {c : Code} (hR : R.Is c) {i2 i3 : Nat} {s s' : St} (he : rngEnd D call R s = some s') (hr : Rel ρ s a w) {B : Nat} (hit : a.eval (.tmp R.it) = .pointer (some ⟨B, 0, none⟩))
    (hnx : ∀ ty, (Instr.next (.pointer (some ⟨B, 0, none⟩)) false ty).run P w = .ok (.tuple #[.bool false]) w) {Q : Exit → Act → World → Prop} (hQ : ∀ ρ' a' w', Rel ρ' s' a' w' → Ext ρ s.h w ρ' s'.h w' → Q (.exit R.b) a' w') : (R.round i2 i3).wp P Q a w := by
  obtain ⟨o, h2, ho⟩ := hR.two
  obtain ⟨g1, g2, g3⟩ := asNext_eq ho
  unfold rngEnd at he
  split at he
  case h_2 => cases he
  rename_i t ht
  split at he
  case h_2 => cases he
  rename_i s2 hs2
  split at he
  case h_2 => cases he
  rename_i hc
  cases he
  unfold Rng.round
  refine wp_seq (wp_region ?_)
  have hsz : R.ops2.size = R.post2.length + 1 := by rw [← Array.length_toList, h2]; rfl
  have hat : ∀ j, R.ops2[j]? = (o :: R.post2)[j]? := fun j => by rw [← h2, Array.getElem?_toList]
  rw [hsz, List.range_eq_range', List.range'_succ, wpOps_cons]
  refine wpOp_val (v := .tuple #[.bool false]) (w' := w) (by rw [hat]; rfl) g1 ?_ ?_
  · unfold execOp
    rw [g3]
    simp [hit, hnx]
  · obtain ⟨p1, p2, p3⟩ := putT_ok (v' := .tuple #[.bool false]) ht hr.t hr.n (.tuple _ _ (.cons (.bool _) .nil))
    have := runA_ok' (Q := Exit.then ((Code.seq (.cond R.cx .skip (.exit R.b)) (.block R.b1 (.seq (.region i3 R.ops3 false) R.tail))).wp P Q) Q) (r := []) hD hcall R.post2 1 ρ ⟨t, s.n, s.h⟩ s' (a.put o.dst (.tuple #[.bool false])) w (fun j _ => by rw [hat, Nat.add_comm]; rfl) hs2 ⟨hr.wr, g2 ▸ p1, by rw [g2]; exact p2, by rw [g2]; exact p3.trans hr.d⟩ (fun ρ' a' w' hr' hx' => ?_)
    · simpa using this
    · show (Code.seq (.cond R.cx .skip (.exit R.b)) (.block R.b1 (.seq (.region i3 R.ops3 false) R.tail))).wp P Q a' w'
      have hv := evalO_ok hr'.t hc
      have e : a'.eval R.cx = .bool false := by cases hcc : a'.eval R.cx <;> rw [hcc] at hv <;> cases hv; rfl
      exact wp_seq (wp_cond_false e (wp_exit (hQ ρ' a' w' hr' hx')))
/-- a step at which an object was hidden -/
def hideH (h : H) (r : Nat) : H := { h with objs := h.objs.rem r }
theorem hide_get (h : H) (r A : Nat) : (hideH h r).objs.get A = if A = r then none else h.objs.get A := Tr.get_rem _ _ _
theorem hide_sub {h : H} {r A : Nat} {ob : AObj} (x : (hideH h r).objs.get A = some ob) : h.objs.get A = some ob := by
  rw [hide_get] at x
  split at x
  · cases x
  · exact x
theorem Ext.unhide {ρ' : Ren} {h h' : H} {w' : World} {r : Nat} {ob ob0 : AObj} (hr : h.objs.get r = some ob0) (x : Ext ρ (hideH h r) w ρ' h' w') : Ext ρ h w ρ' (newAt h' r ob) w' := by
  have ne : ∀ A, (hideH h r).objs.get A ≠ none → h.objs.get A ≠ none := fun A hA e => hA (by rw [hide_get]; split <;> first | rfl | exact e)
  refine ⟨x.mono, x.nro, x.size, fun A hA => ?_, fun A e L h1 h2 => ?_, fun A e L h1 h2 => ?_, x.grow, fun b hb hno => x.frame b hb fun A e L h1 h2 h3 => hno A e L h1 (ne A h2) h3, x.os, x.tape, x.output, x.st, x.drawn⟩
  · simp only [newAt, Tr.get_set]
    split
    · rename_i e; subst e; rw [hr]; simp
    · rename_i e
      rw [x.pres A hA, hide_get, if_neg e]
  · rcases x.new A e L h1 h2 with h3 | ⟨e0, L0, h3, h4, h5⟩
    · exact .inl h3
    · exact .inr ⟨e0, L0, h3, ne A h4, h5⟩
  · rcases x.newA A e L h1 h2 with h3 | h3
    · exact .inl h3
    · exact .inr (ne A h3)
/-- a world that is another one at a block alone that no object stands for -/
structure ButB (w w' : World) (B : Nat) : Prop where
  size : w'.heap.size = w.heap.size
  block : ∀ b, b ≠ B → w'.heap[b]? = w.heap[b]?
  os : w'.os = w.os
  tape : w'.tape = w.tape
  output : w'.output = w.output
  drawn : w.drawn ≤ w'.drawn
theorem WR.butB {h : H} {w' : World} {B : Nat} (hw : WR ρ h w) (hb : ButB w w' B) (hno : ∀ A e L, ρ A e = some L → h.objs.get A ≠ none → L.cb ≠ B) : WR ρ h w' :=
  ⟨fun A e L x => ⟨(hw.dom A e L x).1, by rw [hb.size]; exact (hw.dom A e L x).2⟩, hw.dis, fun A ob x => (hw.obj A ob x).keep (Ren.le_refl _) (fun _ _ y => y) (fun e L y => hb.block _ (hno A e L y (by rw [x]; simp))), hw.lt, hw.nro⟩
theorem Ext.butB {ρ' : Ren} {h h' : H} {w1 w2 : World} {B : Nat} (x : Ext ρ h w ρ' h' w1) (hb : ButB w1 w2 B) (hB : w.heap.size ≤ B) : Ext ρ h w ρ' h' w2 :=
  ⟨x.mono, x.nro, x.size, x.pres, x.new, x.newA, by rw [hb.size]; exact x.grow, fun b hlt hno => (hb.block b (by omega)).trans (x.frame b hlt hno), hb.os.trans x.os, hb.tape.trans x.tape, hb.output.trans x.output, x.st, fun s => Nat.le_trans (x.drawn s) hb.drawn⟩
/-- an entry comes: to the end of the round -/
theorem rngGo_ok (hD : DOk P D) (hcall : CallOK P call) {run : Code → St → Option (Ex × St)} (ok : CodeOK P run) {R : Rng} {c : Code} (hR : R.Is c) {i2 i3 : Nat} {k v k' v' : Value} {s s3 s4 : St} {e : Ex} (he : rngGo D call R k v s = some s3) (hrun : run R.tail s3 = some (e, s4)) (hgo : goesOn R.b1 e = true)
    {w1 : World} {A : Nat} {L : Loc} (hA : evalO s.t (.tmp R.it) = some (rngIt A)) (hL : ρ A 0 = some L) (h0 : L.co = 0 ∧ L.ao = 0) (hit : a.eval (.tmp R.it) = .pointer (some ⟨L.cb, 0, none⟩)) (hr : Rel ρ s a w1) (hk : VR ρ k k') (hv : VR ρ v v')
    (hnx : ∀ ty, (Instr.next (.pointer (some ⟨L.cb, 0, none⟩)) false ty).run P w = .ok (.tuple #[.bool true, k', v']) w1) (hen : ∀ w2, w2.heap[L.cb]? = w1.heap[L.cb]? → (∀ M, M < s.h.size → s.h.objs.get M = none → ∀ e L', ρ M e = some L' → s.h.nro ≤ M → w2.heap[L'.cb]? = w1.heap[L'.cb]?) → (Instr.entry (.pointer (some ⟨L.cb, 0, none⟩))).run P w2 = .ok (.tuple #[k', v']) w2) (hAn : s.h.objs.get A = none) (hAo : s.h.nro ≤ A)
    {Q : Exit → Act → World → Prop} (hQ : ∀ ρ' a' w', Rel ρ' s4 a' w' → Ext ρ s.h w1 ρ' s4.h w' → Q .normal a' w') : (R.round i2 i3).wp P Q a w := by
  obtain ⟨o, h2, ho⟩ := hR.two
  obtain ⟨g1, g2, g3⟩ := asNext_eq ho
  obtain ⟨o3, h3, ho3⟩ := hR.three
  obtain ⟨j1, j2, j3⟩ := asEntry_eq ho3
  have frame : ∀ {ρ' h' w2}, Ext ρ s.h w1 ρ' h' w2 → ∀ M, M < s.h.size → s.h.objs.get M = none → ∀ e L', ρ M e = some L' → s.h.nro ≤ M → w2.heap[L'.cb]? = w1.heap[L'.cb]? := by
    intro ρ' h' w2 hx M hM hn e L' hL' hMo
    refine hx.frame L'.cb (hr.wr.dom _ _ _ hL').2 ?_
    intro A' e' L2 q1 q2 q3 q4
    have hne : A' ≠ M := by intro h; subst h; exact q2 hn
    have := (hr.wr.dis _ _ _ _ _ _ q1 hL' hne q4).2
    omega
  unfold rngGo at he
  split at he
  case h_2 => cases he
  rename_i t ht
  split at he
  case h_2 => cases he
  rename_i s2 hs2
  split at he
  case h_2 => cases he
  rename_i hc
  split at he
  case h_2 => cases he
  rename_i ad ad' hi1 hi2
  rw [hA] at hi2
  cases hi2
  cases had : adEq ad ⟨A, 0, some 0⟩ <;> rw [had] at he
  · cases he
  obtain rfl := adEq_eq had
  simp only [cond_true] at he
  split at he
  case h_2 => cases he
  rename_i t3 ht3
  unfold Rng.round
  refine wp_seq (wp_region ?_)
  have hsz : R.ops2.size = R.post2.length + 1 := by rw [← Array.length_toList, h2]; rfl
  have hat : ∀ j, R.ops2[j]? = (o :: R.post2)[j]? := fun j => by rw [← h2, Array.getElem?_toList]
  have hsz3 : R.ops3.size = R.rest.length + 1 := by rw [← Array.length_toList, h3]; rfl
  have hat3 : ∀ j, R.ops3[j]? = (o3 :: R.rest)[j]? := fun j => by rw [← h3, Array.getElem?_toList]
  rw [hsz, List.range_eq_range', List.range'_succ, wpOps_cons]
  refine wpOp_val (v := .tuple #[.bool true, k', v']) (w' := w1) (by rw [hat]; rfl) g1 ?_ ?_
  · unfold execOp
    rw [g3]
    simp [hit, hnx]
  · obtain ⟨p1, p2, p3⟩ := putT_ok (v' := .tuple #[.bool true, k', v']) ht hr.t hr.n (.tuple _ _ (.cons (.bool _) (.cons hk (.cons hv .nil))))
    have := runA_ok' (Q := Exit.then ((Code.seq (.cond R.cx .skip (.exit R.b)) (.block R.b1 (.seq (.region i3 R.ops3 false) R.tail))).wp P Q) Q) (r := []) hD hcall R.post2 1 ρ ⟨t, s.n, s.h⟩ s2 (a.put o.dst (.tuple #[.bool true, k', v'])) w1 (fun j _ => by rw [hat, Nat.add_comm]; rfl) hs2 ⟨hr.wr, g2 ▸ p1, by rw [g2]; exact p2, by rw [g2]; exact p3.trans hr.d⟩ (fun ρ2 a2 w2 hr2 hx2 => ?_)
    · simpa using this
    · show (Code.seq (.cond R.cx .skip (.exit R.b)) (.block R.b1 (.seq (.region i3 R.ops3 false) R.tail))).wp P Q a2 w2
      have hcv := evalO_ok hr2.t hc
      have ec : a2.eval R.cx = .bool true := by cases hcc : a2.eval R.cx <;> rw [hcc] at hcv <;> cases hcv; rfl
      refine wp_seq (wp_cond_true ec (wp_skip ?_))
      show (Code.block R.b1 (.seq (.region i3 R.ops3 false) R.tail)).wp P Q a2 w2
      refine wp_block (wp_seq (wp_region ?_))
      have hit2 : a2.eval (.tmp R.it) = .pointer (some ⟨L.cb, 0, none⟩) := eval_it hr2.t hi1 (hx2.mono _ _ _ hL) h0
      rw [hsz3, List.range_eq_range', List.range'_succ, wpOps_cons]
      refine wpOp_val (v := .tuple #[k', v']) (w' := w2) (by rw [hat3]; rfl) j1 ?_ ?_
      · unfold execOp
        rw [j3]
        have hlt := (hr.wr.dom _ _ _ hL).1
        have := hen w2 (frame hx2 A hlt hAn 0 L hL hAo) (frame hx2)
        simp [hit2, this]
      · obtain ⟨p1, p2, p3⟩ := putT_ok (v' := .tuple #[k', v']) ht3 hr2.t hr2.n (.tuple _ _ (.cons (hk.mono hx2.mono) (.cons (hv.mono hx2.mono) .nil)))
        have := runA_ok' (Q := Exit.then (R.tail.wp P (Exit.inBlock R.b1 Q)) (Exit.inBlock R.b1 Q)) (r := []) hD hcall R.rest 1 ρ2 ⟨t3, s2.n, s2.h⟩ s3 (a2.put o3.dst (.tuple #[k', v'])) w2 (fun j _ => by rw [hat3, Nat.add_comm]; rfl) he ⟨hr2.wr, j2 ▸ p1, by rw [j2]; exact p2, by rw [j2]; exact p3.trans hr2.d⟩ (fun ρ3 a3 w3 hr3 hx3 => ?_)
        · simpa using this
        · show R.tail.wp P (Exit.inBlock R.b1 Q) a3 w3
          refine wp_mono (ok _ _ _ _ hrun ρ3 a3 w3 hr3) ?_
          rintro x a4 w4 ⟨hx, ρ4, hr4, hx4⟩
          have hall : Ext ρ s.h w1 ρ4 s4.h w4 := (hx2.trans (fun A e L x => (hr.wr.dom A e L x).1) (hx3.trans (fun A e L x => (hr2.wr.dom A e L x).1) hx4))
          cases e with
          | normal =>
            cases x <;> simp only [ExR] at hx
            exact hQ ρ4 a4 w4 hr4 hall
          | exit i =>
            cases x <;> simp only [ExR] at hx
            subst hx
            have : i = R.b1 := Nat.eq_of_beq_eq_true hgo
            simp only [Exit.inBlock, this, if_true]
            exact hQ ρ4 a4 w4 hr4 hall
          | ret => cases hgo
theorem alloc_get (w : World) (o : Obj) (b : Nat) (hb : b < w.heap.size) : (w.alloc o).heap[b]? = w.heap[b]? := heap_alloc_old w o hb
/-- to the loop -/
theorem rngPre (hD : DOk P D) (hcall : CallOK P call) {R : Rng} {i1 i2 i3 : Nat} (hone : ∃ o, R.ops1.toList = R.pre ++ [o] ∧ asRange o = some (R.it, R.ty, R.mx)) {s s1 : St} {t1 : Tr Value} (h1 : runA D call R.ops1 R.pre s = some s1) (ht1 : putT s1.t s1.n (some R.it) (rngIt s1.h.size) = some t1) (hr : Rel ρ s a w)
    {Q : Exit → Act → World → Prop} (hrange : ∀ ρ1 a1 w1, Rel ρ1 s1 a1 w1 → Ext ρ s.h w ρ1 s1.h w1 → ∃ o : Obj, (Instr.range R.ty (a1.eval R.mx)).run P w1 = .ok (.pointer (some ⟨w1.heap.size, 0, none⟩)) (w1.alloc o) ∧
      ∀ ρ2 a2 L, Rel ρ2 ⟨t1, s1.n, { s1.h with size := s1.h.size + 1, tick := s1.h.tick + 1 }⟩ a2 (w1.alloc o) → Ext ρ s.h w ρ2 { s1.h with size := s1.h.size + 1, tick := s1.h.tick + 1 } (w1.alloc o) → ρ1.le ρ2 → ρ2 s1.h.size 0 = some L → L.cb = w1.heap.size → L.co = 0 ∧ L.ao = 0 → a2.eval (.tmp R.it) = .pointer (some ⟨L.cb, 0, none⟩) →
        (Code.block R.b (.loop (R.round i2 i3))).wp P Q a2 (w1.alloc o)) :
    (Code.seq (.region i1 R.ops1 false) (.block R.b (.loop (R.round i2 i3)))).wp P Q a w := by
  obtain ⟨o, h2, ho⟩ := hone
  obtain ⟨g1, g2, g3⟩ := asRange_eq ho
  have hsz : R.ops1.size = R.pre.length + 1 := by rw [← Array.length_toList, h2]; simp
  have hat : ∀ j, R.ops1[j]? = (R.pre ++ [o])[j]? := fun j => by rw [← h2, Array.getElem?_toList]
  refine wp_seq (wp_region ?_)
  have hl : List.range R.ops1.size = List.range' 0 R.pre.length ++ [R.pre.length] := by
    rw [hsz, List.range_eq_range', List.range'_concat]; simp
  rw [hl]
  refine runA_ok' hD hcall R.pre 0 ρ s s1 a w (fun j hj => by rw [hat, Nat.zero_add, List.getElem?_append_left hj]) h1 hr ?_
  intro ρ1 a1 w1 hr1 hx1
  obtain ⟨ob, e1, k⟩ := hrange ρ1 a1 w1 hr1 hx1
  rw [wpOps_cons]
  refine wpOp_val (v := .pointer (some ⟨w1.heap.size, 0, none⟩)) (w' := w1.alloc ob) (by rw [hat]; simp) g1 ?_ ?_
  · unfold execOp
    rw [g3]
    simp [e1]
  · have hun : ∀ e, ρ1 s1.h.size e = none := by
      intro e
      cases x : ρ1 s1.h.size e with
      | none => rfl
      | some L => have := (hr1.wr.dom _ _ _ x).1; omega
    have habs : s1.h.objs.get s1.h.size = none := by
      cases x : s1.h.objs.get s1.h.size with
      | none => rfl
      | some ob => have := hr1.wr.lt _ _ x; omega
    have hg : WR ρ1 { s1.h with size := s1.h.size + 1, tick := s1.h.tick + 1 } w1 := ⟨fun A e L x => ⟨Nat.lt_succ_of_lt (hr1.wr.dom A e L x).1, (hr1.wr.dom A e L x).2⟩, hr1.wr.dis, hr1.wr.obj, fun A ob x => Nat.lt_succ_of_lt (hr1.wr.lt A ob x), Nat.le_succ_of_le hr1.wr.nro⟩
    have hhp : (w1.alloc ob).heap = w1.heap.push ob := rfl
    have hW := hg.map (id := s1.h.size) (L := ⟨w1.heap.size, 0, 0, 0, 0⟩) (Nat.lt_succ_self _) hun hr1.wr.nro habs hhp rfl
    have hle : ρ1.le (updR ρ1 s1.h.size 0 ⟨w1.heap.size, 0, 0, 0, 0⟩) := updR_le (hun 0)
    obtain ⟨p1, p2, p3⟩ := putT_ok (v' := .pointer (some ⟨w1.heap.size, 0, none⟩)) ht1 (hr1.t.mono hle) hr1.n (.ptr _ _ (AR_new (updR_self _ _ _ _)))
    have hx : Ext ρ s.h w ρ1 { s1.h with size := s1.h.size + 1, tick := s1.h.tick + 1 } w1 := hx1.post rfl rfl (Nat.le_succ_of_le hx1.size) (fun _ _ => Iff.rfl)
    have hx2 := hx.allocAt (id := s1.h.size) (L := ⟨w1.heap.size, 0, 0, 0, 0⟩) (w2 := w1.alloc ob) hx1.size (hun 0) hhp rfl rfl rfl ⟨rfl, Nat.le_refl _⟩
    show (Code.block R.b (.loop (R.round i2 i3))).wp P Q (a1.put o.dst (.pointer (some ⟨w1.heap.size, 0, none⟩))) (w1.alloc ob)
    rw [g2]
    have hR : Rel (updR ρ1 s1.h.size 0 ⟨w1.heap.size, 0, 0, 0, 0⟩) ⟨t1, s1.n, { s1.h with size := s1.h.size + 1, tick := s1.h.tick + 1 }⟩ (a1.put (some R.it) (.pointer (some ⟨w1.heap.size, 0, none⟩))) (w1.alloc ob) := ⟨hW, p1, p2, p3.trans hr1.d⟩
    refine k _ _ ⟨w1.heap.size, 0, 0, 0, 0⟩ hR hx2 hle (updR_self _ _ _ _) rfl ⟨rfl, rfl⟩ ?_
    refine eval_it p1 (A := s1.h.size) ?_ (updR_self _ _ _ _) ⟨rfl, rfl⟩
    unfold putT at ht1
    simp only at ht1
    cases hlt : R.it.blt s1.n <;> rw [hlt] at ht1
    · cases ht1
    · cases ht1
      simp [evalO, Tr.get_set]
theorem esr_nil {l : List MapEntry} (h : ESR ρ [] l) : l = [] := by
  cases l with
  | nil => rfl
  | cons _ _ => exact h.elim
theorem esr_one {k v : Value} {l : List MapEntry} (h : ESR ρ [(k, v)] l) : ∃ e, l = [e] ∧ e.key = k ∧ VR ρ k k ∧ VR ρ v e.val := by
  cases l with
  | nil => exact h.elim
  | cons e l => exact ⟨e, by rw [esr_nil h.2.2.2], h.1, h.2.1, h.2.2.1⟩
theorem rngA_ok (hD : DOk P D) (hcall : CallOK P call) {run : Code → St → Option (Ex × St)} (ok : CodeOK P run) {R : Rng} {c : Code} (hR : R.Is c) {s s' : St} (h : rngA D call run R s = some s') (hr : Rel ρ s a w) : c.wp P (CodePost ρ s w .normal s') a w := by
  obtain ⟨i1, i2, i3, rfl⟩ := hR.shape
  unfold rngA at h
  split at h
  case h_1 => cases h
  rename_i s1 hs1
  split at h
  case h_1 => cases h
  rename_i t1 ht1
  have fin : ∀ {ρ2 : Ren} {a2 : Act} {w2 : World} {s2 : St} {B n : Nat}, rngEnd D call R s2 = some s' → Rel ρ2 s2 a2 w2 → Ext ρ s.h w ρ2 s2.h w2 → a2.eval (.tmp R.it) = .pointer (some ⟨B, 0, none⟩) → (∀ ty, (Instr.next (.pointer (some ⟨B, 0, none⟩)) false ty).run P w2 = .ok (.tuple #[.bool false]) w2) →
      Code.rounds P (R.round i2 i3) (Exit.inBlock R.b (CodePost ρ s w .normal s')) (n + 1) a2 w2 := by
    intro ρ2 a2 w2 s2 B n he hr2 hx2 hit hnx
    rw [rounds_succ]
    refine rngEnd_ok hD hcall hR he hr2 hit hnx ?_
    intro ρ3 a3 w3 hr3 hx3
    show Exit.inBlock R.b (CodePost ρ s w .normal s') (.exit R.b) a3 w3
    simp only [Exit.inBlock, if_true]
    exact ⟨trivial, ρ3, hr3, hx2.trans (fun A e L x => (hr.wr.dom A e L x).1) hx3⟩
  split at h
  · -- nil
    rename_i kt hmx hty
    refine rngPre hD hcall hR.one hs1 ht1 hr ?_
    intro ρ1 a1 w1 hr1 hx1
    have hv := evalO_ok hr1.t hmx
    generalize a1.eval R.mx = v at hv
    cases hv
    refine ⟨_, run_range_nilMap w1 R.ty _ _ (mapTy_ok hD hty), ?_⟩
    intro ρ2 a2 L hr2 hx2 hle hL hcb h0 hit
    refine wp_block (wp_loop_rounds 1 (fin h hr2 hx2 hit ?_))
    intro ty
    rw [hcb]
    exact run_next_nilMap w1 ty _ _ _
  · rename_i r kt hmx hty
    have mapOf : ∀ {es : List (Value × Value)}, s1.h.objs.get r = some (.map es) → ∀ {ρ1 a1 w1}, Rel ρ1 s1 a1 w1 → ∃ Lr es' clk, a1.eval R.mx = .map (some Lr.cb) ∧ ρ1 r 0 = some Lr ∧ w1.heap[Lr.cb]? = some (.map es' clk) ∧ ESR ρ1 es es'.toList ∧ BornR es'.toList clk ∧ Lr.cb < w1.heap.size := by
      intro es ho ρ1 a1 w1 hr1
      have hv := evalO_ok hr1.t hmx
      generalize a1.eval R.mx = v at hv
      cases hv with
      | map _ Lr hLr =>
        obtain ⟨_, es', clk, q1, q2, q3⟩ := hr1.wr.obj _ _ ho 0 Lr hLr
        exact ⟨Lr, es', clk, rfl, hLr, q1, q2, q3, (hr1.wr.dom _ _ _ hLr).2⟩
    split at h
    · -- empty
      rename_i ho
      refine rngPre hD hcall hR.one hs1 ht1 hr ?_
      intro ρ1 a1 w1 hr1 hx1
      obtain ⟨Lr, es', clk, e1, hLr, hb, hes, hbo, hlt⟩ := mapOf ho hr1
      rw [e1]
      refine ⟨_, run_range_map w1 R.ty _ _ Lr.cb es' clk (mapTy_ok hD hty) hb, ?_⟩
      intro ρ2 a2 L hr2 hx2 hle hL hcb h0 hit
      refine wp_block (wp_loop_rounds 1 (fin h hr2 hx2 hit ?_))
      intro ty
      have hnil := esr_nil hes
      rcases run_next_at (P := P) (w1.alloc (.mapIter (some Lr.cb) clk #[] clk)) ty L.cb Lr.cb clk clk #[] es' clk (by rw [hcb]; exact heap_alloc_new _ _) (by rw [alloc_get _ _ _ hlt]; exact hb) hbo.1 (Nat.le_refl _) with ⟨_, h2⟩ | ⟨e, he, _⟩
      · exact h2
      · exfalso
        have : e ∈ es'.toList := by
          unfold leftOf at he
          simp at he; simpa using he
        rw [hnil] at this; cases this
    · -- one
      rename_i k v ho
      cases hro : s1.h.nro.ble r <;> rw [hro] at h
      · cases h
      have hro := Nat.le_of_ble_eq_true hro
      simp only [cond_true] at h
      split at h
      case h_2 => cases h
      rename_i s3 hs3
      split at h
      case h_2 => cases h
      rename_i ex s4 hs4
      cases hgo : goesOn R.b1 ex <;> rw [hgo] at h
      · cases h
      simp only [cond_true] at h
      split at h
      case h_2 => cases h
      rename_i ad had
      cases hadd : adEq ad ⟨s1.h.size, 0, some 0⟩ <;> rw [hadd] at h
      · cases h
      obtain rfl := adEq_eq hadd
      simp only [cond_true] at h
      refine rngPre hD hcall hR.one hs1 ht1 hr ?_
      intro ρ1 a1 w1 hr1 hx1
      obtain ⟨Lr, es', clk, e1, hLr, hb, hes, hbo, hlt⟩ := mapOf ho hr1
      rw [e1]
      refine ⟨_, run_range_map w1 R.ty _ _ Lr.cb es' clk (mapTy_ok hD hty) hb, ?_⟩
      intro ρ2 a2 L hr2 hx2 hle hL hcb h0 hit
      obtain ⟨en, hen, k1, k2, k3⟩ := esr_one hes
      have hLr2 := hle _ _ _ hLr
      have hrlt : r < s1.h.size := hr1.wr.lt _ _ ho
      have hiter : (w1.alloc (.mapIter (some Lr.cb) clk #[] clk)).heap[L.cb]? = some (.mapIter (some Lr.cb) clk #[] clk) := by rw [hcb]; exact heap_alloc_new _ _
      have hmap2 : (w1.alloc (.mapIter (some Lr.cb) clk #[] clk)).heap[Lr.cb]? = some (.map es' clk) := by rw [alloc_get _ _ _ hlt]; exact hb
      have hBne : Lr.cb ≠ L.cb := by omega
      generalize hw2 : w1.alloc (.mapIter (some Lr.cb) clk #[] clk) = w2 at hr2 hx2 hiter hmap2 ⊢
      have hBsz : L.cb < w2.heap.size := (hr2.wr.dom _ _ _ hL).2
      have hwB : w.heap.size ≤ L.cb := by rw [hcb]; exact hx1.grow
      -- the first step
      obtain ⟨w3, hB3, hi3, hn3⟩ : ∃ w3, ButB w2 w3 L.cb ∧ w3.heap[L.cb]? = some (.mapIter (some Lr.cb) clk #[en.born] clk) ∧ ∀ ty, (Instr.next (.pointer (some ⟨L.cb, 0, none⟩)) false ty).run P w2 = .ok (.tuple #[.bool true, k, en.val]) w3 := by
        have step : ∀ ty, ∃ w3, ButB w2 w3 L.cb ∧ w3.heap[L.cb]? = some (.mapIter (some Lr.cb) clk #[en.born] clk) ∧ (Instr.next (.pointer (some ⟨L.cb, 0, none⟩)) false ty).run P w2 = .ok (.tuple #[.bool true, k, en.val]) w3 := by
          intro ty
          rcases run_next_at (P := P) w2 ty L.cb Lr.cb clk clk #[] es' clk hiter hmap2 hbo.1 (Nat.le_refl _) with ⟨hz, _⟩ | ⟨e, he, wx, hwx, hrun⟩
          · exfalso
            have h3 : (leftOf es' #[]) = es' := by
              unfold leftOf
              refine Array.filter_eq_self.2 (fun x _ => by simp)
            rw [h3] at hz
            have : es'.toList.length = 0 := by simpa using hz
            rw [hen] at this; cases this
          · have he' : e ∈ es'.toList := by
              unfold leftOf at he
              simp at he; simpa using he
            rw [hen] at he'
            obtain rfl : e = en := by simpa using he'
            rw [k1] at hrun
            refine ⟨_, ?_, ?_, hrun⟩
            · have hxB : wx.heap = w2.heap ∧ wx.os = w2.os ∧ wx.tape = w2.tape ∧ wx.output = w2.output ∧ w2.drawn ≤ wx.drawn := by
                rcases hwx with rfl | rfl
                · exact ⟨rfl, rfl, rfl, rfl, Nat.le_refl _⟩
                · exact ⟨rfl, rfl, rfl, rfl, Nat.le_succ _⟩
              obtain ⟨q1, q2, q3, q4, q5⟩ := hxB
              refine ⟨by simp [Go.ChangeMaps.setBlock, q1], fun b hbb => ?_, q2, q3, q4, q5⟩
              simp only [Go.ChangeMaps.setBlock, q1]
              rw [Array.getElem?_setIfInBounds_ne (Ne.symm hbb)]
            · have q1 : wx.heap = w2.heap := by rcases hwx with rfl | rfl <;> rfl
              simp only [Go.ChangeMaps.setBlock, q1]
              rw [Array.getElem?_setIfInBounds_self_of_lt hBsz]
              rfl
        obtain ⟨w3, b1, b2, b3⟩ := step 0
        refine ⟨w3, b1, b2, fun ty => ?_⟩
        exact b3
      have hmap3 : w3.heap[Lr.cb]? = some (.map es' clk) := (hB3.block _ hBne).trans hmap2
      -- no object stands for the iterator
      have hnoB : ∀ A e L', ρ2 A e = some L' → s1.h.objs.get A ≠ none → L'.cb ≠ L.cb := by
        intro A e L' x1 x2 x3
        obtain ⟨ob, hob⟩ := Option.ne_none_iff_exists'.1 x2
        have hlA := hr1.wr.lt _ _ hob
        have hne : A ≠ s1.h.size := by omega
        have h6 : s1.h.size < s1.h.nro := (hr2.wr.dis _ _ _ _ _ _ x1 hL hne x3).2
        have := hr1.wr.nro
        omega
      have hWh : WR ρ2 { s1.h with size := s1.h.size + 1, tick := s1.h.tick + 1, objs := s1.h.objs.rem r } w2 := hr2.wr.sub rfl rfl fun A ob x => by
        rw [Tr.get_rem] at x
        split at x
        · cases x
        · exact x
      have hWh3 : WR ρ2 { s1.h with size := s1.h.size + 1, tick := s1.h.tick + 1, objs := s1.h.objs.rem r } w3 := hWh.butB hB3 fun A e L' x1 x2 => hnoB A e L' x1 (by
        intro y
        apply x2
        show (s1.h.objs.rem r).get A = none
        rw [Tr.get_rem]
        split
        · rfl
        · exact y)
      have hW3 : WR ρ2 { s1.h with size := s1.h.size + 1, tick := s1.h.tick + 1 } w3 := hr2.wr.butB hB3 hnoB
      have hx3 : Ext ρ s.h w ρ2 { s1.h with size := s1.h.size + 1, tick := s1.h.tick + 1 } w3 := hx2.butB hB3 hwB
      have hAn : (s1.h.objs.rem r).get s1.h.size = none := by
        rw [Tr.get_rem]
        split
        · rfl
        · cases x : s1.h.objs.get s1.h.size with
          | none => rfl
          | some ob => have := hr1.wr.lt _ _ x; omega
      have hrn : (s1.h.objs.rem r).get r = none := by rw [Tr.get_rem, if_pos rfl]
      refine wp_block (wp_loop_rounds 2 ?_)
      rw [rounds_succ]
      have hit1 : evalO t1 (.tmp R.it) = some (rngIt s1.h.size) := by
        unfold putT at ht1
        simp only at ht1
        cases hlt : R.it.blt s1.n <;> rw [hlt] at ht1
        · cases ht1
        · cases ht1
          simp [evalO, Tr.get_set]
      refine rngGo_ok (w1 := w3) (A := s1.h.size) (L := L) (k' := k) (v' := en.val) hD hcall ok hR hs3 hs4 hgo hit1 hL h0 hit ⟨hWh3, hr2.t, hr2.n, hr2.d⟩ (k2.mono hle) (k3.mono hle) hn3 ?_ hAn hr1.wr.nro ?_
      · intro wx q1 q2
        have hm : wx.heap[Lr.cb]? = some (.map es' clk) := (q2 r (Nat.lt_succ_of_lt hrlt) hrn 0 Lr hLr2 hro).trans hmap3
        have := run_entry_at (P := P) wx L.cb Lr.cb clk #[] es' clk en (q1.trans hi3) hm (by rw [hen]; simp) hbo.2
        rw [k1] at this
        exact this
      · intro ρ4 a4 w4 hr4 hx4
        show Code.rounds P (R.round i2 i3) (Exit.inBlock R.b (CodePost ρ s w .normal s')) 1 a4 w4
        have hsz4 : r < s4.h.size := by have := hx4.size; simp only at this; omega
        have hnro4 : s4.h.nro = s1.h.nro := hx4.nro
        have hobr : ObjR ρ4 w4 s1.h.nro r (.map [(k, v)]) := keepP hx4 hWh3 (Nat.lt_succ_of_lt hrlt) hrn hro (hW3.obj _ _ ho)
        have hW4 : WR ρ4 (newAt s4.h r (.map [(k, v)])) w4 := hr4.wr.ins hsz4 (by rw [hnro4]; exact hobr)
        have hx4' : Ext ρ2 { s1.h with size := s1.h.size + 1, tick := s1.h.tick + 1 } w3 ρ4 (newAt s4.h r (.map [(k, v)])) w4 := Ext.unhide (h := { s1.h with size := s1.h.size + 1, tick := s1.h.tick + 1 }) ho hx4
        have frameB : ∀ M, M < s1.h.size + 1 → (s1.h.objs.rem r).get M = none → s1.h.nro ≤ M → ∀ e L', ρ2 M e = some L' → w4.heap[L'.cb]? = w3.heap[L'.cb]? := by
          intro M hM hn hMo e L' hL'
          refine hx4.frame L'.cb (hWh3.dom _ _ _ hL').2 ?_
          intro A' e' L2 y1 y2 y3 y4
          have hne : A' ≠ M := by intro h; subst h; exact y2 hn
          have : M < s1.h.nro := (hWh3.dis _ _ _ _ _ _ y1 hL' hne y4).2
          omega
        refine fin (s2 := ⟨s4.t, s4.n, newAt s4.h r (.map [(k, v)])⟩) (B := L.cb) h ⟨hW4, hr4.t, hr4.n, hr4.d⟩ (hx3.trans (fun A e L x => (hr.wr.dom A e L x).1) hx4') (eval_it hr4.t had (hx4.mono _ _ _ hL) h0) ?_
        intro ty
        have hi4 : w4.heap[L.cb]? = some (.mapIter (some Lr.cb) clk #[en.born] clk) := (frameB s1.h.size (Nat.lt_succ_self _) hAn hr1.wr.nro 0 L hL).trans hi3
        have hm4 : w4.heap[Lr.cb]? = some (.map es' clk) := (frameB r (Nat.lt_succ_of_lt hrlt) hrn hro 0 Lr hLr2).trans hmap3
        rcases run_next_at (P := P) w4 ty L.cb Lr.cb clk clk #[en.born] es' clk hi4 hm4 hbo.1 (Nat.le_refl _) with ⟨_, h2⟩ | ⟨e, he, _⟩
        · exact h2
        · exfalso
          have : e ∈ es'.toList ∧ e.born ≠ en.born := by
            unfold leftOf at he
            simp at he
            exact ⟨by simpa using he.1, he.2⟩
          rw [hen] at this
          obtain ⟨q1, q2⟩ := this
          have : e = en := by simpa using q1
          exact q2 (by rw [this])
    · cases h
  · cases h
theorem rngEnd_tick {R : Rng} (hc : CallTick call) {s s' : St} (h : rngEnd D call R s = some s') : s'.h = s.h ∨ s.h.tick < s'.h.tick := by
  unfold rngEnd at h
  split at h
  case h_2 => cases h
  split at h
  case h_2 => cases h
  rename_i s2 hs2
  split at h
  case h_2 => cases h
  cases h
  have := runA_tick hc _ _ _ hs2
  exact this
theorem rngA_tick {R : Rng} {run : Code → St → Option (Ex × St)} (hc : CallTick call) (hrun : CodeTick run) {s s' : St} (h : rngA D call run R s = some s') : s.h.tick < s'.h.tick := by
  have le : ∀ {x y : H}, (y = x ∨ x.tick < y.tick) → x.tick ≤ y.tick := fun h => by rcases h with h | h; (· rw [h]; exact Nat.le_refl _); omega
  unfold rngA at h
  split at h
  case h_1 => cases h
  rename_i s1 hs1
  have a1 := le (runA_tick hc _ _ _ hs1)
  split at h
  case h_1 => cases h
  split at h
  · have : s1.h.tick + 1 ≤ s'.h.tick := le (rngEnd_tick hc h)
    omega
  · rename_i r kt hmx hty
    split at h
    · have : s1.h.tick + 1 ≤ s'.h.tick := le (rngEnd_tick hc h)
      omega
    · rename_i k v ho
      cases hro : s1.h.nro.ble r <;> rw [hro] at h
      · cases h
      simp only [cond_true] at h
      split at h
      case h_2 => cases h
      rename_i s3 hs3
      have a3 : s1.h.tick + 1 ≤ s3.h.tick := by
        unfold rngGo at hs3
        split at hs3
        case h_2 => cases hs3
        split at hs3
        case h_2 => cases hs3
        rename_i s2 hs2
        have b1 : s1.h.tick + 1 ≤ s2.h.tick := le (runA_tick hc _ _ _ hs2)
        split at hs3
        case h_2 => cases hs3
        split at hs3
        case h_2 => cases hs3
        rename_i ad ad' _ _
        cases had : adEq ad ad' <;> rw [had] at hs3
        · cases hs3
        simp only [cond_true] at hs3
        split at hs3
        case h_2 => cases hs3
        have b2 := le (runA_tick hc _ _ _ hs3)
        simp only at b2
        omega
      split at h
      case h_2 => cases h
      rename_i ex s4 hs4
      have a4 := le (hrun _ _ _ _ hs4)
      cases hgo : goesOn R.b1 ex <;> rw [hgo] at h
      · cases h
      simp only [cond_true] at h
      split at h
      case h_2 => cases h
      rename_i ad had
      cases hadd : adEq ad ⟨s1.h.size, 0, some 0⟩ <;> rw [hadd] at h
      · cases h
      simp only [cond_true] at h
      have : (newAt s4.h r (.map [(k, v)])).tick ≤ s'.h.tick := le (rngEnd_tick hc h)
      have : s4.h.tick + 1 ≤ s'.h.tick := this
      omega
    · cases h
  · cases h
/-! a function whose text ranges over maps -/
def runR (D : Data) (n : Nat) : Code → St → Option (Ex × St)
  | .seq x y, s => match rngOf x with
    | some R => match rngA D (callA D n) (exec D n) R s with
      | some s' => runR D n y s'
      | none => none
    | none => match exec D n x s with
      | some (.normal, s') => runR D n y s'
      | r => r
  | c, s => exec D n c s
theorem runR_ok (hD : DOk P D) (hov : OvOK P D) (n : Nat) : CodeOK P (runR D n) := by
  have h0 : ∀ {c : Code} {s s' : St} {ex : Ex}, exec D n c s = some (ex, s') → ∀ ρ a w, Rel ρ s a w → c.wp P (CodePost ρ s w ex s') a w := fun h => (exec_ok hD hov n).1 _ _ _ _ h
  intro c
  induction c with
  | seq x y _ ih =>
    intro s ex s' h ρ a w hr
    unfold runR at h
    split at h
    · rename_i R hR
      split at h
      case h_2 => cases h
      rename_i s1 hs1
      refine wp_seq (wp_mono (rngA_ok hD (callA_ok hD hov n) (exec_ok hD hov n).1 (rngOf_is hR) hs1 hr) ?_)
      rintro e a1 w1 ⟨he, ρ1, hr1, hx1⟩
      cases e <;> simp only [ExR] at he
      exact wp_mono (ih s1 ex s' h ρ1 a1 w1 hr1) fun e a w hh => hh.trans hr hx1
    · split at h
      · rename_i s1 hs1
        refine wp_seq (wp_mono (h0 hs1 ρ a w hr) ?_)
        rintro e a1 w1 ⟨he, ρ1, hr1, hx1⟩
        cases e <;> simp only [ExR] at he
        exact wp_mono (ih s1 ex s' h ρ1 a1 w1 hr1) fun e a w hh => hh.trans hr hx1
      · rename_i hne
        refine wp_seq (wp_mono (h0 h ρ a w hr) ?_)
        rintro e a1 w1 ⟨he, hh⟩
        cases ex with
        | normal => exact absurd h (hne s')
        | exit i => cases e <;> simp only [ExR] at he; exact ⟨he, hh⟩
        | ret => cases e <;> simp only [ExR] at he; exact ⟨trivial, hh⟩
  | _ => intro s ex s' h ρ a w hr; exact h0 h ρ a w hr
theorem runR_tick (hov : OvOK P D) (hD : DOk P D) (n : Nat) : CodeTick (runR D n) := by
  have h0 := (exec_ok hD hov n).2
  have hct : CallTick (callA D n) := callW_tick hov h0
  intro c
  induction c with
  | seq x y _ ih =>
    intro s ex s' h
    unfold runR at h
    split at h
    · split at h
      case h_2 => cases h
      rename_i s1 hs1
      have a1 := rngA_tick hct h0 hs1
      have := ih s1 ex s' h
      right
      rcases this with h1 | h1
      · rw [h1]; exact a1
      · omega
    · split at h
      · rename_i s1 hs1
        exact tick_trans (h0 _ _ _ _ hs1) (ih s1 ex s' h)
      · exact h0 _ _ _ _ h
  | _ => intro s ex s' h; exact h0 _ _ _ _ h
/-- the override of a function that ranges over maps -/
def ovRange (D : Data) (n : Nat) (f : FuncId) : List Value → H → Option (Value × H) := callW { D with ov := fun _ => none } (runR D n) f
theorem ovRange_ok (hD : DOk P D) (hov : OvOK P D) (n : Nat) (f : FuncId) : ∀ args h v h', ovRange D n f args h = some (v, h') → (h' = h ∨ h.tick < h'.tick) ∧ ∀ (ρ : Ren) w (args' : Array Value), WR ρ h w → VRs ρ args args'.toList → Calls P f args' w (CallPost ρ h w v h') := by
  intro args h v h' e
  have hD' : DOk P { D with ov := fun _ => none } := ⟨fun f F h => hD.1 f F h, fun t i h => hD.2 t i h, fun t i h hf => hD.3 t i h hf, hD.4⟩
  have hov' : OvOK P { D with ov := fun _ => none } := fun f g h => by cases h
  exact ⟨callW_tick hov' (runR_tick hov hD n) f args h v h' e, callW_ok hD' hov' (runR_ok hD hov n) f args h v h' e⟩
end
end Go.Abs
