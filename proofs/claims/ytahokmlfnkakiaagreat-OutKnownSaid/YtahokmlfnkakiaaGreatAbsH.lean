/- A machine without capacities, orders and tapes runs the program's code; what it answers, every run of the model answers (what the library puts in order, and calls that were seen, reckoned). -/
import Derived.Test.YtahokmlfnkakiaaGreatAbsG
import Derived.Laws.AppendOwn
set_option linter.unusedVariables false
set_option linter.unusedSimpArgs false
/- A sort that the kernel can reckon: what it hands back, once checked, is what the override of SortedFunc asks for. -/
namespace Go.Abs
open Go Go.Proofs Go.Sort
def insI (lt : Int → Int → Bool) (x : Int) : List Int → List Int
  | [] => [x]
  | y :: l => bif lt x y then x :: y :: l else y :: insI lt x l
def srtI (lt : Int → Int → Bool) : List Int → List Int
  | [] => []
  | x :: l => insI lt x (srtI lt l)
theorem insI_perm (lt : Int → Int → Bool) (x : Int) : ∀ l, (insI lt x l).Perm (x :: l)
  | [] => .refl _
  | y :: l => by
    unfold insI
    cases lt x y
    · exact ((insI_perm lt x l).cons y).trans (.swap x y l)
    · exact .refl _
theorem srtI_perm (lt : Int → Int → Bool) : ∀ l, (srtI lt l).Perm l
  | [] => .refl _
  | x :: l => (insI_perm lt x _).trans ((srtI_perm lt l).cons x)
/-- each pair is compared, and as it lies -/
def chkRow (run : Int → Int → Option Int) (x : Int) : List Int → Bool
  | [] => true
  | y :: l => (match run x y, run y x with
    | some a, some b => decide (a < 0) && !decide (b < 0)
    | _, _ => false) && chkRow run x l
def chkS (run : Int → Int → Option Int) : List Int → Bool
  | [] => true
  | x :: l => (match run x x with
    | some a => !decide (a < 0)
    | none => false) && (chkRow run x l && chkS run l)
theorem chkRow_ok {run : Int → Int → Option Int} {x : Int} : ∀ {l : List Int}, chkRow run x l = true → ∀ y ∈ l, ∃ a b, run x y = some a ∧ run y x = some b ∧ a < 0 ∧ ¬ b < 0
  | [], _, y, hy => by cases hy
  | z :: l, h, y, hy => by
    unfold chkRow at h
    rw [Bool.and_eq_true] at h
    rcases List.mem_cons.1 hy with rfl | hy
    · have h1 := h.1
      split at h1
      · rename_i a b e1 e2
        rw [Bool.and_eq_true, decide_eq_true_eq, Bool.not_eq_true', decide_eq_false_iff_not] at h1
        exact ⟨a, b, e1, e2, h1.1, h1.2⟩
      · cases h1
    · exact chkRow_ok h.2 y hy
theorem chkS_ok {run : Int → Int → Option Int} : ∀ {l : List Int}, chkS run l = true → (∀ x ∈ l, ∀ y ∈ l, ∃ a, run x y = some a) ∧ l.Pairwise (fun x y => (run x y).getD 0 < 0 ∧ ¬ (run y x).getD 0 < 0) ∧ ∀ x ∈ l, ¬ (run x x).getD 0 < 0
  | [], _ => ⟨(fun x hx => nomatch hx), List.Pairwise.nil, (fun x hx => nomatch hx)⟩
  | z :: l, h => by
    unfold chkS at h
    rw [Bool.and_eq_true, Bool.and_eq_true] at h
    obtain ⟨h1, h2, h3⟩ := h
    obtain ⟨i1, i2, i3⟩ := chkS_ok h3
    have hr := chkRow_ok h2
    obtain ⟨c, e, hc⟩ : ∃ c, run z z = some c ∧ ¬ c < 0 := by
      split at h1
      · rename_i a e
        rw [Bool.not_eq_true', decide_eq_false_iff_not] at h1
        exact ⟨a, e, h1⟩
      · cases h1
    refine ⟨fun x hx y hy => ?_, .cons (fun y hy => ?_) i2, fun x hx => ?_⟩
    · rcases List.mem_cons.1 hx with hx' | hx'
      · rw [hx']
        rcases List.mem_cons.1 hy with hy' | hy'
        · rw [hy']; exact ⟨c, e⟩
        · obtain ⟨a, b, e1, _⟩ := hr y hy'; exact ⟨a, e1⟩
      · rcases List.mem_cons.1 hy with hy' | hy'
        · rw [hy']; obtain ⟨a, b, _, e2, _⟩ := hr x hx'; exact ⟨b, e2⟩
        · exact i1 x hx' y hy'
    · obtain ⟨a, b, e1, e2, h4, h5⟩ := hr y hy
      rw [e1, e2]; exact ⟨h4, h5⟩
    · rcases List.mem_cons.1 hx with rfl | hx
      · rw [e]; exact hc
      · exact i3 x hx
theorem sortsTo_of {run : Int → Int → Option Int} {ks l : List Int} (hp : l.Perm ks) (h : chkS run l = true) : SortsTo run ks l := by
  obtain ⟨h1, h2, h3⟩ := chkS_ok h
  refine ⟨hp, fun x y => (run x y).getD 0, fun x hx y hy => ?_, h2, fun x hx => h3 x (hp.mem_iff.2 hx)⟩
  obtain ⟨a, e⟩ := h1 x (hp.mem_iff.2 hx) y (hp.mem_iff.2 hy)
  simp only
  rw [e]; rfl
/-- what sortK answers, reckoned -/
noncomputable def sortC (e : TypeId) (cmp : Int → Int → Option Int) (ks : List Int) (h : H) : Option (Value × H) := match ks with
  | [] => some (.slice none 0 0, h)
  | k :: ks' =>
    let l := srtI (fun x y => match cmp x y with | some c => decide (c < 0) | none => false) (k :: ks')
    bif (k :: ks').all (fun k => (Lit.int .i64 k).wf) && (decide ((k :: ks').length ≤ 1000000) && chkS cmp l) then some (.slice (some ⟨h.size, 0, some 0⟩) l.length (UNK 1), newAt (Abs.grow h 1) h.size (row e (l.map (.int .i64)))) else none
theorem nodup_of_chk {run : Int → Int → Option Int} {l : List Int} (h : chkS run l = true) : l.Nodup := by
  obtain ⟨h1, h2, h3⟩ := chkS_ok h
  refine h2.imp fun {x y} ⟨h4, h5⟩ e => ?_
  subst e; exact h5 h4
theorem sortC_ok {e : TypeId} {cmp : Int → Int → Option Int} {ks : List Int} {h : H} {r : Value × H} (hs : sortC e cmp ks h = some r) : sortK e cmp ks h = some r := by
  cases ks with
  | nil => rw [sortK_nil]; exact hs
  | cons k ks =>
    unfold sortC at hs
    simp only at hs
    generalize hl : srtI (fun x y => match cmp x y with | some c => decide (c < 0) | none => false) (k :: ks) = l at hs
    have hp : l.Perm (k :: ks) := by rw [← hl]; exact srtI_perm _ _
    cases hc : ((k :: ks).all (fun k => (Lit.int .i64 k).wf) && (decide ((k :: ks).length ≤ 1000000) && chkS cmp l)) <;> rw [hc] at hs
    · cases hs
    · rw [Bool.and_eq_true, Bool.and_eq_true, decide_eq_true_eq, List.all_eq_true] at hc
      obtain ⟨c1, c2, c3⟩ := hc
      rw [sortK_eq c1 (hp.nodup_iff.1 (nodup_of_chk c3)) (by omega) (sortsTo_of hp c3) (by simp)]
      exact hs
/-- the step, reckoned -/
noncomputable def ovSortedC (kf : FuncId) (e : TypeId) (run : FuncId → List Value → Int → Int → H → Option Int) (args : List Value) (h : H) : Option (Value × H) := match args with
  | [s, .func (.func g) first cap] => bif h.st then none else match keysA kf s h, first.toList with
    | some es, [] => match keyInts es with
      | some ks => sortC e (fun x y => run g cap.toList x y (roH h)) ks h
      | none => none
    | _, _ => none
  | _ => none
theorem ovSortedC_le {kf : FuncId} {e : TypeId} {run : FuncId → List Value → Int → Int → H → Option Int} {args : List Value} {h : H} {r : Value × H} (hs : ovSortedC kf e run args h = some r) : ovSorted kf e run args h = some r := by
  unfold ovSortedC at hs
  unfold ovSorted
  split at hs
  · rename_i s g first cap
    cases hst : h.st <;> rw [hst] at hs
    · simp only [cond_false] at hs ⊢
      split at hs
      · rename_i es hk hf
        rw [hk, hf]
        simp only
        split at hs
        · rename_i ks hi
          rw [hi]; exact sortC_ok hs
        · cases hs
      · cases hs
    · cases hs
  · cases hs
end Go.Abs

/- slices.Sorted over maps.Keys, as one step of the machine: the keys in order, in a new row. -/
namespace Go.Abs
open Go Go.Proofs Go.Sort Go.Maps
open Go.RowKit (Below)
def ltI (x y : Int) : Bool := decide (x < y)
/-- in order, each once -/
def incI : List Int → Bool
  | [] => true
  | x :: l => l.all (ltI x) && incI l
theorem incI_pw : ∀ {l : List Int}, incI l = true → l.Pairwise (fun x y => x < y)
  | [], _ => .nil
  | x :: l, h => by
    unfold incI at h
    rw [Bool.and_eq_true, List.all_eq_true] at h
    exact .cons (fun y hy => of_decide_eq_true (h.1 y hy)) (incI_pw h.2)
theorem sorted_inc {ks l ss : List Int} (hl : l.Perm ks) (hi : incI l = true) (hs : ss.Perm ks) : ss.mergeSort (fun x y => decide (x ≤ y)) = l := by
  have hp : (ss.mergeSort (fun x y => decide (x ≤ y))).Pairwise (fun x y => x ≤ y) := by
    have := List.pairwise_mergeSort (le := fun x y : Int => decide (x ≤ y)) (by intro a b c; simp; omega) (by intro a b; simp; omega) ss
    exact this.imp fun h => of_decide_eq_true h
  refine List.Perm.eq_of_pairwise (le := fun x y => x ≤ y) ?_ hp ((incI_pw hi).imp fun h => by omega) ((List.mergeSort_perm _ _).trans (hs.trans hl.symm))
  intro a b _ _ h1 h2; omega
noncomputable def sortS (e : TypeId) (ks : List Int) (h : H) : Option (Value × H) := match ks with
  | [] => some (.slice none 0 0, h)
  | k :: ks' =>
    let l := srtI ltI (k :: ks')
    bif (k :: ks').all (fun k => (Lit.int .i64 k).wf) && (decide ((k :: ks').length ≤ 1000000) && incI l) then some (.slice (some ⟨h.size, 0, some 0⟩) l.length (UNK 1), newAt (Abs.grow h 1) h.size (row e (l.map (.int .i64)))) else none
noncomputable def keysL (kfs : List FuncId) (v : Value) (h : H) : Option (FuncId × List (Value × Value)) := match kfs with
  | [] => none
  | k :: r => match keysA k v h with
    | some es => some (k, es)
    | none => keysL r v h
theorem keysL_ok {v : Value} {h : H} {kf : FuncId} {es : List (Value × Value)} : ∀ {kfs : List FuncId}, keysL kfs v h = some (kf, es) → kf ∈ kfs ∧ keysA kf v h = some es
  | [], e => by cases e
  | k :: r, e => by
    unfold keysL at e
    split at e
    · rename_i es' h1
      cases e
      exact ⟨.head _, h1⟩
    · have := keysL_ok e
      exact ⟨.tail _ this.1, this.2⟩
noncomputable def ovSortS (kfs : List FuncId) (e : TypeId) (args : List Value) (h : H) : Option (Value × H) := match args with
  | [s] => bif h.st then none else match keysL kfs s h with
    | some (_, es) => match keyInts es with
      | some ks => sortS e ks h
      | none => none
    | none => none
  | _ => none
section
variable {P : Program}
/-- what is asked of slices.Sorted at an iterator of keys -/
def WalkS (P : Program) (f kf : FuncId) (et : TypeId) : Prop := ∀ (S : List Int → Prop) (N : Nat), N ≤ maxLen → N * 8 ≤ 140737488355328 → ∀ (w : World) (c : Addr),
    SeqGives Fence.wide 2 P kf #[.pointer (some c)] encZ S N w → Calls P f #[.func (.func kf) #[] #[.pointer (some c)]] w fun e w' => ∃ (v : Value) (ss : List Int), e = .returned v ∧ S ss ∧
      w'.ownsRow w.heap.size et 1 v ss.length ((ss.mergeSort (fun x y => decide (x ≤ y))).map encZ) ∧ (v = .slice none 0 0 ↔ ss = []) ∧ Below w.heap.size w w'
theorem ovSortS_ok {f : FuncId} {kfs : List FuncId} {et : TypeId} (hk : ∀ kf ∈ kfs, ∃ σ : Go.Shelf.Ren, SlLaysZI.n10 P σ ∧ σ.f 10 = kf) (hwk : ∀ kf ∈ kfs, WalkS P f kf et) {e : TypeId} :
    ∀ args h v h', ovSortS kfs e args h = some (v, h') → (h' = h ∨ h.tick < h'.tick) ∧ ∀ (ρ : Abs.Ren) w (args' : Array Value), WR ρ h w → VRs ρ args args'.toList → Calls P f args' w (CallPost ρ h w v h') := by
  intro args h v h' ho
  unfold ovSortS at ho
  split at ho
  case h_2 => simp at ho
  rename_i s
  cases hst : h.st <;> rw [hst] at ho
  case true => simp at ho
  simp only [cond_false] at ho
  split at ho
  case h_2 => simp at ho
  rename_i kf es hkl
  obtain ⟨hmem, hka⟩ := keysL_ok hkl
  split at ho
  case h_2 => simp at ho
  rename_i ks hki
  have hinv : (ks = [] ∧ v = .slice none 0 0 ∧ h' = h) ∨ (ks ≠ [] ∧ (∀ k ∈ ks, (Lit.int .i64 k).wf = true) ∧ ks.Nodup ∧ ks.length * 8 ≤ 140737488355328 ∧ ∃ l, l.Perm ks ∧ incI l = true ∧ v = .slice (some ⟨h.size, 0, some 0⟩) l.length (UNK 1) ∧ h' = newAt (Abs.grow h 1) h.size (row e (l.map (.int .i64)))) := by
    cases ks with
    | nil => cases ho; exact .inl ⟨rfl, rfl, rfl⟩
    | cons k ks =>
      right
      unfold sortS at ho
      simp only at ho
      generalize hl : srtI ltI (k :: ks) = l at ho
      have hp : l.Perm (k :: ks) := by rw [← hl]; exact srtI_perm _ _
      cases hc : ((k :: ks).all (fun k => (Lit.int .i64 k).wf) && (decide ((k :: ks).length ≤ 1000000) && incI l)) <;> rw [hc] at ho
      · cases ho
      · rw [Bool.and_eq_true, Bool.and_eq_true, decide_eq_true_eq, List.all_eq_true] at hc
        obtain ⟨c1, c2, c3⟩ := hc
        cases ho
        refine ⟨by simp, c1, hp.nodup_iff.1 ((incI_pw c3).imp fun h => by omega), by omega, l, hp, c3, rfl, rfl⟩
  refine ⟨?_, ?_⟩
  · rcases hinv with ⟨_, _, rfl⟩ | ⟨_, _, _, _, l, _, _, _, rfl⟩
    · exact .inl rfl
    · exact .inr (by simp [newAt, Abs.grow])
  intro ρ w args' hw hargs
  obtain ⟨al⟩ := args'
  cases hargs with
  | cons q1 q2 =>
  cases q2
  obtain ⟨B, O, rfl, hB, hcell⟩ := keysA_ok hw q1 hka
  obtain ⟨σ, L, hσ⟩ := hk kf hmem
  have bound : ks.length ≤ maxLen ∧ ks.length * 8 ≤ 140737488355328 := by
    rcases hinv with ⟨rfl, _⟩ | ⟨_, _, _, h3, _⟩
    · exact ⟨Nat.zero_le _, Nat.zero_le _⟩
    · exact ⟨by unfold maxLen; omega, h3⟩
  have gives : SeqGives Fence.wide 2 P kf #[.pointer (some ⟨B, O, none⟩)] encZ (fun ss : List Int => ss.Perm ks) ks.length w := by
    rcases hcell with ⟨c1, rfl⟩ | ⟨r, L0, c1, c2, c3⟩
    · cases hki
      have := keysO_gives_nil L Fence.wide 2 trivial rfl B O w hB c1
      rw [hσ] at this
      intro l J W hW hJ hY h0
      exact (this l J W hW hJ hY h0).mono fun e W' ⟨a, xs, b, c⟩ => ⟨a, xs, b ▸ .refl _, c⟩
    · have k1 : (∀ k ∈ ks, (Lit.int .i64 k).wf = true) ∧ ks.Nodup := by
        rcases hinv with ⟨rfl, _⟩ | ⟨_, h1, h2, _⟩
        · exact ⟨(fun _ h => nomatch h), List.nodup_nil⟩
        · exact ⟨h1, h2⟩
      obtain ⟨D0, d1, d2, d3⟩ := map_owned (P := P) hw c2 c3 hki k1.1 k1.2 bound.1 (kt := σ.t 26) L.t26
      have := keysO_gives L Fence.wide 2 trivial rfl (by omega) B O L0.cb es.length D0 w hB c1 d1
      rw [hσ, d3] at this
      intro l J W hW hJ hY h0
      exact (this l J W hW hJ hY h0).mono fun e W' ⟨a, xs, b, c⟩ => ⟨a, xs, b.trans d2, c⟩
  refine (hwk kf hmem _ ks.length bound.1 bound.2 w ⟨B, O, none⟩ gives).mono ?_
  rintro e' w' ⟨v', ss, rfl, hS, hrow, hnil, hb⟩
  rcases hinv with ⟨hks, rfl, rfl⟩ | ⟨hne, k1, k2, k3, l, hp, hi, rfl, rfl⟩
  · subst hks
    obtain rfl : ss = [] := List.perm_nil.1 hS
    obtain rfl := hnil.2 rfl
    exact ⟨_, ρ, rfl, .slice0, hw.base hb.size hb.block, ⟨Abs.Ren.le_refl _, rfl, Nat.le_refl _, fun _ _ => Iff.rfl, fun _ _ _ a b => by rw [a] at b; simp at b, fun _ _ _ a b => by rw [a] at b; simp at b, hb.size, fun b hlt _ => hb.block b hlt, hb.os, hb.tape, hb.output, rfl, fun x => by rw [hst] at x; cases x⟩⟩
  · rw [sorted_inc hp hi hS] at hrow
    obtain ⟨r1, r2⟩ := hrow
    have hlen : ss.length = l.length := by rw [hS.length_eq, hp.length_eq]
    rcases r2 with ⟨rfl, hz⟩ | ⟨gb, cap, cur, rfl, hgb, hcur, s1, s2, s3, s4⟩
    · exfalso
      have : ss = [] := List.eq_nil_of_length_eq_zero hz
      subst this
      exact hne (List.perm_nil.1 hS.symm)
    · obtain ⟨g1, g2⟩ := hw.row_at hb.size hb.block hb.os hb.tape hb.output hst hgb hcur (.inl rfl) (l := l.map (Value.int .i64)) (l' := l.map (Value.int .i64)) (vrs_ints l) (by
        intro i u hu
        have h2 : (l.map encZ)[i]? = some u := hu
        rw [← s4, List.getElem?_take] at h2
        split at h2
        · simpa using h2
        · cases h2) e
      refine ⟨_, _, rfl, ?_, g1, g2⟩
      rw [hlen]
      refine VR_slice_unk (by unfold B63; omega) (updR_self ρ h.size 0 _) (by omega) (by rw [s3]; omega) (by simp; omega)
end
end Go.Abs

/- A closed law's run, call by call: what a call was seen to answer at a heap, a later run takes as it is. -/
namespace Go.Abs
open Go
/-! equal, reckoned -/
def kIx : IntKind → Nat
  | .i8 => 0 | .i16 => 1 | .i32 => 2 | .i64 => 3 | .u8 => 4 | .u16 => 5 | .u32 => 6 | .u64 => 7
theorem kIx_eq {a b : IntKind} (h : (kIx a).beq (kIx b) = true) : a = b := by
  have := Nat.eq_of_beq_eq_true h
  cases a <;> cases b <;> first | rfl | (simp [kIx] at this)
def iEq : Int → Int → Bool
  | .ofNat a, .ofNat b => a.beq b
  | .negSucc a, .negSucc b => a.beq b
  | _, _ => false
theorem iEq_eq {a b : Int} (h : iEq a b = true) : a = b := by
  cases a <;> cases b <;> simp only [iEq] at h <;> first | (rw [Nat.eq_of_beq_eq_true h]) | cases h
def oEq : Option Nat → Option Nat → Bool
  | none, none => true
  | some a, some b => a.beq b
  | _, _ => false
theorem oEq_eq {a b : Option Nat} (h : oEq a b = true) : a = b := by
  cases a <;> cases b <;> simp only [oEq] at h <;> first | rfl | (rw [Nat.eq_of_beq_eq_true h]) | cases h
def adEq (a b : Addr) : Bool := a.block.beq b.block && (a.off.beq b.off && oEq a.spot b.spot)
theorem adEq_eq {a b : Addr} (h : adEq a b = true) : a = b := by
  unfold adEq at h
  rw [Bool.and_eq_true, Bool.and_eq_true] at h
  obtain ⟨x, y, z⟩ := a
  obtain ⟨x', y', z'⟩ := b
  rw [show x = x' from Nat.eq_of_beq_eq_true h.1, show y = y' from Nat.eq_of_beq_eq_true h.2.1, show z = z' from oEq_eq h.2.2]
def aoEq : Option Addr → Option Addr → Bool
  | none, none => true
  | some a, some b => adEq a b
  | _, _ => false
theorem aoEq_eq {a b : Option Addr} (h : aoEq a b = true) : a = b := by
  cases a <;> cases b <;> simp only [aoEq] at h <;> first | rfl | (rw [adEq_eq h]) | cases h
def vEq : Value → Value → Bool
  | .int k a, .int k' b => (kIx k).beq (kIx k') && iEq a b
  | .pointer a, .pointer b => aoEq a b
  | .slice a l c, .slice a' l' c' => l.beq l' && (c.beq c' && aoEq a a')
  | .map a, .map b => oEq a b
  | a, b => veq a b
theorem vEq_eq {a b : Value} (h : vEq a b = true) : a = b := by
  unfold vEq at h
  split at h
  · rw [Bool.and_eq_true] at h; rw [kIx_eq h.1, iEq_eq h.2]
  · rw [aoEq_eq h]
  · rw [Bool.and_eq_true, Bool.and_eq_true] at h
    rw [show _ = _ from Nat.eq_of_beq_eq_true h.1, show _ = _ from Nat.eq_of_beq_eq_true h.2.1, aoEq_eq h.2.2]
  · rw [oEq_eq h]
  · exact veqN_eq 4 _ _ h
def cEq (a b : Cell) : Bool := a.lo.beq b.lo && vEq a.v b.v
theorem cEq_eq {a b : Cell} (h : cEq a b = true) : a = b := by
  unfold cEq at h
  rw [Bool.and_eq_true] at h
  obtain ⟨v, l⟩ := a
  obtain ⟨v', l'⟩ := b
  rw [show l = l' from Nat.eq_of_beq_eq_true h.1, show v = v' from vEq_eq h.2]
def trEq {α : Type} (eq : α → α → Bool) : Tr α → Tr α → Bool
  | .leaf, .leaf => true
  | .node l v r, .node l' v' r' => (match v, v' with
    | none, none => true
    | some a, some b => eq a b
    | _, _ => false) && (trEq eq l l' && trEq eq r r')
  | _, _ => false
theorem trEq_eq {α : Type} {eq : α → α → Bool} (he : ∀ a b, eq a b = true → a = b) : ∀ {a b : Tr α}, trEq eq a b = true → a = b
  | .leaf, .leaf, _ => rfl
  | .leaf, .node _ _ _, h => by simp [trEq] at h
  | .node _ _ _, .leaf, h => by simp [trEq] at h
  | .node l v r, .node l' v' r', h => by
    unfold trEq at h
    rw [Bool.and_eq_true, Bool.and_eq_true] at h
    obtain ⟨h1, h2, h3⟩ := h
    rw [trEq_eq he h2, trEq_eq he h3]
    split at h1
    · rfl
    · rw [he _ _ h1]
    · cases h1
def eEq (x y : Value × Value) : Bool := vEq x.1 y.1 && vEq x.2 y.2
theorem eEq_eq {x y : Value × Value} (h : eEq x y = true) : x = y := by
  unfold eEq at h
  rw [Bool.and_eq_true] at h
  exact Prod.ext (vEq_eq h.1) (vEq_eq h.2)
theorem allB_eq' {α : Type} {f : α → α → Bool} (hf : ∀ a b, f a b = true → a = b) : ∀ {x y : List α}, allB f x y = true → x = y
  | [], [], _ => rfl
  | [], _ :: _, h => by simp [allB] at h
  | _ :: _, [], h => by simp [allB] at h
  | a :: x, b :: y, h => by
    unfold allB at h
    rw [Bool.and_eq_true] at h
    rw [hf _ _ h.1, allB_eq' hf h.2]
def obEq : AObj → AObj → Bool
  | .arr a, .arr b => a.size.beq b.size && (a.ver.beq b.ver && (a.elem.beq b.elem && trEq cEq a.cells b.cells))
  | .map x, .map y => allB eEq x y
  | _, _ => false
theorem obEq_eq {a b : AObj} (h : obEq a b = true) : a = b := by
  unfold obEq at h
  split at h
  · rename_i a b
    rw [Bool.and_eq_true, Bool.and_eq_true, Bool.and_eq_true] at h
    obtain ⟨e, s, v, c⟩ := a
    obtain ⟨e', s', v', c'⟩ := b
    rw [show s = s' from Nat.eq_of_beq_eq_true h.1, show v = v' from Nat.eq_of_beq_eq_true h.2.1, show e = e' from Nat.eq_of_beq_eq_true h.2.2.1, show c = c' from trEq_eq (fun _ _ => cEq_eq) h.2.2.2]
  · rw [allB_eq' (fun _ _ => eEq_eq) h]
  · cases h
def hEq (a b : H) : Bool := a.tick.beq b.tick && (a.size.beq b.size && (a.nro.beq b.nro && ((a.st == b.st) && trEq obEq a.objs b.objs)))
theorem hEq_eq {a b : H} (h : hEq a b = true) : a = b := by
  unfold hEq at h
  rw [Bool.and_eq_true, Bool.and_eq_true, Bool.and_eq_true, Bool.and_eq_true] at h
  obtain ⟨h1, h2, h3, h4, h5⟩ := h
  obtain ⟨s, t, n, o, st⟩ := a
  obtain ⟨s', t', n', o', st'⟩ := b
  rw [show s = s' from Nat.eq_of_beq_eq_true h2, show t = t' from Nat.eq_of_beq_eq_true h1, show n = n' from Nat.eq_of_beq_eq_true h3, show st = st' from eq_of_beq h4, show o = o' from trEq_eq (fun _ _ => obEq_eq) h5]
/-! heaps written short -/
def setO : Tr AObj → List (Nat × AObj) → Tr AObj
  | t, [] => t
  | t, (n, o) :: l => setO (t.set n o) l
theorem setO_none : ∀ (l : List (Nat × AObj)) (t : Tr AObj) (A : Nat), (setO t l).get A = none → t.get A = none ∧ ∀ p ∈ l, p.1 ≠ A
  | [], t, A, h => ⟨h, fun _ h => nomatch h⟩
  | (n, o) :: l, t, A, h => by
    obtain ⟨h1, h2⟩ := setO_none l _ A h
    rw [Tr.get_set] at h1
    split at h1
    · cases h1
    · rename_i hA
      exact ⟨h1, List.forall_mem_cons.2 ⟨fun e => hA e.symm, h2⟩⟩
theorem setO_get : ∀ (l : List (Nat × AObj)) (t : Tr AObj) (A : Nat), (∀ p ∈ l, p.1 ≠ A) → (setO t l).get A = t.get A
  | [], t, A, h => rfl
  | (n, o) :: l, t, A, h => by
    unfold setO
    rw [setO_get l _ A (fun p hp => h p (.tail _ hp)), Tr.get_set, if_neg (fun e => h _ (.head _) e.symm)]
/-- the first one's objects are the second one's -/
def subT : Tr AObj → Tr AObj → Bool
  | .leaf, _ => true
  | .node l v r, t => (match v with
    | none => true
    | some a => match t.val with
      | some b => obEq a b
      | none => false) && (subT l t.left && subT r t.right)
theorem subT_ok : ∀ {t t' : Tr AObj}, subT t t' = true → ∀ A ob, t.get A = some ob → t'.get A = some ob
  | .leaf, _, _, A, ob, h => by cases h
  | .node l v r, t', h, A, ob, hg => by
    unfold subT at h
    rw [Bool.and_eq_true, Bool.and_eq_true] at h
    obtain ⟨h1, h2, h3⟩ := h
    rw [Tr.get_node] at hg ⊢
    simp only [Tr.val, Tr.left, Tr.right] at hg
    by_cases a0 : A = 0
    · rw [nbeq_t a0] at hg ⊢
      simp only [cond_true] at hg ⊢
      subst hg
      simp only at h1
      cases hb : t'.val with
      | none => rw [hb] at h1; cases h1
      | some b => rw [hb] at h1; rw [obEq_eq h1]
    · rw [nbeq_f a0] at hg ⊢
      simp only [cond_false] at hg ⊢
      by_cases a1 : A % 2 = 1
      · rw [nbeq_t a1] at hg ⊢
        exact subT_ok h2 _ _ hg
      · rw [nbeq_f a1] at hg ⊢
        exact subT_ok h3 _ _ hg
/-! what was seen -/
structure Seen where
  f : FuncId
  args : List Value
  h : H
  v : Value
  size : Nat
  tick : Nat
  ch : List (Nat × AObj)
def Seen.h' (e : Seen) : H := ⟨e.size, e.tick, e.h.nro, setO e.h.objs e.ch, e.h.st⟩
def Seen.ok (e : Seen) (r : Option (Value × H)) : Bool := match r with
  | some (u, k) => k.tick.beq e.tick && (k.size.beq e.size && (vEq u e.v && (e.h.tick.blt e.tick && (e.ch.all (fun p => e.h.size.ble p.1 || (e.h.objs.get p.1).isSome) && subT (setO e.h.objs e.ch) k.objs))))
  | none => false
def lookS (f : FuncId) (args : List Value) (h : H) : List Seen → Option (Value × H)
  | [] => none
  | e :: M => bif e.f.beq f && (e.h.tick.beq h.tick && (allB vEq e.args args && hEq e.h h)) then some (e.v, e.h') else lookS f args h M
theorem lookS_ok {f : FuncId} {args : List Value} {h : H} {r : Value × H} : ∀ {M : List Seen}, lookS f args h M = some r → ∃ e ∈ M, e.f = f ∧ e.args = args ∧ e.h = h ∧ r = (e.v, e.h')
  | [], x => by cases x
  | e :: M, x => by
    unfold lookS at x
    cases hc : (e.f.beq f && (e.h.tick.beq h.tick && (allB vEq e.args args && hEq e.h h))) <;> rw [hc] at x
    · obtain ⟨e', h1, h2⟩ := lookS_ok x
      exact ⟨e', .tail _ h1, h2⟩
    · rw [Bool.and_eq_true, Bool.and_eq_true, Bool.and_eq_true] at hc
      cases x
      exact ⟨e, .head _, Nat.eq_of_beq_eq_true hc.1, allB_eq' (fun _ _ => vEq_eq) hc.2.2.1, hEq_eq hc.2.2.2, rfl⟩
def DSn (D : Data) (N : Nat) (M : List Seen) : Data := { D with ov := fun g => match D.ov g with
  | some o => some o
  | none => bif M.any (fun e => e.f.beq g) then some (fun args h => match lookS g args h M with
    | some r => some r
    | none => callA D N g args h) else none }
section
variable {P : Program}
def SeenOK (P : Program) (f : FuncId) (args : List Value) (h : H) (v : Value) (h' : H) : Prop := (h' = h ∨ h.tick < h'.tick) ∧ ∀ ρ w (args' : Array Value), WR ρ h w → VRs ρ args args'.toList → Calls P f args' w (CallPost ρ h w v h')
def Seen.Is (P : Program) (e : Seen) : Prop := SeenOK P e.f e.args e.h e.v e.h'
theorem dm_dok {D : Data} (hD : DOk P D) (N : Nat) (M : List Seen) : DOk P (DSn D N M) := ⟨fun f F h => hD.1 f F h, fun t i h => hD.2 t i h, fun t i h hf => hD.3 t i h hf, hD.4⟩
theorem call_seen {D : Data} (hD : DOk P D) (hov : OvOK P D) {N : Nat} {f : FuncId} {args : List Value} {h : H} {v : Value} {h' : H} (x : callA D N f args h = some (v, h')) : SeenOK P f args h v h' :=
  ⟨callW_tick hov (exec_ok hD hov N).2 f args h v h' x, fun ρ w args' hw ha => callA_ok hD hov N f args h v h' x ρ w args' hw ha⟩
theorem dm_ov {D : Data} (hD : DOk P D) (hov : OvOK P D) {N : Nat} {M : List Seen} (hM : ∀ e ∈ M, e.Is P) : OvOK P (DSn D N M) := by
  intro f g hg args h v h' hr
  unfold DSn at hg
  simp only at hg
  split at hg
  · rename_i o ho
    cases hg
    exact hov f _ ho args h v h' hr
  · cases ha : M.any (fun e => e.f.beq f) <;> rw [ha] at hg
    · cases hg
    · cases hg
      simp only at hr
      split at hr
      · rename_i r hl
        cases hr
        obtain ⟨e, he, rfl, rfl, rfl, h4⟩ := lookS_ok hl
        cases h4
        exact hM e he
      · exact call_seen hD hov hr
theorem seen_of {D : Data} (hD : DOk P D) (hov : OvOK P D) {N n : Nat} {M : List Seen} (hM : ∀ e ∈ M, e.Is P) {e : Seen} (x : e.ok (callA (DSn D N M) n e.f e.args e.h) = true) : e.Is P := by
  unfold Seen.ok at x
  split at x
  case h_2 => cases x
  rename_i u k hk
  simp only [Bool.and_eq_true] at x
  obtain ⟨x1, x2, x3, x4, x5, x6⟩ := x
  obtain rfl := vEq_eq x3
  have hs := call_seen (dm_dok hD N M) (dm_ov hD hov hM) hk
  refine ⟨.inr ?_, fun ρ w args' hw ha => ?_⟩
  · show e.h.tick < e.tick
    exact Nat.le_of_ble_eq_true x4
  refine (hs.2 ρ w args' hw ha).mono ?_
  rintro r w' ⟨v', ρ', rfl, p1, p2, p3⟩
  have hsz : e.size = k.size := (Nat.eq_of_beq_eq_true x2).symm
  refine ⟨v', ρ', rfl, p1, p2.sub hsz p3.nro.symm (subT_ok x6), p3.post p3.nro.symm p3.st.symm (by show e.h.size ≤ e.size; rw [hsz]; exact p3.size) fun A hA => ?_⟩
  rw [p3.pres A hA]
  constructor
  · intro h; exact (setO_none _ _ _ h).1
  · intro h
    refine (setO_get _ _ _ ?_).trans h
    intro p hp hpA
    have := List.all_eq_true.1 x5 p hp
    rw [Bool.or_eq_true] at this
    rcases this with h1 | h1
    · have := Nat.le_of_ble_eq_true h1; omega
    · rw [hpA, h] at h1; cases h1
theorem seen_nil : ∀ e ∈ ([] : List Seen), e.Is P := fun _ h => nomatch h
theorem seen_cons {e : Seen} {M : List Seen} (h : e.Is P) (t : ∀ e ∈ M, e.Is P) : ∀ x ∈ e :: M, x.Is P := List.forall_mem_cons.2 ⟨h, t⟩
end
end Go.Abs
