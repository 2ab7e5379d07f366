/- A machine without capacities, orders and tapes runs the program's code; what it answers, every run of the model answers (closed laws). -/
import Derived.Test.YtaebjajbogedkaaAbsD
set_option linter.unusedVariables false
set_option linter.unusedSimpArgs false
/- A closed law, by the machine's run. -/
namespace Go.Abs
open Go Go.RowKit
def H0 : H := ⟨0, 0, 0, .leaf, false⟩
def isTrue : Option (Value × H) → Bool
  | some (.bool true, _) => true
  | _ => false
theorem closed_law {P : Program} {D : Data} (hD : DOk P D) (hov : OvOK P D) {n f : Nat} (h : isTrue (callA D n f [] H0) = true) (W : World) : Calls P f #[] W fun e w' => e = .returned (.bool true) ∧ Below W.heap.size W w' := by
  unfold isTrue at h
  split at h
  · rename_i h' hc
    have hw : WR (fun _ _ => none) H0 W := ⟨fun A e L x => by simp at x, fun A e L A' e' L' x => by simp at x, fun A ob x => by simp [H0, Tr.get] at x, fun A ob x => by simp [H0, Tr.get] at x, Nat.le_refl _⟩
    refine (callA_ok hD hov n f [] H0 _ _ hc _ W #[] hw .nil).mono ?_
    rintro e w' ⟨v', ρ', rfl, hv, hwr, hx⟩
    cases hv
    exact ⟨rfl, hx.os, hx.tape, hx.output, hx.grow, fun b hb => hx.frame b hb fun A e L x => by simp at x⟩
  · simp at h
end Go.Abs
namespace Go.Abs
open Go
theorem intsEq_shape : ∀ (xs ys : List Value) (b : Bool), intsEq xs ys = some b → ∃ l : List (IntKind × Int × Int), xs = l.map (fun p => .int p.1 p.2.1) ∧ ys = l.map (fun p => .int p.1 p.2.2) ∧ b = l.all (fun p => p.2.1 == p.2.2)
  | [], [], b, h => ⟨[], rfl, rfl, (Option.some.inj h).symm⟩
  | [], _ :: _, b, h => by simp [intsEq] at h
  | x :: xs, [], b, h => by cases x <;> simp [intsEq] at h
  | x :: xs, y :: ys, b, h => by
    cases x <;> try (simp [intsEq] at h; done)
    cases y <;> try (simp [intsEq] at h; done)
    rename_i k n k' m
    unfold intsEq at h
    by_cases hk : k = k'
    · subst hk
      simp only [decide_true, Bool.not_true, cond_false, Option.map_eq_some_iff] at h
      obtain ⟨r, hr, hb⟩ := h
      obtain ⟨l, h1, h2, h3⟩ := intsEq_shape xs ys r hr
      exact ⟨(k, n, m) :: l, by simp [h1], by simp [h2], by rw [← hb, h3]; rfl⟩
    · simp [hk] at h
theorem equalIn_int {P : Program} {t : TypeId} {k0 : IntKind} (hu : P.underlying t = some (.int k0)) (d : Nat) (k : IntKind) (a b : Int) (w : World) : (Op.equalIn (d + 1) t (.int k a) (.int k b)).run P w = .ok (a == b) w := by
  simp [Op.equalIn, run_underlying hu]
theorem part_int {P : Program} {t : TypeId} {k0 : IntKind} (hu : P.underlying t = some (.int k0)) (cs : Array Value) (i : Nat) (v : Value) (h : cs[i]? = some v) (w : World) : (part t cs i).run P w = .ok v w := by
  unfold part isAgg
  simp [run_underlying hu, h]
/-- an array of two whole numbers -/
theorem flat_array2 {P : Program} {t e : TypeId} {k0 : IntKind} {inf : TypeInfo} (hu : P.underlying t = some (.array 2 e)) (he : P.underlying e = some (.int k0)) (hi : P.info? e = some inf) (hs : inf.size = 1) (xs ys : List Value) (b : Bool) (hl : xs.length = 2) (hb : intsEq xs ys = some b) (w : World)
    (hg : P.eqGuardType P.depth t = false) : (Op.equal t (.agg xs.toArray) (.agg ys.toArray)).run P w = .ok b w ∧ ∀ op x y, (eqGuard op t x y (.agg xs.toArray) (.agg ys.toArray)).run P w = .ok () w := by
  refine ⟨?_, ?_⟩
  · obtain ⟨l, rfl, rfl, rfl⟩ := intsEq_shape xs ys b hb
    match l, hl with
    | [(k1, a1, b1), (k2, a2, b2)], _ =>
      have p1 : ∀ w, (part e #[Value.int k1 a1, .int k2 a2] 0).run P w = .ok (.int k1 a1) w := fun w => part_int he _ _ _ rfl w
      have p2 : ∀ w, (part e #[Value.int k1 a1, .int k2 a2] 1).run P w = .ok (.int k2 a2) w := fun w => part_int he _ _ _ rfl w
      have q1 : ∀ w, (part e #[Value.int k1 b1, .int k2 b2] 0).run P w = .ok (.int k1 b1) w := fun w => part_int he _ _ _ rfl w
      have q2 : ∀ w, (part e #[Value.int k1 b1, .int k2 b2] 1).run P w = .ok (.int k2 b2) w := fun w => part_int he _ _ _ rfl w
      have key : ∀ d, (Op.equalIn (d + 1 + 1) t (.agg #[Value.int k1 a1, .int k2 a2]) (.agg #[Value.int k1 b1, .int k2 b2])).run P w = .ok (a1 == b1 && (a2 == b2 && true)) w := by
        intro d
        rw [Op.equalIn]
        simp only [Sem.run_bind, run_underlying hu, Result.andThen_ok]
        simp [Go.sizeOf, typeInfo, hi, hs, p1, p2, q1, q2, equalIn_int he, Std.Legacy.Range.forIn_eq_forIn_range', List.range']
        by_cases h1 : a1 = b1 <;> by_cases h2 : a2 = b2 <;> simp [h1, h2, p1, p2, q1, q2, equalIn_int he]
      exact key 9998
  · intro op x y
    unfold eqGuard
    cases op <;> simp [hg]
/-- a struct of five whole numbers -/
theorem flat_struct5 {P : Program} {t e : TypeId} {k0 : IntKind} {f0 f1 f2 f3 f4 : Field} (hu : P.underlying t = some (.struct #[f0, f1, f2, f3, f4])) (he : P.underlying e = some (.int k0))
    (t0 : f0.type = e ∧ f1.type = e ∧ f2.type = e ∧ f3.type = e ∧ f4.type = e) (o : f0.offset = 0 ∧ f1.offset = 1 ∧ f2.offset = 2 ∧ f3.offset = 3 ∧ f4.offset = 4)
    (nm : f0.name ≠ "_" ∧ f1.name ≠ "_" ∧ f2.name ≠ "_" ∧ f3.name ≠ "_" ∧ f4.name ≠ "_") (hst : P.stoodInHeld t = false) (xs ys : List Value) (b : Bool) (hl : xs.length = 5) (hb : intsEq xs ys = some b) (w : World)
    (hg : P.eqGuardType P.depth t = false) : (Op.equal t (.agg xs.toArray) (.agg ys.toArray)).run P w = .ok b w ∧ ∀ op x y, (eqGuard op t x y (.agg xs.toArray) (.agg ys.toArray)).run P w = .ok () w := by
  refine ⟨?_, ?_⟩
  · obtain ⟨l, rfl, rfl, rfl⟩ := intsEq_shape xs ys b hb
    match l, hl with
    | [(k1, a1, b1), (k2, a2, b2), (k3, a3, b3), (k4, a4, b4), (k5, a5, b5)], _ =>
      have pp : ∀ (i : Nat) (v : Value), (#[Value.int k1 a1, .int k2 a2, .int k3 a3, .int k4 a4, .int k5 a5] : Array Value)[i]? = some v → ∀ w, (part e #[Value.int k1 a1, .int k2 a2, .int k3 a3, .int k4 a4, .int k5 a5] i).run P w = .ok v w := fun i v h w => part_int he _ _ _ h w
      have qq : ∀ (i : Nat) (v : Value), (#[Value.int k1 b1, .int k2 b2, .int k3 b3, .int k4 b4, .int k5 b5] : Array Value)[i]? = some v → ∀ w, (part e #[Value.int k1 b1, .int k2 b2, .int k3 b3, .int k4 b4, .int k5 b5] i).run P w = .ok v w := fun i v h w => part_int he _ _ _ h w
      have p0 := pp 0 _ rfl
      have p1 := pp 1 _ rfl
      have p2 := pp 2 _ rfl
      have p3 := pp 3 _ rfl
      have p4 := pp 4 _ rfl
      have q0 := qq 0 _ rfl
      have q1 := qq 1 _ rfl
      have q2 := qq 2 _ rfl
      have q3 := qq 3 _ rfl
      have q4 := qq 4 _ rfl
      clear pp qq
      obtain ⟨t0, t1, t2, t3, t4⟩ := t0
      obtain ⟨o0, o1, o2, o3, o4⟩ := o
      obtain ⟨n0, n1, n2, n3, n4⟩ := nm
      have key : ∀ d, (Op.equalIn (d + 1 + 1) t (.agg #[Value.int k1 a1, .int k2 a2, .int k3 a3, .int k4 a4, .int k5 a5]) (.agg #[Value.int k1 b1, .int k2 b2, .int k3 b3, .int k4 b4, .int k5 b5])).run P w = .ok (a1 == b1 && (a2 == b2 && (a3 == b3 && (a4 == b4 && (a5 == b5 && true))))) w := by
        intro d
        rw [Op.equalIn]
        simp only [Sem.run_bind, run_underlying hu, Result.andThen_ok]
        simp [hst, t0, t1, t2, t3, t4, o0, o1, o2, o3, o4, n0, n1, n2, n3, n4, p0, p1, p2, p3, p4, q0, q1, q2, q3, q4, equalIn_int he]
        by_cases h1 : a1 = b1 <;> by_cases h2 : a2 = b2 <;> by_cases h3 : a3 = b3 <;> by_cases h4 : a4 = b4 <;> by_cases h5 : a5 = b5 <;> simp [h1, h2, h3, h4, h5]
      exact key 9998
  · intro op x y
    unfold eqGuard
    cases op <;> simp [hg]
/-- a struct of two whole numbers -/
theorem flat_struct2 {P : Program} {t e : TypeId} {k0 : IntKind} {f0 f1 : Field} (hu : P.underlying t = some (.struct #[f0, f1])) (he : P.underlying e = some (.int k0))
    (t0 : f0.type = e ∧ f1.type = e) (o : f0.offset = 0 ∧ f1.offset = 1)
    (nm : f0.name ≠ "_" ∧ f1.name ≠ "_") (hst : P.stoodInHeld t = false) (xs ys : List Value) (b : Bool) (hl : xs.length = 2) (hb : intsEq xs ys = some b) (w : World)
    (hg : P.eqGuardType P.depth t = false) : (Op.equal t (.agg xs.toArray) (.agg ys.toArray)).run P w = .ok b w ∧ ∀ op x y, (eqGuard op t x y (.agg xs.toArray) (.agg ys.toArray)).run P w = .ok () w := by
  refine ⟨?_, ?_⟩
  · obtain ⟨l, rfl, rfl, rfl⟩ := intsEq_shape xs ys b hb
    match l, hl with
    | [(k1, a1, b1), (k2, a2, b2)], _ =>
      have pp : ∀ (i : Nat) (v : Value), (#[Value.int k1 a1, .int k2 a2] : Array Value)[i]? = some v → ∀ w, (part e #[Value.int k1 a1, .int k2 a2] i).run P w = .ok v w := fun i v h w => part_int he _ _ _ h w
      have qq : ∀ (i : Nat) (v : Value), (#[Value.int k1 b1, .int k2 b2] : Array Value)[i]? = some v → ∀ w, (part e #[Value.int k1 b1, .int k2 b2] i).run P w = .ok v w := fun i v h w => part_int he _ _ _ h w
      have p0 := pp 0 _ rfl
      have p1 := pp 1 _ rfl
      have q0 := qq 0 _ rfl
      have q1 := qq 1 _ rfl
      clear pp qq
      obtain ⟨t0, t1⟩ := t0
      obtain ⟨o0, o1⟩ := o
      obtain ⟨n0, n1⟩ := nm
      have key : ∀ d, (Op.equalIn (d + 1 + 1) t (.agg #[Value.int k1 a1, .int k2 a2]) (.agg #[Value.int k1 b1, .int k2 b2])).run P w = .ok (a1 == b1 && (a2 == b2 && true)) w := by
        intro d
        rw [Op.equalIn]
        simp only [Sem.run_bind, run_underlying hu, Result.andThen_ok]
        simp [hst, t0, t1, o0, o1, n0, n1, p0, p1, q0, q1, equalIn_int he]
        by_cases h1 : a1 = b1 <;> by_cases h2 : a2 = b2 <;> simp [h1, h2]
      exact key 9998
  · intro op x y
    unfold eqGuard
    cases op <;> simp [hg]
def isIntV : Value → Bool
  | .int _ _ => true
  | _ => false
theorem cellsEq_ints : ∀ (zs xs ys : List Value) (b : Bool), zs.all isIntV = true → cellsEq zs xs ys = some b → intsEq xs ys = some b
  | [], [], [], b, _, h => h
  | [], [], _ :: _, b, _, h => by simp [cellsEq] at h
  | [], _ :: _, _, b, _, h => by simp [cellsEq] at h
  | z :: zs, [], _, b, _, h => by cases z <;> simp [cellsEq] at h
  | z :: zs, x :: xs, [], b, _, h => by cases z <;> cases x <;> simp [cellsEq] at h
  | z :: zs, x :: xs, y :: ys, b, hz, h => by
    simp only [List.all_cons, Bool.and_eq_true] at hz
    cases z <;> try (simp [isIntV] at hz; done)
    cases x <;> try (simp [cellsEq] at h; done)
    cases y <;> try (simp [cellsEq] at h; done)
    rename_i k n k' m
    unfold cellsEq at h
    unfold intsEq
    by_cases hk : k = k'
    · simp only [hk, decide_true, Bool.not_true, cond_false, Option.map_eq_some_iff] at h ⊢
      obtain ⟨r, hr, hb⟩ := h
      exact ⟨r, cellsEq_ints zs xs ys r hz.2 hr, hb⟩
    · simp [hk] at h
theorem ba_beq (a b : ByteArray) : (a == b) = (a.toList == b.toList) := by
  rw [ByteArray.toList_eq, ByteArray.toList_eq]
  obtain ⟨a⟩ := a
  obtain ⟨b⟩ := b
  have e1 : ((⟨a⟩ : ByteArray) == (⟨b⟩ : ByteArray)) = (a == b) := rfl
  rw [e1]
  by_cases h : a = b
  · subst h; simp
  · have h2 : a.toList ≠ b.toList := fun e => h (Array.ext' e)
    rw [beq_eq_false_iff_ne.2 h, beq_eq_false_iff_ne.2 h2]
theorem equalIn_str {P : Program} {t : TypeId} (hu : P.underlying t = some .string) (d : Nat) (a b : ByteArray) (w : World) : (Op.equalIn (d + 1) t (.string a) (.string b)).run P w = .ok (a.toList == b.toList) w := by
  rw [← ba_beq]
  simp [Op.equalIn, run_underlying hu]
theorem part_str {P : Program} {t : TypeId} (hu : P.underlying t = some .string) (cs : Array Value) (i : Nat) (v : Value) (h : cs[i]? = some v) (w : World) : (part t cs i).run P w = .ok v w := by
  unfold part isAgg
  simp [run_underlying hu, h]
theorem cellsEq_3s (z1 z2 z3 z4 : Value) (h1 : isIntV z1 = true) (h2 : isIntV z2 = true) (h3 : isIntV z3 = true) (h4 : ∃ s, z4 = .string s) {xs ys : List Value} {b : Bool} (h : cellsEq [z1, z2, z3, z4] xs ys = some b) :
    ∃ k1 k2 k3 a1 a2 a3 s b1 b2 b3 s', xs = [.int k1 a1, .int k2 a2, .int k3 a3, .string s] ∧ ys = [.int k1 b1, .int k2 b2, .int k3 b3, .string s'] ∧ b = (a1 == b1 && (a2 == b2 && (a3 == b3 && ((s.toList == s'.toList) && true)))) := by
  obtain ⟨s4, rfl⟩ := h4
  have step : ∀ {z : Value} {zs xs ys : List Value} {b : Bool}, isIntV z = true → cellsEq (z :: zs) xs ys = some b → ∃ k a a' xs' ys' r, xs = .int k a :: xs' ∧ ys = .int k a' :: ys' ∧ cellsEq zs xs' ys' = some r ∧ b = (a == a' && r) := by
    intro z zs xs ys b hz h
    cases xs with
    | nil => cases z <;> simp [cellsEq] at h
    | cons x xs => cases ys with
      | nil => cases z <;> cases x <;> simp [cellsEq] at h
      | cons y ys =>
        cases z <;> try (simp [isIntV] at hz; done)
        cases x <;> try (simp [cellsEq] at h; done)
        cases y <;> try (simp [cellsEq] at h; done)
        rename_i k n k' m
        unfold cellsEq at h
        by_cases hk : k = k'
        · subst hk
          simp only [decide_true, Bool.not_true, cond_false, Option.map_eq_some_iff] at h
          obtain ⟨r, hr, hb⟩ := h
          exact ⟨k, n, m, xs, ys, r, rfl, rfl, hr, hb.symm⟩
        · simp [hk] at h
  obtain ⟨k1, a1, b1, xs1, ys1, r1, rfl, rfl, e1, rfl⟩ := step h1 h
  obtain ⟨k2, a2, b2, xs2, ys2, r2, rfl, rfl, e2, rfl⟩ := step h2 e1
  obtain ⟨k3, a3, b3, xs3, ys3, r3, rfl, rfl, e3, rfl⟩ := step h3 e2
  cases xs3 with
  | nil => simp [cellsEq] at e3
  | cons x xs => cases ys3 with
    | nil => cases x <;> simp [cellsEq] at e3
    | cons y ys =>
      cases x <;> try (simp [cellsEq] at e3; done)
      cases y <;> try (simp [cellsEq] at e3; done)
      rename_i s s'
      unfold cellsEq at e3
      simp only [Option.map_eq_some_iff] at e3
      obtain ⟨r, hr, rfl⟩ := e3
      cases xs with
      | cons => simp [cellsEq] at hr
      | nil => cases ys with
        | cons => simp [cellsEq] at hr
        | nil =>
          have hr : some true = some r := hr
          cases hr
          exact ⟨k1, k2, k3, a1, a2, a3, s, b1, b2, b3, s', rfl, rfl, rfl⟩
/-- a struct of three whole numbers and a string -/
theorem flat_struct3s {P : Program} {t e g : TypeId} {k0 : IntKind} {f0 f1 f2 f3 : Field} {z1 z2 z3 z4 : Value} (hu : P.underlying t = some (.struct #[f0, f1, f2, f3])) (he : P.underlying e = some (.int k0)) (hgs : P.underlying g = some .string)
    (t0 : f0.type = e ∧ f1.type = e ∧ f2.type = e ∧ f3.type = g) (o : f0.offset = 0 ∧ f1.offset = 1 ∧ f2.offset = 2 ∧ f3.offset = 3)
    (nm : f0.name ≠ "_" ∧ f1.name ≠ "_" ∧ f2.name ≠ "_" ∧ f3.name ≠ "_") (hst : P.stoodInHeld t = false) (h1 : isIntV z1 = true) (h2 : isIntV z2 = true) (h3 : isIntV z3 = true) (h4 : ∃ s, z4 = .string s) (xs ys : List Value) (b : Bool) (hb : cellsEq [z1, z2, z3, z4] xs ys = some b) (w : World)
    (hg : P.eqGuardType P.depth t = false) : (Op.equal t (.agg xs.toArray) (.agg ys.toArray)).run P w = .ok b w ∧ ∀ op x y, (eqGuard op t x y (.agg xs.toArray) (.agg ys.toArray)).run P w = .ok () w := by
  refine ⟨?_, ?_⟩
  · obtain ⟨k1, k2, k3, a1, a2, a3, s, b1, b2, b3, s', rfl, rfl, rfl⟩ := cellsEq_3s z1 z2 z3 z4 h1 h2 h3 h4 hb
    have p0 : ∀ w, (part e #[Value.int k1 a1, .int k2 a2, .int k3 a3, .string s] 0).run P w = .ok (.int k1 a1) w := fun w => part_int he _ _ _ rfl w
    have p1 : ∀ w, (part e #[Value.int k1 a1, .int k2 a2, .int k3 a3, .string s] 1).run P w = .ok (.int k2 a2) w := fun w => part_int he _ _ _ rfl w
    have p2 : ∀ w, (part e #[Value.int k1 a1, .int k2 a2, .int k3 a3, .string s] 2).run P w = .ok (.int k3 a3) w := fun w => part_int he _ _ _ rfl w
    have p3 : ∀ w, (part g #[Value.int k1 a1, .int k2 a2, .int k3 a3, .string s] 3).run P w = .ok (.string s) w := fun w => part_str hgs _ _ _ rfl w
    have q0 : ∀ w, (part e #[Value.int k1 b1, .int k2 b2, .int k3 b3, .string s'] 0).run P w = .ok (.int k1 b1) w := fun w => part_int he _ _ _ rfl w
    have q1 : ∀ w, (part e #[Value.int k1 b1, .int k2 b2, .int k3 b3, .string s'] 1).run P w = .ok (.int k2 b2) w := fun w => part_int he _ _ _ rfl w
    have q2 : ∀ w, (part e #[Value.int k1 b1, .int k2 b2, .int k3 b3, .string s'] 2).run P w = .ok (.int k3 b3) w := fun w => part_int he _ _ _ rfl w
    have q3 : ∀ w, (part g #[Value.int k1 b1, .int k2 b2, .int k3 b3, .string s'] 3).run P w = .ok (.string s') w := fun w => part_str hgs _ _ _ rfl w
    obtain ⟨t0, t1, t2, t3⟩ := t0
    obtain ⟨o0, o1, o2, o3⟩ := o
    obtain ⟨n0, n1, n2, n3⟩ := nm
    have key : ∀ d, (Op.equalIn (d + 1 + 1) t (.agg #[Value.int k1 a1, .int k2 a2, .int k3 a3, .string s]) (.agg #[Value.int k1 b1, .int k2 b2, .int k3 b3, .string s'])).run P w = .ok (a1 == b1 && (a2 == b2 && (a3 == b3 && ((s.toList == s'.toList) && true)))) w := by
      intro d
      rw [Op.equalIn]
      simp only [Sem.run_bind, run_underlying hu, Result.andThen_ok]
      simp [hst, t0, t1, t2, t3, o0, o1, o2, o3, n0, n1, n2, n3, p0, p1, p2, p3, q0, q1, q2, q3, equalIn_int he, equalIn_str hgs]
      by_cases h1 : a1 = b1 <;> by_cases h2 : a2 = b2 <;> by_cases h3 : a3 = b3 <;> by_cases h4 : s.toList = s'.toList <;> simp [h1, h2, h3, h4]
    exact key 9998
  · intro op x y
    unfold eqGuard
    cases op <;> simp [hg]
end Go.Abs
