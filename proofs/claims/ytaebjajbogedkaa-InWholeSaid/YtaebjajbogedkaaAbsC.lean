/- A machine without capacities, orders and tapes runs the program's code; what it answers, every run of the model answers (each operation stands for the model's). -/
import Derived.Test.YtaebjajbogedkaaAbsB
set_option linter.unusedVariables false
set_option linter.unusedSimpArgs false
/- The operations, one by one. -/
namespace Go.Abs
open Go

def TRel (ρ : Ren) (t : Tr Value) (a : Act) : Prop := ∀ i v, t.get i = some v → ∃ v', a.tmps[i]? = some v' ∧ VR ρ v v'
section
variable {P : Program} {D : Data} {ρ : Ren} {h : H} {w : World} {t : Tr Value} {a : Act}

theorem evalO_ok (ht : TRel ρ t a) {x : Operand} {v : Value} (hx : evalO t x = some v) : VR ρ v (a.eval x) := by
  cases x with
  | tmp i =>
    obtain ⟨v', h1, h2⟩ := ht i v hx
    simp only [Act.eval, Array.getD_eq_getD_getElem?, h1, Option.getD_some]; exact h2
  | const c =>
    simp only [evalO] at hx
    cases hc : free c <;> rw [hc] at hx
    · simp at hx
    · obtain rfl := Option.some.inj hx; exact VR_free hc
  | global g => simp [evalO] at hx
  | func f => obtain rfl := Option.some.inj hx; exact .func _ _ _ _ _ .nil .nil
theorem evalL_ok (ht : TRel ρ t a) : ∀ {xs : List Operand} {l : List Value}, evalL t xs = some l → VRs ρ l (xs.map a.eval)
  | [], l, hx => by obtain rfl := Option.some.inj hx; exact .nil
  | x :: xs, l, hx => by
    unfold evalL at hx
    split at hx
    · rename_i v hv
      split at hx
      · rename_i l2 hl
        obtain rfl := Option.some.inj hx
        exact .cons (evalO_ok ht hv) (evalL_ok ht hl)
      · simp at hx
    · simp at hx
inductive PRs (ρ : Ren) : List (Nat × Value) → List (Nat × Value) → Prop
  | nil : PRs ρ [] []
  | cons {i v v' l l'} : VR ρ v v' → PRs ρ l l' → PRs ρ ((i, v) :: l) ((i, v') :: l')
theorem evalP_ok (ht : TRel ρ t a) : ∀ {xs : List (Nat × Operand)} {l : List (Nat × Value)}, evalP t xs = some l → PRs ρ l (xs.map fun (i, x) => (i, a.eval x))
  | [], l, hx => by obtain rfl := Option.some.inj hx; exact .nil
  | (i, x) :: xs, l, hx => by
    unfold evalP at hx
    split at hx
    · rename_i v hv
      split at hx
      · rename_i l2 hl
        obtain rfl := Option.some.inj hx
        exact .cons (evalO_ok ht hv) (evalP_ok ht hl)
      · simp at hx
    · simp at hx
def VRo (ρ : Ren) : Option Value → Option Value → Prop
  | none, none => True
  | some v, some v' => VR ρ v v'
  | _, _ => False
theorem evalOO_ok (ht : TRel ρ t a) {x : Option Operand} {v : Option Value} (hx : evalOO t x = some v) : VRo ρ v (x.map a.eval) := by
  cases x with
  | none => obtain rfl := Option.some.inj hx; trivial
  | some x =>
    simp only [evalOO, Option.map_eq_some_iff] at hx
    obtain ⟨u, h1, rfl⟩ := hx
    exact evalO_ok ht h1

/-! ### types -/
theorem isAgg_run {ty : TypeId} {i : TyI} {inf : TypeInfo} (hj : TyOk P ty i inf) (w : World) : (isAgg ty).run P w = .ok i.agg w := by
  unfold isAgg TyI.agg
  simp [run_underlying hj.und]
  cases i.desc <;> simp
theorem sizeOf_run {ty : TypeId} {i : TyI} {inf : TypeInfo} (hj : TyOk P ty i inf) (w : World) : (Go.sizeOf ty).run P w = .ok i.size w := by
  simp [Go.sizeOf, typeInfo, hj.info, hj.size]
theorem zero_run {ty : TypeId} {i : TyI} {inf : TypeInfo} (hj : TyOk P ty i inf) (w : World) : (zeroValue ty).run P w = .ok i.zero w := by
  simp [zeroValue, typeInfo, hj.info, hj.zero]

/-! ### loads, stores, variables -/
theorem ldVar_ok (hw : WR ρ h w) {ty : TypeId} {i : TyI} {inf : TypeInfo} (hj : TyOk P ty i inf) {p c : Addr} (hp : AR ρ p c) {v : Value} (hl : ldVar h i p = some v) : ∃ v', (loadVar ty c).run P w = .ok v' w ∧ VR ρ v v' := by
  unfold ldVar at hl
  unfold loadVar
  cases hag : i.agg <;> rw [hag] at hl
  · simp only [cond_false] at hl
    obtain ⟨v', h1, h2⟩ := ld_cell hw hp hl
    exact ⟨v', by simp [isAgg_run hj, hag, h1], h2⟩
  · simp only [cond_true, Option.map_eq_some_iff] at hl
    obtain ⟨l, hl, rfl⟩ := hl
    obtain ⟨l', g1, g0, g2, g3⟩ := ld_cells hw i.size p c l (.inr hp) hl
    have hr := run_loadCells_list (P := P) w c l' g2
    rw [g1] at hr
    exact ⟨.agg l'.toArray, by simp [isAgg_run hj, hag, sizeOf_run hj, hr], .agg _ _ (by simpa using g3)⟩
theorem stVar_ok (hw : WR ρ h w) {ty : TypeId} {i : TyI} {inf : TypeInfo} (hj : TyOk P ty i inf) {p c : Addr} (hp : AR ρ p c) {v v' : Value} (hv : VR ρ v v') {h' : H} (hs : stVar h i p v = some h') :
    ∃ w', (storeVar ty c v').run P w = .ok () w' ∧ WR ρ h' w' ∧ Ext ρ h w ρ h' w' := by
  unfold stVar at hs
  by_cases hsz : v.cells.size = i.size
  · rw [nbeq_t hsz] at hs
    simp only [cond_true] at hs
    have hc := hv.cells
    obtain ⟨w', g1, g2, g3⟩ := st_cells (P := P) _ _ h w p c 0 h' hw (.inr hp) hc (by simpa [add] using hs)
    refine ⟨w', ?_, g2, g3⟩
    unfold storeVar
    have e : v'.cells.size = i.size := by have := hc.length; simp at this; omega
    simp [sizeOf_run hj, e, g1]
  · rw [nbeq_f hsz] at hs; simp at hs
theorem newVar_ok (hw : WR ρ h w) {e : TypeId} {v v' : Value} (hv : VR ρ v v') :
    (newVar e v').run P w = .ok ⟨w.heap.size, 0, none⟩ (w.alloc (.cells v'.cells e)) ∧ ∃ L, NewOK ρ h.nro w (row e v.cells.toList) (fun A => .pointer (some ⟨A, 0, some 0⟩)) (.pointer (some ⟨w.heap.size, 0, none⟩)) (w.alloc (.cells v'.cells e)) L := by
  refine ⟨rfl, _, new_row (w := w) (h := h) hv.cells (w' := w.alloc _) (el := e) (f := (0, 0)) rfl (.inl rfl) ?_ rfl rfl ⟨rfl, by first | exact Nat.le_refl _ | exact Nat.le_succ _⟩ _ _ ?_⟩
  · intro i u hu; simpa using hu
  · intro id ρ' hle hm
    exact .ptr _ _ (AR_new hm)

/-! ### whole numbers, strings, equality -/
theorem intBin_ok {op : BinOp} {ty : TypeId} {k k' : IntKind} {x y : Int} {v : Value} (hv : intBin op k x k' y = some v) (w : World) : (binOp op ty (.int k x) (.int k' y)).run P w = .ok v w := by
  unfold intBin at hv
  cases op
  case shl =>
    simp only at hv
    by_cases hy : y < 0
    · simp [hy] at hv
    · simp [hy] at hv; subst hv; simp [binOp, Op.shift, hy]
  case shr =>
    simp only at hv
    by_cases hy : y < 0
    · simp [hy] at hv
    · simp [hy] at hv; subst hv; simp [binOp, Op.shift, hy]
  case quo =>
    simp only at hv
    by_cases hk : k = k'
    · by_cases hy : y = 0
      · simp [hk, hy] at hv
      · have hyb : (y == 0) = false := by simpa using hy
        simp only [hk, decide_true, Bool.not_true, cond_false, hyb, Option.some.injEq] at hv; subst hv; simp [binOp, Op.intDiv, hk, hy]
    · simp [hk] at hv
  case rem =>
    simp only at hv
    by_cases hk : k = k'
    · by_cases hy : y = 0
      · simp [hk, hy] at hv
      · have hyb : (y == 0) = false := by simpa using hy
        simp only [hk, decide_true, Bool.not_true, cond_false, hyb, Option.some.injEq] at hv; subst hv; simp [binOp, Op.intDiv, hk, hy]
    · simp [hk] at hv
  all_goals
    simp only at hv
    by_cases hk : k = k'
    · first
        | (simp [hk] at hv; done)
        | (simp [hk] at hv; subst hv; simp [binOp, Op.intArith, Op.intBits, Op.intCmp, hk])
    · simp [hk] at hv
theorem strBin_ok {op : BinOp} {ty : TypeId} {x y : ByteArray} {v : Value} (hv : strBin op x y = some v) (w : World) : (binOp op ty (.string x) (.string y)).run P w = .ok v w := by
  unfold strBin at hv
  cases op <;> simp only at hv
  case add =>
    by_cases hc : ((x.size + y.size : Nat) : Int) ≤ IntKind.i64.max
    · simp only [hc, decide_true, cond_true] at hv
      obtain rfl := Option.some.inj hv
      have : ¬ (IntKind.i64.max < ((x.size + y.size : Nat) : Int)) := by omega
      simp only [binOp, Op.stringOp]
      rw [if_neg (by omega)]; rfl
    · rw [decide_eq_false hc] at hv; simp at hv
  all_goals first
    | (simp at hv; done)
    | (obtain rfl := Option.some.inj hv; simp [binOp, Op.stringOp])
theorem eqGuard_plain {op : BinOp} {ty : TypeId} {x y : Operand} {u v : Value} (h1 : u ≠ .nilIface) (h2 : ∀ c, u ≠ .agg c) (w : World) : (eqGuard op ty x y u v).run P w = .ok () w := by
  unfold eqGuard
  cases op <;> simp <;> (cases u <;> first | rfl | (exact absurd rfl h1) | (exact absurd rfl (h2 _)))
theorem eqA_ok (hD : DOk P D) {ty : TypeId} {i : TyI} (hi : D.ty.get ty = some i) {x y x' y' : Value} (hx : VR ρ x x') (hy : VR ρ y y') {b : Bool} (hb : eqA i x y = some b) (w : World) :
    (Op.equal ty x' y').run P w = .ok b w ∧ ∀ op o1 o2, (eqGuard op ty o1 o2 x' y').run P w = .ok () w := by
  obtain ⟨inf, hj⟩ := hD.tyOk hi
  have hu := hj.und
  unfold eqA at hb
  split at hb
  case h_11 u v =>
    cases hfl0 : (i.flat && u.size.beq i.size) <;> rw [hfl0] at hb
    · simp at hb
    · simp only [cond_true] at hb
      simp only [Bool.and_eq_true, nbeq_eq] at hfl0
      obtain ⟨hfl, hsz⟩ := hfl0
      have key : ∀ (zs l m l' m' : List Value) (b : Bool), cellsEq zs l m = some b → VRs ρ l l' → VRs ρ m m' → l' = l ∧ m' = m := by
        intro zs
        induction zs with
        | nil =>
          intro l m l' m' b hb h1 h2
          cases l with
          | nil => cases m with
            | nil => cases h1; cases h2; exact ⟨rfl, rfl⟩
            | cons y ys => simp [cellsEq] at hb
          | cons x xs => simp [cellsEq] at hb
        | cons z zs ih =>
          intro l m l' m' b hb h1 h2
          cases l with
          | nil => cases z <;> simp [cellsEq] at hb
          | cons x xs => cases m with
            | nil => cases z <;> cases x <;> simp [cellsEq] at hb
            | cons y ys =>
              cases z <;> try (simp [cellsEq] at hb; done)
              · cases x <;> try (simp [cellsEq] at hb; done)
                cases y <;> try (simp [cellsEq] at hb; done)
                rename_i k n k' n'
                cases h1 with
                | cons p1 q1 => cases h2 with
                  | cons p2 q2 =>
                    cases p1; cases p2
                    unfold cellsEq at hb
                    by_cases hk : k = k'
                    · simp only [hk, decide_true, Bool.not_true, cond_false, Option.map_eq_some_iff] at hb
                      obtain ⟨r, hr, _⟩ := hb
                      obtain ⟨rfl, rfl⟩ := ih _ _ _ _ _ hr q1 q2
                      exact ⟨rfl, rfl⟩
                    · simp [hk] at hb
              · cases x <;> try (simp [cellsEq] at hb; done)
                cases y <;> try (simp [cellsEq] at hb; done)
                cases h1 with
                | cons p1 q1 => cases h2 with
                  | cons p2 q2 =>
                    cases p1; cases p2
                    unfold cellsEq at hb
                    simp only [Option.map_eq_some_iff] at hb
                    obtain ⟨r, hr, _⟩ := hb
                    obtain ⟨rfl, rfl⟩ := ih _ _ _ _ _ hr q1 q2
                    exact ⟨rfl, rfl⟩
      cases hx with
      | agg _ u' p => cases hy with
        | agg _ v' q =>
          obtain ⟨e1, e2⟩ := key _ _ _ _ _ b hb p q
          have e1 : u' = u := Array.ext' e1
          have e2 : v' = v := Array.ext' e2
          subst e1; subst e2
          have := hD.flat ty i hi hfl _ _ b (by simpa using hsz) hb w
          simpa using this
  all_goals first
    | (simp at hb; done)
    | (split at hb <;> first
        | (simp at hb; done)
        | (rename_i hd
           rw [hd] at hu
           obtain rfl := Option.some.inj hb
           cases hx <;> cases hy <;> first
             | (exfalso; simp_all; done)
             | exact ⟨(fun d => by simp [Op.equalIn, run_underlying hu] : ∀ d : Nat, (Op.equalIn (d + 1) ty _ _).run P w = .ok _ w) 9999, fun op o1 o2 => eqGuard_plain (by simp) (by simp) w⟩))
end
end Go.Abs

/- The operations, one by one, further. -/
namespace Go.Abs
open Go
section
variable {P : Program} {D : Data} {ρ : Ren} {h : H} {w : World} {t : Tr Value} {a : Act}

theorem binA_ok (hD : DOk P D) {op : BinOp} {ty : TypeId} {x y x' y' : Value} (hx : VR ρ x x') (hy : VR ρ y y') {v : Value} (hv : binA D op ty x y = some v) (o1 o2 : Operand) (w : World) :
    ∃ v', ((do eqGuard op ty o1 o2 x' y'; binOp op ty x' y') : Sem Value).run P w = .ok v' w ∧ VR ρ v v' := by
  unfold binA at hv
  split at hv
  · cases hx; cases hy
    refine ⟨v, ?_, ?_⟩
    · simp [eqGuard_plain, intBin_ok hv]
    · unfold intBin at hv
      have key : ∀ {c : Bool} {x : Option Value}, (bif c then none else x) = some v → x = some v := by
        intro c x hh; cases c
        · exact hh
        · simp at hh
      split at hv
      · have := key hv; obtain rfl := Option.some.inj this; exact .int _ _
      · have := key hv; obtain rfl := Option.some.inj this; exact .int _ _
      · have hv := key hv
        split at hv <;> first
          | (obtain rfl := Option.some.inj hv; first | exact .int _ _ | exact .bool _)
          | (have := key hv; obtain rfl := Option.some.inj this; exact .int _ _)
          | (simp at hv; done)
  · cases hx; cases hy
    refine ⟨v, ?_, ?_⟩
    · simp [eqGuard_plain, strBin_ok hv]
    · unfold strBin at hv
      split at hv
      · rw [cond_eq_ite] at hv
        split at hv
        · obtain rfl := Option.some.inj hv; exact .string _
        · simp at hv
      · obtain rfl := Option.some.inj hv; exact .bool _
      · obtain rfl := Option.some.inj hv; exact .bool _
      · simp at hv
  · rename_i h1 h2
    have nint : ∀ k n k' m, ¬ (x' = .int k n ∧ y' = .int k' m) := by
      rintro k n k' m ⟨rfl, rfl⟩; cases hx; cases hy; exact h1 _ _ _ _ rfl rfl
    have nstr : ∀ u v, ¬ (x' = .string u ∧ y' = .string v) := by
      rintro u v ⟨rfl, rfl⟩; cases hx; cases hy; exact h2 _ _ rfl rfl
    split at hv
    · rename_i i hi
      simp only [Option.map_eq_some_iff] at hv
      obtain ⟨b, hb, rfl⟩ := hv
      obtain ⟨g1, g2⟩ := eqA_ok hD hi hx hy hb w
      refine ⟨.bool b, ?_, .bool b⟩
      have : (binOp .eql ty x' y').run P w = .ok (.bool b) w := by
        have e : binOp .eql ty x' y' = (do pure (.bool (← Op.equal ty x' y'))) := by
          cases hx <;> cases hy <;> first
            | rfl
            | exact absurd ⟨rfl, rfl⟩ (nint _ _ _ _)
            | exact absurd ⟨rfl, rfl⟩ (nstr _ _)
        rw [e]; simp [g1]
      simp [g2, this]
    · rename_i i hi
      simp only [Option.map_eq_some_iff] at hv
      obtain ⟨b, hb, rfl⟩ := hv
      obtain ⟨g1, g2⟩ := eqA_ok hD hi hx hy hb w
      refine ⟨.bool (!b), ?_, .bool _⟩
      have : (binOp .neq ty x' y').run P w = .ok (.bool (!b)) w := by
        have e : binOp .neq ty x' y' = (do pure (.bool (!(← Op.equal ty x' y')))) := by
          cases hx <;> cases hy <;> first
            | rfl
            | exact absurd ⟨rfl, rfl⟩ (nint _ _ _ _)
            | exact absurd ⟨rfl, rfl⟩ (nstr _ _)
        rw [e]; simp [g1]
      simp [g2, this]
    · simp at hv
theorem unA_ok {op : UnOp} {x x' v : Value} (hx : VR ρ x x') (hv : unA op x = some v) (w : World) : (Op.unary op x').run P w = .ok v w ∧ VR ρ v v := by
  unfold unA at hv
  split at hv
  · cases hx
    cases op <;> simp only at hv
    · obtain rfl := Option.some.inj hv; exact ⟨by simp [Op.unary, Op.intArith], .int _ _⟩
    · first
        | (obtain rfl := Option.some.inj hv; exact ⟨by simp [Op.unary, Op.intBits], .int _ _⟩)
        | (simp at hv; done)
    all_goals first
        | (obtain rfl := Option.some.inj hv; exact ⟨by simp [Op.unary, Op.intBits], .int _ _⟩)
        | (simp at hv; done)
  · cases hx
    cases op <;> simp only at hv <;> first
      | (obtain rfl := Option.some.inj hv; exact ⟨rfl, .bool _⟩)
      | (simp at hv; done)
  · simp at hv

theorem forIn_bytes {f : Value → ByteArray → Sem (ForInStep ByteArray)} (hf : ∀ n s, f (.int .u8 n) s = pure (.yield (s.push (UInt8.ofNat n.toNat)))) (w : World) : ∀ (l l' : List Value) (s r : ByteArray), VRs ρ l l' → bytesOf l s = some r → (forIn l' s f).run P w = .ok r w
  | [], _, s, r, .nil, hb => by obtain rfl := Option.some.inj hb; rfl
  | v :: l, _, s, r, .cons p q, hb => by
    cases v <;> try (simp [bytesOf] at hb; done)
    rename_i k n
    cases k <;> try (simp [bytesOf] at hb; done)
    cases p
    simp only [bytesOf] at hb
    simp only [List.forIn_cons, hf, Sem.run_bind, Sem.run_pure, Result.andThen_ok]
    exact forIn_bytes hf w l _ _ r q hb
theorem convStr_run {c : Addr} {n cap : Nat} {l' : List Value} (hl : l'.length = n) (hc : ∀ (j : Nat) (v : Value), l'[j]? = some v → w.cell? (c.add j) = some v) {l : List Value} {r : ByteArray} (hv : VRs ρ l l') (hb : bytesOf l .empty = some r) :
    (Conv.bytesToString (.slice (some c) n cap)).run P w = .ok (.string r) w := by
  have hr := run_loadCells_list (P := P) w c l' hc
  rw [hl] at hr
  unfold Conv.bytesToString
  simp only [Sem.run_bind, hr, Result.andThen_ok, List.forIn_toArray]
  rw [forIn_bytes (P := P) (fun n s => by first | rfl | simp) w l l' .empty r hv hb]
  rfl
end
end Go.Abs

/- The operations, one by one: conversions, append, len, slicing, indexing. -/
namespace Go.Abs
open Go
section
variable {P : Program} {D : Data} {ρ : Ren} {h : H} {w : World} {t : Tr Value} {a : Act}

theorem bytes_VRs (s : List UInt8) : VRs ρ (s.map fun b => Value.int .u8 b.toNat) (s.map fun b => Value.int .u8 b.toNat) := by
  induction s with
  | nil => exact .nil
  | cons b s ih => exact .cons (.int _ _) ih
theorem convA_ok (hD : DOk P D) (hw : WR ρ h w) {src dst : TypeId} {x x' : Value} (hx : VR ρ x x') {r : OpR} (hr : convA D h src dst x = some r) : OpOK ρ h w r ((convert src dst x').run P w) := by
  unfold convA at hr
  split at hr
  case h_2 => simp at hr
  case h_1 i j hi hj =>
  obtain ⟨inf, hti⟩ := hD.tyOk hi
  obtain ⟨jnf, htj⟩ := hD.tyOk hj
  have hui := hti.und
  have huj := htj.und
  split at hr
  · -- int to int
    rename_i k0 k k1 n hdi hdj
    rw [hdi] at hui; rw [hdj] at huj
    cases hx
    obtain rfl := Option.some.inj hr
    exact ⟨_, w, by simp [convert, run_underlying hui, run_underlying huj, Conv.intToInt], .same hw (.int _ _)⟩
  · rename_i s hdi hdj
    rw [hdi] at hui; rw [hdj] at huj
    cases hx
    obtain rfl := Option.some.inj hr
    exact ⟨_, w, by simp [convert, run_underlying hui, run_underlying huj], .same hw (.string _)⟩
  · -- string to bytes
    rename_i e s hdi hdj
    rw [hdi] at hui; rw [hdj] at huj
    split at hr
    case h_2 => simp at hr
    case h_1 e' he =>
    obtain ⟨enf, hte⟩ := hD.tyOk he
    have hue := hte.und
    split at hr
    case h_2 => simp at hr
    case h_1 hde =>
    rw [hde] at hue
    cases hlt : s.size.blt (B63 / 2) <;> rw [hlt] at hr
    · simp at hr
    simp only [cond_true] at hr
    obtain rfl := Option.some.inj hr
    have hlt : s.size < B63 / 2 := Nat.le_of_ble_eq_true hlt
    cases hx
    have hsz : (s.data.toList.map fun b => Value.int .u8 b.toNat).length = s.size := by simp
    let cap := (Question.appendCap s.size 0 e).cut (w.tape w.drawn (.appendCap s.size 0 e))
    have hcap : s.size ≤ cap := by show _ ≤ Question.cut _ _; simp only [Question.cut]; omega
    let cs : Array Value := (s.data.map fun b => Value.int .u8 b.toNat) ++ Array.replicate (cap - s.size) (.int .u8 0)
    have hcs : cs.size = cap := by
      show ((s.data.map fun b => Value.int .u8 b.toNat) ++ Array.replicate (cap - s.size) (Value.int .u8 0)).size = cap
      have : s.data.size = s.size := rfl
      simp; omega
    let w' : World := { w with drawn := w.drawn + 1, heap := w.heap.push (.cells cs e (cs.size, cs.size + 1)) }
    have hrun : (convert src dst (.string s)).run P w = .ok (.slice (some ⟨w.heap.size, 0, none⟩) s.size cap) w' := by
      let w1 : World := { w with drawn := w.drawn + 1, heap := w.heap.push (.cells cs e) }
      have hs1 : w1.shape? w.heap.size = some (e, cs.size) := by simp [World.shape?, w1]
      have hfz : w1.freeze { block := w.heap.size, off := cs.size } 1 = w' := by
        have hm : (w.heap.push (Obj.cells cs e)).modify w.heap.size (fun | .cells c elem (lo, hi) => .cells c elem (if lo == hi then (cs.size, cs.size + 1) else (min lo cs.size, max hi (cs.size + 1))) | o => o) = w.heap.push (.cells cs e (cs.size, cs.size + 1)) := by
          apply Array.ext_getElem?
          intro k
          rw [Array.getElem?_modify]
          by_cases hk : w.heap.size = k
          · subst hk; simp
          · rw [if_neg hk, Array.getElem?_push, Array.getElem?_push, if_neg (Ne.symm hk), if_neg (Ne.symm hk)]
        simp only [World.freeze, w1, w']
        rw [if_neg (by decide)]
        congr 1
      have hcs' : (.cells (Array.map (fun b : UInt8 => Value.int .u8 b.toNat) s.data ++ Array.replicate (cap - s.size) (.int .u8 0)) e : Obj) = .cells cs e := rfl
      have hmk : (markStringish ⟨w.heap.size, 0, none⟩).run P w1 = .ok () w' := by
        simp only [markStringish, Sem.run_bind, run_shape, hs1, Result.andThen_ok, run_freeze, hfz]
      have hstb : (Conv.stringToBytes e s).run P w = .ok (.slice (some ⟨w.heap.size, 0, none⟩) s.size cap) w' := by
        simp only [Conv.stringToBytes, Sem.run_bind, run_choose, Question.forced, Result.andThen_ok, newRow, run_newObj, Sem.run_pure, Bool.false_eq_true, if_false]
        show ((markStringish ⟨w.heap.size, 0, none⟩).run P w1).andThen _ = _
        rw [hmk]; rfl
      simp [convert, run_underlying hui, run_underlying huj, run_underlying hue, hstb]
    refine ⟨_, w', ⟨w.heap.size, 0, 0, (s.data.toList.map fun b => Value.int .u8 b.toNat).length, cs.size⟩, hrun, ?_⟩
    refine new_row (w := w) (h := h) (bytes_VRs s.data.toList) (w' := w') (el := e) (f := (cs.size, cs.size + 1)) rfl (.inr (Nat.le_refl _)) ?_ rfl rfl ⟨rfl, by first | exact Nat.le_refl _ | exact Nat.le_succ _⟩ _ _ ?_
    · intro i v hi
      have hl := (List.getElem?_eq_some_iff.1 hi).1
      show ((s.data.map fun b => Value.int .u8 b.toNat) ++ Array.replicate (cap - s.size) (Value.int .u8 0))[i]? = some v
      rw [Array.getElem?_append_left (by simpa using hl)]
      simpa using hi
    · intro id ρ' hle hm
      refine VR_slice_unk (by decide) hm hcap ?_ ?_
      · rw [hcs]; omega
      · rw [hsz]; omega
  · -- nil bytes to string
    rename_i e hdi hdj
    rw [hdi] at hui; rw [hdj] at huj
    split at hr
    case h_2 => simp at hr
    case h_1 e' he =>
    obtain ⟨enf, hte⟩ := hD.tyOk he
    have hue := hte.und
    split at hr
    case h_2 => simp at hr
    case h_1 hde =>
    rw [hde] at hue
    cases hx
    obtain rfl := Option.some.inj hr
    exact ⟨_, w, by simp [convert, run_underlying hui, run_underlying huj, run_underlying hue, Conv.bytesToString], .same hw (.string _)⟩
  · -- bytes to string
    rename_i e p n c hdi hdj
    rw [hdi] at hui; rw [hdj] at huj
    split at hr
    case h_2 => simp at hr
    case h_1 e' he =>
    obtain ⟨enf, hte⟩ := hD.tyOk he
    have hue := hte.und
    split at hr
    case h_2 => simp at hr
    case h_1 hde =>
    rw [hde] at hue
    split at hr
    case h_2 => simp at hr
    case h_1 l hl =>
    simp only [Option.map_eq_some_iff] at hr
    obtain ⟨s, hs, rfl⟩ := hr
    cases hx with
    | slice _ c' _ _ cap' hsr =>
    obtain ⟨l', g1, g0, g2, g3⟩ := ld_cells hw n p c' l (by
      by_cases h0 : n = 0
      · exact .inl h0
      · exact .inr (hsr.ar h0)) hl
    exact ⟨_, w, by simp [convert, run_underlying hui, run_underlying huj, run_underlying hue, convStr_run g1 g2 g3 hs], .same hw (.string _)⟩
  · -- bytes to bytes: a mark behind the end
    rename_i e0 e p n c hdi hdj
    rw [hdi] at hui; rw [hdj] at huj
    split at hr
    case h_2 => simp at hr
    case h_1 e' he =>
    obtain ⟨enf, hte⟩ := hD.tyOk he
    have hue := hte.und
    split at hr
    case h_2 => simp at hr
    case h_1 hde =>
    rw [hde] at hue
    split at hr
    case h_2 => simp at hr
    case h_1 k r hck hob =>
    rw [cond_eq_ite] at hr
    split at hr
    case isFalse => simp at hr
    case isTrue hcond =>
    obtain rfl := Option.some.inj hr
    simp only [Bool.and_eq_true, nbeq_eq] at hcond
    obtain ⟨⟨c1, c2⟩, c3⟩ := hcond
    subst c1
    obtain rfl : e0 = e := by rw [hui] at huj; simpa using huj
    have c2 : 0 < k := Nat.le_of_ble_eq_true c2
    have c3 := Nat.le_of_ble_eq_true c3
    cases hx with
    | slice _ c' _ _ cap' hs =>
    have hs0 := hs
    rw [hck] at hs
    obtain ⟨L, ev, p1, p2, p3, p4, p5, p6⟩ := hs.2.2.resolve_left (by omega)
    have hA := hw.obj _ _ hob
    obtain ⟨q1, q2, cs, el, f, q3, q4, q5, q6⟩ := hA.loc _ _ p2
    have hb : w.heap[c'.block]? = some (.cells cs el f) := by rw [p3]; exact q3
    have hfz : ∃ f', (w.freeze { block := c'.block, off := cs.size } 1).heap = w.heap.setIfInBounds c'.block (.cells cs el f') ∧ FrzOK f' cs.size := by
      have hm : ∀ g : Obj → Obj, w.heap.modify c'.block g = w.heap.setIfInBounds c'.block (g (.cells cs el f)) := by
        intro g
        apply Array.ext_getElem?
        intro k
        rw [Array.getElem?_modify]
        by_cases hk : c'.block = k
        · subst hk
          rw [if_pos rfl, hb, Array.getElem?_setIfInBounds_self_of_lt (Array.getElem?_eq_some_iff.1 hb).1]; rfl
        · rw [if_neg hk, Array.getElem?_setIfInBounds_ne hk]
      unfold World.freeze
      rw [if_neg (by decide)]
      obtain ⟨lo, hi⟩ := f
      refine ⟨_, hm (fun | .cells c elem (lo, hi) => .cells c elem (if lo == hi then (cs.size, cs.size + 1) else (min lo cs.size, max hi (cs.size + 1))) | o => o), ?_⟩
      have q5 := q5 c3
      rw [← q4] at q5
      by_cases hlh : lo = hi
      · simp only [hlh, beq_self_eq_true, if_true]
        exact .inr (Nat.le_refl _)
      · have hb2 : (lo == hi) = false := by simpa using hlh
        simp only [hb2, Bool.false_eq_true, if_false]
        refine .inr ?_
        have := q5.resolve_left hlh
        show cs.size ≤ min lo cs.size
        have this : cs.size ≤ lo := this
        omega
    obtain ⟨f', hf1, hf2⟩ := hfz
    have hrun : (convert src src (.slice (some c') n cap')).run P w = .ok (.slice (some c') n cap') (w.freeze { block := c'.block, off := cs.size } 1) := by
      have hsh : w.shape? c'.block = some (el, cs.size) := by simp [World.shape?, hb]
      simp [convert, run_underlying hui, run_underlying huj, run_underlying hue, markStringish, hsh]
    refine ⟨_, _, hrun, ρ, .slice _ _ _ _ _ hs0, ?_, ?_⟩
    · have hget : ∀ b, (w.freeze { block := c'.block, off := cs.size } 1).heap[b]? = if b = c'.block then some (.cells cs el f') else w.heap[b]? := by
        intro b
        rw [hf1]
        by_cases hbb : b = c'.block
        · subst hbb; rw [if_pos rfl, Array.getElem?_setIfInBounds_self_of_lt (Array.getElem?_eq_some_iff.1 hb).1]
        · rw [if_neg hbb, Array.getElem?_setIfInBounds_ne (Ne.symm hbb)]
      refine ⟨fun A e L x => ⟨(hw.dom A e L x).1, by rw [hf1]; simpa using (hw.dom A e L x).2⟩, hw.dis, ?_, hw.lt, hw.nro⟩
      intro A ob hA'
      by_cases hAA : A = p.block
      · subst hAA
        rw [hob] at hA'
        obtain rfl := Option.some.inj hA'
        refine ⟨fun e2 L2 x => ?_, hA.align, hA.all, hA.in_⟩
        obtain ⟨z1, z2, cs2, el2, f2, z3, z4, z5, z6⟩ := hA.loc e2 L2 x
        by_cases hcb : L2.cb = c'.block
        · rw [hcb, hb] at z3
          obtain ⟨rfl, rfl, rfl⟩ : cs = cs2 ∧ el = el2 ∧ f = f2 := by simpa using z3
          exact ⟨z1, z2, cs, el, f', by rw [hget, if_pos hcb], z4, fun _ => by rw [← z4]; exact hf2, z6⟩
        · exact ⟨z1, z2, cs2, el2, f2, by rw [hget, if_neg hcb]; exact z3, z4, z5, z6⟩
      · refine (hw.obj A ob hA').keep (Ren.le_refl _) (fun _ _ x => x) fun e2 L2 x => ?_
        rw [hget, if_neg]
        intro hcb
        have := (hw.dis _ _ _ _ _ _ x p2 hAA (by rw [hcb, p3])).2
        omega
    · refine ⟨Ren.le_refl _, rfl, Nat.le_refl _, fun _ _ => Iff.rfl, fun A e L x y => by rw [x] at y; simp at y, fun A e L x y => by rw [x] at y; simp at y, by rw [hf1]; simp, ?_, rfl, rfl, rfl, rfl, fun _ => by first | exact Nat.le_refl _ | exact Nat.le_succ _⟩
      intro b hbl hno
      rw [hf1, Array.getElem?_setIfInBounds_ne]
      intro hbb
      exact hno p.block ev L p2 (by rw [hob]; simp) c3 (by rw [← p3, hbb])
  · simp at hr

theorem OpOK.mapRes0 : True := trivial
theorem OpOK.mapRes {r : OpR} {x : Sem Value} (hk : OpOK ρ h w r (x.run P w)) : OpOK ρ h w r (x.run P w) := hk

theorem elemOf_ok (hD : DOk P D) {ty e : TypeId} {j : TyI} (he : elemOf D ty = some (e, j)) : P.underlying ty = some (.slice e) ∧ D.ty.get e = some j := by
  unfold elemOf at he
  split at he
  · rename_i i hi
    obtain ⟨inf, hti⟩ := hD.tyOk hi
    have hui := hti.und
    split at he
    · rename_i e' hd
      simp only [Option.map_eq_some_iff] at he
      obtain ⟨j', hj, hh⟩ := he
      obtain ⟨rfl, rfl⟩ := Prod.mk.inj hh
      rw [hd] at hui
      exact ⟨hui, hj⟩
    · simp at he
  · simp at he
theorem lenA_ok {x x' : Value} (hx : VR ρ x x') {n : Nat} (hn : lenA x = some n) (w : World) : (Builtin.lenOf x').run P w = .ok n w := by
  cases hx <;> simp [lenA] at hn <;> subst hn <;> rfl
theorem firstA_ok (hw : WR ρ h w) {x x' : Value} (hx : VR ρ x x') {size n m : Nat} (hm : lenA x = some m) (hnm : n ≤ m) {l : List Value} (hl : firstA h size n x = some l) (hsz : (∃ s, x = .string s) → size = 1) :
    ∃ l', VRs ρ l l' ∧ l'.length = n * size ∧ ∀ w1 : World, w1.heap = w.heap → (Builtin.firstCells size n x').run P w1 = .ok l'.toArray w1 := by
  cases hx <;> simp only [lenA, Option.some.injEq] at hm <;> try (simp at hm; done)
  · -- string
    rename_i s
    obtain rfl := Option.some.inj hl
    refine ⟨_, bytes_VRs _, ?_, ?_⟩
    · rw [hsz ⟨s, rfl⟩]
      simp
      have : s.data.size = s.size := rfl
      omega
    · intro w1 _
      simp [Builtin.firstCells]
      apply Array.ext'; simp
  · -- nil
    obtain rfl : n = 0 := by omega
    simp [firstA] at hl
    subst hl
    exact ⟨[], .nil, by simp, fun w1 _ => by simp [Builtin.firstCells]⟩
  · rename_i p c len cap cap' hs
    simp only [firstA] at hl
    obtain ⟨l', g1, g0, g2, g3⟩ := ld_cells hw (n * size) p c l (by
      by_cases h0 : n = 0
      · left; rw [h0]; simp
      · exact .inr (hs.ar (by omega))) hl
    refine ⟨l', g3, g1, fun w1 hw1 => ?_⟩
    refine run_firstCells_some w1 size n c len cap' l' g1 ?_
    intro j v hj
    have := g2 j v hj
    simpa [World.cell?, hw1] using this
theorem zeros_VRs {z : Value} (hz : free z = true) (m : Nat) : VRs ρ (zeros z m) (zeros z m) := by
  have hzz : VRs ρ z.cells.toList z.cells.toList := (VR_free hz).cells
  unfold zeros
  induction m with
  | zero => exact .nil
  | succ m ih => rw [List.replicate_succ, List.flatten_cons]; exact hzz.append ih
theorem VRs.oneC' {l l' : List Value} (hh : VRs ρ l l') (g : ∀ u ∈ l, Abs.oneC u = true) : ∀ u ∈ l', Abs.oneC u = true := by
  induction l generalizing l' with
  | nil => cases hh; intro u hu; simp at hu
  | cons a l ih => cases hh with
    | cons p q =>
      intro u hu
      rcases List.mem_cons.1 hu with rfl | hu
      · rw [p.oneC]; exact g _ (List.mem_cons_self ..)
      · exact ih q (fun u hu => g u (List.mem_cons_of_mem _ hu)) u hu
theorem appA_ok (hD : DOk P D) (hw : WR ρ h w) {ts : Array TypeId} {s x s' x' : Value} (hs : VR ρ s s') (hx : VR ρ x x') {r : OpR} (hr : appA D h ts s x = some r) (ty : TypeId) : OpOK ρ h w r ((Builtin.append_ ts ty #[s', x']).run P w) := by
  unfold appA at hr
  split at hr
  case h_2 => simp at hr
  case h_1 st xt h0 h1 =>
  split at hr
  case h_2 => simp at hr
  case h_1 e j i he hi =>
  obtain ⟨hst, hje⟩ := elemOf_ok hD he
  obtain ⟨inf, hj⟩ := hD.tyOk hje
  obtain ⟨inf2, hti⟩ := hD.tyOk hi
  have hui := hti.und
  have hts : (Builtin.append_ ts ty #[s', x']) = (Builtin.append_ #[st, xt] ty #[s', x']) := by
    unfold Builtin.append_
    rw [h0, h1]; rfl
  rw [hts]
  have src : ∀ {n : Nat} {new : List Value} (hk : (∃ e', P.underlying xt = some (.slice e')) ∨ P.underlying xt = some .string) (hn : lenA x = some n) (hf : firstA h j.size n x = some new) (hone : (∃ s, x = .string s) → j.size = 1) (hall : ∀ u ∈ new, oneC u = true) (hr : appR h e j s new n = some r), OpOK ρ h w r ((Builtin.append_ #[st, xt] ty #[s', x']).run P w) := by
    intro n new hk hn hf hone hall hr
    obtain ⟨l', g1, g2, g3⟩ := firstA_ok (P := P) hw hx hn (Nat.le_refl _) hf hone
    exact appR_ok hw hj hs g1 (SrcAny.ofSrc (inf := inf) ⟨hk, fun w' => lenA_ok hx hn w', by rw [hj.size]; exact g3 w rfl, by rw [hj.size]; exact g3 w.drew rfl, by rw [hj.size]; exact g2, fun u hu => by rw [one_eq]; exact g1.oneC' hall u hu⟩) hr hst
  split at hr
  · rename_i n hd
    rw [hd] at hui
    cases hc : (decide (0 ≤ n) && decide (n < 2 ^ 62) && decide (n * j.bytes ≤ 2 ^ 47) && j.zero.cells.toList.all oneC) <;> rw [hc] at hr
    · simp at hr
    simp only [cond_true] at hr
    simp only [Bool.and_eq_true, decide_eq_true_eq, List.all_eq_true] at hc
    obtain ⟨⟨⟨c1, c2⟩, c3⟩, c4⟩ := hc
    obtain ⟨m, rfl⟩ := Int.eq_ofNat_of_zero_le c1
    cases hx
    have hz : VRs ρ (zeros j.zero m) (zeros j.zero m) := zeros_VRs hj.free m
    have hb : m * inf.bytes ≤ 281474976710656 := by
      rw [hj.bytes]
      have : ((m * j.bytes : Nat) : Int) ≤ 2 ^ 47 := by rw [Int.natCast_mul]; exact c3
      have e : (2 : Int) ^ 47 = 140737488355328 := by decide
      omega
    have e46 : (2 : Int) ^ 62 = 4611686018427387904 := by decide
    exact appR_ok hw hj hs hz (SrcAny.ofZeros (e := e) hui hj.info hj.zero (by rw [hj.zsize, hj.size]) ⟨hj.free, c4⟩ (by omega) hb) (by simpa using hr) hst
  · rename_i e' b n c hd
    rw [hd] at hui
    split at hr
    case h_2 => simp at hr
    case h_1 new hnew =>
    cases hc : new.all oneC <;> rw [hc] at hr
    · simp at hr
    simp only [cond_true] at hr
    exact src (.inl ⟨_, hui⟩) rfl hnew (fun hs => by obtain ⟨s, hs⟩ := hs; cases hs) (fun u hu => List.all_eq_true.1 hc u hu) hr
  · rename_i b hd
    rw [hd] at hui
    cases hsz : j.size.beq 1 <;> rw [hsz] at hr
    · simp at hr
    simp only [cond_true] at hr
    split at hr
    case h_2 => simp at hr
    case h_1 new hnew =>
    refine src (.inr hui) rfl hnew (fun _ => Nat.eq_of_beq_eq_true hsz) ?_ hr
    obtain rfl := Option.some.inj hnew
    intro u hu
    obtain ⟨_, _, rfl⟩ := List.mem_map.1 hu
    rfl
  · simp at hr
end
end Go.Abs

/- The operations, one by one: len, slices, indexes, fields. -/
namespace Go.Abs
open Go
section
variable {P : Program} {D : Data} {ρ : Ren} {h : H} {w : World} {t : Tr Value} {a : Act}

theorem ESR.length {ρ : Ren} : ∀ {l : List (Value × Value)} {l' : List MapEntry}, ESR ρ l l' → l.length = l'.length
  | [], [], _ => rfl
  | _ :: _, _ :: _, x => by simp [ESR.length x.2.2.2]
  | [], _ :: _, x => x.elim
  | _ :: _, [], x => x.elim
theorem lenOf_ok (hD : DOk P D) (hw : WR ρ h w) {ty : TypeId} {x x' : Value} (hx : VR ρ x x') {v : Value} (hv : lenOf D h ty x = some v) {ts : Array TypeId} (hts : ts[0]? = some ty) (rt : TypeId) :
    (Builtin.len_ ts rt #[x']).run P w = .ok v w ∧ VR ρ v v := by
  unfold lenOf at hv
  split at hv
  case h_2 => simp at hv
  case h_1 i hi =>
  obtain ⟨inf, hj⟩ := hD.tyOk hi
  have hu := hj.und
  split at hv
  case h_6 => simp at hv
  all_goals rename_i hd; rw [hd] at hu
  · cases hx; obtain rfl := Option.some.inj hv
    exact ⟨by simp [Builtin.len_, hts, run_underlying hu, goInt], .int _ _⟩
  · obtain rfl := Option.some.inj hv
    exact ⟨by simp [Builtin.len_, hts, run_underlying hu, goInt], .int _ _⟩
  · obtain rfl := Option.some.inj hv
    cases hx <;> exact ⟨by simp [Builtin.len_, hts, run_underlying hu, goInt], .int _ _⟩
  · cases hx; obtain rfl := Option.some.inj hv
    exact ⟨by simp [Builtin.len_, hts, run_underlying hu, goInt], .int _ _⟩
  · split at hv
    case h_2 => simp at hv
    case h_1 es hes =>
    obtain rfl := Option.some.inj hv
    cases hx with
    | map _ L hL =>
    obtain ⟨_, es', clk, h1, h2⟩ := hw.obj _ _ hes 0 L hL
    have hg : (getObj L.cb).run P w = .ok (.map es' clk) w := by simp [getObj, Sem.run, h1]
    have := h2.1.length
    simp only [Array.length_toList] at this
    exact ⟨by simp [Builtin.len_, hts, run_underlying hu, goInt, hg, this], .int _ _⟩

theorem capOf_ok (hD : DOk P D) {ty : TypeId} {x x' : Value} (hx : VR ρ x x') {v : Value} (hv : capOf D ty x = some v) {ts : Array TypeId} (hts : ts[0]? = some ty) (rt : TypeId) (w : World) :
    (Builtin.cap_ ts rt #[x']).run P w = .ok v w ∧ VR ρ v v := by
  unfold capOf at hv
  split at hv
  case h_2 => simp at hv
  case h_1 i hi =>
  obtain ⟨inf, hj⟩ := hD.tyOk hi
  have hu := hj.und
  split at hv
  · rename_i l c hd
    rw [hd] at hu
    cases hc : (l.beq 0 && c.beq 0) <;> rw [hc] at hv
    · simp at hv
    simp only [cond_true, Option.some.injEq] at hv
    subst hv
    cases hx
    exact ⟨by simp [Builtin.cap_, hts, run_underlying hu, goInt], .int _ _⟩
  · rename_i p n c hd
    rw [hd] at hu
    split at hv
    · rename_i k hk
      obtain rfl := Option.some.inj hv
      cases hx with
      | slice _ c' _ _ cap' hs =>
      rw [hk] at hs
      have e := hs.1
      subst e
      exact ⟨by simp [Builtin.cap_, hts, run_underlying hu, goInt], .int _ _⟩
    · simp at hv
  · simp at hv
theorem foldMax_ok : ∀ (l l' : List Value) (x x' v : Value), VRs ρ l l' → VR ρ x x' → foldInt (fun x y => if y > x then y else x) x l = some v → ∀ w : World, (l'.foldlM Builtin.max2 x').run P w = .ok v w ∧ VR ρ v v
  | [], _, x, x', v, .nil, hx, hv, w => by
    cases x <;> simp [foldInt] at hv
    subst hv; cases hx
    exact ⟨rfl, .int _ _⟩
  | y :: l, _, x, x', v, .cons p q, hx, hv, w => by
    cases x <;> try (simp [foldInt] at hv; done)
    cases y <;> try (simp [foldInt] at hv; done)
    rename_i k n k' m
    cases hx; cases p
    by_cases hk : k = k'
    · subst hk
      simp only [foldInt, decide_true, cond_true] at hv
      obtain ⟨g1, g2⟩ := foldMax_ok l _ _ _ v q (.int k (if m > n then m else n)) hv w
      refine ⟨?_, g2⟩
      simp only [List.foldlM_cons, Builtin.max2, pure_bind]
      exact g1
    · simp [foldInt, hk] at hv
theorem foldMin_ok : ∀ (l l' : List Value) (x x' v : Value), VRs ρ l l' → VR ρ x x' → foldInt (fun x y => if y < x then y else x) x l = some v → ∀ w : World, (l'.foldlM Builtin.min2 x').run P w = .ok v w ∧ VR ρ v v
  | [], _, x, x', v, .nil, hx, hv, w => by
    cases x <;> simp [foldInt] at hv
    subst hv; cases hx
    exact ⟨rfl, .int _ _⟩
  | y :: l, _, x, x', v, .cons p q, hx, hv, w => by
    cases x <;> try (simp [foldInt] at hv; done)
    cases y <;> try (simp [foldInt] at hv; done)
    rename_i k n k' m
    cases hx; cases p
    by_cases hk : k = k'
    · subst hk
      simp only [foldInt, decide_true, cond_true] at hv
      obtain ⟨g1, g2⟩ := foldMin_ok l _ _ _ v q (.int k (if m < n then m else n)) hv w
      refine ⟨?_, g2⟩
      simp only [List.foldlM_cons, Builtin.min2, pure_bind]
      exact g1
    · simp [foldInt, hk] at hv

theorem bnd_ok {y : Nat} {v v' : Value} (hv : VR ρ v v') {n : Nat} (hb : bnd y v = some n) : n ≤ y ∧ ∀ (y' : Nat) (code : BoundsCode) (w : World), y ≤ y' → (Instr.sliceBound v' y' code).run P w = .ok n w := by
  cases v <;> simp only [bnd] at hb <;> try (simp at hb; done)
  rename_i k i
  cases hv
  cases hc : (decide (0 ≤ i) && decide (i ≤ y)) <;> rw [hc] at hb
  · simp at hb
  simp only [cond_true, Option.some.injEq] at hb
  simp only [Bool.and_eq_true, decide_eq_true_eq] at hc
  subst hb
  refine ⟨by omega, fun y' code w hy => ?_⟩
  have : ¬ ((y' : Int) < i) := by omega
  simp [Instr.sliceBound, asIntOf, hc.1, this]
def bO (v : Option Value) (y d : Nat) (code : BoundsCode) : Sem Nat := match v with
  | some u => Instr.sliceBound u y code
  | none => pure d
theorem bndO_ok {y d : Nat} {v v' : Option Value} (hv : VRo ρ v v') {n : Nat} (hb : bndO y d v = some n) (hd : d ≤ y) : n ≤ y ∧ (v = none → n = d) ∧ ∀ (y' : Nat) (code : BoundsCode) (w : World), y ≤ y' →
    (bO v' y' d code).run P w = .ok n w := by
  cases v <;> cases v' <;> simp only [VRo] at hv
  · obtain rfl := Option.some.inj hb
    exact ⟨hd, fun _ => rfl, fun y' code w _ => rfl⟩
  · obtain ⟨g1, g2⟩ := bnd_ok (P := P) hv hb
    exact ⟨g1, fun h => by simp at h, fun y' code w hy => g2 y' code w hy⟩

theorem capLow_le (hw : WR ρ h w) {p c : Addr} {len cap' size : Nat} {ck : CapK} (hs : SR ρ p len c cap' ck) : capLow h p len size ck ≤ cap' ∧ len ≤ capLow h p len size ck := by
  have hle := hs.le
  cases ck with
  | exact k => exact ⟨by rw [hs.1]; exact Nat.le_refl _, hs.2.1⟩
  | unk0 z => exact ⟨hle, Nat.le_refl _⟩
  | any => exact ⟨hle, Nat.le_refl _⟩
  | unk z =>
    unfold capLow
    simp only
    split
    · rename_i r e ho he
      cases hc : (e.beq r.ver && z.beq size && (0).blt size) with
      | false => exact ⟨hle, Nat.le_refl _⟩
      | true =>
        simp only [Bool.and_eq_true, nbeq_eq] at hc
        obtain ⟨⟨c1, c2⟩, c3⟩ := hc
        have c3 : 0 < size := Nat.le_of_ble_eq_true c3
        simp only [cond_true]
        refine ⟨?_, Nat.le_max_left _ _⟩
        obtain ⟨_, L, ⟨e', p1, p2, p3, p4, p5, p6⟩, s3, s4⟩ := hs
        rw [he] at p1
        obtain rfl := Option.some.inj p1
        have := ((hw.obj _ _ ho).loc _ _ p2).top c1
        refine Nat.max_le.2 ⟨hle, ?_⟩
        rw [c2] at s4
        refine Nat.div_le_of_le_mul ?_
        rw [Nat.mul_comm]; omega
    · exact ⟨hle, Nat.le_refl _⟩
theorem capLow_ar {p c : Addr} {len cap' size : Nat} {ck : CapK} (hs : SR ρ p len c cap' ck) (h0 : 0 < capLow h p len size ck) : AR ρ p c := by
  cases ck with
  | exact k => exact hs.2.2.resolve_left (by have : 0 < k := h0; omega)
  | unk z => obtain ⟨_, L, hL, _⟩ := hs; exact ⟨L, hL⟩
  | unk0 z => exact hs.ar (by have : 0 < len := h0; omega)
  | any => exact hs.ar (by have : 0 < len := h0; omega)
theorem add_zero (c : Addr) : c.add 0 = c := by simp [Addr.add]
theorem addif {p c : Addr} (hp : AR ρ p c) (n : Nat) : AR ρ (add p n) (c.add n) := hp.add n

theorem bounds_run {isSlice : Bool} {len cap m b l : Nat} {lo hi mx : Option Value} (hm : ∀ code, (bO mx cap cap code).run P w = .ok m w)
    (hb : ∀ code, (bO hi m len code).run P w = .ok b w) (hl : ∀ code, (bO lo b 0 code).run P w = .ok l w)
    (hno : hi = none → mx = none) : (Instr.sliceBounds isSlice len cap lo hi mx).run P w = .ok (l, b, m) w := by
  unfold Instr.sliceBounds
  cases lo <;> cases hi <;> cases mx <;> simp only [bO] at hm hb hl <;> first
    | (exfalso; simp at hno; done)
    | ((try simp only [Sem.run_pure, Result.ok.injEq, and_true] at hm hb hl)
       simp_all)

theorem slA_ok (hD : DOk P D) (hw : WR ρ h w) {ty : TypeId} {x x' : Value} (hx : VR ρ x x') {lo hi mx lo' hi' mx' : Option Value} (hlo : VRo ρ lo lo') (hhi : VRo ρ hi hi') (hmx : VRo ρ mx mx') {v : Value} (hv : slA D h ty x lo hi mx = some v) :
    ∃ v', (Instr.sliceAt ty x' lo' hi' mx').run P w = .ok v' w ∧ VR ρ v v' := by
  unfold slA at hv
  split at hv
  case h_2 => simp at hv
  case h_1 i hi_ =>
  obtain ⟨inf, hj⟩ := hD.tyOk hi_
  have hu := hj.und
  have hnn : ∀ {o o' : Option Value}, VRo ρ o o' → (o' = none → o = none) ∧ (o = none → o' = none) := by
    intro o o' hh
    cases o <;> cases o' <;> simp_all [VRo]
  split at hv
  · -- a string
    rename_i s hd
    rw [hd] at hu
    cases hx
    split at hv
    · simp at hv
    · obtain rfl := (hnn hmx).2 rfl
      split at hv
      case h_2 => simp at hv
      case h_1 b hb =>
      split at hv
      case h_2 => simp at hv
      case h_1 l hl =>
      obtain rfl := Option.some.inj hv
      obtain ⟨b1, b2, b3⟩ := bndO_ok (P := P) hhi hb (Nat.le_refl _)
      obtain ⟨l1, l2, l3⟩ := bndO_ok (P := P) hlo hl (Nat.zero_le _)
      have hbd := bounds_run (P := P) (w := w) (isSlice := false) (len := s.size) (cap := s.size) (mx := none) (m := s.size) (fun code => rfl) (fun code => b3 _ code w (Nat.le_refl _)) (fun code => l3 _ code w (Nat.le_refl _)) (fun _ => rfl)
      exact ⟨.string (s.extract l b), by simp [Instr.sliceAt, Instr.slice, run_underlying hu, hbd], .string _⟩
  · -- a nil slice
    rename_i e l c hd
    rw [hd] at hu
    cases hc : (l.beq 0 && c.beq 0) <;> rw [hc] at hv
    · simp at hv
    simp only [cond_true] at hv
    simp only [Bool.and_eq_true, nbeq_eq] at hc
    obtain ⟨rfl, rfl⟩ := hc
    cases hx
    cases hje : D.ty.get e with
    | none => rw [hje] at hv; simp at hv
    | some je =>
    rw [hje] at hv
    obtain ⟨enf, hte⟩ := hD.tyOk hje
    simp only at hv
    split at hv
    case h_2 => simp at hv
    case h_1 m b l hm hb hl =>
    have hno : hi' = none → mx' = none := by
      intro hh
      have h1 := (hnn hhi).1 hh
      subst h1
      cases mx with
      | none => exact (hnn hmx).2 rfl
      | some m => simp at hv
    have hv' : v = .slice none 0 0 := by
      split at hv
      · simp at hv
      · exact (Option.some.inj hv).symm
    subst hv'
    obtain ⟨m1, m2, m3⟩ := bndO_ok (P := P) hmx hm (Nat.le_refl _)
    obtain ⟨b1, b2, b3⟩ := bndO_ok (P := P) hhi hb (Nat.le_refl _)
    obtain ⟨l1, l2, l3⟩ := bndO_ok (P := P) hlo hl (Nat.le_refl _)
    obtain rfl : m = 0 := by omega
    obtain rfl : b = 0 := by omega
    obtain rfl : l = 0 := by omega
    have hbd := bounds_run (P := P) (w := w) (isSlice := true) (len := 0) (cap := 0) (m := 0) (fun code => m3 _ code w (Nat.le_refl _)) (fun code => b3 _ code w (Nat.le_refl _)) (fun code => l3 _ code w (Nat.le_refl _)) hno
    exact ⟨.slice none 0 0, by simp [Instr.sliceAt, Instr.slice, run_underlying hu, hbd, sizeOf_run hte], .slice0⟩
  · -- a slice
    rename_i e p len cap hd
    rw [hd] at hu
    split at hv
    case h_2 => simp at hv
    case h_1 j hje =>
    obtain ⟨enf, hte⟩ := hD.tyOk hje
    cases hx with
    | slice _ c _ _ cap' hs =>
    have hcl := capLow_le (size := j.size) hw hs
    have har := capLow_ar (h := h) (size := j.size) hs
    generalize hck : capK cap = ck at hv hs hcl har
    simp only at hv
    split at hv
    · -- three indexes
      rename_i m_
      split at hv
      case h_2 => simp at hv
      case h_1 hhi' m hi_ hm =>
      split at hv
      case h_2 => simp at hv
      case h_1 b hb =>
      split at hv
      case h_2 => simp at hv
      case h_1 l hl =>
      rw [cond_eq_ite] at hv
      split at hv
      · simp at hv
      rename_i hcond
      obtain rfl := Option.some.inj hv
      have hmB : m < B63 := by
        cases hh : m.blt B63 with
        | true => exact Nat.le_of_ble_eq_true hh
        | false => exfalso; apply hcond; rw [hh]; simp
      cases mx' with
      | none => exact hmx.elim
      | some mv =>
      cases hi' with
      | none => exact hhi.elim
      | some hv' =>
      obtain ⟨m1, m2⟩ := bnd_ok (P := P) hmx hm
      obtain ⟨b1, b2⟩ := bnd_ok (P := P) hhi hb
      obtain ⟨l1, l2, l3⟩ := bndO_ok (P := P) hlo hl (Nat.zero_le _)
      have hbd := bounds_run (P := P) (w := w) (isSlice := true) (len := len) (cap := cap') (mx := some mv) (hi := some hv') (m := m) (fun code => m2 _ code w (by omega)) (fun code => b2 _ code w (Nat.le_refl _)) (fun code => l3 _ code w (Nat.le_refl _)) (fun h => by simp at h)
      refine ⟨.slice (some (if m = l then c else c.add (l * j.size))) (b - l) (m - l), by simp only [Instr.sliceAt, Instr.slice, Sem.run_bind, run_underlying hu, Result.andThen_ok, hbd, sizeOf_run hte, Sem.run_pure]; split <;> rfl, ?_⟩
      refine .slice _ _ _ _ _ ?_
      rw [capK_exact (by omega)]
      refine ⟨rfl, by omega, ?_⟩
      by_cases hml : m = l
      · left; omega
      · right
        rw [nbeq_f hml, if_neg hml]
        exact (har (by omega)).add _
    · obtain rfl := (hnn hmx).2 rfl
      split at hv
      case h_2 => simp at hv
      case h_1 b hb =>
      split at hv
      case h_2 => simp at hv
      case h_1 l hl =>
      obtain ⟨b1, b2, b3⟩ := bndO_ok (P := P) hhi hb hcl.2
      obtain ⟨l1, l2, l3⟩ := bndO_ok (P := P) hlo hl (Nat.zero_le _)
      have hbd := bounds_run (P := P) (w := w) (isSlice := true) (len := len) (cap := cap') (mx := none) (m := cap') (fun code => rfl) (fun code => b3 _ code w hcl.1) (fun code => l3 _ code w (Nat.le_refl _)) (fun _ => rfl)
      have hrun : (Instr.sliceAt ty (.slice (some c) len cap') lo' hi' none).run P w = .ok (.slice (some (if cap' = l then c else c.add (l * j.size))) (b - l) (cap' - l)) w := by
        simp only [Instr.sliceAt, Instr.slice, Sem.run_bind, run_underlying hu, Result.andThen_ok, hbd, sizeOf_run hte, Sem.run_pure]; split <;> rfl
      refine ⟨_, hrun, ?_⟩
      cases ck with
      | exact k =>
        simp only at hv
        obtain rfl := Option.some.inj hv
        obtain ⟨e1, e2, e3⟩ := hs
        subst e1
        have hkB : cap' < B63 := capK_exact_lt hck
        refine .slice _ _ _ _ _ ?_
        rw [capK_exact (by omega)]
        have hbk : b ≤ cap' := b1
        refine ⟨rfl, by omega, ?_⟩
        by_cases hml : cap' = l
        · left; omega
        · right
          rw [nbeq_f hml, if_neg hml]
          exact (e3.resolve_left (by omega)).add _
      | unk z =>
        simp only at hv
        obtain ⟨s1, L, s2, s3, s4⟩ := hs
        by_cases hl0 : l = 0
        · subst hl0
          simp only [nbeq_t rfl, cond_true, Option.some.injEq] at hv
          subst hv
          have e : (if cap' = 0 then c else c.add (0 * j.size)) = c := by split <;> simp [add_zero]
          rw [e]
          refine .slice _ _ _ _ _ ?_
          rw [hck]
          exact ⟨by omega, L, s2, s3, s4⟩
        · rw [nbeq_f hl0] at hv
          simp only [cond_false] at hv
          by_cases hz : z = j.size
          · rw [nbeq_t hz] at hv
            simp only [Bool.not_true, cond_false] at hv
            have hzB : z < B63 := by have := hte.small; unfold B63; omega
            by_cases hbl : b = l
            · rw [nbeq_t hbl] at hv
              simp only [cond_true, Option.some.injEq] at hv
              subst hv
              rw [show b - l = 0 by omega]
              refine .slice _ _ _ _ _ ?_
              rw [capK_UNK0 z hzB]
              by_cases hml : cap' = l
              · left; omega
              · right
                rw [if_neg hml]
                have e : l * j.size + (cap' - l) * j.size = cap' * j.size := by rw [← Nat.add_mul]; congr 1; omega
                refine ⟨Nat.zero_le _, L, s2.add _, ?_, ?_⟩
                · rw [caddr (by obtain ⟨_, _, _, _, h4, _⟩ := s2; exact h4)]; subst hz; show c.off + l * j.size + _ ≤ _; omega
                · subst hz; show _ ≤ p.off + l * j.size + _; omega
            · rw [nbeq_f hbl] at hv
              simp only [cond_false, Option.some.injEq] at hv
              subst hv
              have hml : ¬ cap' = l := by omega
              rw [if_neg hml]
              refine .slice _ _ _ _ _ ?_
              rw [hck]
              have e : l * j.size + (cap' - l) * j.size = cap' * j.size := by rw [← Nat.add_mul]; congr 1; omega
              refine ⟨by omega, L, s2.add _, ?_, ?_⟩
              · rw [caddr (by obtain ⟨_, _, _, _, h4, _⟩ := s2; exact h4)]; subst hz; show c.off + l * j.size + _ ≤ _; omega
              · subst hz; show _ ≤ p.off + l * j.size + _; omega
          · rw [nbeq_f hz] at hv; simp at hv
      | unk0 z =>
        simp only at hv
        by_cases hl0 : l = 0
        · subst hl0
          simp only [nbeq_t rfl, cond_true, Option.some.injEq] at hv
          subst hv
          have e : (if cap' = 0 then c else c.add (0 * j.size)) = c := by split <;> simp [add_zero]
          rw [e]
          refine .slice _ _ _ _ _ ?_
          rw [hck]
          have hbl : b ≤ len := b1
          rcases hs with ⟨d1, d2⟩ | ⟨s1, L, s2, s3, s4⟩
          · left; omega
          · right; exact ⟨by omega, L, s2, s3, s4⟩
        · rw [nbeq_f hl0] at hv; simp at hv
      | any =>
        simp only at hv
        obtain rfl := Option.some.inj hv
        refine .slice _ _ _ _ _ ?_
        rw [hck]
        have hbl : b ≤ len := b1
        refine ⟨by omega, ?_⟩
        by_cases h0 : b - l = 0
        · exact .inl h0
        · right
          rw [if_neg (by omega)]
          exact (hs.2.resolve_left (by omega)).add _
  · -- an array
    rename_i n e p hd
    rw [hd] at hu
    split at hv
    case h_2 => simp at hv
    case h_1 j hje =>
    obtain ⟨enf, hte⟩ := hD.tyOk hje
    cases hx with
    | ptr _ c hp =>
    split at hv
    · simp at hv
    · obtain rfl := (hnn hmx).2 rfl
      split at hv
      case h_2 => simp at hv
      case h_1 b hb =>
      split at hv
      case h_2 => simp at hv
      case h_1 l hl =>
      cases hnB : n.blt B63 <;> rw [hnB] at hv
      · simp at hv
      simp only [cond_true, Option.some.injEq] at hv
      subst hv
      have hnB : n < B63 := Nat.le_of_ble_eq_true hnB
      obtain ⟨b1, b2, b3⟩ := bndO_ok (P := P) hhi hb (Nat.le_refl _)
      obtain ⟨l1, l2, l3⟩ := bndO_ok (P := P) hlo hl (Nat.zero_le _)
      have hbd := bounds_run (P := P) (w := w) (isSlice := false) (len := n) (cap := n) (mx := none) (m := n) (fun code => rfl) (fun code => b3 _ code w (Nat.le_refl _)) (fun code => l3 _ code w (Nat.le_refl _)) (fun _ => rfl)
      refine ⟨.slice (some (if n = l then c else c.add (l * j.size))) (b - l) (n - l), ?_, ?_⟩
      · simp only [Instr.sliceAt, Instr.sureAddr, Sem.run_bind, run_underlying hu, Result.andThen_ok, hbd, sizeOf_run hte, Sem.run_pure]
      · refine .slice _ _ _ _ _ ?_
        rw [capK_exact (by omega)]
        refine ⟨rfl, by omega, ?_⟩
        by_cases hml : n = l
        · left; omega
        · right
          rw [nbeq_f hml, if_neg hml]
          exact hp.add _
  · simp at hv
end
end Go.Abs

/- The operations, one by one: indexes, fields, literals, make, clear, copy. -/
namespace Go.Abs
open Go
section
variable {P : Program} {D : Data} {ρ : Ren} {h : H} {w : World} {t : Tr Value} {a : Act}

theorem idx_ok {n : Nat} {v v' : Value} (hv : VR ρ v v') {k : Nat} (hk : idx n v = some k) : k < n ∧ ∃ kd, v' = .int kd (k : Int) := by
  cases v <;> simp only [idx] at hk <;> try (simp at hk; done)
  rename_i kd i
  cases hv
  cases hc : (decide (0 ≤ i) && decide (i < n)) <;> rw [hc] at hk
  · simp at hk
  simp only [cond_true, Option.some.injEq] at hk
  simp only [Bool.and_eq_true, decide_eq_true_eq] at hc
  subst hk
  exact ⟨by omega, kd, by congr 1; omega⟩
theorem partA_ok {e : TypeId} {j : TyI} {inf : TypeInfo} (hj : TyOk P e j inf) {cs cs' : Array Value} (hc : VRs ρ cs.toList cs'.toList) {off : Nat} {v : Value} (hv : partA j cs.toList off = some v) : ∃ v', (part e cs' off).run P w = .ok v' w ∧ VR ρ v v' := by
  unfold partA at hv
  unfold part
  cases hag : j.agg <;> rw [hag] at hv
  · simp only [cond_false] at hv
    obtain ⟨v', h1, h2⟩ := hc.get _ _ hv
    have h1 : cs'[off]? = some v' := by simpa using h1
    exact ⟨v', by simp [isAgg_run hj, hag, h1], h2⟩
  · simp only [cond_true, Option.some.injEq] at hv
    subst hv
    refine ⟨.agg (cs'.extract off (off + j.size)), by simp [isAgg_run hj, hag, sizeOf_run hj], .agg _ _ ?_⟩
    have := (hc.drop off).take j.size
    simpa [Array.toList_extract, List.extract_eq_take_drop] using this
theorem indexA_ok (hD : DOk P D) {ty : TypeId} {x x' ix ix' : Value} (hx : VR ρ x x') (hi : VR ρ ix ix') {v : Value} (hv : indexA D ty x ix = some v) : ∃ v', (Instr.index ty x' ix').run P w = .ok v' w ∧ VR ρ v v' := by
  unfold indexA at hv
  split at hv
  case h_2 => simp at hv
  case h_1 i hti =>
  obtain ⟨inf, hj⟩ := hD.tyOk hti
  have hu := hj.und
  split at hv
  · rename_i n e cs hd
    rw [hd] at hu
    split at hv
    case h_2 => simp at hv
    case h_1 j k hje hk =>
    obtain ⟨enf, hte⟩ := hD.tyOk hje
    obtain ⟨hkn, kd, rfl⟩ := idx_ok hi hk
    cases hc : ((k + 1) * j.size).ble cs.size <;> rw [hc] at hv
    · simp at hv
    simp only [cond_true] at hv
    cases hx with
    | agg _ cs' hcs =>
    obtain ⟨v', h1, h2⟩ := partA_ok (P := P) (w := w) hte hcs hv
    exact ⟨v', by simp [Instr.index, asIntOf, run_underlying hu, hkn, sizeOf_run hte, h1], h2⟩
  · rename_i s hd
    rw [hd] at hu
    cases hx
    split at hv
    case h_2 => simp at hv
    case h_1 k hk =>
    obtain ⟨hkn, kd, rfl⟩ := idx_ok hi hk
    split at hv
    case h_2 => simp at hv
    case h_1 b hb =>
    obtain rfl := Option.some.inj hv
    have hg : s[k]? = some b := by
      have e : s[k]? = s.data[k]? := by
        simp only [getElem?_def]
        by_cases hlt : k < s.size
        · rw [dif_pos hlt, dif_pos (show k < s.data.size from hlt)]; rfl
        · rw [dif_neg hlt, dif_neg (show ¬ k < s.data.size from hlt)]
      rw [e]; simpa using hb
    exact ⟨_, by simp [Instr.index, asIntOf, run_underlying hu, hg], .int _ _⟩
  · simp at hv
theorem idxAddr_ok (hD : DOk P D) {ty : TypeId} {x x' ix ix' : Value} (hx : VR ρ x x') (hi : VR ρ ix ix') {v : Value} (hv : idxAddr D ty x ix = some v) : ∃ v', (Instr.indexAt ty x' ix').run P w = .ok v' w ∧ VR ρ v v' := by
  unfold idxAddr at hv
  split at hv
  case h_2 => simp at hv
  case h_1 i hti =>
  obtain ⟨inf, hj⟩ := hD.tyOk hti
  have hu := hj.und
  split at hv
  · rename_i n e p hd
    rw [hd] at hu
    split at hv
    case h_2 => simp at hv
    case h_1 j k hje hk =>
    obtain ⟨enf, hte⟩ := hD.tyOk hje
    obtain ⟨hkn, kd, rfl⟩ := idx_ok hi hk
    obtain rfl := Option.some.inj hv
    cases hx with
    | ptr _ c hp =>
    exact ⟨_, by simp [Instr.indexAt, Instr.sureAddr, asIntOf, run_underlying hu, hkn, sizeOf_run hte], .ptr _ _ (hp.add _)⟩
  · rename_i e p n cap hd
    rw [hd] at hu
    split at hv
    case h_2 => simp at hv
    case h_1 j k hje hk =>
    obtain ⟨enf, hte⟩ := hD.tyOk hje
    obtain ⟨hkn, kd, rfl⟩ := idx_ok hi hk
    obtain rfl := Option.some.inj hv
    cases hx with
    | slice _ c _ _ cap' hs =>
    exact ⟨_, by simp [Instr.indexAt, asIntOf, run_underlying hu, hkn, sizeOf_run hte], .ptr _ _ ((hs.ar (by omega)).add _)⟩
  · simp at hv
theorem fldAddr_ok (hD : DOk P D) {ty : TypeId} {x x' : Value} (hx : VR ρ x x') {f : Nat} {v : Value} (hv : fldAddr D ty x f = some v) : ∃ v', (Instr.fieldAt ty x' f).run P w = .ok v' w ∧ VR ρ v v' := by
  unfold fldAddr at hv
  split at hv
  case h_2 => simp at hv
  case h_1 i hti =>
  obtain ⟨inf, hj⟩ := hD.tyOk hti
  have hu := hj.und
  split at hv
  · rename_i fs p hd
    rw [hd] at hu
    split at hv
    case h_2 => simp at hv
    case h_1 fd hf =>
    split at hv
    case h_2 => simp at hv
    case h_1 j hje =>
    obtain ⟨enf, hte⟩ := hD.tyOk hje
    cases hz : j.size.beq 0 <;> rw [hz] at hv
    case true => simp at hv
    simp only [cond_false, Option.some.injEq] at hv
    subst hv
    have hz0 : j.size ≠ 0 := fun h0 => by rw [nbeq_t h0] at hz; simp at hz
    cases hx with
    | ptr _ c hp =>
    exact ⟨_, by simp [Instr.fieldAt, Instr.sureAddr, run_underlying hu, hf, fieldPlace, sizeOf_run hte, hz0], .ptr _ _ (hp.add _)⟩
  · simp at hv
theorem fldA_ok (hD : DOk P D) {ty : TypeId} {x x' : Value} (hx : VR ρ x x') {f : Nat} {v : Value} (hv : fldA D ty x f = some v) : ∃ v', (Instr.field ty x' f).run P w = .ok v' w ∧ VR ρ v v' := by
  unfold fldA at hv
  split at hv
  case h_2 => simp at hv
  case h_1 i hti =>
  obtain ⟨inf, hj⟩ := hD.tyOk hti
  have hu := hj.und
  split at hv
  · rename_i fs cs hd
    rw [hd] at hu
    split at hv
    case h_2 => simp at hv
    case h_1 fd hf =>
    split at hv
    case h_2 => simp at hv
    case h_1 j hje =>
    obtain ⟨enf, hte⟩ := hD.tyOk hje
    cases hc : (fd.offset + j.size).ble cs.size <;> rw [hc] at hv
    · simp at hv
    simp only [cond_true] at hv
    cases hx with
    | agg _ cs' hcs =>
    obtain ⟨v', h1, h2⟩ := partA_ok (P := P) (w := w) hte hcs hv
    exact ⟨v', by simp [Instr.field, run_underlying hu, hf, asAgg, h1], h2⟩
  · simp at hv

/-! literals -/
theorem fold_set (off : Nat) : ∀ (vs : List Value) (s : Nat) (cells : Array Value) (i : Nat),
    ((vs.zipIdx s).foldl (fun (cs : Array Value) (p : Value × Nat) => cs.setIfInBounds (off + p.2) p.1) cells)[i]? = if off + s ≤ i ∧ i < off + s + vs.length ∧ i < cells.size then vs[i - (off + s)]? else cells[i]?
  | [], s, cells, i => by simp; omega
  | v :: vs, s, cells, i => by
    rw [List.zipIdx_cons, List.foldl_cons, fold_set off vs (s + 1)]
    simp only [Array.size_setIfInBounds]
    by_cases h1 : i = off + s
    · subst h1
      rw [if_neg (by omega)]
      by_cases h2 : off + s < cells.size
      · rw [if_pos (by simp; omega), Array.getElem?_setIfInBounds_self_of_lt h2]; simp
      · rw [if_neg (by omega), Array.getElem?_eq_none (by simpa using h2), Array.getElem?_eq_none (by simpa using h2)]
    · by_cases h2 : off + s ≤ i ∧ i < off + s + (v :: vs).length ∧ i < cells.size
      · rw [if_pos h2, if_pos (by simp at h2 ⊢; omega)]
        obtain ⟨d, hd⟩ : ∃ d, i - (off + s) = d + 1 := ⟨i - (off + s) - 1, by omega⟩
        rw [hd, show i - (off + (s + 1)) = d by omega]; simp
      · rw [if_neg h2, if_neg (by simp at h2 ⊢; omega), Array.getElem?_setIfInBounds_ne (by omega)]
theorem fillA_ok {place place' : Nat → Option (Nat × Nat)} (hp : ∀ k p, place k = some p → place' k = some p) : ∀ (parts parts' : List (Nat × Value)) (cells : List Value) (cells' : Array Value) (l : List Value), PRs ρ parts parts' → VRs ρ cells cells'.toList → fillA place cells parts = some l →
    ∃ l' : Array Value, Instr.fill place' cells' parts' = some l' ∧ VRs ρ l l'.toList
  | [], _, cells, cells', l, .nil, hc, hl => by obtain rfl := Option.some.inj hl; exact ⟨cells', rfl, hc⟩
  | (i, v) :: parts, _, cells, cells', l, .cons (v' := v') (l' := parts') hv hps, hc, hl => by
    unfold fillA at hl
    split at hl
    · simp at hl
    · rename_i off size hpl
      cases hcond : (v.cells.size.beq size && (off + size).ble cells.length) <;> rw [hcond] at hl
      · simp at hl
      simp only [cond_true] at hl
      simp only [Bool.and_eq_true, nbeq_eq] at hcond
      obtain ⟨c1, c2⟩ := hcond
      have c2 := Nat.le_of_ble_eq_true c2
      have hvl := hv.cells.length
      have hcl := hc.length
      simp only [Array.length_toList] at hvl hcl
      have key : VRs ρ (cells.take off ++ v.cells.toList ++ cells.drop (off + size)) (v'.cells.zipIdx.foldl (fun cs (c, j) => cs.setIfInBounds (off + j) c) cells').toList := by
        have e : (v'.cells.zipIdx.foldl (fun cs (c, j) => cs.setIfInBounds (off + j) c) cells').toList = cells'.toList.take off ++ v'.cells.toList ++ cells'.toList.drop (off + size) := by
          apply List.ext_getElem?
          intro k
          rw [Array.getElem?_toList, ← Array.foldl_toList, Array.toList_zipIdx]
          have := fold_set off v'.cells.toList 0 cells' k
          rw [this]
          simp only [Array.length_toList, Nat.add_zero]
          by_cases h1 : k < off
          · rw [if_neg (by omega), List.append_assoc, List.getElem?_append_left (by simp; omega), List.getElem?_take, if_pos h1, Array.getElem?_toList]
          · by_cases h2 : k < off + size
            · rw [if_pos (by omega), List.getElem?_append_left (by simp; omega), List.getElem?_append_right (by simp; omega)]
              congr 1; simp; omega
            · rw [if_neg (by omega), List.getElem?_append_right (by simp; omega), List.getElem?_drop, ← Array.getElem?_toList]
              congr 1; simp; omega
        rw [e]
        exact ((hc.take off).append hv.cells).append (hc.drop (off + size))
      obtain ⟨l', g1, g2⟩ := fillA_ok hp parts parts' _ _ l hps key hl
      refine ⟨l', ?_, g2⟩
      unfold Instr.fill
      rw [hp _ _ hpl]
      simp only
      rw [if_neg (by simp; omega)]
      exact g1
theorem buildA_ok (hD : DOk P D) {ty : TypeId} {parts parts' : List (Nat × Value)} (hp : PRs ρ parts parts') {v : Value} (hv : buildA D ty parts = some v) : ∃ v', (Instr.build ty parts'.toArray).run P w = .ok v' w ∧ VR ρ v v' := by
  unfold buildA at hv
  split at hv
  case h_2 => simp at hv
  case h_1 i hti =>
  obtain ⟨inf, hj⟩ := hD.tyOk hti
  have hu := hj.und
  have hzz : VRs ρ i.zero.cells.toList i.zero.cells.toList := (VR_free hj.free).cells
  split at hv
  · rename_i fs hd
    rw [hd] at hu
    cases hall : fs.toList.all (fun f => (D.ty.get f.type).isSome) <;> rw [hall] at hv
    · simp at hv
    simp only [Bool.not_true, cond_false, Option.map_eq_some_iff] at hv
    obtain ⟨l, hl, rfl⟩ := hv
    let g : Field → Nat × Nat := fun f => (f.offset, match D.ty.get f.type with | some j => j.size | none => 0)
    have hpl : ∀ (l : List Field) (w : World), l.all (fun f => (D.ty.get f.type).isSome) = true → (l.mapM (fun f : Field => (do pure (f.offset, ← Go.sizeOf f.type) : Sem (Nat × Nat)))).run P w = .ok (l.map g) w := by
      intro l
      induction l with
      | nil => intro w _; rfl
      | cons f l ih =>
        intro w hh
        simp only [List.all_cons, Bool.and_eq_true] at hh
        obtain ⟨j, hje⟩ := Option.isSome_iff_exists.1 hh.1
        obtain ⟨enf, hte⟩ := hD.tyOk hje
        simp only [List.mapM_cons, Sem.run_bind, sizeOf_run hte, Result.andThen_ok, Sem.run_pure, ih w hh.2, List.map_cons, g, hje]
    have hpl' : (fs.mapM (fun f : Field => (do pure (f.offset, ← Go.sizeOf f.type) : Sem (Nat × Nat)))).run P w = .ok (fs.map g) w := by
      rw [Array.mapM_eq_mapM_toList]
      simp only [Sem.run_map, hpl fs.toList w hall, Result.andThen_ok]
      congr 1
      apply Array.ext'; simp
    obtain ⟨l', g1, g2⟩ := fillA_ok (place' := fun i => (fs.map g)[i]?) (fun k p hk => by
      rw [Array.getElem?_map]
      cases hf : fs[k]? with
      | none => rw [hf] at hk; simp at hk
      | some f =>
        rw [hf] at hk
        simp only at hk
        simp only [Option.map_some, g]
        split at hk
        · rename_i j hje
          rw [hje]; exact hk
        · simp at hk) parts parts' _ i.zero.cells l hp hzz hl
    have hrun : (Instr.build ty parts'.toArray).run P w = .ok (.agg l') w := by
      simp only [Instr.build, Sem.run_bind, zero_run hj, run_underlying hu, Result.andThen_ok, hpl', g1, Sem.run_pure]
    exact ⟨.agg l', hrun, .agg _ _ (by simpa using g2)⟩
  · rename_i n e hd
    rw [hd] at hu
    split at hv
    case h_2 => simp at hv
    case h_1 j hje =>
    obtain ⟨enf, hte⟩ := hD.tyOk hje
    simp only [Option.map_eq_some_iff] at hv
    obtain ⟨l, hl, rfl⟩ := hv
    obtain ⟨l', g1, g2⟩ := fillA_ok (place' := fun i => some (i * j.size, j.size)) (fun k p h => h) parts parts' _ i.zero.cells l hp hzz hl
    exact ⟨.agg l', by simp [Instr.build, zero_run hj, run_underlying hu, sizeOf_run hte, g1], .agg _ _ (by simpa using g2)⟩
  · simp at hv
theorem buildSl_ok (hD : DOk P D) (hw : WR ρ h w) {ty : TypeId} {n : Nat} {parts parts' : List (Nat × Value)} (hp : PRs ρ parts parts') {r : OpR} (hr : buildSl D ty n parts = some r) : OpOK ρ h w r ((Instr.buildSlice ty n parts'.toArray).run P w) := by
  unfold buildSl at hr
  split at hr
  case h_2 => simp at hr
  case h_1 e j he =>
  obtain ⟨hu, hje⟩ := elemOf_ok hD he
  obtain ⟨enf, hte⟩ := hD.tyOk hje
  cases hc : ((n * j.size).ble (2 ^ 24) && n.ble (2 ^ 24)) <;> rw [hc] at hr
  · simp at hr
  simp only [cond_true] at hr
  simp only [Bool.and_eq_true] at hc
  have hc1 := Nat.le_of_ble_eq_true hc.2
  have hc := Nat.le_of_ble_eq_true hc.1
  split at hr
  case h_2 => simp at hr
  case h_1 l hl =>
  obtain rfl := Option.some.inj hr
  have hz0 : (Array.range (n * j.size)).map (fun i => (if n * j.size = 0 then (#[] : Array Value) else j.zero.cells)[i % (if n * j.size = 0 then (#[] : Array Value) else j.zero.cells).size]!) = (zeros j.zero n).toArray := by
    by_cases h0 : n * j.size = 0
    · have : zeros j.zero n = [] := List.eq_nil_of_length_eq_zero (by unfold zeros; simp [hte.zsize, h0])
      rw [this, h0]; simp
    · simp only [h0, if_false]
      apply Array.ext'
      rw [← zeros_cells]
      unfold Builtin.zeroCells
      rw [hte.zsize]
  obtain ⟨l', g1, g2⟩ := fillA_ok (place' := fun i => some (i * j.size, j.size)) (fun k p h => h) parts parts' _ (zeros j.zero n).toArray l hp (by simpa using zeros_VRs hte.free n) hl
  have hrun : (Instr.buildSlice ty n parts'.toArray).run P w = .ok (.slice (some ⟨w.heap.size, 0, none⟩) n n) (w.alloc (.cells l' e)) := by
    have hlt : ¬ (16777216 < n * j.size) := by have : 2 ^ 24 = 16777216 := by decide
                                               omega
    by_cases h0 : n * j.size = 0
    · have hzn : zeros j.zero n = [] := List.eq_nil_of_length_eq_zero (by unfold zeros; simp [hte.zsize, h0])
      rw [hzn] at g1
      have hm0 : Array.map (fun _ : Nat => (default : Value)) (Array.range 0) = #[] := Array.eq_empty_of_size_eq_zero (by simp)
      simp [Instr.buildSlice, run_underlying hu, sizeOf_run hte, h0, newRow]
      rw [hm0, g1]
      simp
    · simp only [h0, if_false] at hz0
      simp [Instr.buildSlice, run_underlying hu, sizeOf_run hte, hlt, h0, zero_run hte, hz0, g1, newRow]
  refine ⟨_, _, _, hrun, new_row (w := w) (h := h) g2 (w' := w.alloc _) (el := e) (f := (0, 0)) rfl (.inl rfl) (fun i v hi => by simpa using hi) rfl rfl ⟨rfl, by first | exact Nat.le_refl _ | exact Nat.le_succ _⟩ _ _ ?_⟩
  intro id ρ' hle hm
  refine .slice _ _ _ _ _ ?_
  rw [capK_exact (by have : 2 ^ 24 < B63 := by decide
                     omega)]
  exact ⟨rfl, Nat.le_refl _, .inr (AR_new hm)⟩
theorem mkSl_ok (hD : DOk P D) (hw : WR ρ h w) {ty : TypeId} {x y x' y' : Value} (hx : VR ρ x x') (hy : VR ρ y y') {r : OpR} (hr : mkSl D ty x y = some r) : OpOK ρ h w r ((Instr.makeSlice ty x' y').run P w) := by
  unfold mkSl at hr
  split at hr
  case h_2 => simp at hr
  case h_1 e j k1 n k2 c he =>
  obtain ⟨hu, hje⟩ := elemOf_ok hD he
  obtain ⟨enf, hte⟩ := hD.tyOk hje
  cases hc : (decide (0 ≤ n) && decide (n ≤ c) && decide (c * (j.bytes + 1) ≤ 2 ^ 46)) <;> rw [hc] at hr
  · simp at hr
  simp only [cond_true, Option.some.injEq] at hr
  subst hr
  simp only [Bool.and_eq_true, decide_eq_true_eq] at hc
  obtain ⟨⟨c1, c2⟩, c3⟩ := hc
  obtain ⟨n, rfl⟩ := Int.eq_ofNat_of_zero_le c1
  obtain ⟨c, rfl⟩ := Int.eq_ofNat_of_zero_le (Int.le_trans c1 c2)
  cases hx; cases hy
  have e46 : (2 : Int) ^ 46 = 70368744177664 := by decide
  rw [Int.mul_add, Int.mul_one, e46] at c3
  have hcb : ((c * j.bytes : Nat) : Int) + c ≤ 70368744177664 := by rw [Int.natCast_mul]; exact c3
  have hwn : IntKind.i64.wrap (n : Int) = n := by rw [IntKind.wrap_i64]; omega
  have hwc : IntKind.i64.wrap (c : Int) = c := by rw [IntKind.wrap_i64]; omega
  have hbig : ¬ (281474976710656 < (j.bytes : Int) * (c : Int)) := by rw [Int.mul_comm, ← Int.natCast_mul]; omega
  have hneg : ¬ ((c : Int) < 0) := by omega
  have hneg2 : ¬ ((n : Int) < 0) := by omega
  have hle : ¬ ((c : Int) < (n : Int)) := by omega
  have hzl : (zeros j.zero c).length = c * j.size := by unfold zeros; simp [hte.zsize]
  have hz0 : (Array.range (c * j.size)).map (fun i => (if c * j.size = 0 then (#[] : Array Value) else j.zero.cells)[i % (if c * j.size = 0 then (#[] : Array Value) else j.zero.cells).size]!) = (zeros j.zero c).toArray := by
    by_cases h0 : c * j.size = 0
    · have : zeros j.zero c = [] := List.eq_nil_of_length_eq_zero (by rw [hzl, h0])
      rw [this, h0]; simp
    · simp only [h0, if_false]
      apply Array.ext'
      rw [← zeros_cells]
      unfold Builtin.zeroCells
      rw [hte.zsize]
  have hrun : (Instr.makeSlice ty (.int k1 n) (.int k2 c)).run P w = .ok (.slice (some ⟨w.heap.size, 0, none⟩) n c) (w.alloc (.cells (zeros j.zero c).toArray e)) := by
    by_cases h0 : c * j.size = 0
    · simp only [h0, if_true] at hz0
      have hzn : zeros j.zero c = [] := List.eq_nil_of_length_eq_zero (by rw [hzl, h0])
      simp [Instr.makeSlice, run_underlying hu, asInt, asIntOf, typeInfo, hte.info, hte.bytes, hwn, hwc, hbig, hneg, hneg2, hle, sizeOf_run hte, h0, newRow, hzn]
      have hm0 : Array.map (fun _ : Nat => (default : Value)) (Array.range 0) = #[] := Array.eq_empty_of_size_eq_zero (by simp)
      rw [hm0]
    · simp only [h0, if_false] at hz0
      simp [Instr.makeSlice, run_underlying hu, asInt, asIntOf, typeInfo, hte.info, hte.bytes, hwn, hwc, hbig, hneg, hneg2, hle, sizeOf_run hte, h0, zero_run hte, hz0, newRow]
  refine ⟨_, _, _, hrun, new_row (w := w) (h := h) (zeros_VRs hte.free c) (w' := w.alloc _) (el := e) (f := (0, 0)) rfl (.inl rfl) (fun i v hi => by simpa using hi) rfl rfl ⟨rfl, by first | exact Nat.le_refl _ | exact Nat.le_succ _⟩ _ _ ?_⟩
  intro id ρ' hle hm
  refine .slice _ _ _ _ _ ?_
  rw [Int.toNat_natCast, Int.toNat_natCast, capK_exact (by unfold B63; omega)]
  exact ⟨rfl, by omega, .inr (AR_new hm)⟩
theorem clearA_ok (hD : DOk P D) (hw : WR ρ h w) {ts : Array TypeId} {ty : TypeId} (hts : ts[0]? = some ty) {x x' : Value} (hx : VR ρ x x') {h' : H} (hh : clearA D h ty x = some h') (rt : TypeId) :
    ∃ w', (Builtin.clear_ ts rt #[x']).run P w = .ok (.tuple #[]) w' ∧ WR ρ h' w' ∧ Ext ρ h w ρ h' w' := by
  unfold clearA at hh
  split at hh
  · rename_i e l c he
    obtain ⟨hu, hje⟩ := elemOf_ok hD he
    cases hc : (l.beq 0 && c.beq 0) <;> rw [hc] at hh
    · simp at hh
    simp only [cond_true, Option.some.injEq] at hh
    subst hh
    cases hx
    exact ⟨w, by simp [Builtin.clear_, hts, run_underlying hu], hw, .refl _ _ _⟩
  · rename_i e j p n cap he
    obtain ⟨hu, hje⟩ := elemOf_ok hD he
    obtain ⟨enf, hte⟩ := hD.tyOk hje
    cases hx with
    | slice _ c _ _ cap' hs =>
    by_cases hn : n = 0
    · subst hn
      have hz : zeros j.zero 0 = [] := rfl
      rw [hz] at hh
      obtain rfl := Option.some.inj hh
      exact ⟨w, by simp [Builtin.clear_, hts, run_underlying hu], hw, .refl _ _ _⟩
    · obtain ⟨w', g1, g2, g3⟩ := st_cells (P := P) _ _ h w p c 0 h' hw (.inr (hs.ar hn)) (zeros_VRs hte.free n) (by simpa [add] using hh)
      refine ⟨w', ?_, g2, g3⟩
      rw [← zeros_cells] at g1
      simp [Builtin.clear_, hts, run_underlying hu, zero_run hte, g1]
  · simp at hh
theorem copyA_ok (hD : DOk P D) (hw : WR ρ h w) {ts : Array TypeId} {ty : TypeId} (hts : ts[0]? = some ty) {x x' y y' : Value} (hx : VR ρ x x') (hy : VR ρ y y') {r : OpR} (hr : copyA D h ty x y = some r) (rt : TypeId) :
    OpOK ρ h w r ((Builtin.copy_ ts rt #[x', y']).run P w) := by
  unfold copyA at hr
  split at hr
  case h_2 => simp at hr
  case h_1 e j base dl c sl he hsl =>
  obtain ⟨hu, hje⟩ := elemOf_ok hD he
  obtain ⟨enf, hte⟩ := hD.tyOk hje
  simp only at hr
  cases hso : strOk j y <;> rw [hso] at hr
  · simp at hr
  simp only [Bool.not_true, cond_false] at hr
  split at hr
  case h_2 => simp at hr
  case h_1 cells hcells =>
  obtain ⟨l', g1, g2, g3⟩ := firstA_ok (P := P) hw hy hsl (Nat.min_le_left sl dl) hcells (by
    rintro ⟨s, rfl⟩
    exact Nat.eq_of_beq_eq_true hso)
  have hlen := lenA_ok (P := P) hy hsl w
  have hfc := g3 w rfl
  split at hr
  · cases hc : (dl.beq 0 && c.beq 0) <;> rw [hc] at hr
    · simp at hr
    simp only [cond_true, Option.some.injEq] at hr
    subst hr
    cases hx
    have hn0 : min sl 0 = 0 := by simp
    rw [hn0] at hfc
    exact ⟨_, w, by simp [Builtin.copy_, hts, run_underlying hu, hlen, sizeOf_run hte, goInt, hfc], .same hw (.int _ _)⟩
  · rename_i p
    simp only [Option.map_eq_some_iff] at hr
    obtain ⟨h', hst, rfl⟩ := hr
    cases hx with
    | slice _ c' _ _ cap' hs =>
    obtain ⟨w', k1, k2, k3⟩ := st_cells (P := P) cells l' h w p c' 0 h' hw (by
      by_cases h0 : cells = []
      · exact .inl h0
      · right
        refine hs.ar ?_
        intro hd
        apply h0
        refine List.eq_nil_of_length_eq_zero ?_
        rw [g1.length, g2, hd]; simp) g1 (by simpa [add] using hst)
    refine ⟨_, w', ?_, ρ, .int _ _, k2, k3⟩
    simp [Builtin.copy_, hts, run_underlying hu, hlen, sizeOf_run hte, hfc, k1, goInt]
end
end Go.Abs

/- Maps with whole numbers or strings as keys. -/
namespace Go.Abs
open Go
section
variable {P : Program} {D : Data} {ρ : Ren} {h : H} {w : World} {t : Tr Value} {a : Act}

theorem intsEq_true : ∀ (xs ys : List Value), intsEq xs ys = some true → xs = ys := by
  intro xs
  induction xs with
  | nil => intro ys h; cases ys <;> simp [intsEq] at h ⊢
  | cons x xs ih =>
    intro ys h
    cases ys with
    | nil => cases x <;> simp [intsEq] at h
    | cons y ys =>
      cases x <;> cases y <;> try (simp [intsEq] at h; done)
      rename_i k a k' b
      by_cases hk : k = k'
      · subst hk
        simp only [intsEq, decide_true, Bool.not_true, cond_false, Option.map_eq_some_iff, Bool.and_eq_true, beq_iff_eq] at h
        obtain ⟨r, h1, h2, h3⟩ := h
        subst h3
        rw [h2, ih ys h1]
      · simp [intsEq, hk] at h
theorem keq_true {k k' : Value} (hk : keq k k' = some true) : k = k' := by
  cases k <;> cases k' <;> simp [keq] at hk
  · rename_i a b c d
    by_cases h : a = c
    · simp [h] at hk; rw [h, hk]
    · simp [h] at hk
  · rename_i a b
    rw [Array.toList_inj.1 (intsEq_true _ _ hk)]
theorem sameK_VRs : ∀ {zs xs : List Value}, sameK zs xs = true → VRs ρ xs xs ∧ ∀ xs', VRs ρ xs xs' → xs' = xs
  | [], [], _ => ⟨.nil, fun xs' h => by cases h; rfl⟩
  | [], x :: _, h => by simp [sameK] at h
  | z :: _, [], h => by cases z <;> simp [sameK] at h
  | z :: zs, x :: xs, h => by
    cases z <;> cases x <;> try (simp [sameK] at h; done)
    simp only [sameK, Bool.and_eq_true] at h
    obtain ⟨g1, g2⟩ := sameK_VRs h.2
    refine ⟨.cons (.int _ _) g1, fun xs' hx => ?_⟩
    cases hx with
    | cons q1 q2 => cases q1; rw [g2 _ q2]
theorem sameK_len : ∀ {zs xs : List Value}, sameK zs xs = true → zs.length = xs.length
  | [], [], _ => rfl
  | [], x :: _, h => by simp [sameK] at h
  | z :: _, [], h => by cases z <;> simp [sameK] at h
  | z :: zs, x :: xs, h => by
    cases z <;> cases x <;> try (simp [sameK] at h; done)
    simp only [sameK, Bool.and_eq_true] at h
    simp [sameK_len h.2]
theorem sameK_cells : ∀ {zs xs ys : List Value} {b : Bool}, sameK zs xs = true → intsEq xs ys = some b → cellsEq zs xs ys = some b
  | [], [], [], b, _, h => by simpa [intsEq, cellsEq] using h
  | [], [], _ :: _, b, _, h => by simp [intsEq] at h
  | [], x :: _, _, _, h, _ => by simp [sameK] at h
  | z :: _, [], _, _, h, _ => by cases z <;> simp [sameK] at h
  | z :: zs, x :: xs, ys, b, h, e => by
    cases z <;> cases x <;> try (simp [sameK] at h; done)
    simp only [sameK, Bool.and_eq_true] at h
    cases ys with
    | nil => simp [intsEq] at e
    | cons y ys =>
      cases y <;> try (simp [intsEq] at e; done)
      rename_i k0 n0 k a k' b'
      by_cases hk : k = k'
      · simp only [intsEq, hk, decide_true, Bool.not_true, cond_false, Option.map_eq_some_iff] at e
        obtain ⟨r, h1, h2⟩ := e
        simp only [cellsEq, hk, decide_true, Bool.not_true, cond_false, sameK_cells h.2 h1, Option.map_some, h2]
      · simp [intsEq, hk] at e
theorem sameBits_ints (n : Nat) : ∀ {zs xs : List Value}, sameK zs xs = true → (xs.zip xs).all (fun p => Instr.sameBits n p.1 p.2) = true
  | [], [], _ => rfl
  | [], x :: _, h => by simp [sameK] at h
  | z :: _, [], h => by cases z <;> simp [sameK] at h
  | z :: zs, x :: xs, h => by
    cases z <;> cases x <;> try (simp [sameK] at h; done)
    simp only [sameK, Bool.and_eq_true] at h
    have h1 := sameBits_ints n h.2
    rw [List.zip_cons_cons, List.all_cons, h1, Bool.and_true]
    cases n <;> simp [Instr.sameBits]
/-- the key fits its type -/
structure KeyR (P : Program) (kt : TypeId) (k : Value) : Prop where
  self : ∀ ρ, VR ρ k k
  check : ∀ b w, (Instr.checkKey b 10000 kt k).run P w = .ok () w
  find : ∀ (ρ : Ren) (es : List (Value × Value)) (es' : List MapEntry) (r : Option (Nat × Value)) (w : World), ESR ρ es es' → mfind k es 0 = some r →
    (r = none ∧ (Instr.findKey kt k es').run P w = .ok none w) ∨ ∃ j v v', r = some (j, v) ∧ (Instr.findKey kt k es').run P w = .ok (some (j, v')) w ∧ VR ρ v v' ∧ es[j]? = some (k, v) ∧ ∃ e, es'[j]? = some e ∧ e.key = k
  same : Instr.sameBits 10000 k k = true
theorem mfind_ok {d : TypeDesc} {k : Value} (hn : ∀ k' r, keq k k' = some r → Instr.sameNow d k k' = some r) : ∀ (es : List (Value × Value)) (es' : List MapEntry) (i : Nat) (r : Option (Nat × Value)), ESR ρ es es' → mfind k es i = some r →
    (r = none ∧ Instr.findNow d k es' i = some none) ∨ ∃ j v v', r = some (i + j, v) ∧ Instr.findNow d k es' i = some (some (i + j, v')) ∧ VR ρ v v' ∧ es[j]? = some (k, v) ∧ ∃ e, es'[j]? = some e ∧ e.key = k
  | [], [], i, r, _, hm => by obtain rfl := Option.some.inj hm; exact .inl ⟨rfl, rfl⟩
  | (k', v) :: es, e :: es', i, r, hx, hm => by
    obtain ⟨x1, x2, x3, x4⟩ := hx
    unfold mfind at hm
    split at hm
    · rename_i hk
      obtain rfl := Option.some.inj hm
      have := keq_true hk
      subst this
      right
      refine ⟨0, v, e.val, rfl, ?_, x3, rfl, e, rfl, x1⟩
      simp [Instr.findNow, x1, hn _ _ hk]
    · rename_i hk
      rcases mfind_ok hn es es' (i + 1) r x4 hm with ⟨y1, y2⟩ | ⟨j, v2, v3, y1, y2, y3, y4, e2, y5, y6⟩
      · left
        exact ⟨y1, by simp [Instr.findNow, x1, hn _ _ hk, y2]⟩
      · right
        refine ⟨j + 1, v2, v3, by rw [y1]; congr 2; omega, ?_, y3, by simpa using y4, e2, by simpa using y5, y6⟩
        simp [Instr.findNow, x1, hn _ _ hk, y2]; omega
    · simp at hm
  | [], _ :: _, _, _, hx, _ => hx.elim
  | _ :: _, [], _, _, hx, _ => hx.elim
/-- keys that are compared by the type's own equality -/
theorem mfindA_ok {kt : TypeId} {k : Value} (w : World) (hn : ∀ k' r, keq k k' = some r → (Op.equal kt k k').run P w = .ok r w) : ∀ (es : List (Value × Value)) (es' : List MapEntry) (i : Nat) (r : Option (Nat × Value)), ESR ρ es es' → mfind k es i = some r →
    (r = none ∧ (Instr.findAsking kt k es' i).run P w = .ok none w) ∨ ∃ j v v', r = some (i + j, v) ∧ (Instr.findAsking kt k es' i).run P w = .ok (some (i + j, v')) w ∧ VR ρ v v' ∧ es[j]? = some (k, v) ∧ ∃ e, es'[j]? = some e ∧ e.key = k
  | [], [], i, r, _, hm => by obtain rfl := Option.some.inj hm; exact .inl ⟨rfl, rfl⟩
  | (k', v) :: es, e :: es', i, r, hx, hm => by
    obtain ⟨x1, x2, x3, x4⟩ := hx
    unfold mfind at hm
    split at hm
    · rename_i hk
      obtain rfl := Option.some.inj hm
      have he := hn _ _ hk
      have := keq_true hk
      subst this
      right
      refine ⟨0, v, e.val, rfl, ?_, x3, rfl, e, rfl, x1⟩
      simp [Instr.findAsking, x1, he]
    · rename_i hk
      have he := hn _ _ hk
      rcases mfindA_ok w hn es es' (i + 1) r x4 hm with ⟨y1, y2⟩ | ⟨j, v2, v3, y1, y2, y3, y4, e2, y5, y6⟩
      · left
        exact ⟨y1, by simp [Instr.findAsking, x1, he, y2]⟩
      · right
        refine ⟨j + 1, v2, v3, by rw [y1]; congr 2; omega, ?_, y3, by simpa using y4, e2, by simpa using y5, y6⟩
        simp [Instr.findAsking, x1, he, y2]; omega
    · simp at hm
  | [], _ :: _, _, _, hx, _ => hx.elim
  | _ :: _, [], _, _, hx, _ => hx.elim
theorem forIn_fields {f : Field → PUnit → Sem (ForInStep PUnit)} {w : World} : ∀ (l : List Field), (∀ x ∈ l, (f x ⟨⟩).run P w = .ok (.yield ⟨⟩) w) → (forIn l PUnit.unit f).run P w = .ok ⟨⟩ w
  | [], _ => by simp
  | x :: l, h => by
    simp only [List.forIn_cons, Sem.run_bind, h x (.head _), Result.andThen]
    exact forIn_fields l fun y hy => h y (.tail _ hy)
theorem keyOk_ok (hD : DOk P D) {kt : TypeId} {k k' : Value} (hk : VR ρ k k') (h : keyOk D kt k = true) : k' = k ∧ KeyR P kt k := by
  cases k <;> simp only [keyOk] at h <;> try (simp at h; done)
  · rename_i kd n
    cases hk
    refine ⟨rfl, ?_⟩
    split at h
    case h_2 => simp at h
    case h_1 i hi =>
    obtain ⟨inf, hj⟩ := hD.tyOk hi
    have hu := hj.und
    split at h
    case h_2 => simp at h
    case h_1 k2 hd =>
    rw [hd] at hu
    refine ⟨fun ρ => .int _ _, fun b w => by unfold Instr.checkKey; simp [run_underlying hu], fun ρ es es' r w hx hm => ?_, by simp [Instr.sameBits]⟩
    have hn : ∀ k' r, keq (.int kd n) k' = some r → Instr.sameNow (.int k2) (.int kd n) k' = some r := by
      intro k' r hr
      cases k' <;> simp [keq] at hr
      rename_i kd' m
      by_cases hh : kd = kd'
      · simp [hh] at hr; simp [Instr.sameNow, hh, hr]
      · simp [hh] at hr
    rcases mfind_ok hn es es' 0 r hx hm with ⟨y1, y2⟩ | ⟨j, v2, v3, y1, y2, y3, y4, y5⟩
    · exact .inl ⟨y1, by simp [Instr.findKey, run_underlying hu, y2]⟩
    · simp only [Nat.zero_add] at y1 y2
      exact .inr ⟨j, v2, v3, y1, by simp [Instr.findKey, run_underlying hu, y2], y3, y4, y5⟩
  · rename_i cs
    split at h
    case h_2 => simp at h
    case h_1 i hi =>
    obtain ⟨inf, hj⟩ := hD.tyOk hi
    have hu := hj.und
    split at h
    case h_2 => simp at h
    case h_1 fs hd =>
    rw [hd] at hu
    simp only [Bool.and_eq_true] at h
    obtain ⟨h1, h2, h3, h4⟩ := h
    have hsz : cs.size = i.size := Nat.eq_of_beq_eq_true h2
    have hk' : k' = .agg cs := by
      cases hk with
      | agg _ x' hx => rw [Array.toList_inj.1 ((sameK_VRs h3).2 _ hx)]
    refine ⟨hk', fun ρ => .agg _ _ (sameK_VRs h3).1, fun b w => ?_, fun ρ es es' r w hx hm => ?_, ?_⟩
    · unfold Instr.checkKey
      simp only [Sem.run_bind, run_underlying hu, Result.andThen]
      rw [← Array.forIn_toList, forIn_fields fs.toList]
      · rfl
      intro f hf
      have hfi := List.all_eq_true.1 h4 f hf
      unfold fldIntOk at hfi
      split at hfi
      case h_2 => simp at hfi
      case h_1 j hji =>
      split at hfi
      case h_2 => simp at hfi
      case h_1 kk hjd =>
      obtain ⟨inf2, hjj⟩ := hD.tyOk hji
      have hu2 := hjj.und
      rw [hjd] at hu2
      have hlt : f.offset < cs.toList.length := by
        rw [Array.length_toList]; exact Nat.le_of_ble_eq_true hfi
      have hpa : partA j cs.toList f.offset = some cs.toList[f.offset] := by
        have : j.agg = false := by unfold TyI.agg; rw [hjd]
        unfold partA
        rw [this, cond_false, List.getElem?_eq_getElem hlt]
      obtain ⟨v', e1, _⟩ := partA_ok (ρ := ρ) (w := w) hjj (sameK_VRs h3).1 hpa
      by_cases hnm : f.name = "_"
      · simp [hnm]
      · have e2 : (Instr.checkKey b 9999 f.type v').run P w = .ok () w := by
          unfold Instr.checkKey
          simp [run_underlying hu2]
        simp [hnm, e1, e2]
    · have hn : ∀ k' r, keq (.agg cs) k' = some r → (Op.equal kt (.agg cs) k').run P w = .ok r w := by
        intro k' r hr
        cases k' <;> simp [keq] at hr
        rename_i ys
        exact (hD.flat kt i hi h1 cs.toList ys.toList r (by simpa using hsz) (sameK_cells h3 hr) w).1
      rcases mfindA_ok w hn es es' 0 r hx hm with ⟨y1, y2⟩ | ⟨j, v2, v3, y1, y2, y3, y4, y5⟩
      · left
        refine ⟨y1, ?_⟩
        cases es' with
        | nil => simp [Instr.findKey, run_underlying hu, Instr.findNow]
        | cons e es' => simp [Instr.findKey, run_underlying hu, Instr.findNow, Instr.sameNow, y2]
      · simp only [Nat.zero_add] at y1 y2
        right
        refine ⟨j, v2, v3, y1, ?_, y3, y4, y5⟩
        cases es' with
        | nil => obtain ⟨e, q, _⟩ := y5; cases q
        | cons e es' => simp [Instr.findKey, run_underlying hu, Instr.findNow, Instr.sameNow, y2]
    · have := sameBits_ints 9999 h3
      simp [Instr.sameBits, this]
theorem find_run {kt : TypeId} {k : Value} (hk : KeyR P kt k) {es : List (Value × Value)} {es' : List MapEntry} (hx : ESR ρ es es') {r : Option (Nat × Value)} (hm : mfind k es 0 = some r) (w : World) :
    (r = none ∧ (Instr.findKey kt k es').run P w = .ok none w) ∨ ∃ j v v', r = some (j, v) ∧ (Instr.findKey kt k es').run P w = .ok (some (j, v')) w ∧ VR ρ v v' ∧ es[j]? = some (k, v) ∧ ∃ e, es'[j]? = some e ∧ e.key = k := hk.find ρ es es' r w hx hm
theorem mapTy_ok (hD : DOk P D) {ty kt et : TypeId} (hm : mapTy D ty = some (kt, et)) : P.underlying ty = some (.map kt et) := by
  unfold mapTy at hm
  split at hm
  · rename_i i hi
    obtain ⟨inf, hj⟩ := hD.tyOk hi
    have hu := hj.und
    split at hm
    · rename_i k e hd
      obtain ⟨rfl, rfl⟩ := Prod.mk.inj (Option.some.inj hm)
      rw [hd] at hu; exact hu
    · simp at hm
  · simp at hm
theorem getObj_run {b : Nat} {es : Array MapEntry} {clk : Nat} (hb : w.heap[b]? = some (.map es clk)) : (getObj b).run P w = .ok (.map es clk) w := by
  simp [getObj, Sem.run, hb]
theorem lookA_ok (hD : DOk P D) (hw : WR ρ h w) {ty : TypeId} {x x' k k' : Value} (hx : VR ρ x x') (hk : VR ρ k k') {ok : Bool} {v : Value} (hv : lookA D h ty x k ok = some v) : ∃ v', (Instr.lookup ty x' k' ok).run P w = .ok v' w ∧ VR ρ v v' := by
  unfold lookA at hv
  split at hv
  case h_2 => simp at hv
  case h_1 kt et hm =>
  have hu := mapTy_ok hD hm
  cases hko : keyOk D kt k <;> rw [hko] at hv
  · simp at hv
  simp only [cond_true] at hv
  obtain ⟨rfl, hkr⟩ := keyOk_ok hD hk hko
  split at hv
  case h_2 => simp at hv
  case h_1 j hje =>
  obtain ⟨enf, hte⟩ := hD.tyOk hje
  have hz : VR ρ j.zero j.zero := VR_free hte.free
  have core : ∀ (es : List (Value × Value)) (es' : Array MapEntry) (r : Option (Nat × Value)), ESR ρ es es'.toList → mfind k' es 0 = some r → ∃ v0 v0' b, (Instr.findKey kt k' es'.toList).run P w = .ok (r.map fun p => (p.1, v0')) w ∧ VR ρ v0 v0' ∧ (r = none → b = false ∧ v0 = j.zero ∧ v0' = j.zero) ∧ (∀ i u, r = some (i, u) → b = true ∧ v0 = u) := by
    intro es es' r he hf
    rcases find_run (P := P) hkr he hf w with ⟨rfl, y2⟩ | ⟨i, u, u', rfl, y2, y3, _⟩
    · exact ⟨j.zero, j.zero, false, by simpa using y2, hz, fun _ => ⟨rfl, rfl, rfl⟩, fun i u h => by simp at h⟩
    · exact ⟨u, u', true, by simpa using y2, y3, fun h => by simp at h, fun i2 u2 h => by simp at h; exact ⟨rfl, h.2⟩⟩
  have chk : ∀ b, (Instr.checkKey b 10000 kt k').run P w = .ok () w := fun b => hkr.check b w
  have fin : ∀ (es : List (Value × Value)) (es' : Array MapEntry) (r : Option (Nat × Value)), ESR ρ es es'.toList → mfind k' es 0 = some r →
      (match r with | some (_, v) => some (if ok then .tuple #[v, .bool true] else v) | none => some (if ok then .tuple #[j.zero, .bool false] else j.zero) : Option Value) = some v →
      (x' = .map none ∧ es' = #[] ∨ ∃ b clk, x' = .map (some b) ∧ w.heap[b]? = some (.map es' clk)) → ∃ v', (Instr.lookup ty x' k' ok).run P w = .ok v' w ∧ VR ρ v v' := by
    intro es es' r he hf hvv hget
    obtain ⟨v0, v0', b, c1, c2, c3, c4⟩ := core es es' r he hf
    have hv0 : v = if ok then .tuple #[v0, .bool b] else v0 := by
      cases r with
      | none => obtain ⟨rfl, rfl, _⟩ := c3 rfl; exact (Option.some.inj hvv).symm
      | some p => obtain ⟨rfl, rfl⟩ := c4 p.1 p.2 rfl; exact (Option.some.inj hvv).symm
    refine ⟨if ok then .tuple #[v0', .bool b] else v0', ?_, ?_⟩
    · rcases hget with ⟨rfl, rfl⟩ | ⟨blk, clk, rfl, hb⟩
      · cases r with
        | none =>
          obtain ⟨rfl, _, rfl⟩ := c3 rfl
          simp only [Option.map_none] at c1
          simp [Instr.lookup, run_underlying hu, chk, c1, zero_run hte]
        | some p =>
          obtain ⟨rfl, _⟩ := c4 p.1 p.2 rfl
          simp only [Option.map_some] at c1
          simp [Instr.lookup, run_underlying hu, chk, c1]
      · have hg := getObj_run (P := P) hb
        cases r with
        | none =>
          obtain ⟨rfl, _, rfl⟩ := c3 rfl
          simp only [Option.map_none] at c1
          simp [Instr.lookup, run_underlying hu, chk, c1, zero_run hte, hg]
        | some p =>
          obtain ⟨rfl, _⟩ := c4 p.1 p.2 rfl
          simp only [Option.map_some] at c1
          simp [Instr.lookup, run_underlying hu, chk, c1, hg]
    · subst hv0; cases ok
      · exact c2
      · exact .tuple _ _ (.cons c2 (.cons (.bool _) .nil))
  cases x <;> (try simp only at hv) <;> try (simp at hv; done)
  rename_i m
  cases m with
  | none =>
    cases hx
    exact fin [] #[] none trivial rfl hv (.inl ⟨rfl, rfl⟩)
  | some m =>
    cases hx with
    | map _ L hL =>
    cases hes : h.objs.get m with
    | none => simp [hes] at hv
    | some ob =>
      simp only [hes] at hv
      cases ob with
      | arr r => simp at hv
      | map es =>
        simp only at hv
        obtain ⟨_, es', clk, h1, h2⟩ := hw.obj _ _ hes 0 L hL
        cases hf : mfind k' es 0 with
        | none => rw [hf] at hv; simp at hv
        | some r =>
          rw [hf] at hv
          refine fin es es' r h2.1 hf ?_ (.inr ⟨_, clk, rfl, h1⟩)
          cases r with
          | none => exact hv
          | some p => exact hv

theorem setMap (hw : WR ρ h w) {m : Nat} {es es2 : List (Value × Value)} (ho : h.objs.get m = some (.map es)) (hro : h.nro ≤ m) {L : Loc} (hL : ρ m 0 = some L) {es2' : Array MapEntry} {clk : Nat} (hx : ESR ρ es2 es2'.toList ∧ BornR es2'.toList clk) :
    (setObj L.cb (.map es2' clk)).run P w = .ok () { w with heap := w.heap.setIfInBounds L.cb (.map es2' clk) } ∧
    WR ρ { h with tick := h.tick + 1, objs := h.objs.set m (.map es2) } { w with heap := w.heap.setIfInBounds L.cb (.map es2' clk) } ∧
    Ext ρ h w ρ { h with tick := h.tick + 1, objs := h.objs.set m (.map es2) } { w with heap := w.heap.setIfInBounds L.cb (.map es2' clk) } := by
  obtain ⟨_, es', clk0, h1, h2⟩ := hw.obj _ _ ho 0 L hL
  have hlt := (hw.dom _ _ _ hL).2
  have hother : ∀ b, b ≠ L.cb → (w.heap.setIfInBounds L.cb (.map es2' clk))[b]? = w.heap[b]? := fun b hb => Array.getElem?_setIfInBounds_ne (Ne.symm hb)
  refine ⟨by simp [setObj, Sem.run, h1], ⟨?_, hw.dis, ?_, ?_, hw.nro⟩, ⟨Ren.le_refl _, rfl, Nat.le_refl _, ?_, fun A e L' x y => by rw [x] at y; simp at y, fun A e L' x y => by rw [x] at y; simp at y, by simp, ?_, rfl, rfl, rfl, rfl, fun _ => Nat.le_refl _⟩⟩
  · intro A e L' x
    have := hw.dom _ _ _ x
    exact ⟨this.1, by simpa using this.2⟩
  · intro A ob x
    simp only [Tr.get_set] at x
    by_cases hA : A = m
    · rw [if_pos hA] at x
      obtain rfl := Option.some.inj x
      subst hA
      intro e L' y
      obtain ⟨h0, _⟩ := hw.obj _ _ ho e L' y
      subst h0
      rw [hL] at y
      obtain rfl := Option.some.inj y
      exact ⟨rfl, es2', clk, Array.getElem?_setIfInBounds_self_of_lt hlt, hx⟩
    · rw [if_neg hA] at x
      refine (hw.obj A ob x).keep (Ren.le_refl _) (fun _ _ y => y) fun e L' y => ?_
      refine hother _ ?_
      intro hc
      have := (hw.dis _ _ _ _ _ _ y hL hA hc).2
      omega
  · intro A ob x
    simp only [Tr.get_set] at x
    by_cases hA : A = m
    · subst hA; exact hw.lt _ _ ho
    · rw [if_neg hA] at x; exact hw.lt _ _ x
  · intro A _
    simp only [Tr.get_set]
    by_cases hA : A = m
    · rw [if_pos hA, hA, ho]; simp
    · rw [if_neg hA]
  · intro b hb hn
    refine hother b ?_
    intro hc
    exact hn m 0 L hL (by rw [ho]; simp) hro hc.symm
theorem ESR.append : ∀ {l l2 : List (Value × Value)} {l' l2' : List MapEntry}, ESR ρ l l' → ESR ρ l2 l2' → ESR ρ (l ++ l2) (l' ++ l2')
  | [], _, [], _, _, h => h
  | (_, _) :: _, _, _ :: _, _, x, h => ⟨x.1, x.2.1, x.2.2.1, ESR.append x.2.2.2 h⟩
  | [], _, _ :: _, _, x, _ => x.elim
  | _ :: _, _, [], _, x, _ => x.elim
theorem ESR.setAt {k v v' : Value} (hv : VR ρ v v') : ∀ {l : List (Value × Value)} {l' : List MapEntry} {i : Nat} {u : Value}, ESR ρ l l' → l[i]? = some (k, u) → ESR ρ (Abs.setAt l i v) (l'.modify i fun e => { e with key := k, val := v' })
  | (k0, v0) :: l, e :: l', 0, u, x, hi => by
    simp at hi
    obtain ⟨rfl, rfl⟩ := hi
    exact ⟨rfl, x.2.1, hv, x.2.2.2⟩
  | (k0, v0) :: l, e :: l', i + 1, u, x, hi => ⟨x.1, x.2.1, x.2.2.1, ESR.setAt hv (i := i) x.2.2.2 (by simpa using hi)⟩
  | [], _, _, _, _, hi => by simp at hi
  | _ :: _, [], _, _, x, _ => x.elim
theorem ESR.erase : ∀ {l : List (Value × Value)} {l' : List MapEntry} (i : Nat), ESR ρ l l' → ESR ρ (l.eraseIdx i) (l'.eraseIdx i)
  | [], [], i, _ => by simp; trivial
  | (k0, v0) :: l, e :: l', 0, x => x.2.2.2
  | (k0, v0) :: l, e :: l', i + 1, x => ⟨x.1, x.2.1, x.2.2.1, ESR.erase i x.2.2.2⟩
  | [], _ :: _, _, x => x.elim
  | _ :: _, [], _, x => x.elim
theorem updA_ok (hD : DOk P D) (hw : WR ρ h w) {ty : TypeId} {x x' k k' v v' : Value} (hx : VR ρ x x') (hk : VR ρ k k') (hv : VR ρ v v') {h' : H} (hh : updA D h ty x k v = some h') :
    ∃ w', (Instr.mapUpdate ty x' k' v').run P w = .ok () w' ∧ WR ρ h' w' ∧ Ext ρ h w ρ h' w' := by
  unfold updA at hh
  split at hh
  case h_2 => simp at hh
  case h_1 kt et m hm =>
  have hu := mapTy_ok hD hm
  cases hc : (keyOk D kt k && h.nro.ble m) <;> rw [hc] at hh
  · simp at hh
  simp only [cond_true] at hh
  simp only [Bool.and_eq_true] at hc
  have hro := Nat.le_of_ble_eq_true hc.2
  obtain ⟨e, hkr⟩ := keyOk_ok hD hk hc.1
  subst e
  have chk : ∀ b, (Instr.checkKey b 10000 kt k').run P w = .ok () w := fun b => hkr.check b w
  cases hx with
  | map _ L hL =>
  split at hh
  case h_2 => simp at hh
  case h_1 es hes =>
  obtain ⟨_, es', clk, h1, h2⟩ := hw.obj _ _ hes 0 L hL
  have hg := getObj_run (P := P) h1
  split at hh
  · rename_i i u hf
    obtain rfl := Option.some.inj hh
    rcases find_run (P := P) hkr h2.1 hf w with ⟨y1, _⟩ | ⟨j, u2, u', y1, y2, y3, y4, e, y5, y6⟩
    · simp at y1
    · obtain ⟨rfl, rfl⟩ := Prod.mk.inj (Option.some.inj y1)
      have hmod : ESR ρ (setAt es i v) (es'.modify i fun e => { e with key := k', val := v' }).toList ∧ BornR (es'.modify i fun e => { e with key := k', val := v' }).toList clk := by
        rw [Array.toList_modify]
        exact ⟨ESR.setAt hv h2.1 y4, h2.2.modify _ _ fun _ => rfl⟩
      obtain ⟨g1, g2, g3⟩ := setMap (P := P) (clk := clk) hw hes hro hL hmod
      refine ⟨_, ?_, g2, g3⟩
      have hkey : ((es'[i]?).map (·.key)).getD k' = k' := by
        have : es'[i]? = some e := by simpa using y5
        rw [this]; exact y6
      have hks : (Instr.keyThatStays k' k').run P w = .ok k' w := by
        unfold Instr.keyThatStays; rw [hkr.same]; rfl
      simp only [Instr.mapUpdate, Sem.run_bind, run_underlying hu, Result.andThen_ok, hg, chk, y2, hkey, hks]
      exact g1
  · rename_i hf
    obtain rfl := Option.some.inj hh
    rcases find_run (P := P) hkr h2.1 hf w with ⟨y1, y2⟩ | ⟨j, u2, u', y1, _⟩
    · have hpush : ESR ρ (es ++ [(k', v)]) (es'.push { key := k', val := v', born := clk }).toList ∧ BornR (es'.push { key := k', val := v', born := clk }).toList (clk + 1) := by
        rw [Array.toList_push]
        exact ⟨ESR.append h2.1 ⟨rfl, hkr.self ρ, hv, trivial⟩, h2.2.push _ rfl⟩
      obtain ⟨g1, g2, g3⟩ := setMap (P := P) (clk := clk + 1) hw hes hro hL hpush
      refine ⟨_, ?_, g2, g3⟩
      simp only [Instr.mapUpdate, Sem.run_bind, run_underlying hu, Result.andThen_ok, hg, chk, y2]
      exact g1
    · simp at y1
  · simp at hh
theorem delA_ok (hD : DOk P D) (hw : WR ρ h w) {ts : Array TypeId} {ty : TypeId} (hts : ts[0]? = some ty) {x x' k k' : Value} (hx : VR ρ x x') (hk : VR ρ k k') {h' : H} (hh : delA D h ty x k = some h') (rt : TypeId) :
    ∃ w', (Builtin.delete_ ts rt #[x', k']).run P w = .ok (.tuple #[]) w' ∧ WR ρ h' w' ∧ Ext ρ h w ρ h' w' := by
  unfold delA at hh
  split at hh
  · rename_i kt et hm
    have hu := mapTy_ok hD hm
    cases hc : keyOk D kt k <;> rw [hc] at hh
    · simp at hh
    simp only [cond_true, Option.some.injEq] at hh
    subst hh
    obtain ⟨e, hkr⟩ := keyOk_ok hD hk hc
    subst e
    have chk : ∀ b, (Instr.checkKey b 10000 kt k').run P w = .ok () w := fun b => hkr.check b w
    cases hx
    exact ⟨w, by simp [Builtin.delete_, hts, run_underlying hu, chk], hw, .refl _ _ _⟩
  · rename_i kt et m hm
    have hu := mapTy_ok hD hm
    cases hc : (keyOk D kt k && h.nro.ble m) <;> rw [hc] at hh
    · simp at hh
    simp only [cond_true] at hh
    simp only [Bool.and_eq_true] at hc
    have hro := Nat.le_of_ble_eq_true hc.2
    obtain ⟨e, hkr⟩ := keyOk_ok hD hk hc.1
    subst e
    have chk : ∀ b, (Instr.checkKey b 10000 kt k').run P w = .ok () w := fun b => hkr.check b w
    cases hx with
    | map _ L hL =>
    split at hh
    case h_2 => simp at hh
    case h_1 es hes =>
    obtain ⟨_, es', clk, h1, h2⟩ := hw.obj _ _ hes 0 L hL
    have hg := getObj_run (P := P) h1
    split at hh
    · rename_i i u hf
      obtain rfl := Option.some.inj hh
      rcases find_run (P := P) hkr h2.1 hf w with ⟨y1, _⟩ | ⟨j, u2, u', y1, y2, y3, y4, e, y5, y6⟩
      · simp at y1
      · obtain ⟨rfl, rfl⟩ := Prod.mk.inj (Option.some.inj y1)
        have hmod : ESR ρ (es.eraseIdx i) (es'.eraseIdxIfInBounds i).toList ∧ BornR (es'.eraseIdxIfInBounds i).toList clk := by
          rw [Array.toList_eraseIdxIfInBounds]
          exact ⟨ESR.erase i h2.1, h2.2.erase i⟩
        obtain ⟨g1, g2, g3⟩ := setMap (P := P) (clk := clk) hw hes hro hL hmod
        refine ⟨_, ?_, g2, g3⟩
        simp [Builtin.delete_, hts, run_underlying hu, hg, chk, y2, g1]
    · rename_i hf
      obtain rfl := Option.some.inj hh
      rcases find_run (P := P) hkr h2.1 hf w with ⟨y1, y2⟩ | ⟨j, u2, u', y1, _⟩
      · obtain ⟨g1, g2, g3⟩ := setMap (P := P) (clk := clk) hw hes hro hL h2
        refine ⟨_, ?_, g2, g3⟩
        simp [Builtin.delete_, hts, run_underlying hu, hg, chk, y2, g1]
      · simp at y1
    · simp at hh
  · simp at hh
end
end Go.Abs

/- Each operation of the machine stands for the model's. -/
namespace Go.Abs
open Go
section
variable {P : Program} {D : Data} {ρ : Ren} {h : H} {w : World} {t : Tr Value} {a : Act}

def StepOK (ρ : Ren) (h : H) (w : World) (r : OpR) (res : Result Next) : Prop :=
  match r with
  | .val v h' => ∃ v' w', res = .ok (.value v') w' ∧ ValOK ρ h w v h' v' w'
  | .skip h' => ∃ w' ρ', res = .ok .skip w' ∧ WR ρ' h' w' ∧ Ext ρ h w ρ' h' w'
  | .new ob mk => ∃ v' w' L, res = .ok (.value v') w' ∧ NewOK ρ h.nro w ob mk v' w' L
  | .call f args => ∃ args', res = .ok (.enter f args') w ∧ VRs ρ args args'.toList
theorem liftV {r : OpR} {s : Sem Value} (hk : OpOK ρ h w r (s.run P w)) : StepOK ρ h w r ((do pure (.value (← s)) : Sem Next).run P w) := by
  cases r with
  | val v h' => obtain ⟨v', w', e, hv⟩ := hk; exact ⟨v', w', by simp [e], hv⟩
  | new ob mk => obtain ⟨v', w', L, e, hv⟩ := hk; exact ⟨v', w', L, by simp [e], hv⟩
  | skip h' => exact hk.elim
  | call f args => exact hk.elim
theorem pureV (hw : WR ρ h w) {v : Value} {s : Sem Value} (hk : ∃ v', s.run P w = .ok v' w ∧ VR ρ v v') : OpOK ρ h w (.val v h) (s.run P w) := by
  obtain ⟨v', e, hv⟩ := hk; exact ⟨v', w, e, .same hw hv⟩
theorem liftU {h' : H} {s : Sem Unit} (hk : ∃ w', s.run P w = .ok () w' ∧ WR ρ h' w' ∧ Ext ρ h w ρ h' w') : StepOK ρ h w (.skip h') ((do s; pure .skip : Sem Next).run P w) := by
  obtain ⟨w', e, h1, h2⟩ := hk; exact ⟨w', ρ, by simp [e], h1, h2⟩

theorem builtA_ok (hD : DOk P D) (hw : WR ρ h w) {b : Builtin} {ts : Array TypeId} {args args' : List Value} (ha : VRs ρ args args') {r : OpR} (hr : builtA D h b ts args = some r) (rt : TypeId) (cs : Array Bool) :
    StepOK ρ h w r ((builtin b ts rt cs args'.toArray).run P w) := by
  unfold builtA at hr
  split at hr
  · -- append
    cases ha with | cons p q => cases q with | cons p2 q2 => cases q2 with
    | nil => exact liftV (appA_ok hD hw p p2 hr rt)
  · cases ha with | cons p q => cases q with
    | nil =>
      split at hr
      case h_2 => simp at hr
      case h_1 t ht =>
      simp only [Option.map_eq_some_iff] at hr
      obtain ⟨v, hv, rfl⟩ := hr
      obtain ⟨g1, g2⟩ := lenOf_ok (P := P) hD hw p hv ht rt
      exact liftV (pureV hw ⟨v, g1, g2⟩)
  · cases ha with | cons p q => cases q with
    | nil =>
      split at hr
      case h_2 => simp at hr
      case h_1 t ht =>
      simp only [Option.map_eq_some_iff] at hr
      obtain ⟨v, hv, rfl⟩ := hr
      obtain ⟨g1, g2⟩ := capOf_ok (P := P) hD p hv ht rt w
      exact liftV (pureV hw ⟨v, g1, g2⟩)
  · cases ha with | cons p q => cases q with | cons p2 q2 => cases q2 with
    | nil =>
      split at hr
      case h_2 => simp at hr
      case h_1 t ht =>
      exact liftV (copyA_ok hD hw ht p p2 hr rt)
  · cases ha with | cons p q =>
      simp only [Option.map_eq_some_iff] at hr
      obtain ⟨v, hv, rfl⟩ := hr
      obtain ⟨g1, g2⟩ := foldMax_ok (P := P) _ _ _ _ v q p hv w
      exact liftV (pureV hw ⟨v, by simpa [Builtin.max_] using g1, VR.mono (Ren.le_refl _) g2⟩)
  · cases ha with | cons p q =>
      simp only [Option.map_eq_some_iff] at hr
      obtain ⟨v, hv, rfl⟩ := hr
      obtain ⟨g1, g2⟩ := foldMin_ok (P := P) _ _ _ _ v q p hv w
      exact liftV (pureV hw ⟨v, by simpa [Builtin.min_] using g1, VR.mono (Ren.le_refl _) g2⟩)
  · cases ha with | cons p q => cases q with | cons p2 q2 => cases q2 with
    | nil =>
      split at hr
      case h_2 => simp at hr
      case h_1 t ht =>
      simp only [Option.map_eq_some_iff] at hr
      obtain ⟨h', hh, rfl⟩ := hr
      obtain ⟨w', g1, g2, g3⟩ := delA_ok (P := P) hD hw ht p p2 hh rt
      exact liftV (P := P) ⟨_, w', g1, ρ, .tuple _ _ .nil, g2, g3⟩
  · cases ha with | cons p q => cases q with
    | nil =>
      split at hr
      case h_2 => simp at hr
      case h_1 t ht =>
      simp only [Option.map_eq_some_iff] at hr
      obtain ⟨h', hh, rfl⟩ := hr
      obtain ⟨w', g1, g2, g3⟩ := clearA_ok (P := P) hD hw ht p hh rt
      exact liftV (P := P) ⟨_, w', g1, ρ, .tuple _ _ .nil, g2, g3⟩
  · simp at hr

theorem opA_ok (hD : DOk P D) (hw : WR ρ h w) (ht : TRel ρ t a) {o : Oper} {r : OpR} (hop : opA D o.op t h = some r) : StepOK ρ h w r ((execOp a.eval o).run P w) := by
  unfold execOp
  unfold opA at hop
  split at hop
  case h_1 x hx =>
    rw [hx]
    simp only [Option.map_eq_some_iff] at hop
    obtain ⟨v, hv, rfl⟩ := hop
    exact ⟨_, w, rfl, .same hw (evalO_ok ht hv)⟩
  case h_2 x hx =>
    rw [hx]
    simp only [Option.map_eq_some_iff] at hop
    obtain ⟨v, hv, rfl⟩ := hop
    exact ⟨_, w, rfl, .same hw (evalO_ok ht hv)⟩
  case h_3 c x y hx =>
    rw [hx]
    split at hop
    · rename_i hc
      have := evalO_ok ht hc
      simp only [Option.map_eq_some_iff] at hop
      obtain ⟨v, hv, rfl⟩ := hop
      cases hcc : a.eval c <;> rw [hcc] at this <;> cases this
      exact ⟨_, w, by simp [asBool, hcc], .same hw (evalO_ok ht hv)⟩
    · rename_i hc
      have := evalO_ok ht hc
      simp only [Option.map_eq_some_iff] at hop
      obtain ⟨v, hv, rfl⟩ := hop
      cases hcc : a.eval c <;> rw [hcc] at this <;> cases this
      exact ⟨_, w, by simp [asBool, hcc], .same hw (evalO_ok ht hv)⟩
    · simp at hop
  case h_4 e hx =>
    rw [hx]
    split at hop
    case h_2 => simp at hop
    case h_1 j hje =>
    obtain ⟨enf, hte⟩ := hD.tyOk hje
    obtain rfl := Option.some.inj hop
    obtain ⟨g1, L, g2⟩ := newVar_ok (P := P) hw (e := e) (VR_free (ρ := ρ) hte.free)
    exact liftV ⟨_, _, L, by simp [Instr.alloc, zero_run hte, g1], g2⟩
  case h_5 e x hx =>
    rw [hx]
    simp only [Option.map_eq_some_iff] at hop
    obtain ⟨v, hv, rfl⟩ := hop
    obtain ⟨g1, L, g2⟩ := newVar_ok (P := P) hw (e := e) (evalO_ok ht hv)
    exact liftV ⟨_, _, L, by simp [Instr.box, g1], g2⟩
  case h_6 ty ps hx =>
    rw [hx]
    split at hop
    case h_2 => simp at hop
    case h_1 l hl =>
    simp only [Option.map_eq_some_iff] at hop
    obtain ⟨v, hv, rfl⟩ := hop
    have hp := evalP_ok ht hl
    have := buildA_ok (P := P) (w := w) hD hp hv
    refine liftV (pureV hw ?_)
    have e : (ps.map fun (i, x) => (i, a.eval x)) = (ps.toList.map fun (i, x) => (i, a.eval x)).toArray := by apply Array.ext'; simp
    rw [e]; exact this
  case h_7 ty n ps hx =>
    rw [hx]
    split at hop
    case h_2 => simp at hop
    case h_1 l hl =>
    have hp := evalP_ok ht hl
    have := buildSl_ok (P := P) hD hw hp hop
    refine liftV ?_
    have e : (ps.map fun (i, x) => (i, a.eval x)) = (ps.toList.map fun (i, x) => (i, a.eval x)).toArray := by apply Array.ext'; simp
    rw [e]; exact this
  case h_8 ty x hx =>
    rw [hx]
    split at hop
    case h_2 => simp at hop
    case h_1 p j hp hje =>
    obtain ⟨enf, hte⟩ := hD.tyOk hje
    simp only [Option.map_eq_some_iff] at hop
    obtain ⟨v, hv, rfl⟩ := hop
    have := evalO_ok ht hp
    cases hcc : a.eval x <;> rw [hcc] at this <;> cases this
    rename_i c hc
    have := ldVar_ok (P := P) hw hte hc hv
    refine liftV (pureV hw ?_)
    simpa [Instr.loadAt, Instr.sureAddr, hcc] using this
  case h_9 ty x y hx =>
    rw [hx]
    split at hop
    case h_2 => simp at hop
    case h_1 p v j hp hv hje =>
    obtain ⟨enf, hte⟩ := hD.tyOk hje
    simp only [Option.map_eq_some_iff] at hop
    obtain ⟨h', hh, rfl⟩ := hop
    have := evalO_ok ht hp
    cases hcc : a.eval x <;> rw [hcc] at this <;> cases this
    rename_i c hc
    have := stVar_ok (P := P) hw hte hc (evalO_ok ht hv) hh
    refine liftU ?_
    simpa [Instr.storeAt, Instr.sureAddr, hcc] using this
  case h_10 x hx =>
    rw [hx]
    split at hop
    case h_2 => simp at hop
    case h_1 p hp =>
    obtain rfl := Option.some.inj hop
    have := evalO_ok ht hp
    cases hcc : a.eval x <;> rw [hcc] at this <;> cases this
    rename_i c hc
    exact ⟨_, w, by simp [hcc], .same hw (.ptr _ _ hc)⟩
  case h_11 op ty x y yt hx =>
    rw [hx]
    split at hop
    case h_2 => simp at hop
    case h_1 u v hu hv =>
    simp only [Option.map_eq_some_iff] at hop
    obtain ⟨r, hr, rfl⟩ := hop
    have := binA_ok (P := P) hD (evalO_ok ht hu) (evalO_ok ht hv) hr x y w
    exact liftV (pureV hw this)
  case h_12 op ty x hx =>
    rw [hx]
    split at hop
    case h_2 => simp at hop
    case h_1 u hu =>
    simp only [Option.map_eq_some_iff] at hop
    obtain ⟨r, hr, rfl⟩ := hop
    exact liftV (pureV hw ⟨r, unA_ok (P := P) (evalO_ok ht hu) hr w⟩)
  case h_13 s d x hx =>
    rw [hx]
    split at hop
    case h_2 => simp at hop
    case h_1 u hu =>
    exact liftV (convA_ok (P := P) hD hw (evalO_ok ht hu) hop)
  case h_14 fn xs ys hx =>
    rw [hx]
    split at hop
    case h_2 => simp at hop
    case h_1 l m hl hm =>
    obtain rfl := Option.some.inj hop
    refine liftV (pureV hw ⟨.func fn (xs.map a.eval) (ys.map a.eval), rfl, .func _ _ _ _ _ ?_ ?_⟩)
    · simpa using evalL_ok ht hl
    · simpa using evalL_ok ht hm
  case h_15 ty hx =>
    rw [hx]
    obtain rfl := Option.some.inj hop
    refine liftV ⟨.map (some w.heap.size), w.alloc (.map #[] 0), ⟨w.heap.size, 0, 0, 0, 0⟩, by simp [Instr.makeMap], rfl, ⟨_, rfl⟩, rfl, rfl, ⟨rfl, by first | exact Nat.le_refl _ | exact Nat.le_succ _⟩, fun id ρ' hle hm => .map _ _ hm, ?_⟩
    intro id ρ' hle hmap w'' hw'' e L' x
    obtain ⟨rfl, rfl⟩ := hmap e L' x
    exact ⟨rfl, #[], 0, by rw [hw'']; exact heap_push_new w _ _ rfl, trivial, BornR.nil 0⟩
  case h_16 ty x y hx =>
    rw [hx]
    split at hop
    case h_2 => simp at hop
    case h_1 u v hu hv =>
    exact liftV (mkSl_ok (P := P) hD hw (evalO_ok ht hu) (evalO_ok ht hv) hop)
  case h_17 ty x lo hi mx hx =>
    rw [hx]
    split at hop
    case h_2 => simp at hop
    case h_1 u l b m hu hl hb hm =>
    simp only [Option.map_eq_some_iff] at hop
    obtain ⟨r, hr, rfl⟩ := hop
    exact liftV (pureV hw (slA_ok (P := P) hD hw (evalO_ok ht hu) (evalOO_ok ht hl) (evalOO_ok ht hb) (evalOO_ok ht hm) hr))
  case h_18 ty x f hx =>
    rw [hx]
    split at hop
    case h_2 => simp at hop
    case h_1 u hu =>
    simp only [Option.map_eq_some_iff] at hop
    obtain ⟨r, hr, rfl⟩ := hop
    exact liftV (pureV hw (fldAddr_ok (P := P) hD (evalO_ok ht hu) hr))
  case h_19 ty x f hx =>
    rw [hx]
    split at hop
    case h_2 => simp at hop
    case h_1 u hu =>
    simp only [Option.map_eq_some_iff] at hop
    obtain ⟨r, hr, rfl⟩ := hop
    exact liftV (pureV hw (fldA_ok (P := P) hD (evalO_ok ht hu) hr))
  case h_20 ty x y hx =>
    rw [hx]
    split at hop
    case h_2 => simp at hop
    case h_1 u v hu hv =>
    simp only [Option.map_eq_some_iff] at hop
    obtain ⟨r, hr, rfl⟩ := hop
    exact liftV (pureV hw (idxAddr_ok (P := P) hD (evalO_ok ht hu) (evalO_ok ht hv) hr))
  case h_21 ty x y hx =>
    rw [hx]
    split at hop
    case h_2 => simp at hop
    case h_1 u v hu hv =>
    simp only [Option.map_eq_some_iff] at hop
    obtain ⟨r, hr, rfl⟩ := hop
    exact liftV (pureV hw (indexA_ok (P := P) hD (evalO_ok ht hu) (evalO_ok ht hv) hr))
  case h_22 ty x y ok hx =>
    rw [hx]
    split at hop
    case h_2 => simp at hop
    case h_1 u v hu hv =>
    simp only [Option.map_eq_some_iff] at hop
    obtain ⟨r, hr, rfl⟩ := hop
    exact liftV (pureV hw (lookA_ok (P := P) hD hw (evalO_ok ht hu) (evalO_ok ht hv) hr))
  case h_23 ty m k x hx =>
    rw [hx]
    split at hop
    case h_2 => simp at hop
    case h_1 u v y hu hv hy =>
    simp only [Option.map_eq_some_iff] at hop
    obtain ⟨h', hh, rfl⟩ := hop
    exact liftU (updA_ok (P := P) hD hw (evalO_ok ht hu) (evalO_ok ht hv) (evalO_ok ht hy) hh)
  case h_24 ty m k x hx =>
    rw [hx]
    split at hop
    case h_2 => simp at hop
    case h_1 u v y hu hv hy =>
    simp only [Option.map_eq_some_iff] at hop
    obtain ⟨h', hh, rfl⟩ := hop
    exact liftU (updA_ok (P := P) hD hw (evalO_ok ht hu) (evalO_ok ht hv) (evalO_ok ht hy) hh)
  case h_25 x i hx =>
    rw [hx]
    split at hop
    case h_2 => simp at hop
    case h_1 vs hvs =>
    simp only [Option.map_eq_some_iff] at hop
    obtain ⟨v, hv, rfl⟩ := hop
    have := evalO_ok ht hvs
    cases hcc : a.eval x <;> rw [hcc] at this <;> cases this
    rename_i vs' hc
    obtain ⟨v', g1, g2⟩ := hc.get _ _ hv
    have g1 : vs'[i]? = some v' := by simpa using g1
    refine liftV (pureV hw ⟨v', ?_, g2⟩)
    simp [Instr.extract, hcc, g1]
  case h_26 c hx =>
    rw [hx]
    split at hop
    case h_2 => simp at hop
    case h_1 l hl =>
    have hargs := evalL_ok ht hl
    have eargs : c.args.map a.eval = (c.args.toList.map a.eval).toArray := by apply Array.ext'; simp
    split at hop
    · rename_i b hb
      have := builtA_ok (P := P) hD hw hargs hop o.type (c.args.map fun | .const _ => true | _ => false)
      simp only [resolve, hb, Sem.run_bind, Sem.run_pure, Result.andThen_ok, invoke]
      rw [eargs]; exact this
    · rename_i fo hb
      split at hop
      case h_2 => simp at hop
      case h_1 f first captured hf =>
      split at hop
      case h_2 => simp at hop
      case h_1 F hF =>
      obtain rfl := Option.some.inj hop
      obtain ⟨k1, k2, k3⟩ := hD.fn f F hF
      have := evalO_ok ht hf
      cases hcc : a.eval fo <;> rw [hcc] at this <;> cases this
      rename_i first' captured' q1 q2
      have hbody : F.body.isNone = false := by cases hbb : F.body with
        | none => exact absurd hbb k2
        | some c => rfl
      refine ⟨(first' ++ c.args.map a.eval) ++ captured', ?_, ?_⟩
      · have k3' : ¬ F.name = "runtime.NumGoroutine" := by simpa using k3
        simp [resolve, hb, hcc, Deferred.ofValue, invoke, callFunc, k1, k3', k2]
      · simp only [Array.toList_append, eargs]
        exact (q1.append hargs).append q2
    · simp at hop
  all_goals (simp at hop)
end
end Go.Abs
