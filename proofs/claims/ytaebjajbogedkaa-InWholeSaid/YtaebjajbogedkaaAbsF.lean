/- A machine without capacities, orders and tapes runs the program's code; what it answers, every run of the model answers (typed texts of functions). -/
import Derived.Test.YtaebjajbogedkaaAbsE
set_option linter.unusedVariables false
set_option linter.unusedSimpArgs false
/- Typed cells; the least loop; the order on temporaries. -/
namespace Go.Abs
open Go
/-! ### the kinds of cells -/
inductive Z where
  | int (k : IntKind)
  | bool
  | str
  | ptr
  | sl
  | map
  | any
  | clo (f n : Nat)
/-- captured addresses of a closure -/
abbrev CloT : Nat → Type
  | 0 => Unit
  | 1 => Option Addr
  | n + 2 => Option Addr × CloT (n + 1)
def encClo : (n : Nat) → CloT n → List Value
  | 0, _ => []
  | 1, p => [.pointer p]
  | n + 2, x => .pointer x.1 :: encClo (n + 1) x.2
def asPtr0 : Value → Option (Option Addr)
  | .pointer b => some b
  | _ => none
def decClo : (n : Nat) → List Value → Option (CloT n)
  | 0, l => match l with
    | [] => some ()
    | _ :: _ => none
  | 1, l => match l with
    | [] => none
    | v :: l => match l with
      | [] => asPtr0 v
      | _ :: _ => none
  | n + 2, l => match l with
    | [] => none
    | v :: l => match asPtr0 v, decClo (n + 1) l with
      | some x, some y => some (x, y)
      | _, _ => none
theorem asPtr0_ok {v : Value} {p : Option Addr} (h : asPtr0 v = some p) : v = .pointer p := by
  cases v <;> simp [asPtr0] at h; subst h; rfl
theorem decClo_enc : ∀ (n : Nat) (l : List Value) (x : CloT n), decClo n l = some x → l = encClo n x
  | 0, l, x, h => by
    cases l with
    | nil => rfl
    | cons v l => simp only [decClo] at h; cases h
  | 1, l, x, h => by
    cases l with
    | nil => simp only [decClo] at h; cases h
    | cons v l => cases l with
      | nil => simp only [decClo] at h; rw [asPtr0_ok h]; rfl
      | cons w l => simp only [decClo] at h; cases h
  | n + 2, l, x, h => by
    cases l with
    | nil => simp only [decClo] at h; cases h
    | cons v l =>
      simp only [decClo] at h
      cases ha : asPtr0 v with
      | none => rw [ha] at h; cases h
      | some a =>
        cases hb : decClo (n + 1) l with
        | none => rw [ha, hb] at h; cases h
        | some b =>
          rw [ha, hb] at h
          cases h
          rw [asPtr0_ok ha, decClo_enc (n + 1) l b hb]; rfl
def asClo (f n : Nat) : Value → Option (CloT n)
  | .func (.func g) first cap => bif g.beq f then (match first.toList with
    | [] => decClo n cap.toList
    | _ :: _ => none) else none
  | _ => none
theorem asClo_ok {f n : Nat} {v : Value} {x : CloT n} (h : asClo f n v = some x) : v = .func (.func f) #[] (encClo n x).toArray := by
  unfold asClo at h
  split at h
  · rename_i g first cap
    cases hg : g.beq f with
    | false => rw [hg] at h; simp at h
    | true =>
      rw [hg] at h
      simp only [cond_true] at h
      have := Nat.eq_of_beq_eq_true hg
      subst this
      split at h
      · rename_i hf
        rw [← decClo_enc n _ x h]
        have : first = #[] := by cases first; simp_all
        subst this; rfl
      · simp at h
  · simp at h
structure Sl where
  base : Option Addr
  len : Nat
  cap : Nat
abbrev Z.T : Z → Type
  | .int _ => Int
  | .bool => Bool
  | .str => ByteArray
  | .ptr => Option Addr
  | .sl => Sl
  | .map => Option Nat
  | .any => Value
  | .clo _ n => CloT n
def Z.enc : (z : Z) → z.T → Value
  | .int k, n => .int k n
  | .bool, b => .bool b
  | .str, s => .string s
  | .ptr, a => .pointer a
  | .sl, s => .slice s.base s.len s.cap
  | .map, r => .map r
  | .any, v => v
  | .clo f n, x => .func (.func f) #[] (encClo n x).toArray
def asInt (k : IntKind) : Value → Option Int
  | .int k' n => bif decide (k' = k) then some n else none
  | _ => none
def asBool : Value → Option Bool
  | .bool b => some b
  | _ => none
def asStr : Value → Option ByteArray
  | .string b => some b
  | _ => none
def asPtr : Value → Option (Option Addr)
  | .pointer b => some b
  | _ => none
def asSl : Value → Option Sl
  | .slice a l c => some ⟨a, l, c⟩
  | _ => none
def asMap : Value → Option (Option Nat)
  | .map b => some b
  | _ => none
def Z.dec : (z : Z) → Value → Option z.T
  | .int k, v => asInt k v
  | .bool, v => asBool v
  | .str, v => asStr v
  | .ptr, v => asPtr v
  | .sl, v => asSl v
  | .map, v => asMap v
  | .any, v => some v
  | .clo f n, v => asClo f n v
theorem Z.dec_enc : ∀ (z : Z) (v : Value) (x : z.T), z.dec v = some x → v = z.enc x
  | .int k, v, x, h => by
    cases v <;> simp [Z.dec, asInt] at h
    rename_i k' n
    by_cases e : k' = k
    · subst e; simp at h; subst h; rfl
    · simp [e] at h
  | .bool, v, x, h => by cases v <;> simp [Z.dec, asBool] at h; subst h; rfl
  | .str, v, x, h => by cases v <;> simp [Z.dec, asStr] at h; subst h; rfl
  | .ptr, v, x, h => by cases v <;> simp [Z.dec, asPtr] at h; subst h; rfl
  | .sl, v, x, h => by cases v <;> simp [Z.dec, asSl] at h; subst h; rfl
  | .map, v, x, h => by cases v <;> simp [Z.dec, asMap] at h; subst h; rfl
  | .any, v, x, h => by simp [Z.dec] at h; exact h
  | .clo f n, v, x, h => asClo_ok h
def ZT : List Z → Type
  | [] => Unit
  | [z] => z.T
  | z :: z' :: zs => z.T × ZT (z' :: zs)
def encL : (zs : List Z) → ZT zs → List Value
  | [], _ => []
  | [z], x => [z.enc x]
  | z :: z' :: zs, x => z.enc x.1 :: encL (z' :: zs) x.2
def decL : (zs : List Z) → List Value → Option (ZT zs)
  | [], l => match l with
    | [] => some ()
    | _ :: _ => none
  | [z], l => match l with
    | [] => none
    | v :: l => match l with
      | [] => z.dec v
      | _ :: _ => none
  | z :: z' :: zs, l => match l with
    | [] => none
    | v :: l => match z.dec v, decL (z' :: zs) l with
      | some x, some y => some (x, y)
      | _, _ => none
theorem decL_enc : ∀ (zs : List Z) (l : List Value) (x : ZT zs), decL zs l = some x → l = encL zs x
  | [], l, x, h => by
    cases l with
    | nil => rfl
    | cons v l => simp only [decL] at h; cases h
  | [z], l, x, h => by
    cases l with
    | nil => simp only [decL] at h; cases h
    | cons v l => cases l with
      | nil => simp only [decL] at h; rw [z.dec_enc v x h]; rfl
      | cons w l => simp only [decL] at h; cases h
  | z :: z' :: zs, l, x, h => by
    cases l with
    | nil => simp only [decL] at h; cases h
    | cons v l =>
      simp only [decL] at h
      cases ha : z.dec v with
      | none => rw [ha] at h; cases h
      | some a =>
        cases hb : decL (z' :: zs) l with
        | none => rw [ha, hb] at h; cases h
        | some b =>
          rw [ha, hb] at h
          cases h
          rw [z.dec_enc v a ha, decL_enc (z' :: zs) l b hb]; rfl
/-- a Go type, by its cells -/
structure Ty where
  agg : Bool
  zs : List Z
def Ty.T (y : Ty) : Type := ZT y.zs
def encV (y : Ty) (x : ZT y.zs) : Value := bif y.agg then .agg (encL y.zs x).toArray else match encL y.zs x with
  | v :: _ => v
  | [] => .nilFunc
def decV (y : Ty) (v : Value) : Option (ZT y.zs) := bif y.agg then (match v with | .agg cs => decL y.zs cs.toList | _ => none) else decL y.zs [v]
theorem decV_enc (y : Ty) (v : Value) (x : ZT y.zs) (h : decV y v = some x) : v = encV y x := by
  obtain ⟨a, zs⟩ := y
  cases a
  · have := decL_enc zs [v] x h
    simp only [encV, cond_false]
    rw [← this]
  · simp only [decV, cond_true] at h
    cases v <;> simp at h
    have := decL_enc zs _ x h
    simp only [encV, cond_true]
    rw [← this]
/-! several values -/
def PT : List Ty → Type
  | [] => Unit
  | [y] => ZT y.zs
  | y :: y' :: ys => ZT y.zs × PT (y' :: ys)
def encP : (ys : List Ty) → PT ys → List Value
  | [], _ => []
  | [y], x => [encV y x]
  | y :: y' :: ys, x => encV y x.1 :: encP (y' :: ys) x.2
def decP : (zs : List Ty) → List Value → Option (PT zs)
  | [], l => match l with
    | [] => some ()
    | _ :: _ => none
  | [z], l => match l with
    | [] => none
    | v :: l => match l with
      | [] => decV z v
      | _ :: _ => none
  | z :: z' :: zs, l => match l with
    | [] => none
    | v :: l => match decV z v, decP (z' :: zs) l with
      | some x, some y => some (x, y)
      | _, _ => none
theorem decP_enc : ∀ (zs : List Ty) (l : List Value) (x : PT zs), decP zs l = some x → l = encP zs x
  | [], l, x, h => by
    cases l with
    | nil => rfl
    | cons v l => simp only [decP] at h; cases h
  | [z], l, x, h => by
    cases l with
    | nil => simp only [decP] at h; cases h
    | cons v l => cases l with
      | nil => simp only [decP] at h; rw [decV_enc z v x h]; rfl
      | cons w l => simp only [decP] at h; cases h
  | z :: z' :: zs, l, x, h => by
    cases l with
    | nil => simp only [decP] at h; cases h
    | cons v l =>
      simp only [decP] at h
      cases ha : decV z v with
      | none => rw [ha] at h; cases h
      | some a =>
        cases hb : decP (z' :: zs) l with
        | none => rw [ha, hb] at h; cases h
        | some b =>
          rw [ha, hb] at h
          cases h
          rw [decV_enc z v a ha, decP_enc (z' :: zs) l b hb]; rfl
/-! ### the loop -/
section
variable {σ ρ : Type}
def iter (step : σ → Option (σ ⊕ ρ)) : Nat → σ → Option ρ
  | 0, _ => none
  | n + 1, s => match step s with
    | some (.inl s') => iter step n s'
    | some (.inr r) => some r
    | none => none
theorem iter_mono (step : σ → Option (σ ⊕ ρ)) : ∀ (n m : Nat) (s : σ) (r : ρ), n ≤ m → iter step n s = some r → iter step m s = some r
  | 0, m, s, r, _, h => by simp [iter] at h
  | n + 1, 0, s, r, hl, h => by omega
  | n + 1, m + 1, s, r, hl, h => by
    unfold iter at h ⊢
    split at h
    · rename_i s' e; exact iter_mono step n m s' r (by omega) h
    · exact h
    · simp at h
open Classical in
noncomputable def loopO (step : σ → Option (σ ⊕ ρ)) (s : σ) : Option ρ :=
  if h : ∃ r n, iter step n s = some r then some h.choose else none
theorem loopO_some {step : σ → Option (σ ⊕ ρ)} {s : σ} {r : ρ} : loopO step s = some r ↔ ∃ n, iter step n s = some r := by
  unfold loopO
  constructor
  · intro h
    split at h
    · rename_i hh
      obtain rfl := Option.some.inj h
      exact hh.choose_spec
    · simp at h
  · intro ⟨n, hn⟩
    have hh : ∃ r n, iter step n s = some r := ⟨r, n, hn⟩
    rw [dif_pos hh]
    obtain ⟨m, hm⟩ := hh.choose_spec
    have a := iter_mono step n (max n m) s r (by omega) hn
    have b := iter_mono step m (max n m) s _ (by omega) hm
    rw [a] at b
    exact b.symm
theorem loopO_eq (step : σ → Option (σ ⊕ ρ)) (s : σ) : loopO step s = match step s with
    | some (.inl s') => loopO step s'
    | some (.inr r) => some r
    | none => none := by
  apply Option.ext
  intro r
  rw [loopO_some]
  constructor
  · intro ⟨n, h⟩
    cases n with
    | zero => simp [iter] at h
    | succ n =>
      unfold iter at h
      split at h <;> rename_i e
      · exact loopO_some.2 ⟨n, h⟩
      · exact h
      · simp at h
  · intro h
    split at h <;> rename_i e
    · obtain ⟨n, hn⟩ := loopO_some.1 h
      exact ⟨n + 1, by unfold iter; rw [e]; exact hn⟩
    · exact ⟨1, by unfold iter; rw [e]; exact h⟩
    · simp at h
end
/-! ### the order on temporaries -/
def TLe (t t' : Tr Value) : Prop := ∀ i v, t.get i = some v → t'.get i = some v
theorem TLe.refl (t : Tr Value) : TLe t t := fun _ _ h => h
theorem TLe.trans {a b c : Tr Value} (h : TLe a b) (h' : TLe b c) : TLe a c := fun i v x => h' i v (h i v x)
theorem TLe.set {a b : Tr Value} (h : TLe a b) (d : Nat) (v : Value) : TLe (a.set d v) (b.set d v) := by
  intro i x hx
  rw [Tr.get_set] at hx ⊢
  split <;> rename_i e
  · rw [if_pos e] at hx; exact hx
  · rw [if_neg e] at hx; exact h i x hx
theorem TLe.leaf (t : Tr Value) : TLe .leaf t := fun i v h => by simp [Tr.get] at h
end Go.Abs

/- The machine K: operations in continuation form; what they answer, the machine's operations answer. -/
namespace Go.Abs
open Go
/-- callees, in continuation form -/
abbrev CallK := ∀ {α : Type}, FuncId → List Value → H → (Value → H → Option α) → Option α
def zOf : Value → Z
  | .int k _ => .int k
  | .bool _ => .bool
  | .string _ => .str
  | .pointer _ => .ptr
  | .slice _ _ _ => .sl
  | .map _ => .map
  | _ => .any
def tyOf (i : TyI) : Ty := ⟨i.agg, i.zero.cells.toList.map zOf⟩
def boolY : Ty := ⟨false, [.bool]⟩
def ptrY : Ty := ⟨false, [.ptr]⟩
def intY : Ty := ⟨false, [.int .i64]⟩
def tyD (D : Data) (t : TypeId) : Ty := match D.ty.get t with
  | some j => tyOf j
  | none => boolY
def decO (y : Ty) : Option Value → Option (ZT y.zs)
  | some v => decV y v
  | none => none
def decR (y : Ty) (h : H) : Option OpR → Option (ZT y.zs × H)
  | some (.val v h') => match decV y v with
    | some x => some (x, h')
    | none => none
  | some (.new ob mk) => match decV y (mk h.size) with
    | some x => some (x, newAt (grow h 1) h.size ob)
    | none => none
  | _ => none
section
variable {α : Type}
def kv (y : Ty) (X : Option Value) (h : H) (k : Value → H → Option α) : Option α := match decO y X with
  | some x => k (encV y x) h
  | none => none
def kr (y : Ty) (X : Option OpR) (h : H) (k : Value → H → Option α) : Option α := match decR y h X with
  | some x => k (encV y x.1) x.2
  | none => none
def ptrK (p : Option Addr) (f : Addr → Option α) : Option α := match p with
  | some a => f a
  | none => none
def decA : Option Value → Option Addr
  | some (.pointer (some a)) => some a
  | _ => none
def aK (X : Option Value) (h : H) (k : Value → H → Option α) : Option α := match decA X with
  | some a => k (.pointer (some a)) h
  | none => none
def condK (b : Bool) (x y : Option α) : Option α := bif b then x else y
def ks (X : Option H) (k : Value → H → Option α) : Option α := match X with
  | some h' => k undefV h'
  | none => none
def newK (ob : AObj) (mk : Nat → Value) (h : H) (k : Value → H → Option α) : Option α := k (mk h.size) (newAt (grow h 1) h.size ob)
def finK (c : CallK) (X : OpR) (h : H) (k : Value → H → Option α) : Option α := match X with
  | .val v h' => k v h'
  | .skip h' => k undefV h'
  | .new ob mk => newK ob mk h k
  | .call f args => c f args h k
/-- a value and whether it was there -/
def decT (y : Ty) : Option Value → Option (ZT y.zs × Bool)
  | some (.tuple vs) => match vs.toList with
    | [] => none
    | v :: l => match l with
      | [] => none
      | b :: l => match l with
        | [] => match decV y v, asBool b with
          | some x, some b => some (x, b)
          | _, _ => none
        | _ :: _ => none
  | _ => none
def kt (y : Ty) (X : Option Value) (h : H) (k : Value → H → Option α) : Option α := match decT y X with
  | some x => k (.tuple #[encV y x.1, .bool x.2]) h
  | none => none
def kd (X : Option H) (k : Value → H → Option α) : Option α := match X with
  | some h' => k (.tuple #[]) h'
  | none => none
def tyM (D : Data) (t : TypeId) : Ty := match mapTy D t with
  | some (_, e) => tyD D e
  | none => boolY
def bY (op : BinOp) (y : Ty) : Ty := match op with
  | .eql | .neq | .lss | .leq | .gtr | .geq => boolY
  | _ => y
def builtK (D : Data) (h : H) (y : Ty) (b : Builtin) (ts : Array TypeId) (args : List Value) (k : Value → H → Option α) : Option α :=
  match b, args with
  | .append, [s, x] => kr y (appA D h ts s x) h k
  | .len, [x] => match ts[0]? with
    | some t => kv intY (lenOf D h t x) h k
    | none => none
  | .cap, [x] => match ts[0]? with
    | some t => kv intY (capOf D t x) h k
    | none => none
  | .copy, [d, s] => match ts[0]? with
    | some t => kr intY (copyA D h t d s) h k
    | none => none
  | .max, x :: xs => kv y (foldInt (fun x y => if y > x then y else x) x xs) h k
  | .min, x :: xs => kv y (foldInt (fun x y => if y < x then y else x) x xs) h k
  | .delete, [x, q] => match ts[0]? with
    | some t => kd (delA D h t x q) k
    | none => none
  | .clear, [x] => match ts[0]? with
    | some t => kd (clearA D h t x) k
    | none => none
  | _, _ => none
def opK (D : Data) (c : CallK) (ty : TypeId) (o : Op) (t : Tr Value) (h : H) (k : Value → H → Option α) : Option α :=
  match o with
  | .pick b x y => match evalO t b with
    | some (.bool b) => match evalO t x, evalO t y with
      | some x, some y => kv (tyD D ty) (bif b then some x else some y) h k
      | _, _ => none
    | _ => none
  | .load ty x => match evalO t x, D.ty.get ty with
    | some (.pointer p), some j => ptrK p fun a => kv (tyOf j) (ldVar h j a) h k
    | _, _ => none
  | .store ty x y => match evalO t x, evalO t y, D.ty.get ty with
    | some (.pointer p), some v, some j => ptrK p fun a => ks (stVar h j a v) k
    | _, _, _ => none
  | .nilCheck x => match evalO t x with
    | some (.pointer p) => ptrK p fun a => k (.pointer (some a)) h
    | _ => none
  | .binOp op ty' x y _ => match evalO t x, evalO t y with
    | some a, some b => kv (bY op (tyD D ty)) (binA D op ty' a b) h k
    | _, _ => none
  | .convert s d x => match evalO t x with
    | some a => kr (tyD D d) (convA D h s d a) h k
    | none => none
  | .makeSlice ty x y => match evalO t x, evalO t y with
    | some a, some b => kr (tyD D ty) (mkSl D ty a b) h k
    | _, _ => none
  | .slice ty' x lo hi mx => match evalO t x, evalOO t lo, evalOO t hi, evalOO t mx with
    | some a, some l, some b, some m => kv (tyD D ty) (slA D h ty' a l b m) h k
    | _, _, _, _ => none
  | .fieldAddr ty x f => match evalO t x with
    | some (.pointer p) => ptrK p fun a => aK (fldAddr D ty (.pointer (some a)) f) h k
    | _ => none
  | .indexAddr ty x y => match evalO t x, evalO t y with
    | some (.pointer p), some b => ptrK p fun a => aK (idxAddr D ty (.pointer (some a)) b) h k
    | some a, some b => aK (idxAddr D ty a b) h k
    | _, _ => none
  | .index ty' x y => match evalO t x, evalO t y with
    | some a, some b => kv (tyD D ty) (indexA D ty' a b) h k
    | _, _ => none
  | .call cl => match evalL t cl.args.toList with
    | some l => match cl.callee with
      | .builtin b => builtK D h (tyD D ty) b cl.argTypes l k
      | .value f => match evalO t f with
        | some (.func (.func f) first captured) => match D.fn.get f with
          | some _ => c f (first.toList ++ l ++ captured.toList) h k
          | none => none
        | _ => none
      | _ => none
    | none => none
  | .build ty ps => match evalP t ps.toList with
    | some l => kv (tyD D ty) (buildA D ty l) h k
    | none => none
  | .lookup ty0 x y false => match evalO t x, evalO t y with
    | some a, some b => kv (tyD D ty) (lookA D h ty0 a b false) h k
    | _, _ => none
  | .lookup ty0 x y true => match evalO t x, evalO t y with
    | some a, some b => kt (tyM D ty0) (lookA D h ty0 a b true) h k
    | _, _ => none
  | .mapUpdate ty m kk x => match evalO t m, evalO t kk, evalO t x with
    | some a, some b, some c => ks (updA D h ty a b c) k
    | _, _, _ => none
  | o => match opA D o t h with
    | some X => finK c X h k
    | none => none
end
section
variable {α : Type} {D : Data} {c : CallK} {y : Ty} {h : H} {k : Value → H → Option α} {r : α}
theorem kv_ok {X : Option Value} (e : kv y X h k = some r) : ∃ v, X = some v ∧ k v h = some r := by
  unfold kv at e
  split at e
  · rename_i x hx
    cases X with
    | none => simp [decO] at hx
    | some v => exact ⟨v, rfl, by rw [decV_enc y v x hx]; exact e⟩
  · simp at e
theorem kr_ok {X : Option OpR} (e : kr y X h k = some r) : ∃ R, X = some R ∧ finK c R h k = some r := by
  unfold kr at e
  split at e
  · rename_i x hx
    unfold decR at hx
    split at hx
    · rename_i v h'
      split at hx
      · rename_i x' hx'
        cases hx
        exact ⟨_, rfl, by simp only [finK]; rw [decV_enc y v x' hx']; exact e⟩
      · simp at hx
    · rename_i ob mk
      split at hx
      · rename_i x' hx'
        cases hx
        exact ⟨_, rfl, by simp only [finK, newK]; rw [decV_enc y _ x' hx']; exact e⟩
      · simp at hx
    · simp at hx
  · simp at e
theorem ptrK_ok {p : Option Addr} {f : Addr → Option α} (e : ptrK p f = some r) : ∃ a, p = some a ∧ f a = some r := by
  cases p with
  | none => simp [ptrK] at e
  | some a => exact ⟨a, rfl, e⟩
theorem aK_ok {X : Option Value} (e : aK X h k = some r) : ∃ v, X = some v ∧ k v h = some r := by
  unfold aK at e
  split at e
  · rename_i a ha
    unfold decA at ha
    split at ha
    · simp only [Option.some.injEq] at ha; subst ha; exact ⟨_, rfl, e⟩
    · simp at ha
  · simp at e
theorem ks_ok {X : Option H} (e : ks X k = some r) : ∃ h', X = some h' ∧ k undefV h' = some r := by
  cases X with
  | none => simp [ks] at e
  | some h' => exact ⟨h', rfl, e⟩
theorem decT_ok {y : Ty} {X : Option Value} {x : ZT y.zs × Bool} (e : decT y X = some x) : X = some (.tuple #[encV y x.1, .bool x.2]) := by
  cases X with
  | none => simp [decT] at e
  | some v =>
    cases v <;> simp only [decT] at e <;> try (simp at e; done)
    rename_i vs
    obtain ⟨l⟩ := vs
    simp only at e
    rcases l with _ | ⟨v, _ | ⟨b, _ | ⟨c, l⟩⟩⟩ <;> simp only at e <;> try (simp at e; done)
    split at e
    · rename_i x' b' h1 h2
      cases e
      have e1 := decV_enc _ _ _ h1
      have e2 : b = .bool b' := by cases b <;> simp [asBool] at h2; subst h2; rfl
      subst e1; subst e2; rfl
    · simp at e
theorem kt_ok {X : Option Value} (e : kt y X h k = some r) : ∃ v, X = some v ∧ k v h = some r := by
  unfold kt at e
  split at e
  · rename_i x hx; exact ⟨_, decT_ok hx, e⟩
  · simp at e
theorem kd_ok {X : Option H} (e : kd X k = some r) : ∃ h', X = some h' ∧ k (.tuple #[]) h' = some r := by
  unfold kd at e
  split at e
  · rename_i h' ; exact ⟨h', rfl, e⟩
  · simp at e
theorem builtK_ok {b : Builtin} {ts : Array TypeId} {args : List Value} (e : builtK D h y b ts args k = some r) : ∃ X, builtA D h b ts args = some X ∧ finK c X h k = some r := by
  unfold builtK at e
  split at e
  · obtain ⟨R, h1, h2⟩ := kr_ok (c := c) e
    exact ⟨R, by simp only [builtA]; exact h1, h2⟩
  · split at e
    · rename_i t ht
      obtain ⟨v, h1, h2⟩ := kv_ok e
      exact ⟨.val v h, by simp only [builtA, ht, h1]; rfl, h2⟩
    · simp at e
  · split at e
    · rename_i t ht
      obtain ⟨v, h1, h2⟩ := kv_ok e
      exact ⟨.val v h, by simp only [builtA, ht, h1]; rfl, h2⟩
    · simp at e
  · split at e
    · rename_i t ht
      obtain ⟨R, h1, h2⟩ := kr_ok (c := c) e
      exact ⟨R, by simp only [builtA, ht]; exact h1, h2⟩
    · simp at e
  · obtain ⟨v, h1, h2⟩ := kv_ok e
    exact ⟨.val v h, by simp only [builtA, h1]; rfl, h2⟩
  · obtain ⟨v, h1, h2⟩ := kv_ok e
    exact ⟨.val v h, by simp only [builtA, h1]; rfl, h2⟩
  · split at e
    · rename_i t ht
      obtain ⟨h', h1, h2⟩ := kd_ok e
      exact ⟨.val (.tuple #[]) h', by simp only [builtA, ht, h1]; rfl, h2⟩
    · simp at e
  · split at e
    · rename_i t ht
      obtain ⟨h', h1, h2⟩ := kd_ok e
      exact ⟨.val (.tuple #[]) h', by simp only [builtA, ht, h1]; rfl, h2⟩
    · simp at e
  · simp at e
theorem opK_ok {ty : TypeId} {o : Op} {t : Tr Value} (e : opK D c ty o t h k = some r) : ∃ X, opA D o t h = some X ∧ finK c X h k = some r := by
  unfold opK at e
  split at e
  · split at e
    · rename_i b hb
      split at e
      · rename_i x y hx hy
        obtain ⟨v, h1, h2⟩ := kv_ok e
        refine ⟨.val v h, ?_, h2⟩
        cases b <;> simp only [cond_true, cond_false, Option.some.injEq] at h1 <;> subst h1 <;> simp [opA, hb, hx, hy]
      · simp at e
    · simp at e
  · split at e
    · rename_i p j hp hj
      obtain ⟨a, rfl, e⟩ := ptrK_ok e
      obtain ⟨v, h1, h2⟩ := kv_ok e
      exact ⟨.val v h, by simp [opA, hp, hj, h1], h2⟩
    · simp at e
  · split at e
    · rename_i p v j hp hv hj
      obtain ⟨a, rfl, e⟩ := ptrK_ok e
      obtain ⟨h', h1, h2⟩ := ks_ok e
      exact ⟨.skip h', by simp [opA, hp, hv, hj, h1], h2⟩
    · simp at e
  · split at e
    · rename_i p hp
      obtain ⟨a, rfl, e⟩ := ptrK_ok e
      exact ⟨.val (.pointer (some a)) h, by simp only [opA, hp], e⟩
    · simp at e
  · split at e
    · rename_i a b ha hb
      obtain ⟨v, h1, h2⟩ := kv_ok e
      exact ⟨.val v h, by simp [opA, ha, hb, h1], h2⟩
    · simp at e
  · split at e
    · rename_i a ha
      obtain ⟨R, h1, h2⟩ := kr_ok (c := c) e
      exact ⟨R, by simp [opA, ha, h1], h2⟩
    · simp at e
  · split at e
    · rename_i a b ha hb
      obtain ⟨R, h1, h2⟩ := kr_ok (c := c) e
      exact ⟨R, by simp [opA, ha, hb, h1], h2⟩
    · simp at e
  · split at e
    · rename_i a l b m h1 h2 h3 h4
      obtain ⟨v, h5, h6⟩ := kv_ok e
      exact ⟨.val v h, by simp [opA, h1, h2, h3, h4, h5], h6⟩
    · simp at e
  · split at e
    · rename_i p hp
      obtain ⟨a, rfl, e⟩ := ptrK_ok e
      obtain ⟨v, h5, h6⟩ := aK_ok e
      exact ⟨.val v h, by simp [opA, hp, h5], h6⟩
    · simp at e
  · split at e
    · rename_i p b hp hb
      obtain ⟨a, rfl, e⟩ := ptrK_ok e
      obtain ⟨v, h5, h6⟩ := aK_ok e
      exact ⟨.val v h, by simp [opA, hp, hb, h5], h6⟩
    · rename_i a b _ ha hb
      obtain ⟨v, h5, h6⟩ := aK_ok e
      exact ⟨.val v h, by simp [opA, ha, hb, h5], h6⟩
    · simp at e
  · split at e
    · rename_i a b ha hb
      obtain ⟨v, h5, h6⟩ := kv_ok e
      exact ⟨.val v h, by simp [opA, ha, hb, h5], h6⟩
    · simp at e
  · rename_i cl
    split at e
    · rename_i l hl
      split at e
      · rename_i b hc
        obtain ⟨X, h1, h2⟩ := builtK_ok (c := c) e
        exact ⟨X, by simp [opA, hl, hc, h1], h2⟩
      · rename_i f hc
        split at e
        · rename_i f' first cap hf
          split at e
          · rename_i F hF
            exact ⟨.call f' (first.toList ++ l ++ cap.toList), by simp only [opA, hl, hc, hf, hF], e⟩
          · simp at e
        · simp at e
      · simp at e
    · simp at e
  · split at e
    · rename_i l hl
      obtain ⟨v, h1, h2⟩ := kv_ok e
      exact ⟨.val v h, by simp [opA, hl, h1], h2⟩
    · simp at e
  · split at e
    · rename_i a b ha hb
      obtain ⟨v, h1, h2⟩ := kv_ok e
      exact ⟨.val v h, by simp [opA, ha, hb, h1], h2⟩
    · simp at e
  · split at e
    · rename_i a b ha hb
      obtain ⟨v, h1, h2⟩ := kt_ok e
      exact ⟨.val v h, by simp [opA, ha, hb, h1], h2⟩
    · simp at e
  · split at e
    · rename_i a b c' ha hb hc
      obtain ⟨h', h1, h2⟩ := ks_ok e
      exact ⟨.skip h', by simp [opA, ha, hb, hc, h1], h2⟩
    · simp at e
  · split at e
    · rename_i X hX
      exact ⟨X, hX, e⟩
    · simp at e
end
/-! the operations do not ask more temporaries than they ask -/
section
variable {D : Data} {t t' : Tr Value}
theorem evalO_mono (hl : TLe t t') {x : Operand} {v : Value} (e : evalO t x = some v) : evalO t' x = some v := by
  cases x with
  | tmp i => exact hl i v e
  | const v => exact e
  | global g => simp [evalO] at e
  | func f => exact e
theorem evalL_mono (hl : TLe t t') : ∀ {xs : List Operand} {l : List Value}, evalL t xs = some l → evalL t' xs = some l
  | [], l, e => e
  | x :: xs, l, e => by
    simp only [evalL] at e ⊢
    split at e
    · rename_i v hv
      split at e
      · rename_i l' hl'
        rw [evalO_mono hl hv, evalL_mono hl hl']; exact e
      · simp at e
    · simp at e
theorem evalP_mono (hl : TLe t t') : ∀ {xs : List (Nat × Operand)} {l : List (Nat × Value)}, evalP t xs = some l → evalP t' xs = some l
  | [], l, e => e
  | (i, x) :: xs, l, e => by
    simp only [evalP] at e ⊢
    split at e
    · rename_i v hv
      split at e
      · rename_i l' hl'
        rw [evalO_mono hl hv, evalP_mono hl hl']; exact e
      · simp at e
    · simp at e
theorem evalOO_mono (hl : TLe t t') {x : Option Operand} {v : Option Value} (e : evalOO t x = some v) : evalOO t' x = some v := by
  cases x with
  | none => exact e
  | some x =>
    simp only [evalOO, Option.map_eq_some_iff] at e ⊢
    obtain ⟨a, h1, h2⟩ := e
    exact ⟨a, evalO_mono hl h1, h2⟩
theorem opA_mono (hl : TLe t t') {o : Op} {h : H} {X : OpR} (e : opA D o t h = some X) : opA D o t' h = some X := by
  cases o
  all_goals (try (simp [opA] at e; done))
  case move x => simp only [opA, Option.map_eq_some_iff] at e ⊢; obtain ⟨a, h1, h2⟩ := e; exact ⟨a, evalO_mono hl h1, h2⟩
  case assign x => simp only [opA, Option.map_eq_some_iff] at e ⊢; obtain ⟨a, h1, h2⟩ := e; exact ⟨a, evalO_mono hl h1, h2⟩
  case pick b x y =>
    simp only [opA] at e ⊢
    split at e
    · rename_i hb
      simp only [Option.map_eq_some_iff] at e
      obtain ⟨a, h1, h2⟩ := e
      simp [evalO_mono hl hb, evalO_mono hl h1, h2]
    · rename_i hb
      simp only [Option.map_eq_some_iff] at e
      obtain ⟨a, h1, h2⟩ := e
      simp [evalO_mono hl hb, evalO_mono hl h1, h2]
    · simp at e
  case alloc => exact e
  case box x => simp only [opA, Option.map_eq_some_iff] at e ⊢; obtain ⟨a, h1, h2⟩ := e; exact ⟨a, evalO_mono hl h1, h2⟩
  case build ty ps =>
    simp only [opA] at e ⊢
    split at e
    · rename_i l h1
      rw [evalP_mono hl h1]; exact e
    · simp at e
  case buildSlice ty n ps =>
    simp only [opA] at e ⊢
    split at e
    · rename_i l h1
      rw [evalP_mono hl h1]; exact e
    · simp at e
  case load ty x =>
    simp only [opA] at e ⊢
    split at e
    · rename_i h1 h2
      rw [evalO_mono hl h1, h2]; exact e
    · simp at e
  case store ty x y =>
    simp only [opA] at e ⊢
    split at e
    · rename_i h1 h2 h3
      rw [evalO_mono hl h1, evalO_mono hl h2, h3]; exact e
    · simp at e
  case makeMap ty x =>
    cases x <;> simp [opA] at e ⊢
    exact e
  case call cl =>
    simp only [opA] at e ⊢
    split at e
    · rename_i l h1
      rw [evalL_mono hl h1]
      simp only
      split at e
      · exact e
      · rename_i f hf
        split at e
        · rename_i h2
          rw [evalO_mono hl h2]; exact e
        · simp at e
      · simp at e
    · simp at e
  all_goals (
    simp only [opA] at e ⊢
    repeat' (split at e)
    all_goals (try (simp at e; done))
    all_goals (first
      | (rename_i h1 h2 h3 h4; rw [evalO_mono hl h1, evalOO_mono hl h2, evalOO_mono hl h3, evalOO_mono hl h4]; exact e)
      | (rename_i h1 h2 h3; rw [evalO_mono hl h1, evalO_mono hl h2, evalO_mono hl h3]; exact e)
      | (rename_i h1 h2; rw [evalO_mono hl h1, evalO_mono hl h2]; exact e)
      | (rename_i h1 h2; rw [evalL_mono hl h1, evalL_mono hl h2]; exact e)
      | (rename_i h1; rw [evalO_mono hl h1]; exact e)))
end
end Go.Abs

/- The machine K: regions and code in continuation form (regions of open order not yet). -/
namespace Go.Abs
open Go
section
variable {α : Type}
def putK (t : Tr Value) (n : Nat) (dst : Option Tmp) (v : Value) (k : Tr Value → Option α) : Option α := match putT t n dst v with
  | some t' => k t'
  | none => none
def stepK (D : Data) (c : CallK) (ops : Array Oper) (n : Nat) (o : Oper) (t : Tr Value) (h : H) (k : Tr Value → H → Option α) : Option α :=
  match o.guard with
  | none => opK D c o.type o.op t h fun v h' => putK t n o.dst v fun t' => k t' h'
  | some (j, want) => match ops[j]? with
    | some oj => match oj.dst with
      | some d => match t.get d with
        | some (.bool b) => match want with
          | true => condK b (opK D c o.type o.op (t.set d (.bool true)) h fun v h' => putK (t.set d (.bool true)) n o.dst v fun t' => k t' h')
            (putK (t.set d (.bool false)) n o.dst undefV fun t' => k t' h)
          | false => condK b (putK (t.set d (.bool true)) n o.dst undefV fun t' => k t' h)
            (opK D c o.type o.op (t.set d (.bool false)) h fun v h' => putK (t.set d (.bool false)) n o.dst v fun t' => k t' h')
        | some (.tuple _) => putK t n o.dst undefV fun t' => k t' h
        | _ => none
      | none => none
    | none => none
def runRK (D : Data) (c : CallK) (ops : Array Oper) (n : Nat) : List Oper → Tr Value → H → (Tr Value → H → Option α) → Option α
  | [], t, h, k => k t h
  | o :: os, t, h, k => stepK D c ops n o t h fun t' h' => runRK D c ops n os t' h' k
end
/-- callees tell what the machine tells -/
def CallKOK (D : Data) (c : CallK) : Prop := ∀ (α : Type) (f : FuncId) (args : List Value) (h : H) (k : Value → H → Option α) (r : α), c f args h k = some r → ∃ v h1 N, k v h1 = some r ∧ ∀ m, N ≤ m → callA D m f args h = some (v, h1)
def effX (call : CallF) (X : OpR) (h : H) : Option (Value × H) := match X with
  | .val v h' => some (v, h')
  | .skip h' => some (undefV, h')
  | .new ob mk => some (mk h.size, newAt (grow h 1) h.size ob)
  | .call f args => call f args h
section
variable {α : Type} {D : Data} {c : CallK}
theorem finK_ok (hc : CallKOK D c) {X : OpR} {h : H} {k : Value → H → Option α} {r : α} (e : finK c X h k = some r) : ∃ v h1 N, k v h1 = some r ∧ ∀ m, N ≤ m → effX (callA D m) X h = some (v, h1) := by
  cases X with
  | val v h' => exact ⟨v, h', 0, e, fun m _ => rfl⟩
  | skip h' => exact ⟨_, h', 0, e, fun m _ => rfl⟩
  | new ob mk => exact ⟨_, _, 0, e, fun m _ => rfl⟩
  | call f args => exact hc α f args h k r e
theorem putT_mono {t t' : Tr Value} (hl : TLe t t') {n : Nat} {dst : Option Tmp} {v : Value} {t1 : Tr Value} (e : putT t n dst v = some t1) : ∃ t1', putT t' n dst v = some t1' ∧ TLe t1 t1' := by
  cases dst with
  | none => simp only [putT, Option.some.injEq] at e ⊢; subst e; exact ⟨t', rfl, hl⟩
  | some d =>
    simp only [putT] at e ⊢
    cases hd : d.blt n with
    | false => rw [hd] at e; simp at e
    | true => rw [hd] at e; simp only [cond_true, Option.some.injEq] at e ⊢; subst e; exact ⟨_, rfl, hl.set d v⟩
theorem set_le {t : Tr Value} {d : Nat} {v : Value} (e : t.get d = some v) : TLe (t.set d v) t := by
  intro i x hx
  rw [Tr.get_set] at hx
  split at hx
  · rename_i h; subst h; rw [e]; exact hx
  · exact hx
theorem stepA_true {call : CallF} {ops : Array Oper} {o : Oper} {s : St} (hw : wantA ops o.guard s.t = some true) {X : OpR} (hX : opA D o.op s.t s.h = some X) {v : Value} {h1 : H} (he : effX call X s.h = some (v, h1)) : stepA D call ops o s = put s o.dst v h1 := by
  unfold stepA
  rw [hw]
  simp only [hX]
  cases X <;> simp only [effX, Option.some.injEq, Prod.mk.injEq] at he
  · obtain ⟨rfl, rfl⟩ := he; rfl
  · obtain ⟨rfl, rfl⟩ := he; rfl
  · obtain ⟨rfl, rfl⟩ := he; rfl
  · simp [he]
theorem putK_ok {t : Tr Value} {n : Nat} {dst : Option Tmp} {v : Value} {k : Tr Value → Option α} {r : α} (e : putK t n dst v k = some r) : ∃ t1, putT t n dst v = some t1 ∧ k t1 = some r := by
  unfold putK at e
  split at e
  · rename_i t1 h1; exact ⟨t1, h1, e⟩
  · simp at e
/-- one operation whose guard holds -/
theorem opStep_ok (hc : CallKOK D c) {ops : Array Oper} {n : Nat} {o : Oper} {t : Tr Value} {h : H} {k : Tr Value → H → Option α} {r : α} (e : (opK D c o.type o.op t h fun v h' => putK t n o.dst v fun t' => k t' h') = some r) :
    ∃ t1 h1 N, k t1 h1 = some r ∧ ∀ t', TLe t t' → wantA ops o.guard t' = some true → ∀ m, N ≤ m → ∃ t1', stepA D (callA D m) ops o ⟨t', n, h⟩ = some ⟨t1', n, h1⟩ ∧ TLe t1 t1' := by
  obtain ⟨X, h1, h2⟩ := opK_ok e
  obtain ⟨v, hh, N, h3, h4⟩ := finK_ok hc h2
  obtain ⟨t1, h5, h6⟩ := putK_ok h3
  refine ⟨t1, hh, N, h6, fun t' hl hw m hm => ?_⟩
  obtain ⟨t1', h7, h8⟩ := putT_mono hl h5
  refine ⟨t1', ?_, h8⟩
  rw [stepA_true (s := ⟨t', n, h⟩) hw (opA_mono hl h1) (h4 m hm)]
  simp [put, h7]
theorem skipStep_ok {ops : Array Oper} {n : Nat} {o : Oper} {t : Tr Value} {h : H} {k : Tr Value → H → Option α} {r : α} (e : (putK t n o.dst undefV fun t' => k t' h) = some r) :
    ∃ t1 h1 N, k t1 h1 = some r ∧ ∀ t', TLe t t' → wantA ops o.guard t' = some false → ∀ m, N ≤ m → ∃ t1', stepA D (callA D m) ops o ⟨t', n, h⟩ = some ⟨t1', n, h1⟩ ∧ TLe t1 t1' := by
  obtain ⟨t1, h5, h6⟩ := putK_ok e
  refine ⟨t1, h, 0, h6, fun t' hl hw m hm => ?_⟩
  obtain ⟨t1', h7, h8⟩ := putT_mono hl h5
  refine ⟨t1', ?_, h8⟩
  unfold stepA
  simp [hw, put, h7]
theorem stepK_ok (hc : CallKOK D c) {ops : Array Oper} {n : Nat} {o : Oper} {t : Tr Value} {h : H} {k : Tr Value → H → Option α} {r : α} (e : stepK D c ops n o t h k = some r) :
    ∃ t1 h1 N, k t1 h1 = some r ∧ ∀ t', TLe t t' → ∀ m, N ≤ m → ∃ t1', stepA D (callA D m) ops o ⟨t', n, h⟩ = some ⟨t1', n, h1⟩ ∧ TLe t1 t1' := by
  unfold stepK at e
  split at e
  · rename_i hg
    obtain ⟨t1, h1, N, a, b⟩ := opStep_ok (ops := ops) hc e
    exact ⟨t1, h1, N, a, fun t' hl m hm => b t' hl (by rw [hg]; rfl) m hm⟩
  · rename_i j want hg
    split at e
    · rename_i oj hj
      split at e
      · rename_i d hd
        split at e
        · rename_i b hb
          have hw : ∀ t', TLe t t' → wantA ops o.guard t' = some (b == want) := fun t' hl => by rw [hg]; simp [wantA, hj, hd, hl d _ hb]
          cases want <;> cases b <;> simp only [condK, cond_true, cond_false] at e
          · obtain ⟨t1, h1, N, a, f⟩ := opStep_ok (ops := ops) hc e
            exact ⟨t1, h1, N, a, fun t' hl m hm => f t' ((set_le hb).trans hl) (hw t' hl) m hm⟩
          · obtain ⟨t1, h1, N, a, f⟩ := skipStep_ok (D := D) (ops := ops) e
            exact ⟨t1, h1, N, a, fun t' hl m hm => f t' ((set_le hb).trans hl) (hw t' hl) m hm⟩
          · obtain ⟨t1, h1, N, a, f⟩ := skipStep_ok (D := D) (ops := ops) e
            exact ⟨t1, h1, N, a, fun t' hl m hm => f t' ((set_le hb).trans hl) (hw t' hl) m hm⟩
          · obtain ⟨t1, h1, N, a, f⟩ := opStep_ok (ops := ops) hc e
            exact ⟨t1, h1, N, a, fun t' hl m hm => f t' ((set_le hb).trans hl) (hw t' hl) m hm⟩
        · rename_i cs hb
          obtain ⟨t1, h1, N, a, f⟩ := skipStep_ok (D := D) (ops := ops) e
          exact ⟨t1, h1, N, a, fun t' hl m hm => f t' hl (by rw [hg]; simp [wantA, hj, hd, hl d _ hb]) m hm⟩
        · simp at e
      · simp at e
    · simp at e
theorem runRK_ok (hc : CallKOK D c) {ops : Array Oper} {n : Nat} : ∀ (os : List Oper) (t : Tr Value) (h : H) (k : Tr Value → H → Option α) (r : α), runRK D c ops n os t h k = some r →
    ∃ t1 h1 N, k t1 h1 = some r ∧ ∀ t', TLe t t' → ∀ m, N ≤ m → ∃ t1', runA D (callA D m) ops os ⟨t', n, h⟩ = some ⟨t1', n, h1⟩ ∧ TLe t1 t1'
  | [], t, h, k, r, e => ⟨t, h, 0, e, fun t' hl m hm => ⟨t', rfl, hl⟩⟩
  | o :: os, t, h, k, r, e => by
    unfold runRK at e
    obtain ⟨t1, h1, N1, a, f⟩ := stepK_ok hc e
    obtain ⟨t2, h2, N2, a2, f2⟩ := runRK_ok hc os t1 h1 k r a
    refine ⟨t2, h2, max N1 N2, a2, fun t' hl m hm => ?_⟩
    obtain ⟨t1', e1, l1⟩ := f t' hl m (by omega)
    obtain ⟨t2', e2, l2⟩ := f2 t1' l1 m (by omega)
    exact ⟨t2', by simp only [runA, e1]; exact e2, l2⟩
end
end Go.Abs

/- The machine K: regions whose order is open. -/
namespace Go.Abs
open Go
structure RK where
  i : Nat
  ty : TypeId
  op : Op
  t : Tr Value
  v : Value
  L : Nat
  nc : Nat
structure DK where
  t : Tr Value
  m : H
  cs : List (Nat × AObj)
  effs : List (Nat × H)
  reads : List RK
section
variable {α : Type}
def slEq (b : Option Addr) (l c : Nat) (b' : Option Addr) (l' c' : Nat) : Bool := decide (b = b') && (l.beq l' && c.beq c')
def eqK (v' v : Value) (r : Option α) : Option α := match v', v with
  | .bool a, .bool b => condK (a == b) r none
  | .int k a, .int k' b => bif decide (k = k') then condK (a == b) r none else none
  | .string a, .string b => condK (a.data.toList == b.data.toList) r none
  | .pointer a, .pointer b => condK (decide (a = b)) r none
  | .slice a l c, .slice a' l' c' => condK (slEq a l c a' l' c') r none
  | .map a, .map b => condK (decide (a = b)) r none
  | v', v => condK (veq v v') r none
/-- conversions that ask nothing of the heap -/
def heapFree (D : Data) : Op → Bool
  | .convert s d _ => match D.ty.get s, D.ty.get d with
    | some i, some j => (match i.desc, j.desc with | .int _, .int _ => true | _, _ => false)
    | _, _ => false
  | _ => false
def own? (mask : Nat) (cs : List (Nat × AObj)) (R : RK) (len : Nat) : Bool := R.L.beq len && (cs.drop R.nc).all (fun e => !(mask.testBit e.1))
def chkK (D : Data) (c : CallK) (bm : Array Nat) (n0 : Nat) (cs : List (Nat × AObj)) (R : RK) (len : Nat) (m : H) (r : Option α) : Option α :=
  bif heapFree D R.op || own? (bm.getD R.i 0) cs R len then r else opK D c R.ty R.op R.t (addP (bm.getD R.i 0) n0 cs m) fun v' _ => eqK v' R.v r
def rereadK (D : Data) (c : CallK) (bm : Array Nat) (n0 : Nat) (cs : List (Nat × AObj)) (R : RK) : List (Nat × H) → H → Option α → Option α
  | [], m, r => chkK D c bm n0 cs R 0 m r
  | (e, m') :: rest, m, r =>
    bif ((e, m') :: rest).all (fun e => !(bm.getD e.1 0).testBit R.i) then chkK D c bm n0 cs R (rest.length + 1) m (bif (bm.getD R.i 0).testBit e then r else rereadK D c bm n0 cs R rest m' r)
    else (bif (bm.getD R.i 0).testBit e then r else rereadK D c bm n0 cs R rest m' r)
def rereadsK (D : Data) (c : CallK) (bm : Array Nat) (n0 : Nat) (cs : List (Nat × AObj)) (effs : List (Nat × H)) (m : H) : List RK → Option α → Option α
  | [], r => r
  | R :: Rs, r => rereadK D c bm n0 cs R effs m (rereadsK D c bm n0 cs effs m Rs r)
def plain1 : Value → Bool
  | .bool _ | .int _ _ | .string _ | .pointer _ | .slice _ _ _ | .map _ => true
  | _ => false
def plain : Value → Bool
  | .agg cs => cs.toList.all plain1
  | .tuple cs => cs.toList.all plain1
  | v => plain1 v
def newX (X : Option OpR) (k : AObj → (Nat → Value) → Option α) : Option α := match X with
  | some (.new ob mk) => k ob mk
  | _ => none
/-- a new row: its length may hang on what is not known -/
def allocK (D : Data) (o : Op) (t : Tr Value) (m : H) (k : AObj → (Nat → Value) → Option α) : Option α := match o with
  | .makeSlice ty x y => match evalO t x, evalO t y with
    | some (.int _ n), some (.int _ c) => match elemOf D ty with
      | some (e, j) => condK (decide (0 ≤ n) && decide (n ≤ c) && decide (c * (j.bytes + 1) ≤ 2 ^ 46)) (k (row e (zeros j.zero c.toNat)) fun A => .slice (some ⟨A, 0, some 0⟩) n.toNat c.toNat) none
      | none => none
    | _, _ => none
  | o => newX (opA D o t m) k
def dopK (D : Data) (c : CallK) (bm : Array Nat) (n n0 i : Nat) (o : Oper) (s : DK) (k : DK → Option α) : Option α :=
  bif pureOp o.op then opK D c o.type o.op s.t s.m fun v _ => putK s.t n o.dst v fun t => k { s with t := t }
  else bif allocOp o.op then allocK D o.op s.t s.m fun ob mk => putK s.t n o.dst (mk (n0 + i)) fun t => k { s with t := t, cs := s.cs ++ [(i, ob)] }
  else bif readOp D o.op then opK D c o.type o.op s.t (addP (bm.getD i 0) n0 s.cs s.m) fun v _ => bif plain v then putK s.t n o.dst v fun t => k { s with t := t, reads := ⟨i, o.type, o.op, s.t, v, s.effs.length, s.cs.length⟩ :: s.reads } else none
  else bif s.effs.all (fun e => (bm.getD i 0).testBit e.1) then opK D c o.type o.op s.t (addP (bm.getD i 0) n0 s.cs s.m) fun v h' => putK s.t n o.dst v fun t => k { s with t := t, m := h', effs := (i, s.m) :: s.effs }
  else none
def dstepK (D : Data) (c : CallK) (ops : Array Oper) (bm : Array Nat) (n n0 i : Nat) (o : Oper) (s : DK) (k : DK → Option α) : Option α :=
  match o.guard with
  | none => dopK D c bm n n0 i o s k
  | some (j, want) => match ops[j]? with
    | some oj => match oj.dst with
      | some d => match s.t.get d with
        | some (.bool b) => match want with
          | true => condK b (dopK D c bm n n0 i o { s with t := s.t.set d (.bool true) } k)
            (putK (s.t.set d (.bool false)) n o.dst undefV fun t' => k { s with t := t' })
          | false => condK b (putK (s.t.set d (.bool true)) n o.dst undefV fun t' => k { s with t := t' })
            (dopK D c bm n n0 i o { s with t := s.t.set d (.bool false) } k)
        | some (.tuple _) => putK s.t n o.dst undefV fun t' => k { s with t := t' }
        | _ => none
      | none => none
    | none => none
def drunK (D : Data) (c : CallK) (ops : Array Oper) (bm : Array Nat) (n n0 : Nat) : List Oper → Nat → DK → (DK → Option α) → Option α
  | [], _, s, k => k s
  | o :: os, i, s, k => dstepK D c ops bm n n0 i o s fun s' => drunK D c ops bm n n0 os (i + 1) s' k
def growIf (h : H) (k : Nat) : H := bif k.beq 0 then h else grow h k
def drawK (D : Data) (c : CallK) (ops : Array Oper) (n : Nat) (t : Tr Value) (h : H) (k : Tr Value → H → Option α) : Option α :=
  bif textOk ops (Region.before ops) then drunK D c ops (Region.before ops) n h.size ops.toList 0 ⟨t, growIf h (reserve ops), [], [], []⟩ fun z =>
    rereadsK D c (Region.before ops) h.size z.cs z.effs z.m z.reads (k z.t (tickIf (reserve ops) (addP (2 ^ ops.size - 1) h.size z.cs z.m)))
  else none
end
/-! soundness -/
section
variable {α : Type} {D : Data} {c : CallK}
theorem eqK_ok {v' v : Value} {r : Option α} {x : α} (e : eqK v' v r = some x) : veq v v' = true ∧ r = some x := by
  unfold eqK at e
  split at e
  · rename_i a b; cases hb : a == b with
    | false => simp [condK, hb] at e
    | true => simp [condK, hb] at e; simp at hb; subst hb; exact ⟨by simp [veq, veqN], e⟩
  · rename_i k a k' b
    by_cases hk : k = k'
    · subst hk
      cases hb : a == b with
      | false => simp [condK, hb] at e
      | true => simp [condK, hb] at e; simp at hb; subst hb; exact ⟨by simp [veq, veqN], e⟩
    · simp [hk] at e
  · rename_i a b; cases hb : a.data.toList == b.data.toList with
    | false => simp [condK, hb] at e
    | true => simp [condK, hb] at e; simp only [beq_iff_eq] at hb; exact ⟨by simp [veq, veqN, hb], e⟩
  · rename_i a b; by_cases hb : a = b
    · subst hb; simp [condK] at e; exact ⟨by simp [veq, veqN], e⟩
    · simp [condK, hb] at e
  · rename_i a l c a' l' c'; cases hb : slEq a l c a' l' c' with
    | false => simp [condK, hb] at e
    | true =>
      simp [condK, hb] at e
      simp only [slEq, Bool.and_eq_true, decide_eq_true_eq, nbeq_eq] at hb
      obtain ⟨rfl, rfl, rfl⟩ := hb
      exact ⟨by simp [veq, veqN], e⟩
  · rename_i a b; by_cases hb : a = b
    · subst hb; simp [condK] at e; exact ⟨by simp [veq, veqN], e⟩
    · simp [condK, hb] at e
  · cases hb : veq v v' with
    | false => simp [condK, hb] at e
    | true => simp [condK, hb] at e; exact ⟨rfl, e⟩
theorem allocK_ok {o : Op} {t : Tr Value} {m : H} {k : AObj → (Nat → Value) → Option α} {r : α} (e : allocK D o t m k = some r) : ∃ ob mk, opA D o t m = some (.new ob mk) ∧ k ob mk = some r := by
  unfold allocK at e
  split at e
  · split at e
    · rename_i n _ c hx hy
      split at e
      · rename_i el j hj
        cases hb : (decide (0 ≤ n) && decide (n ≤ c) && decide (c * (j.bytes + 1) ≤ 2 ^ 46)) with
        | false => rw [hb] at e; simp [condK] at e
        | true =>
          rw [hb] at e
          exact ⟨_, _, by simp only [opA, hx, hy, mkSl, hj, hb, cond_true], e⟩
      · simp at e
    · simp at e
  · unfold newX at e
    split at e
    · rename_i ob mk h; exact ⟨ob, mk, h, e⟩
    · simp at e
theorem pure_val {o : Op} {t : Tr Value} {h : H} {X : OpR} (hp : pureOp o = true) (e : opA D o t h = some X) : ∃ v, X = .val v h := by
  have := pure_form (D := D) hp t h h
  rw [e] at this
  cases hv : (some X).bind valOf with
  | none => rw [hv] at this; simp at this
  | some v => rw [hv] at this; simp at this; exact ⟨v, this⟩
theorem read_val {o : Op} {t : Tr Value} {h : H} {X : OpR} (hp : readOp D o = true) (e : opA D o t h = some X) : ∃ v, X = .val v h := by
  cases o <;> try (simp [readOp] at hp; done)
  case load ty x =>
    simp only [opA] at e
    split at e
    · simp only [Option.map_eq_some_iff] at e; obtain ⟨v, _, rfl⟩ := e; exact ⟨v, rfl⟩
    · simp at e
  case convert s d x =>
    simp only [opA] at e
    split at e
    · unfold convA at e
      simp only [readOp] at hp
      split at e
      · rename_i i j hi hj
        rw [hi, hj] at hp
        simp only at hp
        split at e
        · cases e; exact ⟨_, rfl⟩
        · cases e; exact ⟨_, rfl⟩
        · simp_all
        · repeat' (split at e)
          all_goals first | (cases e; exact ⟨_, rfl⟩) | (simp at e; done)
        · repeat' (split at e)
          all_goals first | (simp only [Option.map_eq_some_iff] at e; obtain ⟨v, _, rfl⟩ := e; exact ⟨_, rfl⟩) | (simp at e; done)
        · repeat' (split at e)
          all_goals first | (rw [cond_eq_ite] at e; split at e <;> first | (cases e; exact ⟨_, rfl⟩) | (simp at e; done)) | (simp at e; done)
        · simp at e
      · simp at e
    · simp at e
  case slice ty x lo hi mx =>
    simp only [opA] at e
    split at e
    · simp only [Option.map_eq_some_iff] at e; obtain ⟨v, _, rfl⟩ := e; exact ⟨v, rfl⟩
    · simp at e
  case lookup ty x y ok =>
    simp only [opA] at e
    split at e
    · simp only [Option.map_eq_some_iff] at e; obtain ⟨v, _, rfl⟩ := e; exact ⟨v, rfl⟩
    · simp at e
  case call cl =>
    obtain ⟨callee, args, tys⟩ := cl
    cases callee <;> try (simp [readOp] at hp; done)
    rename_i b
    simp only [opA] at e
    split at e
    · rename_i l hl
      have key : ∀ (f : TypeId → Option Value) (q : Option TypeId), (match q with | some t => (f t).map (fun v => OpR.val v h) | none => none) = some X → ∃ v, X = .val v h := by
        intro f q hq
        cases q with
        | none => simp at hq
        | some t => simp only [Option.map_eq_some_iff] at hq; obtain ⟨v, _, rfl⟩ := hq; exact ⟨v, rfl⟩
      cases b <;> try (simp [readOp] at hp; done)
      · rcases l with _ | ⟨x, _ | ⟨y, l⟩⟩ <;> simp only [builtA] at e
        · simp at e
        · exact key _ _ e
        · simp at e
      · rcases l with _ | ⟨x, _ | ⟨y, l⟩⟩ <;> simp only [builtA] at e
        · simp at e
        · exact key _ _ e
        · simp at e
    · simp at e
theorem plain1_veqN : ∀ (n : Nat) (v : Value), plain1 v = true → veqN n v v = true := by
  intro n v h
  cases v <;> first | (simp [plain1] at h; done) | (cases n <;> simp [veqN])
theorem plain_veq {v : Value} (h : plain v = true) : veq v v = true := by
  unfold veq
  cases v with
  | agg cs =>
    simp only [plain] at h
    simp only [veqN]
    generalize cs.toList = l at h
    induction l with
    | nil => rfl
    | cons a l ih =>
      simp only [List.all_cons, Bool.and_eq_true] at h
      simp only [allB, plain1_veqN 3 a h.1, ih h.2, Bool.and_self]
  | tuple cs =>
    simp only [plain] at h
    simp only [veqN]
    generalize cs.toList = l at h
    induction l with
    | nil => rfl
    | cons a l ih =>
      simp only [List.all_cons, Bool.and_eq_true] at h
      simp only [allB, plain1_veqN 3 a h.1, ih h.2, Bool.and_self]
  | _ => exact plain1_veqN 4 _ h
def RR (D : Data) : List RK → List (Nat × Op × Tr Value × Value) → Prop
  | [], [] => True
  | R :: Rs, r :: rs => r.1 = R.i ∧ r.2.1 = R.op ∧ TLe R.t r.2.2.1 ∧ r.2.2.2 = R.v ∧ (readOp D R.op = true ∧ plain R.v = true) ∧ RR D Rs rs
  | _, _ => False
structure DR (D : Data) (s : DK) (s' : DS) : Prop where
  m : s'.m = s.m
  cs : s'.cs = s.cs
  effs : s'.effs = s.effs
  t : TLe s.t s'.t
  reads : RR D s.reads s'.reads
def hAt : List (Nat × H) → H → Nat → H
  | [], m, _ => m
  | (_, m') :: rest, m, L => bif L.beq (rest.length + 1) then m else hAt rest m' L
theorem hAt_push (effs : List (Nat × H)) (m : H) (e : Nat) (h' : H) {L : Nat} (hL : L ≤ effs.length) : hAt ((e, m) :: effs) h' L = hAt effs m L := by
  show (bif L.beq (effs.length + 1) then h' else hAt effs m L) = hAt effs m L
  rw [nbeq_f (by omega)]; rfl
theorem hAt_top (effs : List (Nat × H)) (m : H) : hAt effs m effs.length = m := by
  cases effs with
  | nil => rfl
  | cons e es => obtain ⟨e, m'⟩ := e; unfold hAt; rw [nbeq_t (by simp)]; rfl
def rdAt (bm : Array Nat) (n0 : Nat) (cs : List (Nat × AObj)) (effs : List (Nat × H)) (m : H) (R : RK) : H := addP (bm.getD R.i 0) n0 (cs.take R.nc) (hAt effs m R.L)
def Own (D : Data) (bm : Array Nat) (n0 : Nat) (s : DK) : Prop := ∀ R ∈ s.reads, R.L ≤ s.effs.length ∧ R.nc ≤ s.cs.length ∧ opA D R.op R.t (rdAt bm n0 s.cs s.effs s.m R) = some (.val R.v (rdAt bm n0 s.cs s.effs s.m R))
theorem addP_skip (mask n0 : Nat) : ∀ (cs cs' : List (Nat × AObj)) (h : H), (∀ e ∈ cs', mask.testBit e.1 = false) → addP mask n0 (cs ++ cs') h = addP mask n0 cs h
  | [], [], h, _ => rfl
  | [], (i, ob) :: l, h, g => by
    have : mask.testBit i = false := g (i, ob) (List.mem_cons_self ..)
    show addP mask n0 ((i, ob) :: l) h = h
    unfold addP
    rw [this]
    exact addP_skip mask n0 [] l h (fun e he => g e (List.mem_cons_of_mem _ he))
  | (i, ob) :: cs, cs', h, g => by
    show addP mask n0 ((i, ob) :: (cs ++ cs')) h = addP mask n0 ((i, ob) :: cs) h
    unfold addP
    cases mask.testBit i with
    | false => exact addP_skip mask n0 cs cs' h g
    | true =>
      simp only [cond_true]
      split
      · exact addP_skip mask n0 cs cs' _ g
      · exact addP_skip mask n0 cs cs' _ g
theorem own_at {bm : Array Nat} {n0 : Nat} {cs : List (Nat × AObj)} {effs : List (Nat × H)} {m : H} {R : RK} (h : own? (bm.getD R.i 0) cs R effs.length = true) : rdAt bm n0 cs effs m R = addP (bm.getD R.i 0) n0 cs m := by
  unfold own? at h
  simp only [Bool.and_eq_true, nbeq_eq, List.all_eq_true, Bool.not_eq_true'] at h
  unfold rdAt
  rw [h.1, hAt_top]
  conv => rhs; rw [← List.take_append_drop R.nc cs]
  rw [addP_skip _ _ _ _ _ h.2]
theorem free_any {o : Op} {t : Tr Value} {h h' : H} {v : Value} (hf : heapFree D o = true) (e : opA D o t h = some (.val v h)) : opA D o t h' = some (.val v h') := by
  cases o <;> try (simp [heapFree] at hf; done)
  rename_i s d x
  simp only [heapFree] at hf
  split at hf
  · rename_i i j hi hj
    split at hf
    · rename_i k1 k2 h1 h2
      simp only [opA] at e ⊢
      split at e
      · unfold convA at e ⊢
        simp only [hi, hj, h1, h2] at e ⊢
        split at e
        all_goals first | (simp at e; done) | skip
        all_goals (simp_all)
      · simp at e
    · simp at hf
  · simp at hf
theorem quiet_val {call : CallF} {o : Op} {t : Tr Value} {h : H} {v : Value} (e : opA D o t h = some (.val v h)) : quietA D call o t h = some v := by
  unfold quietA; rw [e]; simp only; rw [nbeq_t rfl]; rfl
theorem eff_of {call : CallF} {o : Op} {t : Tr Value} {h : H} {X : OpR} (e : opA D o t h = some X) : effA D call o t h = effX call X h := by
  unfold effA; rw [e]; cases X <;> rfl
/-- what one step tells -/
def StepR (D : Data) (ops : Array Oper) (bm : Array Nat) (n n0 i : Nat) (o : Oper) (want : Bool) (s : DK) (k : DK → Option α) (r : α) : Prop :=
  ∃ s1 N, k s1 = some r ∧ (Own D bm n0 s → Own D bm n0 s1) ∧ ∀ s', DR D s s' → wantA ops o.guard s'.t = some want → ∀ m, N ≤ m → ∃ s1', dstep D (callA D m) ops bm n n0 i o s' = some s1' ∧ DR D s1 s1'
theorem dopK_ok (hc : CallKOK D c) {ops : Array Oper} {bm : Array Nat} {n n0 i : Nat} {o : Oper} {s : DK} {k : DK → Option α} {r : α} (e : dopK D c bm n n0 i o s k = some r) : StepR D ops bm n n0 i o true s k r := by
  unfold dopK at e
  rw [cond_eq_ite] at e
  split at e
  · rename_i hp
    obtain ⟨X, h1, h2⟩ := opK_ok e
    obtain ⟨v, rfl⟩ := pure_val hp h1
    obtain ⟨t1, h3, h4⟩ := putK_ok h2
    refine ⟨_, 0, h4, fun h => h, fun s' hd hw m _ => ?_⟩
    obtain ⟨t1', h5, h6⟩ := putT_mono hd.t h3
    refine ⟨{ s' with t := t1' }, ?_, ⟨hd.m, hd.cs, hd.effs, h6, hd.reads⟩⟩
    unfold dstep
    rw [hw]
    simp only [hp, cond_true, hd.m, quiet_val (opA_mono hd.t h1), h5, Option.map_some]
  · rename_i hnp
    rw [cond_eq_ite] at e
    split at e
    · rename_i hp
      obtain ⟨ob, mk, hX, e⟩ := allocK_ok e
      obtain ⟨t1, h3, h4⟩ := putK_ok e
      refine ⟨_, 0, h4, fun h R hR => ?_, fun s' hd hw m _ => ?_⟩
      · obtain ⟨b1, b2, b3⟩ := h R hR
        have hcs : rdAt bm n0 (s.cs ++ [(i, ob)]) s.effs s.m R = rdAt bm n0 s.cs s.effs s.m R := by
          unfold rdAt; rw [List.take_append_of_le_length b2]
        exact ⟨b1, by simp; omega, by rw [hcs]; exact b3⟩
      · obtain ⟨t1', h5, h6⟩ := putT_mono hd.t h3
        refine ⟨{ s' with t := t1', cs := s'.cs ++ [(i, ob)] }, ?_, ⟨hd.m, by simp [hd.cs], hd.effs, h6, hd.reads⟩⟩
        unfold dstep
        rw [hw]
        have := opA_mono hd.t hX
        rw [← hd.m] at this
        simp only [Bool.not_eq_true] at hnp
        simp only [hnp, cond_false, hp, cond_true, this, h5, Option.map_some]
    · rename_i hna
      simp only [Bool.not_eq_true] at hnp hna
      rw [cond_eq_ite] at e
      split at e
      · rename_i hp
        obtain ⟨X, h1, h2⟩ := opK_ok e
        obtain ⟨v, rfl⟩ := read_val hp h1
        simp only [finK] at h2
        rw [cond_eq_ite] at h2
        split at h2
        case isFalse => simp at h2
        rename_i hpl
        obtain ⟨t1, h3, h4⟩ := putK_ok h2
        refine ⟨_, 0, h4, fun h R hR => ?_, fun s' hd hw m _ => ?_⟩
        · simp only [List.mem_cons] at hR
          rcases hR with rfl | hR
          · refine ⟨Nat.le_refl _, Nat.le_refl _, ?_⟩
            simp only [rdAt, hAt_top, List.take_length]
            exact h1
          · exact h R hR
        · obtain ⟨t1', h5, h6⟩ := putT_mono hd.t h3
          refine ⟨{ s' with t := t1', reads := (i, o.op, s'.t, v) :: s'.reads }, ?_, ⟨hd.m, hd.cs, hd.effs, h6, rfl, rfl, hd.t, rfl, ⟨hp, hpl⟩, hd.reads⟩⟩
          unfold dstep
          rw [hw]
          simp only [hnp, hna, cond_false, hp, cond_true, hd.m, hd.cs, quiet_val (opA_mono hd.t h1), h5, Option.map_some]
      · rename_i hnr
        simp only [Bool.not_eq_true] at hnr
        rw [cond_eq_ite] at e
        split at e
        · rename_i hall
          obtain ⟨X, h1, h2⟩ := opK_ok e
          obtain ⟨v, hh, N, h3, h4⟩ := finK_ok hc h2
          obtain ⟨t1, h5, h6⟩ := putK_ok h3
          refine ⟨_, N, h6, fun h R hR => ?_, fun s' hd hw m hm => ?_⟩
          · obtain ⟨a, b1, b2⟩ := h R hR
            have hh' : rdAt bm n0 s.cs ((i, s.m) :: s.effs) hh R = rdAt bm n0 s.cs s.effs s.m R := by
              unfold rdAt; rw [hAt_push _ _ _ _ a]
            exact ⟨by simp; omega, b1, by rw [hh']; exact b2⟩
          · obtain ⟨t1', h7, h8⟩ := putT_mono hd.t h5
            refine ⟨{ s' with t := t1', m := hh, effs := (i, s'.m) :: s'.effs }, ?_, ⟨rfl, hd.cs, by simp [hd.effs, hd.m], h8, hd.reads⟩⟩
            unfold dstep
            rw [hw]
            have := eff_of (call := callA D m) (opA_mono hd.t h1)
            rw [h4 m hm] at this
            simp only [hnp, hna, hnr, cond_false, hd.effs, hall, cond_true, hd.m, hd.cs, this, h7, Option.map_some]
        · simp at e
theorem dskip_ok {ops : Array Oper} {bm : Array Nat} {n n0 i : Nat} {o : Oper} {s : DK} {k : DK → Option α} {r : α} (e : (putK s.t n o.dst undefV fun t' => k { s with t := t' }) = some r) : StepR D ops bm n n0 i o false s k r := by
  obtain ⟨t1, h3, h4⟩ := putK_ok e
  refine ⟨_, 0, h4, fun h => h, fun s' hd hw m _ => ?_⟩
  obtain ⟨t1', h5, h6⟩ := putT_mono hd.t h3
  refine ⟨{ s' with t := t1' }, ?_, ⟨hd.m, hd.cs, hd.effs, h6, hd.reads⟩⟩
  unfold dstep
  rw [hw]
  simp only [h5, Option.map_some]
theorem dstepK_ok (hc : CallKOK D c) {ops : Array Oper} {bm : Array Nat} {n n0 i : Nat} {o : Oper} {s : DK} {k : DK → Option α} {r : α} (e : dstepK D c ops bm n n0 i o s k = some r) :
    ∃ s1 N, k s1 = some r ∧ (Own D bm n0 s → Own D bm n0 s1) ∧ ∀ s', DR D s s' → ∀ m, N ≤ m → ∃ s1', dstep D (callA D m) ops bm n n0 i o s' = some s1' ∧ DR D s1 s1' := by
  unfold dstepK at e
  split at e
  · rename_i hg
    obtain ⟨s1, N, a, b, f⟩ := dopK_ok (ops := ops) hc e
    exact ⟨s1, N, a, b, fun s' hd m hm => f s' hd (by rw [hg]; rfl) m hm⟩
  · rename_i j want hg
    split at e
    · rename_i oj hj
      split at e
      · rename_i d hd
        split at e
        · rename_i b hb
          have hw : ∀ s', DR D s s' → wantA ops o.guard s'.t = some (b == want) := fun s' hl => by rw [hg]; simp [wantA, hj, hd, hl.t d _ hb]
          have hdr : ∀ s', DR D s s' → DR D { s with t := s.t.set d (.bool b) } s' := fun s' hl => ⟨hl.m, hl.cs, hl.effs, (set_le hb).trans hl.t, hl.reads⟩
          cases want <;> cases b <;> simp only [condK, cond_true, cond_false] at e
          · obtain ⟨s1, N, a, b, f⟩ := dopK_ok (ops := ops) hc e
            exact ⟨s1, N, a, b, fun s' hl m hm => f s' (hdr s' hl) (hw s' hl) m hm⟩
          · obtain ⟨s1, N, a, b, f⟩ := dskip_ok (D := D) (ops := ops) (bm := bm) (n0 := n0) (i := i) (s := { s with t := s.t.set d (.bool true) }) e
            exact ⟨s1, N, a, b, fun s' hl m hm => f s' (hdr s' hl) (hw s' hl) m hm⟩
          · obtain ⟨s1, N, a, b, f⟩ := dskip_ok (D := D) (ops := ops) (bm := bm) (n0 := n0) (i := i) (s := { s with t := s.t.set d (.bool false) }) e
            exact ⟨s1, N, a, b, fun s' hl m hm => f s' (hdr s' hl) (hw s' hl) m hm⟩
          · obtain ⟨s1, N, a, b, f⟩ := dopK_ok (ops := ops) hc e
            exact ⟨s1, N, a, b, fun s' hl m hm => f s' (hdr s' hl) (hw s' hl) m hm⟩
        · rename_i cs hb
          obtain ⟨s1, N, a, b, f⟩ := dskip_ok (D := D) (ops := ops) (bm := bm) (n0 := n0) (i := i) e
          exact ⟨s1, N, a, b, fun s' hl m hm => f s' hl (by rw [hg]; simp [wantA, hj, hd, hl.t d _ hb]) m hm⟩
        · simp at e
      · simp at e
    · simp at e
theorem drunK_ok (hc : CallKOK D c) {ops : Array Oper} {bm : Array Nat} {n n0 : Nat} : ∀ (os : List Oper) (i : Nat) (s : DK) (k : DK → Option α) (r : α), drunK D c ops bm n n0 os i s k = some r →
    ∃ z N, k z = some r ∧ (Own D bm n0 s → Own D bm n0 z) ∧ ∀ s', DR D s s' → ∀ m, N ≤ m → ∃ z', drun D (callA D m) ops bm n n0 os i s' = some z' ∧ DR D z z'
  | [], i, s, k, r, e => ⟨s, 0, e, fun h => h, fun s' hd m _ => ⟨s', rfl, hd⟩⟩
  | o :: os, i, s, k, r, e => by
    unfold drunK at e
    obtain ⟨s1, N, a, b, f⟩ := dstepK_ok hc e
    obtain ⟨z, N2, a2, b2, f2⟩ := drunK_ok hc os (i + 1) s1 k r a
    refine ⟨z, max N N2, a2, fun h => b2 (b h), fun s' hd m hm => ?_⟩
    obtain ⟨s1', e1, d1⟩ := f s' hd m (by omega)
    obtain ⟨z', e2, d2⟩ := f2 s1' d1 m (by omega)
    exact ⟨z', by simp only [drun, e1]; exact e2, d2⟩
theorem chkK_ok {call : CallF} {bm : Array Nat} {n0 : Nat} {cs : List (Nat × AObj)} {R : RK} {len : Nat} {m : H} {r : Option α} {x : α} {t' : Tr Value} (hr : readOp D R.op = true) (ht : TLe R.t t')
    (hfr : ∃ h, opA D R.op R.t h = some (.val R.v h)) (own : own? (bm.getD R.i 0) cs R len = true → opA D R.op R.t (addP (bm.getD R.i 0) n0 cs m) = some (.val R.v (addP (bm.getD R.i 0) n0 cs m))) (hv : veq R.v R.v = true) (e : chkK D c bm n0 cs R len m r = some x) :
    r = some x ∧ (match quietA D call R.op t' (addP (bm.getD R.i 0) n0 cs m) with | some u => veq R.v u | none => false) = true := by
  unfold chkK at e
  rw [cond_eq_ite] at e
  split at e
  · rename_i hh
    refine ⟨e, ?_⟩
    have key : opA D R.op R.t (addP (bm.getD R.i 0) n0 cs m) = some (.val R.v (addP (bm.getD R.i 0) n0 cs m)) := by
      simp only [Bool.or_eq_true] at hh
      rcases hh with hh | hh
      · obtain ⟨h0, h1⟩ := hfr; exact free_any hh h1
      · exact own hh
    rw [quiet_val (opA_mono ht key)]
    exact hv
  · obtain ⟨X, h1, h2⟩ := opK_ok e
    obtain ⟨v, rfl⟩ := read_val hr h1
    obtain ⟨h3, h4⟩ := eqK_ok (show eqK v R.v r = some x from h2)
    exact ⟨h4, by rw [quiet_val (opA_mono ht h1)]; exact h3⟩
theorem rereadK_ok {call : CallF} {bm : Array Nat} {n0 : Nat} {cs : List (Nat × AObj)} {R : RK} {x : α} {t' : Tr Value} (hr : readOp D R.op = true) (ht : TLe R.t t') (hv : veq R.v R.v = true) (hfr : ∃ h, opA D R.op R.t h = some (.val R.v h)) :
    ∀ (effs : List (Nat × H)) (m : H) (r : Option α), (R.L ≤ effs.length → opA D R.op R.t (rdAt bm n0 cs effs m R) = some (.val R.v (rdAt bm n0 cs effs m R))) → rereadK D c bm n0 cs R effs m r = some x →
    r = some x ∧ rereadA D call bm n0 cs R.i R.op t' R.v effs m = true
  | [], m, r, own, e => by
    obtain ⟨h1, h2⟩ := chkK_ok (call := call) hr ht hfr (fun hc => by
      have hL : R.L = 0 := by unfold own? at hc; simp only [Bool.and_eq_true, nbeq_eq] at hc; exact hc.1
      have := own (by simp [hL])
      rwa [own_at hc] at this) hv e
    exact ⟨h1, h2⟩
  | (e1, m') :: rest, m, r, own, e => by
    have ih := rereadK_ok (call := call) (bm := bm) (n0 := n0) (x := x) hr ht hv hfr rest m' r (fun hL => by
      have := own (by simp; omega)
      unfold rdAt at this
      rw [hAt_push _ _ _ _ hL] at this
      exact this)
    have nx : (bif (bm.getD R.i 0).testBit e1 then r else rereadK D c bm n0 cs R rest m' r) = some x → r = some x ∧ (bif (bm.getD R.i 0).testBit e1 then true else rereadA D call bm n0 cs R.i R.op t' R.v rest m') = true := by
      intro h
      cases hb : (bm.getD R.i 0).testBit e1 with
      | true => rw [hb] at h; exact ⟨h, rfl⟩
      | false => rw [hb] at h; exact ih h
    unfold rereadK at e
    unfold rereadA
    cases ha : ((e1, m') :: rest).all (fun e => !(bm.getD e.1 0).testBit R.i) with
    | true =>
      rw [ha] at e
      simp only [cond_true] at e
      obtain ⟨h1, h2⟩ := chkK_ok (call := call) hr ht hfr (fun hc => by
        have hL : R.L = rest.length + 1 := by unfold own? at hc; simp only [Bool.and_eq_true, nbeq_eq] at hc; exact hc.1
        have := own (by rw [hL]; exact Nat.le_refl _)
        rwa [own_at (effs := (e1, m') :: rest) hc] at this) hv e
      obtain ⟨h3, h4⟩ := nx h1
      refine ⟨h3, ?_⟩
      rw [h4]
      simp only [cond_true, Bool.and_true]
      exact h2
    | false =>
      rw [ha] at e
      simp only [cond_false] at e
      obtain ⟨h3, h4⟩ := nx e
      exact ⟨h3, by rw [h4]; rfl⟩
theorem rereadsK_ok {call : CallF} {bm : Array Nat} {n0 : Nat} {cs : List (Nat × AObj)} {effs : List (Nat × H)} {m : H} {r : Option α} {x : α} :
    ∀ (Rs : List RK) (rs : List (Nat × Op × Tr Value × Value)), RR D Rs rs → (∀ R ∈ Rs, R.L ≤ effs.length ∧ R.nc ≤ cs.length ∧ opA D R.op R.t (rdAt bm n0 cs effs m R) = some (.val R.v (rdAt bm n0 cs effs m R))) → rereadsK D c bm n0 cs effs m Rs r = some x →
    r = some x ∧ rs.all (fun r => rereadA D call bm n0 cs r.1 r.2.1 r.2.2.1 r.2.2.2 effs m) = true
  | [], [], _, _, e => ⟨e, rfl⟩
  | [], _ :: _, h, _, _ => h.elim
  | _ :: _, [], h, _, _ => h.elim
  | R :: Rs, q :: rs, h, own, e => by
    obtain ⟨a1, a2, a3, a4, ⟨a5, a6⟩, a7⟩ := h
    unfold rereadsK at e
    have o1 := own R (List.mem_cons_self ..)
    obtain ⟨h1, h2⟩ := rereadK_ok (call := call) a5 a3 (plain_veq a6) ⟨_, o1.2.2⟩ effs m _ (fun _ => o1.2.2) e
    obtain ⟨h3, h4⟩ := rereadsK_ok Rs rs a7 (fun R hR => own R (List.mem_cons_of_mem _ hR)) h1
    refine ⟨h3, ?_⟩
    simp only [List.all_cons, Bool.and_eq_true]
    exact ⟨by rw [a1, a2, a4]; exact h2, h4⟩
theorem growIf_eq (h : H) (k : Nat) : growIf h k = grow h k := by cases k <;> rfl
theorem drawK_ok (hc : CallKOK D c) {ops : Array Oper} {n : Nat} {t : Tr Value} {h : H} {k : Tr Value → H → Option α} {r : α} (e : drawK D c ops n t h k = some r) :
    ∃ t1 h1 N, k t1 h1 = some r ∧ ∀ t', TLe t t' → ∀ m, N ≤ m → ∃ t1', drawA D (callA D m) ops ⟨t', n, h⟩ = some ⟨t1', n, h1⟩ ∧ TLe t1 t1' := by
  unfold drawK at e
  cases htx : textOk ops (Region.before ops) with
  | false => rw [htx] at e; simp at e
  | true =>
    rw [htx] at e
    simp only [cond_true] at e
    obtain ⟨z, N, a, b, f⟩ := drunK_ok hc _ _ _ _ _ e
    have own : Own D (Region.before ops) h.size z := b (fun R hR => by simp at hR)
    have key : ∀ (rs : List (Nat × Op × Tr Value × Value)) (call : CallF), RR D z.reads rs → k z.t (tickIf (reserve ops) (addP (2 ^ ops.size - 1) h.size z.cs z.m)) = some r ∧ rs.all (fun r => rereadA D call (Region.before ops) h.size z.cs r.1 r.2.1 r.2.2.1 r.2.2.2 z.effs z.m) = true := fun rs call hrr => rereadsK_ok (call := call) z.reads rs hrr own a
    refine ⟨z.t, tickIf (reserve ops) (addP (2 ^ ops.size - 1) h.size z.cs z.m), N, ?_, fun t' hl m hm => ?_⟩
    · have hk : ∃ rs, RR D z.reads rs := by
        obtain ⟨z', _, d⟩ := f ⟨t, growIf h (reserve ops), [], [], []⟩ ⟨rfl, rfl, rfl, TLe.refl _, trivial⟩ N (Nat.le_refl _)
        exact ⟨_, d.reads⟩
      obtain ⟨rs, hrs⟩ := hk
      exact (key rs (fun _ _ _ => none) hrs).1
    · obtain ⟨z', e1, d⟩ := f ⟨t', growIf h (reserve ops), [], [], []⟩ ⟨rfl, rfl, rfl, hl, trivial⟩ m hm
      refine ⟨z'.t, ?_, d.t⟩
      have := (key z'.reads (callA D m) d.reads).2
      unfold drawA
      simp only [htx, cond_true]
      rw [growIf_eq] at e1
      simp only [e1]
      rw [d.cs, d.effs, d.m, this]
      rfl
end
end Go.Abs

/- The machine K: code in continuation form; sound. -/
namespace Go.Abs
open Go
structure Lv where
  ds : List Tmp
  ys : List Ty
def getT (t : Tr Value) : List Tmp → Option (List Value)
  | [] => some []
  | d :: ds => match t.get d, getT t ds with
    | some v, some l => some (v :: l)
    | _, _ => none
def setT : List Tmp → List Value → Tr Value → Tr Value
  | d :: ds, v :: vs, t => setT ds vs (t.set d v)
  | _, _, t => t
def save (lv : Lv) (t : Tr Value) : Option (PT lv.ys) := match getT t lv.ds with
  | some l => decP lv.ys l
  | none => none
def back (lv : Lv) (x : PT lv.ys) : Tr Value := setT lv.ds (encP lv.ys x) .leaf
theorem setT_le {t : Tr Value} : ∀ (ds : List Tmp) (l : List Value) (a : Tr Value), getT t ds = some l → TLe a t → TLe (setT ds l a) t
  | [], l, a, h, ha => by cases l <;> exact ha
  | d :: ds, l, a, h, ha => by
    simp only [getT] at h
    split at h
    · rename_i v l' h1 h2
      cases h
      simp only [setT]
      refine setT_le ds l' _ h2 fun i x hx => ?_
      rw [Tr.get_set] at hx
      split at hx
      · rename_i e; subst e; rw [h1]; exact hx
      · exact ha i x hx
    · simp at h
theorem back_le {lv : Lv} {t : Tr Value} {x : PT lv.ys} (h : save lv t = some x) : TLe (back lv x) t := by
  unfold save at h
  split at h
  · rename_i l hl
    have := decP_enc lv.ys l x h
    unfold back
    rw [← this]
    exact setT_le _ _ _ hl (TLe.leaf t)
  · simp at h
def lead : Code → Option Nat
  | .region id _ _ => some id
  | .seq a _ => lead a
  | .block _ c => lead c
  | .loop c => lead c
  | _ => none
structure Ann where
  j : Nat → Option Lv
  l : Nat → Option Lv
  g : Nat → Option Lv := fun _ => none
def regK {α : Type} (D : Data) (c : CallK) (n : Nat) (ops : Array Oper) (draw : Bool) (t : Tr Value) (h : H) (k : Tr Value → H → Option α) : Option α :=
  bif draw then drawK D c ops n t h k else runRK D c ops n ops.toList t h k
def inl? {α β : Type} : Option β → Option (β ⊕ α)
  | some x => some (.inl x)
  | none => none
def inr? {α β : Type} : Option α → Option (β ⊕ α)
  | some x => some (.inr x)
  | none => none
def at? (f : Nat → Option Lv) : Option Nat → Option Lv
  | some i => f i
  | none => none
def saveH (lv : Lv) (t : Tr Value) (h : H) : Option (PT lv.ys × H) := match save lv t with
  | some x => some (x, h)
  | none => none
def joinO {α β : Type} (m : Option (β ⊕ α)) (f : β → Option α) : Option α := match m with
  | some (.inl x) => f x
  | some (.inr r) => some r
  | none => none
noncomputable def runCK (D : Data) (c : CallK) (n : Nat) (A : Ann) : Code → (α : Type) → Tr Value → H → (Ex → Tr Value → H → Option α) → Option α
  | .skip, α, t, h, k => k .normal t h
  | .region id ops draw, α, t, h, k => match A.g id with
    | none => regK D c n ops draw t h fun t h => k .normal t h
    | some lv => joinO (regK (α := (PT lv.ys × H) ⊕ α) D c n ops draw t h fun t h => inl? (saveH lv t h)) fun x => k .normal (back lv x.1) x.2
  | .seq a b, α, t, h, k => match at? A.j (lead b) with
    | none => runCK D c n A a α t h fun ex t h => match ex with
      | .normal => runCK D c n A b α t h k
      | .exit i => k (.exit i) t h
      | .ret => k .ret t h
    | some lv => joinO (runCK D c n A a ((PT lv.ys × H) ⊕ α) t h (fun ex t h => match ex with
        | .normal => inl? (saveH lv t h)
        | .exit i => inr? (k (.exit i) t h)
        | .ret => inr? (k .ret t h))) fun x => runCK D c n A b α (back lv x.1) x.2 k
  | .cond x a b, α, t, h, k => match evalO t x with
    | some (.bool v) => condK v (runCK D c n A a α t h k) (runCK D c n A b α t h k)
    | _ => none
  | .block id a, α, t, h, k => runCK D c n A a α t h fun ex t h => match ex with
    | .normal => k .normal t h
    | .exit i => bif i.beq id then k .normal t h else k (.exit i) t h
    | .ret => k .ret t h
  | .loop a, α, t, h, k => match at? A.l (lead a) with
    | none => none
    | some lv => match saveH lv t h with
      | none => none
      | some x0 => loopO (fun s : PT lv.ys × H => runCK D c n A a ((PT lv.ys × H) ⊕ α) (back lv s.1) s.2 (fun ex t h => match ex with
        | .normal => inl? (saveH lv t h)
        | .exit i => inr? (k (.exit i) t h)
        | .ret => inr? (k .ret t h))) x0
  | .exit id, α, t, h, k => k (.exit id) t h
  | .ret, α, t, h, k => k .ret t h
  | .label _, α, t, h, k => k .normal t h
  | _, α, t, h, k => none
def SimC (D : Data) (n : Nat) (code : Code) {α : Type} (t : Tr Value) (h : H) (k : Ex → Tr Value → H → Option α) (r : α) : Prop :=
  ∃ ex t1 h1 N, k ex t1 h1 = some r ∧ ∀ t', TLe t t' → ∀ m, N ≤ m → ∃ t1', exec D m code ⟨t', n, h⟩ = some (ex, ⟨t1', n, h1⟩) ∧ TLe t1 t1'
theorem inl?_ok {α β : Type} {x : Option β} {y : β ⊕ α} (h : inl? x = some y) : ∃ z, x = some z ∧ y = .inl z := by
  cases x with
  | none => simp [inl?] at h
  | some z => exact ⟨z, rfl, (Option.some.inj h).symm⟩
theorem inr?_ok {α β : Type} {x : Option α} {y : β ⊕ α} (h : inr? x = some y) : ∃ z, x = some z ∧ y = .inr z := by
  cases x with
  | none => simp [inr?] at h
  | some z => exact ⟨z, rfl, (Option.some.inj h).symm⟩
theorem saveH_ok {lv : Lv} {t : Tr Value} {h : H} {x : PT lv.ys × H} (e : saveH lv t h = some x) : TLe (back lv x.1) t ∧ x.2 = h := by
  unfold saveH at e
  split at e
  · rename_i y hy; cases e; exact ⟨back_le hy, rfl⟩
  · simp at e
theorem SimC.le {D : Data} {n : Nat} {code : Code} {α : Type} {t t0 : Tr Value} {h : H} {k : Ex → Tr Value → H → Option α} {r : α} (s : SimC D n code t0 h k r) (hl : TLe t0 t) : SimC D n code t h k r := by
  obtain ⟨ex, t1, h1, N, a, f⟩ := s
  exact ⟨ex, t1, h1, N, a, fun t' h' m hm => f t' (hl.trans h') m hm⟩
theorem simLoop {D : Data} {n : Nat} {a : Code} {α : Type} {lv : Lv} {k : Ex → Tr Value → H → Option α} (body : PT lv.ys × H → Option ((PT lv.ys × H) ⊕ α))
    (hb : ∀ s y, body s = some y → SimC D n a (back lv s.1) s.2 (fun ex t h => match ex with
        | .normal => inl? (saveH lv t h)
        | .exit i => inr? (k (.exit i) t h)
        | .ret => inr? (k .ret t h)) y) : ∀ (j : Nat) (s : PT lv.ys × H) (r : α), iter body j s = some r → SimC D n (.loop a) (back lv s.1) s.2 k r
  | 0, s, r, e => by simp [iter] at e
  | j + 1, s, r, e => by
    unfold iter at e
    split at e
    · rename_i s' h1
      obtain ⟨ex, t1, h1', N, a1, f⟩ := hb s _ h1
      cases ex with
      | normal =>
        simp only at a1
        obtain ⟨z, hz, hz'⟩ := inl?_ok a1
        cases hz'
        obtain ⟨l1, l2⟩ := saveH_ok hz
        obtain ⟨ex2, t2, h2, N2, a2, f2⟩ := simLoop body hb j s' r e
        refine ⟨ex2, t2, h2, max N N2 + 1, a2, fun t' hl m hm => ?_⟩
        obtain ⟨m, rfl⟩ : ∃ m', m = m' + 1 := ⟨m - 1, by omega⟩
        obtain ⟨t1', e1, l3⟩ := f t' hl m (by omega)
        obtain ⟨t2', e2, l4⟩ := f2 t1' (l1.trans l3) m (by omega)
        refine ⟨t2', ?_, l4⟩
        rw [l2] at e2
        simp only [exec, exec1, e1]
        exact e2
      | exit i =>
        simp only at a1
        obtain ⟨z, hz, hz'⟩ := inr?_ok a1
        cases hz'
      | ret =>
        simp only at a1
        obtain ⟨z, hz, hz'⟩ := inr?_ok a1
        cases hz'
    · rename_i r' h1
      cases e
      obtain ⟨ex, t1, h1', N, a1, f⟩ := hb s _ h1
      cases ex with
      | normal =>
        simp only at a1
        obtain ⟨z, hz, hz'⟩ := inl?_ok a1
        cases hz'
      | exit i =>
        simp only at a1
        obtain ⟨z, hz, hz'⟩ := inr?_ok a1
        cases hz'
        refine ⟨.exit i, t1, h1', N + 1, hz, fun t' hl m hm => ?_⟩
        obtain ⟨m, rfl⟩ : ∃ m', m = m' + 1 := ⟨m - 1, by omega⟩
        obtain ⟨t1', e1, l3⟩ := f t' hl m (by omega)
        exact ⟨t1', by simp only [exec, exec1, e1], l3⟩
      | ret =>
        simp only at a1
        obtain ⟨z, hz, hz'⟩ := inr?_ok a1
        cases hz'
        refine ⟨.ret, t1, h1', N + 1, hz, fun t' hl m hm => ?_⟩
        obtain ⟨m, rfl⟩ : ∃ m', m = m' + 1 := ⟨m - 1, by omega⟩
        obtain ⟨t1', e1, l3⟩ := f t' hl m (by omega)
        exact ⟨t1', by simp only [exec, exec1, e1], l3⟩
    · simp at e
theorem regK_ok {D : Data} {c : CallK} (hc : CallKOK D c) {α : Type} {n : Nat} {ops : Array Oper} {draw : Bool} {t : Tr Value} {h : H} {k : Tr Value → H → Option α} {r : α} (e : regK D c n ops draw t h k = some r) :
    ∃ t1 h1 N, k t1 h1 = some r ∧ ∀ t', TLe t t' → ∀ m, N ≤ m → ∃ t1', (bif draw then drawA D (callA D m) ops ⟨t', n, h⟩ else runA D (callA D m) ops ops.toList ⟨t', n, h⟩) = some ⟨t1', n, h1⟩ ∧ TLe t1 t1' := by
  unfold regK at e
  cases draw with
  | true => exact drawK_ok hc e
  | false => exact runRK_ok hc _ _ _ _ _ e
theorem exec_reg {D : Data} {id n m : Nat} {ops : Array Oper} {draw : Bool} {t t1 : Tr Value} {h h1 : H} (e : (bif draw then drawA D (callA D m) ops ⟨t, n, h⟩ else runA D (callA D m) ops ops.toList ⟨t, n, h⟩) = some ⟨t1, n, h1⟩) :
    exec D (m + 1) (.region id ops draw) ⟨t, n, h⟩ = some (.normal, ⟨t1, n, h1⟩) := by
  simp only [exec, exec1]
  have : (bif draw then drawA D (callW D (exec D m)) ops ⟨t, n, h⟩ else runA D (callW D (exec D m)) ops ops.toList ⟨t, n, h⟩) = some ⟨t1, n, h1⟩ := e
  rw [this]
theorem runCK_ok {D : Data} {c : CallK} (hc : CallKOK D c) {n : Nat} {A : Ann} (code : Code) : ∀ (α : Type) (t : Tr Value) (h : H) (k : Ex → Tr Value → H → Option α) (r : α), runCK D c n A code α t h k = some r → SimC D n code t h k r := by
  induction code with
  | skip => exact fun α t h k r e => ⟨.normal, t, h, 1, e, fun t' hl m hm => by obtain ⟨m, rfl⟩ : ∃ m', m = m' + 1 := ⟨m - 1, by omega⟩; exact ⟨t', rfl, hl⟩⟩
  | ret => exact fun α t h k r e => ⟨.ret, t, h, 1, e, fun t' hl m hm => by obtain ⟨m, rfl⟩ : ∃ m', m = m' + 1 := ⟨m - 1, by omega⟩; exact ⟨t', rfl, hl⟩⟩
  | exit id => exact fun α t h k r e => ⟨.exit id, t, h, 1, e, fun t' hl m hm => by obtain ⟨m, rfl⟩ : ∃ m', m = m' + 1 := ⟨m - 1, by omega⟩; exact ⟨t', rfl, hl⟩⟩
  | label id => exact fun α t h k r e => ⟨.normal, t, h, 1, e, fun t' hl m hm => by obtain ⟨m, rfl⟩ : ∃ m', m = m' + 1 := ⟨m - 1, by omega⟩; exact ⟨t', rfl, hl⟩⟩
  | region id ops draw =>
    intro α t h k r e
    simp only [runCK] at e
    split at e
    · obtain ⟨t1, h1, N, a, f⟩ := regK_ok hc e
      exact ⟨.normal, t1, h1, N + 1, a, fun t' hl m hm => by
        obtain ⟨m, rfl⟩ : ∃ m', m = m' + 1 := ⟨m - 1, by omega⟩
        obtain ⟨t1', e1, l⟩ := f t' hl m (by omega)
        exact ⟨t1', exec_reg e1, l⟩⟩
    · rename_i lv hlv
      unfold joinO at e
      split at e
      · rename_i x hx
        obtain ⟨t1, h1, N, a, f⟩ := regK_ok hc hx
        obtain ⟨z, hz, hz'⟩ := inl?_ok a
        cases hz'
        obtain ⟨l1, l2⟩ := saveH_ok hz
        have e' : k .normal (back lv x.1) x.2 = some r := e
        rw [l2] at e'
        exact ⟨.normal, _, h1, N + 1, e', fun t' hl m hm => by
          obtain ⟨m, rfl⟩ : ∃ m', m = m' + 1 := ⟨m - 1, by omega⟩
          obtain ⟨t1', e1, l⟩ := f t' hl m (by omega)
          exact ⟨t1', exec_reg e1, l1.trans l⟩⟩
      · rename_i r' hx
        obtain ⟨t1, h1, N, a, f⟩ := regK_ok hc hx
        obtain ⟨z, hz, hz'⟩ := inl?_ok a
        cases hz'
      · simp at e
  | cond x a b iha ihb =>
    intro α t h k r e
    simp only [runCK] at e
    split at e
    · rename_i v hv
      cases v with
      | true =>
        obtain ⟨ex, t1, h1, N, a1, f⟩ := iha α t h k r e
        refine ⟨ex, t1, h1, N + 1, a1, fun t' hl m hm => ?_⟩
        obtain ⟨m, rfl⟩ : ∃ m', m = m' + 1 := ⟨m - 1, by omega⟩
        obtain ⟨t1', e1, l⟩ := f t' hl m (by omega)
        exact ⟨t1', by simp only [exec, exec1, evalO_mono hl hv]; exact e1, l⟩
      | false =>
        obtain ⟨ex, t1, h1, N, a1, f⟩ := ihb α t h k r e
        refine ⟨ex, t1, h1, N + 1, a1, fun t' hl m hm => ?_⟩
        obtain ⟨m, rfl⟩ : ∃ m', m = m' + 1 := ⟨m - 1, by omega⟩
        obtain ⟨t1', e1, l⟩ := f t' hl m (by omega)
        exact ⟨t1', by simp only [exec, exec1, evalO_mono hl hv]; exact e1, l⟩
    · simp at e
  | block id a iha =>
    intro α t h k r e
    simp only [runCK] at e
    obtain ⟨ex, t1, h1, N, a1, f⟩ := iha α t h _ r e
    cases ex with
    | normal =>
      refine ⟨.normal, t1, h1, N + 1, a1, fun t' hl m hm => ?_⟩
      obtain ⟨m, rfl⟩ : ∃ m', m = m' + 1 := ⟨m - 1, by omega⟩
      obtain ⟨t1', e1, l⟩ := f t' hl m (by omega)
      exact ⟨t1', by simp only [exec, exec1, e1], l⟩
    | ret =>
      refine ⟨.ret, t1, h1, N + 1, a1, fun t' hl m hm => ?_⟩
      obtain ⟨m, rfl⟩ : ∃ m', m = m' + 1 := ⟨m - 1, by omega⟩
      obtain ⟨t1', e1, l⟩ := f t' hl m (by omega)
      exact ⟨t1', by simp only [exec, exec1, e1], l⟩
    | exit i =>
      cases hi : i.beq id with
      | true =>
        simp only [hi, cond_true] at a1
        refine ⟨.normal, t1, h1, N + 1, a1, fun t' hl m hm => ?_⟩
        obtain ⟨m, rfl⟩ : ∃ m', m = m' + 1 := ⟨m - 1, by omega⟩
        obtain ⟨t1', e1, l⟩ := f t' hl m (by omega)
        exact ⟨t1', by simp only [exec, exec1, e1, hi, cond_true], l⟩
      | false =>
        simp only [hi, cond_false] at a1
        refine ⟨.exit i, t1, h1, N + 1, a1, fun t' hl m hm => ?_⟩
        obtain ⟨m, rfl⟩ : ∃ m', m = m' + 1 := ⟨m - 1, by omega⟩
        obtain ⟨t1', e1, l⟩ := f t' hl m (by omega)
        exact ⟨t1', by simp only [exec, exec1, e1, hi, cond_false], l⟩
  | seq a b iha ihb =>
    intro α t h k r e
    simp only [runCK] at e
    split at e
    · obtain ⟨ex, t1, h1, N, a1, f⟩ := iha α t h _ r e
      cases ex with
      | normal =>
        obtain ⟨ex2, t2, h2, N2, a2, f2⟩ := ihb α t1 h1 k r a1
        refine ⟨ex2, t2, h2, max N N2 + 1, a2, fun t' hl m hm => ?_⟩
        obtain ⟨m, rfl⟩ : ∃ m', m = m' + 1 := ⟨m - 1, by omega⟩
        obtain ⟨t1', e1, l1⟩ := f t' hl m (by omega)
        obtain ⟨t2', e2, l2⟩ := f2 t1' l1 m (by omega)
        exact ⟨t2', by simp only [exec, exec1, e1]; exact e2, l2⟩
      | exit i =>
        refine ⟨.exit i, t1, h1, N + 1, a1, fun t' hl m hm => ?_⟩
        obtain ⟨m, rfl⟩ : ∃ m', m = m' + 1 := ⟨m - 1, by omega⟩
        obtain ⟨t1', e1, l1⟩ := f t' hl m (by omega)
        exact ⟨t1', by simp only [exec, exec1, e1], l1⟩
      | ret =>
        refine ⟨.ret, t1, h1, N + 1, a1, fun t' hl m hm => ?_⟩
        obtain ⟨m, rfl⟩ : ∃ m', m = m' + 1 := ⟨m - 1, by omega⟩
        obtain ⟨t1', e1, l1⟩ := f t' hl m (by omega)
        exact ⟨t1', by simp only [exec, exec1, e1], l1⟩
    · rename_i lv hlv
      unfold joinO at e
      split at e
      · rename_i x hx
        obtain ⟨ex, t1, h1, N, a1, f⟩ := iha _ t h _ _ hx
        cases ex with
        | normal =>
          simp only at a1
          obtain ⟨z, hz, hz'⟩ := inl?_ok a1
          cases hz'
          obtain ⟨l1, l2⟩ := saveH_ok hz
          obtain ⟨ex2, t2, h2, N2, a2, f2⟩ := ihb α _ _ k r e
          refine ⟨ex2, t2, h2, max N N2 + 1, a2, fun t' hl m hm => ?_⟩
          obtain ⟨m, rfl⟩ : ∃ m', m = m' + 1 := ⟨m - 1, by omega⟩
          obtain ⟨t1', e1, l3⟩ := f t' hl m (by omega)
          obtain ⟨t2', e2, l4⟩ := f2 t1' (l1.trans l3) m (by omega)
          rw [l2] at e2
          exact ⟨t2', by simp only [exec, exec1, e1]; exact e2, l4⟩
        | exit i =>
          simp only at a1
          obtain ⟨z, hz, hz'⟩ := inr?_ok a1
          cases hz'
        | ret =>
          simp only at a1
          obtain ⟨z, hz, hz'⟩ := inr?_ok a1
          cases hz'
      · rename_i r' hx
        cases e
        obtain ⟨ex, t1, h1, N, a1, f⟩ := iha _ t h _ _ hx
        cases ex with
        | normal =>
          simp only at a1
          obtain ⟨z, hz, hz'⟩ := inl?_ok a1
          cases hz'
        | exit i =>
          simp only at a1
          obtain ⟨z, hz, hz'⟩ := inr?_ok a1
          cases hz'
          refine ⟨.exit i, t1, h1, N + 1, hz, fun t' hl m hm => ?_⟩
          obtain ⟨m, rfl⟩ : ∃ m', m = m' + 1 := ⟨m - 1, by omega⟩
          obtain ⟨t1', e1, l3⟩ := f t' hl m (by omega)
          exact ⟨t1', by simp only [exec, exec1, e1], l3⟩
        | ret =>
          simp only at a1
          obtain ⟨z, hz, hz'⟩ := inr?_ok a1
          cases hz'
          refine ⟨.ret, t1, h1, N + 1, hz, fun t' hl m hm => ?_⟩
          obtain ⟨m, rfl⟩ : ∃ m', m = m' + 1 := ⟨m - 1, by omega⟩
          obtain ⟨t1', e1, l3⟩ := f t' hl m (by omega)
          exact ⟨t1', by simp only [exec, exec1, e1], l3⟩
      · simp at e
  | loop a iha =>
    intro α t h k r e
    simp only [runCK] at e
    split at e
    · simp at e
    · rename_i lv hlv
      split at e
      · simp at e
      · rename_i x0 hx0
        obtain ⟨l1, l2⟩ := saveH_ok hx0
        obtain ⟨j, hj⟩ := loopO_some.1 e
        have := simLoop _ (fun s y hs => iha _ _ _ _ _ hs) j x0 r hj
        rw [l2] at this
        exact this.le l1
  | _ => intro α t h k r e; simp [runCK] at e
end Go.Abs

/- The machine K: functions; lists of callees. -/
namespace Go.Abs
open Go
def resK {α : Type} (D : Data) (t : Tr Value) (h : H) : List ResultVar → (List Value → Option α) → Option α
  | [], k => k []
  | .tmp i :: rs, k => match t.get i with
    | some v => resK D t h rs fun l => k (v :: l)
    | none => none
  | .cell a ty :: rs, k => match t.get a, D.ty.get ty with
    | some (.pointer p), some j => ptrK p fun q => kv (tyOf j) (ldVar h j q) h fun v _ => resK D t h rs fun l => k (v :: l)
    | _, _ => none
theorem resK_ok {α : Type} {D : Data} {t : Tr Value} {h : H} : ∀ {rs : List ResultVar} {k : List Value → Option α} {r : α}, resK D t h rs k = some r → ∃ l, resA D t h rs = some l ∧ k l = some r
  | [], k, r, e => ⟨[], rfl, e⟩
  | .tmp i :: rs, k, r, e => by
    simp only [resK] at e
    split at e
    · rename_i v hv
      obtain ⟨l, h1, h2⟩ := resK_ok e
      exact ⟨v :: l, by simp [resA, hv, h1], h2⟩
    · simp at e
  | .cell a ty :: rs, k, r, e => by
    simp only [resK] at e
    split at e
    · rename_i p j hp hj
      obtain ⟨q, hq, e2⟩ := ptrK_ok e
      subst hq
      obtain ⟨v, h3, h4⟩ := kv_ok e2
      obtain ⟨l, h1, h2⟩ := resK_ok h4
      exact ⟨v :: l, by simp [resA, hp, hj, h3, h1], h2⟩
    · simp at e
def finF (D : Data) (F : Func) (ys : List Ty) (ex : Ex) (t : Tr Value) (h : H) : Option (PT ys × H) := match ex with
  | .exit _ => none
  | _ => resK D t h F.results.toList fun l => match decP ys l with
    | some x => some (x, h)
    | none => none
/-- a function's typed text -/
noncomputable def runFK (D : Data) (c : CallK) (A : Ann) (F : Func) (code : Code) (ys : List Ty) (args : List Value) (h : H) : Option (PT ys × H) :=
  runCK D c (max args.length F.ntmps) A code _ (args0 .leaf 0 args) h (finF D F ys)
/-- what a call of the machine tells, with fuel enough -/
def Ev (D : Data) (f : FuncId) (args : List Value) (h : H) (v : Value) (h' : H) : Prop := ∃ N, ∀ m, N ≤ m → callA D m f args h = some (v, h')
theorem resA_mono {D : Data} {t t' : Tr Value} {h : H} (hl : TLe t t') : ∀ {rs : List ResultVar} {l : List Value}, resA D t h rs = some l → resA D t' h rs = some l
  | [], l, e => e
  | r :: rs, l, e => by
    cases r with
    | tmp i =>
      simp only [resA] at e ⊢
      cases hv : t.get i with
      | none => rw [hv] at e; simp at e
      | some v =>
        rw [hv] at e
        rw [hl i v hv]
        simp only at e ⊢
        split at e
        · rename_i l' hl'
          rw [resA_mono hl hl']; exact e
        · simp at e
    | cell a ty =>
      simp only [resA] at e ⊢
      cases hv : t.get a with
      | none => rw [hv] at e; simp at e
      | some v =>
        rw [hv] at e
        rw [hl a v hv]
        split at e
        · rename_i w hw
          split at e
          · rename_i l' hl'
            rw [resA_mono hl hl']; exact e
          · simp at e
        · simp at e
theorem runFK_ok {D : Data} {c : CallK} (hc : CallKOK D c) {A : Ann} {f : FuncId} {F : Func} {code : Code} (hov : D.ov f = none) (hF : D.fn.get f = some F) (hb : F.body = some code) {ys : List Ty} {args : List Value} {h : H} {x : PT ys} {h' : H}
    (e : runFK D c A F code ys args h = some (x, h')) : Ev D f args h (tupled (encP ys x)) h' := by
  obtain ⟨ex, t1, h1, N, a, g⟩ := runCK_ok hc code _ _ _ _ _ e
  refine ⟨N, fun m hm => ?_⟩
  obtain ⟨t1', e1, l⟩ := g _ (TLe.refl _) m hm
  unfold callA callW
  rw [hov]
  simp only [hF, hb, e1]
  unfold finF at a
  split at a
  · simp at a
  · rename_i hex
    obtain ⟨l', hl', a⟩ := resK_ok a
    split at a
    · rename_i x' hx'
      cases a
      rw [decP_enc ys l' x hx'] at hl'
      cases ex with
      | exit i => exact absurd rfl (hex i)
      | normal => simp only [resA_mono l hl']
      | ret => simp only [resA_mono l hl']
    · simp at a
/-! lists of callees -/
/-- a callee's entry: what it takes, what it gives, its typed text -/
structure Ent where
  f : FuncId
  ps : List Ty
  ys : List Ty
  g : PT ps → H → Option (PT ys × H)
def Ent.ok (D : Data) (E : Ent) : Prop := ∀ x h y h', E.g x h = some (y, h') → Ev D E.f (encP E.ps x) h (tupled (encP E.ys y)) h'
def entK {α : Type} (E : Ent) (args : List Value) (h : H) (k : Value → H → Option α) (d : Option α) : Option α := match decP E.ps args with
  | some x => match E.g x h with
    | some (y, h') => k (tupled (encP E.ys y)) h'
    | none => none
  | none => d
def lstK : List Ent → CallK
  | [], _, _, _, _, _ => none
  | E :: Es, _, f, args, h, k => bif f.beq E.f then entK E args h k (lstK Es f args h k) else lstK Es f args h k
theorem lstK_ok {D : Data} : ∀ (Es : List Ent), (∀ E ∈ Es, E.ok D) → CallKOK D (lstK Es)
  | [], _ => fun α f args h k r e => by simp [lstK] at e
  | E :: Es, hE => fun α f args h k r e => by
    change (bif f.beq E.f then entK E args h k (lstK Es f args h k) else lstK Es f args h k) = some r at e
    cases hf : f.beq E.f with
    | true =>
      rw [hf] at e
      simp only [cond_true] at e
      have hfe : f = E.f := Nat.eq_of_beq_eq_true hf
      subst hfe
      unfold entK at e
      split at e
      · rename_i x hx
        split at e
        · rename_i y h' hy
          obtain ⟨N, hN⟩ := hE E (List.mem_cons_self ..) x h y h' hy
          rw [← decP_enc _ _ _ hx] at hN
          exact ⟨_, h', N, e, hN⟩
        · simp at e
      · exact lstK_ok Es (fun E' h' => hE E' (List.mem_cons_of_mem _ h')) α E.f args h k r e
    | false =>
      rw [hf] at e
      exact lstK_ok Es (fun E' h' => hE E' (List.mem_cons_of_mem _ h')) α f args h k r e
end Go.Abs

/- The words of the typed texts. -/
namespace Go.Abs
open Go
section
variable {α β γ : Type}
def bindO (m : Option β) (f : β → Option α) : Option α := match m with
  | some x => f x
  | none => none
def bind2 (m : Option (β × H)) (f : β → H → Option α) : Option α := match m with
  | some x => f x.1 x.2
  | none => none
def newO (ob : AObj) (h : H) (f : Nat → H → Option α) : Option α := f h.size (newAt (grow h 1) h.size ob)
def letO (x : β) (f : β → Option α) : Option α := f x
def letH (x : H) (f : H → Option α) : Option α := f x
@[simp] theorem letH_eq (x : H) (f : H → Option α) : letH x f = f x := rfl
@[simp] theorem bindO_some (x : β) (f : β → Option α) : bindO (some x) f = f x := rfl
@[simp] theorem bindO_none (f : β → Option α) : bindO none f = none := rfl
@[simp] theorem bind2_some (x : β × H) (f : β → H → Option α) : bind2 (some x) f = f x.1 x.2 := rfl
@[simp] theorem bind2_none (f : β → H → Option α) : bind2 none f = none := rfl
@[simp] theorem letO_eq (x : β) (f : β → Option α) : letO x f = f x := rfl
@[simp] theorem condK_eq (b : Bool) (x y : Option α) : condK b x y = if b then x else y := by cases b <;> rfl
@[simp] theorem joinO_inl (x : β) (f : β → Option α) : joinO (some (.inl x)) f = f x := rfl
@[simp] theorem joinO_inr (x : α) (f : β → Option α) : joinO (some (.inr x)) f = some x := rfl
@[simp] theorem joinO_none (f : β → Option α) : joinO none f = none := rfl
@[simp] theorem ptrK_some (a : Addr) (f : Addr → Option α) : ptrK (some a) f = f a := rfl
@[simp] theorem ptrK_none (f : Addr → Option α) : ptrK none f = none := rfl
end
/-! loads and stores -/
def iY (k : IntKind) : Ty := ⟨false, [.int k]⟩
def slY : Ty := ⟨false, [.sl]⟩
def strY : Ty := ⟨false, [.str]⟩
def ldI (k : IntKind) (h : H) (a : Addr) : Option Int := decO ⟨false, [.int k]⟩ (ldCell h a)
def ldB (h : H) (a : Addr) : Option Bool := decO ⟨false, [.bool]⟩ (ldCell h a)
def ldS (h : H) (a : Addr) : Option ByteArray := decO ⟨false, [.str]⟩ (ldCell h a)
def ldP (h : H) (a : Addr) : Option (Option Addr) := decO ⟨false, [.ptr]⟩ (ldCell h a)
def ldL (h : H) (a : Addr) : Option Sl := decO ⟨false, [.sl]⟩ (ldCell h a)
def ldM (h : H) (a : Addr) : Option (Option Nat) := decO ⟨false, [.map]⟩ (ldCell h a)
def ldV (h : H) (a : Addr) : Option Value := decO ⟨false, [.any]⟩ (ldCell h a)
def ldZ (zs : List Z) (h : H) (a : Addr) : Option (ZT zs) := decO ⟨true, zs⟩ ((ldCells h a zs.length).map fun l => .agg l.toArray)
def st1 (h : H) (a : Addr) (v : Value) : Option H := stCells h a [v]
def stZ (zs : List Z) (h : H) (a : Addr) (x : ZT zs) : Option H := stCells h a (encL zs x)
/-! slices -/
def tyS (size bytes : Nat) (z : Value) : TyI := ⟨size, bytes, z, .bool, false⟩
def DSE (e : TypeId) (j : TyI) : Data := { fn := .leaf, ty := ((Tr.leaf.set e j).set (e + 1) ⟨1, 24, .slice none 0 0, .slice e, false⟩).set (e + 2) ⟨1, 16, .string .empty, .string, false⟩ }
def DAR (n size : Nat) : Data := { fn := .leaf, ty := (Tr.leaf.set 0 ⟨n * size, 0, .nilFunc, .array n 1, false⟩).set 1 (tyS size 0 .nilFunc) }
def tyB : TyI := ⟨1, 1, .int .u8 0, .int .u8, false⟩
def encSl (s : Sl) : Value := .slice s.base s.len s.cap
def vI (k : IntKind) (n : Int) : Value := .int k n
def ixT (size : Nat) (s : Sl) (i : Int) : Option Addr := decA (idxAddr (DSE 0 (tyS size 0 .nilFunc)) 1 (encSl s) (.int .i64 i))
def ixAT (n size : Nat) (a : Addr) (i : Int) : Option Addr := decA (idxAddr (DAR n size) 0 (.pointer (some a)) (.int .i64 i))
def slT (size : Nat) (h : H) (s : Sl) (lo hi mx : Option Int) : Option Sl := decO slY (slA (DSE 0 (tyS size 0 .nilFunc)) h 1 (encSl s) (lo.map (.int .i64)) (hi.map (.int .i64)) (mx.map (.int .i64)))
def slAT (n size : Nat) (h : H) (p : Option Addr) (lo hi : Option Int) : Option Sl := decO slY (slA (DAR n size) h 0 (.pointer p) (lo.map (.int .i64)) (hi.map (.int .i64)) none)
def slST (h : H) (s : ByteArray) (lo hi : Option Int) : Option ByteArray := decO strY (slA (DSE 0 tyB) h 2 (.string s) (lo.map (.int .i64)) (hi.map (.int .i64)) none)
def capT (s : Sl) : Option Int := decO intY (capOf (DSE 0 (tyS 1 1 .nilFunc)) 1 (encSl s))
def appT (e : TypeId) (size bytes : Nat) (h : H) (s x : Sl) : Option (Sl × H) := decR slY h (appA (DSE e (tyS size bytes .nilFunc)) h #[e + 1, e + 1] (encSl s) (encSl x))
def appST (e : TypeId) (h : H) (s : Sl) (x : ByteArray) : Option (Sl × H) := decR slY h (appA (DSE e tyB) h #[e + 1, e + 2] (encSl s) (.string x))
def DSI (e : TypeId) (j : TyI) : Data := { fn := .leaf, ty := ((Tr.leaf.set e j).set (e + 1) ⟨1, 24, .slice none 0 0, .slice e, false⟩).set (e + 2) ⟨1, 8, .int .i64 0, .int .i64, false⟩ }
def appNT (e : TypeId) (size bytes : Nat) (z : Value) (h : H) (s : Sl) (n : Int) : Option (Sl × H) := decR slY h (appA (DSI e (tyS size bytes z)) h #[e + 1, e + 2] (encSl s) (.int .i64 n))
def mkT (e : TypeId) (size bytes : Nat) (z : Value) (h : H) (n c : Int) : Option (Sl × H) := decR slY h (mkSl (DSE e (tyS size bytes z)) (e + 1) (.int .i64 n) (.int .i64 c))
def cpT (size : Nat) (h : H) (d s : Sl) : Option (Int × H) := decR intY h (copyA (DSE 0 (tyS size 0 .nilFunc)) h 1 (encSl d) (encSl s))
def cpST (h : H) (d : Sl) (s : ByteArray) : Option (Int × H) := decR intY h (copyA (DSE 0 tyB) h 1 (encSl d) (.string s))
def strT (h : H) (s : Sl) : Option (ByteArray × H) := decR strY h (convA (DSE 0 tyB) h 1 2 (encSl s))
def bytT (e : TypeId) (h : H) (s : ByteArray) : Option (Sl × H) := decR slY h (convA (DSE e tyB) h (e + 2) (e + 1) (.string s))
def bbT (h : H) (s : Sl) : Option (Sl × H) := decR slY h (convA (DSE 0 tyB) h 1 1 (encSl s))
def clrT (size : Nat) (z : Value) (h : H) (s : Sl) : Option H := clearA (DSE 0 (tyS size 0 z)) h 1 (encSl s)
def ixST (s : ByteArray) (i : Int) : Option Int := decO (iY .u8) (indexA (DSE 0 tyB) 2 (.string s) (.int .i64 i))
def ixIT (k : IntKind) (l : List Int) (i : Int) : Option Int := decO (iY k) (indexA (DAR l.length 1) 0 (.agg (l.map (.int k)).toArray) (.int .i64 i))
def ixVT (y : Ty) (l : List Value) (i : Int) : Option (ZT y.zs) := decO y (indexA (DAR l.length 1) 0 (.agg l.toArray) (.int .i64 i))
/-! numbers, and what else may fail -/
def quoT (k : IntKind) (a b : Int) : Option Int := decO (iY k) (intBin .quo k a k b)
def remT (k : IntKind) (a b : Int) : Option Int := decO (iY k) (intBin .rem k a k b)
def shlT (k : IntKind) (a : Int) (k' : IntKind) (b : Int) : Option Int := decO (iY k) (intBin .shl k a k' b)
def shrT (k : IntKind) (a : Int) (k' : IntKind) (b : Int) : Option Int := decO (iY k) (intBin .shr k a k' b)
def catT (x y : ByteArray) : Option ByteArray := decO strY (strBin .add x y)
def tyPtr : TyI := ⟨1, 8, .pointer none, .pointer 0, false⟩
def eqPT (p q : Option Addr) : Option Bool := decO boolY ((eqA tyPtr (.pointer p) (.pointer q)).map .bool)
def nePT (p q : Option Addr) : Option Bool := decO boolY ((eqA tyPtr (.pointer p) (.pointer q)).map fun b => .bool (!b))
def tySl : TyI := ⟨1, 24, .slice none 0 0, .slice 0, false⟩
def eqLT (p q : Sl) : Option Bool := decO boolY ((eqA tySl (encSl p) (encSl q)).map .bool)
def neLT (p q : Sl) : Option Bool := decO boolY ((eqA tySl (encSl p) (encSl q)).map fun b => .bool (!b))
/-! maps -/
def DM (kk : IntKind) (z : Value) : Data := { fn := .leaf, ty := ((Tr.leaf.set 0 ⟨1, 8, .map none, .map 1 2, false⟩).set 1 ⟨1, 8, .int kk 0, .int kk, false⟩).set 2 ⟨1, 0, z, .bool, false⟩ }
def lookT (kk : IntKind) (y : Ty) (z : Value) (h : H) (m : Option Nat) (i : Int) : Option (ZT y.zs) := decO y (lookA (DM kk z) h 0 (.map m) (.int kk i) false)
def lookOT (kk : IntKind) (y : Ty) (z : Value) (h : H) (m : Option Nat) (i : Int) : Option (ZT y.zs × Bool) := decT y (lookA (DM kk z) h 0 (.map m) (.int kk i) true)
def updT (kk : IntKind) (y : Ty) (h : H) (m : Option Nat) (i : Int) (x : ZT y.zs) : Option H := updA (DM kk .nilFunc) h 0 (.map m) (.int kk i) (encV y x)
def delT (kk : IntKind) (h : H) (m : Option Nat) (i : Int) : Option H := delA (DM kk .nilFunc) h 0 (.map m) (.int kk i)
/-- maps whose keys are structs of whole numbers -/
def DMZ (n : Nat) (z : Value) : Data := { fn := .leaf, ty := (((Tr.leaf.set 0 ⟨1, 8, .map none, .map 1 2, false⟩).set 1 ⟨n, 0, .agg (Array.mk (List.replicate n (.int .i64 0))), .struct (Array.mk ((List.range n).map fun i => ⟨"", 3, i, false, "", "", 0⟩)), true⟩).set 2 ⟨1, 0, z, .bool, false⟩).set 3 ⟨1, 8, .int .i64 0, .int .i64, false⟩ }
def encK (k : List Int) : Value := .agg (Array.mk (k.map (.int .i64)))
def lookTZ (y : Ty) (z : Value) (h : H) (m : Option Nat) (k : List Int) : Option (ZT y.zs) := decO y (lookA (DMZ k.length z) h 0 (.map m) (encK k) false)
def lookOTZ (y : Ty) (z : Value) (h : H) (m : Option Nat) (k : List Int) : Option (ZT y.zs × Bool) := decT y (lookA (DMZ k.length z) h 0 (.map m) (encK k) true)
def updTZ (y : Ty) (h : H) (m : Option Nat) (k : List Int) (x : ZT y.zs) : Option H := updA (DMZ k.length .nilFunc) h 0 (.map m) (encK k) (encV y x)
def lenMT (h : H) (m : Option Nat) : Option Int := decO intY (lenOf (DM .i64 .nilFunc) h 0 (.map m))
def tyMp : TyI := ⟨1, 8, .map none, .map 0 0, false⟩
def eqMT (p q : Option Nat) : Option Bool := decO boolY ((eqA tyMp (.map p) (.map q)).map .bool)
def neMT (p q : Option Nat) : Option Bool := decO boolY ((eqA tyMp (.map p) (.map q)).map fun b => .bool (!b))
def pickV (y : Ty) (b : Bool) (x1 x2 : ZT y.zs) : Option (ZT y.zs) := decO y (bif b then some (encV y x1) else some (encV y x2))
/-! lists of callees whose arguments are partly fixed -/
structure EntX where
  f : FuncId
  ps : List Ty
  ys : List Ty
  ar : PT ps → List Value
  de : List Value → Option (PT ps)
  g : PT ps → H → Option (PT ys × H)
end Go.Abs

/- Laws of the words of the typed texts: numbers, loops. -/
namespace Go.Abs
open Go Go.RowKit
theorem w64 {n : Int} (h : -9223372036854775808 ≤ n) (h2 : n < 9223372036854775808) : IntKind.wrap .i64 n = n := by
  simp [IntKind.wrap, IntKind.bits, IntKind.signed]; omega
theorem wu64 {n : Int} (h : 0 ≤ n) (h2 : n < 18446744073709551616) : IntKind.wrap .u64 n = n := by
  simp [IntKind.wrap, IntKind.bits, IntKind.signed]; omega
theorem wu64_mod (n : Int) : IntKind.wrap .u64 n = n % 18446744073709551616 := by
  simp [IntKind.wrap, IntKind.bits, IntKind.signed]
theorem wu8 {n : Int} (h : 0 ≤ n) (h2 : n < 256) : IntKind.wrap .u8 n = n := by
  simp [IntKind.wrap, IntKind.bits, IntKind.signed]; omega
theorem wu8_mod (n : Int) : IntKind.wrap .u8 n = n % 256 := by
  simp [IntKind.wrap, IntKind.bits, IntKind.signed]
theorem remT_ok (k : IntKind) (a : Int) {b : Int} (h : b ≠ 0) : remT k a b = some (a.tmod b) := by
  have hb : (b == 0) = false := by simp [h]
  simp [remT, intBin, decO, decV, decL, iY, Z.dec, asInt, hb]; rfl
theorem quoT_ok (k : IntKind) (a : Int) {b : Int} (h : b ≠ 0) : quoT k a b = some (k.wrap (a.tdiv b)) := by
  have hb : (b == 0) = false := by simp [h]
  simp [quoT, intBin, decO, decV, decL, iY, Z.dec, asInt, hb]; rfl
theorem shlT_ok (k : IntKind) (a : Int) (k' : IntKind) {b : Int} (h : 0 ≤ b) : shlT k a k' b = some (k.wrap (a * 2 ^ min b.toNat k.bits)) := by
  have : ¬ b < 0 := by omega
  simp [shlT, intBin, decO, decV, decL, iY, Z.dec, asInt, this]; rfl
theorem shrT_ok (k : IntKind) (a : Int) (k' : IntKind) {b : Int} (h : 0 ≤ b) : shrT k a k' b = some (a.fdiv (2 ^ min b.toNat k.bits)) := by
  have : ¬ b < 0 := by omega
  simp [shrT, intBin, decO, decV, decL, iY, Z.dec, asInt, this]; rfl
theorem tmod_pos (a m : Int) (h : 0 < m) : (if Int.tmod a m < 0 then Int.tmod a m + m else Int.tmod a m) = a % m := by
  have h1 := Int.tmod_eq_emod (a := a) (b := m)
  have h2 := Int.emod_nonneg a (Int.ne_of_gt h)
  have h3 := Int.emod_lt_of_pos a h
  by_cases hc : 0 ≤ a ∨ m ∣ a
  · rw [if_pos hc] at h1
    rw [h1, if_neg (by omega)]; omega
  · rw [if_neg hc] at h1
    have h4 : 0 < a % m := by
      rcases Int.lt_or_eq_of_le h2 with h | h
      · exact h
      · exact absurd (Or.inr (Int.dvd_of_emod_eq_zero h.symm)) hc
    rw [h1, if_pos (by omega)]; omega
/-- what a walk of a row asks: the machine answers, with fuel enough; then every run answers -/
theorem calls_of_ev {P : Program} {D : Data} (hD : DOk P D) (hov : OvOK P D) {f : Nat} {args : List Value} {h : H} {v : Value} {h' : H} (he : Ev D f args h v h') {ρ : Ren} {W : World} {args' : Array Value} (hw : WR ρ h W) (ha : VRs ρ args args'.toList) :
    Calls P f args' W (CallPost ρ h W v h') := by
  obtain ⟨N, hN⟩ := he
  exact callA_ok hD hov N f args h v h' (hN N (Nat.le_refl _)) ρ W args' hw ha
theorem wr0 (W : World) : WR (fun _ _ => none) H0 W := ⟨fun A e L x => by simp at x, fun A e L A' e' L' x => by simp at x, fun A ob x => by simp [H0, Tr.get] at x, fun A ob x => by simp [H0, Tr.get] at x, Nat.le_refl _⟩
/-- a law over numbers alone -/
theorem plain_law {P : Program} {D : Data} (hD : DOk P D) (hov : OvOK P D) {f : Nat} {args : List Value} {h' : H} (he : Ev D f args H0 (.bool true) h') (ha : VRs (fun _ _ => none) args args) (W : World) : Calls P f args.toArray W fun e w' => e = .returned (.bool true) ∧ Below W.heap.size W w' := by
  refine (calls_of_ev hD hov he (wr0 W) (args' := args.toArray) ha).mono ?_
  rintro e w' ⟨v', ρ', rfl, hv, hwr, hx⟩
  cases hv
  exact ⟨rfl, hx.os, hx.tape, hx.output, hx.grow, fun b hb => hx.frame b hb fun A e L x => by simp at x⟩
end Go.Abs
