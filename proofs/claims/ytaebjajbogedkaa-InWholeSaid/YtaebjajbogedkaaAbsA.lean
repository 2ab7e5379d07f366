/- A machine without capacities, orders and tapes runs the program's code; what it answers, every run of the model answers (the machine: definitions). -/
import Derived.Calls
import Derived.Orders
import Derived.Below
set_option linter.unusedVariables false
set_option linter.unusedSimpArgs false
/- A machine of its own: the program's code run over a heap without capacities, orders and tapes (definitions). What it answers, every run of the model answers: AbsN's theorems. -/
namespace Go.Abs
open Go

theorem nbeq_f {a b : Nat} (h : a ≠ b) : a.beq b = false := by
  cases h2 : a.beq b
  · rfl
  · exact absurd (Nat.eq_of_beq_eq_true h2) h
theorem nbeq_t {a b : Nat} (h : a = b) : a.beq b = true := by subst h; exact Nat.beq_refl a
theorem nbeq_eq {a b : Nat} : (a.beq b = true) = (a = b) := propext ⟨Nat.eq_of_beq_eq_true, nbeq_t⟩

/-! ### finite maps on numbers -/
inductive Tr (α : Type) where
  | leaf
  | node (l : Tr α) (v : Option α) (r : Tr α)
namespace Tr
variable {α : Type}
def left : Tr α → Tr α | leaf => leaf | node l _ _ => l
def right : Tr α → Tr α | leaf => leaf | node _ _ r => r
def val : Tr α → Option α | leaf => none | node _ v _ => v
def get : Tr α → Nat → Option α
  | leaf, _ => none
  | node l v r, n => bif n.beq 0 then v else bif (n % 2).beq 1 then l.get (n / 2) else r.get (n / 2 - 1)
def put : Nat → Tr α → Nat → α → Tr α
  | 0, t, _, a => node t.left (some a) t.right
  | f + 1, t, n, a => bif n.beq 0 then node t.left (some a) t.right
    else bif (n % 2).beq 1 then node (put f t.left (n / 2) a) t.val t.right else node t.left t.val (put f t.right (n / 2 - 1) a)
def set (t : Tr α) (n : Nat) (a : α) : Tr α := put n t n a
theorem get_node (t : Tr α) (n : Nat) : t.get n = bif n.beq 0 then t.val else bif (n % 2).beq 1 then t.left.get (n / 2) else t.right.get (n / 2 - 1) := by
  cases t with
  | leaf => simp [get, val, left, right]
  | node l v r => rfl
theorem get_put (a : α) : ∀ (f : Nat) (t : Tr α) (n m : Nat), n ≤ f → (put f t n a).get m = if m = n then some a else t.get m
  | 0, t, n, m, h => by
    obtain rfl : n = 0 := by omega
    rw [get_node t m]
    by_cases hm : m = 0
    · subst hm; simp [put, get]
    · have : m.beq 0 = false := nbeq_f hm
      simp [put, get, this, hm]
  | f + 1, t, n, m, h => by
    have ih := get_put a f
    rw [get_node t m]
    by_cases hn : n = 0
    · subst hn
      by_cases hm : m = 0
      · subst hm; simp [put, get]
      · have : m.beq 0 = false := nbeq_f hm
        simp [put, get, this, hm]
    · have hnb : n.beq 0 = false := nbeq_f hn
      by_cases hm : m = 0
      · subst hm
        have : ¬ (0 = n) := fun h => hn h.symm
        by_cases ho : n % 2 = 1
        · have hob : (n % 2).beq 1 = true := nbeq_t ho
          simp [put, get, hnb, hob, this]
        · have hob : (n % 2).beq 1 = false := nbeq_f ho
          simp [put, get, hnb, hob, this]
      · have hmb : m.beq 0 = false := nbeq_f hm
        by_cases ho : n % 2 = 1
        · have hob : (n % 2).beq 1 = true := nbeq_t ho
          by_cases hp : m % 2 = 1
          · have hpb : (m % 2).beq 1 = true := nbeq_t hp
            have e : (m / 2 = n / 2) = (m = n) := by apply propext; omega
            simp [put, get, hnb, hob, hmb, hpb, ih t.left (n / 2) (m / 2) (by omega), e]
          · have hpb : (m % 2).beq 1 = false := nbeq_f hp
            have e : ¬ (m = n) := by intro e; subst e; exact hp ho
            simp [put, get, hnb, hob, hmb, hpb, e]
        · have hob : (n % 2).beq 1 = false := nbeq_f ho
          by_cases hp : m % 2 = 1
          · have hpb : (m % 2).beq 1 = true := nbeq_t hp
            have e : ¬ (m = n) := by intro e; subst e; exact ho hp
            simp [put, get, hnb, hob, hmb, hpb, e]
          · have hpb : (m % 2).beq 1 = false := nbeq_f hp
            have e : (m / 2 - 1 = n / 2 - 1) = (m = n) := by apply propext; omega
            simp [put, get, hnb, hob, hmb, hpb, ih t.right (n / 2 - 1) (m / 2 - 1) (by omega), e]
theorem get_set (t : Tr α) (n : Nat) (a : α) (m : Nat) : (t.set n a).get m = if m = n then some a else t.get m := get_put a n t n m (Nat.le_refl _)
theorem get_leaf (n : Nat) : (leaf : Tr α).get n = none := rfl
end Tr

/-! ### the heap -/
/-- A cell: its value; the first version of its row to which it belongs. -/
structure Cell where
  v : Value
  lo : Nat
/-- A row of cells: how many, the newest version (an append past the end makes one). -/
structure Arr where
  elem : TypeId
  size : Nat
  ver : Nat
  cells : Tr Cell
inductive AObj where
  | arr (a : Arr)
  | map (es : List (Value × Value))
structure H where
  size : Nat
  tick : Nat
  nro : Nat
  objs : Tr AObj
  st : Bool := false

def oneC : Value → Bool
  | .agg _ | .tuple _ => false
  | _ => true
def setL : Tr Cell → Nat → Nat → List Value → Tr Cell
  | t, _, _, [] => t
  | t, i, e, v :: vs => setL (t.set i ⟨v, e⟩) (i + 1) e vs
def ofL (l : List Value) : Tr Cell := setL .leaf 0 0 l
def add (a : Addr) (n : Nat) : Addr := ⟨a.block, a.off + n, a.spot⟩
def ldCell (h : H) (a : Addr) : Option Value :=
  match h.objs.get a.block, a.spot with
  | some (.arr r), some e => match r.cells.get a.off with
    | some c => bif c.lo.ble e then some c.v else none
    | none => none
  | _, _ => none
def ldCells (h : H) : Addr → Nat → Option (List Value)
  | _, 0 => some []
  | a, n + 1 => match ldCell h a with
    | some v => match ldCells h (add a 1) n with
      | some l => some (v :: l)
      | none => none
    | none => none
def stCell (h : H) (a : Addr) (v : Value) : Option H :=
  match h.objs.get a.block, a.spot with
  | some (.arr r), some e => bif e.beq r.ver && h.nro.ble a.block && a.off.blt r.size && oneC v then
      some { h with tick := h.tick + 1, objs := h.objs.set a.block (.arr { r with cells := r.cells.set a.off ⟨v, e⟩ }) } else none
  | _, _ => none
def stCells (h : H) : Addr → List Value → Option H
  | _, [] => some h
  | a, v :: vs => match stCell h a v with
    | some h' => stCells h' (add a 1) vs
    | none => none
def row (elem : TypeId) (cells : List Value) : AObj := .arr ⟨elem, cells.length, 0, ofL cells⟩

/-! ### capacities: known; unknown, to the row's end ('unk'; 'unk0': or none at all); not asked ('any') -/
inductive CapK where
  | exact (k : Nat)
  | unk (z : Nat)
  | unk0 (z : Nat)
  | any
def isUnk0 : CapK → Bool
  | .unk0 _ => true
  | _ => false
def B63 : Nat := 9223372036854775808
def capK (c : Nat) : CapK := bif c.blt B63 then .exact c else bif c.blt (2 * B63) then .unk (c - B63) else bif c.blt (4 * B63) then .unk0 (c - 2 * B63) else .any
def UNK (z : Nat) : Nat := B63 + z
def UNK0 (z : Nat) : Nat := 2 * B63 + z
def ANY : Nat := 4 * B63

/-! ### types and functions, as tables -/
structure TyI where
  size : Nat
  bytes : Nat
  zero : Value
  desc : TypeDesc
  flat : Bool
structure Data where
  fn : Tr Func
  ty : Tr TyI
  ov : Nat → Option (List Value → H → Option (Value × H)) := fun _ => none
def TyI.agg (i : TyI) : Bool := match i.desc with | .struct _ | .array _ _ => true | _ => false
def szOf (D : Data) (t : TypeId) : Option Nat := (D.ty.get t).map (·.size)
def elemOf (D : Data) (t : TypeId) : Option (TypeId × TyI) :=
  match D.ty.get t with
  | some i => match i.desc with
    | .slice e => (D.ty.get e).map fun j => (e, j)
    | _ => none
  | none => none

def ldVar (h : H) (i : TyI) (a : Addr) : Option Value :=
  bif i.agg then (ldCells h a i.size).map fun l => .agg l.toArray else ldCell h a
def stVar (h : H) (i : TyI) (a : Addr) (v : Value) : Option H :=
  bif v.cells.size.beq i.size then stCells h a v.cells.toList else none

/-! ### operations -/
inductive OpR where
  | val (v : Value) (h : H)
  | skip (h : H)
  | new (o : AObj) (mk : Nat → Value)
  | call (f : FuncId) (args : List Value)

/-- no address in it (to a depth that is enough) -/
def freeN : Nat → Value → Bool
  | _, .bool _ | _, .int _ _ | _, .string _ | _, .nilFunc | _, .nilIface | _, .pointer none | _, .map none => true
  | _, .slice none l c => l.beq 0 && c.beq 0
  | n + 1, .agg cs => cs.toList.all (freeN n)
  | n + 1, .tuple cs => cs.toList.all (freeN n)
  | n + 1, .iface _ v => freeN n v
  | _, _ => false
def free (v : Value) : Bool := freeN 4 v

def intBin (op : BinOp) (k : IntKind) (a : Int) (k' : IntKind) (b : Int) : Option Value :=
  match op with
  | .shl => bif decide (b < 0) then none else some (.int k (k.wrap (a * 2 ^ min b.toNat k.bits)))
  | .shr => bif decide (b < 0) then none else some (.int k (a.fdiv (2 ^ min b.toNat k.bits)))
  | _ => bif !decide (k = k') then none else
    match op with
    | .add => some (.int k (k.wrap (a + b)))
    | .sub => some (.int k (k.wrap (a - b)))
    | .mul => some (.int k (k.wrap (a * b)))
    | .quo => bif b == 0 then none else some (.int k (k.wrap (a.tdiv b)))
    | .rem => bif b == 0 then none else some (.int k (a.tmod b))
    | .and => some (.int k (k.wrap (BitVec.ofInt k.bits a &&& BitVec.ofInt k.bits b).toNat))
    | .or => some (.int k (k.wrap (BitVec.ofInt k.bits a ||| BitVec.ofInt k.bits b).toNat))
    | .xor => some (.int k (k.wrap (BitVec.ofInt k.bits a ^^^ BitVec.ofInt k.bits b).toNat))
    | .andNot => some (.int k (k.wrap (BitVec.ofInt k.bits a &&& ~~~ (BitVec.ofInt k.bits b)).toNat))
    | .eql => some (.bool (a == b))
    | .neq => some (.bool (a != b))
    | .lss => some (.bool (a < b))
    | .leq => some (.bool (a ≤ b))
    | .gtr => some (.bool (a > b))
    | .geq => some (.bool (a ≥ b))
    | _ => none
def strBin (op : BinOp) (x y : ByteArray) : Option Value :=
  match op with
  | .add => bif ((x.size + y.size : Nat) : Int) ≤ IntKind.i64.max then some (.string (x ++ y)) else none
  | .eql => some (.bool (x.toList == y.toList))
  | .neq => some (.bool (!(x.toList == y.toList)))
  | _ => none
/-- two structs of whole numbers alone -/
def intsEq : List Value → List Value → Option Bool
  | [], [] => some true
  | .int k a :: xs, .int k' b :: ys => bif !decide (k = k') then none else (intsEq xs ys).map fun r => (a == b) && r
  | _, _ => none
/-- two structs of whole numbers and strings alone, by the type's own cells -/
def cellsEq : List Value → List Value → List Value → Option Bool
  | [], [], [] => some true
  | .int _ _ :: zs, .int k a :: xs, .int k' b :: ys => bif !decide (k = k') then none else (cellsEq zs xs ys).map fun r => (a == b) && r
  | .string _ :: zs, .string a :: xs, .string b :: ys => (cellsEq zs xs ys).map fun r => (a.toList == b.toList) && r
  | _, _, _ => none
def eqA (i : TyI) : Value → Value → Option Bool
  | .bool a, .bool b => match i.desc with | .bool => some (a == b) | _ => none
  | .pointer none, .pointer b => match i.desc with | .pointer _ => some b.isNone | _ => none
  | .pointer _, .pointer none => match i.desc with | .pointer _ => some false | _ => none
  | .slice none _ _, .slice b _ _ => match i.desc with | .slice _ => some b.isNone | _ => none
  | .slice _ _ _, .slice none _ _ => match i.desc with | .slice _ => some false | _ => none
  | .map none, .map b => match i.desc with | .map _ _ => some b.isNone | _ => none
  | .map _, .map none => match i.desc with | .map _ _ => some false | _ => none
  | .nilFunc, .nilFunc => match i.desc with | .func _ _ _ => some true | _ => none
  | .nilFunc, .func _ _ _ => match i.desc with | .func _ _ _ => some false | _ => none
  | .func _ _ _, .nilFunc => match i.desc with | .func _ _ _ => some false | _ => none
  | .agg a, .agg b => bif i.flat && a.size.beq i.size then cellsEq i.zero.cells.toList a.toList b.toList else none
  | _, _ => none
def binA (D : Data) (op : BinOp) (t : TypeId) : Value → Value → Option Value
  | .int k a, .int k' b => intBin op k a k' b
  | .string a, .string b => strBin op a b
  | x, y => match op, D.ty.get t with
    | .eql, some i => (eqA i x y).map .bool
    | .neq, some i => (eqA i x y).map fun b => .bool (!b)
    | _, _ => none
def unA (op : UnOp) : Value → Option Value
  | .int k n => match op with
    | .neg => some (.int k (k.wrap (0 - n)))
    | .xor => some (.int k (k.wrap (BitVec.ofInt k.bits (if k.signed then -1 else k.max) ^^^ BitVec.ofInt k.bits n).toNat))
    | _ => none
  | .bool b => match op with | .not => some (.bool (!b)) | _ => none
  | _ => none
def bytesOf : List Value → ByteArray → Option ByteArray
  | [], s => some s
  | .int .u8 n :: vs, s => bytesOf vs (s.push (UInt8.ofNat n.toNat))
  | _, _ => none
def convA (D : Data) (h : H) (src dst : TypeId) (x : Value) : Option OpR :=
  match D.ty.get src, D.ty.get dst with
  | some i, some j =>
    match i.desc, j.desc, x with
    | .int _, .int k, .int _ n => some (.val (.int k (k.wrap n)) h)
    | .string, .string, .string s => some (.val (.string s) h)
    | .string, .slice e, .string s => match D.ty.get e with
      | some e' => match e'.desc with
        | .int .u8 => bif s.size.blt (B63 / 2) then some (.new (row e (s.data.toList.map fun b => .int .u8 b.toNat)) fun A => .slice (some ⟨A, 0, some 0⟩) s.size (UNK 1)) else none
        | _ => none
      | none => none
    | .slice e, .string, .slice none 0 0 => match D.ty.get e with
      | some e' => match e'.desc with
        | .int .u8 => some (.val (.string .empty) h)
        | _ => none
      | none => none
    | .slice e, .string, .slice (some a) n _ => match D.ty.get e with
      | some e' => match e'.desc with
        | .int .u8 => match ldCells h a n with
          | some l => (bytesOf l .empty).map fun s => .val (.string s) h
          | none => none
        | _ => none
      | none => none
    | .slice _, .slice e, .slice (some a) n c => match D.ty.get e with
      | some e' => match e'.desc with
        | .int .u8 => match capK c, h.objs.get a.block with
          | .exact k, some (.arr _) => bif src.beq dst && (0).blt k && h.nro.ble a.block then some (.val (.slice (some a) n c) h) else none
          | _, _ => none
        | _ => none
      | none => none
    | _, _, _ => none
  | _, _ => none

def zeros (z : Value) (n : Nat) : List Value := (List.replicate n z.cells.toList).flatten

def appR (h : H) (elem : TypeId) (j : TyI) (s : Value) (new : List Value) (m : Nat) : Option OpR :=
  match s with
  | .slice base len cap =>
    bif m.beq 0 then some (.val s h) else
    bif !(((len + m) * j.bytes).ble (2 ^ 47) && (len + m).ble (2 ^ 62)) then none else
    match base with
    | none => bif len.beq 0 && cap.beq 0 then some (.new (row elem new) fun A => .slice (some ⟨A, 0, some 0⟩) m (UNK j.size)) else none
    | some a => match capK cap with
      | .exact k => bif (len + m).ble k then (stCells h (add a (len * j.size)) new).map fun h' => .val (.slice base (len + m) cap) h'
        else match ldCells h a (len * j.size) with
          | some old => some (.new (row elem (old ++ new)) fun A => .slice (some ⟨A, 0, some 0⟩) (len + m) (UNK j.size))
          | none => none
      | .any => none
      | .unk z => bif z.beq j.size then
          match h.objs.get a.block, a.spot with
          | some (.arr r), some e => bif e.beq r.ver && h.nro.ble a.block && (a.off + len * j.size).ble r.size && (0).blt j.size then
              bif (a.off + (len + m) * j.size).ble r.size then (stCells h (add a (len * j.size)) new).map fun h' => .val (.slice base (len + m) cap) h'
              else some (.val (.slice (some ⟨a.block, a.off, some (e + 1)⟩) (len + m) cap) { h with tick := h.tick + 1, objs := h.objs.set a.block (.arr { r with size := a.off + (len + m) * j.size, ver := e + 1, cells := setL r.cells (a.off + len * j.size) (e + 1) new }) })
            else none
          | _, _ => none
        else none
      | .unk0 z => bif z.beq j.size then
          match h.objs.get a.block, a.spot with
          | some (.arr r), some e => bif e.beq r.ver && h.nro.ble a.block && (a.off + len * j.size).ble r.size && r.size.blt (a.off + (len + m) * j.size) && (0).blt j.size then
              some (.val (.slice (some ⟨a.block, a.off, some (e + 1)⟩) (len + m) (UNK z)) { h with tick := h.tick + 1, objs := h.objs.set a.block (.arr { r with size := a.off + (len + m) * j.size, ver := e + 1, cells := setL r.cells (a.off + len * j.size) (e + 1) new }) })
            else none
          | _, _ => none
        else none
  | _ => none

/-- the first n elements of a slice or a string, as cells -/
def firstA (h : H) (size n : Nat) : Value → Option (List Value)
  | .slice none l c => bif l.beq 0 && c.beq 0 then some [] else none
  | .slice (some a) _ _ => ldCells h a (n * size)
  | .string s => some ((s.extract 0 n).data.toList.map fun b => .int .u8 b.toNat)
  | _ => none
def lenA : Value → Option Nat
  | .slice _ n _ => some n
  | .string s => some s.size
  | _ => none

def appA (D : Data) (h : H) (argTypes : Array TypeId) (s x : Value) : Option OpR :=
  match argTypes[0]?, argTypes[1]? with
  | some st, some xt => match elemOf D st, D.ty.get xt with
    | some (e, j), some i =>
      match i.desc, x with
      | .int .i64, .int .i64 n => bif decide (0 ≤ n) && decide (n < 2 ^ 62) && decide (n * j.bytes ≤ 2 ^ 47) && j.zero.cells.toList.all oneC then appR h e j s (zeros j.zero n.toNat) n.toNat else none
      | .slice _, .slice b n c => match firstA h j.size n (.slice b n c) with
        | some new => bif new.all oneC then appR h e j s new n else none
        | none => none
      | .string, .string b => bif j.size.beq 1 then match firstA h j.size b.size (.string b) with
          | some new => appR h e j s new b.size
          | none => none
        else none
      | _, _ => none
    | _, _ => none
  | _, _ => none

def lenOf (D : Data) (h : H) (t : TypeId) (x : Value) : Option Value :=
  match D.ty.get t with
  | some i => match i.desc, x with
    | .string, .string s => some (.int .i64 s.size)
    | .array n _, _ => some (.int .i64 n)
    | .slice _, .slice _ n _ => some (.int .i64 n)
    | .map _ _, .map none => some (.int .i64 0)
    | .map _ _, .map (some r) => match h.objs.get r with
      | some (.map es) => some (.int .i64 es.length)
      | _ => none
    | _, _ => none
  | none => none
def capOf (D : Data) (t : TypeId) (x : Value) : Option Value :=
  match D.ty.get t with
  | some i => match i.desc, x with
    | .slice _, .slice none l c => bif l.beq 0 && c.beq 0 then some (.int .i64 0) else none
    | .slice _, .slice (some _) _ c => match capK c with
      | .exact k => some (.int .i64 k)
      | _ => none
    | _, _ => none
  | none => none
def foldInt (f : Int → Int → Int) : Value → List Value → Option Value
  | .int k x, [] => some (.int k x)
  | .int k x, .int k' y :: vs => bif decide (k = k') then foldInt f (.int k (f x y)) vs else none
  | _, _ => none

/-! maps, their keys whole numbers, or structs of these -/
def keq : Value → Value → Option Bool
  | .int k a, .int k' b => bif decide (k = k') then some (a == b) else none
  | .agg a, .agg b => intsEq a.toList b.toList
  | _, _ => none
def mfind (k : Value) : List (Value × Value) → Nat → Option (Option (Nat × Value))
  | [], _ => some none
  | (k', v) :: es, i => match keq k k' with
    | some true => some (some (i, v))
    | some false => mfind k es (i + 1)
    | none => none
/-- whole numbers of the same kinds -/
def sameK : List Value → List Value → Bool
  | [], [] => true
  | .int k _ :: zs, .int k' _ :: xs => decide (k = k') && sameK zs xs
  | _, _ => false
def fldIntOk (D : Data) (n : Nat) (f : Field) : Bool := match D.ty.get f.type with
  | some j => (match j.desc with | .int _ => f.offset.blt n | _ => false)
  | none => false
def keyOk (D : Data) (t : TypeId) : Value → Bool
  | .int k _ => match D.ty.get t with | some i => (match i.desc with | .int k' => decide (k = k') | _ => false) | none => false
  | .agg cs => match D.ty.get t with
    | some i => (match i.desc with
      | .struct fs => i.flat && (cs.size.beq i.size && (sameK i.zero.cells.toList cs.toList && fs.toList.all (fldIntOk D cs.size)))
      | _ => false)
    | none => false
  | _ => false
def mapTy (D : Data) (t : TypeId) : Option (TypeId × TypeId) :=
  match D.ty.get t with
  | some i => match i.desc with
    | .map k e => some (k, e)
    | _ => none
  | none => none
def lookA (D : Data) (h : H) (t : TypeId) (x k : Value) (ok : Bool) : Option Value :=
  match mapTy D t with
  | some (kt, et) => bif keyOk D kt k then
      match D.ty.get et with
      | some j =>
        let r := match x with
          | .map none => some none
          | .map (some r) => match h.objs.get r with
            | some (.map es) => mfind k es 0
            | _ => none
          | _ => none
        match r with
        | some (some (_, v)) => some (if ok then .tuple #[v, .bool true] else v)
        | some none => some (if ok then .tuple #[j.zero, .bool false] else j.zero)
        | none => none
      | none => none
    else none
  | none => none
def setAt : List (Value × Value) → Nat → Value → List (Value × Value)
  | [], _, _ => []
  | (k, _) :: es, 0, v => (k, v) :: es
  | e :: es, i + 1, v => e :: setAt es i v
def updA (D : Data) (h : H) (t : TypeId) (x k v : Value) : Option H :=
  match mapTy D t, x with
  | some (kt, _), .map (some r) => bif keyOk D kt k && h.nro.ble r then
      match h.objs.get r with
      | some (.map es) => match mfind k es 0 with
        | some (some (i, _)) => some { h with tick := h.tick + 1, objs := h.objs.set r (.map (setAt es i v)) }
        | some none => some { h with tick := h.tick + 1, objs := h.objs.set r (.map (es ++ [(k, v)])) }
        | none => none
      | _ => none
    else none
  | _, _ => none
def delA (D : Data) (h : H) (t : TypeId) (x k : Value) : Option H :=
  match mapTy D t, x with
  | some (kt, _), .map none => bif keyOk D kt k then some h else none
  | some (kt, _), .map (some r) => bif keyOk D kt k && h.nro.ble r then
      match h.objs.get r with
      | some (.map es) => match mfind k es 0 with
        | some (some (i, _)) => some { h with tick := h.tick + 1, objs := h.objs.set r (.map (es.eraseIdx i)) }
        | some none => some { h with tick := h.tick + 1, objs := h.objs.set r (.map es) }
        | none => none
      | _ => none
    else none
  | _, _ => none

/-! slices of slices, strings, arrays -/
def bnd (y : Nat) : Value → Option Nat
  | .int _ i => bif decide (0 ≤ i) && decide (i ≤ y) then some i.toNat else none
  | _ => none
/-- the greatest bound that surely lies within the capacity -/
def capLow (h : H) (a : Addr) (len : Nat) (size : Nat) : CapK → Nat
  | .exact k => k
  | .unk z => match h.objs.get a.block, a.spot with
    | some (.arr r), some e => bif e.beq r.ver && z.beq size && (0).blt size then max len ((r.size - a.off) / size) else len
    | _, _ => len
  | _ => len
def bndO (y d : Nat) : Option Value → Option Nat
  | none => some d
  | some v => bnd y v
def slA (D : Data) (h : H) (t : TypeId) (x : Value) (lo hi mx : Option Value) : Option Value :=
  match D.ty.get t with
  | some i => match i.desc, x with
    | .string, .string s => match mx with
      | some _ => none
      | none => match bndO s.size s.size hi with
        | some b => match bndO b 0 lo with
          | some a => some (.string (s.extract a b))
          | none => none
        | none => none
    | .slice e, .slice none l c => bif l.beq 0 && c.beq 0 then match D.ty.get e with
      | none => none
      | some _ =>
        match bndO 0 0 mx, bndO 0 0 hi, bndO 0 0 lo with
        | some _, some _, some _ => match mx, hi with
          | some _, none => none
          | _, _ => some (.slice none 0 0)
        | _, _, _ => none
      else none
    | .slice e, .slice (some a) len cap => match D.ty.get e with
      | some j =>
        let ck := capK cap
        let cl := capLow h a len j.size ck
        match mx with
        | some m => match bnd cl m, hi with
          | some m, some hi => match bnd m hi with
            | some b => match bndO b 0 lo with
              | some l => bif (isUnk0 ck && !l.beq 0) || !(m.blt B63) then none else some (.slice (some (bif m.beq l then a else add a (l * j.size))) (b - l) (m - l))
              | none => none
            | none => none
          | _, _ => none
        | none => match bndO cl len hi with
          | some b => match bndO b 0 lo with
            | some l => match ck with
              | .exact k => some (.slice (some (bif k.beq l then a else add a (l * j.size))) (b - l) (k - l))
              | .unk z => bif l.beq 0 then some (.slice (some a) b cap) else bif !(z.beq j.size) then none else bif b.beq l then some (.slice (some (add a (l * j.size))) 0 (UNK0 z)) else some (.slice (some (add a (l * j.size))) (b - l) cap)
              | .unk0 _ => bif l.beq 0 then some (.slice (some a) b cap) else none
              | .any => some (.slice (some (add a (l * j.size))) (b - l) cap)
            | none => none
          | none => none
      | none => none
    | .array n e, .pointer (some a) => match D.ty.get e with
      | some j => match mx with
        | some _ => none
        | none => match bndO n n hi with
          | some b => match bndO b 0 lo with
            | some l => bif n.blt B63 then some (.slice (some (bif n.beq l then a else add a (l * j.size))) (b - l) (n - l)) else none
            | none => none
          | none => none
      | none => none
    | _, _ => none
  | none => none

def partA (j : TyI) (cs : List Value) (off : Nat) : Option Value :=
  bif j.agg then some (.agg ((cs.drop off).take j.size).toArray) else cs[off]?
def idx (n : Nat) : Value → Option Nat
  | .int _ i => bif decide (0 ≤ i) && decide (i < n) then some i.toNat else none
  | _ => none
def indexA (D : Data) (t : TypeId) (x ix : Value) : Option Value :=
  match D.ty.get t with
  | some i => match i.desc, x with
    | .array n e, .agg cs => match D.ty.get e, idx n ix with
      | some j, some k => bif ((k + 1) * j.size).ble cs.size then partA j cs.toList (k * j.size) else none
      | _, _ => none
    | .string, .string s => match idx s.size ix with
      | some k => match s.data.toList[k]? with
        | some b => some (.int .u8 b.toNat)
        | none => none
      | none => none
    | _, _ => none
  | none => none
def idxAddr (D : Data) (t : TypeId) (x ix : Value) : Option Value :=
  match D.ty.get t with
  | some i => match i.desc, x with
    | .array n e, .pointer (some a) => match D.ty.get e, idx n ix with
      | some j, some k => some (.pointer (some (add a (k * j.size))))
      | _, _ => none
    | .slice e, .slice (some a) n _ => match D.ty.get e, idx n ix with
      | some j, some k => some (.pointer (some (add a (k * j.size))))
      | _, _ => none
    | _, _ => none
  | none => none
def fldAddr (D : Data) (t : TypeId) (x : Value) (f : Nat) : Option Value :=
  match D.ty.get t with
  | some i => match i.desc, x with
    | .struct fs, .pointer (some a) => match fs[f]? with
      | some fd => match D.ty.get fd.type with
        | some j => bif j.size.beq 0 then none else some (.pointer (some (add a fd.offset)))
        | none => none
      | none => none
    | _, _ => none
  | none => none
def fldA (D : Data) (t : TypeId) (x : Value) (f : Nat) : Option Value :=
  match D.ty.get t with
  | some i => match i.desc, x with
    | .struct fs, .agg cs => match fs[f]? with
      | some fd => match D.ty.get fd.type with
        | some j => bif (fd.offset + j.size).ble cs.size then partA j cs.toList fd.offset else none
        | none => none
      | none => none
    | _, _ => none
  | none => none

/-! literals -/
def fillA : (Nat → Option (Nat × Nat)) → List Value → List (Nat × Value) → Option (List Value)
  | _, cells, [] => some cells
  | place, cells, (i, v) :: rest => match place i with
    | none => none
    | some (off, size) => bif v.cells.size.beq size && (off + size).ble cells.length then fillA place (cells.take off ++ v.cells.toList ++ cells.drop (off + size)) rest else none
def buildA (D : Data) (t : TypeId) (parts : List (Nat × Value)) : Option Value :=
  match D.ty.get t with
  | some i => match i.desc with
    | .struct fs => bif !(fs.toList.all fun f => (D.ty.get f.type).isSome) then none else (fillA (fun k => match fs[k]? with | some f => (match D.ty.get f.type with | some j => some (f.offset, j.size) | none => none) | none => none) i.zero.cells.toList parts).map fun l => .agg l.toArray
    | .array _ e => match D.ty.get e with
      | some j => (fillA (fun k => some (k * j.size, j.size)) i.zero.cells.toList parts).map fun l => .agg l.toArray
      | none => none
    | _ => none
  | none => none
def buildSl (D : Data) (t : TypeId) (len : Nat) (parts : List (Nat × Value)) : Option OpR :=
  match elemOf D t with
  | some (e, j) => bif (len * j.size).ble (2 ^ 24) && len.ble (2 ^ 24) then
      match fillA (fun k => some (k * j.size, j.size)) (zeros j.zero len) parts with
      | some l => some (.new (row e l) fun A => .slice (some ⟨A, 0, some 0⟩) len len)
      | none => none
    else none
  | none => none
def mkSl (D : Data) (t : TypeId) (len cap : Value) : Option OpR :=
  match elemOf D t, len, cap with
  | some (e, j), .int _ n, .int _ c => bif decide (0 ≤ n) && decide (n ≤ c) && decide (c * (j.bytes + 1) ≤ 2 ^ 46) then
      some (.new (row e (zeros j.zero c.toNat)) fun A => .slice (some ⟨A, 0, some 0⟩) n.toNat c.toNat)
    else none
  | _, _, _ => none
def clearA (D : Data) (h : H) (t : TypeId) (x : Value) : Option H :=
  match elemOf D t, x with
  | some _, .slice none l c => bif l.beq 0 && c.beq 0 then some h else none
  | some (_, j), .slice (some a) n _ => stCells h a (zeros j.zero n)
  | _, _ => none
def strOk (j : TyI) : Value → Bool
  | .string _ => j.size.beq 1
  | _ => true
def copyA (D : Data) (h : H) (t : TypeId) (dst src : Value) : Option OpR :=
  match elemOf D t, dst, lenA src with
  | some (_, j), .slice base dl c, some sl =>
    let n := min sl dl
    bif !(strOk j src) then none else
    match firstA h j.size n src with
    | some cells => match base with
      | none => bif dl.beq 0 && c.beq 0 then some (.val (.int .i64 n) h) else none
      | some a => (stCells h a cells).map fun h' => .val (.int .i64 n) h'
    | none => none
  | _, _, _ => none

def evalO (t : Tr Value) : Operand → Option Value
  | .tmp i => t.get i
  | .const v => bif free v then some v else none
  | .global _ => none
  | .func f => some (.func (.func f) #[] #[])
def evalL (t : Tr Value) : List Operand → Option (List Value)
  | [] => some []
  | x :: xs => match evalO t x with
    | some v => match evalL t xs with
      | some l => some (v :: l)
      | none => none
    | none => none
def evalP (t : Tr Value) : List (Nat × Operand) → Option (List (Nat × Value))
  | [] => some []
  | (i, x) :: xs => match evalO t x with
    | some v => match evalP t xs with
      | some l => some ((i, v) :: l)
      | none => none
    | none => none
def evalOO (t : Tr Value) : Option Operand → Option (Option Value)
  | none => some none
  | some x => (evalO t x).map some

def builtA (D : Data) (h : H) (b : Builtin) (ts : Array TypeId) (args : List Value) : Option OpR :=
  match b, args with
  | .append, [s, x] => appA D h ts s x
  | .len, [x] => match ts[0]? with
    | some t => (lenOf D h t x).map fun v => .val v h
    | none => none
  | .cap, [x] => match ts[0]? with
    | some t => (capOf D t x).map fun v => .val v h
    | none => none
  | .copy, [d, s] => match ts[0]? with
    | some t => copyA D h t d s
    | none => none
  | .max, x :: xs => (foldInt (fun x y => if y > x then y else x) x xs).map fun v => .val v h
  | .min, x :: xs => (foldInt (fun x y => if y < x then y else x) x xs).map fun v => .val v h
  | .delete, [m, k] => match ts[0]? with
    | some t => (delA D h t m k).map fun h' => .val (.tuple #[]) h'
    | none => none
  | .clear, [x] => match ts[0]? with
    | some t => (clearA D h t x).map fun h' => .val (.tuple #[]) h'
    | none => none
  | _, _ => none

def opA (D : Data) (o : Op) (t : Tr Value) (h : H) : Option OpR :=
  match o with
  | .move x | .assign x => (evalO t x).map fun v => .val v h
  | .pick c a b => match evalO t c with
    | some (.bool true) => (evalO t a).map fun v => .val v h
    | some (.bool false) => (evalO t b).map fun v => .val v h
    | _ => none
  | .alloc e => match D.ty.get e with
    | some j => some (.new (row e j.zero.cells.toList) fun A => .pointer (some ⟨A, 0, some 0⟩))
    | none => none
  | .box e x => (evalO t x).map fun v => .new (row e v.cells.toList) fun A => .pointer (some ⟨A, 0, some 0⟩)
  | .build ty ps => match evalP t ps.toList with
    | some l => (buildA D ty l).map fun v => .val v h
    | none => none
  | .buildSlice ty n ps => match evalP t ps.toList with
    | some l => buildSl D ty n l
    | none => none
  | .load ty x => match evalO t x, D.ty.get ty with
    | some (.pointer (some a)), some j => (ldVar h j a).map fun v => .val v h
    | _, _ => none
  | .store ty x y => match evalO t x, evalO t y, D.ty.get ty with
    | some (.pointer (some a)), some v, some j => (stVar h j a v).map .skip
    | _, _, _ => none
  | .nilCheck x => match evalO t x with
    | some (.pointer (some a)) => some (.val (.pointer (some a)) h)
    | _ => none
  | .binOp op ty x y _ => match evalO t x, evalO t y with
    | some a, some b => (binA D op ty a b).map fun v => .val v h
    | _, _ => none
  | .unOp op _ x => match evalO t x with
    | some a => (unA op a).map fun v => .val v h
    | none => none
  | .convert s d x => match evalO t x with
    | some a => convA D h s d a
    | none => none
  | .makeFunc fn xs ys => match evalL t xs.toList, evalL t ys.toList with
    | some l, some m => some (.val (.func fn l.toArray m.toArray) h)
    | _, _ => none
  | .makeMap _ none => some (.new (.map []) fun A => .map (some A))
  | .makeSlice ty x y => match evalO t x, evalO t y with
    | some a, some b => mkSl D ty a b
    | _, _ => none
  | .slice ty x lo hi mx => match evalO t x, evalOO t lo, evalOO t hi, evalOO t mx with
    | some a, some l, some b, some m => (slA D h ty a l b m).map fun v => .val v h
    | _, _, _, _ => none
  | .fieldAddr ty x f => match evalO t x with
    | some a => (fldAddr D ty a f).map fun v => .val v h
    | none => none
  | .field ty x f => match evalO t x with
    | some a => (fldA D ty a f).map fun v => .val v h
    | none => none
  | .indexAddr ty x y => match evalO t x, evalO t y with
    | some a, some b => (idxAddr D ty a b).map fun v => .val v h
    | _, _ => none
  | .index ty x y => match evalO t x, evalO t y with
    | some a, some b => (indexA D ty a b).map fun v => .val v h
    | _, _ => none
  | .lookup ty x y ok => match evalO t x, evalO t y with
    | some a, some b => (lookA D h ty a b ok).map fun v => .val v h
    | _, _ => none
  | .mapUpdate ty m k x | .insert ty m k x => match evalO t m, evalO t k, evalO t x with
    | some a, some b, some c => (updA D h ty a b c).map .skip
    | _, _, _ => none
  | .extract x i => match evalO t x with
    | some (.tuple vs) => (vs.toList[i]?).map fun v => .val v h
    | _ => none
  | .call c => match evalL t c.args.toList with
    | some l => match c.callee with
      | .builtin b => builtA D h b c.argTypes l
      | .value f => match evalO t f with
        | some (.func (.func f) first captured) => match D.fn.get f with
          | some _ => some (.call f (first.toList ++ l ++ captured.toList))
          | none => none
        | _ => none
      | _ => none
    | none => none
  | _ => none

/-! ### code -/
structure St where
  t : Tr Value
  n : Nat
  h : H
inductive Ex where
  | normal
  | exit (id : Nat)
  | ret
def newAt (h : H) (id : Nat) (o : AObj) : H := { h with tick := h.tick + 1, objs := h.objs.set id o }
def grow (h : H) (n : Nat) : H := { h with size := h.size + n }
def putT (t : Tr Value) (n : Nat) (dst : Option Tmp) (v : Value) : Option (Tr Value) :=
  match dst with
  | none => some t
  | some d => bif d.blt n then some (t.set d v) else none
def put (s : St) (dst : Option Tmp) (v : Value) (h : H) : Option St := (putT s.t s.n dst v).map fun t => ⟨t, s.n, h⟩
def undefV : Value := .tuple #[]
def wantA (ops : Array Oper) (g : Option (Nat × Bool)) (t : Tr Value) : Option Bool :=
  match g with
  | none => some true
  | some (j, want) => match ops[j]? with
    | some o => match o.dst with
      | some d => match t.get d with
        | some (.bool b) => some (b == want)
        | some (.tuple _) => some false
        | _ => none
      | none => none
    | none => none
abbrev CallF := FuncId → List Value → H → Option (Value × H)
def stepA (D : Data) (call : CallF) (ops : Array Oper) (o : Oper) (s : St) : Option St :=
  match wantA ops o.guard s.t with
  | none => none
  | some false => put s o.dst undefV s.h
  | some true => match opA D o.op s.t s.h with
    | none => none
    | some (.val v h) => put s o.dst v h
    | some (.skip h) => put s o.dst undefV h
    | some (.new ob mk) => put s o.dst (mk s.h.size) (newAt (grow s.h 1) s.h.size ob)
    | some (.call f args) => match call f args s.h with
      | some (v, h) => put s o.dst v h
      | none => none
def runA (D : Data) (call : CallF) (ops : Array Oper) : List Oper → St → Option St
  | [], s => some s
  | o :: os, s => match stepA D call ops o s with
    | some s' => runA D call ops os s'
    | none => none
def resA (D : Data) (t : Tr Value) (h : H) : List ResultVar → Option (List Value)
  | [] => some []
  | r :: rs => match (match r with
      | .tmp i => t.get i
      | .cell a ty => match t.get a, D.ty.get ty with
        | some (.pointer (some p)), some j => ldVar h j p
        | _, _ => none) with
    | some v => match resA D t h rs with
      | some l => some (v :: l)
      | none => none
    | none => none
def tupled : List Value → Value
  | [v] => v
  | l => .tuple l.toArray
def args0 : Tr Value → Nat → List Value → Tr Value
  | t, _, [] => t
  | t, i, v :: vs => args0 (t.set i v) (i + 1) vs
end Go.Abs

/- The machine's code: regions whose order is open, calls, loops (definitions). -/
namespace Go.Abs
open Go

def allB {α : Type} (f : α → α → Bool) : List α → List α → Bool
  | [], [] => true
  | a :: x, b :: y => f a b && allB f x y
  | _, _ => false
def veqN : Nat → Value → Value → Bool
  | _, .bool a, .bool b => a == b
  | _, .int k a, .int k' b => decide (k = k') && a == b
  | _, .string a, .string b => a.data.toList == b.data.toList
  | _, .pointer a, .pointer b => decide (a = b)
  | _, .slice a l c, .slice a' l' c' => decide (a = a') && l.beq l' && c.beq c'
  | _, .map a, .map b => decide (a = b)
  | n + 1, .func f x y, .func f' x' y' => decide (f = f') && allB (veqN n) x.toList x'.toList && allB (veqN n) y.toList y'.toList
  | _, .nilFunc, .nilFunc => true
  | n + 1, .iface t v, .iface t' v' => t.beq t' && veqN n v v'
  | _, .nilIface, .nilIface => true
  | n + 1, .agg x, .agg y => allB (veqN n) x.toList y.toList
  | n + 1, .tuple x, .tuple y => allB (veqN n) x.toList y.toList
  | _, _, _ => false
def veq (a b : Value) : Bool := veqN 4 a b

/-- operations that ask nothing of the heap -/
def pureOp : Op → Bool
  | .move _ | .assign _ | .pick .. | .build .. | .binOp .. | .unOp .. | .field .. | .index .. | .extract .. | .fieldAddr .. | .indexAddr .. | .makeFunc .. | .nilCheck _ => true
  | .call { callee := .builtin b, .. } => match b with | .max | .min => true | _ => false
  | _ => false
def allocOp : Op → Bool
  | .alloc _ | .box .. | .buildSlice .. | .makeMap .. | .makeSlice .. => true
  | _ => false
/-- operations that read the heap and turn nothing -/
def readOp (D : Data) : Op → Bool
  | .load .. | .slice .. | .lookup .. => true
  | .convert s d _ => match D.ty.get s, D.ty.get d with
    | some i, some j => (match i.desc, j.desc with | .string, .slice _ => false | _, _ => true)
    | _, _ => true
  | .call { callee := .builtin b, .. } => match b with | .len | .cap => true | _ => false
  | _ => false
def addP (mask n0 : Nat) : List (Nat × AObj) → H → H
  | [], h => h
  | (i, ob) :: l, h => bif mask.testBit i then (match h.objs.get (n0 + i) with
      | none => addP mask n0 l (newAt h (n0 + i) ob)
      | some _ => addP mask n0 l h) else addP mask n0 l h
structure DS where
  t : Tr Value
  m : H
  cs : List (Nat × AObj)
  effs : List (Nat × H)      -- newest first: its number; the heap before it
  reads : List (Nat × Op × Tr Value × Value)
/-- an operation that turns nothing: its value -/
def quietA (D : Data) (call : CallF) (o : Op) (t : Tr Value) (h : H) : Option Value :=
  match opA D o t h with
  | some (.val v h') => bif h'.tick.beq h.tick then some v else none
  | some (.skip h') => bif h'.tick.beq h.tick then some undefV else none
  | some (.call f args) => match call f args h with
    | some (v, h') => bif h'.tick.beq h.tick then some v else none
    | none => none
  | _ => none
def effA (D : Data) (call : CallF) (o : Op) (t : Tr Value) (h : H) : Option (Value × H) :=
  match opA D o t h with
  | some (.val v h') => some (v, h')
  | some (.skip h') => some (undefV, h')
  | some (.new ob mk) => some (mk h.size, newAt (grow h 1) h.size ob)
  | some (.call f args) => call f args h
  | none => none
def dstep (D : Data) (call : CallF) (ops : Array Oper) (bm : Array Nat) (n n0 i : Nat) (o : Oper) (s : DS) : Option DS :=
  match wantA ops o.guard s.t with
  | none => none
  | some false => (putT s.t n o.dst undefV).map fun t => { s with t := t }
  | some true =>
    let mask := bm.getD i 0
    bif pureOp o.op then match quietA D call o.op s.t s.m with
      | some v => (putT s.t n o.dst v).map fun t => { s with t := t }
      | none => none
    else bif allocOp o.op then match opA D o.op s.t s.m with
      | some (.new ob mk) => (putT s.t n o.dst (mk (n0 + i))).map fun t => { s with t := t, cs := s.cs ++ [(i, ob)] }
      | _ => none
    else
      let hh := addP mask n0 s.cs s.m
      bif readOp D o.op then match quietA D call o.op s.t hh with
      | some v => (putT s.t n o.dst v).map fun t => { s with t := t, reads := (i, o.op, s.t, v) :: s.reads }
      | none => none
      else bif s.effs.all (fun e => mask.testBit e.1) then match effA D call o.op s.t hh with
          | some (v, h') => (putT s.t n o.dst v).map fun t => { s with t := t, m := h', effs := (i, s.m) :: s.effs }
          | none => none
        else none
def drun (D : Data) (call : CallF) (ops : Array Oper) (bm : Array Nat) (n n0 : Nat) : List Oper → Nat → DS → Option DS
  | [], _, s => some s
  | o :: os, i, s => match dstep D call ops bm n n0 i o s with
    | some s' => drun D call ops bm n n0 os (i + 1) s'
    | none => none
/-- a read tells the same at every heap at which it may come: 'todo' (newest first) are the effects that may yet be ahead of it or behind it -/
def rereadA (D : Data) (call : CallF) (bm : Array Nat) (n0 : Nat) (cs : List (Nat × AObj)) (i : Nat) (o : Op) (t : Tr Value) (v : Value) : List (Nat × H) → H → Bool
  | [], m => (match quietA D call o t (addP (bm.getD i 0) n0 cs m) with | some u => veq v u | none => false)
  | (e, m') :: rest, m =>
    (bif ((e, m') :: rest).all (fun e => !(bm.getD e.1 0).testBit i) then (match quietA D call o t (addP (bm.getD i 0) n0 cs m) with | some u => veq v u | none => false) else true)
    && (bif (bm.getD i 0).testBit e then true else rereadA D call bm n0 cs i o t v rest m')
/-- every temporary that an operation looks at, or writes, was written by operations that come before it by the edges, or behind it -/
def namesOf (ops : Array Oper) (o : Oper) : List Tmp := o.dst.toList ++ o.looksAt ops
def textOk (ops : Array Oper) (bm : Array Nat) : Bool :=
  (List.range ops.size).all fun j => match ops[j]? with
    | some o => (o.after.all fun e => !Region.binds .any e || e.on.blt j) &&
      (List.range ops.size).all fun i => match ops[i]? with
        | some p => match p.dst with
          | some d => bif (namesOf ops o).contains d && !i.beq j then (bif i.blt j then (bm.getD j 0).testBit i else (bm.getD i 0).testBit j) else true
          | none => true
        | none => true
    | none => true
def reserve (ops : Array Oper) : Nat := bif ops.toList.any (fun o => allocOp o.op) then ops.size else 0
def tickIf (k : Nat) (h : H) : H := bif k.beq 0 then h else { h with tick := h.tick + 1 }
def drawA (D : Data) (call : CallF) (ops : Array Oper) (s : St) : Option St :=
  let bm := Region.before ops
  let n0 := s.h.size
  let k := reserve ops
  bif textOk ops bm then
    match drun D call ops bm s.n n0 ops.toList 0 ⟨s.t, grow s.h k, [], [], []⟩ with
    | some z => bif z.reads.all (fun r => rereadA D call bm n0 z.cs r.1 r.2.1 r.2.2.1 r.2.2.2 z.effs z.m) then
        some ⟨z.t, s.n, tickIf k (addP (2 ^ ops.size - 1) n0 z.cs z.m)⟩ else none
    | none => none
  else none

def exec1 (D : Data) (rec : Code → St → Option (Ex × St)) (call : CallF) : Code → St → Option (Ex × St)
  | .skip, s => some (.normal, s)
  | .region _ ops draw, s => match (bif draw then drawA D call ops s else runA D call ops ops.toList s) with
    | some s' => some (.normal, s')
    | none => none
  | .seq a b, s => match rec a s with
    | some (.normal, s') => rec b s'
    | r => r
  | .cond c x y, s => match evalO s.t c with
    | some (.bool true) => rec x s
    | some (.bool false) => rec y s
    | _ => none
  | .block id c, s => match rec c s with
    | some (.exit i, s') => bif i.beq id then some (.normal, s') else some (.exit i, s')
    | r => r
  | .loop c, s => match rec c s with
    | some (.normal, s') => rec (.loop c) s'
    | r => r
  | .exit id, s => some (.exit id, s)
  | .ret, s => some (.ret, s)
  | .label _, s => some (.normal, s)
  | _, _ => none
def callW (D : Data) (ex : Code → St → Option (Ex × St)) : CallF := fun f args h =>
  match D.ov f with
  | some g => g args h
  | none => match D.fn.get f with
    | some F => match F.body with
      | some c => match ex c ⟨args0 .leaf 0 args, max args.length F.ntmps, h⟩ with
        | some (.exit _, _) => none
        | some (_, s) => match resA D s.t s.h F.results.toList with
          | some l => some (tupled l, s.h)
          | none => none
        | none => none
      | none => none
    | none => none
def exec (D : Data) : Nat → Code → St → Option (Ex × St)
  | 0 => fun _ _ => none
  | n + 1 => exec1 D (exec D n) (callW D (exec D n))
def callA (D : Data) (n : Nat) : CallF := callW D (exec D n)
end Go.Abs
