/- Lemmas about the typed texts (joined: SFrame1 S8 LSealWays). -/
import Derived.Test.YthiccnmplgdheaaG6
import Derived.Test.YthiccnmplgdheaaG10
import Derived.Test.YthiccnmplgdheaaG2
import Derived.Test.YthiccnmplgdheaaG9
set_option linter.unusedVariables false
set_option linter.unusedSimpArgs false
namespace Go.Proofs.Ythiccnmplgdheaa.T
open Go Go.Abs Go.Proofs
abbrev F9 := Int × Int × Int × Int × Int × Int × Bool × Sl × Sl
abbrev zF : List Z := [.int .i64, .int .i64, .int .i64, .int .i64, .int .i64, .int .i64, .bool, .sl, .sl]
abbrev f9L (x : F9) : List Value := [.int .i64 x.1, .int .i64 x.2.1, .int .i64 x.2.2.1, .int .i64 x.2.2.2.1, .int .i64 x.2.2.2.2.1, .int .i64 x.2.2.2.2.2.1, .bool x.2.2.2.2.2.2.1, .slice x.2.2.2.2.2.2.2.1.base x.2.2.2.2.2.2.2.1.len x.2.2.2.2.2.2.2.1.cap, .slice x.2.2.2.2.2.2.2.2.base x.2.2.2.2.2.2.2.2.len x.2.2.2.2.2.2.2.2.cap]
def f90 : F9 := (0, 0, 0, 0, 0, 0, false, ⟨none, 0, 0⟩, ⟨none, 0, 0⟩)
theorem PO.ldF {α : Type} {Q : α -> Prop} {h : H} {b : Nat} {x : F9} {f : F9 -> Option α} (B : Box h b (f9L x)) (p : PO (f x) Q) : PO (bindO (Abs.ldZ [.int .i64, .int .i64, .int .i64, .int .i64, .int .i64, .int .i64, .bool, .sl, .sl] h ⟨b, 0, some 0⟩) f) Q := .op (B.ldZ zF x rfl) p
/-- two boxes, the second one written -/
structure TB (h0 : H) (b b2 : Nat) (L : List Value) (h : H) (L2 : List Value) : Prop where
  ex : EX h0 h
  hb : h0.size <= b2
  ne : ¬ b = b2
  box : Box h b L
  box2 : Box h b2 L2
section
variable {α : Type} {Q : α -> Prop} {h0 h : H} {b b2 i : Nat} {L L2 : List Value}
theorem TB.ldI {k : IntKind} {n : Int} {f : Int -> Option α} (t : TB h0 b b2 L h L2) (hi : L[i]? = some (.int k n)) (p : PO (f n) Q) : PO (bindO (Abs.ldI k h (add ⟨b, 0, some 0⟩ i)) f) Q := .ldI t.box hi p
theorem TB.ldB {n : Bool} {f : Bool -> Option α} (t : TB h0 b b2 L h L2) (hi : L[i]? = some (.bool n)) (p : PO (f n) Q) : PO (bindO (Abs.ldB h (add ⟨b, 0, some 0⟩ i)) f) Q := .ldB t.box hi p
theorem TB.ldL {n : Sl} {f : Sl -> Option α} (t : TB h0 b b2 L h L2) (hi : L[i]? = some (encSl n)) (p : PO (f n) Q) : PO (bindO (Abs.ldL h (add ⟨b, 0, some 0⟩ i)) f) Q := .ldL t.box hi p
theorem TB.st1 {v : Value} {f : H -> Option α} (t : TB h0 b b2 L h L2) (hi : i < L2.length) (ho : oneC v = true) (p : ∀ h', TB h0 b b2 L h' (L2.set i v) -> PO (f h') Q) : PO (bindO (Abs.st1 h (add ⟨b2, 0, some 0⟩ i) v) f) Q :=
  PO.st1 t.box2 t.ex.wf hi ho fun h' B u z w => p h' ⟨u.ex0 t.ex (fun A hA e => by have := t.hb; omega), t.hb, t.ne, Box.ku u t.ne t.box, B⟩
theorem TB.cast {h0 h : H} {b b2 : Nat} {L L2 L2' : List Value} (t : TB h0 b b2 L h L2) (e : L2 = L2') : TB h0 b b2 L h L2' := e ▸ t
end
def bareX (x : F9) : F9 :=
  if x.1 = 2 then (x.1, 0, 0, 0, 0, 0, false, ⟨none, 0, 0⟩, x.2.2.2.2.2.2.2.2)
  else if x.1 = 3 then (x.1, x.2.1, x.2.2.1, 0, 0, 0, x.2.2.2.2.2.2.1, x.2.2.2.2.2.2.2.1, ⟨none, 0, 0⟩)
  else if x.1 = 4 then (x.1, x.2.1, x.2.2.1, x.2.2.2.1, x.2.2.2.2.1, 0, false, ⟨none, 0, 0⟩, ⟨none, 0, 0⟩)
  else if x.1 = 5 \/ x.1 = 7 then (x.1, x.2.1, 0, x.2.2.2.1, 0, 0, false, ⟨none, 0, 0⟩, ⟨none, 0, 0⟩)
  else if x.1 = 6 \/ x.1 = 12 then (x.1, 0, 0, x.2.2.2.1, 0, 0, false, ⟨none, 0, 0⟩, ⟨none, 0, 0⟩)
  else if x.1 = 8 then (x.1, 0, 0, x.2.2.2.1, 0, 0, x.2.2.2.2.2.2.1, ⟨none, 0, 0⟩, ⟨none, 0, 0⟩)
  else if x.1 = 9 then (x.1, 0, 0, 0, 0, 0, false, x.2.2.2.2.2.2.2.1, ⟨none, 0, 0⟩)
  else if x.1 = 10 \/ x.1 = 11 then (x.1, x.2.1, 0, 0, 0, 0, false, ⟨none, 0, 0⟩, ⟨none, 0, 0⟩)
  else (x.1, 0, 0, 0, 0, 0, false, ⟨none, 0, 0⟩, ⟨none, 0, 0⟩)
theorem bare_f {h : H} (w : WF h) (x : F9) : PO (frame_bare x h) (fun (a, h1) => a = bareX x /\ EX h h1) := by
  unfold frame_bare
  refine PO.newB w fun h1 x1 B1 z1 w1 => PO.newB w1 fun h2 x2 B2 z2 w2 => .ldI (Box.kx x2 B1) rfl (PO.newB w2 fun h3 x3 B3 z3 w3 => PO.stZ B3 w3 rfl rfl fun h4 B4 u4 z4 w4 => ?_)
  have y4 : EX h2 h4 := u4.ex0 x3 (fun A hA e => by omega)
  have t0 : TB h2 h.size h2.size (f9L x) h4 (f9L (x.1, 0, 0, 0, 0, 0, false, ⟨none, 0, 0⟩, ⟨none, 0, 0⟩)) := ⟨y4, Nat.le_refl _, by omega, Box.kx y4 (Box.kx x2 B1), B4⟩
  refine PO.join (fun s => s.1 = (some ⟨h1.size, 0, some 0⟩, some ⟨h2.size, 0, some 0⟩) /\ TB h2 h.size h2.size (f9L x) s.2 (f9L (bareX x))) ?_ ?_
  · clear B1 B2 B3 B4 u4 y4 x3 w3 w4
    repeat' (first
      | refine PO.chk (by simp [slEq_self]) ?_
      | refine .condE (fun e => ?_) (fun e => ?_)
      | refine TB.ldI (by assumption) rfl ?_
      | refine TB.ldB (by assumption) rfl ?_
      | refine TB.ldL (by assumption) rfl ?_
      | refine TB.st1 (by assumption) (by simp) rfl (fun h' t => ?_)
      | refine PO.retL ⟨rfl, TB.cast (by assumption) ?_⟩)
    all_goals (first | (exfalso; omega) | simp [bareX, *])
  · rintro ⟨s, h5⟩ ⟨rfl, t5⟩
    have t : TB h2 h.size h2.size (f9L x) h5 (f9L (bareX x)) := t5
    refine .ptr (PO.ldF t.box2 (.ptr (PO.stZ (Box.kx t.ex B2) t.ex.wf rfl rfl fun h6 B6 u6 z6 w6 => .ptr (PO.ldF B6 (.ret ⟨rfl, ?_⟩)))))
    exact u6.ex0 ((x1.trans x2).trans t.ex) (fun A hA e => by have := x1.size; omega)
end Go.Proofs.Ythiccnmplgdheaa.T
namespace Go.Abs
open Go Go.ChangeShapes Go.WideShapes Go.RowKit
abbrev Part := Option Addr × Nat × Nat × List Int
def IsPart (W : World) (y : Part) : Prop := IsRow .u8 W y.1 y.2.1 y.2.2.1 y.2.2.2 /\ y.2.1 <= 140737488351232
theorem weights_all {H : Type} {P : Program} {e : TypeId} : ∀ {ds : List (DataW H)} {d : DataW H}, d ∈ ds -> ∀ n ∈ d.weights P e, n ∈ DataW.weightsAll P e ds
  | x :: r, d, hd, n, hn => by
    unfold DataW.weightsAll
    rw [List.mem_append]
    rcases List.mem_cons.1 hd with rfl | hd
    · exact .inl hn
    · exact .inr (weights_all hd n hn)
end Go.Abs
namespace Go.Proofs.Ythiccnmplgdheaa.T
open Go Go.Abs Go.Proofs
end Go.Proofs.Ythiccnmplgdheaa.T
