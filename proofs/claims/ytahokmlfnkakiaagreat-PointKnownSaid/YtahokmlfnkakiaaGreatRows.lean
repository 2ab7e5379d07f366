/-
  No cell of these rows narrows 'for every input' (looked for: loops, veiled, ifaces, maps, wideKeys, modest, calm, conditions, laid).
  DERIVED. THE GIVEN ROWS OF THIS SEAT. 4 by the template 'for every input the law returns true; each argument reads behind the call as it read before'; 0 by the template 'total and deterministic' (their statements: YtahokmlfnkakiaaGreatTotals.lean).
  GIVEN WITH THE SEED: the statements are not yours to turn. If you find one false, say at which input.
  Laid BY PROGRAM, IN A SANDBOX (cutbox-rows.mjs): the forced cells as the released guide's own fill.sh prints them over the translation c0c6ff4d9353b59e… (all of the seat's roots in one cut). By AI agents, Wed Nov 11 2026. No macro, syntax, notation, axiom, sorry.
-/
import Derived.Test.YtahokmlfnkakiaaGreatChecked
import GoSem.Claim
import GoSem.ClaimJoined
import GoSem.ClaimMapViews
import Derived.JoinedTies
import Derived.KernelRfl
namespace Go.Proofs.YtahokmlfnkakiaaGreat
/- THE CELL 'sum', in the pinned program and in every row, IS THE sha256 OF THE DUMP (.gsa) THAT YtahokmlfnkakiaaGreatProg.lean LOADS. Nothing in Lean hashes anything: it is a label: what it is worth is what the hold of that sum in a sandbox is worth. -/
noncomputable def Tryz.pinned : Pinned := { name := "ytahokmlfnkakiaagreat", sum := "c0c6ff4d9353b59e21056f6c98701c900a453c250900910e4fdc948f5087b817", checked := Tryz.checked }
namespace Rows
def none {H : Type} : Left H := { results := [], args := [] }

/-- 'argosylaw21.OutKnown': WHATEVER THE INPUT: true; the input reads as it did. -/
def outKnownSpec : ChangeSpec := { name := "outKnown", fn := fun _ => fun
  | [] => { results := [.lit (.bool true)], args := [] }
  | _ => none }
def outKnownRow : OpenClaim := { program := "ytahokmlfnkakiaagreat", sum := "c0c6ff4d9353b59e21056f6c98701c900a453c250900910e4fdc948f5087b817", func := "argosy/argosylaw21.OutKnown", spec := "outKnown", unfollowed := true, recurses := true, apart := false }
def OutKnownSaid : Prop := outKnownRow.holds Tryz.pinned (OpenSpec.ofChange outKnownSpec)

/-- ITS FALSE NEIGHBOUR: 'it returns false'. Refute it at one input. -/
def outKnownWrong : ChangeSpec := { name := "outKnown", fn := fun _ => fun
  | [] => { results := [.lit (.bool false)], args := [] }
  | _ => none }
def OutKnownWrongFalsely : Prop := outKnownRow.holds Tryz.pinned (OpenSpec.ofChange outKnownWrong)

/-- 'argosylaw22.InKnown': WHATEVER THE INPUT: true; the input reads as it did. -/
def inKnownSpec : ChangeSpec := { name := "inKnown", fn := fun _ => fun
  | [] => { results := [.lit (.bool true)], args := [] }
  | _ => none }
def inKnownRow : OpenClaim := { program := "ytahokmlfnkakiaagreat", sum := "c0c6ff4d9353b59e21056f6c98701c900a453c250900910e4fdc948f5087b817", func := "argosy/argosylaw22.InKnown", spec := "inKnown", unfollowed := true, recurses := true, apart := false }
def InKnownSaid : Prop := inKnownRow.holds Tryz.pinned (OpenSpec.ofChange inKnownSpec)

/-- ITS FALSE NEIGHBOUR: 'it returns false'. Refute it at one input. -/
def inKnownWrong : ChangeSpec := { name := "inKnown", fn := fun _ => fun
  | [] => { results := [.lit (.bool false)], args := [] }
  | _ => none }
def InKnownWrongFalsely : Prop := inKnownRow.holds Tryz.pinned (OpenSpec.ofChange inKnownWrong)

/-- 'argosylaw23.PointKnown': WHATEVER THE INPUT: true; the input reads as it did. -/
def pointKnownSpec : ChangeSpec := { name := "pointKnown", fn := fun _ => fun
  | [] => { results := [.lit (.bool true)], args := [] }
  | _ => none }
def pointKnownRow : OpenClaim := { program := "ytahokmlfnkakiaagreat", sum := "c0c6ff4d9353b59e21056f6c98701c900a453c250900910e4fdc948f5087b817", func := "argosy/argosylaw23.PointKnown", spec := "pointKnown", unfollowed := true, recurses := true, apart := false }
def PointKnownSaid : Prop := pointKnownRow.holds Tryz.pinned (OpenSpec.ofChange pointKnownSpec)

/-- ITS FALSE NEIGHBOUR: 'it returns false'. Refute it at one input. -/
def pointKnownWrong : ChangeSpec := { name := "pointKnown", fn := fun _ => fun
  | [] => { results := [.lit (.bool false)], args := [] }
  | _ => none }
def PointKnownWrongFalsely : Prop := pointKnownRow.holds Tryz.pinned (OpenSpec.ofChange pointKnownWrong)

/-- 'argosylaw25.WorldKnown': WHATEVER THE INPUT: true; the input reads as it did. -/
def worldKnownSpec : ChangeSpec := { name := "worldKnown", fn := fun _ => fun
  | [] => { results := [.lit (.bool true)], args := [] }
  | _ => none }
def worldKnownRow : OpenClaim := { program := "ytahokmlfnkakiaagreat", sum := "c0c6ff4d9353b59e21056f6c98701c900a453c250900910e4fdc948f5087b817", func := "argosy/argosylaw25.WorldKnown", spec := "worldKnown", unfollowed := true, recurses := true, apart := false }
def WorldKnownSaid : Prop := worldKnownRow.holds Tryz.pinned (OpenSpec.ofChange worldKnownSpec)

/-- ITS FALSE NEIGHBOUR: 'it returns false'. Refute it at one input. -/
def worldKnownWrong : ChangeSpec := { name := "worldKnown", fn := fun _ => fun
  | [] => { results := [.lit (.bool false)], args := [] }
  | _ => none }
def WorldKnownWrongFalsely : Prop := worldKnownRow.holds Tryz.pinned (OpenSpec.ofChange worldKnownWrong)

/- THE SECOND FORM. 'bulk': how many values and letters a reading holds, each counted each time it is reached (what is shared counts as often as it is met; a slice's spare places count too). A statement '..UptoSaid' is the law's where the arguments, and the package variables that the reading takes, are together of bulk at most 1048576: NARROWER than '..Said'. Prove '..Said' where nothing that the law and all that it calls make is longer than what came in: it says more and counts as full. Else prove '..UptoSaid'. A law counts once. -/
mutual
def uptoBulk {H : Type} : DataW H → Nat
  | .lit (.string bytes) => bytes.length + 1
  | .lit _ => 1
  | .nil => 1
  | .ptr d => uptoBulk d + 1
  | .slice elems spare => uptoBulkAll elems + uptoBulkAll spare + 1
  | .agg parts => uptoBulkAll parts + 1
  | .iface _ d => uptoBulk d + 1
  | .map entries => uptoBulkEntries entries + 1
  | .held _ => 1
def uptoBulkAll {H : Type} : List (DataW H) → Nat
  | [] => 0
  | d :: r => uptoBulk d + uptoBulkAll r
def uptoBulkEntries {H : Type} : List (Lit × DataW H) → Nat
  | [] => 0
  | x :: r => uptoBulkEntry x + uptoBulkEntries r
def uptoBulkEntry {H : Type} : Lit × DataW H → Nat
  | (.string bytes, d) => bytes.length + uptoBulk d + 1
  | (_, d) => uptoBulk d + 1
 end
def uptoSmall : (H : Type) → List (DataW H) → Bool := fun _ ds => decide (uptoBulkAll ds ≤ 1048576)
def OpenSpec.upto (s : _root_.Go.ChangeSpec) : _root_.Go.OpenSpec := { _root_.Go.OpenSpec.ofChange s with cond := some uptoSmall }

/-- 'argosylaw21.OutKnown', WHERE WHAT IT READS IS OF BULK AT MOST 1048576: true; the input reads as it did. -/
def outKnownUptoRow : OpenClaim := { program := "ytahokmlfnkakiaagreat", sum := "c0c6ff4d9353b59e21056f6c98701c900a453c250900910e4fdc948f5087b817", func := "argosy/argosylaw21.OutKnown", spec := "outKnown", unfollowed := true, recurses := true, apart := false, narrowed := true }
def OutKnownUptoSaid : Prop := outKnownUptoRow.holds Tryz.pinned (OpenSpec.upto outKnownSpec)

/-- 'argosylaw22.InKnown', WHERE WHAT IT READS IS OF BULK AT MOST 1048576: true; the input reads as it did. -/
def inKnownUptoRow : OpenClaim := { program := "ytahokmlfnkakiaagreat", sum := "c0c6ff4d9353b59e21056f6c98701c900a453c250900910e4fdc948f5087b817", func := "argosy/argosylaw22.InKnown", spec := "inKnown", unfollowed := true, recurses := true, apart := false, narrowed := true }
def InKnownUptoSaid : Prop := inKnownUptoRow.holds Tryz.pinned (OpenSpec.upto inKnownSpec)

/-- 'argosylaw23.PointKnown', WHERE WHAT IT READS IS OF BULK AT MOST 1048576: true; the input reads as it did. -/
def pointKnownUptoRow : OpenClaim := { program := "ytahokmlfnkakiaagreat", sum := "c0c6ff4d9353b59e21056f6c98701c900a453c250900910e4fdc948f5087b817", func := "argosy/argosylaw23.PointKnown", spec := "pointKnown", unfollowed := true, recurses := true, apart := false, narrowed := true }
def PointKnownUptoSaid : Prop := pointKnownUptoRow.holds Tryz.pinned (OpenSpec.upto pointKnownSpec)

/-- 'argosylaw25.WorldKnown', WHERE WHAT IT READS IS OF BULK AT MOST 1048576: true; the input reads as it did. -/
def worldKnownUptoRow : OpenClaim := { program := "ytahokmlfnkakiaagreat", sum := "c0c6ff4d9353b59e21056f6c98701c900a453c250900910e4fdc948f5087b817", func := "argosy/argosylaw25.WorldKnown", spec := "worldKnown", unfollowed := true, recurses := true, apart := false, narrowed := true }
def WorldKnownUptoSaid : Prop := worldKnownUptoRow.holds Tryz.pinned (OpenSpec.upto worldKnownSpec)

end Rows
end Go.Proofs.YtahokmlfnkakiaaGreat
