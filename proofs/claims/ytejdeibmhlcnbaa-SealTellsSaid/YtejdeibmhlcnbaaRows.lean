/-
  No cell of these rows narrows 'for every input' (looked for: loops, veiled, ifaces, maps, wideKeys, modest, calm, conditions, laid).
  DERIVED. THE GIVEN ROWS OF THIS SEAT. 15 by the template 'for every input the law returns true; each argument reads behind the call as it read before'; 0 by the template 'total and deterministic' (their statements: YtejdeibmhlcnbaaTotals.lean).
  GIVEN WITH THE SEED: the statements are not yours to turn. If you find one false, say at which input.
  Laid BY PROGRAM, IN A SANDBOX (cutbox-rows.mjs): the forced cells as the released guide's own fill.sh prints them over the translation 7d2686b19e8277b3… (all of the seat's roots in one cut). By AI agents, Wed Nov 11 2026. No macro, syntax, notation, axiom, sorry.
-/
import Derived.Test.YtejdeibmhlcnbaaChecked
import GoSem.Claim
import GoSem.ClaimJoined
import GoSem.ClaimMapViews
import Derived.JoinedTies
import Derived.KernelRfl
namespace Go.Proofs.Ytejdeibmhlcnbaa
/- THE CELL 'sum', in the pinned program and in every row, IS THE sha256 OF THE DUMP (.gsa) THAT YtejdeibmhlcnbaaProg.lean LOADS. Nothing in Lean hashes anything: it is a label: what it is worth is what the hold of that sum in a sandbox is worth. -/
noncomputable def Try.pinned : Pinned := { name := "ytejdeibmhlcnbaa", sum := "7d2686b19e8277b3dc7b0c8ee5e61459eb77f2dcd805b4bf141ea9a6ce2474c8", checked := Try.checked }
namespace Rows
def none {H : Type} : Left H := { results := [], args := [] }

/-- 'argosylaw2.PnumBack': WHATEVER THE INPUT: true; the input reads as it did. -/
def pnumBackSpec : ChangeSpec := { name := "pnumBack", fn := fun _ => fun
  | [d1, d2, d3, d4, d5] => { results := [.lit (.bool true)], args := [d1, d2, d3, d4, d5] }
  | _ => none }
def pnumBackRow : OpenClaim := { program := "ytejdeibmhlcnbaa", sum := "7d2686b19e8277b3dc7b0c8ee5e61459eb77f2dcd805b4bf141ea9a6ce2474c8", func := "argosy/argosylaw2.PnumBack", spec := "pnumBack", apart := false }
def PnumBackSaid : Prop := pnumBackRow.holds Try.pinned (OpenSpec.ofChange pnumBackSpec)

/-- ITS FALSE NEIGHBOUR: 'it returns false'. Refute it at one input. -/
def pnumBackWrong : ChangeSpec := { name := "pnumBack", fn := fun _ => fun
  | [d1, d2, d3, d4, d5] => { results := [.lit (.bool false)], args := [d1, d2, d3, d4, d5] }
  | _ => none }
def PnumBackWrongFalsely : Prop := pnumBackRow.holds Try.pinned (OpenSpec.ofChange pnumBackWrong)

/-- 'argosylaw2.PnumMonotone': WHATEVER THE INPUT: true; the input reads as it did. -/
def pnumMonotoneSpec : ChangeSpec := { name := "pnumMonotone", fn := fun _ => fun
  | [d1, d2, d3, d4, d5, d6] => { results := [.lit (.bool true)], args := [d1, d2, d3, d4, d5, d6] }
  | _ => none }
def pnumMonotoneRow : OpenClaim := { program := "ytejdeibmhlcnbaa", sum := "7d2686b19e8277b3dc7b0c8ee5e61459eb77f2dcd805b4bf141ea9a6ce2474c8", func := "argosy/argosylaw2.PnumMonotone", spec := "pnumMonotone", apart := false }
def PnumMonotoneSaid : Prop := pnumMonotoneRow.holds Try.pinned (OpenSpec.ofChange pnumMonotoneSpec)

/-- ITS FALSE NEIGHBOUR: 'it returns false'. Refute it at one input. -/
def pnumMonotoneWrong : ChangeSpec := { name := "pnumMonotone", fn := fun _ => fun
  | [d1, d2, d3, d4, d5, d6] => { results := [.lit (.bool false)], args := [d1, d2, d3, d4, d5, d6] }
  | _ => none }
def PnumMonotoneWrongFalsely : Prop := pnumMonotoneRow.holds Try.pinned (OpenSpec.ofChange pnumMonotoneWrong)

/-- 'argosylaw2.PnumStays': WHATEVER THE INPUT: true; the input reads as it did. -/
def pnumStaysSpec : ChangeSpec := { name := "pnumStays", fn := fun _ => fun
  | [d1, d2, d3] => { results := [.lit (.bool true)], args := [d1, d2, d3] }
  | _ => none }
def pnumStaysRow : OpenClaim := { program := "ytejdeibmhlcnbaa", sum := "7d2686b19e8277b3dc7b0c8ee5e61459eb77f2dcd805b4bf141ea9a6ce2474c8", func := "argosy/argosylaw2.PnumStays", spec := "pnumStays", apart := false }
def PnumStaysSaid : Prop := pnumStaysRow.holds Try.pinned (OpenSpec.ofChange pnumStaysSpec)

/-- ITS FALSE NEIGHBOUR: 'it returns false'. Refute it at one input. -/
def pnumStaysWrong : ChangeSpec := { name := "pnumStays", fn := fun _ => fun
  | [d1, d2, d3] => { results := [.lit (.bool false)], args := [d1, d2, d3] }
  | _ => none }
def PnumStaysWrongFalsely : Prop := pnumStaysRow.holds Try.pinned (OpenSpec.ofChange pnumStaysWrong)

/-- 'argosylaw1.VarintShortest': WHATEVER THE INPUT: true; the input reads as it did. -/
def varintShortestSpec : ChangeSpec := { name := "varintShortest", fn := fun _ => fun
  | [d1, d2, d3] => { results := [.lit (.bool true)], args := [d1, d2, d3] }
  | _ => none }
def varintShortestRow : OpenClaim := { program := "ytejdeibmhlcnbaa", sum := "7d2686b19e8277b3dc7b0c8ee5e61459eb77f2dcd805b4bf141ea9a6ce2474c8", func := "argosy/argosylaw1.VarintShortest", spec := "varintShortest", apart := false }
def VarintShortestSaid : Prop := varintShortestRow.holds Try.pinned (OpenSpec.ofChange varintShortestSpec)

/-- ITS FALSE NEIGHBOUR: 'it returns false'. Refute it at one input. -/
def varintShortestWrong : ChangeSpec := { name := "varintShortest", fn := fun _ => fun
  | [d1, d2, d3] => { results := [.lit (.bool false)], args := [d1, d2, d3] }
  | _ => none }
def VarintShortestWrongFalsely : Prop := varintShortestRow.holds Try.pinned (OpenSpec.ofChange varintShortestWrong)

/-- 'argosylaw1.VarintLong': WHATEVER THE INPUT: true; the input reads as it did. -/
def varintLongSpec : ChangeSpec := { name := "varintLong", fn := fun _ => fun
  | [d1, d2, d3] => { results := [.lit (.bool true)], args := [d1, d2, d3] }
  | _ => none }
def varintLongRow : OpenClaim := { program := "ytejdeibmhlcnbaa", sum := "7d2686b19e8277b3dc7b0c8ee5e61459eb77f2dcd805b4bf141ea9a6ce2474c8", func := "argosy/argosylaw1.VarintLong", spec := "varintLong", apart := false }
def VarintLongSaid : Prop := varintLongRow.holds Try.pinned (OpenSpec.ofChange varintLongSpec)

/-- ITS FALSE NEIGHBOUR: 'it returns false'. Refute it at one input. -/
def varintLongWrong : ChangeSpec := { name := "varintLong", fn := fun _ => fun
  | [d1, d2, d3] => { results := [.lit (.bool false)], args := [d1, d2, d3] }
  | _ => none }
def VarintLongWrongFalsely : Prop := varintLongRow.holds Try.pinned (OpenSpec.ofChange varintLongWrong)

/-- 'argosylaw4.SealKnown': WHATEVER THE INPUT: true; the input reads as it did. -/
def sealKnownSpec : ChangeSpec := { name := "sealKnown", fn := fun _ => fun
  | [] => { results := [.lit (.bool true)], args := [] }
  | _ => none }
def sealKnownRow : OpenClaim := { program := "ytejdeibmhlcnbaa", sum := "7d2686b19e8277b3dc7b0c8ee5e61459eb77f2dcd805b4bf141ea9a6ce2474c8", func := "argosy/argosylaw4.SealKnown", spec := "sealKnown", apart := false }
def SealKnownSaid : Prop := sealKnownRow.holds Try.pinned (OpenSpec.ofChange sealKnownSpec)

/-- ITS FALSE NEIGHBOUR: 'it returns false'. Refute it at one input. -/
def sealKnownWrong : ChangeSpec := { name := "sealKnown", fn := fun _ => fun
  | [] => { results := [.lit (.bool false)], args := [] }
  | _ => none }
def SealKnownWrongFalsely : Prop := sealKnownRow.holds Try.pinned (OpenSpec.ofChange sealKnownWrong)

/-- 'argosylaw4.SealTells': WHATEVER THE INPUT: true; the input reads as it did. -/
def sealTellsSpec : ChangeSpec := { name := "sealTells", fn := fun _ => fun
  | [d1, d2, d3, d4, d5, d6, d7, d8, d9] => { results := [.lit (.bool true)], args := [d1, d2, d3, d4, d5, d6, d7, d8, d9] }
  | _ => none }
def sealTellsRow : OpenClaim := { program := "ytejdeibmhlcnbaa", sum := "7d2686b19e8277b3dc7b0c8ee5e61459eb77f2dcd805b4bf141ea9a6ce2474c8", func := "argosy/argosylaw4.SealTells", spec := "sealTells", apart := false }
def SealTellsSaid : Prop := sealTellsRow.holds Try.pinned (OpenSpec.ofChange sealTellsSpec)

/-- ITS FALSE NEIGHBOUR: 'it returns false'. Refute it at one input. -/
def sealTellsWrong : ChangeSpec := { name := "sealTells", fn := fun _ => fun
  | [d1, d2, d3, d4, d5, d6, d7, d8, d9] => { results := [.lit (.bool false)], args := [d1, d2, d3, d4, d5, d6, d7, d8, d9] }
  | _ => none }
def SealTellsWrongFalsely : Prop := sealTellsRow.holds Try.pinned (OpenSpec.ofChange sealTellsWrong)

/-- 'argosylaw4.SealBack': WHATEVER THE INPUT: true; the input reads as it did. -/
def sealBackSpec : ChangeSpec := { name := "sealBack", fn := fun _ => fun
  | [d1, d2, d3, d4, d5, d6, d7, d8] => { results := [.lit (.bool true)], args := [d1, d2, d3, d4, d5, d6, d7, d8] }
  | _ => none }
def sealBackRow : OpenClaim := { program := "ytejdeibmhlcnbaa", sum := "7d2686b19e8277b3dc7b0c8ee5e61459eb77f2dcd805b4bf141ea9a6ce2474c8", func := "argosy/argosylaw4.SealBack", spec := "sealBack", apart := false }
def SealBackSaid : Prop := sealBackRow.holds Try.pinned (OpenSpec.ofChange sealBackSpec)

/-- ITS FALSE NEIGHBOUR: 'it returns false'. Refute it at one input. -/
def sealBackWrong : ChangeSpec := { name := "sealBack", fn := fun _ => fun
  | [d1, d2, d3, d4, d5, d6, d7, d8] => { results := [.lit (.bool false)], args := [d1, d2, d3, d4, d5, d6, d7, d8] }
  | _ => none }
def SealBackWrongFalsely : Prop := sealBackRow.holds Try.pinned (OpenSpec.ofChange sealBackWrong)

/-- 'argosylaw4.SealParts': WHATEVER THE INPUT: true; the input reads as it did. -/
def sealPartsSpec : ChangeSpec := { name := "sealParts", fn := fun _ => fun
  | [d1, d2, d3, d4, d5, d6, d7] => { results := [.lit (.bool true)], args := [d1, d2, d3, d4, d5, d6, d7] }
  | _ => none }
def sealPartsRow : OpenClaim := { program := "ytejdeibmhlcnbaa", sum := "7d2686b19e8277b3dc7b0c8ee5e61459eb77f2dcd805b4bf141ea9a6ce2474c8", func := "argosy/argosylaw4.SealParts", spec := "sealParts", apart := false }
def SealPartsSaid : Prop := sealPartsRow.holds Try.pinned (OpenSpec.ofChange sealPartsSpec)

/-- ITS FALSE NEIGHBOUR: 'it returns false'. Refute it at one input. -/
def sealPartsWrong : ChangeSpec := { name := "sealParts", fn := fun _ => fun
  | [d1, d2, d3, d4, d5, d6, d7] => { results := [.lit (.bool false)], args := [d1, d2, d3, d4, d5, d6, d7] }
  | _ => none }
def SealPartsWrongFalsely : Prop := sealPartsRow.holds Try.pinned (OpenSpec.ofChange sealPartsWrong)

/-- 'argosylaw4.SealApart': WHATEVER THE INPUT: true; the input reads as it did. -/
def sealApartSpec : ChangeSpec := { name := "sealApart", fn := fun _ => fun
  | [d1, d2, d3, d4, d5, d6] => { results := [.lit (.bool true)], args := [d1, d2, d3, d4, d5, d6] }
  | _ => none }
def sealApartRow : OpenClaim := { program := "ytejdeibmhlcnbaa", sum := "7d2686b19e8277b3dc7b0c8ee5e61459eb77f2dcd805b4bf141ea9a6ce2474c8", func := "argosy/argosylaw4.SealApart", spec := "sealApart", apart := false }
def SealApartSaid : Prop := sealApartRow.holds Try.pinned (OpenSpec.ofChange sealApartSpec)

/-- ITS FALSE NEIGHBOUR: 'it returns false'. Refute it at one input. -/
def sealApartWrong : ChangeSpec := { name := "sealApart", fn := fun _ => fun
  | [d1, d2, d3, d4, d5, d6] => { results := [.lit (.bool false)], args := [d1, d2, d3, d4, d5, d6] }
  | _ => none }
def SealApartWrongFalsely : Prop := sealApartRow.holds Try.pinned (OpenSpec.ofChange sealApartWrong)

/-- 'argosylaw4.SealWays': WHATEVER THE INPUT: true; the input reads as it did. -/
def sealWaysSpec : ChangeSpec := { name := "sealWays", fn := fun _ => fun
  | [d1, d2, d3, d4, d5] => { results := [.lit (.bool true)], args := [d1, d2, d3, d4, d5] }
  | _ => none }
def sealWaysRow : OpenClaim := { program := "ytejdeibmhlcnbaa", sum := "7d2686b19e8277b3dc7b0c8ee5e61459eb77f2dcd805b4bf141ea9a6ce2474c8", func := "argosy/argosylaw4.SealWays", spec := "sealWays", apart := false }
def SealWaysSaid : Prop := sealWaysRow.holds Try.pinned (OpenSpec.ofChange sealWaysSpec)

/-- ITS FALSE NEIGHBOUR: 'it returns false'. Refute it at one input. -/
def sealWaysWrong : ChangeSpec := { name := "sealWays", fn := fun _ => fun
  | [d1, d2, d3, d4, d5] => { results := [.lit (.bool false)], args := [d1, d2, d3, d4, d5] }
  | _ => none }
def SealWaysWrongFalsely : Prop := sealWaysRow.holds Try.pinned (OpenSpec.ofChange sealWaysWrong)

/-- 'argosylaw1.VarintKnown': WHATEVER THE INPUT: true; the input reads as it did. -/
def varintKnownSpec : ChangeSpec := { name := "varintKnown", fn := fun _ => fun
  | [] => { results := [.lit (.bool true)], args := [] }
  | _ => none }
def varintKnownRow : OpenClaim := { program := "ytejdeibmhlcnbaa", sum := "7d2686b19e8277b3dc7b0c8ee5e61459eb77f2dcd805b4bf141ea9a6ce2474c8", func := "argosy/argosylaw1.VarintKnown", spec := "varintKnown", apart := false }
def VarintKnownSaid : Prop := varintKnownRow.holds Try.pinned (OpenSpec.ofChange varintKnownSpec)

/-- ITS FALSE NEIGHBOUR: 'it returns false'. Refute it at one input. -/
def varintKnownWrong : ChangeSpec := { name := "varintKnown", fn := fun _ => fun
  | [] => { results := [.lit (.bool false)], args := [] }
  | _ => none }
def VarintKnownWrongFalsely : Prop := varintKnownRow.holds Try.pinned (OpenSpec.ofChange varintKnownWrong)

/-- 'argosylaw1.VarintTells': WHATEVER THE INPUT: true; the input reads as it did. -/
def varintTellsSpec : ChangeSpec := { name := "varintTells", fn := fun _ => fun
  | [d1, d2, d3, d4, d5, d6, d7] => { results := [.lit (.bool true)], args := [d1, d2, d3, d4, d5, d6, d7] }
  | _ => none }
def varintTellsRow : OpenClaim := { program := "ytejdeibmhlcnbaa", sum := "7d2686b19e8277b3dc7b0c8ee5e61459eb77f2dcd805b4bf141ea9a6ce2474c8", func := "argosy/argosylaw1.VarintTells", spec := "varintTells", apart := false }
def VarintTellsSaid : Prop := varintTellsRow.holds Try.pinned (OpenSpec.ofChange varintTellsSpec)

/-- ITS FALSE NEIGHBOUR: 'it returns false'. Refute it at one input. -/
def varintTellsWrong : ChangeSpec := { name := "varintTells", fn := fun _ => fun
  | [d1, d2, d3, d4, d5, d6, d7] => { results := [.lit (.bool false)], args := [d1, d2, d3, d4, d5, d6, d7] }
  | _ => none }
def VarintTellsWrongFalsely : Prop := varintTellsRow.holds Try.pinned (OpenSpec.ofChange varintTellsWrong)

/-- 'argosylaw1.VarintBack': WHATEVER THE INPUT: true; the input reads as it did. -/
def varintBackSpec : ChangeSpec := { name := "varintBack", fn := fun _ => fun
  | [d1, d2, d3, d4] => { results := [.lit (.bool true)], args := [d1, d2, d3, d4] }
  | _ => none }
def varintBackRow : OpenClaim := { program := "ytejdeibmhlcnbaa", sum := "7d2686b19e8277b3dc7b0c8ee5e61459eb77f2dcd805b4bf141ea9a6ce2474c8", func := "argosy/argosylaw1.VarintBack", spec := "varintBack", apart := false }
def VarintBackSaid : Prop := varintBackRow.holds Try.pinned (OpenSpec.ofChange varintBackSpec)

/-- ITS FALSE NEIGHBOUR: 'it returns false'. Refute it at one input. -/
def varintBackWrong : ChangeSpec := { name := "varintBack", fn := fun _ => fun
  | [d1, d2, d3, d4] => { results := [.lit (.bool false)], args := [d1, d2, d3, d4] }
  | _ => none }
def VarintBackWrongFalsely : Prop := varintBackRow.holds Try.pinned (OpenSpec.ofChange varintBackWrong)

/-- 'argosylaw1.VarintNone': WHATEVER THE INPUT: true; the input reads as it did. -/
def varintNoneSpec : ChangeSpec := { name := "varintNone", fn := fun _ => fun
  | [d1, d2, d3, d4, d5] => { results := [.lit (.bool true)], args := [d1, d2, d3, d4, d5] }
  | _ => none }
def varintNoneRow : OpenClaim := { program := "ytejdeibmhlcnbaa", sum := "7d2686b19e8277b3dc7b0c8ee5e61459eb77f2dcd805b4bf141ea9a6ce2474c8", func := "argosy/argosylaw1.VarintNone", spec := "varintNone", apart := false }
def VarintNoneSaid : Prop := varintNoneRow.holds Try.pinned (OpenSpec.ofChange varintNoneSpec)

/-- ITS FALSE NEIGHBOUR: 'it returns false'. Refute it at one input. -/
def varintNoneWrong : ChangeSpec := { name := "varintNone", fn := fun _ => fun
  | [d1, d2, d3, d4, d5] => { results := [.lit (.bool false)], args := [d1, d2, d3, d4, d5] }
  | _ => none }
def VarintNoneWrongFalsely : Prop := varintNoneRow.holds Try.pinned (OpenSpec.ofChange varintNoneWrong)

/- THE SECOND FORM. 'bulk': how many values and letters a reading holds, each counted each time it is reached (what is shared counts as often as it is met; a slice's spare places count too). A statement '..UptoSaid' is the law's where the arguments, and the package variables that the reading takes, are together of bulk at most 1048576: NARROWER than '..Said'. Prove '..Said' where nothing that the law and all that it calls make is longer than what came in: it says more and counts as full. Else prove '..UptoSaid'. A law counts once. -/
mutual
def uptoBulk {H : Type} : DataW H → Nat
  | .lit (.string bytes) => bytes.length + 1
  | .lit _ => 1
  | .nil => 1
  | .ptr d => uptoBulk d + 1
  | .slice elems spare => uptoBulkAll elems + uptoBulkAll spare + 1
  | .agg parts => uptoBulkAll parts + 1
  | .iface _ d => uptoBulk d + 1
  | .map entries => uptoBulkEntries entries + 1
  | .held _ => 1
def uptoBulkAll {H : Type} : List (DataW H) → Nat
  | [] => 0
  | d :: r => uptoBulk d + uptoBulkAll r
def uptoBulkEntries {H : Type} : List (Lit × DataW H) → Nat
  | [] => 0
  | x :: r => uptoBulkEntry x + uptoBulkEntries r
def uptoBulkEntry {H : Type} : Lit × DataW H → Nat
  | (.string bytes, d) => bytes.length + uptoBulk d + 1
  | (_, d) => uptoBulk d + 1
 end
def uptoSmall : (H : Type) → List (DataW H) → Bool := fun _ ds => decide (uptoBulkAll ds ≤ 1048576)
def OpenSpec.upto (s : _root_.Go.ChangeSpec) : _root_.Go.OpenSpec := { _root_.Go.OpenSpec.ofChange s with cond := some uptoSmall }

/-- 'argosylaw2.PnumBack', WHERE WHAT IT READS IS OF BULK AT MOST 1048576: true; the input reads as it did. -/
def pnumBackUptoRow : OpenClaim := { program := "ytejdeibmhlcnbaa", sum := "7d2686b19e8277b3dc7b0c8ee5e61459eb77f2dcd805b4bf141ea9a6ce2474c8", func := "argosy/argosylaw2.PnumBack", spec := "pnumBack", apart := false, narrowed := true }
def PnumBackUptoSaid : Prop := pnumBackUptoRow.holds Try.pinned (OpenSpec.upto pnumBackSpec)

/-- 'argosylaw2.PnumMonotone', WHERE WHAT IT READS IS OF BULK AT MOST 1048576: true; the input reads as it did. -/
def pnumMonotoneUptoRow : OpenClaim := { program := "ytejdeibmhlcnbaa", sum := "7d2686b19e8277b3dc7b0c8ee5e61459eb77f2dcd805b4bf141ea9a6ce2474c8", func := "argosy/argosylaw2.PnumMonotone", spec := "pnumMonotone", apart := false, narrowed := true }
def PnumMonotoneUptoSaid : Prop := pnumMonotoneUptoRow.holds Try.pinned (OpenSpec.upto pnumMonotoneSpec)

/-- 'argosylaw2.PnumStays', WHERE WHAT IT READS IS OF BULK AT MOST 1048576: true; the input reads as it did. -/
def pnumStaysUptoRow : OpenClaim := { program := "ytejdeibmhlcnbaa", sum := "7d2686b19e8277b3dc7b0c8ee5e61459eb77f2dcd805b4bf141ea9a6ce2474c8", func := "argosy/argosylaw2.PnumStays", spec := "pnumStays", apart := false, narrowed := true }
def PnumStaysUptoSaid : Prop := pnumStaysUptoRow.holds Try.pinned (OpenSpec.upto pnumStaysSpec)

/-- 'argosylaw1.VarintShortest', WHERE WHAT IT READS IS OF BULK AT MOST 1048576: true; the input reads as it did. -/
def varintShortestUptoRow : OpenClaim := { program := "ytejdeibmhlcnbaa", sum := "7d2686b19e8277b3dc7b0c8ee5e61459eb77f2dcd805b4bf141ea9a6ce2474c8", func := "argosy/argosylaw1.VarintShortest", spec := "varintShortest", apart := false, narrowed := true }
def VarintShortestUptoSaid : Prop := varintShortestUptoRow.holds Try.pinned (OpenSpec.upto varintShortestSpec)

/-- 'argosylaw1.VarintLong', WHERE WHAT IT READS IS OF BULK AT MOST 1048576: true; the input reads as it did. -/
def varintLongUptoRow : OpenClaim := { program := "ytejdeibmhlcnbaa", sum := "7d2686b19e8277b3dc7b0c8ee5e61459eb77f2dcd805b4bf141ea9a6ce2474c8", func := "argosy/argosylaw1.VarintLong", spec := "varintLong", apart := false, narrowed := true }
def VarintLongUptoSaid : Prop := varintLongUptoRow.holds Try.pinned (OpenSpec.upto varintLongSpec)

/-- 'argosylaw4.SealKnown', WHERE WHAT IT READS IS OF BULK AT MOST 1048576: true; the input reads as it did. -/
def sealKnownUptoRow : OpenClaim := { program := "ytejdeibmhlcnbaa", sum := "7d2686b19e8277b3dc7b0c8ee5e61459eb77f2dcd805b4bf141ea9a6ce2474c8", func := "argosy/argosylaw4.SealKnown", spec := "sealKnown", apart := false, narrowed := true }
def SealKnownUptoSaid : Prop := sealKnownUptoRow.holds Try.pinned (OpenSpec.upto sealKnownSpec)

/-- 'argosylaw4.SealTells', WHERE WHAT IT READS IS OF BULK AT MOST 1048576: true; the input reads as it did. -/
def sealTellsUptoRow : OpenClaim := { program := "ytejdeibmhlcnbaa", sum := "7d2686b19e8277b3dc7b0c8ee5e61459eb77f2dcd805b4bf141ea9a6ce2474c8", func := "argosy/argosylaw4.SealTells", spec := "sealTells", apart := false, narrowed := true }
def SealTellsUptoSaid : Prop := sealTellsUptoRow.holds Try.pinned (OpenSpec.upto sealTellsSpec)

/-- 'argosylaw4.SealBack', WHERE WHAT IT READS IS OF BULK AT MOST 1048576: true; the input reads as it did. -/
def sealBackUptoRow : OpenClaim := { program := "ytejdeibmhlcnbaa", sum := "7d2686b19e8277b3dc7b0c8ee5e61459eb77f2dcd805b4bf141ea9a6ce2474c8", func := "argosy/argosylaw4.SealBack", spec := "sealBack", apart := false, narrowed := true }
def SealBackUptoSaid : Prop := sealBackUptoRow.holds Try.pinned (OpenSpec.upto sealBackSpec)

/-- 'argosylaw4.SealParts', WHERE WHAT IT READS IS OF BULK AT MOST 1048576: true; the input reads as it did. -/
def sealPartsUptoRow : OpenClaim := { program := "ytejdeibmhlcnbaa", sum := "7d2686b19e8277b3dc7b0c8ee5e61459eb77f2dcd805b4bf141ea9a6ce2474c8", func := "argosy/argosylaw4.SealParts", spec := "sealParts", apart := false, narrowed := true }
def SealPartsUptoSaid : Prop := sealPartsUptoRow.holds Try.pinned (OpenSpec.upto sealPartsSpec)

/-- 'argosylaw4.SealApart', WHERE WHAT IT READS IS OF BULK AT MOST 1048576: true; the input reads as it did. -/
def sealApartUptoRow : OpenClaim := { program := "ytejdeibmhlcnbaa", sum := "7d2686b19e8277b3dc7b0c8ee5e61459eb77f2dcd805b4bf141ea9a6ce2474c8", func := "argosy/argosylaw4.SealApart", spec := "sealApart", apart := false, narrowed := true }
def SealApartUptoSaid : Prop := sealApartUptoRow.holds Try.pinned (OpenSpec.upto sealApartSpec)

/-- 'argosylaw4.SealWays', WHERE WHAT IT READS IS OF BULK AT MOST 1048576: true; the input reads as it did. -/
def sealWaysUptoRow : OpenClaim := { program := "ytejdeibmhlcnbaa", sum := "7d2686b19e8277b3dc7b0c8ee5e61459eb77f2dcd805b4bf141ea9a6ce2474c8", func := "argosy/argosylaw4.SealWays", spec := "sealWays", apart := false, narrowed := true }
def SealWaysUptoSaid : Prop := sealWaysUptoRow.holds Try.pinned (OpenSpec.upto sealWaysSpec)

/-- 'argosylaw1.VarintKnown', WHERE WHAT IT READS IS OF BULK AT MOST 1048576: true; the input reads as it did. -/
def varintKnownUptoRow : OpenClaim := { program := "ytejdeibmhlcnbaa", sum := "7d2686b19e8277b3dc7b0c8ee5e61459eb77f2dcd805b4bf141ea9a6ce2474c8", func := "argosy/argosylaw1.VarintKnown", spec := "varintKnown", apart := false, narrowed := true }
def VarintKnownUptoSaid : Prop := varintKnownUptoRow.holds Try.pinned (OpenSpec.upto varintKnownSpec)

/-- 'argosylaw1.VarintTells', WHERE WHAT IT READS IS OF BULK AT MOST 1048576: true; the input reads as it did. -/
def varintTellsUptoRow : OpenClaim := { program := "ytejdeibmhlcnbaa", sum := "7d2686b19e8277b3dc7b0c8ee5e61459eb77f2dcd805b4bf141ea9a6ce2474c8", func := "argosy/argosylaw1.VarintTells", spec := "varintTells", apart := false, narrowed := true }
def VarintTellsUptoSaid : Prop := varintTellsUptoRow.holds Try.pinned (OpenSpec.upto varintTellsSpec)

/-- 'argosylaw1.VarintBack', WHERE WHAT IT READS IS OF BULK AT MOST 1048576: true; the input reads as it did. -/
def varintBackUptoRow : OpenClaim := { program := "ytejdeibmhlcnbaa", sum := "7d2686b19e8277b3dc7b0c8ee5e61459eb77f2dcd805b4bf141ea9a6ce2474c8", func := "argosy/argosylaw1.VarintBack", spec := "varintBack", apart := false, narrowed := true }
def VarintBackUptoSaid : Prop := varintBackUptoRow.holds Try.pinned (OpenSpec.upto varintBackSpec)

/-- 'argosylaw1.VarintNone', WHERE WHAT IT READS IS OF BULK AT MOST 1048576: true; the input reads as it did. -/
def varintNoneUptoRow : OpenClaim := { program := "ytejdeibmhlcnbaa", sum := "7d2686b19e8277b3dc7b0c8ee5e61459eb77f2dcd805b4bf141ea9a6ce2474c8", func := "argosy/argosylaw1.VarintNone", spec := "varintNone", apart := false, narrowed := true }
def VarintNoneUptoSaid : Prop := varintNoneUptoRow.holds Try.pinned (OpenSpec.upto varintNoneSpec)

end Rows
end Go.Proofs.Ytejdeibmhlcnbaa
