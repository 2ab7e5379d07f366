/-
  No cell of these rows narrows 'for every input' (looked for: loops, veiled, ifaces, maps, wideKeys, modest, calm, conditions, laid).
  DERIVED. THE GIVEN ROWS OF THIS SEAT. 19 by the template 'for every input the law returns true; each argument reads behind the call as it read before'; 0 by the template 'total and deterministic' (their statements: YthiccnmplgdheaaTotals.lean).
  GIVEN WITH THE SEED: the statements are not yours to turn. If you find one false, say at which input.
  Laid BY PROGRAM, IN A SANDBOX (cutbox-rows.mjs): the forced cells as the released guide's own fill.sh prints them over the translation c8a42ef1d41c7898… (all of the seat's roots in one cut). By AI agents, Wed Nov 11 2026. No macro, syntax, notation, axiom, sorry.
-/
import Derived.Test.YthiccnmplgdheaaChecked
import GoSem.Claim
import GoSem.ClaimJoined
import GoSem.ClaimMapViews
import Derived.JoinedTies
import Derived.KernelRfl
namespace Go.Proofs.Ythiccnmplgdheaa
/- THE CELL 'sum', in the pinned program and in every row, IS THE sha256 OF THE DUMP (.gsa) THAT YthiccnmplgdheaaProg.lean LOADS. Nothing in Lean hashes anything: it is a label: what it is worth is what the hold of that sum in a sandbox is worth. -/
noncomputable def Try.pinned : Pinned := { name := "ythiccnmplgdheaa", sum := "c8a42ef1d41c78982d2075e6f3533732fd2dadb883dfc8512259a32f4cd71f75", checked := Try.checked }
namespace Rows
def none {H : Type} : Left H := { results := [], args := [] }

/-- 'argosylaw7.AcksOnce': WHATEVER THE INPUT: true; the input reads as it did. -/
def acksOnceSpec : ChangeSpec := { name := "acksOnce", fn := fun _ => fun
  | [d1, d2] => { results := [.lit (.bool true)], args := [d1, d2] }
  | _ => none }
def acksOnceRow : OpenClaim := { program := "ythiccnmplgdheaa", sum := "c8a42ef1d41c78982d2075e6f3533732fd2dadb883dfc8512259a32f4cd71f75", func := "argosy/argosylaw7.AcksOnce", spec := "acksOnce", unfollowed := true, recurses := true, apart := false }
def AcksOnceSaid : Prop := acksOnceRow.holds Try.pinned (OpenSpec.ofChange acksOnceSpec)

/-- ITS FALSE NEIGHBOUR: 'it returns false'. Refute it at one input. -/
def acksOnceWrong : ChangeSpec := { name := "acksOnce", fn := fun _ => fun
  | [d1, d2] => { results := [.lit (.bool false)], args := [d1, d2] }
  | _ => none }
def AcksOnceWrongFalsely : Prop := acksOnceRow.holds Try.pinned (OpenSpec.ofChange acksOnceWrong)

/-- 'argosylaw7.AcksKnown': WHATEVER THE INPUT: true; the input reads as it did. -/
def acksKnownSpec : ChangeSpec := { name := "acksKnown", fn := fun _ => fun
  | [] => { results := [.lit (.bool true)], args := [] }
  | _ => none }
def acksKnownRow : OpenClaim := { program := "ythiccnmplgdheaa", sum := "c8a42ef1d41c78982d2075e6f3533732fd2dadb883dfc8512259a32f4cd71f75", func := "argosy/argosylaw7.AcksKnown", spec := "acksKnown", unfollowed := true, recurses := true, apart := false }
def AcksKnownSaid : Prop := acksKnownRow.holds Try.pinned (OpenSpec.ofChange acksKnownSpec)

/-- ITS FALSE NEIGHBOUR: 'it returns false'. Refute it at one input. -/
def acksKnownWrong : ChangeSpec := { name := "acksKnown", fn := fun _ => fun
  | [] => { results := [.lit (.bool false)], args := [] }
  | _ => none }
def AcksKnownWrongFalsely : Prop := acksKnownRow.holds Try.pinned (OpenSpec.ofChange acksKnownWrong)

/-- 'argosylaw18.HeadSpread': WHATEVER THE INPUT: true; the input reads as it did. -/
def headSpreadSpec : ChangeSpec := { name := "headSpread", fn := fun _ => fun
  | [d1, d2, d3, d4, d5, d6] => { results := [.lit (.bool true)], args := [d1, d2, d3, d4, d5, d6] }
  | _ => none }
def headSpreadRow : OpenClaim := { program := "ythiccnmplgdheaa", sum := "c8a42ef1d41c78982d2075e6f3533732fd2dadb883dfc8512259a32f4cd71f75", func := "argosy/argosylaw18.HeadSpread", spec := "headSpread", apart := false }
def HeadSpreadSaid : Prop := headSpreadRow.holds Try.pinned (OpenSpec.ofChange headSpreadSpec)

/-- ITS FALSE NEIGHBOUR: 'it returns false'. Refute it at one input. -/
def headSpreadWrong : ChangeSpec := { name := "headSpread", fn := fun _ => fun
  | [d1, d2, d3, d4, d5, d6] => { results := [.lit (.bool false)], args := [d1, d2, d3, d4, d5, d6] }
  | _ => none }
def HeadSpreadWrongFalsely : Prop := headSpreadRow.holds Try.pinned (OpenSpec.ofChange headSpreadWrong)

/-- 'argosylaw18.HeadKnown': WHATEVER THE INPUT: true; the input reads as it did. -/
def headKnownSpec : ChangeSpec := { name := "headKnown", fn := fun _ => fun
  | [] => { results := [.lit (.bool true)], args := [] }
  | _ => none }
def headKnownRow : OpenClaim := { program := "ythiccnmplgdheaa", sum := "c8a42ef1d41c78982d2075e6f3533732fd2dadb883dfc8512259a32f4cd71f75", func := "argosy/argosylaw18.HeadKnown", spec := "headKnown", apart := false }
def HeadKnownSaid : Prop := headKnownRow.holds Try.pinned (OpenSpec.ofChange headKnownSpec)

/-- ITS FALSE NEIGHBOUR: 'it returns false'. Refute it at one input. -/
def headKnownWrong : ChangeSpec := { name := "headKnown", fn := fun _ => fun
  | [] => { results := [.lit (.bool false)], args := [] }
  | _ => none }
def HeadKnownWrongFalsely : Prop := headKnownRow.holds Try.pinned (OpenSpec.ofChange headKnownWrong)

/-- 'argosylaw18.HeadTells': WHATEVER THE INPUT: true; the input reads as it did. -/
def headTellsSpec : ChangeSpec := { name := "headTells", fn := fun _ => fun
  | [d1, d2, d3, d4, d5, d6, d7, d8, d9, d10, d11] => { results := [.lit (.bool true)], args := [d1, d2, d3, d4, d5, d6, d7, d8, d9, d10, d11] }
  | _ => none }
def headTellsRow : OpenClaim := { program := "ythiccnmplgdheaa", sum := "c8a42ef1d41c78982d2075e6f3533732fd2dadb883dfc8512259a32f4cd71f75", func := "argosy/argosylaw18.HeadTells", spec := "headTells", apart := false }
def HeadTellsSaid : Prop := headTellsRow.holds Try.pinned (OpenSpec.ofChange headTellsSpec)

/-- ITS FALSE NEIGHBOUR: 'it returns false'. Refute it at one input. -/
def headTellsWrong : ChangeSpec := { name := "headTells", fn := fun _ => fun
  | [d1, d2, d3, d4, d5, d6, d7, d8, d9, d10, d11] => { results := [.lit (.bool false)], args := [d1, d2, d3, d4, d5, d6, d7, d8, d9, d10, d11] }
  | _ => none }
def HeadTellsWrongFalsely : Prop := headTellsRow.holds Try.pinned (OpenSpec.ofChange headTellsWrong)

/-- 'argosylaw18.HeadWhole': WHATEVER THE INPUT: true; the input reads as it did. -/
def headWholeSpec : ChangeSpec := { name := "headWhole", fn := fun _ => fun
  | [d1, d2, d3, d4, d5] => { results := [.lit (.bool true)], args := [d1, d2, d3, d4, d5] }
  | _ => none }
def headWholeRow : OpenClaim := { program := "ythiccnmplgdheaa", sum := "c8a42ef1d41c78982d2075e6f3533732fd2dadb883dfc8512259a32f4cd71f75", func := "argosy/argosylaw18.HeadWhole", spec := "headWhole", apart := false }
def HeadWholeSaid : Prop := headWholeRow.holds Try.pinned (OpenSpec.ofChange headWholeSpec)

/-- ITS FALSE NEIGHBOUR: 'it returns false'. Refute it at one input. -/
def headWholeWrong : ChangeSpec := { name := "headWhole", fn := fun _ => fun
  | [d1, d2, d3, d4, d5] => { results := [.lit (.bool false)], args := [d1, d2, d3, d4, d5] }
  | _ => none }
def HeadWholeWrongFalsely : Prop := headWholeRow.holds Try.pinned (OpenSpec.ofChange headWholeWrong)

/-- 'argosylaw5.FrameElicits': WHATEVER THE INPUT: true; the input reads as it did. -/
def frameElicitsSpec : ChangeSpec := { name := "frameElicits", fn := fun _ => fun
  | [d1, d2] => { results := [.lit (.bool true)], args := [d1, d2] }
  | _ => none }
def frameElicitsRow : OpenClaim := { program := "ythiccnmplgdheaa", sum := "c8a42ef1d41c78982d2075e6f3533732fd2dadb883dfc8512259a32f4cd71f75", func := "argosy/argosylaw5.FrameElicits", spec := "frameElicits", unfollowed := true, recurses := true, apart := false }
def FrameElicitsSaid : Prop := frameElicitsRow.holds Try.pinned (OpenSpec.ofChange frameElicitsSpec)

/-- ITS FALSE NEIGHBOUR: 'it returns false'. Refute it at one input. -/
def frameElicitsWrong : ChangeSpec := { name := "frameElicits", fn := fun _ => fun
  | [d1, d2] => { results := [.lit (.bool false)], args := [d1, d2] }
  | _ => none }
def FrameElicitsWrongFalsely : Prop := frameElicitsRow.holds Try.pinned (OpenSpec.ofChange frameElicitsWrong)

/-- 'argosylaw5.FrameBack': WHATEVER THE INPUT: true; the input reads as it did. -/
def frameBackSpec : ChangeSpec := { name := "frameBack", fn := fun _ => fun
  | [d1, d2] => { results := [.lit (.bool true)], args := [d1, d2] }
  | _ => none }
def frameBackRow : OpenClaim := { program := "ythiccnmplgdheaa", sum := "c8a42ef1d41c78982d2075e6f3533732fd2dadb883dfc8512259a32f4cd71f75", func := "argosy/argosylaw5.FrameBack", spec := "frameBack", unfollowed := true, recurses := true, apart := false }
def FrameBackSaid : Prop := frameBackRow.holds Try.pinned (OpenSpec.ofChange frameBackSpec)

/-- ITS FALSE NEIGHBOUR: 'it returns false'. Refute it at one input. -/
def frameBackWrong : ChangeSpec := { name := "frameBack", fn := fun _ => fun
  | [d1, d2] => { results := [.lit (.bool false)], args := [d1, d2] }
  | _ => none }
def FrameBackWrongFalsely : Prop := frameBackRow.holds Try.pinned (OpenSpec.ofChange frameBackWrong)

/-- 'argosylaw5.FrameCut': WHATEVER THE INPUT: true; the input reads as it did. -/
def frameCutSpec : ChangeSpec := { name := "frameCut", fn := fun _ => fun
  | [d1, d2] => { results := [.lit (.bool true)], args := [d1, d2] }
  | _ => none }
def frameCutRow : OpenClaim := { program := "ythiccnmplgdheaa", sum := "c8a42ef1d41c78982d2075e6f3533732fd2dadb883dfc8512259a32f4cd71f75", func := "argosy/argosylaw5.FrameCut", spec := "frameCut", unfollowed := true, recurses := true, apart := false }
def FrameCutSaid : Prop := frameCutRow.holds Try.pinned (OpenSpec.ofChange frameCutSpec)

/-- ITS FALSE NEIGHBOUR: 'it returns false'. Refute it at one input. -/
def frameCutWrong : ChangeSpec := { name := "frameCut", fn := fun _ => fun
  | [d1, d2] => { results := [.lit (.bool false)], args := [d1, d2] }
  | _ => none }
def FrameCutWrongFalsely : Prop := frameCutRow.holds Try.pinned (OpenSpec.ofChange frameCutWrong)

/-- 'argosylaw7.AcksAnswer': WHATEVER THE INPUT: true; the input reads as it did. -/
def acksAnswerSpec : ChangeSpec := { name := "acksAnswer", fn := fun _ => fun
  | [d] => { results := [.lit (.bool true)], args := [d] }
  | _ => none }
def acksAnswerRow : OpenClaim := { program := "ythiccnmplgdheaa", sum := "c8a42ef1d41c78982d2075e6f3533732fd2dadb883dfc8512259a32f4cd71f75", func := "argosy/argosylaw7.AcksAnswer", spec := "acksAnswer", unfollowed := true, recurses := true, apart := false }
def AcksAnswerSaid : Prop := acksAnswerRow.holds Try.pinned (OpenSpec.ofChange acksAnswerSpec)

/-- ITS FALSE NEIGHBOUR: 'it returns false'. Refute it at one input. -/
def acksAnswerWrong : ChangeSpec := { name := "acksAnswer", fn := fun _ => fun
  | [d] => { results := [.lit (.bool false)], args := [d] }
  | _ => none }
def AcksAnswerWrongFalsely : Prop := acksAnswerRow.holds Try.pinned (OpenSpec.ofChange acksAnswerWrong)

/-- 'argosylaw20.OrderTwice': WHATEVER THE INPUT: true; the input reads as it did. -/
def orderTwiceSpec : ChangeSpec := { name := "orderTwice", fn := fun _ => fun
  | [d1, d2, d3] => { results := [.lit (.bool true)], args := [d1, d2, d3] }
  | _ => none }
def orderTwiceRow : OpenClaim := { program := "ythiccnmplgdheaa", sum := "c8a42ef1d41c78982d2075e6f3533732fd2dadb883dfc8512259a32f4cd71f75", func := "argosy/argosylaw20.OrderTwice", spec := "orderTwice", unfollowed := true, recurses := true, apart := false }
def OrderTwiceSaid : Prop := orderTwiceRow.holds Try.pinned (OpenSpec.ofChange orderTwiceSpec)

/-- ITS FALSE NEIGHBOUR: 'it returns false'. Refute it at one input. -/
def orderTwiceWrong : ChangeSpec := { name := "orderTwice", fn := fun _ => fun
  | [d1, d2, d3] => { results := [.lit (.bool false)], args := [d1, d2, d3] }
  | _ => none }
def OrderTwiceWrongFalsely : Prop := orderTwiceRow.holds Try.pinned (OpenSpec.ofChange orderTwiceWrong)

/-- 'argosylaw20.OrderKnown': WHATEVER THE INPUT: true; the input reads as it did. -/
def orderKnownSpec : ChangeSpec := { name := "orderKnown", fn := fun _ => fun
  | [] => { results := [.lit (.bool true)], args := [] }
  | _ => none }
def orderKnownRow : OpenClaim := { program := "ythiccnmplgdheaa", sum := "c8a42ef1d41c78982d2075e6f3533732fd2dadb883dfc8512259a32f4cd71f75", func := "argosy/argosylaw20.OrderKnown", spec := "orderKnown", unfollowed := true, recurses := true, apart := false }
def OrderKnownSaid : Prop := orderKnownRow.holds Try.pinned (OpenSpec.ofChange orderKnownSpec)

/-- ITS FALSE NEIGHBOUR: 'it returns false'. Refute it at one input. -/
def orderKnownWrong : ChangeSpec := { name := "orderKnown", fn := fun _ => fun
  | [] => { results := [.lit (.bool false)], args := [] }
  | _ => none }
def OrderKnownWrongFalsely : Prop := orderKnownRow.holds Try.pinned (OpenSpec.ofChange orderKnownWrong)

/-- 'argosylaw20.OrderTells': WHATEVER THE INPUT: true; the input reads as it did. -/
def orderTellsSpec : ChangeSpec := { name := "orderTells", fn := fun _ => fun
  | [d1, d2] => { results := [.lit (.bool true)], args := [d1, d2] }
  | _ => none }
def orderTellsRow : OpenClaim := { program := "ythiccnmplgdheaa", sum := "c8a42ef1d41c78982d2075e6f3533732fd2dadb883dfc8512259a32f4cd71f75", func := "argosy/argosylaw20.OrderTells", spec := "orderTells", unfollowed := true, recurses := true, apart := false }
def OrderTellsSaid : Prop := orderTellsRow.holds Try.pinned (OpenSpec.ofChange orderTellsSpec)

/-- ITS FALSE NEIGHBOUR: 'it returns false'. Refute it at one input. -/
def orderTellsWrong : ChangeSpec := { name := "orderTells", fn := fun _ => fun
  | [d1, d2] => { results := [.lit (.bool false)], args := [d1, d2] }
  | _ => none }
def OrderTellsWrongFalsely : Prop := orderTellsRow.holds Try.pinned (OpenSpec.ofChange orderTellsWrong)

/-- 'argosylaw20.OrderEarliest': WHATEVER THE INPUT: true; the input reads as it did. -/
def orderEarliestSpec : ChangeSpec := { name := "orderEarliest", fn := fun _ => fun
  | [d1, d2] => { results := [.lit (.bool true)], args := [d1, d2] }
  | _ => none }
def orderEarliestRow : OpenClaim := { program := "ythiccnmplgdheaa", sum := "c8a42ef1d41c78982d2075e6f3533732fd2dadb883dfc8512259a32f4cd71f75", func := "argosy/argosylaw20.OrderEarliest", spec := "orderEarliest", unfollowed := true, recurses := true, apart := false }
def OrderEarliestSaid : Prop := orderEarliestRow.holds Try.pinned (OpenSpec.ofChange orderEarliestSpec)

/-- ITS FALSE NEIGHBOUR: 'it returns false'. Refute it at one input. -/
def orderEarliestWrong : ChangeSpec := { name := "orderEarliest", fn := fun _ => fun
  | [d1, d2] => { results := [.lit (.bool false)], args := [d1, d2] }
  | _ => none }
def OrderEarliestWrongFalsely : Prop := orderEarliestRow.holds Try.pinned (OpenSpec.ofChange orderEarliestWrong)

/-- 'argosylaw6.PacketKnown': WHATEVER THE INPUT: true; the input reads as it did. -/
def packetKnownSpec : ChangeSpec := { name := "packetKnown", fn := fun _ => fun
  | [] => { results := [.lit (.bool true)], args := [] }
  | _ => none }
def packetKnownRow : OpenClaim := { program := "ythiccnmplgdheaa", sum := "c8a42ef1d41c78982d2075e6f3533732fd2dadb883dfc8512259a32f4cd71f75", func := "argosy/argosylaw6.PacketKnown", spec := "packetKnown", unfollowed := true, recurses := true, apart := false }
def PacketKnownSaid : Prop := packetKnownRow.holds Try.pinned (OpenSpec.ofChange packetKnownSpec)

/-- ITS FALSE NEIGHBOUR: 'it returns false'. Refute it at one input. -/
def packetKnownWrong : ChangeSpec := { name := "packetKnown", fn := fun _ => fun
  | [] => { results := [.lit (.bool false)], args := [] }
  | _ => none }
def PacketKnownWrongFalsely : Prop := packetKnownRow.holds Try.pinned (OpenSpec.ofChange packetKnownWrong)

/-- 'argosylaw6.PacketTells': WHATEVER THE INPUT: true; the input reads as it did. -/
def packetTellsSpec : ChangeSpec := { name := "packetTells", fn := fun _ => fun
  | [d1, d2, d3, d4, d5, d6, d7, d8, d9] => { results := [.lit (.bool true)], args := [d1, d2, d3, d4, d5, d6, d7, d8, d9] }
  | _ => none }
def packetTellsRow : OpenClaim := { program := "ythiccnmplgdheaa", sum := "c8a42ef1d41c78982d2075e6f3533732fd2dadb883dfc8512259a32f4cd71f75", func := "argosy/argosylaw6.PacketTells", spec := "packetTells", unfollowed := true, recurses := true, apart := false }
def PacketTellsSaid : Prop := packetTellsRow.holds Try.pinned (OpenSpec.ofChange packetTellsSpec)

/-- ITS FALSE NEIGHBOUR: 'it returns false'. Refute it at one input. -/
def packetTellsWrong : ChangeSpec := { name := "packetTells", fn := fun _ => fun
  | [d1, d2, d3, d4, d5, d6, d7, d8, d9] => { results := [.lit (.bool false)], args := [d1, d2, d3, d4, d5, d6, d7, d8, d9] }
  | _ => none }
def PacketTellsWrongFalsely : Prop := packetTellsRow.holds Try.pinned (OpenSpec.ofChange packetTellsWrong)

/-- 'argosylaw6.PacketBack': WHATEVER THE INPUT: true; the input reads as it did. -/
def packetBackSpec : ChangeSpec := { name := "packetBack", fn := fun _ => fun
  | [d1, d2, d3, d4, d5, d6, d7, d8] => { results := [.lit (.bool true)], args := [d1, d2, d3, d4, d5, d6, d7, d8] }
  | _ => none }
def packetBackRow : OpenClaim := { program := "ythiccnmplgdheaa", sum := "c8a42ef1d41c78982d2075e6f3533732fd2dadb883dfc8512259a32f4cd71f75", func := "argosy/argosylaw6.PacketBack", spec := "packetBack", unfollowed := true, recurses := true, apart := false }
def PacketBackSaid : Prop := packetBackRow.holds Try.pinned (OpenSpec.ofChange packetBackSpec)

/-- ITS FALSE NEIGHBOUR: 'it returns false'. Refute it at one input. -/
def packetBackWrong : ChangeSpec := { name := "packetBack", fn := fun _ => fun
  | [d1, d2, d3, d4, d5, d6, d7, d8] => { results := [.lit (.bool false)], args := [d1, d2, d3, d4, d5, d6, d7, d8] }
  | _ => none }
def PacketBackWrongFalsely : Prop := packetBackRow.holds Try.pinned (OpenSpec.ofChange packetBackWrong)

/-- 'argosylaw6.PacketRoom': WHATEVER THE INPUT: true; the input reads as it did. -/
def packetRoomSpec : ChangeSpec := { name := "packetRoom", fn := fun _ => fun
  | [d1, d2, d3, d4, d5] => { results := [.lit (.bool true)], args := [d1, d2, d3, d4, d5] }
  | _ => none }
def packetRoomRow : OpenClaim := { program := "ythiccnmplgdheaa", sum := "c8a42ef1d41c78982d2075e6f3533732fd2dadb883dfc8512259a32f4cd71f75", func := "argosy/argosylaw6.PacketRoom", spec := "packetRoom", unfollowed := true, recurses := true, apart := false }
def PacketRoomSaid : Prop := packetRoomRow.holds Try.pinned (OpenSpec.ofChange packetRoomSpec)

/-- ITS FALSE NEIGHBOUR: 'it returns false'. Refute it at one input. -/
def packetRoomWrong : ChangeSpec := { name := "packetRoom", fn := fun _ => fun
  | [d1, d2, d3, d4, d5] => { results := [.lit (.bool false)], args := [d1, d2, d3, d4, d5] }
  | _ => none }
def PacketRoomWrongFalsely : Prop := packetRoomRow.holds Try.pinned (OpenSpec.ofChange packetRoomWrong)

/-- 'argosylaw6.PacketMany': WHATEVER THE INPUT: true; the input reads as it did. -/
def packetManySpec : ChangeSpec := { name := "packetMany", fn := fun _ => fun
  | [d1, d2, d3, d4] => { results := [.lit (.bool true)], args := [d1, d2, d3, d4] }
  | _ => none }
def packetManyRow : OpenClaim := { program := "ythiccnmplgdheaa", sum := "c8a42ef1d41c78982d2075e6f3533732fd2dadb883dfc8512259a32f4cd71f75", func := "argosy/argosylaw6.PacketMany", spec := "packetMany", unfollowed := true, recurses := true, apart := false }
def PacketManySaid : Prop := packetManyRow.holds Try.pinned (OpenSpec.ofChange packetManySpec)

/-- ITS FALSE NEIGHBOUR: 'it returns false'. Refute it at one input. -/
def packetManyWrong : ChangeSpec := { name := "packetMany", fn := fun _ => fun
  | [d1, d2, d3, d4] => { results := [.lit (.bool false)], args := [d1, d2, d3, d4] }
  | _ => none }
def PacketManyWrongFalsely : Prop := packetManyRow.holds Try.pinned (OpenSpec.ofChange packetManyWrong)

/- THE SECOND FORM. 'bulk': how many values and letters a reading holds, each counted each time it is reached (what is shared counts as often as it is met; a slice's spare places count too). A statement '..UptoSaid' is the law's where the arguments, and the package variables that the reading takes, are together of bulk at most 1048576: NARROWER than '..Said'. Prove '..Said' where nothing that the law and all that it calls make is longer than what came in: it says more and counts as full. Else prove '..UptoSaid'. A law counts once. -/
mutual
def uptoBulk {H : Type} : DataW H → Nat
  | .lit (.string bytes) => bytes.length + 1
  | .lit _ => 1
  | .nil => 1
  | .ptr d => uptoBulk d + 1
  | .slice elems spare => uptoBulkAll elems + uptoBulkAll spare + 1
  | .agg parts => uptoBulkAll parts + 1
  | .iface _ d => uptoBulk d + 1
  | .map entries => uptoBulkEntries entries + 1
  | .held _ => 1
def uptoBulkAll {H : Type} : List (DataW H) → Nat
  | [] => 0
  | d :: r => uptoBulk d + uptoBulkAll r
def uptoBulkEntries {H : Type} : List (Lit × DataW H) → Nat
  | [] => 0
  | x :: r => uptoBulkEntry x + uptoBulkEntries r
def uptoBulkEntry {H : Type} : Lit × DataW H → Nat
  | (.string bytes, d) => bytes.length + uptoBulk d + 1
  | (_, d) => uptoBulk d + 1
 end
def uptoSmall : (H : Type) → List (DataW H) → Bool := fun _ ds => decide (uptoBulkAll ds ≤ 1048576)
def OpenSpec.upto (s : _root_.Go.ChangeSpec) : _root_.Go.OpenSpec := { _root_.Go.OpenSpec.ofChange s with cond := some uptoSmall }

/-- 'argosylaw7.AcksOnce', WHERE WHAT IT READS IS OF BULK AT MOST 1048576: true; the input reads as it did. -/
def acksOnceUptoRow : OpenClaim := { program := "ythiccnmplgdheaa", sum := "c8a42ef1d41c78982d2075e6f3533732fd2dadb883dfc8512259a32f4cd71f75", func := "argosy/argosylaw7.AcksOnce", spec := "acksOnce", unfollowed := true, recurses := true, apart := false, narrowed := true }
def AcksOnceUptoSaid : Prop := acksOnceUptoRow.holds Try.pinned (OpenSpec.upto acksOnceSpec)

/-- 'argosylaw7.AcksKnown', WHERE WHAT IT READS IS OF BULK AT MOST 1048576: true; the input reads as it did. -/
def acksKnownUptoRow : OpenClaim := { program := "ythiccnmplgdheaa", sum := "c8a42ef1d41c78982d2075e6f3533732fd2dadb883dfc8512259a32f4cd71f75", func := "argosy/argosylaw7.AcksKnown", spec := "acksKnown", unfollowed := true, recurses := true, apart := false, narrowed := true }
def AcksKnownUptoSaid : Prop := acksKnownUptoRow.holds Try.pinned (OpenSpec.upto acksKnownSpec)

/-- 'argosylaw18.HeadSpread', WHERE WHAT IT READS IS OF BULK AT MOST 1048576: true; the input reads as it did. -/
def headSpreadUptoRow : OpenClaim := { program := "ythiccnmplgdheaa", sum := "c8a42ef1d41c78982d2075e6f3533732fd2dadb883dfc8512259a32f4cd71f75", func := "argosy/argosylaw18.HeadSpread", spec := "headSpread", apart := false, narrowed := true }
def HeadSpreadUptoSaid : Prop := headSpreadUptoRow.holds Try.pinned (OpenSpec.upto headSpreadSpec)

/-- 'argosylaw18.HeadKnown', WHERE WHAT IT READS IS OF BULK AT MOST 1048576: true; the input reads as it did. -/
def headKnownUptoRow : OpenClaim := { program := "ythiccnmplgdheaa", sum := "c8a42ef1d41c78982d2075e6f3533732fd2dadb883dfc8512259a32f4cd71f75", func := "argosy/argosylaw18.HeadKnown", spec := "headKnown", apart := false, narrowed := true }
def HeadKnownUptoSaid : Prop := headKnownUptoRow.holds Try.pinned (OpenSpec.upto headKnownSpec)

/-- 'argosylaw18.HeadTells', WHERE WHAT IT READS IS OF BULK AT MOST 1048576: true; the input reads as it did. -/
def headTellsUptoRow : OpenClaim := { program := "ythiccnmplgdheaa", sum := "c8a42ef1d41c78982d2075e6f3533732fd2dadb883dfc8512259a32f4cd71f75", func := "argosy/argosylaw18.HeadTells", spec := "headTells", apart := false, narrowed := true }
def HeadTellsUptoSaid : Prop := headTellsUptoRow.holds Try.pinned (OpenSpec.upto headTellsSpec)

/-- 'argosylaw18.HeadWhole', WHERE WHAT IT READS IS OF BULK AT MOST 1048576: true; the input reads as it did. -/
def headWholeUptoRow : OpenClaim := { program := "ythiccnmplgdheaa", sum := "c8a42ef1d41c78982d2075e6f3533732fd2dadb883dfc8512259a32f4cd71f75", func := "argosy/argosylaw18.HeadWhole", spec := "headWhole", apart := false, narrowed := true }
def HeadWholeUptoSaid : Prop := headWholeUptoRow.holds Try.pinned (OpenSpec.upto headWholeSpec)

/-- 'argosylaw5.FrameElicits', WHERE WHAT IT READS IS OF BULK AT MOST 1048576: true; the input reads as it did. -/
def frameElicitsUptoRow : OpenClaim := { program := "ythiccnmplgdheaa", sum := "c8a42ef1d41c78982d2075e6f3533732fd2dadb883dfc8512259a32f4cd71f75", func := "argosy/argosylaw5.FrameElicits", spec := "frameElicits", unfollowed := true, recurses := true, apart := false, narrowed := true }
def FrameElicitsUptoSaid : Prop := frameElicitsUptoRow.holds Try.pinned (OpenSpec.upto frameElicitsSpec)

/-- 'argosylaw5.FrameBack', WHERE WHAT IT READS IS OF BULK AT MOST 1048576: true; the input reads as it did. -/
def frameBackUptoRow : OpenClaim := { program := "ythiccnmplgdheaa", sum := "c8a42ef1d41c78982d2075e6f3533732fd2dadb883dfc8512259a32f4cd71f75", func := "argosy/argosylaw5.FrameBack", spec := "frameBack", unfollowed := true, recurses := true, apart := false, narrowed := true }
def FrameBackUptoSaid : Prop := frameBackUptoRow.holds Try.pinned (OpenSpec.upto frameBackSpec)

/-- 'argosylaw5.FrameCut', WHERE WHAT IT READS IS OF BULK AT MOST 1048576: true; the input reads as it did. -/
def frameCutUptoRow : OpenClaim := { program := "ythiccnmplgdheaa", sum := "c8a42ef1d41c78982d2075e6f3533732fd2dadb883dfc8512259a32f4cd71f75", func := "argosy/argosylaw5.FrameCut", spec := "frameCut", unfollowed := true, recurses := true, apart := false, narrowed := true }
def FrameCutUptoSaid : Prop := frameCutUptoRow.holds Try.pinned (OpenSpec.upto frameCutSpec)

/-- 'argosylaw7.AcksAnswer', WHERE WHAT IT READS IS OF BULK AT MOST 1048576: true; the input reads as it did. -/
def acksAnswerUptoRow : OpenClaim := { program := "ythiccnmplgdheaa", sum := "c8a42ef1d41c78982d2075e6f3533732fd2dadb883dfc8512259a32f4cd71f75", func := "argosy/argosylaw7.AcksAnswer", spec := "acksAnswer", unfollowed := true, recurses := true, apart := false, narrowed := true }
def AcksAnswerUptoSaid : Prop := acksAnswerUptoRow.holds Try.pinned (OpenSpec.upto acksAnswerSpec)

/-- 'argosylaw20.OrderTwice', WHERE WHAT IT READS IS OF BULK AT MOST 1048576: true; the input reads as it did. -/
def orderTwiceUptoRow : OpenClaim := { program := "ythiccnmplgdheaa", sum := "c8a42ef1d41c78982d2075e6f3533732fd2dadb883dfc8512259a32f4cd71f75", func := "argosy/argosylaw20.OrderTwice", spec := "orderTwice", unfollowed := true, recurses := true, apart := false, narrowed := true }
def OrderTwiceUptoSaid : Prop := orderTwiceUptoRow.holds Try.pinned (OpenSpec.upto orderTwiceSpec)

/-- 'argosylaw20.OrderKnown', WHERE WHAT IT READS IS OF BULK AT MOST 1048576: true; the input reads as it did. -/
def orderKnownUptoRow : OpenClaim := { program := "ythiccnmplgdheaa", sum := "c8a42ef1d41c78982d2075e6f3533732fd2dadb883dfc8512259a32f4cd71f75", func := "argosy/argosylaw20.OrderKnown", spec := "orderKnown", unfollowed := true, recurses := true, apart := false, narrowed := true }
def OrderKnownUptoSaid : Prop := orderKnownUptoRow.holds Try.pinned (OpenSpec.upto orderKnownSpec)

/-- 'argosylaw20.OrderTells', WHERE WHAT IT READS IS OF BULK AT MOST 1048576: true; the input reads as it did. -/
def orderTellsUptoRow : OpenClaim := { program := "ythiccnmplgdheaa", sum := "c8a42ef1d41c78982d2075e6f3533732fd2dadb883dfc8512259a32f4cd71f75", func := "argosy/argosylaw20.OrderTells", spec := "orderTells", unfollowed := true, recurses := true, apart := false, narrowed := true }
def OrderTellsUptoSaid : Prop := orderTellsUptoRow.holds Try.pinned (OpenSpec.upto orderTellsSpec)

/-- 'argosylaw20.OrderEarliest', WHERE WHAT IT READS IS OF BULK AT MOST 1048576: true; the input reads as it did. -/
def orderEarliestUptoRow : OpenClaim := { program := "ythiccnmplgdheaa", sum := "c8a42ef1d41c78982d2075e6f3533732fd2dadb883dfc8512259a32f4cd71f75", func := "argosy/argosylaw20.OrderEarliest", spec := "orderEarliest", unfollowed := true, recurses := true, apart := false, narrowed := true }
def OrderEarliestUptoSaid : Prop := orderEarliestUptoRow.holds Try.pinned (OpenSpec.upto orderEarliestSpec)

/-- 'argosylaw6.PacketKnown', WHERE WHAT IT READS IS OF BULK AT MOST 1048576: true; the input reads as it did. -/
def packetKnownUptoRow : OpenClaim := { program := "ythiccnmplgdheaa", sum := "c8a42ef1d41c78982d2075e6f3533732fd2dadb883dfc8512259a32f4cd71f75", func := "argosy/argosylaw6.PacketKnown", spec := "packetKnown", unfollowed := true, recurses := true, apart := false, narrowed := true }
def PacketKnownUptoSaid : Prop := packetKnownUptoRow.holds Try.pinned (OpenSpec.upto packetKnownSpec)

/-- 'argosylaw6.PacketTells', WHERE WHAT IT READS IS OF BULK AT MOST 1048576: true; the input reads as it did. -/
def packetTellsUptoRow : OpenClaim := { program := "ythiccnmplgdheaa", sum := "c8a42ef1d41c78982d2075e6f3533732fd2dadb883dfc8512259a32f4cd71f75", func := "argosy/argosylaw6.PacketTells", spec := "packetTells", unfollowed := true, recurses := true, apart := false, narrowed := true }
def PacketTellsUptoSaid : Prop := packetTellsUptoRow.holds Try.pinned (OpenSpec.upto packetTellsSpec)

/-- 'argosylaw6.PacketBack', WHERE WHAT IT READS IS OF BULK AT MOST 1048576: true; the input reads as it did. -/
def packetBackUptoRow : OpenClaim := { program := "ythiccnmplgdheaa", sum := "c8a42ef1d41c78982d2075e6f3533732fd2dadb883dfc8512259a32f4cd71f75", func := "argosy/argosylaw6.PacketBack", spec := "packetBack", unfollowed := true, recurses := true, apart := false, narrowed := true }
def PacketBackUptoSaid : Prop := packetBackUptoRow.holds Try.pinned (OpenSpec.upto packetBackSpec)

/-- 'argosylaw6.PacketRoom', WHERE WHAT IT READS IS OF BULK AT MOST 1048576: true; the input reads as it did. -/
def packetRoomUptoRow : OpenClaim := { program := "ythiccnmplgdheaa", sum := "c8a42ef1d41c78982d2075e6f3533732fd2dadb883dfc8512259a32f4cd71f75", func := "argosy/argosylaw6.PacketRoom", spec := "packetRoom", unfollowed := true, recurses := true, apart := false, narrowed := true }
def PacketRoomUptoSaid : Prop := packetRoomUptoRow.holds Try.pinned (OpenSpec.upto packetRoomSpec)

/-- 'argosylaw6.PacketMany', WHERE WHAT IT READS IS OF BULK AT MOST 1048576: true; the input reads as it did. -/
def packetManyUptoRow : OpenClaim := { program := "ythiccnmplgdheaa", sum := "c8a42ef1d41c78982d2075e6f3533732fd2dadb883dfc8512259a32f4cd71f75", func := "argosy/argosylaw6.PacketMany", spec := "packetMany", unfollowed := true, recurses := true, apart := false, narrowed := true }
def PacketManyUptoSaid : Prop := packetManyUptoRow.holds Try.pinned (OpenSpec.upto packetManySpec)

end Rows
end Go.Proofs.Ythiccnmplgdheaa
