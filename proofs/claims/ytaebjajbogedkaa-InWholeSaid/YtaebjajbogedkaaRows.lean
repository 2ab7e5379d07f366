/-
  No cell of these rows narrows 'for every input' (looked for: loops, veiled, ifaces, maps, wideKeys, modest, calm, conditions, laid).
  DERIVED. THE GIVEN ROWS OF THIS SEAT. 7 by the template 'for every input the law returns true; each argument reads behind the call as it read before'; 0 by the template 'total and deterministic' (their statements: YtaebjajbogedkaaTotals.lean).
  GIVEN WITH THE SEED: the statements are not yours to turn. If you find one false, say at which input.
  Laid BY PROGRAM, IN A SANDBOX (cutbox-rows.mjs): the forced cells as the released guide's own fill.sh prints them over the translation 93785b64f9d5acc5… (all of the seat's roots in one cut). By AI agents, Wed Nov 11 2026. No macro, syntax, notation, axiom, sorry.
-/
import Derived.Test.YtaebjajbogedkaaChecked
import GoSem.Claim
import GoSem.ClaimJoined
import GoSem.ClaimMapViews
import Derived.JoinedTies
import Derived.KernelRfl
namespace Go.Proofs.Ytaebjajbogedkaa
/- THE CELL 'sum', in the pinned program and in every row, IS THE sha256 OF THE DUMP (.gsa) THAT YtaebjajbogedkaaProg.lean LOADS. Nothing in Lean hashes anything: it is a label: what it is worth is what the hold of that sum in a sandbox is worth. -/
noncomputable def Try.pinned : Pinned := { name := "ytaebjajbogedkaa", sum := "93785b64f9d5acc5fca9c18aaa6c3f2ebac561cea2d3fb3a24d7b5569a3cc004", checked := Try.checked }
namespace Rows
def none {H : Type} : Left H := { results := [], args := [] }

/-- 'argosylaw13.SendFresh': WHATEVER THE INPUT: true; the input reads as it did. -/
def sendFreshSpec : ChangeSpec := { name := "sendFresh", fn := fun _ => fun
  | [d1, d2] => { results := [.lit (.bool true)], args := [d1, d2] }
  | _ => none }
def sendFreshRow : OpenClaim := { program := "ytaebjajbogedkaa", sum := "93785b64f9d5acc5fca9c18aaa6c3f2ebac561cea2d3fb3a24d7b5569a3cc004", func := "argosy/argosylaw13.SendFresh", spec := "sendFresh", unfollowed := true, recurses := true, plainKeys := false, apart := false }
def SendFreshSaid : Prop := sendFreshRow.holds Try.pinned (OpenSpec.ofChange sendFreshSpec)

/-- ITS FALSE NEIGHBOUR: 'it returns false'. Refute it at one input. -/
def sendFreshWrong : ChangeSpec := { name := "sendFresh", fn := fun _ => fun
  | [d1, d2] => { results := [.lit (.bool false)], args := [d1, d2] }
  | _ => none }
def SendFreshWrongFalsely : Prop := sendFreshRow.holds Try.pinned (OpenSpec.ofChange sendFreshWrong)

/-- 'argosylaw13.SendAll': WHATEVER THE INPUT: true; the input reads as it did. -/
def sendAllSpec : ChangeSpec := { name := "sendAll", fn := fun _ => fun
  | [d1, d2, d3] => { results := [.lit (.bool true)], args := [d1, d2, d3] }
  | _ => none }
def sendAllRow : OpenClaim := { program := "ytaebjajbogedkaa", sum := "93785b64f9d5acc5fca9c18aaa6c3f2ebac561cea2d3fb3a24d7b5569a3cc004", func := "argosy/argosylaw13.SendAll", spec := "sendAll", unfollowed := true, recurses := true, plainKeys := false, apart := false }
def SendAllSaid : Prop := sendAllRow.holds Try.pinned (OpenSpec.ofChange sendAllSpec)

/-- ITS FALSE NEIGHBOUR: 'it returns false'. Refute it at one input. -/
def sendAllWrong : ChangeSpec := { name := "sendAll", fn := fun _ => fun
  | [d1, d2, d3] => { results := [.lit (.bool false)], args := [d1, d2, d3] }
  | _ => none }
def SendAllWrongFalsely : Prop := sendAllRow.holds Try.pinned (OpenSpec.ofChange sendAllWrong)

/-- 'argosylaw13.SendSure': WHATEVER THE INPUT: true; the input reads as it did. -/
def sendSureSpec : ChangeSpec := { name := "sendSure", fn := fun _ => fun
  | [d1, d2, d3, d4, d5] => { results := [.lit (.bool true)], args := [d1, d2, d3, d4, d5] }
  | _ => none }
def sendSureRow : OpenClaim := { program := "ytaebjajbogedkaa", sum := "93785b64f9d5acc5fca9c18aaa6c3f2ebac561cea2d3fb3a24d7b5569a3cc004", func := "argosy/argosylaw13.SendSure", spec := "sendSure", unfollowed := true, recurses := true, plainKeys := false, apart := false }
def SendSureSaid : Prop := sendSureRow.holds Try.pinned (OpenSpec.ofChange sendSureSpec)

/-- ITS FALSE NEIGHBOUR: 'it returns false'. Refute it at one input. -/
def sendSureWrong : ChangeSpec := { name := "sendSure", fn := fun _ => fun
  | [d1, d2, d3, d4, d5] => { results := [.lit (.bool false)], args := [d1, d2, d3, d4, d5] }
  | _ => none }
def SendSureWrongFalsely : Prop := sendSureRow.holds Try.pinned (OpenSpec.ofChange sendSureWrong)

/-- 'argosylaw22.InAway': WHATEVER THE INPUT: true; the input reads as it did. -/
def inAwaySpec : ChangeSpec := { name := "inAway", fn := fun _ => fun
  | [d1, d2] => { results := [.lit (.bool true)], args := [d1, d2] }
  | _ => none }
def inAwayRow : OpenClaim := { program := "ytaebjajbogedkaa", sum := "93785b64f9d5acc5fca9c18aaa6c3f2ebac561cea2d3fb3a24d7b5569a3cc004", func := "argosy/argosylaw22.InAway", spec := "inAway", unfollowed := true, recurses := true, plainKeys := false, apart := false }
def InAwaySaid : Prop := inAwayRow.holds Try.pinned (OpenSpec.ofChange inAwaySpec)

/-- ITS FALSE NEIGHBOUR: 'it returns false'. Refute it at one input. -/
def inAwayWrong : ChangeSpec := { name := "inAway", fn := fun _ => fun
  | [d1, d2] => { results := [.lit (.bool false)], args := [d1, d2] }
  | _ => none }
def InAwayWrongFalsely : Prop := inAwayRow.holds Try.pinned (OpenSpec.ofChange inAwayWrong)

/-- 'argosylaw22.InLate': WHATEVER THE INPUT: true; the input reads as it did. -/
def inLateSpec : ChangeSpec := { name := "inLate", fn := fun _ => fun
  | [d1, d2] => { results := [.lit (.bool true)], args := [d1, d2] }
  | _ => none }
def inLateRow : OpenClaim := { program := "ytaebjajbogedkaa", sum := "93785b64f9d5acc5fca9c18aaa6c3f2ebac561cea2d3fb3a24d7b5569a3cc004", func := "argosy/argosylaw22.InLate", spec := "inLate", unfollowed := true, recurses := true, plainKeys := false, apart := false }
def InLateSaid : Prop := inLateRow.holds Try.pinned (OpenSpec.ofChange inLateSpec)

/-- ITS FALSE NEIGHBOUR: 'it returns false'. Refute it at one input. -/
def inLateWrong : ChangeSpec := { name := "inLate", fn := fun _ => fun
  | [d1, d2] => { results := [.lit (.bool false)], args := [d1, d2] }
  | _ => none }
def InLateWrongFalsely : Prop := inLateRow.holds Try.pinned (OpenSpec.ofChange inLateWrong)

/-- 'argosylaw22.InOnce': WHATEVER THE INPUT: true; the input reads as it did. -/
def inOnceSpec : ChangeSpec := { name := "inOnce", fn := fun _ => fun
  | [d] => { results := [.lit (.bool true)], args := [d] }
  | _ => none }
def inOnceRow : OpenClaim := { program := "ytaebjajbogedkaa", sum := "93785b64f9d5acc5fca9c18aaa6c3f2ebac561cea2d3fb3a24d7b5569a3cc004", func := "argosy/argosylaw22.InOnce", spec := "inOnce", unfollowed := true, recurses := true, plainKeys := false, apart := false }
def InOnceSaid : Prop := inOnceRow.holds Try.pinned (OpenSpec.ofChange inOnceSpec)

/-- ITS FALSE NEIGHBOUR: 'it returns false'. Refute it at one input. -/
def inOnceWrong : ChangeSpec := { name := "inOnce", fn := fun _ => fun
  | [d] => { results := [.lit (.bool false)], args := [d] }
  | _ => none }
def InOnceWrongFalsely : Prop := inOnceRow.holds Try.pinned (OpenSpec.ofChange inOnceWrong)

/-- 'argosylaw22.InWhole': WHATEVER THE INPUT: true; the input reads as it did. -/
def inWholeSpec : ChangeSpec := { name := "inWhole", fn := fun _ => fun
  | [d1, d2] => { results := [.lit (.bool true)], args := [d1, d2] }
  | _ => none }
def inWholeRow : OpenClaim := { program := "ytaebjajbogedkaa", sum := "93785b64f9d5acc5fca9c18aaa6c3f2ebac561cea2d3fb3a24d7b5569a3cc004", func := "argosy/argosylaw22.InWhole", spec := "inWhole", unfollowed := true, recurses := true, plainKeys := false, apart := false }
def InWholeSaid : Prop := inWholeRow.holds Try.pinned (OpenSpec.ofChange inWholeSpec)

/-- ITS FALSE NEIGHBOUR: 'it returns false'. Refute it at one input. -/
def inWholeWrong : ChangeSpec := { name := "inWhole", fn := fun _ => fun
  | [d1, d2] => { results := [.lit (.bool false)], args := [d1, d2] }
  | _ => none }
def InWholeWrongFalsely : Prop := inWholeRow.holds Try.pinned (OpenSpec.ofChange inWholeWrong)

/- THE SECOND FORM. 'bulk': how many values and letters a reading holds, each counted each time it is reached (what is shared counts as often as it is met; a slice's spare places count too). A statement '..UptoSaid' is the law's where the arguments, and the package variables that the reading takes, are together of bulk at most 1048576: NARROWER than '..Said'. Prove '..Said' where nothing that the law and all that it calls make is longer than what came in: it says more and counts as full. Else prove '..UptoSaid'. A law counts once. -/
mutual
def uptoBulk {H : Type} : DataW H → Nat
  | .lit (.string bytes) => bytes.length + 1
  | .lit _ => 1
  | .nil => 1
  | .ptr d => uptoBulk d + 1
  | .slice elems spare => uptoBulkAll elems + uptoBulkAll spare + 1
  | .agg parts => uptoBulkAll parts + 1
  | .iface _ d => uptoBulk d + 1
  | .map entries => uptoBulkEntries entries + 1
  | .held _ => 1
def uptoBulkAll {H : Type} : List (DataW H) → Nat
  | [] => 0
  | d :: r => uptoBulk d + uptoBulkAll r
def uptoBulkEntries {H : Type} : List (Lit × DataW H) → Nat
  | [] => 0
  | x :: r => uptoBulkEntry x + uptoBulkEntries r
def uptoBulkEntry {H : Type} : Lit × DataW H → Nat
  | (.string bytes, d) => bytes.length + uptoBulk d + 1
  | (_, d) => uptoBulk d + 1
 end
def uptoSmall : (H : Type) → List (DataW H) → Bool := fun _ ds => decide (uptoBulkAll ds ≤ 1048576)
def OpenSpec.upto (s : _root_.Go.ChangeSpec) : _root_.Go.OpenSpec := { _root_.Go.OpenSpec.ofChange s with cond := some uptoSmall }

/-- 'argosylaw13.SendFresh', WHERE WHAT IT READS IS OF BULK AT MOST 1048576: true; the input reads as it did. -/
def sendFreshUptoRow : OpenClaim := { program := "ytaebjajbogedkaa", sum := "93785b64f9d5acc5fca9c18aaa6c3f2ebac561cea2d3fb3a24d7b5569a3cc004", func := "argosy/argosylaw13.SendFresh", spec := "sendFresh", unfollowed := true, recurses := true, plainKeys := false, apart := false, narrowed := true }
def SendFreshUptoSaid : Prop := sendFreshUptoRow.holds Try.pinned (OpenSpec.upto sendFreshSpec)

/-- 'argosylaw13.SendAll', WHERE WHAT IT READS IS OF BULK AT MOST 1048576: true; the input reads as it did. -/
def sendAllUptoRow : OpenClaim := { program := "ytaebjajbogedkaa", sum := "93785b64f9d5acc5fca9c18aaa6c3f2ebac561cea2d3fb3a24d7b5569a3cc004", func := "argosy/argosylaw13.SendAll", spec := "sendAll", unfollowed := true, recurses := true, plainKeys := false, apart := false, narrowed := true }
def SendAllUptoSaid : Prop := sendAllUptoRow.holds Try.pinned (OpenSpec.upto sendAllSpec)

/-- 'argosylaw13.SendSure', WHERE WHAT IT READS IS OF BULK AT MOST 1048576: true; the input reads as it did. -/
def sendSureUptoRow : OpenClaim := { program := "ytaebjajbogedkaa", sum := "93785b64f9d5acc5fca9c18aaa6c3f2ebac561cea2d3fb3a24d7b5569a3cc004", func := "argosy/argosylaw13.SendSure", spec := "sendSure", unfollowed := true, recurses := true, plainKeys := false, apart := false, narrowed := true }
def SendSureUptoSaid : Prop := sendSureUptoRow.holds Try.pinned (OpenSpec.upto sendSureSpec)

/-- 'argosylaw22.InAway', WHERE WHAT IT READS IS OF BULK AT MOST 1048576: true; the input reads as it did. -/
def inAwayUptoRow : OpenClaim := { program := "ytaebjajbogedkaa", sum := "93785b64f9d5acc5fca9c18aaa6c3f2ebac561cea2d3fb3a24d7b5569a3cc004", func := "argosy/argosylaw22.InAway", spec := "inAway", unfollowed := true, recurses := true, plainKeys := false, apart := false, narrowed := true }
def InAwayUptoSaid : Prop := inAwayUptoRow.holds Try.pinned (OpenSpec.upto inAwaySpec)

/-- 'argosylaw22.InLate', WHERE WHAT IT READS IS OF BULK AT MOST 1048576: true; the input reads as it did. -/
def inLateUptoRow : OpenClaim := { program := "ytaebjajbogedkaa", sum := "93785b64f9d5acc5fca9c18aaa6c3f2ebac561cea2d3fb3a24d7b5569a3cc004", func := "argosy/argosylaw22.InLate", spec := "inLate", unfollowed := true, recurses := true, plainKeys := false, apart := false, narrowed := true }
def InLateUptoSaid : Prop := inLateUptoRow.holds Try.pinned (OpenSpec.upto inLateSpec)

/-- 'argosylaw22.InOnce', WHERE WHAT IT READS IS OF BULK AT MOST 1048576: true; the input reads as it did. -/
def inOnceUptoRow : OpenClaim := { program := "ytaebjajbogedkaa", sum := "93785b64f9d5acc5fca9c18aaa6c3f2ebac561cea2d3fb3a24d7b5569a3cc004", func := "argosy/argosylaw22.InOnce", spec := "inOnce", unfollowed := true, recurses := true, plainKeys := false, apart := false, narrowed := true }
def InOnceUptoSaid : Prop := inOnceUptoRow.holds Try.pinned (OpenSpec.upto inOnceSpec)

/-- 'argosylaw22.InWhole', WHERE WHAT IT READS IS OF BULK AT MOST 1048576: true; the input reads as it did. -/
def inWholeUptoRow : OpenClaim := { program := "ytaebjajbogedkaa", sum := "93785b64f9d5acc5fca9c18aaa6c3f2ebac561cea2d3fb3a24d7b5569a3cc004", func := "argosy/argosylaw22.InWhole", spec := "inWhole", unfollowed := true, recurses := true, plainKeys := false, apart := false, narrowed := true }
def InWholeUptoSaid : Prop := inWholeUptoRow.holds Try.pinned (OpenSpec.upto inWholeSpec)

end Rows
end Go.Proofs.Ytaebjajbogedkaa
