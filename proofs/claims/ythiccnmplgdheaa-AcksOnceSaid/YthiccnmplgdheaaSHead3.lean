/- Chapter 18's functions over the typed texts: pieces read, short heads, texts, the chapter's example. -/
-- SEAT b
import Derived.Test.YthiccnmplgdheaaSHead2
set_option linter.unusedVariables false
set_option linter.unusedSimpArgs false
namespace Go.Proofs.Ythiccnmplgdheaa.T
open Go Go.Abs Go.Proofs
def hd0 : Hd := (0, 0, 0, 0, 0)
def hdOf (ns : List Int) : Hd := (ns.getD 0 0, ns.getD 1 0, ns.getD 2 0, ns.getD 3 0, ns.getD 4 0)
def readV (l : List UInt8) : Hd × List UInt8 × Int := match tks 5 l with
  | some (ns, rest) => if HR (hdOf ns) ∧ (rest.length : Int) = hto (hdOf ns) - hfrom (hdOf ns) then (hdOf ns, rest, 0) else (hd0, [], 2)
  | none => (hd0, [], 3)
end Go.Proofs.Ythiccnmplgdheaa.T
