/- A machine without capacities, orders and tapes runs the program's code; what it answers, every run of the model answers (closed laws). -/
import Derived.Test.YtejdeibmhlcnbaaAbsD
set_option linter.unusedVariables false
set_option linter.unusedSimpArgs false
/- A closed law, by the machine's run. -/
namespace Go.Abs
open Go Go.RowKit
def H0 : H := ⟨0, 0, 0, .leaf⟩
def isTrue : Option (Value × H) → Bool
  | some (.bool true, _) => true
  | _ => false
theorem closed_law {P : Program} {D : Data} (hD : DOk P D) (hov : OvOK P D) {n f : Nat} (h : isTrue (callA D n f [] H0) = true) (W : World) : Calls P f #[] W fun e w' => e = .returned (.bool true) ∧ Below W.heap.size W w' := by
  unfold isTrue at h
  split at h
  · rename_i h' hc
    have hw : WR (fun _ _ => none) H0 W := ⟨fun A e L x => by simp at x, fun A e L A' e' L' x => by simp at x, fun A ob x => by simp [H0, Tr.get] at x, fun A ob x => by simp [H0, Tr.get] at x, Nat.le_refl _⟩
    refine (callA_ok hD hov n f [] H0 _ _ hc _ W #[] hw .nil).mono ?_
    rintro e w' ⟨v', ρ', rfl, hv, hwr, hx⟩
    cases hv
    exact ⟨rfl, hx.os, hx.tape, hx.output, hx.grow, fun b hb => hx.frame b hb fun A e L x => by simp at x⟩
  · simp at h
end Go.Abs
