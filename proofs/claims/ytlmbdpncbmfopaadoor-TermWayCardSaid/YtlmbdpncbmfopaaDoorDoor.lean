/- The start that meets the condition on the table of terms; closed facts of the program. -/
import Derived.Test.YtlmbdpncbmfopaaDoorLaid
import Derived.Test.YtlmbdpncbmfopaaDoorDone
import Derived.Stop.Joined
namespace Go.Proofs.YtlmbdpncbmfopaaDoor
open Go.ChangeShapes Go.WideShapes Go.ChangeAt Go.WideMaps Go.WideElems Go.RowKit

abbrev laid1 : List (String × DataW Unit) := [("supercargo/term.terms", Rows.laid_supercargo_term_terms)]
theorem own : ownKnob Tryd.prog.godebug = none := by kernel_rfl
theorem laidOut : laidOutB Tryd.prog = true := by kernel_rfl

/-- The door's own heap meets the condition: three closed facts. -/
theorem door_met (os : Os) (args : Array Value) : laidMetH Tryd.prog laid1 ((World.doorLaid Tryd.prog 35 os).forCall (fun _ _ => 0) ⟨#[], args, []⟩).memory :=
  laidMetH_of_parts3 (fuel := 8) (laidMet_of_run' 8 (by kernel_rfl) (by kernel_rfl)) (by kernel_rfl) (by kernel_rfl)
theorem door_shaped (os : Os) : (World.doorLaid Tryd.prog 35 os).Shaped Tryd.prog := World.shaped_of_RefB (by kernel_rfl) (by kernel_rfl)
end Go.Proofs.YtlmbdpncbmfopaaDoor
