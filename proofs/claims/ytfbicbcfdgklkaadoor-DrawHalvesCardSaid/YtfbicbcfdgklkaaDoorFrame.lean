/-
  What the listed table gives the walks (of_laid), and that the program's own start meets the condition (door_met). No other condition.
-/
import Derived.Test.YtfbicbcfdgklkaaDoorCards
import Derived.Test.YtfbicbcfdgklkaaDoorTie
import Derived.Test.YtfbicbcfdgklkaaDoorWk
import Derived.ProofKit
import Derived.LaidMore
import Derived.OpenShut
import Derived.Stop.Joined
import Derived.SevenTiedAt
import Derived.Lib.LaidTab
import Derived.Below
namespace Go.Proofs.YtfbicbcfdgklkaaDoor
open Go.ChangeShapes Go.WideShapes Go.ChangeAt Go.RowKit

theorem own : ownKnob Tryd.prog.godebug = none := by kernel_rfl
theorem laidOut : laidOutB Tryd.prog = true := by kernel_rfl
theorem gTab : Tryd.prog.globalNamed "math/bits.deBruijn32tab" = some 0 := by kernel_rfl
theorem tTab : (Tryd.prog.globals[0]?).map (·.type) = some 35 := by kernel_rfl

/-- What the rows list. -/
def laid1 : List (String × DataW Unit) := [("math/bits.deBruijn32tab", Rows.laid_math_bits_deBruijn32tab)]

theorem door_met (os : Os) (args : Array Value) : laidMetH Tryd.prog laid1 ((World.doorLaid Tryd.prog 400 os).forCall (fun _ _ => 0) ⟨#[], args, []⟩).memory :=
  laidMetH_of_parts3 (fuel := 8) (laidMet_of_run' 8 (by kernel_rfl) (by kernel_rfl)) (by kernel_rfl) (by kernel_rfl)

/-- The table as integers. -/
def tabZ : List Int := Lib.deBruijn32tab.map fun n : Nat => (n : Int)

theorem tab_data : laid1 = [("math/bits.deBruijn32tab", Lib.tabData .u8 tabZ)] := rfl

theorem of_laid {W : World} (h : laidMetH Tryd.prog laid1 W) : Tab W := by
  rw [MakeChecks.laidMetH_plain _ _ _ (by kernel_rfl), tab_data] at h
  have hv := Lib.tabIs_of_head gTab tTab Tryd.underlying35 Tryd.underlying5 (by kernel_rfl) (by kernel_rfl) h
  intro j hj
  have := World.var?_cell gTab hv j
  rw [this]
  simp [tabZ, List.getD, List.getElem?_eq_getElem hj]
end Go.Proofs.YtfbicbcfdgklkaaDoor
