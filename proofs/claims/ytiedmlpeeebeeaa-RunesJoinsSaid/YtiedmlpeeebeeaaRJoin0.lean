/-
  The contract of the reference's Join at an empty row. Conditions: none.
-/
import Derived.Test.YtiedmlpeeebeeaaRJoin
namespace Go.Proofs.Ytiedmlpeeebeeaa
set_option linter.unusedSimpArgs false
set_option linter.unusedVariables false
open Go.RowKit

set_option maxHeartbeats 1000000 in
theorem refJoin_none (ao : Option Addr) (cap : Nat) (w : World) :
    Calls Try.prog 21 #[.slice ao 0 cap] w fun e w' => e = .returned (.string ⟨#[]⟩) ∧ Below w.heap.size w w' := by
  have cv : ∀ w : World, (convert 37 9 (.slice none 0 0)).run Try.prog w = .ok (.string ⟨#[]⟩) w := by
    intro w
    rw [run_convert_bytes_string w 37 9 5 none 0 0 Try.underlying37 Try.underlying5 Try.underlying9]
    rfl
  go_enter Try.func21, Try.ntmps21
  go_wp2
  go_loop [3, 4] (fun v i => v = .slice none 0 0 ∧ i = .int .i64 0) (fun _ i => 0)
  case atStart => exact ⟨rfl, rfl⟩
  case round =>
    obtain ⟨rfl, rfl⟩ := hrel
    go_wp2
    go_ret
    exact ⟨rfl, Below.refl _ _⟩
end Go.Proofs.Ytiedmlpeeebeeaa
