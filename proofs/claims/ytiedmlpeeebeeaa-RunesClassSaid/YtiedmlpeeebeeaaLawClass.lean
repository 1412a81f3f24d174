/-
  The call of RunesClass answers true, and leaves what was there as it is. Conditions: none.
-/
import Derived.Test.YtiedmlpeeebeeaaAwake
namespace Go.Proofs.Ytiedmlpeeebeeaa
open Go.RowKit
set_option linter.unusedSimpArgs false

set_option maxHeartbeats 1000000 in
theorem lawClass (r : Int) (w : World) :
    Calls Try.prog 4 #[.int .i32 r] w fun e w' => e = .returned (.bool true) ∧ Below w.heap.size w w' := by
  have A := Lib.hid awake_any
  have C := Lib.hid (class_any r)
  have D := Lib.hid (refClass_any r)
  go_enter Try.func4, Try.ntmps4
  go_wp2_with (go_at_call 10; ((with_reducible refine (A.out _).mono ?_)))
  rintro e W1 ⟨rfl, b1⟩
  go_wp2_with (first | (go_at_call 13; ((with_reducible refine (C.out _).mono ?_); rintro e w' ⟨rfl, rfl⟩)) | (go_at_call 14; ((with_reducible refine (D.out _).mono ?_); rintro e w' ⟨rfl, rfl⟩)))
  go_ret
  exact ⟨by simp, b1⟩
end Go.Proofs.Ytiedmlpeeebeeaa
