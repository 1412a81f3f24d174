/-
  The contract of awake: the document's two examples hold: it answers true. Conditions: none.
-/
import Derived.Test.YtiedmlpeeebeeaaQuoW
namespace Go.Proofs.Ytiedmlpeeebeeaa
open Go.RowKit
set_option linter.unusedSimpArgs false

theorem ex_quote : quoteP ⟨#[97, 34, 255]⟩ = [34, 97, 92, 34, 92, 120, 102, 102, 34] := by decide +kernel
theorem ex_right : rightP ⟨#[226, 130]⟩ = 0 := by decide +kernel

set_option maxHeartbeats 1000000 in
theorem awake_any (w : World) :
    Calls Try.prog 10 #[] w fun e w' => e = .returned (.bool true) ∧ Below w.heap.size w w' := by
  have Q := Lib.hid (quote_any ⟨#[97, 34, 255]⟩ (by decide))
  have R := Lib.hid (right_any ⟨#[226, 130]⟩)
  rw [ex_quote] at Q
  rw [ex_right] at R
  go_enter Try.func10, Try.ntmps10
  go_wp2_with (go_at_call 11; ((with_reducible refine (Q.out _).mono ?_)))
  rintro e W1 ⟨rfl, b1⟩
  go_wp2_with (go_at_call 15; ((with_reducible refine (R.out _).mono ?_)))
  rintro e W2 ⟨rfl, b2⟩
  go_wp2
  go_ret
  exact ⟨rfl, b1.trans (b2.mono b1.size)⟩
end Go.Proofs.Ytiedmlpeeebeeaa
