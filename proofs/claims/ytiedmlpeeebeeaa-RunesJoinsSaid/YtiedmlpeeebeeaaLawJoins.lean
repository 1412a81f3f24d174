/-
  The call of RunesJoins answers true, and leaves what was there as it is. Conditions: as each law says.
-/
import Derived.Test.YtiedmlpeeebeeaaRJoin0
import Derived.Test.YtiedmlpeeebeeaaLawPlays
namespace Go.Proofs.Ytiedmlpeeebeeaa
set_option linter.unusedSimpArgs false
set_option linter.unusedVariables false
open Go.RowKit

set_option maxHeartbeats 1000000 in
theorem joins_big (ao : Option Addr) (n cap : Nat) (hn : 400 < n) (w : World) :
    Calls Try.prog 7 #[.slice ao n cap] w fun e w' => e = .returned (.bool true) ∧ Below w.heap.size w w' := by
  have A := Lib.hid awake_any
  have hs' : (400 : Int) < (n : Int) := by omega
  go_enter Try.func7, Try.ntmps7
  go_wp2_with fail
  with_reducible refine (A.out _).mono ?_
  rintro e W1 ⟨rfl, b1⟩
  go_wp2_with fail
  with_reducible refine (A.out _).mono ?_
  rintro e W2 ⟨rfl, b2⟩
  go_wp2
  go_ret
  exact ⟨rfl, b1.trans (b2.mono b1.size)⟩

set_option maxHeartbeats 1000000 in
theorem joins_none (ao : Option Addr) (cap : Nat) (w : World) :
    Calls Try.prog 7 #[.slice ao 0 cap] w fun e w' => e = .returned (.bool true) ∧ Below w.heap.size w w' := by
  have A := Lib.hid awake_any
  have J := Lib.hid (join_none ao cap)
  have K := Lib.hid (refJoin_none ao cap)
  have R := Lib.hid (right_any ⟨#[]⟩)
  have S := Lib.hid (split_any ⟨#[]⟩ (by decide))
  rw [show rightP ⟨#[]⟩ = -1 from rfl] at R
  go_enter Try.func7, Try.ntmps7
  go_wp2_with fail
  with_reducible refine (A.out _).mono ?_
  rintro e W1 ⟨rfl, b1⟩
  have z1 := b1.size
  go_wp2_with fail
  with_reducible refine (J.out _).mono ?_
  rintro e W2 ⟨rfl, b2⟩
  have z2 := b2.size
  go_wp2_with fail
  with_reducible refine (K.out _).mono ?_
  rintro e W3 ⟨rfl, b3⟩
  have z3 := b3.size
  go_wp2_with fail
  with_reducible refine (R.out _).mono ?_
  rintro e W4 ⟨rfl, b4⟩
  have z4 := b4.size
  go_wp2_with fail
  with_reducible refine (S.out _).mono ?_
  rintro e W5 ⟨v, rfl, o5, b5⟩
  have hB : Below w.heap.size w W5 := (((b1.trans (b2.mono z1)).trans (b3.mono (by omega))).trans (b4.mono (by omega))).trans (b5.mono (by omega))
  obtain ⟨bo, cb, rfl⟩ : ∃ bo cb, v = .slice bo 0 cb := by
    rcases Go.Joins.ownsRow_forms o5 with ⟨h, _⟩ | ⟨g, c, h⟩
    · exact ⟨_, _, h⟩
    · exact ⟨_, _, h⟩
  clear o5 b1 b2 b3 b4 b5
  go_wp2
  go_loop [5] (fun i => i = .int .i64 0) (fun i => 0)
  case atStart => rfl
  case round =>
    subst hrel
    go_wp2
    go_ret
    exact ⟨rfl, hB⟩
end Go.Proofs.Ytiedmlpeeebeeaa
