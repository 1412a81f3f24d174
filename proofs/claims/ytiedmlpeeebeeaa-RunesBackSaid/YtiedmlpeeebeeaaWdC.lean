/-
  The contract of the reference's Width: it answers the width. Conditions: a place within; no longer than 4000.
-/
import Derived.Test.YtiedmlpeeebeeaaWk
namespace Go.Proofs.Ytiedmlpeeebeeaa
open Go.RowKit
set_option linter.unusedSimpArgs false

set_option maxHeartbeats 1000000 in
theorem width_c0 (s : ByteArray) (i : Nat) (h : i < s.size) (hs : s.size ≤ 4000) (hb : bt s i = 224) (w : World) :
    Calls Try.prog 29 #[.string s, .int .i64 i] w fun e w' => e = .returned (.int .i64 (wd s i)) ∧ w = w' := by
  have I := Lib.hid (in_any s)
  have e1 : IntKind.i64.wrap ((i : Int) + 1) = (i : Int) + 1 := IntWalk.i64_in _ (by omega)
  have e2 : IntKind.i64.wrap ((i : Int) + 2) = (i : Int) + 2 := IntWalk.i64_in _ (by omega)
  have e3 : IntKind.i64.wrap ((i : Int) + 3) = (i : Int) + 3 := IntWalk.i64_in _ (by omega)
  have t0 : ((i : Int)).toNat = i := by omega
  have t1 : ((i : Int) + 1).toNat = i + 1 := by omega
  have t2 : ((i : Int) + 2).toNat = i + 2 := by omega
  have t3 : ((i : Int) + 3).toNat = i + 3 := by omega
  go_enter Try.func29, Try.ntmps29
  go_wp2_with (go_at_call 37; ((with_reducible refine (I.out _ _ _ (by omega) _).mono ?_); rintro e w' (⟨rfl, hp, rfl⟩ | ⟨rfl, hp, rfl⟩) <;> simp only [t0, t1, t2, t3] at hp <;> first | (exfalso; omega) | skip))
  all_goals
    go_ret
    refine ⟨?_, rfl⟩
  all_goals first
    | (show Ending.returned (Value.int .i64 ((0 : Nat) : Int)) = _; rw [show wd s i = 0 by unfold wd In; rw [if_neg (by omega), if_neg (by omega), if_neg (by omega), if_neg (by omega)]])
    | (show Ending.returned (Value.int .i64 ((1 : Nat) : Int)) = _; rw [show wd s i = 1 by unfold wd In; rw [if_pos (by omega)]])
    | (show Ending.returned (Value.int .i64 ((2 : Nat) : Int)) = _; rw [show wd s i = 2 by unfold wd In; rw [if_neg (by omega), if_pos (by omega)]])
    | (show Ending.returned (Value.int .i64 ((3 : Nat) : Int)) = _; rw [show wd s i = 3 by unfold wd In; rw [if_neg (by omega), if_neg (by omega), if_pos (by omega)]])
    | (show Ending.returned (Value.int .i64 ((4 : Nat) : Int)) = _; rw [show wd s i = 4 by unfold wd In; rw [if_neg (by omega), if_neg (by omega), if_neg (by omega), if_pos (by omega)]])

set_option maxHeartbeats 1000000 in
theorem width_c1 (s : ByteArray) (i : Nat) (h : i < s.size) (hs : s.size ≤ 4000) (hb : 225 ≤ bt s i ∧ bt s i < 237) (w : World) :
    Calls Try.prog 29 #[.string s, .int .i64 i] w fun e w' => e = .returned (.int .i64 (wd s i)) ∧ w = w' := by
  have I := Lib.hid (in_any s)
  have e1 : IntKind.i64.wrap ((i : Int) + 1) = (i : Int) + 1 := IntWalk.i64_in _ (by omega)
  have e2 : IntKind.i64.wrap ((i : Int) + 2) = (i : Int) + 2 := IntWalk.i64_in _ (by omega)
  have e3 : IntKind.i64.wrap ((i : Int) + 3) = (i : Int) + 3 := IntWalk.i64_in _ (by omega)
  have t0 : ((i : Int)).toNat = i := by omega
  have t1 : ((i : Int) + 1).toNat = i + 1 := by omega
  have t2 : ((i : Int) + 2).toNat = i + 2 := by omega
  have t3 : ((i : Int) + 3).toNat = i + 3 := by omega
  go_enter Try.func29, Try.ntmps29
  go_wp2_with (go_at_call 37; ((with_reducible refine (I.out _ _ _ (by omega) _).mono ?_); rintro e w' (⟨rfl, hp, rfl⟩ | ⟨rfl, hp, rfl⟩) <;> simp only [t0, t1, t2, t3] at hp <;> first | (exfalso; omega) | skip))
  all_goals
    go_ret
    refine ⟨?_, rfl⟩
  all_goals first
    | (show Ending.returned (Value.int .i64 ((0 : Nat) : Int)) = _; rw [show wd s i = 0 by unfold wd In; rw [if_neg (by omega), if_neg (by omega), if_neg (by omega), if_neg (by omega)]])
    | (show Ending.returned (Value.int .i64 ((1 : Nat) : Int)) = _; rw [show wd s i = 1 by unfold wd In; rw [if_pos (by omega)]])
    | (show Ending.returned (Value.int .i64 ((2 : Nat) : Int)) = _; rw [show wd s i = 2 by unfold wd In; rw [if_neg (by omega), if_pos (by omega)]])
    | (show Ending.returned (Value.int .i64 ((3 : Nat) : Int)) = _; rw [show wd s i = 3 by unfold wd In; rw [if_neg (by omega), if_neg (by omega), if_pos (by omega)]])
    | (show Ending.returned (Value.int .i64 ((4 : Nat) : Int)) = _; rw [show wd s i = 4 by unfold wd In; rw [if_neg (by omega), if_neg (by omega), if_neg (by omega), if_pos (by omega)]])

set_option maxHeartbeats 1000000 in
theorem width_c2 (s : ByteArray) (i : Nat) (h : i < s.size) (hs : s.size ≤ 4000) (hb : bt s i = 237) (w : World) :
    Calls Try.prog 29 #[.string s, .int .i64 i] w fun e w' => e = .returned (.int .i64 (wd s i)) ∧ w = w' := by
  have I := Lib.hid (in_any s)
  have e1 : IntKind.i64.wrap ((i : Int) + 1) = (i : Int) + 1 := IntWalk.i64_in _ (by omega)
  have e2 : IntKind.i64.wrap ((i : Int) + 2) = (i : Int) + 2 := IntWalk.i64_in _ (by omega)
  have e3 : IntKind.i64.wrap ((i : Int) + 3) = (i : Int) + 3 := IntWalk.i64_in _ (by omega)
  have t0 : ((i : Int)).toNat = i := by omega
  have t1 : ((i : Int) + 1).toNat = i + 1 := by omega
  have t2 : ((i : Int) + 2).toNat = i + 2 := by omega
  have t3 : ((i : Int) + 3).toNat = i + 3 := by omega
  go_enter Try.func29, Try.ntmps29
  go_wp2_with (go_at_call 37; ((with_reducible refine (I.out _ _ _ (by omega) _).mono ?_); rintro e w' (⟨rfl, hp, rfl⟩ | ⟨rfl, hp, rfl⟩) <;> simp only [t0, t1, t2, t3] at hp <;> first | (exfalso; omega) | skip))
  all_goals
    go_ret
    refine ⟨?_, rfl⟩
  all_goals first
    | (show Ending.returned (Value.int .i64 ((0 : Nat) : Int)) = _; rw [show wd s i = 0 by unfold wd In; rw [if_neg (by omega), if_neg (by omega), if_neg (by omega), if_neg (by omega)]])
    | (show Ending.returned (Value.int .i64 ((1 : Nat) : Int)) = _; rw [show wd s i = 1 by unfold wd In; rw [if_pos (by omega)]])
    | (show Ending.returned (Value.int .i64 ((2 : Nat) : Int)) = _; rw [show wd s i = 2 by unfold wd In; rw [if_neg (by omega), if_pos (by omega)]])
    | (show Ending.returned (Value.int .i64 ((3 : Nat) : Int)) = _; rw [show wd s i = 3 by unfold wd In; rw [if_neg (by omega), if_neg (by omega), if_pos (by omega)]])
    | (show Ending.returned (Value.int .i64 ((4 : Nat) : Int)) = _; rw [show wd s i = 4 by unfold wd In; rw [if_neg (by omega), if_neg (by omega), if_neg (by omega), if_pos (by omega)]])

set_option maxHeartbeats 1000000 in
theorem width_c3 (s : ByteArray) (i : Nat) (h : i < s.size) (hs : s.size ≤ 4000) (hb : 238 ≤ bt s i ∧ bt s i < 240) (w : World) :
    Calls Try.prog 29 #[.string s, .int .i64 i] w fun e w' => e = .returned (.int .i64 (wd s i)) ∧ w = w' := by
  have I := Lib.hid (in_any s)
  have e1 : IntKind.i64.wrap ((i : Int) + 1) = (i : Int) + 1 := IntWalk.i64_in _ (by omega)
  have e2 : IntKind.i64.wrap ((i : Int) + 2) = (i : Int) + 2 := IntWalk.i64_in _ (by omega)
  have e3 : IntKind.i64.wrap ((i : Int) + 3) = (i : Int) + 3 := IntWalk.i64_in _ (by omega)
  have t0 : ((i : Int)).toNat = i := by omega
  have t1 : ((i : Int) + 1).toNat = i + 1 := by omega
  have t2 : ((i : Int) + 2).toNat = i + 2 := by omega
  have t3 : ((i : Int) + 3).toNat = i + 3 := by omega
  go_enter Try.func29, Try.ntmps29
  go_wp2_with (go_at_call 37; ((with_reducible refine (I.out _ _ _ (by omega) _).mono ?_); rintro e w' (⟨rfl, hp, rfl⟩ | ⟨rfl, hp, rfl⟩) <;> simp only [t0, t1, t2, t3] at hp <;> first | (exfalso; omega) | skip))
  all_goals
    go_ret
    refine ⟨?_, rfl⟩
  all_goals first
    | (show Ending.returned (Value.int .i64 ((0 : Nat) : Int)) = _; rw [show wd s i = 0 by unfold wd In; rw [if_neg (by omega), if_neg (by omega), if_neg (by omega), if_neg (by omega)]])
    | (show Ending.returned (Value.int .i64 ((1 : Nat) : Int)) = _; rw [show wd s i = 1 by unfold wd In; rw [if_pos (by omega)]])
    | (show Ending.returned (Value.int .i64 ((2 : Nat) : Int)) = _; rw [show wd s i = 2 by unfold wd In; rw [if_neg (by omega), if_pos (by omega)]])
    | (show Ending.returned (Value.int .i64 ((3 : Nat) : Int)) = _; rw [show wd s i = 3 by unfold wd In; rw [if_neg (by omega), if_neg (by omega), if_pos (by omega)]])
    | (show Ending.returned (Value.int .i64 ((4 : Nat) : Int)) = _; rw [show wd s i = 4 by unfold wd In; rw [if_neg (by omega), if_neg (by omega), if_neg (by omega), if_pos (by omega)]])

end Go.Proofs.Ytiedmlpeeebeeaa
