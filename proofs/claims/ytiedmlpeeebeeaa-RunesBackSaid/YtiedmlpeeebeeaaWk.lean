/-
  The contracts of the small functions of the reference of runes and of runes: in, Width, value, Class. Conditions: a place is no less than 0.
-/
import Derived.Test.YtiedmlpeeebeeaaBuild
import Derived.Test.YtiedmlpeeebeeaaPlain
namespace Go.Proofs.Ytiedmlpeeebeeaa
open Go.RowKit
set_option linter.unusedSimpArgs false

theorem bt_eq (s : ByteArray) (i : Nat) (h : i < s.size) : bt s i = (s[i]'h).toNat := by
  unfold bt
  cases s with
  | mk d =>
    show (d[i]!).toNat = (d[i]'h).toNat
    rw [getElem!_pos d i h]

set_option maxHeartbeats 400000 in
theorem in_far (s : ByteArray) (i : Nat) (a b : Int) (w : World) (h : ¬ i < s.size) :
    Calls Try.prog 37 #[.string s, .int .i64 i, .int .u8 a, .int .u8 b] w fun e w' => e = .returned (.bool false) ∧ w = w' := by
  have h1 : ¬ (i : Int) < (s.size : Int) := by omega
  go_enter Try.func37, Try.ntmps37
  go_wp2
  go_ret
  exact ⟨rfl, rfl⟩

set_option maxHeartbeats 400000 in
theorem in_near (s : ByteArray) (i : Nat) (a b : Int) (w : World) (h : i < s.size) :
    Calls Try.prog 37 #[.string s, .int .i64 i, .int .u8 a, .int .u8 b] w fun e w' => e = .returned (.bool (decide (a ≤ (bt s i : Int)) && decide ((bt s i : Int) ≤ b))) ∧ w = w' := by
  have h1 : (i : Int) < (s.size : Int) := by omega
  rw [bt_eq s i h]
  by_cases q1 : a ≤ ((s[i]'h).toNat : Int)
  · by_cases q2 : ((s[i]'h).toNat : Int) ≤ b
    · go_enter Try.func37, Try.ntmps37
      go_wp2
      go_ret
      simp [q1, q2]
    · go_enter Try.func37, Try.ntmps37
      go_wp2
      go_ret
      simp [q1, q2]
  · go_enter Try.func37, Try.ntmps37
    go_wp2
    go_ret
    refine ⟨?_, rfl⟩
    have : decide (a ≤ ((s[i]'h).toNat : Int)) = false := by simp; omega
    rw [this]; rfl

theorem in_any (s : ByteArray) (k a b : Int) (h0 : 0 ≤ k) (w : World) :
    Calls Try.prog 37 #[.string s, .int .i64 k, .int .u8 a, .int .u8 b] w fun e w' =>
      (e = .returned (.bool true) ∧ (k < s.size ∧ a ≤ (bt s k.toNat : Int) ∧ (bt s k.toNat : Int) ≤ b) ∧ w = w') ∨
      (e = .returned (.bool false) ∧ ¬ (k < s.size ∧ a ≤ (bt s k.toNat : Int) ∧ (bt s k.toNat : Int) ≤ b) ∧ w = w') := by
  obtain ⟨i, rfl⟩ := Int.eq_ofNat_of_zero_le h0
  show Calls Try.prog 37 #[.string s, .int .i64 (i : Int), .int .u8 a, .int .u8 b] w _
  by_cases h : i < s.size
  · refine (in_near s i a b w h).mono ?_
    rintro e w' ⟨rfl, rfl⟩
    simp only [Int.toNat_natCast]
    by_cases q1 : a ≤ (bt s i : Int)
    · by_cases q2 : (bt s i : Int) ≤ b
      · left
        refine ⟨by simp [q1, q2], by omega, trivial⟩
      · right
        refine ⟨by simp [q1, q2], by omega, trivial⟩
    · right
      refine ⟨by rw [show decide (a ≤ (bt s i : Int)) = false by simp; omega]; rfl, by omega, trivial⟩
  · refine (in_far s i a b w h).mono ?_
    rintro e w' ⟨rfl, rfl⟩
    exact .inr ⟨rfl, by omega, rfl⟩

/-- The class of a rune. -/
def classP (r : Int) : Int :=
  if 97 ≤ r ∧ r ≤ 122 then 1 else if 48 ≤ r ∧ r ≤ 57 then 2 else if r = 32 ∨ r = 9 then 3 else if r = 34 ∨ r = 92 then 4 else if 33 ≤ r ∧ r ≤ 126 then 5 else 0
set_option maxHeartbeats 1000000 in
theorem class_any (r : Int) (w : World) :
    Calls Try.prog 13 #[.int .i32 r] w fun e w' => e = .returned (.int .i64 (classP r)) ∧ w = w' := by
  go_enter Try.func13, Try.ntmps13
  go_wp2
  all_goals
    go_ret
    refine ⟨?_, rfl⟩
  all_goals
    unfold classP
    (try simp only [Bool.or_eq_true, Bool.and_eq_true, beq_iff_eq, decide_eq_true_eq, Bool.not_eq_true, Bool.or_eq_false_iff, beq_eq_false_iff_ne, decide_eq_false_iff_not] at *)
    (repeat' split)
    all_goals first | rfl | (exfalso; omega) | (exfalso; simp_all)
set_option maxHeartbeats 1000000 in
theorem refClass_any (r : Int) (w : World) :
    Calls Try.prog 14 #[.int .i32 r] w fun e w' => e = .returned (.int .i64 (classP r)) ∧ w = w' := by
  go_enter Try.func14, Try.ntmps14
  go_wp2
  all_goals
    go_ret
    refine ⟨?_, rfl⟩
  all_goals
    unfold classP
    (try simp only [Bool.or_eq_true, Bool.and_eq_true, beq_iff_eq, decide_eq_true_eq, Bool.not_eq_true, Bool.or_eq_false_iff, beq_eq_false_iff_ne, decide_eq_false_iff_not] at *)
    (repeat' split)
    all_goals first | rfl | (exfalso; omega) | (exfalso; simp_all)
end Go.Proofs.Ytiedmlpeeebeeaa
