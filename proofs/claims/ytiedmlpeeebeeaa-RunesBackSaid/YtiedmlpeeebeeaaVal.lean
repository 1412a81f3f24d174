/-
  The contract of the reference's value: of one to four bytes. Condition: one to four bytes.
-/
import Derived.Test.YtiedmlpeeebeeaaWk
namespace Go.Proofs.Ytiedmlpeeebeeaa
open Go.RowKit
set_option linter.unusedSimpArgs false

/-- What the reference's value has gathered behind so many bytes. -/
def ac (t : ByteArray) (l : Int) : Nat → Int
  | 0 => 0
  | 1 => (bt t 0 : Int) - l
  | k + 2 => ac t l (k + 1) * 64 + (bt t (k + 1) : Int) - 128
theorem ac_1 (t : ByteArray) (l : Int) : ac t l 1 = (bt t 0 : Int) - l := rfl
theorem ac_succ (t : ByteArray) (l : Int) (j : Nat) (h : 1 ≤ j) : ac t l (j + 1) = ac t l j * 64 + (bt t j : Int) - 128 := by
  obtain ⟨k, rfl⟩ : ∃ k, j = k + 1 := ⟨j - 1, by omega⟩
  rfl
theorem ac_bnd (t : ByteArray) (l : Int) (h0 : 0 ≤ l) (h1 : l ≤ 255) (j : Nat) (hj : 1 ≤ j) (hj3 : j ≤ 3) : -2000000 ≤ ac t l j ∧ ac t l j ≤ 2000000 := by
  have b0 := bt_lt t 0
  have b1 := bt_lt t 1
  have b2 := bt_lt t 2
  have a1 := ac_1 t l
  have a2 := ac_succ t l 1 (by omega)
  have a3 := ac_succ t l 2 (by omega)
  rcases (show j = 1 ∨ j = 2 ∨ j = 3 by omega) with rfl | rfl | rfl
  · omega
  · simp only [Nat.reduceAdd] at a2; omega
  · simp only [Nat.reduceAdd] at a2 a3; omega

set_option maxHeartbeats 1000000 in
theorem value_1 (t : ByteArray) (h : t.size = 1) (w : World) :
    Calls Try.prog 31 #[.string t] w fun e w' => e = .returned (.int .i32 (ac t 0 1)) ∧ w = w' := by
  have b0 := bt_eq t 0 (by omega)
  have l0 := bt_lt t 0
  have a1 := ac_1 t 0
  have hz : (t.size : Int) = 1 := by omega
  have hh0 : (0 : Int) < (t.size : Int) := by omega
  have AS := ac_succ t 0
  have AB := ac_bnd t 0 (by omega) (by omega)
  have BE := bt_eq t
  have BL := bt_lt t
  have hA := Lib.hid AS
  have hB := Lib.hid AB
  have hE := Lib.hid BE
  have hL := Lib.hid BL
  clear AS AB BE BL
  go_enter Try.func31, Try.ntmps31
  go_wp2
  go_loop [3, 4] (fun v i => ∃ j : Nat, 1 ≤ j ∧ j ≤ 1 ∧ v = .int .i32 (ac t 0 j) ∧ i = .int .i64 (j : Int)) (fun _ i => 1 - (intOf i).toNat)
  case atStart => exact ⟨1, by omega, by omega, by rw [a1, b0]; simp, rfl⟩
  case round =>
    obtain ⟨j, hj, hjn, rfl, rfl⟩ := hrel
    obtain rfl : j = 1 := by omega
    go_wp2
    go_ret
    exact ⟨rfl, rfl⟩
set_option maxHeartbeats 1000000 in
theorem value_2 (t : ByteArray) (h : t.size = 2) (w : World) :
    Calls Try.prog 31 #[.string t] w fun e w' => e = .returned (.int .i32 (ac t 192 2)) ∧ w = w' := by
  have b0 := bt_eq t 0 (by omega)
  have l0 := bt_lt t 0
  have a1 := ac_1 t 192
  have hz : (t.size : Int) = 2 := by omega
  have hh0 : (0 : Int) < (t.size : Int) := by omega
  have e0 : IntKind.i32.wrap (((t[0]'(by omega)).toNat : Int) - 192) = ((t[0]'(by omega)).toNat : Int) - 192 := IntWalk.i32_in _ (by omega)
  have AS := ac_succ t 192
  have AB := ac_bnd t 192 (by omega) (by omega)
  have BE := bt_eq t
  have BL := bt_lt t
  have hA := Lib.hid AS
  have hB := Lib.hid AB
  have hE := Lib.hid BE
  have hL := Lib.hid BL
  clear AS AB BE BL
  go_enter Try.func31, Try.ntmps31
  go_wp2
  go_loop [3, 4] (fun v i => ∃ j : Nat, 1 ≤ j ∧ j ≤ 2 ∧ v = .int .i32 (ac t 192 j) ∧ i = .int .i64 (j : Int)) (fun _ i => 2 - (intOf i).toNat)
  case atStart => exact ⟨1, by omega, by omega, by rw [a1, b0], rfl⟩
  case round =>
    obtain ⟨j, hj, hjn, rfl, rfl⟩ := hrel
    by_cases hlt : j < 2
    · have hlt' : (j : Int) < (t.size : Int) := by omega
      have s1 := hA.out j hj
      have s2 := hB.out j hj (by omega)
      have s3 := hE.out j (by omega)
      have s4 := hL.out j
      obtain ⟨c, hc⟩ : ∃ c, c = ac t 192 j := ⟨_, rfl⟩
      rw [← hc] at s1 s2 ⊢
      rw [s3] at s1 s4
      have e1 : IntKind.i32.wrap (c * 64) = c * 64 := IntWalk.i32_in _ (by omega)
      have e2 : IntKind.i32.wrap (c * 64 + ((t[j]'(by omega)).toNat : Int)) = c * 64 + ((t[j]'(by omega)).toNat : Int) := IntWalk.i32_in _ (by omega)
      have e3 : IntKind.i32.wrap (c * 64 + ((t[j]'(by omega)).toNat : Int) - 128) = c * 64 + ((t[j]'(by omega)).toNat : Int) - 128 := IntWalk.i32_in _ (by omega)
      have S1 := Lib.hid s1
      clear s1 s3
      go_wp2
      go_round
      case rel => exact ⟨j + 1, by omega, by omega, by rw [S1.out, hc], by go_num⟩
      case measure => simp [intOf]; omega
    · obtain rfl : j = 2 := by omega
      go_wp2
      go_ret
      exact ⟨rfl, rfl⟩
set_option maxHeartbeats 1000000 in
theorem value_3 (t : ByteArray) (h : t.size = 3) (w : World) :
    Calls Try.prog 31 #[.string t] w fun e w' => e = .returned (.int .i32 (ac t 224 3)) ∧ w = w' := by
  have b0 := bt_eq t 0 (by omega)
  have l0 := bt_lt t 0
  have a1 := ac_1 t 224
  have hz : (t.size : Int) = 3 := by omega
  have hh0 : (0 : Int) < (t.size : Int) := by omega
  have e0 : IntKind.i32.wrap (((t[0]'(by omega)).toNat : Int) - 224) = ((t[0]'(by omega)).toNat : Int) - 224 := IntWalk.i32_in _ (by omega)
  have AS := ac_succ t 224
  have AB := ac_bnd t 224 (by omega) (by omega)
  have BE := bt_eq t
  have BL := bt_lt t
  have hA := Lib.hid AS
  have hB := Lib.hid AB
  have hE := Lib.hid BE
  have hL := Lib.hid BL
  clear AS AB BE BL
  go_enter Try.func31, Try.ntmps31
  go_wp2
  go_loop [3, 4] (fun v i => ∃ j : Nat, 1 ≤ j ∧ j ≤ 3 ∧ v = .int .i32 (ac t 224 j) ∧ i = .int .i64 (j : Int)) (fun _ i => 3 - (intOf i).toNat)
  case atStart => exact ⟨1, by omega, by omega, by rw [a1, b0], rfl⟩
  case round =>
    obtain ⟨j, hj, hjn, rfl, rfl⟩ := hrel
    by_cases hlt : j < 3
    · have hlt' : (j : Int) < (t.size : Int) := by omega
      have s1 := hA.out j hj
      have s2 := hB.out j hj (by omega)
      have s3 := hE.out j (by omega)
      have s4 := hL.out j
      obtain ⟨c, hc⟩ : ∃ c, c = ac t 224 j := ⟨_, rfl⟩
      rw [← hc] at s1 s2 ⊢
      rw [s3] at s1 s4
      have e1 : IntKind.i32.wrap (c * 64) = c * 64 := IntWalk.i32_in _ (by omega)
      have e2 : IntKind.i32.wrap (c * 64 + ((t[j]'(by omega)).toNat : Int)) = c * 64 + ((t[j]'(by omega)).toNat : Int) := IntWalk.i32_in _ (by omega)
      have e3 : IntKind.i32.wrap (c * 64 + ((t[j]'(by omega)).toNat : Int) - 128) = c * 64 + ((t[j]'(by omega)).toNat : Int) - 128 := IntWalk.i32_in _ (by omega)
      have S1 := Lib.hid s1
      clear s1 s3
      go_wp2
      go_round
      case rel => exact ⟨j + 1, by omega, by omega, by rw [S1.out, hc], by go_num⟩
      case measure => simp [intOf]; omega
    · obtain rfl : j = 3 := by omega
      go_wp2
      go_ret
      exact ⟨rfl, rfl⟩
set_option maxHeartbeats 1000000 in
theorem value_4 (t : ByteArray) (h : t.size = 4) (w : World) :
    Calls Try.prog 31 #[.string t] w fun e w' => e = .returned (.int .i32 (ac t 240 4)) ∧ w = w' := by
  have b0 := bt_eq t 0 (by omega)
  have l0 := bt_lt t 0
  have a1 := ac_1 t 240
  have hz : (t.size : Int) = 4 := by omega
  have hh0 : (0 : Int) < (t.size : Int) := by omega
  have e0 : IntKind.i32.wrap (((t[0]'(by omega)).toNat : Int) - 240) = ((t[0]'(by omega)).toNat : Int) - 240 := IntWalk.i32_in _ (by omega)
  have AS := ac_succ t 240
  have AB := ac_bnd t 240 (by omega) (by omega)
  have BE := bt_eq t
  have BL := bt_lt t
  have hA := Lib.hid AS
  have hB := Lib.hid AB
  have hE := Lib.hid BE
  have hL := Lib.hid BL
  clear AS AB BE BL
  go_enter Try.func31, Try.ntmps31
  go_wp2
  go_loop [3, 4] (fun v i => ∃ j : Nat, 1 ≤ j ∧ j ≤ 4 ∧ v = .int .i32 (ac t 240 j) ∧ i = .int .i64 (j : Int)) (fun _ i => 4 - (intOf i).toNat)
  case atStart => exact ⟨1, by omega, by omega, by rw [a1, b0], rfl⟩
  case round =>
    obtain ⟨j, hj, hjn, rfl, rfl⟩ := hrel
    by_cases hlt : j < 4
    · have hlt' : (j : Int) < (t.size : Int) := by omega
      have s1 := hA.out j hj
      have s2 := hB.out j hj (by omega)
      have s3 := hE.out j (by omega)
      have s4 := hL.out j
      obtain ⟨c, hc⟩ : ∃ c, c = ac t 240 j := ⟨_, rfl⟩
      rw [← hc] at s1 s2 ⊢
      rw [s3] at s1 s4
      have e1 : IntKind.i32.wrap (c * 64) = c * 64 := IntWalk.i32_in _ (by omega)
      have e2 : IntKind.i32.wrap (c * 64 + ((t[j]'(by omega)).toNat : Int)) = c * 64 + ((t[j]'(by omega)).toNat : Int) := IntWalk.i32_in _ (by omega)
      have e3 : IntKind.i32.wrap (c * 64 + ((t[j]'(by omega)).toNat : Int) - 128) = c * 64 + ((t[j]'(by omega)).toNat : Int) - 128 := IntWalk.i32_in _ (by omega)
      have S1 := Lib.hid s1
      clear s1 s3
      go_wp2
      go_round
      case rel => exact ⟨j + 1, by omega, by omega, by rw [S1.out, hc], by go_num⟩
      case measure => simp [intOf]; omega
    · obtain rfl : j = 4 := by omega
      go_wp2
      go_ret
      exact ⟨rfl, rfl⟩
end Go.Proofs.Ytiedmlpeeebeeaa
