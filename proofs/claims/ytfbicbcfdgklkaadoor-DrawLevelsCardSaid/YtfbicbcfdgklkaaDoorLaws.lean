/-
  The calls of DrawUnlike, DrawLevels and DrawHalves answer true and leave memory as it is. Conditions: the arguments are of their kinds; the table is there (Tab).
-/
import Derived.Test.YtfbicbcfdgklkaaDoorWk
namespace Go.Proofs.YtfbicbcfdgklkaaDoor
open Go.RowKit

theorem ret_bool {a b : Bool} (h : a = b) : Ending.returned (.bool a) = .returned (.bool b) := by rw [h]

theorem next0 (w : World) : Calls Tryd.prog 9 #[.int .u32 0] w fun e w' => e = .returned (.int .u32 0) ∧ w = w' := by
  have h := next_any 0 (by decide) w
  rw [Plain.nx_zero] at h
  exact h

set_option maxHeartbeats 400000 in
theorem unlike_any (a b : Nat) (ha : a < 4294967296) (hb : b < 4294967296) (w : World) (hT : Tab w) :
    Calls Tryd.prog 4 #[.int .u32 a, .int .u32 b] w fun e w' => e = .returned (.bool true) ∧ w = w' := by
  have A := Lib.hid (awake_any w hT)
  have Na := Lib.hid (next_any a ha w)
  have N0 := Lib.hid (next0 w)
  clear hT
  by_cases hab : a = b
  · subst hab
    go_enter Tryd.func4, Tryd.ntmps4
    go_wp2_with (first | (go_at_call 7; ((with_reducible refine A.out.mono ?_); rintro e w' ⟨rfl, rfl⟩)) | (go_at_call 9; ((with_reducible refine Na.out.mono ?_); rintro e w' ⟨rfl, rfl⟩)) | (go_at_call 9; ((with_reducible refine N0.out.mono ?_); rintro e w' ⟨rfl, rfl⟩)))
    go_ret
    exact ⟨rfl, rfl⟩
  · have Nb := Lib.hid (next_any b hb w)
    have f1 : ((a : Int) == (b : Int)) = false := by simp; omega
    obtain ⟨c, hc⟩ : ∃ c, c = Plain.nx a := ⟨_, rfl⟩
    obtain ⟨d, hd⟩ : ∃ d, d = Plain.nx b := ⟨_, rfl⟩
    have hcd : c ≠ d := by rw [hc, hd]; exact fun h => hab (Plain.nx_inj a b ha hb h)
    rw [← hc] at Na
    rw [← hd] at Nb
    have f2 : ((c : Int) == (d : Int)) = false := by simp; omega
    clear hc hd
    go_enter Tryd.func4, Tryd.ntmps4
    go_wp2_with (first | (go_at_call 7; ((with_reducible refine A.out.mono ?_); rintro e w' ⟨rfl, rfl⟩)) | (go_at_call 9; ((with_reducible refine Na.out.mono ?_); rintro e w' ⟨rfl, rfl⟩)) | (go_at_call 9; ((with_reducible refine Nb.out.mono ?_); rintro e w' ⟨rfl, rfl⟩)) | (go_at_call 9; ((with_reducible refine N0.out.mono ?_); rintro e w' ⟨rfl, rfl⟩)))
    go_ret
    exact ⟨rfl, rfl⟩

set_option maxHeartbeats 1000000 in
theorem levels_any (x a b : Nat) (hx : x < 4294967296) (ha : a < 256) (hb : b < 256) (w : World) (hT : Tab w) :
    Calls Tryd.prog 5 #[.int .u32 x, .int .u8 a, .int .u8 b] w fun e w' => e = .returned (.bool true) ∧ w = w' := by
  have A := Lib.hid (awake_any w hT)
  by_cases hab : b < a
  · clear hT
    go_enter Tryd.func5, Tryd.ntmps5
    go_wp2_with (go_at_call 7; ((with_reducible refine A.out.mono ?_); rintro e w' ⟨rfl, rfl⟩))
    go_ret
    exact ⟨rfl, rfl⟩
  · have Ha := Lib.hid (height_any x a hx w hT)
    have Hb := Lib.hid (height_any x b hx w hT)
    clear hT
    obtain ⟨p, hp⟩ : ∃ p, p = Plain.ht x a := ⟨_, rfl⟩
    obtain ⟨q, hq⟩ : ∃ q, q = Plain.ht x b := ⟨_, rfl⟩
    rw [← hp] at Ha
    rw [← hq] at Hb
    unfold Plain.ht Plain.clamp at hp hq
    have c1 : 1 ≤ p := by omega
    have c2 : q ≤ 24 := by omega
    have c3 : p ≤ q := by omega
    have c4 : p = q ∨ (p = a ∧ 1 ≤ a) ∨ (p = 1 ∧ a < 1) := by omega
    clear hp hq
    by_cases hpq : p = q
    · subst hpq
      go_enter Tryd.func5, Tryd.ntmps5
      go_wp2_with (first | (go_at_call 7; ((with_reducible refine A.out.mono ?_); rintro e w' ⟨rfl, rfl⟩)) | (go_at_call 8; ((with_reducible refine Ha.out.mono ?_); rintro e w' ⟨rfl, rfl⟩)) | (go_at_call 8; ((with_reducible refine Hb.out.mono ?_); rintro e w' ⟨rfl, rfl⟩)))
      go_ret
      exact ⟨rfl, rfl⟩
    · have f1 : (p == q) = false := by simp; omega
      rcases c4 with h | ⟨rfl, h⟩ | ⟨rfl, h⟩
      · exact absurd h hpq
      all_goals
        go_enter Tryd.func5, Tryd.ntmps5
        go_wp2_with (first | (go_at_call 7; ((with_reducible refine A.out.mono ?_); rintro e w' ⟨rfl, rfl⟩)) | (go_at_call 8; ((with_reducible refine Ha.out.mono ?_); rintro e w' ⟨rfl, rfl⟩)) | (go_at_call 8; ((with_reducible refine Hb.out.mono ?_); rintro e w' ⟨rfl, rfl⟩)))
        all_goals
          go_ret
          exact ⟨ret_bool (by simp <;> omega), rfl⟩

set_option maxHeartbeats 1000000 in
theorem halves_any (k j : Nat) (hk : k < 256) (hj : j < 256) (w : World) (hT : Tab w) :
    Calls Tryd.prog 3 #[.int .u8 k, .int .u8 j] w fun e w' => e = .returned (.bool true) ∧ w = w' := by
  have A := Lib.hid (awake_any w hT)
  have HT := Lib.hid hT
  clear hT
  obtain ⟨n, hn, hn13⟩ : ∃ n : Nat, (k : Int) % 13 = (n : Int) ∧ n < 13 := ⟨k % 13, by omega, by omega⟩
  obtain ⟨m, hm, hmn⟩ : ∃ m : Nat, (j : Int) % ((n : Int) + 1) = (m : Int) ∧ m ≤ n := ⟨j % (n + 1), by norm_cast, by have := Nat.mod_lt j (show 0 < n + 1 by omega); omega⟩
  obtain ⟨N, hN⟩ : ∃ N, N = 2 ^ n := ⟨_, rfl⟩
  obtain ⟨M, hM⟩ : ∃ M, M = 2 ^ (n - m) := ⟨_, rfl⟩
  have hN1 : N ≤ 4096 := by rw [hN]; exact Nat.pow_le_pow_right (by decide) (show n ≤ 12 by omega)
  have hM1 : M ≤ 4096 := by rw [hM]; exact Nat.pow_le_pow_right (by decide) (show n - m ≤ 12 by omega)
  have wN : wrap64 (2 ^ n) = (N : Int) := by
    have e : ((2 : Int) ^ n) = (N : Int) := by rw [hN]; norm_cast
    rw [e]; unfold wrap64; omega
  have wM : wrap64 (2 ^ (n - m)) = (M : Int) := by
    have e : ((2 : Int) ^ (n - m)) = (M : Int) := by rw [hM]; norm_cast
    rw [e]; unfold wrap64; omega
  have F := Lib.hid (show Plain.many m N = M by rw [hN, hM]; exact Plain.many_pow m n hmn)
  clear hN hM
  go_enter Tryd.func3, Tryd.ntmps3
  go_wp2_with (go_at_call 7; ((with_reducible refine A.out.mono ?_); rintro e w' ⟨rfl, rfl⟩))
  rw [hn, hm]
  go_loop [7, 8] (fun c i => ∃ v : Nat, v ≤ N ∧ c = .int .i64 ((Plain.many m v : Nat) : Int) ∧ i = .int .i64 (v : Int)) (fun _ i => N - (intOf i).toNat)
  case atStart => exact ⟨0, Nat.zero_le _, rfl, rfl⟩
  case round =>
    obtain ⟨v, hv, rfl, rfl⟩ := hrel
    have hle := Plain.many_le m v
    obtain ⟨c, hc⟩ : ∃ c, c = Plain.many m v := ⟨_, rfl⟩
    by_cases hlt : v < N
    · have H := Lib.hid (height_any v 24 (by omega) w HT.out)
      have hab := Plain.ht_above v m (by omega) (by omega)
      have hmo := Plain.many_succ m v
      obtain ⟨h, hh⟩ : ∃ h, h = Plain.ht v 24 := ⟨_, rfl⟩
      rw [← hh] at H hab
      rw [← hc] at hle hmo ⊢
      clear hh hc
      by_cases hb : v % 2 ^ m = 2 ^ m - 1
      · rw [if_pos hb] at hmo
        have HM := Lib.hid hmo
        have hgt : (m : Int) < h := hab.2 hb
        clear hmo hb hab
        go_wp2_with (go_at_call 8; ((with_reducible refine H.out.mono ?_); rintro e w' ⟨rfl, rfl⟩))
        go_round
        case rel => exact ⟨v + 1, by omega, by rw [HM.out]; go_num, by go_num⟩
        case measure => simp [intOf]; omega
      · rw [if_neg hb] at hmo
        have HM := Lib.hid hmo
        have hgt : ¬ (m : Int) < h := fun e => hb (hab.1 e)
        clear hmo hb hab
        go_wp2_with (go_at_call 8; ((with_reducible refine H.out.mono ?_); rintro e w' ⟨rfl, rfl⟩))
        go_round
        case rel => exact ⟨v + 1, by omega, by rw [HM.out]; go_num, by go_num⟩
        case measure => simp [intOf]; omega
    · obtain rfl : v = N := by omega
      rw [← hc] at F hle ⊢
      clear hc
      obtain rfl := F.out
      clear F
      go_wp2
      go_ret
      exact ⟨ret_bool (by simp), rfl⟩
end Go.Proofs.YtfbicbcfdgklkaaDoor
