/-
  The contracts of the reference's number and of runes.turned: they answer what num and trn say. Conditions: as each says.
-/
import Derived.Test.YtiedmlpeeebeeaaUn
import Derived.Test.YtiedmlpeeebeeaaWk
import Derived.Deep.RegionLaw
namespace Go.Proofs.Ytiedmlpeeebeeaa
open Go.RowKit
set_option linter.unusedSimpArgs false
set_option linter.unusedVariables false

set_option maxHeartbeats 1000000 in
theorem number_any (c : Nat) (hc : c < 256) (w : World) :
    Calls Try.prog 33 #[.int .u8 (c : Int)] w fun e w' => e = .returned (.int .u8 (num c : Int)) ∧ w = w' := by
  by_cases h1 : 48 ≤ c ∧ c ≤ 57
  · have hn := Lib.hid (show (num c : Int) = (c : Int) - 48 by unfold num; rw [if_pos h1]; omega)
    have p1 : (48 : Int) ≤ (c : Int) := by omega
    have p2 : (c : Int) ≤ 57 := by omega
    have p3 : IntKind.u8.wrap ((c : Int) - 48) = (c : Int) - 48 := by rw [IntKind.wrap_u8]; omega
    go_enter Try.func33, Try.ntmps33
    go_wp2
    go_ret
    exact ⟨by rw [hn.out]; rfl, rfl⟩
  · by_cases h2 : 97 ≤ c ∧ c ≤ 102
    · have hn := Lib.hid (show (num c : Int) = (c : Int) - 87 by unfold num; rw [if_neg h1, if_pos h2]; omega)
      have p1 : (48 : Int) ≤ (c : Int) := by omega
      have p2 : ¬ (c : Int) ≤ 57 := by omega
      have p4 : (97 : Int) ≤ (c : Int) := by omega
      have p5 : (c : Int) ≤ 102 := by omega
      have p3 : IntKind.u8.wrap ((c : Int) - 87) = (c : Int) - 87 := by rw [IntKind.wrap_u8]; omega
      go_enter Try.func33, Try.ntmps33
      go_wp2
      go_ret
      exact ⟨by rw [hn.out]; rfl, rfl⟩
    · have hn := Lib.hid (show (num c : Int) = 16 by unfold num; rw [if_neg h1, if_neg h2]; rfl)
      by_cases q1 : (48 : Int) ≤ (c : Int)
      · have p2 : ¬ (c : Int) ≤ 57 := by omega
        by_cases q2 : (97 : Int) ≤ (c : Int)
        · have p5 : ¬ (c : Int) ≤ 102 := by omega
          go_enter Try.func33, Try.ntmps33
          go_wp2
          go_ret
          exact ⟨by rw [hn.out]; rfl, rfl⟩
        · go_enter Try.func33, Try.ntmps33
          go_wp2
          go_ret
          exact ⟨by rw [hn.out]; rfl, rfl⟩
      · have q2 : ¬ (97 : Int) ≤ (c : Int) := by omega
        go_enter Try.func33, Try.ntmps33
        go_wp2
        go_ret
        exact ⟨by rw [hn.out]; rfl, rfl⟩

theorem digit_index (c : Nat) (hc : c < 256) (x : Int) (hx : x = if num c < 16 then (num c : Int) else -1) (w : World) :
    Calls Try.prog 38 #[.string ⟨#[48, 49, 50, 51, 52, 53, 54, 55, 56, 57, 97, 98, 99, 100, 101, 102]⟩, .int .u8 (c : Int)] w fun e w' => e = .returned (.int .i64 x) ∧ w = w' := by
  refine (Try.strings_IndexByte _ _ w).mono ?_
  rintro e w' ⟨rfl, rfl⟩
  have h := index_num ⟨c, hc⟩
  simp only at h
  refine ⟨?_, rfl⟩
  rw [hx, ← h]
  rfl

theorem or_digits : ∀ a b : Fin 16, bits BinOp.or IntKind.i64 ((a.val : Int) * 16) (b.val : Int) = ((a.val * 16 + b.val : Nat) : Int) := by decide +kernel
theorem or_nums (a b : Nat) (ha : a < 16) (hb : b < 16) : bits BinOp.or IntKind.i64 ((a : Int) * 16) (b : Int) = ((a * 16 + b : Nat) : Int) := or_digits ⟨a, ha⟩ ⟨b, hb⟩

set_option maxHeartbeats 4000000 in
theorem turned_any (u : ByteArray) (hs : u.size ≤ 4000) (w : World) :
    Calls Try.prog 32 #[.string u] w fun e w' => e = .returned (.tuple #[.int .u8 ((trn u 0).1 : Int), .int .i64 ((trn u 0).2 : Int)]) ∧ Below w.heap.size w w' := by
  by_cases h0 : 0 < u.size
  · have g0 : (0 : Int) < (u.size : Int) := by omega
    have g1 : ((u.size : Int) == 0) = false := beq_eq_false_iff_ne.mpr (by omega)
    have b0 := bt_eq u 0 h0
    have l0 := bt_lt u 0
    by_cases h1 : bt u 0 = 34 ∨ bt u 0 = 92
    · have ht := trn_one h0 h1
      rcases h1 with h1 | h1
      · have e0 : ((u[0]'h0).toNat : Int) = 34 := by omega
        have HT := Lib.hid ht
        have H1 := Lib.hid h1
        clear ht h1 b0
        go_enter Try.func32, Try.ntmps32
        go_wp2
        go_ret2
        exact ⟨by rw [HT.out, H1.out]; rfl, Below.refl _ _⟩
      · have e0 : ((u[0]'h0).toNat : Int) = 92 := by omega
        have HT := Lib.hid ht
        have H1 := Lib.hid h1
        clear ht h1 b0
        go_enter Try.func32, Try.ntmps32
        go_wp2
        go_ret2
        exact ⟨by rw [HT.out, H1.out]; rfl, Below.refl _ _⟩
    · have e1 : (((u[0]'h0).toNat : Int) == 34) = false := beq_eq_false_iff_ne.mpr (by omega)
      have e2 : (((u[0]'h0).toNat : Int) == 92) = false := beq_eq_false_iff_ne.mpr (by omega)
      by_cases h2 : bt u 0 = 120
      · have e0 : ((u[0]'h0).toNat : Int) = 120 := by omega
        by_cases h3 : 2 < u.size
        · have g3 : ¬ (u.size : Int) ≤ 2 := by omega
          have g4 : (1 : Int) < (u.size : Int) := by omega
          have g5 : (2 : Int) < (u.size : Int) := by omega
          have b1 := bt_eq u 1 (by omega)
          have b2 := bt_eq u 2 (by omega)
          have D1 := Lib.hid (digit_index (u[1]'(by omega)).toNat (UInt8.toNat_lt _) _ rfl)
          have D2 := Lib.hid (digit_index (u[2]'(by omega)).toNat (UInt8.toNat_lt _) _ rfl)
          rw [← b1] at D1
          rw [← b2] at D2
          obtain ⟨n1, hn1⟩ : ∃ n, n = num (bt u 1) := ⟨_, rfl⟩
          obtain ⟨n2, hn2⟩ : ∃ n, n = num (bt u 2) := ⟨_, rfl⟩
          have m1 := num_le (bt u 1)
          have m2 := num_le (bt u 2)
          rw [← hn1] at D1 m1
          rw [← hn2] at D2 m2
          by_cases hk : n1 < 16 ∧ n2 < 16
          · have k1 := hk.1
            have k2 := hk.2
            have ht : trn u 0 = (n1 * 16 + n2, 3) := by rw [hn1, hn2]; exact trn_three (by omega) h2 (by rw [Nat.zero_add, ← hn1]; exact k1) (by rw [Nat.zero_add, ← hn2]; exact k2)
            have f1 : decide ((n1 : Int) < 0) = false := decide_eq_false (by omega)
            have f2 : decide ((n2 : Int) < 0) = false := decide_eq_false (by omega)
            have f5 : ¬ (n1 : Int) < 0 := by omega
            have f6 : ¬ (n2 : Int) < 0 := by omega
            have f3 := or_nums n1 n2 k1 k2
            have f4 : ((n1 * 16 + n2 : Nat) : Int) % 256 = ((n1 * 16 + n2 : Nat) : Int) := by omega
            have F3 := Lib.hid f3
            have F4 := Lib.hid f4
            clear f3 f4
            rw [if_pos k1] at D1
            rw [if_pos k2] at D2
            rw [b1] at D1
            rw [b2] at D2
            have HT := Lib.hid ht
            clear hn1 hn2 m1 m2 b1 b2 b0 h1 h2 ht
            go_enter Try.func32, Try.ntmps32
            go_wp2
            go_region_law (first
              | (go_simp; go_at_call 38; ((with_reducible refine (D1.out _).mono ?_); rintro e w' ⟨rfl, rfl⟩))
              | (go_simp; go_at_call 38; ((with_reducible refine (D2.out _).mono ?_); rintro e w' ⟨rfl, rfl⟩)))
            all_goals
              go_wp2
              go_ret2
              exact ⟨by rw [F3.out, F4.out, HT.out]; rfl, (Below.refl _ _).drew⟩
          · have ht : trn u 0 = (0, 0) := trn_none (by omega) (by rw [Nat.zero_add, Nat.zero_add, ← hn1, ← hn2]; exact fun h => hk h.2.2)
            by_cases k1 : n1 < 16
            · have k2 : ¬ n2 < 16 := fun h => hk ⟨k1, h⟩
              have f1 : decide ((n1 : Int) < 0) = false := decide_eq_false (by omega)
              have f5 : ¬ (n1 : Int) < 0 := by omega
              rw [if_pos k1] at D1
              rw [if_neg k2] at D2
              rw [b1] at D1
              rw [b2] at D2
              have HT := Lib.hid ht
              clear hn1 hn2 m1 m2 b1 b2 b0 h1 h2 ht
              go_enter Try.func32, Try.ntmps32
              go_wp2
              go_region_law (first
                | (go_simp; go_at_call 38; ((with_reducible refine (D1.out _).mono ?_); rintro e w' ⟨rfl, rfl⟩))
                | (go_simp; go_at_call 38; ((with_reducible refine (D2.out _).mono ?_); rintro e w' ⟨rfl, rfl⟩)))
              all_goals
                go_wp2
                go_ret2
                exact ⟨by rw [HT.out]; rfl, (Below.refl _ _).drew⟩
            · by_cases k2 : n2 < 16
              · rw [if_neg k1] at D1
                rw [if_pos k2] at D2
                rw [b1] at D1
                rw [b2] at D2
                have HT := Lib.hid ht
                clear hn1 hn2 m1 m2 b1 b2 b0 h1 h2 ht
                go_enter Try.func32, Try.ntmps32
                go_wp2
                go_region_law (first
                  | (go_simp; go_at_call 38; ((with_reducible refine (D1.out _).mono ?_); rintro e w' ⟨rfl, rfl⟩))
                  | (go_simp; go_at_call 38; ((with_reducible refine (D2.out _).mono ?_); rintro e w' ⟨rfl, rfl⟩)))
                all_goals
                  go_wp2
                  go_ret2
                  exact ⟨by rw [HT.out]; rfl, (Below.refl _ _).drew⟩
              · rw [if_neg k1] at D1
                rw [if_neg k2] at D2
                rw [b1] at D1
                rw [b2] at D2
                have HT := Lib.hid ht
                clear hn1 hn2 m1 m2 b1 b2 b0 h1 h2 ht
                go_enter Try.func32, Try.ntmps32
                go_wp2
                go_region_law (first
                  | (go_simp; go_at_call 38; ((with_reducible refine (D1.out _).mono ?_); rintro e w' ⟨rfl, rfl⟩))
                  | (go_simp; go_at_call 38; ((with_reducible refine (D2.out _).mono ?_); rintro e w' ⟨rfl, rfl⟩)))
                all_goals
                  go_wp2
                  go_ret2
                  exact ⟨by rw [HT.out]; rfl, (Below.refl _ _).drew⟩
        · have g3 : (u.size : Int) ≤ 2 := by omega
          have ht : trn u 0 = (0, 0) := trn_none (by omega) (by omega)
          have HT := Lib.hid ht
          clear ht b0 h1 h2
          go_enter Try.func32, Try.ntmps32
          go_wp2
          go_ret2
          exact ⟨by rw [HT.out]; rfl, Below.refl _ _⟩
      · have e0 : (((u[0]'h0).toNat : Int) != 120) = true := bne_iff_ne.mpr (by omega)
        have ht : trn u 0 = (0, 0) := trn_none (by omega) (by omega)
        have HT := Lib.hid ht
        clear ht b0 h1 h2
        go_enter Try.func32, Try.ntmps32
        go_wp2
        go_ret2
        exact ⟨by rw [HT.out]; rfl, Below.refl _ _⟩
  · have g1 : (u.size : Int) = 0 := by omega
    have ht : trn u 0 = (0, 0) := trn_none (by omega) (by omega)
    have HT := Lib.hid ht
    clear ht
    go_enter Try.func32, Try.ntmps32
    go_wp2
    go_ret2
    exact ⟨by rw [HT.out]; rfl, Below.refl _ _⟩
end Go.Proofs.Ytiedmlpeeebeeaa
