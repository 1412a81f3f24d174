/-
  The call of RunesJoins answers true at a row of one to 400 numbers, and leaves what was there as it is.
-/
import Derived.Test.YtiedmlpeeebeeaaLawJoins
namespace Go.Proofs.Ytiedmlpeeebeeaa
set_option linter.unusedSimpArgs false
set_option linter.unusedVariables false
open Go.RowKit

set_option maxHeartbeats 2000000 in
theorem joins_some (l : List Int) (a : Addr) (cap : Nat) (w : World) (hl : l.length ≤ 400) (hl0 : 0 < l.length) (hr : ∀ k, k < l.length → -2147483648 ≤ l.getD k 0 ∧ l.getD k 0 ≤ 2147483647)
    (hc : ∀ k, k < l.length → w.cell? (a.add k) = some (.int .i32 (l.getD k 0))) (hb : a.block < w.heap.size) :
    Calls Try.prog 7 #[.slice (some a) l.length cap] w fun e w' => e = .returned (.bool true) ∧ Below w.heap.size w w' := by
  have A := Lib.hid awake_any
  have hjl := joinP_len l
  have hjs : (⟨(joinP l).toArray⟩ : ByteArray).size ≤ 4000 := by rw [size_list]; omega
  have js := join_split l
  have R := Lib.hid (right_any ⟨(joinP l).toArray⟩)
  have S := Lib.hid (split_any ⟨(joinP l).toArray⟩ hjs)
  rw [js.2] at R
  rw [js.1] at S
  have J := Lib.hid (fun w h => join_some l a cap w (by omega) hr h)
  have K := Lib.hid (fun w h => refJoin_some l a cap w (by omega) hl0 hr h)
  have HC := Lib.hid hc
  obtain ⟨n, hn⟩ : ∃ n, n = l.length := ⟨_, rfl⟩
  rw [List.length_map] at S
  rw [← hn] at hl hl0 HC J K S ⊢
  have HN := Lib.hid hn
  clear hr hc hjl hjs js hn
  go_enter Try.func7, Try.ntmps7
  go_wp2_with fail
  with_reducible refine (A.out _).mono ?_
  rintro e W1 ⟨rfl, b1⟩
  have z1 := b1.size
  have c1 : ∀ k, k < n → W1.cell? (a.add k) = some (.int .i32 (l.getD k 0)) := fun k hk => (b1.cell (p := a.add k) (by rw [add_block]; exact hb)).trans (HC.out k hk)
  have C1 := Lib.hid c1
  clear c1
  go_wp2_with fail
  with_reducible refine (J.out _ C1.out (by omega)).mono ?_
  rintro e W2 ⟨rfl, b2⟩
  have z2 := b2.size
  have B2 : Below w.heap.size w W2 := b1.trans (b2.mono z1)
  clear b1 b2 C1
  have c2 : ∀ k, k < n → W2.cell? (a.add k) = some (.int .i32 (l.getD k 0)) := fun k hk => (B2.cell (p := a.add k) (by rw [add_block]; exact hb)).trans (HC.out k hk)
  have C2 := Lib.hid c2
  clear c2
  go_wp2_with fail
  with_reducible refine (K.out _ C2.out (by omega)).mono ?_
  rintro e W3 ⟨rfl, b3⟩
  have z3 := b3.size
  have B3 : Below w.heap.size w W3 := B2.trans (b3.mono (by omega))
  clear b3 B2 C2
  go_wp2_with fail
  with_reducible refine (R.out _).mono ?_
  rintro e W4 ⟨rfl, b4⟩
  have z4 := b4.size
  have B4 : Below w.heap.size w W4 := B3.trans (b4.mono (by omega))
  clear b4 B3
  go_wp2_with fail
  with_reducible refine (S.out _).mono ?_
  rintro e W5 ⟨v, rfl, o5, b5⟩
  have z5 := b5.size
  have B5 : Below w.heap.size w W5 := B4.trans (b5.mono (by omega))
  clear b5 B4
  obtain ⟨g, c, rfl⟩ := Go.Joins.ownsRow_form o5 hl0
  have lg := (o5.lt g rfl).2
  have HM : Hid (∀ k, k < n → k < l.length → W5.cell? ⟨g, k, none⟩ = some (.int .i32 (fixr (l.getD k 0)))) := Lib.hid (fun k hk hk' => by
    rw [o5.cellAt k (by omega)]
    simp [List.getD, hk'])
  clear o5
  go_wp2
  go_loopw [5] (fun i wr => ∃ k : Nat, k ≤ n ∧ i = .int .i64 (k : Int) ∧ Below w.heap.size w wr ∧ Below W5.heap.size W5 wr) (fun i _ => n - (intOf i).toNat)
  case atStart => exact ⟨0, Nat.zero_le _, rfl, B5, Below.refl _ _⟩
  case round =>
    obtain ⟨k, hk, rfl, hbw, hb5⟩ := hrel
    by_cases hlt : k < n
    · have hlt' : (k : Int) < (n : Int) := by omega
      have x1 := (hb5.cell (p := ⟨g, k, none⟩) lg).trans (HM.out k hlt (by rw [← HN.out]; exact hlt))
      have x2 := (hbw.cell (p := a.add k) (by rw [add_block]; exact hb)).trans (HC.out k hlt)
      obtain ⟨r, hr⟩ : ∃ r, r = l.getD k 0 := ⟨_, rfl⟩
      rw [← hr] at x1 x2
      clear hr
      by_cases hf : fixr r = r
      · rw [hf] at x1
        have y1 : wr.drew.cell? ⟨g, k, none⟩ = _ := x1
        have y2 : wr.drew.cell? (a.add k) = _ := x2
        clear hf
        go_wp2
        first
          | go_region
          | fail
        go_wp2
        go_roundw
        case rel => exact ⟨k + 1, by omega, by go_num, hbw.drew, hb5.drew⟩
        case measure => simp [intOf]; omega
      · have hf2 : fixr r = 65533 := by
          unfold fixr at hf ⊢
          split at hf
          · rename_i h; rw [if_pos h]
          · exact absurd rfl hf
        rw [hf2] at x1 hf
        have hf3 : ((65533 : Int) == r) = false := by simpa using hf
        have hf4 : ((65533 : Int) != r) = true := by simpa using hf
        have hf5 : ¬ r = 65533 := fun h => hf h.symm
        have y1 : wr.drew.cell? ⟨g, k, none⟩ = _ := x1
        have y2 : wr.drew.cell? (a.add k) = _ := x2
        go_wp2
        first
          | go_region
          | fail
        go_wp2
        go_roundw
        case rel => exact ⟨k + 1, by omega, by go_num, hbw.drew, hb5.drew⟩
        case measure => simp [intOf]; omega
    · obtain rfl : k = n := by omega
      go_wp2
      go_ret
      exact ⟨rfl, hbw⟩
end Go.Proofs.Ytiedmlpeeebeeaa
