/-
  The contract of the reference's Split: a row of its own of the text's runes. Condition: a text no longer than 4000.
-/
import Derived.Test.YtiedmlpeeebeeaaSplit
namespace Go.Proofs.Ytiedmlpeeebeeaa
open Go.RowKit
set_option linter.unusedSimpArgs false
set_option linter.unusedVariables false

/-- What value answers of a rune that stands. -/
theorem value_of (s : ByteArray) (pos v : Nat) (hp : pos < s.size) (hv : v = wd s pos) (hne : v ≠ 0) (w : World) :
    Calls Try.prog 31 #[.string (s.extract pos (pos + v))] w fun e w' => e = .returned (.int .i32 (rn s pos : Int)) ∧ w = w' := by
  have hr : rn s pos = vl s pos := by unfold rn; rw [if_neg (by omega)]
  have hin := wd_in s pos hp
  have hst : stp s pos = v := by unfold stp; rw [if_neg (by omega), hv]
  rw [hst] at hin
  have hsz := cut_size s pos v hin
  have hac := ac_vl s pos hp
  rw [← hv] at hac
  rw [hr]
  rcases wd_cases s pos hp with c | ⟨c, _⟩ | ⟨c, _⟩ | ⟨c, _⟩ | ⟨c, _⟩
  · omega
  · obtain rfl : v = 1 := by omega
    rw [← hac.1 rfl]
    exact value_1 _ hsz w
  · obtain rfl : v = 2 := by omega
    rw [← hac.2.1 rfl]
    exact value_2 _ hsz w
  · obtain rfl : v = 3 := by omega
    rw [← hac.2.2.1 rfl]
    exact value_3 _ hsz w
  · obtain rfl : v = 4 := by omega
    rw [← hac.2.2.2 rfl]
    exact value_4 _ hsz w

set_option maxHeartbeats 4000000 in
set_option maxRecDepth 1000000 in
theorem refSplit_any (s : ByteArray) (hs : s.size ≤ 4000) (w : World) :
    Calls Try.prog 19 #[.string s] w fun e w' => ∃ v, e = .returned v ∧ w'.ownsRow w.heap.size 21 1 v (splitP s).length ((splitP s).map (Value.int .i32)) ∧ Below w.heap.size w w' := by
  obtain ⟨i0, hi, hz0, hz1, hz2⟩ := info_parts infoRune
  have WD := Lib.hid (width_any s)
  go_enter Try.func19, Try.ntmps19
  go_wp2
  go_loopw [3, 4] (fun v p wr => ∃ (pos fuel : Nat) (acc : List Int), p = .int .i64 (pos : Int) ∧ Below w.heap.size w wr ∧ wr.ownsRow w.heap.size 21 1 v acc.length (acc.map (Value.int .i32)) ∧ acc ++ splitF s fuel pos = splitP s ∧ s.size ≤ pos + fuel ∧ acc.length ≤ pos ∧ pos ≤ s.size) (fun _ p _ => s.size - (intOf p).toNat)
  case atStart =>
    exact ⟨0, s.size, [], rfl, Below.refl _ w, World.ownsRow_nil _ _ _ _, rfl, by omega, by simp, by omega⟩
  case round =>
    obtain ⟨pos, fuel, acc, rfl, hbw, hown, hacc, hfu, hal, hple⟩ := hrel
    have hbz := hbw.size
    by_cases hp : pos < s.size
    · have hp' : (pos : Int) < (s.size : Int) := by omega
      obtain ⟨f, rfl⟩ : ∃ f, fuel = f + 1 := ⟨fuel - 1, by omega⟩
      have hin := wd_in s pos hp
      have hst := splitF_step hp f
      rw [hst] at hacc
      have HA := Lib.hid hacc
      have WW := Lib.hid (WD.out pos hp hs)
      have VV := Lib.hid (value_of s pos)
      obtain ⟨v, hv⟩ : ∃ v, v = wd s pos := ⟨_, rfl⟩
      rw [← hv] at WW
      have hne : ∀ k, (_ : Value).ownBlock = some k → w.heap.size ≤ k := fun k hk => (hown.lt k hk).1
      clear hst hacc WD
      by_cases hz : v = 0
      · have hs1 : stp s pos = 1 := by unfold stp; rw [if_pos (by omega)]
        have hr1 : rn s pos = 65533 := by unfold rn; rw [if_pos (by omega)]
        rw [hs1, hr1] at HA
        rw [hs1] at hin
        subst hz
        have e1 : IntKind.i64.wrap ((pos : Int) + 1) = (pos : Int) + 1 := IntWalk.i64_in _ (by omega)
        clear hv hs1 hr1 VV
        go_wp2_with (first | (go_at_call 29; ((with_reducible refine (WW.out _).mono ?_); rintro e w' ⟨rfl, rfl⟩)) | (at_builtin; refine wpList_append_own _ rfl _ _ 29 rfl w.heap.size 21 i0 (.int .i32 0) 1 4 Try.underlying29 hi hz0 hz1 hz2 rfl (by decide) _ _ _ rfl (hown.alloc _) ⟨wr.heap.size, 0, none⟩ 1 1 [.int .i32 65533] rfl rfl ?c1 ?c2 ?c3 ?c4 ?c5 ?_))
        case c1 => exact cell_one_new _ _ _
        case c2 => intro u hu; simp at hu; subst hu; rfl
        case c3 => unfold maxLen; omega
        case c4 => omega
        case c5 => simp; omega
        intro v' w1 hown' hgrow _
        have hb3 : Below w.heap.size w w1 := (hbw.alloc (by omega) _).grown hgrow (by simp; omega) (fun k hk => hne k hk)
        clear hgrow hown hne hi hz0 hz1 hz2
        go_wp2
        go_roundw
        case rel =>
          refine ⟨pos + 1, f, acc ++ [65533], by simp, hb3, ?_, by rw [List.append_assoc]; exact HA.out, by omega, by rw [List.length_append]; simp; omega, hin⟩
          rw [List.length_append, List.map_append]
          exact hown'
        case measure => simp [intOf]; omega
      · have hs1 : stp s pos = v := by unfold stp; rw [if_neg (by omega), hv]
        have V2 := Lib.hid (VV.out v hp hv hz)
        rw [hs1] at HA hin
        have hz' : ((v : Int) == 0) = false := by simpa using hz
        have hz2' : ¬ (v : Int) = 0 := by omega
        have hle : v ≤ 4 := by rw [hv]; exact wd_le s pos
        have hin' : (pos : Int) + (v : Int) ≤ (s.size : Int) := by omega
        have e1 : IntKind.i64.wrap ((pos : Int) + (v : Int)) = (pos : Int) + (v : Int) := IntWalk.i64_in _ (by omega)
        obtain ⟨r, hr⟩ : ∃ r, r = rn s pos := ⟨_, rfl⟩
        rw [← hr] at HA V2
        clear hv hs1 VV hr
        go_wp2_with (first | (go_at_call 29; ((with_reducible refine (WW.out _).mono ?_); rintro e w' ⟨rfl, rfl⟩)) | (go_at_call 31; ((with_reducible refine (V2.out _).mono ?_); rintro e w' ⟨rfl, rfl⟩)) | (at_builtin; refine wpList_append_own _ rfl _ _ 29 rfl w.heap.size 21 i0 (.int .i32 0) 1 4 Try.underlying29 hi hz0 hz1 hz2 rfl (by decide) _ _ _ rfl (hown.alloc _) ⟨wr.heap.size, 0, none⟩ 1 1 [.int .i32 (r : Int)] rfl rfl ?c1 ?c2 ?c3 ?c4 ?c5 ?_))
        case c1 => exact cell_one_new _ _ _
        case c2 => intro u hu; simp at hu; subst hu; rfl
        case c3 => unfold maxLen; omega
        case c4 => omega
        case c5 => simp; omega
        intro v' w1 hown' hgrow _
        have hb3 : Below w.heap.size w w1 := (hbw.alloc (by omega) _).grown hgrow (by simp; omega) (fun k hk => hne k hk)
        clear hgrow hown hne hi hz0 hz1 hz2
        go_wp2
        go_roundw
        case rel =>
          refine ⟨pos + v, f, acc ++ [(r : Int)], by simp, hb3, ?_, by rw [List.append_assoc]; exact HA.out, by omega, by rw [List.length_append]; simp; omega, hin⟩
          rw [List.length_append, List.map_append]
          exact hown'
        case measure => simp [intOf]; omega
    · have hp' : ¬ (pos : Int) < (s.size : Int) := by omega
      rw [splitF_end hp, List.append_nil] at hacc
      subst hacc
      go_wp2
      go_ret
      exact ⟨_, rfl, hown, hbw⟩
end Go.Proofs.Ytiedmlpeeebeeaa
