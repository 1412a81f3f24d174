/-
  The contracts of runes.whole, runes.Right and of the reference's Right: the first place at which no rune stands. Condition: a text no longer than 4000.
-/
import Derived.Test.YtiedmlpeeebeeaaPl2
import Derived.Test.YtiedmlpeeebeeaaWd
import Derived.BigCall
import Derived.Lib.IndexBytes
namespace Go.Proofs.Ytiedmlpeeebeeaa
open Go.RowKit
set_option linter.unusedSimpArgs false

set_option maxHeartbeats 1000000 in
theorem whole_any (s : ByteArray) (i : Nat) (h : i < s.size) (w : World) :
    Calls Try.prog 26 #[.string s, .int .i64 i, .int .i32 ((Utf8.decode s i).1 : Int)] w fun e w' => e = .returned (.bool (decide (wd s i ≠ 0))) ∧ w = w' := by
  rw [dec1 h]
  have hi : (i : Int) ≤ (s.size : Int) := by omega
  have hf := fault s i h
  have H := Lib.hid (Try.strings_HasPrefix (s.extract i s.size) ⟨#[239, 191, 189]⟩)
  obtain ⟨r, hr⟩ : ∃ r, r = rn s i := ⟨_, rfl⟩
  rw [← hr] at hf ⊢
  by_cases hn : r = 65533
  · replace hf := hf hn
    subst hn
    have hx : Lib.hasPrefix (s.extract i s.size).data.toList (⟨#[239, 191, 189]⟩ : ByteArray).data.toList = decide (wd s i ≠ 0) := by
      rw [Lib.extract_to_end]
      have hp := prefix3 s.data.toList i 239 191 189
      have g0 := getD_bt s i
      have g1 := getD_bt s (i + 1)
      have g2 := getD_bt s (i + 2)
      rw [← Lib.size_eq] at hp
      have key : (Lib.hasPrefix (s.data.toList.drop i) [239, 191, 189] = true) ↔ wd s i ≠ 0 := by
        rw [hf]
        unfold Lib.hasPrefix
        rw [hp]
        constructor
        · rintro ⟨a, b, c, d⟩
          rw [b] at g0; rw [c] at g1; rw [d] at g2
          exact ⟨a, g0.symm, g1.symm, g2.symm⟩
        · rintro ⟨a, b, c, d⟩
          refine ⟨a, ?_, ?_, ?_⟩
          · exact UInt8.toNat_inj.1 (g0.trans b)
          · exact UInt8.toNat_inj.1 (g1.trans c)
          · exact UInt8.toNat_inj.1 (g2.trans d)
      show Lib.hasPrefix (s.data.toList.drop i) [239, 191, 189] = _
      rcases Bool.eq_false_or_eq_true (Lib.hasPrefix (s.data.toList.drop i) [239, 191, 189]) with q | q
      · rw [q]; exact (decide_eq_true (key.1 q)).symm
      · rw [q]; exact (decide_eq_false (fun h => by rw [key.2 h] at q; cases q)).symm
    rw [hx] at H
    clear hf hx hr
    go_enter Try.func26, Try.ntmps26
    go_wp2_with (go_at_call 36; ((with_reducible refine (H.out _).mono ?_); rintro e w' ⟨rfl, rfl⟩))
    go_ret
    simp
  · have hwd : wd s i ≠ 0 := fun e => hn (by rw [hr]; unfold rn; rw [if_pos e])
    rw [decide_eq_true hwd]
    have hz : (r : Int) ≠ 65533 := by omega
    have hz2 : ((r : Int) == 65533) = false := by simpa using hz
    clear hf hr hwd
    go_enter Try.func26, Try.ntmps26
    go_wp2
    go_ret
    exact ⟨rfl, rfl⟩

set_option maxHeartbeats 2000000 in
theorem refRight_any (s : ByteArray) (hs : s.size ≤ 4000) (w : World) :
    Calls Try.prog 16 #[.string s] w fun e w' => e = .returned (.int .i64 (rightP s)) ∧ w = w' := by
  have W := Lib.hid (width_any s)
  have hP : rightF s s.size 0 = rightP s := rfl
  go_enter Try.func16, Try.ntmps16
  go_wp2
  go_loop [3, 4] (fun p _ => ∃ pos fuel : Nat, p = .int .i64 (pos : Int) ∧ pos ≤ s.size ∧ s.size ≤ pos + fuel ∧ rightF s fuel pos = rightP s) (fun p _ => s.size - (intOf p).toNat)
  case atStart => exact ⟨0, s.size, rfl, by omega, by omega, rfl⟩
  case round =>
    obtain ⟨pos, fuel, rfl, hle, hfu, hacc⟩ := hrel
    have HA := Lib.hid hacc
    clear hacc hP
    by_cases hp : pos < s.size
    · have hp' : (pos : Int) < (s.size : Int) := by omega
      obtain ⟨f, rfl⟩ : ∃ f, fuel = f + 1 := ⟨fuel - 1, by omega⟩
      have hin := wd_in s pos hp
      have hun : rightF s (f + 1) pos = if wd s pos = 0 then (pos : Int) else rightF s f (pos + wd s pos) := by rw [rightF, if_pos hp]
      have hst : wd s pos ≠ 0 → stp s pos = wd s pos := fun h => by unfold stp; rw [if_neg h]
      have WW := Lib.hid (W.out pos hp hs)
      obtain ⟨v, hv⟩ : ∃ v, v = wd s pos := ⟨_, rfl⟩
      rw [← hv] at hun hst WW
      by_cases hz : v = 0
      · rw [if_pos hz] at hun
        have HR := Lib.hid (hun.symm.trans HA.out)
        subst hz
        clear hun hst hin HA W hv
        go_wp2_with (go_at_call 29; ((with_reducible refine (WW.out _).mono ?_); rintro e w' ⟨rfl, rfl⟩))
        go_ret
        exact ⟨by rw [← HR.out]; rfl, rfl⟩
      · rw [if_neg hz] at hun
        have HR := Lib.hid (hun.symm.trans HA.out)
        have hz' : ((v : Int) == 0) = false := by simpa using hz
        have hz2 : ¬ (v : Int) = 0 := by omega
        have hin2 : pos + v ≤ s.size := by rw [← hst hz]; exact hin
        have e1 : IntKind.i64.wrap ((pos : Int) + (v : Int)) = (pos : Int) + (v : Int) := IntWalk.i64_in _ (by omega)
        clear hun hst hin HA W hv
        go_wp2_with (go_at_call 29; ((with_reducible refine (WW.out _).mono ?_); rintro e w' ⟨rfl, rfl⟩))
        go_round
        case rel => exact ⟨pos + v, f, by simp, by omega, by omega, HR.out⟩
        case measure => simp [intOf]; omega
    · have hp' : ¬ (pos : Int) < (s.size : Int) := by omega
      go_wp2
      go_ret
      exact ⟨congrArg (fun z => Ending.returned (Value.int .i64 z)) ((rightF_end hp fuel).symm.trans HA.out), rfl⟩

set_option maxHeartbeats 4000000 in
set_option maxRecDepth 1000000 in
theorem right_any (s : ByteArray) (w : World) :
    Calls Try.prog 15 #[.string s] w fun e w' => e = .returned (.int .i64 (rightP s)) ∧ Below w.heap.size w w' := by
  have W := Lib.hid (whole_any s)
  go_enter Try.func15, Try.ntmps15
  go_wp2
  go_loopw [] (fun wr => ∃ (pos fuel : Nat), wr.heap[w.heap.size]? = some (.stringIter s pos) ∧ Below w.heap.size w wr ∧ rightF s fuel pos = rightP s ∧ s.size ≤ pos + fuel) (fun wr => s.size - wr.iterPos w.heap.size)
  case atStart =>
    refine ⟨0, s.size, ?_, (Below.refl _ w).alloc (Nat.le_refl _) _, rfl, by omega⟩
    have := World.iter_heap w s 0
    simpa using this
  case round =>
    obtain ⟨pos, fuel, hit, hbw, hacc, hfu⟩ := hrel
    have HA := Lib.hid hacc
    clear hacc
    have hsz : w.heap.size < wr.heap.size := (Array.getElem?_eq_some_iff.1 hit).1
    by_cases hp : pos < s.size
    · have hnx : ∀ ty, (Instr.next (.pointer (some ⟨w.heap.size, 0, none⟩)) true ty).run Try.prog wr = _ := fun ty => Lib.run_next_any_at wr w.heap.size s pos ty hit hp
      have hit2 := Lib.iterAt_heap wr w.heap.size s pos (pos + (Utf8.decode s pos).2) hit
      have hbw2 := Lib.below_iterAt hbw (k := w.heap.size) (by omega) s (pos + (Utf8.decode s pos).2)
      obtain ⟨f, rfl⟩ : ∃ f, fuel = f + 1 := ⟨fuel - 1, by omega⟩
      have hun : rightF s (f + 1) pos = if wd s pos = 0 then (pos : Int) else rightF s f (pos + wd s pos) := by rw [rightF, if_pos hp]
      have hst : wd s pos ≠ 0 → (Utf8.decode s pos).2 = wd s pos := fun h => by rw [dec2 hp]; unfold stp; rw [if_neg h]
      have hps := stp_pos s pos
      rw [← dec2 hp] at hps
      have WW := Lib.hid (W.out pos hp)
      by_cases hz : wd s pos = 0
      · rw [if_pos hz] at hun
        have HR := Lib.hid (hun.symm.trans HA.out)
        rw [show decide (wd s pos ≠ 0) = false by simp [hz]] at WW
        clear hun hst HA W hz
        go_wp2_with (go_at_call 26; ((with_reducible refine (WW.out _).mono ?_); rintro e w' ⟨rfl, rfl⟩))
        go_ret
        exact ⟨by rw [← HR.out]; rfl, hbw2⟩
      · rw [if_neg hz] at hun
        rw [← hst hz] at hun
        have HR := Lib.hid (hun.symm.trans HA.out)
        rw [show decide (wd s pos ≠ 0) = true by simp [hz]] at WW
        clear hun hst HA W hz
        go_wp2_with (go_at_call 26; ((with_reducible refine (WW.out _).mono ?_); rintro e w' ⟨rfl, rfl⟩))
        go_roundw
        case rel => exact ⟨pos + (Utf8.decode s pos).2, f, hit2, hbw2, HR.out, by omega⟩
        case measure =>
          simp only [World.iterPos, hit2, hit]
          omega
    · have hnx : ∀ ty, (Instr.next (.pointer (some ⟨w.heap.size, 0, none⟩)) true ty).run Try.prog wr = _ := fun ty => Lib.run_next_end_at wr w.heap.size s pos ty hit hp
      go_wp2
      go_ret
      exact ⟨congrArg (fun z => Ending.returned (Value.int .i64 z)) ((rightF_end hp fuel).symm.trans HA.out), hbw⟩
end Go.Proofs.Ytiedmlpeeebeeaa
