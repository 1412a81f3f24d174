/-
  The call of RunesUnquotes answers true, and leaves what was there as it is. Conditions: none.
-/
import Derived.Test.YtiedmlpeeebeeaaRUnq
namespace Go.Proofs.Ytiedmlpeeebeeaa
open Go.RowKit
set_option linter.unusedSimpArgs false
set_option linter.unusedVariables false

set_option maxHeartbeats 1000000 in
theorem lawUnquotes (s : ByteArray) (w : World) :
    Calls Try.prog 8 #[.string s] w fun e w' => e = .returned (.bool true) ∧ Below w.heap.size w w' := by
  have A := Lib.hid awake_any
  by_cases hs : 400 < s.size
  · have hs' : (400 : Int) < (s.size : Int) := by omega
    go_enter Try.func8, Try.ntmps8
    go_wp2_with fail
    with_reducible refine (A.out _).mono ?_
    rintro e W1 ⟨rfl, b1⟩
    go_wp2_with fail
    with_reducible refine (A.out _).mono ?_
    rintro e W2 ⟨rfl, b2⟩
    go_wp2
    go_ret
    exact ⟨rfl, b1.trans (b2.mono b1.size)⟩
  · have hs' : ¬ (400 : Int) < (s.size : Int) := by omega
    have Q := Lib.hid (unquote_any s (by omega))
    have R := Lib.hid (refUnquote_any s (by omega))
    obtain ⟨t, ht⟩ : ∃ t, t = unqT s := ⟨_, rfl⟩
    obtain ⟨o, ho⟩ : ∃ o, o = unqO s := ⟨_, rfl⟩
    rw [← ht, ← ho] at Q R
    clear ht ho
    cases o with
    | false =>
      go_enter Try.func8, Try.ntmps8
      go_wp2_with fail
      with_reducible refine (A.out _).mono ?_
      rintro e W1 ⟨rfl, b1⟩
      have z1 := b1.size
      go_wp2_with fail
      with_reducible refine (Q.out _).mono ?_
      rintro e W2 ⟨rfl, b2⟩
      have z2 := b2.size
      go_wp2_with fail
      with_reducible refine (R.out _).mono ?_
      rintro e W3 ⟨rfl, b3⟩
      go_wp2
      go_ret
      exact ⟨by simp, (b1.trans (b2.mono z1)).trans (b3.mono (by omega))⟩
    | true =>
      go_enter Try.func8, Try.ntmps8
      go_wp2_with fail
      with_reducible refine (A.out _).mono ?_
      rintro e W1 ⟨rfl, b1⟩
      have z1 := b1.size
      go_wp2_with fail
      with_reducible refine (Q.out _).mono ?_
      rintro e W2 ⟨rfl, b2⟩
      have z2 := b2.size
      go_wp2_with fail
      with_reducible refine (R.out _).mono ?_
      rintro e W3 ⟨rfl, b3⟩
      go_wp2
      go_ret
      exact ⟨by simp, (b1.trans (b2.mono z1)).trans (b3.mono (by omega))⟩
end Go.Proofs.Ytiedmlpeeebeeaa
