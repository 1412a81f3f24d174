/-
  The call of RunesPlays answers true, and leaves what was there as it is. Conditions: none.
-/
import Derived.Test.YtiedmlpeeebeeaaAwake
import Derived.Test.YtiedmlpeeebeeaaRSplit
import Derived.Test.YtiedmlpeeebeeaaSame
namespace Go.Proofs.Ytiedmlpeeebeeaa
open Go.RowKit
set_option linter.unusedSimpArgs false
set_option linter.unusedVariables false

/-- What the call owns is as it was where nothing that stood has been written. -/
theorem own_below {B : Nat} {e : TypeId} {k : Nat} {v : Value} {n : Nat} {xs : List Value} {w w' : World} (h : w.ownsRow B e k v n xs) (hb : Below w.heap.size w w') : w'.ownsRow B e k v n xs := by
  obtain ⟨h1, h2⟩ := h
  refine ⟨h1, ?_⟩
  rcases h2 with h2 | ⟨g, cap, cur, a, b, c, d⟩
  · exact .inl h2
  · exact .inr ⟨g, cap, cur, a, b, by rw [hb.block g (Array.getElem?_eq_some_iff.1 c).1]; exact c, d⟩
theorem splitF_len (s : ByteArray) : ∀ f i, (splitF s f i).length ≤ f
  | 0, _ => by simp [splitF]
  | f + 1, i => by
    rw [splitF]
    split
    · have := splitF_len s f (i + stp s i); simp; omega
    · simp

set_option maxHeartbeats 1000000 in
theorem lawPlays (s : ByteArray) (w : World) :
    Calls Try.prog 5 #[.string s] w fun e w' => e = .returned (.bool true) ∧ Below w.heap.size w w' := by
  have A := Lib.hid awake_any
  by_cases hs : 400 < s.size
  · have hs' : (400 : Int) < (s.size : Int) := by omega
    go_enter Try.func5, Try.ntmps5
    go_wp2_with fail
    with_reducible refine (A.out _).mono ?_
    rintro e W1 ⟨rfl, b1⟩
    go_wp2_with fail
    with_reducible refine (A.out _).mono ?_
    rintro e W2 ⟨rfl, b2⟩
    go_wp2
    go_ret
    exact ⟨rfl, b1.trans (b2.mono b1.size)⟩
  · have hs' : ¬ (400 : Int) < (s.size : Int) := by omega
    have R := Lib.hid (right_any s)
    have Q := Lib.hid (refRight_any s (by omega))
    have S := Lib.hid (split_any s (by omega))
    have T := Lib.hid (refSplit_any s (by omega))
    have hl : (splitP s).length ≤ s.size := splitF_len s s.size 0
    have L := Lib.hid hl
    have U := Lib.hid (same_eq (splitP s) (by omega))
    clear hl
    go_enter Try.func5, Try.ntmps5
    go_wp2_with fail
    with_reducible refine (A.out _).mono ?_
    rintro e W1 ⟨rfl, b1⟩
    have z1 := b1.size
    go_wp2_with fail
    with_reducible refine (R.out _).mono ?_
    rintro e W2 ⟨rfl, b2⟩
    have z2 := b2.size
    go_wp2_with fail
    with_reducible refine (Q.out _).mono ?_
    rintro e w' ⟨rfl, rfl⟩
    go_wp2_with fail
    with_reducible refine (S.out _).mono ?_
    rintro e W3 ⟨va, rfl, o3, b3⟩
    have z3 := b3.size
    go_wp2_with fail
    with_reducible refine (T.out _).mono ?_
    rintro e W4 ⟨vb, rfl, o4, b4⟩
    have z4 := b4.size
    have o3' := own_below o3 b4
    go_wp2_with fail
    with_reducible refine (U.out _ _ _ _ _ o3' o4).mono ?_
    rintro e W5 ⟨rfl, b5⟩
    go_wp2
    go_ret
    exact ⟨rfl, (((b1.trans (b2.mono z1)).trans (b3.mono (by omega))).trans (b4.mono (by omega))).trans (b5.mono (by omega))⟩
end Go.Proofs.Ytiedmlpeeebeeaa
