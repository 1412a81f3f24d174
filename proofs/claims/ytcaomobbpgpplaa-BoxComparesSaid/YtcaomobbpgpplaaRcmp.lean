/-
  The contract of the reference's Compare. Conditions: none.
-/
import Derived.Test.YtcaomobbpgpplaaOrd
namespace Go.Proofs.Ytcaomobbpgpplaa
open Go.RowKit

theorem two_below (w : World) (o o' : Obj) : Below w.heap.size w ((w.alloc o).alloc o') := ((Below.refl _ _).alloc (Nat.le_refl _) _).alloc (by simp) _

set_option maxHeartbeats 1000000 in
theorem rcompare_kinds (k n l m : Int) (s t : ByteArray) (h0 : (k != l) = true) (w : World) :
    Calls Try.prog 18 #[.agg #[.int .i64 k, .int .i64 n, .string s], .agg #[.int .i64 l, .int .i64 m, .string t]] w fun e w' => e = .returned (.int .i64 (if k < l then -1 else 1)) ∧ Below w.heap.size w w' := by
  by_cases h : k < l
  all_goals
    first | rw [if_pos h] | rw [if_neg h]
    go_enter Try.func18, Try.ntmps18
    go_wp2
    go_ret
    exact ⟨rfl, two_below _ _ _⟩

theorem bl_turn (x y : List UInt8) : Op.bytesLess y x = !(Op.bytesLess x y || x == y) := by
  rw [bl_cb, bl_cb, cb_turn x y]
  have hz := cb_zero x y
  rcases cb_range x y with e | e | e
  · simp [e]
  · obtain rfl := hz.1 e
    simp [e]
  · have hne : ¬ x = y := fun q => by rw [hz.2 q] at e; exact absurd e (by decide)
    simp [e, hne]

set_option maxHeartbeats 1000000 in
theorem rcompare_same (k n m : Int) (s t : ByteArray) (w : World) :
    Calls Try.prog 18 #[.agg #[.int .i64 k, .int .i64 n, .string s], .agg #[.int .i64 k, .int .i64 m, .string t]] w fun e w' => e = .returned (.int .i64 (if n < m ∨ Op.bytesLess s.toList t.toList = true then -1 else if m < n ∨ Op.bytesLess t.toList s.toList = true then 1 else 0)) ∧ Below w.heap.size w w' := by
  have hk : (k != k) = false := by simp
  by_cases h1 : n < m
  · rw [if_pos (.inl h1)]
    go_enter Try.func18, Try.ntmps18
    go_wp2
    go_ret
    exact ⟨rfl, two_below _ _ _⟩
  · by_cases h2 : Op.bytesLess s.toList t.toList = true
    · rw [if_pos (.inr h2)]
      go_enter Try.func18, Try.ntmps18
      go_wp2
      go_ret
      exact ⟨rfl, two_below _ _ _⟩
    · have h2' : Op.bytesLess s.toList t.toList = false := by simpa using h2
      rw [if_neg (fun h => h.elim h1 h2)]
      by_cases h3 : m < n
      · rw [if_pos (.inl h3)]
        clear h2
        go_enter Try.func18, Try.ntmps18
        go_wp2
        go_ret
        exact ⟨rfl, two_below _ _ _⟩
      · have hg := bl_turn s.toList t.toList
        rw [h2', Bool.false_or] at hg
        by_cases h5 : (s.toList == t.toList) = true
        · rw [h5] at hg
          rw [if_neg (fun h => h.elim h3 (by rw [hg]; decide))]
          clear h2 hg
          go_enter Try.func18, Try.ntmps18
          go_wp2
          go_ret
          exact ⟨rfl, two_below _ _ _⟩
        · have h5' : (s.toList == t.toList) = false := by simpa using h5
          rw [h5'] at hg
          rw [if_pos (.inr hg)]
          clear h2 hg h5
          go_enter Try.func18, Try.ntmps18
          go_wp2
          go_ret
          exact ⟨rfl, two_below _ _ _⟩

theorem rcompare_any (k n : Int) (s : ByteArray) (l m : Int) (t : ByteArray) (w : World) :
    Calls Try.prog 18 #[.agg #[.int .i64 k, .int .i64 n, .string s], .agg #[.int .i64 l, .int .i64 m, .string t]] w fun e w' => e = .returned (.int .i64 (rcmp k n s l m t)) ∧ Below w.heap.size w w' := by
  unfold rcmp
  by_cases h : k = l
  · subst h
    rw [if_neg (by simp)]
    exact rcompare_same k n m s t w
  · rw [if_pos h]
    exact rcompare_kinds k n l m s t (by simpa using h) w
end Go.Proofs.Ytcaomobbpgpplaa
