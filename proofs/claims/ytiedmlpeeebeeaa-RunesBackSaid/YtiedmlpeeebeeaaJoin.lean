/-
  The contract of runes.Join: the text of a row of numbers. Condition: no more than 100000 numbers, each an int32.
-/
import Derived.Test.YtiedmlpeeebeeaaPl4
import Derived.Test.YtiedmlpeeebeeaaQuoW
namespace Go.Proofs.Ytiedmlpeeebeeaa
set_option linter.unusedSimpArgs false
set_option linter.unusedVariables false
open Go.RowKit

theorem joinP_take (l : List Int) (k : Nat) (h : k < l.length) : joinP (l.take (k + 1)) = joinP (l.take k) ++ Lib.encodeRune (l.getD k 0) := by
  have e : l.take (k + 1) = l.take k ++ [l.getD k 0] := by
    rw [List.take_add_one, List.getElem?_eq_getElem h]
    simp [List.getD, h]
  rw [e]
  unfold joinP
  rw [List.flatMap_append]
  simp
theorem add_block (a : Addr) (k : Nat) : (a.add k).block = a.block := by unfold Addr.add; split <;> rfl
theorem joinP_len (l : List Int) : (joinP l).length ≤ 4 * l.length := by
  induction l with
  | nil => simp [joinP]
  | cons r l ih =>
    have e : joinP (r :: l) = Lib.encodeRune r ++ joinP l := by simp [joinP]
    have h4 := Lib.runeCells_le r
    rw [Lib.runeCells_length] at h4
    rw [e, List.length_append, List.length_cons]
    omega

set_option maxHeartbeats 4000000 in
set_option maxRecDepth 1000000 in
theorem join_some (l : List Int) (a : Addr) (cap : Nat) (w : World) (hl : l.length ≤ 100000) (hr : ∀ k, k < l.length → -2147483648 ≤ l.getD k 0 ∧ l.getD k 0 ≤ 2147483647)
    (hc : ∀ k, k < l.length → w.cell? (a.add k) = some (.int .i32 (l.getD k 0))) (hb : a.block < w.heap.size) :
    Calls Try.prog 20 #[.slice (some a) l.length cap] w fun e w' => e = .returned (.string ⟨(joinP l).toArray⟩) ∧ Below w.heap.size w w' := by
  have HC := Lib.hid hc
  have HR := Lib.hid hr
  clear hc hr
  obtain ⟨n, hn⟩ : ∃ n, n = l.length := ⟨_, rfl⟩
  rw [← hn] at hl HC HR ⊢
  have HN := Lib.hid hn
  clear hn
  have F := Lib.IsBuilderF.of (Lib.fresh_isBuilder 39 5 w)
  go_enter Try.func20, Try.ntmps20
  go_wp2
  go_loopw [8] (fun i wr => ∃ k : Nat, i = .int .i64 (k : Int) ∧ k ≤ n ∧ Lib.IsBuilderF 39 5 w.heap.size w.heap.size (Lib.byteCells (joinP (l.take k))) wr ∧ Below w.heap.size w wr) (fun i _ => n - (intOf i).toNat)
  case atStart => exact ⟨0, rfl, Nat.zero_le _, F, (Below.refl _ w).alloc (Nat.le_refl _) _⟩
  case round =>
    obtain ⟨k, rfl, hk, hI, hbw⟩ := hrel
    have hbz := hbw.size
    have hlen : (Lib.byteCells (joinP (l.take k))).length ≤ 400000 := by
      rw [Lib.byteCells_length]
      have := joinP_len (l.take k)
      rw [List.length_take] at this
      omega
    by_cases hlt : k < n
    · have hlt' : (k : Int) < (n : Int) := by omega
      have hcl := (hbw.cell (p := a.add k) (by rw [add_block]; exact hb)).trans (HC.out k hlt)
      have hrr := HR.out k hlt
      have hst := joinP_take l k (by rw [← HN.out]; exact hlt)
      obtain ⟨r, hrd⟩ : ∃ r, r = l.getD k 0 := ⟨_, rfl⟩
      rw [← hrd] at hcl hrr hst
      have HS := Lib.hid hst
      clear hst hrd
      go_wp2_with (go_at_call 25; ((with_reducible refine (write_rune w.heap.size w.heap.size _ r hrr.1 hrr.2 _ hI (by omega) (by omega)).mono ?_)))
      rintro e V2 ⟨rfl, h2, b2, k2⟩
      go_wp2
      go_roundw
      case rel =>
        refine ⟨k + 1, by go_num, by omega, ?_, hbw.trans b2⟩
        rw [HS.out, Lib.byteCells_append, Lib.byteCells_encodeRune]
        exact Or.inr h2
      case measure => simp [intOf]; omega
    · obtain rfl : k = n := by omega
      have ht : l.take k = l := by rw [HN.out]; exact List.take_length
      rw [ht] at hI hlen
      go_wp2_with fail
      with_reducible refine (Try.Builder_String_any_k w.heap.size w.heap.size (joinP l) _ hI (by omega)).mono ?_
      rintro e W3 ⟨rfl, _, b3, _⟩
      go_wp2
      go_ret
      exact ⟨rfl, hbw.trans b3⟩

set_option maxHeartbeats 1000000 in
theorem join_none (ao : Option Addr) (cap : Nat) (w : World) :
    Calls Try.prog 20 #[.slice ao 0 cap] w fun e w' => e = .returned (.string ⟨#[]⟩) ∧ Below w.heap.size w w' := by
  have F := Lib.IsBuilderF.of (Lib.fresh_isBuilder 39 5 w)
  go_enter Try.func20, Try.ntmps20
  go_wp2
  go_loopw [8] (fun i wr => i = .int .i64 0 ∧ Lib.IsBuilderF 39 5 w.heap.size w.heap.size (Lib.byteCells []) wr ∧ Below w.heap.size w wr) (fun i _ => 0)
  case atStart => exact ⟨rfl, F, (Below.refl _ w).alloc (Nat.le_refl _) _⟩
  case round =>
    obtain ⟨rfl, hI, hbw⟩ := hrel
    have hbz := hbw.size
    go_wp2_with fail
    with_reducible refine (Try.Builder_String_any_k w.heap.size w.heap.size [] _ hI (by omega)).mono ?_
    rintro e W3 ⟨rfl, _, b3, _⟩
    go_wp2
    go_ret
    exact ⟨rfl, hbw.trans b3⟩
end Go.Proofs.Ytiedmlpeeebeeaa
