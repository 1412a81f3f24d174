/-
  The contract of Same: 1 of two rows of the same runes. Conditions: none.
-/
import Derived.Test.YtiedmlpeeebeeaaBuild
import Derived.RegionTactic
import Derived.Lib.SmallJoins
namespace Go.Proofs.Ytiedmlpeeebeeaa
open Go.RowKit Go.Joins
set_option linter.unusedSimpArgs false
set_option linter.unusedVariables false

set_option maxHeartbeats 2000000 in
theorem same_none (va vb : Value) (ao bo : Option Addr) (ca cb : Nat) (ha : va = .slice ao 0 ca) (hb : vb = .slice bo 0 cb) (w : World) :
    Calls Try.prog 17 #[va, vb] w fun e w' => e = .returned (.int .i64 1) ∧ Below w.heap.size w w' := by
  subst ha hb
  go_enter Try.func17, Try.ntmps17
  go_wp2
  go_loop [5] (fun i => i = .int .i64 0) (fun i => 0)
  case atStart => rfl
  case round =>
    subst hrel
    go_wp2
    go_ret
    exact ⟨rfl, Below.refl _ _⟩

set_option maxHeartbeats 2000000 in
theorem same_some (n : Nat) (hn : n ≤ 100000) (f : Nat → Int) (ga gb ca cb : Nat) (w : World) (ha : ∀ k, k < n → w.cell? ⟨ga, k, none⟩ = some (.int .i32 (f k))) (hb : ∀ k, k < n → w.cell? ⟨gb, k, none⟩ = some (.int .i32 (f k))) (la : ga < w.heap.size) (lb : gb < w.heap.size) :
    Calls Try.prog 17 #[.slice (some ⟨ga, 0, none⟩) n ca, .slice (some ⟨gb, 0, none⟩) n cb] w fun e w' => e = .returned (.int .i64 1) ∧ Below w.heap.size w w' := by
  have HA := Lib.hid ha
  have HB := Lib.hid hb
  clear ha hb
  go_enter Try.func17, Try.ntmps17
  go_wp2
  go_loopw [5] (fun i wr => ∃ k : Nat, k ≤ n ∧ i = .int .i64 (k : Int) ∧ Below w.heap.size w wr) (fun i _ => n - (intOf i).toNat)
  case atStart => exact ⟨0, Nat.zero_le _, rfl, Below.refl _ _⟩
  case round =>
    obtain ⟨k, hk, rfl, hbw⟩ := hrel
    by_cases hlt : k < n
    · have hlt' : (k : Int) < (n : Int) := by omega
      have x1 : wr.cell? ⟨ga, k, none⟩ = some (.int .i32 (f k)) := (hbw.cell (p := ⟨ga, k, none⟩) la).trans (HA.out k hlt)
      have x2 : wr.cell? ⟨gb, k, none⟩ = some (.int .i32 (f k)) := (hbw.cell (p := ⟨gb, k, none⟩) lb).trans (HB.out k hlt)
      have x3 : wr.drew.cell? ⟨ga, k, none⟩ = some (.int .i32 (f k)) := x1
      have x4 : wr.drew.cell? ⟨gb, k, none⟩ = some (.int .i32 (f k)) := x2
      go_wp2
      go_region
      go_wp2
      go_roundw
      case rel => exact ⟨k + 1, by omega, by go_num, hbw.drew⟩
      case measure => simp [intOf]; omega
    · obtain rfl : k = n := by omega
      go_wp2
      go_ret
      exact ⟨rfl, hbw⟩

theorem same_eq (l : List Int) (hl0 : l.length ≤ 100000) (B C : Nat) (va vb : Value) (w : World) (ha : w.ownsRow B 21 1 va l.length (l.map (Value.int .i32))) (hb : w.ownsRow C 21 1 vb l.length (l.map (Value.int .i32))) :
    Calls Try.prog 17 #[va, vb] w fun e w' => e = .returned (.int .i64 1) ∧ Below w.heap.size w w' := by
  by_cases hl : l.length = 0
  · rw [hl] at ha hb
    have fa : ∃ ao ca, va = .slice ao 0 ca := by
      rcases ownsRow_forms ha with ⟨h, _⟩ | ⟨g, cap, h⟩
      · exact ⟨_, _, h⟩
      · exact ⟨_, _, h⟩
    have fb : ∃ ao ca, vb = .slice ao 0 ca := by
      rcases ownsRow_forms hb with ⟨h, _⟩ | ⟨g, cap, h⟩
      · exact ⟨_, _, h⟩
      · exact ⟨_, _, h⟩
    obtain ⟨ao, ca, ha'⟩ := fa
    obtain ⟨bo, cb, hb'⟩ := fb
    exact same_none va vb ao bo ca cb ha' hb' w
  · obtain ⟨ga, ca, rfl⟩ := ownsRow_form ha (by omega)
    obtain ⟨gb, cb, rfl⟩ := ownsRow_form hb (by omega)
    have la := (ha.lt ga rfl).2
    have lb := (hb.lt gb rfl).2
    have cell : ∀ (g c B : Nat), w.ownsRow B 21 1 (.slice (some ⟨g, 0, none⟩) l.length c) l.length (l.map (Value.int .i32)) → ∀ k, k < l.length → w.cell? ⟨g, k, none⟩ = some (.int .i32 (l.getD k 0)) := by
      intro g c B h k hk
      rw [h.cellAt k (by omega)]
      simp [List.getD, hk]
    exact same_some l.length hl0 (fun k => l.getD k 0) ga gb ca cb w (cell _ _ _ ha) (cell _ _ _ hb) la lb
end Go.Proofs.Ytiedmlpeeebeeaa
