/-
  The call of DrawPlays answers true and leaves what was there as it is. Conditions: the word is below 2^32; the table is there (Tab).
-/
import Derived.Test.YtfbicbcfdgklkaaDoorWk
import Derived.Deep.QuietTactic
import Derived.BigQuiet
namespace Go.Proofs.YtfbicbcfdgklkaaDoor
open Go.RowKit

set_option maxHeartbeats 1000000 in
theorem plays_none (x : Nat) (l n : Int) (hx : x < 4294967296) (hn : n < 0 ∨ 1000 < n) (w : World) (hT : Tab w) :
    Calls Tryd.prog 6 #[.int .u32 x, .int .i64 l, .int .i64 n] w fun e w' => e = .returned (.bool true) ∧ Below w.heap.size w w' := by
  have A := Lib.hid (awake_any w hT)
  have H1 := Lib.hid (height_any x l hx w hT)
  have H2 := Lib.hid (rheight_any x l hx w)
  have N1 := Lib.hid (next_any x hx w)
  have N2 := Lib.hid (rnext_any x hx w)
  obtain ⟨h, hh⟩ : ∃ h, h = Plain.ht x l := ⟨_, rfl⟩
  obtain ⟨y, hy⟩ : ∃ y, y = Plain.nx x := ⟨_, rfl⟩
  rw [← hh] at H1 H2
  rw [← hy] at N1 N2
  clear hh hy hT
  have R := Lib.hid (row_none x n l w hn)
  have f1 : (decide (n < 0) || decide (1000 < n)) = true := by simp; omega
  go_enter Tryd.func6, Tryd.ntmps6
  go_wp2_with (first | (go_at_call 7; ((with_reducible refine A.out.mono ?_); rintro e w' ⟨rfl, rfl⟩)) | (go_at_call 8; ((with_reducible refine H1.out.mono ?_); rintro e w' ⟨rfl, rfl⟩)) | (go_at_call 10; ((with_reducible refine H2.out.mono ?_); rintro e w' ⟨rfl, rfl⟩)) | (go_at_call 9; ((with_reducible refine N1.out.mono ?_); rintro e w' ⟨rfl, rfl⟩)) | (go_at_call 11; ((with_reducible refine N2.out.mono ?_); rintro e w' ⟨rfl, rfl⟩)) | (go_at_call 12; ((with_reducible refine R.out.mono ?_); rintro e w' ⟨rfl, rfl⟩)))
  all_goals
    go_ret
    exact ⟨rfl, Below.refl _ _⟩

/-- The slice at p holds these values. -/
def Holding (w : World) (p : Option Addr) (xs : List Value) : Prop :=
  0 < xs.length → ∃ g, p = some ⟨g, 0, none⟩ ∧ ∀ (i : Nat) u, xs[i]? = some u → w.cell? ⟨g, i, none⟩ = some u
theorem Holding.drewN {w : World} {p : Option Addr} {xs : List Value} (h : Holding w p xs) (n : Nat) : Holding (w.drewN n) p xs := h
theorem row_shape {w : World} {B n : Nat} {v : Value} {xs : List Value} (h : w.ownsRow B 3 1 v n xs) :
    ∃ p cap, v = .slice p n cap ∧ Holding w p xs := by
  rcases h.2 with ⟨rfl, rfl⟩ | ⟨g, cap, cur, rfl, _⟩
  · exact ⟨none, 0, rfl, fun h' => absurd h' (by rw [h.1]; omega)⟩
  · refine ⟨_, cap, rfl, fun _ => ⟨g, rfl, fun i u hu => ?_⟩⟩
    have := h.cells (g := g) rfl i u hu
    have e : (⟨g, 0, none⟩ : Addr).add i = ⟨g, i, none⟩ := by cases i <;> simp [Addr.add]
    rw [e] at this
    exact this

set_option maxHeartbeats 1000000 in
theorem plays_some (x n : Nat) (l : Int) (hx : x < 4294967296) (hn : n ≤ 1000) (w : World) (hT : Tab w) :
    Calls Tryd.prog 6 #[.int .u32 x, .int .i64 l, .int .i64 n] w fun e w' => e = .returned (.bool true) ∧ Below w.heap.size w w' := by
  have A := Lib.hid (awake_any w hT)
  have H1 := Lib.hid (height_any x l hx w hT)
  have H2 := Lib.hid (rheight_any x l hx w)
  have N1 := Lib.hid (next_any x hx w)
  have N2 := Lib.hid (rnext_any x hx w)
  obtain ⟨h, hh⟩ : ∃ h, h = Plain.ht x l := ⟨_, rfl⟩
  obtain ⟨y, hy⟩ : ∃ y, y = Plain.nx x := ⟨_, rfl⟩
  rw [← hh] at H1 H2
  rw [← hy] at N1 N2
  clear hh hy
  have R := Lib.hid (row_any x n l hx hn w hT)
  clear hT
  go_enter Tryd.func6, Tryd.ntmps6
  go_wp2_with (first | (go_at_call 7; ((with_reducible refine A.out.mono ?_); rintro e w' ⟨rfl, rfl⟩)) | (go_at_call 8; ((with_reducible refine H1.out.mono ?_); rintro e w' ⟨rfl, rfl⟩)) | (go_at_call 10; ((with_reducible refine H2.out.mono ?_); rintro e w' ⟨rfl, rfl⟩)) | (go_at_call 9; ((with_reducible refine N1.out.mono ?_); rintro e w' ⟨rfl, rfl⟩)) | (go_at_call 11; ((with_reducible refine N2.out.mono ?_); rintro e w' ⟨rfl, rfl⟩)))
  refine R.out.mono ?_
  rintro e w1 ⟨v, rfl, hown, hb⟩
  obtain ⟨p, cap, hv, hcells⟩ := row_shape hown
  rw [hv]
  clear hown hv R
  go_wp2
  go_loopw [8, 9] (fun y i wr => ∃ k : Nat, k ≤ n ∧ i = .int .i64 k ∧ y = .int .u32 ((Plain.it x k : Nat) : Int) ∧ Below w.heap.size w wr ∧ Holding wr p ((Plain.hts x l n).map (Value.int .i64))) (fun _ i _ => n - (intOf i).toNat)
  case atStart => exact ⟨0, Nat.zero_le _, rfl, rfl, hb, hcells⟩
  case round =>
    clear hcells hb
    obtain ⟨k, hk, rfl, rfl, hb, hcells⟩ := hrel
    by_cases hlt : k < n
    · obtain ⟨g, hp, hc⟩ := hcells (by simp [Plain.hts_length]; omega)
      have hck := hc k (.int .i64 (Plain.ht (Plain.it x (k + 1)) l)) (by rw [List.getElem?_map, Plain.hts_at x l n k hlt]; rfl)
      have NC := Lib.hid (rnext_any _ (Plain.it_lt x hx k) wr)
      have HC := Lib.hid (fun W => (rheight_any _ l (Plain.it_lt x hx (k + 1)) W).mono fun e W' h => (⟨h.1, h.2.symm⟩ : e = _ ∧ W' = W))
      have e1 : Plain.nx (Plain.it x k) = Plain.it x (k + 1) := rfl
      rw [e1] at NC
      obtain ⟨z, hz⟩ : ∃ z, z = Plain.it x (k + 1) := ⟨_, rfl⟩
      rw [← hz] at NC HC hck
      obtain ⟨m, hm⟩ : ∃ m, m = Plain.ht z l := ⟨_, rfl⟩
      rw [← hm] at HC hck
      have HZ := Lib.hid hz
      have HB := Lib.hid hb
      have HL := Lib.hid hcells
      have HP := Lib.hid hp
      rw [hp]
      have i1 : (0 : Int) ≤ (k : Int) := by omega
      have i2 : (k : Int) < (n : Int) := by omega
      have f1 : (m != m) = false := by simp
      clear e1 hz hm hc hcells hp hb H1 H2 N1 N2 A
      go_wp2_with (go_at_call 11; ((with_reducible refine NC.out.mono ?_); rintro e w' ⟨rfl, rfl⟩))
      go_quiet ((go_at_call 10; exact Calls.quiet_of_same (HC.out _)))
      go_wp2
      go_roundw
      case rel => exact ⟨k + 1, by omega, by go_num, by rw [HZ.out], below_drewN HB.out _, by rw [← HP.out]; exact HL.out.drewN _⟩
      case measure => simp [intOf]; omega
    · go_wp2
      go_ret
      exact ⟨rfl, hb⟩

theorem plays_any (x : Nat) (l n : Int) (hx : x < 4294967296) (w : World) (hT : Tab w) :
    Calls Tryd.prog 6 #[.int .u32 x, .int .i64 l, .int .i64 n] w fun e w' => e = .returned (.bool true) ∧ Below w.heap.size w w' := by
  by_cases h : n < 0 ∨ 1000 < n
  · exact plays_none x l n hx h w hT
  · obtain ⟨k, rfl⟩ : ∃ k : Nat, n = k := ⟨n.toNat, by omega⟩
    exact plays_some x k l hx (by omega) w hT
end Go.Proofs.YtfbicbcfdgklkaaDoor
