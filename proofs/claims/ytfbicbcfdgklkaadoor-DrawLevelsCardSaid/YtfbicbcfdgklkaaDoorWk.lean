/-
  The contracts of the functions of package draw, of its reference and of math/bits.TrailingZeros32: each call answers what the plain functions say. Conditions: words below 2^32; where TrailingZeros32 is reached, the table math/bits.deBruijn32tab holds its numbers (Tab).
-/
import Derived.Test.YtfbicbcfdgklkaaDoorProg
import Derived.Test.YtfbicbcfdgklkaaDoorPlain
import Derived.WalkKit
import Derived.WalkSpells
import Derived.WalkLawsBesides
import Derived.Shelf.Spec.TrailingZeros
import Derived.Lib.Hide
import Derived.Laws.BitsAllLaws
namespace Go.Proofs.YtfbicbcfdgklkaaDoor
open Go.RowKit

/-- The table in its variable. -/
def Tab (w : World) : Prop := TabAt 0 Lib.deBruijn32tab w

set_option maxHeartbeats 1000000 in
theorem tz_core (x k idx : Nat) (w : World) (hx0 : ((x : Int) == 0) = false)
    (key : bits BinOp.and IntKind.u32 (x : Int) (-(x : Int) % 4294967296) * 125613361 % 4294967296 / 134217728 = (idx : Int))
    (hi : idx < 32) (hk : k < 32) (hcell : w.cell? ⟨0, idx, none⟩ = some (.int .u8 k)) :
    Calls Tryd.prog 13 #[.int .u32 x] w fun e w' => e = .returned (.int .i64 k) ∧ w' = w := by
  go_enter Tryd.func13, Tryd.ntmps13
  go_wp2_with (simp only [key])
  go_ret
  exact ⟨rfl, rfl⟩

theorem tz_zero (w : World) : Calls Tryd.prog 13 #[.int .u32 0] w fun e w' => e = .returned (.int .i64 32) ∧ w' = w := by
  go_enter Tryd.func13, Tryd.ntmps13
  go_wp2
  go_ret
  exact ⟨rfl, rfl⟩

theorem tz_any (x : Nat) (hx : x < 4294967296) (w : World) (hT : Tab w) :
    Calls Tryd.prog 13 #[.int .u32 x] w fun e w' => e = .returned (.int .i64 (Lib.ctz 32 x)) ∧ w = w' := by
  by_cases hx0 : x = 0
  · subst hx0
    exact (tz_zero w).mono fun _ _ h => ⟨h.1, h.2.symm⟩
  · obtain ⟨hlow, hk⟩ := Lib.lowest_bit 32 x hx0 hx
    obtain ⟨hi, htab⟩ := Lib.deBruijn32_at _ hk
    have hcell := hT _ hi
    rw [htab] at hcell
    exact (tz_core x _ _ w (by simp; omega) (tz32_key x _ hx hx0 hlow) hi hk hcell).mono fun _ _ h => ⟨h.1, h.2.symm⟩

theorem ret_u32 {a b : Int} (h : a = b) : Ending.returned (.int .u32 a) = .returned (.int .u32 b) := by rw [h]
theorem ret_i64 {a b : Int} (h : a = b) : Ending.returned (.int .i64 a) = .returned (.int .i64 b) := by rw [h]

theorem xor_nat (a b : Nat) (ha : a < 4294967296) (hb : b < 4294967296) : bits .xor .u32 (a : Int) (b : Int) = ((a ^^^ b : Nat) : Int) := u32_xor_nat a b ha hb

theorem nx_bits (x : Nat) (hx : x < 4294967296) :
    bits BinOp.xor IntKind.u32
              (bits BinOp.xor IntKind.u32 (bits BinOp.xor IntKind.u32 (x : Int) ((x : Int) * 8192 % 4294967296))
                (bits BinOp.xor IntKind.u32 (x : Int) ((x : Int) * 8192 % 4294967296) / 131072))
              (bits BinOp.xor IntKind.u32 (bits BinOp.xor IntKind.u32 (x : Int) ((x : Int) * 8192 % 4294967296))
                    (bits BinOp.xor IntKind.u32 (x : Int) ((x : Int) * 8192 % 4294967296) / 131072) *
                  32 %
                4294967296) = ((Plain.nx x : Nat) : Int) := by
  have e1 : bits BinOp.xor IntKind.u32 (x : Int) ((x : Int) * 8192 % 4294967296) = ((Plain.nx1 x : Nat) : Int) := by
    rw [show (x : Int) * 8192 % 4294967296 = ((x * 8192 % 4294967296 : Nat) : Int) from by omega, xor_nat _ _ hx (by omega)]; rfl
  have l1 := Plain.nx1_lt x hx
  have e2 : bits BinOp.xor IntKind.u32 ((Plain.nx1 x : Nat) : Int) (((Plain.nx1 x : Nat) : Int) / 131072) = ((Plain.nx2 (Plain.nx1 x) : Nat) : Int) := by
    rw [show ((Plain.nx1 x : Nat) : Int) / 131072 = ((Plain.nx1 x / 131072 : Nat) : Int) from by omega, xor_nat _ _ l1 (by omega)]; rfl
  have l2 := Plain.nx2_lt _ l1
  rw [e1, e2, show ((Plain.nx2 (Plain.nx1 x) : Nat) : Int) * 32 % 4294967296 = ((Plain.nx2 (Plain.nx1 x) * 32 % 4294967296 : Nat) : Int) from by omega, xor_nat _ _ l2 (by omega)]; rfl

set_option maxHeartbeats 400000 in
theorem next_any (x : Nat) (hx : x < 4294967296) (w : World) :
    Calls Tryd.prog 9 #[.int .u32 x] w fun e w' => e = .returned (.int .u32 (Plain.nx x)) ∧ w = w' := by
  go_enter Tryd.func9, Tryd.ntmps9
  go_wp2
  go_ret
  exact ⟨ret_u32 (nx_bits x hx), rfl⟩

theorem not_xor (x : Nat) (hx : x < 4294967296) : (2 ^ 32 - 1) ^^^ x = 2 ^ 32 - 1 - x := by
  have h := BitVec.toNat_not (x := BitVec.ofNat 32 x)
  rw [← BitVec.xor_allOnes, BitVec.toNat_xor, BitVec.toNat_ofNat, BitVec.toNat_allOnes, Nat.mod_eq_of_lt hx, Nat.xor_comm] at h
  exact h

set_option maxHeartbeats 1000000 in
theorem height_any (x : Nat) (l : Int) (hx : x < 4294967296) (w : World) (hT : Tab w) :
    Calls Tryd.prog 8 #[.int .u32 x, .int .i64 l] w fun e w' => e = .returned (.int .i64 (Plain.ht x l)) ∧ w = w' := by
  obtain ⟨c, hc⟩ : ∃ c : Nat, c = 4294967295 - x := ⟨_, rfl⟩
  have e : bits .xor .u32 IntKind.u32.max (x : Int) = (c : Int) := by
    rw [show IntKind.u32.max = ((4294967295 : Nat) : Int) from rfl, xor_nat _ _ (by decide) hx, hc, show (4294967295 : Nat) = 2 ^ 32 - 1 from rfl]
    exact congrArg Int.ofNat (not_xor x hx)
  have T := tz_any c (by omega) w hT
  obtain ⟨k, hk⟩ : ∃ k, k = Lib.ctz 32 c := ⟨_, rfl⟩
  rw [← hk] at T
  have hk32 : k ≤ 32 := by
    rw [hk, Plain.ctz_from, hc, show 4294967295 - x = 2 ^ 32 - 1 - x from rfl, Plain.ctz_not 32 x hx]
    exact Plain.ones_le _ _
  have K0 : Plain.ht x l = min (1 + (k : Int)) (Plain.clamp l) := by rw [hk, hc]; rfl
  have K := Lib.hid K0
  have HT := Lib.hid T
  clear K0 T hk hc hT
  by_cases h1 : l ≤ 1
  · go_enter Tryd.func8, Tryd.ntmps8
    go_wp2_with (go_at_call 13; ((with_reducible refine HT.out.mono ?_); rintro e w' ⟨rfl, rfl⟩))
    all_goals
      go_ret
      exact ⟨ret_i64 (by rw [K.out]; unfold Plain.clamp; omega), rfl⟩
  · by_cases h2 : 24 ≤ l
    all_goals
      go_enter Tryd.func8, Tryd.ntmps8
      go_wp2_with (go_at_call 13; ((with_reducible refine HT.out.mono ?_); rintro e w' ⟨rfl, rfl⟩))
      all_goals
        go_ret
        exact ⟨ret_i64 (by rw [K.out]; unfold Plain.clamp; omega), rfl⟩

theorem xor_nat64 (a b : Nat) (ha : a < 4294967296) (hb : b < 4294967296) : bits .xor .u64 (a : Int) (b : Int) = ((a ^^^ b : Nat) : Int) := u64_xor_nat a b (by omega) (by omega)

set_option maxHeartbeats 400000 in
theorem rnext_any (x : Nat) (hx : x < 4294967296) (w : World) :
    Calls Tryd.prog 11 #[.int .u32 x] w fun e w' => e = .returned (.int .u32 (Plain.nx x)) ∧ w = w' := by
  have l1 := Plain.nx1_lt x hx
  have l2 := Plain.nx2_lt _ l1
  have l3 := Plain.nx3_lt _ l2
  have f1 : Plain.nx1 x = x ^^^ (x * 8192 % 4294967296) := rfl
  obtain ⟨a, ha⟩ : ∃ a, a = Plain.nx1 x := ⟨_, rfl⟩
  rw [← ha] at l1 l2 l3 f1
  have f2 : Plain.nx2 a = a ^^^ (a / 131072) := rfl
  obtain ⟨b, hb⟩ : ∃ b, b = Plain.nx2 a := ⟨_, rfl⟩
  rw [← hb] at l2 l3 f2
  have f3 : Plain.nx3 b = b ^^^ (b * 32 % 4294967296) := rfl
  obtain ⟨c, hc⟩ : ∃ c, c = Plain.nx3 b := ⟨_, rfl⟩
  rw [← hc] at l3 f3
  have E := Lib.hid (show Plain.nx x = c by rw [hc, hb, ha]; rfl)
  have e1 : bits BinOp.xor IntKind.u64 (x : Int) ((x : Int) * 8192 % 4294967296) = (a : Int) := by
    rw [show (x : Int) * 8192 % 4294967296 = ((x * 8192 % 4294967296 : Nat) : Int) from by omega, xor_nat64 _ _ hx (by omega), f1]
  have e2 : bits BinOp.xor IntKind.u64 (a : Int) ((a : Int) / 131072) = (b : Int) := by
    rw [show (a : Int) / 131072 = ((a / 131072 : Nat) : Int) from by omega, xor_nat64 _ _ l1 (by omega), f2]
  have e3 : bits BinOp.xor IntKind.u64 (b : Int) ((b : Int) * 32 % 4294967296) = (c : Int) := by
    rw [show (b : Int) * 32 % 4294967296 = ((b * 32 % 4294967296 : Nat) : Int) from by omega, xor_nat64 _ _ l2 (by omega), f3]
  clear f1 f2 f3 ha hb hc
  go_enter Tryd.func11, Tryd.ntmps11
  go_wp2
  go_ret
  exact ⟨ret_u32 (by rw [E.out]), rfl⟩

set_option maxHeartbeats 1000000 in
theorem rheight_any (x : Nat) (l : Int) (hx : x < 4294967296) (w : World) :
    Calls Tryd.prog 10 #[.int .u32 x, .int .i64 l] w fun e w' => e = .returned (.int .i64 (Plain.ht x l)) ∧ w = w' := by
  obtain ⟨t, ht⟩ : ∃ t, t = Plain.ones 32 x := ⟨_, rfl⟩
  have ht32 : t ≤ 32 := ht ▸ Plain.ones_le 32 x
  have K := Lib.hid (show Plain.ht x l = min (1 + (t : Int)) (Plain.clamp l) by rw [Plain.ht_ones x l hx, ht])
  have A := Lib.hid (show ∀ m, m < 32 → m ≤ t → (x / 2 ^ m % 2 = 1 ↔ m < t) by rw [ht]; exact fun m => Plain.ones_at 32 m x)
  clear ht
  by_cases h24 : 24 < l
  all_goals
    go_enter Tryd.func10, Tryd.ntmps10
    go_wp2
  · go_loop [0, 5] (fun y n => ∃ m : Nat, n = .int .i64 (1 + (m : Int)) ∧ y = .int .u32 ((x / 2 ^ m : Nat) : Int) ∧ m ≤ t ∧ m < 24) (fun _ n => (24 - intOf n).toNat)
    case atStart => exact ⟨0, rfl, by simp, by omega, by omega⟩
    case round =>
      obtain ⟨m, rfl, rfl, hm, hm2⟩ := hrel
      have hA := A.out m (by omega) hm
      have hy : x / 2 ^ m < 4294967296 := Nat.lt_of_le_of_lt (Nat.div_le_self _ _) hx
      have hp : x / 2 ^ (m + 1) = x / 2 ^ m / 2 := by rw [Nat.pow_succ, Nat.div_div_eq_div_mul]
      obtain ⟨y, hyy⟩ : ∃ y, y = x / 2 ^ m := ⟨_, rfl⟩
      rw [← hyy] at hA hy hp ⊢
      have P := Lib.hid hp
      have B := Lib.hid hA
      clear hp hA hyy
      have K2 := K.out
      unfold Plain.clamp at K2
      have KK := Lib.hid K2
      clear K2
      by_cases hc : y % 2 = 1
      · have b1 : ((y : Int) % 2 == 1) = true := by simp <;> omega
        go_wp2
        · go_round
          case rel => exact ⟨m + 1, by go_num, by rw [P.out]; go_num, by have := B.out; omega, by omega⟩
          case measure => simp [intOf]; omega
        · go_ret
          exact ⟨ret_i64 (by rw [KK.out]; omega), rfl⟩
      · have b1 : ((y : Int) % 2 == 1) = false := by simp <;> omega
        go_wp2
        go_ret
        exact ⟨ret_i64 (by rw [KK.out]; have := B.out; omega), rfl⟩
  · go_loop [0, 5] (fun y n => ∃ m : Nat, n = .int .i64 (1 + (m : Int)) ∧ y = .int .u32 ((x / 2 ^ m : Nat) : Int) ∧ m ≤ t ∧ 1 + (m : Int) ≤ max l 1) (fun _ n => (24 - intOf n).toNat)
    case atStart => exact ⟨0, rfl, by simp, by omega, by omega⟩
    case round =>
      obtain ⟨m, rfl, rfl, hm, hm2⟩ := hrel
      have hA := A.out m (by omega) hm
      have hy : x / 2 ^ m < 4294967296 := Nat.lt_of_le_of_lt (Nat.div_le_self _ _) hx
      have hp : x / 2 ^ (m + 1) = x / 2 ^ m / 2 := by rw [Nat.pow_succ, Nat.div_div_eq_div_mul]
      obtain ⟨y, hyy⟩ : ∃ y, y = x / 2 ^ m := ⟨_, rfl⟩
      rw [← hyy] at hA hy hp ⊢
      have P := Lib.hid hp
      have B := Lib.hid hA
      clear hp hA hyy
      have K2 := K.out
      unfold Plain.clamp at K2
      have KK := Lib.hid K2
      clear K2
      by_cases hc : y % 2 = 1
      · have b1 : ((y : Int) % 2 == 1) = true := by simp <;> omega
        go_wp2
        · go_round
          case rel => exact ⟨m + 1, by go_num, by rw [P.out]; go_num, by have := B.out; omega, by omega⟩
          case measure => simp [intOf]; omega
        · go_ret
          exact ⟨ret_i64 (by rw [KK.out]; omega), rfl⟩
      · have b1 : ((y : Int) % 2 == 1) = false := by simp <;> omega
        go_wp2
        go_ret
        exact ⟨ret_i64 (by rw [KK.out]; have := B.out; omega), rfl⟩

theorem height3 (w : World) (hT : Tab w) : Calls Tryd.prog 8 #[.int .u32 3, .int .i64 24] w fun e w' => e = .returned (.int .i64 3) ∧ w = w' := by
  have h := height_any 3 24 (by decide) w hT
  rw [show Plain.ht 3 24 = 3 from by decide] at h
  exact h
theorem next1 (w : World) : Calls Tryd.prog 9 #[.int .u32 1] w fun e w' => e = .returned (.int .u32 270369) ∧ w = w' := by
  have h := next_any 1 (by decide) w
  rw [Plain.nx_one] at h
  exact h

set_option maxHeartbeats 400000 in
theorem awake_any (w : World) (hT : Tab w) :
    Calls Tryd.prog 7 #[] w fun e w' => e = .returned (.bool true) ∧ w = w' := by
  have H := Lib.hid (height3 w hT)
  have N := Lib.hid (next1 w)
  clear hT
  go_enter Tryd.func7, Tryd.ntmps7
  go_wp2_with (first | (go_at_call 8; ((with_reducible refine H.out.mono ?_); rintro e w' ⟨rfl, rfl⟩)) | (go_at_call 9; ((with_reducible refine N.out.mono ?_); rintro e w' ⟨rfl, rfl⟩)))
  go_ret
  exact ⟨rfl, rfl⟩

theorem Tryd.info3 : (Tryd.prog.info? 3).map (fun i => (i.zero, i.size, i.bytes)) = some (some (.int .i64 0), 1, 8) := by kernel_rfl

set_option maxHeartbeats 400000 in
theorem row_none (x : Nat) (n l : Int) (w : World) (h : n < 0 ∨ 1000 < n) :
    Calls Tryd.prog 12 #[.int .u32 x, .int .i64 n, .int .i64 l] w fun e w' => e = .returned (.slice none 0 0) ∧ w = w' := by
  rcases h with h | h
  · have h' : ¬ 1000 < n := by omega
    go_enter Tryd.func12, Tryd.ntmps12
    go_wp2
    go_ret
    exact ⟨rfl, rfl⟩
  · have h' : ¬ n < 0 := by omega
    go_enter Tryd.func12, Tryd.ntmps12
    go_wp2
    go_ret
    exact ⟨rfl, rfl⟩

theorem lt_of_cell {w : World} {a : Addr} {v : Value} (h : w.cell? a = some v) : a.block < w.heap.size := by
  by_cases c : a.block < w.heap.size
  · exact c
  · simp [World.cell?, Array.getElem?_eq_none (Nat.le_of_not_lt c)] at h
theorem Tab.pos {w : World} (h : Tab w) : 0 < w.heap.size := lt_of_cell (h 0 (by decide))
theorem Tab.below {w w' : World} {B : Nat} (h : Tab w) (hB : 0 < B) (hb : Below B w w') : Tab w' := fun j hj => (hb.cell (p := ⟨0, j, none⟩) hB).trans (h j hj)

set_option maxHeartbeats 1000000 in
theorem row_any (x n : Nat) (l : Int) (hx : x < 4294967296) (hn : n ≤ 1000) (w : World) (hT : Tab w) :
    Calls Tryd.prog 12 #[.int .u32 x, .int .i64 n, .int .i64 l] w fun e w' => ∃ v, e = .returned v ∧ w'.ownsRow w.heap.size 3 1 v n ((Plain.hts x l n).map (Value.int .i64)) ∧ Below w.heap.size w w' := by
  obtain ⟨i0, hi, hz0, hz1, hz2⟩ := info_parts Tryd.info3
  have HT := Lib.hid hT
  clear hT
  go_enter Tryd.func12, Tryd.ntmps12
  go_wp2
  go_loopw [0, 7, 15] (fun y v i wr => ∃ k : Nat, k ≤ n ∧ i = .int .i64 k ∧ y = .int .u32 ((Plain.it x k : Nat) : Int) ∧ wr.ownsRow w.heap.size 3 1 v k ((Plain.hts x l k).map (Value.int .i64)) ∧ Below w.heap.size w wr)
    (fun _ _ i _ => n - (intOf i).toNat)
  case atStart => exact ⟨0, Nat.zero_le _, rfl, rfl, World.ownsRow_nil _ _ _ _, Below.refl _ _⟩
  case round =>
    obtain ⟨k, hk, rfl, rfl, hown, hb⟩ := hrel
    by_cases hlt : k < n
    · have NC := Lib.hid (next_any _ (Plain.it_lt x hx k) wr)
      have HC := Lib.hid (height_any _ l (Plain.it_lt x hx (k + 1)) wr (HT.out.below HT.out.pos hb))
      have e1 : Plain.nx (Plain.it x k) = Plain.it x (k + 1) := rfl
      rw [e1] at NC
      clear e1
      obtain ⟨y, hy⟩ : ∃ y, y = Plain.it x (k + 1) := ⟨_, rfl⟩
      obtain ⟨h, hh⟩ : ∃ h, h = Plain.ht y l := ⟨_, rfl⟩
      rw [← hy] at NC HC
      rw [← hh] at HC
      have HH := Lib.hid (show Plain.hts x l (k + 1) = Plain.hts x l k ++ [h] by rw [hh, hy]; rfl)
      have HY := Lib.hid hy
      clear hh hy
      go_wp2_with (first
        | (go_at_call 9; ((with_reducible refine NC.out.mono ?_); rintro e w' ⟨rfl, rfl⟩))
        | (go_at_call 8; ((with_reducible refine HC.out.mono ?_); rintro e w' ⟨rfl, rfl⟩))
        | (at_builtin; refine wpList_append_own _ rfl _ _ 29 rfl w.heap.size 3 i0 (.int .i64 0) 1 8 Tryd.underlying29 hi hz0 hz1 hz2 rfl (by decide) _ _ _ rfl (hown.alloc _) ⟨wr.heap.size, 0, none⟩ 1 1 [.int .i64 h] rfl rfl ?c1 ?c2 ?c3 ?c4 ?c5 ?_))
      case c1 => exact cell_one_new _ _ _
      case c2 => intro u hu; simp at hu; subst hu; rfl
      case c3 => unfold maxLen; omega
      case c4 => omega
      case c5 => have := hb.size; simp; omega
      intro v' w1 hown' hgrow _
      have hb1 : Below w.heap.size w w1 := (hb.alloc hb.size _).grown hgrow (by have := hb.size; simp; omega) (fun j hj => (hown.lt j hj).1)
      clear hgrow hown
      go_wp2
      go_roundw
      case rel => exact ⟨k + 1, by omega, by go_num, by rw [HY.out], by rw [HH.out]; simpa using hown', hb1⟩
      case measure => simp [intOf]; omega
    · go_wp2
      go_ret
      obtain rfl : k = n := by omega
      exact ⟨_, rfl, hown, hb⟩
end Go.Proofs.YtfbicbcfdgklkaaDoor
