/-
  The contract of the reference's Join: the text of a row of numbers. Condition: no more than 100000 numbers, each an int32.
-/
import Derived.Test.YtiedmlpeeebeeaaJoin
import Derived.Test.YtiedmlpeeebeeaaRQuote
namespace Go.Proofs.Ytiedmlpeeebeeaa
set_option linter.unusedSimpArgs false
set_option linter.unusedVariables false
open Go.RowKit

set_option maxHeartbeats 4000000 in
set_option maxRecDepth 1000000 in
theorem refJoin_some (l : List Int) (a : Addr) (cap : Nat) (w : World) (hl : l.length ≤ 100000) (hl0 : 0 < l.length) (hr : ∀ k, k < l.length → -2147483648 ≤ l.getD k 0 ∧ l.getD k 0 ≤ 2147483647)
    (hc : ∀ k, k < l.length → w.cell? (a.add k) = some (.int .i32 (l.getD k 0))) (hb : a.block < w.heap.size) :
    Calls Try.prog 21 #[.slice (some a) l.length cap] w fun e w' => e = .returned (.string ⟨(joinP l).toArray⟩) ∧ Below w.heap.size w w' := by
  obtain ⟨i0, hi, hz0, hz1, hz2⟩ := info_parts infoByte
  have HC := Lib.hid hc
  have HR := Lib.hid hr
  clear hc hr
  obtain ⟨n, hn⟩ : ∃ n, n = l.length := ⟨_, rfl⟩
  rw [← hn] at hl hl0 HC HR ⊢
  have HN := Lib.hid hn
  clear hn
  go_enter Try.func21, Try.ntmps21
  go_wp2
  go_loopw [3, 4] (fun v i wr => ∃ (k : Nat) (acc : List UInt8), i = .int .i64 (k : Int) ∧ k ≤ n ∧ acc = joinP (l.take k) ∧ acc.length ≤ 400000 ∧ (0 < k → 0 < acc.length) ∧ wr.ownsRow w.heap.size 5 1 v acc.length (Lib.byteCells acc) ∧ Below w.heap.size w wr) (fun _ i _ => n - (intOf i).toNat)
  case atStart => exact ⟨0, [], rfl, Nat.zero_le _, rfl, by simp, by omega, World.ownsRow_nil _ _ _ _, Below.refl _ w⟩
  case round =>
    obtain ⟨k, acc, rfl, hk, hacc, hal, hpos, hown, hbw⟩ := hrel
    have hbz := hbw.size
    have HA := Lib.hid hacc
    clear hacc
    by_cases hlt : k < n
    · have hlt' : (k : Int) < (n : Int) := by omega
      have hcl := (hbw.cell (p := a.add k) (by rw [add_block]; exact hb)).trans (HC.out k hlt)
      have hrr := HR.out k hlt
      have hst := joinP_take l k (by rw [← HN.out]; exact hlt)
      have hne : ∀ k, (_ : Value).ownBlock = some k → w.heap.size ≤ k := fun k hk => (hown.lt k hk).1
      obtain ⟨r, hrd⟩ : ∃ r, r = l.getD k 0 := ⟨_, rfl⟩
      rw [← hrd] at hcl hrr hst
      rw [← HA.out] at hst
      have HS := Lib.hid hst
      have h4 := Lib.runeCells_le r
      have h1 := Lib.encodeRuneZ_length r
      have hlen2 : (joinP (l.take (k + 1))).length ≤ 400000 := by
        have := joinP_len (l.take (k + 1))
        rw [List.length_take] at this
        omega
      have HL := Lib.hid hlen2
      have hbs : ∀ o, w.heap.size ≤ (wr.alloc o).heap.size := by intro o; simp; omega
      have hpl : 0 < (acc ++ Lib.encodeRune r).length := by
        rw [List.length_append]
        unfold Lib.encodeRune
        rw [List.length_map]
        omega
      have HQ := Lib.hid hpl
      have heq : Lib.byteCells (acc ++ Lib.encodeRune r) = Lib.byteCells acc ++ Lib.runeCells r := by rw [Lib.byteCells_append, Lib.byteCells_encodeRune]
      have hel : (Lib.encodeRune r).length = (Lib.encodeRuneZ r).length := by unfold Lib.encodeRune; rw [List.length_map]
      unfold Lib.runeCells at heq
      clear hst hrd hlen2 hpl h4 h1 hpos
      by_cases c1 : 0 ≤ r ∧ r ≤ 127
      · rw [Lib.encodeRuneZ_one c1.1 c1.2] at heq hel
        simp only [List.map_cons, List.map_nil, List.length_cons, List.length_nil] at heq hel
        have HE := Lib.hid heq
        have HZ := Lib.hid hel
        clear heq hel
        have : ¬ r < 0 := by omega
        have : ¬ (1114111 : Int) < r := by omega
        have : ¬ (55296 : Int) ≤ r := by omega
        have : r < 128 := by omega
        have : IntKind.u8.wrap (r) = r := by rw [IntKind.wrap_u8]; omega
        clear c1
        have hone : ∀ u ∈ ([.int .u8 r] : List Value), u.oneCell' = true := by
          intro u hu; simp at hu; subst hu; rfl
        go_wp2_with (at_builtin; refine wpList_append_own _ rfl _ _ 37 rfl w.heap.size 5 i0 (.int .u8 0) 1 1 Try.underlying37 hi hz0 hz1 hz2 rfl (by decide) _ acc.length (Lib.byteCells acc) rfl (hown.alloc _) ⟨wr.heap.size, 0, none⟩ 1 1 [.int .u8 r] rfl rfl (World.news_of_block (heap_alloc_new _ _)) hone ?c3 ?c4 (hbs _) ?_)
        case c3 => unfold maxLen; omega
        case c4 => omega
        intro v' w1 hown' hgrow _
        have hb3 : Below w.heap.size w w1 := (hbw.alloc (by omega) _).grown hgrow (hbs _) (fun k hk => hne k hk)
        clear hgrow hown hne hi hz0 hz1 hz2
        go_wp2
        go_roundw
        case rel =>
          refine ⟨k + 1, acc ++ Lib.encodeRune r, by go_num, by omega, HS.out.symm, by rw [← HS.out]; exact HL.out, fun _ => HQ.out, ?_, hb3⟩
          rw [HE.out, List.length_append, HZ.out]
          exact hown'
        case measure => simp [intOf]; omega
      by_cases c2 : 128 ≤ r ∧ r ≤ 2047
      · rw [Lib.encodeRuneZ_two c2.1 c2.2] at heq hel
        simp only [List.map_cons, List.map_nil, List.length_cons, List.length_nil] at heq hel
        have HE := Lib.hid heq
        have HZ := Lib.hid hel
        clear heq hel
        have : ¬ r < 0 := by omega
        have : ¬ (1114111 : Int) < r := by omega
        have : ¬ (55296 : Int) ≤ r := by omega
        have : ¬ r < 128 := by omega
        have : r < 2048 := by omega
        have : r.tdiv 64 = r / 64 := Int.tdiv_eq_ediv_of_nonneg (by omega)
        have : r.tmod 64 = r % 64 := Int.tmod_eq_emod_of_nonneg (by omega)
        have : IntKind.i32.wrap (r / 64) = r / 64 := IntWalk.i32_in _ (by omega)
        have : IntKind.i32.wrap (r % 64) = r % 64 := IntWalk.i32_in _ (by omega)
        have : IntKind.i32.wrap (192 + r / 64) = 192 + r / 64 := IntWalk.i32_in _ (by omega)
        have : IntKind.i32.wrap (128 + r % 64) = 128 + r % 64 := IntWalk.i32_in _ (by omega)
        have : IntKind.u8.wrap (192 + r / 64) = 192 + r / 64 := by rw [IntKind.wrap_u8]; omega
        have : IntKind.u8.wrap (128 + r % 64) = 128 + r % 64 := by rw [IntKind.wrap_u8]; omega
        clear c1 c2
        have hone : ∀ u ∈ ([.int .u8 (192 + r / 64), .int .u8 (128 + r % 64)] : List Value), u.oneCell' = true := by
          intro u hu; simp at hu; rcases hu with rfl | rfl <;> rfl
        go_wp2_with (at_builtin; refine wpList_append_own _ rfl _ _ 37 rfl w.heap.size 5 i0 (.int .u8 0) 1 1 Try.underlying37 hi hz0 hz1 hz2 rfl (by decide) _ acc.length (Lib.byteCells acc) rfl (hown.alloc _) ⟨wr.heap.size, 0, none⟩ 2 2 [.int .u8 (192 + r / 64), .int .u8 (128 + r % 64)] rfl rfl (World.news_of_block (heap_alloc_new _ _)) hone ?c3 ?c4 (hbs _) ?_)
        case c3 => unfold maxLen; omega
        case c4 => omega
        intro v' w1 hown' hgrow _
        have hb3 : Below w.heap.size w w1 := (hbw.alloc (by omega) _).grown hgrow (hbs _) (fun k hk => hne k hk)
        clear hgrow hown hne hi hz0 hz1 hz2
        go_wp2
        go_roundw
        case rel =>
          refine ⟨k + 1, acc ++ Lib.encodeRune r, by go_num, by omega, HS.out.symm, by rw [← HS.out]; exact HL.out, fun _ => HQ.out, ?_, hb3⟩
          rw [HE.out, List.length_append, HZ.out]
          exact hown'
        case measure => simp [intOf]; omega
      by_cases c3 : 2048 ≤ r ∧ r < 55296
      · rw [Lib.encodeRuneZ_three (by omega)] at heq hel
        simp only [List.map_cons, List.map_nil, List.length_cons, List.length_nil] at heq hel
        have HE := Lib.hid heq
        have HZ := Lib.hid hel
        clear heq hel
        have : ¬ r < 0 := by omega
        have : ¬ (1114111 : Int) < r := by omega
        have : ¬ (55296 : Int) ≤ r := by omega
        have : ¬ r < 128 := by omega
        have : ¬ r < 2048 := by omega
        have : r < 65536 := by omega
        have : r.tdiv 64 = r / 64 := Int.tdiv_eq_ediv_of_nonneg (by omega)
        have : r.tdiv 4096 = r / 4096 := Int.tdiv_eq_ediv_of_nonneg (by omega)
        have : r.tmod 64 = r % 64 := Int.tmod_eq_emod_of_nonneg (by omega)
        have : (r / 64).tmod 64 = r / 64 % 64 := Int.tmod_eq_emod_of_nonneg (by omega)
        have : IntKind.i32.wrap (r / 64) = r / 64 := IntWalk.i32_in _ (by omega)
        have : IntKind.i32.wrap (r / 4096) = r / 4096 := IntWalk.i32_in _ (by omega)
        have : IntKind.i32.wrap (r % 64) = r % 64 := IntWalk.i32_in _ (by omega)
        have : IntKind.i32.wrap (r / 64 % 64) = r / 64 % 64 := IntWalk.i32_in _ (by omega)
        have : IntKind.i32.wrap (224 + r / 4096) = 224 + r / 4096 := IntWalk.i32_in _ (by omega)
        have : IntKind.i32.wrap (128 + r / 64 % 64) = 128 + r / 64 % 64 := IntWalk.i32_in _ (by omega)
        have : IntKind.i32.wrap (128 + r % 64) = 128 + r % 64 := IntWalk.i32_in _ (by omega)
        have : IntKind.u8.wrap (224 + r / 4096) = 224 + r / 4096 := by rw [IntKind.wrap_u8]; omega
        have : IntKind.u8.wrap (128 + r / 64 % 64) = 128 + r / 64 % 64 := by rw [IntKind.wrap_u8]; omega
        have : IntKind.u8.wrap (128 + r % 64) = 128 + r % 64 := by rw [IntKind.wrap_u8]; omega
        clear c1 c2 c3
        have hone : ∀ u ∈ ([.int .u8 (224 + r / 4096), .int .u8 (128 + r / 64 % 64), .int .u8 (128 + r % 64)] : List Value), u.oneCell' = true := by
          intro u hu; simp at hu; rcases hu with rfl | rfl | rfl <;> rfl
        go_wp2_with (at_builtin; refine wpList_append_own _ rfl _ _ 37 rfl w.heap.size 5 i0 (.int .u8 0) 1 1 Try.underlying37 hi hz0 hz1 hz2 rfl (by decide) _ acc.length (Lib.byteCells acc) rfl (hown.alloc _) ⟨wr.heap.size, 0, none⟩ 3 3 [.int .u8 (224 + r / 4096), .int .u8 (128 + r / 64 % 64), .int .u8 (128 + r % 64)] rfl rfl (World.news_of_block (heap_alloc_new _ _)) hone ?c3 ?c4 (hbs _) ?_)
        case c3 => unfold maxLen; omega
        case c4 => omega
        intro v' w1 hown' hgrow _
        have hb3 : Below w.heap.size w w1 := (hbw.alloc (by omega) _).grown hgrow (hbs _) (fun k hk => hne k hk)
        clear hgrow hown hne hi hz0 hz1 hz2
        go_wp2
        go_roundw
        case rel =>
          refine ⟨k + 1, acc ++ Lib.encodeRune r, by go_num, by omega, HS.out.symm, by rw [← HS.out]; exact HL.out, fun _ => HQ.out, ?_, hb3⟩
          rw [HE.out, List.length_append, HZ.out]
          exact hown'
        case measure => simp [intOf]; omega
      by_cases c4 : 57343 < r ∧ r ≤ 65535
      · rw [Lib.encodeRuneZ_three (by omega)] at heq hel
        simp only [List.map_cons, List.map_nil, List.length_cons, List.length_nil] at heq hel
        have HE := Lib.hid heq
        have HZ := Lib.hid hel
        clear heq hel
        have : ¬ r < 0 := by omega
        have : ¬ (1114111 : Int) < r := by omega
        have : (55296 : Int) ≤ r := by omega
        have : ¬ r ≤ (57343 : Int) := by omega
        have : ¬ r < 128 := by omega
        have : ¬ r < 2048 := by omega
        have : r < 65536 := by omega
        have : r.tdiv 64 = r / 64 := Int.tdiv_eq_ediv_of_nonneg (by omega)
        have : r.tdiv 4096 = r / 4096 := Int.tdiv_eq_ediv_of_nonneg (by omega)
        have : r.tmod 64 = r % 64 := Int.tmod_eq_emod_of_nonneg (by omega)
        have : (r / 64).tmod 64 = r / 64 % 64 := Int.tmod_eq_emod_of_nonneg (by omega)
        have : IntKind.i32.wrap (r / 64) = r / 64 := IntWalk.i32_in _ (by omega)
        have : IntKind.i32.wrap (r / 4096) = r / 4096 := IntWalk.i32_in _ (by omega)
        have : IntKind.i32.wrap (r % 64) = r % 64 := IntWalk.i32_in _ (by omega)
        have : IntKind.i32.wrap (r / 64 % 64) = r / 64 % 64 := IntWalk.i32_in _ (by omega)
        have : IntKind.i32.wrap (224 + r / 4096) = 224 + r / 4096 := IntWalk.i32_in _ (by omega)
        have : IntKind.i32.wrap (128 + r / 64 % 64) = 128 + r / 64 % 64 := IntWalk.i32_in _ (by omega)
        have : IntKind.i32.wrap (128 + r % 64) = 128 + r % 64 := IntWalk.i32_in _ (by omega)
        have : IntKind.u8.wrap (224 + r / 4096) = 224 + r / 4096 := by rw [IntKind.wrap_u8]; omega
        have : IntKind.u8.wrap (128 + r / 64 % 64) = 128 + r / 64 % 64 := by rw [IntKind.wrap_u8]; omega
        have : IntKind.u8.wrap (128 + r % 64) = 128 + r % 64 := by rw [IntKind.wrap_u8]; omega
        clear c1 c2 c3 c4
        have hone : ∀ u ∈ ([.int .u8 (224 + r / 4096), .int .u8 (128 + r / 64 % 64), .int .u8 (128 + r % 64)] : List Value), u.oneCell' = true := by
          intro u hu; simp at hu; rcases hu with rfl | rfl | rfl <;> rfl
        go_wp2_with (at_builtin; refine wpList_append_own _ rfl _ _ 37 rfl w.heap.size 5 i0 (.int .u8 0) 1 1 Try.underlying37 hi hz0 hz1 hz2 rfl (by decide) _ acc.length (Lib.byteCells acc) rfl (hown.alloc _) ⟨wr.heap.size, 0, none⟩ 3 3 [.int .u8 (224 + r / 4096), .int .u8 (128 + r / 64 % 64), .int .u8 (128 + r % 64)] rfl rfl (World.news_of_block (heap_alloc_new _ _)) hone ?c3 ?c4 (hbs _) ?_)
        case c3 => unfold maxLen; omega
        case c4 => omega
        intro v' w1 hown' hgrow _
        have hb3 : Below w.heap.size w w1 := (hbw.alloc (by omega) _).grown hgrow (hbs _) (fun k hk => hne k hk)
        clear hgrow hown hne hi hz0 hz1 hz2
        go_wp2
        go_roundw
        case rel =>
          refine ⟨k + 1, acc ++ Lib.encodeRune r, by go_num, by omega, HS.out.symm, by rw [← HS.out]; exact HL.out, fun _ => HQ.out, ?_, hb3⟩
          rw [HE.out, List.length_append, HZ.out]
          exact hown'
        case measure => simp [intOf]; omega
      by_cases c5 : 65536 ≤ r ∧ r ≤ 1114111
      · rw [Lib.encodeRuneZ_four c5.1 c5.2] at heq hel
        simp only [List.map_cons, List.map_nil, List.length_cons, List.length_nil] at heq hel
        have HE := Lib.hid heq
        have HZ := Lib.hid hel
        clear heq hel
        have : ¬ r < 0 := by omega
        have : ¬ (1114111 : Int) < r := by omega
        have : (55296 : Int) ≤ r := by omega
        have : ¬ r ≤ (57343 : Int) := by omega
        have : ¬ r < 128 := by omega
        have : ¬ r < 2048 := by omega
        have : ¬ r < 65536 := by omega
        have : r.tdiv 64 = r / 64 := Int.tdiv_eq_ediv_of_nonneg (by omega)
        have : r.tdiv 4096 = r / 4096 := Int.tdiv_eq_ediv_of_nonneg (by omega)
        have : r.tdiv 262144 = r / 262144 := Int.tdiv_eq_ediv_of_nonneg (by omega)
        have : r.tmod 64 = r % 64 := Int.tmod_eq_emod_of_nonneg (by omega)
        have : (r / 64).tmod 64 = r / 64 % 64 := Int.tmod_eq_emod_of_nonneg (by omega)
        have : (r / 4096).tmod 64 = r / 4096 % 64 := Int.tmod_eq_emod_of_nonneg (by omega)
        have : IntKind.i32.wrap (r / 64) = r / 64 := IntWalk.i32_in _ (by omega)
        have : IntKind.i32.wrap (r / 4096) = r / 4096 := IntWalk.i32_in _ (by omega)
        have : IntKind.i32.wrap (r / 262144) = r / 262144 := IntWalk.i32_in _ (by omega)
        have : IntKind.i32.wrap (r % 64) = r % 64 := IntWalk.i32_in _ (by omega)
        have : IntKind.i32.wrap (r / 64 % 64) = r / 64 % 64 := IntWalk.i32_in _ (by omega)
        have : IntKind.i32.wrap (r / 4096 % 64) = r / 4096 % 64 := IntWalk.i32_in _ (by omega)
        have : IntKind.i32.wrap (240 + r / 262144) = 240 + r / 262144 := IntWalk.i32_in _ (by omega)
        have : IntKind.i32.wrap (128 + r / 4096 % 64) = 128 + r / 4096 % 64 := IntWalk.i32_in _ (by omega)
        have : IntKind.i32.wrap (128 + r / 64 % 64) = 128 + r / 64 % 64 := IntWalk.i32_in _ (by omega)
        have : IntKind.i32.wrap (128 + r % 64) = 128 + r % 64 := IntWalk.i32_in _ (by omega)
        have : IntKind.u8.wrap (240 + r / 262144) = 240 + r / 262144 := by rw [IntKind.wrap_u8]; omega
        have : IntKind.u8.wrap (128 + r / 4096 % 64) = 128 + r / 4096 % 64 := by rw [IntKind.wrap_u8]; omega
        have : IntKind.u8.wrap (128 + r / 64 % 64) = 128 + r / 64 % 64 := by rw [IntKind.wrap_u8]; omega
        have : IntKind.u8.wrap (128 + r % 64) = 128 + r % 64 := by rw [IntKind.wrap_u8]; omega
        clear c1 c2 c3 c4 c5
        have hone : ∀ u ∈ ([.int .u8 (240 + r / 262144), .int .u8 (128 + r / 4096 % 64), .int .u8 (128 + r / 64 % 64), .int .u8 (128 + r % 64)] : List Value), u.oneCell' = true := by
          intro u hu; simp at hu; rcases hu with rfl | rfl | rfl | rfl <;> rfl
        go_wp2_with (at_builtin; refine wpList_append_own _ rfl _ _ 37 rfl w.heap.size 5 i0 (.int .u8 0) 1 1 Try.underlying37 hi hz0 hz1 hz2 rfl (by decide) _ acc.length (Lib.byteCells acc) rfl (hown.alloc _) ⟨wr.heap.size, 0, none⟩ 4 4 [.int .u8 (240 + r / 262144), .int .u8 (128 + r / 4096 % 64), .int .u8 (128 + r / 64 % 64), .int .u8 (128 + r % 64)] rfl rfl (World.news_of_block (heap_alloc_new _ _)) hone ?c3 ?c4 (hbs _) ?_)
        case c3 => unfold maxLen; omega
        case c4 => omega
        intro v' w1 hown' hgrow _
        have hb3 : Below w.heap.size w w1 := (hbw.alloc (by omega) _).grown hgrow (hbs _) (fun k hk => hne k hk)
        clear hgrow hown hne hi hz0 hz1 hz2
        go_wp2
        go_roundw
        case rel =>
          refine ⟨k + 1, acc ++ Lib.encodeRune r, by go_num, by omega, HS.out.symm, by rw [← HS.out]; exact HL.out, fun _ => HQ.out, ?_, hb3⟩
          rw [HE.out, List.length_append, HZ.out]
          exact hown'
        case measure => simp [intOf]; omega
      by_cases c6 : r < 0
      · rw [Lib.encodeRuneZ_bad (by omega)] at heq hel
        simp only [List.map_cons, List.map_nil, List.length_cons, List.length_nil] at heq hel
        have HE := Lib.hid heq
        have HZ := Lib.hid hel
        clear heq hel
        have : r < 0 := c6
        clear c1 c2 c3 c4 c5
        have hone : ∀ u ∈ ([.int .u8 239, .int .u8 191, .int .u8 189] : List Value), u.oneCell' = true := by
          intro u hu; simp at hu; rcases hu with rfl | rfl | rfl <;> rfl
        go_wp2_with (at_builtin; refine wpList_append_own _ rfl _ _ 37 rfl w.heap.size 5 i0 (.int .u8 0) 1 1 Try.underlying37 hi hz0 hz1 hz2 rfl (by decide) _ acc.length (Lib.byteCells acc) rfl (hown.alloc _) ⟨wr.heap.size, 0, none⟩ 3 3 [.int .u8 239, .int .u8 191, .int .u8 189] rfl rfl (World.news_of_block (heap_alloc_new _ _)) hone ?c3 ?c4 (hbs _) ?_)
        case c3 => unfold maxLen; omega
        case c4 => omega
        intro v' w1 hown' hgrow _
        have hb3 : Below w.heap.size w w1 := (hbw.alloc (by omega) _).grown hgrow (hbs _) (fun k hk => hne k hk)
        clear hgrow hown hne hi hz0 hz1 hz2
        go_wp2
        go_roundw
        case rel =>
          refine ⟨k + 1, acc ++ Lib.encodeRune r, by go_num, by omega, HS.out.symm, by rw [← HS.out]; exact HL.out, fun _ => HQ.out, ?_, hb3⟩
          rw [HE.out, List.length_append, HZ.out]
          exact hown'
        case measure => simp [intOf]; omega
      by_cases c7 : 1114111 < r
      · rw [Lib.encodeRuneZ_bad (by omega)] at heq hel
        simp only [List.map_cons, List.map_nil, List.length_cons, List.length_nil] at heq hel
        have HE := Lib.hid heq
        have HZ := Lib.hid hel
        clear heq hel
        have : ¬ r < 0 := by omega
        have : (1114111 : Int) < r := by omega
        clear c1 c2 c3 c4 c5 c6
        have hone : ∀ u ∈ ([.int .u8 239, .int .u8 191, .int .u8 189] : List Value), u.oneCell' = true := by
          intro u hu; simp at hu; rcases hu with rfl | rfl | rfl <;> rfl
        go_wp2_with (at_builtin; refine wpList_append_own _ rfl _ _ 37 rfl w.heap.size 5 i0 (.int .u8 0) 1 1 Try.underlying37 hi hz0 hz1 hz2 rfl (by decide) _ acc.length (Lib.byteCells acc) rfl (hown.alloc _) ⟨wr.heap.size, 0, none⟩ 3 3 [.int .u8 239, .int .u8 191, .int .u8 189] rfl rfl (World.news_of_block (heap_alloc_new _ _)) hone ?c3 ?c4 (hbs _) ?_)
        case c3 => unfold maxLen; omega
        case c4 => omega
        intro v' w1 hown' hgrow _
        have hb3 : Below w.heap.size w w1 := (hbw.alloc (by omega) _).grown hgrow (hbs _) (fun k hk => hne k hk)
        clear hgrow hown hne hi hz0 hz1 hz2
        go_wp2
        go_roundw
        case rel =>
          refine ⟨k + 1, acc ++ Lib.encodeRune r, by go_num, by omega, HS.out.symm, by rw [← HS.out]; exact HL.out, fun _ => HQ.out, ?_, hb3⟩
          rw [HE.out, List.length_append, HZ.out]
          exact hown'
        case measure => simp [intOf]; omega
      rw [Lib.encodeRuneZ_bad (by omega)] at heq hel
      simp only [List.map_cons, List.map_nil, List.length_cons, List.length_nil] at heq hel
      have HE := Lib.hid heq
      have HZ := Lib.hid hel
      clear heq hel
      have : ¬ r < 0 := by omega
      have : ¬ (1114111 : Int) < r := by omega
      have : (55296 : Int) ≤ r := by omega
      have : r ≤ (57343 : Int) := by omega
      clear c1 c2 c3 c4 c5 c6 c7
      have hone : ∀ u ∈ ([.int .u8 239, .int .u8 191, .int .u8 189] : List Value), u.oneCell' = true := by
        intro u hu; simp at hu; rcases hu with rfl | rfl | rfl <;> rfl
      go_wp2_with (at_builtin; refine wpList_append_own _ rfl _ _ 37 rfl w.heap.size 5 i0 (.int .u8 0) 1 1 Try.underlying37 hi hz0 hz1 hz2 rfl (by decide) _ acc.length (Lib.byteCells acc) rfl (hown.alloc _) ⟨wr.heap.size, 0, none⟩ 3 3 [.int .u8 239, .int .u8 191, .int .u8 189] rfl rfl (World.news_of_block (heap_alloc_new _ _)) hone ?c3 ?c4 (hbs _) ?_)
      case c3 => unfold maxLen; omega
      case c4 => omega
      intro v' w1 hown' hgrow _
      have hb3 : Below w.heap.size w w1 := (hbw.alloc (by omega) _).grown hgrow (hbs _) (fun k hk => hne k hk)
      clear hgrow hown hne hi hz0 hz1 hz2
      go_wp2
      go_roundw
      case rel =>
        refine ⟨k + 1, acc ++ Lib.encodeRune r, by go_num, by omega, HS.out.symm, by rw [← HS.out]; exact HL.out, fun _ => HQ.out, ?_, hb3⟩
        rw [HE.out, List.length_append, HZ.out]
        exact hown'
      case measure => simp [intOf]; omega
    · obtain rfl : k = n := by omega
      have ht : l.take k = l := by rw [HN.out]; exact List.take_length
      rw [ht] at HA
      have hp := hpos hl0
      obtain ⟨g, cp, rfl, _, _⟩ := hown.form hp
      have cv : (convert 37 9 (.slice (some ⟨g, 0, none⟩) acc.length cp)).run Try.prog wr = .ok (.string ⟨acc.toArray⟩) wr := by
        refine run_convert_bytes_back wr 37 9 5 ⟨g, 0, none⟩ cp acc Try.underlying37 Try.underlying5 Try.underlying9 ?_
        intro j hj
        have hc := hown.cellAt j (by omega)
        rw [add_head, hc]
        exact cells_at _ j hj
      clear hown hi hz0 hz1 hz2 hpos hp
      go_wp2
      go_ret
      exact ⟨by rw [← HA.out]; rfl, hbw⟩
end Go.Proofs.Ytiedmlpeeebeeaa
