/-
  The call of RunesParts answers true, and leaves what was there as it is. Conditions: none.
-/
import Derived.Test.YtiedmlpeeebeeaaLawPlays
import Derived.Test.YtiedmlpeeebeeaaPl3
import Derived.Laws.AppendOwnNone
namespace Go.Proofs.Ytiedmlpeeebeeaa
open Go.RowKit
set_option linter.unusedSimpArgs false
set_option linter.unusedVariables false

/-- append of a row, nil or not, to a row of the call's own. -/
theorem append_row {w : World} {ops : Array Oper} {rest : List Oper} {o : Oper} {a : Act} {Q : Exit → Act → World → Prop} (hgd : o.guard = none) (s x : Operand)
    (ho : o.op = .call { callee := .builtin .append, args := #[s, x], argTypes := #[29, 29] }) (base C : Nat) (v va : Value) (xs ys : List Int) (hs : a.eval s = v)
    (hown : w.ownsRow base 21 1 v xs.length (xs.map (Value.int .i32))) (hx : a.eval x = va) (hva : w.ownsRow C 21 1 va ys.length (ys.map (Value.int .i32)))
    (hlen : xs.length + ys.length ≤ 100000) (hbase : base ≤ w.heap.size)
    (h : ∀ v' w', w'.ownsRow base 21 1 v' (xs ++ ys).length ((xs ++ ys).map (Value.int .i32)) → w.grownBy w' v.ownBlock → wpList Try.prog ops Q rest (a.put o.dst v') w') : wpList Try.prog ops Q (o :: rest) a w := by
  obtain ⟨i0, hi, hz0, hz1, hz2⟩ := info_parts infoRune
  rcases Go.Joins.ownsRow_forms hva with ⟨h1, h2⟩ | ⟨g, cap, h1⟩
  · subst h1
    have hy : ys = [] := List.length_eq_zero_iff.1 h2
    subst hy
    refine wpList_append_own_none hgd s x 29 ho base 21 i0 1 Try.underlying29 hi v xs.length _ hs hown hx ?_
    exact h v w (by rw [List.append_nil]; exact hown) ⟨rfl, rfl, rfl, Nat.le_refl _, fun _ _ _ => rfl⟩
  · subst h1
    refine wpList_append_own _ hgd s x 29 ho base 21 i0 (.int .i32 0) 1 4 Try.underlying29 hi hz0 hz1 hz2 rfl (by decide) v xs.length _ hs hown ⟨g, 0, none⟩ ys.length cap (ys.map (Value.int .i32)) hx (by simp) (hva.cells rfl) ?_ (by unfold maxLen; omega) (by omega) hbase ?_
    · intro u hu
      obtain ⟨y, _, rfl⟩ := List.mem_map.1 hu
      rfl
    · intro v' w' ho' hg _
      refine h v' w' ?_ hg
      rw [List.length_append, List.map_append]
      exact ho'

set_option maxHeartbeats 2000000 in
theorem lawParts (s t : ByteArray) (w : World) :
    Calls Try.prog 6 #[.string s, .string t] w fun e w' => e = .returned (.bool true) ∧ Below w.heap.size w w' := by
  have A := Lib.hid awake_any
  by_cases hs : 400 < s.size
  · have hs' : (400 : Int) < (s.size : Int) := by omega
    go_enter Try.func6, Try.ntmps6
    go_wp2_with fail
    with_reducible refine (A.out _).mono ?_
    rintro e W1 ⟨rfl, b1⟩
    go_wp2_with fail
    with_reducible refine (A.out _).mono ?_
    rintro e W2 ⟨rfl, b2⟩
    go_wp2
    go_ret
    exact ⟨rfl, b1.trans (b2.mono b1.size)⟩
  have hs' : ¬ (400 : Int) < (s.size : Int) := by omega
  by_cases ht : 400 < t.size
  · have ht' : (400 : Int) < (t.size : Int) := by omega
    go_enter Try.func6, Try.ntmps6
    go_wp2_with fail
    with_reducible refine (A.out _).mono ?_
    rintro e W1 ⟨rfl, b1⟩
    go_wp2_with fail
    with_reducible refine (A.out _).mono ?_
    rintro e W2 ⟨rfl, b2⟩
    go_wp2
    go_ret
    exact ⟨rfl, b1.trans (b2.mono b1.size)⟩
  have ht' : ¬ (400 : Int) < (t.size : Int) := by omega
  have RS := Lib.hid (right_any s)
  by_cases hr : 0 ≤ rightP s
  · obtain ⟨r, hrr⟩ : ∃ r, r = rightP s := ⟨_, rfl⟩
    rw [← hrr] at RS hr
    clear hrr
    go_enter Try.func6, Try.ntmps6
    go_wp2_with fail
    with_reducible refine (A.out _).mono ?_
    rintro e W1 ⟨rfl, b1⟩
    go_wp2_with fail
    with_reducible refine (RS.out _).mono ?_
    rintro e W2 ⟨rfl, b2⟩
    go_wp2_with fail
    with_reducible refine (A.out _).mono ?_
    rintro e W3 ⟨rfl, b3⟩
    go_wp2
    go_ret
    exact ⟨rfl, (b1.trans (b2.mono b1.size)).trans (b3.mono (by have := b1.size; have := b2.size; omega))⟩
  have hneg : rightP s < 0 := by omega
  have p1 := parts_split s t hneg
  have p2 := parts_right s t hneg
  have lo := rightF_low t t.size 0
  have hsl : (splitP s).length ≤ s.size := splitF_len s s.size 0
  have htl : (splitP t).length ≤ t.size := splitF_len t t.size 0
  have hsz := app_size s t
  have RT := Lib.hid (right_any t)
  have RB := Lib.hid (right_any (s ++ t))
  have SS := Lib.hid (split_any s (by omega))
  have ST := Lib.hid (split_any t (by omega))
  have SB := Lib.hid (split_any (s ++ t) (by omega))
  rw [p1] at SB
  rw [p2] at RB
  have U := Lib.hid (same_eq (splitP s ++ splitP t) (by rw [List.length_append]; omega))
  obtain ⟨r, hrr⟩ : ∃ r, r = rightP s := ⟨_, rfl⟩
  rw [← hrr] at RS hneg
  obtain ⟨q, hq⟩ : ∃ q, q = rightP t := ⟨_, rfl⟩
  have hq1 : -1 ≤ q := by rw [hq]; exact lo
  have hqt : q ≤ t.size := by rw [hq]; exact rightF_high t t.size 0
  rw [← hq] at RT RB
  obtain ⟨ls, hls⟩ : ∃ ls, ls = splitP s := ⟨_, rfl⟩
  obtain ⟨lt, hlt⟩ : ∃ lt, lt = splitP t := ⟨_, rfl⟩
  rw [← hls] at SS SB U hsl
  rw [← hlt] at ST SB U htl
  have hr0 : ¬ (0 : Int) ≤ r := by omega
  have HU := Lib.hid hsz
  have hadd : s.size + t.size ≤ 800 := by omega
  clear p1 p2 lo hrr hq hls hlt hneg hr hsz
  by_cases hq0 : 0 ≤ q
  · rw [if_pos hq0] at RB
    have e1 : IntKind.i64.wrap (q + (s.size : Int)) = q + (s.size : Int) := IntWalk.i64_in _ (by omega)
    go_enter Try.func6, Try.ntmps6
    go_wp2_with fail
    with_reducible refine (A.out _).mono ?_
    rintro e W1 ⟨rfl, b1⟩
    have z1 := b1.size
    go_wp2_with fail
    with_reducible refine (RS.out _).mono ?_
    rintro e W2 ⟨rfl, b2⟩
    have z2 := b2.size
    have B2 : Below w.heap.size w W2 := b1.trans (b2.mono z1)
    clear b1 b2
    go_wp2_with fail
    with_reducible refine (SS.out _).mono ?_
    rintro e W3 ⟨va, rfl, o3, b3⟩
    have z3 := b3.size
    have E0 : (W2.alloc (.cells #[] 21)).ownsRow W2.heap.size 21 1 (.slice (some ⟨W2.heap.size, 0, none⟩) 0 0) ([] : List Int).length (([] : List Int).map (Value.int .i32)) := World.ownsRow_lit W2 #[] 0 (Nat.le_refl _) (by decide) rfl
    have E1 := own_below E0 b3
    have B3 : Below w.heap.size w W3 := (B2.alloc (by omega) _).trans (b3.mono (by simp; omega))
    simp at z3
    clear E0 b3 B2
    go_wp2_with (at_builtin; refine append_row rfl _ _ rfl W2.heap.size _ _ va [] ls rfl E1 rfl o3 (by simp; omega) (by omega) ?_)
    intro v1 W4 o4 g4
    have B4 : Below w.heap.size w W4 := B3.grown g4 (by omega) (fun k hk => by have := (E1.lt k hk).1; omega)
    have z4 := g4.size
    clear g4 E1 o3 B3
    go_wp2_with fail
    with_reducible refine (ST.out _).mono ?_
    rintro e W5 ⟨vb, rfl, o5, b5⟩
    have z5 := b5.size
    have o4' := own_below o4 b5
    have B5 : Below w.heap.size w W5 := B4.trans (b5.mono (by omega))
    clear o4 b5 B4
    have t1 : ls.length + lt.length ≤ 100000 := by omega
    have t2 : W2.heap.size ≤ W5.heap.size := by omega
    go_wp2_with (at_builtin; refine append_row rfl _ _ rfl W2.heap.size _ _ vb ls lt rfl o4' rfl o5 t1 t2 ?_)
    intro v2 W6 o6 g6
    have B6 : Below w.heap.size w W6 := B5.grown g6 (by omega) (fun k hk => by have := (o4'.lt k hk).1; omega)
    have z6 := g6.size
    clear g6 o4' o5 B5
    go_wp2_with fail
    with_reducible refine (RT.out _).mono ?_
    rintro e W7 ⟨rfl, b7⟩
    have z7 := b7.size
    have o7 := own_below o6 b7
    have B7 : Below w.heap.size w W7 := B6.trans (b7.mono (by omega))
    clear o6 b7 B6
    go_wp2_with fail
    with_reducible refine (SB.out _).mono ?_
    rintro e W8 ⟨vc, rfl, o8, b8⟩
    have z8 := b8.size
    have o9 := own_below o7 b8
    rw [← List.map_append, ← List.length_append] at o9
    have B8 : Below w.heap.size w W8 := B7.trans (b8.mono (by omega))
    clear o7 b8 B7
    go_wp2_with fail
    with_reducible refine (U.out _ _ _ _ _ o8 o9).mono ?_
    rintro e W9 ⟨rfl, b9⟩
    have z9 := b9.size
    have B9 : Below w.heap.size w W9 := B8.trans (b9.mono (by omega))
    clear o8 o9 b9 B8
    go_wp2_with fail
    with_reducible refine (RB.out _).mono ?_
    rintro e W10 ⟨rfl, b10⟩
    have B10 : Below w.heap.size w W10 := B9.trans (b10.mono (by omega))
    clear b10 B9
    go_wp2
    go_ret
    exact ⟨by simp, B10⟩
  · rw [if_neg hq0] at RB
    obtain rfl : q = -1 := by omega
    go_enter Try.func6, Try.ntmps6
    go_wp2_with fail
    with_reducible refine (A.out _).mono ?_
    rintro e W1 ⟨rfl, b1⟩
    have z1 := b1.size
    go_wp2_with fail
    with_reducible refine (RS.out _).mono ?_
    rintro e W2 ⟨rfl, b2⟩
    have z2 := b2.size
    have B2 : Below w.heap.size w W2 := b1.trans (b2.mono z1)
    clear b1 b2
    go_wp2_with fail
    with_reducible refine (SS.out _).mono ?_
    rintro e W3 ⟨va, rfl, o3, b3⟩
    have z3 := b3.size
    have E0 : (W2.alloc (.cells #[] 21)).ownsRow W2.heap.size 21 1 (.slice (some ⟨W2.heap.size, 0, none⟩) 0 0) ([] : List Int).length (([] : List Int).map (Value.int .i32)) := World.ownsRow_lit W2 #[] 0 (Nat.le_refl _) (by decide) rfl
    have E1 := own_below E0 b3
    have B3 : Below w.heap.size w W3 := (B2.alloc (by omega) _).trans (b3.mono (by simp; omega))
    simp at z3
    clear E0 b3 B2
    go_wp2_with (at_builtin; refine append_row rfl _ _ rfl W2.heap.size _ _ va [] ls rfl E1 rfl o3 (by simp; omega) (by omega) ?_)
    intro v1 W4 o4 g4
    have B4 : Below w.heap.size w W4 := B3.grown g4 (by omega) (fun k hk => by have := (E1.lt k hk).1; omega)
    have z4 := g4.size
    clear g4 E1 o3 B3
    go_wp2_with fail
    with_reducible refine (ST.out _).mono ?_
    rintro e W5 ⟨vb, rfl, o5, b5⟩
    have z5 := b5.size
    have o4' := own_below o4 b5
    have B5 : Below w.heap.size w W5 := B4.trans (b5.mono (by omega))
    clear o4 b5 B4
    have t1 : ls.length + lt.length ≤ 100000 := by omega
    have t2 : W2.heap.size ≤ W5.heap.size := by omega
    go_wp2_with (at_builtin; refine append_row rfl _ _ rfl W2.heap.size _ _ vb ls lt rfl o4' rfl o5 t1 t2 ?_)
    intro v2 W6 o6 g6
    have B6 : Below w.heap.size w W6 := B5.grown g6 (by omega) (fun k hk => by have := (o4'.lt k hk).1; omega)
    have z6 := g6.size
    clear g6 o4' o5 B5
    go_wp2_with fail
    with_reducible refine (RT.out _).mono ?_
    rintro e W7 ⟨rfl, b7⟩
    have z7 := b7.size
    have o7 := own_below o6 b7
    have B7 : Below w.heap.size w W7 := B6.trans (b7.mono (by omega))
    clear o6 b7 B6
    go_wp2_with fail
    with_reducible refine (SB.out _).mono ?_
    rintro e W8 ⟨vc, rfl, o8, b8⟩
    have z8 := b8.size
    have o9 := own_below o7 b8
    rw [← List.map_append, ← List.length_append] at o9
    have B8 : Below w.heap.size w W8 := B7.trans (b8.mono (by omega))
    clear o7 b8 B7
    go_wp2_with fail
    with_reducible refine (U.out _ _ _ _ _ o8 o9).mono ?_
    rintro e W9 ⟨rfl, b9⟩
    have z9 := b9.size
    have B9 : Below w.heap.size w W9 := B8.trans (b9.mono (by omega))
    clear o8 o9 b9 B8
    go_wp2_with fail
    with_reducible refine (RB.out _).mono ?_
    rintro e W10 ⟨rfl, b10⟩
    have B10 : Below w.heap.size w W10 := B9.trans (b10.mono (by omega))
    clear b10 B9
    go_wp2
    go_ret
    exact ⟨by simp, B10⟩
end Go.Proofs.Ytiedmlpeeebeeaa
