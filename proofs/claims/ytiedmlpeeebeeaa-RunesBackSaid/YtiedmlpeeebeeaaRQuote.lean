/-
  The contract of the reference's Quote: it answers what quoteP says. Condition: a text no longer than 4000.
-/
import Derived.Test.YtiedmlpeeebeeaaAwake
import Derived.Test.YtiedmlpeeebeeaaSplit
import Derived.Deep.RegionLaw
import Derived.Deep.AppendLies
import Derived.Lib.AppendStr
import Derived.Laws.IdiomStrings
namespace Go.Proofs.Ytiedmlpeeebeeaa
open Go.RowKit
set_option linter.unusedSimpArgs false
set_option linter.unusedVariables false

set_option maxHeartbeats 1000000 in
theorem digit_any (z : Int) (h0 : 0 ≤ z) (h1 : z < 16) (w : World) :
    Calls Try.prog 30 #[.int .u8 z] w fun e w' => e = .returned (.int .u8 ((hx z.toNat).toNat : Int)) ∧ w = w' := by
  obtain ⟨n, rfl⟩ := Int.eq_ofNat_of_zero_le h0
  have hn : n < 16 := by omega
  show Calls Try.prog 30 #[.int .u8 (n : Int)] w _
  rw [Int.toNat_natCast]
  have hv : ∀ n : Fin 16, ((hx n.val).toNat : Int) = if n.val < 10 then 48 + (n.val : Int) else 87 + (n.val : Int) := by decide
  have hv' := hv ⟨n, hn⟩
  simp only at hv'
  by_cases h : n < 10
  · have hq : (n : Int) < 10 := by omega
    rw [if_pos h] at hv'
    have e1 : IntKind.u8.wrap (48 + (n : Int)) = 48 + (n : Int) := by rw [IntKind.wrap_u8]; omega
    have HV := Lib.hid hv'
    clear hv' hv
    go_enter Try.func30, Try.ntmps30
    go_wp2
    go_ret
    exact ⟨by rw [HV.out]; rfl, rfl⟩
  · have hq : ¬ (n : Int) < 10 := by omega
    rw [if_neg h] at hv'
    have e1 : IntKind.u8.wrap (87 + (n : Int)) = 87 + (n : Int) := by rw [IntKind.wrap_u8]; omega
    have HV := Lib.hid hv'
    clear hv' hv
    go_enter Try.func30, Try.ntmps30
    go_wp2
    go_ret
    exact ⟨by rw [HV.out]; rfl, rfl⟩

theorem add_head (g j : Nat) : (⟨g, 0, none⟩ : Addr).add j = ⟨g, j, none⟩ := by unfold Addr.add; split <;> simp_all
theorem cells_at (l : List UInt8) (j : Nat) (hj : j < l.length) : (Lib.byteCells l)[j]? = some (.int .u8 (l[j].toNat : Int)) := by
  unfold Lib.byteCells
  simp [hj]
theorem strCells_cut (s : ByteArray) (i n : Nat) : Lib.strCells (s.extract i (i + n)) = Lib.byteCells ((s.data.toList.drop i).take n) := by
  unfold Lib.strCells
  rw [Lib.extract_data, Nat.add_sub_cancel_left]
  rfl

set_option maxHeartbeats 4000000 in
set_option maxRecDepth 1000000 in
theorem refQuote_any (s : ByteArray) (hs : s.size ≤ 4000) (w : World) :
    Calls Try.prog 12 #[.string s] w fun e w' => e = .returned (.string ⟨(quoteP s).toArray⟩) ∧ Below w.heap.size w w' := by
  obtain ⟨i0, hi, hz0, hz1, hz2⟩ := info_parts infoByte
  have WD := Lib.hid (width_any s)
  go_enter Try.func12, Try.ntmps12
  go_wp2
  go_loopw [3, 4] (fun v p wr => ∃ (pos fuel : Nat) (acc : List UInt8), p = .int .i64 (pos : Int) ∧ Below w.heap.size w wr ∧ wr.ownsRow w.heap.size 5 1 v acc.length (Lib.byteCells acc) ∧ acc ++ quoteF s fuel pos = 34 :: quoteF s s.size 0 ∧ s.size ≤ pos + fuel ∧ acc.length ≤ 1 + 4 * pos ∧ pos ≤ s.size) (fun _ p _ => s.size - (intOf p).toNat)
  case atStart =>
    exact ⟨0, s.size, [34], rfl, (Below.refl _ w).alloc (Nat.le_refl _) _, World.ownsRow_lit w #[.int .u8 34] 1 (Nat.le_refl _) (by decide) rfl, rfl, by omega, by simp, by omega⟩
  case round =>
    obtain ⟨pos, fuel, acc, rfl, hbw, hown, hacc, hfu, hal, hple⟩ := hrel
    have hbz := hbw.size
    have hcl : (Lib.byteCells acc).length = acc.length := Lib.byteCells_length acc
    have hne : ∀ k, (_ : Value).ownBlock = some k → w.heap.size ≤ k := fun k hk => (hown.lt k hk).1
    by_cases hp : pos < s.size
    · have hp' : (pos : Int) < (s.size : Int) := by omega
      obtain ⟨f, rfl⟩ : ∃ f, fuel = f + 1 := ⟨fuel - 1, by omega⟩
      have hin := wd_in s pos hp
      have hps := stp_pos s pos
      have hst := quoteF_step hp f
      rw [hst, ← List.append_assoc] at hacc
      have HA := Lib.hid hacc
      have WW := Lib.hid (WD.out pos hp hs)
      have hbt := bt_eq s pos hp
      have lx := bt_lt s pos
      rw [hbt] at lx
      have x0 : (0 : Int) ≤ ((s[pos]'hp).toNat : Int) / 16 := by omega
      have x1 : ((s[pos]'hp).toNat : Int) / 16 < 16 := by omega
      have y0 : (0 : Int) ≤ ((s[pos]'hp).toNat : Int) % 16 := by omega
      have y1 : ((s[pos]'hp).toNat : Int) % 16 < 16 := by omega
      have u1 : IntKind.u8.wrap (((s[pos]'hp).toNat : Int) / 16) = ((s[pos]'hp).toNat : Int) / 16 := by rw [IntKind.wrap_u8]; omega
      have u2 : IntKind.u8.wrap (((s[pos]'hp).toNat : Int) % 16) = ((s[pos]'hp).toNat : Int) % 16 := by rw [IntKind.wrap_u8]; omega
      have u3 : (((s[pos]'hp).toNat : Int)).tmod 16 = ((s[pos]'hp).toNat : Int) % 16 := Int.tmod_eq_emod_of_nonneg (by omega)
      have e1 : IntKind.i64.wrap ((pos : Int) + 1) = (pos : Int) + 1 := IntWalk.i64_in _ (by omega)
      obtain ⟨v, hv⟩ : ∃ v, v = wd s pos := ⟨_, rfl⟩
      rw [← hv] at WW
      clear hst hacc WD
      by_cases hb : wd s pos = 0 ∨ bt s pos < 32 ∨ bt s pos = 127
      · have HP := Lib.hid (piece_bad hb)
        have hs1 : stp s pos = 1 := by
          rcases hb with h | h | h
          · unfold stp; rw [if_pos h]
          · exact (wd_one hp (by omega)).2.1
          · exact (wd_one hp (by omega)).2.1
        rw [hs1] at HA hin
        have D1 := Lib.hid (digit_any (((s[pos]'hp).toNat : Int) / 16) x0 x1)
        have D2 := Lib.hid (digit_any (((s[pos]'hp).toNat : Int) % 16) y0 y1)
        rw [show (((s[pos]'hp).toNat : Int) / 16).toNat = (s[pos]'hp).toNat / 16 by omega] at D1
        rw [show (((s[pos]'hp).toNat : Int) % 16).toNat = (s[pos]'hp).toNat % 16 by omega] at D2
        rw [hbt] at HP
        have hpc : Lib.byteCells [92, 120, hx ((s[pos]'hp).toNat / 16), hx ((s[pos]'hp).toNat % 16)] = [.int .u8 92, .int .u8 120, .int .u8 ((hx ((s[pos]'hp).toNat / 16)).toNat : Int), .int .u8 ((hx ((s[pos]'hp).toNat % 16)).toNat : Int)] := rfl
        have HC := Lib.hid hpc
        obtain ⟨d1, hd1⟩ : ∃ d1 : Int, d1 = ((hx ((s[pos]'hp).toNat / 16)).toNat : Int) := ⟨_, rfl⟩
        obtain ⟨d2, hd2⟩ : ∃ d2 : Int, d2 = ((hx ((s[pos]'hp).toNat % 16)).toNat : Int) := ⟨_, rfl⟩
        rw [← hd1] at D1 HC
        rw [← hd2] at D2 HC
        have hone : ∀ u ∈ [Value.int .u8 92, .int .u8 120, .int .u8 d1, .int .u8 d2], u.oneCell' = true := by
          intro u hu; simp at hu; rcases hu with rfl | rfl | rfl | rfl <;> rfl
        have hmx : acc.length + 4 ≤ maxLen := by unfold maxLen; omega
        have hby : (acc.length + 4) * 1 ≤ 140737488355328 := by omega
        have hbs : ∀ o, w.heap.size ≤ (wr.alloc o).drew.heap.size := by intro o; show w.heap.size ≤ (wr.alloc o).heap.size; simp; omega
        clear hpc hd1 hd2
        by_cases hz : v = 0
        · subst hz
          clear hv hb hbt hs1 hps
          go_wp2_with (go_at_call 29; ((with_reducible refine (WW.out _).mono ?_); rintro e w' ⟨rfl, rfl⟩))
          go_region_law (first
            | (go_simp; go_at_call 30; ((with_reducible refine (D1.out _).mono ?_); rintro e w' ⟨rfl, rfl⟩))
            | (go_simp; go_at_call 30; ((with_reducible refine (D2.out _).mono ?_); rintro e w' ⟨rfl, rfl⟩))
            | (refine step_append_lies _ rfl _ _ _ rfl w.heap.size 5 i0 (.int .u8 0) 1 1 Try.underlying37 hi hz0 hz1 hz2 rfl (by decide) _ acc.length (Lib.byteCells acc) rfl (hown.alloc _).drew ⟨wr.heap.size, 0, none⟩ 4 4 [.int .u8 92, .int .u8 120, .int .u8 d1, .int .u8 d2] rfl rfl (World.news_of_block (heap_alloc_new _ _)) hone (by decide) hmx hby (hbs _) _ rfl ?_
               intro g cap w1 hown' hgrow hat hlt))
          all_goals
            have hb3 : Below w.heap.size w w1 := ((hbw.alloc (by omega) _).drew).grown hgrow (hbs _) (fun k hk => hne k hk)
            clear hgrow hown hne hi hz0 hz1 hz2
            go_wp2
            go_roundw
            case rel =>
              refine ⟨pos + 1, f, acc ++ piece s pos, by simp, hb3, ?_, HA.out, by omega, ?_, hin⟩
              · rw [HP.out, List.length_append, Lib.byteCells_append, HC.out]
                exact hown'
              · rw [HP.out, List.length_append]; simp; omega
            case measure => simp [intOf]; omega
        · have hz' : ((v : Int) == 0) = false := by simpa using hz
          have hzv2 : ¬ (v : Int) = 0 := by omega
          by_cases h3 : bt s pos < 32
          · have h4 : ((s[pos]'hp).toNat : Int) < 32 := by omega
            clear hv hb hbt hs1 hps h3
            go_wp2_with (go_at_call 29; ((with_reducible refine (WW.out _).mono ?_); rintro e w' ⟨rfl, rfl⟩))
            go_region_law (first
              | (go_simp; go_at_call 30; ((with_reducible refine (D1.out _).mono ?_); rintro e w' ⟨rfl, rfl⟩))
              | (go_simp; go_at_call 30; ((with_reducible refine (D2.out _).mono ?_); rintro e w' ⟨rfl, rfl⟩))
              | (refine step_append_lies _ rfl _ _ _ rfl w.heap.size 5 i0 (.int .u8 0) 1 1 Try.underlying37 hi hz0 hz1 hz2 rfl (by decide) _ acc.length (Lib.byteCells acc) rfl (hown.alloc _).drew ⟨wr.heap.size, 0, none⟩ 4 4 [.int .u8 92, .int .u8 120, .int .u8 d1, .int .u8 d2] rfl rfl (World.news_of_block (heap_alloc_new _ _)) hone (by decide) hmx hby (hbs _) _ rfl ?_
                 intro g cap w1 hown' hgrow hat hlt))
            all_goals
              have hb3 : Below w.heap.size w w1 := ((hbw.alloc (by omega) _).drew).grown hgrow (hbs _) (fun k hk => hne k hk)
              clear hgrow hown hne hi hz0 hz1 hz2
              go_wp2
              go_roundw
              case rel =>
                refine ⟨pos + 1, f, acc ++ piece s pos, by simp, hb3, ?_, HA.out, by omega, ?_, hin⟩
                · rw [HP.out, List.length_append, Lib.byteCells_append, HC.out]
                  exact hown'
                · rw [HP.out, List.length_append]; simp; omega
              case measure => simp [intOf]; omega
          · have h4 : ¬ ((s[pos]'hp).toNat : Int) < 32 := by omega
            have h5 : (((s[pos]'hp).toNat : Int) == 127) = true := by simp; omega
            clear hv hb hbt hs1 hps h3
            go_wp2_with (go_at_call 29; ((with_reducible refine (WW.out _).mono ?_); rintro e w' ⟨rfl, rfl⟩))
            go_region_law (first
              | (go_simp; go_at_call 30; ((with_reducible refine (D1.out _).mono ?_); rintro e w' ⟨rfl, rfl⟩))
              | (go_simp; go_at_call 30; ((with_reducible refine (D2.out _).mono ?_); rintro e w' ⟨rfl, rfl⟩))
              | (refine step_append_lies _ rfl _ _ _ rfl w.heap.size 5 i0 (.int .u8 0) 1 1 Try.underlying37 hi hz0 hz1 hz2 rfl (by decide) _ acc.length (Lib.byteCells acc) rfl (hown.alloc _).drew ⟨wr.heap.size, 0, none⟩ 4 4 [.int .u8 92, .int .u8 120, .int .u8 d1, .int .u8 d2] rfl rfl (World.news_of_block (heap_alloc_new _ _)) hone (by decide) hmx hby (hbs _) _ rfl ?_
                 intro g cap w1 hown' hgrow hat hlt))
            all_goals
              have hb3 : Below w.heap.size w w1 := ((hbw.alloc (by omega) _).drew).grown hgrow (hbs _) (fun k hk => hne k hk)
              clear hgrow hown hne hi hz0 hz1 hz2
              go_wp2
              go_roundw
              case rel =>
                refine ⟨pos + 1, f, acc ++ piece s pos, by simp, hb3, ?_, HA.out, by omega, ?_, hin⟩
                · rw [HP.out, List.length_append, Lib.byteCells_append, HC.out]
                  exact hown'
                · rw [HP.out, List.length_append]; simp; omega
              case measure => simp [intOf]; omega
      · have hz' : ((v : Int) == 0) = false := by simp; omega
        have hzv2 : ¬ (v : Int) = 0 := by omega
        have h3 : ¬ ((s[pos]'hp).toNat : Int) < 32 := by omega
        have h4 : (((s[pos]'hp).toNat : Int) == 127) = false := by simp; omega
        have hs1 : stp s pos = v := by unfold stp; rw [if_neg (by omega), hv]
        rw [hs1] at HA hin
        have HZ := Lib.hid (cut_size s pos v hin)
        have SC := Lib.hid (strCells_cut s pos v)
        have hle : v ≤ 4 := by rw [hv]; exact wd_le s pos
        have hin' : (pos : Int) + (v : Int) ≤ (s.size : Int) := by omega
        have e4 : IntKind.i64.wrap ((pos : Int) + (v : Int)) = (pos : Int) + (v : Int) := IntWalk.i64_in _ (by omega)
        by_cases hm : bt s pos = 34 ∨ bt s pos = 92
        · have hpm : piece s pos = 92 :: (s.data.toList.drop pos).take v := by unfold piece; rw [if_neg hb, if_pos hm, hv]; rfl
          have HP := Lib.hid hpm
          clear hpm
          by_cases hq : bt s pos = 34
          · have h6 : (((s[pos]'hp).toNat : Int) == 34) = true := by simp; omega
            clear hb hbt hs1 hps hm hq hv x0 x1 y0 y1 u1 u2 u3 e1
            go_wp2_with (first | (go_at_call 29; ((with_reducible refine (WW.out _).mono ?_); rintro e w' ⟨rfl, rfl⟩)) | (at_builtin; refine wpList_append_own _ rfl _ _ 37 rfl w.heap.size 5 i0 (.int .u8 0) 1 1 Try.underlying37 hi hz0 hz1 hz2 rfl (by decide) _ _ _ rfl (hown.alloc _) ⟨wr.heap.size, 0, none⟩ 1 1 [.int .u8 92] rfl rfl ?c1 ?c2 ?c3 ?c4 ?c5 ?_))
            case c1 => exact cell_one_new _ _ _
            case c2 => intro u hu; simp at hu; subst hu; rfl
            case c3 => unfold maxLen; omega
            case c4 => omega
            case c5 => simp; omega
            intro v1 w1 hown1 hgrow1 _
            have hb2 : Below w.heap.size w w1 := (hbw.alloc (by omega) _).grown hgrow1 (by simp; omega) (fun k hk => hne k hk)
            have hz5 := hb2.size
            have hne1 : ∀ k, v1.ownBlock = some k → w.heap.size ≤ k := fun k hk => (hown1.lt k hk).1
            clear hgrow1 hown hne
            go_wp2_with (at_builtin; refine Lib.wpList_append_own_string _ rfl _ _ 37 9 rfl w.heap.size 5 i0 Try.underlying37 Try.underlying9 hi hz0 hz1 hz2 _ _ _ rfl hown1 (s.extract pos (pos + v)) rfl ?c3 ?c4 ?c5 ?_)
            case c3 => rw [HZ.out]; unfold maxLen; omega
            case c4 => rw [HZ.out]; omega
            case c5 => omega
            intro v2 w2 hown2 hgrow2 _
            have hb3 : Below w.heap.size w w2 := hb2.grown hgrow2 (by omega) (fun k hk => hne1 k hk)
            have hownF := hown2
            clear hgrow2 hown1 hown2 hne1 hi hz0 hz1 hz2
            go_wp2
            go_roundw
            case rel =>
              refine ⟨pos + v, f, acc ++ piece s pos, by simp, hb3, ?_, HA.out, by omega, ?_, hin⟩
              · have h := hownF
                rw [SC.out] at h
                rw [HP.out, List.length_append, show Lib.byteCells (acc ++ 92 :: List.take v (List.drop pos s.data.toList)) = (Lib.byteCells acc ++ [.int .u8 92]) ++ Lib.byteCells (List.take v (List.drop pos s.data.toList)) by rw [show acc ++ 92 :: List.take v (List.drop pos s.data.toList) = (acc ++ [92]) ++ List.take v (List.drop pos s.data.toList) by simp, Lib.byteCells_append, Lib.byteCells_append]; rfl]
                have hl : (List.take v (List.drop pos s.data.toList)).length = v := by
                  rw [List.length_take, List.length_drop, ← Lib.size_eq]; omega
                rw [List.length_cons, hl, show acc.length + (v + 1) = acc.length + 1 + v by omega]
                (try rw [HZ.out] at h)
                first | exact h | (rw [List.append_assoc]; exact h)
              · have hl : (List.take v (List.drop pos s.data.toList)).length ≤ v := by rw [List.length_take]; omega
                rw [HP.out, List.length_append]; simp only [List.length_cons]; omega
            case measure => simp [intOf]; omega
          · have h6 : (((s[pos]'hp).toNat : Int) == 34) = false := by simp; omega
            have h7 : (((s[pos]'hp).toNat : Int) == 92) = true := by simp; omega
            clear hb hbt hs1 hps hm hq hv x0 x1 y0 y1 u1 u2 u3 e1
            go_wp2_with (first | (go_at_call 29; ((with_reducible refine (WW.out _).mono ?_); rintro e w' ⟨rfl, rfl⟩)) | (at_builtin; refine wpList_append_own _ rfl _ _ 37 rfl w.heap.size 5 i0 (.int .u8 0) 1 1 Try.underlying37 hi hz0 hz1 hz2 rfl (by decide) _ _ _ rfl (hown.alloc _) ⟨wr.heap.size, 0, none⟩ 1 1 [.int .u8 92] rfl rfl ?c1 ?c2 ?c3 ?c4 ?c5 ?_))
            case c1 => exact cell_one_new _ _ _
            case c2 => intro u hu; simp at hu; subst hu; rfl
            case c3 => unfold maxLen; omega
            case c4 => omega
            case c5 => simp; omega
            intro v1 w1 hown1 hgrow1 _
            have hb2 : Below w.heap.size w w1 := (hbw.alloc (by omega) _).grown hgrow1 (by simp; omega) (fun k hk => hne k hk)
            have hz5 := hb2.size
            have hne1 : ∀ k, v1.ownBlock = some k → w.heap.size ≤ k := fun k hk => (hown1.lt k hk).1
            clear hgrow1 hown hne
            go_wp2_with (at_builtin; refine Lib.wpList_append_own_string _ rfl _ _ 37 9 rfl w.heap.size 5 i0 Try.underlying37 Try.underlying9 hi hz0 hz1 hz2 _ _ _ rfl hown1 (s.extract pos (pos + v)) rfl ?c3 ?c4 ?c5 ?_)
            case c3 => rw [HZ.out]; unfold maxLen; omega
            case c4 => rw [HZ.out]; omega
            case c5 => omega
            intro v2 w2 hown2 hgrow2 _
            have hb3 : Below w.heap.size w w2 := hb2.grown hgrow2 (by omega) (fun k hk => hne1 k hk)
            have hownF := hown2
            clear hgrow2 hown1 hown2 hne1 hi hz0 hz1 hz2
            go_wp2
            go_roundw
            case rel =>
              refine ⟨pos + v, f, acc ++ piece s pos, by simp, hb3, ?_, HA.out, by omega, ?_, hin⟩
              · have h := hownF
                rw [SC.out] at h
                rw [HP.out, List.length_append, show Lib.byteCells (acc ++ 92 :: List.take v (List.drop pos s.data.toList)) = (Lib.byteCells acc ++ [.int .u8 92]) ++ Lib.byteCells (List.take v (List.drop pos s.data.toList)) by rw [show acc ++ 92 :: List.take v (List.drop pos s.data.toList) = (acc ++ [92]) ++ List.take v (List.drop pos s.data.toList) by simp, Lib.byteCells_append, Lib.byteCells_append]; rfl]
                have hl : (List.take v (List.drop pos s.data.toList)).length = v := by
                  rw [List.length_take, List.length_drop, ← Lib.size_eq]; omega
                rw [List.length_cons, hl, show acc.length + (v + 1) = acc.length + 1 + v by omega]
                (try rw [HZ.out] at h)
                first | exact h | (rw [List.append_assoc]; exact h)
              · have hl : (List.take v (List.drop pos s.data.toList)).length ≤ v := by rw [List.length_take]; omega
                rw [HP.out, List.length_append]; simp only [List.length_cons]; omega
            case measure => simp [intOf]; omega
        · have hpm : piece s pos = (s.data.toList.drop pos).take v := by unfold piece; rw [if_neg hb, if_neg hm, hv]; rfl
          have HP := Lib.hid hpm
          have h6 : (((s[pos]'hp).toNat : Int) == 34) = false := by simp; omega
          have h7 : (((s[pos]'hp).toNat : Int) == 92) = false := by simp; omega
          clear hpm hb hbt hs1 hps hm hv x0 x1 y0 y1 u1 u2 u3 e1
          go_wp2_with (first | (go_at_call 29; ((with_reducible refine (WW.out _).mono ?_); rintro e w' ⟨rfl, rfl⟩)) | (at_builtin; refine Lib.wpList_append_own_string _ rfl _ _ 37 9 rfl w.heap.size 5 i0 Try.underlying37 Try.underlying9 hi hz0 hz1 hz2 _ _ _ rfl hown (s.extract pos (pos + v)) rfl ?c3 ?c4 ?c5 ?_))
          case c3 => rw [HZ.out]; unfold maxLen; omega
          case c4 => rw [HZ.out]; omega
          case c5 => omega
          intro v2 w2 hown2 hgrow2 _
          have hb3 : Below w.heap.size w w2 := hbw.grown hgrow2 (by omega) (fun k hk => hne k hk)
          have hownF := hown2
          clear hgrow2 hown hown2 hne hi hz0 hz1 hz2
          go_wp2
          go_roundw
          case rel =>
            refine ⟨pos + v, f, acc ++ piece s pos, by simp, hb3, ?_, HA.out, by omega, ?_, hin⟩
            · have h := hownF
              rw [SC.out] at h
              rw [HP.out, List.length_append, Lib.byteCells_append]
              have hl : (List.take v (List.drop pos s.data.toList)).length = v := by
                rw [List.length_take, List.length_drop, ← Lib.size_eq]; omega
              rw [hl]
              (try rw [HZ.out] at h)
              first | exact h | (rw [List.append_assoc]; exact h)
            · have hl : (List.take v (List.drop pos s.data.toList)).length ≤ v := by rw [List.length_take]; omega
              rw [HP.out, List.length_append]; omega
          case measure => simp [intOf]; omega
    · have hp' : ¬ (pos : Int) < (s.size : Int) := by omega
      rw [quoteF_end hp, List.append_nil] at hacc
      have HA := Lib.hid hacc
      clear hacc WD
      go_wp2_with (at_builtin; refine wpList_append_lies _ rfl _ _ 37 rfl w.heap.size 5 i0 (.int .u8 0) 1 1 Try.underlying37 hi hz0 hz1 hz2 rfl (by decide) _ _ _ rfl (hown.alloc _) ⟨wr.heap.size, 0, none⟩ 1 1 [.int .u8 34] rfl rfl ?c1 ?c2 (by decide) ?c3 ?c4 ?c5 _ rfl ?_)
      case c2 => rfl
      case c3 => unfold maxLen; omega
      case c4 => omega
      case c5 => omega
      intro g cap w1 hown' hgrow _ hlt
      have hb3 : Below w.heap.size w w1 := (hbw.alloc (by omega) _).grown hgrow (by simp; omega) (fun k hk => hne k hk)
      have hcells : Lib.byteCells acc ++ [Value.int .u8 34] = Lib.byteCells (acc ++ [34]) := by rw [Lib.byteCells_append]; rfl
      rw [hcells] at hown'
      have hlen : acc.length + 1 = (acc ++ [34]).length := by simp
      have cv : (convert 37 9 (.slice (some ⟨g, 0, none⟩) (acc.length + 1) cap)).run Try.prog w1 = .ok (.string ⟨(acc ++ [34]).toArray⟩) w1 := by
        rw [hlen]
        refine run_convert_bytes_back w1 37 9 5 ⟨g, 0, none⟩ cap (acc ++ [34]) Try.underlying37 Try.underlying5 Try.underlying9 ?_
        intro j hj
        have hc := hown'.cellAt j (by rw [hlen]; omega)
        rw [add_head, hc]
        exact cells_at _ j hj
      clear hgrow hown' hown hne hi hz0 hz1 hz2 hcells hlen
      go_wp2
      go_ret
      exact ⟨by rw [HA.out]; rfl, hb3⟩
end Go.Proofs.Ytiedmlpeeebeeaa
