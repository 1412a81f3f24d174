/-
  The contract of the reference's Unquote: it answers what unqP says. Condition: a text no longer than 4000.
-/
import Derived.Test.YtiedmlpeeebeeaaUnq
namespace Go.Proofs.Ytiedmlpeeebeeaa
open Go.RowKit
set_option linter.unusedSimpArgs false
set_option linter.unusedVariables false

set_option maxHeartbeats 4000000 in
set_option maxRecDepth 1000000 in
theorem refUnquote_any (s : ByteArray) (hs : s.size ≤ 4000) (w : World) :
    Calls Try.prog 23 #[.string s] w fun e w' => e = .returned (.tuple #[.string (unqT s), .bool (unqO s)]) ∧ Below w.heap.size w w' := by
  obtain ⟨i0, hi, hz0, hz1, hz2⟩ := info_parts infoByte
  by_cases h2 : s.size < 2
  · have N := Lib.hid (unq_not (s := s) (fun h => by have := h.1; omega))
    have x1 : IntKind.i64.wrap ((s.size : Int) - 1) = (s.size : Int) - 1 := IntWalk.i64_in _ (by omega)
    have g : (s.size : Int) - 1 < 1 := by omega
    have g' : (s.size : Int) < 2 := by omega
    go_enter Try.func23, Try.ntmps23
    go_wp2
    go_ret2
    exact ⟨by rw [N.out.1, N.out.2]; rfl, Below.refl _ _⟩
  · obtain ⟨n, hn⟩ : ∃ n, s.size = n + 1 := ⟨s.size - 1, by omega⟩
    have hsz : (s.size : Int) = (n : Int) + 1 := by omega
    have g : ¬ (n : Int) < 1 := by omega
    have g' : (0 : Int) < (n : Int) + 1 := by omega
    have b0 := bt_eq s 0 (by omega)
    have bn := bt_eq s n (by omega)
    have x1 : IntKind.i64.wrap (n : Int) = (n : Int) := IntWalk.i64_in _ (by omega)
    have x2 : (n : Int) + 1 - 1 = (n : Int) := by omega
    have x3 : (n : Int) < (n : Int) + 1 := by omega
    by_cases e0 : bt s 0 = 34
    · have e0' : ((s[0]'(by omega)).toNat : Int) = 34 := by omega
      by_cases e1 : bt s n = 34
      · have e1' : ((s[n]'(by omega)).toNat : Int) = 34 := by omega
        have R := Lib.hid (refRight_any s hs)
        obtain ⟨r, hr⟩ : ∃ r, r = rightP s := ⟨_, rfl⟩
        rw [← hr] at R
        by_cases e2 : 0 ≤ r
        · have N := Lib.hid (unq_not (s := s) (fun h => by have := h.2.2.2; omega))
          clear b0 bn e0 e1 hr
          go_enter Try.func23, Try.ntmps23
          go_wp2_with fail
          with_reducible refine (R.out _).mono ?_
          rintro e W1 ⟨rfl, rfl⟩
          go_wp2
          go_ret2
          exact ⟨by rw [N.out.1, N.out.2]; rfl, Below.refl _ _⟩
        · have e2' : decide (0 ≤ r) = false := decide_eq_false e2
          have N := Lib.hid (unq_inner (s := s) ⟨by omega, e0, by rw [hn]; exact e1, by omega⟩)
          obtain ⟨t, ht⟩ : ∃ t, t = s.extract 1 n := ⟨_, rfl⟩
          have hts : t.size + 1 = n := by rw [ht, ext_size _ _ _ (by omega)]; omega
          have hbt : ∀ k, k < t.size → bt t k = bt s (1 + k) := fun k hk => by rw [ht]; exact ext_bt s 1 n k (by omega) (by omega)
          obtain ⟨f0, hf0⟩ : ∃ f0, f0 = s.size - 2 := ⟨_, rfl⟩
          rw [show s.size - 1 = n by omega, ← ht, ← hf0] at N
          obtain ⟨A, hA⟩ : ∃ A, A = unqP s := ⟨_, rfl⟩
          have NN := Lib.hid (fun h => unq_none (s := s) (hA.symm.trans h))
          have NS := Lib.hid (fun l h => unq_some (s := s) (l := l) (hA.symm.trans h))
          have N0 := N.out
          rw [← hA] at N0
          have R0 : Reads t A [] f0 0 := by rw [N0]; exact reads_start _ _
          have HT := Lib.hid hbt
          clear b0 bn e0 e1 hr ht N N0 hA hbt
          go_enter Try.func23, Try.ntmps23
          go_wp2_with fail
          with_reducible refine (R.out _).mono ?_
          rintro e W1 ⟨rfl, rfl⟩
          go_wp2
          go_loopw [5, 6] (fun v i wr => ∃ (pos fuel : Nat) (acc : List UInt8), i = .int .i64 (pos : Int) ∧ Below w.heap.size w wr ∧ wr.ownsRow w.heap.size 5 1 v acc.length (Lib.byteCells acc) ∧ Reads t A acc fuel (pos - 1) ∧ t.size + 1 ≤ pos + fuel ∧ acc.length ≤ pos ∧ pos ≤ n ∧ 1 ≤ pos) (fun _ i _ => n - (intOf i).toNat)
          case atStart => exact ⟨1, f0, [], rfl, Below.refl _ _, World.ownsRow_nil _ _ _ _, R0, by omega, by simp, by omega, by omega⟩
          case round =>
            obtain ⟨pos, fuel, acc, rfl, hbw, hown, hr, hfu, hal, hple, hp1⟩ := hrel
            have hbz := hbw.size
            by_cases hp : pos < n
            · have hp' : (pos : Int) < (n : Int) := by omega
              have hps : pos < s.size := by omega
              have hps' : (pos : Int) < (n : Int) + 1 := by omega
              obtain ⟨f, rfl⟩ : ∃ f, fuel = f + 1 := ⟨fuel - 1, by omega⟩
              have hq : pos - 1 < t.size := by omega
              have hb := bt_eq s pos hps
              have hbq := HT.out (pos - 1) hq
              rw [show 1 + (pos - 1) = pos by omega] at hbq
              have lb := bt_lt s pos
              by_cases h34 : bt s pos = 34
              · have c1 : ((s[pos]'hps).toNat : Int) = 34 := by omega
                have N := Lib.hid (NN.out (reads_none hr hq (ust_bad (.inl (hbq.trans h34)))))
                clear hr hown HT
                go_wp2
                go_ret2
                exact ⟨by rw [N.out.1, N.out.2]; rfl, hbw⟩
              by_cases h32 : bt s pos < 32
              · have c1 : (((s[pos]'hps).toNat : Int) == 34) = false := beq_eq_false_iff_ne.mpr (by omega)
                have c2 : ((s[pos]'hps).toNat : Int) < 32 := by omega
                have N := Lib.hid (NN.out (reads_none hr hq (ust_bad (.inr (.inl (by omega))))))
                clear hr hown HT
                go_wp2
                go_ret2
                exact ⟨by rw [N.out.1, N.out.2]; rfl, hbw⟩
              by_cases h127 : bt s pos = 127
              · have c1 : ((s[pos]'hps).toNat : Int) = 127 := by omega
                have N := Lib.hid (NN.out (reads_none hr hq (ust_bad (.inr (.inr (by omega))))))
                clear hr hown HT
                go_wp2
                go_ret2
                exact ⟨by rw [N.out.1, N.out.2]; rfl, hbw⟩
              have c1 : (((s[pos]'hps).toNat : Int) == 34) = false := beq_eq_false_iff_ne.mpr (by omega)
              have c2 : ¬ ((s[pos]'hps).toNat : Int) < 32 := by omega
              have c3 : (((s[pos]'hps).toNat : Int) == 127) = false := beq_eq_false_iff_ne.mpr (by omega)
              by_cases h92 : bt s pos = 92
              · have c4 : ((s[pos]'hps).toNat : Int) = 92 := by omega
                have hq92 := hbq.trans h92
                have BT : ∀ k, pos + k < t.size → bt t (pos - 1 + 1 + k) = bt s (pos + 1 + k) := fun k hk => by rw [HT.out _ (by omega)]; congr 1; omega
                obtain ⟨p1, hp1'⟩ : ∃ p1, p1 = pos + 1 := ⟨_, rfl⟩
                obtain ⟨p2, hp2'⟩ : ∃ p2, p2 = pos + 2 := ⟨_, rfl⟩
                obtain ⟨p3, hp3'⟩ : ∃ p3, p3 = pos + 3 := ⟨_, rfl⟩
                have y1 : IntKind.i64.wrap ((pos : Int) + 1) = (p1 : Int) := by rw [hp1', IntWalk.i64_in _ (by omega)]; omega
                have y2 : IntKind.i64.wrap ((pos : Int) + 2) = (p2 : Int) := by rw [hp2', IntWalk.i64_in _ (by omega)]; omega
                have y3 : IntKind.i64.wrap ((pos : Int) + 3) = (p3 : Int) := by rw [hp3', IntWalk.i64_in _ (by omega)]; omega
                by_cases k1 : pos < t.size
                · have q1 : (p1 : Int) < (n : Int) := by omega
                  have q1' : (p1 : Int) < (n : Int) + 1 := by omega
                  have q1s : p1 < s.size := by omega
                  have b1 := bt_eq s p1 q1s
                  have l1 := bt_lt s p1
                  have B0 := BT 0 (by omega)
                  simp only [Nat.add_zero] at B0
                  rw [← hp1'] at B0
                  by_cases m34 : bt s p1 = 34 ∨ bt s p1 = 92
                  · have ht := trn_one (t := t) (j := pos - 1 + 1) (by omega) (by rw [B0]; exact m34)
                    have hu := ust_mark hq92
                    rw [ht, if_neg (Nat.succ_ne_zero _)] at hu
                    have hr2 := reads_some hr hq (by rw [hu]; exact Nat.succ_ne_zero _)
                    rw [hu] at hr2
                    have hr3 : Reads t A (acc ++ [UInt8.ofNat (bt s p1)]) f (pos + 2 - 1) := by
                      rw [← B0, show pos + 2 - 1 = pos - 1 + (1 + 1) by omega]
                      exact hr2
                    rw [b1] at hr3 l1
                    have HR := Lib.hid hr3
                    clear y2
                    have y2 : IntKind.i64.wrap ((pos : Int) + 2) = (pos : Int) + 2 := IntWalk.i64_in _ (by omega)
                    clear hr hr2 hr3 ht hu B0 hq92 BT HT hp1' hp2' hp3' y3 hbq hb h34 h32 h127 h92
                    rcases m34 with m34 | m34
                    · have d1 : ((s[p1]'q1s).toNat : Int) = 34 := by omega
                      rw [show (s[p1]'q1s).toNat = 34 by omega] at HR l1
                      clear b1 m34
                      go_wp2_with (at_builtin; refine append_byte rfl _ _ rfl w.heap.size _ acc rfl hown _ l1 _ _ rfl (by omega) (by omega) ?_)
                      intro v' w1 l HL hown' hb3
                      have hb4 := hbw.trans hb3
                      go_wp2
                      go_roundw
                      case rel =>
                        exact ⟨pos + 2, f, l, by go_num, hb4, hown', by rw [HL.out]; simpa using HR.out, by omega, by rw [HL.out, List.length_append, List.length_singleton]; omega, by omega, by omega⟩
                      case measure => simp [intOf]; omega
                    · have d1 : ((s[p1]'q1s).toNat : Int) = 92 := by omega
                      rw [show (s[p1]'q1s).toNat = 92 by omega] at HR l1
                      clear b1 m34
                      go_wp2_with (at_builtin; refine append_byte rfl _ _ rfl w.heap.size _ acc rfl hown _ l1 _ _ rfl (by omega) (by omega) ?_)
                      intro v' w1 l HL hown' hb3
                      have hb4 := hbw.trans hb3
                      go_wp2
                      go_roundw
                      case rel =>
                        exact ⟨pos + 2, f, l, by go_num, hb4, hown', by rw [HL.out]; simpa using HR.out, by omega, by rw [HL.out, List.length_append, List.length_singleton]; omega, by omega, by omega⟩
                      case measure => simp [intOf]; omega
                  · have d1 : (((s[p1]'q1s).toNat : Int) == 34) = false := beq_eq_false_iff_ne.mpr (by omega)
                    have d2 : (((s[p1]'q1s).toNat : Int) == 92) = false := beq_eq_false_iff_ne.mpr (by omega)
                    by_cases k3 : pos + 2 < t.size
                    · have q3 : ¬ (n : Int) ≤ (p3 : Int) := by omega
                      have q2s : p2 < s.size := by omega
                      have q3s : p3 < s.size := by omega
                      have q2' : (p2 : Int) < (n : Int) + 1 := by omega
                      have q3' : (p3 : Int) < (n : Int) + 1 := by omega
                      have b2 := bt_eq s p2 q2s
                      have b3 := bt_eq s p3 q3s
                      have B1 := BT 1 (by omega)
                      have B2 := BT 2 (by omega)
                      rw [show pos + 1 + 1 = p2 by omega] at B1
                      rw [show pos + 1 + 2 = p3 by omega] at B2
                      by_cases m120 : bt s p1 = 120
                      · have d3 : ((s[p1]'q1s).toNat : Int) = 120 := by omega
                        have D2 := Lib.hid (number_any (bt s p2) (bt_lt _ _))
                        have D3 := Lib.hid (number_any (bt s p3) (bt_lt _ _))
                        have N2 := num_le (bt s p2)
                        have N3 := num_le (bt s p3)
                        obtain ⟨n2, hn2⟩ : ∃ n2, n2 = num (bt s p2) := ⟨_, rfl⟩
                        obtain ⟨n3, hn3⟩ : ∃ n3, n3 = num (bt s p3) := ⟨_, rfl⟩
                        rw [← hn2] at D2 N2
                        rw [← hn3] at D3 N3
                        rw [b2] at D2
                        rw [b3] at D3
                        by_cases z2 : n2 = 16
                        · have ht : trn t (pos - 1 + 1) = (0, 0) := trn_none (by rw [B0]; exact fun h => m34 h.2) (by rw [B1, ← hn2]; omega)
                          have hu := ust_mark hq92
                          rw [ht, if_pos rfl] at hu
                          have N := Lib.hid (NN.out (reads_none hr hq (by rw [hu])))
                          clear hr hown hu ht HT BT hp1' hp2' hp3'
                          subst z2
                          clear hn2 hn3 b1 b2 b3 B0 B1 B2 m34 m120
                          go_wp2_with (go_at_call 33; ((with_reducible refine (D2.out _).mono ?_); rintro e w' ⟨rfl, rfl⟩))
                          go_wp2
                          go_ret2
                          exact ⟨by rw [N.out.1, N.out.2]; rfl, hbw⟩
                        · have z2' : (((n2 : Nat) : Int) == 16) = false := beq_eq_false_iff_ne.mpr (by omega)
                          by_cases z3 : n3 = 16
                          · have ht : trn t (pos - 1 + 1) = (0, 0) := trn_none (by rw [B0]; exact fun h => m34 h.2) (by rw [B2, ← hn3]; omega)
                            have hu := ust_mark hq92
                            rw [ht, if_pos rfl] at hu
                            have N := Lib.hid (NN.out (reads_none hr hq (by rw [hu])))
                            clear hr hown hu ht HT BT hp1' hp2' hp3'
                            subst z3
                            clear hn2 hn3 b1 b2 b3 B0 B1 B2 m34 m120
                            go_wp2_with (go_at_call 33; (first | ((with_reducible refine (D2.out _).mono ?_); rintro e w' ⟨rfl, rfl⟩) | ((with_reducible refine (D3.out _).mono ?_); rintro e w' ⟨rfl, rfl⟩)))
                            go_wp2
                            go_ret2
                            exact ⟨by rw [N.out.1, N.out.2]; rfl, hbw⟩
                          · have z3' : (((n3 : Nat) : Int) == 16) = false := beq_eq_false_iff_ne.mpr (by omega)
                            have ht := trn_three (t := t) (j := pos - 1 + 1) (by omega) (by rw [B0]; exact m120) (by rw [B1, ← hn2]; omega) (by rw [B2, ← hn3]; omega)
                            rw [B1, B2, ← hn2, ← hn3] at ht
                            obtain ⟨b, hbd⟩ : ∃ b, b = n2 * 16 + n3 := ⟨_, rfl⟩
                            rw [← hbd] at ht
                            have hu := ust_mark hq92
                            rw [ht, if_neg (Nat.succ_ne_zero _)] at hu
                            have hr2 := reads_some hr hq (by rw [hu]; exact Nat.succ_ne_zero _)
                            rw [hu] at hr2
                            have hr3 : Reads t A (acc ++ [UInt8.ofNat b]) f (pos + 4 - 1) := by
                              rw [show pos + 4 - 1 = pos - 1 + (3 + 1) by omega]
                              exact hr2
                            have HR := Lib.hid hr3
                            have u1 : IntKind.u8.wrap ((n2 : Int) * 16) = (n2 : Int) * 16 := by rw [IntKind.wrap_u8]; omega
                            have u2 : IntKind.u8.wrap ((n2 : Int) * 16 + (n3 : Int)) = (b : Int) := by rw [IntKind.wrap_u8]; omega
                            have y4 : IntKind.i64.wrap ((pos : Int) + 4) = (pos : Int) + 4 := IntWalk.i64_in _ (by omega)
                            have hlb : b < 256 := by omega
                            have hne : ∀ k, (_ : Value).ownBlock = some k → w.heap.size ≤ k := fun k hk => (hown.lt k hk).1
                            have hone : ∀ u ∈ [Value.int .u8 (b : Int)], u.oneCell' = true := by
                              intro u hu; simp at hu; subst hu; rfl
                            have hmx : acc.length + 1 ≤ maxLen := by unfold maxLen; omega
                            have hby : (acc.length + 1) * 1 ≤ 140737488355328 := by omega
                            have hbs : ∀ o, w.heap.size ≤ (wr.alloc o).drew.heap.size := by intro o; show w.heap.size ≤ (wr.alloc o).heap.size; simp; omega
                            have HC := Lib.hid (show Lib.byteCells (acc ++ [UInt8.ofNat b]) = Lib.byteCells acc ++ [Value.int .u8 (b : Int)] by
                              rw [Lib.byteCells_append]
                              show _ ++ [Value.int .u8 ((UInt8.ofNat b).toNat : Int)] = _
                              rw [u8_byte hlb])
                            clear hr hr2 hr3 ht hu B0 B1 B2 hp1' hp2' hp3' hq92 BT HT hbq hb h34 h32 h127 h92 hn2 hn3 b1 b2 b3 hbd m34 m120
                            go_wp2_with (go_at_call 33; (first | ((with_reducible refine (D2.out _).mono ?_); rintro e w' ⟨rfl, rfl⟩) | ((with_reducible refine (D3.out _).mono ?_); rintro e w' ⟨rfl, rfl⟩)))
                            go_region_law (first
                              | (go_simp; go_at_call 33; ((with_reducible refine (D2.out _).mono ?_); rintro e w' ⟨rfl, rfl⟩))
                              | (go_simp; go_at_call 33; ((with_reducible refine (D3.out _).mono ?_); rintro e w' ⟨rfl, rfl⟩))
                              | (refine step_append_lies _ rfl _ _ _ rfl w.heap.size 5 i0 (.int .u8 0) 1 1 Try.underlying37 hi hz0 hz1 hz2 rfl (by decide) _ acc.length (Lib.byteCells acc) rfl (hown.alloc _).drew ⟨wr.heap.size, 0, none⟩ 1 1 [.int .u8 (b : Int)] rfl rfl (World.news_of_block (heap_alloc_new _ _)) hone (by decide) hmx hby (hbs _) _ rfl ?_
                                 intro g cap w1 hown' hgrow hat hlt))
                            all_goals
                              have hb3 : Below w.heap.size w w1 := ((hbw.alloc (by omega) _).drew).grown hgrow (hbs _) (fun k hk => hne k hk)
                              clear hgrow hown hne hi hz0 hz1 hz2
                              go_wp2
                              go_roundw
                              case rel =>
                                refine ⟨pos + 4, f, acc ++ [UInt8.ofNat b], by go_num, hb3, ?_, HR.out, by omega, ?_, by omega, by omega⟩
                                · rw [List.length_append, HC.out]
                                  exact hown'
                                · rw [List.length_append, List.length_singleton]; omega
                              case measure => simp [intOf]; omega
                      · have d3 : (((s[p1]'q1s).toNat : Int) != 120) = true := bne_iff_ne.mpr (by omega)
                        have ht : trn t (pos - 1 + 1) = (0, 0) := trn_none (by rw [B0]; exact fun h => m34 h.2) (by rw [B0]; exact fun h => m120 h.2.1)
                        have hu := ust_mark hq92
                        rw [ht, if_pos rfl] at hu
                        have N := Lib.hid (NN.out (reads_none hr hq (by rw [hu])))
                        clear hr hown hu ht HT BT hp1' hp2' hp3'
                        clear b1 b2 b3 B0 B1 B2 m34 m120
                        go_wp2
                        go_ret2
                        exact ⟨by rw [N.out.1, N.out.2]; rfl, hbw⟩
                    · have q3 : (n : Int) ≤ (p3 : Int) := by omega
                      have ht : trn t (pos - 1 + 1) = (0, 0) := trn_none (by rw [B0]; exact fun h => m34 h.2) (by omega)
                      have hu := ust_mark hq92
                      rw [ht, if_pos rfl] at hu
                      have N := Lib.hid (NN.out (reads_none hr hq (by rw [hu])))
                      clear hr hown hu ht HT BT hp1' hp2' hp3'
                      clear b1 B0 m34
                      go_wp2
                      go_ret2
                      exact ⟨by rw [N.out.1, N.out.2]; rfl, hbw⟩
                · have q1 : ¬ (p1 : Int) < (n : Int) := by omega
                  have q3 : (n : Int) ≤ (p3 : Int) := by omega
                  have ht : trn t (pos - 1 + 1) = (0, 0) := trn_none (by omega) (by omega)
                  have hu := ust_mark hq92
                  rw [ht, if_pos rfl] at hu
                  have N := Lib.hid (NN.out (reads_none hr hq (by rw [hu])))
                  clear hr hown hu ht HT BT hp1' hp2' hp3'
                  go_wp2
                  go_ret2
                  exact ⟨by rw [N.out.1, N.out.2]; rfl, hbw⟩
              · have c4 : (((s[pos]'hps).toNat : Int) != 92) = true := bne_iff_ne.mpr (by omega)
                have y1 : IntKind.i64.wrap ((pos : Int) + 1) = (pos : Int) + 1 := IntWalk.i64_in _ (by omega)
                have hu := ust_plain (t := t) (i := pos - 1) (by omega) (by omega)
                have hr2 := reads_some hr hq (by rw [hu]; exact Nat.succ_ne_zero _)
                rw [hu] at hr2
                have hr3 : Reads t A (acc ++ [UInt8.ofNat (bt s pos)]) f (pos + 1 - 1) := by
                  rw [show pos + 1 - 1 = pos - 1 + 1 by omega, ← hbq]
                  exact hr2
                rw [hb] at hr3 lb
                have HR := Lib.hid hr3
                clear hr hr2 hr3 hu hb hbq HT h34 h32 h127 h92
                go_wp2_with (at_builtin; refine append_byte rfl _ _ rfl w.heap.size _ acc rfl hown _ lb _ _ rfl (by omega) (by omega) ?_)
                intro v' w1 l HL hown' hb3
                have hb4 := hbw.trans hb3
                go_wp2
                go_roundw
                case rel =>
                  exact ⟨pos + 1, f, l, by go_num, hb4, hown', by rw [HL.out]; simpa using HR.out, by omega, by rw [HL.out, List.length_append, List.length_singleton]; omega, by omega, by omega⟩
                case measure => simp [intOf]; omega
            · have hp' : ¬ (pos : Int) < (n : Int) := by omega
              have cv := conv_row hown
              have N := Lib.hid (NS.out _ (reads_end hr (by omega)))
              clear hown hr HT
              go_wp2
              go_ret2
              exact ⟨by rw [N.out.1, N.out.2]; rfl, hbw⟩
      · have e1' : (((s[n]'(by omega)).toNat : Int) != 34) = true := bne_iff_ne.mpr (by omega)
        have N := Lib.hid (unq_not (s := s) (fun h => e1 (by have := h.2.2.1; rwa [hn] at this)))
        clear b0 bn e0 e1
        go_enter Try.func23, Try.ntmps23
        go_wp2
        go_ret2
        exact ⟨by rw [N.out.1, N.out.2]; rfl, Below.refl _ _⟩
    · have e0' : (((s[0]'(by omega)).toNat : Int) != 34) = true := bne_iff_ne.mpr (by omega)
      have N := Lib.hid (unq_not (s := s) (fun h => e0 h.2.1))
      clear b0 bn e0
      go_enter Try.func23, Try.ntmps23
      go_wp2
      go_ret2
      exact ⟨by rw [N.out.1, N.out.2]; rfl, Below.refl _ _⟩
end Go.Proofs.Ytiedmlpeeebeeaa
