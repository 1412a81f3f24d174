/-
  The contract of runes.Unquote: it answers what unqP says. Condition: a text no longer than 4000.
-/
import Derived.Test.YtiedmlpeeebeeaaUnW
import Derived.Test.YtiedmlpeeebeeaaRQuote
import Derived.Test.YtiedmlpeeebeeaaLawPlays
import Derived.Lib.SmallJoins
namespace Go.Proofs.Ytiedmlpeeebeeaa
open Go.RowKit
set_option linter.unusedSimpArgs false
set_option linter.unusedVariables false

/-- What Unquote answers. -/
def unqT (s : ByteArray) : ByteArray := ⟨((unqP s).getD []).toArray⟩
def unqO (s : ByteArray) : Bool := (unqP s).isSome
theorem unq_none {s : ByteArray} (h : unqP s = none) : unqT s = ⟨#[]⟩ ∧ unqO s = false := by
  unfold unqT unqO; rw [h]; exact ⟨rfl, rfl⟩
theorem unq_some {s : ByteArray} {l : List UInt8} (h : unqP s = some l) : unqT s = ⟨l.toArray⟩ ∧ unqO s = true := by
  unfold unqT unqO; rw [h]; exact ⟨rfl, rfl⟩
theorem unq_not {s : ByteArray} (h : ¬ framed s) : unqT s = ⟨#[]⟩ ∧ unqO s = false := unq_none (by unfold unqP; rw [if_neg h])
theorem unq_inner {s : ByteArray} (h : framed s) : unqP s = unqF (s.extract 1 (s.size - 1)) (s.size - 2) 0 := by unfold unqP; rw [if_pos h]

/-- The text of a row of the call's own. -/
theorem conv_row {w : World} {B : Nat} {v : Value} {acc : List UInt8} (h : w.ownsRow B 5 1 v acc.length (Lib.byteCells acc)) : (convert 37 9 v).run Try.prog w = .ok (.string ⟨acc.toArray⟩) w := by
  rcases Go.Joins.ownsRow_forms h with ⟨h1, h2⟩ | ⟨g, c, h1⟩
  · subst h1
    have : acc = [] := List.length_eq_zero_iff.1 h2
    subst this
    rw [run_convert_bytes_string w 37 9 5 none 0 0 Try.underlying37 Try.underlying5 Try.underlying9]
    rfl
  · subst h1
    refine run_convert_bytes_back w 37 9 5 ⟨g, 0, none⟩ c acc Try.underlying37 Try.underlying5 Try.underlying9 ?_
    intro j hj
    have hc := h.cellAt j (by omega)
    rw [add_head, hc]
    exact cells_at _ j hj

/-- A byte laid behind a row of the call's own. -/
theorem append_byte {w : World} {ops : Array Oper} {rest : List Oper} {o : Oper} {a : Act} {Q : Exit → Act → World → Prop} (hgd : o.guard = none) (s x : Operand)
    (ho : o.op = .call { callee := .builtin .append, args := #[s, x], argTypes := #[37, 37] }) (base : Nat) (v : Value) (acc : List UInt8) (hs : a.eval s = v)
    (hown : w.ownsRow base 5 1 v acc.length (Lib.byteCells acc)) (b : Nat) (hb : b < 256) (t : TypeId) (fr : Nat × Nat) (hx : a.eval x = .slice (some ⟨w.heap.size, 0, none⟩) 1 1)
    (hlen : acc.length ≤ 100000) (hbase : base ≤ w.heap.size)
    (h : ∀ v' w' l, Hid (l = acc ++ [UInt8.ofNat b]) → w'.ownsRow base 5 1 v' l.length (Lib.byteCells l) → Below base w w' → wpList Try.prog ops Q rest (a.put o.dst v') w') :
    wpList Try.prog ops Q (o :: rest) a (w.alloc (.cells #[.int .u8 (b : Int)] t fr)) := by
  obtain ⟨i0, hi, hz0, hz1, hz2⟩ := info_parts infoByte
  refine wpList_append_own _ hgd s x 37 ho base 5 i0 (.int .u8 0) 1 1 Try.underlying37 hi hz0 hz1 hz2 rfl (by decide) v acc.length (Lib.byteCells acc) hs (hown.alloc _) ⟨w.heap.size, 0, none⟩ 1 1 [.int .u8 (b : Int)] hx rfl (World.news_of_block (heap_alloc_new _ _)) ?_ (by unfold maxLen; omega) (by omega) (by simp; omega) ?_
  · intro u hu
    simp at hu
    subst hu
    rfl
  · intro v' w1 hown' hgrow _
    refine h v' w1 _ (Lib.hid rfl) ?_ (((Below.refl base w).alloc hbase _).grown hgrow (by simp; omega) (fun k hk => (hown.lt k hk).1))
    have hc : Lib.byteCells [UInt8.ofNat b] = [.int .u8 (b : Int)] := by
      show [Value.int .u8 ((UInt8.ofNat b).toNat : Int)] = _
      rw [u8_byte hb]
    rw [List.length_append, Lib.byteCells_append, hc]
    exact hown'

set_option maxHeartbeats 4000000 in
theorem unquote_any (s : ByteArray) (hs : s.size ≤ 4000) (w : World) :
    Calls Try.prog 22 #[.string s] w fun e w' => e = .returned (.tuple #[.string (unqT s), .bool (unqO s)]) ∧ Below w.heap.size w w' := by
  by_cases h2 : s.size < 2
  · have N := Lib.hid (unq_not (s := s) (fun h => by have := h.1; omega))
    have g : (s.size : Int) < 2 := by omega
    go_enter Try.func22, Try.ntmps22
    go_wp2
    go_ret2
    exact ⟨by rw [N.out.1, N.out.2]; rfl, Below.refl _ _⟩
  · obtain ⟨n, hn⟩ : ∃ n, s.size = n + 1 := ⟨s.size - 1, by omega⟩
    have hsz : (s.size : Int) = (n : Int) + 1 := by omega
    have g : ¬ (n : Int) + 1 < 2 := by omega
    have g' : (0 : Int) < (n : Int) + 1 := by omega
    have b0 := bt_eq s 0 (by omega)
    have bn := bt_eq s n (by omega)
    have x1 : IntKind.i64.wrap (n : Int) = (n : Int) := IntWalk.i64_in _ (by omega)
    have x2 : (n : Int) + 1 - 1 = (n : Int) := by omega
    have x3 : (n : Int) < (n : Int) + 1 := by omega
    by_cases e0 : bt s 0 = 34
    · have e0' : ((s[0]'(by omega)).toNat : Int) = 34 := by omega
      by_cases e1 : bt s n = 34
      · have e1' : ((s[n]'(by omega)).toNat : Int) = 34 := by omega
        have R := Lib.hid (right_any s)
        obtain ⟨r, hr⟩ : ∃ r, r = rightP s := ⟨_, rfl⟩
        rw [← hr] at R
        by_cases e2 : 0 ≤ r
        · have N := Lib.hid (unq_not (s := s) (fun h => by have := h.2.2.2; omega))
          clear b0 bn e0 e1 hr
          go_enter Try.func22, Try.ntmps22
          go_wp2_with fail
          with_reducible refine (R.out _).mono ?_
          rintro e W1 ⟨rfl, b1⟩
          go_wp2
          go_ret2
          exact ⟨by rw [N.out.1, N.out.2]; rfl, b1⟩
        · have e2' : decide (0 ≤ r) = false := decide_eq_false e2
          have N := Lib.hid (unq_inner (s := s) ⟨by omega, e0, by rw [hn]; exact e1, by omega⟩)
          obtain ⟨t, ht⟩ : ∃ t, t = s.extract 1 n := ⟨_, rfl⟩
          have hts : t.size + 1 = n := by rw [ht, ext_size _ _ _ (by omega)]; omega
          obtain ⟨f0, hf0⟩ : ∃ f0, f0 = s.size - 2 := ⟨_, rfl⟩
          rw [show s.size - 1 = n by omega, ← ht, ← hf0] at N
          have HT := Lib.hid ht
          obtain ⟨A, hA⟩ : ∃ A, A = unqP s := ⟨_, rfl⟩
          have NN := Lib.hid (fun h => unq_none (s := s) (hA.symm.trans h))
          have NS := Lib.hid (fun l h => unq_some (s := s) (l := l) (hA.symm.trans h))
          have N0 := N.out
          rw [← hA] at N0
          have R0 : Reads t A [] f0 0 := by rw [N0]; exact reads_start _ _
          have x4 : (1 : Int) ≤ (n : Int) := by omega
          clear b0 bn e0 e1 hr ht N N0 hA
          go_enter Try.func22, Try.ntmps22
          go_wp2_with fail
          with_reducible refine (R.out _).mono ?_
          rintro e W1 ⟨rfl, b1⟩
          go_wp2
          rw [← HT.out]
          clear HT
          go_loopw [4, 6] (fun v i wr => ∃ (pos fuel : Nat) (acc : List UInt8), i = .int .i64 (pos : Int) ∧ Below w.heap.size w wr ∧ wr.ownsRow w.heap.size 5 1 v acc.length (Lib.byteCells acc) ∧ Reads t A acc fuel pos ∧ t.size ≤ pos + fuel ∧ acc.length ≤ pos ∧ pos ≤ t.size) (fun _ i _ => t.size - (intOf i).toNat)
          case atStart => exact ⟨0, f0, [], rfl, b1, World.ownsRow_nil _ _ _ _, R0, by omega, by simp, by omega⟩
          case round =>
            obtain ⟨pos, fuel, acc, rfl, hbw, hown, hr, hfu, hal, hple⟩ := hrel
            have hbz := hbw.size
            by_cases hp : pos < t.size
            · have hp' : (pos : Int) < (t.size : Int) := by omega
              obtain ⟨f, rfl⟩ : ∃ f, fuel = f + 1 := ⟨fuel - 1, by omega⟩
              have hb := bt_eq t pos hp
              have lb := bt_lt t pos
              have y1 : IntKind.i64.wrap ((pos : Int) + 1) = (pos : Int) + 1 := IntWalk.i64_in _ (by omega)
              by_cases h34 : bt t pos = 34
              · have c1 : ((t[pos]'hp).toNat : Int) = 34 := by omega
                have N := Lib.hid (NN.out (reads_none hr hp (ust_bad (.inl h34))))
                clear hr hown
                go_wp2
                go_ret2
                exact ⟨by rw [N.out.1, N.out.2]; rfl, hbw⟩
              by_cases h32 : bt t pos < 32
              · have c1 : (((t[pos]'hp).toNat : Int) == 34) = false := beq_eq_false_iff_ne.mpr (by omega)
                have c2 : ((t[pos]'hp).toNat : Int) < 32 := by omega
                have N := Lib.hid (NN.out (reads_none hr hp (ust_bad (.inr (.inl h32)))))
                clear hr hown
                go_wp2
                go_ret2
                exact ⟨by rw [N.out.1, N.out.2]; rfl, hbw⟩
              by_cases h127 : bt t pos = 127
              · have c1 : ((t[pos]'hp).toNat : Int) = 127 := by omega
                have N := Lib.hid (NN.out (reads_none hr hp (ust_bad (.inr (.inr h127)))))
                clear hr hown
                go_wp2
                go_ret2
                exact ⟨by rw [N.out.1, N.out.2]; rfl, hbw⟩
              have c1 : (((t[pos]'hp).toNat : Int) == 34) = false := beq_eq_false_iff_ne.mpr (by omega)
              have c2 : ¬ ((t[pos]'hp).toNat : Int) < 32 := by omega
              have c3 : (((t[pos]'hp).toNat : Int) == 127) = false := beq_eq_false_iff_ne.mpr (by omega)
              by_cases h92 : bt t pos = 92
              · have c4 : ((t[pos]'hp).toNat : Int) = 92 := by omega
                have hu := ust_mark h92
                have te := trn_ext t (pos + 1) (by omega)
                have T := Lib.hid (turned_any (t.extract (pos + 1) t.size) (by rw [ext_size _ _ _ (Nat.le_refl _)]; omega))
                rw [te] at T
                have hm := trn_in t (pos + 1)
                have hl := trn_lt t (pos + 1)
                obtain ⟨b, hb0⟩ : ∃ b, b = (trn t (pos + 1)).1 := ⟨_, rfl⟩
                obtain ⟨m, hm0⟩ : ∃ m, m = (trn t (pos + 1)).2 := ⟨_, rfl⟩
                rw [← hb0] at T hu hl
                rw [← hm0] at T hu hm
                by_cases hz : m = 0
                · rw [if_pos hz] at hu
                  subst hz
                  have N := Lib.hid (NN.out (reads_none hr hp (by rw [hu])))
                  clear hr hown hb hb0 hm0 hu te
                  go_wp2_with fail
                  with_reducible refine (T.out _).mono ?_
                  rintro e W2 ⟨rfl, b2⟩
                  go_wp2
                  go_ret2
                  exact ⟨by rw [N.out.1, N.out.2]; rfl, hbw.trans (b2.mono hbz)⟩
                · rw [if_neg hz] at hu
                  have hmt := hm.2 hz
                  have hm3 := hm.1
                  have hr2 := reads_some hr hp (by rw [hu]; exact Nat.succ_ne_zero _)
                  rw [hu] at hr2
                  have HR := Lib.hid (show Reads t A (acc ++ [UInt8.ofNat b]) f (pos + (m + 1)) from hr2)
                  have z1 : ((m : Int) == 0) = false := beq_eq_false_iff_ne.mpr (by omega)
                  have y2 : IntKind.i64.wrap ((pos : Int) + (m : Int)) = (pos : Int) + (m : Int) := IntWalk.i64_in _ (by omega)
                  have y3 : IntKind.i64.wrap ((pos : Int) + (m : Int) + 1) = (pos : Int) + (m : Int) + 1 := IntWalk.i64_in _ (by omega)
                  clear hr hr2 hu hb hb0 hm0 te h34 h32 h127 h92 hm
                  go_wp2_with fail
                  with_reducible refine (T.out _).mono ?_
                  rintro e W2 ⟨rfl, b2⟩
                  have z2 := b2.size
                  have hown2 := own_below hown b2
                  have hbw2 := hbw.trans (b2.mono hbz)
                  clear hown hbw b2
                  go_wp2_with (at_builtin; refine append_byte rfl _ _ rfl w.heap.size _ acc rfl hown2 b hl _ _ rfl (by omega) (by omega) ?_)
                  intro v' w1 l HL hown' hb3
                  have hb4 := hbw2.trans hb3
                  go_wp2
                  go_roundw
                  case rel =>
                    exact ⟨pos + (m + 1), f, l, by go_num, hb4, hown', by rw [HL.out]; exact HR.out, by omega, by rw [HL.out, List.length_append, List.length_singleton]; omega, by omega⟩
                  case measure => simp [intOf]; omega
              · have c4 : (((t[pos]'hp).toNat : Int) == 92) = false := beq_eq_false_iff_ne.mpr (by omega)
                have hu := ust_plain (t := t) (i := pos) (by omega) h92
                have hr2 := reads_some hr hp (by rw [hu]; exact Nat.succ_ne_zero _)
                rw [hu] at hr2
                have HR := Lib.hid hr2
                clear hr hr2 hu
                rw [hb] at HR lb
                clear hb h34 h32 h127 h92
                go_wp2_with (at_builtin; refine append_byte rfl _ _ rfl w.heap.size _ acc rfl hown _ lb _ _ rfl (by omega) (by omega) ?_)
                intro v' w1 l HL hown' hb3
                have hb4 := hbw.trans hb3
                go_wp2
                go_roundw
                case rel =>
                  exact ⟨pos + 1, f, l, by go_num, hb4, hown', by rw [HL.out]; simpa using HR.out, by omega, by rw [HL.out, List.length_append, List.length_singleton]; omega, by omega⟩
                case measure => simp [intOf]; omega
            · have hp' : ¬ (pos : Int) < (t.size : Int) := by omega
              have cv := conv_row hown
              have N := Lib.hid (NS.out _ (reads_end hr (by omega)))
              clear hown hr
              go_wp2
              go_ret2
              exact ⟨by rw [N.out.1, N.out.2]; rfl, hbw⟩
      · have e1' : (((s[n]'(by omega)).toNat : Int) != 34) = true := bne_iff_ne.mpr (by omega)
        have N := Lib.hid (unq_not (s := s) (fun h => e1 (by have := h.2.2.1; rwa [hn] at this)))
        clear b0 bn e0 e1
        go_enter Try.func22, Try.ntmps22
        go_wp2
        go_ret2
        exact ⟨by rw [N.out.1, N.out.2]; rfl, Below.refl _ _⟩
    · have e0' : (((s[0]'(by omega)).toNat : Int) != 34) = true := bne_iff_ne.mpr (by omega)
      have N := Lib.hid (unq_not (s := s) (fun h => e0 h.2.1))
      clear b0 bn e0
      go_enter Try.func22, Try.ntmps22
      go_wp2
      go_ret2
      exact ⟨by rw [N.out.1, N.out.2]; rfl, Below.refl _ _⟩
end Go.Proofs.Ytiedmlpeeebeeaa
