/-
  The call of RunesBack answers true, and leaves what was there as it is. Conditions: none.
-/
import Derived.Test.YtiedmlpeeebeeaaUnq
import Derived.Test.YtiedmlpeeebeeaaLawPlays
import Derived.Test.YtiedmlpeeebeeaaPlBack
import Derived.Test.YtiedmlpeeebeeaaJoin
namespace Go.Proofs.Ytiedmlpeeebeeaa
open Go.RowKit
set_option linter.unusedSimpArgs false
set_option linter.unusedVariables false

/-- Join of a row of the call's own. -/
theorem join_row (l : List Int) (v : Value) (B : Nat) (w : World) (hl : l.length ≤ 100000) (hr : ∀ x ∈ l, 0 ≤ x ∧ x ≤ 1114111) (ho : w.ownsRow B 21 1 v l.length (l.map (Value.int .i32))) :
    Calls Try.prog 20 #[v] w fun e w' => e = .returned (.string ⟨(joinP l).toArray⟩) ∧ Below w.heap.size w w' := by
  rcases Go.Joins.ownsRow_forms ho with ⟨h1, h2⟩ | ⟨g, c, h1⟩
  · subst h1
    have : l = [] := List.length_eq_zero_iff.1 h2
    subst this
    exact join_none none 0 w
  · subst h1
    by_cases h0 : l.length = 0
    · have : l = [] := List.length_eq_zero_iff.1 h0
      subst this
      exact join_none _ c w
    · have lg := (ho.lt g rfl).2
      refine join_some l ⟨g, 0, none⟩ c w hl (fun k hk => ?_) (fun k hk => ?_) lg
      · have := hr (l.getD k 0) (by rw [List.getD_eq_getElem?_getD, List.getElem?_eq_getElem hk, Option.getD_some]; exact List.getElem_mem hk)
        omega
      · rw [add_head, ho.cellAt k (by omega)]
        simp [List.getD, hk]

theorem bytes_back (s : ByteArray) : (⟨s.data.toList.toArray⟩ : ByteArray) = s := Go.WideShapes.bytes_inj rfl

theorem same_join {j s : ByteArray} {r : Int} (h : j = s ↔ r < 0) : ((j.toList == s.toList) == decide (r < 0)) = true := by
  by_cases e : j = s
  · have := h.1 e
    rw [e, decide_eq_true this]
    simp
  · have h2 : ¬ r < 0 := fun hr => e (h.2 hr)
    have h3 : (j.toList == s.toList) = false := beq_eq_false_iff_ne.mpr (fun q => e (by
      rw [ByteArray.toList_eq, ByteArray.toList_eq] at q
      exact Go.WideShapes.bytes_inj q))
    rw [h3, decide_eq_false h2]
    rfl

set_option maxHeartbeats 2000000 in
theorem lawBack (s : ByteArray) (w : World) :
    Calls Try.prog 9 #[.string s] w fun e w' => e = .returned (.bool true) ∧ Below w.heap.size w w' := by
  have A := Lib.hid awake_any
  by_cases hs : 400 < s.size
  · have hs' : (400 : Int) < (s.size : Int) := by omega
    go_enter Try.func9, Try.ntmps9
    go_wp2_with fail
    with_reducible refine (A.out _).mono ?_
    rintro e W1 ⟨rfl, b1⟩
    go_wp2_with fail
    with_reducible refine (A.out _).mono ?_
    rintro e W2 ⟨rfl, b2⟩
    go_wp2
    go_ret
    exact ⟨rfl, b1.trans (b2.mono b1.size)⟩
  · have hs' : ¬ (400 : Int) < (s.size : Int) := by omega
    have Q := Lib.hid (quote_any s (by omega))
    have hl := quoteP_len s
    have hu := unq_some (unq_quote s)
    rw [bytes_back] at hu
    have hp := quoteP_printed s
    have hq1 := quoteP_right s
    obtain ⟨q, hq⟩ : ∃ q : ByteArray, q = ⟨(quoteP s).toArray⟩ := ⟨_, rfl⟩
    have hqs : q.size = (quoteP s).length := by rw [hq, size_list]
    rw [← hq] at Q hu hp hq1
    have U := Lib.hid (unquote_any q (by omega))
    rw [hu.1, hu.2] at U
    have RQ := Lib.hid (right_any q)
    rw [hq1] at RQ
    have RS := Lib.hid (right_any s)
    have S := Lib.hid (split_any s (by omega))
    have hls : (splitP s).length ≤ s.size := splitF_len s s.size 0
    have J := Lib.hid (fun v B W h => join_row (splitP s) v B W (by omega) (splitF_range s s.size 0) h)
    have hj := join_same s
    have HP := Lib.hid hp
    obtain ⟨m, hm⟩ : ∃ m, m = q.size := ⟨_, rfl⟩
    have hm4 : m ≤ 4000 := by omega
    obtain ⟨l, hld⟩ : ∃ l, l = splitP s := ⟨_, rfl⟩
    rw [← hld] at S J hj
    obtain ⟨j, hjd⟩ : ∃ j : ByteArray, j = ⟨(joinP l).toArray⟩ := ⟨_, rfl⟩
    rw [← hjd] at J hj
    obtain ⟨r, hrd⟩ : ∃ r, r = rightP s := ⟨_, rfl⟩
    rw [← hrd] at RS hj
    have HJ := Lib.hid hj
    clear hl hu hp hq1 hq hqs hls hld hjd hrd hj
    have HM := Lib.hid hm
    clear hm
    go_enter Try.func9, Try.ntmps9
    go_wp2_with fail
    with_reducible refine (A.out _).mono ?_
    rintro e W1 ⟨rfl, b1⟩
    have z1 := b1.size
    go_wp2_with fail
    with_reducible refine (Q.out _).mono ?_
    rintro e W2 ⟨rfl, b2⟩
    have z2 := b2.size
    have B2 := b1.trans (b2.mono z1)
    clear b1 b2
    go_wp2_with fail
    with_reducible refine (U.out _).mono ?_
    rintro e W3 ⟨rfl, b3⟩
    have z3 := b3.size
    have B3 := B2.trans (b3.mono (by omega))
    clear B2 b3
    go_wp2_with fail
    with_reducible refine (RQ.out _).mono ?_
    rintro e W4 ⟨rfl, b4⟩
    have z4 := b4.size
    have B4 := B3.trans (b4.mono (by omega))
    clear B3 b4
    go_wp2
    go_loopw [6] (fun i wr => ∃ k : Nat, k ≤ q.size ∧ i = .int .i64 (k : Int) ∧ Below w.heap.size w wr) (fun i _ => q.size - (intOf i).toNat)
    case atStart => exact ⟨0, Nat.zero_le _, rfl, B4⟩
    case round =>
      obtain ⟨k, hk, rfl, hbw⟩ := hrel
      have hbz := hbw.size
      have hm := HM.out
      by_cases hlt : k < q.size
      · have hlt' : (k : Int) < (q.size : Int) := by omega
        have hpk := HP.out k hlt
        unfold printed at hpk
        rw [bt_eq q k hlt] at hpk
        have c1 : ¬ ((q[k]'hlt).toNat : Int) < 32 := by omega
        have c2 : (((q[k]'hlt).toNat : Int) == 127) = false := beq_eq_false_iff_ne.mpr (by omega)
        have y1 : IntKind.i64.wrap ((k : Int) + 1) = (k : Int) + 1 := IntWalk.i64_in _ (by omega)
        clear hm
        go_wp2
        go_roundw
        case rel => exact ⟨k + 1, by omega, by go_num, hbw⟩
        case measure => simp [intOf]; omega
      · have hlt' : ¬ (k : Int) < (q.size : Int) := by omega
        clear hm
        go_wp2_with fail
        with_reducible refine (S.out _).mono ?_
        rintro e W5 ⟨v, rfl, o5, b5⟩
        have z5 := b5.size
        have B5 := hbw.trans (b5.mono (by omega))
        have O := Lib.hid o5
        clear hbw b5 o5
        go_wp2_with fail
        with_reducible refine (J.out _ _ _ O.out).mono ?_
        rintro e W6 ⟨rfl, b6⟩
        have z6 := b6.size
        have B6 := B5.trans (b6.mono (by omega))
        clear B5 b6
        go_wp2_with fail
        with_reducible refine (RS.out _).mono ?_
        rintro e W7 ⟨rfl, b7⟩
        have B7 := B6.trans (b7.mono (by omega))
        clear B6 b7
        go_wp2
        go_ret
        refine ⟨?_, B7⟩
        show Ending.returned (.bool ((j.toList == s.toList) == decide (r < 0))) = _
        rw [same_join HJ.out]
end Go.Proofs.Ytiedmlpeeebeeaa
