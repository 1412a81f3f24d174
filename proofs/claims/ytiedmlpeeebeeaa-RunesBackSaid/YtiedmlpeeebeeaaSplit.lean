/-
  The contract of runes.Split: a row of its own of the text's runes. Condition: a text no longer than 4000.
-/
import Derived.Test.YtiedmlpeeebeeaaRight
import Derived.WalkSmall
import Derived.Lib.SmallJoins
namespace Go.Proofs.Ytiedmlpeeebeeaa
open Go.RowKit
set_option linter.unusedSimpArgs false
set_option linter.unusedVariables false

theorem infoRune : (Try.prog.info? 21).map (fun i => (i.zero, i.size, i.bytes)) = some (some (.int .i32 0), 1, 4) := by kernel_rfl
theorem splitF_step {s : ByteArray} {i : Nat} (h : i < s.size) (f : Nat) : splitF s (f + 1) i = (rn s i : Int) :: splitF s f (i + stp s i) := by
  simp [splitF, h]

set_option maxHeartbeats 4000000 in
set_option maxRecDepth 1000000 in
theorem split_any (s : ByteArray) (hs : s.size ≤ 4000) (w : World) :
    Calls Try.prog 18 #[.string s] w fun e w' => ∃ v, e = .returned v ∧ w'.ownsRow w.heap.size 21 1 v (splitP s).length ((splitP s).map (Value.int .i32)) ∧ Below w.heap.size w w' := by
  obtain ⟨i0, hi, hz0, hz1, hz2⟩ := info_parts infoRune
  go_enter Try.func18, Try.ntmps18
  go_wp2
  go_loopw [3] (fun v wr => ∃ (pos fuel : Nat) (acc : List Int), wr.heap[w.heap.size]? = some (.stringIter s pos) ∧ Below w.heap.size w wr ∧ wr.ownsRow (w.heap.size + 1) 21 1 v acc.length (acc.map (Value.int .i32)) ∧ acc ++ splitF s fuel pos = splitP s ∧ s.size ≤ pos + fuel ∧ acc.length ≤ pos ∧ pos ≤ s.size) (fun _ wr => s.size - wr.iterPos w.heap.size)
  case atStart =>
    refine ⟨0, s.size, [], ?_, (Below.refl _ w).alloc (Nat.le_refl _) _, World.ownsRow_nil _ _ _ _, rfl, by omega, by simp, by omega⟩
    have := World.iter_heap w s 0
    simpa using this
  case round =>
    obtain ⟨pos, fuel, acc, hit, hbw, hown, hacc, hfu, hal, hple⟩ := hrel
    have hsz : w.heap.size < wr.heap.size := (Array.getElem?_eq_some_iff.1 hit).1
    by_cases hp : pos < s.size
    · have hnx : ∀ ty, (Instr.next (.pointer (some ⟨w.heap.size, 0, none⟩)) true ty).run Try.prog wr = _ := fun ty => Lib.run_next_any_at wr w.heap.size s pos ty hit hp
      have hit2 := Lib.iterAt_heap wr w.heap.size s pos (pos + (Utf8.decode s pos).2) hit
      have hbw2 := Lib.below_iterAt hbw (k := w.heap.size) (by omega) s (pos + (Utf8.decode s pos).2)
      have hown2 := ownsRow_iterAt hown (k := w.heap.size) (by omega) s (pos + (Utf8.decode s pos).2)
      obtain ⟨f, rfl⟩ : ∃ f, fuel = f + 1 := ⟨fuel - 1, by omega⟩
      have hps := stp_pos s pos
      have hin := wd_in s pos hp
      have hst := splitF_step hp f
      rw [← dec2 hp] at hps hin hst
      rw [← dec1 hp] at hst
      rw [hst] at hacc
      have hsz2 : (wr.iterAt w.heap.size s (pos + (Utf8.decode s pos).2)).heap.size = wr.heap.size := Lib.iterAt_size _ _ _ _
      have HA := Lib.hid hacc
      clear hst hacc
      obtain ⟨st, hst⟩ : ∃ st, st = (Utf8.decode s pos).2 := ⟨_, rfl⟩
      obtain ⟨r, hr⟩ : ∃ r, r = (Utf8.decode s pos).1 := ⟨_, rfl⟩
      rw [← hst] at hit2 hbw2 hsz2 hps hin HA hnx hown2
      rw [← hr] at HA hnx
      obtain ⟨V, hV⟩ : ∃ V, V = wr.iterAt w.heap.size s (pos + st) := ⟨_, rfl⟩
      rw [← hV] at hit2 hbw2 hsz2 hnx hown2
      clear hst hr hV
      have hsz3 : w.heap.size < V.heap.size := by omega
      clear hsz2
      go_wp2_with (at_builtin; refine wpList_append_own _ rfl _ _ 29 rfl (w.heap.size + 1) 21 i0 (.int .i32 0) 1 4 Try.underlying29 hi hz0 hz1 hz2 rfl (by decide) _ _ _ rfl (hown2.alloc _) ⟨V.heap.size, 0, none⟩ 1 1 [.int .i32 (r : Int)] rfl rfl ?c1 ?c2 ?c3 ?c4 ?c5 ?_)
      case c1 => exact cell_one_new _ _ _
      case c2 => intro u hu; simp at hu; subst hu; rfl
      case c3 => unfold maxLen; omega
      case c4 => omega
      case c5 => simp; omega
      intro v' w1 hown' hgrow _
      have hne : ∀ k, (_ : Value).ownBlock = some k → w.heap.size + 1 ≤ k := fun k hk => (hown2.lt k hk).1
      have hit3 : w1.heap[w.heap.size]? = some (.stringIter s (pos + st)) := by
        rw [hgrow.block w.heap.size (by simp; omega) (fun e => by have := hne _ e.symm; omega), Lib.alloc_old _ _ _ hsz3]
        exact hit2
      have hb3 : Below w.heap.size w w1 := (hbw2.alloc (by omega) _).grown hgrow (by simp; omega) (fun k hk => by have := hne k hk; omega)
      clear hgrow hown2 hne hi hz0 hz1 hz2
      go_wp2
      go_roundw
      case rel =>
        refine ⟨pos + st, f, acc ++ [(r : Int)], hit3, hb3, ?_, by rw [List.append_assoc]; exact HA.out, by omega, by rw [List.length_append]; simp; omega, hin⟩
        rw [List.length_append, List.map_append]
        exact hown'
      case measure =>
        simp only [World.iterPos, hit3, hit]
        omega
    · have hnx : ∀ ty, (Instr.next (.pointer (some ⟨w.heap.size, 0, none⟩)) true ty).run Try.prog wr = _ := fun ty => Lib.run_next_end_at wr w.heap.size s pos ty hit hp
      rw [splitF_end hp, List.append_nil] at hacc
      subst hacc
      go_wp2
      go_ret
      exact ⟨_, rfl, Go.Joins.ownsRow_le hown (by omega), hbw⟩
end Go.Proofs.Ytiedmlpeeebeeaa
