/-
  The call of BoxMust at a text longer than 300 answers true; what a region of the law holds on to stands behind a call (Held.below). Conditions: none.
-/
import Derived.Test.YtcaomobbpgpplaaHolds
namespace Go.Proofs.Ytcaomobbpgpplaa
open Go.RowKit

theorem lt_of_cell {w : World} {a : Addr} {v : Value} (h : w.cell? a = some v) : a.block < w.heap.size := by
  by_cases c : a.block < w.heap.size
  · exact c
  · simp [World.cell?, Array.getElem?_eq_none (Nat.le_of_not_lt c)] at h
theorem kept {w w' : World} {a : Addr} {v : Value} (h : w.cell? a = some v) (hb : Below w.heap.size w w') : w'.cell? a = some v := (hb.cell (lt_of_cell h)).trans h
theorem Held.below {h g : Nat} {a b c d : Value} {w V V' : World} (H : Held h g a b c d w V) (hb : Below V.heap.size V V') : Held h g a b c d w V' :=
  ⟨kept H.1 hb, kept H.2.1 hb, kept H.2.2.1 hb, kept H.2.2.2.1 hb, H.2.2.2.2.trans (hb.mono (by have := lt_of_cell H.1; exact Nat.le_of_lt this))⟩

set_option maxHeartbeats 1000000 in
theorem must_big (k n : Int) (s : ByteArray) (hs : 300 < s.size) (w : World) :
    Calls Try.prog 3 #[.agg #[.int .i64 k, .int .i64 n, .string s]] w fun e w' => e = .returned (.bool true) ∧ Below w.heap.size w w' := by
  have A := Lib.hid awake_any
  go_enter Try.func3, Try.ntmps3
  go_wp2_with fail
  refine (A.out _).mono ?_
  rintro e w1 ⟨rfl, hb⟩
  obtain ⟨hc, hf⟩ := bcell hb
  have hz := hb.size
  simp at hz
  go_wp2_with fail
  refine (A.out _).mono ?_
  rintro e w2 ⟨rfl, hb2⟩
  go_wp2
  go_ret
  exact ⟨rfl, (((Below.refl _ _).alloc (Nat.le_refl _) _).trans (hb.mono (by simp))).trans (hb2.mono (by omega))⟩

end Go.Proofs.Ytcaomobbpgpplaa
