/-
  The call of BoxHolds at a text longer than 300 answers true; what a region of the law holds on to (Held). Conditions: none.
-/
import Derived.Test.YtcaomobbpgpplaaWk2
import Derived.Deep.RegionHeld3
namespace Go.Proofs.Ytcaomobbpgpplaa
open Go.RowKit

/-- The law's box and its x stand, and what was there. -/
def Held (h g : Nat) (a b c d : Value) (w w' : World) : Prop :=
  w'.cell? ⟨h, 0, none⟩ = some a ∧ w'.cell? ⟨h, 1, none⟩ = some b ∧ w'.cell? ⟨h, 2, none⟩ = some c ∧ w'.cell? ⟨g, 0, none⟩ = some d ∧ Below h w w'
theorem past {w : World} {a : Addr} {v : Value} (h : w.cell? a = some v) (o : Obj) : (w.alloc o).cell? a = some v := by
  rw [World.cell?_alloc_some _ _ _ (by rw [h]; rfl), h]
theorem Held.step {h g : Nat} {a b c d : Value} {w V : World} (hsz : h ≤ w.heap.size) (H : Held h g a b c d w V) (o : Obj) : Held h g a b c d w (V.alloc o) :=
  ⟨past H.1 o, past H.2.1 o, past H.2.2.1 o, past H.2.2.2.1 o, H.2.2.2.2.alloc (Nat.le_trans hsz H.2.2.2.2.size) o⟩
theorem Held.drew {h g : Nat} {a b c d : Value} {w V : World} (H : Held h g a b c d w V) : Held h g a b c d w V.drew :=
  ⟨H.1, H.2.1, H.2.2.1, H.2.2.2.1, H.2.2.2.2.drew⟩

set_option maxHeartbeats 1000000 in
theorem holds_big (k n : Int) (s : ByteArray) (hs : 300 < s.size) (w : World) :
    Calls Try.prog 4 #[.agg #[.int .i64 k, .int .i64 n, .string s]] w fun e w' => e = .returned (.bool true) ∧ Below w.heap.size w w' := by
  have A := Lib.hid awake_any
  go_enter Try.func4, Try.ntmps4
  go_wp2_with fail
  refine (A.out _).mono ?_
  rintro e w1 ⟨rfl, hb⟩
  obtain ⟨hc, hf⟩ := bcell hb
  have hz := hb.size
  simp at hz
  go_wp2_with fail
  refine (A.out _).mono ?_
  rintro e w2 ⟨rfl, hb2⟩
  go_wp2
  go_ret
  exact ⟨rfl, (((Below.refl _ _).alloc (Nat.le_refl _) _).trans (hb.mono (by simp))).trans (hb2.mono (by omega))⟩

end Go.Proofs.Ytcaomobbpgpplaa
