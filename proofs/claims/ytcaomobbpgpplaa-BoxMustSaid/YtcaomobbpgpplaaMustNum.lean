/-
  The call of BoxMust answers true where the box's kind is that of num, and leaves what was there as it is. Condition: the text is no longer than 300.
-/
import Derived.Test.YtcaomobbpgpplaaMust
namespace Go.Proofs.Ytcaomobbpgpplaa
open Go.RowKit

set_option maxHeartbeats 1000000 in
theorem mustlaw_num (n : Int) (s : ByteArray) (hs : s.size ≤ 300) (w : World) :
    Calls Try.prog 3 #[.agg #[.int .i64 1, .int .i64 n, .string s]] w fun e w' => e = .returned (.bool true) ∧ Below w.heap.size w w' := by
  have A := Lib.hid awake_any
  have P := Lib.hid (plain_num n s)
  have O := Lib.hid (of_num n ⟨#[]⟩)
  have N := Lib.hid (number_yes n)
  have S := Lib.hid (name_no (.num n) rfl)
  have T := Lib.hid (text_no (.num n) rfl)
  simp only [Bx.val, Bx.cell] at N S T
  go_enter Try.func3, Try.ntmps3
  go_wp2_with fail
  refine (A.out _).mono ?_
  rintro e w1 ⟨rfl, hb⟩
  obtain ⟨hc, hf⟩ := bcell hb
  have hz := hb.size
  simp at hz
  go_wp2_with fail
  refine (P.out _).mono ?_
  rintro e w2 ⟨rfl, hb2⟩
  have hz2 := hb2.size
  have c0 : w2.cell? ⟨w.heap.size, 0, none⟩ = some (.int .i64 1) := (hb2.cell (p := ⟨w.heap.size, 0, none⟩) (by show w.heap.size < _; omega)).trans ((hc _ _ (by simp)).trans (by simp))
  have c1 : w2.cell? ⟨w.heap.size, 1, none⟩ = some (.int .i64 n) := (hb2.cell (p := ⟨w.heap.size, 1, none⟩) (by show w.heap.size < _; omega)).trans ((hc _ _ (by simp)).trans (by simp))
  have c2 : w2.cell? ⟨w.heap.size, 2, none⟩ = some (.string s) := (hb2.cell (p := ⟨w.heap.size, 2, none⟩) (by show w.heap.size < _; omega)).trans ((hc _ _ (by simp)).trans (by simp))
  have f0 : ∀ o, w2.frozen? ⟨w.heap.size, o, none⟩ = false := fun o => (hb2.frozen (p := ⟨w.heap.size, o, none⟩) (by show w.heap.size < _; omega)).trans ((hf _ _ (by simp)).trans (by simp))
  clear hc hf
  go_wp2_with fail
  refine (O.out _).mono ?_
  rintro e w3 ⟨rfl, hb3⟩
  have hz3 := hb3.size
  simp at hz3
  have d0 : w3.cell? ⟨w.heap.size, 0, none⟩ = some (.int .i64 1) := (hb3.cell (p := ⟨w.heap.size, 0, none⟩) (by show w.heap.size < _; simp; omega)).trans (by simp [go_sem, c0, c1, c2])
  have d1 : w3.cell? ⟨w.heap.size, 1, none⟩ = some (.int .i64 n) := (hb3.cell (p := ⟨w.heap.size, 1, none⟩) (by show w.heap.size < _; simp; omega)).trans (by simp [go_sem, c0, c1, c2])
  have d2 : w3.cell? ⟨w.heap.size, 2, none⟩ = some (.string ⟨#[]⟩) := (hb3.cell (p := ⟨w.heap.size, 2, none⟩) (by show w.heap.size < _; simp; omega)).trans (by simp [go_sem, c0, c1, c2])
  obtain ⟨W, hW⟩ : ∃ W, W = w3 := ⟨_, rfl⟩
  have hB : Below w.heap.size w W := by
    rw [hW]
    refine ((((((Below.refl w.heap.size w).alloc (Nat.le_refl _) _).trans (hb.mono (by simp))).trans (hb2.mono (by omega))).setCell ?_ _).setCell ?_ _).setCell ?_ _ |>.trans (hb3.mono (by simp; omega))
    all_goals exact Nat.le_refl _
  have HB := Lib.hid hB
  rw [← hW] at d0 d1 d2 ⊢
  have hz4 : w.heap.size < W.heap.size := by rw [hW]; omega
  clear hb hb2 hb3 c0 c1 c2 f0 hz hz2 hz3 hW hB A P O
  go_wp2_with fail
  obtain ⟨V, hV⟩ : ∃ V, V = W.alloc (.cells #[.iface 3 (.int .i64 n)] 27) := ⟨_, rfl⟩
  rw [← hV]
  obtain ⟨g, hg⟩ : ∃ g, g = W.heap.size := ⟨_, rfl⟩
  rw [← hg]
  obtain ⟨h, hh⟩ : ∃ h, h = w.heap.size := ⟨_, rfl⟩
  have H0 : Held h g (.int .i64 1) (.int .i64 n) (.string ⟨#[]⟩) (.iface 3 (.int .i64 n)) w V := by
    rw [hV, hg, hh]
    exact ⟨past d0 _, past d1 _, past d2 _, (World.cell?_alloc_at _ _ _ _ rfl).trans rfl, HB.out.alloc HB.out.size _⟩
  rw [← hh]
  have HH := Lib.hid hh
  clear hV hg hh d0 d1 d2 hz4 HB
  refine (N.out _).mono ?_
  rintro e V1 ⟨rfl, b1⟩
  have H1 := H0.below b1
  have x1 := H1.2.2.2.1
  clear H0 b1
  have H1 := Lib.hid H1
  go_wp2_with fail
  refine (S.out _).mono ?_
  rintro e V2 ⟨rfl, b2⟩
  have H2 := H1.out.below b2
  have x2 := H2.2.2.2.1
  clear H1 b2
  have H2 := Lib.hid H2
  go_wp2_with fail
  refine (T.out _).mono ?_
  rintro e V3 ⟨rfl, b3⟩
  have H3 := H2.out.below b3
  have y0 := H3.1
  have y1 := H3.2.1
  have y2 := H3.2.2.1
  have HE := Lib.hid H3.2.2.2.2
  clear H2 b3 H3 x1 x2
  go_wp2_with fail
  go_ret
  exact ⟨rfl, HH.out ▸ HE.out⟩

end Go.Proofs.Ytcaomobbpgpplaa
