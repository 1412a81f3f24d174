/-
  The call of BoxOrder answers true and leaves what was there as it is. Conditions: none.
-/
import Derived.Test.YtcaomobbpgpplaaInv
import Derived.Deep.RegionHeld3
namespace Go.Proofs.Ytcaomobbpgpplaa
open Go.RowKit
set_option linter.unusedSimpArgs false
set_option linter.unusedVariables false

theorem three_below (w : World) (o o' o'' : Obj) : Below w.heap.size w (((w.alloc o).alloc o').alloc o'') := (((Below.refl _ _).alloc (Nat.le_refl _) _).alloc (by simp) _).alloc (by simp; omega) _

set_option maxHeartbeats 1000000 in
theorem order_big (k n : Int) (s : ByteArray) (l m : Int) (t : ByteArray) (i j : Int) (u : ByteArray) (hs : (300 < s.size ∧ True) ∨ (s.size ≤ 300 ∧ 300 < t.size) ∨ (s.size ≤ 300 ∧ t.size ≤ 300 ∧ 300 < u.size)) (w : World) :
    Calls Try.prog 6 #[.agg #[.int .i64 k, .int .i64 n, .string s], .agg #[.int .i64 l, .int .i64 m, .string t], .agg #[.int .i64 i, .int .i64 j, .string u]] w fun e w' => e = .returned (.bool true) ∧ Below w.heap.size w w' := by
  have A := Lib.hid awake_any
  rcases hs with ⟨hs, _⟩ | ⟨hs, ht⟩ | ⟨hs, ht, hu⟩
  all_goals
    go_enter Try.func6, Try.ntmps6
    go_wp2_with fail
    refine (A.out _).mono ?_
    rintro e w1 ⟨rfl, hb⟩
    obtain ⟨hc, hf⟩ := bcell hb
    have hz := hb.size
    simp at hz
    go_wp2_with fail
    refine (A.out _).mono ?_
    rintro e w2 ⟨rfl, hb2⟩
    go_wp2
    go_ret
    exact ⟨rfl, ((three_below _ _ _ _).trans (hb.mono (by simp; omega))).trans (hb2.mono (by omega))⟩

/-- How far one of three variables has come: its box read, made, its place made, the box laid there. -/
def Ch (B : Nat) (L X : Value) (bL bC bA bS : Bool) (uL uC p : Value) (g : Nat) (W : World) : Prop :=
  (bL = true → uL = L) ∧ (bC = true → uC = .agg #[X]) ∧ (bS = true → bA = true) ∧
  (bA = true → p = .pointer (some ⟨g, 0, none⟩) ∧ B ≤ g ∧ W.frozen? ⟨g, 0, none⟩ = false ∧ ∃ v, W.cell? ⟨g, 0, none⟩ = some v ∧ (bS = true → v = X))
section
variable {B : Nat} {L X : Value} {bL bC bA bS : Bool} {uL uC p : Value} {g : Nat} {W W' : World}
theorem Ch.below (H : Ch B L X bL bC bA bS uL uC p g W) (hb : Below W.heap.size W W') : Ch B L X bL bC bA bS uL uC p g W' := by
  obtain ⟨h1, h2, h3, h4⟩ := H
  refine ⟨h1, h2, h3, fun hA => ?_⟩
  obtain ⟨e, hB, hf, v, hc, hv⟩ := h4 hA
  have lt := lt_of_cell hc
  exact ⟨e, hB, (hb.frozen (p := ⟨g, 0, none⟩) lt).trans hf, v, kept hc hb, hv⟩
theorem Ch.alloc (H : Ch B L X bL bC bA bS uL uC p g W) (o : Obj) : Ch B L X bL bC bA bS uL uC p g (W.alloc o) := H.below (new_below W o)
theorem Ch.far (H : Ch B L X bL bC bA bS uL uC p g W) (q : Nat) (hq : bA = true → g ≠ q) (x : Value) : Ch B L X bL bC bA bS uL uC p g (W.setCell ⟨q, 0, none⟩ x) := by
  obtain ⟨h1, h2, h3, h4⟩ := H
  refine ⟨h1, h2, h3, fun hA => ?_⟩
  obtain ⟨e, hB, hf, v, hc, hv⟩ := h4 hA
  exact ⟨e, hB, by rw [World.frozen?_setCell]; exact hf, v, by rw [World.cell?_setCell_far _ _ _ _ (Ne.symm (hq hA))]; exact hc, hv⟩
theorem Ch.load (H : Ch B L X bL bC bA bS uL uC p g W) : Ch B L X true bC bA bS L uC p g W := ⟨fun _ => rfl, H.2.1, H.2.2.1, H.2.2.2⟩
theorem Ch.call (H : Ch B L X bL bC bA bS uL uC p g W) : Ch B L X bL true bA bS uL (.agg #[X]) p g W := ⟨H.1, fun _ => rfl, H.2.2.1, H.2.2.2⟩
theorem Ch.new (H : Ch B L X bL bC bA bS uL uC p g W) (hA : bA = false) (hB : B ≤ W.heap.size) (z : Value) (t : TypeId) :
    Ch B L X bL bC true bS uL uC (.pointer (some ⟨W.heap.size, 0, none⟩)) W.heap.size (W.alloc (.cells #[z] t)) := by
  refine ⟨H.1, H.2.1, fun _ => rfl, fun _ => ⟨rfl, hB, World.frozen?_alloc_at _ _ _ _ rfl, z, (World.cell?_alloc_at _ _ _ _ rfl).trans rfl, fun hS => ?_⟩⟩
  have := H.2.2.1 hS
  rw [hA] at this
  cases this
theorem Ch.lt (H : Ch B L X bL bC bA bS uL uC p g W) (hA : bA = true) : g < W.heap.size := by
  obtain ⟨e, hB, hf, v, hc, hv⟩ := H.2.2.2 hA
  exact lt_of_cell hc
theorem Ch.stored (H : Ch B L X bL bC bA bS uL uC p g W) (hA : bA = true) : Ch B L X bL bC bA true uL uC p g (W.setCell ⟨g, 0, none⟩ X) := by
  obtain ⟨e, hB, hf, v, hc, hv⟩ := H.2.2.2 hA
  exact ⟨H.1, H.2.1, fun _ => hA, fun _ => ⟨e, hB, by rw [World.frozen?_setCell]; exact hf, X, World.cell?_setCell_same _ _ _ hc, fun _ => rfl⟩⟩
end

theorem box_one (b : Bx) : b.cell.oneCell' = true := by cases b <;> rfl
theorem store_one {W : World} {g : Nat} {v X : Value} (hX : X.oneCell' = true) (hc : W.cell? ⟨g, 0, none⟩ = some v) (hf : W.frozen? ⟨g, 0, none⟩ = false) :
    (store ⟨g, 0, none⟩ X).run Try.prog W = .ok () (W.setCell ⟨g, 0, none⟩ X) := by
  rw [run_store _ _ _ _ _ hX, hc]
  simp [hf]

set_option maxHeartbeats 4000000 in
theorem order_small (k n : Int) (s : ByteArray) (l m : Int) (t : ByteArray) (i j : Int) (u : ByteArray) (hs : s.size ≤ 300) (ht : t.size ≤ 300) (hu : u.size ≤ 300) (w : World) :
    Calls Try.prog 6 #[.agg #[.int .i64 k, .int .i64 n, .string s], .agg #[.int .i64 l, .int .i64 m, .string t], .agg #[.int .i64 i, .int .i64 j, .string u]] w fun e w' => e = .returned (.bool true) ∧ Below w.heap.size w w' := by
  have A := Lib.hid awake_any
  have O1 := Lib.hid (of_any k n s)
  have O2 := Lib.hid (of_any l m t)
  have O3 := Lib.hid (of_any i j u)
  simp only [rv, Bx.val] at O1 O2 O3
  have C12 := Lib.hid (compare_boxes (bxOf k n s) (bxOf l m t))
  have C23 := Lib.hid (compare_boxes (bxOf l m t) (bxOf i j u))
  have C13 := Lib.hid (compare_boxes (bxOf k n s) (bxOf i j u))
  have C11 := Lib.hid (compare_boxes (bxOf k n s) (bxOf k n s))
  rw [cmp_self] at C11
  have hT := Lib.hid (cmp_trans (bxOf k n s) (bxOf l m t) (bxOf i j u))
  obtain ⟨c12, h12⟩ : ∃ c, c = (bxOf k n s).cmp (bxOf l m t) := ⟨_, rfl⟩
  obtain ⟨c23, h23⟩ : ∃ c, c = (bxOf l m t).cmp (bxOf i j u) := ⟨_, rfl⟩
  obtain ⟨c13, h13⟩ : ∃ c, c = (bxOf k n s).cmp (bxOf i j u) := ⟨_, rfl⟩
  rw [← h12] at C12 hT
  rw [← h23] at C23 hT
  rw [← h13] at C13 hT
  simp only [Bx.val] at C12 C23 C13 C11
  obtain ⟨X, hX⟩ : ∃ x, x = (bxOf k n s).cell := ⟨_, rfl⟩
  obtain ⟨Y, hY⟩ : ∃ x, x = (bxOf l m t).cell := ⟨_, rfl⟩
  obtain ⟨Z, hZ⟩ : ∃ x, x = (bxOf i j u).cell := ⟨_, rfl⟩
  rw [← hX] at O1 C12 C13 C11
  rw [← hY] at O2 C12 C23
  rw [← hZ] at O3 C23 C13
  have OX := Lib.hid (show X.oneCell' = true by rw [hX]; exact box_one _)
  have OY := Lib.hid (show Y.oneCell' = true by rw [hY]; exact box_one _)
  have OZ := Lib.hid (show Z.oneCell' = true by rw [hZ]; exact box_one _)
  clear hX hY hZ h12 h23 h13
  go_enter Try.func6, Try.ntmps6
  go_wp2_with fail
  refine (A.out _).mono ?_
  rintro e w1 ⟨rfl, hb⟩
  obtain ⟨hc, hf⟩ := bcell hb
  have hz := hb.size
  simp at hz
  go_wp2_with fail
  have c10 : w1.cell? ⟨w.heap.size, 0, none⟩ = some (.int .i64 k) := by rw [hc _ _ (by simp; omega)]; simp [go_sem]
  have c11 : w1.cell? ⟨w.heap.size, 1, none⟩ = some (.int .i64 n) := by rw [hc _ _ (by simp; omega)]; simp [go_sem]
  have c12' : w1.cell? ⟨w.heap.size, 2, none⟩ = some (.string s) := by rw [hc _ _ (by simp; omega)]; simp [go_sem]
  have c20 : w1.cell? ⟨w.heap.size + 1, 0, none⟩ = some (.int .i64 l) := by rw [hc _ _ (by first | (simp; done) | (simp; omega))]; simp [go_sem]
  have c21 : w1.cell? ⟨w.heap.size + 1, 1, none⟩ = some (.int .i64 m) := by rw [hc _ _ (by first | (simp; done) | (simp; omega))]; simp [go_sem]
  have c22 : w1.cell? ⟨w.heap.size + 1, 2, none⟩ = some (.string t) := by rw [hc _ _ (by first | (simp; done) | (simp; omega))]; simp [go_sem]
  have c30 : w1.cell? ⟨w.heap.size + 1 + 1, 0, none⟩ = some (.int .i64 i) := by rw [hc _ _ (by simp)]; simp [go_sem]
  have c31 : w1.cell? ⟨w.heap.size + 1 + 1, 1, none⟩ = some (.int .i64 j) := by rw [hc _ _ (by simp)]; simp [go_sem]
  have c32 : w1.cell? ⟨w.heap.size + 1 + 1, 2, none⟩ = some (.string u) := by rw [hc _ _ (by simp)]; simp [go_sem]
  have hb0 : Below w.heap.size w w1 := (three_below _ _ _ _).trans (hb.mono (by simp; omega))
  clear hb hc hf
  obtain ⟨h1, hh1⟩ : ∃ h, h = w.heap.size := ⟨_, rfl⟩
  obtain ⟨h3, hh3⟩ : ∃ h, h = w.heap.size + 1 + 1 := ⟨_, rfl⟩
  obtain ⟨h2, hh2⟩ : ∃ h, h = w.heap.size + 1 := ⟨_, rfl⟩
  obtain ⟨B, hB⟩ : ∃ B, B = h3 + 1 := ⟨_, rfl⟩
  have hBw : B ≤ w1.heap.size := by omega
  have l1 : h1 < B := by omega
  have l2 : h2 < B := by omega
  have l3 : h3 < B := by omega
  have lw : w.heap.size ≤ B := by omega
  rw [← hh3] at c30 c31 c32 ⊢
  rw [← hh2] at c20 c21 c22 ⊢
  rw [← hh1] at c10 c11 c12' ⊢
  have HB0 := Lib.hid hb0
  have HH := Lib.hid hh1
  clear hh1 hh2 hh3 hB hb0 hz
  have G1 := Lib.hid (show ∀ V, Below B w1 V → V.cell? ⟨h1, 0, none⟩ = some (.int .i64 k) ∧ V.cell? ⟨h1, 1, none⟩ = some (.int .i64 n) ∧ V.cell? ⟨h1, 2, none⟩ = some (.string s) from
    fun V hV => ⟨(hV.cell (p := ⟨h1, 0, none⟩) l1).trans c10, (hV.cell (p := ⟨h1, 1, none⟩) l1).trans c11, (hV.cell (p := ⟨h1, 2, none⟩) l1).trans c12'⟩)
  have G2 := Lib.hid (show ∀ V, Below B w1 V → V.cell? ⟨h2, 0, none⟩ = some (.int .i64 l) ∧ V.cell? ⟨h2, 1, none⟩ = some (.int .i64 m) ∧ V.cell? ⟨h2, 2, none⟩ = some (.string t) from
    fun V hV => ⟨(hV.cell (p := ⟨h2, 0, none⟩) l2).trans c20, (hV.cell (p := ⟨h2, 1, none⟩) l2).trans c21, (hV.cell (p := ⟨h2, 2, none⟩) l2).trans c22⟩)
  have G3 := Lib.hid (show ∀ V, Below B w1 V → V.cell? ⟨h3, 0, none⟩ = some (.int .i64 i) ∧ V.cell? ⟨h3, 1, none⟩ = some (.int .i64 j) ∧ V.cell? ⟨h3, 2, none⟩ = some (.string u) from
    fun V hV => ⟨(hV.cell (p := ⟨h3, 0, none⟩) l3).trans c30, (hV.cell (p := ⟨h3, 1, none⟩) l3).trans c31, (hV.cell (p := ⟨h3, 2, none⟩) l3).trans c32⟩)
  clear c10 c11 c12' c20 c21 c22 c30 c31 c32
  generalize hd1 : decide (300 < (s.size : Int)) = d1
  generalize hd2 : decide (300 < (t.size : Int)) = d2
  generalize hd3 : decide (300 < (u.size : Int)) = d3
  clear hd1 hd2 hd3
  refine wp_region_any (by kernel_rfl) ?_
  change wpAny _ _ _ _ _ _ _ (World.drew _)
  refine wpAny_inv (fun L a W => ∃ (b0 b1 b2 b3 b4 b5 b6 b7 b8 b9 b10 b11 : Bool) (u1 u2 u3 u4 u5 u6 p1 p2 p3 : Value) (g1 g2 g3 : Nat), L = #[b0, b1, b2, b3, b4, b5, b6, b7, b8, b9, b10, b11] ∧ a = (⟨#[Value.agg #[Value.int .i64 k, Value.int .i64 n, Value.string s], Value.agg #[Value.int .i64 l, Value.int .i64 m, Value.string t], Value.agg #[Value.int .i64 i, Value.int .i64 j, Value.string u], Value.pointer (some ⟨h1, 0, none⟩), Value.pointer (some ⟨h2, 0, none⟩), Value.pointer (some ⟨h3, 0, none⟩), Value.bool false, p1, p2, p3, Value.bool true, Value.bool false, Value.bool false, Value.pointer (some ⟨h1, 2, none⟩), Value.string s, Value.int .i64 (s.size : Int), Value.bool d1, Value.bool d1, Value.bool d1, Value.pointer (some ⟨h2, 2, none⟩), Value.string t, Value.int .i64 (t.size : Int), Value.bool d2, Value.bool (d1 || d2), Value.bool (d1 || d2), Value.pointer (some ⟨h3, 2, none⟩), Value.string u, Value.int .i64 (u.size : Int), Value.bool d3, Value.bool (d1 || d2 || d3), undef, u1, u2, u3, u4, u5, u6, undef, undef, undef, undef, undef, undef, undef, undef, undef, undef, undef, undef, undef, undef, undef, undef, undef, undef, undef, undef, undef, undef], []⟩ : Act) ∧ Below B w1 W ∧ B ≤ W.heap.size ∧ Ch B (Value.agg #[Value.int .i64 k, Value.int .i64 n, Value.string s]) X b0 b1 b6 b9 u1 u2 p1 g1 W ∧ Ch B (Value.agg #[Value.int .i64 l, Value.int .i64 m, Value.string t]) Y b2 b3 b7 b10 u3 u4 p2 g2 W ∧ Ch B (Value.agg #[Value.int .i64 i, Value.int .i64 j, Value.string u]) Z b4 b5 b8 b11 u5 u6 p3 g3 W ∧ (b6 = true → b7 = true → g1 ≠ g2) ∧ (b6 = true → b8 = true → g1 ≠ g3) ∧ (b7 = true → b8 = true → g2 ≠ g3)) ?step ?fin _ _ _ _ ?start ?cnt
  case cnt => decide
  case start =>
    have hch : ∀ (L X : Value), Ch B L X false false false false undef undef undef 0 w1.drew := fun L X => ⟨fun h => (by cases h), fun h => (by cases h), fun h => (by cases h), fun h => (by cases h)⟩
    exact ⟨false, false, false, false, false, false, false, false, false, false, false, false, undef, undef, undef, undef, undef, undef, undef, undef, undef, 0, 0, 0, rfl, rfl, (Below.refl _ _).drew, hBw, hch _ _, hch _ _, hch _ _, fun h => (by cases h), fun h => (by cases h), fun h => (by cases h)⟩
  case step =>
    rintro L a W q ⟨b0, b1, b2, b3, b4, b5, b6, b7, b8, b9, b10, b11, u1, u2, u3, u4, u5, u6, p1, p2, p3, g1, g2, g3, rfl, rfl, hW, hBW, H1, H2, H3, D12, D13, D23⟩ hq
    obtain ⟨hlt, hno, hdep⟩ := ready_mem hq
    have hlt12 : q < 12 := hlt
    rcases (show q = 0 ∨ q = 1 ∨ q = 2 ∨ q = 3 ∨ q = 4 ∨ q = 5 ∨ q = 6 ∨ q = 7 ∨ q = 8 ∨ q = 9 ∨ q = 10 ∨ q = 11 by omega) with rfl | rfl | rfl | rfl | rfl | rfl | rfl | rfl | rfl | rfl | rfl | rfl
    · -- 0
      obtain ⟨e0, e1, e2⟩ := G1.out W hW
      refine wpOp_step rfl (fun K hK => ?_)
      go_simp
      refine hK _ _ ?_
      exact ⟨true, b1, b2, b3, b4, b5, b6, b7, b8, b9, b10, b11, _, u2, u3, u4, u5, u6, p1, p2, p3, g1, g2, g3, rfl, rfl, hW, hBW, H1.load, H2, H3, D12, D13, D23⟩
    · -- 1
      have e : b0 = true := hdep _ rfl ⟨0, .data⟩ (by simp) rfl
      subst e
      obtain rfl := H1.1 rfl
      refine wpOp_step rfl (fun K hK => ?_)
      go_simp
      go_at_call 9
      with_reducible refine (O1.out _).mono ?_
      rintro e w2 ⟨rfl, hb⟩
      have hz := hb.size
      refine hK _ _ ?_
      exact ⟨true, true, b2, b3, b4, b5, b6, b7, b8, b9, b10, b11, _, _, u3, u4, u5, u6, p1, p2, p3, g1, g2, g3, rfl, rfl, hW.trans (hb.mono hBW), Nat.le_trans hBW hz, (H1.below hb).call, H2.below hb, H3.below hb, D12, D13, D23⟩
    · -- 2
      obtain ⟨e0, e1, e2⟩ := G2.out W hW
      refine wpOp_step rfl (fun K hK => ?_)
      go_simp
      refine hK _ _ ?_
      exact ⟨b0, b1, true, b3, b4, b5, b6, b7, b8, b9, b10, b11, u1, u2, _, u4, u5, u6, p1, p2, p3, g1, g2, g3, rfl, rfl, hW, hBW, H1, H2.load, H3, D12, D13, D23⟩
    · -- 3
      have e : b2 = true := hdep _ rfl ⟨2, .data⟩ (by simp) rfl
      subst e
      obtain rfl := H2.1 rfl
      refine wpOp_step rfl (fun K hK => ?_)
      go_simp
      go_at_call 9
      with_reducible refine (O2.out _).mono ?_
      rintro e w2 ⟨rfl, hb⟩
      have hz := hb.size
      refine hK _ _ ?_
      exact ⟨b0, b1, true, true, b4, b5, b6, b7, b8, b9, b10, b11, u1, u2, _, _, u5, u6, p1, p2, p3, g1, g2, g3, rfl, rfl, hW.trans (hb.mono hBW), Nat.le_trans hBW hz, H1.below hb, (H2.below hb).call, H3.below hb, D12, D13, D23⟩
    · -- 4
      obtain ⟨e0, e1, e2⟩ := G3.out W hW
      refine wpOp_step rfl (fun K hK => ?_)
      go_simp
      refine hK _ _ ?_
      exact ⟨b0, b1, b2, b3, true, b5, b6, b7, b8, b9, b10, b11, u1, u2, u3, u4, _, u6, p1, p2, p3, g1, g2, g3, rfl, rfl, hW, hBW, H1, H2, H3.load, D12, D13, D23⟩
    · -- 5
      have e : b4 = true := hdep _ rfl ⟨4, .data⟩ (by simp) rfl
      subst e
      obtain rfl := H3.1 rfl
      refine wpOp_step rfl (fun K hK => ?_)
      go_simp
      go_at_call 9
      with_reducible refine (O3.out _).mono ?_
      rintro e w2 ⟨rfl, hb⟩
      have hz := hb.size
      refine hK _ _ ?_
      exact ⟨b0, b1, b2, b3, true, true, b6, b7, b8, b9, b10, b11, u1, u2, u3, u4, _, _, p1, p2, p3, g1, g2, g3, rfl, rfl, hW.trans (hb.mono hBW), Nat.le_trans hBW hz, H1.below hb, H2.below hb, (H3.below hb).call, D12, D13, D23⟩
    · -- 6
      have e : b6 = false := hno
      refine wpOp_step rfl (fun K hK => ?_)
      go_simp
      refine hK _ _ ?_
      exact ⟨b0, b1, b2, b3, b4, b5, true, b7, b8, b9, b10, b11, u1, u2, u3, u4, u5, u6, _, p2, p3, _, g2, g3, rfl, rfl, hW.alloc hBW _, (by simp; omega), H1.new e hBW _ _, H2.alloc _, H3.alloc _, fun _ h => Ne.symm (Nat.ne_of_lt (H2.lt h)), fun _ h => Ne.symm (Nat.ne_of_lt (H3.lt h)), D23⟩
    · -- 7
      have e : b7 = false := hno
      refine wpOp_step rfl (fun K hK => ?_)
      go_simp
      refine hK _ _ ?_
      exact ⟨b0, b1, b2, b3, b4, b5, b6, true, b8, b9, b10, b11, u1, u2, u3, u4, u5, u6, p1, _, p3, g1, _, g3, rfl, rfl, hW.alloc hBW _, (by simp; omega), H1.alloc _, H2.new e hBW _ _, H3.alloc _, fun h _ => Nat.ne_of_lt (H1.lt h), D13, fun _ h => Ne.symm (Nat.ne_of_lt (H3.lt h))⟩
    · -- 8
      have e : b8 = false := hno
      refine wpOp_step rfl (fun K hK => ?_)
      go_simp
      refine hK _ _ ?_
      exact ⟨b0, b1, b2, b3, b4, b5, b6, b7, true, b9, b10, b11, u1, u2, u3, u4, u5, u6, p1, p2, _, g1, g2, _, rfl, rfl, hW.alloc hBW _, (by simp; omega), H1.alloc _, H2.alloc _, H3.new e hBW _ _, D12, fun h _ => Nat.ne_of_lt (H1.lt h), fun h _ => Nat.ne_of_lt (H2.lt h)⟩
    · -- 9
      have e : b6 = true := hdep _ rfl ⟨6, .data⟩ (by simp) rfl
      have e' : b1 = true := hdep _ rfl ⟨1, .data⟩ (by simp) rfl
      subst e
      subst e'
      obtain rfl := H1.2.1 rfl
      obtain ⟨e1, e2, e3, v, e4, e5⟩ := H1.2.2.2 rfl
      subst e1
      have st := store_one OX.out e4 e3
      clear e5
      refine wpOp_step rfl (fun K hK => ?_)
      go_simp
      refine hK _ _ ?_
      exact ⟨b0, true, b2, b3, b4, b5, true, b7, b8, true, b10, b11, u1, _, u3, u4, u5, u6, _, p2, p3, g1, g2, g3, rfl, rfl, hW.setCell e2 _, (by simpa [World.setCell] using hBW), H1.stored rfl, H2.far _ (fun h => Ne.symm (D12 rfl h)) _, H3.far _ (fun h => Ne.symm (D13 rfl h)) _, D12, D13, D23⟩
    · -- 10
      have e : b7 = true := hdep _ rfl ⟨7, .data⟩ (by simp) rfl
      have e' : b3 = true := hdep _ rfl ⟨3, .data⟩ (by simp) rfl
      subst e
      subst e'
      obtain rfl := H2.2.1 rfl
      obtain ⟨e1, e2, e3, v, e4, e5⟩ := H2.2.2.2 rfl
      subst e1
      have st := store_one OY.out e4 e3
      clear e5
      refine wpOp_step rfl (fun K hK => ?_)
      go_simp
      refine hK _ _ ?_
      exact ⟨b0, b1, b2, true, b4, b5, b6, true, b8, b9, true, b11, u1, u2, u3, _, u5, u6, p1, _, p3, g1, g2, g3, rfl, rfl, hW.setCell e2 _, (by simpa [World.setCell] using hBW), H1.far _ (fun h => D12 h rfl) _, H2.stored rfl, H3.far _ (fun h => Ne.symm (D23 rfl h)) _, D12, D13, D23⟩
    · -- 11
      have e : b8 = true := hdep _ rfl ⟨8, .data⟩ (by simp) rfl
      have e' : b5 = true := hdep _ rfl ⟨5, .data⟩ (by simp) rfl
      subst e
      subst e'
      obtain rfl := H3.2.1 rfl
      obtain ⟨e1, e2, e3, v, e4, e5⟩ := H3.2.2.2 rfl
      subst e1
      have st := store_one OZ.out e4 e3
      clear e5
      refine wpOp_step rfl (fun K hK => ?_)
      go_simp
      refine hK _ _ ?_
      exact ⟨b0, b1, b2, b3, b4, true, b6, b7, true, b9, b10, true, u1, u2, u3, u4, u5, _, p1, p2, _, g1, g2, g3, rfl, rfl, hW.setCell e2 _, (by simpa [World.setCell] using hBW), H1.far _ (fun h => D13 h rfl) _, H2.far _ (fun h => D23 h rfl) _, H3.stored rfl, D12, D13, D23⟩
  case fin =>
    rintro L a W ⟨b0, b1, b2, b3, b4, b5, b6, b7, b8, b9, b10, b11, u1, u2, u3, u4, u5, u6, p1, p2, p3, g1, g2, g3, rfl, rfl, hW, hBW, H1, H2, H3, D12, D13, D23⟩ hr
    have no : ∀ x, ¬ x ∈ Region.ready .any _ #[b0, b1, b2, b3, b4, b5, b6, b7, b8, b9, b10, b11] := fun x hx => by rw [hr] at hx; cases hx
    cases b0 with
    | false =>
      refine (no 0 (mem_ready (i := 0) _ rfl rfl ?_)).elim
      kernel_rfl
    | true =>
    cases b1 with
    | false =>
      refine (no 1 (mem_ready (i := 1) _ rfl rfl ?_)).elim
      kernel_rfl
    | true =>
    cases b2 with
    | false =>
      refine (no 2 (mem_ready (i := 2) _ rfl rfl ?_)).elim
      kernel_rfl
    | true =>
    cases b3 with
    | false =>
      refine (no 3 (mem_ready (i := 3) _ rfl rfl ?_)).elim
      kernel_rfl
    | true =>
    cases b4 with
    | false =>
      refine (no 4 (mem_ready (i := 4) _ rfl rfl ?_)).elim
      kernel_rfl
    | true =>
    cases b5 with
    | false =>
      refine (no 5 (mem_ready (i := 5) _ rfl rfl ?_)).elim
      kernel_rfl
    | true =>
    cases b6 with
    | false =>
      refine (no 6 (mem_ready (i := 6) _ rfl rfl ?_)).elim
      kernel_rfl
    | true =>
    cases b7 with
    | false =>
      refine (no 7 (mem_ready (i := 7) _ rfl rfl ?_)).elim
      kernel_rfl
    | true =>
    cases b8 with
    | false =>
      refine (no 8 (mem_ready (i := 8) _ rfl rfl ?_)).elim
      kernel_rfl
    | true =>
    cases b9 with
    | false =>
      refine (no 9 (mem_ready (i := 9) _ rfl rfl ?_)).elim
      kernel_rfl
    | true =>
    cases b10 with
    | false =>
      refine (no 10 (mem_ready (i := 10) _ rfl rfl ?_)).elim
      kernel_rfl
    | true =>
    cases b11 with
    | false =>
      refine (no 11 (mem_ready (i := 11) _ rfl rfl ?_)).elim
      kernel_rfl
    | true =>
    clear no hr
    obtain ⟨rfl, hB1, hf1, x1, hx1, hxe1⟩ := H1.2.2.2 rfl
    obtain ⟨rfl, hB2, hf2, x2, hx2, hxe2⟩ := H2.2.2.2 rfl
    obtain ⟨rfl, hB3, hf3, x3, hx3, hxe3⟩ := H3.2.2.2 rfl
    obtain rfl := hxe1 rfl
    obtain rfl := hxe2 rfl
    obtain rfl := hxe3 rfl
    have HX := Lib.hid (show ∀ V, Below W.heap.size W V → V.cell? ⟨g1, 0, none⟩ = some x1 ∧ V.cell? ⟨g2, 0, none⟩ = some x2 ∧ V.cell? ⟨g3, 0, none⟩ = some x3 from fun V hV => ⟨kept hx1 hV, kept hx2 hV, kept hx3 hV⟩)
    clear hxe1 hxe2 hxe3 H1 H2 H3 D12 D13 D23 hf1 hf2 hf3
    have hB0 : Below w.heap.size w W := HB0.out.trans (hW.mono lw)
    have hBz : w.heap.size ≤ W.heap.size := Nat.le_trans lw hBW
    by_cases m1 : 0 < c12
    · clear hT
      go_wp2_with fail
      with_reducible refine (C11.out _).mono ?_
      rintro e V1 ⟨rfl, hb⟩
      have E1 := hb
      obtain ⟨k1, k2, k3⟩ := HX.out _ E1
      clear hb
      go_wp2_with fail
      with_reducible refine (C12.out _).mono ?_
      rintro e V2 ⟨rfl, hb⟩
      have E2 := E1.trans (hb.mono E1.size)
      obtain ⟨k1, k2, k3⟩ := HX.out _ E2
      clear hb E1
      go_wp2
      go_ret
      exact ⟨rfl, hB0.trans (E2.mono hBz)⟩
    · by_cases m2 : 0 < c23
      · clear hT
        go_wp2_with fail
        with_reducible refine (C11.out _).mono ?_
        rintro e V1 ⟨rfl, hb⟩
        have E1 := hb
        obtain ⟨k1, k2, k3⟩ := HX.out _ E1
        clear hb
        go_wp2_with fail
        with_reducible refine (C12.out _).mono ?_
        rintro e V2 ⟨rfl, hb⟩
        have E2 := E1.trans (hb.mono E1.size)
        obtain ⟨k1, k2, k3⟩ := HX.out _ E2
        clear hb E1
        go_wp2_with fail
        with_reducible refine (C23.out _).mono ?_
        rintro e V3 ⟨rfl, hb⟩
        have E3 := E2.trans (hb.mono E2.size)
        obtain ⟨k1, k2, k3⟩ := HX.out _ E3
        clear hb E2
        go_wp2
        go_ret
        exact ⟨rfl, hB0.trans (E3.mono hBz)⟩
      · have m3 : c13 ≤ 0 := hT.out (by omega) (by omega)
        clear hT
        go_wp2_with fail
        with_reducible refine (C11.out _).mono ?_
        rintro e V1 ⟨rfl, hb⟩
        have E1 := hb
        obtain ⟨k1, k2, k3⟩ := HX.out _ E1
        clear hb
        go_wp2_with fail
        with_reducible refine (C12.out _).mono ?_
        rintro e V2 ⟨rfl, hb⟩
        have E2 := E1.trans (hb.mono E1.size)
        obtain ⟨k1, k2, k3⟩ := HX.out _ E2
        clear hb E1
        go_wp2_with fail
        with_reducible refine (C23.out _).mono ?_
        rintro e V3 ⟨rfl, hb⟩
        have E3 := E2.trans (hb.mono E2.size)
        obtain ⟨k1, k2, k3⟩ := HX.out _ E3
        clear hb E2
        go_wp2_with fail
        with_reducible refine (C13.out _).mono ?_
        rintro e V4 ⟨rfl, hb⟩
        have E4 := E3.trans (hb.mono E3.size)
        obtain ⟨k1, k2, k3⟩ := HX.out _ E4
        clear hb E3
        go_wp2
        go_ret
        exact ⟨rfl, hB0.trans (E4.mono hBz)⟩

theorem order_any (k n : Int) (s : ByteArray) (l m : Int) (t : ByteArray) (i j : Int) (u : ByteArray) (w : World) :
    Calls Try.prog 6 #[.agg #[.int .i64 k, .int .i64 n, .string s], .agg #[.int .i64 l, .int .i64 m, .string t], .agg #[.int .i64 i, .int .i64 j, .string u]] w fun e w' => e = .returned (.bool true) ∧ Below w.heap.size w w' := by
  by_cases hs : 300 < s.size
  · exact order_big k n s l m t i j u (.inl ⟨hs, trivial⟩) w
  · by_cases ht : 300 < t.size
    · exact order_big k n s l m t i j u (.inr (.inl ⟨by omega, ht⟩)) w
    · by_cases hu : 300 < u.size
      · exact order_big k n s l m t i j u (.inr (.inr ⟨by omega, by omega, hu⟩)) w
      · exact order_small k n s l m t i j u (by omega) (by omega) (by omega) w
end Go.Proofs.Ytcaomobbpgpplaa
