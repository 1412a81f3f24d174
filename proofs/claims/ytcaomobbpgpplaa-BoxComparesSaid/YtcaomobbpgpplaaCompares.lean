/-
  The call of BoxCompares answers true and leaves what was there as it is. Conditions: none.
-/
import Derived.Test.YtcaomobbpgpplaaRcmp
import Derived.Laws.StructEq
namespace Go.Proofs.Ytcaomobbpgpplaa
open Go.RowKit

/-- The law's two boxes stand, and what was there. -/
def Six (h : Nat) (a b c d e f : Value) (w w' : World) : Prop :=
  w'.cell? ⟨h, 0, none⟩ = some a ∧ w'.cell? ⟨h, 1, none⟩ = some b ∧ w'.cell? ⟨h, 2, none⟩ = some c ∧ w'.cell? ⟨h + 1, 0, none⟩ = some d ∧ w'.cell? ⟨h + 1, 1, none⟩ = some e ∧ w'.cell? ⟨h + 1, 2, none⟩ = some f ∧
  (∀ o, w'.frozen? ⟨h, o, none⟩ = false) ∧ (∀ o, w'.frozen? ⟨h + 1, o, none⟩ = false) ∧ Below h w w'
section
variable {h : Nat} {a b c d e f : Value} {w V V' : World}
theorem Six.below (H : Six h a b c d e f w V) (hb : Below V.heap.size V V') : Six h a b c d e f w V' := by
  obtain ⟨h0, h1, h2, h3, h4, h5, h6, h7, h8⟩ := H
  have l0 := lt_of_cell h0
  have l3 := lt_of_cell h3
  exact ⟨kept h0 hb, kept h1 hb, kept h2 hb, kept h3 hb, kept h4 hb, kept h5 hb, fun o => (hb.frozen (p := ⟨h, o, none⟩) l0).trans (h6 o), fun o => (hb.frozen (p := ⟨h + 1, o, none⟩) l3).trans (h7 o), h8.trans (hb.mono (Nat.le_of_lt l0))⟩
theorem Six.drew (H : Six h a b c d e f w V) : Six h a b c d e f w V.drew := by
  obtain ⟨h0, h1, h2, h3, h4, h5, h6, h7, h8⟩ := H
  exact ⟨h0, h1, h2, h3, h4, h5, h6, h7, h8.drew⟩
theorem six_start (w : World) : Six w.heap.size a b c d e f w ((w.alloc (.cells #[a, b, c] 23)).alloc (.cells #[d, e, f] 23)) := by
  refine ⟨past ((World.cell?_alloc_at _ _ _ _ rfl).trans rfl) _, past ((World.cell?_alloc_at _ _ _ _ rfl).trans rfl) _, past ((World.cell?_alloc_at _ _ _ _ rfl).trans rfl) _, (World.cell?_alloc_at _ _ _ _ (by simp)).trans rfl, (World.cell?_alloc_at _ _ _ _ (by simp)).trans rfl, (World.cell?_alloc_at _ _ _ _ (by simp)).trans rfl, fun o => ?_, fun o => World.frozen?_alloc_at _ _ _ _ (by simp), two_below _ _ _⟩
  rw [World.frozen?_alloc_past _ _ _ (by simp)]
  exact World.frozen?_alloc_at _ _ _ _ rfl
theorem set3 {g : Nat} {x y z x' y' z' : Value} (h0 : V.cell? ⟨g, 0, none⟩ = some x) (h1 : V.cell? ⟨g, 1, none⟩ = some y) (h2 : V.cell? ⟨g, 2, none⟩ = some z) :
    (((V.setCell ⟨g, 0, none⟩ x').setCell ⟨g, 1, none⟩ y').setCell ⟨g, 2, none⟩ z').cell? ⟨g, 0, none⟩ = some x' ∧
    (((V.setCell ⟨g, 0, none⟩ x').setCell ⟨g, 1, none⟩ y').setCell ⟨g, 2, none⟩ z').cell? ⟨g, 1, none⟩ = some y' ∧
    (((V.setCell ⟨g, 0, none⟩ x').setCell ⟨g, 1, none⟩ y').setCell ⟨g, 2, none⟩ z').cell? ⟨g, 2, none⟩ = some z' := by
  simp [go_sem, h0, h1, h2]
theorem far3 {g k o : Nat} {x' y' z' : Value} (hk : g ≠ k) :
    (((V.setCell ⟨g, 0, none⟩ x').setCell ⟨g, 1, none⟩ y').setCell ⟨g, 2, none⟩ z').cell? ⟨k, o, none⟩ = V.cell? ⟨k, o, none⟩ := by
  rw [World.cell?_setCell_far _ _ _ _ hk, World.cell?_setCell_far _ _ _ _ hk, World.cell?_setCell_far _ _ _ _ hk]
theorem frz3 {g k o : Nat} {x' y' z' : Value} :
    (((V.setCell ⟨g, 0, none⟩ x').setCell ⟨g, 1, none⟩ y').setCell ⟨g, 2, none⟩ z').frozen? ⟨k, o, none⟩ = V.frozen? ⟨k, o, none⟩ := by
  rw [World.frozen?_setCell, World.frozen?_setCell, World.frozen?_setCell]
theorem Six.first (H : Six h a b c d e f w V) (a' b' c' : Value) : Six h a' b' c' d e f w (((V.setCell ⟨h, 0, none⟩ a').setCell ⟨h, 1, none⟩ b').setCell ⟨h, 2, none⟩ c') := by
  obtain ⟨h0, h1, h2, h3, h4, h5, h6, h7, h8⟩ := H
  obtain ⟨g0, g1, g2⟩ := set3 (x' := a') (y' := b') (z' := c') h0 h1 h2
  refine ⟨g0, g1, g2, (far3 (by omega)).trans h3, (far3 (by omega)).trans h4, (far3 (by omega)).trans h5, fun o => frz3.trans (h6 o), fun o => frz3.trans (h7 o), ((h8.setCell ?_ _).setCell ?_ _).setCell ?_ _⟩
  all_goals exact Nat.le_refl _
theorem Six.second (H : Six h a b c d e f w V) (d' e' f' : Value) : Six h a b c d' e' f' w (((V.setCell ⟨h + 1, 0, none⟩ d').setCell ⟨h + 1, 1, none⟩ e').setCell ⟨h + 1, 2, none⟩ f') := by
  obtain ⟨h0, h1, h2, h3, h4, h5, h6, h7, h8⟩ := H
  obtain ⟨g0, g1, g2⟩ := set3 (x' := d') (y' := e') (z' := f') h3 h4 h5
  refine ⟨(far3 (by omega)).trans h0, (far3 (by omega)).trans h1, (far3 (by omega)).trans h2, g0, g1, g2, fun o => frz3.trans (h6 o), fun o => frz3.trans (h7 o), ((h8.setCell ?_ _).setCell ?_ _).setCell ?_ _⟩
  all_goals exact Nat.le_succ _
end

/-- What a region of the law holds on to. -/
def Cells6 (h : Nat) (a b c d e f : Value) (w w' : World) : Prop :=
  w'.cell? ⟨h, 0, none⟩ = some a ∧ w'.cell? ⟨h, 1, none⟩ = some b ∧ w'.cell? ⟨h, 2, none⟩ = some c ∧ w'.cell? ⟨h + 1, 0, none⟩ = some d ∧ w'.cell? ⟨h + 1, 1, none⟩ = some e ∧ w'.cell? ⟨h + 1, 2, none⟩ = some f ∧ Below h w w'
section
variable {h : Nat} {a b c d e f : Value} {w V V' : World}
theorem Six.cells (H : Six h a b c d e f w V) : Cells6 h a b c d e f w V := by
  obtain ⟨h0, h1, h2, h3, h4, h5, _, _, h8⟩ := H
  exact ⟨h0, h1, h2, h3, h4, h5, h8⟩
theorem Cells6.drew (H : Cells6 h a b c d e f w V) : Cells6 h a b c d e f w V.drew := by
  obtain ⟨h0, h1, h2, h3, h4, h5, h8⟩ := H
  exact ⟨h0, h1, h2, h3, h4, h5, h8.drew⟩
theorem Cells6.below (hb : Below V.heap.size V V') (H : Cells6 h a b c d e f w V) : Cells6 h a b c d e f w V' := by
  obtain ⟨h0, h1, h2, h3, h4, h5, h8⟩ := H
  exact ⟨kept h0 hb, kept h1 hb, kept h2 hb, kept h3 hb, kept h4 hb, kept h5 hb, h8.trans (hb.mono (Nat.le_of_lt (lt_of_cell h0)))⟩
end
theorem bxOf_plain (k n : Int) (s : ByteArray) : bxOf (pk k) (pn k n) (ps k s) = bxOf k n s := by
  unfold bxOf pk pn ps
  by_cases h1 : k = 1
  · subst h1; rfl
  · by_cases h2 : k = 2
    · subst h2; rfl
    · by_cases h3 : k = 3
      · subst h3; rfl
      · simp [h1, h2, h3]

set_option maxHeartbeats 1000000 in
theorem compares_big (k n : Int) (s : ByteArray) (l m : Int) (t : ByteArray) (hs : (300 < s.size ∧ True) ∨ (s.size ≤ 300 ∧ 300 < t.size)) (w : World) :
    Calls Try.prog 5 #[.agg #[.int .i64 k, .int .i64 n, .string s], .agg #[.int .i64 l, .int .i64 m, .string t]] w fun e w' => e = .returned (.bool true) ∧ Below w.heap.size w w' := by
  have A := Lib.hid awake_any
  rcases hs with ⟨hs, _⟩ | ⟨hs, ht⟩
  all_goals
    go_enter Try.func5, Try.ntmps5
    go_wp2_with fail
    refine (A.out _).mono ?_
    rintro e w1 ⟨rfl, hb⟩
    obtain ⟨hc, hf⟩ := bcell hb
    have hz := hb.size
    simp at hz
    go_wp2_with fail
    refine (A.out _).mono ?_
    rintro e w2 ⟨rfl, hb2⟩
    go_wp2
    go_ret
    exact ⟨rfl, ((two_below _ _ _).trans (hb.mono (by simp; omega))).trans (hb2.mono (by omega))⟩

theorem eq23 (k n : Int) (s : ByteArray) (l m : Int) (t : ByteArray) (W : World) :
    (binOp .eql 23 (.agg #[.int .i64 k, .int .i64 n, .string s]) (.agg #[.int .i64 l, .int .i64 m, .string t])).run Try.prog W = .ok (.bool (k == l && (n == m && s.toList == t.toList))) W := by
  have hS : Try.prog.underlying 23 = some (.struct (Try.prog.fieldsOf 23)) := by kernel_rfl
  have hp : Try.prog.stoodInHeld 23 = false := by kernel_rfl
  rw [run_eql_struct, show (10000 : Nat) = 9999 + 1 from rfl, run_equalIn_agg W 9999 23 _ _ hS hp]
  simp only [Program.fieldsOf, Try.underlying23]
  cases h1 : (k == l) <;> cases h2 : (n == m) <;> cases h3 : (s.toList == t.toList) <;> simp [Op.eqFields, go_sem, h1, h2, h3]

set_option maxHeartbeats 2000000 in
theorem compares_small (k n : Int) (s : ByteArray) (l m : Int) (t : ByteArray) (hs : s.size ≤ 300) (ht : t.size ≤ 300) (w : World) :
    Calls Try.prog 5 #[.agg #[.int .i64 k, .int .i64 n, .string s], .agg #[.int .i64 l, .int .i64 m, .string t]] w fun e w' => e = .returned (.bool true) ∧ Below w.heap.size w w' := by
  have A := Lib.hid awake_any
  have Pa := Lib.hid (plain_any k n s)
  have Pb := Lib.hid (plain_any l m t)
  simp only [rv] at Pa Pb
  go_enter Try.func5, Try.ntmps5
  go_wp2_with fail
  have H0 := six_start (a := .int .i64 k) (b := .int .i64 n) (c := .string s) (d := .int .i64 l) (e := .int .i64 m) (f := .string t) w
  refine (A.out _).mono ?_
  rintro e w1 ⟨rfl, hb⟩
  have H1 := H0.below hb
  clear H0 hb
  obtain ⟨h, hh⟩ : ∃ h, h = w.heap.size := ⟨_, rfl⟩
  rw [← hh] at H1 ⊢
  obtain ⟨c0, c1, c2, c3, c4, c5, _⟩ := id H1
  have K1 := Lib.hid H1
  have HH := Lib.hid hh
  clear H1 hh
  go_wp2_with fail
  refine (Pa.out _).mono ?_
  rintro e w2 ⟨rfl, hb⟩
  have H2 := K1.out.below hb
  clear K1 hb c0 c1 c2 c3 c4 c5
  obtain ⟨c0, c1, c2, c3, c4, c5, f0, f1, _⟩ := id H2
  have K2 := Lib.hid H2
  clear H2
  go_wp2_with fail
  have H3 := K2.out.first (.int .i64 (pk k)) (.int .i64 (pn k n)) (.string (ps k s))
  obtain ⟨V, hV⟩ : ∃ V, V = (((w2.setCell ⟨h, 0, none⟩ (.int .i64 (pk k))).setCell ⟨h, 1, none⟩ (.int .i64 (pn k n))).setCell ⟨h, 2, none⟩ (.string (ps k s))) := ⟨_, rfl⟩
  rw [← hV] at H3 ⊢
  clear hV K2 c0 c1 c2 c3 c4 c5 f0 f1
  refine (Pb.out _).mono ?_
  rintro e w3 ⟨rfl, hb⟩
  have H4 := H3.below hb
  clear H3 hb
  obtain ⟨c0, c1, c2, c3, c4, c5, f0, f1, _⟩ := id H4
  have K4 := Lib.hid H4
  clear H4
  go_wp2_with fail
  have H5 := K4.out.second (.int .i64 (pk l)) (.int .i64 (pn l m)) (.string (ps l t))
  obtain ⟨U, hU⟩ : ∃ U, U = (((w3.setCell ⟨h + 1, 0, none⟩ (.int .i64 (pk l))).setCell ⟨h + 1, 1, none⟩ (.int .i64 (pn l m))).setCell ⟨h + 1, 2, none⟩ (.string (ps l t))) := ⟨_, rfl⟩
  rw [← hU] at H5 ⊢
  clear hU K4 c0 c1 c2 c3 c4 c5 f0 f1 A Pa Pb
  have Oa := Lib.hid (of_any (pk k) (pn k n) (ps k s))
  have Ob := Lib.hid (of_any (pk l) (pn l m) (ps l t))
  have C := Lib.hid (compare_boxes (bxOf k n s) (bxOf l m t))
  have C' := Lib.hid (compare_boxes (bxOf l m t) (bxOf k n s))
  have R := Lib.hid (rcompare_any (pk k) (pn k n) (ps k s) (pk l) (pn l m) (ps l t))
  rw [rcmp_box] at R
  rw [bxOf_plain] at Oa Ob
  rw [cmp_turn] at C'
  have hz := cmp_zero k n s l m t
  have hr := cmp_range (bxOf k n s) (bxOf l m t)
  obtain ⟨c, hc⟩ : ∃ c, c = (bxOf k n s).cmp (bxOf l m t) := ⟨_, rfl⟩
  rw [← hc] at C C' R hz hr
  simp only [rv, Bx.val] at Oa Ob C C'
  obtain ⟨x, hx⟩ : ∃ x, x = (bxOf k n s).cell := ⟨_, rfl⟩
  obtain ⟨y, hy⟩ : ∃ y, y = (bxOf l m t).cell := ⟨_, rfl⟩
  rw [← hx] at Oa C C'
  rw [← hy] at Ob C C'
  obtain ⟨k', hk'⟩ : ∃ k', k' = pk k := ⟨_, rfl⟩
  obtain ⟨l', hl'⟩ : ∃ l', l' = pk l := ⟨_, rfl⟩
  obtain ⟨n', hn'⟩ : ∃ n', n' = pn k n := ⟨_, rfl⟩
  obtain ⟨m', hm'⟩ : ∃ m', m' = pn l m := ⟨_, rfl⟩
  obtain ⟨s', hs'⟩ : ∃ s', s' = ps k s := ⟨_, rfl⟩
  obtain ⟨t', ht'⟩ : ∃ t', t' = ps l t := ⟨_, rfl⟩
  rw [← hk', ← hn', ← hs'] at Oa R hz H5
  rw [← hk', ← hn', ← hs'] 
  rw [← hl', ← hm', ← ht'] at Ob R hz H5
  rw [← hl', ← hm', ← ht']
  clear hc hx hy hk' hl' hn' hm' hs' ht'
  have G0 := H5.cells
  clear H5
  have hz0 := Lib.hid hz
  clear hz
  go_region_held3 (fun w' => w'.cell? ⟨h, 0, none⟩ = some (.int .i64 k') ∧ w'.cell? ⟨h, 1, none⟩ = some (.int .i64 n') ∧ w'.cell? ⟨h, 2, none⟩ = some (.string s') ∧ w'.cell? ⟨h + 1, 0, none⟩ = some (.int .i64 l') ∧ w'.cell? ⟨h + 1, 1, none⟩ = some (.int .i64 m') ∧ w'.cell? ⟨h + 1, 2, none⟩ = some (.string t') ∧ Below h w w')
    (first | exact G0.drew | exact G0 | exact Cells6.below (by assumption) (by assumption) | exact Cells6.drew (by assumption) | assumption)
    ((first | (go_at_call 9; ((with_reducible refine (Oa.out _).mono ?_); rintro e w' ⟨rfl, hb⟩)) | (go_at_call 9; ((with_reducible refine (Ob.out _).mono ?_); rintro e w' ⟨rfl, hb⟩)) | (go_at_call 17; ((with_reducible refine (C.out _).mono ?_); rintro e w' ⟨rfl, hb⟩))))
  rename_i hHeld
  have G1 : Cells6 h (.int .i64 k') (.int .i64 n') (.string s') (.int .i64 l') (.int .i64 m') (.string t') w w' := hHeld
  clear hHeld G0 hb
  have b1 : -1 ≤ c := by omega
  have b2 : c ≤ 1 := by omega
  have hq : ∀ W, (binOp .eql 23 (.agg #[.int .i64 k', .int .i64 n', .string s']) (.agg #[.int .i64 l', .int .i64 m', .string t'])).run Try.prog W = .ok (.bool (c == 0)) W := by
    intro W
    rw [eq23]
    have : (k' == l' && (n' == m' && s'.toList == t'.toList)) = (c == 0) := by
      rw [Bool.eq_iff_iff]
      simp [hz0.out]
    rw [this]
  have hwr : IntKind.i64.wrap (-c) = -c := by simp [IntKind.wrap, IntKind.bits, IntKind.signed]; omega
  clear hr hz0
  have HG := Lib.hid G1
  obtain ⟨c0, c1, c2, c3, c4, c5, c6⟩ := G1
  go_wp2_with fail
  go_region_held3 (fun w' => w'.cell? ⟨h, 0, none⟩ = some (.int .i64 k') ∧ w'.cell? ⟨h, 1, none⟩ = some (.int .i64 n') ∧ w'.cell? ⟨h, 2, none⟩ = some (.string s') ∧ w'.cell? ⟨h + 1, 0, none⟩ = some (.int .i64 l') ∧ w'.cell? ⟨h + 1, 1, none⟩ = some (.int .i64 m') ∧ w'.cell? ⟨h + 1, 2, none⟩ = some (.string t') ∧ Below h w w')
    (first | exact Cells6.drew HG.out | exact HG.out | exact Cells6.below (by assumption) (by assumption) | exact Cells6.drew (by assumption) | assumption)
    ((first | (go_at_call 9; ((with_reducible refine (Oa.out _).mono ?_); rintro e w' ⟨rfl, hb⟩)) | (go_at_call 9; ((with_reducible refine (Ob.out _).mono ?_); rintro e w' ⟨rfl, hb⟩)) | (go_at_call 17; ((with_reducible refine (C'.out _).mono ?_); rintro e w' ⟨rfl, hb⟩)) | (go_at_call 18; ((with_reducible refine (R.out _).mono ?_); rintro e w' ⟨rfl, hb⟩))))
  go_wp2
  go_ret
  have hE : ∀ v, Cells6 h (.int .i64 k') (.int .i64 n') (.string s') (.int .i64 l') (.int .i64 m') (.string t') w v → Below w.heap.size w v := fun v hv => HH.out ▸ hv.2.2.2.2.2.2
  exact ⟨rfl, hE _ (by assumption)⟩

theorem compares_any (k n : Int) (s : ByteArray) (l m : Int) (t : ByteArray) (w : World) :
    Calls Try.prog 5 #[.agg #[.int .i64 k, .int .i64 n, .string s], .agg #[.int .i64 l, .int .i64 m, .string t]] w fun e w' => e = .returned (.bool true) ∧ Below w.heap.size w w' := by
  by_cases hs : 300 < s.size
  · exact compares_big k n s l m t (.inl ⟨hs, trivial⟩) w
  · by_cases ht : 300 < t.size
    · exact compares_big k n s l m t (.inr ⟨by omega, ht⟩) w
    · exact compares_small k n s l m t (by omega) (by omega) w
end Go.Proofs.Ytcaomobbpgpplaa
