/-
  The call of BoxHolds answers true where the box's kind is that of none, and leaves what was there as it is. Condition: the text is no longer than 300.
-/
import Derived.Test.YtcaomobbpgpplaaHolds
namespace Go.Proofs.Ytcaomobbpgpplaa
open Go.RowKit

set_option maxHeartbeats 1000000 in
theorem holds_none (k : Int) (h1 : (k == 1) = false) (h2 : (k == 2) = false) (h3 : (k == 3) = false) (n : Int) (s : ByteArray) (hs : s.size ≤ 300) (w : World) :
    Calls Try.prog 4 #[.agg #[.int .i64 k, .int .i64 n, .string s]] w fun e w' => e = .returned (.bool true) ∧ Below w.heap.size w w' := by
  have A := Lib.hid awake_any
  have P := Lib.hid (plain_none k n s h1 h2 h3)
  have O := Lib.hid (of_none 0 0 ⟨#[]⟩ rfl rfl rfl)
  have N := Lib.hid (asNumber_any .none)
  have S := Lib.hid (asName_any .none)
  have T := Lib.hid (asText_any .none)
  have K := Lib.hid (kind_any .none)
  simp only [Bx.val, Bx.cell, Bx.num?, Bx.name?, Bx.text?, Bx.kind] at N S T K
  go_enter Try.func4, Try.ntmps4
  go_wp2_with fail
  refine (A.out _).mono ?_
  rintro e w1 ⟨rfl, hb⟩
  obtain ⟨hc, hf⟩ := bcell hb
  have hz := hb.size
  simp at hz
  go_wp2_with fail
  refine (P.out _).mono ?_
  rintro e w2 ⟨rfl, hb2⟩
  have hz2 := hb2.size
  have c0 : w2.cell? ⟨w.heap.size, 0, none⟩ = some (.int .i64 k) := (hb2.cell (p := ⟨w.heap.size, 0, none⟩) (by show w.heap.size < _; omega)).trans ((hc _ _ (by simp)).trans (by simp))
  have c1 : w2.cell? ⟨w.heap.size, 1, none⟩ = some (.int .i64 n) := (hb2.cell (p := ⟨w.heap.size, 1, none⟩) (by show w.heap.size < _; omega)).trans ((hc _ _ (by simp)).trans (by simp))
  have c2 : w2.cell? ⟨w.heap.size, 2, none⟩ = some (.string s) := (hb2.cell (p := ⟨w.heap.size, 2, none⟩) (by show w.heap.size < _; omega)).trans ((hc _ _ (by simp)).trans (by simp))
  have f0 : ∀ o, w2.frozen? ⟨w.heap.size, o, none⟩ = false := fun o => (hb2.frozen (p := ⟨w.heap.size, o, none⟩) (by show w.heap.size < _; omega)).trans ((hf _ _ (by simp)).trans (by simp))
  clear hc hf
  go_wp2_with fail
  refine (O.out _).mono ?_
  rintro e w3 ⟨rfl, hb3⟩
  have hz3 := hb3.size
  simp at hz3
  have d0 : w3.cell? ⟨w.heap.size, 0, none⟩ = some (.int .i64 0) := (hb3.cell (p := ⟨w.heap.size, 0, none⟩) (by show w.heap.size < _; simp; omega)).trans (by simp [go_sem, c0, c1, c2])
  have d1 : w3.cell? ⟨w.heap.size, 1, none⟩ = some (.int .i64 0) := (hb3.cell (p := ⟨w.heap.size, 1, none⟩) (by show w.heap.size < _; simp; omega)).trans (by simp [go_sem, c0, c1, c2])
  have d2 : w3.cell? ⟨w.heap.size, 2, none⟩ = some (.string ⟨#[]⟩) := (hb3.cell (p := ⟨w.heap.size, 2, none⟩) (by show w.heap.size < _; simp; omega)).trans (by simp [go_sem, c0, c1, c2])
  obtain ⟨W, hW⟩ : ∃ W, W = w3 := ⟨_, rfl⟩
  have hB : Below w.heap.size w W := by
    rw [hW]
    refine ((((((Below.refl w.heap.size w).alloc (Nat.le_refl _) _).trans (hb.mono (by simp))).trans (hb2.mono (by omega))).setCell ?_ _).setCell ?_ _).setCell ?_ _ |>.trans (hb3.mono (by simp; omega))
    all_goals exact Nat.le_refl _
  have HB := Lib.hid hB
  rw [← hW] at d0 d1 d2 ⊢
  have hz4 : w.heap.size < W.heap.size := by rw [hW]; omega
  clear hb hb2 hb3 c0 c1 c2 f0 hz hz2 hz3 hW hB A P O
  go_wp2_with (first | (go_at_call 13; ((with_reducible refine (N.out _).mono ?_); rintro e w' ⟨rfl, rfl⟩)) | (go_at_call 14; ((with_reducible refine (S.out _).mono ?_); rintro e w' ⟨rfl, rfl⟩)) | (go_at_call 15; ((with_reducible refine (T.out _).mono ?_); rintro e w' ⟨rfl, rfl⟩)))
  obtain ⟨V, hV⟩ : ∃ V, V = ((((W.alloc (.cells #[.nilIface] 27)).alloc (.cells #[.nilIface] 27)).alloc (.cells #[.nilIface] 27)).alloc (.cells #[.nilIface] 27)) := ⟨_, rfl⟩
  rw [← hV]
  obtain ⟨g, hg⟩ : ∃ g, g = W.heap.size := ⟨_, rfl⟩
  rw [← hg]
  obtain ⟨h, hh⟩ : ∃ h, h = w.heap.size := ⟨_, rfl⟩
  have vy : Below (W.alloc (.cells #[.nilIface] 27)).heap.size (W.alloc (.cells #[.nilIface] 27)) V := by
    rw [hV]
    exact (((Below.refl _ _).alloc (Nat.le_refl _) _).alloc (by simp) _).alloc (by simp <;> omega) _
  have vz : Below W.heap.size W V := (new_below W _).trans (vy.mono (by simp))
  have v0 : V.cell? ⟨h, 0, none⟩ = some (.int .i64 0) := (vz.cell (p := ⟨h, 0, none⟩) (by show h < _; omega)).trans (hh ▸ d0)
  have v1 : V.cell? ⟨h, 1, none⟩ = some (.int .i64 0) := (vz.cell (p := ⟨h, 1, none⟩) (by show h < _; omega)).trans (hh ▸ d1)
  have v2 : V.cell? ⟨h, 2, none⟩ = some (.string ⟨#[]⟩) := (vz.cell (p := ⟨h, 2, none⟩) (by show h < _; omega)).trans (hh ▸ d2)
  have vx : V.cell? ⟨g, 0, none⟩ = some (.nilIface) := (vy.cell (p := ⟨g, 0, none⟩) (by show g < _; simp <;> omega)).trans ((World.cell?_alloc_at _ _ _ _ hg).trans rfl)
  have vb : Below h w V := hh ▸ HB.out.trans (vz.mono (by omega))
  rw [← hh]
  have hh0 := hh
  clear hV hg hh d0 d1 d2 hz4 HB N S T vy vz
  have hsz : h ≤ w.heap.size := Nat.le_of_eq hh0
  have HH := Lib.hid hh0
  clear hh0
  have H0 : Held h g (.int .i64 0) (.int .i64 0) (.string ⟨#[]⟩) (.nilIface) w V := ⟨v0, v1, v2, vx, vb⟩
  simp only [List.append_eq, List.cons_append, List.nil_append]
  go_region_held3 (fun w' => w'.cell? ⟨h, 0, none⟩ = some (.int .i64 0) ∧ w'.cell? ⟨h, 1, none⟩ = some (.int .i64 0) ∧ w'.cell? ⟨h, 2, none⟩ = some (.string ⟨#[]⟩) ∧ w'.cell? ⟨g, 0, none⟩ = some (.nilIface) ∧ Below h w w')
    (first | exact H0.drew | exact Held.step hsz H0 _ | exact (Held.step hsz H0 _).drew | exact Held.step hsz (by assumption) _ | exact (Held.step hsz (by assumption) _).drew)
    ((go_at_call 16; ((with_reducible refine (K.out _).mono ?_); rintro e w' ⟨rfl, rfl⟩)))
  go_wp2
  go_ret
  have hE : ∀ v, Held h g (.int .i64 0) (.int .i64 0) (.string ⟨#[]⟩) (.nilIface) w v → Below w.heap.size w v := fun v hv => HH.out ▸ hv.2.2.2.2
  exact ⟨rfl, hE _ (by assumption)⟩

end Go.Proofs.Ytcaomobbpgpplaa
