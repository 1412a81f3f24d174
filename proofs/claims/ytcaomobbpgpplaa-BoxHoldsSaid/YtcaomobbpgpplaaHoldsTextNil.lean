/-
  The call of BoxHolds answers true where the box's kind is that of text, an empty one, and leaves what was there as it is. Condition: the text is no longer than 300.
-/
import Derived.Test.YtcaomobbpgpplaaHolds
namespace Go.Proofs.Ytcaomobbpgpplaa
open Go.RowKit

set_option maxHeartbeats 4000000 in
theorem holds_text_nil (n : Int) (w : World) :
    Calls Try.prog 4 #[.agg #[.int .i64 3, .int .i64 n, .string (⟨#[]⟩ : ByteArray)]] w fun e w' => e = .returned (.bool true) ∧ Below w.heap.size w w' := by
  have A := Lib.hid awake_any
  have P := Lib.hid (plain_text n (⟨#[]⟩ : ByteArray))
  have O := Lib.hid (of_text 0 (⟨#[]⟩ : ByteArray))
  have N := Lib.hid (asNumber_any (.text (⟨#[]⟩ : ByteArray)))
  have S := Lib.hid (asName_any (.text (⟨#[]⟩ : ByteArray)))
  have T := Lib.hid (asText_any (.text (⟨#[]⟩ : ByteArray)))
  have K := Lib.hid (kind_any (.text (⟨#[]⟩ : ByteArray)))
  simp only [Bx.val, Bx.cell, Bx.num?, Bx.name?, Bx.text?, Bx.kind] at N S T K
  go_enter Try.func4, Try.ntmps4
  go_wp2_with fail
  refine (A.out _).mono ?_
  rintro e w1 ⟨rfl, hb⟩
  obtain ⟨hc, hf⟩ := bcell hb
  have hz := hb.size
  simp at hz
  go_wp2_with fail
  refine (P.out _).mono ?_
  rintro e w2 ⟨rfl, hb2⟩
  have hz2 := hb2.size
  have c0 : w2.cell? ⟨w.heap.size, 0, none⟩ = some (.int .i64 3) := (hb2.cell (p := ⟨w.heap.size, 0, none⟩) (by show w.heap.size < _; omega)).trans ((hc _ _ (by simp)).trans (by simp))
  have c1 : w2.cell? ⟨w.heap.size, 1, none⟩ = some (.int .i64 n) := (hb2.cell (p := ⟨w.heap.size, 1, none⟩) (by show w.heap.size < _; omega)).trans ((hc _ _ (by simp)).trans (by simp))
  have c2 : w2.cell? ⟨w.heap.size, 2, none⟩ = some (.string (⟨#[]⟩ : ByteArray)) := (hb2.cell (p := ⟨w.heap.size, 2, none⟩) (by show w.heap.size < _; omega)).trans ((hc _ _ (by simp)).trans (by simp))
  have f0 : ∀ o, w2.frozen? ⟨w.heap.size, o, none⟩ = false := fun o => (hb2.frozen (p := ⟨w.heap.size, o, none⟩) (by show w.heap.size < _; omega)).trans ((hf _ _ (by simp)).trans (by simp))
  clear hc hf
  go_wp2_with fail
  refine (O.out _).mono ?_
  rintro e w3 ⟨rfl, hb3⟩
  have hz3 := hb3.size
  simp at hz3
  have d0 : w3.cell? ⟨w.heap.size, 0, none⟩ = some (.int .i64 3) := (hb3.cell (p := ⟨w.heap.size, 0, none⟩) (by show w.heap.size < _; simp; omega)).trans (by simp [go_sem, c0, c1, c2])
  have d1 : w3.cell? ⟨w.heap.size, 1, none⟩ = some (.int .i64 0) := (hb3.cell (p := ⟨w.heap.size, 1, none⟩) (by show w.heap.size < _; simp; omega)).trans (by simp [go_sem, c0, c1, c2])
  have d2 : w3.cell? ⟨w.heap.size, 2, none⟩ = some (.string (⟨#[]⟩ : ByteArray)) := (hb3.cell (p := ⟨w.heap.size, 2, none⟩) (by show w.heap.size < _; simp; omega)).trans (by simp [go_sem, c0, c1, c2])
  obtain ⟨W, hW⟩ : ∃ W, W = w3 := ⟨_, rfl⟩
  have hB : Below w.heap.size w W := by
    rw [hW]
    refine ((((((Below.refl w.heap.size w).alloc (Nat.le_refl _) _).trans (hb.mono (by simp))).trans (hb2.mono (by omega))).setCell ?_ _).setCell ?_ _).setCell ?_ _ |>.trans (hb3.mono (by simp; omega))
    all_goals exact Nat.le_refl _
  have HB := Lib.hid hB
  rw [← hW] at d0 d1 d2 ⊢
  have hz4 : w.heap.size < W.heap.size := by rw [hW]; omega
  clear hb hb2 hb3 c0 c1 c2 f0 hz hz2 hz3 hW hB A P O
  go_wp2_with (first | (go_at_call 13; ((with_reducible refine (N.out _).mono ?_); rintro e w' ⟨rfl, rfl⟩)) | (go_at_call 14; ((with_reducible refine (S.out _).mono ?_); rintro e w' ⟨rfl, rfl⟩)) | (go_at_call 15; ((with_reducible refine (T.out _).mono ?_); rintro e w' ⟨rfl, rfl⟩)))
  obtain ⟨V, hV⟩ : ∃ V, V = ((((W.alloc (.cells #[.iface 44 (.string (⟨#[]⟩ : ByteArray))] 27)).alloc (.cells #[.iface 44 (.string (⟨#[]⟩ : ByteArray))] 27)).alloc (.cells #[.iface 44 (.string (⟨#[]⟩ : ByteArray))] 27)).alloc (.cells #[.iface 44 (.string (⟨#[]⟩ : ByteArray))] 27)) := ⟨_, rfl⟩
  rw [← hV]
  obtain ⟨g, hg⟩ : ∃ g, g = W.heap.size := ⟨_, rfl⟩
  rw [← hg]
  obtain ⟨h, hh⟩ : ∃ h, h = w.heap.size := ⟨_, rfl⟩
  have vy : Below (W.alloc (.cells #[.iface 44 (.string (⟨#[]⟩ : ByteArray))] 27)).heap.size (W.alloc (.cells #[.iface 44 (.string (⟨#[]⟩ : ByteArray))] 27)) V := by
    rw [hV]
    exact (((Below.refl _ _).alloc (Nat.le_refl _) _).alloc (by simp) _).alloc (by simp <;> omega) _
  have vz : Below W.heap.size W V := (new_below W _).trans (vy.mono (by simp))
  have v0 : V.cell? ⟨h, 0, none⟩ = some (.int .i64 3) := (vz.cell (p := ⟨h, 0, none⟩) (by show h < _; omega)).trans (hh ▸ d0)
  have v1 : V.cell? ⟨h, 1, none⟩ = some (.int .i64 0) := (vz.cell (p := ⟨h, 1, none⟩) (by show h < _; omega)).trans (hh ▸ d1)
  have v2 : V.cell? ⟨h, 2, none⟩ = some (.string (⟨#[]⟩ : ByteArray)) := (vz.cell (p := ⟨h, 2, none⟩) (by show h < _; omega)).trans (hh ▸ d2)
  have vx : V.cell? ⟨g, 0, none⟩ = some (.iface 44 (.string (⟨#[]⟩ : ByteArray))) := (vy.cell (p := ⟨g, 0, none⟩) (by show g < _; simp <;> omega)).trans ((World.cell?_alloc_at _ _ _ _ hg).trans rfl)
  have vb : Below h w V := hh ▸ HB.out.trans (vz.mono (by omega))
  rw [← hh]
  have hh0 := hh
  clear hV hg hh d0 d1 d2 hz4 HB N S T vy vz
  have hsz : h ≤ w.heap.size := Nat.le_of_eq hh0
  have HH := Lib.hid hh0
  clear hh0
  have H0 : Held h g (.int .i64 3) (.int .i64 0) (.string (⟨#[]⟩ : ByteArray)) (.iface 44 (.string (⟨#[]⟩ : ByteArray))) w V := ⟨v0, v1, v2, vx, vb⟩
  simp only [List.append_eq, List.cons_append, List.nil_append]
  refine wp_region_held_drew (S := fun w' => w'.cell? ⟨h, 0, none⟩ = some (.int .i64 3) ∧ w'.cell? ⟨h, 1, none⟩ = some (.int .i64 0) ∧ w'.cell? ⟨h, 2, none⟩ = some (.string (⟨#[]⟩ : ByteArray)) ∧ w'.cell? ⟨g, 0, none⟩ = some (.iface 44 (.string (⟨#[]⟩ : ByteArray))) ∧ Below h w w') (by kernel_rfl) H0.drew (fun hH => ?_)
  refine wpAnyH_take (i := 0) (v := ?_) rfl (by kernel_rfl) (by kernel_rfl) (by kernel_rfl) (fun _ _ _ h => h) ?_ hH ?_
  rotate_left
  · first
    | (refine Or.inl ⟨by rfl, ?_⟩
       intro w hSw
       (try dsimp only at hSw)
       go_simp
       done)
    | (refine Or.inl ⟨by rfl, ?_⟩
       intro w hSw
       (try dsimp only at hSw)
       go_simp
       with_reducible rfl)
  try simp only [Act.put, List.getElem_toArray, List.getElem_cons_succ, List.getElem_cons_zero, List.setIfInBounds_toArray, List.set_cons_zero, List.set_cons_succ]
  refine wpAnyH_take (i := 2) (v := ?_) rfl (by kernel_rfl) (by kernel_rfl) (by kernel_rfl) (fun _ _ _ h => h) ?_ hH ?_
  rotate_left
  · first
    | (refine Or.inl ⟨by rfl, ?_⟩
       intro w hSw
       (try dsimp only at hSw)
       go_simp
       done)
    | (refine Or.inl ⟨by rfl, ?_⟩
       intro w hSw
       (try dsimp only at hSw)
       go_simp
       with_reducible rfl)
  try simp only [Act.put, List.getElem_toArray, List.getElem_cons_succ, List.getElem_cons_zero, List.setIfInBounds_toArray, List.set_cons_zero, List.set_cons_succ]
  refine wpAnyH_take (i := 3) (v := ?_) rfl (by kernel_rfl) (by kernel_rfl) (by kernel_rfl) (fun _ _ _ h => h) ?_ hH ?_
  rotate_left
  · first
    | (refine Or.inl ⟨by rfl, ?_⟩
       intro w hSw
       (try dsimp only at hSw)
       go_simp
       done)
    | (refine Or.inl ⟨by rfl, ?_⟩
       intro w hSw
       (try dsimp only at hSw)
       go_simp
       with_reducible rfl)
  try simp only [Act.put, List.getElem_toArray, List.getElem_cons_succ, List.getElem_cons_zero, List.setIfInBounds_toArray, List.set_cons_zero, List.set_cons_succ]
  refine wpAnyH_ready (rs := [1]) (by kernel_rfl) (by simp) ?_
  refine AllReadyH.cons rfl (fun K1 hK => ?_) AllReadyH.nil
  go_simp
  go_at_call 16
  (with_reducible refine (K.out _).mono ?_)
  rintro e w' ⟨rfl, rfl⟩
  go_wp2_with fail
  refine hK.out _ _ (Held.step hsz hH _) (fun hH => ?_)
  clear hK K1
  try simp only [Act.put, List.getElem_toArray, List.getElem_cons_succ, List.getElem_cons_zero, List.setIfInBounds_toArray, List.set_cons_zero, List.set_cons_succ]
  refine wpAnyH_take (i := 4) (v := ?_) rfl (by kernel_rfl) (by kernel_rfl) (by kernel_rfl) (fun _ _ _ h => h) ?_ hH ?_
  rotate_left
  · first
    | (refine Or.inl ⟨by rfl, ?_⟩
       intro w hSw
       (try dsimp only at hSw)
       go_simp
       done)
    | (refine Or.inl ⟨by rfl, ?_⟩
       intro w hSw
       (try dsimp only at hSw)
       go_simp
       with_reducible rfl)
  try simp only [Act.put, List.getElem_toArray, List.getElem_cons_succ, List.getElem_cons_zero, List.setIfInBounds_toArray, List.set_cons_zero, List.set_cons_succ]
  refine wpAnyH_take (i := 5) (v := ?_) rfl (by kernel_rfl) (by kernel_rfl) (by kernel_rfl) (fun _ _ _ h => h) ?_ hH ?_
  rotate_left
  · first
    | (refine Or.inl ⟨by rfl, ?_⟩
       intro w hSw
       (try dsimp only at hSw)
       go_simp
       done)
    | (refine Or.inl ⟨by rfl, ?_⟩
       intro w hSw
       (try dsimp only at hSw)
       go_simp
       with_reducible rfl)
  try simp only [Act.put, List.getElem_toArray, List.getElem_cons_succ, List.getElem_cons_zero, List.setIfInBounds_toArray, List.set_cons_zero, List.set_cons_succ]
  refine wpAnyH_take (i := 6) (v := ?_) rfl (by kernel_rfl) (by kernel_rfl) (by kernel_rfl) (fun _ _ _ h => h) ?_ hH ?_
  rotate_left
  · first
    | (refine Or.inl ⟨by rfl, ?_⟩
       intro w hSw
       (try dsimp only at hSw)
       go_simp
       done)
    | (refine Or.inl ⟨by rfl, ?_⟩
       intro w hSw
       (try dsimp only at hSw)
       go_simp
       with_reducible rfl)
  try simp only [Act.put, List.getElem_toArray, List.getElem_cons_succ, List.getElem_cons_zero, List.setIfInBounds_toArray, List.set_cons_zero, List.set_cons_succ]
  refine wpAnyH_take (i := 7) (v := ?_) rfl (by kernel_rfl) (by kernel_rfl) (by kernel_rfl) (fun _ _ _ h => h) ?_ hH ?_
  rotate_left
  · first
    | (refine Or.inl ⟨by rfl, ?_⟩
       intro w hSw
       (try dsimp only at hSw)
       go_simp
       done)
    | (refine Or.inl ⟨by rfl, ?_⟩
       intro w hSw
       (try dsimp only at hSw)
       go_simp
       with_reducible rfl)
  try simp only [Act.put, List.getElem_toArray, List.getElem_cons_succ, List.getElem_cons_zero, List.setIfInBounds_toArray, List.set_cons_zero, List.set_cons_succ]
  refine wpAnyH_take (i := 8) (v := ?_) rfl (by kernel_rfl) (by kernel_rfl) (by kernel_rfl) (fun _ _ _ h => h) ?_ hH ?_
  rotate_left
  · first
    | (refine Or.inl ⟨by rfl, ?_⟩
       intro w hSw
       (try dsimp only at hSw)
       go_simp
       done)
    | (refine Or.inl ⟨by rfl, ?_⟩
       intro w hSw
       (try dsimp only at hSw)
       go_simp
       with_reducible rfl)
  try simp only [Act.put, List.getElem_toArray, List.getElem_cons_succ, List.getElem_cons_zero, List.setIfInBounds_toArray, List.set_cons_zero, List.set_cons_succ]
  refine wpAnyH_take (i := 9) (v := ?_) rfl (by kernel_rfl) (by kernel_rfl) (by kernel_rfl) (fun _ _ _ h => h) ?_ hH ?_
  rotate_left
  · first
    | (refine Or.inl ⟨by rfl, ?_⟩
       intro w hSw
       (try dsimp only at hSw)
       go_simp
       done)
    | (refine Or.inl ⟨by rfl, ?_⟩
       intro w hSw
       (try dsimp only at hSw)
       go_simp
       with_reducible rfl)
  try simp only [Act.put, List.getElem_toArray, List.getElem_cons_succ, List.getElem_cons_zero, List.setIfInBounds_toArray, List.set_cons_zero, List.set_cons_succ]
  refine wpAnyH_take (i := 10) (v := ?_) rfl (by kernel_rfl) (by kernel_rfl) (by kernel_rfl) (fun _ _ _ h => h) ?_ hH ?_
  rotate_left
  · first
    | (refine Or.inl ⟨by rfl, ?_⟩
       intro w hSw
       (try dsimp only at hSw)
       go_simp
       done)
    | (refine Or.inl ⟨by rfl, ?_⟩
       intro w hSw
       (try dsimp only at hSw)
       go_simp
       with_reducible rfl)
  try simp only [Act.put, List.getElem_toArray, List.getElem_cons_succ, List.getElem_cons_zero, List.setIfInBounds_toArray, List.set_cons_zero, List.set_cons_succ]
  refine wpAnyH_take (i := 11) (v := ?_) rfl (by kernel_rfl) (by kernel_rfl) (by kernel_rfl) (fun _ _ _ h => h) ?_ hH ?_
  rotate_left
  · first
    | (refine Or.inl ⟨by rfl, ?_⟩
       intro w hSw
       (try dsimp only at hSw)
       go_simp
       done)
    | (refine Or.inl ⟨by rfl, ?_⟩
       intro w hSw
       (try dsimp only at hSw)
       go_simp
       with_reducible rfl)
  try simp only [Act.put, List.getElem_toArray, List.getElem_cons_succ, List.getElem_cons_zero, List.setIfInBounds_toArray, List.set_cons_zero, List.set_cons_succ]
  refine wpAnyH_take (i := 12) (v := ?_) rfl (by kernel_rfl) (by kernel_rfl) (by kernel_rfl) (fun _ _ _ h => h) ?_ hH ?_
  rotate_left
  · first
    | (refine Or.inl ⟨by rfl, ?_⟩
       intro w hSw
       (try dsimp only at hSw)
       go_simp
       done)
    | (refine Or.inl ⟨by rfl, ?_⟩
       intro w hSw
       (try dsimp only at hSw)
       go_simp
       with_reducible rfl)
  try simp only [Act.put, List.getElem_toArray, List.getElem_cons_succ, List.getElem_cons_zero, List.setIfInBounds_toArray, List.set_cons_zero, List.set_cons_succ]
  refine wpAnyH_take (i := 13) (v := ?_) rfl (by kernel_rfl) (by kernel_rfl) (by kernel_rfl) (fun _ _ _ h => h) ?_ hH ?_
  rotate_left
  · first
    | (refine Or.inl ⟨by rfl, ?_⟩
       intro w hSw
       (try dsimp only at hSw)
       go_simp
       done)
    | (refine Or.inl ⟨by rfl, ?_⟩
       intro w hSw
       (try dsimp only at hSw)
       go_simp
       with_reducible rfl)
  try simp only [Act.put, List.getElem_toArray, List.getElem_cons_succ, List.getElem_cons_zero, List.setIfInBounds_toArray, List.set_cons_zero, List.set_cons_succ]
  refine wpAnyH_take (i := 14) (v := ?_) rfl (by kernel_rfl) (by kernel_rfl) (by kernel_rfl) (fun _ _ _ h => h) ?_ hH ?_
  rotate_left
  · first
    | (refine Or.inl ⟨by rfl, ?_⟩
       intro w hSw
       (try dsimp only at hSw)
       go_simp
       done)
    | (refine Or.inl ⟨by rfl, ?_⟩
       intro w hSw
       (try dsimp only at hSw)
       go_simp
       with_reducible rfl)
  try simp only [Act.put, List.getElem_toArray, List.getElem_cons_succ, List.getElem_cons_zero, List.setIfInBounds_toArray, List.set_cons_zero, List.set_cons_succ]
  refine wpAnyH_take (i := 15) (v := ?_) rfl (by kernel_rfl) (by kernel_rfl) (by kernel_rfl) (fun _ _ _ h => h) ?_ hH ?_
  rotate_left
  · first
    | (refine Or.inl ⟨by rfl, ?_⟩
       intro w hSw
       (try dsimp only at hSw)
       go_simp
       done)
    | (refine Or.inl ⟨by rfl, ?_⟩
       intro w hSw
       (try dsimp only at hSw)
       go_simp
       with_reducible rfl)
  try simp only [Act.put, List.getElem_toArray, List.getElem_cons_succ, List.getElem_cons_zero, List.setIfInBounds_toArray, List.set_cons_zero, List.set_cons_succ]
  refine wpAnyH_take (i := 16) (v := ?_) rfl (by kernel_rfl) (by kernel_rfl) (by kernel_rfl) (fun _ _ _ h => h) ?_ hH ?_
  rotate_left
  · first
    | (refine Or.inl ⟨by rfl, ?_⟩
       intro w hSw
       (try dsimp only at hSw)
       go_simp
       done)
    | (refine Or.inl ⟨by rfl, ?_⟩
       intro w hSw
       (try dsimp only at hSw)
       go_simp
       with_reducible rfl)
  try simp only [Act.put, List.getElem_toArray, List.getElem_cons_succ, List.getElem_cons_zero, List.setIfInBounds_toArray, List.set_cons_zero, List.set_cons_succ]
  refine wpAnyH_take (i := 17) (v := ?_) rfl (by kernel_rfl) (by kernel_rfl) (by kernel_rfl) (fun _ _ _ h => h) ?_ hH ?_
  rotate_left
  · first
    | (refine Or.inl ⟨by rfl, ?_⟩
       intro w hSw
       (try dsimp only at hSw)
       go_simp
       done)
    | (refine Or.inl ⟨by rfl, ?_⟩
       intro w hSw
       (try dsimp only at hSw)
       go_simp
       with_reducible rfl)
  try simp only [Act.put, List.getElem_toArray, List.getElem_cons_succ, List.getElem_cons_zero, List.setIfInBounds_toArray, List.set_cons_zero, List.set_cons_succ]
  refine wpAnyH_take (i := 18) (v := ?_) rfl (by kernel_rfl) (by kernel_rfl) (by kernel_rfl) (fun _ _ _ h => h) ?_ hH ?_
  rotate_left
  · first
    | (refine Or.inl ⟨by rfl, ?_⟩
       intro w hSw
       (try dsimp only at hSw)
       go_simp
       done)
    | (refine Or.inl ⟨by rfl, ?_⟩
       intro w hSw
       (try dsimp only at hSw)
       go_simp
       with_reducible rfl)
  try simp only [Act.put, List.getElem_toArray, List.getElem_cons_succ, List.getElem_cons_zero, List.setIfInBounds_toArray, List.set_cons_zero, List.set_cons_succ]
  refine wpAnyH_take (i := 19) (v := ?_) rfl (by kernel_rfl) (by kernel_rfl) (by kernel_rfl) (fun _ _ _ h => h) ?_ hH ?_
  rotate_left
  · first
    | (refine Or.inl ⟨by rfl, ?_⟩
       intro w hSw
       (try dsimp only at hSw)
       go_simp
       done)
    | (refine Or.inl ⟨by rfl, ?_⟩
       intro w hSw
       (try dsimp only at hSw)
       go_simp
       with_reducible rfl)
  try simp only [Act.put, List.getElem_toArray, List.getElem_cons_succ, List.getElem_cons_zero, List.setIfInBounds_toArray, List.set_cons_zero, List.set_cons_succ]
  refine wpAnyH_take (i := 20) (v := ?_) rfl (by kernel_rfl) (by kernel_rfl) (by kernel_rfl) (fun _ _ _ h => h) ?_ hH ?_
  rotate_left
  · first
    | (refine Or.inl ⟨by rfl, ?_⟩
       intro w hSw
       (try dsimp only at hSw)
       go_simp
       done)
    | (refine Or.inl ⟨by rfl, ?_⟩
       intro w hSw
       (try dsimp only at hSw)
       go_simp
       with_reducible rfl)
  try simp only [Act.put, List.getElem_toArray, List.getElem_cons_succ, List.getElem_cons_zero, List.setIfInBounds_toArray, List.set_cons_zero, List.set_cons_succ]
  refine wpAnyH_take (i := 21) (v := ?_) rfl (by kernel_rfl) (by kernel_rfl) (by kernel_rfl) (fun _ _ _ h => h) ?_ hH ?_
  rotate_left
  · first
    | (refine Or.inl ⟨by rfl, ?_⟩
       intro w hSw
       (try dsimp only at hSw)
       go_simp
       done)
    | (refine Or.inl ⟨by rfl, ?_⟩
       intro w hSw
       (try dsimp only at hSw)
       go_simp
       with_reducible rfl)
  try simp only [Act.put, List.getElem_toArray, List.getElem_cons_succ, List.getElem_cons_zero, List.setIfInBounds_toArray, List.set_cons_zero, List.set_cons_succ]
  refine wpAnyH_take (i := 22) (v := ?_) rfl (by kernel_rfl) (by kernel_rfl) (by kernel_rfl) (fun _ _ _ h => h) ?_ hH ?_
  rotate_left
  · first
    | (refine Or.inl ⟨by rfl, ?_⟩
       intro w hSw
       (try dsimp only at hSw)
       go_simp
       done)
    | (refine Or.inl ⟨by rfl, ?_⟩
       intro w hSw
       (try dsimp only at hSw)
       go_simp
       with_reducible rfl)
  try simp only [Act.put, List.getElem_toArray, List.getElem_cons_succ, List.getElem_cons_zero, List.setIfInBounds_toArray, List.set_cons_zero, List.set_cons_succ]
  refine wpAnyH_take (i := 23) (v := ?_) rfl (by kernel_rfl) (by kernel_rfl) (by kernel_rfl) (fun _ _ _ h => h) ?_ hH ?_
  rotate_left
  · first
    | (refine Or.inl ⟨by rfl, ?_⟩
       intro w hSw
       (try dsimp only at hSw)
       go_simp
       done)
    | (refine Or.inl ⟨by rfl, ?_⟩
       intro w hSw
       (try dsimp only at hSw)
       go_simp
       with_reducible rfl)
  try simp only [Act.put, List.getElem_toArray, List.getElem_cons_succ, List.getElem_cons_zero, List.setIfInBounds_toArray, List.set_cons_zero, List.set_cons_succ]
  refine wpAnyH_take (i := 24) (v := ?_) rfl (by kernel_rfl) (by kernel_rfl) (by kernel_rfl) (fun _ _ _ h => h) ?_ hH ?_
  rotate_left
  · first
    | (refine Or.inl ⟨by rfl, ?_⟩
       intro w hSw
       (try dsimp only at hSw)
       go_simp
       done)
    | (refine Or.inl ⟨by rfl, ?_⟩
       intro w hSw
       (try dsimp only at hSw)
       go_simp
       with_reducible rfl)
  try simp only [Act.put, List.getElem_toArray, List.getElem_cons_succ, List.getElem_cons_zero, List.setIfInBounds_toArray, List.set_cons_zero, List.set_cons_succ]
  refine wpAnyH_take (i := 25) (v := ?_) rfl (by kernel_rfl) (by kernel_rfl) (by kernel_rfl) (fun _ _ _ h => h) ?_ hH ?_
  rotate_left
  · first
    | (refine Or.inl ⟨by rfl, ?_⟩
       intro w hSw
       (try dsimp only at hSw)
       go_simp
       done)
    | (refine Or.inl ⟨by rfl, ?_⟩
       intro w hSw
       (try dsimp only at hSw)
       go_simp
       with_reducible rfl)
  try simp only [Act.put, List.getElem_toArray, List.getElem_cons_succ, List.getElem_cons_zero, List.setIfInBounds_toArray, List.set_cons_zero, List.set_cons_succ]
  refine wpAnyH_take (i := 26) (v := ?_) rfl (by kernel_rfl) (by kernel_rfl) (by kernel_rfl) (fun _ _ _ h => h) ?_ hH ?_
  rotate_left
  · first
    | (refine Or.inl ⟨by rfl, ?_⟩
       intro w hSw
       (try dsimp only at hSw)
       go_simp
       done)
    | (refine Or.inl ⟨by rfl, ?_⟩
       intro w hSw
       (try dsimp only at hSw)
       go_simp
       with_reducible rfl)
  try simp only [Act.put, List.getElem_toArray, List.getElem_cons_succ, List.getElem_cons_zero, List.setIfInBounds_toArray, List.set_cons_zero, List.set_cons_succ]
  refine wpAnyH_take (i := 27) (v := ?_) rfl (by kernel_rfl) (by kernel_rfl) (by kernel_rfl) (fun _ _ _ h => h) ?_ hH ?_
  rotate_left
  · first
    | (refine Or.inl ⟨by rfl, ?_⟩
       intro w hSw
       (try dsimp only at hSw)
       go_simp
       done)
    | (refine Or.inl ⟨by rfl, ?_⟩
       intro w hSw
       (try dsimp only at hSw)
       go_simp
       with_reducible rfl)
  try simp only [Act.put, List.getElem_toArray, List.getElem_cons_succ, List.getElem_cons_zero, List.setIfInBounds_toArray, List.set_cons_zero, List.set_cons_succ]
  refine wpAnyH_take (i := 28) (v := ?_) rfl (by kernel_rfl) (by kernel_rfl) (by kernel_rfl) (fun _ _ _ h => h) ?_ hH ?_
  rotate_left
  · first
    | (refine Or.inl ⟨by rfl, ?_⟩
       intro w hSw
       (try dsimp only at hSw)
       go_simp
       done)
    | (refine Or.inl ⟨by rfl, ?_⟩
       intro w hSw
       (try dsimp only at hSw)
       go_simp
       with_reducible rfl)
  try simp only [Act.put, List.getElem_toArray, List.getElem_cons_succ, List.getElem_cons_zero, List.setIfInBounds_toArray, List.set_cons_zero, List.set_cons_succ]
  refine wpAnyH_take (i := 29) (v := ?_) rfl (by kernel_rfl) (by kernel_rfl) (by kernel_rfl) (fun _ _ _ h => h) ?_ hH ?_
  rotate_left
  · first
    | (refine Or.inl ⟨by rfl, ?_⟩
       intro w hSw
       (try dsimp only at hSw)
       go_simp
       done)
    | (refine Or.inl ⟨by rfl, ?_⟩
       intro w hSw
       (try dsimp only at hSw)
       go_simp
       with_reducible rfl)
  try simp only [Act.put, List.getElem_toArray, List.getElem_cons_succ, List.getElem_cons_zero, List.setIfInBounds_toArray, List.set_cons_zero, List.set_cons_succ]
  refine wpAnyH_take (i := 30) (v := ?_) rfl (by kernel_rfl) (by kernel_rfl) (by kernel_rfl) (fun _ _ _ h => h) ?_ hH ?_
  rotate_left
  · first
    | (refine Or.inl ⟨by rfl, ?_⟩
       intro w hSw
       (try dsimp only at hSw)
       go_simp
       done)
    | (refine Or.inl ⟨by rfl, ?_⟩
       intro w hSw
       (try dsimp only at hSw)
       go_simp
       with_reducible rfl)
  try simp only [Act.put, List.getElem_toArray, List.getElem_cons_succ, List.getElem_cons_zero, List.setIfInBounds_toArray, List.set_cons_zero, List.set_cons_succ]
  refine wpAnyH_take (i := 31) (v := ?_) rfl (by kernel_rfl) (by kernel_rfl) (by kernel_rfl) (fun _ _ _ h => h) ?_ hH ?_
  rotate_left
  · first
    | (refine Or.inl ⟨by rfl, ?_⟩
       intro w hSw
       (try dsimp only at hSw)
       go_simp
       done)
    | (refine Or.inl ⟨by rfl, ?_⟩
       intro w hSw
       (try dsimp only at hSw)
       go_simp
       with_reducible rfl)
  try simp only [Act.put, List.getElem_toArray, List.getElem_cons_succ, List.getElem_cons_zero, List.setIfInBounds_toArray, List.set_cons_zero, List.set_cons_succ]
  refine wpAnyH_take (i := 32) (v := ?_) rfl (by kernel_rfl) (by kernel_rfl) (by kernel_rfl) (fun _ _ _ h => h) ?_ hH ?_
  rotate_left
  · first
    | (refine Or.inl ⟨by rfl, ?_⟩
       intro w hSw
       (try dsimp only at hSw)
       go_simp
       done)
    | (refine Or.inl ⟨by rfl, ?_⟩
       intro w hSw
       (try dsimp only at hSw)
       go_simp
       with_reducible rfl)
  try simp only [Act.put, List.getElem_toArray, List.getElem_cons_succ, List.getElem_cons_zero, List.setIfInBounds_toArray, List.set_cons_zero, List.set_cons_succ]
  refine wpAnyH_take (i := 33) (v := ?_) rfl (by kernel_rfl) (by kernel_rfl) (by kernel_rfl) (fun _ _ _ h => h) ?_ hH ?_
  rotate_left
  · first
    | (refine Or.inl ⟨by rfl, ?_⟩
       intro w hSw
       (try dsimp only at hSw)
       go_simp
       done)
    | (refine Or.inl ⟨by rfl, ?_⟩
       intro w hSw
       (try dsimp only at hSw)
       go_simp
       with_reducible rfl)
  try simp only [Act.put, List.getElem_toArray, List.getElem_cons_succ, List.getElem_cons_zero, List.setIfInBounds_toArray, List.set_cons_zero, List.set_cons_succ]
  refine wpAnyH_take (i := 34) (v := ?_) rfl (by kernel_rfl) (by kernel_rfl) (by kernel_rfl) (fun _ _ _ h => h) ?_ hH ?_
  rotate_left
  · first
    | (refine Or.inl ⟨by rfl, ?_⟩
       intro w hSw
       (try dsimp only at hSw)
       go_simp
       done)
    | (refine Or.inl ⟨by rfl, ?_⟩
       intro w hSw
       (try dsimp only at hSw)
       go_simp
       with_reducible rfl)
  try simp only [Act.put, List.getElem_toArray, List.getElem_cons_succ, List.getElem_cons_zero, List.setIfInBounds_toArray, List.set_cons_zero, List.set_cons_succ]
  refine wpAnyH_take (i := 35) (v := ?_) rfl (by kernel_rfl) (by kernel_rfl) (by kernel_rfl) (fun _ _ _ h => h) ?_ hH ?_
  rotate_left
  · first
    | (refine Or.inl ⟨by rfl, ?_⟩
       intro w hSw
       (try dsimp only at hSw)
       go_simp
       done)
    | (refine Or.inl ⟨by rfl, ?_⟩
       intro w hSw
       (try dsimp only at hSw)
       go_simp
       with_reducible rfl)
  try simp only [Act.put, List.getElem_toArray, List.getElem_cons_succ, List.getElem_cons_zero, List.setIfInBounds_toArray, List.set_cons_zero, List.set_cons_succ]
  refine wpAnyH_take (i := 36) (v := ?_) rfl (by kernel_rfl) (by kernel_rfl) (by kernel_rfl) (fun _ _ _ h => h) ?_ hH ?_
  rotate_left
  · first
    | (refine Or.inl ⟨by rfl, ?_⟩
       intro w hSw
       (try dsimp only at hSw)
       go_simp
       done)
    | (refine Or.inl ⟨by rfl, ?_⟩
       intro w hSw
       (try dsimp only at hSw)
       go_simp
       with_reducible rfl)
  try simp only [Act.put, List.getElem_toArray, List.getElem_cons_succ, List.getElem_cons_zero, List.setIfInBounds_toArray, List.set_cons_zero, List.set_cons_succ]
  refine wpAnyH_take (i := 37) (v := ?_) rfl (by kernel_rfl) (by kernel_rfl) (by kernel_rfl) (fun _ _ _ h => h) ?_ hH ?_
  rotate_left
  · first
    | (refine Or.inl ⟨by rfl, ?_⟩
       intro w hSw
       (try dsimp only at hSw)
       go_simp
       done)
    | (refine Or.inl ⟨by rfl, ?_⟩
       intro w hSw
       (try dsimp only at hSw)
       go_simp
       with_reducible rfl)
  try simp only [Act.put, List.getElem_toArray, List.getElem_cons_succ, List.getElem_cons_zero, List.setIfInBounds_toArray, List.set_cons_zero, List.set_cons_succ]
  refine wpAnyH_take (i := 38) (v := ?_) rfl (by kernel_rfl) (by kernel_rfl) (by kernel_rfl) (fun _ _ _ h => h) ?_ hH ?_
  rotate_left
  · first
    | (refine Or.inl ⟨by rfl, ?_⟩
       intro w hSw
       (try dsimp only at hSw)
       go_simp
       done)
    | (refine Or.inl ⟨by rfl, ?_⟩
       intro w hSw
       (try dsimp only at hSw)
       go_simp
       with_reducible rfl)
  try simp only [Act.put, List.getElem_toArray, List.getElem_cons_succ, List.getElem_cons_zero, List.setIfInBounds_toArray, List.set_cons_zero, List.set_cons_succ]
  refine wpAnyH_take (i := 39) (v := ?_) rfl (by kernel_rfl) (by kernel_rfl) (by kernel_rfl) (fun _ _ _ h => h) ?_ hH ?_
  rotate_left
  · first
    | (refine Or.inl ⟨by rfl, ?_⟩
       intro w hSw
       (try dsimp only at hSw)
       go_simp
       done)
    | (refine Or.inl ⟨by rfl, ?_⟩
       intro w hSw
       (try dsimp only at hSw)
       go_simp
       with_reducible rfl)
  try simp only [Act.put, List.getElem_toArray, List.getElem_cons_succ, List.getElem_cons_zero, List.setIfInBounds_toArray, List.set_cons_zero, List.set_cons_succ]
  refine wpAnyH_take (i := 40) (v := ?_) rfl (by kernel_rfl) (by kernel_rfl) (by kernel_rfl) (fun _ _ _ h => h) ?_ hH ?_
  rotate_left
  · first
    | (refine Or.inl ⟨by rfl, ?_⟩
       intro w hSw
       (try dsimp only at hSw)
       go_simp
       done)
    | (refine Or.inl ⟨by rfl, ?_⟩
       intro w hSw
       (try dsimp only at hSw)
       go_simp
       with_reducible rfl)
  try simp only [Act.put, List.getElem_toArray, List.getElem_cons_succ, List.getElem_cons_zero, List.setIfInBounds_toArray, List.set_cons_zero, List.set_cons_succ]
  refine wpAnyH_take (i := 41) (v := ?_) rfl (by kernel_rfl) (by kernel_rfl) (by kernel_rfl) (fun _ _ _ h => h) ?_ hH ?_
  rotate_left
  · first
    | (refine Or.inl ⟨by rfl, ?_⟩
       intro w hSw
       (try dsimp only at hSw)
       go_simp
       done)
    | (refine Or.inl ⟨by rfl, ?_⟩
       intro w hSw
       (try dsimp only at hSw)
       go_simp
       with_reducible rfl)
  try simp only [Act.put, List.getElem_toArray, List.getElem_cons_succ, List.getElem_cons_zero, List.setIfInBounds_toArray, List.set_cons_zero, List.set_cons_succ]
  refine wpAnyH_take (i := 42) (v := ?_) rfl (by kernel_rfl) (by kernel_rfl) (by kernel_rfl) (fun _ _ _ h => h) ?_ hH ?_
  rotate_left
  · first
    | (refine Or.inl ⟨by rfl, ?_⟩
       intro w hSw
       (try dsimp only at hSw)
       go_simp
       done)
    | (refine Or.inl ⟨by rfl, ?_⟩
       intro w hSw
       (try dsimp only at hSw)
       go_simp
       with_reducible rfl)
  try simp only [Act.put, List.getElem_toArray, List.getElem_cons_succ, List.getElem_cons_zero, List.setIfInBounds_toArray, List.set_cons_zero, List.set_cons_succ]
  refine wpAnyH_take (i := 43) (v := ?_) rfl (by kernel_rfl) (by kernel_rfl) (by kernel_rfl) (fun _ _ _ h => h) ?_ hH ?_
  rotate_left
  · first
    | (refine Or.inl ⟨by rfl, ?_⟩
       intro w hSw
       (try dsimp only at hSw)
       go_simp
       done)
    | (refine Or.inl ⟨by rfl, ?_⟩
       intro w hSw
       (try dsimp only at hSw)
       go_simp
       with_reducible rfl)
  try simp only [Act.put, List.getElem_toArray, List.getElem_cons_succ, List.getElem_cons_zero, List.setIfInBounds_toArray, List.set_cons_zero, List.set_cons_succ]
  refine wpAnyH_take (i := 44) (v := ?_) rfl (by kernel_rfl) (by kernel_rfl) (by kernel_rfl) (fun _ _ _ h => h) ?_ hH ?_
  rotate_left
  · first
    | (refine Or.inl ⟨by rfl, ?_⟩
       intro w hSw
       (try dsimp only at hSw)
       go_simp
       done)
    | (refine Or.inl ⟨by rfl, ?_⟩
       intro w hSw
       (try dsimp only at hSw)
       go_simp
       with_reducible rfl)
  try simp only [Act.put, List.getElem_toArray, List.getElem_cons_succ, List.getElem_cons_zero, List.setIfInBounds_toArray, List.set_cons_zero, List.set_cons_succ]
  refine wpAnyH_take (i := 45) (v := ?_) rfl (by kernel_rfl) (by kernel_rfl) (by kernel_rfl) (fun _ _ _ h => h) ?_ hH ?_
  rotate_left
  · first
    | (refine Or.inl ⟨by rfl, ?_⟩
       intro w hSw
       (try dsimp only at hSw)
       go_simp
       done)
    | (refine Or.inl ⟨by rfl, ?_⟩
       intro w hSw
       (try dsimp only at hSw)
       go_simp
       with_reducible rfl)
  try simp only [Act.put, List.getElem_toArray, List.getElem_cons_succ, List.getElem_cons_zero, List.setIfInBounds_toArray, List.set_cons_zero, List.set_cons_succ]
  refine wpAnyH_take (i := 46) (v := ?_) rfl (by kernel_rfl) (by kernel_rfl) (by kernel_rfl) (fun _ _ _ h => h) ?_ hH ?_
  rotate_left
  · first
    | (refine Or.inl ⟨by rfl, ?_⟩
       intro w hSw
       (try dsimp only at hSw)
       go_simp
       done)
    | (refine Or.inl ⟨by rfl, ?_⟩
       intro w hSw
       (try dsimp only at hSw)
       go_simp
       with_reducible rfl)
  try simp only [Act.put, List.getElem_toArray, List.getElem_cons_succ, List.getElem_cons_zero, List.setIfInBounds_toArray, List.set_cons_zero, List.set_cons_succ]
  refine wpAnyH_take (i := 47) (v := ?_) rfl (by kernel_rfl) (by kernel_rfl) (by kernel_rfl) (fun _ _ _ h => h) ?_ hH ?_
  rotate_left
  · first
    | (refine Or.inl ⟨by rfl, ?_⟩
       intro w hSw
       (try dsimp only at hSw)
       go_simp
       done)
    | (refine Or.inl ⟨by rfl, ?_⟩
       intro w hSw
       (try dsimp only at hSw)
       go_simp
       with_reducible rfl)
  try simp only [Act.put, List.getElem_toArray, List.getElem_cons_succ, List.getElem_cons_zero, List.setIfInBounds_toArray, List.set_cons_zero, List.set_cons_succ]
  refine wpAnyH_take (i := 48) (v := ?_) rfl (by kernel_rfl) (by kernel_rfl) (by kernel_rfl) (fun _ _ _ h => h) ?_ hH ?_
  rotate_left
  · first
    | (refine Or.inl ⟨by rfl, ?_⟩
       intro w hSw
       (try dsimp only at hSw)
       go_simp
       done)
    | (refine Or.inl ⟨by rfl, ?_⟩
       intro w hSw
       (try dsimp only at hSw)
       go_simp
       with_reducible rfl)
  try simp only [Act.put, List.getElem_toArray, List.getElem_cons_succ, List.getElem_cons_zero, List.setIfInBounds_toArray, List.set_cons_zero, List.set_cons_succ]
  refine wpAnyH_take (i := 49) (v := ?_) rfl (by kernel_rfl) (by kernel_rfl) (by kernel_rfl) (fun _ _ _ h => h) ?_ hH ?_
  rotate_left
  · first
    | (refine Or.inl ⟨by rfl, ?_⟩
       intro w hSw
       (try dsimp only at hSw)
       go_simp
       done)
    | (refine Or.inl ⟨by rfl, ?_⟩
       intro w hSw
       (try dsimp only at hSw)
       go_simp
       with_reducible rfl)
  try simp only [Act.put, List.getElem_toArray, List.getElem_cons_succ, List.getElem_cons_zero, List.setIfInBounds_toArray, List.set_cons_zero, List.set_cons_succ]
  refine wpAnyH_take (i := 50) (v := ?_) rfl (by kernel_rfl) (by kernel_rfl) (by kernel_rfl) (fun _ _ _ h => h) ?_ hH ?_
  rotate_left
  · first
    | (refine Or.inl ⟨by rfl, ?_⟩
       intro w hSw
       (try dsimp only at hSw)
       go_simp
       done)
    | (refine Or.inl ⟨by rfl, ?_⟩
       intro w hSw
       (try dsimp only at hSw)
       go_simp
       with_reducible rfl)
  try simp only [Act.put, List.getElem_toArray, List.getElem_cons_succ, List.getElem_cons_zero, List.setIfInBounds_toArray, List.set_cons_zero, List.set_cons_succ]
  refine wpAnyH_take (i := 51) (v := ?_) rfl (by kernel_rfl) (by kernel_rfl) (by kernel_rfl) (fun _ _ _ h => h) ?_ hH ?_
  rotate_left
  · first
    | (refine Or.inl ⟨by rfl, ?_⟩
       intro w hSw
       (try dsimp only at hSw)
       go_simp
       done)
    | (refine Or.inl ⟨by rfl, ?_⟩
       intro w hSw
       (try dsimp only at hSw)
       go_simp
       with_reducible rfl)
  try simp only [Act.put, List.getElem_toArray, List.getElem_cons_succ, List.getElem_cons_zero, List.setIfInBounds_toArray, List.set_cons_zero, List.set_cons_succ]
  refine wpAnyH_take (i := 52) (v := ?_) rfl (by kernel_rfl) (by kernel_rfl) (by kernel_rfl) (fun _ _ _ h => h) ?_ hH ?_
  rotate_left
  · first
    | (refine Or.inl ⟨by rfl, ?_⟩
       intro w hSw
       (try dsimp only at hSw)
       go_simp
       done)
    | (refine Or.inl ⟨by rfl, ?_⟩
       intro w hSw
       (try dsimp only at hSw)
       go_simp
       with_reducible rfl)
  try simp only [Act.put, List.getElem_toArray, List.getElem_cons_succ, List.getElem_cons_zero, List.setIfInBounds_toArray, List.set_cons_zero, List.set_cons_succ]
  refine wpAnyH_take (i := 53) (v := ?_) rfl (by kernel_rfl) (by kernel_rfl) (by kernel_rfl) (fun _ _ _ h => h) ?_ hH ?_
  rotate_left
  · first
    | (refine Or.inl ⟨by rfl, ?_⟩
       intro w hSw
       (try dsimp only at hSw)
       go_simp
       done)
    | (refine Or.inl ⟨by rfl, ?_⟩
       intro w hSw
       (try dsimp only at hSw)
       go_simp
       with_reducible rfl)
  try simp only [Act.put, List.getElem_toArray, List.getElem_cons_succ, List.getElem_cons_zero, List.setIfInBounds_toArray, List.set_cons_zero, List.set_cons_succ]
  refine wpAnyH_take (i := 54) (v := ?_) rfl (by kernel_rfl) (by kernel_rfl) (by kernel_rfl) (fun _ _ _ h => h) ?_ hH ?_
  rotate_left
  · first
    | (refine Or.inl ⟨by rfl, ?_⟩
       intro w hSw
       (try dsimp only at hSw)
       go_simp
       done)
    | (refine Or.inl ⟨by rfl, ?_⟩
       intro w hSw
       (try dsimp only at hSw)
       go_simp
       with_reducible rfl)
  try simp only [Act.put, List.getElem_toArray, List.getElem_cons_succ, List.getElem_cons_zero, List.setIfInBounds_toArray, List.set_cons_zero, List.set_cons_succ]
  refine wpAnyH_take (i := 55) (v := ?_) rfl (by kernel_rfl) (by kernel_rfl) (by kernel_rfl) (fun _ _ _ h => h) ?_ hH ?_
  rotate_left
  · first
    | (refine Or.inl ⟨by rfl, ?_⟩
       intro w hSw
       (try dsimp only at hSw)
       go_simp
       done)
    | (refine Or.inl ⟨by rfl, ?_⟩
       intro w hSw
       (try dsimp only at hSw)
       go_simp
       with_reducible rfl)
  try simp only [Act.put, List.getElem_toArray, List.getElem_cons_succ, List.getElem_cons_zero, List.setIfInBounds_toArray, List.set_cons_zero, List.set_cons_succ]
  refine wpAnyH_take (i := 56) (v := ?_) rfl (by kernel_rfl) (by kernel_rfl) (by kernel_rfl) (fun _ _ _ h => h) ?_ hH ?_
  rotate_left
  · first
    | (refine Or.inl ⟨by rfl, ?_⟩
       intro w hSw
       (try dsimp only at hSw)
       go_simp
       done)
    | (refine Or.inl ⟨by rfl, ?_⟩
       intro w hSw
       (try dsimp only at hSw)
       go_simp
       with_reducible rfl)
  try simp only [Act.put, List.getElem_toArray, List.getElem_cons_succ, List.getElem_cons_zero, List.setIfInBounds_toArray, List.set_cons_zero, List.set_cons_succ]
  refine wpAnyH_take (i := 57) (v := ?_) rfl (by kernel_rfl) (by kernel_rfl) (by kernel_rfl) (fun _ _ _ h => h) ?_ hH ?_
  rotate_left
  · first
    | (refine Or.inl ⟨by rfl, ?_⟩
       intro w hSw
       (try dsimp only at hSw)
       go_simp
       done)
    | (refine Or.inl ⟨by rfl, ?_⟩
       intro w hSw
       (try dsimp only at hSw)
       go_simp
       with_reducible rfl)
  try simp only [Act.put, List.getElem_toArray, List.getElem_cons_succ, List.getElem_cons_zero, List.setIfInBounds_toArray, List.set_cons_zero, List.set_cons_succ]
  refine wpAnyH_take (i := 58) (v := undef) rfl (by kernel_rfl) (by kernel_rfl) (by kernel_rfl) (fun _ _ _ h => h) (Or.inr ⟨by rfl, rfl⟩) hH ?_
  try simp only [Act.put, List.getElem_toArray, List.getElem_cons_succ, List.getElem_cons_zero, List.setIfInBounds_toArray, List.set_cons_zero, List.set_cons_succ]
  refine wpAnyH_take (i := 59) (v := undef) rfl (by kernel_rfl) (by kernel_rfl) (by kernel_rfl) (fun _ _ _ h => h) (Or.inr ⟨by rfl, rfl⟩) hH ?_
  try simp only [Act.put, List.getElem_toArray, List.getElem_cons_succ, List.getElem_cons_zero, List.setIfInBounds_toArray, List.set_cons_zero, List.set_cons_succ]
  refine wpAnyH_take (i := 60) (v := undef) rfl (by kernel_rfl) (by kernel_rfl) (by kernel_rfl) (fun _ _ _ h => h) (Or.inr ⟨by rfl, rfl⟩) hH ?_
  try simp only [Act.put, List.getElem_toArray, List.getElem_cons_succ, List.getElem_cons_zero, List.setIfInBounds_toArray, List.set_cons_zero, List.set_cons_succ]
  refine wpAnyH_take (i := 61) (v := undef) rfl (by kernel_rfl) (by kernel_rfl) (by kernel_rfl) (fun _ _ _ h => h) (Or.inr ⟨by rfl, rfl⟩) hH ?_
  try simp only [Act.put, List.getElem_toArray, List.getElem_cons_succ, List.getElem_cons_zero, List.setIfInBounds_toArray, List.set_cons_zero, List.set_cons_succ]
  refine wpAnyH_take (i := 62) (v := undef) rfl (by kernel_rfl) (by kernel_rfl) (by kernel_rfl) (fun _ _ _ h => h) (Or.inr ⟨by rfl, rfl⟩) hH ?_
  try simp only [Act.put, List.getElem_toArray, List.getElem_cons_succ, List.getElem_cons_zero, List.setIfInBounds_toArray, List.set_cons_zero, List.set_cons_succ]
  refine wpAnyH_take (i := 63) (v := undef) rfl (by kernel_rfl) (by kernel_rfl) (by kernel_rfl) (fun _ _ _ h => h) (Or.inr ⟨by rfl, rfl⟩) hH ?_
  try simp only [Act.put, List.getElem_toArray, List.getElem_cons_succ, List.getElem_cons_zero, List.setIfInBounds_toArray, List.set_cons_zero, List.set_cons_succ]
  refine wpAnyH_take (i := 64) (v := ?_) rfl (by kernel_rfl) (by kernel_rfl) (by kernel_rfl) (fun _ _ _ h => h) ?_ hH ?_
  rotate_left
  · first
    | (refine Or.inl ⟨by rfl, ?_⟩
       intro w hSw
       (try dsimp only at hSw)
       go_simp
       done)
    | (refine Or.inl ⟨by rfl, ?_⟩
       intro w hSw
       (try dsimp only at hSw)
       go_simp
       with_reducible rfl)
  try simp only [Act.put, List.getElem_toArray, List.getElem_cons_succ, List.getElem_cons_zero, List.setIfInBounds_toArray, List.set_cons_zero, List.set_cons_succ]
  refine wpAnyH_take (i := 65) (v := ?_) rfl (by kernel_rfl) (by kernel_rfl) (by kernel_rfl) (fun _ _ _ h => h) ?_ hH ?_
  rotate_left
  · first
    | (refine Or.inl ⟨by rfl, ?_⟩
       intro w hSw
       (try dsimp only at hSw)
       go_simp
       done)
    | (refine Or.inl ⟨by rfl, ?_⟩
       intro w hSw
       (try dsimp only at hSw)
       go_simp
       with_reducible rfl)
  try simp only [Act.put, List.getElem_toArray, List.getElem_cons_succ, List.getElem_cons_zero, List.setIfInBounds_toArray, List.set_cons_zero, List.set_cons_succ]
  refine wpAnyH_take (i := 66) (v := ?_) rfl (by kernel_rfl) (by kernel_rfl) (by kernel_rfl) (fun _ _ _ h => h) ?_ hH ?_
  rotate_left
  · first
    | (refine Or.inl ⟨by rfl, ?_⟩
       intro w hSw
       (try dsimp only at hSw)
       go_simp
       done)
    | (refine Or.inl ⟨by rfl, ?_⟩
       intro w hSw
       (try dsimp only at hSw)
       go_simp
       with_reducible rfl)
  try simp only [Act.put, List.getElem_toArray, List.getElem_cons_succ, List.getElem_cons_zero, List.setIfInBounds_toArray, List.set_cons_zero, List.set_cons_succ]
  refine wpAnyH_done (by kernel_rfl) ?_ _
  go_wp2
  go_ret
  have hE : ∀ v, Held h g (.int .i64 3) (.int .i64 0) (.string (⟨#[]⟩ : ByteArray)) (.iface 44 (.string (⟨#[]⟩ : ByteArray))) w v → Below w.heap.size w v := fun v hv => HH.out ▸ hv.2.2.2.2
  exact ⟨rfl, hE _ hH⟩

end Go.Proofs.Ytcaomobbpgpplaa
