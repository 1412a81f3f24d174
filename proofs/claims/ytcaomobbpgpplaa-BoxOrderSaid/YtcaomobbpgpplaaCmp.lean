/-
  The contracts of compare, Compare and the reference's Compare: how two boxes stand to each other. Conditions: none.
-/
import Derived.Test.YtcaomobbpgpplaaWk2
import Derived.Test.YtcaomobbpgpplaaMust
import Derived.Deep.RegionHeld3
namespace Go.Proofs.Ytcaomobbpgpplaa
open Go.RowKit

def cmp3 (a b : Int) : Int := if a < b then -1 else if b < a then 1 else 0

set_option maxHeartbeats 400000 in
theorem compare_any (a b : Int) (w : World) :
    Calls Try.prog 28 #[.int .i64 a, .int .i64 b] w fun e w' => e = .returned (.int .i64 (cmp3 a b)) ∧ w = w' := by
  unfold cmp3
  by_cases h1 : a < b
  · rw [if_pos h1]
    go_enter Try.func28, Try.ntmps28
    go_wp2
    go_ret
    exact ⟨rfl, rfl⟩
  · by_cases h2 : b < a
    · rw [if_neg h1, if_pos h2]
      go_enter Try.func28, Try.ntmps28
      go_wp2
      go_ret
      exact ⟨rfl, rfl⟩
    · rw [if_neg h1, if_neg h2]
      go_enter Try.func28, Try.ntmps28
      go_wp2
      go_ret
      exact ⟨rfl, rfl⟩

theorem scompare_any (a b : ByteArray) (w : World) :
    Calls Try.prog 29 #[.string a, .string b] w fun e w' => e = .returned (.int .i64 (Lib.compareBytes a.data.toList b.data.toList)) ∧ w = w' :=
  (Try.strings_Compare a b w).mono fun _ _ h => ⟨h.1, h.2.symm⟩

/-- How two boxes stand to each other. -/
def Bx.cmp : Bx → Bx → Int
  | .num a, .num b => cmp3 a b
  | .name s, .name t => Lib.compareBytes s.data.toList t.data.toList
  | .text s, .text t => Lib.compareBytes s.data.toList t.data.toList
  | x, y => cmp3 x.kind y.kind

/-- The two boxes of a call stand, and what was there. -/
def Two (h : Nat) (a b : Value) (w w' : World) : Prop := w'.cell? ⟨h, 0, none⟩ = some a ∧ w'.cell? ⟨h + 1, 0, none⟩ = some b ∧ Below h w w'
theorem Two.step {h : Nat} {a b : Value} {w V : World} (hsz : h ≤ w.heap.size) (H : Two h a b w V) (o : Obj) : Two h a b w (V.alloc o) :=
  ⟨past H.1 o, past H.2.1 o, H.2.2.alloc (Nat.le_trans hsz H.2.2.size) o⟩
theorem Two.drew {h : Nat} {a b : Value} {w V : World} (H : Two h a b w V) : Two h a b w V.drew := ⟨H.1, H.2.1, H.2.2.drew⟩
theorem two_start (a b : Value) (w : World) (o o' : Obj) : Two w.heap.size a b w ((((w.alloc (.cells #[a] 27)).alloc (.cells #[b] 27)).alloc o).alloc o') := by
  have h : Two w.heap.size a b w ((w.alloc (.cells #[a] 27)).alloc (.cells #[b] 27)) :=
    ⟨past ((World.cell?_alloc_at _ _ _ _ rfl).trans rfl) _, (World.cell?_alloc_at _ _ _ _ (by simp)).trans rfl, ((Below.refl _ _).alloc (Nat.le_refl _) _).alloc (by simp) _⟩
  exact (h.step (Nat.le_refl _) o).step (Nat.le_refl _) o'

set_option maxHeartbeats 1000000 in
theorem compare_nn (a b : Int) (w : World) :
    Calls Try.prog 17 #[(Bx.num a).val, (Bx.num b).val] w fun e w' => e = .returned (.int .i64 (cmp3 a b)) ∧ Below w.heap.size w w' := by
  have K := Lib.hid (fun x => kind_any (.num x))
  have C0 := Lib.hid (show ∀ w, Calls Try.prog 28 #[.int .i64 1, .int .i64 1] w fun e w' => e = .returned (.int .i64 0) ∧ w = w' from compare_any 1 1)
  have C := Lib.hid (compare_any a b)
  obtain ⟨c, hc⟩ : ∃ c, c = cmp3 a b := ⟨_, rfl⟩
  have M := Lib.hid mustNumber_yes
  rw [← hc] at C ⊢
  clear hc
  simp only [Bx.val, Bx.cell, Bx.kind] at K M ⊢
  go_enter Try.func17, Try.ntmps17
  go_wp2_with (first | (go_at_call 16; ((with_reducible refine (K.out _ _).mono ?_); rintro e w' ⟨rfl, rfl⟩)) | (go_at_call 28; ((with_reducible refine (C0.out _).mono ?_); rintro e w' ⟨rfl, rfl⟩)))
  have H0 := two_start (.iface 3 (.int .i64 a)) (.iface 3 (.int .i64 b)) w (.cells #[.iface 3 (.int .i64 a)] 27) (.cells #[.iface 3 (.int .i64 b)] 27)
  obtain ⟨V, hV⟩ : ∃ V, V = ((((w.alloc (.cells #[.iface 3 (.int .i64 a)] 27)).alloc (.cells #[.iface 3 (.int .i64 b)] 27)).alloc (.cells #[.iface 3 (.int .i64 a)] 27)).alloc (.cells #[.iface 3 (.int .i64 b)] 27)) := ⟨_, rfl⟩
  rw [← hV] at H0 ⊢
  obtain ⟨h, hh⟩ : ∃ h, h = w.heap.size := ⟨_, rfl⟩
  rw [← hh] at H0 ⊢
  have hsz : h ≤ w.heap.size := Nat.le_of_eq hh
  have HH := Lib.hid hh
  clear hV hh
  go_region_held3 (fun w' => w'.cell? ⟨h, 0, none⟩ = some (.iface 3 (.int .i64 a)) ∧ w'.cell? ⟨h + 1, 0, none⟩ = some (.iface 3 (.int .i64 b)) ∧ Below h w w')
    (first | exact H0.drew | exact Two.step hsz H0 _ | exact (Two.step hsz H0 _).drew | exact Two.step hsz (by assumption) _ | exact (Two.step hsz (by assumption) _).drew | assumption)
    ((first | (go_at_call 23; ((with_reducible refine (M.out _ _).mono ?_); rintro e w' ⟨rfl, rfl⟩)) | (go_at_call 28; ((with_reducible refine (C.out _).mono ?_); rintro e w' ⟨rfl, rfl⟩))))
  go_wp2
  go_ret
  have hE : ∀ v, Two h (.iface 3 (.int .i64 a)) (.iface 3 (.int .i64 b)) w v → Below w.heap.size w v := fun v hv => HH.out ▸ hv.2.2
  exact ⟨rfl, hE _ (by assumption)⟩
set_option maxHeartbeats 1000000 in
theorem compare_name (a b : ByteArray) (w : World) :
    Calls Try.prog 17 #[(Bx.name a).val, (Bx.name b).val] w fun e w' => e = .returned (.int .i64 (Lib.compareBytes a.data.toList b.data.toList)) ∧ Below w.heap.size w w' := by
  have K := Lib.hid (fun x => kind_any (.name x))
  have C0 := Lib.hid (show ∀ w, Calls Try.prog 28 #[.int .i64 2, .int .i64 2] w fun e w' => e = .returned (.int .i64 0) ∧ w = w' from compare_any 2 2)
  have C := Lib.hid (scompare_any a b)
  obtain ⟨c, hc⟩ : ∃ c, c = Lib.compareBytes a.data.toList b.data.toList := ⟨_, rfl⟩
  have M := Lib.hid mustName_yes
  rw [← hc] at C ⊢
  clear hc
  simp only [Bx.val, Bx.cell, Bx.kind] at K M ⊢
  go_enter Try.func17, Try.ntmps17
  go_wp2_with (first | (go_at_call 16; ((with_reducible refine (K.out _ _).mono ?_); rintro e w' ⟨rfl, rfl⟩)) | (go_at_call 28; ((with_reducible refine (C0.out _).mono ?_); rintro e w' ⟨rfl, rfl⟩)))
  have H0 := two_start (.iface 42 (.string a)) (.iface 42 (.string b)) w (.cells #[.iface 42 (.string a)] 27) (.cells #[.iface 42 (.string b)] 27)
  obtain ⟨V, hV⟩ : ∃ V, V = ((((w.alloc (.cells #[.iface 42 (.string a)] 27)).alloc (.cells #[.iface 42 (.string b)] 27)).alloc (.cells #[.iface 42 (.string a)] 27)).alloc (.cells #[.iface 42 (.string b)] 27)) := ⟨_, rfl⟩
  rw [← hV] at H0 ⊢
  obtain ⟨h, hh⟩ : ∃ h, h = w.heap.size := ⟨_, rfl⟩
  rw [← hh] at H0 ⊢
  have hsz : h ≤ w.heap.size := Nat.le_of_eq hh
  have HH := Lib.hid hh
  clear hV hh
  go_region_held3 (fun w' => w'.cell? ⟨h, 0, none⟩ = some (.iface 42 (.string a)) ∧ w'.cell? ⟨h + 1, 0, none⟩ = some (.iface 42 (.string b)) ∧ Below h w w')
    (first | exact H0.drew | exact Two.step hsz H0 _ | exact (Two.step hsz H0 _).drew | exact Two.step hsz (by assumption) _ | exact (Two.step hsz (by assumption) _).drew | assumption)
    ((first | (go_at_call 25; ((with_reducible refine (M.out _ _).mono ?_); rintro e w' ⟨rfl, rfl⟩)) | (go_at_call 29; ((with_reducible refine (C.out _).mono ?_); rintro e w' ⟨rfl, rfl⟩))))
  go_wp2
  go_ret
  have hE : ∀ v, Two h (.iface 42 (.string a)) (.iface 42 (.string b)) w v → Below w.heap.size w v := fun v hv => HH.out ▸ hv.2.2
  exact ⟨rfl, hE _ (by assumption)⟩
set_option maxHeartbeats 1000000 in
theorem compare_text (a b : ByteArray) (w : World) :
    Calls Try.prog 17 #[(Bx.text a).val, (Bx.text b).val] w fun e w' => e = .returned (.int .i64 (Lib.compareBytes a.data.toList b.data.toList)) ∧ Below w.heap.size w w' := by
  have K := Lib.hid (fun x => kind_any (.text x))
  have C0 := Lib.hid (show ∀ w, Calls Try.prog 28 #[.int .i64 3, .int .i64 3] w fun e w' => e = .returned (.int .i64 0) ∧ w = w' from compare_any 3 3)
  have C := Lib.hid (scompare_any a b)
  obtain ⟨c, hc⟩ : ∃ c, c = Lib.compareBytes a.data.toList b.data.toList := ⟨_, rfl⟩
  have M := Lib.hid mustText_yes
  rw [← hc] at C ⊢
  clear hc
  simp only [Bx.val, Bx.cell, Bx.kind] at K M ⊢
  go_enter Try.func17, Try.ntmps17
  go_wp2_with (first | (go_at_call 16; ((with_reducible refine (K.out _ _).mono ?_); rintro e w' ⟨rfl, rfl⟩)) | (go_at_call 28; ((with_reducible refine (C0.out _).mono ?_); rintro e w' ⟨rfl, rfl⟩)))
  have H0 := two_start (.iface 44 (.string a)) (.iface 44 (.string b)) w (.cells #[.iface 44 (.string a)] 27) (.cells #[.iface 44 (.string b)] 27)
  obtain ⟨V, hV⟩ : ∃ V, V = ((((w.alloc (.cells #[.iface 44 (.string a)] 27)).alloc (.cells #[.iface 44 (.string b)] 27)).alloc (.cells #[.iface 44 (.string a)] 27)).alloc (.cells #[.iface 44 (.string b)] 27)) := ⟨_, rfl⟩
  rw [← hV] at H0 ⊢
  obtain ⟨h, hh⟩ : ∃ h, h = w.heap.size := ⟨_, rfl⟩
  rw [← hh] at H0 ⊢
  have hsz : h ≤ w.heap.size := Nat.le_of_eq hh
  have HH := Lib.hid hh
  clear hV hh
  go_region_held3 (fun w' => w'.cell? ⟨h, 0, none⟩ = some (.iface 44 (.string a)) ∧ w'.cell? ⟨h + 1, 0, none⟩ = some (.iface 44 (.string b)) ∧ Below h w w')
    (first | exact H0.drew | exact Two.step hsz H0 _ | exact (Two.step hsz H0 _).drew | exact Two.step hsz (by assumption) _ | exact (Two.step hsz (by assumption) _).drew | assumption)
    ((first | (go_at_call 27; ((with_reducible refine (M.out _ _).mono ?_); rintro e w' ⟨rfl, rfl⟩)) | (go_at_call 29; ((with_reducible refine (C.out _).mono ?_); rintro e w' ⟨rfl, rfl⟩))))
  go_wp2
  go_ret
  have hE : ∀ v, Two h (.iface 44 (.string a)) (.iface 44 (.string b)) w v → Below w.heap.size w v := fun v hv => HH.out ▸ hv.2.2
  exact ⟨rfl, hE _ (by assumption)⟩
set_option maxHeartbeats 1000000 in
theorem compare_none (w : World) :
    Calls Try.prog 17 #[Bx.none.val, Bx.none.val] w fun e w' => e = .returned (.int .i64 0) ∧ Below w.heap.size w w' := by
  have K := Lib.hid (kind_any .none)
  have C0 := Lib.hid (show ∀ w, Calls Try.prog 28 #[.int .i64 0, .int .i64 0] w fun e w' => e = .returned (.int .i64 0) ∧ w = w' from compare_any 0 0)
  simp only [Bx.val, Bx.cell, Bx.kind] at K ⊢
  go_enter Try.func17, Try.ntmps17
  go_wp2_with (first | (go_at_call 16; ((with_reducible refine (K.out _).mono ?_); rintro e w' ⟨rfl, rfl⟩)) | (go_at_call 28; ((with_reducible refine (C0.out _).mono ?_); rintro e w' ⟨rfl, rfl⟩)))
  go_ret
  exact ⟨rfl, (two_start .nilIface .nilIface w _ _).2.2⟩

set_option maxHeartbeats 1000000 in
theorem compare_kinds (x y : Bx) (c : Int) (hc : cmp3 x.kind y.kind = c) (h0 : (c != 0) = true) (w : World) :
    Calls Try.prog 17 #[x.val, y.val] w fun e w' => e = .returned (.int .i64 c) ∧ Below w.heap.size w w' := by
  have Kx := Lib.hid (kind_any x)
  have Ky := Lib.hid (kind_any y)
  have C := Lib.hid (compare_any x.kind y.kind)
  rw [hc] at C
  obtain ⟨k, hk⟩ : ∃ k, k = x.kind := ⟨_, rfl⟩
  obtain ⟨l, hl⟩ : ∃ l, l = y.kind := ⟨_, rfl⟩
  obtain ⟨a, ha⟩ : ∃ a, a = x.cell := ⟨_, rfl⟩
  obtain ⟨b, hb⟩ : ∃ b, b = y.cell := ⟨_, rfl⟩
  unfold Bx.val at Kx Ky ⊢
  rw [← hk] at Kx C
  rw [← hl] at Ky C
  rw [← ha] at Kx ⊢
  rw [← hb] at Ky ⊢
  clear hc hk hl ha hb
  go_enter Try.func17, Try.ntmps17
  go_wp2_with (first | (go_at_call 16; ((with_reducible refine (Kx.out _).mono ?_); rintro e w' ⟨rfl, rfl⟩)) | (go_at_call 16; ((with_reducible refine (Ky.out _).mono ?_); rintro e w' ⟨rfl, rfl⟩)) | (go_at_call 28; ((with_reducible refine (C.out _).mono ?_); rintro e w' ⟨rfl, rfl⟩)))
  go_ret
  exact ⟨rfl, (two_start a b w _ _).2.2⟩

/-- **Compare**. -/
theorem compare_boxes (x y : Bx) (w : World) :
    Calls Try.prog 17 #[x.val, y.val] w fun e w' => e = .returned (.int .i64 (x.cmp y)) ∧ Below w.heap.size w w' := by
  cases x with
  | none => cases y with
    | none => exact compare_none w
    | num _ => exact compare_kinds _ _ _ rfl rfl w
    | name _ => exact compare_kinds _ _ _ rfl rfl w
    | text _ => exact compare_kinds _ _ _ rfl rfl w
  | num a => cases y with
    | num b => exact compare_nn a b w
    | none => exact compare_kinds _ _ _ rfl rfl w
    | name _ => exact compare_kinds _ _ _ rfl rfl w
    | text _ => exact compare_kinds _ _ _ rfl rfl w
  | name s => cases y with
    | name t => exact compare_name s t w
    | none => exact compare_kinds _ _ _ rfl rfl w
    | num _ => exact compare_kinds _ _ _ rfl rfl w
    | text _ => exact compare_kinds _ _ _ rfl rfl w
  | text s => cases y with
    | text t => exact compare_text s t w
    | none => exact compare_kinds _ _ _ rfl rfl w
    | num _ => exact compare_kinds _ _ _ rfl rfl w
    | name _ => exact compare_kinds _ _ _ rfl rfl w
end Go.Proofs.Ytcaomobbpgpplaa
