/-
  Plain laws: of a right text, with any text behind it, the runes are those of both. No program in sight. Conditions: none.
-/
import Derived.Test.YtiedmlpeeebeeaaPl2
namespace Go.Proofs.Ytiedmlpeeebeeaa
set_option linter.unusedSimpArgs false
set_option linter.unusedVariables false
open Go.RowKit

/-- What a rune is hangs on its own bytes alone. -/
theorem wd_congr (s u : ByteArray) (i j : Nat) (h : i < s.size) (hw : wd s i ≠ 0) (hj : j + wd s i ≤ u.size) (hb : ∀ k, k < wd s i → bt u (j + k) = bt s (i + k)) :
    wd u j = wd s i ∧ vl u j = vl s i := by
  have hj0 : j < u.size := by omega
  have key : wd u j = wd s i := by
    have b0 := hb 0 (by omega)
    simp only [Nat.add_zero] at b0
    rcases wd_cases s i h with e | ⟨e, c⟩ | ⟨e, c⟩ | ⟨e, c⟩ | ⟨e, c⟩
    · exact absurd e hw
    · rw [e]; exact wd_ascii hj0 (by omega)
    · have b1 := hb 1 (by omega)
      rw [e, wd_C2 hj0 (by omega), if_pos (by unfold In; omega)]
    · have b1 := hb 1 (by omega)
      have b2 := hb 2 (by omega)
      rw [e, wd_E hj0 (by omega) _ _ rfl rfl, if_pos]
      unfold In
      refine ⟨⟨by omega, ?_, ?_⟩, by omega, by omega, by omega⟩
      · split <;> omega
      · split <;> omega
    · have b1 := hb 1 (by omega)
      have b2 := hb 2 (by omega)
      have b3 := hb 3 (by omega)
      rw [e, wd_F hj0 (by omega) _ _ rfl rfl, if_pos]
      unfold In
      refine ⟨⟨by omega, ?_, ?_⟩, ⟨by omega, by omega, by omega⟩, by omega, by omega, by omega⟩
      · split <;> omega
      · split <;> omega
  refine ⟨key, ?_⟩
  unfold vl
  rw [key]
  have b0 := hb 0 (by omega)
  simp only [Nat.add_zero] at b0
  have hle := wd_le s i
  split
  · rw [b0]
  · split
    · rw [b0, hb 1 (by omega)]
    · split
      · rw [b0, hb 1 (by omega), hb 2 (by omega)]
      · rw [b0, hb 1 (by omega), hb 2 (by omega), hb 3 (by omega)]

/-- A text behind another. -/
theorem app_list (s t : ByteArray) : (s ++ t).data.toList = s.data.toList ++ t.data.toList := by simp
theorem app_size (s t : ByteArray) : (s ++ t).size = s.size + t.size := by
  rw [Lib.size_eq, app_list, List.length_append, ← Lib.size_eq, ← Lib.size_eq]
theorem app_left (s t : ByteArray) (i : Nat) (h : i < s.size) : bt (s ++ t) i = bt s i := by
  rw [← getD_bt, ← getD_bt, app_list]
  rw [Lib.size_eq] at h
  simp [List.getD, List.getElem?_append_left h]
theorem app_right (s t : ByteArray) (j : Nat) : bt (s ++ t) (s.size + j) = bt t j := by
  rw [← getD_bt, ← getD_bt, app_list]
  unfold List.getD
  rw [List.getElem?_append_right (by rw [← Lib.size_eq]; omega), ← Lib.size_eq, Nat.add_sub_cancel_left]
theorem wd_right (s t : ByteArray) (j : Nat) : wd (s ++ t) (s.size + j) = wd t j ∧ vl (s ++ t) (s.size + j) = vl t j := by
  have hin : ∀ k lo hi, In (s ++ t) (s.size + k) lo hi ↔ In t k lo hi := by
    intro k lo hi
    unfold In
    rw [app_right, app_size]
    omega
  have hw : wd (s ++ t) (s.size + j) = wd t j := by
    unfold wd
    simp only [Nat.add_assoc, hin]
  refine ⟨hw, ?_⟩
  unfold vl
  rw [hw]
  simp only [Nat.add_assoc, app_right]
theorem stp_right (s t : ByteArray) (j : Nat) : stp (s ++ t) (s.size + j) = stp t j ∧ rn (s ++ t) (s.size + j) = rn t j := by
  have := wd_right s t j
  unfold stp rn
  rw [this.1, this.2]
  exact ⟨rfl, rfl⟩
theorem wd_left (s t : ByteArray) (i : Nat) (h : i < s.size) (hw : wd s i ≠ 0) : wd (s ++ t) i = wd s i ∧ vl (s ++ t) i = vl s i := by
  have hin := wd_in s i h
  have hs : stp s i = wd s i := by unfold stp; rw [if_neg hw]
  rw [hs] at hin
  exact wd_congr s (s ++ t) i i h hw (by rw [app_size]; omega) (fun k hk => app_left s t _ (by omega))

/-- How much fuel there is makes no difference, where there is enough. -/
theorem splitF_fuel (s : ByteArray) : ∀ f g i, s.size ≤ i + f → s.size ≤ i + g → splitF s f i = splitF s g i := by
  intro f
  induction f with
  | zero => intro g i h _; rw [splitF_end (by omega), splitF_end (by omega)]
  | succ f ih =>
    intro g i h h'
    by_cases hi : i < s.size
    · obtain ⟨g', rfl⟩ : ∃ g', g = g' + 1 := ⟨g - 1, by omega⟩
      have := stp_pos s i
      rw [splitF, splitF, if_pos hi, if_pos hi, ih g' (i + stp s i) (by omega) (by omega)]
    · rw [splitF_end hi, splitF_end hi]
theorem rightF_fuel (s : ByteArray) : ∀ f g i, s.size ≤ i + f → s.size ≤ i + g → rightF s f i = rightF s g i := by
  intro f
  induction f with
  | zero => intro g i h _; rw [rightF_end (by omega), rightF_end (by omega)]
  | succ f ih =>
    intro g i h h'
    by_cases hi : i < s.size
    · obtain ⟨g', rfl⟩ : ∃ g', g = g' + 1 := ⟨g - 1, by omega⟩
      rw [rightF, rightF, if_pos hi, if_pos hi]
      by_cases hw : wd s i = 0
      · rw [if_pos hw, if_pos hw]
      · rw [if_neg hw, if_neg hw, ih g' (i + wd s i) (by omega) (by omega)]
    · rw [rightF_end hi, rightF_end hi]

theorem splitF_right (s t : ByteArray) : ∀ f j, splitF (s ++ t) f (s.size + j) = splitF t f j := by
  intro f
  induction f with
  | zero => intro j; rfl
  | succ f ih =>
    intro j
    have := stp_right s t j
    rw [splitF, splitF, app_size, this.1, this.2, Nat.add_assoc, ih]
    by_cases h : j < t.size
    · rw [if_pos h, if_pos (by omega)]
    · rw [if_neg h, if_neg (by omega)]
theorem rightF_right (s t : ByteArray) : ∀ f j, rightF (s ++ t) f (s.size + j) = if 0 ≤ rightF t f j then rightF t f j + s.size else -1 := by
  intro f
  induction f with
  | zero => intro j; rfl
  | succ f ih =>
    intro j
    have := wd_right s t j
    rw [rightF, rightF, app_size, this.1, Nat.add_assoc, ih]
    by_cases h : j < t.size
    · rw [if_pos h, if_pos (by omega)]
      by_cases hw : wd t j = 0
      · rw [if_pos hw, if_pos hw, if_pos (by omega)]; omega
      · rw [if_neg hw, if_neg hw]
    · rw [if_neg h, if_neg (by omega)]; rfl
theorem rightF_low (s : ByteArray) : ∀ f i, -1 ≤ rightF s f i := by
  intro f
  induction f with
  | zero => intro i; exact Int.le_refl _
  | succ f ih =>
    intro i
    rw [rightF]
    split
    · split
      · omega
      · exact ih _
    · exact Int.le_refl _

theorem rightF_high (s : ByteArray) : ∀ f i, rightF s f i ≤ s.size := by
  intro f
  induction f with
  | zero => intro i; show (-1 : Int) ≤ _; omega
  | succ f ih =>
    intro i
    rw [rightF]
    split
    · split
      · omega
      · exact ih _
    · omega

/-- THE LAW. -/
theorem parts (s t : ByteArray) : ∀ f i, i ≤ s.size → s.size ≤ i + f → rightF s f i < 0 → ∀ g, s.size + t.size ≤ i + g →
    splitF (s ++ t) g i = splitF s f i ++ splitP t ∧ rightF (s ++ t) g i = if 0 ≤ rightP t then rightP t + s.size else -1 := by
  intro f
  induction f with
  | zero =>
    intro i hi hf _ g hg
    obtain rfl : i = s.size := by omega
    have h1 := splitF_right s t g 0
    have h2 := rightF_right s t g 0
    rw [Nat.add_zero] at h1 h2
    rw [h1, h2, splitF_fuel t g t.size 0 (by omega) (by omega), rightF_fuel t g t.size 0 (by omega) (by omega)]
    exact ⟨rfl, rfl⟩
  | succ f ih =>
    intro i hi hf hr g hg
    by_cases h : i < s.size
    · rw [rightF, if_pos h] at hr
      by_cases hw : wd s i = 0
      · rw [if_pos hw] at hr; omega
      · rw [if_neg hw] at hr
        have hs : stp s i = wd s i := by unfold stp; rw [if_neg hw]
        have hin := wd_in s i h
        rw [hs] at hin
        have hl := wd_left s t i h hw
        obtain ⟨g', rfl⟩ : ∃ g', g = g' + 1 := ⟨g - 1, by omega⟩
        have hI := ih (i + wd s i) hin (by omega) hr g' (by omega)
        have hsz : i < (s ++ t).size := by rw [app_size]; omega
        have hs2 : stp (s ++ t) i = wd s i := by unfold stp; rw [hl.1, if_neg hw]
        have hr2 : rn (s ++ t) i = rn s i := by unfold rn; rw [hl.1, hl.2]
        rw [splitF, if_pos hsz, rightF, if_pos hsz, hl.1, if_neg hw, hs2, hr2, hI.1, hI.2, splitF, if_pos h, hs]
        exact ⟨rfl, rfl⟩
    · obtain rfl : i = s.size := by omega
      have h1 := splitF_right s t g 0
      have h2 := rightF_right s t g 0
      rw [Nat.add_zero] at h1 h2
      rw [h1, h2, splitF_fuel t g t.size 0 (by omega) (by omega), rightF_fuel t g t.size 0 (by omega) (by omega), splitF_end h]
      exact ⟨rfl, rfl⟩
theorem parts_split (s t : ByteArray) (h : rightP s < 0) : splitP (s ++ t) = splitP s ++ splitP t :=
  (parts s t s.size 0 (by omega) (by omega) h (s ++ t).size (by rw [app_size]; omega)).1
theorem parts_right (s t : ByteArray) (h : rightP s < 0) : rightP (s ++ t) = if 0 ≤ rightP t then rightP t + s.size else -1 :=
  (parts s t s.size 0 (by omega) (by omega) h (s ++ t).size (by rw [app_size]; omega)).2
end Go.Proofs.Ytiedmlpeeebeeaa
