/-
  Plain laws: the bytes of a rune that stands; what value reckons of them; when the mark of a fault stands. No program in sight. Conditions: none.
-/
import Derived.Test.YtiedmlpeeebeeaaVal
namespace Go.Proofs.Ytiedmlpeeebeeaa
open Go.RowKit

theorem getD_bt (s : ByteArray) (i : Nat) : (s.data.toList.getD i 0).toNat = bt s i := by
  unfold bt
  rw [Lib.getD_get!']
theorem bt_list (l : List UInt8) (i : Nat) : bt ⟨l.toArray⟩ i = (l.getD i 0).toNat := by
  rw [← getD_bt]
theorem size_list (l : List UInt8) : (⟨l.toArray⟩ : ByteArray).size = l.length := by simp [ByteArray.size]
theorem cut_size (s : ByteArray) (i n : Nat) (h : i + n ≤ s.size) : (s.extract i (i + n)).size = n := by
  rw [ByteArray.size_extract]; omega
theorem cut_bt (s : ByteArray) (i n k : Nat) (h : i + n ≤ s.size) (hk : k < n) : bt (s.extract i (i + n)) k = bt s (i + k) := by
  rw [← getD_bt, ← getD_bt]
  have : (s.extract i (i + n)).data.toList = (s.data.toList.drop i).take n := by
    rw [Lib.extract_data, Nat.add_sub_cancel_left]
  rw [this]
  simp [List.getD, hk]

/-- What the reference's value reckons of a rune that stands. -/
theorem ac_vl (s : ByteArray) (i : Nat) (h : i < s.size) :
    (wd s i = 1 → ac (s.extract i (i + 1)) 0 1 = vl s i) ∧ (wd s i = 2 → ac (s.extract i (i + 2)) 192 2 = vl s i) ∧
    (wd s i = 3 → ac (s.extract i (i + 3)) 224 3 = vl s i) ∧ (wd s i = 4 → ac (s.extract i (i + 4)) 240 4 = vl s i) := by
  have hc := wd_cases s i h
  refine ⟨fun e => ?_, fun e => ?_, fun e => ?_, fun e => ?_⟩
  · have c0 := cut_bt s i 1 0 (by omega) (by omega)
    simp only [Nat.add_zero] at c0
    rw [ac_1, c0]
    unfold vl
    rw [if_pos e]
    omega
  · have c0 := cut_bt s i 2 0 (by omega) (by omega)
    have c1 := cut_bt s i 2 1 (by omega) (by omega)
    simp only [Nat.add_zero] at c0
    rw [ac_succ _ _ 1 (by omega), ac_1, c0, c1]
    unfold vl
    rw [if_neg (by omega), if_pos e]
    omega
  · have c0 := cut_bt s i 3 0 (by omega) (by omega)
    have c1 := cut_bt s i 3 1 (by omega) (by omega)
    have c2 := cut_bt s i 3 2 (by omega) (by omega)
    simp only [Nat.add_zero] at c0
    rw [ac_succ _ _ 2 (by omega), ac_succ _ _ 1 (by omega), ac_1, c0, c1, c2]
    unfold vl
    rw [if_neg (by omega), if_neg (by omega), if_pos e]
    omega
  · have c0 := cut_bt s i 4 0 (by omega) (by omega)
    have c1 := cut_bt s i 4 1 (by omega) (by omega)
    have c2 := cut_bt s i 4 2 (by omega) (by omega)
    have c3 := cut_bt s i 4 3 (by omega) (by omega)
    simp only [Nat.add_zero] at c0
    rw [ac_succ _ _ 3 (by omega), ac_succ _ _ 2 (by omega), ac_succ _ _ 1 (by omega), ac_1, c0, c1, c2, c3]
    unfold vl
    rw [if_neg (by omega), if_neg (by omega), if_neg (by omega)]
    omega

/-- A rune's number. -/
theorem vl_bnd (s : ByteArray) (i : Nat) (h : i < s.size) (hw : wd s i ≠ 0) :
    (wd s i = 1 ∧ vl s i = bt s i ∧ vl s i < 128) ∨ (wd s i = 2 ∧ 128 ≤ vl s i ∧ vl s i < 2048) ∨
    (wd s i = 3 ∧ 2048 ≤ vl s i ∧ vl s i < 65536 ∧ (vl s i < 55296 ∨ 57343 < vl s i)) ∨ (wd s i = 4 ∧ 65536 ≤ vl s i ∧ vl s i ≤ 1114111) := by
  rcases wd_cases s i h with e | ⟨e, c⟩ | ⟨e, c⟩ | ⟨e, c⟩ | ⟨e, c⟩
  · exact absurd e hw
  · left; unfold vl; rw [if_pos e]; omega
  · right; left; unfold vl; rw [if_neg (by omega), if_pos e]; omega
  · right; right; left; unfold vl; rw [if_neg (by omega), if_neg (by omega), if_pos e]; omega
  · right; right; right; unfold vl; rw [if_neg (by omega), if_neg (by omega), if_neg (by omega)]; omega

/-- The number that a fault is told by stands just as its three bytes. -/
theorem fault (s : ByteArray) (i : Nat) (h : i < s.size) (hr : rn s i = 65533) :
    (wd s i ≠ 0 ↔ (i + 2 < s.size ∧ bt s i = 239 ∧ bt s (i + 1) = 191 ∧ bt s (i + 2) = 189)) := by
  constructor
  · intro hw
    unfold rn at hr
    rw [if_neg hw] at hr
    rcases wd_cases s i h with e | ⟨e, c⟩ | ⟨e, c⟩ | ⟨e, c⟩ | ⟨e, c⟩
    · exact absurd e hw
    · unfold vl at hr; rw [if_pos e] at hr; omega
    · unfold vl at hr; rw [if_neg (by omega), if_pos e] at hr; omega
    · unfold vl at hr; rw [if_neg (by omega), if_neg (by omega), if_pos e] at hr; omega
    · unfold vl at hr; rw [if_neg (by omega), if_neg (by omega), if_neg (by omega)] at hr; omega
  · rintro ⟨h2, b0, b1, b2⟩
    have := wd_E h (show 224 ≤ bt s i ∧ bt s i < 240 by omega) 128 191 (by rw [if_neg (by omega)]) (by rw [if_neg (by omega)])
    rw [if_pos (by unfold In; omega)] at this
    omega
theorem prefix3 (l : List UInt8) (i : Nat) (a b c : UInt8) : ([a, b, c].isPrefixOf (l.drop i) = true) ↔ (i + 2 < l.length ∧ l.getD i 0 = a ∧ l.getD (i + 1) 0 = b ∧ l.getD (i + 2) 0 = c) := by
  rw [List.isPrefixOf_iff_prefix, List.prefix_iff_eq_take]
  by_cases h : i + 2 < l.length
  · have e : (l.drop i).take 3 = [l.getD i 0, l.getD (i + 1) 0, l.getD (i + 2) 0] := by
      have := Lib.takeC (l.drop i) (by rw [List.length_drop]; omega)
      rw [this, Lib.getD_dropU, Lib.getD_dropU, Lib.getD_dropU, Nat.add_zero]
    show [a, b, c] = (l.drop i).take 3 ↔ _
    rw [e]
    simp [h, eq_comm]
  · constructor
    · intro e
      have := congrArg List.length e
      simp at this
      omega
    · rintro ⟨h', _⟩; exact absurd h' h
end Go.Proofs.Ytiedmlpeeebeeaa
