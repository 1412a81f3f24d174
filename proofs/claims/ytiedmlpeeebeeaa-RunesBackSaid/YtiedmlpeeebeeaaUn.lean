/-
  Plain laws: what Unquote answers. No program in sight. Conditions: none.
-/
import Derived.Test.YtiedmlpeeebeeaaQuo
namespace Go.Proofs.Ytiedmlpeeebeeaa
open Go.RowKit
set_option linter.unusedSimpArgs false
set_option linter.unusedVariables false

/-- A digit's number; 16: it is none. -/
def num (c : Nat) : Nat := if 48 ≤ c ∧ c ≤ 57 then c - 48 else if 97 ≤ c ∧ c ≤ 102 then c - 87 else 16
theorem num_le (c : Nat) : num c ≤ 16 := by unfold num; split <;> (try split) <;> omega
theorem num_hx : ∀ n : Fin 16, num (hx n.val).toNat = n.val := by decide
theorem index_num : ∀ c : Fin 256, Lib.indexByte [48, 49, 50, 51, 52, 53, 54, 55, 56, 57, 97, 98, 99, 100, 101, 102] (UInt8.ofNat c.val) = if num c.val < 16 then (num c.val : Int) else -1 := by decide +kernel

/-- What stands behind a backslash: the byte, and how many are read; 0: it may not stand there. -/
def trn (t : ByteArray) (j : Nat) : Nat × Nat :=
  if j < t.size ∧ (bt t j = 34 ∨ bt t j = 92) then (bt t j, 1)
  else if j + 2 < t.size ∧ bt t j = 120 ∧ num (bt t (j + 1)) < 16 ∧ num (bt t (j + 2)) < 16 then (num (bt t (j + 1)) * 16 + num (bt t (j + 2)), 3) else (0, 0)
/-- What stands at a place between quotes: the byte, and how many are read; 0: it may not stand there. -/
def ust (t : ByteArray) (i : Nat) : Nat × Nat :=
  if bt t i = 34 ∨ bt t i < 32 ∨ bt t i = 127 then (0, 0)
  else if bt t i ≠ 92 then (bt t i, 1)
  else if (trn t (i + 1)).2 = 0 then (0, 0) else ((trn t (i + 1)).1, (trn t (i + 1)).2 + 1)
def unqF (t : ByteArray) : Nat → Nat → Option (List UInt8)
  | 0, _ => some []
  | f + 1, i => if t.size ≤ i then some [] else if (ust t i).2 = 0 then none else (unqF t f (i + (ust t i).2)).map (UInt8.ofNat (ust t i).1 :: ·)
/-- A text has quotes at its ends, and is right. -/
def framed (s : ByteArray) : Prop := 2 ≤ s.size ∧ bt s 0 = 34 ∧ bt s (s.size - 1) = 34 ∧ rightP s < 0
instance (s : ByteArray) : Decidable (framed s) := by unfold framed; infer_instance
/-- What stands between quotes, if it is so. -/
def unqP (s : ByteArray) : Option (List UInt8) :=
  if framed s then unqF (s.extract 1 (s.size - 1)) (s.size - 2) 0 else none

theorem trn_lt (t : ByteArray) (j : Nat) : (trn t j).1 < 256 := by
  have h0 := bt_lt t j
  unfold trn
  split
  · exact h0
  · split
    · show num (bt t (j + 1)) * 16 + num (bt t (j + 2)) < 256
      omega
    · show (0 : Nat) < 256
      omega
theorem trn_in (t : ByteArray) (j : Nat) : (trn t j).2 ≤ 3 ∧ ((trn t j).2 ≠ 0 → j + (trn t j).2 ≤ t.size) := by
  unfold trn
  split
  · exact ⟨by show 1 ≤ 3; omega, fun _ => by show j + 1 ≤ t.size; omega⟩
  · split
    · exact ⟨by show 3 ≤ 3; omega, fun _ => by show j + 3 ≤ t.size; omega⟩
    · exact ⟨by show 0 ≤ 3; omega, fun h => absurd rfl h⟩
theorem ust_lt (t : ByteArray) (i : Nat) : (ust t i).1 < 256 := by
  have h0 := bt_lt t i
  have h1 := trn_lt t (i + 1)
  unfold ust
  split
  · show (0 : Nat) < 256
    omega
  · split
    · exact h0
    · split
      · show (0 : Nat) < 256
        omega
      · exact h1
theorem ust_in (t : ByteArray) (i : Nat) (h : i < t.size) : i + (ust t i).2 ≤ t.size ∧ (ust t i).2 ≤ 4 := by
  have h1 := trn_in t (i + 1)
  unfold ust
  split
  · exact ⟨by show i + 0 ≤ t.size; omega, by show 0 ≤ 4; omega⟩
  · split
    · exact ⟨by show i + 1 ≤ t.size; omega, by show 1 ≤ 4; omega⟩
    · split
      · exact ⟨by show i + 0 ≤ t.size; omega, by show 0 ≤ 4; omega⟩
      · rename_i h3
        have := h1.2 h3
        exact ⟨by show i + ((trn t (i + 1)).2 + 1) ≤ t.size; omega, by show (trn t (i + 1)).2 + 1 ≤ 4; omega⟩
theorem unqF_end {t : ByteArray} {i : Nat} (h : t.size ≤ i) (f : Nat) : unqF t f i = some [] := by
  cases f with
  | zero => rfl
  | succ f => simp [unqF, h]
theorem unqF_none {t : ByteArray} {i : Nat} (h : i < t.size) (hu : (ust t i).2 = 0) (f : Nat) : unqF t (f + 1) i = none := by
  rw [unqF, if_neg (by omega), if_pos hu]
theorem unqF_some {t : ByteArray} {i : Nat} (h : i < t.size) (hu : (ust t i).2 ≠ 0) (f : Nat) : unqF t (f + 1) i = (unqF t f (i + (ust t i).2)).map (UInt8.ofNat (ust t i).1 :: ·) := by
  rw [unqF, if_neg (by omega), if_neg hu]
/-- Where a reading stands: what is read, and what is behind it, are the answer. -/
def Reads (t : ByteArray) (A : Option (List UInt8)) (acc : List UInt8) (f i : Nat) : Prop := (unqF t f i).map (acc ++ ·) = A
theorem reads_start (t : ByteArray) (f : Nat) : Reads t (unqF t f 0) [] f 0 := by
  unfold Reads
  simp
theorem reads_end {t : ByteArray} {A : Option (List UInt8)} {acc : List UInt8} {f i : Nat} (h : Reads t A acc f i) (hi : t.size ≤ i) : A = some acc := by
  unfold Reads at h
  rw [unqF_end hi] at h
  rw [← h]; simp
theorem reads_none {t : ByteArray} {A : Option (List UInt8)} {acc : List UInt8} {f i : Nat} (h : Reads t A acc (f + 1) i) (hi : i < t.size) (hu : (ust t i).2 = 0) : A = none := by
  unfold Reads at h
  rw [unqF_none hi hu] at h
  rw [← h]; rfl
theorem reads_some {t : ByteArray} {A : Option (List UInt8)} {acc : List UInt8} {f i : Nat} (h : Reads t A acc (f + 1) i) (hi : i < t.size) (hu : (ust t i).2 ≠ 0) : Reads t A (acc ++ [UInt8.ofNat (ust t i).1]) f (i + (ust t i).2) := by
  unfold Reads at h ⊢
  rw [unqF_some hi hu] at h
  rw [← h, Option.map_map]
  congr 1
  funext l
  simp
theorem u8_byte {b : Nat} (h : b < 256) : ((UInt8.ofNat b).toNat : Int) = (b : Int) := by
  rw [UInt8.toNat_ofNat']; omega

/-! The cases of a step, as the walks part them. -/
theorem ust_bad {t : ByteArray} {i : Nat} (h : bt t i = 34 ∨ bt t i < 32 ∨ bt t i = 127) : (ust t i).2 = 0 := by
  unfold ust; rw [if_pos h]
theorem ust_plain {t : ByteArray} {i : Nat} (h : ¬ (bt t i = 34 ∨ bt t i < 32 ∨ bt t i = 127)) (h2 : bt t i ≠ 92) : ust t i = (bt t i, 1) := by
  unfold ust; rw [if_neg h, if_pos h2]
theorem ust_mark {t : ByteArray} {i : Nat} (h2 : bt t i = 92) : ust t i = if (trn t (i + 1)).2 = 0 then (0, 0) else ((trn t (i + 1)).1, (trn t (i + 1)).2 + 1) := by
  unfold ust; rw [if_neg (by omega), if_neg (by omega)]
theorem trn_one {t : ByteArray} {j : Nat} (h : j < t.size) (h2 : bt t j = 34 ∨ bt t j = 92) : trn t j = (bt t j, 1) := by
  unfold trn; rw [if_pos ⟨h, h2⟩]
theorem trn_three {t : ByteArray} {j : Nat} (h : j + 2 < t.size) (h2 : bt t j = 120) (h3 : num (bt t (j + 1)) < 16) (h4 : num (bt t (j + 2)) < 16) : trn t j = (num (bt t (j + 1)) * 16 + num (bt t (j + 2)), 3) := by
  unfold trn; rw [if_neg (by omega), if_pos ⟨h, h2, h3, h4⟩]
theorem trn_none {t : ByteArray} {j : Nat} (h : ¬ (j < t.size ∧ (bt t j = 34 ∨ bt t j = 92))) (h2 : ¬ (j + 2 < t.size ∧ bt t j = 120 ∧ num (bt t (j + 1)) < 16 ∧ num (bt t (j + 2)) < 16)) : trn t j = (0, 0) := by
  unfold trn; rw [if_neg h, if_neg h2]
/-- What a text's end begins with is what stands at its place. -/
theorem ext_size (t : ByteArray) (a b : Nat) (h : b ≤ t.size) : (t.extract a b).size = b - a := by
  rw [ByteArray.size_extract]; omega
theorem ext_bt (t : ByteArray) (a b i : Nat) (h : b ≤ t.size) (hi : i < b - a) : bt (t.extract a b) i = bt t (a + i) := by
  have := cut_bt t a (b - a) i (by omega) hi
  rwa [show a + (b - a) = b by omega] at this
theorem trn_ext (t : ByteArray) (j : Nat) (h : j ≤ t.size) : trn (t.extract j t.size) 0 = trn t j := by
  have hs := ext_size t j t.size (Nat.le_refl _)
  have hb : ∀ k, j + k < t.size → bt (t.extract j t.size) k = bt t (j + k) := fun k hk => ext_bt t j t.size k (Nat.le_refl _) (by omega)
  by_cases h0 : j < t.size
  · have b0 := hb 0 (by omega)
    rw [Nat.add_zero] at b0
    by_cases h2 : j + 2 < t.size
    · have b1 := hb 1 (by omega)
      have b2 := hb 2 (by omega)
      have q0 : (0 < t.size - j) = (j < t.size) := propext ⟨fun _ => h0, fun _ => by omega⟩
      have q2 : (2 < t.size - j) = (j + 2 < t.size) := propext ⟨fun _ => h2, fun _ => by omega⟩
      unfold trn
      simp only [Nat.zero_add]
      simp only [hs, b0, b1, b2, q0, q2]
    · have q0 : (0 < t.size - j) = (j < t.size) := propext ⟨fun _ => h0, fun _ => by omega⟩
      have q2 : (2 < t.size - j) = False := propext ⟨fun _ => by omega, fun h => h.elim⟩
      have q3 : (j + 2 < t.size) = False := propext ⟨fun _ => by omega, fun h => h.elim⟩
      unfold trn
      simp only [Nat.zero_add]
      simp only [hs, b0, q0, q2, q3, false_and, if_false]
  · rw [trn_none (by omega) (by omega), trn_none (by omega) (by omega)]
end Go.Proofs.Ytiedmlpeeebeeaa
