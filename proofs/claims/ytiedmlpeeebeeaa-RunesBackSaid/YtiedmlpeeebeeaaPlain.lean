/-
  Plain laws on texts as runes: the model's decoding is the reference's width and value. No program in sight. Conditions: none.
-/
import Derived.Lib.RuneBytes
import Derived.Lib.DecodeNEq
import Derived.Lib.MapLaws
namespace Go.Proofs.Ytiedmlpeeebeeaa

/-- A byte of a text. -/
def bt (s : ByteArray) (i : Nat) : Nat := (s.get! i).toNat
theorem bt_lt (s : ByteArray) (i : Nat) : bt s i < 256 := UInt8.toNat_lt _
/-- There is a byte from one to another at a place. -/
abbrev In (s : ByteArray) (i lo hi : Nat) : Prop := i < s.size ∧ lo ≤ bt s i ∧ bt s i ≤ hi

/-- The width of the rune that stands at a place; 0: none does. -/
def wd (s : ByteArray) (i : Nat) : Nat :=
  if In s i 0 127 then 1
  else if In s i 194 223 ∧ In s (i + 1) 128 191 then 2
  else if ((In s i 224 224 ∧ In s (i + 1) 160 191) ∨ (In s i 225 236 ∧ In s (i + 1) 128 191) ∨ (In s i 237 237 ∧ In s (i + 1) 128 159) ∨ (In s i 238 239 ∧ In s (i + 1) 128 191)) ∧ In s (i + 2) 128 191 then 3
  else if ((In s i 240 240 ∧ In s (i + 1) 144 191) ∨ (In s i 241 243 ∧ In s (i + 1) 128 191) ∨ (In s i 244 244 ∧ In s (i + 1) 128 143)) ∧ In s (i + 2) 128 191 ∧ In s (i + 3) 128 191 then 4
  else 0
/-- Its value. -/
def vl (s : ByteArray) (i : Nat) : Nat :=
  if wd s i = 1 then bt s i
  else if wd s i = 2 then bt s i % 32 * 64 + bt s (i + 1) % 64
  else if wd s i = 3 then bt s i % 16 * 4096 + bt s (i + 1) % 64 * 64 + bt s (i + 2) % 64
  else bt s i % 8 * 262144 + bt s (i + 1) % 64 * 4096 + bt s (i + 2) % 64 * 64 + bt s (i + 3) % 64

theorem wd_ascii {s : ByteArray} {i : Nat} (h : i < s.size) (hb : bt s i < 128) : wd s i = 1 := by
  unfold wd
  rw [if_pos ⟨h, by omega, by omega⟩]
theorem wd_bad {s : ByteArray} {i : Nat} (hb : (128 ≤ bt s i ∧ bt s i < 194) ∨ 245 ≤ bt s i) : wd s i = 0 := by
  unfold wd In
  rw [if_neg (by omega), if_neg (by omega), if_neg (by omega), if_neg (by omega)]
theorem wd_C2 {s : ByteArray} {i : Nat} (h : i < s.size) (hb : 194 ≤ bt s i ∧ bt s i < 224) : wd s i = if In s (i + 1) 128 191 then 2 else 0 := by
  unfold wd In
  rw [if_neg (by omega)]
  split
  · rw [if_pos (by omega)]
  · rw [if_neg (by omega), if_neg (by omega), if_neg (by omega)]
theorem wd_E {s : ByteArray} {i : Nat} (h : i < s.size) (hb : 224 ≤ bt s i ∧ bt s i < 240) (lo hi : Nat) (hl : lo = if bt s i = 224 then 160 else 128) (hh : hi = if bt s i = 237 then 159 else 191) :
    wd s i = if In s (i + 1) lo hi ∧ In s (i + 2) 128 191 then 3 else 0 := by
  unfold wd In
  rw [if_neg (by omega), if_neg (by omega)]
  split at hl <;> split at hh <;> subst hl <;> subst hh
  all_goals
    split
    · rw [if_pos (by omega)]
    · rw [if_neg (by omega), if_neg (by omega)]
theorem wd_F {s : ByteArray} {i : Nat} (h : i < s.size) (hb : 240 ≤ bt s i ∧ bt s i < 245) (lo hi : Nat) (hl : lo = if bt s i = 240 then 144 else 128) (hh : hi = if bt s i = 244 then 143 else 191) :
    wd s i = if In s (i + 1) lo hi ∧ In s (i + 2) 128 191 ∧ In s (i + 3) 128 191 then 4 else 0 := by
  unfold wd In
  rw [if_neg (by omega), if_neg (by omega), if_neg (by omega)]
  split at hl <;> split at hh <;> subst hl <;> subst hh
  all_goals
    split
    · rw [if_pos (by omega)]
    · rw [if_neg (by omega)]
theorem wd_le (s : ByteArray) (i : Nat) : wd s i ≤ 4 := by
  unfold wd
  split
  · omega
  split
  · omega
  split
  · omega
  split <;> omega

theorem dec (s : ByteArray) (i : Nat) (h : i < s.size) : Utf8.decode s i = if wd s i = 0 then (65533, 1) else (vl s i, wd s i) := by
  have l0 := bt_lt s i
  have l1 := bt_lt s (i + 1)
  have l2 := bt_lt s (i + 2)
  have l3 := bt_lt s (i + 3)
  rw [Lib.decode_at]
  show Lib.decodeN (s.size - i) (bt s i) (bt s (i + 1)) (bt s (i + 2)) (bt s (i + 3)) = _
  unfold vl
  by_cases c1 : bt s i < 128
  · rw [wd_ascii h c1, Lib.decodeN_ascii _ _ _ _ _ c1]; simp
  by_cases c2 : (128 ≤ bt s i ∧ bt s i < 194) ∨ 245 ≤ bt s i
  · have hf : Lib.firstT (bt s i) = 241 := by
      unfold Lib.firstT
      rw [if_neg c1]
      by_cases q : bt s i < 194
      · rw [if_pos q]
      · rw [if_neg q, if_neg (by omega), if_neg (by omega), if_neg (by omega), if_neg (by omega), if_neg (by omega), if_neg (by omega), if_neg (by omega), if_neg (by omega)]
    rw [wd_bad c2, Lib.bad_eq _ _ _ _ _ l0 hf]; simp
  by_cases c3 : bt s i < 224
  · rw [wd_C2 h (by omega), ← Lib.slow_C2 _ _ _ _ _ (by omega) l1 l2 l3 (by omega)]
    unfold Lib.slowN
    by_cases k1 : In s (i + 1) 128 191
    · rw [if_pos k1]
      unfold In at k1
      rw [if_neg (by omega), if_neg (by omega), if_pos (by omega)]
      simp
    · rw [if_neg k1]
      unfold In at k1
      by_cases k2 : s.size - i < 2
      · rw [if_pos k2]; simp
      · rw [if_neg k2, if_pos (by omega)]; simp
  by_cases c4 : bt s i < 240
  · have key : ∀ lo hi, (lo = if bt s i = 224 then 160 else 128) → (hi = if bt s i = 237 then 159 else 191) → Lib.decodeN (s.size - i) (bt s i) (bt s (i + 1)) (bt s (i + 2)) (bt s (i + 3)) = Lib.slowN (s.size - i) (bt s i) (bt s (i + 1)) (bt s (i + 2)) (bt s (i + 3)) 3 lo hi := by
      intro lo hi hl hh
      by_cases e1 : bt s i = 224
      · rw [← Lib.slow_E0 _ _ _ _ _ (by omega) l1 l2 l3 e1]; rw [if_pos e1] at hl; rw [if_neg (by omega)] at hh; rw [hl, hh]
      · by_cases e2 : bt s i = 237
        · rw [← Lib.slow_ED _ _ _ _ _ (by omega) l1 l2 l3 e2]; rw [if_neg e1] at hl; rw [if_pos e2] at hh; rw [hl, hh]
        · rw [← Lib.slow_E1 _ _ _ _ _ (by omega) l1 l2 l3 (by omega)]; rw [if_neg e1] at hl; rw [if_neg e2] at hh; rw [hl, hh]
    rw [key _ _ rfl rfl, wd_E h (by omega) _ _ rfl rfl]
    generalize (if bt s i = 224 then 160 else 128) = lo
    generalize (if bt s i = 237 then 159 else 191) = hi
    unfold Lib.slowN
    by_cases k1 : In s (i + 1) lo hi ∧ In s (i + 2) 128 191
    · rw [if_pos k1]
      unfold In at k1
      rw [if_neg (by omega), if_neg (by omega), if_neg (by omega), if_neg (by omega), if_pos (by omega)]
      simp
    · rw [if_neg k1]
      unfold In at k1
      by_cases k2 : s.size - i < 3
      · rw [if_pos k2]; simp
      · rw [if_neg k2]
        by_cases k3 : bt s (i + 1) < lo ∨ hi < bt s (i + 1)
        · rw [if_pos k3]; simp
        · rw [if_neg k3, if_neg (by omega), if_pos (by omega)]; simp
  · have key : ∀ lo hi, (lo = if bt s i = 240 then 144 else 128) → (hi = if bt s i = 244 then 143 else 191) → Lib.decodeN (s.size - i) (bt s i) (bt s (i + 1)) (bt s (i + 2)) (bt s (i + 3)) = Lib.slowN (s.size - i) (bt s i) (bt s (i + 1)) (bt s (i + 2)) (bt s (i + 3)) 4 lo hi := by
      intro lo hi hl hh
      by_cases e1 : bt s i = 240
      · rw [← Lib.slow_F0 _ _ _ _ _ (by omega) l1 l2 l3 e1]; rw [if_pos e1] at hl; rw [if_neg (by omega)] at hh; rw [hl, hh]
      · by_cases e2 : bt s i = 244
        · rw [← Lib.slow_F4 _ _ _ _ _ (by omega) l1 l2 l3 e2]; rw [if_neg e1] at hl; rw [if_pos e2] at hh; rw [hl, hh]
        · rw [← Lib.slow_F1 _ _ _ _ _ (by omega) l1 l2 l3 (by omega)]; rw [if_neg e1] at hl; rw [if_neg e2] at hh; rw [hl, hh]
    rw [key _ _ rfl rfl, wd_F h (by omega) _ _ rfl rfl]
    generalize (if bt s i = 240 then 144 else 128) = lo
    generalize (if bt s i = 244 then 143 else 191) = hi
    unfold Lib.slowN
    by_cases k1 : In s (i + 1) lo hi ∧ In s (i + 2) 128 191 ∧ In s (i + 3) 128 191
    · rw [if_pos k1]
      unfold In at k1
      rw [if_neg (by omega), if_neg (by omega), if_neg (by omega), if_neg (by omega), if_neg (by omega), if_neg (by omega)]
      simp
    · rw [if_neg k1]
      unfold In at k1
      by_cases k2 : s.size - i < 4
      · rw [if_pos k2]; simp
      · rw [if_neg k2]
        by_cases k3 : bt s (i + 1) < lo ∨ hi < bt s (i + 1)
        · rw [if_pos k3]; simp
        · rw [if_neg k3, if_neg (by omega)]
          by_cases k4 : bt s (i + 2) < 128 ∨ 191 < bt s (i + 2)
          · rw [if_pos k4]; simp
          · rw [if_neg k4, if_neg (by omega), if_pos (by omega)]; simp

/-- How far a range steps. -/
def stp (s : ByteArray) (i : Nat) : Nat := if wd s i = 0 then 1 else wd s i
/-- Which rune a range meets. -/
def rn (s : ByteArray) (i : Nat) : Nat := if wd s i = 0 then 65533 else vl s i
theorem dec1 {s : ByteArray} {i : Nat} (h : i < s.size) : (Utf8.decode s i).1 = rn s i := by
  rw [dec s i h]; unfold rn; split <;> rfl
theorem dec2 {s : ByteArray} {i : Nat} (h : i < s.size) : (Utf8.decode s i).2 = stp s i := by
  rw [dec s i h]; unfold stp; split <;> rfl
theorem stp_pos (s : ByteArray) (i : Nat) : 1 ≤ stp s i ∧ stp s i ≤ 4 := by
  have := wd_le s i
  unfold stp; split <;> omega

/-- What is known of the bytes of a rune that stands. -/
theorem wd_cases (s : ByteArray) (i : Nat) (h : i < s.size) :
    (wd s i = 0) ∨ (wd s i = 1 ∧ bt s i < 128) ∨
    (wd s i = 2 ∧ 194 ≤ bt s i ∧ bt s i < 224 ∧ i + 1 < s.size ∧ 128 ≤ bt s (i + 1) ∧ bt s (i + 1) ≤ 191) ∨
    (wd s i = 3 ∧ 224 ≤ bt s i ∧ bt s i < 240 ∧ i + 2 < s.size ∧ 128 ≤ bt s (i + 1) ∧ bt s (i + 1) ≤ 191 ∧ (bt s i = 224 → 160 ≤ bt s (i + 1)) ∧ (bt s i = 237 → bt s (i + 1) ≤ 159) ∧ 128 ≤ bt s (i + 2) ∧ bt s (i + 2) ≤ 191) ∨
    (wd s i = 4 ∧ 240 ≤ bt s i ∧ bt s i < 245 ∧ i + 3 < s.size ∧ 128 ≤ bt s (i + 1) ∧ bt s (i + 1) ≤ 191 ∧ (bt s i = 240 → 144 ≤ bt s (i + 1)) ∧ (bt s i = 244 → bt s (i + 1) ≤ 143) ∧ 128 ≤ bt s (i + 2) ∧ bt s (i + 2) ≤ 191 ∧ 128 ≤ bt s (i + 3) ∧ bt s (i + 3) ≤ 191) := by
  by_cases c1 : bt s i < 128
  · exact .inr (.inl ⟨wd_ascii h c1, c1⟩)
  by_cases c2 : (128 ≤ bt s i ∧ bt s i < 194) ∨ 245 ≤ bt s i
  · exact .inl (wd_bad c2)
  by_cases c3 : bt s i < 224
  · have e := wd_C2 h (show 194 ≤ bt s i ∧ bt s i < 224 by omega)
    by_cases k1 : In s (i + 1) 128 191
    · rw [if_pos k1] at e; unfold In at k1; exact .inr (.inr (.inl ⟨e, by omega⟩))
    · rw [if_neg k1] at e; exact .inl e
  by_cases c4 : bt s i < 240
  · have e := wd_E h (show 224 ≤ bt s i ∧ bt s i < 240 by omega) _ _ rfl rfl
    by_cases k1 : In s (i + 1) (if bt s i = 224 then 160 else 128) (if bt s i = 237 then 159 else 191) ∧ In s (i + 2) 128 191
    · rw [if_pos k1] at e; unfold In at k1
      exact .inr (.inr (.inr (.inl ⟨e, by omega, by omega, by omega, by split at k1 <;> omega, by split at k1 <;> split at k1 <;> omega, fun h => by rw [if_pos h] at k1; omega, fun h => by rw [if_pos h] at k1; omega, by omega, by omega⟩)))
    · rw [if_neg k1] at e; exact .inl e
  · have e := wd_F h (show 240 ≤ bt s i ∧ bt s i < 245 by omega) _ _ rfl rfl
    by_cases k1 : In s (i + 1) (if bt s i = 240 then 144 else 128) (if bt s i = 244 then 143 else 191) ∧ In s (i + 2) 128 191 ∧ In s (i + 3) 128 191
    · rw [if_pos k1] at e; unfold In at k1
      exact .inr (.inr (.inr (.inr ⟨e, by omega, by omega, by omega, by split at k1 <;> omega, by split at k1 <;> split at k1 <;> omega, fun h => by rw [if_pos h] at k1; omega, fun h => by rw [if_pos h] at k1; omega, by omega, by omega, by omega, by omega⟩)))
    · rw [if_neg k1] at e; exact .inl e
/-- A rune that stands, stands within. -/
theorem wd_in (s : ByteArray) (i : Nat) (h : i < s.size) : i + stp s i ≤ s.size := by
  unfold stp
  rcases wd_cases s i h with h' | h' | h' | h' | h' <;> split <;> omega

/-! ### What the functions answer -/
/-- The first place at which none stands. -/
def rightF (s : ByteArray) : Nat → Nat → Int
  | 0, _ => -1
  | f + 1, i => if i < s.size then (if wd s i = 0 then (i : Int) else rightF s f (i + wd s i)) else -1
def rightP (s : ByteArray) : Int := rightF s s.size 0
/-- The runes. -/
def splitF (s : ByteArray) : Nat → Nat → List Int
  | 0, _ => []
  | f + 1, i => if i < s.size then (rn s i : Int) :: splitF s f (i + stp s i) else []
def splitP (s : ByteArray) : List Int := splitF s s.size 0
theorem rightF_end {s : ByteArray} {i : Nat} (h : ¬ i < s.size) (f : Nat) : rightF s f i = -1 := by
  cases f with
  | zero => rfl
  | succ f => simp [rightF, h]
theorem splitF_end {s : ByteArray} {i : Nat} (h : ¬ i < s.size) (f : Nat) : splitF s f i = [] := by
  cases f with
  | zero => rfl
  | succ f => simp [splitF, h]
end Go.Proofs.Ytiedmlpeeebeeaa
