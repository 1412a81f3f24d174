/-
  Plain arithmetic for chapter 10: the word behind a word is told apart by the word (nx_inj), a height is told by the 1s at the word's end (ht_ones), and how many words below a power of two are higher than m (many_pow). Conditions: words below 2^32. No program in sight.
-/
import Derived.Lib.TrailingZeros
namespace Go.Proofs.YtfbicbcfdgklkaaDoor.Plain

/-- The word behind x. -/
def nx1 (x : Nat) : Nat := x ^^^ (x * 8192 % 4294967296)
def nx2 (x : Nat) : Nat := x ^^^ (x / 131072)
def nx3 (x : Nat) : Nat := x ^^^ (x * 32 % 4294967296)
def nx (x : Nat) : Nat := nx3 (nx2 (nx1 x))

theorem nx1_lt (x : Nat) (h : x < 4294967296) : nx1 x < 4294967296 :=
  Nat.xor_lt_two_pow (n := 32) h (Nat.mod_lt _ (by decide))
theorem nx2_lt (x : Nat) (h : x < 4294967296) : nx2 x < 4294967296 :=
  Nat.xor_lt_two_pow (n := 32) h (by omega)
theorem nx3_lt (x : Nat) (h : x < 4294967296) : nx3 x < 4294967296 :=
  Nat.xor_lt_two_pow (n := 32) h (Nat.mod_lt _ (by decide))
theorem nx_lt (x : Nat) (h : x < 4294967296) : nx x < 4294967296 :=
  nx3_lt _ (nx2_lt _ (nx1_lt _ h))

theorem bit_left (x k i : Nat) (hi : i < 32) : (x ^^^ (x * 2 ^ k % 2 ^ 32)).testBit i = (x.testBit i ^^ (decide (k ≤ i) && x.testBit (i - k))) := by
  rw [Nat.testBit_xor, Nat.testBit_mod_two_pow, ← Nat.shiftLeft_eq, Nat.testBit_shiftLeft]
  simp [hi]
theorem bit_right (x k i : Nat) : (x ^^^ (x / 2 ^ k)).testBit i = (x.testBit i ^^ x.testBit (i + k)) := by
  rw [Nat.testBit_xor, ← Nat.shiftRight_eq_div_pow, Nat.testBit_shiftRight, Nat.add_comm]

theorem eq_of_bits (x y : Nat) (hx : x < 2 ^ 32) (hy : y < 2 ^ 32) (h : ∀ i, i < 32 → x.testBit i = y.testBit i) : x = y := by
  apply Nat.eq_of_testBit_eq
  intro i
  by_cases hi : i < 32
  · exact h i hi
  · have e : 2 ^ 32 ≤ 2 ^ i := Nat.pow_le_pow_right (by decide) (by omega)
    rw [Nat.testBit_lt_two_pow (Nat.lt_of_lt_of_le hx e), Nat.testBit_lt_two_pow (Nat.lt_of_lt_of_le hy e)]

theorem left_inj (k x y : Nat) (hk : 0 < k) (hx : x < 2 ^ 32) (hy : y < 2 ^ 32) (h : x ^^^ (x * 2 ^ k % 2 ^ 32) = y ^^^ (y * 2 ^ k % 2 ^ 32)) : x = y := by
  apply eq_of_bits x y hx hy
  intro i
  induction i using Nat.strongRecOn with
  | ind i ih =>
    intro hi
    have e := congrArg (fun n => n.testBit i) h
    simp only [bit_left _ _ _ hi] at e
    by_cases c : k ≤ i
    · have := ih (i - k) (by omega) (by omega)
      rw [this] at e
      simpa using e
    · simpa [c] using e

theorem high_bit (x i : Nat) (hx : x < 2 ^ 32) (hi : 32 ≤ i) : x.testBit i = false :=
  Nat.testBit_lt_two_pow (Nat.lt_of_lt_of_le hx (Nat.pow_le_pow_right (by decide) hi))

theorem right_inj (k x y : Nat) (hk : 0 < k) (hx : x < 2 ^ 32) (hy : y < 2 ^ 32) (h : x ^^^ (x / 2 ^ k) = y ^^^ (y / 2 ^ k)) : x = y := by
  apply eq_of_bits x y hx hy
  have key : ∀ j i, 32 ≤ i + j → x.testBit i = y.testBit i := by
    intro j
    induction j with
    | zero => intro i hi; rw [high_bit x i hx hi, high_bit y i hy hi]
    | succ j ih =>
      intro i hi
      have e := congrArg (fun n => n.testBit i) h
      simp only [bit_right] at e
      rw [ih (i + k) (by omega)] at e
      simpa using e
  intro i _
  exact key 32 i (by omega)

theorem nx_inj (x y : Nat) (hx : x < 4294967296) (hy : y < 4294967296) (h : nx x = nx y) : x = y := by
  have h3 := left_inj 5 _ _ (by decide) (nx2_lt _ (nx1_lt _ hx)) (nx2_lt _ (nx1_lt _ hy)) h
  have h2 := right_inj 17 _ _ (by decide) (nx1_lt _ hx) (nx1_lt _ hy) h3
  exact left_inj 13 _ _ (by decide) hx hy h2

theorem nx_zero : nx 0 = 0 := by decide
theorem nx_one : nx 1 = 270369 := by decide

/-- How many 1s stand at the end (of n bits at most). -/
def ones : Nat → Nat → Nat
  | 0, _ => 0
  | f + 1, x => if x % 2 = 1 then 1 + ones f (x / 2) else 0

theorem ctz_from (n x : Nat) : Lib.ctz n x = Lib.ctzFrom n x := by
  unfold Lib.ctz
  split
  · next h =>
    subst h
    induction n with
    | zero => rfl
    | succ n ih => show n + 1 = 1 + Lib.ctzFrom n 0; rw [← ih]; omega
  · rfl

theorem ctz_not : ∀ (n x : Nat), x < 2 ^ n → Lib.ctzFrom n (2 ^ n - 1 - x) = ones n x
  | 0, _, _ => rfl
  | n + 1, x, h => by
    have e : 2 ^ (n + 1) = 2 * 2 ^ n := by rw [Nat.pow_succ]; omega
    unfold Lib.ctzFrom ones
    have ih := ctz_not n (x / 2) (by omega)
    by_cases c : x % 2 = 1
    · rw [if_neg (by omega), if_pos c, show (2 ^ (n + 1) - 1 - x) / 2 = 2 ^ n - 1 - x / 2 from by omega, ih]
    · rw [if_pos (by omega), if_neg c]

/-- The height of a word, with so many levels. -/
def clamp (l : Int) : Int := min (max l 1) 24
def ht (x : Nat) (l : Int) : Int := min (1 + (Lib.ctz 32 (4294967295 - x) : Int)) (clamp l)

theorem ht_ones (x : Nat) (l : Int) (h : x < 4294967296) : ht x l = min (1 + (ones 32 x : Int)) (clamp l) := by
  unfold ht
  rw [ctz_from, show 4294967295 - x = 2 ^ 32 - 1 - x from by rfl, ctz_not 32 x h]

/-- 1s at the end: m of them at least, just if the number is 2^m - 1 modulo 2^m. -/
theorem ones_ge : ∀ (f m x : Nat), m ≤ f → (m ≤ ones f x ↔ x % 2 ^ m = 2 ^ m - 1)
  | 0, m, x, h => by
    obtain rfl : m = 0 := by omega
    simp [Nat.mod_one]
  | f + 1, 0, x, _ => by simp [Nat.mod_one]
  | f + 1, m + 1, x, h => by
    have ih := ones_ge f m (x / 2) (by omega)
    have e : 2 ^ (m + 1) = 2 * 2 ^ m := by rw [Nat.pow_succ]; omega
    have hp : 0 < 2 ^ m := Nat.pow_pos (by decide)
    have hm : x % 2 ^ (m + 1) = 2 * (x / 2 % 2 ^ m) + x % 2 := by rw [e, Nat.mod_mul]; omega
    unfold ones
    by_cases c : x % 2 = 1
    · rw [if_pos c, hm]
      have hl : x / 2 % 2 ^ m < 2 ^ m := Nat.mod_lt _ hp
      constructor
      · intro h; have := ih.1 (by omega); omega
      · intro h; have := ih.2 (by omega); omega
    · rw [if_neg c, hm]
      omega

theorem ones_le : ∀ (f x : Nat), ones f x ≤ f
  | 0, _ => Nat.le_refl _
  | f + 1, x => by
    have := ones_le f (x / 2)
    unfold ones
    split <;> omega
theorem ones_at : ∀ (f m x : Nat), m < f → m ≤ ones f x → (x / 2 ^ m % 2 = 1 ↔ m < ones f x)
  | f + 1, 0, x, _, _ => by
    unfold ones
    rw [Nat.pow_zero, Nat.div_one]
    split <;> omega
  | f + 1, m + 1, x, h, h2 => by
    unfold ones at h2 ⊢
    by_cases c : x % 2 = 1
    · rw [if_pos c] at h2 ⊢
      have := ones_at f m (x / 2) (by omega) (by omega)
      rw [show x / 2 / 2 ^ m = x / 2 ^ (m + 1) from by rw [Nat.div_div_eq_div_mul, Nat.pow_succ, Nat.mul_comm]] at this
      omega
    · rw [if_neg c] at h2; omega

/-- How many of the words below w have a height above m. -/
def many (m : Nat) : Nat → Nat
  | 0 => 0
  | w + 1 => many m w + if w % 2 ^ m = 2 ^ m - 1 then 1 else 0

theorem many_succ (m w : Nat) : many m (w + 1) = many m w + if w % 2 ^ m = 2 ^ m - 1 then 1 else 0 := rfl
theorem many_le (m w : Nat) : many m w ≤ w := by
  induction w with
  | zero => exact Nat.le_refl _
  | succ w ih => rw [many_succ]; split <;> omega
theorem many_div (m w : Nat) : many m w = w / 2 ^ m := by
  have hp : 0 < 2 ^ m := Nat.pow_pos (by decide)
  induction w with
  | zero => simp [many]
  | succ w ih =>
    unfold many
    rw [ih, Nat.succ_div]
    congr 1
    by_cases c : w % 2 ^ m = 2 ^ m - 1
    · rw [if_pos c, if_pos]
      have := Nat.div_add_mod w (2 ^ m)
      exact ⟨w / 2 ^ m + 1, by rw [Nat.mul_add, Nat.mul_one]; omega⟩
    · rw [if_neg c, if_neg]
      intro ⟨q, hq⟩
      have : w = 2 ^ m * (q - 1) + (2 ^ m - 1) := by
        have : 0 < q := by rcases q with _ | q <;> omega
        obtain ⟨r, rfl⟩ : ∃ r, q = r + 1 := ⟨q - 1, by omega⟩
        rw [Nat.mul_add, Nat.mul_one] at hq
        simp only [Nat.add_sub_cancel]
        omega
      apply c
      rw [this, Nat.mul_add_mod, Nat.mod_eq_of_lt (by omega)]

theorem many_pow (m n : Nat) (h : m ≤ n) : many m (2 ^ n) = 2 ^ (n - m) := by
  rw [many_div, Nat.pow_div h (by decide)]

theorem ht_above (x m : Nat) (h : x < 4294967296) (hm : m < 24) : ((m : Int) < ht x 24) ↔ x % 2 ^ m = 2 ^ m - 1 := by
  rw [ht_ones x 24 h, ← ones_ge 32 m x (by omega)]
  unfold clamp
  omega

/-- The k-th word behind x; the first k heights. -/
def it (x : Nat) : Nat → Nat
  | 0 => x
  | k + 1 => nx (it x k)
def hts (x : Nat) (l : Int) : Nat → List Int
  | 0 => []
  | k + 1 => hts x l k ++ [ht (it x (k + 1)) l]
theorem it_lt (x : Nat) (h : x < 4294967296) : ∀ k, it x k < 4294967296
  | 0 => h
  | k + 1 => nx_lt _ (it_lt x h k)
theorem hts_length (x : Nat) (l : Int) : ∀ k, (hts x l k).length = k
  | 0 => rfl
  | k + 1 => by simp [hts, hts_length x l k]
theorem hts_at (x : Nat) (l : Int) : ∀ (k i : Nat), i < k → (hts x l k)[i]? = some (ht (it x (i + 1)) l)
  | k + 1, i, h => by
    rw [hts]
    by_cases c : i < k
    · rw [List.getElem?_append_left (by rw [hts_length]; exact c)]; exact hts_at x l k i c
    · obtain rfl : i = k := by omega
      rw [List.getElem?_append_right (by rw [hts_length]; omega), hts_length]; simp
end Go.Proofs.YtfbicbcfdgklkaaDoor.Plain
