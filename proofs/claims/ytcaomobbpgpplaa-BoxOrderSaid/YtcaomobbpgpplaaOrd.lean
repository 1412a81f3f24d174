/-
  Plain laws on how two boxes stand to each other: it is the reference's answer, the other way round it is turned, it is 0 just where the two are one, and it is an order. No program in sight. Conditions: none.
-/
import Derived.Test.YtcaomobbpgpplaaCmp
namespace Go.Proofs.Ytcaomobbpgpplaa
open Go.Lib

theorem u8_lt (a b : UInt8) : a < b ↔ a.toNat < b.toNat := UInt8.lt_iff_toNat_lt
theorem u8_eq (a b : UInt8) : a = b ↔ a.toNat = b.toNat := ⟨fun h => h ▸ rfl, UInt8.toNat_inj.1⟩

theorem cb_range : ∀ (x y : List UInt8), compareBytes x y = -1 ∨ compareBytes x y = 0 ∨ compareBytes x y = 1
  | [], [] => .inr (.inl rfl)
  | [], _ :: _ => .inl rfl
  | _ :: _, [] => .inr (.inr rfl)
  | a :: x, b :: y => by
    unfold compareBytes
    split
    · exact .inl rfl
    · split
      · exact .inr (.inr rfl)
      · exact cb_range x y
theorem cb_turn : ∀ (x y : List UInt8), compareBytes y x = -compareBytes x y
  | [], [] => rfl
  | [], _ :: _ => rfl
  | _ :: _, [] => rfl
  | a :: x, b :: y => by
    have ih := cb_turn x y
    unfold compareBytes
    by_cases h1 : a < b
    · have h2 : ¬ b < a := by rw [u8_lt] at *; omega
      rw [if_neg h2, if_pos h1, if_pos h1]; rfl
    · by_cases h2 : b < a
      · rw [if_pos h2, if_neg h1, if_pos h2]
      · rw [if_neg h2, if_neg h1, if_neg h1, if_neg h2]; exact ih
theorem cb_zero : ∀ (x y : List UInt8), compareBytes x y = 0 ↔ x = y
  | [], [] => by simp [compareBytes]
  | [], _ :: _ => by simp [compareBytes]
  | _ :: _, [] => by simp [compareBytes]
  | a :: x, b :: y => by
    have ih := cb_zero x y
    unfold compareBytes
    by_cases h1 : a < b
    · rw [if_pos h1]
      have : a ≠ b := by intro e; rw [u8_lt, e] at h1; omega
      simp [this]
    · by_cases h2 : b < a
      · rw [if_neg h1, if_pos h2]
        have : a ≠ b := by intro e; rw [u8_lt, e] at h2; omega
        simp [this]
      · rw [if_neg h1, if_neg h2, ih]
        have : a = b := by rw [u8_eq]; rw [u8_lt] at h1 h2; omega
        simp [this]
theorem cb_trans : ∀ (x y z : List UInt8), compareBytes x y ≤ 0 → compareBytes y z ≤ 0 → compareBytes x z ≤ 0
  | [], _, [], _, _ => by simp [compareBytes]
  | [], _, _ :: _, _, _ => by simp [compareBytes]
  | _ :: _, [], _, h, _ => by simp [compareBytes] at h
  | _ :: _, _ :: _, [], _, h => by simp [compareBytes] at h
  | a :: x, b :: y, c :: z, h, g => by
    have ih := cb_trans x y z
    unfold compareBytes at h g ⊢
    simp only [u8_lt] at h g ⊢
    by_cases h1 : a.toNat < b.toNat
    · by_cases g1 : b.toNat < c.toNat
      · rw [if_pos (by omega)]; decide
      · rw [if_neg g1] at g
        by_cases g2 : c.toNat < b.toNat
        · rw [if_pos g2] at g; exact absurd g (by decide)
        · rw [if_pos (by omega)]; decide
    · rw [if_neg h1] at h
      by_cases h2 : b.toNat < a.toNat
      · rw [if_pos h2] at h; exact absurd h (by decide)
      · rw [if_neg h2] at h
        by_cases g1 : b.toNat < c.toNat
        · rw [if_pos (by omega)]; decide
        · rw [if_neg g1] at g
          by_cases g2 : c.toNat < b.toNat
          · rw [if_pos g2] at g; exact absurd g (by decide)
          · rw [if_neg g2] at g
            rw [if_neg (by omega), if_neg (by omega)]
            exact ih h g
theorem bl_cb : ∀ (x y : List UInt8), Op.bytesLess x y = decide (compareBytes x y = -1)
  | [], [] => rfl
  | [], _ :: _ => rfl
  | _ :: _, [] => rfl
  | a :: x, b :: y => by
    have ih := bl_cb x y
    unfold Op.bytesLess compareBytes
    by_cases h1 : a < b
    · simp [h1]
    · by_cases h2 : b < a
      · have : (a == b) = false := by
          rw [beq_eq_false_iff_ne]; intro e; rw [u8_lt, e] at h2; omega
        simp [h1, h2, this]
      · have : a = b := by rw [u8_eq]; rw [u8_lt] at h1 h2; omega
        simp [this, ih]

theorem cmp3_range (a b : Int) : cmp3 a b = -1 ∨ cmp3 a b = 0 ∨ cmp3 a b = 1 := by unfold cmp3; split <;> (try split) <;> simp
theorem cmp3_turn (a b : Int) : cmp3 b a = -cmp3 a b := by
  unfold cmp3
  by_cases h1 : a < b
  · rw [if_neg (by omega), if_pos h1, if_pos h1]; rfl
  · by_cases h2 : b < a
    · rw [if_pos h2, if_neg h1, if_pos h2]
    · rw [if_neg h2, if_neg h1, if_neg h1, if_neg h2]; rfl
theorem cmp3_lt {a b : Int} : cmp3 a b ≤ 0 ↔ a ≤ b := by unfold cmp3; split <;> (try split) <;> omega

theorem cmp_range (x y : Bx) : x.cmp y = -1 ∨ x.cmp y = 0 ∨ x.cmp y = 1 := by
  cases x <;> cases y <;> first | exact cmp3_range _ _ | exact cb_range _ _
theorem cmp_turn (x y : Bx) : y.cmp x = -x.cmp y := by
  cases x <;> cases y <;> first | exact cmp3_turn _ _ | exact cb_turn _ _
theorem cmp_self (x : Bx) : x.cmp x = 0 := by
  have := cmp_turn x x
  omega
theorem cmp_trans (x y z : Bx) (h : x.cmp y ≤ 0) (g : y.cmp z ≤ 0) : x.cmp z ≤ 0 := by
  cases x <;> cases y <;> cases z <;> simp only [Bx.cmp, Bx.kind, cmp3_lt] at h g ⊢ <;> first | omega | exact cb_trans _ _ _ h g

/-- The reference's answer. -/
def rcmp (k n : Int) (s : ByteArray) (l m : Int) (t : ByteArray) : Int :=
  if k ≠ l then (if k < l then -1 else 1)
  else if n < m ∨ Op.bytesLess s.toList t.toList = true then -1
  else if m < n ∨ Op.bytesLess t.toList s.toList = true then 1 else 0

theorem toList_data (s : ByteArray) : s.toList = s.data.toList := ByteArray.toList_eq s

theorem bl_self (s : ByteArray) : Op.bytesLess s.toList s.toList = false := by
  rw [bl_cb, (cb_zero _ _).2 rfl]; rfl

theorem rcmp_box (k n : Int) (s : ByteArray) (l m : Int) (t : ByteArray) :
    rcmp (pk k) (pn k n) (ps k s) (pk l) (pn l m) (ps l t) = (bxOf k n s).cmp (bxOf l m t) := by
  have hnum : ∀ a b : Int, (if a < b ∨ Op.bytesLess (⟨#[]⟩ : ByteArray).toList (⟨#[]⟩ : ByteArray).toList = true then (-1 : Int) else if b < a ∨ Op.bytesLess (⟨#[]⟩ : ByteArray).toList (⟨#[]⟩ : ByteArray).toList = true then 1 else 0) = cmp3 a b := by
    intro a b; rw [bl_self]; unfold cmp3; simp
  have htxt : ∀ a b : ByteArray, (if (0 : Int) < 0 ∨ Op.bytesLess a.toList b.toList = true then (-1 : Int) else if (0 : Int) < 0 ∨ Op.bytesLess b.toList a.toList = true then 1 else 0) = compareBytes a.data.toList b.data.toList := by
    intro a b
    rw [bl_cb, bl_cb, toList_data, toList_data, cb_turn a.data.toList b.data.toList]
    rcases cb_range a.data.toList b.data.toList with h | h | h <;> simp [h]
  have hk : ∀ k : Int, ¬ k = 1 → ¬ k = 2 → ¬ k = 3 → ∀ n s, pk k = 0 ∧ pn k n = 0 ∧ ps k s = ⟨#[]⟩ ∧ bxOf k n s = .none := by
    intro k h1 h2 h3 n s
    simp [pk, pn, ps, bxOf, h1, h2, h3]
  have h1 : ∀ n s, pk 1 = 1 ∧ pn 1 n = n ∧ ps 1 s = ⟨#[]⟩ ∧ bxOf 1 n s = .num n := fun n s => ⟨rfl, rfl, rfl, rfl⟩
  have h2 : ∀ n s, pk 2 = 2 ∧ pn 2 n = 0 ∧ ps 2 s = s ∧ bxOf 2 n s = .name s := fun n s => ⟨rfl, rfl, rfl, rfl⟩
  have h3 : ∀ n s, pk 3 = 3 ∧ pn 3 n = 0 ∧ ps 3 s = s ∧ bxOf 3 n s = .text s := fun n s => ⟨rfl, rfl, rfl, rfl⟩
  have hall : ∀ (k n : Int) (s : ByteArray), (pk k = 1 ∧ pn k n = n ∧ ps k s = ⟨#[]⟩ ∧ bxOf k n s = .num n) ∨ (pk k = 2 ∧ pn k n = 0 ∧ ps k s = s ∧ bxOf k n s = .name s) ∨ (pk k = 3 ∧ pn k n = 0 ∧ ps k s = s ∧ bxOf k n s = .text s) ∨ (pk k = 0 ∧ pn k n = 0 ∧ ps k s = ⟨#[]⟩ ∧ bxOf k n s = .none) := by
    intro k n s
    by_cases e1 : k = 1
    · subst e1; exact .inl (h1 n s)
    · by_cases e2 : k = 2
      · subst e2; exact .inr (.inl (h2 n s))
      · by_cases e3 : k = 3
        · subst e3; exact .inr (.inr (.inl (h3 n s)))
        · exact .inr (.inr (.inr (hk k e1 e2 e3 n s)))
  unfold rcmp
  rcases hall k n s with ⟨a1, a2, a3, a4⟩ | ⟨a1, a2, a3, a4⟩ | ⟨a1, a2, a3, a4⟩ | ⟨a1, a2, a3, a4⟩ <;>
  rcases hall l m t with ⟨b1, b2, b3, b4⟩ | ⟨b1, b2, b3, b4⟩ | ⟨b1, b2, b3, b4⟩ | ⟨b1, b2, b3, b4⟩ <;>
  rw [a1, a2, a3, a4, b1, b2, b3, b4] <;>
  first
    | rfl
    | (rw [if_neg (by decide)]; first | exact hnum _ _ | exact htxt _ _ | (rw [hnum]; rfl))

/-- 0 just where the two are one. -/
theorem cmp_zero (k n : Int) (s : ByteArray) (l m : Int) (t : ByteArray) :
    (bxOf k n s).cmp (bxOf l m t) = 0 ↔ pk k = pk l ∧ pn k n = pn l m ∧ (ps k s).toList = (ps l t).toList := by
  rw [← rcmp_box]
  unfold rcmp
  generalize pk k = a, pn k n = b, ps k s = c, pk l = a', pn l m = b', ps l t = c'
  rw [bl_cb, bl_cb, cb_turn c.toList c'.toList]
  have hz := cb_zero c.toList c'.toList
  by_cases h : a = a'
  · rw [if_neg (by simpa using h)]
    rcases cb_range c.toList c'.toList with e | e | e
    · have hne : ¬ c.toList = c'.toList := fun q => by rw [hz.2 q] at e; exact absurd e (by decide)
      simp [e, hne]
    · have he := hz.1 e
      have e' : compareBytes c'.toList c'.toList = 0 := (cb_zero _ _).2 rfl
      simp only [e, he, h]
      by_cases h1 : b < b'
      · have h3 : ¬ b = b' := by omega
        simp [h1, h3]
      · by_cases h2 : b' < b
        · have h3 : ¬ b = b' := by omega
          simp [h1, h2, h3, e']
        · have h3 : b = b' := by omega
          simp [h1, h2, h3, e']
    · have hne : ¬ c.toList = c'.toList := fun q => by rw [hz.2 q] at e; exact absurd e (by decide)
      by_cases h1 : b < b' <;> simp [e, hne, h1]
  · rw [if_pos h]
    split <;> simp [h]
end Go.Proofs.Ytcaomobbpgpplaa
