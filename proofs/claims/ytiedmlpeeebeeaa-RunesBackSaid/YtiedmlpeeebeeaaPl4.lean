/-
  Plain laws: the text of numbers is right, and its runes are the numbers, where these are runes. No program in sight. Conditions: none.
-/
import Derived.Test.YtiedmlpeeebeeaaPl3
namespace Go.Proofs.Ytiedmlpeeebeeaa
set_option linter.unusedSimpArgs false
set_option linter.unusedVariables false
open Go.RowKit

/-- A number's rune. -/
def fixr (r : Int) : Int := if r < 0 ∨ (55296 ≤ r ∧ r ≤ 57343) ∨ 1114111 < r then 65533 else r
/-- The text of numbers. -/
def joinP (l : List Int) : List UInt8 := l.flatMap Lib.encodeRune

theorem byte_of (z : Int) (h0 : 0 ≤ z) (h1 : z < 256) : (z.toNat.toUInt8).toNat = z.toNat := by
  show (UInt8.ofNat z.toNat).toNat = z.toNat
  rw [UInt8.toNat_ofNat']
  omega
theorem right_one (u : ByteArray) (k : Nat) (hk : 1 ≤ k) (hs : u.size = k) (hw : wd u 0 = k) : splitP u = [(vl u 0 : Int)] ∧ rightP u = -1 := by
  have h0 : 0 < u.size := by omega
  have hst : stp u 0 = k := by unfold stp; rw [if_neg (by omega), hw]
  have hrn : rn u 0 = vl u 0 := by unfold rn; rw [if_neg (by omega)]
  unfold splitP rightP
  obtain ⟨f, hf⟩ : ∃ f, u.size = f + 1 := ⟨u.size - 1, by omega⟩
  rw [hf, splitF, rightF, if_pos h0, if_pos h0, if_neg (by omega), hst, hrn, hw, splitF_end (by omega), rightF_end (by omega)]
  exact ⟨rfl, rfl⟩

theorem enc_one (r : Int) : splitP ⟨(Lib.encodeRune r).toArray⟩ = [fixr r] ∧ rightP ⟨(Lib.encodeRune r).toArray⟩ = -1 := by
  unfold Lib.encodeRune
  by_cases c1 : 0 ≤ r ∧ r ≤ 127
  · rw [Lib.encodeRuneZ_one c1.1 c1.2, show fixr r = r by unfold fixr; rw [if_neg (by omega)]]
    have b0 : bt ⟨([r].map fun x => x.toNat.toUInt8).toArray⟩ 0 = r.toNat := by rw [bt_list]; exact byte_of r (by omega) (by omega)
    have hs : (⟨([r].map fun x => x.toNat.toUInt8).toArray⟩ : ByteArray).size = 1 := rfl
    have hw := wd_ascii (s := ⟨([r].map fun x => x.toNat.toUInt8).toArray⟩) (i := 0) (by omega) (by omega)
    obtain ⟨h1, h2⟩ := right_one _ 1 (by omega) hs hw
    refine ⟨?_, h2⟩
    rw [h1]
    unfold vl
    rw [if_pos hw, b0]
    congr 1; omega
  by_cases c2 : 128 ≤ r ∧ r ≤ 2047
  · rw [Lib.encodeRuneZ_two c2.1 c2.2, show fixr r = r by unfold fixr; rw [if_neg (by omega)]]
    obtain ⟨u, hu⟩ : ∃ u : ByteArray, u = ⟨([192 + r / 64, 128 + r % 64].map fun x : Int => x.toNat.toUInt8).toArray⟩ := ⟨_, rfl⟩
    rw [← hu]
    have b0 : bt u 0 = (192 + r / 64).toNat := by rw [hu, bt_list]; exact byte_of _ (by omega) (by omega)
    have b1 : bt u 1 = (128 + r % 64).toNat := by rw [hu, bt_list]; exact byte_of _ (by omega) (by omega)
    have hs : u.size = 2 := by rw [hu]; rfl
    have hw : wd u 0 = 2 := by rw [wd_C2 (by omega) (by omega), if_pos (by unfold In; simp only [Nat.zero_add]; omega)]
    obtain ⟨h1, h2⟩ := right_one u 2 (by omega) hs hw
    refine ⟨?_, h2⟩
    rw [h1]
    unfold vl
    rw [if_neg (by omega), if_pos hw]
    simp only [Nat.zero_add]
    rw [b0, b1]
    congr 1; omega
  by_cases c3 : (2048 ≤ r ∧ r < 55296) ∨ (57343 < r ∧ r ≤ 65535)
  · rw [Lib.encodeRuneZ_three c3, show fixr r = r by unfold fixr; rw [if_neg (by omega)]]
    obtain ⟨u, hu⟩ : ∃ u : ByteArray, u = ⟨([224 + r / 4096, 128 + r / 64 % 64, 128 + r % 64].map fun x : Int => x.toNat.toUInt8).toArray⟩ := ⟨_, rfl⟩
    rw [← hu]
    have b0 : bt u 0 = (224 + r / 4096).toNat := by rw [hu, bt_list]; exact byte_of _ (by omega) (by omega)
    have b1 : bt u 1 = (128 + r / 64 % 64).toNat := by rw [hu, bt_list]; exact byte_of _ (by omega) (by omega)
    have b2 : bt u 2 = (128 + r % 64).toNat := by rw [hu, bt_list]; exact byte_of _ (by omega) (by omega)
    have hs : u.size = 3 := by rw [hu]; rfl
    have hw : wd u 0 = 3 := by
      rw [wd_E (by omega) (by omega) _ _ rfl rfl, if_pos]
      unfold In
      simp only [Nat.zero_add]
      refine ⟨⟨by omega, ?_, ?_⟩, by omega, by omega, by omega⟩
      · split <;> omega
      · split <;> omega
    obtain ⟨h1, h2⟩ := right_one u 3 (by omega) hs hw
    refine ⟨?_, h2⟩
    rw [h1]
    unfold vl
    rw [if_neg (by omega), if_neg (by omega), if_pos hw]
    simp only [Nat.zero_add]
    rw [b0, b1, b2]
    congr 1; omega
  by_cases c4 : 65536 ≤ r ∧ r ≤ 1114111
  · rw [Lib.encodeRuneZ_four c4.1 c4.2, show fixr r = r by unfold fixr; rw [if_neg (by omega)]]
    obtain ⟨u, hu⟩ : ∃ u : ByteArray, u = ⟨([240 + r / 262144, 128 + r / 4096 % 64, 128 + r / 64 % 64, 128 + r % 64].map fun x : Int => x.toNat.toUInt8).toArray⟩ := ⟨_, rfl⟩
    rw [← hu]
    have b0 : bt u 0 = (240 + r / 262144).toNat := by rw [hu, bt_list]; exact byte_of _ (by omega) (by omega)
    have b1 : bt u 1 = (128 + r / 4096 % 64).toNat := by rw [hu, bt_list]; exact byte_of _ (by omega) (by omega)
    have b2 : bt u 2 = (128 + r / 64 % 64).toNat := by rw [hu, bt_list]; exact byte_of _ (by omega) (by omega)
    have b3 : bt u 3 = (128 + r % 64).toNat := by rw [hu, bt_list]; exact byte_of _ (by omega) (by omega)
    have hs : u.size = 4 := by rw [hu]; rfl
    have hw : wd u 0 = 4 := by
      rw [wd_F (by omega) (by omega) _ _ rfl rfl, if_pos]
      unfold In
      simp only [Nat.zero_add]
      refine ⟨⟨by omega, ?_, ?_⟩, ⟨by omega, by omega, by omega⟩, by omega, by omega, by omega⟩
      · split <;> omega
      · split <;> omega
    obtain ⟨h1, h2⟩ := right_one u 4 (by omega) hs hw
    refine ⟨?_, h2⟩
    rw [h1]
    unfold vl
    rw [if_neg (by omega), if_neg (by omega), if_neg (by omega)]
    simp only [Nat.zero_add]
    rw [b0, b1, b2, b3]
    congr 1; omega
  · rw [Lib.encodeRuneZ_bad (by omega), show fixr r = 65533 by unfold fixr; rw [if_pos (by omega)]]
    have : splitP ⟨([239, 191, 189].map fun x : Int => x.toNat.toUInt8).toArray⟩ = [65533] ∧ rightP ⟨([239, 191, 189].map fun x : Int => x.toNat.toUInt8).toArray⟩ = -1 := by decide +kernel
    exact this

theorem app_lists (a b : List UInt8) : (⟨(a ++ b).toArray⟩ : ByteArray) = ⟨a.toArray⟩ ++ ⟨b.toArray⟩ := by
  have h : (⟨(a ++ b).toArray⟩ : ByteArray).data.toList = ((⟨a.toArray⟩ : ByteArray) ++ ⟨b.toArray⟩).data.toList := by rw [app_list]
  exact Go.WideShapes.bytes_inj h
theorem join_split (l : List Int) : splitP ⟨(joinP l).toArray⟩ = l.map fixr ∧ rightP ⟨(joinP l).toArray⟩ = -1 := by
  induction l with
  | nil => exact ⟨rfl, rfl⟩
  | cons r l ih =>
    have e : joinP (r :: l) = Lib.encodeRune r ++ joinP l := by simp [joinP]
    have h1 := enc_one r
    have h2 : rightP ⟨(Lib.encodeRune r).toArray⟩ < 0 := by rw [h1.2]; decide
    rw [e, app_lists, parts_split _ _ h2, parts_right _ _ h2, h1.1, ih.1, ih.2]
    exact ⟨rfl, rfl⟩
end Go.Proofs.Ytiedmlpeeebeeaa
