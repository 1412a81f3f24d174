/-
  Plain laws: what Quote answers. No program in sight. Conditions: none.
-/
import Derived.Test.YtiedmlpeeebeeaaPl2
import Derived.Lib.IndexBytes
namespace Go.Proofs.Ytiedmlpeeebeeaa
open Go.RowKit

/-- A digit. -/
def hx (n : Nat) : UInt8 := if n < 10 then UInt8.ofNat (48 + n) else UInt8.ofNat (87 + n)
/-- What stands between quotes for what stands at a place. -/
def piece (s : ByteArray) (i : Nat) : List UInt8 :=
  if wd s i = 0 ∨ bt s i < 32 ∨ bt s i = 127 then [92, 120, hx (bt s i / 16), hx (bt s i % 16)]
  else (if bt s i = 34 ∨ bt s i = 92 then [92] else []) ++ (s.data.toList.drop i).take (wd s i)
def quoteF (s : ByteArray) : Nat → Nat → List UInt8
  | 0, _ => []
  | f + 1, i => if i < s.size then piece s i ++ quoteF s f (i + stp s i) else []
def quoteP (s : ByteArray) : List UInt8 := 34 :: quoteF s s.size 0 ++ [34]
theorem quoteF_end {s : ByteArray} {i : Nat} (h : ¬ i < s.size) (f : Nat) : quoteF s f i = [] := by
  cases f with
  | zero => rfl
  | succ f => simp [quoteF, h]
theorem quoteF_step {s : ByteArray} {i : Nat} (h : i < s.size) (f : Nat) : quoteF s (f + 1) i = piece s i ++ quoteF s f (i + stp s i) := by
  simp [quoteF, h]
theorem wd_one {s : ByteArray} {i : Nat} (h : i < s.size) (hb : bt s i < 128) : wd s i = 1 ∧ stp s i = 1 ∧ rn s i = bt s i := by
  have := wd_ascii h hb
  refine ⟨this, by unfold stp; rw [if_neg (by omega)]; exact this, ?_⟩
  unfold rn vl; rw [if_neg (by omega), if_pos this]
theorem piece_le (s : ByteArray) (i : Nat) (h : i < s.size) : (piece s i).length ≤ 4 * stp s i := by
  have hp := stp_pos s i
  unfold piece
  split
  · simp; omega
  · rename_i hn
    have : wd s i = stp s i := by unfold stp; rw [if_neg (by omega)]
    split
    · rename_i hm
      have := (wd_one h (show bt s i < 128 by omega)).1
      rw [this]
      have : ((s.data.toList.drop i).take 1).length ≤ 1 := by rw [List.length_take]; omega
      simp only [List.length_append, List.length_cons, List.length_nil]
      omega
    · have : ((s.data.toList.drop i).take (wd s i)).length ≤ wd s i := by rw [List.length_take]; omega
      simp only [List.nil_append]
      omega
/-- A rune that stands is written as it stands. -/
theorem enc (s : ByteArray) (i : Nat) (h : i < s.size) (hw : wd s i ≠ 0) : Lib.encodeRune (rn s i : Int) = (s.data.toList.drop i).take (wd s i) := by
  have e := Lib.encode_decode (s.data.toList.drop i) (by
    intro e
    have := congrArg List.length e
    rw [List.length_drop, ← Lib.size_eq] at this
    simp at this
    omega)
  rw [Lib.decodeL_drop, dec1 h, dec2 h] at e
  have hs : stp s i = wd s i := by unfold stp; rw [if_neg hw]
  rw [hs] at e
  refine e ?_
  rintro ⟨h1, h2⟩
  have hv : rn s i = vl s i := by unfold rn; rw [if_neg hw]
  rcases vl_bnd s i h hw with c | c | c | c <;> omega
/-- The four ways. -/
theorem piece_mark {s : ByteArray} {i : Nat} (h : i < s.size) (hm : bt s i = 34 ∨ bt s i = 92) : piece s i = 92 :: Lib.encodeRune (rn s i : Int) := by
  have := wd_one h (show bt s i < 128 by omega)
  rw [enc s i h (by omega)]
  unfold piece
  rw [if_neg (by omega), if_pos hm]
  rfl
theorem piece_bad {s : ByteArray} {i : Nat} (hb : wd s i = 0 ∨ bt s i < 32 ∨ bt s i = 127) : piece s i = [92, 120, hx (bt s i / 16), hx (bt s i % 16)] := by
  unfold piece; rw [if_pos hb]
theorem piece_else {s : ByteArray} {i : Nat} (h : i < s.size) (hm : ¬ (bt s i = 34 ∨ bt s i = 92)) (hb : ¬ (wd s i = 0 ∨ bt s i < 32 ∨ bt s i = 127)) : piece s i = Lib.encodeRune (rn s i : Int) := by
  rw [enc s i h (by omega)]
  unfold piece
  rw [if_neg hb, if_neg hm]
  rfl
/-- Which way a rune is told. -/
theorem rn_small {s : ByteArray} {i : Nat} (h : i < s.size) (c : Nat) (hc : c < 128) : rn s i = c ↔ bt s i = c := by
  constructor
  · intro e
    by_cases hw : wd s i = 0
    · unfold rn at e; rw [if_pos hw] at e; omega
    · have hv : rn s i = vl s i := by unfold rn; rw [if_neg hw]
      rcases vl_bnd s i h hw with c | c | c | c <;> omega
  · intro e
    rw [(wd_one h (by omega)).2.2, e]
theorem rn_big {s : ByteArray} {i : Nat} (h : i < s.size) (hb : 128 ≤ bt s i) : 128 ≤ rn s i := by
  by_cases hw : wd s i = 0
  · unfold rn; rw [if_pos hw]; omega
  · have hv : rn s i = vl s i := by unfold rn; rw [if_neg hw]
    rcases vl_bnd s i h hw with c | c | c | c <;> omega
theorem rn_le {s : ByteArray} {i : Nat} (h : i < s.size) : rn s i ≤ 1114111 := by
  by_cases hw : wd s i = 0
  · unfold rn; rw [if_pos hw]; omega
  · have hv : rn s i = vl s i := by unfold rn; rw [if_neg hw]
    rcases vl_bnd s i h hw with c | c | c | c <;> omega
/-- The program's digits. -/
theorem digit_at : ∀ n : Fin 16, ((⟨#[48, 49, 50, 51, 52, 53, 54, 55, 56, 57, 97, 98, 99, 100, 101, 102]⟩ : ByteArray).get! n.val) = hx n.val := by decide
end Go.Proofs.Ytiedmlpeeebeeaa
