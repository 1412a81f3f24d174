/-
  More contracts of package box, its reference and the law's own helpers: OfNumber, OfName, OfText, Of, Plain, awake. Conditions: none.
-/
import Derived.Test.YtcaomobbpgpplaaWk
namespace Go.Proofs.Ytcaomobbpgpplaa
open Go.RowKit

theorem bcell {W w1 : World} (hb : Below W.heap.size W w1) : (∀ b o, b < W.heap.size → w1.cell? ⟨b, o, none⟩ = W.cell? ⟨b, o, none⟩) ∧ (∀ b o, b < W.heap.size → w1.frozen? ⟨b, o, none⟩ = W.frozen? ⟨b, o, none⟩) :=
  ⟨fun b o h => hb.cell (p := ⟨b, o, none⟩) h, fun b o h => hb.frozen (p := ⟨b, o, none⟩) h⟩

set_option maxHeartbeats 400000 in
theorem ofNumber_any (n : Int) (w : World) :
    Calls Try.prog 20 #[.int .i64 n] w fun e w' => e = .returned (Bx.num n).val ∧ w.alloc (.cells #[(Bx.num n).cell] 27) = w' := by
  simp only [Bx.val, Bx.cell]
  go_enter Try.func20, Try.ntmps20
  go_wp2
  exact bodyPost_ret (v := .agg #[.iface 3 (.int .i64 n)]) (by simp [results, Try.results20, go_sem]) rfl ⟨rfl, rfl⟩
set_option maxHeartbeats 400000 in
theorem ofName_any (s : ByteArray) (w : World) :
    Calls Try.prog 21 #[.string s] w fun e w' => e = .returned (Bx.name s).val ∧ w.alloc (.cells #[(Bx.name s).cell] 27) = w' := by
  simp only [Bx.val, Bx.cell]
  go_enter Try.func21, Try.ntmps21
  go_wp2
  exact bodyPost_ret (v := .agg #[.iface 42 (.string s)]) (by simp [results, Try.results21, go_sem]) rfl ⟨rfl, rfl⟩
set_option maxHeartbeats 400000 in
theorem ofText_any (s : ByteArray) (w : World) :
    Calls Try.prog 19 #[.string s] w fun e w' => e = .returned (Bx.text s).val ∧ w.alloc (.cells #[(Bx.text s).cell] 27) = w' := by
  simp only [Bx.val, Bx.cell]
  go_enter Try.func19, Try.ntmps19
  go_wp2
  exact bodyPost_ret (v := .agg #[.iface 44 (.string s)]) (by simp [results, Try.results19, go_sem]) rfl ⟨rfl, rfl⟩

/-- The box of a kind. -/
def bxOf (k n : Int) (s : ByteArray) : Bx := if k = 1 then .num n else if k = 2 then .name s else if k = 3 then .text s else .none
def rv (k n : Int) (s : ByteArray) : Value := .agg #[.int .i64 k, .int .i64 n, .string s]

set_option maxHeartbeats 400000 in
theorem of_num (n : Int) (s : ByteArray) (w : World) :
    Calls Try.prog 9 #[.agg #[.int .i64 1, .int .i64 n, .string s]] w fun e w' => e = .returned (.agg #[.iface 3 (.int .i64 n)]) ∧ Below w.heap.size w w' := by
  have H := Lib.hid (ofNumber_any n)
  simp only [Bx.val, Bx.cell] at H
  go_enter Try.func9, Try.ntmps9
  go_wp2_with (go_at_call 20; ((with_reducible refine (H.out _).mono ?_); rintro e w' ⟨rfl, rfl⟩))
  refine bodyPost_ret (v := .agg #[.iface 3 (.int .i64 n)]) (by simp [results, Try.results9, go_sem]) rfl ⟨rfl, ?_⟩
  exact (((Below.refl _ _).alloc (Nat.le_refl _) _).alloc (by simp) _).alloc (by simp; omega) _
set_option maxHeartbeats 400000 in
theorem of_name (n : Int) (s : ByteArray) (w : World) :
    Calls Try.prog 9 #[.agg #[.int .i64 2, .int .i64 n, .string s]] w fun e w' => e = .returned (.agg #[.iface 42 (.string s)]) ∧ Below w.heap.size w w' := by
  have H := Lib.hid (ofName_any s)
  simp only [Bx.val, Bx.cell] at H
  go_enter Try.func9, Try.ntmps9
  go_wp2_with (go_at_call 21; ((with_reducible refine (H.out _).mono ?_); rintro e w' ⟨rfl, rfl⟩))
  refine bodyPost_ret (v := .agg #[.iface 42 (.string s)]) (by simp [results, Try.results9, go_sem]) rfl ⟨rfl, ?_⟩
  exact (((Below.refl _ _).alloc (Nat.le_refl _) _).alloc (by simp) _).alloc (by simp; omega) _
set_option maxHeartbeats 400000 in
theorem of_text (n : Int) (s : ByteArray) (w : World) :
    Calls Try.prog 9 #[.agg #[.int .i64 3, .int .i64 n, .string s]] w fun e w' => e = .returned (.agg #[.iface 44 (.string s)]) ∧ Below w.heap.size w w' := by
  have H := Lib.hid (ofText_any s)
  simp only [Bx.val, Bx.cell] at H
  go_enter Try.func9, Try.ntmps9
  go_wp2_with (go_at_call 19; ((with_reducible refine (H.out _).mono ?_); rintro e w' ⟨rfl, rfl⟩))
  refine bodyPost_ret (v := .agg #[.iface 44 (.string s)]) (by simp [results, Try.results9, go_sem]) rfl ⟨rfl, ?_⟩
  exact (((Below.refl _ _).alloc (Nat.le_refl _) _).alloc (by simp) _).alloc (by simp; omega) _
set_option maxHeartbeats 400000 in
theorem of_none (k n : Int) (s : ByteArray) (h1 : (k == 1) = false) (h2 : (k == 2) = false) (h3 : (k == 3) = false) (w : World) :
    Calls Try.prog 9 #[.agg #[.int .i64 k, .int .i64 n, .string s]] w fun e w' => e = .returned (.agg #[.nilIface]) ∧ Below w.heap.size w w' := by
  go_enter Try.func9, Try.ntmps9
  go_wp2
  refine bodyPost_ret (v := .agg #[.nilIface]) (by simp [results, Try.results9, go_sem]) rfl ⟨rfl, ?_⟩
  exact ((Below.refl _ _).alloc (Nat.le_refl _) _).alloc (by simp) _

/-- **Of**: the box of a kind. -/
theorem of_any (k n : Int) (s : ByteArray) (w : World) :
    Calls Try.prog 9 #[rv k n s] w fun e w' => e = .returned (bxOf k n s).val ∧ Below w.heap.size w w' := by
  unfold bxOf
  by_cases h1 : k = 1
  · subst h1; exact of_num n s w
  · by_cases h2 : k = 2
    · subst h2; exact of_name n s w
    · by_cases h3 : k = 3
      · subst h3; exact of_text n s w
      · rw [if_neg h1, if_neg h2, if_neg h3]
        exact of_none k n s (by simpa using h1) (by simpa using h2) (by simpa using h3) w

/-- What the reference keeps. -/
def pk (k : Int) : Int := if k = 1 ∨ k = 2 ∨ k = 3 then k else 0
def pn (k n : Int) : Int := if k = 1 then n else 0
def ps (k : Int) (s : ByteArray) : ByteArray := if k = 2 ∨ k = 3 then s else ⟨#[]⟩

set_option maxHeartbeats 400000 in
theorem plain_num (n : Int) (s : ByteArray) (w : World) :
    Calls Try.prog 8 #[.agg #[.int .i64 1, .int .i64 n, .string s]] w fun e w' => e = .returned (.agg #[.int .i64 1, .int .i64 n, .string ⟨#[]⟩]) ∧ Below w.heap.size w w' := by
  go_enter Try.func8, Try.ntmps8
  go_wp2
  refine bodyPost_ret (v := .agg #[.int .i64 1, .int .i64 n, .string ⟨#[]⟩]) (by simp [results, Try.results8, go_sem]) rfl ⟨rfl, ?_⟩
  exact ((Below.refl _ _).alloc (Nat.le_refl _) _).alloc (by simp) _
set_option maxHeartbeats 400000 in
theorem plain_name (n : Int) (s : ByteArray) (w : World) :
    Calls Try.prog 8 #[.agg #[.int .i64 2, .int .i64 n, .string s]] w fun e w' => e = .returned (.agg #[.int .i64 2, .int .i64 0, .string s]) ∧ Below w.heap.size w w' := by
  go_enter Try.func8, Try.ntmps8
  go_wp2
  refine bodyPost_ret (v := .agg #[.int .i64 2, .int .i64 0, .string s]) (by simp [results, Try.results8, go_sem]) rfl ⟨rfl, ?_⟩
  exact ((Below.refl _ _).alloc (Nat.le_refl _) _).alloc (by simp) _
set_option maxHeartbeats 400000 in
theorem plain_text (n : Int) (s : ByteArray) (w : World) :
    Calls Try.prog 8 #[.agg #[.int .i64 3, .int .i64 n, .string s]] w fun e w' => e = .returned (.agg #[.int .i64 3, .int .i64 0, .string s]) ∧ Below w.heap.size w w' := by
  go_enter Try.func8, Try.ntmps8
  go_wp2
  refine bodyPost_ret (v := .agg #[.int .i64 3, .int .i64 0, .string s]) (by simp [results, Try.results8, go_sem]) rfl ⟨rfl, ?_⟩
  exact ((Below.refl _ _).alloc (Nat.le_refl _) _).alloc (by simp) _
set_option maxHeartbeats 400000 in
theorem plain_none (k n : Int) (s : ByteArray) (h1 : (k == 1) = false) (h2 : (k == 2) = false) (h3 : (k == 3) = false) (w : World) :
    Calls Try.prog 8 #[.agg #[.int .i64 k, .int .i64 n, .string s]] w fun e w' => e = .returned (.agg #[.int .i64 0, .int .i64 0, .string ⟨#[]⟩]) ∧ Below w.heap.size w w' := by
  go_enter Try.func8, Try.ntmps8
  go_wp2
  refine bodyPost_ret (v := .agg #[.int .i64 0, .int .i64 0, .string ⟨#[]⟩]) (by simp [results, Try.results8, go_sem]) rfl ⟨rfl, ?_⟩
  exact ((Below.refl _ _).alloc (Nat.le_refl _) _).alloc (by simp) _

/-- **Plain**. -/
theorem plain_any (k n : Int) (s : ByteArray) (w : World) :
    Calls Try.prog 8 #[rv k n s] w fun e w' => e = .returned (rv (pk k) (pn k n) (ps k s)) ∧ Below w.heap.size w w' := by
  unfold pk pn ps
  by_cases h1 : k = 1
  · subst h1; exact plain_num n s w
  · by_cases h2 : k = 2
    · subst h2; exact plain_name n s w
    · by_cases h3 : k = 3
      · subst h3; exact plain_text n s w
      · rw [if_neg (by omega), if_neg h1, if_neg (by omega)]
        exact plain_none k n s (by simpa using h1) (by simpa using h2) (by simpa using h3) w

set_option maxHeartbeats 1000000 in
theorem awake_any (w : World) : Calls Try.prog 7 #[] w fun e w' => e = .returned (.bool true) ∧ Below w.heap.size w w' := by
  have T := Lib.hid (ofText_any ⟨#[97]⟩)
  have A := Lib.hid (asName_any (.text ⟨#[97]⟩))
  have B := Lib.hid (asText_any (.text ⟨#[97]⟩))
  simp only [Bx.val, Bx.cell, Bx.name?, Bx.text?] at T A B
  go_enter Try.func7, Try.ntmps7
  go_wp2_with (first | (go_at_call 19; ((with_reducible refine (T.out _).mono ?_); rintro e w' ⟨rfl, rfl⟩)) | (go_at_call 14; ((with_reducible refine (A.out _).mono ?_); rintro e w' ⟨rfl, rfl⟩)) | (go_at_call 15; ((with_reducible refine (B.out _).mono ?_); rintro e w' ⟨rfl, rfl⟩)))
  go_ret
  exact ⟨rfl, ((((Below.refl _ _).alloc (Nat.le_refl _) _).alloc (by simp) _).alloc (by simp; omega) _).alloc (by simp; omega) _⟩
end Go.Proofs.Ytcaomobbpgpplaa
