/-
  Plain laws: what is put between quotes is read as it was, is right, and has no byte below 32; a right text is that of its runes. No program in sight. Conditions: none.
-/
import Derived.Test.YtiedmlpeeebeeaaUn
import Derived.Test.YtiedmlpeeebeeaaPl4
namespace Go.Proofs.Ytiedmlpeeebeeaa
open Go.RowKit
set_option linter.unusedSimpArgs false
set_option linter.unusedVariables false

theorem joinP_append (a b : List Int) : joinP (a ++ b) = joinP a ++ joinP b := by unfold joinP; rw [List.flatMap_append]
theorem joinP_cons (r : Int) (l : List Int) : joinP (r :: l) = Lib.encodeRune r ++ joinP l := by simp [joinP]
theorem enc_small (n : Nat) (h : n < 128) : Lib.encodeRune (n : Int) = [UInt8.ofNat n] := by
  unfold Lib.encodeRune
  rw [Lib.encodeRuneZ_one (by omega) (by omega)]
  rfl
theorem u8_of {b : UInt8} : UInt8.ofNat b.toNat = b := by
  apply UInt8.toNat_inj.1
  rw [UInt8.toNat_ofNat']
  have := b.toNat_lt
  omega
theorem hx_range : ∀ n : Fin 16, 48 ≤ (hx n.val).toNat ∧ (hx n.val).toNat ≤ 102 ∧ (hx n.val).toNat ≠ 92 := by decide
theorem hx_rng (n : Nat) (h : n < 16) : 48 ≤ (hx n).toNat ∧ (hx n).toNat ≤ 102 ∧ (hx n).toNat ≠ 92 := hx_range ⟨n, h⟩

/-- What stands between quotes for a place is a text of runes. -/
theorem piece_join (s : ByteArray) (i : Nat) (h : i < s.size) : ∃ l, piece s i = joinP l := by
  by_cases hb : wd s i = 0 ∨ bt s i < 32 ∨ bt s i = 127
  · have l0 := bt_lt s i
    have h1 := hx_rng (bt s i / 16) (by omega)
    have h2 := hx_rng (bt s i % 16) (by omega)
    refine ⟨[((92 : Nat) : Int), ((120 : Nat) : Int), ((hx (bt s i / 16)).toNat : Int), ((hx (bt s i % 16)).toNat : Int)], ?_⟩
    rw [piece_bad hb, joinP_cons, joinP_cons, joinP_cons, joinP_cons, enc_small _ (by omega), enc_small _ (by omega), enc_small _ (by omega), enc_small _ (by omega), u8_of, u8_of]
    rfl
  · by_cases hm : bt s i = 34 ∨ bt s i = 92
    · refine ⟨[((92 : Nat) : Int), (rn s i : Int)], ?_⟩
      rw [piece_mark h hm, joinP_cons, joinP_cons, enc_small 92 (by omega)]
      simp [joinP]
    · refine ⟨[(rn s i : Int)], ?_⟩
      rw [piece_else h hm hb, joinP_cons]
      simp [joinP]
theorem quoteF_join (s : ByteArray) : ∀ f i, ∃ l, quoteF s f i = joinP l := by
  intro f
  induction f with
  | zero => intro i; exact ⟨[], rfl⟩
  | succ f ih =>
    intro i
    by_cases h : i < s.size
    · obtain ⟨a, ha⟩ := piece_join s i h
      obtain ⟨b, hb⟩ := ih (i + stp s i)
      exact ⟨a ++ b, by rw [quoteF_step h, ha, hb, joinP_append]⟩
    · exact ⟨[], by rw [quoteF_end h]; rfl⟩
theorem quoteP_right (s : ByteArray) : rightP ⟨(quoteP s).toArray⟩ = -1 := by
  obtain ⟨l, hl⟩ := quoteF_join s s.size 0
  have e : quoteP s = joinP (((34 : Nat) : Int) :: l ++ [((34 : Nat) : Int)]) := by
    unfold quoteP
    rw [hl]
    show 34 :: (joinP l ++ [34]) = joinP (((34 : Nat) : Int) :: (l ++ [((34 : Nat) : Int)]))
    rw [joinP_cons, joinP_append, joinP_cons, enc_small 34 (by omega)]
    simp [joinP]
  rw [e]
  exact (join_split _).2

/-- The bytes of a rune that is written as it stands. -/
def fine (b : Nat) : Prop := 32 ≤ b ∧ b ≠ 34 ∧ b ≠ 92 ∧ b ≠ 127
theorem take_get (s : ByteArray) (i n k : Nat) (hk : k < n) (hin : i + n ≤ s.size) : ((s.data.toList.drop i).take n).getD k 0 = s.data.toList.getD (i + k) 0 := by
  simp [List.getD, List.getElem?_take, List.getElem?_drop, hk]
theorem rune_fine (s : ByteArray) (i : Nat) (h : i < s.size) (hb : ¬ (wd s i = 0 ∨ bt s i < 32 ∨ bt s i = 127)) (hm : ¬ (bt s i = 34 ∨ bt s i = 92)) :
    ∀ k, k < wd s i → fine (bt s (i + k)) := by
  intro k hk
  unfold fine
  rcases wd_cases s i h with c | ⟨c, d⟩ | ⟨c, d⟩ | ⟨c, d⟩ | ⟨c, d⟩
  · omega
  · obtain rfl : k = 0 := by omega
    rw [Nat.add_zero]; omega
  · rcases (show k = 0 ∨ k = 1 by omega) with rfl | rfl
    · rw [Nat.add_zero]; omega
    · omega
  · rcases (show k = 0 ∨ k = 1 ∨ k = 2 by omega) with rfl | rfl | rfl
    · rw [Nat.add_zero]; omega
    · omega
    · omega
  · rcases (show k = 0 ∨ k = 1 ∨ k = 2 ∨ k = 3 by omega) with rfl | rfl | rfl | rfl
    · rw [Nat.add_zero]; omega
    · omega
    · omega
    · omega
theorem piece_plain (s : ByteArray) (i : Nat) (h : i < s.size) (hb : ¬ (wd s i = 0 ∨ bt s i < 32 ∨ bt s i = 127)) (hm : ¬ (bt s i = 34 ∨ bt s i = 92)) :
    piece s i = (s.data.toList.drop i).take (wd s i) ∧ stp s i = wd s i := by
  refine ⟨?_, by unfold stp; rw [if_neg (by omega)]⟩
  unfold piece
  rw [if_neg hb, if_neg hm, List.nil_append]

/-- A byte between quotes is printed. -/
def printed (b : Nat) : Prop := 32 ≤ b ∧ b ≠ 127
theorem piece_printed (s : ByteArray) (i : Nat) (h : i < s.size) : ∀ b ∈ piece s i, printed b.toNat := by
  intro b hb'
  unfold printed
  by_cases hb : wd s i = 0 ∨ bt s i < 32 ∨ bt s i = 127
  · have l0 := bt_lt s i
    have h1 := hx_rng (bt s i / 16) (by omega)
    have h2 := hx_rng (bt s i % 16) (by omega)
    rw [piece_bad hb] at hb'
    simp only [List.mem_cons, List.not_mem_nil, or_false] at hb'
    rcases hb' with rfl | rfl | rfl | rfl
    · decide
    · decide
    · omega
    · omega
  · by_cases hm : bt s i = 34 ∨ bt s i = 92
    · have w1 := wd_one h (show bt s i < 128 by omega)
      rw [piece_mark h hm, w1.2.2, enc_small _ (by omega)] at hb'
      simp only [List.mem_cons, List.not_mem_nil, or_false] at hb'
      rcases hb' with rfl | rfl
      · decide
      · rw [UInt8.toNat_ofNat']; omega
    · obtain ⟨e1, e2⟩ := piece_plain s i h hb hm
      have hin := wd_in s i h
      rw [e1] at hb'
      obtain ⟨k, hk, rfl⟩ := List.mem_iff_getElem.1 hb'
      have hk' : k < wd s i := by rw [List.length_take] at hk; omega
      have hf := rune_fine s i h hb hm k hk'
      unfold fine at hf
      have e := take_get s i (wd s i) k hk' (by omega)
      rw [List.getD_eq_getElem?_getD, List.getElem?_eq_getElem hk, Option.getD_some] at e
      rw [e, getD_bt]
      omega
theorem quoteF_printed (s : ByteArray) : ∀ f i, ∀ b ∈ quoteF s f i, printed b.toNat := by
  intro f
  induction f with
  | zero => intro i b hb; simp [quoteF] at hb
  | succ f ih =>
    intro i b hb
    by_cases h : i < s.size
    · rw [quoteF_step h] at hb
      rcases List.mem_append.1 hb with hb | hb
      · exact piece_printed s i h b hb
      · exact ih _ b hb
    · rw [quoteF_end h] at hb; simp at hb
theorem quoteP_printed (s : ByteArray) (i : Nat) (h : i < (⟨(quoteP s).toArray⟩ : ByteArray).size) : printed (bt ⟨(quoteP s).toArray⟩ i) := by
  rw [size_list] at h
  rw [bt_list, List.getD_eq_getElem?_getD, List.getElem?_eq_getElem h, Option.getD_some]
  have hm : (quoteP s)[i] ∈ quoteP s := List.getElem_mem h
  generalize (quoteP s)[i] = b at hm
  unfold quoteP at hm
  rw [List.cons_append, List.mem_cons, List.mem_append, List.mem_singleton] at hm
  rcases hm with rfl | hm | rfl
  · unfold printed; decide
  · exact quoteF_printed s _ _ b hm
  · unfold printed; decide

/-- How long a text is between quotes. -/
theorem quoteF_len (s : ByteArray) : ∀ f i, i ≤ s.size → (quoteF s f i).length ≤ 4 * (s.size - i) := by
  intro f
  induction f with
  | zero => intro i _; simp [quoteF]
  | succ f ih =>
    intro i hi
    by_cases h : i < s.size
    · have h1 := piece_le s i h
      have h2 := wd_in s i h
      have h3 := ih (i + stp s i) h2
      rw [quoteF_step h, List.length_append]
      omega
    · rw [quoteF_end h]; simp
theorem quoteP_len (s : ByteArray) : (quoteP s).length ≤ 4 * s.size + 2 ∧ 2 ≤ (quoteP s).length := by
  have := quoteF_len s s.size 0 (Nat.zero_le _)
  unfold quoteP
  rw [List.cons_append, List.length_cons, List.length_append, List.length_singleton]
  omega

/-- A right text is that of its runes. -/
theorem splitF_join (s : ByteArray) : ∀ f i, i ≤ s.size → s.size ≤ i + f → rightF s f i < 0 → joinP (splitF s f i) = s.data.toList.drop i := by
  intro f
  have hsz : s.data.toList.length = s.size := (Lib.size_eq s).symm
  induction f with
  | zero =>
    intro i hi hf hr
    rw [List.drop_eq_nil_of_le (by omega)]
    rfl
  | succ f ih =>
    intro i hi hf hr
    by_cases h : i < s.size
    · rw [rightF, if_pos h] at hr
      by_cases hw : wd s i = 0
      · rw [if_pos hw] at hr; omega
      · rw [if_neg hw] at hr
        have h2 := wd_in s i h
        have hst : stp s i = wd s i := by unfold stp; rw [if_neg hw]
        have e : splitF s (f + 1) i = (rn s i : Int) :: splitF s f (i + stp s i) := by simp [splitF, h]
        rw [e, joinP_cons, enc s i h hw, hst, ih (i + wd s i) (by omega) (by omega) hr, ← List.drop_drop, List.take_append_drop]
    · rw [splitF_end h, List.drop_eq_nil_of_le (by omega)]
      rfl
theorem join_same (s : ByteArray) : ((⟨(joinP (splitP s)).toArray⟩ : ByteArray) = s) ↔ rightP s < 0 := by
  constructor
  · intro h
    have := (join_split (splitP s)).2
    rw [h] at this
    omega
  · intro h
    have := splitF_join s s.size 0 (Nat.zero_le _) (by omega) h
    rw [List.drop_zero] at this
    refine Go.WideShapes.bytes_inj ?_
    show joinP (splitP s) = _
    exact this
theorem splitF_range (s : ByteArray) : ∀ f i, ∀ x ∈ splitF s f i, 0 ≤ x ∧ x ≤ 1114111 := by
  intro f
  induction f with
  | zero => intro i x hx; simp [splitF] at hx
  | succ f ih =>
    intro i x hx
    by_cases h : i < s.size
    · have e : splitF s (f + 1) i = (rn s i : Int) :: splitF s f (i + stp s i) := by simp [splitF, h]
      rw [e, List.mem_cons] at hx
      rcases hx with rfl | hx
      · have := rn_le h
        omega
      · exact ih _ x hx
    · rw [splitF_end h] at hx; simp at hx

/-- Reading on: bytes that stand for themselves. -/
theorem reads_run (t s : ByteArray) (A : Option (List UInt8)) (p : Nat) : ∀ m acc i j g, i + m ≤ t.size → j + m ≤ s.size → t.size ≤ i + g → (∀ k, k < m → bt t (i + k) = bt s (j + k) ∧ fine (bt s (j + k))) →
    Reads t A acc g i → ∃ g', t.size ≤ i + m + g' ∧ Reads t A (acc ++ (s.data.toList.drop j).take m) g' (i + m) := by
  intro m
  induction m with
  | zero => intro acc i j g h1 h2 h3 h4 h5; exact ⟨g, h3, by simpa using h5⟩
  | succ m ih =>
    intro acc i j g h1 h2 h3 h4 h5
    obtain ⟨f, rfl⟩ : ∃ f, g = f + 1 := ⟨g - 1, by omega⟩
    have hb := h4 0 (by omega)
    simp only [Nat.add_zero] at hb
    obtain ⟨hb1, hb2⟩ := hb
    unfold fine at hb2
    have hu := ust_plain (t := t) (i := i) (by omega) (by omega)
    have h6 := reads_some h5 (by omega) (by rw [hu]; exact Nat.succ_ne_zero _)
    rw [hu] at h6
    obtain ⟨g', h7, h8⟩ := ih (acc ++ [UInt8.ofNat (bt t i)]) (i + 1) (j + 1) f (by omega) (by omega) (by omega) (fun k hk => by
      have := h4 (k + 1) (by omega)
      rw [show i + 1 + k = i + (k + 1) by omega, show j + 1 + k = j + (k + 1) by omega]
      exact this) h6
    refine ⟨g', by omega, ?_⟩
    rw [show i + (m + 1) = i + 1 + m by omega]
    have hj : j < s.data.toList.length := by rw [← Lib.size_eq]; omega
    have e : (s.data.toList.drop j).take (m + 1) = UInt8.ofNat (bt t i) :: (s.data.toList.drop (j + 1)).take m := by
      rw [List.drop_eq_getElem_cons hj, List.take_succ_cons]
      congr 1
      rw [hb1, ← getD_bt, List.getD_eq_getElem?_getD, List.getElem?_eq_getElem hj, Option.getD_some, u8_of]
    rw [e, List.append_cons]
    exact h8
theorem take_one (s : ByteArray) (j : Nat) (h : j < s.size) : (s.data.toList.drop j).take 1 = [UInt8.ofNat (bt s j)] := by
  have hj : j < s.data.toList.length := by rw [← Lib.size_eq]; omega
  rw [List.drop_eq_getElem_cons hj, List.take_succ_cons, List.take_zero]
  congr 1
  rw [← getD_bt, List.getD_eq_getElem?_getD, List.getElem?_eq_getElem hj, Option.getD_some, u8_of]
/-- Reading on: what stands between quotes for a place. -/
theorem reads_piece (t s : ByteArray) (A : Option (List UInt8)) (acc : List UInt8) (i pos g : Nat) (h : pos < s.size) (hi : i + (piece s pos).length ≤ t.size) (hg : t.size ≤ i + g)
    (hb : ∀ k, k < (piece s pos).length → bt t (i + k) = ((piece s pos).getD k 0).toNat) (hr : Reads t A acc g i) :
    ∃ g', t.size ≤ i + (piece s pos).length + g' ∧ Reads t A (acc ++ (s.data.toList.drop pos).take (stp s pos)) g' (i + (piece s pos).length) := by
  by_cases hbad : wd s pos = 0 ∨ bt s pos < 32 ∨ bt s pos = 127
  · have l0 := bt_lt s pos
    have hs1 : stp s pos = 1 := by
      rcases hbad with c | c | c
      · unfold stp; rw [if_pos c]
      · exact (wd_one h (by omega)).2.1
      · exact (wd_one h (by omega)).2.1
    have hp := piece_bad hbad
    rw [hp] at hi hb ⊢
    simp only [List.length_cons, List.length_nil] at hi hb ⊢
    have b0 := hb 0 (by omega)
    have b1 := hb 1 (by omega)
    have b2 := hb 2 (by omega)
    have b3 := hb 3 (by omega)
    simp only [List.getD_cons_zero, List.getD_cons_succ, Nat.add_zero] at b0 b1 b2 b3
    have n1 := num_hx ⟨bt s pos / 16, by omega⟩
    have n2 := num_hx ⟨bt s pos % 16, by omega⟩
    simp only at n1 n2
    rw [← b2] at n1
    rw [← b3] at n2
    have ht : trn t (i + 1) = (bt s pos, 3) := by
      rw [trn_three (by omega) b1 (by rw [show i + 1 + 1 = i + 2 by omega, n1]; omega) (by rw [show i + 1 + 2 = i + 3 by omega, n2]; omega), show i + 1 + 1 = i + 2 by omega, show i + 1 + 2 = i + 3 by omega, n1, n2]
      congr 1
      omega
    have hu := ust_mark (t := t) (i := i) b0
    rw [ht, if_neg (Nat.succ_ne_zero _)] at hu
    obtain ⟨f, rfl⟩ : ∃ f, g = f + 1 := ⟨g - 1, by omega⟩
    have h6 := reads_some hr (by omega) (by rw [hu]; exact Nat.succ_ne_zero _)
    rw [hu] at h6
    refine ⟨f, by omega, ?_⟩
    rw [hs1, take_one s pos h]
    exact h6
  · by_cases hm : bt s pos = 34 ∨ bt s pos = 92
    · have w1 := wd_one h (show bt s pos < 128 by omega)
      have hp := piece_mark h hm
      rw [w1.2.2, enc_small _ (by omega)] at hp
      rw [hp] at hi hb ⊢
      simp only [List.length_cons, List.length_nil] at hi hb ⊢
      have b0 := hb 0 (by omega)
      have b1 := hb 1 (by omega)
      simp only [List.getD_cons_zero, List.getD_cons_succ, Nat.add_zero] at b0 b1
      rw [UInt8.toNat_ofNat', show bt s pos % 2 ^ 8 = bt s pos by omega] at b1
      have ht : trn t (i + 1) = (bt s pos, 1) := by rw [trn_one (by omega) (by omega), b1]
      have hu := ust_mark (t := t) (i := i) b0
      rw [ht, if_neg (Nat.succ_ne_zero _)] at hu
      obtain ⟨f, rfl⟩ : ∃ f, g = f + 1 := ⟨g - 1, by omega⟩
      have h6 := reads_some hr (by omega) (by rw [hu]; exact Nat.succ_ne_zero _)
      rw [hu] at h6
      refine ⟨f, by omega, ?_⟩
      rw [w1.2.1, take_one s pos h]
      exact h6
    · obtain ⟨e1, e2⟩ := piece_plain s pos h hbad hm
      have hin := wd_in s pos h
      have hsz := Lib.size_eq s
      have hl : (piece s pos).length = wd s pos := by rw [e1, List.length_take, List.length_drop]; omega
      rw [hl] at hi hb ⊢
      rw [e2]
      refine reads_run t s A 0 (wd s pos) acc i pos g hi (by omega) hg (fun k hk => ⟨?_, rune_fine s pos h hbad hm k hk⟩) hr
      rw [hb k hk, e1, take_get s pos (wd s pos) k hk (by omega), getD_bt]
theorem reads_quote (t s : ByteArray) (A : Option (List UInt8)) : ∀ f pos i acc g, pos ≤ s.size → s.size ≤ pos + f → t.size = i + (quoteF s f pos).length → (∀ k, k < (quoteF s f pos).length → bt t (i + k) = ((quoteF s f pos).getD k 0).toNat) →
    t.size ≤ i + g → acc = s.data.toList.take pos → Reads t A acc g i → A = some s.data.toList := by
  have hsz := Lib.size_eq s
  intro f
  induction f with
  | zero =>
    intro pos i acc g h1 h2 h3 h4 h5 h6 h7
    have := reads_end h7 (by simp [quoteF] at h3; omega)
    rw [this, h6, List.take_of_length_le (by omega)]
  | succ f ih =>
    intro pos i acc g h1 h2 h3 h4 h5 h6 h7
    by_cases h : pos < s.size
    · rw [quoteF_step h] at h3 h4
      rw [List.length_append] at h3 h4
      obtain ⟨g', h8, h9⟩ := reads_piece t s A acc i pos g h (by omega) h5 (fun k hk => by
        rw [h4 k (by omega), List.getD_eq_getElem?_getD, List.getD_eq_getElem?_getD, List.getElem?_append_left hk]) h7
      refine ih (pos + stp s pos) (i + (piece s pos).length) _ g' (wd_in s pos h) (by have := stp_pos s pos; omega) (by omega) (fun k hk => ?_) h8 ?_ h9
      · rw [Nat.add_assoc, h4 _ (by omega), List.getD_eq_getElem?_getD, List.getD_eq_getElem?_getD, List.getElem?_append_right (by omega), Nat.add_sub_cancel_left]
      · rw [h6, List.take_add]
    · rw [quoteF_end h] at h3
      have := reads_end h7 (by simp at h3; omega)
      rw [this, h6, List.take_of_length_le (by omega)]
/-- What was put between quotes is read as it was. -/
theorem unq_quote (s : ByteArray) : unqP ⟨(quoteP s).toArray⟩ = some s.data.toList := by
  have hl := quoteP_len s
  obtain ⟨q, hq⟩ : ∃ q : ByteArray, q = ⟨(quoteP s).toArray⟩ := ⟨_, rfl⟩
  have hr := quoteP_right s
  have hsz : q.size = (quoteP s).length := by rw [hq, size_list]
  have hbt : ∀ i, bt q i = ((quoteP s).getD i 0).toNat := by intro i; rw [hq, bt_list]
  rw [← hq] at hr ⊢
  have hlen : (quoteP s).length = (quoteF s s.size 0).length + 2 := by unfold quoteP; simp
  have hget : ∀ k, k < (quoteF s s.size 0).length → (quoteP s).getD (1 + k) 0 = (quoteF s s.size 0).getD k 0 := by
    intro k hk
    unfold quoteP
    rw [List.cons_append, Nat.add_comm, List.getD_cons_succ, List.getD_eq_getElem?_getD, List.getD_eq_getElem?_getD, List.getElem?_append_left hk]
  have hlast : (quoteP s).getD ((quoteF s s.size 0).length + 1) 0 = 34 := by
    unfold quoteP
    rw [List.cons_append, List.getD_cons_succ, List.getD_eq_getElem?_getD, List.getElem?_append_right (Nat.le_refl _), Nat.sub_self]
    rfl
  have hf : framed q := by
    refine ⟨by omega, ?_, ?_, by omega⟩
    · rw [hbt]; rfl
    · rw [hbt, show q.size - 1 = (quoteF s s.size 0).length + 1 by omega, hlast]; rfl
  unfold unqP
  rw [if_pos hf]
  have hts : (q.extract 1 (q.size - 1)).size = (quoteF s s.size 0).length := by rw [ext_size _ _ _ (by omega)]; omega
  refine reads_quote (q.extract 1 (q.size - 1)) s _ s.size 0 0 [] (q.size - 2) (Nat.zero_le _) (by omega) (by rw [hts]; omega) (fun k hk => ?_) (by omega) (by simp) (reads_start _ _)
  rw [Nat.zero_add, ext_bt q 1 (q.size - 1) k (by omega) (by omega), hbt, hget k hk]
end Go.Proofs.Ytiedmlpeeebeeaa
