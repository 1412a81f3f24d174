/-
  The contract of runes.Quote: it answers what quoteP says. Condition: a text no longer than 4000.
-/
import Derived.Test.YtiedmlpeeebeeaaRight
import Derived.Test.YtiedmlpeeebeeaaQuo
namespace Go.Proofs.Ytiedmlpeeebeeaa
open Go.RowKit
set_option linter.unusedSimpArgs false

/-- The program's digits, as cells. -/
theorem digit_get (n : Nat) (hn : n < 16) (h : n < (⟨#[48, 49, 50, 51, 52, 53, 54, 55, 56, 57, 97, 98, 99, 100, 101, 102]⟩ : ByteArray).size) : (⟨#[48, 49, 50, 51, 52, 53, 54, 55, 56, 57, 97, 98, 99, 100, 101, 102]⟩ : ByteArray)[n]'h = hx n := by
  have e := digit_at ⟨n, hn⟩
  rw [← e]
  show (#[48, 49, 50, 51, 52, 53, 54, 55, 56, 57, 97, 98, 99, 100, 101, 102] : Array UInt8)[n]'h = (#[48, 49, 50, 51, 52, 53, 54, 55, 56, 57, 97, 98, 99, 100, 101, 102] : Array UInt8)[n]!
  rw [getElem!_pos _ n h]
theorem bad_cells (acc : List UInt8) (n m : Nat) (hn : n < 16) (hm : m < 16) : Lib.byteCells (acc ++ [92, 120, hx n, hx m]) = ((Lib.byteCells acc ++ Lib.strCells ⟨#[92, 120]⟩) ++ [.int .u8 (((⟨#[48, 49, 50, 51, 52, 53, 54, 55, 56, 57, 97, 98, 99, 100, 101, 102]⟩ : ByteArray)[n]'hn).toNat : Int)]) ++ [.int .u8 (((⟨#[48, 49, 50, 51, 52, 53, 54, 55, 56, 57, 97, 98, 99, 100, 101, 102]⟩ : ByteArray)[m]'hm).toNat : Int)] := by
  rw [digit_get n hn hn, digit_get m hm hm, show acc ++ [92, 120, hx n, hx m] = ((acc ++ [92, 120]) ++ [hx n]) ++ [hx m] by simp, Lib.byteCells_append, Lib.byteCells_append, Lib.byteCells_append]
  rfl

theorem used {B b : Nat} {bs : List Value} {w : World} (h : Lib.BuilderAtF 39 5 B b (.pointer (some ⟨b, 0, none⟩)) bs w) : Lib.IsBuilderF 39 5 B b bs w := Or.inr h

set_option maxHeartbeats 4000000 in
set_option maxRecDepth 1000000 in
theorem quote_any (s : ByteArray) (hs : s.size ≤ 4000) (w : World) :
    Calls Try.prog 11 #[.string s] w fun e w' => e = .returned (.string ⟨(quoteP s).toArray⟩) ∧ Below w.heap.size w w' := by
  have WH := Lib.hid (whole_any s)
  go_enter Try.func11, Try.ntmps11
  go_wp2_with (go_at_call 24; ((with_reducible refine (write_byte w.heap.size w.heap.size [] 34 _ (Lib.IsBuilderF.of (Lib.fresh_isBuilder 39 5 w)) (by simp) (by simp)).mono ?_)))
  rintro e W1 ⟨rfl, h1, b1, k1⟩
  have h1' : Lib.BuilderAtF 39 5 w.heap.size w.heap.size (.pointer (some ⟨w.heap.size, 0, none⟩)) (Lib.byteCells [34]) W1 := h1
  have bW : Below w.heap.size w W1 := ((Below.refl _ w).alloc (Nat.le_refl _) _).trans b1
  have hzW := b1.size
  simp at hzW
  clear h1 b1 k1
  obtain ⟨k, hk⟩ : ∃ k, k = W1.heap.size := ⟨_, rfl⟩
  have hkw : w.heap.size < k := by omega
  go_wp2_with fail
  rw [← hk]
  have HK := Lib.hid hk
  clear hk
  go_loopw [] (fun wr => ∃ (pos fuel : Nat) (acc : List UInt8), Lib.IsBuilderF 39 5 w.heap.size w.heap.size (Lib.byteCells acc) wr ∧ wr.heap[k]? = some (.stringIter s pos) ∧ Below w.heap.size w wr ∧ acc ++ quoteF s fuel pos = 34 :: quoteF s s.size 0 ∧ s.size ≤ pos + fuel ∧ acc.length ≤ 1 + 4 * pos ∧ pos ≤ s.size) (fun wr => s.size - wr.iterPos k)
  case atStart =>
    refine ⟨0, s.size, [34], Lib.IsBuilderF.alloc (Or.inr h1') _, ?_, bW.alloc (by omega) _, rfl, by omega, by simp, by omega⟩
    rw [HK.out]
    have := World.iter_heap W1 s 0
    simpa using this
  case round =>
    obtain ⟨pos, fuel, acc, hI, hit, hbw, hacc, hfu, hal, hple⟩ := hrel
    have hsz : k < wr.heap.size := (Array.getElem?_eq_some_iff.1 hit).1
    by_cases hp : pos < s.size
    · have hnx : ∀ ty, (Instr.next (.pointer (some ⟨k, 0, none⟩)) true ty).run Try.prog wr = _ := fun ty => Lib.run_next_any_at wr k s pos ty hit hp
      have hI2 := hI.iterAt hit (pos + (Utf8.decode s pos).2)
      have hit2 := Lib.iterAt_heap wr k s pos (pos + (Utf8.decode s pos).2) hit
      have hbw2 := Lib.below_iterAt hbw (k := k) (by omega) s (pos + (Utf8.decode s pos).2)
      have hsz2 : w.heap.size ≤ (wr.iterAt k s (pos + (Utf8.decode s pos).2)).heap.size := by rw [Lib.iterAt_size]; omega
      obtain ⟨f, rfl⟩ : ∃ f, fuel = f + 1 := ⟨fuel - 1, by omega⟩
      have hps := stp_pos s pos
      have hin := wd_in s pos hp
      have hst := quoteF_step hp f
      have hpl := piece_le s pos hp
      have hd1 := dec1 hp
      rw [← dec2 hp] at hps hin hst hpl
      rw [hst, ← List.append_assoc] at hacc
      have HA := Lib.hid hacc
      have HL := Lib.hid hpl
      have WW := Lib.hid (WH.out pos hp)
      clear hst hacc hpl WH
      obtain ⟨st, hst⟩ : ∃ st, st = (Utf8.decode s pos).2 := ⟨_, rfl⟩
      rw [← hst] at hI2 hit2 hbw2 hsz2 hps hin HA HL hnx
      obtain ⟨V, hV⟩ : ∃ V, V = wr.iterAt k s (pos + st) := ⟨_, rfl⟩
      rw [← hV] at hI2 hit2 hbw2 hsz2 hnx
      obtain ⟨r, hr⟩ : ∃ r, r = (Utf8.decode s pos).1 := ⟨_, rfl⟩
      rw [← hr] at WW hnx hd1
      clear hst hV hr
      have CL := Lib.hid (class_any (r : Int))
      have hrl := rn_le hp
      rw [← hd1] at hrl
      have HD := Lib.hid hd1
      by_cases hm : bt s pos = 34 ∨ bt s pos = 92
      · have hpc := piece_mark hp hm
        have hr4 : classP (r : Int) = 4 := by
          have := rn_small hp 34 (by omega)
          have := rn_small hp 92 (by omega)
          have hq : (r : Int) = 34 ∨ (r : Int) = 92 := by omega
          rcases hq with e | e <;> rw [e] <;> rfl
        rw [← hd1] at hpc
        have HP := Lib.hid hpc
        rw [hr4] at CL
        clear hpc hr4 hm hd1 WW
        go_wp2_with (first | (go_at_call 13; ((with_reducible refine (CL.out _).mono ?_); rintro e w' ⟨rfl, rfl⟩)) | (go_at_call 24; ((with_reducible refine (write_byte w.heap.size w.heap.size (Lib.byteCells acc) 92 _ hI2 (by rw [Lib.byteCells_length]; omega) hsz2).mono ?_))))
        rintro e V1 ⟨rfl, h1, b1, k1⟩
        have z1 := b1.size
        go_wp2_with (go_at_call 25; ((with_reducible refine (write_rune w.heap.size w.heap.size _ (r : Int) (by omega) (by omega) _ (used h1) (by rw [List.length_append, Lib.byteCells_length, List.length_singleton]; omega) (by omega)).mono ?_)))
        rintro e V2 ⟨rfl, h2, b2, k2⟩
        go_wp2
        go_roundw
        case rel =>
          have hc : Lib.byteCells (acc ++ piece s pos) = (Lib.byteCells acc ++ [.int .u8 92]) ++ Lib.runeCells (r : Int) := by
            rw [HP.out, show acc ++ 92 :: Lib.encodeRune (r : Int) = (acc ++ [92]) ++ Lib.encodeRune (r : Int) by simp, Lib.byteCells_append, Lib.byteCells_append, Lib.byteCells_encodeRune]; rfl
          refine ⟨pos + st, f, acc ++ piece s pos, by rw [hc]; exact Or.inr h2, k2.iter (k1.iter hit2 (by omega)) (by omega), (hbw2.trans b1).trans b2, HA.out, by omega, ?_, hin⟩
          have := HL.out
          rw [List.length_append]
          omega
        case measure =>
          simp only [World.iterPos, k2.iter (k1.iter hit2 (by omega)) (by omega), hit]
          omega
      · have hc4 : classP (r : Int) ≠ 4 := by
          have q1 := rn_small hp 34 (by omega)
          have q2 := rn_small hp 92 (by omega)
          unfold classP
          split
          · omega
          split
          · omega
          split
          · omega
          split
          · omega
          split <;> omega
        obtain ⟨c, hcc⟩ : ∃ c, c = classP (r : Int) := ⟨_, rfl⟩
        rw [← hcc] at hc4 CL
        have hc5 : (c == 4) = false := by simpa using hc4
        clear hcc hc4
        by_cases hb : wd s pos = 0 ∨ bt s pos < 32 ∨ bt s pos = 127
        · have hpc := piece_bad hb
          have HP := Lib.hid hpc
          clear hpc hm
          have hl2 : (Lib.byteCells acc).length + (⟨#[92, 120]⟩ : ByteArray).size ≤ 140737488355328 := by
            rw [Lib.byteCells_length]; show acc.length + 2 ≤ _; omega
          have hl3 : (⟨#[92, 120]⟩ : ByteArray).size = 2 := rfl
          have hbt := bt_eq s pos hp
          have hp' : (pos : Int) < (s.size : Int) := by omega
          have lx := bt_lt s pos
          rw [hbt] at lx
          have x0 : (0 : Int) ≤ ((s[pos]'hp).toNat : Int) / 16 := by omega
          have x1 : ((s[pos]'hp).toNat : Int) / 16 < 16 := by omega
          have y0 : (0 : Int) ≤ ((s[pos]'hp).toNat : Int) % 16 := by omega
          have y1 : ((s[pos]'hp).toNat : Int) % 16 < 16 := by omega
          have h1 : wd s pos = 0 ∨ (r : Int) < 32 ∨ r = 127 := by
            rcases hb with h | h | h
            · exact .inl h
            · have := (wd_one hp (show bt s pos < 128 by omega)).2.2; omega
            · have := (wd_one hp (show bt s pos < 128 by omega)).2.2; omega
          by_cases hz : wd s pos = 0
          · have hr5 : r = 65533 := by rw [hd1]; unfold rn; rw [if_pos hz]
            have h6 : ¬ (r : Int) < 32 := by omega
            have h7 : ((r : Int) == 127) = false := by simp; omega
            rw [show decide (wd s pos ≠ 0) = false by simp [hz]] at WW
            clear hz h1 hb hd1 hr5
            go_wp2_with (first | (go_at_call 13; ((with_reducible refine (CL.out _).mono ?_); rintro e w' ⟨rfl, rfl⟩)) | (go_at_call 26; ((with_reducible refine (WW.out _).mono ?_); rintro e w' ⟨rfl, rfl⟩)) | (go_at_call 27; ((with_reducible refine (write_string w.heap.size w.heap.size (Lib.byteCells acc) ⟨#[92, 120]⟩ _ hI2 hl2 hsz2).mono ?_))))
            rintro e V1 ⟨rfl, h4, b1, k1⟩
            have z1 := b1.size
            go_wp2_with (go_at_call 24; ((with_reducible refine (write_byte w.heap.size w.heap.size _ _ _ (used h4) (by rw [List.length_append, Lib.byteCells_length, Lib.strCells_length]; omega) (by omega)).mono ?_)))
            rintro e V2 ⟨rfl, h5, b2, k2⟩
            have z2 := b2.size
            go_wp2_with (go_at_call 24; ((with_reducible refine (write_byte w.heap.size w.heap.size _ _ _ (used h5) (by rw [List.length_append, List.length_append, Lib.byteCells_length, Lib.strCells_length, List.length_singleton]; omega) (by omega)).mono ?_)))
            rintro e V3 ⟨rfl, h6, b3, k3⟩
            go_wp2
            go_roundw
            case rel =>
              have hc := bad_cells acc ((s[pos]'hp).toNat / 16) ((s[pos]'hp).toNat % 16) (by omega) (by omega)
              rw [hbt] at HP
              refine ⟨pos + st, f, acc ++ piece s pos, by rw [HP.out, hc]; exact Or.inr h6, k3.iter (k2.iter (k1.iter hit2 (by omega)) (by omega)) (by omega), ((hbw2.trans b1).trans b2).trans b3, HA.out, by omega, ?_, hin⟩
              have := HL.out
              rw [List.length_append]
              omega
            case measure =>
              simp only [World.iterPos, k3.iter (k2.iter (k1.iter hit2 (by omega)) (by omega)) (by omega), hit]
              omega
          · by_cases h3 : (r : Int) < 32
            · clear WW hz h1 hb hd1
              go_wp2_with (first | (go_at_call 13; ((with_reducible refine (CL.out _).mono ?_); rintro e w' ⟨rfl, rfl⟩)) | (go_at_call 26; ((with_reducible refine (WW.out _).mono ?_); rintro e w' ⟨rfl, rfl⟩)) | (go_at_call 27; ((with_reducible refine (write_string w.heap.size w.heap.size (Lib.byteCells acc) ⟨#[92, 120]⟩ _ hI2 hl2 hsz2).mono ?_))))
              rintro e V1 ⟨rfl, h4, b1, k1⟩
              have z1 := b1.size
              go_wp2_with (go_at_call 24; ((with_reducible refine (write_byte w.heap.size w.heap.size _ _ _ (used h4) (by rw [List.length_append, Lib.byteCells_length, Lib.strCells_length]; omega) (by omega)).mono ?_)))
              rintro e V2 ⟨rfl, h5, b2, k2⟩
              have z2 := b2.size
              go_wp2_with (go_at_call 24; ((with_reducible refine (write_byte w.heap.size w.heap.size _ _ _ (used h5) (by rw [List.length_append, List.length_append, Lib.byteCells_length, Lib.strCells_length, List.length_singleton]; omega) (by omega)).mono ?_)))
              rintro e V3 ⟨rfl, h6, b3, k3⟩
              go_wp2
              go_roundw
              case rel =>
                have hc := bad_cells acc ((s[pos]'hp).toNat / 16) ((s[pos]'hp).toNat % 16) (by omega) (by omega)
                rw [hbt] at HP
                refine ⟨pos + st, f, acc ++ piece s pos, by rw [HP.out, hc]; exact Or.inr h6, k3.iter (k2.iter (k1.iter hit2 (by omega)) (by omega)) (by omega), ((hbw2.trans b1).trans b2).trans b3, HA.out, by omega, ?_, hin⟩
                have := HL.out
                rw [List.length_append]
                omega
              case measure =>
                simp only [World.iterPos, k3.iter (k2.iter (k1.iter hit2 (by omega)) (by omega)) (by omega), hit]
                omega
            · have h6 : ((r : Int) == 127) = true := by simp; omega
              clear WW hz h1 hb hd1
              go_wp2_with (first | (go_at_call 13; ((with_reducible refine (CL.out _).mono ?_); rintro e w' ⟨rfl, rfl⟩)) | (go_at_call 26; ((with_reducible refine (WW.out _).mono ?_); rintro e w' ⟨rfl, rfl⟩)) | (go_at_call 27; ((with_reducible refine (write_string w.heap.size w.heap.size (Lib.byteCells acc) ⟨#[92, 120]⟩ _ hI2 hl2 hsz2).mono ?_))))
              rintro e V1 ⟨rfl, h4, b1, k1⟩
              have z1 := b1.size
              go_wp2_with (go_at_call 24; ((with_reducible refine (write_byte w.heap.size w.heap.size _ _ _ (used h4) (by rw [List.length_append, Lib.byteCells_length, Lib.strCells_length]; omega) (by omega)).mono ?_)))
              rintro e V2 ⟨rfl, h5, b2, k2⟩
              have z2 := b2.size
              go_wp2_with (go_at_call 24; ((with_reducible refine (write_byte w.heap.size w.heap.size _ _ _ (used h5) (by rw [List.length_append, List.length_append, Lib.byteCells_length, Lib.strCells_length, List.length_singleton]; omega) (by omega)).mono ?_)))
              rintro e V3 ⟨rfl, h6, b3, k3⟩
              go_wp2
              go_roundw
              case rel =>
                have hc := bad_cells acc ((s[pos]'hp).toNat / 16) ((s[pos]'hp).toNat % 16) (by omega) (by omega)
                rw [hbt] at HP
                refine ⟨pos + st, f, acc ++ piece s pos, by rw [HP.out, hc]; exact Or.inr h6, k3.iter (k2.iter (k1.iter hit2 (by omega)) (by omega)) (by omega), ((hbw2.trans b1).trans b2).trans b3, HA.out, by omega, ?_, hin⟩
                have := HL.out
                rw [List.length_append]
                omega
              case measure =>
                simp only [World.iterPos, k3.iter (k2.iter (k1.iter hit2 (by omega)) (by omega)) (by omega), hit]
                omega
        · have hpc := piece_else hp hm hb
          rw [← hd1] at hpc
          have HP := Lib.hid hpc
          rw [show decide (wd s pos ≠ 0) = true by simp; omega] at WW
          have h1 : ¬ (r : Int) < 32 := by
            intro h
            have := rn_small hp r (by omega)
            omega
          have h2 : ¬ r = 127 := by
            intro h
            have := rn_small hp 127 (by omega)
            omega
          have h3 : ((r : Int) == 127) = false := by simp; omega
          clear hpc hm hb hd1
          go_wp2_with (first | (go_at_call 13; ((with_reducible refine (CL.out _).mono ?_); rintro e w' ⟨rfl, rfl⟩)) | (go_at_call 26; ((with_reducible refine (WW.out _).mono ?_); rintro e w' ⟨rfl, rfl⟩)) | (go_at_call 25; ((with_reducible refine (write_rune w.heap.size w.heap.size _ (r : Int) (by omega) (by omega) _ hI2 (by rw [Lib.byteCells_length]; omega) (by omega)).mono ?_))))
          rintro e V2 ⟨rfl, h4, b2, k2⟩
          go_wp2
          go_roundw
          case rel =>
            have hc : Lib.byteCells (acc ++ piece s pos) = Lib.byteCells acc ++ Lib.runeCells (r : Int) := by
              rw [HP.out, Lib.byteCells_append, Lib.byteCells_encodeRune]
            refine ⟨pos + st, f, acc ++ piece s pos, by rw [hc]; exact Or.inr h4, k2.iter hit2 (by omega), hbw2.trans b2, HA.out, by omega, ?_, hin⟩
            have := HL.out
            rw [List.length_append]
            omega
          case measure =>
            simp only [World.iterPos, k2.iter hit2 (by omega), hit]
            omega
    · have hnx : ∀ ty, (Instr.next (.pointer (some ⟨k, 0, none⟩)) true ty).run Try.prog wr = _ := fun ty => Lib.run_next_end_at wr k s pos ty hit hp
      rw [quoteF_end hp, List.append_nil] at hacc
      have HA := Lib.hid hacc
      clear hacc WH
      go_wp2_with (go_at_call 24; ((with_reducible refine (write_byte w.heap.size w.heap.size (Lib.byteCells acc) 34 _ hI (by rw [Lib.byteCells_length]; omega) (by omega)).mono ?_)))
      rintro e W2 ⟨rfl, h2, b2, k2⟩
      have h2' : Lib.IsBuilderF 39 5 w.heap.size w.heap.size (Lib.byteCells (acc ++ [34])) W2 := by rw [Lib.byteCells_append]; exact Or.inr h2
      have hz2 := b2.size
      go_wp2_with (go_at_call 28; ((with_reducible refine (Try.Builder_String_any_k w.heap.size w.heap.size (acc ++ [34]) _ h2' (by omega)).mono ?_)))
      rintro e W3 ⟨rfl, _, b3, _⟩
      go_wp2
      go_ret
      exact ⟨by rw [HA.out]; rfl, (hbw.trans b2).trans b3⟩
end Go.Proofs.Ytiedmlpeeebeeaa
