/-
  The contract of the reference's Width: it answers the width. Conditions: a place within; no longer than 4000.
-/
import Derived.Test.YtiedmlpeeebeeaaWdA
import Derived.Test.YtiedmlpeeebeeaaWdC
import Derived.Test.YtiedmlpeeebeeaaWdD
namespace Go.Proofs.Ytiedmlpeeebeeaa
open Go.RowKit

theorem width_any (s : ByteArray) (i : Nat) (h : i < s.size) (hs : s.size ≤ 4000) (w : World) :
    Calls Try.prog 29 #[.string s, .int .i64 i] w fun e w' => e = .returned (.int .i64 (wd s i)) ∧ w = w' := by
  by_cases ka : bt s i < 128
  · exact width_a s i h hs ka w
  by_cases kz : (128 ≤ bt s i ∧ bt s i < 194) ∨ 245 ≤ bt s i
  · exact width_z s i h hs kz w
  by_cases kb : 194 ≤ bt s i ∧ bt s i < 224
  · exact width_b s i h hs kb w
  by_cases kc0 : bt s i = 224
  · exact width_c0 s i h hs kc0 w
  by_cases kc1 : 225 ≤ bt s i ∧ bt s i < 237
  · exact width_c1 s i h hs kc1 w
  by_cases kc2 : bt s i = 237
  · exact width_c2 s i h hs kc2 w
  by_cases kc3 : 238 ≤ bt s i ∧ bt s i < 240
  · exact width_c3 s i h hs kc3 w
  by_cases kd0 : bt s i = 240
  · exact width_d0 s i h hs kd0 w
  by_cases kd1 : 241 ≤ bt s i ∧ bt s i < 244
  · exact width_d1 s i h hs kd1 w
  exact width_d2 s i h hs (by omega) w
end Go.Proofs.Ytiedmlpeeebeeaa
