/-
  rundlelaw02.BoxHolds: for every input the law returns true, and its arguments read afterwards as before. No condition.
-/
import Derived.Test.YtcaomobbpgpplaaRows
import Derived.Test.YtcaomobbpgpplaaHoldsNum
import Derived.Test.YtcaomobbpgpplaaHoldsName
import Derived.Test.YtcaomobbpgpplaaHoldsText
import Derived.Test.YtcaomobbpgpplaaHoldsNone
import Derived.WalkKit
import Derived.ProofKit
import Derived.OpenShut
import Derived.ShutString
import Derived.ChangeOld
import Derived.Below
import Derived.Lib.SmallJoins
namespace Go.Proofs.Ytcaomobbpgpplaa
open Go.ChangeShapes Go.WideShapes Go.ChangeAt Go.RowKit Go.Joins

/-- The law at every box. -/
theorem holds_any (k n : Int) (s : ByteArray) (w : World) :
    Calls Try.prog 4 #[.agg #[.int .i64 k, .int .i64 n, .string s]] w fun e w' => e = .returned (.bool true) ∧ Below w.heap.size w w' := by
  by_cases hs : 300 < s.size
  · exact holds_big k n s hs w
  · have hs' : s.size ≤ 300 := by omega
    by_cases h1 : k = 1
    · subst h1; exact holds_num n s hs' w
    · by_cases h2 : k = 2
      · subst h2; exact holds_name n s hs' w
      · by_cases h3 : k = 3
        · subst h3; exact holds_text n s hs' w
        · exact holds_none k (by simpa using h1) (by simpa using h2) (by simpa using h3) n s hs' w

theorem boxHolds_own : ownKnob Try.prog.godebug = none := by kernel_rfl
theorem boxHolds_laidOut : laidOutB Try.prog = true := by kernel_rfl
theorem boxHolds_cells : Try.prog.cellsOf 23 = 3 := by kernel_rfl

set_option maxRecDepth 100000 in
theorem boxHolds_lifted (os : Os) (started : os.Started) (H : Type) (enc : TypeId × Value → H) :
    ReturnsInHanded {} Try.checked os 4 .any (Rows.boxHoldsSpec.pre6 enc Try.prog Try.f4 Rows.boxHoldsRow.domain false) (Rows.boxHoldsSpec.post enc Try.prog Try.f4 false true false false) := by
  refine returnsInHanded_of_change (C := Try.checked) boxHolds_own started (by kernel_rfl) Try.func4
    (ChangeSpec.witness6 (enc := enc) (C := Try.checked) false ⟨#[], #[.agg #[.int .i64 0, .int .i64 0, .string ⟨#[]⟩]], []⟩ 8 (by kernel_rfl) (by kernel_rfl) (by kernel_rfl) (by kernel_rfl)) ?_
  intro W base args ds gs before hval0 hW hcnd _
  have hval : ∀ (j : Nat) t v, Try.f4.params[j]? = some t → args[j]? = some v → Value.okWide Try.prog W .any base t v := hval0
  have hW' := hW
  obtain ⟨p, q, hA0, hV, rfl, hfz, hnd⟩ := hW
  have hA : DataW.TrodAll enc Try.prog W 0 (fun _ => true) true Try.f4.params.toList args.toList ds p := hA0
  rw [Try.params4] at hA hval
  obtain ⟨v0, vs0, d0, ds0, p0, q0, hargs, rfl, rfl, h0, r0⟩ := trodAll_cons hA
  obtain ⟨rfl, rfl, rfl⟩ := trodAll_nil r0
  obtain rfl : args = #[v0] := by cases args; simp_all
  obtain ⟨rfl, rfl⟩ := trodVars_none hV
  have k0 := h0
  have lt0 : ∀ x ∈ p0, x.block < W.heap.size := by obtain ⟨m, hm⟩ := k0; exact DataW.trod_lt m _ _ _ hm
  obtain ⟨ka0, na0, sa0, e0⟩ : ∃ (k n : Int) (s : ByteArray), v0 = .agg #[.int .i64 k, .int .i64 n, .string s] := by
    obtain ⟨c0, c1, c2, y0, y1, y2, m, rfl, _, _, hy0, hy1, hy2⟩ := open_agg3 Try.underlying23 (by kernel_rfl) boxHolds_cells (hval 0 23 v0 rfl rfl) h0
    obtain ⟨a, e0, _, _⟩ := DataW.trod_int Try.underlying3 hy0
    obtain ⟨b, e1, _, _⟩ := DataW.trod_int Try.underlying3 hy1
    obtain ⟨c, e2, _, _⟩ := DataW.trod_string Try.underlying9 hy2
    simp at e0 e1 e2
    subst e0 e1 e2
    exact ⟨_, _, _, rfl⟩
  subst e0
  clear hA0 hval0
  refine (holds_any ka0 na0 sa0 W).mono fun e W' ⟨he, bel⟩ => ?_
  subst he
  exact ⟨_, rfl, _, _, _, [], _, [], hW', trodAll_mk1 (shut_bool Try.underlying4 _), (trodAll_cons_mk (Below.trod boxHolds_laidOut (by kernel_rfl) (of_decide_eq_true (by kernel_rfl)) k0 bel lt0) trodAll_mk0), rfl, bel.frame _, fun h => by cases h⟩

theorem boxHolds_holds : Rows.BoxHoldsSaid :=
  OpenClaim.holds_of_wide 4 Try.f4 rfl rfl rfl rfl rfl rfl rfl ⟨rfl, rfl, rfl, rfl, rfl⟩ rfl rfl rfl rfl rfl (by kernel_rfl) Try.func4 (by kernel_rfl)
    (of_decide_eq_true (by kernel_rfl)) (by unfold Func.isWrapper; first | (rw [if_pos (by decide +kernel)]; kernel_rfl) | (rw [if_neg (by decide +kernel)]; exact ⟨rfl, rfl⟩))
    (fun os started H enc _ => boxHolds_lifted os started H enc)
#print axioms boxHolds_holds
end Go.Proofs.Ytcaomobbpgpplaa
