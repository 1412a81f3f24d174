/-
  rundlelaw01.RunesJoins: for every input the law returns true, and its arguments read afterwards as before. No condition.
-/
import Derived.Test.YtiedmlpeeebeeaaRows
import Derived.Test.YtiedmlpeeebeeaaLawJoins2
import Derived.WalkKit
import Derived.ProofKit
import Derived.OpenShut
import Derived.ShutString
import Derived.ChangeOld
import Derived.Below
import Derived.Lib.SmallJoins
namespace Go.Proofs.Ytiedmlpeeebeeaa
open Go.ChangeShapes Go.WideShapes Go.ChangeAt Go.RowKit Go.Joins
set_option linter.unusedSimpArgs false
set_option linter.unusedVariables false

theorem runesJoins_own : ownKnob Try.prog.godebug = none := by kernel_rfl
theorem runesJoins_laidOut : laidOutB Try.prog = true := by kernel_rfl

/-- A row of numbers that came in: the first 'len' of its cells. -/
theorem joins_row (x : Addr) (len cap : Nat) (zs : List Int) (w : World) (hl : len ≤ cap) (hz : zs.length = cap)
    (hc : ∀ i, i < zs.length → w.cell? (x.add i) = some (.int .i32 (zs.getD i 0))) (hw : ∀ n ∈ zs, (Lit.int .i32 n).wf = true) :
    Calls Try.prog 7 #[.slice (some x) len cap] w fun e w' => e = .returned (.bool true) ∧ Below w.heap.size w w' := by
  by_cases h400 : 400 < len
  · exact joins_big _ _ _ h400 _
  · by_cases h0 : len = 0
    · subst h0
      exact joins_none _ _ _
    · have hlen : (zs.take len).length = len := by rw [List.length_take]; omega
      have hget : ∀ k, k < len → (zs.take len).getD k 0 = zs.getD k 0 := fun k hk => by
        simp [List.getD, List.getElem?_take, hk]
      have hx0 := hc 0 (by omega)
      have hb : x.block < w.heap.size := by
        have := World.block_lt_of_cell? (w := w) (a := x.add 0) hx0
        rwa [add_block] at this
      have J := joins_some (zs.take len) x cap w (by omega) (by omega)
        (fun k hk => by
          rw [hlen] at hk
          rw [hget k hk]
          have := range_i32 hw k
          rwa [← List.getD_eq_getElem?_getD] at this)
        (fun k hk => by
          rw [hlen] at hk
          rw [hget k hk]
          exact hc k (by omega)) hb
      rwa [hlen] at J

set_option maxRecDepth 100000 in
theorem runesJoins_lifted (os : Os) (started : os.Started) (H : Type) (enc : TypeId × Value → H) :
    ReturnsInHanded {} Try.checked os 7 .any (Rows.runesJoinsSpec.pre6 enc Try.prog Try.f7 Rows.runesJoinsRow.domain false) (Rows.runesJoinsSpec.post enc Try.prog Try.f7 false true false false) := by
  refine returnsInHanded_of_change (C := Try.checked) runesJoins_own started (by kernel_rfl) Try.func7
    (ChangeSpec.witness6 (enc := enc) (C := Try.checked) false ⟨#[], #[.slice none 0 0], []⟩ 8 (by kernel_rfl) (by kernel_rfl) (by kernel_rfl) (by kernel_rfl)) ?_
  intro W base args ds gs before hval0 hW hcnd _
  have hval : ∀ (j : Nat) t v, Try.f7.params[j]? = some t → args[j]? = some v → Value.okWide Try.prog W .any base t v := hval0
  have hW' := hW
  obtain ⟨p, q, hA0, hV, rfl, hfz, hnd⟩ := hW
  have hA : DataW.TrodAll enc Try.prog W 0 (fun _ => true) true Try.f7.params.toList args.toList ds p := hA0
  rw [Try.params7] at hA hval
  obtain ⟨v0, vs0, d0, ds0, p0, q0, hargs, rfl, rfl, h0, r0⟩ := trodAll_cons hA
  obtain ⟨rfl, rfl, rfl⟩ := trodAll_nil r0
  obtain rfl : args = #[v0] := by cases args; simp_all
  obtain ⟨rfl, rfl⟩ := trodVars_none hV
  obtain ⟨a0, len0, cap0, rfl⟩ := okWide_slice Try.underlying29 (hval 0 29 v0 rfl rfl)
  have k0 := h0
  have lt0 : ∀ x ∈ p0, x.block < W.heap.size := by obtain ⟨m, hm⟩ := k0; exact DataW.trod_lt m _ _ _ hm
  have hC : Calls Try.prog 7 #[.slice a0 len0 cap0] W fun e w' => e = .returned (.bool true) ∧ Below W.heap.size W w' := by
    obtain ⟨fuel, hf⟩ := h0
    rcases open_ints Try.underlying29 Try.underlying21 (by kernel_rfl) hf with ⟨hcs, _⟩ | ⟨x, l, c, zs, hcs, _, hl, hm, hz, _, hcell, hwz⟩
    · simp [Value.cells] at hcs
      obtain ⟨rfl, rfl, rfl⟩ := hcs
      exact joins_none none 0 W
    · simp [Value.cells] at hcs
      obtain ⟨rfl, rfl, rfl⟩ := hcs
      exact joins_row x len0 cap0 zs W hl (by simpa using hz) hcell hwz
  clear hA0 hval0
  refine hC.mono fun e W' ⟨he, bel⟩ => ?_
  subst he
  exact ⟨_, rfl, _, _, _, [], _, [], hW', trodAll_mk1 (shut_bool Try.underlying4 _), (trodAll_cons_mk (Below.trod runesJoins_laidOut (by kernel_rfl) (of_decide_eq_true (by kernel_rfl)) k0 bel lt0) trodAll_mk0), rfl, bel.frame _, fun h => by cases h⟩

theorem runesJoins_holds : Rows.RunesJoinsSaid :=
  OpenClaim.holds_of_wide 7 Try.f7 rfl rfl rfl rfl rfl rfl rfl ⟨rfl, rfl, rfl, rfl, rfl⟩ rfl rfl rfl rfl rfl (by kernel_rfl) Try.func7 (by kernel_rfl)
    (of_decide_eq_true (by kernel_rfl)) (by unfold Func.isWrapper; first | (rw [if_pos (by decide +kernel)]; kernel_rfl) | (rw [if_neg (by decide +kernel)]; exact ⟨rfl, rfl⟩))
    (fun os started H enc _ => runesJoins_lifted os started H enc)
#print axioms runesJoins_holds
end Go.Proofs.Ytiedmlpeeebeeaa
