/-
  A law on regions that draw their order: what each operation that may come up keeps, holds at the end, in whatever order. Conditions: none.
-/
import Derived.Test.YtcaomobbpgpplaaOrd
import Derived.RegionTactic
namespace Go.Proofs.Ytcaomobbpgpplaa
open Go.RowKit

/-- How many are not yet listed. -/
def cntF : List Bool → Nat
  | [] => 0
  | b :: l => (if b then 0 else 1) + cntF l
theorem cntF_set : ∀ (l : List Bool) (i : Nat), l[i]? = some false → cntF (l.set i true) + 1 = cntF l
  | [], i, h => by simp at h
  | b :: l, 0, h => by
    simp at h
    subst h
    simp [cntF]
    omega
  | b :: l, i + 1, h => by
    have := cntF_set l i (by simpa using h)
    simp only [List.set_cons_succ, cntF]
    omega

section
variable {P : Program} {md : Region.Mode} {ops : Array Oper} {Q : Exit → Act → World → Prop}
theorem ready_mem {l : Array Bool} {i : Nat} (h : i ∈ Region.ready md ops l) :
    i < ops.size ∧ l.getD i true = false ∧ ∀ o, ops[i]? = some o → ∀ e ∈ o.after, Region.binds md e = true → l.getD e.on false = true := by
  unfold Region.ready at h
  rw [List.mem_filter, List.mem_range] at h
  obtain ⟨h1, h2⟩ := h
  rw [Bool.and_eq_true] at h2
  obtain ⟨h2, h3⟩ := h2
  refine ⟨h1, by simpa using h2, fun o ho e he hb => ?_⟩
  rw [ho] at h3
  simp only [Option.map_some, Option.getD_some, Array.all_eq_true_iff_forall_mem] at h3
  have := h3 e he
  rw [hb] at this
  simpa using this
theorem mem_ready {l : Array Bool} {i : Nat} (o : Oper) (h1 : ops[i]? = some o) (h2 : l.getD i true = false) (h3 : (o.after.all fun e => !Region.binds md e || l.getD e.on false) = true) :
    i ∈ Region.ready md ops l := by
  unfold Region.ready
  rw [List.mem_filter, List.mem_range]
  refine ⟨?_, ?_⟩
  · by_cases c : i < ops.size
    · exact c
    · rw [Array.getElem?_eq_none (Nat.le_of_not_lt c)] at h1
      cases h1
  · rw [h1, h2, Option.map_some, Option.getD_some, h3]
    rfl
theorem listed_get {l : Array Bool} {i : Nat} (h : l.getD i true = false) : l.toList[i]? = some false := by
  unfold Array.getD at h
  split at h
  · rename_i hi
    simp only [Array.getElem?_toList]
    rw [Array.getElem?_eq_getElem hi]
    exact congrArg some h
  · cases h

theorem wpAny_inv (I : Array Bool → Act → World → Prop)
    (hstep : ∀ l a w i, I l a w → i ∈ Region.ready md ops l → wpOp P ops Q i (fun a' w' => I (l.setIfInBounds i true) a' w') a w)
    (hend : ∀ l a w, I l a w → Region.ready md ops l = [] → Q .normal a w) :
    ∀ fuel l a w, I l a w → cntF l.toList ≤ fuel → wpAny P md ops Q fuel l a w := by
  intro fuel
  induction fuel with
  | zero =>
    intro l a w h hc
    have hr : Region.ready md ops l = [] := by
      refine List.eq_nil_iff_forall_not_mem.2 (fun i hi => ?_)
      have := cntF_set l.toList i (listed_get (ready_mem hi).2.1)
      omega
    exact ⟨hr, hend l a w h hr⟩
  | succ fuel ih =>
    intro l a w h hc
    refine ⟨hend l a w h, fun i hi => wpOp_mono (fun a' w' h' => ih _ a' w' h' ?_) (hstep l a w i h hi)⟩
    have := cntF_set l.toList i (listed_get (ready_mem hi).2.1)
    rw [Array.toList_setIfInBounds]
    omega
end
end Go.Proofs.Ytcaomobbpgpplaa
