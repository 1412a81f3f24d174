/-
  The call of BoxHolds answers true where the box's kind is that of name, and leaves what was there as it is. Condition: the text is no longer than 300.
-/
import Derived.Test.YtcaomobbpgpplaaHoldsNameNe
import Derived.Test.YtcaomobbpgpplaaHoldsNameNil
namespace Go.Proofs.Ytcaomobbpgpplaa
open Go.RowKit

theorem holds_name (n : Int) (s : ByteArray) (hs : s.size ≤ 300) (w : World) :
    Calls Try.prog 4 #[.agg #[.int .i64 2, .int .i64 n, .string s]] w fun e w' => e = .returned (.bool true) ∧ Below w.heap.size w w' := by
  by_cases h : s.data.toList = []
  · obtain rfl : s = (⟨#[]⟩ : ByteArray) := by
      cases s with
      | mk d => simp at h; rw [h]
    exact holds_name_nil n w
  · refine holds_name_ne n s ?_ hs w
    rw [ByteArray.toList_eq]
    simp at h ⊢
    exact h
end Go.Proofs.Ytcaomobbpgpplaa
