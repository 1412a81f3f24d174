/-
  No cell of these rows narrows 'for every input' (looked for: loops, veiled, ifaces, maps, wideKeys, modest, calm, conditions, laid).
  DERIVED. THE GIVEN ROWS OF THIS SEAT. 4 by the template 'for every input the law returns true; each argument reads behind the call as it read before'; 0 by the template 'total and deterministic' (their statements: YtcaomobbpgpplaaTotals.lean).
  GIVEN WITH THE SEED: the statements are not yours to turn. If you find one false, say at which input.
  Laid BY PROGRAM, IN A SANDBOX (cutbox-rows.mjs): the forced cells as the released guide's own fill.sh prints them over the translation 9c435f4be8924849… (all of the seat's roots in one cut). By AI agents, Wed Nov 11 2026. No macro, syntax, notation, axiom, sorry.
-/
import Derived.Test.YtcaomobbpgpplaaChecked
import GoSem.Claim
import GoSem.ClaimJoined
import GoSem.ClaimMapViews
import Derived.JoinedTies
import Derived.KernelRfl
namespace Go.Proofs.Ytcaomobbpgpplaa
/- THE CELL 'sum', in the pinned program and in every row, IS THE sha256 OF THE DUMP (.gsa) THAT YtcaomobbpgpplaaProg.lean LOADS. Nothing in Lean hashes anything: it is a label: what it is worth is what the hold of that sum in a sandbox is worth. -/
noncomputable def Try.pinned : Pinned := { name := "ytcaomobbpgpplaa", sum := "9c435f4be8924849f41a202940fe6dc60a9acc5bc31c09489ac21c9ac76c1278", checked := Try.checked }
namespace Rows
def none {H : Type} : Left H := { results := [], args := [] }

/-- 'rundlelaw02.BoxMust': WHATEVER THE INPUT: true; the input reads as it did. -/
def boxMustSpec : ChangeSpec := { name := "boxMust", fn := fun _ => fun
  | [d] => { results := [.lit (.bool true)], args := [d] }
  | _ => none }
def boxMustRow : OpenClaim := { program := "ytcaomobbpgpplaa", sum := "9c435f4be8924849f41a202940fe6dc60a9acc5bc31c09489ac21c9ac76c1278", func := "rundle/rundlelaw02.BoxMust", spec := "boxMust", unfollowed := true, recurses := true, apart := false }
def BoxMustSaid : Prop := boxMustRow.holds Try.pinned (OpenSpec.ofChange boxMustSpec)

/-- ITS FALSE NEIGHBOUR: 'it returns false'. Refute it at one input. -/
def boxMustWrong : ChangeSpec := { name := "boxMust", fn := fun _ => fun
  | [d] => { results := [.lit (.bool false)], args := [d] }
  | _ => none }
def BoxMustWrongFalsely : Prop := boxMustRow.holds Try.pinned (OpenSpec.ofChange boxMustWrong)

/-- 'rundlelaw02.BoxHolds': WHATEVER THE INPUT: true; the input reads as it did. -/
def boxHoldsSpec : ChangeSpec := { name := "boxHolds", fn := fun _ => fun
  | [d] => { results := [.lit (.bool true)], args := [d] }
  | _ => none }
def boxHoldsRow : OpenClaim := { program := "ytcaomobbpgpplaa", sum := "9c435f4be8924849f41a202940fe6dc60a9acc5bc31c09489ac21c9ac76c1278", func := "rundle/rundlelaw02.BoxHolds", spec := "boxHolds", apart := false }
def BoxHoldsSaid : Prop := boxHoldsRow.holds Try.pinned (OpenSpec.ofChange boxHoldsSpec)

/-- ITS FALSE NEIGHBOUR: 'it returns false'. Refute it at one input. -/
def boxHoldsWrong : ChangeSpec := { name := "boxHolds", fn := fun _ => fun
  | [d] => { results := [.lit (.bool false)], args := [d] }
  | _ => none }
def BoxHoldsWrongFalsely : Prop := boxHoldsRow.holds Try.pinned (OpenSpec.ofChange boxHoldsWrong)

/-- 'rundlelaw02.BoxCompares': WHATEVER THE INPUT: true; the input reads as it did. -/
def boxComparesSpec : ChangeSpec := { name := "boxCompares", fn := fun _ => fun
  | [d1, d2] => { results := [.lit (.bool true)], args := [d1, d2] }
  | _ => none }
def boxComparesRow : OpenClaim := { program := "ytcaomobbpgpplaa", sum := "9c435f4be8924849f41a202940fe6dc60a9acc5bc31c09489ac21c9ac76c1278", func := "rundle/rundlelaw02.BoxCompares", spec := "boxCompares", inPlace := ["internal/bytealg.abigen_runtime_cmpstring"], apart := false }
def BoxComparesSaid : Prop := boxComparesRow.holds Try.pinned (OpenSpec.ofChange boxComparesSpec)

/-- ITS FALSE NEIGHBOUR: 'it returns false'. Refute it at one input. -/
def boxComparesWrong : ChangeSpec := { name := "boxCompares", fn := fun _ => fun
  | [d1, d2] => { results := [.lit (.bool false)], args := [d1, d2] }
  | _ => none }
def BoxComparesWrongFalsely : Prop := boxComparesRow.holds Try.pinned (OpenSpec.ofChange boxComparesWrong)

/-- 'rundlelaw02.BoxOrder': WHATEVER THE INPUT: true; the input reads as it did. -/
def boxOrderSpec : ChangeSpec := { name := "boxOrder", fn := fun _ => fun
  | [d1, d2, d3] => { results := [.lit (.bool true)], args := [d1, d2, d3] }
  | _ => none }
def boxOrderRow : OpenClaim := { program := "ytcaomobbpgpplaa", sum := "9c435f4be8924849f41a202940fe6dc60a9acc5bc31c09489ac21c9ac76c1278", func := "rundle/rundlelaw02.BoxOrder", spec := "boxOrder", inPlace := ["internal/bytealg.abigen_runtime_cmpstring"], apart := false }
def BoxOrderSaid : Prop := boxOrderRow.holds Try.pinned (OpenSpec.ofChange boxOrderSpec)

/-- ITS FALSE NEIGHBOUR: 'it returns false'. Refute it at one input. -/
def boxOrderWrong : ChangeSpec := { name := "boxOrder", fn := fun _ => fun
  | [d1, d2, d3] => { results := [.lit (.bool false)], args := [d1, d2, d3] }
  | _ => none }
def BoxOrderWrongFalsely : Prop := boxOrderRow.holds Try.pinned (OpenSpec.ofChange boxOrderWrong)

/- THE SECOND FORM. 'bulk': how many values and letters a reading holds, each counted each time it is reached (what is shared counts as often as it is met; a slice's spare places count too). A statement '..UptoSaid' is the law's where the arguments, and the package variables that the reading takes, are together of bulk at most 1048576: NARROWER than '..Said'. Prove '..Said' where nothing that the law and all that it calls make is longer than what came in: it says more and counts as full. Else prove '..UptoSaid'. A law counts once. -/
mutual
def uptoBulk {H : Type} : DataW H → Nat
  | .lit (.string bytes) => bytes.length + 1
  | .lit _ => 1
  | .nil => 1
  | .ptr d => uptoBulk d + 1
  | .slice elems spare => uptoBulkAll elems + uptoBulkAll spare + 1
  | .agg parts => uptoBulkAll parts + 1
  | .iface _ d => uptoBulk d + 1
  | .map entries => uptoBulkEntries entries + 1
  | .held _ => 1
def uptoBulkAll {H : Type} : List (DataW H) → Nat
  | [] => 0
  | d :: r => uptoBulk d + uptoBulkAll r
def uptoBulkEntries {H : Type} : List (Lit × DataW H) → Nat
  | [] => 0
  | x :: r => uptoBulkEntry x + uptoBulkEntries r
def uptoBulkEntry {H : Type} : Lit × DataW H → Nat
  | (.string bytes, d) => bytes.length + uptoBulk d + 1
  | (_, d) => uptoBulk d + 1
 end
def uptoSmall : (H : Type) → List (DataW H) → Bool := fun _ ds => decide (uptoBulkAll ds ≤ 1048576)
def OpenSpec.upto (s : _root_.Go.ChangeSpec) : _root_.Go.OpenSpec := { _root_.Go.OpenSpec.ofChange s with cond := some uptoSmall }

/-- 'rundlelaw02.BoxMust', WHERE WHAT IT READS IS OF BULK AT MOST 1048576: true; the input reads as it did. -/
def boxMustUptoRow : OpenClaim := { program := "ytcaomobbpgpplaa", sum := "9c435f4be8924849f41a202940fe6dc60a9acc5bc31c09489ac21c9ac76c1278", func := "rundle/rundlelaw02.BoxMust", spec := "boxMust", unfollowed := true, recurses := true, apart := false, narrowed := true }
def BoxMustUptoSaid : Prop := boxMustUptoRow.holds Try.pinned (OpenSpec.upto boxMustSpec)

/-- 'rundlelaw02.BoxHolds', WHERE WHAT IT READS IS OF BULK AT MOST 1048576: true; the input reads as it did. -/
def boxHoldsUptoRow : OpenClaim := { program := "ytcaomobbpgpplaa", sum := "9c435f4be8924849f41a202940fe6dc60a9acc5bc31c09489ac21c9ac76c1278", func := "rundle/rundlelaw02.BoxHolds", spec := "boxHolds", apart := false, narrowed := true }
def BoxHoldsUptoSaid : Prop := boxHoldsUptoRow.holds Try.pinned (OpenSpec.upto boxHoldsSpec)

/-- 'rundlelaw02.BoxCompares', WHERE WHAT IT READS IS OF BULK AT MOST 1048576: true; the input reads as it did. -/
def boxComparesUptoRow : OpenClaim := { program := "ytcaomobbpgpplaa", sum := "9c435f4be8924849f41a202940fe6dc60a9acc5bc31c09489ac21c9ac76c1278", func := "rundle/rundlelaw02.BoxCompares", spec := "boxCompares", inPlace := ["internal/bytealg.abigen_runtime_cmpstring"], apart := false, narrowed := true }
def BoxComparesUptoSaid : Prop := boxComparesUptoRow.holds Try.pinned (OpenSpec.upto boxComparesSpec)

/-- 'rundlelaw02.BoxOrder', WHERE WHAT IT READS IS OF BULK AT MOST 1048576: true; the input reads as it did. -/
def boxOrderUptoRow : OpenClaim := { program := "ytcaomobbpgpplaa", sum := "9c435f4be8924849f41a202940fe6dc60a9acc5bc31c09489ac21c9ac76c1278", func := "rundle/rundlelaw02.BoxOrder", spec := "boxOrder", inPlace := ["internal/bytealg.abigen_runtime_cmpstring"], apart := false, narrowed := true }
def BoxOrderUptoSaid : Prop := boxOrderUptoRow.holds Try.pinned (OpenSpec.upto boxOrderSpec)

end Rows
end Go.Proofs.Ytcaomobbpgpplaa
