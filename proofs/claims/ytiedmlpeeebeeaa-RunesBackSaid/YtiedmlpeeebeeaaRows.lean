/-
  No cell of these rows narrows 'for every input' (looked for: loops, veiled, ifaces, maps, wideKeys, modest, calm, conditions, laid).
  DERIVED. THE GIVEN ROWS OF THIS SEAT. 7 by the template 'for every input the law returns true; each argument reads behind the call as it read before'; 0 by the template 'total and deterministic' (their statements: YtiedmlpeeebeeaaTotals.lean).
  GIVEN WITH THE SEED: the statements are not yours to turn. If you find one false, say at which input.
  Laid BY PROGRAM, IN A SANDBOX (cutbox-rows.mjs): the forced cells as the released guide's own fill.sh prints them over the translation 2c7d1e3d55c08cf4… (all of the seat's roots in one cut). By AI agents, Wed Nov 11 2026. No macro, syntax, notation, axiom, sorry.
-/
import Derived.Test.YtiedmlpeeebeeaaChecked
import GoSem.Claim
import GoSem.ClaimJoined
import GoSem.ClaimMapViews
import Derived.JoinedTies
import Derived.KernelRfl
namespace Go.Proofs.Ytiedmlpeeebeeaa
/- THE CELL 'sum', in the pinned program and in every row, IS THE sha256 OF THE DUMP (.gsa) THAT YtiedmlpeeebeeaaProg.lean LOADS. Nothing in Lean hashes anything: it is a label: what it is worth is what the hold of that sum in a sandbox is worth. -/
noncomputable def Try.pinned : Pinned := { name := "ytiedmlpeeebeeaa", sum := "2c7d1e3d55c08cf4522e3d911bc92ac047d837098d8866a8767169c9ac8fc4b9", checked := Try.checked }
namespace Rows
def none {H : Type} : Left H := { results := [], args := [] }

/-- 'rundlelaw01.RunesQuotes': WHATEVER THE INPUT: true; the input reads as it did. -/
def runesQuotesSpec : ChangeSpec := { name := "runesQuotes", fn := fun _ => fun
  | [d] => { results := [.lit (.bool true)], args := [d] }
  | _ => none }
def runesQuotesRow : OpenClaim := { program := "ytiedmlpeeebeeaa", sum := "2c7d1e3d55c08cf4522e3d911bc92ac047d837098d8866a8767169c9ac8fc4b9", func := "rundle/rundlelaw01.RunesQuotes", spec := "runesQuotes", inPlace := ["internal/abi.NoEscape"], apart := false }
def RunesQuotesSaid : Prop := runesQuotesRow.holds Try.pinned (OpenSpec.ofChange runesQuotesSpec)

/-- ITS FALSE NEIGHBOUR: 'it returns false'. Refute it at one input. -/
def runesQuotesWrong : ChangeSpec := { name := "runesQuotes", fn := fun _ => fun
  | [d] => { results := [.lit (.bool false)], args := [d] }
  | _ => none }
def RunesQuotesWrongFalsely : Prop := runesQuotesRow.holds Try.pinned (OpenSpec.ofChange runesQuotesWrong)

/-- 'rundlelaw01.RunesClass': WHATEVER THE INPUT: true; the input reads as it did. -/
def runesClassSpec : ChangeSpec := { name := "runesClass", fn := fun _ => fun
  | [d] => { results := [.lit (.bool true)], args := [d] }
  | _ => none }
def runesClassRow : OpenClaim := { program := "ytiedmlpeeebeeaa", sum := "2c7d1e3d55c08cf4522e3d911bc92ac047d837098d8866a8767169c9ac8fc4b9", func := "rundle/rundlelaw01.RunesClass", spec := "runesClass", inPlace := ["internal/abi.NoEscape"], apart := false }
def RunesClassSaid : Prop := runesClassRow.holds Try.pinned (OpenSpec.ofChange runesClassSpec)

/-- ITS FALSE NEIGHBOUR: 'it returns false'. Refute it at one input. -/
def runesClassWrong : ChangeSpec := { name := "runesClass", fn := fun _ => fun
  | [d] => { results := [.lit (.bool false)], args := [d] }
  | _ => none }
def RunesClassWrongFalsely : Prop := runesClassRow.holds Try.pinned (OpenSpec.ofChange runesClassWrong)

/-- 'rundlelaw01.RunesPlays': WHATEVER THE INPUT: true; the input reads as it did. -/
def runesPlaysSpec : ChangeSpec := { name := "runesPlays", fn := fun _ => fun
  | [d] => { results := [.lit (.bool true)], args := [d] }
  | _ => none }
def runesPlaysRow : OpenClaim := { program := "ytiedmlpeeebeeaa", sum := "2c7d1e3d55c08cf4522e3d911bc92ac047d837098d8866a8767169c9ac8fc4b9", func := "rundle/rundlelaw01.RunesPlays", spec := "runesPlays", inPlace := ["internal/abi.NoEscape"], apart := false }
def RunesPlaysSaid : Prop := runesPlaysRow.holds Try.pinned (OpenSpec.ofChange runesPlaysSpec)

/-- ITS FALSE NEIGHBOUR: 'it returns false'. Refute it at one input. -/
def runesPlaysWrong : ChangeSpec := { name := "runesPlays", fn := fun _ => fun
  | [d] => { results := [.lit (.bool false)], args := [d] }
  | _ => none }
def RunesPlaysWrongFalsely : Prop := runesPlaysRow.holds Try.pinned (OpenSpec.ofChange runesPlaysWrong)

/-- 'rundlelaw01.RunesParts': WHATEVER THE INPUT: true; the input reads as it did. -/
def runesPartsSpec : ChangeSpec := { name := "runesParts", fn := fun _ => fun
  | [d1, d2] => { results := [.lit (.bool true)], args := [d1, d2] }
  | _ => none }
def runesPartsRow : OpenClaim := { program := "ytiedmlpeeebeeaa", sum := "2c7d1e3d55c08cf4522e3d911bc92ac047d837098d8866a8767169c9ac8fc4b9", func := "rundle/rundlelaw01.RunesParts", spec := "runesParts", inPlace := ["internal/abi.NoEscape"], apart := false }
def RunesPartsSaid : Prop := runesPartsRow.holds Try.pinned (OpenSpec.ofChange runesPartsSpec)

/-- ITS FALSE NEIGHBOUR: 'it returns false'. Refute it at one input. -/
def runesPartsWrong : ChangeSpec := { name := "runesParts", fn := fun _ => fun
  | [d1, d2] => { results := [.lit (.bool false)], args := [d1, d2] }
  | _ => none }
def RunesPartsWrongFalsely : Prop := runesPartsRow.holds Try.pinned (OpenSpec.ofChange runesPartsWrong)

/-- 'rundlelaw01.RunesJoins': WHATEVER THE INPUT: true; the input reads as it did. -/
def runesJoinsSpec : ChangeSpec := { name := "runesJoins", fn := fun _ => fun
  | [d] => { results := [.lit (.bool true)], args := [d] }
  | _ => none }
def runesJoinsRow : OpenClaim := { program := "ytiedmlpeeebeeaa", sum := "2c7d1e3d55c08cf4522e3d911bc92ac047d837098d8866a8767169c9ac8fc4b9", func := "rundle/rundlelaw01.RunesJoins", spec := "runesJoins", inPlace := ["internal/abi.NoEscape"], apart := false }
def RunesJoinsSaid : Prop := runesJoinsRow.holds Try.pinned (OpenSpec.ofChange runesJoinsSpec)

/-- ITS FALSE NEIGHBOUR: 'it returns false'. Refute it at one input. -/
def runesJoinsWrong : ChangeSpec := { name := "runesJoins", fn := fun _ => fun
  | [d] => { results := [.lit (.bool false)], args := [d] }
  | _ => none }
def RunesJoinsWrongFalsely : Prop := runesJoinsRow.holds Try.pinned (OpenSpec.ofChange runesJoinsWrong)

/-- 'rundlelaw01.RunesUnquotes': WHATEVER THE INPUT: true; the input reads as it did. -/
def runesUnquotesSpec : ChangeSpec := { name := "runesUnquotes", fn := fun _ => fun
  | [d] => { results := [.lit (.bool true)], args := [d] }
  | _ => none }
def runesUnquotesRow : OpenClaim := { program := "ytiedmlpeeebeeaa", sum := "2c7d1e3d55c08cf4522e3d911bc92ac047d837098d8866a8767169c9ac8fc4b9", func := "rundle/rundlelaw01.RunesUnquotes", spec := "runesUnquotes", inPlace := ["internal/abi.NoEscape", "internal/bytealg.IndexByteString"], apart := false }
def RunesUnquotesSaid : Prop := runesUnquotesRow.holds Try.pinned (OpenSpec.ofChange runesUnquotesSpec)

/-- ITS FALSE NEIGHBOUR: 'it returns false'. Refute it at one input. -/
def runesUnquotesWrong : ChangeSpec := { name := "runesUnquotes", fn := fun _ => fun
  | [d] => { results := [.lit (.bool false)], args := [d] }
  | _ => none }
def RunesUnquotesWrongFalsely : Prop := runesUnquotesRow.holds Try.pinned (OpenSpec.ofChange runesUnquotesWrong)

/-- 'rundlelaw01.RunesBack': WHATEVER THE INPUT: true; the input reads as it did. -/
def runesBackSpec : ChangeSpec := { name := "runesBack", fn := fun _ => fun
  | [d] => { results := [.lit (.bool true)], args := [d] }
  | _ => none }
def runesBackRow : OpenClaim := { program := "ytiedmlpeeebeeaa", sum := "2c7d1e3d55c08cf4522e3d911bc92ac047d837098d8866a8767169c9ac8fc4b9", func := "rundle/rundlelaw01.RunesBack", spec := "runesBack", inPlace := ["internal/abi.NoEscape", "internal/bytealg.IndexByteString"], apart := false }
def RunesBackSaid : Prop := runesBackRow.holds Try.pinned (OpenSpec.ofChange runesBackSpec)

/-- ITS FALSE NEIGHBOUR: 'it returns false'. Refute it at one input. -/
def runesBackWrong : ChangeSpec := { name := "runesBack", fn := fun _ => fun
  | [d] => { results := [.lit (.bool false)], args := [d] }
  | _ => none }
def RunesBackWrongFalsely : Prop := runesBackRow.holds Try.pinned (OpenSpec.ofChange runesBackWrong)

/- THE SECOND FORM. 'bulk': how many values and letters a reading holds, each counted each time it is reached (what is shared counts as often as it is met; a slice's spare places count too). A statement '..UptoSaid' is the law's where the arguments, and the package variables that the reading takes, are together of bulk at most 1048576: NARROWER than '..Said'. Prove '..Said' where nothing that the law and all that it calls make is longer than what came in: it says more and counts as full. Else prove '..UptoSaid'. A law counts once. -/
mutual
def uptoBulk {H : Type} : DataW H → Nat
  | .lit (.string bytes) => bytes.length + 1
  | .lit _ => 1
  | .nil => 1
  | .ptr d => uptoBulk d + 1
  | .slice elems spare => uptoBulkAll elems + uptoBulkAll spare + 1
  | .agg parts => uptoBulkAll parts + 1
  | .iface _ d => uptoBulk d + 1
  | .map entries => uptoBulkEntries entries + 1
  | .held _ => 1
def uptoBulkAll {H : Type} : List (DataW H) → Nat
  | [] => 0
  | d :: r => uptoBulk d + uptoBulkAll r
def uptoBulkEntries {H : Type} : List (Lit × DataW H) → Nat
  | [] => 0
  | x :: r => uptoBulkEntry x + uptoBulkEntries r
def uptoBulkEntry {H : Type} : Lit × DataW H → Nat
  | (.string bytes, d) => bytes.length + uptoBulk d + 1
  | (_, d) => uptoBulk d + 1
 end
def uptoSmall : (H : Type) → List (DataW H) → Bool := fun _ ds => decide (uptoBulkAll ds ≤ 1048576)
def OpenSpec.upto (s : _root_.Go.ChangeSpec) : _root_.Go.OpenSpec := { _root_.Go.OpenSpec.ofChange s with cond := some uptoSmall }

/-- 'rundlelaw01.RunesQuotes', WHERE WHAT IT READS IS OF BULK AT MOST 1048576: true; the input reads as it did. -/
def runesQuotesUptoRow : OpenClaim := { program := "ytiedmlpeeebeeaa", sum := "2c7d1e3d55c08cf4522e3d911bc92ac047d837098d8866a8767169c9ac8fc4b9", func := "rundle/rundlelaw01.RunesQuotes", spec := "runesQuotes", inPlace := ["internal/abi.NoEscape"], apart := false, narrowed := true }
def RunesQuotesUptoSaid : Prop := runesQuotesUptoRow.holds Try.pinned (OpenSpec.upto runesQuotesSpec)

/-- 'rundlelaw01.RunesClass', WHERE WHAT IT READS IS OF BULK AT MOST 1048576: true; the input reads as it did. -/
def runesClassUptoRow : OpenClaim := { program := "ytiedmlpeeebeeaa", sum := "2c7d1e3d55c08cf4522e3d911bc92ac047d837098d8866a8767169c9ac8fc4b9", func := "rundle/rundlelaw01.RunesClass", spec := "runesClass", inPlace := ["internal/abi.NoEscape"], apart := false, narrowed := true }
def RunesClassUptoSaid : Prop := runesClassUptoRow.holds Try.pinned (OpenSpec.upto runesClassSpec)

/-- 'rundlelaw01.RunesPlays', WHERE WHAT IT READS IS OF BULK AT MOST 1048576: true; the input reads as it did. -/
def runesPlaysUptoRow : OpenClaim := { program := "ytiedmlpeeebeeaa", sum := "2c7d1e3d55c08cf4522e3d911bc92ac047d837098d8866a8767169c9ac8fc4b9", func := "rundle/rundlelaw01.RunesPlays", spec := "runesPlays", inPlace := ["internal/abi.NoEscape"], apart := false, narrowed := true }
def RunesPlaysUptoSaid : Prop := runesPlaysUptoRow.holds Try.pinned (OpenSpec.upto runesPlaysSpec)

/-- 'rundlelaw01.RunesParts', WHERE WHAT IT READS IS OF BULK AT MOST 1048576: true; the input reads as it did. -/
def runesPartsUptoRow : OpenClaim := { program := "ytiedmlpeeebeeaa", sum := "2c7d1e3d55c08cf4522e3d911bc92ac047d837098d8866a8767169c9ac8fc4b9", func := "rundle/rundlelaw01.RunesParts", spec := "runesParts", inPlace := ["internal/abi.NoEscape"], apart := false, narrowed := true }
def RunesPartsUptoSaid : Prop := runesPartsUptoRow.holds Try.pinned (OpenSpec.upto runesPartsSpec)

/-- 'rundlelaw01.RunesJoins', WHERE WHAT IT READS IS OF BULK AT MOST 1048576: true; the input reads as it did. -/
def runesJoinsUptoRow : OpenClaim := { program := "ytiedmlpeeebeeaa", sum := "2c7d1e3d55c08cf4522e3d911bc92ac047d837098d8866a8767169c9ac8fc4b9", func := "rundle/rundlelaw01.RunesJoins", spec := "runesJoins", inPlace := ["internal/abi.NoEscape"], apart := false, narrowed := true }
def RunesJoinsUptoSaid : Prop := runesJoinsUptoRow.holds Try.pinned (OpenSpec.upto runesJoinsSpec)

/-- 'rundlelaw01.RunesUnquotes', WHERE WHAT IT READS IS OF BULK AT MOST 1048576: true; the input reads as it did. -/
def runesUnquotesUptoRow : OpenClaim := { program := "ytiedmlpeeebeeaa", sum := "2c7d1e3d55c08cf4522e3d911bc92ac047d837098d8866a8767169c9ac8fc4b9", func := "rundle/rundlelaw01.RunesUnquotes", spec := "runesUnquotes", inPlace := ["internal/abi.NoEscape", "internal/bytealg.IndexByteString"], apart := false, narrowed := true }
def RunesUnquotesUptoSaid : Prop := runesUnquotesUptoRow.holds Try.pinned (OpenSpec.upto runesUnquotesSpec)

/-- 'rundlelaw01.RunesBack', WHERE WHAT IT READS IS OF BULK AT MOST 1048576: true; the input reads as it did. -/
def runesBackUptoRow : OpenClaim := { program := "ytiedmlpeeebeeaa", sum := "2c7d1e3d55c08cf4522e3d911bc92ac047d837098d8866a8767169c9ac8fc4b9", func := "rundle/rundlelaw01.RunesBack", spec := "runesBack", inPlace := ["internal/abi.NoEscape", "internal/bytealg.IndexByteString"], apart := false, narrowed := true }
def RunesBackUptoSaid : Prop := runesBackUptoRow.holds Try.pinned (OpenSpec.upto runesBackSpec)

end Rows
end Go.Proofs.Ytiedmlpeeebeeaa
