/-
  DERIVED. GIVEN WITH THE SEED: THE CARDS: each row of YtfbicbcfdgklkaaDoorRows.lean that lists a variable, with what it lists TIED to the program's text (the seventh form; the later family's looks); each row that meets fmt, with fmt's text TOLD by the authors' own Lean function (tested against real Go, not proved from fmt's source: count such statements apart). THE CARD IS WHAT COUNTS. Prove the row's statement (the work); the ties are given (YtfbicbcfdgklkaaDoorTie.lean); close each card by the builder's one call (the guide's Derived/Test/ToyasCard.lean, 'card_holds'). Laid BY PROGRAM, IN A SANDBOX (cutbox-door.mjs). By AI agents, Wed Nov 11 2026. No macro, syntax, notation, axiom, sorry.
-/
import Derived.Test.YtfbicbcfdgklkaaDoorRows
import GoSem.ClaimSeven
namespace Go.Proofs.YtfbicbcfdgklkaaDoor
namespace Rows

/-- THE TIED CARD OF 'rundlelaw10.DrawHalves'. -/
def drawHalvesCard : Claim7 := { stood := { row := drawHalvesRow, standIns := [], harness := (true, "54d4248a27fce5fbdc5d8f350a3b1df06d7d9fb1ad0f75aac012fcf367351896"), looks := false }, kinds := [], alts := [], laidByText := true, laidKinds := [.data], laidTests := true, laidLooks := .later }
def DrawHalvesCardSaid : Prop := Claim7.holds Tryd.pinned (.plain (OpenSpec.ofChange drawHalvesSpec)) drawHalvesCard

/-- THE TIED CARD OF 'rundlelaw10.DrawUnlike'. -/
def drawUnlikeCard : Claim7 := { stood := { row := drawUnlikeRow, standIns := [], harness := (true, "54d4248a27fce5fbdc5d8f350a3b1df06d7d9fb1ad0f75aac012fcf367351896"), looks := false }, kinds := [], alts := [], laidByText := true, laidKinds := [.data], laidTests := true, laidLooks := .later }
def DrawUnlikeCardSaid : Prop := Claim7.holds Tryd.pinned (.plain (OpenSpec.ofChange drawUnlikeSpec)) drawUnlikeCard

/-- THE TIED CARD OF 'rundlelaw10.DrawLevels'. -/
def drawLevelsCard : Claim7 := { stood := { row := drawLevelsRow, standIns := [], harness := (true, "54d4248a27fce5fbdc5d8f350a3b1df06d7d9fb1ad0f75aac012fcf367351896"), looks := false }, kinds := [], alts := [], laidByText := true, laidKinds := [.data], laidTests := true, laidLooks := .later }
def DrawLevelsCardSaid : Prop := Claim7.holds Tryd.pinned (.plain (OpenSpec.ofChange drawLevelsSpec)) drawLevelsCard

/-- THE TIED CARD OF 'rundlelaw10.DrawPlays'. -/
def drawPlaysCard : Claim7 := { stood := { row := drawPlaysRow, standIns := [], harness := (true, "54d4248a27fce5fbdc5d8f350a3b1df06d7d9fb1ad0f75aac012fcf367351896"), looks := false }, kinds := [], alts := [], laidByText := true, laidKinds := [.data], laidTests := true, laidLooks := .later }
def DrawPlaysCardSaid : Prop := Claim7.holds Tryd.pinned (.plain (OpenSpec.ofChange drawPlaysSpec)) drawPlaysCard

/-- THE SECOND FORM's CARD OF 'rundlelaw10.DrawHalves'. -/
def drawHalvesUptoCard : Claim7 := { stood := { row := drawHalvesUptoRow, standIns := [], harness := (true, "54d4248a27fce5fbdc5d8f350a3b1df06d7d9fb1ad0f75aac012fcf367351896"), looks := false }, kinds := [], alts := [], laidByText := true, laidKinds := [.data], laidTests := true, laidLooks := .later }
def DrawHalvesUptoCardSaid : Prop := Claim7.holds Tryd.pinned (.plain (OpenSpec.upto drawHalvesSpec)) drawHalvesUptoCard

/-- THE SECOND FORM's CARD OF 'rundlelaw10.DrawUnlike'. -/
def drawUnlikeUptoCard : Claim7 := { stood := { row := drawUnlikeUptoRow, standIns := [], harness := (true, "54d4248a27fce5fbdc5d8f350a3b1df06d7d9fb1ad0f75aac012fcf367351896"), looks := false }, kinds := [], alts := [], laidByText := true, laidKinds := [.data], laidTests := true, laidLooks := .later }
def DrawUnlikeUptoCardSaid : Prop := Claim7.holds Tryd.pinned (.plain (OpenSpec.upto drawUnlikeSpec)) drawUnlikeUptoCard

/-- THE SECOND FORM's CARD OF 'rundlelaw10.DrawLevels'. -/
def drawLevelsUptoCard : Claim7 := { stood := { row := drawLevelsUptoRow, standIns := [], harness := (true, "54d4248a27fce5fbdc5d8f350a3b1df06d7d9fb1ad0f75aac012fcf367351896"), looks := false }, kinds := [], alts := [], laidByText := true, laidKinds := [.data], laidTests := true, laidLooks := .later }
def DrawLevelsUptoCardSaid : Prop := Claim7.holds Tryd.pinned (.plain (OpenSpec.upto drawLevelsSpec)) drawLevelsUptoCard

/-- THE SECOND FORM's CARD OF 'rundlelaw10.DrawPlays'. -/
def drawPlaysUptoCard : Claim7 := { stood := { row := drawPlaysUptoRow, standIns := [], harness := (true, "54d4248a27fce5fbdc5d8f350a3b1df06d7d9fb1ad0f75aac012fcf367351896"), looks := false }, kinds := [], alts := [], laidByText := true, laidKinds := [.data], laidTests := true, laidLooks := .later }
def DrawPlaysUptoCardSaid : Prop := Claim7.holds Tryd.pinned (.plain (OpenSpec.upto drawPlaysSpec)) drawPlaysUptoCard
end Rows
end Go.Proofs.YtfbicbcfdgklkaaDoor
