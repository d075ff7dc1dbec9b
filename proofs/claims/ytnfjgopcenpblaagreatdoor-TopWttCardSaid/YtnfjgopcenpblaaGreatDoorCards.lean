/-
  DERIVED. GIVEN WITH THE SEED: THE CARDS: each row of YtnfjgopcenpblaaGreatDoorRows.lean that lists a variable, with what it lists TIED to the program's text (the seventh form; the later family's looks); each row that meets fmt, with fmt's text TOLD by the authors' own Lean function (tested against real Go, not proved from fmt's source: count such statements apart). THE CARD IS WHAT COUNTS. Prove the row's statement (the work); the ties are given (YtnfjgopcenpblaaGreatDoorTie.lean); close each card by the builder's one call (the guide's Derived/Test/ToyasCard.lean, 'card_holds'). Laid BY PROGRAM, IN A SANDBOX (cutbox-door.mjs). By AI agents, Wed Nov 11 2026. No macro, syntax, notation, axiom, sorry.
-/
import Derived.Test.YtnfjgopcenpblaaGreatDoorRows
import GoSem.ClaimSeven
namespace Go.Proofs.YtnfjgopcenpblaaGreatDoor
namespace Rows

/-- THE TIED CARD OF 'lontartop.TopScripts'. -/
def topScriptsCard : Claim7 := { stood := { row := topScriptsRow, standIns := [], harness := (true, "271b5d2e431698eaddde12b09dfc390b04e544b7feeb72a0a141744885f7c76b"), looks := false }, kinds := [], alts := [], laidByText := true, laidKinds := [.data, .pinned, .pinned], laidTests := true, laidLooks := .later }
def TopScriptsCardSaid : Prop := Claim7.holds Tryz.pinned (.plain (OpenSpec.ofChange topScriptsSpec)) topScriptsCard

/-- THE TIED CARD OF 'lontartop.TopWtt'. -/
def topWttCard : Claim7 := { stood := { row := topWttRow, standIns := [], harness := (true, "271b5d2e431698eaddde12b09dfc390b04e544b7feeb72a0a141744885f7c76b"), looks := false }, kinds := [], alts := [], laidByText := true, laidKinds := [.data, .pinned, .pinned], laidTests := true, laidLooks := .later }
def TopWttCardSaid : Prop := Claim7.holds Tryz.pinned (.plain (OpenSpec.ofChange topWttSpec)) topWttCard

/-- THE SECOND FORM's CARD OF 'lontartop.TopScripts'. -/
def topScriptsUptoCard : Claim7 := { stood := { row := topScriptsUptoRow, standIns := [], harness := (true, "271b5d2e431698eaddde12b09dfc390b04e544b7feeb72a0a141744885f7c76b"), looks := false }, kinds := [], alts := [], laidByText := true, laidKinds := [.data, .pinned, .pinned], laidTests := true, laidLooks := .later }
def TopScriptsUptoCardSaid : Prop := Claim7.holds Tryz.pinned (.plain (OpenSpec.upto topScriptsSpec)) topScriptsUptoCard

/-- THE SECOND FORM's CARD OF 'lontartop.TopWtt'. -/
def topWttUptoCard : Claim7 := { stood := { row := topWttUptoRow, standIns := [], harness := (true, "271b5d2e431698eaddde12b09dfc390b04e544b7feeb72a0a141744885f7c76b"), looks := false }, kinds := [], alts := [], laidByText := true, laidKinds := [.data, .pinned, .pinned], laidTests := true, laidLooks := .later }
def TopWttUptoCardSaid : Prop := Claim7.holds Tryz.pinned (.plain (OpenSpec.upto topWttSpec)) topWttUptoCard
end Rows
end Go.Proofs.YtnfjgopcenpblaaGreatDoor
