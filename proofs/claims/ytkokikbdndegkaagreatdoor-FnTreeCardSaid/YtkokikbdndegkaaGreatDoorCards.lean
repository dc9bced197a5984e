/-
  DERIVED. GIVEN WITH THE SEED: THE CARDS: each row of YtkokikbdndegkaaGreatDoorRows.lean that lists a variable, with what it lists TIED to the program's text (the seventh form; the later family's looks); each row that meets fmt, with fmt's text TOLD by the authors' own Lean function (tested against real Go, not proved from fmt's source: count such statements apart). THE CARD IS WHAT COUNTS. Prove the row's statement (the work); the ties are given (YtkokikbdndegkaaGreatDoorTie.lean); close each card by the builder's one call (the guide's Derived/Test/ToyasCard.lean, 'card_holds'). Laid BY PROGRAM, IN A SANDBOX (cutbox-door.mjs). By AI agents, Wed Nov 11 2026. No macro, syntax, notation, axiom, sorry.
-/
import Derived.Test.YtkokikbdndegkaaGreatDoorRows
import GoSem.ClaimSeven
namespace Go.Proofs.YtkokikbdndegkaaGreatDoor
namespace Rows

/-- THE TIED CARD OF 'laws.FnTree'. -/
def fnTreeCard : Claim7 := { stood := { row := fnTreeRow, standIns := [], harness := (true, "80cf5922e1b8f5f4bd3b732348b92e6e886036a9911916196c50386ecd78e429"), looks := false }, kinds := [], alts := [], laidByText := true, laidKinds := [.data, .data, .data], laidTests := true, laidLooks := .later }
def FnTreeCardSaid : Prop := Claim7.holds Tryz.pinned (.plain (OpenSpec.ofChange fnTreeSpec)) fnTreeCard

/-- THE SECOND FORM's CARD OF 'laws.FnTree'. -/
def fnTreeUptoCard : Claim7 := { stood := { row := fnTreeUptoRow, standIns := [], harness := (true, "80cf5922e1b8f5f4bd3b732348b92e6e886036a9911916196c50386ecd78e429"), looks := false }, kinds := [], alts := [], laidByText := true, laidKinds := [.data, .data, .data], laidTests := true, laidLooks := .later }
def FnTreeUptoCardSaid : Prop := Claim7.holds Tryz.pinned (.plain (OpenSpec.upto fnTreeSpec)) fnTreeUptoCard
end Rows
end Go.Proofs.YtkokikbdndegkaaGreatDoor
