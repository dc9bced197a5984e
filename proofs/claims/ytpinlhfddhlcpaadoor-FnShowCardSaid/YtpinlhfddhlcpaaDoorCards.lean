/-
  DERIVED. GIVEN WITH THE SEED: THE CARDS: each row of YtpinlhfddhlcpaaDoorRows.lean that lists a variable, with what it lists TIED to the program's text (the seventh form; the later family's looks); each row that meets fmt, with fmt's text TOLD by the authors' own Lean function (tested against real Go, not proved from fmt's source: count such statements apart). THE CARD IS WHAT COUNTS. Prove the row's statement (the work); the ties are given (YtpinlhfddhlcpaaDoorTie.lean); close each card by the builder's one call (the guide's Derived/Test/ToyasCard.lean, 'card_holds'). Laid BY PROGRAM, IN A SANDBOX (cutbox-door.mjs). By AI agents, Wed Nov 11 2026. No macro, syntax, notation, axiom, sorry.
-/
import Derived.Test.YtpinlhfddhlcpaaDoorRows
import GoSem.ClaimSeven
namespace Go.Proofs.YtpinlhfddhlcpaaDoor
namespace Rows

/-- THE TIED CARD OF 'laws.FnExactShowNum'. -/
def fnExactShowNumCard : Claim7 := { stood := { row := fnExactShowNumRow, standIns := [], harness := (true, "33922eae5bd0251848cf61e9c19987cb971d31f85afbc8ea8d304be328fee66a"), looks := false }, kinds := [], alts := [], laidByText := true, laidKinds := [.data, .data, .data], laidTests := true, laidLooks := .later }
def FnExactShowNumCardSaid : Prop := Claim7.holds Tryd.pinned (.plain (OpenSpec.ofChange fnExactShowNumSpec)) fnExactShowNumCard

/-- THE TIED CARD OF 'laws.FnExactShowWide'. -/
def fnExactShowWideCard : Claim7 := { stood := { row := fnExactShowWideRow, standIns := [], harness := (true, "33922eae5bd0251848cf61e9c19987cb971d31f85afbc8ea8d304be328fee66a"), looks := false }, kinds := [], alts := [], laidByText := true, laidKinds := [.data, .data, .data], laidTests := true, laidLooks := .later }
def FnExactShowWideCardSaid : Prop := Claim7.holds Tryd.pinned (.plain (OpenSpec.ofChange fnExactShowWideSpec)) fnExactShowWideCard

/-- THE TIED CARD OF 'laws.FnExactShowRow'. -/
def fnExactShowRowCard : Claim7 := { stood := { row := fnExactShowRowRow, standIns := [], harness := (true, "33922eae5bd0251848cf61e9c19987cb971d31f85afbc8ea8d304be328fee66a"), looks := false }, kinds := [], alts := [], laidByText := true, laidKinds := [.data, .data, .data], laidTests := true, laidLooks := .later }
def FnExactShowRowCardSaid : Prop := Claim7.holds Tryd.pinned (.plain (OpenSpec.ofChange fnExactShowRowSpec)) fnExactShowRowCard

/-- THE TIED CARD OF 'laws.FnWidth'. -/
def fnWidthCard : Claim7 := { stood := { row := fnWidthRow, standIns := [], harness := (true, "33922eae5bd0251848cf61e9c19987cb971d31f85afbc8ea8d304be328fee66a"), looks := false }, kinds := [], alts := [], laidByText := true, laidKinds := [.data, .data, .data], laidTests := true, laidLooks := .later }
def FnWidthCardSaid : Prop := Claim7.holds Tryd.pinned (.plain (OpenSpec.ofChange fnWidthSpec)) fnWidthCard

/-- THE TIED CARD OF 'laws.FnExactTokenText'. -/
def fnExactTokenTextCard : Claim7 := { stood := { row := fnExactTokenTextRow, standIns := [], harness := (true, "33922eae5bd0251848cf61e9c19987cb971d31f85afbc8ea8d304be328fee66a"), looks := false }, kinds := [], alts := [], laidByText := true, laidKinds := [.data, .data, .data], laidTests := true, laidLooks := .later }
def FnExactTokenTextCardSaid : Prop := Claim7.holds Tryd.pinned (.plain (OpenSpec.ofChange fnExactTokenTextSpec)) fnExactTokenTextCard

/-- THE TIED CARD OF 'laws.FnExactShow'. -/
def fnExactShowCard : Claim7 := { stood := { row := fnExactShowRow, standIns := [], harness := (true, "33922eae5bd0251848cf61e9c19987cb971d31f85afbc8ea8d304be328fee66a"), looks := false }, kinds := [], alts := [], laidByText := true, laidKinds := [.data, .data, .data], laidTests := true, laidLooks := .later }
def FnExactShowCardSaid : Prop := Claim7.holds Tryd.pinned (.plain (OpenSpec.ofChange fnExactShowSpec)) fnExactShowCard

/-- THE TIED CARD OF 'laws.FnShow'. -/
def fnShowCard : Claim7 := { stood := { row := fnShowRow, standIns := [], harness := (true, "33922eae5bd0251848cf61e9c19987cb971d31f85afbc8ea8d304be328fee66a"), looks := false }, kinds := [], alts := [], laidByText := true, laidKinds := [.data, .data, .data], laidTests := true, laidLooks := .later }
def FnShowCardSaid : Prop := Claim7.holds Tryd.pinned (.plain (OpenSpec.ofChange fnShowSpec)) fnShowCard

/-- THE SECOND FORM's CARD OF 'laws.FnExactShowNum'. -/
def fnExactShowNumUptoCard : Claim7 := { stood := { row := fnExactShowNumUptoRow, standIns := [], harness := (true, "33922eae5bd0251848cf61e9c19987cb971d31f85afbc8ea8d304be328fee66a"), looks := false }, kinds := [], alts := [], laidByText := true, laidKinds := [.data, .data, .data], laidTests := true, laidLooks := .later }
def FnExactShowNumUptoCardSaid : Prop := Claim7.holds Tryd.pinned (.plain (OpenSpec.upto fnExactShowNumSpec)) fnExactShowNumUptoCard

/-- THE SECOND FORM's CARD OF 'laws.FnExactShowWide'. -/
def fnExactShowWideUptoCard : Claim7 := { stood := { row := fnExactShowWideUptoRow, standIns := [], harness := (true, "33922eae5bd0251848cf61e9c19987cb971d31f85afbc8ea8d304be328fee66a"), looks := false }, kinds := [], alts := [], laidByText := true, laidKinds := [.data, .data, .data], laidTests := true, laidLooks := .later }
def FnExactShowWideUptoCardSaid : Prop := Claim7.holds Tryd.pinned (.plain (OpenSpec.upto fnExactShowWideSpec)) fnExactShowWideUptoCard

/-- THE SECOND FORM's CARD OF 'laws.FnExactShowRow'. -/
def fnExactShowRowUptoCard : Claim7 := { stood := { row := fnExactShowRowUptoRow, standIns := [], harness := (true, "33922eae5bd0251848cf61e9c19987cb971d31f85afbc8ea8d304be328fee66a"), looks := false }, kinds := [], alts := [], laidByText := true, laidKinds := [.data, .data, .data], laidTests := true, laidLooks := .later }
def FnExactShowRowUptoCardSaid : Prop := Claim7.holds Tryd.pinned (.plain (OpenSpec.upto fnExactShowRowSpec)) fnExactShowRowUptoCard

/-- THE SECOND FORM's CARD OF 'laws.FnWidth'. -/
def fnWidthUptoCard : Claim7 := { stood := { row := fnWidthUptoRow, standIns := [], harness := (true, "33922eae5bd0251848cf61e9c19987cb971d31f85afbc8ea8d304be328fee66a"), looks := false }, kinds := [], alts := [], laidByText := true, laidKinds := [.data, .data, .data], laidTests := true, laidLooks := .later }
def FnWidthUptoCardSaid : Prop := Claim7.holds Tryd.pinned (.plain (OpenSpec.upto fnWidthSpec)) fnWidthUptoCard

/-- THE SECOND FORM's CARD OF 'laws.FnExactTokenText'. -/
def fnExactTokenTextUptoCard : Claim7 := { stood := { row := fnExactTokenTextUptoRow, standIns := [], harness := (true, "33922eae5bd0251848cf61e9c19987cb971d31f85afbc8ea8d304be328fee66a"), looks := false }, kinds := [], alts := [], laidByText := true, laidKinds := [.data, .data, .data], laidTests := true, laidLooks := .later }
def FnExactTokenTextUptoCardSaid : Prop := Claim7.holds Tryd.pinned (.plain (OpenSpec.upto fnExactTokenTextSpec)) fnExactTokenTextUptoCard

/-- THE SECOND FORM's CARD OF 'laws.FnExactShow'. -/
def fnExactShowUptoCard : Claim7 := { stood := { row := fnExactShowUptoRow, standIns := [], harness := (true, "33922eae5bd0251848cf61e9c19987cb971d31f85afbc8ea8d304be328fee66a"), looks := false }, kinds := [], alts := [], laidByText := true, laidKinds := [.data, .data, .data], laidTests := true, laidLooks := .later }
def FnExactShowUptoCardSaid : Prop := Claim7.holds Tryd.pinned (.plain (OpenSpec.upto fnExactShowSpec)) fnExactShowUptoCard

/-- THE SECOND FORM's CARD OF 'laws.FnShow'. -/
def fnShowUptoCard : Claim7 := { stood := { row := fnShowUptoRow, standIns := [], harness := (true, "33922eae5bd0251848cf61e9c19987cb971d31f85afbc8ea8d304be328fee66a"), looks := false }, kinds := [], alts := [], laidByText := true, laidKinds := [.data, .data, .data], laidTests := true, laidLooks := .later }
def FnShowUptoCardSaid : Prop := Claim7.holds Tryd.pinned (.plain (OpenSpec.upto fnShowSpec)) fnShowUptoCard
end Rows
end Go.Proofs.YtpinlhfddhlcpaaDoor
