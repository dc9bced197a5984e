/-
  DERIVED. GIVEN WITH THE SEED: THE CARDS: each row of YtdejjcgikcfgjaaDoorRows.lean that lists a variable, with what it lists TIED to the program's text (the seventh form; the later family's looks); each row that meets fmt, with fmt's text TOLD by the authors' own Lean function (tested against real Go, not proved from fmt's source: count such statements apart). THE CARD IS WHAT COUNTS. Prove the row's statement (the work); the ties are given (YtdejjcgikcfgjaaDoorTie.lean); close each card by the builder's one call (the guide's Derived/Test/ToyasCard.lean, 'card_holds'). Laid BY PROGRAM, IN A SANDBOX (cutbox-door.mjs). By AI agents, Wed Nov 11 2026. No macro, syntax, notation, axiom, sorry.
-/
import Derived.Test.YtdejjcgikcfgjaaDoorRows
import GoSem.ClaimSeven
namespace Go.Proofs.YtdejjcgikcfgjaaDoor
namespace Rows

/-- THE TIED CARD OF 'laws.FnTokens'. -/
def fnTokensCard : Claim7 := { stood := { row := fnTokensRow, standIns := [], harness := (true, "e69db0a066fabd9cc3c96bd093dedd951dd2fbb1c69af963636dca01c6fc6315"), looks := false }, kinds := [], alts := [], laidByText := true, laidKinds := [.data, .data, .data], laidTests := true, laidLooks := .later }
def FnTokensCardSaid : Prop := Claim7.holds Tryd.pinned (.plain (OpenSpec.ofChange fnTokensSpec)) fnTokensCard

/-- THE TIED CARD OF 'laws.FnExactTreeText'. -/
def fnExactTreeTextCard : Claim7 := { stood := { row := fnExactTreeTextRow, standIns := [], harness := (true, "e69db0a066fabd9cc3c96bd093dedd951dd2fbb1c69af963636dca01c6fc6315"), looks := false }, kinds := [], alts := [], laidByText := true, laidKinds := [.data, .data, .data], laidTests := true, laidLooks := .later }
def FnExactTreeTextCardSaid : Prop := Claim7.holds Tryd.pinned (.plain (OpenSpec.ofChange fnExactTreeTextSpec)) fnExactTreeTextCard

/-- THE SECOND FORM's CARD OF 'laws.FnTokens'. -/
def fnTokensUptoCard : Claim7 := { stood := { row := fnTokensUptoRow, standIns := [], harness := (true, "e69db0a066fabd9cc3c96bd093dedd951dd2fbb1c69af963636dca01c6fc6315"), looks := false }, kinds := [], alts := [], laidByText := true, laidKinds := [.data, .data, .data], laidTests := true, laidLooks := .later }
def FnTokensUptoCardSaid : Prop := Claim7.holds Tryd.pinned (.plain (OpenSpec.upto fnTokensSpec)) fnTokensUptoCard

/-- THE SECOND FORM's CARD OF 'laws.FnExactTreeText'. -/
def fnExactTreeTextUptoCard : Claim7 := { stood := { row := fnExactTreeTextUptoRow, standIns := [], harness := (true, "e69db0a066fabd9cc3c96bd093dedd951dd2fbb1c69af963636dca01c6fc6315"), looks := false }, kinds := [], alts := [], laidByText := true, laidKinds := [.data, .data, .data], laidTests := true, laidLooks := .later }
def FnExactTreeTextUptoCardSaid : Prop := Claim7.holds Tryd.pinned (.plain (OpenSpec.upto fnExactTreeTextSpec)) fnExactTreeTextUptoCard
end Rows
end Go.Proofs.YtdejjcgikcfgjaaDoor
