/-
  No cell of these rows narrows 'for every input' (looked for: loops, veiled, ifaces, maps, wideKeys, modest, calm, conditions, laid).
  DERIVED. THE GIVEN ROWS OF THIS SEAT. 2 by the template 'for every input the law returns true; each argument reads behind the call as it read before'; 0 by the template 'total and deterministic' (their statements: YtkokikbdndegkaaGreatTotals.lean).
  GIVEN WITH THE SEED: the statements are not yours to turn. If you find one false, say at which input.
  Laid BY PROGRAM, IN A SANDBOX (cutbox-rows.mjs): the forced cells as the released guide's own fill.sh prints them over the translation a26ce50ea1840f66… (all of the seat's roots in one cut). By AI agents, Wed Nov 11 2026. No macro, syntax, notation, axiom, sorry.
-/
import Derived.Test.YtkokikbdndegkaaGreatChecked
import GoSem.Claim
import GoSem.ClaimJoined
import GoSem.ClaimMapViews
import Derived.JoinedTies
import Derived.KernelRfl
namespace Go.Proofs.YtkokikbdndegkaaGreat
/- THE CELL 'sum', in the pinned program and in every row, IS THE sha256 OF THE DUMP (.gsa) THAT YtkokikbdndegkaaGreatProg.lean LOADS. Nothing in Lean hashes anything: it is a label: what it is worth is what the hold of that sum in a sandbox is worth. -/
noncomputable def Tryz.pinned : Pinned := { name := "ytkokikbdndegkaagreat", sum := "a26ce50ea1840f66f46f68dcbe70806a2e154dcccfeabf350b614b96c4f4ad04", checked := Tryz.checked }
namespace Rows
def none {H : Type} : Left H := { results := [], args := [] }

/-- 'laws.FnExactFuseTry': WHATEVER THE INPUT: true; the input reads as it did. -/
def fnExactFuseTrySpec : ChangeSpec := { name := "fnExactFuseTry", fn := fun _ => fun
  | [d1, d2, d3] => { results := [.lit (.bool true)], args := [d1, d2, d3] }
  | _ => none }
def fnExactFuseTryRow : OpenClaim := { program := "ytkokikbdndegkaagreat", sum := "a26ce50ea1840f66f46f68dcbe70806a2e154dcccfeabf350b614b96c4f4ad04", func := "loop.example/g00182/laws.FnExactFuseTry", spec := "fnExactFuseTry", unfollowed := true, recurses := true, apart := false }
def FnExactFuseTrySaid : Prop := fnExactFuseTryRow.holds Tryz.pinned (OpenSpec.ofChange fnExactFuseTrySpec)

/-- ITS FALSE NEIGHBOUR: 'it returns false'. Refute it at one input. -/
def fnExactFuseTryWrong : ChangeSpec := { name := "fnExactFuseTry", fn := fun _ => fun
  | [d1, d2, d3] => { results := [.lit (.bool false)], args := [d1, d2, d3] }
  | _ => none }
def FnExactFuseTryWrongFalsely : Prop := fnExactFuseTryRow.holds Tryz.pinned (OpenSpec.ofChange fnExactFuseTryWrong)

/-- 'laws.FnGuards': WHATEVER THE INPUT: true; the input reads as it did. -/
def fnGuardsSpec : ChangeSpec := { name := "fnGuards", fn := fun _ => fun
  | [d] => { results := [.lit (.bool true)], args := [d] }
  | _ => none }
def fnGuardsRow : OpenClaim := { program := "ytkokikbdndegkaagreat", sum := "a26ce50ea1840f66f46f68dcbe70806a2e154dcccfeabf350b614b96c4f4ad04", func := "loop.example/g00182/laws.FnGuards", spec := "fnGuards", unfollowed := true, recurses := true, apart := false }
def FnGuardsSaid : Prop := fnGuardsRow.holds Tryz.pinned (OpenSpec.ofChange fnGuardsSpec)

/-- ITS FALSE NEIGHBOUR: 'it returns false'. Refute it at one input. -/
def fnGuardsWrong : ChangeSpec := { name := "fnGuards", fn := fun _ => fun
  | [d] => { results := [.lit (.bool false)], args := [d] }
  | _ => none }
def FnGuardsWrongFalsely : Prop := fnGuardsRow.holds Tryz.pinned (OpenSpec.ofChange fnGuardsWrong)

/- THE SECOND FORM. 'bulk': how many values and letters a reading holds, each counted each time it is reached (what is shared counts as often as it is met; a slice's spare places count too). A statement '..UptoSaid' is the law's where the arguments, and the package variables that the reading takes, are together of bulk at most 1048576: NARROWER than '..Said'. Prove '..Said' where nothing that the law and all that it calls make is longer than what came in: it says more and counts as full. Else prove '..UptoSaid'. A law counts once. -/
mutual
def uptoBulk {H : Type} : DataW H → Nat
  | .lit (.string bytes) => bytes.length + 1
  | .lit _ => 1
  | .nil => 1
  | .ptr d => uptoBulk d + 1
  | .slice elems spare => uptoBulkAll elems + uptoBulkAll spare + 1
  | .agg parts => uptoBulkAll parts + 1
  | .iface _ d => uptoBulk d + 1
  | .map entries => uptoBulkEntries entries + 1
  | .held _ => 1
def uptoBulkAll {H : Type} : List (DataW H) → Nat
  | [] => 0
  | d :: r => uptoBulk d + uptoBulkAll r
def uptoBulkEntries {H : Type} : List (Lit × DataW H) → Nat
  | [] => 0
  | x :: r => uptoBulkEntry x + uptoBulkEntries r
def uptoBulkEntry {H : Type} : Lit × DataW H → Nat
  | (.string bytes, d) => bytes.length + uptoBulk d + 1
  | (_, d) => uptoBulk d + 1
 end
def uptoSmall : (H : Type) → List (DataW H) → Bool := fun _ ds => decide (uptoBulkAll ds ≤ 1048576)
def OpenSpec.upto (s : _root_.Go.ChangeSpec) : _root_.Go.OpenSpec := { _root_.Go.OpenSpec.ofChange s with cond := some uptoSmall }

/-- 'laws.FnExactFuseTry', WHERE WHAT IT READS IS OF BULK AT MOST 1048576: true; the input reads as it did. -/
def fnExactFuseTryUptoRow : OpenClaim := { program := "ytkokikbdndegkaagreat", sum := "a26ce50ea1840f66f46f68dcbe70806a2e154dcccfeabf350b614b96c4f4ad04", func := "loop.example/g00182/laws.FnExactFuseTry", spec := "fnExactFuseTry", unfollowed := true, recurses := true, apart := false, narrowed := true }
def FnExactFuseTryUptoSaid : Prop := fnExactFuseTryUptoRow.holds Tryz.pinned (OpenSpec.upto fnExactFuseTrySpec)

/-- 'laws.FnGuards', WHERE WHAT IT READS IS OF BULK AT MOST 1048576: true; the input reads as it did. -/
def fnGuardsUptoRow : OpenClaim := { program := "ytkokikbdndegkaagreat", sum := "a26ce50ea1840f66f46f68dcbe70806a2e154dcccfeabf350b614b96c4f4ad04", func := "loop.example/g00182/laws.FnGuards", spec := "fnGuards", unfollowed := true, recurses := true, apart := false, narrowed := true }
def FnGuardsUptoSaid : Prop := fnGuardsUptoRow.holds Tryz.pinned (OpenSpec.upto fnGuardsSpec)

end Rows
end Go.Proofs.YtkokikbdndegkaaGreat
