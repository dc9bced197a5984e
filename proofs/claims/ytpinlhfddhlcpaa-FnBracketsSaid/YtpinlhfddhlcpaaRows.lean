/-
  No cell of these rows narrows 'for every input' (looked for: loops, veiled, ifaces, maps, wideKeys, modest, calm, conditions, laid).
  DERIVED. THE GIVEN ROWS OF THIS SEAT. 3 by the template 'for every input the law returns true; each argument reads behind the call as it read before'; 0 by the template 'total and deterministic' (their statements: YtpinlhfddhlcpaaTotals.lean).
  GIVEN WITH THE SEED: the statements are not yours to turn. If you find one false, say at which input.
  Laid BY PROGRAM, IN A SANDBOX (cutbox-rows.mjs): the forced cells as the released guide's own fill.sh prints them over the translation 05a98df5e98d23b6… (all of the seat's roots in one cut). By AI agents, Wed Nov 11 2026. No macro, syntax, notation, axiom, sorry.
-/
import Derived.Test.YtpinlhfddhlcpaaChecked
import GoSem.Claim
import GoSem.ClaimJoined
import GoSem.ClaimMapViews
import Derived.JoinedTies
import Derived.KernelRfl
namespace Go.Proofs.Ytpinlhfddhlcpaa
/- THE CELL 'sum', in the pinned program and in every row, IS THE sha256 OF THE DUMP (.gsa) THAT YtpinlhfddhlcpaaProg.lean LOADS. Nothing in Lean hashes anything: it is a label: what it is worth is what the hold of that sum in a sandbox is worth. -/
noncomputable def Try.pinned : Pinned := { name := "ytpinlhfddhlcpaa", sum := "05a98df5e98d23b623c5a422ef4e47b199699e8713587ad01784268899f72900", checked := Try.checked }
namespace Rows
def none {H : Type} : Left H := { results := [], args := [] }

/-- 'laws.FnExactParse': WHATEVER THE INPUT: true; the input reads as it did. -/
def fnExactParseSpec : ChangeSpec := { name := "fnExactParse", fn := fun _ => fun
  | [d] => { results := [.lit (.bool true)], args := [d] }
  | _ => none }
def fnExactParseRow : OpenClaim := { program := "ytpinlhfddhlcpaa", sum := "05a98df5e98d23b623c5a422ef4e47b199699e8713587ad01784268899f72900", func := "loop.example/g00182/laws.FnExactParse", spec := "fnExactParse", unfollowed := true, recurses := true, apart := false }
def FnExactParseSaid : Prop := fnExactParseRow.holds Try.pinned (OpenSpec.ofChange fnExactParseSpec)

/-- ITS FALSE NEIGHBOUR: 'it returns false'. Refute it at one input. -/
def fnExactParseWrong : ChangeSpec := { name := "fnExactParse", fn := fun _ => fun
  | [d] => { results := [.lit (.bool false)], args := [d] }
  | _ => none }
def FnExactParseWrongFalsely : Prop := fnExactParseRow.holds Try.pinned (OpenSpec.ofChange fnExactParseWrong)

/-- 'laws.FnBrackets': WHATEVER THE INPUT: true; the input reads as it did. -/
def fnBracketsSpec : ChangeSpec := { name := "fnBrackets", fn := fun _ => fun
  | [d] => { results := [.lit (.bool true)], args := [d] }
  | _ => none }
def fnBracketsRow : OpenClaim := { program := "ytpinlhfddhlcpaa", sum := "05a98df5e98d23b623c5a422ef4e47b199699e8713587ad01784268899f72900", func := "loop.example/g00182/laws.FnBrackets", spec := "fnBrackets", unfollowed := true, recurses := true, apart := false }
def FnBracketsSaid : Prop := fnBracketsRow.holds Try.pinned (OpenSpec.ofChange fnBracketsSpec)

/-- ITS FALSE NEIGHBOUR: 'it returns false'. Refute it at one input. -/
def fnBracketsWrong : ChangeSpec := { name := "fnBrackets", fn := fun _ => fun
  | [d] => { results := [.lit (.bool false)], args := [d] }
  | _ => none }
def FnBracketsWrongFalsely : Prop := fnBracketsRow.holds Try.pinned (OpenSpec.ofChange fnBracketsWrong)

/-- 'laws.FnHeap': WHATEVER THE INPUT: true; the input reads as it did. -/
def fnHeapSpec : ChangeSpec := { name := "fnHeap", fn := fun _ => fun
  | [d] => { results := [.lit (.bool true)], args := [d] }
  | _ => none }
def fnHeapRow : OpenClaim := { program := "ytpinlhfddhlcpaa", sum := "05a98df5e98d23b623c5a422ef4e47b199699e8713587ad01784268899f72900", func := "loop.example/g00182/laws.FnHeap", spec := "fnHeap", unfollowed := true, recurses := true, apart := false }
def FnHeapSaid : Prop := fnHeapRow.holds Try.pinned (OpenSpec.ofChange fnHeapSpec)

/-- ITS FALSE NEIGHBOUR: 'it returns false'. Refute it at one input. -/
def fnHeapWrong : ChangeSpec := { name := "fnHeap", fn := fun _ => fun
  | [d] => { results := [.lit (.bool false)], args := [d] }
  | _ => none }
def FnHeapWrongFalsely : Prop := fnHeapRow.holds Try.pinned (OpenSpec.ofChange fnHeapWrong)

/- THE SECOND FORM. 'bulk': how many values and letters a reading holds, each counted each time it is reached (what is shared counts as often as it is met; a slice's spare places count too). A statement '..UptoSaid' is the law's where the arguments, and the package variables that the reading takes, are together of bulk at most 1048576: NARROWER than '..Said'. Prove '..Said' where nothing that the law and all that it calls make is longer than what came in: it says more and counts as full. Else prove '..UptoSaid'. A law counts once. -/
mutual
def uptoBulk {H : Type} : DataW H → Nat
  | .lit (.string bytes) => bytes.length + 1
  | .lit _ => 1
  | .nil => 1
  | .ptr d => uptoBulk d + 1
  | .slice elems spare => uptoBulkAll elems + uptoBulkAll spare + 1
  | .agg parts => uptoBulkAll parts + 1
  | .iface _ d => uptoBulk d + 1
  | .map entries => uptoBulkEntries entries + 1
  | .held _ => 1
def uptoBulkAll {H : Type} : List (DataW H) → Nat
  | [] => 0
  | d :: r => uptoBulk d + uptoBulkAll r
def uptoBulkEntries {H : Type} : List (Lit × DataW H) → Nat
  | [] => 0
  | x :: r => uptoBulkEntry x + uptoBulkEntries r
def uptoBulkEntry {H : Type} : Lit × DataW H → Nat
  | (.string bytes, d) => bytes.length + uptoBulk d + 1
  | (_, d) => uptoBulk d + 1
 end
def uptoSmall : (H : Type) → List (DataW H) → Bool := fun _ ds => decide (uptoBulkAll ds ≤ 1048576)
def OpenSpec.upto (s : _root_.Go.ChangeSpec) : _root_.Go.OpenSpec := { _root_.Go.OpenSpec.ofChange s with cond := some uptoSmall }

/-- 'laws.FnExactParse', WHERE WHAT IT READS IS OF BULK AT MOST 1048576: true; the input reads as it did. -/
def fnExactParseUptoRow : OpenClaim := { program := "ytpinlhfddhlcpaa", sum := "05a98df5e98d23b623c5a422ef4e47b199699e8713587ad01784268899f72900", func := "loop.example/g00182/laws.FnExactParse", spec := "fnExactParse", unfollowed := true, recurses := true, apart := false, narrowed := true }
def FnExactParseUptoSaid : Prop := fnExactParseUptoRow.holds Try.pinned (OpenSpec.upto fnExactParseSpec)

/-- 'laws.FnBrackets', WHERE WHAT IT READS IS OF BULK AT MOST 1048576: true; the input reads as it did. -/
def fnBracketsUptoRow : OpenClaim := { program := "ytpinlhfddhlcpaa", sum := "05a98df5e98d23b623c5a422ef4e47b199699e8713587ad01784268899f72900", func := "loop.example/g00182/laws.FnBrackets", spec := "fnBrackets", unfollowed := true, recurses := true, apart := false, narrowed := true }
def FnBracketsUptoSaid : Prop := fnBracketsUptoRow.holds Try.pinned (OpenSpec.upto fnBracketsSpec)

/-- 'laws.FnHeap', WHERE WHAT IT READS IS OF BULK AT MOST 1048576: true; the input reads as it did. -/
def fnHeapUptoRow : OpenClaim := { program := "ytpinlhfddhlcpaa", sum := "05a98df5e98d23b623c5a422ef4e47b199699e8713587ad01784268899f72900", func := "loop.example/g00182/laws.FnHeap", spec := "fnHeap", unfollowed := true, recurses := true, apart := false, narrowed := true }
def FnHeapUptoSaid : Prop := fnHeapUptoRow.holds Try.pinned (OpenSpec.upto fnHeapSpec)

end Rows
end Go.Proofs.Ytpinlhfddhlcpaa
