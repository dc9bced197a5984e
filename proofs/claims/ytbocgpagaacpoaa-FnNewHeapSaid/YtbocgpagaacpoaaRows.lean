/-
  No cell of these rows narrows 'for every input' (looked for: loops, veiled, ifaces, maps, wideKeys, modest, calm, conditions, laid).
  DERIVED. THE GIVEN ROWS OF THIS SEAT. 10 by the template 'for every input the law returns true; each argument reads behind the call as it read before'; 0 by the template 'total and deterministic' (their statements: YtbocgpagaacpoaaTotals.lean).
  GIVEN WITH THE SEED: the statements are not yours to turn. If you find one false, say at which input.
  Laid BY PROGRAM, IN A SANDBOX (cutbox-rows.mjs): the forced cells as the released guide's own fill.sh prints them over the translation 91b619bdbb923e38… (all of the seat's roots in one cut). By AI agents, Wed Nov 11 2026. No macro, syntax, notation, axiom, sorry.
-/
import Derived.Test.YtbocgpagaacpoaaChecked
import GoSem.Claim
import GoSem.ClaimJoined
import GoSem.ClaimMapViews
import Derived.JoinedTies
import Derived.KernelRfl
namespace Go.Proofs.Ytbocgpagaacpoaa
/- THE CELL 'sum', in the pinned program and in every row, IS THE sha256 OF THE DUMP (.gsa) THAT YtbocgpagaacpoaaProg.lean LOADS. Nothing in Lean hashes anything: it is a label: what it is worth is what the hold of that sum in a sandbox is worth. -/
noncomputable def Try.pinned : Pinned := { name := "ytbocgpagaacpoaa", sum := "91b619bdbb923e38a6ad099189378a997807e26fac2884842b40067789007963", checked := Try.checked }
namespace Rows
def none {H : Type} : Left H := { results := [], args := [] }

/-- 'laws.FnExactArrayRead': WHATEVER THE INPUT: true; the input reads as it did. -/
def fnExactArrayReadSpec : ChangeSpec := { name := "fnExactArrayRead", fn := fun _ => fun
  | [d] => { results := [.lit (.bool true)], args := [d] }
  | _ => none }
def fnExactArrayReadRow : OpenClaim := { program := "ytbocgpagaacpoaa", sum := "91b619bdbb923e38a6ad099189378a997807e26fac2884842b40067789007963", func := "loop.example/g00182/laws.FnExactArrayRead", spec := "fnExactArrayRead", unfollowed := true, recurses := true, apart := false }
def FnExactArrayReadSaid : Prop := fnExactArrayReadRow.holds Try.pinned (OpenSpec.ofChange fnExactArrayReadSpec)

/-- ITS FALSE NEIGHBOUR: 'it returns false'. Refute it at one input. -/
def fnExactArrayReadWrong : ChangeSpec := { name := "fnExactArrayRead", fn := fun _ => fun
  | [d] => { results := [.lit (.bool false)], args := [d] }
  | _ => none }
def FnExactArrayReadWrongFalsely : Prop := fnExactArrayReadRow.holds Try.pinned (OpenSpec.ofChange fnExactArrayReadWrong)

/-- 'laws.FnExactHeapDrop': WHATEVER THE INPUT: true; the input reads as it did. -/
def fnExactHeapDropSpec : ChangeSpec := { name := "fnExactHeapDrop", fn := fun _ => fun
  | [d1, d2] => { results := [.lit (.bool true)], args := [d1, d2] }
  | _ => none }
def fnExactHeapDropRow : OpenClaim := { program := "ytbocgpagaacpoaa", sum := "91b619bdbb923e38a6ad099189378a997807e26fac2884842b40067789007963", func := "loop.example/g00182/laws.FnExactHeapDrop", spec := "fnExactHeapDrop", apart := false }
def FnExactHeapDropSaid : Prop := fnExactHeapDropRow.holds Try.pinned (OpenSpec.ofChange fnExactHeapDropSpec)

/-- ITS FALSE NEIGHBOUR: 'it returns false'. Refute it at one input. -/
def fnExactHeapDropWrong : ChangeSpec := { name := "fnExactHeapDrop", fn := fun _ => fun
  | [d1, d2] => { results := [.lit (.bool false)], args := [d1, d2] }
  | _ => none }
def FnExactHeapDropWrongFalsely : Prop := fnExactHeapDropRow.holds Try.pinned (OpenSpec.ofChange fnExactHeapDropWrong)

/-- 'laws.FnArrayBytes': WHATEVER THE INPUT: true; the input reads as it did. -/
def fnArrayBytesSpec : ChangeSpec := { name := "fnArrayBytes", fn := fun _ => fun
  | [d] => { results := [.lit (.bool true)], args := [d] }
  | _ => none }
def fnArrayBytesRow : OpenClaim := { program := "ytbocgpagaacpoaa", sum := "91b619bdbb923e38a6ad099189378a997807e26fac2884842b40067789007963", func := "loop.example/g00182/laws.FnArrayBytes", spec := "fnArrayBytes", unfollowed := true, recurses := true, apart := false }
def FnArrayBytesSaid : Prop := fnArrayBytesRow.holds Try.pinned (OpenSpec.ofChange fnArrayBytesSpec)

/-- ITS FALSE NEIGHBOUR: 'it returns false'. Refute it at one input. -/
def fnArrayBytesWrong : ChangeSpec := { name := "fnArrayBytes", fn := fun _ => fun
  | [d] => { results := [.lit (.bool false)], args := [d] }
  | _ => none }
def FnArrayBytesWrongFalsely : Prop := fnArrayBytesRow.holds Try.pinned (OpenSpec.ofChange fnArrayBytesWrong)

/-- 'laws.FnExactHeapGet': WHATEVER THE INPUT: true; the input reads as it did. -/
def fnExactHeapGetSpec : ChangeSpec := { name := "fnExactHeapGet", fn := fun _ => fun
  | [d1, d2] => { results := [.lit (.bool true)], args := [d1, d2] }
  | _ => none }
def fnExactHeapGetRow : OpenClaim := { program := "ytbocgpagaacpoaa", sum := "91b619bdbb923e38a6ad099189378a997807e26fac2884842b40067789007963", func := "loop.example/g00182/laws.FnExactHeapGet", spec := "fnExactHeapGet", unfollowed := true, recurses := true, apart := false }
def FnExactHeapGetSaid : Prop := fnExactHeapGetRow.holds Try.pinned (OpenSpec.ofChange fnExactHeapGetSpec)

/-- ITS FALSE NEIGHBOUR: 'it returns false'. Refute it at one input. -/
def fnExactHeapGetWrong : ChangeSpec := { name := "fnExactHeapGet", fn := fun _ => fun
  | [d1, d2] => { results := [.lit (.bool false)], args := [d1, d2] }
  | _ => none }
def FnExactHeapGetWrongFalsely : Prop := fnExactHeapGetRow.holds Try.pinned (OpenSpec.ofChange fnExactHeapGetWrong)

/-- 'laws.FnDropped': WHATEVER THE INPUT: true; the input reads as it did. -/
def fnDroppedSpec : ChangeSpec := { name := "fnDropped", fn := fun _ => fun
  | [d] => { results := [.lit (.bool true)], args := [d] }
  | _ => none }
def fnDroppedRow : OpenClaim := { program := "ytbocgpagaacpoaa", sum := "91b619bdbb923e38a6ad099189378a997807e26fac2884842b40067789007963", func := "loop.example/g00182/laws.FnDropped", spec := "fnDropped", unfollowed := true, recurses := true, apart := false }
def FnDroppedSaid : Prop := fnDroppedRow.holds Try.pinned (OpenSpec.ofChange fnDroppedSpec)

/-- ITS FALSE NEIGHBOUR: 'it returns false'. Refute it at one input. -/
def fnDroppedWrong : ChangeSpec := { name := "fnDropped", fn := fun _ => fun
  | [d] => { results := [.lit (.bool false)], args := [d] }
  | _ => none }
def FnDroppedWrongFalsely : Prop := fnDroppedRow.holds Try.pinned (OpenSpec.ofChange fnDroppedWrong)

/-- 'laws.FnExactSpans': WHATEVER THE INPUT: true; the input reads as it did. -/
def fnExactSpansSpec : ChangeSpec := { name := "fnExactSpans", fn := fun _ => fun
  | [d] => { results := [.lit (.bool true)], args := [d] }
  | _ => none }
def fnExactSpansRow : OpenClaim := { program := "ytbocgpagaacpoaa", sum := "91b619bdbb923e38a6ad099189378a997807e26fac2884842b40067789007963", func := "loop.example/g00182/laws.FnExactSpans", spec := "fnExactSpans", unfollowed := true, recurses := true, apart := false }
def FnExactSpansSaid : Prop := fnExactSpansRow.holds Try.pinned (OpenSpec.ofChange fnExactSpansSpec)

/-- ITS FALSE NEIGHBOUR: 'it returns false'. Refute it at one input. -/
def fnExactSpansWrong : ChangeSpec := { name := "fnExactSpans", fn := fun _ => fun
  | [d] => { results := [.lit (.bool false)], args := [d] }
  | _ => none }
def FnExactSpansWrongFalsely : Prop := fnExactSpansRow.holds Try.pinned (OpenSpec.ofChange fnExactSpansWrong)

/-- 'laws.FnNewHeap': WHATEVER THE INPUT: true; the input reads as it did. -/
def fnNewHeapSpec : ChangeSpec := { name := "fnNewHeap", fn := fun _ => fun
  | [d] => { results := [.lit (.bool true)], args := [d] }
  | _ => none }
def fnNewHeapRow : OpenClaim := { program := "ytbocgpagaacpoaa", sum := "91b619bdbb923e38a6ad099189378a997807e26fac2884842b40067789007963", func := "loop.example/g00182/laws.FnNewHeap", spec := "fnNewHeap", unfollowed := true, recurses := true, apart := false }
def FnNewHeapSaid : Prop := fnNewHeapRow.holds Try.pinned (OpenSpec.ofChange fnNewHeapSpec)

/-- ITS FALSE NEIGHBOUR: 'it returns false'. Refute it at one input. -/
def fnNewHeapWrong : ChangeSpec := { name := "fnNewHeap", fn := fun _ => fun
  | [d] => { results := [.lit (.bool false)], args := [d] }
  | _ => none }
def FnNewHeapWrongFalsely : Prop := fnNewHeapRow.holds Try.pinned (OpenSpec.ofChange fnNewHeapWrong)

/-- 'laws.FnExactParse': WHATEVER THE INPUT: true; the input reads as it did. -/
def fnExactParseSpec : ChangeSpec := { name := "fnExactParse", fn := fun _ => fun
  | [d] => { results := [.lit (.bool true)], args := [d] }
  | _ => none }
def fnExactParseRow : OpenClaim := { program := "ytbocgpagaacpoaa", sum := "91b619bdbb923e38a6ad099189378a997807e26fac2884842b40067789007963", func := "loop.example/g00182/laws.FnExactParse", spec := "fnExactParse", unfollowed := true, recurses := true, apart := false }
def FnExactParseSaid : Prop := fnExactParseRow.holds Try.pinned (OpenSpec.ofChange fnExactParseSpec)

/-- ITS FALSE NEIGHBOUR: 'it returns false'. Refute it at one input. -/
def fnExactParseWrong : ChangeSpec := { name := "fnExactParse", fn := fun _ => fun
  | [d] => { results := [.lit (.bool false)], args := [d] }
  | _ => none }
def FnExactParseWrongFalsely : Prop := fnExactParseRow.holds Try.pinned (OpenSpec.ofChange fnExactParseWrong)

/-- 'laws.FnBrackets': WHATEVER THE INPUT: true; the input reads as it did. -/
def fnBracketsSpec : ChangeSpec := { name := "fnBrackets", fn := fun _ => fun
  | [d] => { results := [.lit (.bool true)], args := [d] }
  | _ => none }
def fnBracketsRow : OpenClaim := { program := "ytbocgpagaacpoaa", sum := "91b619bdbb923e38a6ad099189378a997807e26fac2884842b40067789007963", func := "loop.example/g00182/laws.FnBrackets", spec := "fnBrackets", unfollowed := true, recurses := true, apart := false }
def FnBracketsSaid : Prop := fnBracketsRow.holds Try.pinned (OpenSpec.ofChange fnBracketsSpec)

/-- ITS FALSE NEIGHBOUR: 'it returns false'. Refute it at one input. -/
def fnBracketsWrong : ChangeSpec := { name := "fnBrackets", fn := fun _ => fun
  | [d] => { results := [.lit (.bool false)], args := [d] }
  | _ => none }
def FnBracketsWrongFalsely : Prop := fnBracketsRow.holds Try.pinned (OpenSpec.ofChange fnBracketsWrong)

/-- 'laws.FnExactHeapPack': WHATEVER THE INPUT: true; the input reads as it did. -/
def fnExactHeapPackSpec : ChangeSpec := { name := "fnExactHeapPack", fn := fun _ => fun
  | [d] => { results := [.lit (.bool true)], args := [d] }
  | _ => none }
def fnExactHeapPackRow : OpenClaim := { program := "ytbocgpagaacpoaa", sum := "91b619bdbb923e38a6ad099189378a997807e26fac2884842b40067789007963", func := "loop.example/g00182/laws.FnExactHeapPack", spec := "fnExactHeapPack", unfollowed := true, recurses := true, apart := false }
def FnExactHeapPackSaid : Prop := fnExactHeapPackRow.holds Try.pinned (OpenSpec.ofChange fnExactHeapPackSpec)

/-- ITS FALSE NEIGHBOUR: 'it returns false'. Refute it at one input. -/
def fnExactHeapPackWrong : ChangeSpec := { name := "fnExactHeapPack", fn := fun _ => fun
  | [d] => { results := [.lit (.bool false)], args := [d] }
  | _ => none }
def FnExactHeapPackWrongFalsely : Prop := fnExactHeapPackRow.holds Try.pinned (OpenSpec.ofChange fnExactHeapPackWrong)

/- THE SECOND FORM. 'bulk': how many values and letters a reading holds, each counted each time it is reached (what is shared counts as often as it is met; a slice's spare places count too). A statement '..UptoSaid' is the law's where the arguments, and the package variables that the reading takes, are together of bulk at most 1048576: NARROWER than '..Said'. Prove '..Said' where nothing that the law and all that it calls make is longer than what came in: it says more and counts as full. Else prove '..UptoSaid'. A law counts once. -/
mutual
def uptoBulk {H : Type} : DataW H → Nat
  | .lit (.string bytes) => bytes.length + 1
  | .lit _ => 1
  | .nil => 1
  | .ptr d => uptoBulk d + 1
  | .slice elems spare => uptoBulkAll elems + uptoBulkAll spare + 1
  | .agg parts => uptoBulkAll parts + 1
  | .iface _ d => uptoBulk d + 1
  | .map entries => uptoBulkEntries entries + 1
  | .held _ => 1
def uptoBulkAll {H : Type} : List (DataW H) → Nat
  | [] => 0
  | d :: r => uptoBulk d + uptoBulkAll r
def uptoBulkEntries {H : Type} : List (Lit × DataW H) → Nat
  | [] => 0
  | x :: r => uptoBulkEntry x + uptoBulkEntries r
def uptoBulkEntry {H : Type} : Lit × DataW H → Nat
  | (.string bytes, d) => bytes.length + uptoBulk d + 1
  | (_, d) => uptoBulk d + 1
 end
def uptoSmall : (H : Type) → List (DataW H) → Bool := fun _ ds => decide (uptoBulkAll ds ≤ 1048576)
def OpenSpec.upto (s : _root_.Go.ChangeSpec) : _root_.Go.OpenSpec := { _root_.Go.OpenSpec.ofChange s with cond := some uptoSmall }

/-- 'laws.FnExactArrayRead', WHERE WHAT IT READS IS OF BULK AT MOST 1048576: true; the input reads as it did. -/
def fnExactArrayReadUptoRow : OpenClaim := { program := "ytbocgpagaacpoaa", sum := "91b619bdbb923e38a6ad099189378a997807e26fac2884842b40067789007963", func := "loop.example/g00182/laws.FnExactArrayRead", spec := "fnExactArrayRead", unfollowed := true, recurses := true, apart := false, narrowed := true }
def FnExactArrayReadUptoSaid : Prop := fnExactArrayReadUptoRow.holds Try.pinned (OpenSpec.upto fnExactArrayReadSpec)

/-- 'laws.FnExactHeapDrop', WHERE WHAT IT READS IS OF BULK AT MOST 1048576: true; the input reads as it did. -/
def fnExactHeapDropUptoRow : OpenClaim := { program := "ytbocgpagaacpoaa", sum := "91b619bdbb923e38a6ad099189378a997807e26fac2884842b40067789007963", func := "loop.example/g00182/laws.FnExactHeapDrop", spec := "fnExactHeapDrop", apart := false, narrowed := true }
def FnExactHeapDropUptoSaid : Prop := fnExactHeapDropUptoRow.holds Try.pinned (OpenSpec.upto fnExactHeapDropSpec)

/-- 'laws.FnArrayBytes', WHERE WHAT IT READS IS OF BULK AT MOST 1048576: true; the input reads as it did. -/
def fnArrayBytesUptoRow : OpenClaim := { program := "ytbocgpagaacpoaa", sum := "91b619bdbb923e38a6ad099189378a997807e26fac2884842b40067789007963", func := "loop.example/g00182/laws.FnArrayBytes", spec := "fnArrayBytes", unfollowed := true, recurses := true, apart := false, narrowed := true }
def FnArrayBytesUptoSaid : Prop := fnArrayBytesUptoRow.holds Try.pinned (OpenSpec.upto fnArrayBytesSpec)

/-- 'laws.FnExactHeapGet', WHERE WHAT IT READS IS OF BULK AT MOST 1048576: true; the input reads as it did. -/
def fnExactHeapGetUptoRow : OpenClaim := { program := "ytbocgpagaacpoaa", sum := "91b619bdbb923e38a6ad099189378a997807e26fac2884842b40067789007963", func := "loop.example/g00182/laws.FnExactHeapGet", spec := "fnExactHeapGet", unfollowed := true, recurses := true, apart := false, narrowed := true }
def FnExactHeapGetUptoSaid : Prop := fnExactHeapGetUptoRow.holds Try.pinned (OpenSpec.upto fnExactHeapGetSpec)

/-- 'laws.FnDropped', WHERE WHAT IT READS IS OF BULK AT MOST 1048576: true; the input reads as it did. -/
def fnDroppedUptoRow : OpenClaim := { program := "ytbocgpagaacpoaa", sum := "91b619bdbb923e38a6ad099189378a997807e26fac2884842b40067789007963", func := "loop.example/g00182/laws.FnDropped", spec := "fnDropped", unfollowed := true, recurses := true, apart := false, narrowed := true }
def FnDroppedUptoSaid : Prop := fnDroppedUptoRow.holds Try.pinned (OpenSpec.upto fnDroppedSpec)

/-- 'laws.FnExactSpans', WHERE WHAT IT READS IS OF BULK AT MOST 1048576: true; the input reads as it did. -/
def fnExactSpansUptoRow : OpenClaim := { program := "ytbocgpagaacpoaa", sum := "91b619bdbb923e38a6ad099189378a997807e26fac2884842b40067789007963", func := "loop.example/g00182/laws.FnExactSpans", spec := "fnExactSpans", unfollowed := true, recurses := true, apart := false, narrowed := true }
def FnExactSpansUptoSaid : Prop := fnExactSpansUptoRow.holds Try.pinned (OpenSpec.upto fnExactSpansSpec)

/-- 'laws.FnNewHeap', WHERE WHAT IT READS IS OF BULK AT MOST 1048576: true; the input reads as it did. -/
def fnNewHeapUptoRow : OpenClaim := { program := "ytbocgpagaacpoaa", sum := "91b619bdbb923e38a6ad099189378a997807e26fac2884842b40067789007963", func := "loop.example/g00182/laws.FnNewHeap", spec := "fnNewHeap", unfollowed := true, recurses := true, apart := false, narrowed := true }
def FnNewHeapUptoSaid : Prop := fnNewHeapUptoRow.holds Try.pinned (OpenSpec.upto fnNewHeapSpec)

/-- 'laws.FnExactParse', WHERE WHAT IT READS IS OF BULK AT MOST 1048576: true; the input reads as it did. -/
def fnExactParseUptoRow : OpenClaim := { program := "ytbocgpagaacpoaa", sum := "91b619bdbb923e38a6ad099189378a997807e26fac2884842b40067789007963", func := "loop.example/g00182/laws.FnExactParse", spec := "fnExactParse", unfollowed := true, recurses := true, apart := false, narrowed := true }
def FnExactParseUptoSaid : Prop := fnExactParseUptoRow.holds Try.pinned (OpenSpec.upto fnExactParseSpec)

/-- 'laws.FnBrackets', WHERE WHAT IT READS IS OF BULK AT MOST 1048576: true; the input reads as it did. -/
def fnBracketsUptoRow : OpenClaim := { program := "ytbocgpagaacpoaa", sum := "91b619bdbb923e38a6ad099189378a997807e26fac2884842b40067789007963", func := "loop.example/g00182/laws.FnBrackets", spec := "fnBrackets", unfollowed := true, recurses := true, apart := false, narrowed := true }
def FnBracketsUptoSaid : Prop := fnBracketsUptoRow.holds Try.pinned (OpenSpec.upto fnBracketsSpec)

/-- 'laws.FnExactHeapPack', WHERE WHAT IT READS IS OF BULK AT MOST 1048576: true; the input reads as it did. -/
def fnExactHeapPackUptoRow : OpenClaim := { program := "ytbocgpagaacpoaa", sum := "91b619bdbb923e38a6ad099189378a997807e26fac2884842b40067789007963", func := "loop.example/g00182/laws.FnExactHeapPack", spec := "fnExactHeapPack", unfollowed := true, recurses := true, apart := false, narrowed := true }
def FnExactHeapPackUptoSaid : Prop := fnExactHeapPackUptoRow.holds Try.pinned (OpenSpec.upto fnExactHeapPackSpec)

end Rows
end Go.Proofs.Ytbocgpagaacpoaa
