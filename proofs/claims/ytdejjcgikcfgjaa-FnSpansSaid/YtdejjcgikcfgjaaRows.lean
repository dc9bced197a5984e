/-
  No cell of these rows narrows 'for every input' (looked for: loops, veiled, ifaces, maps, wideKeys, modest, calm, conditions, laid).
  DERIVED. THE GIVEN ROWS OF THIS SEAT. 4 by the template 'for every input the law returns true; each argument reads behind the call as it read before'; 0 by the template 'total and deterministic' (their statements: YtdejjcgikcfgjaaTotals.lean).
  GIVEN WITH THE SEED: the statements are not yours to turn. If you find one false, say at which input.
  Laid BY PROGRAM, IN A SANDBOX (cutbox-rows.mjs): the forced cells as the released guide's own fill.sh prints them over the translation 923ee86bd273f6b2… (all of the seat's roots in one cut). By AI agents, Wed Nov 11 2026. No macro, syntax, notation, axiom, sorry.
-/
import Derived.Test.YtdejjcgikcfgjaaChecked
import GoSem.Claim
import GoSem.ClaimJoined
import GoSem.ClaimMapViews
import Derived.JoinedTies
import Derived.KernelRfl
namespace Go.Proofs.Ytdejjcgikcfgjaa
/- THE CELL 'sum', in the pinned program and in every row, IS THE sha256 OF THE DUMP (.gsa) THAT YtdejjcgikcfgjaaProg.lean LOADS. Nothing in Lean hashes anything: it is a label: what it is worth is what the hold of that sum in a sandbox is worth. -/
noncomputable def Try.pinned : Pinned := { name := "ytdejjcgikcfgjaa", sum := "923ee86bd273f6b2ab00c6b3deccf358ff74f2ae417238fad739cfe81a82116b", checked := Try.checked }
namespace Rows
def none {H : Type} : Left H := { results := [], args := [] }

/-- 'laws.FnExactSpans': WHATEVER THE INPUT: true; the input reads as it did. -/
def fnExactSpansSpec : ChangeSpec := { name := "fnExactSpans", fn := fun _ => fun
  | [d] => { results := [.lit (.bool true)], args := [d] }
  | _ => none }
def fnExactSpansRow : OpenClaim := { program := "ytdejjcgikcfgjaa", sum := "923ee86bd273f6b2ab00c6b3deccf358ff74f2ae417238fad739cfe81a82116b", func := "loop.example/g00182/laws.FnExactSpans", spec := "fnExactSpans", unfollowed := true, recurses := true, apart := false }
def FnExactSpansSaid : Prop := fnExactSpansRow.holds Try.pinned (OpenSpec.ofChange fnExactSpansSpec)

/-- ITS FALSE NEIGHBOUR: 'it returns false'. Refute it at one input. -/
def fnExactSpansWrong : ChangeSpec := { name := "fnExactSpans", fn := fun _ => fun
  | [d] => { results := [.lit (.bool false)], args := [d] }
  | _ => none }
def FnExactSpansWrongFalsely : Prop := fnExactSpansRow.holds Try.pinned (OpenSpec.ofChange fnExactSpansWrong)

/-- 'laws.FnSpans': WHATEVER THE INPUT: true; the input reads as it did. -/
def fnSpansSpec : ChangeSpec := { name := "fnSpans", fn := fun _ => fun
  | [d] => { results := [.lit (.bool true)], args := [d] }
  | _ => none }
def fnSpansRow : OpenClaim := { program := "ytdejjcgikcfgjaa", sum := "923ee86bd273f6b2ab00c6b3deccf358ff74f2ae417238fad739cfe81a82116b", func := "loop.example/g00182/laws.FnSpans", spec := "fnSpans", unfollowed := true, recurses := true, apart := false }
def FnSpansSaid : Prop := fnSpansRow.holds Try.pinned (OpenSpec.ofChange fnSpansSpec)

/-- ITS FALSE NEIGHBOUR: 'it returns false'. Refute it at one input. -/
def fnSpansWrong : ChangeSpec := { name := "fnSpans", fn := fun _ => fun
  | [d] => { results := [.lit (.bool false)], args := [d] }
  | _ => none }
def FnSpansWrongFalsely : Prop := fnSpansRow.holds Try.pinned (OpenSpec.ofChange fnSpansWrong)

/-- 'laws.FnExactLineCode': WHATEVER THE INPUT: true; the input reads as it did. -/
def fnExactLineCodeSpec : ChangeSpec := { name := "fnExactLineCode", fn := fun _ => fun
  | [d] => { results := [.lit (.bool true)], args := [d] }
  | _ => none }
def fnExactLineCodeRow : OpenClaim := { program := "ytdejjcgikcfgjaa", sum := "923ee86bd273f6b2ab00c6b3deccf358ff74f2ae417238fad739cfe81a82116b", func := "loop.example/g00182/laws.FnExactLineCode", spec := "fnExactLineCode", unfollowed := true, recurses := true, apart := false }
def FnExactLineCodeSaid : Prop := fnExactLineCodeRow.holds Try.pinned (OpenSpec.ofChange fnExactLineCodeSpec)

/-- ITS FALSE NEIGHBOUR: 'it returns false'. Refute it at one input. -/
def fnExactLineCodeWrong : ChangeSpec := { name := "fnExactLineCode", fn := fun _ => fun
  | [d] => { results := [.lit (.bool false)], args := [d] }
  | _ => none }
def FnExactLineCodeWrongFalsely : Prop := fnExactLineCodeRow.holds Try.pinned (OpenSpec.ofChange fnExactLineCodeWrong)

/-- 'laws.FnLineCode': WHATEVER THE INPUT: true; the input reads as it did. -/
def fnLineCodeSpec : ChangeSpec := { name := "fnLineCode", fn := fun _ => fun
  | [d] => { results := [.lit (.bool true)], args := [d] }
  | _ => none }
def fnLineCodeRow : OpenClaim := { program := "ytdejjcgikcfgjaa", sum := "923ee86bd273f6b2ab00c6b3deccf358ff74f2ae417238fad739cfe81a82116b", func := "loop.example/g00182/laws.FnLineCode", spec := "fnLineCode", unfollowed := true, recurses := true, apart := false }
def FnLineCodeSaid : Prop := fnLineCodeRow.holds Try.pinned (OpenSpec.ofChange fnLineCodeSpec)

/-- ITS FALSE NEIGHBOUR: 'it returns false'. Refute it at one input. -/
def fnLineCodeWrong : ChangeSpec := { name := "fnLineCode", fn := fun _ => fun
  | [d] => { results := [.lit (.bool false)], args := [d] }
  | _ => none }
def FnLineCodeWrongFalsely : Prop := fnLineCodeRow.holds Try.pinned (OpenSpec.ofChange fnLineCodeWrong)

/- THE SECOND FORM. 'bulk': how many values and letters a reading holds, each counted each time it is reached (what is shared counts as often as it is met; a slice's spare places count too). A statement '..UptoSaid' is the law's where the arguments, and the package variables that the reading takes, are together of bulk at most 1048576: NARROWER than '..Said'. Prove '..Said' where nothing that the law and all that it calls make is longer than what came in: it says more and counts as full. Else prove '..UptoSaid'. A law counts once. -/
mutual
def uptoBulk {H : Type} : DataW H → Nat
  | .lit (.string bytes) => bytes.length + 1
  | .lit _ => 1
  | .nil => 1
  | .ptr d => uptoBulk d + 1
  | .slice elems spare => uptoBulkAll elems + uptoBulkAll spare + 1
  | .agg parts => uptoBulkAll parts + 1
  | .iface _ d => uptoBulk d + 1
  | .map entries => uptoBulkEntries entries + 1
  | .held _ => 1
def uptoBulkAll {H : Type} : List (DataW H) → Nat
  | [] => 0
  | d :: r => uptoBulk d + uptoBulkAll r
def uptoBulkEntries {H : Type} : List (Lit × DataW H) → Nat
  | [] => 0
  | x :: r => uptoBulkEntry x + uptoBulkEntries r
def uptoBulkEntry {H : Type} : Lit × DataW H → Nat
  | (.string bytes, d) => bytes.length + uptoBulk d + 1
  | (_, d) => uptoBulk d + 1
 end
def uptoSmall : (H : Type) → List (DataW H) → Bool := fun _ ds => decide (uptoBulkAll ds ≤ 1048576)
def OpenSpec.upto (s : _root_.Go.ChangeSpec) : _root_.Go.OpenSpec := { _root_.Go.OpenSpec.ofChange s with cond := some uptoSmall }

/-- 'laws.FnExactSpans', WHERE WHAT IT READS IS OF BULK AT MOST 1048576: true; the input reads as it did. -/
def fnExactSpansUptoRow : OpenClaim := { program := "ytdejjcgikcfgjaa", sum := "923ee86bd273f6b2ab00c6b3deccf358ff74f2ae417238fad739cfe81a82116b", func := "loop.example/g00182/laws.FnExactSpans", spec := "fnExactSpans", unfollowed := true, recurses := true, apart := false, narrowed := true }
def FnExactSpansUptoSaid : Prop := fnExactSpansUptoRow.holds Try.pinned (OpenSpec.upto fnExactSpansSpec)

/-- 'laws.FnSpans', WHERE WHAT IT READS IS OF BULK AT MOST 1048576: true; the input reads as it did. -/
def fnSpansUptoRow : OpenClaim := { program := "ytdejjcgikcfgjaa", sum := "923ee86bd273f6b2ab00c6b3deccf358ff74f2ae417238fad739cfe81a82116b", func := "loop.example/g00182/laws.FnSpans", spec := "fnSpans", unfollowed := true, recurses := true, apart := false, narrowed := true }
def FnSpansUptoSaid : Prop := fnSpansUptoRow.holds Try.pinned (OpenSpec.upto fnSpansSpec)

/-- 'laws.FnExactLineCode', WHERE WHAT IT READS IS OF BULK AT MOST 1048576: true; the input reads as it did. -/
def fnExactLineCodeUptoRow : OpenClaim := { program := "ytdejjcgikcfgjaa", sum := "923ee86bd273f6b2ab00c6b3deccf358ff74f2ae417238fad739cfe81a82116b", func := "loop.example/g00182/laws.FnExactLineCode", spec := "fnExactLineCode", unfollowed := true, recurses := true, apart := false, narrowed := true }
def FnExactLineCodeUptoSaid : Prop := fnExactLineCodeUptoRow.holds Try.pinned (OpenSpec.upto fnExactLineCodeSpec)

/-- 'laws.FnLineCode', WHERE WHAT IT READS IS OF BULK AT MOST 1048576: true; the input reads as it did. -/
def fnLineCodeUptoRow : OpenClaim := { program := "ytdejjcgikcfgjaa", sum := "923ee86bd273f6b2ab00c6b3deccf358ff74f2ae417238fad739cfe81a82116b", func := "loop.example/g00182/laws.FnLineCode", spec := "fnLineCode", unfollowed := true, recurses := true, apart := false, narrowed := true }
def FnLineCodeUptoSaid : Prop := fnLineCodeUptoRow.holds Try.pinned (OpenSpec.upto fnLineCodeSpec)

end Rows
end Go.Proofs.Ytdejjcgikcfgjaa
