/-
  No cell of these rows narrows 'for every input' (looked for: loops, veiled, ifaces, maps, wideKeys, modest, calm, conditions, laid).
  DERIVED. THE GIVEN ROWS OF THIS SEAT. 6 by the template 'for every input the law returns true; each argument reads behind the call as it read before'; 0 by the template 'total and deterministic' (their statements: YtekpelppldgkeaaTotals.lean).
  GIVEN WITH THE SEED: the statements are not yours to turn. If you find one false, say at which input.
  Laid BY PROGRAM, IN A SANDBOX (cutbox-rows.mjs): the forced cells as the released guide's own fill.sh prints them over the translation f78c0f016662e3ab… (all of the seat's roots in one cut). By AI agents, Wed Nov 11 2026. No macro, syntax, notation, axiom, sorry.
-/
import Derived.Test.YtekpelppldgkeaaChecked
import GoSem.Claim
import GoSem.ClaimJoined
import GoSem.ClaimMapViews
import Derived.JoinedTies
import Derived.KernelRfl
namespace Go.Proofs.Ytekpelppldgkeaa
/- THE CELL 'sum', in the pinned program and in every row, IS THE sha256 OF THE DUMP (.gsa) THAT YtekpelppldgkeaaProg.lean LOADS. Nothing in Lean hashes anything: it is a label: what it is worth is what the hold of that sum in a sandbox is worth. -/
noncomputable def Try.pinned : Pinned := { name := "ytekpelppldgkeaa", sum := "f78c0f016662e3abfada7975f111a158dbe7d6845c3885b3c565ed8af3e51077", checked := Try.checked }
namespace Rows
def none {H : Type} : Left H := { results := [], args := [] }

/-- 'laws.FnExactCodeText': WHATEVER THE INPUT: true; the input reads as it did. -/
def fnExactCodeTextSpec : ChangeSpec := { name := "fnExactCodeText", fn := fun _ => fun
  | [d] => { results := [.lit (.bool true)], args := [d] }
  | _ => none }
def fnExactCodeTextRow : OpenClaim := { program := "ytekpelppldgkeaa", sum := "f78c0f016662e3abfada7975f111a158dbe7d6845c3885b3c565ed8af3e51077", func := "loop.example/g00182/laws.FnExactCodeText", spec := "fnExactCodeText", apart := false }
def FnExactCodeTextSaid : Prop := fnExactCodeTextRow.holds Try.pinned (OpenSpec.ofChange fnExactCodeTextSpec)

/-- ITS FALSE NEIGHBOUR: 'it returns false'. Refute it at one input. -/
def fnExactCodeTextWrong : ChangeSpec := { name := "fnExactCodeText", fn := fun _ => fun
  | [d] => { results := [.lit (.bool false)], args := [d] }
  | _ => none }
def FnExactCodeTextWrongFalsely : Prop := fnExactCodeTextRow.holds Try.pinned (OpenSpec.ofChange fnExactCodeTextWrong)

/-- 'laws.FnCodeText': WHATEVER THE INPUT: true; the input reads as it did. -/
def fnCodeTextSpec : ChangeSpec := { name := "fnCodeText", fn := fun _ => fun
  | [d] => { results := [.lit (.bool true)], args := [d] }
  | _ => none }
def fnCodeTextRow : OpenClaim := { program := "ytekpelppldgkeaa", sum := "f78c0f016662e3abfada7975f111a158dbe7d6845c3885b3c565ed8af3e51077", func := "loop.example/g00182/laws.FnCodeText", spec := "fnCodeText", apart := false }
def FnCodeTextSaid : Prop := fnCodeTextRow.holds Try.pinned (OpenSpec.ofChange fnCodeTextSpec)

/-- ITS FALSE NEIGHBOUR: 'it returns false'. Refute it at one input. -/
def fnCodeTextWrong : ChangeSpec := { name := "fnCodeText", fn := fun _ => fun
  | [d] => { results := [.lit (.bool false)], args := [d] }
  | _ => none }
def FnCodeTextWrongFalsely : Prop := fnCodeTextRow.holds Try.pinned (OpenSpec.ofChange fnCodeTextWrong)

/-- 'laws.FnExactHeapNew': WHATEVER THE INPUT: true; the input reads as it did. -/
def fnExactHeapNewSpec : ChangeSpec := { name := "fnExactHeapNew", fn := fun _ => fun
  | [d] => { results := [.lit (.bool true)], args := [d] }
  | _ => none }
def fnExactHeapNewRow : OpenClaim := { program := "ytekpelppldgkeaa", sum := "f78c0f016662e3abfada7975f111a158dbe7d6845c3885b3c565ed8af3e51077", func := "loop.example/g00182/laws.FnExactHeapNew", spec := "fnExactHeapNew", apart := false }
def FnExactHeapNewSaid : Prop := fnExactHeapNewRow.holds Try.pinned (OpenSpec.ofChange fnExactHeapNewSpec)

/-- ITS FALSE NEIGHBOUR: 'it returns false'. Refute it at one input. -/
def fnExactHeapNewWrong : ChangeSpec := { name := "fnExactHeapNew", fn := fun _ => fun
  | [d] => { results := [.lit (.bool false)], args := [d] }
  | _ => none }
def FnExactHeapNewWrongFalsely : Prop := fnExactHeapNewRow.holds Try.pinned (OpenSpec.ofChange fnExactHeapNewWrong)

/-- 'laws.FnExactHeapOk': WHATEVER THE INPUT: true; the input reads as it did. -/
def fnExactHeapOkSpec : ChangeSpec := { name := "fnExactHeapOk", fn := fun _ => fun
  | [d] => { results := [.lit (.bool true)], args := [d] }
  | _ => none }
def fnExactHeapOkRow : OpenClaim := { program := "ytekpelppldgkeaa", sum := "f78c0f016662e3abfada7975f111a158dbe7d6845c3885b3c565ed8af3e51077", func := "loop.example/g00182/laws.FnExactHeapOk", spec := "fnExactHeapOk", apart := false }
def FnExactHeapOkSaid : Prop := fnExactHeapOkRow.holds Try.pinned (OpenSpec.ofChange fnExactHeapOkSpec)

/-- ITS FALSE NEIGHBOUR: 'it returns false'. Refute it at one input. -/
def fnExactHeapOkWrong : ChangeSpec := { name := "fnExactHeapOk", fn := fun _ => fun
  | [d] => { results := [.lit (.bool false)], args := [d] }
  | _ => none }
def FnExactHeapOkWrongFalsely : Prop := fnExactHeapOkRow.holds Try.pinned (OpenSpec.ofChange fnExactHeapOkWrong)

/-- 'laws.FnExactHeapUsed': WHATEVER THE INPUT: true; the input reads as it did. -/
def fnExactHeapUsedSpec : ChangeSpec := { name := "fnExactHeapUsed", fn := fun _ => fun
  | [d] => { results := [.lit (.bool true)], args := [d] }
  | _ => none }
def fnExactHeapUsedRow : OpenClaim := { program := "ytekpelppldgkeaa", sum := "f78c0f016662e3abfada7975f111a158dbe7d6845c3885b3c565ed8af3e51077", func := "loop.example/g00182/laws.FnExactHeapUsed", spec := "fnExactHeapUsed", apart := false }
def FnExactHeapUsedSaid : Prop := fnExactHeapUsedRow.holds Try.pinned (OpenSpec.ofChange fnExactHeapUsedSpec)

/-- ITS FALSE NEIGHBOUR: 'it returns false'. Refute it at one input. -/
def fnExactHeapUsedWrong : ChangeSpec := { name := "fnExactHeapUsed", fn := fun _ => fun
  | [d] => { results := [.lit (.bool false)], args := [d] }
  | _ => none }
def FnExactHeapUsedWrongFalsely : Prop := fnExactHeapUsedRow.holds Try.pinned (OpenSpec.ofChange fnExactHeapUsedWrong)

/-- 'laws.FnExactArrayPack': WHATEVER THE INPUT: true; the input reads as it did. -/
def fnExactArrayPackSpec : ChangeSpec := { name := "fnExactArrayPack", fn := fun _ => fun
  | [d] => { results := [.lit (.bool true)], args := [d] }
  | _ => none }
def fnExactArrayPackRow : OpenClaim := { program := "ytekpelppldgkeaa", sum := "f78c0f016662e3abfada7975f111a158dbe7d6845c3885b3c565ed8af3e51077", func := "loop.example/g00182/laws.FnExactArrayPack", spec := "fnExactArrayPack", unfollowed := true, recurses := true, apart := false }
def FnExactArrayPackSaid : Prop := fnExactArrayPackRow.holds Try.pinned (OpenSpec.ofChange fnExactArrayPackSpec)

/-- ITS FALSE NEIGHBOUR: 'it returns false'. Refute it at one input. -/
def fnExactArrayPackWrong : ChangeSpec := { name := "fnExactArrayPack", fn := fun _ => fun
  | [d] => { results := [.lit (.bool false)], args := [d] }
  | _ => none }
def FnExactArrayPackWrongFalsely : Prop := fnExactArrayPackRow.holds Try.pinned (OpenSpec.ofChange fnExactArrayPackWrong)

/- THE SECOND FORM. 'bulk': how many values and letters a reading holds, each counted each time it is reached (what is shared counts as often as it is met; a slice's spare places count too). A statement '..UptoSaid' is the law's where the arguments, and the package variables that the reading takes, are together of bulk at most 1048576: NARROWER than '..Said'. Prove '..Said' where nothing that the law and all that it calls make is longer than what came in: it says more and counts as full. Else prove '..UptoSaid'. A law counts once. -/
mutual
def uptoBulk {H : Type} : DataW H → Nat
  | .lit (.string bytes) => bytes.length + 1
  | .lit _ => 1
  | .nil => 1
  | .ptr d => uptoBulk d + 1
  | .slice elems spare => uptoBulkAll elems + uptoBulkAll spare + 1
  | .agg parts => uptoBulkAll parts + 1
  | .iface _ d => uptoBulk d + 1
  | .map entries => uptoBulkEntries entries + 1
  | .held _ => 1
def uptoBulkAll {H : Type} : List (DataW H) → Nat
  | [] => 0
  | d :: r => uptoBulk d + uptoBulkAll r
def uptoBulkEntries {H : Type} : List (Lit × DataW H) → Nat
  | [] => 0
  | x :: r => uptoBulkEntry x + uptoBulkEntries r
def uptoBulkEntry {H : Type} : Lit × DataW H → Nat
  | (.string bytes, d) => bytes.length + uptoBulk d + 1
  | (_, d) => uptoBulk d + 1
 end
def uptoSmall : (H : Type) → List (DataW H) → Bool := fun _ ds => decide (uptoBulkAll ds ≤ 1048576)
def OpenSpec.upto (s : _root_.Go.ChangeSpec) : _root_.Go.OpenSpec := { _root_.Go.OpenSpec.ofChange s with cond := some uptoSmall }

/-- 'laws.FnExactCodeText', WHERE WHAT IT READS IS OF BULK AT MOST 1048576: true; the input reads as it did. -/
def fnExactCodeTextUptoRow : OpenClaim := { program := "ytekpelppldgkeaa", sum := "f78c0f016662e3abfada7975f111a158dbe7d6845c3885b3c565ed8af3e51077", func := "loop.example/g00182/laws.FnExactCodeText", spec := "fnExactCodeText", apart := false, narrowed := true }
def FnExactCodeTextUptoSaid : Prop := fnExactCodeTextUptoRow.holds Try.pinned (OpenSpec.upto fnExactCodeTextSpec)

/-- 'laws.FnCodeText', WHERE WHAT IT READS IS OF BULK AT MOST 1048576: true; the input reads as it did. -/
def fnCodeTextUptoRow : OpenClaim := { program := "ytekpelppldgkeaa", sum := "f78c0f016662e3abfada7975f111a158dbe7d6845c3885b3c565ed8af3e51077", func := "loop.example/g00182/laws.FnCodeText", spec := "fnCodeText", apart := false, narrowed := true }
def FnCodeTextUptoSaid : Prop := fnCodeTextUptoRow.holds Try.pinned (OpenSpec.upto fnCodeTextSpec)

/-- 'laws.FnExactHeapNew', WHERE WHAT IT READS IS OF BULK AT MOST 1048576: true; the input reads as it did. -/
def fnExactHeapNewUptoRow : OpenClaim := { program := "ytekpelppldgkeaa", sum := "f78c0f016662e3abfada7975f111a158dbe7d6845c3885b3c565ed8af3e51077", func := "loop.example/g00182/laws.FnExactHeapNew", spec := "fnExactHeapNew", apart := false, narrowed := true }
def FnExactHeapNewUptoSaid : Prop := fnExactHeapNewUptoRow.holds Try.pinned (OpenSpec.upto fnExactHeapNewSpec)

/-- 'laws.FnExactHeapOk', WHERE WHAT IT READS IS OF BULK AT MOST 1048576: true; the input reads as it did. -/
def fnExactHeapOkUptoRow : OpenClaim := { program := "ytekpelppldgkeaa", sum := "f78c0f016662e3abfada7975f111a158dbe7d6845c3885b3c565ed8af3e51077", func := "loop.example/g00182/laws.FnExactHeapOk", spec := "fnExactHeapOk", apart := false, narrowed := true }
def FnExactHeapOkUptoSaid : Prop := fnExactHeapOkUptoRow.holds Try.pinned (OpenSpec.upto fnExactHeapOkSpec)

/-- 'laws.FnExactHeapUsed', WHERE WHAT IT READS IS OF BULK AT MOST 1048576: true; the input reads as it did. -/
def fnExactHeapUsedUptoRow : OpenClaim := { program := "ytekpelppldgkeaa", sum := "f78c0f016662e3abfada7975f111a158dbe7d6845c3885b3c565ed8af3e51077", func := "loop.example/g00182/laws.FnExactHeapUsed", spec := "fnExactHeapUsed", apart := false, narrowed := true }
def FnExactHeapUsedUptoSaid : Prop := fnExactHeapUsedUptoRow.holds Try.pinned (OpenSpec.upto fnExactHeapUsedSpec)

/-- 'laws.FnExactArrayPack', WHERE WHAT IT READS IS OF BULK AT MOST 1048576: true; the input reads as it did. -/
def fnExactArrayPackUptoRow : OpenClaim := { program := "ytekpelppldgkeaa", sum := "f78c0f016662e3abfada7975f111a158dbe7d6845c3885b3c565ed8af3e51077", func := "loop.example/g00182/laws.FnExactArrayPack", spec := "fnExactArrayPack", unfollowed := true, recurses := true, apart := false, narrowed := true }
def FnExactArrayPackUptoSaid : Prop := fnExactArrayPackUptoRow.holds Try.pinned (OpenSpec.upto fnExactArrayPackSpec)

end Rows
end Go.Proofs.Ytekpelppldgkeaa
