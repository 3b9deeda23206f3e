/-
  No cell of these rows narrows 'for every input' (looked for: loops, veiled, ifaces, maps, wideKeys, modest, calm, conditions, laid).
  DERIVED. THE GIVEN ROWS OF THIS SEAT. 9 by the template 'for every input the law returns true; each argument reads behind the call as it read before'; 0 by the template 'total and deterministic' (their statements: YtifideminojgjaaTotals.lean).
  GIVEN WITH THE SEED: the statements are not yours to turn. If you find one false, say at which input.
  Laid BY PROGRAM, IN A SANDBOX (cutbox-rows.mjs): the forced cells as the released guide's own fill.sh prints them over the translation 822652b349896c00… (all of the seat's roots in one cut). By AI agents, Wed Nov 11 2026. No macro, syntax, notation, axiom, sorry.
-/
import Derived.Test.YtifideminojgjaaChecked
import GoSem.Claim
import GoSem.ClaimJoined
import GoSem.ClaimMapViews
import Derived.JoinedTies
import Derived.KernelRfl
namespace Go.Proofs.Ytifideminojgjaa
/- THE CELL 'sum', in the pinned program and in every row, IS THE sha256 OF THE DUMP (.gsa) THAT YtifideminojgjaaProg.lean LOADS. Nothing in Lean hashes anything: it is a label: what it is worth is what the hold of that sum in a sandbox is worth. -/
noncomputable def Try.pinned : Pinned := { name := "ytifideminojgjaa", sum := "822652b349896c000e9cb623ca4bddaf5fa1a7a31114c390fc5c9ceeebc81e2c", checked := Try.checked }
namespace Rows
def none {H : Type} : Left H := { results := [], args := [] }

/-- 'sizarlaw3.TablePairs': WHATEVER THE INPUT: true; the input reads as it did. -/
def tablePairsSpec : ChangeSpec := { name := "tablePairs", fn := fun _ => fun
  | [d] => { results := [.lit (.bool true)], args := [d] }
  | _ => none }
def tablePairsRow : OpenClaim := { program := "ytifideminojgjaa", sum := "822652b349896c000e9cb623ca4bddaf5fa1a7a31114c390fc5c9ceeebc81e2c", func := "sizar/sizarlaw3.TablePairs", spec := "tablePairs", plainKeys := false, apart := false }
def TablePairsSaid : Prop := tablePairsRow.holds Try.pinned (OpenSpec.ofChange tablePairsSpec)

/-- ITS FALSE NEIGHBOUR: 'it returns false'. Refute it at one input. -/
def tablePairsWrong : ChangeSpec := { name := "tablePairs", fn := fun _ => fun
  | [d] => { results := [.lit (.bool false)], args := [d] }
  | _ => none }
def TablePairsWrongFalsely : Prop := tablePairsRow.holds Try.pinned (OpenSpec.ofChange tablePairsWrong)

/-- 'sizarlaw3.TableCuts': WHATEVER THE INPUT: true; the input reads as it did. -/
def tableCutsSpec : ChangeSpec := { name := "tableCuts", fn := fun _ => fun
  | [d1, d2] => { results := [.lit (.bool true)], args := [d1, d2] }
  | _ => none }
def tableCutsRow : OpenClaim := { program := "ytifideminojgjaa", sum := "822652b349896c000e9cb623ca4bddaf5fa1a7a31114c390fc5c9ceeebc81e2c", func := "sizar/sizarlaw3.TableCuts", spec := "tableCuts", plainKeys := false, apart := false }
def TableCutsSaid : Prop := tableCutsRow.holds Try.pinned (OpenSpec.ofChange tableCutsSpec)

/-- ITS FALSE NEIGHBOUR: 'it returns false'. Refute it at one input. -/
def tableCutsWrong : ChangeSpec := { name := "tableCuts", fn := fun _ => fun
  | [d1, d2] => { results := [.lit (.bool false)], args := [d1, d2] }
  | _ => none }
def TableCutsWrongFalsely : Prop := tableCutsRow.holds Try.pinned (OpenSpec.ofChange tableCutsWrong)

/-- 'sizarlaw3.TableBack': WHATEVER THE INPUT: true; the input reads as it did. -/
def tableBackSpec : ChangeSpec := { name := "tableBack", fn := fun _ => fun
  | [d] => { results := [.lit (.bool true)], args := [d] }
  | _ => none }
def tableBackRow : OpenClaim := { program := "ytifideminojgjaa", sum := "822652b349896c000e9cb623ca4bddaf5fa1a7a31114c390fc5c9ceeebc81e2c", func := "sizar/sizarlaw3.TableBack", spec := "tableBack", plainKeys := false, apart := false }
def TableBackSaid : Prop := tableBackRow.holds Try.pinned (OpenSpec.ofChange tableBackSpec)

/-- ITS FALSE NEIGHBOUR: 'it returns false'. Refute it at one input. -/
def tableBackWrong : ChangeSpec := { name := "tableBack", fn := fun _ => fun
  | [d] => { results := [.lit (.bool false)], args := [d] }
  | _ => none }
def TableBackWrongFalsely : Prop := tableBackRow.holds Try.pinned (OpenSpec.ofChange tableBackWrong)

/-- 'sizarlaw3.TableKnown': WHATEVER THE INPUT: true; the input reads as it did. -/
def tableKnownSpec : ChangeSpec := { name := "tableKnown", fn := fun _ => fun
  | [] => { results := [.lit (.bool true)], args := [] }
  | _ => none }
def tableKnownRow : OpenClaim := { program := "ytifideminojgjaa", sum := "822652b349896c000e9cb623ca4bddaf5fa1a7a31114c390fc5c9ceeebc81e2c", func := "sizar/sizarlaw3.TableKnown", spec := "tableKnown", plainKeys := false, apart := false }
def TableKnownSaid : Prop := tableKnownRow.holds Try.pinned (OpenSpec.ofChange tableKnownSpec)

/-- ITS FALSE NEIGHBOUR: 'it returns false'. Refute it at one input. -/
def tableKnownWrong : ChangeSpec := { name := "tableKnown", fn := fun _ => fun
  | [] => { results := [.lit (.bool false)], args := [] }
  | _ => none }
def TableKnownWrongFalsely : Prop := tableKnownRow.holds Try.pinned (OpenSpec.ofChange tableKnownWrong)

/-- 'sizarlaw3.TablePlays': WHATEVER THE INPUT: true; the input reads as it did. -/
def tablePlaysSpec : ChangeSpec := { name := "tablePlays", fn := fun _ => fun
  | [d1, d2] => { results := [.lit (.bool true)], args := [d1, d2] }
  | _ => none }
def tablePlaysRow : OpenClaim := { program := "ytifideminojgjaa", sum := "822652b349896c000e9cb623ca4bddaf5fa1a7a31114c390fc5c9ceeebc81e2c", func := "sizar/sizarlaw3.TablePlays", spec := "tablePlays", plainKeys := false, apart := false }
def TablePlaysSaid : Prop := tablePlaysRow.holds Try.pinned (OpenSpec.ofChange tablePlaysSpec)

/-- ITS FALSE NEIGHBOUR: 'it returns false'. Refute it at one input. -/
def tablePlaysWrong : ChangeSpec := { name := "tablePlays", fn := fun _ => fun
  | [d1, d2] => { results := [.lit (.bool false)], args := [d1, d2] }
  | _ => none }
def TablePlaysWrongFalsely : Prop := tablePlaysRow.holds Try.pinned (OpenSpec.ofChange tablePlaysWrong)

/-- 'sizarlaw4.StackKnown': WHATEVER THE INPUT: true; the input reads as it did. -/
def stackKnownSpec : ChangeSpec := { name := "stackKnown", fn := fun _ => fun
  | [] => { results := [.lit (.bool true)], args := [] }
  | _ => none }
def stackKnownRow : OpenClaim := { program := "ytifideminojgjaa", sum := "822652b349896c000e9cb623ca4bddaf5fa1a7a31114c390fc5c9ceeebc81e2c", func := "sizar/sizarlaw4.StackKnown", spec := "stackKnown", plainKeys := false, apart := false }
def StackKnownSaid : Prop := stackKnownRow.holds Try.pinned (OpenSpec.ofChange stackKnownSpec)

/-- ITS FALSE NEIGHBOUR: 'it returns false'. Refute it at one input. -/
def stackKnownWrong : ChangeSpec := { name := "stackKnown", fn := fun _ => fun
  | [] => { results := [.lit (.bool false)], args := [] }
  | _ => none }
def StackKnownWrongFalsely : Prop := stackKnownRow.holds Try.pinned (OpenSpec.ofChange stackKnownWrong)

/-- 'sizarlaw4.StackPlays': WHATEVER THE INPUT: true; the input reads as it did. -/
def stackPlaysSpec : ChangeSpec := { name := "stackPlays", fn := fun _ => fun
  | [d1, d2] => { results := [.lit (.bool true)], args := [d1, d2] }
  | _ => none }
def stackPlaysRow : OpenClaim := { program := "ytifideminojgjaa", sum := "822652b349896c000e9cb623ca4bddaf5fa1a7a31114c390fc5c9ceeebc81e2c", func := "sizar/sizarlaw4.StackPlays", spec := "stackPlays", plainKeys := false, apart := false }
def StackPlaysSaid : Prop := stackPlaysRow.holds Try.pinned (OpenSpec.ofChange stackPlaysSpec)

/-- ITS FALSE NEIGHBOUR: 'it returns false'. Refute it at one input. -/
def stackPlaysWrong : ChangeSpec := { name := "stackPlays", fn := fun _ => fun
  | [d1, d2] => { results := [.lit (.bool false)], args := [d1, d2] }
  | _ => none }
def StackPlaysWrongFalsely : Prop := stackPlaysRow.holds Try.pinned (OpenSpec.ofChange stackPlaysWrong)

/-- 'sizarlaw4.StackMarks': WHATEVER THE INPUT: true; the input reads as it did. -/
def stackMarksSpec : ChangeSpec := { name := "stackMarks", fn := fun _ => fun
  | [d1, d2, d3] => { results := [.lit (.bool true)], args := [d1, d2, d3] }
  | _ => none }
def stackMarksRow : OpenClaim := { program := "ytifideminojgjaa", sum := "822652b349896c000e9cb623ca4bddaf5fa1a7a31114c390fc5c9ceeebc81e2c", func := "sizar/sizarlaw4.StackMarks", spec := "stackMarks", plainKeys := false, apart := false }
def StackMarksSaid : Prop := stackMarksRow.holds Try.pinned (OpenSpec.ofChange stackMarksSpec)

/-- ITS FALSE NEIGHBOUR: 'it returns false'. Refute it at one input. -/
def stackMarksWrong : ChangeSpec := { name := "stackMarks", fn := fun _ => fun
  | [d1, d2, d3] => { results := [.lit (.bool false)], args := [d1, d2, d3] }
  | _ => none }
def StackMarksWrongFalsely : Prop := stackMarksRow.holds Try.pinned (OpenSpec.ofChange stackMarksWrong)

/-- 'sizarlaw4.StackTexts': WHATEVER THE INPUT: true; the input reads as it did. -/
def stackTextsSpec : ChangeSpec := { name := "stackTexts", fn := fun _ => fun
  | [d] => { results := [.lit (.bool true)], args := [d] }
  | _ => none }
def stackTextsRow : OpenClaim := { program := "ytifideminojgjaa", sum := "822652b349896c000e9cb623ca4bddaf5fa1a7a31114c390fc5c9ceeebc81e2c", func := "sizar/sizarlaw4.StackTexts", spec := "stackTexts", plainKeys := false, apart := false }
def StackTextsSaid : Prop := stackTextsRow.holds Try.pinned (OpenSpec.ofChange stackTextsSpec)

/-- ITS FALSE NEIGHBOUR: 'it returns false'. Refute it at one input. -/
def stackTextsWrong : ChangeSpec := { name := "stackTexts", fn := fun _ => fun
  | [d] => { results := [.lit (.bool false)], args := [d] }
  | _ => none }
def StackTextsWrongFalsely : Prop := stackTextsRow.holds Try.pinned (OpenSpec.ofChange stackTextsWrong)

/- THE SECOND FORM. 'bulk': how many values and letters a reading holds, each counted each time it is reached (what is shared counts as often as it is met; a slice's spare places count too). A statement '..UptoSaid' is the law's where the arguments, and the package variables that the reading takes, are together of bulk at most 1048576: NARROWER than '..Said'. Prove '..Said' where nothing that the law and all that it calls make is longer than what came in: it says more and counts as full. Else prove '..UptoSaid'. A law counts once. -/
mutual
def uptoBulk {H : Type} : DataW H → Nat
  | .lit (.string bytes) => bytes.length + 1
  | .lit _ => 1
  | .nil => 1
  | .ptr d => uptoBulk d + 1
  | .slice elems spare => uptoBulkAll elems + uptoBulkAll spare + 1
  | .agg parts => uptoBulkAll parts + 1
  | .iface _ d => uptoBulk d + 1
  | .map entries => uptoBulkEntries entries + 1
  | .held _ => 1
def uptoBulkAll {H : Type} : List (DataW H) → Nat
  | [] => 0
  | d :: r => uptoBulk d + uptoBulkAll r
def uptoBulkEntries {H : Type} : List (Lit × DataW H) → Nat
  | [] => 0
  | x :: r => uptoBulkEntry x + uptoBulkEntries r
def uptoBulkEntry {H : Type} : Lit × DataW H → Nat
  | (.string bytes, d) => bytes.length + uptoBulk d + 1
  | (_, d) => uptoBulk d + 1
 end
def uptoSmall : (H : Type) → List (DataW H) → Bool := fun _ ds => decide (uptoBulkAll ds ≤ 1048576)
def OpenSpec.upto (s : _root_.Go.ChangeSpec) : _root_.Go.OpenSpec := { _root_.Go.OpenSpec.ofChange s with cond := some uptoSmall }

/-- 'sizarlaw3.TablePairs', WHERE WHAT IT READS IS OF BULK AT MOST 1048576: true; the input reads as it did. -/
def tablePairsUptoRow : OpenClaim := { program := "ytifideminojgjaa", sum := "822652b349896c000e9cb623ca4bddaf5fa1a7a31114c390fc5c9ceeebc81e2c", func := "sizar/sizarlaw3.TablePairs", spec := "tablePairs", plainKeys := false, apart := false, narrowed := true }
def TablePairsUptoSaid : Prop := tablePairsUptoRow.holds Try.pinned (OpenSpec.upto tablePairsSpec)

/-- 'sizarlaw3.TableCuts', WHERE WHAT IT READS IS OF BULK AT MOST 1048576: true; the input reads as it did. -/
def tableCutsUptoRow : OpenClaim := { program := "ytifideminojgjaa", sum := "822652b349896c000e9cb623ca4bddaf5fa1a7a31114c390fc5c9ceeebc81e2c", func := "sizar/sizarlaw3.TableCuts", spec := "tableCuts", plainKeys := false, apart := false, narrowed := true }
def TableCutsUptoSaid : Prop := tableCutsUptoRow.holds Try.pinned (OpenSpec.upto tableCutsSpec)

/-- 'sizarlaw3.TableBack', WHERE WHAT IT READS IS OF BULK AT MOST 1048576: true; the input reads as it did. -/
def tableBackUptoRow : OpenClaim := { program := "ytifideminojgjaa", sum := "822652b349896c000e9cb623ca4bddaf5fa1a7a31114c390fc5c9ceeebc81e2c", func := "sizar/sizarlaw3.TableBack", spec := "tableBack", plainKeys := false, apart := false, narrowed := true }
def TableBackUptoSaid : Prop := tableBackUptoRow.holds Try.pinned (OpenSpec.upto tableBackSpec)

/-- 'sizarlaw3.TableKnown', WHERE WHAT IT READS IS OF BULK AT MOST 1048576: true; the input reads as it did. -/
def tableKnownUptoRow : OpenClaim := { program := "ytifideminojgjaa", sum := "822652b349896c000e9cb623ca4bddaf5fa1a7a31114c390fc5c9ceeebc81e2c", func := "sizar/sizarlaw3.TableKnown", spec := "tableKnown", plainKeys := false, apart := false, narrowed := true }
def TableKnownUptoSaid : Prop := tableKnownUptoRow.holds Try.pinned (OpenSpec.upto tableKnownSpec)

/-- 'sizarlaw3.TablePlays', WHERE WHAT IT READS IS OF BULK AT MOST 1048576: true; the input reads as it did. -/
def tablePlaysUptoRow : OpenClaim := { program := "ytifideminojgjaa", sum := "822652b349896c000e9cb623ca4bddaf5fa1a7a31114c390fc5c9ceeebc81e2c", func := "sizar/sizarlaw3.TablePlays", spec := "tablePlays", plainKeys := false, apart := false, narrowed := true }
def TablePlaysUptoSaid : Prop := tablePlaysUptoRow.holds Try.pinned (OpenSpec.upto tablePlaysSpec)

/-- 'sizarlaw4.StackKnown', WHERE WHAT IT READS IS OF BULK AT MOST 1048576: true; the input reads as it did. -/
def stackKnownUptoRow : OpenClaim := { program := "ytifideminojgjaa", sum := "822652b349896c000e9cb623ca4bddaf5fa1a7a31114c390fc5c9ceeebc81e2c", func := "sizar/sizarlaw4.StackKnown", spec := "stackKnown", plainKeys := false, apart := false, narrowed := true }
def StackKnownUptoSaid : Prop := stackKnownUptoRow.holds Try.pinned (OpenSpec.upto stackKnownSpec)

/-- 'sizarlaw4.StackPlays', WHERE WHAT IT READS IS OF BULK AT MOST 1048576: true; the input reads as it did. -/
def stackPlaysUptoRow : OpenClaim := { program := "ytifideminojgjaa", sum := "822652b349896c000e9cb623ca4bddaf5fa1a7a31114c390fc5c9ceeebc81e2c", func := "sizar/sizarlaw4.StackPlays", spec := "stackPlays", plainKeys := false, apart := false, narrowed := true }
def StackPlaysUptoSaid : Prop := stackPlaysUptoRow.holds Try.pinned (OpenSpec.upto stackPlaysSpec)

/-- 'sizarlaw4.StackMarks', WHERE WHAT IT READS IS OF BULK AT MOST 1048576: true; the input reads as it did. -/
def stackMarksUptoRow : OpenClaim := { program := "ytifideminojgjaa", sum := "822652b349896c000e9cb623ca4bddaf5fa1a7a31114c390fc5c9ceeebc81e2c", func := "sizar/sizarlaw4.StackMarks", spec := "stackMarks", plainKeys := false, apart := false, narrowed := true }
def StackMarksUptoSaid : Prop := stackMarksUptoRow.holds Try.pinned (OpenSpec.upto stackMarksSpec)

/-- 'sizarlaw4.StackTexts', WHERE WHAT IT READS IS OF BULK AT MOST 1048576: true; the input reads as it did. -/
def stackTextsUptoRow : OpenClaim := { program := "ytifideminojgjaa", sum := "822652b349896c000e9cb623ca4bddaf5fa1a7a31114c390fc5c9ceeebc81e2c", func := "sizar/sizarlaw4.StackTexts", spec := "stackTexts", plainKeys := false, apart := false, narrowed := true }
def StackTextsUptoSaid : Prop := stackTextsUptoRow.holds Try.pinned (OpenSpec.upto stackTextsSpec)

end Rows
end Go.Proofs.Ytifideminojgjaa
