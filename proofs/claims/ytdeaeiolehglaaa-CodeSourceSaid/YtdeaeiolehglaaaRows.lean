/-
  No cell of these rows narrows 'for every input' (looked for: loops, veiled, ifaces, maps, wideKeys, modest, calm, conditions, laid).
  DERIVED. THE GIVEN ROWS OF THIS SEAT. 9 by the template 'for every input the law returns true; each argument reads behind the call as it read before'; 0 by the template 'total and deterministic' (their statements: YtdeaeiolehglaaaTotals.lean).
  GIVEN WITH THE SEED: the statements are not yours to turn. If you find one false, say at which input.
  Laid BY PROGRAM, IN A SANDBOX (cutbox-rows.mjs): the forced cells as the released guide's own fill.sh prints them over the translation 4cc232711b32446e… (all of the seat's roots in one cut). By AI agents, Wed Nov 11 2026. No macro, syntax, notation, axiom, sorry.
-/
import Derived.Test.YtdeaeiolehglaaaChecked
import GoSem.Claim
import GoSem.ClaimJoined
import GoSem.ClaimMapViews
import Derived.JoinedTies
import Derived.KernelRfl
namespace Go.Proofs.Ytdeaeiolehglaaa
/- THE CELL 'sum', in the pinned program and in every row, IS THE sha256 OF THE DUMP (.gsa) THAT YtdeaeiolehglaaaProg.lean LOADS. Nothing in Lean hashes anything: it is a label: what it is worth is what the hold of that sum in a sandbox is worth. -/
noncomputable def Try.pinned : Pinned := { name := "ytdeaeiolehglaaa", sum := "4cc232711b32446ea7d8430838879cc9f290935408f18dd74934d4b7000aa2d5", checked := Try.checked }
namespace Rows
def none {H : Type} : Left H := { results := [], args := [] }

/-- 'sorrellaw10.CodeTells': WHATEVER THE INPUT: true; the input reads as it did. -/
def codeTellsSpec : ChangeSpec := { name := "codeTells", fn := fun _ => fun
  | [d1, d2] => { results := [.lit (.bool true)], args := [d1, d2] }
  | _ => none }
def codeTellsRow : OpenClaim := { program := "ytdeaeiolehglaaa", sum := "4cc232711b32446ea7d8430838879cc9f290935408f18dd74934d4b7000aa2d5", func := "sorrel/sorrellaw10.CodeTells", spec := "codeTells", unfollowed := true, recurses := true, apart := false }
def CodeTellsSaid : Prop := codeTellsRow.holds Try.pinned (OpenSpec.ofChange codeTellsSpec)

/-- ITS FALSE NEIGHBOUR: 'it returns false'. Refute it at one input. -/
def codeTellsWrong : ChangeSpec := { name := "codeTells", fn := fun _ => fun
  | [d1, d2] => { results := [.lit (.bool false)], args := [d1, d2] }
  | _ => none }
def CodeTellsWrongFalsely : Prop := codeTellsRow.holds Try.pinned (OpenSpec.ofChange codeTellsWrong)

/-- 'sorrellaw10.CodeSource': WHATEVER THE INPUT: true; the input reads as it did. -/
def codeSourceSpec : ChangeSpec := { name := "codeSource", fn := fun _ => fun
  | [d] => { results := [.lit (.bool true)], args := [d] }
  | _ => none }
def codeSourceRow : OpenClaim := { program := "ytdeaeiolehglaaa", sum := "4cc232711b32446ea7d8430838879cc9f290935408f18dd74934d4b7000aa2d5", func := "sorrel/sorrellaw10.CodeSource", spec := "codeSource", unfollowed := true, recurses := true, apart := false }
def CodeSourceSaid : Prop := codeSourceRow.holds Try.pinned (OpenSpec.ofChange codeSourceSpec)

/-- ITS FALSE NEIGHBOUR: 'it returns false'. Refute it at one input. -/
def codeSourceWrong : ChangeSpec := { name := "codeSource", fn := fun _ => fun
  | [d] => { results := [.lit (.bool false)], args := [d] }
  | _ => none }
def CodeSourceWrongFalsely : Prop := codeSourceRow.holds Try.pinned (OpenSpec.ofChange codeSourceWrong)

/-- 'sorrellaw10.CodeBack': WHATEVER THE INPUT: true; the input reads as it did. -/
def codeBackSpec : ChangeSpec := { name := "codeBack", fn := fun _ => fun
  | [d] => { results := [.lit (.bool true)], args := [d] }
  | _ => none }
def codeBackRow : OpenClaim := { program := "ytdeaeiolehglaaa", sum := "4cc232711b32446ea7d8430838879cc9f290935408f18dd74934d4b7000aa2d5", func := "sorrel/sorrellaw10.CodeBack", spec := "codeBack", unfollowed := true, recurses := true, apart := false }
def CodeBackSaid : Prop := codeBackRow.holds Try.pinned (OpenSpec.ofChange codeBackSpec)

/-- ITS FALSE NEIGHBOUR: 'it returns false'. Refute it at one input. -/
def codeBackWrong : ChangeSpec := { name := "codeBack", fn := fun _ => fun
  | [d] => { results := [.lit (.bool false)], args := [d] }
  | _ => none }
def CodeBackWrongFalsely : Prop := codeBackRow.holds Try.pinned (OpenSpec.ofChange codeBackWrong)

/-- 'sorrellaw10.CodeAlike': WHATEVER THE INPUT: true; the input reads as it did. -/
def codeAlikeSpec : ChangeSpec := { name := "codeAlike", fn := fun _ => fun
  | [d1, d2] => { results := [.lit (.bool true)], args := [d1, d2] }
  | _ => none }
def codeAlikeRow : OpenClaim := { program := "ytdeaeiolehglaaa", sum := "4cc232711b32446ea7d8430838879cc9f290935408f18dd74934d4b7000aa2d5", func := "sorrel/sorrellaw10.CodeAlike", spec := "codeAlike", unfollowed := true, recurses := true, apart := false }
def CodeAlikeSaid : Prop := codeAlikeRow.holds Try.pinned (OpenSpec.ofChange codeAlikeSpec)

/-- ITS FALSE NEIGHBOUR: 'it returns false'. Refute it at one input. -/
def codeAlikeWrong : ChangeSpec := { name := "codeAlike", fn := fun _ => fun
  | [d1, d2] => { results := [.lit (.bool false)], args := [d1, d2] }
  | _ => none }
def CodeAlikeWrongFalsely : Prop := codeAlikeRow.holds Try.pinned (OpenSpec.ofChange codeAlikeWrong)

/-- 'sorrellaw10.CodeMakes': WHATEVER THE INPUT: true; the input reads as it did. -/
def codeMakesSpec : ChangeSpec := { name := "codeMakes", fn := fun _ => fun
  | [d1, d2] => { results := [.lit (.bool true)], args := [d1, d2] }
  | _ => none }
def codeMakesRow : OpenClaim := { program := "ytdeaeiolehglaaa", sum := "4cc232711b32446ea7d8430838879cc9f290935408f18dd74934d4b7000aa2d5", func := "sorrel/sorrellaw10.CodeMakes", spec := "codeMakes", unfollowed := true, recurses := true, apart := false }
def CodeMakesSaid : Prop := codeMakesRow.holds Try.pinned (OpenSpec.ofChange codeMakesSpec)

/-- ITS FALSE NEIGHBOUR: 'it returns false'. Refute it at one input. -/
def codeMakesWrong : ChangeSpec := { name := "codeMakes", fn := fun _ => fun
  | [d1, d2] => { results := [.lit (.bool false)], args := [d1, d2] }
  | _ => none }
def CodeMakesWrongFalsely : Prop := codeMakesRow.holds Try.pinned (OpenSpec.ofChange codeMakesWrong)

/-- 'sorrellaw10.CodeOnce': WHATEVER THE INPUT: true; the input reads as it did. -/
def codeOnceSpec : ChangeSpec := { name := "codeOnce", fn := fun _ => fun
  | [d] => { results := [.lit (.bool true)], args := [d] }
  | _ => none }
def codeOnceRow : OpenClaim := { program := "ytdeaeiolehglaaa", sum := "4cc232711b32446ea7d8430838879cc9f290935408f18dd74934d4b7000aa2d5", func := "sorrel/sorrellaw10.CodeOnce", spec := "codeOnce", unfollowed := true, recurses := true, apart := false }
def CodeOnceSaid : Prop := codeOnceRow.holds Try.pinned (OpenSpec.ofChange codeOnceSpec)

/-- ITS FALSE NEIGHBOUR: 'it returns false'. Refute it at one input. -/
def codeOnceWrong : ChangeSpec := { name := "codeOnce", fn := fun _ => fun
  | [d] => { results := [.lit (.bool false)], args := [d] }
  | _ => none }
def CodeOnceWrongFalsely : Prop := codeOnceRow.holds Try.pinned (OpenSpec.ofChange codeOnceWrong)

/-- 'sorrellaw10.CodeMany': WHATEVER THE INPUT: true; the input reads as it did. -/
def codeManySpec : ChangeSpec := { name := "codeMany", fn := fun _ => fun
  | [d] => { results := [.lit (.bool true)], args := [d] }
  | _ => none }
def codeManyRow : OpenClaim := { program := "ytdeaeiolehglaaa", sum := "4cc232711b32446ea7d8430838879cc9f290935408f18dd74934d4b7000aa2d5", func := "sorrel/sorrellaw10.CodeMany", spec := "codeMany", unfollowed := true, recurses := true, apart := false }
def CodeManySaid : Prop := codeManyRow.holds Try.pinned (OpenSpec.ofChange codeManySpec)

/-- ITS FALSE NEIGHBOUR: 'it returns false'. Refute it at one input. -/
def codeManyWrong : ChangeSpec := { name := "codeMany", fn := fun _ => fun
  | [d] => { results := [.lit (.bool false)], args := [d] }
  | _ => none }
def CodeManyWrongFalsely : Prop := codeManyRow.holds Try.pinned (OpenSpec.ofChange codeManyWrong)

/-- 'sorrellaw10.CodeRuns': WHATEVER THE INPUT: true; the input reads as it did. -/
def codeRunsSpec : ChangeSpec := { name := "codeRuns", fn := fun _ => fun
  | [d] => { results := [.lit (.bool true)], args := [d] }
  | _ => none }
def codeRunsRow : OpenClaim := { program := "ytdeaeiolehglaaa", sum := "4cc232711b32446ea7d8430838879cc9f290935408f18dd74934d4b7000aa2d5", func := "sorrel/sorrellaw10.CodeRuns", spec := "codeRuns", unfollowed := true, recurses := true, apart := false }
def CodeRunsSaid : Prop := codeRunsRow.holds Try.pinned (OpenSpec.ofChange codeRunsSpec)

/-- ITS FALSE NEIGHBOUR: 'it returns false'. Refute it at one input. -/
def codeRunsWrong : ChangeSpec := { name := "codeRuns", fn := fun _ => fun
  | [d] => { results := [.lit (.bool false)], args := [d] }
  | _ => none }
def CodeRunsWrongFalsely : Prop := codeRunsRow.holds Try.pinned (OpenSpec.ofChange codeRunsWrong)

/-- 'sorrellaw10.CodeParts': WHATEVER THE INPUT: true; the input reads as it did. -/
def codePartsSpec : ChangeSpec := { name := "codeParts", fn := fun _ => fun
  | [d1, d2] => { results := [.lit (.bool true)], args := [d1, d2] }
  | _ => none }
def codePartsRow : OpenClaim := { program := "ytdeaeiolehglaaa", sum := "4cc232711b32446ea7d8430838879cc9f290935408f18dd74934d4b7000aa2d5", func := "sorrel/sorrellaw10.CodeParts", spec := "codeParts", unfollowed := true, recurses := true, apart := false }
def CodePartsSaid : Prop := codePartsRow.holds Try.pinned (OpenSpec.ofChange codePartsSpec)

/-- ITS FALSE NEIGHBOUR: 'it returns false'. Refute it at one input. -/
def codePartsWrong : ChangeSpec := { name := "codeParts", fn := fun _ => fun
  | [d1, d2] => { results := [.lit (.bool false)], args := [d1, d2] }
  | _ => none }
def CodePartsWrongFalsely : Prop := codePartsRow.holds Try.pinned (OpenSpec.ofChange codePartsWrong)

/- THE SECOND FORM. 'bulk': how many values and letters a reading holds, each counted each time it is reached (what is shared counts as often as it is met; a slice's spare places count too). A statement '..UptoSaid' is the law's where the arguments, and the package variables that the reading takes, are together of bulk at most 1048576: NARROWER than '..Said'. Prove '..Said' where nothing that the law and all that it calls make is longer than what came in: it says more and counts as full. Else prove '..UptoSaid'. A law counts once. -/
mutual
def uptoBulk {H : Type} : DataW H → Nat
  | .lit (.string bytes) => bytes.length + 1
  | .lit _ => 1
  | .nil => 1
  | .ptr d => uptoBulk d + 1
  | .slice elems spare => uptoBulkAll elems + uptoBulkAll spare + 1
  | .agg parts => uptoBulkAll parts + 1
  | .iface _ d => uptoBulk d + 1
  | .map entries => uptoBulkEntries entries + 1
  | .held _ => 1
def uptoBulkAll {H : Type} : List (DataW H) → Nat
  | [] => 0
  | d :: r => uptoBulk d + uptoBulkAll r
def uptoBulkEntries {H : Type} : List (Lit × DataW H) → Nat
  | [] => 0
  | x :: r => uptoBulkEntry x + uptoBulkEntries r
def uptoBulkEntry {H : Type} : Lit × DataW H → Nat
  | (.string bytes, d) => bytes.length + uptoBulk d + 1
  | (_, d) => uptoBulk d + 1
 end
def uptoSmall : (H : Type) → List (DataW H) → Bool := fun _ ds => decide (uptoBulkAll ds ≤ 1048576)
def OpenSpec.upto (s : _root_.Go.ChangeSpec) : _root_.Go.OpenSpec := { _root_.Go.OpenSpec.ofChange s with cond := some uptoSmall }

/-- 'sorrellaw10.CodeTells', WHERE WHAT IT READS IS OF BULK AT MOST 1048576: true; the input reads as it did. -/
def codeTellsUptoRow : OpenClaim := { program := "ytdeaeiolehglaaa", sum := "4cc232711b32446ea7d8430838879cc9f290935408f18dd74934d4b7000aa2d5", func := "sorrel/sorrellaw10.CodeTells", spec := "codeTells", unfollowed := true, recurses := true, apart := false, narrowed := true }
def CodeTellsUptoSaid : Prop := codeTellsUptoRow.holds Try.pinned (OpenSpec.upto codeTellsSpec)

/-- 'sorrellaw10.CodeSource', WHERE WHAT IT READS IS OF BULK AT MOST 1048576: true; the input reads as it did. -/
def codeSourceUptoRow : OpenClaim := { program := "ytdeaeiolehglaaa", sum := "4cc232711b32446ea7d8430838879cc9f290935408f18dd74934d4b7000aa2d5", func := "sorrel/sorrellaw10.CodeSource", spec := "codeSource", unfollowed := true, recurses := true, apart := false, narrowed := true }
def CodeSourceUptoSaid : Prop := codeSourceUptoRow.holds Try.pinned (OpenSpec.upto codeSourceSpec)

/-- 'sorrellaw10.CodeBack', WHERE WHAT IT READS IS OF BULK AT MOST 1048576: true; the input reads as it did. -/
def codeBackUptoRow : OpenClaim := { program := "ytdeaeiolehglaaa", sum := "4cc232711b32446ea7d8430838879cc9f290935408f18dd74934d4b7000aa2d5", func := "sorrel/sorrellaw10.CodeBack", spec := "codeBack", unfollowed := true, recurses := true, apart := false, narrowed := true }
def CodeBackUptoSaid : Prop := codeBackUptoRow.holds Try.pinned (OpenSpec.upto codeBackSpec)

/-- 'sorrellaw10.CodeAlike', WHERE WHAT IT READS IS OF BULK AT MOST 1048576: true; the input reads as it did. -/
def codeAlikeUptoRow : OpenClaim := { program := "ytdeaeiolehglaaa", sum := "4cc232711b32446ea7d8430838879cc9f290935408f18dd74934d4b7000aa2d5", func := "sorrel/sorrellaw10.CodeAlike", spec := "codeAlike", unfollowed := true, recurses := true, apart := false, narrowed := true }
def CodeAlikeUptoSaid : Prop := codeAlikeUptoRow.holds Try.pinned (OpenSpec.upto codeAlikeSpec)

/-- 'sorrellaw10.CodeMakes', WHERE WHAT IT READS IS OF BULK AT MOST 1048576: true; the input reads as it did. -/
def codeMakesUptoRow : OpenClaim := { program := "ytdeaeiolehglaaa", sum := "4cc232711b32446ea7d8430838879cc9f290935408f18dd74934d4b7000aa2d5", func := "sorrel/sorrellaw10.CodeMakes", spec := "codeMakes", unfollowed := true, recurses := true, apart := false, narrowed := true }
def CodeMakesUptoSaid : Prop := codeMakesUptoRow.holds Try.pinned (OpenSpec.upto codeMakesSpec)

/-- 'sorrellaw10.CodeOnce', WHERE WHAT IT READS IS OF BULK AT MOST 1048576: true; the input reads as it did. -/
def codeOnceUptoRow : OpenClaim := { program := "ytdeaeiolehglaaa", sum := "4cc232711b32446ea7d8430838879cc9f290935408f18dd74934d4b7000aa2d5", func := "sorrel/sorrellaw10.CodeOnce", spec := "codeOnce", unfollowed := true, recurses := true, apart := false, narrowed := true }
def CodeOnceUptoSaid : Prop := codeOnceUptoRow.holds Try.pinned (OpenSpec.upto codeOnceSpec)

/-- 'sorrellaw10.CodeMany', WHERE WHAT IT READS IS OF BULK AT MOST 1048576: true; the input reads as it did. -/
def codeManyUptoRow : OpenClaim := { program := "ytdeaeiolehglaaa", sum := "4cc232711b32446ea7d8430838879cc9f290935408f18dd74934d4b7000aa2d5", func := "sorrel/sorrellaw10.CodeMany", spec := "codeMany", unfollowed := true, recurses := true, apart := false, narrowed := true }
def CodeManyUptoSaid : Prop := codeManyUptoRow.holds Try.pinned (OpenSpec.upto codeManySpec)

/-- 'sorrellaw10.CodeRuns', WHERE WHAT IT READS IS OF BULK AT MOST 1048576: true; the input reads as it did. -/
def codeRunsUptoRow : OpenClaim := { program := "ytdeaeiolehglaaa", sum := "4cc232711b32446ea7d8430838879cc9f290935408f18dd74934d4b7000aa2d5", func := "sorrel/sorrellaw10.CodeRuns", spec := "codeRuns", unfollowed := true, recurses := true, apart := false, narrowed := true }
def CodeRunsUptoSaid : Prop := codeRunsUptoRow.holds Try.pinned (OpenSpec.upto codeRunsSpec)

/-- 'sorrellaw10.CodeParts', WHERE WHAT IT READS IS OF BULK AT MOST 1048576: true; the input reads as it did. -/
def codePartsUptoRow : OpenClaim := { program := "ytdeaeiolehglaaa", sum := "4cc232711b32446ea7d8430838879cc9f290935408f18dd74934d4b7000aa2d5", func := "sorrel/sorrellaw10.CodeParts", spec := "codeParts", unfollowed := true, recurses := true, apart := false, narrowed := true }
def CodePartsUptoSaid : Prop := codePartsUptoRow.holds Try.pinned (OpenSpec.upto codePartsSpec)

end Rows
end Go.Proofs.Ytdeaeiolehglaaa
