/-
  No cell of these rows narrows 'for every input' (looked for: loops, veiled, ifaces, maps, wideKeys, modest, calm, conditions, laid).
  DERIVED. THE GIVEN ROWS OF THIS SEAT. 9 by the template 'for every input the law returns true; each argument reads behind the call as it read before'; 0 by the template 'total and deterministic' (their statements: YtnhfnpjfahmmpaaTotals.lean).
  GIVEN WITH THE SEED: the statements are not yours to turn. If you find one false, say at which input.
  Laid BY PROGRAM, IN A SANDBOX (cutbox-rows.mjs): the forced cells as the released guide's own fill.sh prints them over the translation 42c688a3b1ba5d89… (all of the seat's roots in one cut). By AI agents, Wed Nov 11 2026. No macro, syntax, notation, axiom, sorry.
-/
import Derived.Test.YtnhfnpjfahmmpaaChecked
import GoSem.Claim
import GoSem.ClaimJoined
import GoSem.ClaimMapViews
import Derived.JoinedTies
import Derived.KernelRfl
namespace Go.Proofs.Ytnhfnpjfahmmpaa
/- THE CELL 'sum', in the pinned program and in every row, IS THE sha256 OF THE DUMP (.gsa) THAT YtnhfnpjfahmmpaaProg.lean LOADS. Nothing in Lean hashes anything: it is a label: what it is worth is what the hold of that sum in a sandbox is worth. -/
noncomputable def Try.pinned : Pinned := { name := "ytnhfnpjfahmmpaa", sum := "42c688a3b1ba5d89d4739c3bd91b9c211a8b58f0d00a666076673e9c30670df2", checked := Try.checked }
namespace Rows
def none {H : Type} : Left H := { results := [], args := [] }

/-- 'sorrellaw01.TermTells': WHATEVER THE INPUT: true; the input reads as it did. -/
def termTellsSpec : ChangeSpec := { name := "termTells", fn := fun _ => fun
  | [d1, d2, d3] => { results := [.lit (.bool true)], args := [d1, d2, d3] }
  | _ => none }
def termTellsRow : OpenClaim := { program := "ytnhfnpjfahmmpaa", sum := "42c688a3b1ba5d89d4739c3bd91b9c211a8b58f0d00a666076673e9c30670df2", func := "sorrel/sorrellaw01.TermTells", spec := "termTells", unfollowed := true, recurses := true, apart := false }
def TermTellsSaid : Prop := termTellsRow.holds Try.pinned (OpenSpec.ofChange termTellsSpec)

/-- ITS FALSE NEIGHBOUR: 'it returns false'. Refute it at one input. -/
def termTellsWrong : ChangeSpec := { name := "termTells", fn := fun _ => fun
  | [d1, d2, d3] => { results := [.lit (.bool false)], args := [d1, d2, d3] }
  | _ => none }
def TermTellsWrongFalsely : Prop := termTellsRow.holds Try.pinned (OpenSpec.ofChange termTellsWrong)

/-- 'sorrellaw01.TermMakes': WHATEVER THE INPUT: true; the input reads as it did. -/
def termMakesSpec : ChangeSpec := { name := "termMakes", fn := fun _ => fun
  | [d1, d2] => { results := [.lit (.bool true)], args := [d1, d2] }
  | _ => none }
def termMakesRow : OpenClaim := { program := "ytnhfnpjfahmmpaa", sum := "42c688a3b1ba5d89d4739c3bd91b9c211a8b58f0d00a666076673e9c30670df2", func := "sorrel/sorrellaw01.TermMakes", spec := "termMakes", unfollowed := true, recurses := true, apart := false }
def TermMakesSaid : Prop := termMakesRow.holds Try.pinned (OpenSpec.ofChange termMakesSpec)

/-- ITS FALSE NEIGHBOUR: 'it returns false'. Refute it at one input. -/
def termMakesWrong : ChangeSpec := { name := "termMakes", fn := fun _ => fun
  | [d1, d2] => { results := [.lit (.bool false)], args := [d1, d2] }
  | _ => none }
def TermMakesWrongFalsely : Prop := termMakesRow.holds Try.pinned (OpenSpec.ofChange termMakesWrong)

/-- 'sorrellaw01.TermParts': WHATEVER THE INPUT: true; the input reads as it did. -/
def termPartsSpec : ChangeSpec := { name := "termParts", fn := fun _ => fun
  | [d] => { results := [.lit (.bool true)], args := [d] }
  | _ => none }
def termPartsRow : OpenClaim := { program := "ytnhfnpjfahmmpaa", sum := "42c688a3b1ba5d89d4739c3bd91b9c211a8b58f0d00a666076673e9c30670df2", func := "sorrel/sorrellaw01.TermParts", spec := "termParts", unfollowed := true, recurses := true, apart := false }
def TermPartsSaid : Prop := termPartsRow.holds Try.pinned (OpenSpec.ofChange termPartsSpec)

/-- ITS FALSE NEIGHBOUR: 'it returns false'. Refute it at one input. -/
def termPartsWrong : ChangeSpec := { name := "termParts", fn := fun _ => fun
  | [d] => { results := [.lit (.bool false)], args := [d] }
  | _ => none }
def TermPartsWrongFalsely : Prop := termPartsRow.holds Try.pinned (OpenSpec.ofChange termPartsWrong)

/-- 'sorrellaw01.TermEnds': WHATEVER THE INPUT: true; the input reads as it did. -/
def termEndsSpec : ChangeSpec := { name := "termEnds", fn := fun _ => fun
  | [d1, d2, d3] => { results := [.lit (.bool true)], args := [d1, d2, d3] }
  | _ => none }
def termEndsRow : OpenClaim := { program := "ytnhfnpjfahmmpaa", sum := "42c688a3b1ba5d89d4739c3bd91b9c211a8b58f0d00a666076673e9c30670df2", func := "sorrel/sorrellaw01.TermEnds", spec := "termEnds", unfollowed := true, recurses := true, apart := false }
def TermEndsSaid : Prop := termEndsRow.holds Try.pinned (OpenSpec.ofChange termEndsSpec)

/-- ITS FALSE NEIGHBOUR: 'it returns false'. Refute it at one input. -/
def termEndsWrong : ChangeSpec := { name := "termEnds", fn := fun _ => fun
  | [d1, d2, d3] => { results := [.lit (.bool false)], args := [d1, d2, d3] }
  | _ => none }
def TermEndsWrongFalsely : Prop := termEndsRow.holds Try.pinned (OpenSpec.ofChange termEndsWrong)

/-- 'sorrellaw01.TermDepth': WHATEVER THE INPUT: true; the input reads as it did. -/
def termDepthSpec : ChangeSpec := { name := "termDepth", fn := fun _ => fun
  | [d] => { results := [.lit (.bool true)], args := [d] }
  | _ => none }
def termDepthRow : OpenClaim := { program := "ytnhfnpjfahmmpaa", sum := "42c688a3b1ba5d89d4739c3bd91b9c211a8b58f0d00a666076673e9c30670df2", func := "sorrel/sorrellaw01.TermDepth", spec := "termDepth", unfollowed := true, recurses := true, apart := false }
def TermDepthSaid : Prop := termDepthRow.holds Try.pinned (OpenSpec.ofChange termDepthSpec)

/-- ITS FALSE NEIGHBOUR: 'it returns false'. Refute it at one input. -/
def termDepthWrong : ChangeSpec := { name := "termDepth", fn := fun _ => fun
  | [d] => { results := [.lit (.bool false)], args := [d] }
  | _ => none }
def TermDepthWrongFalsely : Prop := termDepthRow.holds Try.pinned (OpenSpec.ofChange termDepthWrong)

/-- 'sorrellaw01.TermVars': WHATEVER THE INPUT: true; the input reads as it did. -/
def termVarsSpec : ChangeSpec := { name := "termVars", fn := fun _ => fun
  | [d] => { results := [.lit (.bool true)], args := [d] }
  | _ => none }
def termVarsRow : OpenClaim := { program := "ytnhfnpjfahmmpaa", sum := "42c688a3b1ba5d89d4739c3bd91b9c211a8b58f0d00a666076673e9c30670df2", func := "sorrel/sorrellaw01.TermVars", spec := "termVars", unfollowed := true, recurses := true, apart := false }
def TermVarsSaid : Prop := termVarsRow.holds Try.pinned (OpenSpec.ofChange termVarsSpec)

/-- ITS FALSE NEIGHBOUR: 'it returns false'. Refute it at one input. -/
def termVarsWrong : ChangeSpec := { name := "termVars", fn := fun _ => fun
  | [d] => { results := [.lit (.bool false)], args := [d] }
  | _ => none }
def TermVarsWrongFalsely : Prop := termVarsRow.holds Try.pinned (OpenSpec.ofChange termVarsWrong)

/-- 'sorrellaw01.TermShift': WHATEVER THE INPUT: true; the input reads as it did. -/
def termShiftSpec : ChangeSpec := { name := "termShift", fn := fun _ => fun
  | [d1, d2] => { results := [.lit (.bool true)], args := [d1, d2] }
  | _ => none }
def termShiftRow : OpenClaim := { program := "ytnhfnpjfahmmpaa", sum := "42c688a3b1ba5d89d4739c3bd91b9c211a8b58f0d00a666076673e9c30670df2", func := "sorrel/sorrellaw01.TermShift", spec := "termShift", unfollowed := true, recurses := true, apart := false }
def TermShiftSaid : Prop := termShiftRow.holds Try.pinned (OpenSpec.ofChange termShiftSpec)

/-- ITS FALSE NEIGHBOUR: 'it returns false'. Refute it at one input. -/
def termShiftWrong : ChangeSpec := { name := "termShift", fn := fun _ => fun
  | [d1, d2] => { results := [.lit (.bool false)], args := [d1, d2] }
  | _ => none }
def TermShiftWrongFalsely : Prop := termShiftRow.holds Try.pinned (OpenSpec.ofChange termShiftWrong)

/-- 'sorrellaw01.TermNumber': WHATEVER THE INPUT: true; the input reads as it did. -/
def termNumberSpec : ChangeSpec := { name := "termNumber", fn := fun _ => fun
  | [d1, d2] => { results := [.lit (.bool true)], args := [d1, d2] }
  | _ => none }
def termNumberRow : OpenClaim := { program := "ytnhfnpjfahmmpaa", sum := "42c688a3b1ba5d89d4739c3bd91b9c211a8b58f0d00a666076673e9c30670df2", func := "sorrel/sorrellaw01.TermNumber", spec := "termNumber", unfollowed := true, recurses := true, apart := false }
def TermNumberSaid : Prop := termNumberRow.holds Try.pinned (OpenSpec.ofChange termNumberSpec)

/-- ITS FALSE NEIGHBOUR: 'it returns false'. Refute it at one input. -/
def termNumberWrong : ChangeSpec := { name := "termNumber", fn := fun _ => fun
  | [d1, d2] => { results := [.lit (.bool false)], args := [d1, d2] }
  | _ => none }
def TermNumberWrongFalsely : Prop := termNumberRow.holds Try.pinned (OpenSpec.ofChange termNumberWrong)

/-- 'sorrellaw01.TermOrder': WHATEVER THE INPUT: true; the input reads as it did. -/
def termOrderSpec : ChangeSpec := { name := "termOrder", fn := fun _ => fun
  | [d1, d2, d3] => { results := [.lit (.bool true)], args := [d1, d2, d3] }
  | _ => none }
def termOrderRow : OpenClaim := { program := "ytnhfnpjfahmmpaa", sum := "42c688a3b1ba5d89d4739c3bd91b9c211a8b58f0d00a666076673e9c30670df2", func := "sorrel/sorrellaw01.TermOrder", spec := "termOrder", unfollowed := true, recurses := true, apart := false }
def TermOrderSaid : Prop := termOrderRow.holds Try.pinned (OpenSpec.ofChange termOrderSpec)

/-- ITS FALSE NEIGHBOUR: 'it returns false'. Refute it at one input. -/
def termOrderWrong : ChangeSpec := { name := "termOrder", fn := fun _ => fun
  | [d1, d2, d3] => { results := [.lit (.bool false)], args := [d1, d2, d3] }
  | _ => none }
def TermOrderWrongFalsely : Prop := termOrderRow.holds Try.pinned (OpenSpec.ofChange termOrderWrong)

/- THE SECOND FORM. 'bulk': how many values and letters a reading holds, each counted each time it is reached (what is shared counts as often as it is met; a slice's spare places count too). A statement '..UptoSaid' is the law's where the arguments, and the package variables that the reading takes, are together of bulk at most 1048576: NARROWER than '..Said'. Prove '..Said' where nothing that the law and all that it calls make is longer than what came in: it says more and counts as full. Else prove '..UptoSaid'. A law counts once. -/
mutual
def uptoBulk {H : Type} : DataW H → Nat
  | .lit (.string bytes) => bytes.length + 1
  | .lit _ => 1
  | .nil => 1
  | .ptr d => uptoBulk d + 1
  | .slice elems spare => uptoBulkAll elems + uptoBulkAll spare + 1
  | .agg parts => uptoBulkAll parts + 1
  | .iface _ d => uptoBulk d + 1
  | .map entries => uptoBulkEntries entries + 1
  | .held _ => 1
def uptoBulkAll {H : Type} : List (DataW H) → Nat
  | [] => 0
  | d :: r => uptoBulk d + uptoBulkAll r
def uptoBulkEntries {H : Type} : List (Lit × DataW H) → Nat
  | [] => 0
  | x :: r => uptoBulkEntry x + uptoBulkEntries r
def uptoBulkEntry {H : Type} : Lit × DataW H → Nat
  | (.string bytes, d) => bytes.length + uptoBulk d + 1
  | (_, d) => uptoBulk d + 1
 end
def uptoSmall : (H : Type) → List (DataW H) → Bool := fun _ ds => decide (uptoBulkAll ds ≤ 1048576)
def OpenSpec.upto (s : _root_.Go.ChangeSpec) : _root_.Go.OpenSpec := { _root_.Go.OpenSpec.ofChange s with cond := some uptoSmall }

/-- 'sorrellaw01.TermTells', WHERE WHAT IT READS IS OF BULK AT MOST 1048576: true; the input reads as it did. -/
def termTellsUptoRow : OpenClaim := { program := "ytnhfnpjfahmmpaa", sum := "42c688a3b1ba5d89d4739c3bd91b9c211a8b58f0d00a666076673e9c30670df2", func := "sorrel/sorrellaw01.TermTells", spec := "termTells", unfollowed := true, recurses := true, apart := false, narrowed := true }
def TermTellsUptoSaid : Prop := termTellsUptoRow.holds Try.pinned (OpenSpec.upto termTellsSpec)

/-- 'sorrellaw01.TermMakes', WHERE WHAT IT READS IS OF BULK AT MOST 1048576: true; the input reads as it did. -/
def termMakesUptoRow : OpenClaim := { program := "ytnhfnpjfahmmpaa", sum := "42c688a3b1ba5d89d4739c3bd91b9c211a8b58f0d00a666076673e9c30670df2", func := "sorrel/sorrellaw01.TermMakes", spec := "termMakes", unfollowed := true, recurses := true, apart := false, narrowed := true }
def TermMakesUptoSaid : Prop := termMakesUptoRow.holds Try.pinned (OpenSpec.upto termMakesSpec)

/-- 'sorrellaw01.TermParts', WHERE WHAT IT READS IS OF BULK AT MOST 1048576: true; the input reads as it did. -/
def termPartsUptoRow : OpenClaim := { program := "ytnhfnpjfahmmpaa", sum := "42c688a3b1ba5d89d4739c3bd91b9c211a8b58f0d00a666076673e9c30670df2", func := "sorrel/sorrellaw01.TermParts", spec := "termParts", unfollowed := true, recurses := true, apart := false, narrowed := true }
def TermPartsUptoSaid : Prop := termPartsUptoRow.holds Try.pinned (OpenSpec.upto termPartsSpec)

/-- 'sorrellaw01.TermEnds', WHERE WHAT IT READS IS OF BULK AT MOST 1048576: true; the input reads as it did. -/
def termEndsUptoRow : OpenClaim := { program := "ytnhfnpjfahmmpaa", sum := "42c688a3b1ba5d89d4739c3bd91b9c211a8b58f0d00a666076673e9c30670df2", func := "sorrel/sorrellaw01.TermEnds", spec := "termEnds", unfollowed := true, recurses := true, apart := false, narrowed := true }
def TermEndsUptoSaid : Prop := termEndsUptoRow.holds Try.pinned (OpenSpec.upto termEndsSpec)

/-- 'sorrellaw01.TermDepth', WHERE WHAT IT READS IS OF BULK AT MOST 1048576: true; the input reads as it did. -/
def termDepthUptoRow : OpenClaim := { program := "ytnhfnpjfahmmpaa", sum := "42c688a3b1ba5d89d4739c3bd91b9c211a8b58f0d00a666076673e9c30670df2", func := "sorrel/sorrellaw01.TermDepth", spec := "termDepth", unfollowed := true, recurses := true, apart := false, narrowed := true }
def TermDepthUptoSaid : Prop := termDepthUptoRow.holds Try.pinned (OpenSpec.upto termDepthSpec)

/-- 'sorrellaw01.TermVars', WHERE WHAT IT READS IS OF BULK AT MOST 1048576: true; the input reads as it did. -/
def termVarsUptoRow : OpenClaim := { program := "ytnhfnpjfahmmpaa", sum := "42c688a3b1ba5d89d4739c3bd91b9c211a8b58f0d00a666076673e9c30670df2", func := "sorrel/sorrellaw01.TermVars", spec := "termVars", unfollowed := true, recurses := true, apart := false, narrowed := true }
def TermVarsUptoSaid : Prop := termVarsUptoRow.holds Try.pinned (OpenSpec.upto termVarsSpec)

/-- 'sorrellaw01.TermShift', WHERE WHAT IT READS IS OF BULK AT MOST 1048576: true; the input reads as it did. -/
def termShiftUptoRow : OpenClaim := { program := "ytnhfnpjfahmmpaa", sum := "42c688a3b1ba5d89d4739c3bd91b9c211a8b58f0d00a666076673e9c30670df2", func := "sorrel/sorrellaw01.TermShift", spec := "termShift", unfollowed := true, recurses := true, apart := false, narrowed := true }
def TermShiftUptoSaid : Prop := termShiftUptoRow.holds Try.pinned (OpenSpec.upto termShiftSpec)

/-- 'sorrellaw01.TermNumber', WHERE WHAT IT READS IS OF BULK AT MOST 1048576: true; the input reads as it did. -/
def termNumberUptoRow : OpenClaim := { program := "ytnhfnpjfahmmpaa", sum := "42c688a3b1ba5d89d4739c3bd91b9c211a8b58f0d00a666076673e9c30670df2", func := "sorrel/sorrellaw01.TermNumber", spec := "termNumber", unfollowed := true, recurses := true, apart := false, narrowed := true }
def TermNumberUptoSaid : Prop := termNumberUptoRow.holds Try.pinned (OpenSpec.upto termNumberSpec)

/-- 'sorrellaw01.TermOrder', WHERE WHAT IT READS IS OF BULK AT MOST 1048576: true; the input reads as it did. -/
def termOrderUptoRow : OpenClaim := { program := "ytnhfnpjfahmmpaa", sum := "42c688a3b1ba5d89d4739c3bd91b9c211a8b58f0d00a666076673e9c30670df2", func := "sorrel/sorrellaw01.TermOrder", spec := "termOrder", unfollowed := true, recurses := true, apart := false, narrowed := true }
def TermOrderUptoSaid : Prop := termOrderUptoRow.holds Try.pinned (OpenSpec.upto termOrderSpec)

end Rows
end Go.Proofs.Ytnhfnpjfahmmpaa
