/-
  No cell of these rows narrows 'for every input' (looked for: loops, veiled, ifaces, maps, wideKeys, modest, calm, conditions, laid).
  DERIVED. THE GIVEN ROWS OF THIS SEAT. 8 by the template 'for every input the law returns true; each argument reads behind the call as it read before'; 0 by the template 'total and deterministic' (their statements: YtlndjooddkjnoaaTotals.lean).
  GIVEN WITH THE SEED: the statements are not yours to turn. If you find one false, say at which input.
  Laid BY PROGRAM, IN A SANDBOX (cutbox-rows.mjs): the forced cells as the released guide's own fill.sh prints them over the translation 6dc3aa024d3461d2… (all of the seat's roots in one cut). By AI agents, Wed Nov 11 2026. No macro, syntax, notation, axiom, sorry.
-/
import Derived.Test.YtlndjooddkjnoaaChecked
import GoSem.Claim
import GoSem.ClaimJoined
import GoSem.ClaimMapViews
import Derived.JoinedTies
import Derived.KernelRfl
namespace Go.Proofs.Ytlndjooddkjnoaa
/- THE CELL 'sum', in the pinned program and in every row, IS THE sha256 OF THE DUMP (.gsa) THAT YtlndjooddkjnoaaProg.lean LOADS. Nothing in Lean hashes anything: it is a label: what it is worth is what the hold of that sum in a sandbox is worth. -/
noncomputable def Try.pinned : Pinned := { name := "ytlndjooddkjnoaa", sum := "6dc3aa024d3461d262592f7031a4812a8e3443657406ee60f26ce41932ada393", checked := Try.checked }
namespace Rows
def none {H : Type} : Left H := { results := [], args := [] }

/-- 'sorrellaw08.HeapTells': WHATEVER THE INPUT: true; the input reads as it did. -/
def heapTellsSpec : ChangeSpec := { name := "heapTells", fn := fun _ => fun
  | [d1, d2, d3] => { results := [.lit (.bool true)], args := [d1, d2, d3] }
  | _ => none }
def heapTellsRow : OpenClaim := { program := "ytlndjooddkjnoaa", sum := "6dc3aa024d3461d262592f7031a4812a8e3443657406ee60f26ce41932ada393", func := "sorrel/sorrellaw08.HeapTells", spec := "heapTells", unfollowed := true, recurses := true, plainKeys := false, apart := false }
def HeapTellsSaid : Prop := heapTellsRow.holds Try.pinned (OpenSpec.ofChange heapTellsSpec)

/-- ITS FALSE NEIGHBOUR: 'it returns false'. Refute it at one input. -/
def heapTellsWrong : ChangeSpec := { name := "heapTells", fn := fun _ => fun
  | [d1, d2, d3] => { results := [.lit (.bool false)], args := [d1, d2, d3] }
  | _ => none }
def HeapTellsWrongFalsely : Prop := heapTellsRow.holds Try.pinned (OpenSpec.ofChange heapTellsWrong)

/-- 'sorrellaw08.HeapBack': WHATEVER THE INPUT: true; the input reads as it did. -/
def heapBackSpec : ChangeSpec := { name := "heapBack", fn := fun _ => fun
  | [d1, d2, d3] => { results := [.lit (.bool true)], args := [d1, d2, d3] }
  | _ => none }
def heapBackRow : OpenClaim := { program := "ytlndjooddkjnoaa", sum := "6dc3aa024d3461d262592f7031a4812a8e3443657406ee60f26ce41932ada393", func := "sorrel/sorrellaw08.HeapBack", spec := "heapBack", unfollowed := true, recurses := true, plainKeys := false, apart := false }
def HeapBackSaid : Prop := heapBackRow.holds Try.pinned (OpenSpec.ofChange heapBackSpec)

/-- ITS FALSE NEIGHBOUR: 'it returns false'. Refute it at one input. -/
def heapBackWrong : ChangeSpec := { name := "heapBack", fn := fun _ => fun
  | [d1, d2, d3] => { results := [.lit (.bool false)], args := [d1, d2, d3] }
  | _ => none }
def HeapBackWrongFalsely : Prop := heapBackRow.holds Try.pinned (OpenSpec.ofChange heapBackWrong)

/-- 'sorrellaw08.HeapRoom': WHATEVER THE INPUT: true; the input reads as it did. -/
def heapRoomSpec : ChangeSpec := { name := "heapRoom", fn := fun _ => fun
  | [d1, d2, d3] => { results := [.lit (.bool true)], args := [d1, d2, d3] }
  | _ => none }
def heapRoomRow : OpenClaim := { program := "ytlndjooddkjnoaa", sum := "6dc3aa024d3461d262592f7031a4812a8e3443657406ee60f26ce41932ada393", func := "sorrel/sorrellaw08.HeapRoom", spec := "heapRoom", unfollowed := true, recurses := true, plainKeys := false, apart := false }
def HeapRoomSaid : Prop := heapRoomRow.holds Try.pinned (OpenSpec.ofChange heapRoomSpec)

/-- ITS FALSE NEIGHBOUR: 'it returns false'. Refute it at one input. -/
def heapRoomWrong : ChangeSpec := { name := "heapRoom", fn := fun _ => fun
  | [d1, d2, d3] => { results := [.lit (.bool false)], args := [d1, d2, d3] }
  | _ => none }
def HeapRoomWrongFalsely : Prop := heapRoomRow.holds Try.pinned (OpenSpec.ofChange heapRoomWrong)

/-- 'sorrellaw08.HeapAlike': WHATEVER THE INPUT: true; the input reads as it did. -/
def heapAlikeSpec : ChangeSpec := { name := "heapAlike", fn := fun _ => fun
  | [d1, d2] => { results := [.lit (.bool true)], args := [d1, d2] }
  | _ => none }
def heapAlikeRow : OpenClaim := { program := "ytlndjooddkjnoaa", sum := "6dc3aa024d3461d262592f7031a4812a8e3443657406ee60f26ce41932ada393", func := "sorrel/sorrellaw08.HeapAlike", spec := "heapAlike", unfollowed := true, recurses := true, plainKeys := false, apart := false }
def HeapAlikeSaid : Prop := heapAlikeRow.holds Try.pinned (OpenSpec.ofChange heapAlikeSpec)

/-- ITS FALSE NEIGHBOUR: 'it returns false'. Refute it at one input. -/
def heapAlikeWrong : ChangeSpec := { name := "heapAlike", fn := fun _ => fun
  | [d1, d2] => { results := [.lit (.bool false)], args := [d1, d2] }
  | _ => none }
def HeapAlikeWrongFalsely : Prop := heapAlikeRow.holds Try.pinned (OpenSpec.ofChange heapAlikeWrong)

/-- 'sorrellaw08.HeapOrder': WHATEVER THE INPUT: true; the input reads as it did. -/
def heapOrderSpec : ChangeSpec := { name := "heapOrder", fn := fun _ => fun
  | [d1, d2] => { results := [.lit (.bool true)], args := [d1, d2] }
  | _ => none }
def heapOrderRow : OpenClaim := { program := "ytlndjooddkjnoaa", sum := "6dc3aa024d3461d262592f7031a4812a8e3443657406ee60f26ce41932ada393", func := "sorrel/sorrellaw08.HeapOrder", spec := "heapOrder", unfollowed := true, recurses := true, plainKeys := false, apart := false }
def HeapOrderSaid : Prop := heapOrderRow.holds Try.pinned (OpenSpec.ofChange heapOrderSpec)

/-- ITS FALSE NEIGHBOUR: 'it returns false'. Refute it at one input. -/
def heapOrderWrong : ChangeSpec := { name := "heapOrder", fn := fun _ => fun
  | [d1, d2] => { results := [.lit (.bool false)], args := [d1, d2] }
  | _ => none }
def HeapOrderWrongFalsely : Prop := heapOrderRow.holds Try.pinned (OpenSpec.ofChange heapOrderWrong)

/-- 'sorrellaw08.HeapUndone': WHATEVER THE INPUT: true; the input reads as it did. -/
def heapUndoneSpec : ChangeSpec := { name := "heapUndone", fn := fun _ => fun
  | [d1, d2] => { results := [.lit (.bool true)], args := [d1, d2] }
  | _ => none }
def heapUndoneRow : OpenClaim := { program := "ytlndjooddkjnoaa", sum := "6dc3aa024d3461d262592f7031a4812a8e3443657406ee60f26ce41932ada393", func := "sorrel/sorrellaw08.HeapUndone", spec := "heapUndone", unfollowed := true, recurses := true, plainKeys := false, apart := false }
def HeapUndoneSaid : Prop := heapUndoneRow.holds Try.pinned (OpenSpec.ofChange heapUndoneSpec)

/-- ITS FALSE NEIGHBOUR: 'it returns false'. Refute it at one input. -/
def heapUndoneWrong : ChangeSpec := { name := "heapUndone", fn := fun _ => fun
  | [d1, d2] => { results := [.lit (.bool false)], args := [d1, d2] }
  | _ => none }
def HeapUndoneWrongFalsely : Prop := heapUndoneRow.holds Try.pinned (OpenSpec.ofChange heapUndoneWrong)

/-- 'sorrellaw08.HeapRight': WHATEVER THE INPUT: true; the input reads as it did. -/
def heapRightSpec : ChangeSpec := { name := "heapRight", fn := fun _ => fun
  | [d1, d2] => { results := [.lit (.bool true)], args := [d1, d2] }
  | _ => none }
def heapRightRow : OpenClaim := { program := "ytlndjooddkjnoaa", sum := "6dc3aa024d3461d262592f7031a4812a8e3443657406ee60f26ce41932ada393", func := "sorrel/sorrellaw08.HeapRight", spec := "heapRight", unfollowed := true, recurses := true, plainKeys := false, apart := false }
def HeapRightSaid : Prop := heapRightRow.holds Try.pinned (OpenSpec.ofChange heapRightSpec)

/-- ITS FALSE NEIGHBOUR: 'it returns false'. Refute it at one input. -/
def heapRightWrong : ChangeSpec := { name := "heapRight", fn := fun _ => fun
  | [d1, d2] => { results := [.lit (.bool false)], args := [d1, d2] }
  | _ => none }
def HeapRightWrongFalsely : Prop := heapRightRow.holds Try.pinned (OpenSpec.ofChange heapRightWrong)

/-- 'sorrellaw08.HeapMarks': WHATEVER THE INPUT: true; the input reads as it did. -/
def heapMarksSpec : ChangeSpec := { name := "heapMarks", fn := fun _ => fun
  | [d1, d2, d3] => { results := [.lit (.bool true)], args := [d1, d2, d3] }
  | _ => none }
def heapMarksRow : OpenClaim := { program := "ytlndjooddkjnoaa", sum := "6dc3aa024d3461d262592f7031a4812a8e3443657406ee60f26ce41932ada393", func := "sorrel/sorrellaw08.HeapMarks", spec := "heapMarks", unfollowed := true, recurses := true, plainKeys := false, apart := false }
def HeapMarksSaid : Prop := heapMarksRow.holds Try.pinned (OpenSpec.ofChange heapMarksSpec)

/-- ITS FALSE NEIGHBOUR: 'it returns false'. Refute it at one input. -/
def heapMarksWrong : ChangeSpec := { name := "heapMarks", fn := fun _ => fun
  | [d1, d2, d3] => { results := [.lit (.bool false)], args := [d1, d2, d3] }
  | _ => none }
def HeapMarksWrongFalsely : Prop := heapMarksRow.holds Try.pinned (OpenSpec.ofChange heapMarksWrong)

/- THE SECOND FORM. 'bulk': how many values and letters a reading holds, each counted each time it is reached (what is shared counts as often as it is met; a slice's spare places count too). A statement '..UptoSaid' is the law's where the arguments, and the package variables that the reading takes, are together of bulk at most 1048576: NARROWER than '..Said'. Prove '..Said' where nothing that the law and all that it calls make is longer than what came in: it says more and counts as full. Else prove '..UptoSaid'. A law counts once. -/
mutual
def uptoBulk {H : Type} : DataW H → Nat
  | .lit (.string bytes) => bytes.length + 1
  | .lit _ => 1
  | .nil => 1
  | .ptr d => uptoBulk d + 1
  | .slice elems spare => uptoBulkAll elems + uptoBulkAll spare + 1
  | .agg parts => uptoBulkAll parts + 1
  | .iface _ d => uptoBulk d + 1
  | .map entries => uptoBulkEntries entries + 1
  | .held _ => 1
def uptoBulkAll {H : Type} : List (DataW H) → Nat
  | [] => 0
  | d :: r => uptoBulk d + uptoBulkAll r
def uptoBulkEntries {H : Type} : List (Lit × DataW H) → Nat
  | [] => 0
  | x :: r => uptoBulkEntry x + uptoBulkEntries r
def uptoBulkEntry {H : Type} : Lit × DataW H → Nat
  | (.string bytes, d) => bytes.length + uptoBulk d + 1
  | (_, d) => uptoBulk d + 1
 end
def uptoSmall : (H : Type) → List (DataW H) → Bool := fun _ ds => decide (uptoBulkAll ds ≤ 1048576)
def OpenSpec.upto (s : _root_.Go.ChangeSpec) : _root_.Go.OpenSpec := { _root_.Go.OpenSpec.ofChange s with cond := some uptoSmall }

/-- 'sorrellaw08.HeapTells', WHERE WHAT IT READS IS OF BULK AT MOST 1048576: true; the input reads as it did. -/
def heapTellsUptoRow : OpenClaim := { program := "ytlndjooddkjnoaa", sum := "6dc3aa024d3461d262592f7031a4812a8e3443657406ee60f26ce41932ada393", func := "sorrel/sorrellaw08.HeapTells", spec := "heapTells", unfollowed := true, recurses := true, plainKeys := false, apart := false, narrowed := true }
def HeapTellsUptoSaid : Prop := heapTellsUptoRow.holds Try.pinned (OpenSpec.upto heapTellsSpec)

/-- 'sorrellaw08.HeapBack', WHERE WHAT IT READS IS OF BULK AT MOST 1048576: true; the input reads as it did. -/
def heapBackUptoRow : OpenClaim := { program := "ytlndjooddkjnoaa", sum := "6dc3aa024d3461d262592f7031a4812a8e3443657406ee60f26ce41932ada393", func := "sorrel/sorrellaw08.HeapBack", spec := "heapBack", unfollowed := true, recurses := true, plainKeys := false, apart := false, narrowed := true }
def HeapBackUptoSaid : Prop := heapBackUptoRow.holds Try.pinned (OpenSpec.upto heapBackSpec)

/-- 'sorrellaw08.HeapRoom', WHERE WHAT IT READS IS OF BULK AT MOST 1048576: true; the input reads as it did. -/
def heapRoomUptoRow : OpenClaim := { program := "ytlndjooddkjnoaa", sum := "6dc3aa024d3461d262592f7031a4812a8e3443657406ee60f26ce41932ada393", func := "sorrel/sorrellaw08.HeapRoom", spec := "heapRoom", unfollowed := true, recurses := true, plainKeys := false, apart := false, narrowed := true }
def HeapRoomUptoSaid : Prop := heapRoomUptoRow.holds Try.pinned (OpenSpec.upto heapRoomSpec)

/-- 'sorrellaw08.HeapAlike', WHERE WHAT IT READS IS OF BULK AT MOST 1048576: true; the input reads as it did. -/
def heapAlikeUptoRow : OpenClaim := { program := "ytlndjooddkjnoaa", sum := "6dc3aa024d3461d262592f7031a4812a8e3443657406ee60f26ce41932ada393", func := "sorrel/sorrellaw08.HeapAlike", spec := "heapAlike", unfollowed := true, recurses := true, plainKeys := false, apart := false, narrowed := true }
def HeapAlikeUptoSaid : Prop := heapAlikeUptoRow.holds Try.pinned (OpenSpec.upto heapAlikeSpec)

/-- 'sorrellaw08.HeapOrder', WHERE WHAT IT READS IS OF BULK AT MOST 1048576: true; the input reads as it did. -/
def heapOrderUptoRow : OpenClaim := { program := "ytlndjooddkjnoaa", sum := "6dc3aa024d3461d262592f7031a4812a8e3443657406ee60f26ce41932ada393", func := "sorrel/sorrellaw08.HeapOrder", spec := "heapOrder", unfollowed := true, recurses := true, plainKeys := false, apart := false, narrowed := true }
def HeapOrderUptoSaid : Prop := heapOrderUptoRow.holds Try.pinned (OpenSpec.upto heapOrderSpec)

/-- 'sorrellaw08.HeapUndone', WHERE WHAT IT READS IS OF BULK AT MOST 1048576: true; the input reads as it did. -/
def heapUndoneUptoRow : OpenClaim := { program := "ytlndjooddkjnoaa", sum := "6dc3aa024d3461d262592f7031a4812a8e3443657406ee60f26ce41932ada393", func := "sorrel/sorrellaw08.HeapUndone", spec := "heapUndone", unfollowed := true, recurses := true, plainKeys := false, apart := false, narrowed := true }
def HeapUndoneUptoSaid : Prop := heapUndoneUptoRow.holds Try.pinned (OpenSpec.upto heapUndoneSpec)

/-- 'sorrellaw08.HeapRight', WHERE WHAT IT READS IS OF BULK AT MOST 1048576: true; the input reads as it did. -/
def heapRightUptoRow : OpenClaim := { program := "ytlndjooddkjnoaa", sum := "6dc3aa024d3461d262592f7031a4812a8e3443657406ee60f26ce41932ada393", func := "sorrel/sorrellaw08.HeapRight", spec := "heapRight", unfollowed := true, recurses := true, plainKeys := false, apart := false, narrowed := true }
def HeapRightUptoSaid : Prop := heapRightUptoRow.holds Try.pinned (OpenSpec.upto heapRightSpec)

/-- 'sorrellaw08.HeapMarks', WHERE WHAT IT READS IS OF BULK AT MOST 1048576: true; the input reads as it did. -/
def heapMarksUptoRow : OpenClaim := { program := "ytlndjooddkjnoaa", sum := "6dc3aa024d3461d262592f7031a4812a8e3443657406ee60f26ce41932ada393", func := "sorrel/sorrellaw08.HeapMarks", spec := "heapMarks", unfollowed := true, recurses := true, plainKeys := false, apart := false, narrowed := true }
def HeapMarksUptoSaid : Prop := heapMarksUptoRow.holds Try.pinned (OpenSpec.upto heapMarksSpec)

end Rows
end Go.Proofs.Ytlndjooddkjnoaa
