/-
  NARROWER THAN 'FOR EVERY INPUT', by the rows' own cells (each row's printed sentence says how): PrintTells: laid · PrintBack: laid · PrintProgram: laid · PrintUnlike: laid · PrintQuote: laid · PrintSigns: laid · PrintParts: laid · PrintLists: laid.
  DERIVED. THE GIVEN ROWS OF THIS SEAT. 8 by the template 'for every input the law returns true; each argument reads behind the call as it read before'; 0 by the template 'total and deterministic' (their statements: YtekdcmplcjgonaaDoorTotals.lean).
  GIVEN WITH THE SEED: the statements are not yours to turn. If you find one false, say at which input.
  Laid BY PROGRAM, IN A SANDBOX (cutbox-rows.mjs): the forced cells as the released guide's own fill.sh prints them over the translation 7f45e0bfcae0585c… (all of the seat's roots in one cut). By AI agents, Wed Nov 11 2026. No macro, syntax, notation, axiom, sorry.
-/
import Derived.Test.YtekdcmplcjgonaaDoorChecked
import GoSem.Claim
import GoSem.ClaimJoined
import GoSem.ClaimMapViews
import Derived.JoinedTies
import Derived.KernelRfl
namespace Go.Proofs.YtekdcmplcjgonaaDoor
/- THE CELL 'sum', in the pinned program and in every row, IS THE sha256 OF THE DUMP (.gsa) THAT YtekdcmplcjgonaaDoorProg.lean LOADS. Nothing in Lean hashes anything: it is a label: what it is worth is what the hold of that sum in a sandbox is worth. -/
noncomputable def Tryd.pinned : Pinned := { name := "ytekdcmplcjgonaadoor", sum := "7f45e0bfcae0585c90faa8b2e1d7b0823c2c45c30f02116d00588134da26cfea", checked := Tryd.checked }
namespace Rows
def none {H : Type} : Left H := { results := [], args := [] }

/- WHAT THE LISTED PACKAGE-LEVEL VARIABLES READ AS WHEN THE CALL BEGINS. Each datum BY PROGRAM (the guide's laid-datum.mjs) off the statement by which the dump's own 'gosem.cut.vars' lays the variable. In a bare row this is a premise. The card (YtekdcmplcjgonaaDoorCards.lean) ties it to the program's text. -/
def laid_math_bits_deBruijn32tab {H : Type} : DataW H := .agg [.lit (.int .u8 0), .lit (.int .u8 1), .lit (.int .u8 28), .lit (.int .u8 2), .lit (.int .u8 29), .lit (.int .u8 14), .lit (.int .u8 24), .lit (.int .u8 3), .lit (.int .u8 30), .lit (.int .u8 22), .lit (.int .u8 20), .lit (.int .u8 15), .lit (.int .u8 25), .lit (.int .u8 17), .lit (.int .u8 4), .lit (.int .u8 8), .lit (.int .u8 31), .lit (.int .u8 27), .lit (.int .u8 13), .lit (.int .u8 23), .lit (.int .u8 21), .lit (.int .u8 19), .lit (.int .u8 16), .lit (.int .u8 7), .lit (.int .u8 26), .lit (.int .u8 12), .lit (.int .u8 18), .lit (.int .u8 6), .lit (.int .u8 11), .lit (.int .u8 5), .lit (.int .u8 10), .lit (.int .u8 9)]
def laid_math_bits_deBruijn64tab {H : Type} : DataW H := .agg [.lit (.int .u8 0), .lit (.int .u8 1), .lit (.int .u8 56), .lit (.int .u8 2), .lit (.int .u8 57), .lit (.int .u8 49), .lit (.int .u8 28), .lit (.int .u8 3), .lit (.int .u8 61), .lit (.int .u8 58), .lit (.int .u8 42), .lit (.int .u8 50), .lit (.int .u8 38), .lit (.int .u8 29), .lit (.int .u8 17), .lit (.int .u8 4), .lit (.int .u8 62), .lit (.int .u8 47), .lit (.int .u8 59), .lit (.int .u8 36), .lit (.int .u8 45), .lit (.int .u8 43), .lit (.int .u8 51), .lit (.int .u8 22), .lit (.int .u8 53), .lit (.int .u8 39), .lit (.int .u8 33), .lit (.int .u8 30), .lit (.int .u8 24), .lit (.int .u8 18), .lit (.int .u8 12), .lit (.int .u8 5), .lit (.int .u8 63), .lit (.int .u8 55), .lit (.int .u8 48), .lit (.int .u8 27), .lit (.int .u8 60), .lit (.int .u8 41), .lit (.int .u8 37), .lit (.int .u8 16), .lit (.int .u8 46), .lit (.int .u8 35), .lit (.int .u8 44), .lit (.int .u8 21), .lit (.int .u8 52), .lit (.int .u8 32), .lit (.int .u8 23), .lit (.int .u8 11), .lit (.int .u8 54), .lit (.int .u8 26), .lit (.int .u8 40), .lit (.int .u8 15), .lit (.int .u8 34), .lit (.int .u8 20), .lit (.int .u8 31), .lit (.int .u8 10), .lit (.int .u8 25), .lit (.int .u8 14), .lit (.int .u8 19), .lit (.int .u8 9), .lit (.int .u8 13), .lit (.int .u8 8), .lit (.int .u8 7), .lit (.int .u8 6)]
def laid_internal_strconv_uint64pow10 {H : Type} : DataW H := .agg [.lit (.int .u64 1), .lit (.int .u64 10), .lit (.int .u64 100), .lit (.int .u64 1000), .lit (.int .u64 10000), .lit (.int .u64 100000), .lit (.int .u64 1000000), .lit (.int .u64 10000000), .lit (.int .u64 100000000), .lit (.int .u64 1000000000), .lit (.int .u64 10000000000), .lit (.int .u64 100000000000), .lit (.int .u64 1000000000000), .lit (.int .u64 10000000000000), .lit (.int .u64 100000000000000), .lit (.int .u64 1000000000000000), .lit (.int .u64 10000000000000000), .lit (.int .u64 100000000000000000), .lit (.int .u64 1000000000000000000), .lit (.int .u64 10000000000000000000)]

/-- 'sorrellaw06.PrintTells': WHATEVER THE INPUT: true; the input reads as it did. -/
def printTellsSpec : ChangeSpec := { name := "printTells", fn := fun _ => fun
  | [d1, d2, d3] => { results := [.lit (.bool true)], args := [d1, d2, d3] }
  | _ => none }
def printTellsRow : OpenClaim := { program := "ytekdcmplcjgonaadoor", sum := "7f45e0bfcae0585c90faa8b2e1d7b0823c2c45c30f02116d00588134da26cfea", func := "sorrel/sorrellaw06.PrintTells", spec := "printTells", inPlace := ["internal/abi.NoEscape", "internal/bytealg.IndexByteString", "internal/bytealg.IndexString"], unfollowed := true, recurses := true, named := ["internal/strconv.uint64pow10", "math/bits.deBruijn32tab", "math/bits.deBruijn64tab", "internal/bytealg.MaxLen"], apart := false, laid := [("math/bits.deBruijn32tab", laid_math_bits_deBruijn32tab), ("math/bits.deBruijn64tab", laid_math_bits_deBruijn64tab), ("internal/strconv.uint64pow10", laid_internal_strconv_uint64pow10)] }
def PrintTellsSaid : Prop := printTellsRow.holds Tryd.pinned (OpenSpec.ofChange printTellsSpec)

/-- ITS FALSE NEIGHBOUR: 'it returns false'. Refute it at one input. -/
def printTellsWrong : ChangeSpec := { name := "printTells", fn := fun _ => fun
  | [d1, d2, d3] => { results := [.lit (.bool false)], args := [d1, d2, d3] }
  | _ => none }
def PrintTellsWrongFalsely : Prop := printTellsRow.holds Tryd.pinned (OpenSpec.ofChange printTellsWrong)

/-- 'sorrellaw06.PrintBack': WHATEVER THE INPUT: true; the input reads as it did. -/
def printBackSpec : ChangeSpec := { name := "printBack", fn := fun _ => fun
  | [d] => { results := [.lit (.bool true)], args := [d] }
  | _ => none }
def printBackRow : OpenClaim := { program := "ytekdcmplcjgonaadoor", sum := "7f45e0bfcae0585c90faa8b2e1d7b0823c2c45c30f02116d00588134da26cfea", func := "sorrel/sorrellaw06.PrintBack", spec := "printBack", inPlace := ["internal/abi.NoEscape", "internal/bytealg.IndexByteString", "internal/bytealg.IndexString"], unfollowed := true, recurses := true, named := ["internal/strconv.uint64pow10", "math/bits.deBruijn32tab", "math/bits.deBruijn64tab", "internal/bytealg.MaxLen"], apart := false, laid := [("math/bits.deBruijn32tab", laid_math_bits_deBruijn32tab), ("math/bits.deBruijn64tab", laid_math_bits_deBruijn64tab), ("internal/strconv.uint64pow10", laid_internal_strconv_uint64pow10)] }
def PrintBackSaid : Prop := printBackRow.holds Tryd.pinned (OpenSpec.ofChange printBackSpec)

/-- ITS FALSE NEIGHBOUR: 'it returns false'. Refute it at one input. -/
def printBackWrong : ChangeSpec := { name := "printBack", fn := fun _ => fun
  | [d] => { results := [.lit (.bool false)], args := [d] }
  | _ => none }
def PrintBackWrongFalsely : Prop := printBackRow.holds Tryd.pinned (OpenSpec.ofChange printBackWrong)

/-- 'sorrellaw06.PrintProgram': WHATEVER THE INPUT: true; the input reads as it did. -/
def printProgramSpec : ChangeSpec := { name := "printProgram", fn := fun _ => fun
  | [d] => { results := [.lit (.bool true)], args := [d] }
  | _ => none }
def printProgramRow : OpenClaim := { program := "ytekdcmplcjgonaadoor", sum := "7f45e0bfcae0585c90faa8b2e1d7b0823c2c45c30f02116d00588134da26cfea", func := "sorrel/sorrellaw06.PrintProgram", spec := "printProgram", inPlace := ["internal/abi.NoEscape", "internal/bytealg.IndexByteString", "internal/bytealg.IndexString"], unfollowed := true, recurses := true, named := ["internal/strconv.uint64pow10", "math/bits.deBruijn32tab", "math/bits.deBruijn64tab", "internal/bytealg.MaxLen"], apart := false, laid := [("math/bits.deBruijn32tab", laid_math_bits_deBruijn32tab), ("math/bits.deBruijn64tab", laid_math_bits_deBruijn64tab), ("internal/strconv.uint64pow10", laid_internal_strconv_uint64pow10)] }
def PrintProgramSaid : Prop := printProgramRow.holds Tryd.pinned (OpenSpec.ofChange printProgramSpec)

/-- ITS FALSE NEIGHBOUR: 'it returns false'. Refute it at one input. -/
def printProgramWrong : ChangeSpec := { name := "printProgram", fn := fun _ => fun
  | [d] => { results := [.lit (.bool false)], args := [d] }
  | _ => none }
def PrintProgramWrongFalsely : Prop := printProgramRow.holds Tryd.pinned (OpenSpec.ofChange printProgramWrong)

/-- 'sorrellaw06.PrintUnlike': WHATEVER THE INPUT: true; the input reads as it did. -/
def printUnlikeSpec : ChangeSpec := { name := "printUnlike", fn := fun _ => fun
  | [d1, d2, d3] => { results := [.lit (.bool true)], args := [d1, d2, d3] }
  | _ => none }
def printUnlikeRow : OpenClaim := { program := "ytekdcmplcjgonaadoor", sum := "7f45e0bfcae0585c90faa8b2e1d7b0823c2c45c30f02116d00588134da26cfea", func := "sorrel/sorrellaw06.PrintUnlike", spec := "printUnlike", inPlace := ["internal/abi.NoEscape", "internal/bytealg.IndexByteString", "internal/bytealg.IndexString"], unfollowed := true, recurses := true, named := ["internal/strconv.uint64pow10", "math/bits.deBruijn32tab", "math/bits.deBruijn64tab", "internal/bytealg.MaxLen"], apart := false, laid := [("math/bits.deBruijn32tab", laid_math_bits_deBruijn32tab), ("math/bits.deBruijn64tab", laid_math_bits_deBruijn64tab), ("internal/strconv.uint64pow10", laid_internal_strconv_uint64pow10)] }
def PrintUnlikeSaid : Prop := printUnlikeRow.holds Tryd.pinned (OpenSpec.ofChange printUnlikeSpec)

/-- ITS FALSE NEIGHBOUR: 'it returns false'. Refute it at one input. -/
def printUnlikeWrong : ChangeSpec := { name := "printUnlike", fn := fun _ => fun
  | [d1, d2, d3] => { results := [.lit (.bool false)], args := [d1, d2, d3] }
  | _ => none }
def PrintUnlikeWrongFalsely : Prop := printUnlikeRow.holds Tryd.pinned (OpenSpec.ofChange printUnlikeWrong)

/-- 'sorrellaw06.PrintQuote': WHATEVER THE INPUT: true; the input reads as it did. -/
def printQuoteSpec : ChangeSpec := { name := "printQuote", fn := fun _ => fun
  | [d1, d2] => { results := [.lit (.bool true)], args := [d1, d2] }
  | _ => none }
def printQuoteRow : OpenClaim := { program := "ytekdcmplcjgonaadoor", sum := "7f45e0bfcae0585c90faa8b2e1d7b0823c2c45c30f02116d00588134da26cfea", func := "sorrel/sorrellaw06.PrintQuote", spec := "printQuote", inPlace := ["internal/abi.NoEscape", "internal/bytealg.IndexByteString", "internal/bytealg.IndexString"], unfollowed := true, recurses := true, named := ["internal/strconv.uint64pow10", "math/bits.deBruijn32tab", "math/bits.deBruijn64tab", "internal/bytealg.MaxLen"], apart := false, laid := [("math/bits.deBruijn32tab", laid_math_bits_deBruijn32tab), ("math/bits.deBruijn64tab", laid_math_bits_deBruijn64tab), ("internal/strconv.uint64pow10", laid_internal_strconv_uint64pow10)] }
def PrintQuoteSaid : Prop := printQuoteRow.holds Tryd.pinned (OpenSpec.ofChange printQuoteSpec)

/-- ITS FALSE NEIGHBOUR: 'it returns false'. Refute it at one input. -/
def printQuoteWrong : ChangeSpec := { name := "printQuote", fn := fun _ => fun
  | [d1, d2] => { results := [.lit (.bool false)], args := [d1, d2] }
  | _ => none }
def PrintQuoteWrongFalsely : Prop := printQuoteRow.holds Tryd.pinned (OpenSpec.ofChange printQuoteWrong)

/-- 'sorrellaw06.PrintSigns': WHATEVER THE INPUT: true; the input reads as it did. -/
def printSignsSpec : ChangeSpec := { name := "printSigns", fn := fun _ => fun
  | [d] => { results := [.lit (.bool true)], args := [d] }
  | _ => none }
def printSignsRow : OpenClaim := { program := "ytekdcmplcjgonaadoor", sum := "7f45e0bfcae0585c90faa8b2e1d7b0823c2c45c30f02116d00588134da26cfea", func := "sorrel/sorrellaw06.PrintSigns", spec := "printSigns", inPlace := ["internal/abi.NoEscape", "internal/bytealg.IndexByteString", "internal/bytealg.IndexString"], unfollowed := true, recurses := true, named := ["internal/strconv.uint64pow10", "math/bits.deBruijn32tab", "math/bits.deBruijn64tab", "internal/bytealg.MaxLen"], apart := false, laid := [("math/bits.deBruijn32tab", laid_math_bits_deBruijn32tab), ("math/bits.deBruijn64tab", laid_math_bits_deBruijn64tab), ("internal/strconv.uint64pow10", laid_internal_strconv_uint64pow10)] }
def PrintSignsSaid : Prop := printSignsRow.holds Tryd.pinned (OpenSpec.ofChange printSignsSpec)

/-- ITS FALSE NEIGHBOUR: 'it returns false'. Refute it at one input. -/
def printSignsWrong : ChangeSpec := { name := "printSigns", fn := fun _ => fun
  | [d] => { results := [.lit (.bool false)], args := [d] }
  | _ => none }
def PrintSignsWrongFalsely : Prop := printSignsRow.holds Tryd.pinned (OpenSpec.ofChange printSignsWrong)

/-- 'sorrellaw06.PrintParts': WHATEVER THE INPUT: true; the input reads as it did. -/
def printPartsSpec : ChangeSpec := { name := "printParts", fn := fun _ => fun
  | [d1, d2] => { results := [.lit (.bool true)], args := [d1, d2] }
  | _ => none }
def printPartsRow : OpenClaim := { program := "ytekdcmplcjgonaadoor", sum := "7f45e0bfcae0585c90faa8b2e1d7b0823c2c45c30f02116d00588134da26cfea", func := "sorrel/sorrellaw06.PrintParts", spec := "printParts", inPlace := ["internal/abi.NoEscape", "internal/bytealg.IndexByteString", "internal/bytealg.IndexString"], unfollowed := true, recurses := true, named := ["internal/strconv.uint64pow10", "math/bits.deBruijn32tab", "math/bits.deBruijn64tab", "internal/bytealg.MaxLen"], apart := false, laid := [("math/bits.deBruijn32tab", laid_math_bits_deBruijn32tab), ("math/bits.deBruijn64tab", laid_math_bits_deBruijn64tab), ("internal/strconv.uint64pow10", laid_internal_strconv_uint64pow10)] }
def PrintPartsSaid : Prop := printPartsRow.holds Tryd.pinned (OpenSpec.ofChange printPartsSpec)

/-- ITS FALSE NEIGHBOUR: 'it returns false'. Refute it at one input. -/
def printPartsWrong : ChangeSpec := { name := "printParts", fn := fun _ => fun
  | [d1, d2] => { results := [.lit (.bool false)], args := [d1, d2] }
  | _ => none }
def PrintPartsWrongFalsely : Prop := printPartsRow.holds Tryd.pinned (OpenSpec.ofChange printPartsWrong)

/-- 'sorrellaw06.PrintLists': WHATEVER THE INPUT: true; the input reads as it did. -/
def printListsSpec : ChangeSpec := { name := "printLists", fn := fun _ => fun
  | [d1, d2] => { results := [.lit (.bool true)], args := [d1, d2] }
  | _ => none }
def printListsRow : OpenClaim := { program := "ytekdcmplcjgonaadoor", sum := "7f45e0bfcae0585c90faa8b2e1d7b0823c2c45c30f02116d00588134da26cfea", func := "sorrel/sorrellaw06.PrintLists", spec := "printLists", inPlace := ["internal/abi.NoEscape", "internal/bytealg.IndexByteString", "internal/bytealg.IndexString"], unfollowed := true, recurses := true, named := ["internal/strconv.uint64pow10", "math/bits.deBruijn32tab", "math/bits.deBruijn64tab", "internal/bytealg.MaxLen"], apart := false, laid := [("math/bits.deBruijn32tab", laid_math_bits_deBruijn32tab), ("math/bits.deBruijn64tab", laid_math_bits_deBruijn64tab), ("internal/strconv.uint64pow10", laid_internal_strconv_uint64pow10)] }
def PrintListsSaid : Prop := printListsRow.holds Tryd.pinned (OpenSpec.ofChange printListsSpec)

/-- ITS FALSE NEIGHBOUR: 'it returns false'. Refute it at one input. -/
def printListsWrong : ChangeSpec := { name := "printLists", fn := fun _ => fun
  | [d1, d2] => { results := [.lit (.bool false)], args := [d1, d2] }
  | _ => none }
def PrintListsWrongFalsely : Prop := printListsRow.holds Tryd.pinned (OpenSpec.ofChange printListsWrong)

/- THE SECOND FORM. 'bulk': how many values and letters a reading holds, each counted each time it is reached (what is shared counts as often as it is met; a slice's spare places count too). A statement '..UptoSaid' is the law's where the arguments, and the package variables that the reading takes, are together of bulk at most 1048576: NARROWER than '..Said'. Prove '..Said' where nothing that the law and all that it calls make is longer than what came in: it says more and counts as full. Else prove '..UptoSaid'. A law counts once. -/
mutual
def uptoBulk {H : Type} : DataW H → Nat
  | .lit (.string bytes) => bytes.length + 1
  | .lit _ => 1
  | .nil => 1
  | .ptr d => uptoBulk d + 1
  | .slice elems spare => uptoBulkAll elems + uptoBulkAll spare + 1
  | .agg parts => uptoBulkAll parts + 1
  | .iface _ d => uptoBulk d + 1
  | .map entries => uptoBulkEntries entries + 1
  | .held _ => 1
def uptoBulkAll {H : Type} : List (DataW H) → Nat
  | [] => 0
  | d :: r => uptoBulk d + uptoBulkAll r
def uptoBulkEntries {H : Type} : List (Lit × DataW H) → Nat
  | [] => 0
  | x :: r => uptoBulkEntry x + uptoBulkEntries r
def uptoBulkEntry {H : Type} : Lit × DataW H → Nat
  | (.string bytes, d) => bytes.length + uptoBulk d + 1
  | (_, d) => uptoBulk d + 1
 end
def uptoSmall : (H : Type) → List (DataW H) → Bool := fun _ ds => decide (uptoBulkAll ds ≤ 1048576)
def OpenSpec.upto (s : _root_.Go.ChangeSpec) : _root_.Go.OpenSpec := { _root_.Go.OpenSpec.ofChange s with cond := some uptoSmall }

/-- 'sorrellaw06.PrintTells', WHERE WHAT IT READS IS OF BULK AT MOST 1048576: true; the input reads as it did. -/
def printTellsUptoRow : OpenClaim := { program := "ytekdcmplcjgonaadoor", sum := "7f45e0bfcae0585c90faa8b2e1d7b0823c2c45c30f02116d00588134da26cfea", func := "sorrel/sorrellaw06.PrintTells", spec := "printTells", inPlace := ["internal/abi.NoEscape", "internal/bytealg.IndexByteString", "internal/bytealg.IndexString"], unfollowed := true, recurses := true, named := ["internal/strconv.uint64pow10", "math/bits.deBruijn32tab", "math/bits.deBruijn64tab", "internal/bytealg.MaxLen"], apart := false, laid := [("math/bits.deBruijn32tab", laid_math_bits_deBruijn32tab), ("math/bits.deBruijn64tab", laid_math_bits_deBruijn64tab), ("internal/strconv.uint64pow10", laid_internal_strconv_uint64pow10)], narrowed := true }
def PrintTellsUptoSaid : Prop := printTellsUptoRow.holds Tryd.pinned (OpenSpec.upto printTellsSpec)

/-- 'sorrellaw06.PrintBack', WHERE WHAT IT READS IS OF BULK AT MOST 1048576: true; the input reads as it did. -/
def printBackUptoRow : OpenClaim := { program := "ytekdcmplcjgonaadoor", sum := "7f45e0bfcae0585c90faa8b2e1d7b0823c2c45c30f02116d00588134da26cfea", func := "sorrel/sorrellaw06.PrintBack", spec := "printBack", inPlace := ["internal/abi.NoEscape", "internal/bytealg.IndexByteString", "internal/bytealg.IndexString"], unfollowed := true, recurses := true, named := ["internal/strconv.uint64pow10", "math/bits.deBruijn32tab", "math/bits.deBruijn64tab", "internal/bytealg.MaxLen"], apart := false, laid := [("math/bits.deBruijn32tab", laid_math_bits_deBruijn32tab), ("math/bits.deBruijn64tab", laid_math_bits_deBruijn64tab), ("internal/strconv.uint64pow10", laid_internal_strconv_uint64pow10)], narrowed := true }
def PrintBackUptoSaid : Prop := printBackUptoRow.holds Tryd.pinned (OpenSpec.upto printBackSpec)

/-- 'sorrellaw06.PrintProgram', WHERE WHAT IT READS IS OF BULK AT MOST 1048576: true; the input reads as it did. -/
def printProgramUptoRow : OpenClaim := { program := "ytekdcmplcjgonaadoor", sum := "7f45e0bfcae0585c90faa8b2e1d7b0823c2c45c30f02116d00588134da26cfea", func := "sorrel/sorrellaw06.PrintProgram", spec := "printProgram", inPlace := ["internal/abi.NoEscape", "internal/bytealg.IndexByteString", "internal/bytealg.IndexString"], unfollowed := true, recurses := true, named := ["internal/strconv.uint64pow10", "math/bits.deBruijn32tab", "math/bits.deBruijn64tab", "internal/bytealg.MaxLen"], apart := false, laid := [("math/bits.deBruijn32tab", laid_math_bits_deBruijn32tab), ("math/bits.deBruijn64tab", laid_math_bits_deBruijn64tab), ("internal/strconv.uint64pow10", laid_internal_strconv_uint64pow10)], narrowed := true }
def PrintProgramUptoSaid : Prop := printProgramUptoRow.holds Tryd.pinned (OpenSpec.upto printProgramSpec)

/-- 'sorrellaw06.PrintUnlike', WHERE WHAT IT READS IS OF BULK AT MOST 1048576: true; the input reads as it did. -/
def printUnlikeUptoRow : OpenClaim := { program := "ytekdcmplcjgonaadoor", sum := "7f45e0bfcae0585c90faa8b2e1d7b0823c2c45c30f02116d00588134da26cfea", func := "sorrel/sorrellaw06.PrintUnlike", spec := "printUnlike", inPlace := ["internal/abi.NoEscape", "internal/bytealg.IndexByteString", "internal/bytealg.IndexString"], unfollowed := true, recurses := true, named := ["internal/strconv.uint64pow10", "math/bits.deBruijn32tab", "math/bits.deBruijn64tab", "internal/bytealg.MaxLen"], apart := false, laid := [("math/bits.deBruijn32tab", laid_math_bits_deBruijn32tab), ("math/bits.deBruijn64tab", laid_math_bits_deBruijn64tab), ("internal/strconv.uint64pow10", laid_internal_strconv_uint64pow10)], narrowed := true }
def PrintUnlikeUptoSaid : Prop := printUnlikeUptoRow.holds Tryd.pinned (OpenSpec.upto printUnlikeSpec)

/-- 'sorrellaw06.PrintQuote', WHERE WHAT IT READS IS OF BULK AT MOST 1048576: true; the input reads as it did. -/
def printQuoteUptoRow : OpenClaim := { program := "ytekdcmplcjgonaadoor", sum := "7f45e0bfcae0585c90faa8b2e1d7b0823c2c45c30f02116d00588134da26cfea", func := "sorrel/sorrellaw06.PrintQuote", spec := "printQuote", inPlace := ["internal/abi.NoEscape", "internal/bytealg.IndexByteString", "internal/bytealg.IndexString"], unfollowed := true, recurses := true, named := ["internal/strconv.uint64pow10", "math/bits.deBruijn32tab", "math/bits.deBruijn64tab", "internal/bytealg.MaxLen"], apart := false, laid := [("math/bits.deBruijn32tab", laid_math_bits_deBruijn32tab), ("math/bits.deBruijn64tab", laid_math_bits_deBruijn64tab), ("internal/strconv.uint64pow10", laid_internal_strconv_uint64pow10)], narrowed := true }
def PrintQuoteUptoSaid : Prop := printQuoteUptoRow.holds Tryd.pinned (OpenSpec.upto printQuoteSpec)

/-- 'sorrellaw06.PrintSigns', WHERE WHAT IT READS IS OF BULK AT MOST 1048576: true; the input reads as it did. -/
def printSignsUptoRow : OpenClaim := { program := "ytekdcmplcjgonaadoor", sum := "7f45e0bfcae0585c90faa8b2e1d7b0823c2c45c30f02116d00588134da26cfea", func := "sorrel/sorrellaw06.PrintSigns", spec := "printSigns", inPlace := ["internal/abi.NoEscape", "internal/bytealg.IndexByteString", "internal/bytealg.IndexString"], unfollowed := true, recurses := true, named := ["internal/strconv.uint64pow10", "math/bits.deBruijn32tab", "math/bits.deBruijn64tab", "internal/bytealg.MaxLen"], apart := false, laid := [("math/bits.deBruijn32tab", laid_math_bits_deBruijn32tab), ("math/bits.deBruijn64tab", laid_math_bits_deBruijn64tab), ("internal/strconv.uint64pow10", laid_internal_strconv_uint64pow10)], narrowed := true }
def PrintSignsUptoSaid : Prop := printSignsUptoRow.holds Tryd.pinned (OpenSpec.upto printSignsSpec)

/-- 'sorrellaw06.PrintParts', WHERE WHAT IT READS IS OF BULK AT MOST 1048576: true; the input reads as it did. -/
def printPartsUptoRow : OpenClaim := { program := "ytekdcmplcjgonaadoor", sum := "7f45e0bfcae0585c90faa8b2e1d7b0823c2c45c30f02116d00588134da26cfea", func := "sorrel/sorrellaw06.PrintParts", spec := "printParts", inPlace := ["internal/abi.NoEscape", "internal/bytealg.IndexByteString", "internal/bytealg.IndexString"], unfollowed := true, recurses := true, named := ["internal/strconv.uint64pow10", "math/bits.deBruijn32tab", "math/bits.deBruijn64tab", "internal/bytealg.MaxLen"], apart := false, laid := [("math/bits.deBruijn32tab", laid_math_bits_deBruijn32tab), ("math/bits.deBruijn64tab", laid_math_bits_deBruijn64tab), ("internal/strconv.uint64pow10", laid_internal_strconv_uint64pow10)], narrowed := true }
def PrintPartsUptoSaid : Prop := printPartsUptoRow.holds Tryd.pinned (OpenSpec.upto printPartsSpec)

/-- 'sorrellaw06.PrintLists', WHERE WHAT IT READS IS OF BULK AT MOST 1048576: true; the input reads as it did. -/
def printListsUptoRow : OpenClaim := { program := "ytekdcmplcjgonaadoor", sum := "7f45e0bfcae0585c90faa8b2e1d7b0823c2c45c30f02116d00588134da26cfea", func := "sorrel/sorrellaw06.PrintLists", spec := "printLists", inPlace := ["internal/abi.NoEscape", "internal/bytealg.IndexByteString", "internal/bytealg.IndexString"], unfollowed := true, recurses := true, named := ["internal/strconv.uint64pow10", "math/bits.deBruijn32tab", "math/bits.deBruijn64tab", "internal/bytealg.MaxLen"], apart := false, laid := [("math/bits.deBruijn32tab", laid_math_bits_deBruijn32tab), ("math/bits.deBruijn64tab", laid_math_bits_deBruijn64tab), ("internal/strconv.uint64pow10", laid_internal_strconv_uint64pow10)], narrowed := true }
def PrintListsUptoSaid : Prop := printListsUptoRow.holds Tryd.pinned (OpenSpec.upto printListsSpec)

end Rows
end Go.Proofs.YtekdcmplcjgonaaDoor
