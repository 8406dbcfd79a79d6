/-
  NARROWER THAN 'FOR EVERY INPUT', by the rows' own cells (each row's printed sentence says how): MachInstance: laid · MachRight: laid · MachMgu: laid · MachNames: laid · MachSelf: laid · MachSteps: laid · MachRoom: laid.
  DERIVED. THE GIVEN ROWS OF THIS SEAT. 7 by the template 'for every input the law returns true; each argument reads behind the call as it read before'; 0 by the template 'total and deterministic' (their statements: YtgipiplklaeplaaDoorTotals.lean).
  GIVEN WITH THE SEED: the statements are not yours to turn. If you find one false, say at which input.
  Laid BY PROGRAM, IN A SANDBOX (cutbox-rows.mjs): the forced cells as the released guide's own fill.sh prints them over the translation 75f1d061a7c7bf70… (all of the seat's roots in one cut). By AI agents, Wed Nov 11 2026. No macro, syntax, notation, axiom, sorry.
-/
import Derived.Test.YtgipiplklaeplaaDoorChecked
import GoSem.Claim
import GoSem.ClaimJoined
import GoSem.ClaimMapViews
import Derived.JoinedTies
import Derived.KernelRfl
namespace Go.Proofs.YtgipiplklaeplaaDoor
/- THE CELL 'sum', in the pinned program and in every row, IS THE sha256 OF THE DUMP (.gsa) THAT YtgipiplklaeplaaDoorProg.lean LOADS. Nothing in Lean hashes anything: it is a label: what it is worth is what the hold of that sum in a sandbox is worth. -/
noncomputable def Tryd.pinned : Pinned := { name := "ytgipiplklaeplaadoor", sum := "75f1d061a7c7bf707935e1e3c9d2c236e7b35bca5b1c9e5188c4f12095f7d3bf", checked := Tryd.checked }
namespace Rows
def none {H : Type} : Left H := { results := [], args := [] }

/- WHAT THE LISTED PACKAGE-LEVEL VARIABLES READ AS WHEN THE CALL BEGINS. Each datum BY PROGRAM (the guide's laid-datum.mjs) off the statement by which the dump's own 'gosem.cut.vars' lays the variable. In a bare row this is a premise. The card (YtgipiplklaeplaaDoorCards.lean) ties it to the program's text. -/
def laid_sorrel_mach_does {H : Type} : DataW H := .iface "func table" (.agg [.nil, .iface "func" (.lit (.string [40, 42, 115, 111, 114, 114, 101, 108, 47, 109, 97, 99, 104, 46, 109, 97, 99, 104, 105, 110, 101, 41, 46, 103, 101, 116, 86, 97, 114])), .iface "func" (.lit (.string [40, 42, 115, 111, 114, 114, 101, 108, 47, 109, 97, 99, 104, 46, 109, 97, 99, 104, 105, 110, 101, 41, 46, 103, 101, 116, 86, 97, 108])), .iface "func" (.lit (.string [40, 42, 115, 111, 114, 114, 101, 108, 47, 109, 97, 99, 104, 46, 109, 97, 99, 104, 105, 110, 101, 41, 46, 103, 101, 116, 73, 110, 116])), .iface "func" (.lit (.string [40, 42, 115, 111, 114, 114, 101, 108, 47, 109, 97, 99, 104, 46, 109, 97, 99, 104, 105, 110, 101, 41, 46, 103, 101, 116, 70, 117, 110])), .iface "func" (.lit (.string [40, 42, 115, 111, 114, 114, 101, 108, 47, 109, 97, 99, 104, 46, 109, 97, 99, 104, 105, 110, 101, 41, 46, 115, 101, 116, 86, 97, 114])), .iface "func" (.lit (.string [40, 42, 115, 111, 114, 114, 101, 108, 47, 109, 97, 99, 104, 46, 109, 97, 99, 104, 105, 110, 101, 41, 46, 117, 110, 105, 86, 97, 108])), .iface "func" (.lit (.string [40, 42, 115, 111, 114, 114, 101, 108, 47, 109, 97, 99, 104, 46, 109, 97, 99, 104, 105, 110, 101, 41, 46, 117, 110, 105, 73, 110, 116])), .iface "func" (.lit (.string [40, 42, 115, 111, 114, 114, 101, 108, 47, 109, 97, 99, 104, 46, 109, 97, 99, 104, 105, 110, 101, 41, 46, 112, 117, 116, 70, 117, 110])), .iface "func" (.lit (.string [40, 42, 115, 111, 114, 114, 101, 108, 47, 109, 97, 99, 104, 46, 109, 97, 99, 104, 105, 110, 101, 41, 46, 115, 101, 116, 86, 97, 114])), .iface "func" (.lit (.string [40, 42, 115, 111, 114, 114, 101, 108, 47, 109, 97, 99, 104, 46, 109, 97, 99, 104, 105, 110, 101, 41, 46, 115, 101, 116, 86, 97, 108])), .iface "func" (.lit (.string [40, 42, 115, 111, 114, 114, 101, 108, 47, 109, 97, 99, 104, 46, 109, 97, 99, 104, 105, 110, 101, 41, 46, 115, 101, 116, 73, 110, 116])), .iface "func" (.lit (.string [40, 42, 115, 111, 114, 114, 101, 108, 47, 109, 97, 99, 104, 46, 109, 97, 99, 104, 105, 110, 101, 41, 46, 99, 97, 108, 108])), .iface "func" (.lit (.string [40, 42, 115, 111, 114, 114, 101, 108, 47, 109, 97, 99, 104, 46, 109, 97, 99, 104, 105, 110, 101, 41, 46, 114, 101, 115, 116]))])

/-- 'sorrellaw11.MachInstance': WHATEVER THE INPUT: true; the input reads as it did. -/
def machInstanceSpec : ChangeSpec := { name := "machInstance", fn := fun _ => fun
  | [d1, d2] => { results := [.lit (.bool true)], args := [d1, d2] }
  | _ => none }
def machInstanceRow : OpenClaim := { program := "ytgipiplklaeplaadoor", sum := "75f1d061a7c7bf707935e1e3c9d2c236e7b35bca5b1c9e5188c4f12095f7d3bf", func := "sorrel/sorrellaw11.MachInstance", spec := "machInstance", inPlace := ["internal/reflectlite.TypeOf"], unfollowed := true, recurses := true, named := ["sorrel/mach.does"], plainKeys := false, apart := false, laid := [("sorrel/mach.does", laid_sorrel_mach_does)] }
def MachInstanceSaid : Prop := machInstanceRow.holds Tryd.pinned (OpenSpec.ofChange machInstanceSpec)

/-- ITS FALSE NEIGHBOUR: 'it returns false'. Refute it at one input. -/
def machInstanceWrong : ChangeSpec := { name := "machInstance", fn := fun _ => fun
  | [d1, d2] => { results := [.lit (.bool false)], args := [d1, d2] }
  | _ => none }
def MachInstanceWrongFalsely : Prop := machInstanceRow.holds Tryd.pinned (OpenSpec.ofChange machInstanceWrong)

/-- 'sorrellaw11.MachRight': WHATEVER THE INPUT: true; the input reads as it did. -/
def machRightSpec : ChangeSpec := { name := "machRight", fn := fun _ => fun
  | [d1, d2, d3] => { results := [.lit (.bool true)], args := [d1, d2, d3] }
  | _ => none }
def machRightRow : OpenClaim := { program := "ytgipiplklaeplaadoor", sum := "75f1d061a7c7bf707935e1e3c9d2c236e7b35bca5b1c9e5188c4f12095f7d3bf", func := "sorrel/sorrellaw11.MachRight", spec := "machRight", inPlace := ["internal/reflectlite.TypeOf"], unfollowed := true, recurses := true, named := ["sorrel/mach.does"], plainKeys := false, apart := false, laid := [("sorrel/mach.does", laid_sorrel_mach_does)] }
def MachRightSaid : Prop := machRightRow.holds Tryd.pinned (OpenSpec.ofChange machRightSpec)

/-- ITS FALSE NEIGHBOUR: 'it returns false'. Refute it at one input. -/
def machRightWrong : ChangeSpec := { name := "machRight", fn := fun _ => fun
  | [d1, d2, d3] => { results := [.lit (.bool false)], args := [d1, d2, d3] }
  | _ => none }
def MachRightWrongFalsely : Prop := machRightRow.holds Tryd.pinned (OpenSpec.ofChange machRightWrong)

/-- 'sorrellaw11.MachMgu': WHATEVER THE INPUT: true; the input reads as it did. -/
def machMguSpec : ChangeSpec := { name := "machMgu", fn := fun _ => fun
  | [d1, d2] => { results := [.lit (.bool true)], args := [d1, d2] }
  | _ => none }
def machMguRow : OpenClaim := { program := "ytgipiplklaeplaadoor", sum := "75f1d061a7c7bf707935e1e3c9d2c236e7b35bca5b1c9e5188c4f12095f7d3bf", func := "sorrel/sorrellaw11.MachMgu", spec := "machMgu", inPlace := ["internal/reflectlite.TypeOf"], unfollowed := true, recurses := true, named := ["sorrel/mach.does"], plainKeys := false, apart := false, laid := [("sorrel/mach.does", laid_sorrel_mach_does)] }
def MachMguSaid : Prop := machMguRow.holds Tryd.pinned (OpenSpec.ofChange machMguSpec)

/-- ITS FALSE NEIGHBOUR: 'it returns false'. Refute it at one input. -/
def machMguWrong : ChangeSpec := { name := "machMgu", fn := fun _ => fun
  | [d1, d2] => { results := [.lit (.bool false)], args := [d1, d2] }
  | _ => none }
def MachMguWrongFalsely : Prop := machMguRow.holds Tryd.pinned (OpenSpec.ofChange machMguWrong)

/-- 'sorrellaw11.MachNames': WHATEVER THE INPUT: true; the input reads as it did. -/
def machNamesSpec : ChangeSpec := { name := "machNames", fn := fun _ => fun
  | [d1, d2, d3] => { results := [.lit (.bool true)], args := [d1, d2, d3] }
  | _ => none }
def machNamesRow : OpenClaim := { program := "ytgipiplklaeplaadoor", sum := "75f1d061a7c7bf707935e1e3c9d2c236e7b35bca5b1c9e5188c4f12095f7d3bf", func := "sorrel/sorrellaw11.MachNames", spec := "machNames", inPlace := ["internal/reflectlite.TypeOf"], unfollowed := true, recurses := true, named := ["sorrel/mach.does"], plainKeys := false, apart := false, laid := [("sorrel/mach.does", laid_sorrel_mach_does)] }
def MachNamesSaid : Prop := machNamesRow.holds Tryd.pinned (OpenSpec.ofChange machNamesSpec)

/-- ITS FALSE NEIGHBOUR: 'it returns false'. Refute it at one input. -/
def machNamesWrong : ChangeSpec := { name := "machNames", fn := fun _ => fun
  | [d1, d2, d3] => { results := [.lit (.bool false)], args := [d1, d2, d3] }
  | _ => none }
def MachNamesWrongFalsely : Prop := machNamesRow.holds Tryd.pinned (OpenSpec.ofChange machNamesWrong)

/-- 'sorrellaw11.MachSelf': WHATEVER THE INPUT: true; the input reads as it did. -/
def machSelfSpec : ChangeSpec := { name := "machSelf", fn := fun _ => fun
  | [d] => { results := [.lit (.bool true)], args := [d] }
  | _ => none }
def machSelfRow : OpenClaim := { program := "ytgipiplklaeplaadoor", sum := "75f1d061a7c7bf707935e1e3c9d2c236e7b35bca5b1c9e5188c4f12095f7d3bf", func := "sorrel/sorrellaw11.MachSelf", spec := "machSelf", inPlace := ["internal/reflectlite.TypeOf"], unfollowed := true, recurses := true, named := ["sorrel/mach.does"], plainKeys := false, apart := false, laid := [("sorrel/mach.does", laid_sorrel_mach_does)] }
def MachSelfSaid : Prop := machSelfRow.holds Tryd.pinned (OpenSpec.ofChange machSelfSpec)

/-- ITS FALSE NEIGHBOUR: 'it returns false'. Refute it at one input. -/
def machSelfWrong : ChangeSpec := { name := "machSelf", fn := fun _ => fun
  | [d] => { results := [.lit (.bool false)], args := [d] }
  | _ => none }
def MachSelfWrongFalsely : Prop := machSelfRow.holds Tryd.pinned (OpenSpec.ofChange machSelfWrong)

/-- 'sorrellaw11.MachSteps': WHATEVER THE INPUT: true; the input reads as it did. -/
def machStepsSpec : ChangeSpec := { name := "machSteps", fn := fun _ => fun
  | [d1, d2, d3] => { results := [.lit (.bool true)], args := [d1, d2, d3] }
  | _ => none }
def machStepsRow : OpenClaim := { program := "ytgipiplklaeplaadoor", sum := "75f1d061a7c7bf707935e1e3c9d2c236e7b35bca5b1c9e5188c4f12095f7d3bf", func := "sorrel/sorrellaw11.MachSteps", spec := "machSteps", inPlace := ["internal/reflectlite.TypeOf"], unfollowed := true, recurses := true, named := ["sorrel/mach.does"], plainKeys := false, apart := false, laid := [("sorrel/mach.does", laid_sorrel_mach_does)] }
def MachStepsSaid : Prop := machStepsRow.holds Tryd.pinned (OpenSpec.ofChange machStepsSpec)

/-- ITS FALSE NEIGHBOUR: 'it returns false'. Refute it at one input. -/
def machStepsWrong : ChangeSpec := { name := "machSteps", fn := fun _ => fun
  | [d1, d2, d3] => { results := [.lit (.bool false)], args := [d1, d2, d3] }
  | _ => none }
def MachStepsWrongFalsely : Prop := machStepsRow.holds Tryd.pinned (OpenSpec.ofChange machStepsWrong)

/-- 'sorrellaw11.MachRoom': WHATEVER THE INPUT: true; the input reads as it did. -/
def machRoomSpec : ChangeSpec := { name := "machRoom", fn := fun _ => fun
  | [d1, d2, d3] => { results := [.lit (.bool true)], args := [d1, d2, d3] }
  | _ => none }
def machRoomRow : OpenClaim := { program := "ytgipiplklaeplaadoor", sum := "75f1d061a7c7bf707935e1e3c9d2c236e7b35bca5b1c9e5188c4f12095f7d3bf", func := "sorrel/sorrellaw11.MachRoom", spec := "machRoom", inPlace := ["internal/reflectlite.TypeOf"], unfollowed := true, recurses := true, named := ["sorrel/mach.does"], plainKeys := false, apart := false, laid := [("sorrel/mach.does", laid_sorrel_mach_does)] }
def MachRoomSaid : Prop := machRoomRow.holds Tryd.pinned (OpenSpec.ofChange machRoomSpec)

/-- ITS FALSE NEIGHBOUR: 'it returns false'. Refute it at one input. -/
def machRoomWrong : ChangeSpec := { name := "machRoom", fn := fun _ => fun
  | [d1, d2, d3] => { results := [.lit (.bool false)], args := [d1, d2, d3] }
  | _ => none }
def MachRoomWrongFalsely : Prop := machRoomRow.holds Tryd.pinned (OpenSpec.ofChange machRoomWrong)

/- THE SECOND FORM. 'bulk': how many values and letters a reading holds, each counted each time it is reached (what is shared counts as often as it is met; a slice's spare places count too). A statement '..UptoSaid' is the law's where the arguments, and the package variables that the reading takes, are together of bulk at most 1048576: NARROWER than '..Said'. Prove '..Said' where nothing that the law and all that it calls make is longer than what came in: it says more and counts as full. Else prove '..UptoSaid'. A law counts once. -/
mutual
def uptoBulk {H : Type} : DataW H → Nat
  | .lit (.string bytes) => bytes.length + 1
  | .lit _ => 1
  | .nil => 1
  | .ptr d => uptoBulk d + 1
  | .slice elems spare => uptoBulkAll elems + uptoBulkAll spare + 1
  | .agg parts => uptoBulkAll parts + 1
  | .iface _ d => uptoBulk d + 1
  | .map entries => uptoBulkEntries entries + 1
  | .held _ => 1
def uptoBulkAll {H : Type} : List (DataW H) → Nat
  | [] => 0
  | d :: r => uptoBulk d + uptoBulkAll r
def uptoBulkEntries {H : Type} : List (Lit × DataW H) → Nat
  | [] => 0
  | x :: r => uptoBulkEntry x + uptoBulkEntries r
def uptoBulkEntry {H : Type} : Lit × DataW H → Nat
  | (.string bytes, d) => bytes.length + uptoBulk d + 1
  | (_, d) => uptoBulk d + 1
 end
def uptoSmall : (H : Type) → List (DataW H) → Bool := fun _ ds => decide (uptoBulkAll ds ≤ 1048576)
def OpenSpec.upto (s : _root_.Go.ChangeSpec) : _root_.Go.OpenSpec := { _root_.Go.OpenSpec.ofChange s with cond := some uptoSmall }

/-- 'sorrellaw11.MachInstance', WHERE WHAT IT READS IS OF BULK AT MOST 1048576: true; the input reads as it did. -/
def machInstanceUptoRow : OpenClaim := { program := "ytgipiplklaeplaadoor", sum := "75f1d061a7c7bf707935e1e3c9d2c236e7b35bca5b1c9e5188c4f12095f7d3bf", func := "sorrel/sorrellaw11.MachInstance", spec := "machInstance", inPlace := ["internal/reflectlite.TypeOf"], unfollowed := true, recurses := true, named := ["sorrel/mach.does"], plainKeys := false, apart := false, laid := [("sorrel/mach.does", laid_sorrel_mach_does)], narrowed := true }
def MachInstanceUptoSaid : Prop := machInstanceUptoRow.holds Tryd.pinned (OpenSpec.upto machInstanceSpec)

/-- 'sorrellaw11.MachRight', WHERE WHAT IT READS IS OF BULK AT MOST 1048576: true; the input reads as it did. -/
def machRightUptoRow : OpenClaim := { program := "ytgipiplklaeplaadoor", sum := "75f1d061a7c7bf707935e1e3c9d2c236e7b35bca5b1c9e5188c4f12095f7d3bf", func := "sorrel/sorrellaw11.MachRight", spec := "machRight", inPlace := ["internal/reflectlite.TypeOf"], unfollowed := true, recurses := true, named := ["sorrel/mach.does"], plainKeys := false, apart := false, laid := [("sorrel/mach.does", laid_sorrel_mach_does)], narrowed := true }
def MachRightUptoSaid : Prop := machRightUptoRow.holds Tryd.pinned (OpenSpec.upto machRightSpec)

/-- 'sorrellaw11.MachMgu', WHERE WHAT IT READS IS OF BULK AT MOST 1048576: true; the input reads as it did. -/
def machMguUptoRow : OpenClaim := { program := "ytgipiplklaeplaadoor", sum := "75f1d061a7c7bf707935e1e3c9d2c236e7b35bca5b1c9e5188c4f12095f7d3bf", func := "sorrel/sorrellaw11.MachMgu", spec := "machMgu", inPlace := ["internal/reflectlite.TypeOf"], unfollowed := true, recurses := true, named := ["sorrel/mach.does"], plainKeys := false, apart := false, laid := [("sorrel/mach.does", laid_sorrel_mach_does)], narrowed := true }
def MachMguUptoSaid : Prop := machMguUptoRow.holds Tryd.pinned (OpenSpec.upto machMguSpec)

/-- 'sorrellaw11.MachNames', WHERE WHAT IT READS IS OF BULK AT MOST 1048576: true; the input reads as it did. -/
def machNamesUptoRow : OpenClaim := { program := "ytgipiplklaeplaadoor", sum := "75f1d061a7c7bf707935e1e3c9d2c236e7b35bca5b1c9e5188c4f12095f7d3bf", func := "sorrel/sorrellaw11.MachNames", spec := "machNames", inPlace := ["internal/reflectlite.TypeOf"], unfollowed := true, recurses := true, named := ["sorrel/mach.does"], plainKeys := false, apart := false, laid := [("sorrel/mach.does", laid_sorrel_mach_does)], narrowed := true }
def MachNamesUptoSaid : Prop := machNamesUptoRow.holds Tryd.pinned (OpenSpec.upto machNamesSpec)

/-- 'sorrellaw11.MachSelf', WHERE WHAT IT READS IS OF BULK AT MOST 1048576: true; the input reads as it did. -/
def machSelfUptoRow : OpenClaim := { program := "ytgipiplklaeplaadoor", sum := "75f1d061a7c7bf707935e1e3c9d2c236e7b35bca5b1c9e5188c4f12095f7d3bf", func := "sorrel/sorrellaw11.MachSelf", spec := "machSelf", inPlace := ["internal/reflectlite.TypeOf"], unfollowed := true, recurses := true, named := ["sorrel/mach.does"], plainKeys := false, apart := false, laid := [("sorrel/mach.does", laid_sorrel_mach_does)], narrowed := true }
def MachSelfUptoSaid : Prop := machSelfUptoRow.holds Tryd.pinned (OpenSpec.upto machSelfSpec)

/-- 'sorrellaw11.MachSteps', WHERE WHAT IT READS IS OF BULK AT MOST 1048576: true; the input reads as it did. -/
def machStepsUptoRow : OpenClaim := { program := "ytgipiplklaeplaadoor", sum := "75f1d061a7c7bf707935e1e3c9d2c236e7b35bca5b1c9e5188c4f12095f7d3bf", func := "sorrel/sorrellaw11.MachSteps", spec := "machSteps", inPlace := ["internal/reflectlite.TypeOf"], unfollowed := true, recurses := true, named := ["sorrel/mach.does"], plainKeys := false, apart := false, laid := [("sorrel/mach.does", laid_sorrel_mach_does)], narrowed := true }
def MachStepsUptoSaid : Prop := machStepsUptoRow.holds Tryd.pinned (OpenSpec.upto machStepsSpec)

/-- 'sorrellaw11.MachRoom', WHERE WHAT IT READS IS OF BULK AT MOST 1048576: true; the input reads as it did. -/
def machRoomUptoRow : OpenClaim := { program := "ytgipiplklaeplaadoor", sum := "75f1d061a7c7bf707935e1e3c9d2c236e7b35bca5b1c9e5188c4f12095f7d3bf", func := "sorrel/sorrellaw11.MachRoom", spec := "machRoom", inPlace := ["internal/reflectlite.TypeOf"], unfollowed := true, recurses := true, named := ["sorrel/mach.does"], plainKeys := false, apart := false, laid := [("sorrel/mach.does", laid_sorrel_mach_does)], narrowed := true }
def MachRoomUptoSaid : Prop := machRoomUptoRow.holds Tryd.pinned (OpenSpec.upto machRoomSpec)

end Rows
end Go.Proofs.YtgipiplklaeplaaDoor
