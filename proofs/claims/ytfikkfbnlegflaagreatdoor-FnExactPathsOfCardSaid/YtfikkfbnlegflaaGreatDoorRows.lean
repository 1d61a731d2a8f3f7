/-
  NARROWER THAN 'FOR EVERY INPUT', by the rows' own cells (each row's printed sentence says how): FnExactLowerPath: laid · FnExactRaisePath: laid · FnExactHighestPath: laid · FnExactReflectPath: laid · FnPathReflections: laid · FnLowered: laid · FnExactPathsOf: laid · FnPathDuals: laid.
  DERIVED. THE GIVEN ROWS OF THIS SEAT. 8 by the template 'for every input the law returns true; each argument reads behind the call as it read before'; 0 by the template 'total and deterministic' (their statements: YtfikkfbnlegflaaGreatDoorTotals.lean).
  GIVEN WITH THE SEED: the statements are not yours to turn. If you find one false, say at which input.
  Laid BY PROGRAM, IN A SANDBOX (cutbox-rows.mjs): the forced cells as the released guide's own fill.sh prints them over the translation c2cd8579adb671c0… (all of the seat's roots in one cut). By AI agents, Wed Nov 11 2026. No macro, syntax, notation, axiom, sorry.
-/
import Derived.Test.YtfikkfbnlegflaaGreatDoorChecked
import GoSem.PinnedTables
import GoSem.Claim
import GoSem.ClaimJoined
import GoSem.ClaimMapViews
import Derived.JoinedTies
import Derived.KernelRfl
namespace Go.Proofs.YtfikkfbnlegflaaGreatDoor
/- THE CELL 'sum', in the pinned program and in every row, IS THE sha256 OF THE DUMP (.gsa) THAT YtfikkfbnlegflaaGreatDoorProg.lean LOADS. Nothing in Lean hashes anything: it is a label: what it is worth is what the hold of that sum in a sandbox is worth. -/
noncomputable def Tryz.pinned : Pinned := { name := "ytfikkfbnlegflaagreatdoor", sum := "c2cd8579adb671c01e9d66137af3efb886470499c966fc334649d2232f9c7a5a", checked := Tryz.checked }
namespace Rows
def none {H : Type} : Left H := { results := [], args := [] }

/- WHAT THE LISTED PACKAGE-LEVEL VARIABLES READ AS WHEN THE CALL BEGINS. Each datum BY PROGRAM (the guide's laid-datum.mjs) off the statement by which the dump's own 'gosem.cut.vars' lays the variable. In a bare row this is a premise. The card (YtfikkfbnlegflaaGreatDoorCards.lean) ties it to the program's text. -/
def laid_unicode_utf8_acceptRanges {H : Type} : DataW H := .agg [.agg [.lit (.int .u8 128), .lit (.int .u8 191)], .agg [.lit (.int .u8 160), .lit (.int .u8 191)], .agg [.lit (.int .u8 128), .lit (.int .u8 159)], .agg [.lit (.int .u8 144), .lit (.int .u8 191)], .agg [.lit (.int .u8 128), .lit (.int .u8 143)], .agg [.lit (.int .u8 0), .lit (.int .u8 0)], .agg [.lit (.int .u8 0), .lit (.int .u8 0)], .agg [.lit (.int .u8 0), .lit (.int .u8 0)], .agg [.lit (.int .u8 0), .lit (.int .u8 0)], .agg [.lit (.int .u8 0), .lit (.int .u8 0)], .agg [.lit (.int .u8 0), .lit (.int .u8 0)], .agg [.lit (.int .u8 0), .lit (.int .u8 0)], .agg [.lit (.int .u8 0), .lit (.int .u8 0)], .agg [.lit (.int .u8 0), .lit (.int .u8 0)], .agg [.lit (.int .u8 0), .lit (.int .u8 0)], .agg [.lit (.int .u8 0), .lit (.int .u8 0)]]
/-- One of Go's own tables, pinned by name: the form's constant. -/
def laid_unicode_utf8_first : DataW Unit := Go.Pinned.utf8First
def laid_math_bits_deBruijn32tab {H : Type} : DataW H := .agg [.lit (.int .u8 0), .lit (.int .u8 1), .lit (.int .u8 28), .lit (.int .u8 2), .lit (.int .u8 29), .lit (.int .u8 14), .lit (.int .u8 24), .lit (.int .u8 3), .lit (.int .u8 30), .lit (.int .u8 22), .lit (.int .u8 20), .lit (.int .u8 15), .lit (.int .u8 25), .lit (.int .u8 17), .lit (.int .u8 4), .lit (.int .u8 8), .lit (.int .u8 31), .lit (.int .u8 27), .lit (.int .u8 13), .lit (.int .u8 23), .lit (.int .u8 21), .lit (.int .u8 19), .lit (.int .u8 16), .lit (.int .u8 7), .lit (.int .u8 26), .lit (.int .u8 12), .lit (.int .u8 18), .lit (.int .u8 6), .lit (.int .u8 11), .lit (.int .u8 5), .lit (.int .u8 10), .lit (.int .u8 9)]
def laid_math_bits_deBruijn64tab {H : Type} : DataW H := .agg [.lit (.int .u8 0), .lit (.int .u8 1), .lit (.int .u8 56), .lit (.int .u8 2), .lit (.int .u8 57), .lit (.int .u8 49), .lit (.int .u8 28), .lit (.int .u8 3), .lit (.int .u8 61), .lit (.int .u8 58), .lit (.int .u8 42), .lit (.int .u8 50), .lit (.int .u8 38), .lit (.int .u8 29), .lit (.int .u8 17), .lit (.int .u8 4), .lit (.int .u8 62), .lit (.int .u8 47), .lit (.int .u8 59), .lit (.int .u8 36), .lit (.int .u8 45), .lit (.int .u8 43), .lit (.int .u8 51), .lit (.int .u8 22), .lit (.int .u8 53), .lit (.int .u8 39), .lit (.int .u8 33), .lit (.int .u8 30), .lit (.int .u8 24), .lit (.int .u8 18), .lit (.int .u8 12), .lit (.int .u8 5), .lit (.int .u8 63), .lit (.int .u8 55), .lit (.int .u8 48), .lit (.int .u8 27), .lit (.int .u8 60), .lit (.int .u8 41), .lit (.int .u8 37), .lit (.int .u8 16), .lit (.int .u8 46), .lit (.int .u8 35), .lit (.int .u8 44), .lit (.int .u8 21), .lit (.int .u8 52), .lit (.int .u8 32), .lit (.int .u8 23), .lit (.int .u8 11), .lit (.int .u8 54), .lit (.int .u8 26), .lit (.int .u8 40), .lit (.int .u8 15), .lit (.int .u8 34), .lit (.int .u8 20), .lit (.int .u8 31), .lit (.int .u8 10), .lit (.int .u8 25), .lit (.int .u8 14), .lit (.int .u8 19), .lit (.int .u8 9), .lit (.int .u8 13), .lit (.int .u8 8), .lit (.int .u8 7), .lit (.int .u8 6)]
def laid_internal_strconv_uint64pow10 {H : Type} : DataW H := .agg [.lit (.int .u64 1), .lit (.int .u64 10), .lit (.int .u64 100), .lit (.int .u64 1000), .lit (.int .u64 10000), .lit (.int .u64 100000), .lit (.int .u64 1000000), .lit (.int .u64 10000000), .lit (.int .u64 100000000), .lit (.int .u64 1000000000), .lit (.int .u64 10000000000), .lit (.int .u64 100000000000), .lit (.int .u64 1000000000000), .lit (.int .u64 10000000000000), .lit (.int .u64 100000000000000), .lit (.int .u64 1000000000000000), .lit (.int .u64 10000000000000000), .lit (.int .u64 100000000000000000), .lit (.int .u64 1000000000000000000), .lit (.int .u64 10000000000000000000)]

/-- 'laws.FnExactLowerPath': WHATEVER THE INPUT: true; the input reads as it did. -/
def fnExactLowerPathSpec : ChangeSpec := { name := "fnExactLowerPath", fn := fun _ => fun
  | [d1, d2, d3] => { results := [.lit (.bool true)], args := [d1, d2, d3] }
  | _ => none }
def fnExactLowerPathRow : OpenClaim := { program := "ytfikkfbnlegflaagreatdoor", sum := "c2cd8579adb671c01e9d66137af3efb886470499c966fc334649d2232f9c7a5a", func := "loop.example/g03109/laws.FnExactLowerPath", spec := "fnExactLowerPath", inPlace := ["internal/abi.NoEscape", "internal/bytealg.MakeNoZero", "internal/bytealg.CountString", "internal/bytealg.IndexByteString", "internal/bytealg.IndexString"], unfollowed := true, recurses := true, named := ["unicode/utf8.first", "unicode/utf8.acceptRanges", "internal/bytealg.MaxLen"], apart := false, laid := [("unicode/utf8.acceptRanges", laid_unicode_utf8_acceptRanges), ("unicode/utf8.first", laid_unicode_utf8_first)] }
def FnExactLowerPathSaid : Prop := fnExactLowerPathRow.holds Tryz.pinned (OpenSpec.ofChange fnExactLowerPathSpec)

/-- ITS FALSE NEIGHBOUR: 'it returns false'. Refute it at one input. -/
def fnExactLowerPathWrong : ChangeSpec := { name := "fnExactLowerPath", fn := fun _ => fun
  | [d1, d2, d3] => { results := [.lit (.bool false)], args := [d1, d2, d3] }
  | _ => none }
def FnExactLowerPathWrongFalsely : Prop := fnExactLowerPathRow.holds Tryz.pinned (OpenSpec.ofChange fnExactLowerPathWrong)

/-- 'laws.FnExactRaisePath': WHATEVER THE INPUT: true; the input reads as it did. -/
def fnExactRaisePathSpec : ChangeSpec := { name := "fnExactRaisePath", fn := fun _ => fun
  | [d1, d2, d3] => { results := [.lit (.bool true)], args := [d1, d2, d3] }
  | _ => none }
def fnExactRaisePathRow : OpenClaim := { program := "ytfikkfbnlegflaagreatdoor", sum := "c2cd8579adb671c01e9d66137af3efb886470499c966fc334649d2232f9c7a5a", func := "loop.example/g03109/laws.FnExactRaisePath", spec := "fnExactRaisePath", inPlace := ["internal/abi.NoEscape", "internal/bytealg.MakeNoZero", "internal/bytealg.CountString", "internal/bytealg.IndexByteString", "internal/bytealg.IndexString"], unfollowed := true, recurses := true, named := ["unicode/utf8.first", "unicode/utf8.acceptRanges", "internal/bytealg.MaxLen"], apart := false, laid := [("unicode/utf8.acceptRanges", laid_unicode_utf8_acceptRanges), ("unicode/utf8.first", laid_unicode_utf8_first)] }
def FnExactRaisePathSaid : Prop := fnExactRaisePathRow.holds Tryz.pinned (OpenSpec.ofChange fnExactRaisePathSpec)

/-- ITS FALSE NEIGHBOUR: 'it returns false'. Refute it at one input. -/
def fnExactRaisePathWrong : ChangeSpec := { name := "fnExactRaisePath", fn := fun _ => fun
  | [d1, d2, d3] => { results := [.lit (.bool false)], args := [d1, d2, d3] }
  | _ => none }
def FnExactRaisePathWrongFalsely : Prop := fnExactRaisePathRow.holds Tryz.pinned (OpenSpec.ofChange fnExactRaisePathWrong)

/-- 'laws.FnExactHighestPath': WHATEVER THE INPUT: true; the input reads as it did. -/
def fnExactHighestPathSpec : ChangeSpec := { name := "fnExactHighestPath", fn := fun _ => fun
  | [d1, d2] => { results := [.lit (.bool true)], args := [d1, d2] }
  | _ => none }
def fnExactHighestPathRow : OpenClaim := { program := "ytfikkfbnlegflaagreatdoor", sum := "c2cd8579adb671c01e9d66137af3efb886470499c966fc334649d2232f9c7a5a", func := "loop.example/g03109/laws.FnExactHighestPath", spec := "fnExactHighestPath", inPlace := ["internal/abi.NoEscape", "internal/bytealg.MakeNoZero", "internal/bytealg.CountString", "internal/bytealg.IndexByteString", "internal/bytealg.IndexString"], unfollowed := true, recurses := true, named := ["unicode/utf8.first", "unicode/utf8.acceptRanges", "internal/bytealg.MaxLen"], apart := false, laid := [("unicode/utf8.acceptRanges", laid_unicode_utf8_acceptRanges), ("unicode/utf8.first", laid_unicode_utf8_first)] }
def FnExactHighestPathSaid : Prop := fnExactHighestPathRow.holds Tryz.pinned (OpenSpec.ofChange fnExactHighestPathSpec)

/-- ITS FALSE NEIGHBOUR: 'it returns false'. Refute it at one input. -/
def fnExactHighestPathWrong : ChangeSpec := { name := "fnExactHighestPath", fn := fun _ => fun
  | [d1, d2] => { results := [.lit (.bool false)], args := [d1, d2] }
  | _ => none }
def FnExactHighestPathWrongFalsely : Prop := fnExactHighestPathRow.holds Tryz.pinned (OpenSpec.ofChange fnExactHighestPathWrong)

/-- 'laws.FnExactReflectPath': WHATEVER THE INPUT: true; the input reads as it did. -/
def fnExactReflectPathSpec : ChangeSpec := { name := "fnExactReflectPath", fn := fun _ => fun
  | [d1, d2, d3] => { results := [.lit (.bool true)], args := [d1, d2, d3] }
  | _ => none }
def fnExactReflectPathRow : OpenClaim := { program := "ytfikkfbnlegflaagreatdoor", sum := "c2cd8579adb671c01e9d66137af3efb886470499c966fc334649d2232f9c7a5a", func := "loop.example/g03109/laws.FnExactReflectPath", spec := "fnExactReflectPath", inPlace := ["internal/abi.NoEscape", "internal/bytealg.MakeNoZero", "internal/bytealg.CountString", "internal/bytealg.IndexByteString", "internal/bytealg.IndexString"], unfollowed := true, recurses := true, named := ["unicode/utf8.first", "unicode/utf8.acceptRanges", "internal/bytealg.MaxLen"], apart := false, laid := [("unicode/utf8.acceptRanges", laid_unicode_utf8_acceptRanges), ("unicode/utf8.first", laid_unicode_utf8_first)] }
def FnExactReflectPathSaid : Prop := fnExactReflectPathRow.holds Tryz.pinned (OpenSpec.ofChange fnExactReflectPathSpec)

/-- ITS FALSE NEIGHBOUR: 'it returns false'. Refute it at one input. -/
def fnExactReflectPathWrong : ChangeSpec := { name := "fnExactReflectPath", fn := fun _ => fun
  | [d1, d2, d3] => { results := [.lit (.bool false)], args := [d1, d2, d3] }
  | _ => none }
def FnExactReflectPathWrongFalsely : Prop := fnExactReflectPathRow.holds Tryz.pinned (OpenSpec.ofChange fnExactReflectPathWrong)

/-- 'laws.FnPathReflections': WHATEVER THE INPUT: true; the input reads as it did. -/
def fnPathReflectionsSpec : ChangeSpec := { name := "fnPathReflections", fn := fun _ => fun
  | [d] => { results := [.lit (.bool true)], args := [d] }
  | _ => none }
def fnPathReflectionsRow : OpenClaim := { program := "ytfikkfbnlegflaagreatdoor", sum := "c2cd8579adb671c01e9d66137af3efb886470499c966fc334649d2232f9c7a5a", func := "loop.example/g03109/laws.FnPathReflections", spec := "fnPathReflections", inPlace := ["internal/abi.NoEscape", "internal/bytealg.MakeNoZero", "internal/bytealg.CountString", "internal/bytealg.IndexByteString", "internal/bytealg.IndexString"], unfollowed := true, recurses := true, named := ["unicode/utf8.first", "unicode/utf8.acceptRanges", "internal/bytealg.MaxLen"], apart := false, laid := [("unicode/utf8.acceptRanges", laid_unicode_utf8_acceptRanges), ("unicode/utf8.first", laid_unicode_utf8_first)] }
def FnPathReflectionsSaid : Prop := fnPathReflectionsRow.holds Tryz.pinned (OpenSpec.ofChange fnPathReflectionsSpec)

/-- ITS FALSE NEIGHBOUR: 'it returns false'. Refute it at one input. -/
def fnPathReflectionsWrong : ChangeSpec := { name := "fnPathReflections", fn := fun _ => fun
  | [d] => { results := [.lit (.bool false)], args := [d] }
  | _ => none }
def FnPathReflectionsWrongFalsely : Prop := fnPathReflectionsRow.holds Tryz.pinned (OpenSpec.ofChange fnPathReflectionsWrong)

/-- 'laws.FnLowered': WHATEVER THE INPUT: true; the input reads as it did. -/
def fnLoweredSpec : ChangeSpec := { name := "fnLowered", fn := fun _ => fun
  | [d] => { results := [.lit (.bool true)], args := [d] }
  | _ => none }
def fnLoweredRow : OpenClaim := { program := "ytfikkfbnlegflaagreatdoor", sum := "c2cd8579adb671c01e9d66137af3efb886470499c966fc334649d2232f9c7a5a", func := "loop.example/g03109/laws.FnLowered", spec := "fnLowered", inPlace := ["internal/abi.NoEscape", "internal/bytealg.MakeNoZero", "internal/bytealg.CountString", "internal/bytealg.IndexByteString", "internal/bytealg.IndexString"], unfollowed := true, recurses := true, named := ["unicode/utf8.first", "unicode/utf8.acceptRanges", "internal/bytealg.MaxLen"], apart := false, laid := [("unicode/utf8.acceptRanges", laid_unicode_utf8_acceptRanges), ("unicode/utf8.first", laid_unicode_utf8_first)] }
def FnLoweredSaid : Prop := fnLoweredRow.holds Tryz.pinned (OpenSpec.ofChange fnLoweredSpec)

/-- ITS FALSE NEIGHBOUR: 'it returns false'. Refute it at one input. -/
def fnLoweredWrong : ChangeSpec := { name := "fnLowered", fn := fun _ => fun
  | [d] => { results := [.lit (.bool false)], args := [d] }
  | _ => none }
def FnLoweredWrongFalsely : Prop := fnLoweredRow.holds Tryz.pinned (OpenSpec.ofChange fnLoweredWrong)

/-- 'laws.FnExactPathsOf': WHATEVER THE INPUT: true; the input reads as it did. -/
def fnExactPathsOfSpec : ChangeSpec := { name := "fnExactPathsOf", fn := fun _ => fun
  | [d1, d2] => { results := [.lit (.bool true)], args := [d1, d2] }
  | _ => none }
def fnExactPathsOfRow : OpenClaim := { program := "ytfikkfbnlegflaagreatdoor", sum := "c2cd8579adb671c01e9d66137af3efb886470499c966fc334649d2232f9c7a5a", func := "loop.example/g03109/laws.FnExactPathsOf", spec := "fnExactPathsOf", inPlace := ["internal/abi.NoEscape", "internal/bytealg.MakeNoZero", "internal/bytealg.CountString", "internal/bytealg.IndexByteString", "internal/bytealg.IndexString"], unfollowed := true, recurses := true, named := ["unicode/utf8.first", "unicode/utf8.acceptRanges", "internal/bytealg.MaxLen", "internal/strconv.uint64pow10", "math/bits.deBruijn32tab", "math/bits.deBruijn64tab"], apart := false, laid := [("math/bits.deBruijn32tab", laid_math_bits_deBruijn32tab), ("math/bits.deBruijn64tab", laid_math_bits_deBruijn64tab), ("internal/strconv.uint64pow10", laid_internal_strconv_uint64pow10), ("unicode/utf8.acceptRanges", laid_unicode_utf8_acceptRanges), ("unicode/utf8.first", laid_unicode_utf8_first)] }
def FnExactPathsOfSaid : Prop := fnExactPathsOfRow.holds Tryz.pinned (OpenSpec.ofChange fnExactPathsOfSpec)

/-- ITS FALSE NEIGHBOUR: 'it returns false'. Refute it at one input. -/
def fnExactPathsOfWrong : ChangeSpec := { name := "fnExactPathsOf", fn := fun _ => fun
  | [d1, d2] => { results := [.lit (.bool false)], args := [d1, d2] }
  | _ => none }
def FnExactPathsOfWrongFalsely : Prop := fnExactPathsOfRow.holds Tryz.pinned (OpenSpec.ofChange fnExactPathsOfWrong)

/-- 'laws.FnPathDuals': WHATEVER THE INPUT: true; the input reads as it did. -/
def fnPathDualsSpec : ChangeSpec := { name := "fnPathDuals", fn := fun _ => fun
  | [d] => { results := [.lit (.bool true)], args := [d] }
  | _ => none }
def fnPathDualsRow : OpenClaim := { program := "ytfikkfbnlegflaagreatdoor", sum := "c2cd8579adb671c01e9d66137af3efb886470499c966fc334649d2232f9c7a5a", func := "loop.example/g03109/laws.FnPathDuals", spec := "fnPathDuals", inPlace := ["internal/abi.NoEscape", "internal/bytealg.MakeNoZero", "internal/bytealg.CountString", "internal/bytealg.IndexByteString", "internal/bytealg.IndexString", "slices.overlaps[loop.example/g03109/impl.Step]"], unfollowed := true, recurses := true, named := ["unicode/utf8.first", "unicode/utf8.acceptRanges", "internal/bytealg.MaxLen"], apart := false, laid := [("unicode/utf8.acceptRanges", laid_unicode_utf8_acceptRanges), ("unicode/utf8.first", laid_unicode_utf8_first)] }
def FnPathDualsSaid : Prop := fnPathDualsRow.holds Tryz.pinned (OpenSpec.ofChange fnPathDualsSpec)

/-- ITS FALSE NEIGHBOUR: 'it returns false'. Refute it at one input. -/
def fnPathDualsWrong : ChangeSpec := { name := "fnPathDuals", fn := fun _ => fun
  | [d] => { results := [.lit (.bool false)], args := [d] }
  | _ => none }
def FnPathDualsWrongFalsely : Prop := fnPathDualsRow.holds Tryz.pinned (OpenSpec.ofChange fnPathDualsWrong)

/- THE SECOND FORM. 'bulk': how many values and letters a reading holds, each counted each time it is reached (what is shared counts as often as it is met; a slice's spare places count too). A statement '..UptoSaid' is the law's where the arguments, and the package variables that the reading takes, are together of bulk at most 1048576: NARROWER than '..Said'. Prove '..Said' where nothing that the law and all that it calls make is longer than what came in: it says more and counts as full. Else prove '..UptoSaid'. A law counts once. -/
mutual
def uptoBulk {H : Type} : DataW H → Nat
  | .lit (.string bytes) => bytes.length + 1
  | .lit _ => 1
  | .nil => 1
  | .ptr d => uptoBulk d + 1
  | .slice elems spare => uptoBulkAll elems + uptoBulkAll spare + 1
  | .agg parts => uptoBulkAll parts + 1
  | .iface _ d => uptoBulk d + 1
  | .map entries => uptoBulkEntries entries + 1
  | .held _ => 1
def uptoBulkAll {H : Type} : List (DataW H) → Nat
  | [] => 0
  | d :: r => uptoBulk d + uptoBulkAll r
def uptoBulkEntries {H : Type} : List (Lit × DataW H) → Nat
  | [] => 0
  | x :: r => uptoBulkEntry x + uptoBulkEntries r
def uptoBulkEntry {H : Type} : Lit × DataW H → Nat
  | (.string bytes, d) => bytes.length + uptoBulk d + 1
  | (_, d) => uptoBulk d + 1
 end
def uptoSmall : (H : Type) → List (DataW H) → Bool := fun _ ds => decide (uptoBulkAll ds ≤ 1048576)
def OpenSpec.upto (s : _root_.Go.ChangeSpec) : _root_.Go.OpenSpec := { _root_.Go.OpenSpec.ofChange s with cond := some uptoSmall }

/-- 'laws.FnExactLowerPath', WHERE WHAT IT READS IS OF BULK AT MOST 1048576: true; the input reads as it did. -/
def fnExactLowerPathUptoRow : OpenClaim := { program := "ytfikkfbnlegflaagreatdoor", sum := "c2cd8579adb671c01e9d66137af3efb886470499c966fc334649d2232f9c7a5a", func := "loop.example/g03109/laws.FnExactLowerPath", spec := "fnExactLowerPath", inPlace := ["internal/abi.NoEscape", "internal/bytealg.MakeNoZero", "internal/bytealg.CountString", "internal/bytealg.IndexByteString", "internal/bytealg.IndexString"], unfollowed := true, recurses := true, named := ["unicode/utf8.first", "unicode/utf8.acceptRanges", "internal/bytealg.MaxLen"], apart := false, laid := [("unicode/utf8.acceptRanges", laid_unicode_utf8_acceptRanges), ("unicode/utf8.first", laid_unicode_utf8_first)], narrowed := true }
def FnExactLowerPathUptoSaid : Prop := fnExactLowerPathUptoRow.holds Tryz.pinned (OpenSpec.upto fnExactLowerPathSpec)

/-- 'laws.FnExactRaisePath', WHERE WHAT IT READS IS OF BULK AT MOST 1048576: true; the input reads as it did. -/
def fnExactRaisePathUptoRow : OpenClaim := { program := "ytfikkfbnlegflaagreatdoor", sum := "c2cd8579adb671c01e9d66137af3efb886470499c966fc334649d2232f9c7a5a", func := "loop.example/g03109/laws.FnExactRaisePath", spec := "fnExactRaisePath", inPlace := ["internal/abi.NoEscape", "internal/bytealg.MakeNoZero", "internal/bytealg.CountString", "internal/bytealg.IndexByteString", "internal/bytealg.IndexString"], unfollowed := true, recurses := true, named := ["unicode/utf8.first", "unicode/utf8.acceptRanges", "internal/bytealg.MaxLen"], apart := false, laid := [("unicode/utf8.acceptRanges", laid_unicode_utf8_acceptRanges), ("unicode/utf8.first", laid_unicode_utf8_first)], narrowed := true }
def FnExactRaisePathUptoSaid : Prop := fnExactRaisePathUptoRow.holds Tryz.pinned (OpenSpec.upto fnExactRaisePathSpec)

/-- 'laws.FnExactHighestPath', WHERE WHAT IT READS IS OF BULK AT MOST 1048576: true; the input reads as it did. -/
def fnExactHighestPathUptoRow : OpenClaim := { program := "ytfikkfbnlegflaagreatdoor", sum := "c2cd8579adb671c01e9d66137af3efb886470499c966fc334649d2232f9c7a5a", func := "loop.example/g03109/laws.FnExactHighestPath", spec := "fnExactHighestPath", inPlace := ["internal/abi.NoEscape", "internal/bytealg.MakeNoZero", "internal/bytealg.CountString", "internal/bytealg.IndexByteString", "internal/bytealg.IndexString"], unfollowed := true, recurses := true, named := ["unicode/utf8.first", "unicode/utf8.acceptRanges", "internal/bytealg.MaxLen"], apart := false, laid := [("unicode/utf8.acceptRanges", laid_unicode_utf8_acceptRanges), ("unicode/utf8.first", laid_unicode_utf8_first)], narrowed := true }
def FnExactHighestPathUptoSaid : Prop := fnExactHighestPathUptoRow.holds Tryz.pinned (OpenSpec.upto fnExactHighestPathSpec)

/-- 'laws.FnExactReflectPath', WHERE WHAT IT READS IS OF BULK AT MOST 1048576: true; the input reads as it did. -/
def fnExactReflectPathUptoRow : OpenClaim := { program := "ytfikkfbnlegflaagreatdoor", sum := "c2cd8579adb671c01e9d66137af3efb886470499c966fc334649d2232f9c7a5a", func := "loop.example/g03109/laws.FnExactReflectPath", spec := "fnExactReflectPath", inPlace := ["internal/abi.NoEscape", "internal/bytealg.MakeNoZero", "internal/bytealg.CountString", "internal/bytealg.IndexByteString", "internal/bytealg.IndexString"], unfollowed := true, recurses := true, named := ["unicode/utf8.first", "unicode/utf8.acceptRanges", "internal/bytealg.MaxLen"], apart := false, laid := [("unicode/utf8.acceptRanges", laid_unicode_utf8_acceptRanges), ("unicode/utf8.first", laid_unicode_utf8_first)], narrowed := true }
def FnExactReflectPathUptoSaid : Prop := fnExactReflectPathUptoRow.holds Tryz.pinned (OpenSpec.upto fnExactReflectPathSpec)

/-- 'laws.FnPathReflections', WHERE WHAT IT READS IS OF BULK AT MOST 1048576: true; the input reads as it did. -/
def fnPathReflectionsUptoRow : OpenClaim := { program := "ytfikkfbnlegflaagreatdoor", sum := "c2cd8579adb671c01e9d66137af3efb886470499c966fc334649d2232f9c7a5a", func := "loop.example/g03109/laws.FnPathReflections", spec := "fnPathReflections", inPlace := ["internal/abi.NoEscape", "internal/bytealg.MakeNoZero", "internal/bytealg.CountString", "internal/bytealg.IndexByteString", "internal/bytealg.IndexString"], unfollowed := true, recurses := true, named := ["unicode/utf8.first", "unicode/utf8.acceptRanges", "internal/bytealg.MaxLen"], apart := false, laid := [("unicode/utf8.acceptRanges", laid_unicode_utf8_acceptRanges), ("unicode/utf8.first", laid_unicode_utf8_first)], narrowed := true }
def FnPathReflectionsUptoSaid : Prop := fnPathReflectionsUptoRow.holds Tryz.pinned (OpenSpec.upto fnPathReflectionsSpec)

/-- 'laws.FnLowered', WHERE WHAT IT READS IS OF BULK AT MOST 1048576: true; the input reads as it did. -/
def fnLoweredUptoRow : OpenClaim := { program := "ytfikkfbnlegflaagreatdoor", sum := "c2cd8579adb671c01e9d66137af3efb886470499c966fc334649d2232f9c7a5a", func := "loop.example/g03109/laws.FnLowered", spec := "fnLowered", inPlace := ["internal/abi.NoEscape", "internal/bytealg.MakeNoZero", "internal/bytealg.CountString", "internal/bytealg.IndexByteString", "internal/bytealg.IndexString"], unfollowed := true, recurses := true, named := ["unicode/utf8.first", "unicode/utf8.acceptRanges", "internal/bytealg.MaxLen"], apart := false, laid := [("unicode/utf8.acceptRanges", laid_unicode_utf8_acceptRanges), ("unicode/utf8.first", laid_unicode_utf8_first)], narrowed := true }
def FnLoweredUptoSaid : Prop := fnLoweredUptoRow.holds Tryz.pinned (OpenSpec.upto fnLoweredSpec)

/-- 'laws.FnExactPathsOf', WHERE WHAT IT READS IS OF BULK AT MOST 1048576: true; the input reads as it did. -/
def fnExactPathsOfUptoRow : OpenClaim := { program := "ytfikkfbnlegflaagreatdoor", sum := "c2cd8579adb671c01e9d66137af3efb886470499c966fc334649d2232f9c7a5a", func := "loop.example/g03109/laws.FnExactPathsOf", spec := "fnExactPathsOf", inPlace := ["internal/abi.NoEscape", "internal/bytealg.MakeNoZero", "internal/bytealg.CountString", "internal/bytealg.IndexByteString", "internal/bytealg.IndexString"], unfollowed := true, recurses := true, named := ["unicode/utf8.first", "unicode/utf8.acceptRanges", "internal/bytealg.MaxLen", "internal/strconv.uint64pow10", "math/bits.deBruijn32tab", "math/bits.deBruijn64tab"], apart := false, laid := [("math/bits.deBruijn32tab", laid_math_bits_deBruijn32tab), ("math/bits.deBruijn64tab", laid_math_bits_deBruijn64tab), ("internal/strconv.uint64pow10", laid_internal_strconv_uint64pow10), ("unicode/utf8.acceptRanges", laid_unicode_utf8_acceptRanges), ("unicode/utf8.first", laid_unicode_utf8_first)], narrowed := true }
def FnExactPathsOfUptoSaid : Prop := fnExactPathsOfUptoRow.holds Tryz.pinned (OpenSpec.upto fnExactPathsOfSpec)

/-- 'laws.FnPathDuals', WHERE WHAT IT READS IS OF BULK AT MOST 1048576: true; the input reads as it did. -/
def fnPathDualsUptoRow : OpenClaim := { program := "ytfikkfbnlegflaagreatdoor", sum := "c2cd8579adb671c01e9d66137af3efb886470499c966fc334649d2232f9c7a5a", func := "loop.example/g03109/laws.FnPathDuals", spec := "fnPathDuals", inPlace := ["internal/abi.NoEscape", "internal/bytealg.MakeNoZero", "internal/bytealg.CountString", "internal/bytealg.IndexByteString", "internal/bytealg.IndexString", "slices.overlaps[loop.example/g03109/impl.Step]"], unfollowed := true, recurses := true, named := ["unicode/utf8.first", "unicode/utf8.acceptRanges", "internal/bytealg.MaxLen"], apart := false, laid := [("unicode/utf8.acceptRanges", laid_unicode_utf8_acceptRanges), ("unicode/utf8.first", laid_unicode_utf8_first)], narrowed := true }
def FnPathDualsUptoSaid : Prop := fnPathDualsUptoRow.holds Tryz.pinned (OpenSpec.upto fnPathDualsSpec)

end Rows
end Go.Proofs.YtfikkfbnlegflaaGreatDoor
