/-
  NARROWER THAN 'FOR EVERY INPUT', by the rows' own cells (each row's printed sentence says how): FnExactGeneratorOf: laid · FnExactAddEnv: laid · FnExactAntipodeOf: laid · FnExactMulEnv: laid · FnExactDualCharacter: laid · FnExactDoubleCharacter: laid · FnExactAddCharacters: laid · FnExactMulCharacters: laid · FnExactBranchTo: laid · FnExactSquareParts: laid.
  DERIVED. THE GIVEN ROWS OF THIS SEAT. 10 by the template 'for every input the law returns true; each argument reads behind the call as it read before'; 0 by the template 'total and deterministic' (their statements: YtnfbfdamlnjblaaGreatDoorTotals.lean).
  GIVEN WITH THE SEED: the statements are not yours to turn. If you find one false, say at which input.
  Laid BY PROGRAM, IN A SANDBOX (cutbox-rows.mjs): the forced cells as the released guide's own fill.sh prints them over the translation affc92060cafce02… (all of the seat's roots in one cut). By AI agents, Wed Nov 11 2026. No macro, syntax, notation, axiom, sorry.
-/
import Derived.Test.YtnfbfdamlnjblaaGreatDoorChecked
import GoSem.PinnedTables
import GoSem.Claim
import GoSem.ClaimJoined
import GoSem.ClaimMapViews
import Derived.JoinedTies
import Derived.KernelRfl
namespace Go.Proofs.YtnfbfdamlnjblaaGreatDoor
/- THE CELL 'sum', in the pinned program and in every row, IS THE sha256 OF THE DUMP (.gsa) THAT YtnfbfdamlnjblaaGreatDoorProg.lean LOADS. Nothing in Lean hashes anything: it is a label: what it is worth is what the hold of that sum in a sandbox is worth. -/
noncomputable def Tryz.pinned : Pinned := { name := "ytnfbfdamlnjblaagreatdoor", sum := "affc92060cafce0258e9e79a3a87138626ed152c7cec1bab154f637a3fe341af", checked := Tryz.checked }
namespace Rows
def none {H : Type} : Left H := { results := [], args := [] }

/- WHAT THE LISTED PACKAGE-LEVEL VARIABLES READ AS WHEN THE CALL BEGINS. Each datum BY PROGRAM (the guide's laid-datum.mjs) off the statement by which the dump's own 'gosem.cut.vars' lays the variable. In a bare row this is a premise. The card (YtnfbfdamlnjblaaGreatDoorCards.lean) ties it to the program's text. -/
def laid_math_bits_deBruijn32tab {H : Type} : DataW H := .agg [.lit (.int .u8 0), .lit (.int .u8 1), .lit (.int .u8 28), .lit (.int .u8 2), .lit (.int .u8 29), .lit (.int .u8 14), .lit (.int .u8 24), .lit (.int .u8 3), .lit (.int .u8 30), .lit (.int .u8 22), .lit (.int .u8 20), .lit (.int .u8 15), .lit (.int .u8 25), .lit (.int .u8 17), .lit (.int .u8 4), .lit (.int .u8 8), .lit (.int .u8 31), .lit (.int .u8 27), .lit (.int .u8 13), .lit (.int .u8 23), .lit (.int .u8 21), .lit (.int .u8 19), .lit (.int .u8 16), .lit (.int .u8 7), .lit (.int .u8 26), .lit (.int .u8 12), .lit (.int .u8 18), .lit (.int .u8 6), .lit (.int .u8 11), .lit (.int .u8 5), .lit (.int .u8 10), .lit (.int .u8 9)]
def laid_math_bits_deBruijn64tab {H : Type} : DataW H := .agg [.lit (.int .u8 0), .lit (.int .u8 1), .lit (.int .u8 56), .lit (.int .u8 2), .lit (.int .u8 57), .lit (.int .u8 49), .lit (.int .u8 28), .lit (.int .u8 3), .lit (.int .u8 61), .lit (.int .u8 58), .lit (.int .u8 42), .lit (.int .u8 50), .lit (.int .u8 38), .lit (.int .u8 29), .lit (.int .u8 17), .lit (.int .u8 4), .lit (.int .u8 62), .lit (.int .u8 47), .lit (.int .u8 59), .lit (.int .u8 36), .lit (.int .u8 45), .lit (.int .u8 43), .lit (.int .u8 51), .lit (.int .u8 22), .lit (.int .u8 53), .lit (.int .u8 39), .lit (.int .u8 33), .lit (.int .u8 30), .lit (.int .u8 24), .lit (.int .u8 18), .lit (.int .u8 12), .lit (.int .u8 5), .lit (.int .u8 63), .lit (.int .u8 55), .lit (.int .u8 48), .lit (.int .u8 27), .lit (.int .u8 60), .lit (.int .u8 41), .lit (.int .u8 37), .lit (.int .u8 16), .lit (.int .u8 46), .lit (.int .u8 35), .lit (.int .u8 44), .lit (.int .u8 21), .lit (.int .u8 52), .lit (.int .u8 32), .lit (.int .u8 23), .lit (.int .u8 11), .lit (.int .u8 54), .lit (.int .u8 26), .lit (.int .u8 40), .lit (.int .u8 15), .lit (.int .u8 34), .lit (.int .u8 20), .lit (.int .u8 31), .lit (.int .u8 10), .lit (.int .u8 25), .lit (.int .u8 14), .lit (.int .u8 19), .lit (.int .u8 9), .lit (.int .u8 13), .lit (.int .u8 8), .lit (.int .u8 7), .lit (.int .u8 6)]
def laid_internal_strconv_uint64pow10 {H : Type} : DataW H := .agg [.lit (.int .u64 1), .lit (.int .u64 10), .lit (.int .u64 100), .lit (.int .u64 1000), .lit (.int .u64 10000), .lit (.int .u64 100000), .lit (.int .u64 1000000), .lit (.int .u64 10000000), .lit (.int .u64 100000000), .lit (.int .u64 1000000000), .lit (.int .u64 10000000000), .lit (.int .u64 100000000000), .lit (.int .u64 1000000000000), .lit (.int .u64 10000000000000), .lit (.int .u64 100000000000000), .lit (.int .u64 1000000000000000), .lit (.int .u64 10000000000000000), .lit (.int .u64 100000000000000000), .lit (.int .u64 1000000000000000000), .lit (.int .u64 10000000000000000000)]
def laid_unicode_utf8_acceptRanges {H : Type} : DataW H := .agg [.agg [.lit (.int .u8 128), .lit (.int .u8 191)], .agg [.lit (.int .u8 160), .lit (.int .u8 191)], .agg [.lit (.int .u8 128), .lit (.int .u8 159)], .agg [.lit (.int .u8 144), .lit (.int .u8 191)], .agg [.lit (.int .u8 128), .lit (.int .u8 143)], .agg [.lit (.int .u8 0), .lit (.int .u8 0)], .agg [.lit (.int .u8 0), .lit (.int .u8 0)], .agg [.lit (.int .u8 0), .lit (.int .u8 0)], .agg [.lit (.int .u8 0), .lit (.int .u8 0)], .agg [.lit (.int .u8 0), .lit (.int .u8 0)], .agg [.lit (.int .u8 0), .lit (.int .u8 0)], .agg [.lit (.int .u8 0), .lit (.int .u8 0)], .agg [.lit (.int .u8 0), .lit (.int .u8 0)], .agg [.lit (.int .u8 0), .lit (.int .u8 0)], .agg [.lit (.int .u8 0), .lit (.int .u8 0)], .agg [.lit (.int .u8 0), .lit (.int .u8 0)]]
/-- One of Go's own tables, pinned by name: the form's constant. -/
def laid_unicode_utf8_first : DataW Unit := Go.Pinned.utf8First

/-- 'laws.FnExactGeneratorOf': WHATEVER THE INPUT: true; the input reads as it did. -/
def fnExactGeneratorOfSpec : ChangeSpec := { name := "fnExactGeneratorOf", fn := fun _ => fun
  | [d1, d2] => { results := [.lit (.bool true)], args := [d1, d2] }
  | _ => none }
def fnExactGeneratorOfRow : OpenClaim := { program := "ytnfbfdamlnjblaagreatdoor", sum := "affc92060cafce0258e9e79a3a87138626ed152c7cec1bab154f637a3fe341af", func := "loop.example/g03109/laws.FnExactGeneratorOf", spec := "fnExactGeneratorOf", inPlace := ["internal/abi.NoEscape", "internal/bytealg.MakeNoZero"], unfollowed := true, recurses := true, named := ["internal/strconv.uint64pow10", "math/bits.deBruijn32tab", "math/bits.deBruijn64tab"], apart := false, laid := [("math/bits.deBruijn32tab", laid_math_bits_deBruijn32tab), ("math/bits.deBruijn64tab", laid_math_bits_deBruijn64tab), ("internal/strconv.uint64pow10", laid_internal_strconv_uint64pow10)] }
def FnExactGeneratorOfSaid : Prop := fnExactGeneratorOfRow.holds Tryz.pinned (OpenSpec.ofChange fnExactGeneratorOfSpec)

/-- ITS FALSE NEIGHBOUR: 'it returns false'. Refute it at one input. -/
def fnExactGeneratorOfWrong : ChangeSpec := { name := "fnExactGeneratorOf", fn := fun _ => fun
  | [d1, d2] => { results := [.lit (.bool false)], args := [d1, d2] }
  | _ => none }
def FnExactGeneratorOfWrongFalsely : Prop := fnExactGeneratorOfRow.holds Tryz.pinned (OpenSpec.ofChange fnExactGeneratorOfWrong)

/-- 'laws.FnExactAddEnv': WHATEVER THE INPUT: true; the input reads as it did. -/
def fnExactAddEnvSpec : ChangeSpec := { name := "fnExactAddEnv", fn := fun _ => fun
  | [d1, d2, d3, d4] => { results := [.lit (.bool true)], args := [d1, d2, d3, d4] }
  | _ => none }
def fnExactAddEnvRow : OpenClaim := { program := "ytnfbfdamlnjblaagreatdoor", sum := "affc92060cafce0258e9e79a3a87138626ed152c7cec1bab154f637a3fe341af", func := "loop.example/g03109/laws.FnExactAddEnv", spec := "fnExactAddEnv", inPlace := ["internal/abi.NoEscape", "internal/bytealg.MakeNoZero"], unfollowed := true, recurses := true, named := ["internal/strconv.uint64pow10", "math/bits.deBruijn32tab", "math/bits.deBruijn64tab"], apart := false, laid := [("math/bits.deBruijn32tab", laid_math_bits_deBruijn32tab), ("math/bits.deBruijn64tab", laid_math_bits_deBruijn64tab), ("internal/strconv.uint64pow10", laid_internal_strconv_uint64pow10)] }
def FnExactAddEnvSaid : Prop := fnExactAddEnvRow.holds Tryz.pinned (OpenSpec.ofChange fnExactAddEnvSpec)

/-- ITS FALSE NEIGHBOUR: 'it returns false'. Refute it at one input. -/
def fnExactAddEnvWrong : ChangeSpec := { name := "fnExactAddEnv", fn := fun _ => fun
  | [d1, d2, d3, d4] => { results := [.lit (.bool false)], args := [d1, d2, d3, d4] }
  | _ => none }
def FnExactAddEnvWrongFalsely : Prop := fnExactAddEnvRow.holds Tryz.pinned (OpenSpec.ofChange fnExactAddEnvWrong)

/-- 'laws.FnExactAntipodeOf': WHATEVER THE INPUT: true; the input reads as it did. -/
def fnExactAntipodeOfSpec : ChangeSpec := { name := "fnExactAntipodeOf", fn := fun _ => fun
  | [d1, d2] => { results := [.lit (.bool true)], args := [d1, d2] }
  | _ => none }
def fnExactAntipodeOfRow : OpenClaim := { program := "ytnfbfdamlnjblaagreatdoor", sum := "affc92060cafce0258e9e79a3a87138626ed152c7cec1bab154f637a3fe341af", func := "loop.example/g03109/laws.FnExactAntipodeOf", spec := "fnExactAntipodeOf", inPlace := ["internal/abi.NoEscape", "internal/bytealg.MakeNoZero"], unfollowed := true, recurses := true, named := ["internal/strconv.uint64pow10", "math/bits.deBruijn32tab", "math/bits.deBruijn64tab"], apart := false, laid := [("math/bits.deBruijn32tab", laid_math_bits_deBruijn32tab), ("math/bits.deBruijn64tab", laid_math_bits_deBruijn64tab), ("internal/strconv.uint64pow10", laid_internal_strconv_uint64pow10)] }
def FnExactAntipodeOfSaid : Prop := fnExactAntipodeOfRow.holds Tryz.pinned (OpenSpec.ofChange fnExactAntipodeOfSpec)

/-- ITS FALSE NEIGHBOUR: 'it returns false'. Refute it at one input. -/
def fnExactAntipodeOfWrong : ChangeSpec := { name := "fnExactAntipodeOf", fn := fun _ => fun
  | [d1, d2] => { results := [.lit (.bool false)], args := [d1, d2] }
  | _ => none }
def FnExactAntipodeOfWrongFalsely : Prop := fnExactAntipodeOfRow.holds Tryz.pinned (OpenSpec.ofChange fnExactAntipodeOfWrong)

/-- 'laws.FnExactMulEnv': WHATEVER THE INPUT: true; the input reads as it did. -/
def fnExactMulEnvSpec : ChangeSpec := { name := "fnExactMulEnv", fn := fun _ => fun
  | [d1, d2, d3] => { results := [.lit (.bool true)], args := [d1, d2, d3] }
  | _ => none }
def fnExactMulEnvRow : OpenClaim := { program := "ytnfbfdamlnjblaagreatdoor", sum := "affc92060cafce0258e9e79a3a87138626ed152c7cec1bab154f637a3fe341af", func := "loop.example/g03109/laws.FnExactMulEnv", spec := "fnExactMulEnv", inPlace := ["internal/abi.NoEscape", "internal/bytealg.MakeNoZero"], unfollowed := true, recurses := true, named := ["internal/strconv.uint64pow10", "math/bits.deBruijn32tab", "math/bits.deBruijn64tab"], apart := false, laid := [("math/bits.deBruijn32tab", laid_math_bits_deBruijn32tab), ("math/bits.deBruijn64tab", laid_math_bits_deBruijn64tab), ("internal/strconv.uint64pow10", laid_internal_strconv_uint64pow10)] }
def FnExactMulEnvSaid : Prop := fnExactMulEnvRow.holds Tryz.pinned (OpenSpec.ofChange fnExactMulEnvSpec)

/-- ITS FALSE NEIGHBOUR: 'it returns false'. Refute it at one input. -/
def fnExactMulEnvWrong : ChangeSpec := { name := "fnExactMulEnv", fn := fun _ => fun
  | [d1, d2, d3] => { results := [.lit (.bool false)], args := [d1, d2, d3] }
  | _ => none }
def FnExactMulEnvWrongFalsely : Prop := fnExactMulEnvRow.holds Tryz.pinned (OpenSpec.ofChange fnExactMulEnvWrong)

/-- 'laws.FnExactDualCharacter': WHATEVER THE INPUT: true; the input reads as it did. -/
def fnExactDualCharacterSpec : ChangeSpec := { name := "fnExactDualCharacter", fn := fun _ => fun
  | [d1, d2] => { results := [.lit (.bool true)], args := [d1, d2] }
  | _ => none }
def fnExactDualCharacterRow : OpenClaim := { program := "ytnfbfdamlnjblaagreatdoor", sum := "affc92060cafce0258e9e79a3a87138626ed152c7cec1bab154f637a3fe341af", func := "loop.example/g03109/laws.FnExactDualCharacter", spec := "fnExactDualCharacter", inPlace := ["internal/abi.NoEscape", "internal/bytealg.MakeNoZero", "internal/bytealg.CountString", "internal/bytealg.IndexByteString", "internal/bytealg.IndexString"], unfollowed := true, recurses := true, named := ["unicode/utf8.first", "unicode/utf8.acceptRanges", "internal/bytealg.MaxLen", "internal/strconv.uint64pow10", "math/bits.deBruijn32tab", "math/bits.deBruijn64tab"], apart := false, laid := [("math/bits.deBruijn32tab", laid_math_bits_deBruijn32tab), ("math/bits.deBruijn64tab", laid_math_bits_deBruijn64tab), ("internal/strconv.uint64pow10", laid_internal_strconv_uint64pow10), ("unicode/utf8.acceptRanges", laid_unicode_utf8_acceptRanges), ("unicode/utf8.first", laid_unicode_utf8_first)] }
def FnExactDualCharacterSaid : Prop := fnExactDualCharacterRow.holds Tryz.pinned (OpenSpec.ofChange fnExactDualCharacterSpec)

/-- ITS FALSE NEIGHBOUR: 'it returns false'. Refute it at one input. -/
def fnExactDualCharacterWrong : ChangeSpec := { name := "fnExactDualCharacter", fn := fun _ => fun
  | [d1, d2] => { results := [.lit (.bool false)], args := [d1, d2] }
  | _ => none }
def FnExactDualCharacterWrongFalsely : Prop := fnExactDualCharacterRow.holds Tryz.pinned (OpenSpec.ofChange fnExactDualCharacterWrong)

/-- 'laws.FnExactDoubleCharacter': WHATEVER THE INPUT: true; the input reads as it did. -/
def fnExactDoubleCharacterSpec : ChangeSpec := { name := "fnExactDoubleCharacter", fn := fun _ => fun
  | [d1, d2] => { results := [.lit (.bool true)], args := [d1, d2] }
  | _ => none }
def fnExactDoubleCharacterRow : OpenClaim := { program := "ytnfbfdamlnjblaagreatdoor", sum := "affc92060cafce0258e9e79a3a87138626ed152c7cec1bab154f637a3fe341af", func := "loop.example/g03109/laws.FnExactDoubleCharacter", spec := "fnExactDoubleCharacter", inPlace := ["internal/abi.NoEscape", "internal/bytealg.MakeNoZero", "internal/bytealg.CountString", "internal/bytealg.IndexByteString", "internal/bytealg.IndexString"], unfollowed := true, recurses := true, named := ["unicode/utf8.first", "unicode/utf8.acceptRanges", "internal/bytealg.MaxLen", "internal/strconv.uint64pow10", "math/bits.deBruijn32tab", "math/bits.deBruijn64tab"], apart := false, laid := [("math/bits.deBruijn32tab", laid_math_bits_deBruijn32tab), ("math/bits.deBruijn64tab", laid_math_bits_deBruijn64tab), ("internal/strconv.uint64pow10", laid_internal_strconv_uint64pow10), ("unicode/utf8.acceptRanges", laid_unicode_utf8_acceptRanges), ("unicode/utf8.first", laid_unicode_utf8_first)] }
def FnExactDoubleCharacterSaid : Prop := fnExactDoubleCharacterRow.holds Tryz.pinned (OpenSpec.ofChange fnExactDoubleCharacterSpec)

/-- ITS FALSE NEIGHBOUR: 'it returns false'. Refute it at one input. -/
def fnExactDoubleCharacterWrong : ChangeSpec := { name := "fnExactDoubleCharacter", fn := fun _ => fun
  | [d1, d2] => { results := [.lit (.bool false)], args := [d1, d2] }
  | _ => none }
def FnExactDoubleCharacterWrongFalsely : Prop := fnExactDoubleCharacterRow.holds Tryz.pinned (OpenSpec.ofChange fnExactDoubleCharacterWrong)

/-- 'laws.FnExactAddCharacters': WHATEVER THE INPUT: true; the input reads as it did. -/
def fnExactAddCharactersSpec : ChangeSpec := { name := "fnExactAddCharacters", fn := fun _ => fun
  | [d1, d2, d3] => { results := [.lit (.bool true)], args := [d1, d2, d3] }
  | _ => none }
def fnExactAddCharactersRow : OpenClaim := { program := "ytnfbfdamlnjblaagreatdoor", sum := "affc92060cafce0258e9e79a3a87138626ed152c7cec1bab154f637a3fe341af", func := "loop.example/g03109/laws.FnExactAddCharacters", spec := "fnExactAddCharacters", inPlace := ["internal/abi.NoEscape", "internal/bytealg.MakeNoZero", "internal/bytealg.CountString", "internal/bytealg.IndexByteString", "internal/bytealg.IndexString"], unfollowed := true, recurses := true, named := ["unicode/utf8.first", "unicode/utf8.acceptRanges", "internal/bytealg.MaxLen", "internal/strconv.uint64pow10", "math/bits.deBruijn32tab", "math/bits.deBruijn64tab"], apart := false, laid := [("math/bits.deBruijn32tab", laid_math_bits_deBruijn32tab), ("math/bits.deBruijn64tab", laid_math_bits_deBruijn64tab), ("internal/strconv.uint64pow10", laid_internal_strconv_uint64pow10), ("unicode/utf8.acceptRanges", laid_unicode_utf8_acceptRanges), ("unicode/utf8.first", laid_unicode_utf8_first)] }
def FnExactAddCharactersSaid : Prop := fnExactAddCharactersRow.holds Tryz.pinned (OpenSpec.ofChange fnExactAddCharactersSpec)

/-- ITS FALSE NEIGHBOUR: 'it returns false'. Refute it at one input. -/
def fnExactAddCharactersWrong : ChangeSpec := { name := "fnExactAddCharacters", fn := fun _ => fun
  | [d1, d2, d3] => { results := [.lit (.bool false)], args := [d1, d2, d3] }
  | _ => none }
def FnExactAddCharactersWrongFalsely : Prop := fnExactAddCharactersRow.holds Tryz.pinned (OpenSpec.ofChange fnExactAddCharactersWrong)

/-- 'laws.FnExactMulCharacters': WHATEVER THE INPUT: true; the input reads as it did. -/
def fnExactMulCharactersSpec : ChangeSpec := { name := "fnExactMulCharacters", fn := fun _ => fun
  | [d1, d2, d3] => { results := [.lit (.bool true)], args := [d1, d2, d3] }
  | _ => none }
def fnExactMulCharactersRow : OpenClaim := { program := "ytnfbfdamlnjblaagreatdoor", sum := "affc92060cafce0258e9e79a3a87138626ed152c7cec1bab154f637a3fe341af", func := "loop.example/g03109/laws.FnExactMulCharacters", spec := "fnExactMulCharacters", inPlace := ["internal/abi.NoEscape", "internal/bytealg.MakeNoZero", "internal/bytealg.CountString", "internal/bytealg.IndexByteString", "internal/bytealg.IndexString"], unfollowed := true, recurses := true, named := ["unicode/utf8.first", "unicode/utf8.acceptRanges", "internal/bytealg.MaxLen", "internal/strconv.uint64pow10", "math/bits.deBruijn32tab", "math/bits.deBruijn64tab"], apart := false, laid := [("math/bits.deBruijn32tab", laid_math_bits_deBruijn32tab), ("math/bits.deBruijn64tab", laid_math_bits_deBruijn64tab), ("internal/strconv.uint64pow10", laid_internal_strconv_uint64pow10), ("unicode/utf8.acceptRanges", laid_unicode_utf8_acceptRanges), ("unicode/utf8.first", laid_unicode_utf8_first)] }
def FnExactMulCharactersSaid : Prop := fnExactMulCharactersRow.holds Tryz.pinned (OpenSpec.ofChange fnExactMulCharactersSpec)

/-- ITS FALSE NEIGHBOUR: 'it returns false'. Refute it at one input. -/
def fnExactMulCharactersWrong : ChangeSpec := { name := "fnExactMulCharacters", fn := fun _ => fun
  | [d1, d2, d3] => { results := [.lit (.bool false)], args := [d1, d2, d3] }
  | _ => none }
def FnExactMulCharactersWrongFalsely : Prop := fnExactMulCharactersRow.holds Tryz.pinned (OpenSpec.ofChange fnExactMulCharactersWrong)

/-- 'laws.FnExactBranchTo': WHATEVER THE INPUT: true; the input reads as it did. -/
def fnExactBranchToSpec : ChangeSpec := { name := "fnExactBranchTo", fn := fun _ => fun
  | [d1, d2, d3] => { results := [.lit (.bool true)], args := [d1, d2, d3] }
  | _ => none }
def fnExactBranchToRow : OpenClaim := { program := "ytnfbfdamlnjblaagreatdoor", sum := "affc92060cafce0258e9e79a3a87138626ed152c7cec1bab154f637a3fe341af", func := "loop.example/g03109/laws.FnExactBranchTo", spec := "fnExactBranchTo", inPlace := ["internal/abi.NoEscape", "internal/bytealg.MakeNoZero", "internal/bytealg.CountString", "internal/bytealg.IndexByteString", "internal/bytealg.IndexString"], unfollowed := true, recurses := true, named := ["unicode/utf8.first", "unicode/utf8.acceptRanges", "internal/bytealg.MaxLen", "internal/strconv.uint64pow10", "math/bits.deBruijn32tab", "math/bits.deBruijn64tab"], apart := false, laid := [("math/bits.deBruijn32tab", laid_math_bits_deBruijn32tab), ("math/bits.deBruijn64tab", laid_math_bits_deBruijn64tab), ("internal/strconv.uint64pow10", laid_internal_strconv_uint64pow10), ("unicode/utf8.acceptRanges", laid_unicode_utf8_acceptRanges), ("unicode/utf8.first", laid_unicode_utf8_first)] }
def FnExactBranchToSaid : Prop := fnExactBranchToRow.holds Tryz.pinned (OpenSpec.ofChange fnExactBranchToSpec)

/-- ITS FALSE NEIGHBOUR: 'it returns false'. Refute it at one input. -/
def fnExactBranchToWrong : ChangeSpec := { name := "fnExactBranchTo", fn := fun _ => fun
  | [d1, d2, d3] => { results := [.lit (.bool false)], args := [d1, d2, d3] }
  | _ => none }
def FnExactBranchToWrongFalsely : Prop := fnExactBranchToRow.holds Tryz.pinned (OpenSpec.ofChange fnExactBranchToWrong)

/-- 'laws.FnExactSquareParts': WHATEVER THE INPUT: true; the input reads as it did. -/
def fnExactSquarePartsSpec : ChangeSpec := { name := "fnExactSquareParts", fn := fun _ => fun
  | [d1, d2] => { results := [.lit (.bool true)], args := [d1, d2] }
  | _ => none }
def fnExactSquarePartsRow : OpenClaim := { program := "ytnfbfdamlnjblaagreatdoor", sum := "affc92060cafce0258e9e79a3a87138626ed152c7cec1bab154f637a3fe341af", func := "loop.example/g03109/laws.FnExactSquareParts", spec := "fnExactSquareParts", inPlace := ["internal/abi.NoEscape", "internal/bytealg.MakeNoZero", "internal/bytealg.CountString", "internal/bytealg.IndexByteString", "internal/bytealg.IndexString"], unfollowed := true, recurses := true, named := ["unicode/utf8.first", "unicode/utf8.acceptRanges", "internal/bytealg.MaxLen", "internal/strconv.uint64pow10", "math/bits.deBruijn32tab", "math/bits.deBruijn64tab"], apart := false, laid := [("math/bits.deBruijn32tab", laid_math_bits_deBruijn32tab), ("math/bits.deBruijn64tab", laid_math_bits_deBruijn64tab), ("internal/strconv.uint64pow10", laid_internal_strconv_uint64pow10), ("unicode/utf8.acceptRanges", laid_unicode_utf8_acceptRanges), ("unicode/utf8.first", laid_unicode_utf8_first)] }
def FnExactSquarePartsSaid : Prop := fnExactSquarePartsRow.holds Tryz.pinned (OpenSpec.ofChange fnExactSquarePartsSpec)

/-- ITS FALSE NEIGHBOUR: 'it returns false'. Refute it at one input. -/
def fnExactSquarePartsWrong : ChangeSpec := { name := "fnExactSquareParts", fn := fun _ => fun
  | [d1, d2] => { results := [.lit (.bool false)], args := [d1, d2] }
  | _ => none }
def FnExactSquarePartsWrongFalsely : Prop := fnExactSquarePartsRow.holds Tryz.pinned (OpenSpec.ofChange fnExactSquarePartsWrong)

/- THE SECOND FORM. 'bulk': how many values and letters a reading holds, each counted each time it is reached (what is shared counts as often as it is met; a slice's spare places count too). A statement '..UptoSaid' is the law's where the arguments, and the package variables that the reading takes, are together of bulk at most 1048576: NARROWER than '..Said'. Prove '..Said' where nothing that the law and all that it calls make is longer than what came in: it says more and counts as full. Else prove '..UptoSaid'. A law counts once. -/
mutual
def uptoBulk {H : Type} : DataW H → Nat
  | .lit (.string bytes) => bytes.length + 1
  | .lit _ => 1
  | .nil => 1
  | .ptr d => uptoBulk d + 1
  | .slice elems spare => uptoBulkAll elems + uptoBulkAll spare + 1
  | .agg parts => uptoBulkAll parts + 1
  | .iface _ d => uptoBulk d + 1
  | .map entries => uptoBulkEntries entries + 1
  | .held _ => 1
def uptoBulkAll {H : Type} : List (DataW H) → Nat
  | [] => 0
  | d :: r => uptoBulk d + uptoBulkAll r
def uptoBulkEntries {H : Type} : List (Lit × DataW H) → Nat
  | [] => 0
  | x :: r => uptoBulkEntry x + uptoBulkEntries r
def uptoBulkEntry {H : Type} : Lit × DataW H → Nat
  | (.string bytes, d) => bytes.length + uptoBulk d + 1
  | (_, d) => uptoBulk d + 1
 end
def uptoSmall : (H : Type) → List (DataW H) → Bool := fun _ ds => decide (uptoBulkAll ds ≤ 1048576)
def OpenSpec.upto (s : _root_.Go.ChangeSpec) : _root_.Go.OpenSpec := { _root_.Go.OpenSpec.ofChange s with cond := some uptoSmall }

/-- 'laws.FnExactGeneratorOf', WHERE WHAT IT READS IS OF BULK AT MOST 1048576: true; the input reads as it did. -/
def fnExactGeneratorOfUptoRow : OpenClaim := { program := "ytnfbfdamlnjblaagreatdoor", sum := "affc92060cafce0258e9e79a3a87138626ed152c7cec1bab154f637a3fe341af", func := "loop.example/g03109/laws.FnExactGeneratorOf", spec := "fnExactGeneratorOf", inPlace := ["internal/abi.NoEscape", "internal/bytealg.MakeNoZero"], unfollowed := true, recurses := true, named := ["internal/strconv.uint64pow10", "math/bits.deBruijn32tab", "math/bits.deBruijn64tab"], apart := false, laid := [("math/bits.deBruijn32tab", laid_math_bits_deBruijn32tab), ("math/bits.deBruijn64tab", laid_math_bits_deBruijn64tab), ("internal/strconv.uint64pow10", laid_internal_strconv_uint64pow10)], narrowed := true }
def FnExactGeneratorOfUptoSaid : Prop := fnExactGeneratorOfUptoRow.holds Tryz.pinned (OpenSpec.upto fnExactGeneratorOfSpec)

/-- 'laws.FnExactAddEnv', WHERE WHAT IT READS IS OF BULK AT MOST 1048576: true; the input reads as it did. -/
def fnExactAddEnvUptoRow : OpenClaim := { program := "ytnfbfdamlnjblaagreatdoor", sum := "affc92060cafce0258e9e79a3a87138626ed152c7cec1bab154f637a3fe341af", func := "loop.example/g03109/laws.FnExactAddEnv", spec := "fnExactAddEnv", inPlace := ["internal/abi.NoEscape", "internal/bytealg.MakeNoZero"], unfollowed := true, recurses := true, named := ["internal/strconv.uint64pow10", "math/bits.deBruijn32tab", "math/bits.deBruijn64tab"], apart := false, laid := [("math/bits.deBruijn32tab", laid_math_bits_deBruijn32tab), ("math/bits.deBruijn64tab", laid_math_bits_deBruijn64tab), ("internal/strconv.uint64pow10", laid_internal_strconv_uint64pow10)], narrowed := true }
def FnExactAddEnvUptoSaid : Prop := fnExactAddEnvUptoRow.holds Tryz.pinned (OpenSpec.upto fnExactAddEnvSpec)

/-- 'laws.FnExactAntipodeOf', WHERE WHAT IT READS IS OF BULK AT MOST 1048576: true; the input reads as it did. -/
def fnExactAntipodeOfUptoRow : OpenClaim := { program := "ytnfbfdamlnjblaagreatdoor", sum := "affc92060cafce0258e9e79a3a87138626ed152c7cec1bab154f637a3fe341af", func := "loop.example/g03109/laws.FnExactAntipodeOf", spec := "fnExactAntipodeOf", inPlace := ["internal/abi.NoEscape", "internal/bytealg.MakeNoZero"], unfollowed := true, recurses := true, named := ["internal/strconv.uint64pow10", "math/bits.deBruijn32tab", "math/bits.deBruijn64tab"], apart := false, laid := [("math/bits.deBruijn32tab", laid_math_bits_deBruijn32tab), ("math/bits.deBruijn64tab", laid_math_bits_deBruijn64tab), ("internal/strconv.uint64pow10", laid_internal_strconv_uint64pow10)], narrowed := true }
def FnExactAntipodeOfUptoSaid : Prop := fnExactAntipodeOfUptoRow.holds Tryz.pinned (OpenSpec.upto fnExactAntipodeOfSpec)

/-- 'laws.FnExactMulEnv', WHERE WHAT IT READS IS OF BULK AT MOST 1048576: true; the input reads as it did. -/
def fnExactMulEnvUptoRow : OpenClaim := { program := "ytnfbfdamlnjblaagreatdoor", sum := "affc92060cafce0258e9e79a3a87138626ed152c7cec1bab154f637a3fe341af", func := "loop.example/g03109/laws.FnExactMulEnv", spec := "fnExactMulEnv", inPlace := ["internal/abi.NoEscape", "internal/bytealg.MakeNoZero"], unfollowed := true, recurses := true, named := ["internal/strconv.uint64pow10", "math/bits.deBruijn32tab", "math/bits.deBruijn64tab"], apart := false, laid := [("math/bits.deBruijn32tab", laid_math_bits_deBruijn32tab), ("math/bits.deBruijn64tab", laid_math_bits_deBruijn64tab), ("internal/strconv.uint64pow10", laid_internal_strconv_uint64pow10)], narrowed := true }
def FnExactMulEnvUptoSaid : Prop := fnExactMulEnvUptoRow.holds Tryz.pinned (OpenSpec.upto fnExactMulEnvSpec)

/-- 'laws.FnExactDualCharacter', WHERE WHAT IT READS IS OF BULK AT MOST 1048576: true; the input reads as it did. -/
def fnExactDualCharacterUptoRow : OpenClaim := { program := "ytnfbfdamlnjblaagreatdoor", sum := "affc92060cafce0258e9e79a3a87138626ed152c7cec1bab154f637a3fe341af", func := "loop.example/g03109/laws.FnExactDualCharacter", spec := "fnExactDualCharacter", inPlace := ["internal/abi.NoEscape", "internal/bytealg.MakeNoZero", "internal/bytealg.CountString", "internal/bytealg.IndexByteString", "internal/bytealg.IndexString"], unfollowed := true, recurses := true, named := ["unicode/utf8.first", "unicode/utf8.acceptRanges", "internal/bytealg.MaxLen", "internal/strconv.uint64pow10", "math/bits.deBruijn32tab", "math/bits.deBruijn64tab"], apart := false, laid := [("math/bits.deBruijn32tab", laid_math_bits_deBruijn32tab), ("math/bits.deBruijn64tab", laid_math_bits_deBruijn64tab), ("internal/strconv.uint64pow10", laid_internal_strconv_uint64pow10), ("unicode/utf8.acceptRanges", laid_unicode_utf8_acceptRanges), ("unicode/utf8.first", laid_unicode_utf8_first)], narrowed := true }
def FnExactDualCharacterUptoSaid : Prop := fnExactDualCharacterUptoRow.holds Tryz.pinned (OpenSpec.upto fnExactDualCharacterSpec)

/-- 'laws.FnExactDoubleCharacter', WHERE WHAT IT READS IS OF BULK AT MOST 1048576: true; the input reads as it did. -/
def fnExactDoubleCharacterUptoRow : OpenClaim := { program := "ytnfbfdamlnjblaagreatdoor", sum := "affc92060cafce0258e9e79a3a87138626ed152c7cec1bab154f637a3fe341af", func := "loop.example/g03109/laws.FnExactDoubleCharacter", spec := "fnExactDoubleCharacter", inPlace := ["internal/abi.NoEscape", "internal/bytealg.MakeNoZero", "internal/bytealg.CountString", "internal/bytealg.IndexByteString", "internal/bytealg.IndexString"], unfollowed := true, recurses := true, named := ["unicode/utf8.first", "unicode/utf8.acceptRanges", "internal/bytealg.MaxLen", "internal/strconv.uint64pow10", "math/bits.deBruijn32tab", "math/bits.deBruijn64tab"], apart := false, laid := [("math/bits.deBruijn32tab", laid_math_bits_deBruijn32tab), ("math/bits.deBruijn64tab", laid_math_bits_deBruijn64tab), ("internal/strconv.uint64pow10", laid_internal_strconv_uint64pow10), ("unicode/utf8.acceptRanges", laid_unicode_utf8_acceptRanges), ("unicode/utf8.first", laid_unicode_utf8_first)], narrowed := true }
def FnExactDoubleCharacterUptoSaid : Prop := fnExactDoubleCharacterUptoRow.holds Tryz.pinned (OpenSpec.upto fnExactDoubleCharacterSpec)

/-- 'laws.FnExactAddCharacters', WHERE WHAT IT READS IS OF BULK AT MOST 1048576: true; the input reads as it did. -/
def fnExactAddCharactersUptoRow : OpenClaim := { program := "ytnfbfdamlnjblaagreatdoor", sum := "affc92060cafce0258e9e79a3a87138626ed152c7cec1bab154f637a3fe341af", func := "loop.example/g03109/laws.FnExactAddCharacters", spec := "fnExactAddCharacters", inPlace := ["internal/abi.NoEscape", "internal/bytealg.MakeNoZero", "internal/bytealg.CountString", "internal/bytealg.IndexByteString", "internal/bytealg.IndexString"], unfollowed := true, recurses := true, named := ["unicode/utf8.first", "unicode/utf8.acceptRanges", "internal/bytealg.MaxLen", "internal/strconv.uint64pow10", "math/bits.deBruijn32tab", "math/bits.deBruijn64tab"], apart := false, laid := [("math/bits.deBruijn32tab", laid_math_bits_deBruijn32tab), ("math/bits.deBruijn64tab", laid_math_bits_deBruijn64tab), ("internal/strconv.uint64pow10", laid_internal_strconv_uint64pow10), ("unicode/utf8.acceptRanges", laid_unicode_utf8_acceptRanges), ("unicode/utf8.first", laid_unicode_utf8_first)], narrowed := true }
def FnExactAddCharactersUptoSaid : Prop := fnExactAddCharactersUptoRow.holds Tryz.pinned (OpenSpec.upto fnExactAddCharactersSpec)

/-- 'laws.FnExactMulCharacters', WHERE WHAT IT READS IS OF BULK AT MOST 1048576: true; the input reads as it did. -/
def fnExactMulCharactersUptoRow : OpenClaim := { program := "ytnfbfdamlnjblaagreatdoor", sum := "affc92060cafce0258e9e79a3a87138626ed152c7cec1bab154f637a3fe341af", func := "loop.example/g03109/laws.FnExactMulCharacters", spec := "fnExactMulCharacters", inPlace := ["internal/abi.NoEscape", "internal/bytealg.MakeNoZero", "internal/bytealg.CountString", "internal/bytealg.IndexByteString", "internal/bytealg.IndexString"], unfollowed := true, recurses := true, named := ["unicode/utf8.first", "unicode/utf8.acceptRanges", "internal/bytealg.MaxLen", "internal/strconv.uint64pow10", "math/bits.deBruijn32tab", "math/bits.deBruijn64tab"], apart := false, laid := [("math/bits.deBruijn32tab", laid_math_bits_deBruijn32tab), ("math/bits.deBruijn64tab", laid_math_bits_deBruijn64tab), ("internal/strconv.uint64pow10", laid_internal_strconv_uint64pow10), ("unicode/utf8.acceptRanges", laid_unicode_utf8_acceptRanges), ("unicode/utf8.first", laid_unicode_utf8_first)], narrowed := true }
def FnExactMulCharactersUptoSaid : Prop := fnExactMulCharactersUptoRow.holds Tryz.pinned (OpenSpec.upto fnExactMulCharactersSpec)

/-- 'laws.FnExactBranchTo', WHERE WHAT IT READS IS OF BULK AT MOST 1048576: true; the input reads as it did. -/
def fnExactBranchToUptoRow : OpenClaim := { program := "ytnfbfdamlnjblaagreatdoor", sum := "affc92060cafce0258e9e79a3a87138626ed152c7cec1bab154f637a3fe341af", func := "loop.example/g03109/laws.FnExactBranchTo", spec := "fnExactBranchTo", inPlace := ["internal/abi.NoEscape", "internal/bytealg.MakeNoZero", "internal/bytealg.CountString", "internal/bytealg.IndexByteString", "internal/bytealg.IndexString"], unfollowed := true, recurses := true, named := ["unicode/utf8.first", "unicode/utf8.acceptRanges", "internal/bytealg.MaxLen", "internal/strconv.uint64pow10", "math/bits.deBruijn32tab", "math/bits.deBruijn64tab"], apart := false, laid := [("math/bits.deBruijn32tab", laid_math_bits_deBruijn32tab), ("math/bits.deBruijn64tab", laid_math_bits_deBruijn64tab), ("internal/strconv.uint64pow10", laid_internal_strconv_uint64pow10), ("unicode/utf8.acceptRanges", laid_unicode_utf8_acceptRanges), ("unicode/utf8.first", laid_unicode_utf8_first)], narrowed := true }
def FnExactBranchToUptoSaid : Prop := fnExactBranchToUptoRow.holds Tryz.pinned (OpenSpec.upto fnExactBranchToSpec)

/-- 'laws.FnExactSquareParts', WHERE WHAT IT READS IS OF BULK AT MOST 1048576: true; the input reads as it did. -/
def fnExactSquarePartsUptoRow : OpenClaim := { program := "ytnfbfdamlnjblaagreatdoor", sum := "affc92060cafce0258e9e79a3a87138626ed152c7cec1bab154f637a3fe341af", func := "loop.example/g03109/laws.FnExactSquareParts", spec := "fnExactSquareParts", inPlace := ["internal/abi.NoEscape", "internal/bytealg.MakeNoZero", "internal/bytealg.CountString", "internal/bytealg.IndexByteString", "internal/bytealg.IndexString"], unfollowed := true, recurses := true, named := ["unicode/utf8.first", "unicode/utf8.acceptRanges", "internal/bytealg.MaxLen", "internal/strconv.uint64pow10", "math/bits.deBruijn32tab", "math/bits.deBruijn64tab"], apart := false, laid := [("math/bits.deBruijn32tab", laid_math_bits_deBruijn32tab), ("math/bits.deBruijn64tab", laid_math_bits_deBruijn64tab), ("internal/strconv.uint64pow10", laid_internal_strconv_uint64pow10), ("unicode/utf8.acceptRanges", laid_unicode_utf8_acceptRanges), ("unicode/utf8.first", laid_unicode_utf8_first)], narrowed := true }
def FnExactSquarePartsUptoSaid : Prop := fnExactSquarePartsUptoRow.holds Tryz.pinned (OpenSpec.upto fnExactSquarePartsSpec)

end Rows
end Go.Proofs.YtnfbfdamlnjblaaGreatDoor
