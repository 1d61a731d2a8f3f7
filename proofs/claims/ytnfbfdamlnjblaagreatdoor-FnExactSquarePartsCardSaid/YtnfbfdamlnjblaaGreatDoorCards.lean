/-
  DERIVED. GIVEN WITH THE SEED: THE CARDS: each row of YtnfbfdamlnjblaaGreatDoorRows.lean that lists a variable, with what it lists TIED to the program's text (the seventh form; the later family's looks); each row that meets fmt, with fmt's text TOLD by the authors' own Lean function (tested against real Go, not proved from fmt's source: count such statements apart). THE CARD IS WHAT COUNTS. Prove the row's statement (the work); the ties are given (YtnfbfdamlnjblaaGreatDoorTie.lean); close each card by the builder's one call (the guide's Derived/Test/ToyasCard.lean, 'card_holds'). Laid BY PROGRAM, IN A SANDBOX (cutbox-door.mjs). By AI agents, Wed Nov 11 2026. No macro, syntax, notation, axiom, sorry.
-/
import Derived.Test.YtnfbfdamlnjblaaGreatDoorRows
import GoSem.ClaimSeven
namespace Go.Proofs.YtnfbfdamlnjblaaGreatDoor
namespace Rows

/-- THE TIED CARD OF 'laws.FnExactGeneratorOf'. -/
def fnExactGeneratorOfCard : Claim7 := { stood := { row := fnExactGeneratorOfRow, standIns := [], harness := (true, "2bb24f827eaf27406da9a1b9eb91d6f55948678fe2e32340553321730c121dc8"), looks := false }, kinds := [], alts := [], laidByText := true, laidKinds := [.data, .data, .data], laidTests := true, laidLooks := .later }
def FnExactGeneratorOfCardSaid : Prop := Claim7.holds Tryz.pinned (.plain (OpenSpec.ofChange fnExactGeneratorOfSpec)) fnExactGeneratorOfCard

/-- THE TIED CARD OF 'laws.FnExactAddEnv'. -/
def fnExactAddEnvCard : Claim7 := { stood := { row := fnExactAddEnvRow, standIns := [], harness := (true, "2bb24f827eaf27406da9a1b9eb91d6f55948678fe2e32340553321730c121dc8"), looks := false }, kinds := [], alts := [], laidByText := true, laidKinds := [.data, .data, .data], laidTests := true, laidLooks := .later }
def FnExactAddEnvCardSaid : Prop := Claim7.holds Tryz.pinned (.plain (OpenSpec.ofChange fnExactAddEnvSpec)) fnExactAddEnvCard

/-- THE TIED CARD OF 'laws.FnExactAntipodeOf'. -/
def fnExactAntipodeOfCard : Claim7 := { stood := { row := fnExactAntipodeOfRow, standIns := [], harness := (true, "2bb24f827eaf27406da9a1b9eb91d6f55948678fe2e32340553321730c121dc8"), looks := false }, kinds := [], alts := [], laidByText := true, laidKinds := [.data, .data, .data], laidTests := true, laidLooks := .later }
def FnExactAntipodeOfCardSaid : Prop := Claim7.holds Tryz.pinned (.plain (OpenSpec.ofChange fnExactAntipodeOfSpec)) fnExactAntipodeOfCard

/-- THE TIED CARD OF 'laws.FnExactMulEnv'. -/
def fnExactMulEnvCard : Claim7 := { stood := { row := fnExactMulEnvRow, standIns := [], harness := (true, "2bb24f827eaf27406da9a1b9eb91d6f55948678fe2e32340553321730c121dc8"), looks := false }, kinds := [], alts := [], laidByText := true, laidKinds := [.data, .data, .data], laidTests := true, laidLooks := .later }
def FnExactMulEnvCardSaid : Prop := Claim7.holds Tryz.pinned (.plain (OpenSpec.ofChange fnExactMulEnvSpec)) fnExactMulEnvCard

/-- THE TIED CARD OF 'laws.FnExactDualCharacter'. -/
def fnExactDualCharacterCard : Claim7 := { stood := { row := fnExactDualCharacterRow, standIns := [], harness := (true, "2bb24f827eaf27406da9a1b9eb91d6f55948678fe2e32340553321730c121dc8"), looks := false }, kinds := [], alts := [], laidByText := true, laidKinds := [.data, .data, .data, .data, .pinned], laidTests := true, laidLooks := .later }
def FnExactDualCharacterCardSaid : Prop := Claim7.holds Tryz.pinned (.plain (OpenSpec.ofChange fnExactDualCharacterSpec)) fnExactDualCharacterCard

/-- THE TIED CARD OF 'laws.FnExactDoubleCharacter'. -/
def fnExactDoubleCharacterCard : Claim7 := { stood := { row := fnExactDoubleCharacterRow, standIns := [], harness := (true, "2bb24f827eaf27406da9a1b9eb91d6f55948678fe2e32340553321730c121dc8"), looks := false }, kinds := [], alts := [], laidByText := true, laidKinds := [.data, .data, .data, .data, .pinned], laidTests := true, laidLooks := .later }
def FnExactDoubleCharacterCardSaid : Prop := Claim7.holds Tryz.pinned (.plain (OpenSpec.ofChange fnExactDoubleCharacterSpec)) fnExactDoubleCharacterCard

/-- THE TIED CARD OF 'laws.FnExactAddCharacters'. -/
def fnExactAddCharactersCard : Claim7 := { stood := { row := fnExactAddCharactersRow, standIns := [], harness := (true, "2bb24f827eaf27406da9a1b9eb91d6f55948678fe2e32340553321730c121dc8"), looks := false }, kinds := [], alts := [], laidByText := true, laidKinds := [.data, .data, .data, .data, .pinned], laidTests := true, laidLooks := .later }
def FnExactAddCharactersCardSaid : Prop := Claim7.holds Tryz.pinned (.plain (OpenSpec.ofChange fnExactAddCharactersSpec)) fnExactAddCharactersCard

/-- THE TIED CARD OF 'laws.FnExactMulCharacters'. -/
def fnExactMulCharactersCard : Claim7 := { stood := { row := fnExactMulCharactersRow, standIns := [], harness := (true, "2bb24f827eaf27406da9a1b9eb91d6f55948678fe2e32340553321730c121dc8"), looks := false }, kinds := [], alts := [], laidByText := true, laidKinds := [.data, .data, .data, .data, .pinned], laidTests := true, laidLooks := .later }
def FnExactMulCharactersCardSaid : Prop := Claim7.holds Tryz.pinned (.plain (OpenSpec.ofChange fnExactMulCharactersSpec)) fnExactMulCharactersCard

/-- THE TIED CARD OF 'laws.FnExactBranchTo'. -/
def fnExactBranchToCard : Claim7 := { stood := { row := fnExactBranchToRow, standIns := [], harness := (true, "2bb24f827eaf27406da9a1b9eb91d6f55948678fe2e32340553321730c121dc8"), looks := false }, kinds := [], alts := [], laidByText := true, laidKinds := [.data, .data, .data, .data, .pinned], laidTests := true, laidLooks := .later }
def FnExactBranchToCardSaid : Prop := Claim7.holds Tryz.pinned (.plain (OpenSpec.ofChange fnExactBranchToSpec)) fnExactBranchToCard

/-- THE TIED CARD OF 'laws.FnExactSquareParts'. -/
def fnExactSquarePartsCard : Claim7 := { stood := { row := fnExactSquarePartsRow, standIns := [], harness := (true, "2bb24f827eaf27406da9a1b9eb91d6f55948678fe2e32340553321730c121dc8"), looks := false }, kinds := [], alts := [], laidByText := true, laidKinds := [.data, .data, .data, .data, .pinned], laidTests := true, laidLooks := .later }
def FnExactSquarePartsCardSaid : Prop := Claim7.holds Tryz.pinned (.plain (OpenSpec.ofChange fnExactSquarePartsSpec)) fnExactSquarePartsCard

/-- THE SECOND FORM's CARD OF 'laws.FnExactGeneratorOf'. -/
def fnExactGeneratorOfUptoCard : Claim7 := { stood := { row := fnExactGeneratorOfUptoRow, standIns := [], harness := (true, "2bb24f827eaf27406da9a1b9eb91d6f55948678fe2e32340553321730c121dc8"), looks := false }, kinds := [], alts := [], laidByText := true, laidKinds := [.data, .data, .data], laidTests := true, laidLooks := .later }
def FnExactGeneratorOfUptoCardSaid : Prop := Claim7.holds Tryz.pinned (.plain (OpenSpec.upto fnExactGeneratorOfSpec)) fnExactGeneratorOfUptoCard

/-- THE SECOND FORM's CARD OF 'laws.FnExactAddEnv'. -/
def fnExactAddEnvUptoCard : Claim7 := { stood := { row := fnExactAddEnvUptoRow, standIns := [], harness := (true, "2bb24f827eaf27406da9a1b9eb91d6f55948678fe2e32340553321730c121dc8"), looks := false }, kinds := [], alts := [], laidByText := true, laidKinds := [.data, .data, .data], laidTests := true, laidLooks := .later }
def FnExactAddEnvUptoCardSaid : Prop := Claim7.holds Tryz.pinned (.plain (OpenSpec.upto fnExactAddEnvSpec)) fnExactAddEnvUptoCard

/-- THE SECOND FORM's CARD OF 'laws.FnExactAntipodeOf'. -/
def fnExactAntipodeOfUptoCard : Claim7 := { stood := { row := fnExactAntipodeOfUptoRow, standIns := [], harness := (true, "2bb24f827eaf27406da9a1b9eb91d6f55948678fe2e32340553321730c121dc8"), looks := false }, kinds := [], alts := [], laidByText := true, laidKinds := [.data, .data, .data], laidTests := true, laidLooks := .later }
def FnExactAntipodeOfUptoCardSaid : Prop := Claim7.holds Tryz.pinned (.plain (OpenSpec.upto fnExactAntipodeOfSpec)) fnExactAntipodeOfUptoCard

/-- THE SECOND FORM's CARD OF 'laws.FnExactMulEnv'. -/
def fnExactMulEnvUptoCard : Claim7 := { stood := { row := fnExactMulEnvUptoRow, standIns := [], harness := (true, "2bb24f827eaf27406da9a1b9eb91d6f55948678fe2e32340553321730c121dc8"), looks := false }, kinds := [], alts := [], laidByText := true, laidKinds := [.data, .data, .data], laidTests := true, laidLooks := .later }
def FnExactMulEnvUptoCardSaid : Prop := Claim7.holds Tryz.pinned (.plain (OpenSpec.upto fnExactMulEnvSpec)) fnExactMulEnvUptoCard

/-- THE SECOND FORM's CARD OF 'laws.FnExactDualCharacter'. -/
def fnExactDualCharacterUptoCard : Claim7 := { stood := { row := fnExactDualCharacterUptoRow, standIns := [], harness := (true, "2bb24f827eaf27406da9a1b9eb91d6f55948678fe2e32340553321730c121dc8"), looks := false }, kinds := [], alts := [], laidByText := true, laidKinds := [.data, .data, .data, .data, .pinned], laidTests := true, laidLooks := .later }
def FnExactDualCharacterUptoCardSaid : Prop := Claim7.holds Tryz.pinned (.plain (OpenSpec.upto fnExactDualCharacterSpec)) fnExactDualCharacterUptoCard

/-- THE SECOND FORM's CARD OF 'laws.FnExactDoubleCharacter'. -/
def fnExactDoubleCharacterUptoCard : Claim7 := { stood := { row := fnExactDoubleCharacterUptoRow, standIns := [], harness := (true, "2bb24f827eaf27406da9a1b9eb91d6f55948678fe2e32340553321730c121dc8"), looks := false }, kinds := [], alts := [], laidByText := true, laidKinds := [.data, .data, .data, .data, .pinned], laidTests := true, laidLooks := .later }
def FnExactDoubleCharacterUptoCardSaid : Prop := Claim7.holds Tryz.pinned (.plain (OpenSpec.upto fnExactDoubleCharacterSpec)) fnExactDoubleCharacterUptoCard

/-- THE SECOND FORM's CARD OF 'laws.FnExactAddCharacters'. -/
def fnExactAddCharactersUptoCard : Claim7 := { stood := { row := fnExactAddCharactersUptoRow, standIns := [], harness := (true, "2bb24f827eaf27406da9a1b9eb91d6f55948678fe2e32340553321730c121dc8"), looks := false }, kinds := [], alts := [], laidByText := true, laidKinds := [.data, .data, .data, .data, .pinned], laidTests := true, laidLooks := .later }
def FnExactAddCharactersUptoCardSaid : Prop := Claim7.holds Tryz.pinned (.plain (OpenSpec.upto fnExactAddCharactersSpec)) fnExactAddCharactersUptoCard

/-- THE SECOND FORM's CARD OF 'laws.FnExactMulCharacters'. -/
def fnExactMulCharactersUptoCard : Claim7 := { stood := { row := fnExactMulCharactersUptoRow, standIns := [], harness := (true, "2bb24f827eaf27406da9a1b9eb91d6f55948678fe2e32340553321730c121dc8"), looks := false }, kinds := [], alts := [], laidByText := true, laidKinds := [.data, .data, .data, .data, .pinned], laidTests := true, laidLooks := .later }
def FnExactMulCharactersUptoCardSaid : Prop := Claim7.holds Tryz.pinned (.plain (OpenSpec.upto fnExactMulCharactersSpec)) fnExactMulCharactersUptoCard

/-- THE SECOND FORM's CARD OF 'laws.FnExactBranchTo'. -/
def fnExactBranchToUptoCard : Claim7 := { stood := { row := fnExactBranchToUptoRow, standIns := [], harness := (true, "2bb24f827eaf27406da9a1b9eb91d6f55948678fe2e32340553321730c121dc8"), looks := false }, kinds := [], alts := [], laidByText := true, laidKinds := [.data, .data, .data, .data, .pinned], laidTests := true, laidLooks := .later }
def FnExactBranchToUptoCardSaid : Prop := Claim7.holds Tryz.pinned (.plain (OpenSpec.upto fnExactBranchToSpec)) fnExactBranchToUptoCard

/-- THE SECOND FORM's CARD OF 'laws.FnExactSquareParts'. -/
def fnExactSquarePartsUptoCard : Claim7 := { stood := { row := fnExactSquarePartsUptoRow, standIns := [], harness := (true, "2bb24f827eaf27406da9a1b9eb91d6f55948678fe2e32340553321730c121dc8"), looks := false }, kinds := [], alts := [], laidByText := true, laidKinds := [.data, .data, .data, .data, .pinned], laidTests := true, laidLooks := .later }
def FnExactSquarePartsUptoCardSaid : Prop := Claim7.holds Tryz.pinned (.plain (OpenSpec.upto fnExactSquarePartsSpec)) fnExactSquarePartsUptoCard
end Rows
end Go.Proofs.YtnfbfdamlnjblaaGreatDoor
