/-
  DERIVED. GIVEN WITH THE SEED: THE CARDS: each row of YtcfgcacmmmhjcaaGreatDoorRows.lean that lists a variable, with what it lists TIED to the program's text (the seventh form; the later family's looks); each row that meets fmt, with fmt's text TOLD by the authors' own Lean function (tested against real Go, not proved from fmt's source: count such statements apart). THE CARD IS WHAT COUNTS. Prove the row's statement (the work); the ties are given (YtcfgcacmmmhjcaaGreatDoorTie.lean); close each card by the builder's one call (the guide's Derived/Test/ToyasCard.lean, 'card_holds'). Laid BY PROGRAM, IN A SANDBOX (cutbox-door.mjs). By AI agents, Wed Nov 11 2026. No macro, syntax, notation, axiom, sorry.
-/
import Derived.Test.YtcfgcacmmmhjcaaGreatDoorRows
import GoSem.ClaimSeven
namespace Go.Proofs.YtcfgcacmmmhjcaaGreatDoor
namespace Rows

/-- THE TIED CARD OF 'laws.FnExactGeneratorOf'. -/
def fnExactGeneratorOfCard : Claim7 := { stood := { row := fnExactGeneratorOfRow, standIns := [], harness := (true, "80a50ec282f4676e80aa76477d264143754f1ee8d4be1d848c86046f907cbb11"), looks := false }, kinds := [], alts := [], laidByText := true, laidKinds := [.data, .data, .data], laidTests := true, laidLooks := .later }
def FnExactGeneratorOfCardSaid : Prop := Claim7.holds Tryz.pinned (.plain (OpenSpec.ofChange fnExactGeneratorOfSpec)) fnExactGeneratorOfCard

/-- THE TIED CARD OF 'laws.FnExactAddEnv'. -/
def fnExactAddEnvCard : Claim7 := { stood := { row := fnExactAddEnvRow, standIns := [], harness := (true, "80a50ec282f4676e80aa76477d264143754f1ee8d4be1d848c86046f907cbb11"), looks := false }, kinds := [], alts := [], laidByText := true, laidKinds := [.data, .data, .data], laidTests := true, laidLooks := .later }
def FnExactAddEnvCardSaid : Prop := Claim7.holds Tryz.pinned (.plain (OpenSpec.ofChange fnExactAddEnvSpec)) fnExactAddEnvCard

/-- THE TIED CARD OF 'laws.FnExactAntipodeOf'. -/
def fnExactAntipodeOfCard : Claim7 := { stood := { row := fnExactAntipodeOfRow, standIns := [], harness := (true, "80a50ec282f4676e80aa76477d264143754f1ee8d4be1d848c86046f907cbb11"), looks := false }, kinds := [], alts := [], laidByText := true, laidKinds := [.data, .data, .data], laidTests := true, laidLooks := .later }
def FnExactAntipodeOfCardSaid : Prop := Claim7.holds Tryz.pinned (.plain (OpenSpec.ofChange fnExactAntipodeOfSpec)) fnExactAntipodeOfCard

/-- THE TIED CARD OF 'laws.FnExactMulEnv'. -/
def fnExactMulEnvCard : Claim7 := { stood := { row := fnExactMulEnvRow, standIns := [], harness := (true, "80a50ec282f4676e80aa76477d264143754f1ee8d4be1d848c86046f907cbb11"), looks := false }, kinds := [], alts := [], laidByText := true, laidKinds := [.data, .data, .data], laidTests := true, laidLooks := .later }
def FnExactMulEnvCardSaid : Prop := Claim7.holds Tryz.pinned (.plain (OpenSpec.ofChange fnExactMulEnvSpec)) fnExactMulEnvCard

/-- THE SECOND FORM's CARD OF 'laws.FnExactGeneratorOf'. -/
def fnExactGeneratorOfUptoCard : Claim7 := { stood := { row := fnExactGeneratorOfUptoRow, standIns := [], harness := (true, "80a50ec282f4676e80aa76477d264143754f1ee8d4be1d848c86046f907cbb11"), looks := false }, kinds := [], alts := [], laidByText := true, laidKinds := [.data, .data, .data], laidTests := true, laidLooks := .later }
def FnExactGeneratorOfUptoCardSaid : Prop := Claim7.holds Tryz.pinned (.plain (OpenSpec.upto fnExactGeneratorOfSpec)) fnExactGeneratorOfUptoCard

/-- THE SECOND FORM's CARD OF 'laws.FnExactAddEnv'. -/
def fnExactAddEnvUptoCard : Claim7 := { stood := { row := fnExactAddEnvUptoRow, standIns := [], harness := (true, "80a50ec282f4676e80aa76477d264143754f1ee8d4be1d848c86046f907cbb11"), looks := false }, kinds := [], alts := [], laidByText := true, laidKinds := [.data, .data, .data], laidTests := true, laidLooks := .later }
def FnExactAddEnvUptoCardSaid : Prop := Claim7.holds Tryz.pinned (.plain (OpenSpec.upto fnExactAddEnvSpec)) fnExactAddEnvUptoCard

/-- THE SECOND FORM's CARD OF 'laws.FnExactAntipodeOf'. -/
def fnExactAntipodeOfUptoCard : Claim7 := { stood := { row := fnExactAntipodeOfUptoRow, standIns := [], harness := (true, "80a50ec282f4676e80aa76477d264143754f1ee8d4be1d848c86046f907cbb11"), looks := false }, kinds := [], alts := [], laidByText := true, laidKinds := [.data, .data, .data], laidTests := true, laidLooks := .later }
def FnExactAntipodeOfUptoCardSaid : Prop := Claim7.holds Tryz.pinned (.plain (OpenSpec.upto fnExactAntipodeOfSpec)) fnExactAntipodeOfUptoCard

/-- THE SECOND FORM's CARD OF 'laws.FnExactMulEnv'. -/
def fnExactMulEnvUptoCard : Claim7 := { stood := { row := fnExactMulEnvUptoRow, standIns := [], harness := (true, "80a50ec282f4676e80aa76477d264143754f1ee8d4be1d848c86046f907cbb11"), looks := false }, kinds := [], alts := [], laidByText := true, laidKinds := [.data, .data, .data], laidTests := true, laidLooks := .later }
def FnExactMulEnvUptoCardSaid : Prop := Claim7.holds Tryz.pinned (.plain (OpenSpec.upto fnExactMulEnvSpec)) fnExactMulEnvUptoCard
end Rows
end Go.Proofs.YtcfgcacmmmhjcaaGreatDoor
