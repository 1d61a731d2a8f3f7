/-
  DERIVED. GIVEN WITH THE SEED: THE CARDS: each row of YtdhlapppahkjeaaGreatDoorRows.lean that lists a variable, with what it lists TIED to the program's text (the seventh form; the later family's looks); each row that meets fmt, with fmt's text TOLD by the authors' own Lean function (tested against real Go, not proved from fmt's source: count such statements apart). THE CARD IS WHAT COUNTS. Prove the row's statement (the work); the ties are given (YtdhlapppahkjeaaGreatDoorTie.lean); close each card by the builder's one call (the guide's Derived/Test/ToyasCard.lean, 'card_holds'). Laid BY PROGRAM, IN A SANDBOX (cutbox-door.mjs). By AI agents, Wed Nov 11 2026. No macro, syntax, notation, axiom, sorry.
-/
import Derived.Test.YtdhlapppahkjeaaGreatDoorRows
import GoSem.ClaimSeven
namespace Go.Proofs.YtdhlapppahkjeaaGreatDoor
namespace Rows

/-- THE TIED CARD OF 'laws.FnExactPathCharacter'. -/
def fnExactPathCharacterCard : Claim7 := { stood := { row := fnExactPathCharacterRow, standIns := [], harness := (true, "c8e78a124a4d877672b2cc59f202786618727ae8e48fd803616965d61ca37da3"), looks := false }, kinds := [], alts := [], laidByText := true, laidKinds := [.data, .data, .data, .data, .pinned], laidTests := true, laidLooks := .later }
def FnExactPathCharacterCardSaid : Prop := Claim7.holds Tryz.pinned (.plain (OpenSpec.ofChange fnExactPathCharacterSpec)) fnExactPathCharacterCard

/-- THE TIED CARD OF 'laws.FnExactTensorByPaths'. -/
def fnExactTensorByPathsCard : Claim7 := { stood := { row := fnExactTensorByPathsRow, standIns := [], harness := (true, "c8e78a124a4d877672b2cc59f202786618727ae8e48fd803616965d61ca37da3"), looks := false }, kinds := [], alts := [], laidByText := true, laidKinds := [.data, .data, .data, .data, .pinned], laidTests := true, laidLooks := .later }
def FnExactTensorByPathsCardSaid : Prop := Claim7.holds Tryz.pinned (.plain (OpenSpec.ofChange fnExactTensorByPathsSpec)) fnExactTensorByPathsCard

/-- THE SECOND FORM's CARD OF 'laws.FnExactPathCharacter'. -/
def fnExactPathCharacterUptoCard : Claim7 := { stood := { row := fnExactPathCharacterUptoRow, standIns := [], harness := (true, "c8e78a124a4d877672b2cc59f202786618727ae8e48fd803616965d61ca37da3"), looks := false }, kinds := [], alts := [], laidByText := true, laidKinds := [.data, .data, .data, .data, .pinned], laidTests := true, laidLooks := .later }
def FnExactPathCharacterUptoCardSaid : Prop := Claim7.holds Tryz.pinned (.plain (OpenSpec.upto fnExactPathCharacterSpec)) fnExactPathCharacterUptoCard

/-- THE SECOND FORM's CARD OF 'laws.FnExactTensorByPaths'. -/
def fnExactTensorByPathsUptoCard : Claim7 := { stood := { row := fnExactTensorByPathsUptoRow, standIns := [], harness := (true, "c8e78a124a4d877672b2cc59f202786618727ae8e48fd803616965d61ca37da3"), looks := false }, kinds := [], alts := [], laidByText := true, laidKinds := [.data, .data, .data, .data, .pinned], laidTests := true, laidLooks := .later }
def FnExactTensorByPathsUptoCardSaid : Prop := Claim7.holds Tryz.pinned (.plain (OpenSpec.upto fnExactTensorByPathsSpec)) fnExactTensorByPathsUptoCard
end Rows
end Go.Proofs.YtdhlapppahkjeaaGreatDoor
