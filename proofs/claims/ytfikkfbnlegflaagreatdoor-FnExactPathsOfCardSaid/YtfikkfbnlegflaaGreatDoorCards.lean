/-
  DERIVED. GIVEN WITH THE SEED: THE CARDS: each row of YtfikkfbnlegflaaGreatDoorRows.lean that lists a variable, with what it lists TIED to the program's text (the seventh form; the later family's looks); each row that meets fmt, with fmt's text TOLD by the authors' own Lean function (tested against real Go, not proved from fmt's source: count such statements apart). THE CARD IS WHAT COUNTS. Prove the row's statement (the work); the ties are given (YtfikkfbnlegflaaGreatDoorTie.lean); close each card by the builder's one call (the guide's Derived/Test/ToyasCard.lean, 'card_holds'). Laid BY PROGRAM, IN A SANDBOX (cutbox-door.mjs). By AI agents, Wed Nov 11 2026. No macro, syntax, notation, axiom, sorry.
-/
import Derived.Test.YtfikkfbnlegflaaGreatDoorRows
import GoSem.ClaimSeven
namespace Go.Proofs.YtfikkfbnlegflaaGreatDoor
namespace Rows

/-- THE TIED CARD OF 'laws.FnExactLowerPath'. -/
def fnExactLowerPathCard : Claim7 := { stood := { row := fnExactLowerPathRow, standIns := [], harness := (true, "5b1e1e483c1c10e7df125d06a7dc4d621b440737b833102d0fd015677039b210"), looks := false }, kinds := [], alts := [], laidByText := true, laidKinds := [.data, .pinned], laidTests := true, laidLooks := .later }
def FnExactLowerPathCardSaid : Prop := Claim7.holds Tryz.pinned (.plain (OpenSpec.ofChange fnExactLowerPathSpec)) fnExactLowerPathCard

/-- THE TIED CARD OF 'laws.FnExactRaisePath'. -/
def fnExactRaisePathCard : Claim7 := { stood := { row := fnExactRaisePathRow, standIns := [], harness := (true, "5b1e1e483c1c10e7df125d06a7dc4d621b440737b833102d0fd015677039b210"), looks := false }, kinds := [], alts := [], laidByText := true, laidKinds := [.data, .pinned], laidTests := true, laidLooks := .later }
def FnExactRaisePathCardSaid : Prop := Claim7.holds Tryz.pinned (.plain (OpenSpec.ofChange fnExactRaisePathSpec)) fnExactRaisePathCard

/-- THE TIED CARD OF 'laws.FnExactHighestPath'. -/
def fnExactHighestPathCard : Claim7 := { stood := { row := fnExactHighestPathRow, standIns := [], harness := (true, "5b1e1e483c1c10e7df125d06a7dc4d621b440737b833102d0fd015677039b210"), looks := false }, kinds := [], alts := [], laidByText := true, laidKinds := [.data, .pinned], laidTests := true, laidLooks := .later }
def FnExactHighestPathCardSaid : Prop := Claim7.holds Tryz.pinned (.plain (OpenSpec.ofChange fnExactHighestPathSpec)) fnExactHighestPathCard

/-- THE TIED CARD OF 'laws.FnExactReflectPath'. -/
def fnExactReflectPathCard : Claim7 := { stood := { row := fnExactReflectPathRow, standIns := [], harness := (true, "5b1e1e483c1c10e7df125d06a7dc4d621b440737b833102d0fd015677039b210"), looks := false }, kinds := [], alts := [], laidByText := true, laidKinds := [.data, .pinned], laidTests := true, laidLooks := .later }
def FnExactReflectPathCardSaid : Prop := Claim7.holds Tryz.pinned (.plain (OpenSpec.ofChange fnExactReflectPathSpec)) fnExactReflectPathCard

/-- THE TIED CARD OF 'laws.FnPathReflections'. -/
def fnPathReflectionsCard : Claim7 := { stood := { row := fnPathReflectionsRow, standIns := [], harness := (true, "5b1e1e483c1c10e7df125d06a7dc4d621b440737b833102d0fd015677039b210"), looks := false }, kinds := [], alts := [], laidByText := true, laidKinds := [.data, .pinned], laidTests := true, laidLooks := .later }
def FnPathReflectionsCardSaid : Prop := Claim7.holds Tryz.pinned (.plain (OpenSpec.ofChange fnPathReflectionsSpec)) fnPathReflectionsCard

/-- THE TIED CARD OF 'laws.FnLowered'. -/
def fnLoweredCard : Claim7 := { stood := { row := fnLoweredRow, standIns := [], harness := (true, "5b1e1e483c1c10e7df125d06a7dc4d621b440737b833102d0fd015677039b210"), looks := false }, kinds := [], alts := [], laidByText := true, laidKinds := [.data, .pinned], laidTests := true, laidLooks := .later }
def FnLoweredCardSaid : Prop := Claim7.holds Tryz.pinned (.plain (OpenSpec.ofChange fnLoweredSpec)) fnLoweredCard

/-- THE TIED CARD OF 'laws.FnExactPathsOf'. -/
def fnExactPathsOfCard : Claim7 := { stood := { row := fnExactPathsOfRow, standIns := [], harness := (true, "5b1e1e483c1c10e7df125d06a7dc4d621b440737b833102d0fd015677039b210"), looks := false }, kinds := [], alts := [], laidByText := true, laidKinds := [.data, .data, .data, .data, .pinned], laidTests := true, laidLooks := .later }
def FnExactPathsOfCardSaid : Prop := Claim7.holds Tryz.pinned (.plain (OpenSpec.ofChange fnExactPathsOfSpec)) fnExactPathsOfCard

/-- THE TIED CARD OF 'laws.FnPathDuals'. -/
def fnPathDualsCard : Claim7 := { stood := { row := fnPathDualsRow, standIns := [], harness := (true, "5b1e1e483c1c10e7df125d06a7dc4d621b440737b833102d0fd015677039b210"), looks := false }, kinds := [], alts := [], laidByText := true, laidKinds := [.data, .pinned], laidTests := true, laidLooks := .later }
def FnPathDualsCardSaid : Prop := Claim7.holds Tryz.pinned (.plain (OpenSpec.ofChange fnPathDualsSpec)) fnPathDualsCard

/-- THE SECOND FORM's CARD OF 'laws.FnExactLowerPath'. -/
def fnExactLowerPathUptoCard : Claim7 := { stood := { row := fnExactLowerPathUptoRow, standIns := [], harness := (true, "5b1e1e483c1c10e7df125d06a7dc4d621b440737b833102d0fd015677039b210"), looks := false }, kinds := [], alts := [], laidByText := true, laidKinds := [.data, .pinned], laidTests := true, laidLooks := .later }
def FnExactLowerPathUptoCardSaid : Prop := Claim7.holds Tryz.pinned (.plain (OpenSpec.upto fnExactLowerPathSpec)) fnExactLowerPathUptoCard

/-- THE SECOND FORM's CARD OF 'laws.FnExactRaisePath'. -/
def fnExactRaisePathUptoCard : Claim7 := { stood := { row := fnExactRaisePathUptoRow, standIns := [], harness := (true, "5b1e1e483c1c10e7df125d06a7dc4d621b440737b833102d0fd015677039b210"), looks := false }, kinds := [], alts := [], laidByText := true, laidKinds := [.data, .pinned], laidTests := true, laidLooks := .later }
def FnExactRaisePathUptoCardSaid : Prop := Claim7.holds Tryz.pinned (.plain (OpenSpec.upto fnExactRaisePathSpec)) fnExactRaisePathUptoCard

/-- THE SECOND FORM's CARD OF 'laws.FnExactHighestPath'. -/
def fnExactHighestPathUptoCard : Claim7 := { stood := { row := fnExactHighestPathUptoRow, standIns := [], harness := (true, "5b1e1e483c1c10e7df125d06a7dc4d621b440737b833102d0fd015677039b210"), looks := false }, kinds := [], alts := [], laidByText := true, laidKinds := [.data, .pinned], laidTests := true, laidLooks := .later }
def FnExactHighestPathUptoCardSaid : Prop := Claim7.holds Tryz.pinned (.plain (OpenSpec.upto fnExactHighestPathSpec)) fnExactHighestPathUptoCard

/-- THE SECOND FORM's CARD OF 'laws.FnExactReflectPath'. -/
def fnExactReflectPathUptoCard : Claim7 := { stood := { row := fnExactReflectPathUptoRow, standIns := [], harness := (true, "5b1e1e483c1c10e7df125d06a7dc4d621b440737b833102d0fd015677039b210"), looks := false }, kinds := [], alts := [], laidByText := true, laidKinds := [.data, .pinned], laidTests := true, laidLooks := .later }
def FnExactReflectPathUptoCardSaid : Prop := Claim7.holds Tryz.pinned (.plain (OpenSpec.upto fnExactReflectPathSpec)) fnExactReflectPathUptoCard

/-- THE SECOND FORM's CARD OF 'laws.FnPathReflections'. -/
def fnPathReflectionsUptoCard : Claim7 := { stood := { row := fnPathReflectionsUptoRow, standIns := [], harness := (true, "5b1e1e483c1c10e7df125d06a7dc4d621b440737b833102d0fd015677039b210"), looks := false }, kinds := [], alts := [], laidByText := true, laidKinds := [.data, .pinned], laidTests := true, laidLooks := .later }
def FnPathReflectionsUptoCardSaid : Prop := Claim7.holds Tryz.pinned (.plain (OpenSpec.upto fnPathReflectionsSpec)) fnPathReflectionsUptoCard

/-- THE SECOND FORM's CARD OF 'laws.FnLowered'. -/
def fnLoweredUptoCard : Claim7 := { stood := { row := fnLoweredUptoRow, standIns := [], harness := (true, "5b1e1e483c1c10e7df125d06a7dc4d621b440737b833102d0fd015677039b210"), looks := false }, kinds := [], alts := [], laidByText := true, laidKinds := [.data, .pinned], laidTests := true, laidLooks := .later }
def FnLoweredUptoCardSaid : Prop := Claim7.holds Tryz.pinned (.plain (OpenSpec.upto fnLoweredSpec)) fnLoweredUptoCard

/-- THE SECOND FORM's CARD OF 'laws.FnExactPathsOf'. -/
def fnExactPathsOfUptoCard : Claim7 := { stood := { row := fnExactPathsOfUptoRow, standIns := [], harness := (true, "5b1e1e483c1c10e7df125d06a7dc4d621b440737b833102d0fd015677039b210"), looks := false }, kinds := [], alts := [], laidByText := true, laidKinds := [.data, .data, .data, .data, .pinned], laidTests := true, laidLooks := .later }
def FnExactPathsOfUptoCardSaid : Prop := Claim7.holds Tryz.pinned (.plain (OpenSpec.upto fnExactPathsOfSpec)) fnExactPathsOfUptoCard

/-- THE SECOND FORM's CARD OF 'laws.FnPathDuals'. -/
def fnPathDualsUptoCard : Claim7 := { stood := { row := fnPathDualsUptoRow, standIns := [], harness := (true, "5b1e1e483c1c10e7df125d06a7dc4d621b440737b833102d0fd015677039b210"), looks := false }, kinds := [], alts := [], laidByText := true, laidKinds := [.data, .pinned], laidTests := true, laidLooks := .later }
def FnPathDualsUptoCardSaid : Prop := Claim7.holds Tryz.pinned (.plain (OpenSpec.upto fnPathDualsSpec)) fnPathDualsUptoCard
end Rows
end Go.Proofs.YtfikkfbnlegflaaGreatDoor
