/-
  DERIVED. GIVEN WITH THE SEED: THE CARDS: each row of YthbdcclglopkiaaDoorRows.lean that lists a variable, with what it lists TIED to the program's text (the seventh form; the later family's looks); each row that meets fmt, with fmt's text TOLD by the authors' own Lean function (tested against real Go, not proved from fmt's source: count such statements apart). THE CARD IS WHAT COUNTS. Prove the row's statement (the work); the ties are given (YthbdcclglopkiaaDoorTie.lean); close each card by the builder's one call (the guide's Derived/Test/ToyasCard.lean, 'card_holds'). Laid BY PROGRAM, IN A SANDBOX (cutbox-door.mjs). By AI agents, Wed Nov 11 2026. No macro, syntax, notation, axiom, sorry.
-/
import Derived.Test.YthbdcclglopkiaaDoorRows
import GoSem.ClaimSeven
namespace Go.Proofs.YthbdcclglopkiaaDoor
namespace Rows

/-- THE TIED CARD OF 'laws.FnExactTermsText'. -/
def fnExactTermsTextCard : Claim7 := { stood := { row := fnExactTermsTextRow, standIns := [], harness := (true, "4013e57c3849cc3dc6406996b74c8a28e88088ddf0b9af64d65d2551e5b4a65b"), looks := false }, kinds := [], alts := [], laidByText := true, laidKinds := [.data, .data, .data], laidTests := true, laidLooks := .later }
def FnExactTermsTextCardSaid : Prop := Claim7.holds Tryd.pinned (.plain (OpenSpec.ofChange fnExactTermsTextSpec)) fnExactTermsTextCard

/-- THE TIED CARD OF 'laws.FnLyndon'. -/
def fnLyndonCard : Claim7 := { stood := { row := fnLyndonRow, standIns := [], harness := (true, "4013e57c3849cc3dc6406996b74c8a28e88088ddf0b9af64d65d2551e5b4a65b"), looks := false }, kinds := [], alts := [], laidByText := true, laidKinds := [.data, .data, .data], laidTests := true, laidLooks := .later }
def FnLyndonCardSaid : Prop := Claim7.holds Tryd.pinned (.plain (OpenSpec.ofChange fnLyndonSpec)) fnLyndonCard

/-- THE SECOND FORM's CARD OF 'laws.FnExactTermsText'. -/
def fnExactTermsTextUptoCard : Claim7 := { stood := { row := fnExactTermsTextUptoRow, standIns := [], harness := (true, "4013e57c3849cc3dc6406996b74c8a28e88088ddf0b9af64d65d2551e5b4a65b"), looks := false }, kinds := [], alts := [], laidByText := true, laidKinds := [.data, .data, .data], laidTests := true, laidLooks := .later }
def FnExactTermsTextUptoCardSaid : Prop := Claim7.holds Tryd.pinned (.plain (OpenSpec.upto fnExactTermsTextSpec)) fnExactTermsTextUptoCard

/-- THE SECOND FORM's CARD OF 'laws.FnLyndon'. -/
def fnLyndonUptoCard : Claim7 := { stood := { row := fnLyndonUptoRow, standIns := [], harness := (true, "4013e57c3849cc3dc6406996b74c8a28e88088ddf0b9af64d65d2551e5b4a65b"), looks := false }, kinds := [], alts := [], laidByText := true, laidKinds := [.data, .data, .data], laidTests := true, laidLooks := .later }
def FnLyndonUptoCardSaid : Prop := Claim7.holds Tryd.pinned (.plain (OpenSpec.upto fnLyndonSpec)) fnLyndonUptoCard
end Rows
end Go.Proofs.YthbdcclglopkiaaDoor
