/-
  DERIVED. GIVEN WITH THE SEED: THE CARDS: each row of YtdbpbnajegoffaaDoorRows.lean that lists a variable, with what it lists TIED to the program's text (the seventh form; the later family's looks); each row that meets fmt, with fmt's text TOLD by the authors' own Lean function (tested against real Go, not proved from fmt's source: count such statements apart). THE CARD IS WHAT COUNTS. Prove the row's statement (the work); the ties are given (YtdbpbnajegoffaaDoorTie.lean); close each card by the builder's one call (the guide's Derived/Test/ToyasCard.lean, 'card_holds'). Laid BY PROGRAM, IN A SANDBOX (cutbox-door.mjs). By AI agents, Wed Nov 11 2026. No macro, syntax, notation, axiom, sorry.
-/
import Derived.Test.YtdbpbnajegoffaaDoorRows
import GoSem.ClaimSeven
namespace Go.Proofs.YtdbpbnajegoffaaDoor
namespace Rows

/-- THE TIED CARD OF 'laws.FnExactNewSession'. -/
def fnExactNewSessionCard : Claim7 := { stood := { row := fnExactNewSessionRow, standIns := [], harness := (true, "55c74949fde5297221ea51ce789382c8572b9dd6bfe99f743a2c9e3d4e086dfb"), looks := false }, kinds := [], alts := [], laidByText := true, laidKinds := [.data, .pinned], laidTests := true, laidLooks := .later }
def FnExactNewSessionCardSaid : Prop := Claim7.holds Tryd.pinned (.plain (OpenSpec.ofChange fnExactNewSessionSpec)) fnExactNewSessionCard

/-- THE TIED CARD OF 'laws.FnExactSessionOk'. -/
def fnExactSessionOkCard : Claim7 := { stood := { row := fnExactSessionOkRow, standIns := [], harness := (true, "55c74949fde5297221ea51ce789382c8572b9dd6bfe99f743a2c9e3d4e086dfb"), looks := false }, kinds := [], alts := [], laidByText := true, laidKinds := [.data, .pinned], laidTests := true, laidLooks := .later }
def FnExactSessionOkCardSaid : Prop := Claim7.holds Tryd.pinned (.plain (OpenSpec.ofChange fnExactSessionOkSpec)) fnExactSessionOkCard

/-- THE TIED CARD OF 'laws.FnExactJoinPaths'. -/
def fnExactJoinPathsCard : Claim7 := { stood := { row := fnExactJoinPathsRow, standIns := [], harness := (true, "55c74949fde5297221ea51ce789382c8572b9dd6bfe99f743a2c9e3d4e086dfb"), looks := false }, kinds := [], alts := [], laidByText := true, laidKinds := [.data, .pinned], laidTests := true, laidLooks := .later }
def FnExactJoinPathsCardSaid : Prop := Claim7.holds Tryd.pinned (.plain (OpenSpec.ofChange fnExactJoinPathsSpec)) fnExactJoinPathsCard

/-- THE SECOND FORM's CARD OF 'laws.FnExactNewSession'. -/
def fnExactNewSessionUptoCard : Claim7 := { stood := { row := fnExactNewSessionUptoRow, standIns := [], harness := (true, "55c74949fde5297221ea51ce789382c8572b9dd6bfe99f743a2c9e3d4e086dfb"), looks := false }, kinds := [], alts := [], laidByText := true, laidKinds := [.data, .pinned], laidTests := true, laidLooks := .later }
def FnExactNewSessionUptoCardSaid : Prop := Claim7.holds Tryd.pinned (.plain (OpenSpec.upto fnExactNewSessionSpec)) fnExactNewSessionUptoCard

/-- THE SECOND FORM's CARD OF 'laws.FnExactSessionOk'. -/
def fnExactSessionOkUptoCard : Claim7 := { stood := { row := fnExactSessionOkUptoRow, standIns := [], harness := (true, "55c74949fde5297221ea51ce789382c8572b9dd6bfe99f743a2c9e3d4e086dfb"), looks := false }, kinds := [], alts := [], laidByText := true, laidKinds := [.data, .pinned], laidTests := true, laidLooks := .later }
def FnExactSessionOkUptoCardSaid : Prop := Claim7.holds Tryd.pinned (.plain (OpenSpec.upto fnExactSessionOkSpec)) fnExactSessionOkUptoCard

/-- THE SECOND FORM's CARD OF 'laws.FnExactJoinPaths'. -/
def fnExactJoinPathsUptoCard : Claim7 := { stood := { row := fnExactJoinPathsUptoRow, standIns := [], harness := (true, "55c74949fde5297221ea51ce789382c8572b9dd6bfe99f743a2c9e3d4e086dfb"), looks := false }, kinds := [], alts := [], laidByText := true, laidKinds := [.data, .pinned], laidTests := true, laidLooks := .later }
def FnExactJoinPathsUptoCardSaid : Prop := Claim7.holds Tryd.pinned (.plain (OpenSpec.upto fnExactJoinPathsSpec)) fnExactJoinPathsUptoCard
end Rows
end Go.Proofs.YtdbpbnajegoffaaDoor
