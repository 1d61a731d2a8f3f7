/-
  FnExactBranchTo: the card's closed facts.
-/
import Derived.Test.YtnfbfdamlnjblaaGreatDoorRows
import Derived.SevenTiedAt
namespace Go.Proofs.YtnfbfdamlnjblaaGreatDoor.fnExactBranchTo

theorem fnum : Tryz.prog.funcNamed Rows.fnExactBranchToRow.func = some 11 := by kernel_rfl
theorem looks0 : false = Tryz.pinned.checked.prog.looks [] := by kernel_rfl
theorem wants : (Tryz.f11.params.toList.all fun t => !Tryz.prog.wantsStandIn t) = true := by kernel_rfl
theorem goes : false = Rows.fnExactBranchToRow.goesBy Tryz.pinned.checked.prog := by kernel_rfl
end Go.Proofs.YtnfbfdamlnjblaaGreatDoor.fnExactBranchTo
