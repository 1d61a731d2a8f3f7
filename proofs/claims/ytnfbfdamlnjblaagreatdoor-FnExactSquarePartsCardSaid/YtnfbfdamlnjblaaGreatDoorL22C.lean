/-
  FnExactSquareParts: the card's closed facts.
-/
import Derived.Test.YtnfbfdamlnjblaaGreatDoorRows
import Derived.SevenTiedAt
namespace Go.Proofs.YtnfbfdamlnjblaaGreatDoor.fnExactSquareParts

theorem fnum : Tryz.prog.funcNamed Rows.fnExactSquarePartsRow.func = some 12 := by kernel_rfl
theorem looks0 : false = Tryz.pinned.checked.prog.looks [] := by kernel_rfl
theorem wants : (Tryz.f12.params.toList.all fun t => !Tryz.prog.wantsStandIn t) = true := by kernel_rfl
theorem goes : false = Rows.fnExactSquarePartsRow.goesBy Tryz.pinned.checked.prog := by kernel_rfl
end Go.Proofs.YtnfbfdamlnjblaaGreatDoor.fnExactSquareParts
