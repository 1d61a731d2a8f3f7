/-
  FnExactDualCharacter: the card's closed facts.
-/
import Derived.Test.YtnfbfdamlnjblaaGreatDoorRows
import Derived.SevenTiedAt
namespace Go.Proofs.YtnfbfdamlnjblaaGreatDoor.fnExactDualCharacter

theorem fnum : Tryz.prog.funcNamed Rows.fnExactDualCharacterRow.func = some 7 := by kernel_rfl
theorem looks0 : false = Tryz.pinned.checked.prog.looks [] := by kernel_rfl
theorem wants : (Tryz.f7.params.toList.all fun t => !Tryz.prog.wantsStandIn t) = true := by kernel_rfl
theorem goes : false = Rows.fnExactDualCharacterRow.goesBy Tryz.pinned.checked.prog := by kernel_rfl
end Go.Proofs.YtnfbfdamlnjblaaGreatDoor.fnExactDualCharacter
