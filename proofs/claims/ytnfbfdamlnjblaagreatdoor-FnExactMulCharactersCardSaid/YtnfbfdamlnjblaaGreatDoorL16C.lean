/-
  FnExactMulCharacters: the card's closed facts.
-/
import Derived.Test.YtnfbfdamlnjblaaGreatDoorRows
import Derived.SevenTiedAt
namespace Go.Proofs.YtnfbfdamlnjblaaGreatDoor.fnExactMulCharacters

theorem fnum : Tryz.prog.funcNamed Rows.fnExactMulCharactersRow.func = some 10 := by kernel_rfl
theorem looks0 : false = Tryz.pinned.checked.prog.looks [] := by kernel_rfl
theorem wants : (Tryz.f10.params.toList.all fun t => !Tryz.prog.wantsStandIn t) = true := by kernel_rfl
theorem goes : false = Rows.fnExactMulCharactersRow.goesBy Tryz.pinned.checked.prog := by kernel_rfl
end Go.Proofs.YtnfbfdamlnjblaaGreatDoor.fnExactMulCharacters
