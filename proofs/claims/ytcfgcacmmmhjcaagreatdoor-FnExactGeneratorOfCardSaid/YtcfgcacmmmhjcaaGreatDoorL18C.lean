/-
  FnExactGeneratorOf: the card's closed facts.
-/
import Derived.Test.YtcfgcacmmmhjcaaGreatDoorRows
import Derived.SevenTiedAt
namespace Go.Proofs.YtcfgcacmmmhjcaaGreatDoor.fnExactGeneratorOf

theorem fnum : Tryz.prog.funcNamed Rows.fnExactGeneratorOfRow.func = some 3 := by kernel_rfl
theorem looks0 : false = Tryz.pinned.checked.prog.looks [] := by kernel_rfl
theorem wants : (Tryz.f3.params.toList.all fun t => !Tryz.prog.wantsStandIn t) = true := by kernel_rfl
theorem goes : false = Rows.fnExactGeneratorOfRow.goesBy Tryz.pinned.checked.prog := by kernel_rfl
end Go.Proofs.YtcfgcacmmmhjcaaGreatDoor.fnExactGeneratorOf
