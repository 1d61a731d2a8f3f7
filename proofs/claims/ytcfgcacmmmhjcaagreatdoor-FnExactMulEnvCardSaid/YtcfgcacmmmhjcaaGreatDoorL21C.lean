/-
  FnExactMulEnv: the card's closed facts.
-/
import Derived.Test.YtcfgcacmmmhjcaaGreatDoorRows
import Derived.SevenTiedAt
namespace Go.Proofs.YtcfgcacmmmhjcaaGreatDoor.fnExactMulEnv

theorem fnum : Tryz.prog.funcNamed Rows.fnExactMulEnvRow.func = some 6 := by kernel_rfl
theorem looks0 : false = Tryz.pinned.checked.prog.looks [] := by kernel_rfl
theorem wants : (Tryz.f6.params.toList.all fun t => !Tryz.prog.wantsStandIn t) = true := by kernel_rfl
theorem goes : false = Rows.fnExactMulEnvRow.goesBy Tryz.pinned.checked.prog := by kernel_rfl
end Go.Proofs.YtcfgcacmmmhjcaaGreatDoor.fnExactMulEnv
