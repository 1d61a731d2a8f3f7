/-
  FnExactMulEnv: the row's closed facts.
-/
import Derived.Test.YtcfgcacmmmhjcaaGreatDoorRows
import Derived.JoinedOf
namespace Go.Proofs.YtcfgcacmmmhjcaaGreatDoor.fnExactMulEnv

theorem closed1 : (Rows.fnExactMulEnvRow.inPlace == Tryz.pinned.checked.prog.inPlace 6) = true := by kernel_rfl
theorem closed2 : (Rows.fnExactMulEnvRow.unfollowed == Tryz.pinned.checked.prog.unfollowed 6) = true := by kernel_rfl
theorem closed3 : (Rows.fnExactMulEnvRow.recurses == Tryz.pinned.checked.prog.recurses 6) = true := by kernel_rfl
theorem closed4 : (Rows.fnExactMulEnvRow.named == Tryz.pinned.checked.prog.varsNamed 6) = true := by kernel_rfl
theorem closed : joinedFacts Tryz.pinned.checked.prog 6 Tryz.f6 Rows.fnExactMulEnvSpec Rows.fnExactMulEnvRow = true := by
  unfold joinedFacts
  rw [closed1, closed2, closed3, closed4]
  kernel_rfl
end Go.Proofs.YtcfgcacmmmhjcaaGreatDoor.fnExactMulEnv
