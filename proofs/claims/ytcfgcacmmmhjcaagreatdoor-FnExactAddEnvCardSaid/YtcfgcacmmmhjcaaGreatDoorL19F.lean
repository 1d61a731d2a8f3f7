/-
  FnExactAddEnv: the row's closed facts.
-/
import Derived.Test.YtcfgcacmmmhjcaaGreatDoorRows
import Derived.JoinedOf
namespace Go.Proofs.YtcfgcacmmmhjcaaGreatDoor.fnExactAddEnv

theorem closed1 : (Rows.fnExactAddEnvRow.inPlace == Tryz.pinned.checked.prog.inPlace 4) = true := by kernel_rfl
theorem closed2 : (Rows.fnExactAddEnvRow.unfollowed == Tryz.pinned.checked.prog.unfollowed 4) = true := by kernel_rfl
theorem closed3 : (Rows.fnExactAddEnvRow.recurses == Tryz.pinned.checked.prog.recurses 4) = true := by kernel_rfl
theorem closed4 : (Rows.fnExactAddEnvRow.named == Tryz.pinned.checked.prog.varsNamed 4) = true := by kernel_rfl
theorem closed : joinedFacts Tryz.pinned.checked.prog 4 Tryz.f4 Rows.fnExactAddEnvSpec Rows.fnExactAddEnvRow = true := by
  unfold joinedFacts
  rw [closed1, closed2, closed3, closed4]
  kernel_rfl
end Go.Proofs.YtcfgcacmmmhjcaaGreatDoor.fnExactAddEnv
