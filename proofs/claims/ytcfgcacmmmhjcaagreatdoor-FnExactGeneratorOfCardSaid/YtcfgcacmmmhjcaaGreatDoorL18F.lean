/-
  FnExactGeneratorOf: the row's closed facts.
-/
import Derived.Test.YtcfgcacmmmhjcaaGreatDoorRows
import Derived.JoinedOf
namespace Go.Proofs.YtcfgcacmmmhjcaaGreatDoor.fnExactGeneratorOf

theorem closed1 : (Rows.fnExactGeneratorOfRow.inPlace == Tryz.pinned.checked.prog.inPlace 3) = true := by kernel_rfl
theorem closed2 : (Rows.fnExactGeneratorOfRow.unfollowed == Tryz.pinned.checked.prog.unfollowed 3) = true := by kernel_rfl
theorem closed3 : (Rows.fnExactGeneratorOfRow.recurses == Tryz.pinned.checked.prog.recurses 3) = true := by kernel_rfl
theorem closed4 : (Rows.fnExactGeneratorOfRow.named == Tryz.pinned.checked.prog.varsNamed 3) = true := by kernel_rfl
theorem closed : joinedFacts Tryz.pinned.checked.prog 3 Tryz.f3 Rows.fnExactGeneratorOfSpec Rows.fnExactGeneratorOfRow = true := by
  unfold joinedFacts
  rw [closed1, closed2, closed3, closed4]
  kernel_rfl
end Go.Proofs.YtcfgcacmmmhjcaaGreatDoor.fnExactGeneratorOf
