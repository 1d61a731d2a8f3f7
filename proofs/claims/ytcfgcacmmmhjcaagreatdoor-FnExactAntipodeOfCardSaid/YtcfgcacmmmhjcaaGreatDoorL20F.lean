/-
  FnExactAntipodeOf: the row's closed facts.
-/
import Derived.Test.YtcfgcacmmmhjcaaGreatDoorRows
import Derived.JoinedOf
namespace Go.Proofs.YtcfgcacmmmhjcaaGreatDoor.fnExactAntipodeOf

theorem closed1 : (Rows.fnExactAntipodeOfRow.inPlace == Tryz.pinned.checked.prog.inPlace 5) = true := by kernel_rfl
theorem closed2 : (Rows.fnExactAntipodeOfRow.unfollowed == Tryz.pinned.checked.prog.unfollowed 5) = true := by kernel_rfl
theorem closed3 : (Rows.fnExactAntipodeOfRow.recurses == Tryz.pinned.checked.prog.recurses 5) = true := by kernel_rfl
theorem closed4 : (Rows.fnExactAntipodeOfRow.named == Tryz.pinned.checked.prog.varsNamed 5) = true := by kernel_rfl
theorem closed : joinedFacts Tryz.pinned.checked.prog 5 Tryz.f5 Rows.fnExactAntipodeOfSpec Rows.fnExactAntipodeOfRow = true := by
  unfold joinedFacts
  rw [closed1, closed2, closed3, closed4]
  kernel_rfl
end Go.Proofs.YtcfgcacmmmhjcaaGreatDoor.fnExactAntipodeOf
