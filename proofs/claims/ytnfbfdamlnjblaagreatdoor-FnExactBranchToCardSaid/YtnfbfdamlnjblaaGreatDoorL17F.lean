/-
  FnExactBranchTo: the row's closed facts.
-/
import Derived.Test.YtnfbfdamlnjblaaGreatDoorRows
import Derived.JoinedOf
namespace Go.Proofs.YtnfbfdamlnjblaaGreatDoor.fnExactBranchTo

theorem closed1 : (Rows.fnExactBranchToRow.inPlace == Tryz.pinned.checked.prog.inPlace 11) = true := by kernel_rfl
theorem closed2 : (Rows.fnExactBranchToRow.unfollowed == Tryz.pinned.checked.prog.unfollowed 11) = true := by kernel_rfl
theorem closed3 : (Rows.fnExactBranchToRow.recurses == Tryz.pinned.checked.prog.recurses 11) = true := by kernel_rfl
theorem closed4 : (Rows.fnExactBranchToRow.named == Tryz.pinned.checked.prog.varsNamed 11) = true := by kernel_rfl
theorem closed : joinedFacts Tryz.pinned.checked.prog 11 Tryz.f11 Rows.fnExactBranchToSpec Rows.fnExactBranchToRow = true := by
  unfold joinedFacts
  rw [closed1, closed2, closed3, closed4]
  kernel_rfl
end Go.Proofs.YtnfbfdamlnjblaaGreatDoor.fnExactBranchTo
