/-
  FnExactSquareParts: the row's closed facts.
-/
import Derived.Test.YtnfbfdamlnjblaaGreatDoorRows
import Derived.JoinedOf
namespace Go.Proofs.YtnfbfdamlnjblaaGreatDoor.fnExactSquareParts

theorem closed1 : (Rows.fnExactSquarePartsRow.inPlace == Tryz.pinned.checked.prog.inPlace 12) = true := by kernel_rfl
theorem closed2 : (Rows.fnExactSquarePartsRow.unfollowed == Tryz.pinned.checked.prog.unfollowed 12) = true := by kernel_rfl
theorem closed3 : (Rows.fnExactSquarePartsRow.recurses == Tryz.pinned.checked.prog.recurses 12) = true := by kernel_rfl
theorem closed4 : (Rows.fnExactSquarePartsRow.named == Tryz.pinned.checked.prog.varsNamed 12) = true := by kernel_rfl
theorem closed : joinedFacts Tryz.pinned.checked.prog 12 Tryz.f12 Rows.fnExactSquarePartsSpec Rows.fnExactSquarePartsRow = true := by
  unfold joinedFacts
  rw [closed1, closed2, closed3, closed4]
  kernel_rfl
end Go.Proofs.YtnfbfdamlnjblaaGreatDoor.fnExactSquareParts
