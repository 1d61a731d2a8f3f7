/-
  FnExactDoubleCharacter: the row's closed facts.
-/
import Derived.Test.YtnfbfdamlnjblaaGreatDoorRows
import Derived.JoinedOf
namespace Go.Proofs.YtnfbfdamlnjblaaGreatDoor.fnExactDoubleCharacter

theorem closed1 : (Rows.fnExactDoubleCharacterRow.inPlace == Tryz.pinned.checked.prog.inPlace 8) = true := by kernel_rfl
theorem closed2 : (Rows.fnExactDoubleCharacterRow.unfollowed == Tryz.pinned.checked.prog.unfollowed 8) = true := by kernel_rfl
theorem closed3 : (Rows.fnExactDoubleCharacterRow.recurses == Tryz.pinned.checked.prog.recurses 8) = true := by kernel_rfl
theorem closed4 : (Rows.fnExactDoubleCharacterRow.named == Tryz.pinned.checked.prog.varsNamed 8) = true := by kernel_rfl
theorem closed : joinedFacts Tryz.pinned.checked.prog 8 Tryz.f8 Rows.fnExactDoubleCharacterSpec Rows.fnExactDoubleCharacterRow = true := by
  unfold joinedFacts
  rw [closed1, closed2, closed3, closed4]
  kernel_rfl
end Go.Proofs.YtnfbfdamlnjblaaGreatDoor.fnExactDoubleCharacter
