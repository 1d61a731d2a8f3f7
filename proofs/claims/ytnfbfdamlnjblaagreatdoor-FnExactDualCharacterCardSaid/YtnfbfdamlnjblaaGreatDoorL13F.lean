/-
  FnExactDualCharacter: the row's closed facts.
-/
import Derived.Test.YtnfbfdamlnjblaaGreatDoorRows
import Derived.JoinedOf
namespace Go.Proofs.YtnfbfdamlnjblaaGreatDoor.fnExactDualCharacter

theorem closed1 : (Rows.fnExactDualCharacterRow.inPlace == Tryz.pinned.checked.prog.inPlace 7) = true := by kernel_rfl
theorem closed2 : (Rows.fnExactDualCharacterRow.unfollowed == Tryz.pinned.checked.prog.unfollowed 7) = true := by kernel_rfl
theorem closed3 : (Rows.fnExactDualCharacterRow.recurses == Tryz.pinned.checked.prog.recurses 7) = true := by kernel_rfl
theorem closed4 : (Rows.fnExactDualCharacterRow.named == Tryz.pinned.checked.prog.varsNamed 7) = true := by kernel_rfl
theorem closed : joinedFacts Tryz.pinned.checked.prog 7 Tryz.f7 Rows.fnExactDualCharacterSpec Rows.fnExactDualCharacterRow = true := by
  unfold joinedFacts
  rw [closed1, closed2, closed3, closed4]
  kernel_rfl
end Go.Proofs.YtnfbfdamlnjblaaGreatDoor.fnExactDualCharacter
