/-
  FnExactMulCharacters: the row's closed facts.
-/
import Derived.Test.YtnfbfdamlnjblaaGreatDoorRows
import Derived.JoinedOf
namespace Go.Proofs.YtnfbfdamlnjblaaGreatDoor.fnExactMulCharacters

theorem closed1 : (Rows.fnExactMulCharactersRow.inPlace == Tryz.pinned.checked.prog.inPlace 10) = true := by kernel_rfl
theorem closed2 : (Rows.fnExactMulCharactersRow.unfollowed == Tryz.pinned.checked.prog.unfollowed 10) = true := by kernel_rfl
theorem closed3 : (Rows.fnExactMulCharactersRow.recurses == Tryz.pinned.checked.prog.recurses 10) = true := by kernel_rfl
theorem closed4 : (Rows.fnExactMulCharactersRow.named == Tryz.pinned.checked.prog.varsNamed 10) = true := by kernel_rfl
theorem closed : joinedFacts Tryz.pinned.checked.prog 10 Tryz.f10 Rows.fnExactMulCharactersSpec Rows.fnExactMulCharactersRow = true := by
  unfold joinedFacts
  rw [closed1, closed2, closed3, closed4]
  kernel_rfl
end Go.Proofs.YtnfbfdamlnjblaaGreatDoor.fnExactMulCharacters
