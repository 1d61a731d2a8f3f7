/-
  FnExactAddCharacters: the row's closed facts.
-/
import Derived.Test.YtnfbfdamlnjblaaGreatDoorRows
import Derived.JoinedOf
namespace Go.Proofs.YtnfbfdamlnjblaaGreatDoor.fnExactAddCharacters

theorem closed1 : (Rows.fnExactAddCharactersRow.inPlace == Tryz.pinned.checked.prog.inPlace 9) = true := by kernel_rfl
theorem closed2 : (Rows.fnExactAddCharactersRow.unfollowed == Tryz.pinned.checked.prog.unfollowed 9) = true := by kernel_rfl
theorem closed3 : (Rows.fnExactAddCharactersRow.recurses == Tryz.pinned.checked.prog.recurses 9) = true := by kernel_rfl
theorem closed4 : (Rows.fnExactAddCharactersRow.named == Tryz.pinned.checked.prog.varsNamed 9) = true := by kernel_rfl
theorem closed : joinedFacts Tryz.pinned.checked.prog 9 Tryz.f9 Rows.fnExactAddCharactersSpec Rows.fnExactAddCharactersRow = true := by
  unfold joinedFacts
  rw [closed1, closed2, closed3, closed4]
  kernel_rfl
end Go.Proofs.YtnfbfdamlnjblaaGreatDoor.fnExactAddCharacters
