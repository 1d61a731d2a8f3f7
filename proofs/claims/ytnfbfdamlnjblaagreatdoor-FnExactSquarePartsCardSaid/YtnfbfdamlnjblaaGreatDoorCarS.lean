/-
  The reference's matrices of types of one part.
-/
import Derived.Test.YtnfbfdamlnjblaaGreatDoorL1I
import Derived.Test.YtnfbfdamlnjblaaGreatDoorCarE
namespace Go.Proofs.YtnfbfdamlnjblaaGreatDoor
open Go.RowKit

set_option maxHeartbeats 1000000 in
theorem l1Find_any (a : Option Addr) (n c : Nat) (xs : List Int) (x : Int) (w : World) (h : IntsAt w a n xs) (hn : n ≤ 1000000000000) :
    Calls Tryz.prog 180 #[.slice a n c, .int .i64 x] w fun e w' => ∃ v : Int, e = .returned (.int .i64 v) ∧ (0 ≤ v ↔ x ∈ xs) ∧ -1 ≤ v ∧ v ≤ n ∧ w = w' := by
  have G := hidP h
  have L := hidP h.len
  clear h
  go_enter Tryz.func180, Tryz.ntmps180
  go_wp2
  go_loop [5] (fun i => ∃ k : Nat, k ≤ n ∧ Hid (∀ j, j < k → xs.getD j 0 ≠ x) ∧ i = .int .i64 k) (fun i => n - (intOf i).toNat)
  case atStart => exact ⟨0, Nat.zero_le _, fun j h => by omega, rfl⟩
  case round =>
    obtain ⟨k, hk, HJ, rfl⟩ := hrel
    by_cases hlt : k < n
    · obtain ⟨b, o, rfl, q⟩ := G.out.get k hlt
      by_cases hd : xs.getD k 0 = x
      · have HR : Hid (x ∈ xs) := by
          show _ ∈ _
          have hkl : k < xs.length := by have := L.out; omega
          rw [← hd, List.getD_eq_getElem?_getD, List.getElem?_eq_getElem hkl]
          exact List.getElem_mem hkl
        have hb : (xs.getD k 0 == x) = true := by simpa using hd
        rw [List.getD_eq_getElem?_getD] at hb
        clear hd
        go_wp2
        go_ret
        exact ⟨k, rfl, ⟨fun _ => HR.out, fun _ => by omega⟩, by omega, by omega, rfl⟩
      · have hb : (xs.getD k 0 == x) = false := by simpa using hd
        have HD := hidP hd
        clear hd
        rw [List.getD_eq_getElem?_getD] at hb
        go_wp2
        go_round
        case rel =>
          refine ⟨k + 1, by omega, fun j hj => ?_, by go_num⟩
          rcases Nat.lt_succ_iff_lt_or_eq.1 hj with h3 | rfl
          · exact HJ.out j h3
          · exact HD.out
        case measure => simp [intOf]; omega
    · have HR : Hid (x ∉ xs) := by
        intro hm
        obtain ⟨j, hj, rfl⟩ := List.mem_iff_getElem.1 hm
        refine HJ.out j (by have := L.out; omega) ?_
        rw [List.getD_eq_getElem?_getD, List.getElem?_eq_getElem hj]
        rfl
      go_wp2
      go_ret
      exact ⟨-1, rfl, ⟨fun h => by omega, fun h => absurd h HR.out⟩, by omega, by omega, rfl⟩
end Go.Proofs.YtnfbfdamlnjblaaGreatDoor
