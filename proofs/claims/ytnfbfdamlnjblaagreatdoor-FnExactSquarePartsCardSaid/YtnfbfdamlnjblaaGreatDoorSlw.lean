/-
  The library's functions on slices of integers, for slices that read as lists: Contains, Index, Min, Equal.
-/
import Derived.Test.YtnfbfdamlnjblaaGreatDoorApp
import Derived.Test.YtnfbfdamlnjblaaGreatDoorShl
import Derived.Deep.QuietTactic
namespace Go.Proofs.YtnfbfdamlnjblaaGreatDoor
open Go.RowKit

theorem IntsAt.cells {w : World} {b o n : Nat} {xs : List Int} (h : IntsAt w (some ⟨b, o, none⟩) n xs) : ∀ j, j < xs.length → w.cell? ⟨b, o + j, none⟩ = some (.int .i64 (xs.getD j 0)) :=
  fun j hj => h.atc j (by rw [← h.len]; exact hj)
theorem IntsAt.zero {w : World} {a : Option Addr} {n : Nat} {xs : List Int} (h : IntsAt w a n xs) (h0 : n = 0) : xs = [] := List.eq_nil_of_length_eq_zero (by rw [h.len, h0])

theorem containsI_any (a : Option Addr) (n c : Nat) (xs : List Int) (x : Int) (w : World) (h : IntsAt w a n xs) (hn : n ≤ 1000000000000) :
    Calls Tryz.prog 208 #[.slice a n c, .int .i64 x] w fun e w' => e = .returned (.bool (xs.contains x)) ∧ w' = w := by
  have hl := h.len
  rcases Nat.eq_zero_or_pos n with rfl | h0
  · rw [h.zero rfl]
    exact (Tryz.slices_Contains_int_empty a c x w)
  · obtain ⟨b, o, rfl, _⟩ := h.get 0 h0
    refine (Tryz.slices_Contains_int b o n c xs x w (by omega) (by omega) h.cells).mono fun e w' ⟨he, hw⟩ => ⟨?_, hw⟩
    rw [he, List.take_of_length_le (by omega)]
theorem indexI_any (a : Option Addr) (n c : Nat) (xs : List Int) (x : Int) (w : World) (h : IntsAt w a n xs) (hn : n ≤ 1000000000000) :
    Calls Tryz.prog 220 #[.slice a n c, .int .i64 x] w fun e w' => e = .returned (.int .i64 (Lib.idxOf xs x)) ∧ w' = w := by
  have hl := h.len
  rcases Nat.eq_zero_or_pos n with rfl | h0
  · rw [h.zero rfl]
    exact (Tryz.slices_Index_int_empty a c x w)
  · obtain ⟨b, o, rfl, _⟩ := h.get 0 h0
    refine (Tryz.slices_Index_int b o n c xs x w (by omega) (by omega) h.cells).mono fun e w' ⟨he, hw⟩ => ⟨?_, hw⟩
    rw [he, List.take_of_length_le (by omega)]
end Go.Proofs.YtnfbfdamlnjblaaGreatDoor
