/-
  The library's functions on slices of integers, for slices that read as lists: Contains, Index, Min, Equal.
-/
import Derived.Test.YtfikkfbnlegflaaGreatDoorApp
import Derived.Test.YtfikkfbnlegflaaGreatDoorShl
import Derived.Deep.QuietTactic
namespace Go.Proofs.YtfikkfbnlegflaaGreatDoor
open Go.RowKit

theorem IntsAt.cells {w : World} {b o n : Nat} {xs : List Int} (h : IntsAt w (some ⟨b, o, none⟩) n xs) : ∀ j, j < xs.length → w.cell? ⟨b, o + j, none⟩ = some (.int .i64 (xs.getD j 0)) :=
  fun j hj => h.atc j (by rw [← h.len]; exact hj)
theorem IntsAt.zero {w : World} {a : Option Addr} {n : Nat} {xs : List Int} (h : IntsAt w a n xs) (h0 : n = 0) : xs = [] := List.eq_nil_of_length_eq_zero (by rw [h.len, h0])

theorem containsI_any (a : Option Addr) (n c : Nat) (xs : List Int) (x : Int) (w : World) (h : IntsAt w a n xs) (hn : n ≤ 1000000000000) :
    Calls Tryz.prog 167 #[.slice a n c, .int .i64 x] w fun e w' => e = .returned (.bool (xs.contains x)) ∧ w' = w := by
  have hl := h.len
  rcases Nat.eq_zero_or_pos n with rfl | h0
  · rw [h.zero rfl]
    exact (Tryz.slices_Contains_int_empty a c x w)
  · obtain ⟨b, o, rfl, _⟩ := h.get 0 h0
    refine (Tryz.slices_Contains_int b o n c xs x w (by omega) (by omega) h.cells).mono fun e w' ⟨he, hw⟩ => ⟨?_, hw⟩
    rw [he, List.take_of_length_le (by omega)]
theorem indexI_any (a : Option Addr) (n c : Nat) (xs : List Int) (x : Int) (w : World) (h : IntsAt w a n xs) (hn : n ≤ 1000000000000) :
    Calls Tryz.prog 101 #[.slice a n c, .int .i64 x] w fun e w' => e = .returned (.int .i64 (Lib.idxOf xs x)) ∧ w' = w := by
  have hl := h.len
  rcases Nat.eq_zero_or_pos n with rfl | h0
  · rw [h.zero rfl]
    exact (Tryz.slices_Index_int_empty a c x w)
  · obtain ⟨b, o, rfl, _⟩ := h.get 0 h0
    refine (Tryz.slices_Index_int b o n c xs x w (by omega) (by omega) h.cells).mono fun e w' ⟨he, hw⟩ => ⟨?_, hw⟩
    rw [he, List.take_of_length_le (by omega)]
theorem minI_any (a : Option Addr) (n c : Nat) (xs : List Int) (w : World) (h : IntsAt w a n xs) (h0 : 0 < n) (hn : n ≤ 1000000000000) :
    Calls Tryz.prog 82 #[.slice a n c] w fun e w' => e = .returned (.int .i64 (Lib.minOf xs)) ∧ w' = w := by
  have hl := h.len
  obtain ⟨b, o, rfl, _⟩ := h.get 0 h0
  refine (Tryz.slices_Min_int b o n c xs w h0 (by omega) (by omega) h.cells).mono fun e w' ⟨he, hw⟩ => ⟨?_, hw⟩
  rw [he, List.take_of_length_le (by omega)]
theorem equalI_any (a a' : Option Addr) (n c n' c' : Nat) (xs ys : List Int) (w : World) (h : IntsAt w a n xs) (h' : IntsAt w a' n' ys) (hn : n ≤ 1000000000000) (hn' : n' ≤ 1000000000000) :
    Calls Tryz.prog 79 #[.slice a n c, .slice a' n' c'] w fun e w' => e = .returned (.bool (xs == ys)) ∧ ∃ m, w' = w.drewN m := by
  have hl := h.len
  have hl' := h'.len
  by_cases hnn : n = n'
  · subst hnn
    rcases Nat.eq_zero_or_pos n with rfl | h0
    · rw [h.zero rfl, h'.zero rfl]
      exact (Tryz.slices_Equal_int_empty a a' c 0 c' w (by omega)).mono fun e w' ⟨he, hw⟩ => ⟨he, 0, hw⟩
    · obtain ⟨b, o, rfl, _⟩ := h.get 0 h0
      obtain ⟨b', o', rfl, _⟩ := h'.get 0 h0
      refine (Tryz.slices_Equal_int b o n c b' o' n c' xs ys w (by omega) (by omega) (by omega) (by omega) h.cells h'.cells).mono fun e w' ⟨he, hw⟩ => ⟨?_, hw⟩
      rw [he, List.take_of_length_le (by omega), List.take_of_length_le (by omega)]
  · have hb : (xs == ys) = false := by
      rw [beq_eq_false_iff_ne]
      intro e
      rw [e] at hl
      omega
    rw [hb]
    exact (Tryz.slices_Equal_int_lens a a' n c n' c' w hnn).mono fun e w' ⟨he, hw⟩ => ⟨he, 0, hw⟩
end Go.Proofs.YtfikkfbnlegflaaGreatDoor
