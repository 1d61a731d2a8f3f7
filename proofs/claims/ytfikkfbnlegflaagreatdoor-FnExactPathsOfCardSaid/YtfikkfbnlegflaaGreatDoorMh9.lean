/-
  Slices of bytes, read; the laws' own at0 and big.
  Arguments opened: slices of integers, algebras, slices of a word and a number each; what a call that only makes memory leaves readable.
  The reference's dimension of a highest weight.
  The reference's inner products, coroots, greatest divisors.
  The reference's numbers of lengths.
  The reference's positive roots: the walk. Printed by gen/roots.py.
  The reference's positive roots.
  The reference's places and order of lattice elements.
  Owned slices of rows of integers whose rows are owned each, but may be shared.
  A part of an owned slice of structs, appended to another owned slice; two chains of operations of a region that draws its order.
  The reference's numbers of a lattice element: weights, heights, orders.
-/
import Derived.Test.YtfikkfbnlegflaaGreatDoorMh8
import Derived.Deep.Slices
import Derived.Lib.SmallJoins
import Derived.Carry
import Derived.ChangeSlices
import Derived.ProofKit
import Derived.OpenShut
import Derived.ChangeOld
namespace Go.Proofs.YtfikkfbnlegflaaGreatDoor
open Go.RowKit

end Go.Proofs.YtfikkfbnlegflaaGreatDoor

namespace Go.Proofs.YtfikkfbnlegflaaGreatDoor
open Go.RowKit

variable {α : Type}
end Go.Proofs.YtfikkfbnlegflaaGreatDoor

namespace Go.Proofs.YtfikkfbnlegflaaGreatDoor
open Go.RowKit

end Go.Proofs.YtfikkfbnlegflaaGreatDoor

namespace Go.Proofs.YtfikkfbnlegflaaGreatDoor
open Go.RowKit

end Go.Proofs.YtfikkfbnlegflaaGreatDoor

namespace Go.Proofs.YtfikkfbnlegflaaGreatDoor
open Go.RowKit

end Go.Proofs.YtfikkfbnlegflaaGreatDoor

namespace Go.Proofs.YtfikkfbnlegflaaGreatDoor
open Go.RowKit

end Go.Proofs.YtfikkfbnlegflaaGreatDoor

namespace Go.Proofs.YtfikkfbnlegflaaGreatDoor
open Go.RowKit

end Go.Proofs.YtfikkfbnlegflaaGreatDoor

namespace Go.Proofs.YtfikkfbnlegflaaGreatDoor
open Go.RowKit

end Go.Proofs.YtfikkfbnlegflaaGreatDoor

namespace Go.Proofs.YtfikkfbnlegflaaGreatDoor
open Go.RowKit

def highB (r : Nat) (w : List Int) : Bool := decide (w.length = r) && w.all fun x => insB x 0 3

set_option maxHeartbeats 2000000 in
theorem l8Highest_any (R : Nat) (ta : Option Addr) (tn tc : Nat) (a : Option Addr) (n c : Nat) (W : List Int) (w : World) (h : IntsAt w a n W) (hn : n ≤ 9223372036854775807) (_hR : R ≤ 1000000) :
    Calls Tryz.prog 85 #[carV R ta tn tc, .slice a n c] w fun e w' => e = .returned (.bool (highB R W)) ∧ Ext w w' := by
  have hX := Ext.alloc w (.cells #[.int .i64 R, .slice ta tn tc] 31)
  have G := hidP (h.below hX)
  have HX := hidP hX
  have L := hidP h.len
  obtain ⟨f0, f1⟩ := CarAt.new w _ rfl (R : Int) ta tn tc 31
  clear hX h
  go_enter Tryz.func85, Tryz.ntmps85
  by_cases hnr : n = R
  · have hne : ((n : Int) != (R : Int)) = false := by simp [hnr]
    have HN := hidP hnr
    clear hnr
    go_wp2
    go_loopw [5] (fun i wr => ∃ k : Nat, k ≤ n ∧ Hid (∀ j, j < k → insB (W.getD j 0) 0 3 = true) ∧ i = .int .i64 k ∧ wr = w.alloc (.cells #[.int .i64 R, .slice ta tn tc] 31)) (fun i _ => n - (intOf i).toNat)
    case atStart => exact ⟨0, Nat.zero_le _, fun j h => by omega, rfl, rfl⟩
    case round =>
      obtain ⟨k, hk, HJ, rfl, rfl⟩ := hrel
      by_cases hlt : k < n
      · obtain ⟨b, o, rfl, q⟩ := G.out.get k hlt
        cases hin : insB (W.getD k 0) 0 3
        · have HB : Hid (highB R W = false) := by
            show _ = _
            have hkl : k < W.length := by have := L.out; omega
            unfold highB
            rw [Bool.and_eq_false_iff]
            right
            rw [List.all_eq_false]
            refine ⟨W.getD k 0, ?_, by rw [hin]; simp⟩
            rw [List.getD_eq_getElem?_getD, List.getElem?_eq_getElem hkl]
            exact List.getElem_mem hkl
          have hin' : insB (W[k]?.getD 0) 0 3 = false := by simpa [List.getD_eq_getElem?_getD] using hin
          clear hin
          go_wp2_with (go_at_call 54; refine (l1In_any _ _ _ _).mono ?_; rintro e w' ⟨rfl, rfl⟩)
          go_ret
          exact ⟨ret_bool HB.out.symm, HX.out⟩
        · have hin' : insB (W[k]?.getD 0) 0 3 = true := by simpa [List.getD_eq_getElem?_getD] using hin
          have HI := hidP hin
          clear hin
          go_wp2_with (go_at_call 54; refine (l1In_any _ _ _ _).mono ?_; rintro e w' ⟨rfl, rfl⟩)
          go_roundw
          case rel =>
            refine ⟨k + 1, by omega, fun j hj => ?_, by go_num, trivial⟩
            rcases Nat.lt_succ_iff_lt_or_eq.1 hj with h3 | rfl
            · exact HJ.out j h3
            · exact HI.out
          case measure => simp [intOf]; omega
      · have HB : Hid (highB R W = true) := by
          show _ = _
          unfold highB
          rw [Bool.and_eq_true, decide_eq_true_eq, List.all_eq_true]
          refine ⟨by have := L.out; have := HN.out; omega, fun x hx => ?_⟩
          obtain ⟨j, hj, rfl⟩ := List.mem_iff_getElem.1 hx
          have := HJ.out j (by have := L.out; omega)
          rwa [List.getD_eq_getElem?_getD, List.getElem?_eq_getElem hj] at this
        go_wp2
        go_ret
        exact ⟨ret_bool HB.out.symm, HX.out⟩
  · have hne : ((n : Int) != (R : Int)) = true := bne_iff_ne.2 (by omega)
    have HB : Hid (highB R W = false) := by
      show _ = _
      unfold highB
      rw [Bool.and_eq_false_iff]
      left
      rw [decide_eq_false_iff_not]
      have := L.out
      omega
    go_wp2
    go_ret
    exact ⟨ret_bool HB.out.symm, HX.out⟩
end Go.Proofs.YtfikkfbnlegflaaGreatDoor

namespace Go.Proofs.YtfikkfbnlegflaaGreatDoor
open Go.ChangeShapes Go.WideShapes Go.ChangeAt Go.RowKit Go.Joins Go.Deep

theorem plain_of_cell {w : World} {a : Addr} {v : Value} (h : w.cell? (a.add 0) = some v) : a = ⟨a.block, a.off, none⟩ := by
  unfold Addr.add at h
  simp only [if_true] at h
  unfold World.cell? at h
  split at h
  · split at h
    · cases h
    · rename_i hs
      cases a
      simp at hs
      simp [hs]
  · cases h
theorem add_plain (b o i : Nat) : (⟨b, o, none⟩ : Addr).add i = ⟨b, o + i, none⟩ := by
  unfold Addr.add
  split
  · subst_vars; rfl
  · rfl
section
variable {H : Type} {enc : TypeId × Value → H} {P : Program} {w : World} {base : Nat} {spare : Nat → Bool} {held : Bool}

theorem ints_in {t e : TypeId} {fuel : Nat} {cs : List Value} {x : DataW H × List MemPlace} (ht : P.underlying t = some (.slice e)) (he : P.underlying e = some (.int .i64)) (hc : P.cellsOf e = 1)
    (h : DataW.trod enc P w base spare held fuel t cs = some x) : ∃ ao n c xs, cs = [.slice ao n c] ∧ IntsAt w ao n xs ∧ n ≤ c ∧ n ≤ 9223372036854775807 ∧ (ao = none → c = 0) ∧ ∀ i, i < n → -9223372036854775808 ≤ xs.getD i 0 ∧ xs.getD i 0 ≤ 9223372036854775807 := by
  rcases open_ints ht he hc h with ⟨rfl, _⟩ | ⟨a, len, cap, zs, rfl, _, hl, hm, hz, _, hcell, hwf⟩
  · exact ⟨none, 0, 0, [], rfl, IntsAt.nil _ _, Nat.le_refl _, by omega, fun _ => rfl, fun i h => by omega⟩
  · have hlen : len ≤ zs.length := by rw [hz]; split <;> omega
    refine ⟨some a, len, cap, zs.take len, rfl, ⟨by simp [hlen], fun i hi => ?_⟩, hl, by unfold maxLen at hm; omega, (fun h => by cases h), fun i hi => ?_⟩
    · have h0 := plain_of_cell (hcell 0 (by omega))
      have hi' := hcell i (by omega)
      rw [h0, add_plain] at hi'
      exact ⟨_, _, congrArg some h0, by rw [hi']; simp [List.getD_eq_getElem?_getD, hi]⟩
    · have hmem : (zs.take len).getD i 0 ∈ zs := by
        simp only [List.getD_eq_getElem?_getD, List.getElem?_take, hi, if_true]
        rw [List.getElem?_eq_getElem (by omega)]
        exact List.getElem_mem _
      have := hwf _ hmem
      simpa [Lit.wf, IntKind.min, IntKind.signed, IntKind.bits] using this

end
end Go.Proofs.YtfikkfbnlegflaaGreatDoor

namespace Go.Proofs.YtfikkfbnlegflaaGreatDoor
open Go.ChangeShapes Go.WideShapes Go.ChangeAt Go.RowKit Go.Joins Go.Deep

end Go.Proofs.YtfikkfbnlegflaaGreatDoor
