/-
  The laws' own comparisons of lists: lexLess, ints.
-/
import Derived.Test.YthbdcclglopkiaaDoorWrd
import Derived.BigQuiet
import Derived.Deep.QuietTactic
namespace Go.Proofs.YthbdcclglopkiaaDoor
open Go.RowKit

set_option maxHeartbeats 1000000 in
theorem lexLess_any (a a' : Option Addr) (n n' c c' : Nat) (xs ys : List Int) (w : World) (h : IntsAt w a n xs) (h' : IntsAt w a' n' ys) (hn : n ≤ 1000000000000) (_hn' : n' ≤ 1000000000000) :
    Calls Tryd.prog 14 #[.slice a n c, .slice a' n' c'] w fun e w' => e = .returned (.bool (decide (lexC xs ys < 0))) ∧ Ext w w' := by
  have G := hidP h
  have G' := hidP h'
  have L := hidP h.len
  have L' := hidP h'.len
  clear h h'
  go_enter Tryd.func14, Tryd.ntmps14
  go_wp2
  go_loopw [5] (fun i wr => ∃ k m : Nat, k ≤ n ∧ k ≤ n' ∧ Hid (∀ j, j < k → xs.getD j 0 = ys.getD j 0) ∧ i = .int .i64 k ∧ wr = w.drewN m) (fun i _ => n - (intOf i).toNat)
  case atStart => exact ⟨0, 0, Nat.zero_le _, Nat.zero_le _, fun j h => by omega, rfl, rfl⟩
  case round =>
    obtain ⟨k, m, hk, hk', HJ, rfl, rfl⟩ := hrel
    by_cases hlt : k < n
    · obtain ⟨b, o, rfl, q⟩ := G.out.get k hlt
      by_cases hlt' : k < n'
      · obtain ⟨b', o', rfl, q'⟩ := G'.out.get k hlt'
        by_cases hd : xs.getD k 0 = ys.getD k 0
        · have hb : (xs[k]?.getD 0 != ys[k]?.getD 0) = false := by simpa [List.getD_eq_getElem?_getD] using hd
          have HD := hidP hd
          clear hd
          go_wp2
          go_quiet (fail)
          go_wp2
          go_roundw
          case rel =>
            refine ⟨k + 1, m + nq, by omega, by omega, fun j hj => ?_, by go_num, by simp⟩
            rcases Nat.lt_succ_iff_lt_or_eq.1 hj with h3 | rfl
            · exact HJ.out j h3
            · exact HD.out
          case measure => simp [intOf]; omega
        · have hb : (xs[k]?.getD 0 != ys[k]?.getD 0) = true := by simpa [List.getD_eq_getElem?_getD] using hd
          have HB := hidP (lexC_at xs ys k (by have := L.out; omega) (by have := L'.out; omega) HJ.out (fun e => hd (cmpI_zero e)))
          have HD : Hid (decide (lexC xs ys < 0) = decide (xs[k]?.getD 0 < ys[k]?.getD 0)) := by
            show _ = _
            rw [HB.out, List.getD_eq_getElem?_getD, List.getD_eq_getElem?_getD]
            unfold cmpI
            split
            · simp; omega
            · split
              · simp; omega
              · simp; omega
          clear hd
          go_wp2
          go_quiet (fail)
          go_wp2
          go_quiet (fail)
          go_wp2
          go_ret
          refine ⟨ret_bool HD.out.symm, ?_⟩
          simp only [World.drewN_drewN]
          exact Ext.drewN _ _
      · have HB := hidP (lexC_end_y xs ys (by have := L.out; have := L'.out; omega) fun j hj => HJ.out j (by have := L'.out; omega))
        have HD : Hid (decide (lexC xs ys < 0) = false) := by show _ = _; rw [HB.out]; rfl
        have hgt : ¬ n < n' := by omega
        go_wp2
        go_ret
        exact ⟨ret_bool HD.out.symm, Ext.drewN _ _⟩
    · obtain rfl : k = n := by omega
      by_cases hl : k < n'
      · have HB := hidP (lexC_end_x xs ys (by have := L.out; have := L'.out; omega) fun j hj => HJ.out j (by have := L.out; omega))
        have HD : Hid (decide (lexC xs ys < 0) = true) := by show _ = _; rw [HB.out]; rfl
        go_wp2
        go_ret
        exact ⟨ret_bool HD.out.symm, Ext.drewN _ _⟩
      · have HB := hidP (lexC_end xs ys (by have := L.out; have := L'.out; omega) fun j hj => HJ.out j (by have := L'.out; omega))
        have HD : Hid (decide (lexC xs ys < 0) = false) := by show _ = _; rw [HB.out]; rfl
        go_wp2
        go_ret
        exact ⟨ret_bool HD.out.symm, Ext.drewN _ _⟩
set_option maxHeartbeats 1000000 in
theorem intsEq_any (a1 a2 : Option Addr) (n1 n2 c1 c2 : Nat) (xs ys : List Int) (w : World) (h1 : IntsAt w a1 n1 xs) (h2 : IntsAt w a2 n2 ys) (hm1 : n1 ≤ 9223372036854775807) (hm2 : n2 ≤ 9223372036854775807) :
    Calls Tryd.prog 15 #[.slice a1 n1 c1, .slice a2 n2 c2] w fun e w' => e = .returned (.bool (xs == ys)) ∧ Ext w w' := by
  obtain ⟨l1, g1⟩ := h1
  obtain ⟨l2, g2⟩ := h2
  have G1 := hidP g1
  have G2 := hidP g2
  have L1 := hidP l1
  have L2 := hidP l2
  clear g1 g2 l1 l2
  by_cases hne : n1 = n2
  · subst hne
    go_enter Tryd.func15, Tryd.ntmps15
    go_wp2
    go_loopw [5] (fun i wr => ∃ k m : Nat, k ≤ n1 ∧ Hid (∀ j, j < k → xs.getD j 0 = ys.getD j 0) ∧ i = .int .i64 k ∧ wr = w.drewN m) (fun i _ => n1 - (intOf i).toNat)
    case atStart => exact ⟨0, 0, Nat.zero_le _, fun j h => by omega, rfl, rfl⟩
    case round =>
      obtain ⟨k, m, hk, HJ, rfl, rfl⟩ := hrel
      by_cases hlt : k < n1
      · obtain ⟨b1, o1, rfl, q1⟩ := G1.out k hlt
        obtain ⟨b2, o2, rfl, q2⟩ := G2.out k hlt
        by_cases hd : xs.getD k 0 = ys.getD k 0
        · have hb : (xs[k]?.getD 0 != ys[k]?.getD 0) = false := by simpa [List.getD_eq_getElem?_getD] using hd
          have HD := hidP hd
          clear hd
          go_wp2
          go_quiet (fail)
          go_wp2
          go_roundw
          case rel =>
            refine ⟨k + 1, m + nq, by omega, fun j hj => ?_, by go_num, by simp⟩
            rcases Nat.lt_succ_iff_lt_or_eq.1 hj with h3 | rfl
            · exact HJ.out j h3
            · exact HD.out
          case measure => simp [intOf]; omega
        · have hb : (xs[k]?.getD 0 != ys[k]?.getD 0) = true := by simpa [List.getD_eq_getElem?_getD] using hd
          have HB : Hid ((xs == ys) = false) := by
            show _ = _
            rw [beq_eq_false_iff_ne]
            exact fun e => hd (by rw [e])
          clear hd
          go_wp2
          go_quiet (fail)
          go_wp2
          go_ret
          refine ⟨ret_bool HB.out.symm, ?_⟩
          simp only [World.drewN_drewN]
          exact Ext.drewN _ _
      · have HB : Hid ((xs == ys) = true) := by
          show _ = _
          rw [beq_iff_eq]
          exact ints_ext (L1.out.trans L2.out.symm) fun j hj => HJ.out j (by have := L1.out; omega)
        go_wp2
        go_ret
        exact ⟨ret_bool HB.out.symm, Ext.drewN _ _⟩
  · have HB : Hid ((xs == ys) = false) := by
      show _ = _
      rw [beq_eq_false_iff_ne]
      exact fun e => hne (by rw [← L1.out, ← L2.out, e])
    have hb : (((n1 : Nat) : Int) != (n2 : Nat)) = true := bne_iff_ne.2 (by omega)
    clear hne
    go_enter Tryd.func15, Tryd.ntmps15
    go_wp2
    go_ret
    exact ⟨ret_bool HB.out.symm, Ext.refl _⟩
end Go.Proofs.YthbdcclglopkiaaDoor
