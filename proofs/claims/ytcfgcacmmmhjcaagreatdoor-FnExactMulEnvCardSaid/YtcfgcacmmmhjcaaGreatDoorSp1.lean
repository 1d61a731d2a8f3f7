/-
  The reference's small functions on lists: l1Residues, l1IsZero, l2Get, l2Row, l2Basis, l2Plus.
-/
import Derived.Test.YtcfgcacmmmhjcaaGreatDoorAlgP
namespace Go.Proofs.YtcfgcacmmmhjcaaGreatDoor
open Go.RowKit

set_option maxHeartbeats 1000000 in
theorem l1Residues_any (a : Option Addr) (n c : Nat) (xs : List Int) (p : Int) (w : World) (h : IntsAt w a n xs) (hn : n ≤ 1000000000000) :
    Calls Tryz.prog 60 #[.slice a n c, .int .i64 p] w fun e w' => e = .returned (.bool (resB p xs)) ∧ w = w' := by
  have G := hidP h
  clear h
  go_enter Tryz.func60, Tryz.ntmps60
  go_wp2
  go_loop [5] (fun i => ∃ k : Nat, k ≤ n ∧ Hid (∀ j, j < k → 0 ≤ xs.getD j 0 ∧ xs.getD j 0 < p) ∧ i = .int .i64 k) (fun i => n - (intOf i).toNat)
  case atStart => exact ⟨0, Nat.zero_le _, fun j h => by omega, rfl⟩
  case round =>
    obtain ⟨k, hk, HJ, rfl⟩ := hrel
    by_cases hlt : k < n
    · obtain ⟨b, o, rfl, q⟩ := G.out.get k hlt
      have HL := hidP G.out.len
      by_cases hok : 0 ≤ xs.getD k 0 ∧ xs.getD k 0 < p
      · have HO := hidP hok
        obtain ⟨h0, h1⟩ := hok
        rw [List.getD_eq_getElem?_getD] at h0 h1
        have hd : decide (xs[k]?.getD 0 < 0) = false := by simp; omega
        go_wp2
        go_round
        case rel =>
          refine ⟨k + 1, by omega, fun j hj => ?_, by go_num⟩
          rcases Nat.lt_succ_iff_lt_or_eq.1 hj with h3 | rfl
          · exact HJ.out j h3
          · exact HO.out
        case measure => simp [intOf]; omega
      · have HB : Hid (resB p xs = false) := by
          show _ = _
          rw [Bool.eq_false_iff, ne_eq, resB_true]
          exact fun h => hok (h k (by have := HL.out; omega))
        rw [List.getD_eq_getElem?_getD] at hok
        by_cases h0 : xs[k]?.getD 0 < 0
        · have hd : decide (xs[k]?.getD 0 < 0) = true := by simp; omega
          clear hok
          go_wp2
          go_ret
          exact ⟨ret_bool HB.out.symm, rfl⟩
        · have hd : decide (xs[k]?.getD 0 < 0) = false := by simp; omega
          have h1 : p ≤ xs[k]?.getD 0 := by omega
          clear hok
          go_wp2
          go_ret
          exact ⟨ret_bool HB.out.symm, rfl⟩
    · have HB : Hid (resB p xs = true) := by
        show _ = _
        rw [resB_true]
        exact fun j hj => HJ.out j (by have := G.out.len; omega)
      go_wp2
      go_ret
      exact ⟨ret_bool HB.out.symm, rfl⟩
set_option maxHeartbeats 1000000 in
theorem l1IsZero_any (a : Option Addr) (n c : Nat) (xs : List Int) (w : World) (h : IntsAt w a n xs) (hn : n ≤ 1000000000000) :
    Calls Tryz.prog 85 #[.slice a n c] w fun e w' => e = .returned (.bool (zeroB xs)) ∧ w = w' := by
  have G := hidP h
  clear h
  go_enter Tryz.func85, Tryz.ntmps85
  go_wp2
  go_loop [3] (fun i => ∃ k : Nat, k ≤ n ∧ Hid (∀ j, j < k → xs.getD j 0 = 0) ∧ i = .int .i64 k) (fun i => n - (intOf i).toNat)
  case atStart => exact ⟨0, Nat.zero_le _, fun j h => by omega, rfl⟩
  case round =>
    obtain ⟨k, hk, HJ, rfl⟩ := hrel
    by_cases hlt : k < n
    · obtain ⟨b, o, rfl, q⟩ := G.out.get k hlt
      have HL := hidP G.out.len
      by_cases hok : xs.getD k 0 = 0
      · have HO := hidP hok
        have hd : (xs[k]?.getD 0 != 0) = false := by rw [← List.getD_eq_getElem?_getD, hok]; rfl
        clear hok
        go_wp2
        go_round
        case rel =>
          refine ⟨k + 1, by omega, fun j hj => ?_, by go_num⟩
          rcases Nat.lt_succ_iff_lt_or_eq.1 hj with h3 | rfl
          · exact HJ.out j h3
          · exact HO.out
        case measure => simp [intOf]; omega
      · have HB : Hid (zeroB xs = false) := by
          show _ = _
          rw [Bool.eq_false_iff, ne_eq, zeroB_true]
          exact fun h => hok (h k (by have := HL.out; omega))
        have hd : (xs[k]?.getD 0 != 0) = true := by rw [← List.getD_eq_getElem?_getD]; exact bne_iff_ne.2 hok
        clear hok
        go_wp2
        go_ret
        exact ⟨ret_bool HB.out.symm, rfl⟩
    · have HB : Hid (zeroB xs = true) := by
        show _ = _
        rw [zeroB_true]
        exact fun j hj => HJ.out j (by have := G.out.len; omega)
      go_wp2
      go_ret
      exact ⟨ret_bool HB.out.symm, rfl⟩
set_option maxHeartbeats 1000000 in
theorem l2Get_any (p : Int) (d i j k : Nat) (b o N c : Nat) (t : List Int) (w : World) (ht : IntsAt w (some ⟨b, o, none⟩) N t) (hd : d ≤ 28) (hi : i < d) (hj : j < d) (hk : k < d) (hN : N = d * d * d) :
    Calls Tryz.prog 61 #[algV p d (some ⟨b, o, none⟩) N c, .int .i64 i, .int .i64 j, .int .i64 k] w fun e w' => e = .returned (.int .i64 (tab t d i j k)) ∧ Ext w w' := by
  have hx := nidx_lt hi hj
  have h1 : i * d ≤ 28 * 28 := Nat.mul_le_mul (by omega) hd
  have h2 : (i * d + j) * d ≤ 900 * 28 := Nat.mul_le_mul (by omega) hd
  have e2 : 0 ≤ (i : Int) * d := Int.mul_nonneg (by omega) (by omega)
  have e3 : (i : Int) * d ≤ 784 := by
    have : ((i * d : Nat) : Int) ≤ 784 := by omega
    rwa [Int.natCast_mul] at this
  have hq := ht.atc ((i * d + j) * d + k) (by omega)
  have HT : Hid (tab t d i j k = t.getD ((i * d + j) * d + k) 0) := rfl
  obtain ⟨m, hm⟩ : ∃ m, (i * d + j) * d = m := ⟨_, rfl⟩
  have e4 : ((i : Int) * d + j) * d = (m : Int) := by rw [← hm]; simp
  rw [hm] at hx h2 hq HT
  have hlt : m + k < N := by omega
  have hq2 : (w.alloc (.cells #[.int .i64 p, .int .i64 (d : Int), .slice (some ⟨b, o, none⟩) N c] 28)).cell? ⟨b, o + (m + k), none⟩ = some (.int .i64 (t.getD (m + k) 0)) :=
    ((Ext.alloc w _).cell (p := ⟨b, o + (m + k), none⟩) (World.block_lt_of_cell? w _ hq)).trans hq
  have hbw := World.block_lt_of_cell? w _ hq
  have HTL := hidP hN
  clear hm h1 hx ht hN hq2
  go_enter Tryz.func61, Tryz.ntmps61
  go_wp2
  go_ret
  exact ⟨ret_int HT.out.symm, Ext.alloc _ _⟩
set_option maxHeartbeats 1000000 in
theorem l2Row_any (p : Int) (d i j : Nat) (b o N c : Nat) (w : World) (hd : d ≤ 28) (hi : i < d) (hj : j < d) (hN : d * d * d ≤ N) (hc : N ≤ c) (hc2 : c ≤ 1000000000000) :
    Calls Tryz.prog 80 #[algV p d (some ⟨b, o, none⟩) N c, .int .i64 i, .int .i64 j] w fun e w' => e = .returned (.slice (some ⟨b, o + (i * d + j) * d, none⟩) d (c - (i * d + j) * d)) ∧ Ext w w' := by
  have hx := nidx_lt hi hj
  have h1 : i * d ≤ 28 * 28 := Nat.mul_le_mul (by omega) hd
  have h2 : (i * d + j) * d ≤ 900 * 28 := Nat.mul_le_mul (by omega) hd
  have e2 : 0 ≤ (i : Int) * d := Int.mul_nonneg (by omega) (by omega)
  have e3 : (i : Int) * d ≤ 784 := by
    have : ((i * d : Nat) : Int) ≤ 784 := by omega
    rwa [Int.natCast_mul] at this
  have h5 : (i * d + j + 1) * d = (i * d + j) * d + d := by rw [Nat.add_mul, Nat.one_mul]
  obtain ⟨t, ht⟩ : ∃ t, (i * d + j) * d = t := ⟨_, rfl⟩
  have e4 : ((i : Int) * d + j) * d = (t : Int) := by rw [← ht]; simp
  have e5 : ((i : Int) * d + j + 1) * d = ((t + d : Nat) : Int) := by rw [← ht, ← h5]; simp
  rw [ht] at hx h2 ⊢
  have hlt : t < c := by omega
  have ht2 : t + d ≤ c := by omega
  have hct : ¬ c = t := by omega
  clear ht h1 hx hN h5
  go_enter Tryz.func80, Tryz.ntmps80
  go_wp2
  go_ret
  exact ⟨congrArg (fun z => Ending.returned (Value.slice (some ⟨b, o + t, none⟩) z (c - t))) (Nat.add_sub_cancel_left t d), Ext.alloc _ _⟩
/-- the basis element k -/
def basisL (n k : Nat) : List Int := (List.replicate n 0).set k 1
theorem basisL_length (n k : Nat) : (basisL n k).length = n := by simp [basisL]
theorem basisL_get (n k i : Nat) (hi : i < n) : (basisL n k).getD i 0 = if i = k then 1 else 0 := by
  simp only [basisL, List.getD_eq_getElem?_getD, List.getElem?_set, List.length_replicate]
  by_cases h : k = i
  · subst h
    simp [hi]
  · simp [h, hi, Ne.symm h]
theorem l2Basis_any (n k : Nat) (w : World) (hk : k < n) (hn : n ≤ 1000000) :
    Calls Tryz.prog 83 #[.int .i64 n, .int .i64 k] w fun e w' => ∃ a, e = .returned (.slice a n n) ∧ OwnI w' w.heap.size a n n (basisL n k) ∧ Ext w w' := by
  have hm := OwnI.made w w.heap.size n (Nat.le_refl _) (by unfold maxLen; omega)
  have hu := (UpdI.start hm.ints).store k hk 1
  have HO := hidP (hu.own hm)
  have HX := hidP (hu.below (Ext.alloc w _) (by simp) (fun b o e _ => by cases e; exact Nat.le_refl _))
  have hmk := make_ints (n : Int) (by omega) (by omega)
  simp only [Int.toNat_natCast] at hmk
  clear hm hu
  go_enter Tryz.func83, Tryz.ntmps83
  go_wp2
  have hw : (w.alloc (.cells ((Array.replicate n (.int .i64 0)).setIfInBounds k (.int .i64 1)) 3)) = ((w.alloc (.cells (Array.replicate n (.int .i64 0)) 3)).setCell ⟨w.heap.size, 0 + k, none⟩ (.int .i64 1)) := by
    rw [Nat.zero_add, World.setCell_alloc_at]
    rfl
  rw [hw]
  go_ret
  exact ⟨_, rfl, HO.out, HX.out⟩
end Go.Proofs.YtcfgcacmmmhjcaaGreatDoor
