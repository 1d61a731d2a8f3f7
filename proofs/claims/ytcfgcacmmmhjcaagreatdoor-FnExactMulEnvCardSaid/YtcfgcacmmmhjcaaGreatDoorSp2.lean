/-
  The reference's sums and brackets: l2Plus, l2Bracket.
-/
import Derived.Test.YtcfgcacmmmhjcaaGreatDoorSp1
namespace Go.Proofs.YtcfgcacmmmhjcaaGreatDoor
open Go.RowKit

set_option maxHeartbeats 1000000 in
theorem l2Plus_any (a a' : Option Addr) (n c c' : Nat) (xs ys : List Int) (p : Int) (w : World) (h : IntsAt w a n xs) (h' : IntsAt w a' n ys) (hn : n ≤ 1000000)
    (hx : Res p xs) (hy : Res p ys) (hp0 : 1 ≤ p) (hp1 : p ≤ 10007) :
    Calls Tryz.prog 84 #[.int .i64 p, .slice a n c, .slice a' n c'] w fun e w' => ∃ b, e = .returned (.slice b n n) ∧ OwnI w' w.heap.size b n n (addL p xs 1 ys) ∧ Ext w w' := by
  have hm := OwnI.made w w.heap.size n (Nat.le_refl _) (by unfold maxLen; omega)
  have hst := UpdI.start hm.ints
  have HX := hidP hx
  have HY := hidP hy
  have HG := hidP h
  have HG' := hidP h'
  have L := hidP h.len
  have L' := hidP h'.len
  have LA := hidP ((addL_length p xs 1 ys).trans h.len)
  have hmk := make_ints (n : Int) (by omega) (by omega)
  simp only [Int.toNat_natCast] at hmk
  have hx0 := Ext.alloc w (.cells (Array.replicate n (.int .i64 0)) 3)
  have hsz : w.heap.size < (w.alloc (.cells (Array.replicate n (.int .i64 0)) 3)).heap.size := by simp
  clear h h' hx hy
  go_enter Tryz.func84, Tryz.ntmps84
  go_wp2
  obtain ⟨w1, hw1⟩ : ∃ w1, w1 = w.alloc (.cells (Array.replicate n (.int .i64 0)) 3) := ⟨_, rfl⟩
  rw [← hw1] at hm hst hx0 hsz ⊢
  have HM := hidP hm
  have HST := hidP hst
  have HX0 := hidP hx0
  clear hw1 hm hst hmk hx0
  go_loopw [8] (fun i wr => ∃ j : Nat, j ≤ n ∧ Hid (UpdI w1 wr (some ⟨w.heap.size, 0, none⟩) n (partly (List.replicate n 0) (addL p xs 1 ys) j)) ∧ i = .int .i64 j) (fun i _ => n - (intOf i).toNat)
  case atStart => exact ⟨0, Nat.zero_le _, by rw [partly_zero]; exact HST, rfl⟩
  case round =>
    obtain ⟨j, hj, HU, rfl⟩ := hrel
    by_cases hlt : j < n
    · have hB : Ext w wr := HU.out.below HX0.out (by omega) (fun b o e _ => by cases e; exact Nat.le_refl _)
      obtain ⟨b, o, rfl, q⟩ := (HG.out.below (hB.trans (Ext.drew wr))).get j hlt
      obtain ⟨b', o', rfl, q'⟩ := (HG'.out.below (hB.trans (Ext.drew wr))).get j hlt
      have hu := HU.out.drew
      have hz : wr.drew.frozen? ⟨w.heap.size, 0 + j, none⟩ = false := (hu.own HM.out).unfrozen j _ _ hlt rfl
      obtain ⟨qd, _⟩ := hu.cellInt j hlt
      obtain ⟨x0, x1⟩ := HX.out j (by have := L.out; omega)
      obtain ⟨y0, y1⟩ := HY.out j (by have := L'.out; omega)
      have hs := hu.store j hlt ((xs.getD j 0 + 1 * ys.getD j 0) % p)
      have hg := addL_get p xs 1 ys j (by have := L.out; omega)
      rw [← hg, partly_succ (List.replicate n 0) _ n j hlt (by simp) LA.out, hg, Int.one_mul] at hs
      have e1 : IntKind.i64.wrap (xs.getD j 0 + ys.getD j 0) = xs.getD j 0 + ys.getD j 0 := wrap_in (by omega) (by omega)
      have e2 : Int.tmod (xs.getD j 0 + ys.getD j 0) p = (xs.getD j 0 + ys.getD j 0) % p := Int.tmod_eq_emod_of_nonneg (by omega)
      generalize xs.getD j 0 = x at *
      generalize ys.getD j 0 = y at *
      rw [Nat.zero_add] at hs hz qd
      generalize (partly (List.replicate n 0) (addL p xs 1 ys) j).getD j 0 = v0 at qd
      have HS := hidP hs
      clear hs hg hu hB
      go_wp2
      have hE : wr.drew = wr.drew := rfl
      have hpz : ¬ p = 0 := by omega
      (refine walkR_start (fun w' => w' = wr.drew) 14 (by kernel_rfl) ?_; simp only [numbered, List.take_succ_cons, List.take_zero, Nat.zero_add, Nat.reduceAdd, List.length_cons, List.length_nil])
      repeat (refine walkR_still (v := ?_) rfl (by decide +kernel) rfl (fun _ _ _ h => h) hE ?_ ?_; rotate_left; (focus (intro w' hw'; subst hw'; go_simp; all_goals (with_reducible rfl))); simp only [Act.put, List.setIfInBounds_toArray, List.set_cons_zero, List.set_cons_succ])
      (refine walkR_tail (by rfl) (by kernel_rfl) ?_; simp only [List.drop_succ_cons, List.drop_zero])
      go_wp2
      go_roundw
      case rel => exact ⟨j + 1, by omega, HS.out, by go_num⟩
      case measure => simp [intOf]; omega
    · have hu := HU.out
      obtain rfl : j = n := by omega
      rw [partly_all _ _ _ (by simp) LA.out] at hu
      have ho := hidP (hu.own HM.out)
      have hx := hidP (hu.below HX0.out (by omega) (fun b o e _ => by cases e; exact Nat.le_refl _))
      clear hu
      go_wp2
      go_ret
      exact ⟨_, rfl, ho.out, hx.out⟩
end Go.Proofs.YtcfgcacmmmhjcaaGreatDoor
