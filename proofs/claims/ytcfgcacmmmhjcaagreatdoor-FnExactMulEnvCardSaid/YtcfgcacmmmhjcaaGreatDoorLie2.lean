/-
  The type lie: newLie, pair, right.
-/
import Derived.Test.YtcfgcacmmmhjcaaGreatDoorLie
namespace Go.Proofs.YtcfgcacmmmhjcaaGreatDoor
open Go.RowKit

theorem newLie_any (p d : Int) (a : Option Addr) (n c : Nat) (w : World) :
    Calls Tryz.prog 70 #[algV p d a n c] w fun e w' => e = .returned (algV p d a n c) ∧ Ext w w' := by
  go_enter Tryz.func70, Tryz.ntmps70
  go_wp2
  exact bodyPost_ret (v := algV p d a n c) (by simp [results, Tryz.results70, go_sem]) rfl ⟨rfl, (Ext.alloc w _).trans (Ext.alloc _ _)⟩

set_option maxHeartbeats 1000000 in
theorem pair_any (p : Int) (d i j : Nat) (b o N c : Nat) (w : World) (hd : d ≤ 28) (hi : i < d) (hj : j < d) (hN : d * d * d ≤ N) (hc : N ≤ c) (hc2 : c ≤ 1000000000000) :
    Calls Tryz.prog 71 #[algV p d (some ⟨b, o, none⟩) N c, .int .i64 i, .int .i64 j] w fun e w' => e = .returned (.slice (some ⟨b, o + (i * d + j) * d, none⟩) d (c - (i * d + j) * d)) ∧ Ext w w' := by
  have hx := nidx_lt hi hj
  have h1 : i * d ≤ 28 * 28 := Nat.mul_le_mul (by omega) hd
  have h2 : (i * d + j) * d ≤ 900 * 28 := Nat.mul_le_mul (by omega) hd
  have e2 : 0 ≤ (i : Int) * d := Int.mul_nonneg (by omega) (by omega)
  have e3 : (i : Int) * d ≤ 784 := by
    have : ((i * d : Nat) : Int) ≤ 784 := by omega
    rwa [Int.natCast_mul] at this
  obtain ⟨t, ht⟩ : ∃ t, (i * d + j) * d = t := ⟨_, rfl⟩
  have e4 : ((i : Int) * d + j) * d = (t : Int) := by rw [← ht]; simp
  rw [ht] at hx h2 ⊢
  have hlt : t < c := by omega
  have ht2 : t + d ≤ c := by omega
  have hct : ¬ c = t := by omega
  clear ht h1 hx hN
  go_enter Tryz.func71, Tryz.ntmps71
  go_wp2
  go_ret
  exact ⟨congrArg (fun z => Ending.returned (Value.slice (some ⟨b, o + t, none⟩) z (c - t))) (Nat.add_sub_cancel_left t d), Ext.alloc _ _⟩

set_option maxRecDepth 100000 in
set_option maxHeartbeats 2000000 in
theorem right_any (p : Int) (d j : Nat) (b o N c : Nat) (t : List Int) (au : Option Addr) (cu : Nat) (u : List Int) (w : World) (hd : d ≤ 28) (hj : j < d) (hN : N = d * d * d) (hc : N ≤ c) (hc2 : c ≤ 1000000000000)
    (ht : IntsAt w (some ⟨b, o, none⟩) N t) (hu : IntsAt w au d u) (hp : 1 ≤ p) (hp2 : p ≤ 10007) (hrt : Res p t) (hru : Res p u) :
    Calls Tryz.prog 74 #[algV p d (some ⟨b, o, none⟩) N c, .slice au d cu, .int .i64 j] w fun e w' => ∃ a, e = .returned (.slice a d d) ∧ OwnI w' w.heap.size a d d (rightL p t d u j) ∧ Ext w w' := by
  have HM := hidP (OwnI.made (w.alloc (.cells #[.int .i64 p, .int .i64 (d : Int), .slice (some ⟨b, o, none⟩) N c] 52)) (w.heap.size + 1) d (by simp) (by unfold maxLen; omega))
  have hmk := make_ints (d : Int) (by omega) (by omega)
  simp only [Int.toNat_natCast] at hmk
  have HT := hidP ht
  have HU := hidP hu
  have HRT := hidP hrt
  have HRU := hidP hru
  have LU := hidP hu.len
  have HAL := hidP (AlgAt.new w _ rfl p d (some ⟨b, o, none⟩) N c 52)
  have HX1 := hidP (Ext.alloc w (.cells #[.int .i64 p, .int .i64 (d : Int), .slice (some ⟨b, o, none⟩) N c] 52))
  have LT := hidP (ht.len.trans hN)
  have HN := hidP hN
  have hwb : b < w.heap.size := ht.block_lt (by rw [hN]; exact Nat.mul_pos (Nat.mul_pos (by omega) (by omega)) (by omega))
  clear ht hu hrt hru hN
  go_enter Tryz.func74, Tryz.ntmps74
  go_wp2
  obtain ⟨w0, hw0⟩ : ∃ w0, w0 = w.alloc (.cells #[.int .i64 p, .int .i64 (d : Int), .slice (some ⟨b, o, none⟩) N c] 52) := ⟨_, rfl⟩
  rw [← hw0] at HM HAL HX1 ⊢
  have hsz : w0.heap.size = w.heap.size + 1 := by rw [hw0]; simp
  obtain ⟨w1, hw1⟩ : ∃ w1, w1 = w0.alloc (.cells (Array.replicate d (.int .i64 0)) 3) := ⟨_, rfl⟩
  rw [← hw1] at HM ⊢
  rw [hsz] at HM
  have hx01 : Ext w0 w1 := by rw [hw1]; exact Ext.alloc _ _
  have HX01 := hidP hx01
  have HAL1 := hidP (HAL.out.below hx01)
  have hst := UpdI.start HM.out.ints
  rw [← rightTo_zero p t d u j] at hst
  have HST := hidP hst
  have hsz1 : w.heap.size + 1 < w1.heap.size := by rw [hw1]; simp; omega
  clear hw0 hw1 hx01 hst hmk hsz
  go_loopw [15] (fun i wr => ∃ k : Nat, k ≤ d ∧ Hid (UpdI w1 wr (some ⟨w.heap.size + 1, 0, none⟩) d (rightTo p t d u j k)) ∧ i = .int .i64 k) (fun i _ => d - (intOf i).toNat)
  case atStart => exact ⟨0, Nat.zero_le _, HST, rfl⟩
  case round =>
    obtain ⟨k, hk, HUP, rfl⟩ := hrel
    by_cases hlt : k < d
    · have hOr := HUP.out.own HM.out
      have hALr := HAL1.out.upd HUP.out (fun b' o' e => by cases e; omega)
      have hbw : Below (w.heap.size + 1) w1 wr := HUP.out.below (Below.refl _ _) (by omega) (fun b' o' e _ => by cases e; omega)
      have hx : Ext w wr := Below.trans (HX1.out.trans HX01.out) (hbw.mono (by omega))
      obtain ⟨bu, ou, rfl, q⟩ := (HU.out.below hx).get k hlt
      by_cases hz : u.getD k 0 = 0
      · have hb : (u[k]?.getD 0 != 0) = false := by simpa [List.getD_eq_getElem?_getD] using hz
        have HS := hidP (rightTo_skip p t d u j k hz)
        clear hz hOr hALr hbw hx
        go_wp2
        go_roundw
        case rel => exact ⟨k + 1, by omega, (by rw [HS.out]; exact HUP.out), by go_num⟩
        case measure => simp [intOf]; omega
      · have hb : (u[k]?.getD 0 != 0) = true := by simpa [List.getD_eq_getElem?_getD] using hz
        have HS := hidP (rightTo_succ p t d u j k)
        have hru := HRU.out k (by have := LU.out; omega)
        clear hz
        have HPR := hidP (fun w' => pair_any p d k j b o N c w' hd hlt hj (by have := HN.out; omega) hc hc2)
        have HE := hidP hx
        have HO := hidP hOr
        have HF := hidP (fun w' (hx' : Ext wr w') => (⟨(hALr.below hx').c0, (hALr.below hx').c1, (hALr.below hx').c2⟩ : _ ∧ _ ∧ _))
        clear hOr hALr hbw hx
        have HA := hidP (fun w' (hx' : Ext wr w') => addTo_any (some ⟨w.heap.size + 1, 0, none⟩) (some ⟨b, o + (k * d + j) * d, none⟩) d d (c - (k * d + j) * d) (rightTo p t d u j k) (pairL t d k j) (u.getD k 0) p w' (HO.out.below hx').ints
          ((HT.out.below (HE.out.trans hx')).part ((k * d + j) * d) d (by have := HN.out; have := nidx_lt hlt hj; omega)) (HO.out.below hx').unfrozen (fun b1 o1 b2 o2 e1 e2 => by cases e1; cases e2; omega) (by omega)
          ((rightTo_res (by omega) t d u j k).bd (rightTo_length _ _ _ _ _ _) hp2) ((pairL_res HRT.out d k j).bd (pairL_length LT.out hlt hj) hp2) hru.1 (by omega) hp (by omega))
        rw [← HS.out] at HA
        have hE : Ext wr wr.drew := Ext.drew wr
        go_wp2
        (refine walkR_start (fun w' => Ext wr w') 8 (by kernel_rfl) ?_; simp only [numbered, List.take_succ_cons, List.take_zero, Nat.zero_add, Nat.reduceAdd, List.length_cons, List.length_nil])
        repeat (refine walkR_still (v := ?_) rfl (by decide +kernel) rfl (fun _ _ _ h => h) hE ?_ ?_; rotate_left; (focus (intro w' hw'; obtain ⟨f0, f1, f2⟩ := HF.out w' hw'; go_simp; all_goals (with_reducible rfl))); simp only [Act.put, List.setIfInBounds_toArray, List.set_cons_zero, List.set_cons_succ])
        (refine walkR_later ?_; simp only [List.cons_append, List.nil_append])
        repeat (refine walkR_still (v := ?_) rfl (by decide +kernel) rfl (fun _ _ _ h => h) hE ?_ ?_; rotate_left; (focus (intro w' hw'; obtain ⟨f0, f1, f2⟩ := HF.out w' hw'; go_simp; all_goals (with_reducible rfl))); simp only [Act.put, List.setIfInBounds_toArray, List.set_cons_zero, List.set_cons_succ])
        (refine walkR_only (fun w' => Ext wr w') rfl (by decide +kernel) rfl ?_ ?_)
        · exact fun _ h => h
        intro K hK
        go_simp
        refine (HPR.out _).mono ?_
        rintro e w2 ⟨rfl, hx2⟩
        have HX2 := hidP ((Ext.drew wr).trans hx2)
        refine hK _ _ HX2.out ?_
        clear hK K hx2
        (try simp only [Act.put, List.setIfInBounds_toArray, List.set_cons_zero, List.set_cons_succ])
        (refine walkR_tail (by rfl) (by kernel_rfl) ?_; simp only [List.drop_succ_cons, List.drop_zero])
        go_wp2_with (go_at_call 72; refine (HA.out _ HX2.out).mono ?_; rintro e w3 ⟨rfl, hu3⟩)
        go_roundw
        case rel => exact ⟨k + 1, by omega, HUP.out.trans (HX2.out.upd HO.out.ints hu3), by go_num⟩
        case measure => simp [intOf]; omega
    · have hu := HUP.out
      obtain rfl : k = d := by omega
      rw [show rightTo p t k u j k = rightL p t k u j by unfold rightTo rightL; rw [LU.out]] at hu
      have ho := hidP ((hu.own HM.out).base (B' := w.heap.size) (by omega))
      have hbw : Below (w.heap.size + 1) w1 wr := hu.below (Below.refl _ _) (by omega) (fun b' o' e _ => by cases e; omega)
      have hx := hidP (Below.trans (HX1.out.trans HX01.out) (hbw.mono (Nat.le_succ _)))
      clear hu hbw
      go_wp2
      go_ret
      exact ⟨_, rfl, ho.out, hx.out⟩
end Go.Proofs.YtcfgcacmmmhjcaaGreatDoor
