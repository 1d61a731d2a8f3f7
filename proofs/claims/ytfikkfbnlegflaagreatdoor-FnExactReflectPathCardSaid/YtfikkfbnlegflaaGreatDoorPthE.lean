/-
  Paths of the program: JoinPaths.
-/
import Derived.Test.YtfikkfbnlegflaaGreatDoorPthD
import Derived.Test.YtfikkfbnlegflaaGreatDoorStp2
import Derived.Test.YtfikkfbnlegflaaGreatDoorCarG
namespace Go.Proofs.YtfikkfbnlegflaaGreatDoor
open Go.RowKit

set_option maxHeartbeats 4000000 in
theorem joinPaths_any (r : Int) (ta : Option Addr) (tn tc : Nat) (ts : List Int) (a : Option Addr) (n c : Nat) (xs : List Stp) (a' : Option Addr) (n' c' : Nat) (ys : List Stp) (w : World) (hc : IntsAt w ta tn ts) (hcn : tn ≤ 9223372036854775807)
    (h : StepsAt w a n xs) (hn : n ≤ 9223372036854775807) (h' : StepsAt w a' n' ys) (hn' : n' ≤ 9223372036854775807) (hm : MaxL w) :
    PathRes 50 #[carV r ta tn tc, .slice a n c, .slice a' n' c'] w (joinR r ts xs ys) := by
  unfold PathRes
  have hx1 := Ext.alloc w (.cells #[.int .i64 r, .slice ta tn tc] 31)
  have HC := hidP (fun w' (hx : Ext (w.alloc (.cells #[.int .i64 r, .slice ta tn tc] 31)) w') => (CarAt.new w _ rfl r ta tn tc 31).below hx)
  have HX1 := hidP hx1
  have H := hidP (h.below hx1)
  have H' := hidP (h'.below hx1)
  have HIs := hidP (fun w' (hx : Ext w w') => isCartan_any r ta tn tc ts w' (hc.below hx) hcn (hm.below hx))
  have HP := hidP (pathOk_of r ta tn tc ts a n c xs _ (h.below hx1).terms hn (fun w' hx => HIs.out w' (hx1.trans hx)))
  have HP' := hidP (fun w' (hx : Ext (w.alloc (.cells #[.int .i64 r, .slice ta tn tc] 31)) w') => pathOk_of r ta tn tc ts a' n' c' ys w' ((h'.below hx1).below hx).terms hn' (fun w'' hx' => HIs.out w'' ((hx1.trans hx).trans hx')))
  have hs1 : w.heap.size ≤ (w.alloc (.cells #[.int .i64 r, .slice ta tn tc] 31)).heap.size := hx1.size
  clear hc h h' hx1 hm
  obtain ⟨w1, hw1⟩ : ∃ w1, w1 = w.alloc (.cells #[.int .i64 r, .slice ta tn tc] 31) := ⟨_, rfl⟩
  rw [← hw1] at HC HX1 H H' HP HP' hs1
  have HS1 := hidP hs1
  clear hs1
  obtain ⟨f0, f1⟩ := HC.out w1 (Ext.refl w1)
  cases hT : (typeB r ts && pathB r.toNat xs)
  · have HR : Hid (joinR r ts xs ys = (false, [])) := by
      show _ = _
      unfold joinR
      rw [hT]
      rfl
    rw [hT] at HP
    clear hT
    go_enter Tryz.func50, Tryz.ntmps50
    go_wp2_with fail
    rw [← hw1]
    clear hw1
    refine HP.out.mono ?_
    rintro e w2 ⟨rfl, hx⟩
    have HX := hidP hx
    clear hx
    go_wp2
    refine bodyPost_ret (v := .tuple #[.slice none 0 0, .bool false]) (by simp [results, Tryz.results50, go_sem]) rfl ⟨none, 0, 0, [], by rw [HR.out], ?_, HX1.out.trans HX.out⟩
    rw [HR.out]
    exact OwnK.nil stepK _ _ _
  · have hT2 : typeB r ts = true := by
      simp only [Bool.and_eq_true] at hT
      exact hT.1
    have hP1 : pathB r.toNat xs = true := by
      simp only [Bool.and_eq_true] at hT
      exact hT.2
    obtain ⟨hr1, hr4, _⟩ := typeB_rank hT2
    obtain ⟨R, rfl⟩ : ∃ R : Nat, r = R := ⟨r.toNat, by omega⟩
    rw [Int.toNat_natCast] at hP1
    have hR : R ≤ 4 := by omega
    rw [hT2, Bool.true_and, Int.toNat_natCast] at HP'
    cases hQ : pathB R ys
    · have HR : Hid (joinR R ts xs ys = (false, [])) := by
        show _ = _
        unfold joinR
        rw [hT, Int.toNat_natCast, hQ]
        rfl
      rw [hT] at HP
      rw [hQ] at HP'
      clear hT hT2 hP1 hQ hr1 hr4
      go_enter Tryz.func50, Tryz.ntmps50
      go_wp2_with fail
      rw [← hw1]
      clear hw1
      refine HP.out.mono ?_
      rintro e w2 ⟨rfl, hx⟩
      obtain ⟨g0, g1⟩ := HC.out w2 hx
      have HX := hidP hx
      clear hx f0 f1
      go_wp2_with fail
      refine (HP'.out _ HX.out).mono ?_
      rintro e w3 ⟨rfl, hx⟩
      have HX3 := hidP (HX.out.trans hx)
      clear hx g0 g1
      go_wp2
      refine bodyPost_ret (v := .tuple #[.slice none 0 0, .bool false]) (by simp [results, Tryz.results50, go_sem]) rfl ⟨none, 0, 0, [], by rw [HR.out], ?_, HX1.out.trans HX3.out⟩
      rw [HR.out]
      exact OwnK.nil stepK _ _ _
    · have HR2 : Hid (joinR R ts xs ys = chk R (xs ++ ys)) := by
        show _ = _
        unfold joinR
        rw [hT, Int.toNat_natCast, hQ]
        rfl
      obtain ⟨hl1, hk1⟩ := pathB_small hP1
      obtain ⟨hl2, hk2⟩ := pathB_small hQ
      have hnl := H.out.len
      have hnl' := H'.out.len
      have HC1 := hidP (fun w' (hx : Ext w1 w') => copySteps_any a n c xs w' (H.out.below hx) (by omega) (fun k hk => by have := hk1 k (by omega); omega))
      have HC2 := hidP (fun w' (hx : Ext w1 w') => copySteps_any a' n' c' ys w' (H'.out.below hx) (by omega) (fun k hk => by have := hk2 k (by omega); omega))
      have HCk := hidP (fun w' (hx : Ext w1 w') (b : Option Addr) (m d : Nat) (hs : List Hdr) (hm : m = n + n') (ho : OwnK stepK w' w1.heap.size w'.heap.size b m d hs (xs ++ ys)) => checked_of R ta tn tc ts w1.heap.size w'.heap.size b m d hs (xs ++ ys) w' ho hx.size (by omega) (fun k hk => by
        by_cases hkn : k < xs.length
        · have := hk1 k hkn
          rw [wayAt_app _ _ _ hkn, lenAt_app _ _ _ hkn]
          omega
        · have := hk2 (k - xs.length) (by omega)
          unfold wayAt lenAt at this ⊢
          rw [getD_right _ _ _ _ (by omega)]
          omega) hT2 (fun w'' hx' => HIs.out w'' ((HX1.out.trans hx).trans hx')))
      have hnn : n + n' ≤ 1000000000 := by omega
      obtain ⟨⟨J1, J2⟩, hJ⟩ : ∃ J, J = chk R (xs ++ ys) := ⟨_, rfl⟩
      rw [← hJ] at HCk HR2
      dsimp only at HCk
      clear hJ
      rw [hT] at HP
      rw [hQ] at HP'
      clear hT hT2 hP1 hQ hr1 hr4 hk1 hk2 hl1 hl2 hnl hnl'
      go_enter Tryz.func50, Tryz.ntmps50
      go_wp2_with fail
      rw [← hw1]
      clear hw1
      refine HP.out.mono ?_
      rintro e w2 ⟨rfl, hx⟩
      obtain ⟨g0, g1⟩ := HC.out w2 hx
      have HX := hidP hx
      clear hx f0 f1
      go_wp2_with fail
      refine (HP'.out _ HX.out).mono ?_
      rintro e w3 ⟨rfl, hx⟩
      have HX3 := hidP (HX.out.trans hx)
      clear hx g0 g1
      have hE : Ext w3 w3.drew := Ext.drew w3
      go_wp2
      (refine walkR_start (fun w' => Ext w3 w') 9 (by kernel_rfl) ?_; simp only [numbered, List.take_succ_cons, List.take_zero, Nat.zero_add, Nat.reduceAdd, List.length_cons, List.length_nil])
      (repeat (first | (refine walkR_still (v := ?_) rfl (by decide +kernel) rfl (fun _ _ _ h => h) hE ?_ ?_; rotate_left; (focus (intro w' hw'; obtain ⟨g0, g1⟩ := HC.out w' (HX3.out.trans hw'); go_simp; all_goals (with_reducible rfl))); simp only [Act.put, List.setIfInBounds_toArray, List.set_cons_zero, List.set_cons_succ]) | (refine walkR_skip rfl (by decide +kernel) rfl (fun _ _ _ h => h) hE ?_; simp only [Act.put, List.setIfInBounds_toArray, List.set_cons_zero, List.set_cons_succ])))
      (refine walkR_later ?_; simp only [List.cons_append, List.nil_append])
      (repeat (first | (refine walkR_still (v := ?_) rfl (by decide +kernel) rfl (fun _ _ _ h => h) hE ?_ ?_; rotate_left; (focus (intro w' hw'; skip; go_simp; all_goals (with_reducible rfl))); simp only [Act.put, List.setIfInBounds_toArray, List.set_cons_zero, List.set_cons_succ]) | (refine walkR_skip rfl (by decide +kernel) rfl (fun _ _ _ h => h) hE ?_; simp only [Act.put, List.setIfInBounds_toArray, List.set_cons_zero, List.set_cons_succ])))
      (refine walkR_later ?_; simp only [List.cons_append, List.nil_append]); (refine walkR_later ?_; simp only [List.cons_append, List.nil_append]); (refine walkR_later ?_; simp only [List.cons_append, List.nil_append]); (refine walkR_later ?_; simp only [List.cons_append, List.nil_append]); (refine walkR_later ?_; simp only [List.cons_append, List.nil_append])
      (refine walkR_only (fun w' => Ext w3 w') rfl (by decide +kernel) rfl (fun _ h => h) ?_; intro K hK; go_simp; refine (HC1.out _ (HX3.out.trans hE)).mono ?_; rintro e w4 ⟨g1, c1, hs1, rfl, ho1, hx1⟩; refine hK _ _ (hE.trans hx1) ?_; clear hK K; (try simp only [Act.put, List.setIfInBounds_toArray, List.set_cons_zero, List.set_cons_succ]))
      have hE4 := hE.trans hx1
      have HO1 := hidP ho1
      clear ho1 hx1
      (refine walkR_only (fun w' => Ext w3 w') rfl (by decide +kernel) rfl (fun _ h => h) ?_; intro K hK; go_simp; refine (HC2.out _ (HX3.out.trans hE4)).mono ?_; rintro e w5 ⟨g2, c2, hs2, rfl, ho2, hx2⟩; refine hK _ _ (hE4.trans hx2) ?_; clear hK K; (try simp only [Act.put, List.setIfInBounds_toArray, List.set_cons_zero, List.set_cons_succ]))
      have hE5 := hE4.trans hx2
      have HAp : Hid (∀ i j, i < n → j < n' → Apart (hs1.getD i (none, 0)).1 (hs2.getD j (none, 0)).1) := by
        intro i j hi hj b o b' o' e e'
        have := ((HO1.out.each i hi).at_base b o e).2
        have := ((ho2.each j hj).at_base b' o' e').1
        omega
      have hsz : w3.drew.heap.size = w3.heap.size := rfl
      have HO15 := hidP (HO1.out.below hx2)
      have HO25 := hidP (ho2.weaken (hE4.size) (Nat.le_refl _))
      clear ho2 hx2
      (refine walkR_only (fun w' => Ext w3 w') rfl (by decide +kernel) rfl ?_ ?_)
      · exact fun _ h => h
      intro K hK
      refine wp_append_elems stepK 28 (.agg #[.slice none 0 0, .int .i64 0]) 32 (.tmp 20) (.tmp 22) rfl Tryz.underlying28 Tryz.info69 rfl (by omega) w3.heap.size _ _ (some ⟨g1, 0, none⟩) n c1 hs1 hs2 xs ys rfl (HO15.out.weaken (Nat.le_of_eq hsz.symm) (Nat.le_refl _)) g2 n' c2 rfl HO25.out HAp.out hnn (by simp) hE5.size ?_
      intro a6 c6 w6 ho6 hg6 _
      have hE6 : Ext w3 w6 := Below.own hE5 hg6 hE5.size (fun b o e => by have := (HO15.out.base_lt b o e).1; omega) HO15.out.addr
      have HX6 := hidP (HX3.out.trans hE6)
      have HO6 := hidP (ho6.weaken HX3.out.size (Nat.le_refl _))
      refine hK _ _ hE6 ?_
      clear hK K ho6 hg6 hE5 hE4 hE hsz
      (try simp only [Act.put, List.setIfInBounds_toArray, List.set_cons_zero, List.set_cons_succ])
      (refine walkR_only (fun w' => Ext w3 w') rfl (by decide +kernel) rfl (fun _ h => h) ?_; intro K hK; go_simp; refine (HCk.out w6 HX6.out a6 (n + n') c6 (hs1 ++ hs2) rfl HO6.out).mono ?_; rintro e w7 ⟨a7, n7, c7, hs7, rfl, ho7, hx7⟩; refine hK _ _ (hE6.trans hx7) ?_; clear hK K; (try simp only [Act.put, List.setIfInBounds_toArray, List.set_cons_zero, List.set_cons_succ]))
      have HX7 := hidP (HX6.out.trans hx7)
      have HO7 := hidP (ho7.weaken HS1.out (Nat.le_refl _))
      have hE7 := hE6.trans hx7
      clear ho7 hx7 hE6
      (repeat (first | (refine walkR_still (v := ?_) rfl (by decide +kernel) rfl (fun _ _ _ h => h) hE7 ?_ ?_; rotate_left; (focus (intro w' hw'; skip; go_simp; all_goals (with_reducible rfl))); simp only [Act.put, List.setIfInBounds_toArray, List.set_cons_zero, List.set_cons_succ]) | (refine walkR_skip rfl (by decide +kernel) rfl (fun _ _ _ h => h) hE7 ?_; simp only [Act.put, List.setIfInBounds_toArray, List.set_cons_zero, List.set_cons_succ])))
      (refine walkR_tail (by rfl) (by kernel_rfl) ?_; simp only [List.drop_succ_cons, List.drop_zero])
      go_wp2
      refine bodyPost_ret (v := .tuple #[.slice a7 n7 c7, .bool J1]) (by simp [results, Tryz.results50, go_sem]) rfl ⟨a7, n7, c7, hs7, by rw [HR2.out], by rw [HR2.out]; exact HO7.out, HX1.out.trans HX7.out⟩
end Go.Proofs.YtfikkfbnlegflaaGreatDoor
