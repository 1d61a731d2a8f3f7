/-
  The reference's law of Jacobi and its check of an algebra: l2Jacobi, spec.AlgebraOk.
-/
import Derived.Test.YtcfgcacmmmhjcaaGreatDoorSp3
namespace Go.Proofs.YtcfgcacmmmhjcaaGreatDoor
open Go.RowKit

theorem sumTo_single {n k : Nat} {f : Nat → Int} (hk : k < n) (h : ∀ i, i < n → i ≠ k → f i = 0) : sumTo n f = f k := by
  induction n with
  | zero => omega
  | succ n ih =>
    rw [sumTo]
    by_cases hkn : k = n
    · subst hkn
      rw [sumTo_zero_of (fun i hi => h i (by omega) (by omega)), Int.zero_add]
    · rw [ih (by omega) (fun i hi hne => h i (by omega) hne), h n (by omega) (by omega), Int.add_zero]
theorem brL_basis (p : Int) (t : List Int) (d k : Nat) (x : List Int) (hl : x.length = d) (hk : k < d) : brL p t d x (basisL d k) = rightL p t d x k := by
  unfold brL rightL
  apply modL_congr
  intro m _
  rw [hl]
  congr 1
  apply sumTo_congr
  intro i _
  rw [sumTo_single hk (fun j hj hne => by rw [basisL_get d k j hj, if_neg hne]; simp), basisL_get d k k hk, if_pos rfl, Int.mul_one]
theorem basisL_res {p : Int} (hp : 1 < p) (n k : Nat) : Res p (basisL n k) := by
  intro i hi
  rw [basisL_get n k i (by simpa [basisL] using hi)]
  split <;> omega

def jacAllB (p : Int) (t : List Int) (d : Nat) : Bool := decide (∀ i, i < d → ∀ j, j < d → ∀ k, k < d → i < j → j < k → jacB p t d i j k = true)
theorem jacAllB_true {p : Int} {t : List Int} {d : Nat} : jacAllB p t d = true ↔ ∀ i, i < d → ∀ j, j < d → ∀ k, k < d → i < j → j < k → jacB p t d i j k = true := by simp [jacAllB]

set_option maxRecDepth 100000 in
set_option maxHeartbeats 4000000 in
theorem l2Jacobi_any (p : Int) (d N c : Nat) (at' : Option Addr) (t : List Int) (w : World) (hd : d ≤ 28) (hN : N = d * d * d)
    (ht : IntsAt w at' N t) (hp : 2 ≤ p) (hp2 : p ≤ 10007) (hrt : Res p t) (hnc : N ≤ c) (hc2 : c ≤ 1000000000000) :
    Calls Tryz.prog 62 #[algV p d at' N c] w fun e w' => e = .returned (.bool (jacAllB p t d)) ∧ Ext w w' := by
  have HT := hidP ht
  have HAL := hidP (AlgAt.new w _ rfl p d at' N c 28)
  have HX1 := hidP (Ext.alloc w (.cells #[.int .i64 p, .int .i64 (d : Int), .slice at' N c] 28))
  have LT := hidP (ht.len.trans hN)
  have HN := hidP hN
  have HRT := hidP hrt
  clear ht hN hrt
  go_enter Tryz.func62, Tryz.ntmps62
  go_wp2
  obtain ⟨w0, hw0⟩ : ∃ w0, w0 = w.alloc (.cells #[.int .i64 p, .int .i64 (d : Int), .slice at' N c] 28) := ⟨_, rfl⟩
  rw [← hw0] at HAL HX1 ⊢
  clear hw0
  have HF := hidP (fun w' (hx : Ext w0 w') => (⟨(HAL.out.below hx).c0, (HAL.out.below hx).c1, (HAL.out.below hx).c2⟩ : _ ∧ _ ∧ _))
  go_loopw [4] (fun v wr => ∃ i : Nat, i ≤ d ∧ Hid (∀ i', i' < i → ∀ j, j < d → ∀ k, k < d → i' < j → j < k → jacB p t d i' j k = true) ∧ Hid (Ext w0 wr) ∧ v = .int .i64 i) (fun v _ => d - (intOf v).toNat)
  case atStart => exact ⟨0, Nat.zero_le _, fun i' h => by omega, Ext.refl _, rfl⟩
  case round =>
    obtain ⟨i, hi', HJ, HX, rfl⟩ := hrel
    by_cases hlt : i < d
    · obtain ⟨b, o, rfl, _⟩ := HT.out.get 0 (by rw [HN.out]; exact Nat.mul_pos (Nat.mul_pos (by omega) (by omega)) (by omega))
      have HPart : Hid (∀ i j, i < d → j < d → ∀ w', Ext w0 w' → IntsAt w' (some ⟨b, o + (i * d + j) * d, none⟩) d (pairL t d i j)) :=
        fun i j hi hj w' hx => ((HT.out.below HX1.out).below hx).part ((i * d + j) * d) d (by have := HN.out; have := nidx_lt hi hj; omega)
      have HRow := hidP (fun i j hi hj w' => l2Row_any p d i j b o N c w' hd hi hj (by rw [HN.out]; exact Nat.le_refl _) hnc hc2)
      have HBas := hidP (fun k hk w' => l2Basis_any d k w' hk (by omega))
      have HBr : Hid (∀ i j k, i < d → j < d → k < d → ∀ w', Ext w0 w' → ∀ av, IntsAt w' av d (basisL d k) →
          Calls Tryz.prog 82 #[algV p d (some ⟨b, o, none⟩) N c, .slice (some ⟨b, o + (i * d + j) * d, none⟩) d (c - (i * d + j) * d), .slice av d d] w' fun e w2 => ∃ a, e = .returned (.slice a d d) ∧ OwnI w2 w'.heap.size a d d (rightL p t d (pairL t d i j) k) ∧ Ext w' w2) := by
        intro i j k hi hj hk w' hx av hv
        have h := l2Bracket_any p d N c (c - (i * d + j) * d) d _ _ av t (pairL t d i j) _ w' hd HN.out ((HT.out.below HX1.out).below hx) (HPart.out i j hi hj w' hx) hv (by omega) hp2 HRT.out (pairL_res HRT.out d i j) (basisL_res (by omega) d k)
        rwa [brL_basis p t d k _ (pairL_length LT.out hi hj) hk] at h
      obtain ⟨wo, rfl⟩ : ∃ wo : World, wo = wr := ⟨_, rfl⟩
      go_wp2
      go_loopw [5] (fun v wr => ∃ j : Nat, j ≤ d ∧ i < j ∧ Hid (∀ j', j' < j → ∀ k, k < d → i < j' → j' < k → jacB p t d i j' k = true) ∧ Hid (Ext w0 wr) ∧ v = .int .i64 j) (fun v _ => d - (intOf v).toNat)
      case atStart => exact ⟨i + 1, by omega, by omega, fun j' h k hk h1 h2 => by omega, HX, rfl⟩
      case round =>
        obtain ⟨j, hj', hij, HJ2, HX2, rfl⟩ := hrel
        by_cases hjl : j < d
        · obtain ⟨wo2, rfl⟩ : ∃ wo2 : World, wo2 = wr := ⟨_, rfl⟩
          go_wp2
          go_loopw [6] (fun v wr => ∃ k : Nat, k ≤ d ∧ j < k ∧ Hid (∀ k', k' < k → j < k' → jacB p t d i j k' = true) ∧ Hid (Ext w0 wr) ∧ v = .int .i64 k) (fun v _ => d - (intOf v).toNat)
          case atStart => exact ⟨j + 1, by omega, by omega, fun k' h h1 => by omega, HX2, rfl⟩
          case round =>
            obtain ⟨k, hk', hjk, HJ3, HX3, rfl⟩ := hrel
            by_cases hkl : k < d
            · have hE : Ext wr wr.drew := Ext.drew wr
              go_wp2
              (refine walkR_start (fun w' => Ext wr w') 9 (by kernel_rfl) ?_; simp only [numbered, List.take_succ_cons, List.take_zero, Nat.zero_add, Nat.reduceAdd, List.length_cons, List.length_nil])
              repeat (refine walkR_still (v := ?_) rfl (by decide +kernel) rfl (fun _ _ _ h => h) hE ?_ ?_; rotate_left; (focus (intro w' hw'; obtain ⟨f0, f1, f2⟩ := HF.out w' (HX3.out.trans hw'); go_simp; all_goals (with_reducible rfl))); simp only [Act.put, List.setIfInBounds_toArray, List.set_cons_zero, List.set_cons_succ])
              (refine walkR_later ?_; simp only [List.cons_append, List.nil_append])
              repeat (refine walkR_still (v := ?_) rfl (by decide +kernel) rfl (fun _ _ _ h => h) hE ?_ ?_; rotate_left; (focus (intro w' hw'; obtain ⟨f0, f1, f2⟩ := HF.out w' (HX3.out.trans hw'); go_simp; all_goals (with_reducible rfl))); simp only [Act.put, List.setIfInBounds_toArray, List.set_cons_zero, List.set_cons_succ])
              (refine walkR_later ?_; simp only [List.cons_append, List.nil_append])
              (refine walkR_later ?_; simp only [List.cons_append, List.nil_append])
              (refine walkR_only (fun w' => Ext wr w') rfl (by decide +kernel) rfl ?_ ?_)
              · exact fun _ h => h
              intro K hK
              go_simp
              refine (HRow.out i j hlt hjl _).mono ?_
              rintro e wa1 ⟨rfl, hx2⟩
              have hA1 := hE.trans hx2
              refine hK _ _ hA1 ?_
              clear hK K hx2
              (try simp only [Act.put, List.setIfInBounds_toArray, List.set_cons_zero, List.set_cons_succ])
              (refine walkR_only (fun w' => Ext wr w') rfl (by decide +kernel) rfl ?_ ?_)
              · exact fun _ h => h
              intro K hK
              go_simp
              refine (HBas.out k hkl _).mono ?_
              rintro e wb1 ⟨ab1, rfl, hob, hx2⟩
              have HB1 := hidP hob.ints
              clear hob
              have hB1 := hA1.trans hx2
              refine hK _ _ hB1 ?_
              clear hK K hx2
              (try simp only [Act.put, List.setIfInBounds_toArray, List.set_cons_zero, List.set_cons_succ])
              (refine walkR_only (fun w' => Ext wr w') rfl (by decide +kernel) rfl ?_ ?_)
              · exact fun _ h => h
              intro K hK
              go_simp
              refine (HBr.out i j k hlt hjl hkl _ (HX3.out.trans hB1) _ HB1.out).mono ?_
              rintro e wc1 ⟨ac1, rfl, hoc, hx2⟩
              have HC1 := hidP hoc.ints
              clear hoc
              have hC1 := hB1.trans hx2
              refine hK _ _ hC1 ?_
              clear hK K hx2
              (try simp only [Act.put, List.setIfInBounds_toArray, List.set_cons_zero, List.set_cons_succ])
              (refine walkR_tail (by rfl) (by kernel_rfl) ?_; simp only [List.drop_succ_cons, List.drop_zero])
              have HY1 := hidP (HX3.out.trans hC1)
              clear hE hA1 hB1 hC1
              go_wp2_with fail
              have hE : Ext wc1 wc1.drew := Ext.drew wc1
              go_wp2
              (refine walkR_start (fun w' => Ext wc1 w') 13 (by kernel_rfl) ?_; simp only [numbered, List.take_succ_cons, List.take_zero, Nat.zero_add, Nat.reduceAdd, List.length_cons, List.length_nil])
              repeat (refine walkR_still (v := ?_) rfl (by decide +kernel) rfl (fun _ _ _ h => h) hE ?_ ?_; rotate_left; (focus (intro w' hw'; obtain ⟨f0, f1, f2⟩ := HF.out w' (HY1.out.trans hw'); go_simp; all_goals (with_reducible rfl))); simp only [Act.put, List.setIfInBounds_toArray, List.set_cons_zero, List.set_cons_succ])
              (refine walkR_later ?_; simp only [List.cons_append, List.nil_append])
              repeat (refine walkR_still (v := ?_) rfl (by decide +kernel) rfl (fun _ _ _ h => h) hE ?_ ?_; rotate_left; (focus (intro w' hw'; obtain ⟨f0, f1, f2⟩ := HF.out w' (HY1.out.trans hw'); go_simp; all_goals (with_reducible rfl))); simp only [Act.put, List.setIfInBounds_toArray, List.set_cons_zero, List.set_cons_succ])
              (refine walkR_later ?_; simp only [List.cons_append, List.nil_append])
              (refine walkR_later ?_; simp only [List.cons_append, List.nil_append])
              (refine walkR_later ?_; simp only [List.cons_append, List.nil_append])
              (refine walkR_only (fun w' => Ext wc1 w') rfl (by decide +kernel) rfl ?_ ?_)
              · exact fun _ h => h
              intro K hK
              go_simp
              refine (HRow.out j k hjl hkl _).mono ?_
              rintro e wa2 ⟨rfl, hx2⟩
              have hA2 := hE.trans hx2
              refine hK _ _ hA2 ?_
              clear hK K hx2
              (try simp only [Act.put, List.setIfInBounds_toArray, List.set_cons_zero, List.set_cons_succ])
              (refine walkR_only (fun w' => Ext wc1 w') rfl (by decide +kernel) rfl ?_ ?_)
              · exact fun _ h => h
              intro K hK
              go_simp
              refine (HBas.out i hlt _).mono ?_
              rintro e wb2 ⟨ab2, rfl, hob, hx2⟩
              have HB2 := hidP hob.ints
              clear hob
              have hB2 := hA2.trans hx2
              refine hK _ _ hB2 ?_
              clear hK K hx2
              (try simp only [Act.put, List.setIfInBounds_toArray, List.set_cons_zero, List.set_cons_succ])
              (refine walkR_only (fun w' => Ext wc1 w') rfl (by decide +kernel) rfl ?_ ?_)
              · exact fun _ h => h
              intro K hK
              go_simp
              refine (HBr.out j k i hjl hkl hlt _ (HY1.out.trans hB2) _ HB2.out).mono ?_
              rintro e wc2 ⟨ac2, rfl, hoc, hx2⟩
              have HC2 := hidP hoc.ints
              clear hoc
              have hC2 := hB2.trans hx2
              refine hK _ _ hC2 ?_
              clear hK K hx2
              (try simp only [Act.put, List.setIfInBounds_toArray, List.set_cons_zero, List.set_cons_succ])
              (refine walkR_only (fun w' => Ext wc1 w') rfl (by decide +kernel) rfl ?_ ?_)
              · exact fun _ h => h
              intro K hK
              go_simp
              refine (l2Plus_any ac1 ac2 d d d (rightL p t d (pairL t d i j) k) (rightL p t d (pairL t d j k) i) p _ (HC1.out.below hC2) HC2.out (by omega) (rightL_res (by omega) _ _ _ _) (rightL_res (by omega) _ _ _ _) (by omega) hp2).mono ?_
              rintro e wd2 ⟨ad2, rfl, hod, hx2⟩
              have HD2 := hidP hod.ints
              clear hod
              have hD2 := hC2.trans hx2
              refine hK _ _ hD2 ?_
              clear hK K hx2
              (try simp only [Act.put, List.setIfInBounds_toArray, List.set_cons_zero, List.set_cons_succ])
              (refine walkR_tail (by rfl) (by kernel_rfl) ?_; simp only [List.drop_succ_cons, List.drop_zero])
              have HY2 := hidP (HY1.out.trans hD2)
              clear hE hA2 hB2 hC2 hD2
              go_wp2_with fail
              have hE : Ext wd2 wd2.drew := Ext.drew wd2
              go_wp2
              (refine walkR_start (fun w' => Ext wd2 w') 13 (by kernel_rfl) ?_; simp only [numbered, List.take_succ_cons, List.take_zero, Nat.zero_add, Nat.reduceAdd, List.length_cons, List.length_nil])
              repeat (refine walkR_still (v := ?_) rfl (by decide +kernel) rfl (fun _ _ _ h => h) hE ?_ ?_; rotate_left; (focus (intro w' hw'; obtain ⟨f0, f1, f2⟩ := HF.out w' (HY2.out.trans hw'); go_simp; all_goals (with_reducible rfl))); simp only [Act.put, List.setIfInBounds_toArray, List.set_cons_zero, List.set_cons_succ])
              (refine walkR_later ?_; simp only [List.cons_append, List.nil_append])
              repeat (refine walkR_still (v := ?_) rfl (by decide +kernel) rfl (fun _ _ _ h => h) hE ?_ ?_; rotate_left; (focus (intro w' hw'; obtain ⟨f0, f1, f2⟩ := HF.out w' (HY2.out.trans hw'); go_simp; all_goals (with_reducible rfl))); simp only [Act.put, List.setIfInBounds_toArray, List.set_cons_zero, List.set_cons_succ])
              (refine walkR_later ?_; simp only [List.cons_append, List.nil_append])
              (refine walkR_later ?_; simp only [List.cons_append, List.nil_append])
              (refine walkR_later ?_; simp only [List.cons_append, List.nil_append])
              (refine walkR_only (fun w' => Ext wd2 w') rfl (by decide +kernel) rfl ?_ ?_)
              · exact fun _ h => h
              intro K hK
              go_simp
              refine (HRow.out k i hkl hlt _).mono ?_
              rintro e wa3 ⟨rfl, hx2⟩
              have hA3 := hE.trans hx2
              refine hK _ _ hA3 ?_
              clear hK K hx2
              (try simp only [Act.put, List.setIfInBounds_toArray, List.set_cons_zero, List.set_cons_succ])
              (refine walkR_only (fun w' => Ext wd2 w') rfl (by decide +kernel) rfl ?_ ?_)
              · exact fun _ h => h
              intro K hK
              go_simp
              refine (HBas.out j hjl _).mono ?_
              rintro e wb3 ⟨ab3, rfl, hob, hx2⟩
              have HB3 := hidP hob.ints
              clear hob
              have hB3 := hA3.trans hx2
              refine hK _ _ hB3 ?_
              clear hK K hx2
              (try simp only [Act.put, List.setIfInBounds_toArray, List.set_cons_zero, List.set_cons_succ])
              (refine walkR_only (fun w' => Ext wd2 w') rfl (by decide +kernel) rfl ?_ ?_)
              · exact fun _ h => h
              intro K hK
              go_simp
              refine (HBr.out k i j hkl hlt hjl _ (HY2.out.trans hB3) _ HB3.out).mono ?_
              rintro e wc3 ⟨ac3, rfl, hoc, hx2⟩
              have HC3 := hidP hoc.ints
              clear hoc
              have hC3 := hB3.trans hx2
              refine hK _ _ hC3 ?_
              clear hK K hx2
              (try simp only [Act.put, List.setIfInBounds_toArray, List.set_cons_zero, List.set_cons_succ])
              (refine walkR_only (fun w' => Ext wd2 w') rfl (by decide +kernel) rfl ?_ ?_)
              · exact fun _ h => h
              intro K hK
              go_simp
              refine (l2Plus_any ad2 ac3 d d d (addL p (rightL p t d (pairL t d i j) k) 1 (rightL p t d (pairL t d j k) i)) (rightL p t d (pairL t d k i) j) p _ (HD2.out.below hC3) HC3.out (by omega) (addL_res (by omega) _ _ _) (rightL_res (by omega) _ _ _ _) (by omega) hp2).mono ?_
              rintro e wd3 ⟨ad3, rfl, hod, hx2⟩
              have HD3 := hidP hod.ints
              clear hod
              have hD3 := hC3.trans hx2
              refine hK _ _ hD3 ?_
              clear hK K hx2
              (try simp only [Act.put, List.setIfInBounds_toArray, List.set_cons_zero, List.set_cons_succ])
              (refine walkR_tail (by rfl) (by kernel_rfl) ?_; simp only [List.drop_succ_cons, List.drop_zero])
              have HY3 := hidP (HY2.out.trans hD3)
              clear hE hA3 hB3 hC3 hD3
              have HJB : Hid (jacB p t d i j k = zeroB (addL p (addL p (rightL p t d (pairL t d i j) k) 1 (rightL p t d (pairL t d j k) i)) 1 (rightL p t d (pairL t d k i) j))) := rfl
              generalize addL p (addL p (rightL p t d (pairL t d i j) k) 1 (rightL p t d (pairL t d j k) i)) 1 (rightL p t d (pairL t d k i) j) = Z at *
              go_wp2_with fail
              refine (l1IsZero_any _ _ _ _ _ HD3.out (by omega)).mono ?_
              rintro e we ⟨rfl, rfl⟩
              cases hz : zeroB Z
              · have HB : Hid (jacAllB p t d = false) := by
                  show _ = _
                  rw [Bool.eq_false_iff, ne_eq, jacAllB_true]
                  intro h
                  have := h i hlt j hjl k hkl hij hjk
                  rw [HJB.out, hz] at this
                  cases this
                go_wp2
                go_ret
                exact ⟨ret_bool HB.out.symm, HX1.out.trans HY3.out⟩
              · have HB : Hid (jacB p t d i j k = true) := HJB.out.trans hz
                go_wp2
                go_roundw
                case rel =>
                  refine ⟨k + 1, by omega, by omega, fun k' h' h1 => ?_, HY3.out, by go_num⟩
                  rcases Nat.lt_succ_iff_lt_or_eq.1 h' with h3 | rfl
                  · exact HJ3.out k' h3 h1
                  · exact HB.out
                case measure => simp [intOf]; omega
            · go_wp2
              go_roundw
              case rel =>
                refine ⟨j + 1, by omega, by omega, fun j' h' k' hk2 h1 h2 => ?_, HX3.out, by go_num⟩
                rcases Nat.lt_succ_iff_lt_or_eq.1 h' with h3 | rfl
                · exact HJ2.out j' h3 k' hk2 h1 h2
                · exact HJ3.out k' (by omega) h2
              case measure => simp [intOf]; omega
        · go_wp2
          go_roundw
          case rel =>
            refine ⟨i + 1, by omega, fun i' h' j' hj2 k' hk2 h1 h2 => ?_, HX2.out, by go_num⟩
            rcases Nat.lt_succ_iff_lt_or_eq.1 h' with h3 | rfl
            · exact HJ.out i' h3 j' hj2 k' hk2 h1 h2
            · exact HJ2.out j' (by omega) k' hk2 h1 h2
          case measure => simp [intOf]; omega
    · have HB : Hid (jacAllB p t d = true) := by
        show _ = _
        rw [jacAllB_true]
        exact fun i' h' => HJ.out i' (by omega)
      go_wp2
      go_ret
      exact ⟨ret_bool HB.out.symm, HX1.out.trans HX.out⟩
end Go.Proofs.YtcfgcacmmmhjcaaGreatDoor
