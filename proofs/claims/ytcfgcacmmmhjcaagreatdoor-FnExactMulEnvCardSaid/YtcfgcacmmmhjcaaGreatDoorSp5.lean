/-
  The reference's check of an algebra answers as the program's: spec.AlgebraOk. Printed by gen5.py.
-/
import Derived.Test.YtcfgcacmmmhjcaaGreatDoorSp4
namespace Go.Proofs.YtcfgcacmmmhjcaaGreatDoor
open Go.RowKit

/-- one place of the two rows that are skew -/
def skewK (p : Int) (t : List Int) (d i j k : Nat) : Bool := !((decide (i = j) && tab t d i j k != 0) || (tab t d i j k + tab t d j i k) % p != 0)
theorem skewB_of {p : Int} {t : List Int} {d i j : Nat} (ht : t.length = d * d * d) (hi : i < d) (hj : j < d) : skewB p t d i j = true ↔ ∀ k, k < d → skewK p t d i j k = true := by
  unfold skewB skewK
  rw [Bool.and_eq_true, zeroB_true, Bool.or_eq_true, zeroB_true, addL_length, pairL_length ht hi hj, pairL_length ht hi hi]
  constructor
  · rintro ⟨h1, h2⟩ k hk
    have h1 := h1 k hk
    rw [addL_get _ _ _ _ _ (by rw [pairL_length ht hi hj]; exact hk), pairL_get i j k hk, pairL_get j i k hk, Int.one_mul] at h1
    rw [h1]
    rcases h2 with h2 | h2
    · have : ¬ i = j := by simpa using h2
      simp [this]
    · by_cases hij : i = j
      · subst hij
        have := h2 k hk
        rw [pairL_get i i k hk] at this
        simp [this]
      · simp [hij]
  · intro h
    refine ⟨fun k hk => ?_, ?_⟩
    · have := h k hk
      simp only [Bool.not_or, Bool.and_eq_true, Bool.not_eq_true', bne_eq_false_iff_eq] at this
      rw [addL_get _ _ _ _ _ (by rw [pairL_length ht hi hj]; exact hk), pairL_get i j k hk, pairL_get j i k hk, Int.one_mul]
      exact this.2
    · by_cases hij : i = j
      · right
        subst hij
        intro k hk
        have := h k hk
        rw [pairL_get i i k hk]
        simp at this
        exact this.1
      · left
        simpa using hij

set_option maxRecDepth 100000 in
set_option maxHeartbeats 4000000 in
theorem sAlgebraOk_good (p : Int) (d : Nat) (a : Option Addr) (N c : Nat) (t : List Int) (w : World) (ht : IntsAt w a N t) (hnc : N ≤ c) (hc2 : c ≤ 1000000000000) (hh : headB p d t = true) :
    Calls Tryz.prog 28 #[algV p d a N c] w fun e w' => e = .returned (.bool (algB p d t)) ∧ Ext w w' := by
  obtain ⟨hp, hd0, hd, hl, hr⟩ := headB_true hh
  obtain ⟨p2, p7⟩ := prime_bounds hp
  have hi : insB d 0 28 = true := insB_true.2 ⟨hd0, hd⟩
  obtain ⟨k1, k2, k3, k4⟩ := cube_le hd0 hd
  have hlN := ht.len
  have hN : N = d * d * d := by
    have : ((t.length : Nat) : Int) = ((d * d * d : Nat) : Int) := by rw [hl]; simp
    omega
  have hNi : ((N : Int) != (d : Int) * d * d) = false := by rw [← hlN, hl]; simp
  have hrb : resB p t = true := resB_true.2 hr
  have hx0 : Ext w (w.alloc (.cells #[.int .i64 p, .int .i64 (d : Int), .slice a N c] 28)) := Ext.alloc _ _
  have HRS := hidP (l1Residues_any a N c t p _ (ht.below hx0) (by omega))
  have HAL := hidP (AlgAt.new w _ rfl p d a N c 28)
  have HT := hidP ht
  have HR := hidP hr
  have HH := hidP hh
  have HN := hidP hN
  have HX1 := hidP hx0
  have LT := hidP (hlN.trans hN)
  clear ht hr hh hl hlN hN hx0
  go_enter Tryz.func28, Tryz.ntmps28
  go_wp2_with (first | (go_at_call 58; refine (sIsPrime_any _ _).mono ?_; rintro e w' ⟨rfl, rfl⟩) | (go_at_call 59; refine (l1In_any _ _ _ _).mono ?_; rintro e w' ⟨rfl, rfl⟩) | (go_at_call 60; refine HRS.out.mono ?_; rintro e w1 ⟨rfl, rfl⟩))
  obtain ⟨w0, hw0⟩ : ∃ w0, w0 = w.alloc (.cells #[.int .i64 p, .int .i64 (d : Int), .slice a N c] 28) := ⟨_, rfl⟩
  rw [← hw0] at HAL HX1 ⊢
  clear hw0 HRS hNi hi hrb hp k1 k2 k3 k4
  have HF := hidP (fun w' (hx : Ext w0 w') => (⟨(HAL.out.below hx).c0, (HAL.out.below hx).c1, (HAL.out.below hx).c2⟩ : _ ∧ _ ∧ _))
  go_loopw [4] (fun v wr => ∃ i : Nat, i ≤ d ∧ Hid (∀ i', i' < i → ∀ j, j < i' + 1 → skewB p t d i' j = true) ∧ Hid (Ext w0 wr) ∧ v = .int .i64 i) (fun v _ => d - (intOf v).toNat)
  case atStart => exact ⟨0, Nat.zero_le _, fun i' h => by omega, Ext.refl _, rfl⟩
  case round =>
    obtain ⟨i, hi', HJ, HX, rfl⟩ := hrel
    by_cases hlt : i < d
    · obtain ⟨b, o, rfl, _⟩ := HT.out.get 0 (by rw [HN.out]; exact Nat.mul_pos (Nat.mul_pos (by omega) (by omega)) (by omega))
      have HGet : Hid (∀ i j k, i < d → j < d → k < d → ∀ w', Ext w0 w' →
          Calls Tryz.prog 61 #[algV p d (some ⟨b, o, none⟩) N c, .int .i64 i, .int .i64 j, .int .i64 k] w' fun e w2 => e = .returned (.int .i64 (tab t d i j k)) ∧ Ext w' w2) :=
        fun i j k hi hj hk w' hx => l2Get_any p d i j k b o N c t w' ((HT.out.below HX1.out).below hx) (by omega) hi hj hk HN.out
      have HTab : Hid (∀ i j k, i < d → j < d → k < d → 0 ≤ tab t d i j k ∧ tab t d i j k < p) :=
        fun i j k hi hj hk => HR.out _ (by have := LT.out; have := nidx_lt hi hj; omega)
      obtain ⟨wo, rfl⟩ : ∃ wo : World, wo = wr := ⟨_, rfl⟩
      go_wp2
      go_loopw [5] (fun v wr => ∃ j : Nat, j ≤ i + 1 ∧ Hid (∀ j', j' < j → skewB p t d i j' = true) ∧ Hid (Ext w0 wr) ∧ v = .int .i64 j) (fun v _ => i + 1 - (intOf v).toNat)
      case atStart => exact ⟨0, Nat.zero_le _, fun i' h => by omega, HX, rfl⟩
      case round =>
        obtain ⟨j, hj', HJ2, HX2, rfl⟩ := hrel
        by_cases hjl : j < i + 1
        · have hjd : j < d := by omega
          have hji : j ≤ i := by omega
          obtain ⟨wo2, rfl⟩ : ∃ wo2 : World, wo2 = wr := ⟨_, rfl⟩
          go_wp2
          go_loopw [6] (fun v wr => ∃ k : Nat, k ≤ d ∧ Hid (∀ k', k' < k → skewK p t d i j k' = true) ∧ Hid (Ext w0 wr) ∧ v = .int .i64 k) (fun v _ => d - (intOf v).toNat)
          case atStart => exact ⟨0, Nat.zero_le _, fun i' h => by omega, HX2, rfl⟩
          case round =>
            obtain ⟨k, hk', HJ3, HX3, rfl⟩ := hrel
            by_cases hkl : k < d
            · have HSK : Hid (skewK p t d i j k = !((decide (i = j) && tab t d i j k != 0) || (tab t d i j k + tab t d j i k) % p != 0)) := rfl
              have HG1 := hidP (HGet.out i j k hlt hjd hkl)
              have HG2 := hidP (HGet.out j i k hjd hlt hkl)
              have ra := HTab.out i j k hlt hjd hkl
              have rb := HTab.out j i k hjd hlt hkl
              have HBad : skewK p t d i j k = false → Hid (algB p d t = false) := by
                intro hf
                show _ = _
                rw [algB_false]
                intro h
                have h1 := h.2.1 i (by simpa using hlt) j hjl
                simp only [Int.toNat_natCast] at h1
                rw [skewB_of LT.out hlt hjd] at h1
                rw [h1 k hkl] at hf
                cases hf
              have HBad := hidP HBad
              generalize tab t d i j k = x at *
              generalize tab t d j i k = y at *
              have e1 : IntKind.i64.wrap (x + y) = x + y := wrap_in (by omega) (by omega)
              have e2 : Int.tmod (x + y) p = (x + y) % p := Int.tmod_eq_emod_of_nonneg (by omega)
              have hpz : ¬ p = 0 := by omega
              have hE : Ext wr wr.drew := Ext.drew wr
              generalize (x + y) % p = s at *
              have HG : Hid (0 ≤ x ∧ 0 ≤ y) := ⟨ra.1, rb.1⟩
              clear ra rb
              by_cases hij : i = j
              · have hd1 : ((i : Int) == j) = true := by simp [hij]
                rw [decide_eq_true hij] at HSK
                clear hij
                cases hx1 : (x != 0)
                · cases hs1 : (s != 0)
                  · go_wp2
                    (refine walkR_start (fun w' => Ext wr w') 27 (by kernel_rfl) ?_; simp only [numbered, List.take_succ_cons, List.take_zero, Nat.zero_add, Nat.reduceAdd, List.length_cons, List.length_nil])
                    repeat (refine walkR_still (v := ?_) rfl (by decide +kernel) rfl (fun _ _ _ h => h) hE ?_ ?_; rotate_left; (focus (intro w' hw'; obtain ⟨f0, f1, f2⟩ := HF.out w' (HX3.out.trans hw'); go_simp; all_goals (with_reducible rfl))); simp only [Act.put, List.setIfInBounds_toArray, List.set_cons_zero, List.set_cons_succ])
                    (refine walkR_only (fun w' => Ext wr w') rfl (by decide +kernel) rfl ?_ ?_)
                    · exact fun _ h => h
                    intro K hK
                    go_simp
                    refine (HG1.out _ (HX3.out.trans hE)).mono ?_
                    rintro e wa ⟨rfl, hx2⟩
                    have hA := hE.trans hx2
                    refine hK _ _ hA ?_
                    clear hK K hx2
                    (try simp only [Act.put, List.setIfInBounds_toArray, List.set_cons_zero, List.set_cons_succ])
                    repeat (refine walkR_still (v := ?_) rfl (by decide +kernel) rfl (fun _ _ _ h => h) hA ?_ ?_; rotate_left; (focus (intro w' hw'; obtain ⟨f0, f1, f2⟩ := HF.out w' (HX3.out.trans hw'); go_simp; all_goals (with_reducible rfl))); simp only [Act.put, List.setIfInBounds_toArray, List.set_cons_zero, List.set_cons_succ])
                    (refine walkR_later ?_; simp only [List.cons_append, List.nil_append])
                    repeat (refine walkR_still (v := ?_) rfl (by decide +kernel) rfl (fun _ _ _ h => h) hA ?_ ?_; rotate_left; (focus (intro w' hw'; obtain ⟨f0, f1, f2⟩ := HF.out w' (HX3.out.trans hw'); go_simp; all_goals (with_reducible rfl))); simp only [Act.put, List.setIfInBounds_toArray, List.set_cons_zero, List.set_cons_succ])
                    (refine walkR_later ?_; simp only [List.cons_append, List.nil_append])
                    (refine walkR_later ?_; simp only [List.cons_append, List.nil_append])
                    repeat (refine walkR_still (v := ?_) rfl (by decide +kernel) rfl (fun _ _ _ h => h) hA ?_ ?_; rotate_left; (focus (intro w' hw'; obtain ⟨f0, f1, f2⟩ := HF.out w' (HX3.out.trans hw'); go_simp; all_goals (with_reducible rfl))); simp only [Act.put, List.setIfInBounds_toArray, List.set_cons_zero, List.set_cons_succ])
                    (refine walkR_later ?_; simp only [List.cons_append, List.nil_append])
                    (refine walkR_later ?_; simp only [List.cons_append, List.nil_append])
                    (refine walkR_only (fun w' => Ext wr w') rfl (by decide +kernel) rfl ?_ ?_)
                    · exact fun _ h => h
                    intro K hK
                    go_simp
                    refine (HG1.out _ (HX3.out.trans hA)).mono ?_
                    rintro e wb ⟨rfl, hx2⟩
                    have hB := hA.trans hx2
                    refine hK _ _ hB ?_
                    clear hK K hx2
                    (try simp only [Act.put, List.setIfInBounds_toArray, List.set_cons_zero, List.set_cons_succ])
                    (refine walkR_only (fun w' => Ext wr w') rfl (by decide +kernel) rfl ?_ ?_)
                    · exact fun _ h => h
                    intro K hK
                    go_simp
                    refine (HG2.out _ (HX3.out.trans hB)).mono ?_
                    rintro e wc ⟨rfl, hx2⟩
                    have hC := hB.trans hx2
                    refine hK _ _ hC ?_
                    clear hK K hx2
                    (try simp only [Act.put, List.setIfInBounds_toArray, List.set_cons_zero, List.set_cons_succ])
                    repeat (refine walkR_still (v := ?_) rfl (by decide +kernel) rfl (fun _ _ _ h => h) hC ?_ ?_; rotate_left; (focus (intro w' hw'; obtain ⟨f0, f1, f2⟩ := HF.out w' (HX3.out.trans hw'); go_simp; all_goals (with_reducible rfl))); simp only [Act.put, List.setIfInBounds_toArray, List.set_cons_zero, List.set_cons_succ])
                    (refine walkR_tail (by rfl) (by kernel_rfl) ?_; simp only [List.drop_succ_cons, List.drop_zero])
                    have HY := hidP (HX3.out.trans hC)
                    have HB : Hid (skewK p t d i j k = true) := HSK.out.trans (by rw [hx1, hs1]; simp)
                    go_wp2
                    go_roundw
                    case rel =>
                      refine ⟨k + 1, by omega, fun k' h' => ?_, HY.out, by go_num⟩
                      rcases Nat.lt_succ_iff_lt_or_eq.1 h' with h3 | rfl
                      · exact HJ3.out k' h3
                      · exact HB.out
                    case measure => simp [intOf]; omega
                  · go_wp2
                    (refine walkR_start (fun w' => Ext wr w') 27 (by kernel_rfl) ?_; simp only [numbered, List.take_succ_cons, List.take_zero, Nat.zero_add, Nat.reduceAdd, List.length_cons, List.length_nil])
                    repeat (refine walkR_still (v := ?_) rfl (by decide +kernel) rfl (fun _ _ _ h => h) hE ?_ ?_; rotate_left; (focus (intro w' hw'; obtain ⟨f0, f1, f2⟩ := HF.out w' (HX3.out.trans hw'); go_simp; all_goals (with_reducible rfl))); simp only [Act.put, List.setIfInBounds_toArray, List.set_cons_zero, List.set_cons_succ])
                    (refine walkR_only (fun w' => Ext wr w') rfl (by decide +kernel) rfl ?_ ?_)
                    · exact fun _ h => h
                    intro K hK
                    go_simp
                    refine (HG1.out _ (HX3.out.trans hE)).mono ?_
                    rintro e wa ⟨rfl, hx2⟩
                    have hA := hE.trans hx2
                    refine hK _ _ hA ?_
                    clear hK K hx2
                    (try simp only [Act.put, List.setIfInBounds_toArray, List.set_cons_zero, List.set_cons_succ])
                    repeat (refine walkR_still (v := ?_) rfl (by decide +kernel) rfl (fun _ _ _ h => h) hA ?_ ?_; rotate_left; (focus (intro w' hw'; obtain ⟨f0, f1, f2⟩ := HF.out w' (HX3.out.trans hw'); go_simp; all_goals (with_reducible rfl))); simp only [Act.put, List.setIfInBounds_toArray, List.set_cons_zero, List.set_cons_succ])
                    (refine walkR_later ?_; simp only [List.cons_append, List.nil_append])
                    repeat (refine walkR_still (v := ?_) rfl (by decide +kernel) rfl (fun _ _ _ h => h) hA ?_ ?_; rotate_left; (focus (intro w' hw'; obtain ⟨f0, f1, f2⟩ := HF.out w' (HX3.out.trans hw'); go_simp; all_goals (with_reducible rfl))); simp only [Act.put, List.setIfInBounds_toArray, List.set_cons_zero, List.set_cons_succ])
                    (refine walkR_later ?_; simp only [List.cons_append, List.nil_append])
                    (refine walkR_later ?_; simp only [List.cons_append, List.nil_append])
                    repeat (refine walkR_still (v := ?_) rfl (by decide +kernel) rfl (fun _ _ _ h => h) hA ?_ ?_; rotate_left; (focus (intro w' hw'; obtain ⟨f0, f1, f2⟩ := HF.out w' (HX3.out.trans hw'); go_simp; all_goals (with_reducible rfl))); simp only [Act.put, List.setIfInBounds_toArray, List.set_cons_zero, List.set_cons_succ])
                    (refine walkR_later ?_; simp only [List.cons_append, List.nil_append])
                    (refine walkR_later ?_; simp only [List.cons_append, List.nil_append])
                    (refine walkR_only (fun w' => Ext wr w') rfl (by decide +kernel) rfl ?_ ?_)
                    · exact fun _ h => h
                    intro K hK
                    go_simp
                    refine (HG1.out _ (HX3.out.trans hA)).mono ?_
                    rintro e wb ⟨rfl, hx2⟩
                    have hB := hA.trans hx2
                    refine hK _ _ hB ?_
                    clear hK K hx2
                    (try simp only [Act.put, List.setIfInBounds_toArray, List.set_cons_zero, List.set_cons_succ])
                    (refine walkR_only (fun w' => Ext wr w') rfl (by decide +kernel) rfl ?_ ?_)
                    · exact fun _ h => h
                    intro K hK
                    go_simp
                    refine (HG2.out _ (HX3.out.trans hB)).mono ?_
                    rintro e wc ⟨rfl, hx2⟩
                    have hC := hB.trans hx2
                    refine hK _ _ hC ?_
                    clear hK K hx2
                    (try simp only [Act.put, List.setIfInBounds_toArray, List.set_cons_zero, List.set_cons_succ])
                    repeat (refine walkR_still (v := ?_) rfl (by decide +kernel) rfl (fun _ _ _ h => h) hC ?_ ?_; rotate_left; (focus (intro w' hw'; obtain ⟨f0, f1, f2⟩ := HF.out w' (HX3.out.trans hw'); go_simp; all_goals (with_reducible rfl))); simp only [Act.put, List.setIfInBounds_toArray, List.set_cons_zero, List.set_cons_succ])
                    (refine walkR_tail (by rfl) (by kernel_rfl) ?_; simp only [List.drop_succ_cons, List.drop_zero])
                    have HY := hidP (HX3.out.trans hC)
                    have HB := HBad.out (HSK.out.trans (by rw [hs1]; simp))
                    go_wp2
                    go_ret
                    exact ⟨ret_bool HB.out.symm, HX1.out.trans HY.out⟩
                · clear e1 e2
                  go_wp2
                  (refine walkR_start (fun w' => Ext wr w') 27 (by kernel_rfl) ?_; simp only [numbered, List.take_succ_cons, List.take_zero, Nat.zero_add, Nat.reduceAdd, List.length_cons, List.length_nil])
                  repeat (refine walkR_still (v := ?_) rfl (by decide +kernel) rfl (fun _ _ _ h => h) hE ?_ ?_; rotate_left; (focus (intro w' hw'; obtain ⟨f0, f1, f2⟩ := HF.out w' (HX3.out.trans hw'); go_simp; all_goals (with_reducible rfl))); simp only [Act.put, List.setIfInBounds_toArray, List.set_cons_zero, List.set_cons_succ])
                  (refine walkR_only (fun w' => Ext wr w') rfl (by decide +kernel) rfl ?_ ?_)
                  · exact fun _ h => h
                  intro K hK
                  go_simp
                  refine (HG1.out _ (HX3.out.trans hE)).mono ?_
                  rintro e wa ⟨rfl, hx2⟩
                  have hA := hE.trans hx2
                  refine hK _ _ hA ?_
                  clear hK K hx2
                  (try simp only [Act.put, List.setIfInBounds_toArray, List.set_cons_zero, List.set_cons_succ])
                  repeat (refine walkR_still (v := ?_) rfl (by decide +kernel) rfl (fun _ _ _ h => h) hA ?_ ?_; rotate_left; (focus (intro w' hw'; obtain ⟨f0, f1, f2⟩ := HF.out w' (HX3.out.trans hw'); go_simp; all_goals (with_reducible rfl))); simp only [Act.put, List.setIfInBounds_toArray, List.set_cons_zero, List.set_cons_succ])
                  iterate 15 (refine walkR_skip rfl (by decide +kernel) rfl (fun _ _ _ h => h) hA ?_; simp only [Act.put, List.setIfInBounds_toArray, List.set_cons_zero, List.set_cons_succ])
                  repeat (refine walkR_still (v := ?_) rfl (by decide +kernel) rfl (fun _ _ _ h => h) hA ?_ ?_; rotate_left; (focus (intro w' hw'; obtain ⟨f0, f1, f2⟩ := HF.out w' (HX3.out.trans hw'); go_simp; all_goals (with_reducible rfl))); simp only [Act.put, List.setIfInBounds_toArray, List.set_cons_zero, List.set_cons_succ])
                  (refine walkR_tail (by rfl) (by kernel_rfl) ?_; simp only [List.drop_succ_cons, List.drop_zero])
                  have HY := hidP (HX3.out.trans hA)
                  have HB := HBad.out (HSK.out.trans (by rw [hx1]; simp))
                  go_wp2
                  go_ret
                  exact ⟨ret_bool HB.out.symm, HX1.out.trans HY.out⟩
              · have hd1 : ((i : Int) == j) = false := by simp; omega
                rw [decide_eq_false hij] at HSK
                clear hij
                cases hs1 : (s != 0)
                · go_wp2
                  (refine walkR_start (fun w' => Ext wr w') 27 (by kernel_rfl) ?_; simp only [numbered, List.take_succ_cons, List.take_zero, Nat.zero_add, Nat.reduceAdd, List.length_cons, List.length_nil])
                  repeat (refine walkR_still (v := ?_) rfl (by decide +kernel) rfl (fun _ _ _ h => h) hE ?_ ?_; rotate_left; (focus (intro w' hw'; obtain ⟨f0, f1, f2⟩ := HF.out w' (HX3.out.trans hw'); go_simp; all_goals (with_reducible rfl))); simp only [Act.put, List.setIfInBounds_toArray, List.set_cons_zero, List.set_cons_succ])
                  iterate 6 (refine walkR_skip rfl (by decide +kernel) rfl (fun _ _ _ h => h) hE ?_; simp only [Act.put, List.setIfInBounds_toArray, List.set_cons_zero, List.set_cons_succ])
                  repeat (refine walkR_still (v := ?_) rfl (by decide +kernel) rfl (fun _ _ _ h => h) hE ?_ ?_; rotate_left; (focus (intro w' hw'; obtain ⟨f0, f1, f2⟩ := HF.out w' (HX3.out.trans hw'); go_simp; all_goals (with_reducible rfl))); simp only [Act.put, List.setIfInBounds_toArray, List.set_cons_zero, List.set_cons_succ])
                  (refine walkR_later ?_; simp only [List.cons_append, List.nil_append])
                  repeat (refine walkR_still (v := ?_) rfl (by decide +kernel) rfl (fun _ _ _ h => h) hE ?_ ?_; rotate_left; (focus (intro w' hw'; obtain ⟨f0, f1, f2⟩ := HF.out w' (HX3.out.trans hw'); go_simp; all_goals (with_reducible rfl))); simp only [Act.put, List.setIfInBounds_toArray, List.set_cons_zero, List.set_cons_succ])
                  (refine walkR_later ?_; simp only [List.cons_append, List.nil_append])
                  (refine walkR_later ?_; simp only [List.cons_append, List.nil_append])
                  repeat (refine walkR_still (v := ?_) rfl (by decide +kernel) rfl (fun _ _ _ h => h) hE ?_ ?_; rotate_left; (focus (intro w' hw'; obtain ⟨f0, f1, f2⟩ := HF.out w' (HX3.out.trans hw'); go_simp; all_goals (with_reducible rfl))); simp only [Act.put, List.setIfInBounds_toArray, List.set_cons_zero, List.set_cons_succ])
                  (refine walkR_later ?_; simp only [List.cons_append, List.nil_append])
                  (refine walkR_later ?_; simp only [List.cons_append, List.nil_append])
                  (refine walkR_only (fun w' => Ext wr w') rfl (by decide +kernel) rfl ?_ ?_)
                  · exact fun _ h => h
                  intro K hK
                  go_simp
                  refine (HG1.out _ (HX3.out.trans hE)).mono ?_
                  rintro e wb ⟨rfl, hx2⟩
                  have hB := hE.trans hx2
                  refine hK _ _ hB ?_
                  clear hK K hx2
                  (try simp only [Act.put, List.setIfInBounds_toArray, List.set_cons_zero, List.set_cons_succ])
                  (refine walkR_only (fun w' => Ext wr w') rfl (by decide +kernel) rfl ?_ ?_)
                  · exact fun _ h => h
                  intro K hK
                  go_simp
                  refine (HG2.out _ (HX3.out.trans hB)).mono ?_
                  rintro e wc ⟨rfl, hx2⟩
                  have hC := hB.trans hx2
                  refine hK _ _ hC ?_
                  clear hK K hx2
                  (try simp only [Act.put, List.setIfInBounds_toArray, List.set_cons_zero, List.set_cons_succ])
                  repeat (refine walkR_still (v := ?_) rfl (by decide +kernel) rfl (fun _ _ _ h => h) hC ?_ ?_; rotate_left; (focus (intro w' hw'; obtain ⟨f0, f1, f2⟩ := HF.out w' (HX3.out.trans hw'); go_simp; all_goals (with_reducible rfl))); simp only [Act.put, List.setIfInBounds_toArray, List.set_cons_zero, List.set_cons_succ])
                  (refine walkR_tail (by rfl) (by kernel_rfl) ?_; simp only [List.drop_succ_cons, List.drop_zero])
                  have HY := hidP (HX3.out.trans hC)
                  have HB : Hid (skewK p t d i j k = true) := HSK.out.trans (by rw [hs1]; simp)
                  go_wp2
                  go_roundw
                  case rel =>
                    refine ⟨k + 1, by omega, fun k' h' => ?_, HY.out, by go_num⟩
                    rcases Nat.lt_succ_iff_lt_or_eq.1 h' with h3 | rfl
                    · exact HJ3.out k' h3
                    · exact HB.out
                  case measure => simp [intOf]; omega
                · go_wp2
                  (refine walkR_start (fun w' => Ext wr w') 27 (by kernel_rfl) ?_; simp only [numbered, List.take_succ_cons, List.take_zero, Nat.zero_add, Nat.reduceAdd, List.length_cons, List.length_nil])
                  repeat (refine walkR_still (v := ?_) rfl (by decide +kernel) rfl (fun _ _ _ h => h) hE ?_ ?_; rotate_left; (focus (intro w' hw'; obtain ⟨f0, f1, f2⟩ := HF.out w' (HX3.out.trans hw'); go_simp; all_goals (with_reducible rfl))); simp only [Act.put, List.setIfInBounds_toArray, List.set_cons_zero, List.set_cons_succ])
                  iterate 6 (refine walkR_skip rfl (by decide +kernel) rfl (fun _ _ _ h => h) hE ?_; simp only [Act.put, List.setIfInBounds_toArray, List.set_cons_zero, List.set_cons_succ])
                  repeat (refine walkR_still (v := ?_) rfl (by decide +kernel) rfl (fun _ _ _ h => h) hE ?_ ?_; rotate_left; (focus (intro w' hw'; obtain ⟨f0, f1, f2⟩ := HF.out w' (HX3.out.trans hw'); go_simp; all_goals (with_reducible rfl))); simp only [Act.put, List.setIfInBounds_toArray, List.set_cons_zero, List.set_cons_succ])
                  (refine walkR_later ?_; simp only [List.cons_append, List.nil_append])
                  repeat (refine walkR_still (v := ?_) rfl (by decide +kernel) rfl (fun _ _ _ h => h) hE ?_ ?_; rotate_left; (focus (intro w' hw'; obtain ⟨f0, f1, f2⟩ := HF.out w' (HX3.out.trans hw'); go_simp; all_goals (with_reducible rfl))); simp only [Act.put, List.setIfInBounds_toArray, List.set_cons_zero, List.set_cons_succ])
                  (refine walkR_later ?_; simp only [List.cons_append, List.nil_append])
                  (refine walkR_later ?_; simp only [List.cons_append, List.nil_append])
                  repeat (refine walkR_still (v := ?_) rfl (by decide +kernel) rfl (fun _ _ _ h => h) hE ?_ ?_; rotate_left; (focus (intro w' hw'; obtain ⟨f0, f1, f2⟩ := HF.out w' (HX3.out.trans hw'); go_simp; all_goals (with_reducible rfl))); simp only [Act.put, List.setIfInBounds_toArray, List.set_cons_zero, List.set_cons_succ])
                  (refine walkR_later ?_; simp only [List.cons_append, List.nil_append])
                  (refine walkR_later ?_; simp only [List.cons_append, List.nil_append])
                  (refine walkR_only (fun w' => Ext wr w') rfl (by decide +kernel) rfl ?_ ?_)
                  · exact fun _ h => h
                  intro K hK
                  go_simp
                  refine (HG1.out _ (HX3.out.trans hE)).mono ?_
                  rintro e wb ⟨rfl, hx2⟩
                  have hB := hE.trans hx2
                  refine hK _ _ hB ?_
                  clear hK K hx2
                  (try simp only [Act.put, List.setIfInBounds_toArray, List.set_cons_zero, List.set_cons_succ])
                  (refine walkR_only (fun w' => Ext wr w') rfl (by decide +kernel) rfl ?_ ?_)
                  · exact fun _ h => h
                  intro K hK
                  go_simp
                  refine (HG2.out _ (HX3.out.trans hB)).mono ?_
                  rintro e wc ⟨rfl, hx2⟩
                  have hC := hB.trans hx2
                  refine hK _ _ hC ?_
                  clear hK K hx2
                  (try simp only [Act.put, List.setIfInBounds_toArray, List.set_cons_zero, List.set_cons_succ])
                  repeat (refine walkR_still (v := ?_) rfl (by decide +kernel) rfl (fun _ _ _ h => h) hC ?_ ?_; rotate_left; (focus (intro w' hw'; obtain ⟨f0, f1, f2⟩ := HF.out w' (HX3.out.trans hw'); go_simp; all_goals (with_reducible rfl))); simp only [Act.put, List.setIfInBounds_toArray, List.set_cons_zero, List.set_cons_succ])
                  (refine walkR_tail (by rfl) (by kernel_rfl) ?_; simp only [List.drop_succ_cons, List.drop_zero])
                  have HY := hidP (HX3.out.trans hC)
                  have HB := HBad.out (HSK.out.trans (by rw [hs1]; simp))
                  go_wp2
                  go_ret
                  exact ⟨ret_bool HB.out.symm, HX1.out.trans HY.out⟩
            · have HB : Hid (skewB p t d i j = true) := (skewB_of LT.out hlt hjd).2 (fun k' h' => HJ3.out k' (by omega))
              go_wp2
              go_roundw
              case rel =>
                refine ⟨j + 1, by omega, fun j' h' => ?_, HX3.out, by go_num⟩
                rcases Nat.lt_succ_iff_lt_or_eq.1 h' with h3 | rfl
                · exact HJ2.out j' h3
                · exact HB.out
              case measure => simp [intOf]; omega
        · obtain rfl : j = i + 1 := by omega
          go_wp2
          go_roundw
          case rel =>
            refine ⟨i + 1, by omega, fun i' h' j' hj2 => ?_, HX2.out, by go_num⟩
            rcases Nat.lt_succ_iff_lt_or_eq.1 h' with h3 | rfl
            · exact HJ.out i' h3 j' hj2
            · exact HJ2.out j' hj2
          case measure => simp [intOf]; omega
    · have HJA := hidP (fun w' (hx : Ext w0 w') => l2Jacobi_any p d N c a t w' (by omega) HN.out ((HT.out.below HX1.out).below hx) (by omega) p7 HR.out hnc hc2)
      have HB : Hid (jacAllB p t d = algB p d t) := by
        show _ = _
        rw [Bool.eq_iff_iff, jacAllB_true, algB_true]
        unfold AlgP
        simp only [Int.toNat_natCast]
        exact ⟨fun h => ⟨HH.out, fun i' h' => HJ.out i' (by omega), h⟩, fun h => h.2.2⟩
      obtain ⟨f0, f1, f2⟩ := HF.out wr HX.out
      go_wp2_with fail
      refine (HJA.out _ HX.out).mono ?_
      rintro e w2 ⟨rfl, hx2⟩
      go_wp2
      go_ret
      exact ⟨ret_bool HB.out, HX1.out.trans (HX.out.trans hx2)⟩

set_option maxHeartbeats 2000000 in
theorem sAlgebraOk_any (p d : Int) (a : Option Addr) (N c : Nat) (t : List Int) (w : World) (ht : IntsAt w a N t) (hnc : N ≤ c) (hc2 : c ≤ 1000000000000) :
    Calls Tryz.prog 28 #[algV p d a N c] w fun e w' => e = .returned (.bool (algB p d t)) ∧ Ext w w' := by
  cases hh : headB p d t
  · have HB : Hid (algB p d t = false) := by
      show _ = _
      rw [algB_false]
      intro h
      rw [h.1] at hh
      cases hh
    have hl := ht.len
    simp only [headB, Bool.and_eq_false_iff, decide_eq_false_iff_not] at hh
    cases hp : primeB p
    · clear hh ht hl
      go_enter Tryz.func28, Tryz.ntmps28
      go_wp2_with (first | (go_at_call 58; refine (sIsPrime_any _ _).mono ?_; rintro e w' ⟨rfl, rfl⟩))
      go_ret
      exact ⟨ret_bool HB.out.symm, Ext.alloc _ _⟩
    · cases hi : insB d 0 28
      · clear hh ht hl
        go_enter Tryz.func28, Tryz.ntmps28
        go_wp2_with (first | (go_at_call 58; refine (sIsPrime_any _ _).mono ?_; rintro e w' ⟨rfl, rfl⟩) | (go_at_call 59; refine (l1In_any _ _ _ _).mono ?_; rintro e w' ⟨rfl, rfl⟩))
        go_ret
        exact ⟨ret_bool HB.out.symm, Ext.alloc _ _⟩
      · obtain ⟨h0, h28⟩ := insB_true.1 hi
        obtain ⟨k1, k2, k3, k4⟩ := cube_le h0 h28
        obtain ⟨p2, p7⟩ := prime_bounds hp
        by_cases hn : (N : Int) = d * d * d
        · have hr : resB p t = false := by
            rcases hh with ((h | h) | h) | h
            · rw [hp] at h; cases h
            · rw [hi] at h; cases h
            · exact absurd (by rw [hl]; exact hn) h
            · exact h
          have hNi : ((N : Int) != d * d * d) = false := by rw [hn]; simp
          have hx0 : Ext w (w.alloc (.cells #[.int .i64 p, .int .i64 d, .slice a N c] 28)) := Ext.alloc _ _
          have HRS := hidP (l1Residues_any a N c t p _ (ht.below hx0) (by omega))
          clear hh ht hl hn hx0
          go_enter Tryz.func28, Tryz.ntmps28
          go_wp2_with (first | (go_at_call 58; refine (sIsPrime_any _ _).mono ?_; rintro e w' ⟨rfl, rfl⟩) | (go_at_call 59; refine (l1In_any _ _ _ _).mono ?_; rintro e w' ⟨rfl, rfl⟩) | (go_at_call 60; refine HRS.out.mono ?_; rintro e w1 ⟨rfl, rfl⟩))
          go_ret
          exact ⟨ret_bool HB.out.symm, Ext.alloc _ _⟩
        · have hNi : ((N : Int) != d * d * d) = true := bne_iff_ne.2 hn
          clear hh ht hl hn
          go_enter Tryz.func28, Tryz.ntmps28
          go_wp2_with (first | (go_at_call 58; refine (sIsPrime_any _ _).mono ?_; rintro e w' ⟨rfl, rfl⟩) | (go_at_call 59; refine (l1In_any _ _ _ _).mono ?_; rintro e w' ⟨rfl, rfl⟩))
          go_ret
          exact ⟨ret_bool HB.out.symm, Ext.alloc _ _⟩
  · obtain ⟨hp, hd0, hd, hl, hr⟩ := headB_true hh
    obtain ⟨dn, rfl⟩ := Int.eq_ofNat_of_zero_le hd0
    exact sAlgebraOk_good p dn a N c t w ht hnc hc2 hh
end Go.Proofs.YtcfgcacmmmhjcaaGreatDoor
