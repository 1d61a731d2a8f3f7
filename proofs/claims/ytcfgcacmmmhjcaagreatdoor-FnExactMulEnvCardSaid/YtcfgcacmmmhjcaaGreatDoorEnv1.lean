/-
  The program's EnvOk. Printed by gen/env1.py.
-/
import Derived.Test.YtcfgcacmmmhjcaaGreatDoorTrm2
namespace Go.Proofs.YtcfgcacmmmhjcaaGreatDoor
open Go.RowKit

theorem cell_pair (w : World) (v0 v1 : Value) (E : TypeId) {w' : World} (hx : Ext (w.alloc (.cells #[v0, v1] E)) w') : w'.cell? ⟨w.heap.size, 0, none⟩ = some v0 ∧ w'.cell? ⟨w.heap.size, 1, none⟩ = some v1 :=
  ⟨(hx.cell (p := ⟨w.heap.size, 0, none⟩) (by simp)).trans ((cell_top _ _ _ _ _ rfl).trans rfl), (hx.cell (p := ⟨w.heap.size, 1, none⟩) (by simp)).trans ((cell_top _ _ _ _ _ rfl).trans rfl)⟩

set_option maxRecDepth 100000 in
set_option maxHeartbeats 4000000 in
theorem envOk_good (p d : Int) (ta : Option Addr) (tn tc : Nat) (t : List Int) (a : Option Addr) (n c : Nat) (us : List (List Int × Int)) (w : World) (ht : IntsAt w ta tn t) (htc : tn ≤ tc) (htc2 : tc ≤ 1000000000000) (h : TermsAt w a n us) (hn : n ≤ 300)
    (hb : algB p d t = true) :
    Calls Tryz.prog 44 #[algV p d ta tn tc, .slice a n c] w fun e w' => e = .returned (.bool (envB p d us)) ∧ Ext w w' := by
  have hX := Ext.alloc w (.cells #[.int .i64 p, .int .i64 d, .slice ta tn tc] 28)
  have HA := hidP (algebraOk_any p d ta tn tc t _ (ht.below hX) htc htc2)
  have G0 := hidP (h.below hX)
  have HAL0 := hidP (AlgAt.new w _ rfl p d ta tn tc 28)
  have HX0 := hidP hX
  have L := hidP h.len
  obtain ⟨hh, _⟩ := algB_true.1 hb
  obtain ⟨hp, hd0, hd1, _, _⟩ := headB_true hh
  obtain ⟨p2, p7⟩ := prime_bounds hp
  rw [hb] at HA
  clear ht h hX hb hh hp
  have h3 : ¬ 300 < n := by omega
  go_enter Tryz.func44, Tryz.ntmps44
  go_wp2_with (go_at_call 31; refine HA.out.mono ?_; rintro e w0 ⟨rfl, hx0⟩)
  have G := hidP (G0.out.below hx0)
  have HX := hidP (HX0.out.trans hx0)
  have HAL := hidP (HAL0.out.below hx0)
  clear hx0 G0 HX0 HAL0 HA
  have HF := hidP (fun w' (hx : Ext w0 w') => (⟨(HAL.out.below hx).c0, (HAL.out.below hx).c1, (HAL.out.below hx).c2⟩ : _ ∧ _ ∧ _))
  have ed : IntKind.i64.wrap (p - 1) = p - 1 := wrap_in (by omega) (by omega)
  go_loopw [19] (fun i wr => ∃ k : Nat, k ≤ n ∧ Hid (∀ j, j < k → termB p d us j = true) ∧ i = .int .i64 k ∧ Hid (Ext w0 wr)) (fun i _ => n - (intOf i).toNat)
  case atStart => exact ⟨0, Nat.zero_le _, fun j h => by omega, rfl, Ext.refl _⟩
  case round =>
    obtain ⟨k, hk, HJ, rfl, HXr⟩ := hrel
    obtain ⟨w9, rfl⟩ : ∃ w9 : World, w9 = wr := ⟨_, rfl⟩
    by_cases hlt : k < n
    · obtain ⟨b, o, _, _, rfl, _⟩ := G.out.get k hlt
      obtain ⟨aw, cw, hm, hq⟩ := G.out.keeps k hlt
      obtain ⟨aw1, cw1, hm1, hq1⟩ := G.out.keeps (k - 1) (by omega)
      have HQ := hidP hq
      have HQ1 := hidP hq1
      have HB := hidP (fun e => envB_bad (p := p) (d := d) (us := us) k (by have := L.out; omega) e)
      have HK : Hid (termB p d us k = (wordB d (us.getD k ([], 0)).1 && insB (us.getD k ([], 0)).2 1 (p - 1) && (decide (k = 0) || decide (cmpW (us.getD (k - 1) ([], 0)).1 (us.getD k ([], 0)).1 < 0)))) := rfl
      have HS := hidP (fun (hs : termB p d us k = true) => (by
        intro j hj
        rcases Nat.lt_succ_iff_lt_or_eq.1 hj with h3 | rfl
        · exact HJ.out j h3
        · exact hs : ∀ j, j < k + 1 → termB p d us j = true))
      clear hq hq1
      generalize us.getD k ([], 0) = U at *
      generalize us.getD (k - 1) ([], 0) = V at *
      obtain ⟨x, m⟩ := U
      obtain ⟨y, m1⟩ := V
      simp only at HQ HQ1 HK hm hm1
      have HCW := hidP (fun w' (hx : Ext w0 w') => compareWords_any aw1 aw y.length x.length cw1 cw y x w' (HQ1.out w' hx).2.2 (HQ.out w' hx).2.2 hm1 hm)
      have HR := hidP (cmpW_range y x)
      have HCZ : Hid (decide (cmpW y x < 0) = decide (cmpW y x < 0)) := rfl
      generalize hcb : cmpW y x = CB at *
      clear hcb
      obtain ⟨q, q', _⟩ := HQ.out _ HXr.out
      go_wp2
      clear q q'
      have hxa : Ext w9 (w9.alloc (.cells #[.slice aw x.length cw, .int .i64 m] 62)) := Ext.alloc _ _
      have HV := hidP (fun w' (hx : Ext (w9.alloc (.cells #[.slice aw x.length cw, .int .i64 m] 62)) w') => cell_pair w9 _ _ _ hx)
      obtain ⟨w1, hw1⟩ : ∃ w1, w1 = w9.alloc (.cells #[.slice aw x.length cw, .int .i64 m] 62) := ⟨_, rfl⟩
      rw [← hw1] at HV hxa ⊢
      have HX1 := hidP (HXr.out.trans hxa)
      clear hw1 hxa
      have hE : Ext w1 w1.drew := Ext.drew w1
      cases hi : insB m 1 (p - 1)
      · have HB' := hidP (HB.out (by rw [HK.out]; rw [hi]; simp))
        (refine walkR_start (fun w' => Ext w1 w') 29 (by kernel_rfl) ?_; simp only [numbered, List.take_succ_cons, List.take_zero, Nat.zero_add, Nat.reduceAdd, List.length_cons, List.length_nil])
        (repeat (first | (refine walkR_still (v := ?_) rfl (by decide +kernel) rfl (fun _ _ _ h => h) hE ?_ ?_; rotate_left; (focus (intro w' hw'; obtain ⟨f0, f1, f2⟩ := HF.out w' (HX1.out.trans hw'); obtain ⟨g0, g1⟩ := HV.out w' hw'; go_simp; all_goals (with_reducible rfl))); simp only [Act.put, List.setIfInBounds_toArray, List.set_cons_zero, List.set_cons_succ]) | (refine walkR_skip rfl (by decide +kernel) rfl (fun _ _ _ h => h) hE ?_; simp only [Act.put, List.setIfInBounds_toArray, List.set_cons_zero, List.set_cons_succ])))
        (refine walkR_only (fun w' => Ext w1 w') rfl (by decide +kernel) rfl (fun _ h => h) ?_; intro K hK; go_simp; refine (inside_any _ _ _ _).mono ?_; rintro e w' ⟨rfl, rfl⟩; refine hK _ _ (hE) ?_; clear hK K; (try simp only [Act.put, List.setIfInBounds_toArray, List.set_cons_zero, List.set_cons_succ]))
        (repeat (first | (refine walkR_still (v := ?_) rfl (by decide +kernel) rfl (fun _ _ _ h => h) hE ?_ ?_; rotate_left; (focus (intro w' hw'; obtain ⟨f0, f1, f2⟩ := HF.out w' (HX1.out.trans hw'); obtain ⟨g0, g1⟩ := HV.out w' hw'; go_simp; all_goals (with_reducible rfl))); simp only [Act.put, List.setIfInBounds_toArray, List.set_cons_zero, List.set_cons_succ]) | (refine walkR_skip rfl (by decide +kernel) rfl (fun _ _ _ h => h) hE ?_; simp only [Act.put, List.setIfInBounds_toArray, List.set_cons_zero, List.set_cons_succ])))
        (refine walkR_tail (by rfl) (by kernel_rfl) ?_; simp only [List.drop_succ_cons, List.drop_zero])
        go_wp2
        go_ret
        exact ⟨ret_bool HB'.out.symm, (HX.out.trans HX1.out).trans hE⟩
      · by_cases h6 : 6 < x.length
        · have h6' : decide ((6 : Int) < (x.length : Int)) = true := by simp; omega
          have HB' := hidP (HB.out (by rw [HK.out]; rw [wordB_long h6]; simp))
          (refine walkR_start (fun w' => Ext w1 w') 29 (by kernel_rfl) ?_; simp only [numbered, List.take_succ_cons, List.take_zero, Nat.zero_add, Nat.reduceAdd, List.length_cons, List.length_nil])
          (repeat (first | (refine walkR_still (v := ?_) rfl (by decide +kernel) rfl (fun _ _ _ h => h) hE ?_ ?_; rotate_left; (focus (intro w' hw'; obtain ⟨f0, f1, f2⟩ := HF.out w' (HX1.out.trans hw'); obtain ⟨g0, g1⟩ := HV.out w' hw'; go_simp; all_goals (with_reducible rfl))); simp only [Act.put, List.setIfInBounds_toArray, List.set_cons_zero, List.set_cons_succ]) | (refine walkR_skip rfl (by decide +kernel) rfl (fun _ _ _ h => h) hE ?_; simp only [Act.put, List.setIfInBounds_toArray, List.set_cons_zero, List.set_cons_succ])))
          (refine walkR_only (fun w' => Ext w1 w') rfl (by decide +kernel) rfl (fun _ h => h) ?_; intro K hK; go_simp; refine (inside_any _ _ _ _).mono ?_; rintro e w' ⟨rfl, rfl⟩; refine hK _ _ (hE) ?_; clear hK K; (try simp only [Act.put, List.setIfInBounds_toArray, List.set_cons_zero, List.set_cons_succ]))
          (repeat (first | (refine walkR_still (v := ?_) rfl (by decide +kernel) rfl (fun _ _ _ h => h) hE ?_ ?_; rotate_left; (focus (intro w' hw'; obtain ⟨f0, f1, f2⟩ := HF.out w' (HX1.out.trans hw'); obtain ⟨g0, g1⟩ := HV.out w' hw'; go_simp; all_goals (with_reducible rfl))); simp only [Act.put, List.setIfInBounds_toArray, List.set_cons_zero, List.set_cons_succ]) | (refine walkR_skip rfl (by decide +kernel) rfl (fun _ _ _ h => h) hE ?_; simp only [Act.put, List.setIfInBounds_toArray, List.set_cons_zero, List.set_cons_succ])))
          (refine walkR_tail (by rfl) (by kernel_rfl) ?_; simp only [List.drop_succ_cons, List.drop_zero])
          go_wp2
          go_ret
          exact ⟨ret_bool HB'.out.symm, (HX.out.trans HX1.out).trans hE⟩
        · by_cases hk0 : k = 0
          · subst hk0
            have h6' : decide ((6 : Int) < (x.length : Int)) = false := by simp; omega
            have HS2 := hidP (fun (hw : wordB d x = true) => HS.out (by rw [HK.out, hw, hi]; rfl))
            have HWB := hidP (fun (i : Nat) (hi : i < x.length) (e : wordK d x i = false) => HB.out (by rw [HK.out, wordB_bad i hi e]; rfl))
            (refine walkR_start (fun w' => Ext w1 w') 29 (by kernel_rfl) ?_; simp only [numbered, List.take_succ_cons, List.take_zero, Nat.zero_add, Nat.reduceAdd, List.length_cons, List.length_nil])
            (repeat (first | (refine walkR_still (v := ?_) rfl (by decide +kernel) rfl (fun _ _ _ h => h) hE ?_ ?_; rotate_left; (focus (intro w' hw'; obtain ⟨f0, f1, f2⟩ := HF.out w' (HX1.out.trans hw'); obtain ⟨g0, g1⟩ := HV.out w' hw'; go_simp; all_goals (with_reducible rfl))); simp only [Act.put, List.setIfInBounds_toArray, List.set_cons_zero, List.set_cons_succ]) | (refine walkR_skip rfl (by decide +kernel) rfl (fun _ _ _ h => h) hE ?_; simp only [Act.put, List.setIfInBounds_toArray, List.set_cons_zero, List.set_cons_succ])))
            (refine walkR_only (fun w' => Ext w1 w') rfl (by decide +kernel) rfl (fun _ h => h) ?_; intro K hK; go_simp; refine (inside_any _ _ _ _).mono ?_; rintro e w' ⟨rfl, rfl⟩; refine hK _ _ (hE) ?_; clear hK K; (try simp only [Act.put, List.setIfInBounds_toArray, List.set_cons_zero, List.set_cons_succ]))
            (repeat (first | (refine walkR_still (v := ?_) rfl (by decide +kernel) rfl (fun _ _ _ h => h) hE ?_ ?_; rotate_left; (focus (intro w' hw'; obtain ⟨f0, f1, f2⟩ := HF.out w' (HX1.out.trans hw'); obtain ⟨g0, g1⟩ := HV.out w' hw'; go_simp; all_goals (with_reducible rfl))); simp only [Act.put, List.setIfInBounds_toArray, List.set_cons_zero, List.set_cons_succ]) | (refine walkR_skip rfl (by decide +kernel) rfl (fun _ _ _ h => h) hE ?_; simp only [Act.put, List.setIfInBounds_toArray, List.set_cons_zero, List.set_cons_succ])))
            (refine walkR_tail (by rfl) (by kernel_rfl) ?_; simp only [List.drop_succ_cons, List.drop_zero])
            have HX2 := hidP (HX1.out.trans hE)
            have HV2 := hidP (fun w' hx => HV.out w' ((hE).trans hx))
            clear hE
            obtain ⟨w2, hw2⟩ : ∃ w2, w2 = w1.drew := ⟨_, rfl⟩
            rw [← hw2] at HX2 HV2 ⊢
            clear hw2
            obtain ⟨g0, g1⟩ := HV2.out w2 (Ext.refl _)
            have ed2 : IntKind.i64.wrap (d - 1) = d - 1 := wrap_in (by omega) (by omega)
            go_wp2
            clear g0 g1
            go_loopw [56] (fun i wr => ∃ j : Nat, j ≤ x.length ∧ Hid (∀ j', j' < j → wordK d x j' = true) ∧ i = .int .i64 j ∧ Hid (Ext w2 wr)) (fun i _ => x.length - (intOf i).toNat)
            case atStart => exact ⟨0, Nat.zero_le _, fun j h => by omega, rfl, Ext.refl _⟩
            case round =>
              obtain ⟨j, hj, HJ2, rfl, HXi⟩ := hrel
              obtain ⟨g0, g1⟩ := HV2.out wr HXi.out
              obtain ⟨f0, f1, f2⟩ := HF.out wr (HX2.out.trans HXi.out)
              by_cases hjl : j < x.length
              · obtain ⟨_, _, hI⟩ := HQ.out wr (HX2.out.trans HXi.out)
                obtain ⟨b2, o2, rfl, q⟩ := hI.get j hjl
                have q1 := hI.atc (j - 1) (by omega)
                have HKJ : Hid (wordK d x j = (insB (x.getD j 0) 0 (d - 1) && (decide (j = 0) || decide (x.getD (j - 1) 0 ≤ x.getD j 0)))) := rfl
                have HBJ := hidP (HWB.out j hjl)
                have HSJ := hidP (fun (hs : wordK d x j = true) => (by
                  intro j' hj'
                  rcases Nat.lt_succ_iff_lt_or_eq.1 hj' with h3 | rfl
                  · exact HJ2.out j' h3
                  · exact hs : ∀ j', j' < j + 1 → wordK d x j' = true))
                clear hI
                generalize x.getD j 0 = g at *
                generalize x.getD (j - 1) 0 = g' at *
                cases hg : insB g 0 (d - 1)
                · have HB' := hidP (HBJ.out (by rw [HKJ.out, hg]; rfl))
                  go_wp2_with (go_at_call 68; refine (inside_any _ _ _ _).mono ?_; rintro e w' ⟨rfl, rfl⟩)
                  go_ret
                  exact ⟨ret_bool HB'.out.symm, (HX.out.trans HX2.out).trans HXi.out⟩
                · by_cases hj0 : j = 0
                  · subst hj0
                    have hs := hidP (HSJ.out (by rw [HKJ.out, hg]; rfl))
                    rw [Nat.add_zero] at q
                    go_wp2_with (go_at_call 68; refine (inside_any _ _ _ _).mono ?_; rintro e w' ⟨rfl, rfl⟩)
                    go_roundw
                    case rel => exact ⟨0 + 1, by omega, hs, by go_num, HXi⟩
                    case measure => simp [intOf]; omega
                  · have hj1 : decide (0 < j) = true := by simp; omega
                    have hj2 : j - 1 < x.length := by omega
                    have ej : IntKind.i64.wrap ((j : Int) - 1) = ((j - 1 : Nat) : Int) := by rw [wrap_in (by omega) (by omega)]; omega
                    by_cases hgg : g < g'
                    · have HB' := hidP (HBJ.out (by rw [HKJ.out, hg]; simp; omega))
                      go_wp2_with (go_at_call 68; refine (inside_any _ _ _ _).mono ?_; rintro e w' ⟨rfl, rfl⟩)
                      go_ret
                      exact ⟨ret_bool HB'.out.symm, (HX.out.trans HX2.out).trans HXi.out⟩
                    · have hs := hidP (HSJ.out (by rw [HKJ.out, hg]; simp; omega))
                      go_wp2_with (go_at_call 68; refine (inside_any _ _ _ _).mono ?_; rintro e w' ⟨rfl, rfl⟩)
                      go_roundw
                      case rel => exact ⟨j + 1, by omega, hs, by go_num, HXi⟩
                      case measure => simp [intOf]; omega
              · have hs := hidP (HS2.out (wordB_true.2 ⟨by omega, fun j' hj' => HJ2.out j' (by omega)⟩))
                go_wp2
                go_roundw
                case rel => exact ⟨0 + 1, by omega, hs, by go_num, HX2.out.trans HXi.out⟩
                case measure => simp [intOf]; omega
          · have hk1 : decide (0 < k) = true := by simp; omega
            have hk2 : k - 1 < n := by omega
            have ek : IntKind.i64.wrap ((k : Int) - 1) = ((k - 1 : Nat) : Int) := by rw [wrap_in (by omega) (by omega)]; omega
            by_cases hcn : CB < 0
            · have h6' : decide ((6 : Int) < (x.length : Int)) = false := by simp; omega
              have hc0 : decide (0 ≤ CB) = false := by simp; omega
              have HS2 := hidP (fun (hw : wordB d x = true) => HS.out (by rw [HK.out, hw, hi]; simp [hcn]))
              have HWB := hidP (fun (i : Nat) (hi : i < x.length) (e : wordK d x i = false) => HB.out (by rw [HK.out, wordB_bad i hi e]; rfl))
              (refine walkR_start (fun w' => Ext w1 w') 29 (by kernel_rfl) ?_; simp only [numbered, List.take_succ_cons, List.take_zero, Nat.zero_add, Nat.reduceAdd, List.length_cons, List.length_nil])
              (repeat (first | (refine walkR_still (v := ?_) rfl (by decide +kernel) rfl (fun _ _ _ h => h) hE ?_ ?_; rotate_left; (focus (intro w' hw'; obtain ⟨f0, f1, f2⟩ := HF.out w' (HX1.out.trans hw'); obtain ⟨g0, g1⟩ := HV.out w' hw'; go_simp; all_goals (with_reducible rfl))); simp only [Act.put, List.setIfInBounds_toArray, List.set_cons_zero, List.set_cons_succ]) | (refine walkR_skip rfl (by decide +kernel) rfl (fun _ _ _ h => h) hE ?_; simp only [Act.put, List.setIfInBounds_toArray, List.set_cons_zero, List.set_cons_succ])))
              (refine walkR_only (fun w' => Ext w1 w') rfl (by decide +kernel) rfl (fun _ h => h) ?_; intro K hK; go_simp; refine (inside_any _ _ _ _).mono ?_; rintro e w' ⟨rfl, rfl⟩; refine hK _ _ (hE) ?_; clear hK K; (try simp only [Act.put, List.setIfInBounds_toArray, List.set_cons_zero, List.set_cons_succ]))
              (repeat (first | (refine walkR_still (v := ?_) rfl (by decide +kernel) rfl (fun _ _ _ h => h) hE ?_ ?_; rotate_left; (focus (intro w' hw'; obtain ⟨f0, f1, f2⟩ := HF.out w' (HX1.out.trans hw'); obtain ⟨g0, g1⟩ := HV.out w' hw'; obtain ⟨q1, _⟩ := HQ1.out w' (HX1.out.trans hw'); go_simp; all_goals (with_reducible rfl))); simp only [Act.put, List.setIfInBounds_toArray, List.set_cons_zero, List.set_cons_succ]) | (refine walkR_skip rfl (by decide +kernel) rfl (fun _ _ _ h => h) hE ?_; simp only [Act.put, List.setIfInBounds_toArray, List.set_cons_zero, List.set_cons_succ])))
              (refine walkR_only (fun w' => Ext w1 w') rfl (by decide +kernel) rfl (fun _ h => h) ?_; intro K hK; go_simp; refine (HCW.out _ (HX1.out.trans hE)).mono ?_; rintro e w2 ⟨rfl, hx2⟩; refine hK _ _ (hE.trans hx2) ?_; clear hK K; (try simp only [Act.put, List.setIfInBounds_toArray, List.set_cons_zero, List.set_cons_succ]))
              have hE2 := hE.trans hx2
              clear hx2
              (repeat (first | (refine walkR_still (v := ?_) rfl (by decide +kernel) rfl (fun _ _ _ h => h) hE2 ?_ ?_; rotate_left; (focus (intro w' hw'; skip; go_simp; all_goals (with_reducible rfl))); simp only [Act.put, List.setIfInBounds_toArray, List.set_cons_zero, List.set_cons_succ]) | (refine walkR_skip rfl (by decide +kernel) rfl (fun _ _ _ h => h) hE2 ?_; simp only [Act.put, List.setIfInBounds_toArray, List.set_cons_zero, List.set_cons_succ])))
              (refine walkR_tail (by rfl) (by kernel_rfl) ?_; simp only [List.drop_succ_cons, List.drop_zero])
              clear ek
              have HX2 := hidP (HX1.out.trans hE2)
              have HV2 := hidP (fun w' hx => HV.out w' ((hE2).trans hx))
              clear hE
              obtain ⟨g0, g1⟩ := HV2.out w2 (Ext.refl _)
              have ed2 : IntKind.i64.wrap (d - 1) = d - 1 := wrap_in (by omega) (by omega)
              go_wp2
              clear g0 g1
              go_loopw [56] (fun i wr => ∃ j : Nat, j ≤ x.length ∧ Hid (∀ j', j' < j → wordK d x j' = true) ∧ i = .int .i64 j ∧ Hid (Ext w2 wr)) (fun i _ => x.length - (intOf i).toNat)
              case atStart => exact ⟨0, Nat.zero_le _, fun j h => by omega, rfl, Ext.refl _⟩
              case round =>
                obtain ⟨j, hj, HJ2, rfl, HXi⟩ := hrel
                obtain ⟨g0, g1⟩ := HV2.out wr HXi.out
                obtain ⟨f0, f1, f2⟩ := HF.out wr (HX2.out.trans HXi.out)
                by_cases hjl : j < x.length
                · obtain ⟨_, _, hI⟩ := HQ.out wr (HX2.out.trans HXi.out)
                  obtain ⟨b2, o2, rfl, q⟩ := hI.get j hjl
                  have q1 := hI.atc (j - 1) (by omega)
                  have HKJ : Hid (wordK d x j = (insB (x.getD j 0) 0 (d - 1) && (decide (j = 0) || decide (x.getD (j - 1) 0 ≤ x.getD j 0)))) := rfl
                  have HBJ := hidP (HWB.out j hjl)
                  have HSJ := hidP (fun (hs : wordK d x j = true) => (by
                    intro j' hj'
                    rcases Nat.lt_succ_iff_lt_or_eq.1 hj' with h3 | rfl
                    · exact HJ2.out j' h3
                    · exact hs : ∀ j', j' < j + 1 → wordK d x j' = true))
                  clear hI
                  generalize x.getD j 0 = g at *
                  generalize x.getD (j - 1) 0 = g' at *
                  cases hg : insB g 0 (d - 1)
                  · have HB' := hidP (HBJ.out (by rw [HKJ.out, hg]; rfl))
                    go_wp2_with (go_at_call 68; refine (inside_any _ _ _ _).mono ?_; rintro e w' ⟨rfl, rfl⟩)
                    go_ret
                    exact ⟨ret_bool HB'.out.symm, (HX.out.trans HX2.out).trans HXi.out⟩
                  · by_cases hj0 : j = 0
                    · subst hj0
                      have hs := hidP (HSJ.out (by rw [HKJ.out, hg]; rfl))
                      rw [Nat.add_zero] at q
                      go_wp2_with (go_at_call 68; refine (inside_any _ _ _ _).mono ?_; rintro e w' ⟨rfl, rfl⟩)
                      go_roundw
                      case rel => exact ⟨0 + 1, by omega, hs, by go_num, HXi⟩
                      case measure => simp [intOf]; omega
                    · have hj1 : decide (0 < j) = true := by simp; omega
                      have hj2 : j - 1 < x.length := by omega
                      have ej : IntKind.i64.wrap ((j : Int) - 1) = ((j - 1 : Nat) : Int) := by rw [wrap_in (by omega) (by omega)]; omega
                      by_cases hgg : g < g'
                      · have HB' := hidP (HBJ.out (by rw [HKJ.out, hg]; simp; omega))
                        go_wp2_with (go_at_call 68; refine (inside_any _ _ _ _).mono ?_; rintro e w' ⟨rfl, rfl⟩)
                        go_ret
                        exact ⟨ret_bool HB'.out.symm, (HX.out.trans HX2.out).trans HXi.out⟩
                      · have hs := hidP (HSJ.out (by rw [HKJ.out, hg]; simp; omega))
                        go_wp2_with (go_at_call 68; refine (inside_any _ _ _ _).mono ?_; rintro e w' ⟨rfl, rfl⟩)
                        go_roundw
                        case rel => exact ⟨j + 1, by omega, hs, by go_num, HXi⟩
                        case measure => simp [intOf]; omega
                · have hs := hidP (HS2.out (wordB_true.2 ⟨by omega, fun j' hj' => HJ2.out j' (by omega)⟩))
                  go_wp2
                  go_roundw
                  case rel => exact ⟨k + 1, by omega, hs, by go_num, HX2.out.trans HXi.out⟩
                  case measure => simp [intOf]; omega
            · have h6' : decide ((6 : Int) < (x.length : Int)) = false := by simp; omega
              have HB' := hidP (HB.out (by rw [HK.out]; simp; omega))
              have hc0 : decide (0 ≤ CB) = true := by simp; omega
              (refine walkR_start (fun w' => Ext w1 w') 29 (by kernel_rfl) ?_; simp only [numbered, List.take_succ_cons, List.take_zero, Nat.zero_add, Nat.reduceAdd, List.length_cons, List.length_nil])
              (repeat (first | (refine walkR_still (v := ?_) rfl (by decide +kernel) rfl (fun _ _ _ h => h) hE ?_ ?_; rotate_left; (focus (intro w' hw'; obtain ⟨f0, f1, f2⟩ := HF.out w' (HX1.out.trans hw'); obtain ⟨g0, g1⟩ := HV.out w' hw'; go_simp; all_goals (with_reducible rfl))); simp only [Act.put, List.setIfInBounds_toArray, List.set_cons_zero, List.set_cons_succ]) | (refine walkR_skip rfl (by decide +kernel) rfl (fun _ _ _ h => h) hE ?_; simp only [Act.put, List.setIfInBounds_toArray, List.set_cons_zero, List.set_cons_succ])))
              (refine walkR_only (fun w' => Ext w1 w') rfl (by decide +kernel) rfl (fun _ h => h) ?_; intro K hK; go_simp; refine (inside_any _ _ _ _).mono ?_; rintro e w' ⟨rfl, rfl⟩; refine hK _ _ (hE) ?_; clear hK K; (try simp only [Act.put, List.setIfInBounds_toArray, List.set_cons_zero, List.set_cons_succ]))
              (repeat (first | (refine walkR_still (v := ?_) rfl (by decide +kernel) rfl (fun _ _ _ h => h) hE ?_ ?_; rotate_left; (focus (intro w' hw'; obtain ⟨f0, f1, f2⟩ := HF.out w' (HX1.out.trans hw'); obtain ⟨g0, g1⟩ := HV.out w' hw'; obtain ⟨q1, _⟩ := HQ1.out w' (HX1.out.trans hw'); go_simp; all_goals (with_reducible rfl))); simp only [Act.put, List.setIfInBounds_toArray, List.set_cons_zero, List.set_cons_succ]) | (refine walkR_skip rfl (by decide +kernel) rfl (fun _ _ _ h => h) hE ?_; simp only [Act.put, List.setIfInBounds_toArray, List.set_cons_zero, List.set_cons_succ])))
              (refine walkR_only (fun w' => Ext w1 w') rfl (by decide +kernel) rfl (fun _ h => h) ?_; intro K hK; go_simp; refine (HCW.out _ (HX1.out.trans hE)).mono ?_; rintro e w2 ⟨rfl, hx2⟩; refine hK _ _ (hE.trans hx2) ?_; clear hK K; (try simp only [Act.put, List.setIfInBounds_toArray, List.set_cons_zero, List.set_cons_succ]))
              have hE2 := hE.trans hx2
              clear hx2
              (repeat (first | (refine walkR_still (v := ?_) rfl (by decide +kernel) rfl (fun _ _ _ h => h) hE2 ?_ ?_; rotate_left; (focus (intro w' hw'; skip; go_simp; all_goals (with_reducible rfl))); simp only [Act.put, List.setIfInBounds_toArray, List.set_cons_zero, List.set_cons_succ]) | (refine walkR_skip rfl (by decide +kernel) rfl (fun _ _ _ h => h) hE2 ?_; simp only [Act.put, List.setIfInBounds_toArray, List.set_cons_zero, List.set_cons_succ])))
              (refine walkR_tail (by rfl) (by kernel_rfl) ?_; simp only [List.drop_succ_cons, List.drop_zero])
              go_wp2
              go_ret
              exact ⟨ret_bool HB'.out.symm, (HX.out.trans HX1.out).trans hE2⟩
    · have HB : Hid (envB p d us = true) := by
        show _ = _
        rw [envB_true]
        exact ⟨by have := L.out; omega, fun j hj => HJ.out j (by have := L.out; omega)⟩
      go_wp2
      go_ret
      exact ⟨ret_bool HB.out.symm, HX.out.trans HXr.out⟩
theorem envOk_any (p d : Int) (ta : Option Addr) (tn tc : Nat) (t : List Int) (a : Option Addr) (n c : Nat) (us : List (List Int × Int)) (w : World) (ht : IntsAt w ta tn t) (htc : tn ≤ tc) (htc2 : tc ≤ 1000000000000) (h : TermsAt w a n us) (hn : n ≤ 1000000000000) :
    Calls Tryz.prog 44 #[algV p d ta tn tc, .slice a n c] w fun e w' => e = .returned (.bool (algB p d t && envB p d us)) ∧ Ext w w' := by
  cases hb : algB p d t
  · have hX := Ext.alloc w (.cells #[.int .i64 p, .int .i64 d, .slice ta tn tc] 28)
    have HA := hidP (algebraOk_any p d ta tn tc t _ (ht.below hX) htc htc2)
    have HX := hidP hX
    rw [hb] at HA
    clear ht h hX hb
    go_enter Tryz.func44, Tryz.ntmps44
    go_wp2_with (go_at_call 31; refine HA.out.mono ?_; rintro e w0 ⟨rfl, hx0⟩)
    go_ret
    exact ⟨rfl, HX.out.trans hx0⟩
  · by_cases h3 : n ≤ 300
    · simpa using envOk_good p d ta tn tc t a n c us w ht htc htc2 h h3 hb
    · have hX := Ext.alloc w (.cells #[.int .i64 p, .int .i64 d, .slice ta tn tc] 28)
      have HA := hidP (algebraOk_any p d ta tn tc t _ (ht.below hX) htc htc2)
      have HX := hidP hX
      have HB := hidP (envB_long (p := p) (d := d) (us := us) (by have := h.len; omega))
      rw [hb] at HA
      clear ht h hX hb
      go_enter Tryz.func44, Tryz.ntmps44
      go_wp2_with (go_at_call 31; refine HA.out.mono ?_; rintro e w0 ⟨rfl, hx0⟩)
      go_ret
      exact ⟨ret_bool (by rw [HB.out]; rfl), HX.out.trans hx0⟩
end Go.Proofs.YtcfgcacmmmhjcaaGreatDoor
