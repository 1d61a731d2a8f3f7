/-
  What a valid algebra is, as the program asks it.
-/
import Derived.Test.YtcfgcacmmmhjcaaGreatDoorLie2
namespace Go.Proofs.YtcfgcacmmmhjcaaGreatDoor
open Go.RowKit

def skewB (p : Int) (t : List Int) (d i j : Nat) : Bool := zeroB (addL p (pairL t d i j) 1 (pairL t d j i)) && (decide (i ≠ j) || zeroB (pairL t d i i))
def jacL (p : Int) (t : List Int) (d i j k : Nat) : List Int := addL p (addL p (rightL p t d (pairL t d i j) k) 1 (rightL p t d (pairL t d j k) i)) 1 (rightL p t d (pairL t d k i) j)
def jacB (p : Int) (t : List Int) (d i j k : Nat) : Bool := zeroB (jacL p t d i j k)
/-- the part of validity that is asked ahead of the brackets -/
def headB (p d : Int) (t : List Int) : Bool := primeB p && insB d 0 28 && decide ((t.length : Int) = d * d * d) && resB p t
def AlgP (p d : Int) (t : List Int) : Prop := headB p d t = true ∧ (∀ i, i < d.toNat → ∀ j, j < i + 1 → skewB p t d.toNat i j = true) ∧
  ∀ i, i < d.toNat → ∀ j, j < d.toNat → ∀ k, k < d.toNat → i < j → j < k → jacB p t d.toNat i j k = true
instance (p d : Int) (t : List Int) : Decidable (AlgP p d t) := by unfold AlgP; infer_instance
def algB (p d : Int) (t : List Int) : Bool := decide (AlgP p d t)
theorem algB_true {p d : Int} {t : List Int} : algB p d t = true ↔ AlgP p d t := by simp [algB]
theorem algB_false {p d : Int} {t : List Int} : algB p d t = false ↔ ¬ AlgP p d t := by simp [algB]
theorem headB_true {p d : Int} {t : List Int} (h : headB p d t = true) : primeB p = true ∧ 0 ≤ d ∧ d ≤ 28 ∧ (t.length : Int) = d * d * d ∧ Res p t := by
  simp only [headB, Bool.and_eq_true, decide_eq_true_eq] at h
  obtain ⟨⟨⟨h1, h2⟩, h3⟩, h4⟩ := h
  exact ⟨h1, (insB_true.1 h2).1, (insB_true.1 h2).2, h3, resB_true.1 h4⟩

set_option maxRecDepth 100000 in
set_option maxHeartbeats 4000000 in
theorem algebraOk_good (p : Int) (d : Nat) (a : Option Addr) (N c : Nat) (t : List Int) (w : World) (ht : IntsAt w a N t) (hnc : N ≤ c) (hc2 : c ≤ 1000000000000) (hh : headB p d t = true) :
    Calls Tryz.prog 31 #[algV p d a N c] w fun e w' => e = .returned (.bool (algB p d t)) ∧ Ext w w' := by
  obtain ⟨hp, hd0, hd, hl, hr⟩ := headB_true hh
  obtain ⟨p2, p7⟩ := prime_bounds hp
  have hi : insB d 0 28 = true := insB_true.2 ⟨hd0, hd⟩
  obtain ⟨k1, k2, k3, k4⟩ := cube_le hd0 hd
  have hlN := ht.len
  have hN : N = d * d * d := by
    have : ((t.length : Nat) : Int) = ((d * d * d : Nat) : Int) := by rw [hl]; simp
    omega
  have hNi : ((N : Int) != (d : Int) * d * d) = false := by rw [← hlN, hl]; simp
  have hrb : resB p t = true := resB_true.2 hr
  have HRS := hidP (fun w' (hx : Ext w w') => residues_any a N c t p w' (ht.below hx) (by omega) (by omega) (by omega))
  have HT := hidP ht
  have HR := hidP hr
  have HH := hidP hh
  have HN := hidP hN
  have LT := hidP (hlN.trans hN)
  clear ht hr hh hl hlN hN
  go_enter Tryz.func31, Tryz.ntmps31
  go_wp2_with (first | (go_at_call 67; refine (isPrime_any _ _).mono ?_; rintro e w' ⟨rfl, rfl⟩) | (go_at_call 68; refine (inside_any _ _ _ _).mono ?_; rintro e w' ⟨rfl, rfl⟩) | (go_at_call 69; refine (HRS.out _ (Ext.alloc w _)).mono ?_; rintro e w1 ⟨rfl, hx1⟩; obtain ⟨r0, r1, r2, _, _, _, hs01, hx01⟩ := resAlg hx1) | (go_at_call 70; refine (newLie_any _ _ _ _ _ _).mono ?_; rintro e w2 ⟨rfl, hx2⟩; have g0 := (hx2.cell (p := ⟨w.heap.size, 0, none⟩) hs01).trans r0; have g1 := (hx2.cell (p := ⟨w.heap.size, 1, none⟩) hs01).trans r1; have g2 := (hx2.cell (p := ⟨w.heap.size, 2, none⟩) hs01).trans r2; have hs02 := Nat.lt_of_lt_of_le hs01 hx2.size; clear r0 r1 r2))
  obtain ⟨w3, hw3⟩ : ∃ w3, w3 = w2.alloc (.cells #[.int .i64 p, .int .i64 (d : Int), .slice a N c] 52) := ⟨_, rfl⟩
  rw [← hw3]
  have hx3 : Ext w2 w3 := by rw [hw3]; exact Ext.alloc _ _
  have ha1 := (⟨g0, g1, g2⟩ : AlgAt w2 w.heap.size p d a N c).below hx3
  have ha3 : AlgAt w3 w2.heap.size p d a N c := by rw [hw3]; exact AlgAt.new w2 _ rfl _ _ _ _ _ _
  have HX := hidP ((hx01.trans hx2).trans hx3)
  have HF := hidP (fun w' (hx : Ext w3 w') => (⟨(ha1.below hx).c0, (ha1.below hx).c1, (ha3.below hx).c0, (ha3.below hx).c1, (ha3.below hx).c2⟩ : _ ∧ _ ∧ _ ∧ _ ∧ _))
  clear hw3 hx3 ha1 ha3 g0 g1 g2 hx01 hx2 hx1 hs01 HRS hNi hi hrb hp
  go_loopw [47] (fun v wr => ∃ i : Nat, i ≤ d ∧ Hid (∀ i', i' < i → ∀ j, j < i' + 1 → skewB p t d i' j = true) ∧ Hid (Ext w3 wr) ∧ v = .int .i64 i) (fun v _ => d - (intOf v).toNat)
  case atStart => exact ⟨0, Nat.zero_le _, fun i' h => by omega, Ext.refl _, rfl⟩
  case round =>
    obtain ⟨i, hi', HS, HXr, rfl⟩ := hrel
    by_cases hlt : i < d
    · obtain ⟨b, o, rfl, _⟩ := HT.out.get 0 (by rw [HN.out]; exact Nat.mul_pos (Nat.mul_pos (by omega) (by omega)) (by omega))
      obtain ⟨wo, rfl⟩ : ∃ wo : World, wo = wr := ⟨_, rfl⟩
      go_wp2
      go_loopw [52] (fun v wr => ∃ j : Nat, j ≤ i + 1 ∧ Hid (∀ j', j' < j → skewB p t d i j' = true) ∧ Hid (Ext w3 wr) ∧ v = .int .i64 j) (fun v _ => i + 1 - (intOf v).toNat)
      case atStart => exact ⟨0, Nat.zero_le _, fun i' h => by omega, HXr, rfl⟩
      case round =>
        obtain ⟨j, hj', HJ, HXi, rfl⟩ := hrel
        by_cases hjl : j < i + 1
        · have HPR := hidP (fun i j hi hj w' => pair_any p d i j b o N c w' (by omega) hi hj (by rw [HN.out]; exact Nat.le_refl _) hnc hc2)
          obtain ⟨f0, f1, f2, f3, f4⟩ := HF.out wr HXi.out
          go_wp2_with fail
          refine (HPR.out i j hlt (by omega) _).mono ?_
          rintro e w4 ⟨rfl, hx4⟩
          have HX4 := hidP (HXi.out.trans hx4)
          have HI4 := hidP (((HT.out.below HX.out).below HX4.out).part ((i * d + j) * d) d (by have := HN.out; have := nidx_lt hlt (show j < d by omega); omega))
          clear f0 f1 f2 f3 f4 hx4
          go_wp2_with fail
          refine (clone_any _ _ _ _ _ HI4.out (fun e => by cases e) (by omega)).mono ?_
          rintro e w5 ⟨aS, cS, rfl, ho5, hx5⟩
          have HO5 := hidP ho5
          have HX5 := hidP (HX4.out.trans hx5)
          clear ho5 hx5
          have hE : Ext w5 w5.drew := Ext.drew w5
          have HA := hidP (fun w' (hx' : Ext w5 w') => addTo_any aS (some ⟨b, o + (j * d + i) * d, none⟩) d cS (c - (j * d + i) * d) (pairL t d i j) (pairL t d j i) 1 p w' (HO5.out.below hx').ints
            ((HT.out.below ((HX.out.trans HX5.out).trans hx')).part ((j * d + i) * d) d (by have := HN.out; have := nidx_lt (show j < d by omega) hlt; omega)) (HO5.out.below hx').unfrozen
            (fun b1 o1 b2 o2 e1 e2 => by have := (HO5.out.at_base b1 o1 e1).1; cases e2; have := (HT.out.below (HX.out.trans HX4.out)).block_lt (by rw [HN.out]; exact Nat.mul_pos (Nat.mul_pos (by omega) (by omega)) (by omega)); omega) (by omega)
            ((pairL_res HR.out d i j).bd (pairL_length LT.out hlt (by omega)) p7) ((pairL_res HR.out d j i).bd (pairL_length LT.out (by omega) hlt) p7) (by omega) (by omega) (by omega) (by omega))
          go_wp2
          (refine walkR_start (fun w' => Ext w5 w') 7 (by kernel_rfl) ?_; simp only [numbered, List.take_succ_cons, List.take_zero, Nat.zero_add, Nat.reduceAdd, List.length_cons, List.length_nil])
          repeat (refine walkR_still (v := ?_) rfl (by decide +kernel) rfl (fun _ _ _ h => h) hE ?_ ?_; rotate_left; (focus (intro w' hw'; obtain ⟨f0, f1, f2, f3, f4⟩ := HF.out w' (HX5.out.trans hw'); go_simp; all_goals (with_reducible rfl))); simp only [Act.put, List.setIfInBounds_toArray, List.set_cons_zero, List.set_cons_succ])
          (refine walkR_later ?_; simp only [List.cons_append, List.nil_append])
          repeat (refine walkR_still (v := ?_) rfl (by decide +kernel) rfl (fun _ _ _ h => h) hE ?_ ?_; rotate_left; (focus (intro w' hw'; obtain ⟨f0, f1, f2, f3, f4⟩ := HF.out w' (HX5.out.trans hw'); go_simp; all_goals (with_reducible rfl))); simp only [Act.put, List.setIfInBounds_toArray, List.set_cons_zero, List.set_cons_succ])
          (refine walkR_only (fun w' => Ext w5 w') rfl (by decide +kernel) rfl ?_ ?_)
          · exact fun _ h => h
          intro K hK
          go_simp
          refine (HPR.out j i (by omega) hlt _).mono ?_
          rintro e w6 ⟨rfl, hx6⟩
          have HX6 := hidP ((Ext.drew w5).trans hx6)
          refine hK _ _ HX6.out ?_
          clear hK K hx6
          (try simp only [Act.put, List.setIfInBounds_toArray, List.set_cons_zero, List.set_cons_succ])
          (refine walkR_tail (by rfl) (by kernel_rfl) ?_; simp only [List.drop_succ_cons, List.drop_zero])
          go_wp2_with fail
          refine (HA.out _ HX6.out).mono ?_
          rintro e w7 ⟨rfl, hu7⟩
          have ho7 := hu7.own (HO5.out.below HX6.out)
          have hx7 : Ext w3 w7 := hu7.below (HX5.out.trans HX6.out) (HX5.out.trans HX6.out).size (fun b1 o1 e1 _ => by have := (HO5.out.at_base b1 o1 e1).1; have := HX4.out.size; omega)
          have HX7 := hidP hx7
          have HZ := hidP (fun w' (hx' : Ext w7 w') => isZero_any aS d cS _ w' (ho7.below hx').ints (by omega))
          have HP7 := hidP (fun w' (hx' : Ext w7 w') => ((HT.out.below ((HX.out.trans hx7).trans hx')).part ((i * d + i) * d) d (by have := HN.out; have := nidx_lt hlt hlt; omega)))
          have HSK : Hid (skewB p t d i j = (zeroB (addL p (pairL t d i j) 1 (pairL t d j i)) && (decide (i ≠ j) || zeroB (pairL t d i i)))) := rfl
          obtain ⟨f0, f1, f2, f3, f4⟩ := HF.out w7 hx7
          generalize addL p (pairL t d i j) 1 (pairL t d j i) = S at *
          clear hu7 ho7 hx7
          cases hz : zeroB S
          · have HB : Hid (algB p d t = false) := by
              show _ = _
              rw [algB_false]
              intro h
              have := h.2.1 i (by simpa using hlt) j hjl
              simp only [Int.toNat_natCast] at this
              rw [HSK.out, hz] at this
              cases this
            go_wp2_with fail
            refine (HZ.out _ (Ext.refl _)).mono ?_
            rintro e w8 ⟨rfl, rfl⟩
            go_wp2
            go_ret
            exact ⟨ret_bool HB.out.symm, HX.out.trans HX7.out⟩
          · go_wp2_with fail
            refine (HZ.out _ (Ext.refl _)).mono ?_
            rintro e w8 ⟨rfl, rfl⟩
            by_cases hij : i = j
            · subst hij
              have hd1 : ((i : Int) == i) = true := by simp
              cases hz2 : zeroB (pairL t d i i)
              · have HB : Hid (algB p d t = false) := by
                  show _ = _
                  rw [algB_false]
                  intro h
                  have := h.2.1 i (by simpa using hlt) i hjl
                  simp only [Int.toNat_natCast] at this
                  rw [HSK.out, hz, hz2] at this
                  simp at this
                go_wp2_with fail
                refine (HPR.out i i hlt hlt _).mono ?_
                rintro e w9 ⟨rfl, hx9⟩
                go_wp2_with fail
                refine (isZero_any _ _ _ _ _ (HP7.out _ hx9) (by omega)).mono ?_
                rintro e w10 ⟨rfl, rfl⟩
                have hz3 : zeroB (List.take d (List.drop ((i * d + i) * d) t)) = false := hz2
                have HX9 := hidP (HX7.out.trans hx9)
                clear hx9
                go_wp2
                go_ret
                exact ⟨ret_bool HB.out.symm, HX.out.trans HX9.out⟩
              · have HB : Hid (skewB p t d i i = true) := by
                  show _ = _
                  rw [HSK.out, hz, hz2]
                  simp
                go_wp2_with fail
                refine (HPR.out i i hlt hlt _).mono ?_
                rintro e w9 ⟨rfl, hx9⟩
                go_wp2_with fail
                refine (isZero_any _ _ _ _ _ (HP7.out _ hx9) (by omega)).mono ?_
                rintro e w10 ⟨rfl, rfl⟩
                have hz3 : zeroB (List.take d (List.drop ((i * d + i) * d) t)) = true := hz2
                have HX9 := hidP (HX7.out.trans hx9)
                clear hx9
                go_wp2
                go_roundw
                case rel =>
                  refine ⟨i + 1, by omega, fun j' hj' => ?_, HX9, by go_num⟩
                  rcases Nat.lt_succ_iff_lt_or_eq.1 hj' with h3 | rfl
                  · exact HJ.out j' h3
                  · exact HB.out
                case measure => simp [intOf]
            · have hd1 : ((i : Int) == j) = false := by simp; omega
              have HB : Hid (skewB p t d i j = true) := by
                show _ = _
                rw [HSK.out, hz]
                simp [hij]
              clear hij
              go_wp2
              go_roundw
              case rel =>
                refine ⟨j + 1, by omega, fun j' hj' => ?_, HX7, by go_num⟩
                rcases Nat.lt_succ_iff_lt_or_eq.1 hj' with h3 | rfl
                · exact HJ.out j' h3
                · exact HB.out
              case measure => simp [intOf]; omega
        · have hjl : j = i + 1 := by omega
          subst hjl
          go_wp2
          go_roundw
          case rel =>
            refine ⟨i + 1, by omega, fun i' hi' j hj => ?_, HXi, by go_num⟩
            rcases Nat.lt_succ_iff_lt_or_eq.1 hi' with h3 | rfl
            · exact HS.out i' h3 j hj
            · exact HJ.out j hj
          case measure => simp [intOf]; omega
    · have hid : d = i := by omega
      subst hid
      have H1 := HS
      clear HS
      obtain ⟨f0, f1, f2, f3, f4⟩ := HF.out wr HXr.out
      have HX1 := HXr
      clear HXr hi' hlt
      obtain ⟨wo, rfl⟩ : ∃ wo : World, wo = wr := ⟨_, rfl⟩
      go_wp2
      clear f0 f1 f2 f3 f4
      go_loopw [88] (fun v wr => ∃ i : Nat, i ≤ d ∧ Hid (∀ i', i' < i → ∀ j, j < d → ∀ k, k < d → i' < j → j < k → jacB p t d i' j k = true) ∧ Hid (Ext w3 wr) ∧ v = .int .i64 i) (fun v _ => d - (intOf v).toNat)
      case atStart => exact ⟨0, Nat.zero_le _, fun i' h => by omega, HX1, rfl⟩
      case round =>
        obtain ⟨i, hi', HI, HXr, rfl⟩ := hrel
        by_cases hlt : i < d
        · obtain ⟨wo', rfl⟩ : ∃ wo' : World, wo' = wr := ⟨_, rfl⟩
          go_wp2
          go_loopw [8] (fun v wr => ∃ j : Nat, j ≤ d ∧ i < j ∧ Hid (∀ j', j' < j → ∀ k, k < d → i < j' → j' < k → jacB p t d i j' k = true) ∧ Hid (Ext w3 wr) ∧ v = .int .i64 j) (fun v _ => d - (intOf v).toNat)
          case atStart => exact ⟨i + 1, by omega, by omega, fun j' h k hk h1 h2 => by omega, HXr, by go_num⟩
          case round =>
            obtain ⟨j, hj', hij, HJ, HXi, rfl⟩ := hrel
            obtain ⟨f0, f1, f2, f3, f4⟩ := HF.out wr HXi.out
            by_cases hjl : j < d
            · obtain ⟨wo', rfl⟩ : ∃ wo' : World, wo' = wr := ⟨_, rfl⟩
              go_wp2
              clear f0 f1 f2 f3 f4
              go_loopw [9] (fun v wr => ∃ k : Nat, k ≤ d ∧ j < k ∧ Hid (∀ k', k' < k → j < k' → jacB p t d i j k' = true) ∧ Hid (Ext w3 wr) ∧ v = .int .i64 k) (fun v _ => d - (intOf v).toNat)
              case atStart => exact ⟨j + 1, by omega, by omega, fun j' h h1 => by omega, HXi, by go_num⟩
              case round =>
                obtain ⟨k, hk', hjk, HK, HXk, rfl⟩ := hrel
                obtain ⟨f0, f1, f2, f3, f4⟩ := HF.out wr HXk.out
                by_cases hkl : k < d
                · obtain ⟨b, o, rfl, _⟩ := HT.out.get 0 (by rw [HN.out]; exact Nat.mul_pos (Nat.mul_pos (by omega) (by omega)) (by omega))
                  have HPR := hidP (fun i j hi hj w' => pair_any p d i j b o N c w' (by omega) hi hj (by rw [HN.out]; exact Nat.le_refl _) hnc hc2)
                  have HRI := hidP (fun (i j k : Nat) (hi : i < d) (hj : j < d) (hk : k < d) w' (hx : Ext w3 w') => right_any p d k b o N c t (some ⟨b, o + (i * d + j) * d, none⟩) (c - (i * d + j) * d) (pairL t d i j) w' (by omega) hk HN.out hnc hc2 (HT.out.below (HX.out.trans hx))
                    ((HT.out.below (HX.out.trans hx)).part ((i * d + j) * d) d (by have := HN.out; have := nidx_lt hi hj; omega)) (by omega) p7 HR.out (pairL_res HR.out d i j))
                  have hE : Ext wr wr.drew := Ext.drew wr
                  go_wp2
                  clear f0 f1 f2 f3 f4
                  (refine walkR_start (fun w' => Ext wr w') 6 (by kernel_rfl) ?_; simp only [numbered, List.take_succ_cons, List.take_zero, Nat.zero_add, Nat.reduceAdd, List.length_cons, List.length_nil])
                  repeat (refine walkR_still (v := ?_) rfl (by decide +kernel) rfl (fun _ _ _ h => h) hE ?_ ?_; rotate_left; (focus (intro w' hw'; obtain ⟨f0, f1, f2, f3, f4⟩ := HF.out w' (HXk.out.trans hw'); go_simp; all_goals (with_reducible rfl))); simp only [Act.put, List.setIfInBounds_toArray, List.set_cons_zero, List.set_cons_succ])
                  (refine walkR_later ?_; simp only [List.cons_append, List.nil_append])
                  repeat (refine walkR_still (v := ?_) rfl (by decide +kernel) rfl (fun _ _ _ h => h) hE ?_ ?_; rotate_left; (focus (intro w' hw'; obtain ⟨f0, f1, f2, f3, f4⟩ := HF.out w' (HXk.out.trans hw'); go_simp; all_goals (with_reducible rfl))); simp only [Act.put, List.setIfInBounds_toArray, List.set_cons_zero, List.set_cons_succ])
                  (refine walkR_only (fun w' => Ext wr w') rfl (by decide +kernel) rfl ?_ ?_)
                  · exact fun _ h => h
                  intro K hK
                  go_simp
                  refine (HPR.out i j hlt hjl _).mono ?_
                  rintro e w4 ⟨rfl, hx4⟩
                  have HX4 := hidP (HXk.out.trans ((Ext.drew wr).trans hx4))
                  refine hK _ _ ((Ext.drew wr).trans hx4) ?_
                  clear hK K hx4
                  (try simp only [Act.put, List.setIfInBounds_toArray, List.set_cons_zero, List.set_cons_succ])
                  (refine walkR_tail (by rfl) (by kernel_rfl) ?_; simp only [List.drop_succ_cons, List.drop_zero])
                  go_wp2_with (go_at_call 74; refine (HRI.out i j k hlt hjl hkl _ HX4.out).mono ?_; rintro e w5 ⟨aS, rfl, ho5, hx5⟩; have HO5 := hidP ho5; have HX5 := hidP (HX4.out.trans hx5); have HBS := hidP (fun b1 o1 e1 => Nat.le_trans HX4.out.size (ho5.at_base b1 o1 e1).1); clear ho5 hx5 hE)
                  have hE : Ext w5 w5.drew := Ext.drew w5
                  go_wp2
                  (refine walkR_start (fun w' => Ext w5 w') 10 (by kernel_rfl) ?_; simp only [numbered, List.take_succ_cons, List.take_zero, Nat.zero_add, Nat.reduceAdd, List.length_cons, List.length_nil])
                  repeat (refine walkR_still (v := ?_) rfl (by decide +kernel) rfl (fun _ _ _ h => h) hE ?_ ?_; rotate_left; (focus (intro w' hw'; obtain ⟨f0, f1, f2, f3, f4⟩ := HF.out w' (HX5.out.trans hw'); go_simp; all_goals (with_reducible rfl))); simp only [Act.put, List.setIfInBounds_toArray, List.set_cons_zero, List.set_cons_succ])
                  (refine walkR_later ?_; simp only [List.cons_append, List.nil_append])
                  repeat (refine walkR_still (v := ?_) rfl (by decide +kernel) rfl (fun _ _ _ h => h) hE ?_ ?_; rotate_left; (focus (intro w' hw'; obtain ⟨f0, f1, f2, f3, f4⟩ := HF.out w' (HX5.out.trans hw'); go_simp; all_goals (with_reducible rfl))); simp only [Act.put, List.setIfInBounds_toArray, List.set_cons_zero, List.set_cons_succ])
                  (refine walkR_later ?_; simp only [List.cons_append, List.nil_append])
                  repeat (refine walkR_still (v := ?_) rfl (by decide +kernel) rfl (fun _ _ _ h => h) hE ?_ ?_; rotate_left; (focus (intro w' hw'; obtain ⟨f0, f1, f2, f3, f4⟩ := HF.out w' (HX5.out.trans hw'); go_simp; all_goals (with_reducible rfl))); simp only [Act.put, List.setIfInBounds_toArray, List.set_cons_zero, List.set_cons_succ])
                  (refine walkR_only (fun w' => Ext w5 w') rfl (by decide +kernel) rfl ?_ ?_)
                  · exact fun _ h => h
                  intro K hK
                  go_simp
                  refine (HPR.out j k (by omega) (by omega) _).mono ?_
                  rintro e wa6 ⟨rfl, hxa6⟩
                  have HXA6 := hidP ((Ext.drew w5).trans hxa6)
                  refine hK _ _ HXA6.out ?_
                  clear hK K hxa6
                  (try simp only [Act.put, List.setIfInBounds_toArray, List.set_cons_zero, List.set_cons_succ])
                  (refine walkR_only (fun w' => Ext w5 w') rfl (by decide +kernel) rfl ?_ ?_)
                  · exact fun _ h => h
                  intro K hK
                  go_simp
                  refine (HRI.out j k i (by omega) (by omega) (by omega) _ (HX5.out.trans HXA6.out)).mono ?_
                  rintro e wb6 ⟨aR6, rfl, hor6, hxb6⟩
                  have HXB6 := hidP (HXA6.out.trans hxb6)
                  refine hK _ _ HXB6.out ?_
                  clear hK K
                  have HO6 := hidP (HO5.out.below HXB6.out)
                  have HA := hidP (addTo_any aS aR6 d d d (rightL p t d (pairL t d i j) k) (rightL p t d (pairL t d j k) i) 1 p wb6 HO6.out.ints hor6.ints HO6.out.unfrozen
                    (fun b1 o1 b2 o2 e1 e2 => by have h1 := (HO5.out.at_base b1 o1 e1).2; have h2 := (hor6.at_base b2 o2 e2).1; have := HXA6.out.size; omega) (by omega)
                    ((rightL_res (by omega) t d (pairL t d i j) k).bd (by first | exact rightL_length _ _ _ _ _ | (rw [addL_length]; exact rightL_length _ _ _ _ _)) p7) ((rightL_res (by omega) t d (pairL t d j k) i).bd (rightL_length _ _ _ _ _) p7) (by omega) (by omega) (by omega) (by omega))
                  clear hor6 hxb6
                  (try simp only [Act.put, List.setIfInBounds_toArray, List.set_cons_zero, List.set_cons_succ])
                  (refine walkR_tail (by rfl) (by kernel_rfl) ?_; simp only [List.drop_succ_cons, List.drop_zero])
                  go_wp2_with fail
                  refine HA.out.mono ?_
                  rintro e wc6 ⟨rfl, hu6⟩
                  have HP6 := hidP (hu6.own HO6.out)
                  have HX6 : Hid (Ext w3 wc6) := hu6.below (HX5.out.trans HXB6.out) (HX5.out.trans HXB6.out).size (fun b1 o1 e1 _ => (HBS.out b1 o1 e1))
                  clear hu6 hE HA
                  have hE : Ext wc6 wc6.drew := Ext.drew wc6
                  go_wp2
                  (refine walkR_start (fun w' => Ext wc6 w') 10 (by kernel_rfl) ?_; simp only [numbered, List.take_succ_cons, List.take_zero, Nat.zero_add, Nat.reduceAdd, List.length_cons, List.length_nil])
                  repeat (refine walkR_still (v := ?_) rfl (by decide +kernel) rfl (fun _ _ _ h => h) hE ?_ ?_; rotate_left; (focus (intro w' hw'; obtain ⟨f0, f1, f2, f3, f4⟩ := HF.out w' (HX6.out.trans hw'); go_simp; all_goals (with_reducible rfl))); simp only [Act.put, List.setIfInBounds_toArray, List.set_cons_zero, List.set_cons_succ])
                  (refine walkR_later ?_; simp only [List.cons_append, List.nil_append])
                  repeat (refine walkR_still (v := ?_) rfl (by decide +kernel) rfl (fun _ _ _ h => h) hE ?_ ?_; rotate_left; (focus (intro w' hw'; obtain ⟨f0, f1, f2, f3, f4⟩ := HF.out w' (HX6.out.trans hw'); go_simp; all_goals (with_reducible rfl))); simp only [Act.put, List.setIfInBounds_toArray, List.set_cons_zero, List.set_cons_succ])
                  (refine walkR_later ?_; simp only [List.cons_append, List.nil_append])
                  repeat (refine walkR_still (v := ?_) rfl (by decide +kernel) rfl (fun _ _ _ h => h) hE ?_ ?_; rotate_left; (focus (intro w' hw'; obtain ⟨f0, f1, f2, f3, f4⟩ := HF.out w' (HX6.out.trans hw'); go_simp; all_goals (with_reducible rfl))); simp only [Act.put, List.setIfInBounds_toArray, List.set_cons_zero, List.set_cons_succ])
                  (refine walkR_only (fun w' => Ext wc6 w') rfl (by decide +kernel) rfl ?_ ?_)
                  · exact fun _ h => h
                  intro K hK
                  go_simp
                  refine (HPR.out k i (by omega) (by omega) _).mono ?_
                  rintro e wa7 ⟨rfl, hxa7⟩
                  have HXA7 := hidP ((Ext.drew wc6).trans hxa7)
                  refine hK _ _ HXA7.out ?_
                  clear hK K hxa7
                  (try simp only [Act.put, List.setIfInBounds_toArray, List.set_cons_zero, List.set_cons_succ])
                  (refine walkR_only (fun w' => Ext wc6 w') rfl (by decide +kernel) rfl ?_ ?_)
                  · exact fun _ h => h
                  intro K hK
                  go_simp
                  refine (HRI.out k i j (by omega) (by omega) (by omega) _ (HX6.out.trans HXA7.out)).mono ?_
                  rintro e wb7 ⟨aR7, rfl, hor7, hxb7⟩
                  have HXB7 := hidP (HXA7.out.trans hxb7)
                  refine hK _ _ HXB7.out ?_
                  clear hK K
                  have HO7 := hidP (HP6.out.below HXB7.out)
                  have HA := hidP (addTo_any aS aR7 d d d (addL p (rightL p t d (pairL t d i j) k) 1 (rightL p t d (pairL t d j k) i)) (rightL p t d (pairL t d k i) j) 1 p wb7 HO7.out.ints hor7.ints HO7.out.unfrozen
                    (fun b1 o1 b2 o2 e1 e2 => by have h1 := (HP6.out.at_base b1 o1 e1).2; have h2 := (hor7.at_base b2 o2 e2).1; have := HXA7.out.size; omega) (by omega)
                    ((addL_res (by omega) _ _ _).bd (by first | exact rightL_length _ _ _ _ _ | (rw [addL_length]; exact rightL_length _ _ _ _ _)) p7) ((rightL_res (by omega) t d (pairL t d k i) j).bd (rightL_length _ _ _ _ _) p7) (by omega) (by omega) (by omega) (by omega))
                  clear hor7 hxb7
                  (try simp only [Act.put, List.setIfInBounds_toArray, List.set_cons_zero, List.set_cons_succ])
                  (refine walkR_tail (by rfl) (by kernel_rfl) ?_; simp only [List.drop_succ_cons, List.drop_zero])
                  go_wp2_with fail
                  refine HA.out.mono ?_
                  rintro e wc7 ⟨rfl, hu7⟩
                  have HP7 := hidP (hu7.own HO7.out)
                  have HX7 : Hid (Ext w3 wc7) := hu7.below (HX6.out.trans HXB7.out) (HX6.out.trans HXB7.out).size (fun b1 o1 e1 _ => (HBS.out b1 o1 e1))
                  clear hu7 hE HA
                  have HZ := hidP (isZero_any aS d d _ wc7 HP7.out.ints (by omega))
                  have HJB : Hid (jacB p t d i j k = zeroB (addL p (addL p (rightL p t d (pairL t d i j) k) 1 (rightL p t d (pairL t d j k) i)) 1 (rightL p t d (pairL t d k i) j))) := rfl
                  generalize addL p (addL p (rightL p t d (pairL t d i j) k) 1 (rightL p t d (pairL t d j k) i)) 1 (rightL p t d (pairL t d k i) j) = S at *
                  cases hz : zeroB S
                  · have HB : Hid (algB p d t = false) := by
                      show _ = _
                      rw [algB_false]
                      intro h
                      have := h.2.2 i (by simpa using hlt) j (by simpa using hjl) k (by simpa using hkl) hij hjk
                      simp only [Int.toNat_natCast] at this
                      rw [HJB.out, hz] at this
                      cases this
                    go_wp2_with fail
                    refine HZ.out.mono ?_
                    rintro e w8 ⟨rfl, rfl⟩
                    go_wp2
                    go_ret
                    exact ⟨ret_bool HB.out.symm, HX.out.trans HX7.out⟩
                  · go_wp2_with fail
                    refine HZ.out.mono ?_
                    rintro e w8 ⟨rfl, rfl⟩
                    have HB := hidP (HJB.out.trans hz)
                    go_wp2
                    go_roundw
                    case rel =>
                      refine ⟨k + 1, by omega, by omega, fun k' hk' h1 => ?_, HX7, by go_num⟩
                      rcases Nat.lt_succ_iff_lt_or_eq.1 hk' with h3 | rfl
                      · exact HK.out k' h3 h1
                      · exact HB.out
                    case measure => simp [intOf]; omega
                · obtain rfl : k = d := by omega
                  go_wp2
                  go_roundw
                  case rel =>
                    refine ⟨j + 1, by omega, by omega, fun j' hj' k' hk1 h1 h2 => ?_, HXk, by go_num⟩
                    rcases Nat.lt_succ_iff_lt_or_eq.1 hj' with h3 | rfl
                    · exact HJ.out j' h3 k' hk1 h1 h2
                    · exact HK.out k' hk1 h2
                  case measure => simp [intOf]; omega
            · obtain rfl : j = d := by omega
              go_wp2
              go_roundw
              case rel =>
                refine ⟨i + 1, by omega, fun i' hi1 j' hj1 k' hk1 h1 h2 => ?_, HXi, by go_num⟩
                rcases Nat.lt_succ_iff_lt_or_eq.1 hi1 with h3 | rfl
                · exact HI.out i' h3 j' hj1 k' hk1 h1 h2
                · exact HJ.out j' hj1 k' hk1 h1 h2
              case measure => simp [intOf]; omega
        · obtain rfl : i = d := by omega
          have HB : Hid (algB p i t = true) := by
            show _ = _
            rw [algB_true]
            refine ⟨HH.out, fun i' hi1 j hj => ?_, fun i' hi1 j hj k hk h1 h2 => ?_⟩
            · simp only [Int.toNat_natCast] at hi1 ⊢
              exact H1.out i' hi1 j hj
            · simp only [Int.toNat_natCast] at hi1 hj hk ⊢
              exact HI.out i' hi1 j hj k hk h1 h2
          go_wp2
          go_ret
          exact ⟨ret_bool HB.out.symm, HX.out.trans HXr.out⟩

set_option maxHeartbeats 2000000 in
theorem algebraOk_any (p d : Int) (a : Option Addr) (N c : Nat) (t : List Int) (w : World) (ht : IntsAt w a N t) (hnc : N ≤ c) (hc2 : c ≤ 1000000000000) :
    Calls Tryz.prog 31 #[algV p d a N c] w fun e w' => e = .returned (.bool (algB p d t)) ∧ Ext w w' := by
  cases hh : headB p d t
  · have HB : Hid (algB p d t = false) := by
      show _ = _
      rw [algB_false]
      intro h
      rw [h.1] at hh
      cases hh
    have hl := ht.len
    simp only [headB, Bool.and_eq_false_iff, decide_eq_false_iff_not] at hh
    cases hp : primeB p
    · clear hh ht hl
      go_enter Tryz.func31, Tryz.ntmps31
      go_wp2_with (first | (go_at_call 67; refine (isPrime_any _ _).mono ?_; rintro e w' ⟨rfl, rfl⟩))
      go_ret
      exact ⟨ret_bool HB.out.symm, Ext.alloc _ _⟩
    · cases hi : insB d 0 28
      · clear hh ht hl
        go_enter Tryz.func31, Tryz.ntmps31
        go_wp2_with (first | (go_at_call 67; refine (isPrime_any _ _).mono ?_; rintro e w' ⟨rfl, rfl⟩) | (go_at_call 68; refine (inside_any _ _ _ _).mono ?_; rintro e w' ⟨rfl, rfl⟩))
        go_ret
        exact ⟨ret_bool HB.out.symm, Ext.alloc _ _⟩
      · obtain ⟨h0, h28⟩ := insB_true.1 hi
        obtain ⟨k1, k2, k3, k4⟩ := cube_le h0 h28
        obtain ⟨p2, p7⟩ := prime_bounds hp
        by_cases hn : (N : Int) = d * d * d
        · have hr : resB p t = false := by
            rcases hh with ((h | h) | h) | h
            · rw [hp] at h; cases h
            · rw [hi] at h; cases h
            · exact absurd (by rw [hl]; exact hn) h
            · exact h
          have hNi : ((N : Int) != d * d * d) = false := by rw [hn]; simp
          have HRS := hidP (fun w' (hx : Ext w w') => residues_any a N c t p w' (ht.below hx) (by omega) (by omega) (by omega))
          clear hh ht hl hn
          go_enter Tryz.func31, Tryz.ntmps31
          go_wp2_with (first | (go_at_call 67; refine (isPrime_any _ _).mono ?_; rintro e w' ⟨rfl, rfl⟩) | (go_at_call 68; refine (inside_any _ _ _ _).mono ?_; rintro e w' ⟨rfl, rfl⟩) | (go_at_call 69; refine (HRS.out _ (Ext.alloc w _)).mono ?_; rintro e w1 ⟨rfl, hx1⟩))
          go_ret
          exact ⟨ret_bool HB.out.symm, (Ext.alloc w _).trans hx1⟩
        · have hNi : ((N : Int) != d * d * d) = true := bne_iff_ne.2 hn
          clear hh ht hl hn
          go_enter Tryz.func31, Tryz.ntmps31
          go_wp2_with (first | (go_at_call 67; refine (isPrime_any _ _).mono ?_; rintro e w' ⟨rfl, rfl⟩) | (go_at_call 68; refine (inside_any _ _ _ _).mono ?_; rintro e w' ⟨rfl, rfl⟩))
          go_ret
          exact ⟨ret_bool HB.out.symm, Ext.alloc _ _⟩
  · obtain ⟨hp, hd0, hd, hl, hr⟩ := headB_true hh
    obtain ⟨dn, rfl⟩ := Int.eq_ofNat_of_zero_le hd0
    exact algebraOk_good p dn a N c t w ht hnc hc2 hh
end Go.Proofs.YtcfgcacmmmhjcaaGreatDoor
