/-
  The reference's bracket of two elements: l2Bracket.
-/
import Derived.Test.YtcfgcacmmmhjcaaGreatDoorSp2
namespace Go.Proofs.YtcfgcacmmmhjcaaGreatDoor
open Go.RowKit

/-- the bracket, up to the first i rows and j places of the next one -/
def brTo (p : Int) (t : List Int) (d : Nat) (x y : List Int) (i j : Nat) : List Int :=
  modL p d fun k => sumTo i (fun i' => sumTo d fun j' => x.getD i' 0 * y.getD j' 0 * tab t d i' j' k) + sumTo j fun j' => x.getD i 0 * y.getD j' 0 * tab t d i j' k
/-- the bracket of two elements -/
def brL (p : Int) (t : List Int) (d : Nat) (x y : List Int) : List Int :=
  modL p d fun k => sumTo d fun i' => sumTo d fun j' => x.getD i' 0 * y.getD j' 0 * tab t d i' j' k
theorem sumTo_zero_of {n : Nat} {f : Nat → Int} (h : ∀ i, i < n → f i = 0) : sumTo n f = 0 := by
  induction n with
  | zero => rfl
  | succ n ih => rw [sumTo, ih (fun i hi => h i (by omega)), h n (by omega)]; rfl
theorem brTo_zero (p : Int) (t : List Int) (d : Nat) (x y : List Int) : brTo p t d x y 0 0 = List.replicate d 0 := by
  rw [← modL_zero p]
  rfl
theorem brTo_all (p : Int) (t : List Int) (d : Nat) (x y : List Int) : brTo p t d x y d 0 = brL p t d x y := by
  unfold brTo brL
  apply modL_congr
  intro m _
  simp [sumTo]
theorem brTo_row (p : Int) (t : List Int) (d : Nat) (x y : List Int) (i : Nat) : brTo p t d x y i d = brTo p t d x y (i + 1) 0 := by
  unfold brTo
  apply modL_congr
  intro m _
  simp only [sumTo, Int.add_zero]
theorem brTo_skip (p : Int) (t : List Int) (d : Nat) (x y : List Int) (i : Nat) (h : x.getD i 0 = 0) : brTo p t d x y (i + 1) 0 = brTo p t d x y i 0 := by
  unfold brTo
  apply modL_congr
  intro m _
  simp only [sumTo, Int.add_zero]
  rw [sumTo_zero_of (n := d) (fun j _ => by rw [h]; simp), Int.add_zero]
theorem brTo_succ (p : Int) (t : List Int) (d : Nat) (x y : List Int) (i j : Nat) : brTo p t d x y i (j + 1) = addL p (brTo p t d x y i j) ((x.getD i 0 * y.getD j 0) % p) (pairL t d i j) := by
  unfold brTo
  rw [addL_modL]
  apply modL_congr
  intro m hm
  rw [pairL_get i j m hm]
  simp only [sumTo]
  rw [← Int.add_assoc, Int.add_emod, Int.mul_emod _ (tab t d i j m), ← Int.add_emod]
  conv => rhs; rw [Int.add_emod, Int.mul_emod _ (tab t d i j m), Int.emod_emod, ← Int.add_emod]
theorem brTo_same (p : Int) (t : List Int) (d : Nat) (x y : List Int) (i j : Nat) (h : (x.getD i 0 * y.getD j 0) % p = 0) : brTo p t d x y i (j + 1) = brTo p t d x y i j := by
  rw [brTo_succ, h]
  unfold brTo
  rw [addL_modL]
  apply modL_congr
  intro m _
  rw [Int.zero_mul, Int.add_zero]
theorem brTo_length (p : Int) (t : List Int) (d : Nat) (x y : List Int) (i j : Nat) : (brTo p t d x y i j).length = d := modL_length _ _ _
theorem brTo_res {p : Int} (hp : 0 < p) (t : List Int) (d : Nat) (x y : List Int) (i j : Nat) : Res p (brTo p t d x y i j) := Res.modL hp _ _
theorem brL_length (p : Int) (t : List Int) (d : Nat) (x y : List Int) : (brL p t d x y).length = d := modL_length _ _ _
theorem brL_res {p : Int} (hp : 0 < p) (t : List Int) (d : Nat) (x y : List Int) : Res p (brL p t d x y) := Res.modL hp _ _
theorem partly_same (xs : List Int) (j : Nat) : partly xs xs j = xs := by simp [partly]

set_option maxRecDepth 100000 in
set_option maxHeartbeats 4000000 in
theorem l2Bracket_any (p : Int) (d N c cu cv : Nat) (at' au av : Option Addr) (t u v : List Int) (w : World) (hd : d ≤ 28) (hN : N = d * d * d)
    (ht : IntsAt w at' N t) (hu : IntsAt w au d u) (hv : IntsAt w av d v) (hp : 1 ≤ p) (hp2 : p ≤ 10007) (hrt : Res p t) (hru : Res p u) (hrv : Res p v) :
    Calls Tryz.prog 82 #[algV p d at' N c, .slice au d cu, .slice av d cv] w fun e w' => ∃ a, e = .returned (.slice a d d) ∧ OwnI w' w.heap.size a d d (brL p t d u v) ∧ Ext w w' := by
  have HM := hidP (OwnI.made (w.alloc (.cells #[.int .i64 p, .int .i64 (d : Int), .slice at' N c] 28)) (w.heap.size + 1) d (by simp) (by unfold maxLen; omega))
  have hmk := make_ints (d : Int) (by omega) (by omega)
  simp only [Int.toNat_natCast] at hmk
  have HT := hidP ht
  have HU := hidP hu
  have HV := hidP hv
  have HRT := hidP hrt
  have HRU := hidP hru
  have HRV := hidP hrv
  have LU := hidP hu.len
  have LV := hidP hv.len
  have HAL := hidP (AlgAt.new w _ rfl p d at' N c 28)
  have HX1 := hidP (Ext.alloc w (.cells #[.int .i64 p, .int .i64 (d : Int), .slice at' N c] 28))
  have LT := hidP (ht.len.trans hN)
  have HN := hidP hN
  have hpz : ¬ p = 0 := by omega
  clear ht hu hv hrt hru hrv hN
  go_enter Tryz.func82, Tryz.ntmps82
  go_wp2
  obtain ⟨w0, hw0⟩ : ∃ w0, w0 = w.alloc (.cells #[.int .i64 p, .int .i64 (d : Int), .slice at' N c] 28) := ⟨_, rfl⟩
  rw [← hw0] at HM HAL HX1 ⊢
  have hsz : w0.heap.size = w.heap.size + 1 := by rw [hw0]; simp
  obtain ⟨w1, hw1⟩ : ∃ w1, w1 = w0.alloc (.cells (Array.replicate d (.int .i64 0)) 3) := ⟨_, rfl⟩
  rw [← hw1] at HM ⊢
  rw [hsz] at HM
  have hx01 : Ext w0 w1 := by rw [hw1]; exact Ext.alloc _ _
  have HX01 := hidP hx01
  have HAL1 := hidP (HAL.out.below hx01)
  have hst := UpdI.start HM.out.ints
  rw [← brTo_zero p t d u v] at hst
  have HST := hidP hst
  have hsz1 : w.heap.size + 1 < w1.heap.size := by rw [hw1]; simp; omega
  have HAR := hidP (fun wr ys (h : UpdI w1 wr (some ⟨w.heap.size + 1, 0, none⟩) d ys) => (⟨h.own HM.out, HAL1.out.upd h (fun b' o' e => by cases e; omega),
    Below.trans (HX1.out.trans HX01.out) ((h.below (Below.refl _ _) (by omega) (fun b' o' e _ => by cases e; omega) : Below (w.heap.size + 1) w1 wr).mono (by omega))⟩ :
      OwnI wr (w.heap.size + 1) (some ⟨w.heap.size + 1, 0, none⟩) d d ys ∧ AlgAt wr w.heap.size p d at' N c ∧ Ext w wr))
  clear hw0 hw1 hx01 hst hmk hsz
  go_loopw [9] (fun i wr => ∃ k : Nat, k ≤ d ∧ Hid (UpdI w1 wr (some ⟨w.heap.size + 1, 0, none⟩) d (brTo p t d u v k 0)) ∧ i = .int .i64 k) (fun i _ => d - (intOf i).toNat)
  case atStart => exact ⟨0, Nat.zero_le _, HST, rfl⟩
  case round =>
    obtain ⟨i, hi, HUP, rfl⟩ := hrel
    by_cases hlt : i < d
    · obtain ⟨hO, hA, hx⟩ := HAR.out _ _ HUP.out
      obtain ⟨bu, ou, rfl, q⟩ := (HU.out.below hx).get i hlt
      by_cases hz : u.getD i 0 = 0
      · have hb : (u[i]?.getD 0 == 0) = true := by simpa [List.getD_eq_getElem?_getD] using hz
        have HS := hidP (brTo_skip p t d u v i hz)
        clear hz hO hA hx
        go_wp2
        go_roundw
        case rel => exact ⟨i + 1, by omega, (by rw [HS.out]; exact HUP.out), by go_num⟩
        case measure => simp [intOf]; omega
      · have hb : (u[i]?.getD 0 == 0) = false := by simpa [List.getD_eq_getElem?_getD] using hz
        clear hz hO hA hx
        obtain ⟨wo, rfl⟩ : ∃ wo : World, wo = wr := ⟨_, rfl⟩
        go_wp2
        clear q
        go_loopw [10] (fun v' wr => ∃ j : Nat, j ≤ d ∧ Hid (UpdI w1 wr (some ⟨w.heap.size + 1, 0, none⟩) d (brTo p t d u v i j)) ∧ v' = .int .i64 j) (fun i _ => d - (intOf i).toNat)
        case atStart => exact ⟨0, Nat.zero_le _, HUP, rfl⟩
        case round =>
          obtain ⟨j, hj, HUP2, rfl⟩ := hrel
          by_cases hjl : j < d
          · obtain ⟨hO, hA, hx⟩ := HAR.out _ _ HUP2.out
            have qi := ((HU.out.below hx)).atc i hlt
            obtain ⟨bv, ov, rfl, qv⟩ := (HV.out.below hx).get j hjl
            have f0 := hA.c0
            have ru := HRU.out i (by have := LU.out; omega)
            have rv := HRV.out j (by have := LV.out; omega)
            have HS := hidP (brTo_succ p t d u v i j)
            have HZ := hidP (brTo_same p t d u v i j)
            have hxy0 : 0 ≤ u.getD i 0 * v.getD j 0 := Int.mul_nonneg ru.1 rv.1
            have hxy1 : u.getD i 0 * v.getD j 0 ≤ 10007 * 10007 := Int.mul_le_mul (by omega) (by omega) rv.1 (by omega)
            have ef0 : 0 ≤ (u.getD i 0 * v.getD j 0) % p := Int.emod_nonneg _ hpz
            have ef1 : (u.getD i 0 * v.getD j 0) % p < p := Int.emod_lt_of_pos _ (by omega)
            clear ru rv
            generalize u.getD i 0 = x at *
            generalize v.getD j 0 = y at *
            have e1 : IntKind.i64.wrap (x * y) = x * y := wrap_in (by omega) (by omega)
            have e2 : Int.tmod (x * y) p = (x * y) % p := Int.tmod_eq_emod_of_nonneg (by omega)
            generalize hf : (x * y) % p = f at *
            clear hb hO hA hx hxy0 hxy1 hf
            go_wp2
            go_quiet (fail)
            clear qi qv e1 e2 f0
            have LB := hidP (brTo_length p t d u v i j)
            have LB2 := hidP (brTo_length p t d u v i (j + 1))
            have HUP3 := hidP (HUP2.out.drewN nq)
            obtain ⟨wo2, hwo2⟩ : ∃ wo2 : World, wo2 = wr.drewN nq := ⟨_, rfl⟩
            rw [← hwo2] at HUP3 ⊢
            clear hwo2 HUP2
            go_wp2
            go_loopw [12] (fun v' wr => ∃ k : Nat, k ≤ d ∧ Hid (UpdI w1 wr (some ⟨w.heap.size + 1, 0, none⟩) d (partly (brTo p t d u v i j) (brTo p t d u v i (j + 1)) k)) ∧ v' = .int .i64 k) (fun i _ => d - (intOf i).toNat)
            case atStart => exact ⟨0, Nat.zero_le _, by rw [partly_zero]; exact HUP3, rfl⟩
            case round =>
              obtain ⟨k, hk, HUP4, rfl⟩ := hrel
              by_cases hkl : k < d
              · by_cases hfz : f = 0
                · have hu := HUP4.out
                  rw [HZ.out hfz, partly_same, ← HZ.out hfz] at hu
                  have HU5 := hidP hu
                  have hb2 : (f != 0) = false := by simpa using hfz
                  clear hu hfz
                  go_wp2
                  go_roundw
                  case rel => exact ⟨j + 1, by omega, HU5.out, by go_num⟩
                  case measure => simp [intOf]; omega
                · have hb2 : (f != 0) = true := by simpa using hfz
                  have hdN : 0 < N := by rw [HN.out]; exact Nat.mul_pos (Nat.mul_pos (by omega) (by omega)) (by omega)
                  obtain ⟨bt, ot, rfl, _⟩ := HT.out.get 0 hdN
                  obtain ⟨hO, hA, hx⟩ := HAR.out _ _ HUP4.out
                  obtain ⟨q, hfr⟩ := HUP4.out.cellInt k hkl
                  rw [partly_get _ _ k d hkl LB.out LB2.out, Nat.zero_add] at q
                  have ra := brTo_res (by omega : 0 < p) t d u v i j k (by have := LB.out; omega)
                  have rt : 0 ≤ tab t d i j k ∧ tab t d i j k < p := HRT.out _ (by have := LT.out; have := nidx_lt hlt hjl; omega)
                  have hval : (brTo p t d u v i (j + 1)).getD k 0 = ((brTo p t d u v i j).getD k 0 + f * tab t d i j k) % p := by
                    rw [HS.out, addL_get _ _ _ _ _ (by have := LB.out; omega), pairL_get i j k hkl]
                  have HG := hidP (fun w' (hx' : Ext wr w') => l2Get_any p d i j k bt ot N c t w' (HT.out.below (hx.trans hx')) hd hlt hjl hkl HN.out)
                  have HF := hidP (fun w' (hx' : Ext wr w') => (⟨(hA.below hx').c0, (hA.below hx').c1, (hA.below hx').c2, (hx'.cell (p := ⟨w.heap.size + 1, k, none⟩) (World.block_lt_of_cell? wr _ q)).trans q⟩ : _ ∧ _ ∧ _ ∧ _))
                  have HST2 := hidP (fun w' (hx' : Ext wr w') => (HUP4.out.ext hx').store k hkl ((brTo p t d u v i (j + 1)).getD k 0))
                  rw [partly_succ _ _ d k hkl LB.out LB2.out] at HST2
                  have HCL := hidP (fun w' (hx' : Ext wr w') => (HUP4.out.ext hx').cellInt k hkl)
                  have HO4 := hidP (hO.unfrozen k _ _ hkl rfl)
                  generalize tab t d i j k = tv at *
                  rw [hval] at HST2
                  generalize (brTo p t d u v i j).getD k 0 = av at *
                  have m0 : 0 ≤ f * tv := Int.mul_nonneg ef0 rt.1
                  have m1 : f * tv ≤ 10007 * 10007 := Int.mul_le_mul (by omega) (by omega) rt.1 (by omega)
                  have e1 : IntKind.i64.wrap (f * tv) = f * tv := wrap_in (by omega) (by omega)
                  have e2 : IntKind.i64.wrap (av + f * tv) = av + f * tv := wrap_in (by omega) (by omega)
                  have e3 : Int.tmod (av + f * tv) p = (av + f * tv) % p := Int.tmod_eq_emod_of_nonneg (by omega)
                  clear hfz hval m0 m1 ra rt hO hA hx q hfr hdN
                  go_wp2
                  have hE : Ext wr wr.drew := Ext.drew wr
                  (refine walkR_start (fun w' => Ext wr w') 18 (by kernel_rfl) ?_; simp only [numbered, List.take_succ_cons, List.take_zero, Nat.zero_add, Nat.reduceAdd, List.length_cons, List.length_nil])
                  repeat (refine walkR_still (v := ?_) rfl (by decide +kernel) rfl (fun _ _ _ h => h) hE ?_ ?_; rotate_left; (focus (intro w' hw'; obtain ⟨f0, f1, f2, f3⟩ := HF.out w' hw'; go_simp; all_goals (with_reducible rfl))); simp only [Act.put, List.setIfInBounds_toArray, List.set_cons_zero, List.set_cons_succ])
                  (refine walkR_later ?_; simp only [List.cons_append, List.nil_append])
                  (refine walkR_later ?_; simp only [List.cons_append, List.nil_append])
                  (refine walkR_later ?_; simp only [List.cons_append, List.nil_append])
                  repeat (refine walkR_still (v := ?_) rfl (by decide +kernel) rfl (fun _ _ _ h => h) hE ?_ ?_; rotate_left; (focus (intro w' hw'; obtain ⟨f0, f1, f2, f3⟩ := HF.out w' hw'; go_simp; all_goals (with_reducible rfl))); simp only [Act.put, List.setIfInBounds_toArray, List.set_cons_zero, List.set_cons_succ])
                  (refine walkR_later ?_; simp only [List.cons_append, List.nil_append])
                  repeat (refine walkR_still (v := ?_) rfl (by decide +kernel) rfl (fun _ _ _ h => h) hE ?_ ?_; rotate_left; (focus (intro w' hw'; obtain ⟨f0, f1, f2, f3⟩ := HF.out w' hw'; go_simp; all_goals (with_reducible rfl))); simp only [Act.put, List.setIfInBounds_toArray, List.set_cons_zero, List.set_cons_succ])
                  (refine walkR_later ?_; simp only [List.cons_append, List.nil_append])
                  (refine walkR_only (fun w' => Ext wr w') rfl (by decide +kernel) rfl ?_ ?_)
                  · exact fun _ h => h
                  intro K hK
                  go_simp
                  refine (HG.out _ (Ext.drew wr)).mono ?_
                  rintro e w2 ⟨rfl, hx2⟩
                  have hX2 := (Ext.drew wr).trans hx2
                  have HS2 := hidP (HST2.out _ hX2)
                  obtain ⟨qd, hfr⟩ := HCL.out _ hX2
                  have hfr2 : w2.frozen? ⟨w.heap.size + 1, 0 + k, none⟩ = false := hfr.trans ((HUP4.out.cellInt k hkl).2.symm.trans HO4.out)
                  rw [Nat.zero_add] at qd hfr2 HS2
                  generalize (partly (brTo p t d u v i j) (brTo p t d u v i (j + 1)) k).getD k 0 = vd at qd
                  refine hK _ _ hX2 ?_
                  clear hK K hx2 hfr
                  (try simp only [Act.put, List.setIfInBounds_toArray, List.set_cons_zero, List.set_cons_succ])
                  repeat (refine walkR_still (v := ?_) rfl (by decide +kernel) rfl (fun _ _ _ h => h) hX2 ?_ ?_; rotate_left; (focus (intro w' hw'; obtain ⟨f0, f1, f2, f3⟩ := HF.out w' hw'; go_simp; all_goals (with_reducible rfl))); simp only [Act.put, List.setIfInBounds_toArray, List.set_cons_zero, List.set_cons_succ])
                  (refine walkR_tail (by rfl) (by kernel_rfl) ?_; simp only [List.drop_succ_cons, List.drop_zero])
                  clear hX2
                  go_wp2
                  go_roundw
                  case rel => exact ⟨k + 1, by omega, HS2.out, by go_num⟩
                  case measure => simp [intOf]; omega
              · have hu := HUP4.out
                obtain rfl : k = d := by omega
                rw [partly_all _ _ _ LB.out LB2.out] at hu
                have HU5 := hidP hu
                clear hu
                go_wp2
                go_roundw
                case rel => exact ⟨j + 1, by omega, HU5.out, by go_num⟩
                case measure => simp [intOf]; omega
          · have hu := HUP2.out
            obtain rfl : j = d := by omega
            rw [brTo_row] at hu
            have HU2 := hidP hu
            clear hu
            go_wp2
            go_roundw
            case rel => exact ⟨i + 1, by omega, HU2.out, by go_num⟩
            case measure => simp [intOf]; omega
    · have hu := HUP.out
      obtain rfl : i = d := by omega
      rw [brTo_all] at hu
      obtain ⟨hO, hA, hx⟩ := HAR.out _ _ hu
      have ho := hidP (hO.base (B' := w.heap.size) (by omega))
      have hx2 := hidP hx
      clear hu hO hA hx
      go_wp2
      go_ret
      exact ⟨_, rfl, ho.out, hx2.out⟩
end Go.Proofs.YtcfgcacmmmhjcaaGreatDoor
