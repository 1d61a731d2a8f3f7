/-
  FnExactBchOf: the program's BchOf returns what the reference's returns, in memory of its own, and leaves its arguments.
  No condition.
  FnExactBchOf: the walk.
  What a change within bounds leaves.
  The program's product of nilpotent elements: BchOf.
  The reference's product of nilpotent elements: BchOf.
-/
import Derived.Test.YtenlhfimdpcaoaaMb4
namespace Go.Proofs.Ytenlhfimdpcaoaa
open Go.RowKit

open Classical in
/-- the class of an algebra -/
noncomputable def clsN (p : Int) (t : List Int) (d : Nat) : Int := if h : ∃ m, m ≤ d ∧ Chain (lowF p t d) (allL d) m then classOf p t d (Classical.choose h) else 0
theorem clsN_spec {p : Int} (hp : primeB p = true) (t : List Int) (d : Nat) : ∃ m, m ≤ d ∧ Chain (lowF p t d) (allL d) m ∧ clsN p t d = classOf p t d m := by
  have h := low_chain hp t d
  refine ⟨Classical.choose h, (Classical.choose_spec h).1, (Classical.choose_spec h).2, ?_⟩
  unfold clsN
  rw [dif_pos h]
/-- may the product be formed -/
noncomputable def bchB (p d : Int) (t xs ys : List Int) : Bool := algB p d t && elB p d xs && elB p d ys && decide (5 ≤ p) && insB (clsN p t d.toNat) 0 4
noncomputable def bchL (p : Int) (t : List Int) (d : Nat) (xs ys : List Int) : List Int :=
  bchI p (invP 2 p) (invP (12 % p) p) (invP (24 % p) p) xs ys (brL p t d xs ys) (brL p t d xs (brL p t d xs ys)) (brL p t d ys (brL p t d ys xs)) (brL p t d ys (brL p t d xs (brL p t d xs ys)))
noncomputable def bchRes (p d : Int) (t xs ys : List Int) : List Int × Bool := if bchB p d t xs ys then (bchL p t d.toNat xs ys, true) else ([], false)
theorem bchRes_no {p d : Int} {t xs ys : List Int} (h : bchB p d t xs ys = false) : bchRes p d t xs ys = ([], false) := by unfold bchRes; rw [h]; rfl
theorem bchRes_small (p d : Int) (t xs ys : List Int) (h : xs.length ≤ 1048576) : (bchRes p d t xs ys).1.length ≤ 1048576 := by
  unfold bchRes
  split
  · show (bchL p t d.toNat xs ys).length ≤ _
    unfold bchL bchI
    simp only [addL_length]
    exact h
  · simp
theorem timesZ_res {p : Int} (hp : 0 < p) (k : Int) (x : List Int) : Res p (timesZ p k x) := Res.modL hp _ _
theorem invP_bnd {p x : Int} (hp : primeB p = true) (h1 : 1 ≤ x) (hx : x < p) : 0 ≤ invP x p ∧ invP x p < p := by
  obtain ⟨p2, _⟩ := prime_bounds hp
  rw [← invP_powI hp h1 hx]
  exact ⟨Int.emod_nonneg _ (by omega), Int.emod_lt_of_pos _ (by omega)⟩
theorem prime_12I {p : Int} (hp : primeB p = true) (h5 : 5 ≤ p) : 1 ≤ 2 % p ∧ 1 ≤ 12 % p ∧ 1 ≤ 24 % p := by
  obtain ⟨q, rfl⟩ := Int.eq_ofNat_of_zero_le (show 0 ≤ p by omega)
  have h := prime_12 hp (show 5 ≤ q by omega)
  have e1 : (2 : Int) % (q : Int) = ((2 % q : Nat) : Int) := rfl
  have e2 : (12 : Int) % (q : Int) = ((12 % q : Nat) : Int) := rfl
  have e3 : (24 : Int) % (q : Int) = ((24 % q : Nat) : Int) := rfl
  rw [e1, e2, e3]
  omega
set_option maxHeartbeats 4000000 in
theorem sBchOf_any (p d : Int) (a ax ay : Option Addr) (N c nx cx ny cy : Nat) (t xs ys : List Int) (w : World) (ht : IntsAt w a N t) (hnc : N ≤ c) (hc2 : c ≤ 1000000000000) (hx : IntsAt w ax nx xs) (hy : IntsAt w ay ny ys) (hnx : nx ≤ 1000000000) (hny : ny ≤ 1000000000) :
    Calls Try.prog 27 #[algV p d a N c, .slice ax nx cx, .slice ay ny cy] w fun e w' => ∃ b n c', e = .returned (.tuple #[.slice b n c', .bool (bchRes p d t xs ys).2]) ∧ OwnI w' w.heap.size b n c' (bchRes p d t xs ys).1 ∧ Ext w w' := by
  have hx0 := Ext.alloc w (.cells #[.int .i64 p, .int .i64 d, .slice a N c] 24)
  have HAL := hidP (AlgAt.new w _ rfl p d a N c 24)
  have HOk := hidP (sAlgebraOk_any p d a N c t _ (ht.below hx0) hnc hc2)
  have HT := hidP (ht.below hx0)
  have HXs := hidP (hx.below hx0)
  have HYs := hidP (hy.below hx0)
  have HX0 := hidP hx0
  have hsz : (w.alloc (.cells #[.int .i64 p, .int .i64 d, .slice a N c] 24)).heap.size = w.heap.size + 1 := by simp
  have HSZ := hidP hsz
  have HLx := hidP hx.len
  have HLy := hidP hy.len
  clear ht hx hy hx0 hsz
  obtain ⟨f0, f1, f2⟩ := HAL.out
  go_enter Try.func27, Try.ntmps27
  go_wp2_with fail
  clear f0 f1 f2
  obtain ⟨wb, hwb⟩ : ∃ wb, wb = (w.alloc (.cells #[.int .i64 p, .int .i64 d, .slice a N c] 24)) := ⟨_, rfl⟩
  rw [← hwb] at HAL HOk HT HXs HYs HX0 HSZ ⊢
  clear hwb
  have HF := hidP (fun w' (hx' : Ext wb w') => (⟨(HAL.out.below hx').c0, (HAL.out.below hx').c1, (HAL.out.below hx').c2⟩ : _ ∧ _ ∧ _))
  refine HOk.out.mono ?_
  rintro e w1 ⟨rfl, hx1⟩
  have HX1 := hidP hx1
  clear hx1 HOk HAL
  cases hb : algB p d t with
  | false =>
    have HR := hidP (bchRes_no (p := p) (d := d) (t := t) (xs := xs) (ys := ys) (by unfold bchB; rw [hb]; rfl))
    go_wp2
    refine bodyPost_ret (v := .tuple #[.slice none 0 0, .bool false]) (by simp [results, Try.results27, go_sem]) rfl ?_
    rw [HR.out]
    exact ⟨none, 0, 0, rfl, OwnI.nil _ _, HX0.out.trans HX1.out⟩
  | true =>
    have HBa := hidP hb
    obtain ⟨hh, _⟩ := algB_true.1 hb
    clear hb
    obtain ⟨hp, hd0, hd, hl, hr⟩ := headB_true hh
    obtain ⟨p2, p7⟩ := prime_bounds hp
    clear hh
    have HEx := hidP (l2Vector_any p d a N c ax nx cx xs w1 (HXs.out.below HX1.out) (by omega) (by omega) (by omega))
    obtain ⟨f0, f1, f2⟩ := HF.out w1 HX1.out
    go_wp2_with fail
    refine HEx.out.mono ?_
    rintro e w2 ⟨rfl, hx2⟩
    have HX2 := hidP (HX1.out.trans hx2)
    clear hx2 HEx f0 f1 f2
    obtain ⟨f0, f1, f2⟩ := HF.out w2 HX2.out
    cases hex : elB p d xs with
    | false =>
      have HR := hidP (bchRes_no (p := p) (d := d) (t := t) (xs := xs) (ys := ys) (by unfold bchB; rw [hex, Bool.and_false]; rfl))
      go_wp2
      refine bodyPost_ret (v := .tuple #[.slice none 0 0, .bool false]) (by simp [results, Try.results27, go_sem]) rfl ?_
      rw [HR.out]
      exact ⟨none, 0, 0, rfl, OwnI.nil _ _, HX0.out.trans HX2.out⟩
    | true =>
      have HBx := hidP hex
      have HEy := hidP (l2Vector_any p d a N c ay ny cy ys w2 (HYs.out.below HX2.out) (by omega) (by omega) (by omega))
      clear hex
      go_wp2_with fail
      refine HEy.out.mono ?_
      rintro e w3 ⟨rfl, hx3⟩
      have HX3 := hidP (HX2.out.trans hx3)
      clear hx3 HEy f0 f1 f2
      obtain ⟨f0, f1, f2⟩ := HF.out w3 HX3.out
      cases hey : elB p d ys with
      | false =>
        have HR := hidP (bchRes_no (p := p) (d := d) (t := t) (xs := xs) (ys := ys) (by unfold bchB; rw [hey, Bool.and_false]; rfl))
        go_wp2
        refine bodyPost_ret (v := .tuple #[.slice none 0 0, .bool false]) (by simp [results, Try.results27, go_sem]) rfl ?_
        rw [HR.out]
        exact ⟨none, 0, 0, rfl, OwnI.nil _ _, HX0.out.trans HX3.out⟩
      | true =>
        have HBy := hidP hey
        clear hey
        by_cases h5 : 5 ≤ p
        · obtain ⟨D, rfl⟩ := Int.eq_ofNat_of_zero_le hd0
          obtain ⟨m, hm, hch, hcl⟩ := clsN_spec hp t D
          have HCl := hidP (sClassOf_ok p D m a N c t w3 (HT.out.below HX3.out) hnc hc2 HBa.out (by omega) hch)
          rw [← hcl] at HCl
          have HBB : Hid (bchB p D t xs ys = insB (clsN p t D) 0 4) := by
            show _ = _
            unfold bchB
            rw [HBa.out, HBx.out, HBy.out, decide_eq_true h5]
            rfl
          clear hm hch hcl
          generalize clsN p t D = cl at *
          go_wp2_with fail
          refine HCl.out.mono ?_
          rintro e w4 ⟨rfl, hx4⟩
          have HX4 := hidP (HX3.out.trans hx4)
          have HIn := hidP (l1In_any cl 0 4 w4)
          clear hx4 HCl f0 f1 f2
          go_wp2_with fail
          refine HIn.out.mono ?_
          rintro e w5 ⟨rfl, rfl⟩
          clear HIn
          obtain ⟨f0, f1, f2⟩ := HF.out w4 HX4.out
          cases hin : insB cl 0 4 with
          | false =>
            have HR := hidP (bchRes_no (p := p) (d := D) (t := t) (xs := xs) (ys := ys) (by rw [HBB.out, hin]))
            go_wp2
            refine bodyPost_ret (v := .tuple #[.slice none 0 0, .bool false]) (by simp [results, Try.results27, go_sem]) rfl ?_
            rw [HR.out]
            exact ⟨none, 0, 0, rfl, OwnI.nil _ _, HX0.out.trans HX4.out⟩
          | true =>
            have hrx : Res p xs ∧ xs.length = D := by
              have h := HBx.out
              unfold elB at h
              simp only [Bool.and_eq_true, decide_eq_true_eq] at h
              exact ⟨resB_true.1 h.2, by omega⟩
            have hry : Res p ys ∧ ys.length = D := by
              have h := HBy.out
              unfold elB at h
              simp only [Bool.and_eq_true, decide_eq_true_eq] at h
              exact ⟨resB_true.1 h.2, by omega⟩
            obtain ⟨hrx, hxl⟩ := hrx
            obtain ⟨hry, hyl⟩ := hry
            obtain rfl : nx = D := by have := HLx.out; omega
            obtain rfl : ny = nx := by have := HLy.out; omega
            obtain ⟨j2, j12, j24⟩ := prime_12I hp h5
            have h22 : (2 : Int) % p = 2 := Int.emod_eq_of_lt (by omega) (by omega)
            have HI2 := hidP (fun w' => inverseOf_any 2 p w' hp (by omega))
            have HI12 := hidP (fun w' => inverseOf_any 12 p w' hp (by omega))
            have HI24 := hidP (fun w' => inverseOf_any 24 p w' hp (by omega))
            have HV2 := hidP (invP_bnd hp (x := 2) (by omega) (by omega))
            have HV12 := hidP (invP_bnd hp (x := 12 % p) j12 (Int.emod_lt_of_pos _ (by omega)))
            have HV24 := hidP (invP_bnd hp (x := 24 % p) j24 (Int.emod_lt_of_pos _ (by omega)))
            rw [h22] at HI2
            have hres : bchRes p ny t xs ys = (bchS p (invP 2 p) (invP (12 % p) p) (invP (24 % p) p) xs ys (brL p t ny xs ys) (brL p t ny xs (brL p t ny xs ys)) (brL p t ny ys (brL p t ny ys xs)) (brL p t ny ys (brL p t ny xs (brL p t ny xs ys))), true) := by
              unfold bchRes
              rw [HBB.out, hin, if_pos rfl, bch_same _ _ _ (by rw [brL_length, hxl]) (by rw [brL_length, hxl]) (by rw [brL_length, hxl]) (by rw [brL_length, hxl])]
              rfl
            have HRes := hidP hres
            clear hres h22 j2 j12 j24
            generalize invP 2 p = i2 at *
            generalize invP (12 % p) p = i12 at *
            generalize invP (24 % p) p = i24 at *
            have HBr := hidP (fun au av cu cv u v w' (hx : Ext wb w') (hu : IntsAt w' au ny u) (hv : IntsAt w' av ny v) (ru : Res p u) (rv : Res p v) => l2Bracket_any p ny N c cu cv a au av t u v w' (by omega) (by
              have hl2 := HT.out.len
              have h : (N : Int) = ((ny * ny * ny : Nat) : Int) := by rw [← hl2, hl]; simp
              omega) (HT.out.below hx) hu hv (by omega) p7 hr ru rv)
            have HPl := hidP (fun au av cu cv u v w' (hu : IntsAt w' au ny u) (hv : IntsAt w' av ny v) (ru : Res p u) (rv : Res p v) => l2Plus_any au av ny cu cv u v p w' hu hv (by omega) ru rv (by omega) p7)
            have HMu := hidP (fun av cv v k w' (hv : IntsAt w' av ny v) (rv : Res p v) (k0 : -10007 ≤ k) (k1 : k ≤ 10007) => l7Multiple_any av ny cv v k p w' hv (by omega) rv (by omega) p7 k0 k1)
            have HRb := hidP (fun u v => brL_res (p := p) (by omega) t ny u v)
            have HRx := hidP hrx
            have HRy := hidP hry
            have hpp : 0 < p := by omega
            clear hr hl hrx hry hin HBB HBa HBx HBy
            go_wp2_with fail
            refine (HBr.out _ _ _ _ _ _ _ HX4.out (HXs.out.below HX4.out) (HYs.out.below HX4.out) HRx.out HRy.out).mono ?_
            rintro e w5 ⟨b1, rfl, ho1, hx5⟩
            have HX5 := hidP (HX4.out.trans hx5)
            have HO1 := hidP ho1.ints
            have HR1 := hidP (HRb.out xs ys)
            generalize brL p t ny xs ys = xy at *
            clear ho1 hx5 f0 f1 f2
            obtain ⟨f0, f1, f2⟩ := HF.out w5 HX5.out
            go_wp2_with fail
            refine (HBr.out _ _ _ _ _ _ _ HX5.out (HXs.out.below HX5.out) HO1.out HRx.out HR1.out).mono ?_
            rintro e w6 ⟨b2, rfl, ho2, hx6⟩
            have HX6 := hidP (HX5.out.trans hx6)
            have HO1' := hidP (HO1.out.below hx6)
            have HO2 := hidP ho2.ints
            have HR2 := hidP (HRb.out xs xy)
            generalize brL p t ny xs xy = xxy at *
            clear ho2 hx6 f0 f1 f2 HO1
            go_wp2
            have hE : Ext wb w6.drew := HX6.out.trans (Ext.drew w6)
            (refine walkR_start (fun w' => Ext wb w') 7 (by kernel_rfl) ?_; simp only [numbered, List.take_succ_cons, List.take_zero, Nat.zero_add, Nat.reduceAdd, List.length_cons, List.length_nil])
            (repeat (first | (refine walkR_still (v := ?_) rfl (by decide +kernel) rfl (fun _ _ _ h => h) hE ?_ ?_; rotate_left; (focus (intro w' hw'; obtain ⟨f0, f1, f2⟩ := HF.out w' hw'; go_simp; all_goals (with_reducible rfl))); simp only [Act.put, List.setIfInBounds_toArray, List.set_cons_zero, List.set_cons_succ]) | (refine walkR_skip rfl (by decide +kernel) rfl (fun _ _ _ h => h) hE ?_; simp only [Act.put, List.setIfInBounds_toArray, List.set_cons_zero, List.set_cons_succ])))
            (refine walkR_only (fun w' => Ext wb w') rfl (by decide +kernel) rfl (fun _ h => h) ?_; intro K hK; go_simp; refine (HBr.out _ _ _ _ _ _ _ hE (HYs.out.below hE) (HXs.out.below hE) HRy.out HRx.out).mono ?_; rintro e w7 ⟨b3, rfl, ho3, hx7⟩; refine hK _ _ (hE.trans hx7) ?_; clear hK K; (try simp only [Act.put, List.setIfInBounds_toArray, List.set_cons_zero, List.set_cons_succ]))
            have hE7 := hE.trans hx7
            have HR3 := hidP (HRb.out ys xs)
            (refine walkR_only (fun w' => Ext wb w') rfl (by decide +kernel) rfl (fun _ h => h) ?_; intro K hK; go_simp; refine (HBr.out _ _ _ _ _ _ _ hE7 (HYs.out.below hE7) ho3.ints HRy.out HR3.out).mono ?_; rintro e w8 ⟨b4, rfl, ho4, hx8⟩; refine hK _ _ (hE7.trans hx8) ?_; clear hK K; (try simp only [Act.put, List.setIfInBounds_toArray, List.set_cons_zero, List.set_cons_succ]))
            have HX8 := hidP (hE7.trans hx8)
            have HR4 := hidP (HRb.out ys (brL p t ny ys xs))
            have HO1 := hidP (((HO1'.out.below (Ext.drew w6)).below hx7).below hx8)
            have HO2' := hidP (((HO2.out.below (Ext.drew w6)).below hx7).below hx8)
            have HO4 := hidP ho4.ints
            generalize brL p t ny ys (brL p t ny ys xs) = yyx at *
            clear ho3 ho4 hx7 hx8 hE hE7 HR3 HO2 HO1'
            (refine walkR_tail (by rfl) (by kernel_rfl) ?_; simp only [List.drop_succ_cons, List.drop_zero])
            go_wp2
            have hE : Ext wb w8.drew := HX8.out.trans (Ext.drew w8)
            (refine walkR_start (fun w' => Ext wb w') 15 (by kernel_rfl) ?_; simp only [numbered, List.take_succ_cons, List.take_zero, Nat.zero_add, Nat.reduceAdd, List.length_cons, List.length_nil])
            (repeat (first | (refine walkR_still (v := ?_) rfl (by decide +kernel) rfl (fun _ _ _ h => h) hE ?_ ?_; rotate_left; (focus (intro w' hw'; obtain ⟨f0, f1, f2⟩ := HF.out w' hw'; go_simp; all_goals (with_reducible rfl))); simp only [Act.put, List.setIfInBounds_toArray, List.set_cons_zero, List.set_cons_succ]) | (refine walkR_skip rfl (by decide +kernel) rfl (fun _ _ _ h => h) hE ?_; simp only [Act.put, List.setIfInBounds_toArray, List.set_cons_zero, List.set_cons_succ])))
            (refine walkR_later ?_; simp only [List.cons_append, List.nil_append])
            (repeat (first | (refine walkR_still (v := ?_) rfl (by decide +kernel) rfl (fun _ _ _ h => h) hE ?_ ?_; rotate_left; (focus (intro w' hw'; obtain ⟨f0, f1, f2⟩ := HF.out w' hw'; go_simp; all_goals (with_reducible rfl))); simp only [Act.put, List.setIfInBounds_toArray, List.set_cons_zero, List.set_cons_succ]) | (refine walkR_skip rfl (by decide +kernel) rfl (fun _ _ _ h => h) hE ?_; simp only [Act.put, List.setIfInBounds_toArray, List.set_cons_zero, List.set_cons_succ])))
            (refine walkR_later ?_; simp only [List.cons_append, List.nil_append])
            (repeat (first | (refine walkR_still (v := ?_) rfl (by decide +kernel) rfl (fun _ _ _ h => h) hE ?_ ?_; rotate_left; (focus (intro w' hw'; obtain ⟨f0, f1, f2⟩ := HF.out w' hw'; go_simp; all_goals (with_reducible rfl))); simp only [Act.put, List.setIfInBounds_toArray, List.set_cons_zero, List.set_cons_succ]) | (refine walkR_skip rfl (by decide +kernel) rfl (fun _ _ _ h => h) hE ?_; simp only [Act.put, List.setIfInBounds_toArray, List.set_cons_zero, List.set_cons_succ])))
            (refine walkR_later ?_; simp only [List.cons_append, List.nil_append]); (refine walkR_later ?_; simp only [List.cons_append, List.nil_append])
            (refine walkR_only (fun w' => Ext wb w') rfl (by decide +kernel) rfl (fun _ h => h) ?_; intro K hK; go_simp; refine (HPl.out _ _ _ _ _ _ _ (HXs.out.below hE) (HYs.out.below hE) HRx.out HRy.out).mono ?_; rintro e w9 ⟨b5, rfl, ho5, hx9⟩; refine hK _ _ (hE.trans hx9) ?_; clear hK K; (try simp only [Act.put, List.setIfInBounds_toArray, List.set_cons_zero, List.set_cons_succ]))
            have hE9 := hE.trans hx9
            (refine walkR_only (fun w' => Ext wb w') rfl (by decide +kernel) rfl (fun _ h => h) ?_; intro K hK; go_simp; refine (HI2.out _).mono ?_; rintro e w10 ⟨rfl, rfl⟩; refine hK _ _ (hE9) ?_; clear hK K; (try simp only [Act.put, List.setIfInBounds_toArray, List.set_cons_zero, List.set_cons_succ]))
            have ho1 := (HO1.out.below (Ext.drew w8)).below hx9
            (refine walkR_only (fun w' => Ext wb w') rfl (by decide +kernel) rfl (fun _ h => h) ?_; intro K hK; go_simp; refine (HMu.out _ _ _ _ _ ho1 HR1.out (by have := HV2.out; omega) (by have := HV2.out; omega)).mono ?_; rintro e w11 ⟨b6, rfl, ho6, hx11⟩; refine hK _ _ (hE9.trans hx11) ?_; clear hK K; (try simp only [Act.put, List.setIfInBounds_toArray, List.set_cons_zero, List.set_cons_succ]))
            have hE11 := hE9.trans hx11
            (refine walkR_only (fun w' => Ext wb w') rfl (by decide +kernel) rfl (fun _ h => h) ?_; intro K hK; go_simp; refine (HPl.out _ _ _ _ _ _ _ (ho5.ints.below hx11) ho6.ints (addL_res hpp _ _ _) (timesZ_res hpp _ _)).mono ?_; rintro e w12 ⟨b7, rfl, ho7, hx12⟩; refine hK _ _ (hE11.trans hx12) ?_; clear hK K; (try simp only [Act.put, List.setIfInBounds_toArray, List.set_cons_zero, List.set_cons_succ]))
            have HX12 := hidP (hE11.trans hx12)
            have HO7 := hidP ho7.ints
            have HO2 := hidP ((((HO2'.out.below (Ext.drew w8)).below hx9).below hx11).below hx12)
            have HO4' := hidP ((((HO4.out.below (Ext.drew w8)).below hx9).below hx11).below hx12)
            have HR7 := hidP (addL_res hpp (addL p xs 1 ys) 1 (timesZ p i2 xy))
            have HU : Hid (bchS p i2 i12 i24 xs ys xy xxy yyx (brL p t ny ys xxy) = addL p (addL p (addL p (addL p xs 1 ys) 1 (timesZ p i2 xy)) 1 (timesZ p i12 (addL p xxy 1 yyx))) 1 (timesZ p (-i24) (brL p t ny ys xxy))) := by
              show _ = _
              unfold bchS
              rw [Int.zero_sub]
            generalize addL p (addL p xs 1 ys) 1 (timesZ p i2 xy) = s1 at *
            clear ho5 ho6 ho7 ho1 hx9 hx11 hx12 hE hE9 hE11 HO1 HO2' HO4 HR1
            (refine walkR_tail (by rfl) (by kernel_rfl) ?_; simp only [List.drop_succ_cons, List.drop_zero])
            go_wp2
            have hE : Ext wb w12.drew := HX12.out.trans (Ext.drew w12)
            (refine walkR_start (fun w' => Ext wb w') 15 (by kernel_rfl) ?_; simp only [numbered, List.take_succ_cons, List.take_zero, Nat.zero_add, Nat.reduceAdd, List.length_cons, List.length_nil])
            (repeat (first | (refine walkR_still (v := ?_) rfl (by decide +kernel) rfl (fun _ _ _ h => h) hE ?_ ?_; rotate_left; (focus (intro w' hw'; obtain ⟨f0, f1, f2⟩ := HF.out w' hw'; go_simp; all_goals (with_reducible rfl))); simp only [Act.put, List.setIfInBounds_toArray, List.set_cons_zero, List.set_cons_succ]) | (refine walkR_skip rfl (by decide +kernel) rfl (fun _ _ _ h => h) hE ?_; simp only [Act.put, List.setIfInBounds_toArray, List.set_cons_zero, List.set_cons_succ])))
            (refine walkR_later ?_; simp only [List.cons_append, List.nil_append])
            (repeat (first | (refine walkR_still (v := ?_) rfl (by decide +kernel) rfl (fun _ _ _ h => h) hE ?_ ?_; rotate_left; (focus (intro w' hw'; obtain ⟨f0, f1, f2⟩ := HF.out w' hw'; go_simp; all_goals (with_reducible rfl))); simp only [Act.put, List.setIfInBounds_toArray, List.set_cons_zero, List.set_cons_succ]) | (refine walkR_skip rfl (by decide +kernel) rfl (fun _ _ _ h => h) hE ?_; simp only [Act.put, List.setIfInBounds_toArray, List.set_cons_zero, List.set_cons_succ])))
            (refine walkR_later ?_; simp only [List.cons_append, List.nil_append]); (refine walkR_later ?_; simp only [List.cons_append, List.nil_append]); (refine walkR_later ?_; simp only [List.cons_append, List.nil_append])
            (refine walkR_only (fun w' => Ext wb w') rfl (by decide +kernel) rfl (fun _ h => h) ?_; intro K hK; go_simp; refine (HI12.out _).mono ?_; rintro e w10 ⟨rfl, rfl⟩; refine hK _ _ (hE) ?_; clear hK K; (try simp only [Act.put, List.setIfInBounds_toArray, List.set_cons_zero, List.set_cons_succ]))
            have ho2 := HO2.out.below (Ext.drew w12)
            have ho4 := HO4'.out.below (Ext.drew w12)
            (refine walkR_only (fun w' => Ext wb w') rfl (by decide +kernel) rfl (fun _ h => h) ?_; intro K hK; go_simp; refine (HPl.out _ _ _ _ _ _ _ ho2 ho4 HR2.out HR4.out).mono ?_; rintro e w13 ⟨b8, rfl, ho8, hx13⟩; refine hK _ _ (hE.trans hx13) ?_; clear hK K; (try simp only [Act.put, List.setIfInBounds_toArray, List.set_cons_zero, List.set_cons_succ]))
            have hE13 := hE.trans hx13
            (refine walkR_only (fun w' => Ext wb w') rfl (by decide +kernel) rfl (fun _ h => h) ?_; intro K hK; go_simp; refine (HMu.out _ _ _ _ _ ho8.ints (addL_res hpp _ _ _) (by have := HV12.out; omega) (by have := HV12.out; omega)).mono ?_; rintro e w14 ⟨b9, rfl, ho9, hx14⟩; refine hK _ _ (hE13.trans hx14) ?_; clear hK K; (try simp only [Act.put, List.setIfInBounds_toArray, List.set_cons_zero, List.set_cons_succ]))
            have hE14 := hE13.trans hx14
            have ho7 := ((HO7.out.below (Ext.drew w12)).below hx13).below hx14
            (refine walkR_only (fun w' => Ext wb w') rfl (by decide +kernel) rfl (fun _ h => h) ?_; intro K hK; go_simp; refine (HPl.out _ _ _ _ _ _ _ ho7 ho9.ints HR7.out (timesZ_res hpp _ _)).mono ?_; rintro e w15 ⟨b10, rfl, ho10, hx15⟩; refine hK _ _ (hE14.trans hx15) ?_; clear hK K; (try simp only [Act.put, List.setIfInBounds_toArray, List.set_cons_zero, List.set_cons_succ]))
            have HX15 := hidP (hE14.trans hx15)
            have HO10 := hidP ho10.ints
            have HO2' := hidP (((ho2.below hx13).below hx14).below hx15)
            have HR10 := hidP (addL_res hpp s1 1 (timesZ p i12 (addL p xxy 1 yyx)))
            generalize addL p s1 1 (timesZ p i12 (addL p xxy 1 yyx)) = s2 at *
            clear ho8 ho9 ho10 ho2 ho4 ho7 hx13 hx14 hx15 hE hE13 hE14 HO2 HO4' HO7
            (refine walkR_tail (by rfl) (by kernel_rfl) ?_; simp only [List.drop_succ_cons, List.drop_zero])
            go_wp2
            have hE : Ext wb w15.drew := HX15.out.trans (Ext.drew w15)
            have hneg : IntKind.i64.wrap (-i24) = -i24 := wrap_in (by have := HV24.out; omega) (by have := HV24.out; omega)
            (refine walkR_start (fun w' => Ext wb w') 15 (by kernel_rfl) ?_; simp only [numbered, List.take_succ_cons, List.take_zero, Nat.zero_add, Nat.reduceAdd, List.length_cons, List.length_nil])
            (repeat (first | (refine walkR_still (v := ?_) rfl (by decide +kernel) rfl (fun _ _ _ h => h) hE ?_ ?_; rotate_left; (focus (intro w' hw'; obtain ⟨f0, f1, f2⟩ := HF.out w' hw'; go_simp; all_goals (with_reducible rfl))); simp only [Act.put, List.setIfInBounds_toArray, List.set_cons_zero, List.set_cons_succ]) | (refine walkR_skip rfl (by decide +kernel) rfl (fun _ _ _ h => h) hE ?_; simp only [Act.put, List.setIfInBounds_toArray, List.set_cons_zero, List.set_cons_succ])))
            (refine walkR_later ?_; simp only [List.cons_append, List.nil_append]); (refine walkR_later ?_; simp only [List.cons_append, List.nil_append])
            (repeat (first | (refine walkR_still (v := ?_) rfl (by decide +kernel) rfl (fun _ _ _ h => h) hE ?_ ?_; rotate_left; (focus (intro w' hw'; obtain ⟨f0, f1, f2⟩ := HF.out w' hw'; go_simp; all_goals (with_reducible rfl))); simp only [Act.put, List.setIfInBounds_toArray, List.set_cons_zero, List.set_cons_succ]) | (refine walkR_skip rfl (by decide +kernel) rfl (fun _ _ _ h => h) hE ?_; simp only [Act.put, List.setIfInBounds_toArray, List.set_cons_zero, List.set_cons_succ])))
            (refine walkR_later ?_; simp only [List.cons_append, List.nil_append]); (refine walkR_later ?_; simp only [List.cons_append, List.nil_append]); (refine walkR_later ?_; simp only [List.cons_append, List.nil_append])
            (refine walkR_only (fun w' => Ext wb w') rfl (by decide +kernel) rfl (fun _ h => h) ?_; intro K hK; go_simp; refine (HI24.out _).mono ?_; rintro e w10 ⟨rfl, rfl⟩; refine hK _ _ (hE) ?_; clear hK K; (try simp only [Act.put, List.setIfInBounds_toArray, List.set_cons_zero, List.set_cons_succ]))
            (repeat (first | (refine walkR_still (v := ?_) rfl (by decide +kernel) rfl (fun _ _ _ h => h) hE ?_ ?_; rotate_left; (focus (intro w' hw'; obtain ⟨f0, f1, f2⟩ := HF.out w' hw'; go_simp; all_goals (with_reducible rfl))); simp only [Act.put, List.setIfInBounds_toArray, List.set_cons_zero, List.set_cons_succ]) | (refine walkR_skip rfl (by decide +kernel) rfl (fun _ _ _ h => h) hE ?_; simp only [Act.put, List.setIfInBounds_toArray, List.set_cons_zero, List.set_cons_succ])))
            have ho2 := HO2'.out.below (Ext.drew w15)
            (refine walkR_only (fun w' => Ext wb w') rfl (by decide +kernel) rfl (fun _ h => h) ?_; intro K hK; go_simp; refine (HBr.out _ _ _ _ _ _ _ hE (HYs.out.below hE) ho2 HRy.out HR2.out).mono ?_; rintro e w16 ⟨b11, rfl, ho11, hx16⟩; refine hK _ _ (hE.trans hx16) ?_; clear hK K; (try simp only [Act.put, List.setIfInBounds_toArray, List.set_cons_zero, List.set_cons_succ]))
            have hE16 := hE.trans hx16
            (refine walkR_only (fun w' => Ext wb w') rfl (by decide +kernel) rfl (fun _ h => h) ?_; intro K hK; go_simp; refine (HMu.out _ _ _ (-i24) _ ho11.ints (HRb.out _ _) (by have := HV24.out; omega) (by have := HV24.out; omega)).mono ?_; rintro e w17 ⟨b12, rfl, ho12, hx17⟩; refine hK _ _ (hE16.trans hx17) ?_; clear hK K; (try simp only [Act.put, List.setIfInBounds_toArray, List.set_cons_zero, List.set_cons_succ]))
            have hE17 := hE16.trans hx17
            have ho10 := ((HO10.out.below (Ext.drew w15)).below hx16).below hx17
            (refine walkR_only (fun w' => Ext wb w') rfl (by decide +kernel) rfl (fun _ h => h) ?_; intro K hK; go_simp; refine (HPl.out _ _ _ _ _ _ _ ho10 ho12.ints HR10.out (timesZ_res hpp _ _)).mono ?_; rintro e w18 ⟨b13, rfl, ho13, hx18⟩; refine hK _ _ (hE17.trans hx18) ?_; clear hK K; (try simp only [Act.put, List.setIfInBounds_toArray, List.set_cons_zero, List.set_cons_succ]))
            have HX18 := hidP (hE17.trans hx18)
            have HO13 := hidP (ho13.base (B' := w.heap.size) (by have := hE17.size; have := HSZ.out; omega))
            clear ho11 ho12 ho13 ho2 ho10 hx16 hx17 hx18 hE hE16 hE17
            (refine walkR_tail (by rfl) (by kernel_rfl) ?_; simp only [List.drop_succ_cons, List.drop_zero])
            go_wp2
            refine bodyPost_ret (v := .tuple #[.slice b13 ny ny, .bool true]) (by simp [results, Try.results27, go_sem]) rfl ?_
            rw [HRes.out, HU.out]
            exact ⟨b13, ny, ny, rfl, HO13.out, HX0.out.trans HX18.out⟩
        · have HR := hidP (bchRes_no (p := p) (d := d) (t := t) (xs := xs) (ys := ys) (by unfold bchB; rw [decide_eq_false h5, Bool.and_false]; rfl))
          go_wp2
          refine bodyPost_ret (v := .tuple #[.slice none 0 0, .bool false]) (by simp [results, Try.results27, go_sem]) rfl ?_
          rw [HR.out]
          exact ⟨none, 0, 0, rfl, OwnI.nil _ _, HX0.out.trans HX3.out⟩
end Go.Proofs.Ytenlhfimdpcaoaa

namespace Go.Proofs.Ytenlhfimdpcaoaa
open Go.RowKit

set_option maxHeartbeats 4000000 in
theorem bchOf_any (p d : Int) (a ax ay : Option Addr) (N c nx cx ny cy : Nat) (t xs ys : List Int) (w : World) (ht : IntsAt w a N t) (hnc : N ≤ c) (hc2 : c ≤ 1000000000000) (hx : IntsAt w ax nx xs) (hy : IntsAt w ay ny ys) (hnx : nx ≤ 1000000000) (hny : ny ≤ 1000000000) (hnil : ax = none → cx = 0) (hay : ∀ b o, ay = some ⟨b, o, none⟩ → b < w.heap.size) :
    Calls Try.prog 22 #[algV p d a N c, .slice ax nx cx, .slice ay ny cy] w fun e w' => ∃ b n c', e = .returned (.tuple #[.slice b n c', .bool (bchRes p d t xs ys).2]) ∧ OwnI w' w.heap.size b n c' (bchRes p d t xs ys).1 ∧ Ext w w' := by
  have hx0 := Ext.alloc w (.cells #[.int .i64 p, .int .i64 d, .slice a N c] 24)
  have HAL := hidP (AlgAt.new w _ rfl p d a N c 24)
  have HOk := hidP (algebraOk_any p d a N c t _ (ht.below hx0) hnc hc2)
  have HT := hidP (ht.below hx0)
  have HXs := hidP (hx.below hx0)
  have HYs := hidP (hy.below hx0)
  have HX0 := hidP hx0
  have hsz : (w.alloc (.cells #[.int .i64 p, .int .i64 d, .slice a N c] 24)).heap.size = w.heap.size + 1 := by simp
  have HSZ := hidP hsz
  have HLx := hidP hx.len
  have HLy := hidP hy.len
  clear ht hx hy hx0 hsz
  obtain ⟨f0, f1, f2⟩ := HAL.out
  go_enter Try.func22, Try.ntmps22
  go_wp2_with fail
  clear f0 f1 f2
  obtain ⟨wb, hwb⟩ : ∃ wb, wb = (w.alloc (.cells #[.int .i64 p, .int .i64 d, .slice a N c] 24)) := ⟨_, rfl⟩
  rw [← hwb] at HAL HOk HT HXs HYs HX0 HSZ ⊢
  clear hwb
  have HF := hidP (fun w' (hx' : Ext wb w') => (⟨(HAL.out.below hx').c0, (HAL.out.below hx').c1, (HAL.out.below hx').c2⟩ : _ ∧ _ ∧ _))
  refine HOk.out.mono ?_
  rintro e w1 ⟨rfl, hx1⟩
  have HX1 := hidP hx1
  clear hx1 HOk HAL
  cases hb : algB p d t with
  | false =>
    have HR := hidP (bchRes_no (p := p) (d := d) (t := t) (xs := xs) (ys := ys) (by unfold bchB; rw [hb]; rfl))
    go_wp2
    refine bodyPost_ret (v := .tuple #[.slice none 0 0, .bool false]) (by simp [results, Try.results22, go_sem]) rfl ?_
    rw [HR.out]
    exact ⟨none, 0, 0, rfl, OwnI.nil _ _, HX0.out.trans HX1.out⟩
  | true =>
    have HBa := hidP hb
    obtain ⟨hh, _⟩ := algB_true.1 hb
    clear hb
    obtain ⟨hp, hd0, hd, hl, hr⟩ := headB_true hh
    obtain ⟨p2, p7⟩ := prime_bounds hp
    clear hh
    have HEx := hidP (isElement_any p d a N c ax nx cx xs w1 (HXs.out.below HX1.out) (by omega) (by omega) (by omega))
    obtain ⟨f0, f1, f2⟩ := HF.out w1 HX1.out
    go_wp2_with fail
    refine HEx.out.mono ?_
    rintro e w2 ⟨rfl, hx2⟩
    have HX2 := hidP (HX1.out.trans hx2)
    clear hx2 HEx f0 f1 f2
    obtain ⟨f0, f1, f2⟩ := HF.out w2 HX2.out
    cases hex : elB p d xs with
    | false =>
      have HR := hidP (bchRes_no (p := p) (d := d) (t := t) (xs := xs) (ys := ys) (by unfold bchB; rw [hex, Bool.and_false]; rfl))
      go_wp2
      refine bodyPost_ret (v := .tuple #[.slice none 0 0, .bool false]) (by simp [results, Try.results22, go_sem]) rfl ?_
      rw [HR.out]
      exact ⟨none, 0, 0, rfl, OwnI.nil _ _, HX0.out.trans HX2.out⟩
    | true =>
      have HBx := hidP hex
      have HEy := hidP (isElement_any p d a N c ay ny cy ys w2 (HYs.out.below HX2.out) (by omega) (by omega) (by omega))
      clear hex
      go_wp2_with fail
      refine HEy.out.mono ?_
      rintro e w3 ⟨rfl, hx3⟩
      have HX3 := hidP (HX2.out.trans hx3)
      clear hx3 HEy f0 f1 f2
      obtain ⟨f0, f1, f2⟩ := HF.out w3 HX3.out
      cases hey : elB p d ys with
      | false =>
        have HR := hidP (bchRes_no (p := p) (d := d) (t := t) (xs := xs) (ys := ys) (by unfold bchB; rw [hey, Bool.and_false]; rfl))
        go_wp2
        refine bodyPost_ret (v := .tuple #[.slice none 0 0, .bool false]) (by simp [results, Try.results22, go_sem]) rfl ?_
        rw [HR.out]
        exact ⟨none, 0, 0, rfl, OwnI.nil _ _, HX0.out.trans HX3.out⟩
      | true =>
        have HBy := hidP hey
        clear hey
        by_cases h5 : 5 ≤ p
        · obtain ⟨D, rfl⟩ := Int.eq_ofNat_of_zero_le hd0
          obtain ⟨m, hm, hch, hcl⟩ := clsN_spec hp t D
          have HCl := hidP (classOf_ok p D m a N c t w3 (HT.out.below HX3.out) hnc hc2 HBa.out (by omega) hch)
          rw [← hcl] at HCl
          have HBB : Hid (bchB p D t xs ys = insB (clsN p t D) 0 4) := by
            show _ = _
            unfold bchB
            rw [HBa.out, HBx.out, HBy.out, decide_eq_true h5]
            rfl
          clear hm hch hcl
          generalize clsN p t D = cl at *
          go_wp2_with fail
          refine HCl.out.mono ?_
          rintro e w4 ⟨rfl, hx4⟩
          have HX4 := hidP (HX3.out.trans hx4)
          have HIn := hidP (inside_any cl 0 4 w4)
          clear hx4 HCl f0 f1 f2
          go_wp2_with fail
          refine HIn.out.mono ?_
          rintro e w5 ⟨rfl, rfl⟩
          clear HIn
          obtain ⟨f0, f1, f2⟩ := HF.out w4 HX4.out
          cases hin : insB cl 0 4 with
          | false =>
            have HR := hidP (bchRes_no (p := p) (d := D) (t := t) (xs := xs) (ys := ys) (by rw [HBB.out, hin]))
            go_wp2
            refine bodyPost_ret (v := .tuple #[.slice none 0 0, .bool false]) (by simp [results, Try.results22, go_sem]) rfl ?_
            rw [HR.out]
            exact ⟨none, 0, 0, rfl, OwnI.nil _ _, HX0.out.trans HX4.out⟩
          | true =>
            have hrx : Res p xs ∧ xs.length = D := by
              have h := HBx.out
              unfold elB at h
              simp only [Bool.and_eq_true, decide_eq_true_eq] at h
              exact ⟨resB_true.1 h.2, by omega⟩
            have hry : Res p ys ∧ ys.length = D := by
              have h := HBy.out
              unfold elB at h
              simp only [Bool.and_eq_true, decide_eq_true_eq] at h
              exact ⟨resB_true.1 h.2, by omega⟩
            obtain ⟨hrx, hxl⟩ := hrx
            obtain ⟨hry, hyl⟩ := hry
            obtain rfl : nx = D := by have := HLx.out; omega
            obtain rfl : ny = nx := by have := HLy.out; omega
            have hNd : N = ny * ny * ny := by
              have hl2 := HT.out.len
              have h : (N : Int) = ((ny * ny * ny : Nat) : Int) := by rw [← hl2, hl]; simp
              omega
            obtain ⟨j2, j12, j24⟩ := prime_12I hp h5
            have HInv : Hid (∀ v, 1 ≤ v → v < p → ∀ w', Calls Try.prog 83 #[.int .i64 v, .int .i64 p] w' fun e w'' => e = .returned (.int .i64 (invP v p)) ∧ Ext w' w'') := by
              intro v h1 h2 w'
              obtain ⟨q, rfl⟩ := Int.eq_ofNat_of_zero_le (show 0 ≤ p by omega)
              obtain ⟨u, rfl⟩ := Int.eq_ofNat_of_zero_le (show 0 ≤ v by omega)
              exact inverse_any u q w' hp (by omega) (by omega)
            have HV2 := hidP (invP_bnd hp (x := 2) (by omega) (by omega))
            have HV12 := hidP (invP_bnd hp (x := 12 % p) j12 (Int.emod_lt_of_pos _ (by omega)))
            have HV24 := hidP (invP_bnd hp (x := 24 % p) j24 (Int.emod_lt_of_pos _ (by omega)))
            have HI2 := hidP (HInv.out 2 (by omega) (by omega))
            have HI12 := hidP (HInv.out (12 % p) j12 (Int.emod_lt_of_pos _ (by omega)))
            have HI24 := hidP (HInv.out (24 % p) j24 (Int.emod_lt_of_pos _ (by omega)))
            have t12 : Int.tmod 12 p = 12 % p := Int.tmod_eq_emod_of_nonneg (by omega)
            have t24 : Int.tmod 24 p = 24 % p := Int.tmod_eq_emod_of_nonneg (by omega)
            have hpz : ¬ p = 0 := by omega
            have hres : bchRes p ny t xs ys = (bchI p (invP 2 p) (invP (12 % p) p) (invP (24 % p) p) xs ys (brL p t ny xs ys) (brL p t ny xs (brL p t ny xs ys)) (brL p t ny ys (brL p t ny ys xs)) (brL p t ny ys (brL p t ny xs (brL p t ny xs ys))), true) := by
              unfold bchRes
              rw [HBB.out, hin, if_pos rfl]
              rfl
            have HRes := hidP hres
            have HN1 := hidP hNd
            clear hres j2 j12 j24 HInv hNd
            generalize invP 2 p = i2 at *
            generalize invP (12 % p) p = i12 at *
            generalize invP (24 % p) p = i24 at *
            have HRb := hidP (fun u v => brL_res (p := p) (by omega) t ny u v)
            have HRx := hidP hrx
            have HRy := hidP hry
            have HRt := hidP hr
            have hpp : 0 < p := by omega
            clear hr hl hrx hry hin HBB HBa HBx HBy
            have HBr := hidP (fun au av cu cv u v w' (hx : Ext wb w') (hu : IntsAt w' au ny u) (hv : IntsAt w' av ny v) (ru : Res p u) (rv : Res p v) => bracket_any p ny a N c t au av cu cv u v w' (by omega) HN1.out hnc hc2 (HT.out.below hx) hu hv (by omega) p7 HRt.out ru rv)
            have HNl := hidP (newLie_any p ny a N c w4)
            go_wp2_with fail
            refine HNl.out.mono ?_
            rintro e w5 ⟨rfl, hx5⟩
            have HX5 := hidP (HX4.out.trans hx5)
            clear hx5 HNl f0 f1 f2
            have hx6 := Ext.alloc w5 (.cells #[.int .i64 p, .int .i64 (ny : Int), .slice a N c] 91)
            have HLi := hidP (AlgAt.new w5 _ rfl p ny a N c 91)
            have HX6 := hidP (HX5.out.trans hx6)
            obtain ⟨f0, f1, f2⟩ := HF.out _ HX6.out
            obtain ⟨g0, g1, g2⟩ := HLi.out
            clear hx6
            go_wp2_with fail
            clear f0 f1 f2 g0 g1 g2
            obtain ⟨w6, hw6⟩ : ∃ w6, w6 = w5.alloc (.cells #[.int .i64 p, .int .i64 (ny : Int), .slice a N c] 91) := ⟨_, rfl⟩
            rw [← hw6] at HLi HX6 ⊢
            clear hw6
            obtain ⟨b8, hb8⟩ : ∃ b8, b8 = w5.heap.size := ⟨_, rfl⟩
            rw [← hb8] at HLi ⊢
            clear hb8
            refine (HBr.out _ _ _ _ _ _ _ HX6.out (HXs.out.below HX6.out) (HYs.out.below HX6.out) HRx.out HRy.out).mono ?_
            rintro e w7 ⟨b1, rfl, ho1, hx7⟩
            have HX7 := hidP (HX6.out.trans hx7)
            have HLi7 := hidP (HLi.out.below hx7)
            have HO1 := hidP ho1
            have HR1 := hidP (HRb.out xs ys)
            generalize brL p t ny xs ys = xy at *
            clear ho1 hx7
            obtain ⟨f0, f1, f2⟩ := HF.out _ HX7.out
            obtain ⟨g0, g1, g2⟩ := HLi7.out
            go_wp2_with fail
            clear f0 f1 f2 g0 g1 g2
            refine (HBr.out _ _ _ _ _ _ _ HX7.out (HXs.out.below HX7.out) HO1.out.ints HRx.out HR1.out).mono ?_
            rintro e w8 ⟨b2, rfl, ho2, hx8⟩
            have HX8 := hidP (HX7.out.trans hx8)
            have HLi8 := hidP (HLi7.out.below hx8)
            have HO1' := hidP (HO1.out.below hx8)
            have HO2 := hidP ho2
            have HR2 := hidP (HRb.out xs xy)
            generalize brL p t ny xs xy = xxy at *
            clear ho2 hx8 HO1 HLi7 HLi
            have HCl2 := hidP (clone_any ax ny cx xs w8 (HXs.out.below HX8.out) hnil (by omega))
            go_wp2_with fail
            refine HCl2.out.mono ?_
            rintro e w9 ⟨bo, co, rfl, ho9, hx9⟩
            have HO := hidP ho9
            have HE := hidP hx9
            have HFF : Hid (∀ w', Ext w8 w' → w'.cell? ⟨w.heap.size, 0, none⟩ = some (.int .i64 p) ∧ w'.cell? ⟨b8, 0, none⟩ = some (.int .i64 p) ∧ w'.cell? ⟨b8, 1, none⟩ = some (.int .i64 (ny : Int)) ∧ w'.cell? ⟨b8, 2, none⟩ = some (.slice a N c)) := fun w' hx => ⟨(HF.out w' (HX8.out.trans hx)).1, (HLi8.out.below hx).c0, (HLi8.out.below hx).c1, (HLi8.out.below hx).c2⟩
            clear ho9 hx9 HCl2
            -- what a sum into the result does
            have HAd : Hid (∀ (v : Int) (ab : Option Addr) (cb : Nat) (u X : List Int) (w' : World), Ext w8 w' → OwnI w' w8.heap.size bo ny co X → Res p X → IntsAt w8 ab ny u → (∀ b o, ab = some ⟨b, o, none⟩ → b < w8.heap.size) → Res p u → 0 ≤ v → v ≤ p →
                Calls Try.prog 66 #[.slice bo ny co, .int .i64 v, .slice ab ny cb, .int .i64 p] w' fun e w'' => e = .returned (.tuple #[]) ∧ OwnI w'' w8.heap.size bo ny co (addL p X v u) ∧ Ext w8 w'') := by
              intro v ab cb u X w' hx hX rX hu hub ru v0 v1
              refine (addTo_any bo ab ny co cb X u v p w' hX.ints (hu.below hx) (fun i b o hi e => hX.unfrozen i b o hi e) (fun b o b' o' e e' => by
                have h1 := (hX.at_base b o e).1
                have h2 := hub b' o' e'
                omega) (by omega) (fun j hj => by have := rX j (by have := hX.len; omega); omega) (fun j hj => by have := ru j (by have := hu.len; omega); omega) v0 (by omega) (by omega) (by omega)).mono ?_
              rintro e w'' ⟨rfl, hU⟩
              exact ⟨rfl, hU.own hX, hU.below hx hx.size (fun b o e _ => (hX.at_base b o e).1)⟩
            have HYa := hidP ((HYs.out.below HX8.out))
            have HYb : Hid (∀ b o, ay = some ⟨b, o, none⟩ → b < w8.heap.size) := fun b o e => by
              have := hay b o e
              have := HX0.out.size
              have := HX8.out.size
              omega
            have HXYb : Hid (∀ b o, b1 = some ⟨b, o, none⟩ → b < w8.heap.size) := fun b o e => (HO1'.out.at_base b o e).2
            have HXXb : Hid (∀ b o, b2 = some ⟨b, o, none⟩ → b < w8.heap.size) := fun b o e => (HO2.out.at_base b o e).2
            obtain ⟨f0, g0, g1, g2⟩ := HFF.out _ HE.out
            go_wp2_with fail
            refine (HAd.out 1 _ _ _ _ _ HE.out HO.out HRx.out HYa.out HYb.out HRy.out (by omega) (by omega)).mono ?_
            rintro e w10 ⟨rfl, ho10, hx10⟩
            have HO10 := hidP ho10
            have HE10 := hidP hx10
            have HRs := hidP (addL_res hpp xs 1 ys)
            clear ho10 hx10 HO HE f0 g0 g1 g2
            have HU : Hid (bchI p i2 i12 i24 xs ys xy xxy (brL p t ny ys (brL p t ny ys xs)) (brL p t ny ys xxy) = addL p (addL p (addL p (addL p (addL p xs 1 ys) i2 xy) i12 xxy) i12 (brL p t ny ys (brL p t ny ys xs))) (p - i24) (brL p t ny ys xxy)) := rfl
            generalize addL p xs 1 ys = s1 at *
            go_wp2
            have hE : Ext w8 w10.drew := HE10.out.trans (Ext.drew w10)
            (refine walkR_start (fun w' => Ext w8 w') 8 (by kernel_rfl) ?_; simp only [numbered, List.take_succ_cons, List.take_zero, Nat.zero_add, Nat.reduceAdd, List.length_cons, List.length_nil])
            (repeat (first | (refine walkR_still (v := ?_) rfl (by decide +kernel) rfl (fun _ _ _ h => h) hE ?_ ?_; rotate_left; (focus (intro w' hw'; obtain ⟨f0, g0, g1, g2⟩ := HFF.out w' hw'; go_simp; all_goals (with_reducible rfl))); simp only [Act.put, List.setIfInBounds_toArray, List.set_cons_zero, List.set_cons_succ]) | (refine walkR_skip rfl (by decide +kernel) rfl (fun _ _ _ h => h) hE ?_; simp only [Act.put, List.setIfInBounds_toArray, List.set_cons_zero, List.set_cons_succ])))
            (refine walkR_later ?_; simp only [List.cons_append, List.nil_append])
            (repeat (first | (refine walkR_still (v := ?_) rfl (by decide +kernel) rfl (fun _ _ _ h => h) hE ?_ ?_; rotate_left; (focus (intro w' hw'; obtain ⟨f0, g0, g1, g2⟩ := HFF.out w' hw'; go_simp; all_goals (with_reducible rfl))); simp only [Act.put, List.setIfInBounds_toArray, List.set_cons_zero, List.set_cons_succ]) | (refine walkR_skip rfl (by decide +kernel) rfl (fun _ _ _ h => h) hE ?_; simp only [Act.put, List.setIfInBounds_toArray, List.set_cons_zero, List.set_cons_succ])))
            (refine walkR_later ?_; simp only [List.cons_append, List.nil_append])
            (refine walkR_only (fun w' => Ext w8 w') rfl (by decide +kernel) rfl (fun _ h => h) ?_; intro K hK; go_simp; refine (HI2.out _).mono ?_; rintro e w11 ⟨rfl, hx11⟩; refine hK _ _ (hE.trans hx11) ?_; clear hK K; (try simp only [Act.put, List.setIfInBounds_toArray, List.set_cons_zero, List.set_cons_succ]))
            have hE11 := hE.trans hx11
            (refine walkR_only (fun w' => Ext w8 w') rfl (by decide +kernel) rfl (fun _ h => h) ?_; intro K hK; go_simp; refine (HAd.out i2 b1 ny xy s1 w11 hE11 ((HO10.out.below (Ext.drew w10)).below hx11) HRs.out HO1'.out.ints HXYb.out HR1.out HV2.out.1 (Int.le_of_lt HV2.out.2)).mono ?_; rintro e w12 ⟨rfl, ho12, hx12⟩; refine hK _ _ (hx12) ?_; clear hK K; (try simp only [Act.put, List.setIfInBounds_toArray, List.set_cons_zero, List.set_cons_succ]))
            have HO12 := hidP ho12
            have HE12 := hidP hx12
            have HRs2 := hidP (addL_res hpp s1 i2 xy)
            generalize addL p s1 i2 xy = s2 at *
            clear ho12 hx12 hx11 hE hE11 HO10 HRs
            (refine walkR_tail (by rfl) (by kernel_rfl) ?_; simp only [List.drop_succ_cons, List.drop_zero])
            go_wp2
            have hE : Ext w8 w12.drew := HE12.out.trans (Ext.drew w12)
            (refine walkR_start (fun w' => Ext w8 w') 6 (by kernel_rfl) ?_; simp only [numbered, List.take_succ_cons, List.take_zero, Nat.zero_add, Nat.reduceAdd, List.length_cons, List.length_nil])
            (repeat (first | (refine walkR_still (v := ?_) rfl (by decide +kernel) rfl (fun _ _ _ h => h) hE ?_ ?_; rotate_left; (focus (intro w' hw'; obtain ⟨f0, g0, g1, g2⟩ := HFF.out w' hw'; go_simp; all_goals (with_reducible rfl))); simp only [Act.put, List.setIfInBounds_toArray, List.set_cons_zero, List.set_cons_succ]) | (refine walkR_skip rfl (by decide +kernel) rfl (fun _ _ _ h => h) hE ?_; simp only [Act.put, List.setIfInBounds_toArray, List.set_cons_zero, List.set_cons_succ])))
            (refine walkR_only (fun w' => Ext w8 w') rfl (by decide +kernel) rfl (fun _ h => h) ?_; intro K hK; go_simp; refine (HI12.out _).mono ?_; rintro e w13 ⟨rfl, hx13⟩; refine hK _ _ (hE.trans hx13) ?_; clear hK K; (try simp only [Act.put, List.setIfInBounds_toArray, List.set_cons_zero, List.set_cons_succ]))
            have HE13 := hidP (hE.trans hx13)
            have HO13 := hidP ((HO12.out.below (Ext.drew w12)).below hx13)
            clear hx13 hE HO12 HE12
            (refine walkR_tail (by rfl) (by kernel_rfl) ?_; simp only [List.drop_succ_cons, List.drop_zero])
            obtain ⟨f0, g0, g1, g2⟩ := HFF.out _ HE13.out
            go_wp2_with fail
            refine (HAd.out i12 _ _ _ _ _ HE13.out HO13.out HRs2.out HO2.out.ints HXXb.out HR2.out HV12.out.1 (Int.le_of_lt HV12.out.2)).mono ?_
            rintro e w14 ⟨rfl, ho14, hx14⟩
            have HO14 := hidP ho14
            have HE14 := hidP hx14
            have HRs3 := hidP (addL_res hpp s2 i12 xxy)
            generalize addL p s2 i12 xxy = s3 at *
            clear ho14 hx14 HO13 HE13 HRs2 f0 g0 g1 g2
            go_wp2
            have hE : Ext w8 w14.drew := HE14.out.trans (Ext.drew w14)
            (refine walkR_start (fun w' => Ext w8 w') 12 (by kernel_rfl) ?_; simp only [numbered, List.take_succ_cons, List.take_zero, Nat.zero_add, Nat.reduceAdd, List.length_cons, List.length_nil])
            (repeat (first | (refine walkR_still (v := ?_) rfl (by decide +kernel) rfl (fun _ _ _ h => h) hE ?_ ?_; rotate_left; (focus (intro w' hw'; obtain ⟨f0, g0, g1, g2⟩ := HFF.out w' hw'; go_simp; all_goals (with_reducible rfl))); simp only [Act.put, List.setIfInBounds_toArray, List.set_cons_zero, List.set_cons_succ]) | (refine walkR_skip rfl (by decide +kernel) rfl (fun _ _ _ h => h) hE ?_; simp only [Act.put, List.setIfInBounds_toArray, List.set_cons_zero, List.set_cons_succ])))
            (refine walkR_later ?_; simp only [List.cons_append, List.nil_append]); (refine walkR_later ?_; simp only [List.cons_append, List.nil_append])
            (repeat (first | (refine walkR_still (v := ?_) rfl (by decide +kernel) rfl (fun _ _ _ h => h) hE ?_ ?_; rotate_left; (focus (intro w' hw'; obtain ⟨f0, g0, g1, g2⟩ := HFF.out w' hw'; go_simp; all_goals (with_reducible rfl))); simp only [Act.put, List.setIfInBounds_toArray, List.set_cons_zero, List.set_cons_succ]) | (refine walkR_skip rfl (by decide +kernel) rfl (fun _ _ _ h => h) hE ?_; simp only [Act.put, List.setIfInBounds_toArray, List.set_cons_zero, List.set_cons_succ])))
            (refine walkR_later ?_; simp only [List.cons_append, List.nil_append])
            (refine walkR_only (fun w' => Ext w8 w') rfl (by decide +kernel) rfl (fun _ h => h) ?_; intro K hK; go_simp; refine (HBr.out _ _ _ _ _ _ _ (HX8.out.trans hE) (HYa.out.below hE) ((HXs.out.below HX8.out).below hE) HRy.out HRx.out).mono ?_; rintro e w15 ⟨b3, rfl, ho15, hx15⟩; refine hK _ _ (hE.trans hx15) ?_; clear hK K; (try simp only [Act.put, List.setIfInBounds_toArray, List.set_cons_zero, List.set_cons_succ]))
            have hE15 := hE.trans hx15
            (refine walkR_only (fun w' => Ext w8 w') rfl (by decide +kernel) rfl (fun _ h => h) ?_; intro K hK; go_simp; refine (HBr.out _ _ _ _ _ _ _ (HX8.out.trans hE15) (HYa.out.below hE15) ho15.ints HRy.out (HRb.out _ _)).mono ?_; rintro e w16 ⟨b4, rfl, ho16, hx16⟩; refine hK _ _ (hE15.trans hx16) ?_; clear hK K; (try simp only [Act.put, List.setIfInBounds_toArray, List.set_cons_zero, List.set_cons_succ]))
            have hE16 := hE15.trans hx16
            have ho14 := ((HO14.out.below (Ext.drew w14)).below hx15).below hx16
            have HAd2 := hidP (addTo_any bo b4 ny co ny s3 (brL p t ny ys (brL p t ny ys xs)) i12 p w16 ho14.ints ho16.ints (fun i b o hi e => ho14.unfrozen i b o hi e) (fun b o b' o' e e' => by
              have h1 := (HO14.out.at_base b o e).2
              have h2 := (ho16.at_base b' o' e').1
              have h3 := hx15.size
              have h4 : w14.drew.heap.size = w14.heap.size := rfl
              omega) (by omega) (fun j hj => by have := HRs3.out j (by have := ho14.len; omega); omega) (fun j hj => by have := HRb.out ys (brL p t ny ys xs) j (by rw [brL_length]; exact hj); omega) HV12.out.1 (by have := HV12.out.2; omega) (by omega) (by omega))
            (refine walkR_only (fun w' => Ext w8 w') rfl (by decide +kernel) rfl (fun _ h => h) ?_; intro K hK; go_simp; refine (HAd2.out).mono ?_; rintro e w17 ⟨rfl, hu17⟩; refine hK _ _ (hu17.below hE16 hE16.size (fun b o e _ => (ho14.at_base b o e).1)) ?_; clear hK K; (try simp only [Act.put, List.setIfInBounds_toArray, List.set_cons_zero, List.set_cons_succ]))
            have HO17 := hidP (hu17.own ho14)
            have HE17 : Hid (Ext w8 w17) := hu17.below hE16 hE16.size (fun b o e _ => (ho14.at_base b o e).1)
            have HRs4 := hidP (addL_res hpp s3 i12 (brL p t ny ys (brL p t ny ys xs)))
            generalize addL p s3 i12 (brL p t ny ys (brL p t ny ys xs)) = s4 at *
            clear ho14 ho15 ho16 hu17 hx15 hx16 hE hE15 hE16 HAd2 HO14 HE14 HRs3
            (refine walkR_tail (by rfl) (by kernel_rfl) ?_; simp only [List.drop_succ_cons, List.drop_zero])
            go_wp2
            have hE : Ext w8 w17.drew := HE17.out.trans (Ext.drew w17)
            have hsub : IntKind.i64.wrap (p - i24) = p - i24 := wrap_in (by have := HV24.out; omega) (by have := HV24.out; omega)
            (refine walkR_start (fun w' => Ext w8 w') 17 (by kernel_rfl) ?_; simp only [numbered, List.take_succ_cons, List.take_zero, Nat.zero_add, Nat.reduceAdd, List.length_cons, List.length_nil])
            (repeat (first | (refine walkR_still (v := ?_) rfl (by decide +kernel) rfl (fun _ _ _ h => h) hE ?_ ?_; rotate_left; (focus (intro w' hw'; obtain ⟨f0, g0, g1, g2⟩ := HFF.out w' hw'; go_simp; all_goals (with_reducible rfl))); simp only [Act.put, List.setIfInBounds_toArray, List.set_cons_zero, List.set_cons_succ]) | (refine walkR_skip rfl (by decide +kernel) rfl (fun _ _ _ h => h) hE ?_; simp only [Act.put, List.setIfInBounds_toArray, List.set_cons_zero, List.set_cons_succ])))
            (refine walkR_later ?_; simp only [List.cons_append, List.nil_append]); (refine walkR_later ?_; simp only [List.cons_append, List.nil_append])
            (repeat (first | (refine walkR_still (v := ?_) rfl (by decide +kernel) rfl (fun _ _ _ h => h) hE ?_ ?_; rotate_left; (focus (intro w' hw'; obtain ⟨f0, g0, g1, g2⟩ := HFF.out w' hw'; go_simp; all_goals (with_reducible rfl))); simp only [Act.put, List.setIfInBounds_toArray, List.set_cons_zero, List.set_cons_succ]) | (refine walkR_skip rfl (by decide +kernel) rfl (fun _ _ _ h => h) hE ?_; simp only [Act.put, List.setIfInBounds_toArray, List.set_cons_zero, List.set_cons_succ])))
            (refine walkR_later ?_; simp only [List.cons_append, List.nil_append])
            (repeat (first | (refine walkR_still (v := ?_) rfl (by decide +kernel) rfl (fun _ _ _ h => h) hE ?_ ?_; rotate_left; (focus (intro w' hw'; obtain ⟨f0, g0, g1, g2⟩ := HFF.out w' hw'; go_simp; all_goals (with_reducible rfl))); simp only [Act.put, List.setIfInBounds_toArray, List.set_cons_zero, List.set_cons_succ]) | (refine walkR_skip rfl (by decide +kernel) rfl (fun _ _ _ h => h) hE ?_; simp only [Act.put, List.setIfInBounds_toArray, List.set_cons_zero, List.set_cons_succ])))
            (refine walkR_later ?_; simp only [List.cons_append, List.nil_append])
            (refine walkR_only (fun w' => Ext w8 w') rfl (by decide +kernel) rfl (fun _ h => h) ?_; intro K hK; go_simp; refine (HI24.out _).mono ?_; rintro e w18 ⟨rfl, hx18⟩; refine hK _ _ (hE.trans hx18) ?_; clear hK K; (try simp only [Act.put, List.setIfInBounds_toArray, List.set_cons_zero, List.set_cons_succ]))
            have hE18 := hE.trans hx18
            (repeat (first | (refine walkR_still (v := ?_) rfl (by decide +kernel) rfl (fun _ _ _ h => h) hE18 ?_ ?_; rotate_left; (focus (intro w' hw'; skip; go_simp; all_goals (with_reducible rfl))); simp only [Act.put, List.setIfInBounds_toArray, List.set_cons_zero, List.set_cons_succ]) | (refine walkR_skip rfl (by decide +kernel) rfl (fun _ _ _ h => h) hE18 ?_; simp only [Act.put, List.setIfInBounds_toArray, List.set_cons_zero, List.set_cons_succ])))
            (refine walkR_only (fun w' => Ext w8 w') rfl (by decide +kernel) rfl (fun _ h => h) ?_; intro K hK; go_simp; refine (HBr.out _ _ _ _ _ _ _ (HX8.out.trans hE18) (HYa.out.below hE18) ((HO2.out.below hE18).ints) HRy.out HR2.out).mono ?_; rintro e w19 ⟨b5, rfl, ho19, hx19⟩; refine hK _ _ (hE18.trans hx19) ?_; clear hK K; (try simp only [Act.put, List.setIfInBounds_toArray, List.set_cons_zero, List.set_cons_succ]))
            have hE19 := hE18.trans hx19
            have ho17 := ((HO17.out.below (Ext.drew w17)).below hx18).below hx19
            have HAd2 := hidP (addTo_any bo b5 ny co ny s4 (brL p t ny ys xxy) (p - i24) p w19 ho17.ints ho19.ints (fun i b o hi e => ho17.unfrozen i b o hi e) (fun b o b' o' e e' => by
              have h1 := (HO17.out.at_base b o e).2
              have h2 := (ho19.at_base b' o' e').1
              have h3 := hx18.size
              have h4 : w17.drew.heap.size = w17.heap.size := rfl
              omega) (by omega) (fun j hj => by have := HRs4.out j (by have := ho17.len; omega); omega) (fun j hj => by have := HRb.out ys xxy j (by rw [brL_length]; exact hj); omega) (by have := HV24.out; omega) (by have := HV24.out; omega) (by omega) (by omega))
            (refine walkR_only (fun w' => Ext w8 w') rfl (by decide +kernel) rfl (fun _ h => h) ?_; intro K hK; go_simp; refine (HAd2.out).mono ?_; rintro e w20 ⟨rfl, hu20⟩; refine hK _ _ (hu20.below hE19 hE19.size (fun b o e _ => (ho17.at_base b o e).1)) ?_; clear hK K; (try simp only [Act.put, List.setIfInBounds_toArray, List.set_cons_zero, List.set_cons_succ]))
            have HO20 := hidP (hu20.own ho17)
            have HE20 : Hid (Ext w8 w20) := hu20.below hE19 hE19.size (fun b o e _ => (ho17.at_base b o e).1)
            clear ho17 ho19 hu20 hx18 hx19 hE hE18 hE19 HAd2 HO17 HE17 HRs4
            (refine walkR_tail (by rfl) (by kernel_rfl) ?_; simp only [List.drop_succ_cons, List.drop_zero])
            go_wp2
            refine bodyPost_ret (v := .tuple #[.slice bo ny co, .bool true]) (by simp [results, Try.results22, go_sem]) rfl ?_
            rw [HRes.out, HU.out]
            exact ⟨bo, ny, co, rfl, HO20.out.base (by have := HX0.out.size; have := HX8.out.size; omega), (HX0.out.trans HX8.out).trans HE20.out⟩
        · have HR := hidP (bchRes_no (p := p) (d := d) (t := t) (xs := xs) (ys := ys) (by unfold bchB; rw [decide_eq_false h5, Bool.and_false]; rfl))
          go_wp2
          refine bodyPost_ret (v := .tuple #[.slice none 0 0, .bool false]) (by simp [results, Try.results22, go_sem]) rfl ?_
          rw [HR.out]
          exact ⟨none, 0, 0, rfl, OwnI.nil _ _, HX0.out.trans HX3.out⟩
end Go.Proofs.Ytenlhfimdpcaoaa

namespace Go.Proofs.Ytenlhfimdpcaoaa
open Go.RowKit

/-- w' is w but for new blocks and for blocks from B on below U -/
structure UpdB (w w' : World) (B U : Nat) : Prop where
  os : w'.os = w.os
  tape : w'.tape = w.tape
  output : w'.output = w.output
  size : w.heap.size ≤ w'.heap.size
  other : ∀ k, k < w.heap.size → (k < B ∨ U ≤ k) → w'.heap[k]? = w.heap[k]?
theorem UpdI.updB {w w' : World} {a : Option Addr} {n B U : Nat} {ys : List Int} (h : UpdI w w' a n ys) (ha : ∀ b o, a = some ⟨b, o, none⟩ → B ≤ b ∧ b < U) : UpdB w w' B U :=
  ⟨h.os, h.tape, h.output, h.size, fun j hj hb => h.other j hj fun b o e _ => by have := ha b o e; omega⟩
theorem UpdB.below {w0 w w' : World} {N B U : Nat} (h : UpdB w w' B U) (hb : Below N w0 w) (hN : N ≤ w.heap.size) (hB : N ≤ B) : Below N w0 w' :=
  hb.trans ⟨h.os, h.tape, h.output, h.size, fun k hk => h.other k (by omega) (.inl (by omega))⟩
theorem OwnI.updB {w w' : World} {B' B U n c : Nat} {a : Option Addr} {xs : List Int} (h : OwnI w B' a n c xs) (hu : UpdB w w' B U) (ha : ∀ b o, a = some ⟨b, o, none⟩ → b < B ∨ U ≤ b) : OwnI w' B' a n c xs := by
  refine ⟨h.row.1, ?_⟩
  rcases h.row.2 with h2 | ⟨g, cap, cur, he, hB, hg, r⟩
  · exact .inl h2
  · refine .inr ⟨g, cap, cur, he, hB, ?_, r⟩
    simp only [Value.slice.injEq] at he
    rw [hu.other g (Array.getElem?_eq_some_iff.1 hg).1 (ha g 0 he.1)]
    exact hg
end Go.Proofs.Ytenlhfimdpcaoaa

namespace Go.Proofs.Ytenlhfimdpcaoaa.fnExactBchOf
open Go.ChangeShapes Go.WideShapes Go.ChangeAt Go.RowKit
set_option linter.unusedVariables false

theorem ownI_hi {w w' : World} {B' B U n c : Nat} {a : Option Addr} {xs : List Int} (h : OwnI w B' a n c xs) (hu : UpdB w w' B U) (hB : U ≤ B') : OwnI w' B' a n c xs :=
  h.updB hu fun b o e => .inr (Nat.le_trans hB (h.at_base b o e).1)
theorem ownI_lo {w w' : World} {B' B U n c : Nat} {a : Option Addr} {xs : List Int} (h : OwnI w B' a n c xs) (hu : UpdB w w' B U) (ha : ∀ b o, a = some ⟨b, o, none⟩ → b < B) : OwnI w' B' a n c xs :=
  h.updB hu fun b o e => .inl (ha b o e)

set_option maxRecDepth 100000 in
set_option maxHeartbeats 8000000 in
/-- The Go text returns true, and leaves what was there. -/
theorem walk (p d : Int) (ta : Option Addr) (tn tc : Nat) (ts : List Int) (a1 : Option Addr) (n1 c1 : Nat) (xs1 : List Int) (a2 : Option Addr) (n2 c2 : Nat) (xs2 : List Int) (w : World) (hc : IntsAt w ta tn ts) (h1 : IntsAt w a1 n1 xs1) (h2 : IntsAt w a2 n2 xs2) (hcn : tn ≤ 9223372036854775807) (hn1 : n1 ≤ 9223372036854775807) (hn2 : n2 ≤ 9223372036854775807) :
    Calls Try.prog 6 #[algV p d ta tn tc, .slice a1 n1 c1, .slice a2 n2 c2] w fun e w' => e = .returned (.bool true) ∧ Ext w w' := by
  have hx0 := Ext.alloc w (.cells #[.int .i64 p, .int .i64 d, .slice ta tn tc] 51)
  have HF := hidP (fun w' (hx : Ext (w.alloc (.cells #[.int .i64 p, .int .i64 d, .slice ta tn tc] 51)) w') => (AlgAt.new w _ rfl p d ta tn tc 51).below hx)
  have X := hidP hx0
  have HT := hidP hc
  have HU1 := hidP h1
  have HU2 := hidP h2
  clear hc h1 h2 hx0
  have hz0 : w.heap.size < (w.alloc (.cells #[.int .i64 p, .int .i64 d, .slice ta tn tc] 51)).heap.size := by simp
  obtain ⟨⟨J2, J1⟩, hJ⟩ : ∃ J, J = bchRes p d ts xs1 xs2 := ⟨_, rfl⟩
  have HJ := hidP hJ
  clear hJ
  obtain ⟨w0, hw0⟩ : ∃ w0, w0 = w.alloc (.cells #[.int .i64 p, .int .i64 d, .slice ta tn tc] 51) := ⟨_, rfl⟩
  rw [← hw0] at X HF hz0
  have Hz0 := hidP hz0
  clear hz0
  have HSC := hidP (fun w' => szAlgebra_any p d ta tn tc 1048576 w' hcn (by omega) (by omega))
  obtain ⟨f0, f1, f2⟩ := HF.out w0 (Ext.refl _)
  go_enter Try.func6, Try.ntmps6
  by_cases hi1 : (n1 : Int) ≤ 1048576
  rotate_left
  · have hi1n : 1048576 < (n1 : Int) := by omega
    go_wp2
    go_ret
    exact ⟨rfl, Ext.alloc _ _⟩
  have hi1n : ¬ (1048576 < (n1 : Int)) := by omega
  have hi1m : n1 ≤ 1048576 := by omega
  by_cases hi2 : (n2 : Int) ≤ 1048576
  rotate_left
  · have hi2n : 1048576 < (n2 : Int) := by omega
    go_wp2
    go_ret
    exact ⟨rfl, Ext.alloc _ _⟩
  have hi2n : ¬ (1048576 < (n2 : Int)) := by omega
  have hi2m : n2 ≤ 1048576 := by omega
  by_cases hle : (tn : Int) ≤ 1048576
  · have HE : Hid (szLeft tn 1048576 = 1048576 - tn) := if_pos hle
    rw [HE.out] at HSC
    have hng : ¬ (1048576 - (tn : Int) < 0) := by omega
    go_wp2_with fail
    rw [← hw0]
    clear hw0
    refine (HSC.out _).mono ?_
    rintro e w1 ⟨rfl, hx⟩
    have Xw0 : Hid (Ext w0 w0) := hidP (Ext.refl w0)
    clear HSC f0 f1 f2
    have Xw1 := hidP (Xw0.out.trans hx)
    have Zw1 : Hid (w0.heap.size ≤ w1.heap.size) := hx.size
    clear hx
    have htn : tn ≤ 1048576 := by omega
    have HTC := hidP (fun w' (hx : Ext w w') => toAlgebra_any p d ta tn tc ts w' (HT.out.below hx) htn)
    have HTS1 := hidP (fun w' (hx : Ext w w') => toIntS_any a1 n1 c1 xs1 w' (HU1.out.below hx) hi1m)
    have HTS2 := hidP (fun w' (hx : Ext w w') => toIntS_any a2 n2 c2 xs2 w' (HU2.out.below hx) hi2m)
    obtain ⟨f0, f1, f2⟩ := HF.out w1 Xw1.out
    go_wp2_with fail
    refine (HTC.out _ (X.out.trans Xw1.out)).mono ?_
    rintro e w2 ⟨CS, rfl, hC, hx⟩
    clear f0 f1 f2
    have FCS := hidP hC
    clear hC
    have Xw2 := hidP (Xw1.out.trans hx)
    have Zw2 : Hid (w1.heap.size ≤ w2.heap.size) := hx.size
    clear hx
    go_wp2_with fail
    refine (HTS1.out _ (X.out.trans Xw2.out)).mono ?_
    rintro e w3 ⟨PS1, rfl, hP, hx⟩
    have FPS1 := hidP hP
    clear hP
    have Xw3 := hidP (Xw2.out.trans hx)
    have Zw3 : Hid (w2.heap.size ≤ w3.heap.size) := hx.size
    have FCS_w3 := hidP (FCS.out.below hx)
    clear hx
    clear FCS
    go_wp2_with fail
    refine (HTS2.out _ (X.out.trans Xw3.out)).mono ?_
    rintro e w4 ⟨PS2, rfl, hP, hx⟩
    have FPS2 := hidP hP
    clear hP
    have Xw4 := hidP (Xw3.out.trans hx)
    have Zw4 : Hid (w3.heap.size ≤ w4.heap.size) := hx.size
    have FCS_w4 := hidP (FCS_w3.out.below hx)
    have FPS1_w4 := hidP (FPS1.out.below hx)
    clear hx
    clear FCS_w3 FPS1
    have HR := hidP (sBchOf_any p d CS PS1 PS2 tn tn n1 n1 n2 n2 ts xs1 xs2 w4 FCS_w4.out.ints (by omega) (by omega) FPS1_w4.out.ints FPS2.out.ints (by omega) (by omega))
    rw [← HJ.out] at HR
    dsimp only at HR
    go_wp2_with fail
    refine HR.out.mono ?_
    rintro e w5 ⟨aS, nS, cS, rfl, hR, hx⟩
    have LS : Hid (∀ b o, aS = some ⟨b, o, none⟩ → w4.heap.size ≤ b ∧ b < w5.heap.size) := fun b o e => hR.at_base b o e
    clear HR
    have FS := hidP hR
    clear hR
    clear FCS_w4 FPS1_w4 FPS2
    have Xw5 := hidP (Xw4.out.trans hx)
    have Zw5 : Hid (w4.heap.size ≤ w5.heap.size) := hx.size
    clear hx
    obtain ⟨f0, f1, f2⟩ := HF.out w5 Xw5.out
    go_wp2_with fail
    refine (HTC.out _ (X.out.trans Xw5.out)).mono ?_
    rintro e w6 ⟨CX, rfl, hC, hx⟩
    clear f0 f1 f2
    have FCX := hidP hC
    have LCX : Hid (∀ b o, CX = some ⟨b, o, none⟩ → w5.heap.size ≤ b ∧ b < w6.heap.size) := fun b o e => hC.at_base b o e
    clear hC
    have Xw6 := hidP (Xw5.out.trans hx)
    have Zw6 : Hid (w5.heap.size ≤ w6.heap.size) := hx.size
    have FS_w6 := hidP (FS.out.below hx)
    clear hx
    clear FS
    go_wp2_with fail
    have hxa := Ext.alloc w6 (.cells #[.int .i64 p, .int .i64 d, .slice CX tn tn] 24)
    have FB := hidP (AlgAt.new w6 _ rfl p d CX tn tn 24)
    have hzz : w6.heap.size < (w6.alloc (.cells #[.int .i64 p, .int .i64 d, .slice CX tn tn] 24)).heap.size := by simp
    obtain ⟨w7, hww⟩ : ∃ x, x = w6.alloc (.cells #[.int .i64 p, .int .i64 d, .slice CX tn tn] 24) := ⟨_, rfl⟩
    rw [← hww] at hxa FB hzz ⊢
    clear hww
    have Hzz := hidP hzz
    clear hzz
    have Xw7 := hidP (Xw6.out.trans hxa)
    have Zw7 : Hid (w6.heap.size ≤ w7.heap.size) := hxa.size
    have FS_w7 := hidP (FS_w6.out.below hxa)
    have FCX_w7 := hidP (FCX.out.below hxa)
    clear hxa
    clear FS_w6 FCX
    refine (HTS1.out _ (X.out.trans Xw7.out)).mono ?_
    rintro e w8 ⟨PX1, rfl, hP, hx⟩
    have LPX1 : Hid (∀ b o, PX1 = some ⟨b, o, none⟩ → w7.heap.size ≤ b ∧ b < w8.heap.size) := fun b o e => hP.at_base b o e
    have FPX1 := hidP hP
    clear hP
    have Xw8 := hidP (Xw7.out.trans hx)
    have Zw8 : Hid (w7.heap.size ≤ w8.heap.size) := hx.size
    have FS_w8 := hidP (FS_w7.out.below hx)
    have FCX_w8 := hidP (FCX_w7.out.below hx)
    have FB_w8 := hidP (FB.out.below hx)
    clear hx
    clear FS_w7 FCX_w7 FB
    go_wp2_with fail
    refine (HTS2.out _ (X.out.trans Xw8.out)).mono ?_
    rintro e w9 ⟨PX2, rfl, hP, hx⟩
    have LPX2 : Hid (∀ b o, PX2 = some ⟨b, o, none⟩ → w8.heap.size ≤ b ∧ b < w9.heap.size) := fun b o e => hP.at_base b o e
    have FPX2 := hidP hP
    clear hP
    have Xw9 := hidP (Xw8.out.trans hx)
    have Zw9 : Hid (w8.heap.size ≤ w9.heap.size) := hx.size
    have FS_w9 := hidP (FS_w8.out.below hx)
    have FCX_w9 := hidP (FCX_w8.out.below hx)
    have FB_w9 := hidP (FB_w8.out.below hx)
    have FPX1_w9 := hidP (FPX1.out.below hx)
    clear hx
    clear FS_w8 FCX_w8 FB_w8 FPX1
    obtain ⟨y0, y1, y2⟩ := FB_w9.out
    have HR := hidP (bchOf_any p d CX PX1 PX2 tn tn n1 n1 n2 n2 ts xs1 xs2 w9 FCX_w9.out.ints (by omega) (by omega) FPX1_w9.out.ints FPX2.out.ints (by omega) (by omega) FPX1_w9.out.nil_cap (fun b o e => (FPX2.out.at_base b o e).2))
    rw [← HJ.out] at HR
    dsimp only at HR
    go_wp2_with fail
    refine HR.out.mono ?_
    rintro e w10 ⟨aG, nG, cG, rfl, hR, hx⟩
    have LG : Hid (∀ b o, aG = some ⟨b, o, none⟩ → w9.heap.size ≤ b ∧ b < w10.heap.size) := fun b o e => hR.at_base b o e
    clear HR
    have FG := hidP hR
    clear hR
    clear y0 y1 y2
    have Xw10 := hidP (Xw9.out.trans hx)
    have Zw10 : Hid (w9.heap.size ≤ w10.heap.size) := hx.size
    have FS_w10 := hidP (FS_w9.out.below hx)
    have FCX_w10 := hidP (FCX_w9.out.below hx)
    have FB_w10 := hidP (FB_w9.out.below hx)
    have FPX1_w10 := hidP (FPX1_w9.out.below hx)
    have FPX2_w10 := hidP (FPX2.out.below hx)
    clear hx
    clear FS_w9 FCX_w9 FB_w9 FPX1_w9 FPX2
    have hJJ : (J1 != J1) = false := by simp
    have HQ := hidP (eqIntS_any aG aS nG nS cG cS J2 J2 w10 FG.out.ints FS_w10.out.ints (by have := FG.out.caps; omega) (by have := FS_w10.out.caps; omega))
    simp only [beq_self_eq_true] at HQ
    go_wp2_with fail
    refine HQ.out.mono ?_
    rintro e w11 ⟨rfl, m, hd⟩
    have hx : Ext w10 w11 := by rw [hd]; exact Ext.drewN _ _
    clear hd HQ
    have Xw11 := hidP (Xw10.out.trans hx)
    have Zw11 : Hid (w10.heap.size ≤ w11.heap.size) := hx.size
    have FS_w11 := hidP (FS_w10.out.below hx)
    have FCX_w11 := hidP (FCX_w10.out.below hx)
    have FB_w11 := hidP (FB_w10.out.below hx)
    have FPX1_w11 := hidP (FPX1_w10.out.below hx)
    have FPX2_w11 := hidP (FPX2_w10.out.below hx)
    have FG_w11 := hidP (FG.out.below hx)
    clear hx
    clear FS_w10 FCX_w10 FB_w10 FPX1_w10 FPX2_w10 FG
    have hE : Ext w11 w11.drew := Ext.drew w11
    have HTCd := hidP (fun w' (hx : Ext w11 w') => (HTC.out w' ((X.out.trans Xw11.out).trans hx)).mono (fun (e : Ending) (w'' : World) ⟨a', he, ho, hx'⟩ => (⟨a', he, OwnI.base ho hx.size, hx'⟩ : ∃ a', e = Ending.returned (algV p d a' tn tn) ∧ OwnI w'' w11.heap.size a' tn tn ts ∧ Ext w' w'')))
    have HQ := hidP (fun w' (hx : Ext w11 w') (a' : Option Addr) (ho : OwnI w' w11.heap.size a' tn tn ts) => eqAlgebra_any p d p d CX a' tn tn tn tn ts ts w' (FCX_w11.out.below hx).ints ho.ints (by omega) (by omega))
    simp only [and_self, decide_true] at HQ
    go_wp2
    (refine walkR_start (fun w' => Ext w11 w') 5 (by kernel_rfl) ?_; simp only [numbered, List.take_succ_cons, List.take_zero, Nat.zero_add, Nat.reduceAdd, List.length_cons, List.length_nil])
    (repeat (first | (refine walkR_still (v := ?_) rfl (by decide +kernel) rfl (fun _ _ _ h => h) hE ?_ ?_; rotate_left; (focus (intro w' hw'; obtain ⟨f0, f1, f2⟩ := HF.out w' (Xw11.out.trans hw'); obtain ⟨y0, y1, y2⟩ := FB_w11.out.below hw'; go_simp; all_goals (with_reducible rfl))); simp only [Act.put, List.setIfInBounds_toArray, List.set_cons_zero, List.set_cons_succ]) | (refine walkR_skip rfl (by decide +kernel) rfl (fun _ _ _ h => h) hE ?_; simp only [Act.put, List.setIfInBounds_toArray, List.set_cons_zero, List.set_cons_succ])))
    (refine walkR_only (fun w' => Ext w11 w') rfl (by decide +kernel) rfl (fun _ h => h) ?_; intro K hK; go_simp; refine (HTCd.out _ hE).mono ?_; rintro e wd ⟨ad, rfl, hod, hxd⟩; refine hK _ _ (hE.trans hxd) ?_; clear hK K; (try simp only [Act.put, List.setIfInBounds_toArray, List.set_cons_zero, List.set_cons_succ]))
    have hE1 := hE.trans hxd
    have HQ1 := hidP (HQ.out _ hE1 ad hod)
    clear hxd hod
    (refine walkR_only (fun w' => Ext w11 w') rfl (by decide +kernel) rfl (fun _ h => h) ?_; intro K hK; go_simp; refine (HQ1.out).mono ?_; rintro e w12 ⟨rfl, hxd⟩; refine hK _ _ (hE1.trans hxd) ?_; clear hK K; (try simp only [Act.put, List.setIfInBounds_toArray, List.set_cons_zero, List.set_cons_succ]))
    have hx := hE1.trans hxd
    have hxx := hx
    clear hxd hE hE1 HQ HQ1 HTCd
    have Xw12 := hidP (Xw11.out.trans hx)
    have Zw12 : Hid (w11.heap.size ≤ w12.heap.size) := hx.size
    have FS_w12 := hidP (FS_w11.out.below hx)
    have FCX_w12 := hidP (FCX_w11.out.below hx)
    have FB_w12 := hidP (FB_w11.out.below hx)
    have FPX1_w12 := hidP (FPX1_w11.out.below hx)
    have FPX2_w12 := hidP (FPX2_w11.out.below hx)
    have FG_w12 := hidP (FG_w11.out.below hx)
    clear FS_w11 FCX_w11 FB_w11 FPX1_w11 FPX2_w11 FG_w11
    clear hx
    (repeat (first | (refine walkR_still (v := ?_) rfl (by decide +kernel) rfl (fun _ _ _ h => h) hxx ?_ ?_; rotate_left; (focus (intro w' hw'; skip; go_simp; all_goals (with_reducible rfl))); simp only [Act.put, List.setIfInBounds_toArray, List.set_cons_zero, List.set_cons_succ]) | (refine walkR_skip rfl (by decide +kernel) rfl (fun _ _ _ h => h) hxx ?_; simp only [Act.put, List.setIfInBounds_toArray, List.set_cons_zero, List.set_cons_succ])))
    (refine walkR_tail (by rfl) (by kernel_rfl) ?_; simp only [List.drop_succ_cons, List.drop_zero])
    clear hxx
    go_wp2_with fail
    refine (HTS1.out _ (X.out.trans Xw12.out)).mono ?_
    rintro e w13 ⟨gd, rfl, hP, hx⟩
    have FD := hidP hP
    clear hP
    have Xw13 := hidP (Xw12.out.trans hx)
    have Zw13 : Hid (w12.heap.size ≤ w13.heap.size) := hx.size
    have FS_w13 := hidP (FS_w12.out.below hx)
    have FCX_w13 := hidP (FCX_w12.out.below hx)
    have FB_w13 := hidP (FB_w12.out.below hx)
    have FPX1_w13 := hidP (FPX1_w12.out.below hx)
    have FPX2_w13 := hidP (FPX2_w12.out.below hx)
    have FG_w13 := hidP (FG_w12.out.below hx)
    clear hx
    clear FS_w12 FCX_w12 FB_w12 FPX1_w12 FPX2_w12 FG_w12
    have HQ := hidP (eqIntS_any PX1 gd n1 n1 n1 n1 xs1 xs1 w13 FPX1_w13.out.ints FD.out.ints (by omega) (by omega))
    simp only [beq_self_eq_true] at HQ
    go_wp2_with fail
    refine HQ.out.mono ?_
    rintro e w14 ⟨rfl, m, hd⟩
    have hx : Ext w13 w14 := by rw [hd]; exact Ext.drewN _ _
    clear hd HQ FD
    have Xw14 := hidP (Xw13.out.trans hx)
    have Zw14 : Hid (w13.heap.size ≤ w14.heap.size) := hx.size
    have FS_w14 := hidP (FS_w13.out.below hx)
    have FCX_w14 := hidP (FCX_w13.out.below hx)
    have FB_w14 := hidP (FB_w13.out.below hx)
    have FPX1_w14 := hidP (FPX1_w13.out.below hx)
    have FPX2_w14 := hidP (FPX2_w13.out.below hx)
    have FG_w14 := hidP (FG_w13.out.below hx)
    clear hx
    clear FS_w13 FCX_w13 FB_w13 FPX1_w13 FPX2_w13 FG_w13
    go_wp2_with fail
    refine (HTS2.out _ (X.out.trans Xw14.out)).mono ?_
    rintro e w15 ⟨gd, rfl, hP, hx⟩
    have FD := hidP hP
    clear hP
    have Xw15 := hidP (Xw14.out.trans hx)
    have Zw15 : Hid (w14.heap.size ≤ w15.heap.size) := hx.size
    have FS_w15 := hidP (FS_w14.out.below hx)
    have FCX_w15 := hidP (FCX_w14.out.below hx)
    have FB_w15 := hidP (FB_w14.out.below hx)
    have FPX1_w15 := hidP (FPX1_w14.out.below hx)
    have FPX2_w15 := hidP (FPX2_w14.out.below hx)
    have FG_w15 := hidP (FG_w14.out.below hx)
    clear hx
    clear FS_w14 FCX_w14 FB_w14 FPX1_w14 FPX2_w14 FG_w14
    have HQ := hidP (eqIntS_any PX2 gd n2 n2 n2 n2 xs2 xs2 w15 FPX2_w15.out.ints FD.out.ints (by omega) (by omega))
    simp only [beq_self_eq_true] at HQ
    go_wp2_with fail
    refine HQ.out.mono ?_
    rintro e w16 ⟨rfl, m, hd⟩
    have hx : Ext w15 w16 := by rw [hd]; exact Ext.drewN _ _
    clear hd HQ FD
    have Xw16 := hidP (Xw15.out.trans hx)
    have Zw16 : Hid (w15.heap.size ≤ w16.heap.size) := hx.size
    have FS_w16 := hidP (FS_w15.out.below hx)
    have FCX_w16 := hidP (FCX_w15.out.below hx)
    have FB_w16 := hidP (FB_w15.out.below hx)
    have FPX1_w16 := hidP (FPX1_w15.out.below hx)
    have FPX2_w16 := hidP (FPX2_w15.out.below hx)
    have FG_w16 := hidP (FG_w15.out.below hx)
    clear hx
    clear FS_w15 FCX_w15 FB_w15 FPX1_w15 FPX2_w15 FG_w15
    have HZ : Hid (w0.heap.size ≤ w5.heap.size ∧ w5.heap.size ≤ w6.heap.size ∧ w6.heap.size ≤ w7.heap.size ∧ w7.heap.size ≤ w8.heap.size ∧ w8.heap.size ≤ w9.heap.size ∧ w9.heap.size ≤ w10.heap.size) := by
      refine ⟨Xw5.out.size, Zw6.out, Zw7.out, Zw8.out, Zw9.out, Zw10.out⟩
    obtain ⟨y0, y1, y2⟩ := FB_w16.out
    have HMk := hidP (markAlgebra_any p d _ CX tn tn 1 ts w16 FCX_w16.out (by omega) (by omega) (by omega))
    go_wp2_with fail
    refine HMk.out.mono ?_
    rintro e w17 ⟨rfl, hu⟩
    clear HMk y0 y1 y2
    have hub := hu.updB LCX.out
    clear hu
    clear FCX_w16 FB_w16
    have Xw17 : Hid (Ext w0 w17) := hub.below Xw16.out Xw16.out.size (by have hZ := HZ.out; omega)
    have Zw17 : Hid (w16.heap.size ≤ w17.heap.size) := hub.size
    have FS_w17 := hidP (ownI_lo FS_w16.out hub (fun b o e => by have := LS.out b o e; have hZ := HZ.out; omega))
    have FPX1_w17 := hidP (ownI_hi FPX1_w16.out hub (by have hZ := HZ.out; omega))
    have FPX2_w17 := hidP (ownI_hi FPX2_w16.out hub (by have hZ := HZ.out; omega))
    have FG_w17 := hidP (ownI_hi FG_w16.out hub (by have hZ := HZ.out; omega))
    clear hub FS_w16 FPX1_w16 FPX2_w16 FG_w16
    have HMk := hidP (markIntS_any PX1 n1 n1 (1 + (tn : Int)) xs1 w17 FPX1_w17.out.ints FPX1_w17.out.unfrozen (by omega) (by omega) (by omega))
    go_wp2_with fail
    refine HMk.out.mono ?_
    rintro e w18 ⟨rfl, hu⟩
    clear HMk
    have hub := hu.updB LPX1.out
    clear hu
    clear FPX1_w17
    have Xw18 : Hid (Ext w0 w18) := hub.below Xw17.out Xw17.out.size (by have hZ := HZ.out; omega)
    have Zw18 : Hid (w17.heap.size ≤ w18.heap.size) := hub.size
    have FS_w18 := hidP (ownI_lo FS_w17.out hub (fun b o e => by have := LS.out b o e; have hZ := HZ.out; omega))
    have FPX2_w18 := hidP (ownI_hi FPX2_w17.out hub (by have hZ := HZ.out; omega))
    have FG_w18 := hidP (ownI_hi FG_w17.out hub (by have hZ := HZ.out; omega))
    clear hub FS_w17 FPX2_w17 FG_w17
    have HMk := hidP (markIntS_any PX2 n2 n2 ((1 + (tn : Int)) + (n1 : Int)) xs2 w18 FPX2_w18.out.ints FPX2_w18.out.unfrozen (by omega) (by omega) (by omega))
    go_wp2_with fail
    refine HMk.out.mono ?_
    rintro e w19 ⟨rfl, hu⟩
    clear HMk
    have hub := hu.updB LPX2.out
    clear hu
    clear FPX2_w18
    have Xw19 : Hid (Ext w0 w19) := hub.below Xw18.out Xw18.out.size (by have hZ := HZ.out; omega)
    have Zw19 : Hid (w18.heap.size ≤ w19.heap.size) := hub.size
    have FS_w19 := hidP (ownI_lo FS_w18.out hub (fun b o e => by have := LS.out b o e; have hZ := HZ.out; omega))
    have FG_w19 := hidP (ownI_hi FG_w18.out hub (by have hZ := HZ.out; omega))
    clear hub FS_w18 FG_w18
    have hk0 : ¬ ((((1 + (tn : Int)) + (n1 : Int)) + (n2 : Int)) < 0) := by omega
    have HQ := hidP (eqIntS_any aG aS nG nS cG cS J2 J2 w19 FG_w19.out.ints FS_w19.out.ints (by have := FG_w19.out.caps; omega) (by have := FS_w19.out.caps; omega))
    simp only [beq_self_eq_true] at HQ
    go_wp2_with fail
    refine HQ.out.mono ?_
    rintro e w20 ⟨rfl, m, hd⟩
    have hx : Ext w19 w20 := by rw [hd]; exact Ext.drewN _ _
    clear hd HQ
    have Xw20 := hidP (Xw19.out.trans hx)
    have Zw20 : Hid (w19.heap.size ≤ w20.heap.size) := hx.size
    have FS_w20 := hidP (FS_w19.out.below hx)
    have FG_w20 := hidP (FG_w19.out.below hx)
    clear hx
    clear FS_w19 FG_w19
    have hJl : J2.length ≤ 1048576 := by rw [show J2 = (bchRes p d ts xs1 xs2).1 from congrArg Prod.fst HJ.out]; exact bchRes_small p d ts xs1 xs2 (by have := HU1.out.len; omega)
    have hJn : nG ≤ 1048576 := by have h1 := FG_w20.out.len; omega
    clear hJl
    have HMk := hidP (markIntS_any aG nG cG 1 J2 w20 FG_w20.out.ints FG_w20.out.unfrozen (by omega) (by omega) (by omega))
    go_wp2_with fail
    refine HMk.out.mono ?_
    rintro e w21 ⟨rfl, hu⟩
    have FM := hidP (hu.own FG_w20.out)
    clear HMk
    have hub := hu.updB LG.out
    clear hu
    clear FG_w20
    have Xw21 : Hid (Ext w0 w21) := hub.below Xw20.out Xw20.out.size (by have hZ := HZ.out; omega)
    have Zw21 : Hid (w20.heap.size ≤ w21.heap.size) := hub.size
    have FS_w21 := hidP (ownI_lo FS_w20.out hub (fun b o e => by have := LS.out b o e; have hZ := HZ.out; omega))
    clear hub FS_w20
    have hq0 : ¬ ((1 : Int) + (nG : Int) < 0) := by omega
    have hqq : ((1 : Int) + (nG : Int) != 1 + (nG : Int)) = false := by simp
    have HH := hidP (heldIntS_any aG nG cG 1 w21 FM.out.ints (by omega) (by omega) (by omega))
    go_wp2_with fail
    refine HH.out.mono ?_
    rintro e w22 ⟨rfl, m, hd⟩
    have hx : Ext w21 w22 := by rw [hd]; exact Ext.drewN _ _
    clear hd HH
    have Xw22 := hidP (Xw21.out.trans hx)
    have Zw22 : Hid (w21.heap.size ≤ w22.heap.size) := hx.size
    have FS_w22 := hidP (FS_w21.out.below hx)
    have FM_w22 := hidP (FM.out.below hx)
    clear hx
    clear FS_w21 FM
    obtain ⟨f0, f1, f2⟩ := HF.out w22 Xw22.out
    go_wp2_with fail
    refine (HTC.out _ (X.out.trans Xw22.out)).mono ?_
    rintro e w23 ⟨CH, rfl, hC, hx⟩
    clear f0 f1 f2
    have FCH := hidP hC
    clear hC
    have Xw23 := hidP (Xw22.out.trans hx)
    have Zw23 : Hid (w22.heap.size ≤ w23.heap.size) := hx.size
    have FS_w23 := hidP (FS_w22.out.below hx)
    have FM_w23 := hidP (FM_w22.out.below hx)
    clear hx
    clear FS_w22 FM_w22
    go_wp2_with fail
    refine (HTS1.out _ (X.out.trans Xw23.out)).mono ?_
    rintro e w24 ⟨PH1, rfl, hP, hx⟩
    have FPH1 := hidP hP
    clear hP
    have Xw24 := hidP (Xw23.out.trans hx)
    have Zw24 : Hid (w23.heap.size ≤ w24.heap.size) := hx.size
    have FS_w24 := hidP (FS_w23.out.below hx)
    have FM_w24 := hidP (FM_w23.out.below hx)
    have FCH_w24 := hidP (FCH.out.below hx)
    clear hx
    clear FS_w23 FM_w23 FCH
    go_wp2_with fail
    refine (HTS2.out _ (X.out.trans Xw24.out)).mono ?_
    rintro e w25 ⟨PH2, rfl, hP, hx⟩
    have FPH2 := hidP hP
    clear hP
    have Xw25 := hidP (Xw24.out.trans hx)
    have Zw25 : Hid (w24.heap.size ≤ w25.heap.size) := hx.size
    have FS_w25 := hidP (FS_w24.out.below hx)
    have FM_w25 := hidP (FM_w24.out.below hx)
    have FCH_w25 := hidP (FCH_w24.out.below hx)
    have FPH1_w25 := hidP (FPH1.out.below hx)
    clear hx
    clear FS_w24 FM_w24 FCH_w24 FPH1
    have HR := hidP (bchOf_any p d CH PH1 PH2 tn tn n1 n1 n2 n2 ts xs1 xs2 w25 FCH_w25.out.ints (by omega) (by omega) FPH1_w25.out.ints FPH2.out.ints (by omega) (by omega) FPH1_w25.out.nil_cap (fun b o e => (FPH2.out.at_base b o e).2))
    rw [← HJ.out] at HR
    dsimp only at HR
    go_wp2_with fail
    refine HR.out.mono ?_
    rintro e w26 ⟨aH, nH, cH, rfl, hR, hx⟩
    clear HR
    have FH := hidP hR
    clear hR
    clear FCH_w25
    clear FPH1_w25
    clear FPH2
    have Xw26 := hidP (Xw25.out.trans hx)
    have Zw26 : Hid (w25.heap.size ≤ w26.heap.size) := hx.size
    have FS_w26 := hidP (FS_w25.out.below hx)
    have FM_w26 := hidP (FM_w25.out.below hx)
    clear hx
    clear FS_w25 FM_w25
    have HQ := hidP (eqIntS_any aH aS nH nS cH cS J2 J2 w26 FH.out.ints FS_w26.out.ints (by have := FH.out.caps; omega) (by have := FS_w26.out.caps; omega))
    simp only [beq_self_eq_true] at HQ
    go_wp2_with fail
    refine HQ.out.mono ?_
    rintro e w27 ⟨rfl, m, hd⟩
    have hx : Ext w26 w27 := by rw [hd]; exact Ext.drewN _ _
    clear hd HQ
    have Xw27 := hidP (Xw26.out.trans hx)
    have Zw27 : Hid (w26.heap.size ≤ w27.heap.size) := hx.size
    have FS_w27 := hidP (FS_w26.out.below hx)
    have FM_w27 := hidP (FM_w26.out.below hx)
    have FH_w27 := hidP (FH.out.below hx)
    clear hx
    clear FS_w26 FM_w26 FH
    have HH := hidP (heldIntS_any aG nG cG 1 w27 FM_w27.out.ints (by omega) (by omega) (by omega))
    go_wp2_with fail
    refine HH.out.mono ?_
    rintro e w28 ⟨rfl, m, hd⟩
    have hx : Ext w27 w28 := by rw [hd]; exact Ext.drewN _ _
    clear hd HH
    have Xw28 := hidP (Xw27.out.trans hx)
    have Zw28 : Hid (w27.heap.size ≤ w28.heap.size) := hx.size
    have FS_w28 := hidP (FS_w27.out.below hx)
    have FM_w28 := hidP (FM_w27.out.below hx)
    have FH_w28 := hidP (FH_w27.out.below hx)
    clear hx
    clear FS_w27 FM_w27 FH_w27
    go_wp2
    go_ret
    exact ⟨rfl, X.out.trans Xw28.out⟩
  · have HE : Hid (szLeft tn 1048576 = -1) := if_neg hle
    rw [HE.out] at HSC
    go_wp2_with fail
    rw [← hw0]
    clear hw0
    refine (HSC.out _).mono ?_
    rintro e w1 ⟨rfl, hx1⟩
    go_wp2
    go_ret
    exact ⟨rfl, X.out.trans hx1⟩
end Go.Proofs.Ytenlhfimdpcaoaa.fnExactBchOf

namespace Go.Proofs.Ytenlhfimdpcaoaa.fnExactBchOf
open Go.ChangeShapes Go.WideShapes Go.ChangeAt Go.RowKit
set_option linter.unusedVariables false

theorem own : ownKnob Try.prog.godebug = none := by kernel_rfl
theorem laidOut : laidOutB Try.prog = true := by kernel_rfl
/-! ### THE ROW's STEP -/
set_option maxRecDepth 100000 in
theorem lifted (os : Os) (started : os.Started) (H : Type) (enc : TypeId × Value → H) :
    ReturnsInHanded {} Try.checked os 6 .any (Rows.fnExactBchOfSpec.pre6 enc Try.prog Try.f6 Rows.fnExactBchOfRow.domain false) (Rows.fnExactBchOfSpec.post enc Try.prog Try.f6 false true false false) := by
  refine returnsInHanded_of_change (C := Try.checked) own started (by kernel_rfl) Try.func6
    (ChangeSpec.witness6 (enc := enc) (C := Try.checked) false ⟨#[], #[.agg #[.int .i64 0, .int .i64 0, .slice none 0 0], .slice none 0 0, .slice none 0 0], []⟩ 8 (by kernel_rfl) (by kernel_rfl) (by kernel_rfl) (by kernel_rfl)) ?_
  intro W base args ds gs before hval0 hW hcnd _
  have hval : ∀ (j : Nat) t v, Try.f6.params[j]? = some t → args[j]? = some v → Value.okWide Try.prog W .any base t v := hval0
  have hW' := hW
  obtain ⟨p, q, hA0, hV, rfl, hfz, hnd⟩ := hW
  have hA : DataW.TrodAll enc Try.prog W 0 (fun _ => true) true Try.f6.params.toList args.toList ds p := hA0
  rw [Try.params6] at hA hval
  obtain ⟨v0, vs0, d0, ds0, p0, q0, hargs, rfl, rfl, h0, r0⟩ := trodAll_cons hA
  obtain ⟨v1, vs1, d1, ds1, p1, q1, rfl, rfl, rfl, h1, r1⟩ := trodAll_cons r0
  obtain ⟨v2, vs2, d2, ds2, p2, q2, rfl, rfl, rfl, h2, r2⟩ := trodAll_cons r1
  obtain ⟨rfl, rfl, rfl⟩ := trodAll_nil r2
  obtain rfl : args = #[v0, v1, v2] := by cases args; simp_all
  obtain ⟨rfl, rfl⟩ := trodVars_none hV
  have lt0 : ∀ x ∈ p0, x.block < W.heap.size := fun x hx => hW'.lt x (by simp [hx])
  obtain ⟨b0, c0, e0, n0, k0, xs0, rfl, i0, g0, s0⟩ := alg_in Try.underlying51 (by kernel_rfl) (by kernel_rfl) Try.underlying3 Try.underlying3 Try.underlying22 Try.underlying3 (by kernel_rfl) (hval 0 51 v0 rfl rfl) h0
  have lt1 : ∀ x ∈ p1, x.block < W.heap.size := fun x hx => hW'.lt x (by simp [hx])
  obtain ⟨z1, l1, m1, rfl⟩ := okWide_slice Try.underlying22 (hval 1 22 v1 rfl rfl)
  obtain ⟨fuel1, hf1⟩ := id h1
  obtain ⟨e1, n1, k1, xs1, q1, i1, g1, s1, t1, u1⟩ := ints_in Try.underlying22 Try.underlying3 (by kernel_rfl) hf1
  simp only [Value.cells, List.cons.injEq, and_true, Value.slice.injEq] at q1
  obtain ⟨rfl, rfl, rfl⟩ := q1
  have lt2 : ∀ x ∈ p2, x.block < W.heap.size := fun x hx => hW'.lt x (by simp [hx])
  obtain ⟨z2, l2, m2, rfl⟩ := okWide_slice Try.underlying22 (hval 2 22 v2 rfl rfl)
  obtain ⟨fuel2, hf2⟩ := id h2
  obtain ⟨e2, n2, k2, xs2, q2, i2, g2, s2, t2, u2⟩ := ints_in Try.underlying22 Try.underlying3 (by kernel_rfl) hf2
  simp only [Value.cells, List.cons.injEq, and_true, Value.slice.injEq] at q2
  obtain ⟨rfl, rfl, rfl⟩ := q2
  clear hA0 hval0
  refine (walk b0 c0 e0 n0 k0 xs0 z1 l1 m1 xs1 z2 l2 m2 xs2 W i0 i1 i2 s0 s1 s2).mono fun e W' ⟨he, bel⟩ => ?_
  subst he
  exact ⟨_, rfl, _, _, _, [], _, [], hW', trodAll_mk1 (shut_bool Try.underlying4 _), (trodAll_cons_mk (Below.trod laidOut (by kernel_rfl) (of_decide_eq_true (by kernel_rfl)) h0 bel lt0) (trodAll_cons_mk (Below.trod laidOut (by kernel_rfl) (of_decide_eq_true (by kernel_rfl)) h1 bel lt1) (trodAll_cons_mk (Below.trod laidOut (by kernel_rfl) (of_decide_eq_true (by kernel_rfl)) h2 bel lt2) trodAll_mk0))), rfl, bel.frame _, fun h => by cases h⟩

theorem over : Rows.fnExactBchOfRow.holds Try.pinned (OpenSpec.ofChange Rows.fnExactBchOfSpec) :=
  OpenClaim.holds_of_wide 6 Try.f6 rfl rfl rfl rfl rfl rfl rfl ⟨rfl, rfl, rfl, rfl, rfl⟩ rfl rfl rfl rfl rfl (by kernel_rfl) Try.func6 (by kernel_rfl)
    (of_decide_eq_true (by kernel_rfl)) (by unfold Func.isWrapper; first | (rw [if_pos (by decide +kernel)]; kernel_rfl) | (rw [if_neg (by decide +kernel)]; exact ⟨rfl, rfl⟩))
    (fun os started H enc _ => lifted os started H enc)

/-- THE STATEMENT -/
theorem proved : Rows.FnExactBchOfSaid :=
  over
#print axioms proved

end Go.Proofs.Ytenlhfimdpcaoaa.fnExactBchOf
