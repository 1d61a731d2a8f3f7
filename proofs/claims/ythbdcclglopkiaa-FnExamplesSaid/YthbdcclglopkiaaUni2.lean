/-
  IsUnimodular of the program.
-/
import Derived.Test.YthbdcclglopkiaaUni
namespace Go.Proofs.Ythbdcclglopkiaa
open Go.RowKit

def uniK (p : Int) (t : List Int) (d i : Nat) : Bool := traceL p d (adjL p t d (basisL d i) d).flatten == 0
def uniB (p : Int) (t : List Int) (d : Nat) : Bool := (List.range d).all (uniK p t d)
theorem uniB_true {p : Int} {t : List Int} {d : Nat} : uniB p t d = true ↔ ∀ i, i < d → uniK p t d i = true := by simp [uniB]
set_option maxRecDepth 100000 in
set_option maxHeartbeats 2000000 in
theorem isUnimodular_ok (p : Int) (d : Nat) (a : Option Addr) (N c : Nat) (t : List Int) (w : World) (ht : IntsAt w a N t) (hnc : N ≤ c) (hc2 : c ≤ 1000000000000) (hb : algB p d t = true) :
    Calls Try.prog 17 #[algV p d a N c] w fun e w' => e = .returned (.bool (uniB p t d)) ∧ Ext w w' := by
  obtain ⟨hh, _⟩ := algB_true.1 hb
  obtain ⟨hp, hd0, hd, hl, hr⟩ := headB_true hh
  obtain ⟨p2, p7⟩ := prime_bounds hp
  have hN : N = d * d * d := by
    have : ((t.length : Nat) : Int) = ((d * d * d : Nat) : Int) := by rw [hl]; simp
    have := ht.len
    omega
  have hx0 := Ext.alloc w (.cells #[.int .i64 p, .int .i64 (d : Int), .slice a N c] 24)
  have HOK := hidP (algebraOk_any p d a N c t _ (ht.below hx0) hnc hc2)
  rw [hb] at HOK
  have HAL := hidP (AlgAt.new w _ rfl p d a N c 24)
  have HX0 := hidP hx0
  have HT := hidP ht
  have HR := hidP hr
  have HN := hidP hN
  have HP := hidP hp
  clear hb hh hl hr hN hx0 ht hp
  go_enter Try.func17, Try.ntmps17
  go_wp2_with fail
  refine HOK.out.mono ?_
  rintro e w1 ⟨rfl, hx1⟩
  obtain ⟨f0, f1, f2⟩ := HAL.out.below hx1
  have HAL1 := hidP (HAL.out.below hx1)
  have HX1 := hidP (HX0.out.trans hx1)
  clear hx1 HOK HAL
  go_wp2_with fail
  refine (newLie_any _ _ _ _ _ _).mono ?_
  rintro e w2 ⟨rfl, hx2⟩
  have HX2 := hidP (HX1.out.trans hx2)
  have HAL2 := hidP (HAL1.out.below hx2)
  clear f0 f1 f2 hx2 HAL1
  have hx3 := Ext.alloc w2 (.cells #[.int .i64 p, .int .i64 (d : Int), .slice a N c] 57)
  have HL3 := hidP (AlgAt.new w2 _ rfl p d a N c 57)
  have HAL3 := hidP (HAL2.out.below hx3)
  have HX3 := hidP (HX2.out.trans hx3)
  obtain ⟨f0, f1, f2⟩ := HAL3.out
  clear hx3
  go_wp2
  obtain ⟨w3, hw3⟩ : ∃ w3, w3 = w2.alloc (.cells #[.int .i64 p, .int .i64 (d : Int), .slice a N c] 57) := ⟨_, rfl⟩
  rw [← hw3] at HL3 HX3 HAL3 ⊢
  clear hw3 f0 f1 f2
  have HF := hidP (fun w' (hx' : Ext w3 w') => (⟨(HL3.out.below hx').c0, (HL3.out.below hx').c1, (HL3.out.below hx').c2, (HAL3.out.below hx').c1⟩ : _ ∧ _ ∧ _ ∧ _))
  go_loopw [14] (fun v wr => ∃ i : Nat, i ≤ d ∧ v = .int .i64 i ∧ Hid (∀ j, j < i → uniK p t d j = true) ∧ Hid (Ext w3 wr)) (fun v _ => d - (intOf v).toNat)
  case atStart => exact ⟨0, Nat.zero_le _, rfl, fun j h => by omega, Ext.refl _⟩
  case round =>
    obtain ⟨i, hi, rfl, HJ, HX⟩ := hrel
    by_cases hlt : i < d
    · have hE : Ext wr wr.drew := Ext.drew wr
      have HU := hidP (fun w' => unit_any d i w' hlt (by omega))
      have HAD := hidP (fun w' au (hx' : Ext wr w') (ho : OwnI w' wr.heap.size au d d (basisL d i)) => adjoint_any p d a au N c d t (basisL d i) w' (by omega) HN.out hnc hc2 (HT.out.below ((HX3.out.trans HX.out).trans hx')) ho.ints (by omega) p7 HR.out (basisL_res p2 d i))
      have hrw := adjL_rows (by omega : 0 < p) t d (basisL d i) d
      have HMB : Hid (matB p d d (adjL p t d (basisL d i) d).flatten = true) := matB_true.2 ⟨HP.out, ⟨by omega, by omega⟩, ⟨by omega, by omega⟩, by rw [hrw.flat, adjL_length]; simp, hrw.flat_res⟩
      have HTR := hidP (fun w' al l cl (ho : IntsAt w' al l (adjL p t d (basisL d i) d).flatten) => traceOf_ok p d al l cl _ w' ho HMB.out)
      have HK : Hid (uniK p t d i = (traceL p d (adjL p t d (basisL d i) d).flatten == 0)) := rfl
      clear hrw
      generalize traceL p d (adjL p t d (basisL d i) d).flatten = tr at *
      go_wp2
      (refine walkR_start (fun w' => Ext wr w') 12 (by kernel_rfl) ?_; simp only [numbered, List.take_succ_cons, List.take_zero, Nat.zero_add, Nat.reduceAdd, List.length_cons, List.length_nil])
      (repeat (first | (refine walkR_still (v := ?_) rfl (by decide +kernel) rfl (fun _ _ _ h => h) hE ?_ ?_; rotate_left; (focus (intro w' hw'; obtain ⟨f0, f1, f2, f3⟩ := HF.out w' (HX.out.trans hw'); go_simp; all_goals (with_reducible rfl))); simp only [Act.put, List.setIfInBounds_toArray, List.set_cons_zero, List.set_cons_succ]) | (refine walkR_skip rfl (by decide +kernel) rfl (fun _ _ _ h => h) hE ?_; simp only [Act.put, List.setIfInBounds_toArray, List.set_cons_zero, List.set_cons_succ])))
      (refine walkR_only (fun w' => Ext wr w') rfl (by decide +kernel) rfl (fun _ h => h) ?_; intro K hK; go_simp; refine (HU.out _).mono ?_; rintro e w4 ⟨a4, rfl, ho4, hx4⟩; refine hK _ _ (hE.trans hx4) ?_; clear hK K; (try simp only [Act.put, List.setIfInBounds_toArray, List.set_cons_zero, List.set_cons_succ]))
      have hE4 := hE.trans hx4
      have HA4 := hidP (HAD.out w4 a4 hE4 (ho4.base (B' := wr.heap.size) (by have := hE.size; exact this)))
      clear ho4 hx4
      (refine walkR_only (fun w' => Ext wr w') rfl (by decide +kernel) rfl (fun _ h => h) ?_; intro K hK; go_simp; refine (HA4.out).mono ?_; rintro e w5 ⟨a5, l5, c5, rfl, ho5, hx5⟩; refine hK _ _ (hE4.trans hx5) ?_; clear hK K; (try simp only [Act.put, List.setIfInBounds_toArray, List.set_cons_zero, List.set_cons_succ]))
      have hE5 := hE4.trans hx5
      have HT5 := hidP (HTR.out w5 a5 l5 c5 ho5.ints)
      clear ho5 hx5
      (refine walkR_only (fun w' => Ext wr w') rfl (by decide +kernel) rfl (fun _ h => h) ?_; intro K hK; go_simp; refine (HT5.out).mono ?_; rintro e w6 ⟨rfl, hx6⟩; refine hK _ _ (hE5.trans hx6) ?_; clear hK K; (try simp only [Act.put, List.setIfInBounds_toArray, List.set_cons_zero, List.set_cons_succ]))
      have hE6 := hE5.trans hx6
      have HE6 := hidP hE6
      clear hx6
      (repeat (first | (refine walkR_still (v := ?_) rfl (by decide +kernel) rfl (fun _ _ _ h => h) hE6 ?_ ?_; rotate_left; (focus (intro w' hw'; skip; go_simp; all_goals (with_reducible rfl))); simp only [Act.put, List.setIfInBounds_toArray, List.set_cons_zero, List.set_cons_succ]) | (refine walkR_skip rfl (by decide +kernel) rfl (fun _ _ _ h => h) hE6 ?_; simp only [Act.put, List.setIfInBounds_toArray, List.set_cons_zero, List.set_cons_succ])))
      (refine walkR_tail (by rfl) (by kernel_rfl) ?_; simp only [List.drop_succ_cons, List.drop_zero])
      by_cases htr : tr = 0
      · have hbt : (tr != 0) = false := by simp [htr]
        have HKT : Hid (uniK p t d i = true) := HK.out.trans (by simp [htr])
        clear htr
        go_wp2
        go_roundw
        case rel =>
          refine ⟨i + 1, by omega, by go_num, fun j hj => ?_, HX.out.trans HE6.out⟩
          rcases Nat.lt_succ_iff_lt_or_eq.1 hj with h3 | rfl
          · exact HJ.out j h3
          · exact HKT.out
        case measure => simp [intOf]; omega
      · have hbt : (tr != 0) = true := bne_iff_ne.2 htr
        have HB : Hid (uniB p t d = false) := by
          show _ = _
          rw [Bool.eq_false_iff, ne_eq, uniB_true]
          intro h
          have := h i hlt
          rw [HK.out] at this
          exact htr (by simpa using this)
        clear htr
        go_wp2
        go_ret
        exact ⟨ret_bool HB.out.symm, (HX3.out.trans HX.out).trans HE6.out⟩
    · obtain rfl : i = d := by omega
      have HB : Hid (uniB p t i = true) := uniB_true.2 HJ.out
      go_wp2
      go_ret
      exact ⟨ret_bool HB.out.symm, HX3.out.trans HX.out⟩
end Go.Proofs.Ythbdcclglopkiaa
