/-
  FnExactAntipodeOf: the walk.
-/
import Derived.Test.YtcfgcacmmmhjcaaGreatDoorEnvV
import Derived.Test.YtcfgcacmmmhjcaaGreatDoorLEnvZ
import Derived.Test.YtcfgcacmmmhjcaaGreatDoorOpn
import Derived.Test.YtcfgcacmmmhjcaaGreatDoorTie
import Derived.Test.YtcfgcacmmmhjcaaGreatDoorCards
namespace Go.Proofs.YtcfgcacmmmhjcaaGreatDoor.fnExactAntipodeOf
open Go.ChangeShapes Go.WideShapes Go.ChangeAt Go.RowKit
set_option linter.unusedVariables false

set_option maxRecDepth 100000 in
set_option maxHeartbeats 8000000 in
/-- The Go text returns true, and leaves what was there. -/
theorem walk (p d : Int) (ta : Option Addr) (tn tc : Nat) (ts : List Int) (a1 : Option Addr) (n1 c1 : Nat) (xs1 : List (List Int × Int)) (w : World) (hc : IntsAt w ta tn ts) (h1 : TermsAt w a1 n1 xs1) (hcn : tn ≤ 9223372036854775807) (hn1 : n1 ≤ 9223372036854775807) (hm : MaxL w) (htb : Tab w) :
    Calls Tryz.prog 5 #[algV p d ta tn tc, .slice a1 n1 c1] w fun e w' => e = .returned (.bool true) ∧ Ext w w' := by
  have hx0 := Ext.alloc w (.cells #[.int .i64 p, .int .i64 d, .slice ta tn tc] 24)
  have HF := hidP (fun w' (hx : Ext (w.alloc (.cells #[.int .i64 p, .int .i64 d, .slice ta tn tc] 24)) w') => (AlgAt.new w _ rfl p d ta tn tc 24).below hx)
  have X := hidP hx0
  have HT := hidP hc
  have HU1 := hidP h1
  have HTb := hidP htb
  have HM := hidP hm
  clear hc h1 hm hx0 htb
  have hz0 : w.heap.size < (w.alloc (.cells #[.int .i64 p, .int .i64 d, .slice ta tn tc] 24)).heap.size := by simp
  obtain ⟨⟨J1, J2⟩, hJ⟩ : ∃ J, J = antR p d ts xs1 := ⟨_, rfl⟩
  have HJ := hidP hJ
  clear hJ
  obtain ⟨w0, hw0⟩ : ∃ w0, w0 = w.alloc (.cells #[.int .i64 p, .int .i64 d, .slice ta tn tc] 24) := ⟨_, rfl⟩
  rw [← hw0] at X HF hz0
  have Hz0 := hidP hz0
  clear hz0
  have HSC := hidP (fun w' => szAlgebra_any p d ta tn tc 1048576 w' hcn (by omega) (by omega))
  obtain ⟨f0, f1, f2⟩ := HF.out w0 (Ext.refl _)
  go_enter Tryz.func5, Tryz.ntmps5
  by_cases hle : (tn : Int) ≤ 1048576
  · have HE : Hid (szLeft tn 1048576 = 1048576 - tn) := if_pos hle
    rw [HE.out] at HSC
    have hng : ¬ (1048576 - (tn : Int) < 0) := by omega
    go_wp2_with fail
    rw [← hw0]
    clear hw0
    refine (HSC.out _).mono ?_
    rintro e w1 ⟨rfl, hx⟩
    have Xw0 : Hid (Ext w0 w0) := hidP (Ext.refl w0)
    clear HSC f0 f1 f2
    have Xw1 := hidP (Xw0.out.trans hx)
    have Zw1 : Hid (w0.heap.size ≤ w1.heap.size) := hx.size
    clear hx
    have HS := hidP (szStepS_any a1 n1 c1 xs1 (1048576 - (tn : Int)) w1 (HU1.out.below (X.out.trans Xw1.out)) hn1 (by omega) (by omega))
    go_wp2_with fail
    refine HS.out.mono ?_
    clear HS
    rintro e w2 ⟨v1, hv1, rfl, hx⟩
    have Xw2 := hidP (Xw1.out.trans hx)
    have Zw2 : Hid (w1.heap.size ≤ w2.heap.size) := hx.size
    clear hx
    rcases hv1 with rfl | ⟨hv1a, hv1b⟩
    · go_wp2
      go_ret
      exact ⟨rfl, X.out.trans Xw2.out⟩
    · have hng1 : ¬ (v1 < 0) := by omega
      have hv1c : v1 ≤ 1048576 := by omega
      have Hv1 := hidP hv1b
      clear hv1b
      have hv1b := Hv1.out
      have hM1 : mkAt xs1 n1 ≤ 1048576 := by omega
      have hL1 := mkAt_len xs1 n1
      have htn : tn ≤ 1048576 := by omega
      clear hv1b
      have HTC := hidP (fun w' (hx : Ext w w') => toAlgebra_any p d ta tn tc ts w' (HT.out.below hx) htn)
      have HTS1 := hidP (fun w' (hx : Ext w w') => toStepS_any a1 n1 c1 xs1 w' (HU1.out.below hx) (by omega) (fun k hk => by have := mkAt_one xs1 hk; omega))
      obtain ⟨f0, f1, f2⟩ := HF.out w2 Xw2.out
      go_wp2_with fail
      refine (HTC.out _ (X.out.trans Xw2.out)).mono ?_
      rintro e w3 ⟨CS, rfl, hC, hx⟩
      clear f0 f1 f2
      have FCS := hidP hC
      clear hC
      have Xw3 := hidP (Xw2.out.trans hx)
      have Zw3 : Hid (w2.heap.size ≤ w3.heap.size) := hx.size
      clear hx
      go_wp2_with fail
      refine (HTS1.out _ (X.out.trans Xw3.out)).mono ?_
      rintro e w4 ⟨PS1, KS1, rfl, hP, hx⟩
      have FPS1 := hidP hP
      clear hP
      have Xw4 := hidP (Xw3.out.trans hx)
      have Zw4 : Hid (w3.heap.size ≤ w4.heap.size) := hx.size
      have FCS_w4 := hidP (FCS.out.below hx)
      clear hx
      clear FCS
      have HR := hidP (sAntipodeOf_any p d CS tn tn ts (some ⟨PS1, 0, none⟩) n1 n1 xs1 w4 FCS_w4.out.ints FPS1.out.stepsAt (by omega) (by omega) (by omega))
      unfold EnvRes at HR
      rw [← HJ.out] at HR
      dsimp only at HR
      go_wp2_with fail
      refine HR.out.mono ?_
      rintro e w5 ⟨aS, nS, cS, KS, rfl, hR, hx⟩
      clear HR
      have FS := hidP hR
      clear hR
      clear FCS_w4 FPS1
      have Xw5 := hidP (Xw4.out.trans hx)
      have Zw5 : Hid (w4.heap.size ≤ w5.heap.size) := hx.size
      clear hx
      obtain ⟨f0, f1, f2⟩ := HF.out w5 Xw5.out
      go_wp2_with fail
      refine (HTC.out _ (X.out.trans Xw5.out)).mono ?_
      rintro e w6 ⟨CX, rfl, hC, hx⟩
      clear f0 f1 f2
      have FCX := hidP hC
      have LCX : Hid (∀ b o, CX = some ⟨b, o, none⟩ → w5.heap.size ≤ b ∧ b < w6.heap.size) := fun b o e => hC.at_base b o e
      clear hC
      have Xw6 := hidP (Xw5.out.trans hx)
      have Zw6 : Hid (w5.heap.size ≤ w6.heap.size) := hx.size
      have FS_w6 := hidP (FS.out.below hx)
      clear hx
      clear FS
      go_wp2_with fail
      have hxa := Ext.alloc w6 (.cells #[.int .i64 p, .int .i64 d, .slice CX tn tn] 28)
      have FB := hidP (AlgAt.new w6 _ rfl p d CX tn tn 28)
      have hzz : w6.heap.size < (w6.alloc (.cells #[.int .i64 p, .int .i64 d, .slice CX tn tn] 28)).heap.size := by simp
      obtain ⟨w7, hww⟩ : ∃ x, x = w6.alloc (.cells #[.int .i64 p, .int .i64 d, .slice CX tn tn] 28) := ⟨_, rfl⟩
      rw [← hww] at hxa FB hzz ⊢
      clear hww
      have Hzz := hidP hzz
      clear hzz
      have Xw7 := hidP (Xw6.out.trans hxa)
      have Zw7 : Hid (w6.heap.size ≤ w7.heap.size) := hxa.size
      have FS_w7 := hidP (FS_w6.out.below hxa)
      have FCX_w7 := hidP (FCX.out.below hxa)
      clear hxa
      clear FS_w6 FCX
      refine (HTS1.out _ (X.out.trans Xw7.out)).mono ?_
      rintro e w8 ⟨PX1, KX1, rfl, hP, hx⟩
      have FPX1 := hidP hP
      clear hP
      have Xw8 := hidP (Xw7.out.trans hx)
      have Zw8 : Hid (w7.heap.size ≤ w8.heap.size) := hx.size
      have FS_w8 := hidP (FS_w7.out.below hx)
      have FCX_w8 := hidP (FCX_w7.out.below hx)
      have FB_w8 := hidP (FB.out.below hx)
      clear hx
      clear FS_w7 FCX_w7 FB
      obtain ⟨y0, y1, y2⟩ := FB_w8.out
      have HR := hidP (antipodeOf_any p d CX tn tn ts (some ⟨PX1, 0, none⟩) n1 n1 xs1 w8 FCX_w8.out.ints FPX1.out.stepsAt (by omega) (by omega) (by omega) (HM.out.below (X.out.trans Xw8.out)) (HTb.out.below (X.out.trans Xw8.out)))
      unfold EnvRes at HR
      rw [← HJ.out] at HR
      dsimp only at HR
      go_wp2_with fail
      refine HR.out.mono ?_
      rintro e w9 ⟨aG, nG, cG, KG, rfl, hR, hx⟩
      clear HR
      have FG := hidP hR
      clear hR
      clear y0 y1 y2
      have Xw9 := hidP (Xw8.out.trans hx)
      have Zw9 : Hid (w8.heap.size ≤ w9.heap.size) := hx.size
      have FS_w9 := hidP (FS_w8.out.below hx)
      have FCX_w9 := hidP (FCX_w8.out.below hx)
      have FB_w9 := hidP (FB_w8.out.below hx)
      have FPX1_w9 := hidP (FPX1.out.below hx)
      clear hx
      clear FS_w8 FCX_w8 FB_w8 FPX1
      have hJJ : (J1 != J1) = false := by simp
      have HQ := hidP (fun w' (hx : Ext w9 w') => eqStepS_any aG aS nG nS cG cS J2 J2 w' (FG.out.below hx).termsAt (FS_w9.out.below hx).termsAt FG.out.small FS_w9.out.small)
      simp only [beq_self_eq_true] at HQ
      go_wp2_with fail
      refine (HQ.out _ (Ext.refl _)).mono ?_
      rintro e w10 ⟨rfl, hx⟩
      clear HQ
      have Xw10 := hidP (Xw9.out.trans hx)
      have Zw10 : Hid (w9.heap.size ≤ w10.heap.size) := hx.size
      have FS_w10 := hidP (FS_w9.out.below hx)
      have FCX_w10 := hidP (FCX_w9.out.below hx)
      have FB_w10 := hidP (FB_w9.out.below hx)
      have FPX1_w10 := hidP (FPX1_w9.out.below hx)
      have FG_w10 := hidP (FG.out.below hx)
      clear hx
      clear FS_w9 FCX_w9 FB_w9 FPX1_w9 FG
      have hE : Ext w10 w10.drew := Ext.drew w10
      have HTCd := hidP (fun w' (hx : Ext w10 w') => (HTC.out w' ((X.out.trans Xw10.out).trans hx)).mono (fun (e : Ending) (w'' : World) ⟨a', he, ho, hx'⟩ => (⟨a', he, OwnI.base ho hx.size, hx'⟩ : ∃ a', e = Ending.returned (algV p d a' tn tn) ∧ OwnI w'' w10.heap.size a' tn tn ts ∧ Ext w' w'')))
      have HQ := hidP (fun w' (hx : Ext w10 w') (a' : Option Addr) (ho : OwnI w' w10.heap.size a' tn tn ts) => eqAlgebra_any p d p d CX a' tn tn tn tn ts ts w' (FCX_w10.out.below hx).ints ho.ints (by omega) (by omega))
      simp only [and_self, decide_true] at HQ
      go_wp2
      (refine walkR_start (fun w' => Ext w10 w') 5 (by kernel_rfl) ?_; simp only [numbered, List.take_succ_cons, List.take_zero, Nat.zero_add, Nat.reduceAdd, List.length_cons, List.length_nil])
      (repeat (first | (refine walkR_still (v := ?_) rfl (by decide +kernel) rfl (fun _ _ _ h => h) hE ?_ ?_; rotate_left; (focus (intro w' hw'; obtain ⟨f0, f1, f2⟩ := HF.out w' (Xw10.out.trans hw'); obtain ⟨y0, y1, y2⟩ := FB_w10.out.below hw'; go_simp; all_goals (with_reducible rfl))); simp only [Act.put, List.setIfInBounds_toArray, List.set_cons_zero, List.set_cons_succ]) | (refine walkR_skip rfl (by decide +kernel) rfl (fun _ _ _ h => h) hE ?_; simp only [Act.put, List.setIfInBounds_toArray, List.set_cons_zero, List.set_cons_succ])))
      (refine walkR_only (fun w' => Ext w10 w') rfl (by decide +kernel) rfl (fun _ h => h) ?_; intro K hK; go_simp; refine (HTCd.out _ hE).mono ?_; rintro e wd ⟨ad, rfl, hod, hxd⟩; refine hK _ _ (hE.trans hxd) ?_; clear hK K; (try simp only [Act.put, List.setIfInBounds_toArray, List.set_cons_zero, List.set_cons_succ]))
      have hE1 := hE.trans hxd
      have HQ1 := hidP (HQ.out _ hE1 ad hod)
      clear hxd hod
      (refine walkR_only (fun w' => Ext w10 w') rfl (by decide +kernel) rfl (fun _ h => h) ?_; intro K hK; go_simp; refine (HQ1.out).mono ?_; rintro e w11 ⟨rfl, hxd⟩; refine hK _ _ (hE1.trans hxd) ?_; clear hK K; (try simp only [Act.put, List.setIfInBounds_toArray, List.set_cons_zero, List.set_cons_succ]))
      have hx := hE1.trans hxd
      have hxx := hx
      clear hxd hE hE1 HQ HQ1 HTCd
      have Xw11 := hidP (Xw10.out.trans hx)
      have Zw11 : Hid (w10.heap.size ≤ w11.heap.size) := hx.size
      have FS_w11 := hidP (FS_w10.out.below hx)
      have FCX_w11 := hidP (FCX_w10.out.below hx)
      have FB_w11 := hidP (FB_w10.out.below hx)
      have FPX1_w11 := hidP (FPX1_w10.out.below hx)
      have FG_w11 := hidP (FG_w10.out.below hx)
      clear FS_w10 FCX_w10 FB_w10 FPX1_w10 FG_w10
      clear hx
      (repeat (first | (refine walkR_still (v := ?_) rfl (by decide +kernel) rfl (fun _ _ _ h => h) hxx ?_ ?_; rotate_left; (focus (intro w' hw'; skip; go_simp; all_goals (with_reducible rfl))); simp only [Act.put, List.setIfInBounds_toArray, List.set_cons_zero, List.set_cons_succ]) | (refine walkR_skip rfl (by decide +kernel) rfl (fun _ _ _ h => h) hxx ?_; simp only [Act.put, List.setIfInBounds_toArray, List.set_cons_zero, List.set_cons_succ])))
      (refine walkR_tail (by rfl) (by kernel_rfl) ?_; simp only [List.drop_succ_cons, List.drop_zero])
      clear hxx
      go_wp2_with fail
      refine (HTS1.out _ (X.out.trans Xw11.out)).mono ?_
      rintro e w12 ⟨gd, Kd, rfl, hP, hx⟩
      have FD := hidP hP
      clear hP
      have Xw12 := hidP (Xw11.out.trans hx)
      have Zw12 : Hid (w11.heap.size ≤ w12.heap.size) := hx.size
      have FS_w12 := hidP (FS_w11.out.below hx)
      have FCX_w12 := hidP (FCX_w11.out.below hx)
      have FB_w12 := hidP (FB_w11.out.below hx)
      have FPX1_w12 := hidP (FPX1_w11.out.below hx)
      have FG_w12 := hidP (FG_w11.out.below hx)
      clear hx
      clear FS_w11 FCX_w11 FB_w11 FPX1_w11 FG_w11
      have FDD := hidP (FD.out.below (Ext.refl _))
      clear FD
      have HQ := hidP (fun w' (hx : Ext w12 w') => eqStepS_any (some ⟨PX1, 0, none⟩) (some ⟨gd, 0, none⟩) n1 n1 n1 n1 xs1 xs1 w' (FPX1_w12.out.below hx).termsAt (FDD.out.below hx).termsAt FPX1_w12.out.small FDD.out.small)
      simp only [beq_self_eq_true] at HQ
      go_wp2_with fail
      refine (HQ.out _ (Ext.refl _)).mono ?_
      rintro e w13 ⟨rfl, hx⟩
      clear HQ
      have Xw13 := hidP (Xw12.out.trans hx)
      have Zw13 : Hid (w12.heap.size ≤ w13.heap.size) := hx.size
      have FS_w13 := hidP (FS_w12.out.below hx)
      have FCX_w13 := hidP (FCX_w12.out.below hx)
      have FB_w13 := hidP (FB_w12.out.below hx)
      have FPX1_w13 := hidP (FPX1_w12.out.below hx)
      have FG_w13 := hidP (FG_w12.out.below hx)
      clear hx
      clear FS_w12 FCX_w12 FB_w12 FPX1_w12 FG_w12
      clear FDD
      have HZ : Hid (w0.heap.size ≤ w5.heap.size ∧ w5.heap.size ≤ w6.heap.size ∧ w6.heap.size ≤ w7.heap.size ∧ w7.heap.size ≤ w8.heap.size ∧ w8.heap.size ≤ w9.heap.size) := by
        refine ⟨Xw5.out.size, Zw6.out, Zw7.out, Zw8.out, Zw9.out⟩
      obtain ⟨y0, y1, y2⟩ := FB_w13.out
      have HMk := hidP (markAlgebra_any p d _ CX tn tn 1 ts w13 FCX_w13.out (by omega) (by omega) (by omega))
      go_wp2_with fail
      refine HMk.out.mono ?_
      rintro e w14 ⟨rfl, hu⟩
      clear HMk y0 y1 y2
      have hub := hu.updB LCX.out
      clear hu
      clear FCX_w13 FB_w13
      have Xw14 : Hid (Ext w0 w14) := hub.below Xw13.out Xw13.out.size (by have hZ := HZ.out; omega)
      have Zw14 : Hid (w13.heap.size ≤ w14.heap.size) := hub.size
      have FS_w14 := hidP (FS_w13.out.updB_lo hub (by have hZ := HZ.out; omega))
      have FPX1_w14 := hidP (FPX1_w13.out.updB_hi hub (by have hZ := HZ.out; omega))
      have FG_w14 := hidP (FG_w13.out.updB_hi hub (by have hZ := HZ.out; omega))
      clear hub FS_w13 FPX1_w13 FG_w13
      have HMk := hidP (markStepS_any _ _ (some ⟨PX1, 0, none⟩) n1 n1 KX1 xs1 (1 + (tn : Int)) w14 FPX1_w14.out (by omega) (by omega) (by omega))
      go_wp2_with fail
      refine HMk.out.mono ?_
      rintro e w15 ⟨rfl, ym, _, _, hub⟩
      clear HMk
      clear FPX1_w14
      have Xw15 : Hid (Ext w0 w15) := hub.below Xw14.out Xw14.out.size (by have hZ := HZ.out; omega)
      have Zw15 : Hid (w14.heap.size ≤ w15.heap.size) := hub.size
      have FS_w15 := hidP (FS_w14.out.updB_lo hub (by have hZ := HZ.out; omega))
      have FG_w15 := hidP (FG_w14.out.updB_hi hub (by have hZ := HZ.out; omega))
      clear hub FS_w14 FG_w14
      have hk0 : ¬ (((1 + (tn : Int)) + (mkAt xs1 n1 : Int)) < 0) := by omega
      have HQ := hidP (fun w' (hx : Ext w15 w') => eqStepS_any aG aS nG nS cG cS J2 J2 w' (FG_w15.out.below hx).termsAt (FS_w15.out.below hx).termsAt FG_w15.out.small FS_w15.out.small)
      simp only [beq_self_eq_true] at HQ
      go_wp2_with fail
      refine (HQ.out _ (Ext.refl _)).mono ?_
      rintro e w16 ⟨rfl, hx⟩
      clear HQ
      have Xw16 := hidP (Xw15.out.trans hx)
      have Zw16 : Hid (w15.heap.size ≤ w16.heap.size) := hx.size
      have FS_w16 := hidP (FS_w15.out.below hx)
      have FG_w16 := hidP (FG_w15.out.below hx)
      clear hx
      clear FS_w15 FG_w15
      have hJn : mkAt J2 nG ≤ 10000000 := termsJ_smallE (HJ.out ▸ antR_small p d ts xs1) FG_w16.out.xl
      have HMk := hidP (markStepS_any _ _ aG nG cG KG J2 1 w16 FG_w16.out hJn (by omega) (by omega))
      go_wp2_with fail
      refine HMk.out.mono ?_
      rintro e w17 ⟨rfl, ym, ho, HMm, hub⟩
      clear HMk
      have FM := hidP ho
      clear ho
      clear FG_w16
      have Xw17 : Hid (Ext w0 w17) := hub.below Xw16.out Xw16.out.size (by have hZ := HZ.out; omega)
      have Zw17 : Hid (w16.heap.size ≤ w17.heap.size) := hub.size
      have FS_w17 := hidP (FS_w16.out.updB_lo hub (by have hZ := HZ.out; omega))
      clear hub FS_w16
      have hq0 : ¬ ((1 : Int) + (mkAt J2 nG : Int) < 0) := by omega
      have hqq : ((1 : Int) + (mkAt J2 nG : Int) != 1 + (mkAt J2 nG : Int)) = false := by simp
      have HH := hidP (heldStepS_any aG nG cG J2 ym 1 w17 FM.out.termsAt HMm.out hJn (by omega) (by omega))
      go_wp2_with fail
      refine HH.out.mono ?_
      rintro e w18 ⟨rfl, hx⟩
      clear HH
      have Xw18 := hidP (Xw17.out.trans hx)
      have Zw18 : Hid (w17.heap.size ≤ w18.heap.size) := hx.size
      have FS_w18 := hidP (FS_w17.out.below hx)
      have FM_w18 := hidP (FM.out.below hx)
      clear hx
      clear FS_w17 FM
      obtain ⟨f0, f1, f2⟩ := HF.out w18 Xw18.out
      go_wp2_with fail
      refine (HTC.out _ (X.out.trans Xw18.out)).mono ?_
      rintro e w19 ⟨CH, rfl, hC, hx⟩
      clear f0 f1 f2
      have FCH := hidP hC
      clear hC
      have Xw19 := hidP (Xw18.out.trans hx)
      have Zw19 : Hid (w18.heap.size ≤ w19.heap.size) := hx.size
      have FS_w19 := hidP (FS_w18.out.below hx)
      have FM_w19 := hidP (FM_w18.out.below hx)
      clear hx
      clear FS_w18 FM_w18
      go_wp2_with fail
      refine (HTS1.out _ (X.out.trans Xw19.out)).mono ?_
      rintro e w20 ⟨PH1, KH1, rfl, hP, hx⟩
      have FPH1 := hidP hP
      clear hP
      have Xw20 := hidP (Xw19.out.trans hx)
      have Zw20 : Hid (w19.heap.size ≤ w20.heap.size) := hx.size
      have FS_w20 := hidP (FS_w19.out.below hx)
      have FM_w20 := hidP (FM_w19.out.below hx)
      have FCH_w20 := hidP (FCH.out.below hx)
      clear hx
      clear FS_w19 FM_w19 FCH
      have HR := hidP (antipodeOf_any p d CH tn tn ts (some ⟨PH1, 0, none⟩) n1 n1 xs1 w20 FCH_w20.out.ints FPH1.out.stepsAt (by omega) (by omega) (by omega) (HM.out.below (X.out.trans Xw20.out)) (HTb.out.below (X.out.trans Xw20.out)))
      unfold EnvRes at HR
      rw [← HJ.out] at HR
      dsimp only at HR
      go_wp2_with fail
      refine HR.out.mono ?_
      rintro e w21 ⟨aH, nH, cH, KH, rfl, hR, hx⟩
      clear HR
      have FH := hidP hR
      clear hR
      clear FCH_w20
      clear FPH1
      have Xw21 := hidP (Xw20.out.trans hx)
      have Zw21 : Hid (w20.heap.size ≤ w21.heap.size) := hx.size
      have FS_w21 := hidP (FS_w20.out.below hx)
      have FM_w21 := hidP (FM_w20.out.below hx)
      clear hx
      clear FS_w20 FM_w20
      have HQ := hidP (fun w' (hx : Ext w21 w') => eqStepS_any aH aS nH nS cH cS J2 J2 w' (FH.out.below hx).termsAt (FS_w21.out.below hx).termsAt FH.out.small FS_w21.out.small)
      simp only [beq_self_eq_true] at HQ
      go_wp2_with fail
      refine (HQ.out _ (Ext.refl _)).mono ?_
      rintro e w22 ⟨rfl, hx⟩
      clear HQ
      have Xw22 := hidP (Xw21.out.trans hx)
      have Zw22 : Hid (w21.heap.size ≤ w22.heap.size) := hx.size
      have FS_w22 := hidP (FS_w21.out.below hx)
      have FM_w22 := hidP (FM_w21.out.below hx)
      have FH_w22 := hidP (FH.out.below hx)
      clear hx
      clear FS_w21 FM_w21 FH
      have HH := hidP (heldStepS_any aG nG cG J2 ym 1 w22 FM_w22.out.termsAt HMm.out hJn (by omega) (by omega))
      go_wp2_with fail
      refine HH.out.mono ?_
      rintro e w23 ⟨rfl, hx⟩
      clear HH
      have Xw23 := hidP (Xw22.out.trans hx)
      have Zw23 : Hid (w22.heap.size ≤ w23.heap.size) := hx.size
      have FS_w23 := hidP (FS_w22.out.below hx)
      have FM_w23 := hidP (FM_w22.out.below hx)
      have FH_w23 := hidP (FH_w22.out.below hx)
      clear hx
      clear FS_w22 FM_w22 FH_w22
      go_wp2
      go_ret
      exact ⟨rfl, X.out.trans Xw23.out⟩
  · have HE : Hid (szLeft tn 1048576 = -1) := if_neg hle
    rw [HE.out] at HSC
    go_wp2_with fail
    rw [← hw0]
    clear hw0
    refine (HSC.out _).mono ?_
    rintro e w1 ⟨rfl, hx1⟩
    go_wp2
    go_ret
    exact ⟨rfl, X.out.trans hx1⟩
end Go.Proofs.YtcfgcacmmmhjcaaGreatDoor.fnExactAntipodeOf
