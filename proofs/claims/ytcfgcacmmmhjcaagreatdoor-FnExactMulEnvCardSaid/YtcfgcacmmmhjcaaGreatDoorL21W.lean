/-
  FnExactMulEnv: the walk.
-/
import Derived.Test.YtcfgcacmmmhjcaaGreatDoorEnvN
import Derived.Test.YtcfgcacmmmhjcaaGreatDoorLEnvZ
import Derived.Test.YtcfgcacmmmhjcaaGreatDoorOpn
import Derived.Test.YtcfgcacmmmhjcaaGreatDoorTie
import Derived.Test.YtcfgcacmmmhjcaaGreatDoorCards
namespace Go.Proofs.YtcfgcacmmmhjcaaGreatDoor.fnExactMulEnv
open Go.ChangeShapes Go.WideShapes Go.ChangeAt Go.RowKit
set_option linter.unusedVariables false

set_option maxRecDepth 100000 in
set_option maxHeartbeats 8000000 in
/-- The Go text returns true, and leaves what was there. -/
theorem walk (p d : Int) (ta : Option Addr) (tn tc : Nat) (ts : List Int) (a1 : Option Addr) (n1 c1 : Nat) (xs1 : List (List Int × Int)) (a2 : Option Addr) (n2 c2 : Nat) (xs2 : List (List Int × Int)) (w : World) (hc : IntsAt w ta tn ts) (h1 : TermsAt w a1 n1 xs1) (h2 : TermsAt w a2 n2 xs2) (hcn : tn ≤ 9223372036854775807) (hn1 : n1 ≤ 9223372036854775807) (hn2 : n2 ≤ 9223372036854775807) (hm : MaxL w) (htb : Tab w) :
    Calls Tryz.prog 6 #[algV p d ta tn tc, .slice a1 n1 c1, .slice a2 n2 c2] w fun e w' => e = .returned (.bool true) ∧ Ext w w' := by
  have hx0 := Ext.alloc w (.cells #[.int .i64 p, .int .i64 d, .slice ta tn tc] 24)
  have HF := hidP (fun w' (hx : Ext (w.alloc (.cells #[.int .i64 p, .int .i64 d, .slice ta tn tc] 24)) w') => (AlgAt.new w _ rfl p d ta tn tc 24).below hx)
  have X := hidP hx0
  have HT := hidP hc
  have HU1 := hidP h1
  have HU2 := hidP h2
  have HTb := hidP htb
  have HM := hidP hm
  clear hc h1 h2 hm hx0 htb
  have hz0 : w.heap.size < (w.alloc (.cells #[.int .i64 p, .int .i64 d, .slice ta tn tc] 24)).heap.size := by simp
  obtain ⟨⟨J1, J2⟩, hJ⟩ : ∃ J, J = mulRE p d ts xs1 xs2 := ⟨_, rfl⟩
  have HJ := hidP hJ
  clear hJ
  obtain ⟨w0, hw0⟩ : ∃ w0, w0 = w.alloc (.cells #[.int .i64 p, .int .i64 d, .slice ta tn tc] 24) := ⟨_, rfl⟩
  rw [← hw0] at X HF hz0
  have Hz0 := hidP hz0
  clear hz0
  have HSC := hidP (fun w' => szAlgebra_any p d ta tn tc 1048576 w' hcn (by omega) (by omega))
  obtain ⟨f0, f1, f2⟩ := HF.out w0 (Ext.refl _)
  go_enter Tryz.func6, Tryz.ntmps6
  by_cases hle : (tn : Int) ≤ 1048576
  · have HE : Hid (szLeft tn 1048576 = 1048576 - tn) := if_pos hle
    rw [HE.out] at HSC
    have hng : ¬ (1048576 - (tn : Int) < 0) := by omega
    go_wp2_with fail
    rw [← hw0]
    clear hw0
    refine (HSC.out _).mono ?_
    rintro e w1 ⟨rfl, hx⟩
    have Xw0 : Hid (Ext w0 w0) := hidP (Ext.refl w0)
    clear HSC f0 f1 f2
    have Xw1 := hidP (Xw0.out.trans hx)
    have Zw1 : Hid (w0.heap.size ≤ w1.heap.size) := hx.size
    clear hx
    have HS := hidP (szStepS_any a1 n1 c1 xs1 (1048576 - (tn : Int)) w1 (HU1.out.below (X.out.trans Xw1.out)) hn1 (by omega) (by omega))
    go_wp2_with fail
    refine HS.out.mono ?_
    clear HS
    rintro e w2 ⟨v1, hv1, rfl, hx⟩
    have Xw2 := hidP (Xw1.out.trans hx)
    have Zw2 : Hid (w1.heap.size ≤ w2.heap.size) := hx.size
    clear hx
    rcases hv1 with rfl | ⟨hv1a, hv1b⟩
    · go_wp2
      go_ret
      exact ⟨rfl, X.out.trans Xw2.out⟩
    · have hng1 : ¬ (v1 < 0) := by omega
      have hv1c : v1 ≤ 1048576 := by omega
      have Hv1 := hidP hv1b
      clear hv1b
      have HS := hidP (szStepS_any a2 n2 c2 xs2 v1 w2 (HU2.out.below (X.out.trans Xw2.out)) hn2 (by omega) (by omega))
      go_wp2_with fail
      refine HS.out.mono ?_
      clear HS
      rintro e w3 ⟨v2, hv2, rfl, hx⟩
      have Xw3 := hidP (Xw2.out.trans hx)
      have Zw3 : Hid (w2.heap.size ≤ w3.heap.size) := hx.size
      clear hx
      rcases hv2 with rfl | ⟨hv2a, hv2b⟩
      · go_wp2
        go_ret
        exact ⟨rfl, X.out.trans Xw3.out⟩
      · have hng2 : ¬ (v2 < 0) := by omega
        have hv2c : v2 ≤ 1048576 := by omega
        have Hv2 := hidP hv2b
        clear hv2b
        have hv1b := Hv1.out
        have hv2b := Hv2.out
        have hM1 : mkAt xs1 n1 ≤ 1048576 := by omega
        have hL1 := mkAt_len xs1 n1
        have hM2 : mkAt xs2 n2 ≤ 1048576 := by omega
        have hL2 := mkAt_len xs2 n2
        have htn : tn ≤ 1048576 := by omega
        clear hv1b hv2b
        have HTC := hidP (fun w' (hx : Ext w w') => toAlgebra_any p d ta tn tc ts w' (HT.out.below hx) htn)
        have HTS1 := hidP (fun w' (hx : Ext w w') => toStepS_any a1 n1 c1 xs1 w' (HU1.out.below hx) (by omega) (fun k hk => by have := mkAt_one xs1 hk; omega))
        have HTS2 := hidP (fun w' (hx : Ext w w') => toStepS_any a2 n2 c2 xs2 w' (HU2.out.below hx) (by omega) (fun k hk => by have := mkAt_one xs2 hk; omega))
        obtain ⟨f0, f1, f2⟩ := HF.out w3 Xw3.out
        go_wp2_with fail
        refine (HTC.out _ (X.out.trans Xw3.out)).mono ?_
        rintro e w4 ⟨CS, rfl, hC, hx⟩
        clear f0 f1 f2
        have FCS := hidP hC
        clear hC
        have Xw4 := hidP (Xw3.out.trans hx)
        have Zw4 : Hid (w3.heap.size ≤ w4.heap.size) := hx.size
        clear hx
        go_wp2_with fail
        refine (HTS1.out _ (X.out.trans Xw4.out)).mono ?_
        rintro e w5 ⟨PS1, KS1, rfl, hP, hx⟩
        have FPS1 := hidP hP
        clear hP
        have Xw5 := hidP (Xw4.out.trans hx)
        have Zw5 : Hid (w4.heap.size ≤ w5.heap.size) := hx.size
        have FCS_w5 := hidP (FCS.out.below hx)
        clear hx
        clear FCS
        go_wp2_with fail
        refine (HTS2.out _ (X.out.trans Xw5.out)).mono ?_
        rintro e w6 ⟨PS2, KS2, rfl, hP, hx⟩
        have FPS2 := hidP hP
        clear hP
        have Xw6 := hidP (Xw5.out.trans hx)
        have Zw6 : Hid (w5.heap.size ≤ w6.heap.size) := hx.size
        have FCS_w6 := hidP (FCS_w5.out.below hx)
        have FPS1_w6 := hidP (FPS1.out.below hx)
        clear hx
        clear FCS_w5 FPS1
        have HR := hidP (sMulEnv_any p d CS tn tn ts (some ⟨PS1, 0, none⟩) n1 n1 xs1 (some ⟨PS2, 0, none⟩) n2 n2 xs2 w6 FCS_w6.out.ints FPS1_w6.out.stepsAt FPS2.out.stepsAt (by omega) (by omega) (by omega) (by omega))
        unfold EnvRes at HR
        rw [← HJ.out] at HR
        dsimp only at HR
        go_wp2_with fail
        refine HR.out.mono ?_
        rintro e w7 ⟨aS, nS, cS, KS, rfl, hR, hx⟩
        clear HR
        have FS := hidP hR
        clear hR
        clear FCS_w6 FPS1_w6 FPS2
        have Xw7 := hidP (Xw6.out.trans hx)
        have Zw7 : Hid (w6.heap.size ≤ w7.heap.size) := hx.size
        clear hx
        obtain ⟨f0, f1, f2⟩ := HF.out w7 Xw7.out
        go_wp2_with fail
        refine (HTC.out _ (X.out.trans Xw7.out)).mono ?_
        rintro e w8 ⟨CX, rfl, hC, hx⟩
        clear f0 f1 f2
        have FCX := hidP hC
        have LCX : Hid (∀ b o, CX = some ⟨b, o, none⟩ → w7.heap.size ≤ b ∧ b < w8.heap.size) := fun b o e => hC.at_base b o e
        clear hC
        have Xw8 := hidP (Xw7.out.trans hx)
        have Zw8 : Hid (w7.heap.size ≤ w8.heap.size) := hx.size
        have FS_w8 := hidP (FS.out.below hx)
        clear hx
        clear FS
        go_wp2_with fail
        have hxa := Ext.alloc w8 (.cells #[.int .i64 p, .int .i64 d, .slice CX tn tn] 28)
        have FB := hidP (AlgAt.new w8 _ rfl p d CX tn tn 28)
        have hzz : w8.heap.size < (w8.alloc (.cells #[.int .i64 p, .int .i64 d, .slice CX tn tn] 28)).heap.size := by simp
        obtain ⟨w9, hww⟩ : ∃ x, x = w8.alloc (.cells #[.int .i64 p, .int .i64 d, .slice CX tn tn] 28) := ⟨_, rfl⟩
        rw [← hww] at hxa FB hzz ⊢
        clear hww
        have Hzz := hidP hzz
        clear hzz
        have Xw9 := hidP (Xw8.out.trans hxa)
        have Zw9 : Hid (w8.heap.size ≤ w9.heap.size) := hxa.size
        have FS_w9 := hidP (FS_w8.out.below hxa)
        have FCX_w9 := hidP (FCX.out.below hxa)
        clear hxa
        clear FS_w8 FCX
        refine (HTS1.out _ (X.out.trans Xw9.out)).mono ?_
        rintro e w10 ⟨PX1, KX1, rfl, hP, hx⟩
        have FPX1 := hidP hP
        clear hP
        have Xw10 := hidP (Xw9.out.trans hx)
        have Zw10 : Hid (w9.heap.size ≤ w10.heap.size) := hx.size
        have FS_w10 := hidP (FS_w9.out.below hx)
        have FCX_w10 := hidP (FCX_w9.out.below hx)
        have FB_w10 := hidP (FB.out.below hx)
        clear hx
        clear FS_w9 FCX_w9 FB
        go_wp2_with fail
        refine (HTS2.out _ (X.out.trans Xw10.out)).mono ?_
        rintro e w11 ⟨PX2, KX2, rfl, hP, hx⟩
        have FPX2 := hidP hP
        clear hP
        have Xw11 := hidP (Xw10.out.trans hx)
        have Zw11 : Hid (w10.heap.size ≤ w11.heap.size) := hx.size
        have FS_w11 := hidP (FS_w10.out.below hx)
        have FCX_w11 := hidP (FCX_w10.out.below hx)
        have FB_w11 := hidP (FB_w10.out.below hx)
        have FPX1_w11 := hidP (FPX1.out.below hx)
        clear hx
        clear FS_w10 FCX_w10 FB_w10 FPX1
        obtain ⟨y0, y1, y2⟩ := FB_w11.out
        have HR := hidP (mulEnv_any p d CX tn tn ts (some ⟨PX1, 0, none⟩) n1 n1 xs1 (some ⟨PX2, 0, none⟩) n2 n2 xs2 w11 FCX_w11.out.ints FPX1_w11.out.stepsAt FPX2.out.stepsAt (by omega) (by omega) (by omega) (by omega) (HM.out.below (X.out.trans Xw11.out)) (HTb.out.below (X.out.trans Xw11.out)))
        unfold EnvRes at HR
        rw [← HJ.out] at HR
        dsimp only at HR
        go_wp2_with fail
        refine HR.out.mono ?_
        rintro e w12 ⟨aG, nG, cG, KG, rfl, hR, hx⟩
        clear HR
        have FG := hidP hR
        clear hR
        clear y0 y1 y2
        have Xw12 := hidP (Xw11.out.trans hx)
        have Zw12 : Hid (w11.heap.size ≤ w12.heap.size) := hx.size
        have FS_w12 := hidP (FS_w11.out.below hx)
        have FCX_w12 := hidP (FCX_w11.out.below hx)
        have FB_w12 := hidP (FB_w11.out.below hx)
        have FPX1_w12 := hidP (FPX1_w11.out.below hx)
        have FPX2_w12 := hidP (FPX2.out.below hx)
        clear hx
        clear FS_w11 FCX_w11 FB_w11 FPX1_w11 FPX2
        have hJJ : (J1 != J1) = false := by simp
        have HQ := hidP (fun w' (hx : Ext w12 w') => eqStepS_any aG aS nG nS cG cS J2 J2 w' (FG.out.below hx).termsAt (FS_w12.out.below hx).termsAt FG.out.small FS_w12.out.small)
        simp only [beq_self_eq_true] at HQ
        go_wp2_with fail
        refine (HQ.out _ (Ext.refl _)).mono ?_
        rintro e w13 ⟨rfl, hx⟩
        clear HQ
        have Xw13 := hidP (Xw12.out.trans hx)
        have Zw13 : Hid (w12.heap.size ≤ w13.heap.size) := hx.size
        have FS_w13 := hidP (FS_w12.out.below hx)
        have FCX_w13 := hidP (FCX_w12.out.below hx)
        have FB_w13 := hidP (FB_w12.out.below hx)
        have FPX1_w13 := hidP (FPX1_w12.out.below hx)
        have FPX2_w13 := hidP (FPX2_w12.out.below hx)
        have FG_w13 := hidP (FG.out.below hx)
        clear hx
        clear FS_w12 FCX_w12 FB_w12 FPX1_w12 FPX2_w12 FG
        have hE : Ext w13 w13.drew := Ext.drew w13
        have HTCd := hidP (fun w' (hx : Ext w13 w') => (HTC.out w' ((X.out.trans Xw13.out).trans hx)).mono (fun (e : Ending) (w'' : World) ⟨a', he, ho, hx'⟩ => (⟨a', he, OwnI.base ho hx.size, hx'⟩ : ∃ a', e = Ending.returned (algV p d a' tn tn) ∧ OwnI w'' w13.heap.size a' tn tn ts ∧ Ext w' w'')))
        have HQ := hidP (fun w' (hx : Ext w13 w') (a' : Option Addr) (ho : OwnI w' w13.heap.size a' tn tn ts) => eqAlgebra_any p d p d CX a' tn tn tn tn ts ts w' (FCX_w13.out.below hx).ints ho.ints (by omega) (by omega))
        simp only [and_self, decide_true] at HQ
        go_wp2
        (refine walkR_start (fun w' => Ext w13 w') 5 (by kernel_rfl) ?_; simp only [numbered, List.take_succ_cons, List.take_zero, Nat.zero_add, Nat.reduceAdd, List.length_cons, List.length_nil])
        (repeat (first | (refine walkR_still (v := ?_) rfl (by decide +kernel) rfl (fun _ _ _ h => h) hE ?_ ?_; rotate_left; (focus (intro w' hw'; obtain ⟨f0, f1, f2⟩ := HF.out w' (Xw13.out.trans hw'); obtain ⟨y0, y1, y2⟩ := FB_w13.out.below hw'; go_simp; all_goals (with_reducible rfl))); simp only [Act.put, List.setIfInBounds_toArray, List.set_cons_zero, List.set_cons_succ]) | (refine walkR_skip rfl (by decide +kernel) rfl (fun _ _ _ h => h) hE ?_; simp only [Act.put, List.setIfInBounds_toArray, List.set_cons_zero, List.set_cons_succ])))
        (refine walkR_only (fun w' => Ext w13 w') rfl (by decide +kernel) rfl (fun _ h => h) ?_; intro K hK; go_simp; refine (HTCd.out _ hE).mono ?_; rintro e wd ⟨ad, rfl, hod, hxd⟩; refine hK _ _ (hE.trans hxd) ?_; clear hK K; (try simp only [Act.put, List.setIfInBounds_toArray, List.set_cons_zero, List.set_cons_succ]))
        have hE1 := hE.trans hxd
        have HQ1 := hidP (HQ.out _ hE1 ad hod)
        clear hxd hod
        (refine walkR_only (fun w' => Ext w13 w') rfl (by decide +kernel) rfl (fun _ h => h) ?_; intro K hK; go_simp; refine (HQ1.out).mono ?_; rintro e w14 ⟨rfl, hxd⟩; refine hK _ _ (hE1.trans hxd) ?_; clear hK K; (try simp only [Act.put, List.setIfInBounds_toArray, List.set_cons_zero, List.set_cons_succ]))
        have hx := hE1.trans hxd
        have hxx := hx
        clear hxd hE hE1 HQ HQ1 HTCd
        have Xw14 := hidP (Xw13.out.trans hx)
        have Zw14 : Hid (w13.heap.size ≤ w14.heap.size) := hx.size
        have FS_w14 := hidP (FS_w13.out.below hx)
        have FCX_w14 := hidP (FCX_w13.out.below hx)
        have FB_w14 := hidP (FB_w13.out.below hx)
        have FPX1_w14 := hidP (FPX1_w13.out.below hx)
        have FPX2_w14 := hidP (FPX2_w13.out.below hx)
        have FG_w14 := hidP (FG_w13.out.below hx)
        clear FS_w13 FCX_w13 FB_w13 FPX1_w13 FPX2_w13 FG_w13
        clear hx
        (repeat (first | (refine walkR_still (v := ?_) rfl (by decide +kernel) rfl (fun _ _ _ h => h) hxx ?_ ?_; rotate_left; (focus (intro w' hw'; skip; go_simp; all_goals (with_reducible rfl))); simp only [Act.put, List.setIfInBounds_toArray, List.set_cons_zero, List.set_cons_succ]) | (refine walkR_skip rfl (by decide +kernel) rfl (fun _ _ _ h => h) hxx ?_; simp only [Act.put, List.setIfInBounds_toArray, List.set_cons_zero, List.set_cons_succ])))
        (refine walkR_tail (by rfl) (by kernel_rfl) ?_; simp only [List.drop_succ_cons, List.drop_zero])
        clear hxx
        go_wp2_with fail
        refine (HTS1.out _ (X.out.trans Xw14.out)).mono ?_
        rintro e w15 ⟨gd, Kd, rfl, hP, hx⟩
        have FD := hidP hP
        clear hP
        have Xw15 := hidP (Xw14.out.trans hx)
        have Zw15 : Hid (w14.heap.size ≤ w15.heap.size) := hx.size
        have FS_w15 := hidP (FS_w14.out.below hx)
        have FCX_w15 := hidP (FCX_w14.out.below hx)
        have FB_w15 := hidP (FB_w14.out.below hx)
        have FPX1_w15 := hidP (FPX1_w14.out.below hx)
        have FPX2_w15 := hidP (FPX2_w14.out.below hx)
        have FG_w15 := hidP (FG_w14.out.below hx)
        clear hx
        clear FS_w14 FCX_w14 FB_w14 FPX1_w14 FPX2_w14 FG_w14
        have FDD := hidP (FD.out.below (Ext.refl _))
        clear FD
        have HQ := hidP (fun w' (hx : Ext w15 w') => eqStepS_any (some ⟨PX1, 0, none⟩) (some ⟨gd, 0, none⟩) n1 n1 n1 n1 xs1 xs1 w' (FPX1_w15.out.below hx).termsAt (FDD.out.below hx).termsAt FPX1_w15.out.small FDD.out.small)
        simp only [beq_self_eq_true] at HQ
        go_wp2_with fail
        refine (HQ.out _ (Ext.refl _)).mono ?_
        rintro e w16 ⟨rfl, hx⟩
        clear HQ
        have Xw16 := hidP (Xw15.out.trans hx)
        have Zw16 : Hid (w15.heap.size ≤ w16.heap.size) := hx.size
        have FS_w16 := hidP (FS_w15.out.below hx)
        have FCX_w16 := hidP (FCX_w15.out.below hx)
        have FB_w16 := hidP (FB_w15.out.below hx)
        have FPX1_w16 := hidP (FPX1_w15.out.below hx)
        have FPX2_w16 := hidP (FPX2_w15.out.below hx)
        have FG_w16 := hidP (FG_w15.out.below hx)
        clear hx
        clear FS_w15 FCX_w15 FB_w15 FPX1_w15 FPX2_w15 FG_w15
        clear FDD
        go_wp2_with fail
        refine (HTS2.out _ (X.out.trans Xw16.out)).mono ?_
        rintro e w17 ⟨gd, Kd, rfl, hP, hx⟩
        have FD := hidP hP
        clear hP
        have Xw17 := hidP (Xw16.out.trans hx)
        have Zw17 : Hid (w16.heap.size ≤ w17.heap.size) := hx.size
        have FS_w17 := hidP (FS_w16.out.below hx)
        have FCX_w17 := hidP (FCX_w16.out.below hx)
        have FB_w17 := hidP (FB_w16.out.below hx)
        have FPX1_w17 := hidP (FPX1_w16.out.below hx)
        have FPX2_w17 := hidP (FPX2_w16.out.below hx)
        have FG_w17 := hidP (FG_w16.out.below hx)
        clear hx
        clear FS_w16 FCX_w16 FB_w16 FPX1_w16 FPX2_w16 FG_w16
        have FDD := hidP (FD.out.below (Ext.refl _))
        clear FD
        have HQ := hidP (fun w' (hx : Ext w17 w') => eqStepS_any (some ⟨PX2, 0, none⟩) (some ⟨gd, 0, none⟩) n2 n2 n2 n2 xs2 xs2 w' (FPX2_w17.out.below hx).termsAt (FDD.out.below hx).termsAt FPX2_w17.out.small FDD.out.small)
        simp only [beq_self_eq_true] at HQ
        go_wp2_with fail
        refine (HQ.out _ (Ext.refl _)).mono ?_
        rintro e w18 ⟨rfl, hx⟩
        clear HQ
        have Xw18 := hidP (Xw17.out.trans hx)
        have Zw18 : Hid (w17.heap.size ≤ w18.heap.size) := hx.size
        have FS_w18 := hidP (FS_w17.out.below hx)
        have FCX_w18 := hidP (FCX_w17.out.below hx)
        have FB_w18 := hidP (FB_w17.out.below hx)
        have FPX1_w18 := hidP (FPX1_w17.out.below hx)
        have FPX2_w18 := hidP (FPX2_w17.out.below hx)
        have FG_w18 := hidP (FG_w17.out.below hx)
        clear hx
        clear FS_w17 FCX_w17 FB_w17 FPX1_w17 FPX2_w17 FG_w17
        clear FDD
        have HZ : Hid (w0.heap.size ≤ w7.heap.size ∧ w7.heap.size ≤ w8.heap.size ∧ w8.heap.size ≤ w9.heap.size ∧ w9.heap.size ≤ w10.heap.size ∧ w10.heap.size ≤ w11.heap.size ∧ w11.heap.size ≤ w12.heap.size) := by
          refine ⟨Xw7.out.size, Zw8.out, Zw9.out, Zw10.out, Zw11.out, Zw12.out⟩
        obtain ⟨y0, y1, y2⟩ := FB_w18.out
        have HMk := hidP (markAlgebra_any p d _ CX tn tn 1 ts w18 FCX_w18.out (by omega) (by omega) (by omega))
        go_wp2_with fail
        refine HMk.out.mono ?_
        rintro e w19 ⟨rfl, hu⟩
        clear HMk y0 y1 y2
        have hub := hu.updB LCX.out
        clear hu
        clear FCX_w18 FB_w18
        have Xw19 : Hid (Ext w0 w19) := hub.below Xw18.out Xw18.out.size (by have hZ := HZ.out; omega)
        have Zw19 : Hid (w18.heap.size ≤ w19.heap.size) := hub.size
        have FS_w19 := hidP (FS_w18.out.updB_lo hub (by have hZ := HZ.out; omega))
        have FPX1_w19 := hidP (FPX1_w18.out.updB_hi hub (by have hZ := HZ.out; omega))
        have FPX2_w19 := hidP (FPX2_w18.out.updB_hi hub (by have hZ := HZ.out; omega))
        have FG_w19 := hidP (FG_w18.out.updB_hi hub (by have hZ := HZ.out; omega))
        clear hub FS_w18 FPX1_w18 FPX2_w18 FG_w18
        have HMk := hidP (markStepS_any _ _ (some ⟨PX1, 0, none⟩) n1 n1 KX1 xs1 (1 + (tn : Int)) w19 FPX1_w19.out (by omega) (by omega) (by omega))
        go_wp2_with fail
        refine HMk.out.mono ?_
        rintro e w20 ⟨rfl, ym, _, _, hub⟩
        clear HMk
        clear FPX1_w19
        have Xw20 : Hid (Ext w0 w20) := hub.below Xw19.out Xw19.out.size (by have hZ := HZ.out; omega)
        have Zw20 : Hid (w19.heap.size ≤ w20.heap.size) := hub.size
        have FS_w20 := hidP (FS_w19.out.updB_lo hub (by have hZ := HZ.out; omega))
        have FPX2_w20 := hidP (FPX2_w19.out.updB_hi hub (by have hZ := HZ.out; omega))
        have FG_w20 := hidP (FG_w19.out.updB_hi hub (by have hZ := HZ.out; omega))
        clear hub FS_w19 FPX2_w19 FG_w19
        have HMk := hidP (markStepS_any _ _ (some ⟨PX2, 0, none⟩) n2 n2 KX2 xs2 ((1 + (tn : Int)) + (mkAt xs1 n1 : Int)) w20 FPX2_w20.out (by omega) (by omega) (by omega))
        go_wp2_with fail
        refine HMk.out.mono ?_
        rintro e w21 ⟨rfl, ym, _, _, hub⟩
        clear HMk
        clear FPX2_w20
        have Xw21 : Hid (Ext w0 w21) := hub.below Xw20.out Xw20.out.size (by have hZ := HZ.out; omega)
        have Zw21 : Hid (w20.heap.size ≤ w21.heap.size) := hub.size
        have FS_w21 := hidP (FS_w20.out.updB_lo hub (by have hZ := HZ.out; omega))
        have FG_w21 := hidP (FG_w20.out.updB_hi hub (by have hZ := HZ.out; omega))
        clear hub FS_w20 FG_w20
        have hk0 : ¬ ((((1 + (tn : Int)) + (mkAt xs1 n1 : Int)) + (mkAt xs2 n2 : Int)) < 0) := by omega
        have HQ := hidP (fun w' (hx : Ext w21 w') => eqStepS_any aG aS nG nS cG cS J2 J2 w' (FG_w21.out.below hx).termsAt (FS_w21.out.below hx).termsAt FG_w21.out.small FS_w21.out.small)
        simp only [beq_self_eq_true] at HQ
        go_wp2_with fail
        refine (HQ.out _ (Ext.refl _)).mono ?_
        rintro e w22 ⟨rfl, hx⟩
        clear HQ
        have Xw22 := hidP (Xw21.out.trans hx)
        have Zw22 : Hid (w21.heap.size ≤ w22.heap.size) := hx.size
        have FS_w22 := hidP (FS_w21.out.below hx)
        have FG_w22 := hidP (FG_w21.out.below hx)
        clear hx
        clear FS_w21 FG_w21
        have hJn : mkAt J2 nG ≤ 10000000 := termsJ_smallE (HJ.out ▸ mulRE_small p d ts xs1 xs2) FG_w22.out.xl
        have HMk := hidP (markStepS_any _ _ aG nG cG KG J2 1 w22 FG_w22.out hJn (by omega) (by omega))
        go_wp2_with fail
        refine HMk.out.mono ?_
        rintro e w23 ⟨rfl, ym, ho, HMm, hub⟩
        clear HMk
        have FM := hidP ho
        clear ho
        clear FG_w22
        have Xw23 : Hid (Ext w0 w23) := hub.below Xw22.out Xw22.out.size (by have hZ := HZ.out; omega)
        have Zw23 : Hid (w22.heap.size ≤ w23.heap.size) := hub.size
        have FS_w23 := hidP (FS_w22.out.updB_lo hub (by have hZ := HZ.out; omega))
        clear hub FS_w22
        have hq0 : ¬ ((1 : Int) + (mkAt J2 nG : Int) < 0) := by omega
        have hqq : ((1 : Int) + (mkAt J2 nG : Int) != 1 + (mkAt J2 nG : Int)) = false := by simp
        have HH := hidP (heldStepS_any aG nG cG J2 ym 1 w23 FM.out.termsAt HMm.out hJn (by omega) (by omega))
        go_wp2_with fail
        refine HH.out.mono ?_
        rintro e w24 ⟨rfl, hx⟩
        clear HH
        have Xw24 := hidP (Xw23.out.trans hx)
        have Zw24 : Hid (w23.heap.size ≤ w24.heap.size) := hx.size
        have FS_w24 := hidP (FS_w23.out.below hx)
        have FM_w24 := hidP (FM.out.below hx)
        clear hx
        clear FS_w23 FM
        obtain ⟨f0, f1, f2⟩ := HF.out w24 Xw24.out
        go_wp2_with fail
        refine (HTC.out _ (X.out.trans Xw24.out)).mono ?_
        rintro e w25 ⟨CH, rfl, hC, hx⟩
        clear f0 f1 f2
        have FCH := hidP hC
        clear hC
        have Xw25 := hidP (Xw24.out.trans hx)
        have Zw25 : Hid (w24.heap.size ≤ w25.heap.size) := hx.size
        have FS_w25 := hidP (FS_w24.out.below hx)
        have FM_w25 := hidP (FM_w24.out.below hx)
        clear hx
        clear FS_w24 FM_w24
        go_wp2_with fail
        refine (HTS1.out _ (X.out.trans Xw25.out)).mono ?_
        rintro e w26 ⟨PH1, KH1, rfl, hP, hx⟩
        have FPH1 := hidP hP
        clear hP
        have Xw26 := hidP (Xw25.out.trans hx)
        have Zw26 : Hid (w25.heap.size ≤ w26.heap.size) := hx.size
        have FS_w26 := hidP (FS_w25.out.below hx)
        have FM_w26 := hidP (FM_w25.out.below hx)
        have FCH_w26 := hidP (FCH.out.below hx)
        clear hx
        clear FS_w25 FM_w25 FCH
        go_wp2_with fail
        refine (HTS2.out _ (X.out.trans Xw26.out)).mono ?_
        rintro e w27 ⟨PH2, KH2, rfl, hP, hx⟩
        have FPH2 := hidP hP
        clear hP
        have Xw27 := hidP (Xw26.out.trans hx)
        have Zw27 : Hid (w26.heap.size ≤ w27.heap.size) := hx.size
        have FS_w27 := hidP (FS_w26.out.below hx)
        have FM_w27 := hidP (FM_w26.out.below hx)
        have FCH_w27 := hidP (FCH_w26.out.below hx)
        have FPH1_w27 := hidP (FPH1.out.below hx)
        clear hx
        clear FS_w26 FM_w26 FCH_w26 FPH1
        have HR := hidP (mulEnv_any p d CH tn tn ts (some ⟨PH1, 0, none⟩) n1 n1 xs1 (some ⟨PH2, 0, none⟩) n2 n2 xs2 w27 FCH_w27.out.ints FPH1_w27.out.stepsAt FPH2.out.stepsAt (by omega) (by omega) (by omega) (by omega) (HM.out.below (X.out.trans Xw27.out)) (HTb.out.below (X.out.trans Xw27.out)))
        unfold EnvRes at HR
        rw [← HJ.out] at HR
        dsimp only at HR
        go_wp2_with fail
        refine HR.out.mono ?_
        rintro e w28 ⟨aH, nH, cH, KH, rfl, hR, hx⟩
        clear HR
        have FH := hidP hR
        clear hR
        clear FCH_w27
        clear FPH1_w27
        clear FPH2
        have Xw28 := hidP (Xw27.out.trans hx)
        have Zw28 : Hid (w27.heap.size ≤ w28.heap.size) := hx.size
        have FS_w28 := hidP (FS_w27.out.below hx)
        have FM_w28 := hidP (FM_w27.out.below hx)
        clear hx
        clear FS_w27 FM_w27
        have HQ := hidP (fun w' (hx : Ext w28 w') => eqStepS_any aH aS nH nS cH cS J2 J2 w' (FH.out.below hx).termsAt (FS_w28.out.below hx).termsAt FH.out.small FS_w28.out.small)
        simp only [beq_self_eq_true] at HQ
        go_wp2_with fail
        refine (HQ.out _ (Ext.refl _)).mono ?_
        rintro e w29 ⟨rfl, hx⟩
        clear HQ
        have Xw29 := hidP (Xw28.out.trans hx)
        have Zw29 : Hid (w28.heap.size ≤ w29.heap.size) := hx.size
        have FS_w29 := hidP (FS_w28.out.below hx)
        have FM_w29 := hidP (FM_w28.out.below hx)
        have FH_w29 := hidP (FH.out.below hx)
        clear hx
        clear FS_w28 FM_w28 FH
        have HH := hidP (heldStepS_any aG nG cG J2 ym 1 w29 FM_w29.out.termsAt HMm.out hJn (by omega) (by omega))
        go_wp2_with fail
        refine HH.out.mono ?_
        rintro e w30 ⟨rfl, hx⟩
        clear HH
        have Xw30 := hidP (Xw29.out.trans hx)
        have Zw30 : Hid (w29.heap.size ≤ w30.heap.size) := hx.size
        have FS_w30 := hidP (FS_w29.out.below hx)
        have FM_w30 := hidP (FM_w29.out.below hx)
        have FH_w30 := hidP (FH_w29.out.below hx)
        clear hx
        clear FS_w29 FM_w29 FH_w29
        go_wp2
        go_ret
        exact ⟨rfl, X.out.trans Xw30.out⟩
  · have HE : Hid (szLeft tn 1048576 = -1) := if_neg hle
    rw [HE.out] at HSC
    go_wp2_with fail
    rw [← hw0]
    clear hw0
    refine (HSC.out _).mono ?_
    rintro e w1 ⟨rfl, hx1⟩
    go_wp2
    go_ret
    exact ⟨rfl, X.out.trans hx1⟩
end Go.Proofs.YtcfgcacmmmhjcaaGreatDoor.fnExactMulEnv
