/-
  FnExactGeneratorOf: the walk.
-/
import Derived.Test.YtcfgcacmmmhjcaaGreatDoorEnvW
import Derived.Test.YtcfgcacmmmhjcaaGreatDoorLEnvZ
import Derived.Test.YtcfgcacmmmhjcaaGreatDoorOpn
import Derived.Test.YtcfgcacmmmhjcaaGreatDoorTie
import Derived.Test.YtcfgcacmmmhjcaaGreatDoorCards
namespace Go.Proofs.YtcfgcacmmmhjcaaGreatDoor.fnExactGeneratorOf
open Go.ChangeShapes Go.WideShapes Go.ChangeAt Go.RowKit
set_option linter.unusedVariables false

theorem ownI_hi {w w' : World} {B' B U n c : Nat} {a : Option Addr} {xs : List Int} (h : OwnI w B' a n c xs) (hu : UpdB w w' B U) (hB : U ≤ B') : OwnI w' B' a n c xs :=
  h.updB hu fun b o e => .inr (Nat.le_trans hB (h.at_base b o e).1)

set_option maxRecDepth 100000 in
set_option maxHeartbeats 8000000 in
/-- The Go text returns true, and leaves what was there. -/
theorem walk (p d : Int) (ta : Option Addr) (tn tc : Nat) (ts : List Int) (a1 : Option Addr) (n1 c1 : Nat) (xs1 : List Int) (w : World) (hc : IntsAt w ta tn ts) (h1 : IntsAt w a1 n1 xs1) (hcn : tn ≤ 9223372036854775807) (hn1 : n1 ≤ 9223372036854775807) (hm : MaxL w) (htb : Tab w) :
    Calls Tryz.prog 3 #[algV p d ta tn tc, .slice a1 n1 c1] w fun e w' => e = .returned (.bool true) ∧ Ext w w' := by
  have hx0 := Ext.alloc w (.cells #[.int .i64 p, .int .i64 d, .slice ta tn tc] 24)
  have HF := hidP (fun w' (hx : Ext (w.alloc (.cells #[.int .i64 p, .int .i64 d, .slice ta tn tc] 24)) w') => (AlgAt.new w _ rfl p d ta tn tc 24).below hx)
  have X := hidP hx0
  have HT := hidP hc
  have HU1 := hidP h1
  have HTb := hidP htb
  have HM := hidP hm
  clear hc h1 hm hx0 htb
  have hz0 : w.heap.size < (w.alloc (.cells #[.int .i64 p, .int .i64 d, .slice ta tn tc] 24)).heap.size := by simp
  obtain ⟨J2, hJ⟩ : ∃ J, J = genR p d ts xs1 := ⟨_, rfl⟩
  have HJ := hidP hJ
  clear hJ
  obtain ⟨w0, hw0⟩ : ∃ w0, w0 = w.alloc (.cells #[.int .i64 p, .int .i64 d, .slice ta tn tc] 24) := ⟨_, rfl⟩
  rw [← hw0] at X HF hz0
  have Hz0 := hidP hz0
  clear hz0
  have HSC := hidP (fun w' => szAlgebra_any p d ta tn tc 1048576 w' hcn (by omega) (by omega))
  obtain ⟨f0, f1, f2⟩ := HF.out w0 (Ext.refl _)
  go_enter Tryz.func3, Tryz.ntmps3
  by_cases hi1 : (n1 : Int) ≤ 1048576
  rotate_left
  · have hi1n : 1048576 < (n1 : Int) := by omega
    go_wp2
    go_ret
    exact ⟨rfl, Ext.alloc _ _⟩
  have hi1n : ¬ (1048576 < (n1 : Int)) := by omega
  have hi1m : n1 ≤ 1048576 := by omega
  by_cases hle : (tn : Int) ≤ 1048576
  · have HE : Hid (szLeft tn 1048576 = 1048576 - tn) := if_pos hle
    rw [HE.out] at HSC
    have hng : ¬ (1048576 - (tn : Int) < 0) := by omega
    go_wp2_with fail
    rw [← hw0]
    clear hw0
    refine (HSC.out _).mono ?_
    rintro e w1 ⟨rfl, hx⟩
    have Xw0 : Hid (Ext w0 w0) := hidP (Ext.refl w0)
    clear HSC f0 f1 f2
    have Xw1 := hidP (Xw0.out.trans hx)
    have Zw1 : Hid (w0.heap.size ≤ w1.heap.size) := hx.size
    clear hx
    have htn : tn ≤ 1048576 := by omega
    have HTC := hidP (fun w' (hx : Ext w w') => toAlgebra_any p d ta tn tc ts w' (HT.out.below hx) htn)
    have HTS1 := hidP (fun w' (hx : Ext w w') => toIntS_any a1 n1 c1 xs1 w' (HU1.out.below hx) hi1m)
    obtain ⟨f0, f1, f2⟩ := HF.out w1 Xw1.out
    go_wp2_with fail
    refine (HTC.out _ (X.out.trans Xw1.out)).mono ?_
    rintro e w2 ⟨CS, rfl, hC, hx⟩
    clear f0 f1 f2
    have FCS := hidP hC
    clear hC
    have Xw2 := hidP (Xw1.out.trans hx)
    have Zw2 : Hid (w1.heap.size ≤ w2.heap.size) := hx.size
    clear hx
    go_wp2_with fail
    refine (HTS1.out _ (X.out.trans Xw2.out)).mono ?_
    rintro e w3 ⟨PS1, rfl, hP, hx⟩
    have FPS1 := hidP hP
    clear hP
    have Xw3 := hidP (Xw2.out.trans hx)
    have Zw3 : Hid (w2.heap.size ≤ w3.heap.size) := hx.size
    have FCS_w3 := hidP (FCS.out.below hx)
    clear hx
    clear FCS
    have HR := hidP (sGeneratorOf_any p d CS tn tn ts PS1 n1 n1 xs1 w3 FCS_w3.out.ints FPS1.out.ints (by omega) (by omega) (by omega))
    unfold EnvResL at HR
    rw [← HJ.out] at HR
    go_wp2_with fail
    refine HR.out.mono ?_
    rintro e w4 ⟨aS, nS, cS, KS, rfl, hR, hx⟩
    clear HR
    have FS := hidP hR
    clear hR
    clear FCS_w3 FPS1
    have Xw4 := hidP (Xw3.out.trans hx)
    have Zw4 : Hid (w3.heap.size ≤ w4.heap.size) := hx.size
    clear hx
    obtain ⟨f0, f1, f2⟩ := HF.out w4 Xw4.out
    go_wp2_with fail
    refine (HTC.out _ (X.out.trans Xw4.out)).mono ?_
    rintro e w5 ⟨CX, rfl, hC, hx⟩
    clear f0 f1 f2
    have FCX := hidP hC
    have LCX : Hid (∀ b o, CX = some ⟨b, o, none⟩ → w4.heap.size ≤ b ∧ b < w5.heap.size) := fun b o e => hC.at_base b o e
    clear hC
    have Xw5 := hidP (Xw4.out.trans hx)
    have Zw5 : Hid (w4.heap.size ≤ w5.heap.size) := hx.size
    have FS_w5 := hidP (FS.out.below hx)
    clear hx
    clear FS
    go_wp2_with fail
    have hxa := Ext.alloc w5 (.cells #[.int .i64 p, .int .i64 d, .slice CX tn tn] 28)
    have FB := hidP (AlgAt.new w5 _ rfl p d CX tn tn 28)
    have hzz : w5.heap.size < (w5.alloc (.cells #[.int .i64 p, .int .i64 d, .slice CX tn tn] 28)).heap.size := by simp
    obtain ⟨w6, hww⟩ : ∃ x, x = w5.alloc (.cells #[.int .i64 p, .int .i64 d, .slice CX tn tn] 28) := ⟨_, rfl⟩
    rw [← hww] at hxa FB hzz ⊢
    clear hww
    have Hzz := hidP hzz
    clear hzz
    have Xw6 := hidP (Xw5.out.trans hxa)
    have Zw6 : Hid (w5.heap.size ≤ w6.heap.size) := hxa.size
    have FS_w6 := hidP (FS_w5.out.below hxa)
    have FCX_w6 := hidP (FCX.out.below hxa)
    clear hxa
    clear FS_w5 FCX
    refine (HTS1.out _ (X.out.trans Xw6.out)).mono ?_
    rintro e w7 ⟨PX1, rfl, hP, hx⟩
    have LPX1 : Hid (∀ b o, PX1 = some ⟨b, o, none⟩ → w6.heap.size ≤ b ∧ b < w7.heap.size) := fun b o e => hP.at_base b o e
    have FPX1 := hidP hP
    clear hP
    have Xw7 := hidP (Xw6.out.trans hx)
    have Zw7 : Hid (w6.heap.size ≤ w7.heap.size) := hx.size
    have FS_w7 := hidP (FS_w6.out.below hx)
    have FCX_w7 := hidP (FCX_w6.out.below hx)
    have FB_w7 := hidP (FB.out.below hx)
    clear hx
    clear FS_w6 FCX_w6 FB
    obtain ⟨y0, y1, y2⟩ := FB_w7.out
    have HR := hidP (generatorOf_any p d CX tn tn ts PX1 n1 n1 xs1 w7 FCX_w7.out.ints FPX1.out.ints (by omega) (by omega) (by omega) (HM.out.below (X.out.trans Xw7.out)) (HTb.out.below (X.out.trans Xw7.out)))
    unfold EnvResL at HR
    rw [← HJ.out] at HR
    go_wp2_with fail
    refine HR.out.mono ?_
    rintro e w8 ⟨aG, nG, cG, KG, rfl, hR, hx⟩
    clear HR
    have FG := hidP hR
    clear hR
    clear y0 y1 y2
    have Xw8 := hidP (Xw7.out.trans hx)
    have Zw8 : Hid (w7.heap.size ≤ w8.heap.size) := hx.size
    have FS_w8 := hidP (FS_w7.out.below hx)
    have FCX_w8 := hidP (FCX_w7.out.below hx)
    have FB_w8 := hidP (FB_w7.out.below hx)
    have FPX1_w8 := hidP (FPX1.out.below hx)
    clear hx
    clear FS_w7 FCX_w7 FB_w7 FPX1
    have HQ := hidP (fun w' (hx : Ext w8 w') => eqStepS_any aG aS nG nS cG cS J2 J2 w' (FG.out.below hx).termsAt (FS_w8.out.below hx).termsAt FG.out.small FS_w8.out.small)
    simp only [beq_self_eq_true] at HQ
    go_wp2_with fail
    refine (HQ.out _ (Ext.refl _)).mono ?_
    rintro e w9 ⟨rfl, hx⟩
    clear HQ
    have Xw9 := hidP (Xw8.out.trans hx)
    have Zw9 : Hid (w8.heap.size ≤ w9.heap.size) := hx.size
    have FS_w9 := hidP (FS_w8.out.below hx)
    have FCX_w9 := hidP (FCX_w8.out.below hx)
    have FB_w9 := hidP (FB_w8.out.below hx)
    have FPX1_w9 := hidP (FPX1_w8.out.below hx)
    have FG_w9 := hidP (FG.out.below hx)
    clear hx
    clear FS_w8 FCX_w8 FB_w8 FPX1_w8 FG
    have hE : Ext w9 w9.drew := Ext.drew w9
    have HTCd := hidP (fun w' (hx : Ext w9 w') => (HTC.out w' ((X.out.trans Xw9.out).trans hx)).mono (fun (e : Ending) (w'' : World) ⟨a', he, ho, hx'⟩ => (⟨a', he, OwnI.base ho hx.size, hx'⟩ : ∃ a', e = Ending.returned (algV p d a' tn tn) ∧ OwnI w'' w9.heap.size a' tn tn ts ∧ Ext w' w'')))
    have HQ := hidP (fun w' (hx : Ext w9 w') (a' : Option Addr) (ho : OwnI w' w9.heap.size a' tn tn ts) => eqAlgebra_any p d p d CX a' tn tn tn tn ts ts w' (FCX_w9.out.below hx).ints ho.ints (by omega) (by omega))
    simp only [and_self, decide_true] at HQ
    go_wp2
    (refine walkR_start (fun w' => Ext w9 w') 5 (by kernel_rfl) ?_; simp only [numbered, List.take_succ_cons, List.take_zero, Nat.zero_add, Nat.reduceAdd, List.length_cons, List.length_nil])
    (repeat (first | (refine walkR_still (v := ?_) rfl (by decide +kernel) rfl (fun _ _ _ h => h) hE ?_ ?_; rotate_left; (focus (intro w' hw'; obtain ⟨f0, f1, f2⟩ := HF.out w' (Xw9.out.trans hw'); obtain ⟨y0, y1, y2⟩ := FB_w9.out.below hw'; go_simp; all_goals (with_reducible rfl))); simp only [Act.put, List.setIfInBounds_toArray, List.set_cons_zero, List.set_cons_succ]) | (refine walkR_skip rfl (by decide +kernel) rfl (fun _ _ _ h => h) hE ?_; simp only [Act.put, List.setIfInBounds_toArray, List.set_cons_zero, List.set_cons_succ])))
    (refine walkR_only (fun w' => Ext w9 w') rfl (by decide +kernel) rfl (fun _ h => h) ?_; intro K hK; go_simp; refine (HTCd.out _ hE).mono ?_; rintro e wd ⟨ad, rfl, hod, hxd⟩; refine hK _ _ (hE.trans hxd) ?_; clear hK K; (try simp only [Act.put, List.setIfInBounds_toArray, List.set_cons_zero, List.set_cons_succ]))
    have hE1 := hE.trans hxd
    have HQ1 := hidP (HQ.out _ hE1 ad hod)
    clear hxd hod
    (refine walkR_only (fun w' => Ext w9 w') rfl (by decide +kernel) rfl (fun _ h => h) ?_; intro K hK; go_simp; refine (HQ1.out).mono ?_; rintro e w10 ⟨rfl, hxd⟩; refine hK _ _ (hE1.trans hxd) ?_; clear hK K; (try simp only [Act.put, List.setIfInBounds_toArray, List.set_cons_zero, List.set_cons_succ]))
    have hx := hE1.trans hxd
    have hxx := hx
    clear hxd hE hE1 HQ HQ1 HTCd
    have Xw10 := hidP (Xw9.out.trans hx)
    have Zw10 : Hid (w9.heap.size ≤ w10.heap.size) := hx.size
    have FS_w10 := hidP (FS_w9.out.below hx)
    have FCX_w10 := hidP (FCX_w9.out.below hx)
    have FB_w10 := hidP (FB_w9.out.below hx)
    have FPX1_w10 := hidP (FPX1_w9.out.below hx)
    have FG_w10 := hidP (FG_w9.out.below hx)
    clear FS_w9 FCX_w9 FB_w9 FPX1_w9 FG_w9
    clear hx
    (repeat (first | (refine walkR_still (v := ?_) rfl (by decide +kernel) rfl (fun _ _ _ h => h) hxx ?_ ?_; rotate_left; (focus (intro w' hw'; skip; go_simp; all_goals (with_reducible rfl))); simp only [Act.put, List.setIfInBounds_toArray, List.set_cons_zero, List.set_cons_succ]) | (refine walkR_skip rfl (by decide +kernel) rfl (fun _ _ _ h => h) hxx ?_; simp only [Act.put, List.setIfInBounds_toArray, List.set_cons_zero, List.set_cons_succ])))
    (refine walkR_tail (by rfl) (by kernel_rfl) ?_; simp only [List.drop_succ_cons, List.drop_zero])
    clear hxx
    go_wp2_with fail
    refine (HTS1.out _ (X.out.trans Xw10.out)).mono ?_
    rintro e w11 ⟨gd, rfl, hP, hx⟩
    have FD := hidP hP
    clear hP
    have Xw11 := hidP (Xw10.out.trans hx)
    have Zw11 : Hid (w10.heap.size ≤ w11.heap.size) := hx.size
    have FS_w11 := hidP (FS_w10.out.below hx)
    have FCX_w11 := hidP (FCX_w10.out.below hx)
    have FB_w11 := hidP (FB_w10.out.below hx)
    have FPX1_w11 := hidP (FPX1_w10.out.below hx)
    have FG_w11 := hidP (FG_w10.out.below hx)
    clear hx
    clear FS_w10 FCX_w10 FB_w10 FPX1_w10 FG_w10
    have HQ := hidP (eqIntS_any PX1 gd n1 n1 n1 n1 xs1 xs1 w11 FPX1_w11.out.ints FD.out.ints (by omega) (by omega))
    simp only [beq_self_eq_true] at HQ
    go_wp2_with fail
    refine HQ.out.mono ?_
    rintro e w12 ⟨rfl, m, hd⟩
    have hx : Ext w11 w12 := by rw [hd]; exact Ext.drewN _ _
    clear hd HQ FD
    have Xw12 := hidP (Xw11.out.trans hx)
    have Zw12 : Hid (w11.heap.size ≤ w12.heap.size) := hx.size
    have FS_w12 := hidP (FS_w11.out.below hx)
    have FCX_w12 := hidP (FCX_w11.out.below hx)
    have FB_w12 := hidP (FB_w11.out.below hx)
    have FPX1_w12 := hidP (FPX1_w11.out.below hx)
    have FG_w12 := hidP (FG_w11.out.below hx)
    clear hx
    clear FS_w11 FCX_w11 FB_w11 FPX1_w11 FG_w11
    have HZ : Hid (w0.heap.size ≤ w4.heap.size ∧ w4.heap.size ≤ w5.heap.size ∧ w5.heap.size ≤ w6.heap.size ∧ w6.heap.size ≤ w7.heap.size ∧ w7.heap.size ≤ w8.heap.size) := by
      refine ⟨Xw4.out.size, Zw5.out, Zw6.out, Zw7.out, Zw8.out⟩
    obtain ⟨y0, y1, y2⟩ := FB_w12.out
    have HMk := hidP (markAlgebra_any p d _ CX tn tn 1 ts w12 FCX_w12.out (by omega) (by omega) (by omega))
    go_wp2_with fail
    refine HMk.out.mono ?_
    rintro e w13 ⟨rfl, hu⟩
    clear HMk y0 y1 y2
    have hub := hu.updB LCX.out
    clear hu
    clear FCX_w12 FB_w12
    have Xw13 : Hid (Ext w0 w13) := hub.below Xw12.out Xw12.out.size (by have hZ := HZ.out; omega)
    have Zw13 : Hid (w12.heap.size ≤ w13.heap.size) := hub.size
    have FS_w13 := hidP (FS_w12.out.updB_lo hub (by have hZ := HZ.out; omega))
    have FPX1_w13 := hidP (ownI_hi FPX1_w12.out hub (by have hZ := HZ.out; omega))
    have FG_w13 := hidP (FG_w12.out.updB_hi hub (by have hZ := HZ.out; omega))
    clear hub FS_w12 FPX1_w12 FG_w12
    have HMk := hidP (markIntS_any PX1 n1 n1 (1 + (tn : Int)) xs1 w13 FPX1_w13.out.ints FPX1_w13.out.unfrozen (by omega) (by omega) (by omega))
    go_wp2_with fail
    refine HMk.out.mono ?_
    rintro e w14 ⟨rfl, hu⟩
    clear HMk
    have hub := hu.updB LPX1.out
    clear hu
    clear FPX1_w13
    have Xw14 : Hid (Ext w0 w14) := hub.below Xw13.out Xw13.out.size (by have hZ := HZ.out; omega)
    have Zw14 : Hid (w13.heap.size ≤ w14.heap.size) := hub.size
    have FS_w14 := hidP (FS_w13.out.updB_lo hub (by have hZ := HZ.out; omega))
    have FG_w14 := hidP (FG_w13.out.updB_hi hub (by have hZ := HZ.out; omega))
    clear hub FS_w13 FG_w13
    have hk0 : ¬ (((1 + (tn : Int)) + (n1 : Int)) < 0) := by omega
    have HQ := hidP (fun w' (hx : Ext w14 w') => eqStepS_any aG aS nG nS cG cS J2 J2 w' (FG_w14.out.below hx).termsAt (FS_w14.out.below hx).termsAt FG_w14.out.small FS_w14.out.small)
    simp only [beq_self_eq_true] at HQ
    go_wp2_with fail
    refine (HQ.out _ (Ext.refl _)).mono ?_
    rintro e w15 ⟨rfl, hx⟩
    clear HQ
    have Xw15 := hidP (Xw14.out.trans hx)
    have Zw15 : Hid (w14.heap.size ≤ w15.heap.size) := hx.size
    have FS_w15 := hidP (FS_w14.out.below hx)
    have FG_w15 := hidP (FG_w14.out.below hx)
    clear hx
    clear FS_w14 FG_w14
    have hJn : mkAt J2 nG ≤ 10000000 := terms_smallE (HJ.out ▸ genR_small p d ts xs1) FG_w15.out.xl
    have HMk := hidP (markStepS_any _ _ aG nG cG KG J2 1 w15 FG_w15.out hJn (by omega) (by omega))
    go_wp2_with fail
    refine HMk.out.mono ?_
    rintro e w16 ⟨rfl, ym, ho, HMm, hub⟩
    clear HMk
    have FM := hidP ho
    clear ho
    clear FG_w15
    have Xw16 : Hid (Ext w0 w16) := hub.below Xw15.out Xw15.out.size (by have hZ := HZ.out; omega)
    have Zw16 : Hid (w15.heap.size ≤ w16.heap.size) := hub.size
    have FS_w16 := hidP (FS_w15.out.updB_lo hub (by have hZ := HZ.out; omega))
    clear hub FS_w15
    have hq0 : ¬ ((1 : Int) + (mkAt J2 nG : Int) < 0) := by omega
    have hqq : ((1 : Int) + (mkAt J2 nG : Int) != 1 + (mkAt J2 nG : Int)) = false := by simp
    have HH := hidP (heldStepS_any aG nG cG J2 ym 1 w16 FM.out.termsAt HMm.out hJn (by omega) (by omega))
    go_wp2_with fail
    refine HH.out.mono ?_
    rintro e w17 ⟨rfl, hx⟩
    clear HH
    have Xw17 := hidP (Xw16.out.trans hx)
    have Zw17 : Hid (w16.heap.size ≤ w17.heap.size) := hx.size
    have FS_w17 := hidP (FS_w16.out.below hx)
    have FM_w17 := hidP (FM.out.below hx)
    clear hx
    clear FS_w16 FM
    obtain ⟨f0, f1, f2⟩ := HF.out w17 Xw17.out
    go_wp2_with fail
    refine (HTC.out _ (X.out.trans Xw17.out)).mono ?_
    rintro e w18 ⟨CH, rfl, hC, hx⟩
    clear f0 f1 f2
    have FCH := hidP hC
    clear hC
    have Xw18 := hidP (Xw17.out.trans hx)
    have Zw18 : Hid (w17.heap.size ≤ w18.heap.size) := hx.size
    have FS_w18 := hidP (FS_w17.out.below hx)
    have FM_w18 := hidP (FM_w17.out.below hx)
    clear hx
    clear FS_w17 FM_w17
    go_wp2_with fail
    refine (HTS1.out _ (X.out.trans Xw18.out)).mono ?_
    rintro e w19 ⟨PH1, rfl, hP, hx⟩
    have FPH1 := hidP hP
    clear hP
    have Xw19 := hidP (Xw18.out.trans hx)
    have Zw19 : Hid (w18.heap.size ≤ w19.heap.size) := hx.size
    have FS_w19 := hidP (FS_w18.out.below hx)
    have FM_w19 := hidP (FM_w18.out.below hx)
    have FCH_w19 := hidP (FCH.out.below hx)
    clear hx
    clear FS_w18 FM_w18 FCH
    have HR := hidP (generatorOf_any p d CH tn tn ts PH1 n1 n1 xs1 w19 FCH_w19.out.ints FPH1.out.ints (by omega) (by omega) (by omega) (HM.out.below (X.out.trans Xw19.out)) (HTb.out.below (X.out.trans Xw19.out)))
    unfold EnvResL at HR
    rw [← HJ.out] at HR
    go_wp2_with fail
    refine HR.out.mono ?_
    rintro e w20 ⟨aH, nH, cH, KH, rfl, hR, hx⟩
    clear HR
    have FH := hidP hR
    clear hR
    clear FCH_w19
    clear FPH1
    have Xw20 := hidP (Xw19.out.trans hx)
    have Zw20 : Hid (w19.heap.size ≤ w20.heap.size) := hx.size
    have FS_w20 := hidP (FS_w19.out.below hx)
    have FM_w20 := hidP (FM_w19.out.below hx)
    clear hx
    clear FS_w19 FM_w19
    have HQ := hidP (fun w' (hx : Ext w20 w') => eqStepS_any aH aS nH nS cH cS J2 J2 w' (FH.out.below hx).termsAt (FS_w20.out.below hx).termsAt FH.out.small FS_w20.out.small)
    simp only [beq_self_eq_true] at HQ
    go_wp2_with fail
    refine (HQ.out _ (Ext.refl _)).mono ?_
    rintro e w21 ⟨rfl, hx⟩
    clear HQ
    have Xw21 := hidP (Xw20.out.trans hx)
    have Zw21 : Hid (w20.heap.size ≤ w21.heap.size) := hx.size
    have FS_w21 := hidP (FS_w20.out.below hx)
    have FM_w21 := hidP (FM_w20.out.below hx)
    have FH_w21 := hidP (FH.out.below hx)
    clear hx
    clear FS_w20 FM_w20 FH
    have HH := hidP (heldStepS_any aG nG cG J2 ym 1 w21 FM_w21.out.termsAt HMm.out hJn (by omega) (by omega))
    go_wp2_with fail
    refine HH.out.mono ?_
    rintro e w22 ⟨rfl, hx⟩
    clear HH
    have Xw22 := hidP (Xw21.out.trans hx)
    have Zw22 : Hid (w21.heap.size ≤ w22.heap.size) := hx.size
    have FS_w22 := hidP (FS_w21.out.below hx)
    have FM_w22 := hidP (FM_w21.out.below hx)
    have FH_w22 := hidP (FH_w21.out.below hx)
    clear hx
    clear FS_w21 FM_w21 FH_w21
    go_wp2
    go_ret
    exact ⟨rfl, X.out.trans Xw22.out⟩
  · have HE : Hid (szLeft tn 1048576 = -1) := if_neg hle
    rw [HE.out] at HSC
    go_wp2_with fail
    rw [← hw0]
    clear hw0
    refine (HSC.out _).mono ?_
    rintro e w1 ⟨rfl, hx1⟩
    go_wp2
    go_ret
    exact ⟨rfl, X.out.trans hx1⟩
end Go.Proofs.YtcfgcacmmmhjcaaGreatDoor.fnExactGeneratorOf
