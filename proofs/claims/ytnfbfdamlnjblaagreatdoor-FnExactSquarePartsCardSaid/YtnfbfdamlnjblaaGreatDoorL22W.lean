/-
  FnExactSquareParts: the walk.
-/
import Derived.Test.YtnfbfdamlnjblaaGreatDoorSqrZ
import Derived.Test.YtnfbfdamlnjblaaGreatDoorLPth
import Derived.Test.YtnfbfdamlnjblaaGreatDoorSes
import Derived.Test.YtnfbfdamlnjblaaGreatDoorTie
import Derived.Test.YtnfbfdamlnjblaaGreatDoorCards
namespace Go.Proofs.YtnfbfdamlnjblaaGreatDoor.fnExactSquareParts
open Go.ChangeShapes Go.WideShapes Go.ChangeAt Go.RowKit
set_option linter.unusedVariables false

set_option maxRecDepth 100000 in
set_option maxHeartbeats 8000000 in
/-- The Go text returns true, and leaves what was there. -/
theorem walk (r : Int) (ta : Option Addr) (tn tc : Nat) (ts : List Int) (a1 : Option Addr) (n1 c1 : Nat) (xs1 : List (List Int × Int)) (w : World) (hc : IntsAt w ta tn ts) (h1 : TermsAt w a1 n1 xs1) (hcn : tn ≤ 9223372036854775807) (hn1 : n1 ≤ 9223372036854775807) (hm : MaxL w) (htb : Tab w) :
    Calls Tryz.prog 12 #[carV r ta tn tc, .slice a1 n1 c1] w fun e w' => e = .returned (.bool true) ∧ Ext w w' := by
  have hx0 := Ext.alloc w (.cells #[.int .i64 r, .slice ta tn tc] 49)
  have HF := hidP (fun w' (hx : Ext (w.alloc (.cells #[.int .i64 r, .slice ta tn tc] 49)) w') => (CarAt.new w _ rfl r ta tn tc 49).below hx)
  have X := hidP hx0
  have HT := hidP hc
  have HU1 := hidP h1
  have HTb := hidP htb
  have HM := hidP hm
  clear hc h1 hm hx0 htb
  have hz0 : w.heap.size < (w.alloc (.cells #[.int .i64 r, .slice ta tn tc] 49)).heap.size := by simp
  obtain ⟨⟨J1, J2, J3⟩, hJ⟩ : ∃ J, J = squareR r ts xs1 := ⟨_, rfl⟩
  have HJ := hidP hJ
  clear hJ
  obtain ⟨w0, hw0⟩ : ∃ w0, w0 = w.alloc (.cells #[.int .i64 r, .slice ta tn tc] 49) := ⟨_, rfl⟩
  rw [← hw0] at X HF hz0
  have Hz0 := hidP hz0
  clear hz0
  have HSC := hidP (fun w' => szCartan_any r ta tn tc 1048576 w' hcn (by omega) (by omega))
  obtain ⟨f0, f1⟩ := HF.out w0 (Ext.refl _)
  go_enter Tryz.func12, Tryz.ntmps12
  by_cases hle : (tn : Int) ≤ 1048576
  · have HE : Hid (szLeft tn 1048576 = 1048576 - tn) := if_pos hle
    rw [HE.out] at HSC
    have hng : ¬ (1048576 - (tn : Int) < 0) := by omega
    go_wp2_with fail
    rw [← hw0]
    clear hw0
    refine (HSC.out _).mono ?_
    rintro e w1 ⟨rfl, hx⟩
    have Xw0 : Hid (Ext w0 w0) := hidP (Ext.refl w0)
    clear HSC f0 f1
    have Xw1 := hidP (Xw0.out.trans hx)
    have Zw1 : Hid (w0.heap.size ≤ w1.heap.size) := hx.size
    clear hx
    have HS := hidP (szStepS_any a1 n1 c1 xs1 (1048576 - (tn : Int)) w1 (HU1.out.below (X.out.trans Xw1.out)) hn1 (by omega) (by omega))
    go_wp2_with fail
    refine HS.out.mono ?_
    clear HS
    rintro e w2 ⟨v1, hv1, rfl, hx⟩
    have Xw2 := hidP (Xw1.out.trans hx)
    have Zw2 : Hid (w1.heap.size ≤ w2.heap.size) := hx.size
    clear hx
    rcases hv1 with rfl | ⟨hv1a, hv1b⟩
    · go_wp2
      go_ret
      exact ⟨rfl, X.out.trans Xw2.out⟩
    · have hng1 : ¬ (v1 < 0) := by omega
      have hv1c : v1 ≤ 1048576 := by omega
      have Hv1 := hidP hv1b
      clear hv1b
      have hv1b := Hv1.out
      have hM1 : mkAt xs1 n1 ≤ 1048576 := by omega
      have hL1 := mkAt_len xs1 n1
      have htn : tn ≤ 1048576 := by omega
      clear hv1b
      have HTC := hidP (fun w' (hx : Ext w w') => toCartan_any r ta tn tc ts w' (HT.out.below hx) htn)
      have HTS1 := hidP (fun w' (hx : Ext w w') => toStepS_any a1 n1 c1 xs1 w' (HU1.out.below hx) (by omega) (fun k hk => by have := mkAt_one xs1 hk; omega))
      obtain ⟨f0, f1⟩ := HF.out w2 Xw2.out
      go_wp2_with fail
      refine (HTC.out _ (X.out.trans Xw2.out)).mono ?_
      rintro e w3 ⟨CS, rfl, hC, hx⟩
      clear f0 f1
      have FCS := hidP hC
      clear hC
      have Xw3 := hidP (Xw2.out.trans hx)
      have Zw3 : Hid (w2.heap.size ≤ w3.heap.size) := hx.size
      clear hx
      go_wp2_with fail
      refine (HTS1.out _ (X.out.trans Xw3.out)).mono ?_
      rintro e w4 ⟨PS1, KS1, rfl, hP, hx⟩
      have FPS1 := hidP hP
      clear hP
      have Xw4 := hidP (Xw3.out.trans hx)
      have Zw4 : Hid (w3.heap.size ≤ w4.heap.size) := hx.size
      have FCS_w4 := hidP (FCS.out.below hx)
      clear hx
      clear FCS
      have HR := hidP (sSquareParts_any r CS tn tn ts (some ⟨PS1, 0, none⟩) n1 n1 xs1 w4 FCS_w4.out.ints (by omega) FPS1.out.stepsAt (by omega))
      unfold TwoRes at HR
      rw [← HJ.out] at HR
      dsimp only at HR
      go_wp2_with fail
      refine HR.out.mono ?_
      rintro e w5 ⟨aS, nS, cS, KS, aT, nT, cT, KT, US, rfl, hR, hR2, hU1, hU2, hx⟩
      clear HR
      have FS := hidP hR
      have FT := hidP hR2
      have LS := hidP (And.intro hU1 hU2)
      clear hR hR2 hU1 hU2
      clear FCS_w4 FPS1
      have Xw5 := hidP (Xw4.out.trans hx)
      have Zw5 : Hid (w4.heap.size ≤ w5.heap.size) := hx.size
      clear hx
      obtain ⟨f0, f1⟩ := HF.out w5 Xw5.out
      go_wp2_with fail
      refine (HTC.out _ (X.out.trans Xw5.out)).mono ?_
      rintro e w6 ⟨CX, rfl, hC, hx⟩
      clear f0 f1
      have FCX := hidP hC
      have LCX : Hid (∀ b o, CX = some ⟨b, o, none⟩ → w5.heap.size ≤ b ∧ b < w6.heap.size) := fun b o e => hC.at_base b o e
      clear hC
      have Xw6 := hidP (Xw5.out.trans hx)
      have Zw6 : Hid (w5.heap.size ≤ w6.heap.size) := hx.size
      have FS_w6 := hidP (FS.out.below hx)
      have FT_w6 := hidP (FT.out.below hx)
      clear hx
      clear FS FT
      go_wp2_with fail
      have hxa := Ext.alloc w6 (.cells #[.int .i64 r, .slice CX tn tn] 55)
      have FB := hidP (CarAt.new w6 _ rfl r CX tn tn 55)
      have hzz : w6.heap.size < (w6.alloc (.cells #[.int .i64 r, .slice CX tn tn] 55)).heap.size := by simp
      obtain ⟨w7, hww⟩ : ∃ x, x = w6.alloc (.cells #[.int .i64 r, .slice CX tn tn] 55) := ⟨_, rfl⟩
      rw [← hww] at hxa FB hzz ⊢
      clear hww
      have Hzz := hidP hzz
      clear hzz
      have Xw7 := hidP (Xw6.out.trans hxa)
      have Zw7 : Hid (w6.heap.size ≤ w7.heap.size) := hxa.size
      have FS_w7 := hidP (FS_w6.out.below hxa)
      have FT_w7 := hidP (FT_w6.out.below hxa)
      have FCX_w7 := hidP (FCX.out.below hxa)
      clear hxa
      clear FS_w6 FT_w6 FCX
      refine (HTS1.out _ (X.out.trans Xw7.out)).mono ?_
      rintro e w8 ⟨PX1, KX1, rfl, hP, hx⟩
      have FPX1 := hidP hP
      clear hP
      have Xw8 := hidP (Xw7.out.trans hx)
      have Zw8 : Hid (w7.heap.size ≤ w8.heap.size) := hx.size
      have FS_w8 := hidP (FS_w7.out.below hx)
      have FT_w8 := hidP (FT_w7.out.below hx)
      have FCX_w8 := hidP (FCX_w7.out.below hx)
      have FB_w8 := hidP (FB.out.below hx)
      clear hx
      clear FS_w7 FT_w7 FCX_w7 FB
      obtain ⟨y0, y1⟩ := FB_w8.out
      have HR := hidP (squareParts_any r CX tn tn ts (some ⟨PX1, 0, none⟩) n1 n1 xs1 w8 FCX_w8.out.ints (by omega) FPX1.out.stepsAt (by omega) (HM.out.below (X.out.trans Xw8.out)) (HTb.out.below (X.out.trans Xw8.out)))
      unfold TwoRes at HR
      rw [← HJ.out] at HR
      dsimp only at HR
      go_wp2_with fail
      refine HR.out.mono ?_
      rintro e w9 ⟨aG, nG, cG, KG, aK, nK, cK, KK, UG, rfl, hR, hR2, hU1, hU2, hx⟩
      clear HR
      have FG := hidP hR
      have FK := hidP hR2
      have LG := hidP (And.intro hU1 hU2)
      clear hR hR2 hU1 hU2
      clear y0 y1
      have Xw9 := hidP (Xw8.out.trans hx)
      have Zw9 : Hid (w8.heap.size ≤ w9.heap.size) := hx.size
      have FS_w9 := hidP (FS_w8.out.below hx)
      have FT_w9 := hidP (FT_w8.out.below hx)
      have FCX_w9 := hidP (FCX_w8.out.below hx)
      have FB_w9 := hidP (FB_w8.out.below hx)
      have FPX1_w9 := hidP (FPX1.out.below hx)
      clear hx
      clear FS_w8 FT_w8 FCX_w8 FB_w8 FPX1
      have hJJ : (J1 != J1) = false := by simp
      have HQ := hidP (fun w' (hx : Ext w9 w') => eqStepS_any aG aS nG nS cG cS J2 J2 w' (FG.out.below hx).termsAt (FS_w9.out.below hx).termsAt FG.out.small FS_w9.out.small)
      simp only [beq_self_eq_true] at HQ
      go_wp2_with fail
      refine (HQ.out _ (Ext.refl _)).mono ?_
      rintro e w10 ⟨rfl, hx⟩
      clear HQ
      have Xw10 := hidP (Xw9.out.trans hx)
      have Zw10 : Hid (w9.heap.size ≤ w10.heap.size) := hx.size
      have FS_w10 := hidP (FS_w9.out.below hx)
      have FT_w10 := hidP (FT_w9.out.below hx)
      have FCX_w10 := hidP (FCX_w9.out.below hx)
      have FB_w10 := hidP (FB_w9.out.below hx)
      have FPX1_w10 := hidP (FPX1_w9.out.below hx)
      have FG_w10 := hidP (FG.out.below hx)
      have FK_w10 := hidP (FK.out.below hx)
      clear hx
      clear FS_w9 FT_w9 FCX_w9 FB_w9 FPX1_w9 FG FK
      have HQ := hidP (fun w' (hx : Ext w10 w') => eqStepS_any aK aT nK nT cK cT J3 J3 w' (FK_w10.out.below hx).termsAt (FT_w10.out.below hx).termsAt FK_w10.out.small FT_w10.out.small)
      simp only [beq_self_eq_true] at HQ
      go_wp2_with fail
      refine (HQ.out _ (Ext.refl _)).mono ?_
      rintro e w11 ⟨rfl, hx⟩
      clear HQ
      have Xw11 := hidP (Xw10.out.trans hx)
      have Zw11 : Hid (w10.heap.size ≤ w11.heap.size) := hx.size
      have FS_w11 := hidP (FS_w10.out.below hx)
      have FT_w11 := hidP (FT_w10.out.below hx)
      have FCX_w11 := hidP (FCX_w10.out.below hx)
      have FB_w11 := hidP (FB_w10.out.below hx)
      have FPX1_w11 := hidP (FPX1_w10.out.below hx)
      have FG_w11 := hidP (FG_w10.out.below hx)
      have FK_w11 := hidP (FK_w10.out.below hx)
      clear hx
      clear FS_w10 FT_w10 FCX_w10 FB_w10 FPX1_w10 FG_w10 FK_w10
      have hE : Ext w11 w11.drew := Ext.drew w11
      have HTCd := hidP (fun w' (hx : Ext w11 w') => (HTC.out w' ((X.out.trans Xw11.out).trans hx)).mono (fun (e : Ending) (w'' : World) ⟨a', he, ho, hx'⟩ => (⟨a', he, OwnI.base ho hx.size, hx'⟩ : ∃ a', e = Ending.returned (carV r a' tn tn) ∧ OwnI w'' w11.heap.size a' tn tn ts ∧ Ext w' w'')))
      have HQ := hidP (fun w' (hx : Ext w11 w') (a' : Option Addr) (ho : OwnI w' w11.heap.size a' tn tn ts) => eqCartan_any r r CX a' tn tn tn tn ts ts w' (FCX_w11.out.below hx).ints ho.ints (by omega) (by omega))
      simp only [and_self, decide_true] at HQ
      go_wp2
      (refine walkR_start (fun w' => Ext w11 w') 5 (by kernel_rfl) ?_; simp only [numbered, List.take_succ_cons, List.take_zero, Nat.zero_add, Nat.reduceAdd, List.length_cons, List.length_nil])
      (repeat (first | (refine walkR_still (v := ?_) rfl (by decide +kernel) rfl (fun _ _ _ h => h) hE ?_ ?_; rotate_left; (focus (intro w' hw'; obtain ⟨f0, f1⟩ := HF.out w' (Xw11.out.trans hw'); obtain ⟨y0, y1⟩ := FB_w11.out.below hw'; go_simp; all_goals (with_reducible rfl))); simp only [Act.put, List.setIfInBounds_toArray, List.set_cons_zero, List.set_cons_succ]) | (refine walkR_skip rfl (by decide +kernel) rfl (fun _ _ _ h => h) hE ?_; simp only [Act.put, List.setIfInBounds_toArray, List.set_cons_zero, List.set_cons_succ])))
      (refine walkR_only (fun w' => Ext w11 w') rfl (by decide +kernel) rfl (fun _ h => h) ?_; intro K hK; go_simp; refine (HTCd.out _ hE).mono ?_; rintro e wd ⟨ad, rfl, hod, hxd⟩; refine hK _ _ (hE.trans hxd) ?_; clear hK K; (try simp only [Act.put, List.setIfInBounds_toArray, List.set_cons_zero, List.set_cons_succ]))
      have hE1 := hE.trans hxd
      have HQ1 := hidP (HQ.out _ hE1 ad hod)
      clear hxd hod
      (refine walkR_only (fun w' => Ext w11 w') rfl (by decide +kernel) rfl (fun _ h => h) ?_; intro K hK; go_simp; refine (HQ1.out).mono ?_; rintro e w12 ⟨rfl, hxd⟩; refine hK _ _ (hE1.trans hxd) ?_; clear hK K; (try simp only [Act.put, List.setIfInBounds_toArray, List.set_cons_zero, List.set_cons_succ]))
      have hx := hE1.trans hxd
      have hxx := hx
      clear hxd hE hE1 HQ HQ1 HTCd
      have Xw12 := hidP (Xw11.out.trans hx)
      have Zw12 : Hid (w11.heap.size ≤ w12.heap.size) := hx.size
      have FS_w12 := hidP (FS_w11.out.below hx)
      have FT_w12 := hidP (FT_w11.out.below hx)
      have FCX_w12 := hidP (FCX_w11.out.below hx)
      have FB_w12 := hidP (FB_w11.out.below hx)
      have FPX1_w12 := hidP (FPX1_w11.out.below hx)
      have FG_w12 := hidP (FG_w11.out.below hx)
      have FK_w12 := hidP (FK_w11.out.below hx)
      clear FS_w11 FT_w11 FCX_w11 FB_w11 FPX1_w11 FG_w11 FK_w11
      clear hx
      (repeat (first | (refine walkR_still (v := ?_) rfl (by decide +kernel) rfl (fun _ _ _ h => h) hxx ?_ ?_; rotate_left; (focus (intro w' hw'; skip; go_simp; all_goals (with_reducible rfl))); simp only [Act.put, List.setIfInBounds_toArray, List.set_cons_zero, List.set_cons_succ]) | (refine walkR_skip rfl (by decide +kernel) rfl (fun _ _ _ h => h) hxx ?_; simp only [Act.put, List.setIfInBounds_toArray, List.set_cons_zero, List.set_cons_succ])))
      (refine walkR_tail (by rfl) (by kernel_rfl) ?_; simp only [List.drop_succ_cons, List.drop_zero])
      clear hxx
      go_wp2_with fail
      refine (HTS1.out _ (X.out.trans Xw12.out)).mono ?_
      rintro e w13 ⟨gd, Kd, rfl, hP, hx⟩
      have FD := hidP hP
      clear hP
      have Xw13 := hidP (Xw12.out.trans hx)
      have Zw13 : Hid (w12.heap.size ≤ w13.heap.size) := hx.size
      have FS_w13 := hidP (FS_w12.out.below hx)
      have FT_w13 := hidP (FT_w12.out.below hx)
      have FCX_w13 := hidP (FCX_w12.out.below hx)
      have FB_w13 := hidP (FB_w12.out.below hx)
      have FPX1_w13 := hidP (FPX1_w12.out.below hx)
      have FG_w13 := hidP (FG_w12.out.below hx)
      have FK_w13 := hidP (FK_w12.out.below hx)
      clear hx
      clear FS_w12 FT_w12 FCX_w12 FB_w12 FPX1_w12 FG_w12 FK_w12
      have FDD := hidP (FD.out.below (Ext.refl _))
      clear FD
      have HQ := hidP (fun w' (hx : Ext w13 w') => eqStepS_any (some ⟨PX1, 0, none⟩) (some ⟨gd, 0, none⟩) n1 n1 n1 n1 xs1 xs1 w' (FPX1_w13.out.below hx).termsAt (FDD.out.below hx).termsAt FPX1_w13.out.small FDD.out.small)
      simp only [beq_self_eq_true] at HQ
      go_wp2_with fail
      refine (HQ.out _ (Ext.refl _)).mono ?_
      rintro e w14 ⟨rfl, hx⟩
      clear HQ
      have Xw14 := hidP (Xw13.out.trans hx)
      have Zw14 : Hid (w13.heap.size ≤ w14.heap.size) := hx.size
      have FS_w14 := hidP (FS_w13.out.below hx)
      have FT_w14 := hidP (FT_w13.out.below hx)
      have FCX_w14 := hidP (FCX_w13.out.below hx)
      have FB_w14 := hidP (FB_w13.out.below hx)
      have FPX1_w14 := hidP (FPX1_w13.out.below hx)
      have FG_w14 := hidP (FG_w13.out.below hx)
      have FK_w14 := hidP (FK_w13.out.below hx)
      clear hx
      clear FS_w13 FT_w13 FCX_w13 FB_w13 FPX1_w13 FG_w13 FK_w13
      clear FDD
      have HZ : Hid (w0.heap.size ≤ w5.heap.size ∧ w5.heap.size ≤ w6.heap.size ∧ w6.heap.size ≤ w7.heap.size ∧ w7.heap.size ≤ w8.heap.size ∧ US ≤ w5.heap.size ∧ w8.heap.size ≤ UG ∧ UG ≤ w9.heap.size) := by
        refine ⟨Xw5.out.size, Zw6.out, Zw7.out, Zw8.out, LS.out.2, LG.out.1, LG.out.2⟩
      obtain ⟨y0, y1⟩ := FB_w14.out
      have HMk := hidP (markCartan_any r _ CX tn tn 1 ts w14 FCX_w14.out (by omega) (by omega) (by omega))
      go_wp2_with fail
      refine HMk.out.mono ?_
      rintro e w15 ⟨rfl, hu⟩
      clear HMk y0 y1
      have hub := hu.updB LCX.out
      clear hu
      clear FCX_w14 FB_w14
      have Xw15 : Hid (Ext w0 w15) := hub.below Xw14.out Xw14.out.size (by have hZ := HZ.out; omega)
      have Zw15 : Hid (w14.heap.size ≤ w15.heap.size) := hub.size
      have FS_w15 := hidP (FS_w14.out.updB_lo hub (by have hZ := HZ.out; omega))
      have FT_w15 := hidP (FT_w14.out.updB_lo hub (by have hZ := HZ.out; omega))
      have FPX1_w15 := hidP (FPX1_w14.out.updB_hi hub (by have hZ := HZ.out; omega))
      have FG_w15 := hidP (FG_w14.out.updB_hi hub (by have hZ := HZ.out; omega))
      have FK_w15 := hidP (FK_w14.out.updB_hi hub (by have hZ := HZ.out; omega))
      clear hub FS_w14 FT_w14 FPX1_w14 FG_w14 FK_w14
      have HMk := hidP (markStepS_any _ _ (some ⟨PX1, 0, none⟩) n1 n1 KX1 xs1 (1 + (tn : Int)) w15 FPX1_w15.out (by omega) (by omega) (by omega))
      go_wp2_with fail
      refine HMk.out.mono ?_
      rintro e w16 ⟨rfl, ym, _, _, hub⟩
      clear HMk
      clear FPX1_w15
      have Xw16 : Hid (Ext w0 w16) := hub.below Xw15.out Xw15.out.size (by have hZ := HZ.out; omega)
      have Zw16 : Hid (w15.heap.size ≤ w16.heap.size) := hub.size
      have FS_w16 := hidP (FS_w15.out.updB_lo hub (by have hZ := HZ.out; omega))
      have FT_w16 := hidP (FT_w15.out.updB_lo hub (by have hZ := HZ.out; omega))
      have FG_w16 := hidP (FG_w15.out.updB_hi hub (by have hZ := HZ.out; omega))
      have FK_w16 := hidP (FK_w15.out.updB_hi hub (by have hZ := HZ.out; omega))
      clear hub FS_w15 FT_w15 FG_w15 FK_w15
      have hk0 : ¬ (((1 + (tn : Int)) + (mkAt xs1 n1 : Int)) < 0) := by omega
      have HQ := hidP (fun w' (hx : Ext w16 w') => eqStepS_any aG aS nG nS cG cS J2 J2 w' (FG_w16.out.below hx).termsAt (FS_w16.out.below hx).termsAt FG_w16.out.small FS_w16.out.small)
      simp only [beq_self_eq_true] at HQ
      go_wp2_with fail
      refine (HQ.out _ (Ext.refl _)).mono ?_
      rintro e w17 ⟨rfl, hx⟩
      clear HQ
      have Xw17 := hidP (Xw16.out.trans hx)
      have Zw17 : Hid (w16.heap.size ≤ w17.heap.size) := hx.size
      have FS_w17 := hidP (FS_w16.out.below hx)
      have FT_w17 := hidP (FT_w16.out.below hx)
      have FG_w17 := hidP (FG_w16.out.below hx)
      have FK_w17 := hidP (FK_w16.out.below hx)
      clear hx
      clear FS_w16 FT_w16 FG_w16 FK_w16
      have HQ := hidP (fun w' (hx : Ext w17 w') => eqStepS_any aK aT nK nT cK cT J3 J3 w' (FK_w17.out.below hx).termsAt (FT_w17.out.below hx).termsAt FK_w17.out.small FT_w17.out.small)
      simp only [beq_self_eq_true] at HQ
      go_wp2_with fail
      refine (HQ.out _ (Ext.refl _)).mono ?_
      rintro e w18 ⟨rfl, hx⟩
      clear HQ
      have Xw18 := hidP (Xw17.out.trans hx)
      have Zw18 : Hid (w17.heap.size ≤ w18.heap.size) := hx.size
      have FS_w18 := hidP (FS_w17.out.below hx)
      have FT_w18 := hidP (FT_w17.out.below hx)
      have FG_w18 := hidP (FG_w17.out.below hx)
      have FK_w18 := hidP (FK_w17.out.below hx)
      clear hx
      clear FS_w17 FT_w17 FG_w17 FK_w17
      have hsm : SmallL (J1, J2, J3).2.1 ∧ SmallL (J1, J2, J3).2.2 := HJ.out ▸ squareR_small r ts xs1
      have hJn : mkAt J2 nG ≤ 10000000 := terms_small hsm.1 FG_w18.out.xl
      have hJk : mkAt J3 nK ≤ 10000000 := terms_small hsm.2 FK_w18.out.xl
      clear hsm
      have HMk := hidP (markStepS_any _ _ aG nG cG KG J2 1 w18 FG_w18.out hJn (by omega) (by omega))
      go_wp2_with fail
      refine HMk.out.mono ?_
      rintro e w19 ⟨rfl, ym, ho, HMm, hub⟩
      clear HMk
      have FM := hidP ho
      clear ho
      clear FG_w18
      have Xw19 : Hid (Ext w0 w19) := hub.below Xw18.out Xw18.out.size (by have hZ := HZ.out; omega)
      have Zw19 : Hid (w18.heap.size ≤ w19.heap.size) := hub.size
      have FS_w19 := hidP (FS_w18.out.updB_lo hub (by have hZ := HZ.out; omega))
      have FT_w19 := hidP (FT_w18.out.updB_lo hub (by have hZ := HZ.out; omega))
      have FK_w19 := hidP (FK_w18.out.updB_hi hub (by have hZ := HZ.out; omega))
      clear hub FS_w18 FT_w18 FK_w18
      have HMk := hidP (markStepS_any _ _ aK nK cK KK J3 (1 + (mkAt J2 nG : Int)) w19 FK_w19.out hJk (by omega) (by omega))
      go_wp2_with fail
      refine HMk.out.mono ?_
      rintro e w20 ⟨rfl, yn, ho, HMn, hub⟩
      clear HMk
      have FN := hidP ho
      clear ho
      clear FK_w19
      have Xw20 : Hid (Ext w0 w20) := hub.below Xw19.out Xw19.out.size (by have hZ := HZ.out; omega)
      have Zw20 : Hid (w19.heap.size ≤ w20.heap.size) := hub.size
      have FS_w20 := hidP (FS_w19.out.updB_lo hub (by have hZ := HZ.out; omega))
      have FT_w20 := hidP (FT_w19.out.updB_lo hub (by have hZ := HZ.out; omega))
      have FM_w20 := hidP (FM.out.updB_lo hub (by have hZ := HZ.out; omega))
      clear hub FS_w19 FT_w19 FM
      have hq0 : ¬ ((1 : Int) + (mkAt J2 nG : Int) < 0) := by omega
      have hq1 : ¬ ((1 : Int) + (mkAt J2 nG : Int) + (mkAt J3 nK : Int) < 0) := by omega
      have hqq : ((1 : Int) + (mkAt J2 nG : Int) + (mkAt J3 nK : Int) != 1 + (mkAt J2 nG : Int) + (mkAt J3 nK : Int)) = false := bne_self_eq_false _
      have HH := hidP (heldStepS_any aG nG cG J2 ym 1 w20 FM_w20.out.termsAt HMm.out hJn (by omega) (by omega))
      go_wp2_with fail
      refine HH.out.mono ?_
      rintro e w21 ⟨rfl, hx⟩
      clear HH
      have Xw21 := hidP (Xw20.out.trans hx)
      have Zw21 : Hid (w20.heap.size ≤ w21.heap.size) := hx.size
      have FS_w21 := hidP (FS_w20.out.below hx)
      have FT_w21 := hidP (FT_w20.out.below hx)
      have FM_w21 := hidP (FM_w20.out.below hx)
      have FN_w21 := hidP (FN.out.below hx)
      clear hx
      clear FS_w20 FT_w20 FM_w20 FN
      have HH := hidP (heldStepS_any aK nK cK J3 yn (1 + (mkAt J2 nG : Int)) w21 FN_w21.out.termsAt HMn.out hJk (by omega) (by omega))
      go_wp2_with fail
      refine HH.out.mono ?_
      rintro e w22 ⟨rfl, hx⟩
      clear HH
      have Xw22 := hidP (Xw21.out.trans hx)
      have Zw22 : Hid (w21.heap.size ≤ w22.heap.size) := hx.size
      have FS_w22 := hidP (FS_w21.out.below hx)
      have FT_w22 := hidP (FT_w21.out.below hx)
      have FM_w22 := hidP (FM_w21.out.below hx)
      have FN_w22 := hidP (FN_w21.out.below hx)
      clear hx
      clear FS_w21 FT_w21 FM_w21 FN_w21
      obtain ⟨f0, f1⟩ := HF.out w22 Xw22.out
      go_wp2_with fail
      refine (HTC.out _ (X.out.trans Xw22.out)).mono ?_
      rintro e w23 ⟨CH, rfl, hC, hx⟩
      clear f0 f1
      have FCH := hidP hC
      clear hC
      have Xw23 := hidP (Xw22.out.trans hx)
      have Zw23 : Hid (w22.heap.size ≤ w23.heap.size) := hx.size
      have FS_w23 := hidP (FS_w22.out.below hx)
      have FT_w23 := hidP (FT_w22.out.below hx)
      have FM_w23 := hidP (FM_w22.out.below hx)
      have FN_w23 := hidP (FN_w22.out.below hx)
      clear hx
      clear FS_w22 FT_w22 FM_w22 FN_w22
      go_wp2_with fail
      refine (HTS1.out _ (X.out.trans Xw23.out)).mono ?_
      rintro e w24 ⟨PH1, KH1, rfl, hP, hx⟩
      have FPH1 := hidP hP
      clear hP
      have Xw24 := hidP (Xw23.out.trans hx)
      have Zw24 : Hid (w23.heap.size ≤ w24.heap.size) := hx.size
      have FS_w24 := hidP (FS_w23.out.below hx)
      have FT_w24 := hidP (FT_w23.out.below hx)
      have FM_w24 := hidP (FM_w23.out.below hx)
      have FN_w24 := hidP (FN_w23.out.below hx)
      have FCH_w24 := hidP (FCH.out.below hx)
      clear hx
      clear FS_w23 FT_w23 FM_w23 FN_w23 FCH
      have HR := hidP (squareParts_any r CH tn tn ts (some ⟨PH1, 0, none⟩) n1 n1 xs1 w24 FCH_w24.out.ints (by omega) FPH1.out.stepsAt (by omega) (HM.out.below (X.out.trans Xw24.out)) (HTb.out.below (X.out.trans Xw24.out)))
      unfold TwoRes at HR
      rw [← HJ.out] at HR
      dsimp only at HR
      go_wp2_with fail
      refine HR.out.mono ?_
      rintro e w25 ⟨aH, nH, cH, KH, aI, nI, cI, KI, UH, rfl, hR, hR2, hU1, hU2, hx⟩
      clear HR
      have FH := hidP hR
      have FI := hidP hR2
      have LH := hidP (And.intro hU1 hU2)
      clear hR hR2 hU1 hU2
      clear FCH_w24
      clear FPH1
      have Xw25 := hidP (Xw24.out.trans hx)
      have Zw25 : Hid (w24.heap.size ≤ w25.heap.size) := hx.size
      have FS_w25 := hidP (FS_w24.out.below hx)
      have FT_w25 := hidP (FT_w24.out.below hx)
      have FM_w25 := hidP (FM_w24.out.below hx)
      have FN_w25 := hidP (FN_w24.out.below hx)
      clear hx
      clear FS_w24 FT_w24 FM_w24 FN_w24
      have HQ := hidP (fun w' (hx : Ext w25 w') => eqStepS_any aH aS nH nS cH cS J2 J2 w' (FH.out.below hx).termsAt (FS_w25.out.below hx).termsAt FH.out.small FS_w25.out.small)
      simp only [beq_self_eq_true] at HQ
      go_wp2_with fail
      refine (HQ.out _ (Ext.refl _)).mono ?_
      rintro e w26 ⟨rfl, hx⟩
      clear HQ
      have Xw26 := hidP (Xw25.out.trans hx)
      have Zw26 : Hid (w25.heap.size ≤ w26.heap.size) := hx.size
      have FS_w26 := hidP (FS_w25.out.below hx)
      have FT_w26 := hidP (FT_w25.out.below hx)
      have FM_w26 := hidP (FM_w25.out.below hx)
      have FN_w26 := hidP (FN_w25.out.below hx)
      have FH_w26 := hidP (FH.out.below hx)
      have FI_w26 := hidP (FI.out.below hx)
      clear hx
      clear FS_w25 FT_w25 FM_w25 FN_w25 FH FI
      have HQ := hidP (fun w' (hx : Ext w26 w') => eqStepS_any aI aT nI nT cI cT J3 J3 w' (FI_w26.out.below hx).termsAt (FT_w26.out.below hx).termsAt FI_w26.out.small FT_w26.out.small)
      simp only [beq_self_eq_true] at HQ
      go_wp2_with fail
      refine (HQ.out _ (Ext.refl _)).mono ?_
      rintro e w27 ⟨rfl, hx⟩
      clear HQ
      have Xw27 := hidP (Xw26.out.trans hx)
      have Zw27 : Hid (w26.heap.size ≤ w27.heap.size) := hx.size
      have FS_w27 := hidP (FS_w26.out.below hx)
      have FT_w27 := hidP (FT_w26.out.below hx)
      have FM_w27 := hidP (FM_w26.out.below hx)
      have FN_w27 := hidP (FN_w26.out.below hx)
      have FH_w27 := hidP (FH_w26.out.below hx)
      have FI_w27 := hidP (FI_w26.out.below hx)
      clear hx
      clear FS_w26 FT_w26 FM_w26 FN_w26 FH_w26 FI_w26
      have HH := hidP (heldStepS_any aG nG cG J2 ym 1 w27 FM_w27.out.termsAt HMm.out hJn (by omega) (by omega))
      go_wp2_with fail
      refine HH.out.mono ?_
      rintro e w28 ⟨rfl, hx⟩
      clear HH
      have Xw28 := hidP (Xw27.out.trans hx)
      have Zw28 : Hid (w27.heap.size ≤ w28.heap.size) := hx.size
      have FS_w28 := hidP (FS_w27.out.below hx)
      have FT_w28 := hidP (FT_w27.out.below hx)
      have FM_w28 := hidP (FM_w27.out.below hx)
      have FN_w28 := hidP (FN_w27.out.below hx)
      have FH_w28 := hidP (FH_w27.out.below hx)
      have FI_w28 := hidP (FI_w27.out.below hx)
      clear hx
      clear FS_w27 FT_w27 FM_w27 FN_w27 FH_w27 FI_w27
      have HH := hidP (heldStepS_any aK nK cK J3 yn (1 + (mkAt J2 nG : Int)) w28 FN_w28.out.termsAt HMn.out hJk (by omega) (by omega))
      go_wp2_with fail
      refine HH.out.mono ?_
      rintro e w29 ⟨rfl, hx⟩
      clear HH
      have Xw29 := hidP (Xw28.out.trans hx)
      have Zw29 : Hid (w28.heap.size ≤ w29.heap.size) := hx.size
      have FS_w29 := hidP (FS_w28.out.below hx)
      have FT_w29 := hidP (FT_w28.out.below hx)
      have FM_w29 := hidP (FM_w28.out.below hx)
      have FN_w29 := hidP (FN_w28.out.below hx)
      have FH_w29 := hidP (FH_w28.out.below hx)
      have FI_w29 := hidP (FI_w28.out.below hx)
      clear hx
      clear FS_w28 FT_w28 FM_w28 FN_w28 FH_w28 FI_w28
      go_wp2
      go_ret
      exact ⟨rfl, X.out.trans Xw29.out⟩
  · have HE : Hid (szLeft tn 1048576 = -1) := if_neg hle
    rw [HE.out] at HSC
    go_wp2_with fail
    rw [← hw0]
    clear hw0
    refine (HSC.out _).mono ?_
    rintro e w1 ⟨rfl, hx1⟩
    go_wp2
    go_ret
    exact ⟨rfl, X.out.trans hx1⟩
end Go.Proofs.YtnfbfdamlnjblaaGreatDoor.fnExactSquareParts
