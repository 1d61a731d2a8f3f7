/-
  FnExactBranchTo: the walk.
-/
import Derived.Test.YtnfbfdamlnjblaaGreatDoorBrnZ
import Derived.Test.YtnfbfdamlnjblaaGreatDoorLPth
import Derived.Test.YtnfbfdamlnjblaaGreatDoorSes
import Derived.Test.YtnfbfdamlnjblaaGreatDoorTie
import Derived.Test.YtnfbfdamlnjblaaGreatDoorCards
namespace Go.Proofs.YtnfbfdamlnjblaaGreatDoor.fnExactBranchTo
open Go.ChangeShapes Go.WideShapes Go.ChangeAt Go.RowKit
set_option linter.unusedVariables false

theorem ownI_hi {w w' : World} {B' B U n c : Nat} {a : Option Addr} {xs : List Int} (h : OwnI w B' a n c xs) (hu : UpdB w w' B U) (hB : U ≤ B') : OwnI w' B' a n c xs :=
  h.updB hu fun b o e => .inr (Nat.le_trans hB (h.at_base b o e).1)

set_option maxHeartbeats 8000000 in
/-- The Go text returns true, and leaves what was there. -/
theorem walk (r : Int) (ta : Option Addr) (tn tc : Nat) (ts : List Int) (a1 : Option Addr) (n1 c1 : Nat) (xs1 : List Int) (a2 : Option Addr) (n2 c2 : Nat) (xs2 : List (List Int × Int)) (w : World) (hc : IntsAt w ta tn ts) (h1 : IntsAt w a1 n1 xs1) (h2 : TermsAt w a2 n2 xs2) (hcn : tn ≤ 9223372036854775807) (hn1 : n1 ≤ 9223372036854775807) (hn2 : n2 ≤ 9223372036854775807) (hm : MaxL w) (htb : Tab w) :
    Calls Tryz.prog 11 #[carV r ta tn tc, .slice a1 n1 c1, .slice a2 n2 c2] w fun e w' => e = .returned (.bool true) ∧ Ext w w' := by
  have hx0 := Ext.alloc w (.cells #[.int .i64 r, .slice ta tn tc] 49)
  have HF := hidP (fun w' (hx : Ext (w.alloc (.cells #[.int .i64 r, .slice ta tn tc] 49)) w') => (CarAt.new w _ rfl r ta tn tc 49).below hx)
  have X := hidP hx0
  have HT := hidP hc
  have HU1 := hidP h1
  have HU2 := hidP h2
  have HTb := hidP htb
  have HM := hidP hm
  clear hc h1 h2 hm hx0 htb
  have hz0 : w.heap.size < (w.alloc (.cells #[.int .i64 r, .slice ta tn tc] 49)).heap.size := by simp
  obtain ⟨⟨J1, J2⟩, hJ⟩ : ∃ J, J = brnR r ts xs1 xs2 := ⟨_, rfl⟩
  have HJ := hidP hJ
  clear hJ
  obtain ⟨w0, hw0⟩ : ∃ w0, w0 = w.alloc (.cells #[.int .i64 r, .slice ta tn tc] 49) := ⟨_, rfl⟩
  rw [← hw0] at X HF hz0
  have Hz0 := hidP hz0
  clear hz0
  have HSC := hidP (fun w' => szCartan_any r ta tn tc 1048576 w' hcn (by omega) (by omega))
  obtain ⟨f0, f1⟩ := HF.out w0 (Ext.refl _)
  go_enter Tryz.func11, Tryz.ntmps11
  by_cases hi1 : (n1 : Int) ≤ 1048576
  rotate_left
  · have hi1n : 1048576 < (n1 : Int) := by omega
    go_wp2
    go_ret
    exact ⟨rfl, Ext.alloc _ _⟩
  have hi1n : ¬ (1048576 < (n1 : Int)) := by omega
  have hi1m : n1 ≤ 1048576 := by omega
  by_cases hle : (tn : Int) ≤ 1048576
  · have HE : Hid (szLeft tn 1048576 = 1048576 - tn) := if_pos hle
    rw [HE.out] at HSC
    have hng : ¬ (1048576 - (tn : Int) < 0) := by omega
    go_wp2_with fail
    rw [← hw0]
    clear hw0
    refine (HSC.out _).mono ?_
    rintro e w1 ⟨rfl, hx⟩
    have Xw0 : Hid (Ext w0 w0) := hidP (Ext.refl w0)
    clear HSC f0 f1
    have Xw1 := hidP (Xw0.out.trans hx)
    have Zw1 : Hid (w0.heap.size ≤ w1.heap.size) := hx.size
    clear hx
    have HS := hidP (szStepS_any a2 n2 c2 xs2 (1048576 - (tn : Int)) w1 (HU2.out.below (X.out.trans Xw1.out)) hn2 (by omega) (by omega))
    go_wp2_with fail
    refine HS.out.mono ?_
    clear HS
    rintro e w2 ⟨v2, hv2, rfl, hx⟩
    have Xw2 := hidP (Xw1.out.trans hx)
    have Zw2 : Hid (w1.heap.size ≤ w2.heap.size) := hx.size
    clear hx
    rcases hv2 with rfl | ⟨hv2a, hv2b⟩
    · go_wp2
      go_ret
      exact ⟨rfl, X.out.trans Xw2.out⟩
    · have hng2 : ¬ (v2 < 0) := by omega
      have hv2c : v2 ≤ 1048576 := by omega
      have Hv2 := hidP hv2b
      clear hv2b
      have hv2b := Hv2.out
      have hM2 : mkAt xs2 n2 ≤ 1048576 := by omega
      have hL2 := mkAt_len xs2 n2
      have htn : tn ≤ 1048576 := by omega
      clear hv2b
      have HTC := hidP (fun w' (hx : Ext w w') => toCartan_any r ta tn tc ts w' (HT.out.below hx) htn)
      have HTS1 := hidP (fun w' (hx : Ext w w') => toIntS_any a1 n1 c1 xs1 w' (HU1.out.below hx) hi1m)
      have HTS2 := hidP (fun w' (hx : Ext w w') => toStepS_any a2 n2 c2 xs2 w' (HU2.out.below hx) (by omega) (fun k hk => by have := mkAt_one xs2 hk; omega))
      obtain ⟨f0, f1⟩ := HF.out w2 Xw2.out
      go_wp2_with fail
      refine (HTC.out _ (X.out.trans Xw2.out)).mono ?_
      rintro e w3 ⟨CS, rfl, hC, hx⟩
      clear f0 f1
      have FCS := hidP hC
      clear hC
      have Xw3 := hidP (Xw2.out.trans hx)
      have Zw3 : Hid (w2.heap.size ≤ w3.heap.size) := hx.size
      clear hx
      go_wp2_with fail
      refine (HTS1.out _ (X.out.trans Xw3.out)).mono ?_
      rintro e w4 ⟨PS1, rfl, hP, hx⟩
      have FPS1 := hidP hP
      clear hP
      have Xw4 := hidP (Xw3.out.trans hx)
      have Zw4 : Hid (w3.heap.size ≤ w4.heap.size) := hx.size
      have FCS_w4 := hidP (FCS.out.below hx)
      clear hx
      clear FCS
      go_wp2_with fail
      refine (HTS2.out _ (X.out.trans Xw4.out)).mono ?_
      rintro e w5 ⟨PS2, KS2, rfl, hP, hx⟩
      have FPS2 := hidP hP
      clear hP
      have Xw5 := hidP (Xw4.out.trans hx)
      have Zw5 : Hid (w4.heap.size ≤ w5.heap.size) := hx.size
      have FCS_w5 := hidP (FCS_w4.out.below hx)
      have FPS1_w5 := hidP (FPS1.out.below hx)
      clear hx
      clear FCS_w4 FPS1
      have HR := hidP (sBranchTo_any r CS tn tn ts PS1 n1 n1 xs1 (some ⟨PS2, 0, none⟩) n2 n2 xs2 w5 FCS_w5.out.ints FPS1_w5.out.ints FPS2.out.stepsAt (by omega) (by omega) (by omega))
      unfold PathRes at HR
      rw [← HJ.out] at HR
      dsimp only at HR
      go_wp2_with fail
      refine HR.out.mono ?_
      rintro e w6 ⟨aS, nS, cS, KS, rfl, hR, hx⟩
      clear HR
      have FS := hidP hR
      clear hR
      clear FCS_w5 FPS1_w5 FPS2
      have Xw6 := hidP (Xw5.out.trans hx)
      have Zw6 : Hid (w5.heap.size ≤ w6.heap.size) := hx.size
      clear hx
      obtain ⟨f0, f1⟩ := HF.out w6 Xw6.out
      go_wp2_with fail
      refine (HTC.out _ (X.out.trans Xw6.out)).mono ?_
      rintro e w7 ⟨CX, rfl, hC, hx⟩
      clear f0 f1
      have FCX := hidP hC
      have LCX : Hid (∀ b o, CX = some ⟨b, o, none⟩ → w6.heap.size ≤ b ∧ b < w7.heap.size) := fun b o e => hC.at_base b o e
      clear hC
      have Xw7 := hidP (Xw6.out.trans hx)
      have Zw7 : Hid (w6.heap.size ≤ w7.heap.size) := hx.size
      have FS_w7 := hidP (FS.out.below hx)
      clear hx
      clear FS
      go_wp2_with fail
      have hxa := Ext.alloc w7 (.cells #[.int .i64 r, .slice CX tn tn] 55)
      have FB := hidP (CarAt.new w7 _ rfl r CX tn tn 55)
      have hzz : w7.heap.size < (w7.alloc (.cells #[.int .i64 r, .slice CX tn tn] 55)).heap.size := by simp
      obtain ⟨w8, hww⟩ : ∃ x, x = w7.alloc (.cells #[.int .i64 r, .slice CX tn tn] 55) := ⟨_, rfl⟩
      rw [← hww] at hxa FB hzz ⊢
      clear hww
      have Hzz := hidP hzz
      clear hzz
      have Xw8 := hidP (Xw7.out.trans hxa)
      have Zw8 : Hid (w7.heap.size ≤ w8.heap.size) := hxa.size
      have FS_w8 := hidP (FS_w7.out.below hxa)
      have FCX_w8 := hidP (FCX.out.below hxa)
      clear hxa
      clear FS_w7 FCX
      refine (HTS1.out _ (X.out.trans Xw8.out)).mono ?_
      rintro e w9 ⟨PX1, rfl, hP, hx⟩
      have LPX1 : Hid (∀ b o, PX1 = some ⟨b, o, none⟩ → w8.heap.size ≤ b ∧ b < w9.heap.size) := fun b o e => hP.at_base b o e
      have FPX1 := hidP hP
      clear hP
      have Xw9 := hidP (Xw8.out.trans hx)
      have Zw9 : Hid (w8.heap.size ≤ w9.heap.size) := hx.size
      have FS_w9 := hidP (FS_w8.out.below hx)
      have FCX_w9 := hidP (FCX_w8.out.below hx)
      have FB_w9 := hidP (FB.out.below hx)
      clear hx
      clear FS_w8 FCX_w8 FB
      go_wp2_with fail
      refine (HTS2.out _ (X.out.trans Xw9.out)).mono ?_
      rintro e w10 ⟨PX2, KX2, rfl, hP, hx⟩
      have FPX2 := hidP hP
      clear hP
      have Xw10 := hidP (Xw9.out.trans hx)
      have Zw10 : Hid (w9.heap.size ≤ w10.heap.size) := hx.size
      have FS_w10 := hidP (FS_w9.out.below hx)
      have FCX_w10 := hidP (FCX_w9.out.below hx)
      have FB_w10 := hidP (FB_w9.out.below hx)
      have FPX1_w10 := hidP (FPX1.out.below hx)
      clear hx
      clear FS_w9 FCX_w9 FB_w9 FPX1
      obtain ⟨y0, y1⟩ := FB_w10.out
      have HR := hidP (branchTo_any r CX tn tn ts PX1 n1 n1 xs1 (some ⟨PX2, 0, none⟩) n2 n2 xs2 w10 FCX_w10.out.ints FPX1_w10.out.ints FPX2.out.stepsAt (by omega) (by omega) (by omega) (HM.out.below (X.out.trans Xw10.out)) (HTb.out.below (X.out.trans Xw10.out)))
      unfold PathRes at HR
      rw [← HJ.out] at HR
      dsimp only at HR
      go_wp2_with fail
      refine HR.out.mono ?_
      rintro e w11 ⟨aG, nG, cG, KG, rfl, hR, hx⟩
      clear HR
      have FG := hidP hR
      clear hR
      clear y0 y1
      have Xw11 := hidP (Xw10.out.trans hx)
      have Zw11 : Hid (w10.heap.size ≤ w11.heap.size) := hx.size
      have FS_w11 := hidP (FS_w10.out.below hx)
      have FCX_w11 := hidP (FCX_w10.out.below hx)
      have FB_w11 := hidP (FB_w10.out.below hx)
      have FPX1_w11 := hidP (FPX1_w10.out.below hx)
      have FPX2_w11 := hidP (FPX2.out.below hx)
      clear hx
      clear FS_w10 FCX_w10 FB_w10 FPX1_w10 FPX2
      have hJJ : (J1 != J1) = false := by simp
      have HQ := hidP (fun w' (hx : Ext w11 w') => eqStepS_any aG aS nG nS cG cS J2 J2 w' (FG.out.below hx).termsAt (FS_w11.out.below hx).termsAt FG.out.small FS_w11.out.small)
      simp only [beq_self_eq_true] at HQ
      go_wp2_with fail
      refine (HQ.out _ (Ext.refl _)).mono ?_
      rintro e w12 ⟨rfl, hx⟩
      clear HQ
      have Xw12 := hidP (Xw11.out.trans hx)
      have Zw12 : Hid (w11.heap.size ≤ w12.heap.size) := hx.size
      have FS_w12 := hidP (FS_w11.out.below hx)
      have FCX_w12 := hidP (FCX_w11.out.below hx)
      have FB_w12 := hidP (FB_w11.out.below hx)
      have FPX1_w12 := hidP (FPX1_w11.out.below hx)
      have FPX2_w12 := hidP (FPX2_w11.out.below hx)
      have FG_w12 := hidP (FG.out.below hx)
      clear hx
      clear FS_w11 FCX_w11 FB_w11 FPX1_w11 FPX2_w11 FG
      have hE : Ext w12 w12.drew := Ext.drew w12
      have HTCd := hidP (fun w' (hx : Ext w12 w') => (HTC.out w' ((X.out.trans Xw12.out).trans hx)).mono (fun (e : Ending) (w'' : World) ⟨a', he, ho, hx'⟩ => (⟨a', he, OwnI.base ho hx.size, hx'⟩ : ∃ a', e = Ending.returned (carV r a' tn tn) ∧ OwnI w'' w12.heap.size a' tn tn ts ∧ Ext w' w'')))
      have HQ := hidP (fun w' (hx : Ext w12 w') (a' : Option Addr) (ho : OwnI w' w12.heap.size a' tn tn ts) => eqCartan_any r r CX a' tn tn tn tn ts ts w' (FCX_w12.out.below hx).ints ho.ints (by omega) (by omega))
      simp only [and_self, decide_true] at HQ
      go_wp2
      (refine walkR_start (fun w' => Ext w12 w') 5 (by kernel_rfl) ?_; simp only [numbered, List.take_succ_cons, List.take_zero, Nat.zero_add, Nat.reduceAdd, List.length_cons, List.length_nil])
      (repeat (first | (refine walkR_still (v := ?_) rfl (by decide +kernel) rfl (fun _ _ _ h => h) hE ?_ ?_; rotate_left; (focus (intro w' hw'; obtain ⟨f0, f1⟩ := HF.out w' (Xw12.out.trans hw'); obtain ⟨y0, y1⟩ := FB_w12.out.below hw'; go_simp; all_goals (with_reducible rfl))); simp only [Act.put, List.setIfInBounds_toArray, List.set_cons_zero, List.set_cons_succ]) | (refine walkR_skip rfl (by decide +kernel) rfl (fun _ _ _ h => h) hE ?_; simp only [Act.put, List.setIfInBounds_toArray, List.set_cons_zero, List.set_cons_succ])))
      (refine walkR_only (fun w' => Ext w12 w') rfl (by decide +kernel) rfl (fun _ h => h) ?_; intro K hK; go_simp; refine (HTCd.out _ hE).mono ?_; rintro e wd ⟨ad, rfl, hod, hxd⟩; refine hK _ _ (hE.trans hxd) ?_; clear hK K; (try simp only [Act.put, List.setIfInBounds_toArray, List.set_cons_zero, List.set_cons_succ]))
      have hE1 := hE.trans hxd
      have HQ1 := hidP (HQ.out _ hE1 ad hod)
      clear hxd hod
      (refine walkR_only (fun w' => Ext w12 w') rfl (by decide +kernel) rfl (fun _ h => h) ?_; intro K hK; go_simp; refine (HQ1.out).mono ?_; rintro e w13 ⟨rfl, hxd⟩; refine hK _ _ (hE1.trans hxd) ?_; clear hK K; (try simp only [Act.put, List.setIfInBounds_toArray, List.set_cons_zero, List.set_cons_succ]))
      have hx := hE1.trans hxd
      have hxx := hx
      clear hxd hE hE1 HQ HQ1 HTCd
      have Xw13 := hidP (Xw12.out.trans hx)
      have Zw13 : Hid (w12.heap.size ≤ w13.heap.size) := hx.size
      have FS_w13 := hidP (FS_w12.out.below hx)
      have FCX_w13 := hidP (FCX_w12.out.below hx)
      have FB_w13 := hidP (FB_w12.out.below hx)
      have FPX1_w13 := hidP (FPX1_w12.out.below hx)
      have FPX2_w13 := hidP (FPX2_w12.out.below hx)
      have FG_w13 := hidP (FG_w12.out.below hx)
      clear FS_w12 FCX_w12 FB_w12 FPX1_w12 FPX2_w12 FG_w12
      clear hx
      (repeat (first | (refine walkR_still (v := ?_) rfl (by decide +kernel) rfl (fun _ _ _ h => h) hxx ?_ ?_; rotate_left; (focus (intro w' hw'; skip; go_simp; all_goals (with_reducible rfl))); simp only [Act.put, List.setIfInBounds_toArray, List.set_cons_zero, List.set_cons_succ]) | (refine walkR_skip rfl (by decide +kernel) rfl (fun _ _ _ h => h) hxx ?_; simp only [Act.put, List.setIfInBounds_toArray, List.set_cons_zero, List.set_cons_succ])))
      (refine walkR_tail (by rfl) (by kernel_rfl) ?_; simp only [List.drop_succ_cons, List.drop_zero])
      clear hxx
      go_wp2_with fail
      refine (HTS1.out _ (X.out.trans Xw13.out)).mono ?_
      rintro e w14 ⟨gd, rfl, hP, hx⟩
      have FD := hidP hP
      clear hP
      have Xw14 := hidP (Xw13.out.trans hx)
      have Zw14 : Hid (w13.heap.size ≤ w14.heap.size) := hx.size
      have FS_w14 := hidP (FS_w13.out.below hx)
      have FCX_w14 := hidP (FCX_w13.out.below hx)
      have FB_w14 := hidP (FB_w13.out.below hx)
      have FPX1_w14 := hidP (FPX1_w13.out.below hx)
      have FPX2_w14 := hidP (FPX2_w13.out.below hx)
      have FG_w14 := hidP (FG_w13.out.below hx)
      clear hx
      clear FS_w13 FCX_w13 FB_w13 FPX1_w13 FPX2_w13 FG_w13
      have HQ := hidP (eqIntS_any PX1 gd n1 n1 n1 n1 xs1 xs1 w14 FPX1_w14.out.ints FD.out.ints (by omega) (by omega))
      simp only [beq_self_eq_true] at HQ
      go_wp2_with fail
      refine HQ.out.mono ?_
      rintro e w15 ⟨rfl, m, hd⟩
      have hx : Ext w14 w15 := by rw [hd]; exact Ext.drewN _ _
      clear hd HQ FD
      have Xw15 := hidP (Xw14.out.trans hx)
      have Zw15 : Hid (w14.heap.size ≤ w15.heap.size) := hx.size
      have FS_w15 := hidP (FS_w14.out.below hx)
      have FCX_w15 := hidP (FCX_w14.out.below hx)
      have FB_w15 := hidP (FB_w14.out.below hx)
      have FPX1_w15 := hidP (FPX1_w14.out.below hx)
      have FPX2_w15 := hidP (FPX2_w14.out.below hx)
      have FG_w15 := hidP (FG_w14.out.below hx)
      clear hx
      clear FS_w14 FCX_w14 FB_w14 FPX1_w14 FPX2_w14 FG_w14
      go_wp2_with fail
      refine (HTS2.out _ (X.out.trans Xw15.out)).mono ?_
      rintro e w16 ⟨gd, Kd, rfl, hP, hx⟩
      have FD := hidP hP
      clear hP
      have Xw16 := hidP (Xw15.out.trans hx)
      have Zw16 : Hid (w15.heap.size ≤ w16.heap.size) := hx.size
      have FS_w16 := hidP (FS_w15.out.below hx)
      have FCX_w16 := hidP (FCX_w15.out.below hx)
      have FB_w16 := hidP (FB_w15.out.below hx)
      have FPX1_w16 := hidP (FPX1_w15.out.below hx)
      have FPX2_w16 := hidP (FPX2_w15.out.below hx)
      have FG_w16 := hidP (FG_w15.out.below hx)
      clear hx
      clear FS_w15 FCX_w15 FB_w15 FPX1_w15 FPX2_w15 FG_w15
      have FDD := hidP (FD.out.below (Ext.refl _))
      clear FD
      have HQ := hidP (fun w' (hx : Ext w16 w') => eqStepS_any (some ⟨PX2, 0, none⟩) (some ⟨gd, 0, none⟩) n2 n2 n2 n2 xs2 xs2 w' (FPX2_w16.out.below hx).termsAt (FDD.out.below hx).termsAt FPX2_w16.out.small FDD.out.small)
      simp only [beq_self_eq_true] at HQ
      go_wp2_with fail
      refine (HQ.out _ (Ext.refl _)).mono ?_
      rintro e w17 ⟨rfl, hx⟩
      clear HQ
      have Xw17 := hidP (Xw16.out.trans hx)
      have Zw17 : Hid (w16.heap.size ≤ w17.heap.size) := hx.size
      have FS_w17 := hidP (FS_w16.out.below hx)
      have FCX_w17 := hidP (FCX_w16.out.below hx)
      have FB_w17 := hidP (FB_w16.out.below hx)
      have FPX1_w17 := hidP (FPX1_w16.out.below hx)
      have FPX2_w17 := hidP (FPX2_w16.out.below hx)
      have FG_w17 := hidP (FG_w16.out.below hx)
      clear hx
      clear FS_w16 FCX_w16 FB_w16 FPX1_w16 FPX2_w16 FG_w16
      clear FDD
      have HZ : Hid (w0.heap.size ≤ w6.heap.size ∧ w6.heap.size ≤ w7.heap.size ∧ w7.heap.size ≤ w8.heap.size ∧ w8.heap.size ≤ w9.heap.size ∧ w9.heap.size ≤ w10.heap.size ∧ w10.heap.size ≤ w11.heap.size) := by
        refine ⟨Xw6.out.size, Zw7.out, Zw8.out, Zw9.out, Zw10.out, Zw11.out⟩
      obtain ⟨y0, y1⟩ := FB_w17.out
      have HMk := hidP (markCartan_any r _ CX tn tn 1 ts w17 FCX_w17.out (by omega) (by omega) (by omega))
      go_wp2_with fail
      refine HMk.out.mono ?_
      rintro e w18 ⟨rfl, hu⟩
      clear HMk y0 y1
      have hub := hu.updB LCX.out
      clear hu
      clear FCX_w17 FB_w17
      have Xw18 : Hid (Ext w0 w18) := hub.below Xw17.out Xw17.out.size (by have hZ := HZ.out; omega)
      have Zw18 : Hid (w17.heap.size ≤ w18.heap.size) := hub.size
      have FS_w18 := hidP (FS_w17.out.updB_lo hub (by have hZ := HZ.out; omega))
      have FPX1_w18 := hidP (ownI_hi FPX1_w17.out hub (by have hZ := HZ.out; omega))
      have FPX2_w18 := hidP (FPX2_w17.out.updB_hi hub (by have hZ := HZ.out; omega))
      have FG_w18 := hidP (FG_w17.out.updB_hi hub (by have hZ := HZ.out; omega))
      clear hub FS_w17 FPX1_w17 FPX2_w17 FG_w17
      have HMk := hidP (markIntS_any PX1 n1 n1 (1 + (tn : Int)) xs1 w18 FPX1_w18.out.ints FPX1_w18.out.unfrozen (by omega) (by omega) (by omega))
      go_wp2_with fail
      refine HMk.out.mono ?_
      rintro e w19 ⟨rfl, hu⟩
      clear HMk
      have hub := hu.updB LPX1.out
      clear hu
      clear FPX1_w18
      have Xw19 : Hid (Ext w0 w19) := hub.below Xw18.out Xw18.out.size (by have hZ := HZ.out; omega)
      have Zw19 : Hid (w18.heap.size ≤ w19.heap.size) := hub.size
      have FS_w19 := hidP (FS_w18.out.updB_lo hub (by have hZ := HZ.out; omega))
      have FPX2_w19 := hidP (FPX2_w18.out.updB_hi hub (by have hZ := HZ.out; omega))
      have FG_w19 := hidP (FG_w18.out.updB_hi hub (by have hZ := HZ.out; omega))
      clear hub FS_w18 FPX2_w18 FG_w18
      have HMk := hidP (markStepS_any _ _ (some ⟨PX2, 0, none⟩) n2 n2 KX2 xs2 ((1 + (tn : Int)) + (n1 : Int)) w19 FPX2_w19.out (by omega) (by omega) (by omega))
      go_wp2_with fail
      refine HMk.out.mono ?_
      rintro e w20 ⟨rfl, ym, _, _, hub⟩
      clear HMk
      clear FPX2_w19
      have Xw20 : Hid (Ext w0 w20) := hub.below Xw19.out Xw19.out.size (by have hZ := HZ.out; omega)
      have Zw20 : Hid (w19.heap.size ≤ w20.heap.size) := hub.size
      have FS_w20 := hidP (FS_w19.out.updB_lo hub (by have hZ := HZ.out; omega))
      have FG_w20 := hidP (FG_w19.out.updB_hi hub (by have hZ := HZ.out; omega))
      clear hub FS_w19 FG_w19
      have hk0 : ¬ ((((1 + (tn : Int)) + (n1 : Int)) + (mkAt xs2 n2 : Int)) < 0) := by omega
      have HQ := hidP (fun w' (hx : Ext w20 w') => eqStepS_any aG aS nG nS cG cS J2 J2 w' (FG_w20.out.below hx).termsAt (FS_w20.out.below hx).termsAt FG_w20.out.small FS_w20.out.small)
      simp only [beq_self_eq_true] at HQ
      go_wp2_with fail
      refine (HQ.out _ (Ext.refl _)).mono ?_
      rintro e w21 ⟨rfl, hx⟩
      clear HQ
      have Xw21 := hidP (Xw20.out.trans hx)
      have Zw21 : Hid (w20.heap.size ≤ w21.heap.size) := hx.size
      have FS_w21 := hidP (FS_w20.out.below hx)
      have FG_w21 := hidP (FG_w20.out.below hx)
      clear hx
      clear FS_w20 FG_w20
      have hJn : mkAt J2 nG ≤ 10000000 := termsJ_small (HJ.out ▸ brnR_small r ts xs1 xs2) FG_w21.out.xl
      have HMk := hidP (markStepS_any _ _ aG nG cG KG J2 1 w21 FG_w21.out hJn (by omega) (by omega))
      go_wp2_with fail
      refine HMk.out.mono ?_
      rintro e w22 ⟨rfl, ym, ho, HMm, hub⟩
      clear HMk
      have FM := hidP ho
      clear ho
      clear FG_w21
      have Xw22 : Hid (Ext w0 w22) := hub.below Xw21.out Xw21.out.size (by have hZ := HZ.out; omega)
      have Zw22 : Hid (w21.heap.size ≤ w22.heap.size) := hub.size
      have FS_w22 := hidP (FS_w21.out.updB_lo hub (by have hZ := HZ.out; omega))
      clear hub FS_w21
      have hq0 : ¬ ((1 : Int) + (mkAt J2 nG : Int) < 0) := by omega
      have hqq : ((1 : Int) + (mkAt J2 nG : Int) != 1 + (mkAt J2 nG : Int)) = false := by simp
      have HH := hidP (heldStepS_any aG nG cG J2 ym 1 w22 FM.out.termsAt HMm.out hJn (by omega) (by omega))
      go_wp2_with fail
      refine HH.out.mono ?_
      rintro e w23 ⟨rfl, hx⟩
      clear HH
      have Xw23 := hidP (Xw22.out.trans hx)
      have Zw23 : Hid (w22.heap.size ≤ w23.heap.size) := hx.size
      have FS_w23 := hidP (FS_w22.out.below hx)
      have FM_w23 := hidP (FM.out.below hx)
      clear hx
      clear FS_w22 FM
      obtain ⟨f0, f1⟩ := HF.out w23 Xw23.out
      go_wp2_with fail
      refine (HTC.out _ (X.out.trans Xw23.out)).mono ?_
      rintro e w24 ⟨CH, rfl, hC, hx⟩
      clear f0 f1
      have FCH := hidP hC
      clear hC
      have Xw24 := hidP (Xw23.out.trans hx)
      have Zw24 : Hid (w23.heap.size ≤ w24.heap.size) := hx.size
      have FS_w24 := hidP (FS_w23.out.below hx)
      have FM_w24 := hidP (FM_w23.out.below hx)
      clear hx
      clear FS_w23 FM_w23
      go_wp2_with fail
      refine (HTS1.out _ (X.out.trans Xw24.out)).mono ?_
      rintro e w25 ⟨PH1, rfl, hP, hx⟩
      have FPH1 := hidP hP
      clear hP
      have Xw25 := hidP (Xw24.out.trans hx)
      have Zw25 : Hid (w24.heap.size ≤ w25.heap.size) := hx.size
      have FS_w25 := hidP (FS_w24.out.below hx)
      have FM_w25 := hidP (FM_w24.out.below hx)
      have FCH_w25 := hidP (FCH.out.below hx)
      clear hx
      clear FS_w24 FM_w24 FCH
      go_wp2_with fail
      refine (HTS2.out _ (X.out.trans Xw25.out)).mono ?_
      rintro e w26 ⟨PH2, KH2, rfl, hP, hx⟩
      have FPH2 := hidP hP
      clear hP
      have Xw26 := hidP (Xw25.out.trans hx)
      have Zw26 : Hid (w25.heap.size ≤ w26.heap.size) := hx.size
      have FS_w26 := hidP (FS_w25.out.below hx)
      have FM_w26 := hidP (FM_w25.out.below hx)
      have FCH_w26 := hidP (FCH_w25.out.below hx)
      have FPH1_w26 := hidP (FPH1.out.below hx)
      clear hx
      clear FS_w25 FM_w25 FCH_w25 FPH1
      have HR := hidP (branchTo_any r CH tn tn ts PH1 n1 n1 xs1 (some ⟨PH2, 0, none⟩) n2 n2 xs2 w26 FCH_w26.out.ints FPH1_w26.out.ints FPH2.out.stepsAt (by omega) (by omega) (by omega) (HM.out.below (X.out.trans Xw26.out)) (HTb.out.below (X.out.trans Xw26.out)))
      unfold PathRes at HR
      rw [← HJ.out] at HR
      dsimp only at HR
      go_wp2_with fail
      refine HR.out.mono ?_
      rintro e w27 ⟨aH, nH, cH, KH, rfl, hR, hx⟩
      clear HR
      have FH := hidP hR
      clear hR
      clear FCH_w26
      clear FPH1_w26
      clear FPH2
      have Xw27 := hidP (Xw26.out.trans hx)
      have Zw27 : Hid (w26.heap.size ≤ w27.heap.size) := hx.size
      have FS_w27 := hidP (FS_w26.out.below hx)
      have FM_w27 := hidP (FM_w26.out.below hx)
      clear hx
      clear FS_w26 FM_w26
      have HQ := hidP (fun w' (hx : Ext w27 w') => eqStepS_any aH aS nH nS cH cS J2 J2 w' (FH.out.below hx).termsAt (FS_w27.out.below hx).termsAt FH.out.small FS_w27.out.small)
      simp only [beq_self_eq_true] at HQ
      go_wp2_with fail
      refine (HQ.out _ (Ext.refl _)).mono ?_
      rintro e w28 ⟨rfl, hx⟩
      clear HQ
      have Xw28 := hidP (Xw27.out.trans hx)
      have Zw28 : Hid (w27.heap.size ≤ w28.heap.size) := hx.size
      have FS_w28 := hidP (FS_w27.out.below hx)
      have FM_w28 := hidP (FM_w27.out.below hx)
      have FH_w28 := hidP (FH.out.below hx)
      clear hx
      clear FS_w27 FM_w27 FH
      have HH := hidP (heldStepS_any aG nG cG J2 ym 1 w28 FM_w28.out.termsAt HMm.out hJn (by omega) (by omega))
      go_wp2_with fail
      refine HH.out.mono ?_
      rintro e w29 ⟨rfl, hx⟩
      clear HH
      have Xw29 := hidP (Xw28.out.trans hx)
      have Zw29 : Hid (w28.heap.size ≤ w29.heap.size) := hx.size
      have FS_w29 := hidP (FS_w28.out.below hx)
      have FM_w29 := hidP (FM_w28.out.below hx)
      have FH_w29 := hidP (FH_w28.out.below hx)
      clear hx
      clear FS_w28 FM_w28 FH_w28
      go_wp2
      go_ret
      exact ⟨rfl, X.out.trans Xw29.out⟩
  · have HE : Hid (szLeft tn 1048576 = -1) := if_neg hle
    rw [HE.out] at HSC
    go_wp2_with fail
    rw [← hw0]
    clear hw0
    refine (HSC.out _).mono ?_
    rintro e w1 ⟨rfl, hx1⟩
    go_wp2
    go_ret
    exact ⟨rfl, X.out.trans hx1⟩
end Go.Proofs.YtnfbfdamlnjblaaGreatDoor.fnExactBranchTo
