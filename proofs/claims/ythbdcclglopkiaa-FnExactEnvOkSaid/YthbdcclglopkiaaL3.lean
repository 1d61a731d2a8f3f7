/-
  FnExactEnvOk: for all algebras and lists of terms the program's EnvOk returns what the reference's returns, and leaves what was there.
  No condition.
-/
import Derived.Test.YthbdcclglopkiaaLEnvT3
import Derived.Test.YthbdcclglopkiaaEnv1
import Derived.Test.YthbdcclglopkiaaOpn
namespace Go.Proofs.Ythbdcclglopkiaa.fnExactEnvOk
open Go.ChangeShapes Go.WideShapes Go.ChangeAt Go.RowKit
set_option linter.unusedVariables false

/-- The Go text returns true, and leaves what was there. -/
theorem walk (p d : Int) (ta : Option Addr) (tn tc : Nat) (t : List Int) (a : Option Addr) (n c : Nat) (us : List (List Int × Int)) (w : World)
    (ht : IntsAt w ta tn t) (h : TermsAt w a n us) (htn : tn ≤ 9223372036854775807) (hn : n ≤ 9223372036854775807) :
    Calls Try.prog 5 #[algV p d ta tn tc, .slice a n c] w fun e w' => e = .returned (.bool true) ∧ Ext w w' := by
  have hx0 := Ext.alloc w (.cells #[.int .i64 p, .int .i64 d, .slice ta tn tc] 35)
  have HT := hidP (ht.below hx0)
  have HU := hidP (h.below hx0)
  have HAL := hidP (AlgAt.new w _ rfl p d ta tn tc 35)
  have HX0 := hidP hx0
  clear ht h hx0
  go_enter Try.func5, Try.ntmps5
  have HSZ := hidP (fun w' => szAlgebra_any p d ta tn tc 1048576 w' htn (by omega) (by omega))
  by_cases hle : (tn : Int) ≤ 1048576
  · have HE : Hid (szLeft tn 1048576 = 1048576 - tn) := if_pos hle
    rw [HE.out] at HSZ
    go_wp2_with fail
    refine (HSZ.out _).mono ?_
    rintro e w1 ⟨rfl, hx1⟩
    have HX1 := hidP (HX0.out.trans hx1)
    have HAL1 := hidP (HAL.out.below hx1)
    have HT1 := hidP (HT.out.below hx1)
    have HU1 := hidP (HU.out.below hx1)
    clear hx1 HX0 HT HU HAL HSZ
    have hng : ¬ (1048576 - (tn : Int) < 0) := by omega
    have HSZ := hidP (fun w' (hx : Ext w1 w') => szEnvTermS_any a n c us (1048576 - tn) w' (HU1.out.below hx) hn (by omega) (by omega))
    go_wp2_with fail
    refine (HSZ.out _ (Ext.refl _)).mono ?_
    rintro e w2 ⟨v, hv, rfl, hx2⟩
    rcases hv with rfl | ⟨hv0, hv1, hv2, hv3⟩
    · go_wp2
      go_ret
      exact ⟨rfl, HX1.out.trans hx2⟩
    · have HX2 := hidP (HX1.out.trans hx2)
      have HAL2 := hidP (HAL1.out.below hx2)
      have HT2 := hidP (HT1.out.below hx2)
      have HU2 := hidP (HU1.out.below hx2)
      have HM := hidP (fun i (hi : i < n) => (by have := hv3 i hi; omega : ((us.getD i ([], 0)).1.length : Int) ≤ 1048576))
      clear hx2 HX1 HT1 HU1 HAL1 HSZ hv3
      have hng2 : ¬ (v < 0) := by omega
      have HTA := hidP (fun w' (hx : Ext w2 w') => toAlgebra_any p d ta tn tc t w' (HT2.out.below hx) (by omega))
      have HTE := hidP (fun w' (hx : Ext w2 w') => toEnvTermS_any a n c us w' (HU2.out.below hx) (by omega) HM.out)
      have HF := hidP (fun w' (hx : Ext w2 w') => (⟨(HAL2.out.below hx).c0, (HAL2.out.below hx).c1, (HAL2.out.below hx).c2⟩ : _ ∧ _ ∧ _))
      obtain ⟨f0, f1, f2⟩ := HF.out w2 (Ext.refl _)
      go_wp2_with fail
      refine (HTA.out _ (Ext.refl _)).mono ?_
      rintro e w3 ⟨a3, rfl, ho3, hx3⟩
      have HO3 := hidP ho3
      have HX3 := hidP hx3
      clear ho3 hx3 f0 f1 f2
      go_wp2_with fail
      refine (HTE.out _ HX3.out).mono ?_
      rintro e w4 ⟨a4, rfl, ht4, hx4⟩
      have HT4 := hidP ht4
      have HX4 := hidP (HX3.out.trans hx4)
      have HO4 := hidP (HO3.out.below hx4)
      clear ht4 hx4
      have HS := hidP (sEnvOk_any p d a3 tn tn t a4 n n us w4 HO4.out.ints (Nat.le_refl _) (by omega) HT4.out (by omega))
      go_wp2_with fail
      refine HS.out.mono ?_
      rintro e w5 ⟨rfl, hx5⟩
      have HX5 := hidP (HX4.out.trans hx5)
      clear hx5
      obtain ⟨f0, f1, f2⟩ := HF.out w5 HX5.out
      go_wp2_with fail
      refine (HTA.out _ HX5.out).mono ?_
      rintro e w6 ⟨a6, rfl, ho6, hx6⟩
      have HO6 := hidP ho6
      have HX6 := hidP (HX5.out.trans hx6)
      clear ho6 hx6 f0 f1 f2
      go_wp2_with fail
      have hxa : Ext w6 (w6.alloc (.cells #[.int .i64 p, .int .i64 d, .slice a6 tn tn] 24)) := Ext.alloc _ _
      have hz6 : w6.heap.size < (w6.alloc (.cells #[.int .i64 p, .int .i64 d, .slice a6 tn tn] 24)).heap.size := by simp
      have HAL6 := hidP (AlgAt.new w6 _ rfl p d a6 tn tn 24)
      obtain ⟨w7, hw7⟩ : ∃ w7, w7 = w6.alloc (.cells #[.int .i64 p, .int .i64 d, .slice a6 tn tn] 24) := ⟨_, rfl⟩
      rw [← hw7] at hxa hz6 HAL6 ⊢
      clear hw7
      have HX7 := hidP (HX6.out.trans hxa)
      have HO7 := hidP (HO6.out.below hxa)
      clear hxa
      have HF7 := hidP (fun w' (hx : Ext w7 w') => (⟨(HAL6.out.below hx).c0, (HAL6.out.below hx).c1, (HAL6.out.below hx).c2⟩ : _ ∧ _ ∧ _))
      refine (HTE.out _ HX7.out).mono ?_
      rintro e w8 ⟨a8, rfl, ht8, hx8⟩
      have HT8 := hidP ht8
      have HX8 := hidP hx8
      clear ht8 hx8
      have HI := hidP (envOk_any p d a6 tn tn t a8 n n us w8 (HO7.out.below HX8.out).ints (Nat.le_refl _) (by omega) HT8.out (by omega))
      generalize (algB p d t && envB p d us) = B at *
      obtain ⟨f0, f1, f2⟩ := HF7.out w8 HX8.out
      go_wp2_with fail
      refine HI.out.mono ?_
      rintro e w9 ⟨rfl, hx9⟩
      have HX9 := hidP (HX8.out.trans hx9)
      have HT9 := hidP (HT8.out.below hx9)
      clear hx9 f0 f1 f2
      have hBB : (B != B) = false := by simp
      have hE : Ext w9 w9.drew := Ext.drew w9
      have HQ := hidP (fun w' (hx : Ext w9 w') (a' : Option Addr) (ho : OwnI w' w9.heap.size a' tn tn t) => eqAlgebra_any p d p d a6 a' tn tn tn tn t t w' ((HO7.out.below HX9.out).below hx).ints ho.ints (by omega) (by omega))
      simp only [and_self, decide_true] at HQ
      have HTA9 := hidP (fun w' (hx : Ext w9 w') => (HTA.out w' ((HX7.out.trans HX9.out).trans hx)).mono (fun (e : Ending) (w'' : World) ⟨a', he, ho, hx'⟩ => (⟨a', he, OwnI.base ho hx.size, hx'⟩ : ∃ a', e = Ending.returned (algV p d a' tn tn) ∧ OwnI w'' w9.heap.size a' tn tn t ∧ Ext w' w'')))
      go_wp2
      (refine walkR_start (fun w' => Ext w9 w') 5 (by kernel_rfl) ?_; simp only [numbered, List.take_succ_cons, List.take_zero, Nat.zero_add, Nat.reduceAdd, List.length_cons, List.length_nil])
      (repeat (first | (refine walkR_still (v := ?_) rfl (by decide +kernel) rfl (fun _ _ _ h => h) hE ?_ ?_; rotate_left; (focus (intro w' hw'; obtain ⟨f0, f1, f2⟩ := HF7.out w' (HX9.out.trans hw'); obtain ⟨g0, g1, g2⟩ := HF.out w' ((HX7.out.trans HX9.out).trans hw'); go_simp; all_goals (with_reducible rfl))); simp only [Act.put, List.setIfInBounds_toArray, List.set_cons_zero, List.set_cons_succ]) | (refine walkR_skip rfl (by decide +kernel) rfl (fun _ _ _ h => h) hE ?_; simp only [Act.put, List.setIfInBounds_toArray, List.set_cons_zero, List.set_cons_succ])))
      (refine walkR_only (fun w' => Ext w9 w') rfl (by decide +kernel) rfl (fun _ h => h) ?_; intro K hK; go_simp; refine (HTA9.out _ hE).mono ?_; rintro e w10 ⟨a10, rfl, ho10, hx10⟩; refine hK _ _ (hE.trans hx10) ?_; clear hK K; (try simp only [Act.put, List.setIfInBounds_toArray, List.set_cons_zero, List.set_cons_succ]))
      have hE1 := hE.trans hx10
      have HQ1 := hidP (HQ.out _ hE1 a10 ho10)
      clear hx10 ho10
      (refine walkR_only (fun w' => Ext w9 w') rfl (by decide +kernel) rfl (fun _ h => h) ?_; intro K hK; go_simp; refine (HQ1.out).mono ?_; rintro e w11 ⟨rfl, hx11⟩; refine hK _ _ (hE1.trans hx11) ?_; clear hK K; (try simp only [Act.put, List.setIfInBounds_toArray, List.set_cons_zero, List.set_cons_succ]))
      have hE2 := hidP (hE1.trans hx11)
      clear hx11 hE1 hE
      (repeat (first | (refine walkR_still (v := ?_) rfl (by decide +kernel) rfl (fun _ _ _ h => h) hE2.out ?_ ?_; rotate_left; (focus (intro w' hw'; skip; go_simp; all_goals (with_reducible rfl))); simp only [Act.put, List.setIfInBounds_toArray, List.set_cons_zero, List.set_cons_succ]) | (refine walkR_skip rfl (by decide +kernel) rfl (fun _ _ _ h => h) hE2.out ?_; simp only [Act.put, List.setIfInBounds_toArray, List.set_cons_zero, List.set_cons_succ])))
      (refine walkR_tail (by rfl) (by kernel_rfl) ?_; simp only [List.drop_succ_cons, List.drop_zero])
      go_wp2_with fail
      refine (HTE.out _ ((HX7.out.trans HX9.out).trans hE2.out)).mono ?_
      rintro e w12 ⟨a12, rfl, ht12, hx12⟩
      have HX12 := hidP (hE2.out.trans hx12)
      have HQ2 := hidP (eqEnvTermS_any a8 a12 n n n n us us w12 (HT9.out.below HX12.out) ht12 (by omega) (by omega))
      simp only [beq_self_eq_true] at HQ2
      clear hx12 ht12
      go_wp2_with fail
      refine HQ2.out.mono ?_
      rintro e w13 ⟨rfl, hx13⟩
      have HX13 := hidP (HX12.out.trans hx13)
      clear hx13
      go_wp2
      go_ret
      exact ⟨rfl, (HX2.out.trans (HX7.out.trans HX9.out)).trans HX13.out⟩
  · have HE : Hid (szLeft tn 1048576 = -1) := if_neg hle
    rw [HE.out] at HSZ
    go_wp2_with fail
    refine (HSZ.out _).mono ?_
    rintro e w1 ⟨rfl, hx1⟩
    go_wp2
    go_ret
    exact ⟨rfl, HX0.out.trans hx1⟩

theorem own : ownKnob Try.prog.godebug = none := by kernel_rfl
theorem laidOut : laidOutB Try.prog = true := by kernel_rfl
/-! ### THE ROW's STEP -/
set_option maxRecDepth 100000 in
theorem lifted (os : Os) (started : os.Started) (H : Type) (enc : TypeId × Value → H) :
    ReturnsInHanded {} Try.checked os 5 .any (Rows.fnExactEnvOkSpec.pre6 enc Try.prog Try.f5 Rows.fnExactEnvOkRow.domain false) (Rows.fnExactEnvOkSpec.post enc Try.prog Try.f5 false true false false) := by
  refine returnsInHanded_of_change (C := Try.checked) own started (by kernel_rfl) Try.func5
    (ChangeSpec.witness6 (enc := enc) (C := Try.checked) false ⟨#[], #[.agg #[.int .i64 0, .int .i64 0, .slice none 0 0], .slice none 0 0], []⟩ 8 (by kernel_rfl) (by kernel_rfl) (by kernel_rfl) (by kernel_rfl)) ?_
  intro W base args ds gs before hval0 hW hcnd _
  have hval : ∀ (j : Nat) t v, Try.f5.params[j]? = some t → args[j]? = some v → Value.okWide Try.prog W .any base t v := hval0
  have hW' := hW
  obtain ⟨p, q, hA0, hV, rfl, hfz, hnd⟩ := hW
  have hA : DataW.TrodAll enc Try.prog W 0 (fun _ => true) true Try.f5.params.toList args.toList ds p := hA0
  rw [Try.params5] at hA hval
  obtain ⟨v0, vs0, d0, ds0, p0, q0, hargs, rfl, rfl, h0, r0⟩ := trodAll_cons hA
  obtain ⟨v1, vs1, d1, ds1, p1, q1, rfl, rfl, rfl, h1, r1⟩ := trodAll_cons r0
  obtain ⟨rfl, rfl, rfl⟩ := trodAll_nil r1
  obtain rfl : args = #[v0, v1] := by cases args; simp_all
  obtain ⟨rfl, rfl⟩ := trodVars_none hV
  have lt0 : ∀ x ∈ p0, x.block < W.heap.size := fun x hx => hW'.lt x (by simp [hx])
  obtain ⟨b0, c0, e0, n0, k0, xs0, rfl, i0, g0, s0⟩ := alg_in Try.underlying35 (by kernel_rfl) (by kernel_rfl) Try.underlying3 Try.underlying3 Try.underlying22 Try.underlying3 (by kernel_rfl) (hval 0 35 v0 rfl rfl) h0
  have lt1 : ∀ x ∈ p1, x.block < W.heap.size := fun x hx => hW'.lt x (by simp [hx])
  obtain ⟨z1, l1, m1, rfl⟩ := okWide_slice Try.underlying36 (hval 1 36 v1 rfl rfl)
  obtain ⟨fuel1, hf1⟩ := id h1
  obtain ⟨e1, n1, k1, xs1, q1, i1, g1, s1, t1⟩ := terms_in Try.underlying36 Try.underlying73 (by kernel_rfl) (by kernel_rfl) Try.underlying22 Try.underlying3 Try.underlying3 (by kernel_rfl) hf1
  simp [Value.cells] at q1
  obtain ⟨rfl, rfl, rfl⟩ := q1
  clear hA0 hval0
  refine (walk b0 c0 e0 n0 k0 xs0 z1 l1 m1 xs1 W i0 i1 s0 s1).mono fun e W' ⟨he, bel⟩ => ?_
  subst he
  exact ⟨_, rfl, _, _, _, [], _, [], hW', trodAll_mk1 (shut_bool Try.underlying4 _), (trodAll_cons_mk (Below.trod laidOut (by kernel_rfl) (of_decide_eq_true (by kernel_rfl)) h0 bel lt0) (trodAll_cons_mk (Below.trod laidOut (by kernel_rfl) (of_decide_eq_true (by kernel_rfl)) h1 bel lt1) trodAll_mk0)), rfl, bel.frame _, fun h => by cases h⟩

theorem over : Rows.fnExactEnvOkRow.holds Try.pinned (OpenSpec.ofChange Rows.fnExactEnvOkSpec) :=
  OpenClaim.holds_of_wide 5 Try.f5 rfl rfl rfl rfl rfl rfl rfl ⟨rfl, rfl, rfl, rfl, rfl⟩ rfl rfl rfl rfl rfl (by kernel_rfl) Try.func5 (by kernel_rfl)
    (of_decide_eq_true (by kernel_rfl)) (by unfold Func.isWrapper; first | (rw [if_pos (by decide +kernel)]; kernel_rfl) | (rw [if_neg (by decide +kernel)]; exact ⟨rfl, rfl⟩))
    (fun os started H enc _ => lifted os started H enc)

/-- THE STATEMENT -/
theorem proved : Rows.FnExactEnvOkSaid :=
  over
#print axioms proved

end Go.Proofs.Ythbdcclglopkiaa.fnExactEnvOk
