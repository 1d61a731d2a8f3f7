/-
  FnExactExampleAlgebra: for all k and p the program's ExampleAlgebra returns what the reference's returns, in memory of its own.
  No condition.
-/
import Derived.Test.YthbdcclglopkiaaExA
import Derived.ProofKit
import Derived.OpenShut
import Derived.ChangeOld
namespace Go.Proofs.Ythbdcclglopkiaa.fnExactExampleAlgebra
open Go.ChangeShapes Go.WideShapes Go.ChangeAt Go.RowKit
set_option linter.unusedVariables false

theorem own : ownKnob Try.prog.godebug = none := by kernel_rfl

theorem exData_len (k p : Int) : (exData k p).t.length ≤ 21952 := by
  by_cases h : primeB p = true ∧ insB k 0 9 = true
  · rw [exData_ok h]
    show (exTab k.toNat p).length ≤ _
    rw [← exTabTo_all, exTabTo_length]
    obtain ⟨d2, d6⟩ := exDim_le k.toNat
    have := (cube_le (d := exDim k.toNat) (by omega) (by omega)).2.2
    omega
  · rw [exData_bad h]
    simp

/-- The Go text returns true, and leaves what was there. -/
theorem walk (a0 : Int) (a1 : Int) (w : World) :
    Calls Try.prog 3 #[.int .i64 a0, .int .i64 a1] w fun e w' => e = .returned (.bool true) ∧ Ext w w' := by
  have hS := hidP (fun w' => sExampleAlgebra_any a0 a1 w')
  have hI := hidP (fun w' => exampleAlgebra_any a0 a1 w')
  have hL := exData_len a0 a1
  obtain ⟨D, hD⟩ : ∃ D, D = exData a0 a1 := ⟨_, rfl⟩
  unfold ExSays at hS hI
  rw [← hD] at hS hI hL
  obtain ⟨P, d, t, ok⟩ := D
  simp only at hS hI hL
  clear hD
  go_enter Try.func3, Try.ntmps3
  go_wp2_with fail
  refine (hS.out _).mono ?_
  rintro e w1 ⟨aS, nS, cS, rfl, hoS, hx1⟩
  have HoS := hidP hoS
  have HX1 := hidP hx1
  clear hoS hx1
  go_wp2_with fail
  refine (hI.out _).mono ?_
  rintro e w2 ⟨aI, nI, cI, rfl, hoI, hx2⟩
  obtain ⟨r0, r1, r2, _, _, _, hs12, hx12⟩ := resAlg hx2
  have HoI := hidP (hoI.base (B' := w1.heap.size + 1) (by simp))
  have HX12 := hidP hx12
  have HoS2 := hidP (HoS.out.below hx12)
  clear hoI hx2 hx12
  have HE := hidP (fun w' (hx : Ext w2 w') => eqAlgebra_any P d P d aI aS nI nS cI cS t t w' (HoI.out.ints.below hx) (HoS2.out.ints.below hx) (by have := HoI.out.len; omega) (by have := HoS.out.len; omega))
  simp only [and_self, decide_true] at HE
  go_wp2_with fail
  refine (HE.out _ (Ext.alloc _ _)).mono ?_
  rintro e w3 ⟨rfl, hx3⟩
  obtain ⟨s0, s1, s2, _, _, _, hs23, hx23⟩ := resAlg hx3
  have t0 := (hx23.cell (p := ⟨w1.heap.size, 0, none⟩) hs12).trans r0
  have t1 := (hx23.cell (p := ⟨w1.heap.size, 1, none⟩) hs12).trans r1
  have t2 := (hx23.cell (p := ⟨w1.heap.size, 2, none⟩) hs12).trans r2
  have HoI3 := hidP (HoI.out.below hx23)
  have HX23 := hidP hx23
  clear r0 r1 r2 HE hx3 hx23
  have HM := hidP (markAlgebra_any P d _ aI nI cI 1 t w3 HoI3.out (by have := HoI.out.len; omega) (by omega) (by omega))
  have HBI := hidP (fun b o e => (HoI.out.at_base b o e))
  have HBS := hidP (fun b o e => (HoS.out.at_base b o e))
  go_wp2_with fail
  refine HM.out.mono ?_
  rintro e w4 ⟨rfl, hu4⟩
  have hal1 := (⟨t0, t1, t2⟩ : AlgAt w3 w1.heap.size P d aS nS cS).upd hu4 (fun b o e => by have := HBI.out b o e; omega)
  have hal2 := (⟨s0, s1, s2⟩ : AlgAt w3 w2.heap.size P d aI nI cI).upd hu4 (fun b o e => by have := HBI.out b o e; omega)
  have HoI4 := hidP (hu4.own HoI3.out)
  have HoS4 := hidP (((HoS2.out.below HX23.out)).others hu4 (fun b o b' o' e e' => by have := HBI.out b o e; have := HBS.out b' o' e'; omega))
  have HU4 := hidP hu4
  clear s0 s1 s2 t0 t1 t2 hu4 HM
  have HA2 := hidP hal2
  obtain ⟨s0, s1, s2⟩ := hal2
  have HA1 := hidP hal1
  clear hal1
  have hnI := hidP (HoI.out.len)
  have HH := hidP (fun w' (hx : Ext w4 w') => heldAlgebra_any P d aI nI cI 1 w' (HoI4.out.ints.below hx) (by have := hnI.out; omega) (by omega) (by omega))
  have hq : ¬ (1 + (nI : Int) < 0) := by omega
  go_wp2_with fail
  refine (HH.out _ (Ext.refl _)).mono ?_
  rintro e w5 ⟨rfl, hx5⟩
  have HX5 := hidP hx5
  clear s0 s1 s2 hx5
  go_wp2_with fail
  refine (hI.out _).mono ?_
  rintro e w6 ⟨aJ, nJ, cJ, rfl, hoJ, hx6⟩
  have HoJ := hidP hoJ
  have HX6 := hidP hx6
  have HE := hidP (fun w' (hx : Ext w6 w') => eqAlgebra_any P d P d aJ aS nJ nS cJ cS t t w' (HoJ.out.ints.below hx) ((((HoS4.out.below HX5.out).below HX6.out).below hx).ints) (by have := HoJ.out.len; omega) (by have := HoS.out.len; omega))
  simp only [and_self, decide_true] at HE
  obtain ⟨t0, t1, t2⟩ := (HA1.out.below HX5.out).below HX6.out
  have hs6 := World.block_lt_of_cell? w6 _ t0
  clear hoJ hx6
  go_wp2_with fail
  refine (HE.out _ (Ext.alloc _ _)).mono ?_
  rintro e w7 ⟨rfl, hx7⟩
  have HX7 := hidP ((Ext.alloc _ _).trans hx7)
  obtain ⟨s0, s1, s2⟩ := ((HA2.out.below HX5.out).below HX6.out).below HX7.out
  clear t0 t1 t2 hs6 hx7 HE
  go_wp2_with fail
  refine (HH.out _ ((HX5.out.trans HX6.out).trans HX7.out)).mono ?_
  rintro e w8 ⟨rfl, hx8⟩
  have HX8 := hidP hx8
  clear s0 s1 s2 hx8
  go_wp2
  go_ret
  refine ⟨rfl, ?_⟩
  have h3 : Ext w w3 := (HX1.out.trans HX12.out).trans HX23.out
  have h4 : Below w.heap.size w w4 := HU4.out.below h3 h3.size (fun b o e _ => by have := HBI.out b o e; have := HX1.out.size; omega)
  exact Ext.trans h4 (((HX5.out.trans HX6.out).trans HX7.out).trans HX8.out)

/-! ### THE ROW's STEP: WRITTEN OUT: LEAVE IT -/
set_option maxRecDepth 100000 in
theorem lifted (os : Os) (started : os.Started) (H : Type) (enc : TypeId × Value → H) :
    ReturnsInHanded {} Try.checked os 3 .any (Rows.fnExactExampleAlgebraSpec.pre6 enc Try.prog Try.f3 Rows.fnExactExampleAlgebraRow.domain false) (Rows.fnExactExampleAlgebraSpec.post enc Try.prog Try.f3 false true false false) := by
  refine returnsInHanded_of_change (C := Try.checked) own started (by kernel_rfl) Try.func3
    (ChangeSpec.witness6 (enc := enc) (C := Try.checked) false ⟨#[], #[.int .i64 0, .int .i64 0], []⟩ 8 (by kernel_rfl) (by kernel_rfl) (by kernel_rfl) (by kernel_rfl)) ?_
  intro W base args ds gs before hval0 hW hcnd _
  have hval : ∀ (j : Nat) t v, Try.f3.params[j]? = some t → args[j]? = some v → Value.okWide Try.prog W .any base t v := hval0
  have hW' := hW
  obtain ⟨p, q, hA0, hV, rfl, hfz, hnd⟩ := hW
  have hA : DataW.TrodAll enc Try.prog W 0 (fun _ => true) true Try.f3.params.toList args.toList ds p := hA0
  rw [Try.params3] at hA hval
  obtain ⟨v0, vs0, d0, ds0, p0, q0, hargs, rfl, rfl, h0, r0⟩ := trodAll_cons hA
  obtain ⟨v1, vs1, d1, ds1, p1, q1, rfl, rfl, rfl, h1, r1⟩ := trodAll_cons r0
  obtain ⟨rfl, rfl, rfl⟩ := trodAll_nil r1
  obtain rfl : args = #[v0, v1] := by cases args; simp_all
  obtain ⟨rfl, rfl⟩ := trodVars_none hV
  obtain ⟨a0, rfl, rfl, rfl, w0⟩ := open_int Try.underlying3 (hval 0 3 v0 rfl rfl) h0
  obtain ⟨a1, rfl, rfl, rfl, w1⟩ := open_int Try.underlying3 (hval 1 3 v1 rfl rfl) h1
  clear hA0 hval0
  refine (walk a0 a1 W).mono fun e W' ⟨he, bel⟩ => ?_
  subst he
  exact ⟨_, rfl, _, _, _, [], [], [], hW', trodAll_mk1 (shut_bool Try.underlying4 _), (trodAll_cons_mk (shut_int Try.underlying3 w0) (trodAll_cons_mk (shut_int Try.underlying3 w1) trodAll_mk0)), rfl, bel.frame _, fun h => by cases h⟩

theorem over : Rows.fnExactExampleAlgebraRow.holds Try.pinned (OpenSpec.ofChange Rows.fnExactExampleAlgebraSpec) :=
  OpenClaim.holds_of_wide 3 Try.f3 rfl rfl rfl rfl rfl rfl rfl ⟨rfl, rfl, rfl, rfl, rfl⟩ rfl rfl rfl rfl rfl (by kernel_rfl) Try.func3 (by kernel_rfl)
    (of_decide_eq_true (by kernel_rfl)) (by unfold Func.isWrapper; first | (rw [if_pos (by decide +kernel)]; kernel_rfl) | (rw [if_neg (by decide +kernel)]; exact ⟨rfl, rfl⟩))
    (fun os started H enc _ => lifted os started H enc)

/-- ████ THE STATEMENT ████ -/
theorem proved : Rows.FnExactExampleAlgebraSaid :=
  over
#print axioms proved
end Go.Proofs.Ythbdcclglopkiaa.fnExactExampleAlgebra
