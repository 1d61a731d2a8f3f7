/-
  FnExactTermsText: for all lists of terms the program's TermsText returns what the reference's returns, and leaves what was there.
  No condition beyond the row's: the library's table of powers lies as its initialiser lays it.
-/
import Derived.Test.YthbdcclglopkiaaDoorStr4
import Derived.Test.YthbdcclglopkiaaDoorLTerm3
import Derived.Test.YthbdcclglopkiaaDoorOpn2
import Derived.Test.YthbdcclglopkiaaDoorTie
import Derived.Test.YthbdcclglopkiaaDoorCards
import Derived.ChangeVars
import Derived.JoinedOf
import Derived.LaidLaws
import Derived.LaidHandle
import Derived.SevenTiedAt
import Derived.Deep.DeepLaidRun
import Derived.Lib.LaidTab
import Derived.Stop.LaidErr
namespace Go.Proofs.YthbdcclglopkiaaDoor.fnExactTermsText
open Go.ChangeShapes Go.WideShapes Go.ChangeAt Go.RowKit
set_option linter.unusedVariables false

/-- The Go text returns true, and leaves what was there. -/
theorem walk_at (a : Option Addr) (n c : Nat) (us : List (List Int × Int)) (w : World) (h : TermsAt w a n us) (hr : RangeT us) (hn : n ≤ 9223372036854775807) (ht : Tab w) :
    Calls Tryd.prog 3 #[.slice a n c] w fun e w' => e = .returned (.bool true) ∧ Ext w w' := by
  have HU := hidP h
  have HT := hidP ht
  have HR := hidP hr
  have HSZ := hidP (szTermS_any a n c us 1048576 w h hn (by omega) (by omega))
  have L := hidP h.len
  clear h ht hr
  go_enter Tryd.func3, Tryd.ntmps3
  go_wp2_with fail
  refine HSZ.out.mono ?_
  rintro e w1 ⟨v, hv, rfl, hx1⟩
  have HX1 := hidP hx1
  clear hx1 HSZ
  rcases hv with rfl | ⟨hv0, hv1, hv2, hv3⟩
  · go_wp2
    go_ret
    exact ⟨rfl, HX1.out⟩
  · have hng : ¬ (v < 0) := by omega
    have HS : Hid (SmallT us) := by
      intro i hi
      obtain ⟨r1, r2, r3⟩ := HR.out i hi
      have := hv3 i (by rw [← L.out]; exact hi)
      exact ⟨r1, r2, r3, by omega⟩
    have HM := hidP (fun i (hi : i < n) => (by have := hv3 i hi; omega : ((us.getD i ([], 0)).1.length : Int) ≤ 1048576))
    clear hv3
    have HTE := hidP (fun w' (hx : Ext w w') => toTermS_any a n c us w' (HU.out.below hx) (by omega) HM.out)
    go_wp2_with fail
    refine (HTE.out _ HX1.out).mono ?_
    rintro e w2 ⟨a2, rfl, ht2, hx2⟩
    have HS2 := hidP (sTermsText_any a2 n n us w2 ht2 HS.out (by omega))
    have HX2 := hidP (HX1.out.trans hx2)
    clear ht2 hx2
    go_wp2_with fail
    refine HS2.out.mono ?_
    rintro e w3 ⟨rfl, hx3⟩
    have HX3 := hidP (HX2.out.trans hx3)
    clear hx3
    go_wp2_with fail
    refine (HTE.out _ HX3.out).mono ?_
    rintro e w4 ⟨a4, rfl, ht4, hx4⟩
    have HX4 := hidP (HX3.out.trans hx4)
    have HT4 := hidP ht4
    have HI4 := hidP (termsText_any a4 n n us w4 ht4 HS.out (by omega) (HT.out.below HX4.out))
    clear ht4 hx4
    go_wp2_with fail
    refine HI4.out.mono ?_
    rintro e w5 ⟨rfl, hx5⟩
    have HX5 := hidP (HX4.out.trans hx5)
    have HT5 := hidP (HT4.out.below hx5)
    clear hx5
    go_wp2_with fail
    refine (HTE.out _ HX5.out).mono ?_
    rintro e w6 ⟨a6, rfl, ht6, hx6⟩
    have HX6 := hidP (HX5.out.trans hx6)
    have HQ := hidP (eqTermS_any a4 a6 n n n n us us w6 (HT5.out.below hx6) ht6 (by omega) (by omega))
    simp only [beq_self_eq_true] at HQ
    clear ht6 hx6
    go_wp2_with fail
    refine HQ.out.mono ?_
    rintro e w7 ⟨rfl, hx7⟩
    have HX7 := hidP (HX6.out.trans hx7)
    clear hx7
    go_wp2
    go_ret
    exact ⟨rfl, HX7.out⟩
theorem tab_of {w : World} (hL : laidMetH Tryd.prog Rows.fnExactTermsTextRow.laid w) : Tab w := by
  have h0 : laidMet Tryd.prog Rows.fnExactTermsTextRow.laid w := hL
  have h1 := laidMet.tail (laidMet.tail h0)
  have e : (Rows.laid_internal_strconv_uint64pow10 : DataW Unit) = Lib.tabData .u64 Lib.pow10Tab := by kernel_rfl
  have h2 : laidMet Tryd.prog [("internal/strconv.uint64pow10", Lib.tabData .u64 Lib.pow10Tab)] w := by rw [← e]; exact h1
  exact Lib.tabIs_of_head (g := 1) (t := 89) (e := 83) (n := 20) (by kernel_rfl) (by kernel_rfl) (by kernel_rfl) (by kernel_rfl) (by kernel_rfl) (by kernel_rfl) h2
theorem walk (a : Option Addr) (n c : Nat) (us : List (List Int × Int)) (w : World) (h : TermsAt w a n us) (hr : RangeT us) (hn : n ≤ 9223372036854775807) (hL : laidMetH Tryd.prog Rows.fnExactTermsTextRow.laid w) :
    Calls Tryd.prog 3 #[.slice a n c] w fun e w' => e = .returned (.bool true) ∧ Ext w w' := walk_at a n c us w h hr hn (tab_of hL)

theorem own : ownKnob Tryd.prog.godebug = none := by kernel_rfl
theorem laidOut : laidOutB Tryd.prog = true := by kernel_rfl
/-! ### One start that fits: the tables as their initialisers lay them -/
def litVals : DataW Unit → List Value
  | .agg l => l.map fun x => match x with | .lit (.int k n) => Value.int k n | _ => undef
  | _ => []
noncomputable def laidWorld (os : Os) : World :=
  let w0 := World.holding Tryd.prog os ⟨#[], #[], []⟩
  let put (h : Array Obj) (g : Nat) (cs : Array Value) : Array Obj := h.modify g fun
    | .cells _ t frozen => .cells cs t frozen
    | o => o
  { w0 with heap := put (put (put (w0.heap) 2 (litVals Rows.laid_math_bits_deBruijn32tab).toArray) 3 (litVals Rows.laid_math_bits_deBruijn64tab).toArray) 1 (litVals Rows.laid_internal_strconv_uint64pow10).toArray }
theorem laid_met (os : Os) (args : Array Value) : laidMetH Tryd.prog Rows.fnExactTermsTextRow.laid ((laidWorld os).forCall (fun _ _ => 0) ⟨#[], args, []⟩).memory :=
  laidMet_of_run3 10 (by kernel_rfl) (by kernel_rfl) (by kernel_rfl)
/-! ### THE ROW's STEP -/
set_option maxRecDepth 100000 in
theorem lifted (os : Os) (started : os.Started) (H : Type) (enc : TypeId × Value → H) :
    ReturnsInHanded {} Tryd.checked os 3 .any (fun w args => (Rows.fnExactTermsTextSpec.pre enc Tryd.prog Tryd.f3 [] false w args ∧ laidMetH Tryd.prog Rows.fnExactTermsTextRow.laid w) ∧ sizedMet enc Tryd.prog Tryd.f3 (OpenSpec.ofChange Rows.fnExactTermsTextSpec) false w args)
      (Rows.fnExactTermsTextSpec.post enc Tryd.prog Tryd.f3 false true false false) := by
  refine returnsInHanded_of_change_and (C := Tryd.checked) (X := fun w _ => laidMetH Tryd.prog Rows.fnExactTermsTextRow.laid w) (fun _ _ _ hh h => h.of_heap hh) own started (by kernel_rfl) Tryd.func3
    (ChangeSpec.witness_at (enc := enc) (C := Tryd.checked) (os := os) (X := fun w _ => laidMetH Tryd.prog Rows.fnExactTermsTextRow.laid w) false (laidWorld os) #[.slice none 0 0] 8 rfl (by kernel_rfl) (by kernel_rfl) (by kernel_rfl) (by kernel_rfl) (by kernel_rfl) (laid_met os _)) ?_
  intro W base args ds gs before hval0 hW _ _ hL _
  have hval : ∀ (j : Nat) t v, Tryd.f3.params[j]? = some t → args[j]? = some v → Value.okWide Tryd.prog W .any base t v := hval0
  have hW' := hW
  obtain ⟨p, q, hA0, hV, rfl, hfz, hnd⟩ := hW
  have hA : DataW.TrodAll enc Tryd.prog W 0 (fun _ => true) true Tryd.f3.params.toList args.toList ds p := hA0
  rw [Tryd.params3] at hA hval
  obtain ⟨v0, vs0, d0, ds0, p0, q0, hargs, rfl, rfl, h0, r0⟩ := trodAll_cons hA
  obtain ⟨rfl, rfl, rfl⟩ := trodAll_nil r0
  obtain rfl : args = #[v0] := by cases args; simp_all
  obtain ⟨rfl, rfl⟩ := trodVars_none hV
  have lt0 : ∀ x ∈ p0, x.block < W.heap.size := fun x hx => hW'.lt x (by simp [hx])
  obtain ⟨z0, l0, m0, rfl⟩ := okWide_slice Tryd.underlying22 (hval 0 22 v0 rfl rfl)
  obtain ⟨fuel0, hf0⟩ := id h0
  obtain ⟨e0, n0, k0, xs0, q0, i0, g0, s0, t0, u0⟩ := terms_in2 Tryd.underlying22 Tryd.underlying45 (by kernel_rfl) (by kernel_rfl) Tryd.underlying31 Tryd.underlying3 Tryd.underlying3 (by kernel_rfl) hf0
  simp [Value.cells] at q0
  obtain ⟨rfl, rfl, rfl⟩ := q0
  clear hA0 hval0
  refine (walk z0 l0 m0 xs0 W i0 u0 s0 hL).mono fun e W' ⟨he, bel⟩ => ?_
  subst he
  exact ⟨_, rfl, _, _, _, [], _, [], hW', trodAll_mk1 (shut_bool Tryd.underlying4 _), (trodAll_cons_mk (Below.trod laidOut (by kernel_rfl) (of_decide_eq_true (by kernel_rfl)) h0 bel lt0) trodAll_mk0), rfl, bel.frame _, fun h => by cases h⟩

theorem over : Rows.FnExactTermsTextSaid :=
  OpenClaim.holds_of_wide 3 Tryd.f3 rfl rfl rfl rfl rfl rfl rfl ⟨rfl, rfl, rfl, rfl, rfl⟩ rfl rfl rfl rfl rfl (by kernel_rfl) Tryd.func3 (by kernel_rfl)
    (of_decide_eq_true (by kernel_rfl)) (by unfold Func.isWrapper; first | (rw [if_pos (by decide +kernel)]; kernel_rfl) | (rw [if_neg (by decide +kernel)]; exact ⟨rfl, rfl⟩))
    (fun os started H enc _ => lifted os started H enc)

/-- THE STATEMENT: the tied card -/
theorem proved : Rows.FnExactTermsTextCardSaid :=
  Claim7.holds_tied_plain_at .later [] [.data, .data, .data] true _ false
    over (fun _ h => by cases h) (by kernel_rfl) (fun _ h => by cases h) fnExactTermsText_row_tie rfl ⟨rfl, rfl⟩ (by kernel_rfl) rfl
    (fun f fn hf hfn => by
      obtain rfl : f = 3 := Option.some.inj ((show Tryd.prog.funcNamed Rows.fnExactTermsTextRow.func = some 3 by kernel_rfl).symm.trans hf) |>.symm
      obtain rfl : fn = Tryd.f3 := (Option.some.inj (Tryd.func3.symm.trans hfn)).symm
      refine ⟨by kernel_rfl, fun j t ht => ?_⟩
      have hall : (Tryd.f3.params.toList.all fun t => !Tryd.prog.wantsStandIn t) = true := by kernel_rfl
      have hm : t ∈ Tryd.f3.params.toList := by rw [Array.mem_toList_iff]; exact Array.mem_of_getElem? ht
      have := List.all_eq_true.1 hall t hm
      exact (show Tryd.prog.wantsStandIn t = false by simpa using this))
    (by kernel_rfl)
#print axioms proved

end Go.Proofs.YthbdcclglopkiaaDoor.fnExactTermsText
