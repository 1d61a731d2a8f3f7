/-
  FnExactSquareParts: the program's SquareParts returns what the reference's returns, in memory of its own, and leaves its arguments.
  No condition.
-/
import Derived.Test.YtnfbfdamlnjblaaGreatDoorL22C
import Derived.Test.YtnfbfdamlnjblaaGreatDoorL22F
import Derived.Test.YtnfbfdamlnjblaaGreatDoorL22W
import Derived.ProofKit
import Derived.OpenShut
import Derived.ChangeOld
import Derived.ChangeVars
import Derived.JoinedOf
import Derived.LaidLaws
import Derived.LaidHandle
import Derived.SevenTiedAt
import Derived.Deep.DeepLaidRun
import Derived.Shelf.Vars
import Derived.LaidMore
import Derived.Lay
import Derived.Stop.LaidErr
import Derived.Lib.LaidTab
namespace Go.Proofs.YtnfbfdamlnjblaaGreatDoor.fnExactSquareParts
open Go.ChangeShapes Go.WideShapes Go.ChangeAt Go.RowKit
set_option linter.unusedVariables false

theorem tab_of {w : World} (hL : laidMetH Tryz.prog Rows.fnExactSquarePartsRow.laid w) : Tab w := by
  have h0 : laidMet Tryz.prog Rows.fnExactSquarePartsRow.laid w := hL
  have h1 := laidMet.tail (laidMet.tail (h0))
  have e : (Rows.laid_internal_strconv_uint64pow10 : DataW Unit) = Lib.tabData .u64 Lib.pow10Tab := by kernel_rfl
  have h2 : laidMet Tryz.prog (("internal/strconv.uint64pow10", Lib.tabData .u64 Lib.pow10Tab) :: Rows.fnExactSquarePartsRow.laid.drop 3) w := by rw [← e]; exact h1
  exact Lib.tabIs_of_head (g := 1) (t := 228) (e := 182) (n := 20) (by kernel_rfl) (by kernel_rfl) (by kernel_rfl) (by kernel_rfl) (by kernel_rfl) (by kernel_rfl) h2
theorem maxL_of {W : World} (h : W.ShapedOpen Tryz.prog) : MaxL W :=
  cell_of_shapedOpen_int (P := Tryz.prog) (g := 0) (t := 3) (zero := #[.int .i64 0]) h (of_decide_eq_true (by kernel_rfl)) (by kernel_rfl) rfl (by kernel_rfl) (by kernel_rfl) Tryz.underlying3



theorem own : ownKnob Tryz.prog.godebug = none := by kernel_rfl
theorem laidOut : laidOutB Tryz.prog = true := by kernel_rfl
/-! ### THE ROW's STEP -/
set_option maxRecDepth 100000 in
theorem lifted (os : Os) (started : os.Started) (H : Type) (enc : TypeId × Value → H) :
    ReturnsInHanded {} Tryz.checked os 12 .any (fun w args => (Rows.fnExactSquarePartsSpec.pre enc Tryz.prog Tryz.f12 [] false w args ∧ laidMetH Tryz.prog Rows.fnExactSquarePartsRow.laid w) ∧ sizedMet enc Tryz.prog Tryz.f12 (OpenSpec.ofChange Rows.fnExactSquarePartsSpec) false w args)
      (Rows.fnExactSquarePartsSpec.post enc Tryz.prog Tryz.f12 false true false false) := by
  refine returnsInHanded_of_calls (C := Tryz.checked) own started (by kernel_rfl)
    (ChangeSpec.witness_shaped (enc := enc) (C := Tryz.checked) (os := os) (X := fun w _ => laidMetH Tryz.prog Rows.fnExactSquarePartsRow.laid w) false (World.laidAll Tryz.prog os Rows.fnExactSquarePartsRow.laid) #[.agg #[.int .i64 0, .slice none 0 0], .slice none 0 0] 8 (World.laidAll_os _ _ _)
      (World.shaped_of_ZipB (by kernel_rfl) (by kernel_rfl)) (by kernel_rfl) (by kernel_rfl) (by kernel_rfl)
      (by rw [MakeChecks.laidMetH_plain _ _ _ (by kernel_rfl)]; exact laidMet_laidAll _ (by kernel_rfl) (by kernel_rfl))) ?_
  intro w0 tape i _ hsh0 _ hok hpre _
  obtain ⟨_, _, _, fn', hfn', _, _, _, _, hval1⟩ := hok
  obtain rfl : fn' = Tryz.f12 := Option.some.inj (hfn'.symm.trans Tryz.func12)
  obtain ⟨⟨⟨ds, gs, before, hw, _⟩, hx⟩, _⟩ := hpre
  have hW0 := DataW.Whole.of_heap (w' := w0.forCall tape i) (by rfl) hw
  have hmax0 : MaxL (w0.forCall tape i) := maxL_of hsh0
  have htab0 : Tab (w0.forCall tape i) := tab_of (laidMetH.of_heap (w := (w0.forCall tape i).memory) (w' := w0.forCall tape i) rfl hx)
  suffices hS : Calls Tryz.prog 12 i.args (w0.forCall tape i) fun e W' => ∃ v, e = .returned v ∧ Rows.fnExactSquarePartsSpec.post enc Tryz.prog Tryz.f12 false true false false (w0.forCall tape i) i.args v W' from
    hS.mono fun e W' ⟨v, he, hp⟩ => by subst he; exact ChangeSpec.post_blind hp
  clear hw hx hfn' hsh0
  obtain ⟨W, eW⟩ : ∃ W, W = w0.forCall tape i := ⟨_, rfl⟩
  obtain ⟨args, eA⟩ : ∃ args, args = i.args := ⟨_, rfl⟩
  obtain ⟨base, eB⟩ : ∃ base, base = w0.heap.size := ⟨_, rfl⟩
  rw [← eW, ← eA] at hW0 hval1 ⊢
  rw [← eB] at hval1
  rw [← eW] at hmax0 htab0
  clear eW eA eB
  have hW := hW0
  have hval0 := hval1
  have hval : ∀ (j : Nat) t v, Tryz.f12.params[j]? = some t → args[j]? = some v → Value.okWide Tryz.prog W .any base t v := hval0
  have hW' := hW
  obtain ⟨p, q, hA0, hV, rfl, hfz, hnd⟩ := hW
  have hA : DataW.TrodAll enc Tryz.prog W 0 (fun _ => true) true Tryz.f12.params.toList args.toList ds p := hA0
  rw [Tryz.params12] at hA hval
  obtain ⟨v0, vs0, d0, ds0, p0, q0, hargs, rfl, rfl, h0, r0⟩ := trodAll_cons hA
  obtain ⟨v1, vs1, d1, ds1, p1, q1, rfl, rfl, rfl, h1, r1⟩ := trodAll_cons r0
  obtain ⟨rfl, rfl, rfl⟩ := trodAll_nil r1
  obtain rfl : args = #[v0, v1] := by cases args; simp_all
  obtain ⟨rfl, rfl⟩ := trodVars_none hV
  have lt0 : ∀ x ∈ p0, x.block < W.heap.size := fun x hx => hW'.lt x (by simp [hx])
  obtain ⟨b0, e0, n0, k0, xs0, rfl, i0, g0, s0⟩ := car_in Tryz.underlying49 (by kernel_rfl) (by kernel_rfl) Tryz.underlying3 Tryz.underlying22 Tryz.underlying3 (by kernel_rfl) (hval 0 49 v0 rfl rfl) h0
  have lt1 : ∀ x ∈ p1, x.block < W.heap.size := fun x hx => hW'.lt x (by simp [hx])
  obtain ⟨z1, l1, m1, rfl⟩ := okWide_slice Tryz.underlying50 (hval 1 50 v1 rfl rfl)
  obtain ⟨fuel1, hf1⟩ := id h1
  obtain ⟨e1, n1, k1, xs1, q1, i1, g1, s1, t1⟩ := terms_in Tryz.underlying50 Tryz.underlying102 (by kernel_rfl) (by kernel_rfl) Tryz.underlying22 Tryz.underlying3 Tryz.underlying3 (by kernel_rfl) hf1
  simp [Value.cells] at q1
  obtain ⟨rfl, rfl, rfl⟩ := q1
  clear hA0 hval0
  refine (walk b0 e0 n0 k0 xs0 z1 l1 m1 xs1 W i0 i1 s0 s1 hmax0 htab0).mono fun e W' ⟨he, bel⟩ => ?_
  subst he
  exact ⟨_, rfl, _, _, _, [], _, [], hW', trodAll_mk1 (shut_bool Tryz.underlying4 _), (trodAll_cons_mk (Below.trod laidOut (by kernel_rfl) (of_decide_eq_true (by kernel_rfl)) h0 bel lt0) (trodAll_cons_mk (Below.trod laidOut (by kernel_rfl) (of_decide_eq_true (by kernel_rfl)) h1 bel lt1) trodAll_mk0)), rfl, bel.frame _, fun h => by cases h⟩

theorem over : Rows.FnExactSquarePartsSaid :=
  OpenClaim.holds_of_wide 12 Tryz.f12 rfl rfl rfl rfl rfl rfl rfl ⟨rfl, rfl, rfl, rfl, rfl⟩ rfl rfl rfl rfl rfl (by kernel_rfl) Tryz.func12 closed
    (of_decide_eq_true (by kernel_rfl)) (by unfold Func.isWrapper; first | (rw [if_pos (by decide +kernel)]; kernel_rfl) | (rw [if_neg (by decide +kernel)]; exact ⟨rfl, rfl⟩))
    (fun os started H enc _ => lifted os started H enc)

/-- THE STATEMENT: the tied card -/
theorem proved : Rows.FnExactSquarePartsCardSaid :=
  Claim7.holds_tied_plain_at .later [] [.data, .data, .data, .data, .pinned] true _ false
    over (fun _ h => by cases h) (by kernel_rfl) (fun _ h => by cases h) fnExactSquareParts_row_tie rfl ⟨rfl, rfl⟩ (by kernel_rfl) rfl
    (fun f fn hf hfn => by
      obtain rfl : f = 12 := Option.some.inj ((show Tryz.prog.funcNamed Rows.fnExactSquarePartsRow.func = some 12 from fnum).symm.trans hf) |>.symm
      obtain rfl : fn = Tryz.f12 := (Option.some.inj (Tryz.func12.symm.trans hfn)).symm
      refine ⟨looks0, fun j t ht => ?_⟩
      have hall : (Tryz.f12.params.toList.all fun t => !Tryz.prog.wantsStandIn t) = true := wants
      have hm : t ∈ Tryz.f12.params.toList := by rw [Array.mem_toList_iff]; exact Array.mem_of_getElem? ht
      have := List.all_eq_true.1 hall t hm
      exact (show Tryz.prog.wantsStandIn t = false by simpa using this))
    goes
#print axioms proved

end Go.Proofs.YtnfbfdamlnjblaaGreatDoor.fnExactSquareParts
