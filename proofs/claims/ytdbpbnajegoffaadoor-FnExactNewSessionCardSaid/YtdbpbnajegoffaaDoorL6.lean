/-
  FnExactNewSession: the program's NewSession returns what the reference's returns, in memory of its own.
  No condition.
-/
import Derived.Test.YtdbpbnajegoffaaDoorCarF
import Derived.Test.YtdbpbnajegoffaaDoorCarO
import Derived.Test.YtdbpbnajegoffaaDoorSes
import Derived.Test.YtdbpbnajegoffaaDoorTie
import Derived.Test.YtdbpbnajegoffaaDoorCards
import Derived.ProofKit
import Derived.OpenShut
import Derived.ChangeOld
import Derived.ChangeVars
import Derived.JoinedOf
import Derived.LaidLaws
import Derived.LaidHandle
import Derived.SevenTiedAt
import Derived.Deep.DeepLaidRun
import Derived.Shelf.Vars
import Derived.LaidMore
import Derived.Lay
namespace Go.Proofs.YtdbpbnajegoffaaDoor.fnExactNewSession
open Go.ChangeShapes Go.WideShapes Go.ChangeAt Go.RowKit
set_option linter.unusedVariables false

theorem maxL_of {W : World} (h : W.ShapedOpen Tryd.prog) : MaxL W :=
  cell_of_shapedOpen_int (P := Tryd.prog) (g := 0) (t := 3) (zero := #[.int .i64 0]) h (of_decide_eq_true (by kernel_rfl)) (by kernel_rfl) rfl (by kernel_rfl) (by kernel_rfl) Tryd.underlying3

/-- what NewSession gives -/
def SesSays (f : FuncId) (w : World) : Prop :=
  Calls Tryd.prog f #[] w fun e w' => ∃ a a', e = .returned (sesV 101 0 a 0 0 1 a' 1 1) ∧ OwnI w' w.heap.size a 0 0 [] ∧ OwnI w' w.heap.size a' 1 1 [2] ∧ Apart a a' ∧ Ext w w'

theorem apart_new {w : World} {B B' : Nat} {a a' : Option Addr} {n c n' c' : Nat} {xs ys : List Int} (h : OwnI w B a n c xs) (hB : w.heap.size ≤ B') {w' : World} (h' : OwnI w' B' a' n' c' ys) : Apart a a' := by
  intro b o b' o' e e' hb
  have := (h.at_base b o e).2
  have := (h'.at_base b' o' e').1
  omega

theorem sAb0 (w : World) : Calls Tryd.prog 26 #[.int .i64 101, .int .i64 0] w fun e w' => ∃ a, e = .returned (algV 101 0 a 0 0) ∧ OwnI w' w.heap.size a 0 0 [] ∧ Ext w w' :=
  sAbelian_ok 101 0 w (by decide +kernel) (by decide) (by decide)
theorem ab0 (w : World) : Calls Tryd.prog 29 #[.int .i64 101, .int .i64 0] w fun e w' => ∃ a, e = .returned (algV 101 0 a 0 0) ∧ OwnI w' w.heap.size a 0 0 [] ∧ Ext w w' :=
  abelian_ok 101 0 w (by decide +kernel) (by decide) (by decide)
theorem sA1 (w : World) : Calls Tryd.prog 27 #[.string ⟨#[65, 49]⟩] w fun e w' => ∃ a, e = .returned (carV 1 a 1 1) ∧ OwnI w' w.heap.size a 1 1 [2] ∧ Ext w w' :=
  l5One_any 0 (by decide) ⟨#[65, 49]⟩ rfl w
theorem a1 (w : World) (hm : MaxL w) : Calls Tryd.prog 28 #[.string ⟨#[65, 49]⟩] w fun e w' => ∃ a, e = .returned (.tuple #[carV 1 a 1 1, .bool true]) ∧ OwnI w' w.heap.size a 1 1 [2] ∧ Ext w w' :=
  cartanOf_any [0] (by decide +kernel) w hm

set_option maxHeartbeats 1000000 in
theorem sNewSession_any (w : World) : SesSays 6 w := by
  unfold SesSays
  have HA := hidP (fun w' => sAb0 w')
  have HC := hidP (fun w' => sA1 w')
  go_enter Tryd.func6, Tryd.ntmps6
  go_wp2_with fail
  refine (HA.out _).mono ?_
  rintro e w1 ⟨a, rfl, ho, hx⟩
  have HO := hidP ho
  have HX := hidP hx
  clear ho hx
  go_wp2_with fail
  refine (HC.out _).mono ?_
  rintro e w2 ⟨a', rfl, ho, hx⟩
  obtain ⟨⟨s0, s1, s2, s3, s4⟩, hf, hs, hX⟩ := resSes (HX.out.trans hx)
  have f0 := hf 0
  have f1 := hf 1
  have f2 := hf 2
  have f3 := hf 3
  have f4 := hf 4
  have HAp := hidP (apart_new HO.out (Nat.le_refl _) ho)
  have HB1 := hidP (fun b o e => HO.out.at_base b o e)
  have HB2 := hidP (fun b o e => ho.at_base b o e)
  have hsz : w.heap.size + 1 ≤ w1.heap.size := by have := HX.out.size; simpa using this
  have HO1 := hidP ((HO.out.below hx).base (B' := w.heap.size) (by simp))
  have HO2 := hidP (ho.base (B' := w.heap.size) (by omega))
  have HXX := hidP hX
  clear ho hx hf hX
  go_wp2
  refine bodyPost_ret (v := sesV 101 0 a 0 0 1 a' 1 1) (by simp [results, Tryd.results6, go_sem, s0, s1, s2, s3, s4]) rfl ⟨a, a', rfl, ?_, ?_, HAp.out, ?_⟩
  · exact HO1.out.set5 w.heap.size _ _ _ _ _ (fun g o e => by have := (HB1.out g o e).1; simp at this; omega)
  · exact HO2.out.set5 w.heap.size _ _ _ _ _ (fun g o e => by have := (HB2.out g o e).1; omega)
  · exact HXX.out.set5 _ (Nat.le_refl _) _ _ _ _ _

set_option maxHeartbeats 1000000 in
theorem newSession_any (w : World) (hm : MaxL w) : SesSays 7 w := by
  unfold SesSays
  have HA := hidP (fun w' => ab0 w')
  have HC := hidP (fun w' (h : MaxL w') => a1 w' h)
  have HM0 := hidP hm
  clear hm
  go_enter Tryd.func7, Tryd.ntmps7
  go_wp2_with fail
  refine (HC.out _ (HM0.out.below (Ext.alloc _ _))).mono ?_
  rintro e w1 ⟨a', rfl, ho, hx⟩
  have hsz : w.heap.size + 1 ≤ w1.heap.size := by have := hx.size; simpa using this
  have hx1 := hx.trans (Ext.alloc w1 (.cells #[.int .i64 1, .slice a' 1 1] 26))
  have HB2 := hidP (fun b o e => ho.at_base b o e)
  have HO := hidP (ho.below (Ext.alloc w1 (.cells #[.int .i64 1, .slice a' 1 1] 26)))
  have HCA := hidP (fun w' (hx : Ext (w1.alloc (.cells #[.int .i64 1, .slice a' 1 1] 26)) w') => (CarAt.new w1 _ rfl 1 a' 1 1 26).below hx)
  obtain ⟨w2, hw2⟩ : ∃ w2, w2 = w1.alloc (.cells #[.int .i64 1, .slice a' 1 1] 26) := ⟨_, rfl⟩
  rw [← hw2] at HO HCA hx1
  have HX := hidP hx1
  clear ho hx hx1
  go_wp2
  rw [← hw2]
  clear hw2
  have hE : Ext w2 w2.drew := Ext.drew w2
  (refine walkR_start (fun w' => Ext w2 w') 2 (by kernel_rfl) ?_; simp only [numbered, List.take_succ_cons, List.take_zero, Nat.zero_add, Nat.reduceAdd, List.length_cons, List.length_nil])
  (refine walkR_later ?_; simp only [List.cons_append, List.nil_append])
  (repeat (first | (refine walkR_still (v := ?_) rfl (by decide +kernel) rfl (fun _ _ _ h => h) hE ?_ ?_; rotate_left; (focus (intro w' hw'; obtain ⟨f0, f1⟩ := HCA.out w' hw'; go_simp; all_goals (with_reducible rfl))); simp only [Act.put, List.setIfInBounds_toArray, List.set_cons_zero, List.set_cons_succ]) | (refine walkR_skip rfl (by decide +kernel) rfl (fun _ _ _ h => h) hE ?_; simp only [Act.put, List.setIfInBounds_toArray, List.set_cons_zero, List.set_cons_succ])))
  (refine walkR_only (fun w' => Ext w2 w') rfl (by decide +kernel) rfl (fun _ h => h) ?_; intro K hK; go_simp; refine (HA.out _).mono ?_; rintro e w3 ⟨a, rfl, ho, hx⟩; refine hK _ _ (hE.trans hx) ?_; clear hK K; (try simp only [Act.put, List.setIfInBounds_toArray, List.set_cons_zero, List.set_cons_succ]))
  have hE2 := hE.trans hx
  have HO3 := hidP ho
  have HAp := hidP (apart_new (HO.out.below hE) (Nat.le_refl _) ho)
  have HB1 := hidP (fun b o e => ho.at_base b o e)
  clear ho hx
  (repeat (first | (refine walkR_still (v := ?_) rfl (by decide +kernel) rfl (fun _ _ _ h => h) hE2 ?_ ?_; rotate_left; (focus (intro w' hw'; obtain ⟨f0, f1⟩ := HCA.out w' hw'; go_simp; all_goals (with_reducible rfl))); simp only [Act.put, List.setIfInBounds_toArray, List.set_cons_zero, List.set_cons_succ]) | (refine walkR_skip rfl (by decide +kernel) rfl (fun _ _ _ h => h) hE2 ?_; simp only [Act.put, List.setIfInBounds_toArray, List.set_cons_zero, List.set_cons_succ])))
  (refine walkR_tail (by rfl) (by kernel_rfl) ?_; simp only [List.drop_succ_cons, List.drop_zero])
  obtain ⟨⟨s0, s1, s2, s3, s4⟩, hf, hs, hX⟩ := resSes (HX.out.trans hE2)
  have g0 := hf 0
  have g1 := hf 1
  have g2 := hf 2
  have g3 := hf 3
  have g4 := hf 4
  have hs2 := HX.out.size
  simp at hs2
  have HO1 := hidP (HO3.out.base (B' := w.heap.size) (by simp; omega))
  have HO2 := hidP ((HO.out.below hE2).base (B' := w.heap.size) (by simp))
  have HXX := hidP hX
  clear hX hf hE hE2
  go_wp2
  refine bodyPost_ret (v := sesV 101 0 a 0 0 1 a' 1 1) (by simp [results, Tryd.results7, go_sem, s0, s1, s2, s3, s4]) rfl ⟨a, a', rfl, ?_, ?_, HAp.out.symm, ?_⟩
  · exact HO1.out.set5 w.heap.size _ _ _ _ _ (fun g o e => by have := (HB1.out g o e).1; simp at this; omega)
  · exact HO2.out.set5 w.heap.size _ _ _ _ _ (fun g o e => by have := (HB2.out g o e).1; simp at this; omega)
  · exact HXX.out.set5 _ (Nat.le_refl _) _ _ _ _ _

set_option maxHeartbeats 2000000 in
/-- The Go text returns true, and leaves what was there. -/
theorem walk (w : World) (hm : MaxL w) :
    Calls Tryd.prog 3 #[] w fun e w' => e = .returned (.bool true) ∧ Ext w w' := by
  have hS := hidP (fun w' => sNewSession_any w')
  have hI := hidP (fun w' (h : MaxL w') => newSession_any w' h)
  unfold SesSays at hS hI
  have HM0 := hidP hm
  clear hm
  go_enter Tryd.func3, Tryd.ntmps3
  go_wp2_with fail
  refine (hS.out _).mono ?_
  rintro e w1 ⟨aS, cS, rfl, hoS, hcS, hapS, hx1⟩
  have HoS := hidP hoS
  have HcS := hidP hcS
  have HX1 := hidP hx1
  clear hoS hcS hapS hx1
  have HS := hidP (SesAt.new w1 _ rfl 101 0 aS 0 0 1 cS 1 1 28)
  go_wp2_with fail
  refine (hI.out _ ((HM0.out.below HX1.out).below (Ext.alloc _ _))).mono ?_
  rintro e w2 ⟨aI, cI, rfl, hoI, hcI, hapI, hx2⟩
  have HX12 := hidP ((Ext.alloc _ _).trans hx2)
  have HoI := hidP (hoI.base (B' := w1.heap.size + 1) (by simp))
  have HcI := hidP (hcI.base (B' := w1.heap.size + 1) (by simp))
  have HAI := hidP hapI
  have HS2 := hidP (HS.out.below hx2)
  obtain ⟨r0, r1, r2, r3, r4⟩ := HS.out.below hx2
  have hs12 := World.block_lt_of_cell? w2 _ r0
  clear hoI hcI hapI hx2
  have HG := hidP (SesAt.new w2 _ rfl 101 0 aI 0 0 1 cI 1 1 28)
  have HE := hidP (fun w' (hx : Ext w2 w') => eqSession_any 101 0 101 0 aI aS 0 0 0 0 [] [] 1 1 cI cS 1 1 1 1 [2] [2] w' (HoI.out.ints.below hx) ((HoS.out.below HX12.out).ints.below hx) (by decide) (by decide) (HcI.out.ints.below hx) ((HcS.out.below HX12.out).ints.below hx) (by decide) (by decide))
  simp only [and_self, decide_true, Bool.and_self] at HE
  go_wp2_with fail
  refine (HE.out _ (Ext.alloc _ _)).mono ?_
  rintro e w3 ⟨rfl, hx3⟩
  have HX23 := hidP ((Ext.alloc _ _).trans hx3)
  have HG3 := hidP (HG.out.below hx3)
  have HS3 := hidP (HS2.out.below HX23.out)
  have HoI3 := hidP (HoI.out.below HX23.out)
  have HcI3 := hidP (HcI.out.below HX23.out)
  clear r0 r1 r2 r3 r4 HE hx3
  obtain ⟨s0, s1, s2, s3, s4⟩ := HG3.out
  have HM := hidP (markSession_any 101 0 1 _ _ aI cI 0 0 1 1 1 [] [2] w3 HoI3.out HcI3.out HAI.out (by decide) (by decide) (by decide) (by decide))
  go_wp2_with fail
  refine HM.out.mono ?_
  rintro e w4 ⟨rfl, w31, hu3, hu4⟩
  have HB1 := hidP (fun b o e => (HoI.out.at_base b o e))
  have HB2 := hidP (fun b o e => (HcI.out.at_base b o e))
  have HB3 := hidP (fun b o e => (HoS.out.at_base b o e))
  have HB4 := hidP (fun b o e => (HcS.out.at_base b o e))
  have HG4 := hidP ((HG3.out.upd hu3 (fun b o e => by have := HB1.out b o e; omega)).upd hu4 (fun b o e => by have := HB2.out b o e; omega))
  have HS4 := hidP ((HS3.out.upd hu3 (fun b o e => by have := HB1.out b o e; omega)).upd hu4 (fun b o e => by have := HB2.out b o e; omega))
  have HoI4 := hidP ((hu3.own HoI3.out).others hu4 HAI.out.symm)
  have HcI4 := hidP (hu4.own (HcI3.out.others hu3 HAI.out))
  have HoS4 := hidP ((((HoS.out.below HX12.out).below HX23.out).others hu3 (fun b o b' o' e e' => by have := HB1.out b o e; have := HB3.out b' o' e'; omega)).others hu4 (fun b o b' o' e e' => by have := HB2.out b o e; have := HB3.out b' o' e'; omega))
  have HcS4 := hidP ((((HcS.out.below HX12.out).below HX23.out).others hu3 (fun b o b' o' e e' => by have := HB1.out b o e; have := HB4.out b' o' e'; omega)).others hu4 (fun b o b' o' e e' => by have := HB2.out b o e; have := HB4.out b' o' e'; omega))
  have HX4 : Hid (Ext w w4) := by
    have h3 : Ext w w3 := (HX1.out.trans HX12.out).trans HX23.out
    have h31 : Below w.heap.size w w31 := hu3.below h3 h3.size (fun b o e _ => by have := HB1.out b o e; have := HX1.out.size; omega)
    exact hidP (hu4.below h31 h31.size (fun b o e _ => by have := HB2.out b o e; have := HX1.out.size; omega))
  clear s0 s1 s2 s3 s4 hu3 hu4 HM
  obtain ⟨s0, s1, s2, s3, s4⟩ := HG4.out
  have HH := hidP (fun w' (hx : Ext w4 w') => heldSession_any 101 0 1 aI cI 0 0 1 1 1 w' (HoI4.out.ints.below hx) (HcI4.out.ints.below hx) (by decide) (by decide) (by decide) (by decide))
  go_wp2_with fail
  refine (HH.out _ (Ext.refl _)).mono ?_
  rintro e w5 ⟨rfl, hx5⟩
  have HX5 := hidP hx5
  clear s0 s1 s2 s3 s4 hx5
  go_wp2_with fail
  refine (hI.out _ (HM0.out.below (HX4.out.trans HX5.out))).mono ?_
  rintro e w6 ⟨aJ, cJ, rfl, hoJ, hcJ, hapJ, hx6⟩
  have HoJ := hidP hoJ
  have HcJ := hidP hcJ
  have HX46 := hidP (HX5.out.trans hx6)
  clear hoJ hcJ hapJ hx6
  have HE := hidP (fun w' (hx : Ext w6 w') => eqSession_any 101 0 101 0 aJ aS 0 0 0 0 [] [] 1 1 cJ cS 1 1 1 1 [2] [2] w' (HoJ.out.ints.below hx) ((HoS4.out.below HX46.out).ints.below hx) (by decide) (by decide) (HcJ.out.ints.below hx) ((HcS4.out.below HX46.out).ints.below hx) (by decide) (by decide))
  simp only [and_self, decide_true, Bool.and_self] at HE
  obtain ⟨r0, r1, r2, r3, r4⟩ := HS4.out.below HX46.out
  have hs6 := World.block_lt_of_cell? w6 _ r0
  go_wp2_with fail
  refine (HE.out _ (Ext.alloc _ _)).mono ?_
  rintro e w7 ⟨rfl, hx7⟩
  have HX47 := hidP ((HX46.out.trans (Ext.alloc _ _)).trans hx7)
  clear r0 r1 r2 r3 r4 hs6 hx7 HE
  obtain ⟨s0, s1, s2, s3, s4⟩ := HG4.out.below HX47.out
  go_wp2_with fail
  refine (HH.out _ HX47.out).mono ?_
  rintro e w8 ⟨rfl, hx8⟩
  have HX8 := hidP hx8
  clear s0 s1 s2 s3 s4 hx8
  go_wp2
  go_ret
  exact ⟨rfl, (HX4.out.trans HX47.out).trans HX8.out⟩


theorem own : ownKnob Tryd.prog.godebug = none := by kernel_rfl
theorem laidOut : laidOutB Tryd.prog = true := by kernel_rfl
/-! ### THE ROW's STEP -/
set_option maxRecDepth 100000 in
theorem lifted (os : Os) (started : os.Started) (H : Type) (enc : TypeId × Value → H) :
    ReturnsInHanded {} Tryd.checked os 3 .any (fun w args => (Rows.fnExactNewSessionSpec.pre enc Tryd.prog Tryd.f3 [] false w args ∧ laidMetH Tryd.prog Rows.fnExactNewSessionRow.laid w) ∧ sizedMet enc Tryd.prog Tryd.f3 (OpenSpec.ofChange Rows.fnExactNewSessionSpec) false w args)
      (Rows.fnExactNewSessionSpec.post enc Tryd.prog Tryd.f3 false true false false) := by
  refine returnsInHanded_of_calls (C := Tryd.checked) own started (by kernel_rfl)
    (ChangeSpec.witness_shaped (enc := enc) (C := Tryd.checked) (os := os) (X := fun w _ => laidMetH Tryd.prog Rows.fnExactNewSessionRow.laid w) false (World.laidAll Tryd.prog os Rows.fnExactNewSessionRow.laid) #[] 8 (World.laidAll_os _ _ _)
      (World.shaped_of_ZipB (by kernel_rfl) (by kernel_rfl)) (by kernel_rfl) (by kernel_rfl) (by kernel_rfl)
      (by rw [MakeChecks.laidMetH_plain _ _ _ (by kernel_rfl)]; exact laidMet_laidAll _ (by kernel_rfl) (by kernel_rfl))) ?_
  intro w0 tape i _ hsh0 _ hok hpre _
  obtain ⟨_, _, _, fn', hfn', _, _, _, _, hval1⟩ := hok
  obtain rfl : fn' = Tryd.f3 := Option.some.inj (hfn'.symm.trans Tryd.func3)
  obtain ⟨⟨⟨ds, gs, before, hw, _⟩, hx⟩, _⟩ := hpre
  have hW0 := DataW.Whole.of_heap (w' := w0.forCall tape i) (by rfl) hw
  have hmax0 : MaxL (w0.forCall tape i) := maxL_of hsh0
  suffices hS : Calls Tryd.prog 3 i.args (w0.forCall tape i) fun e W' => ∃ v, e = .returned v ∧ Rows.fnExactNewSessionSpec.post enc Tryd.prog Tryd.f3 false true false false (w0.forCall tape i) i.args v W' from
    hS.mono fun e W' ⟨v, he, hp⟩ => by subst he; exact ChangeSpec.post_blind hp
  clear hw hx hfn' hsh0
  obtain ⟨W, eW⟩ : ∃ W, W = w0.forCall tape i := ⟨_, rfl⟩
  obtain ⟨args, eA⟩ : ∃ args, args = i.args := ⟨_, rfl⟩
  obtain ⟨base, eB⟩ : ∃ base, base = w0.heap.size := ⟨_, rfl⟩
  rw [← eW, ← eA] at hW0 hval1 ⊢
  rw [← eB] at hval1
  rw [← eW] at hmax0
  clear eW eA eB
  have hW := hW0
  have hval0 := hval1
  have hval : ∀ (j : Nat) t v, Tryd.f3.params[j]? = some t → args[j]? = some v → Value.okWide Tryd.prog W .any base t v := hval0
  have hW' := hW
  obtain ⟨p, q, hA0, hV, rfl, hfz, hnd⟩ := hW
  have hA : DataW.TrodAll enc Tryd.prog W 0 (fun _ => true) true Tryd.f3.params.toList args.toList ds p := hA0
  rw [Tryd.params3] at hA hval
  obtain ⟨hargs, rfl, rfl⟩ := trodAll_nil hA
  obtain rfl : args = #[] := by cases args; simp_all
  obtain ⟨rfl, rfl⟩ := trodVars_none hV
  clear hA0 hval0
  refine (walk  W   hmax0).mono fun e W' ⟨he, bel⟩ => ?_
  subst he
  exact ⟨_, rfl, _, _, _, [], _, [], hW', trodAll_mk1 (shut_bool Tryd.underlying4 _), trodAll_mk0, rfl, bel.frame _, fun h => by cases h⟩

theorem over : Rows.FnExactNewSessionSaid :=
  OpenClaim.holds_of_wide 3 Tryd.f3 rfl rfl rfl rfl rfl rfl rfl ⟨rfl, rfl, rfl, rfl, rfl⟩ rfl rfl rfl rfl rfl (by kernel_rfl) Tryd.func3 (by kernel_rfl)
    (of_decide_eq_true (by kernel_rfl)) (by unfold Func.isWrapper; first | (rw [if_pos (by decide +kernel)]; kernel_rfl) | (rw [if_neg (by decide +kernel)]; exact ⟨rfl, rfl⟩))
    (fun os started H enc _ => lifted os started H enc)

/-- THE STATEMENT: the tied card -/
theorem proved : Rows.FnExactNewSessionCardSaid :=
  Claim7.holds_tied_plain_at .later [] [.data, .pinned] true _ false
    over (fun _ h => by cases h) (by kernel_rfl) (fun _ h => by cases h) fnExactNewSession_row_tie rfl ⟨rfl, rfl⟩ (by kernel_rfl) rfl
    (fun f fn hf hfn => by
      obtain rfl : f = 3 := Option.some.inj ((show Tryd.prog.funcNamed Rows.fnExactNewSessionRow.func = some 3 by kernel_rfl).symm.trans hf) |>.symm
      obtain rfl : fn = Tryd.f3 := (Option.some.inj (Tryd.func3.symm.trans hfn)).symm
      refine ⟨by kernel_rfl, fun j t ht => ?_⟩
      have hall : (Tryd.f3.params.toList.all fun t => !Tryd.prog.wantsStandIn t) = true := by kernel_rfl
      have hm : t ∈ Tryd.f3.params.toList := by rw [Array.mem_toList_iff]; exact Array.mem_of_getElem? ht
      have := List.all_eq_true.1 hall t hm
      exact (show Tryd.prog.wantsStandIn t = false by simpa using this))
    (by kernel_rfl)
#print axioms proved

end Go.Proofs.YtdbpbnajegoffaaDoor.fnExactNewSession
