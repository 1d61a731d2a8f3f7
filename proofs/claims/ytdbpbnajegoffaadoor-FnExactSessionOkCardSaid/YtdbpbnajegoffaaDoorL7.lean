/-
  FnExactSessionOk: for all sessions the program's SessionOk returns what the reference's returns, and leaves its argument.
  No condition.
-/
import Derived.Test.YtdbpbnajegoffaaDoorSok
import Derived.Test.YtdbpbnajegoffaaDoorOpnS
import Derived.Test.YtdbpbnajegoffaaDoorTie
import Derived.Test.YtdbpbnajegoffaaDoorCards
import Derived.ProofKit
import Derived.OpenShut
import Derived.ChangeOld
import Derived.ChangeVars
import Derived.JoinedOf
import Derived.LaidLaws
import Derived.LaidHandle
import Derived.SevenTiedAt
import Derived.Deep.DeepLaidRun
import Derived.Shelf.Vars
import Derived.LaidMore
import Derived.Lay
namespace Go.Proofs.YtdbpbnajegoffaaDoor.fnExactSessionOk
open Go.ChangeShapes Go.WideShapes Go.ChangeAt Go.RowKit
set_option linter.unusedVariables false

theorem maxL_of {W : World} (h : W.ShapedOpen Tryd.prog) : MaxL W :=
  cell_of_shapedOpen_int (P := Tryd.prog) (g := 0) (t := 3) (zero := #[.int .i64 0]) h (of_decide_eq_true (by kernel_rfl)) (by kernel_rfl) rfl (by kernel_rfl) (by kernel_rfl) Tryd.underlying3

set_option maxHeartbeats 4000000 in
/-- The Go text returns true, and leaves what was there. -/
theorem walk (p d : Int) (a : Option Addr) (n c : Nat) (t : List Int) (r : Int) (a' : Option Addr) (n' c' : Nat) (ts : List Int) (w : World) (h : IntsAt w a n t) (h' : IntsAt w a' n' ts) (hn : n ≤ 9223372036854775807) (hn' : n' ≤ 9223372036854775807) (hm : MaxL w) :
    Calls Tryd.prog 4 #[sesV p d a n c r a' n' c'] w fun e w' => e = .returned (.bool true) ∧ Ext w w' := by
  have hx0 := Ext.alloc w (.cells #[.int .i64 p, .int .i64 d, .slice a n c, .int .i64 r, .slice a' n' c'] 36)
  have HF := hidP (fun w' (hx : Ext (w.alloc (.cells #[.int .i64 p, .int .i64 d, .slice a n c, .int .i64 r, .slice a' n' c'] 36)) w') => (SesAt.new w _ rfl p d a n c r a' n' c' 36).below hx)
  have X := hidP hx0
  have HT := hidP h
  have HT' := hidP h'
  have HM := hidP hm
  clear h h' hm hx0
  have hz0 : w.heap.size < (w.alloc (.cells #[.int .i64 p, .int .i64 d, .slice a n c, .int .i64 r, .slice a' n' c'] 36)).heap.size := by simp
  obtain ⟨w0, hw0⟩ : ∃ w0, w0 = w.alloc (.cells #[.int .i64 p, .int .i64 d, .slice a n c, .int .i64 r, .slice a' n' c'] 36) := ⟨_, rfl⟩
  rw [← hw0] at X HF hz0
  have Hz0 := hidP hz0
  clear hz0
  have HSZ := hidP (fun w' => szSession_any p d a n c r a' n' c' 1048576 w' hn hn' (by omega) (by omega))
  obtain ⟨f0, f1, f2, f3, f4⟩ := HF.out w0 (Ext.refl _)
  by_cases hle : (n : Int) ≤ 1048576 ∧ (n' : Int) ≤ 1048576 - n
  · have HE : Hid ((if (n : Int) ≤ 1048576 then szLeft n' (1048576 - n) else -1) = 1048576 - n - n') := by
      show _ = _
      rw [if_pos hle.1]
      exact if_pos hle.2
    rw [HE.out] at HSZ
    have hng : ¬ (1048576 - (n : Int) - n' < 0) := by omega
    have hn1 : n ≤ 1048576 := by omega
    have hn2 : n' ≤ 1048576 := by omega
    clear hle
    have HTC := hidP (fun w' (hx : Ext w w') => toSession_any p d r a n c t a' n' c' ts w' (HT.out.below hx) (HT'.out.below hx) hn1 hn2)
    go_enter Tryd.func4, Tryd.ntmps4
    go_wp2_with fail
    rw [← hw0]
    clear hw0
    refine (HSZ.out _).mono ?_
    rintro e w1 ⟨rfl, hx⟩
    have X1 := hidP hx
    clear hx HSZ f0 f1 f2 f3 f4
    obtain ⟨f0, f1, f2, f3, f4⟩ := HF.out w1 X1.out
    go_wp2_with fail
    refine (HTC.out _ (X.out.trans X1.out)).mono ?_
    rintro e w2 ⟨s1, s2, rfl, ho1, ho2, _, hx⟩
    have HR := hidP (sSessionOk_any p d s1 n n t r s2 n' n' ts w2 ho1.ints (Nat.le_refl _) (by omega) ho2.ints (by omega))
    have X2 := hidP (X1.out.trans hx)
    clear hx f0 f1 f2 f3 f4 ho1 ho2
    generalize hB : (algB p d t && typeB r ts) = B at HR
    have HB := hidP hB
    clear hB
    go_wp2_with fail
    refine HR.out.mono ?_
    rintro e w3 ⟨rfl, hx⟩
    have X3 := hidP (X2.out.trans hx)
    clear hx HR
    obtain ⟨f0, f1, f2, f3, f4⟩ := HF.out w3 X3.out
    go_wp2_with fail
    refine (HTC.out _ (X.out.trans X3.out)).mono ?_
    rintro e w4 ⟨x1, x2, rfl, ho1, ho2, _, hx⟩
    have X4 := hidP (X3.out.trans hx)
    have HO1 := hidP ho1
    have HO2 := hidP ho2
    clear hx f0 f1 f2 f3 f4 ho1 ho2
    have hxa := Ext.alloc w4 (.cells #[.int .i64 p, .int .i64 d, .slice x1 n n, .int .i64 r, .slice x2 n' n'] 28)
    have FB := hidP (fun w' (hx : Ext (w4.alloc (.cells #[.int .i64 p, .int .i64 d, .slice x1 n n, .int .i64 r, .slice x2 n' n'] 28)) w') => (SesAt.new w4 _ rfl p d x1 n n r x2 n' n' 28).below hx)
    have hzz : w4.heap.size < (w4.alloc (.cells #[.int .i64 p, .int .i64 d, .slice x1 n n, .int .i64 r, .slice x2 n' n'] 28)).heap.size := by simp
    have HI := hidP (sessionOk_any p d x1 n n t r x2 n' n' ts _ (HO1.out.below hxa).ints (Nat.le_refl _) (by omega) (HO2.out.below hxa).ints (by omega) (HM.out.below ((X.out.trans X4.out).trans hxa)))
    rw [HB.out] at HI
    have X5 := hidP (X4.out.trans hxa)
    have HO15 := hidP (HO1.out.below hxa)
    have HO25 := hidP (HO2.out.below hxa)
    clear hxa
    go_wp2_with fail
    obtain ⟨w5, hw5⟩ : ∃ w5, w5 = w4.alloc (.cells #[.int .i64 p, .int .i64 d, .slice x1 n n, .int .i64 r, .slice x2 n' n'] 28) := ⟨_, rfl⟩
    rw [← hw5] at FB HI X5 HO15 HO25 hzz ⊢
    have Hzz := hidP hzz
    clear hw5 hzz
    refine HI.out.mono ?_
    rintro e w6 ⟨rfl, hx⟩
    have X6 := hidP (X5.out.trans hx)
    have X56 := hidP hx
    have HO16 := hidP (HO15.out.below hx)
    have HO26 := hidP (HO25.out.below hx)
    clear hx HI
    have hBB : (B != B) = false := by simp
    have hE : Ext w6 w6.drew := Ext.drew w6
    have HTCd := hidP (fun w' (hx : Ext w6 w') => (HTC.out w' ((X.out.trans X6.out).trans hx)).mono (fun (e : Ending) (w'' : World) ⟨e1, e2, he, ho1, ho2, _, hx'⟩ => (⟨e1, e2, he, OwnI.base ho1 hx.size, OwnI.base ho2 hx.size, hx'⟩ : ∃ e1 e2, e = Ending.returned (sesV p d e1 n n r e2 n' n') ∧ OwnI w'' w6.heap.size e1 n n t ∧ OwnI w'' w6.heap.size e2 n' n' ts ∧ Ext w' w'')))
    have HQ := hidP (fun w' (hx : Ext w6 w') (e1 e2 : Option Addr) (ho1 : OwnI w' w6.heap.size e1 n n t) (ho2 : OwnI w' w6.heap.size e2 n' n' ts) => eqSession_any p d p d x1 e1 n n n n t t r r x2 e2 n' n' n' n' ts ts w' (HO16.out.below hx).ints ho1.ints (by omega) (by omega) (HO26.out.below hx).ints ho2.ints (by omega) (by omega))
    simp only [and_self, decide_true, Bool.and_self] at HQ
    go_wp2
    (refine walkR_start (fun w' => Ext w6 w') 5 (by kernel_rfl) ?_; simp only [numbered, List.take_succ_cons, List.take_zero, Nat.zero_add, Nat.reduceAdd, List.length_cons, List.length_nil])
    (repeat (first | (refine walkR_still (v := ?_) rfl (by decide +kernel) rfl (fun _ _ _ h => h) hE ?_ ?_; rotate_left; (focus (intro w' hw'; obtain ⟨f0, f1, f2, f3, f4⟩ := HF.out w' (X6.out.trans hw'); obtain ⟨y0, y1, y2, y3, y4⟩ := FB.out w' (X56.out.trans hw'); go_simp; all_goals (with_reducible rfl))); simp only [Act.put, List.setIfInBounds_toArray, List.set_cons_zero, List.set_cons_succ]) | (refine walkR_skip rfl (by decide +kernel) rfl (fun _ _ _ h => h) hE ?_; simp only [Act.put, List.setIfInBounds_toArray, List.set_cons_zero, List.set_cons_succ])))
    (refine walkR_only (fun w' => Ext w6 w') rfl (by decide +kernel) rfl (fun _ h => h) ?_; intro K hK; go_simp; refine (HTCd.out _ hE).mono ?_; rintro e w7 ⟨e1, e2, rfl, ho1, ho2, hx7⟩; refine hK _ _ (hE.trans hx7) ?_; clear hK K; (try simp only [Act.put, List.setIfInBounds_toArray, List.set_cons_zero, List.set_cons_succ]))
    have hE1 := hE.trans hx7
    have HQ1 := hidP (HQ.out _ hE1 e1 e2 ho1 ho2)
    clear hx7 ho1 ho2
    (refine walkR_only (fun w' => Ext w6 w') rfl (by decide +kernel) rfl (fun _ h => h) ?_; intro K hK; go_simp; refine (HQ1.out).mono ?_; rintro e w8 ⟨rfl, hx8⟩; refine hK _ _ (hE1.trans hx8) ?_; clear hK K; (try simp only [Act.put, List.setIfInBounds_toArray, List.set_cons_zero, List.set_cons_succ]))
    have hE2 := hE1.trans hx8
    have HE2 := hidP hE2
    clear hx8
    (repeat (first | (refine walkR_still (v := ?_) rfl (by decide +kernel) rfl (fun _ _ _ h => h) hE2 ?_ ?_; rotate_left; (focus (intro w' hw'; skip; go_simp; all_goals (with_reducible rfl))); simp only [Act.put, List.setIfInBounds_toArray, List.set_cons_zero, List.set_cons_succ]) | (refine walkR_skip rfl (by decide +kernel) rfl (fun _ _ _ h => h) hE2 ?_; simp only [Act.put, List.setIfInBounds_toArray, List.set_cons_zero, List.set_cons_succ])))
    clear hE2 hE1 hE
    (refine walkR_tail (by rfl) (by kernel_rfl) ?_; simp only [List.drop_succ_cons, List.drop_zero])
    go_wp2
    go_ret
    exact ⟨rfl, X.out.trans (X6.out.trans HE2.out)⟩
  · have HE : Hid ((if (n : Int) ≤ 1048576 then szLeft n' (1048576 - n) else -1) = -1) := by
      show _ = _
      by_cases h1 : (n : Int) ≤ 1048576
      · rw [if_pos h1]
        exact if_neg fun h2 => hle ⟨h1, h2⟩
      · rw [if_neg h1]
    rw [HE.out] at HSZ
    clear hle
    go_enter Tryd.func4, Tryd.ntmps4
    go_wp2_with fail
    rw [← hw0]
    clear hw0
    refine (HSZ.out _).mono ?_
    rintro e w1 ⟨rfl, hx⟩
    have X1 := hidP hx
    clear hx HSZ f0 f1 f2 f3 f4
    go_wp2
    go_ret
    exact ⟨rfl, X.out.trans X1.out⟩


theorem own : ownKnob Tryd.prog.godebug = none := by kernel_rfl
theorem laidOut : laidOutB Tryd.prog = true := by kernel_rfl
/-! ### THE ROW's STEP -/
set_option maxRecDepth 100000 in
theorem lifted (os : Os) (started : os.Started) (H : Type) (enc : TypeId × Value → H) :
    ReturnsInHanded {} Tryd.checked os 4 .any (fun w args => (Rows.fnExactSessionOkSpec.pre enc Tryd.prog Tryd.f4 [] false w args ∧ laidMetH Tryd.prog Rows.fnExactSessionOkRow.laid w) ∧ sizedMet enc Tryd.prog Tryd.f4 (OpenSpec.ofChange Rows.fnExactSessionOkSpec) false w args)
      (Rows.fnExactSessionOkSpec.post enc Tryd.prog Tryd.f4 false true false false) := by
  refine returnsInHanded_of_calls (C := Tryd.checked) own started (by kernel_rfl)
    (ChangeSpec.witness_shaped (enc := enc) (C := Tryd.checked) (os := os) (X := fun w _ => laidMetH Tryd.prog Rows.fnExactSessionOkRow.laid w) false (World.laidAll Tryd.prog os Rows.fnExactSessionOkRow.laid) #[.agg #[.int .i64 0, .int .i64 0, .slice none 0 0, .int .i64 0, .slice none 0 0]] 8 (World.laidAll_os _ _ _)
      (World.shaped_of_ZipB (by kernel_rfl) (by kernel_rfl)) (by kernel_rfl) (by kernel_rfl) (by kernel_rfl)
      (by rw [MakeChecks.laidMetH_plain _ _ _ (by kernel_rfl)]; exact laidMet_laidAll _ (by kernel_rfl) (by kernel_rfl))) ?_
  intro w0 tape i _ hsh0 _ hok hpre _
  obtain ⟨_, _, _, fn', hfn', _, _, _, _, hval1⟩ := hok
  obtain rfl : fn' = Tryd.f4 := Option.some.inj (hfn'.symm.trans Tryd.func4)
  obtain ⟨⟨⟨ds, gs, before, hw, _⟩, hx⟩, _⟩ := hpre
  have hW0 := DataW.Whole.of_heap (w' := w0.forCall tape i) (by rfl) hw
  have hmax0 : MaxL (w0.forCall tape i) := maxL_of hsh0
  suffices hS : Calls Tryd.prog 4 i.args (w0.forCall tape i) fun e W' => ∃ v, e = .returned v ∧ Rows.fnExactSessionOkSpec.post enc Tryd.prog Tryd.f4 false true false false (w0.forCall tape i) i.args v W' from
    hS.mono fun e W' ⟨v, he, hp⟩ => by subst he; exact ChangeSpec.post_blind hp
  clear hw hx hfn' hsh0
  obtain ⟨W, eW⟩ : ∃ W, W = w0.forCall tape i := ⟨_, rfl⟩
  obtain ⟨args, eA⟩ : ∃ args, args = i.args := ⟨_, rfl⟩
  obtain ⟨base, eB⟩ : ∃ base, base = w0.heap.size := ⟨_, rfl⟩
  rw [← eW, ← eA] at hW0 hval1 ⊢
  rw [← eB] at hval1
  rw [← eW] at hmax0
  clear eW eA eB
  have hW := hW0
  have hval0 := hval1
  have hval : ∀ (j : Nat) t v, Tryd.f4.params[j]? = some t → args[j]? = some v → Value.okWide Tryd.prog W .any base t v := hval0
  have hW' := hW
  obtain ⟨p, q, hA0, hV, rfl, hfz, hnd⟩ := hW
  have hA : DataW.TrodAll enc Tryd.prog W 0 (fun _ => true) true Tryd.f4.params.toList args.toList ds p := hA0
  rw [Tryd.params4] at hA hval
  obtain ⟨v0, vs0, d0, ds0, p0, q0, hargs, rfl, rfl, h0, r0⟩ := trodAll_cons hA
  obtain ⟨rfl, rfl, rfl⟩ := trodAll_nil r0
  obtain rfl : args = #[v0] := by cases args; simp_all
  obtain ⟨rfl, rfl⟩ := trodVars_none hV
  have lt0 : ∀ x ∈ p0, x.block < W.heap.size := fun x hx => hW'.lt x (by simp [hx])
  obtain ⟨b0, f0, e0, n0, k0, xs0, r0', e0', n0', k0', ys0, rfl, i0, i0', s0, s0'⟩ := ses_in Tryd.underlying36 (by kernel_rfl) (by kernel_rfl) (by kernel_rfl) (by kernel_rfl) (by kernel_rfl) Tryd.underlying33 (by kernel_rfl) Tryd.underlying3 Tryd.underlying3 Tryd.underlying22 Tryd.underlying34 (by kernel_rfl) Tryd.underlying3 Tryd.underlying22 Tryd.underlying3 (by kernel_rfl) (hval 0 36 v0 rfl rfl) h0
  clear hA0 hval0
  refine (walk b0 f0 e0 n0 k0 xs0 r0' e0' n0' k0' ys0 W i0 i0' s0 s0' hmax0).mono fun e W' ⟨he, bel⟩ => ?_
  subst he
  exact ⟨_, rfl, _, _, _, [], _, [], hW', trodAll_mk1 (shut_bool Tryd.underlying4 _), (trodAll_cons_mk (Below.trod laidOut (by kernel_rfl) (of_decide_eq_true (by kernel_rfl)) h0 bel lt0) trodAll_mk0), rfl, bel.frame _, fun h => by cases h⟩

theorem over : Rows.FnExactSessionOkSaid :=
  OpenClaim.holds_of_wide 4 Tryd.f4 rfl rfl rfl rfl rfl rfl rfl ⟨rfl, rfl, rfl, rfl, rfl⟩ rfl rfl rfl rfl rfl (by kernel_rfl) Tryd.func4 (by kernel_rfl)
    (of_decide_eq_true (by kernel_rfl)) (by unfold Func.isWrapper; first | (rw [if_pos (by decide +kernel)]; kernel_rfl) | (rw [if_neg (by decide +kernel)]; exact ⟨rfl, rfl⟩))
    (fun os started H enc _ => lifted os started H enc)

/-- THE STATEMENT: the tied card -/
theorem proved : Rows.FnExactSessionOkCardSaid :=
  Claim7.holds_tied_plain_at .later [] [.data, .pinned] true _ false
    over (fun _ h => by cases h) (by kernel_rfl) (fun _ h => by cases h) fnExactSessionOk_row_tie rfl ⟨rfl, rfl⟩ (by kernel_rfl) rfl
    (fun f fn hf hfn => by
      obtain rfl : f = 4 := Option.some.inj ((show Tryd.prog.funcNamed Rows.fnExactSessionOkRow.func = some 4 by kernel_rfl).symm.trans hf) |>.symm
      obtain rfl : fn = Tryd.f4 := (Option.some.inj (Tryd.func4.symm.trans hfn)).symm
      refine ⟨by kernel_rfl, fun j t ht => ?_⟩
      have hall : (Tryd.f4.params.toList.all fun t => !Tryd.prog.wantsStandIn t) = true := by kernel_rfl
      have hm : t ∈ Tryd.f4.params.toList := by rw [Array.mem_toList_iff]; exact Array.mem_of_getElem? ht
      have := List.all_eq_true.1 hall t hm
      exact (show Tryd.prog.wantsStandIn t = false by simpa using this))
    (by kernel_rfl)
#print axioms proved

end Go.Proofs.YtdbpbnajegoffaaDoor.fnExactSessionOk
