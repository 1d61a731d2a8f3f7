/-
  Paths read by the program: isWeight, PathOk.
-/
import Derived.Test.YtfikkfbnlegflaaGreatDoorPthR
import Derived.Test.YtfikkfbnlegflaaGreatDoorSlw
import Derived.Test.YtfikkfbnlegflaaGreatDoorSlc
import Derived.Test.YtfikkfbnlegflaaGreatDoorCar
namespace Go.Proofs.YtfikkfbnlegflaaGreatDoor
open Go.RowKit

theorem isWeight1_any (x : Int) (w : World) : Calls Tryz.prog 117 #[.int .i64 x] w fun e w' => e = .returned (.bool (!insB x (-1000) 1000)) ∧ w = w' := by
  go_enter Tryz.func117, Tryz.ntmps117
  go_wp2_with (go_at_call 57; refine (inside_any _ _ _ _).mono ?_; rintro e w' ⟨rfl, rfl⟩)
  go_ret
  exact ⟨rfl, rfl⟩
theorem callFunc_isWeight1 (args : Array Value) (w : World) : Sem.run Tryz.prog (callFunc 117 args) w = .ok (.enter 117 args) w := by
  kernel_rfl
set_option maxHeartbeats 1000000 in
theorem isWeight_any (r : Nat) (ta : Option Addr) (tn tc : Nat) (a : Option Addr) (n c : Nat) (xs : List Int) (w : World) (h : IntsAt w a n xs) (hn : n ≤ 9223372036854775807) (hr : r ≤ 1000000) :
    Calls Tryz.prog 78 #[carV r ta tn tc, .slice a n c] w fun e w' => e = .returned (.bool (wayB r xs)) ∧ Ext w w' := by
  have hX := Ext.alloc w (.cells #[.int .i64 r, .slice ta tn tc] 31)
  have HX := hidP hX
  have L := hidP h.len
  have HF : Hid (wayB r xs = (decide (xs.length = r) && !(xs.any fun x => !insB x (-1000) 1000))) := by
    show _ = _
    rw [wayB_eq, List.all_eq_not_any_not]
    rfl
  have HI := hidP (h.below hX)
  clear h hX
  by_cases hnr : n = r
  · have hne : ((n : Int) == (r : Int)) = true := by simp [hnr]
    have HC := hidP (containsFunc_any 117 #[] (fun x => !insB x (-1000) 1000) a n c xs _ HI.out (by omega) callFunc_isWeight1 (fun x => isWeight1_any x _))
    have HR : Hid (wayB r xs = !(xs.any fun x => !insB x (-1000) 1000)) := by
      show _ = _
      rw [HF.out, decide_eq_true (by have := L.out; omega), Bool.true_and]
    generalize (xs.any fun x => !insB x (-1000) 1000) = B at *
    clear hnr
    go_enter Tryz.func78, Tryz.ntmps78
    go_wp2_with (go_at_call 116; refine HC.out.mono ?_; rintro e w' ⟨rfl, rfl⟩)
    go_ret
    exact ⟨ret_bool HR.out.symm, HX.out⟩
  · have hne : ((n : Int) == (r : Int)) = false := beq_eq_false_iff_ne.2 (by omega)
    have HR : Hid (wayB r xs = false) := by
      show _ = _
      rw [HF.out, decide_eq_false (by have := L.out; omega), Bool.false_and]
    go_enter Tryz.func78, Tryz.ntmps78
    go_wp2
    go_ret
    exact ⟨ret_bool HR.out.symm, HX.out⟩

/-- the two cells of a step in a variable of its own -/
structure StpAt (w : World) (b : Nat) (a : Option Addr) (n c : Nat) (l : Int) : Prop where
  c0 : w.cell? ⟨b, 0, none⟩ = some (.slice a n c)
  c1 : w.cell? ⟨b, 1, none⟩ = some (.int .i64 l)
theorem StpAt.below {w w' : World} {b : Nat} {l : Int} {a : Option Addr} {n c : Nat} (h : StpAt w b a n c l) (hb : Ext w w') : StpAt w' b a n c l :=
  have hl := World.block_lt_of_cell? w _ h.c0
  ⟨(hb.cell (p := ⟨b, 0, none⟩) hl).trans h.c0, (hb.cell (p := ⟨b, 1, none⟩) hl).trans h.c1⟩
theorem StpAt.new (w : World) (b : Nat) (hb : b = w.heap.size) (a : Option Addr) (n c : Nat) (l : Int) (E : TypeId) : StpAt (w.alloc (.cells #[.slice a n c, .int .i64 l] E)) b a n c l :=
  ⟨(cell_top _ _ _ _ _ hb).trans rfl, (cell_top _ _ _ _ _ hb).trans rfl⟩
theorem typeB_rank {r : Int} {ts : List Int} (h : typeB r ts = true) : 1 ≤ r ∧ r ≤ 4 ∧ (ts.length : Int) = r * r := by
  simp only [typeB, Bool.and_eq_true, decide_eq_true_eq] at h
  omega

set_option maxRecDepth 100000 in
set_option maxHeartbeats 4000000 in
theorem pathOk_of (r : Int) (ta : Option Addr) (tn tc : Nat) (ts : List Int) (a : Option Addr) (n c : Nat) (xs : List Stp) (w : World) (h : TermsAt w a n xs) (hn : n ≤ 9223372036854775807)
    (HIs : ∀ w', Ext w w' → Calls Tryz.prog 77 #[carV r ta tn tc] w' fun e w'' => e = .returned (.bool (typeB r ts)) ∧ Ext w' w'') :
    Calls Tryz.prog 34 #[carV r ta tn tc, .slice a n c] w fun e w' => e = .returned (.bool (typeB r ts && pathB r.toNat xs)) ∧ Ext w w' := by
  have hx1 := Ext.alloc w (.cells #[.int .i64 r, .slice ta tn tc] 31)
  have G := hidP (h.below hx1)
  have L0 := hidP h.len
  have HC := hidP (fun w' (hx : Ext (w.alloc (.cells #[.int .i64 r, .slice ta tn tc] 31)) w') => (CarAt.new w _ rfl r ta tn tc 31).below hx)
  have HX1 := hidP hx1
  have HIs1 := hidP (HIs _ hx1)
  clear h hx1 HIs
  obtain ⟨w1, hw1⟩ : ∃ w1, w1 = w.alloc (.cells #[.int .i64 r, .slice ta tn tc] 31) := ⟨_, rfl⟩
  rw [← hw1] at G HC HX1 HIs1
  cases hT : typeB r ts
  · rw [hT] at HIs1
    clear hT
    obtain ⟨f0, f1⟩ := HC.out w1 (Ext.refl w1)
    go_enter Tryz.func34, Tryz.ntmps34
    go_wp2_with fail
    rw [← hw1]
    clear hw1
    refine HIs1.out.mono ?_
    rintro e w2 ⟨rfl, hx⟩
    have HX := hidP hx
    clear hx
    go_wp2
    go_ret
    exact ⟨rfl, HX1.out.trans HX.out⟩
  · obtain ⟨hr1, hr4, _⟩ := typeB_rank hT
    rw [hT] at HIs1
    rw [Bool.true_and]
    clear hT
    obtain ⟨R, rfl⟩ : ∃ R : Nat, r = R := ⟨r.toNat, by omega⟩
    rw [Int.toNat_natCast]
    have hr : R ≤ 4 := by omega
    clear hr1 hr4
    obtain ⟨f0, f1⟩ := HC.out w1 (Ext.refl w1)
    go_enter Tryz.func34, Tryz.ntmps34
    go_wp2_with fail
    rw [← hw1]
    clear hw1
    refine HIs1.out.mono ?_
    rintro e w1' ⟨rfl, hx⟩
    have HX0 := hidP hx
    clear hx f0 f1
    by_cases h60 : n ≤ 60
    · have h60' : ¬ (60 < (n : Int)) := by omega
      go_wp2
      go_loopw [5, 18] (fun t i wr => ∃ k : Nat, k ≤ n ∧ Hid (∀ j, j < k → stepB R xs j = true) ∧ t = .int .i64 (timeAt xs k) ∧ i = .int .i64 k ∧ Hid (Ext w1 wr)) (fun _ i _ => n - (intOf i).toNat)
      case atStart => exact ⟨0, Nat.zero_le _, fun j h => by omega, rfl, rfl, HX0⟩
      case round =>
        clear HX0
        obtain ⟨k, hk, HJ, rfl, rfl, HX⟩ := hrel
        by_cases hlt : k < n
        · obtain ⟨b, o, aw, cw, W, L, rfl, HW, HL, hwl, hq⟩ := (G.out.below HX.out).way k hlt
          have HQ := hidP hq
          obtain ⟨q1, q2, _⟩ := hq wr (Ext.refl wr)
          have HBd := hidP (timeAt_bounds (p := xs) (n := k) (fun j hj => stepB_len (HJ.out j hj)) k (Nat.le_refl k))
          have HTn : Hid (timeAt xs (k + 1) = timeAt xs k + L) := by
            show _ = _
            rw [timeAt, HL.out]
          obtain ⟨T, hT⟩ : ∃ T, T = timeAt xs k := ⟨_, rfl⟩
          rw [← hT] at HBd HTn ⊢
          clear hT hq
          have HA2 := hidP (Ext.alloc wr (.cells #[.slice aw W.length cw, .int .i64 L] 69))
          have HS := hidP (fun w' (hx : Ext (wr.alloc (.cells #[.slice aw W.length cw, .int .i64 L] 69)) w') => (StpAt.new wr _ rfl aw W.length cw L 69).below hx)
          obtain ⟨w2, hw2⟩ : ∃ w2, w2 = wr.alloc (.cells #[.slice aw W.length cw, .int .i64 L] 69) := ⟨_, rfl⟩
          rw [← hw2] at HA2 HS
          have HCr := hidP (fun w' (hx : Ext w2 w') => HC.out w' ((HX.out.trans HA2.out).trans hx))
          have HWt := hidP (fun w' (hx : Ext w2 w') => isWeight_any R ta tn tc aw W.length cw W w' (HQ.out w' (HA2.out.trans hx)).2.2 hwl (by omega))
          have HSB : Hid (stepB R xs k = (wayB R W && (insB L 1 83160 && (decide (k = 0) || wayAt xs (k - 1) != W)))) := by
            show _ = _
            unfold stepB
            rw [HW.out, HL.out]
            rfl
          cases hA : wayB R W
          · rw [hA] at HWt HSB
            have HB := hidP (pathB_bad (r := R) (p := xs) k (by have := L0.out; omega) HSB.out)
            clear hA
            go_wp2
            rw [← hw2]
            clear hw2 q1 q2
            have hE : Ext w2 w2.drew := Ext.drew w2
            (refine walkR_start (fun w' => Ext w2 w') 25 (by kernel_rfl) ?_; simp only [numbered, List.take_succ_cons, List.take_zero, Nat.zero_add, Nat.reduceAdd, List.length_cons, List.length_nil])
            (repeat (first | (refine walkR_still (v := ?_) rfl (by decide +kernel) rfl (fun _ _ _ h => h) hE ?_ ?_; rotate_left; (focus (intro w' hw'; obtain ⟨f0, f1⟩ := HCr.out w' hw'; obtain ⟨q1, q2⟩ := HS.out w' hw'; go_simp; all_goals (with_reducible rfl))); simp only [Act.put, List.setIfInBounds_toArray, List.set_cons_zero, List.set_cons_succ]) | (refine walkR_skip rfl (by decide +kernel) rfl (fun _ _ _ h => h) hE ?_; simp only [Act.put, List.setIfInBounds_toArray, List.set_cons_zero, List.set_cons_succ])))
            (refine walkR_only (fun w' => Ext w2 w') rfl (by decide +kernel) rfl (fun _ h => h) ?_; intro K hK; go_simp; refine (HWt.out _ hE).mono ?_; rintro e w3 ⟨rfl, hx3⟩; refine hK _ _ (hE.trans hx3) ?_; clear hK K; (try simp only [Act.put, List.setIfInBounds_toArray, List.set_cons_zero, List.set_cons_succ]))
            have hE2 := hE.trans hx3
            (repeat (first | (refine walkR_still (v := ?_) rfl (by decide +kernel) rfl (fun _ _ _ h => h) hE2 ?_ ?_; rotate_left; (focus (intro w' hw'; obtain ⟨f0, f1⟩ := HCr.out w' hw'; obtain ⟨q1, q2⟩ := HS.out w' hw'; go_simp; all_goals (with_reducible rfl))); simp only [Act.put, List.setIfInBounds_toArray, List.set_cons_zero, List.set_cons_succ]) | (refine walkR_skip rfl (by decide +kernel) rfl (fun _ _ _ h => h) hE2 ?_; simp only [Act.put, List.setIfInBounds_toArray, List.set_cons_zero, List.set_cons_succ])))
            (refine walkR_tail (by rfl) (by kernel_rfl) ?_; simp only [List.drop_succ_cons, List.drop_zero])
            go_wp2
            go_ret
            exact ⟨ret_bool HB.out.symm, HX1.out.trans (HX.out.trans (HA2.out.trans hE2))⟩
          · rw [hA] at HWt HSB
            have hWl := hidP ((wayB_iff.1 hA).1)
            cases hI : insB L 1 83160
            · rw [hI] at HSB
              have HB := hidP (pathB_bad (r := R) (p := xs) k (by have := L0.out; omega) HSB.out)
              clear hA
              go_wp2
              rw [← hw2]
              clear hw2 q1 q2
              have hE : Ext w2 w2.drew := Ext.drew w2
              (refine walkR_start (fun w' => Ext w2 w') 25 (by kernel_rfl) ?_; simp only [numbered, List.take_succ_cons, List.take_zero, Nat.zero_add, Nat.reduceAdd, List.length_cons, List.length_nil])
              (repeat (first | (refine walkR_still (v := ?_) rfl (by decide +kernel) rfl (fun _ _ _ h => h) hE ?_ ?_; rotate_left; (focus (intro w' hw'; obtain ⟨f0, f1⟩ := HCr.out w' hw'; obtain ⟨q1, q2⟩ := HS.out w' hw'; go_simp; all_goals (with_reducible rfl))); simp only [Act.put, List.setIfInBounds_toArray, List.set_cons_zero, List.set_cons_succ]) | (refine walkR_skip rfl (by decide +kernel) rfl (fun _ _ _ h => h) hE ?_; simp only [Act.put, List.setIfInBounds_toArray, List.set_cons_zero, List.set_cons_succ])))
              (refine walkR_only (fun w' => Ext w2 w') rfl (by decide +kernel) rfl (fun _ h => h) ?_; intro K hK; go_simp; refine (HWt.out _ hE).mono ?_; rintro e w3 ⟨rfl, hx3⟩; refine hK _ _ (hE.trans hx3) ?_; clear hK K; (try simp only [Act.put, List.setIfInBounds_toArray, List.set_cons_zero, List.set_cons_succ]))
              have hE2 := hE.trans hx3
              (repeat (first | (refine walkR_still (v := ?_) rfl (by decide +kernel) rfl (fun _ _ _ h => h) hE2 ?_ ?_; rotate_left; (focus (intro w' hw'; obtain ⟨f0, f1⟩ := HCr.out w' hw'; obtain ⟨q1, q2⟩ := HS.out w' hw'; go_simp; all_goals (with_reducible rfl))); simp only [Act.put, List.setIfInBounds_toArray, List.set_cons_zero, List.set_cons_succ]) | (refine walkR_skip rfl (by decide +kernel) rfl (fun _ _ _ h => h) hE2 ?_; simp only [Act.put, List.setIfInBounds_toArray, List.set_cons_zero, List.set_cons_succ])))
              (refine walkR_only (fun w' => Ext w2 w') rfl (by decide +kernel) rfl (fun _ h => h) ?_; intro K hK; go_simp; refine (inside_any _ _ _ _).mono ?_; rintro e w4 ⟨rfl, rfl⟩; refine hK _ _ (hE2) ?_; clear hK K; (try simp only [Act.put, List.setIfInBounds_toArray, List.set_cons_zero, List.set_cons_succ]))
              (repeat (first | (refine walkR_still (v := ?_) rfl (by decide +kernel) rfl (fun _ _ _ h => h) hE2 ?_ ?_; rotate_left; (focus (intro w' hw'; obtain ⟨f0, f1⟩ := HCr.out w' hw'; obtain ⟨q1, q2⟩ := HS.out w' hw'; go_simp; all_goals (with_reducible rfl))); simp only [Act.put, List.setIfInBounds_toArray, List.set_cons_zero, List.set_cons_succ]) | (refine walkR_skip rfl (by decide +kernel) rfl (fun _ _ _ h => h) hE2 ?_; simp only [Act.put, List.setIfInBounds_toArray, List.set_cons_zero, List.set_cons_succ])))
              (refine walkR_tail (by rfl) (by kernel_rfl) ?_; simp only [List.drop_succ_cons, List.drop_zero])
              go_wp2
              go_ret
              exact ⟨ret_bool HB.out.symm, HX1.out.trans (HX.out.trans (HA2.out.trans hE2))⟩
            · rw [hI] at HSB
              have hIb := insB_true.1 hI
              have hTb := HBd.out
              have hTw : IntKind.i64.wrap (T + L) = T + L := wrap_in (by omega) (by omega)
              clear hA
              cases k with
              | zero =>
                have HT : Hid (stepB R xs 0 = true) := HSB.out
                simp only [Nat.zero_mul, Nat.add_zero] at q1 q2
                go_wp2
                rw [← hw2]
                clear hw2 q1 q2
                have hE : Ext w2 w2.drew := Ext.drew w2
                (refine walkR_start (fun w' => Ext w2 w') 25 (by kernel_rfl) ?_; simp only [numbered, List.take_succ_cons, List.take_zero, Nat.zero_add, Nat.reduceAdd, List.length_cons, List.length_nil])
                (repeat (first | (refine walkR_still (v := ?_) rfl (by decide +kernel) rfl (fun _ _ _ h => h) hE ?_ ?_; rotate_left; (focus (intro w' hw'; obtain ⟨f0, f1⟩ := HCr.out w' hw'; obtain ⟨q1, q2⟩ := HS.out w' hw'; go_simp; all_goals (with_reducible rfl))); simp only [Act.put, List.setIfInBounds_toArray, List.set_cons_zero, List.set_cons_succ]) | (refine walkR_skip rfl (by decide +kernel) rfl (fun _ _ _ h => h) hE ?_; simp only [Act.put, List.setIfInBounds_toArray, List.set_cons_zero, List.set_cons_succ])))
                (refine walkR_only (fun w' => Ext w2 w') rfl (by decide +kernel) rfl (fun _ h => h) ?_; intro K hK; go_simp; refine (HWt.out _ hE).mono ?_; rintro e w3 ⟨rfl, hx3⟩; refine hK _ _ (hE.trans hx3) ?_; clear hK K; (try simp only [Act.put, List.setIfInBounds_toArray, List.set_cons_zero, List.set_cons_succ]))
                have hE2 := hE.trans hx3
                (repeat (first | (refine walkR_still (v := ?_) rfl (by decide +kernel) rfl (fun _ _ _ h => h) hE2 ?_ ?_; rotate_left; (focus (intro w' hw'; obtain ⟨f0, f1⟩ := HCr.out w' hw'; obtain ⟨q1, q2⟩ := HS.out w' hw'; go_simp; all_goals (with_reducible rfl))); simp only [Act.put, List.setIfInBounds_toArray, List.set_cons_zero, List.set_cons_succ]) | (refine walkR_skip rfl (by decide +kernel) rfl (fun _ _ _ h => h) hE2 ?_; simp only [Act.put, List.setIfInBounds_toArray, List.set_cons_zero, List.set_cons_succ])))
                (refine walkR_only (fun w' => Ext w2 w') rfl (by decide +kernel) rfl (fun _ h => h) ?_; intro K hK; go_simp; refine (inside_any _ _ _ _).mono ?_; rintro e w4 ⟨rfl, rfl⟩; refine hK _ _ (hE2) ?_; clear hK K; (try simp only [Act.put, List.setIfInBounds_toArray, List.set_cons_zero, List.set_cons_succ]))
                (repeat (first | (refine walkR_still (v := ?_) rfl (by decide +kernel) rfl (fun _ _ _ h => h) hE2 ?_ ?_; rotate_left; (focus (intro w' hw'; obtain ⟨f0, f1⟩ := HCr.out w' hw'; obtain ⟨q1, q2⟩ := HS.out w' hw'; go_simp; all_goals (with_reducible rfl))); simp only [Act.put, List.setIfInBounds_toArray, List.set_cons_zero, List.set_cons_succ]) | (refine walkR_skip rfl (by decide +kernel) rfl (fun _ _ _ h => h) hE2 ?_; simp only [Act.put, List.setIfInBounds_toArray, List.set_cons_zero, List.set_cons_succ])))
                (refine walkR_tail (by rfl) (by kernel_rfl) ?_; simp only [List.drop_succ_cons, List.drop_zero])
                obtain ⟨q1, q2⟩ := HS.out _ hE2
                go_wp2
                go_roundw
                case rel =>
                  refine ⟨1, by omega, fun j hj => ?_, by rw [HTn.out], by go_num, HX.out.trans (HA2.out.trans hE2)⟩
                  obtain rfl : j = 0 := by omega
                  exact HT.out
                case measure => simp [intOf]; omega
              | succ k =>
                have hk0 : (0 : Int) ≤ (k : Int) + 1 := by omega
                have hk1 : (0 : Int) < (k : Int) + 1 := by omega
                have hk2 : (k : Int) + 1 < n := by omega
                have hk3 : (k : Int) < n := by omega
                have hk4 : IntKind.i64.wrap (k : Int) = k := wrap_in (by omega) (by omega)
                obtain ⟨b', o', aV, cV, V, M, e', HV, _, hvl, hq⟩ := (G.out.below (HX.out.trans HA2.out)).way k (by omega)
                simp only [Option.some.injEq, Addr.mk.injEq, and_true] at e'
                obtain ⟨rfl, rfl⟩ := e'
                have HP := hidP hq
                clear hq
                have hVl : Hid (V.length = R) := by
                  show _ = _
                  rw [← HV.out]
                  exact stepB_way (HJ.out k (by omega))
                have HSame := hidP (fun w' (hx : Ext w2 w') => equalI_any aV aw V.length cV W.length cw V W w' (HP.out w' hx).2.2 (HQ.out w' (HA2.out.trans hx)).2.2 (by have := hVl.out; omega) (by have := hWl.out; omega))
                rw [show k + 1 - 1 = k from rfl, HV.out] at HSB
                cases hV : (V == W)
                · rw [hV] at HSame
                  have HT : Hid (stepB R xs (k + 1) = true) := by
                    show _ = _
                    rw [HSB.out]
                    simp [bne, hV]
                  clear hV HSB
                  go_wp2
                  rw [← hw2]
                  clear hw2 q1 q2
                  have hE : Ext w2 w2.drew := Ext.drew w2
                  (refine walkR_start (fun w' => Ext w2 w') 25 (by kernel_rfl) ?_; simp only [numbered, List.take_succ_cons, List.take_zero, Nat.zero_add, Nat.reduceAdd, List.length_cons, List.length_nil])
                  (repeat (first | (refine walkR_still (v := ?_) rfl (by decide +kernel) rfl (fun _ _ _ h => h) hE ?_ ?_; rotate_left; (focus (intro w' hw'; obtain ⟨f0, f1⟩ := HCr.out w' hw'; obtain ⟨q1, q2⟩ := HS.out w' hw'; obtain ⟨y1, y2, _⟩ := HP.out w' hw'; go_simp; all_goals (with_reducible rfl))); simp only [Act.put, List.setIfInBounds_toArray, List.set_cons_zero, List.set_cons_succ]) | (refine walkR_skip rfl (by decide +kernel) rfl (fun _ _ _ h => h) hE ?_; simp only [Act.put, List.setIfInBounds_toArray, List.set_cons_zero, List.set_cons_succ])))
                  (refine walkR_only (fun w' => Ext w2 w') rfl (by decide +kernel) rfl (fun _ h => h) ?_; intro K hK; go_simp; refine (HWt.out _ hE).mono ?_; rintro e w3 ⟨rfl, hx3⟩; refine hK _ _ (hE.trans hx3) ?_; clear hK K; (try simp only [Act.put, List.setIfInBounds_toArray, List.set_cons_zero, List.set_cons_succ]))
                  have hE2 := hE.trans hx3
                  (repeat (first | (refine walkR_still (v := ?_) rfl (by decide +kernel) rfl (fun _ _ _ h => h) hE2 ?_ ?_; rotate_left; (focus (intro w' hw'; obtain ⟨f0, f1⟩ := HCr.out w' hw'; obtain ⟨q1, q2⟩ := HS.out w' hw'; obtain ⟨y1, y2, _⟩ := HP.out w' hw'; go_simp; all_goals (with_reducible rfl))); simp only [Act.put, List.setIfInBounds_toArray, List.set_cons_zero, List.set_cons_succ]) | (refine walkR_skip rfl (by decide +kernel) rfl (fun _ _ _ h => h) hE2 ?_; simp only [Act.put, List.setIfInBounds_toArray, List.set_cons_zero, List.set_cons_succ])))
                  (refine walkR_only (fun w' => Ext w2 w') rfl (by decide +kernel) rfl (fun _ h => h) ?_; intro K hK; go_simp; refine (inside_any _ _ _ _).mono ?_; rintro e w4 ⟨rfl, rfl⟩; refine hK _ _ (hE2) ?_; clear hK K; (try simp only [Act.put, List.setIfInBounds_toArray, List.set_cons_zero, List.set_cons_succ]))
                  (repeat (first | (refine walkR_still (v := ?_) rfl (by decide +kernel) rfl (fun _ _ _ h => h) hE2 ?_ ?_; rotate_left; (focus (intro w' hw'; obtain ⟨f0, f1⟩ := HCr.out w' hw'; obtain ⟨q1, q2⟩ := HS.out w' hw'; obtain ⟨y1, y2, _⟩ := HP.out w' hw'; go_simp; all_goals (with_reducible rfl))); simp only [Act.put, List.setIfInBounds_toArray, List.set_cons_zero, List.set_cons_succ]) | (refine walkR_skip rfl (by decide +kernel) rfl (fun _ _ _ h => h) hE2 ?_; simp only [Act.put, List.setIfInBounds_toArray, List.set_cons_zero, List.set_cons_succ])))
                  (refine walkR_only (fun w' => Ext w2 w') rfl (by decide +kernel) rfl (fun _ h => h) ?_; intro K hK; go_simp; refine (HSame.out _ hE2).mono ?_; rintro e w5 ⟨rfl, m, rfl⟩; refine hK _ _ (hE2.trans (Ext.drewN _ _)) ?_; clear hK K; (try simp only [Act.put, List.setIfInBounds_toArray, List.set_cons_zero, List.set_cons_succ]))
                  have hE3 := hE2.trans (Ext.drewN _ m)
                  (repeat (first | (refine walkR_still (v := ?_) rfl (by decide +kernel) rfl (fun _ _ _ h => h) hE3 ?_ ?_; rotate_left; (focus (intro w' hw'; obtain ⟨f0, f1⟩ := HCr.out w' hw'; obtain ⟨q1, q2⟩ := HS.out w' hw'; obtain ⟨y1, y2, _⟩ := HP.out w' hw'; go_simp; all_goals (with_reducible rfl))); simp only [Act.put, List.setIfInBounds_toArray, List.set_cons_zero, List.set_cons_succ]) | (refine walkR_skip rfl (by decide +kernel) rfl (fun _ _ _ h => h) hE3 ?_; simp only [Act.put, List.setIfInBounds_toArray, List.set_cons_zero, List.set_cons_succ])))
                  (refine walkR_tail (by rfl) (by kernel_rfl) ?_; simp only [List.drop_succ_cons, List.drop_zero])
                  obtain ⟨q1, q2⟩ := HS.out _ hE3
                  go_wp2
                  go_roundw
                  case rel =>
                    refine ⟨k + 1 + 1, by omega, fun j hj => ?_, by rw [HTn.out], by go_num, HX.out.trans (HA2.out.trans hE3)⟩
                    rcases Nat.lt_succ_iff_lt_or_eq.1 hj with h3 | rfl
                    · exact HJ.out j h3
                    · exact HT.out
                  case measure => simp [intOf]; omega
                · rw [hV] at HSame
                  have HB := hidP (pathB_bad (r := R) (p := xs) (k + 1) (by have := L0.out; omega) (by rw [HSB.out]; simp [bne, hV]))
                  clear hV HSB
                  go_wp2
                  rw [← hw2]
                  clear hw2 q1 q2
                  have hE : Ext w2 w2.drew := Ext.drew w2
                  (refine walkR_start (fun w' => Ext w2 w') 25 (by kernel_rfl) ?_; simp only [numbered, List.take_succ_cons, List.take_zero, Nat.zero_add, Nat.reduceAdd, List.length_cons, List.length_nil])
                  (repeat (first | (refine walkR_still (v := ?_) rfl (by decide +kernel) rfl (fun _ _ _ h => h) hE ?_ ?_; rotate_left; (focus (intro w' hw'; obtain ⟨f0, f1⟩ := HCr.out w' hw'; obtain ⟨q1, q2⟩ := HS.out w' hw'; obtain ⟨y1, y2, _⟩ := HP.out w' hw'; go_simp; all_goals (with_reducible rfl))); simp only [Act.put, List.setIfInBounds_toArray, List.set_cons_zero, List.set_cons_succ]) | (refine walkR_skip rfl (by decide +kernel) rfl (fun _ _ _ h => h) hE ?_; simp only [Act.put, List.setIfInBounds_toArray, List.set_cons_zero, List.set_cons_succ])))
                  (refine walkR_only (fun w' => Ext w2 w') rfl (by decide +kernel) rfl (fun _ h => h) ?_; intro K hK; go_simp; refine (HWt.out _ hE).mono ?_; rintro e w3 ⟨rfl, hx3⟩; refine hK _ _ (hE.trans hx3) ?_; clear hK K; (try simp only [Act.put, List.setIfInBounds_toArray, List.set_cons_zero, List.set_cons_succ]))
                  have hE2 := hE.trans hx3
                  (repeat (first | (refine walkR_still (v := ?_) rfl (by decide +kernel) rfl (fun _ _ _ h => h) hE2 ?_ ?_; rotate_left; (focus (intro w' hw'; obtain ⟨f0, f1⟩ := HCr.out w' hw'; obtain ⟨q1, q2⟩ := HS.out w' hw'; obtain ⟨y1, y2, _⟩ := HP.out w' hw'; go_simp; all_goals (with_reducible rfl))); simp only [Act.put, List.setIfInBounds_toArray, List.set_cons_zero, List.set_cons_succ]) | (refine walkR_skip rfl (by decide +kernel) rfl (fun _ _ _ h => h) hE2 ?_; simp only [Act.put, List.setIfInBounds_toArray, List.set_cons_zero, List.set_cons_succ])))
                  (refine walkR_only (fun w' => Ext w2 w') rfl (by decide +kernel) rfl (fun _ h => h) ?_; intro K hK; go_simp; refine (inside_any _ _ _ _).mono ?_; rintro e w4 ⟨rfl, rfl⟩; refine hK _ _ (hE2) ?_; clear hK K; (try simp only [Act.put, List.setIfInBounds_toArray, List.set_cons_zero, List.set_cons_succ]))
                  (repeat (first | (refine walkR_still (v := ?_) rfl (by decide +kernel) rfl (fun _ _ _ h => h) hE2 ?_ ?_; rotate_left; (focus (intro w' hw'; obtain ⟨f0, f1⟩ := HCr.out w' hw'; obtain ⟨q1, q2⟩ := HS.out w' hw'; obtain ⟨y1, y2, _⟩ := HP.out w' hw'; go_simp; all_goals (with_reducible rfl))); simp only [Act.put, List.setIfInBounds_toArray, List.set_cons_zero, List.set_cons_succ]) | (refine walkR_skip rfl (by decide +kernel) rfl (fun _ _ _ h => h) hE2 ?_; simp only [Act.put, List.setIfInBounds_toArray, List.set_cons_zero, List.set_cons_succ])))
                  (refine walkR_only (fun w' => Ext w2 w') rfl (by decide +kernel) rfl (fun _ h => h) ?_; intro K hK; go_simp; refine (HSame.out _ hE2).mono ?_; rintro e w5 ⟨rfl, m, rfl⟩; refine hK _ _ (hE2.trans (Ext.drewN _ _)) ?_; clear hK K; (try simp only [Act.put, List.setIfInBounds_toArray, List.set_cons_zero, List.set_cons_succ]))
                  have hE3 := hE2.trans (Ext.drewN _ m)
                  (repeat (first | (refine walkR_still (v := ?_) rfl (by decide +kernel) rfl (fun _ _ _ h => h) hE3 ?_ ?_; rotate_left; (focus (intro w' hw'; obtain ⟨f0, f1⟩ := HCr.out w' hw'; obtain ⟨q1, q2⟩ := HS.out w' hw'; obtain ⟨y1, y2, _⟩ := HP.out w' hw'; go_simp; all_goals (with_reducible rfl))); simp only [Act.put, List.setIfInBounds_toArray, List.set_cons_zero, List.set_cons_succ]) | (refine walkR_skip rfl (by decide +kernel) rfl (fun _ _ _ h => h) hE3 ?_; simp only [Act.put, List.setIfInBounds_toArray, List.set_cons_zero, List.set_cons_succ])))
                  (refine walkR_tail (by rfl) (by kernel_rfl) ?_; simp only [List.drop_succ_cons, List.drop_zero])
                  go_wp2
                  go_ret
                  exact ⟨ret_bool HB.out.symm, HX1.out.trans (HX.out.trans (HA2.out.trans hE3))⟩
        · obtain rfl : k = n := by omega
          have HE := hidP (pathB_end (r := R) (L0.out) h60 HJ.out)
          have hbd := (timeAt_bounds (p := xs) (n := k) (fun j hj => stepB_len (HJ.out j hj)) k (Nat.le_refl k))
          obtain ⟨T, hT⟩ : ∃ T, T = timeAt xs k := ⟨_, rfl⟩
          rw [← hT] at HE hbd ⊢
          have htm : Int.tmod T 27720 = T % 27720 := Int.tmod_eq_emod_of_nonneg hbd.1
          clear hT
          by_cases hz : T % 27720 = 0
          · have HR : Hid (pathB R xs = decide (T ≤ 83160)) := by show _ = _; rw [HE.out]; simp [hz]
            go_wp2
            go_ret
            exact ⟨ret_bool HR.out.symm, HX1.out.trans HX.out⟩
          · have HR : Hid (pathB R xs = false) := by show _ = _; rw [HE.out]; simp [hz]
            have hz' : (T % 27720 == 0) = false := by simpa using hz
            go_wp2
            go_ret
            exact ⟨ret_bool HR.out.symm, HX1.out.trans HX.out⟩
    · have HB := hidP (pathB_long (r := R) (p := xs) (by have := L0.out; omega))
      have h60' : 60 < (n : Int) := by omega
      go_wp2
      go_ret
      exact ⟨ret_bool HB.out.symm, HX1.out.trans HX0.out⟩
end Go.Proofs.YtfikkfbnlegflaaGreatDoor
