/-
  FnExamples: for every code, the example algebra that it names is an algebra, known by its series.
  No condition.
-/
import Derived.Test.YthbdcclglopkiaaExK
import Derived.Test.YthbdcclglopkiaaOpn
namespace Go.Proofs.Ythbdcclglopkiaa.fnExamples
open Go.ChangeShapes Go.WideShapes Go.ChangeAt Go.RowKit
set_option linter.unusedVariables false

/-- a slice of bytes, read -/
structure BytesAt (w : World) (a : Option Addr) (n : Nat) (bs : List Int) : Prop where
  len : bs.length = n
  get : ∀ i, i < n → ∃ b o, a = some ⟨b, o, none⟩ ∧ w.cell? ⟨b, o + i, none⟩ = some (.int .u8 (bs.getD i 0)) ∧ 0 ≤ bs.getD i 0 ∧ bs.getD i 0 ≤ 255
theorem bytes_in {H : Type} {enc : TypeId × Value → H} {P : Program} {w : World} {base : Nat} {spare : Nat → Bool} {held : Bool} {t e : TypeId} {fuel : Nat} {cs : List Value} {x : DataW H × List MemPlace} (ht : P.underlying t = some (.slice e)) (he : P.underlying e = some (.int .u8)) (hc : P.cellsOf e = 1)
    (h : DataW.trod enc P w base spare held fuel t cs = some x) : ∃ ao n c xs, cs = [.slice ao n c] ∧ BytesAt w ao n xs ∧ n ≤ 9223372036854775807 := by
  rcases open_ints ht he hc h with ⟨rfl, _⟩ | ⟨a, len, cap, zs, rfl, _, hl, hm, hz, _, hcell, hwf⟩
  · exact ⟨none, 0, 0, [], rfl, ⟨rfl, fun i h => by omega⟩, by omega⟩
  · have hlen : len ≤ zs.length := by rw [hz]; split <;> omega
    refine ⟨some a, len, cap, zs.take len, rfl, ⟨by simp [hlen], fun i hi => ?_⟩, by unfold maxLen at hm; omega⟩
    have h0 := plain_of_cell (hcell 0 (by omega))
    have hi' := hcell i (by omega)
    rw [h0, add_plain] at hi'
    have e1 : (zs.take len).getD i 0 = zs.getD i 0 := by simp [List.getD_eq_getElem?_getD, hi]
    refine ⟨_, _, congrArg some h0, by rw [hi', e1], ?_⟩
    have hmem : (zs.take len).getD i 0 ∈ zs := by
      simp only [List.getD_eq_getElem?_getD, List.getElem?_take, hi, if_true]
      rw [List.getElem?_eq_getElem (by omega)]
      exact List.getElem_mem _
    have := hwf _ hmem
    simpa [Lit.wf, IntKind.min, IntKind.max, IntKind.signed, IntKind.bits] using this
def AtSays (w : World) (e : Ending) (w' : World) : Prop := ∃ v : Nat, v ≤ 255 ∧ e = .returned (.int .i64 v) ∧ w = w'
theorem at0_any (a : Option Addr) (n c i : Nat) (bs : List Int) (w : World) (h : BytesAt w a n bs) (hn : n ≤ 1048576) (hi : i ≤ 100) :
    Calls Try.prog 13 #[.slice a n c, .int .i64 i] w (AtSays w) := by
  by_cases hlt : i < n
  · obtain ⟨b, o, rfl, q, h0, h1⟩ := h.get i hlt
    generalize bs.getD i 0 = x at *
    obtain ⟨v, rfl⟩ := Int.eq_ofNat_of_zero_le h0
    have hv : v ≤ 255 := by omega
    clear h
    go_enter Try.func13, Try.ntmps13
    go_wp2
    go_ret
    exact ⟨v, hv, by first | rfl | (congr 2; unfold wrap64; omega), rfl⟩
  · clear h
    have hm0 : 0 ≤ ((i : Int) * 7 + n) % 256 := Int.emod_nonneg _ (by omega)
    have hm1 : ((i : Int) * 7 + n) % 256 < 256 := Int.emod_lt_of_pos _ (by omega)
    obtain ⟨v, hv⟩ := Int.eq_ofNat_of_zero_le hm0
    have HV := hidP hv
    clear hv
    go_enter Try.func13, Try.ntmps13
    go_wp2
    go_ret
    exact ⟨v, by have := HV.out; omega, by first | exact rfl | (rw [HV.out]; exact rfl), rfl⟩

theorem big_any (a : Option Addr) (n c : Nat) (w : World) : Calls Try.prog 12 #[.slice a n c] w fun e w' => e = .returned (.bool (decide (1048576 < n))) ∧ w = w' := by
  have hb : decide ((1048576 : Int) < (n : Int)) = decide (1048576 < n) := by
    rw [decide_eq_decide]
    omega
  have HB := hidP hb
  clear hb
  go_enter Try.func12, Try.ntmps12
  go_wp2
  go_ret
  exact ⟨ret_bool (by first | exact HB.out | rfl), rfl⟩

theorem alg_small {p : Int} {d : Nat} {t : List Int} {n : Nat} (h : algB p d t = true) (hl : t.length = n) : n ≤ 1000000000000 := by
  obtain ⟨hh, _⟩ := algB_true.1 h
  obtain ⟨_, h0, h1, h2, _⟩ := headB_true hh
  have := (cube_le h0 h1).2.2.2
  omega
set_option maxHeartbeats 20000000 in
theorem walk (a : Option Addr) (n c : Nat) (bs : List Int) (w : World) (h : BytesAt w a n bs) (hnn : n ≤ 9223372036854775807) :
    Calls Try.prog 4 #[.slice a n c] w fun e w' => e = .returned (.bool true) ∧ Ext w w' := by
  by_cases hbig : 1048576 < n
  · have hb : decide (1048576 < n) = true := by simpa using hbig
    have HB := hidP (big_any a n c w)
    rw [hb] at HB
    clear h hb
    go_enter Try.func4, Try.ntmps4
    go_wp2_with (go_at_call 12; refine HB.out.mono ?_; rintro e w' ⟨rfl, rfl⟩)
    go_ret
    exact ⟨rfl, Ext.refl _⟩
  · have hb : decide (1048576 < n) = false := by simpa using hbig
    have HB := hidP (big_any a n c w)
    rw [hb] at HB
    have HA := hidP (fun w' i (hx : BytesAt w' a n bs) hi => at0_any a n c i bs w' hx (by omega) hi)
    have HX := hidP (fun w' (hx : Ext w w') => (⟨h.len, fun i hi => by obtain ⟨b, o, e, q, r⟩ := h.get i hi; exact ⟨b, o, e, (hx.cell (p := ⟨b, o + i, none⟩) (World.block_lt_of_cell? w _ q)).trans q, r⟩⟩ : BytesAt w' a n bs))
    clear h hb
    go_enter Try.func4, Try.ntmps4
    go_wp2_with (go_at_call 12; refine HB.out.mono ?_; rintro e w' ⟨rfl, rfl⟩)
    have HA0 := hidP (HA.out w 0 (HX.out w (Ext.refl _)) (by omega))
    refine HA0.out.mono ?_
    rintro e w' ⟨v0, hv0, rfl, rfl⟩
    obtain ⟨k, hk⟩ : ∃ k, v0 % 11 = k := ⟨_, rfl⟩
    have hk1 : k < 11 := by omega
    have e0 : (v0 : Int) % 11 = (k : Int) := by omega
    clear hk
    have HW2 := hidP (Ext.alloc w (.cells #[.int .i64 2, .int .i64 3, .int .i64 5, .int .i64 7, .int .i64 101, .int .i64 6] 3))
    have HA1 := hidP (HA.out (w.alloc (.cells #[.int .i64 2, .int .i64 3, .int .i64 5, .int .i64 7, .int .i64 101, .int .i64 6] 3)) 1 (HX.out _ HW2.out) (by omega))
    go_wp2_with fail
    refine HA1.out.mono ?_
    rintro e w' ⟨v1, hv1, rfl, rfl⟩
    obtain ⟨j, hj⟩ : ∃ j, v1 % 6 = j := ⟨_, rfl⟩
    have hj1 : j < 6 := by omega
    have e1 : (v1 : Int) % 6 = (j : Int) := by omega
    clear hj
    have hj2 : j = 0 ∨ j = 1 ∨ j = 2 ∨ j = 3 ∨ j = 4 ∨ j = 5 := by omega
    have hw2 := HW2.out
    obtain ⟨w2, hw2e⟩ : ∃ w2, w2 = w.alloc (.cells #[.int .i64 2, .int .i64 3, .int .i64 5, .int .i64 7, .int .i64 101, .int .i64 6] 3) := ⟨_, rfl⟩
    by_cases hk9 : k ≤ 9
    · have hgood : ∀ p : Int, (p = 2 ∨ p = 3 ∨ p = 5 ∨ p = 7 ∨ p = 101) → ∀ w', Calls Try.prog 8 #[.int .i64 k, .int .i64 p] w' fun e w'' => ∃ a n, e = .returned (.tuple #[algV p (exDim k) a n n, .bool true]) ∧ OwnI w'' w'.heap.size a n n (exTab k p) ∧ Ext w' w'' := fun p hp w' =>
        exampleAlgebra_ok k (by omega) p (by rcases hp with rfl | rfl | rfl | rfl | rfl <;> decide +kernel) w'
      have HG := hidP hgood
      have HK := hidP (fun p hp => exOk k hk9 p hp)
      have HBAD := hidP (fun w' => exampleAlgebra_any k 6 w')
      have HE6 : Hid (exData k 6 = ⟨0, 0, [], false⟩) := exData_bad (by rintro ⟨h, _⟩; exact absurd h (by decide +kernel))
      clear hgood hw2 hw2e
      have hk8 := hk9
      rcases hj2 with rfl | rfl | rfl | rfl | rfl | rfl
      all_goals go_wp2_with fail
      · have HKP := hidP (HK.out 2 (by omega))
        refine (HG.out 2 (by omega) _).mono ?_
        rintro e w1 ⟨aA, nA, rfl, hoA, hx1⟩
        have HOA := hidP hoA
        have HX1 := hidP (HW2.out.trans hx1)
        clear hoA hx1
        obtain ⟨hal, ⟨ml, hml, hcl, hll⟩, ⟨md, hmd, hcd, hdd⟩, huu⟩ := HKP.out
        have HAL := hidP hal
        have HCL := hidP hcl
        have HCD := hidP hcd
        have HDD := hidP hdd
        have HUU := hidP huu
        have HLL := hidP hll
        clear hal hcl hcd hdd huu hll
        have hkc : k = 0 ∨ k = 1 ∨ k = 2 ∨ k = 3 ∨ k = 4 ∨ k = 5 ∨ k = 6 ∨ k = 7 ∨ k = 8 ∨ k = 9 := by omega
        have HNA := hidP (alg_small HAL.out HOA.out.len)
        have hxa := Ext.alloc w1 (.cells #[.int .i64 2, .int .i64 (exDim k : Int), .slice aA nA nA] 24)
        have HAA := hidP (AlgAt.new w1 _ rfl 2 (exDim k) aA nA nA 24)
        have HXA := hidP (HX1.out.trans hxa)
        have HOA2 := hidP (HOA.out.below hxa)
        obtain ⟨wA, hwA⟩ : ∃ wA, wA = w1.alloc (.cells #[.int .i64 2, .int .i64 (exDim k : Int), .slice aA nA nA] 24) := ⟨_, rfl⟩
        have HWA := hidP hwA
        rw [← hwA] at HAA HXA HOA2
        clear hwA hxa
        have HF := hidP (fun w' (hx' : Ext wA w') => (⟨(HAA.out.below hx').c0, (HAA.out.below hx').c1, (HAA.out.below hx').c2⟩ : _ ∧ _ ∧ _))
        have HOK := hidP (fun w' (hx' : Ext wA w') => algebraOk_any 2 (exDim k) aA nA nA (exTab k 2) w' (HOA2.out.below hx').ints (Nat.le_refl _) HNA.out)
        have HCO := hidP (fun w' (hx' : Ext wA w') => classOf_ok 2 (exDim k) ml aA nA nA (exTab k 2) w' (HOA2.out.below hx').ints (Nat.le_refl _) HNA.out HAL.out hml HCL.out)
        have HSO := hidP (fun w' (hx' : Ext wA w') => isSolvable_ok 2 (exDim k) md aA nA nA (exTab k 2) w' (HOA2.out.below hx').ints (Nat.le_refl _) HNA.out HAL.out hmd HCD.out)
        have HUN := hidP (fun w' (hx' : Ext wA w') => isUnimodular_ok 2 (exDim k) aA nA nA (exTab k 2) w' (HOA2.out.below hx').ints (Nat.le_refl _) HNA.out HAL.out)
        rw [HAL.out] at HOK
        generalize classOf 2 (exTab k 2) (exDim k) ml = cls at *
        generalize uniB 2 (exTab k 2) (exDim k) = ub at *
        generalize decide ((iterL (derF 2 (exTab k 2) (exDim k)) (allL (exDim k)) md).length = 0) = sb at *
        have hll := HLL.out
        clear HAL HCL HCD HLL HKP HOA HG HK HBAD HE6
        rcases hkc with rfl | rfl | rfl | rfl | rfl | rfl | rfl | rfl | rfl | rfl
        all_goals
          simp only [nilB, solB] at hll HDD HUU
          have hcl : decide (0 ≤ cls) = _ := hll
          simp at hcl
          clear hll
          have hub := HUU.out
          first | (simp at hub; subst hub) | (simp at hub)
          go_wp2_with fail
          rw [← HWA.out]
          refine (HOK.out wA (Ext.refl _)).mono ?_
          rintro e w4 ⟨rfl, hx4⟩
          have HX4 := hidP hx4
          clear hx4
          obtain ⟨f0, f1, f2⟩ := HF.out w4 HX4.out
          go_wp2_with fail
          refine (HCO.out w4 HX4.out).mono ?_
          rintro e w5 ⟨rfl, hx5⟩
          have HX5 := hidP (HX4.out.trans hx5)
          clear hx5 f0 f1 f2
          obtain ⟨f0, f1, f2⟩ := HF.out w5 HX5.out
          go_wp2_with fail
          first
            | (go_ret
               exact ⟨by first | exact rfl | exact ret_bool (by simp; omega), HXA.out.trans HX5.out⟩)
            | (refine (HUN.out _ HX5.out).mono ?_
               rintro e w7 ⟨rfl, hx7⟩
               have HX7 := hidP (HX5.out.trans hx7)
               clear hx7 f0 f1 f2
               go_wp2
               go_ret
               exact ⟨rfl, HXA.out.trans HX7.out⟩)
      · have HKP := hidP (HK.out 3 (by omega))
        refine (HG.out 3 (by omega) _).mono ?_
        rintro e w1 ⟨aA, nA, rfl, hoA, hx1⟩
        have HOA := hidP hoA
        have HX1 := hidP (HW2.out.trans hx1)
        clear hoA hx1
        obtain ⟨hal, ⟨ml, hml, hcl, hll⟩, ⟨md, hmd, hcd, hdd⟩, huu⟩ := HKP.out
        have HAL := hidP hal
        have HCL := hidP hcl
        have HCD := hidP hcd
        have HDD := hidP hdd
        have HUU := hidP huu
        have HLL := hidP hll
        clear hal hcl hcd hdd huu hll
        have hkc : k = 0 ∨ k = 1 ∨ k = 2 ∨ k = 3 ∨ k = 4 ∨ k = 5 ∨ k = 6 ∨ k = 7 ∨ k = 8 ∨ k = 9 := by omega
        have HNA := hidP (alg_small HAL.out HOA.out.len)
        have hxa := Ext.alloc w1 (.cells #[.int .i64 3, .int .i64 (exDim k : Int), .slice aA nA nA] 24)
        have HAA := hidP (AlgAt.new w1 _ rfl 3 (exDim k) aA nA nA 24)
        have HXA := hidP (HX1.out.trans hxa)
        have HOA2 := hidP (HOA.out.below hxa)
        obtain ⟨wA, hwA⟩ : ∃ wA, wA = w1.alloc (.cells #[.int .i64 3, .int .i64 (exDim k : Int), .slice aA nA nA] 24) := ⟨_, rfl⟩
        have HWA := hidP hwA
        rw [← hwA] at HAA HXA HOA2
        clear hwA hxa
        have HF := hidP (fun w' (hx' : Ext wA w') => (⟨(HAA.out.below hx').c0, (HAA.out.below hx').c1, (HAA.out.below hx').c2⟩ : _ ∧ _ ∧ _))
        have HOK := hidP (fun w' (hx' : Ext wA w') => algebraOk_any 3 (exDim k) aA nA nA (exTab k 3) w' (HOA2.out.below hx').ints (Nat.le_refl _) HNA.out)
        have HCO := hidP (fun w' (hx' : Ext wA w') => classOf_ok 3 (exDim k) ml aA nA nA (exTab k 3) w' (HOA2.out.below hx').ints (Nat.le_refl _) HNA.out HAL.out hml HCL.out)
        have HSO := hidP (fun w' (hx' : Ext wA w') => isSolvable_ok 3 (exDim k) md aA nA nA (exTab k 3) w' (HOA2.out.below hx').ints (Nat.le_refl _) HNA.out HAL.out hmd HCD.out)
        have HUN := hidP (fun w' (hx' : Ext wA w') => isUnimodular_ok 3 (exDim k) aA nA nA (exTab k 3) w' (HOA2.out.below hx').ints (Nat.le_refl _) HNA.out HAL.out)
        rw [HAL.out] at HOK
        generalize classOf 3 (exTab k 3) (exDim k) ml = cls at *
        generalize uniB 3 (exTab k 3) (exDim k) = ub at *
        generalize decide ((iterL (derF 3 (exTab k 3) (exDim k)) (allL (exDim k)) md).length = 0) = sb at *
        have hll := HLL.out
        clear HAL HCL HCD HLL HKP HOA HG HK HBAD HE6
        rcases hkc with rfl | rfl | rfl | rfl | rfl | rfl | rfl | rfl | rfl | rfl
        all_goals
          simp only [nilB, solB] at hll HDD HUU
          have hcl : decide (0 ≤ cls) = _ := hll
          simp at hcl
          clear hll
          have hsb := HDD.out (by omega)
          simp at hsb
          subst hsb
          have hub := HUU.out
          first | (simp at hub; subst hub) | (simp at hub)
          go_wp2_with fail
          rw [← HWA.out]
          refine (HOK.out wA (Ext.refl _)).mono ?_
          rintro e w4 ⟨rfl, hx4⟩
          have HX4 := hidP hx4
          clear hx4
          obtain ⟨f0, f1, f2⟩ := HF.out w4 HX4.out
          go_wp2_with fail
          refine (HCO.out w4 HX4.out).mono ?_
          rintro e w5 ⟨rfl, hx5⟩
          have HX5 := hidP (HX4.out.trans hx5)
          clear hx5 f0 f1 f2
          obtain ⟨f0, f1, f2⟩ := HF.out w5 HX5.out
          go_wp2_with fail
          refine (HSO.out _ HX5.out).mono ?_
          rintro e w6 ⟨rfl, hx6⟩
          have HX6 := hidP (HX5.out.trans hx6)
          clear hx6 f0 f1 f2
          obtain ⟨f0, f1, f2⟩ := HF.out w6 HX6.out
          go_wp2_with fail
          first
            | (go_ret
               exact ⟨by first | exact rfl | exact ret_bool (by simp; omega), HXA.out.trans HX6.out⟩)
            | (refine (HUN.out _ HX6.out).mono ?_
               rintro e w7 ⟨rfl, hx7⟩
               have HX7 := hidP (HX6.out.trans hx7)
               clear hx7 f0 f1 f2
               go_wp2
               go_ret
               exact ⟨rfl, HXA.out.trans HX7.out⟩)
      · have HKP := hidP (HK.out 5 (by omega))
        refine (HG.out 5 (by omega) _).mono ?_
        rintro e w1 ⟨aA, nA, rfl, hoA, hx1⟩
        have HOA := hidP hoA
        have HX1 := hidP (HW2.out.trans hx1)
        clear hoA hx1
        obtain ⟨hal, ⟨ml, hml, hcl, hll⟩, ⟨md, hmd, hcd, hdd⟩, huu⟩ := HKP.out
        have HAL := hidP hal
        have HCL := hidP hcl
        have HCD := hidP hcd
        have HDD := hidP hdd
        have HUU := hidP huu
        have HLL := hidP hll
        clear hal hcl hcd hdd huu hll
        have hkc : k = 0 ∨ k = 1 ∨ k = 2 ∨ k = 3 ∨ k = 4 ∨ k = 5 ∨ k = 6 ∨ k = 7 ∨ k = 8 ∨ k = 9 := by omega
        have HNA := hidP (alg_small HAL.out HOA.out.len)
        have hxa := Ext.alloc w1 (.cells #[.int .i64 5, .int .i64 (exDim k : Int), .slice aA nA nA] 24)
        have HAA := hidP (AlgAt.new w1 _ rfl 5 (exDim k) aA nA nA 24)
        have HXA := hidP (HX1.out.trans hxa)
        have HOA2 := hidP (HOA.out.below hxa)
        obtain ⟨wA, hwA⟩ : ∃ wA, wA = w1.alloc (.cells #[.int .i64 5, .int .i64 (exDim k : Int), .slice aA nA nA] 24) := ⟨_, rfl⟩
        have HWA := hidP hwA
        rw [← hwA] at HAA HXA HOA2
        clear hwA hxa
        have HF := hidP (fun w' (hx' : Ext wA w') => (⟨(HAA.out.below hx').c0, (HAA.out.below hx').c1, (HAA.out.below hx').c2⟩ : _ ∧ _ ∧ _))
        have HOK := hidP (fun w' (hx' : Ext wA w') => algebraOk_any 5 (exDim k) aA nA nA (exTab k 5) w' (HOA2.out.below hx').ints (Nat.le_refl _) HNA.out)
        have HCO := hidP (fun w' (hx' : Ext wA w') => classOf_ok 5 (exDim k) ml aA nA nA (exTab k 5) w' (HOA2.out.below hx').ints (Nat.le_refl _) HNA.out HAL.out hml HCL.out)
        have HSO := hidP (fun w' (hx' : Ext wA w') => isSolvable_ok 5 (exDim k) md aA nA nA (exTab k 5) w' (HOA2.out.below hx').ints (Nat.le_refl _) HNA.out HAL.out hmd HCD.out)
        have HUN := hidP (fun w' (hx' : Ext wA w') => isUnimodular_ok 5 (exDim k) aA nA nA (exTab k 5) w' (HOA2.out.below hx').ints (Nat.le_refl _) HNA.out HAL.out)
        rw [HAL.out] at HOK
        generalize classOf 5 (exTab k 5) (exDim k) ml = cls at *
        generalize uniB 5 (exTab k 5) (exDim k) = ub at *
        generalize decide ((iterL (derF 5 (exTab k 5) (exDim k)) (allL (exDim k)) md).length = 0) = sb at *
        have hll := HLL.out
        clear HAL HCL HCD HLL HKP HOA HG HK HBAD HE6
        rcases hkc with rfl | rfl | rfl | rfl | rfl | rfl | rfl | rfl | rfl | rfl
        all_goals
          simp only [nilB, solB] at hll HDD HUU
          have hcl : decide (0 ≤ cls) = _ := hll
          simp at hcl
          clear hll
          have hsb := HDD.out (by omega)
          simp at hsb
          subst hsb
          have hub := HUU.out
          first | (simp at hub; subst hub) | (simp at hub)
          go_wp2_with fail
          rw [← HWA.out]
          refine (HOK.out wA (Ext.refl _)).mono ?_
          rintro e w4 ⟨rfl, hx4⟩
          have HX4 := hidP hx4
          clear hx4
          obtain ⟨f0, f1, f2⟩ := HF.out w4 HX4.out
          go_wp2_with fail
          refine (HCO.out w4 HX4.out).mono ?_
          rintro e w5 ⟨rfl, hx5⟩
          have HX5 := hidP (HX4.out.trans hx5)
          clear hx5 f0 f1 f2
          obtain ⟨f0, f1, f2⟩ := HF.out w5 HX5.out
          go_wp2_with fail
          refine (HSO.out _ HX5.out).mono ?_
          rintro e w6 ⟨rfl, hx6⟩
          have HX6 := hidP (HX5.out.trans hx6)
          clear hx6 f0 f1 f2
          obtain ⟨f0, f1, f2⟩ := HF.out w6 HX6.out
          go_wp2_with fail
          first
            | (go_ret
               exact ⟨by first | exact rfl | exact ret_bool (by simp; omega), HXA.out.trans HX6.out⟩)
            | (refine (HUN.out _ HX6.out).mono ?_
               rintro e w7 ⟨rfl, hx7⟩
               have HX7 := hidP (HX6.out.trans hx7)
               clear hx7 f0 f1 f2
               go_wp2
               go_ret
               exact ⟨rfl, HXA.out.trans HX7.out⟩)
      · have HKP := hidP (HK.out 7 (by omega))
        refine (HG.out 7 (by omega) _).mono ?_
        rintro e w1 ⟨aA, nA, rfl, hoA, hx1⟩
        have HOA := hidP hoA
        have HX1 := hidP (HW2.out.trans hx1)
        clear hoA hx1
        obtain ⟨hal, ⟨ml, hml, hcl, hll⟩, ⟨md, hmd, hcd, hdd⟩, huu⟩ := HKP.out
        have HAL := hidP hal
        have HCL := hidP hcl
        have HCD := hidP hcd
        have HDD := hidP hdd
        have HUU := hidP huu
        have HLL := hidP hll
        clear hal hcl hcd hdd huu hll
        have hkc : k = 0 ∨ k = 1 ∨ k = 2 ∨ k = 3 ∨ k = 4 ∨ k = 5 ∨ k = 6 ∨ k = 7 ∨ k = 8 ∨ k = 9 := by omega
        have HNA := hidP (alg_small HAL.out HOA.out.len)
        have hxa := Ext.alloc w1 (.cells #[.int .i64 7, .int .i64 (exDim k : Int), .slice aA nA nA] 24)
        have HAA := hidP (AlgAt.new w1 _ rfl 7 (exDim k) aA nA nA 24)
        have HXA := hidP (HX1.out.trans hxa)
        have HOA2 := hidP (HOA.out.below hxa)
        obtain ⟨wA, hwA⟩ : ∃ wA, wA = w1.alloc (.cells #[.int .i64 7, .int .i64 (exDim k : Int), .slice aA nA nA] 24) := ⟨_, rfl⟩
        have HWA := hidP hwA
        rw [← hwA] at HAA HXA HOA2
        clear hwA hxa
        have HF := hidP (fun w' (hx' : Ext wA w') => (⟨(HAA.out.below hx').c0, (HAA.out.below hx').c1, (HAA.out.below hx').c2⟩ : _ ∧ _ ∧ _))
        have HOK := hidP (fun w' (hx' : Ext wA w') => algebraOk_any 7 (exDim k) aA nA nA (exTab k 7) w' (HOA2.out.below hx').ints (Nat.le_refl _) HNA.out)
        have HCO := hidP (fun w' (hx' : Ext wA w') => classOf_ok 7 (exDim k) ml aA nA nA (exTab k 7) w' (HOA2.out.below hx').ints (Nat.le_refl _) HNA.out HAL.out hml HCL.out)
        have HSO := hidP (fun w' (hx' : Ext wA w') => isSolvable_ok 7 (exDim k) md aA nA nA (exTab k 7) w' (HOA2.out.below hx').ints (Nat.le_refl _) HNA.out HAL.out hmd HCD.out)
        have HUN := hidP (fun w' (hx' : Ext wA w') => isUnimodular_ok 7 (exDim k) aA nA nA (exTab k 7) w' (HOA2.out.below hx').ints (Nat.le_refl _) HNA.out HAL.out)
        rw [HAL.out] at HOK
        generalize classOf 7 (exTab k 7) (exDim k) ml = cls at *
        generalize uniB 7 (exTab k 7) (exDim k) = ub at *
        generalize decide ((iterL (derF 7 (exTab k 7) (exDim k)) (allL (exDim k)) md).length = 0) = sb at *
        have hll := HLL.out
        clear HAL HCL HCD HLL HKP HOA HG HK HBAD HE6
        rcases hkc with rfl | rfl | rfl | rfl | rfl | rfl | rfl | rfl | rfl | rfl
        all_goals
          simp only [nilB, solB] at hll HDD HUU
          have hcl : decide (0 ≤ cls) = _ := hll
          simp at hcl
          clear hll
          have hsb := HDD.out (by omega)
          simp at hsb
          subst hsb
          have hub := HUU.out
          first | (simp at hub; subst hub) | (simp at hub)
          go_wp2_with fail
          rw [← HWA.out]
          refine (HOK.out wA (Ext.refl _)).mono ?_
          rintro e w4 ⟨rfl, hx4⟩
          have HX4 := hidP hx4
          clear hx4
          obtain ⟨f0, f1, f2⟩ := HF.out w4 HX4.out
          go_wp2_with fail
          refine (HCO.out w4 HX4.out).mono ?_
          rintro e w5 ⟨rfl, hx5⟩
          have HX5 := hidP (HX4.out.trans hx5)
          clear hx5 f0 f1 f2
          obtain ⟨f0, f1, f2⟩ := HF.out w5 HX5.out
          go_wp2_with fail
          refine (HSO.out _ HX5.out).mono ?_
          rintro e w6 ⟨rfl, hx6⟩
          have HX6 := hidP (HX5.out.trans hx6)
          clear hx6 f0 f1 f2
          obtain ⟨f0, f1, f2⟩ := HF.out w6 HX6.out
          go_wp2_with fail
          first
            | (go_ret
               exact ⟨by first | exact rfl | exact ret_bool (by simp; omega), HXA.out.trans HX6.out⟩)
            | (refine (HUN.out _ HX6.out).mono ?_
               rintro e w7 ⟨rfl, hx7⟩
               have HX7 := hidP (HX6.out.trans hx7)
               clear hx7 f0 f1 f2
               go_wp2
               go_ret
               exact ⟨rfl, HXA.out.trans HX7.out⟩)
      · have HKP := hidP (HK.out 101 (by omega))
        refine (HG.out 101 (by omega) _).mono ?_
        rintro e w1 ⟨aA, nA, rfl, hoA, hx1⟩
        have HOA := hidP hoA
        have HX1 := hidP (HW2.out.trans hx1)
        clear hoA hx1
        obtain ⟨hal, ⟨ml, hml, hcl, hll⟩, ⟨md, hmd, hcd, hdd⟩, huu⟩ := HKP.out
        have HAL := hidP hal
        have HCL := hidP hcl
        have HCD := hidP hcd
        have HDD := hidP hdd
        have HUU := hidP huu
        have HLL := hidP hll
        clear hal hcl hcd hdd huu hll
        have hkc : k = 0 ∨ k = 1 ∨ k = 2 ∨ k = 3 ∨ k = 4 ∨ k = 5 ∨ k = 6 ∨ k = 7 ∨ k = 8 ∨ k = 9 := by omega
        have HNA := hidP (alg_small HAL.out HOA.out.len)
        have hxa := Ext.alloc w1 (.cells #[.int .i64 101, .int .i64 (exDim k : Int), .slice aA nA nA] 24)
        have HAA := hidP (AlgAt.new w1 _ rfl 101 (exDim k) aA nA nA 24)
        have HXA := hidP (HX1.out.trans hxa)
        have HOA2 := hidP (HOA.out.below hxa)
        obtain ⟨wA, hwA⟩ : ∃ wA, wA = w1.alloc (.cells #[.int .i64 101, .int .i64 (exDim k : Int), .slice aA nA nA] 24) := ⟨_, rfl⟩
        have HWA := hidP hwA
        rw [← hwA] at HAA HXA HOA2
        clear hwA hxa
        have HF := hidP (fun w' (hx' : Ext wA w') => (⟨(HAA.out.below hx').c0, (HAA.out.below hx').c1, (HAA.out.below hx').c2⟩ : _ ∧ _ ∧ _))
        have HOK := hidP (fun w' (hx' : Ext wA w') => algebraOk_any 101 (exDim k) aA nA nA (exTab k 101) w' (HOA2.out.below hx').ints (Nat.le_refl _) HNA.out)
        have HCO := hidP (fun w' (hx' : Ext wA w') => classOf_ok 101 (exDim k) ml aA nA nA (exTab k 101) w' (HOA2.out.below hx').ints (Nat.le_refl _) HNA.out HAL.out hml HCL.out)
        have HSO := hidP (fun w' (hx' : Ext wA w') => isSolvable_ok 101 (exDim k) md aA nA nA (exTab k 101) w' (HOA2.out.below hx').ints (Nat.le_refl _) HNA.out HAL.out hmd HCD.out)
        have HUN := hidP (fun w' (hx' : Ext wA w') => isUnimodular_ok 101 (exDim k) aA nA nA (exTab k 101) w' (HOA2.out.below hx').ints (Nat.le_refl _) HNA.out HAL.out)
        rw [HAL.out] at HOK
        generalize classOf 101 (exTab k 101) (exDim k) ml = cls at *
        generalize uniB 101 (exTab k 101) (exDim k) = ub at *
        generalize decide ((iterL (derF 101 (exTab k 101) (exDim k)) (allL (exDim k)) md).length = 0) = sb at *
        have hll := HLL.out
        clear HAL HCL HCD HLL HKP HOA HG HK HBAD HE6
        rcases hkc with rfl | rfl | rfl | rfl | rfl | rfl | rfl | rfl | rfl | rfl
        all_goals
          simp only [nilB, solB] at hll HDD HUU
          have hcl : decide (0 ≤ cls) = _ := hll
          simp at hcl
          clear hll
          have hsb := HDD.out (by omega)
          simp at hsb
          subst hsb
          have hub := HUU.out
          first | (simp at hub; subst hub) | (simp at hub)
          go_wp2_with fail
          rw [← HWA.out]
          refine (HOK.out wA (Ext.refl _)).mono ?_
          rintro e w4 ⟨rfl, hx4⟩
          have HX4 := hidP hx4
          clear hx4
          obtain ⟨f0, f1, f2⟩ := HF.out w4 HX4.out
          go_wp2_with fail
          refine (HCO.out w4 HX4.out).mono ?_
          rintro e w5 ⟨rfl, hx5⟩
          have HX5 := hidP (HX4.out.trans hx5)
          clear hx5 f0 f1 f2
          obtain ⟨f0, f1, f2⟩ := HF.out w5 HX5.out
          go_wp2_with fail
          refine (HSO.out _ HX5.out).mono ?_
          rintro e w6 ⟨rfl, hx6⟩
          have HX6 := hidP (HX5.out.trans hx6)
          clear hx6 f0 f1 f2
          obtain ⟨f0, f1, f2⟩ := HF.out w6 HX6.out
          go_wp2_with fail
          first
            | (go_ret
               exact ⟨by first | exact rfl | exact ret_bool (by simp; omega), HXA.out.trans HX6.out⟩)
            | (refine (HUN.out _ HX6.out).mono ?_
               rintro e w7 ⟨rfl, hx7⟩
               have HX7 := hidP (HX6.out.trans hx7)
               clear hx7 f0 f1 f2
               go_wp2
               go_ret
               exact ⟨rfl, HXA.out.trans HX7.out⟩)
      · refine (HBAD.out _).mono ?_
        rintro e w1 ⟨aA, nA, cA, rfl, _, hx1⟩
        have HX1 := hidP (HW2.out.trans hx1)
        clear hx1
        rw [HE6.out]
        go_wp2
        go_ret
        exact ⟨rfl, HX1.out.trans (Ext.alloc _ _)⟩
    · have HBAD := hidP (fun p w' => exampleAlgebra_any k p w')
      have HE10 : Hid (∀ p, exData k p = ⟨0, 0, [], false⟩) := fun p => exData_bad (by rintro ⟨_, h⟩; have := insB_true.1 h; omega)
      have hk10 : ¬ (k : Int) ≤ 9 := by omega
      clear hw2 hw2e
      rcases hj2 with rfl | rfl | rfl | rfl | rfl | rfl
      all_goals
        go_wp2_with fail
        refine (HBAD.out _ _).mono ?_
        rintro e w1 ⟨aA, nA, cA, rfl, _, hx1⟩
        have HX1 := hidP (HW2.out.trans hx1)
        clear hx1
        rw [HE10.out]
        go_wp2
        go_ret
        exact ⟨rfl, HX1.out.trans (Ext.alloc _ _)⟩

theorem own : ownKnob Try.prog.godebug = none := by kernel_rfl
theorem laidOut : laidOutB Try.prog = true := by kernel_rfl
/-! ### THE ROW's STEP -/
set_option maxRecDepth 100000 in
theorem lifted (os : Os) (started : os.Started) (H : Type) (enc : TypeId × Value → H) :
    ReturnsInHanded {} Try.checked os 4 .any (Rows.fnExamplesSpec.pre6 enc Try.prog Try.f4 Rows.fnExamplesRow.domain false) (Rows.fnExamplesSpec.post enc Try.prog Try.f4 false true false false) := by
  refine returnsInHanded_of_change (C := Try.checked) own started (by kernel_rfl) Try.func4
    (ChangeSpec.witness6 (enc := enc) (C := Try.checked) false ⟨#[], #[.slice none 0 0], []⟩ 8 (by kernel_rfl) (by kernel_rfl) (by kernel_rfl) (by kernel_rfl)) ?_
  intro W base args ds gs before hval0 hW hcnd _
  have hval : ∀ (j : Nat) t v, Try.f4.params[j]? = some t → args[j]? = some v → Value.okWide Try.prog W .any base t v := hval0
  have hW' := hW
  obtain ⟨p, q, hA0, hV, rfl, hfz, hnd⟩ := hW
  have hA : DataW.TrodAll enc Try.prog W 0 (fun _ => true) true Try.f4.params.toList args.toList ds p := hA0
  rw [Try.params4] at hA hval
  obtain ⟨v0, vs0, d0, ds0, p0, q0, hargs, rfl, rfl, h0, r0⟩ := trodAll_cons hA
  obtain ⟨rfl, rfl, rfl⟩ := trodAll_nil r0
  obtain rfl : args = #[v0] := by cases args; simp_all
  obtain ⟨rfl, rfl⟩ := trodVars_none hV
  have lt0 : ∀ x ∈ p0, x.block < W.heap.size := fun x hx => hW'.lt x (by simp [hx])
  obtain ⟨z0, l0, m0, rfl⟩ := okWide_slice Try.underlying30 (hval 0 30 v0 rfl rfl)
  obtain ⟨fuel0, hf0⟩ := id h0
  obtain ⟨e0, n0, k0, xs0, q0, i0, s0⟩ := bytes_in Try.underlying30 Try.underlying5 (by kernel_rfl) hf0
  simp only [Value.cells, List.cons.injEq, and_true, Value.slice.injEq] at q0
  obtain ⟨rfl, rfl, rfl⟩ := q0
  clear hA0 hval0
  refine (walk z0 l0 m0 xs0 W i0 s0).mono fun e W' ⟨he, bel⟩ => ?_
  subst he
  exact ⟨_, rfl, _, _, _, [], _, [], hW', trodAll_mk1 (shut_bool Try.underlying4 _), (trodAll_cons_mk (Below.trod laidOut (by kernel_rfl) (of_decide_eq_true (by kernel_rfl)) h0 bel lt0) trodAll_mk0), rfl, bel.frame _, fun h => by cases h⟩

theorem over : Rows.fnExamplesRow.holds Try.pinned (OpenSpec.ofChange Rows.fnExamplesSpec) :=
  OpenClaim.holds_of_wide 4 Try.f4 rfl rfl rfl rfl rfl rfl rfl ⟨rfl, rfl, rfl, rfl, rfl⟩ rfl rfl rfl rfl rfl (by kernel_rfl) Try.func4 (by kernel_rfl)
    (of_decide_eq_true (by kernel_rfl)) (by unfold Func.isWrapper; first | (rw [if_pos (by decide +kernel)]; kernel_rfl) | (rw [if_neg (by decide +kernel)]; exact ⟨rfl, rfl⟩))
    (fun os started H enc _ => lifted os started H enc)

/-- THE STATEMENT -/
theorem proved : Rows.FnExamplesSaid :=
  over
#print axioms proved

end Go.Proofs.Ythbdcclglopkiaa.fnExamples
