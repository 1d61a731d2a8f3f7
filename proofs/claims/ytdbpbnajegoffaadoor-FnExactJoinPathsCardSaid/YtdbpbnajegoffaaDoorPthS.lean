/-
  Paths of the reference: PathOk, JoinPaths.
-/
import Derived.Test.YtdbpbnajegoffaaDoorPthT
import Derived.Test.YtdbpbnajegoffaaDoorCarV
namespace Go.Proofs.YtdbpbnajegoffaaDoor
open Go.RowKit

theorem sPathOk_any (r : Int) (ta : Option Addr) (tn tc : Nat) (ts : List Int) (a : Option Addr) (n c : Nat) (xs : List Stp) (w : World) (hc : IntsAt w ta tn ts) (hcn : tn ≤ 9223372036854775807) (h : TermsAt w a n xs) (hn : n ≤ 9223372036854775807) :
    Calls Tryd.prog 42 #[carV r ta tn tc, .slice a n c] w fun e w' => e = .returned (.bool (typeB r ts && pathB r.toNat xs)) ∧ Ext w w' := by
  have hx1 := Ext.alloc w (.cells #[.int .i64 r, .slice ta tn tc] 26)
  have HC := hidP (fun w' (hx : Ext (w.alloc (.cells #[.int .i64 r, .slice ta tn tc] 26)) w') => (CarAt.new w _ rfl r ta tn tc 26).below hx)
  have HX1 := hidP hx1
  have H := hidP (h.below hx1)
  have HIs := hidP (sIsCartan_any r ta tn tc ts _ (hc.below hx1) hcn)
  clear hc h hx1
  obtain ⟨w1, hw1⟩ : ∃ w1, w1 = w.alloc (.cells #[.int .i64 r, .slice ta tn tc] 26) := ⟨_, rfl⟩
  rw [← hw1] at HC HX1 H HIs
  obtain ⟨f0, f1⟩ := HC.out w1 (Ext.refl w1)
  cases hT : typeB r ts
  · rw [hT] at HIs
    clear hT
    go_enter Tryd.func42, Tryd.ntmps42
    go_wp2_with fail
    rw [← hw1]
    clear hw1
    refine HIs.out.mono ?_
    rintro e w2 ⟨rfl, hx⟩
    have HX := hidP hx
    clear hx
    go_wp2
    go_ret
    exact ⟨rfl, HX1.out.trans HX.out⟩
  · obtain ⟨hr1, hr4, _⟩ := typeB_rank hT
    rw [hT] at HIs
    rw [Bool.true_and]
    clear hT
    obtain ⟨R, rfl⟩ : ∃ R : Nat, r = R := ⟨r.toNat, by omega⟩
    rw [Int.toNat_natCast]
    have hR : R ≤ 4 := by omega
    clear hr1 hr4
    have HL := hidP (fun w' (hx : Ext w1 w') => l9Ok_any R ta tn tc a n c xs w' (H.out.below hx) hn (by omega))
    generalize pathB R xs = b at HL ⊢
    go_enter Tryd.func42, Tryd.ntmps42
    go_wp2_with fail
    rw [← hw1]
    clear hw1
    refine HIs.out.mono ?_
    rintro e w2 ⟨rfl, hx⟩
    obtain ⟨g0, g1⟩ := HC.out w2 hx
    have HX := hidP hx
    clear hx f0 f1
    go_wp2_with fail
    refine (HL.out _ HX.out).mono ?_
    rintro e w3 ⟨rfl, hx⟩
    have HX3 := hidP (HX.out.trans hx)
    clear hx
    go_wp2
    go_ret
    exact ⟨rfl, HX1.out.trans HX3.out⟩

set_option maxHeartbeats 2000000 in
theorem sJoinPaths_any (r : Int) (ta : Option Addr) (tn tc : Nat) (ts : List Int) (a : Option Addr) (n c : Nat) (xs : List Stp) (a' : Option Addr) (n' c' : Nat) (ys : List Stp) (w : World) (hc : IntsAt w ta tn ts) (hcn : tn ≤ 9223372036854775807)
    (h : StepsAt w a n xs) (hn : n ≤ 9223372036854775807) (h' : StepsAt w a' n' ys) (hn' : n' ≤ 9223372036854775807) :
    PathRes 17 #[carV r ta tn tc, .slice a n c, .slice a' n' c'] w (joinR r ts xs ys) := by
  unfold PathRes
  have hx1 := Ext.alloc w (.cells #[.int .i64 r, .slice ta tn tc] 26)
  have HC := hidP (fun w' (hx : Ext (w.alloc (.cells #[.int .i64 r, .slice ta tn tc] 26)) w') => (CarAt.new w _ rfl r ta tn tc 26).below hx)
  have HX1 := hidP hx1
  have H := hidP (h.below hx1)
  have H' := hidP (h'.below hx1)
  have HP := hidP (sPathOk_any r ta tn tc ts a n c xs _ (hc.below hx1) hcn (h.below hx1).terms hn)
  have hs1 : w.heap.size ≤ (w.alloc (.cells #[.int .i64 r, .slice ta tn tc] 26)).heap.size := hx1.size
  clear hc h h' hx1
  obtain ⟨w1, hw1⟩ : ∃ w1, w1 = w.alloc (.cells #[.int .i64 r, .slice ta tn tc] 26) := ⟨_, rfl⟩
  rw [← hw1] at HC HX1 H H' HP hs1
  have HS1 := hidP hs1
  clear hs1
  obtain ⟨f0, f1⟩ := HC.out w1 (Ext.refl w1)
  cases hT : (typeB r ts && pathB r.toNat xs)
  · have HR : Hid (joinR r ts xs ys = (false, [])) := by
      show _ = _
      unfold joinR
      rw [hT]
      rfl
    rw [hT] at HP
    clear hT
    go_enter Tryd.func17, Tryd.ntmps17
    go_wp2_with fail
    rw [← hw1]
    clear hw1
    refine HP.out.mono ?_
    rintro e w2 ⟨rfl, hx⟩
    have HX := hidP hx
    clear hx
    go_wp2
    refine bodyPost_ret (v := .tuple #[.slice none 0 0, .bool false]) (by simp [results, Tryd.results17, go_sem]) rfl ⟨none, 0, 0, [], by rw [HR.out], ?_, HX1.out.trans HX.out⟩
    rw [HR.out]
    exact OwnK.nil stepK _ _ _
  · have hT2 : typeB r ts = true := by
      simp only [Bool.and_eq_true] at hT
      exact hT.1
    have hP1 : pathB r.toNat xs = true := by
      simp only [Bool.and_eq_true] at hT
      exact hT.2
    obtain ⟨hr1, hr4, _⟩ := typeB_rank hT2
    obtain ⟨R, rfl⟩ : ∃ R : Nat, r = R := ⟨r.toNat, by omega⟩
    rw [Int.toNat_natCast] at hP1
    have hR : R ≤ 4 := by omega
    have HL := hidP (fun w' (hx : Ext w1 w') => l9Ok_any R ta tn tc a' n' c' ys w' (H'.out.below hx).terms hn' (by omega))
    cases hQ : pathB R ys
    · have HR : Hid (joinR R ts xs ys = (false, [])) := by
        show _ = _
        unfold joinR
        rw [hT, Int.toNat_natCast, hQ]
        rfl
      rw [hT] at HP
      rw [hQ] at HL
      clear hT hT2 hP1 hQ hr1 hr4
      go_enter Tryd.func17, Tryd.ntmps17
      go_wp2_with fail
      rw [← hw1]
      clear hw1
      refine HP.out.mono ?_
      rintro e w2 ⟨rfl, hx⟩
      obtain ⟨g0, g1⟩ := HC.out w2 hx
      have HX := hidP hx
      clear hx f0 f1
      go_wp2_with fail
      refine (HL.out _ HX.out).mono ?_
      rintro e w3 ⟨rfl, hx⟩
      have HX3 := hidP (HX.out.trans hx)
      clear hx g0 g1
      go_wp2
      refine bodyPost_ret (v := .tuple #[.slice none 0 0, .bool false]) (by simp [results, Tryd.results17, go_sem]) rfl ⟨none, 0, 0, [], by rw [HR.out], ?_, HX1.out.trans HX3.out⟩
      rw [HR.out]
      exact OwnK.nil stepK _ _ _
    · have hR2 : joinR R ts xs ys = chk R (xs ++ ys) := by
        unfold joinR
        rw [hT, Int.toNat_natCast, hQ]
        rfl
      obtain ⟨hl1, hk1⟩ := pathB_small hP1
      obtain ⟨hl2, hk2⟩ := pathB_small hQ
      have hnl := H.out.len
      have hnl' := H'.out.len
      have HJ := hidP (fun w' (hx : Ext w1 w') => l9Join_any a n c xs a' n' c' ys w' (H.out.below hx) (H'.out.below hx) (by omega) (fun k hk => by have := hk1 k (by omega); omega) (fun k hk => by have := hk2 k (by omega); omega))
      have HL2 := hidP (fun w' (hx : Ext w1 w') (b : Option Addr) (m d : Nat) (hs : List Hdr) (ho : OwnK stepK w' w1.heap.size w'.heap.size b m d hs (joinS (xs ++ ys))) => l9Ok_any R ta tn tc b m d (joinS (xs ++ ys)) w' ho.termsAt ho.small (by omega))
      rw [hT] at HP
      rw [hQ] at HL
      have HR2 := hidP hR2
      clear hT hT2 hP1 hQ hr1 hr4 hk1 hk2 hR2
      go_enter Tryd.func17, Tryd.ntmps17
      go_wp2_with fail
      rw [← hw1]
      clear hw1
      refine HP.out.mono ?_
      rintro e w2 ⟨rfl, hx⟩
      obtain ⟨g0, g1⟩ := HC.out w2 hx
      have HX := hidP hx
      clear hx f0 f1
      go_wp2_with fail
      refine (HL.out _ HX.out).mono ?_
      rintro e w3 ⟨rfl, hx⟩
      have HX3 := hidP (HX.out.trans hx)
      clear hx g0 g1
      go_wp2_with fail
      refine (HJ.out _ HX3.out).mono ?_
      rintro e w4 ⟨b, m, d, hs, rfl, ho, hx⟩
      have HX4 := hidP (HX3.out.trans hx)
      have HO := hidP (ho.weaken HX3.out.size (Nat.le_refl _))
      obtain ⟨g0, g1⟩ := HC.out w4 HX4.out
      clear hx ho
      have HLL := hidP (HL2.out w4 HX4.out b m d hs HO.out)
      clear HL2 HL HP HJ
      cases hpb : pathB R (joinS (xs ++ ys))
      · rw [hpb] at HLL
        have HR : Hid (joinR R ts xs ys = (false, [])) := by
          show _ = _
          rw [HR2.out]
          unfold chk
          rw [hpb]
          rfl
        clear hpb
        go_wp2_with fail
        refine HLL.out.mono ?_
        rintro e w5 ⟨rfl, hx⟩
        have HX5 := hidP (HX4.out.trans hx)
        clear hx g0 g1
        go_wp2
        refine bodyPost_ret (v := .tuple #[.slice none 0 0, .bool false]) (by simp [results, Tryd.results17, go_sem]) rfl ⟨none, 0, 0, [], by rw [HR.out], ?_, HX1.out.trans HX5.out⟩
        rw [HR.out]
        exact OwnK.nil stepK _ _ _
      · rw [hpb] at HLL
        have HR : Hid (joinR R ts xs ys = (true, joinS (xs ++ ys))) := by
          show _ = _
          rw [HR2.out]
          unfold chk
          rw [hpb]
          rfl
        clear hpb
        go_wp2_with fail
        refine HLL.out.mono ?_
        rintro e w5 ⟨rfl, hx⟩
        have HX5 := hidP (HX4.out.trans hx)
        have HO5 := hidP ((HO.out.below hx).weaken HS1.out hx.size)
        clear hx g0 g1
        go_wp2
        refine bodyPost_ret (v := .tuple #[.slice b m d, .bool true]) (by simp [results, Tryd.results17, go_sem]) rfl ⟨b, m, d, hs, by rw [HR.out], ?_, HX1.out.trans HX5.out⟩
        rw [HR.out]
        exact HO5.out
end Go.Proofs.YtdbpbnajegoffaaDoor
