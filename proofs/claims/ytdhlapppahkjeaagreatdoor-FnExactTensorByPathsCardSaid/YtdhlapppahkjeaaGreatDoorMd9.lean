/-
  A part of an owned slice of structs, appended to another owned slice; two chains of operations of a region that draws its order.
  An owned slice of structs is sorted by the library: what the sort asks of it, what it leaves.
  The program's terms of counts: the words with their numbers, in order; the test of a character.
  The program's counts as a character; lists of numbers taken a number of times.
  The program's DualCharacter.
  The program's DoubleCharacter. Printed by gen/chrF.py.
  Characters of the reference: CharacterOk, DualCharacter, DoubleCharacter. Printed by gen/chrG.py.
  What characters give is small.
  Owned slices of terms, where steps are of another type. Printed by gen/chr5.py.
  How much a path holds.
  Arguments opened: Cartan matrices, sessions.
  Arguments opened: slices of integers, algebras, slices of a word and a number each; what a call that only makes memory leaves readable.
  The law's own copies of Cartan matrices.
  The law's own marks in slices of steps; what a change within bounds leaves.
  The law's own copies of slices of steps.
  The law's own functions on slices of steps: their size, equality.
  What characters want of the path texts (seat s5: they all lie in PthB).
  HighestPath: a path raised until it cannot be, the program's and the reference's.
  HighestPath, the reference's.
  The end of a path: a multiple added, both sides.
  The end of a path, in the units of time: both sides.
  EndOf: the program's and the reference's. Printed by gen/pthY.py.
  ReflectPath: the program's and the reference's. Printed by gen/pthV2.py.
  Lowering and raising by the program: lowered, raised. Printed by gen/pthJ2.py.
  The reference on paths: the least height, a path gone back, a reflection between two times.
  Lowering and raising by the reference: l9Lower, l9LowerPath, l9RaisePath. Printed by gen/pthM.py.
  Lowering and raising by the reference: l9LowerPath, l9RaisePath.
  LowerPath, RaisePath: the program's and the reference's. Printed by gen/pthO.py.
-/
import Derived.Test.YtdhlapppahkjeaaGreatDoorMd8
import Derived.Deep.Slices
import Derived.Lib.SmallJoins
import Derived.Carry
import Derived.ChangeSlices
import Derived.ProofKit
import Derived.OpenShut
import Derived.ChangeOld
import Derived.Shelf.SlSortCmp.WholeK
import Derived.Lib.OwnBridge
namespace Go.Proofs.YtdhlapppahkjeaaGreatDoor
open Go.RowKit

theorem minOf_hts (i : Nat) (p : List Stp) (n : Nat) : Lib.minOf (hts i p n) = minHt i p n := by
  have h : ∀ k, k ≤ n → Lib.minOf ((hts i p n).take (k + 1)) = minHt i p k := by
    intro k
    induction k with
    | zero =>
      intro _
      rw [Lib.minOf_one, hts_get _ _ _ _ (Nat.zero_le _)]
      rfl
    | succ k ih =>
      intro hk
      rw [Lib.minOf_step _ _ (by omega) (by rw [hts_length]; omega), ih (by omega), hts_get _ _ _ _ hk]
      show min (minHt i p k) (htAt i p (k + 1)) = if htAt i p (k + 1) < minHt i p k then htAt i p (k + 1) else minHt i p k
      rw [Int.min_def]
      split <;> split <;> omega
  have := h n (Nat.le_refl _)
  rwa [List.take_of_length_le (by rw [hts_length]; exact Nat.le_refl _)] at this
/-- where a path is lowered: the two places and the time within the second one -/
theorem low_turn {r : Nat} {p : List Stp} (hp : PathP r p) {i : Nat} (ts : List Int) (h : lowT i p ≤ htAt i p p.length) (hm : (lowT i p - htAt i p (lowB i p)).tmod (slopeAt i p (lowB i p)) = 0) :
    Turn p (lowA i p) 0 (lowB i p) ((lowT i p - htAt i p (lowB i p)).tdiv (slopeAt i p (lowB i p))) ∧
    turnR r ts i p (lowA i p) 0 (lowB i p) ((lowT i p - htAt i p (lowB i p)).tdiv (slopeAt i p (lowB i p))) = lowR r ts i p := by
  have hL := low_places h
  have hl := lens_of_path hp
  have hlen := hl _ hL.bn
  have hH : htAt i p (lowB i p + 1) = htAt i p (lowB i p) + lenAt p (lowB i p) * slopeAt i p (lowB i p) := rfl
  have h1 := hL.hb
  have h2 := hL.hb1
  obtain ⟨c1, c2, c3, c4⟩ := cross_pos (d := lowT i p - htAt i p (lowB i p)) (s := slopeAt i p (lowB i p)) (l := lenAt p (lowB i p)) (by omega) (by omega) hlen hm
  have hT : Turn p (lowA i p) 0 (lowB i p) ((lowT i p - htAt i p (lowB i p)).tdiv (slopeAt i p (lowB i p))) :=
    ⟨hL.ab, Nat.lt_of_le_of_lt hL.ab hL.bn, Nat.le_of_lt hL.bn, Int.le_refl _, hl _ (Nat.lt_of_le_of_lt hL.ab hL.bn), c2, fun _ => c3, fun e => absurd e (Nat.ne_of_lt hL.bn), fun _ => c2⟩
  refine ⟨hT, ?_⟩
  unfold turnR lowR
  rw [chk_opt, turn_check _ hl hT, Int.add_zero]
  unfold lowS
  rw [if_neg (by omega), if_pos hm]
set_option maxRecDepth 100000 in
set_option maxHeartbeats 8000000 in
theorem lowered_any (R : Nat) (ta : Option Addr) (tn tc : Nat) (ts : List Int) (i : Nat) (a : Option Addr) (n c : Nat) (xs : List Stp) (w : World) (hc : IntsAt w ta tn ts) (hT : typeB R ts = true) (hi : i < R) (h : StepsAt w a n xs) (hp : PathP R xs)
    (HIs : ∀ w', Ext w w' → Calls Tryz.prog 36 #[carV R ta tn tc] w' fun e w'' => e = .returned (.bool (typeB R ts)) ∧ Ext w' w'') :
    PathRes 52 #[carV R ta tn tc, .int .i64 i, .slice a n c] w (lowR R ts i xs) := by
  unfold PathRes
  obtain ⟨⟨J1, J2⟩, hJ⟩ : ∃ J, J = lowR R ts i xs := ⟨_, rfl⟩
  rw [← hJ]
  have HJ := hidP hJ
  clear hJ
  dsimp only
  have hx1 := Ext.alloc w (.cells #[.int .i64 R, .slice ta tn tc] 29)
  have HC := hidP (fun w' (hx : Ext (w.alloc (.cells #[.int .i64 R, .slice ta tn tc] 29)) w') => (CarAt.new w _ rfl (R : Int) ta tn tc 29).below hx)
  have HX1 := hidP hx1
  have hln := h.len
  have hn60 : n ≤ 60 := by have := hp.len; omega
  have hmin := min_small hp hi
  rw [hln] at hmin
  have hmi := minHt_le i xs n
  have HB := hidP (fun k (hk : k ≤ n) => ht_small hp hi k (by omega))
  have HTn := hidP (fun w' (hx : Ext w w') (A Bq : Nat) (fr tq : Int) (hTu : Turn xs A fr Bq tq) => turned_any R ta tn tc ts i a n c xs A Bq fr tq w' (hc.below hx) hT hi (h.below hx) hp hTu (fun w'' hx' => HIs w'' (hx.trans hx')))
  have HHt := hidP (heights_any i R a n c xs _ (h.below hx1).terms hp hi)
  have HP := hidP hp
  have Hh := hidP (h.below hx1)
  have HL := hidP hln
  have hs1 : w.heap.size ≤ (w.alloc (.cells #[.int .i64 R, .slice ta tn tc] 29)).heap.size := hx1.size
  clear hc h hx1 hT hp HIs
  obtain ⟨w1, hw1⟩ : ∃ w1, w1 = w.alloc (.cells #[.int .i64 R, .slice ta tn tc] 29) := ⟨_, rfl⟩
  rw [← hw1] at HC HX1 HHt Hh hs1
  have HS1 := hidP hs1
  clear hs1
  obtain ⟨lo, hlo⟩ : ∃ lo, lo = minHt i xs n := ⟨_, rfl⟩
  have Hlo := hidP hlo
  have HTT : Hid (lowT i xs = lo + 27720) := by
    show _ = _
    unfold lowT
    rw [HL.out, hlo]
  rw [← hlo] at hmin hmi
  have HMi := hidP hmi
  clear hlo hmi hln
  go_enter Tryz.func52, Tryz.ntmps52
  go_wp2_with fail
  rw [← hw1]
  clear hw1
  refine HHt.out.mono ?_
  rintro e w2 ⟨gh, ch, rfl, ho, hx⟩
  have HX2 := hidP hx
  have HO2 := hidP ho
  have HMn := hidP (minI_any (some ⟨gh, 0, none⟩) (n + 1) ch _ w2 ho.ints (by omega) (by omega))
  rw [minOf_hts, ← Hlo.out] at HMn
  have HIx := hidP (fun x => indexI_any (some ⟨gh, 0, none⟩) (n + 1) ch (hts i xs n) x w2 ho.ints (by omega))
  have HCl : Hid (∀ w', Ext w2 w' → ∀ k, k ≤ n → w'.cell? ⟨gh, k, none⟩ = some (.int .i64 (htAt i xs k))) := by
    intro w' hx' k hk
    obtain ⟨g', e', _, _, q, _⟩ := (HO2.out.below hx').cell k (by omega)
    simp only [Option.some.injEq, Addr.mk.injEq, and_true] at e'
    rw [← e', hts_get _ _ _ _ hk] at q
    exact q
  clear ho hx HHt
  go_wp2_with fail
  refine HMn.out.mono ?_
  rintro e w2' ⟨rfl, hww⟩
  rw [hww]
  clear hww
  clear HMn
  by_cases hc : htAt i xs n < lo + 27720
  · have HJn : J1 = false ∧ J2 = [] := by
      have h1 : lowR R ts i xs = (false, []) := by
        unfold lowR lowS
        rw [HL.out, HTT.out, if_pos hc]
        rfl
      have h2 := HJ.out.trans h1
      simp only [Prod.mk.injEq] at h2
      exact h2
    have q := HCl.out w2 (Ext.refl _) n (Nat.le_refl _)
    have hb := HB.out n (Nat.le_refl _)
    generalize htAt i xs n = V at *
    have hn1 : (n : Int) < (n : Int) + 1 := by omega
    have hn0 : (0 : Int) ≤ (n : Int) := by omega
    go_wp2
    refine bodyPost_ret (v := .tuple #[.slice none 0 0, .bool false]) (by simp [results, Tryz.results52, go_sem]) rfl ⟨none, 0, 0, [], by rw [HJn.1], ?_, HX1.out.trans HX2.out⟩
    rw [HJn.2]
    exact OwnK.nil stepK _ _ _
  · have hle : lowT i xs ≤ htAt i xs xs.length := by rw [HTT.out, HL.out]; omega
    have hLP := low_places hle
    have HLP := hidP hLP
    have HBf := hidP (lowB_before hle)
    have Hle := hidP hle
    have hAn : lowA i xs ≤ n := by have := hLP.ab; have := hLP.bn; have := HL.out; omega
    have hBn : lowB i xs < n := by have := hLP.bn; have := HL.out; omega
    have q := HCl.out w2 (Ext.refl _) n (Nat.le_refl _)
    have hb := HB.out n (Nat.le_refl _)
    obtain ⟨V0, hV0⟩ : ∃ v, v = htAt i xs n := ⟨_, rfl⟩
    rw [← hV0] at q hb hc
    have hn1 : (n : Int) < (n : Int) + 1 := by omega
    have hn0 : (0 : Int) ≤ (n : Int) := by omega
    clear hV0 hLP hle
    go_wp2
    clear q hb hc
    go_loopw [10] (fun ff wr => ∃ f : Nat, lowA i xs ≤ f ∧ f ≤ n ∧ ff = .int .i64 f ∧ wr = w2) (fun ff _ => (intOf ff).toNat)
    case atStart => exact ⟨n, hAn, Nat.le_refl _, by go_num, rfl⟩
    case round =>
      obtain ⟨f, hf1, hf2, rfl, rfl⟩ := hrel
      have q := HCl.out wr (Ext.refl _) f hf2
      have hf3 : (f : Int) < (n : Int) + 1 := by omega
      have hf4 : (0 : Int) ≤ (f : Int) := by omega
      by_cases hh : htAt i xs f = lo
      · have hfA : f = lowA i xs := by
          rcases Nat.eq_or_lt_of_le hf1 with h | h
          · exact h.symm
          · exact absurd (hh.trans (by rw [HL.out]; exact Hlo.out)) (HLP.out.aft f h (by have := HL.out; omega))
        rw [hh] at q
        have HFA := hidP hfA
        clear hh hfA hf1
        go_wp2
        clear q
        go_loopw [11] (fun ll wr' => ∃ l : Nat, f ≤ l ∧ l ≤ lowB i xs ∧ ll = .int .i64 l ∧ wr' = wr) (fun ll _ => n - (intOf ll).toNat)
        case atStart => exact ⟨f, Nat.le_refl _, by rw [HFA.out]; exact HLP.out.ab, rfl, rfl⟩
        case round =>
          obtain ⟨P, hl1, hl2, rfl, rfl⟩ := hrel
          have q := HCl.out wr (Ext.refl _) (P + 1) (by omega)
          have hb := HB.out (P + 1) (by omega)
          have hwr0 : IntKind.i64.wrap (lo + 27720) = lo + 27720 := wrap_in (by omega) (by omega)
          have hl3 : (P : Int) + 1 < (n : Int) + 1 := by omega
          have hl4 : (0 : Int) ≤ (P : Int) + 1 := by omega
          have hPn : P < n := by omega
          by_cases hh : htAt i xs (P + 1) < lo + 27720
          · have hlB : P + 1 ≤ lowB i xs := by
              rcases Nat.eq_or_lt_of_le hl2 with h | h
              · have h1 := HLP.out.hb1
                rw [← h, HTT.out] at h1
                omega
              · exact h
            generalize htAt i xs (P + 1) = V1 at *
            go_wp2
            go_roundw
            case rel => exact ⟨P + 1, by omega, hlB, by go_num, trivial⟩
            case measure => simp [intOf]; omega
          · have hPB : P = lowB i xs := by
              rcases Nat.eq_or_lt_of_le hl2 with h | h
              · exact h
              · have h1 := HBf.out (P + 1) (by have := HFA.out; omega) (by omega)
                rw [HTT.out] at h1
                exact absurd h1 hh
            have HPB := hidP hPB
            have hVP : htAt i xs P < lo + 27720 := by
              have h1 := HLP.out.hb
              rw [← hPB, HTT.out] at h1
              exact h1
            have hVP1 : lo + 27720 ≤ htAt i xs P + lenAt xs P * slopeAt i xs P := by
              have h1 := HLP.out.hb1
              rw [← hPB, HTT.out] at h1
              exact h1
            have HVP := hidP hVP
            have HVP1 := hidP hVP1
            clear hPB hVP hVP1
            generalize htAt i xs (P + 1) = V1 at *
            go_wp2
            clear q hb hh
            have hpl := (Hh.out.terms.below HX2.out).way P hPn
            obtain ⟨b, o, aw, cw, W, L, rfl, HW, HLn, _, hq⟩ := hpl
            have hWl := (HP.out.way P (by have := HL.out; omega)).1
            have hWb := (HP.out.way P (by have := HL.out; omega)).2 i hi
            rw [HW.out] at hWl hWb
            obtain ⟨bw, ow, rfl, hwi⟩ := (hq wr (Ext.refl _)).2.2.one i (by omega)
            obtain ⟨Sl, hSl⟩ : ∃ s, s = W.getD i 0 := ⟨_, rfl⟩
            rw [← hSl] at hwi hWb
            have HSl : Hid (slopeAt i xs P = Sl) := by
              show _ = _
              unfold slopeAt
              rw [HW.out, hSl]
            obtain ⟨V, hV⟩ : ∃ v, v = htAt i xs P := ⟨_, rfl⟩
            have HVv := hidP hV
            have hVb := HB.out P (by omega)
            rw [← hV] at hVb
            have HF : Hid (∀ w', Ext wr w' → w'.cell? ⟨gh, P, none⟩ = some (.int .i64 V) ∧ w'.cell? ⟨b, o + P * 2, none⟩ = some (.slice (some ⟨bw, ow, none⟩) W.length cw) ∧ w'.cell? ⟨bw, ow + i, none⟩ = some (.int .i64 Sl)) := by
              intro w' hx
              have h1 := HCl.out w' hx P (by omega)
              rw [← hV] at h1
              exact ⟨h1, (hq w' hx).1, hwi w' hx⟩
            have hiw : (i : Int) < (W.length : Int) := by omega
            have hi0 : (0 : Int) ≤ (i : Int) := by omega
            have hP0 : (0 : Int) ≤ (P : Int) := by omega
            have hP1 : (P : Int) < (n : Int) + 1 := by omega
            have hP2 : (P : Int) < (n : Int) := by omega
            have hwlo : IntKind.i64.wrap (lo + 27720) = lo + 27720 := wrap_in (by omega) (by omega)
            have hVT : V ≠ lo + 27720 → Sl ≠ 0 := by
              intro _ e
              have h1 := HVP1.out
              have h2 := HVP.out
              rw [HSl.out, e, Int.mul_zero] at h1
              omega
            have HCr := hidP (fun w' => crossing_any V Sl (lo + 27720) w' (by omega) (by omega) hVT)
            have hE : Ext wr wr.drew := Ext.drew wr
            clear hq hwi hSl hV hWl hVT
            obtain ⟨⟨C1, C2⟩, hC⟩ : ∃ C, C = crossV V Sl (lo + 27720) := ⟨_, rfl⟩
            have HCC := hidP hC
            rw [← hC] at HCr
            dsimp only at HCr
            clear hC
            go_wp2
            (refine walkR_start (fun w' => Ext wr w') 19 (by kernel_rfl) ?_; simp only [numbered, List.take_succ_cons, List.take_zero, Nat.zero_add, Nat.reduceAdd, List.length_cons, List.length_nil])
            (repeat (first | (refine walkR_still (v := ?_) rfl (by decide +kernel) rfl (fun _ _ _ h => h) hE ?_ ?_; rotate_left; (focus (intro w' hw'; obtain ⟨q1, q2, q3⟩ := HF.out w' hw'; go_simp; all_goals (with_reducible rfl))); simp only [Act.put, List.setIfInBounds_toArray, List.set_cons_zero, List.set_cons_succ]) | (refine walkR_skip rfl (by decide +kernel) rfl (fun _ _ _ h => h) hE ?_; simp only [Act.put, List.setIfInBounds_toArray, List.set_cons_zero, List.set_cons_succ])))
            (refine walkR_only (fun w' => Ext wr w') rfl (by decide +kernel) rfl (fun _ h => h) ?_; intro K hK; go_simp; refine (HCr.out _).mono ?_; rintro e w3 ⟨rfl, hx3⟩; refine hK _ _ (hE.trans hx3) ?_; clear hK K; (try simp only [Act.put, List.setIfInBounds_toArray, List.set_cons_zero, List.set_cons_succ]))
            have hE3 := hE.trans hx3
            clear hx3 hE
            (repeat (first | (refine walkR_still (v := ?_) rfl (by decide +kernel) rfl (fun _ _ _ h => h) hE3 ?_ ?_; rotate_left; (focus (intro w' hw'; skip; go_simp; all_goals (with_reducible rfl))); simp only [Act.put, List.setIfInBounds_toArray, List.set_cons_zero, List.set_cons_succ]) | (refine walkR_skip rfl (by decide +kernel) rfl (fun _ _ _ h => h) hE3 ?_; simp only [Act.put, List.setIfInBounds_toArray, List.set_cons_zero, List.set_cons_succ])))
            (refine walkR_tail (by rfl) (by kernel_rfl) ?_; simp only [List.drop_succ_cons, List.drop_zero])
            have HX3 := hidP (HX2.out.trans hE3)
            clear hE3
            obtain ⟨f0, f1⟩ := HC.out w3 HX3.out
            cases C2
            · -- no integer
              have HJn : J1 = false ∧ J2 = [] := by
                have h3 := HVP.out
                rw [← HVv.out] at h3
                have h1 : crossV V Sl (lo + 27720) = ((lo + 27720 - V).tdiv Sl, (lo + 27720 - V).tmod Sl == 0) := if_neg (by omega)
                have h2 := HCC.out.trans h1
                simp only [Prod.mk.injEq] at h2
                have h4 : lowR R ts i xs = (false, []) := by
                  unfold lowR lowS
                  rw [if_neg (by have := Hle.out; omega), if_neg (by
                    rw [← HPB.out, HTT.out, HSl.out, ← HVv.out]
                    intro e
                    rw [e] at h2
                    simp at h2)]
                  rfl
                have h5 := HJ.out.trans h4
                simp only [Prod.mk.injEq] at h5
                exact h5
              go_wp2
              refine bodyPost_ret (v := .tuple #[.slice none 0 0, .bool false]) (by simp [results, Tryz.results52, go_sem]) rfl ⟨none, 0, 0, [], by rw [HJn.1], ?_, HX1.out.trans HX3.out⟩
              rw [HJn.2]
              exact OwnK.nil stepK _ _ _
            · -- the two times are found
              have hCC : C1 = (lowT i xs - htAt i xs (lowB i xs)).tdiv (slopeAt i xs (lowB i xs)) ∧ (lowT i xs - htAt i xs (lowB i xs)).tmod (slopeAt i xs (lowB i xs)) = 0 := by
                have h3 := HVP.out
                rw [← HVv.out] at h3
                have h1 : crossV V Sl (lo + 27720) = ((lo + 27720 - V).tdiv Sl, (lo + 27720 - V).tmod Sl == 0) := if_neg (by omega)
                have h2 := HCC.out.trans h1
                simp only [Prod.mk.injEq] at h2
                rw [← HPB.out, HTT.out, HSl.out, ← HVv.out]
                exact ⟨h2.1, by simpa using h2.2.symm⟩
              obtain ⟨hTu, hTR⟩ := low_turn HP.out ts Hle.out hCC.2
              rw [← hCC.1, ← HPB.out, ← HFA.out] at hTu hTR
              have HTr := HTn.out w3 (HX1.out.trans HX3.out) f P 0 C1 hTu
              rw [hTR] at HTr
              clear hTu hTR hCC
              unfold PathRes at HTr
              rw [← HJ.out] at HTr
              dsimp only at HTr
              go_wp2_with fail
              refine HTr.mono ?_
              rintro e w4 ⟨a4, n4, c4, hs4, rfl, ho4, hx4⟩
              have HX4 := hidP (HX3.out.trans hx4)
              have HO4 := hidP (ho4.weaken (HX1.out.trans HX3.out).size (Nat.le_refl _))
              clear ho4 hx4 f0 f1 HTr
              go_wp2
              refine bodyPost_ret (v := .tuple #[.slice a4 n4 c4, .bool J1]) (by simp [results, Tryz.results52, go_sem]) rfl ⟨a4, n4, c4, hs4, rfl, HO4.out, HX1.out.trans HX4.out⟩
      · have hf5 : lowA i xs < f := by
          rcases Nat.eq_or_lt_of_le hf1 with h | h
          · exfalso
            apply hh
            rw [← h, HLP.out.ha, HL.out]
            exact Hlo.out.symm
          · exact h
        have hf6 : 1 ≤ f := by omega
        have hne : (htAt i xs f != lo) = true := by simpa using hh
        generalize htAt i xs f = V1 at *
        clear hh
        go_wp2
        go_roundw
        case rel => exact ⟨f - 1, by omega, by omega, by go_num, trivial⟩
        case measure => simp [intOf]; omega
end Go.Proofs.YtdhlapppahkjeaaGreatDoor

namespace Go.Proofs.YtdhlapppahkjeaaGreatDoor
open Go.RowKit

set_option maxHeartbeats 1000000 in
theorem l9Least_any (a : Option Addr) (n c : Nat) (xs : List Int) (w : World) (h : IntsAt w a n xs) (h0 : 0 < n) (hn : n ≤ 1000000000) :
    Calls Tryz.prog 61 #[.slice a n c] w fun e w' => e = .returned (.int .i64 (Lib.minOf xs)) ∧ w' = w := by
  have G := hidP h.get
  have L := hidP h.len
  obtain ⟨b, o, rfl, q0⟩ := h.get 0 h0
  have h1 : (0 : Int) < (n : Int) := by omega
  rw [Nat.add_zero] at q0
  clear h
  go_enter Tryz.func61, Tryz.ntmps61
  go_wp2
  go_loopw [3, 4] (fun m i wr => ∃ k : Nat, 1 ≤ k ∧ k ≤ n ∧ m = .int .i64 (Lib.minOf (xs.take k)) ∧ i = .int .i64 k ∧ wr = w) (fun _ i _ => n - (intOf i).toNat)
  case atStart =>
    refine ⟨1, Nat.le_refl _, h0, ?_, rfl, rfl⟩
    rw [Lib.minOf_one]
    simp
  case round =>
    obtain ⟨k, hk1, hk, rfl, rfl, rfl⟩ := hrel
    by_cases hlt : k < n
    · obtain ⟨b', o', e', q⟩ := G.out k hlt
      simp only [Option.some.injEq, Addr.mk.injEq, and_true] at e'
      obtain ⟨rfl, rfl⟩ := e'
      have hS : Hid (Lib.minOf (xs.take (k + 1)) = min (Lib.minOf (xs.take k)) (xs.getD k 0)) := Lib.minOf_step xs k (by omega) (by rw [L.out]; exact hlt)
      obtain ⟨M, hM⟩ : ∃ M, M = Lib.minOf (xs.take k) := ⟨_, rfl⟩
      obtain ⟨X, hX⟩ : ∃ X, X = xs.getD k 0 := ⟨_, rfl⟩
      rw [← hM, ← hX] at hS
      rw [← hX] at q
      rw [← hM]
      clear hM hX
      by_cases hc : X < M
      · have hR : Hid (Lib.minOf (xs.take (k + 1)) = X) := by
          show _ = _
          rw [hS.out, Int.min_def]
          split <;> omega
        go_wp2
        go_roundw
        case rel => exact ⟨k + 1, by omega, by omega, by rw [hR.out], by go_num, trivial⟩
        case measure => simp [intOf]; omega
      · have hR : Hid (Lib.minOf (xs.take (k + 1)) = M) := by
          show _ = _
          rw [hS.out, Int.min_def]
          split <;> omega
        go_wp2
        go_roundw
        case rel => exact ⟨k + 1, by omega, by omega, by rw [hR.out], by go_num, trivial⟩
        case measure => simp [intOf]; omega
    · obtain rfl : k = n := by omega
      have hR : Hid (Lib.minOf (xs.take k) = Lib.minOf xs) := by
        show _ = _
        rw [List.take_of_length_le (by rw [L.out]; exact Nat.le_refl _)]
      rw [hR.out]
      go_wp2
      go_ret
      exact ⟨rfl, rfl⟩

/-! ### a path gone back; a reflection between two times. Printed by gen/pthK.py. -/
theorem bet_len (_R : List Int → List Int) {r : Nat} {p : List Stp} (hp : PathP r p) {u v : Int} (huv : u ≤ v) (k : Nat) (hk : k < p.length) :
    (0 ≤ within u (timeAt p k) (timeAt p (k + 1)) - timeAt p k ∧ within u (timeAt p k) (timeAt p (k + 1)) - timeAt p k ≤ 83160) ∧
    (0 ≤ within v (timeAt p k) (timeAt p (k + 1)) - within u (timeAt p k) (timeAt p (k + 1)) ∧ within v (timeAt p k) (timeAt p (k + 1)) - within u (timeAt p k) (timeAt p (k + 1)) ≤ 83160) ∧
    (0 ≤ timeAt p (k + 1) - within v (timeAt p k) (timeAt p (k + 1)) ∧ timeAt p (k + 1) - within v (timeAt p k) (timeAt p (k + 1)) ≤ 83160) := by
  have hl := lens_of_path hp
  have h1 := timeAt_le hl (show k ≤ k + 1 by omega) (by omega)
  have h2 := within_bd (n := u) h1
  have h3 := within_bd (n := v) h1
  have h4 := within_le huv h1
  have h5 := time_small hp k (by omega)
  have h6 := time_small hp (k + 1) (by omega)
  omega

/-- what is put together by the first k steps -/
def accB (R : List Int → List Int) (u v : Int) (p : List Stp) (k : Nat) : List Stp := joinS (betTo R u v p k)
theorem accB_succ (R : List Int → List Int) (u v : Int) (p : List Stp) (k : Nat) (s1 s2 s3 : Stp) (h : betK R u v p k = [s1, s2, s3]) : accB R u v p (k + 1) = addS (addS (addS (accB R u v p k) s1) s2) s3 := by
  unfold accB joinS
  rw [betTo_succ, h, List.foldl_append]
  rfl
def LensB (o : List Stp) (D : Int) : Prop := ∀ i, i < o.length → 0 ≤ lenAt o i ∧ lenAt o i ≤ D
theorem LensB.add {o : List Stp} {s : Stp} {D C : Int} (h : LensB o D) (hs : 0 ≤ s.2 ∧ s.2 ≤ C) (hD : 0 ≤ D) : LensB (addS o s) (D + C) := addS_lens h hs hD

set_option maxRecDepth 100000 in
set_option maxHeartbeats 8000000 in
theorem l9Between_any (R : Nat) (ta : Option Addr) (tn tc : Nat) (ts : List Int) (i : Nat) (a : Option Addr) (n c : Nat) (xs : List Stp) (u v : Int) (w : World) (hc : IntsAt w ta tn ts) (hT : typeB R ts = true) (hi : i < R)
    (h : StepsAt w a n xs) (hp : PathP R xs) (huv : u ≤ v) :
    PathRes 97 #[carV R ta tn tc, .int .i64 i, .slice a n c, .int .i64 u, .int .i64 v] w (chk R (betS (refl R ts i) u v xs)) := by
  unfold PathRes
  obtain ⟨⟨J1, J2⟩, hJ⟩ : ∃ J, J = chk R (betS (refl R ts i) u v xs) := ⟨_, rfl⟩
  rw [← hJ]
  have HJ := hidP hJ
  clear hJ
  dsimp only
  have hx1 := Ext.alloc w (.cells #[.int .i64 R, .slice ta tn tc] 29)
  have HC := hidP (fun w' (hx : Ext (w.alloc (.cells #[.int .i64 R, .slice ta tn tc] 29)) w') => (CarAt.new w _ rfl (R : Int) ta tn tc 29).below hx)
  have HX1 := hidP hx1
  have HP := hidP hp
  have Hh := hidP h
  have Hl := hidP h.len
  have hn60 : n ≤ 60 := by have := hp.len; have := h.len; omega
  have hr4 := typeB_rank hT
  have hR4 : R ≤ 4 := by omega
  have hRf := hidP (fun w' (hx : Ext w w') (aw : Option Addr) (cw : Nat) (W : List Int) (hI : IntsAt w' aw W.length W) (hnl : aw = none → cw = 0) (hW : W.length = R) (hb : ∀ j, j < R → -1000 ≤ W.getD j 0 ∧ W.getD j 0 ≤ 1000) => l6Reflect_any R ta tn tc ts i aw W.length cw W w' (hc.below hx) hT hi hI hnl hW hb)
  have HM0 := hidP (OwnK.made0 stepK (w.alloc (.cells #[.int .i64 R, .slice ta tn tc] 29)))
  have HXM := hidP (Ext.alloc (w.alloc (.cells #[.int .i64 R, .slice ta tn tc] 29)) (.cells #[] 73))
  clear hc h hx1 hT hp hr4
  go_enter Tryz.func97, Tryz.ntmps97
  go_wp2
  obtain ⟨w1, hw1⟩ : ∃ w1, w1 = w.alloc (.cells #[.int .i64 R, .slice ta tn tc] 29) := ⟨_, rfl⟩
  have hws : w.heap.size + 1 = w1.heap.size := by rw [hw1]; simp
  rw [← hw1] at HM0 HXM HC HX1 ⊢
  have HWS := hidP hws
  clear hw1 hws
  go_loopw [12, 13, 14] (fun out at' ii wr => ∃ (k m co : Nat) (ao : Option Addr) (hs : List Hdr), k ≤ n ∧ m ≤ 3 * k ∧ out = .slice ao m co ∧ at' = .int .i64 (timeAt xs k) ∧ ii = .int .i64 k ∧ Hid (OwnK stepK wr w1.heap.size wr.heap.size ao m co hs (accB (refl R ts i) u v xs k)) ∧ Hid (LensB (accB (refl R ts i) u v xs k) (300000 * k)) ∧ Hid (Ext w1 wr)) (fun _ _ ii _ => n - (intOf ii).toNat)
  case atStart => exact ⟨0, _, _, _, [], Nat.zero_le _, Nat.zero_le _, rfl, rfl, rfl, by rw [HWS.out]; exact HM0, fun i hi => absurd hi (Nat.not_lt_zero _), HXM⟩
  case round =>
    obtain ⟨k, m, co, ao, hs, hk, hm3, rfl, rfl, rfl, HO, HLB, HX⟩ := hrel
    by_cases hlt : k < n
    · obtain ⟨b, o, aw, cw, W, L, rfl, HW, HL, hwl, HNl, hq⟩ := Hh.out.way k hlt
      have HQ := hidP hq
      obtain ⟨q1, q2, _⟩ := hq wr (HX1.out.trans HX.out)
      have hwy := HP.out.way k (by have := Hl.out; omega)
      rw [HW.out] at hwy
      have HWy := hidP hwy
      have hWle : W.length ≤ 4 := by omega
      have hbl := bet_len (refl R ts i) HP.out huv k (by have := Hl.out; omega)
      have hts1 := time_small HP.out k (by have := Hl.out; omega)
      have hts2 := time_small HP.out (k + 1) (by have := Hl.out; omega)
      have hTn : Hid (timeAt xs (k + 1) = timeAt xs k + L) := by
        show _ = _
        rw [← HL.out]
        rfl
      have hBK : betK (refl R ts i) u v xs k = [(W, within u (timeAt xs k) (timeAt xs (k + 1)) - timeAt xs k), (refl R ts i W, within v (timeAt xs k) (timeAt xs (k + 1)) - within u (timeAt xs k) (timeAt xs (k + 1))), (W, timeAt xs (k + 1) - within v (timeAt xs k) (timeAt xs (k + 1)))] := by
        unfold betK
        rw [HW.out]
      obtain ⟨T0, hT0⟩ : ∃ T0, T0 = timeAt xs k := ⟨_, rfl⟩
      obtain ⟨T1, hT1⟩ : ∃ T1, T1 = timeAt xs (k + 1) := ⟨_, rfl⟩
      rw [← hT0, ← hT1] at hbl hTn hBK
      rw [← hT0] at hts1 ⊢
      rw [← hT1] at hts2
      have HT1 := hidP hT1
      obtain ⟨A1, hA1⟩ : ∃ A1, A1 = within u T0 T1 := ⟨_, rfl⟩
      obtain ⟨B1, hB1⟩ : ∃ B1, B1 = within v T0 T1 := ⟨_, rfl⟩
      have HA1 := hidP hA1
      have HB1 := hidP hB1
      rw [← hA1, ← hB1] at hbl hBK
      have HAc := hidP (accB_succ (refl R ts i) u v xs k _ _ _ hBK)
      obtain ⟨hb1, hb2, hb3⟩ := hbl
      have hadd : IntKind.i64.wrap (T0 + L) = T1 := by rw [hTn.out]; exact wrap_in (by have := hTn.out; omega) (by have := hTn.out; omega)
      have HRf := hidP (fun w' (hx : Ext w w') => hRf.out w' hx aw cw W (HQ.out w' hx).2.2 HNl.out HWy.out.1 HWy.out.2)
      have HRl : Hid ((refl R ts i W).length = W.length) := by
        show _ = _
        rw [refl_length, HWy.out.1]
      have HWu := hidP (fun w' => l9Within_any u T0 T1 w')
      have HWv := hidP (fun w' => l9Within_any v T0 T1 w')
      rw [← hA1] at HWu
      rw [← hB1] at HWv
      clear hT0 hT1 hA1 hB1 hBK hwy hTn
      -- the first piece
      have HAdd1 := hidP (l9Add_any w1.heap.size ao m co hs _ aw cw W (A1 - T0) wr HO.out (HQ.out wr (HX1.out.trans HX.out)).2.2 HNl.out (by omega) (by omega) HX.out.size hb1.1 (by omega) (fun i hi => by have := HLB.out i (by rw [HO.out.xl]; exact hi); omega))
      have HL1 := hidP (HLB.out.add (s := (W, A1 - T0)) (C := 83160) hb1 (by omega))
      have HN1 := hidP (addS_length (accB (refl R ts i) u v xs k) (W, A1 - T0))
      rw [HO.out.xl] at HN1
      go_wp2_with fail
      refine (HWu.out _).mono ?_
      rintro e wu ⟨rfl, hwu⟩
      rw [← hwu]
      clear hwu wu
      go_wp2_with fail
      refine (HWv.out _).mono ?_
      rintro e wu ⟨rfl, hwu⟩
      rw [← hwu]
      clear hwu wu
      go_wp2_with fail
      refine HAdd1.out.mono ?_
      rintro e w2 ⟨a2, m2, c2, hs2, rfl, ho2, hbe2⟩
      have hx2 : Ext w1 w2 := Below.trans HX.out hbe2
      have HX2 := hidP hx2
      have HO2 := hidP ho2
      have HD2 := hidP hbe2
      have hm2 : m2 ≤ m + 1 := by have := ho2.xl; have := HN1.out; omega
      clear hx2 ho2 hbe2 q1 q2 HAdd1
      obtain ⟨q1, q2, _⟩ := HQ.out w2 (HX1.out.trans HX2.out)
      have hE : Ext w2 w2.drew := Ext.drew w2
      have HAdd2 := hidP (fun w' (hx : Ext w2 w') (a3 : Option Addr) (c3 : Nat) (ho : OwnI w' w2.heap.size a3 W.length c3 (refl R ts i W)) => l9Add_any w1.heap.size a2 m2 c2 hs2 _ a3 c3 (refl R ts i W) (B1 - A1) w' ((HO2.out.below hx).weaken (Nat.le_refl _) hx.size) (by rw [HRl.out]; exact ho.ints) ho.nil_cap (by rw [HRl.out]; omega) (by omega) (Nat.le_trans HX2.out.size hx.size) hb2.1 (by omega) (fun i hi => by have := HL1.out i (by rw [HO2.out.xl]; exact hi); omega))
      have HL2 := hidP (HL1.out.add (s := (refl R ts i W, B1 - A1)) (C := 83160) hb2 (by omega))
      have HN2 := hidP (addS_length (addS (accB (refl R ts i) u v xs k) (W, A1 - T0)) (refl R ts i W, B1 - A1))
      rw [HO2.out.xl] at HN2
      rw [HRl.out] at HAdd2
      have hw2 : IntKind.i64.wrap (B1 - A1) = B1 - A1 := wrap_in (by omega) (by omega)
      go_wp2
      (refine walkR_start (fun w' => Ext w1 w') 12 (by kernel_rfl) ?_; simp only [numbered, List.take_succ_cons, List.take_zero, Nat.zero_add, Nat.reduceAdd, List.length_cons, List.length_nil])
      (repeat (first | (refine walkR_still (v := ?_) rfl (by decide +kernel) rfl (fun _ _ _ h => h) (HX2.out.trans hE) ?_ ?_; rotate_left; (focus (intro w' hw'; obtain ⟨p1, p2, _⟩ := HQ.out w' (HX1.out.trans hw'); obtain ⟨f0, f1⟩ := HC.out w' hw'; go_simp; all_goals (with_reducible rfl))); simp only [Act.put, List.setIfInBounds_toArray, List.set_cons_zero, List.set_cons_succ]) | (refine walkR_skip rfl (by decide +kernel) rfl (fun _ _ _ h => h) (HX2.out.trans hE) ?_; simp only [Act.put, List.setIfInBounds_toArray, List.set_cons_zero, List.set_cons_succ])))
      (refine walkR_later ?_; simp only [List.cons_append, List.nil_append])
      (repeat (first | (refine walkR_still (v := ?_) rfl (by decide +kernel) rfl (fun _ _ _ h => h) (HX2.out.trans hE) ?_ ?_; rotate_left; (focus (intro w' hw'; skip; go_simp; all_goals (with_reducible rfl))); simp only [Act.put, List.setIfInBounds_toArray, List.set_cons_zero, List.set_cons_succ]) | (refine walkR_skip rfl (by decide +kernel) rfl (fun _ _ _ h => h) (HX2.out.trans hE) ?_; simp only [Act.put, List.setIfInBounds_toArray, List.set_cons_zero, List.set_cons_succ])))
      (refine walkR_only (fun w' => Ext w1 w') rfl (by decide +kernel) rfl (fun _ h => h) ?_; intro K hK; go_simp; refine (HRf.out _ (HX1.out.trans (HX2.out.trans hE))).mono ?_; rintro e w3 ⟨a3, c3, rfl, ho3, hx3⟩; refine hK _ _ (HX2.out.trans (hE.trans hx3)) ?_; clear hK K; (try simp only [Act.put, List.setIfInBounds_toArray, List.set_cons_zero, List.set_cons_succ]))
      have hE3 := hE.trans hx3
      have HA2 := hidP (HAdd2.out w3 hE3 a3 c3 (ho3.base hE.size))
      have HX3 := hidP (HX2.out.trans hE3)
      clear ho3 hx3 hE3 hE q1 q2
      (repeat (first | (refine walkR_still (v := ?_) rfl (by decide +kernel) rfl (fun _ _ _ h => h) HX3.out ?_ ?_; rotate_left; (focus (intro w' hw'; skip; go_simp; all_goals (with_reducible rfl))); simp only [Act.put, List.setIfInBounds_toArray, List.set_cons_zero, List.set_cons_succ]) | (refine walkR_skip rfl (by decide +kernel) rfl (fun _ _ _ h => h) HX3.out ?_; simp only [Act.put, List.setIfInBounds_toArray, List.set_cons_zero, List.set_cons_succ])))
      (refine walkR_tail (by rfl) (by kernel_rfl) ?_; simp only [List.drop_succ_cons, List.drop_zero])
      go_wp2_with fail
      refine HA2.out.mono ?_
      rintro e w4 ⟨a4, m4, c4, hs4, rfl, ho4, hbe4⟩
      have HX4 := hidP (show Ext w1 w4 from Below.trans HX3.out hbe4)
      have HO4 := hidP ho4
      have hm4 : m4 ≤ m2 + 1 := by have := ho4.xl; have := HN2.out; omega
      clear ho4 hbe4 HA2 HAdd2
      obtain ⟨q1, q2, qi⟩ := HQ.out w4 (HX1.out.trans HX4.out)
      have HAdd3 := hidP (l9Add_any w1.heap.size a4 m4 c4 hs4 _ aw cw W (T1 - B1) w4 HO4.out qi HNl.out (by omega) (by omega) HX4.out.size hb3.1 (by omega) (fun i hi => by have := HL2.out i (by rw [HO4.out.xl]; exact hi); omega))
      have HL3 := hidP (HL2.out.add (s := (W, T1 - B1)) (C := 83160) hb3 (by omega))
      have HN3 := hidP (addS_length (addS (addS (accB (refl R ts i) u v xs k) (W, A1 - T0)) (refl R ts i W, B1 - A1)) (W, T1 - B1))
      rw [HO4.out.xl] at HN3
      have hw3 : IntKind.i64.wrap (T1 - B1) = T1 - B1 := wrap_in (by omega) (by omega)
      clear qi
      go_wp2_with fail
      refine HAdd3.out.mono ?_
      rintro e w5 ⟨a5, m5, c5, hs5, rfl, ho5, hbe5⟩
      have HX5 := hidP (show Ext w1 w5 from Below.trans HX4.out hbe5)
      have hm5 : m5 ≤ m4 + 1 := by have := ho5.xl; have := HN3.out; omega
      rw [← HAc.out] at ho5
      have HO5 := hidP ho5
      have HL5 : Hid (LensB (accB (refl R ts i) u v xs (k + 1)) (300000 * ((k + 1 : Nat) : Int))) := by
        rw [HAc.out]
        intro i hi
        have h1 := HL3.out i hi
        rw [Int.natCast_add, Int.natCast_one]
        omega
      clear ho5 hbe5 HAdd3 q1 q2
      go_wp2
      go_roundw
      case rel => exact ⟨k + 1, m5, c5, a5, hs5, by omega, by omega, rfl, by rw [HT1.out], by go_num, HO5, HL5, HX5⟩
      case measure => simp [intOf]; omega
    · obtain rfl : n = k := by omega
      have HBS : Hid (accB (refl R ts i) u v xs n = joinS (betS (refl R ts i) u v xs)) := by
        show _ = _
        unfold accB betS
        rw [Hl.out]
      rw [HBS.out] at HO
      have HOk := hidP (l9Ok_any R ta tn tc ao m co _ wr HO.out.termsAt HO.out.small (by omega))
      obtain ⟨f0, f1⟩ := HC.out wr HX.out
      cases hpb : pathB R (joinS (betS (refl R ts i) u v xs))
      · rw [hpb] at HOk
        have HJn : J1 = false ∧ J2 = [] := by
          have h1 : chk R (betS (refl R ts i) u v xs) = (false, []) := by
            unfold chk
            rw [hpb]
            rfl
          have h2 := HJ.out.trans h1
          simp only [Prod.mk.injEq] at h2
          exact h2
        clear hpb
        go_wp2_with fail
        refine HOk.out.mono ?_
        rintro e w2 ⟨rfl, hx⟩
        have HX2 := hidP (HX.out.trans hx)
        clear hx f0 f1
        go_wp2
        refine bodyPost_ret (v := .tuple #[.slice none 0 0, .bool false]) (by simp [results, Tryz.results97, go_sem]) rfl ⟨none, 0, 0, [], by rw [HJn.1], ?_, HX1.out.trans HX2.out⟩
        rw [HJn.2]
        exact OwnK.nil stepK _ _ _
      · rw [hpb] at HOk
        have HJn : J1 = true ∧ J2 = joinS (betS (refl R ts i) u v xs) := by
          have h1 : chk R (betS (refl R ts i) u v xs) = (true, joinS (betS (refl R ts i) u v xs)) := by
            unfold chk
            rw [hpb]
            rfl
          have h2 := HJ.out.trans h1
          simp only [Prod.mk.injEq] at h2
          exact h2
        clear hpb
        go_wp2_with fail
        refine HOk.out.mono ?_
        rintro e w2 ⟨rfl, hx⟩
        have HX2 := hidP (HX.out.trans hx)
        have HO2 := hidP ((HO.out.below hx).weaken (B' := w.heap.size) HX1.out.size hx.size)
        clear hx f0 f1
        go_wp2
        refine bodyPost_ret (v := .tuple #[.slice ao m co, .bool true]) (by simp [results, Tryz.results97, go_sem]) rfl ⟨ao, m, co, hs, by rw [HJn.1], ?_, HX1.out.trans HX2.out⟩
        rw [HJn.2]
        exact HO2.out
end Go.Proofs.YtdhlapppahkjeaaGreatDoor

namespace Go.Proofs.YtdhlapppahkjeaaGreatDoor
open Go.RowKit

theorem timeAt_take (p : List Stp) (m : Nat) : ∀ k, k ≤ m → timeAt (p.take m) k = timeAt p k
  | 0, _ => rfl
  | k + 1, h => by
    have ih := timeAt_take p m k (by omega)
    show timeAt (p.take m) k + lenAt (p.take m) k = timeAt p k + lenAt p k
    rw [ih]
    congr 1
    unfold lenAt
    simp [List.getD_eq_getElem?_getD, show k < m by omega]
theorem TermsAt.take {w : World} {a : Option Addr} {n : Nat} {xs : List Stp} (h : TermsAt w a n xs) (m : Nat) (hm : m ≤ n) : TermsAt w a m (xs.take m) := by
  refine ⟨by rw [List.length_take, h.len]; omega, fun i hi => ?_⟩
  obtain ⟨b, o, aw, cw, e, h1, h2, h3, h4⟩ := h.get i (by omega)
  have e2 : (xs.take m).getD i ([], 0) = xs.getD i ([], 0) := by simp [List.getD_eq_getElem?_getD, hi]
  rw [e2]
  exact ⟨b, o, aw, cw, e, h1, h2, h3, h4⟩
/-- the two times of LowerPath, the second one -1 where it is no integer -/
def lowV (i : Nat) (p : List Stp) : Int := l9CrossV (timeAt p (lowB i p)) (htAt i p (lowB i p)) (slopeAt i p (lowB i p)) (lowT i p)
theorem low_slope {r : Nat} {p : List Stp} (_hp : PathP r p) {i : Nat} (h : lowT i p ≤ htAt i p p.length) : slopeAt i p (lowB i p) ≠ 0 := by
  have hL := low_places h
  have hH : htAt i p (lowB i p + 1) = htAt i p (lowB i p) + lenAt p (lowB i p) * slopeAt i p (lowB i p) := rfl
  intro e
  have h1 := hL.hb
  have h2 := hL.hb1
  rw [hH, e, Int.mul_zero] at h2
  omega
/-- LowerPath by its two times -/
theorem lowR_times {r : Nat} {p : List Stp} (hp : PathP r p) {i : Nat} (ts : List Int) (h : lowT i p ≤ htAt i p p.length) :
    (lowV i p < 0 → lowR r ts i p = (false, [])) ∧ (0 ≤ lowV i p → timeAt p (lowA i p) ≤ lowV i p ∧ lowR r ts i p = chk r (betS (refl r ts i) (timeAt p (lowA i p)) (lowV i p) p)) := by
  have hL := low_places h
  have hl := lens_of_path hp
  have ht := timeAt_le hl hL.ab (Nat.le_of_lt hL.bn)
  have ht0 := (time_small hp (lowA i p) (by have := hL.ab; have := hL.bn; omega)).1
  unfold lowV l9CrossV lowR lowS
  rw [if_neg (show ¬ htAt i p p.length < lowT i p by omega)]
  by_cases hm : (lowT i p - htAt i p (lowB i p)).tmod (slopeAt i p (lowB i p)) = 0
  · rw [if_pos hm, if_pos hm]
    obtain ⟨hT, _⟩ := low_turn hp ts h hm
    have h1 := hT.to0
    refine ⟨fun hn => by omega, fun _ => ⟨by omega, by rw [chk_opt]⟩⟩
  · rw [if_neg hm, if_neg hm]
    exact ⟨fun _ => rfl, fun hn => by omega⟩

set_option maxRecDepth 100000 in
set_option maxHeartbeats 8000000 in
theorem l9Lower_any (R : Nat) (i : Nat) (a : Option Addr) (n c : Nat) (xs : List Stp) (w : World) (h : TermsAt w a n xs) (hnc : n ≤ c) (_hc : c ≤ 9223372036854775807) (hp : PathP R xs) (hi : i < R) (hle : lowT i xs ≤ htAt i xs xs.length) :
    Calls Tryz.prog 96 #[.int .i64 i, .slice a n c] w fun e w' => e = .returned (.tuple #[.int .i64 (timeAt xs (lowA i xs)), .int .i64 (lowV i xs)]) ∧ Ext w w' := by
  have hln := h.len
  have hn60 : n ≤ 60 := by have := hp.len; omega
  have hmin := min_small hp hi
  rw [hln] at hmin
  have hLP := low_places hle
  have hsl := low_slope hp hle
  have HB := hidP (fun k (hk : k ≤ n) => ht_small hp hi k (by omega))
  have HTm := hidP (fun k (hk : k ≤ n) => time_small hp k (by omega))
  have HHt := hidP (l9Heights_any i R a n c xs w h hp hi)
  have HP := hidP hp
  have Hh := hidP h
  have HL := hidP hln
  have HLP := hidP hLP
  have HBf := hidP (lowB_before hle)
  have HSn := hidP hsl
  have hAn : lowA i xs ≤ n := by have := hLP.ab; have := hLP.bn; omega
  have hBn : lowB i xs < n := by have := hLP.bn; omega
  obtain ⟨lo, hlo⟩ : ∃ lo, lo = minHt i xs n := ⟨_, rfl⟩
  have Hlo := hidP hlo
  have HTT : Hid (lowT i xs = lo + 27720) := by
    show _ = _
    unfold lowT
    rw [HL.out, hlo]
  rw [← hlo] at hmin
  obtain ⟨U, hU⟩ : ∃ U, U = timeAt xs (lowA i xs) := ⟨_, rfl⟩
  obtain ⟨V, hV⟩ : ∃ V, V = lowV i xs := ⟨_, rfl⟩
  have HU := hidP hU
  have HV := hidP hV
  rw [← hU, ← hV]
  clear h hp hLP hsl hlo hln hU hV hle
  go_enter Tryz.func96, Tryz.ntmps96
  go_wp2_with fail
  refine HHt.out.mono ?_
  rintro e w2 ⟨gh, ch, rfl, ho, hx⟩
  have HX2 := hidP hx
  have HO2 := hidP ho
  have HMn := hidP (l9Least_any (some ⟨gh, 0, none⟩) (n + 1) ch _ w2 ho.ints (by omega) (by omega))
  rw [minOf_hts, ← Hlo.out] at HMn
  have HCl : Hid (∀ w', Ext w2 w' → ∀ k, k ≤ n → w'.cell? ⟨gh, k, none⟩ = some (.int .i64 (htAt i xs k))) := by
    intro w' hx' k hk
    obtain ⟨g', e', _, _, q, _⟩ := (HO2.out.below hx').cell k (by omega)
    simp only [Option.some.injEq, Addr.mk.injEq, and_true] at e'
    rw [← e', hts_get _ _ _ _ hk] at q
    exact q
  clear ho hx HHt
  go_wp2_with fail
  refine HMn.out.mono ?_
  rintro e w2' ⟨rfl, hww⟩
  rw [hww]
  clear HMn hww
  go_wp2
  go_loopw [8] (fun ff wr => ∃ f : Nat, lowA i xs ≤ f ∧ f ≤ n ∧ ff = .int .i64 f ∧ wr = w2) (fun ff _ => (intOf ff).toNat)
  case atStart => exact ⟨n, hAn, Nat.le_refl _, by go_num, rfl⟩
  case round =>
    obtain ⟨f, hf1, hf2, rfl, rfl⟩ := hrel
    have q := HCl.out wr (Ext.refl _) f hf2
    have hf3 : (f : Int) < (n : Int) + 1 := by omega
    have hf4 : (0 : Int) ≤ (f : Int) := by omega
    by_cases hh : htAt i xs f = lo
    · have hfA : f = lowA i xs := by
        rcases Nat.eq_or_lt_of_le hf1 with h | h
        · exact h.symm
        · exact absurd (hh.trans (by rw [HL.out]; exact Hlo.out)) (HLP.out.aft f h (by have := HL.out; omega))
      rw [hh] at q
      have HFA := hidP hfA
      have HTime := hidP (l9Time_any a f c (xs.take f) wr ((Hh.out.below HX2.out).take f hf2) (by omega) (fun k hk => by
        have h1 := HP.out.dur k (by have := HL.out; omega)
        have e : lenAt (xs.take f) k = lenAt xs k := by
          unfold lenAt
          simp [List.getD_eq_getElem?_getD, hk]
        rw [e]
        omega))
      rw [timeAt_take _ _ _ (Nat.le_refl _), hfA, ← HU.out, ← hfA] at HTime
      have hfc : (f : Int) ≤ (c : Int) := by omega
      clear hh hfA hf1
      go_wp2_with fail
      refine HTime.out.mono ?_
      rintro e w3 ⟨rfl, hww⟩
      rw [hww]
      clear hww q HTime
      go_wp2
      go_loopw [8, 10] (fun ll tt wr' => ∃ l : Nat, f ≤ l ∧ l ≤ lowB i xs ∧ ll = .int .i64 l ∧ tt = .int .i64 (timeAt xs l) ∧ wr' = wr) (fun ll _ _ => n - (intOf ll).toNat)
      case atStart => exact ⟨f, Nat.le_refl _, by rw [HFA.out]; exact HLP.out.ab, rfl, by rw [HU.out, HFA.out], rfl⟩
      case round =>
        obtain ⟨P, hl1, hl2, rfl, rfl, rfl⟩ := hrel
        have q := HCl.out wr (Ext.refl _) (P + 1) (by omega)
        have hb := HB.out (P + 1) (by omega)
        have hwr0 : IntKind.i64.wrap (lo + 27720) = lo + 27720 := wrap_in (by omega) (by omega)
        have hl3 : (P : Int) + 1 < (n : Int) + 1 := by omega
        have hl4 : (0 : Int) ≤ (P : Int) + 1 := by omega
        have hPn : P < n := by omega
        have hPn2 : (P : Int) < (n : Int) := by omega
        have htm := HTm.out P (by omega)
        by_cases hh : htAt i xs (P + 1) < lo + 27720
        · have hlB : P + 1 ≤ lowB i xs := by
            rcases Nat.eq_or_lt_of_le hl2 with h | h
            · have h1 := HLP.out.hb1
              rw [← h, HTT.out] at h1
              omega
            · exact h
          obtain ⟨b, o, aw, cw, W, L, rfl, HW, HLn, _, hq⟩ := (Hh.out.below HX2.out).way P hPn
          obtain ⟨p1, p2, _⟩ := hq wr (Ext.refl _)
          have hTn : Hid (timeAt xs (P + 1) = timeAt xs P + L) := by
            show _ = _
            rw [← HLn.out]
            rfl
          have htm2 := HTm.out (P + 1) (by omega)
          rw [hTn.out] at htm2
          generalize htAt i xs (P + 1) = V1 at *
          have hnot : ¬ (lo + 27720 ≤ V1) := by omega
          obtain ⟨T0, hT0⟩ : ∃ T, T = timeAt xs P := ⟨_, rfl⟩
          rw [← hT0] at hTn htm htm2 ⊢
          clear hT0 hq p1
          go_wp2
          go_roundw
          case rel => exact ⟨P + 1, by omega, hlB, by go_num, by rw [hTn.out], trivial⟩
          case measure => simp [intOf]; omega
        · have hPB : P = lowB i xs := by
            rcases Nat.eq_or_lt_of_le hl2 with h | h
            · exact h
            · have h1 := HBf.out (P + 1) (by have := HFA.out; omega) (by omega)
              rw [HTT.out] at h1
              exact absurd h1 hh
          have HPB := hidP hPB
          obtain ⟨b, o, aw, cw, W, L, rfl, HW, HLn, _, hq⟩ := (Hh.out.below HX2.out).way P hPn
          have hWl := (HP.out.way P (by have := HL.out; omega)).1
          rw [HW.out] at hWl
          obtain ⟨bw, ow, rfl, hwi⟩ := (hq wr (Ext.refl _)).2.2.one i (by omega)
          obtain ⟨Sl, hSl⟩ : ∃ s, s = W.getD i 0 := ⟨_, rfl⟩
          rw [← hSl] at hwi
          have HSl : Hid (slopeAt i xs P = Sl) := by
            show _ = _
            unfold slopeAt
            rw [HW.out, hSl]
          obtain ⟨H0, hH0⟩ : ∃ v, v = htAt i xs P := ⟨_, rfl⟩
          obtain ⟨T0, hT0⟩ : ∃ v, v = timeAt xs P := ⟨_, rfl⟩
          have hHb := HB.out P (by omega)
          rw [← hH0] at hHb
          rw [← hT0] at htm ⊢
          have hS0 : Sl ≠ 0 := by
            rw [← HSl.out, hPB]
            exact HSn.out
          have HVV : Hid (l9CrossV T0 H0 Sl (lo + 27720) = V) := by
            show _ = _
            rw [HV.out]
            unfold lowV
            rw [← hPB, HTT.out, HSl.out, hH0, hT0]
          have HCr := hidP (fun w' => l9Cross_any T0 H0 Sl (lo + 27720) w' (by omega) (by omega) (by omega) hS0)
          rw [HVV.out] at HCr
          have HF : Hid (∀ w', Ext wr w' → w'.cell? ⟨gh, P, none⟩ = some (.int .i64 H0) ∧ w'.cell? ⟨b, o + P * 2, none⟩ = some (.slice (some ⟨bw, ow, none⟩) W.length cw) ∧ w'.cell? ⟨bw, ow + i, none⟩ = some (.int .i64 Sl)) := by
            intro w' hx
            have h1 := HCl.out w' hx P (by omega)
            rw [← hH0] at h1
            exact ⟨h1, (hq w' hx).1, hwi w' hx⟩
          have hiw : (i : Int) < (W.length : Int) := by omega
          have hi0 : (0 : Int) ≤ (i : Int) := by omega
          have hP0 : (0 : Int) ≤ (P : Int) := by omega
          have hP1 : (P : Int) < (n : Int) + 1 := by omega
          have hge : lo + 27720 ≤ htAt i xs (P + 1) := by omega
          obtain ⟨V1, hV1⟩ : ∃ v, v = htAt i xs (P + 1) := ⟨_, rfl⟩
          rw [← hV1] at q hb hh hge
          have hE : Ext wr wr.drew := Ext.drew wr
          clear hPB hq hwi hSl hH0 hT0 hV1 hS0 hWl
          go_wp2
          clear q hb hh hge
          (refine walkR_start (fun w' => Ext wr w') 17 (by kernel_rfl) ?_; simp only [numbered, List.take_succ_cons, List.take_zero, Nat.zero_add, Nat.reduceAdd, List.length_cons, List.length_nil])
          (repeat (first | (refine walkR_still (v := ?_) rfl (by decide +kernel) rfl (fun _ _ _ h => h) hE ?_ ?_; rotate_left; (focus (intro w' hw'; obtain ⟨q1, q2, q3⟩ := HF.out w' hw'; go_simp; all_goals (with_reducible rfl))); simp only [Act.put, List.setIfInBounds_toArray, List.set_cons_zero, List.set_cons_succ]) | (refine walkR_skip rfl (by decide +kernel) rfl (fun _ _ _ h => h) hE ?_; simp only [Act.put, List.setIfInBounds_toArray, List.set_cons_zero, List.set_cons_succ])))
          (refine walkR_only (fun w' => Ext wr w') rfl (by decide +kernel) rfl (fun _ h => h) ?_; intro K hK; go_simp; refine (HCr.out _).mono ?_; rintro e w3 ⟨rfl, hx3⟩; refine hK _ _ (hx3 ▸ hE) ?_; clear hK K; (try simp only [Act.put, List.setIfInBounds_toArray, List.set_cons_zero, List.set_cons_succ]))
          have hE3 : Ext wr w3 := hx3 ▸ hE
          clear hx3 hE
          (refine walkR_tail (by rfl) (by kernel_rfl) ?_; simp only [List.drop_succ_cons, List.drop_zero])
          go_wp2
          refine bodyPost_ret (v := .tuple #[.int .i64 U, .int .i64 V]) (by simp [results, Tryz.results96, go_sem]) rfl ⟨rfl, HX2.out.trans hE3⟩
    · have hf5 : lowA i xs < f := by
        rcases Nat.eq_or_lt_of_le hf1 with h | h
        · exfalso
          apply hh
          rw [← h, HLP.out.ha, HL.out]
          exact Hlo.out.symm
        · exact h
      have hf6 : 1 ≤ f := by omega
      have hne : (htAt i xs f != lo) = true := by simpa using hh
      generalize htAt i xs f = V1 at *
      clear hh
      go_wp2
      go_roundw
      case rel => exact ⟨f - 1, by omega, by omega, by go_num, trivial⟩
      case measure => simp [intOf]; omega
end Go.Proofs.YtdhlapppahkjeaaGreatDoor

namespace Go.Proofs.YtdhlapppahkjeaaGreatDoor
open Go.RowKit

theorem OwnK.room {α : Type} {K : Knd α} {w : World} {B U : Nat} {a : Option Addr} {n c : Nat} {hs : List Hdr} {xs : List α} (h : OwnK K w B U a n c hs xs) : n ≤ c ∧ c ≤ 9223372036854775807 := by
  rcases h.form with ⟨_, h0, h1⟩ | ⟨_, _, _, _, _, _, h1, h2⟩
  · omega
  · unfold maxLen at h2; omega
set_option maxHeartbeats 4000000 in
theorem l9LowerPath_any (R : Nat) (ta : Option Addr) (tn tc : Nat) (ts : List Int) (i : Nat) (a : Option Addr) (n c : Nat) (xs : List Stp) (w : World) (hc : IntsAt w ta tn ts) (hT : typeB R ts = true) (hi : i < R) (h : StepsAt w a n xs) (hnc : n ≤ c) (hcc : c ≤ 9223372036854775807) (hp : PathP R xs) :
    PathRes 74 #[carV R ta tn tc, .int .i64 i, .slice a n c] w (lowR R ts i xs) := by
  unfold PathRes
  obtain ⟨⟨J1, J2⟩, hJ⟩ : ∃ J, J = lowR R ts i xs := ⟨_, rfl⟩
  rw [← hJ]
  have HJ := hidP hJ
  clear hJ
  dsimp only
  have hx1 := Ext.alloc w (.cells #[.int .i64 R, .slice ta tn tc] 29)
  have HC := hidP (fun w' (hx : Ext (w.alloc (.cells #[.int .i64 R, .slice ta tn tc] 29)) w') => (CarAt.new w _ rfl (R : Int) ta tn tc 29).below hx)
  have HX1 := hidP hx1
  have hln := h.len
  have hn60 : n ≤ 60 := by have := hp.len; omega
  have hmin := min_small hp hi
  rw [hln] at hmin
  have hbn := ht_small hp hi n (by omega)
  have HHt := hidP (l9Heights_any i R a n c xs _ (h.below hx1).terms hp hi)
  have HLw := hidP (fun w' (hx : Ext w w') (hle : lowT i xs ≤ htAt i xs xs.length) => l9Lower_any R i a n c xs w' (h.below hx).terms hnc hcc hp hi hle)
  have HBt := hidP (fun w' (hx : Ext w w') (u v : Int) (huv : u ≤ v) => l9Between_any R ta tn tc ts i a n c xs u v w' (hc.below hx) hT hi (h.below hx) hp huv)
  have HP := hidP hp
  have HL := hidP hln
  obtain ⟨lo, hlo⟩ : ∃ lo, lo = minHt i xs n := ⟨_, rfl⟩
  have Hlo := hidP hlo
  have HTT : Hid (lowT i xs = lo + 27720) := by
    show _ = _
    unfold lowT
    rw [HL.out, hlo]
  rw [← hlo] at hmin
  obtain ⟨V, hV⟩ : ∃ V, V = htAt i xs n := ⟨_, rfl⟩
  have HV := hidP hV
  rw [← hV] at hbn
  clear hc h hx1 hT hp hln hlo hV
  obtain ⟨w1, hw1⟩ : ∃ w1, w1 = w.alloc (.cells #[.int .i64 R, .slice ta tn tc] 29) := ⟨_, rfl⟩
  rw [← hw1] at HC HX1 HHt
  go_enter Tryz.func74, Tryz.ntmps74
  go_wp2_with fail
  rw [← hw1]
  clear hw1
  refine HHt.out.mono ?_
  rintro e w2 ⟨gh, ch, rfl, ho, hx⟩
  have HX2 := hidP hx
  have HO2 := hidP ho
  have HMn := hidP (fun w' (hx : Ext w2 w') => l9Least_any (some ⟨gh, 0, none⟩) (n + 1) ch _ w' (ho.below hx).ints (by omega) (by omega))
  rw [minOf_hts, ← Hlo.out] at HMn
  have HCl : Hid (∀ w', Ext w2 w' → w'.cell? ⟨gh, n, none⟩ = some (.int .i64 V)) := by
    intro w' hx'
    obtain ⟨g', e', _, _, q, _⟩ := (HO2.out.below hx').cell n (by omega)
    simp only [Option.some.injEq, Addr.mk.injEq, and_true] at e'
    rw [← e', hts_get _ _ _ _ (Nat.le_refl _), ← HV.out] at q
    exact q
  have hn1 : (n : Int) < (n : Int) + 1 := by omega
  have hn0 : (0 : Int) ≤ (n : Int) := by omega
  have hwn : IntKind.i64.wrap (n : Int) = (n : Int) := wrap_in (by omega) (by omega)
  have hwl : IntKind.i64.wrap (lo + 27720) = lo + 27720 := wrap_in (by omega) (by omega)
  have hE : Ext w2 w2.drew := Ext.drew w2
  clear ho hx HHt
  go_wp2
  (refine walkR_start (fun w' => Ext w2 w') 9 (by kernel_rfl) ?_; simp only [numbered, List.take_succ_cons, List.take_zero, Nat.zero_add, Nat.reduceAdd, List.length_cons, List.length_nil])
  (repeat (first | (refine walkR_still (v := ?_) rfl (by decide +kernel) rfl (fun _ _ _ h => h) hE ?_ ?_; rotate_left; (focus (intro w' hw'; obtain q := HCl.out w' hw'; go_simp; all_goals (with_reducible rfl))); simp only [Act.put, List.setIfInBounds_toArray, List.set_cons_zero, List.set_cons_succ]) | (refine walkR_skip rfl (by decide +kernel) rfl (fun _ _ _ h => h) hE ?_; simp only [Act.put, List.setIfInBounds_toArray, List.set_cons_zero, List.set_cons_succ])))
  (refine walkR_only (fun w' => Ext w2 w') rfl (by decide +kernel) rfl (fun _ h => h) ?_; intro K hK; go_simp; refine (HMn.out _ hE).mono ?_; rintro e w3 ⟨rfl, hx3⟩; refine hK _ _ (hx3 ▸ hE) ?_; clear hK K; (try simp only [Act.put, List.setIfInBounds_toArray, List.set_cons_zero, List.set_cons_succ]))
  have hE3 : Ext w2 w3 := hx3 ▸ hE
  clear hx3 hE
  (repeat (first | (refine walkR_still (v := ?_) rfl (by decide +kernel) rfl (fun _ _ _ h => h) hE3 ?_ ?_; rotate_left; (focus (intro w' hw'; skip; go_simp; all_goals (with_reducible rfl))); simp only [Act.put, List.setIfInBounds_toArray, List.set_cons_zero, List.set_cons_succ]) | (refine walkR_skip rfl (by decide +kernel) rfl (fun _ _ _ h => h) hE3 ?_; simp only [Act.put, List.setIfInBounds_toArray, List.set_cons_zero, List.set_cons_succ])))
  (refine walkR_tail (by rfl) (by kernel_rfl) ?_; simp only [List.drop_succ_cons, List.drop_zero])
  have HX3 := hidP (HX2.out.trans hE3)
  clear hE3
  by_cases hc : V < lo + 27720
  · have HJn : J1 = false ∧ J2 = [] := by
      have h1 : lowR R ts i xs = (false, []) := by
        unfold lowR lowS
        rw [HL.out, HTT.out, ← HV.out, if_pos hc]
        rfl
      have h2 := HJ.out.trans h1
      simp only [Prod.mk.injEq] at h2
      exact h2
    go_wp2
    refine bodyPost_ret (v := .tuple #[.slice none 0 0, .bool false]) (by simp [results, Tryz.results74, go_sem]) rfl ⟨none, 0, 0, [], by rw [HJn.1], ?_, HX1.out.trans HX3.out⟩
    rw [HJn.2]
    exact OwnK.nil stepK _ _ _
  · have hle : lowT i xs ≤ htAt i xs xs.length := by rw [HTT.out, HL.out, ← HV.out]; omega
    obtain ⟨ht1, ht2⟩ := lowR_times HP.out ts hle
    have HT1 := hidP ht1
    have HT2 := hidP ht2
    have HLo := hidP (HLw.out w3 (HX1.out.trans HX3.out) hle)
    obtain ⟨U, hU⟩ : ∃ U, U = timeAt xs (lowA i xs) := ⟨_, rfl⟩
    obtain ⟨T, hT⟩ : ∃ T, T = lowV i xs := ⟨_, rfl⟩
    rw [← hU, ← hT] at HLo HT2
    rw [← hT] at HT1
    clear ht1 ht2 hle hU hT
    go_wp2_with fail
    refine HLo.out.mono ?_
    rintro e w4 ⟨rfl, hx4⟩
    have HX4 := hidP (HX3.out.trans hx4)
    clear hx4 HLo
    obtain ⟨f0, f1⟩ := HC.out w4 HX4.out
    by_cases hneg : T < 0
    · have HJn : J1 = false ∧ J2 = [] := by
        have h2 := HJ.out.trans (HT1.out hneg)
        simp only [Prod.mk.injEq] at h2
        exact h2
      go_wp2
      refine bodyPost_ret (v := .tuple #[.slice none 0 0, .bool false]) (by simp [results, Tryz.results74, go_sem]) rfl ⟨none, 0, 0, [], by rw [HJn.1], ?_, HX1.out.trans HX4.out⟩
      rw [HJn.2]
      exact OwnK.nil stepK _ _ _
    · obtain ⟨huv, hJe⟩ := HT2.out (by omega)
      have HB := HBt.out w4 (HX1.out.trans HX4.out) U T huv
      unfold PathRes at HB
      rw [← hJe, ← HJ.out] at HB
      dsimp only at HB
      have HB2 := hidP HB
      clear HB huv hJe
      go_wp2_with fail
      refine HB2.out.mono ?_
      rintro e w5 ⟨a5, n5, c5, hs5, rfl, ho5, hx5⟩
      have HX5 := hidP (HX4.out.trans hx5)
      have HO5 := hidP (ho5.weaken (HX1.out.trans HX4.out).size (Nat.le_refl _))
      clear ho5 hx5 f0 f1 HB2
      go_wp2
      refine bodyPost_ret (v := .tuple #[.slice a5 n5 c5, .bool J1]) (by simp [results, Tryz.results74, go_sem]) rfl ⟨a5, n5, c5, hs5, rfl, HO5.out, HX1.out.trans HX5.out⟩

end Go.Proofs.YtdhlapppahkjeaaGreatDoor

namespace Go.Proofs.YtdhlapppahkjeaaGreatDoor
open Go.RowKit

end Go.Proofs.YtdhlapppahkjeaaGreatDoor

namespace Go.Proofs.YtdhlapppahkjeaaGreatDoor
open Go.RowKit

end Go.Proofs.YtdhlapppahkjeaaGreatDoor

namespace Go.Proofs.YtdhlapppahkjeaaGreatDoor
open Go.RowKit

end Go.Proofs.YtdhlapppahkjeaaGreatDoor

namespace Go.Proofs.YtdhlapppahkjeaaGreatDoor
open Go.RowKit

def plusV (xs : List Int) (l : Int) (ys : List Int) : List Int := (List.range xs.length).map fun j => xs.getD j 0 + l * ys.getD j 0
theorem plusV_length (xs : List Int) (l : Int) (ys : List Int) : (plusV xs l ys).length = xs.length := by simp [plusV]
theorem plusV_get (xs : List Int) (l : Int) (ys : List Int) (k : Nat) (hk : k < xs.length) : (plusV xs l ys).getD k 0 = xs.getD k 0 + l * ys.getD k 0 := by
  simp [plusV, List.getD_eq_getElem?_getD, hk]
/-- no sum leaves the range -/
def PlusIn (xs : List Int) (l : Int) (ys : List Int) : Prop := ∀ j, j < xs.length → (-1000000000000 ≤ l * ys.getD j 0 ∧ l * ys.getD j 0 ≤ 1000000000000) ∧ (-1000000000000 ≤ xs.getD j 0 ∧ xs.getD j 0 ≤ 1000000000000)
structure PlStep (xs : List Int) (l : Int) (ys : List Int) (k : Nat) (A Z : Int) : Prop where
  mul : IntKind.i64.wrap (l * Z) = l * Z
  add : IntKind.i64.wrap (A + l * Z) = A + l * Z
  res : (plusV xs l ys).getD k 0 = A + l * Z
theorem pl_step {xs : List Int} {l : Int} {ys : List Int} (h : PlusIn xs l ys) {k : Nat} (hk : k < xs.length) : PlStep xs l ys k (xs.getD k 0) (ys.getD k 0) := by
  obtain ⟨⟨h1, h2⟩, h3, h4⟩ := h k hk
  exact ⟨wrap_in (by omega) (by omega), wrap_in (by omega) (by omega), plusV_get _ _ _ _ hk⟩

set_option maxHeartbeats 2000000 in
theorem listPlus_any (a : Option Addr) (n c : Nat) (xs : List Int) (l : Int) (b : Option Addr) (m d : Nat) (ys : List Int) (w : World) (h : IntsAt w a n xs) (hnil : a = none → c = 0) (hn : n ≤ 1000000) (h2 : IntsAt w b m ys) (hnm : n = m) (hb : PlusIn xs l ys) :
    Calls Tryz.prog 42 #[.slice a n c, .int .i64 l, .slice b m d] w fun e w' => ∃ a' c', e = .returned (.slice a' n c') ∧ OwnI w' w.heap.size a' n c' (plusV xs l ys) ∧ Ext w w' := by
  subst hnm
  have HCl := hidP (clone_any a n c xs w h hnil (by omega))
  have HI := hidP h2
  have HB := hidP hb
  have HW := hidP h.len
  have HL : Hid ((plusV xs l ys).length = n) := (plusV_length _ _ _).trans h.len
  clear h hnil h2 hb
  go_enter Tryz.func42, Tryz.ntmps42
  go_wp2_with fail
  refine HCl.out.mono ?_
  rintro e w2 ⟨a1, c1, rfl, ho, hx⟩
  have HX2 := hidP hx
  have HO2 := hidP ho
  clear ho hx HCl
  go_wp2
  go_loopw [14] (fun ii wr => ∃ k : Nat, k ≤ n ∧ ii = .int .i64 k ∧ Hid (OwnI wr w.heap.size a1 n c1 (partly xs (plusV xs l ys) k)) ∧ Hid (Ext w wr)) (fun ii _ => n - (intOf ii).toNat)
  case atStart => exact ⟨0, Nat.zero_le _, rfl, by rw [partly_zero]; exact HO2, HX2⟩
  case round =>
    obtain ⟨k, hk, rfl, HO, HX⟩ := hrel
    by_cases hlt : k < n
    · have hst := pl_step HB.out (k := k) (by rw [HW.out]; exact hlt)
      obtain ⟨A, hA⟩ : ∃ A, A = xs.getD k 0 := ⟨_, rfl⟩
      obtain ⟨Z, hZ⟩ : ∃ Z, Z = ys.getD k 0 := ⟨_, rfl⟩
      rw [← hA, ← hZ] at hst
      obtain ⟨b', o', rfl, hwk⟩ := HI.out.one k hlt
      rw [← hZ] at hwk
      have q2 := hwk wr HX.out
      obtain ⟨g, rfl, hg1, _, q1, q3⟩ := HO.out.cell k hlt
      rw [partly_at _ _ _ (by rw [HL.out]; omega), ← hA] at q1
      have hmul := hst.mul
      have hadd := hst.add
      have HSt : Hid (OwnI (wr.setCell ⟨g, k, none⟩ (.int .i64 (A + l * Z))) w.heap.size (some ⟨g, 0, none⟩) n c1 (partly xs (plusV xs l ys) (k + 1))) := by
        have h1 := HO.out.stored k (A + l * Z)
        rw [← hst.res] at h1
        rw [partly_succ xs (plusV xs l ys) n k hlt HW.out HL.out] at h1
        rw [← hst.res]
        exact h1
      have HX3 : Hid (Ext w (wr.setCell ⟨g, k, none⟩ (.int .i64 (A + l * Z)))) := Ext.setNew HX.out _ _ hg1 _
      have hk0 : (0 : Int) ≤ (k : Int) := by omega
      have hkn : (k : Int) < (n : Int) := by omega
      clear hst hA hZ hwk hg1
      go_wp2
      go_roundw
      case rel => exact ⟨k + 1, by omega, by go_num, HSt, HX3⟩
      case measure => simp [intOf]; omega
    · obtain rfl : n = k := by omega
      have HD : Hid (partly xs (plusV xs l ys) n = plusV xs l ys) := partly_all _ _ _ HW.out HL.out
      rw [HD.out] at HO
      go_wp2
      go_ret
      exact ⟨_, _, rfl, HO.out, HX.out⟩
set_option maxHeartbeats 2000000 in
theorem l5Plus_any (a : Option Addr) (n c : Nat) (xs : List Int) (l : Int) (b : Option Addr) (m d : Nat) (ys : List Int) (w : World) (h : IntsAt w a n xs) (hnil : a = none → c = 0) (hn : n ≤ 1000000) (h2 : IntsAt w b m ys) (hnm : n = m) (hb : PlusIn xs l ys) :
    Calls Tryz.prog 35 #[.slice a n c, .int .i64 l, .slice b m d] w fun e w' => ∃ a' c', e = .returned (.slice a' n c') ∧ OwnI w' w.heap.size a' n c' (plusV xs l ys) ∧ Ext w w' := by
  subst hnm
  have HCl := hidP (l1Ints_any a n c xs w h hnil (by omega))
  have HI := hidP h2
  have HB := hidP hb
  have HW := hidP h.len
  have HL : Hid ((plusV xs l ys).length = n) := (plusV_length _ _ _).trans h.len
  clear h hnil h2 hb
  go_enter Tryz.func35, Tryz.ntmps35
  go_wp2_with fail
  refine HCl.out.mono ?_
  rintro e w2 ⟨a1, c1, rfl, ho, hx⟩
  have HX2 := hidP hx
  have HO2 := hidP ho
  clear ho hx HCl
  go_wp2
  go_loopw [8] (fun ii wr => ∃ k : Nat, k ≤ n ∧ ii = .int .i64 k ∧ Hid (OwnI wr w.heap.size a1 n c1 (partly xs (plusV xs l ys) k)) ∧ Hid (Ext w wr)) (fun ii _ => n - (intOf ii).toNat)
  case atStart => exact ⟨0, Nat.zero_le _, rfl, by rw [partly_zero]; exact HO2, HX2⟩
  case round =>
    obtain ⟨k, hk, rfl, HO, HX⟩ := hrel
    by_cases hlt : k < n
    · have hst := pl_step HB.out (k := k) (by rw [HW.out]; exact hlt)
      obtain ⟨A, hA⟩ : ∃ A, A = xs.getD k 0 := ⟨_, rfl⟩
      obtain ⟨Z, hZ⟩ : ∃ Z, Z = ys.getD k 0 := ⟨_, rfl⟩
      rw [← hA, ← hZ] at hst
      obtain ⟨b', o', rfl, hwk⟩ := HI.out.one k hlt
      rw [← hZ] at hwk
      have HWk := hidP (fun w' (hx : Ext wr w') => hwk w' (HX.out.trans hx))
      obtain ⟨g, rfl, hg1, _, _, _⟩ := HO.out.cell k hlt
      have HF : Hid (∀ w', Ext wr w' → w'.cell? ⟨g, k, none⟩ = some (.int .i64 A) ∧ w'.frozen? ⟨g, k, none⟩ = false ∧ w'.cell? ⟨b', o' + k, none⟩ = some (.int .i64 Z)) := by
        show ∀ w', _
        intro w' hx
        obtain ⟨g', e', _, _, q1, q2⟩ := (HO.out.below hx).cell k hlt
        simp only [Option.some.injEq, Addr.mk.injEq, and_true] at e'
        subst e'
        rw [partly_at _ _ _ (by rw [HL.out]; omega), ← hA] at q1
        exact ⟨q1, q2, HWk.out w' hx⟩
      have HSt : Hid (∀ w', Ext wr w' → OwnI (w'.setCell ⟨g, k, none⟩ (.int .i64 (A + l * Z))) w.heap.size (some ⟨g, 0, none⟩) n c1 (partly xs (plusV xs l ys) (k + 1))) := by
        show ∀ w', _
        intro w' hx
        have h1 := (HO.out.below hx).stored k (A + l * Z)
        rw [← hst.res] at h1
        rw [partly_succ xs (plusV xs l ys) n k hlt HW.out HL.out] at h1
        rw [← hst.res]
        exact h1
      have HG := hidP hg1
      have hmul := hst.mul
      have hadd := hst.add
      have hk0 : (0 : Int) ≤ (k : Int) := by omega
      have hkn : (k : Int) < (n : Int) := by omega
      clear hst hA hZ hwk hg1
      have hE : Ext wr wr.drew := Ext.drew wr
      go_wp2
      (refine walkR_start (fun w' => Ext wr w') 13 (by kernel_rfl) ?_; simp only [numbered, List.take_succ_cons, List.take_zero, Nat.zero_add, Nat.reduceAdd, List.length_cons, List.length_nil])
      (repeat (first | (refine walkR_still (v := ?_) rfl (by decide +kernel) rfl (fun _ _ _ h => h) hE ?_ ?_; rotate_left; (focus (intro w' hw'; obtain ⟨q1, q2, q3⟩ := HF.out w' hw'; go_simp; all_goals (with_reducible rfl))); simp only [Act.put, List.setIfInBounds_toArray, List.set_cons_zero, List.set_cons_succ]) | (refine walkR_skip rfl (by decide +kernel) rfl (fun _ _ _ h => h) hE ?_; simp only [Act.put, List.setIfInBounds_toArray, List.set_cons_zero, List.set_cons_succ])))
      (refine walkR_tail (by rfl) (by kernel_rfl) ?_; simp only [List.drop_succ_cons, List.drop_zero])
      obtain ⟨q1, q2, q3⟩ := HF.out _ hE
      have HO3 := hidP (HSt.out _ hE)
      have HX3 : Hid (Ext w (wr.drew.setCell ⟨g, k, none⟩ (.int .i64 (A + l * Z)))) := Ext.setNew (HX.out.trans hE) _ _ HG.out _
      clear hE
      go_wp2
      go_roundw
      case rel => exact ⟨k + 1, by omega, by go_num, HO3, HX3⟩
      case measure => simp [intOf]; omega
    · obtain rfl : n = k := by omega
      have HD : Hid (partly xs (plusV xs l ys) n = plusV xs l ys) := partly_all _ _ _ HW.out HL.out
      rw [HD.out] at HO
      go_wp2
      go_ret
      exact ⟨_, _, rfl, HO.out, HX.out⟩
end Go.Proofs.YtdhlapppahkjeaaGreatDoor

namespace Go.Proofs.YtdhlapppahkjeaaGreatDoor
open Go.RowKit

def endV (r : Nat) (p : List Stp) (k : Nat) : List Int := (List.range r).map fun j => htAt j p k
theorem endV_length (r : Nat) (p : List Stp) (k : Nat) : (endV r p k).length = r := by simp [endV]
theorem endV_get (r : Nat) (p : List Stp) (k j : Nat) (hj : j < r) : (endV r p k).getD j 0 = htAt j p k := by simp [endV, List.getD_eq_getElem?_getD, hj]
theorem endV_zero (r : Nat) (p : List Stp) : endV r p 0 = List.replicate r 0 := by
  apply List.ext_getElem
  · simp [endV]
  · intro j h1 h2
    simp [endV, htAt]
theorem endV_succ (r : Nat) (p : List Stp) (k : Nat) : plusV (endV r p k) (lenAt p k) (wayAt p k) = endV r p (k + 1) := by
  unfold plusV
  rw [endV_length]
  conv => rhs; unfold endV
  apply List.map_congr_left
  intro j hj
  rw [endV_get r p k j (List.mem_range.1 hj)]
  rfl
theorem plusIn_end {r : Nat} {p : List Stp} (h : PathP r p) {k : Nat} (hk : k < p.length) : PlusIn (endV r p k) (lenAt p k) (wayAt p k) := by
  intro j hj
  rw [endV_length] at hj
  rw [endV_get r p k j hj]
  obtain ⟨hd1, hd2⟩ := h.dur k hk
  obtain ⟨hw1, hw2⟩ := (h.way k hk).2 j hj
  have h1 : lenAt p k * (wayAt p k).getD j 0 ≤ lenAt p k * 1000 := Int.mul_le_mul_of_nonneg_left hw2 (by omega)
  have h2 : lenAt p k * (-1000) ≤ lenAt p k * (wayAt p k).getD j 0 := Int.mul_le_mul_of_nonneg_left hw1 (by omega)
  have h3 := ht_small h hj k (by omega)
  exact ⟨⟨by omega, by omega⟩, by omega, by omega⟩
/-- what a path's end is, where it is one -/
def endR (r : Nat) (p : List Stp) : Bool × List Int := if (endV r p p.length).all (fun x => x.tmod 27720 == 0) then (true, (endV r p p.length).map fun x => x.tdiv 27720) else (false, [])

set_option maxHeartbeats 2000000 in
theorem l9End_any (R : Nat) (ta : Option Addr) (tn tc : Nat) (a : Option Addr) (n c : Nat) (xs : List Stp) (w : World) (hR : 1 ≤ R ∧ R ≤ 4) (h : TermsAt w a n xs) (hp : PathP R xs) :
    Calls Tryz.prog 46 #[carV R ta tn tc, .slice a n c] w fun e w' => ∃ a' c', e = .returned (.slice a' R c') ∧ OwnI w' w.heap.size a' R c' (endV R xs n) ∧ Ext w w' := by
  have hx1 := Ext.alloc w (.cells #[.int .i64 R, .slice ta tn tc] 29)
  have HC := hidP (fun w' (hx : Ext (w.alloc (.cells #[.int .i64 R, .slice ta tn tc] 29)) w') => (CarAt.new w _ rfl (R : Int) ta tn tc 29).below hx)
  have HX1 := hidP hx1
  have G := hidP h
  have HP := hidP hp
  have hl := hidP h.len
  have hn60 : n ≤ 60 := by have := hp.len; have := h.len; omega
  obtain ⟨hR1, hR4⟩ := hR
  have hmk := make_ints (R : Int) (by omega) (by omega)
  simp only [Int.toNat_natCast] at hmk
  have HX0 := hidP (fun (w' : World) => Ext.alloc w' (.cells (Array.replicate R (.int .i64 0)) 3))
  have HO0 := hidP (fun (w' : World) (hx : w.heap.size ≤ w'.heap.size) => OwnI.made w' w.heap.size R hx (by unfold maxLen; omega))
  obtain ⟨w1, hw1⟩ : ∃ w1, w1 = w.alloc (.cells #[.int .i64 R, .slice ta tn tc] 29) := ⟨_, rfl⟩
  rw [← hw1] at HC HX1
  have HSE : Hid (w1.heap.size = w.heap.size + 1) := by
    show _ = _
    rw [hw1]
    simp
  obtain ⟨f0, f1⟩ := HC.out w1 (Ext.refl w1)
  clear h hp hx1
  go_enter Tryz.func46, Tryz.ntmps46
  go_wp2_with fail
  rw [← hw1]
  clear hw1
  try go_wp2
  clear hmk
  have HO1 : Hid (OwnI (w1.alloc (.cells (Array.replicate R (.int .i64 0)) 3)) w.heap.size (some ⟨w.heap.size + 1, 0, none⟩) R R (endV R xs 0)) := by
    show OwnI _ _ _ _ _ _
    rw [← HSE.out, endV_zero R xs]
    exact HO0.out w1 HX1.out.size
  have HX2 := hidP (HX0.out w1)
  clear HO0 HX0
  go_loopw [5, 6] (fun out ii wr => ∃ (k : Nat) (a' : Option Addr) (c' : Nat), k ≤ n ∧ out = .slice a' R c' ∧ ii = .int .i64 k ∧ Hid (OwnI wr w.heap.size a' R c' (endV R xs k)) ∧ Hid (Ext w1 wr)) (fun _ ii _ => n - (intOf ii).toNat)
  case atStart => exact ⟨0, _, _, Nat.zero_le _, rfl, rfl, HO1, HX2⟩
  case round =>
    obtain ⟨k, a', c', hk, rfl, rfl, HO, HX⟩ := hrel
    by_cases hlt : k < n
    · obtain ⟨b, o, aw, cw, W, L, rfl, HW, HL, hwl, hq⟩ := (G.out.below (HX1.out.trans HX.out)).way k hlt
      have HQ := hidP hq
      have hwr := (HP.out.way k (by have := hl.out; omega)).1
      rw [HW.out] at hwr
      have HIn := hidP (plusIn_end HP.out (k := k) (by have := hl.out; omega))
      have HNx := hidP (endV_succ R xs k)
      rw [HW.out, HL.out] at HIn HNx
      have HPl := hidP (fun w' (hx : Ext wr w') => l5Plus_any a' R c' (endV R xs k) L aw W.length cw W w' (HO.out.ints.below hx) HO.out.nil_cap (by omega) (hq w' hx).2.2 hwr.symm HIn.out)
      rw [HNx.out] at HPl
      have hk0 : (0 : Int) ≤ (k : Int) := by omega
      have hkn : (k : Int) < (n : Int) := by omega
      clear hwr hq
      have hE : Ext wr wr.drew := Ext.drew wr
      go_wp2
      (refine walkR_start (fun w' => Ext wr w') 12 (by kernel_rfl) ?_; simp only [numbered, List.take_succ_cons, List.take_zero, Nat.zero_add, Nat.reduceAdd, List.length_cons, List.length_nil])
      (repeat (first | (refine walkR_still (v := ?_) rfl (by decide +kernel) rfl (fun _ _ _ h => h) hE ?_ ?_; rotate_left; (focus (intro w' hw'; obtain ⟨q1, q2, _⟩ := HQ.out w' hw'; go_simp; all_goals (with_reducible rfl))); simp only [Act.put, List.setIfInBounds_toArray, List.set_cons_zero, List.set_cons_succ]) | (refine walkR_skip rfl (by decide +kernel) rfl (fun _ _ _ h => h) hE ?_; simp only [Act.put, List.setIfInBounds_toArray, List.set_cons_zero, List.set_cons_succ])))
      (refine walkR_only (fun w' => Ext wr w') rfl (by decide +kernel) rfl (fun _ h => h) ?_; intro K hK; go_simp; refine (HPl.out _ hE).mono ?_; rintro e w3 ⟨a3, c3, rfl, ho3, hx3⟩; refine hK _ _ (hE.trans hx3) ?_; clear hK K; (try simp only [Act.put, List.setIfInBounds_toArray, List.set_cons_zero, List.set_cons_succ]))
      have HO3 := hidP (ho3.base (B' := w.heap.size) (HX1.out.trans (HX.out.trans hE)).size)
      have HX3 := hidP (HX.out.trans (hE.trans hx3))
      clear ho3 hx3 hE
      (refine walkR_tail (by rfl) (by kernel_rfl) ?_; simp only [List.drop_succ_cons, List.drop_zero])
      go_wp2
      go_roundw
      case rel => exact ⟨k + 1, a3, c3, by omega, rfl, by go_num, HO3, HX3⟩
      case measure => simp [intOf]; omega
    · obtain rfl : n = k := by omega
      go_wp2
      go_ret
      exact ⟨_, _, rfl, HO.out, HX1.out.trans HX.out⟩
/-- the rounds of the division -/
theorem quo_at {E : List Int} {k : Nat} (hk : k < E.length) : (E.map fun x => x.tdiv 27720).getD k 0 = (E.getD k 0).tdiv 27720 := by
  simp [List.getD_eq_getElem?_getD, hk]
def allTo (E : List Int) (k : Nat) : Bool := (E.take k).all fun x => x.tmod 27720 == 0
theorem allTo_succ {E : List Int} {k : Nat} (hk : k < E.length) (h : allTo E k = true) : allTo E (k + 1) = ((E.getD k 0).tmod 27720 == 0) := by
  unfold allTo at h ⊢
  rw [List.take_succ_eq_append_getElem hk, List.all_append, h]
  simp [List.getD_eq_getElem?_getD, hk]
theorem allTo_all {E : List Int} {k : Nat} (hk : k = E.length) : allTo E k = E.all fun x => x.tmod 27720 == 0 := by
  unfold allTo
  rw [hk, List.take_length]
theorem all_false {E : List Int} {k : Nat} (h : allTo E k = false) : (E.all fun x => x.tmod 27720 == 0) = false := by
  unfold allTo at h
  rw [List.all_eq_false] at h ⊢
  obtain ⟨x, hx, e⟩ := h
  exact ⟨x, List.mem_of_mem_take hx, e⟩
end Go.Proofs.YtdhlapppahkjeaaGreatDoor

namespace Go.Proofs.YtdhlapppahkjeaaGreatDoor
open Go.RowKit

/-- a call returns a slice of integers in memory of its own, or none -/
def EndRes (f : FuncId) (args : Array Value) (w : World) (res : Bool × List Int) : Prop :=
  Calls Tryz.prog f args w fun e w' => ∃ a n c, e = .returned (.tuple #[.slice a n c, .bool res.1]) ∧ OwnI w' w.heap.size a n c res.2 ∧ Ext w w'
def endT (r : Int) (ts : List Int) (p : List Stp) : Bool × List Int := if typeB r ts && pathB r.toNat p then endR r.toNat p else (false, [])
theorem tdiv_small {x : Int} (h : -83160000 ≤ x ∧ x ≤ 83160000) : -3000 ≤ x.tdiv 27720 ∧ x.tdiv 27720 ≤ 3000 := by
  have h1 := Int.mul_tdiv_add_tmod x 27720
  have h2 := Int.tmod_lt_of_pos x (show (0 : Int) < 27720 by omega)
  have h3 : -27720 < x.tmod 27720 := by
    have := Int.lt_tmod_of_pos x (show (0 : Int) < 27720 by omega)
    omega
  omega
structure QuoStep (E : List Int) (k : Nat) (X : Int) : Prop where
  quo : IntKind.i64.wrap (X.tdiv 27720) = X.tdiv 27720
  res : (E.map fun x => x.tdiv 27720).getD k 0 = X.tdiv 27720
theorem end_at {R : Nat} {p : List Stp} (h : PathP R p) {k : Nat} (hk : k < R) : -83160000 ≤ (endV R p p.length).getD k 0 ∧ (endV R p p.length).getD k 0 ≤ 83160000 := by
  rw [endV_get R p p.length k hk]
  exact ht_small h hk _ (Nat.le_refl _)
theorem quo_step {R : Nat} {p : List Stp} (h : PathP R p) {k : Nat} (hk : k < R) : QuoStep (endV R p p.length) k ((endV R p p.length).getD k 0) := by
  have h1 := tdiv_small (end_at h hk)
  exact ⟨wrap_in (by omega) (by omega), quo_at (by rw [endV_length]; exact hk)⟩

set_option maxHeartbeats 4000000 in
theorem endOf_any (R : Nat) (ta : Option Addr) (tn tc : Nat) (a : Option Addr) (n c : Nat) (xs : List Stp) (w : World) (hR : 1 ≤ R ∧ R ≤ 4) (h : TermsAt w a n xs) (hp : PathP R xs) :
    EndRes 26 #[carV R ta tn tc, .slice a n c] w (endR R xs) := by
  unfold EndRes
  obtain ⟨⟨J1, J2⟩, hJ⟩ : ∃ J, J = endR R xs := ⟨_, rfl⟩
  rw [← hJ]
  have HJ := hidP hJ
  clear hJ
  dsimp only
  obtain ⟨E, hE⟩ : ∃ E, E = endV R xs xs.length := ⟨_, rfl⟩
  obtain ⟨Q, hQ⟩ : ∃ Q, Q = E.map fun x => x.tdiv 27720 := ⟨_, rfl⟩
  have HEl : Hid (E.length = R) := by
    show _ = _
    rw [hE]
    exact endV_length _ _ _
  have HQe : Hid ((E.map fun x => x.tdiv 27720) = Q) := hQ.symm
  have HQl : Hid (Q.length = R) := by
    show _ = _
    rw [hQ, List.length_map]
    exact HEl.out
  have HEr : Hid (endR R xs = if E.all (fun x => x.tmod 27720 == 0) then (true, Q) else (false, [])) := by
    show _ = _
    unfold endR
    rw [← hE, ← hQ]
  have HQs : Hid (∀ k, k < R → QuoStep E k (E.getD k 0)) := by
    show ∀ k, _
    intro k hk
    rw [hE]
    exact quo_step hp hk
  have HEn : Hid (endV R xs n = E) := by
    show _ = _
    rw [hE, h.len]
  have hx1 := Ext.alloc w (.cells #[.int .i64 R, .slice ta tn tc] 29)
  have HC := hidP (fun w' (hx : Ext (w.alloc (.cells #[.int .i64 R, .slice ta tn tc] 29)) w') => (CarAt.new w _ rfl (R : Int) ta tn tc 29).below hx)
  have HX1 := hidP hx1
  have HW1 := hidP hx1.size
  have G := hidP h
  have HP := hidP hp
  have hl := hidP h.len
  have hn60 : n ≤ 60 := by have := hp.len; have := h.len; omega
  obtain ⟨hR1, hR4⟩ := hR
  have hmk := make_ints (R : Int) (by omega) (by omega)
  simp only [Int.toNat_natCast] at hmk
  have HX0 := hidP (fun (w' : World) => Ext.alloc w' (.cells (Array.replicate R (.int .i64 0)) 3))
  have HO0 := hidP (fun (w' : World) => OwnI.made w' w'.heap.size R (Nat.le_refl _) (by unfold maxLen; omega))
  clear h hp hx1 hE hQ
  obtain ⟨w1, hw1⟩ : ∃ w1, w1 = w.alloc (.cells #[.int .i64 R, .slice ta tn tc] 29) := ⟨_, rfl⟩
  rw [← hw1] at HC HX1 HW1
  have HSE : Hid (w1.heap.size = w.heap.size + 1) := by
    show _ = _
    rw [hw1]
    simp
  obtain ⟨f0, f1⟩ := HC.out w1 (Ext.refl w1)
  go_enter Tryz.func26, Tryz.ntmps26
  go_wp2_with fail
  rw [← hw1]
  clear hw1
  try go_wp2
  clear hmk
  have HO1 : Hid (OwnI (w1.alloc (.cells (Array.replicate R (.int .i64 0)) 3)) w1.heap.size (some ⟨w.heap.size + 1, 0, none⟩) R R (endV R xs 0)) := by
    show OwnI _ _ _ _ _ _
    rw [← HSE.out, endV_zero R xs]
    exact HO0.out w1
  have HX2 := hidP (HX0.out w1)
  clear HO0 HX0
  go_loopw [6, 16] (fun out ii wr => ∃ (k : Nat) (a' : Option Addr) (c' : Nat), k ≤ n ∧ out = .slice a' R c' ∧ ii = .int .i64 k ∧ Hid (OwnI wr w1.heap.size a' R c' (endV R xs k)) ∧ Hid (Ext w1 wr)) (fun _ ii _ => n - (intOf ii).toNat)
  case atStart => exact ⟨0, _, _, Nat.zero_le _, rfl, rfl, HO1, HX2⟩
  case round =>
    obtain ⟨k, a', c', hk, rfl, rfl, HO, HX⟩ := hrel
    by_cases hlt : k < n
    · obtain ⟨b, o, aw, cw, W, L, rfl, HW, HL, hwl, hq⟩ := (G.out.below (HX1.out.trans HX.out)).way k hlt
      have HQ := hidP hq
      have hwr := (HP.out.way k (by have := hl.out; omega)).1
      rw [HW.out] at hwr
      have HIn := hidP (plusIn_end HP.out (k := k) (by have := hl.out; omega))
      have HNx := hidP (endV_succ R xs k)
      rw [HW.out, HL.out] at HIn HNx
      have HPl := hidP (fun w' (hx : Ext wr w') => listPlus_any a' R c' (endV R xs k) L aw W.length cw W w' (HO.out.ints.below hx) HO.out.nil_cap (by omega) (hq w' hx).2.2 hwr.symm HIn.out)
      rw [HNx.out] at HPl
      obtain ⟨q1, q2, _⟩ := hq wr (Ext.refl wr)
      have hk0 : (0 : Int) ≤ (k : Int) := by omega
      have hkn : (k : Int) < (n : Int) := by omega
      clear hwr hq
      have HA2 := hidP (Ext.alloc wr (.cells #[.slice aw W.length cw, .int .i64 L] 73))
      have HS := hidP (fun w' (hx : Ext (wr.alloc (.cells #[.slice aw W.length cw, .int .i64 L] 73)) w') => (StpAt.new wr _ rfl aw W.length cw L 73).below hx)
      obtain ⟨w2, hw2⟩ : ∃ w2, w2 = wr.alloc (.cells #[.slice aw W.length cw, .int .i64 L] 73) := ⟨_, rfl⟩
      rw [← hw2] at HA2 HS
      obtain ⟨s1, s2⟩ := HS.out w2 (Ext.refl w2)
      have HPw := hidP (HPl.out w2 HA2.out)
      go_wp2_with fail
      rw [← hw2]
      clear hw2 q1 q2
      go_wp2_with fail
      refine HPw.out.mono ?_
      rintro e w3 ⟨a3, c3, rfl, ho3, hx3⟩
      have HO3 := hidP (ho3.base (B' := w1.heap.size) (HX.out.trans HA2.out).size)
      have HX3 := hidP (HX.out.trans (HA2.out.trans hx3))
      clear ho3 hx3
      go_wp2
      go_roundw
      case rel => exact ⟨k + 1, a3, c3, by omega, rfl, by go_num, HO3, HX3⟩
      case measure => simp [intOf]; omega
    · obtain rfl : n = k := by omega
      rw [HEn.out] at HO
      have HO1 := HO
      have HX1b := HX
      go_wp2
      go_loopw [29] (fun ii wr => ∃ k : Nat, k ≤ R ∧ ii = .int .i64 k ∧ Hid (allTo E k = true) ∧ Hid (OwnI wr w1.heap.size a' R c' (partly E Q k)) ∧ Hid (Ext w1 wr)) (fun ii _ => R - (intOf ii).toNat)
      case atStart => exact ⟨0, Nat.zero_le _, by rfl, by rfl, by rw [partly_zero]; exact HO1, HX1b⟩
      case round =>
        obtain ⟨k, hk, rfl, HA, HO, HX⟩ := hrel
        by_cases hlt : k < R
        · have hst := HQs.out k hlt
          have has := allTo_succ (E := E) (k := k) (by rw [HEl.out]; exact hlt) HA.out
          obtain ⟨X, hX⟩ : ∃ X, X = E.getD k 0 := ⟨_, rfl⟩
          rw [← hX] at hst has
          obtain ⟨g, rfl, hg1, _, q1, q3⟩ := HO.out.cell k hlt
          rw [partly_at _ _ _ (by rw [HQl.out]; omega), ← hX] at q1
          have hk0 : (0 : Int) ≤ (k : Int) := by omega
          have hkn : (k : Int) < (R : Int) := by omega
          have hquo := hst.quo
          by_cases hm : X.tmod 27720 = 0
          · have hb : (X.tmod 27720 != 0) = false := by simp [hm]
            have HA2 : Hid (allTo E (k + 1) = true) := by
              show _ = _
              rw [has, hm]
              rfl
            have HSt : Hid (OwnI (wr.setCell ⟨g, k, none⟩ (.int .i64 (X.tdiv 27720))) w1.heap.size (some ⟨g, 0, none⟩) R c' (partly E Q (k + 1))) := by
              have h1 := HO.out.stored k (X.tdiv 27720)
              rw [← hst.res] at h1
              rw [HQe.out] at h1
              rw [partly_succ E Q R k hlt HEl.out HQl.out] at h1
              rw [← hst.res, HQe.out]
              exact h1
            have HX3 : Hid (Ext w1 (wr.setCell ⟨g, k, none⟩ (.int .i64 (X.tdiv 27720)))) := Ext.setNew HX.out _ _ hg1 _
            clear hst hX hm hg1 has
            go_wp2
            go_roundw
            case rel => exact ⟨k + 1, by omega, by go_num, HA2, HSt, HX3⟩
            case measure => simp [intOf]; omega
          · have hb : (X.tmod 27720 != 0) = true := by simp [hm]
            have HE : Hid ((J1, J2) = (false, [])) := by
              show _ = _
              have hf : allTo E (k + 1) = false := by
                rw [has]
                simp [hm]
              rw [HJ.out, HEr.out]
              exact if_neg (by rw [all_false hf]; simp)
            obtain ⟨rfl, rfl⟩ := Prod.mk.inj HE.out
            clear hst hX hm hg1 has HE
            go_wp2
            refine bodyPost_ret (v := .tuple #[.slice none 0 0, .bool false]) (by simp [results, Tryz.results26, go_sem]) rfl ⟨none, 0, 0, rfl, OwnI.nil _ _, HX1.out.trans HX.out⟩
        · obtain rfl : R = k := by omega
          have HE : Hid ((J1, J2) = (true, Q)) := by
            show _ = _
            rw [HJ.out, HEr.out]
            exact if_pos (by rw [← allTo_all HEl.out.symm]; exact HA.out)
          obtain ⟨rfl, rfl⟩ := Prod.mk.inj HE.out
          have HD : Hid (partly E J2 R = J2) := partly_all _ _ _ HEl.out HQl.out
          rw [HD.out] at HO
          clear HE
          go_wp2
          refine bodyPost_ret (v := .tuple #[.slice a' R c', .bool true]) (by simp [results, Tryz.results26, go_sem]) rfl ⟨a', R, c', rfl, HO.out.base HW1.out, HX1.out.trans HX.out⟩
set_option maxHeartbeats 4000000 in
theorem sEndOf_any (r : Int) (ta : Option Addr) (tn tc : Nat) (ts : List Int) (a : Option Addr) (n c : Nat) (xs : List Stp) (w : World) (hc : IntsAt w ta tn ts) (hcn : tn ≤ 9223372036854775807)
    (h : TermsAt w a n xs) (hn : n ≤ 9223372036854775807) :
    EndRes 21 #[carV r ta tn tc, .slice a n c] w (endT r ts xs) := by
  unfold EndRes
  have hx1 := Ext.alloc w (.cells #[.int .i64 r, .slice ta tn tc] 29)
  have HC := hidP (fun w' (hx : Ext (w.alloc (.cells #[.int .i64 r, .slice ta tn tc] 29)) w') => (CarAt.new w _ rfl r ta tn tc 29).below hx)
  have HX1 := hidP hx1
  have H := hidP h
  have HP := hidP (sPathOk_any r ta tn tc ts a n c xs _ (hc.below hx1) hcn (h.below hx1) hn)
  have HW1 := hidP hx1.size
  clear hc hx1
  obtain ⟨w1, hw1⟩ : ∃ w1, w1 = w.alloc (.cells #[.int .i64 r, .slice ta tn tc] 29) := ⟨_, rfl⟩
  rw [← hw1] at HC HX1 HP HW1
  obtain ⟨f0, f1⟩ := HC.out w1 (Ext.refl w1)
  cases hT : (typeB r ts && pathB r.toNat xs)
  · have HR : Hid (endT r ts xs = (false, [])) := by
      show _ = _
      unfold endT
      rw [hT]
      rfl
    rw [hT] at HP
    clear hT h
    go_enter Tryz.func21, Tryz.ntmps21
    go_wp2_with fail
    rw [← hw1]
    clear hw1
    refine HP.out.mono ?_
    rintro e w2 ⟨rfl, hx⟩
    have HX := hidP hx
    clear hx
    go_wp2
    refine bodyPost_ret (v := .tuple #[.slice none 0 0, .bool false]) (by simp [results, Tryz.results21, go_sem]) rfl ⟨none, 0, 0, by rw [HR.out], ?_, HX1.out.trans HX.out⟩
    rw [HR.out]
    exact OwnI.nil _ _
  · have hT2 : typeB r ts = true := by
      simp only [Bool.and_eq_true] at hT
      exact hT.1
    have hP1 : pathB r.toNat xs = true := by
      simp only [Bool.and_eq_true] at hT
      exact hT.2
    obtain ⟨hr1, hr4, _⟩ := typeB_rank hT2
    obtain ⟨R, rfl⟩ : ∃ R : Nat, r = R := ⟨r.toNat, by omega⟩
    rw [Int.toNat_natCast] at hP1
    have hR1 : 1 ≤ R := by omega
    have hR4 : R ≤ 4 := by omega
    have hp := pathB_iff.1 hP1
    have HR : Hid (endT R ts xs = endR R xs) := by
      show _ = _
      unfold endT
      rw [hT]
      rfl
    rw [HR.out]
    obtain ⟨⟨J1, J2⟩, hJ⟩ : ∃ J, J = endR R xs := ⟨_, rfl⟩
    rw [← hJ]
    have HJ := hidP hJ
    dsimp only
    obtain ⟨E, hE⟩ : ∃ E, E = endV R xs xs.length := ⟨_, rfl⟩
    obtain ⟨Q, hQ⟩ : ∃ Q, Q = E.map fun x => x.tdiv 27720 := ⟨_, rfl⟩
    have HEl : Hid (E.length = R) := by
      show _ = _
      rw [hE]
      exact endV_length _ _ _
    have HQe : Hid ((E.map fun x => x.tdiv 27720) = Q) := hQ.symm
    have HQl : Hid (Q.length = R) := by
      show _ = _
      rw [hQ, List.length_map]
      exact HEl.out
    have HEr : Hid (endR R xs = if E.all (fun x => x.tmod 27720 == 0) then (true, Q) else (false, [])) := by
      show _ = _
      unfold endR
      rw [← hE, ← hQ]
    have HQs : Hid (∀ k, k < R → QuoStep E k (E.getD k 0)) := by
      show ∀ k, _
      intro k hk
      rw [hE]
      exact quo_step hp hk
    have HEn : Hid (endV R xs n = E) := by
      show _ = _
      rw [hE, h.len]
    have HEd := hidP (fun w' (hx : Ext w1 w') => l9End_any R ta tn tc a n c xs w' ⟨hR1, hR4⟩ (H.out.below (HX1.out.trans hx)) hp)
    rw [HEn.out] at HEd
    rw [hT] at HP
    clear hT hT2 hP1 hJ h hp hE hQ HR
    go_enter Tryz.func21, Tryz.ntmps21
    go_wp2_with fail
    rw [← hw1]
    clear hw1
    refine HP.out.mono ?_
    rintro e w2 ⟨rfl, hx⟩
    have HX := hidP hx
    obtain ⟨g0, g1⟩ := HC.out w2 hx
    clear hx f0 f1
    go_wp2_with fail
    refine (HEd.out _ HX.out).mono ?_
    rintro e w3 ⟨a1, c1, rfl, ho3, hx3⟩
    have HO1 := hidP (ho3.base (B' := w1.heap.size) HX.out.size)
    have HX1b := hidP (HX.out.trans hx3)
    clear ho3 hx3 g0 g1
    go_wp2
    go_loopw [7] (fun ii wr => ∃ k : Nat, k ≤ R ∧ ii = .int .i64 k ∧ Hid (allTo E k = true) ∧ Hid (OwnI wr w1.heap.size a1 R c1 (partly E Q k)) ∧ Hid (Ext w1 wr)) (fun ii _ => R - (intOf ii).toNat)
    case atStart => exact ⟨0, Nat.zero_le _, by rfl, by rfl, by rw [partly_zero]; exact HO1, HX1b⟩
    case round =>
      obtain ⟨k, hk, rfl, HA, HO, HX⟩ := hrel
      by_cases hlt : k < R
      · have hst := HQs.out k hlt
        have has := allTo_succ (E := E) (k := k) (by rw [HEl.out]; exact hlt) HA.out
        obtain ⟨X, hX⟩ : ∃ X, X = E.getD k 0 := ⟨_, rfl⟩
        rw [← hX] at hst has
        obtain ⟨g, rfl, hg1, _, q1, q3⟩ := HO.out.cell k hlt
        rw [partly_at _ _ _ (by rw [HQl.out]; omega), ← hX] at q1
        have hk0 : (0 : Int) ≤ (k : Int) := by omega
        have hkn : (k : Int) < (R : Int) := by omega
        have hquo := hst.quo
        by_cases hm : X.tmod 27720 = 0
        · have hb : (X.tmod 27720 != 0) = false := by simp [hm]
          have HA2 : Hid (allTo E (k + 1) = true) := by
            show _ = _
            rw [has, hm]
            rfl
          have HSt : Hid (OwnI (wr.setCell ⟨g, k, none⟩ (.int .i64 (X.tdiv 27720))) w1.heap.size (some ⟨g, 0, none⟩) R c1 (partly E Q (k + 1))) := by
            have h1 := HO.out.stored k (X.tdiv 27720)
            rw [← hst.res] at h1
            rw [HQe.out] at h1
            rw [partly_succ E Q R k hlt HEl.out HQl.out] at h1
            rw [← hst.res, HQe.out]
            exact h1
          have HX3 : Hid (Ext w1 (wr.setCell ⟨g, k, none⟩ (.int .i64 (X.tdiv 27720)))) := Ext.setNew HX.out _ _ hg1 _
          clear hst hX hm hg1 has
          go_wp2
          go_roundw
          case rel => exact ⟨k + 1, by omega, by go_num, HA2, HSt, HX3⟩
          case measure => simp [intOf]; omega
        · have hb : (X.tmod 27720 != 0) = true := by simp [hm]
          have HE : Hid ((J1, J2) = (false, [])) := by
            show _ = _
            have hf : allTo E (k + 1) = false := by
              rw [has]
              simp [hm]
            rw [HJ.out, HEr.out]
            exact if_neg (by rw [all_false hf]; simp)
          obtain ⟨rfl, rfl⟩ := Prod.mk.inj HE.out
          clear hst hX hm hg1 has HE
          go_wp2
          refine bodyPost_ret (v := .tuple #[.slice none 0 0, .bool false]) (by simp [results, Tryz.results21, go_sem]) rfl ⟨none, 0, 0, rfl, OwnI.nil _ _, HX1.out.trans HX.out⟩
      · obtain rfl : R = k := by omega
        have HE : Hid ((J1, J2) = (true, Q)) := by
          show _ = _
          rw [HJ.out, HEr.out]
          exact if_pos (by rw [← allTo_all HEl.out.symm]; exact HA.out)
        obtain ⟨rfl, rfl⟩ := Prod.mk.inj HE.out
        have HD : Hid (partly E J2 R = J2) := partly_all _ _ _ HEl.out HQl.out
        rw [HD.out] at HO
        clear HE
        go_wp2
        refine bodyPost_ret (v := .tuple #[.slice a1 R c1, .bool true]) (by simp [results, Tryz.results21, go_sem]) rfl ⟨a1, R, c1, rfl, HO.out.base HW1.out, HX1.out.trans HX.out⟩
end Go.Proofs.YtdhlapppahkjeaaGreatDoor

namespace Go.Proofs.YtdhlapppahkjeaaGreatDoor
open Go.RowKit

def lowF (r : Nat) (ts : List Int) (i : Nat) (p : List Stp) : Option (List Stp) := lowS r (refl r ts i) i p
end Go.Proofs.YtdhlapppahkjeaaGreatDoor

namespace Go.Proofs.YtdhlapppahkjeaaGreatDoor
end Go.Proofs.YtdhlapppahkjeaaGreatDoor

namespace Go.Proofs.YtdhlapppahkjeaaGreatDoor
open Go.RowKit

/-- how many numbers the first k elements hold -/
def mkAt (us : List (List Int × Int)) : Nat → Nat
  | 0 => 0
  | k + 1 => mkAt us k + ((us.getD k ([], 0)).1.length + 1)
theorem mkAt_mono (us : List (List Int × Int)) : ∀ (d k : Nat), mkAt us k ≤ mkAt us (k + d)
  | 0, k => Nat.le_refl _
  | d + 1, k => Nat.le_trans (mkAt_mono us d k) (by show _ ≤ mkAt us (k + d) + _; omega)
theorem mkAt_le (us : List (List Int × Int)) {j k : Nat} (h : j ≤ k) : mkAt us j ≤ mkAt us k := by
  have := mkAt_mono us (k - j) j
  rwa [show j + (k - j) = k by omega] at this
theorem mkAt_len (us : List (List Int × Int)) : ∀ n, n ≤ mkAt us n
  | 0 => Nat.le_refl _
  | n + 1 => by have := mkAt_len us n; show _ ≤ mkAt us n + _; omega

end Go.Proofs.YtdhlapppahkjeaaGreatDoor

namespace Go.Proofs.YtdhlapppahkjeaaGreatDoor
open Go.RowKit

theorem set_set_same {β : Type} (l : List β) (i : Nat) (x y : β) : (l.set i x).set i y = l.set i y := by simp
end Go.Proofs.YtdhlapppahkjeaaGreatDoor

namespace Go.Proofs.YtdhlapppahkjeaaGreatDoor
open Go.RowKit

/-- w' is w but for new blocks and for blocks from B on below U -/
structure UpdB (w w' : World) (B U : Nat) : Prop where
  os : w'.os = w.os
  tape : w'.tape = w.tape
  output : w'.output = w.output
  size : w.heap.size ≤ w'.heap.size
  other : ∀ k, k < w.heap.size → (k < B ∨ U ≤ k) → w'.heap[k]? = w.heap[k]?
theorem UpdB.refl (w : World) (B U : Nat) : UpdB w w B U := ⟨rfl, rfl, rfl, Nat.le_refl _, fun _ _ _ => rfl⟩
theorem UpdB.trans {w w' w'' : World} {B U : Nat} (h : UpdB w w' B U) (k : UpdB w' w'' B U) : UpdB w w'' B U :=
  ⟨k.os.trans h.os, k.tape.trans h.tape, k.output.trans h.output, Nat.le_trans h.size k.size, fun j hj hb => (k.other j (Nat.lt_of_lt_of_le hj h.size) hb).trans (h.other j hj hb)⟩
theorem UpdI.updB {w w' : World} {a : Option Addr} {n B U : Nat} {ys : List Int} (h : UpdI w w' a n ys) (ha : ∀ b o, a = some ⟨b, o, none⟩ → B ≤ b ∧ b < U) : UpdB w w' B U :=
  ⟨h.os, h.tape, h.output, h.size, fun j hj hb => h.other j hj fun b o e _ => by have := ha b o e; omega⟩
theorem UpdB.setCell {w w' : World} {B U : Nat} (h : UpdB w w' B U) (b i : Nat) (v : Value) (hb : B ≤ b ∧ b < U) : UpdB w (w'.setCell ⟨b, i, none⟩ v) B U :=
  ⟨h.os, h.tape, h.output, by simpa [World.setCell] using h.size, fun j hj hb' => by
    rw [Below.heap_setCell _ _ _ _ (show j ≠ b by omega)]
    exact h.other j hj hb'⟩
theorem UpdB.below {w0 w w' : World} {N B U : Nat} (h : UpdB w w' B U) (hb : Below N w0 w) (hN : N ≤ w.heap.size) (hB : N ≤ B) : Below N w0 w' :=
  hb.trans ⟨h.os, h.tape, h.output, h.size, fun k hk => h.other k (by omega) (.inl (by omega))⟩
theorem OwnI.updB {w w' : World} {B' B U n c : Nat} {a : Option Addr} {xs : List Int} (h : OwnI w B' a n c xs) (hu : UpdB w w' B U) (ha : ∀ b o, a = some ⟨b, o, none⟩ → b < B ∨ U ≤ b) : OwnI w' B' a n c xs := by
  refine ⟨h.row.1, ?_⟩
  rcases h.row.2 with h2 | ⟨g, cap, cur, he, hB, hg, r⟩
  · exact .inl h2
  · refine .inr ⟨g, cap, cur, he, hB, ?_, r⟩
    simp only [Value.slice.injEq] at he
    rw [hu.other g (Array.getElem?_eq_some_iff.1 hg).1 (ha g 0 he.1)]
    exact hg
theorem OwnK.updB {α : Type} {K : Knd α} {w w' : World} {B' U' B U n c : Nat} {a : Option Addr} {hs : List Hdr} {xs : List α} (h : OwnK K w B' U' a n c hs xs) (hu : UpdB w w' B U) (ho : ∀ b o, a = some ⟨b, o, none⟩ → b < B ∨ U ≤ b)
    (hi : ∀ i, i < n → ∀ b o, (hs.getD i (none, 0)).1 = some ⟨b, o, none⟩ → b < B ∨ U ≤ b) : OwnK K w' B' U' a n c hs xs := by
  refine ⟨⟨h.row.1, ?_⟩, h.hl, h.xl, fun i hin => (h.each i hin).updB hu (hi i hin), h.apart, h.lt, h.olt⟩
  rcases h.row.2 with h2 | ⟨g, cap, cur, he, hB, hg, r⟩
  · exact .inl h2
  · refine .inr ⟨g, cap, cur, he, hB, ?_, r⟩
    simp only [Value.slice.injEq] at he
    rw [hu.other g (Array.getElem?_eq_some_iff.1 hg).1 (ho g 0 he.1)]
    exact hg
theorem OwnK.updB_lo {α : Type} {K : Knd α} {w w' : World} {B' U' B U n c : Nat} {a : Option Addr} {hs : List Hdr} {xs : List α} (h : OwnK K w B' U' a n c hs xs) (hu : UpdB w w' B U) (hU : U' ≤ B) : OwnK K w' B' U' a n c hs xs :=
  h.updB hu (fun b o e => .inl (Nat.lt_of_lt_of_le (h.olt b o e) hU)) (fun i hi b o e => .inl (Nat.lt_of_lt_of_le (h.lt i hi b o e) hU))
theorem OwnK.updB_hi {α : Type} {K : Knd α} {w w' : World} {B' U' B U n c : Nat} {a : Option Addr} {hs : List Hdr} {xs : List α} (h : OwnK K w B' U' a n c hs xs) (hu : UpdB w w' B U) (hB : U ≤ B') : OwnK K w' B' U' a n c hs xs :=
  h.updB hu (fun b o e => .inr (Nat.le_trans hB (h.base_lt b o e).1)) (fun i hi b o e => .inr (Nat.le_trans hB ((h.each i hi).at_base b o e).1))

/-- what a place holds once it is marked -/
def MarkedAt (k0 : Int) (us xs : List Stp) (j : Nat) : Prop := xs.getD j ([], 0) = (upFrom (k0 + mkAt us j) (us.getD j ([], 0)).1.length, k0 + mkAt us j + (us.getD j ([], 0)).1.length)

end Go.Proofs.YtdhlapppahkjeaaGreatDoor

namespace Go.Proofs.YtdhlapppahkjeaaGreatDoor
open Go.RowKit

theorem szCartan_any (p : Int) (a : Option Addr) (n c : Nat) (left : Int) (w : World) (hn : n ≤ 9223372036854775807) (h0 : 0 ≤ left) (h1 : left ≤ 1048576) :
    Calls Tryz.prog 5 #[carV p a n c, .int .i64 left] w fun e w' => e = .returned (.int .i64 (szLeft n left)) ∧ Ext w w' := by
  have HQ := hidP (fun w' => szIntS_any a n c left w' hn h0 h1)
  by_cases hle : (n : Int) ≤ left
  · have HE : Hid (szLeft n left = left - n) := if_pos hle
    rw [HE.out] at HQ ⊢
    go_enter Tryz.func5, Tryz.ntmps5
    go_wp2_with (go_at_call 19; refine (HQ.out _).mono ?_; rintro e w' ⟨rfl, rfl⟩)
    go_ret
    exact ⟨rfl, Ext.alloc _ _⟩
  · have HE : Hid (szLeft n left = -1) := if_neg hle
    rw [HE.out] at HQ ⊢
    go_enter Tryz.func5, Tryz.ntmps5
    go_wp2_with (go_at_call 19; refine (HQ.out _).mono ?_; rintro e w' ⟨rfl, rfl⟩)
    go_ret
    exact ⟨rfl, Ext.alloc _ _⟩
set_option maxHeartbeats 1000000 in
theorem toCartan_any (p : Int) (a : Option Addr) (n c : Nat) (xs : List Int) (w : World) (h : IntsAt w a n xs) (hn : n ≤ 1048576) :
    Calls Tryz.prog 7 #[carV p a n c] w fun e w' => ∃ a', e = .returned (carV p a' n n) ∧ OwnI w' w.heap.size a' n n xs ∧ Ext w w' := by
  have HQ := hidP (fun w' (hx : Ext w w') => toIntS_any a n c xs w' (h.below hx) hn)
  clear h
  go_enter Tryz.func7, Tryz.ntmps7
  go_wp2_with fail
  have hx0 : Ext w (((w.alloc (.cells #[.int .i64 p, .slice a n c] 24)).alloc (.cells #[.int .i64 0, .slice none 0 0] 29)).alloc (.cells #[.int .i64 p, .slice none 0 0] 29)) :=
    ((Ext.alloc w _).trans (Ext.alloc _ _)).trans (Ext.alloc _ _)
  have hc0 := fun w1 hx j => new_cell (w' := w1) (w := ((w.alloc (.cells #[.int .i64 p, .slice a n c] 24)).alloc (.cells #[.int .i64 0, .slice none 0 0] 29))) (cs := #[.int .i64 p, .slice none 0 0]) (E := 29) (b := w.heap.size + 1 + 1) (by simp) hx j
  have hc1 := fun w1 hx j => new_cell (w' := w1) (w := w.alloc (.cells #[.int .i64 p, .slice a n c] 24)) (cs := #[.int .i64 0, .slice none 0 0]) (E := 29) (b := w.heap.size + 1) (by simp) ((Ext.alloc _ (.cells #[.int .i64 p, .slice none 0 0] 29)).trans hx) j
  have hs0 : w.heap.size + 2 < (((w.alloc (.cells #[.int .i64 p, .slice a n c] 24)).alloc (.cells #[.int .i64 0, .slice none 0 0] 29)).alloc (.cells #[.int .i64 p, .slice none 0 0] 29)).heap.size := by simp
  have hq := HQ.out _ hx0
  obtain ⟨W, hW⟩ : ∃ W, W = (((w.alloc (.cells #[.int .i64 p, .slice a n c] 24)).alloc (.cells #[.int .i64 0, .slice none 0 0] 29)).alloc (.cells #[.int .i64 p, .slice none 0 0] 29)) := ⟨_, rfl⟩
  rw [← hW] at hx0 hc0 hc1 hs0 hq ⊢
  clear hW HQ
  have HQ := hidP hq
  have HX := hidP hx0
  clear hq hx0
  refine HQ.out.mono ?_
  rintro e w1 ⟨a', rfl, ho, hx⟩
  have HO := hidP ho
  obtain ⟨q0, _⟩ := hc0 w1 hx 0
  obtain ⟨q1, z1⟩ := hc0 w1 hx 1
  obtain ⟨r0, y0⟩ := hc1 w1 hx 0
  obtain ⟨r1, y1⟩ := hc1 w1 hx 1
  have q0 := q0.trans (show _ = some (Value.int .i64 p) from rfl)
  have q1 := q1.trans (show _ = some (Value.slice none 0 0) from rfl)
  have r0 := r0.trans (show _ = some (Value.int .i64 0) from rfl)
  have r1 := r1.trans (show _ = some (Value.slice none 0 0) from rfl)
  have HX1 := hidP (HX.out.trans hx)
  have hsz : w.heap.size + 2 < W.heap.size := hs0
  clear hc0 hc1 ho hx hs0
  go_wp2
  refine bodyPost_ret (v := carV p a' n n) (by simp [results, Tryz.results7, go_sem, r0, r1]) rfl ⟨_, rfl, ?_, ?_⟩
  · refine OwnI.base (B := W.heap.size) ?_ (by omega)
    refine OwnI.setBelow (OwnI.setBelow (OwnI.setBelow HO.out _ _ ?_ _) _ _ ?_ _) _ _ ?_ _ <;> omega
  · refine Ext.setNew (Ext.setNew (Ext.setNew HX1.out _ _ ?_ _) _ _ ?_ _) _ _ ?_ _ <;> omega
end Go.Proofs.YtdhlapppahkjeaaGreatDoor

namespace Go.Proofs.YtdhlapppahkjeaaGreatDoor
open Go.ChangeShapes Go.WideShapes Go.ChangeAt Go.RowKit Go.Joins Go.Deep

theorem plain_of_cell {w : World} {a : Addr} {v : Value} (h : w.cell? (a.add 0) = some v) : a = ⟨a.block, a.off, none⟩ := by
  unfold Addr.add at h
  simp only [if_true] at h
  unfold World.cell? at h
  split at h
  · split at h
    · cases h
    · rename_i hs
      cases a
      simp at hs
      simp [hs]
  · cases h
theorem add_plain (b o i : Nat) : (⟨b, o, none⟩ : Addr).add i = ⟨b, o + i, none⟩ := by
  unfold Addr.add
  split
  · subst_vars; rfl
  · rfl
section
variable {H : Type} {enc : TypeId × Value → H} {P : Program} {w : World} {base : Nat} {spare : Nat → Bool} {held : Bool}

theorem ints_in {t e : TypeId} {fuel : Nat} {cs : List Value} {x : DataW H × List MemPlace} (ht : P.underlying t = some (.slice e)) (he : P.underlying e = some (.int .i64)) (hc : P.cellsOf e = 1)
    (h : DataW.trod enc P w base spare held fuel t cs = some x) : ∃ ao n c xs, cs = [.slice ao n c] ∧ IntsAt w ao n xs ∧ n ≤ c ∧ n ≤ 9223372036854775807 ∧ (ao = none → c = 0) ∧ ∀ i, i < n → -9223372036854775808 ≤ xs.getD i 0 ∧ xs.getD i 0 ≤ 9223372036854775807 := by
  rcases open_ints ht he hc h with ⟨rfl, _⟩ | ⟨a, len, cap, zs, rfl, _, hl, hm, hz, _, hcell, hwf⟩
  · exact ⟨none, 0, 0, [], rfl, IntsAt.nil _ _, Nat.le_refl _, by omega, fun _ => rfl, fun i h => by omega⟩
  · have hlen : len ≤ zs.length := by rw [hz]; split <;> omega
    refine ⟨some a, len, cap, zs.take len, rfl, ⟨by simp [hlen], fun i hi => ?_⟩, hl, by unfold maxLen at hm; omega, (fun h => by cases h), fun i hi => ?_⟩
    · have h0 := plain_of_cell (hcell 0 (by omega))
      have hi' := hcell i (by omega)
      rw [h0, add_plain] at hi'
      exact ⟨_, _, congrArg some h0, by rw [hi']; simp [List.getD_eq_getElem?_getD, hi]⟩
    · have hmem : (zs.take len).getD i 0 ∈ zs := by
        simp only [List.getD_eq_getElem?_getD, List.getElem?_take, hi, if_true]
        rw [List.getElem?_eq_getElem (by omega)]
        exact List.getElem_mem _
      have := hwf _ hmem
      simpa [Lit.wf, IntKind.min, IntKind.signed, IntKind.bits] using this

end
end Go.Proofs.YtdhlapppahkjeaaGreatDoor

namespace Go.Proofs.YtdhlapppahkjeaaGreatDoor
open Go.ChangeShapes Go.WideShapes Go.ChangeAt Go.RowKit Go.Joins Go.Deep

section
variable {H : Type} {enc : TypeId × Value → H} {P : Program} {w : World} {base : Nat} {spare : Nat → Bool} {held : Bool}
/-- a Cartan matrix by value -/
theorem car_in {r : Reach} {b0 : Nat} {t ti : TypeId} {f0 f1 : Field} {v : Value} {d : DataW H} {p : List MemPlace} (hs : P.underlying t = some (.struct #[f0, f1])) (hone : oneCellFields P #[f0, f1] = true) (hC : P.cellsOf t = 2)
    (e0 : P.underlying f0.type = some (.int .i64)) (e1 : P.underlying f1.type = some (.slice ti)) (he : P.underlying ti = some (.int .i64)) (hc : P.cellsOf ti = 1)
    (hv : Value.okWide P w r b0 t v) (h : DataW.Trod enc P w base spare held t v d p) :
    ∃ p ao n c xs, v = carV p ao n c ∧ IntsAt w ao n xs ∧ n ≤ c ∧ n ≤ 9223372036854775807 := by
  obtain ⟨v0, v1, y0, y1, n, rfl, _, _, h0, h1⟩ := open_agg2 hs hone hC hv h
  obtain ⟨m0, q0, _⟩ := DataW.trod_int e0 h0
  obtain ⟨ao, n, c, xs, q1, hi, hn, hn2, _⟩ := ints_in e1 he hc h1
  simp only [List.cons.injEq, and_true] at q0 q1
  subst q0 q1
  exact ⟨m0, ao, n, c, xs, rfl, hi, hn, hn2⟩
end
end Go.Proofs.YtdhlapppahkjeaaGreatDoor

namespace Go.Proofs.YtdhlapppahkjeaaGreatDoor
open Go.RowKit

theorem mkAt_bound (us : List Stp) (c : Nat) : ∀ n, (∀ k, k < n → (us.getD k ([], 0)).1.length ≤ c) → mkAt us n ≤ n * (c + 1)
  | 0, _ => Nat.zero_le _
  | n + 1, h => by
    have h1 := mkAt_bound us c n fun k hk => h k (by omega)
    have h2 := h n (by omega)
    show mkAt us n + ((us.getD n ([], 0)).1.length + 1) ≤ (n + 1) * (c + 1)
    rw [Nat.add_mul]
    omega
end Go.Proofs.YtdhlapppahkjeaaGreatDoor

namespace Go.Proofs.YtdhlapppahkjeaaGreatDoor
open Go.RowKit

def termK : Knd Stp where
  E := 57
  size := 2
  dft := ([], 0)
  ints := fun x => x.1
  put := fun x ys => (ys, x.2)
  cells := fun a c x => [.slice a x.1.length c, .int .i64 x.2]
  len := fun _ _ _ => rfl
  pos := by decide
  ne := by decide
  put_ints := fun _ _ => rfl
  put_cells := fun a c x ys h => by show [Value.slice a ys.length c, Value.int .i64 x.2] = _; rw [h]
  one := fun a c x u hu => by
    simp only [List.mem_cons, List.not_mem_nil, or_false] at hu
    rcases hu with rfl | rfl <;> rfl
theorem OwnK.termsAtT {w : World} {B U : Nat} {a : Option Addr} {n c : Nat} {hs : List Hdr} {xs : List Stp} (h : OwnK termK w B U a n c hs xs) : TermsAt w a n xs := by
  refine ⟨h.xl, fun i hi => ?_⟩
  obtain ⟨g, rfl, hc, _⟩ := h.cell i 0 hi (by decide)
  obtain ⟨g', e, hc', _⟩ := h.cell i 1 hi (by decide)
  simp only [Option.some.injEq, Addr.mk.injEq, and_true] at e
  subst e
  rw [show i * termK.size + 0 = i * 2 from rfl] at hc
  rw [show i * termK.size + 1 = i * 2 + 1 from rfl] at hc'
  exact ⟨g, 0, (hs.getD i (none, 0)).1, (hs.getD i (none, 0)).2, rfl, by rw [Nat.zero_add]; exact hc, by rw [Nat.zero_add]; exact hc', (h.each i hi).ints, (h.each i hi).small⟩
theorem OwnK.stepCellT {w : World} {B U : Nat} {a : Option Addr} {n c : Nat} {hs : List Hdr} {xs : List Stp} (h : OwnK termK w B U a n c hs xs) (k : Nat) (hk : k < n) :
    ∃ g aw cw, a = some ⟨g, 0, none⟩ ∧ hs.getD k (none, 0) = (aw, cw) ∧ w.cell? ⟨g, k * 2, none⟩ = some (.slice aw (wayAt xs k).length cw) ∧ w.cell? ⟨g, k * 2 + 1, none⟩ = some (.int .i64 (lenAt xs k)) ∧
    w.frozen? ⟨g, k * 2, none⟩ = false ∧ w.frozen? ⟨g, k * 2 + 1, none⟩ = false ∧ OwnI w B aw (wayAt xs k).length cw (wayAt xs k) := by
  obtain ⟨g, rfl, hc, hf⟩ := h.cell k 0 hk (by decide)
  obtain ⟨g', e, hc', hf'⟩ := h.cell k 1 hk (by decide)
  simp only [Option.some.injEq, Addr.mk.injEq, and_true] at e
  subst e
  rw [show k * termK.size + 0 = k * 2 from rfl] at hc hf
  rw [show k * termK.size + 1 = k * 2 + 1 from rfl] at hc' hf'
  exact ⟨g, (hs.getD k (none, 0)).1, (hs.getD k (none, 0)).2, rfl, rfl, hc, hc', hf, hf', h.each k hk⟩
theorem OwnK.stepsAtT {w : World} {B U : Nat} {a : Option Addr} {n c : Nat} {hs : List Hdr} {xs : List Stp} (h : OwnK termK w B U a n c hs xs) : StepsAt w a n xs := by
  refine ⟨h.xl, fun k hk => ?_⟩
  obtain ⟨g, aw, cw, rfl, _, h1, h2, _, _, h5⟩ := h.stepCellT k hk
  exact ⟨g, 0, aw, cw, rfl, by rw [Nat.zero_add]; exact h1, by rw [Nat.zero_add]; exact h2, h5.ints, h5.small, h5.nil_cap⟩
theorem Tryz.info57 : (Tryz.prog.info? 57).map (fun i => (i.zero, i.size, i.bytes)) = some (some (.agg #[.slice none 0 0, .int .i64 0]), 2, 32) := by kernel_rfl
theorem OwnK.new_apartT {w w' : World} {B U B' : Nat} {a a' : Option Addr} {n c n' c' : Nat} {hs : List Hdr} {xs : List Stp} {ys : List Int} (h : OwnK termK w B U a n c hs xs) (hi : OwnI w' B' a' n' c' ys) (hB : w.heap.size ≤ B') :
    (∀ i, i < n → Apart (hs.getD i (none, 0)).1 a') ∧ Apart a a' :=
  ⟨fun i hi' b o b' o' e e' => by have := ((h.each i hi').at_base b o e).2; have := (hi.at_base b' o' e').1; omega,
   fun b o b' o' e e' => by have := (h.base_lt b o e).2; have := (hi.at_base b' o' e').1; omega⟩
def TermRes (f : FuncId) (args : Array Value) (w : World) (res : Bool × List Stp) : Prop :=
  Calls Tryz.prog f args w fun e w' => ∃ a n c hs, e = .returned (.tuple #[.slice a n c, .bool res.1]) ∧ OwnK termK w' w.heap.size w'.heap.size a n c hs res.2 ∧ Ext w w'
end Go.Proofs.YtdhlapppahkjeaaGreatDoor

namespace Go.Proofs.YtdhlapppahkjeaaGreatDoor
open Go.RowKit Go.Sort Go.Shelf

theorem ownsRow_put {w : World} {B : Nat} {e : TypeId} {g n c q size : Nat} {vs ys : List Value} (h : w.ownsRow B e size (.slice (some ⟨g, 0, none⟩) n c) n vs) (hy : ys.length = n * size) :
    (putRow id (Sort.ahead w q) g 0 ys.toArray).ownsRow B e size (.slice (some ⟨g, 0, none⟩) n c) n ys := by
  rcases h.2 with ⟨e0, _⟩ | ⟨g', cap', cur, e0, hb, hg, hn, hm, hs, ht⟩
  · cases e0
  · injection e0 with e1 _ e3
    injection e1 with e1
    injection e1 with e1
    subst e1; subst e3
    have hsz : n * size ≤ cur.size := by rw [hs]; exact Nat.mul_le_mul_right _ hn
    refine ⟨hy, .inr ⟨g, c, putCells id 0 ys.toArray cur, rfl, hb, ?_, hn, hm, by simpa [putCells] using hs, ?_⟩⟩
    · simp [putRow, mapBlock, Sort.ahead, Array.getElem?_modify, hg, onCells]
    · apply List.ext_getElem?
      intro j
      rw [List.getElem?_take, Array.getElem?_toList]
      by_cases hj : j < n * size
      · have hjc : j < cur.size := by omega
        simp only [if_pos hj, putCells, Array.getElem?_mapIdx, Array.getElem?_eq_getElem hjc, Option.map_some]
        rw [if_pos (by simp; omega), List.getElem?_eq_getElem (by omega)]
        simp [getElem!_pos, show j < ys.length by omega]
      · rw [if_neg hj, List.getElem?_eq_none (by omega)]

variable {α : Type}
theorem flat_all {β : Type} [Inhabited β] (K : Knd α) (val : β → Hdr × α) (d : Array β) :
    (flatK (fun b => K.cells (val b).1.1 (val b).1.2 (val b).2) K.size d).toList = K.all (d.toList.map fun b => (val b).1) (d.toList.map fun b => (val b).2) := by
  have hl := K.all_length (d.toList.map fun b => (val b).1) (d.toList.map fun b => (val b).2) (by simp)
  simp only [List.length_map, Array.length_toList] at hl
  apply List.ext_getElem?
  intro t
  by_cases ht : t < d.size * K.size
  · have hp : 0 < K.size := K.pos
    have h1 : t / K.size < d.size := (Nat.div_lt_iff_lt_mul hp).2 ht
    have h2 : t % K.size < K.size := Nat.mod_lt _ hp
    have h3 := K.all_get (d.toList.map fun b => (val b).1) (d.toList.map fun b => (val b).2) (by simp) (t / K.size) (t % K.size) (by simpa using h1) h2
    rw [show t / K.size * K.size + t % K.size = t by rw [Nat.mul_comm]; exact Nat.div_add_mod t K.size] at h3
    rw [h3]
    have h4 := get_flatK (fun b => K.cells (val b).1.1 (val b).1.2 (val b).2) K.size d t ht
    have h5 : t < (flatK (fun b => K.cells (val b).1.1 (val b).1.2 (val b).2) K.size d).size := by rw [size_flatK]; exact ht
    rw [getElem!_pos (flatK (fun b => K.cells (val b).1.1 (val b).1.2 (val b).2) K.size d) t h5] at h4
    rw [Array.getElem?_toList, Array.getElem?_eq_getElem h5, h4]
    have e1 : d[t / K.size]! = d[t / K.size] := getElem!_pos d (t / K.size) h1
    rw [e1]
    have g1 : (d.toList.map fun b => (val b).1).getD (t / K.size) (none, 0) = (val d[t / K.size]).1 := by simp [List.getD_eq_getElem?_getD, h1]
    have g2 : (d.toList.map fun b => (val b).2).getD (t / K.size) K.dft = (val d[t / K.size]).2 := by simp [List.getD_eq_getElem?_getD, h1]
    rw [g1, g2]
    have h6 : t % K.size < (K.cells (val d[t / K.size]).1.1 (val d[t / K.size]).1.2 (val d[t / K.size]).2).length := by rw [K.len]; exact h2
    rw [List.getElem?_eq_getElem h6, getElem!_pos (K.cells (val d[t / K.size]).1.1 (val d[t / K.size]).1.2 (val d[t / K.size]).2) (t % K.size) h6]
  · rw [List.getElem?_eq_none (by rw [Array.length_toList, size_flatK]; omega), List.getElem?_eq_none (by omega)]

theorem OwnK.permuted {K : Knd α} {w w' : World} {B U : Nat} {n c g : Nat} {hs hs' : List Hdr} {xs xs' : List α} (h : OwnK K w B U (some ⟨g, 0, none⟩) n c hs xs)
    (hr : w'.ownsRow B K.E K.size (.slice (some ⟨g, 0, none⟩) n c) n (K.all hs' xs')) (hg : w.grownBy w' (some g)) (hl : hs'.length = n) (xl : xs'.length = n) (hp : (hs'.zip xs').Perm (hs.zip xs)) : OwnK K w' B U (some ⟨g, 0, none⟩) n c hs' xs' := by
  have hhl := h.hl
  have hxl := h.xl
  have hz : ∀ i, i < n → (hs'.getD i (none, 0), xs'.getD i K.dft) ∈ hs.zip xs := fun i hi => by
    refine hp.mem_iff.1 ?_
    rw [List.mem_iff_getElem]
    refine ⟨i, by simp; omega, ?_⟩
    simp [List.getD_eq_getElem?_getD, List.getElem?_eq_getElem (show i < hs'.length by omega), List.getElem?_eq_getElem (show i < xs'.length by omega)]
  have hback : ∀ i, i < n → ∃ j, j < n ∧ hs.getD j (none, 0) = hs'.getD i (none, 0) ∧ xs.getD j K.dft = xs'.getD i K.dft := fun i hi => by
    obtain ⟨j, hj, e⟩ := List.mem_iff_getElem.1 (hz i hi)
    simp only [List.length_zip] at hj
    simp only [List.getElem_zip, Prod.mk.injEq] at e
    refine ⟨j, by omega, ?_, ?_⟩
    · rw [← e.1]; simp [List.getD_eq_getElem?_getD, show j < hs.length by omega]
    · rw [← e.2]; simp [List.getD_eq_getElem?_getD, show j < xs.length by omega]
  have hpw : hs'.Pairwise fun a b => Apart a.1 b.1 := by
    have h1 : hs.Pairwise fun a b => Apart a.1 b.1 := by
      rw [List.pairwise_iff_getElem]
      intro i j hi hj hij
      have := h.apart i j (by omega) (by omega) (by omega)
      simpa [List.getD_eq_getElem?_getD, hi, hj] using this
    have h2 : (hs.zip xs).Pairwise fun a b => Apart a.1.1 b.1.1 := by
      have : ((hs.zip xs).map Prod.fst).Pairwise fun a b => Apart a.1 b.1 := by rw [List.map_fst_zip (by omega)]; exact h1
      rw [List.pairwise_map] at this
      exact this
    have h3 := (hp.pairwise_iff (fun {a b} (hab : Apart a.1.1 b.1.1) => hab.symm)).2 h2
    have h4 : ((hs'.zip xs').map Prod.fst).Pairwise fun a b => Apart a.1 b.1 := by rw [List.pairwise_map]; exact h3
    rwa [List.map_fst_zip (by omega)] at h4
  refine ⟨hr, hl, xl, fun i hi => ?_, fun i j hi hj hne => ?_, fun i hi b o e => ?_, h.olt⟩
  · obtain ⟨j, hj, e1, e2⟩ := hback i hi
    rw [← e1, ← e2]
    exact (h.each j hj).grown hg fun b o e' => by
      have := h.far j hj g 0 b o rfl e'
      simp only [ne_eq, Option.some.injEq]
      omega
  · have hi' : i < hs'.length := by omega
    have hj' : j < hs'.length := by omega
    simp only [List.getD_eq_getElem?_getD, List.getElem?_eq_getElem hi', List.getElem?_eq_getElem hj', Option.getD_some]
    rcases Nat.lt_or_gt_of_ne hne with h1 | h1
    · exact List.pairwise_iff_getElem.1 hpw i j hi' hj' h1
    · exact (List.pairwise_iff_getElem.1 hpw j i hj' hi' h1).symm
  · obtain ⟨j, hj, e1, e2⟩ := hback i hi
    rw [← e1] at e
    exact h.lt j hj b o e

/-- what may stand in the slice while it is sorted: whatever reads in the world of the call, off the slice's own block -/
def SrtOk (K : Knd α) (w : World) (g : Nat) (x : Hdr × α) : Prop := IntsAt w x.1.1 (K.ints x.2).length (K.ints x.2) ∧ (K.ints x.2).length ≤ 9223372036854775807 ∧ ∀ b o, x.1.1 = some ⟨b, o, none⟩ → 0 < (K.ints x.2).length → b ≠ g ∧ b < w.heap.size
theorem SrtOk.later {K : Knd α} {w : World} {g : Nat} {x : Hdr × α} (h : SrtOk K w g x) (m : Nat) (F : Array Value) (os : Array Obj) : IntsAt (grow (putRow id (Sort.ahead w m) g 0 F) os) x.1.1 (K.ints x.2).length (K.ints x.2) := by
  refine ⟨h.1.len, fun i hi => ?_⟩
  obtain ⟨b, o, e, hc⟩ := h.1.get i hi
  obtain ⟨h1, h2⟩ := h.2.2 b o e (by omega)
  refine ⟨b, o, e, ?_⟩
  rw [cell?_grow _ os _ (by simpa using h2), cell?_putRow_other id _ g 0 F _ (Or.inl h1)]
  exact hc

/-- the sort, on an owned slice: what is read in it stands in order behind -/
theorem sort_owned {ρ : Ren} (L : SlLaysF0.n6 Tryz.prog ρ) (K : Knd α) (d0 : α) (h00 : K.ints d0 = []) (aE : ∀ w, (isAgg (ρ.t 24)).run Tryz.prog w = .ok true w) (zE : ∀ w, (Go.sizeOf (ρ.t 24)).run Tryz.prog w = .ok K.size w)
    (cf : α → α → Int) (hO : SWO (ltOf cf)) (g0 : Nat) (eg : ∀ args w, (callFunc g0 args).run Tryz.prog w = .ok (.enter g0 args) w)
    (hclo : ∀ (w' : World) (x y : Hdr × α), IntsAt w' x.1.1 (K.ints x.2).length (K.ints x.2) → IntsAt w' y.1.1 (K.ints y.2).length (K.ints y.2) → (K.ints x.2).length ≤ 9223372036854775807 → (K.ints y.2).length ≤ 9223372036854775807 → Calls Tryz.prog g0 #[.agg (K.cells x.1.1 x.1.2 x.2).toArray, .agg (K.cells y.1.1 y.1.2 y.2).toArray] w' fun e w'' => e = .returned (.int .i64 (cf x.2 y.2)) ∧ ∃ q os', w'' = grow (w'.drewN q) os')
    {w : World} {B U g n c : Nat} {hs : List Hdr} {xs : List α} (h : OwnK K w B U (some ⟨g, 0, none⟩) n c hs xs) (hn : n < 4611686018427387904) :
    Calls Tryz.prog (ρ.f 6) #[.slice (some ⟨g, 0, none⟩) n c, .func (.func g0) #[] #[]] w fun e w' => e = .returned (.tuple #[]) ∧
      ∃ hs' xs', OwnK K w' B U (some ⟨g, 0, none⟩) n c hs' xs' ∧ xs'.Perm xs ∧ (xs'.Pairwise fun x y => ltOf cf y x = false) ∧ w.grownBy w' (some g) := by
  have hhl := h.hl
  have hxl := h.xl
  have hall := K.all_length hs xs (hhl.trans hxl.symm)
  let β := {x : Hdr × α // SrtOk K w g x}
  have hd0 : SrtOk K w g ((none, 0), d0) := ⟨by rw [h00]; exact IntsAt.nil _ _, by rw [h00]; simp, fun b o e => by cases e⟩
  letI : Inhabited β := ⟨⟨((none, 0), d0), hd0⟩⟩
  let enc : β → List Value := fun b => K.cells b.1.1.1 b.1.1.2 b.1.2
  have hmem : ∀ x ∈ hs.zip xs, SrtOk K w g x := fun x hx => by
    obtain ⟨i, hi, e⟩ := List.mem_iff_getElem.1 hx
    simp only [List.length_zip] at hi
    have hin : i < n := by omega
    have ho := h.each i hin
    have hf := h.far i hin
    have g1 : hs.getD i (none, 0) = x.1 := by rw [← e]; simp [List.getD_eq_getElem?_getD, show i < hs.length by omega]
    have g2 : xs.getD i K.dft = x.2 := by rw [← e]; simp [List.getD_eq_getElem?_getD, show i < xs.length by omega]
    rw [g1, g2] at ho
    rw [g1] at hf
    refine ⟨ho.ints, ho.small, fun b o e' hp => ⟨fun e2 => hf g 0 b o rfl e' e2.symm, ?_⟩⟩
    have hi2 := ho.ints
    rw [e'] at hi2
    exact hi2.block_lt hp
  let l : List β := (hs.zip xs).attach.map fun x => ⟨x.1, hmem x.1 x.2⟩
  have hlv : l.map (·.1) = hs.zip xs := by
    show ((hs.zip xs).attach.map fun x => (⟨x.1, hmem x.1 x.2⟩ : β)).map (·.1) = _
    rw [List.map_map]
    exact List.attach_map_subtype_val _
  have hll : l.length = n := by simp [l]; omega
  let d : Array β := l.toArray
  have hds : d.size = n := by simp [d, hll]
  have hl1 : l.map (fun b => b.1.1) = hs := by
    rw [show (fun b : β => b.1.1) = Prod.fst ∘ (fun b : β => b.1) from rfl, ← List.map_map, hlv, List.map_fst_zip (by omega)]
  have hl2 : l.map (fun b => b.1.2) = xs := by
    rw [show (fun b : β => b.1.2) = Prod.snd ∘ (fun b : β => b.1) from rfl, ← List.map_map, hlv, List.map_snd_zip (by omega)]
  have hflat : (flatK enc K.size d).toList = K.all hs xs := by
    have := flat_all K (fun b : β => b.1) d
    rw [show d.toList = l from rfl, hl1, hl2] at this
    exact this
  obtain ⟨gb, cur, eb, hB, hgl, hgb, hnc, _⟩ : ∃ gb cur, (some (⟨g, 0, none⟩ : Addr)) = some ⟨gb, 0, none⟩ ∧ B ≤ gb ∧ gb < w.heap.size ∧ w.heap[gb]? = some (.cells cur K.E (0, 0)) ∧ n ≤ c ∧ True := by
    rcases h.form with ⟨e, _⟩ | ⟨gb, cur, e, h1, h2, h3, h4, _⟩
    · cases e
    · exact ⟨gb, cur, e, h1, h2, h3, h4, trivial⟩
  simp only [Option.some.injEq, Addr.mk.injEq, and_true] at eb
  subst eb
  have hH : HoldsK enc K.size w g 0 d := by
    intro j hj
    rw [size_flatK, hds] at hj
    have h3 := h.row.cellAt j hj
    have h5 : j < (flatK enc K.size d).size := by rw [size_flatK, hds]; exact hj
    refine ⟨?_, by simp [World.frozen?, hgb]⟩
    rw [Nat.zero_add, h3, ← hflat, Array.getElem?_toList, Array.getElem?_eq_getElem h5, getElem!_pos (flatK enc K.size d) j h5]
    rfl
  have hswo : SWO (ltOf fun x y : β => cf x.1.2 y.1.2) := ⟨fun x => hO.irrefl x.1.2, fun x y z => hO.trans x.1.2 y.1.2 z.1.2, fun x y z => hO.ntrans x.1.2 y.1.2 z.1.2⟩
  have hcmp : CmpLays Tryz.prog g0 #[] enc K.size (fun x y : β => cf x.1.2 y.1.2) g 0 d.size w := fun m os dk _ x y => by
    refine hclo _ x.1 y.1 ?_ ?_ x.2.2.1 y.2.2.1
    · exact x.2.later m _ os
    · exact y.2.later m _ os
  have hcon := AnyQ.slices_SortFunc L K.size aE zE enc (fun x => K.len _ _ _) (fun x => K.one _ _ _) (fun x y : β => cf x.1.2 y.1.2) hswo g0 #[] g 0 c d w eg hcmp hH hgl (by omega)
  rw [hds] at hcon
  refine hcon.mono ?_
  rintro e w' ⟨rfl, d', m, os, ⟨hps, _, hpp⟩, hsrt, rfl⟩
  rw [hds] at hps
  have hpe : d'.toList.Perm l := by
    have e1 : (d'.extract 0 n).toList = d'.toList := by simp [← hps]
    have e2 : (d.extract 0 n).toList = l := by rw [← hds]; simp [d]
    rwa [e1, e2] at hpp
  have hd'l : d'.toList.length = n := by rw [Array.length_toList]; exact hps
  have hflat' : (flatK enc K.size d').toList = K.all (d'.toList.map fun b => b.1.1) (d'.toList.map fun b => b.1.2) := flat_all K (fun b : β => b.1) d'
  have hal' := K.all_length (d'.toList.map fun b => b.1.1) (d'.toList.map fun b => b.1.2) (by simp)
  rw [List.length_map, hd'l] at hal'
  have hg : w.grownBy (sortWorldK enc K.size w g 0 m d' os) (some g) := by
    refine ⟨rfl, rfl, rfl, ?_, fun k hk hne => ?_⟩
    · simp [sortWorldK, putRowK, grow, putRow, mapBlock, Sort.ahead]
    · have hkg : g ≠ k := fun e => hne (by rw [e])
      have h1 : k < (putRowK enc K.size (Sort.ahead w m) g 0 d').heap.size := by simpa [putRowK, putRow, mapBlock, Sort.ahead] using hk
      rw [show sortWorldK enc K.size w g 0 m d' os = grow (putRowK enc K.size (Sort.ahead w m) g 0 d') os from rfl, heap_grow_old _ os h1]
      simp [putRowK, putRow, mapBlock, Sort.ahead, Array.getElem?_modify, hkg]
  have hr : (sortWorldK enc K.size w g 0 m d' os).ownsRow B K.E K.size (.slice (some ⟨g, 0, none⟩) n c) n (K.all (d'.toList.map fun b => b.1.1) (d'.toList.map fun b => b.1.2)) := by
    have h1 := ownsRow_put (q := m) (ys := (flatK enc K.size d').toList) h.row (by rw [hflat']; exact hal')
    rw [Array.toArray_toList, hflat'] at h1
    exact h1.kept (row := none) ⟨rfl, rfl, rfl, by show _ ≤ (_ ++ os).size; rw [Array.size_append]; exact Nat.le_add_right _ _, fun k hk _ => heap_grow_old _ os hk⟩ (.inr (by simp [Value.ownBlock]))
  refine ⟨rfl, d'.toList.map fun b => b.1.1, d'.toList.map fun b => b.1.2, h.permuted hr hg (by simp [hd'l]) (by simp [hd'l]) ?_, ?_, ?_, hg⟩
  · have h1 := hpe.map (fun b : β => b.1)
    rw [hlv] at h1
    rw [List.zip_map']
    exact h1
  · have h1 := hpe.map (fun b : β => b.1.2)
    rwa [hl2] at h1
  · rw [List.pairwise_map, List.pairwise_iff_getElem]
    intro i j hi hj hij
    have h1 := hsrt i j (Nat.zero_le _) hij (by rw [← hd'l]; exact hj)
    have hi' : i < d'.size := by simpa using hi
    have hj' : j < d'.size := by simpa using hj
    rw [getElem!_pos d' i hi', getElem!_pos d' j hj'] at h1
    exact h1
end Go.Proofs.YtdhlapppahkjeaaGreatDoor

namespace Go.Proofs.YtdhlapppahkjeaaGreatDoor
open Go.RowKit Go.Sort

def cfT (x y : Tm) : Int := lexC y.1 x.1
theorem ltT (x y : Tm) : ltOf cfT x y = decide (lexC y.1 x.1 < 0) := rfl
theorem swoT : SWO (ltOf cfT) where
  irrefl x := by rw [ltT]; exact decide_eq_false (above_ord.irr x.1)
  trans x y z h1 h2 := by rw [ltT] at *; exact decide_eq_true (p := lexC z.1 x.1 < 0) (above_ord.tr (x := x.1) (y := y.1) (z := z.1) (of_decide_eq_true (p := lexC y.1 x.1 < 0) h1) (of_decide_eq_true (p := lexC z.1 y.1 < 0) h2))
  ntrans x y z h1 h2 := by
    rw [ltT] at *
    have h1 := of_decide_eq_false h1
    have h2 := of_decide_eq_false h2
    refine decide_eq_false fun h => ?_
    rw [lexC_less] at *
    exact absurd h (List.not_lt.2 (List.le_trans (List.not_lt.1 h1) (List.not_lt.1 h2)))

set_option maxHeartbeats 1000000 in
theorem terms1_any (a a' : Option Addr) (c c' : Nat) (x y : List Int) (m m' : Int) (w : World) (h : IntsAt w a x.length x) (h' : IntsAt w a' y.length y) (hx : x.length ≤ 9223372036854775807) (hy : y.length ≤ 9223372036854775807) :
    Calls Tryz.prog 82 #[.agg #[.slice a x.length c, .int .i64 m], .agg #[.slice a' y.length c', .int .i64 m']] w fun e w' => e = .returned (.int .i64 (lexC y x)) ∧ ∃ q os', w' = grow (w.drewN q) os' := by
  have hx1 := Ext.alloc w (.cells #[.slice a x.length c, .int .i64 m] 57)
  have hx2 := Ext.alloc (w.alloc (.cells #[.slice a x.length c, .int .i64 m] 57)) (.cells #[.slice a' y.length c', .int .i64 m'] 57)
  have HC := hidP (compareInts_any a' a y.length x.length c' c y x _ ((h'.below hx1).below hx2) ((h.below hx1).below hx2) hy hx)
  generalize lexC y x = r at HC ⊢
  clear h h' hx1 hx2
  go_enter Tryz.func82, Tryz.ntmps82
  go_wp2_with fail
  refine HC.out.mono ?_
  rintro e w' ⟨rfl, rfl⟩
  go_wp2
  go_ret
  exact ⟨rfl, 0, _, by rw [alloc_eq_grow, alloc_eq_grow, grow_grow]; rfl⟩

/-! ### what a range over the words has met -/
structure Vis (g : List Int → Int) (f1 : ByteArray → Option Value) (left : ByteArray → Bool) (L : List Tm) : Prop where
  mem : ∀ x c, (x, c) ∈ L ↔ left (keyI x) = false ∧ (f1 (keyI x)).isSome = true ∧ g x = c ∧ c ≠ 0
  nd : L.Pairwise fun p q => p.1 ≠ q.1
theorem Vis.start (g : List Int → Int) (f1 : ByteArray → Option Value) : Vis g f1 (fun s => (f1 s).isSome) [] :=
  ⟨fun x c => ⟨fun h => by simp at h, fun ⟨h1, h2, _⟩ => by rw [h2] at h1; cases h1⟩, List.Pairwise.nil⟩
theorem Vis.pass {g : List Int → Int} {f1 : ByteArray → Option Value} {left : ByteArray → Bool} {L : List Tm} (h : Vis g f1 left L) (x : List Int) (hz : g x = 0) : Vis g f1 (fun t => left t && !decide (t = keyI x)) L := by
  refine ⟨fun y c => ?_, h.nd⟩
  rw [h.mem]
  by_cases e : y = x
  · subst e
    constructor
    · rintro ⟨_, _, h3, h4⟩
      exact absurd (h3.symm.trans hz) h4
    · rintro ⟨_, _, h3, h4⟩
      exact absurd (h3.symm.trans hz) h4
  · have hk : keyI y ≠ keyI x := fun e' => e (keyI_inj e')
    simp [hk]
theorem Vis.take {g : List Int → Int} {f1 : ByteArray → Option Value} {left : ByteArray → Bool} {L : List Tm} (h : Vis g f1 left L) (x : List Int) (hz : g x ≠ 0) (hl : left (keyI x) = true) (hf : (f1 (keyI x)).isSome = true) :
    Vis g f1 (fun t => left t && !decide (t = keyI x)) (L ++ [(x, g x)]) := by
  have hnot : ∀ c, (x, c) ∉ L := fun c hm => by
    have := ((h.mem x c).1 hm).1
    rw [hl] at this
    cases this
  refine ⟨fun y c => ?_, ?_⟩
  · rw [List.mem_append, h.mem]
    by_cases e : y = x
    · subst e
      constructor
      · rintro (⟨h1, _⟩ | hm)
        · rw [hl] at h1; cases h1
        · simp only [List.mem_singleton, Prod.mk.injEq, true_and] at hm
          subst hm
          exact ⟨by simp, hf, rfl, hz⟩
      · rintro ⟨_, _, h3, _⟩
        exact .inr (by simp [h3])
    · have hk : keyI y ≠ keyI x := fun e' => e (keyI_inj e')
      simp [hk, e]
  · rw [List.pairwise_append]
    refine ⟨h.nd, List.pairwise_singleton _ _, fun p hp q hq => ?_⟩
    simp only [List.mem_singleton] at hq
    subst hq
    intro e
    exact hnot p.2 (by
      have e2 : p = (x, p.2) := by rw [← (show p.1 = x from e)]
      rwa [e2] at hp)
theorem length_le_of_mem : ∀ {L T : List Tm}, (L.Pairwise fun p q => p.1 ≠ q.1) → (∀ p ∈ L, p ∈ T) → L.length ≤ T.length
  | [], _, _, _ => Nat.zero_le _
  | p :: L, T, hn, hm => by
    obtain ⟨h1, h2⟩ := List.pairwise_cons.1 hn
    have hp := hm p (by simp)
    have ih := length_le_of_mem (L := L) (T := T.erase p) h2 fun q hq => by
      have hne : q ≠ p := fun e => h1 q hq (by rw [e])
      exact (List.mem_erase_of_ne hne).2 (hm q (by simp [hq]))
    rw [List.length_erase_of_mem hp] at ih
    have : 0 < T.length := List.length_pos_of_mem hp
    simp only [List.length_cons]
    omega
theorem Vis.length {g : List Int → Int} {f1 : ByteArray → Option Value} {left : ByteArray → Bool} {L T : List Tm} (h : Vis g f1 left L) (hT : Tells g T) : L.length ≤ T.length :=
  length_le_of_mem h.nd fun p hp => (hT p.1 p.2).2 ((h.mem p.1 p.2).1 hp).2.2
theorem Vis.all {w : World} {b1 b2 n : Nat} {g : List Int → Int} {f1 f2 : ByteArray → Option Value} {left : ByteArray → Bool} {L T xs : List Tm} (h : Vis g f1 left L) (hC : Counts w b1 b2 n g f1 f2) (hl : ∀ s, s.size ≤ maxLen → left s = false)
    (hT : Tells g T) (hO : Ordered Above T) (hp : xs.Perm L) (hs : xs.Pairwise fun x y => ltOf cfT y x = false) : xs = T := by
  have hnd : xs.Pairwise fun p q => p.1 ≠ q.1 := (hp.pairwise_iff (fun {a b} (hab : a.1 ≠ b.1) => hab.symm)).2 h.nd
  have ho : Ordered Above xs := by
    refine List.Pairwise.imp (fun {x y} hxy => ?_) (hnd.and hs)
    obtain ⟨h1, h2⟩ := hxy
    rw [ltT] at h2
    have h2 := of_decide_eq_false h2
    rcases above_ord.tot h1 with h3 | h3
    · exact h3
    · exact absurd h3 h2
  refine ordered_unique above_ord ho hO fun p => ?_
  rw [hp.mem_iff]
  obtain ⟨x, c⟩ := p
  rw [h.mem, hT]
  constructor
  · rintro ⟨_, _, h3⟩
    exact h3
  · rintro ⟨h3, h4⟩
    have hs := hC.has x (by rw [h3]; exact h4)
    obtain ⟨y, _, _, hk, e, _⟩ := (hC.word _ hs).ex
    exact ⟨hl _ (by rw [e]; exact hk.size), hs, h3, h4⟩

theorem OwnK.off_cell {α : Type} {K : Knd α} {w : World} {B U g n c : Nat} {hs : List Hdr} {xs : List α} (h : OwnK K w B U (some ⟨g, 0, none⟩) n c hs xs) : ∃ cur, w.heap[g]? = some (.cells cur K.E (0, 0)) := by
  rcases h.form with ⟨e, _⟩ | ⟨g', cur, e, _, _, hg, _⟩
  · cases e
  · simp only [Option.some.injEq, Addr.mk.injEq, and_true] at e
    subst e
    exact ⟨cur, hg⟩
theorem OwnK.past_iter {α : Type} {K : Knd α} {w w' : World} {B U R n c : Nat} {a : Option Addr} {hs : List Hdr} {xs : List α} (h : OwnK K w B U a n c hs xs) (hi : ∃ m s seen c, w.heap[R]? = some (.mapIter m s seen c)) (hg : w.grownBy w' (some R)) : OwnK K w' B U a n c hs xs := by
  obtain ⟨m, s, seen, c0, hR⟩ := hi
  refine h.kept hg (fun b o e e2 => ?_) (fun i hi b o e e2 => ?_)
  · simp only [Option.some.injEq] at e2
    subst e2
    rcases h.form with ⟨e3, _⟩ | ⟨g', cur, e3, _, _, hg', _⟩
    · rw [e] at e3; cases e3
    · rw [e] at e3
      simp only [Option.some.injEq, Addr.mk.injEq, and_true] at e3
      rw [← e3.1, hR] at hg'
      cases hg'
  · simp only [Option.some.injEq] at e2
    subst e2
    obtain ⟨cur, hc⟩ := (h.each i hi).block e
    rw [hR] at hc
    cases hc
theorem callFunc_terms1 (args : Array Value) (w : World) : Sem.run Tryz.prog (callFunc 82 args) w = .ok (.enter 82 args) w := by
  kernel_rfl
theorem isAggT (w : World) : (isAgg 57).run Tryz.prog w = .ok true w := by kernel_rfl
theorem sizeOfT (w : World) : (Go.sizeOf 57).run Tryz.prog w = .ok 2 w := by kernel_rfl
theorem sortT_any {w : World} {B U g n c : Nat} {hs : List Hdr} {xs : List Tm} (h : OwnK termK w B U (some ⟨g, 0, none⟩) n c hs xs) (hn : n < 4611686018427387904) :
    Calls Tryz.prog 81 #[.slice (some ⟨g, 0, none⟩) n c, .func (.func 82) #[] #[]] w fun e w' => e = .returned (.tuple #[]) ∧
      ∃ hs' xs', OwnK termK w' B U (some ⟨g, 0, none⟩) n c hs' xs' ∧ xs'.Perm xs ∧ (xs'.Pairwise fun x y => ltOf cfT y x = false) ∧ w.grownBy w' (some g) :=
  sort_owned Tryz.sortTerm termK ([], 0) rfl isAggT sizeOfT cfT swoT 82 callFunc_terms1 (fun w' x y hx hy lx ly => terms1_any x.1.1 y.1.1 x.1.2 y.1.2 x.2.1 y.2.1 x.2.2 y.2.2 w' hx hy lx ly) h hn
theorem Below.past_block {B : Nat} {w0 w w' : World} {k : Nat} (hb : Below B w0 w) (hg : w.grownBy w' (some k)) (hB : B ≤ w.heap.size) (hk : B ≤ k) : Below B w0 w' :=
  Below.grown hb hg hB fun j hj => by cases hj; exact hk
set_option maxRecDepth 100000 in
set_option maxHeartbeats 4000000 in
theorem cntTerms_any (b1 b2 n : Nat) (g : List Int → Int) (f1 f2 : ByteArray → Option Value) (T : List Tm) (w : World) (hC : Counts w b1 b2 n g f1 f2) (hT : Tells g T) (hO : Ordered Above T) (hTl : T.length ≤ 1000000) :
    Calls Tryz.prog 55 #[cntV b1 b2] w fun e w' => ∃ a c hs, e = .returned (.slice (some ⟨a, 0, none⟩) T.length c) ∧ OwnK termK w' w.heap.size w'.heap.size (some ⟨a, 0, none⟩) T.length c hs T ∧ Ext w w' := by
  have hxa := Ext.alloc w (.cells #[.map (some b1), .map (some b2)] 51)
  have hxb := Ext.alloc (w.alloc (.cells #[.map (some b1), .map (some b2)] 51)) (.cells #[] 57)
  have HC := hidP hC
  have HA := hidP ((CntAt.new w _ rfl b1 b2 51).below hxb)
  have HO0 : Hid (OwnK termK ((w.alloc (.cells #[.map (some b1), .map (some b2)] 51)).alloc (.cells #[] 57)) (w.heap.size + 1) ((w.alloc (.cells #[.map (some b1), .map (some b2)] 51)).alloc (.cells #[] 57)).heap.size (some ⟨(w.alloc (.cells #[.map (some b1), .map (some b2)] 51)).heap.size, 0, none⟩) 0 0 [] []) := (OwnK.made0 termK (w.alloc (.cells #[.map (some b1), .map (some b2)] 51))).weaken (B' := w.heap.size + 1) (by simp) (Nat.le_refl _)
  have HX0 := hidP (hxa.trans hxb)
  have HTl := hidP hT
  have HOr := hidP hO
  have HV0 := hidP (Vis.start g f1)
  clear hC hxa hxb hT hO
  go_enter Tryz.func55, Tryz.ntmps55
  obtain ⟨f0, f1'⟩ := HA.out
  go_wp2_with (first | (at_range; refine wpList_rangeS _ rfl _ 48 9 22 rfl Tryz.underlying9 Tryz.underlying48 b1 n f1 rfl (HC.out.m1.below HX0.out) ?_; intro w0 cnt0 hrg0 hx0 hs0; have HR0 := hidP hrg0; have HXr := hidP hx0; clear hrg0 hx0 hs0) | fail)
  go_frame
  have hE0 : Ext w w0 := HX0.out.trans HXr.out
  have HE0 := hidP hE0
  have HB0 := hidP (HX0.out.size)
  obtain ⟨wB, hwB⟩ : ∃ wB, wB = (w.alloc (.cells #[.map (some b1), .map (some b2)] 51)).alloc (.cells #[] 57) := ⟨_, rfl⟩
  have hsB : w.heap.size + 1 = (w.alloc (.cells #[.map (some b1), .map (some b2)] 51)).heap.size := by simp
  rw [← hwB] at HA HO0 HX0 f0 f1' HR0 HXr HB0
  rw [← hsB] at HO0
  obtain ⟨R, hR⟩ : ∃ R, R = w.heap.size + 1 + 1 := ⟨_, rfl⟩
  have hRB : wB.heap.size = R := by rw [hwB, hR]; simp
  rw [hRB] at HR0
  have HRB : Hid (w.heap.size + 1 + 1 = R) := hidP hR.symm
  rw [← hwB, hRB]
  have HO1 := hidP ((HO0.out.below HXr.out).weaken (Nat.le_refl _) HXr.out.size)
  have HA1 := hidP (HA.out.below HXr.out)
  have HX1 := hidP (HX0.out.trans HXr.out)
  clear hwB hsB HO0 hRB hE0 f0 f1' HA HXr HB0 HX0 HE0
  clear hR
  go_loopw [3] (fun s wr => ∃ (left : ByteArray → Bool) (cnt j ga co : Nat) (hs : List Hdr) (L : List Tm), s = .slice (some ⟨ga, 0, none⟩) j co ∧ Hid (RangeS wr Tryz.prog 9 b1 R n f1 left cnt) ∧ Hid (OwnK termK wr (w.heap.size + 1) wr.heap.size (some ⟨ga, 0, none⟩) j co hs L) ∧ Hid (Vis g f1 left L) ∧ Hid (CntAt wr w.heap.size b1 b2) ∧ Hid (Ext w wr)) (fun _ wr => wr.rangeLeft b1 R)
  case atStart => exact ⟨_, _, 0, _, 0, [], [], rfl, HR0, HO1, HV0, HA1, HX1⟩
  case round =>
    obtain ⟨left, cnt, j, ga, co, hs, L, rfl, HR, HO, HV, HA, HX⟩ := hrel
    clear HR0 HO1 HV0 HA1 HX1
    have hjl : Hid (j ≤ T.length) := by
      have h1 := HV.out.length HTl.out
      have h2 := HO.out.xl
      show _ ≤ _
      omega
    go_wp2_with (first | (at_next; refine wpList_nextS _ rfl _ rfl 9 Tryz.underlying9 b1 R n f1 left cnt rfl HR.out ?_ ?_) | fail)
    · intro hc0 hl0
      have HS := hidP (sortT_any HO.out (by have := hjl.out; omega))
      go_wp2_with fail
      refine HS.out.mono ?_
      rintro e w2 ⟨rfl, hs', xs', ho, hp, hsrt, hg⟩
      obtain rfl := HV.out.all HC.out hl0 HTl.out HOr.out hp hsrt
      have hxl := ho.xl
      have hga := HO.out.base_lt ga 0 rfl
      have hX2 : Ext w w2 := Below.past_block HX.out hg HX.out.size (by have := hga.1; omega)
      have HO2 := hidP (ho.weaken (Nat.le_succ w.heap.size) hg.size)
      have HX2 := hidP hX2
      subst hxl
      clear hp hsrt hg ho hga hX2
      go_wp2
      go_ret
      exact ⟨ga, co, hs', rfl, HO2.out, HX2.out⟩
    · intro s v w1 cnt1 hss hls hfs hrg1 hlt hg1 hs1 hen
      obtain ⟨x, ax, cx, hkx, rfl, hfx, hix, hax⟩ := (HC.out.word s (by rw [hfs]; rfl)).ex
      obtain rfl : v = .slice ax x.length cx := Option.some.inj (hfs.symm.trans hfx)
      have hX1 : Ext w w1 := Below.past_block HX.out hg1 HX.out.size (by have := HRB.out; omega)
      have HX1 := hidP hX1
      have HR1 := hidP hrg1
      have HO1 := hidP ((HO.out.past_iter HR.out.isIter hg1).weaken (Nat.le_refl _) hg1.size)
      have HK := hidP hkx
      have HIx := hidP hix
      have HAx := hidP hax
      have hks := hkx.size
      have HNum := hidP (HC.out.num x hkx)
      have HLt := hidP (show cnt1 < cnt ∧ wr.rangeLeft b1 R = cnt from ⟨hlt, HR.out.left_eq⟩)
      have HA1 : Hid (CntAt w1 w.heap.size b1 b2) := by
        have hb : w1.heap[w.heap.size]? = wr.heap[w.heap.size]? := hg1.block _ (World.block_lt_of_cell? wr _ HA.out.c0) (by have := HRB.out; simp; omega)
        exact ⟨(World.cell?_of_block hb).trans HA.out.c0, (World.cell?_of_block hb).trans HA.out.c1⟩
      have q1 := HA1.out.c1
      have HLs := hidP hls
      have HFs : Hid ((f1 (keyI x)).isSome = true) := by show _ = _; rw [hfs]; rfl
      clear hfs hfx hix hax hkx hX1 hrg1 hlt hg1 hs1 hls HO HR
      cases hz : decide (g x = 0)
      · have hz := of_decide_eq_false hz
        have hgb : (g x != 0) = true := by simpa using hz
        have HV1 := hidP (HV.out.take x hz HLs.out HFs.out)
        have HCl := hidP (fun w' (hx : Ext w1 w') => clone_any ax x.length cx x w' (HIx.out.below (HX1.out.trans hx)) HAx.out (by have := HK.out.2; omega))
        have HLk : Hid (∀ w', Ext w1 w' → (Instr.lookup 49 (.map (some b2)) (.string (keyI x)) false).run Tryz.prog w' = .ok (.int .i64 (g x)) w') := fun w' hx => by
          have h := (HC.out.m2.below (HX1.out.trans hx)).lookup (T := 49) (E := 3) (z := .int .i64 0) Tryz.underlying9 Tryz.underlying49 (zero_int w') hks
          rw [HNum.out] at h
          exact h
        have HAl := hidP (fun w' (hx : Ext w1 w') => HA1.out.below hx)
        have HZ := hidP hz
        clear hz
        go_wp2_with (first | (at_lookup; refine wpList_lookupS _ rfl _ _ 49 9 3 rfl Tryz.underlying9 Tryz.underlying49 (.int .i64 0) (zero_int _) b2 n f2 rfl (HC.out.m2.below HX1.out) (keyI x) rfl hks ?_; rw [HNum.out]) | fail)
        have hE : Ext w1 w1.drew := Ext.drew w1
        (refine walkR_start (fun w' => Ext w1 w') 9 (by kernel_rfl) ?_; simp only [numbered, List.take_succ_cons, List.take_zero, Nat.zero_add, Nat.reduceAdd, List.length_cons, List.length_nil])
        (repeat (first | (refine walkR_still (v := ?_) rfl (by decide +kernel) rfl (fun _ _ _ h => h) hE ?_ ?_; rotate_left; (focus (intro w' hw'; skip; go_simp; all_goals (with_reducible rfl))); simp only [Act.put, List.setIfInBounds_toArray, List.set_cons_zero, List.set_cons_succ]) | (refine walkR_skip rfl (by decide +kernel) rfl (fun _ _ _ h => h) hE ?_; simp only [Act.put, List.setIfInBounds_toArray, List.set_cons_zero, List.set_cons_succ])))
        (refine walkR_later ?_; simp only [List.cons_append, List.nil_append])
        (repeat (first | (refine walkR_still (v := ?_) rfl (by decide +kernel) rfl (fun _ _ _ h => h) hE ?_ ?_; rotate_left; (focus (intro w' hw'; obtain ⟨f0, f1⟩ := HAl.out w' hw'; have hlk := HLk.out w' hw'; go_simp; all_goals (with_reducible rfl))); simp only [Act.put, List.setIfInBounds_toArray, List.set_cons_zero, List.set_cons_succ]) | (refine walkR_skip rfl (by decide +kernel) rfl (fun _ _ _ h => h) hE ?_; simp only [Act.put, List.setIfInBounds_toArray, List.set_cons_zero, List.set_cons_succ])))
        (refine walkR_later ?_; simp only [List.cons_append, List.nil_append]); (refine walkR_later ?_; simp only [List.cons_append, List.nil_append])
        (refine walkR_only (fun w' => Ext w1 w') rfl (by decide +kernel) rfl (fun _ h => h) ?_; intro K hK; go_simp; refine (HCl.out _ hE).mono ?_; rintro e w3 ⟨a1, c1, rfl, ho1, hx1⟩; refine hK _ _ (hE.trans hx1) ?_; clear hK K; (try simp only [Act.put, List.setIfInBounds_toArray, List.set_cons_zero, List.set_cons_succ]))
        have HE3 := hidP ((hE.trans hx1).trans (Ext.alloc w3 (.cells #[.slice a1 x.length c1, .int .i64 (g x)] 57)))
        have HO3 := hidP (HO1.out.below HE3.out)
        have HI3 := hidP (ho1.below (Ext.alloc w3 (.cells #[.slice a1 x.length c1, .int .i64 (g x)] 57)))
        have HAp := hidP (HO1.out.new_apartT ho1 hE.size)
        have HB3 : Hid (w.heap.size + 1 ≤ w1.drew.heap.size) := Nat.le_trans (World.block_lt_of_cell? w1 _ HA1.out.c0) hE.size
        have HB4 : Hid (w.heap.size + 1 < (w3.alloc (.cells #[.slice a1 x.length c1, .int .i64 (g x)] 57)).heap.size) := Nat.lt_of_le_of_lt (Nat.le_trans HB3.out hx1.size) (by simp)
        have HCe : Hid (∀ j, j < termK.size → (w3.alloc (.cells #[.slice a1 x.length c1, .int .i64 (g x)] 57)).cell? ⟨w3.heap.size, j, none⟩ = (termK.cells a1 c1 (x, g x))[j]?) := fun j _ => (cell_top _ _ _ _ _ rfl).trans (by simp [termK])
        have hE3 := hE.trans hx1
        clear ho1 hx1 hE
        (repeat (first | (refine walkR_still (v := ?_) rfl (by decide +kernel) rfl (fun _ _ _ h => h) hE3 ?_ ?_; rotate_left; (focus (intro w' hw'; skip; go_simp; all_goals (with_reducible rfl))); simp only [Act.put, List.setIfInBounds_toArray, List.set_cons_zero, List.set_cons_succ]) | (refine walkR_skip rfl (by decide +kernel) rfl (fun _ _ _ h => h) hE3 ?_; simp only [Act.put, List.setIfInBounds_toArray, List.set_cons_zero, List.set_cons_succ])))
        (refine walkR_only (fun w' => Ext w1 w') rfl (by decide +kernel) rfl ?_ ?_)
        · exact fun _ h => h
        intro K hK
        go_simp
        refine hK _ _ (hE3.trans (Ext.alloc w3 (.cells #[.slice a1 x.length c1, .int .i64 (g x)] 57))) ?_
        clear hK K
        (try simp only [Act.put, List.setIfInBounds_toArray, List.set_cons_zero, List.set_cons_succ])
        (refine walkR_tail (by rfl) (by kernel_rfl) ?_; simp only [List.drop_succ_cons, List.drop_zero])
        have hjn := hjl.out
        go_wp2_with (at_builtin; refine wpList_append_elem2 termK 26 (.agg #[.slice none 0 0, .int .i64 0]) 32 rfl (.tmp 20) (.tmp 28) rfl Tryz.underlying26 Tryz.info57 rfl (by omega) (w.heap.size + 1) _ (some ⟨ga, 0, none⟩) j co hs _ rfl HO3.out w3.heap.size 1 (a1, c1) (x, g x) rfl HCe.out (HI3.out.base HB3.out) HAp.out.1 HAp.out.2 (by omega) (Nat.le_of_lt HB4.out) ?_; intro a4 c4 w4 ho4 hg4 hn4; have HX4 := hidP ((HO3.out.weaken (Nat.le_succ w.heap.size) (Nat.le_refl _)).below_grown hg4 (HX1.out.trans HE3.out) (HX1.out.trans HE3.out).size); have HG4 := hidP hg4; have HO4 := hidP ho4; clear ho4 hg4 hn4)
        obtain ⟨g4, rfl⟩ : ∃ g4, a4 = some ⟨g4, 0, none⟩ := by
          rcases HO4.out.form with ⟨_, h0, _⟩ | ⟨g4, _, e4, _⟩
          · omega
          · exact ⟨g4, e4⟩
        have hga := HO3.out.base_lt ga 0 rfl
        obtain ⟨cur, hcur⟩ := HO3.out.off_cell
        have hR3 := HR1.out.below HE3.out
        have hR4 := hR3.kept HG4.out (by
          obtain ⟨es, clock, hm⟩ := hR3.mapS.isMap
          intro e
          simp only [Value.ownBlock, Option.some.injEq] at e
          rw [e, hcur] at hm
          cases hm) (by
          obtain ⟨m, s0, seen, c0, hm⟩ := hR3.isIter
          intro e
          simp only [Value.ownBlock, Option.some.injEq] at e
          rw [e, hcur] at hm
          cases hm)
        have hA3 := HA1.out.below HE3.out
        have hA4 : CntAt w4 w.heap.size b1 b2 := by
          have hb := HG4.out.block w.heap.size (World.block_lt_of_cell? _ _ hA3.c0) (by simp only [Value.ownBlock, ne_eq, Option.some.injEq]; omega)
          exact ⟨(World.cell?_of_block hb).trans hA3.c0, (World.cell?_of_block hb).trans hA3.c1⟩
        have HR4 := hidP hR4
        have HA4 := hidP hA4
        clear hR3 hR4 hA3 hA4 hcur hga
        go_roundw
        case rel => exact ⟨_, cnt1, j + 1, g4, c4, hs ++ [(a1, c1)], L ++ [(x, g x)], rfl, HR4, HO4, HV1, HA4, HX4⟩
        case measure => rw [HR4.out.left_eq, HLt.out.2]; exact HLt.out.1
      · have hz := of_decide_eq_true hz
        have hgb : (g x != 0) = false := by simpa using hz
        have HV1 := hidP (HV.out.pass x hz)
        clear hz
        go_wp2_with (first | (at_lookup; refine wpList_lookupS _ rfl _ _ 49 9 3 rfl Tryz.underlying9 Tryz.underlying49 (.int .i64 0) (zero_int _) b2 n f2 rfl (HC.out.m2.below HX1.out) (keyI x) rfl hks ?_; rw [HNum.out]) | fail)
        go_roundw
        case rel => exact ⟨_, cnt1, j, ga, co, hs, L, rfl, HR1, HO1, HV1, HA1, HX1⟩
        case measure => rw [HR1.out.left_eq, HLt.out.2]; exact HLt.out.1
end Go.Proofs.YtdhlapppahkjeaaGreatDoor

namespace Go.Proofs.YtdhlapppahkjeaaGreatDoor
open Go.RowKit

/-- the words and numbers, if they are a character -/
def chrR (r : Nat) (T : List Tm) : Bool × List Tm := if chrB r T then (true, T) else (false, [])

set_option maxHeartbeats 2000000 in
theorem cntCharacter_any (r : Int) (ta : Option Addr) (tn tc : Nat) (ts : List Int) (b1 b2 n : Nat) (g : List Int → Int) (f1 f2 : ByteArray → Option Value) (T : List Tm) (w : World) (hC : Counts w b1 b2 n g f1 f2) (hT : Tells g T) (hO : Ordered Above T) (hTl : T.length ≤ 1000000) (hty : typeB r ts = true)
    (HIs : ∀ w', Ext w w' → Calls Tryz.prog 36 #[carV r ta tn tc] w' fun e w'' => e = .returned (.bool (typeB r ts)) ∧ Ext w' w'') :
    TermRes 28 #[cntV b1 b2, carV r ta tn tc] w (chrR r.toNat T) := by
  unfold TermRes
  have hxa := Ext.alloc w (.cells #[.map (some b1), .map (some b2)] 51)
  have hxb := Ext.alloc (w.alloc (.cells #[.map (some b1), .map (some b2)] 51)) (.cells #[.int .i64 r, .slice ta tn tc] 29)
  have HA := hidP ((CntAt.new w _ rfl b1 b2 51).below hxb)
  have HCr := hidP (CarAt.new (w.alloc (.cells #[.map (some b1), .map (some b2)] 51)) _ rfl r ta tn tc 29)
  have HX0 := hidP (hxa.trans hxb)
  have HTr := hidP (cntTerms_any b1 b2 n g f1 f2 T _ (hC.below (hxa.trans hxb)) hT hO hTl)
  have HI := hidP HIs
  have hs1 : (w.alloc (.cells #[.map (some b1), .map (some b2)] 51)).heap.size = w.heap.size + 1 := by simp
  rw [hs1] at HCr
  clear hC hxa hxb hT hO HIs hs1
  obtain ⟨wB, hwB⟩ : ∃ wB, wB = (w.alloc (.cells #[.map (some b1), .map (some b2)] 51)).alloc (.cells #[.int .i64 r, .slice ta tn tc] 29) := ⟨_, rfl⟩
  rw [← hwB] at HA HCr HX0 HTr
  obtain ⟨f0, f1'⟩ := HA.out
  go_enter Tryz.func28, Tryz.ntmps28
  go_wp2_with fail
  rw [← hwB]
  refine HTr.out.mono ?_
  clear hwB
  rintro e w1 ⟨a1, c1, hs, rfl, ho, hx1⟩
  have HO := hidP ho
  have HX1 := hidP hx1
  obtain ⟨y0, y1⟩ := HCr.out.below hx1
  have HCk := hidP (characterOk_of r ta tn tc ts (some ⟨a1, 0, none⟩) T.length c1 T w1 ho.termsAtT (by omega) (fun w' hx => HI.out w' ((HX0.out.trans hx1).trans hx)))
  rw [hty, Bool.true_and] at HCk
  clear ho hx1
  go_wp2_with fail
  refine HCk.out.mono ?_
  rintro e w2 ⟨rfl, hx2⟩
  have HX2 := hidP ((HX0.out.trans HX1.out).trans hx2)
  have HO2 := hidP (((HO.out.below hx2).weaken (B' := w.heap.size) HX0.out.size hx2.size))
  clear hx2
  cases hb : chrB r.toNat T
  · have HR : Hid (chrR r.toNat T = (false, [])) := by show _ = _; unfold chrR; rw [hb]; rfl
    go_wp2
    refine bodyPost_ret (v := .tuple #[.slice none 0 0, .bool false]) (by simp [results, Tryz.results28, go_sem]) rfl ⟨none, 0, 0, [], by rw [HR.out], ?_, HX2.out⟩
    rw [HR.out]
    exact OwnK.nil termK _ _ _
  · have HR : Hid (chrR r.toNat T = (true, T)) := by show _ = _; unfold chrR; rw [hb]; rfl
    go_wp2
    refine bodyPost_ret (v := .tuple #[.slice (some ⟨a1, 0, none⟩) T.length c1, .bool true]) (by simp [results, Tryz.results28, go_sem]) rfl ⟨some ⟨a1, 0, none⟩, T.length, c1, hs, by rw [HR.out], ?_, HX2.out⟩
    rw [HR.out]
    exact HO2.out
end Go.Proofs.YtdhlapppahkjeaaGreatDoor

namespace Go.Proofs.YtdhlapppahkjeaaGreatDoor
open Go.RowKit

theorem cntSum_bound {M : Int} (hM : 0 ≤ M) : ∀ {l : List Tm} (x : List Int), (∀ p ∈ l, 0 ≤ p.2 ∧ p.2 ≤ M) → 0 ≤ cntSum l x ∧ cntSum l x ≤ l.length * M
  | [], _, _ => by simp [cntSum]
  | p :: l, x, h => by
    have h1 := h p (by simp)
    have h2 := cntSum_bound hM (l := l) x fun q hq => h q (by simp [hq])
    simp only [cntSum, List.length_cons]
    have e : ((l.length + 1 : Nat) : Int) * M = l.length * M + M := by rw [Int.natCast_add, Int.add_mul]; simp
    rw [e]
    split <;> omega
theorem ChrP.at {r : Nat} {us : List Tm} (h : ChrP r us) (_hr : r ≤ 4) {k : Nat} (hk : k < us.length) : (wayAt us k).length = r ∧ (∀ j, j < r → -1000 ≤ (wayAt us k).getD j 0 ∧ (wayAt us k).getD j 0 ≤ 1000) ∧ 1 ≤ lenAt us k ∧ lenAt us k ≤ 1000000 := by
  have hp := h.each (us.getD k ([], 0)) (by rw [getT hk]; exact List.getElem_mem hk)
  have hw := wayB_iff.1 hp.1
  exact ⟨hw.1, hw.2, hp.2⟩

end Go.Proofs.YtdhlapppahkjeaaGreatDoor

namespace Go.Proofs.YtdhlapppahkjeaaGreatDoor
open Go.RowKit

end Go.Proofs.YtdhlapppahkjeaaGreatDoor

namespace Go.Proofs.YtdhlapppahkjeaaGreatDoor
open Go.RowKit

set_option maxHeartbeats 1000000 in
theorem l8Give_any (R : Nat) (ta : Option Addr) (tn tc : Nat) (a : Option Addr) (n c : Nat) (T : List Tm) (w : World) (h : TermsAt w a n T) (hn : n ≤ 9223372036854775807) (hR : R ≤ 1000000) :
    Calls Tryz.prog 23 #[carV R ta tn tc, .slice a n c] w fun e w' => e = .returned (if chrB R T then .tuple #[.slice a n c, .bool true] else .tuple #[.slice none 0 0, .bool false]) ∧ Ext w w' := by
  have hx1 := Ext.alloc w (.cells #[.int .i64 R, .slice ta tn tc] 29)
  obtain ⟨f0, f1⟩ := CarAt.new w _ rfl (R : Int) ta tn tc 29
  have HL := hidP (l8Ok_any R ta tn tc a n c T _ (h.below hx1) hn hR)
  have HX1 := hidP hx1
  clear h hx1
  cases hb : chrB R T
  · rw [hb] at HL
    clear hb
    go_enter Tryz.func23, Tryz.ntmps23
    go_wp2_with fail
    refine HL.out.mono ?_
    rintro e w2 ⟨rfl, hx⟩
    have HX := hidP (HX1.out.trans hx)
    clear hx
    go_wp2
    refine bodyPost_ret (v := .tuple #[.slice none 0 0, .bool false]) (by simp [results, Tryz.results23, go_sem]) rfl ⟨rfl, HX.out⟩
  · rw [hb] at HL
    clear hb
    go_enter Tryz.func23, Tryz.ntmps23
    go_wp2_with fail
    refine HL.out.mono ?_
    rintro e w2 ⟨rfl, hx⟩
    have HX := hidP (HX1.out.trans hx)
    clear hx
    go_wp2
    refine bodyPost_ret (v := .tuple #[.slice a n c, .bool true]) (by simp [results, Tryz.results23, go_sem]) rfl ⟨rfl, HX.out⟩

end Go.Proofs.YtdhlapppahkjeaaGreatDoor

namespace Go.Proofs.YtdhlapppahkjeaaGreatDoor
open Go.RowKit

def SmallL (J : List Tm) : Prop := J.length ≤ 400 ∧ ∀ k, k < J.length → (J.getD k ([], 0)).1.length ≤ 4
theorem terms_small {J : List Tm} (h : SmallL J) {n : Nat} (hn : J.length = n) : mkAt J n ≤ 10000000 := by
  subst hn
  have := mkAt_bound J 4 J.length h.2
  have := h.1
  omega
theorem termsJ_small {J1 : Bool} {J2 : List Tm} (h : SmallL (J1, J2).2) {n : Nat} (hn : J2.length = n) : mkAt J2 n ≤ 10000000 := terms_small h hn
theorem SmallL.nil : SmallL [] := ⟨by simp, fun k hk => by simp at hk⟩
theorem ChrP.smallL {r : Nat} {us : List Tm} (h : ChrP r us) (hr : r ≤ 4) : SmallL us := ⟨h.len, fun k hk => by
  have := (h.at hr hk).1
  unfold wayAt at this
  omega⟩
theorem chrR_small {r : Nat} (hr : r ≤ 4) (T : List Tm) : SmallL (chrR r T).2 := by
  unfold chrR
  split
  · rename_i h
    exact (chrB_iff.1 h).smallL hr
  · exact SmallL.nil
end Go.Proofs.YtdhlapppahkjeaaGreatDoor

namespace Go.Proofs.YtdhlapppahkjeaaGreatDoor
open Go.RowKit

variable {α : Type}
/-- m elements that lie one behind the other from a place on, each with its numbers in memory of its own -/
structure PartK (K : Knd α) (w : World) (B g o m : Nat) (hs : List Hdr) (xs : List α) : Prop where
  hl : hs.length = m
  xl : xs.length = m
  cells : ∀ (j : Nat) u, (K.all hs xs)[j]? = some u → w.cell? ((⟨g, o, none⟩ : Addr).add j) = some u
  each : ∀ i, i < m → OwnI w B (hs.getD i (none, 0)).1 (K.ints (xs.getD i K.dft)).length (hs.getD i (none, 0)).2 (K.ints (xs.getD i K.dft))
  apart : ∀ i j, i < m → j < m → i ≠ j → Apart (hs.getD i (none, 0)).1 (hs.getD j (none, 0)).1
theorem OwnK.part {K : Knd α} {w : World} {B U g n c : Nat} {hs : List Hdr} {xs : List α} (h : OwnK K w B U (some ⟨g, 0, none⟩) n c hs xs) (i : Nat) (hi : i ≤ n) : PartK K w B g (i * K.size) (n - i) (hs.drop i) (xs.drop i) := by
  have hhl := h.hl
  have hxl := h.xl
  have hall := K.all_length hs xs (hhl.trans hxl.symm)
  have hsplit : K.all hs xs = K.all (hs.take i) (xs.take i) ++ K.all (hs.drop i) (xs.drop i) := by
    rw [← K.all_append _ _ _ _ (by simp; omega), List.take_append_drop, List.take_append_drop]
  have hlen : (K.all (hs.take i) (xs.take i)).length = i * K.size := by
    rw [K.all_length _ _ (by simp; omega), List.length_take, hxl, Nat.min_eq_left hi]
  refine ⟨by simp; omega, by simp; omega, fun j u hu => ?_, fun q hq => ?_, fun q r hq hr hqr => ?_⟩
  · have h1 : (K.all hs xs)[i * K.size + j]? = some u := by
      rw [hsplit, List.getElem?_append_right (by omega), hlen, Nat.add_sub_cancel_left]
      exact hu
    have h2 : i * K.size + j < n * K.size := by
      have := (List.getElem?_eq_some_iff.1 h1).1
      rwa [hall, hxl] at this
    rw [add_none, h.row.cellAt _ h2]
    exact h1
  · have := h.each (i + q) (by omega)
    simpa [List.getD_eq_getElem?_getD, List.getElem?_drop] using this
  · have := h.apart (i + q) (i + r) (by omega) (by omega) (by omega)
    simpa [List.getD_eq_getElem?_getD, List.getElem?_drop] using this
theorem OwnK.cat_part {K : Knd α} {w w' : World} {B U : Nat} {a : Option Addr} {n c g o m : Nat} {hs hs2 : List Hdr} {xs xs2 : List α} (hown : OwnK K w B U a n c hs xs) (h2 : PartK K w B g o m hs2 xs2) {v' : Value}
    (hr : w'.ownsRow B K.E K.size v' (n + m) (K.all hs xs ++ K.all hs2 xs2)) (hg : w.grownBy w' (Value.slice a n c).ownBlock)
    (hap : ∀ i j, i < n → j < m → Apart (hs.getD i (none, 0)).1 (hs2.getD j (none, 0)).1) (hsl : ∃ a' c', v' = .slice a' (n + m) c') :
    ∃ a' c', v' = .slice a' (n + m) c' ∧ OwnK K w' B w'.heap.size a' (n + m) c' (hs ++ hs2) (xs ++ xs2) := by
  rw [← K.all_append hs hs2 xs xs2 (hown.hl.trans hown.xl.symm)] at hr
  obtain ⟨a', c', rfl⟩ := hsl
  refine ⟨a', c', rfl, ?_⟩
  have hxl := hown.xl
  have hhl := hown.hl
  have hxl2 := h2.xl
  have hhl2 := h2.hl
  have hne : ∀ {p : Option Addr} {k q : Nat} {ys : List Int}, OwnI w B p k q ys → ∀ b o, p = some ⟨b, o, none⟩ → some b ≠ (Value.slice a n c).ownBlock := fun hk b o e => by
    rcases hown.form with ⟨rfl, _⟩ | ⟨g', cur, rfl, _⟩
    · simp [Value.ownBlock]
    · have := hown.off_ints hk g' 0 b o rfl e
      simp only [Value.ownBlock, ne_eq, Option.some.injEq]
      omega
  have hev : ∀ q, q < n + m → OwnI w' B ((hs ++ hs2).getD q (none, 0)).1 (K.ints ((xs ++ xs2).getD q K.dft)).length ((hs ++ hs2).getD q (none, 0)).2 (K.ints ((xs ++ xs2).getD q K.dft)) := fun q hq => by
    by_cases h3 : q < n
    · rw [getD_left _ _ _ _ (by omega), getD_left _ _ _ _ (by omega)]
      exact (hown.each q h3).grown hg fun b o e => hne (hown.each q h3) b o e
    · rw [getD_right _ _ _ _ (by omega), getD_right _ _ _ _ (by omega), hhl, hxl]
      exact (h2.each _ (by omega)).grown hg fun b o e => hne (h2.each _ (by omega)) b o e
  refine ⟨hr, by simp [hhl, hhl2], by simp [hxl, hxl2], hev, fun q r hq hr' hqr => ?_, fun q hq b o e => ((hev q hq).at_base b o e).2, fun b o e => ?_⟩
  · by_cases h3 : q < n
    · rw [getD_left hs _ q _ (by omega)]
      by_cases h4 : r < n
      · rw [getD_left hs _ r _ (by omega)]; exact hown.apart q r h3 h4 hqr
      · rw [getD_right hs _ r _ (by omega)]; exact hap q _ h3 (by omega)
    · rw [getD_right hs _ q _ (by omega)]
      by_cases h4 : r < n
      · rw [getD_left hs _ r _ (by omega)]; exact (hap r _ h4 (by omega)).symm
      · rw [getD_right hs _ r _ (by omega)]; exact h2.apart _ _ (by omega) (by omega) (by omega)
  · rcases hr.2 with ⟨h5, h0⟩ | ⟨g', cap, cur, he, _, hg', _⟩
    · simp only [Value.slice.injEq] at h5
      rw [h5.1] at e
      cases e
    · simp only [Value.slice.injEq] at he
      rw [e] at he
      simp only [Option.some.injEq, Addr.mk.injEq, and_true] at he
      obtain ⟨⟨rfl, _⟩, _⟩ := he
      exact (Array.getElem?_eq_some_iff.1 hg').1

/-- append of a part's elements to an owned slice, at a single operation -/
theorem wp_append_part {o : Oper} {av : Act} {Kk : Act → World → Prop} {Q : Exit → Act → World → Prop} {w : World} (K : Knd α) (T : TypeId) (z : Value) (bytes : Nat) (s x : Operand)
    (ho : o.op = .call { callee := .builtin .append, args := #[s, x], argTypes := #[T, T] }) (hT : Tryz.prog.underlying T = some (.slice K.E)) (hinfo : (Tryz.prog.info? K.E).map (fun i => (i.zero, i.size, i.bytes)) = some (some z, K.size, bytes))
    (hz : z.cells.size = K.size) (hbp : bytes ≤ 1000)
    (B U : Nat) (g0 n c : Nat) (hs hs2 : List Hdr) (xs xs2 : List α) (hsv : av.eval s = .slice (some ⟨g0, 0, none⟩) n c) (hown : OwnK K w B U (some ⟨g0, 0, none⟩) n c hs xs)
    (g o2 m c2 : Nat) (hx : av.eval x = .slice (some ⟨g, o2, none⟩) m c2) (h2 : PartK K w B g o2 m hs2 xs2)
    (hap : ∀ i j, i < n → j < m → Apart (hs.getD i (none, 0)).1 (hs2.getD j (none, 0)).1) (hsm : n + m ≤ 1000000000) (hB : B ≤ w.heap.size)
    (h : ∀ g' c' w', OwnK K w' B w'.heap.size (some ⟨g', 0, none⟩) (n + m) c' (hs ++ hs2) (xs ++ xs2) → w.grownBy w' (some g0) → (g' = g0 ∨ w.heap.size ≤ g') → Kk (av.put o.dst (.slice (some ⟨g', 0, none⟩) (n + m) c')) w') : o.wp Tryz.prog av w Kk Q := by
  obtain ⟨i, hi, hz0, hz1, hz2⟩ := info_parts hinfo
  have hl2 := K.all_length hs2 xs2 (h2.hl.trans h2.xl.symm)
  rw [h2.xl] at hl2
  have hcells := h2.cells
  obtain ⟨gb, cur, eb, _⟩ : ∃ gb cur, (some (⟨g0, 0, none⟩ : Addr)) = some ⟨gb, 0, none⟩ ∧ w.heap[gb]? = some (.cells cur K.E (0, 0)) := by
    rcases hown.form with ⟨e, _⟩ | ⟨gb, cur, e, _, _, h3, _⟩
    · cases e
    · exact ⟨gb, cur, e, h3⟩
  by_cases hroom : n + m ≤ c
  · obtain ⟨w', hrun, hr, hg⟩ := run_append_fits (P := Tryz.prog) w B T o.type K.E i K.size hT hi hz1 g0 n c (K.all hs xs) hown.row ⟨g, o2, none⟩ m c2 (K.all hs2 xs2) hl2 hcells (K.all_one _ _) hroom
    obtain ⟨a', c', e, hk⟩ := hown.cat_part h2 hr hg hap ⟨_, _, rfl⟩
    simp only [Value.slice.injEq] at e
    obtain ⟨rfl, _, rfl⟩ := e
    unfold Oper.wp
    simp only [execOp, ho, resolve, invoke, builtin, Sem.run_bind, Sem.run_pure, Result.andThen_ok, List.map_toArray, List.map_cons, List.map_nil, hsv, hx, hrun]
    exact h _ _ w' hk hg (.inl rfl)
  · have hlx := K.all_length hs xs (hown.hl.trans hown.xl.symm)
    rw [hown.xl] at hlx
    obtain ⟨v', w', hrun, hr, hg0⟩ := run_append_arg_grows (P := Tryz.prog) w T o.type K.E i z K.size bytes hT hi hz0 hz1 hz2 hz K.pos ⟨g0, 0, none⟩ n c (K.all hs xs) hlx (by
      intro j u hu
      have hj : j < n * K.size := by have := (List.getElem?_eq_some_iff.1 hu).1; rwa [hlx] at this
      rw [add_none, Nat.zero_add, hown.row.cellAt j hj]
      exact hu) ⟨g, o2, none⟩ m c2 (K.all hs2 xs2) hl2 hcells (by omega) (by unfold maxLen; omega)
      (by calc (n + m) * bytes ≤ 1000000000 * 1000 := Nat.mul_le_mul (by omega) hbp
            _ ≤ _ := by omega)
    have hg : w.grownBy w' (Value.slice (some ⟨g0, 0, none⟩) n c).ownBlock := ⟨hg0.os, hg0.tape, hg0.output, hg0.size, fun k hk _ => hg0.block k hk (by simp)⟩
    have hr2 : w'.ownsRow B K.E K.size v' (n + m) (K.all hs xs ++ K.all hs2 xs2) := by
      refine ⟨hr.1, ?_⟩
      rcases hr.2 with h2 | ⟨g', cap, cur, he, hB', r⟩
      · exact .inl h2
      · exact .inr ⟨g', cap, cur, he, Nat.le_trans hB hB', r⟩
    obtain ⟨g', cap, he, hB'⟩ : ∃ g' cap, v' = .slice (some ⟨g', 0, none⟩) (n + m) cap ∧ w.heap.size ≤ g' := by
      rcases hr.2 with ⟨e5, h0⟩ | ⟨g', cap, cur, he, hB', _⟩
      · omega
      · exact ⟨g', cap, he, hB'⟩
    subst he
    obtain ⟨a', c', e, hk⟩ := hown.cat_part h2 hr2 hg hap ⟨_, _, rfl⟩
    simp only [Value.slice.injEq, true_and] at e
    obtain ⟨rfl, rfl⟩ := e
    unfold Oper.wp
    simp only [execOp, ho, resolve, invoke, builtin, Sem.run_bind, Sem.run_pure, Result.andThen_ok, List.map_toArray, List.map_cons, List.map_nil, hsv, hx, hrun]
    exact h g' _ w' hk hg (.inr hB')
theorem wpList_append_part {ops : Array Oper} {rest : List Oper} {o : Oper} {av : Act} {Q : Exit → Act → World → Prop} {w : World} (K : Knd α) (T : TypeId) (z : Value) (bytes : Nat) (hgd : o.guard = none) (s x : Operand)
    (ho : o.op = .call { callee := .builtin .append, args := #[s, x], argTypes := #[T, T] }) (hT : Tryz.prog.underlying T = some (.slice K.E)) (hinfo : (Tryz.prog.info? K.E).map (fun i => (i.zero, i.size, i.bytes)) = some (some z, K.size, bytes))
    (hz : z.cells.size = K.size) (hbp : bytes ≤ 1000)
    (B U : Nat) (g0 n c : Nat) (hs hs2 : List Hdr) (xs xs2 : List α) (hsv : av.eval s = .slice (some ⟨g0, 0, none⟩) n c) (hown : OwnK K w B U (some ⟨g0, 0, none⟩) n c hs xs)
    (g o2 m c2 : Nat) (hx : av.eval x = .slice (some ⟨g, o2, none⟩) m c2) (h2 : PartK K w B g o2 m hs2 xs2)
    (hap : ∀ i j, i < n → j < m → Apart (hs.getD i (none, 0)).1 (hs2.getD j (none, 0)).1) (hsm : n + m ≤ 1000000000) (hB : B ≤ w.heap.size)
    (h : ∀ g' c' w', OwnK K w' B w'.heap.size (some ⟨g', 0, none⟩) (n + m) c' (hs ++ hs2) (xs ++ xs2) → w.grownBy w' (some g0) → (g' = g0 ∨ w.heap.size ≤ g') → wpList Tryz.prog ops Q rest (av.put o.dst (.slice (some ⟨g', 0, none⟩) (n + m) c')) w') : wpList Tryz.prog ops Q (o :: rest) av w :=
  wpList_plain hgd fun _ hK' => wp_append_part K T z bytes s x ho hT hinfo hz hbp B U g0 n c hs hs2 xs xs2 hsv hown g o2 m c2 hx h2 hap hsm hB fun g' c' w' r1 r2 r3 => hK' _ _ (h g' c' w' r1 r2 r3)
theorem OwnK.front {K : Knd α} {w : World} {B U g n c : Nat} {hs : List Hdr} {xs : List α} (h : OwnK K w B U (some ⟨g, 0, none⟩) n c hs xs) (i : Nat) (hi : i ≤ n) : PartK K w B g 0 i (hs.take i) (xs.take i) := by
  have := (h.take i hi).part 0 (Nat.zero_le _)
  simpa using this
theorem PartK.single {K : Knd α} {w : World} {B g : Nat} {h1 : Hdr} {x1 : α} (hc : ∀ j, j < K.size → w.cell? ⟨g, j, none⟩ = (K.cells h1.1 h1.2 x1)[j]?) (hi : OwnI w B h1.1 (K.ints x1).length h1.2 (K.ints x1)) : PartK K w B g 0 1 [h1] [x1] := by
  refine ⟨rfl, rfl, fun j u hu => ?_, fun i hi' => ?_, fun i j hi' hj' hne => by omega⟩
  · have e : K.all [h1] [x1] = K.cells h1.1 h1.2 x1 := by simp [Knd.all]
    rw [e] at hu
    have hj : j < K.size := by have := (List.getElem?_eq_some_iff.1 hu).1; rwa [K.len] at this
    rw [add_none, Nat.zero_add, hc j hj]
    exact hu
  · obtain rfl : i = 0 := by omega
    exact hi
/-- an owned slice stays where another block is written, if that one is none of its own -/
theorem OwnK.past {K : Knd α} {w w' : World} {B U b n c : Nat} {a : Option Addr} {hs : List Hdr} {xs : List α} (h : OwnK K w B U a n c hs xs) (hg : w.grownBy w' (some b)) (ha : ∀ g o, a = some ⟨g, o, none⟩ → g ≠ b) (hb : U ≤ b) : OwnK K w' B U a n c hs xs :=
  h.kept hg (fun g o e e2 => ha g o e (Option.some.inj e2)) fun i hi g o e e2 => by
    have := h.lt i hi g o e
    have := Option.some.inj e2
    omega
theorem PartK.moved {K : Knd α} {w : World} {B g o o' m : Nat} {hs : List Hdr} {xs : List α} (h : PartK K w B g o m hs xs) (hm : o' = o ∨ m = 0) : PartK K w B g o' m hs xs := by
  rcases hm with rfl | rfl
  · exact h
  · obtain rfl : hs = [] := List.length_eq_zero_iff.1 h.hl
    obtain rfl : xs = [] := List.length_eq_zero_iff.1 h.xl
    exact ⟨rfl, rfl, fun j u hu => by simp [Knd.all] at hu, fun i hi => by omega, fun i j hi => by omega⟩
end Go.Proofs.YtdhlapppahkjeaaGreatDoor
