/-
  Draws of a small type and of a highest weight.
  The reference's matrix of a type by its name, for the types that are drawn.
  The reference's sum of two matrices of types; a look-up of names.
  Draws: the cursor over a code's bytes; numbers below another.
  Slices of bytes, read; the laws' own at0 and big.
  Arguments opened: slices of integers, algebras, slices of a word and a number each; what a call that only makes memory leaves readable.
  The reference's dimension of a highest weight.
  The reference's inner products, coroots, greatest divisors.
  The reference's numbers of lengths.
  The reference's positive roots: the walk. Printed by gen/roots.py.
-/
import Derived.Test.YtfikkfbnlegflaaGreatDoorMf8
import Derived.Deep.Slices
import Derived.Lib.SmallJoins
import Derived.Carry
import Derived.ChangeSlices
import Derived.ProofKit
import Derived.OpenShut
import Derived.ChangeOld
import Derived.BigQuiet
import Derived.Deep.QuietTactic
namespace Go.Proofs.YtfikkfbnlegflaaGreatDoor
open Go.RowKit

set_option maxRecDepth 100000 in
set_option maxHeartbeats 8000000 in
theorem l5Roots_any (R : Nat) (ta : Option Addr) (tn tc : Nat) (ts : List Int) (w : World) (hc : IntsAt w ta tn ts) (hT : typeB R ts = true) (FS : List (List Int)) (hF : foundL R ts = some FS) (hl : FS.length ≤ 100) (hS : SmallRows R FS) :
    Calls Tryz.prog 137 #[carV R ta tn tc] w fun e w' => ∃ a c, e = .returned (.slice a FS.length c) ∧ RowsI w' a FS.length (rootsOf FS) ∧ Ext w w' := by
  have hx1 := Ext.alloc w (.cells #[.int .i64 R, .slice ta tn tc] 31)
  have HC := hidP (fun w' (hx : Ext (w.alloc (.cells #[.int .i64 R, .slice ta tn tc] 31)) w') => (CarAt.new w _ rfl (R : Int) ta tn tc 31).below hx)
  have HX1 := hidP hx1
  have hrk := typeB_rank hT
  have HTs := hidP (fun w' (hx : Ext w w') => hc.below hx)
  have HT := hidP hT
  have HSm := hidP hS
  have HF0 := hidP hF
  have hR4 : R ≤ 4 := by omega
  have hR1 : 1 ≤ R := by omega
  clear hc hT hS hF hrk
  obtain ⟨w1, hw1⟩ : ∃ w1, w1 = w.alloc (.cells #[.int .i64 R, .slice ta tn tc] 31) := ⟨_, rfl⟩
  have hs2 : w1.heap.size = w.heap.size + 1 := by rw [hw1]; simp
  have hm := HRows.made0 w1
  have hx2 := Ext.alloc w1 (.cells #[] 22)
  rw [← hw1] at HC HX1
  obtain ⟨g0, hg0⟩ : ∃ g0, g0 = w1.heap.size := ⟨_, rfl⟩
  have hg0' : w.heap.size + 1 = g0 := by omega
  rw [← hg0] at hm
  have hm : HRows (w1.alloc (.cells #[] 22)) w1.heap.size (some ⟨g0, 0, none⟩) 0 0 [] := by rw [← hg0]; exact hm
  have HM := hidP hm
  have HX2 := hidP hx2
  have HW1 := hidP hw1
  have HG0 : Hid (w1.heap.size = g0) := hg0.symm
  clear hm hx2 hs2 hx1 hw1 hg0
  go_enter Tryz.func137, Tryz.ntmps137
  go_wp2
  rw [← HW1.out]
  first | rw [hg0'] | rw [HG0.out] | skip
  clear HW1 hg0' HG0
  obtain ⟨w2, hw2⟩ : ∃ w2, w2 = w1.alloc (.cells #[] 22) := ⟨_, rfl⟩
  rw [← hw2] at HM HX2 ⊢
  clear hw2
  go_loopw [3, 4] (fun fs ii wr => ∃ (i : Nat) (a : Option Addr) (c : Nat) (xs : List HRow), i ≤ R ∧ fs = .slice a i c ∧ ii = .int .i64 i ∧ Hid (HRows wr w1.heap.size a i c xs) ∧ Hid (xs.map rowOf = (List.range i).map (basisL R)) ∧ Hid (Ext w1 wr)) (fun _ ii _ => R - (intOf ii).toNat)
  case atStart => exact ⟨0, _, 0, [], Nat.zero_le _, rfl, rfl, HM, rfl, HX2⟩
  case round =>
    clear HM HX2
    obtain ⟨i, a, c, xs, hi, rfl, rfl, HO, HRw, HX⟩ := hrel
    obtain ⟨y0, y1⟩ := HC.out wr HX.out
    by_cases hlt : i < R
    · have HBas := hidP (fun w' => l2Basis_any R i w' hlt (by omega))
      go_wp2_with fail
      refine (HBas.out _).mono ?_
      rintro e w3 ⟨a1, rfl, ho1, hx1⟩
      have hxa := hx1.trans (Ext.alloc w3 (.cells #[.slice a1 R R] 22))
      have HX3 := hidP (HX.out.trans hxa)
      have HL3 := hidP (HO.out.below hxa)
      have HO3 := hidP ((ho1.below (Ext.alloc w3 (.cells #[.slice a1 R R] 22))).base (B' := w1.heap.size) HX.out.size)
      have HCe : Hid ((w3.alloc (.cells #[.slice a1 R R] 22)).cell? ⟨w3.heap.size, 0, none⟩ = some (.slice a1 R R)) := (cell_top _ _ _ _ _ rfl).trans rfl
      have hz := HX3.out.size
      clear hx1 hxa ho1 y0 y1 HBas
      go_wp2_with (at_builtin; refine wpList_append_row 126 rfl (.tmp 18) (.tmp 23) rfl Tryz.underlying126 w1.heap.size a i c xs rfl HL3.out w3.heap.size 1 a1 R R (basisL R i) rfl HCe.out HO3.out (by omega) hz ?_; intro a4 c4 w4 ho4 hg4 _; have HX4 := hidP (HL3.out.below_grown hg4 HX3.out hz); have HO4 := hidP ho4; clear ho4 hg4)
      have HR4 : Hid ((xs ++ [hrow a1 R (basisL R i)]).map rowOf = (List.range (i + 1)).map (basisL R)) := by
        show _ = _
        rw [List.map_append, HRw.out, List.range_succ, List.map_append]
        rfl
      clear hz
      go_roundw
      case rel => exact ⟨i + 1, a4, c4, _, by omega, by first | rfl | go_num, by go_num, HO4, HR4, HX4⟩
      case measure => simp [intOf]; omega
    · obtain rfl : R = i := by omega
      have HFo : Hid (∃ f, foundGo R ts f 0 0 (xs.map rowOf) = some FS) := ⟨100, by rw [HRw.out]; exact HF0.out⟩
      go_wp2
      clear y0 y1
      go_loopw [3, 5] (fun fs kk wr => ∃ (k n : Nat) (a : Option Addr) (c : Nat) (xs : List HRow), k ≤ n ∧ fs = .slice a n c ∧ kk = .int .i64 k ∧ n ≤ FS.length ∧ Hid (HRows wr w1.heap.size a n c xs) ∧ Hid (∃ f, foundGo R ts f k 0 (xs.map rowOf) = some FS) ∧ Hid (Ext w1 wr)) (fun _ kk _ => FS.length - (intOf kk).toNat)
      case atStart =>
        refine ⟨0, R, a, c, xs, Nat.zero_le _, rfl, rfl, ?_, HO, HFo, HX⟩
        obtain ⟨f, hf⟩ := HFo.out
        obtain ⟨t, ht⟩ := foundGo_pre _ _ _ _ _ _ _ hf
        rw [ht, List.length_append, List.length_map, HO.out.len]
        omega
      case round =>
        clear HO HRw HX HFo
        obtain ⟨k, n, a, c, xs, hkn, rfl, rfl, hnF, HO, HFo, HX⟩ := hrel
        by_cases hlt : k < n
        · go_wp2
          go_loopw [3, 6] (fun fs ii wr => ∃ (i n : Nat) (a : Option Addr) (c : Nat) (xs : List HRow), i ≤ R ∧ k < n ∧ fs = .slice a n c ∧ ii = .int .i64 i ∧ n ≤ FS.length ∧ Hid (HRows wr w1.heap.size a n c xs) ∧ Hid (∃ f, foundGo R ts f k i (xs.map rowOf) = some FS) ∧ Hid (Ext w1 wr)) (fun _ ii _ => R - (intOf ii).toNat)
          case atStart => exact ⟨0, n, a, c, xs, Nat.zero_le _, hlt, rfl, rfl, hnF, HO, HFo, HX⟩
          case round =>
            clear HO HFo HX
            obtain ⟨i, n, a, c, xs, hi, hkn, rfl, rfl, hnF, HO, HFo, HX⟩ := hrel
            obtain ⟨y0, y1⟩ := HC.out wr HX.out
            by_cases hli : i < R
            · obtain ⟨g, ai, ci, rfl, _, hci, hoi⟩ := HO.out.at_ k hkn
              have hV : rowOf (xs.getD k hdrK.dft) = (xs.map rowOf).getD k [] := (rowOf_get _ _).symm
              rw [hV] at hci hoi
              obtain ⟨V, hVe⟩ : ∃ V, V = (xs.map rowOf).getD k [] := ⟨_, rfl⟩
              rw [← hVe] at hci hoi
              have hVF : V = FS.getD k [] := by
                obtain ⟨f, hf⟩ := HFo.out
                obtain ⟨t, ht⟩ := foundGo_pre _ _ _ _ _ _ _ hf
                have hll : k < (xs.map rowOf).length := by rw [List.length_map, HO.out.len]; exact hkn
                rw [ht, hVe]
                simp [List.getD_eq_getElem?_getD, List.getElem?_append_left hll]
              have hsm := HSm.out.get (show k < FS.length by omega)
              rw [← hVF] at hsm
              rw [hsm.1] at hci hoi
              have HVe := hidP hVe
              have HSim := hidP (fun w' (hx : Ext wr w') => l5Simple_any R ta tn tc ts i hli ai R ci V w' (HTs.out w' (HX1.out.trans (HX.out.trans hx))) HT.out ((hoi.below hx).ints) hsm.1 hoi.nil_cap (fun j hj => by have := hsm.2 j hj; omega))
              have HQ : Hid (∀ w', Ext wr w' → w'.cell? ⟨g, k, none⟩ = some (.slice ai R ci)) := fun w' hx => (hx.cell (p := ⟨g, k, none⟩) (World.block_lt_of_cell? wr _ hci)).trans hci
              obtain ⟨X, hX⟩ : ∃ X, X = simL R ts i V := ⟨_, rfl⟩
              rw [← hX] at HSim
              have HXl : Hid (X.length = R) := by show _ = _; rw [hX, simL_length]; exact hsm.1
              have HStep : Hid (∃ f, foundGo R ts f k (i + 1) (if posL X && !(xs.map rowOf).contains X then xs.map rowOf ++ [X] else xs.map rowOf) = some FS) := by
                obtain ⟨f, hf⟩ := HFo.out
                obtain ⟨f', hf'⟩ := foundGo_step hf (by rw [List.length_map, HO.out.len]; exact hkn) hli
                rw [← HVe.out, ← hX] at hf'
                exact ⟨f', hf'⟩
              have hk0 : (0 : Int) ≤ (k : Int) := by omega
              have hk1 : (k : Int) < (n : Int) := by omega
              clear hci hoi hV hVe hVF hsm hX HFo
              have hE : Ext wr wr.drew := Ext.drew wr
              go_wp2
              (refine walkR_start (fun w' => Ext wr w') 7 (by kernel_rfl) ?_; simp only [numbered, List.take_succ_cons, List.take_zero, Nat.zero_add, Nat.reduceAdd, List.length_cons, List.length_nil])
              (repeat (first | (refine walkR_still (v := ?_) rfl (by decide +kernel) rfl (fun _ _ _ h => h) hE ?_ ?_; rotate_left; (focus (intro w' hw'; obtain ⟨f0, f1⟩ := HC.out w' (HX.out.trans hw'); have q1 := HQ.out w' hw'; go_simp; all_goals (with_reducible rfl))); simp only [Act.put, List.setIfInBounds_toArray, List.set_cons_zero, List.set_cons_succ]) | (refine walkR_skip rfl (by decide +kernel) rfl (fun _ _ _ h => h) hE ?_; simp only [Act.put, List.setIfInBounds_toArray, List.set_cons_zero, List.set_cons_succ])))
              (refine walkR_only (fun w' => Ext wr w') rfl (by decide +kernel) rfl (fun _ h => h) ?_; intro K hK; go_simp; refine (HSim.out _ hE).mono ?_; rintro e w3 ⟨a3, c3, rfl, ho3, hx3⟩; refine hK _ _ (hE.trans hx3) ?_; clear hK K; (try simp only [Act.put, List.setIfInBounds_toArray, List.set_cons_zero, List.set_cons_succ]))
              (refine walkR_tail (by rfl) (by kernel_rfl) ?_; simp only [List.drop_succ_cons, List.drop_zero])
              have hE3 := hE.trans hx3
              have HX3 := hidP (HX.out.trans hE3)
              have HO3 := hidP (HO.out.below hE3)
              have HI3 := hidP (ho3.base (B' := w1.heap.size) (by have := HX.out.size; have := hE.size; omega))
              clear ho3 hx3 hE hE3 y0 y1 HSim HQ
              have HPo := hidP (fun w' (hx : Ext w3 w') => l5Positive_any a3 R c3 X w' ((HI3.out.below hx).ints) (by omega))
              have HPl := hidP (fun w' (hx : Ext w3 w') => l5Place_any (some ⟨g, 0, none⟩) n c (xs.map rowOf) a3 R c3 X w' ((HO3.out.below hx).rowsI) ((HI3.out.below hx).ints) (by omega) (by omega) (fun j hj => by
                rw [rowOf_get]
                obtain ⟨g', ai', ci', _, _, _, h5⟩ := HO3.out.at_ j hj
                have h6 : rowOf (xs.getD j hdrK.dft) = FS.getD j [] := by
                  obtain ⟨f, hf⟩ := HStep.out
                  obtain ⟨t, ht⟩ := foundGo_pre _ _ _ _ _ _ _ hf
                  have hll : j < (xs.map rowOf).length := by rw [List.length_map, HO3.out.len]; exact hj
                  rw [← rowOf_get, ht]
                  split
                  · rw [List.append_assoc]
                    simp [List.getD_eq_getElem?_getD, List.getElem?_append_left hll]
                  · simp [List.getD_eq_getElem?_getD, List.getElem?_append_left hll]
                rw [h6, (HSm.out.get (show j < FS.length by omega)).1]
                omega))
              cases hp : posL X
              · rw [hp] at HPo
                have HSt2 : Hid (∃ f, foundGo R ts f k (i + 1) (xs.map rowOf) = some FS) := by
                  show ∃ f, foundGo R ts f k (i + 1) (xs.map rowOf) = some FS
                  have := HStep.out
                  rw [hp] at this
                  simpa using this
                clear hp HStep HPl
                go_wp2_with fail
                refine (HPo.out _ (Ext.refl _)).mono ?_
                rintro e w4 ⟨rfl, rfl⟩
                go_wp2
                go_roundw
                case rel => exact ⟨i + 1, n, _, c, xs, by omega, hkn, rfl, by go_num, hnF, HO3, HSt2, HX3⟩
                case measure => simp [intOf]; omega
              · rw [hp] at HPo
                cases hq : (xs.map rowOf).contains X
                · have HSt2 : Hid (∃ f, foundGo R ts f k (i + 1) (xs.map rowOf ++ [X]) = some FS) := by
                    show ∃ f, foundGo R ts f k (i + 1) (xs.map rowOf ++ [X]) = some FS
                    have := HStep.out
                    rw [hp, hq] at this
                    simpa using this
                  rw [hq] at HPl
                  have hnF2 : n + 1 ≤ FS.length := by
                    obtain ⟨f, hf⟩ := HSt2.out
                    obtain ⟨t, ht⟩ := foundGo_pre _ _ _ _ _ _ _ hf
                    rw [ht]
                    simp only [List.length_append, List.length_map, List.length_singleton, HO3.out.len]
                    omega
                  clear hp hq HStep
                  go_wp2_with fail
                  refine (HPo.out _ (Ext.refl _)).mono ?_
                  rintro e w4 ⟨rfl, rfl⟩
                  go_wp2_with fail
                  refine (HPl.out _ (Ext.refl _)).mono ?_
                  rintro e w5 ⟨v, rfl, hv, hx5⟩
                  rw [Bool.not_false] at hv
                  have hv' : v < 0 := of_decide_eq_true hv
                  have hxa := hx5.trans (Ext.alloc w5 (.cells #[.slice a3 R c3] 22))
                  have HX5 := hidP (HX3.out.trans hxa)
                  have HL5 := hidP (HO3.out.below hxa)
                  have HI5 := hidP (HI3.out.below hxa)
                  have HCe : Hid ((w5.alloc (.cells #[.slice a3 R c3] 22)).cell? ⟨w5.heap.size, 0, none⟩ = some (.slice a3 R c3)) := (cell_top _ _ _ _ _ rfl).trans rfl
                  have hz := HX5.out.size
                  clear hx5 hxa hv HPo HPl
                  go_wp2_with (at_builtin; refine wpList_append_row 126 rfl (.tmp 52) (.tmp 54) rfl Tryz.underlying126 w1.heap.size (some ⟨g, 0, none⟩) n c xs rfl HL5.out w5.heap.size 1 a3 R c3 X rfl HCe.out HI5.out (by omega) hz ?_; intro a6 c6 w6 ho6 hg6 _; have HX6 := hidP (HL5.out.below_grown hg6 HX5.out hz); have HO6 := hidP ho6; clear ho6 hg6)
                  have HSt3 : Hid (∃ f, foundGo R ts f k (i + 1) ((xs ++ [hrow a3 c3 X]).map rowOf) = some FS) := by
                    obtain ⟨f, hf⟩ := HSt2.out
                    refine ⟨f, ?_⟩
                    rw [List.map_append]
                    exact hf
                  clear hz hv'
                  go_roundw
                  case rel => exact ⟨i + 1, n + 1, a6, c6, _, by omega, by omega, by first | rfl | go_num, by go_num, hnF2, HO6, HSt3, HX6⟩
                  case measure => simp [intOf]; omega
                · have HSt2 : Hid (∃ f, foundGo R ts f k (i + 1) (xs.map rowOf) = some FS) := by
                    show ∃ f, foundGo R ts f k (i + 1) (xs.map rowOf) = some FS
                    have := HStep.out
                    rw [hp, hq] at this
                    simpa using this
                  rw [hq] at HPl
                  clear hp hq HStep
                  go_wp2_with fail
                  refine (HPo.out _ (Ext.refl _)).mono ?_
                  rintro e w4 ⟨rfl, rfl⟩
                  go_wp2_with fail
                  refine (HPl.out _ (Ext.refl _)).mono ?_
                  rintro e w5 ⟨v, rfl, hv, hx5⟩
                  rw [Bool.not_true] at hv
                  have hv' : ¬ v < 0 := of_decide_eq_false hv
                  have HX5 := hidP (HX3.out.trans hx5)
                  have HL5 := hidP (HO3.out.below hx5)
                  clear hx5 hv
                  go_wp2
                  go_roundw
                  case rel => exact ⟨i + 1, n, _, c, xs, by omega, hkn, rfl, by go_num, hnF, HL5, HSt2, HX5⟩
                  case measure => simp [intOf]; omega
            · obtain rfl : R = i := by omega
              have HFn : Hid (∃ f, foundGo R ts f (k + 1) 0 (xs.map rowOf) = some FS) := by
                obtain ⟨f, hf⟩ := HFo.out
                exact foundGo_next hf (by rw [List.length_map, HO.out.len]; exact hkn)
              go_wp2
              go_roundw
              case rel => exact ⟨k + 1, n, a, c, xs, by omega, rfl, by go_num, hnF, HO, HFn, HX⟩
              case measure => simp [intOf]; omega
        · obtain rfl : n = k := by omega
          have HXF : Hid (xs.map rowOf = FS) := by
            obtain ⟨f, hf⟩ := HFo.out
            exact (foundGo_end hf (by rw [List.length_map, HO.out.len]; omega)).symm
          have hn : n = FS.length := by rw [← HXF.out, List.length_map, HO.out.len]
          subst hn
          clear HFo hkn hnF
          have hne : 0 < FS.length := by
            rcases Nat.eq_zero_or_pos FS.length with h0 | h0
            · exfalso
              have h1 := HF0.out
              obtain ⟨t, ht⟩ := foundGo_pre _ _ _ _ _ _ _ h1
              rw [ht] at h0
              simp at h0
              omega
            · exact h0
          obtain ⟨gF, _, _, rfl, _⟩ := HO.out.at_ 0 hne
          go_wp2
          obtain ⟨w3', hw3⟩ : ∃ x, x = wr.alloc (.cells #[] 22) := ⟨_, rfl⟩
          have hm3 : HRows w3' w1.heap.size (some ⟨wr.heap.size, 0, none⟩) 0 0 [] := by rw [hw3]; exact (HRows.made0 wr).base HX.out.size
          have hx3 : Ext wr w3' := by rw [hw3]; exact Ext.alloc _ _
          rw [← hw3]
          have HM := hidP hm3
          have HF := hidP (HO.out.below hx3)
          have HX3 := hidP (HX.out.trans hx3)
          obtain ⟨gS0, hgS0⟩ : ∃ gS0, gS0 = wr.heap.size := ⟨_, rfl⟩
          rw [← hgS0] at HM ⊢
          clear hw3 hm3 hx3 HO HX hgS0
          go_loopw [8, 9] (fun os kk wr => ∃ (k : Nat) (gS : Nat) (cS : Nat) (ys : List HRow), k ≤ FS.length ∧ os = .slice (some ⟨gS, 0, none⟩) k cS ∧ kk = .int .i64 k ∧ Hid (HRows wr w1.heap.size (some ⟨gS, 0, none⟩) k cS ys) ∧ Hid (ys.map rowOf = insTo FS k) ∧ Hid (Ext w3' wr)) (fun _ kk _ => FS.length - (intOf kk).toNat)
          case atStart => exact ⟨0, gS0, 0, [], Nat.zero_le _, rfl, rfl, HM, rfl, Ext.refl _⟩
          case round =>
            clear HM
            obtain ⟨k, gS, cS, ys, hkF, rfl, rfl, HS, HYS, HX0⟩ := hrel
            by_cases hlt : k < FS.length
            · obtain ⟨ws, hws⟩ : ∃ x, x = wr := ⟨_, rfl⟩
              rw [← hws] at HS HX0 ⊢
              have HXs : Hid (Ext w3' ws) := HX0
              have HXs1 := hidP (HX3.out.trans HXs.out)
              have HFs := HF
              clear HF
              have HF := hidP (HFs.out.below HXs.out)
              clear hws HX0
              go_wp2
              go_loopw [10] (fun mm wr => ∃ m : Nat, m ≤ k ∧ mm = .int .i64 m ∧ Hid (atR (FS.getD k []) (insTo FS k) k = atR (FS.getD k []) (insTo FS k) m) ∧ Hid (Ext ws wr)) (fun mm _ => (intOf mm).toNat)
              case atStart => exact ⟨k, Nat.le_refl _, rfl, rfl, Ext.refl _⟩
              case round =>
                obtain ⟨m, hmk, rfl, HAm, HXm⟩ := hrel
                by_cases hm0 : 0 < m
                · obtain ⟨m', rfl⟩ : ∃ m', m = m' + 1 := ⟨m - 1, by omega⟩
                  obtain ⟨gf, af, cf, eF, _, hcF, hoF⟩ := (HF.out.below HXm.out).at_ k (by omega)
                  simp only [Option.some.injEq, Addr.mk.injEq, and_true] at eF
                  subst eF
                  have hV1 : rowOf (xs.getD k hdrK.dft) = FS.getD k [] := by rw [← rowOf_get, HXF.out]
                  have hsm1 := HSm.out.get hlt
                  rw [hV1, hsm1.1] at hcF hoF
                  obtain ⟨gs, aS, cs, eS, _, hcS, hoS⟩ := (HS.out.below HXm.out).at_ m' (by omega)
                  simp only [Option.some.injEq, Addr.mk.injEq, and_true] at eS
                  subst eS
                  have hV2 : rowOf (ys.getD m' hdrK.dft) = (insTo FS k).getD m' [] := by rw [← rowOf_get, HYS.out]
                  have hmem : (insTo FS k).getD m' [] ∈ FS := by
                    refine insTo_mem FS k (by omega) _ ?_
                    rw [List.getD_eq_getElem?_getD, List.getElem?_eq_getElem (by rw [insTo_length _ _ (by omega)]; omega)]
                    exact List.getElem_mem _
                  have hsm2 := HSm.out _ hmem
                  rw [hV2, hsm2.1] at hcS hoS
                  have HLs := hidP (fun w' (hx : Ext wr w') => l5Less_any af aS R cf cs (FS.getD k []) ((insTo FS k).getD m' []) w' ((hoF.below hx).ints) ((hoS.below hx).ints) (by omega) (fun j hj => by have := hsm1.2 j hj; omega) (fun j hj => by have := hsm2.2 j hj; omega))
                  have HQ : Hid (∀ w', Ext wr w' → w'.cell? ⟨gF, k, none⟩ = some (.slice af R cf) ∧ w'.cell? ⟨gS, m', none⟩ = some (.slice aS R cs)) := fun w' hx =>
                    ⟨(hx.cell (p := ⟨gF, k, none⟩) (World.block_lt_of_cell? wr _ hcF)).trans hcF, (hx.cell (p := ⟨gS, m', none⟩) (World.block_lt_of_cell? wr _ hcS)).trans hcS⟩
                  have hm1 : (0 : Int) < ((m' + 1 : Nat) : Int) := by omega
                  have hm2 : (m' : Int) < (k : Int) := by omega
                  have hm3 : ((m' + 1 : Nat) : Int) - 1 = (m' : Int) := by omega
                  have hm4 : (0 : Int) ≤ (m' : Int) := by omega
                  have hwm : IntKind.i64.wrap (m' : Int) = (m' : Int) := wrap_in (by omega) (by omega)
                  have hk0 : (0 : Int) ≤ (k : Int) := by omega
                  have hk1 : (k : Int) < (FS.length : Int) := by omega
                  clear hcF hoF hcS hoS hV1 hV2 hmem hsm1 hsm2 hm0
                  have hE : Ext wr wr.drew := Ext.drew wr
                  cases hls : lessL (FS.getD k []) ((insTo FS k).getD m' [])
                  · rw [hls] at HLs
                    have HAt : Hid (atR (FS.getD k []) (insTo FS k) k = m' + 1) := by
                      show _ = _
                      rw [HAm.out, atR, if_neg (by rw [hls]; simp)]
                    clear hls HAm
                    go_wp2
                    (refine walkR_start (fun w' => Ext wr w') 13 (by kernel_rfl) ?_; simp only [numbered, List.take_succ_cons, List.take_zero, Nat.zero_add, Nat.reduceAdd, List.length_cons, List.length_nil])
                    (repeat (first | (refine walkR_still (v := ?_) rfl (by decide +kernel) rfl (fun _ _ _ h => h) hE ?_ ?_; rotate_left; (focus (intro w' hw'; obtain ⟨q1, q2⟩ := HQ.out w' hw'; go_simp; all_goals (with_reducible rfl))); simp only [Act.put, List.setIfInBounds_toArray, List.set_cons_zero, List.set_cons_succ]) | (refine walkR_skip rfl (by decide +kernel) rfl (fun _ _ _ h => h) hE ?_; simp only [Act.put, List.setIfInBounds_toArray, List.set_cons_zero, List.set_cons_succ])))
                    (refine walkR_only (fun w' => Ext wr w') rfl (by decide +kernel) rfl (fun _ h => h) ?_; intro K hK; go_simp; refine (HLs.out _ hE).mono ?_; rintro e w4 ⟨rfl, hx4⟩; refine hK _ _ (hE.trans hx4) ?_; clear hK K; (try simp only [Act.put, List.setIfInBounds_toArray, List.set_cons_zero, List.set_cons_succ]))
                    (refine walkR_tail (by rfl) (by kernel_rfl) ?_; simp only [List.drop_succ_cons, List.drop_zero])
                    have HXm' := hidP (HXm.out.trans (hE.trans hx4))
                    clear hE hx4 HQ HLs HXm
                    have HXm := HXm'
                    clear HXm'
                    go_wp2
                    obtain ⟨m, hmm⟩ : ∃ m, m = m' + 1 := ⟨_, rfl⟩
                    have hmi : ((m' : Int) + 1) = (m : Int) := by omega
                    first | rw [hmi] | skip
                    rw [← hmm] at HAt hmk
                    clear hm1 hm2 hm3 hm4 hk0 hk1 hmi hmm
                    obtain ⟨wq, hwq⟩ : ∃ wq : World, wq = w4 := ⟨_, rfl⟩
                    rw [← hwq] at HXm ⊢
                    clear hwq
                    have HSq := hidP (HS.out.below HXm.out)
                    have HFq := hidP (HF.out.below HXm.out)
                    obtain ⟨gf, af, cf, eF, _, hcF, hoF⟩ := HFq.out.at_ k (by omega)
                    simp only [Option.some.injEq, Addr.mk.injEq, and_true] at eF
                    subst eF
                    have HV1 : Hid (rowOf (xs.getD k hdrK.dft) = FS.getD k []) := by
                      show _ = _
                      rw [← rowOf_get, HXF.out]
                    rw [HV1.out] at hcF hoF
                    have HVl := hidP ((HSm.out.get (show k < FS.length by omega)).1)
                    rw [HVl.out] at hcF hoF
                    have HCF : Hid (∀ w', Ext wq w' → w'.cell? ⟨gF, k, none⟩ = some (.slice af R cf)) := fun w' hx => (hx.cell (p := ⟨gF, k, none⟩) (World.block_lt_of_cell? wq _ hcF)).trans hcF
                    have HOF : Hid (∀ w', Ext wq w' → OwnI w' w1.heap.size af R cf (FS.getD k [])) := fun w' hx => hoF.below hx
                    clear hcF hoF
                    have hgS := HSq.out.base_ge
                    have HGS : Hid (w1.heap.size ≤ gS) := hgS.1
                    have hkc : k ≤ cS := by
                      rcases HSq.out.own.form with ⟨e, _⟩ | ⟨_, _, _, _, _, _, h1, _⟩
                      · cases e
                      · exact h1
                    have hsz1 := ((HXs1.out).trans HXm.out).size
                    have HSZ : Hid (w1.heap.size ≤ wq.heap.size) := hsz1
                    have hE : Ext wq wq.drew := Ext.drew wq
                    have hm0 : (0 : Int) ≤ (m : Int) := by omega
                    have hm1 : (m : Int) ≤ (k : Int) := by omega
                    have hm2 : (m : Int) ≤ (cS : Int) := by omega
                    have hm3 : (k : Int) ≤ (cS : Int) := by omega
                    have hk0 : (0 : Int) ≤ (k : Int) := by omega
                    have hkF : (k : Int) < (FS.length : Int) := by omega
                    have hkn : (k : Int) - m = ((k - m : Nat) : Int) := by omega
                    have hkd : (cS : Int) - m = ((cS - m : Nat) : Int) := by omega
                    have HNew : Hid (∀ zs : List HRow, zs = ys.take m ++ [hrow af cf (FS.getD k [])] ++ ys.drop m → zs.map rowOf = insTo FS (k + 1)) := by
                      show ∀ zs : List HRow, _
                      rintro zs rfl
                      rw [insTo_succ (by omega), insR, insTo_length _ _ (by omega), HAt.out, ← HYS.out]
                      simp [rowOf, hrow, List.map_take, List.map_drop]
                    clear hgS hsz1
                    (refine walkR_start (fun w' => Ext wq w') 14 (by kernel_rfl) ?_; simp only [numbered, List.take_succ_cons, List.take_zero, Nat.zero_add, Nat.reduceAdd, List.length_cons, List.length_nil])
                    (refine walkR_later ?_; simp only [List.cons_append, List.nil_append])
                    (repeat (first | (refine walkR_still (v := ?_) rfl (by decide +kernel) rfl (fun _ _ _ h => h) hE ?_ ?_; rotate_left; (focus (intro w' hw'; skip; go_simp; all_goals (with_reducible rfl))); simp only [Act.put, List.setIfInBounds_toArray, List.set_cons_zero, List.set_cons_succ]) | (refine walkR_skip rfl (by decide +kernel) rfl (fun _ _ _ h => h) hE ?_; simp only [Act.put, List.setIfInBounds_toArray, List.set_cons_zero, List.set_cons_succ])))
                    (refine walkR_later ?_; simp only [List.cons_append, List.nil_append])
                    (repeat (first | (refine walkR_still (v := ?_) rfl (by decide +kernel) rfl (fun _ _ _ h => h) hE ?_ ?_; rotate_left; (focus (intro w' hw'; have q1 := HCF.out w' hw'; go_simp; all_goals (with_reducible rfl))); simp only [Act.put, List.setIfInBounds_toArray, List.set_cons_zero, List.set_cons_succ]) | (refine walkR_skip rfl (by decide +kernel) rfl (fun _ _ _ h => h) hE ?_; simp only [Act.put, List.setIfInBounds_toArray, List.set_cons_zero, List.set_cons_succ])))
                    (refine walkR_later ?_; simp only [List.cons_append, List.nil_append])
                    (refine walkR_later ?_; simp only [List.cons_append, List.nil_append])
                    (repeat (first | (refine walkR_still (v := ?_) rfl (by decide +kernel) rfl (fun _ _ _ h => h) hE ?_ ?_; rotate_left; (focus (intro w' hw'; skip; go_simp; all_goals (with_reducible rfl))); simp only [Act.put, List.setIfInBounds_toArray, List.set_cons_zero, List.set_cons_succ]) | (refine walkR_skip rfl (by decide +kernel) rfl (fun _ _ _ h => h) hE ?_; simp only [Act.put, List.setIfInBounds_toArray, List.set_cons_zero, List.set_cons_succ])))
                    refine walkR_three (fun v w' => ∃ g, v = .slice (some ⟨g, 0, none⟩) 0 0 ∧ wq.heap.size ≤ g ∧ HRows w' wq.heap.size (some ⟨g, 0, none⟩) 0 0 []) (fun v u w' => ∃ g4 c4, u = .slice (some ⟨g4, 0, none⟩) m c4 ∧ wq.heap.size ≤ g4 ∧ HRows w' w1.heap.size (some ⟨g4, 0, none⟩) m c4 (ys.take m)) (fun z w' => ∃ g, z = .slice (some ⟨g, 0, none⟩) 1 1 ∧ wq.heap.size ≤ g ∧ w'.cell? ⟨g, 0, none⟩ = some (.slice af R cf)) (fun v z w' => ∃ g g', v = .slice (some ⟨g, 0, none⟩) 0 0 ∧ wq.heap.size ≤ g ∧ HRows w' wq.heap.size (some ⟨g, 0, none⟩) 0 0 [] ∧ z = .slice (some ⟨g', 0, none⟩) 1 1 ∧ w'.cell? ⟨g', 0, none⟩ = some (.slice af R cf) ∧ g' < w'.heap.size ∧ g' ≠ g) (fun v u z w' => ∃ g4 c4 g', u = .slice (some ⟨g4, 0, none⟩) m c4 ∧ wq.heap.size ≤ g4 ∧ HRows w' w1.heap.size (some ⟨g4, 0, none⟩) m c4 (ys.take m) ∧ z = .slice (some ⟨g', 0, none⟩) 1 1 ∧ w'.cell? ⟨g', 0, none⟩ = some (.slice af R cf)) rfl rfl rfl (by decide +kernel) rfl rfl rfl (by decide) (by decide) (fun _ => rfl) (fun _ => rfl) (fun _ => rfl) ?_ ?_ ?_ ?_ ?_ ?_ ?_ ?_
                    · intro K hK
                      go_simp
                      exact hK _ _ (hE.trans (Ext.alloc _ _)) ⟨_, rfl, hE.size, (HRows.made0 _).base hE.size⟩
                    · rintro v w' hx ⟨g, rfl, hg0, ho⟩ K hK
                      have hzz := hx.size
                      have hzw := HSZ.out
                      refine wp_append_rows (.tmp 81) (.tmp 84) rfl w1.heap.size g 0 0 [] (ys.take m) rfl (ho.base HSZ.out) gS 0 m cS rfl ((HSq.out.below hx).front m (by omega)) (fun y hy => (HSq.out.below hx).rd y (List.mem_of_mem_take hy)) (by omega) (by omega) ?_
                      intro g4 c4 w4 ho4 hg4 hn4
                      rw [Nat.zero_add] at ho4 ⊢
                      rw [List.nil_append] at ho4
                      have hlt := ho.base_ge
                      exact hK _ _ (Below.grown hx hg4 hx.size fun j hj => by cases hj; exact hg0) ⟨g4, c4, rfl, by omega, ho4⟩
                    · rintro v u w' hx ⟨g4, c4, rfl, hg4, ho4⟩ K hK
                      go_simp
                      exact hK _ _ (hx.trans (Ext.alloc _ _)) ⟨g4, c4, _, rfl, hg4, ho4.below (Ext.alloc _ _), rfl, (cell_top _ _ _ _ _ rfl).trans rfl⟩
                    · rintro v w' hx ⟨g, rfl, hg0, ho⟩ K hK
                      have hlt := ho.base_ge
                      go_simp
                      exact hK _ _ (hx.trans (Ext.alloc _ _)) ⟨g, _, rfl, hg0, ho.below (Ext.alloc _ _), rfl, (cell_top _ _ _ _ _ rfl).trans rfl, by simp, by omega⟩
                    · rintro v z w' hx ⟨g, g', rfl, hg0, ho, rfl, hc, hlt', hne'⟩ K hK
                      have hzz := hx.size
                      have hzw := HSZ.out
                      refine wp_append_rows (.tmp 81) (.tmp 84) rfl w1.heap.size g 0 0 [] (ys.take m) rfl (ho.base HSZ.out) gS 0 m cS rfl ((HSq.out.below hx).front m (by omega)) (fun y hy => (HSq.out.below hx).rd y (List.mem_of_mem_take hy)) (by omega) (by omega) ?_
                      intro g4 c4 w4 ho4 hg4 hn4
                      rw [Nat.zero_add] at ho4 ⊢
                      rw [List.nil_append] at ho4
                      exact hK _ _ (Below.grown hx hg4 hx.size fun j hj => by cases hj; exact hg0) ⟨g4, c4, g', rfl, by omega, ho4, rfl, by rw [World.cell?_of_block (w := w') (hg4.block g' hlt' (by simpa using hne'))]; exact hc⟩
                    · intro K hK
                      go_simp
                      exact hK _ _ (hE.trans (Ext.alloc _ _)) ⟨_, rfl, hE.size, (cell_top _ _ _ _ _ rfl).trans rfl⟩
                    · rintro z w' hx ⟨g', rfl, hg0, hc⟩ K hK
                      have hlt' : g' < w'.heap.size := World.block_lt_of_cell? w' _ hc
                      go_simp
                      exact hK _ _ (hx.trans (Ext.alloc _ _)) ⟨_, g', rfl, hx.size, (HRows.made0 _).base hx.size, rfl, ((Ext.alloc w' _).cell (p := ⟨g', 0, none⟩) hlt').trans hc, by simp; omega, by omega⟩
                    · rintro v u z w3 hx3 ⟨g4, c4, g', rfl, hg4, ho4, rfl, hc⟩
                      (try simp only [Act.put, List.setIfInBounds_toArray, List.set_cons_zero, List.set_cons_succ])
                      refine walkR_only (fun w' => Ext wq w') rfl (by decide +kernel) rfl (fun _ h => h) ?_
                      intro K hK
                      have hzz := hx3.size
                      have hzw := HSZ.out
                      have HOF3 := hidP (HOF.out w3 hx3)
                      refine wp_append_rows (.tmp 85) (.tmp 90) rfl w1.heap.size g4 m c4 (ys.take m) [hrow af cf (FS.getD k [])] rfl ho4 g' 0 1 1 rfl (hrow_single HVl.out hc) (fun y hy => by
                        simp only [List.mem_singleton] at hy
                        subst hy
                        exact ⟨rfl, by show OwnI _ _ _ _ _ _; rw [show (hrow af cf (FS.getD k [])).1.2.length = R from HVl.out]; exact HOF3.out⟩) (by omega) (by omega) ?_
                      intro g9 c9 w4 ho9 hg9 hn9
                      have hx4 : Ext wq w4 := Below.grown hx3 hg9 hx3.size fun j hj => by cases hj; exact hg4
                      refine hK _ _ hx4 ?_
                      clear hK K
                      (try simp only [Act.put, List.setIfInBounds_toArray, List.set_cons_zero, List.set_cons_succ])
                      have hg9b : wq.heap.size ≤ g9 := by omega
                      have HO9 := hidP ho9
                      have HX4 := hidP hx4
                      have hPt := (HSq.out.below hx4).part m (by omega)
                      have HRd := hidP (fun y (hy : y ∈ ys.drop m) => (HSq.out.below hx4).rd y (List.mem_of_mem_drop hy))
                      have HP61 := hidP (hPt.moved (o' := if cS = m then 0 else m * 1) (by
                        by_cases hck : cS = m
                        · right; omega
                        · left; rw [if_neg hck]))
                      have hx61 : (if cS = m then some (⟨gS, 0, none⟩ : Addr) else some ⟨gS, m, none⟩) = some ⟨gS, if cS = m then 0 else m * 1, none⟩ := by split <;> simp
                      have HAD := hidP hx61
                      clear ho9 hg9 hn9 hc ho4 hx4 hx3 hPt hx61 hg4 hE
                      (refine walkR_tail (by rfl) (by kernel_rfl) ?_; simp only [List.drop_succ_cons, List.drop_zero])
                      have hzz4 := HX4.out.size
                      go_wp2_with (at_builtin; refine wpList_append_rows rfl (.tmp 91) (.tmp 94) rfl w1.heap.size g9 (m + 1) c9 (ys.take m ++ [hrow af cf (FS.getD k [])]) (ys.drop m) rfl HO9.out gS _ (k - m) (cS - m) (congrArg (fun x => Value.slice x (k - m) (cS - m)) HAD.out) HP61.out HRd.out (by omega) (by omega) ?_; intro a6 c6 w6 ho6 hg6 hn6)
                      have hx6 : Ext wq w6 := Below.grown HX4.out hg6 HX4.out.size fun j hj => by cases hj; exact hg9b
                      have hmk : m + 1 + (k - m) = k + 1 := by omega
                      rw [hmk] at ho6 ⊢
                      have HO6 := hidP ho6
                      have HX6 : Hid (Ext w3' w6) := HXs.out.trans (HXm.out.trans hx6)
                      have HR6 := hidP (HNew.out _ rfl)
                      clear ho6 hg6 hn6 hx6 hmk
                      go_roundw
                      case rel => exact ⟨k + 1, a6, c6, _, by omega, by first | rfl | go_num, by go_num, HO6, HR6, HX6⟩
                      case measure => simp [intOf]; omega
                  · rw [hls] at HLs
                    have HAt : Hid (atR (FS.getD k []) (insTo FS k) k = atR (FS.getD k []) (insTo FS k) m') := by
                      show _ = _
                      rw [HAm.out, atR, if_pos hls]
                    clear hls HAm
                    go_wp2
                    (refine walkR_start (fun w' => Ext wr w') 13 (by kernel_rfl) ?_; simp only [numbered, List.take_succ_cons, List.take_zero, Nat.zero_add, Nat.reduceAdd, List.length_cons, List.length_nil])
                    (repeat (first | (refine walkR_still (v := ?_) rfl (by decide +kernel) rfl (fun _ _ _ h => h) hE ?_ ?_; rotate_left; (focus (intro w' hw'; obtain ⟨q1, q2⟩ := HQ.out w' hw'; go_simp; all_goals (with_reducible rfl))); simp only [Act.put, List.setIfInBounds_toArray, List.set_cons_zero, List.set_cons_succ]) | (refine walkR_skip rfl (by decide +kernel) rfl (fun _ _ _ h => h) hE ?_; simp only [Act.put, List.setIfInBounds_toArray, List.set_cons_zero, List.set_cons_succ])))
                    (refine walkR_only (fun w' => Ext wr w') rfl (by decide +kernel) rfl (fun _ h => h) ?_; intro K hK; go_simp; refine (HLs.out _ hE).mono ?_; rintro e w4 ⟨rfl, hx4⟩; refine hK _ _ (hE.trans hx4) ?_; clear hK K; (try simp only [Act.put, List.setIfInBounds_toArray, List.set_cons_zero, List.set_cons_succ]))
                    (refine walkR_tail (by rfl) (by kernel_rfl) ?_; simp only [List.drop_succ_cons, List.drop_zero])
                    have HXm' := hidP (HXm.out.trans (hE.trans hx4))
                    clear hE hx4 HQ HLs HXm
                    go_wp2
                    go_roundw
                    case rel => exact ⟨m', by omega, by first | rfl | go_num, HAt, HXm'⟩
                    case measure => simp [intOf]
                · have HAt : Hid (atR (FS.getD k []) (insTo FS k) k = m) := by
                    show _ = _
                    obtain rfl : m = 0 := by omega
                    rw [HAm.out, atR]
                  have hmz : (m : Int) = 0 := by omega
                  clear HAm hm0
                  have hE : Ext wr wr.drew := Ext.drew wr
                  go_wp2
                  (refine walkR_start (fun w' => Ext wr w') 13 (by kernel_rfl) ?_; simp only [numbered, List.take_succ_cons, List.take_zero, Nat.zero_add, Nat.reduceAdd, List.length_cons, List.length_nil])
                  (repeat (first | (refine walkR_still (v := ?_) rfl (by decide +kernel) rfl (fun _ _ _ h => h) hE ?_ ?_; rotate_left; (focus (intro w' hw'; skip; go_simp; all_goals (with_reducible rfl))); simp only [Act.put, List.setIfInBounds_toArray, List.set_cons_zero, List.set_cons_succ]) | (refine walkR_skip rfl (by decide +kernel) rfl (fun _ _ _ h => h) hE ?_; simp only [Act.put, List.setIfInBounds_toArray, List.set_cons_zero, List.set_cons_succ])))
                  (refine walkR_tail (by rfl) (by kernel_rfl) ?_; simp only [List.drop_succ_cons, List.drop_zero])
                  have HXm' := hidP (HXm.out.trans hE)
                  clear HXm
                  have HXm := HXm'
                  clear HXm' hE
                  go_wp2
                  clear hmz
                  obtain ⟨wq, hwq⟩ : ∃ wq : World, wq = wr.drew := ⟨_, rfl⟩
                  rw [← hwq] at HXm ⊢
                  clear hwq
                  have HSq := hidP (HS.out.below HXm.out)
                  have HFq := hidP (HF.out.below HXm.out)
                  obtain ⟨gf, af, cf, eF, _, hcF, hoF⟩ := HFq.out.at_ k (by omega)
                  simp only [Option.some.injEq, Addr.mk.injEq, and_true] at eF
                  subst eF
                  have HV1 : Hid (rowOf (xs.getD k hdrK.dft) = FS.getD k []) := by
                    show _ = _
                    rw [← rowOf_get, HXF.out]
                  rw [HV1.out] at hcF hoF
                  have HVl := hidP ((HSm.out.get (show k < FS.length by omega)).1)
                  rw [HVl.out] at hcF hoF
                  have HCF : Hid (∀ w', Ext wq w' → w'.cell? ⟨gF, k, none⟩ = some (.slice af R cf)) := fun w' hx => (hx.cell (p := ⟨gF, k, none⟩) (World.block_lt_of_cell? wq _ hcF)).trans hcF
                  have HOF : Hid (∀ w', Ext wq w' → OwnI w' w1.heap.size af R cf (FS.getD k [])) := fun w' hx => hoF.below hx
                  clear hcF hoF
                  have hgS := HSq.out.base_ge
                  have HGS : Hid (w1.heap.size ≤ gS) := hgS.1
                  have hkc : k ≤ cS := by
                    rcases HSq.out.own.form with ⟨e, _⟩ | ⟨_, _, _, _, _, _, h1, _⟩
                    · cases e
                    · exact h1
                  have hsz1 := ((HXs1.out).trans HXm.out).size
                  have HSZ : Hid (w1.heap.size ≤ wq.heap.size) := hsz1
                  have hE : Ext wq wq.drew := Ext.drew wq
                  have hm0 : (0 : Int) ≤ (m : Int) := by omega
                  have hm1 : (m : Int) ≤ (k : Int) := by omega
                  have hm2 : (m : Int) ≤ (cS : Int) := by omega
                  have hm3 : (k : Int) ≤ (cS : Int) := by omega
                  have hk0 : (0 : Int) ≤ (k : Int) := by omega
                  have hkF : (k : Int) < (FS.length : Int) := by omega
                  have hkn : (k : Int) - m = ((k - m : Nat) : Int) := by omega
                  have hkd : (cS : Int) - m = ((cS - m : Nat) : Int) := by omega
                  have HNew : Hid (∀ zs : List HRow, zs = ys.take m ++ [hrow af cf (FS.getD k [])] ++ ys.drop m → zs.map rowOf = insTo FS (k + 1)) := by
                    show ∀ zs : List HRow, _
                    rintro zs rfl
                    rw [insTo_succ (by omega), insR, insTo_length _ _ (by omega), HAt.out, ← HYS.out]
                    simp [rowOf, hrow, List.map_take, List.map_drop]
                  clear hgS hsz1
                  (refine walkR_start (fun w' => Ext wq w') 14 (by kernel_rfl) ?_; simp only [numbered, List.take_succ_cons, List.take_zero, Nat.zero_add, Nat.reduceAdd, List.length_cons, List.length_nil])
                  (refine walkR_later ?_; simp only [List.cons_append, List.nil_append])
                  (repeat (first | (refine walkR_still (v := ?_) rfl (by decide +kernel) rfl (fun _ _ _ h => h) hE ?_ ?_; rotate_left; (focus (intro w' hw'; skip; go_simp; all_goals (with_reducible rfl))); simp only [Act.put, List.setIfInBounds_toArray, List.set_cons_zero, List.set_cons_succ]) | (refine walkR_skip rfl (by decide +kernel) rfl (fun _ _ _ h => h) hE ?_; simp only [Act.put, List.setIfInBounds_toArray, List.set_cons_zero, List.set_cons_succ])))
                  (refine walkR_later ?_; simp only [List.cons_append, List.nil_append])
                  (repeat (first | (refine walkR_still (v := ?_) rfl (by decide +kernel) rfl (fun _ _ _ h => h) hE ?_ ?_; rotate_left; (focus (intro w' hw'; have q1 := HCF.out w' hw'; go_simp; all_goals (with_reducible rfl))); simp only [Act.put, List.setIfInBounds_toArray, List.set_cons_zero, List.set_cons_succ]) | (refine walkR_skip rfl (by decide +kernel) rfl (fun _ _ _ h => h) hE ?_; simp only [Act.put, List.setIfInBounds_toArray, List.set_cons_zero, List.set_cons_succ])))
                  (refine walkR_later ?_; simp only [List.cons_append, List.nil_append])
                  (refine walkR_later ?_; simp only [List.cons_append, List.nil_append])
                  (repeat (first | (refine walkR_still (v := ?_) rfl (by decide +kernel) rfl (fun _ _ _ h => h) hE ?_ ?_; rotate_left; (focus (intro w' hw'; skip; go_simp; all_goals (with_reducible rfl))); simp only [Act.put, List.setIfInBounds_toArray, List.set_cons_zero, List.set_cons_succ]) | (refine walkR_skip rfl (by decide +kernel) rfl (fun _ _ _ h => h) hE ?_; simp only [Act.put, List.setIfInBounds_toArray, List.set_cons_zero, List.set_cons_succ])))
                  refine walkR_three (fun v w' => ∃ g, v = .slice (some ⟨g, 0, none⟩) 0 0 ∧ wq.heap.size ≤ g ∧ HRows w' wq.heap.size (some ⟨g, 0, none⟩) 0 0 []) (fun v u w' => ∃ g4 c4, u = .slice (some ⟨g4, 0, none⟩) m c4 ∧ wq.heap.size ≤ g4 ∧ HRows w' w1.heap.size (some ⟨g4, 0, none⟩) m c4 (ys.take m)) (fun z w' => ∃ g, z = .slice (some ⟨g, 0, none⟩) 1 1 ∧ wq.heap.size ≤ g ∧ w'.cell? ⟨g, 0, none⟩ = some (.slice af R cf)) (fun v z w' => ∃ g g', v = .slice (some ⟨g, 0, none⟩) 0 0 ∧ wq.heap.size ≤ g ∧ HRows w' wq.heap.size (some ⟨g, 0, none⟩) 0 0 [] ∧ z = .slice (some ⟨g', 0, none⟩) 1 1 ∧ w'.cell? ⟨g', 0, none⟩ = some (.slice af R cf) ∧ g' < w'.heap.size ∧ g' ≠ g) (fun v u z w' => ∃ g4 c4 g', u = .slice (some ⟨g4, 0, none⟩) m c4 ∧ wq.heap.size ≤ g4 ∧ HRows w' w1.heap.size (some ⟨g4, 0, none⟩) m c4 (ys.take m) ∧ z = .slice (some ⟨g', 0, none⟩) 1 1 ∧ w'.cell? ⟨g', 0, none⟩ = some (.slice af R cf)) rfl rfl rfl (by decide +kernel) rfl rfl rfl (by decide) (by decide) (fun _ => rfl) (fun _ => rfl) (fun _ => rfl) ?_ ?_ ?_ ?_ ?_ ?_ ?_ ?_
                  · intro K hK
                    go_simp
                    exact hK _ _ (hE.trans (Ext.alloc _ _)) ⟨_, rfl, hE.size, (HRows.made0 _).base hE.size⟩
                  · rintro v w' hx ⟨g, rfl, hg0, ho⟩ K hK
                    have hzz := hx.size
                    have hzw := HSZ.out
                    refine wp_append_rows (.tmp 81) (.tmp 84) rfl w1.heap.size g 0 0 [] (ys.take m) rfl (ho.base HSZ.out) gS 0 m cS rfl ((HSq.out.below hx).front m (by omega)) (fun y hy => (HSq.out.below hx).rd y (List.mem_of_mem_take hy)) (by omega) (by omega) ?_
                    intro g4 c4 w4 ho4 hg4 hn4
                    rw [Nat.zero_add] at ho4 ⊢
                    rw [List.nil_append] at ho4
                    have hlt := ho.base_ge
                    exact hK _ _ (Below.grown hx hg4 hx.size fun j hj => by cases hj; exact hg0) ⟨g4, c4, rfl, by omega, ho4⟩
                  · rintro v u w' hx ⟨g4, c4, rfl, hg4, ho4⟩ K hK
                    go_simp
                    exact hK _ _ (hx.trans (Ext.alloc _ _)) ⟨g4, c4, _, rfl, hg4, ho4.below (Ext.alloc _ _), rfl, (cell_top _ _ _ _ _ rfl).trans rfl⟩
                  · rintro v w' hx ⟨g, rfl, hg0, ho⟩ K hK
                    have hlt := ho.base_ge
                    go_simp
                    exact hK _ _ (hx.trans (Ext.alloc _ _)) ⟨g, _, rfl, hg0, ho.below (Ext.alloc _ _), rfl, (cell_top _ _ _ _ _ rfl).trans rfl, by simp, by omega⟩
                  · rintro v z w' hx ⟨g, g', rfl, hg0, ho, rfl, hc, hlt', hne'⟩ K hK
                    have hzz := hx.size
                    have hzw := HSZ.out
                    refine wp_append_rows (.tmp 81) (.tmp 84) rfl w1.heap.size g 0 0 [] (ys.take m) rfl (ho.base HSZ.out) gS 0 m cS rfl ((HSq.out.below hx).front m (by omega)) (fun y hy => (HSq.out.below hx).rd y (List.mem_of_mem_take hy)) (by omega) (by omega) ?_
                    intro g4 c4 w4 ho4 hg4 hn4
                    rw [Nat.zero_add] at ho4 ⊢
                    rw [List.nil_append] at ho4
                    exact hK _ _ (Below.grown hx hg4 hx.size fun j hj => by cases hj; exact hg0) ⟨g4, c4, g', rfl, by omega, ho4, rfl, by rw [World.cell?_of_block (w := w') (hg4.block g' hlt' (by simpa using hne'))]; exact hc⟩
                  · intro K hK
                    go_simp
                    exact hK _ _ (hE.trans (Ext.alloc _ _)) ⟨_, rfl, hE.size, (cell_top _ _ _ _ _ rfl).trans rfl⟩
                  · rintro z w' hx ⟨g', rfl, hg0, hc⟩ K hK
                    have hlt' : g' < w'.heap.size := World.block_lt_of_cell? w' _ hc
                    go_simp
                    exact hK _ _ (hx.trans (Ext.alloc _ _)) ⟨_, g', rfl, hx.size, (HRows.made0 _).base hx.size, rfl, ((Ext.alloc w' _).cell (p := ⟨g', 0, none⟩) hlt').trans hc, by simp; omega, by omega⟩
                  · rintro v u z w3 hx3 ⟨g4, c4, g', rfl, hg4, ho4, rfl, hc⟩
                    (try simp only [Act.put, List.setIfInBounds_toArray, List.set_cons_zero, List.set_cons_succ])
                    refine walkR_only (fun w' => Ext wq w') rfl (by decide +kernel) rfl (fun _ h => h) ?_
                    intro K hK
                    have hzz := hx3.size
                    have hzw := HSZ.out
                    have HOF3 := hidP (HOF.out w3 hx3)
                    refine wp_append_rows (.tmp 85) (.tmp 90) rfl w1.heap.size g4 m c4 (ys.take m) [hrow af cf (FS.getD k [])] rfl ho4 g' 0 1 1 rfl (hrow_single HVl.out hc) (fun y hy => by
                      simp only [List.mem_singleton] at hy
                      subst hy
                      exact ⟨rfl, by show OwnI _ _ _ _ _ _; rw [show (hrow af cf (FS.getD k [])).1.2.length = R from HVl.out]; exact HOF3.out⟩) (by omega) (by omega) ?_
                    intro g9 c9 w4 ho9 hg9 hn9
                    have hx4 : Ext wq w4 := Below.grown hx3 hg9 hx3.size fun j hj => by cases hj; exact hg4
                    refine hK _ _ hx4 ?_
                    clear hK K
                    (try simp only [Act.put, List.setIfInBounds_toArray, List.set_cons_zero, List.set_cons_succ])
                    have hg9b : wq.heap.size ≤ g9 := by omega
                    have HO9 := hidP ho9
                    have HX4 := hidP hx4
                    have hPt := (HSq.out.below hx4).part m (by omega)
                    have HRd := hidP (fun y (hy : y ∈ ys.drop m) => (HSq.out.below hx4).rd y (List.mem_of_mem_drop hy))
                    have HP61 := hidP (hPt.moved (o' := if cS = m then 0 else m * 1) (by
                      by_cases hck : cS = m
                      · right; omega
                      · left; rw [if_neg hck]))
                    have hx61 : (if cS = m then some (⟨gS, 0, none⟩ : Addr) else some ⟨gS, m, none⟩) = some ⟨gS, if cS = m then 0 else m * 1, none⟩ := by split <;> simp
                    have HAD := hidP hx61
                    clear ho9 hg9 hn9 hc ho4 hx4 hx3 hPt hx61 hg4 hE
                    (refine walkR_tail (by rfl) (by kernel_rfl) ?_; simp only [List.drop_succ_cons, List.drop_zero])
                    have hzz4 := HX4.out.size
                    go_wp2_with (at_builtin; refine wpList_append_rows rfl (.tmp 91) (.tmp 94) rfl w1.heap.size g9 (m + 1) c9 (ys.take m ++ [hrow af cf (FS.getD k [])]) (ys.drop m) rfl HO9.out gS _ (k - m) (cS - m) (congrArg (fun x => Value.slice x (k - m) (cS - m)) HAD.out) HP61.out HRd.out (by omega) (by omega) ?_; intro a6 c6 w6 ho6 hg6 hn6)
                    have hx6 : Ext wq w6 := Below.grown HX4.out hg6 HX4.out.size fun j hj => by cases hj; exact hg9b
                    have hmk : m + 1 + (k - m) = k + 1 := by omega
                    rw [hmk] at ho6 ⊢
                    have HO6 := hidP ho6
                    have HX6 : Hid (Ext w3' w6) := HXs.out.trans (HXm.out.trans hx6)
                    have HR6 := hidP (HNew.out _ rfl)
                    clear ho6 hg6 hn6 hx6 hmk
                    go_roundw
                    case rel => exact ⟨k + 1, a6, c6, _, by omega, by first | rfl | go_num, by go_num, HO6, HR6, HX6⟩
                    case measure => simp [intOf]; omega
            · obtain rfl : FS.length = k := by omega
              have HRt := hidP (HS.out.rowsI)
              rw [HYS.out, insTo_all] at HRt
              go_wp2
              go_ret
              exact ⟨_, _, rfl, HRt.out, HX1.out.trans (HX3.out.trans HX0.out)⟩
end Go.Proofs.YtfikkfbnlegflaaGreatDoor

namespace Go.Proofs.YtfikkfbnlegflaaGreatDoor
open Go.RowKit

theorem okD_get {r : Nat} {d : List Int} (h : okD r d = true) : d.length = r ∧ ∀ j, j < r → -1000 ≤ d.getD j 0 ∧ d.getD j 0 ≤ 1000 := by
  simp only [okD, Bool.and_eq_true, decide_eq_true_eq, List.all_eq_true] at h
  refine ⟨h.1, fun j hj => ?_⟩
  rw [List.getD_eq_getElem?_getD, List.getElem?_eq_getElem (by omega)]
  exact h.2 _ (List.getElem_mem _)
theorem partGo_len (bits : List Bool) (r : Nat) : ∀ (f k j : Nat) (out : List Nat), out.length ≤ (partGo bits r f k j out).length
  | 0, _, _, _ => Nat.le_refl _
  | f + 1, k, j, out => by
    rw [partGo]
    split
    · split
      · refine Nat.le_trans ?_ (partGo_len bits r f _ _ _)
        split <;> simp
      · exact partGo_len bits r f _ _ _
    · exact Nat.le_refl _
theorem rowsAt_pos (r : Nat) (ts : List Int) (i : Nat) : 0 < (rowsAt r ts i).length := partGo_len (bitsOf ts) r 64 0 0 [i]
structure LenGood (r : Nat) (ts : List Int) (i : Nat) : Prop where
  least : 1 ≤ (lenK r ts (rowsAt r ts i) ((lenI r ts i).set i 6) (rowsAt r ts i).length).2
  inn : ∀ k j, k < (rowsAt r ts i).length → j ≤ r → okD r (lenJ r ts ((rowsAt r ts i).getD k 0) j (lenK r ts (rowsAt r ts i) ((lenI r ts i).set i 6) k).1) = true
  end_ : ∀ k, k ≤ (rowsAt r ts i).length → okD r (lenD (rowsAt r ts i) (lenK r ts (rowsAt r ts i) ((lenI r ts i).set i 6) (rowsAt r ts i).length).2 (lenK r ts (rowsAt r ts i) ((lenI r ts i).set i 6) (rowsAt r ts i).length).1 k) = true
theorem lenOk_good {r : Nat} {ts : List Int} (h : lenOk r ts = true) {i : Nat} (hi : i < r) (h0 : (lenI r ts i).getD i 0 = 0) : LenGood r ts i := by
  simp only [lenOk, Bool.and_eq_true, List.all_eq_true, List.mem_range, Bool.or_eq_true, decide_eq_true_eq] at h
  rcases h.2 i hi with h1 | ⟨⟨h1, h2⟩, h3⟩
  · exact absurd h0 h1
  · exact ⟨h1, fun k j hk hj => (h2 k hk j (by omega)).1, fun k hk => h3 k (by omega)⟩
/-- two rows of numbers in memory of their own -/
structure TwoI (w0 wr : World) (B g n c gP nP cP : Nat) (D : List Int) (P : List Nat) : Prop where
  d : OwnI wr B (some ⟨g, 0, none⟩) n c D
  p : OwnI wr B (some ⟨gP, 0, none⟩) nP cP (natI P)
  x : Ext w0 wr
  ne : gP ≠ g
  hg : w0.heap.size ≤ g
theorem TwoI.below {w0 wr w' : World} {B g n c gP nP cP : Nat} {D : List Int} {P : List Nat} (h : TwoI w0 wr B g n c gP nP cP D P) (hx : Ext wr w') : TwoI w0 w' B g n c gP nP cP D P :=
  ⟨h.d.below hx, h.p.below hx, h.x.trans hx, h.ne, h.hg⟩
theorem TwoI.store {w0 wr : World} {B g n c gP nP cP : Nat} {D : List Int} {P : List Nat} (h : TwoI w0 wr B g n c gP nP cP D P) (i : Nat) (v : Int) : TwoI w0 (wr.setCell ⟨g, i, none⟩ (.int .i64 v)) B g n c gP nP cP (D.set i v) P :=
  ⟨h.d.stored i v, h.p.setFar _ _ _ h.ne, h.x.setNew _ _ h.hg _, h.ne, h.hg⟩
theorem TwoI.cell {w0 wr : World} {B g n c gP nP cP : Nat} {D : List Int} {P : List Nat} (h : TwoI w0 wr B g n c gP nP cP D P) {i : Nat} (hi : i < n) : wr.cell? ⟨g, i, none⟩ = some (.int .i64 (D.getD i 0)) ∧ wr.frozen? ⟨g, i, none⟩ = false := by
  obtain ⟨g', e', _, _, q1, q2⟩ := h.d.cell i hi
  simp only [Option.some.injEq, Addr.mk.injEq, and_true] at e'
  subst e'
  exact ⟨q1, q2⟩
theorem TwoI.row {w0 wr : World} {B g n c gP nP cP : Nat} {D : List Int} {P : List Nat} (h : TwoI w0 wr B g n c gP nP cP D P) {k : Nat} (hk : k < nP) : wr.cell? ⟨gP, k, none⟩ = some (.int .i64 (P.getD k 0 : Nat)) := by
  obtain ⟨g', e', _, _, q1, q2⟩ := h.p.cell k hk
  simp only [Option.some.injEq, Addr.mk.injEq, and_true] at e'
  subst e'
  rw [q1]
  simp [natI, List.getD_eq_getElem?_getD]
  cases P[k]? <;> rfl
theorem typeB_nz {r : Nat} {ts : List Int} (h : typeB r ts = true) {i j : Nat} (hi : i < r) (hj : j < r) (hz : atM ts r i j ≠ 0) : atM ts r j i ≠ 0 := by
  rw [typeB_eq] at h
  simp only [partsB, Bool.and_eq_true, decide_eq_true_eq, List.all_eq_true, Int.toNat_natCast] at h
  obtain ⟨⟨⟨⟨h1, h2⟩, h3⟩, h4⟩, h5⟩ := h
  have hl : ts.length = r * r := by exact_mod_cast h3
  simp only [entryB, List.all_eq_true, List.mem_range, Bool.and_eq_true, Bool.or_eq_true, decide_eq_true_eq] at h4
  have hm : i * r + j < ts.length := by
    rw [hl]
    have : (i + 1) * r ≤ r * r := Nat.mul_le_mul_right _ hi
    rw [Nat.add_mul] at this
    omega
  have h6 := (h4 (i * r + j) hm).2
  have e1 : (i * r + j) % r = j := by rw [Nat.add_comm, Nat.add_mul_mod_self_right]; exact Nat.mod_eq_of_lt hj
  have e2 : (i * r + j) / r = i := by rw [Nat.add_comm, Nat.add_mul_div_right _ _ (by omega), Nat.div_eq_of_lt hj]; omega
  rw [e1, e2] at h6
  rcases h6 with h6 | h6
  · exact absurd h6 hz
  · exact h6
structure LnStep (D : List Int) (a j : Nat) (A T1 T2 : Int) : Prop where
  mul : IntKind.i64.wrap (A * T1) = A * T1
  quo : IntKind.i64.wrap ((A * T1).tdiv T2) = (A * T1).tdiv T2
theorem ln_step {r : Nat} {ts D : List Int} (hT : typeB r ts = true) (hD : okD r D = true) {a j : Nat} (ha : a < r) : LnStep D a j (D.getD a 0) (atM ts r a j) (atM ts r j a) := by
  have h1 := (okD_get hD).2 a ha
  have h3 : -3 ≤ atM ts r a j ∧ atM ts r a j ≤ 2 := typeB_entry hT _
  have h4 : -3000 ≤ D.getD a 0 * atM ts r a j ∧ D.getD a 0 * atM ts r a j ≤ 3000 := by
    obtain ⟨h1a, h1b⟩ := h1
    obtain ⟨h3a, h3b⟩ := h3
    generalize D.getD a 0 = x at *
    generalize atM ts r a j = y at *
    rcases (by omega : y = -3 ∨ y = -2 ∨ y = -1 ∨ y = 0 ∨ y = 1 ∨ y = 2) with rfl | rfl | rfl | rfl | rfl | rfl <;> omega
  have hd := tdiv_bound (D.getD a 0 * atM ts r a j) (atM ts r j a)
  exact ⟨wrap_in (by omega) (by omega), wrap_in (by omega) (by omega)⟩

set_option maxRecDepth 100000 in
set_option maxHeartbeats 8000000 in
theorem l5Lengths_any (R : Nat) (ta : Option Addr) (tn tc : Nat) (ts : List Int) (w : World) (hc : IntsAt w ta tn ts) (hT : typeB R ts = true) (hL : lenOk R ts = true) :
    Calls Tryz.prog 161 #[carV R ta tn tc] w fun e w' => ∃ a', e = .returned (.slice a' R R) ∧ OwnI w' w.heap.size a' R R (lenL R ts) ∧ Ext w w' := by
  have hx1 := Ext.alloc w (.cells #[.int .i64 R, .slice ta tn tc] 31)
  have HC := hidP (fun w' (hx : Ext (w.alloc (.cells #[.int .i64 R, .slice ta tn tc] 31)) w') => (CarAt.new w _ rfl (R : Int) ta tn tc 31).below hx)
  have HX1 := hidP hx1
  have hrk := typeB_rank hT
  have htn : tn = R * R := by
    have h1 := hc.len
    have h2 := hrk.2.2
    have h3 : ((R * R : Nat) : Int) = R * R := Int.natCast_mul _ _
    omega
  subst htn
  have HAt := hidP (fun w' (hx : Ext w w') (k j : Nat) (hk : k < R) (hj : j < R) => l5At_any (R : Int) ta (R * R) tc ts k j w' (hc.below hx) (by rw [Int.natCast_mul]) (by omega) (by omega) (by omega))
  have HPart := hidP (fun w' (hx : Ext w w') (i : Nat) (hi : i < R) => l5Part_any R (by omega) ts ta tc i hi w' (hc.below hx))
  have HT := hidP hT
  have HL := hidP hL
  have hR4 : R ≤ 4 := by omega
  have hmk := make_ints (R : Int) (by omega) (by omega)
  simp only [Int.toNat_natCast] at hmk
  clear hc hT hL hrk hx1
  obtain ⟨w1, hw1⟩ : ∃ w1, w1 = w.alloc (.cells #[.int .i64 R, .slice ta (R * R) tc] 31) := ⟨_, rfl⟩
  have hs2 : w1.heap.size = w.heap.size + 1 := by rw [hw1]; simp
  have hm := OwnI.made w1 w.heap.size R (by omega) (by unfold maxLen; omega)
  have HX2 := hidP (Ext.alloc w1 (.cells (Array.replicate R (.int .i64 0)) 3))
  rw [hs2] at hm
  have HM := hidP hm
  have HG1 : Hid (w1.heap.size ≤ w.heap.size + 1) := by show _ ≤ _; omega
  rw [← hw1] at HC HX1
  have HW1 := hidP hw1
  obtain ⟨n2, hn2⟩ : ∃ n2, n2 = R * R := ⟨_, rfl⟩
  rw [← hn2] at HC HAt HPart HW1 ⊢
  clear hs2 hm hw1 hn2
  go_enter Tryz.func161, Tryz.ntmps161
  go_wp2
  rw [← HW1.out]
  clear HW1
  obtain ⟨g, hg⟩ : ∃ g, g = w.heap.size + 1 := ⟨_, rfl⟩
  rw [← hg] at HM HG1 ⊢
  obtain ⟨w2, hw2⟩ : ∃ w2, w2 = w1.alloc (.cells (Array.replicate R (.int .i64 0)) 3) := ⟨_, rfl⟩
  rw [← hw2] at HM HX2 ⊢
  have HGw : Hid (w.heap.size ≤ g) := by show _ ≤ _; omega
  clear hw2 hg hmk
  go_loopw [4] (fun ii wr => ∃ i : Nat, i ≤ R ∧ ii = .int .i64 i ∧ Hid (OwnI wr w.heap.size (some ⟨g, 0, none⟩) R R (lenI R ts i)) ∧ Hid (Ext w1 wr)) (fun ii _ => R - (intOf ii).toNat)
  case atStart => exact ⟨0, Nat.zero_le _, rfl, HM, HX2⟩
  case round =>
    clear HM HX2
    obtain ⟨i, hi, rfl, HO, HX⟩ := hrel
    obtain ⟨y0, y1⟩ := HC.out wr HX.out
    by_cases hlt : i < R
    · obtain ⟨g', e', _, _, q1, q2⟩ := HO.out.cell i hlt
      simp only [Option.some.injEq, Addr.mk.injEq, and_true] at e'
      subst e'
      by_cases hz : (lenI R ts i).getD i 0 = 0
      · have HG := hidP (lenOk_good HL.out hlt hz)
        have HN : Hid (lenI R ts (i + 1) = lenD (rowsAt R ts i) (lenK R ts (rowsAt R ts i) ((lenI R ts i).set i 6) (rowsAt R ts i).length).2 (lenK R ts (rowsAt R ts i) ((lenI R ts i).set i 6) (rowsAt R ts i).length).1 (rowsAt R ts i).length) := by
          show _ = _
          rw [lenI, if_neg (by simpa using hz)]
        rw [hz] at q1
        have hpp := HPart.out wr (HX1.out.trans HX.out) i hlt
        obtain ⟨P, hP⟩ : ∃ P, P = rowsAt R ts i := ⟨_, rfl⟩
        rw [show partL (bitsOf ts) R i = P from hP.symm] at hpp
        obtain ⟨D0, hD0⟩ : ∃ D0, D0 = (lenI R ts i).set i 6 := ⟨_, rfl⟩
        have HPp := hidP hpp
        have hne0 : 0 < P.length := by rw [hP]; exact rowsAt_pos R ts i
        have HGl : Hid (1 ≤ (lenK R ts P D0 P.length).2) := by rw [hP, hD0]; exact HG.out.least
        have HGi : Hid (∀ k j, k < P.length → j ≤ R → okD R (lenJ R ts (P.getD k 0) j (lenK R ts P D0 k).1) = true) := by rw [hP, hD0]; exact HG.out.inn
        have HGe : Hid (∀ k, k ≤ P.length → okD R (lenD P (lenK R ts P D0 P.length).2 (lenK R ts P D0 P.length).1 k) = true) := by rw [hP, hD0]; exact HG.out.end_
        rw [← hP, ← hD0] at HN
        have HD0 := hidP hD0
        have hgw := (HO.out.at_base g 0 rfl).2
        clear hz HG hpp hD0 hP
        go_wp2_with fail
        refine HPp.out.mono ?_
        rintro e w3 ⟨aP, nP, cP, rfl, hoP, hx3, hnd, hPl⟩
        have hPR : P.length ≤ R := nodup_le R P hnd hPl
        obtain rfl : P.length = nP := by have := hoP.len; rw [natI_length] at this; exact this
        obtain ⟨gP, rfl, _⟩ := hoP.cell 0 hne0
        have hgP := (hoP.at_base gP 0 rfl).1
        have HPl := hidP hPl
        have hT0 : TwoI w1 w3 w.heap.size g R R gP P.length cP (lenI R ts i) P := ⟨HO.out.below hx3, hoP.base (HX1.out.trans HX.out).size, HX.out.trans hx3, by omega, HG1.out⟩
        obtain ⟨c1, c2⟩ := hT0.cell hlt
        have hT1 := hT0.store i 6
        rw [← HD0.out] at hT1
        have HT1 := hidP hT1
        clear hT0 hT1 hoP hgP hgw q1 q2 y0 y1 HO hx3 HPp hPl hnd
        go_wp2
        go_loopw [6, 7] (fun ll kk wr => ∃ k : Nat, k ≤ P.length ∧ ll = .int .i64 (lenK R ts P D0 k).2 ∧ kk = .int .i64 k ∧ Hid (TwoI w1 wr w.heap.size g R R gP P.length cP (lenK R ts P D0 k).1 P)) (fun _ kk _ => P.length - (intOf kk).toNat)
        case atStart => exact ⟨0, Nat.zero_le _, rfl, rfl, HT1⟩
        case round =>
          clear HT1 c1 c2
          obtain ⟨k, hk, rfl, rfl, HT2⟩ := hrel
          by_cases hlk : k < P.length
          · have ha := HPl.out (P.getD k 0) (by rw [List.getD_eq_getElem?_getD, List.getElem?_eq_getElem hlk]; exact List.getElem_mem _)
            have hE2 : (lenK R ts P D0 (k + 1)) = (lenJ R ts (P.getD k 0) R (lenK R ts P D0 k).1, if (lenJ R ts (P.getD k 0) R (lenK R ts P D0 k).1).getD (P.getD k 0) 0 < (lenK R ts P D0 k).2 then (lenJ R ts (P.getD k 0) R (lenK R ts P D0 k).1).getD (P.getD k 0) 0 else (lenK R ts P D0 k).2) := rfl
            have HIn := hidP (fun j (hj : j ≤ R) => HGi.out k j hlk hj)
            have HRow : Hid (∀ w' D, TwoI w1 w' w.heap.size g R R gP P.length cP D P → w'.cell? ⟨gP, k, none⟩ = some (.int .i64 (P.getD k 0 : Nat))) := fun w' D h => h.row hlk
            obtain ⟨S, hS⟩ : ∃ S, S = (lenK R ts P D0 k).2 := ⟨_, rfl⟩
            obtain ⟨DK, hDK⟩ : ∃ DK, DK = (lenK R ts P D0 k).1 := ⟨_, rfl⟩
            obtain ⟨a, ha'⟩ : ∃ a, a = P.getD k 0 := ⟨_, rfl⟩
            rw [← hS, ← hDK, ← ha'] at hE2
            rw [← ha', ← hDK] at HIn
            rw [← ha'] at HRow ha
            rw [← hS]
            rw [← hDK] at HT2
            have HE2 := hidP hE2
            clear hE2 hS hDK ha'
            have hk0 : (0 : Int) ≤ (k : Int) := by omega
            have hk1 : (k : Int) < (P.length : Int) := by omega
            have ha0 : (0 : Int) ≤ (a : Int) := by omega
            have ha1 : (a : Int) < (R : Int) := by omega
            go_wp2
            go_loopw [8] (fun jj wr => ∃ j : Nat, j ≤ R ∧ jj = .int .i64 j ∧ Hid (TwoI w1 wr w.heap.size g R R gP P.length cP (lenJ R ts a j DK) P)) (fun jj _ => R - (intOf jj).toNat)
            case atStart => exact ⟨0, Nat.zero_le _, rfl, HT2⟩
            case round =>
              clear HT2
              obtain ⟨j, hj, rfl, HT2⟩ := hrel
              obtain ⟨y0, y1⟩ := HC.out _ HT2.out.x
              by_cases hlj : j < R
              · have hst := ln_step HT.out (HIn.out j hj) (j := j) ha
                have hNx : lenJ R ts a (j + 1) DK = if (lenJ R ts a j DK).getD j 0 = 0 ∧ atM ts R a j ≠ 0 then (lenJ R ts a j DK).set j (((lenJ R ts a j DK).getD a 0 * atM ts R a j).tdiv (atM ts R j a)) else lenJ R ts a j DK := rfl
                have hnz := typeB_nz HT.out ha hlj
                have HF : Hid (∀ w', Ext wr w' → w'.cell? ⟨g, j, none⟩ = some (.int .i64 ((lenJ R ts a j DK).getD j 0)) ∧ w'.frozen? ⟨g, j, none⟩ = false ∧ w'.cell? ⟨g, a, none⟩ = some (.int .i64 ((lenJ R ts a j DK).getD a 0)) ∧ w'.cell? ⟨gP, k, none⟩ = some (.int .i64 a)) := by
                  show ∀ w', _
                  intro w' hx
                  have h1 := HT2.out.below hx
                  exact ⟨(h1.cell hlj).1, (h1.cell hlj).2, (h1.cell ha).1, HRow.out _ _ h1⟩
                have HSt : Hid (∀ w' v, Ext wr w' → TwoI w1 (w'.setCell ⟨g, j, none⟩ (.int .i64 v)) w.heap.size g R R gP P.length cP ((lenJ R ts a j DK).set j v) P) := fun w' v hx => (HT2.out.below hx).store j v
                have HA1 := hidP (fun w' (hx : Ext w1 w') => HAt.out w' (HX1.out.trans hx) a j ha hlj)
                have HA2 := hidP (fun w' (hx : Ext w1 w') => HAt.out w' (HX1.out.trans hx) j a hlj ha)
                obtain ⟨DJ, hDJ⟩ : ∃ DJ, DJ = lenJ R ts a j DK := ⟨_, rfl⟩
                rw [← hDJ] at HF HSt hNx hst HT2
                obtain ⟨Z, hZ⟩ : ∃ Z, Z = DJ.getD j 0 := ⟨_, rfl⟩
                obtain ⟨A, hA⟩ : ∃ A, A = DJ.getD a 0 := ⟨_, rfl⟩
                obtain ⟨T1, hT1⟩ : ∃ T1, T1 = atM ts R a j := ⟨_, rfl⟩
                obtain ⟨T2, hT2⟩ : ∃ T2, T2 = atM ts R j a := ⟨_, rfl⟩
                rw [← hZ, ← hA, ← hT1, ← hT2] at hNx
                rw [← hA, ← hT1, ← hT2] at hst
                rw [← hZ, ← hA] at HF
                rw [← hT1, ← hT2] at hnz
                simp only [Int.toNat_natCast, ← hT1] at HA1
                simp only [Int.toNat_natCast, ← hT2] at HA2
                have HNx := hidP hNx
                have hj0 : (0 : Int) ≤ (j : Int) := by omega
                have hj1 : (j : Int) < (R : Int) := by omega
                clear hNx hDJ hZ hA hT1 hT2
                have hE : Ext wr wr.drew := Ext.drew wr
                by_cases hz0 : Z = 0
                · have hzb : (Z == 0) = true := by simpa using hz0
                  by_cases ht1 : T1 = 0
                  · have htb : (T1 != 0) = false := by simpa using ht1
                    have HN2 : Hid (lenJ R ts a (j + 1) DK = DJ) := by show _ = _; rw [HNx.out, if_neg (by simp [ht1])]
                    clear hz0 ht1 hst hnz HNx
                    go_wp2
                    (refine walkR_start (fun w' => Ext wr w') 14 (by kernel_rfl) ?_; simp only [numbered, List.take_succ_cons, List.take_zero, Nat.zero_add, Nat.reduceAdd, List.length_cons, List.length_nil])
                    (repeat (first | (refine walkR_still (v := ?_) rfl (by decide +kernel) rfl (fun _ _ _ h => h) hE ?_ ?_; rotate_left; (focus (intro w' hw'; obtain ⟨q1, q2, q3, q4⟩ := HF.out w' hw'; obtain ⟨f0, f1⟩ := HC.out w' (HT2.out.x.trans hw'); go_simp; all_goals (with_reducible rfl))); simp only [Act.put, List.setIfInBounds_toArray, List.set_cons_zero, List.set_cons_succ]) | (refine walkR_skip rfl (by decide +kernel) rfl (fun _ _ _ h => h) hE ?_; simp only [Act.put, List.setIfInBounds_toArray, List.set_cons_zero, List.set_cons_succ])))
                    (refine walkR_only (fun w' => Ext wr w') rfl (by decide +kernel) rfl (fun _ h => h) ?_; intro K hK; go_simp; refine (HA1.out _ (HT2.out.x.trans hE)).mono ?_; rintro e w4 ⟨rfl, hx4⟩; refine hK _ _ (hE.trans hx4) ?_; clear hK K; (try simp only [Act.put, List.setIfInBounds_toArray, List.set_cons_zero, List.set_cons_succ]))
                    have hE4 := hE.trans hx4
                    (repeat (first | (refine walkR_still (v := ?_) rfl (by decide +kernel) rfl (fun _ _ _ h => h) hE4 ?_ ?_; rotate_left; (focus (intro w' hw'; skip; go_simp; all_goals (with_reducible rfl))); simp only [Act.put, List.setIfInBounds_toArray, List.set_cons_zero, List.set_cons_succ]) | (refine walkR_skip rfl (by decide +kernel) rfl (fun _ _ _ h => h) hE4 ?_; simp only [Act.put, List.setIfInBounds_toArray, List.set_cons_zero, List.set_cons_succ])))
                    (refine walkR_tail (by rfl) (by kernel_rfl) ?_; simp only [List.drop_succ_cons, List.drop_zero])
                    have HT3 := hidP (HT2.out.below hE4)
                    rw [← HN2.out] at HT3
                    clear hx4 hE hE4
                    go_wp2
                    go_roundw
                    case rel => exact ⟨j + 1, by omega, by go_num, HT3⟩
                    case measure => simp [intOf]; omega
                  · have htb : (T1 != 0) = true := by simpa using ht1
                    have HN2 : Hid (lenJ R ts a (j + 1) DK = DJ.set j ((A * T1).tdiv T2)) := by show _ = _; rw [HNx.out, if_pos ⟨hz0, ht1⟩]
                    have hT2n : ¬ (T2 = 0) := hnz ht1
                    have hmul := hst.mul
                    have hquo := hst.quo
                    clear hz0 ht1 hst hnz HNx
                    go_wp2
                    (refine walkR_start (fun w' => Ext wr w') 14 (by kernel_rfl) ?_; simp only [numbered, List.take_succ_cons, List.take_zero, Nat.zero_add, Nat.reduceAdd, List.length_cons, List.length_nil])
                    (repeat (first | (refine walkR_still (v := ?_) rfl (by decide +kernel) rfl (fun _ _ _ h => h) hE ?_ ?_; rotate_left; (focus (intro w' hw'; obtain ⟨q1, q2, q3, q4⟩ := HF.out w' hw'; obtain ⟨f0, f1⟩ := HC.out w' (HT2.out.x.trans hw'); go_simp; all_goals (with_reducible rfl))); simp only [Act.put, List.setIfInBounds_toArray, List.set_cons_zero, List.set_cons_succ]) | (refine walkR_skip rfl (by decide +kernel) rfl (fun _ _ _ h => h) hE ?_; simp only [Act.put, List.setIfInBounds_toArray, List.set_cons_zero, List.set_cons_succ])))
                    (refine walkR_only (fun w' => Ext wr w') rfl (by decide +kernel) rfl (fun _ h => h) ?_; intro K hK; go_simp; refine (HA1.out _ (HT2.out.x.trans hE)).mono ?_; rintro e w4 ⟨rfl, hx4⟩; refine hK _ _ (hE.trans hx4) ?_; clear hK K; (try simp only [Act.put, List.setIfInBounds_toArray, List.set_cons_zero, List.set_cons_succ]))
                    have hE4 := hE.trans hx4
                    (repeat (first | (refine walkR_still (v := ?_) rfl (by decide +kernel) rfl (fun _ _ _ h => h) hE4 ?_ ?_; rotate_left; (focus (intro w' hw'; skip; go_simp; all_goals (with_reducible rfl))); simp only [Act.put, List.setIfInBounds_toArray, List.set_cons_zero, List.set_cons_succ]) | (refine walkR_skip rfl (by decide +kernel) rfl (fun _ _ _ h => h) hE4 ?_; simp only [Act.put, List.setIfInBounds_toArray, List.set_cons_zero, List.set_cons_succ])))
                    (refine walkR_tail (by rfl) (by kernel_rfl) ?_; simp only [List.drop_succ_cons, List.drop_zero])
                    have hE5 := hE4.trans (Ext.drew _)
                    go_wp2
                    (refine walkR_start (fun w' => Ext wr w') 25 (by kernel_rfl) ?_; simp only [numbered, List.take_succ_cons, List.take_zero, Nat.zero_add, Nat.reduceAdd, List.length_cons, List.length_nil])
                    (repeat (first | (refine walkR_still (v := ?_) rfl (by decide +kernel) rfl (fun _ _ _ h => h) hE5 ?_ ?_; rotate_left; (focus (intro w' hw'; obtain ⟨q1, q2, q3, q4⟩ := HF.out w' hw'; obtain ⟨f0, f1⟩ := HC.out w' (HT2.out.x.trans hw'); go_simp; all_goals (with_reducible rfl))); simp only [Act.put, List.setIfInBounds_toArray, List.set_cons_zero, List.set_cons_succ]) | (refine walkR_skip rfl (by decide +kernel) rfl (fun _ _ _ h => h) hE5 ?_; simp only [Act.put, List.setIfInBounds_toArray, List.set_cons_zero, List.set_cons_succ])))
                    (refine walkR_later ?_; simp only [List.cons_append, List.nil_append])
                    (refine walkR_later ?_; simp only [List.cons_append, List.nil_append])
                    (repeat (first | (refine walkR_still (v := ?_) rfl (by decide +kernel) rfl (fun _ _ _ h => h) hE5 ?_ ?_; rotate_left; (focus (intro w' hw'; obtain ⟨q1, q2, q3, q4⟩ := HF.out w' hw'; obtain ⟨f0, f1⟩ := HC.out w' (HT2.out.x.trans hw'); go_simp; all_goals (with_reducible rfl))); simp only [Act.put, List.setIfInBounds_toArray, List.set_cons_zero, List.set_cons_succ]) | (refine walkR_skip rfl (by decide +kernel) rfl (fun _ _ _ h => h) hE5 ?_; simp only [Act.put, List.setIfInBounds_toArray, List.set_cons_zero, List.set_cons_succ])))
                    (refine walkR_later ?_; simp only [List.cons_append, List.nil_append]); (refine walkR_later ?_; simp only [List.cons_append, List.nil_append])
                    (refine walkR_only (fun w' => Ext wr w') rfl (by decide +kernel) rfl (fun _ h => h) ?_; intro K hK; go_simp; refine (HA1.out _ (HT2.out.x.trans hE5)).mono ?_; rintro e w6 ⟨rfl, hx6⟩; refine hK _ _ (hE5.trans hx6) ?_; clear hK K; (try simp only [Act.put, List.setIfInBounds_toArray, List.set_cons_zero, List.set_cons_succ]))
                    have hE6 := hE5.trans hx6
                    (repeat (first | (refine walkR_still (v := ?_) rfl (by decide +kernel) rfl (fun _ _ _ h => h) hE6 ?_ ?_; rotate_left; (focus (intro w' hw'; obtain ⟨q1, q2, q3, q4⟩ := HF.out w' hw'; go_simp; all_goals (with_reducible rfl))); simp only [Act.put, List.setIfInBounds_toArray, List.set_cons_zero, List.set_cons_succ]) | (refine walkR_skip rfl (by decide +kernel) rfl (fun _ _ _ h => h) hE6 ?_; simp only [Act.put, List.setIfInBounds_toArray, List.set_cons_zero, List.set_cons_succ])))
                    (refine walkR_only (fun w' => Ext wr w') rfl (by decide +kernel) rfl (fun _ h => h) ?_; intro K hK; go_simp; refine (HA2.out _ (HT2.out.x.trans hE6)).mono ?_; rintro e w7 ⟨rfl, hx7⟩; refine hK _ _ (hE6.trans hx7) ?_; clear hK K; (try simp only [Act.put, List.setIfInBounds_toArray, List.set_cons_zero, List.set_cons_succ]))
                    have hE7 := hE6.trans hx7
                    (repeat (first | (refine walkR_still (v := ?_) rfl (by decide +kernel) rfl (fun _ _ _ h => h) hE7 ?_ ?_; rotate_left; (focus (intro w' hw'; obtain ⟨q1, q2, q3, q4⟩ := HF.out w' hw'; go_simp; all_goals (with_reducible rfl))); simp only [Act.put, List.setIfInBounds_toArray, List.set_cons_zero, List.set_cons_succ]) | (refine walkR_skip rfl (by decide +kernel) rfl (fun _ _ _ h => h) hE7 ?_; simp only [Act.put, List.setIfInBounds_toArray, List.set_cons_zero, List.set_cons_succ])))
                    (refine walkR_tail (by rfl) (by kernel_rfl) ?_; simp only [List.drop_succ_cons, List.drop_zero])
                    obtain ⟨q1, q2, q3, q4⟩ := HF.out w7 hE7
                    have HT3 := hidP (HSt.out w7 ((A * T1).tdiv T2) hE7)
                    rw [← HN2.out] at HT3
                    clear hx4 hE hE4 hE5 hE6 hx6 hx7 hE7 q3 q4
                    go_wp2
                    go_roundw
                    case rel => exact ⟨j + 1, by omega, by go_num, HT3⟩
                    case measure => simp [intOf]; omega
                · have hzb : (Z == 0) = false := by simpa using hz0
                  have HN2 : Hid (lenJ R ts a (j + 1) DK = DJ) := by show _ = _; rw [HNx.out, if_neg (by simp [hz0])]
                  clear hz0 hst hnz HNx
                  go_wp2
                  (refine walkR_start (fun w' => Ext wr w') 14 (by kernel_rfl) ?_; simp only [numbered, List.take_succ_cons, List.take_zero, Nat.zero_add, Nat.reduceAdd, List.length_cons, List.length_nil])
                  (repeat (first | (refine walkR_still (v := ?_) rfl (by decide +kernel) rfl (fun _ _ _ h => h) hE ?_ ?_; rotate_left; (focus (intro w' hw'; obtain ⟨q1, q2, q3, q4⟩ := HF.out w' hw'; go_simp; all_goals (with_reducible rfl))); simp only [Act.put, List.setIfInBounds_toArray, List.set_cons_zero, List.set_cons_succ]) | (refine walkR_skip rfl (by decide +kernel) rfl (fun _ _ _ h => h) hE ?_; simp only [Act.put, List.setIfInBounds_toArray, List.set_cons_zero, List.set_cons_succ])))
                  (refine walkR_tail (by rfl) (by kernel_rfl) ?_; simp only [List.drop_succ_cons, List.drop_zero])
                  have HT3 := hidP (HT2.out.below hE)
                  rw [← HN2.out] at HT3
                  clear hE
                  go_wp2
                  go_roundw
                  case rel => exact ⟨j + 1, by omega, by go_num, HT3⟩
                  case measure => simp [intOf]; omega
              · obtain rfl : R = j := by omega
                have hcell := (HT2.out.cell ha).1
                have hrow := HRow.out _ _ HT2.out
                have HE1 : Hid ((lenK R ts P D0 (k + 1)).1 = lenJ R ts a R DK) := by show _ = _; rw [HE2.out]
                have hS1 : (lenK R ts P D0 (k + 1)).2 = if (lenJ R ts a R DK).getD a 0 < S then (lenJ R ts a R DK).getD a 0 else S := by rw [HE2.out]
                obtain ⟨V, hV⟩ : ∃ V, V = (lenJ R ts a R DK).getD a 0 := ⟨_, rfl⟩
                rw [← hV] at hcell hS1
                rw [← HE1.out] at HT2
                clear hV
                by_cases hvs : V < S
                · rw [if_pos hvs] at hS1
                  have HS1 := hidP hS1
                  clear hS1
                  go_wp2
                  go_roundw
                  case rel => exact ⟨k + 1, by omega, by rw [HS1.out], by go_num, HT2⟩
                  case measure => simp [intOf]; omega
                · rw [if_neg hvs] at hS1
                  have HS1 := hidP hS1
                  clear hS1
                  go_wp2
                  go_roundw
                  case rel => exact ⟨k + 1, by omega, by rw [HS1.out], by go_num, HT2⟩
                  case measure => simp [intOf]; omega
          · obtain rfl : P.length = k := by omega
            obtain ⟨S, hS⟩ : ∃ S, S = (lenK R ts P D0 P.length).2 := ⟨_, rfl⟩
            rw [← hS] at HGl HGe HN ⊢
            obtain ⟨DK, hDK⟩ : ∃ DK, DK = (lenK R ts P D0 P.length).1 := ⟨_, rfl⟩
            rw [← hDK] at HGe HT2 HN
            have hS0 : ¬ (S = 0) := by have := HGl.out; omega
            clear hS hDK
            go_wp2
            go_loopw [9] (fun kk wr => ∃ k : Nat, k ≤ P.length ∧ kk = .int .i64 k ∧ Hid (TwoI w1 wr w.heap.size g R R gP P.length cP (lenD P S DK k) P)) (fun kk _ => P.length - (intOf kk).toNat)
            case atStart => exact ⟨0, Nat.zero_le _, rfl, HT2⟩
            case round =>
              clear HT2
              obtain ⟨k, hk, rfl, HT2⟩ := hrel
              by_cases hlk : k < P.length
              · have ha := HPl.out (P.getD k 0) (by rw [List.getD_eq_getElem?_getD, List.getElem?_eq_getElem hlk]; exact List.getElem_mem _)
                have hNx : lenD P S DK (k + 1) = (lenD P S DK k).set (P.getD k 0) (((lenD P S DK k).getD (P.getD k 0) 0).tdiv S) := rfl
                have hbd := (okD_get (HGe.out k hk)).2 (P.getD k 0) ha
                have HF : Hid (∀ w', Ext wr w' → w'.cell? ⟨g, P.getD k 0, none⟩ = some (.int .i64 ((lenD P S DK k).getD (P.getD k 0) 0)) ∧ w'.frozen? ⟨g, P.getD k 0, none⟩ = false ∧ w'.cell? ⟨gP, k, none⟩ = some (.int .i64 (P.getD k 0 : Nat))) := by
                  show ∀ w', _
                  intro w' hx
                  have h1 := HT2.out.below hx
                  exact ⟨(h1.cell ha).1, (h1.cell ha).2, h1.row hlk⟩
                have HSt : Hid (∀ w' v, Ext wr w' → TwoI w1 (w'.setCell ⟨g, P.getD k 0, none⟩ (.int .i64 v)) w.heap.size g R R gP P.length cP ((lenD P S DK k).set (P.getD k 0) v) P) := fun w' v hx => (HT2.out.below hx).store _ v
                obtain ⟨a, ha'⟩ : ∃ a, a = P.getD k 0 := ⟨_, rfl⟩
                rw [← ha'] at HF HSt hNx hbd ha
                obtain ⟨V, hV⟩ : ∃ V, V = (lenD P S DK k).getD a 0 := ⟨_, rfl⟩
                rw [← hV] at HF hNx hbd
                have hd := tdiv_bound V S
                have hquo : IntKind.i64.wrap (V.tdiv S) = V.tdiv S := wrap_in (by omega) (by omega)
                have HNx := hidP hNx
                have hk0 : (0 : Int) ≤ (k : Int) := by omega
                have hk1 : (k : Int) < (P.length : Int) := by omega
                have ha0 : (0 : Int) ≤ (a : Int) := by omega
                have ha1 : (a : Int) < (R : Int) := by omega
                clear hNx hV ha' hd hbd
                have hE : Ext wr wr.drew := Ext.drew wr
                go_wp2
                (refine walkR_start (fun w' => Ext wr w') 14 (by kernel_rfl) ?_; simp only [numbered, List.take_succ_cons, List.take_zero, Nat.zero_add, Nat.reduceAdd, List.length_cons, List.length_nil])
                (repeat (first | (refine walkR_still (v := ?_) rfl (by decide +kernel) rfl (fun _ _ _ h => h) hE ?_ ?_; rotate_left; (focus (intro w' hw'; obtain ⟨q1, q2, q3⟩ := HF.out w' hw'; go_simp; all_goals (with_reducible rfl))); simp only [Act.put, List.setIfInBounds_toArray, List.set_cons_zero, List.set_cons_succ]) | (refine walkR_skip rfl (by decide +kernel) rfl (fun _ _ _ h => h) hE ?_; simp only [Act.put, List.setIfInBounds_toArray, List.set_cons_zero, List.set_cons_succ])))
                (refine walkR_tail (by rfl) (by kernel_rfl) ?_; simp only [List.drop_succ_cons, List.drop_zero])
                obtain ⟨q1, q2, q3⟩ := HF.out _ hE
                have HT3 := hidP (HSt.out _ (V.tdiv S) hE)
                rw [← HNx.out] at HT3
                clear hE q3
                go_wp2
                go_roundw
                case rel => exact ⟨k + 1, by omega, by go_num, HT3⟩
                case measure => simp [intOf]; omega
              · obtain rfl : P.length = k := by omega
                have HO2 := hidP HT2.out.d
                rw [← HN.out] at HO2
                have HX2 := hidP HT2.out.x
                go_wp2
                go_roundw
                case rel => exact ⟨i + 1, by omega, by go_num, HO2, HX2⟩
                case measure => simp [intOf]; omega
      · have HN : Hid (lenI R ts (i + 1) = lenI R ts i) := by show _ = _; rw [lenI, if_pos hz]
        rw [← HN.out] at HO
        obtain ⟨Z, hZ⟩ : ∃ Z, Z = (lenI R ts i).getD i 0 := ⟨_, rfl⟩
        rw [← hZ] at q1 hz
        clear hZ
        go_wp2
        go_roundw
        case rel => exact ⟨i + 1, by omega, by go_num, HO, HX⟩
        case measure => simp [intOf]; omega
    · obtain rfl : R = i := by omega
      go_wp2
      go_ret
      exact ⟨_, rfl, HO.out, HX1.out.trans HX.out⟩
end Go.Proofs.YtfikkfbnlegflaaGreatDoor

namespace Go.Proofs.YtfikkfbnlegflaaGreatDoor
open Go.RowKit

theorem mul_bd {x y A B : Int} (hx : -A ≤ x ∧ x ≤ A) (hy : -B ≤ y ∧ y ≤ B) : -(A * B) ≤ x * y ∧ x * y ≤ A * B := by
  have h1 : (x.natAbs : Int) ≤ A := by omega
  have h2 : (y.natAbs : Int) ≤ B := by omega
  have h3 : ((x * y).natAbs : Int) ≤ A * B := by
    rw [Int.natAbs_mul, Int.natCast_mul]
    exact Int.mul_le_mul h1 h2 (by omega) (by omega)
  omega
def innF (r : Nat) (ts x y : List Int) (i : Nat) : Int := x.getD i 0 * (lenL r ts).getD i 0 * (wgtL r ts y).getD i 0
theorem innL_eq (r : Nat) (ts x y : List Int) : innL r ts x y = sumTo r (innF r ts x y) := rfl
structure InStep (S X D V : Int) : Prop where
  m1 : IntKind.i64.wrap (X * D) = X * D
  m2 : IntKind.i64.wrap (X * D * V) = X * D * V
  add : IntKind.i64.wrap (S + X * D * V) = S + X * D * V
theorem okD_lens {r : Nat} {ts : List Int} (h : lenOk r ts = true) : okD r (lenL r ts) = true := by
  simp only [lenOk, Bool.and_eq_true] at h
  exact h.1
theorem innF_bd {r : Nat} {ts x y : List Int} (hT : typeB r ts = true) (hL : lenOk r ts = true) (hx : ∀ j, j < r → -1000 ≤ x.getD j 0 ∧ x.getD j 0 ≤ 1000) (hy : ∀ j, j < r → -1000 ≤ y.getD j 0 ∧ y.getD j 0 ≤ 1000) {i : Nat} (hi : i < r) :
    (-1000000 ≤ x.getD i 0 * (lenL r ts).getD i 0 ∧ x.getD i 0 * (lenL r ts).getD i 0 ≤ 1000000) ∧ (-12000000000 ≤ innF r ts x y i ∧ innF r ts x y i ≤ 12000000000) := by
  have h1 := mul_bd (hx i hi) ((okD_get (okD_lens hL)).2 i hi)
  have h2 := wgtS_bd hT (by omega) hy i (Nat.le_refl r)
  rw [← wgtL_get r ts y i hi] at h2
  have h3 := mul_bd (A := 1000000) (B := 12000) ⟨by omega, by omega⟩ (⟨by omega, by omega⟩ : -12000 ≤ (wgtL r ts y).getD i 0 ∧ (wgtL r ts y).getD i 0 ≤ 12000) (x := x.getD i 0 * (lenL r ts).getD i 0)
  unfold innF
  exact ⟨⟨by omega, by omega⟩, by omega, by omega⟩
theorem innS_bd {r : Nat} {ts x y : List Int} (hT : typeB r ts = true) (hL : lenOk r ts = true) (hx : ∀ j, j < r → -1000 ≤ x.getD j 0 ∧ x.getD j 0 ≤ 1000) (hy : ∀ j, j < r → -1000 ≤ y.getD j 0 ∧ y.getD j 0 ≤ 1000) {k : Nat} (hk : k ≤ r) :
    -48000000000 ≤ sumTo k (innF r ts x y) ∧ sumTo k (innF r ts x y) ≤ 48000000000 := by
  have h := sum_bd (f := innF r ts x y) (M := 12000000000) k fun i hi => (innF_bd hT hL hx hy (by omega)).2
  have hr := typeB_rank hT
  have h4 : (k : Int) * 12000000000 ≤ 4 * 12000000000 := Int.mul_le_mul_of_nonneg_right (by omega) (by omega)
  omega
theorem in_step {r : Nat} {ts x y : List Int} (hT : typeB r ts = true) (hL : lenOk r ts = true) (hx : ∀ j, j < r → -1000 ≤ x.getD j 0 ∧ x.getD j 0 ≤ 1000) (hy : ∀ j, j < r → -1000 ≤ y.getD j 0 ∧ y.getD j 0 ≤ 1000) {i : Nat} (hi : i < r) :
    InStep (sumTo i (innF r ts x y)) (x.getD i 0) ((lenL r ts).getD i 0) ((wgtL r ts y).getD i 0) := by
  obtain ⟨h1, h2⟩ := innF_bd hT hL hx hy hi
  have h3 := innS_bd hT hL hx hy (Nat.le_of_lt hi)
  unfold innF at h2
  exact ⟨wrap_in (by omega) (by omega), wrap_in (by omega) (by omega), wrap_in (by omega) (by omega)⟩

set_option maxHeartbeats 2000000 in
theorem l5Inner_any (R : Nat) (ta : Option Addr) (tn tc : Nat) (ts : List Int) (ax ay : Option Addr) (cx cy : Nat) (X Y : List Int) (w : World) (hc : IntsAt w ta tn ts) (hT : typeB R ts = true) (hL : lenOk R ts = true)
    (hx : IntsAt w ax R X) (hy : IntsAt w ay R Y) (hbx : ∀ j, j < R → -1000 ≤ X.getD j 0 ∧ X.getD j 0 ≤ 1000) (hby : ∀ j, j < R → -1000 ≤ Y.getD j 0 ∧ Y.getD j 0 ≤ 1000) :
    Calls Tryz.prog 162 #[carV R ta tn tc, .slice ax R cx, .slice ay R cy] w fun e w' => e = .returned (.int .i64 (innL R ts X Y)) ∧ Ext w w' := by
  have hx1 := Ext.alloc w (.cells #[.int .i64 R, .slice ta tn tc] 31)
  have HC := hidP (fun w' (hx : Ext (w.alloc (.cells #[.int .i64 R, .slice ta tn tc] 31)) w') => (CarAt.new w _ rfl (R : Int) ta tn tc 31).below hx)
  have HX1 := hidP hx1
  have hrk := typeB_rank hT
  have hR4 : R ≤ 4 := by omega
  have HLe := hidP (fun w' (h : Ext w w') => l5Lengths_any R ta tn tc ts w' (hc.below h) hT hL)
  have HWe := hidP (fun w' (h : Ext w w') => l5Weight_any R ta tn tc ts ay R cy Y w' (hc.below h) hT (hy.below h) hy.len (fun j hj => by have := hby j hj; omega))
  have HIn := hidP hx
  have HSt := hidP (fun i (hi : i < R) => in_step hT hL hbx hby hi)
  clear hc hT hL hx hy hbx hby hx1 hrk
  obtain ⟨w1, hw1⟩ : ∃ w1, w1 = w.alloc (.cells #[.int .i64 R, .slice ta tn tc] 31) := ⟨_, rfl⟩
  rw [← hw1] at HC HX1
  obtain ⟨y0, y1⟩ := HC.out w1 (Ext.refl _)
  go_enter Tryz.func162, Tryz.ntmps162
  go_wp2_with fail
  rw [← hw1]
  clear hw1
  refine (HLe.out _ HX1.out).mono ?_
  rintro e w2 ⟨aD, rfl, hoD, hx2⟩
  obtain ⟨z0, z1⟩ := HC.out w2 hx2
  clear y0 y1
  go_wp2_with fail
  refine (HWe.out _ (HX1.out.trans hx2)).mono ?_
  rintro e w3 ⟨aV, rfl, hoV, hx3⟩
  have HX3 := hidP (hx2.trans hx3)
  have HD := hidP (hoD.below hx3)
  have HV := hidP hoV
  clear z0 z1 hx2 hx3 hoD hoV
  obtain ⟨z0, z1⟩ := HC.out w3 HX3.out
  go_wp2
  clear z0 z1
  go_loopw [9, 10] (fun ss ii wr => ∃ i : Nat, i ≤ R ∧ ss = .int .i64 (sumTo i (innF R ts X Y)) ∧ ii = .int .i64 i ∧ Hid (Ext w3 wr)) (fun _ ii _ => R - (intOf ii).toNat)
  case atStart => exact ⟨0, Nat.zero_le _, rfl, rfl, Ext.refl _⟩
  case round =>
    obtain ⟨i, hi, rfl, rfl, HX⟩ := hrel
    obtain ⟨y0, y1⟩ := HC.out wr (HX3.out.trans HX.out)
    by_cases hlt : i < R
    · have hst := HSt.out i hlt
      have hN : sumTo (i + 1) (innF R ts X Y) = sumTo i (innF R ts X Y) + X.getD i 0 * (lenL R ts).getD i 0 * (wgtL R ts Y).getD i 0 := rfl
      obtain ⟨b, o, rfl, qx⟩ := HIn.out.one i hlt
      obtain ⟨gD, rfl, _⟩ := HD.out.cell i hlt
      obtain ⟨gV, rfl, _⟩ := HV.out.cell i hlt
      have HF : Hid (∀ w', Ext wr w' → w'.cell? ⟨b, o + i, none⟩ = some (.int .i64 (X.getD i 0)) ∧ w'.cell? ⟨gD, i, none⟩ = some (.int .i64 ((lenL R ts).getD i 0)) ∧ w'.cell? ⟨gV, i, none⟩ = some (.int .i64 ((wgtL R ts Y).getD i 0))) := by
        show ∀ w', _
        intro w' hx
        have hx3 := HX.out.trans hx
        obtain ⟨g1, e1, _, _, q1, _⟩ := (HD.out.below hx3).cell i hlt
        obtain ⟨g2, e2, _, _, q2, _⟩ := (HV.out.below hx3).cell i hlt
        simp only [Option.some.injEq, Addr.mk.injEq, and_true] at e1 e2
        subst e1
        subst e2
        exact ⟨qx w' ((HX1.out.trans HX3.out).trans hx3), q1, q2⟩
      obtain ⟨S, hS⟩ : ∃ S, S = sumTo i (innF R ts X Y) := ⟨_, rfl⟩
      obtain ⟨P, hP⟩ : ∃ P, P = X.getD i 0 := ⟨_, rfl⟩
      obtain ⟨D, hD⟩ : ∃ D, D = (lenL R ts).getD i 0 := ⟨_, rfl⟩
      obtain ⟨V, hV⟩ : ∃ V, V = (wgtL R ts Y).getD i 0 := ⟨_, rfl⟩
      rw [← hS, ← hP, ← hD, ← hV] at hst hN
      rw [← hP, ← hD, ← hV] at HF
      rw [← hS]
      have HN := hidP hN
      have m1 := hst.m1
      have m2 := hst.m2
      have m3 := hst.add
      have hi0 : (0 : Int) ≤ (i : Int) := by omega
      have hiR : (i : Int) < (R : Int) := by omega
      clear hst hN hS hP hD hV qx
      have hE : Ext wr wr.drew := Ext.drew wr
      go_wp2
      (refine walkR_start (fun w' => Ext wr w') 16 (by kernel_rfl) ?_; simp only [numbered, List.take_succ_cons, List.take_zero, Nat.zero_add, Nat.reduceAdd, List.length_cons, List.length_nil])
      (repeat (first | (refine walkR_still (v := ?_) rfl (by decide +kernel) rfl (fun _ _ _ h => h) hE ?_ ?_; rotate_left; (focus (intro w' hw'; obtain ⟨q1, q2, q3⟩ := HF.out w' hw'; go_simp; all_goals (with_reducible rfl))); simp only [Act.put, List.setIfInBounds_toArray, List.set_cons_zero, List.set_cons_succ]) | (refine walkR_skip rfl (by decide +kernel) rfl (fun _ _ _ h => h) hE ?_; simp only [Act.put, List.setIfInBounds_toArray, List.set_cons_zero, List.set_cons_succ])))
      (refine walkR_tail (by rfl) (by kernel_rfl) ?_; simp only [List.drop_succ_cons, List.drop_zero])
      have HX4 := hidP (HX.out.trans hE)
      clear hE
      go_wp2
      go_roundw
      case rel => exact ⟨i + 1, by omega, by rw [HN.out], by go_num, HX4⟩
      case measure => simp [intOf]; omega
    · obtain rfl : R = i := by omega
      have HE : Hid (innL R ts X Y = sumTo R (innF R ts X Y)) := rfl
      go_wp2
      go_ret
      exact ⟨by rw [HE.out]; rfl, (HX1.out.trans HX3.out).trans HX.out⟩
def corTo (r : Nat) (ts x : List Int) (k : Nat) : List Int := partly (List.replicate r 0) (corL r ts x) k
theorem corL_get (r : Nat) (ts x : List Int) (i : Nat) (hi : i < r) : (corL r ts x).getD i 0 = (x.getD i 0 * (lenL r ts).getD i 0).tdiv ((innL r ts x x).tdiv 2) := by simp [corL, List.getD_eq_getElem?_getD, hi]
theorem corL_length (r : Nat) (ts x : List Int) : (corL r ts x).length = r := by simp [corL]
set_option maxHeartbeats 2000000 in
theorem l5Coroot_any (R : Nat) (ta : Option Addr) (tn tc : Nat) (ts : List Int) (ax : Option Addr) (cx : Nat) (X : List Int) (w : World) (hc : IntsAt w ta tn ts) (hT : typeB R ts = true) (hL : lenOk R ts = true)
    (hx : IntsAt w ax R X) (hbx : ∀ j, j < R → -1000 ≤ X.getD j 0 ∧ X.getD j 0 ≤ 1000) (hh : (innL R ts X X).tdiv 2 ≠ 0) :
    Calls Tryz.prog 138 #[carV R ta tn tc, .slice ax R cx] w fun e w' => ∃ a, e = .returned (.slice a R R) ∧ OwnI w' w.heap.size a R R (corL R ts X) ∧ Ext w w' := by
  have hx1 := Ext.alloc w (.cells #[.int .i64 R, .slice ta tn tc] 31)
  have HC := hidP (fun w' (hx : Ext (w.alloc (.cells #[.int .i64 R, .slice ta tn tc] 31)) w') => (CarAt.new w _ rfl (R : Int) ta tn tc 31).below hx)
  have HX1 := hidP hx1
  have hrk := typeB_rank hT
  have hR4 : R ≤ 4 := by omega
  have HLe := hidP (fun w' (h : Ext w w') => l5Lengths_any R ta tn tc ts w' (hc.below h) hT hL)
  have HInn := hidP (fun w' (h : Ext w w') => l5Inner_any R ta tn tc ts ax ax cx cx X X w' (hc.below h) hT hL (hx.below h) (hx.below h) hbx hbx)
  have hib := innS_bd hT hL hbx hbx (Nat.le_refl R)
  have HIn := hidP hx
  have HBd := hidP (fun i (hi : i < R) => (innF_bd hT hL hbx hbx hi).1)
  have HGet := hidP (fun i (hi : i < R) => corL_get R ts X i hi)
  rw [← innL_eq] at hib
  obtain ⟨I, hI⟩ : ∃ I, I = innL R ts X X := ⟨_, rfl⟩
  rw [← hI] at hib HInn HGet hh
  have htb := tdiv_bound I 2
  have hq2 : IntKind.i64.wrap (I.tdiv 2) = I.tdiv 2 := wrap_in (by omega) (by omega)
  obtain ⟨H2, hH2⟩ : ∃ H2, H2 = I.tdiv 2 := ⟨_, rfl⟩
  have hmk := make_ints (R : Int) (by omega) (by omega)
  simp only [Int.toNat_natCast] at hmk
  have HH2 := hidP hH2
  clear hc hT hL hx hbx hx1 hrk hib htb hI
  obtain ⟨w1, hw1⟩ : ∃ w1, w1 = w.alloc (.cells #[.int .i64 R, .slice ta tn tc] 31) := ⟨_, rfl⟩
  rw [← hw1] at HC HX1
  obtain ⟨y0, y1⟩ := HC.out w1 (Ext.refl _)
  rw [← hH2] at hq2 hh HGet
  clear hH2
  go_enter Tryz.func138, Tryz.ntmps138
  go_wp2_with fail
  rw [← hw1]
  clear hw1
  refine (HLe.out _ HX1.out).mono ?_
  rintro e w2 ⟨aD, rfl, hoD, hx2⟩
  obtain ⟨z0, z1⟩ := HC.out w2 hx2
  clear y0 y1
  go_wp2_with fail
  refine (HInn.out _ (HX1.out.trans hx2)).mono ?_
  rintro e w3 ⟨rfl, hx3⟩
  have HX3 := hidP (hx2.trans hx3)
  have HD := hidP (hoD.below hx3)
  clear z0 z1 hx2 hx3 hoD
  obtain ⟨z0, z1⟩ := HC.out w3 HX3.out
  have HQ : Hid (IntKind.i64.wrap (I.tdiv 2) = H2) := by show _ = _; rw [HH2.out] at hq2 ⊢; exact hq2
  have hs3 : w.heap.size ≤ w3.heap.size := (HX1.out.trans HX3.out).size
  have hm := OwnI.made w3 w.heap.size R hs3 (by unfold maxLen; omega)
  have HXn := hidP (Ext.alloc w3 (.cells (Array.replicate R (.int .i64 0)) 3))
  rw [← partly_zero (List.replicate R 0) (corL R ts X)] at hm
  obtain ⟨g, hg⟩ : ∃ g, g = w3.heap.size := ⟨_, rfl⟩
  rw [← hg] at hm
  have HM := hidP hm
  have HGw : Hid (w3.heap.size ≤ g) := by show _ ≤ _; omega
  have HGe : Hid (w3.heap.size = g) := hg.symm
  have hqq := HQ.out
  clear hm hg hs3 HQ hq2
  go_wp2
  rw [HGe.out]
  obtain ⟨w4, hw4⟩ : ∃ w4, w4 = w3.alloc (.cells (Array.replicate R (.int .i64 0)) 3) := ⟨_, rfl⟩
  rw [← hw4] at HM HXn ⊢
  clear hw4 hmk z0 z1 hqq
  go_loopw [8] (fun ii wr => ∃ i : Nat, i ≤ R ∧ ii = .int .i64 i ∧ Hid (OwnI wr w.heap.size (some ⟨g, 0, none⟩) R R (corTo R ts X i)) ∧ Hid (Ext w3 wr)) (fun ii _ => R - (intOf ii).toNat)
  case atStart => exact ⟨0, Nat.zero_le _, rfl, HM, HXn⟩
  case round =>
    clear HM HXn
    obtain ⟨i, hi, rfl, HO, HX⟩ := hrel
    obtain ⟨y0, y1⟩ := HC.out wr (HX3.out.trans HX.out)
    by_cases hlt : i < R
    · have hbd := HBd.out i hlt
      have hget := HGet.out i hlt
      obtain ⟨b, o, rfl, qx⟩ := HIn.out.one i hlt
      obtain ⟨gD, rfl, _⟩ := HD.out.cell i hlt
      have HF : Hid (∀ w', Ext wr w' → w'.cell? ⟨b, o + i, none⟩ = some (.int .i64 (X.getD i 0)) ∧ w'.cell? ⟨gD, i, none⟩ = some (.int .i64 ((lenL R ts).getD i 0)) ∧ (∃ v, w'.cell? ⟨g, i, none⟩ = some (.int .i64 v)) ∧ w'.frozen? ⟨g, i, none⟩ = false) := by
        show ∀ w', _
        intro w' hx
        have hx3 := HX.out.trans hx
        obtain ⟨g1, e1, _, _, q1, _⟩ := (HD.out.below hx3).cell i hlt
        obtain ⟨g2, e2, _, _, q2, q3⟩ := (HO.out.below hx).cell i hlt
        simp only [Option.some.injEq, Addr.mk.injEq, and_true] at e1 e2
        subst e1
        subst e2
        exact ⟨qx w' ((HX1.out.trans HX3.out).trans hx3), q1, ⟨_, q2⟩, q3⟩
      have HSt : Hid (∀ w', Ext wr w' → OwnI (w'.setCell ⟨g, i, none⟩ (.int .i64 ((X.getD i 0 * (lenL R ts).getD i 0).tdiv H2))) w.heap.size (some ⟨g, 0, none⟩) R R (corTo R ts X (i + 1))) := by
        show ∀ w', _
        intro w' hx
        have h1 := (HO.out.below hx).stored i ((X.getD i 0 * (lenL R ts).getD i 0).tdiv H2)
        rw [← hget] at h1 ⊢
        unfold corTo at h1
        rw [partly_succ _ _ R i hlt (by simp) (corL_length _ _ _)] at h1
        exact h1
      obtain ⟨P, hP⟩ : ∃ P, P = X.getD i 0 := ⟨_, rfl⟩
      obtain ⟨D, hD⟩ : ∃ D, D = (lenL R ts).getD i 0 := ⟨_, rfl⟩
      rw [← hP, ← hD] at HF HSt hbd
      have htb := tdiv_bound (P * D) H2
      have m1 : IntKind.i64.wrap (P * D) = P * D := wrap_in (by omega) (by omega)
      have m2 : IntKind.i64.wrap ((P * D).tdiv H2) = (P * D).tdiv H2 := wrap_in (by omega) (by omega)
      have hi0 : (0 : Int) ≤ (i : Int) := by omega
      have hiR : (i : Int) < (R : Int) := by omega
      have hh0 : ¬ (H2 = 0) := hh
      clear hP hD qx hget hbd htb
      have hE : Ext wr wr.drew := Ext.drew wr
      go_wp2
      (refine walkR_start (fun w' => Ext wr w') 13 (by kernel_rfl) ?_; simp only [numbered, List.take_succ_cons, List.take_zero, Nat.zero_add, Nat.reduceAdd, List.length_cons, List.length_nil])
      (repeat (first | (refine walkR_still (v := ?_) rfl (by decide +kernel) rfl (fun _ _ _ h => h) hE ?_ ?_; rotate_left; (focus (intro w' hw'; obtain ⟨q1, q2, _, _⟩ := HF.out w' hw'; go_simp; all_goals (with_reducible rfl))); simp only [Act.put, List.setIfInBounds_toArray, List.set_cons_zero, List.set_cons_succ]) | (refine walkR_skip rfl (by decide +kernel) rfl (fun _ _ _ h => h) hE ?_; simp only [Act.put, List.setIfInBounds_toArray, List.set_cons_zero, List.set_cons_succ])))
      (refine walkR_tail (by rfl) (by kernel_rfl) ?_; simp only [List.drop_succ_cons, List.drop_zero])
      obtain ⟨q1, q2, ⟨v0, q3⟩, q4⟩ := HF.out _ hE
      have HO3 := hidP (HSt.out _ hE)
      have HX4 : Hid (Ext w3 (wr.drew.setCell ⟨g, i, none⟩ (.int .i64 ((P * D).tdiv H2)))) := Ext.setNew (HX.out.trans hE) _ _ HGw.out _
      clear hE
      go_wp2
      go_roundw
      case rel => exact ⟨i + 1, by omega, by go_num, HO3, HX4⟩
      case measure => simp [intOf]; omega
    · obtain rfl : R = i := by omega
      have HE : Hid (corTo R ts X R = corL R ts X) := partly_all _ _ _ (by simp) (corL_length _ _ _)
      rw [HE.out] at HO
      go_wp2
      go_ret
      exact ⟨_, rfl, HO.out, (HX1.out.trans HX3.out).trans HX.out⟩
theorem gcdO_next {f : Nat} {a b g : Int} (h : gcdO f a b = some g) (hb : b ≠ 0) : ∃ f', gcdO f' b (a.tmod b) = some g := by
  cases f with
  | zero => cases h
  | succ f =>
    rw [gcdO, if_neg hb] at h
    exact ⟨f, h⟩
theorem gcdO_end {f : Nat} {a g : Int} (h : gcdO f a 0 = some g) : a = g := by
  cases f with
  | zero => cases h
  | succ f =>
    rw [gcdO, if_pos rfl] at h
    exact Option.some.inj h
theorem tmod_bd (a b : Int) (hb : b ≠ 0) : (a.tmod b).natAbs < b.natAbs := by
  have h1 := Int.natAbs_tmod a b
  rw [h1]
  exact Nat.mod_lt _ (by omega)
set_option maxHeartbeats 1000000 in
theorem l8Gcd_any (a b g : Int) (w : World) (h : gcdO 100 a b = some g) (ha : -1000000000000 ≤ a ∧ a ≤ 1000000000000) (hb : -1000000000000 ≤ b ∧ b ≤ 1000000000000) :
    Calls Tryz.prog 140 #[.int .i64 a, .int .i64 b] w fun e w' => e = .returned (.int .i64 g) ∧ w = w' := by
  have HG : Hid (∃ f, gcdO f a b = some g) := ⟨100, h⟩
  clear h
  go_enter Tryz.func140, Tryz.ntmps140
  go_wp2
  go_loop [0, 1] (fun x y => ∃ a b : Int, x = .int .i64 a ∧ y = .int .i64 b ∧ (-1000000000000 ≤ a ∧ a ≤ 1000000000000) ∧ (-1000000000000 ≤ b ∧ b ≤ 1000000000000) ∧ Hid (∃ f, gcdO f a b = some g)) (fun _ y => (intOf y).natAbs)
  case atStart => exact ⟨a, b, rfl, rfl, ha, hb, HG⟩
  case round =>
    clear HG ha hb
    obtain ⟨x, y, rfl, rfl, hx, hy, HG⟩ := hrel
    by_cases hz : y = 0
    · subst hz
      have HE : Hid (x = g) := by
        obtain ⟨f, hf⟩ := HG.out
        exact gcdO_end hf
      go_wp2
      go_ret
      exact ⟨by rw [HE.out]; rfl, rfl⟩
    · have HN : Hid (∃ f, gcdO f y (x.tmod y) = some g) := by
        obtain ⟨f, hf⟩ := HG.out
        exact gcdO_next hf hz
      have hm := tmod_bd x y hz
      have hzb : (y != 0) = true := by simpa using hz
      have hwr : IntKind.i64.wrap (x.tmod y) = x.tmod y := wrap_in (by omega) (by omega)
      have hmb : -1000000000000 ≤ x.tmod y ∧ x.tmod y ≤ 1000000000000 := by omega
      have HMb := hidP hmb
      have hy0 : 0 < y.natAbs := by omega
      have HY0 := hidP hy0
      clear hm hmb hy0
      go_wp2
      go_round
      case rel => exact ⟨y, x.tmod y, rfl, rfl, hy, HMb.out, HN⟩
      case measure =>
        simp only [intOf, Int.natAbs_tmod]
        exact Nat.mod_lt _ HY0.out
end Go.Proofs.YtfikkfbnlegflaaGreatDoor

namespace Go.Proofs.YtfikkfbnlegflaaGreatDoor
open Go.RowKit

theorem smallB_iff {x : Int} : smallB x = true ↔ -1000000000000 ≤ x ∧ x ≤ 1000000000000 := by simp [smallB]
structure DimStep (r : Nat) (w : List Int) (cos : List (List Int)) (k : Nat) : Prop where
  co : okD r (cos.getD k []) = true
  t : -1000000000000 ≤ (dimK r w cos k).1 ∧ (dimK r w cos k).1 ≤ 1000000000000
  l : -1000000000000 ≤ (dimK r w cos k).2 ∧ (dimK r w cos k).2 ≤ 1000000000000
  t2 : -1000000000000 ≤ (dimK r w cos k).1 * sumTo r (dimF w (cos.getD k [])) ∧ (dimK r w cos k).1 * sumTo r (dimF w (cos.getD k [])) ≤ 1000000000000
  l2 : -1000000000000 ≤ (dimK r w cos k).2 * hgtL (cos.getD k []) ∧ (dimK r w cos k).2 * hgtL (cos.getD k []) ≤ 1000000000000
  g : gcdO 100 ((dimK r w cos k).1 * sumTo r (dimF w (cos.getD k []))) ((dimK r w cos k).2 * hgtL (cos.getD k [])) = some (gcdV ((dimK r w cos k).1 * sumTo r (dimF w (cos.getD k []))) ((dimK r w cos k).2 * hgtL (cos.getD k [])))
  g0 : gcdV ((dimK r w cos k).1 * sumTo r (dimF w (cos.getD k []))) ((dimK r w cos k).2 * hgtL (cos.getD k [])) ≠ 0
theorem dimOk_step {r : Nat} {w : List Int} {cos : List (List Int)} (h : dimOk r w cos = true) {k : Nat} (hk : k < cos.length) : DimStep r w cos k := by
  simp only [dimOk, List.all_eq_true, List.mem_range] at h
  have h1 := h k hk
  simp only [dimStepOk, Bool.and_eq_true, smallB_iff, decide_eq_true_eq, Option.isSome_iff_exists] at h1
  obtain ⟨⟨⟨⟨⟨⟨h1, h2⟩, h3⟩, h4⟩, h5⟩, ⟨g, h6⟩⟩, h7⟩ := h1
  refine ⟨h1, h2, h3, h4, h5, ?_, h7⟩
  rw [h6, gcdV, h6]
  rfl
structure DmStep (S C X : Int) : Prop where
  a1 : IntKind.i64.wrap (X + 1) = X + 1
  m : IntKind.i64.wrap (C * (X + 1)) = C * (X + 1)
  a2 : IntKind.i64.wrap (S + C * (X + 1)) = S + C * (X + 1)
theorem dm_step {r : Nat} {w co : List Int} (hc : okD r co = true) (hw : ∀ j, j < r → -1000 ≤ w.getD j 0 ∧ w.getD j 0 ≤ 1000) (hr : r ≤ 4) {i : Nat} (hi : i < r) : DmStep (sumTo i (dimF w co)) (co.getD i 0) (w.getD i 0) := by
  have hb : ∀ j, j < r → -1001000 ≤ dimF w co j ∧ dimF w co j ≤ 1001000 := by
    intro j hj
    have h1 := (okD_get hc).2 j hj
    have h2 := hw j hj
    have h3 := mul_bd h1 (⟨by omega, by omega⟩ : -1001 ≤ w.getD j 0 + 1 ∧ w.getD j 0 + 1 ≤ 1001)
    unfold dimF
    exact ⟨by omega, by omega⟩
  have h := sum_bd (f := dimF w co) (M := 1001000) i fun j hj => hb j (by omega)
  have h4 : (i : Int) * 1001000 ≤ 4 * 1001000 := Int.mul_le_mul_of_nonneg_right (by omega) (by omega)
  have h5 := hb i hi
  have h6 := hw i hi
  unfold dimF at h5
  exact ⟨wrap_in (by omega) (by omega), wrap_in (by omega) (by omega), wrap_in (by omega) (by omega)⟩
def highB (r : Nat) (w : List Int) : Bool := decide (w.length = r) && w.all fun x => insB x 0 3

set_option maxRecDepth 100000 in
set_option maxHeartbeats 4000000 in
theorem l8DimensionBy_any (R : Nat) (ta : Option Addr) (tn tc : Nat) (ts : List Int) (aw : Option Addr) (cw : Nat) (W : List Int) (w : World) (hc : IntsAt w ta tn ts) (hT : typeB R ts = true) (FS : List (List Int)) (hF : foundL R ts = some FS) (hRo : rootsOk R ts FS = true)
    (hw : IntsAt w aw R W) (hb : ∀ j, j < R → -1000 ≤ W.getD j 0 ∧ W.getD j 0 ≤ 1000) (hD : dimOk R W (cosOf R ts FS) = true) :
    Calls Tryz.prog 110 #[carV R ta tn tc, .slice aw R cw] w fun e w' => e = .returned (.int .i64 (dimK R W (cosOf R ts FS) FS.length).1) ∧ Ext w w' := by
  have hx1 := Ext.alloc w (.cells #[.int .i64 R, .slice ta tn tc] 31)
  have HC := hidP (fun w' (hx : Ext (w.alloc (.cells #[.int .i64 R, .slice ta tn tc] 31)) w') => (CarAt.new w _ rfl (R : Int) ta tn tc 31).below hx)
  have HX1 := hidP hx1
  have hrk := typeB_rank hT
  have hR4 : R ≤ 4 := by omega
  simp only [rootsOk, Bool.and_eq_true, decide_eq_true_eq, List.all_eq_true] at hRo
  obtain ⟨⟨⟨hl, hok⟩, hLe⟩, hha⟩ := hRo
  have hSm : SmallRows R FS := fun x hx => okD_get (hok x hx)
  have HRo := hidP (fun w' (h : Ext w w') => l5Roots_any R ta tn tc ts w' (hc.below h) hT FS hF hl hSm)
  have HCo := hidP (fun w' (h : Ext w w') (a : Option Addr) (c : Nat) (X : List Int) (hX : X ∈ FS) (hx : IntsAt w' a R X) => l5Coroot_any R ta tn tc ts a c X w' (hc.below h) hT hLe hx (hSm X hX).2 (hha X hX))
  have HSm := hidP hSm
  have HW := hidP hw
  have HB := hidP hb
  have hcl : (cosOf R ts FS).length = FS.length := by rw [cosOf, List.length_map, rootsOf_length]
  have HDS := hidP (fun k (hk : k < FS.length) => dimOk_step hD (show k < (cosOf R ts FS).length by omega))
  have HCg : Hid (∀ k, k < FS.length → (cosOf R ts FS).getD k [] = corL R ts ((rootsOf FS).getD k []) ∧ (rootsOf FS).getD k [] ∈ FS) := by
    show ∀ k, _
    intro k hk
    have h1 : k < (rootsOf FS).length := by rw [rootsOf_length]; exact hk
    refine ⟨by simp [cosOf, List.getD_eq_getElem?_getD, h1], ?_⟩
    have h2 : (rootsOf FS).getD k [] ∈ insTo FS FS.length := by
      rw [insTo_all, List.getD_eq_getElem?_getD, List.getElem?_eq_getElem h1]
      exact List.getElem_mem _
    exact insTo_mem FS _ (Nat.le_refl _) _ h2
  obtain ⟨COS, hCOS⟩ : ∃ COS, COS = cosOf R ts FS := ⟨_, rfl⟩
  rw [← hCOS] at HDS HCg
  have HCOS := hidP hCOS
  clear hc hT hF hw hb hD hok hLe hha hSm hcl hCOS hx1 hrk
  obtain ⟨w1, hw1⟩ : ∃ w1, w1 = w.alloc (.cells #[.int .i64 R, .slice ta tn tc] 31) := ⟨_, rfl⟩
  rw [← hw1] at HC HX1
  obtain ⟨y0, y1⟩ := HC.out w1 (Ext.refl _)
  go_enter Tryz.func110, Tryz.ntmps110
  go_wp2_with fail
  rw [← hw1]
  clear hw1
  refine (HRo.out _ HX1.out).mono ?_
  rintro e w2 ⟨aR, cR, rfl, hoR, hx2⟩
  have HX2 := hidP hx2
  have HRw := hidP hoR
  clear y0 y1 hx2 hoR HRo
  go_wp2
  go_loopw [6, 7, 8] (fun tt ll kk wr => ∃ k : Nat, k ≤ FS.length ∧ tt = .int .i64 (dimK R W COS k).1 ∧ ll = .int .i64 (dimK R W COS k).2 ∧ kk = .int .i64 k ∧ Hid (Ext w2 wr)) (fun _ _ kk _ => FS.length - (intOf kk).toNat)
  case atStart => exact ⟨0, Nat.zero_le _, rfl, rfl, rfl, Ext.refl _⟩
  case round =>
    obtain ⟨k, hk, rfl, rfl, rfl, HX⟩ := hrel
    by_cases hlt : k < FS.length
    · have hds := HDS.out k hlt
      obtain ⟨hcg, hmem⟩ := HCg.out k hlt
      have hN1 : (dimK R W COS (k + 1)).1 = ((dimK R W COS k).1 * sumTo R (dimF W (COS.getD k []))).tdiv (gcdV ((dimK R W COS k).1 * sumTo R (dimF W (COS.getD k []))) ((dimK R W COS k).2 * hgtL (COS.getD k []))) := rfl
      have hN2 : (dimK R W COS (k + 1)).2 = ((dimK R W COS k).2 * hgtL (COS.getD k [])).tdiv (gcdV ((dimK R W COS k).1 * sumTo R (dimF W (COS.getD k []))) ((dimK R W COS k).2 * hgtL (COS.getD k []))) := rfl
      obtain ⟨bR, oR, ar, cr, rfl, hcr, hir, _⟩ := HRw.out.get k hlt
      have hrl := (HSm.out _ hmem).1
      rw [hrl] at hcr hir
      have HQ : Hid (∀ w', Ext wr w' → w'.cell? ⟨bR, oR + k, none⟩ = some (.slice ar R cr)) := fun w' hx => ((HX.out.trans hx).cell (p := ⟨bR, oR + k, none⟩) (World.block_lt_of_cell? w2 _ hcr)).trans hcr
      have HCk := hidP (fun w' (hx : Ext wr w') => HCo.out w' ((HX1.out.trans HX2.out).trans (HX.out.trans hx)) ar cr _ hmem (hir.below (HX.out.trans hx)))
      rw [← hcg] at HCk
      obtain ⟨CO, hCO⟩ : ∃ CO, CO = COS.getD k [] := ⟨_, rfl⟩
      rw [← hCO] at HCk hN1 hN2
      obtain ⟨Tt, hTt⟩ : ∃ Tt, Tt = (dimK R W COS k).1 := ⟨_, rfl⟩
      obtain ⟨Ll, hLl⟩ : ∃ Ll, Ll = (dimK R W COS k).2 := ⟨_, rfl⟩
      have hok := hds.co
      have ht2 := hds.t2
      have hl2 := hds.l2
      have hg := hds.g
      have hg0 := hds.g0
      rw [← hCO] at hok ht2 hl2 hg hg0
      rw [← hTt] at ht2 hg hg0 hN1 hN2 ⊢
      rw [← hLl] at hl2 hg hg0 hN1 hN2 ⊢
      obtain ⟨G, hG⟩ : ∃ G, G = gcdV (Tt * sumTo R (dimF W CO)) (Ll * hgtL CO) := ⟨_, rfl⟩
      rw [← hG] at hg hg0 hN1 hN2
      have HOk := hidP hok
      have HN1 := hidP hN1
      have HN2 := hidP hN2
      have HGc := hidP (fun w' => l8Gcd_any (Tt * sumTo R (dimF W CO)) (Ll * hgtL CO) G w' hg ht2 hl2)
      have hd1 := tdiv_bound (Tt * sumTo R (dimF W CO)) G
      have hd2 := tdiv_bound (Ll * hgtL CO) G
      have HW1 : Hid (IntKind.i64.wrap (Tt * sumTo R (dimF W CO)) = Tt * sumTo R (dimF W CO)) := wrap_in (by omega) (by omega)
      have HW2 : Hid (IntKind.i64.wrap (Ll * hgtL CO) = Ll * hgtL CO) := wrap_in (by omega) (by omega)
      have HW3 : Hid (IntKind.i64.wrap ((Tt * sumTo R (dimF W CO)).tdiv G) = (Tt * sumTo R (dimF W CO)).tdiv G) := wrap_in (by omega) (by omega)
      have HW4 : Hid (IntKind.i64.wrap ((Ll * hgtL CO).tdiv G) = (Ll * hgtL CO).tdiv G) := wrap_in (by omega) (by omega)
      have HG0 : Hid (¬ (G = 0)) := hg0
      have hk0 : (0 : Int) ≤ (k : Int) := by omega
      have hk1 : (k : Int) < (FS.length : Int) := by omega
      clear hcr hir hrl hcg hmem hds hN1 hN2 hok ht2 hl2 hg hg0 hCO hTt hLl hG hd1 hd2
      have hE : Ext wr wr.drew := Ext.drew wr
      go_wp2
      (refine walkR_start (fun w' => Ext wr w') 6 (by kernel_rfl) ?_; simp only [numbered, List.take_succ_cons, List.take_zero, Nat.zero_add, Nat.reduceAdd, List.length_cons, List.length_nil])
      (repeat (first | (refine walkR_still (v := ?_) rfl (by decide +kernel) rfl (fun _ _ _ h => h) hE ?_ ?_; rotate_left; (focus (intro w' hw'; obtain ⟨f0, f1⟩ := HC.out w' (HX2.out.trans (HX.out.trans hw')); have q1 := HQ.out w' hw'; go_simp; all_goals (with_reducible rfl))); simp only [Act.put, List.setIfInBounds_toArray, List.set_cons_zero, List.set_cons_succ]) | (refine walkR_skip rfl (by decide +kernel) rfl (fun _ _ _ h => h) hE ?_; simp only [Act.put, List.setIfInBounds_toArray, List.set_cons_zero, List.set_cons_succ])))
      (refine walkR_only (fun w' => Ext wr w') rfl (by decide +kernel) rfl (fun _ h => h) ?_; intro K hK; go_simp; refine (HCk.out _ hE).mono ?_; rintro e w3 ⟨aC, rfl, hoC, hx3⟩; refine hK _ _ (hE.trans hx3) ?_; clear hK K; (try simp only [Act.put, List.setIfInBounds_toArray, List.set_cons_zero, List.set_cons_succ]))
      (refine walkR_tail (by rfl) (by kernel_rfl) ?_; simp only [List.drop_succ_cons, List.drop_zero])
      have HX3 := hidP (HX.out.trans (hE.trans hx3))
      have HOC := hidP hoC
      clear hE hx3 hoC HQ HCk
      go_wp2
      go_loopw [10, 11] (fun ss ii wq => ∃ i : Nat, i ≤ R ∧ ss = .int .i64 (sumTo i (dimF W CO)) ∧ ii = .int .i64 i ∧ Hid (Ext w3 wq)) (fun _ ii _ => R - (intOf ii).toNat)
      case atStart => exact ⟨0, Nat.zero_le _, rfl, rfl, Ext.refl _⟩
      case round =>
        obtain ⟨i, hi, rfl, rfl, HXi⟩ := hrel
        obtain ⟨y0, y1⟩ := HC.out _ (HX2.out.trans (HX3.out.trans HXi.out))
        by_cases hli : i < R
        · have hst := dm_step HOk.out HB.out hR4 hli
          have hN : sumTo (i + 1) (dimF W CO) = sumTo i (dimF W CO) + CO.getD i 0 * (W.getD i 0 + 1) := rfl
          obtain ⟨b, o, rfl, qx⟩ := HW.out.one i hli
          obtain ⟨gC, rfl, _⟩ := HOC.out.cell i hli
          have HF : Hid (∀ w', Ext wr w' → w'.cell? ⟨b, o + i, none⟩ = some (.int .i64 (W.getD i 0)) ∧ w'.cell? ⟨gC, i, none⟩ = some (.int .i64 (CO.getD i 0))) := by
            show ∀ w', _
            intro w' hx
            obtain ⟨g1, e1, _, _, q1, _⟩ := (HOC.out.below (HXi.out.trans hx)).cell i hli
            simp only [Option.some.injEq, Addr.mk.injEq, and_true] at e1
            subst e1
            exact ⟨qx w' ((HX1.out.trans HX2.out).trans (HX3.out.trans (HXi.out.trans hx))), q1⟩
          obtain ⟨S, hS⟩ : ∃ S, S = sumTo i (dimF W CO) := ⟨_, rfl⟩
          obtain ⟨P, hP⟩ : ∃ P, P = CO.getD i 0 := ⟨_, rfl⟩
          obtain ⟨D, hD⟩ : ∃ D, D = W.getD i 0 := ⟨_, rfl⟩
          rw [← hS, ← hP, ← hD] at hst hN
          rw [← hP, ← hD] at HF
          rw [← hS]
          have HN := hidP hN
          have m1 := hst.a1
          have m2 := hst.m
          have m3 := hst.a2
          have hi0 : (0 : Int) ≤ (i : Int) := by omega
          have hiR : (i : Int) < (R : Int) := by omega
          clear hst hN hS hP hD qx
          have hE : Ext wr wr.drew := Ext.drew wr
          go_wp2
          (refine walkR_start (fun w' => Ext wr w') 12 (by kernel_rfl) ?_; simp only [numbered, List.take_succ_cons, List.take_zero, Nat.zero_add, Nat.reduceAdd, List.length_cons, List.length_nil])
          (repeat (first | (refine walkR_still (v := ?_) rfl (by decide +kernel) rfl (fun _ _ _ h => h) hE ?_ ?_; rotate_left; (focus (intro w' hw'; obtain ⟨q1, q2⟩ := HF.out w' hw'; go_simp; all_goals (with_reducible rfl))); simp only [Act.put, List.setIfInBounds_toArray, List.set_cons_zero, List.set_cons_succ]) | (refine walkR_skip rfl (by decide +kernel) rfl (fun _ _ _ h => h) hE ?_; simp only [Act.put, List.setIfInBounds_toArray, List.set_cons_zero, List.set_cons_succ])))
          (refine walkR_tail (by rfl) (by kernel_rfl) ?_; simp only [List.drop_succ_cons, List.drop_zero])
          have HX4 := hidP (HXi.out.trans hE)
          clear hE
          go_wp2
          go_roundw
          case rel => exact ⟨i + 1, by omega, by rw [HN.out], by go_num, HX4⟩
          case measure => simp [intOf]; omega
        · obtain rfl : R = i := by omega
          have hw1 := HW1.out
          have hw2 := HW2.out
          have HHt := hidP (fun w' (hx : Ext w3 w') => l5Height_any aC R R CO w' ((HOC.out.below hx).ints) (by omega) (fun j hj => by have := (okD_get HOk.out).2 j hj; omega))
          obtain ⟨SR, hSR⟩ : ∃ SR, SR = sumTo R (dimF W CO) := ⟨_, rfl⟩
          obtain ⟨HH, hHH⟩ : ∃ HH, HH = hgtL CO := ⟨_, rfl⟩
          rw [← hSR] at HW1 hw1 HW3 HGc HN1 ⊢
          rw [← hHH] at HW2 hw2 HW4 HGc HN2 HHt
          clear hSR hHH
          go_wp2_with fail
          refine (HHt.out _ HXi.out).mono ?_
          rintro e w4 ⟨rfl, rfl⟩
          go_wp2_with fail
          have hg := HGc.out wr
          refine hg.mono ?_
          rintro e w5 ⟨rfl, rfl⟩
          have hw3 := HW3.out
          have hw4 := HW4.out
          have hg0 := HG0.out
          have HX5 := hidP (HX3.out.trans HXi.out)
          go_wp2
          go_roundw
          case rel => exact ⟨k + 1, by omega, by rw [HN1.out], by rw [HN2.out], by go_num, HX5⟩
          case measure => simp [intOf]; omega
    · obtain rfl : FS.length = k := by omega
      go_wp2
      go_ret
      exact ⟨by rw [← HCOS.out]; rfl, (HX1.out.trans HX2.out).trans HX.out⟩
set_option maxHeartbeats 2000000 in
theorem l8Highest_any (R : Nat) (ta : Option Addr) (tn tc : Nat) (a : Option Addr) (n c : Nat) (W : List Int) (w : World) (h : IntsAt w a n W) (hn : n ≤ 9223372036854775807) (_hR : R ≤ 1000000) :
    Calls Tryz.prog 85 #[carV R ta tn tc, .slice a n c] w fun e w' => e = .returned (.bool (highB R W)) ∧ Ext w w' := by
  have hX := Ext.alloc w (.cells #[.int .i64 R, .slice ta tn tc] 31)
  have G := hidP (h.below hX)
  have HX := hidP hX
  have L := hidP h.len
  obtain ⟨f0, f1⟩ := CarAt.new w _ rfl (R : Int) ta tn tc 31
  clear hX h
  go_enter Tryz.func85, Tryz.ntmps85
  by_cases hnr : n = R
  · have hne : ((n : Int) != (R : Int)) = false := by simp [hnr]
    have HN := hidP hnr
    clear hnr
    go_wp2
    go_loopw [5] (fun i wr => ∃ k : Nat, k ≤ n ∧ Hid (∀ j, j < k → insB (W.getD j 0) 0 3 = true) ∧ i = .int .i64 k ∧ wr = w.alloc (.cells #[.int .i64 R, .slice ta tn tc] 31)) (fun i _ => n - (intOf i).toNat)
    case atStart => exact ⟨0, Nat.zero_le _, fun j h => by omega, rfl, rfl⟩
    case round =>
      obtain ⟨k, hk, HJ, rfl, rfl⟩ := hrel
      by_cases hlt : k < n
      · obtain ⟨b, o, rfl, q⟩ := G.out.get k hlt
        cases hin : insB (W.getD k 0) 0 3
        · have HB : Hid (highB R W = false) := by
            show _ = _
            have hkl : k < W.length := by have := L.out; omega
            unfold highB
            rw [Bool.and_eq_false_iff]
            right
            rw [List.all_eq_false]
            refine ⟨W.getD k 0, ?_, by rw [hin]; simp⟩
            rw [List.getD_eq_getElem?_getD, List.getElem?_eq_getElem hkl]
            exact List.getElem_mem hkl
          have hin' : insB (W[k]?.getD 0) 0 3 = false := by simpa [List.getD_eq_getElem?_getD] using hin
          clear hin
          go_wp2_with (go_at_call 54; refine (l1In_any _ _ _ _).mono ?_; rintro e w' ⟨rfl, rfl⟩)
          go_ret
          exact ⟨ret_bool HB.out.symm, HX.out⟩
        · have hin' : insB (W[k]?.getD 0) 0 3 = true := by simpa [List.getD_eq_getElem?_getD] using hin
          have HI := hidP hin
          clear hin
          go_wp2_with (go_at_call 54; refine (l1In_any _ _ _ _).mono ?_; rintro e w' ⟨rfl, rfl⟩)
          go_roundw
          case rel =>
            refine ⟨k + 1, by omega, fun j hj => ?_, by go_num, trivial⟩
            rcases Nat.lt_succ_iff_lt_or_eq.1 hj with h3 | rfl
            · exact HJ.out j h3
            · exact HI.out
          case measure => simp [intOf]; omega
      · have HB : Hid (highB R W = true) := by
          show _ = _
          unfold highB
          rw [Bool.and_eq_true, decide_eq_true_eq, List.all_eq_true]
          refine ⟨by have := L.out; have := HN.out; omega, fun x hx => ?_⟩
          obtain ⟨j, hj, rfl⟩ := List.mem_iff_getElem.1 hx
          have := HJ.out j (by have := L.out; omega)
          rwa [List.getD_eq_getElem?_getD, List.getElem?_eq_getElem hj] at this
        go_wp2
        go_ret
        exact ⟨ret_bool HB.out.symm, HX.out⟩
  · have hne : ((n : Int) != (R : Int)) = true := bne_iff_ne.2 (by omega)
    have HB : Hid (highB R W = false) := by
      show _ = _
      unfold highB
      rw [Bool.and_eq_false_iff]
      left
      rw [decide_eq_false_iff_not]
      have := L.out
      omega
    go_wp2
    go_ret
    exact ⟨ret_bool HB.out.symm, HX.out⟩
end Go.Proofs.YtfikkfbnlegflaaGreatDoor

namespace Go.Proofs.YtfikkfbnlegflaaGreatDoor
open Go.ChangeShapes Go.WideShapes Go.ChangeAt Go.RowKit Go.Joins Go.Deep

theorem plain_of_cell {w : World} {a : Addr} {v : Value} (h : w.cell? (a.add 0) = some v) : a = ⟨a.block, a.off, none⟩ := by
  unfold Addr.add at h
  simp only [if_true] at h
  unfold World.cell? at h
  split at h
  · split at h
    · cases h
    · rename_i hs
      cases a
      simp at hs
      simp [hs]
  · cases h
theorem add_plain (b o i : Nat) : (⟨b, o, none⟩ : Addr).add i = ⟨b, o + i, none⟩ := by
  unfold Addr.add
  split
  · subst_vars; rfl
  · rfl
section
variable {H : Type} {enc : TypeId × Value → H} {P : Program} {w : World} {base : Nat} {spare : Nat → Bool} {held : Bool}

end
end Go.Proofs.YtfikkfbnlegflaaGreatDoor

namespace Go.Proofs.YtfikkfbnlegflaaGreatDoor
open Go.ChangeShapes Go.WideShapes Go.ChangeAt Go.RowKit Go.Joins Go.Deep

/-- a slice of bytes, read -/
structure BytesAt (w : World) (a : Option Addr) (n : Nat) (bs : List Int) : Prop where
  len : bs.length = n
  get : ∀ i, i < n → ∃ b o, a = some ⟨b, o, none⟩ ∧ w.cell? ⟨b, o + i, none⟩ = some (.int .u8 (bs.getD i 0)) ∧ 0 ≤ bs.getD i 0 ∧ bs.getD i 0 ≤ 255
theorem bytes_in {H : Type} {enc : TypeId × Value → H} {P : Program} {w : World} {base : Nat} {spare : Nat → Bool} {held : Bool} {t e : TypeId} {fuel : Nat} {cs : List Value} {x : DataW H × List MemPlace} (ht : P.underlying t = some (.slice e)) (he : P.underlying e = some (.int .u8)) (hc : P.cellsOf e = 1)
    (h : DataW.trod enc P w base spare held fuel t cs = some x) : ∃ ao n c xs, cs = [.slice ao n c] ∧ BytesAt w ao n xs ∧ n ≤ 9223372036854775807 := by
  rcases open_ints ht he hc h with ⟨rfl, _⟩ | ⟨a, len, cap, zs, rfl, _, hl, hm, hz, _, hcell, hwf⟩
  · exact ⟨none, 0, 0, [], rfl, ⟨rfl, fun i h => by omega⟩, by omega⟩
  · have hlen : len ≤ zs.length := by rw [hz]; split <;> omega
    refine ⟨some a, len, cap, zs.take len, rfl, ⟨by simp [hlen], fun i hi => ?_⟩, by unfold maxLen at hm; omega⟩
    have h0 := plain_of_cell (hcell 0 (by omega))
    have hi' := hcell i (by omega)
    rw [h0, add_plain] at hi'
    have e1 : (zs.take len).getD i 0 = zs.getD i 0 := by simp [List.getD_eq_getElem?_getD, hi]
    refine ⟨_, _, congrArg some h0, by rw [hi', e1], ?_⟩
    have hmem : (zs.take len).getD i 0 ∈ zs := by
      simp only [List.getD_eq_getElem?_getD, List.getElem?_take, hi, if_true]
      rw [List.getElem?_eq_getElem (by omega)]
      exact List.getElem_mem _
    have := hwf _ hmem
    simpa [Lit.wf, IntKind.min, IntKind.max, IntKind.signed, IntKind.bits] using this
theorem big_any (a : Option Addr) (n c : Nat) (w : World) : Calls Tryz.prog 28 #[.slice a n c] w fun e w' => e = .returned (.bool (decide (1048576 < n))) ∧ w = w' := by
  have hb : decide ((1048576 : Int) < (n : Int)) = decide (1048576 < n) := by
    rw [decide_eq_decide]
    omega
  have HB := hidP hb
  clear hb
  go_enter Tryz.func28, Tryz.ntmps28
  go_wp2
  go_ret
  exact ⟨ret_bool (by first | exact HB.out | rfl), rfl⟩
theorem BytesAt.below {w w' : World} {a : Option Addr} {n : Nat} {bs : List Int} (h : BytesAt w a n bs) (hx : Ext w w') : BytesAt w' a n bs :=
  ⟨h.len, fun i hi => by obtain ⟨b, o, e, q, r⟩ := h.get i hi; exact ⟨b, o, e, (hx.cell (p := ⟨b, o + i, none⟩) (World.block_lt_of_cell? w _ q)).trans q, r⟩⟩
theorem BytesAt.grown {w w' : World} {a : Option Addr} {n : Nat} {bs : List Int} (h : BytesAt w a n bs) {g : Nat} (hg : w.grownBy w' (some g)) (hne : ∀ b o, a = some ⟨b, o, none⟩ → 0 < n → b < g) : BytesAt w' a n bs :=
  ⟨h.len, fun i hi => by
    obtain ⟨b, o, e, q, r⟩ := h.get i hi
    refine ⟨b, o, e, ?_, r⟩
    rw [World.cell?_of_block (w := w) (hg.block b (World.block_lt_of_cell? w _ q) (by have := hne b o e (by omega); simp only [ne_eq, Option.some.injEq]; omega))]
    exact q⟩
end Go.Proofs.YtfikkfbnlegflaaGreatDoor

namespace Go.Proofs.YtfikkfbnlegflaaGreatDoor
open Go.RowKit

/-- block g is a cursor over the bytes at a -/
structure CurAt (w : World) (g : Nat) (a : Option Addr) (n c : Nat) : Prop where
  ex : ∃ (i : Nat) (h : Int), i ≤ n ∧ w.cell? ⟨g, 0, none⟩ = some (.slice a n c) ∧ w.cell? ⟨g, 1, none⟩ = some (.int .i64 i) ∧ w.cell? ⟨g, 2, none⟩ = some (.int .i64 h)
  fr : ∀ j, w.frozen? ⟨g, j, none⟩ = false
  far : ∀ b o, a = some ⟨b, o, none⟩ → 0 < n → b < g
  blk : ∃ cur fr, w.heap[g]? = some (.cells cur 98 fr)
theorem CurAt.grown {w w' : World} {g : Nat} {a : Option Addr} {n c : Nat} (h : CurAt w g a n c) {row : Option Nat} (hg : w.grownBy w' row) (hne : some g ≠ row) : CurAt w' g a n c := by
  obtain ⟨cur, fr, hb⟩ := h.blk
  have hl : g < w.heap.size := (Array.getElem?_eq_some_iff.1 hb).1
  have he := hg.block g hl hne
  obtain ⟨i, x, hi, f0, f1, f2⟩ := h.ex
  exact ⟨⟨i, x, hi, (World.cell?_of_block (w := w) he).trans f0, (World.cell?_of_block (w := w) he).trans f1, (World.cell?_of_block (w := w) he).trans f2⟩, fun j => by rw [World.frozen?_of_block he]; exact h.fr j, h.far, cur, fr, he.trans hb⟩
theorem CurAt.lt {w : World} {g : Nat} {a : Option Addr} {n c : Nat} (h : CurAt w g a n c) : g < w.heap.size := by
  obtain ⟨cur, fr, hb⟩ := h.blk
  exact (Array.getElem?_eq_some_iff.1 hb).1
theorem CurAt.below {w w' : World} {g : Nat} {a : Option Addr} {n c : Nat} (h : CurAt w g a n c) (hx : Ext w w') : CurAt w' g a n c :=
  h.grown (row := none) ⟨hx.os, hx.tape, hx.output, hx.size, fun k hk _ => hx.block k hk⟩ (by simp)
/-- a slice of integers that is owned lies elsewhere -/
theorem CurAt.apart {w : World} {g B : Nat} {a a' : Option Addr} {n c n' c' : Nat} {xs : List Int} (h : CurAt w g a n c) (k : OwnI w B a' n' c' xs) : ∀ b o, a' = some ⟨b, o, none⟩ → b ≠ g := by
  intro b o e hb
  subst hb
  obtain ⟨cur, hc⟩ := k.block e
  obtain ⟨cur', fr, hc'⟩ := h.blk
  rw [hc] at hc'
  simp only [Option.some.injEq, Obj.cells.injEq] at hc'
  exact absurd hc'.2.1 (by decide)
theorem CurAt.own {w w' : World} {g B : Nat} {a a' : Option Addr} {n c n' c' : Nat} {xs : List Int} (h : CurAt w g a n c) (k : OwnI w B a' n' c' xs) (hg : w.grownBy w' (some g)) : OwnI w' B a' n' c' xs :=
  k.grown hg fun b o e => by have := h.apart k b o e; simpa using this
def Drawn (w : World) (g : Nat) (a : Option Addr) (n c : Nat) (P : Nat → Prop) (e : Ending) (w' : World) : Prop := ∃ v : Nat, P v ∧ e = .returned (.int .i64 v) ∧ CurAt w' g a n c ∧ w.grownBy w' (some g)

theorem gb_trans {a b c : World} {g : Option Nat} (h : a.grownBy b g) (k : b.grownBy c g) : a.grownBy c g :=
  ⟨k.os.trans h.os, k.tape.trans h.tape, k.output.trans h.output, Nat.le_trans h.size k.size, fun j hj hne => (k.block j (Nat.lt_of_lt_of_le hj h.size) hne).trans (h.block j hj hne)⟩
theorem ext_up {g : Nat} {w0 w w' : World} (h : Ext w0 w) (hg : w.grownBy w' (some g)) (hB : w0.heap.size ≤ w.heap.size) (hle : w0.heap.size ≤ g) : Ext w0 w' :=
  Below.grown h hg hB fun k hk => by simp only [Option.some.injEq] at hk; omega
theorem bits_below (x : Int) (m : Nat) (hm : m < 4611686018427387904) : ∃ v : Nat, v ≤ m ∧ bits .and .i64 x (m : Int) = (v : Int) := by
  have h2 : (BitVec.ofInt 64 (m : Int)).toNat = m := by
    rw [BitVec.ofInt_natCast, BitVec.toNat_ofNat]; exact Nat.mod_eq_of_lt (by omega)
  refine ⟨(BitVec.ofInt 64 x).toNat &&& m, Nat.and_le_right, ?_⟩
  have hx : (BitVec.ofInt 64 x).toNat &&& m ≤ m := Nat.and_le_right
  show IntKind.i64.wrap ((BitVec.ofInt 64 x &&& BitVec.ofInt 64 (m : Int)).toNat : Int) = _
  rw [BitVec.toNat_and, h2]
  exact wrap_in (by omega) (by omega)
theorem bits_255 (x : Int) : ∃ v : Nat, v ≤ 255 ∧ bits .and .i64 x 255 = (v : Int) := bits_below x 255 (by omega)
theorem bits_30 (x : Int) : ∃ v : Nat, v ≤ 1073741823 ∧ bits .and .i64 x 1073741823 = (v : Int) := bits_below x 1073741823 (by omega)

set_option maxRecDepth 100000 in
set_option maxHeartbeats 1000000 in
theorem l1Byte_any (g : Nat) (a : Option Addr) (n c : Nat) (bs : List Int) (w : World) (hc : CurAt w g a n c) (hb : BytesAt w a n bs) (hn : n ≤ 1048576) :
    Calls Tryz.prog 111 #[.pointer (some ⟨g, 0, none⟩)] w (Drawn w g a n c (fun v => v ≤ 255)) := by
  obtain ⟨i, h, hi, f0, f1, f2⟩ := hc.ex
  have fr0 := hc.fr 0
  have fr1 := hc.fr 1
  have fr2 := hc.fr 2
  go_enter Tryz.func111, Tryz.ntmps111
  go_wp2
  obtain ⟨h1, hh1⟩ : ∃ h1, h1 = wrap64 (wrap64 (h * 6364136223846793005) + 1442695040888963407) := ⟨_, rfl⟩
  rw [← hh1]
  clear hh1
  obtain ⟨w1, hw1⟩ : ∃ w1, w1 = w.setCell ⟨g, 2, none⟩ (.int .i64 h1) := ⟨_, rfl⟩
  have e0 : w1.cell? ⟨g, 0, none⟩ = some (.slice a n c) := by rw [hw1, World.cell?_setCell_other w _ _ _ (by simp)]; exact f0
  have e1 : w1.cell? ⟨g, 1, none⟩ = some (.int .i64 i) := by rw [hw1, World.cell?_setCell_other w _ _ _ (by simp)]; exact f1
  have e2 : w1.cell? ⟨g, 2, none⟩ = some (.int .i64 h1) := by rw [hw1]; exact World.cell?_setCell_same _ _ _ f2
  have hg1 : w.grownBy w1 (some g) := by rw [hw1]; exact ⟨rfl, rfl, rfl, by simp, fun k hk hne => Below.heap_setCell _ _ _ _ (by simpa using hne)⟩
  have bl : ∃ cur fr, w1.heap[g]? = some (.cells cur 98 fr) := by
    obtain ⟨cur, fr, hb⟩ := hc.blk
    rw [hw1]
    exact ⟨_, _, heap_setCell_at w g 2 _ _ _ _ hb⟩
  have k0 : ∀ j, w1.frozen? ⟨g, j, none⟩ = false := by intro j; rw [hw1, World.frozen?_setCell]; exact hc.fr j
  rw [← hw1]
  clear hw1
  go_quiet (fail)
  go_wp2
  obtain ⟨x, hx, hxe⟩ := bits_255 (bits BinOp.xor IntKind.i64 (h1 / 8589934592) (h1 / 35184372088832))
  rw [hxe]
  clear hxe
  by_cases hlt : i < n
  · obtain ⟨b, o, rfl, q0, y0, y1⟩ := (hb.grown hg1 hc.far).get i hlt
    obtain ⟨y, hy⟩ := Int.eq_ofNat_of_zero_le y0
    rw [hy] at q0 y1
    have q1 : wrap64 (y : Int) = (y : Int) := by unfold wrap64; omega
    clear hy y0
    go_quiet (fail)
    go_wp2
    go_quiet (fail)
    go_wp2
    obtain ⟨z, hz, hze⟩ := bits_255 ((x : Int) + y)
    rw [hze]
    clear hze
    go_ret
    refine ⟨z, hz, rfl, ?_, ?_⟩
    · refine ⟨⟨i + 1, h1, by omega, ?_, ?_, ?_⟩, fun j => ?_, hc.far, ?_⟩
      · rw [World.cell?_setCell_other _ _ _ _ (by simp)]; exact e0
      · rw [World.cell?_setCell_same _ _ _ (show (w1.drewN _).cell? _ = some (.int .i64 i) from e1)]; congr 1
      · rw [World.cell?_setCell_other _ _ _ _ (by simp)]; exact e2
      · rw [World.frozen?_setCell]; exact k0 j
      · obtain ⟨cur, fr, hb⟩ := bl
        exact ⟨_, _, heap_setCell_at (w1.drewN _) g 1 _ _ _ _ hb⟩
    · exact gb_trans hg1 ⟨rfl, rfl, rfl, by simp [World.setCell, World.drewN], fun k hk hne => Below.heap_setCell _ _ _ _ (by simpa using hne)⟩
  · go_quiet (fail)
    go_wp2
    go_ret
    exact ⟨x, hx, rfl, ⟨⟨i, h1, hi, e0, e1, e2⟩, k0, hc.far, bl⟩, gb_trans hg1 ⟨rfl, rfl, rfl, Nat.le_refl _, fun _ _ _ => rfl⟩⟩
def BelowP (k : Int) (v : Nat) : Prop := (k ≤ 0 → v = 0) ∧ (0 < k → (v : Int) < k)
set_option maxRecDepth 100000 in
set_option maxHeartbeats 1000000 in
theorem l1Below_any (g : Nat) (k : Int) (a : Option Addr) (n c : Nat) (bs : List Int) (w : World) (hc : CurAt w g a n c) (hb : BytesAt w a n bs) (hn : n ≤ 1048576) (hk : k ≤ 1000000000000) :
    Calls Tryz.prog 72 #[.pointer (some ⟨g, 0, none⟩), .int .i64 k] w (Drawn w g a n c (BelowP k)) := by
  by_cases h0 : k ≤ 0
  · go_enter Tryz.func72, Tryz.ntmps72
    go_wp2
    go_ret
    exact ⟨0, ⟨fun _ => rfl, fun h => by omega⟩, rfl, hc, ⟨rfl, rfl, rfl, Nat.le_refl _, fun _ _ _ => rfl⟩⟩
  · have hk1 : 1 ≤ k := by omega
    obtain ⟨m, rfl⟩ := Int.eq_ofNat_of_zero_le (show 0 ≤ k by omega)
    have HC := hidP hc
    have HB := hidP hb
    clear hc hb
    by_cases h1 : (m : Int) ≤ 256
    · have HL := hidP (l1Byte_any g a n c bs w HC.out HB.out hn)
      go_enter Tryz.func72, Tryz.ntmps72
      go_wp2_with fail
      refine HL.out.mono ?_
      rintro e w1 ⟨v, hv, rfl, hc1, hg1⟩
      have HC1 := hidP hc1
      have HG1 := hidP hg1
      clear hc1 hg1
      go_wp2
      go_ret
      exact ⟨v % m, ⟨fun h => by omega, fun h => by have := Nat.mod_lt v (show 0 < m by omega); omega⟩, by first | rfl | (congr 2), HC1.out, HG1.out⟩
    · have HL := hidP (fun w' (hc : CurAt w' g a n c) (hb : BytesAt w' a n bs) => l1Byte_any g a n c bs w' hc hb hn)
      go_enter Tryz.func72, Tryz.ntmps72
      go_wp2_with fail
      refine (HL.out _ HC.out HB.out).mono ?_
      rintro e w1 ⟨v1, hv1, rfl, hc1, hg1⟩
      have HB1 := hidP (HB.out.grown hg1 HC.out.far)
      have HC1 := hidP hc1
      have HG1 := hidP hg1
      clear hc1 hg1
      go_wp2_with fail
      refine (HL.out _ HC1.out HB1.out).mono ?_
      rintro e w2 ⟨v2, hv2, rfl, hc1, hg1⟩
      have HB2 := hidP (HB1.out.grown hg1 HC1.out.far)
      have HC2 := hidP hc1
      have HG2 := hidP (gb_trans HG1.out hg1)
      clear hc1 hg1
      go_wp2_with fail
      refine (HL.out _ HC2.out HB2.out).mono ?_
      rintro e w3 ⟨v3, hv3, rfl, hc1, hg1⟩
      have HB3 := hidP (HB2.out.grown hg1 HC2.out.far)
      have HC3 := hidP hc1
      have HG3 := hidP (gb_trans HG2.out hg1)
      clear hc1 hg1
      go_wp2_with fail
      refine (HL.out _ HC3.out HB3.out).mono ?_
      rintro e w4 ⟨v4, hv4, rfl, hc1, hg1⟩
      have HC4 := hidP hc1
      have HG4 := hidP (gb_trans HG3.out hg1)
      clear hc1 hg1
      go_wp2
      go_ret
      refine ⟨(v1 * 16777216 + v2 * 65536 + v3 * 256 + v4) % m, ⟨fun h => by omega, fun h => ?_⟩, ?_, HC4.out, HG4.out⟩
      · have := Nat.mod_lt (v1 * 16777216 + v2 * 65536 + v3 * 256 + v4) (show 0 < m by omega)
        omega
      · congr 2
theorem CurAt.new (a : Option Addr) (n c : Nat) (bs : List Int) (w : World) (hb : BytesAt w a n bs) (h : Int) :
    CurAt (w.alloc (.cells #[.slice a n c, .int .i64 0, .int .i64 h] 98)) w.heap.size a n c := by
  refine ⟨⟨0, h, Nat.zero_le _, (cell_top _ _ _ _ _ rfl).trans rfl, (cell_top _ _ _ _ _ rfl).trans rfl, (cell_top _ _ _ _ _ rfl).trans rfl⟩, fun j => frozen_top _ _ _ _ _ rfl, fun b o e h0 => ?_, _, _, heap_alloc_new _ _⟩
  obtain ⟨b', o', e', q, _⟩ := hb.get 0 h0
  rw [e] at e'
  simp only [Option.some.injEq, Addr.mk.injEq, and_true] at e'
  obtain ⟨rfl, rfl⟩ := e'
  exact World.block_lt_of_cell? w _ q
set_option maxHeartbeats 1000000 in
theorem l1New_any (a : Option Addr) (n c : Nat) (bs : List Int) (w : World) (hb : BytesAt w a n bs) (hn : n ≤ 1048576) :
    Calls Tryz.prog 67 #[.slice a n c] w fun e w' => ∃ g, e = .returned (.pointer (some ⟨g, 0, none⟩)) ∧ CurAt w' g a n c ∧ w.heap.size ≤ g ∧ Ext w w' := by
  have HB := hidP hb
  clear hb
  go_enter Tryz.func67, Tryz.ntmps67
  go_wp2
  go_loop [3, 4] (fun v i => ∃ k h : Nat, k ≤ n ∧ h ≤ 1073741823 ∧ v = .int .i64 h ∧ i = .int .i64 k) (fun _ i => n - (intOf i).toNat)
  case atStart => exact ⟨0, 124929 + n, Nat.zero_le _, by omega, by first | rfl | go_num, rfl⟩
  case round =>
    obtain ⟨k, h, hk, hh, rfl, rfl⟩ := hrel
    by_cases hlt : k < n
    · by_cases h4 : (k : Int) < 4000
      · obtain ⟨b, o, rfl, q0, y0, y1⟩ := HB.out.get k hlt
        obtain ⟨y, hy⟩ := Int.eq_ofNat_of_zero_le y0
        rw [hy] at q0 y1
        have q1 : wrap64 (y : Int) = (y : Int) := by unfold wrap64; omega
        clear hy y0
        obtain ⟨z, hz, hze⟩ := bits_30 ((h : Int) * 131 + y + 7)
        go_wp2
        go_round
        case rel => exact ⟨k + 1, z, by omega, hz, by first | rfl | rw [hze], by go_num⟩
        case measure => simp [intOf]; omega
      · have HN := hidP (fun h => CurAt.new a n c bs w HB.out h)
        go_wp2
        go_ret
        exact ⟨w.heap.size, rfl, HN.out _, Nat.le_refl _, Ext.alloc _ _⟩
    · have HN := hidP (fun h => CurAt.new a n c bs w HB.out h)
      go_wp2
      go_ret
      exact ⟨w.heap.size, rfl, HN.out _, Nat.le_refl _, Ext.alloc _ _⟩
end Go.Proofs.YtfikkfbnlegflaaGreatDoor

namespace Go.Proofs.YtfikkfbnlegflaaGreatDoor
open Go.RowKit

/-! ### the sum, as the program sets it -/
def aIn (n r1 : Nat) (xs : List Int) (i : Nat) : Nat → List Int → List Int
  | 0, d => d
  | j + 1, d => (aIn n r1 xs i j d).set (i * n + j) (atM xs r1 i j)
def aOut (n r1 : Nat) (xs : List Int) : Nat → List Int
  | 0 => List.replicate (n * n) 0
  | i + 1 => aIn n r1 xs i r1 (aOut n r1 xs i)
def bIn (n r1 r2 : Nat) (ys : List Int) (i : Nat) : Nat → List Int → List Int
  | 0, d => d
  | j + 1, d => (bIn n r1 r2 ys i j d).set ((r1 + i) * n + r1 + j) (atM ys r2 i j)
def bOut (n r1 r2 : Nat) (ys d : List Int) : Nat → List Int
  | 0 => d
  | i + 1 => bIn n r1 r2 ys i r2 (bOut n r1 r2 ys d i)
def sumM (r1 : Nat) (xs : List Int) (r2 : Nat) (ys : List Int) : List Int := bOut (r1 + r2) r1 r2 ys (aOut (r1 + r2) r1 xs r1) r2
theorem OwnI.putAt {w : World} {B g n c : Nat} {xs : List Int} (h : OwnI w B (some ⟨g, 0, none⟩) n c xs) {i : Nat} (hi : i < n) : (∃ v, w.cell? ⟨g, i, none⟩ = some (.int .i64 v)) ∧ w.frozen? ⟨g, i, none⟩ = false := by
  obtain ⟨g', e', _, _, q1, q2⟩ := h.cell i hi
  simp only [Option.some.injEq, Addr.mk.injEq, and_true] at e'
  subst e'
  exact ⟨⟨_, q1⟩, q2⟩
structure IdxF (i n j m : Int) : Prop where
  a : IntKind.i64.wrap (i * n) = i * n
  b : IntKind.i64.wrap (i * n + j) = i * n + j
  c : 0 ≤ i * n + j
  d : i * n + j < m
theorem idxF {i n j : Nat} (hn : n ≤ 8) (hi : i < n) (hj : j < n) : IdxF i n j ((n * n : Nat) : Int) ∧ i * n + j < n * n := by
  have h1 : (i + 1) * n ≤ n * n := Nat.mul_le_mul_right _ hi
  have h2 : n * n ≤ 8 * 8 := Nat.mul_le_mul hn hn
  rw [Nat.add_mul, Nat.one_mul] at h1
  have h3 : ((i * n : Nat) : Int) = (i : Int) * n := Int.natCast_mul _ _
  refine ⟨⟨wrap_in ?_ ?_, wrap_in ?_ ?_, ?_, ?_⟩, by omega⟩ <;> rw [← h3] <;> omega

theorem Ext.gb {w w' : World} (h : Ext w w') (r : Option Nat) : w.grownBy w' r := ⟨h.os, h.tape, h.output, h.size, fun k hk _ => h.block k hk⟩
theorem CarAt.gb {w w' : World} {b g : Nat} {r : Int} {a : Option Addr} {n c : Nat} (h : CarAt w b r a n c) (hg : w.grownBy w' (some g)) (hne : b ≠ g) : CarAt w' b r a n c :=
  have e := hg.block b (World.block_lt_of_cell? w _ h.c0) (by simpa using hne)
  ⟨(World.cell?_of_block (w := w) e).trans h.c0, (World.cell?_of_block (w := w) e).trans h.c1⟩
/-- numbers of its own, all else as before -/
structure OneI (w0 wr : World) (B g m c : Nat) (D : List Int) : Prop where
  d : OwnI wr B (some ⟨g, 0, none⟩) m c D
  gb : w0.grownBy wr (some g)
theorem OneI.below {w0 wr w' : World} {B g m c : Nat} {D : List Int} (h : OneI w0 wr B g m c D) (hx : Ext wr w') : OneI w0 w' B g m c D := ⟨h.d.below hx, gb_trans h.gb (hx.gb _)⟩
theorem OneI.store {w0 wr : World} {B g m c : Nat} {D : List Int} (h : OneI w0 wr B g m c D) (i : Nat) (v : Int) : OneI w0 (wr.setCell ⟨g, i, none⟩ (.int .i64 v)) B g m c (D.set i v) :=
  ⟨h.d.stored i v, gb_trans h.gb ⟨rfl, rfl, rfl, by simp [World.setCell], fun k hk hne => Below.heap_setCell _ _ _ _ (by simpa using hne)⟩⟩
set_option maxRecDepth 100000 in
set_option maxHeartbeats 4000000 in
theorem l5Sum_any (r1 r2 : Nat) (a1 a2 : Option Addr) (c1 c2 : Nat) (xs ys : List Int) (w : World) (h1 : IntsAt w a1 (r1 * r1) xs) (h2 : IntsAt w a2 (r2 * r2) ys) (hr1 : r1 ≤ 4) (hr2 : r2 ≤ 4) :
    Calls Tryz.prog 106 #[carV r1 a1 (r1 * r1) c1, carV r2 a2 (r2 * r2) c2] w fun e w' => ∃ a, e = .returned (carV ((r1 + r2 : Nat) : Int) a ((r1 + r2) * (r1 + r2)) ((r1 + r2) * (r1 + r2))) ∧ OwnI w' w.heap.size a ((r1 + r2) * (r1 + r2)) ((r1 + r2) * (r1 + r2)) (sumM r1 xs r2 ys) ∧ Ext w w' := by
  have HA1 := hidP (fun w' (hx : Ext w w') (k j : Nat) (hk : k < r1) (hj : j < r1) => l5At_any (r1 : Int) a1 (r1 * r1) c1 xs k j w' (h1.below hx) (by rw [Int.natCast_mul]) (by omega) (by omega) (by omega))
  have HA2 := hidP (fun w' (hx : Ext w w') (k j : Nat) (hk : k < r2) (hj : j < r2) => l5At_any (r2 : Int) a2 (r2 * r2) c2 ys k j w' (h2.below hx) (by rw [Int.natCast_mul]) (by omega) (by omega) (by omega))
  simp only [Int.toNat_natCast] at HA1 HA2
  obtain ⟨m1, hm1⟩ : ∃ m1, m1 = r1 * r1 := ⟨_, rfl⟩
  obtain ⟨m2, hm2⟩ : ∃ m2, m2 = r2 * r2 := ⟨_, rfl⟩
  rw [← hm1] at HA1 ⊢
  rw [← hm2] at HA2 ⊢
  clear h1 h2 hm1 hm2
  obtain ⟨n, hn⟩ : ∃ n, n = r1 + r2 := ⟨_, rfl⟩
  rw [← hn]
  have hn8 : n ≤ 8 := by omega
  have hnI : (r1 : Int) + (r2 : Int) = (n : Int) := by omega
  obtain ⟨m, hm⟩ : ∃ m, m = n * n := ⟨_, rfl⟩
  have hmI : (n : Int) * (n : Int) = (m : Int) := by rw [hm, Int.natCast_mul]
  have hmle : m ≤ 64 := by rw [hm]; exact Nat.mul_le_mul hn8 hn8
  have hmk := make_ints (m : Int) (by omega) (by omega)
  simp only [Int.toNat_natCast] at hmk
  rw [← hm]
  have HN : Hid (n = r1 + r2) := hn
  have HMm : Hid (m = n * n) := hm
  have HSum : Hid (sumM r1 xs r2 ys = bOut n r1 r2 ys (aOut n r1 xs r1) r2) := by show _ = _; rw [hn]; rfl
  clear hn hm
  go_enter Tryz.func106, Tryz.ntmps106
  go_wp2
  have hm := OwnI.made (((w.alloc (.cells #[.int .i64 r1, .slice a1 m1 c1] 31)).alloc (.cells #[.int .i64 r2, .slice a2 m2 c2] 31)).alloc (.cells #[.int .i64 0, .slice none 0 0] 31)) w.heap.size m (by simp; omega) (by unfold maxLen; omega)
  have hx1 := Ext.alloc w (.cells #[.int .i64 r1, .slice a1 m1 c1] 31)
  have hc1 := CarAt.new w w.heap.size rfl r1 a1 m1 c1 31
  obtain ⟨wa, hwa⟩ : ∃ x, x = w.alloc (.cells #[.int .i64 r1, .slice a1 m1 c1] 31) := ⟨_, rfl⟩
  rw [← hwa] at hm hx1 hc1 ⊢
  have hsa : wa.heap.size = w.heap.size + 1 := by rw [hwa]; simp
  clear hwa
  have hx2 := Ext.alloc wa (.cells #[.int .i64 r2, .slice a2 m2 c2] 31)
  have hc2 := CarAt.new wa wa.heap.size rfl r2 a2 m2 c2 31
  obtain ⟨wb, hwb⟩ : ∃ x, x = wa.alloc (.cells #[.int .i64 r2, .slice a2 m2 c2] 31) := ⟨_, rfl⟩
  rw [← hwb] at hm hx2 hc2 ⊢
  have hsb : wb.heap.size = wa.heap.size + 1 := by rw [hwb]; simp
  clear hwb
  have hx3 := Ext.alloc wb (.cells #[.int .i64 0, .slice none 0 0] 31)
  have hc3 := CarAt.new wb wb.heap.size rfl 0 none 0 0 31
  have hf30 := frozen_top wb #[.int .i64 0, .slice none 0 0] 31 wb.heap.size 0 rfl
  have hf31 := frozen_top wb #[.int .i64 0, .slice none 0 0] 31 wb.heap.size 1 rfl
  obtain ⟨wc, hwc⟩ : ∃ x, x = wb.alloc (.cells #[.int .i64 0, .slice none 0 0] 31) := ⟨_, rfl⟩
  rw [← hwc] at hm hx3 hc3 hf30 hf31 ⊢
  have hsc : wc.heap.size = wb.heap.size + 1 := by rw [hwc]; simp
  clear hwc
  have hx4 := Ext.alloc wc (.cells (Array.replicate m (.int .i64 0)) 3)
  obtain ⟨wd, hwd⟩ : ∃ x, x = wc.alloc (.cells (Array.replicate m (.int .i64 0)) 3) := ⟨_, rfl⟩
  rw [← hwd] at hm hx4 ⊢
  have hsd : wd.heap.size = wc.heap.size + 1 := by rw [hwd]; simp
  clear hwd
  have hx5 := Ext.alloc wd (.cells #[.int .i64 n, .slice (some ⟨wc.heap.size, 0, none⟩) m m] 31)
  have hc5 := CarAt.new wd wd.heap.size rfl n (some ⟨wc.heap.size, 0, none⟩) m m 31
  have e1 : w.heap.size + 1 = wa.heap.size := hsa.symm
  have e2 : wa.heap.size + 1 = wb.heap.size := hsb.symm
  have e3 : wb.heap.size + 1 = wc.heap.size := hsc.symm
  have e4 : wc.heap.size + 1 = wd.heap.size := hsd.symm
  have E1 := hidP e1
  have E2 := hidP e2
  have E3 := hidP e3
  have E4 := hidP e4
  clear e1 e2 e3 e4 hsa hsb hsc hsd
  try rw [E1.out]
  try rw [E2.out]
  try rw [E3.out]
  try rw [E4.out]
  obtain ⟨we, hwe⟩ : ∃ x, x = wd.alloc (.cells #[.int .i64 n, .slice (some ⟨wc.heap.size, 0, none⟩) m m] 31) := ⟨_, rfl⟩
  rw [← hwe] at hx5 hc5 ⊢
  have hz0 := E1.out
  have hz1 := E2.out
  have hz2 := E3.out
  have hz3 := E4.out
  obtain ⟨gd, hgd⟩ : ∃ gd, gd = wc.heap.size := ⟨_, rfl⟩
  obtain ⟨b2, hb2⟩ : ∃ b, b = wa.heap.size := ⟨_, rfl⟩
  obtain ⟨b3, hb3⟩ : ∃ b, b = wb.heap.size := ⟨_, rfl⟩
  obtain ⟨b5, hb5⟩ : ∃ b, b = wd.heap.size := ⟨_, rfl⟩
  rw [← hgd] at hm hc5 ⊢
  rw [← hb2] at hc2 ⊢
  rw [← hb3] at hc3 hf30 hf31 ⊢
  rw [← hb5] at hc5 ⊢
  have N1 : Hid (w.heap.size ≠ gd) := by show _ ≠ _; omega
  have N2 : Hid (b2 ≠ gd) := by show _ ≠ _; omega
  have N3 : Hid (b3 ≠ gd) := by show _ ≠ _; omega
  have N5 : Hid (b5 ≠ gd) := by show _ ≠ _; omega
  have G3 : Hid (w.heap.size ≤ b3) := by show _ ≤ _; omega
  have GD : Hid (w.heap.size ≤ gd) := by show _ ≤ _; omega
  have hl3 : b3 < wc.heap.size := World.block_lt_of_cell? wc _ hc3.c0
  have H1 := hidP (hc1.below (((hx2.trans hx3).trans hx4).trans hx5))
  have H2 := hidP (hc2.below ((hx3.trans hx4).trans hx5))
  have H3 := hidP (hc3.below (hx4.trans hx5))
  have F30 : Hid (we.frozen? ⟨b3, 0, none⟩ = false ∧ we.frozen? ⟨b3, 1, none⟩ = false) := by
    have e := (hx4.trans hx5).block b3 hl3
    exact ⟨by rw [World.frozen?_of_block e]; exact hf30, by rw [World.frozen?_of_block e]; exact hf31⟩
  have H5 := hidP hc5
  have HX := hidP ((((hx1.trans hx2).trans hx3).trans hx4).trans hx5)
  have HM : Hid (OneI we we w.heap.size gd m m (aOut n r1 xs 0)) := ⟨by show OwnI _ _ _ _ _ (List.replicate (n * n) 0); rw [← HMm.out]; exact hm.below hx5, ⟨rfl, rfl, rfl, Nat.le_refl _, fun _ _ _ => rfl⟩⟩
  have HL3 : Hid (b3 < we.heap.size) := Nat.lt_of_lt_of_le hl3 (hx4.trans hx5).size
  clear hm hx1 hx2 hx3 hx4 hx5 hc1 hc2 hc3 hc5 hf30 hf31 hl3 hz0 hz1 hz2 hz3 hgd hb2 hb3 hb5 hwe E1 E2 E3 E4 hmk
  go_loopw [7] (fun ii wr => ∃ i : Nat, i ≤ r1 ∧ ii = .int .i64 i ∧ Hid (OneI we wr w.heap.size gd m m (aOut n r1 xs i))) (fun ii _ => r1 - (intOf ii).toNat)
  case atStart => exact ⟨0, Nat.zero_le _, rfl, HM⟩
  case round =>
    clear HM
    obtain ⟨i, hi, rfl, HO⟩ := hrel
    obtain ⟨y0, y1⟩ := H1.out.gb HO.out.gb N1.out
    by_cases hlt : i < r1
    · go_wp2
      go_loopw [8] (fun jj wr => ∃ j : Nat, j ≤ r1 ∧ jj = .int .i64 j ∧ Hid (OneI we wr w.heap.size gd m m (aIn n r1 xs i j (aOut n r1 xs i)))) (fun jj _ => r1 - (intOf jj).toNat)
      case atStart => exact ⟨0, Nat.zero_le _, rfl, HO⟩
      case round =>
        clear HO y0 y1
        obtain ⟨j, hj, rfl, HO⟩ := hrel
        obtain ⟨y0, y1⟩ := H1.out.gb HO.out.gb N1.out
        by_cases hlj : j < r1
        · obtain ⟨⟨ix1, ix2, _, _⟩, ix5⟩ := idxF (i := i) (j := j) hn8 (by omega) (by omega)
          obtain ⟨P, hP⟩ : ∃ P, P = i * n := ⟨_, rfl⟩
          obtain ⟨K, hK⟩ : ∃ K, K = i * n + j := ⟨_, rfl⟩
          have hPI : (i : Int) * (n : Int) = (P : Int) := by rw [hP, Int.natCast_mul]
          rw [hPI] at ix1 ix2
          have hKI : (P : Int) + (j : Int) = (K : Int) := by rw [hK, ← hP]; omega
          rw [hKI] at ix2
          rw [← hK] at ix5
          have HNx : Hid (aIn n r1 xs i (j + 1) (aOut n r1 xs i) = (aIn n r1 xs i j (aOut n r1 xs i)).set K (atM xs r1 i j)) := by show _ = _; rw [hK]; rfl
          have hKm : K < m := by rw [HMm.out]; exact ix5
          have HCl := hidP (fun w' (hx : Ext wr w') => HA1.out w' ((ext_up HX.out HO.out.gb HX.out.size GD.out).trans hx) i j hlt hlj)
          have HF : Hid (∀ w', Ext wr w' → CarAt w' w.heap.size r1 a1 m1 c1 ∧ CarAt w' b5 n (some ⟨gd, 0, none⟩) m m) := fun w' hx => ⟨(H1.out.gb HO.out.gb N1.out).below hx, (H5.out.gb HO.out.gb N5.out).below hx⟩
          have hw1 : IntKind.i64.wrap (P : Int) = (P : Int) := ix1
          have hw2 : IntKind.i64.wrap (K : Int) = (K : Int) := ix2
          have hK0 : (0 : Int) ≤ (K : Int) := by omega
          have hK1 : (K : Int) < (m : Int) := by omega
          clear ix1 ix2 ix5 hP hK
          have hE : Ext wr wr.drew := Ext.drew wr
          go_wp2
          (refine walkR_start (fun w' => Ext wr w') 11 (by kernel_rfl) ?_; simp only [numbered, List.take_succ_cons, List.take_zero, Nat.zero_add, Nat.reduceAdd, List.length_cons, List.length_nil])
          (repeat (first | (refine walkR_still (v := ?_) rfl (by decide +kernel) rfl (fun _ _ _ h => h) hE ?_ ?_; rotate_left; (focus (intro w' hw'; obtain ⟨⟨f0, f1⟩, g0, g1⟩ := HF.out w' hw'; go_simp; all_goals (with_reducible rfl))); simp only [Act.put, List.setIfInBounds_toArray, List.set_cons_zero, List.set_cons_succ]) | (refine walkR_skip rfl (by decide +kernel) rfl (fun _ _ _ h => h) hE ?_; simp only [Act.put, List.setIfInBounds_toArray, List.set_cons_zero, List.set_cons_succ])))
          (refine walkR_only (fun w' => Ext wr w') rfl (by decide +kernel) rfl (fun _ h => h) ?_; intro K hK; go_simp; refine (HCl.out _ hE).mono ?_; rintro e w3 ⟨rfl, hx3⟩; refine hK _ _ (hE.trans hx3) ?_; clear hK K; (try simp only [Act.put, List.setIfInBounds_toArray, List.set_cons_zero, List.set_cons_succ]))
          have HO3 := hidP (HO.out.below (hE.trans hx3))
          obtain ⟨⟨v0, q1⟩, q2⟩ := HO3.out.d.putAt hKm
          (refine walkR_tail (by rfl) (by kernel_rfl) ?_; simp only [List.drop_succ_cons, List.drop_zero])
          have HO4 := hidP (HO3.out.store K (atM xs r1 i j))
          rw [← HNx.out] at HO4
          clear hE hx3
          go_wp2
          go_roundw
          case rel => exact ⟨j + 1, by omega, by go_num, HO4⟩
          case measure => simp [intOf]; omega
        · obtain rfl : r1 = j := by omega
          have HNx : Hid (aOut n r1 xs (i + 1) = aIn n r1 xs i r1 (aOut n r1 xs i)) := rfl
          rw [← HNx.out] at HO
          go_wp2
          go_roundw
          case rel => exact ⟨i + 1, by omega, by go_num, HO⟩
          case measure => simp [intOf]; omega
    · obtain rfl : r1 = i := by omega
      have HS0 : Hid (bOut n r1 r2 ys (aOut n r1 xs r1) 0 = aOut n r1 xs r1) := rfl
      rw [← HS0.out] at HO
      obtain ⟨DA, hDA⟩ : ∃ DA, DA = aOut n r1 xs r1 := ⟨_, rfl⟩
      rw [← hDA] at HSum HO
      clear hDA HS0
      go_wp2
      go_loopw [9] (fun ii wr => ∃ i : Nat, i ≤ r2 ∧ ii = .int .i64 i ∧ Hid (OneI we wr w.heap.size gd m m (bOut n r1 r2 ys DA i))) (fun ii _ => r2 - (intOf ii).toNat)
      case atStart => exact ⟨0, Nat.zero_le _, rfl, HO⟩
      case round =>
        clear HO y0 y1
        obtain ⟨i, hi, rfl, HO⟩ := hrel
        obtain ⟨y0, y1⟩ := H2.out.gb HO.out.gb N2.out
        by_cases hlt : i < r2
        · go_wp2
          go_loopw [10] (fun jj wr => ∃ j : Nat, j ≤ r2 ∧ jj = .int .i64 j ∧ Hid (OneI we wr w.heap.size gd m m (bIn n r1 r2 ys i j (bOut n r1 r2 ys DA i)))) (fun jj _ => r2 - (intOf jj).toNat)
          case atStart => exact ⟨0, Nat.zero_le _, rfl, HO⟩
          case round =>
            clear HO y0 y1
            obtain ⟨j, hj, rfl, HO⟩ := hrel
            obtain ⟨y0, y1⟩ := H2.out.gb HO.out.gb N2.out
            by_cases hlj : j < r2
            · have hn := HN.out
              obtain ⟨⟨ix1, ix2, _, _⟩, ix5⟩ := idxF (i := r1 + i) (j := r1 + j) hn8 (by omega) (by omega)
              obtain ⟨A, hA⟩ : ∃ A, A = r1 + i := ⟨_, rfl⟩
              obtain ⟨P, hP⟩ : ∃ P, P = (r1 + i) * n := ⟨_, rfl⟩
              obtain ⟨Q, hQ⟩ : ∃ Q, Q = (r1 + i) * n + r1 := ⟨_, rfl⟩
              obtain ⟨K, hK⟩ : ∃ K, K = (r1 + i) * n + r1 + j := ⟨_, rfl⟩
              have hAI : (r1 : Int) + (i : Int) = (A : Int) := by rw [hA]; omega
              have hPI : (A : Int) * (n : Int) = (P : Int) := by rw [hP, hA, Int.natCast_mul]
              have hQI : (P : Int) + (r1 : Int) = (Q : Int) := by rw [hQ, ← hP]; omega
              have hKI : (Q : Int) + (j : Int) = (K : Int) := by rw [hK, ← hQ]; omega
              have hKm : K < m := by rw [HMm.out, hK]; omega
              have hQK : Q ≤ K := by rw [hK, hQ]; omega
              have hPQ : P ≤ Q := by rw [hP, hQ]; omega
              have HNx : Hid (bIn n r1 r2 ys i (j + 1) (bOut n r1 r2 ys DA i) = (bIn n r1 r2 ys i j (bOut n r1 r2 ys DA i)).set K (atM ys r2 i j)) := by show _ = _; rw [hK]; rfl
              have HCl := hidP (fun w' (hx : Ext wr w') => HA2.out w' ((ext_up HX.out HO.out.gb HX.out.size GD.out).trans hx) i j hlt hlj)
              have HF : Hid (∀ w', Ext wr w' → CarAt w' w.heap.size r1 a1 m1 c1 ∧ CarAt w' b2 r2 a2 m2 c2 ∧ CarAt w' b5 n (some ⟨gd, 0, none⟩) m m) := fun w' hx => ⟨(H1.out.gb HO.out.gb N1.out).below hx, (H2.out.gb HO.out.gb N2.out).below hx, (H5.out.gb HO.out.gb N5.out).below hx⟩
              have hw0 : IntKind.i64.wrap (A : Int) = (A : Int) := wrap_in (by omega) (by omega)
              have hw1 : IntKind.i64.wrap (P : Int) = (P : Int) := wrap_in (by omega) (by omega)
              have hw2 : IntKind.i64.wrap (Q : Int) = (Q : Int) := wrap_in (by omega) (by omega)
              have hw3 : IntKind.i64.wrap (K : Int) = (K : Int) := wrap_in (by omega) (by omega)
              have hK0 : (0 : Int) ≤ (K : Int) := by omega
              have hK1 : (K : Int) < (m : Int) := by omega
              clear ix1 ix2 ix5 hP hK hA hQ hn hQK hPQ
              have hE : Ext wr wr.drew := Ext.drew wr
              go_wp2
              (refine walkR_start (fun w' => Ext wr w') 17 (by kernel_rfl) ?_; simp only [numbered, List.take_succ_cons, List.take_zero, Nat.zero_add, Nat.reduceAdd, List.length_cons, List.length_nil])
              (repeat (first | (refine walkR_still (v := ?_) rfl (by decide +kernel) rfl (fun _ _ _ h => h) hE ?_ ?_; rotate_left; (focus (intro w' hw'; obtain ⟨⟨f0, f1⟩, ⟨g0, g1⟩, k0, k1⟩ := HF.out w' hw'; go_simp; all_goals (with_reducible rfl))); simp only [Act.put, List.setIfInBounds_toArray, List.set_cons_zero, List.set_cons_succ]) | (refine walkR_skip rfl (by decide +kernel) rfl (fun _ _ _ h => h) hE ?_; simp only [Act.put, List.setIfInBounds_toArray, List.set_cons_zero, List.set_cons_succ])))
              (refine walkR_only (fun w' => Ext wr w') rfl (by decide +kernel) rfl (fun _ h => h) ?_; intro K hK; go_simp; refine (HCl.out _ hE).mono ?_; rintro e w3 ⟨rfl, hx3⟩; refine hK _ _ (hE.trans hx3) ?_; clear hK K; (try simp only [Act.put, List.setIfInBounds_toArray, List.set_cons_zero, List.set_cons_succ]))
              have HO3 := hidP (HO.out.below (hE.trans hx3))
              obtain ⟨⟨v0, q1⟩, q2⟩ := HO3.out.d.putAt hKm
              (refine walkR_tail (by rfl) (by kernel_rfl) ?_; simp only [List.drop_succ_cons, List.drop_zero])
              have HO4 := hidP (HO3.out.store K (atM ys r2 i j))
              rw [← HNx.out] at HO4
              clear hE hx3
              go_wp2
              go_roundw
              case rel => exact ⟨j + 1, by omega, by go_num, HO4⟩
              case measure => simp [intOf]; omega
            · obtain rfl : r2 = j := by omega
              have HNx : Hid (bOut n r1 r2 ys DA (i + 1) = bIn n r1 r2 ys i r2 (bOut n r1 r2 ys DA i)) := rfl
              rw [← HNx.out] at HO
              go_wp2
              go_roundw
              case rel => exact ⟨i + 1, by omega, by go_num, HO⟩
              case measure => simp [intOf]; omega
        · obtain rfl : r2 = i := by omega
          obtain ⟨z0, z1⟩ := H5.out.gb HO.out.gb N5.out
          obtain ⟨t0, t1⟩ := H3.out.gb HO.out.gb N3.out
          have hfz := HO.out.gb.block b3 HL3.out (by simpa using N3.out)
          have u0 : wr.frozen? ⟨b3, 0, none⟩ = false := by rw [World.frozen?_of_block hfz]; exact F30.out.1
          have u1 : wr.frozen? ⟨b3, 1, none⟩ = false := by rw [World.frozen?_of_block hfz]; exact F30.out.2
          have HEnd : Hid (OwnI ((wr.setCell ⟨b3, 0, none⟩ (.int .i64 n)).setCell ⟨b3, 1, none⟩ (.slice (some ⟨gd, 0, none⟩) m m)) w.heap.size (some ⟨gd, 0, none⟩) m m (sumM r1 xs r2 ys) ∧ Ext w ((wr.setCell ⟨b3, 0, none⟩ (.int .i64 n)).setCell ⟨b3, 1, none⟩ (.slice (some ⟨gd, 0, none⟩) m m))) := by
            refine ⟨?_, ?_⟩
            · rw [HSum.out]
              exact (HO.out.d.setFar _ 0 _ (Ne.symm N3.out)).setFar _ 1 _ (Ne.symm N3.out)
            · have h : Ext w wr := ext_up HX.out HO.out.gb HX.out.size GD.out
              exact (h.setNew _ _ G3.out _).setNew _ _ G3.out _
          clear hfz
          go_wp2
          refine bodyPost_ret (v := carV n (some ⟨gd, 0, none⟩) m m) (by simp [results, Tryz.results106, go_sem, t0, t1]) rfl ⟨some ⟨gd, 0, none⟩, rfl, ?_, ?_⟩
          · exact HEnd.out.1
          · exact HEnd.out.2
theorem name_eq_self (k : Nat) (_ : k < 12) : ((nameS.getD k ByteArray.empty).toList == (nameS.getD k ByteArray.empty).toList) = true := by simp
set_option maxHeartbeats 2000000 in
theorem l5Has_any (a : Option Addr) (c : Nat) (k0 : Nat) (hk0 : k0 < 12) (s : ByteArray) (hs : s = nameS.getD k0 ByteArray.empty) (w : World) (h : StrsAt w a 12 nameS) :
    Calls Tryz.prog 104 #[.slice a 12 c, .string s] w fun e w' => e = .returned (.bool true) ∧ w = w' := by
  have HS := hidP h
  have HQ : Hid (((nameS.getD k0 ByteArray.empty).toList == s.toList) = true) := by rw [hs]; exact name_eq_self k0 hk0
  clear h hs
  go_enter Tryz.func104, Tryz.ntmps104
  go_wp2
  go_loop [5] (fun i => ∃ k : Nat, k ≤ 12 ∧ i = .int .i64 k ∧ Hid (∀ j, j < k → ((nameS.getD j ByteArray.empty).toList == s.toList) = false)) (fun i => 12 - (intOf i).toNat)
  case atStart => exact ⟨0, Nat.zero_le _, rfl, fun j h => by omega⟩
  case round =>
    obtain ⟨k, hk, rfl, HJ⟩ := hrel
    by_cases hlt : k < 12
    · obtain ⟨b, o, rfl, q⟩ := HS.out.get k hlt
      obtain ⟨V, hV⟩ : ∃ V, V = nameS.getD k ByteArray.empty := ⟨_, rfl⟩
      rw [← hV] at q
      have HV := hidP hV
      clear hV
      cases hb : (V.toList == s.toList)
      · have HJ' : Hid (∀ j, j < k + 1 → ((nameS.getD j ByteArray.empty).toList == s.toList) = false) := by
          intro j hj
          rcases Nat.lt_succ_iff_lt_or_eq.1 hj with h3 | rfl
          · exact HJ.out j h3
          · rw [← HV.out]; exact hb
        go_wp2
        go_round
        case rel => exact ⟨k + 1, by omega, by go_num, HJ'⟩
        case measure => simp [intOf]; omega
      · go_wp2
        go_ret
        exact ⟨rfl, rfl⟩
    · exfalso
      have h1 := HJ.out k0 (by omega)
      rw [HQ.out] at h1
      cases h1
end Go.Proofs.YtfikkfbnlegflaaGreatDoor

namespace Go.Proofs.YtfikkfbnlegflaaGreatDoor
open Go.RowKit

def smallKs : List (List Nat) := [[0], [1], [2], [4], [5], [7], [11], [0, 0], [0, 1], [0, 4]]
def smallN : List (List UInt8) := [[65, 49], [65, 50], [65, 51], [66, 50], [66, 51], [67, 51], [71, 50], [65, 49, 43, 65, 49], [65, 49, 43, 65, 50], [65, 49, 43, 66, 50]]
def smallS : List ByteArray := smallN.map str
def ksR (ks : List Nat) : Nat → Nat
  | 0 => 0
  | j + 1 => ksR ks j + pRank (ks.getD j 0)
def ksM (ks : List Nat) : Nat → List Int
  | 0 => []
  | j + 1 => sumM (ksR ks j) (ksM ks j) (pRank (ks.getD j 0)) (pMat (ks.getD j 0))
def smallK (t : Nat) : List Nat := smallKs.getD t []
def smallR (t : Nat) : Nat := ksR (smallK t) (smallK t).length
def smallM (t : Nat) : List Int := ksM (smallK t) (smallK t).length
/-- a name that is put together of those of parts -/
structure NameP (s : ByteArray) (ks : List Nat) : Prop where
  sz : s.size + 1 = 3 * ks.length
  pos : 0 < ks.length
  plus : ∀ j, j + 1 < ks.length → (s.data[3 * j + 2]?.getD 0) = 43
  part : ∀ j, j < ks.length → s.extract (3 * j) (3 * j + 2) = nameS.getD (ks.getD j 0) ByteArray.empty
  lt : ∀ j, j < ks.length → ks.getD j 0 < 12
  rk : ∀ j, j ≤ ks.length → ksR ks j ≤ 4
def nameChk (t : Nat) : Bool :=
  decide ((smallS.getD t ByteArray.empty).size + 1 = 3 * (smallK t).length) && decide (0 < (smallK t).length) && ((List.range (smallK t).length).all fun j => (decide (j + 1 = (smallK t).length) || (smallS.getD t ByteArray.empty).data[3 * j + 2]?.getD 0 == 43) &&
    decide (((smallS.getD t ByteArray.empty).extract (3 * j) (3 * j + 2)).data = (nameS.getD ((smallK t).getD j 0) ByteArray.empty).data) && decide ((smallK t).getD j 0 < 12)) && (List.range ((smallK t).length + 1)).all fun j => decide (ksR (smallK t) j ≤ 4)
theorem nameChk_all : ∀ t, t < 10 → nameChk t = true := by decide +kernel
theorem small_name (t : Nat) (ht : t < 10) : NameP (smallS.getD t ByteArray.empty) (smallK t) := by
  have h := nameChk_all t ht
  simp only [nameChk, Bool.and_eq_true, decide_eq_true_eq, List.all_eq_true, List.mem_range, Bool.or_eq_true, beq_iff_eq] at h
  obtain ⟨⟨⟨h1, h2⟩, h3⟩, h4⟩ := h
  refine ⟨h1, h2, fun j hj => ?_, fun j hj => ?_, fun j hj => (h3 j hj).2, fun j hj => h4 j (by omega)⟩
  · rcases (h3 j (by omega)).1.1 with h | h
    · omega
    · exact h
  · have := (h3 j hj).1.2
    cases h5 : (smallS.getD t ByteArray.empty).extract (3 * j) (3 * j + 2)
    cases h6 : nameS.getD ((smallK t).getD j 0) ByteArray.empty
    rw [h5, h6] at this
    rw [ByteArray.mk.injEq]
    exact this

structure CellsAt (w : World) (b : Nat) (v0 v1 : Value) : Prop where
  c0 : w.cell? ⟨b, 0, none⟩ = some v0
  c1 : w.cell? ⟨b, 1, none⟩ = some v1
  f0 : w.frozen? ⟨b, 0, none⟩ = false
  f1 : w.frozen? ⟨b, 1, none⟩ = false
theorem CellsAt.below {w w' : World} {b : Nat} {v0 v1 : Value} (h : CellsAt w b v0 v1) (hx : Ext w w') : CellsAt w' b v0 v1 := by
  have hl : b < w.heap.size := World.block_lt_of_cell? w _ h.c0
  have e := hx.block b hl
  exact ⟨(World.cell?_of_block (w := w) e).trans h.c0, (World.cell?_of_block (w := w) e).trans h.c1, by rw [World.frozen?_of_block e]; exact h.f0, by rw [World.frozen?_of_block e]; exact h.f1⟩
theorem CellsAt.new (w : World) (v0 v1 : Value) (E : TypeId) : CellsAt (w.alloc (.cells #[v0, v1] E)) w.heap.size v0 v1 :=
  ⟨(cell_top _ _ _ _ _ rfl).trans rfl, (cell_top _ _ _ _ _ rfl).trans rfl, frozen_top _ _ _ _ _ rfl, frozen_top _ _ _ _ _ rfl⟩
theorem CellsAt.setFar {w : World} {b b' : Nat} {v0 v1 : Value} (h : CellsAt w b v0 v1) (i : Nat) (v : Value) (_hne : b ≠ b') : CellsAt (w.setCell ⟨b', i, none⟩ v) b v0 v1 := by
  refine ⟨?_, ?_, ?_, ?_⟩
  · rw [World.cell?_setCell_other w _ _ _ (by simp)]; exact h.c0
  · rw [World.cell?_setCell_other w _ _ _ (by simp)]; exact h.c1
  · rw [World.frozen?_setCell]; exact h.f0
  · rw [World.frozen?_setCell]; exact h.f1
theorem CellsAt.put2 {w : World} {b : Nat} {v0 v1 : Value} (h : CellsAt w b v0 v1) (u0 u1 : Value) : CellsAt ((w.setCell ⟨b, 0, none⟩ u0).setCell ⟨b, 1, none⟩ u1) b u0 u1 := by
  refine ⟨?_, ?_, ?_, ?_⟩
  · rw [World.cell?_setCell_other _ _ _ _ (by simp)]; exact World.cell?_setCell_same _ _ _ h.c0
  · exact World.cell?_setCell_same _ _ _ (show (w.setCell ⟨b, 0, none⟩ u0).cell? ⟨b, 1, none⟩ = some v1 by rw [World.cell?_setCell_other _ _ _ _ (by simp)]; exact h.c1)
  · rw [World.frozen?_setCell, World.frozen?_setCell]; exact h.f0
  · rw [World.frozen?_setCell, World.frozen?_setCell]; exact h.f1
/-- what is known ahead of part j -/
structure CaSt (w wr : World) (b0 b2 : Nat) (ks : List Nat) (j : Nat) (g c : Nat) : Prop where
  res : CellsAt wr b0 (.int .i64 0) (.slice none 0 0)
  car : CellsAt wr b2 (.int .i64 (ksR ks j)) (.slice (some ⟨g, 0, none⟩) (ksR ks j * ksR ks j) c)
  o : OwnI wr w.heap.size (some ⟨g, 0, none⟩) (ksR ks j * ksR ks j) c (ksM ks j)
  x : Ext w wr
  n0 : g ≠ b0
  n2 : g ≠ b2
theorem CaSt.below {w wr w' : World} {b0 b2 : Nat} {ks : List Nat} {j g c : Nat} (h : CaSt w wr b0 b2 ks j g c) (hx : Ext wr w') : CaSt w w' b0 b2 ks j g c :=
  ⟨h.res.below hx, h.car.below hx, h.o.below hx, h.x.trans hx, h.n0, h.n2⟩
set_option maxRecDepth 100000 in
set_option maxHeartbeats 4000000 in
theorem sCartanOf_any (s : ByteArray) (ks : List Nat) (hN : NameP s ks) (w : World) :
    Calls Tryz.prog 68 #[.string s] w fun e w' => ∃ a c, e = .returned (.tuple #[carV (ksR ks ks.length) a (ksR ks ks.length * ksR ks ks.length) c, .bool true]) ∧ OwnI w' w.heap.size a (ksR ks ks.length * ksR ks ks.length) c (ksM ks ks.length) ∧ Ext w w' := by
  have HN := hidP hN
  obtain ⟨len, hlen⟩ : ∃ len, len = ks.length := ⟨_, rfl⟩
  have hsz := hN.sz
  have hpos := hN.pos
  have hrk := hN.rk len (by omega)
  obtain ⟨L, hL⟩ : ∃ L, L = s.size := ⟨_, rfl⟩
  rw [← hL, ← hlen] at hsz
  rw [← hlen] at hpos
  have HL : Hid (s.size = L) := hL.symm
  have HLen : Hid (len = ks.length) := hlen
  have hlen4 : len ≤ 4 := by
    have h1 : ∀ j, j ≤ ks.length → j ≤ ksR ks j := by
      intro j
      induction j with
      | zero => intro _; exact Nat.zero_le _
      | succ j ih =>
        intro hj
        have := ih (by omega)
        have := (pRank_pos _ (hN.lt j (by omega))).1
        show j + 1 ≤ ksR ks j + pRank (ks.getD j 0)
        omega
    have := h1 len (by omega)
    omega
  have HRp : Hid (0 < ksR ks len) := by
    show 0 < _
    obtain ⟨m, hm⟩ : ∃ m, len = m + 1 := ⟨len - 1, by omega⟩
    have := (pRank_pos _ (hN.lt m (by omega))).1
    rw [hm]
    show 0 < ksR ks m + pRank (ks.getD m 0)
    omega
  have hsL : s.size = L := hL.symm
  rw [← hlen]
  clear hN hL hlen hrk
  go_enter Tryz.func68, Tryz.ntmps68
  go_wp2
  have h0 := CellsAt.new w (.int .i64 0) (.slice none 0 0) 31
  have hx0 := Ext.alloc w (.cells #[.int .i64 0, .slice none 0 0] 31)
  obtain ⟨wa, hwa⟩ : ∃ x, x = w.alloc (.cells #[.int .i64 0, .slice none 0 0] 31) := ⟨_, rfl⟩
  rw [← hwa] at h0 hx0 ⊢
  have hsa : wa.heap.size = w.heap.size + 1 := by rw [hwa]; simp
  have hm := OwnI.made wa w.heap.size 0 (by omega) (by unfold maxLen; omega)
  rw [show Array.replicate 0 (Value.int .i64 0) = #[] from rfl, show List.replicate 0 (0 : Int) = [] from rfl] at hm
  have hx1 := Ext.alloc wa (.cells #[] 3)
  obtain ⟨wb, hwb⟩ : ∃ x, x = wa.alloc (.cells #[] 3) := ⟨_, rfl⟩
  rw [← hwb] at hm hx1 ⊢
  have hsb : wb.heap.size = wa.heap.size + 1 := by rw [hwb]; simp
  have h2 := CellsAt.new wb (.int .i64 0) (.slice (some ⟨wa.heap.size, 0, none⟩) 0 0) 31
  have hx2 := Ext.alloc wb (.cells #[.int .i64 0, .slice (some ⟨wa.heap.size, 0, none⟩) 0 0] 31)
  have E1 : Hid (w.heap.size + 1 = wa.heap.size) := hsa.symm
  have E2 : Hid (wa.heap.size + 1 = wb.heap.size) := hsb.symm
  clear hwa hwb hsa hsb
  try rw [E1.out]
  try rw [E2.out]
  obtain ⟨wc, hwc⟩ : ∃ x, x = wb.alloc (.cells #[.int .i64 0, .slice (some ⟨wa.heap.size, 0, none⟩) 0 0] 31) := ⟨_, rfl⟩
  rw [← hwc] at h2 hx2 ⊢
  clear hwc
  have HS0 : Hid (CaSt w wc w.heap.size wb.heap.size ks 0 wa.heap.size 0) := ⟨h0.below (hx1.trans hx2), h2, hm.below hx2, (hx0.trans hx1).trans hx2, by have := E1.out; omega, by have := E2.out; omega⟩
  obtain ⟨gA, hgA⟩ : ∃ g, g = wa.heap.size := ⟨_, rfl⟩
  obtain ⟨b2, hb2⟩ : ∃ b, b = wb.heap.size := ⟨_, rfl⟩
  rw [← hgA, ← hb2] at HS0
  try rw [← hgA]
  try rw [← hb2]
  have N02 : Hid (w.heap.size ≠ b2) := by have := E1.out; have := E2.out; show _ ≠ _; omega
  have G2 : Hid (w.heap.size ≤ b2) := by have := E1.out; have := E2.out; show _ ≤ _; omega
  clear h0 h2 hm hx0 hx1 hx2 hgA hb2 E1 E2
  go_loopw [5] (fun ii wr => ∃ (j p g c : Nat), j ≤ len ∧ ii = .int .i64 (p : Nat) ∧ p = 3 * j ∧ Hid (CaSt w wr w.heap.size b2 ks j g c)) (fun ii _ => 12 - (intOf ii).toNat)
  case atStart => exact ⟨0, 0, gA, 0, Nat.zero_le _, rfl, rfl, HS0⟩
  case round =>
    clear HS0
    obtain ⟨j, p, g, c, hj, rfl, hp, HS⟩ := hrel
    have HP := hidP hp
    obtain ⟨y0, y1, y2, y3⟩ := HS.out.car
    by_cases hlt : j < len
    · have hpL : (p : Int) < (L : Int) := by omega
      have hpart := HN.out.part j (by rw [← HLen.out]; exact hlt)
      have hk12 := HN.out.lt j (by rw [← HLen.out]; exact hlt)
      have hrj := HN.out.rk (j + 1) (by rw [← HLen.out]; omega)
      have hrj0 := HN.out.rk j (by rw [← HLen.out]; omega)
      rw [← hp] at hpart
      have HPart := hidP hpart
      obtain ⟨k, hk⟩ : ∃ k, k = ks.getD j 0 := ⟨_, rfl⟩
      have HR1 : Hid (ksR ks (j + 1) = ksR ks j + pRank k) := by show _ = _; rw [hk]; rfl
      have HM1 : Hid (ksM ks (j + 1) = sumM (ksR ks j) (ksM ks j) (pRank k) (pMat k)) := by show _ = _; rw [hk]; rfl
      rw [← hk] at HPart hk12
      have hkr := pRank_pos k hk12
      have hE : Ext wr wr.drew := Ext.drew wr
      have HNm := hidP (fun w' => l5Names_any w')
      have HHas := hidP (fun w' b (h : StrsAt w' (some ⟨b, 0, none⟩) 12 nameS) => l5Has_any (some ⟨b, 0, none⟩) 12 k hk12 (nameS.getD k ByteArray.empty) rfl w' h)
      have HOne := hidP (fun w' => l5One_any k hk12 (nameS.getD k ByteArray.empty) rfl w')
      obtain ⟨Rj, hRj⟩ : ∃ Rj, Rj = ksR ks j := ⟨_, rfl⟩
      obtain ⟨Nm, hNm⟩ : ∃ Nm, Nm = nameS.getD k ByteArray.empty := ⟨_, rfl⟩
      have HRj := hidP hRj
      rw [← hRj] at y0 y1 hrj0 HR1 HM1
      rw [← hNm] at HPart HHas HOne
      have HSum := hidP (fun w' a1 c1 a2 c2 (h1 : IntsAt w' a1 (Rj * Rj) (ksM ks j)) (h2 : IntsAt w' a2 (pRank k * pRank k) (pMat k)) => l5Sum_any Rj (pRank k) a1 a2 c1 c2 (ksM ks j) (pMat k) w' h1 h2 hrj0 hkr.2)
      have hpart' : s.extract p (p + 2) = Nm := HPart.out
      have HKr := hidP hkr
      obtain ⟨Rn, hRn⟩ : ∃ Rn, Rn = Rj + pRank k := ⟨_, rfl⟩
      rw [← hRn] at HSum HR1
      have HRn := hidP hRn
      have hRn4 : (Rn : Int) ≤ 4 := by have := HR1.out; omega
      have hRn0 : 0 < Rn := by omega
      clear hpart hk hRj hNm hkr hRn
      by_cases hlast : j + 1 = len
      · have hpl : (p : Int) + 2 = (L : Int) := by omega
        have hwL : IntKind.i64.wrap (L : Int) = (L : Int) := wrap_in (by omega) (by omega)
        have hple : p ≤ L := by omega
        have hex : s.extract p L = Nm := by rw [← hpart', show p + 2 = L by omega]
        clear hp hpart'
        go_wp2
        (refine walkR_start (fun w' => Ext wr w') 35 (by kernel_rfl) ?_; simp only [numbered, List.take_succ_cons, List.take_zero, Nat.zero_add, Nat.reduceAdd, List.length_cons, List.length_nil])
        (repeat (first | (refine walkR_still (v := ?_) rfl (by decide +kernel) rfl (fun _ _ _ h => h) hE ?_ ?_; rotate_left; (focus (intro w' hw'; skip; go_simp; all_goals (with_reducible rfl))); simp only [Act.put, List.setIfInBounds_toArray, List.set_cons_zero, List.set_cons_succ]) | (refine walkR_skip rfl (by decide +kernel) rfl (fun _ _ _ h => h) hE ?_; simp only [Act.put, List.setIfInBounds_toArray, List.set_cons_zero, List.set_cons_succ])))
        (refine walkR_later ?_; simp only [List.cons_append, List.nil_append])
        (repeat (first | (refine walkR_still (v := ?_) rfl (by decide +kernel) rfl (fun _ _ _ h => h) hE ?_ ?_; rotate_left; (focus (intro w' hw'; skip; go_simp; all_goals (with_reducible rfl))); simp only [Act.put, List.setIfInBounds_toArray, List.set_cons_zero, List.set_cons_succ]) | (refine walkR_skip rfl (by decide +kernel) rfl (fun _ _ _ h => h) hE ?_; simp only [Act.put, List.setIfInBounds_toArray, List.set_cons_zero, List.set_cons_succ])))
        (refine walkR_later ?_; simp only [List.cons_append, List.nil_append]); (refine walkR_later ?_; simp only [List.cons_append, List.nil_append])
        (refine walkR_only (fun w' => Ext wr w') rfl (by decide +kernel) rfl (fun _ h => h) ?_; intro K hK; go_simp; refine (HNm.out _).mono ?_; rintro e w3 ⟨bN, rfl, hsN, hx3⟩; refine hK _ _ (hE.trans hx3) ?_; clear hK K; (try simp only [Act.put, List.setIfInBounds_toArray, List.set_cons_zero, List.set_cons_succ]))
        have hE3 := hE.trans hx3
        (refine walkR_only (fun w' => Ext wr w') rfl (by decide +kernel) rfl (fun _ h => h) ?_; intro K hK; go_simp; refine (HHas.out _ bN hsN).mono ?_; rintro e w4 ⟨rfl, rfl⟩; refine hK _ _ (hE3) ?_; clear hK K; (try simp only [Act.put, List.setIfInBounds_toArray, List.set_cons_zero, List.set_cons_succ]))
        (repeat (first | (refine walkR_still (v := ?_) rfl (by decide +kernel) rfl (fun _ _ _ h => h) hE3 ?_ ?_; rotate_left; (focus (intro w' hw'; skip; go_simp; all_goals (with_reducible rfl))); simp only [Act.put, List.setIfInBounds_toArray, List.set_cons_zero, List.set_cons_succ]) | (refine walkR_skip rfl (by decide +kernel) rfl (fun _ _ _ h => h) hE3 ?_; simp only [Act.put, List.setIfInBounds_toArray, List.set_cons_zero, List.set_cons_succ])))
        (refine walkR_tail (by rfl) (by kernel_rfl) ?_; simp only [List.drop_succ_cons, List.drop_zero])
        have hE4 := hE3.trans (Ext.drew w3)
        have HF : Hid (∀ w', Ext wr w' → w'.cell? ⟨b2, 0, none⟩ = some (.int .i64 Rj) ∧ w'.cell? ⟨b2, 1, none⟩ = some (.slice (some ⟨g, 0, none⟩) (Rj * Rj) c)) := by
          show ∀ w', _
          intro w' hx
          have h := (HS.out.below hx).car
          rw [← HRj.out] at h
          exact ⟨h.c0, h.c1⟩
        clear hx3 hE hsN
        go_wp2
        (refine walkR_start (fun w' => Ext wr w') 8 (by kernel_rfl) ?_; simp only [numbered, List.take_succ_cons, List.take_zero, Nat.zero_add, Nat.reduceAdd, List.length_cons, List.length_nil])
        (repeat (first | (refine walkR_still (v := ?_) rfl (by decide +kernel) rfl (fun _ _ _ h => h) hE4 ?_ ?_; rotate_left; (focus (intro w' hw'; obtain ⟨q0, q1⟩ := HF.out w' hw'; go_simp; all_goals (with_reducible rfl))); simp only [Act.put, List.setIfInBounds_toArray, List.set_cons_zero, List.set_cons_succ]) | (refine walkR_skip rfl (by decide +kernel) rfl (fun _ _ _ h => h) hE4 ?_; simp only [Act.put, List.setIfInBounds_toArray, List.set_cons_zero, List.set_cons_succ])))
        (refine walkR_only (fun w' => Ext wr w') rfl (by decide +kernel) rfl (fun _ h => h) ?_; intro K hK; go_simp; refine (HOne.out _).mono ?_; rintro e w5 ⟨aO, rfl, hoO, hx5⟩; refine hK _ _ (hE4.trans hx5) ?_; clear hK K; (try simp only [Act.put, List.setIfInBounds_toArray, List.set_cons_zero, List.set_cons_succ]))
        have hE5 := hE4.trans hx5
        have HSO := (HS.out.below hE5).o
        rw [← HRj.out] at HSO
        (refine walkR_only (fun w' => Ext wr w') rfl (by decide +kernel) rfl (fun _ h => h) ?_; intro K hK; go_simp; refine (HSum.out _ (some ⟨g, 0, none⟩) c aO (pRank k * pRank k) HSO.ints hoO.ints).mono ?_; rintro e w6 ⟨aS, rfl, hoS, hx6⟩; refine hK _ _ (hE5.trans hx6) ?_; clear hK K; (try simp only [Act.put, List.setIfInBounds_toArray, List.set_cons_zero, List.set_cons_succ]))
        have hE6 := hE5.trans hx6
        have hS6 := HS.out.below hE6
        obtain ⟨z0, z1, z2, z3⟩ := hS6.car
        (refine walkR_tail (by rfl) (by kernel_rfl) ?_; simp only [List.drop_succ_cons, List.drop_zero])
        have hcar := hS6.car.put2 (.int .i64 (Rn : Int)) (.slice aS (Rn * Rn) (Rn * Rn))
        have hpp : 0 < Rn * Rn := Nat.mul_pos hRn0 hRn0
        obtain ⟨gS, rfl, _⟩ := hoS.cell 0 hpp
        have hgS := (hoS.at_base gS 0 rfl).1
        have hb2 : b2 < wr.heap.size := World.block_lt_of_cell? wr _ HS.out.car.c0
        have hb0 : w.heap.size < wr.heap.size := World.block_lt_of_cell? wr _ HS.out.res.c0
        have hsz6 := hE5.size
        have HS7 : Hid (CaSt w ((w6.setCell ⟨b2, 0, none⟩ (.int .i64 (Rn : Int))).setCell ⟨b2, 1, none⟩ (.slice (some ⟨gS, 0, none⟩) (Rn * Rn) (Rn * Rn))) w.heap.size b2 ks (j + 1) gS (Rn * Rn)) := by
          refine ⟨(hS6.res.setFar _ _ N02.out).setFar _ _ N02.out, by rw [HR1.out]; exact hcar, ?_, (hS6.x.setNew _ _ G2.out _).setNew _ _ G2.out _, by omega, by omega⟩
          rw [HR1.out, HM1.out]
          exact ((hoS.base (by omega)).setFar _ _ _ (by omega)).setFar _ _ _ (by omega)
        obtain ⟨c0, c1, c2, c3⟩ := hcar
        clear hpp hgS hb2 hb0 hsz6 hE4 hE5 hE6 hS6 hx5 hx6 hoO hoS HSO
        go_wp2
        clear z0 z1 z2 z3
        go_roundw
        case rel => exact ⟨j + 1, p + 3, gS, Rn * Rn, by omega, by go_num, by have := HP.out; omega, HS7⟩
        case measure => simp [intOf]; omega
      · have hpp := HN.out.plus j (by rw [← HLen.out]; omega)
        obtain ⟨Q, hQ⟩ : ∃ Q, Q = p + 2 := ⟨_, rfl⟩
        rw [← hp] at hpp
        rw [← hQ] at hpp hpart'
        have hpl : (p : Int) + 2 = (Q : Int) := by omega
        have hwQ : IntKind.i64.wrap (Q : Int) = (Q : Int) := wrap_in (by omega) (by omega)
        have hQL : (Q : Int) < (L : Int) := by omega
        have hQL2 : Q < L := by omega
        have hLQ : ¬ (L < Q) := by omega
        have hQLe : Q ≤ L := by omega
        have hple : p ≤ Q := by omega
        obtain ⟨Q3, hQ3⟩ : ∃ Q3, Q3 = p + 3 := ⟨_, rfl⟩
        have hp3 : (p : Int) + 3 = (Q3 : Int) := by omega
        have hw3 : IntKind.i64.wrap (Q3 : Int) = (Q3 : Int) := wrap_in (by omega) (by omega)
        have h3L : ((Q3 : Int) == (L : Int)) = false := by
          have : Q3 < L := by omega
          simp only [beq_eq_false_iff_ne, ne_eq]
          omega
        have hsQ : Q < s.size := by omega
        have hb43 : ((s[Q].toNat : Int) != 43) = false := by
          have h3 : Q < s.data.size := hsQ
          have h4 : s[Q] = 43 := by
            rw [Array.getElem?_eq_getElem h3] at hpp
            exact hpp
          rw [h4]
          rfl
        clear hp hQ hQ3 hpp
        go_wp2
        (refine walkR_start (fun w' => Ext wr w') 35 (by kernel_rfl) ?_; simp only [numbered, List.take_succ_cons, List.take_zero, Nat.zero_add, Nat.reduceAdd, List.length_cons, List.length_nil])
        (repeat (first | (refine walkR_still (v := ?_) rfl (by decide +kernel) rfl (fun _ _ _ h => h) hE ?_ ?_; rotate_left; (focus (intro w' hw'; skip; go_simp; all_goals (with_reducible rfl))); simp only [Act.put, List.setIfInBounds_toArray, List.set_cons_zero, List.set_cons_succ]) | (refine walkR_skip rfl (by decide +kernel) rfl (fun _ _ _ h => h) hE ?_; simp only [Act.put, List.setIfInBounds_toArray, List.set_cons_zero, List.set_cons_succ])))
        (refine walkR_later ?_; simp only [List.cons_append, List.nil_append])
        (repeat (first | (refine walkR_still (v := ?_) rfl (by decide +kernel) rfl (fun _ _ _ h => h) hE ?_ ?_; rotate_left; (focus (intro w' hw'; skip; go_simp; all_goals (with_reducible rfl))); simp only [Act.put, List.setIfInBounds_toArray, List.set_cons_zero, List.set_cons_succ]) | (refine walkR_skip rfl (by decide +kernel) rfl (fun _ _ _ h => h) hE ?_; simp only [Act.put, List.setIfInBounds_toArray, List.set_cons_zero, List.set_cons_succ])))
        (refine walkR_later ?_; simp only [List.cons_append, List.nil_append]); (refine walkR_later ?_; simp only [List.cons_append, List.nil_append])
        (refine walkR_only (fun w' => Ext wr w') rfl (by decide +kernel) rfl (fun _ h => h) ?_; intro K hK; go_simp; refine (HNm.out _).mono ?_; rintro e w3 ⟨bN, rfl, hsN, hx3⟩; refine hK _ _ (hE.trans hx3) ?_; clear hK K; (try simp only [Act.put, List.setIfInBounds_toArray, List.set_cons_zero, List.set_cons_succ]))
        have hE3 := hE.trans hx3
        (refine walkR_only (fun w' => Ext wr w') rfl (by decide +kernel) rfl (fun _ h => h) ?_; intro K hK; go_simp; refine (HHas.out _ bN hsN).mono ?_; rintro e w4 ⟨rfl, rfl⟩; refine hK _ _ (hE3) ?_; clear hK K; (try simp only [Act.put, List.setIfInBounds_toArray, List.set_cons_zero, List.set_cons_succ]))
        (repeat (first | (refine walkR_still (v := ?_) rfl (by decide +kernel) rfl (fun _ _ _ h => h) hE3 ?_ ?_; rotate_left; (focus (intro w' hw'; skip; go_simp; all_goals (with_reducible rfl))); simp only [Act.put, List.setIfInBounds_toArray, List.set_cons_zero, List.set_cons_succ]) | (refine walkR_skip rfl (by decide +kernel) rfl (fun _ _ _ h => h) hE3 ?_; simp only [Act.put, List.setIfInBounds_toArray, List.set_cons_zero, List.set_cons_succ])))
        (refine walkR_tail (by rfl) (by kernel_rfl) ?_; simp only [List.drop_succ_cons, List.drop_zero])
        have hE4 := hE3.trans (Ext.drew w3)
        have HF : Hid (∀ w', Ext wr w' → w'.cell? ⟨b2, 0, none⟩ = some (.int .i64 Rj) ∧ w'.cell? ⟨b2, 1, none⟩ = some (.slice (some ⟨g, 0, none⟩) (Rj * Rj) c)) := by
          show ∀ w', _
          intro w' hx
          have h := (HS.out.below hx).car
          rw [← HRj.out] at h
          exact ⟨h.c0, h.c1⟩
        clear hx3 hE hsN
        go_wp2
        (refine walkR_start (fun w' => Ext wr w') 8 (by kernel_rfl) ?_; simp only [numbered, List.take_succ_cons, List.take_zero, Nat.zero_add, Nat.reduceAdd, List.length_cons, List.length_nil])
        (repeat (first | (refine walkR_still (v := ?_) rfl (by decide +kernel) rfl (fun _ _ _ h => h) hE4 ?_ ?_; rotate_left; (focus (intro w' hw'; obtain ⟨q0, q1⟩ := HF.out w' hw'; go_simp; all_goals (with_reducible rfl))); simp only [Act.put, List.setIfInBounds_toArray, List.set_cons_zero, List.set_cons_succ]) | (refine walkR_skip rfl (by decide +kernel) rfl (fun _ _ _ h => h) hE4 ?_; simp only [Act.put, List.setIfInBounds_toArray, List.set_cons_zero, List.set_cons_succ])))
        (refine walkR_only (fun w' => Ext wr w') rfl (by decide +kernel) rfl (fun _ h => h) ?_; intro K hK; go_simp; refine (HOne.out _).mono ?_; rintro e w5 ⟨aO, rfl, hoO, hx5⟩; refine hK _ _ (hE4.trans hx5) ?_; clear hK K; (try simp only [Act.put, List.setIfInBounds_toArray, List.set_cons_zero, List.set_cons_succ]))
        have hE5 := hE4.trans hx5
        have HSO := (HS.out.below hE5).o
        rw [← HRj.out] at HSO
        (refine walkR_only (fun w' => Ext wr w') rfl (by decide +kernel) rfl (fun _ h => h) ?_; intro K hK; go_simp; refine (HSum.out _ (some ⟨g, 0, none⟩) c aO (pRank k * pRank k) HSO.ints hoO.ints).mono ?_; rintro e w6 ⟨aS, rfl, hoS, hx6⟩; refine hK _ _ (hE5.trans hx6) ?_; clear hK K; (try simp only [Act.put, List.setIfInBounds_toArray, List.set_cons_zero, List.set_cons_succ]))
        have hE6 := hE5.trans hx6
        have hS6 := HS.out.below hE6
        obtain ⟨z0, z1, z2, z3⟩ := hS6.car
        (refine walkR_tail (by rfl) (by kernel_rfl) ?_; simp only [List.drop_succ_cons, List.drop_zero])
        have hcar := hS6.car.put2 (.int .i64 (Rn : Int)) (.slice aS (Rn * Rn) (Rn * Rn))
        have hpp : 0 < Rn * Rn := Nat.mul_pos hRn0 hRn0
        obtain ⟨gS, rfl, _⟩ := hoS.cell 0 hpp
        have hgS := (hoS.at_base gS 0 rfl).1
        have hb2 : b2 < wr.heap.size := World.block_lt_of_cell? wr _ HS.out.car.c0
        have hb0 : w.heap.size < wr.heap.size := World.block_lt_of_cell? wr _ HS.out.res.c0
        have hsz6 := hE5.size
        have HS7 : Hid (CaSt w ((w6.setCell ⟨b2, 0, none⟩ (.int .i64 (Rn : Int))).setCell ⟨b2, 1, none⟩ (.slice (some ⟨gS, 0, none⟩) (Rn * Rn) (Rn * Rn))) w.heap.size b2 ks (j + 1) gS (Rn * Rn)) := by
          refine ⟨(hS6.res.setFar _ _ N02.out).setFar _ _ N02.out, by rw [HR1.out]; exact hcar, ?_, (hS6.x.setNew _ _ G2.out _).setNew _ _ G2.out _, by omega, by omega⟩
          rw [HR1.out, HM1.out]
          exact ((hoS.base (by omega)).setFar _ _ _ (by omega)).setFar _ _ _ (by omega)
        obtain ⟨c0, c1, c2, c3⟩ := hcar
        clear hpp hgS hb2 hb0 hsz6 hE4 hE5 hE6 hS6 hx5 hx6 hoO hoS HSO
        go_wp2
        clear z0 z1 z2 z3
        go_roundw
        case rel => exact ⟨j + 1, p + 3, gS, Rn * Rn, by omega, by go_num, by have := HP.out; omega, HS7⟩
        case measure => simp [intOf]; omega
    · obtain rfl : len = j := by omega
      have hRp := HRp.out
      have hpL : ¬ (p : Int) < (L : Int) := by have := HP.out; omega
      obtain ⟨t0, t1, u0, u1⟩ := HS.out.res
      have HO := hidP HS.out.o
      obtain ⟨Rf, hRf⟩ : ∃ Rf, Rf = ksR ks len := ⟨_, rfl⟩
      rw [← hRf] at y0 y1 HO hRp
      have HEnd : Hid (OwnI ((wr.setCell ⟨w.heap.size, 0, none⟩ (.int .i64 Rf)).setCell ⟨w.heap.size, 1, none⟩ (.slice (some ⟨g, 0, none⟩) (Rf * Rf) c)) w.heap.size (some ⟨g, 0, none⟩) (Rf * Rf) c (ksM ks len) ∧ Ext w ((wr.setCell ⟨w.heap.size, 0, none⟩ (.int .i64 Rf)).setCell ⟨w.heap.size, 1, none⟩ (.slice (some ⟨g, 0, none⟩) (Rf * Rf) c))) := by
        refine ⟨?_, ?_⟩
        · exact (HO.out.setFar _ _ _ HS.out.n0).setFar _ _ _ HS.out.n0
        · exact (HS.out.x.setNew _ _ (Nat.le_refl _) _).setNew _ _ (Nat.le_refl _) _
      have HR0 : Hid (ksR ks len = Rf) := hRf.symm
      have hR0 : ((Rf : Int) == 0) = false := by simp only [beq_eq_false_iff_ne, ne_eq]; omega
      clear hp hRf hRp
      go_wp2
      refine bodyPost_ret (v := .tuple #[carV Rf (some ⟨g, 0, none⟩) (Rf * Rf) c, .bool true]) (by simp [results, Tryz.results68, go_sem, t0, t1]) rfl ⟨some ⟨g, 0, none⟩, c, by rw [HR0.out], ?_, ?_⟩
      · rw [HR0.out]; exact HEnd.out.1
      · exact HEnd.out.2
end Go.Proofs.YtfikkfbnlegflaaGreatDoor

namespace Go.Proofs.YtfikkfbnlegflaaGreatDoor
open Go.RowKit

/-- drawn: the cursor is as it was, but for its own block; all else is new -/
structure DrawSt (w w' : World) (g : Nat) (a : Option Addr) (n c : Nat) : Prop where
  cur : CurAt w' g a n c
  gb : w.grownBy w' (some g)
theorem DrawSt.refl {w : World} {g : Nat} {a : Option Addr} {n c : Nat} (h : CurAt w g a n c) : DrawSt w w g a n c := ⟨h, rfl, rfl, rfl, Nat.le_refl _, fun _ _ _ => rfl⟩
theorem DrawSt.trans {w w1 w2 : World} {g : Nat} {a : Option Addr} {n c : Nat} (h : DrawSt w w1 g a n c) (k : DrawSt w1 w2 g a n c) : DrawSt w w2 g a n c := ⟨k.cur, gb_trans h.gb k.gb⟩
theorem DrawSt.ext {w w1 w2 : World} {g : Nat} {a : Option Addr} {n c : Nat} (h : DrawSt w w1 g a n c) (k : Ext w1 w2) : DrawSt w w2 g a n c := ⟨h.cur.below k, gb_trans h.gb (k.gb _)⟩
theorem DrawSt.bytes {w w' : World} {g : Nat} {a : Option Addr} {n c : Nat} {bs : List Int} (h : DrawSt w w' g a n c) (hb : BytesAt w a n bs) : BytesAt w' a n bs := hb.grown h.gb h.cur.far
theorem DrawSt.own {w w' : World} {g B : Nat} {a a' : Option Addr} {n c n' c' : Nat} {xs : List Int} (h : DrawSt w w' g a n c) (h0 : CurAt w g a n c) (k : OwnI w B a' n' c' xs) : OwnI w' B a' n' c' xs := h0.own k h.gb
theorem CellsAt.gb {w w' : World} {b g : Nat} {v0 v1 : Value} (h : CellsAt w b v0 v1) (hg : w.grownBy w' (some g)) (hne : b ≠ g) : CellsAt w' b v0 v1 := by
  have e := hg.block b (World.block_lt_of_cell? w _ h.c0) (by simpa using hne)
  exact ⟨(World.cell?_of_block (w := w) e).trans h.c0, (World.cell?_of_block (w := w) e).trans h.c1, by rw [World.frozen?_of_block e]; exact h.f0, by rw [World.frozen?_of_block e]; exact h.f1⟩

set_option maxHeartbeats 2000000 in
theorem l1Pick_any (g b : Nat) (a : Option Addr) (n c m cm : Nat) (bs : List Int) (ss : List ByteArray) (w : World) (hc : CurAt w g a n c) (hb : BytesAt w a n bs) (hn : n ≤ 1048576) (hs : StrsAt w (some ⟨b, 0, none⟩) m ss) (hne : b ≠ g) (hm : 0 < m) (hm2 : m ≤ 1000000) :
    Calls Tryz.prog 108 #[.pointer (some ⟨g, 0, none⟩), .slice (some ⟨b, 0, none⟩) m cm] w fun e w' => ∃ t, t < m ∧ e = .returned (.string (ss.getD t ByteArray.empty)) ∧ DrawSt w w' g a n c := by
  have HB := hidP (l1Below_any g (m : Int) a n c bs w hc hb hn (by omega))
  have HS := hidP hs
  clear hc hb hs
  go_enter Tryz.func108, Tryz.ntmps108
  go_wp2_with fail
  refine HB.out.mono ?_
  rintro e w1 ⟨v, hv, rfl, hc1, hg1⟩
  have hvm : v < m := by have := hv.2 (by omega); omega
  obtain ⟨b', o', e', q⟩ := HS.out.get v hvm
  simp only [Option.some.injEq, Addr.mk.injEq, and_true] at e'
  obtain ⟨rfl, rfl⟩ := e'
  have hlt := World.block_lt_of_cell? w _ q
  have q1 : w1.cell? ⟨b, v, none⟩ = some (.string (ss.getD v ByteArray.empty)) := by
    rw [World.cell?_of_block (w := w) (hg1.block b hlt (by simpa using hne))]
    rw [Nat.zero_add] at q
    exact q
  obtain ⟨V, hV⟩ : ∃ V, V = ss.getD v ByteArray.empty := ⟨_, rfl⟩
  rw [← hV] at q1
  have HV := hidP hV
  have HD : Hid (DrawSt w w1 g a n c) := ⟨hc1, hg1⟩
  clear hv q hV hc1 hg1
  go_wp2
  go_ret
  exact ⟨v, hvm, by rw [← HV.out]; rfl, HD.out⟩
set_option maxHeartbeats 2000000 in
theorem l12Small_any (g : Nat) (a : Option Addr) (n c : Nat) (bs : List Int) (w : World) (hc : CurAt w g a n c) (hb : BytesAt w a n bs) (hn : n ≤ 1048576) :
    Calls Tryz.prog 69 #[.pointer (some ⟨g, 0, none⟩)] w fun e w' => ∃ t, t < 10 ∧ e = .returned (.string (smallS.getD t ByteArray.empty)) ∧ DrawSt w w' g a n c := by
  have hx := Ext.alloc w (.cells (svs smallS).toArray 9)
  have hs := strs_alloc w smallS 9
  have HP := hidP (l1Pick_any g w.heap.size a n c 10 10 bs smallS _ (hc.below hx) (hb.below hx) hn hs (by have := hc.lt; omega) (by omega) (by omega))
  have HD : Hid (∀ w', DrawSt (w.alloc (.cells (svs smallS).toArray 9)) w' g a n c → DrawSt w w' g a n c) := fun w' h => ⟨h.cur, gb_trans (hx.gb _) h.gb⟩
  clear hx hs hc hb
  go_enter Tryz.func69, Tryz.ntmps69
  go_wp2_with fail
  refine HP.out.mono ?_
  rintro e w1 ⟨t, ht, rfl, hd⟩
  have HD1 := hidP (HD.out _ hd)
  clear hd
  go_wp2
  go_ret
  exact ⟨t, ht, rfl, HD1.out⟩
end Go.Proofs.YtfikkfbnlegflaaGreatDoor
