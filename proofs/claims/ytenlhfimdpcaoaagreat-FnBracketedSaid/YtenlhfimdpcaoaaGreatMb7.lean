/-
  Lyndon words, no program in sight: joined, cut, factored.
  Sums of words with numbers modulo p, plain: ordered lists of words, shorter ones first; insertion; products put into order. No program in sight.
  Maps from strings that a call makes: what lies at a key is told by a function; stores, lookups, the range over one.
  The text of a list of numbers tells the list: no two lists have one text.
  Counts of words in two maps of a call's own: the words by their text, their numbers by their text; ordered lists of words with numbers.
  The program's counts: two maps of words and numbers, a number added.
  The program's FormatInt and FormatInts, by the library's Itoa and Join.
  The reference's FormatInt and FormatInts.
  The reference's l5Minus: the negative of a lattice element.
  The reference's inner products, coroots, greatest divisors.
  The reference's numbers of lengths.
  The rows that are connected with a row, by the reference.
  The reference's matrices of types of one part.
  The reference's positive roots: the walk. Printed by gen/roots.py.
-/
import Derived.Test.YtenlhfimdpcaoaaGreatMb6
import Derived.Laws.IdiomStrings
import Derived.WalkSmall
import Derived.Lib.AppendIntMem
import Derived.Maps.RangeWalk
import Derived.Maps.OwnOps
namespace Go.Proofs.YtenlhfimdpcaoaaGreat
open Go.RowKit

set_option maxRecDepth 100000 in
set_option maxHeartbeats 8000000 in
theorem l5Roots_own (R : Nat) (ta : Option Addr) (tn tc : Nat) (ts : List Int) (w : World) (hc : IntsAt w ta tn ts) (hT : typeB R ts = true) (FS : List (List Int)) (hF : foundL R ts = some FS) (hl : FS.length ≤ 100) (hS : SmallRows R FS) :
    Calls Tryz.prog 165 #[carV R ta tn tc] w fun e w' => ∃ a c xs, e = .returned (.slice a FS.length c) ∧ HRows w' w.heap.size a FS.length c xs ∧ xs.map rowOf = rootsOf FS ∧ Ext w w' := by
  have hx1 := Ext.alloc w (.cells #[.int .i64 R, .slice ta tn tc] 117)
  have HC := hidP (fun w' (hx : Ext (w.alloc (.cells #[.int .i64 R, .slice ta tn tc] 117)) w') => (CarAt.new w _ rfl (R : Int) ta tn tc 117).below hx)
  have HX1 := hidP hx1
  have hrk := typeB_rank hT
  have HTs := hidP (fun w' (hx : Ext w w') => hc.below hx)
  have HT := hidP hT
  have HSm := hidP hS
  have HF0 := hidP hF
  have hR4 : R ≤ 4 := by omega
  have hR1 : 1 ≤ R := by omega
  clear hc hT hS hF hrk
  obtain ⟨w1, hw1⟩ : ∃ w1, w1 = w.alloc (.cells #[.int .i64 R, .slice ta tn tc] 117) := ⟨_, rfl⟩
  have hs2 : w1.heap.size = w.heap.size + 1 := by rw [hw1]; simp
  have hm := HRows.made0 w1
  have hx2 := Ext.alloc w1 (.cells #[] 24)
  rw [← hw1] at HC HX1
  obtain ⟨g0, hg0⟩ : ∃ g0, g0 = w1.heap.size := ⟨_, rfl⟩
  have hg0' : w.heap.size + 1 = g0 := by omega
  rw [← hg0] at hm
  have hm : HRows (w1.alloc (.cells #[] 24)) w1.heap.size (some ⟨g0, 0, none⟩) 0 0 [] := by rw [← hg0]; exact hm
  have HM := hidP hm
  have HX2 := hidP hx2
  have HW1 := hidP hw1
  have HG0 : Hid (w1.heap.size = g0) := hg0.symm
  clear hm hx2 hs2 hx1 hw1 hg0
  go_enter Tryz.func165, Tryz.ntmps165
  go_wp2
  rw [← HW1.out]
  first | rw [hg0'] | rw [HG0.out] | skip
  clear HW1 hg0' HG0
  obtain ⟨w2, hw2⟩ : ∃ w2, w2 = w1.alloc (.cells #[] 24) := ⟨_, rfl⟩
  rw [← hw2] at HM HX2 ⊢
  clear hw2
  go_loopw [3, 4] (fun fs ii wr => ∃ (i : Nat) (a : Option Addr) (c : Nat) (xs : List HRow), i ≤ R ∧ fs = .slice a i c ∧ ii = .int .i64 i ∧ Hid (HRows wr w1.heap.size a i c xs) ∧ Hid (xs.map rowOf = (List.range i).map (basisL R)) ∧ Hid (Ext w1 wr)) (fun _ ii _ => R - (intOf ii).toNat)
  case atStart => exact ⟨0, _, 0, [], Nat.zero_le _, rfl, rfl, HM, rfl, HX2⟩
  case round =>
    clear HM HX2
    obtain ⟨i, a, c, xs, hi, rfl, rfl, HO, HRw, HX⟩ := hrel
    obtain ⟨y0, y1⟩ := HC.out wr HX.out
    by_cases hlt : i < R
    · have HBas := hidP (fun w' => l2Basis_any R i w' hlt (by omega))
      go_wp2_with fail
      refine (HBas.out _).mono ?_
      rintro e w3 ⟨a1, rfl, ho1, hx1⟩
      have hxa := hx1.trans (Ext.alloc w3 (.cells #[.slice a1 R R] 24))
      have HX3 := hidP (HX.out.trans hxa)
      have HL3 := hidP (HO.out.below hxa)
      have HO3 := hidP ((ho1.below (Ext.alloc w3 (.cells #[.slice a1 R R] 24))).base (B' := w1.heap.size) HX.out.size)
      have HCe : Hid ((w3.alloc (.cells #[.slice a1 R R] 24)).cell? ⟨w3.heap.size, 0, none⟩ = some (.slice a1 R R)) := (cell_top _ _ _ _ _ rfl).trans rfl
      have hz := HX3.out.size
      clear hx1 hxa ho1 y0 y1 HBas
      go_wp2_with (at_builtin; refine wpList_append_row 74 rfl (.tmp 18) (.tmp 23) rfl Tryz.underlying74 w1.heap.size a i c xs rfl HL3.out w3.heap.size 1 a1 R R (basisL R i) rfl HCe.out HO3.out (by omega) hz ?_; intro a4 c4 w4 ho4 hg4 _; have HX4 := hidP (HL3.out.below_grown hg4 HX3.out hz); have HO4 := hidP ho4; clear ho4 hg4)
      have HR4 : Hid ((xs ++ [hrow a1 R (basisL R i)]).map rowOf = (List.range (i + 1)).map (basisL R)) := by
        show _ = _
        rw [List.map_append, HRw.out, List.range_succ, List.map_append]
        rfl
      clear hz
      go_roundw
      case rel => exact ⟨i + 1, a4, c4, _, by omega, by first | rfl | go_num, by go_num, HO4, HR4, HX4⟩
      case measure => simp [intOf]; omega
    · obtain rfl : R = i := by omega
      have HFo : Hid (∃ f, foundGo R ts f 0 0 (xs.map rowOf) = some FS) := ⟨100, by rw [HRw.out]; exact HF0.out⟩
      go_wp2
      clear y0 y1
      go_loopw [3, 5] (fun fs kk wr => ∃ (k n : Nat) (a : Option Addr) (c : Nat) (xs : List HRow), k ≤ n ∧ fs = .slice a n c ∧ kk = .int .i64 k ∧ n ≤ FS.length ∧ Hid (HRows wr w1.heap.size a n c xs) ∧ Hid (∃ f, foundGo R ts f k 0 (xs.map rowOf) = some FS) ∧ Hid (Ext w1 wr)) (fun _ kk _ => FS.length - (intOf kk).toNat)
      case atStart =>
        refine ⟨0, R, a, c, xs, Nat.zero_le _, rfl, rfl, ?_, HO, HFo, HX⟩
        obtain ⟨f, hf⟩ := HFo.out
        obtain ⟨t, ht⟩ := foundGo_pre _ _ _ _ _ _ _ hf
        rw [ht, List.length_append, List.length_map, HO.out.len]
        omega
      case round =>
        clear HO HRw HX HFo
        obtain ⟨k, n, a, c, xs, hkn, rfl, rfl, hnF, HO, HFo, HX⟩ := hrel
        by_cases hlt : k < n
        · go_wp2
          go_loopw [3, 6] (fun fs ii wr => ∃ (i n : Nat) (a : Option Addr) (c : Nat) (xs : List HRow), i ≤ R ∧ k < n ∧ fs = .slice a n c ∧ ii = .int .i64 i ∧ n ≤ FS.length ∧ Hid (HRows wr w1.heap.size a n c xs) ∧ Hid (∃ f, foundGo R ts f k i (xs.map rowOf) = some FS) ∧ Hid (Ext w1 wr)) (fun _ ii _ => R - (intOf ii).toNat)
          case atStart => exact ⟨0, n, a, c, xs, Nat.zero_le _, hlt, rfl, rfl, hnF, HO, HFo, HX⟩
          case round =>
            clear HO HFo HX
            obtain ⟨i, n, a, c, xs, hi, hkn, rfl, rfl, hnF, HO, HFo, HX⟩ := hrel
            obtain ⟨y0, y1⟩ := HC.out wr HX.out
            by_cases hli : i < R
            · obtain ⟨g, ai, ci, rfl, _, hci, hoi⟩ := HO.out.at_ k hkn
              have hV : rowOf (xs.getD k hdrK.dft) = (xs.map rowOf).getD k [] := (rowOf_get _ _).symm
              rw [hV] at hci hoi
              obtain ⟨V, hVe⟩ : ∃ V, V = (xs.map rowOf).getD k [] := ⟨_, rfl⟩
              rw [← hVe] at hci hoi
              have hVF : V = FS.getD k [] := by
                obtain ⟨f, hf⟩ := HFo.out
                obtain ⟨t, ht⟩ := foundGo_pre _ _ _ _ _ _ _ hf
                have hll : k < (xs.map rowOf).length := by rw [List.length_map, HO.out.len]; exact hkn
                rw [ht, hVe]
                simp [List.getD_eq_getElem?_getD, List.getElem?_append_left hll]
              have hsm := HSm.out.get (show k < FS.length by omega)
              rw [← hVF] at hsm
              rw [hsm.1] at hci hoi
              have HVe := hidP hVe
              have HSim := hidP (fun w' (hx : Ext wr w') => l5Simple_any R ta tn tc ts i hli ai R ci V w' (HTs.out w' (HX1.out.trans (HX.out.trans hx))) HT.out ((hoi.below hx).ints) hsm.1 hoi.nil_cap (fun j hj => by have := hsm.2 j hj; omega))
              have HQ : Hid (∀ w', Ext wr w' → w'.cell? ⟨g, k, none⟩ = some (.slice ai R ci)) := fun w' hx => (hx.cell (p := ⟨g, k, none⟩) (World.block_lt_of_cell? wr _ hci)).trans hci
              obtain ⟨X, hX⟩ : ∃ X, X = simL R ts i V := ⟨_, rfl⟩
              rw [← hX] at HSim
              have HXl : Hid (X.length = R) := by show _ = _; rw [hX, simL_length]; exact hsm.1
              have HStep : Hid (∃ f, foundGo R ts f k (i + 1) (if posL X && !(xs.map rowOf).contains X then xs.map rowOf ++ [X] else xs.map rowOf) = some FS) := by
                obtain ⟨f, hf⟩ := HFo.out
                obtain ⟨f', hf'⟩ := foundGo_step hf (by rw [List.length_map, HO.out.len]; exact hkn) hli
                rw [← HVe.out, ← hX] at hf'
                exact ⟨f', hf'⟩
              have hk0 : (0 : Int) ≤ (k : Int) := by omega
              have hk1 : (k : Int) < (n : Int) := by omega
              clear hci hoi hV hVe hVF hsm hX HFo
              have hE : Ext wr wr.drew := Ext.drew wr
              go_wp2
              (refine walkR_start (fun w' => Ext wr w') 7 (by kernel_rfl) ?_; simp only [numbered, List.take_succ_cons, List.take_zero, Nat.zero_add, Nat.reduceAdd, List.length_cons, List.length_nil])
              (repeat (first | (refine walkR_still (v := ?_) rfl (by decide +kernel) rfl (fun _ _ _ h => h) hE ?_ ?_; rotate_left; (focus (intro w' hw'; obtain ⟨f0, f1⟩ := HC.out w' (HX.out.trans hw'); have q1 := HQ.out w' hw'; go_simp; all_goals (with_reducible rfl))); simp only [Act.put, List.setIfInBounds_toArray, List.set_cons_zero, List.set_cons_succ]) | (refine walkR_skip rfl (by decide +kernel) rfl (fun _ _ _ h => h) hE ?_; simp only [Act.put, List.setIfInBounds_toArray, List.set_cons_zero, List.set_cons_succ])))
              (refine walkR_only (fun w' => Ext wr w') rfl (by decide +kernel) rfl (fun _ h => h) ?_; intro K hK; go_simp; refine (HSim.out _ hE).mono ?_; rintro e w3 ⟨a3, c3, rfl, ho3, hx3⟩; refine hK _ _ (hE.trans hx3) ?_; clear hK K; (try simp only [Act.put, List.setIfInBounds_toArray, List.set_cons_zero, List.set_cons_succ]))
              (refine walkR_tail (by rfl) (by kernel_rfl) ?_; simp only [List.drop_succ_cons, List.drop_zero])
              have hE3 := hE.trans hx3
              have HX3 := hidP (HX.out.trans hE3)
              have HO3 := hidP (HO.out.below hE3)
              have HI3 := hidP (ho3.base (B' := w1.heap.size) (by have := HX.out.size; have := hE.size; omega))
              clear ho3 hx3 hE hE3 y0 y1 HSim HQ
              have HPo := hidP (fun w' (hx : Ext w3 w') => l5Positive_any a3 R c3 X w' ((HI3.out.below hx).ints) (by omega))
              have HPl := hidP (fun w' (hx : Ext w3 w') => l5Place_any (some ⟨g, 0, none⟩) n c (xs.map rowOf) a3 R c3 X w' ((HO3.out.below hx).rowsI) ((HI3.out.below hx).ints) (by omega) (by omega) (fun j hj => by
                rw [rowOf_get]
                obtain ⟨g', ai', ci', _, _, _, h5⟩ := HO3.out.at_ j hj
                have h6 : rowOf (xs.getD j hdrK.dft) = FS.getD j [] := by
                  obtain ⟨f, hf⟩ := HStep.out
                  obtain ⟨t, ht⟩ := foundGo_pre _ _ _ _ _ _ _ hf
                  have hll : j < (xs.map rowOf).length := by rw [List.length_map, HO3.out.len]; exact hj
                  rw [← rowOf_get, ht]
                  split
                  · rw [List.append_assoc]
                    simp [List.getD_eq_getElem?_getD, List.getElem?_append_left hll]
                  · simp [List.getD_eq_getElem?_getD, List.getElem?_append_left hll]
                rw [h6, (HSm.out.get (show j < FS.length by omega)).1]
                omega))
              cases hp : posL X
              · rw [hp] at HPo
                have HSt2 : Hid (∃ f, foundGo R ts f k (i + 1) (xs.map rowOf) = some FS) := by
                  show ∃ f, foundGo R ts f k (i + 1) (xs.map rowOf) = some FS
                  have := HStep.out
                  rw [hp] at this
                  simpa using this
                clear hp HStep HPl
                go_wp2_with fail
                refine (HPo.out _ (Ext.refl _)).mono ?_
                rintro e w4 ⟨rfl, rfl⟩
                go_wp2
                go_roundw
                case rel => exact ⟨i + 1, n, _, c, xs, by omega, hkn, rfl, by go_num, hnF, HO3, HSt2, HX3⟩
                case measure => simp [intOf]; omega
              · rw [hp] at HPo
                cases hq : (xs.map rowOf).contains X
                · have HSt2 : Hid (∃ f, foundGo R ts f k (i + 1) (xs.map rowOf ++ [X]) = some FS) := by
                    show ∃ f, foundGo R ts f k (i + 1) (xs.map rowOf ++ [X]) = some FS
                    have := HStep.out
                    rw [hp, hq] at this
                    simpa using this
                  rw [hq] at HPl
                  have hnF2 : n + 1 ≤ FS.length := by
                    obtain ⟨f, hf⟩ := HSt2.out
                    obtain ⟨t, ht⟩ := foundGo_pre _ _ _ _ _ _ _ hf
                    rw [ht]
                    simp only [List.length_append, List.length_map, List.length_singleton, HO3.out.len]
                    omega
                  clear hp hq HStep
                  go_wp2_with fail
                  refine (HPo.out _ (Ext.refl _)).mono ?_
                  rintro e w4 ⟨rfl, rfl⟩
                  go_wp2_with fail
                  refine (HPl.out _ (Ext.refl _)).mono ?_
                  rintro e w5 ⟨v, rfl, hv, hx5⟩
                  rw [Bool.not_false] at hv
                  have hv' : v < 0 := of_decide_eq_true hv
                  have hxa := hx5.trans (Ext.alloc w5 (.cells #[.slice a3 R c3] 24))
                  have HX5 := hidP (HX3.out.trans hxa)
                  have HL5 := hidP (HO3.out.below hxa)
                  have HI5 := hidP (HI3.out.below hxa)
                  have HCe : Hid ((w5.alloc (.cells #[.slice a3 R c3] 24)).cell? ⟨w5.heap.size, 0, none⟩ = some (.slice a3 R c3)) := (cell_top _ _ _ _ _ rfl).trans rfl
                  have hz := HX5.out.size
                  clear hx5 hxa hv HPo HPl
                  go_wp2_with (at_builtin; refine wpList_append_row 74 rfl (.tmp 52) (.tmp 54) rfl Tryz.underlying74 w1.heap.size (some ⟨g, 0, none⟩) n c xs rfl HL5.out w5.heap.size 1 a3 R c3 X rfl HCe.out HI5.out (by omega) hz ?_; intro a6 c6 w6 ho6 hg6 _; have HX6 := hidP (HL5.out.below_grown hg6 HX5.out hz); have HO6 := hidP ho6; clear ho6 hg6)
                  have HSt3 : Hid (∃ f, foundGo R ts f k (i + 1) ((xs ++ [hrow a3 c3 X]).map rowOf) = some FS) := by
                    obtain ⟨f, hf⟩ := HSt2.out
                    refine ⟨f, ?_⟩
                    rw [List.map_append]
                    exact hf
                  clear hz hv'
                  go_roundw
                  case rel => exact ⟨i + 1, n + 1, a6, c6, _, by omega, by omega, by first | rfl | go_num, by go_num, hnF2, HO6, HSt3, HX6⟩
                  case measure => simp [intOf]; omega
                · have HSt2 : Hid (∃ f, foundGo R ts f k (i + 1) (xs.map rowOf) = some FS) := by
                    show ∃ f, foundGo R ts f k (i + 1) (xs.map rowOf) = some FS
                    have := HStep.out
                    rw [hp, hq] at this
                    simpa using this
                  rw [hq] at HPl
                  clear hp hq HStep
                  go_wp2_with fail
                  refine (HPo.out _ (Ext.refl _)).mono ?_
                  rintro e w4 ⟨rfl, rfl⟩
                  go_wp2_with fail
                  refine (HPl.out _ (Ext.refl _)).mono ?_
                  rintro e w5 ⟨v, rfl, hv, hx5⟩
                  rw [Bool.not_true] at hv
                  have hv' : ¬ v < 0 := of_decide_eq_false hv
                  have HX5 := hidP (HX3.out.trans hx5)
                  have HL5 := hidP (HO3.out.below hx5)
                  clear hx5 hv
                  go_wp2
                  go_roundw
                  case rel => exact ⟨i + 1, n, _, c, xs, by omega, hkn, rfl, by go_num, hnF, HL5, HSt2, HX5⟩
                  case measure => simp [intOf]; omega
            · obtain rfl : R = i := by omega
              have HFn : Hid (∃ f, foundGo R ts f (k + 1) 0 (xs.map rowOf) = some FS) := by
                obtain ⟨f, hf⟩ := HFo.out
                exact foundGo_next hf (by rw [List.length_map, HO.out.len]; exact hkn)
              go_wp2
              go_roundw
              case rel => exact ⟨k + 1, n, a, c, xs, by omega, rfl, by go_num, hnF, HO, HFn, HX⟩
              case measure => simp [intOf]; omega
        · obtain rfl : n = k := by omega
          have HXF : Hid (xs.map rowOf = FS) := by
            obtain ⟨f, hf⟩ := HFo.out
            exact (foundGo_end hf (by rw [List.length_map, HO.out.len]; omega)).symm
          have hn : n = FS.length := by rw [← HXF.out, List.length_map, HO.out.len]
          subst hn
          clear HFo hkn hnF
          have hne : 0 < FS.length := by
            rcases Nat.eq_zero_or_pos FS.length with h0 | h0
            · exfalso
              have h1 := HF0.out
              obtain ⟨t, ht⟩ := foundGo_pre _ _ _ _ _ _ _ h1
              rw [ht] at h0
              simp at h0
              omega
            · exact h0
          obtain ⟨gF, _, _, rfl, _⟩ := HO.out.at_ 0 hne
          go_wp2
          obtain ⟨w3', hw3⟩ : ∃ x, x = wr.alloc (.cells #[] 24) := ⟨_, rfl⟩
          have hm3 : HRows w3' w1.heap.size (some ⟨wr.heap.size, 0, none⟩) 0 0 [] := by rw [hw3]; exact (HRows.made0 wr).base HX.out.size
          have hx3 : Ext wr w3' := by rw [hw3]; exact Ext.alloc _ _
          rw [← hw3]
          have HM := hidP hm3
          have HF := hidP (HO.out.below hx3)
          have HX3 := hidP (HX.out.trans hx3)
          obtain ⟨gS0, hgS0⟩ : ∃ gS0, gS0 = wr.heap.size := ⟨_, rfl⟩
          rw [← hgS0] at HM ⊢
          clear hw3 hm3 hx3 HO HX hgS0
          go_loopw [8, 9] (fun os kk wr => ∃ (k : Nat) (gS : Nat) (cS : Nat) (ys : List HRow), k ≤ FS.length ∧ os = .slice (some ⟨gS, 0, none⟩) k cS ∧ kk = .int .i64 k ∧ Hid (HRows wr w1.heap.size (some ⟨gS, 0, none⟩) k cS ys) ∧ Hid (ys.map rowOf = insTo FS k) ∧ Hid (Ext w3' wr)) (fun _ kk _ => FS.length - (intOf kk).toNat)
          case atStart => exact ⟨0, gS0, 0, [], Nat.zero_le _, rfl, rfl, HM, rfl, Ext.refl _⟩
          case round =>
            clear HM
            obtain ⟨k, gS, cS, ys, hkF, rfl, rfl, HS, HYS, HX0⟩ := hrel
            by_cases hlt : k < FS.length
            · obtain ⟨ws, hws⟩ : ∃ x, x = wr := ⟨_, rfl⟩
              rw [← hws] at HS HX0 ⊢
              have HXs : Hid (Ext w3' ws) := HX0
              have HXs1 := hidP (HX3.out.trans HXs.out)
              have HFs := HF
              clear HF
              have HF := hidP (HFs.out.below HXs.out)
              clear hws HX0
              go_wp2
              go_loopw [10] (fun mm wr => ∃ m : Nat, m ≤ k ∧ mm = .int .i64 m ∧ Hid (atR (FS.getD k []) (insTo FS k) k = atR (FS.getD k []) (insTo FS k) m) ∧ Hid (Ext ws wr)) (fun mm _ => (intOf mm).toNat)
              case atStart => exact ⟨k, Nat.le_refl _, rfl, rfl, Ext.refl _⟩
              case round =>
                obtain ⟨m, hmk, rfl, HAm, HXm⟩ := hrel
                by_cases hm0 : 0 < m
                · obtain ⟨m', rfl⟩ : ∃ m', m = m' + 1 := ⟨m - 1, by omega⟩
                  obtain ⟨gf, af, cf, eF, _, hcF, hoF⟩ := (HF.out.below HXm.out).at_ k (by omega)
                  simp only [Option.some.injEq, Addr.mk.injEq, and_true] at eF
                  subst eF
                  have hV1 : rowOf (xs.getD k hdrK.dft) = FS.getD k [] := by rw [← rowOf_get, HXF.out]
                  have hsm1 := HSm.out.get hlt
                  rw [hV1, hsm1.1] at hcF hoF
                  obtain ⟨gs, aS, cs, eS, _, hcS, hoS⟩ := (HS.out.below HXm.out).at_ m' (by omega)
                  simp only [Option.some.injEq, Addr.mk.injEq, and_true] at eS
                  subst eS
                  have hV2 : rowOf (ys.getD m' hdrK.dft) = (insTo FS k).getD m' [] := by rw [← rowOf_get, HYS.out]
                  have hmem : (insTo FS k).getD m' [] ∈ FS := by
                    refine insTo_mem FS k (by omega) _ ?_
                    rw [List.getD_eq_getElem?_getD, List.getElem?_eq_getElem (by rw [insTo_length _ _ (by omega)]; omega)]
                    exact List.getElem_mem _
                  have hsm2 := HSm.out _ hmem
                  rw [hV2, hsm2.1] at hcS hoS
                  have HLs := hidP (fun w' (hx : Ext wr w') => l5Less_any af aS R cf cs (FS.getD k []) ((insTo FS k).getD m' []) w' ((hoF.below hx).ints) ((hoS.below hx).ints) (by omega) (fun j hj => by have := hsm1.2 j hj; omega) (fun j hj => by have := hsm2.2 j hj; omega))
                  have HQ : Hid (∀ w', Ext wr w' → w'.cell? ⟨gF, k, none⟩ = some (.slice af R cf) ∧ w'.cell? ⟨gS, m', none⟩ = some (.slice aS R cs)) := fun w' hx =>
                    ⟨(hx.cell (p := ⟨gF, k, none⟩) (World.block_lt_of_cell? wr _ hcF)).trans hcF, (hx.cell (p := ⟨gS, m', none⟩) (World.block_lt_of_cell? wr _ hcS)).trans hcS⟩
                  have hm1 : (0 : Int) < ((m' + 1 : Nat) : Int) := by omega
                  have hm2 : (m' : Int) < (k : Int) := by omega
                  have hm3 : ((m' + 1 : Nat) : Int) - 1 = (m' : Int) := by omega
                  have hm4 : (0 : Int) ≤ (m' : Int) := by omega
                  have hwm : IntKind.i64.wrap (m' : Int) = (m' : Int) := wrap_in (by omega) (by omega)
                  have hk0 : (0 : Int) ≤ (k : Int) := by omega
                  have hk1 : (k : Int) < (FS.length : Int) := by omega
                  clear hcF hoF hcS hoS hV1 hV2 hmem hsm1 hsm2 hm0
                  have hE : Ext wr wr.drew := Ext.drew wr
                  cases hls : lessL (FS.getD k []) ((insTo FS k).getD m' [])
                  · rw [hls] at HLs
                    have HAt : Hid (atR (FS.getD k []) (insTo FS k) k = m' + 1) := by
                      show _ = _
                      rw [HAm.out, atR, if_neg (by rw [hls]; simp)]
                    clear hls HAm
                    go_wp2
                    (refine walkR_start (fun w' => Ext wr w') 13 (by kernel_rfl) ?_; simp only [numbered, List.take_succ_cons, List.take_zero, Nat.zero_add, Nat.reduceAdd, List.length_cons, List.length_nil])
                    (repeat (first | (refine walkR_still (v := ?_) rfl (by decide +kernel) rfl (fun _ _ _ h => h) hE ?_ ?_; rotate_left; (focus (intro w' hw'; obtain ⟨q1, q2⟩ := HQ.out w' hw'; go_simp; all_goals (with_reducible rfl))); simp only [Act.put, List.setIfInBounds_toArray, List.set_cons_zero, List.set_cons_succ]) | (refine walkR_skip rfl (by decide +kernel) rfl (fun _ _ _ h => h) hE ?_; simp only [Act.put, List.setIfInBounds_toArray, List.set_cons_zero, List.set_cons_succ])))
                    (refine walkR_only (fun w' => Ext wr w') rfl (by decide +kernel) rfl (fun _ h => h) ?_; intro K hK; go_simp; refine (HLs.out _ hE).mono ?_; rintro e w4 ⟨rfl, hx4⟩; refine hK _ _ (hE.trans hx4) ?_; clear hK K; (try simp only [Act.put, List.setIfInBounds_toArray, List.set_cons_zero, List.set_cons_succ]))
                    (refine walkR_tail (by rfl) (by kernel_rfl) ?_; simp only [List.drop_succ_cons, List.drop_zero])
                    have HXm' := hidP (HXm.out.trans (hE.trans hx4))
                    clear hE hx4 HQ HLs HXm
                    have HXm := HXm'
                    clear HXm'
                    go_wp2
                    obtain ⟨m, hmm⟩ : ∃ m, m = m' + 1 := ⟨_, rfl⟩
                    have hmi : ((m' : Int) + 1) = (m : Int) := by omega
                    first | rw [hmi] | skip
                    rw [← hmm] at HAt hmk
                    clear hm1 hm2 hm3 hm4 hk0 hk1 hmi hmm
                    obtain ⟨wq, hwq⟩ : ∃ wq : World, wq = w4 := ⟨_, rfl⟩
                    rw [← hwq] at HXm ⊢
                    clear hwq
                    have HSq := hidP (HS.out.below HXm.out)
                    have HFq := hidP (HF.out.below HXm.out)
                    obtain ⟨gf, af, cf, eF, _, hcF, hoF⟩ := HFq.out.at_ k (by omega)
                    simp only [Option.some.injEq, Addr.mk.injEq, and_true] at eF
                    subst eF
                    have HV1 : Hid (rowOf (xs.getD k hdrK.dft) = FS.getD k []) := by
                      show _ = _
                      rw [← rowOf_get, HXF.out]
                    rw [HV1.out] at hcF hoF
                    have HVl := hidP ((HSm.out.get (show k < FS.length by omega)).1)
                    rw [HVl.out] at hcF hoF
                    have HCF : Hid (∀ w', Ext wq w' → w'.cell? ⟨gF, k, none⟩ = some (.slice af R cf)) := fun w' hx => (hx.cell (p := ⟨gF, k, none⟩) (World.block_lt_of_cell? wq _ hcF)).trans hcF
                    have HOF : Hid (∀ w', Ext wq w' → OwnI w' w1.heap.size af R cf (FS.getD k [])) := fun w' hx => hoF.below hx
                    clear hcF hoF
                    have hgS := HSq.out.base_ge
                    have HGS : Hid (w1.heap.size ≤ gS) := hgS.1
                    have hkc : k ≤ cS := by
                      rcases HSq.out.own.form with ⟨e, _⟩ | ⟨_, _, _, _, _, _, h1, _⟩
                      · cases e
                      · exact h1
                    have hsz1 := ((HXs1.out).trans HXm.out).size
                    have HSZ : Hid (w1.heap.size ≤ wq.heap.size) := hsz1
                    have hE : Ext wq wq.drew := Ext.drew wq
                    have hm0 : (0 : Int) ≤ (m : Int) := by omega
                    have hm1 : (m : Int) ≤ (k : Int) := by omega
                    have hm2 : (m : Int) ≤ (cS : Int) := by omega
                    have hm3 : (k : Int) ≤ (cS : Int) := by omega
                    have hk0 : (0 : Int) ≤ (k : Int) := by omega
                    have hkF : (k : Int) < (FS.length : Int) := by omega
                    have hkn : (k : Int) - m = ((k - m : Nat) : Int) := by omega
                    have hkd : (cS : Int) - m = ((cS - m : Nat) : Int) := by omega
                    have HNew : Hid (∀ zs : List HRow, zs = ys.take m ++ [hrow af cf (FS.getD k [])] ++ ys.drop m → zs.map rowOf = insTo FS (k + 1)) := by
                      show ∀ zs : List HRow, _
                      rintro zs rfl
                      rw [insTo_succ (by omega), insR, insTo_length _ _ (by omega), HAt.out, ← HYS.out]
                      simp [rowOf, hrow, List.map_take, List.map_drop]
                    clear hgS hsz1
                    (refine walkR_start (fun w' => Ext wq w') 14 (by kernel_rfl) ?_; simp only [numbered, List.take_succ_cons, List.take_zero, Nat.zero_add, Nat.reduceAdd, List.length_cons, List.length_nil])
                    (refine walkR_later ?_; simp only [List.cons_append, List.nil_append])
                    (repeat (first | (refine walkR_still (v := ?_) rfl (by decide +kernel) rfl (fun _ _ _ h => h) hE ?_ ?_; rotate_left; (focus (intro w' hw'; skip; go_simp; all_goals (with_reducible rfl))); simp only [Act.put, List.setIfInBounds_toArray, List.set_cons_zero, List.set_cons_succ]) | (refine walkR_skip rfl (by decide +kernel) rfl (fun _ _ _ h => h) hE ?_; simp only [Act.put, List.setIfInBounds_toArray, List.set_cons_zero, List.set_cons_succ])))
                    (refine walkR_later ?_; simp only [List.cons_append, List.nil_append])
                    (repeat (first | (refine walkR_still (v := ?_) rfl (by decide +kernel) rfl (fun _ _ _ h => h) hE ?_ ?_; rotate_left; (focus (intro w' hw'; have q1 := HCF.out w' hw'; go_simp; all_goals (with_reducible rfl))); simp only [Act.put, List.setIfInBounds_toArray, List.set_cons_zero, List.set_cons_succ]) | (refine walkR_skip rfl (by decide +kernel) rfl (fun _ _ _ h => h) hE ?_; simp only [Act.put, List.setIfInBounds_toArray, List.set_cons_zero, List.set_cons_succ])))
                    (refine walkR_later ?_; simp only [List.cons_append, List.nil_append])
                    (refine walkR_later ?_; simp only [List.cons_append, List.nil_append])
                    (repeat (first | (refine walkR_still (v := ?_) rfl (by decide +kernel) rfl (fun _ _ _ h => h) hE ?_ ?_; rotate_left; (focus (intro w' hw'; skip; go_simp; all_goals (with_reducible rfl))); simp only [Act.put, List.setIfInBounds_toArray, List.set_cons_zero, List.set_cons_succ]) | (refine walkR_skip rfl (by decide +kernel) rfl (fun _ _ _ h => h) hE ?_; simp only [Act.put, List.setIfInBounds_toArray, List.set_cons_zero, List.set_cons_succ])))
                    refine walkR_three (fun v w' => ∃ g, v = .slice (some ⟨g, 0, none⟩) 0 0 ∧ wq.heap.size ≤ g ∧ HRows w' wq.heap.size (some ⟨g, 0, none⟩) 0 0 []) (fun v u w' => ∃ g4 c4, u = .slice (some ⟨g4, 0, none⟩) m c4 ∧ wq.heap.size ≤ g4 ∧ HRows w' w1.heap.size (some ⟨g4, 0, none⟩) m c4 (ys.take m)) (fun z w' => ∃ g, z = .slice (some ⟨g, 0, none⟩) 1 1 ∧ wq.heap.size ≤ g ∧ w'.cell? ⟨g, 0, none⟩ = some (.slice af R cf)) (fun v z w' => ∃ g g', v = .slice (some ⟨g, 0, none⟩) 0 0 ∧ wq.heap.size ≤ g ∧ HRows w' wq.heap.size (some ⟨g, 0, none⟩) 0 0 [] ∧ z = .slice (some ⟨g', 0, none⟩) 1 1 ∧ w'.cell? ⟨g', 0, none⟩ = some (.slice af R cf) ∧ g' < w'.heap.size ∧ g' ≠ g) (fun v u z w' => ∃ g4 c4 g', u = .slice (some ⟨g4, 0, none⟩) m c4 ∧ wq.heap.size ≤ g4 ∧ HRows w' w1.heap.size (some ⟨g4, 0, none⟩) m c4 (ys.take m) ∧ z = .slice (some ⟨g', 0, none⟩) 1 1 ∧ w'.cell? ⟨g', 0, none⟩ = some (.slice af R cf)) rfl rfl rfl (by decide +kernel) rfl rfl rfl (by decide) (by decide) (fun _ => rfl) (fun _ => rfl) (fun _ => rfl) ?_ ?_ ?_ ?_ ?_ ?_ ?_ ?_
                    · intro K hK
                      go_simp
                      exact hK _ _ (hE.trans (Ext.alloc _ _)) ⟨_, rfl, hE.size, (HRows.made0 _).base hE.size⟩
                    · rintro v w' hx ⟨g, rfl, hg0, ho⟩ K hK
                      have hzz := hx.size
                      have hzw := HSZ.out
                      refine wp_append_rows (.tmp 81) (.tmp 84) rfl w1.heap.size g 0 0 [] (ys.take m) rfl (ho.base HSZ.out) gS 0 m cS rfl ((HSq.out.below hx).front m (by omega)) (fun y hy => (HSq.out.below hx).rd y (List.mem_of_mem_take hy)) (by omega) (by omega) ?_
                      intro g4 c4 w4 ho4 hg4 hn4
                      rw [Nat.zero_add] at ho4 ⊢
                      rw [List.nil_append] at ho4
                      have hlt := ho.base_ge
                      exact hK _ _ (Below.grown hx hg4 hx.size fun j hj => by cases hj; exact hg0) ⟨g4, c4, rfl, by omega, ho4⟩
                    · rintro v u w' hx ⟨g4, c4, rfl, hg4, ho4⟩ K hK
                      go_simp
                      exact hK _ _ (hx.trans (Ext.alloc _ _)) ⟨g4, c4, _, rfl, hg4, ho4.below (Ext.alloc _ _), rfl, (cell_top _ _ _ _ _ rfl).trans rfl⟩
                    · rintro v w' hx ⟨g, rfl, hg0, ho⟩ K hK
                      have hlt := ho.base_ge
                      go_simp
                      exact hK _ _ (hx.trans (Ext.alloc _ _)) ⟨g, _, rfl, hg0, ho.below (Ext.alloc _ _), rfl, (cell_top _ _ _ _ _ rfl).trans rfl, by simp, by omega⟩
                    · rintro v z w' hx ⟨g, g', rfl, hg0, ho, rfl, hc, hlt', hne'⟩ K hK
                      have hzz := hx.size
                      have hzw := HSZ.out
                      refine wp_append_rows (.tmp 81) (.tmp 84) rfl w1.heap.size g 0 0 [] (ys.take m) rfl (ho.base HSZ.out) gS 0 m cS rfl ((HSq.out.below hx).front m (by omega)) (fun y hy => (HSq.out.below hx).rd y (List.mem_of_mem_take hy)) (by omega) (by omega) ?_
                      intro g4 c4 w4 ho4 hg4 hn4
                      rw [Nat.zero_add] at ho4 ⊢
                      rw [List.nil_append] at ho4
                      exact hK _ _ (Below.grown hx hg4 hx.size fun j hj => by cases hj; exact hg0) ⟨g4, c4, g', rfl, by omega, ho4, rfl, by rw [World.cell?_of_block (w := w') (hg4.block g' hlt' (by simpa using hne'))]; exact hc⟩
                    · intro K hK
                      go_simp
                      exact hK _ _ (hE.trans (Ext.alloc _ _)) ⟨_, rfl, hE.size, (cell_top _ _ _ _ _ rfl).trans rfl⟩
                    · rintro z w' hx ⟨g', rfl, hg0, hc⟩ K hK
                      have hlt' : g' < w'.heap.size := World.block_lt_of_cell? w' _ hc
                      go_simp
                      exact hK _ _ (hx.trans (Ext.alloc _ _)) ⟨_, g', rfl, hx.size, (HRows.made0 _).base hx.size, rfl, ((Ext.alloc w' _).cell (p := ⟨g', 0, none⟩) hlt').trans hc, by simp; omega, by omega⟩
                    · rintro v u z w3 hx3 ⟨g4, c4, g', rfl, hg4, ho4, rfl, hc⟩
                      (try simp only [Act.put, List.setIfInBounds_toArray, List.set_cons_zero, List.set_cons_succ])
                      refine walkR_only (fun w' => Ext wq w') rfl (by decide +kernel) rfl (fun _ h => h) ?_
                      intro K hK
                      have hzz := hx3.size
                      have hzw := HSZ.out
                      have HOF3 := hidP (HOF.out w3 hx3)
                      refine wp_append_rows (.tmp 85) (.tmp 90) rfl w1.heap.size g4 m c4 (ys.take m) [hrow af cf (FS.getD k [])] rfl ho4 g' 0 1 1 rfl (hrow_single HVl.out hc) (fun y hy => by
                        simp only [List.mem_singleton] at hy
                        subst hy
                        exact ⟨rfl, by show OwnI _ _ _ _ _ _; rw [show (hrow af cf (FS.getD k [])).1.2.length = R from HVl.out]; exact HOF3.out⟩) (by omega) (by omega) ?_
                      intro g9 c9 w4 ho9 hg9 hn9
                      have hx4 : Ext wq w4 := Below.grown hx3 hg9 hx3.size fun j hj => by cases hj; exact hg4
                      refine hK _ _ hx4 ?_
                      clear hK K
                      (try simp only [Act.put, List.setIfInBounds_toArray, List.set_cons_zero, List.set_cons_succ])
                      have hg9b : wq.heap.size ≤ g9 := by omega
                      have HO9 := hidP ho9
                      have HX4 := hidP hx4
                      have hPt := (HSq.out.below hx4).part m (by omega)
                      have HRd := hidP (fun y (hy : y ∈ ys.drop m) => (HSq.out.below hx4).rd y (List.mem_of_mem_drop hy))
                      have HP61 := hidP (hPt.moved (o' := if cS = m then 0 else m * 1) (by
                        by_cases hck : cS = m
                        · right; omega
                        · left; rw [if_neg hck]))
                      have hx61 : (if cS = m then some (⟨gS, 0, none⟩ : Addr) else some ⟨gS, m, none⟩) = some ⟨gS, if cS = m then 0 else m * 1, none⟩ := by split <;> simp
                      have HAD := hidP hx61
                      clear ho9 hg9 hn9 hc ho4 hx4 hx3 hPt hx61 hg4 hE
                      (refine walkR_tail (by rfl) (by kernel_rfl) ?_; simp only [List.drop_succ_cons, List.drop_zero])
                      have hzz4 := HX4.out.size
                      go_wp2_with (at_builtin; refine wpList_append_rows rfl (.tmp 91) (.tmp 94) rfl w1.heap.size g9 (m + 1) c9 (ys.take m ++ [hrow af cf (FS.getD k [])]) (ys.drop m) rfl HO9.out gS _ (k - m) (cS - m) (congrArg (fun x => Value.slice x (k - m) (cS - m)) HAD.out) HP61.out HRd.out (by omega) (by omega) ?_; intro a6 c6 w6 ho6 hg6 hn6)
                      have hx6 : Ext wq w6 := Below.grown HX4.out hg6 HX4.out.size fun j hj => by cases hj; exact hg9b
                      have hmk : m + 1 + (k - m) = k + 1 := by omega
                      rw [hmk] at ho6 ⊢
                      have HO6 := hidP ho6
                      have HX6 : Hid (Ext w3' w6) := HXs.out.trans (HXm.out.trans hx6)
                      have HR6 := hidP (HNew.out _ rfl)
                      clear ho6 hg6 hn6 hx6 hmk
                      go_roundw
                      case rel => exact ⟨k + 1, a6, c6, _, by omega, by first | rfl | go_num, by go_num, HO6, HR6, HX6⟩
                      case measure => simp [intOf]; omega
                  · rw [hls] at HLs
                    have HAt : Hid (atR (FS.getD k []) (insTo FS k) k = atR (FS.getD k []) (insTo FS k) m') := by
                      show _ = _
                      rw [HAm.out, atR, if_pos hls]
                    clear hls HAm
                    go_wp2
                    (refine walkR_start (fun w' => Ext wr w') 13 (by kernel_rfl) ?_; simp only [numbered, List.take_succ_cons, List.take_zero, Nat.zero_add, Nat.reduceAdd, List.length_cons, List.length_nil])
                    (repeat (first | (refine walkR_still (v := ?_) rfl (by decide +kernel) rfl (fun _ _ _ h => h) hE ?_ ?_; rotate_left; (focus (intro w' hw'; obtain ⟨q1, q2⟩ := HQ.out w' hw'; go_simp; all_goals (with_reducible rfl))); simp only [Act.put, List.setIfInBounds_toArray, List.set_cons_zero, List.set_cons_succ]) | (refine walkR_skip rfl (by decide +kernel) rfl (fun _ _ _ h => h) hE ?_; simp only [Act.put, List.setIfInBounds_toArray, List.set_cons_zero, List.set_cons_succ])))
                    (refine walkR_only (fun w' => Ext wr w') rfl (by decide +kernel) rfl (fun _ h => h) ?_; intro K hK; go_simp; refine (HLs.out _ hE).mono ?_; rintro e w4 ⟨rfl, hx4⟩; refine hK _ _ (hE.trans hx4) ?_; clear hK K; (try simp only [Act.put, List.setIfInBounds_toArray, List.set_cons_zero, List.set_cons_succ]))
                    (refine walkR_tail (by rfl) (by kernel_rfl) ?_; simp only [List.drop_succ_cons, List.drop_zero])
                    have HXm' := hidP (HXm.out.trans (hE.trans hx4))
                    clear hE hx4 HQ HLs HXm
                    go_wp2
                    go_roundw
                    case rel => exact ⟨m', by omega, by first | rfl | go_num, HAt, HXm'⟩
                    case measure => simp [intOf]
                · have HAt : Hid (atR (FS.getD k []) (insTo FS k) k = m) := by
                    show _ = _
                    obtain rfl : m = 0 := by omega
                    rw [HAm.out, atR]
                  have hmz : (m : Int) = 0 := by omega
                  clear HAm hm0
                  have hE : Ext wr wr.drew := Ext.drew wr
                  go_wp2
                  (refine walkR_start (fun w' => Ext wr w') 13 (by kernel_rfl) ?_; simp only [numbered, List.take_succ_cons, List.take_zero, Nat.zero_add, Nat.reduceAdd, List.length_cons, List.length_nil])
                  (repeat (first | (refine walkR_still (v := ?_) rfl (by decide +kernel) rfl (fun _ _ _ h => h) hE ?_ ?_; rotate_left; (focus (intro w' hw'; skip; go_simp; all_goals (with_reducible rfl))); simp only [Act.put, List.setIfInBounds_toArray, List.set_cons_zero, List.set_cons_succ]) | (refine walkR_skip rfl (by decide +kernel) rfl (fun _ _ _ h => h) hE ?_; simp only [Act.put, List.setIfInBounds_toArray, List.set_cons_zero, List.set_cons_succ])))
                  (refine walkR_tail (by rfl) (by kernel_rfl) ?_; simp only [List.drop_succ_cons, List.drop_zero])
                  have HXm' := hidP (HXm.out.trans hE)
                  clear HXm
                  have HXm := HXm'
                  clear HXm' hE
                  go_wp2
                  clear hmz
                  obtain ⟨wq, hwq⟩ : ∃ wq : World, wq = wr.drew := ⟨_, rfl⟩
                  rw [← hwq] at HXm ⊢
                  clear hwq
                  have HSq := hidP (HS.out.below HXm.out)
                  have HFq := hidP (HF.out.below HXm.out)
                  obtain ⟨gf, af, cf, eF, _, hcF, hoF⟩ := HFq.out.at_ k (by omega)
                  simp only [Option.some.injEq, Addr.mk.injEq, and_true] at eF
                  subst eF
                  have HV1 : Hid (rowOf (xs.getD k hdrK.dft) = FS.getD k []) := by
                    show _ = _
                    rw [← rowOf_get, HXF.out]
                  rw [HV1.out] at hcF hoF
                  have HVl := hidP ((HSm.out.get (show k < FS.length by omega)).1)
                  rw [HVl.out] at hcF hoF
                  have HCF : Hid (∀ w', Ext wq w' → w'.cell? ⟨gF, k, none⟩ = some (.slice af R cf)) := fun w' hx => (hx.cell (p := ⟨gF, k, none⟩) (World.block_lt_of_cell? wq _ hcF)).trans hcF
                  have HOF : Hid (∀ w', Ext wq w' → OwnI w' w1.heap.size af R cf (FS.getD k [])) := fun w' hx => hoF.below hx
                  clear hcF hoF
                  have hgS := HSq.out.base_ge
                  have HGS : Hid (w1.heap.size ≤ gS) := hgS.1
                  have hkc : k ≤ cS := by
                    rcases HSq.out.own.form with ⟨e, _⟩ | ⟨_, _, _, _, _, _, h1, _⟩
                    · cases e
                    · exact h1
                  have hsz1 := ((HXs1.out).trans HXm.out).size
                  have HSZ : Hid (w1.heap.size ≤ wq.heap.size) := hsz1
                  have hE : Ext wq wq.drew := Ext.drew wq
                  have hm0 : (0 : Int) ≤ (m : Int) := by omega
                  have hm1 : (m : Int) ≤ (k : Int) := by omega
                  have hm2 : (m : Int) ≤ (cS : Int) := by omega
                  have hm3 : (k : Int) ≤ (cS : Int) := by omega
                  have hk0 : (0 : Int) ≤ (k : Int) := by omega
                  have hkF : (k : Int) < (FS.length : Int) := by omega
                  have hkn : (k : Int) - m = ((k - m : Nat) : Int) := by omega
                  have hkd : (cS : Int) - m = ((cS - m : Nat) : Int) := by omega
                  have HNew : Hid (∀ zs : List HRow, zs = ys.take m ++ [hrow af cf (FS.getD k [])] ++ ys.drop m → zs.map rowOf = insTo FS (k + 1)) := by
                    show ∀ zs : List HRow, _
                    rintro zs rfl
                    rw [insTo_succ (by omega), insR, insTo_length _ _ (by omega), HAt.out, ← HYS.out]
                    simp [rowOf, hrow, List.map_take, List.map_drop]
                  clear hgS hsz1
                  (refine walkR_start (fun w' => Ext wq w') 14 (by kernel_rfl) ?_; simp only [numbered, List.take_succ_cons, List.take_zero, Nat.zero_add, Nat.reduceAdd, List.length_cons, List.length_nil])
                  (refine walkR_later ?_; simp only [List.cons_append, List.nil_append])
                  (repeat (first | (refine walkR_still (v := ?_) rfl (by decide +kernel) rfl (fun _ _ _ h => h) hE ?_ ?_; rotate_left; (focus (intro w' hw'; skip; go_simp; all_goals (with_reducible rfl))); simp only [Act.put, List.setIfInBounds_toArray, List.set_cons_zero, List.set_cons_succ]) | (refine walkR_skip rfl (by decide +kernel) rfl (fun _ _ _ h => h) hE ?_; simp only [Act.put, List.setIfInBounds_toArray, List.set_cons_zero, List.set_cons_succ])))
                  (refine walkR_later ?_; simp only [List.cons_append, List.nil_append])
                  (repeat (first | (refine walkR_still (v := ?_) rfl (by decide +kernel) rfl (fun _ _ _ h => h) hE ?_ ?_; rotate_left; (focus (intro w' hw'; have q1 := HCF.out w' hw'; go_simp; all_goals (with_reducible rfl))); simp only [Act.put, List.setIfInBounds_toArray, List.set_cons_zero, List.set_cons_succ]) | (refine walkR_skip rfl (by decide +kernel) rfl (fun _ _ _ h => h) hE ?_; simp only [Act.put, List.setIfInBounds_toArray, List.set_cons_zero, List.set_cons_succ])))
                  (refine walkR_later ?_; simp only [List.cons_append, List.nil_append])
                  (refine walkR_later ?_; simp only [List.cons_append, List.nil_append])
                  (repeat (first | (refine walkR_still (v := ?_) rfl (by decide +kernel) rfl (fun _ _ _ h => h) hE ?_ ?_; rotate_left; (focus (intro w' hw'; skip; go_simp; all_goals (with_reducible rfl))); simp only [Act.put, List.setIfInBounds_toArray, List.set_cons_zero, List.set_cons_succ]) | (refine walkR_skip rfl (by decide +kernel) rfl (fun _ _ _ h => h) hE ?_; simp only [Act.put, List.setIfInBounds_toArray, List.set_cons_zero, List.set_cons_succ])))
                  refine walkR_three (fun v w' => ∃ g, v = .slice (some ⟨g, 0, none⟩) 0 0 ∧ wq.heap.size ≤ g ∧ HRows w' wq.heap.size (some ⟨g, 0, none⟩) 0 0 []) (fun v u w' => ∃ g4 c4, u = .slice (some ⟨g4, 0, none⟩) m c4 ∧ wq.heap.size ≤ g4 ∧ HRows w' w1.heap.size (some ⟨g4, 0, none⟩) m c4 (ys.take m)) (fun z w' => ∃ g, z = .slice (some ⟨g, 0, none⟩) 1 1 ∧ wq.heap.size ≤ g ∧ w'.cell? ⟨g, 0, none⟩ = some (.slice af R cf)) (fun v z w' => ∃ g g', v = .slice (some ⟨g, 0, none⟩) 0 0 ∧ wq.heap.size ≤ g ∧ HRows w' wq.heap.size (some ⟨g, 0, none⟩) 0 0 [] ∧ z = .slice (some ⟨g', 0, none⟩) 1 1 ∧ w'.cell? ⟨g', 0, none⟩ = some (.slice af R cf) ∧ g' < w'.heap.size ∧ g' ≠ g) (fun v u z w' => ∃ g4 c4 g', u = .slice (some ⟨g4, 0, none⟩) m c4 ∧ wq.heap.size ≤ g4 ∧ HRows w' w1.heap.size (some ⟨g4, 0, none⟩) m c4 (ys.take m) ∧ z = .slice (some ⟨g', 0, none⟩) 1 1 ∧ w'.cell? ⟨g', 0, none⟩ = some (.slice af R cf)) rfl rfl rfl (by decide +kernel) rfl rfl rfl (by decide) (by decide) (fun _ => rfl) (fun _ => rfl) (fun _ => rfl) ?_ ?_ ?_ ?_ ?_ ?_ ?_ ?_
                  · intro K hK
                    go_simp
                    exact hK _ _ (hE.trans (Ext.alloc _ _)) ⟨_, rfl, hE.size, (HRows.made0 _).base hE.size⟩
                  · rintro v w' hx ⟨g, rfl, hg0, ho⟩ K hK
                    have hzz := hx.size
                    have hzw := HSZ.out
                    refine wp_append_rows (.tmp 81) (.tmp 84) rfl w1.heap.size g 0 0 [] (ys.take m) rfl (ho.base HSZ.out) gS 0 m cS rfl ((HSq.out.below hx).front m (by omega)) (fun y hy => (HSq.out.below hx).rd y (List.mem_of_mem_take hy)) (by omega) (by omega) ?_
                    intro g4 c4 w4 ho4 hg4 hn4
                    rw [Nat.zero_add] at ho4 ⊢
                    rw [List.nil_append] at ho4
                    have hlt := ho.base_ge
                    exact hK _ _ (Below.grown hx hg4 hx.size fun j hj => by cases hj; exact hg0) ⟨g4, c4, rfl, by omega, ho4⟩
                  · rintro v u w' hx ⟨g4, c4, rfl, hg4, ho4⟩ K hK
                    go_simp
                    exact hK _ _ (hx.trans (Ext.alloc _ _)) ⟨g4, c4, _, rfl, hg4, ho4.below (Ext.alloc _ _), rfl, (cell_top _ _ _ _ _ rfl).trans rfl⟩
                  · rintro v w' hx ⟨g, rfl, hg0, ho⟩ K hK
                    have hlt := ho.base_ge
                    go_simp
                    exact hK _ _ (hx.trans (Ext.alloc _ _)) ⟨g, _, rfl, hg0, ho.below (Ext.alloc _ _), rfl, (cell_top _ _ _ _ _ rfl).trans rfl, by simp, by omega⟩
                  · rintro v z w' hx ⟨g, g', rfl, hg0, ho, rfl, hc, hlt', hne'⟩ K hK
                    have hzz := hx.size
                    have hzw := HSZ.out
                    refine wp_append_rows (.tmp 81) (.tmp 84) rfl w1.heap.size g 0 0 [] (ys.take m) rfl (ho.base HSZ.out) gS 0 m cS rfl ((HSq.out.below hx).front m (by omega)) (fun y hy => (HSq.out.below hx).rd y (List.mem_of_mem_take hy)) (by omega) (by omega) ?_
                    intro g4 c4 w4 ho4 hg4 hn4
                    rw [Nat.zero_add] at ho4 ⊢
                    rw [List.nil_append] at ho4
                    exact hK _ _ (Below.grown hx hg4 hx.size fun j hj => by cases hj; exact hg0) ⟨g4, c4, g', rfl, by omega, ho4, rfl, by rw [World.cell?_of_block (w := w') (hg4.block g' hlt' (by simpa using hne'))]; exact hc⟩
                  · intro K hK
                    go_simp
                    exact hK _ _ (hE.trans (Ext.alloc _ _)) ⟨_, rfl, hE.size, (cell_top _ _ _ _ _ rfl).trans rfl⟩
                  · rintro z w' hx ⟨g', rfl, hg0, hc⟩ K hK
                    have hlt' : g' < w'.heap.size := World.block_lt_of_cell? w' _ hc
                    go_simp
                    exact hK _ _ (hx.trans (Ext.alloc _ _)) ⟨_, g', rfl, hx.size, (HRows.made0 _).base hx.size, rfl, ((Ext.alloc w' _).cell (p := ⟨g', 0, none⟩) hlt').trans hc, by simp; omega, by omega⟩
                  · rintro v u z w3 hx3 ⟨g4, c4, g', rfl, hg4, ho4, rfl, hc⟩
                    (try simp only [Act.put, List.setIfInBounds_toArray, List.set_cons_zero, List.set_cons_succ])
                    refine walkR_only (fun w' => Ext wq w') rfl (by decide +kernel) rfl (fun _ h => h) ?_
                    intro K hK
                    have hzz := hx3.size
                    have hzw := HSZ.out
                    have HOF3 := hidP (HOF.out w3 hx3)
                    refine wp_append_rows (.tmp 85) (.tmp 90) rfl w1.heap.size g4 m c4 (ys.take m) [hrow af cf (FS.getD k [])] rfl ho4 g' 0 1 1 rfl (hrow_single HVl.out hc) (fun y hy => by
                      simp only [List.mem_singleton] at hy
                      subst hy
                      exact ⟨rfl, by show OwnI _ _ _ _ _ _; rw [show (hrow af cf (FS.getD k [])).1.2.length = R from HVl.out]; exact HOF3.out⟩) (by omega) (by omega) ?_
                    intro g9 c9 w4 ho9 hg9 hn9
                    have hx4 : Ext wq w4 := Below.grown hx3 hg9 hx3.size fun j hj => by cases hj; exact hg4
                    refine hK _ _ hx4 ?_
                    clear hK K
                    (try simp only [Act.put, List.setIfInBounds_toArray, List.set_cons_zero, List.set_cons_succ])
                    have hg9b : wq.heap.size ≤ g9 := by omega
                    have HO9 := hidP ho9
                    have HX4 := hidP hx4
                    have hPt := (HSq.out.below hx4).part m (by omega)
                    have HRd := hidP (fun y (hy : y ∈ ys.drop m) => (HSq.out.below hx4).rd y (List.mem_of_mem_drop hy))
                    have HP61 := hidP (hPt.moved (o' := if cS = m then 0 else m * 1) (by
                      by_cases hck : cS = m
                      · right; omega
                      · left; rw [if_neg hck]))
                    have hx61 : (if cS = m then some (⟨gS, 0, none⟩ : Addr) else some ⟨gS, m, none⟩) = some ⟨gS, if cS = m then 0 else m * 1, none⟩ := by split <;> simp
                    have HAD := hidP hx61
                    clear ho9 hg9 hn9 hc ho4 hx4 hx3 hPt hx61 hg4 hE
                    (refine walkR_tail (by rfl) (by kernel_rfl) ?_; simp only [List.drop_succ_cons, List.drop_zero])
                    have hzz4 := HX4.out.size
                    go_wp2_with (at_builtin; refine wpList_append_rows rfl (.tmp 91) (.tmp 94) rfl w1.heap.size g9 (m + 1) c9 (ys.take m ++ [hrow af cf (FS.getD k [])]) (ys.drop m) rfl HO9.out gS _ (k - m) (cS - m) (congrArg (fun x => Value.slice x (k - m) (cS - m)) HAD.out) HP61.out HRd.out (by omega) (by omega) ?_; intro a6 c6 w6 ho6 hg6 hn6)
                    have hx6 : Ext wq w6 := Below.grown HX4.out hg6 HX4.out.size fun j hj => by cases hj; exact hg9b
                    have hmk : m + 1 + (k - m) = k + 1 := by omega
                    rw [hmk] at ho6 ⊢
                    have HO6 := hidP ho6
                    have HX6 : Hid (Ext w3' w6) := HXs.out.trans (HXm.out.trans hx6)
                    have HR6 := hidP (HNew.out _ rfl)
                    clear ho6 hg6 hn6 hx6 hmk
                    go_roundw
                    case rel => exact ⟨k + 1, a6, c6, _, by omega, by first | rfl | go_num, by go_num, HO6, HR6, HX6⟩
                    case measure => simp [intOf]; omega
            · obtain rfl : FS.length = k := by omega
              have HRt := hidP (HYS.out)
              rw [insTo_all] at HRt
              have HSz := hidP HX1.out.size
              go_wp2
              go_ret
              exact ⟨_, _, _, rfl, HS.out.base HSz.out, HRt.out, HX1.out.trans (HX3.out.trans HX0.out)⟩
end Go.Proofs.YtenlhfimdpcaoaaGreat

namespace Go.Proofs.YtenlhfimdpcaoaaGreat
open Go.RowKit

set_option maxHeartbeats 1000000 in
theorem l1Find_any (a : Option Addr) (n c : Nat) (xs : List Int) (x : Int) (w : World) (h : IntsAt w a n xs) (hn : n ≤ 1000000000000) :
    Calls Tryz.prog 211 #[.slice a n c, .int .i64 x] w fun e w' => ∃ v : Int, e = .returned (.int .i64 v) ∧ (0 ≤ v ↔ x ∈ xs) ∧ -1 ≤ v ∧ v ≤ n ∧ w = w' := by
  have G := hidP h
  have L := hidP h.len
  clear h
  go_enter Tryz.func211, Tryz.ntmps211
  go_wp2
  go_loop [5] (fun i => ∃ k : Nat, k ≤ n ∧ Hid (∀ j, j < k → xs.getD j 0 ≠ x) ∧ i = .int .i64 k) (fun i => n - (intOf i).toNat)
  case atStart => exact ⟨0, Nat.zero_le _, fun j h => by omega, rfl⟩
  case round =>
    obtain ⟨k, hk, HJ, rfl⟩ := hrel
    by_cases hlt : k < n
    · obtain ⟨b, o, rfl, q⟩ := G.out.get k hlt
      by_cases hd : xs.getD k 0 = x
      · have HR : Hid (x ∈ xs) := by
          show _ ∈ _
          have hkl : k < xs.length := by have := L.out; omega
          rw [← hd, List.getD_eq_getElem?_getD, List.getElem?_eq_getElem hkl]
          exact List.getElem_mem hkl
        have hb : (xs.getD k 0 == x) = true := by simpa using hd
        rw [List.getD_eq_getElem?_getD] at hb
        clear hd
        go_wp2
        go_ret
        exact ⟨k, rfl, ⟨fun _ => HR.out, fun _ => by omega⟩, by omega, by omega, rfl⟩
      · have hb : (xs.getD k 0 == x) = false := by simpa using hd
        have HD := hidP hd
        clear hd
        rw [List.getD_eq_getElem?_getD] at hb
        go_wp2
        go_round
        case rel =>
          refine ⟨k + 1, by omega, fun j hj => ?_, by go_num⟩
          rcases Nat.lt_succ_iff_lt_or_eq.1 hj with h3 | rfl
          · exact HJ.out j h3
          · exact HD.out
        case measure => simp [intOf]; omega
    · have HR : Hid (x ∉ xs) := by
        intro hm
        obtain ⟨j, hj, rfl⟩ := List.mem_iff_getElem.1 hm
        refine HJ.out j (by have := L.out; omega) ?_
        rw [List.getD_eq_getElem?_getD, List.getElem?_eq_getElem hj]
        rfl
      go_wp2
      go_ret
      exact ⟨-1, rfl, ⟨fun h => by omega, fun h => absurd h HR.out⟩, by omega, by omega, rfl⟩
end Go.Proofs.YtenlhfimdpcaoaaGreat

namespace Go.Proofs.YtenlhfimdpcaoaaGreat
open Go.RowKit

theorem nodup_le : ∀ (r : Nat) (l : List Nat), l.Nodup → (∀ a ∈ l, a < r) → l.length ≤ r
  | 0, l, _, h => by
    cases l with
    | nil => simp
    | cons a l => have := h a (by simp); omega
  | r + 1, l, hd, h => by
    have ih := nodup_le r (l.erase r) (hd.erase r) (fun a ha => by
      have h1 := List.mem_of_mem_erase ha
      have h2 := h a h1
      have h3 : a ≠ r := by
        intro e
        subst e
        exact (hd.not_mem_erase) ha
      omega)
    rw [List.length_erase] at ih
    split at ih <;> omega
theorem partGo_end (bits : List Bool) (r f k j : Nat) (out : List Nat) (h : ¬ k < out.length) : partGo bits r f k j out = out := by
  cases f with
  | zero => rfl
  | succ f => rw [partGo, if_neg h]
theorem partGo_next (bits : List Bool) (r f k : Nat) (out : List Nat) (h : k < out.length) : partGo bits r (f + 1) k r out = partGo bits r f (k + 1) 0 out := by
  rw [partGo, if_pos h, if_neg (Nat.lt_irrefl _)]
theorem partGo_step (bits : List Bool) (r f k j : Nat) (out : List Nat) (h : k < out.length) (hj : j < r) : partGo bits r (f + 1) k j out = partGo bits r f k (j + 1) (if bits.getD (out.getD k 0 * r + j) false && !out.contains j then out ++ [j] else out) := by
  rw [partGo, if_pos h, if_pos hj]
theorem bits_at (xs : List Int) (r a b : Nat) : (bitsOf xs).getD (a * r + b) false = decide (atM xs r a b ≠ 0) := bitAt_eq
set_option maxRecDepth 100000 in
set_option maxHeartbeats 4000000 in
theorem l5Part_any (r : Nat) (hr : r ≤ 4) (xs : List Int) (ac : Option Addr) (cc : Nat) (i : Nat) (hi : i < r) (w : World) (h : IntsAt w ac (r * r) xs) :
    Calls Tryz.prog 208 #[carV r ac (r * r) cc, .int .i64 i] w fun e w' => ∃ a n c, e = .returned (.slice a n c) ∧ OwnI w' w.heap.size a n c (natI (partL (bitsOf xs) r i)) ∧ Ext w w' ∧ (partL (bitsOf xs) r i).Nodup ∧ (∀ x ∈ partL (bitsOf xs) r i, x < r) := by
  have hx0 := Ext.alloc w (.cells #[.int .i64 r, .slice ac (r * r) cc] 117)
  have hca := CarAt.new w _ rfl r ac (r * r) cc 117
  have H := hidP (h.below hx0)
  obtain ⟨w0, hw0⟩ : ∃ w0, w0 = w.alloc (.cells #[.int .i64 r, .slice ac (r * r) cc] 117) := ⟨_, rfl⟩
  obtain ⟨b2, hb2⟩ : ∃ b, b = w.heap.size := ⟨_, rfl⟩
  have HC : Hid (CarAt w0 b2 r ac (r * r) cc) := by rw [hw0, hb2]; exact hca
  have HX0 : Hid (Ext w w0) := by rw [hw0]; exact hx0
  have H0 : Hid (IntsAt w0 ac (r * r) xs) := by rw [hw0]; exact H.out
  have hP : partL (bitsOf xs) r i = partGo (bitsOf xs) r 64 0 0 [i] := rfl
  generalize partL (bitsOf xs) r i = P at *
  have HP := hidP hP
  have hm25 : (r - 0) * (r + 1) + (r + 1) ≤ 64 := by
    have : (r - 0) * (r + 1) ≤ 4 * 5 := Nat.mul_le_mul (by omega) (by omega)
    omega
  clear h hx0 hca H hP
  go_enter Tryz.func208, Tryz.ntmps208
  go_wp2
  rw [← hw0, ← hb2]
  have hxl := Ext.alloc w0 (.cells #[.int .i64 i] 3)
  have hsz : w0.heap.size = b2 + 1 := by rw [hw0, hb2]; simp
  have HO0 : Hid (OwnI (w0.alloc (.cells #[.int .i64 i] 3)) w0.heap.size (some ⟨b2 + 1, 0, none⟩) 1 1 (natI [i])) := by
    rw [show b2 + 1 = w0.heap.size from hsz.symm]
    refine ⟨?_⟩
    have := World.ownsRow_lit (e := 3) (size := 1) (base := w0.heap.size) w0 #[.int .i64 i] 1 (Nat.le_refl _) (by unfold maxLen; omega) (by simp)
    simpa [ivs, natI] using this
  have HXl := hidP hxl
  clear hw0 hb2 hxl hsz
  go_loopw [5, 6] (fun u t wr => ∃ (k f : Nat) (out : List Nat) (av : Option Addr) (cv : Nat), k ≤ out.length ∧ t = .int .i64 k ∧ u = .slice av out.length cv ∧ Hid out.Nodup ∧ Hid (∀ x ∈ out, x < r) ∧ Hid (P = partGo (bitsOf xs) r f k 0 out) ∧ Hid ((r - k) * (r + 1) + (r + 1) ≤ f) ∧ Hid (OwnI wr w0.heap.size av out.length cv (natI out)) ∧ Hid (Ext w0 wr)) (fun _ t _ => r - (intOf t).toNat)
  case atStart => exact ⟨0, 64, [i], _, 1, by simp, rfl, rfl, by show List.Nodup _; simp, fun x hx => by simp at hx; omega, HP, hm25, HO0, HXl⟩
  case round =>
    clear HO0 HXl HP hm25
    obtain ⟨k, f, out, av, cv, hk, rfl, rfl, HN, HLt, HP, HF, HO, HX⟩ := hrel
    have hlr := nodup_le r out HN.out HLt.out
    by_cases hlt : k < out.length
    · have HF2 : Hid ((r - k) * (r + 1) + (r - 0) + 1 ≤ f) := HF.out
      go_wp2
      go_loopw [5, 7] (fun u t wr => ∃ (j f : Nat) (out : List Nat) (av : Option Addr) (cv : Nat), j ≤ r ∧ t = .int .i64 j ∧ u = .slice av out.length cv ∧ k < out.length ∧ Hid out.Nodup ∧ Hid (∀ x ∈ out, x < r) ∧ Hid (P = partGo (bitsOf xs) r f k j out) ∧ Hid ((r - k) * (r + 1) + (r - j) + 1 ≤ f) ∧ Hid (OwnI wr w0.heap.size av out.length cv (natI out)) ∧ Hid (Ext w0 wr)) (fun _ t _ => r - (intOf t).toNat)
      case atStart => exact ⟨0, f, out, av, cv, Nat.zero_le _, rfl, rfl, hlt, HN, HLt, HP, HF2, HO, HX⟩
      case round =>
        clear HO HX HP HF HF2 HN HLt hlt hk hlr
        obtain ⟨j, f, out, av, cv, hj, rfl, rfl, hlt, HN, HLt, HP, HF, HO, HX⟩ := hrel
        have hlr := nodup_le r out HN.out HLt.out
        obtain ⟨f, rfl⟩ : ∃ f', f = f' + 1 := ⟨f - 1, by have := HF.out; omega⟩
        by_cases hjr : j < r
        · have HS := hidP (partGo_step (bitsOf xs) r f k j out hlt hjr)
          rw [bits_at] at HS
          obtain ⟨g, rfl, _, _, hq, _⟩ := HO.out.cell k hlt
          rw [natI_getD] at hq
          have hkr : out.getD k 0 < r := HLt.out _ (getD_mem hlt)
          have HAt := hidP (fun w' (hx : Ext wr w') => l5At_any r ac (r * r) cc xs (out.getD k 0) j w' ((H0.out.below HX.out).below hx) (Int.natCast_mul r r) (by omega) (by omega) (by omega))
          rw [Int.toNat_natCast] at HAt
          have HFd := hidP (fun w' (hx : Ext wr w') => l1Find_any (some ⟨g, 0, none⟩) out.length cv (natI out) (j : Int) w' (HO.out.below hx).ints (by omega))
          have HQ := hidP (fun w' (hx : Ext wr w') => (hx.cell (p := ⟨g, k, none⟩) (World.block_lt_of_cell? wr _ hq)).trans hq)
          have HMem : Hid ((j : Int) ∈ natI out ↔ j ∈ out) := by
            show _ ↔ _
            unfold natI
            rw [List.mem_map]
            exact ⟨fun ⟨a, h, e⟩ => by obtain rfl : a = j := by omega
                                       exact h, fun h => ⟨j, h, rfl⟩⟩
          have hE : Ext wr wr.drew := Ext.drew wr
          generalize out.getD k 0 = ok at *
          generalize atM xs r ok j = x at *
          clear hq
          by_cases hz : x = 0
          · have hz' : (x != 0) = false := by simpa using hz
            rw [hz] at HS
            have HP2 : Hid (P = partGo (bitsOf xs) r f k (j + 1) out) := by
              show _ = _
              rw [HP.out, HS.out]
              simp
            clear hz HS
            obtain ⟨f0, f1⟩ := HC.out.below HX.out
            go_wp2
            clear f0 f1
            (refine walkR_start (fun w' => Ext wr w') 12 (by kernel_rfl) ?_; simp only [numbered, List.take_succ_cons, List.take_zero, Nat.zero_add, Nat.reduceAdd, List.length_cons, List.length_nil])
            (repeat (first | (refine walkR_still (v := ?_) rfl (by decide +kernel) rfl (fun _ _ _ h => h) hE ?_ ?_; rotate_left; (focus (intro w' hw'; obtain ⟨f0, f1⟩ := HC.out.below (HX.out.trans hw'); have q' := HQ.out w' hw'; go_simp; all_goals (with_reducible rfl))); simp only [Act.put, List.setIfInBounds_toArray, List.set_cons_zero, List.set_cons_succ]) | (refine walkR_skip rfl (by decide +kernel) rfl (fun _ _ _ h => h) hE ?_; simp only [Act.put, List.setIfInBounds_toArray, List.set_cons_zero, List.set_cons_succ])))
            (refine walkR_only (fun w' => Ext wr w') rfl (by decide +kernel) rfl (fun _ h => h) ?_; intro K hK; go_simp; refine (HAt.out _ hE).mono ?_; rintro e w2 ⟨rfl, hx2⟩; refine hK _ _ (hE.trans hx2) ?_; clear hK K; (try simp only [Act.put, List.setIfInBounds_toArray, List.set_cons_zero, List.set_cons_succ]))
            have hE2 := hE.trans hx2
            (repeat (first | (refine walkR_still (v := ?_) rfl (by decide +kernel) rfl (fun _ _ _ h => h) hE2 ?_ ?_; rotate_left; (focus (intro w' hw'; skip; go_simp; all_goals (with_reducible rfl))); simp only [Act.put, List.setIfInBounds_toArray, List.set_cons_zero, List.set_cons_succ]) | (refine walkR_skip rfl (by decide +kernel) rfl (fun _ _ _ h => h) hE2 ?_; simp only [Act.put, List.setIfInBounds_toArray, List.set_cons_zero, List.set_cons_succ])))
            (refine walkR_tail (by rfl) (by kernel_rfl) ?_; simp only [List.drop_succ_cons, List.drop_zero])
            go_wp2
            go_roundw
            case rel => exact ⟨j + 1, f, out, _, cv, by omega, by go_num, rfl, hlt, HN, HLt, HP2, by show _ ≤ _; have := HF.out; omega, HO.out.below hE2, HX.out.trans hE2⟩
            case measure => simp [intOf]; omega
          · have hz' : (x != 0) = true := by simpa using hz
            have HZ := hidP hz
            clear hz
            obtain ⟨f0, f1⟩ := HC.out.below HX.out
            go_wp2
            clear f0 f1
            (refine walkR_start (fun w' => Ext wr w') 12 (by kernel_rfl) ?_; simp only [numbered, List.take_succ_cons, List.take_zero, Nat.zero_add, Nat.reduceAdd, List.length_cons, List.length_nil])
            (repeat (first | (refine walkR_still (v := ?_) rfl (by decide +kernel) rfl (fun _ _ _ h => h) hE ?_ ?_; rotate_left; (focus (intro w' hw'; obtain ⟨f0, f1⟩ := HC.out.below (HX.out.trans hw'); have q' := HQ.out w' hw'; go_simp; all_goals (with_reducible rfl))); simp only [Act.put, List.setIfInBounds_toArray, List.set_cons_zero, List.set_cons_succ]) | (refine walkR_skip rfl (by decide +kernel) rfl (fun _ _ _ h => h) hE ?_; simp only [Act.put, List.setIfInBounds_toArray, List.set_cons_zero, List.set_cons_succ])))
            (refine walkR_only (fun w' => Ext wr w') rfl (by decide +kernel) rfl (fun _ h => h) ?_; intro K hK; go_simp; refine (HAt.out _ hE).mono ?_; rintro e w2 ⟨rfl, hx2⟩; refine hK _ _ (hE.trans hx2) ?_; clear hK K; (try simp only [Act.put, List.setIfInBounds_toArray, List.set_cons_zero, List.set_cons_succ]))
            have hE2 := hE.trans hx2
            (repeat (first | (refine walkR_still (v := ?_) rfl (by decide +kernel) rfl (fun _ _ _ h => h) hE2 ?_ ?_; rotate_left; (focus (intro w' hw'; skip; go_simp; all_goals (with_reducible rfl))); simp only [Act.put, List.setIfInBounds_toArray, List.set_cons_zero, List.set_cons_succ]) | (refine walkR_skip rfl (by decide +kernel) rfl (fun _ _ _ h => h) hE2 ?_; simp only [Act.put, List.setIfInBounds_toArray, List.set_cons_zero, List.set_cons_succ])))
            (refine walkR_only (fun w' => Ext wr w') rfl (by decide +kernel) rfl (fun _ h => h) ?_; intro K hK; go_simp; refine (HFd.out _ hE2).mono ?_; rintro e w3 ⟨v, rfl, hv, hv1, hv2, rfl⟩; refine hK _ _ (hE2) ?_; clear hK K; (try simp only [Act.put, List.setIfInBounds_toArray, List.set_cons_zero, List.set_cons_succ]))
            (refine walkR_tail (by rfl) (by kernel_rfl) ?_; simp only [List.drop_succ_cons, List.drop_zero])
            by_cases hm : j ∈ out
            · have hv0 : 0 ≤ v := hv.2 (HMem.out.2 hm)
              have HP2 : Hid (P = partGo (bitsOf xs) r f k (j + 1) out) := by
                show _ = _
                rw [HP.out, HS.out]
                simp [hm]
              have hvn : ¬ (v < 0) := by omega
              clear hv hm
              go_wp2
              go_roundw
              case rel => exact ⟨j + 1, f, out, _, cv, by omega, by go_num, rfl, hlt, HN, HLt, HP2, by show _ ≤ _; have := HF.out; omega, HO.out.below hE2, HX.out.trans hE2⟩
              case measure => simp [intOf]; omega
            · have hvn : v < 0 := by
                rcases Int.lt_or_le v 0 with h | h
                · exact h
                · exact absurd (HMem.out.1 (hv.1 h)) hm
              have HP2 : Hid (P = partGo (bitsOf xs) r f k (j + 1) (out ++ [j])) := by
                show _ = _
                rw [HP.out, HS.out]
                simp [hm, HZ.out]
              have HN2 : Hid ((out ++ [j]).Nodup) := by
                show List.Nodup _
                rw [List.nodup_append]
                exact ⟨HN.out, by simp, fun a ha b hb e => by simp at hb; subst hb; subst e; exact hm ha⟩
              have HLt2 : Hid (∀ x ∈ out ++ [j], x < r) := fun x hx => by
                simp only [List.mem_append, List.mem_singleton] at hx
                rcases hx with hx | rfl
                · exact HLt.out x hx
                · exact hjr
              have hxb := Ext.alloc w2 (.cells #[.int .i64 j] 3)
              have HO2 := hidP (HO.out.below (hE2.trans hxb))
              have HI2 : Hid (IntsAt (w2.alloc (.cells #[.int .i64 j] 3)) (some ⟨w2.heap.size, 0, none⟩) 1 [(j : Int)]) := ⟨rfl, fun q hq => ⟨_, 0, rfl, by
                obtain rfl : q = 0 := by omega
                exact (cell_top _ _ _ _ _ rfl).trans rfl⟩⟩
              have HX2 := hidP (HX.out.trans (hE2.trans hxb))
              clear hv hm hxb hv1 hv2
              go_wp2_with (at_builtin; refine wpList_append_ints rfl (.tmp 36) (.tmp 38) rfl w0.heap.size (some ⟨g, 0, none⟩) out.length cv (natI out) rfl HO2.out (some ⟨w2.heap.size, 0, none⟩) 1 1 [(j : Int)] rfl HI2.out (fun e => by cases e) (by omega) HX2.out.size ?_; intro a5 c5 w5 ho5 hg5)
              have HX5 := hidP (grown_ext hg5 HX2.out HX2.out.size HO2.out.addr_base)
              rw [show natI out ++ [(j : Int)] = natI (out ++ [j]) by rw [natI_append]; rfl] at ho5
              have HO5 := hidP ho5
              clear ho5 hg5
              go_roundw
              case rel => exact ⟨j + 1, f, out ++ [j], a5, c5, by omega, by go_num, by simp, by simp; omega, HN2, HLt2, HP2, by show _ ≤ _; have := HF.out; omega, by simpa using HO5, HX5⟩
              case measure => simp [intOf]; omega
        · obtain rfl : j = r := by omega
          have HP2 : Hid (P = partGo (bitsOf xs) j f (k + 1) 0 out) := by
            show _ = _
            rw [HP.out, partGo_next _ _ _ _ _ hlt]
          have HF3 : Hid ((j - (k + 1)) * (j + 1) + (j + 1) ≤ f) := by
            have := HF.out
            show _ ≤ _
            have e : j - k = (j - (k + 1)) + 1 := by omega
            rw [e, Nat.add_mul, Nat.one_mul] at this
            omega
          obtain ⟨f0, f1⟩ := HC.out.below HX.out
          go_wp2
          go_roundw
          case rel => exact ⟨k + 1, f, out, av, cv, by omega, by go_num, rfl, HN, HLt, HP2, HF3, HO, HX⟩
          case measure => simp [intOf]; omega
    · have HE : Hid (P = out) := by
        show _ = _
        rw [HP.out, partGo_end _ _ _ _ _ _ hlt]
      go_wp2
      go_ret
      refine ⟨_, _, _, rfl, ?_, HX0.out.trans HX.out, ?_, ?_⟩
      · rw [HE.out]
        exact HO.out.base HX0.out.size
      · rw [HE.out]
        exact HN.out
      · rw [HE.out]
        exact HLt.out
end Go.Proofs.YtenlhfimdpcaoaaGreat

namespace Go.Proofs.YtenlhfimdpcaoaaGreat
open Go.RowKit

theorem okD_get {r : Nat} {d : List Int} (h : okD r d = true) : d.length = r ∧ ∀ j, j < r → -1000 ≤ d.getD j 0 ∧ d.getD j 0 ≤ 1000 := by
  simp only [okD, Bool.and_eq_true, decide_eq_true_eq, List.all_eq_true] at h
  refine ⟨h.1, fun j hj => ?_⟩
  rw [List.getD_eq_getElem?_getD, List.getElem?_eq_getElem (by omega)]
  exact h.2 _ (List.getElem_mem _)
theorem partGo_len (bits : List Bool) (r : Nat) : ∀ (f k j : Nat) (out : List Nat), out.length ≤ (partGo bits r f k j out).length
  | 0, _, _, _ => Nat.le_refl _
  | f + 1, k, j, out => by
    rw [partGo]
    split
    · split
      · refine Nat.le_trans ?_ (partGo_len bits r f _ _ _)
        split <;> simp
      · exact partGo_len bits r f _ _ _
    · exact Nat.le_refl _
theorem rowsAt_pos (r : Nat) (ts : List Int) (i : Nat) : 0 < (rowsAt r ts i).length := partGo_len (bitsOf ts) r 64 0 0 [i]
structure LenGood (r : Nat) (ts : List Int) (i : Nat) : Prop where
  least : 1 ≤ (lenK r ts (rowsAt r ts i) ((lenI r ts i).set i 6) (rowsAt r ts i).length).2
  inn : ∀ k j, k < (rowsAt r ts i).length → j ≤ r → okD r (lenJ r ts ((rowsAt r ts i).getD k 0) j (lenK r ts (rowsAt r ts i) ((lenI r ts i).set i 6) k).1) = true
  end_ : ∀ k, k ≤ (rowsAt r ts i).length → okD r (lenD (rowsAt r ts i) (lenK r ts (rowsAt r ts i) ((lenI r ts i).set i 6) (rowsAt r ts i).length).2 (lenK r ts (rowsAt r ts i) ((lenI r ts i).set i 6) (rowsAt r ts i).length).1 k) = true
theorem lenOk_good {r : Nat} {ts : List Int} (h : lenOk r ts = true) {i : Nat} (hi : i < r) (h0 : (lenI r ts i).getD i 0 = 0) : LenGood r ts i := by
  simp only [lenOk, Bool.and_eq_true, List.all_eq_true, List.mem_range, Bool.or_eq_true, decide_eq_true_eq] at h
  rcases h.2 i hi with h1 | ⟨⟨h1, h2⟩, h3⟩
  · exact absurd h0 h1
  · exact ⟨h1, fun k j hk hj => (h2 k hk j (by omega)).1, fun k hk => h3 k (by omega)⟩
/-- two rows of numbers in memory of their own -/
structure TwoI (w0 wr : World) (B g n c gP nP cP : Nat) (D : List Int) (P : List Nat) : Prop where
  d : OwnI wr B (some ⟨g, 0, none⟩) n c D
  p : OwnI wr B (some ⟨gP, 0, none⟩) nP cP (natI P)
  x : Ext w0 wr
  ne : gP ≠ g
  hg : w0.heap.size ≤ g
theorem TwoI.below {w0 wr w' : World} {B g n c gP nP cP : Nat} {D : List Int} {P : List Nat} (h : TwoI w0 wr B g n c gP nP cP D P) (hx : Ext wr w') : TwoI w0 w' B g n c gP nP cP D P :=
  ⟨h.d.below hx, h.p.below hx, h.x.trans hx, h.ne, h.hg⟩
theorem TwoI.store {w0 wr : World} {B g n c gP nP cP : Nat} {D : List Int} {P : List Nat} (h : TwoI w0 wr B g n c gP nP cP D P) (i : Nat) (v : Int) : TwoI w0 (wr.setCell ⟨g, i, none⟩ (.int .i64 v)) B g n c gP nP cP (D.set i v) P :=
  ⟨h.d.stored i v, h.p.setFar _ _ _ h.ne, h.x.setNew _ _ h.hg _, h.ne, h.hg⟩
theorem TwoI.cell {w0 wr : World} {B g n c gP nP cP : Nat} {D : List Int} {P : List Nat} (h : TwoI w0 wr B g n c gP nP cP D P) {i : Nat} (hi : i < n) : wr.cell? ⟨g, i, none⟩ = some (.int .i64 (D.getD i 0)) ∧ wr.frozen? ⟨g, i, none⟩ = false := by
  obtain ⟨g', e', _, _, q1, q2⟩ := h.d.cell i hi
  simp only [Option.some.injEq, Addr.mk.injEq, and_true] at e'
  subst e'
  exact ⟨q1, q2⟩
theorem TwoI.row {w0 wr : World} {B g n c gP nP cP : Nat} {D : List Int} {P : List Nat} (h : TwoI w0 wr B g n c gP nP cP D P) {k : Nat} (hk : k < nP) : wr.cell? ⟨gP, k, none⟩ = some (.int .i64 (P.getD k 0 : Nat)) := by
  obtain ⟨g', e', _, _, q1, q2⟩ := h.p.cell k hk
  simp only [Option.some.injEq, Addr.mk.injEq, and_true] at e'
  subst e'
  rw [q1]
  simp [natI, List.getD_eq_getElem?_getD]
  cases P[k]? <;> rfl
theorem typeB_nz {r : Nat} {ts : List Int} (h : typeB r ts = true) {i j : Nat} (hi : i < r) (hj : j < r) (hz : atM ts r i j ≠ 0) : atM ts r j i ≠ 0 := by
  rw [typeB_eq] at h
  simp only [partsB, Bool.and_eq_true, decide_eq_true_eq, List.all_eq_true, Int.toNat_natCast] at h
  obtain ⟨⟨⟨⟨h1, h2⟩, h3⟩, h4⟩, h5⟩ := h
  have hl : ts.length = r * r := by exact_mod_cast h3
  simp only [entryB, List.all_eq_true, List.mem_range, Bool.and_eq_true, Bool.or_eq_true, decide_eq_true_eq] at h4
  have hm : i * r + j < ts.length := by
    rw [hl]
    have : (i + 1) * r ≤ r * r := Nat.mul_le_mul_right _ hi
    rw [Nat.add_mul] at this
    omega
  have h6 := (h4 (i * r + j) hm).2
  have e1 : (i * r + j) % r = j := by rw [Nat.add_comm, Nat.add_mul_mod_self_right]; exact Nat.mod_eq_of_lt hj
  have e2 : (i * r + j) / r = i := by rw [Nat.add_comm, Nat.add_mul_div_right _ _ (by omega), Nat.div_eq_of_lt hj]; omega
  rw [e1, e2] at h6
  rcases h6 with h6 | h6
  · exact absurd h6 hz
  · exact h6
structure LnStep (D : List Int) (a j : Nat) (A T1 T2 : Int) : Prop where
  mul : IntKind.i64.wrap (A * T1) = A * T1
  quo : IntKind.i64.wrap ((A * T1).tdiv T2) = (A * T1).tdiv T2
theorem ln_step {r : Nat} {ts D : List Int} (hT : typeB r ts = true) (hD : okD r D = true) {a j : Nat} (ha : a < r) : LnStep D a j (D.getD a 0) (atM ts r a j) (atM ts r j a) := by
  have h1 := (okD_get hD).2 a ha
  have h3 : -3 ≤ atM ts r a j ∧ atM ts r a j ≤ 2 := typeB_entry hT _
  have h4 : -3000 ≤ D.getD a 0 * atM ts r a j ∧ D.getD a 0 * atM ts r a j ≤ 3000 := by
    obtain ⟨h1a, h1b⟩ := h1
    obtain ⟨h3a, h3b⟩ := h3
    generalize D.getD a 0 = x at *
    generalize atM ts r a j = y at *
    rcases (by omega : y = -3 ∨ y = -2 ∨ y = -1 ∨ y = 0 ∨ y = 1 ∨ y = 2) with rfl | rfl | rfl | rfl | rfl | rfl <;> omega
  have hd := tdiv_bound (D.getD a 0 * atM ts r a j) (atM ts r j a)
  exact ⟨wrap_in (by omega) (by omega), wrap_in (by omega) (by omega)⟩

set_option maxRecDepth 100000 in
set_option maxHeartbeats 8000000 in
theorem l5Lengths_any (R : Nat) (ta : Option Addr) (tn tc : Nat) (ts : List Int) (w : World) (hc : IntsAt w ta tn ts) (hT : typeB R ts = true) (hL : lenOk R ts = true) :
    Calls Tryz.prog 195 #[carV R ta tn tc] w fun e w' => ∃ a', e = .returned (.slice a' R R) ∧ OwnI w' w.heap.size a' R R (lenL R ts) ∧ Ext w w' := by
  have hx1 := Ext.alloc w (.cells #[.int .i64 R, .slice ta tn tc] 117)
  have HC := hidP (fun w' (hx : Ext (w.alloc (.cells #[.int .i64 R, .slice ta tn tc] 117)) w') => (CarAt.new w _ rfl (R : Int) ta tn tc 117).below hx)
  have HX1 := hidP hx1
  have hrk := typeB_rank hT
  have htn : tn = R * R := by
    have h1 := hc.len
    have h2 := hrk.2.2
    have h3 : ((R * R : Nat) : Int) = R * R := Int.natCast_mul _ _
    omega
  subst htn
  have HAt := hidP (fun w' (hx : Ext w w') (k j : Nat) (hk : k < R) (hj : j < R) => l5At_any (R : Int) ta (R * R) tc ts k j w' (hc.below hx) (by rw [Int.natCast_mul]) (by omega) (by omega) (by omega))
  have HPart := hidP (fun w' (hx : Ext w w') (i : Nat) (hi : i < R) => l5Part_any R (by omega) ts ta tc i hi w' (hc.below hx))
  have HT := hidP hT
  have HL := hidP hL
  have hR4 : R ≤ 4 := by omega
  have hmk := make_ints (R : Int) (by omega) (by omega)
  simp only [Int.toNat_natCast] at hmk
  clear hc hT hL hrk hx1
  obtain ⟨w1, hw1⟩ : ∃ w1, w1 = w.alloc (.cells #[.int .i64 R, .slice ta (R * R) tc] 117) := ⟨_, rfl⟩
  have hs2 : w1.heap.size = w.heap.size + 1 := by rw [hw1]; simp
  have hm := OwnI.made w1 w.heap.size R (by omega) (by unfold maxLen; omega)
  have HX2 := hidP (Ext.alloc w1 (.cells (Array.replicate R (.int .i64 0)) 3))
  rw [hs2] at hm
  have HM := hidP hm
  have HG1 : Hid (w1.heap.size ≤ w.heap.size + 1) := by show _ ≤ _; omega
  rw [← hw1] at HC HX1
  have HW1 := hidP hw1
  obtain ⟨n2, hn2⟩ : ∃ n2, n2 = R * R := ⟨_, rfl⟩
  rw [← hn2] at HC HAt HPart HW1 ⊢
  clear hs2 hm hw1 hn2
  go_enter Tryz.func195, Tryz.ntmps195
  go_wp2
  rw [← HW1.out]
  clear HW1
  obtain ⟨g, hg⟩ : ∃ g, g = w.heap.size + 1 := ⟨_, rfl⟩
  rw [← hg] at HM HG1 ⊢
  obtain ⟨w2, hw2⟩ : ∃ w2, w2 = w1.alloc (.cells (Array.replicate R (.int .i64 0)) 3) := ⟨_, rfl⟩
  rw [← hw2] at HM HX2 ⊢
  have HGw : Hid (w.heap.size ≤ g) := by show _ ≤ _; omega
  clear hw2 hg hmk
  go_loopw [4] (fun ii wr => ∃ i : Nat, i ≤ R ∧ ii = .int .i64 i ∧ Hid (OwnI wr w.heap.size (some ⟨g, 0, none⟩) R R (lenI R ts i)) ∧ Hid (Ext w1 wr)) (fun ii _ => R - (intOf ii).toNat)
  case atStart => exact ⟨0, Nat.zero_le _, rfl, HM, HX2⟩
  case round =>
    clear HM HX2
    obtain ⟨i, hi, rfl, HO, HX⟩ := hrel
    obtain ⟨y0, y1⟩ := HC.out wr HX.out
    by_cases hlt : i < R
    · obtain ⟨g', e', _, _, q1, q2⟩ := HO.out.cell i hlt
      simp only [Option.some.injEq, Addr.mk.injEq, and_true] at e'
      subst e'
      by_cases hz : (lenI R ts i).getD i 0 = 0
      · have HG := hidP (lenOk_good HL.out hlt hz)
        have HN : Hid (lenI R ts (i + 1) = lenD (rowsAt R ts i) (lenK R ts (rowsAt R ts i) ((lenI R ts i).set i 6) (rowsAt R ts i).length).2 (lenK R ts (rowsAt R ts i) ((lenI R ts i).set i 6) (rowsAt R ts i).length).1 (rowsAt R ts i).length) := by
          show _ = _
          rw [lenI, if_neg (by simpa using hz)]
        rw [hz] at q1
        have hpp := HPart.out wr (HX1.out.trans HX.out) i hlt
        obtain ⟨P, hP⟩ : ∃ P, P = rowsAt R ts i := ⟨_, rfl⟩
        rw [show partL (bitsOf ts) R i = P from hP.symm] at hpp
        obtain ⟨D0, hD0⟩ : ∃ D0, D0 = (lenI R ts i).set i 6 := ⟨_, rfl⟩
        have HPp := hidP hpp
        have hne0 : 0 < P.length := by rw [hP]; exact rowsAt_pos R ts i
        have HGl : Hid (1 ≤ (lenK R ts P D0 P.length).2) := by rw [hP, hD0]; exact HG.out.least
        have HGi : Hid (∀ k j, k < P.length → j ≤ R → okD R (lenJ R ts (P.getD k 0) j (lenK R ts P D0 k).1) = true) := by rw [hP, hD0]; exact HG.out.inn
        have HGe : Hid (∀ k, k ≤ P.length → okD R (lenD P (lenK R ts P D0 P.length).2 (lenK R ts P D0 P.length).1 k) = true) := by rw [hP, hD0]; exact HG.out.end_
        rw [← hP, ← hD0] at HN
        have HD0 := hidP hD0
        have hgw := (HO.out.at_base g 0 rfl).2
        clear hz HG hpp hD0 hP
        go_wp2_with fail
        refine HPp.out.mono ?_
        rintro e w3 ⟨aP, nP, cP, rfl, hoP, hx3, hnd, hPl⟩
        have hPR : P.length ≤ R := nodup_le R P hnd hPl
        obtain rfl : P.length = nP := by have := hoP.len; rw [natI_length] at this; exact this
        obtain ⟨gP, rfl, _⟩ := hoP.cell 0 hne0
        have hgP := (hoP.at_base gP 0 rfl).1
        have HPl := hidP hPl
        have hT0 : TwoI w1 w3 w.heap.size g R R gP P.length cP (lenI R ts i) P := ⟨HO.out.below hx3, hoP.base (HX1.out.trans HX.out).size, HX.out.trans hx3, by omega, HG1.out⟩
        obtain ⟨c1, c2⟩ := hT0.cell hlt
        have hT1 := hT0.store i 6
        rw [← HD0.out] at hT1
        have HT1 := hidP hT1
        clear hT0 hT1 hoP hgP hgw q1 q2 y0 y1 HO hx3 HPp hPl hnd
        go_wp2
        go_loopw [6, 7] (fun ll kk wr => ∃ k : Nat, k ≤ P.length ∧ ll = .int .i64 (lenK R ts P D0 k).2 ∧ kk = .int .i64 k ∧ Hid (TwoI w1 wr w.heap.size g R R gP P.length cP (lenK R ts P D0 k).1 P)) (fun _ kk _ => P.length - (intOf kk).toNat)
        case atStart => exact ⟨0, Nat.zero_le _, rfl, rfl, HT1⟩
        case round =>
          clear HT1 c1 c2
          obtain ⟨k, hk, rfl, rfl, HT2⟩ := hrel
          by_cases hlk : k < P.length
          · have ha := HPl.out (P.getD k 0) (by rw [List.getD_eq_getElem?_getD, List.getElem?_eq_getElem hlk]; exact List.getElem_mem _)
            have hE2 : (lenK R ts P D0 (k + 1)) = (lenJ R ts (P.getD k 0) R (lenK R ts P D0 k).1, if (lenJ R ts (P.getD k 0) R (lenK R ts P D0 k).1).getD (P.getD k 0) 0 < (lenK R ts P D0 k).2 then (lenJ R ts (P.getD k 0) R (lenK R ts P D0 k).1).getD (P.getD k 0) 0 else (lenK R ts P D0 k).2) := rfl
            have HIn := hidP (fun j (hj : j ≤ R) => HGi.out k j hlk hj)
            have HRow : Hid (∀ w' D, TwoI w1 w' w.heap.size g R R gP P.length cP D P → w'.cell? ⟨gP, k, none⟩ = some (.int .i64 (P.getD k 0 : Nat))) := fun w' D h => h.row hlk
            obtain ⟨S, hS⟩ : ∃ S, S = (lenK R ts P D0 k).2 := ⟨_, rfl⟩
            obtain ⟨DK, hDK⟩ : ∃ DK, DK = (lenK R ts P D0 k).1 := ⟨_, rfl⟩
            obtain ⟨a, ha'⟩ : ∃ a, a = P.getD k 0 := ⟨_, rfl⟩
            rw [← hS, ← hDK, ← ha'] at hE2
            rw [← ha', ← hDK] at HIn
            rw [← ha'] at HRow ha
            rw [← hS]
            rw [← hDK] at HT2
            have HE2 := hidP hE2
            clear hE2 hS hDK ha'
            have hk0 : (0 : Int) ≤ (k : Int) := by omega
            have hk1 : (k : Int) < (P.length : Int) := by omega
            have ha0 : (0 : Int) ≤ (a : Int) := by omega
            have ha1 : (a : Int) < (R : Int) := by omega
            go_wp2
            go_loopw [8] (fun jj wr => ∃ j : Nat, j ≤ R ∧ jj = .int .i64 j ∧ Hid (TwoI w1 wr w.heap.size g R R gP P.length cP (lenJ R ts a j DK) P)) (fun jj _ => R - (intOf jj).toNat)
            case atStart => exact ⟨0, Nat.zero_le _, rfl, HT2⟩
            case round =>
              clear HT2
              obtain ⟨j, hj, rfl, HT2⟩ := hrel
              obtain ⟨y0, y1⟩ := HC.out _ HT2.out.x
              by_cases hlj : j < R
              · have hst := ln_step HT.out (HIn.out j hj) (j := j) ha
                have hNx : lenJ R ts a (j + 1) DK = if (lenJ R ts a j DK).getD j 0 = 0 ∧ atM ts R a j ≠ 0 then (lenJ R ts a j DK).set j (((lenJ R ts a j DK).getD a 0 * atM ts R a j).tdiv (atM ts R j a)) else lenJ R ts a j DK := rfl
                have hnz := typeB_nz HT.out ha hlj
                have HF : Hid (∀ w', Ext wr w' → w'.cell? ⟨g, j, none⟩ = some (.int .i64 ((lenJ R ts a j DK).getD j 0)) ∧ w'.frozen? ⟨g, j, none⟩ = false ∧ w'.cell? ⟨g, a, none⟩ = some (.int .i64 ((lenJ R ts a j DK).getD a 0)) ∧ w'.cell? ⟨gP, k, none⟩ = some (.int .i64 a)) := by
                  show ∀ w', _
                  intro w' hx
                  have h1 := HT2.out.below hx
                  exact ⟨(h1.cell hlj).1, (h1.cell hlj).2, (h1.cell ha).1, HRow.out _ _ h1⟩
                have HSt : Hid (∀ w' v, Ext wr w' → TwoI w1 (w'.setCell ⟨g, j, none⟩ (.int .i64 v)) w.heap.size g R R gP P.length cP ((lenJ R ts a j DK).set j v) P) := fun w' v hx => (HT2.out.below hx).store j v
                have HA1 := hidP (fun w' (hx : Ext w1 w') => HAt.out w' (HX1.out.trans hx) a j ha hlj)
                have HA2 := hidP (fun w' (hx : Ext w1 w') => HAt.out w' (HX1.out.trans hx) j a hlj ha)
                obtain ⟨DJ, hDJ⟩ : ∃ DJ, DJ = lenJ R ts a j DK := ⟨_, rfl⟩
                rw [← hDJ] at HF HSt hNx hst HT2
                obtain ⟨Z, hZ⟩ : ∃ Z, Z = DJ.getD j 0 := ⟨_, rfl⟩
                obtain ⟨A, hA⟩ : ∃ A, A = DJ.getD a 0 := ⟨_, rfl⟩
                obtain ⟨T1, hT1⟩ : ∃ T1, T1 = atM ts R a j := ⟨_, rfl⟩
                obtain ⟨T2, hT2⟩ : ∃ T2, T2 = atM ts R j a := ⟨_, rfl⟩
                rw [← hZ, ← hA, ← hT1, ← hT2] at hNx
                rw [← hA, ← hT1, ← hT2] at hst
                rw [← hZ, ← hA] at HF
                rw [← hT1, ← hT2] at hnz
                simp only [Int.toNat_natCast, ← hT1] at HA1
                simp only [Int.toNat_natCast, ← hT2] at HA2
                have HNx := hidP hNx
                have hj0 : (0 : Int) ≤ (j : Int) := by omega
                have hj1 : (j : Int) < (R : Int) := by omega
                clear hNx hDJ hZ hA hT1 hT2
                have hE : Ext wr wr.drew := Ext.drew wr
                by_cases hz0 : Z = 0
                · have hzb : (Z == 0) = true := by simpa using hz0
                  by_cases ht1 : T1 = 0
                  · have htb : (T1 != 0) = false := by simpa using ht1
                    have HN2 : Hid (lenJ R ts a (j + 1) DK = DJ) := by show _ = _; rw [HNx.out, if_neg (by simp [ht1])]
                    clear hz0 ht1 hst hnz HNx
                    go_wp2
                    (refine walkR_start (fun w' => Ext wr w') 14 (by kernel_rfl) ?_; simp only [numbered, List.take_succ_cons, List.take_zero, Nat.zero_add, Nat.reduceAdd, List.length_cons, List.length_nil])
                    (repeat (first | (refine walkR_still (v := ?_) rfl (by decide +kernel) rfl (fun _ _ _ h => h) hE ?_ ?_; rotate_left; (focus (intro w' hw'; obtain ⟨q1, q2, q3, q4⟩ := HF.out w' hw'; obtain ⟨f0, f1⟩ := HC.out w' (HT2.out.x.trans hw'); go_simp; all_goals (with_reducible rfl))); simp only [Act.put, List.setIfInBounds_toArray, List.set_cons_zero, List.set_cons_succ]) | (refine walkR_skip rfl (by decide +kernel) rfl (fun _ _ _ h => h) hE ?_; simp only [Act.put, List.setIfInBounds_toArray, List.set_cons_zero, List.set_cons_succ])))
                    (refine walkR_only (fun w' => Ext wr w') rfl (by decide +kernel) rfl (fun _ h => h) ?_; intro K hK; go_simp; refine (HA1.out _ (HT2.out.x.trans hE)).mono ?_; rintro e w4 ⟨rfl, hx4⟩; refine hK _ _ (hE.trans hx4) ?_; clear hK K; (try simp only [Act.put, List.setIfInBounds_toArray, List.set_cons_zero, List.set_cons_succ]))
                    have hE4 := hE.trans hx4
                    (repeat (first | (refine walkR_still (v := ?_) rfl (by decide +kernel) rfl (fun _ _ _ h => h) hE4 ?_ ?_; rotate_left; (focus (intro w' hw'; skip; go_simp; all_goals (with_reducible rfl))); simp only [Act.put, List.setIfInBounds_toArray, List.set_cons_zero, List.set_cons_succ]) | (refine walkR_skip rfl (by decide +kernel) rfl (fun _ _ _ h => h) hE4 ?_; simp only [Act.put, List.setIfInBounds_toArray, List.set_cons_zero, List.set_cons_succ])))
                    (refine walkR_tail (by rfl) (by kernel_rfl) ?_; simp only [List.drop_succ_cons, List.drop_zero])
                    have HT3 := hidP (HT2.out.below hE4)
                    rw [← HN2.out] at HT3
                    clear hx4 hE hE4
                    go_wp2
                    go_roundw
                    case rel => exact ⟨j + 1, by omega, by go_num, HT3⟩
                    case measure => simp [intOf]; omega
                  · have htb : (T1 != 0) = true := by simpa using ht1
                    have HN2 : Hid (lenJ R ts a (j + 1) DK = DJ.set j ((A * T1).tdiv T2)) := by show _ = _; rw [HNx.out, if_pos ⟨hz0, ht1⟩]
                    have hT2n : ¬ (T2 = 0) := hnz ht1
                    have hmul := hst.mul
                    have hquo := hst.quo
                    clear hz0 ht1 hst hnz HNx
                    go_wp2
                    (refine walkR_start (fun w' => Ext wr w') 14 (by kernel_rfl) ?_; simp only [numbered, List.take_succ_cons, List.take_zero, Nat.zero_add, Nat.reduceAdd, List.length_cons, List.length_nil])
                    (repeat (first | (refine walkR_still (v := ?_) rfl (by decide +kernel) rfl (fun _ _ _ h => h) hE ?_ ?_; rotate_left; (focus (intro w' hw'; obtain ⟨q1, q2, q3, q4⟩ := HF.out w' hw'; obtain ⟨f0, f1⟩ := HC.out w' (HT2.out.x.trans hw'); go_simp; all_goals (with_reducible rfl))); simp only [Act.put, List.setIfInBounds_toArray, List.set_cons_zero, List.set_cons_succ]) | (refine walkR_skip rfl (by decide +kernel) rfl (fun _ _ _ h => h) hE ?_; simp only [Act.put, List.setIfInBounds_toArray, List.set_cons_zero, List.set_cons_succ])))
                    (refine walkR_only (fun w' => Ext wr w') rfl (by decide +kernel) rfl (fun _ h => h) ?_; intro K hK; go_simp; refine (HA1.out _ (HT2.out.x.trans hE)).mono ?_; rintro e w4 ⟨rfl, hx4⟩; refine hK _ _ (hE.trans hx4) ?_; clear hK K; (try simp only [Act.put, List.setIfInBounds_toArray, List.set_cons_zero, List.set_cons_succ]))
                    have hE4 := hE.trans hx4
                    (repeat (first | (refine walkR_still (v := ?_) rfl (by decide +kernel) rfl (fun _ _ _ h => h) hE4 ?_ ?_; rotate_left; (focus (intro w' hw'; skip; go_simp; all_goals (with_reducible rfl))); simp only [Act.put, List.setIfInBounds_toArray, List.set_cons_zero, List.set_cons_succ]) | (refine walkR_skip rfl (by decide +kernel) rfl (fun _ _ _ h => h) hE4 ?_; simp only [Act.put, List.setIfInBounds_toArray, List.set_cons_zero, List.set_cons_succ])))
                    (refine walkR_tail (by rfl) (by kernel_rfl) ?_; simp only [List.drop_succ_cons, List.drop_zero])
                    have hE5 := hE4.trans (Ext.drew _)
                    go_wp2
                    (refine walkR_start (fun w' => Ext wr w') 25 (by kernel_rfl) ?_; simp only [numbered, List.take_succ_cons, List.take_zero, Nat.zero_add, Nat.reduceAdd, List.length_cons, List.length_nil])
                    (repeat (first | (refine walkR_still (v := ?_) rfl (by decide +kernel) rfl (fun _ _ _ h => h) hE5 ?_ ?_; rotate_left; (focus (intro w' hw'; obtain ⟨q1, q2, q3, q4⟩ := HF.out w' hw'; obtain ⟨f0, f1⟩ := HC.out w' (HT2.out.x.trans hw'); go_simp; all_goals (with_reducible rfl))); simp only [Act.put, List.setIfInBounds_toArray, List.set_cons_zero, List.set_cons_succ]) | (refine walkR_skip rfl (by decide +kernel) rfl (fun _ _ _ h => h) hE5 ?_; simp only [Act.put, List.setIfInBounds_toArray, List.set_cons_zero, List.set_cons_succ])))
                    (refine walkR_later ?_; simp only [List.cons_append, List.nil_append])
                    (refine walkR_later ?_; simp only [List.cons_append, List.nil_append])
                    (repeat (first | (refine walkR_still (v := ?_) rfl (by decide +kernel) rfl (fun _ _ _ h => h) hE5 ?_ ?_; rotate_left; (focus (intro w' hw'; obtain ⟨q1, q2, q3, q4⟩ := HF.out w' hw'; obtain ⟨f0, f1⟩ := HC.out w' (HT2.out.x.trans hw'); go_simp; all_goals (with_reducible rfl))); simp only [Act.put, List.setIfInBounds_toArray, List.set_cons_zero, List.set_cons_succ]) | (refine walkR_skip rfl (by decide +kernel) rfl (fun _ _ _ h => h) hE5 ?_; simp only [Act.put, List.setIfInBounds_toArray, List.set_cons_zero, List.set_cons_succ])))
                    (refine walkR_later ?_; simp only [List.cons_append, List.nil_append]); (refine walkR_later ?_; simp only [List.cons_append, List.nil_append])
                    (refine walkR_only (fun w' => Ext wr w') rfl (by decide +kernel) rfl (fun _ h => h) ?_; intro K hK; go_simp; refine (HA1.out _ (HT2.out.x.trans hE5)).mono ?_; rintro e w6 ⟨rfl, hx6⟩; refine hK _ _ (hE5.trans hx6) ?_; clear hK K; (try simp only [Act.put, List.setIfInBounds_toArray, List.set_cons_zero, List.set_cons_succ]))
                    have hE6 := hE5.trans hx6
                    (repeat (first | (refine walkR_still (v := ?_) rfl (by decide +kernel) rfl (fun _ _ _ h => h) hE6 ?_ ?_; rotate_left; (focus (intro w' hw'; obtain ⟨q1, q2, q3, q4⟩ := HF.out w' hw'; go_simp; all_goals (with_reducible rfl))); simp only [Act.put, List.setIfInBounds_toArray, List.set_cons_zero, List.set_cons_succ]) | (refine walkR_skip rfl (by decide +kernel) rfl (fun _ _ _ h => h) hE6 ?_; simp only [Act.put, List.setIfInBounds_toArray, List.set_cons_zero, List.set_cons_succ])))
                    (refine walkR_only (fun w' => Ext wr w') rfl (by decide +kernel) rfl (fun _ h => h) ?_; intro K hK; go_simp; refine (HA2.out _ (HT2.out.x.trans hE6)).mono ?_; rintro e w7 ⟨rfl, hx7⟩; refine hK _ _ (hE6.trans hx7) ?_; clear hK K; (try simp only [Act.put, List.setIfInBounds_toArray, List.set_cons_zero, List.set_cons_succ]))
                    have hE7 := hE6.trans hx7
                    (repeat (first | (refine walkR_still (v := ?_) rfl (by decide +kernel) rfl (fun _ _ _ h => h) hE7 ?_ ?_; rotate_left; (focus (intro w' hw'; obtain ⟨q1, q2, q3, q4⟩ := HF.out w' hw'; go_simp; all_goals (with_reducible rfl))); simp only [Act.put, List.setIfInBounds_toArray, List.set_cons_zero, List.set_cons_succ]) | (refine walkR_skip rfl (by decide +kernel) rfl (fun _ _ _ h => h) hE7 ?_; simp only [Act.put, List.setIfInBounds_toArray, List.set_cons_zero, List.set_cons_succ])))
                    (refine walkR_tail (by rfl) (by kernel_rfl) ?_; simp only [List.drop_succ_cons, List.drop_zero])
                    obtain ⟨q1, q2, q3, q4⟩ := HF.out w7 hE7
                    have HT3 := hidP (HSt.out w7 ((A * T1).tdiv T2) hE7)
                    rw [← HN2.out] at HT3
                    clear hx4 hE hE4 hE5 hE6 hx6 hx7 hE7 q3 q4
                    go_wp2
                    go_roundw
                    case rel => exact ⟨j + 1, by omega, by go_num, HT3⟩
                    case measure => simp [intOf]; omega
                · have hzb : (Z == 0) = false := by simpa using hz0
                  have HN2 : Hid (lenJ R ts a (j + 1) DK = DJ) := by show _ = _; rw [HNx.out, if_neg (by simp [hz0])]
                  clear hz0 hst hnz HNx
                  go_wp2
                  (refine walkR_start (fun w' => Ext wr w') 14 (by kernel_rfl) ?_; simp only [numbered, List.take_succ_cons, List.take_zero, Nat.zero_add, Nat.reduceAdd, List.length_cons, List.length_nil])
                  (repeat (first | (refine walkR_still (v := ?_) rfl (by decide +kernel) rfl (fun _ _ _ h => h) hE ?_ ?_; rotate_left; (focus (intro w' hw'; obtain ⟨q1, q2, q3, q4⟩ := HF.out w' hw'; go_simp; all_goals (with_reducible rfl))); simp only [Act.put, List.setIfInBounds_toArray, List.set_cons_zero, List.set_cons_succ]) | (refine walkR_skip rfl (by decide +kernel) rfl (fun _ _ _ h => h) hE ?_; simp only [Act.put, List.setIfInBounds_toArray, List.set_cons_zero, List.set_cons_succ])))
                  (refine walkR_tail (by rfl) (by kernel_rfl) ?_; simp only [List.drop_succ_cons, List.drop_zero])
                  have HT3 := hidP (HT2.out.below hE)
                  rw [← HN2.out] at HT3
                  clear hE
                  go_wp2
                  go_roundw
                  case rel => exact ⟨j + 1, by omega, by go_num, HT3⟩
                  case measure => simp [intOf]; omega
              · obtain rfl : R = j := by omega
                have hcell := (HT2.out.cell ha).1
                have hrow := HRow.out _ _ HT2.out
                have HE1 : Hid ((lenK R ts P D0 (k + 1)).1 = lenJ R ts a R DK) := by show _ = _; rw [HE2.out]
                have hS1 : (lenK R ts P D0 (k + 1)).2 = if (lenJ R ts a R DK).getD a 0 < S then (lenJ R ts a R DK).getD a 0 else S := by rw [HE2.out]
                obtain ⟨V, hV⟩ : ∃ V, V = (lenJ R ts a R DK).getD a 0 := ⟨_, rfl⟩
                rw [← hV] at hcell hS1
                rw [← HE1.out] at HT2
                clear hV
                by_cases hvs : V < S
                · rw [if_pos hvs] at hS1
                  have HS1 := hidP hS1
                  clear hS1
                  go_wp2
                  go_roundw
                  case rel => exact ⟨k + 1, by omega, by rw [HS1.out], by go_num, HT2⟩
                  case measure => simp [intOf]; omega
                · rw [if_neg hvs] at hS1
                  have HS1 := hidP hS1
                  clear hS1
                  go_wp2
                  go_roundw
                  case rel => exact ⟨k + 1, by omega, by rw [HS1.out], by go_num, HT2⟩
                  case measure => simp [intOf]; omega
          · obtain rfl : P.length = k := by omega
            obtain ⟨S, hS⟩ : ∃ S, S = (lenK R ts P D0 P.length).2 := ⟨_, rfl⟩
            rw [← hS] at HGl HGe HN ⊢
            obtain ⟨DK, hDK⟩ : ∃ DK, DK = (lenK R ts P D0 P.length).1 := ⟨_, rfl⟩
            rw [← hDK] at HGe HT2 HN
            have hS0 : ¬ (S = 0) := by have := HGl.out; omega
            clear hS hDK
            go_wp2
            go_loopw [9] (fun kk wr => ∃ k : Nat, k ≤ P.length ∧ kk = .int .i64 k ∧ Hid (TwoI w1 wr w.heap.size g R R gP P.length cP (lenD P S DK k) P)) (fun kk _ => P.length - (intOf kk).toNat)
            case atStart => exact ⟨0, Nat.zero_le _, rfl, HT2⟩
            case round =>
              clear HT2
              obtain ⟨k, hk, rfl, HT2⟩ := hrel
              by_cases hlk : k < P.length
              · have ha := HPl.out (P.getD k 0) (by rw [List.getD_eq_getElem?_getD, List.getElem?_eq_getElem hlk]; exact List.getElem_mem _)
                have hNx : lenD P S DK (k + 1) = (lenD P S DK k).set (P.getD k 0) (((lenD P S DK k).getD (P.getD k 0) 0).tdiv S) := rfl
                have hbd := (okD_get (HGe.out k hk)).2 (P.getD k 0) ha
                have HF : Hid (∀ w', Ext wr w' → w'.cell? ⟨g, P.getD k 0, none⟩ = some (.int .i64 ((lenD P S DK k).getD (P.getD k 0) 0)) ∧ w'.frozen? ⟨g, P.getD k 0, none⟩ = false ∧ w'.cell? ⟨gP, k, none⟩ = some (.int .i64 (P.getD k 0 : Nat))) := by
                  show ∀ w', _
                  intro w' hx
                  have h1 := HT2.out.below hx
                  exact ⟨(h1.cell ha).1, (h1.cell ha).2, h1.row hlk⟩
                have HSt : Hid (∀ w' v, Ext wr w' → TwoI w1 (w'.setCell ⟨g, P.getD k 0, none⟩ (.int .i64 v)) w.heap.size g R R gP P.length cP ((lenD P S DK k).set (P.getD k 0) v) P) := fun w' v hx => (HT2.out.below hx).store _ v
                obtain ⟨a, ha'⟩ : ∃ a, a = P.getD k 0 := ⟨_, rfl⟩
                rw [← ha'] at HF HSt hNx hbd ha
                obtain ⟨V, hV⟩ : ∃ V, V = (lenD P S DK k).getD a 0 := ⟨_, rfl⟩
                rw [← hV] at HF hNx hbd
                have hd := tdiv_bound V S
                have hquo : IntKind.i64.wrap (V.tdiv S) = V.tdiv S := wrap_in (by omega) (by omega)
                have HNx := hidP hNx
                have hk0 : (0 : Int) ≤ (k : Int) := by omega
                have hk1 : (k : Int) < (P.length : Int) := by omega
                have ha0 : (0 : Int) ≤ (a : Int) := by omega
                have ha1 : (a : Int) < (R : Int) := by omega
                clear hNx hV ha' hd hbd
                have hE : Ext wr wr.drew := Ext.drew wr
                go_wp2
                (refine walkR_start (fun w' => Ext wr w') 14 (by kernel_rfl) ?_; simp only [numbered, List.take_succ_cons, List.take_zero, Nat.zero_add, Nat.reduceAdd, List.length_cons, List.length_nil])
                (repeat (first | (refine walkR_still (v := ?_) rfl (by decide +kernel) rfl (fun _ _ _ h => h) hE ?_ ?_; rotate_left; (focus (intro w' hw'; obtain ⟨q1, q2, q3⟩ := HF.out w' hw'; go_simp; all_goals (with_reducible rfl))); simp only [Act.put, List.setIfInBounds_toArray, List.set_cons_zero, List.set_cons_succ]) | (refine walkR_skip rfl (by decide +kernel) rfl (fun _ _ _ h => h) hE ?_; simp only [Act.put, List.setIfInBounds_toArray, List.set_cons_zero, List.set_cons_succ])))
                (refine walkR_tail (by rfl) (by kernel_rfl) ?_; simp only [List.drop_succ_cons, List.drop_zero])
                obtain ⟨q1, q2, q3⟩ := HF.out _ hE
                have HT3 := hidP (HSt.out _ (V.tdiv S) hE)
                rw [← HNx.out] at HT3
                clear hE q3
                go_wp2
                go_roundw
                case rel => exact ⟨k + 1, by omega, by go_num, HT3⟩
                case measure => simp [intOf]; omega
              · obtain rfl : P.length = k := by omega
                have HO2 := hidP HT2.out.d
                rw [← HN.out] at HO2
                have HX2 := hidP HT2.out.x
                go_wp2
                go_roundw
                case rel => exact ⟨i + 1, by omega, by go_num, HO2, HX2⟩
                case measure => simp [intOf]; omega
      · have HN : Hid (lenI R ts (i + 1) = lenI R ts i) := by show _ = _; rw [lenI, if_pos hz]
        rw [← HN.out] at HO
        obtain ⟨Z, hZ⟩ : ∃ Z, Z = (lenI R ts i).getD i 0 := ⟨_, rfl⟩
        rw [← hZ] at q1 hz
        clear hZ
        go_wp2
        go_roundw
        case rel => exact ⟨i + 1, by omega, by go_num, HO, HX⟩
        case measure => simp [intOf]; omega
    · obtain rfl : R = i := by omega
      go_wp2
      go_ret
      exact ⟨_, rfl, HO.out, HX1.out.trans HX.out⟩
end Go.Proofs.YtenlhfimdpcaoaaGreat

namespace Go.Proofs.YtenlhfimdpcaoaaGreat
open Go.RowKit

theorem mul_bd {x y A B : Int} (hx : -A ≤ x ∧ x ≤ A) (hy : -B ≤ y ∧ y ≤ B) : -(A * B) ≤ x * y ∧ x * y ≤ A * B := by
  have h1 : (x.natAbs : Int) ≤ A := by omega
  have h2 : (y.natAbs : Int) ≤ B := by omega
  have h3 : ((x * y).natAbs : Int) ≤ A * B := by
    rw [Int.natAbs_mul, Int.natCast_mul]
    exact Int.mul_le_mul h1 h2 (by omega) (by omega)
  omega
def innF (r : Nat) (ts x y : List Int) (i : Nat) : Int := x.getD i 0 * (lenL r ts).getD i 0 * (wgtL r ts y).getD i 0
theorem innL_eq (r : Nat) (ts x y : List Int) : innL r ts x y = sumTo r (innF r ts x y) := rfl
structure InStep (S X D V : Int) : Prop where
  m1 : IntKind.i64.wrap (X * D) = X * D
  m2 : IntKind.i64.wrap (X * D * V) = X * D * V
  add : IntKind.i64.wrap (S + X * D * V) = S + X * D * V
theorem okD_lens {r : Nat} {ts : List Int} (h : lenOk r ts = true) : okD r (lenL r ts) = true := by
  simp only [lenOk, Bool.and_eq_true] at h
  exact h.1
theorem innF_bd {r : Nat} {ts x y : List Int} (hT : typeB r ts = true) (hL : lenOk r ts = true) (hx : ∀ j, j < r → -1000 ≤ x.getD j 0 ∧ x.getD j 0 ≤ 1000) (hy : ∀ j, j < r → -1000 ≤ y.getD j 0 ∧ y.getD j 0 ≤ 1000) {i : Nat} (hi : i < r) :
    (-1000000 ≤ x.getD i 0 * (lenL r ts).getD i 0 ∧ x.getD i 0 * (lenL r ts).getD i 0 ≤ 1000000) ∧ (-12000000000 ≤ innF r ts x y i ∧ innF r ts x y i ≤ 12000000000) := by
  have h1 := mul_bd (hx i hi) ((okD_get (okD_lens hL)).2 i hi)
  have h2 := wgtS_bd hT (by omega) hy i (Nat.le_refl r)
  rw [← wgtL_get r ts y i hi] at h2
  have h3 := mul_bd (A := 1000000) (B := 12000) ⟨by omega, by omega⟩ (⟨by omega, by omega⟩ : -12000 ≤ (wgtL r ts y).getD i 0 ∧ (wgtL r ts y).getD i 0 ≤ 12000) (x := x.getD i 0 * (lenL r ts).getD i 0)
  unfold innF
  exact ⟨⟨by omega, by omega⟩, by omega, by omega⟩
theorem innS_bd {r : Nat} {ts x y : List Int} (hT : typeB r ts = true) (hL : lenOk r ts = true) (hx : ∀ j, j < r → -1000 ≤ x.getD j 0 ∧ x.getD j 0 ≤ 1000) (hy : ∀ j, j < r → -1000 ≤ y.getD j 0 ∧ y.getD j 0 ≤ 1000) {k : Nat} (hk : k ≤ r) :
    -48000000000 ≤ sumTo k (innF r ts x y) ∧ sumTo k (innF r ts x y) ≤ 48000000000 := by
  have h := sum_bd (f := innF r ts x y) (M := 12000000000) k fun i hi => (innF_bd hT hL hx hy (by omega)).2
  have hr := typeB_rank hT
  have h4 : (k : Int) * 12000000000 ≤ 4 * 12000000000 := Int.mul_le_mul_of_nonneg_right (by omega) (by omega)
  omega
theorem in_step {r : Nat} {ts x y : List Int} (hT : typeB r ts = true) (hL : lenOk r ts = true) (hx : ∀ j, j < r → -1000 ≤ x.getD j 0 ∧ x.getD j 0 ≤ 1000) (hy : ∀ j, j < r → -1000 ≤ y.getD j 0 ∧ y.getD j 0 ≤ 1000) {i : Nat} (hi : i < r) :
    InStep (sumTo i (innF r ts x y)) (x.getD i 0) ((lenL r ts).getD i 0) ((wgtL r ts y).getD i 0) := by
  obtain ⟨h1, h2⟩ := innF_bd hT hL hx hy hi
  have h3 := innS_bd hT hL hx hy (Nat.le_of_lt hi)
  unfold innF at h2
  exact ⟨wrap_in (by omega) (by omega), wrap_in (by omega) (by omega), wrap_in (by omega) (by omega)⟩

set_option maxHeartbeats 2000000 in
theorem l5Inner_any (R : Nat) (ta : Option Addr) (tn tc : Nat) (ts : List Int) (ax ay : Option Addr) (cx cy : Nat) (X Y : List Int) (w : World) (hc : IntsAt w ta tn ts) (hT : typeB R ts = true) (hL : lenOk R ts = true)
    (hx : IntsAt w ax R X) (hy : IntsAt w ay R Y) (hbx : ∀ j, j < R → -1000 ≤ X.getD j 0 ∧ X.getD j 0 ≤ 1000) (hby : ∀ j, j < R → -1000 ≤ Y.getD j 0 ∧ Y.getD j 0 ≤ 1000) :
    Calls Tryz.prog 196 #[carV R ta tn tc, .slice ax R cx, .slice ay R cy] w fun e w' => e = .returned (.int .i64 (innL R ts X Y)) ∧ Ext w w' := by
  have hx1 := Ext.alloc w (.cells #[.int .i64 R, .slice ta tn tc] 117)
  have HC := hidP (fun w' (hx : Ext (w.alloc (.cells #[.int .i64 R, .slice ta tn tc] 117)) w') => (CarAt.new w _ rfl (R : Int) ta tn tc 117).below hx)
  have HX1 := hidP hx1
  have hrk := typeB_rank hT
  have hR4 : R ≤ 4 := by omega
  have HLe := hidP (fun w' (h : Ext w w') => l5Lengths_any R ta tn tc ts w' (hc.below h) hT hL)
  have HWe := hidP (fun w' (h : Ext w w') => l5Weight_any R ta tn tc ts ay R cy Y w' (hc.below h) hT (hy.below h) hy.len (fun j hj => by have := hby j hj; omega))
  have HIn := hidP hx
  have HSt := hidP (fun i (hi : i < R) => in_step hT hL hbx hby hi)
  clear hc hT hL hx hy hbx hby hx1 hrk
  obtain ⟨w1, hw1⟩ : ∃ w1, w1 = w.alloc (.cells #[.int .i64 R, .slice ta tn tc] 117) := ⟨_, rfl⟩
  rw [← hw1] at HC HX1
  obtain ⟨y0, y1⟩ := HC.out w1 (Ext.refl _)
  go_enter Tryz.func196, Tryz.ntmps196
  go_wp2_with fail
  rw [← hw1]
  clear hw1
  refine (HLe.out _ HX1.out).mono ?_
  rintro e w2 ⟨aD, rfl, hoD, hx2⟩
  obtain ⟨z0, z1⟩ := HC.out w2 hx2
  clear y0 y1
  go_wp2_with fail
  refine (HWe.out _ (HX1.out.trans hx2)).mono ?_
  rintro e w3 ⟨aV, rfl, hoV, hx3⟩
  have HX3 := hidP (hx2.trans hx3)
  have HD := hidP (hoD.below hx3)
  have HV := hidP hoV
  clear z0 z1 hx2 hx3 hoD hoV
  obtain ⟨z0, z1⟩ := HC.out w3 HX3.out
  go_wp2
  clear z0 z1
  go_loopw [9, 10] (fun ss ii wr => ∃ i : Nat, i ≤ R ∧ ss = .int .i64 (sumTo i (innF R ts X Y)) ∧ ii = .int .i64 i ∧ Hid (Ext w3 wr)) (fun _ ii _ => R - (intOf ii).toNat)
  case atStart => exact ⟨0, Nat.zero_le _, rfl, rfl, Ext.refl _⟩
  case round =>
    obtain ⟨i, hi, rfl, rfl, HX⟩ := hrel
    obtain ⟨y0, y1⟩ := HC.out wr (HX3.out.trans HX.out)
    by_cases hlt : i < R
    · have hst := HSt.out i hlt
      have hN : sumTo (i + 1) (innF R ts X Y) = sumTo i (innF R ts X Y) + X.getD i 0 * (lenL R ts).getD i 0 * (wgtL R ts Y).getD i 0 := rfl
      obtain ⟨b, o, rfl, qx⟩ := HIn.out.one i hlt
      obtain ⟨gD, rfl, _⟩ := HD.out.cell i hlt
      obtain ⟨gV, rfl, _⟩ := HV.out.cell i hlt
      have HF : Hid (∀ w', Ext wr w' → w'.cell? ⟨b, o + i, none⟩ = some (.int .i64 (X.getD i 0)) ∧ w'.cell? ⟨gD, i, none⟩ = some (.int .i64 ((lenL R ts).getD i 0)) ∧ w'.cell? ⟨gV, i, none⟩ = some (.int .i64 ((wgtL R ts Y).getD i 0))) := by
        show ∀ w', _
        intro w' hx
        have hx3 := HX.out.trans hx
        obtain ⟨g1, e1, _, _, q1, _⟩ := (HD.out.below hx3).cell i hlt
        obtain ⟨g2, e2, _, _, q2, _⟩ := (HV.out.below hx3).cell i hlt
        simp only [Option.some.injEq, Addr.mk.injEq, and_true] at e1 e2
        subst e1
        subst e2
        exact ⟨qx w' ((HX1.out.trans HX3.out).trans hx3), q1, q2⟩
      obtain ⟨S, hS⟩ : ∃ S, S = sumTo i (innF R ts X Y) := ⟨_, rfl⟩
      obtain ⟨P, hP⟩ : ∃ P, P = X.getD i 0 := ⟨_, rfl⟩
      obtain ⟨D, hD⟩ : ∃ D, D = (lenL R ts).getD i 0 := ⟨_, rfl⟩
      obtain ⟨V, hV⟩ : ∃ V, V = (wgtL R ts Y).getD i 0 := ⟨_, rfl⟩
      rw [← hS, ← hP, ← hD, ← hV] at hst hN
      rw [← hP, ← hD, ← hV] at HF
      rw [← hS]
      have HN := hidP hN
      have m1 := hst.m1
      have m2 := hst.m2
      have m3 := hst.add
      have hi0 : (0 : Int) ≤ (i : Int) := by omega
      have hiR : (i : Int) < (R : Int) := by omega
      clear hst hN hS hP hD hV qx
      have hE : Ext wr wr.drew := Ext.drew wr
      go_wp2
      (refine walkR_start (fun w' => Ext wr w') 16 (by kernel_rfl) ?_; simp only [numbered, List.take_succ_cons, List.take_zero, Nat.zero_add, Nat.reduceAdd, List.length_cons, List.length_nil])
      (repeat (first | (refine walkR_still (v := ?_) rfl (by decide +kernel) rfl (fun _ _ _ h => h) hE ?_ ?_; rotate_left; (focus (intro w' hw'; obtain ⟨q1, q2, q3⟩ := HF.out w' hw'; go_simp; all_goals (with_reducible rfl))); simp only [Act.put, List.setIfInBounds_toArray, List.set_cons_zero, List.set_cons_succ]) | (refine walkR_skip rfl (by decide +kernel) rfl (fun _ _ _ h => h) hE ?_; simp only [Act.put, List.setIfInBounds_toArray, List.set_cons_zero, List.set_cons_succ])))
      (refine walkR_tail (by rfl) (by kernel_rfl) ?_; simp only [List.drop_succ_cons, List.drop_zero])
      have HX4 := hidP (HX.out.trans hE)
      clear hE
      go_wp2
      go_roundw
      case rel => exact ⟨i + 1, by omega, by rw [HN.out], by go_num, HX4⟩
      case measure => simp [intOf]; omega
    · obtain rfl : R = i := by omega
      have HE : Hid (innL R ts X Y = sumTo R (innF R ts X Y)) := rfl
      go_wp2
      go_ret
      exact ⟨by rw [HE.out]; rfl, (HX1.out.trans HX3.out).trans HX.out⟩
def corTo (r : Nat) (ts x : List Int) (k : Nat) : List Int := partly (List.replicate r 0) (corL r ts x) k
theorem corL_get (r : Nat) (ts x : List Int) (i : Nat) (hi : i < r) : (corL r ts x).getD i 0 = (x.getD i 0 * (lenL r ts).getD i 0).tdiv ((innL r ts x x).tdiv 2) := by simp [corL, List.getD_eq_getElem?_getD, hi]
theorem corL_length (r : Nat) (ts x : List Int) : (corL r ts x).length = r := by simp [corL]
set_option maxHeartbeats 2000000 in
theorem l5Coroot_any (R : Nat) (ta : Option Addr) (tn tc : Nat) (ts : List Int) (ax : Option Addr) (cx : Nat) (X : List Int) (w : World) (hc : IntsAt w ta tn ts) (hT : typeB R ts = true) (hL : lenOk R ts = true)
    (hx : IntsAt w ax R X) (hbx : ∀ j, j < R → -1000 ≤ X.getD j 0 ∧ X.getD j 0 ≤ 1000) (hh : (innL R ts X X).tdiv 2 ≠ 0) :
    Calls Tryz.prog 172 #[carV R ta tn tc, .slice ax R cx] w fun e w' => ∃ a, e = .returned (.slice a R R) ∧ OwnI w' w.heap.size a R R (corL R ts X) ∧ Ext w w' := by
  have hx1 := Ext.alloc w (.cells #[.int .i64 R, .slice ta tn tc] 117)
  have HC := hidP (fun w' (hx : Ext (w.alloc (.cells #[.int .i64 R, .slice ta tn tc] 117)) w') => (CarAt.new w _ rfl (R : Int) ta tn tc 117).below hx)
  have HX1 := hidP hx1
  have hrk := typeB_rank hT
  have hR4 : R ≤ 4 := by omega
  have HLe := hidP (fun w' (h : Ext w w') => l5Lengths_any R ta tn tc ts w' (hc.below h) hT hL)
  have HInn := hidP (fun w' (h : Ext w w') => l5Inner_any R ta tn tc ts ax ax cx cx X X w' (hc.below h) hT hL (hx.below h) (hx.below h) hbx hbx)
  have hib := innS_bd hT hL hbx hbx (Nat.le_refl R)
  have HIn := hidP hx
  have HBd := hidP (fun i (hi : i < R) => (innF_bd hT hL hbx hbx hi).1)
  have HGet := hidP (fun i (hi : i < R) => corL_get R ts X i hi)
  rw [← innL_eq] at hib
  obtain ⟨I, hI⟩ : ∃ I, I = innL R ts X X := ⟨_, rfl⟩
  rw [← hI] at hib HInn HGet hh
  have htb := tdiv_bound I 2
  have hq2 : IntKind.i64.wrap (I.tdiv 2) = I.tdiv 2 := wrap_in (by omega) (by omega)
  obtain ⟨H2, hH2⟩ : ∃ H2, H2 = I.tdiv 2 := ⟨_, rfl⟩
  have hmk := make_ints (R : Int) (by omega) (by omega)
  simp only [Int.toNat_natCast] at hmk
  have HH2 := hidP hH2
  clear hc hT hL hx hbx hx1 hrk hib htb hI
  obtain ⟨w1, hw1⟩ : ∃ w1, w1 = w.alloc (.cells #[.int .i64 R, .slice ta tn tc] 117) := ⟨_, rfl⟩
  rw [← hw1] at HC HX1
  obtain ⟨y0, y1⟩ := HC.out w1 (Ext.refl _)
  rw [← hH2] at hq2 hh HGet
  clear hH2
  go_enter Tryz.func172, Tryz.ntmps172
  go_wp2_with fail
  rw [← hw1]
  clear hw1
  refine (HLe.out _ HX1.out).mono ?_
  rintro e w2 ⟨aD, rfl, hoD, hx2⟩
  obtain ⟨z0, z1⟩ := HC.out w2 hx2
  clear y0 y1
  go_wp2_with fail
  refine (HInn.out _ (HX1.out.trans hx2)).mono ?_
  rintro e w3 ⟨rfl, hx3⟩
  have HX3 := hidP (hx2.trans hx3)
  have HD := hidP (hoD.below hx3)
  clear z0 z1 hx2 hx3 hoD
  obtain ⟨z0, z1⟩ := HC.out w3 HX3.out
  have HQ : Hid (IntKind.i64.wrap (I.tdiv 2) = H2) := by show _ = _; rw [HH2.out] at hq2 ⊢; exact hq2
  have hs3 : w.heap.size ≤ w3.heap.size := (HX1.out.trans HX3.out).size
  have hm := OwnI.made w3 w.heap.size R hs3 (by unfold maxLen; omega)
  have HXn := hidP (Ext.alloc w3 (.cells (Array.replicate R (.int .i64 0)) 3))
  rw [← partly_zero (List.replicate R 0) (corL R ts X)] at hm
  obtain ⟨g, hg⟩ : ∃ g, g = w3.heap.size := ⟨_, rfl⟩
  rw [← hg] at hm
  have HM := hidP hm
  have HGw : Hid (w3.heap.size ≤ g) := by show _ ≤ _; omega
  have HGe : Hid (w3.heap.size = g) := hg.symm
  have hqq := HQ.out
  clear hm hg hs3 HQ hq2
  go_wp2
  rw [HGe.out]
  obtain ⟨w4, hw4⟩ : ∃ w4, w4 = w3.alloc (.cells (Array.replicate R (.int .i64 0)) 3) := ⟨_, rfl⟩
  rw [← hw4] at HM HXn ⊢
  clear hw4 hmk z0 z1 hqq
  go_loopw [8] (fun ii wr => ∃ i : Nat, i ≤ R ∧ ii = .int .i64 i ∧ Hid (OwnI wr w.heap.size (some ⟨g, 0, none⟩) R R (corTo R ts X i)) ∧ Hid (Ext w3 wr)) (fun ii _ => R - (intOf ii).toNat)
  case atStart => exact ⟨0, Nat.zero_le _, rfl, HM, HXn⟩
  case round =>
    clear HM HXn
    obtain ⟨i, hi, rfl, HO, HX⟩ := hrel
    obtain ⟨y0, y1⟩ := HC.out wr (HX3.out.trans HX.out)
    by_cases hlt : i < R
    · have hbd := HBd.out i hlt
      have hget := HGet.out i hlt
      obtain ⟨b, o, rfl, qx⟩ := HIn.out.one i hlt
      obtain ⟨gD, rfl, _⟩ := HD.out.cell i hlt
      have HF : Hid (∀ w', Ext wr w' → w'.cell? ⟨b, o + i, none⟩ = some (.int .i64 (X.getD i 0)) ∧ w'.cell? ⟨gD, i, none⟩ = some (.int .i64 ((lenL R ts).getD i 0)) ∧ (∃ v, w'.cell? ⟨g, i, none⟩ = some (.int .i64 v)) ∧ w'.frozen? ⟨g, i, none⟩ = false) := by
        show ∀ w', _
        intro w' hx
        have hx3 := HX.out.trans hx
        obtain ⟨g1, e1, _, _, q1, _⟩ := (HD.out.below hx3).cell i hlt
        obtain ⟨g2, e2, _, _, q2, q3⟩ := (HO.out.below hx).cell i hlt
        simp only [Option.some.injEq, Addr.mk.injEq, and_true] at e1 e2
        subst e1
        subst e2
        exact ⟨qx w' ((HX1.out.trans HX3.out).trans hx3), q1, ⟨_, q2⟩, q3⟩
      have HSt : Hid (∀ w', Ext wr w' → OwnI (w'.setCell ⟨g, i, none⟩ (.int .i64 ((X.getD i 0 * (lenL R ts).getD i 0).tdiv H2))) w.heap.size (some ⟨g, 0, none⟩) R R (corTo R ts X (i + 1))) := by
        show ∀ w', _
        intro w' hx
        have h1 := (HO.out.below hx).stored i ((X.getD i 0 * (lenL R ts).getD i 0).tdiv H2)
        rw [← hget] at h1 ⊢
        unfold corTo at h1
        rw [partly_succ _ _ R i hlt (by simp) (corL_length _ _ _)] at h1
        exact h1
      obtain ⟨P, hP⟩ : ∃ P, P = X.getD i 0 := ⟨_, rfl⟩
      obtain ⟨D, hD⟩ : ∃ D, D = (lenL R ts).getD i 0 := ⟨_, rfl⟩
      rw [← hP, ← hD] at HF HSt hbd
      have htb := tdiv_bound (P * D) H2
      have m1 : IntKind.i64.wrap (P * D) = P * D := wrap_in (by omega) (by omega)
      have m2 : IntKind.i64.wrap ((P * D).tdiv H2) = (P * D).tdiv H2 := wrap_in (by omega) (by omega)
      have hi0 : (0 : Int) ≤ (i : Int) := by omega
      have hiR : (i : Int) < (R : Int) := by omega
      have hh0 : ¬ (H2 = 0) := hh
      clear hP hD qx hget hbd htb
      have hE : Ext wr wr.drew := Ext.drew wr
      go_wp2
      (refine walkR_start (fun w' => Ext wr w') 13 (by kernel_rfl) ?_; simp only [numbered, List.take_succ_cons, List.take_zero, Nat.zero_add, Nat.reduceAdd, List.length_cons, List.length_nil])
      (repeat (first | (refine walkR_still (v := ?_) rfl (by decide +kernel) rfl (fun _ _ _ h => h) hE ?_ ?_; rotate_left; (focus (intro w' hw'; obtain ⟨q1, q2, _, _⟩ := HF.out w' hw'; go_simp; all_goals (with_reducible rfl))); simp only [Act.put, List.setIfInBounds_toArray, List.set_cons_zero, List.set_cons_succ]) | (refine walkR_skip rfl (by decide +kernel) rfl (fun _ _ _ h => h) hE ?_; simp only [Act.put, List.setIfInBounds_toArray, List.set_cons_zero, List.set_cons_succ])))
      (refine walkR_tail (by rfl) (by kernel_rfl) ?_; simp only [List.drop_succ_cons, List.drop_zero])
      obtain ⟨q1, q2, ⟨v0, q3⟩, q4⟩ := HF.out _ hE
      have HO3 := hidP (HSt.out _ hE)
      have HX4 : Hid (Ext w3 (wr.drew.setCell ⟨g, i, none⟩ (.int .i64 ((P * D).tdiv H2)))) := Ext.setNew (HX.out.trans hE) _ _ HGw.out _
      clear hE
      go_wp2
      go_roundw
      case rel => exact ⟨i + 1, by omega, by go_num, HO3, HX4⟩
      case measure => simp [intOf]; omega
    · obtain rfl : R = i := by omega
      have HE : Hid (corTo R ts X R = corL R ts X) := partly_all _ _ _ (by simp) (corL_length _ _ _)
      rw [HE.out] at HO
      go_wp2
      go_ret
      exact ⟨_, rfl, HO.out, (HX1.out.trans HX3.out).trans HX.out⟩
end Go.Proofs.YtenlhfimdpcaoaaGreat

namespace Go.Proofs.YtenlhfimdpcaoaaGreat
open Go.RowKit

set_option maxHeartbeats 1000000 in
theorem l5Minus_any (a : Option Addr) (n c : Nat) (W : List Int) (w : World) (h : IntsAt w a n W) (hn : n ≤ 1000000) (hb : ∀ j, j < n → -1000000 ≤ W.getD j 0 ∧ W.getD j 0 ≤ 1000000) :
    Calls Tryz.prog 171 #[.slice a n c] w fun e w' => ∃ a', e = .returned (.slice a' n n) ∧ OwnI w' w.heap.size a' n n (negW W) ∧ Ext w w' := by
  have hx0 := Ext.alloc w (.cells (Array.replicate n (.int .i64 0)) 3)
  have G := hidP h
  have L := hidP h.len
  have HB := hidP hb
  have HM := hidP (OwnI.made w w.heap.size n (Nat.le_refl _) (by unfold maxLen; omega))
  have hmk := make_ints n (by omega) (by omega) w
  have HX0 := hidP hx0
  have HN : Hid ((negW W).length = n) := by
    show _ = _
    rw [negW_length, h.len]
  clear h hx0 hb
  go_enter Tryz.func171, Tryz.ntmps171
  go_wp2
  simp only [Int.toNat_natCast] at *
  obtain ⟨w1, hw1⟩ : ∃ w1, w1 = w.alloc (.cells (Array.replicate n (.int .i64 0)) 3) := ⟨_, rfl⟩
  rw [← hw1] at HM HX0 ⊢
  clear hw1 hmk
  go_loopw [4] (fun i wr => ∃ k : Nat, k ≤ n ∧ i = .int .i64 k ∧ Hid (OwnI wr w.heap.size (some ⟨w.heap.size, 0, none⟩) n n (partly (List.replicate n 0) (negW W) k)) ∧ Hid (Ext w wr)) (fun i _ => n - (intOf i).toNat)
  case atStart => exact ⟨0, Nat.zero_le _, rfl, by rw [partly_zero]; exact HM, HX0⟩
  case round =>
    obtain ⟨k, hk, rfl, HO, HX⟩ := hrel
    by_cases hlt : k < n
    · obtain ⟨b, o, rfl, q⟩ := (G.out.below HX.out).get k hlt
      obtain ⟨g', e', _, _, r1, r2⟩ := HO.out.cell k hlt
      simp only [Option.some.injEq, Addr.mk.injEq, and_true] at e'
      subst e'
      have hb := HB.out k hlt
      have hs := HO.out.stored k (- W.getD k 0)
      rw [← negW_getD, partly_succ _ _ n k hlt (by simp) HN.out, negW_getD] at hs
      have HS := hidP hs
      have HX2 : Hid (Ext w (wr.setCell ⟨w.heap.size, k, none⟩ (.int .i64 (- W.getD k 0)))) := Ext.setNew HX.out _ _ (Nat.le_refl _) _
      clear hs
      generalize W.getD k 0 = Z at *
      go_wp2
      go_roundw
      case rel => exact ⟨k + 1, by omega, by go_num, HS, HX2⟩
      case measure => simp [intOf]; omega
    · obtain rfl : k = n := by omega
      have HD : Hid (partly (List.replicate k 0) (negW W) k = negW W) := partly_all _ _ _ (by simp) HN.out
      rw [HD.out] at HO
      go_wp2
      go_ret
      exact ⟨_, rfl, HO.out, HX.out⟩
end Go.Proofs.YtenlhfimdpcaoaaGreat

namespace Go.Proofs.YtenlhfimdpcaoaaGreat
open Go.RowKit

end Go.Proofs.YtenlhfimdpcaoaaGreat

namespace Go.Proofs.YtenlhfimdpcaoaaGreat
open Go.RowKit

end Go.Proofs.YtenlhfimdpcaoaaGreat

namespace Go.Proofs.YtenlhfimdpcaoaaGreat
open Go.RowKit

variable {P : Program} {K : TypeId} {w w' : World} {b n r cnt : Nat} {f : ByteArray → Option Value} {left : ByteArray → Bool}

section
variable (w : World) {ops : Array Oper} {rest : List Oper} {o : Oper} {a : Act} {Q : Exit → Act → World → Prop}
end
end Go.Proofs.YtenlhfimdpcaoaaGreat

namespace Go.Proofs.YtenlhfimdpcaoaaGreat
open Go.RowKit

end Go.Proofs.YtenlhfimdpcaoaaGreat

namespace Go.Proofs.YtenlhfimdpcaoaaGreat
open Go.RowKit

/-! ### ordered lists -/
structure Ord (R : List Int → List Int → Prop) : Prop where
  irr : ∀ x, ¬ R x x
  tr : ∀ {x y z}, R x y → R y z → R x z
  tot : ∀ {x y}, x ≠ y → R x y ∨ R y x
abbrev Tm : Type := List Int × Int
def Ordered (R : List Int → List Int → Prop) (l : List Tm) : Prop := l.Pairwise fun x y => R x.1 y.1
theorem lexC_less (xs ys : List Int) : lexC xs ys < 0 ↔ xs < ys := by
  induction xs generalizing ys with
  | nil => cases ys with
    | nil => simp [lexC]
    | cons y ys => simp [lexC]
  | cons x xs ih =>
    cases ys with
    | nil => simp [lexC]
    | cons y ys =>
      rw [List.cons_lt_cons_iff]
      simp only [lexC]
      rcases Int.lt_trichotomy x y with h | h | h
      · simp [cmpI, h]
      · subst h
        simp [cmpI_self, ih]
      · have hx : ¬ x < y := by omega
        have hne : x ≠ y := by omega
        simp [cmpI, hx, h, hne]
/-! ### worlds in which two maps turn -/
/-! ### the two maps -/
def addG (g : List Int → Int) (x : List Int) (c : Int) : List Int → Int := fun y => if y = x then g x + c else g y

end Go.Proofs.YtenlhfimdpcaoaaGreat

namespace Go.Proofs.YtenlhfimdpcaoaaGreat
open Go.RowKit

end Go.Proofs.YtenlhfimdpcaoaaGreat

namespace Go.Proofs.YtenlhfimdpcaoaaGreat
open Go.RowKit

/-! ### sums of numbers by word -/
def cntSum : List Tm → List Int → Int
  | [], _ => 0
  | p :: us, x => (if p.1 = x then p.2 else 0) + cntSum us x
theorem cntSum_append (us vs : List Tm) (x : List Int) : cntSum (us ++ vs) x = cntSum us x + cntSum vs x := by
  induction us with
  | nil => simp [cntSum]
  | cons p us ih => simp only [List.cons_append, cntSum, ih]; omega
theorem cntSum_none {us : List Tm} {x : List Int} (h : ∀ p ∈ us, p.1 ≠ x) : cntSum us x = 0 := by
  induction us with
  | nil => rfl
  | cons p us ih =>
    rw [cntSum, if_neg (h p (by simp)), ih (fun q hq => h q (by simp [hq]))]
    rfl
/-! ### words, shorter ones first -/
def Before (x y : List Int) : Prop := cmpW x y < 0
theorem cmpI_neg {a b : Int} : cmpI a b < 0 ↔ a < b := by unfold cmpI; split; omega; split <;> omega
theorem before_iff {x y : List Int} : Before x y ↔ x.length < y.length ∨ (x.length = y.length ∧ x < y) := by
  unfold Before cmpW
  by_cases h : cmpI x.length y.length = 0
  · have := cmpI_zero h
    rw [if_neg (by simpa using h), lexC_less]
    exact ⟨fun hl => .inr ⟨by omega, hl⟩, fun hl => hl.elim (fun h3 => absurd h3 (by omega)) (·.2)⟩
  · rw [if_pos (by simpa using h), cmpI_neg]
    have hne : (x.length : Int) ≠ y.length := fun e => h (by rw [e]; exact cmpI_self _)
    omega
theorem before_ord : Ord Before where
  irr x h := by
    rw [before_iff] at h
    rcases h with h | ⟨_, h⟩
    · omega
    · exact List.lt_irrefl x h
  tr {x y z} h1 h2 := by
    rw [before_iff] at *
    rcases h1 with h1 | ⟨e1, h1⟩ <;> rcases h2 with h2 | ⟨e2, h2⟩
    · exact .inl (by omega)
    · exact .inl (by omega)
    · exact .inl (by omega)
    · exact .inr ⟨by omega, List.lt_trans h1 h2⟩
  tot {x y} hne := by
    rw [before_iff, before_iff]
    rcases Nat.lt_trichotomy x.length y.length with h | h | h
    · exact .inl (.inl h)
    · by_cases hl : x < y
      · exact .inl (.inr ⟨h, hl⟩)
      · rcases List.le_iff_lt_or_eq.1 (List.not_lt.1 hl) with h2 | h2
        · exact .inr (.inr ⟨h.symm, h2⟩)
        · exact absurd h2.symm hne
    · exact .inr (.inl h)

/-! ### insertion modulo p -/
def putM (p : Int) : List Tm → List Int → Int → List Tm
  | [], w, n => if n % p = 0 then [] else [(w, n % p)]
  | t :: l, w, n => if cmpW t.1 w < 0 then t :: putM p l w n else if t.1 = w then (if (t.2 + n) % p = 0 then l else (w, (t.2 + n) % p) :: l) else if n % p = 0 then t :: l else (w, n % p) :: t :: l
theorem mod_add_eq {p a b c : Int} (h : a % p = b % p) : (c + a) % p = (c + b) % p := by rw [Int.add_emod, h, ← Int.add_emod]
theorem putM_sum (p : Int) (l : List Tm) (w : List Int) (n : Int) (x : List Int) : cntSum (putM p l w n) x % p = addG (cntSum l) w n x % p := by
  induction l with
  | nil =>
    unfold putM addG
    split
    · rename_i h
      by_cases hx : x = w
      · rw [if_pos hx]; simp [cntSum, h]
      · rw [if_neg hx]
    · by_cases hx : x = w
      · subst hx; simp [cntSum]
      · rw [if_neg hx]; simp [cntSum, Ne.symm hx]
  | cons t l ih =>
    unfold putM
    split
    · rw [cntSum, mod_add_eq ih]
      unfold addG
      by_cases hx : x = w
      · subst hx
        rw [if_pos rfl, if_pos rfl, cntSum]
        congr 1; omega
      · rw [if_neg hx, if_neg hx, cntSum]
    · split
      · rename_i h
        split
        · rename_i hz
          unfold addG
          by_cases hx : x = w
          · subst hx
            rw [if_pos rfl, cntSum, if_pos h]
            have : (t.2 + cntSum l x + n) = cntSum l x + (t.2 + n) := by omega
            rw [this, mod_add_eq (b := 0) (by simpa using hz), Int.add_zero]
          · rw [if_neg hx, cntSum, if_neg (by rw [h]; exact Ne.symm hx), Int.zero_add]
        · unfold addG
          by_cases hx : x = w
          · subst hx
            rw [if_pos rfl, cntSum, cntSum, if_pos rfl, if_pos h]
            have : (t.2 + cntSum l x + n) = cntSum l x + (t.2 + n) := by omega
            rw [this, Int.add_comm _ (cntSum l x), mod_add_eq (Int.emod_emod _ _)]
          · rw [if_neg hx, cntSum, cntSum, if_neg (Ne.symm hx), if_neg (by rw [h]; exact Ne.symm hx)]
      · split
        · rename_i hz
          unfold addG
          by_cases hx : x = w
          · subst hx; rw [if_pos rfl, mod_add_eq (b := 0) (by simpa using hz), Int.add_zero]
          · rw [if_neg hx]
        · unfold addG
          by_cases hx : x = w
          · subst hx
            rw [if_pos rfl, cntSum, if_pos rfl, Int.add_comm (n % p), mod_add_eq (Int.emod_emod _ _)]
          · rw [if_neg hx, cntSum, if_neg (Ne.symm hx), Int.zero_add]
theorem mem_putM {p : Int} {l : List Tm} {w : List Int} {n : Int} {q : Tm} (h : q ∈ putM p l w n) : q ∈ l ∨ q.1 = w := by
  induction l with
  | nil =>
    unfold putM at h
    split at h
    · simp at h
    · simp only [List.mem_singleton] at h
      exact .inr (by rw [h])
  | cons t l ih =>
    unfold putM at h
    split at h
    · rcases List.mem_cons.1 h with rfl | h
      · exact .inl (by simp)
      · rcases ih h with h | h
        · exact .inl (by simp [h])
        · exact .inr h
    · split at h
      · split at h
        · exact .inl (by simp [h])
        · rcases List.mem_cons.1 h with rfl | h
          · exact .inr rfl
          · exact .inl (by simp [h])
      · split at h
        · exact .inl h
        · rcases List.mem_cons.1 h with rfl | h
          · exact .inr rfl
          · exact .inl h
structure NormM (p : Int) (l : List Tm) : Prop where
  ord : Ordered Before l
  num : ∀ q ∈ l, 0 < q.2 ∧ q.2 < p
theorem NormM.nil (p : Int) : NormM p [] := ⟨List.Pairwise.nil, fun q h => by simp at h⟩
theorem mod_pos {p n : Int} (hp : 0 < p) (h : ¬ n % p = 0) : 0 < n % p ∧ n % p < p := ⟨by have := Int.emod_nonneg n (show p ≠ 0 by omega); omega, Int.emod_lt_of_pos n hp⟩
theorem NormM.put {p : Int} (hp : 0 < p) {l : List Tm} (h : NormM p l) (w : List Int) (n : Int) : NormM p (putM p l w n) := by
  induction l with
  | nil =>
    unfold putM
    split
    · exact h
    · rename_i hz
      exact ⟨List.pairwise_singleton _ _, fun q hq => by rw [List.mem_singleton.1 hq]; exact mod_pos hp hz⟩
  | cons t l ih =>
    obtain ⟨h1, h2⟩ := List.pairwise_cons.1 h.ord
    have hl : NormM p l := ⟨h2, fun q hq => h.num q (by simp [hq])⟩
    have ht := h.num t (by simp)
    unfold putM
    split
    · rename_i hb
      refine ⟨List.pairwise_cons.2 ⟨fun q hq => ?_, (ih hl).ord⟩, fun q hq => ?_⟩
      · rcases mem_putM hq with hq | hq
        · exact h1 q hq
        · rw [hq]; exact hb
      · rcases List.mem_cons.1 hq with rfl | hq
        · exact ht
        · exact (ih hl).num q hq
    · rename_i hb
      split
      · rename_i he
        split
        · exact hl
        · rename_i hz
          refine ⟨List.pairwise_cons.2 ⟨fun q hq => by rw [← he]; exact h1 q hq, h2⟩, fun q hq => ?_⟩
          rcases List.mem_cons.1 hq with rfl | hq
          · exact mod_pos hp hz
          · exact hl.num q hq
      · rename_i he
        have hw : Before w t.1 := by
          rcases before_ord.tot he with h3 | h3
          · exact absurd h3 hb
          · exact h3
        split
        · exact h
        · rename_i hz
          refine ⟨List.pairwise_cons.2 ⟨fun q hq => ?_, h.ord⟩, fun q hq => ?_⟩
          · rcases List.mem_cons.1 hq with rfl | hq
            · exact hw
            · exact before_ord.tr hw (h1 q hq)
          · rcases List.mem_cons.1 hq with rfl | hq
            · exact mod_pos hp hz
            · exact h.num q hq
def putsM (p : Int) (o : List Tm) (b : List Tm) : List Tm := b.foldl (fun o t => putM p o t.1 t.2) o
theorem putsM_append (p : Int) (o b c : List Tm) : putsM p o (b ++ c) = putsM p (putsM p o b) c := by unfold putsM; rw [List.foldl_append]
theorem putsM_one (p : Int) (o : List Tm) (w : List Int) (n : Int) : putsM p o [(w, n)] = putM p o w n := rfl
theorem NormM.puts {p : Int} (hp : 0 < p) : ∀ (b : List Tm) {o : List Tm}, NormM p o → NormM p (putsM p o b)
  | [], _, h => h
  | t :: b, o, h => NormM.puts hp b (o := putM p o t.1 t.2) (h.put hp t.1 t.2)
theorem putsM_sum (p : Int) : ∀ (b o : List Tm) (x : List Int), cntSum (putsM p o b) x % p = cntSum (o ++ b) x % p
  | [], o, x => by simp [putsM]
  | t :: b, o, x => by
    have ih := putsM_sum p b (putM p o t.1 t.2) x
    unfold putsM at ih ⊢
    rw [List.foldl_cons, ih, cntSum_append, Int.add_comm, mod_add_eq (putM_sum p o t.1 t.2 x), cntSum_append]
    unfold addG
    rw [cntSum]
    by_cases h : x = t.1
    · subst h; rw [if_pos rfl, if_pos rfl]; congr 1; omega
    · rw [if_neg h, if_neg (Ne.symm h)]; congr 1; omega
theorem putM_length (p : Int) (l : List Tm) (w : List Int) (n : Int) : (putM p l w n).length ≤ l.length + 1 := by
  induction l with
  | nil => unfold putM; split <;> simp
  | cons t l ih =>
    unfold putM
    split
    · simp only [List.length_cons]; omega
    · split
      · split <;> simp only [List.length_cons] <;> omega
      · split <;> simp only [List.length_cons] <;> omega
theorem putsM_length (p : Int) : ∀ (b o : List Tm), (putsM p o b).length ≤ o.length + b.length
  | [], o => by simp [putsM]
  | t :: b, o => by
    have h1 := putsM_length p b (putM p o t.1 t.2)
    have h2 := putM_length p o t.1 t.2
    unfold putsM at h1 ⊢
    rw [List.foldl_cons]
    simp only [List.length_cons]
    omega
theorem putsM_take (p : Int) (o b : List Tm) {k : Nat} (hk : k < b.length) : putsM p o (b.take (k + 1)) = putM p (putsM p o (b.take k)) (wayAt b k) (lenAt b k) := by
  unfold putsM
  rw [List.take_succ_eq_append_getElem hk, List.foldl_append]
  simp [wayAt, lenAt, List.getD_eq_getElem?_getD, hk]
/-! ### what such a list tells -/
theorem norm_val {p : Int} {l : List Tm} (h : NormM p l) (x : List Int) (hp : 0 < p) : cntSum l x % p = cntSum l x := by
  have key : 0 ≤ cntSum l x ∧ cntSum l x < p := by
    obtain ⟨ho, hn⟩ := h
    induction l with
    | nil => exact ⟨Int.le_refl _, hp⟩
    | cons t l ih =>
      obtain ⟨h1, h2⟩ := List.pairwise_cons.1 ho
      have ih := ih h2 (fun q hq => hn q (by simp [hq]))
      by_cases e : t.1 = x
      · rw [cntSum, if_pos e, cntSum_none (fun q hq e' => before_ord.irr t.1 (by have := h1 q hq; rwa [e', ← e] at this))]
        have := hn t (by simp)
        omega
      · rw [cntSum, if_neg e]
        omega
  exact Int.emod_eq_of_lt key.1 key.2
/-! ### the insertion at its place -/
theorem getTm {us : List Tm} {i : Nat} (h : i < us.length) : us.getD i ([], 0) = us[i] := by simp [h]
theorem drop_atM {l : List Tm} {k : Nat} (hk : k < l.length) : l.drop k = (wayAt l k, lenAt l k) :: l.drop (k + 1) := by
  have e : (wayAt l k, lenAt l k) = l[k] := by unfold wayAt lenAt; rw [getTm hk]
  rw [e]
  exact List.drop_eq_getElem_cons hk
theorem putM_split {p : Int} {l : List Tm} {w : List Int} {n : Int} : ∀ {k : Nat}, k ≤ l.length → (∀ j, j < k → cmpW (wayAt l j) w < 0) → putM p l w n = l.take k ++ putM p (l.drop k) w n := by
  induction l with
  | nil => intro k hk _; simp at hk; subst hk; rfl
  | cons t l ih =>
    intro k hk h
    cases k with
    | zero => rfl
    | succ k =>
      have h0 : cmpW t.1 w < 0 := by simpa [wayAt] using h 0 (by omega)
      rw [putM, if_pos h0, List.take_succ_cons, List.drop_succ_cons, List.cons_append]
      rw [ih (by simpa using hk) (fun j hj => by simpa [wayAt] using h (j + 1) (by omega))]
theorem putM_end {p : Int} {l : List Tm} {w : List Int} {n : Int} (h : ∀ j, j < l.length → cmpW (wayAt l j) w < 0) (hz : ¬ n % p = 0) : putM p l w n = l.take l.length ++ [(w, n % p)] ++ l.drop l.length := by
  rw [putM_split (Nat.le_refl _) h]
  simp [putM, hz]
theorem putM_end0 {p : Int} {l : List Tm} {w : List Int} {n : Int} (h : ∀ j, j < l.length → cmpW (wayAt l j) w < 0) (hz : n % p = 0) : putM p l w n = l := by
  rw [putM_split (Nat.le_refl _) h]
  simp [putM, hz]
theorem cmpW_same (w : List Int) : ¬ cmpW w w < 0 := before_ord.irr w
theorem putM_same {p : Int} {l : List Tm} {w : List Int} {n : Int} {k : Nat} (hk : k < l.length) (h : ∀ j, j < k → cmpW (wayAt l j) w < 0) (he : wayAt l k = w) (hz : ¬ (lenAt l k + n) % p = 0) : putM p l w n = l.set k (w, (lenAt l k + n) % p) := by
  rw [putM_split (Nat.le_of_lt hk) h, drop_atM hk]
  rw [he, putM, if_neg (cmpW_same w), if_pos rfl, if_neg hz]
  rw [List.set_eq_take_append_cons_drop, if_pos hk]
theorem putM_gone {p : Int} {l : List Tm} {w : List Int} {n : Int} {k : Nat} (hk : k < l.length) (h : ∀ j, j < k → cmpW (wayAt l j) w < 0) (he : wayAt l k = w) (hz : (lenAt l k + n) % p = 0) : putM p l w n = l.take k ++ l.drop (k + 1) := by
  rw [putM_split (Nat.le_of_lt hk) h, drop_atM hk]
  rw [he, putM, if_neg (cmpW_same w), if_pos rfl, if_pos hz]
theorem putM_new {p : Int} {l : List Tm} {w : List Int} {n : Int} {k : Nat} (hk : k < l.length) (h : ∀ j, j < k → cmpW (wayAt l j) w < 0) (ha : ¬ cmpW (wayAt l k) w < 0) (he : wayAt l k ≠ w) (hz : ¬ n % p = 0) : putM p l w n = l.take k ++ [(w, n % p)] ++ l.drop k := by
  rw [putM_split (Nat.le_of_lt hk) h, drop_atM hk, putM, if_neg ha, if_neg he, if_neg hz]
  simp
theorem putM_new0 {p : Int} {l : List Tm} {w : List Int} {n : Int} {k : Nat} (hk : k < l.length) (h : ∀ j, j < k → cmpW (wayAt l j) w < 0) (ha : ¬ cmpW (wayAt l k) w < 0) (he : wayAt l k ≠ w) (hz : n % p = 0) : putM p l w n = l := by
  rw [putM_split (Nat.le_of_lt hk) h, drop_atM hk, putM, if_neg ha, if_neg he, if_pos hz, ← drop_atM hk, List.take_append_drop]

/-! ### products put into order -/
variable (d : Nat) (row : Int → Int → Int → Int) (p : Int)
end Go.Proofs.YtenlhfimdpcaoaaGreat

namespace Go.Proofs.YtenlhfimdpcaoaaGreat
open Go.RowKit

def lynB (w : List Int) : Bool := decide (∀ i, i < w.length → 0 < i → lexC w (w.drop i) < 0)
theorem lynB_all {w : List Int} (h : ∀ i, i < w.length → 0 < i → lexC w (w.drop i) < 0) : lynB w = true := by
  unfold lynB; rw [decide_eq_true_iff]; exact h
theorem lynB_short {w : List Int} (h : w.length ≤ 1) : lynB w = true := lynB_all fun i hi h0 => by omega

/-- where the longest proper end that is a Lyndon word begins, from n on -/
def cutTo (w : List Int) : Nat → Nat → Nat
  | 0, n => n
  | f + 1, n => if lynB (w.drop n) then n else cutTo w f (n + 1)
def cutL (w : List Int) : Nat := cutTo w w.length 1
theorem cutTo_ge (w : List Int) (f n : Nat) : n ≤ cutTo w f n := by
  induction f generalizing n with
  | zero => exact Nat.le_refl _
  | succ f ih => unfold cutTo; split; exact Nat.le_refl _; exact Nat.le_trans (Nat.le_succ _) (ih _)
theorem cutTo_min (w : List Int) (f n m : Nat) (h0 : n ≤ m) (h1 : m < cutTo w f n) : lynB (w.drop m) = false := by
  induction f generalizing n with
  | zero => simp [cutTo] at h1; omega
  | succ f ih =>
    unfold cutTo at h1
    split at h1
    · omega
    · rename_i hc
      rcases Nat.lt_or_ge n m with h2 | h2
      · exact ih (n + 1) (by omega) h1
      · obtain rfl : m = n := by omega
        simpa using hc
theorem cutTo_le (w : List Int) (f n : Nat) (hn : n < w.length) : cutTo w f n < w.length := by
  rcases Nat.lt_or_ge (cutTo w f n) w.length with h | h
  · exact h
  · have := cutTo_min w f n (w.length - 1) (by omega) (by omega)
    rw [lynB_short (by simp; omega)] at this
    cases this
theorem cutL_le (w : List Int) (h : 2 ≤ w.length) : 1 ≤ cutL w ∧ cutL w < w.length := ⟨cutTo_ge _ _ _, cutTo_le _ _ _ (by omega)⟩
end Go.Proofs.YtenlhfimdpcaoaaGreat
