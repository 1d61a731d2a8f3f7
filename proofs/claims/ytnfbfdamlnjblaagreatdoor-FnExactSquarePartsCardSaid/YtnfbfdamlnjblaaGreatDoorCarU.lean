/-
  The reference's search for an order of rows.
-/
import Derived.Test.YtnfbfdamlnjblaaGreatDoorCarT
namespace Go.Proofs.YtnfbfdamlnjblaaGreatDoor
open Go.RowKit

theorem any_idx (l : List Nat) (B : Nat → Bool) : l.any B = (List.range l.length).any fun q => B (l.getD q 0) := by
  rw [Bool.eq_iff_iff, List.any_eq_true, List.any_eq_true]
  constructor
  · rintro ⟨x, hx, hb⟩
    obtain ⟨q, hq, rfl⟩ := List.mem_iff_getElem.1 hx
    exact ⟨q, List.mem_range.2 hq, by simpa [List.getD_eq_getElem?_getD, hq] using hb⟩
  · rintro ⟨q, hq, hb⟩
    exact ⟨_, getD_mem (List.mem_range.1 hq), hb⟩
/-- the reference's test of one more row -/
def fitF (xs : List Int) (r : Nat) (due : List Int) (dr : Nat) (used : List Nat) (x j : Nat) : Bool :=
  (atM xs r x ((used ++ [x]).getD j 0) == atM due dr used.length j) && (atM xs r ((used ++ [x]).getD j 0) x == atM due dr j used.length)
theorem fitF_all (xs : List Int) (r : Nat) (due : List Int) (dr : Nat) (used : List Nat) (x : Nat) : (List.range (used.length + 1)).all (fitF xs r due dr used x) = rowChk xs r due dr used x := by
  rw [List.range_succ, List.all_append]
  have h1 : fitF xs r due dr used x used.length = (atM xs r x x == atM due dr used.length used.length) := by
    unfold fitF
    rw [getD_app_r _ _ _ _ (Nat.le_refl _), Nat.sub_self]
    simp
  have h2 : (List.range used.length).all (fitF xs r due dr used x) = (List.range used.length).all fun j => atM xs r x (used.getD j 0) == atM due dr used.length j && atM xs r (used.getD j 0) x == atM due dr j used.length := by
    apply Bool.eq_iff_iff.2
    simp only [List.all_eq_true, List.mem_range]
    constructor
    · intro h j hj
      have := h j hj
      unfold fitF at this
      rwa [getD_app_l _ _ _ _ hj] at this
    · intro h j hj
      unfold fitF
      rw [getD_app_l _ _ _ _ hj]
      exact h j hj
  rw [h2]
  unfold rowChk
  simp only [List.all_cons, List.all_nil, Bool.and_true]
  rw [h1, Bool.and_comm]
set_option maxRecDepth 100000 in
set_option maxHeartbeats 8000000 in
theorem l5Fits_any (r : Nat) (hr : r ≤ 4) (dr : Nat) (hdr : dr ≤ 4) (xs due : List Int) (rows : List Nat) (hrl : rows.length = dr) (hrr : ∀ x ∈ rows, x < r) : ∀ (f : Nat) (used : List Nat) (ac ad aw a : Option Addr) (cc cd n c cw : Nat) (w : World), IntsAt w ac (r * r) xs → IntsAt w ad (dr * dr) due → IntsAt w a dr (natI rows) → IntsAt w aw n (natI used) → (aw = none → cw = 0) → n + f = dr → (∀ x ∈ used, x < r) →
    Calls Tryz.prog 183 #[carV r ac (r * r) cc, .slice a dr c, .slice aw n cw, carV dr ad (dr * dr) cd] w fun e w' => e = .returned (.bool (searchB rows dr (rowChk xs r due dr) f used)) ∧ Ext w w' := by
  intro f
  induction f with
  | zero =>
    intro used ac ad aw a cc cd n c cw w h1 h2 h3 h4 h5 h6 h7
    have hl := h4.len
    rw [natI_length] at hl
    have HS : Hid (searchB rows dr (rowChk xs r due dr) 0 used = true) := by
      show _ = _
      simp [searchB]
      omega
    obtain rfl : n = dr := by omega
    have hx := hidP ((Ext.alloc w (.cells #[.int .i64 r, .slice ac (r * r) cc] 55)).trans (Ext.alloc _ (.cells #[.int .i64 n, .slice ad (n * n) cd] 55)))
    clear h1 h2 h3 h4 hl h6 h7
    go_enter Tryz.func183, Tryz.ntmps183
    go_wp2
    go_ret
    exact ⟨ret_bool HS.out.symm, hx.out⟩
  | succ f ih =>
    intro used ac ad aw a cc cd n c cw w h1 h2 h3 h4 h5 h6 h7
    have hl := h4.len
    rw [natI_length] at hl
    have hnr : ((n : Int) == dr) = false := by simp; omega
    have hnd : n < dr := by omega
    have hx := hidP ((Ext.alloc w (.cells #[.int .i64 r, .slice ac (r * r) cc] 55)).trans (Ext.alloc _ (.cells #[.int .i64 dr, .slice ad (dr * dr) cd] 55)))
    have HC := hidP ((CarAt.new w _ rfl r ac (r * r) cc 55).below (Ext.alloc _ (.cells #[.int .i64 dr, .slice ad (dr * dr) cd] 55)))
    have HD := hidP (CarAt.new (w.alloc (.cells #[.int .i64 r, .slice ac (r * r) cc] 55)) (w.heap.size + 1) (by simp) dr ad (dr * dr) cd 55)
    have H1 := hidP (h1.below hx.out)
    have H2 := hidP (h2.below hx.out)
    have H3 := hidP (h3.below hx.out)
    have H4 := hidP (h4.below hx.out)
    have H7 := hidP h7
    have HNil := hidP h5
    have HL := hidP hl
    have HN6 := hidP h6
    have HRL := hidP hrl
    have HRR := hidP hrr
    obtain ⟨B, hB⟩ : ∃ B : Nat → Bool, B = fun x => !used.contains x && rowChk xs r due dr used x && searchB rows dr (rowChk xs r due dr) f (used ++ [x]) := ⟨_, rfl⟩
    have HB := hidP (fun i => congrFun hB i)
    have HS : Hid (searchB rows dr (rowChk xs r due dr) (f + 1) used = (List.range dr).any fun q => B (rows.getD q 0)) := by
      show _ = _
      rw [← hrl, ← any_idx, hB, hrl, searchB, decide_eq_false (by omega), Bool.false_or]
    rw [HS.out]
    have HI := hidP ih
    clear h1 h2 h3 h4 hl h6 h5 h7 hB HS ih hrl hrr
    go_enter Tryz.func183, Tryz.ntmps183
    go_wp2
    obtain ⟨w0, hw0⟩ : ∃ w0, w0 = (w.alloc (.cells #[.int .i64 r, .slice ac (r * r) cc] 55)).alloc (.cells #[.int .i64 dr, .slice ad (dr * dr) cd] 55) := ⟨_, rfl⟩
    obtain ⟨b3, hb3⟩ : ∃ b, b = w.heap.size := ⟨_, rfl⟩
    rw [← hb3] at HC HD ⊢
    rw [← hw0] at hx HC HD H1 H2 H3 H4 ⊢
    obtain ⟨b4, hb4⟩ : ∃ b, b = b3 + 1 := ⟨_, rfl⟩
    rw [← hb4] at HD ⊢
    clear hw0 hb3 hb4
    go_loopw [10] (fun t wr => ∃ i : Nat, i ≤ dr ∧ t = .int .i64 i ∧ Hid (∀ q, q < i → B (rows.getD q 0) = false) ∧ Hid (Ext w0 wr)) (fun t _ => dr - (intOf t).toNat)
    case atStart => exact ⟨0, Nat.zero_le _, rfl, fun q hq => by omega, Ext.refl _⟩
    case round =>
      obtain ⟨i, hi, rfl, HJ, HX⟩ := hrel
      by_cases hlt : i < dr
      · obtain ⟨b, o, rfl, qi⟩ := (H3.out.below HX.out).get i hlt
        rw [natI_getD] at qi
        have hxr : rows.getD i 0 < r := HRR.out _ (getD_mem (by rw [HRL.out]; exact hlt))
        obtain ⟨x, hx2⟩ : ∃ x, x = rows.getD i 0 := ⟨_, rfl⟩
        rw [← hx2] at qi hxr
        have HXR := hidP hx2
        have HFd := hidP (l1Find_any aw n cw (natI used) (x : Int) wr (H4.out.below HX.out) (by omega))
        have HMem : Hid ((x : Int) ∈ natI used ↔ x ∈ used) := by
          show _ ↔ _
          unfold natI
          rw [List.mem_map]
          exact ⟨fun ⟨a, h, e⟩ => by obtain rfl : a = x := by omega
                                     exact h, fun h => ⟨x, h, rfl⟩⟩
        clear hx2
        go_wp2_with fail
        refine HFd.out.mono ?_
        rintro e w' ⟨v, rfl, hv, hv1, hv2, rfl⟩
        by_cases hm : x ∈ used
        · have hv0 : 0 ≤ v := hv.2 (HMem.out.2 hm)
          have HBI : Hid (B (rows.getD i 0) = false) := by
            show _ = _
            rw [← HXR.out, HB.out x]
            simp [hm]
          clear hv hm HFd
          go_wp2
          go_roundw
          case rel =>
            refine ⟨i + 1, by omega, by go_num, fun q hq => ?_, HX⟩
            rcases Nat.lt_succ_iff_lt_or_eq.1 hq with h3 | rfl
            · exact HJ.out q h3
            · exact HBI.out
          case measure => simp [intOf]; omega
        · have hvn : ¬ (0 ≤ v) := fun h => hm (HMem.out.1 (hv.1 h))
          obtain ⟨F, hF⟩ : ∃ F : Nat → Bool, F = fitF xs r due dr used x := ⟨_, rfl⟩
          have HF := hidP (fun j => congrFun hF j)
          have HBI : Hid (B (rows.getD i 0) = ((List.range (n + 1)).all F && searchB rows dr (rowChk xs r due dr) f (used ++ [x]))) := by
            show _ = _
            rw [← HXR.out, HB.out x, hF, ← HL.out, fitF_all]
            simp [hm]
          have HQ := hidP (fun w' (hx : Ext wr w') => (hx.cell (p := ⟨b, o + i, none⟩) (World.block_lt_of_cell? wr _ qi)).trans qi)
          have HLI := hidP (fun w' (hx : Ext wr w') => l1Ints_any aw n cw (natI used) w' ((H4.out.below HX.out).below hx) HNil.out (by omega))
          have hE : Ext wr wr.drew := Ext.drew wr
          clear hv hm HFd hF
          go_wp2
          clear qi
          (refine walkR_start (fun w' => Ext wr w') 7 (by kernel_rfl) ?_; simp only [numbered, List.take_succ_cons, List.take_zero, Nat.zero_add, Nat.reduceAdd, List.length_cons, List.length_nil])
          (repeat (first | (refine walkR_still (v := ?_) rfl (by decide +kernel) rfl (fun _ _ _ h => h) hE ?_ ?_; rotate_left; (focus (intro w' hw'; have q' := HQ.out w' hw'; go_simp; all_goals (with_reducible rfl))); simp only [Act.put, List.setIfInBounds_toArray, List.set_cons_zero, List.set_cons_succ]) | (refine walkR_skip rfl (by decide +kernel) rfl (fun _ _ _ h => h) hE ?_; simp only [Act.put, List.setIfInBounds_toArray, List.set_cons_zero, List.set_cons_succ])))
          (refine walkR_later ?_; simp only [List.cons_append, List.nil_append])
          (repeat (first | (refine walkR_still (v := ?_) rfl (by decide +kernel) rfl (fun _ _ _ h => h) hE ?_ ?_; rotate_left; (focus (intro w' hw'; have q' := HQ.out w' hw'; go_simp; all_goals (with_reducible rfl))); simp only [Act.put, List.setIfInBounds_toArray, List.set_cons_zero, List.set_cons_succ]) | (refine walkR_skip rfl (by decide +kernel) rfl (fun _ _ _ h => h) hE ?_; simp only [Act.put, List.setIfInBounds_toArray, List.set_cons_zero, List.set_cons_succ])))
          (refine walkR_later ?_; simp only [List.cons_append, List.nil_append])
          refine walkR_two (fun v u w' => ∃ a1 c1 b1, v = .slice a1 n c1 ∧ u = .slice (some ⟨b1, 0, none⟩) 1 1 ∧ OwnI w' wr.heap.size a1 n c1 (natI used) ∧ w'.cell? ⟨b1, 0, none⟩ = some (.int .i64 x)) (fun v w' => ∃ a1 c1, v = .slice a1 n c1 ∧ OwnI w' wr.heap.size a1 n c1 (natI used)) (fun u w' => ∃ b1, u = .slice (some ⟨b1, 0, none⟩) 1 1 ∧ w'.cell? ⟨b1, 0, none⟩ = some (.int .i64 x)) rfl rfl (by decide +kernel) rfl rfl (by decide) rfl rfl (fun _ => rfl) (fun _ => rfl) ?_ ?_ ?_ ?_ ?_
          · intro K hK
            go_simp
            refine (HLI.out _ hE).mono ?_
            rintro e w2 ⟨a1, c1, rfl, ho, hx⟩
            exact hK _ _ (hE.trans hx) ⟨a1, c1, rfl, ho⟩
          · rintro v w2 hx ⟨a1, c1, rfl, ho⟩ K hK
            go_simp
            exact hK _ _ (hx.trans (Ext.alloc _ _)) ⟨a1, c1, _, rfl, rfl, ho.below (Ext.alloc _ _), (cell_top _ _ _ _ _ rfl).trans rfl⟩
          · intro K hK
            go_simp
            exact hK _ _ (hE.trans (Ext.alloc _ _)) ⟨_, rfl, (cell_top _ _ _ _ _ rfl).trans rfl⟩
          · rintro u w2 hx ⟨b1, rfl, hb⟩ K hK
            go_simp
            refine (HLI.out _ hx).mono ?_
            rintro e w3 ⟨a1, c1, rfl, ho, hx3⟩
            exact hK _ _ (hx.trans hx3) ⟨a1, c1, b1, rfl, rfl, ho.base hx.size, (hx3.cell (p := ⟨b1, 0, none⟩) (World.block_lt_of_cell? _ _ hb)).trans hb⟩
          · rintro v' u' w2 hx2 ⟨a1, c1, b1, rfl, rfl, ho2, hb2⟩
            (try simp only [Act.put, List.setIfInBounds_toArray, List.set_cons_zero, List.set_cons_succ])
            have HI1 : Hid (IntsAt w2 (some ⟨b1, 0, none⟩) 1 [(x : Int)]) := ⟨rfl, fun q hq => ⟨b1, 0, rfl, by
              obtain rfl : q = 0 := by omega
              simpa using hb2⟩⟩
            have HO2 := hidP ho2
            have HX2 := hidP hx2
            clear ho2 hb2 hx2
            (refine walkR_tail (by rfl) (by kernel_rfl) ?_; simp only [List.drop_succ_cons, List.drop_zero])
            go_wp2_with (at_builtin; refine wpList_append_ints rfl (.tmp 34) (.tmp 39) rfl wr.heap.size a1 n c1 (natI used) rfl HO2.out (some ⟨b1, 0, none⟩) 1 1 [(x : Int)] rfl HI1.out (fun e => by cases e) (by omega) HX2.out.size ?_; intro a5 c5 w5 ho5 hg5)
            have hx5 := grown_ext hg5 HX2.out HX2.out.size HO2.out.addr_base
            rw [show natI used ++ [(x : Int)] = natI (used ++ [x]) by rw [natI_append]; rfl] at ho5
            have HO5 := hidP ho5
            have HX5 := hidP (HX.out.trans hx5)
            have HLn : Hid ((used ++ [x]).length = n + 1) := by show _ = _; rw [List.length_append, HL.out]; rfl
            have HNr : Hid (∀ y ∈ used ++ [x], y < r) := fun y hy => by
              simp only [List.mem_append, List.mem_singleton] at hy
              rcases hy with hy | rfl
              · exact H7.out y hy
              · exact hxr
            have HNk : Hid ((used ++ [x]).getD n 0 = x) := by
              show _ = _
              rw [getD_app_r _ _ _ _ (by rw [HL.out]; exact Nat.le_refl _), HL.out, Nat.sub_self]
              rfl
            have HFF : Hid (∀ j, F j = ((atM xs r x ((used ++ [x]).getD j 0) == atM due dr n j) && (atM xs r ((used ++ [x]).getD j 0) x == atM due dr j n))) := fun j => by
              rw [HF.out j, ← HL.out]
              rfl
            obtain ⟨nx, hnx⟩ : ∃ l, l = used ++ [x] := ⟨_, rfl⟩
            rw [← hnx] at HO5 HLn HNr HNk HFF HBI
            clear ho5 hg5 hx5 HO2 HX2 HI1 HF HQ HLI hE
            go_loopw [12, 13] (fun u t wx => ∃ j : Nat, j ≤ n + 1 ∧ t = .int .i64 j ∧ u = .bool ((List.range j).all F) ∧ Hid (Ext w5 wx)) (fun _ t _ => n + 1 - (intOf t).toNat)
            case atStart => exact ⟨0, Nat.zero_le _, rfl, rfl, Ext.refl _⟩
            case round =>
              obtain ⟨j, hj, rfl, rfl, HXj⟩ := hrel
              have HXa := hidP (HX5.out.trans HXj.out)
              have HAS : Hid ((List.range (j + 1)).all F = ((List.range j).all F && F j)) := by
                show _ = _
                rw [List.range_succ, List.all_append]
                simp
              by_cases hjn : j ≤ n
              · have hyr : nx.getD j 0 < r := HNr.out _ (getD_mem (by rw [HLn.out]; omega))
                have hoj := HO5.out.below HXj.out
                obtain ⟨g, rfl, _, _, qk, _⟩ := hoj.cell n (by omega)
                obtain ⟨g', e', _, _, qj, _⟩ := hoj.cell j (by omega)
                simp only [Option.some.injEq, Addr.mk.injEq, and_true] at e'
                subst e'
                rw [natI_getD] at qk qj
                rw [HNk.out] at qk
                have HFJ := hidP (HFF.out j)
                obtain ⟨y, hy⟩ : ∃ y, y = nx.getD j 0 := ⟨_, rfl⟩
                rw [← hy] at HFJ qj hyr
                have HC1 := hidP (fun w' (hx : Ext wr w') => l5At_any r ac (r * r) cc xs x y w' ((H1.out.below HXa.out).below hx) (Int.natCast_mul r r) (by omega) (by omega) (by omega))
                have HC2 := hidP (fun w' (hx : Ext wr w') => l5At_any dr ad (dr * dr) cd due n j w' ((H2.out.below HXa.out).below hx) (Int.natCast_mul dr dr) (by omega) (by omega) (by omega))
                have HC3 := hidP (fun w' (hx : Ext wr w') => l5At_any r ac (r * r) cc xs y x w' ((H1.out.below HXa.out).below hx) (Int.natCast_mul r r) (by omega) (by omega) (by omega))
                have HC4 := hidP (fun w' (hx : Ext wr w') => l5At_any dr ad (dr * dr) cd due j n w' ((H2.out.below HXa.out).below hx) (Int.natCast_mul dr dr) (by omega) (by omega) (by omega))
                rw [Int.toNat_natCast] at HC1 HC2 HC3 HC4
                have HW := hidP (fun w' (hx : Ext wr w') => (⟨HC.out.below (HXa.out.trans hx), HD.out.below (HXa.out.trans hx), (hx.cell (p := ⟨g, n, none⟩) (World.block_lt_of_cell? wr _ qk)).trans qk, (hx.cell (p := ⟨g, j, none⟩) (World.block_lt_of_cell? wr _ qj)).trans qj⟩ : _ ∧ _ ∧ _ ∧ _))
                have hE : Ext wr wr.drew := Ext.drew wr
                have hn1 : (n : Int) < (n : Int) + 1 := by omega
                have hj1 : (j : Int) < (n : Int) + 1 := by omega
                generalize atM xs r x y = x1 at *
                generalize atM due dr n j = y1 at *
                generalize atM xs r y x = x2 at *
                generalize atM due dr j n = y2 at *
                clear qk qj hy hoj
                cases hfj : (List.range j).all F
                · rw [hfj] at HAS
                  go_wp2
                  (refine walkR_start (fun w' => Ext wr w') 35 (by kernel_rfl) ?_; simp only [numbered, List.take_succ_cons, List.take_zero, Nat.zero_add, Nat.reduceAdd, List.length_cons, List.length_nil])
                  (repeat (first | (refine walkR_still (v := ?_) rfl (by decide +kernel) rfl (fun _ _ _ h => h) hE ?_ ?_; rotate_left; (focus (intro w' hw'; skip; go_simp; all_goals (with_reducible rfl))); simp only [Act.put, List.setIfInBounds_toArray, List.set_cons_zero, List.set_cons_succ]) | (refine walkR_skip rfl (by decide +kernel) rfl (fun _ _ _ h => h) hE ?_; simp only [Act.put, List.setIfInBounds_toArray, List.set_cons_zero, List.set_cons_succ])))
                  (refine walkR_tail (by rfl) (by kernel_rfl) ?_; simp only [List.drop_succ_cons, List.drop_zero])
                  go_wp2
                  go_roundw
                  case rel => exact ⟨j + 1, by omega, by go_num, by rw [HAS.out]; rfl, HXj.out.trans hE⟩
                  case measure => simp [intOf]; omega
                · rw [hfj, Bool.true_and] at HAS
                  go_wp2
                  (refine walkR_start (fun w' => Ext wr w') 35 (by kernel_rfl) ?_; simp only [numbered, List.take_succ_cons, List.take_zero, Nat.zero_add, Nat.reduceAdd, List.length_cons, List.length_nil])
                  (repeat (first | (refine walkR_still (v := ?_) rfl (by decide +kernel) rfl (fun _ _ _ h => h) hE ?_ ?_; rotate_left; (focus (intro w' hw'; obtain ⟨⟨f0, f1⟩, ⟨g0, g1⟩, q1, q2⟩ := HW.out w' hw'; go_simp; all_goals (with_reducible rfl))); simp only [Act.put, List.setIfInBounds_toArray, List.set_cons_zero, List.set_cons_succ]) | (refine walkR_skip rfl (by decide +kernel) rfl (fun _ _ _ h => h) hE ?_; simp only [Act.put, List.setIfInBounds_toArray, List.set_cons_zero, List.set_cons_succ])))
                  (refine walkR_later ?_; simp only [List.cons_append, List.nil_append])
                  (repeat (first | (refine walkR_still (v := ?_) rfl (by decide +kernel) rfl (fun _ _ _ h => h) hE ?_ ?_; rotate_left; (focus (intro w' hw'; obtain ⟨⟨f0, f1⟩, ⟨g0, g1⟩, q1, q2⟩ := HW.out w' hw'; go_simp; all_goals (with_reducible rfl))); simp only [Act.put, List.setIfInBounds_toArray, List.set_cons_zero, List.set_cons_succ]) | (refine walkR_skip rfl (by decide +kernel) rfl (fun _ _ _ h => h) hE ?_; simp only [Act.put, List.setIfInBounds_toArray, List.set_cons_zero, List.set_cons_succ])))
                  (refine walkR_later ?_; simp only [List.cons_append, List.nil_append]); (refine walkR_later ?_; simp only [List.cons_append, List.nil_append]); (refine walkR_later ?_; simp only [List.cons_append, List.nil_append]); (refine walkR_later ?_; simp only [List.cons_append, List.nil_append]); (refine walkR_later ?_; simp only [List.cons_append, List.nil_append]); (refine walkR_later ?_; simp only [List.cons_append, List.nil_append]); (refine walkR_later ?_; simp only [List.cons_append, List.nil_append]); (refine walkR_later ?_; simp only [List.cons_append, List.nil_append]); (refine walkR_later ?_; simp only [List.cons_append, List.nil_append]); (refine walkR_later ?_; simp only [List.cons_append, List.nil_append]); (refine walkR_later ?_; simp only [List.cons_append, List.nil_append]); (refine walkR_later ?_; simp only [List.cons_append, List.nil_append]); (refine walkR_later ?_; simp only [List.cons_append, List.nil_append]); (refine walkR_later ?_; simp only [List.cons_append, List.nil_append]); (refine walkR_later ?_; simp only [List.cons_append, List.nil_append]); (refine walkR_later ?_; simp only [List.cons_append, List.nil_append]); (refine walkR_later ?_; simp only [List.cons_append, List.nil_append]); (refine walkR_later ?_; simp only [List.cons_append, List.nil_append]); (refine walkR_later ?_; simp only [List.cons_append, List.nil_append]); (refine walkR_later ?_; simp only [List.cons_append, List.nil_append])
                  (refine walkR_only (fun w' => Ext wr w') rfl (by decide +kernel) rfl (fun _ h => h) ?_; intro K hK; go_simp; refine (HC1.out _ hE).mono ?_; rintro e w6 ⟨rfl, hx6⟩; refine hK _ _ (hE.trans hx6) ?_; clear hK K; (try simp only [Act.put, List.setIfInBounds_toArray, List.set_cons_zero, List.set_cons_succ]))
                  have hE6 := hE.trans hx6
                  clear hx6
                  (refine walkR_only (fun w' => Ext wr w') rfl (by decide +kernel) rfl (fun _ h => h) ?_; intro K hK; go_simp; refine (HC2.out _ hE6).mono ?_; rintro e w7 ⟨rfl, hx7⟩; refine hK _ _ (hE6.trans hx7) ?_; clear hK K; (try simp only [Act.put, List.setIfInBounds_toArray, List.set_cons_zero, List.set_cons_succ]))
                  have hE7 := hE6.trans hx7
                  clear hx7
                  cases hp : (x1 == y1)
                  · rw [hp, Bool.false_and] at HFJ
                    (repeat (first | (refine walkR_still (v := ?_) rfl (by decide +kernel) rfl (fun _ _ _ h => h) hE7 ?_ ?_; rotate_left; (focus (intro w' hw'; skip; go_simp; all_goals (with_reducible rfl))); simp only [Act.put, List.setIfInBounds_toArray, List.set_cons_zero, List.set_cons_succ]) | (refine walkR_skip rfl (by decide +kernel) rfl (fun _ _ _ h => h) hE7 ?_; simp only [Act.put, List.setIfInBounds_toArray, List.set_cons_zero, List.set_cons_succ])))
                    (refine walkR_tail (by rfl) (by kernel_rfl) ?_; simp only [List.drop_succ_cons, List.drop_zero])
                    go_wp2
                    go_roundw
                    case rel => exact ⟨j + 1, by omega, by go_num, by rw [HAS.out, HFJ.out], HXj.out.trans hE7⟩
                    case measure => simp [intOf]; omega
                  · rw [hp, Bool.true_and] at HFJ
                    (repeat (first | (refine walkR_still (v := ?_) rfl (by decide +kernel) rfl (fun _ _ _ h => h) hE7 ?_ ?_; rotate_left; (focus (intro w' hw'; obtain ⟨⟨f0, f1⟩, ⟨g0, g1⟩, q1, q2⟩ := HW.out w' hw'; go_simp; all_goals (with_reducible rfl))); simp only [Act.put, List.setIfInBounds_toArray, List.set_cons_zero, List.set_cons_succ]) | (refine walkR_skip rfl (by decide +kernel) rfl (fun _ _ _ h => h) hE7 ?_; simp only [Act.put, List.setIfInBounds_toArray, List.set_cons_zero, List.set_cons_succ])))
                    (refine walkR_later ?_; simp only [List.cons_append, List.nil_append])
                    (repeat (first | (refine walkR_still (v := ?_) rfl (by decide +kernel) rfl (fun _ _ _ h => h) hE7 ?_ ?_; rotate_left; (focus (intro w' hw'; obtain ⟨⟨f0, f1⟩, ⟨g0, g1⟩, q1, q2⟩ := HW.out w' hw'; go_simp; all_goals (with_reducible rfl))); simp only [Act.put, List.setIfInBounds_toArray, List.set_cons_zero, List.set_cons_succ]) | (refine walkR_skip rfl (by decide +kernel) rfl (fun _ _ _ h => h) hE7 ?_; simp only [Act.put, List.setIfInBounds_toArray, List.set_cons_zero, List.set_cons_succ])))
                    (refine walkR_later ?_; simp only [List.cons_append, List.nil_append]); (refine walkR_later ?_; simp only [List.cons_append, List.nil_append]); (refine walkR_later ?_; simp only [List.cons_append, List.nil_append])
                    (refine walkR_only (fun w' => Ext wr w') rfl (by decide +kernel) rfl (fun _ h => h) ?_; intro K hK; go_simp; refine (HC3.out _ hE7).mono ?_; rintro e w8 ⟨rfl, hx8⟩; refine hK _ _ (hE7.trans hx8) ?_; clear hK K; (try simp only [Act.put, List.setIfInBounds_toArray, List.set_cons_zero, List.set_cons_succ]))
                    have hE8 := hE7.trans hx8
                    clear hx8
                    (refine walkR_only (fun w' => Ext wr w') rfl (by decide +kernel) rfl (fun _ h => h) ?_; intro K hK; go_simp; refine (HC4.out _ hE8).mono ?_; rintro e w9 ⟨rfl, hx9⟩; refine hK _ _ (hE8.trans hx9) ?_; clear hK K; (try simp only [Act.put, List.setIfInBounds_toArray, List.set_cons_zero, List.set_cons_succ]))
                    have hE9 := hE8.trans hx9
                    clear hx9
                    (repeat (first | (refine walkR_still (v := ?_) rfl (by decide +kernel) rfl (fun _ _ _ h => h) hE9 ?_ ?_; rotate_left; (focus (intro w' hw'; skip; go_simp; all_goals (with_reducible rfl))); simp only [Act.put, List.setIfInBounds_toArray, List.set_cons_zero, List.set_cons_succ]) | (refine walkR_skip rfl (by decide +kernel) rfl (fun _ _ _ h => h) hE9 ?_; simp only [Act.put, List.setIfInBounds_toArray, List.set_cons_zero, List.set_cons_succ])))
                    (refine walkR_tail (by rfl) (by kernel_rfl) ?_; simp only [List.drop_succ_cons, List.drop_zero])
                    go_wp2
                    go_roundw
                    case rel => exact ⟨j + 1, by omega, by go_num, by rw [HAS.out, HFJ.out], HXj.out.trans hE9⟩
                    case measure => simp [intOf]; omega
              · obtain rfl : j = n + 1 := by omega
                cases hfa : (List.range (n + 1)).all F
                · rw [hfa, Bool.false_and] at HBI
                  go_wp2
                  go_roundw
                  case rel =>
                    refine ⟨i + 1, by omega, by go_num, fun q hq => ?_, HXa⟩
                    rcases Nat.lt_succ_iff_lt_or_eq.1 hq with h3 | rfl
                    · exact HJ.out q h3
                    · exact HBI.out
                  case measure => simp [intOf]; omega
                · rw [hfa, Bool.true_and] at HBI
                  have HCA := HC.out.below HXa.out
                  obtain ⟨f0, f1⟩ := HCA
                  obtain ⟨g0, g1⟩ := HD.out.below HXa.out
                  have HR := hidP (HI.out nx ac ad a5 (some ⟨b, o, none⟩) cc cd (n + 1) c c5 wr (H1.out.below HXa.out) (H2.out.below HXa.out) (H3.out.below HXa.out) (HO5.out.below HXj.out).ints HO5.out.nil_cap (by have := HN6.out; omega) HNr.out)
                  generalize hsb : searchB rows dr (rowChk xs r due dr) f nx = sb at *
                  cases sb
                  · go_wp2_with fail
                    refine HR.out.mono ?_
                    rintro e w6 ⟨rfl, hx6⟩
                    go_wp2
                    go_roundw
                    case rel =>
                      refine ⟨i + 1, by omega, by go_num, fun q hq => ?_, HXa.out.trans hx6⟩
                      rcases Nat.lt_succ_iff_lt_or_eq.1 hq with h3 | rfl
                      · exact HJ.out q h3
                      · exact HBI.out
                    case measure => simp [intOf]; omega
                  · have HE : Hid (((List.range dr).any fun q => B (rows.getD q 0)) = true) := by
                      show _ = _
                      rw [List.any_eq_true]
                      exact ⟨i, List.mem_range.2 hlt, HBI.out⟩
                    go_wp2_with fail
                    refine HR.out.mono ?_
                    rintro e w6 ⟨rfl, hx6⟩
                    go_wp2
                    go_ret
                    exact ⟨ret_bool HE.out.symm, (hx.out.trans HXa.out).trans hx6⟩
      · obtain rfl : i = dr := by omega
        have HE : Hid (((List.range i).any fun q => B (rows.getD q 0)) = false) := by
          show _ = _
          rw [List.any_eq_false]
          intro q hq
          rw [HJ.out q (List.mem_range.1 hq)]
          simp
        go_wp2
        go_ret
        exact ⟨ret_bool HE.out.symm, hx.out.trans HX.out⟩
end Go.Proofs.YtnfbfdamlnjblaaGreatDoor
