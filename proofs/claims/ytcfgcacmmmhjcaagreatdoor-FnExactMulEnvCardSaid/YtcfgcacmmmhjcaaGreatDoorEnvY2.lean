/-
  The reference's l11Put once more: which blocks it changes. Printed by gen/putE.py.
  The reference's words turned around; its products put into order (l11Straight).
-/
import Derived.Test.YtcfgcacmmmhjcaaGreatDoorEnvW
import Derived.Test.YtcfgcacmmmhjcaaGreatDoorPart
import Derived.Test.YtcfgcacmmmhjcaaGreatDoorPthC
import Derived.Test.YtcfgcacmmmhjcaaGreatDoorTrm2
import Derived.Test.YtcfgcacmmmhjcaaGreatDoorEnvX2
import Derived.BigRegion
namespace Go.Proofs.YtcfgcacmmmhjcaaGreatDoor
open Go.RowKit

theorem ext_grown {w w' : World} (g : Nat) (h : Ext w w') : w.grownBy w' (some g) := ⟨h.os, h.tape, h.output, h.size, fun k hk _ => h.block k hk⟩
set_option maxRecDepth 100000 in
set_option maxHeartbeats 8000000 in
theorem l11Put_grown (p : Int) (B : Nat) (go m co : Nat) (hs : List Hdr) (xs : List Tm) (aw : Option Addr) (cw : Nat) (W : List Int) (L : Int) (w : World) (ho : OwnK stepK w B w.heap.size (some ⟨go, 0, none⟩) m co hs xs)
    (hway : IntsAt w aw W.length W) (hnil : aw = none → cw = 0) (hk : W.length ≤ 1000000) (hm : m ≤ 900000000) (hB : B ≤ w.heap.size) (hp : 1 ≤ p) (hp2 : p ≤ 10007) (hL : -1000000000000 ≤ L) (hL2 : L ≤ 1000000000000)
    (hsum : ∀ i, i < m → 0 ≤ lenAt xs i ∧ lenAt xs i ≤ 1000000) :
    Calls Tryz.prog 30 #[.int .i64 p, .slice (some ⟨go, 0, none⟩) m co, .slice aw W.length cw, .int .i64 L] w fun e w' => ∃ g' n' c' hs', e = .returned (.slice (some ⟨g', 0, none⟩) n' c') ∧ OwnK stepK w' B w'.heap.size (some ⟨g', 0, none⟩) n' c' hs' (putM p xs W L) ∧ w.grownBy w' (some go) ∧ (g' = go ∨ w.heap.size ≤ g') := by
  have HO := hidP ho
  have HWy := hidP hway
  have HN := hidP hnil
  have hxl := ho.xl
  have hhl := ho.hl
  have HB := hidP hB
  have hmc : m ≤ co := by
    rcases ho.form with ⟨e, _⟩ | ⟨_, _, _, _, _, _, h1, _⟩
    · cases e
    · exact h1
  have HSm := hidP hsum
  have HI := hidP (fun w' (hx : Ext w w') => l1Ints_any aw W.length cw W w' (HWy.out.below hx) HN.out (by omega))
  have HMd := hidP (fun w' => l1Mod_any L p w' hp (by omega))
  have hv0 := Int.emod_nonneg L (show p ≠ 0 by omega)
  have hv1 := Int.emod_lt_of_pos L (show 0 < p by omega)
  obtain ⟨v, hv⟩ : ∃ v, v = L % p := ⟨_, rfl⟩
  rw [← hv] at HMd hv0 hv1
  have HVv := hidP hv
  clear ho hway hnil hB hsum hv
  go_enter Tryz.func30, Tryz.ntmps30
  go_wp2
  go_loopw [9] (fun i wr => ∃ k : Nat, k ≤ m ∧ i = .int .i64 k ∧ Hid (∀ j, j < k → cmpW (wayAt xs j) W < 0) ∧ Hid (Ext w wr)) (fun i _ => m - (intOf i).toNat)
  case atStart => exact ⟨0, Nat.zero_le _, rfl, fun j hj => by omega, Ext.refl _⟩
  case round =>
    obtain ⟨k, hkm, rfl, HJ, HX⟩ := hrel
    by_cases hlt : k < m
    · obtain ⟨b, o, aV, cV, V, M, e', HV, HM, hvl, HNV, hq⟩ := ((HO.out.below HX.out).stepsAt).way k hlt
      simp only [Option.some.injEq, Addr.mk.injEq, and_true] at e'
      obtain ⟨rfl, rfl⟩ := e'
      have HQ := hidP hq
      obtain ⟨q1, q2, _⟩ := hq wr (Ext.refl wr)
      rw [Nat.zero_add] at q1 q2
      have hki : (k : Int) < (m : Int) := by omega
      have HAb := hidP (fun w' (hx : Ext wr w') => l11Before_any aV aw V.length W.length cV cw V W w' (HQ.out w' hx).2.2 ((HWy.out.below HX.out).below hx) hvl (by omega))
      clear hq
      cases hV : decide (cmpW V W < 0)
      · rw [hV] at HAb
        have HNa : Hid (¬ cmpW V W < 0) := of_decide_eq_false hV
        go_wp2_with fail
        refine (HAb.out _ (Ext.refl _)).mono ?_
        rintro e w2 ⟨rfl, hx2⟩
        have HX2 := hidP (HX.out.trans hx2)
        obtain ⟨q1, q2, _⟩ := HQ.out w2 hx2
        rw [Nat.zero_add] at q1 q2
        have HSame := hidP (l1Same_any aV aw V.length W.length cV cw V W w2 (HQ.out w2 hx2).2.2 (HWy.out.below HX2.out) hvl (by omega))
        clear hV HAb hx2
        cases hE : (V == W)
        · rw [hE] at HSame
          have HNn : Hid (wayAt xs k ≠ W) := by show _ ≠ _; rw [HV.out]; simpa using hE
          have HNb : Hid (¬ cmpW (wayAt xs k) W < 0) := by show ¬ _; rw [HV.out]; have := HNa.out; omega
          clear hE
          go_wp2_with fail
          refine HSame.out.mono ?_
          rintro e w3 ⟨rfl, q, rfl⟩
          have HX3 := hidP (HX2.out.trans (Ext.drewN w2 q))
          clear HSame q1 q2
          by_cases hvz : v = 0
          · have HNe : Hid (putM p xs W L = xs) := by
              show _ = _
              exact putM_new0 (by omega) HJ.out (by have := HNb.out; omega) HNn.out (by rw [← HVv.out]; exact hvz)
            go_wp2_with fail
            refine (HMd.out _).mono ?_
            rintro e w4 ⟨rfl, rfl⟩
            go_wp2
            go_ret
            refine ⟨go, m, co, hs, rfl, ?_, ext_grown go HX3.out, .inl rfl⟩
            rw [HNe.out]
            exact (HO.out.below HX3.out).weaken (Nat.le_refl _) HX3.out.size
          · have HNe : Hid (putM p xs W L = xs.take k ++ [(W, v)] ++ xs.drop k) := by
              show _ = _
              rw [putM_new (by omega) HJ.out (by have := HNb.out; omega) HNn.out (by rw [← HVv.out]; exact hvz), HVv.out]
            go_wp2_with fail
            refine (HMd.out _).mono ?_
            rintro e w4 ⟨rfl, rfl⟩
            go_wp2
            obtain ⟨wr', hwr'⟩ : ∃ x, x = w2.drewN q := ⟨_, rfl⟩
            rw [← hwr'] at HX3 ⊢
            clear hwr'
            have hE : Ext wr' wr'.drew := Ext.drew wr'
            have hk0 : (0 : Int) ≤ (k : Int) := by omega
            have hk1 : (k : Int) ≤ (m : Int) := by omega
            have hk2 : (k : Int) ≤ (co : Int) := by omega
            have hk3 : (m : Int) ≤ (co : Int) := by omega
            have hwsz := HX3.out.size
            have hgo := HO.out.base_lt go 0 rfl
            have hBw := HB.out
            (refine walkR_start (fun w' => Ext wr' w') 16 (by kernel_rfl) ?_; simp only [numbered, List.take_succ_cons, List.take_zero, Nat.zero_add, Nat.reduceAdd, List.length_cons, List.length_nil])
            (refine walkR_later ?_; simp only [List.cons_append, List.nil_append])
            (repeat (first | (refine walkR_still (v := ?_) rfl (by decide +kernel) rfl (fun _ _ _ h => h) hE ?_ ?_; rotate_left; (focus (intro w' hw'; skip; go_simp; all_goals (with_reducible rfl))); simp only [Act.put, List.setIfInBounds_toArray, List.set_cons_zero, List.set_cons_succ]) | (refine walkR_skip rfl (by decide +kernel) rfl (fun _ _ _ h => h) hE ?_; simp only [Act.put, List.setIfInBounds_toArray, List.set_cons_zero, List.set_cons_succ])))
            (refine walkR_later ?_; simp only [List.cons_append, List.nil_append])
            (repeat (first | (refine walkR_still (v := ?_) rfl (by decide +kernel) rfl (fun _ _ _ h => h) hE ?_ ?_; rotate_left; (focus (intro w' hw'; skip; go_simp; all_goals (with_reducible rfl))); simp only [Act.put, List.setIfInBounds_toArray, List.set_cons_zero, List.set_cons_succ]) | (refine walkR_skip rfl (by decide +kernel) rfl (fun _ _ _ h => h) hE ?_; simp only [Act.put, List.setIfInBounds_toArray, List.set_cons_zero, List.set_cons_succ])))
            (refine walkR_later ?_; simp only [List.cons_append, List.nil_append])
            (repeat (first | (refine walkR_still (v := ?_) rfl (by decide +kernel) rfl (fun _ _ _ h => h) hE ?_ ?_; rotate_left; (focus (intro w' hw'; skip; go_simp; all_goals (with_reducible rfl))); simp only [Act.put, List.setIfInBounds_toArray, List.set_cons_zero, List.set_cons_succ]) | (refine walkR_skip rfl (by decide +kernel) rfl (fun _ _ _ h => h) hE ?_; simp only [Act.put, List.setIfInBounds_toArray, List.set_cons_zero, List.set_cons_succ])))
            (refine walkR_later ?_; simp only [List.cons_append, List.nil_append]); (refine walkR_later ?_; simp only [List.cons_append, List.nil_append]); (refine walkR_later ?_; simp only [List.cons_append, List.nil_append]); (refine walkR_later ?_; simp only [List.cons_append, List.nil_append])
            (repeat (first | (refine walkR_still (v := ?_) rfl (by decide +kernel) rfl (fun _ _ _ h => h) hE ?_ ?_; rotate_left; (focus (intro w' hw'; skip; go_simp; all_goals (with_reducible rfl))); simp only [Act.put, List.setIfInBounds_toArray, List.set_cons_zero, List.set_cons_succ]) | (refine walkR_skip rfl (by decide +kernel) rfl (fun _ _ _ h => h) hE ?_; simp only [Act.put, List.setIfInBounds_toArray, List.set_cons_zero, List.set_cons_succ])))
            (refine walkR_only (fun w' => Ext wr' w') rfl (by decide +kernel) rfl ?_ ?_)
            · exact fun _ h => h
            intro K hK
            go_simp
            have hE1 := (Ext.alloc wr' (.cells #[] 62)).trans (Ext.drew _)
            have hsz1 : ((wr'.alloc (.cells #[] 62)).drew).heap.size = wr'.heap.size + 1 := by show (wr'.alloc _).heap.size = _; simp
            have HO1 : Hid (OwnK stepK (wr'.alloc (.cells #[] 62)).drew B ((wr'.alloc (.cells #[] 62)).drew).heap.size (some ⟨wr'.heap.size, 0, none⟩) 0 0 [] []) := ((OwnK.made0 stepK wr').below (Ext.drew _)).weaken (B' := B) (by omega) (Nat.le_refl _)
            have HP1 := hidP (((HO.out.below HX3.out).below hE1).front k (by omega))
            have HQ1 := hidP ((HO.out.below HX3.out).below hE1)
            refine hK _ _ hE1 ?_
            clear hK K hE
            (try simp only [Act.put, List.setIfInBounds_toArray, List.set_cons_zero, List.set_cons_succ])
            obtain ⟨w1, hw1⟩ : ∃ w1, w1 = (wr'.alloc (.cells #[] 62)).drew := ⟨_, rfl⟩
            rw [← hw1] at HO1 HP1 HQ1 hE1 hsz1
            first | rw [← hw1] | skip
            clear hw1
            (refine walkR_only (fun w' => Ext wr' w') rfl (by decide +kernel) rfl ?_ ?_)
            · exact fun _ h => h
            intro K hK
            refine wp_append_part stepK 26 (.agg #[.slice none 0 0, .int .i64 0]) 32 (.tmp 73) (.tmp 76) rfl Tryz.underlying26 Tryz.info62 rfl (by omega) B _ wr'.heap.size 0 0 [] (hs.take k) [] (xs.take k) rfl HO1.out go 0 k co rfl HP1.out (fun i j hi => by omega) (by omega) (by omega) ?_
            intro g4 c4 w4 ho4 hg4 hn4
            rw [List.nil_append, List.nil_append, Nat.zero_add] at ho4
            rw [Nat.zero_add]
            have hE4 : Ext wr' w4 := Below.past_block2 hE1 hg4 (by omega) (Nat.le_refl _)
            have HQ4 := hidP (HQ1.out.past hg4 (fun g o e => by simp only [Option.some.injEq, Addr.mk.injEq] at e; omega) (by omega))
            have HO4 := hidP ho4
            have hg4b : wr'.heap.size ≤ g4 := by omega
            have hsz4 := hg4.size
            refine hK _ _ hE4 ?_
            clear hK K ho4 hg4 hn4 hE1
            (try simp only [Act.put, List.setIfInBounds_toArray, List.set_cons_zero, List.set_cons_succ])
            (refine walkR_only (fun w' => Ext wr' w') rfl (by decide +kernel) rfl (fun _ h => h) ?_; intro K hK; go_simp; refine (HI.out _ (HX3.out.trans hE4)).mono ?_; rintro e w6 ⟨a1, c1, rfl, ho1, hx6⟩; refine hK _ _ (hE4.trans hx6) ?_; clear hK K; (try simp only [Act.put, List.setIfInBounds_toArray, List.set_cons_zero, List.set_cons_succ]))
            have hE6 := hE4.trans hx6
            (refine walkR_only (fun w' => Ext wr' w') rfl (by decide +kernel) rfl (fun _ h => h) ?_; intro K hK; go_simp; refine (HMd.out _).mono ?_; rintro e w' ⟨rfl, rfl⟩; refine hK _ _ (hE6) ?_; clear hK K; (try simp only [Act.put, List.setIfInBounds_toArray, List.set_cons_zero, List.set_cons_succ]))
            (repeat (first | (refine walkR_still (v := ?_) rfl (by decide +kernel) rfl (fun _ _ _ h => h) hE6 ?_ ?_; rotate_left; (focus (intro w' hw'; skip; go_simp; all_goals (with_reducible rfl))); simp only [Act.put, List.setIfInBounds_toArray, List.set_cons_zero, List.set_cons_succ]) | (refine walkR_skip rfl (by decide +kernel) rfl (fun _ _ _ h => h) hE6 ?_; simp only [Act.put, List.setIfInBounds_toArray, List.set_cons_zero, List.set_cons_succ])))
            (refine walkR_only (fun w' => Ext wr' w') rfl (by decide +kernel) rfl ?_ ?_)
            · exact fun _ h => h
            intro K hK
            go_simp
            have hxa := Ext.alloc w6 (.cells #[.slice a1 W.length c1, .int .i64 v] 62)
            have hE7 := hE6.trans hxa
            have HO7 := hidP (HO4.out.below (hx6.trans hxa))
            have HQ7 := hidP (HQ4.out.below (hx6.trans hxa))
            have HI7 := hidP ((ho1.below hxa).base (B' := B) (by omega))
            have HA1 : Hid (∀ b o, a1 = some ⟨b, o, none⟩ → w4.heap.size ≤ b) := fun b o e => (ho1.at_base b o e).1
            have HP7 : Hid (PartK stepK (w6.alloc (.cells #[.slice a1 W.length c1, .int .i64 v] 62)) B w6.heap.size 0 1 [(a1, c1)] [(W, v)]) := PartK.single (fun j _ => (cell_top _ _ _ _ _ rfl).trans (by simp [stepK])) HI7.out
            have hsz7 := (hx6.trans hxa).size
            refine hK _ _ hE7 ?_
            clear hK K ho1 hx6 hE4 hE6 hxa
            (try simp only [Act.put, List.setIfInBounds_toArray, List.set_cons_zero, List.set_cons_succ])
            obtain ⟨w7, hw7⟩ : ∃ w7, w7 = w6.alloc (.cells #[.slice a1 W.length c1, .int .i64 v] 62) := ⟨_, rfl⟩
            rw [← hw7] at HO7 HQ7 HI7 HP7 hsz7 hE7
            first | rw [← hw7] | skip
            clear hw7
            (refine walkR_only (fun w' => Ext wr' w') rfl (by decide +kernel) rfl ?_ ?_)
            · exact fun _ h => h
            intro K hK
            refine wp_append_part stepK 26 (.agg #[.slice none 0 0, .int .i64 0]) 32 (.tmp 77) (.tmp 84) rfl Tryz.underlying26 Tryz.info62 rfl (by omega) B _ g4 k c4 (hs.take k) [(a1, c1)] (xs.take k) [(W, v)] rfl HO7.out w6.heap.size 0 1 1 rfl HP7.out (fun i j hi hj b o b' o' e e' => by
              obtain rfl : j = 0 := by omega
              have h1 := HA1.out b' o' e'
              have h2 := HQ7.out.lt i (by omega) b o (by rw [← e]; simp [List.getD_eq_getElem?_getD, List.getElem?_take, hi])
              omega) (by omega) (by omega) ?_
            intro g10 c10 w10 ho10 hg10 hn10
            have hE10 : Ext wr' w10 := Below.past_block2 hE7 hg10 hE7.size hg4b
            have HQ10 := hidP (HQ7.out.past hg10 (fun g o e => by simp only [Option.some.injEq, Addr.mk.injEq] at e; omega) (by omega))
            have HO10 := hidP ho10
            have hg10b : wr'.heap.size ≤ g10 := by have := hE7.size; omega
            have HP10 := hidP (HQ10.out.part k (by omega))
            refine hK _ _ hE10 ?_
            clear hK K ho10 hg10 hn10 hE7
            (try simp only [Act.put, List.setIfInBounds_toArray, List.set_cons_zero, List.set_cons_succ])
            (refine walkR_tail (by rfl) (by kernel_rfl) ?_; simp only [List.drop_succ_cons, List.drop_zero])
            have hx61 : (if co = k then some (⟨go, 0, none⟩ : Addr) else some ⟨go, k * 2, none⟩) = some ⟨go, if co = k then 0 else k * 2, none⟩ := by split <;> rfl
            have HP61 := hidP (HP10.out.moved (o' := if co = k then 0 else k * 2) (by
              by_cases hck : co = k
              · right; omega
              · left; rw [if_neg hck]; rfl))
            rw [hx61]
            clear hx61
            refine wpList_append_part stepK 26 (.agg #[.slice none 0 0, .int .i64 0]) 32 rfl (.tmp 85) (.tmp 88) rfl Tryz.underlying26 Tryz.info62 rfl (by omega) B _ g10 (k + 1) c10 _ (hs.drop k) _ (xs.drop k) rfl HO10.out go _ (m - k) (co - k) (by first | rfl | (rw [Nat.sub_self]; rfl)) HP61.out ?_ (by omega) (by have := hE10.size; omega) ?_
            · intro i j hi hj b o b' o' e e'
              have hhl10 := HQ10.out.hl
              have e2 : (hs.getD (k + j) (none, 0)).1 = some ⟨b', o', none⟩ := by rw [← e']; simp [List.getD_eq_getElem?_getD, List.getElem?_drop]
              by_cases hi2 : i < k
              · have e1 : (hs.getD i (none, 0)).1 = some ⟨b, o, none⟩ := by
                  rw [← e, getD_left _ _ _ _ (by simp; omega)]
                  simp [List.getD_eq_getElem?_getD, List.getElem?_take, hi2]
                exact HQ10.out.apart i (k + j) (by omega) (by omega) (by omega) b o b' o' e1 e2
              · have e1 : a1 = some ⟨b, o, none⟩ := by
                  rw [← e, getD_right _ _ _ _ (by simp; omega)]
                  have : i - (hs.take k).length = 0 := by simp; omega
                  rw [this]
                  rfl
                have h1 := HA1.out b o e1
                have h2 := HQ10.out.lt (k + j) (by omega) b' o' e2
                omega
            intro g14 c14 w14 ho14 hg14 hn14x
            have hE14 : Ext wr' w14 := Below.past_block2 hE10 hg14 hE10.size hg10b
            have hX14 : Ext w w14 := HX3.out.trans hE14
            have hn14 : k + 1 + (m - k) = m + 1 := by omega
            rw [hn14] at ho14 ⊢
            rw [← HNe.out] at ho14
            have HO14 := hidP ho14
            have HB14 : Hid (w.grownBy w14 (some go) ∧ (g14 = go ∨ w.heap.size ≤ g14)) := ⟨ext_grown go hX14, .inr (by have := hE10.size; have := HX3.out.size; omega)⟩
            clear ho14 hg14 hE10 hE14 hX14
            go_wp2
            all_goals go_ret
            all_goals first | exact ⟨g14, m + 1, c14, _, rfl, HO14.out, HB14.out⟩ | exact ⟨g14, m + 1, c14, rfl, ⟨_, HO14.out⟩, HB14.out⟩
        · rw [hE] at HSame
          obtain rfl : V = W := by simpa using hE
          have hs1 := HSm.out k hlt
          rw [HM.out] at hs1
          have hwr : IntKind.i64.wrap (M + L) = M + L := wrap_in (by omega) (by omega)
          have HMd2 := hidP (fun w' => l1Mod_any (M + L) p w' hp (by omega))
          have hu0 := Int.emod_nonneg (M + L) (show p ≠ 0 by omega)
          have hu1 := Int.emod_lt_of_pos (M + L) (show 0 < p by omega)
          obtain ⟨u, hu⟩ : ∃ u, u = (M + L) % p := ⟨_, rfl⟩
          rw [← hu] at HMd2 hu0 hu1
          have HU := hidP hu
          clear hE hu
          go_wp2_with fail
          refine HSame.out.mono ?_
          rintro e w3 ⟨rfl, q, rfl⟩
          have HX3 := hidP (HX2.out.trans (Ext.drewN w2 q))
          obtain ⟨g, al, cl, e', hh, q1, q2, r1, r2, hol⟩ := (HO.out.below HX3.out).stepCell k (by omega)
          simp only [Option.some.injEq, Addr.mk.injEq, and_true] at e'
          subst e'
          rw [HV.out] at q1
          rw [HM.out] at q2
          have hst := (HO.out.below HX3.out).stored k 1 (by omega) (by decide) (.int .i64 u) (wayAt xs k, u) rfl rfl rfl
          rw [HV.out] at hst
          have HSt := hidP hst
          have hgB := HO.out.base_lt go 0 rfl
          have HXB : Hid (Below B w (w2.drewN q)) := Below.mono HX3.out HB.out
          clear HSame hst hh hol
          go_wp2_with fail
          refine (HMd2.out _).mono ?_
          rintro e w4 ⟨rfl, rfl⟩
          by_cases huz : u = 0
          · have HNe : Hid (putM p xs V L = (xs.set k (V, u)).take k ++ (xs.set k (V, u)).drop (k + 1)) := by
              show _ = _
              rw [putM_gone (by omega) HJ.out HV.out (by rw [HM.out, ← HU.out]; exact huz), List.take_set_of_le (Nat.le_refl k), List.drop_set_of_lt (by omega)]
            subst huz
            have HO3' : Hid (OwnK stepK ((w2.drewN q).setCell ⟨go, k * 2 + 1, none⟩ (.int .i64 0)) B ((w2.drewN q).setCell ⟨go, k * 2 + 1, none⟩ (.int .i64 0)).heap.size (some ⟨go, 0, none⟩) m co hs (xs.set k (V, 0))) := hidP (OwnK.weaken (U' := ((w2.drewN q).setCell ⟨go, k * 2 + 1, none⟩ (.int .i64 0)).heap.size) HSt.out (Nat.le_refl _) (by have := HX3.out.size; simpa [World.setCell] using this))
            have HXC' : Hid (w.grownBy ((w2.drewN q).setCell ⟨go, k * 2 + 1, none⟩ (.int .i64 0)) (some go)) := grown_trans (ext_grown go HX3.out) (grown_set _ _ _ _)
            clear HSt HXB
            go_wp2
            obtain ⟨ys, hys⟩ : ∃ ys, ys = xs.set k (V, 0) := ⟨_, rfl⟩
            rw [← hys] at HNe HO3'
            obtain ⟨wr', hwr'⟩ : ∃ x, x = (w2.drewN q).setCell ⟨go, k * 2 + 1, none⟩ (.int .i64 0) := ⟨_, rfl⟩
            rw [← hwr'] at HO3' HXC' ⊢
            have HO3 := HO3'
            have HXC := HXC'
            clear hwr' hys HO3' HXC' q1 q2 r1 r2
            have hE : Ext wr' wr'.drew := Ext.drew wr'
            have hk0 : (0 : Int) ≤ (k : Int) := by omega
            have hk1 : (k : Int) ≤ (m : Int) := by omega
            have hk2 : (k : Int) ≤ (co : Int) := by omega
            have hk3 : (m : Int) ≤ (co : Int) := by omega
            have hk4 : IntKind.i64.wrap ((k : Int) + 1) = (k : Int) + 1 := wrap_in (by omega) (by omega)
            have hk5 : (k : Int) + 1 ≤ (m : Int) := by omega
            have hk6 : (0 : Int) ≤ (k : Int) + 1 := by omega
            have hk7 : ((k : Int) + 1).toNat = k + 1 := by omega
            have hwsz := HXC.out.size
            have hgo := HO.out.base_lt go 0 rfl
            have hBw := HB.out
            (refine walkR_start (fun w' => Ext wr' w') 9 (by kernel_rfl) ?_; simp only [numbered, List.take_succ_cons, List.take_zero, Nat.zero_add, Nat.reduceAdd, List.length_cons, List.length_nil])
            (refine walkR_later ?_; simp only [List.cons_append, List.nil_append])
            (repeat (first | (refine walkR_still (v := ?_) rfl (by decide +kernel) rfl (fun _ _ _ h => h) hE ?_ ?_; rotate_left; (focus (intro w' hw'; skip; go_simp; all_goals (with_reducible rfl))); simp only [Act.put, List.setIfInBounds_toArray, List.set_cons_zero, List.set_cons_succ]) | (refine walkR_skip rfl (by decide +kernel) rfl (fun _ _ _ h => h) hE ?_; simp only [Act.put, List.setIfInBounds_toArray, List.set_cons_zero, List.set_cons_succ])))
            (refine walkR_later ?_; simp only [List.cons_append, List.nil_append])
            (repeat (first | (refine walkR_still (v := ?_) rfl (by decide +kernel) rfl (fun _ _ _ h => h) hE ?_ ?_; rotate_left; (focus (intro w' hw'; skip; go_simp; all_goals (with_reducible rfl))); simp only [Act.put, List.setIfInBounds_toArray, List.set_cons_zero, List.set_cons_succ]) | (refine walkR_skip rfl (by decide +kernel) rfl (fun _ _ _ h => h) hE ?_; simp only [Act.put, List.setIfInBounds_toArray, List.set_cons_zero, List.set_cons_succ])))
            (refine walkR_only (fun w' => Ext wr' w') rfl (by decide +kernel) rfl ?_ ?_)
            · exact fun _ h => h
            intro K hK
            go_simp
            have hE1 := (Ext.alloc wr' (.cells #[] 62)).trans (Ext.drew _)
            have hsz1 : ((wr'.alloc (.cells #[] 62)).drew).heap.size = wr'.heap.size + 1 := by show (wr'.alloc _).heap.size = _; simp
            have HO1 : Hid (OwnK stepK (wr'.alloc (.cells #[] 62)).drew B ((wr'.alloc (.cells #[] 62)).drew).heap.size (some ⟨wr'.heap.size, 0, none⟩) 0 0 [] []) := ((OwnK.made0 stepK wr').below (Ext.drew _)).weaken (B' := B) (by omega) (Nat.le_refl _)
            have HP1 := hidP ((HO3.out.below hE1).front k (by omega))
            have HQ1 := hidP (HO3.out.below hE1)
            refine hK _ _ hE1 ?_
            clear hK K hE
            (try simp only [Act.put, List.setIfInBounds_toArray, List.set_cons_zero, List.set_cons_succ])
            obtain ⟨w1, hw1⟩ : ∃ w1, w1 = (wr'.alloc (.cells #[] 62)).drew := ⟨_, rfl⟩
            rw [← hw1] at HO1 HP1 HQ1 hE1 hsz1
            first | rw [← hw1] | skip
            clear hw1
            (refine walkR_only (fun w' => Ext wr' w') rfl (by decide +kernel) rfl ?_ ?_)
            · exact fun _ h => h
            intro K hK
            refine wp_append_part stepK 26 (.agg #[.slice none 0 0, .int .i64 0]) 32 (.tmp 57) (.tmp 60) rfl Tryz.underlying26 Tryz.info62 rfl (by omega) B _ wr'.heap.size 0 0 [] (hs.take k) [] (ys.take k) rfl HO1.out go 0 k co rfl HP1.out (fun i j hi => by omega) (by omega) (by omega) ?_
            intro g4 c4 w4 ho4 hg4 hn4
            rw [List.nil_append, List.nil_append, Nat.zero_add] at ho4
            rw [Nat.zero_add]
            have hE4 : Ext wr' w4 := Below.past_block2 hE1 hg4 (by omega) (Nat.le_refl _)
            have HQ4 := hidP (HQ1.out.past hg4 (fun g o e => by simp only [Option.some.injEq, Addr.mk.injEq] at e; omega) (by omega))
            have HO4 := hidP ho4
            have hg4b : wr'.heap.size ≤ g4 := by omega
            have HP4 := hidP (HQ4.out.part (k + 1) (by omega))
            refine hK _ _ hE4 ?_
            clear hK K ho4 hg4 hn4 hE1
            (try simp only [Act.put, List.setIfInBounds_toArray, List.set_cons_zero, List.set_cons_succ])
            (refine walkR_tail (by rfl) (by kernel_rfl) ?_; simp only [List.drop_succ_cons, List.drop_zero])
            have hx65 : (if co = k + 1 then some (⟨go, 0, none⟩ : Addr) else some ⟨go, (k + 1) * 2, none⟩) = some ⟨go, if co = k + 1 then 0 else (k + 1) * 2, none⟩ := by split <;> rfl
            have HP65 := hidP (HP4.out.moved (o' := if co = k + 1 then 0 else (k + 1) * 2) (by
              by_cases hck : co = k + 1
              · right; omega
              · left; rw [if_neg hck]; rfl))
            rw [hx65]
            clear hx65
            refine wpList_append_part stepK 26 (.agg #[.slice none 0 0, .int .i64 0]) 32 rfl (.tmp 61) (.tmp 65) rfl Tryz.underlying26 Tryz.info62 rfl (by omega) B _ g4 k c4 _ (hs.drop (k + 1)) _ (ys.drop (k + 1)) rfl HO4.out go _ (m - (k + 1)) (co - (k + 1)) (by first | rfl | (rw [Nat.sub_self]; rfl)) HP65.out ?_ (by omega) (by have := hE4.size; omega) ?_
            · intro i j hi hj b o b' o' e e'
              have hhl10 := HQ4.out.hl
              have e2 : (hs.getD (k + 1 + j) (none, 0)).1 = some ⟨b', o', none⟩ := by rw [← e']; simp [List.getD_eq_getElem?_getD, List.getElem?_drop]
              have e1 : (hs.getD i (none, 0)).1 = some ⟨b, o, none⟩ := by
                rw [← e]
                simp [List.getD_eq_getElem?_getD, List.getElem?_take, hi]
              exact HQ4.out.apart i (k + 1 + j) (by omega) (by omega) (by omega) b o b' o' e1 e2
            intro g14 c14 w14 ho14 hg14 hn14x
            have hE14 : Ext wr' w14 := Below.past_block2 hE4 hg14 hE4.size hg4b
            have hX14 : w.grownBy w14 (some go) ∧ (g14 = go ∨ w.heap.size ≤ g14) := ⟨grown_trans HXC.out (ext_grown go hE14), .inr (by have := hE4.size; omega)⟩
            have hn14 : k + (m - (k + 1)) = m - 1 := by omega
            rw [hn14] at ho14 ⊢
            rw [← HNe.out] at ho14
            have HO14 := hidP ho14
            have HB14 := hidP hX14
            clear ho14 hg14 hE4 hE14 hX14
            go_wp2
            all_goals go_ret
            all_goals first | exact ⟨g14, m - 1, c14, _, rfl, HO14.out, HB14.out⟩ | exact ⟨g14, m - 1, c14, rfl, ⟨_, HO14.out⟩, HB14.out⟩
          · have HNe : Hid (putM p xs V L = xs.set k (V, u)) := by
              show _ = _
              rw [putM_same (by omega) HJ.out HV.out (by rw [HM.out, ← HU.out]; exact huz), HM.out, HU.out]
            go_wp2
            go_ret
            refine ⟨go, m, co, hs, rfl, OwnK.weaken (by rw [HNe.out]; exact HSt.out) (Nat.le_refl _) ?_, grown_trans (ext_grown go HX3.out) (grown_set _ _ _ _), .inl rfl⟩
            have := HX3.out.size
            simpa [World.setCell] using this
      · rw [hV] at HAb
        have hab := of_decide_eq_true hV
        have HJ2 : Hid (∀ j, j < k + 1 → cmpW (wayAt xs j) W < 0) := by
          intro j hj
          rcases Nat.lt_succ_iff_lt_or_eq.1 hj with h3 | rfl
          · exact HJ.out j h3
          · rw [HV.out]; exact hab
        clear hab hV
        go_wp2_with fail
        refine (HAb.out _ (Ext.refl _)).mono ?_
        rintro e w2 ⟨rfl, hx2⟩
        have HX2 := hidP (HX.out.trans hx2)
        clear hx2 q1 q2
        go_wp2
        go_roundw
        case rel => exact ⟨k + 1, by omega, by go_num, HJ2, HX2⟩
        case measure => simp [intOf]; omega
    · obtain rfl : m = k := by omega
      by_cases hvz : v = 0
      · have HNe : Hid (putM p xs W L = xs) := by
          show _ = _
          exact putM_end0 (l := xs) (fun j hj => HJ.out j (by omega)) (by rw [← HVv.out]; exact hvz)
        go_wp2_with fail
        refine (HMd.out _).mono ?_
        rintro e w4 ⟨rfl, rfl⟩
        go_wp2
        go_ret
        refine ⟨go, m, co, hs, rfl, ?_, ext_grown go HX.out, .inl rfl⟩
        rw [HNe.out]
        exact (HO.out.below HX.out).weaken (Nat.le_refl _) HX.out.size
      · have HNe : Hid (putM p xs W L = xs.take m ++ [(W, v)] ++ xs.drop m) := by
          show _ = _
          rw [putM_end (l := xs) (fun j hj => HJ.out j (by omega)) (by rw [← HVv.out]; exact hvz), hxl, HVv.out]
        go_wp2_with fail
        refine (HMd.out _).mono ?_
        rintro e w4 ⟨rfl, rfl⟩
        go_wp2
        obtain ⟨wr', hwr'⟩ : ∃ x, x = wr := ⟨_, rfl⟩
        rw [← hwr'] at HX ⊢
        have HX3 := HX
        clear hwr' HX
        have hE : Ext wr' wr'.drew := Ext.drew wr'
        have hk0 : (0 : Int) ≤ (m : Int) := by omega
        have hk1 : (m : Int) ≤ (m : Int) := by omega
        have hk2 : (m : Int) ≤ (co : Int) := by omega
        have hk3 : (m : Int) ≤ (co : Int) := by omega
        have hwsz := HX3.out.size
        have hgo := HO.out.base_lt go 0 rfl
        have hBw := HB.out
        (refine walkR_start (fun w' => Ext wr' w') 16 (by kernel_rfl) ?_; simp only [numbered, List.take_succ_cons, List.take_zero, Nat.zero_add, Nat.reduceAdd, List.length_cons, List.length_nil])
        (refine walkR_later ?_; simp only [List.cons_append, List.nil_append])
        (repeat (first | (refine walkR_still (v := ?_) rfl (by decide +kernel) rfl (fun _ _ _ h => h) hE ?_ ?_; rotate_left; (focus (intro w' hw'; skip; go_simp; all_goals (with_reducible rfl))); simp only [Act.put, List.setIfInBounds_toArray, List.set_cons_zero, List.set_cons_succ]) | (refine walkR_skip rfl (by decide +kernel) rfl (fun _ _ _ h => h) hE ?_; simp only [Act.put, List.setIfInBounds_toArray, List.set_cons_zero, List.set_cons_succ])))
        (refine walkR_later ?_; simp only [List.cons_append, List.nil_append])
        (repeat (first | (refine walkR_still (v := ?_) rfl (by decide +kernel) rfl (fun _ _ _ h => h) hE ?_ ?_; rotate_left; (focus (intro w' hw'; skip; go_simp; all_goals (with_reducible rfl))); simp only [Act.put, List.setIfInBounds_toArray, List.set_cons_zero, List.set_cons_succ]) | (refine walkR_skip rfl (by decide +kernel) rfl (fun _ _ _ h => h) hE ?_; simp only [Act.put, List.setIfInBounds_toArray, List.set_cons_zero, List.set_cons_succ])))
        (refine walkR_later ?_; simp only [List.cons_append, List.nil_append])
        (repeat (first | (refine walkR_still (v := ?_) rfl (by decide +kernel) rfl (fun _ _ _ h => h) hE ?_ ?_; rotate_left; (focus (intro w' hw'; skip; go_simp; all_goals (with_reducible rfl))); simp only [Act.put, List.setIfInBounds_toArray, List.set_cons_zero, List.set_cons_succ]) | (refine walkR_skip rfl (by decide +kernel) rfl (fun _ _ _ h => h) hE ?_; simp only [Act.put, List.setIfInBounds_toArray, List.set_cons_zero, List.set_cons_succ])))
        (refine walkR_later ?_; simp only [List.cons_append, List.nil_append]); (refine walkR_later ?_; simp only [List.cons_append, List.nil_append]); (refine walkR_later ?_; simp only [List.cons_append, List.nil_append]); (refine walkR_later ?_; simp only [List.cons_append, List.nil_append])
        (repeat (first | (refine walkR_still (v := ?_) rfl (by decide +kernel) rfl (fun _ _ _ h => h) hE ?_ ?_; rotate_left; (focus (intro w' hw'; skip; go_simp; all_goals (with_reducible rfl))); simp only [Act.put, List.setIfInBounds_toArray, List.set_cons_zero, List.set_cons_succ]) | (refine walkR_skip rfl (by decide +kernel) rfl (fun _ _ _ h => h) hE ?_; simp only [Act.put, List.setIfInBounds_toArray, List.set_cons_zero, List.set_cons_succ])))
        (refine walkR_only (fun w' => Ext wr' w') rfl (by decide +kernel) rfl ?_ ?_)
        · exact fun _ h => h
        intro K hK
        go_simp
        have hE1 := (Ext.alloc wr' (.cells #[] 62)).trans (Ext.drew _)
        have hsz1 : ((wr'.alloc (.cells #[] 62)).drew).heap.size = wr'.heap.size + 1 := by show (wr'.alloc _).heap.size = _; simp
        have HO1 : Hid (OwnK stepK (wr'.alloc (.cells #[] 62)).drew B ((wr'.alloc (.cells #[] 62)).drew).heap.size (some ⟨wr'.heap.size, 0, none⟩) 0 0 [] []) := ((OwnK.made0 stepK wr').below (Ext.drew _)).weaken (B' := B) (by omega) (Nat.le_refl _)
        have HP1 := hidP (((HO.out.below HX3.out).below hE1).front m (by omega))
        have HQ1 := hidP ((HO.out.below HX3.out).below hE1)
        refine hK _ _ hE1 ?_
        clear hK K hE
        (try simp only [Act.put, List.setIfInBounds_toArray, List.set_cons_zero, List.set_cons_succ])
        obtain ⟨w1, hw1⟩ : ∃ w1, w1 = (wr'.alloc (.cells #[] 62)).drew := ⟨_, rfl⟩
        rw [← hw1] at HO1 HP1 HQ1 hE1 hsz1
        first | rw [← hw1] | skip
        clear hw1
        (refine walkR_only (fun w' => Ext wr' w') rfl (by decide +kernel) rfl ?_ ?_)
        · exact fun _ h => h
        intro K hK
        refine wp_append_part stepK 26 (.agg #[.slice none 0 0, .int .i64 0]) 32 (.tmp 73) (.tmp 76) rfl Tryz.underlying26 Tryz.info62 rfl (by omega) B _ wr'.heap.size 0 0 [] (hs.take m) [] (xs.take m) rfl HO1.out go 0 m co rfl HP1.out (fun i j hi => by omega) (by omega) (by omega) ?_
        intro g4 c4 w4 ho4 hg4 hn4
        rw [List.nil_append, List.nil_append, Nat.zero_add] at ho4
        rw [Nat.zero_add]
        have hE4 : Ext wr' w4 := Below.past_block2 hE1 hg4 (by omega) (Nat.le_refl _)
        have HQ4 := hidP (HQ1.out.past hg4 (fun g o e => by simp only [Option.some.injEq, Addr.mk.injEq] at e; omega) (by omega))
        have HO4 := hidP ho4
        have hg4b : wr'.heap.size ≤ g4 := by omega
        have hsz4 := hg4.size
        refine hK _ _ hE4 ?_
        clear hK K ho4 hg4 hn4 hE1
        (try simp only [Act.put, List.setIfInBounds_toArray, List.set_cons_zero, List.set_cons_succ])
        (refine walkR_only (fun w' => Ext wr' w') rfl (by decide +kernel) rfl (fun _ h => h) ?_; intro K hK; go_simp; refine (HI.out _ (HX3.out.trans hE4)).mono ?_; rintro e w6 ⟨a1, c1, rfl, ho1, hx6⟩; refine hK _ _ (hE4.trans hx6) ?_; clear hK K; (try simp only [Act.put, List.setIfInBounds_toArray, List.set_cons_zero, List.set_cons_succ]))
        have hE6 := hE4.trans hx6
        (refine walkR_only (fun w' => Ext wr' w') rfl (by decide +kernel) rfl (fun _ h => h) ?_; intro K hK; go_simp; refine (HMd.out _).mono ?_; rintro e w' ⟨rfl, rfl⟩; refine hK _ _ (hE6) ?_; clear hK K; (try simp only [Act.put, List.setIfInBounds_toArray, List.set_cons_zero, List.set_cons_succ]))
        (repeat (first | (refine walkR_still (v := ?_) rfl (by decide +kernel) rfl (fun _ _ _ h => h) hE6 ?_ ?_; rotate_left; (focus (intro w' hw'; skip; go_simp; all_goals (with_reducible rfl))); simp only [Act.put, List.setIfInBounds_toArray, List.set_cons_zero, List.set_cons_succ]) | (refine walkR_skip rfl (by decide +kernel) rfl (fun _ _ _ h => h) hE6 ?_; simp only [Act.put, List.setIfInBounds_toArray, List.set_cons_zero, List.set_cons_succ])))
        (refine walkR_only (fun w' => Ext wr' w') rfl (by decide +kernel) rfl ?_ ?_)
        · exact fun _ h => h
        intro K hK
        go_simp
        have hxa := Ext.alloc w6 (.cells #[.slice a1 W.length c1, .int .i64 v] 62)
        have hE7 := hE6.trans hxa
        have HO7 := hidP (HO4.out.below (hx6.trans hxa))
        have HQ7 := hidP (HQ4.out.below (hx6.trans hxa))
        have HI7 := hidP ((ho1.below hxa).base (B' := B) (by omega))
        have HA1 : Hid (∀ b o, a1 = some ⟨b, o, none⟩ → w4.heap.size ≤ b) := fun b o e => (ho1.at_base b o e).1
        have HP7 : Hid (PartK stepK (w6.alloc (.cells #[.slice a1 W.length c1, .int .i64 v] 62)) B w6.heap.size 0 1 [(a1, c1)] [(W, v)]) := PartK.single (fun j _ => (cell_top _ _ _ _ _ rfl).trans (by simp [stepK])) HI7.out
        have hsz7 := (hx6.trans hxa).size
        refine hK _ _ hE7 ?_
        clear hK K ho1 hx6 hE4 hE6 hxa
        (try simp only [Act.put, List.setIfInBounds_toArray, List.set_cons_zero, List.set_cons_succ])
        obtain ⟨w7, hw7⟩ : ∃ w7, w7 = w6.alloc (.cells #[.slice a1 W.length c1, .int .i64 v] 62) := ⟨_, rfl⟩
        rw [← hw7] at HO7 HQ7 HI7 HP7 hsz7 hE7
        first | rw [← hw7] | skip
        clear hw7
        (refine walkR_only (fun w' => Ext wr' w') rfl (by decide +kernel) rfl ?_ ?_)
        · exact fun _ h => h
        intro K hK
        refine wp_append_part stepK 26 (.agg #[.slice none 0 0, .int .i64 0]) 32 (.tmp 77) (.tmp 84) rfl Tryz.underlying26 Tryz.info62 rfl (by omega) B _ g4 m c4 (hs.take m) [(a1, c1)] (xs.take m) [(W, v)] rfl HO7.out w6.heap.size 0 1 1 rfl HP7.out (fun i j hi hj b o b' o' e e' => by
          obtain rfl : j = 0 := by omega
          have h1 := HA1.out b' o' e'
          have h2 := HQ7.out.lt i (by omega) b o (by rw [← e]; simp [List.getD_eq_getElem?_getD, List.getElem?_take, hi])
          omega) (by omega) (by omega) ?_
        intro g10 c10 w10 ho10 hg10 hn10
        have hE10 : Ext wr' w10 := Below.past_block2 hE7 hg10 hE7.size hg4b
        have HQ10 := hidP (HQ7.out.past hg10 (fun g o e => by simp only [Option.some.injEq, Addr.mk.injEq] at e; omega) (by omega))
        have HO10 := hidP ho10
        have hg10b : wr'.heap.size ≤ g10 := by have := hE7.size; omega
        have HP10 := hidP (HQ10.out.part m (by omega))
        refine hK _ _ hE10 ?_
        clear hK K ho10 hg10 hn10 hE7
        (try simp only [Act.put, List.setIfInBounds_toArray, List.set_cons_zero, List.set_cons_succ])
        (refine walkR_tail (by rfl) (by kernel_rfl) ?_; simp only [List.drop_succ_cons, List.drop_zero])
        have hx61 : (if co = m then some (⟨go, 0, none⟩ : Addr) else some ⟨go, m * 2, none⟩) = some ⟨go, if co = m then 0 else m * 2, none⟩ := by split <;> rfl
        have HP61 := hidP (HP10.out.moved (o' := if co = m then 0 else m * 2) (by
          by_cases hck : co = m
          · right; omega
          · left; rw [if_neg hck]; rfl))
        rw [hx61]
        clear hx61
        refine wpList_append_part stepK 26 (.agg #[.slice none 0 0, .int .i64 0]) 32 rfl (.tmp 85) (.tmp 88) rfl Tryz.underlying26 Tryz.info62 rfl (by omega) B _ g10 (m + 1) c10 _ (hs.drop m) _ (xs.drop m) rfl HO10.out go _ (m - m) (co - m) (by first | rfl | (rw [Nat.sub_self]; rfl)) HP61.out ?_ (by omega) (by have := hE10.size; omega) ?_
        · intro i j hi hj b o b' o' e e'
          have hhl10 := HQ10.out.hl
          have e2 : (hs.getD (m + j) (none, 0)).1 = some ⟨b', o', none⟩ := by rw [← e']; simp [List.getD_eq_getElem?_getD, List.getElem?_drop]
          by_cases hi2 : i < m
          · have e1 : (hs.getD i (none, 0)).1 = some ⟨b, o, none⟩ := by
              rw [← e, getD_left _ _ _ _ (by simp; omega)]
              simp [List.getD_eq_getElem?_getD, List.getElem?_take, hi2]
            exact HQ10.out.apart i (m + j) (by omega) (by omega) (by omega) b o b' o' e1 e2
          · have e1 : a1 = some ⟨b, o, none⟩ := by
              rw [← e, getD_right _ _ _ _ (by simp; omega)]
              have : i - (hs.take m).length = 0 := by simp; omega
              rw [this]
              rfl
            have h1 := HA1.out b o e1
            have h2 := HQ10.out.lt (m + j) (by omega) b' o' e2
            omega
        intro g14 c14 w14 ho14 hg14 hn14x
        have hE14 : Ext wr' w14 := Below.past_block2 hE10 hg14 hE10.size hg10b
        have hX14 : Ext w w14 := HX3.out.trans hE14
        have hn14 : m + 1 + (m - m) = m + 1 := by omega
        rw [hn14] at ho14 ⊢
        rw [← HNe.out] at ho14
        have HO14 := hidP ho14
        have HB14 : Hid (w.grownBy w14 (some go) ∧ (g14 = go ∨ w.heap.size ≤ g14)) := ⟨ext_grown go hX14, .inr (by have := hE10.size; have := HX3.out.size; omega)⟩
        clear ho14 hg14 hE10 hE14 hX14
        go_wp2
        all_goals go_ret
        all_goals first | exact ⟨g14, m + 1, c14, _, rfl, HO14.out, HB14.out⟩ | exact ⟨g14, m + 1, c14, rfl, ⟨_, HO14.out⟩, HB14.out⟩
end Go.Proofs.YtcfgcacmmmhjcaaGreatDoor

namespace Go.Proofs.YtcfgcacmmmhjcaaGreatDoor
open Go.RowKit

set_option maxHeartbeats 2000000 in
theorem l6Turn_any (a : Option Addr) (n c : Nat) (xs : List Int) (w : World) (h : IntsAt w a n xs) (hn : n ≤ 1000000) :
    Calls Tryz.prog 49 #[.slice a n c] w fun e w' => ∃ a' c', e = .returned (.slice a' n c') ∧ OwnI w' w.heap.size a' n c' xs.reverse ∧ Ext w w' := by
  have H := hidP h
  have hnl := h.len
  have hm := OwnI.made w w.heap.size 0 (Nat.le_refl _) (by unfold maxLen; omega)
  rw [show Array.replicate 0 (Value.int .i64 0) = #[] from rfl] at hm
  have HM : Hid (OwnI (w.alloc (.cells #[] 3)) w.heap.size (some ⟨w.heap.size, 0, none⟩) (n - n) 0 (xs.drop n).reverse) := by
    show OwnI _ _ _ _ _ _
    rw [List.drop_of_length_le (by omega), Nat.sub_self]
    exact hm
  have HX0 := hidP (Ext.alloc w (.cells #[] 3))
  clear h hm
  go_enter Tryz.func49, Tryz.ntmps49
  go_wp2
  go_loopw [3, 4] (fun out i wr => ∃ (r c' : Nat) (a' : Option Addr), r ≤ n ∧ out = .slice a' (n - r) c' ∧ i = .int .i64 ((r : Int) - 1) ∧ Hid (OwnI wr w.heap.size a' (n - r) c' (xs.drop r).reverse) ∧ Hid (Ext w wr)) (fun _ i _ => ((intOf i) + 1).toNat)
  case atStart => exact ⟨n, 0, _, Nat.le_refl _, by rw [Nat.sub_self], rfl, HM, HX0⟩
  case round =>
    clear HM HX0
    obtain ⟨r, c', a', hr, rfl, hi, HO, HX⟩ := hrel
    cases r with
    | zero =>
      subst hi
      rw [List.drop_zero, Nat.sub_zero] at HO
      rw [Nat.sub_zero]
      have hneg : ¬ ((0 : Int) ≤ -1) := by omega
      go_wp2
      go_ret
      exact ⟨a', c', rfl, HO.out, HX.out⟩
    | succ r =>
      have e : (((r + 1 : Nat) : Int) - 1) = (r : Int) := by omega
      rw [e] at hi
      subst hi
      have hge : (0 : Int) ≤ (r : Int) := by omega
      obtain ⟨b, o, rfl, q⟩ := (H.out.below HX.out).get r (by omega)
      have HD : Hid ((xs.drop r).reverse = (xs.drop (r + 1)).reverse ++ [xs.getD r 0]) := by
        show _ = _
        rw [List.drop_eq_getElem_cons (show r < xs.length by omega), List.reverse_cons]
        simp [List.getD_eq_getElem?_getD, show r < xs.length by omega]
      obtain ⟨v, hv⟩ : ∃ v, v = xs.getD r 0 := ⟨_, rfl⟩
      rw [← hv] at q HD
      have HO2 := hidP (HO.out.below (Ext.alloc wr (.cells #[.int .i64 v] 3)))
      have H1 := hidP (one_ints wr v 3)
      have HX2 := hidP (HX.out.trans (Ext.alloc wr (.cells #[.int .i64 v] 3)))
      have hnr : n - (r + 1) + 1 = n - r := by omega
      clear hv
      go_wp2_with (at_builtin; refine wpList_append_ints rfl (.tmp 13) (.tmp 18) rfl w.heap.size a' (n - (r + 1)) c' _ rfl HO2.out (some ⟨wr.heap.size, 0, none⟩) 1 1 [v] rfl H1.out (fun e => by cases e) (by omega) HX2.out.size ?_; intro a2 c2 w2 ho2 hg2; have HX3 := hidP (grown_ext hg2 HX2.out HX2.out.size (fun q e => HO2.out.addr_base q e)); rw [← HD.out, hnr] at ho2; have HO3 := hidP ho2; clear hg2 ho2)
      go_roundw
      case rel => exact ⟨r, c2, a2, by omega, rfl, rfl, HO3, HX3⟩
      case measure => simp [intOf]
theorem IntsAt.keptG {w w' : World} {a : Option Addr} {n g : Nat} {xs : List Int} (h : IntsAt w a n xs) (hg : w.grownBy w' (some g)) (hne : 0 < n → ∀ b o, a = some ⟨b, o, none⟩ → b ≠ g) : IntsAt w' a n xs := by
  refine ⟨h.len, fun i hi => ?_⟩
  obtain ⟨b, o, e, hc⟩ := h.get i hi
  refine ⟨b, o, e, ?_⟩
  rw [← hc]
  exact World.cell?_of_block (a := ⟨b, o + i, none⟩) (hg.block b (World.block_lt_of_cell? w _ hc) (by simpa using hne (by omega) b o e))
theorem AlgAt.keptG {w w' : World} {b g : Nat} {p d : Int} {a : Option Addr} {n c : Nat} (h : AlgAt w b p d a n c) (hg : w.grownBy w' (some g)) (hne : b ≠ g) : AlgAt w' b p d a n c :=
  have hb := hg.block b (World.block_lt_of_cell? w _ h.c0) (by simpa using hne)
  ⟨(World.cell?_of_block (a := ⟨b, 0, none⟩) hb).trans h.c0, (World.cell?_of_block (a := ⟨b, 1, none⟩) hb).trans h.c1, (World.cell?_of_block (a := ⟨b, 2, none⟩) hb).trans h.c2⟩
theorem grown_step {u v w : World} {go g : Nat} (h : u.grownBy v (some go)) (k : v.grownBy w (some g)) (hg : g = go ∨ u.heap.size ≤ g) : u.grownBy w (some go) :=
  ⟨k.os.trans h.os, k.tape.trans h.tape, k.output.trans h.output, Nat.le_trans h.size k.size, fun i hi hb => (k.block i (Nat.lt_of_lt_of_le hi h.size) (by
    rcases hg with rfl | hg
    · exact hb
    · simp only [ne_eq, Option.some.injEq]; omega)).trans (h.block i hi hb)⟩
/-- the first descent behind a place, -1 if there is none -/
def FirstD (x : List Int) (m z : Int) : Prop :=
  (z = -1 ∧ ∀ q : Nat, m < q → q + 1 < x.length → x.getD q 0 ≤ x.getD (q + 1) 0) ∨
  (∃ i : Nat, z = i ∧ m < i ∧ i + 1 < x.length ∧ x.getD (i + 1) 0 < x.getD i 0 ∧ ∀ q : Nat, m < q → q < i → x.getD q 0 ≤ x.getD (q + 1) 0)
theorem words_puts {p : Int} {d : Nat} {xs A : List Tm} (h : ∀ q ∈ xs, wordB d q.1 = true) (hA : ∀ q ∈ A, wordB d q.1 = true) : ∀ q ∈ putsM p xs A, wordB d q.1 = true := fun q hq => by
  rcases mem_putsM A hq with ⟨s, hs, e⟩ | ⟨s, hs, e⟩
  · rw [← e]; exact h s hs
  · rw [← e]; exact hA s hs
theorem strT_word {p : Int} {d : Nat} {row : Int → Int → Int → Int} (hp : 0 < p) (f : Nat) {w : List Int} {n : Int} (hw : WordA d w) (hl : w.length ≤ 6) (h0 : 0 ≤ n) (h1 : n < p) : ∀ q ∈ strT d row p f w n, wordB d q.1 = true := fun q hq => by
  obtain ⟨a1, a2, a3, _⟩ := strT_mem d row p hp f w n hw hl h0 h1 q hq
  exact wordB_parts.2 ⟨by omega, a1, a3⟩
theorem brkT_word {p : Int} {d : Nat} {row : Int → Int → Int → Int} (hp : 0 < p) (f : Nat) {x : List Int} {i : Nat} (v : Int) (hw : WordA d x) (hl : x.length ≤ 6) (hi : i + 1 < x.length) {k : Nat} (hk : k ≤ d) : ∀ q ∈ brkT d row p f x i v k, wordB d q.1 = true := fun q hq => by
  unfold brkT at hq
  rw [List.mem_flatMap] at hq
  obtain ⟨j, hj, hq⟩ := hq
  have hj := List.mem_range.1 hj
  split at hq
  · simp at hq
  · have := cutA_length (k := (j : Int)) hi
    exact strT_word hp f (hw.cut hi (by omega)) (by omega) (Int.emod_nonneg _ (by omega)) (Int.emod_lt_of_pos _ hp) q hq

set_option maxRecDepth 100000 in
set_option maxHeartbeats 8000000 in
theorem l11Straight_any (p : Int) (d : Nat) (ta : Option Addr) (N tc : Nat) (ts : List Int) (hd : d ≤ 28) (hN : N = d * d * d) (hNc : N ≤ tc) (hc2 : tc ≤ 1000000000000) (hp : 2 ≤ p) (hp2 : p ≤ 10007) (hrt : Res p ts) :
    ∀ (f B go m co : Nat) (hs : List Hdr) (xs : List Tm) (a : Option Addr) (n c : Nat) (x : List Int) (v : Int) (w : World), fuelA x < f → OwnK stepK w B w.heap.size (some ⟨go, 0, none⟩) m co hs xs → NormM p xs → (∀ q ∈ xs, wordB d q.1 = true) →
      IntsAt w a n x → (a = none → c = 0) → n ≤ c → (∀ b o, a = some ⟨b, o, none⟩ → b ≠ go) → WordA d x → x.length ≤ 6 → 0 ≤ v → v < p → B ≤ w.heap.size → IntsAt w ta N ts → (0 < N → ∀ b o, ta = some ⟨b, o, none⟩ → b ≠ go) →
      Calls Tryz.prog 48 #[algV p d ta N tc, .slice (some ⟨go, 0, none⟩) m co, .slice a n c, .int .i64 v] w fun e w' => ∃ g' n' c' hs', e = .returned (.slice (some ⟨g', 0, none⟩) n' c') ∧ OwnK stepK w' B w'.heap.size (some ⟨g', 0, none⟩) n' c' hs' (putsM p xs (strT d (rowE d ts) p f x v)) ∧ w.grownBy w' (some go) ∧ (g' = go ∨ w.heap.size ≤ g')
  | 0, _, _, _, _, _, _, _, _, _, _, _, _, hf, _, _, _, _, _, _, _, _, _, _, _, _, _, _ => absurd hf (Nat.not_lt_zero _)
  | f + 1, B, go, m, co, hs, xs, a, n, c, x, v, w, hf, ho, hnm, hwx, hi, hnil, hnc, hago, hwd, hx6, hv0, hv1, hB, ht, htgo => by
    obtain rfl : n = x.length := hi.len.symm
    have IH := hidP (l11Straight_any p d ta N tc ts hd hN hNc hc2 hp hp2 hrt f)
    have hxa := Ext.alloc w (.cells #[.int .i64 p, .int .i64 d, .slice ta N tc] 28)
    have hgo := ho.base_lt go 0 rfl
    have HA := hidP (AlgAt.new w _ rfl p d ta N tc 28)
    have HO := hidP ((ho.below hxa).weaken (Nat.le_refl _) hxa.size)
    have HI := hidP (hi.below hxa)
    have HT := hidP (ht.below hxa)
    have HX0 := hidP hxa
    have hsz0 : w.heap.size + 1 = (w.alloc (.cells #[.int .i64 p, .int .i64 d, .slice ta N tc] 28)).heap.size := by simp
    have HNm := hidP hnm
    have HWx := hidP hwx
    have HNil := hidP hnil
    have HAg := hidP hago
    have HTg := hidP htgo
    have HW := hidP hwd
    have HF := hidP hf
    have HR := hidP hrt
    have HNe := hidP hN
    have hml := ho.xl
    have hmc := norm_count hd hnm hwx
    have HMc := hidP (show m ≤ 600000000 by omega)
    clear ho hi ht hxa hnm hwx hnil hago htgo hwd hf hrt hN hml hmc
    obtain ⟨w0, hw0⟩ : ∃ w0, w0 = w.alloc (.cells #[.int .i64 p, .int .i64 d, .slice ta N tc] 28) := ⟨_, rfl⟩
    obtain ⟨bk, hbk⟩ : ∃ bk, bk = w.heap.size := ⟨_, rfl⟩
    rw [← hw0] at HA HO HI HT HX0 hsz0
    rw [← hbk] at HA
    have HBk : Hid (bk ≠ go ∧ go < w0.heap.size ∧ B ≤ w0.heap.size ∧ w.heap.size ≤ w0.heap.size) := ⟨by omega, by omega, by omega, by omega⟩
    clear hgo hB hsz0
    go_enter Tryz.func48, Tryz.ntmps48
    go_wp2
    first | rw [← hw0] | skip
    simp only [← hbk]
    clear hw0 hbk
    go_loopw [9, 10] (fun at_ i wr => ∃ mI z : Int, -2 ≤ mI ∧ mI + 1 < x.length ∧ at_ = .int .i64 z ∧ i = .int .i64 mI ∧ Hid (FirstD x mI z) ∧ Hid (Ext w0 wr)) (fun _ i _ => ((intOf i) + 1).toNat)
    case atStart => exact ⟨(x.length : Int) - 2, -1, by omega, by omega, rfl, rfl, .inl ⟨rfl, fun q h1 h2 => by omega⟩, Ext.refl _⟩
    case round =>
      obtain ⟨mI, z, hm1, hm2, rfl, rfl, HFd, HX⟩ := hrel
      by_cases hge : 0 ≤ mI
      · obtain ⟨k, rfl⟩ : ∃ k : Nat, mI = k := ⟨mI.toNat, by omega⟩
        have hk1 : (k : Int) < (x.length : Int) := by omega
        have hk2 : (k : Int) + 1 < (x.length : Int) := by omega
        have hk3 : (0 : Int) ≤ (k : Int) + 1 := by omega
        have hkw : IntKind.i64.wrap ((k : Int) + 1) = (k : Int) + 1 := wrap_in (by omega) (by omega)
        have hkn : ((k : Int) + 1).toNat = k + 1 := by omega
        have hlt : k + 1 < x.length := by omega
        obtain ⟨bx, ox, rfl, q0⟩ := (HI.out.below HX.out).get k (by omega)
        have q1 := (HI.out.below HX.out).atc (k + 1) hlt
        obtain ⟨y0, hy0⟩ : ∃ y, y = x.getD k 0 := ⟨_, rfl⟩
        obtain ⟨y1, hy1⟩ : ∃ y, y = x.getD (k + 1) 0 := ⟨_, rfl⟩
        rw [← hy0] at q0
        rw [← hy1] at q1
        cases hgt : decide (y1 < y0)
        · have hng := of_decide_eq_false hgt
          have HF2 : Hid (FirstD x ((k : Int) - 1) z) := by
            have hstep : ∀ q : Nat, (k : Int) - 1 < q → (k : Int) < q ∨ q = k := fun q h => by omega
            rcases HFd.out with ⟨h1, h2⟩ | ⟨i, h1, h2, h3, h4, h5⟩
            · refine .inl ⟨h1, fun q hq hq2 => ?_⟩
              rcases hstep q hq with h | rfl
              · exact h2 q h hq2
              · rw [← hy0, ← hy1]; omega
            · refine .inr ⟨i, h1, by omega, h3, h4, fun q hq hq2 => ?_⟩
              rcases hstep q hq with h | rfl
              · exact h5 q h hq2
              · rw [← hy0, ← hy1]; omega
          clear hy0 hy1 hng
          go_wp2
          go_quiet (fail)
          go_wp2
          go_roundw
          case rel => exact ⟨(k : Int) - 1, z, by omega, by omega, rfl, by go_num, HF2, HX.out.trans (Ext.drewN _ _)⟩
          case measure => simp [intOf]
        · have hgt2 := of_decide_eq_true hgt
          have HF2 : Hid (FirstD x ((k : Int) - 1) k) := .inr ⟨k, rfl, by omega, hlt, by rw [← hy0, ← hy1]; exact hgt2, fun q h1 h2 => by omega⟩
          clear hy0 hy1
          go_wp2
          go_quiet (fail)
          go_wp2
          go_roundw
          case rel => exact ⟨(k : Int) - 1, k, by omega, by omega, rfl, by go_num, HF2, HX.out.trans (Ext.drewN _ _)⟩
          case measure => simp [intOf]
      · rcases HFd.out with ⟨rfl, h2⟩ | ⟨i, rfl, h2, h3, h4, h5⟩
        · have HE : Hid (strT d (rowE d ts) p (f + 1) x v = [(x, v)]) := strT_end v fun j hj => h2 j (by omega) hj
          have HPt := hidP (l11Put_grown p B go m co hs xs a c x v wr ((HO.out.below HX.out).weaken (Nat.le_refl _) HX.out.size) (HI.out.below HX.out) HNil.out (by omega) (by have := HMc.out; omega) (Nat.le_trans HBk.out.2.2.1 HX.out.size) (by omega) hp2 (by omega) (by omega) (fun i hi => by
            have h1 := HO.out.xl
            have := HNm.out.at (i := i) (by omega)
            omega))
          obtain ⟨g0, g1, g2⟩ := HA.out.below HX.out
          clear h2 HFd
          go_wp2_with fail
          refine HPt.out.mono ?_
          rintro e w2 ⟨g', n', c', hs', rfl, ho2, hg2, hor⟩
          have HO2 := hidP ho2
          have HG2 : Hid (w.grownBy w2 (some go)) := grown_trans (ext_grown go (HX0.out.trans HX.out)) hg2
          have HOr : Hid (g' = go ∨ w.heap.size ≤ g') := by
            rcases hor with h | h
            · exact .inl h
            · right
              have h1 := HBk.out.2.2.2
              have h2 := HX.out.size
              omega
          clear ho2 hg2 hor
          go_wp2
          go_ret
          have hO : OwnK stepK w2 B w2.heap.size (some ⟨g', 0, none⟩) n' c' hs' (putsM p xs (strT d (rowE d ts) p (f + 1) x v)) := by
            rw [HE.out, putsM_one]
            exact HO2.out
          first | exact ⟨g', n', c', hs', rfl, hO, HG2.out, HOr.out⟩ | exact ⟨g', n', c', rfl, ⟨hs', hO⟩, HG2.out, HOr.out⟩
        · have hDs : DescAt x i := ⟨h3, h4, fun j hj => h5 j (by omega) hj⟩
          have HDs := hidP hDs
          have HE := hidP (strT_desc (d := d) (row := rowE d ts) (p := p) (f := f) v hDs)
          have hlt := h3
          have hneg : ¬ ((i : Int) < 0) := by omega
          have hk1 : (i : Int) < (x.length : Int) := by omega
          have hk2 : (i : Int) + 1 < (x.length : Int) := by omega
          have hk3 : (0 : Int) ≤ (i : Int) + 1 := by omega
          have hkw : IntKind.i64.wrap ((i : Int) + 1) = (i : Int) + 1 := wrap_in (by omega) (by omega)
          have hkn : ((i : Int) + 1).toNat = i + 1 := by omega
          obtain ⟨y0, hy0⟩ : ∃ y, y = x.getD i 0 := ⟨_, rfl⟩
          obtain ⟨y1, hy1⟩ : ∃ y, y = x.getD (i + 1) 0 := ⟨_, rfl⟩
          have hb0 := HW.out.all y0 (by rw [hy0]; simp [List.getD_eq_getElem?_getD, show i < x.length by omega])
          have hb1 := HW.out.all y1 (by rw [hy1]; simp [List.getD_eq_getElem?_getD, hlt])
          obtain ⟨i0, rfl⟩ : ∃ i : Nat, y0 = i := ⟨y0.toNat, by omega⟩
          obtain ⟨j0, rfl⟩ : ∃ i : Nat, y1 = i := ⟨y1.toNat, by omega⟩
          have HY0 := hidP hy0
          have HY1 := hidP hy1
          have hid : i0 < d := by omega
          have hjd : j0 < d := by omega
          have hNp : 0 < N := by rw [HNe.out]; exact Nat.mul_pos (Nat.mul_pos (by omega) (by omega)) (by omega)
          obtain ⟨bt, ot, rfl, _⟩ := HT.out.get 0 hNp
          obtain ⟨bx, ox, rfl, _⟩ := HI.out.get i (by omega)
          have hbtl := HT.out.block_lt hNp
          have hbxl := HI.out.block_lt (show 0 < x.length by omega)
          obtain ⟨T, hT⟩ : ∃ T, T = (i0 * d + j0) * d := ⟨_, rfl⟩
          have hTN : T + d ≤ N := by
            have := nidx_lt hid hjd
            rw [HNe.out, hT]
            exact this
          have HPr := hidP (fun w' => l2Row_any p d i0 j0 bt ot N tc w' hd hid hjd (by rw [HNe.out]; exact Nat.le_refl _) hNc hc2)
          rw [← hT] at HPr
          have HRow : Hid (∀ q : Nat, rowE d ts (x.getD i 0) (x.getD (i + 1) 0) q = ts.getD (T + q) 0) := fun q => by
            rw [← HY0.out, ← HY1.out, hT]
            simp [rowE]
          have hTl := HT.out.len
          have HLi := hidP (fun w' (hx : Ext w0 w') => l1Ints_any (some ⟨bx, ox, none⟩) x.length c x w' (HI.out.below hx) (fun e => by cases e) (by omega))
          clear hDs hT hb0 hb1 hy0 hy1 h4 h5 HFd h2 hm1 hm2
          go_wp2_with fail
          refine (HLi.out _ HX.out).mono ?_
          rintro e w2 ⟨a1, c1, rfl, ho1, hx1⟩
          have HX2 := hidP (HX.out.trans hx1)
          have hsq := HX.out.size
          obtain ⟨g, rfl, hgB, hgl, e0, z0⟩ := ho1.cell i (by omega)
          obtain ⟨g', e', _, _, e1, z1⟩ := ho1.cell (i + 1) hlt
          simp only [Option.some.injEq, Addr.mk.injEq, and_true] at e'
          subst e'
          rw [← HY0.out] at e0
          rw [← HY1.out] at e1
          have hgw : w0.heap.size ≤ g := by omega
          have hbg : bx ≠ g := by omega
          have hbkg : bk ≠ g := by have := World.block_lt_of_cell? w0 _ HA.out.c0; simp at this; omega
          have q0 := (HI.out.below HX2.out).atc i (by omega)
          have q1 := (HI.out.below HX2.out).atc (i + 1) hlt
          rw [← HY0.out] at q0
          rw [← HY1.out] at q1
          obtain ⟨f0, f1, f2⟩ := HA.out.below HX2.out
          have hu := ((UpdI.start ho1.ints).store i (by omega) (j0 : Int)).store (i + 1) hlt (i0 : Int)
          rw [Nat.zero_add, Nat.zero_add] at hu
          have hX3 : Ext w0 ((w2.setCell ⟨g, i, none⟩ (.int .i64 (j0 : Int))).setCell ⟨g, i + 1, none⟩ (.int .i64 (i0 : Int))) := hu.below HX2.out HX2.out.size (fun b o e _ => by
            simp only [Option.some.injEq, Addr.mk.injEq, and_true] at e
            rw [← e.1]; exact hgw)
          have hO3 := hu.own ho1
          rw [HY0.out, HY1.out, swapA_set hlt, ← HY0.out, ← HY1.out] at hO3
          have HX3 := hidP hX3
          have hgo := HBk.out.2.1
          have HS1 := hidP (IH.out B go m co hs xs (some ⟨g, 0, none⟩) x.length c1 (swapA x i) v _ (by have h1 := fuel_swap HDs.out; have h2 := HF.out; omega) ((HO.out.below HX3.out).weaken (Nat.le_refl _) HX3.out.size) HNm.out HWx.out hO3.ints (fun e => by cases e) hO3.room2 (fun b o e => by
            simp only [Option.some.injEq, Addr.mk.injEq, and_true] at e
            omega) (HW.out.swap hlt) (by rw [swapA_length hlt]; exact hx6) hv0 hv1 (Nat.le_trans HBk.out.2.2.1 HX3.out.size) (HT.out.below HX3.out) HTg.out)
          clear hu hX3 hO3 ho1 hx1 HLi
          go_wp2_with fail
          refine HS1.out.mono ?_
          rintro e w4 ⟨g4, n4, c4, hs4, rfl, ho4, hg4, hor4⟩
          have HG4 : Hid (w0.grownBy w4 (some go)) := grown_trans (ext_grown go HX3.out) hg4
          have HO4 : Hid (OwnK stepK w4 B w4.heap.size (some ⟨g4, 0, none⟩) n4 c4 hs4 (putsM p xs (strT d (rowE d ts) p f (swapA x i) v ++ brkT d (rowE d ts) p f x i v 0))) := by
            show OwnK _ _ _ _ _ _ _ _ _
            rw [show brkT d (rowE d ts) p f x i v 0 = [] from rfl, List.append_nil]
            exact ho4
          have HOr4 : Hid (g4 = go ∨ w0.heap.size ≤ g4) := by
            rcases hor4 with h | h
            · exact .inl h
            · exact .inr (Nat.le_trans HX3.out.size h)
          have HA4 := hidP (HA.out.keptG HG4.out HBk.out.1)
          have HI4 := hidP (HI.out.keptG HG4.out fun _ => HAg.out)
          clear ho4 hg4 hor4 HS1 q0 q1 e0 e1 z0 z1 f0 f1 f2
          have q0 := HI4.out.atc i (by omega)
          have q1 := HI4.out.atc (i + 1) hlt
          rw [← HY0.out] at q0
          rw [← HY1.out] at q1
          have HQ0 := hidP (fun w' (hx : Ext w4 w') => (hx.cell (p := ⟨bx, ox + i, none⟩) (World.block_lt_of_cell? w4 _ q0)).trans q0)
          have HQ1 := hidP (fun w' (hx : Ext w4 w') => (hx.cell (p := ⟨bx, ox + (i + 1), none⟩) (World.block_lt_of_cell? w4 _ q1)).trans q1)
          have hE : Ext w4 w4.drew := Ext.drew w4
          go_wp2
          clear q0 q1
          (refine walkR_start (fun w' => Ext w4 w') 10 (by kernel_rfl) ?_; simp only [numbered, List.take_succ_cons, List.take_zero, Nat.zero_add, Nat.reduceAdd, List.length_cons, List.length_nil])
          (repeat (first | (refine walkR_still (v := ?_) rfl (by decide +kernel) rfl (fun _ _ _ h => h) hE ?_ ?_; rotate_left; (focus (intro w' hw'; have q0 := HQ0.out w' hw'; have q1 := HQ1.out w' hw'; obtain ⟨f0, f1, f2⟩ := HA4.out.below hw'; go_simp; all_goals (with_reducible rfl))); simp only [Act.put, List.setIfInBounds_toArray, List.set_cons_zero, List.set_cons_succ]) | (refine walkR_skip rfl (by decide +kernel) rfl (fun _ _ _ h => h) hE ?_; simp only [Act.put, List.setIfInBounds_toArray, List.set_cons_zero, List.set_cons_succ])))
          have HPr2 := hidP (HPr.out w4.drew)
          have hO5 := HO4.out.below hE
          have HG5 := hidP (grown_trans HG4.out (ext_grown go hE))
          (refine walkR_tail (by rfl) (by kernel_rfl) ?_; simp only [List.drop_succ_cons, List.drop_zero])
          go_wp2_with fail
          refine HPr2.out.mono ?_
          rintro e w5 ⟨rfl, hx5⟩
          have HO6 : Hid (OwnK stepK w5 B w5.heap.size (some ⟨g4, 0, none⟩) n4 c4 hs4 (putsM p xs (strT d (rowE d ts) p f (swapA x i) v ++ brkT d (rowE d ts) p f x i v 0))) := (hO5.below hx5).weaken (Nat.le_refl _) (Nat.le_trans hE.size hx5.size)
          have HG6 := hidP (grown_trans HG5.out (ext_grown go hx5))
          have hbg4' := HTg.out hNp bt ot rfl
          have hbg4 := hidP hbg4'
          clear hx5 hO5 hE HG5 HG4 HO4 HA4 HI4 HQ0 HQ1 HPr HPr2 hNp hbg4'
          go_wp2
          go_loopw [1, 13] (fun out i_ wr => ∃ (q g1 n1 c2 : Nat) (hs1 : List Hdr), q ≤ d ∧ out = .slice (some ⟨g1, 0, none⟩) n1 c2 ∧ i_ = .int .i64 q ∧ Hid (OwnK stepK wr B wr.heap.size (some ⟨g1, 0, none⟩) n1 c2 hs1 (putsM p xs (strT d (rowE d ts) p f (swapA x i) v ++ brkT d (rowE d ts) p f x i v q))) ∧ Hid (w0.grownBy wr (some go)) ∧ Hid (g1 = go ∨ w0.heap.size ≤ g1)) (fun _ i_ _ => d - (intOf i_).toNat)
          case atStart => exact ⟨0, g4, n4, c4, hs4, Nat.zero_le _, rfl, rfl, HO6, HG6, HOr4⟩
          case round =>
            clear HO6 HG6 HOr4
            obtain ⟨q, g1, n1, c2, hs1, hq, rfl, rfl, HOq, HGq, HOrq⟩ := hrel
            have HAq := hidP (HA.out.keptG HGq.out HBk.out.1)
            obtain ⟨f0, f1, f2⟩ := HAq.out
            by_cases hql : q < d
            · have HTq := hidP (HT.out.keptG HGq.out HTg.out)
              have hqd : (q : Int) < (d : Int) := by omega
              have t0 := HTq.out.atc (T + q) (by omega)
              have hmr := HR.out (T + q) (by omega)
              have hmq2 := HRow.out q
              obtain ⟨mq, hmq⟩ : ∃ m, m = ts.getD (T + q) 0 := ⟨_, rfl⟩
              rw [← hmq] at t0 hmr hmq2
              rw [← Nat.add_assoc] at t0
              have HBs := hidP (brkT_succ d (rowE d ts) p f x i v q)
              rw [hmq2] at HBs
              clear hmq hmq2
              by_cases hm0 : mq = 0
              · subst hm0
                rw [if_pos rfl, List.append_nil] at HBs
                go_wp2
                go_roundw
                case rel => exact ⟨q + 1, g1, n1, c2, hs1, by omega, rfl, by go_num, by rw [HBs.out]; exact HOq, HGq, HOrq⟩
                case measure => simp [intOf]; omega
              · rw [if_neg hm0] at HBs
                have hmb : (mq != 0) = true := by simpa using hm0
                have hvm0 : 0 ≤ v * mq := Int.mul_nonneg hv0 hmr.1
                have hvm1 : v * mq ≤ 10007 * 10007 := Int.mul_le_mul (by omega) (by omega) hmr.1 (by omega)
                have hvw : IntKind.i64.wrap (v * mq) = v * mq := wrap_in (by omega) (by omega)
                have hpz : ¬ (p = 0) := by omega
                have htm : (v * mq).tmod p = v * mq % p := Int.tmod_eq_emod_of_nonneg hvm0
                have hu0 := Int.emod_nonneg (v * mq) hpz
                have hu1 := Int.emod_lt_of_pos (v * mq) (show 0 < p by omega)
                obtain ⟨u, hu⟩ : ∃ u, u = v * mq % p := ⟨_, rfl⟩
                rw [← hu] at htm hu0 hu1 HBs
                have hkw2 : IntKind.i64.wrap ((i : Int) + 2) = (i : Int) + 2 := wrap_in (by omega) (by omega)
                have hk5 : (i : Int) + 2 ≤ (x.length : Int) := by omega
                have hk6 : (0 : Int) ≤ (i : Int) + 2 := by omega
                have hk7 : ((i : Int) + 2).toNat = i + 2 := by omega
                have hk8 : (i : Int) ≤ (c : Int) := by omega
                have hk9 : (x.length : Int) ≤ (c : Int) := by omega
                have hk10 : (0 : Int) ≤ (i : Int) := by omega
                have HIq := hidP (HI.out.keptG HGq.out fun _ => HAg.out)
                have HTk := hidP (fun w' (hx : Ext wr w') => (by
                  have h := (HIq.out.below hx).part 0 i (by omega)
                  simpa using h : IntsAt w' (some ⟨bx, ox, none⟩) i (x.take i)))
                have HXd := hidP (fun w' (hx : Ext wr w') (xa : Option Addr) (hxa : xa = (if c = i + 2 then (some ⟨bx, ox, none⟩ : Option Addr) else some ⟨bx, ox + (i + 2), none⟩)) => (by
                  rw [hxa]
                  split
                  · have e : x.length - (i + 2) = 0 := by omega
                    rw [e, List.drop_eq_nil_of_le (by omega)]
                    exact IntsAt.nil _ _
                  · have h := (HIq.out.below hx).part (i + 2) (x.length - (i + 2)) (by omega)
                    rwa [List.take_of_length_le (by rw [List.length_drop]; exact Nat.le_refl _)] at h : IntsAt w' xa (x.length - (i + 2)) (x.drop (i + 2))))
                have HLi := hidP (fun w' (hx : Ext wr w') => l1Ints_any (some ⟨bx, ox, none⟩) i c (x.take i) w' (HTk.out w' hx) (fun e => by cases e) (by omega))
                have hwrsz := HGq.out.size
                have hE : Ext wr wr.drew := Ext.drew wr
                clear hu hvm0 hvm1
                go_wp2
                (refine walkR_start (fun w' => Ext wr w') 11 (by kernel_rfl) ?_; simp only [numbered, List.take_succ_cons, List.take_zero, Nat.zero_add, Nat.reduceAdd, List.length_cons, List.length_nil])
                (repeat (first | (refine walkR_still (v := ?_) rfl (by decide +kernel) rfl (fun _ _ _ h => h) hE ?_ ?_; rotate_left; (focus (intro w' hw'; skip; go_simp; all_goals (with_reducible rfl))); simp only [Act.put, List.setIfInBounds_toArray, List.set_cons_zero, List.set_cons_succ]) | (refine walkR_skip rfl (by decide +kernel) rfl (fun _ _ _ h => h) hE ?_; simp only [Act.put, List.setIfInBounds_toArray, List.set_cons_zero, List.set_cons_succ])))
                (refine walkR_later ?_; simp only [List.cons_append, List.nil_append])
                (repeat (first | (refine walkR_still (v := ?_) rfl (by decide +kernel) rfl (fun _ _ _ h => h) hE ?_ ?_; rotate_left; (focus (intro w' hw'; skip; go_simp; all_goals (with_reducible rfl))); simp only [Act.put, List.setIfInBounds_toArray, List.set_cons_zero, List.set_cons_succ]) | (refine walkR_skip rfl (by decide +kernel) rfl (fun _ _ _ h => h) hE ?_; simp only [Act.put, List.setIfInBounds_toArray, List.set_cons_zero, List.set_cons_succ])))
                (refine walkR_later ?_; simp only [List.cons_append, List.nil_append]); (refine walkR_later ?_; simp only [List.cons_append, List.nil_append])
                (repeat (first | (refine walkR_still (v := ?_) rfl (by decide +kernel) rfl (fun _ _ _ h => h) hE ?_ ?_; rotate_left; (focus (intro w' hw'; skip; go_simp; all_goals (with_reducible rfl))); simp only [Act.put, List.setIfInBounds_toArray, List.set_cons_zero, List.set_cons_succ]) | (refine walkR_skip rfl (by decide +kernel) rfl (fun _ _ _ h => h) hE ?_; simp only [Act.put, List.setIfInBounds_toArray, List.set_cons_zero, List.set_cons_succ])))
                refine walkR_two (i := 3) (j := 5) (di := 89) (dj := 91)
                  (fun V U W => ∃ a6 c6 b6, V = .slice a6 i c6 ∧ U = .slice (some ⟨b6, 0, none⟩) 1 1 ∧ OwnI W wr.heap.size a6 i c6 (x.take i) ∧ IntsAt W (some ⟨b6, 0, none⟩) 1 [(q : Int)])
                  (fun V W => ∃ a6 c6, V = .slice a6 i c6 ∧ OwnI W wr.heap.size a6 i c6 (x.take i))
                  (fun U W => ∃ b6, U = .slice (some ⟨b6, 0, none⟩) 1 1 ∧ IntsAt W (some ⟨b6, 0, none⟩) 1 [(q : Int)])
                  rfl rfl (by decide +kernel) rfl rfl (by decide) rfl rfl (fun _ => rfl) (fun _ => rfl) ?_ ?_ ?_ ?_ ?_
                · intro K hK
                  go_simp
                  refine (HLi.out _ hE).mono ?_
                  rintro e w6 ⟨a6, c6, rfl, ho6, hx6'⟩
                  exact hK _ _ (hE.trans hx6') ⟨a6, c6, rfl, ho6.base (B' := wr.heap.size) hE.size⟩
                · rintro V W hc ⟨a6, c6, rfl, ho6⟩ K hK
                  go_simp
                  exact hK _ _ (hc.trans (Ext.alloc W (.cells #[.int .i64 (q : Int)] 3))) ⟨a6, c6, W.heap.size, rfl, rfl, ho6.below (Ext.alloc W (.cells #[.int .i64 (q : Int)] 3)), one_ints W (q : Int) 3⟩
                · intro K hK
                  go_simp
                  exact hK _ _ ((Ext.alloc wr (.cells #[.int .i64 (q : Int)] 3)).trans (Ext.drew _)) ⟨wr.heap.size, rfl, (one_ints wr (q : Int) 3).below (Ext.drew _)⟩
                · rintro U W hc ⟨b6, rfl, h6⟩ K hK
                  go_simp
                  refine (HLi.out _ hc).mono ?_
                  rintro e w6 ⟨a6, c6, rfl, ho6, hx6'⟩
                  exact hK _ _ (hc.trans hx6') ⟨a6, c6, b6, rfl, rfl, ho6.base (B' := wr.heap.size) hc.size, h6.below hx6'⟩
                rintro V U w7 hE7 ⟨a6, c6, b6, rfl, rfl, ho7, hone⟩
                have HO7 := hidP ho7
                have HOne := hidP hone
                clear ho7 hone hE HLi
                (try simp only [Act.put, List.setIfInBounds_toArray, List.set_cons_zero, List.set_cons_succ])
                (refine walkR_only (fun w' => Ext wr w') rfl (by decide +kernel) rfl ?_ ?_)
                · exact fun _ h => h
                intro K hK
                refine wp_append_ints (.tmp 89) (.tmp 91) rfl wr.heap.size a6 i c6 (x.take i) rfl HO7.out ⟨b6, 0, none⟩ 1 1 [(q : Int)] rfl HOne.out (by omega) hE7.size ?_
                intro a8 c8 w8 ho8 hg8
                have hE8 : Ext wr w8 := grown_ext hg8 hE7 hE7.size (fun q e => HO7.out.addr_base q e)
                have HO8 := hidP ho8
                refine hK _ _ hE8 ?_
                clear hK K ho8 hg8
                (try simp only [Act.put, List.setIfInBounds_toArray, List.set_cons_zero, List.set_cons_succ])
                obtain ⟨xa, hxa⟩ : ∃ xa, xa = (if c = i + 2 then (some ⟨bx, ox, none⟩ : Option Addr) else some ⟨bx, ox + (i + 2), none⟩) := ⟨_, rfl⟩
                try simp only [← hxa]
                (refine walkR_tail (by rfl) (by kernel_rfl) ?_; simp only [List.drop_succ_cons, List.drop_zero])
                have hcl := cutA_length (k := (q : Int)) hlt
                have e9 : i + 1 + (x.length - (i + 2)) = (cutA x i (q : Int)).length := by omega
                have ec : x.take i ++ [(q : Int)] ++ x.drop (i + 2) = cutA x i q := by simp [cutA]
                refine wpList_append_ints rfl (.tmp 92) (.tmp 96) rfl wr.heap.size a8 (i + 1) c8 _ rfl HO8.out xa (x.length - (i + 2)) (c - (i + 2)) (x.drop (i + 2)) rfl (HXd.out w8 hE8 xa hxa) (fun e => by rw [hxa] at e; split at e <;> cases e) (by omega) hE8.size ?_
                intro a9 c9 w9 ho9 hg9
                have hE9 : Ext wr w9 := grown_ext hg9 hE8 hE8.size (fun q e => HO8.out.addr_base q e)
                rw [ec, e9] at ho9
                rw [e9]
                have HO9 := hidP ho9
                have HE9 := hidP hE9
                clear ho9 hg9 hE8 hE7 HO8 HO7 HOne hxa HXd e9 ec
                have HA9 := hidP (HAq.out.below hE9)
                have t1 := (hE9.cell (p := ⟨bt, ot + T + q, none⟩) (World.block_lt_of_cell? wr _ t0)).trans t0
                have HT1 := hidP (fun w' (hx : Ext w9 w') => (hx.cell (p := ⟨bt, ot + T + q, none⟩) (World.block_lt_of_cell? w9 _ t1)).trans t1)
                have hg1 := HOq.out.base_lt g1 0 rfl
                have hnm2 := HNm.out.puts (show 0 < p by omega) (strT d (rowE d ts) p f (swapA x i) v ++ brkT d (rowE d ts) p f x i v q)
                have hwx2 := words_puts (p := p) (A := strT d (rowE d ts) p f (swapA x i) v ++ brkT d (rowE d ts) p f x i v q) HWx.out (fun s hs => by
                  rcases List.mem_append.1 hs with h | h
                  · exact strT_word (by omega) f (HW.out.swap hlt) (by rw [swapA_length hlt]; exact hx6) hv0 hv1 s h
                  · exact brkT_word (by omega) f v HW.out hx6 hlt (by omega) s h)
                have HS2 := hidP (fun w' (hx : Ext w9 w') => IH.out B g1 n1 c2 hs1 _ a9 (cutA x i (q : Int)).length c9 (cutA x i (q : Int)) u w' (by have h1 := fuel_cut HDs.out hx6 (q : Int); have h2 := HF.out; omega) ((HOq.out.below (hE9.trans hx)).weaken (Nat.le_refl _) (hE9.trans hx).size) hnm2 hwx2 (HO9.out.below hx).ints HO9.out.nilc HO9.out.room2 (fun b o e => by have := (HO9.out.at_base b o e).1; omega) (HW.out.cut hlt hql) (by omega) hu0 hu1 (Nat.le_trans (Nat.le_trans HBk.out.2.2.1 hwrsz) (hE9.trans hx).size) ((HTq.out.below hE9).below hx) (fun _ b o e => by
                  simp only [Option.some.injEq, Addr.mk.injEq, and_true] at e
                  have h1 := hbg4.out
                  rcases HOrq.out with h | h <;> omega))
                have hE : Ext w9 w9.drew := Ext.drew w9
                clear hnm2 hwx2 hg1 hE9 t1 hcl HO9
                go_wp2
                (refine walkR_start (fun w' => Ext w9 w') 12 (by kernel_rfl) ?_; simp only [numbered, List.take_succ_cons, List.take_zero, Nat.zero_add, Nat.reduceAdd, List.length_cons, List.length_nil])
                (repeat (first | (refine walkR_still (v := ?_) rfl (by decide +kernel) rfl (fun _ _ _ h => h) hE ?_ ?_; rotate_left; (focus (intro w' hw'; obtain ⟨f0, f1, f2⟩ := HA9.out.below hw'; have t1 := HT1.out w' hw'; go_simp; all_goals (with_reducible rfl))); simp only [Act.put, List.setIfInBounds_toArray, List.set_cons_zero, List.set_cons_succ]) | (refine walkR_skip rfl (by decide +kernel) rfl (fun _ _ _ h => h) hE ?_; simp only [Act.put, List.setIfInBounds_toArray, List.set_cons_zero, List.set_cons_succ])))
                have HS3 := hidP (HS2.out _ hE)
                have HEd := hidP (HE9.out.trans hE)
                clear hE HS2
                (refine walkR_tail (by rfl) (by kernel_rfl) ?_; simp only [List.drop_succ_cons, List.drop_zero])
                go_wp2_with fail
                refine HS3.out.mono ?_
                rintro e w10 ⟨g2, n2, c3, hs2, rfl, ho10, hg10, hor10⟩
                rw [← putsM_append, List.append_assoc, ← HBs.out] at ho10
                have HO10 := hidP ho10
                have HG10 : Hid (w0.grownBy w10 (some go)) := grown_step (grown_trans HGq.out (ext_grown go HEd.out)) hg10 HOrq.out
                have HOr10 : Hid (g2 = go ∨ w0.heap.size ≤ g2) := by
                  rcases hor10 with h | h
                  · rw [h]; exact HOrq.out
                  · exact .inr (Nat.le_trans (Nat.le_trans hwrsz HEd.out.size) h)
                clear ho10 hg10 hor10
                go_wp2
                go_roundw
                case rel => exact ⟨q + 1, g2, n2, c3, hs2, by omega, rfl, by go_num, HO10, HG10, HOr10⟩
                case measure => simp [intOf]; omega
            · obtain rfl : q = d := by omega
              have hqd : ¬ ((q : Int) < (q : Int)) := by omega
              have HO9 := hidP HOq.out
              rw [← HE.out] at HO9
              have HG9 : Hid (w.grownBy wr (some go)) := grown_trans (ext_grown go HX0.out) HGq.out
              have HOr9 : Hid (g1 = go ∨ w.heap.size ≤ g1) := by
                rcases HOrq.out with h | h
                · exact .inl h
                · exact .inr (Nat.le_trans HBk.out.2.2.2 h)
              clear HOq
              go_wp2
              go_ret
              first | exact ⟨g1, n1, c2, hs1, rfl, HO9.out, HG9.out, HOr9.out⟩ | exact ⟨g1, n1, c2, rfl, ⟨hs1, HO9.out⟩, HG9.out, HOr9.out⟩
end Go.Proofs.YtcfgcacmmmhjcaaGreatDoor
