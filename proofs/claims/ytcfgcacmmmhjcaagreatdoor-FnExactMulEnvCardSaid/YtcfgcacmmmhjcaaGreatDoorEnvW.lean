/-
  The reference's l11Put: a number added to a word of an ordered list, modulo p. Printed by gen/putE.py.
  The reference's sums of enveloping elements: l11Join, l11Give, GeneratorOf, AddEnv.
  The reference's l11Give, GeneratorOf and AddEnv. Printed by gen/envI.py.
  The program's AddEnv. Printed by gen/envI.py.
-/
import Derived.Test.YtcfgcacmmmhjcaaGreatDoorEnvZ
import Derived.Test.YtcfgcacmmmhjcaaGreatDoorPart
import Derived.Test.YtcfgcacmmmhjcaaGreatDoorPthC
import Derived.Test.YtcfgcacmmmhjcaaGreatDoorTrm2
namespace Go.Proofs.YtcfgcacmmmhjcaaGreatDoor
open Go.RowKit

theorem Below.past_block2 {B : Nat} {w0 w w' : World} {k : Nat} (hb : Below B w0 w) (hg : w.grownBy w' (some k)) (hB : B ≤ w.heap.size) (hk : B ≤ k) : Below B w0 w' :=
  Below.grown hb hg hB fun j hj => by cases hj; exact hk
set_option maxRecDepth 100000 in
set_option maxHeartbeats 8000000 in
theorem l11Put_any (p : Int) (B : Nat) (go m co : Nat) (hs : List Hdr) (xs : List Tm) (aw : Option Addr) (cw : Nat) (W : List Int) (L : Int) (w : World) (ho : OwnK stepK w B w.heap.size (some ⟨go, 0, none⟩) m co hs xs)
    (hway : IntsAt w aw W.length W) (hnil : aw = none → cw = 0) (hk : W.length ≤ 1000000) (hm : m ≤ 900000000) (hB : B ≤ w.heap.size) (hp : 1 ≤ p) (hp2 : p ≤ 10007) (hL : -1000000000000 ≤ L) (hL2 : L ≤ 1000000000000)
    (hsum : ∀ i, i < m → 0 ≤ lenAt xs i ∧ lenAt xs i ≤ 1000000) :
    Calls Tryz.prog 30 #[.int .i64 p, .slice (some ⟨go, 0, none⟩) m co, .slice aw W.length cw, .int .i64 L] w fun e w' => ∃ g' n' c' hs', e = .returned (.slice (some ⟨g', 0, none⟩) n' c') ∧ OwnK stepK w' B w'.heap.size (some ⟨g', 0, none⟩) n' c' hs' (putM p xs W L) ∧ Below B w w' := by
  have HO := hidP ho
  have HWy := hidP hway
  have HN := hidP hnil
  have hxl := ho.xl
  have hhl := ho.hl
  have HB := hidP hB
  have hmc : m ≤ co := by
    rcases ho.form with ⟨e, _⟩ | ⟨_, _, _, _, _, _, h1, _⟩
    · cases e
    · exact h1
  have HSm := hidP hsum
  have HI := hidP (fun w' (hx : Ext w w') => l1Ints_any aw W.length cw W w' (HWy.out.below hx) HN.out (by omega))
  have HMd := hidP (fun w' => l1Mod_any L p w' hp (by omega))
  have hv0 := Int.emod_nonneg L (show p ≠ 0 by omega)
  have hv1 := Int.emod_lt_of_pos L (show 0 < p by omega)
  obtain ⟨v, hv⟩ : ∃ v, v = L % p := ⟨_, rfl⟩
  rw [← hv] at HMd hv0 hv1
  have HVv := hidP hv
  clear ho hway hnil hB hsum hv
  go_enter Tryz.func30, Tryz.ntmps30
  go_wp2
  go_loopw [9] (fun i wr => ∃ k : Nat, k ≤ m ∧ i = .int .i64 k ∧ Hid (∀ j, j < k → cmpW (wayAt xs j) W < 0) ∧ Hid (Ext w wr)) (fun i _ => m - (intOf i).toNat)
  case atStart => exact ⟨0, Nat.zero_le _, rfl, fun j hj => by omega, Ext.refl _⟩
  case round =>
    obtain ⟨k, hkm, rfl, HJ, HX⟩ := hrel
    by_cases hlt : k < m
    · obtain ⟨b, o, aV, cV, V, M, e', HV, HM, hvl, HNV, hq⟩ := ((HO.out.below HX.out).stepsAt).way k hlt
      simp only [Option.some.injEq, Addr.mk.injEq, and_true] at e'
      obtain ⟨rfl, rfl⟩ := e'
      have HQ := hidP hq
      obtain ⟨q1, q2, _⟩ := hq wr (Ext.refl wr)
      rw [Nat.zero_add] at q1 q2
      have hki : (k : Int) < (m : Int) := by omega
      have HAb := hidP (fun w' (hx : Ext wr w') => l11Before_any aV aw V.length W.length cV cw V W w' (HQ.out w' hx).2.2 ((HWy.out.below HX.out).below hx) hvl (by omega))
      clear hq
      cases hV : decide (cmpW V W < 0)
      · rw [hV] at HAb
        have HNa : Hid (¬ cmpW V W < 0) := of_decide_eq_false hV
        go_wp2_with fail
        refine (HAb.out _ (Ext.refl _)).mono ?_
        rintro e w2 ⟨rfl, hx2⟩
        have HX2 := hidP (HX.out.trans hx2)
        obtain ⟨q1, q2, _⟩ := HQ.out w2 hx2
        rw [Nat.zero_add] at q1 q2
        have HSame := hidP (l1Same_any aV aw V.length W.length cV cw V W w2 (HQ.out w2 hx2).2.2 (HWy.out.below HX2.out) hvl (by omega))
        clear hV HAb hx2
        cases hE : (V == W)
        · rw [hE] at HSame
          have HNn : Hid (wayAt xs k ≠ W) := by show _ ≠ _; rw [HV.out]; simpa using hE
          have HNb : Hid (¬ cmpW (wayAt xs k) W < 0) := by show ¬ _; rw [HV.out]; have := HNa.out; omega
          clear hE
          go_wp2_with fail
          refine HSame.out.mono ?_
          rintro e w3 ⟨rfl, q, rfl⟩
          have HX3 := hidP (HX2.out.trans (Ext.drewN w2 q))
          clear HSame q1 q2
          by_cases hvz : v = 0
          · have HNe : Hid (putM p xs W L = xs) := by
              show _ = _
              exact putM_new0 (by omega) HJ.out (by have := HNb.out; omega) HNn.out (by rw [← HVv.out]; exact hvz)
            go_wp2_with fail
            refine (HMd.out _).mono ?_
            rintro e w4 ⟨rfl, rfl⟩
            go_wp2
            go_ret
            refine ⟨go, m, co, hs, rfl, ?_, Below.mono HX3.out HB.out⟩
            rw [HNe.out]
            exact (HO.out.below HX3.out).weaken (Nat.le_refl _) HX3.out.size
          · have HNe : Hid (putM p xs W L = xs.take k ++ [(W, v)] ++ xs.drop k) := by
              show _ = _
              rw [putM_new (by omega) HJ.out (by have := HNb.out; omega) HNn.out (by rw [← HVv.out]; exact hvz), HVv.out]
            go_wp2_with fail
            refine (HMd.out _).mono ?_
            rintro e w4 ⟨rfl, rfl⟩
            go_wp2
            obtain ⟨wr', hwr'⟩ : ∃ x, x = w2.drewN q := ⟨_, rfl⟩
            rw [← hwr'] at HX3 ⊢
            clear hwr'
            have hE : Ext wr' wr'.drew := Ext.drew wr'
            have hk0 : (0 : Int) ≤ (k : Int) := by omega
            have hk1 : (k : Int) ≤ (m : Int) := by omega
            have hk2 : (k : Int) ≤ (co : Int) := by omega
            have hk3 : (m : Int) ≤ (co : Int) := by omega
            have hwsz := HX3.out.size
            have hgo := HO.out.base_lt go 0 rfl
            have hBw := HB.out
            (refine walkR_start (fun w' => Ext wr' w') 16 (by kernel_rfl) ?_; simp only [numbered, List.take_succ_cons, List.take_zero, Nat.zero_add, Nat.reduceAdd, List.length_cons, List.length_nil])
            (refine walkR_later ?_; simp only [List.cons_append, List.nil_append])
            (repeat (first | (refine walkR_still (v := ?_) rfl (by decide +kernel) rfl (fun _ _ _ h => h) hE ?_ ?_; rotate_left; (focus (intro w' hw'; skip; go_simp; all_goals (with_reducible rfl))); simp only [Act.put, List.setIfInBounds_toArray, List.set_cons_zero, List.set_cons_succ]) | (refine walkR_skip rfl (by decide +kernel) rfl (fun _ _ _ h => h) hE ?_; simp only [Act.put, List.setIfInBounds_toArray, List.set_cons_zero, List.set_cons_succ])))
            (refine walkR_later ?_; simp only [List.cons_append, List.nil_append])
            (repeat (first | (refine walkR_still (v := ?_) rfl (by decide +kernel) rfl (fun _ _ _ h => h) hE ?_ ?_; rotate_left; (focus (intro w' hw'; skip; go_simp; all_goals (with_reducible rfl))); simp only [Act.put, List.setIfInBounds_toArray, List.set_cons_zero, List.set_cons_succ]) | (refine walkR_skip rfl (by decide +kernel) rfl (fun _ _ _ h => h) hE ?_; simp only [Act.put, List.setIfInBounds_toArray, List.set_cons_zero, List.set_cons_succ])))
            (refine walkR_later ?_; simp only [List.cons_append, List.nil_append])
            (repeat (first | (refine walkR_still (v := ?_) rfl (by decide +kernel) rfl (fun _ _ _ h => h) hE ?_ ?_; rotate_left; (focus (intro w' hw'; skip; go_simp; all_goals (with_reducible rfl))); simp only [Act.put, List.setIfInBounds_toArray, List.set_cons_zero, List.set_cons_succ]) | (refine walkR_skip rfl (by decide +kernel) rfl (fun _ _ _ h => h) hE ?_; simp only [Act.put, List.setIfInBounds_toArray, List.set_cons_zero, List.set_cons_succ])))
            (refine walkR_later ?_; simp only [List.cons_append, List.nil_append]); (refine walkR_later ?_; simp only [List.cons_append, List.nil_append]); (refine walkR_later ?_; simp only [List.cons_append, List.nil_append]); (refine walkR_later ?_; simp only [List.cons_append, List.nil_append])
            (repeat (first | (refine walkR_still (v := ?_) rfl (by decide +kernel) rfl (fun _ _ _ h => h) hE ?_ ?_; rotate_left; (focus (intro w' hw'; skip; go_simp; all_goals (with_reducible rfl))); simp only [Act.put, List.setIfInBounds_toArray, List.set_cons_zero, List.set_cons_succ]) | (refine walkR_skip rfl (by decide +kernel) rfl (fun _ _ _ h => h) hE ?_; simp only [Act.put, List.setIfInBounds_toArray, List.set_cons_zero, List.set_cons_succ])))
            (refine walkR_only (fun w' => Ext wr' w') rfl (by decide +kernel) rfl ?_ ?_)
            · exact fun _ h => h
            intro K hK
            go_simp
            have hE1 := (Ext.alloc wr' (.cells #[] 62)).trans (Ext.drew _)
            have hsz1 : ((wr'.alloc (.cells #[] 62)).drew).heap.size = wr'.heap.size + 1 := by show (wr'.alloc _).heap.size = _; simp
            have HO1 : Hid (OwnK stepK (wr'.alloc (.cells #[] 62)).drew B ((wr'.alloc (.cells #[] 62)).drew).heap.size (some ⟨wr'.heap.size, 0, none⟩) 0 0 [] []) := ((OwnK.made0 stepK wr').below (Ext.drew _)).weaken (B' := B) (by omega) (Nat.le_refl _)
            have HP1 := hidP (((HO.out.below HX3.out).below hE1).front k (by omega))
            have HQ1 := hidP ((HO.out.below HX3.out).below hE1)
            refine hK _ _ hE1 ?_
            clear hK K hE
            (try simp only [Act.put, List.setIfInBounds_toArray, List.set_cons_zero, List.set_cons_succ])
            obtain ⟨w1, hw1⟩ : ∃ w1, w1 = (wr'.alloc (.cells #[] 62)).drew := ⟨_, rfl⟩
            rw [← hw1] at HO1 HP1 HQ1 hE1 hsz1
            first | rw [← hw1] | skip
            clear hw1
            (refine walkR_only (fun w' => Ext wr' w') rfl (by decide +kernel) rfl ?_ ?_)
            · exact fun _ h => h
            intro K hK
            refine wp_append_part stepK 26 (.agg #[.slice none 0 0, .int .i64 0]) 32 (.tmp 73) (.tmp 76) rfl Tryz.underlying26 Tryz.info62 rfl (by omega) B _ wr'.heap.size 0 0 [] (hs.take k) [] (xs.take k) rfl HO1.out go 0 k co rfl HP1.out (fun i j hi => by omega) (by omega) (by omega) ?_
            intro g4 c4 w4 ho4 hg4 hn4
            rw [List.nil_append, List.nil_append, Nat.zero_add] at ho4
            rw [Nat.zero_add]
            have hE4 : Ext wr' w4 := Below.past_block2 hE1 hg4 (by omega) (Nat.le_refl _)
            have HQ4 := hidP (HQ1.out.past hg4 (fun g o e => by simp only [Option.some.injEq, Addr.mk.injEq] at e; omega) (by omega))
            have HO4 := hidP ho4
            have hg4b : wr'.heap.size ≤ g4 := by omega
            have hsz4 := hg4.size
            refine hK _ _ hE4 ?_
            clear hK K ho4 hg4 hn4 hE1
            (try simp only [Act.put, List.setIfInBounds_toArray, List.set_cons_zero, List.set_cons_succ])
            (refine walkR_only (fun w' => Ext wr' w') rfl (by decide +kernel) rfl (fun _ h => h) ?_; intro K hK; go_simp; refine (HI.out _ (HX3.out.trans hE4)).mono ?_; rintro e w6 ⟨a1, c1, rfl, ho1, hx6⟩; refine hK _ _ (hE4.trans hx6) ?_; clear hK K; (try simp only [Act.put, List.setIfInBounds_toArray, List.set_cons_zero, List.set_cons_succ]))
            have hE6 := hE4.trans hx6
            (refine walkR_only (fun w' => Ext wr' w') rfl (by decide +kernel) rfl (fun _ h => h) ?_; intro K hK; go_simp; refine (HMd.out _).mono ?_; rintro e w' ⟨rfl, rfl⟩; refine hK _ _ (hE6) ?_; clear hK K; (try simp only [Act.put, List.setIfInBounds_toArray, List.set_cons_zero, List.set_cons_succ]))
            (repeat (first | (refine walkR_still (v := ?_) rfl (by decide +kernel) rfl (fun _ _ _ h => h) hE6 ?_ ?_; rotate_left; (focus (intro w' hw'; skip; go_simp; all_goals (with_reducible rfl))); simp only [Act.put, List.setIfInBounds_toArray, List.set_cons_zero, List.set_cons_succ]) | (refine walkR_skip rfl (by decide +kernel) rfl (fun _ _ _ h => h) hE6 ?_; simp only [Act.put, List.setIfInBounds_toArray, List.set_cons_zero, List.set_cons_succ])))
            (refine walkR_only (fun w' => Ext wr' w') rfl (by decide +kernel) rfl ?_ ?_)
            · exact fun _ h => h
            intro K hK
            go_simp
            have hxa := Ext.alloc w6 (.cells #[.slice a1 W.length c1, .int .i64 v] 62)
            have hE7 := hE6.trans hxa
            have HO7 := hidP (HO4.out.below (hx6.trans hxa))
            have HQ7 := hidP (HQ4.out.below (hx6.trans hxa))
            have HI7 := hidP ((ho1.below hxa).base (B' := B) (by omega))
            have HA1 : Hid (∀ b o, a1 = some ⟨b, o, none⟩ → w4.heap.size ≤ b) := fun b o e => (ho1.at_base b o e).1
            have HP7 : Hid (PartK stepK (w6.alloc (.cells #[.slice a1 W.length c1, .int .i64 v] 62)) B w6.heap.size 0 1 [(a1, c1)] [(W, v)]) := PartK.single (fun j _ => (cell_top _ _ _ _ _ rfl).trans (by simp [stepK])) HI7.out
            have hsz7 := (hx6.trans hxa).size
            refine hK _ _ hE7 ?_
            clear hK K ho1 hx6 hE4 hE6 hxa
            (try simp only [Act.put, List.setIfInBounds_toArray, List.set_cons_zero, List.set_cons_succ])
            obtain ⟨w7, hw7⟩ : ∃ w7, w7 = w6.alloc (.cells #[.slice a1 W.length c1, .int .i64 v] 62) := ⟨_, rfl⟩
            rw [← hw7] at HO7 HQ7 HI7 HP7 hsz7 hE7
            first | rw [← hw7] | skip
            clear hw7
            (refine walkR_only (fun w' => Ext wr' w') rfl (by decide +kernel) rfl ?_ ?_)
            · exact fun _ h => h
            intro K hK
            refine wp_append_part stepK 26 (.agg #[.slice none 0 0, .int .i64 0]) 32 (.tmp 77) (.tmp 84) rfl Tryz.underlying26 Tryz.info62 rfl (by omega) B _ g4 k c4 (hs.take k) [(a1, c1)] (xs.take k) [(W, v)] rfl HO7.out w6.heap.size 0 1 1 rfl HP7.out (fun i j hi hj b o b' o' e e' => by
              obtain rfl : j = 0 := by omega
              have h1 := HA1.out b' o' e'
              have h2 := HQ7.out.lt i (by omega) b o (by rw [← e]; simp [List.getD_eq_getElem?_getD, List.getElem?_take, hi])
              omega) (by omega) (by omega) ?_
            intro g10 c10 w10 ho10 hg10 hn10
            have hE10 : Ext wr' w10 := Below.past_block2 hE7 hg10 hE7.size hg4b
            have HQ10 := hidP (HQ7.out.past hg10 (fun g o e => by simp only [Option.some.injEq, Addr.mk.injEq] at e; omega) (by omega))
            have HO10 := hidP ho10
            have hg10b : wr'.heap.size ≤ g10 := by have := hE7.size; omega
            have HP10 := hidP (HQ10.out.part k (by omega))
            refine hK _ _ hE10 ?_
            clear hK K ho10 hg10 hn10 hE7
            (try simp only [Act.put, List.setIfInBounds_toArray, List.set_cons_zero, List.set_cons_succ])
            (refine walkR_tail (by rfl) (by kernel_rfl) ?_; simp only [List.drop_succ_cons, List.drop_zero])
            have hx61 : (if co = k then some (⟨go, 0, none⟩ : Addr) else some ⟨go, k * 2, none⟩) = some ⟨go, if co = k then 0 else k * 2, none⟩ := by split <;> rfl
            have HP61 := hidP (HP10.out.moved (o' := if co = k then 0 else k * 2) (by
              by_cases hck : co = k
              · right; omega
              · left; rw [if_neg hck]; rfl))
            rw [hx61]
            clear hx61
            refine wpList_append_part stepK 26 (.agg #[.slice none 0 0, .int .i64 0]) 32 rfl (.tmp 85) (.tmp 88) rfl Tryz.underlying26 Tryz.info62 rfl (by omega) B _ g10 (k + 1) c10 _ (hs.drop k) _ (xs.drop k) rfl HO10.out go _ (m - k) (co - k) (by first | rfl | (rw [Nat.sub_self]; rfl)) HP61.out ?_ (by omega) (by have := hE10.size; omega) ?_
            · intro i j hi hj b o b' o' e e'
              have hhl10 := HQ10.out.hl
              have e2 : (hs.getD (k + j) (none, 0)).1 = some ⟨b', o', none⟩ := by rw [← e']; simp [List.getD_eq_getElem?_getD, List.getElem?_drop]
              by_cases hi2 : i < k
              · have e1 : (hs.getD i (none, 0)).1 = some ⟨b, o, none⟩ := by
                  rw [← e, getD_left _ _ _ _ (by simp; omega)]
                  simp [List.getD_eq_getElem?_getD, List.getElem?_take, hi2]
                exact HQ10.out.apart i (k + j) (by omega) (by omega) (by omega) b o b' o' e1 e2
              · have e1 : a1 = some ⟨b, o, none⟩ := by
                  rw [← e, getD_right _ _ _ _ (by simp; omega)]
                  have : i - (hs.take k).length = 0 := by simp; omega
                  rw [this]
                  rfl
                have h1 := HA1.out b o e1
                have h2 := HQ10.out.lt (k + j) (by omega) b' o' e2
                omega
            intro g14 c14 w14 ho14 hg14 hn14
            have hE14 : Ext wr' w14 := Below.past_block2 hE10 hg14 hE10.size hg10b
            have hX14 : Ext w w14 := HX3.out.trans hE14
            have hn14 : k + 1 + (m - k) = m + 1 := by omega
            rw [hn14] at ho14 ⊢
            rw [← HNe.out] at ho14
            have HO14 := hidP ho14
            have HB14 : Hid (Below B w w14) := Below.mono hX14 HB.out
            clear ho14 hg14 hE10 hE14 hX14
            go_wp2
            all_goals go_ret
            all_goals first | exact ⟨g14, m + 1, c14, _, rfl, HO14.out, HB14.out⟩ | exact ⟨g14, m + 1, c14, rfl, ⟨_, HO14.out⟩, HB14.out⟩
        · rw [hE] at HSame
          obtain rfl : V = W := by simpa using hE
          have hs1 := HSm.out k hlt
          rw [HM.out] at hs1
          have hwr : IntKind.i64.wrap (M + L) = M + L := wrap_in (by omega) (by omega)
          have HMd2 := hidP (fun w' => l1Mod_any (M + L) p w' hp (by omega))
          have hu0 := Int.emod_nonneg (M + L) (show p ≠ 0 by omega)
          have hu1 := Int.emod_lt_of_pos (M + L) (show 0 < p by omega)
          obtain ⟨u, hu⟩ : ∃ u, u = (M + L) % p := ⟨_, rfl⟩
          rw [← hu] at HMd2 hu0 hu1
          have HU := hidP hu
          clear hE hu
          go_wp2_with fail
          refine HSame.out.mono ?_
          rintro e w3 ⟨rfl, q, rfl⟩
          have HX3 := hidP (HX2.out.trans (Ext.drewN w2 q))
          obtain ⟨g, al, cl, e', hh, q1, q2, r1, r2, hol⟩ := (HO.out.below HX3.out).stepCell k (by omega)
          simp only [Option.some.injEq, Addr.mk.injEq, and_true] at e'
          subst e'
          rw [HV.out] at q1
          rw [HM.out] at q2
          have hst := (HO.out.below HX3.out).stored k 1 (by omega) (by decide) (.int .i64 u) (wayAt xs k, u) rfl rfl rfl
          rw [HV.out] at hst
          have HSt := hidP hst
          have hgB := HO.out.base_lt go 0 rfl
          have HXB : Hid (Below B w (w2.drewN q)) := Below.mono HX3.out HB.out
          clear HSame hst hh hol
          go_wp2_with fail
          refine (HMd2.out _).mono ?_
          rintro e w4 ⟨rfl, rfl⟩
          by_cases huz : u = 0
          · have HNe : Hid (putM p xs V L = (xs.set k (V, u)).take k ++ (xs.set k (V, u)).drop (k + 1)) := by
              show _ = _
              rw [putM_gone (by omega) HJ.out HV.out (by rw [HM.out, ← HU.out]; exact huz), List.take_set_of_le (Nat.le_refl k), List.drop_set_of_lt (by omega)]
            subst huz
            have HO3' : Hid (OwnK stepK ((w2.drewN q).setCell ⟨go, k * 2 + 1, none⟩ (.int .i64 0)) B ((w2.drewN q).setCell ⟨go, k * 2 + 1, none⟩ (.int .i64 0)).heap.size (some ⟨go, 0, none⟩) m co hs (xs.set k (V, 0))) := hidP (OwnK.weaken (U' := ((w2.drewN q).setCell ⟨go, k * 2 + 1, none⟩ (.int .i64 0)).heap.size) HSt.out (Nat.le_refl _) (by have := HX3.out.size; simpa [World.setCell] using this))
            have HXC' : Hid (Below B w ((w2.drewN q).setCell ⟨go, k * 2 + 1, none⟩ (.int .i64 0))) := Below.setCell (p := ⟨go, k * 2 + 1, none⟩) HXB.out hgB.1 _
            clear HSt HXB
            go_wp2
            obtain ⟨ys, hys⟩ : ∃ ys, ys = xs.set k (V, 0) := ⟨_, rfl⟩
            rw [← hys] at HNe HO3'
            obtain ⟨wr', hwr'⟩ : ∃ x, x = (w2.drewN q).setCell ⟨go, k * 2 + 1, none⟩ (.int .i64 0) := ⟨_, rfl⟩
            rw [← hwr'] at HO3' HXC' ⊢
            have HO3 := HO3'
            have HXC := HXC'
            clear hwr' hys HO3' HXC' q1 q2 r1 r2
            have hE : Ext wr' wr'.drew := Ext.drew wr'
            have hk0 : (0 : Int) ≤ (k : Int) := by omega
            have hk1 : (k : Int) ≤ (m : Int) := by omega
            have hk2 : (k : Int) ≤ (co : Int) := by omega
            have hk3 : (m : Int) ≤ (co : Int) := by omega
            have hk4 : IntKind.i64.wrap ((k : Int) + 1) = (k : Int) + 1 := wrap_in (by omega) (by omega)
            have hk5 : (k : Int) + 1 ≤ (m : Int) := by omega
            have hk6 : (0 : Int) ≤ (k : Int) + 1 := by omega
            have hk7 : ((k : Int) + 1).toNat = k + 1 := by omega
            have hwsz := HXC.out.size
            have hgo := HO.out.base_lt go 0 rfl
            have hBw := HB.out
            (refine walkR_start (fun w' => Ext wr' w') 9 (by kernel_rfl) ?_; simp only [numbered, List.take_succ_cons, List.take_zero, Nat.zero_add, Nat.reduceAdd, List.length_cons, List.length_nil])
            (refine walkR_later ?_; simp only [List.cons_append, List.nil_append])
            (repeat (first | (refine walkR_still (v := ?_) rfl (by decide +kernel) rfl (fun _ _ _ h => h) hE ?_ ?_; rotate_left; (focus (intro w' hw'; skip; go_simp; all_goals (with_reducible rfl))); simp only [Act.put, List.setIfInBounds_toArray, List.set_cons_zero, List.set_cons_succ]) | (refine walkR_skip rfl (by decide +kernel) rfl (fun _ _ _ h => h) hE ?_; simp only [Act.put, List.setIfInBounds_toArray, List.set_cons_zero, List.set_cons_succ])))
            (refine walkR_later ?_; simp only [List.cons_append, List.nil_append])
            (repeat (first | (refine walkR_still (v := ?_) rfl (by decide +kernel) rfl (fun _ _ _ h => h) hE ?_ ?_; rotate_left; (focus (intro w' hw'; skip; go_simp; all_goals (with_reducible rfl))); simp only [Act.put, List.setIfInBounds_toArray, List.set_cons_zero, List.set_cons_succ]) | (refine walkR_skip rfl (by decide +kernel) rfl (fun _ _ _ h => h) hE ?_; simp only [Act.put, List.setIfInBounds_toArray, List.set_cons_zero, List.set_cons_succ])))
            (refine walkR_only (fun w' => Ext wr' w') rfl (by decide +kernel) rfl ?_ ?_)
            · exact fun _ h => h
            intro K hK
            go_simp
            have hE1 := (Ext.alloc wr' (.cells #[] 62)).trans (Ext.drew _)
            have hsz1 : ((wr'.alloc (.cells #[] 62)).drew).heap.size = wr'.heap.size + 1 := by show (wr'.alloc _).heap.size = _; simp
            have HO1 : Hid (OwnK stepK (wr'.alloc (.cells #[] 62)).drew B ((wr'.alloc (.cells #[] 62)).drew).heap.size (some ⟨wr'.heap.size, 0, none⟩) 0 0 [] []) := ((OwnK.made0 stepK wr').below (Ext.drew _)).weaken (B' := B) (by omega) (Nat.le_refl _)
            have HP1 := hidP ((HO3.out.below hE1).front k (by omega))
            have HQ1 := hidP (HO3.out.below hE1)
            refine hK _ _ hE1 ?_
            clear hK K hE
            (try simp only [Act.put, List.setIfInBounds_toArray, List.set_cons_zero, List.set_cons_succ])
            obtain ⟨w1, hw1⟩ : ∃ w1, w1 = (wr'.alloc (.cells #[] 62)).drew := ⟨_, rfl⟩
            rw [← hw1] at HO1 HP1 HQ1 hE1 hsz1
            first | rw [← hw1] | skip
            clear hw1
            (refine walkR_only (fun w' => Ext wr' w') rfl (by decide +kernel) rfl ?_ ?_)
            · exact fun _ h => h
            intro K hK
            refine wp_append_part stepK 26 (.agg #[.slice none 0 0, .int .i64 0]) 32 (.tmp 57) (.tmp 60) rfl Tryz.underlying26 Tryz.info62 rfl (by omega) B _ wr'.heap.size 0 0 [] (hs.take k) [] (ys.take k) rfl HO1.out go 0 k co rfl HP1.out (fun i j hi => by omega) (by omega) (by omega) ?_
            intro g4 c4 w4 ho4 hg4 hn4
            rw [List.nil_append, List.nil_append, Nat.zero_add] at ho4
            rw [Nat.zero_add]
            have hE4 : Ext wr' w4 := Below.past_block2 hE1 hg4 (by omega) (Nat.le_refl _)
            have HQ4 := hidP (HQ1.out.past hg4 (fun g o e => by simp only [Option.some.injEq, Addr.mk.injEq] at e; omega) (by omega))
            have HO4 := hidP ho4
            have hg4b : wr'.heap.size ≤ g4 := by omega
            have HP4 := hidP (HQ4.out.part (k + 1) (by omega))
            refine hK _ _ hE4 ?_
            clear hK K ho4 hg4 hn4 hE1
            (try simp only [Act.put, List.setIfInBounds_toArray, List.set_cons_zero, List.set_cons_succ])
            (refine walkR_tail (by rfl) (by kernel_rfl) ?_; simp only [List.drop_succ_cons, List.drop_zero])
            have hx65 : (if co = k + 1 then some (⟨go, 0, none⟩ : Addr) else some ⟨go, (k + 1) * 2, none⟩) = some ⟨go, if co = k + 1 then 0 else (k + 1) * 2, none⟩ := by split <;> rfl
            have HP65 := hidP (HP4.out.moved (o' := if co = k + 1 then 0 else (k + 1) * 2) (by
              by_cases hck : co = k + 1
              · right; omega
              · left; rw [if_neg hck]; rfl))
            rw [hx65]
            clear hx65
            refine wpList_append_part stepK 26 (.agg #[.slice none 0 0, .int .i64 0]) 32 rfl (.tmp 61) (.tmp 65) rfl Tryz.underlying26 Tryz.info62 rfl (by omega) B _ g4 k c4 _ (hs.drop (k + 1)) _ (ys.drop (k + 1)) rfl HO4.out go _ (m - (k + 1)) (co - (k + 1)) (by first | rfl | (rw [Nat.sub_self]; rfl)) HP65.out ?_ (by omega) (by have := hE4.size; omega) ?_
            · intro i j hi hj b o b' o' e e'
              have hhl10 := HQ4.out.hl
              have e2 : (hs.getD (k + 1 + j) (none, 0)).1 = some ⟨b', o', none⟩ := by rw [← e']; simp [List.getD_eq_getElem?_getD, List.getElem?_drop]
              have e1 : (hs.getD i (none, 0)).1 = some ⟨b, o, none⟩ := by
                rw [← e]
                simp [List.getD_eq_getElem?_getD, List.getElem?_take, hi]
              exact HQ4.out.apart i (k + 1 + j) (by omega) (by omega) (by omega) b o b' o' e1 e2
            intro g14 c14 w14 ho14 hg14 hn14
            have hE14 : Ext wr' w14 := Below.past_block2 hE4 hg14 hE4.size hg4b
            have hX14 : Below B w w14 := Below.trans HXC.out (Below.mono hE14 (by omega))
            have hn14 : k + (m - (k + 1)) = m - 1 := by omega
            rw [hn14] at ho14 ⊢
            rw [← HNe.out] at ho14
            have HO14 := hidP ho14
            have HB14 := hidP hX14
            clear ho14 hg14 hE4 hE14 hX14
            go_wp2
            all_goals go_ret
            all_goals first | exact ⟨g14, m - 1, c14, _, rfl, HO14.out, HB14.out⟩ | exact ⟨g14, m - 1, c14, rfl, ⟨_, HO14.out⟩, HB14.out⟩
          · have HNe : Hid (putM p xs V L = xs.set k (V, u)) := by
              show _ = _
              rw [putM_same (by omega) HJ.out HV.out (by rw [HM.out, ← HU.out]; exact huz), HM.out, HU.out]
            go_wp2
            go_ret
            refine ⟨go, m, co, hs, rfl, OwnK.weaken (by rw [HNe.out]; exact HSt.out) (Nat.le_refl _) ?_, Below.setCell (p := ⟨go, k * 2 + 1, none⟩) HXB.out hgB.1 _⟩
            have := HX3.out.size
            simpa [World.setCell] using this
      · rw [hV] at HAb
        have hab := of_decide_eq_true hV
        have HJ2 : Hid (∀ j, j < k + 1 → cmpW (wayAt xs j) W < 0) := by
          intro j hj
          rcases Nat.lt_succ_iff_lt_or_eq.1 hj with h3 | rfl
          · exact HJ.out j h3
          · rw [HV.out]; exact hab
        clear hab hV
        go_wp2_with fail
        refine (HAb.out _ (Ext.refl _)).mono ?_
        rintro e w2 ⟨rfl, hx2⟩
        have HX2 := hidP (HX.out.trans hx2)
        clear hx2 q1 q2
        go_wp2
        go_roundw
        case rel => exact ⟨k + 1, by omega, by go_num, HJ2, HX2⟩
        case measure => simp [intOf]; omega
    · obtain rfl : m = k := by omega
      by_cases hvz : v = 0
      · have HNe : Hid (putM p xs W L = xs) := by
          show _ = _
          exact putM_end0 (l := xs) (fun j hj => HJ.out j (by omega)) (by rw [← HVv.out]; exact hvz)
        go_wp2_with fail
        refine (HMd.out _).mono ?_
        rintro e w4 ⟨rfl, rfl⟩
        go_wp2
        go_ret
        refine ⟨go, m, co, hs, rfl, ?_, Below.mono HX.out HB.out⟩
        rw [HNe.out]
        exact (HO.out.below HX.out).weaken (Nat.le_refl _) HX.out.size
      · have HNe : Hid (putM p xs W L = xs.take m ++ [(W, v)] ++ xs.drop m) := by
          show _ = _
          rw [putM_end (l := xs) (fun j hj => HJ.out j (by omega)) (by rw [← HVv.out]; exact hvz), hxl, HVv.out]
        go_wp2_with fail
        refine (HMd.out _).mono ?_
        rintro e w4 ⟨rfl, rfl⟩
        go_wp2
        obtain ⟨wr', hwr'⟩ : ∃ x, x = wr := ⟨_, rfl⟩
        rw [← hwr'] at HX ⊢
        have HX3 := HX
        clear hwr' HX
        have hE : Ext wr' wr'.drew := Ext.drew wr'
        have hk0 : (0 : Int) ≤ (m : Int) := by omega
        have hk1 : (m : Int) ≤ (m : Int) := by omega
        have hk2 : (m : Int) ≤ (co : Int) := by omega
        have hk3 : (m : Int) ≤ (co : Int) := by omega
        have hwsz := HX3.out.size
        have hgo := HO.out.base_lt go 0 rfl
        have hBw := HB.out
        (refine walkR_start (fun w' => Ext wr' w') 16 (by kernel_rfl) ?_; simp only [numbered, List.take_succ_cons, List.take_zero, Nat.zero_add, Nat.reduceAdd, List.length_cons, List.length_nil])
        (refine walkR_later ?_; simp only [List.cons_append, List.nil_append])
        (repeat (first | (refine walkR_still (v := ?_) rfl (by decide +kernel) rfl (fun _ _ _ h => h) hE ?_ ?_; rotate_left; (focus (intro w' hw'; skip; go_simp; all_goals (with_reducible rfl))); simp only [Act.put, List.setIfInBounds_toArray, List.set_cons_zero, List.set_cons_succ]) | (refine walkR_skip rfl (by decide +kernel) rfl (fun _ _ _ h => h) hE ?_; simp only [Act.put, List.setIfInBounds_toArray, List.set_cons_zero, List.set_cons_succ])))
        (refine walkR_later ?_; simp only [List.cons_append, List.nil_append])
        (repeat (first | (refine walkR_still (v := ?_) rfl (by decide +kernel) rfl (fun _ _ _ h => h) hE ?_ ?_; rotate_left; (focus (intro w' hw'; skip; go_simp; all_goals (with_reducible rfl))); simp only [Act.put, List.setIfInBounds_toArray, List.set_cons_zero, List.set_cons_succ]) | (refine walkR_skip rfl (by decide +kernel) rfl (fun _ _ _ h => h) hE ?_; simp only [Act.put, List.setIfInBounds_toArray, List.set_cons_zero, List.set_cons_succ])))
        (refine walkR_later ?_; simp only [List.cons_append, List.nil_append])
        (repeat (first | (refine walkR_still (v := ?_) rfl (by decide +kernel) rfl (fun _ _ _ h => h) hE ?_ ?_; rotate_left; (focus (intro w' hw'; skip; go_simp; all_goals (with_reducible rfl))); simp only [Act.put, List.setIfInBounds_toArray, List.set_cons_zero, List.set_cons_succ]) | (refine walkR_skip rfl (by decide +kernel) rfl (fun _ _ _ h => h) hE ?_; simp only [Act.put, List.setIfInBounds_toArray, List.set_cons_zero, List.set_cons_succ])))
        (refine walkR_later ?_; simp only [List.cons_append, List.nil_append]); (refine walkR_later ?_; simp only [List.cons_append, List.nil_append]); (refine walkR_later ?_; simp only [List.cons_append, List.nil_append]); (refine walkR_later ?_; simp only [List.cons_append, List.nil_append])
        (repeat (first | (refine walkR_still (v := ?_) rfl (by decide +kernel) rfl (fun _ _ _ h => h) hE ?_ ?_; rotate_left; (focus (intro w' hw'; skip; go_simp; all_goals (with_reducible rfl))); simp only [Act.put, List.setIfInBounds_toArray, List.set_cons_zero, List.set_cons_succ]) | (refine walkR_skip rfl (by decide +kernel) rfl (fun _ _ _ h => h) hE ?_; simp only [Act.put, List.setIfInBounds_toArray, List.set_cons_zero, List.set_cons_succ])))
        (refine walkR_only (fun w' => Ext wr' w') rfl (by decide +kernel) rfl ?_ ?_)
        · exact fun _ h => h
        intro K hK
        go_simp
        have hE1 := (Ext.alloc wr' (.cells #[] 62)).trans (Ext.drew _)
        have hsz1 : ((wr'.alloc (.cells #[] 62)).drew).heap.size = wr'.heap.size + 1 := by show (wr'.alloc _).heap.size = _; simp
        have HO1 : Hid (OwnK stepK (wr'.alloc (.cells #[] 62)).drew B ((wr'.alloc (.cells #[] 62)).drew).heap.size (some ⟨wr'.heap.size, 0, none⟩) 0 0 [] []) := ((OwnK.made0 stepK wr').below (Ext.drew _)).weaken (B' := B) (by omega) (Nat.le_refl _)
        have HP1 := hidP (((HO.out.below HX3.out).below hE1).front m (by omega))
        have HQ1 := hidP ((HO.out.below HX3.out).below hE1)
        refine hK _ _ hE1 ?_
        clear hK K hE
        (try simp only [Act.put, List.setIfInBounds_toArray, List.set_cons_zero, List.set_cons_succ])
        obtain ⟨w1, hw1⟩ : ∃ w1, w1 = (wr'.alloc (.cells #[] 62)).drew := ⟨_, rfl⟩
        rw [← hw1] at HO1 HP1 HQ1 hE1 hsz1
        first | rw [← hw1] | skip
        clear hw1
        (refine walkR_only (fun w' => Ext wr' w') rfl (by decide +kernel) rfl ?_ ?_)
        · exact fun _ h => h
        intro K hK
        refine wp_append_part stepK 26 (.agg #[.slice none 0 0, .int .i64 0]) 32 (.tmp 73) (.tmp 76) rfl Tryz.underlying26 Tryz.info62 rfl (by omega) B _ wr'.heap.size 0 0 [] (hs.take m) [] (xs.take m) rfl HO1.out go 0 m co rfl HP1.out (fun i j hi => by omega) (by omega) (by omega) ?_
        intro g4 c4 w4 ho4 hg4 hn4
        rw [List.nil_append, List.nil_append, Nat.zero_add] at ho4
        rw [Nat.zero_add]
        have hE4 : Ext wr' w4 := Below.past_block2 hE1 hg4 (by omega) (Nat.le_refl _)
        have HQ4 := hidP (HQ1.out.past hg4 (fun g o e => by simp only [Option.some.injEq, Addr.mk.injEq] at e; omega) (by omega))
        have HO4 := hidP ho4
        have hg4b : wr'.heap.size ≤ g4 := by omega
        have hsz4 := hg4.size
        refine hK _ _ hE4 ?_
        clear hK K ho4 hg4 hn4 hE1
        (try simp only [Act.put, List.setIfInBounds_toArray, List.set_cons_zero, List.set_cons_succ])
        (refine walkR_only (fun w' => Ext wr' w') rfl (by decide +kernel) rfl (fun _ h => h) ?_; intro K hK; go_simp; refine (HI.out _ (HX3.out.trans hE4)).mono ?_; rintro e w6 ⟨a1, c1, rfl, ho1, hx6⟩; refine hK _ _ (hE4.trans hx6) ?_; clear hK K; (try simp only [Act.put, List.setIfInBounds_toArray, List.set_cons_zero, List.set_cons_succ]))
        have hE6 := hE4.trans hx6
        (refine walkR_only (fun w' => Ext wr' w') rfl (by decide +kernel) rfl (fun _ h => h) ?_; intro K hK; go_simp; refine (HMd.out _).mono ?_; rintro e w' ⟨rfl, rfl⟩; refine hK _ _ (hE6) ?_; clear hK K; (try simp only [Act.put, List.setIfInBounds_toArray, List.set_cons_zero, List.set_cons_succ]))
        (repeat (first | (refine walkR_still (v := ?_) rfl (by decide +kernel) rfl (fun _ _ _ h => h) hE6 ?_ ?_; rotate_left; (focus (intro w' hw'; skip; go_simp; all_goals (with_reducible rfl))); simp only [Act.put, List.setIfInBounds_toArray, List.set_cons_zero, List.set_cons_succ]) | (refine walkR_skip rfl (by decide +kernel) rfl (fun _ _ _ h => h) hE6 ?_; simp only [Act.put, List.setIfInBounds_toArray, List.set_cons_zero, List.set_cons_succ])))
        (refine walkR_only (fun w' => Ext wr' w') rfl (by decide +kernel) rfl ?_ ?_)
        · exact fun _ h => h
        intro K hK
        go_simp
        have hxa := Ext.alloc w6 (.cells #[.slice a1 W.length c1, .int .i64 v] 62)
        have hE7 := hE6.trans hxa
        have HO7 := hidP (HO4.out.below (hx6.trans hxa))
        have HQ7 := hidP (HQ4.out.below (hx6.trans hxa))
        have HI7 := hidP ((ho1.below hxa).base (B' := B) (by omega))
        have HA1 : Hid (∀ b o, a1 = some ⟨b, o, none⟩ → w4.heap.size ≤ b) := fun b o e => (ho1.at_base b o e).1
        have HP7 : Hid (PartK stepK (w6.alloc (.cells #[.slice a1 W.length c1, .int .i64 v] 62)) B w6.heap.size 0 1 [(a1, c1)] [(W, v)]) := PartK.single (fun j _ => (cell_top _ _ _ _ _ rfl).trans (by simp [stepK])) HI7.out
        have hsz7 := (hx6.trans hxa).size
        refine hK _ _ hE7 ?_
        clear hK K ho1 hx6 hE4 hE6 hxa
        (try simp only [Act.put, List.setIfInBounds_toArray, List.set_cons_zero, List.set_cons_succ])
        obtain ⟨w7, hw7⟩ : ∃ w7, w7 = w6.alloc (.cells #[.slice a1 W.length c1, .int .i64 v] 62) := ⟨_, rfl⟩
        rw [← hw7] at HO7 HQ7 HI7 HP7 hsz7 hE7
        first | rw [← hw7] | skip
        clear hw7
        (refine walkR_only (fun w' => Ext wr' w') rfl (by decide +kernel) rfl ?_ ?_)
        · exact fun _ h => h
        intro K hK
        refine wp_append_part stepK 26 (.agg #[.slice none 0 0, .int .i64 0]) 32 (.tmp 77) (.tmp 84) rfl Tryz.underlying26 Tryz.info62 rfl (by omega) B _ g4 m c4 (hs.take m) [(a1, c1)] (xs.take m) [(W, v)] rfl HO7.out w6.heap.size 0 1 1 rfl HP7.out (fun i j hi hj b o b' o' e e' => by
          obtain rfl : j = 0 := by omega
          have h1 := HA1.out b' o' e'
          have h2 := HQ7.out.lt i (by omega) b o (by rw [← e]; simp [List.getD_eq_getElem?_getD, List.getElem?_take, hi])
          omega) (by omega) (by omega) ?_
        intro g10 c10 w10 ho10 hg10 hn10
        have hE10 : Ext wr' w10 := Below.past_block2 hE7 hg10 hE7.size hg4b
        have HQ10 := hidP (HQ7.out.past hg10 (fun g o e => by simp only [Option.some.injEq, Addr.mk.injEq] at e; omega) (by omega))
        have HO10 := hidP ho10
        have hg10b : wr'.heap.size ≤ g10 := by have := hE7.size; omega
        have HP10 := hidP (HQ10.out.part m (by omega))
        refine hK _ _ hE10 ?_
        clear hK K ho10 hg10 hn10 hE7
        (try simp only [Act.put, List.setIfInBounds_toArray, List.set_cons_zero, List.set_cons_succ])
        (refine walkR_tail (by rfl) (by kernel_rfl) ?_; simp only [List.drop_succ_cons, List.drop_zero])
        have hx61 : (if co = m then some (⟨go, 0, none⟩ : Addr) else some ⟨go, m * 2, none⟩) = some ⟨go, if co = m then 0 else m * 2, none⟩ := by split <;> rfl
        have HP61 := hidP (HP10.out.moved (o' := if co = m then 0 else m * 2) (by
          by_cases hck : co = m
          · right; omega
          · left; rw [if_neg hck]; rfl))
        rw [hx61]
        clear hx61
        refine wpList_append_part stepK 26 (.agg #[.slice none 0 0, .int .i64 0]) 32 rfl (.tmp 85) (.tmp 88) rfl Tryz.underlying26 Tryz.info62 rfl (by omega) B _ g10 (m + 1) c10 _ (hs.drop m) _ (xs.drop m) rfl HO10.out go _ (m - m) (co - m) (by first | rfl | (rw [Nat.sub_self]; rfl)) HP61.out ?_ (by omega) (by have := hE10.size; omega) ?_
        · intro i j hi hj b o b' o' e e'
          have hhl10 := HQ10.out.hl
          have e2 : (hs.getD (m + j) (none, 0)).1 = some ⟨b', o', none⟩ := by rw [← e']; simp [List.getD_eq_getElem?_getD, List.getElem?_drop]
          by_cases hi2 : i < m
          · have e1 : (hs.getD i (none, 0)).1 = some ⟨b, o, none⟩ := by
              rw [← e, getD_left _ _ _ _ (by simp; omega)]
              simp [List.getD_eq_getElem?_getD, List.getElem?_take, hi2]
            exact HQ10.out.apart i (m + j) (by omega) (by omega) (by omega) b o b' o' e1 e2
          · have e1 : a1 = some ⟨b, o, none⟩ := by
              rw [← e, getD_right _ _ _ _ (by simp; omega)]
              have : i - (hs.take m).length = 0 := by simp; omega
              rw [this]
              rfl
            have h1 := HA1.out b o e1
            have h2 := HQ10.out.lt (m + j) (by omega) b' o' e2
            omega
        intro g14 c14 w14 ho14 hg14 hn14
        have hE14 : Ext wr' w14 := Below.past_block2 hE10 hg14 hE10.size hg10b
        have hX14 : Ext w w14 := HX3.out.trans hE14
        have hn14 : m + 1 + (m - m) = m + 1 := by omega
        rw [hn14] at ho14 ⊢
        rw [← HNe.out] at ho14
        have HO14 := hidP ho14
        have HB14 : Hid (Below B w w14) := Below.mono hX14 HB.out
        clear ho14 hg14 hE10 hE14 hX14
        go_wp2
        all_goals go_ret
        all_goals first | exact ⟨g14, m + 1, c14, _, rfl, HO14.out, HB14.out⟩ | exact ⟨g14, m + 1, c14, rfl, ⟨_, HO14.out⟩, HB14.out⟩
end Go.Proofs.YtcfgcacmmmhjcaaGreatDoor

namespace Go.Proofs.YtcfgcacmmmhjcaaGreatDoor
open Go.RowKit

theorem NormM.at {p : Int} {l : List Tm} (h : NormM p l) {i : Nat} (hi : i < l.length) : 0 < lenAt l i ∧ lenAt l i < p := by
  have := h.num (l.getD i ([], 0)) (by rw [getTm hi]; exact List.getElem_mem hi)
  exact this
/-- v times a list, not reduced -/
def scaleR (v : Int) (us : List Tm) : List Tm := us.map fun q => (q.1, v * q.2)
theorem scaleR_at (v : Int) (us : List Tm) {k : Nat} (hk : k < us.length) : wayAt (scaleR v us) k = wayAt us k ∧ lenAt (scaleR v us) k = v * lenAt us k := by
  unfold wayAt lenAt scaleR
  simp [List.getD_eq_getElem?_getD, hk]
theorem scaleR_length (v : Int) (us : List Tm) : (scaleR v us).length = us.length := by simp [scaleR]
set_option maxHeartbeats 2000000 in
theorem l2Vector_any (p d : Int) (ta : Option Addr) (tn tc : Nat) (a : Option Addr) (n c : Nat) (xs : List Int) (w : World) (h : IntsAt w a n xs) (hn : n ≤ 1000000000000) (hp : 1 ≤ p) (hp2 : p ≤ 1000000) :
    Calls Tryz.prog 29 #[algV p d ta tn tc, .slice a n c] w fun e w' => e = .returned (.bool (elB p d xs)) ∧ Ext w w' := by
  have hx0 := Ext.alloc w (.cells #[.int .i64 p, .int .i64 d, .slice ta tn tc] 28)
  have HAL := hidP (AlgAt.new w _ rfl p d ta tn tc 28)
  have HR := hidP (l1Residues_any a n c xs p _ (h.below hx0) hn)
  have HX := hidP hx0
  obtain rfl : xs.length = n := h.len
  clear h hx0
  obtain ⟨f0, f1, f2⟩ := HAL.out
  by_cases hd : (xs.length : Int) = d
  · have HE : Hid (elB p d xs = resB p xs) := by show _ = _; unfold elB; rw [decide_eq_true hd, Bool.true_and]
    rw [HE.out]
    go_enter Tryz.func29, Tryz.ntmps29
    go_wp2_with fail
    refine HR.out.mono ?_
    rintro e w1 ⟨rfl, rfl⟩
    go_wp2
    go_ret
    exact ⟨rfl, HX.out⟩
  · have HE : Hid (elB p d xs = false) := by show _ = _; unfold elB; rw [decide_eq_false hd, Bool.false_and]
    rw [HE.out]
    go_enter Tryz.func29, Tryz.ntmps29
    go_wp2
    go_ret
    exact ⟨rfl, HX.out⟩
set_option maxRecDepth 100000 in
set_option maxHeartbeats 4000000 in
theorem l11Join_any (p : Int) (a : Option Addr) (n c : Nat) (us : List Tm) (m : Int) (a' : Option Addr) (n' c' : Nat) (vs : List Tm) (w : World) (h : StepsAt w a n us) (h' : StepsAt w a' n' vs) (hn : n ≤ 100000) (hn' : n' ≤ 100000) (hp : 2 ≤ p) (hp2 : p ≤ 10007)
    (hw : ∀ k, k < n → (wayAt us k).length ≤ 1000000 ∧ 0 ≤ lenAt us k ∧ lenAt us k ≤ 10007) (hw' : ∀ k, k < n' → (wayAt vs k).length ≤ 1000000 ∧ 0 ≤ lenAt vs k ∧ lenAt vs k ≤ 10007) :
    Calls Tryz.prog 42 #[.int .i64 p, .slice a n c, .int .i64 m, .slice a' n' c'] w fun e w' => ∃ g q c' hs, e = .returned (.slice (some ⟨g, 0, none⟩) q c') ∧ OwnK stepK w' w.heap.size w'.heap.size (some ⟨g, 0, none⟩) q c' hs (putsM p [] (joinE p m us vs)) ∧ Ext w w' := by
  have H := hidP h
  have H' := hidP h'
  have HW := hidP hw
  have HW' := hidP hw'
  have hnl := h.len
  have hnl' := h'.len
  have HM0 : Hid (OwnK stepK (w.alloc (.cells #[] 62)) w.heap.size (w.alloc (.cells #[] 62)).heap.size (some ⟨w.heap.size, 0, none⟩) 0 0 [] (putsM p [] (us.take 0))) := OwnK.made0 stepK w
  have HX0 := hidP (Ext.alloc w (.cells #[] 62))
  have hm0 := Int.emod_nonneg m (show p ≠ 0 by omega)
  have hm1 := Int.emod_lt_of_pos m (show 0 < p by omega)
  have HMd := hidP (fun w' => l1Mod_any m p w' (by omega) (by omega))
  have HJn : Hid (joinE p m us vs = us ++ scaleR (m % p) vs) := rfl
  obtain ⟨v, hv⟩ : ∃ v, v = m % p := ⟨_, rfl⟩
  rw [← hv] at hm0 hm1 HMd HJn
  clear h h' hw hw' hv
  go_enter Tryz.func42, Tryz.ntmps42
  go_wp2
  go_loopw [9, 10] (fun out i wr => ∃ (k g co q : Nat) (hs : List Hdr), k ≤ n ∧ out = .slice (some ⟨g, 0, none⟩) q co ∧ i = .int .i64 k ∧ Hid (OwnK stepK wr w.heap.size wr.heap.size (some ⟨g, 0, none⟩) q co hs (putsM p [] (us.take k))) ∧ Hid (Ext w wr)) (fun _ i _ => n - (intOf i).toNat)
  case atStart => exact ⟨0, _, _, _, [], Nat.zero_le _, rfl, rfl, HM0, HX0⟩
  case round =>
    clear HM0 HX0
    obtain ⟨k, g, co, q, hs, hk, rfl, rfl, HO, HX⟩ := hrel
    by_cases hlt : k < n
    · obtain ⟨b0, o, aw, cw, W, L, rfl, HWy, HL, hwl, HNl, hq⟩ := (H.out.below HX.out).way k hlt
      have HQ := hidP hq
      have hww := HW.out k hlt
      rw [HWy.out, HL.out] at hww
      obtain ⟨hW1, hL1, hL2⟩ := hww
      have hql := HO.out.xl
      have hpl := putsM_length p (us.take k) []
      rw [List.length_take] at hpl
      simp only [List.length_nil] at hpl
      have hor := (NormM.nil p).puts (show 0 < p by omega) (us.take k)
      have HPt := hidP (fun w' (hx : Ext wr w') => l11Put_any p w.heap.size g q co hs (putsM p [] (us.take k)) aw cw W L w' ((HO.out.below hx).weaken (Nat.le_refl _) hx.size) (HQ.out w' hx).2.2 HNl.out hW1 (by omega) (Nat.le_trans HX.out.size hx.size) (by omega) hp2 (by omega) (by omega) (fun i hi => by
        have := hor.at (i := i) (by omega)
        omega))
      have HTk : Hid (putM p (putsM p [] (us.take k)) W L = putsM p [] (us.take (k + 1))) := by
        show _ = _
        rw [putsM_take _ _ _ (by omega), HWy.out, HL.out]
      have hE : Ext wr wr.drew := Ext.drew wr
      clear hq hL1 hL2 hql hpl hor hW1
      go_wp2
      (refine walkR_start (fun w' => Ext wr w') 12 (by kernel_rfl) ?_; simp only [numbered, List.take_succ_cons, List.take_zero, Nat.zero_add, Nat.reduceAdd, List.length_cons, List.length_nil])
      (repeat (first | (refine walkR_still (v := ?_) rfl (by decide +kernel) rfl (fun _ _ _ h => h) hE ?_ ?_; rotate_left; (focus (intro w' hw'; obtain ⟨q1, q2, _⟩ := HQ.out w' hw'; go_simp; all_goals (with_reducible rfl))); simp only [Act.put, List.setIfInBounds_toArray, List.set_cons_zero, List.set_cons_succ]) | (refine walkR_skip rfl (by decide +kernel) rfl (fun _ _ _ h => h) hE ?_; simp only [Act.put, List.setIfInBounds_toArray, List.set_cons_zero, List.set_cons_succ])))
      have HPt2 := hidP (HPt.out _ hE)
      have HXE := hidP (HX.out.trans hE)
      clear hE HPt
      (refine walkR_tail (by rfl) (by kernel_rfl) ?_; simp only [List.drop_succ_cons, List.drop_zero])
      go_wp2_with fail
      refine HPt2.out.mono ?_
      rintro e w2 ⟨g2, q2, c2, hs2, rfl, ho2, hx2⟩
      rw [HTk.out] at ho2
      have HO2 := hidP ho2
      have HX2 : Hid (Ext w w2) := Below.trans HXE.out hx2
      clear ho2 hx2
      go_wp2
      go_roundw
      case rel => exact ⟨k + 1, g2, c2, q2, hs2, by omega, rfl, by go_num, HO2, HX2⟩
      case measure => simp [intOf]; omega
    · obtain rfl : n = k := by omega
      have HT : Hid (us.take n = us ++ (scaleR v vs).take 0) := by
        show _ = _
        rw [List.take_of_length_le (by omega), List.take_zero, List.append_nil]
      rw [HT.out] at HO
      go_wp2
      go_loopw [9, 11] (fun out i wr => ∃ (k g co q : Nat) (hs : List Hdr), k ≤ n' ∧ out = .slice (some ⟨g, 0, none⟩) q co ∧ i = .int .i64 k ∧ Hid (OwnK stepK wr w.heap.size wr.heap.size (some ⟨g, 0, none⟩) q co hs (putsM p [] (us ++ (scaleR v vs).take k))) ∧ Hid (Ext w wr)) (fun _ i _ => n' - (intOf i).toNat)
      case atStart => exact ⟨0, _, _, _, _, Nat.zero_le _, rfl, rfl, HO, HX⟩
      case round =>
        clear HO HX
        obtain ⟨k, g, co, q, hs, hk, rfl, rfl, HO, HX⟩ := hrel
        by_cases hlt : k < n'
        · obtain ⟨b0, o, aw, cw, W, L, rfl, HWy, HL, hwl, HNl, hq⟩ := (H'.out.below HX.out).way k hlt
          have HQ := hidP hq
          have hww := HW'.out k hlt
          rw [HWy.out, HL.out] at hww
          obtain ⟨hW1, hL1, hL2⟩ := hww
          have hvL : 0 ≤ v * L := Int.mul_nonneg hm0 hL1
          have hvL2 : v * L ≤ 10007 * 10007 := Int.mul_le_mul (by omega) hL2 hL1 (by omega)
          have hvw : IntKind.i64.wrap (v * L) = v * L := wrap_in (by omega) (by omega)
          have hql := HO.out.xl
          have hpl := putsM_length p (us ++ (scaleR v vs).take k) []
          rw [List.length_append, List.length_take, scaleR_length] at hpl
          simp only [List.length_nil] at hpl
          have hor := (NormM.nil p).puts (show 0 < p by omega) (us ++ (scaleR v vs).take k)
          obtain ⟨hs1, hs2⟩ := scaleR_at v vs (k := k) (by omega)
          have HPt := hidP (fun w' (hx : Ext wr w') => l11Put_any p w.heap.size g q co hs (putsM p [] (us ++ (scaleR v vs).take k)) aw cw W (v * L) w' ((HO.out.below hx).weaken (Nat.le_refl _) hx.size) (HQ.out w' hx).2.2 HNl.out hW1 (by omega) (Nat.le_trans HX.out.size hx.size) (by omega) hp2 (by omega) (by omega) (fun i hi => by
            have := hor.at (i := i) (by omega)
            omega))
          have HTk : Hid (putM p (putsM p [] (us ++ (scaleR v vs).take k)) W (v * L) = putsM p [] (us ++ (scaleR v vs).take (k + 1))) := by
            show _ = _
            rw [putsM_append, putsM_append, putsM_take _ _ _ (by rw [scaleR_length]; omega), hs1, hs2, HWy.out, HL.out]
          have hE : Ext wr wr.drew := Ext.drew wr
          clear hq hL1 hL2 hql hpl hor hW1 hs1 hs2 hvL hvL2
          go_wp2
          (refine walkR_start (fun w' => Ext wr w') 16 (by kernel_rfl) ?_; simp only [numbered, List.take_succ_cons, List.take_zero, Nat.zero_add, Nat.reduceAdd, List.length_cons, List.length_nil])
          (repeat (first | (refine walkR_still (v := ?_) rfl (by decide +kernel) rfl (fun _ _ _ h => h) hE ?_ ?_; rotate_left; (focus (intro w' hw'; obtain ⟨q1, q2, _⟩ := HQ.out w' hw'; go_simp; all_goals (with_reducible rfl))); simp only [Act.put, List.setIfInBounds_toArray, List.set_cons_zero, List.set_cons_succ]) | (refine walkR_skip rfl (by decide +kernel) rfl (fun _ _ _ h => h) hE ?_; simp only [Act.put, List.setIfInBounds_toArray, List.set_cons_zero, List.set_cons_succ])))
          (refine walkR_later ?_; simp only [List.cons_append, List.nil_append])
          (repeat (first | (refine walkR_still (v := ?_) rfl (by decide +kernel) rfl (fun _ _ _ h => h) hE ?_ ?_; rotate_left; (focus (intro w' hw'; obtain ⟨q1, q2, _⟩ := HQ.out w' hw'; go_simp; all_goals (with_reducible rfl))); simp only [Act.put, List.setIfInBounds_toArray, List.set_cons_zero, List.set_cons_succ]) | (refine walkR_skip rfl (by decide +kernel) rfl (fun _ _ _ h => h) hE ?_; simp only [Act.put, List.setIfInBounds_toArray, List.set_cons_zero, List.set_cons_succ])))
          (refine walkR_later ?_; simp only [List.cons_append, List.nil_append])
          (refine walkR_only (fun w' => Ext wr w') rfl (by decide +kernel) rfl (fun _ h => h) ?_; intro K hK; go_simp; refine (HMd.out _).mono ?_; rintro e w' ⟨rfl, rfl⟩; refine hK _ _ (hE) ?_; clear hK K; (try simp only [Act.put, List.setIfInBounds_toArray, List.set_cons_zero, List.set_cons_succ]))
          (repeat (first | (refine walkR_still (v := ?_) rfl (by decide +kernel) rfl (fun _ _ _ h => h) hE ?_ ?_; rotate_left; (focus (intro w' hw'; obtain ⟨q1, q2, _⟩ := HQ.out w' hw'; go_simp; all_goals (with_reducible rfl))); simp only [Act.put, List.setIfInBounds_toArray, List.set_cons_zero, List.set_cons_succ]) | (refine walkR_skip rfl (by decide +kernel) rfl (fun _ _ _ h => h) hE ?_; simp only [Act.put, List.setIfInBounds_toArray, List.set_cons_zero, List.set_cons_succ])))
          have HPt2 := hidP (HPt.out _ hE)
          have HXE := hidP (HX.out.trans hE)
          clear hE HPt
          (refine walkR_tail (by rfl) (by kernel_rfl) ?_; simp only [List.drop_succ_cons, List.drop_zero])
          go_wp2_with fail
          refine HPt2.out.mono ?_
          rintro e w2 ⟨g2, q2, c2, hs2, rfl, ho2, hx2⟩
          rw [HTk.out] at ho2
          have HO2 := hidP ho2
          have HX2 : Hid (Ext w w2) := Below.trans HXE.out hx2
          clear ho2 hx2
          go_wp2
          go_roundw
          case rel => exact ⟨k + 1, g2, c2, q2, hs2, by omega, rfl, by go_num, HO2, HX2⟩
          case measure => simp [intOf]; omega
        · obtain rfl : n' = k := by omega
          have HT2 : Hid (us ++ (scaleR v vs).take n' = joinE p m us vs) := by
            show _ = _
            rw [List.take_of_length_le (by rw [scaleR_length]; omega), HJn.out]
          rw [HT2.out] at HO
          go_wp2
          go_ret
          exact ⟨g, q, co, hs, rfl, HO.out, HX.out⟩
end Go.Proofs.YtcfgcacmmmhjcaaGreatDoor

namespace Go.Proofs.YtcfgcacmmmhjcaaGreatDoor
open Go.RowKit

set_option maxHeartbeats 2000000 in
theorem l11Give_any (p d : Int) (ta : Option Addr) (tn tc : Nat) (a : Option Addr) (n c : Nat) (T : List Tm) (w : World) (h : TermsAt w a n T) (hn : n ≤ 1000000000) (hp : 1 ≤ p) (hp2 : p ≤ 10007) (hd : 0 ≤ d) (hd2 : d ≤ 28) :
    Calls Tryz.prog 41 #[algV p d ta tn tc, .slice a n c] w fun e w' => e = .returned (if envB p d T then .tuple #[.slice a n c, .bool true] else .tuple #[.slice none 0 0, .bool false]) ∧ Ext w w' := by
  have hx1 := Ext.alloc w (.cells #[.int .i64 p, .int .i64 d, .slice ta tn tc] 28)
  obtain ⟨f0, f1, f2⟩ := AlgAt.new w _ rfl p d ta tn tc 28
  have HL := hidP (l11Ok_any p d ta tn tc a n c T _ (h.below hx1) (by omega) (by omega) (by omega) (by omega) (by omega))
  have HX1 := hidP hx1
  clear h hx1
  cases hb : envB p d T
  · rw [hb] at HL
    clear hb
    go_enter Tryz.func41, Tryz.ntmps41
    go_wp2_with fail
    refine HL.out.mono ?_
    rintro e w2 ⟨rfl, hx⟩
    have HX := hidP (HX1.out.trans hx)
    clear hx
    go_wp2
    refine bodyPost_ret (v := .tuple #[.slice none 0 0, .bool false]) (by simp [results, Tryz.results41, go_sem]) rfl ⟨rfl, HX.out⟩
  · rw [hb] at HL
    clear hb
    go_enter Tryz.func41, Tryz.ntmps41
    go_wp2_with fail
    refine HL.out.mono ?_
    rintro e w2 ⟨rfl, hx⟩
    have HX := hidP (HX1.out.trans hx)
    clear hx
    go_wp2
    refine bodyPost_ret (v := .tuple #[.slice a n c, .bool true]) (by simp [results, Tryz.results41, go_sem]) rfl ⟨rfl, HX.out⟩
set_option maxRecDepth 100000 in
set_option maxHeartbeats 4000000 in
theorem sGeneratorOf_any (p d : Int) (ta : Option Addr) (tn tc : Nat) (ts : List Int) (a : Option Addr) (n c : Nat) (xs : List Int) (w : World) (hc : IntsAt w ta tn ts) (h : IntsAt w a n xs) (htc : tn ≤ tc) (htc2 : tc ≤ 1000000000000) (hn : n ≤ 1000000000000) :
    EnvResL 8 #[algV p d ta tn tc, .slice a n c] w (genR p d ts xs) := by
  unfold EnvResL
  have hx1 := Ext.alloc w (.cells #[.int .i64 p, .int .i64 d, .slice ta tn tc] 28)
  have HC := hidP (fun w' (hx : Ext (w.alloc (.cells #[.int .i64 p, .int .i64 d, .slice ta tn tc] 28)) w') => (AlgAt.new w _ rfl p d ta tn tc 28).below hx)
  have HX1 := hidP hx1
  have H := hidP (h.below hx1)
  have HAk := hidP (sAlgebraOk_any p d ta tn tc ts _ (hc.below hx1) htc htc2)
  have hs1 : w.heap.size ≤ (w.alloc (.cells #[.int .i64 p, .int .i64 d, .slice ta tn tc] 28)).heap.size := hx1.size
  have hxl := h.len
  clear hc h hx1
  obtain ⟨w1, hw1⟩ : ∃ w1, w1 = w.alloc (.cells #[.int .i64 p, .int .i64 d, .slice ta tn tc] 28) := ⟨_, rfl⟩
  rw [← hw1] at HC HX1 H HAk hs1
  have HS1 := hidP hs1
  clear hs1
  obtain ⟨f0, f1, f2⟩ := HC.out w1 (Ext.refl w1)
  cases hT : algB p d ts
  · have HR : Hid (genR p d ts xs = []) := by
      show _ = _
      unfold genR
      rw [hT]
      rfl
    rw [hT] at HAk
    clear hT
    go_enter Tryz.func8, Tryz.ntmps8
    go_wp2_with fail
    rw [← hw1]
    clear hw1
    refine HAk.out.mono ?_
    rintro e w2 ⟨rfl, hx⟩
    have HX := hidP hx
    clear hx
    go_wp2
    go_ret
    refine ⟨none, 0, 0, [], rfl, ?_, HX1.out.trans HX.out⟩
    rw [HR.out]
    exact OwnK.nil stepK _ _ _
  · obtain ⟨hh, -⟩ := algB_true.1 hT
    obtain ⟨hpp, hd0, hd1, -, -⟩ := headB_true hh
    obtain ⟨p2, p7⟩ := prime_bounds hpp
    have HEl := hidP (fun w' (hx : Ext w1 w') => l2Vector_any p d ta tn tc a n c xs w' (H.out.below hx) hn (by omega) (by omega))
    rw [hT] at HAk
    cases hE : elB p d xs
    · have HR : Hid (genR p d ts xs = []) := by
        show _ = _
        unfold genR
        rw [hT, hE]
        rfl
      rw [hE] at HEl
      clear hT hh hpp hE
      go_enter Tryz.func8, Tryz.ntmps8
      go_wp2_with fail
      rw [← hw1]
      clear hw1
      refine HAk.out.mono ?_
      rintro e w2 ⟨rfl, hx⟩
      obtain ⟨g0, g1, g2⟩ := HC.out w2 hx
      have HX := hidP hx
      clear hx f0 f1 f2
      go_wp2_with fail
      refine (HEl.out _ HX.out).mono ?_
      rintro e w3 ⟨rfl, hx⟩
      have HX3 := hidP (HX.out.trans hx)
      clear hx g0 g1 g2
      go_wp2
      go_ret
      refine ⟨none, 0, 0, [], rfl, ?_, HX1.out.trans HX3.out⟩
      rw [HR.out]
      exact OwnK.nil stepK _ _ _
    · have HR : Hid (genR p d ts xs = putsM p [] (genT xs)) := by
        show _ = _
        unfold genR
        rw [hT, hE]
        rfl
      rw [hE] at HEl
      have hel : (xs.length : Int) = d ∧ Res p xs := by
        unfold elB at hE
        simp only [Bool.and_eq_true, decide_eq_true_eq] at hE
        exact ⟨hE.1, resB_true.1 hE.2⟩
      have HRes := hidP hel.2
      have hn28 : n ≤ 28 := by omega
      have HND : Hid ((n : Int) = d) := by have := hel.1; show _ = _; omega
      clear hT hh hpp hE hel
      go_enter Tryz.func8, Tryz.ntmps8
      go_wp2_with fail
      rw [← hw1]
      clear hw1
      refine HAk.out.mono ?_
      rintro e w2 ⟨rfl, hx⟩
      obtain ⟨g0, g1, g2⟩ := HC.out w2 hx
      have HX := hidP hx
      clear hx f0 f1 f2
      go_wp2_with fail
      refine (HEl.out _ HX.out).mono ?_
      rintro e w3 ⟨rfl, hx⟩
      have HX3 := hidP (HX.out.trans hx)
      have HM0 : Hid (OwnK stepK (w3.alloc (.cells #[] 62)) w1.heap.size (w3.alloc (.cells #[] 62)).heap.size (some ⟨w3.heap.size, 0, none⟩) 0 0 [] (putsM p [] ((genT xs).take 0))) := (OwnK.made0 stepK w3).weaken (B' := w1.heap.size) HX3.out.size (Nat.le_refl _)
      have HX0 := hidP (HX3.out.trans (Ext.alloc w3 (.cells #[] 62)))
      clear hx g0 g1 g2
      go_wp2
      go_loopw [5, 6] (fun out i wr => ∃ (k g co q : Nat) (hs : List Hdr), k ≤ n ∧ out = .slice (some ⟨g, 0, none⟩) q co ∧ i = .int .i64 k ∧ Hid (OwnK stepK wr w1.heap.size wr.heap.size (some ⟨g, 0, none⟩) q co hs (putsM p [] ((genT xs).take k))) ∧ Hid (Ext w1 wr)) (fun _ i _ => n - (intOf i).toNat)
      case atStart => exact ⟨0, _, _, _, [], Nat.zero_le _, rfl, rfl, HM0, HX0⟩
      case round =>
        clear HM0 HX0
        obtain ⟨k, g, co, q, hs, hk, rfl, rfl, HO, HX5⟩ := hrel
        obtain ⟨g0, g1, g2⟩ := HC.out wr HX5.out
        by_cases hlt : k < n
        · have hkd : (k : Int) < d := by have := HND.out; omega
          obtain ⟨bx, ox, rfl, q0⟩ := (H.out.below HX5.out).get k hlt
          have hv := HRes.out k (by omega)
          have HTk : Hid (putM p (putsM p [] ((genT xs).take k)) [(k : Int)] (xs.getD k 0) = putsM p [] ((genT xs).take (k + 1))) := by
            show _ = _
            rw [genT_take xs (by omega), putsM_append, putsM_one]
          obtain ⟨v, hvv⟩ : ∃ v, v = xs.getD k 0 := ⟨_, rfl⟩
          rw [← hvv] at hv HTk
          have q1 : wr.cell? ⟨bx, ox + k, none⟩ = some (.int .i64 v) := by rw [hvv]; exact q0
          clear hvv q0
          have HQ1 := hidP (fun w' (hx : Ext wr w') => (hx.cell (p := ⟨bx, ox + k, none⟩) (World.block_lt_of_cell? wr _ q1)).trans q1)
          have HA := hidP (fun w' (hx : Ext wr w') => HC.out w' (HX5.out.trans hx))
          have hql := HO.out.xl
          have hpl := putsM_length p ((genT xs).take k) []
          rw [List.length_take, genT_length] at hpl
          simp only [List.length_nil] at hpl
          have hor := (NormM.nil p).puts (show 0 < p by omega) ((genT xs).take k)
          have hsw : w1.heap.size ≤ wr.heap.size := HX5.out.size
          have HPt := hidP (fun w' (hx : Ext wr w') (b1 : Nat) (hi : IntsAt w' (some ⟨b1, 0, none⟩) 1 [(k : Int)]) => l11Put_any p w1.heap.size g q co hs (putsM p [] ((genT xs).take k)) (some ⟨b1, 0, none⟩) 1 [(k : Int)] v w' ((HO.out.below hx).weaken (Nat.le_refl _) hx.size) hi (fun e => by cases e) (by simp) (by omega) (Nat.le_trans hsw hx.size) (by omega) p7 (by omega) (by omega) (fun i hi => by
            have := hor.at (i := i) (by omega)
            omega))
          have hE : Ext wr wr.drew := Ext.drew wr
          clear hql hpl hor hsw hv
          go_wp2
          clear g0 g1 g2 q1
          (refine walkR_start (fun w' => Ext wr w') 9 (by kernel_rfl) ?_; simp only [numbered, List.take_succ_cons, List.take_zero, Nat.zero_add, Nat.reduceAdd, List.length_cons, List.length_nil])
          (repeat (first | (refine walkR_still (v := ?_) rfl (by decide +kernel) rfl (fun _ _ _ h => h) hE ?_ ?_; rotate_left; (focus (intro w' hw'; obtain ⟨g0, g1, g2⟩ := HA.out w' hw'; have q1 := HQ1.out w' hw'; go_simp; all_goals (with_reducible rfl))); simp only [Act.put, List.setIfInBounds_toArray, List.set_cons_zero, List.set_cons_succ]) | (refine walkR_skip rfl (by decide +kernel) rfl (fun _ _ _ h => h) hE ?_; simp only [Act.put, List.setIfInBounds_toArray, List.set_cons_zero, List.set_cons_succ])))
          (refine walkR_later ?_; simp only [List.cons_append, List.nil_append])
          (repeat (first | (refine walkR_still (v := ?_) rfl (by decide +kernel) rfl (fun _ _ _ h => h) hE ?_ ?_; rotate_left; (focus (intro w' hw'; obtain ⟨g0, g1, g2⟩ := HA.out w' hw'; have q1 := HQ1.out w' hw'; go_simp; all_goals (with_reducible rfl))); simp only [Act.put, List.setIfInBounds_toArray, List.set_cons_zero, List.set_cons_succ]) | (refine walkR_skip rfl (by decide +kernel) rfl (fun _ _ _ h => h) hE ?_; simp only [Act.put, List.setIfInBounds_toArray, List.set_cons_zero, List.set_cons_succ])))
          (refine walkR_later ?_; simp only [List.cons_append, List.nil_append])
          (refine walkR_only (fun w' => Ext wr w') rfl (by decide +kernel) rfl ?_ ?_)
          · exact fun _ h => h
          intro K hK
          go_simp
          have hE2 := hE.trans (Ext.alloc wr.drew (.cells #[.int .i64 (k : Int)] 3))
          have HPt2 := hidP (HPt.out _ hE2 wr.drew.heap.size (one_ints wr.drew (k : Int) 3))
          have HXE := hidP (HX5.out.trans hE2)
          refine hK _ _ hE2 ?_
          clear hK K hE hE2 HPt
          (try simp only [Act.put, List.setIfInBounds_toArray, List.set_cons_zero, List.set_cons_succ])
          (refine walkR_tail (by rfl) (by kernel_rfl) ?_; simp only [List.drop_succ_cons, List.drop_zero])
          go_wp2_with fail
          refine HPt2.out.mono ?_
          rintro e w2 ⟨g2, q2, c2, hs2, rfl, ho2, hx2⟩
          rw [HTk.out] at ho2
          have HO2 := hidP ho2
          have HX2 : Hid (Ext w1 w2) := Below.trans HXE.out hx2
          clear ho2 hx2
          go_wp2
          go_roundw
          case rel => exact ⟨k + 1, g2, c2, q2, hs2, by omega, rfl, by go_num, HO2, HX2⟩
          case measure => simp [intOf]; omega
        · obtain rfl : n = k := by omega
          have hkd : ¬ ((n : Int) < d) := by have := HND.out; omega
          have HTk : Hid ((genT xs).take n = genT xs) := List.take_of_length_le (by rw [genT_length]; omega)
          rw [HTk.out] at HO
          go_wp2
          go_ret
          have hO : OwnK stepK wr w.heap.size wr.heap.size (some ⟨g, 0, none⟩) q co hs (genR p d ts xs) := by
            rw [HR.out]
            exact HO.out.weaken HS1.out (Nat.le_refl _)
          first | exact ⟨some ⟨g, 0, none⟩, q, co, hs, rfl, hO, HX1.out.trans HX5.out⟩ | exact ⟨some ⟨g, 0, none⟩, q, co, rfl, ⟨hs, hO⟩, HX1.out.trans HX5.out⟩
set_option maxRecDepth 100000 in
set_option maxHeartbeats 4000000 in
theorem sAddEnv_any (p d : Int) (ta : Option Addr) (tn tc : Nat) (ts : List Int) (a : Option Addr) (n c : Nat) (xs : List Tm) (q : Int) (a' : Option Addr) (n' c' : Nat) (ys : List Tm) (w : World) (hc : IntsAt w ta tn ts) (h : StepsAt w a n xs) (h' : StepsAt w a' n' ys)
    (htc : tn ≤ tc) (htc2 : tc ≤ 1000000000000) (hn : n ≤ 1000000000000) (hn' : n' ≤ 1000000000000) :
    EnvRes 20 #[algV p d ta tn tc, .slice a n c, .int .i64 q, .slice a' n' c'] w (addRE p d ts q xs ys) := by
  unfold EnvRes
  have hx1 := Ext.alloc w (.cells #[.int .i64 p, .int .i64 d, .slice ta tn tc] 28)
  have HC := hidP (fun w' (hx : Ext (w.alloc (.cells #[.int .i64 p, .int .i64 d, .slice ta tn tc] 28)) w') => (AlgAt.new w _ rfl p d ta tn tc 28).below hx)
  have HX1 := hidP hx1
  have H := hidP (h.below hx1)
  have H' := hidP (h'.below hx1)
  have HTs := hidP (hc.below hx1)
  have HAk := hidP (sEnvOk_any p d ta tn tc ts a n c xs _ (hc.below hx1) htc htc2 (h.below hx1).terms hn)
  have hs1 : w.heap.size ≤ (w.alloc (.cells #[.int .i64 p, .int .i64 d, .slice ta tn tc] 28)).heap.size := hx1.size
  clear hc h h' hx1
  obtain ⟨w1, hw1⟩ : ∃ w1, w1 = w.alloc (.cells #[.int .i64 p, .int .i64 d, .slice ta tn tc] 28) := ⟨_, rfl⟩
  rw [← hw1] at HC HX1 H H' HTs HAk hs1
  have HS1 := hidP hs1
  clear hs1
  obtain ⟨f0, f1, f2⟩ := HC.out w1 (Ext.refl w1)
  cases hT : (algB p d ts && envB p d xs)
  · have HR : Hid (addRE p d ts q xs ys = (false, [])) := by
      show _ = _
      unfold addRE
      rw [hT]
      rfl
    rw [hT] at HAk
    clear hT
    go_enter Tryz.func20, Tryz.ntmps20
    go_wp2_with fail
    rw [← hw1]
    clear hw1
    refine HAk.out.mono ?_
    rintro e w2 ⟨rfl, hx⟩
    have HX := hidP hx
    clear hx
    go_wp2
    refine bodyPost_ret (v := .tuple #[.slice none 0 0, .bool false]) (by simp [results, Tryz.results20, go_sem]) rfl ?_
    refine ⟨none, 0, 0, [], by rw [HR.out], ?_, HX1.out.trans HX.out⟩
    rw [HR.out]
    exact OwnK.nil stepK _ _ _
  · have hT2 : algB p d ts = true := by
      simp only [Bool.and_eq_true] at hT
      exact hT.1
    have hP1 : envB p d xs = true := by
      simp only [Bool.and_eq_true] at hT
      exact hT.2
    obtain ⟨hh, -⟩ := algB_true.1 hT2
    obtain ⟨hpp, hd0, hd1, htl, hrs⟩ := headB_true hh
    obtain ⟨p2, p7⟩ := prime_bounds hpp
    obtain ⟨D, hD⟩ : ∃ D : Nat, d = D := ⟨d.toNat, by omega⟩
    subst hD
    have HTl := hidP htl
    have HRs := hidP hrs
    clear htl hrs hh hpp
    rw [hT] at HAk
    have HL := hidP (fun w' (hx : Ext w1 w') => l11Ok_any p (D : Int) ta tn tc a' n' c' ys w' (H'.out.below hx).terms (by omega) (by omega) (by omega) (by omega) (by omega))
    cases hQ : envB p D ys
    · have HR : Hid (addRE p (D : Int) ts q xs ys = (false, [])) := by
        show _ = _
        unfold addRE
        rw [hT, hQ]
        rfl
      rw [hQ] at HL
      clear hT hT2 hP1 hQ
      go_enter Tryz.func20, Tryz.ntmps20
      go_wp2_with fail
      rw [← hw1]
      clear hw1
      refine HAk.out.mono ?_
      rintro e w2 ⟨rfl, hx⟩
      obtain ⟨g0, g1, g2⟩ := HC.out w2 hx
      have HX := hidP hx
      clear hx f0 f1 f2
      go_wp2_with fail
      refine (HL.out _ HX.out).mono ?_
      rintro e w3 ⟨rfl, hx⟩
      have HX3 := hidP (HX.out.trans hx)
      clear hx g0 g1 g2
      go_wp2
      refine bodyPost_ret (v := .tuple #[.slice none 0 0, .bool false]) (by simp [results, Tryz.results20, go_sem]) rfl ?_
      refine ⟨none, 0, 0, [], by rw [HR.out], ?_, HX1.out.trans HX3.out⟩
      rw [HR.out]
      exact OwnK.nil stepK _ _ _
    · have HU := hidP (envB_iff.1 hP1)
      have HV := hidP (envB_iff.1 hQ)
      rw [hQ] at HL
      have hnl := H.out.len
      have hnl' := H'.out.len
      have hu3 := HU.out.len
      have hv3 := HV.out.len
      have HR2 : Hid (addRE p (D : Int) ts q xs ys = giveR (putsM p [] (joinE p q xs ys))) := by
        show _ = _
        unfold addRE
        rw [hT, hQ]
        rfl
      clear hT hT2 hP1 hQ
      have HJn := hidP (fun w' (hx : Ext w1 w') => l11Join_any p a n c xs q a' n' c' ys w' (H.out.below hx) (H'.out.below hx) (by omega) (by omega) p2 p7 (fun k hk => by
        have h1 := HU.out.at (k := k) (by omega)
        have h2 := (wordB_parts.1 h1.1).1
        omega) (fun k hk => by
        have h1 := HV.out.at (k := k) (by omega)
        have h2 := (wordB_parts.1 h1.1).1
        omega))
      go_enter Tryz.func20, Tryz.ntmps20
      go_wp2_with fail
      rw [← hw1]
      clear hw1
      refine HAk.out.mono ?_
      rintro e w2 ⟨rfl, hx⟩
      obtain ⟨g0, g1, g2⟩ := HC.out w2 hx
      have HX := hidP hx
      clear hx f0 f1 f2
      go_wp2_with fail
      refine (HL.out _ HX.out).mono ?_
      rintro e w3 ⟨rfl, hx⟩
      have HY3 := hidP (HX.out.trans hx)
      have HX3 := hidP (HX1.out.trans (HX.out.trans hx))
      clear hx g0 g1 g2
      have hE : Ext w3 w3.drew := Ext.drew w3
      go_wp2
      (refine walkR_start (fun w' => Ext w3 w') 10 (by kernel_rfl) ?_; simp only [numbered, List.take_succ_cons, List.take_zero, Nat.zero_add, Nat.reduceAdd, List.length_cons, List.length_nil])
      (repeat (first | (refine walkR_still (v := ?_) rfl (by decide +kernel) rfl (fun _ _ _ h => h) hE ?_ ?_; rotate_left; (focus (intro w' hw'; obtain ⟨g0, g1, g2⟩ := HC.out w' (HY3.out.trans hw'); go_simp; all_goals (with_reducible rfl))); simp only [Act.put, List.setIfInBounds_toArray, List.set_cons_zero, List.set_cons_succ]) | (refine walkR_skip rfl (by decide +kernel) rfl (fun _ _ _ h => h) hE ?_; simp only [Act.put, List.setIfInBounds_toArray, List.set_cons_zero, List.set_cons_succ])))
      (refine walkR_only (fun w' => Ext w3 w') rfl (by decide +kernel) rfl (fun _ h => h) ?_; intro K hK; go_simp; refine (HJn.out _ (HY3.out.trans hE)).mono ?_; rintro e w4 ⟨g4, q4, c4, hs4, rfl, ho4, hx4⟩; refine hK _ _ (hE.trans hx4) ?_; clear hK K; (try simp only [Act.put, List.setIfInBounds_toArray, List.set_cons_zero, List.set_cons_succ]))
      have hE4 := hE.trans hx4
      obtain ⟨T, hTT⟩ : ∃ T, T = putsM p [] (joinE p q xs ys) := ⟨_, rfl⟩
      have hcn := norm_count (p := p) (d := D) (by omega) (l := T) (by rw [hTT]; exact (NormM.nil p).puts (by omega) _) (fun q hq => by
        rw [hTT] at hq
        rcases mem_putsM _ hq with ⟨s, hs, _⟩ | ⟨s, hs, e⟩
        · simp at hs
        · rw [← e]; exact (joinE_word HU.out HV.out) s hs)
      have heb : envB p D T = decide (T.length ≤ 300) := by rw [hTT]; exact envB_puts (by omega) (joinE_word HU.out HV.out)
      rw [← hTT] at ho4
      have hl4 := ho4.xl
      have HGv := hidP (l11Give_any p D ta tn tc (some ⟨g4, 0, none⟩) q4 c4 T w4 ho4.stepsAt.terms (by omega) (by omega) p7 (by omega) (by omega))
      rw [heb] at HGv
      have HO4 := hidP (ho4.weaken (B' := w.heap.size) (Nat.le_trans HX3.out.size hE.size) (Nat.le_refl _))
      have HR3 : Hid (addRE p (D : Int) ts q xs ys = giveR T) := by show _ = _; rw [HR2.out, ← hTT]
      clear ho4 hx4 hE heb hcn
      by_cases hb : T.length ≤ 300
      · rw [decide_eq_true hb, if_pos rfl] at HGv
        have hJ : Hid (addRE p (D : Int) ts q xs ys = (true, T)) := by
          show _ = _
          rw [HR3.out]
          exact if_pos hb
        (refine walkR_only (fun w' => Ext w3 w') rfl (by decide +kernel) rfl (fun _ h => h) ?_; intro K hK; go_simp; refine (HGv.out).mono ?_; rintro e w5 ⟨rfl, hx5⟩; refine hK _ _ (hE4.trans hx5) ?_; clear hK K; (try simp only [Act.put, List.setIfInBounds_toArray, List.set_cons_zero, List.set_cons_succ]))
        have hE5 := hE4.trans hx5
        (repeat (first | (refine walkR_still (v := ?_) rfl (by decide +kernel) rfl (fun _ _ _ h => h) hE5 ?_ ?_; rotate_left; (focus (intro w' hw'; skip; go_simp; all_goals (with_reducible rfl))); simp only [Act.put, List.setIfInBounds_toArray, List.set_cons_zero, List.set_cons_succ]) | (refine walkR_skip rfl (by decide +kernel) rfl (fun _ _ _ h => h) hE5 ?_; simp only [Act.put, List.setIfInBounds_toArray, List.set_cons_zero, List.set_cons_succ])))
        (refine walkR_tail (by rfl) (by kernel_rfl) ?_; simp only [List.drop_succ_cons, List.drop_zero])
        have HX5 := hidP (HX3.out.trans hE5)
        have HO5 := hidP ((HO4.out.below hx5).weaken (Nat.le_refl _) hx5.size)
        clear hx5 hE4 hE5 hTT
        go_wp2
        refine bodyPost_ret (v := .tuple #[.slice (some ⟨g4, 0, none⟩) q4 c4, .bool true]) (by simp [results, Tryz.results20, go_sem]) rfl ?_
        have hO : OwnK stepK w5 w.heap.size w5.heap.size (some ⟨g4, 0, none⟩) q4 c4 hs4 (addRE p (D : Int) ts q xs ys).2 := by
          rw [hJ.out]
          exact HO5.out
        first | exact ⟨some ⟨g4, 0, none⟩, q4, c4, hs4, by rw [hJ.out], hO, HX5.out⟩ | exact ⟨some ⟨g4, 0, none⟩, q4, c4, by rw [hJ.out], ⟨hs4, hO⟩, HX5.out⟩
      · rw [decide_eq_false hb, if_neg Bool.false_ne_true] at HGv
        have hJ : Hid (addRE p (D : Int) ts q xs ys = (false, [])) := by
          show _ = _
          rw [HR3.out]
          exact if_neg hb
        (refine walkR_only (fun w' => Ext w3 w') rfl (by decide +kernel) rfl (fun _ h => h) ?_; intro K hK; go_simp; refine (HGv.out).mono ?_; rintro e w5 ⟨rfl, hx5⟩; refine hK _ _ (hE4.trans hx5) ?_; clear hK K; (try simp only [Act.put, List.setIfInBounds_toArray, List.set_cons_zero, List.set_cons_succ]))
        have hE5 := hE4.trans hx5
        (repeat (first | (refine walkR_still (v := ?_) rfl (by decide +kernel) rfl (fun _ _ _ h => h) hE5 ?_ ?_; rotate_left; (focus (intro w' hw'; skip; go_simp; all_goals (with_reducible rfl))); simp only [Act.put, List.setIfInBounds_toArray, List.set_cons_zero, List.set_cons_succ]) | (refine walkR_skip rfl (by decide +kernel) rfl (fun _ _ _ h => h) hE5 ?_; simp only [Act.put, List.setIfInBounds_toArray, List.set_cons_zero, List.set_cons_succ])))
        (refine walkR_tail (by rfl) (by kernel_rfl) ?_; simp only [List.drop_succ_cons, List.drop_zero])
        have HX5 := hidP (HX3.out.trans hE5)
        clear hx5 hE4 hE5 hTT
        go_wp2
        refine bodyPost_ret (v := .tuple #[.slice none 0 0, .bool false]) (by simp [results, Tryz.results20, go_sem]) rfl ?_
        have hO : OwnK stepK w5 w.heap.size w5.heap.size none 0 0 [] (addRE p (D : Int) ts q xs ys).2 := by
          rw [hJ.out]
          exact OwnK.nil stepK _ _ _
        first | exact ⟨none, 0, 0, [], by rw [hJ.out], hO, HX5.out⟩ | exact ⟨none, 0, 0, by rw [hJ.out], ⟨[], hO⟩, HX5.out⟩
end Go.Proofs.YtcfgcacmmmhjcaaGreatDoor

namespace Go.Proofs.YtcfgcacmmmhjcaaGreatDoor
open Go.RowKit

set_option maxRecDepth 100000 in
set_option maxHeartbeats 4000000 in
theorem addEnv_any (p d : Int) (ta : Option Addr) (tn tc : Nat) (ts : List Int) (a : Option Addr) (n c : Nat) (xs : List Tm) (q : Int) (a' : Option Addr) (n' c' : Nat) (ys : List Tm) (w : World) (hc : IntsAt w ta tn ts) (h : StepsAt w a n xs) (h' : StepsAt w a' n' ys)
    (htc : tn ≤ tc) (htc2 : tc ≤ 1000000000000) (hn : n ≤ 1000000000000) (hn' : n' ≤ 1000000000000) (_hm : MaxL w) (ht : Tab w) :
    EnvRes 22 #[algV p d ta tn tc, .slice a n c, .int .i64 q, .slice a' n' c'] w (addRE p d ts q xs ys) := by
  unfold EnvRes
  have hx1 := Ext.alloc w (.cells #[.int .i64 p, .int .i64 d, .slice ta tn tc] 28)
  have HC := hidP (fun w' (hx : Ext (w.alloc (.cells #[.int .i64 p, .int .i64 d, .slice ta tn tc] 28)) w') => (AlgAt.new w _ rfl p d ta tn tc 28).below hx)
  have HX1 := hidP hx1
  have H := hidP (h.below hx1)
  have H' := hidP (h'.below hx1)
  have HTs := hidP (hc.below hx1)
  have HAk := hidP (envOk_any p d ta tn tc ts a n c xs _ (hc.below hx1) htc htc2 (h.below hx1).terms hn)
  have HTb := hidP (ht.below hx1)
  have hs1 : w.heap.size ≤ (w.alloc (.cells #[.int .i64 p, .int .i64 d, .slice ta tn tc] 28)).heap.size := hx1.size
  clear hc h h' hx1 ht
  obtain ⟨w1, hw1⟩ : ∃ w1, w1 = w.alloc (.cells #[.int .i64 p, .int .i64 d, .slice ta tn tc] 28) := ⟨_, rfl⟩
  rw [← hw1] at HC HX1 H H' HTs HAk hs1 HTb
  have HS1 := hidP hs1
  clear hs1
  obtain ⟨f0, f1, f2⟩ := HC.out w1 (Ext.refl w1)
  cases hT : (algB p d ts && envB p d xs)
  · have HR : Hid (addRE p d ts q xs ys = (false, [])) := by
      show _ = _
      unfold addRE
      rw [hT]
      rfl
    rw [hT] at HAk
    clear hT
    go_enter Tryz.func22, Tryz.ntmps22
    go_wp2_with fail
    rw [← hw1]
    clear hw1
    refine HAk.out.mono ?_
    rintro e w2 ⟨rfl, hx⟩
    have HX := hidP hx
    clear hx
    go_wp2
    refine bodyPost_ret (v := .tuple #[.slice none 0 0, .bool false]) (by simp [results, Tryz.results22, go_sem]) rfl ?_
    refine ⟨none, 0, 0, [], by rw [HR.out], ?_, HX1.out.trans HX.out⟩
    rw [HR.out]
    exact OwnK.nil stepK _ _ _
  · have hT2 : algB p d ts = true := by
      simp only [Bool.and_eq_true] at hT
      exact hT.1
    have hP1 : envB p d xs = true := by
      simp only [Bool.and_eq_true] at hT
      exact hT.2
    obtain ⟨hh, -⟩ := algB_true.1 hT2
    obtain ⟨hpp, hd0, hd1, htl, hrs⟩ := headB_true hh
    obtain ⟨p2, p7⟩ := prime_bounds hpp
    obtain ⟨D, hD⟩ : ∃ D : Nat, d = D := ⟨d.toNat, by omega⟩
    subst hD
    have HTl := hidP htl
    have HRs := hidP hrs
    clear htl hrs hh hpp
    rw [hT] at HAk
    have HL := hidP (fun w' (hx : Ext w1 w') => envOk_any p (D : Int) ta tn tc ts a' n' c' ys w' (HTs.out.below hx) htc htc2 (H'.out.below hx).terms (by omega))
    cases hQ : envB p D ys
    · have HR : Hid (addRE p (D : Int) ts q xs ys = (false, [])) := by
        show _ = _
        unfold addRE
        rw [hT, hQ]
        rfl
      rw [hT2, hQ, Bool.true_and] at HL
      clear hT hT2 hP1 hQ
      go_enter Tryz.func22, Tryz.ntmps22
      go_wp2_with fail
      rw [← hw1]
      clear hw1
      refine HAk.out.mono ?_
      rintro e w2 ⟨rfl, hx⟩
      obtain ⟨g0, g1, g2⟩ := HC.out w2 hx
      have HX := hidP hx
      clear hx f0 f1 f2
      go_wp2_with fail
      refine (HL.out _ HX.out).mono ?_
      rintro e w3 ⟨rfl, hx⟩
      have HX3 := hidP (HX.out.trans hx)
      clear hx g0 g1 g2
      go_wp2
      refine bodyPost_ret (v := .tuple #[.slice none 0 0, .bool false]) (by simp [results, Tryz.results22, go_sem]) rfl ?_
      refine ⟨none, 0, 0, [], by rw [HR.out], ?_, HX1.out.trans HX3.out⟩
      rw [HR.out]
      exact OwnK.nil stepK _ _ _
    · have HU := hidP (envB_iff.1 hP1)
      have HV := hidP (envB_iff.1 hQ)
      rw [hT2, hQ, Bool.true_and] at HL
      have hnl := H.out.len
      have hnl' := H'.out.len
      have hu3 := HU.out.len
      have hv3 := HV.out.len
      have HR2 : Hid (addRE p (D : Int) ts q xs ys = giveR (putsM p [] (joinE p q xs ys))) := by
        show _ = _
        unfold addRE
        rw [hT, hQ]
        rfl
      clear hT hT2 hP1 hQ
      go_enter Tryz.func22, Tryz.ntmps22
      go_wp2_with fail
      rw [← hw1]
      clear hw1
      refine HAk.out.mono ?_
      rintro e w2 ⟨rfl, hx⟩
      obtain ⟨g0, g1, g2⟩ := HC.out w2 hx
      have HX := hidP hx
      clear hx f0 f1 f2
      go_wp2_with fail
      refine (HL.out _ HX.out).mono ?_
      rintro e w3 ⟨rfl, hx⟩
      have HY3 := hidP (HX.out.trans hx)
      have HX3 := hidP (HX1.out.trans (HX.out.trans hx))
      obtain ⟨g0, g1, g2⟩ := HC.out w3 HY3.out
      have HN := hidP (newEnv_any p D ta tn tc w3)
      clear hx
      go_wp2_with fail
      refine HN.out.mono ?_
      rintro e w4 ⟨b, rfl, hC4, hb4, hx4⟩
      have hx5 := Ext.alloc w4 (.cells #[.int .i64 p, .int .i64 (D : Int), .slice ta tn tc, .map (some b), .map (some (b + 1))] 56)
      have HX5 := hidP (HX3.out.trans (hx4.trans hx5))
      have HY5 := hidP (HY3.out.trans (hx4.trans hx5))
      have HC5 : Hid (Counts (w4.alloc (.cells #[.int .i64 p, .int .i64 (D : Int), .slice ta tn tc, .map (some b), .map (some (b + 1))] 56)) b (b + 1) 0 (gM p []) (fun _ => none) (fun _ => none)) := by
        show Counts _ _ _ _ _ _ _
        rw [show gM p [] = fun _ => 0 from funext fun x => by simp [gM, cntSum]]
        exact hC4.below hx5
      have HA5 := hidP (EnvAt.new w4 _ rfl p D ta tn tc b (b + 1) 56)
      have HCr5 := hidP (HC.out _ HY5.out)
      have HB : Hid (w.heap.size ≤ b) := Nat.le_trans HX3.out.size hb4
      have HB1 : Hid (w1.heap.size ≤ b) := Nat.le_trans HY3.out.size hb4
      obtain ⟨w5, hw5⟩ : ∃ w5, w5 = w4.alloc (.cells #[.int .i64 p, .int .i64 (D : Int), .slice ta tn tc, .map (some b), .map (some (b + 1))] 56) := ⟨_, rfl⟩
      rw [← hw5] at HX5 HC5 HA5 HY5 HCr5
      obtain ⟨bk, hbk⟩ : ∃ bk, bk = w4.heap.size := ⟨_, rfl⟩
      rw [← hbk] at HA5
      clear hC4 hb4 hx4 hx5 HN g0 g1 g2
      have HAd := hidP (envAddAll_any p D ta tn tc b (b + 1) 0 [] _ _ a n c xs 1 w5 HC5.out (H.out.below HY5.out) (by omega) (by omega) p2 p7 (by omega) (by omega) (fun k hk => by
        have h1 := HU.out.at (k := k) (by omega)
        have h2 := wordB_parts.1 h1.1
        exact ⟨wordB_key (by omega) h2.2.1 h2.1, by omega, by omega⟩) (HTb.out.below HY5.out))
      obtain ⟨z0, z1, z2, z3, z4⟩ := HA5.out
      go_wp2_with fail
      first | rw [← hw5] | skip
      simp only [← hbk]
      clear hw5 hbk
      refine HAd.out.mono ?_
      rintro e w6 ⟨rfl, ⟨f1, f2, hC6⟩, hx6⟩
      have hm1 := HC5.out.m1.is
      have hm2 := HC5.out.m2.is
      have HA6 := hidP (HA5.out.extM hx6 hm1 hm2)
      have HX6 : Hid (Ext w w6) := hidP (hx6.below HX5.out HB.out (Nat.le_succ_of_le HB.out) HX5.out.size)
      have HY6 : Hid (Ext w1 w6) := hidP (hx6.below HY5.out HB1.out (Nat.le_succ_of_le HB1.out) HY5.out.size)
      rw [List.nil_append] at hC6
      have hm0 := Int.emod_nonneg q (show p ≠ 0 by omega)
      have hm1' := Int.emod_lt_of_pos q (show 0 < p by omega)
      have HMd := hidP (fun w' => mod_any q p w' (by omega) (by omega))
      have HJg := hidP (gM_join p q xs ys)
      obtain ⟨v, hv⟩ : ∃ v, v = q % p := ⟨_, rfl⟩
      rw [← hv] at HMd hm0 hm1' HJg
      clear hv
      have HAd2 := hidP (fun w' (hx : Ext w6 w') => envAddAll_any p D ta tn tc b (b + 1) (0 + n) (scaleM p 1 xs) f1 f2 a' n' c' ys v w' (hC6.below hx) (H'.out.below (HY6.out.trans hx)) (by omega) (by omega) p2 p7 hm0 hm1' (fun k hk => by
        have h1 := HV.out.at (k := k) (by omega)
        have h2 := wordB_parts.1 h1.1
        exact ⟨wordB_key (by omega) h2.2.1 h2.1, by omega, by omega⟩) (HTb.out.below (HY6.out.trans hx)))
      have HM1 := hidP (fun w' (hx : Ext w6 w') => (hC6.below hx).m1.is)
      have HM2 := hidP (fun w' (hx : Ext w6 w') => (hC6.below hx).m2.is)
      clear hC6 hx6 hm1 hm2 z0 z1 z2 z3 z4 HAd
      have hE : Ext w6 w6.drew := Ext.drew w6
      go_wp2
      (refine walkR_start (fun w' => Ext w6 w') 6 (by kernel_rfl) ?_; simp only [numbered, List.take_succ_cons, List.take_zero, Nat.zero_add, Nat.reduceAdd, List.length_cons, List.length_nil])
      (repeat (first | (refine walkR_still (v := ?_) rfl (by decide +kernel) rfl (fun _ _ _ h => h) hE ?_ ?_; rotate_left; (focus (intro w' hw'; obtain ⟨z0, z1, z2, z3, z4⟩ := HA6.out.below hw'; obtain ⟨g0, g1, g2⟩ := HC.out w' (HY6.out.trans hw'); go_simp; all_goals (with_reducible rfl))); simp only [Act.put, List.setIfInBounds_toArray, List.set_cons_zero, List.set_cons_succ]) | (refine walkR_skip rfl (by decide +kernel) rfl (fun _ _ _ h => h) hE ?_; simp only [Act.put, List.setIfInBounds_toArray, List.set_cons_zero, List.set_cons_succ])))
      (refine walkR_only (fun w' => Ext w6 w') rfl (by decide +kernel) rfl (fun _ h => h) ?_; intro K hK; go_simp; refine (HMd.out _).mono ?_; rintro e w' ⟨rfl, rfl⟩; refine hK _ _ (hE) ?_; clear hK K; (try simp only [Act.put, List.setIfInBounds_toArray, List.set_cons_zero, List.set_cons_succ]))
      (repeat (first | (refine walkR_still (v := ?_) rfl (by decide +kernel) rfl (fun _ _ _ h => h) hE ?_ ?_; rotate_left; (focus (intro w' hw'; skip; go_simp; all_goals (with_reducible rfl))); simp only [Act.put, List.setIfInBounds_toArray, List.set_cons_zero, List.set_cons_succ]) | (refine walkR_skip rfl (by decide +kernel) rfl (fun _ _ _ h => h) hE ?_; simp only [Act.put, List.setIfInBounds_toArray, List.set_cons_zero, List.set_cons_succ])))
      have HAd3 := hidP (HAd2.out _ hE)
      have HM12 := hidP (HM1.out _ hE)
      have HM22 := hidP (HM2.out _ hE)
      have HA7 := hidP (HA6.out.below hE)
      have HX7 := hidP (HX6.out.trans hE)
      clear hE HAd2 HM1 HM2
      (refine walkR_tail (by rfl) (by kernel_rfl) ?_; simp only [List.drop_succ_cons, List.drop_zero])
      go_wp2_with fail
      refine HAd3.out.mono ?_
      rintro e w7 ⟨rfl, ⟨f1, f2, hC7⟩, hx7⟩
      rw [HJg.out] at hC7
      have HA8 := hidP (HA7.out.extM hx7 HM12.out HM22.out)
      have HX8 : Hid (Ext w w7) := hidP (hx7.below HX7.out HB.out (Nat.le_succ_of_le HB.out) HX7.out.size)
      have hjl := putsM_length p (joinE p q xs ys) []
      have hjl2 : (joinE p q xs ys).length = xs.length + ys.length := by simp [joinE]
      simp only [List.length_nil] at hjl
      have HCh := hidP (envChecked_any p D ta tn tc b (b + 1) _ (joinE p q xs ys) f1 f2 w7 hC7 (by omega) (by omega))
      rw [← HR2.out] at HCh
      unfold EnvRes at HCh
      clear hC7 hx7 hjl hjl2
      obtain ⟨z0, z1, z2, z3, z4⟩ := HA8.out
      go_wp2_with fail
      refine HCh.out.mono ?_
      rintro e w8 ⟨a8, n8, c8, hs8, rfl, ho8, hx8⟩
      have HO8 := hidP (ho8.weaken (B' := w.heap.size) HX8.out.size (Nat.le_refl _))
      have HX9 := hidP (HX8.out.trans hx8)
      clear ho8 hx8
      go_wp2
      refine bodyPost_ret (v := .tuple #[.slice a8 n8 c8, .bool (addRE p (D : Int) ts q xs ys).1]) (by simp [results, Tryz.results22, go_sem]) rfl ⟨a8, n8, c8, hs8, rfl, HO8.out, HX9.out⟩
end Go.Proofs.YtcfgcacmmmhjcaaGreatDoor
