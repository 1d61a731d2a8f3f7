/-
  The program's AntipodeOf; signs; degrees.
  The reference's AntipodeOf.
-/
import Derived.Test.YtcfgcacmmmhjcaaGreatDoorEnvX2
import Derived.Test.YtcfgcacmmmhjcaaGreatDoorEnvY2
namespace Go.Proofs.YtcfgcacmmmhjcaaGreatDoor
open Go.RowKit

theorem degE_bound {M : Nat} : ∀ (us : List Tm) (m : Nat), m ≤ M → (∀ q ∈ us, q.1.length ≤ M) → us.foldl (fun n q => max n q.1.length) m ≤ M
  | [], _, h, _ => h
  | t :: us, m, h, hu => degE_bound us (max m t.1.length) (by have := hu t (by simp); omega) fun q hq => hu q (by simp [hq])
theorem sign_any (n : Nat) (w : World) (hn : n ≤ 6) : Calls Tryz.prog 53 #[.int .i64 n] w fun e w' => e = .returned (.int .i64 (if n % 2 = 1 then -1 else 1)) ∧ w = w' := by
  have hb : wrap64 (1 - wrap64 (2 * bits BinOp.and IntKind.i64 (n : Int) 1)) = if n % 2 = 1 then -1 else 1 := by
    have h : n = 0 ∨ n = 1 ∨ n = 2 ∨ n = 3 ∨ n = 4 ∨ n = 5 ∨ n = 6 := by omega
    rcases h with rfl | rfl | rfl | rfl | rfl | rfl | rfl <;> decide +kernel
  have HB := hidP hb
  clear hb
  generalize (if n % 2 = 1 then (-1 : Int) else 1) = s at HB ⊢
  go_enter Tryz.func53, Tryz.ntmps53
  go_wp2
  go_ret
  exact ⟨ret_int HB.out, rfl⟩
set_option maxHeartbeats 2000000 in
theorem degreeOf_any (a : Option Addr) (n c : Nat) (us : List Tm) (w : World) (h : StepsAt w a n us) (hn : n ≤ 1000000) (hw : ∀ k, k < n → (wayAt us k).length ≤ 1000000) :
    Calls Tryz.prog 56 #[.slice a n c] w fun e w' => e = .returned (.int .i64 (degE us)) ∧ Ext w w' := by
  have H := hidP h
  have HW := hidP hw
  have hnl := h.len
  have HB : Hid (∀ k, degE (us.take k) ≤ 1000000) := fun k => by
    refine degE_bound _ _ (Nat.zero_le _) fun q hq => ?_
    obtain ⟨i, hi, rfl⟩ := List.mem_iff_getElem.1 (List.mem_of_mem_take hq)
    have := hw i (by omega)
    unfold wayAt at this
    rwa [getTm hi] at this
  clear h hw
  go_enter Tryz.func56, Tryz.ntmps56
  go_wp2
  go_loopw [3, 8] (fun s i wr => ∃ k : Nat, k ≤ n ∧ i = .int .i64 k ∧ s = .int .i64 (degE (us.take k)) ∧ Hid (Ext w wr)) (fun _ i _ => n - (intOf i).toNat)
  case atStart => exact ⟨0, Nat.zero_le _, rfl, rfl, Ext.refl _⟩
  case round =>
    obtain ⟨k, hk, rfl, rfl, HX⟩ := hrel
    have hdb := HB.out k
    by_cases hlt : k < n
    · obtain ⟨b0, o, aw, cw, W, Ln, rfl, HWy, HL, hwl, HNl, hq⟩ := (H.out.below HX.out).way k hlt
      obtain ⟨q1, q2, _⟩ := hq wr (Ext.refl wr)
      have HD : Hid (degE (us.take (k + 1)) = max (degE (us.take k)) W.length) := by
        show _ = _
        rw [List.take_succ_eq_append_getElem (by omega), degE_snoc, ← HWy.out]
        unfold wayAt
        rw [getTm (by omega)]
      have hx2 := hidP (HX.out.trans (Ext.alloc wr (.cells #[.slice aw W.length cw, .int .i64 Ln] 62)))
      obtain ⟨q3, q4⟩ := StpAt.new wr _ rfl aw W.length cw Ln 62
      clear hq
      generalize degE (us.take k) = D at *
      go_wp2
      go_roundw
      case rel => exact ⟨k + 1, by omega, by go_num, congrArg (Value.int .i64) (by rw [HD.out]; omega), hx2.out⟩
      case measure => simp [intOf]; omega
    · obtain rfl : k = n := by omega
      have HT : Hid (us.take k = us) := List.take_of_length_le (by omega)
      rw [HT.out]
      go_wp2
      go_ret
      exact ⟨rfl, HX.out⟩
theorem algB_dim' {p d : Int} {t : List Int} (h : algB p d t = true) : ∃ D : Nat, d = D ∧ 0 < p := by
  obtain ⟨hh, _⟩ := algB_true.1 h
  obtain ⟨hpp, hd0, _⟩ := headB_true hh
  obtain ⟨p2, _⟩ := prime_bounds hpp
  exact ⟨d.toNat, by omega, by omega⟩
/-- what a checked algebra is -/
theorem algB_parts {p : Int} {D : Nat} {tn : Nat} {ts : List Int} (h : algB p (D : Int) ts = true) (hl : ts.length = tn) : 2 ≤ p ∧ p ≤ 10007 ∧ D ≤ 28 ∧ tn = D * D * D ∧ Res p ts := by
  obtain ⟨hh, -⟩ := algB_true.1 h
  obtain ⟨hpp, hd0, hd1, htl, hrs⟩ := headB_true hh
  obtain ⟨p2, p7⟩ := prime_bounds hpp
  refine ⟨p2, p7, by omega, ?_, hrs⟩
  rw [hl] at htl
  have : ((tn : Nat) : Int) = ((D * D * D : Nat) : Int) := by rw [htl]; simp
  omega
theorem antN_mod {p : Int} {W : List Int} {M : Int} (h0 : 0 < M) (h1 : M < p) : (if W.length % 2 = 1 then (-1 : Int) else 1) * M % p = antN p (W, M) := by
  unfold antN
  split
  · have h := Int.emod_eq_of_lt (a := -M + p) (b := p) (by omega) (by omega)
    rw [Int.neg_one_mul, ← Int.add_emod_right, h]
    show -M + p = p - M
    omega
  · rw [Int.one_mul]
    exact Int.emod_eq_of_lt (by omega) h1
set_option maxRecDepth 100000 in
set_option maxHeartbeats 4000000 in
theorem antipodeOf_any (p d : Int) (ta : Option Addr) (tn tc : Nat) (ts : List Int) (a : Option Addr) (n c : Nat) (xs : List Tm) (w : World) (hc : IntsAt w ta tn ts) (h : StepsAt w a n xs)
    (htc : tn ≤ tc) (htc2 : tc ≤ 1000000000000) (hn : n ≤ 1000000000000) (_hm : MaxL w) (ht : Tab w) :
    EnvRes 24 #[algV p d ta tn tc, .slice a n c] w (antR p d ts xs) := by
  unfold EnvRes
  have hx1 := Ext.alloc w (.cells #[.int .i64 p, .int .i64 d, .slice ta tn tc] 28)
  have HC := hidP (fun w' (hx : Ext (w.alloc (.cells #[.int .i64 p, .int .i64 d, .slice ta tn tc] 28)) w') => (AlgAt.new w _ rfl p d ta tn tc 28).below hx)
  have HX1 := hidP hx1
  have H := hidP (h.below hx1)
  have HTs := hidP (hc.below hx1)
  have htl := hc.len
  have HAk := hidP (envOk_any p d ta tn tc ts a n c xs _ (hc.below hx1) htc htc2 (h.below hx1).terms hn)
  have HTb := hidP (ht.below hx1)
  have hs1 : w.heap.size ≤ (w.alloc (.cells #[.int .i64 p, .int .i64 d, .slice ta tn tc] 28)).heap.size := hx1.size
  clear hc h hx1 ht
  obtain ⟨w1, hw1⟩ : ∃ w1, w1 = w.alloc (.cells #[.int .i64 p, .int .i64 d, .slice ta tn tc] 28) := ⟨_, rfl⟩
  rw [← hw1] at HC HX1 H HTs HAk hs1 HTb
  have HS1 := hidP hs1
  clear hs1
  obtain ⟨f0, f1, f2⟩ := HC.out w1 (Ext.refl w1)
  cases hT : (algB p d ts && envB p d xs)
  · have HR : Hid (antR p d ts xs = (false, [])) := by
      show _ = _
      unfold antR
      rw [hT]
      rfl
    rw [hT] at HAk
    clear hT
    go_enter Tryz.func24, Tryz.ntmps24
    go_wp2_with fail
    rw [← hw1]
    clear hw1
    refine HAk.out.mono ?_
    rintro e w2 ⟨rfl, hx⟩
    have HX := hidP hx
    clear hx
    go_wp2
    refine bodyPost_ret (v := .tuple #[.slice none 0 0, .bool false]) (by simp [results, Tryz.results24, go_sem]) rfl ?_
    refine ⟨none, 0, 0, [], by rw [HR.out], ?_, HX1.out.trans HX.out⟩
    rw [HR.out]
    exact OwnK.nil stepK _ _ _
  · have hT2 : algB p d ts = true := by
      simp only [Bool.and_eq_true] at hT
      exact hT.1
    have hP1 : envB p d xs = true := by
      simp only [Bool.and_eq_true] at hT
      exact hT.2
    obtain ⟨D, rfl, _⟩ := algB_dim' hT2
    obtain ⟨p2, p7, hD28, hNe, hRs⟩ := algB_parts hT2 htl
    have HU := hidP (envB_iff.1 hP1)
    have HNe := hidP hNe
    have HRs := hidP hRs
    have HTl := hidP htl
    have HR2 : Hid (antR p (D : Int) ts xs = giveR (putsM p [] (antT p D ts xs))) := by
      show _ = _
      unfold antR
      rw [hT]
      rfl
    rw [hT] at HAk
    have hnl := H.out.len
    have hu3 := HU.out.len
    clear hT hT2 hP1 hNe hRs htl
    go_enter Tryz.func24, Tryz.ntmps24
    go_wp2_with fail
    rw [← hw1]
    clear hw1
    refine HAk.out.mono ?_
    rintro e w3 ⟨rfl, hx⟩
    have HY3 := hidP hx
    have HX3 := hidP (HX1.out.trans hx)
    obtain ⟨g0, g1, g2⟩ := HC.out w3 hx
    have HN := hidP (newEnv_any p D ta tn tc w3)
    clear hx f0 f1 f2
    go_wp2_with fail
    refine HN.out.mono ?_
    rintro e w4 ⟨b, rfl, hC4, hb4, hx4⟩
    have hx5 := Ext.alloc w4 (.cells #[.int .i64 p, .int .i64 (D : Int), .slice ta tn tc, .map (some b), .map (some (b + 1))] 56)
    have HY5 := hidP (HY3.out.trans (hx4.trans hx5))
    have HC5 : Hid (∃ n' f1 f2, n' ≤ 50000000000 * 0 ∧ Counts (w4.alloc (.cells #[.int .i64 p, .int .i64 (D : Int), .slice ta tn tc, .map (some b), .map (some (b + 1))] 56)) b (b + 1) n' (gM p (antT p D ts (xs.take 0))) f1 f2) := by
      refine ⟨0, fun _ => none, fun _ => none, by omega, ?_⟩
      rw [List.take_zero, show gM p (antT p D ts []) = fun _ => 0 from funext fun x => by simp [gM, cntSum, antT]]
      exact hC4.below hx5
    have HA5 := hidP (EnvAt.new w4 _ rfl p D ta tn tc b (b + 1) 56)
    have HB : Hid (w1.heap.size ≤ b) := Nat.le_trans HY3.out.size hb4
    obtain ⟨w5, hw5⟩ : ∃ w5, w5 = w4.alloc (.cells #[.int .i64 p, .int .i64 (D : Int), .slice ta tn tc, .map (some b), .map (some (b + 1))] 56) := ⟨_, rfl⟩
    rw [← hw5] at HC5 HA5 HY5
    obtain ⟨bk, hbk⟩ : ∃ bk, bk = w4.heap.size := ⟨_, rfl⟩
    rw [← hbk] at HA5
    clear hC4 hb4 hx4 hx5 HN g0 g1 g2
    go_wp2
    first | rw [← hw5] | skip
    simp only [← hbk]
    clear hw5 hbk
    go_loopw [18] (fun i wr => ∃ k : Nat, k ≤ n ∧ i = .int .i64 k ∧ Hid (∃ n' f1 f2, n' ≤ 50000000000 * k ∧ Counts wr b (b + 1) n' (gM p (antT p D ts (xs.take k))) f1 f2) ∧ Hid (EnvAt wr bk p D ta tn tc b (b + 1)) ∧ Hid (Ext w1 wr)) (fun i _ => n - (intOf i).toNat)
    case atStart => exact ⟨0, Nat.zero_le _, rfl, HC5, HA5, HY5⟩
    case round =>
      clear HC5 HA5 HY5
      obtain ⟨k, hk, rfl, HCn, HA, HX⟩ := hrel
      by_cases hlt : k < n
      · obtain ⟨bu, o, aw, cw, W, M, rfl, HWy, HMy, hwl, HNl, hq⟩ := (H.out.below HX.out).way k hlt
        have HQ := hidP hq
        obtain ⟨q1, q2, _⟩ := hq wr (Ext.refl wr)
        have hat := HU.out.at (k := k) (by omega)
        rw [HWy.out, HMy.out] at hat
        obtain ⟨hwB, hM0, hM1⟩ := hat
        obtain ⟨hW6, hWd, _⟩ := wordB_parts.1 hwB
        have HWd := hidP hWd
        have hanr := antN_range (p := p) (q := (W, M)) ⟨hM0, hM1⟩
        have hmod := antN_mod (W := W) hM0 hM1
        have HSn : Hid (antT p D ts (xs.take (k + 1)) = antT p D ts (xs.take k) ++ strE p D ts W.reverse (antN p (W, M))) := by
          show _ = _
          rw [antT_take p D ts xs (by omega), HWy.out, HMy.out]
        obtain ⟨v, hv⟩ : ∃ v, v = antN p (W, M) := ⟨_, rfl⟩
        rw [← hv] at hanr hmod HSn
        obtain ⟨sg, hsg⟩ : ∃ sg : Int, sg = if W.length % 2 = 1 then -1 else 1 := ⟨_, rfl⟩
        rw [← hsg] at hmod
        have hsg2 : sg = -1 ∨ sg = 1 := by rw [hsg]; split <;> simp
        have HSg := hidP (sign_any W.length (hn := hW6))
        rw [← hsg] at HSg
        have hsm : -10007 ≤ sg * M ∧ sg * M ≤ 10007 := by rcases hsg2 with h | h <;> rw [h] <;> omega
        have hsw : IntKind.i64.wrap (sg * M) = sg * M := wrap_in (by omega) (by omega)
        have HMd := hidP (fun w' => mod_any (sg * M) p w' (by omega) (by omega))
        rw [hmod] at HMd
        have HA2 := hidP (Ext.alloc wr (.cells #[.slice aw W.length cw, .int .i64 M] 62))
        have HS2 := hidP (StpAt.new wr _ rfl aw W.length cw M 62)
        have HCl := hidP (clone_any aw W.length cw W (wr.alloc (.cells #[.slice aw W.length cw, .int .i64 M] 62)) (HQ.out _ HA2.out).2.2 HNl.out (by omega))
        clear hq hwB hWd hv hsg hsg2 hmod
        obtain ⟨w6, hw6⟩ : ∃ w6, w6 = wr.alloc (.cells #[.slice aw W.length cw, .int .i64 M] 62) := ⟨_, rfl⟩
        obtain ⟨bs, hbs⟩ : ∃ bs, bs = wr.heap.size := ⟨_, rfl⟩
        rw [← hw6] at HA2 HS2 HCl
        rw [← hbs] at HS2
        obtain ⟨s0, s1⟩ := HS2.out
        go_wp2_with fail
        first | rw [← hw6] | skip
        simp only [← hbs]
        clear hw6 hbs q1 q2
        refine HCl.out.mono ?_
        rintro e w7 ⟨a7, c7, rfl, ho7, hx7⟩
        have HX7 := hidP (HA2.out.trans hx7)
        have HS7 := hidP (HS2.out.below hx7)
        have hsz : wr.heap.size ≤ w6.heap.size := HA2.out.size
        have HRv := hidP (reverse_any ho7 (by omega))
        clear ho7 hx7 s0 s1
        go_wp2_with fail
        refine HRv.out.mono ?_
        rintro e w8 ⟨rfl, ho8, hx8⟩
        have HX8 : Hid (Ext wr w8) := Below.trans HX7.out (Below.mono hx8 hsz)
        have hbl := World.block_lt_of_cell? w6 _ HS2.out.c0
        have HS8 : Hid (StpAt w8 bs aw W.length cw M) := ⟨(World.cell?_of_block (a := ⟨bs, 0, none⟩) (hx8.block _ hbl)).trans HS7.out.c0, (World.cell?_of_block (a := ⟨bs, 1, none⟩) (hx8.block _ hbl)).trans HS7.out.c1⟩
        have HO8 := hidP ho8
        have HA8 := hidP (HA.out.below HX8.out)
        have HY8 := hidP (HX.out.trans HX8.out)
        obtain ⟨n1, f11, f21, hn1, hC1⟩ := HCn.out
        have hlv := strT_leaves D (rowE D ts) p hD28 112 W.reverse v (by rw [List.length_reverse]; exact hW6)
        have HAd := hidP (fun w' (hx : Ext w8 w') => addProduct_any p D ta tn tc ts b (b + 1) hD28 HNe.out htc htc2 p2 p7 HRs.out 112 n1 (antT p D ts (xs.take k)) f11 f21 a7 W.length c7 W.reverse v w' (fuel_ok (by rw [List.length_reverse]; exact hW6)) (hC1.below (HX8.out.trans hx)) (HO8.out.below hx).ints HO8.out.nilc HO8.out.room2 HWd.out.rev (by rw [List.length_reverse]; exact hW6) hanr.1 hanr.2 (by omega) (HTs.out.below (HY8.out.trans hx)) (HTb.out.below (HY8.out.trans hx)))
        have HM1 := hidP (fun w' (hx : Ext w8 w') => (hC1.below (HX8.out.trans hx)).m1.is)
        have HM2 := hidP (fun w' (hx : Ext w8 w') => (hC1.below (HX8.out.trans hx)).m2.is)
        have HBn := hidP (show n1 + (strT D (rowE D ts) p 112 W.reverse v).length ≤ 50000000000 * (k + 1) by omega)
        have HG := hidP (fun w' (hx : Ext w8 w') => HC.out w' (HY8.out.trans hx))
        have hE : Ext w8 w8.drew := Ext.drew w8
        clear HCn hn1 hC1 hlv hbl hsz hx8 ho8
        go_wp2
        (refine walkR_start (fun w' => Ext w8 w') 11 (by kernel_rfl) ?_; simp only [numbered, List.take_succ_cons, List.take_zero, Nat.zero_add, Nat.reduceAdd, List.length_cons, List.length_nil])
        (repeat (first | (refine walkR_still (v := ?_) rfl (by decide +kernel) rfl (fun _ _ _ h => h) hE ?_ ?_; rotate_left; (focus (intro w' hw'; obtain ⟨z0, z1, z2, z3, z4⟩ := HA8.out.below hw'; obtain ⟨s0, s1⟩ := HS8.out.below hw'; obtain ⟨g0, g1, g2⟩ := HG.out w' hw'; go_simp; all_goals (with_reducible rfl))); simp only [Act.put, List.setIfInBounds_toArray, List.set_cons_zero, List.set_cons_succ]) | (refine walkR_skip rfl (by decide +kernel) rfl (fun _ _ _ h => h) hE ?_; simp only [Act.put, List.setIfInBounds_toArray, List.set_cons_zero, List.set_cons_succ])))
        (refine walkR_later ?_; simp only [List.cons_append, List.nil_append])
        (repeat (first | (refine walkR_still (v := ?_) rfl (by decide +kernel) rfl (fun _ _ _ h => h) hE ?_ ?_; rotate_left; (focus (intro w' hw'; obtain ⟨z0, z1, z2, z3, z4⟩ := HA8.out.below hw'; obtain ⟨s0, s1⟩ := HS8.out.below hw'; obtain ⟨g0, g1, g2⟩ := HG.out w' hw'; go_simp; all_goals (with_reducible rfl))); simp only [Act.put, List.setIfInBounds_toArray, List.set_cons_zero, List.set_cons_succ]) | (refine walkR_skip rfl (by decide +kernel) rfl (fun _ _ _ h => h) hE ?_; simp only [Act.put, List.setIfInBounds_toArray, List.set_cons_zero, List.set_cons_succ])))
        (refine walkR_later ?_; simp only [List.cons_append, List.nil_append])
        (repeat (first | (refine walkR_still (v := ?_) rfl (by decide +kernel) rfl (fun _ _ _ h => h) hE ?_ ?_; rotate_left; (focus (intro w' hw'; obtain ⟨z0, z1, z2, z3, z4⟩ := HA8.out.below hw'; obtain ⟨s0, s1⟩ := HS8.out.below hw'; obtain ⟨g0, g1, g2⟩ := HG.out w' hw'; go_simp; all_goals (with_reducible rfl))); simp only [Act.put, List.setIfInBounds_toArray, List.set_cons_zero, List.set_cons_succ]) | (refine walkR_skip rfl (by decide +kernel) rfl (fun _ _ _ h => h) hE ?_; simp only [Act.put, List.setIfInBounds_toArray, List.set_cons_zero, List.set_cons_succ])))
        (refine walkR_later ?_; simp only [List.cons_append, List.nil_append])
        (refine walkR_only (fun w' => Ext w8 w') rfl (by decide +kernel) rfl (fun _ h => h) ?_; intro K hK; go_simp; refine (HSg.out _).mono ?_; rintro e w' ⟨rfl, rfl⟩; refine hK _ _ (hE) ?_; clear hK K; (try simp only [Act.put, List.setIfInBounds_toArray, List.set_cons_zero, List.set_cons_succ]))
        (repeat (first | (refine walkR_still (v := ?_) rfl (by decide +kernel) rfl (fun _ _ _ h => h) hE ?_ ?_; rotate_left; (focus (intro w' hw'; skip; go_simp; all_goals (with_reducible rfl))); simp only [Act.put, List.setIfInBounds_toArray, List.set_cons_zero, List.set_cons_succ]) | (refine walkR_skip rfl (by decide +kernel) rfl (fun _ _ _ h => h) hE ?_; simp only [Act.put, List.setIfInBounds_toArray, List.set_cons_zero, List.set_cons_succ])))
        (refine walkR_only (fun w' => Ext w8 w') rfl (by decide +kernel) rfl (fun _ h => h) ?_; intro K hK; go_simp; refine (HMd.out _).mono ?_; rintro e w' ⟨rfl, rfl⟩; refine hK _ _ (hE) ?_; clear hK K; (try simp only [Act.put, List.setIfInBounds_toArray, List.set_cons_zero, List.set_cons_succ]))
        (repeat (first | (refine walkR_still (v := ?_) rfl (by decide +kernel) rfl (fun _ _ _ h => h) hE ?_ ?_; rotate_left; (focus (intro w' hw'; skip; go_simp; all_goals (with_reducible rfl))); simp only [Act.put, List.setIfInBounds_toArray, List.set_cons_zero, List.set_cons_succ]) | (refine walkR_skip rfl (by decide +kernel) rfl (fun _ _ _ h => h) hE ?_; simp only [Act.put, List.setIfInBounds_toArray, List.set_cons_zero, List.set_cons_succ])))
        have HAd2 := hidP (HAd.out _ hE)
        have HM12 := hidP (HM1.out _ hE)
        have HM22 := hidP (HM2.out _ hE)
        have HA9 := hidP (HA8.out.below hE)
        have HY9 := hidP (HY8.out.trans hE)
        clear hE HAd HM1 HM2
        (refine walkR_tail (by rfl) (by kernel_rfl) ?_; simp only [List.drop_succ_cons, List.drop_zero])
        go_wp2_with fail
        refine HAd2.out.mono ?_
        rintro e w9 ⟨rfl, ⟨n9, f19, f29, hn9, hC9⟩, hx9⟩
        have HC9 : Hid (∃ n' f1 f2, n' ≤ 50000000000 * (k + 1) ∧ Counts w9 b (b + 1) n' (gM p (antT p D ts (xs.take (k + 1)))) f1 f2) := ⟨n9, f19, f29, Nat.le_trans hn9 HBn.out, by rw [HSn.out]; exact hC9⟩
        have HAt := hidP (HA9.out.extM hx9 HM12.out HM22.out)
        have HYt : Hid (Ext w1 w9) := hidP (hx9.below HY9.out HB.out (Nat.le_succ_of_le HB.out) HY9.out.size)
        clear hn9 hC9 hx9
        go_wp2
        go_roundw
        case rel => exact ⟨k + 1, by omega, by go_num, HC9, HAt, HYt⟩
        case measure => simp [intOf]; omega
      · obtain rfl : n = k := by omega
        have HTk : Hid (xs.take n = xs) := List.take_of_length_le (by omega)
        rw [HTk.out] at HCn
        obtain ⟨n1, f11, f21, hn1, hC1⟩ := HCn.out
        have hcn := norm_count (p := p) (d := D) hD28 (l := putsM p [] (antT p D ts xs)) ((NormM.nil p).puts (by omega) _) (fun q hq => by
          rcases mem_putsM _ hq with ⟨s, hs, _⟩ | ⟨s, hs, e⟩
          · simp at hs
          · rw [← e]; exact antT_word (by omega) HU.out s hs)
        have HCh := hidP (envChecked_any p D ta tn tc b (b + 1) n1 (antT p D ts xs) f11 f21 wr hC1 (by omega) (by omega))
        rw [← HR2.out] at HCh
        unfold EnvRes at HCh
        obtain ⟨z0, z1, z2, z3, z4⟩ := HA.out
        clear HCn hn1 hC1 hcn
        go_wp2_with fail
        refine HCh.out.mono ?_
        rintro e w8 ⟨a8, n8, c8, hs8, rfl, ho8, hx8⟩
        have HO8 := hidP (ho8.weaken (B' := w.heap.size) (Nat.le_trans HS1.out HX.out.size) (Nat.le_refl _))
        have HX9 := hidP (HX1.out.trans (HX.out.trans hx8))
        clear ho8 hx8
        go_wp2
        refine bodyPost_ret (v := .tuple #[.slice a8 n8 c8, .bool (antR p (D : Int) ts xs).1]) (by simp [results, Tryz.results24, go_sem]) rfl ⟨a8, n8, c8, hs8, rfl, HO8.out, HX9.out⟩
end Go.Proofs.YtcfgcacmmmhjcaaGreatDoor

namespace Go.Proofs.YtcfgcacmmmhjcaaGreatDoor
open Go.RowKit

set_option maxRecDepth 100000 in
set_option maxHeartbeats 4000000 in
theorem sAntipodeOf_any (p d : Int) (ta : Option Addr) (tn tc : Nat) (ts : List Int) (a : Option Addr) (n c : Nat) (xs : List Tm) (w : World) (hc : IntsAt w ta tn ts) (h : StepsAt w a n xs)
    (htc : tn ≤ tc) (htc2 : tc ≤ 1000000000000) (hn : n ≤ 1000000000000) :
    EnvRes 23 #[algV p d ta tn tc, .slice a n c] w (antR p d ts xs) := by
  unfold EnvRes
  have hx1 := Ext.alloc w (.cells #[.int .i64 p, .int .i64 d, .slice ta tn tc] 28)
  have HC := hidP (fun w' (hx : Ext (w.alloc (.cells #[.int .i64 p, .int .i64 d, .slice ta tn tc] 28)) w') => (AlgAt.new w _ rfl p d ta tn tc 28).below hx)
  have HX1 := hidP hx1
  have H := hidP (h.below hx1)
  have HTs := hidP (hc.below hx1)
  have htl := hc.len
  have HAk := hidP (sEnvOk_any p d ta tn tc ts a n c xs _ (hc.below hx1) htc htc2 (h.below hx1).terms hn)
  have hs1 : w.heap.size ≤ (w.alloc (.cells #[.int .i64 p, .int .i64 d, .slice ta tn tc] 28)).heap.size := hx1.size
  clear hc h hx1
  obtain ⟨w1, hw1⟩ : ∃ w1, w1 = w.alloc (.cells #[.int .i64 p, .int .i64 d, .slice ta tn tc] 28) := ⟨_, rfl⟩
  rw [← hw1] at HC HX1 H HTs HAk hs1
  have HS1 := hidP hs1
  clear hs1
  obtain ⟨f0, f1, f2⟩ := HC.out w1 (Ext.refl w1)
  cases hT : (algB p d ts && envB p d xs)
  · have HR : Hid (antR p d ts xs = (false, [])) := by
      show _ = _
      unfold antR
      rw [hT]
      rfl
    rw [hT] at HAk
    clear hT
    go_enter Tryz.func23, Tryz.ntmps23
    go_wp2_with fail
    rw [← hw1]
    clear hw1
    refine HAk.out.mono ?_
    rintro e w2 ⟨rfl, hx⟩
    have HX := hidP hx
    clear hx
    go_wp2
    refine bodyPost_ret (v := .tuple #[.slice none 0 0, .bool false]) (by simp [results, Tryz.results23, go_sem]) rfl ?_
    refine ⟨none, 0, 0, [], by rw [HR.out], ?_, HX1.out.trans HX.out⟩
    rw [HR.out]
    exact OwnK.nil stepK _ _ _
  · have hT2 : algB p d ts = true := by
      simp only [Bool.and_eq_true] at hT
      exact hT.1
    have hP1 : envB p d xs = true := by
      simp only [Bool.and_eq_true] at hT
      exact hT.2
    obtain ⟨D, rfl, _⟩ := algB_dim' hT2
    obtain ⟨p2, p7, hD28, hNe, hRs⟩ := algB_parts hT2 htl
    have HU := hidP (envB_iff.1 hP1)
    have HNe := hidP hNe
    have HRs := hidP hRs
    have HTl := hidP htl
    have HR2 : Hid (antR p (D : Int) ts xs = giveR (putsM p [] (antT p D ts xs))) := by
      show _ = _
      unfold antR
      rw [hT]
      rfl
    rw [hT] at HAk
    have hnl := H.out.len
    have hu3 := HU.out.len
    clear hT hT2 hP1 hNe hRs htl
    go_enter Tryz.func23, Tryz.ntmps23
    go_wp2_with fail
    rw [← hw1]
    clear hw1
    refine HAk.out.mono ?_
    rintro e w3 ⟨rfl, hx⟩
    have HY3 := hidP hx
    have HM0 : Hid (OwnK stepK (w3.alloc (.cells #[] 62)) w1.heap.size (w3.alloc (.cells #[] 62)).heap.size (some ⟨w3.heap.size, 0, none⟩) 0 0 [] (putsM p [] (antT p D ts (xs.take 0)))) := (OwnK.made0 stepK w3).weaken (B' := w1.heap.size) hx.size (Nat.le_refl _)
    have HX0 := hidP (HY3.out.trans (Ext.alloc w3 (.cells #[] 62)))
    clear hx f0 f1 f2
    go_wp2
    go_loopw [6, 7] (fun out i wr => ∃ (k g co q : Nat) (hs : List Hdr), k ≤ n ∧ out = .slice (some ⟨g, 0, none⟩) q co ∧ i = .int .i64 k ∧ Hid (OwnK stepK wr w1.heap.size wr.heap.size (some ⟨g, 0, none⟩) q co hs (putsM p [] (antT p D ts (xs.take k)))) ∧ Hid (Ext w1 wr)) (fun _ i _ => n - (intOf i).toNat)
    case atStart => exact ⟨0, _, _, _, [], Nat.zero_le _, rfl, rfl, HM0, HX0⟩
    case round =>
      clear HM0 HX0
      obtain ⟨k, g, co, q, hs, hk, rfl, rfl, HO, HX⟩ := hrel
      obtain ⟨g0, g1, g2⟩ := HC.out wr HX.out
      by_cases hlt : k < n
      · obtain ⟨bu, o, aw, cw, W, M, rfl, HWy, HMy, hwl, HNl, hq⟩ := (H.out.below HX.out).way k hlt
        have HQ := hidP hq
        obtain ⟨q1, q2, _⟩ := hq wr (Ext.refl wr)
        have hat := HU.out.at (k := k) (by omega)
        rw [HWy.out, HMy.out] at hat
        obtain ⟨hwB, hM0, hM1⟩ := hat
        obtain ⟨hW6, hWd, _⟩ := wordB_parts.1 hwB
        have HWd := hidP hWd
        have hanr := antN_range (p := p) (q := (W, M)) ⟨hM0, hM1⟩
        have hav : antN p (W, M) = if W.length % 2 = 1 then p - M else M := rfl
        have HSn : Hid (antT p D ts (xs.take (k + 1)) = antT p D ts (xs.take k) ++ strE p D ts W.reverse (antN p (W, M))) := by
          show _ = _
          rw [antT_take p D ts xs (by omega), HWy.out, HMy.out]
        obtain ⟨v, hv⟩ : ∃ v, v = antN p (W, M) := ⟨_, rfl⟩
        rw [← hv] at hanr hav HSn
        have hpm : IntKind.i64.wrap (p - M) = p - M := wrap_in (by omega) (by omega)
        have HL6 := hidP (fun w' (hx : Ext wr w') => l6Turn_any aw W.length cw W w' (HQ.out w' hx).2.2 (by omega))
        have hword : ∀ q ∈ antT p D ts (xs.take k), wordB D q.1 = true := fun q hq => by
          refine antT_word (t := ts) (us := xs) (by omega) HU.out q ?_
          unfold antT at hq ⊢
          rw [List.mem_flatMap] at hq ⊢
          obtain ⟨s, hs, h⟩ := hq
          exact ⟨s, List.mem_of_mem_take hs, h⟩
        have hnm2 := (NormM.nil p).puts (show 0 < p by omega) (antT p D ts (xs.take k))
        have hwx2 := words_puts (p := p) (d := D) (xs := []) (A := antT p D ts (xs.take k)) (fun q hq => by simp at hq) hword
        have hgl := HO.out.base_lt g 0 rfl
        have HSt := hidP (fun w' (hx : Ext wr w') (a7 : Option Addr) (c7 : Nat) (ho7 : OwnI w' wr.heap.size a7 W.length c7 W.reverse) => l11Straight_any p D ta tn tc ts hD28 HNe.out htc htc2 p2 p7 HRs.out 112 w1.heap.size g q co hs _ a7 W.length c7 W.reverse v w' (fuel_ok (by rw [List.length_reverse]; exact hW6)) ((HO.out.below hx).weaken (Nat.le_refl _) hx.size) hnm2 hwx2 ho7.ints ho7.nilc ho7.room2 (fun b o e => by have := (ho7.at_base b o e).1; omega) HWd.out.rev (by rw [List.length_reverse]; exact hW6) hanr.1 hanr.2 (HX.out.trans hx).size (HTs.out.below (HX.out.trans hx)) (fun h0 b o e => by
          have h := HTs.out
          rw [e] at h
          have := h.block_lt h0
          omega))
        have HG := hidP (fun w' (hx : Ext wr w') => HC.out w' (HX.out.trans hx))
        have hgw : Hid (w1.heap.size ≤ g) := hgl.1
        clear hq hwB hWd hv hword hnm2 hwx2 hgl
        cases hod : decide (W.length % 2 = 1)
        · have hod := of_decide_eq_false hod
          rw [if_neg hod] at hav
          subst hav
          have htm2 : (W.length : Int).tmod 2 = 0 := by rw [Int.tmod_eq_emod_of_nonneg (by omega)]; omega
          clear hod
          have hE : Ext wr wr.drew := Ext.drew wr
          go_wp2
          clear g0 g1 g2 q1 q2
          (refine walkR_start (fun w' => Ext wr w') 9 (by kernel_rfl) ?_; simp only [numbered, List.take_succ_cons, List.take_zero, Nat.zero_add, Nat.reduceAdd, List.length_cons, List.length_nil])
          (repeat (first | (refine walkR_still (v := ?_) rfl (by decide +kernel) rfl (fun _ _ _ h => h) hE ?_ ?_; rotate_left; (focus (intro w' hw'; obtain ⟨q1, q2, _⟩ := HQ.out w' hw'; obtain ⟨g0, g1, g2⟩ := HG.out w' hw'; go_simp; all_goals (with_reducible rfl))); simp only [Act.put, List.setIfInBounds_toArray, List.set_cons_zero, List.set_cons_succ]) | (refine walkR_skip rfl (by decide +kernel) rfl (fun _ _ _ h => h) hE ?_; simp only [Act.put, List.setIfInBounds_toArray, List.set_cons_zero, List.set_cons_succ])))
          (refine walkR_later ?_; simp only [List.cons_append, List.nil_append])
          (repeat (first | (refine walkR_still (v := ?_) rfl (by decide +kernel) rfl (fun _ _ _ h => h) hE ?_ ?_; rotate_left; (focus (intro w' hw'; obtain ⟨q1, q2, _⟩ := HQ.out w' hw'; obtain ⟨g0, g1, g2⟩ := HG.out w' hw'; go_simp; all_goals (with_reducible rfl))); simp only [Act.put, List.setIfInBounds_toArray, List.set_cons_zero, List.set_cons_succ]) | (refine walkR_skip rfl (by decide +kernel) rfl (fun _ _ _ h => h) hE ?_; simp only [Act.put, List.setIfInBounds_toArray, List.set_cons_zero, List.set_cons_succ])))
          (refine walkR_only (fun w' => Ext wr w') rfl (by decide +kernel) rfl (fun _ h => h) ?_; intro K hK; go_simp; refine (HL6.out _ hE).mono ?_; rintro e w7 ⟨a7, c7, rfl, ho7, hx7⟩; refine hK _ _ (hE.trans hx7) ?_; clear hK K; (try simp only [Act.put, List.setIfInBounds_toArray, List.set_cons_zero, List.set_cons_succ]))
          have hE7 := hE.trans hx7
          have HS7 := hidP (HSt.out w7 hE7 a7 c7 ho7)
          have HX7 := hidP (HX.out.trans hE7)
          clear hE hx7 ho7 hE7 HSt HL6
          (refine walkR_tail (by rfl) (by kernel_rfl) ?_; simp only [List.drop_succ_cons, List.drop_zero])
          go_wp2_with fail
          refine HS7.out.mono ?_
          rintro e w8 ⟨g2, n2, c2, hs2, rfl, ho8, hg8, _⟩
          rw [← putsM_append, ← HSn.out] at ho8
          have HO8 := hidP ho8
          have HX8 : Hid (Ext w1 w8) := Below.past_block2 HX7.out hg8 HX7.out.size hgw.out
          clear ho8 hg8
          go_wp2
          go_roundw
          case rel => exact ⟨k + 1, g2, c2, n2, hs2, by omega, rfl, by go_num, HO8, HX8⟩
          case measure => simp [intOf]; omega
        · have hod := of_decide_eq_true hod
          rw [if_pos hod] at hav
          subst hav
          have htm2 : (W.length : Int).tmod 2 = 1 := by rw [Int.tmod_eq_emod_of_nonneg (by omega)]; omega
          clear hod
          have hE : Ext wr wr.drew := Ext.drew wr
          go_wp2
          clear g0 g1 g2 q1 q2
          (refine walkR_start (fun w' => Ext wr w') 9 (by kernel_rfl) ?_; simp only [numbered, List.take_succ_cons, List.take_zero, Nat.zero_add, Nat.reduceAdd, List.length_cons, List.length_nil])
          (repeat (first | (refine walkR_still (v := ?_) rfl (by decide +kernel) rfl (fun _ _ _ h => h) hE ?_ ?_; rotate_left; (focus (intro w' hw'; obtain ⟨q1, q2, _⟩ := HQ.out w' hw'; obtain ⟨g0, g1, g2⟩ := HG.out w' hw'; go_simp; all_goals (with_reducible rfl))); simp only [Act.put, List.setIfInBounds_toArray, List.set_cons_zero, List.set_cons_succ]) | (refine walkR_skip rfl (by decide +kernel) rfl (fun _ _ _ h => h) hE ?_; simp only [Act.put, List.setIfInBounds_toArray, List.set_cons_zero, List.set_cons_succ])))
          (refine walkR_later ?_; simp only [List.cons_append, List.nil_append])
          (repeat (first | (refine walkR_still (v := ?_) rfl (by decide +kernel) rfl (fun _ _ _ h => h) hE ?_ ?_; rotate_left; (focus (intro w' hw'; obtain ⟨q1, q2, _⟩ := HQ.out w' hw'; obtain ⟨g0, g1, g2⟩ := HG.out w' hw'; go_simp; all_goals (with_reducible rfl))); simp only [Act.put, List.setIfInBounds_toArray, List.set_cons_zero, List.set_cons_succ]) | (refine walkR_skip rfl (by decide +kernel) rfl (fun _ _ _ h => h) hE ?_; simp only [Act.put, List.setIfInBounds_toArray, List.set_cons_zero, List.set_cons_succ])))
          (refine walkR_only (fun w' => Ext wr w') rfl (by decide +kernel) rfl (fun _ h => h) ?_; intro K hK; go_simp; refine (HL6.out _ hE).mono ?_; rintro e w7 ⟨a7, c7, rfl, ho7, hx7⟩; refine hK _ _ (hE.trans hx7) ?_; clear hK K; (try simp only [Act.put, List.setIfInBounds_toArray, List.set_cons_zero, List.set_cons_succ]))
          have hE7 := hE.trans hx7
          have HS7 := hidP (HSt.out w7 hE7 a7 c7 ho7)
          have HX7 := hidP (HX.out.trans hE7)
          clear hE hx7 ho7 hE7 HSt HL6
          (refine walkR_tail (by rfl) (by kernel_rfl) ?_; simp only [List.drop_succ_cons, List.drop_zero])
          go_wp2_with fail
          refine HS7.out.mono ?_
          rintro e w8 ⟨g2, n2, c2, hs2, rfl, ho8, hg8, _⟩
          rw [← putsM_append, ← HSn.out] at ho8
          have HO8 := hidP ho8
          have HX8 : Hid (Ext w1 w8) := Below.past_block2 HX7.out hg8 HX7.out.size hgw.out
          clear ho8 hg8
          go_wp2
          go_roundw
          case rel => exact ⟨k + 1, g2, c2, n2, hs2, by omega, rfl, by go_num, HO8, HX8⟩
          case measure => simp [intOf]; omega
      · obtain rfl : n = k := by omega
        have HTk : Hid (xs.take n = xs) := List.take_of_length_le (by omega)
        rw [HTk.out] at HO
        obtain ⟨T, hTT⟩ : ∃ T, T = putsM p [] (antT p D ts xs) := ⟨_, rfl⟩
        have hcn := norm_count (p := p) (d := D) hD28 (l := T) (by rw [hTT]; exact (NormM.nil p).puts (by omega) _) (fun q hq => by
          rw [hTT] at hq
          rcases mem_putsM _ hq with ⟨s, hs, _⟩ | ⟨s, hs, e⟩
          · simp at hs
          · rw [← e]; exact antT_word (t := ts) (by omega) HU.out s hs)
        have heb : envB p D T = decide (T.length ≤ 300) := by rw [hTT]; exact envB_puts (by omega) (antT_word (t := ts) (by omega) HU.out)
        rw [← hTT] at HO
        have hl4 := HO.out.xl
        have HGv := hidP (l11Give_any p D ta tn tc (some ⟨g, 0, none⟩) q co T wr HO.out.stepsAt.terms (by omega) (by omega) p7 (by omega) (by omega))
        rw [heb] at HGv
        have HR3 : Hid (antR p (D : Int) ts xs = giveR T) := by show _ = _; rw [HR2.out, ← hTT]
        clear heb hcn hTT hl4
        by_cases hb : T.length ≤ 300
        · rw [decide_eq_true hb, if_pos rfl] at HGv
          have hJ : Hid (antR p (D : Int) ts xs = (true, T)) := by
            show _ = _
            rw [HR3.out]
            exact if_pos hb
          go_wp2_with fail
          refine HGv.out.mono ?_
          rintro e w5 ⟨rfl, hx5⟩
          have HX5 := hidP (HX1.out.trans (HX.out.trans hx5))
          have HO5 := hidP ((HO.out.below hx5).weaken HS1.out hx5.size)
          clear hx5
          go_wp2
          refine bodyPost_ret (v := .tuple #[.slice (some ⟨g, 0, none⟩) q co, .bool true]) (by simp [results, Tryz.results23, go_sem]) rfl ?_
          have hO : OwnK stepK w5 w.heap.size w5.heap.size (some ⟨g, 0, none⟩) q co hs (antR p (D : Int) ts xs).2 := by
            rw [hJ.out]
            exact HO5.out
          first | exact ⟨some ⟨g, 0, none⟩, q, co, hs, by rw [hJ.out], hO, HX5.out⟩ | exact ⟨some ⟨g, 0, none⟩, q, co, by rw [hJ.out], ⟨hs, hO⟩, HX5.out⟩
        · rw [decide_eq_false hb, if_neg Bool.false_ne_true] at HGv
          have hJ : Hid (antR p (D : Int) ts xs = (false, [])) := by
            show _ = _
            rw [HR3.out]
            exact if_neg hb
          go_wp2_with fail
          refine HGv.out.mono ?_
          rintro e w5 ⟨rfl, hx5⟩
          have HX5 := hidP (HX1.out.trans (HX.out.trans hx5))
          clear hx5
          go_wp2
          refine bodyPost_ret (v := .tuple #[.slice none 0 0, .bool false]) (by simp [results, Tryz.results23, go_sem]) rfl ?_
          have hO : OwnK stepK w5 w.heap.size w5.heap.size none 0 0 [] (antR p (D : Int) ts xs).2 := by
            rw [hJ.out]
            exact OwnK.nil stepK _ _ _
          first | exact ⟨none, 0, 0, [], by rw [hJ.out], hO, HX5.out⟩ | exact ⟨none, 0, 0, by rw [hJ.out], ⟨[], hO⟩, HX5.out⟩
end Go.Proofs.YtcfgcacmmmhjcaaGreatDoor
