/-
  Products of lists of terms, plain. No program in sight.
  The program's products of lists of terms. Printed by gen/mul.py.
  The reference's products of lists of terms. Printed by gen/mul.py.
-/
import Derived.Test.YtnfbfdamlnjblaaGreatDoorAddZ
import Derived.Test.YtnfbfdamlnjblaaGreatDoorJoinZ
namespace Go.Proofs.YtnfbfdamlnjblaaGreatDoor
open Go.RowKit

def plusT (p q : Tm) : Tm := (plusV p.1 1 q.1, p.2 * q.2)
def mulL (us vs : List Tm) : List Tm := us.flatMap fun p => vs.map (plusT p)
/-- what stands behind k rows and j more -/
def mulK (us vs : List Tm) (k j : Nat) : List Tm := mulL (us.take k) vs ++ (vs.take j).map (plusT (wayAt us k, lenAt us k))
theorem mulK_zero (us vs : List Tm) (k : Nat) : mulK us vs k 0 = mulL (us.take k) vs := by simp [mulK]
theorem at_eq {us : List Tm} {k : Nat} (hk : k < us.length) : (wayAt us k, lenAt us k) = us[k] := by
  unfold wayAt lenAt
  rw [getT hk]
theorem mulK_row {us vs : List Tm} {k : Nat} (hk : k < us.length) : mulK us vs k vs.length = mulL (us.take (k + 1)) vs := by
  unfold mulK mulL
  rw [List.take_succ_eq_append_getElem hk, List.flatMap_append, List.take_length, at_eq hk]
  simp
theorem mulK_succ {us vs : List Tm} {k j : Nat} (hj : j < vs.length) : mulK us vs k (j + 1) = mulK us vs k j ++ [plusT (wayAt us k, lenAt us k) (wayAt vs j, lenAt vs j)] := by
  unfold mulK
  rw [List.take_succ_eq_append_getElem hj, List.map_append, ← List.append_assoc, at_eq hj]
  rfl
theorem mulL_prefix (us vs : List Tm) (k : Nat) : mulL (us.take k) vs <+: mulL us vs := by
  refine ⟨mulL (us.drop k) vs, ?_⟩
  unfold mulL
  rw [← List.flatMap_append, List.take_append_drop]
theorem mulK_prefix {us vs : List Tm} {k : Nat} (j : Nat) (hk : k < us.length) : mulK us vs k j <+: mulL us vs := by
  refine List.IsPrefix.trans ⟨(vs.drop j).map (plusT (wayAt us k, lenAt us k)), ?_⟩ (mulL_prefix us vs (k + 1))
  rw [← mulK_row hk]
  unfold mulK
  rw [List.append_assoc, ← List.map_append, List.take_append_drop, List.take_length]
theorem mulL_length {us vs : List Tm} (hv : vs.length ≤ 400) : (mulL us vs).length ≤ 400 * us.length := by
  unfold mulL
  induction us with
  | nil => simp
  | cons p us ih =>
    rw [List.flatMap_cons, List.length_append, List.length_map, List.length_cons]
    omega
theorem mul_each {r : Nat} {us vs : List Tm} (hr : r ≤ 4) (hu : ChrP r us) (hv : ChrP r vs) : ∀ p ∈ mulL us vs, 1 ≤ p.2 ∧ p.2 ≤ 1000000000000 ∧ p.1.length = r ∧ KeyOk p.1 := fun p hp => by
  unfold mulL at hp
  rw [List.mem_flatMap] at hp
  obtain ⟨s, hs, hp⟩ := hp
  rw [List.mem_map] at hp
  obtain ⟨t, ht, rfl⟩ := hp
  have hs2 := hu.each s hs
  have ht2 := hv.each t ht
  obtain ⟨i, hi, rfl⟩ := List.getElem_of_mem hs
  obtain ⟨j, hj, rfl⟩ := List.getElem_of_mem ht
  have h1 := hu.at hr hi
  have h2 := hv.at hr hj
  unfold wayAt lenAt at h1 h2
  rw [getT hi] at h1
  rw [getT hj] at h2
  obtain ⟨a1, a2, a3, a4⟩ := h1
  obtain ⟨b1, b2, b3, b4⟩ := h2
  have m1 := Int.mul_le_mul a3 b3 (by omega) (by omega)
  have m2 := Int.mul_le_mul a4 b4 (by omega) (by omega)
  refine ⟨by unfold plusT; omega, by unfold plusT; omega, by unfold plusT; rw [plusV_length]; exact a1, fun j' hj' => ?_, by unfold plusT; rw [plusV_length]; omega⟩
  unfold plusT at hj' ⊢
  rw [plusV_length] at hj'
  rw [plusV_get _ _ _ _ hj']
  have := a2 j' (by omega)
  have := b2 j' (by omega)
  omega
theorem prefix_bound {r : Nat} {us vs L : List Tm} (hr : r ≤ 4) (hu : ChrP r us) (hv : ChrP r vs) (hL : L <+: mulL us vs) (x : List Int) : 0 ≤ cntSum L x ∧ cntSum L x ≤ 160000000000000000 := by
  have hlu := hu.len
  have h1 := mulL_length (us := us) hv.len
  have h2 := hL.length_le
  have h3 := cntSum_bound (M := 1000000000000) (by omega) (l := L) x fun p hp => by
    have := mul_each hr hu hv p (hL.subset hp)
    omega
  have h4 : (L.length : Int) * 1000000000000 ≤ 160000 * 1000000000000 := Int.mul_le_mul_of_nonneg_right (by omega) (by omega)
  omega
theorem put_more (l : List Tm) (w : List Int) (n : Int) : l.length ≤ (putT l w n).length := by
  induction l with
  | nil => simp
  | cons t l ih =>
    unfold putT
    split
    · simp only [List.length_cons]; omega
    · split <;> simp
theorem puts_more (n : Int) : ∀ (b o : List Tm), o.length ≤ (putsT o n b).length
  | [], _ => Nat.le_refl _
  | t :: b, o => Nat.le_trans (put_more o t.1 (n * t.2)) (puts_more n b (putT o t.1 (n * t.2)))
theorem puts_append (o : List Tm) (n : Int) (a b : List Tm) : putsT o n (a ++ b) = putsT (putsT o n a) n b := by
  unfold putsT
  rw [List.foldl_append]
theorem mem_put2 {l : List Tm} {w : List Int} {n : Int} {p : Tm} (h : p ∈ putT l w n) : p ∈ l ∨ p = (w, n) ∨ ∃ t ∈ l, p = (w, t.2 + n) := by
  induction l with
  | nil =>
    simp only [putT, List.mem_singleton] at h
    exact .inr (.inl h)
  | cons t l ih =>
    unfold putT at h
    split at h
    · rcases List.mem_cons.1 h with rfl | h
      · exact .inl (by simp)
      · rcases ih h with h | h | ⟨t', ht', h⟩
        · exact .inl (by simp [h])
        · exact .inr (.inl h)
        · exact .inr (.inr ⟨t', by simp [ht'], h⟩)
    · split at h
      · rcases List.mem_cons.1 h with rfl | h
        · exact .inr (.inr ⟨t, by simp, rfl⟩)
        · exact .inl (by simp [h])
      · rcases List.mem_cons.1 h with rfl | h
        · exact .inr (.inl rfl)
        · exact .inl h
theorem puts_pos : ∀ (b : List Tm) {o : List Tm}, (∀ p ∈ o, 0 < p.2) → (∀ p ∈ b, 0 < p.2) → ∀ p ∈ putsT o 1 b, 0 < p.2
  | [], _, ho, _, p, hp => ho p hp
  | t :: b, o, ho, hb, p, hp => by
    refine puts_pos b (o := putT o t.1 (1 * t.2)) (fun q hq => ?_) (fun q hq => hb q (by simp [hq])) p hp
    have ht := hb t (by simp)
    rcases mem_put2 hq with h | h | ⟨t', ht', h⟩
    · exact ho q h
    · rw [h]; show 0 < 1 * t.2; omega
    · rw [h]; have := ho t' ht'; show 0 < t'.2 + 1 * t.2; omega
/-- the product, in order -/
def mulT (us vs : List Tm) : List Tm := joinT [] 1 (mulL us vs)
theorem mulT_eq {r : Nat} {us vs : List Tm} (hr : r ≤ 4) (hu : ChrP r us) (hv : ChrP r vs) : mulT us vs = putsT [] 1 (mulL us vs) := by
  unfold mulT joinT
  refine clean_self fun p hp => ?_
  have := puts_pos (mulL us vs) (o := cleanT []) (fun q hq => by simp [cleanT] at hq) (fun q hq => by have := mul_each hr hu hv q hq; omega) p hp
  omega
theorem mulT_tells (us vs : List Tm) : Ordered Above (mulT us vs) ∧ Tells (cntSum (mulL us vs)) (mulT us vs) := by
  have := joinT_tells (a := []) (b := mulL us vs) 1 List.Pairwise.nil
  rwa [List.nil_append, timesT_one] at this
theorem mulT_length {us vs : List Tm} (hu : us.length ≤ 400) (hv : vs.length ≤ 400) : (mulT us vs).length ≤ 160000 := by
  have h1 := joinT_length [] 1 (mulL us vs)
  have h2 := mulL_length (us := us) hv
  unfold mulT
  simp only [List.length_nil] at h1
  omega
theorem mulT_stopped {r : Nat} {us vs L : List Tm} (hr : r ≤ 4) (hu : ChrP r us) (hv : ChrP r vs) (hL : L <+: mulL us vs) : (putsT [] 1 L).length ≤ (mulT us vs).length := by
  obtain ⟨M, hM⟩ := hL
  rw [mulT_eq hr hu hv, ← hM, puts_append]
  exact puts_more 1 M _
def mulR (r : Int) (ts : List Int) (us vs : List Tm) : Bool × List Tm := if typeB r ts && chrB r.toNat us then (if chrB r.toNat vs then chrR r.toNat (mulT us vs) else (false, [])) else (false, [])
theorem mulR_small (r : Int) (ts : List Int) (us vs : List Tm) : SmallL (mulR r ts us vs).2 := by
  unfold mulR
  split
  · rename_i h
    simp only [Bool.and_eq_true] at h
    have := typeB_rank h.1
    split
    · exact chrR_small (by omega) _
    · exact SmallL.nil
  · exact SmallL.nil
end Go.Proofs.YtnfbfdamlnjblaaGreatDoor

namespace Go.Proofs.YtnfbfdamlnjblaaGreatDoor
open Go.RowKit

theorem StpAt.extM {b1 b2 : Nat} {w w' : World} {b : Nat} {a : Option Addr} {n c : Nat} {l : Int} (h : StpAt w b a n c l) (hx : ExtM b1 b2 w w') (m1 : IsMapAt w b1) (m2 : IsMapAt w b2) : StpAt w' b a n c l :=
  ⟨hx.cell m1 m2 h.c0, hx.cell m1 m2 h.c1⟩
set_option maxRecDepth 100000 in
set_option maxHeartbeats 4000000 in
theorem product_any {R : Nat} (a : Option Addr) (n c : Nat) (us : List Tm) (a' : Option Addr) (n' c' : Nat) (vs : List Tm) (w : World) (h : StepsAt w a n us) (h' : StepsAt w a' n' vs) (hR4 : R ≤ 4) (hP : ChrP R us) (hP' : ChrP R vs) (ht : Tab w) :
    Calls Tryz.prog 102 #[.slice a n c, .slice a' n' c'] w fun e w' => ∃ b, e = .returned (cntV b (b + 1)) ∧ (∃ q f1 f2, Counts w' b (b + 1) q (cntSum (mulL us vs)) f1 f2) ∧ w.heap.size ≤ b ∧ Ext w w' := by
  have hx1 := Ext.alloc w (.cells #[.map none, .map none] 107)
  have hz1 : (w.alloc (.cells #[.map none, .map none] 107)).heap.size = w.heap.size + 1 := by simp
  have HZ := hidP (fun w' (hx : Ext (w.alloc (.cells #[.map none, .map none] 107)) w') j => new_cell (w' := w') (w := w) (cs := #[.map none, .map none]) (E := 107) (b := w.heap.size) rfl hx j)
  have H := hidP (h.below hx1)
  have H' := hidP (h'.below hx1)
  have HTb := hidP (ht.below hx1)
  have HX1 := hidP hx1
  have HP1 := hidP hP
  have HP2 := hidP hP'
  have hnl := h.len
  have hn4 := hP.len
  have hnl' := h'.len
  have hn4' := hP'.len
  have HN := hidP (fun w' => newCounts_any w')
  clear h h' ht hP hP' hx1
  go_enter Tryz.func102, Tryz.ntmps102
  go_wp2_with fail
  refine (HN.out _).mono ?_
  rintro e w3 ⟨b, rfl, hC3, hb3, hx3⟩
  have hx4 := Ext.alloc w3 (.cells #[.map (some b), .map (some (b + 1))] 107)
  have HX4 := hidP (hx3.trans hx4)
  have HC4 := hidP (hC3.below hx4)
  have HA4 := hidP (CntAt.new w3 _ rfl b (b + 1) 107)
  have HB := hidP hb3
  obtain ⟨wA, hwA⟩ : ∃ wA, wA = w.alloc (.cells #[.map none, .map none] 107) := ⟨_, rfl⟩
  rw [← hwA] at HX1 HX4 HB HZ H H' HTb hz1
  have HZ1 := hidP hz1
  obtain ⟨w4, hw4⟩ : ∃ w4, w4 = w3.alloc (.cells #[.map (some b), .map (some (b + 1))] 107) := ⟨_, rfl⟩
  rw [← hw4] at HX4 HC4 HA4
  obtain ⟨bk, hbk⟩ : ∃ bk, bk = w3.heap.size := ⟨_, rfl⟩
  rw [← hbk] at HA4
  clear hC3 hb3 hx3 hx4 hz1
  go_wp2
  rw [← hw4, ← hbk]
  clear hw4 hbk
  have HWA := hidP hwA
  clear hwA
  go_loopw [13] (fun i wr => ∃ k : Nat, k ≤ n ∧ i = .int .i64 k ∧ Hid (∃ q f1 f2, q ≤ 400 * k ∧ Counts wr b (b + 1) q (cntSum (mulL (us.take k) vs)) f1 f2) ∧ Hid (CntAt wr bk b (b + 1)) ∧ Hid (Ext wA wr)) (fun i _ => n - (intOf i).toNat)
  case atStart => exact ⟨0, Nat.zero_le _, rfl, hidP ⟨_, _, _, Nat.zero_le _, HC4.out⟩, HA4, HX4⟩
  case round =>
    clear HC4 HA4 HX4
    obtain ⟨k, hk, rfl, HCn, HA, HX⟩ := hrel
    by_cases hlt : k < n
    · obtain ⟨bu, o, aw, cw, W, L, rfl, HW, HL, hwl, HNl, hq⟩ := (H.out.below HX.out).way k hlt
      have HQ := hidP hq
      obtain ⟨q1, q2, _⟩ := hq wr (Ext.refl wr)
      have hat := HP1.out.at hR4 (k := k) (by omega)
      rw [HW.out, HL.out] at hat
      obtain ⟨hWl, hWb, hL1, hL2⟩ := hat
      have HS := hidP (StpAt.new wr _ rfl aw W.length cw L 104)
      have hx5 := Ext.alloc wr (.cells #[.slice aw W.length cw, .int .i64 L] 104)
      have HI5 := hidP ((HQ.out wr (Ext.refl _)).2.2.below hx5)
      have HA5 := hidP (HA.out.below hx5)
      have HX5 := hidP (HX.out.trans hx5)
      have HC5 : Hid (∃ q f1 f2, q ≤ 400 * k ∧ Counts (wr.alloc (.cells #[.slice aw W.length cw, .int .i64 L] 104)) b (b + 1) q (cntSum (mulL (us.take k) vs)) f1 f2) := by
        obtain ⟨q, f1, f2, hq, hC⟩ := HCn.out
        exact ⟨q, f1, f2, hq, hC.below hx5⟩
      obtain ⟨w5, hw5⟩ : ∃ w5, w5 = wr.alloc (.cells #[.slice aw W.length cw, .int .i64 L] 104) := ⟨_, rfl⟩
      rw [← hw5] at HS HI5 HA5 HX5 HC5
      obtain ⟨bs, hbs⟩ : ∃ bs, bs = wr.heap.size := ⟨_, rfl⟩
      rw [← hbs] at HS
      have HWb := hidP hWb
      have HWl := hidP hWl
      have HLb := hidP (show 1 ≤ L ∧ L ≤ 1000000 from ⟨hL1, hL2⟩)
      clear hq hWb hWl hL1 hL2 hx5 HA HX HCn HQ
      go_wp2
      rw [← hw5, ← hbs]
      clear hw5 hbs q1 q2
      go_loopw [19] (fun i wr => ∃ j : Nat, j ≤ n' ∧ i = .int .i64 j ∧ Hid (∃ q f1 f2, q ≤ 400 * k + j ∧ Counts wr b (b + 1) q (cntSum (mulK us vs k j)) f1 f2) ∧ Hid (CntAt wr bk b (b + 1)) ∧ Hid (StpAt wr bs aw W.length cw L) ∧ Hid (IntsAt wr aw W.length W) ∧ Hid (Ext wA wr)) (fun i _ => n' - (intOf i).toNat)
      case atStart =>
        rw [← mulK_zero] at HC5
        exact ⟨0, Nat.zero_le _, rfl, HC5, HA5, HS, HI5, HX5⟩
      case round =>
        clear HC5 HA5 HS HI5 HX5
        obtain ⟨j, hj, rfl, HCn, HA, HS, HI, HX⟩ := hrel
        by_cases hlt' : j < n'
        · obtain ⟨bv, o', av, cv, V, M, rfl, HV, HM, hvl, HNv, hq⟩ := (H'.out.below HX.out).way j hlt'
          have HQ := hidP hq
          obtain ⟨q1, q2, _⟩ := hq wr (Ext.refl wr)
          have hat := HP2.out.at hR4 (k := j) (by omega)
          rw [HV.out, HM.out] at hat
          obtain ⟨hVl, hVb, hM1, hM2⟩ := hat
          have hbd := prefix_bound hR4 HP1.out HP2.out (mulK_prefix (us := us) (vs := vs) j (k := k) (by omega)) (plusV W 1 V)
          have hm1 := Int.mul_le_mul HLb.out.1 hM1 (by omega) (by have := HLb.out; omega)
          have hm2 := Int.mul_le_mul HLb.out.2 hM2 (by omega) (by omega)
          have hmw : IntKind.i64.wrap (L * M) = L * M := wrap_in (by omega) (by omega)
          have HSn : Hid (addG (cntSum (mulK us vs k j)) (plusV W 1 V) (L * M) = cntSum (mulK us vs k (j + 1))) := by
            show _ = _
            rw [mulK_succ (by omega), cntSum_snoc, HW.out, HL.out, HV.out, HM.out]
            rfl
          have hWl := HWl.out
          have HKo : Hid (KeyOk (plusV W 1 V)) := by
            refine ⟨fun i hi => ?_, by rw [plusV_length]; omega⟩
            rw [plusV_length] at hi
            rw [plusV_get _ _ _ _ hi]
            have := HWb.out i (by omega)
            have := hVb i (by omega)
            omega
          have HPl : Hid (PlusIn W 1 V) := fun i hi => by
            have := HWb.out i (by omega)
            have := hVb i (by omega)
            omega
          have HA2 := hidP (Ext.alloc wr (.cells #[.slice av V.length cv, .int .i64 M] 104))
          have HT := hidP (fun w' (hx : Ext (wr.alloc (.cells #[.slice av V.length cv, .int .i64 M] 104)) w') => (StpAt.new wr _ rfl av V.length cv M 104).below hx)
          obtain ⟨w5, hw5⟩ : ∃ w5, w5 = wr.alloc (.cells #[.slice av V.length cv, .int .i64 M] 104) := ⟨_, rfl⟩
          rw [← hw5] at HA2 HT
          obtain ⟨bt, hbt⟩ : ∃ bt, bt = wr.heap.size := ⟨_, rfl⟩
          rw [← hbt] at HT
          have HAb := hidP (fun w' (hx : Ext w5 w') => HA.out.below (HA2.out.trans hx))
          have HSb := hidP (fun w' (hx : Ext w5 w') => HS.out.below (HA2.out.trans hx))
          have HLp := hidP (fun w' (hx : Ext w5 w') => listPlus_any aw W.length cw W 1 av V.length cv V w' (HI.out.below (HA2.out.trans hx)) HNl.out (by omega) (HQ.out w' (HA2.out.trans hx)).2.2 (by omega) HPl.out)
          obtain ⟨G, hG⟩ : ∃ G, G = cntSum (mulK us vs k j) := ⟨_, rfl⟩
          rw [← hG] at HCn HSn hbd
          have HGb := hidP hbd
          have HMb := hidP (show 1 ≤ L * M ∧ L * M ≤ 1000000000000 by omega)
          clear hq hG hVb hbd hM1 hM2 hWl hVl hm1 hm2
          go_wp2
          rw [← hw5, ← hbt]
          clear hw5 hbt q1 q2
          have hE : Ext w5 w5.drew := Ext.drew w5
          (refine walkR_start (fun w' => Ext w5 w') 11 (by kernel_rfl) ?_; simp only [numbered, List.take_succ_cons, List.take_zero, Nat.zero_add, Nat.reduceAdd, List.length_cons, List.length_nil])
          (repeat (first | (refine walkR_still (v := ?_) rfl (by decide +kernel) rfl (fun _ _ _ h => h) hE ?_ ?_; rotate_left; (focus (intro w' hw'; obtain ⟨z0, z1⟩ := HAb.out w' hw'; obtain ⟨q1, q2⟩ := HSb.out w' hw'; obtain ⟨y1, y2⟩ := HT.out w' hw'; go_simp; all_goals (with_reducible rfl))); simp only [Act.put, List.setIfInBounds_toArray, List.set_cons_zero, List.set_cons_succ]) | (refine walkR_skip rfl (by decide +kernel) rfl (fun _ _ _ h => h) hE ?_; simp only [Act.put, List.setIfInBounds_toArray, List.set_cons_zero, List.set_cons_succ])))
          (refine walkR_later ?_; simp only [List.cons_append, List.nil_append])
          (repeat (first | (refine walkR_still (v := ?_) rfl (by decide +kernel) rfl (fun _ _ _ h => h) hE ?_ ?_; rotate_left; (focus (intro w' hw'; obtain ⟨q1, q2⟩ := HSb.out w' hw'; obtain ⟨y1, y2⟩ := HT.out w' hw'; go_simp; all_goals (with_reducible rfl))); simp only [Act.put, List.setIfInBounds_toArray, List.set_cons_zero, List.set_cons_succ]) | (refine walkR_skip rfl (by decide +kernel) rfl (fun _ _ _ h => h) hE ?_; simp only [Act.put, List.setIfInBounds_toArray, List.set_cons_zero, List.set_cons_succ])))
          (refine walkR_only (fun w' => Ext w5 w') rfl (by decide +kernel) rfl (fun _ h => h) ?_; intro K hK; go_simp; refine (HLp.out _ hE).mono ?_; rintro e w6 ⟨a1, c1, rfl, ho1, hx6⟩; refine hK _ _ (hE.trans hx6) ?_; clear hK K; (try simp only [Act.put, List.setIfInBounds_toArray, List.set_cons_zero, List.set_cons_succ]))
          have hE3 := HA2.out.trans (hE.trans hx6)
          obtain ⟨q, f1, f2, hqk, hCn⟩ := HCn.out
          have hi1 := ho1.ints
          have hp1 : (plusV W 1 V).length = W.length := plusV_length _ _ _
          have HAd := hidP (cntAdd_any b (b + 1) q G f1 f2 a1 W.length c1 (plusV W 1 V) (L * M) w6 (hCn.below hE3) HKo.out hi1 ho1.nil_cap (by omega) (by have := HMb.out; have := HGb.out; omega) (by have := HMb.out; have := HGb.out; omega) (HTb.out.below (HX.out.trans hE3)))
          have HM1 := hidP ((hCn.below hE3).m1.is)
          have HM2 := hidP ((hCn.below hE3).m2.is)
          have HA6 := hidP (HA.out.below hE3)
          have HS6 := hidP (HS.out.below hE3)
          have HI6 := hidP (HI.out.below hE3)
          have HX6 := hidP (HX.out.trans hE3)
          have Hqk := hidP hqk
          clear ho1 hx6 hE hE3 hCn HCn hi1 hp1 hqk
          (refine walkR_tail (by rfl) (by kernel_rfl) ?_; simp only [List.drop_succ_cons, List.drop_zero])
          go_wp2_with fail
          refine HAd.out.mono ?_
          rintro e w7 ⟨rfl, ⟨g1, g2, hC7⟩, hx7⟩
          rw [HSn.out] at hC7
          have HC7 : Hid (∃ q f1 f2, q ≤ 400 * k + (j + 1) ∧ Counts w7 b (b + 1) q (cntSum (mulK us vs k (j + 1))) f1 f2) := hidP ⟨_, g1, g2, by have := Hqk.out; omega, hC7⟩
          have HA7 := hidP (HA6.out.extM hx7 HM1.out HM2.out)
          have HS7 := hidP (HS6.out.extM hx7 HM1.out HM2.out)
          have HI7 := hidP (HI6.out.extM hx7 HM1.out HM2.out)
          have HX7 := hidP (hx7.below HX6.out HB.out (Nat.le_succ_of_le HB.out) HX6.out.size)
          clear hC7 hx7
          go_wp2
          go_roundw
          case rel => exact ⟨j + 1, by omega, by go_num, HC7, HA7, HS7, HI7, HX7⟩
          case measure => simp [intOf]; omega
        · obtain rfl : n' = j := by omega
          have HC8 : Hid (∃ q f1 f2, q ≤ 400 * (k + 1) ∧ Counts wr b (b + 1) q (cntSum (mulL (us.take (k + 1)) vs)) f1 f2) := by
            obtain ⟨q, f1, f2, hq, hC⟩ := HCn.out
            rw [← hnl', mulK_row (by omega)] at hC
            exact ⟨q, f1, f2, by omega, hC⟩
          clear HCn HS HI
          go_wp2
          go_roundw
          case rel => exact ⟨k + 1, by omega, by go_num, HC8, HA, HX⟩
          case measure => simp [intOf]; omega
    · obtain rfl : n = k := by omega
      have HTk : Hid (us.take n = us) := List.take_of_length_le (by omega)
      rw [HTk.out] at HCn
      obtain ⟨z0, z1⟩ := HA.out
      have r0 := ((HZ.out wr HX.out 0).1).trans (show _ = some (Value.map none) from rfl)
      have r1 := ((HZ.out wr HX.out 1).1).trans (show _ = some (Value.map none) from rfl)
      have y0 := (HZ.out wr HX.out 0).2
      have y1 := (HZ.out wr HX.out 1).2
      obtain ⟨q, f1, f2, _, hCn⟩ := HCn.out
      have hblk : wr.heap[w.heap.size]? = some (.cells #[.map none, .map none] 107 (0, 0)) := by
        rw [HX.out.block _ (by have := HZ1.out; omega), HWA.out]
        exact heap_alloc_new _ _
      have HC9 := hidP (hCn.set2 hblk (.map (some b)) (.map (some (b + 1))))
      have HX9 : Hid (Ext w ((wr.setCell ⟨w.heap.size, 0, none⟩ (.map (some b))).setCell ⟨w.heap.size, 1, none⟩ (.map (some (b + 1))))) := Ext.setNew (Ext.setNew (HX1.out.trans HX.out) _ _ (Nat.le_refl _) _) _ _ (Nat.le_refl _) _
      have hs0 : ((wr.setCell ⟨w.heap.size, 0, none⟩ (.map (some b))).setCell ⟨w.heap.size, 1, none⟩ (.map (some (b + 1)))).cell? ⟨w.heap.size, 0, none⟩ = some (.map (some b)) := by
        simp [World.setCell, World.cell?, Array.getElem?_modify, hblk]
      have hs1 : ((wr.setCell ⟨w.heap.size, 0, none⟩ (.map (some b))).setCell ⟨w.heap.size, 1, none⟩ (.map (some (b + 1)))).cell? ⟨w.heap.size, 1, none⟩ = some (.map (some (b + 1))) := by
        simp [World.setCell, World.cell?, Array.getElem?_modify, hblk]
      have HBb : Hid (w.heap.size ≤ b) := by have := HB.out; have := HZ1.out; show _ ≤ _; omega
      clear hblk hCn HCn
      go_wp2
      refine bodyPost_ret (v := cntV b (b + 1)) (by simp [results, Tryz.results102, go_sem, hs0, hs1]) rfl ⟨b, rfl, ⟨q, f1, f2, HC9.out⟩, HBb.out, HX9.out⟩
set_option maxRecDepth 100000 in
set_option maxHeartbeats 4000000 in
theorem mulCharacters_any (r : Int) (ta : Option Addr) (tn tc : Nat) (ts : List Int) (a : Option Addr) (n c : Nat) (xs : List Tm) (a' : Option Addr) (n' c' : Nat) (ys : List Tm) (w : World) (hc : IntsAt w ta tn ts) (hcn : tn ≤ 9223372036854775807)
    (h : StepsAt w a n xs) (hn : n ≤ 9223372036854775807) (h' : StepsAt w a' n' ys) (hn' : n' ≤ 9223372036854775807) (hm : MaxL w) (ht : Tab w) :
    PathRes 49 #[carV r ta tn tc, .slice a n c, .slice a' n' c'] w (mulR r ts xs ys) := by
  unfold PathRes
  have hx1 := Ext.alloc w (.cells #[.int .i64 r, .slice ta tn tc] 55)
  have HC := hidP (fun w' (hx : Ext (w.alloc (.cells #[.int .i64 r, .slice ta tn tc] 55)) w') => (CarAt.new w _ rfl r ta tn tc 55).below hx)
  have HX1 := hidP hx1
  have H := hidP (h.below hx1)
  have H' := hidP (h'.below hx1)
  have HIs := hidP (fun w' (hx : Ext w w') => isCartan_any r ta tn tc ts w' (hc.below hx) hcn (hm.below hx))
  have HP := hidP (characterOk_of r ta tn tc ts a n c xs _ (h.below hx1).terms hn (fun w' hx => HIs.out w' (hx1.trans hx)))
  have HP' := hidP (fun w' (hx : Ext (w.alloc (.cells #[.int .i64 r, .slice ta tn tc] 55)) w') => characterOk_of r ta tn tc ts a' n' c' ys w' ((h'.below hx1).below hx).terms hn' (fun w'' hx' => HIs.out w'' ((hx1.trans hx).trans hx')))
  have HTb := hidP ht
  clear ht
  have hs1 : w.heap.size ≤ (w.alloc (.cells #[.int .i64 r, .slice ta tn tc] 55)).heap.size := hx1.size
  clear hc h h' hx1 hm
  obtain ⟨w1, hw1⟩ : ∃ w1, w1 = w.alloc (.cells #[.int .i64 r, .slice ta tn tc] 55) := ⟨_, rfl⟩
  rw [← hw1] at HC HX1 H H' HP HP' hs1
  have HS1 := hidP hs1
  clear hs1
  obtain ⟨f0, f1⟩ := HC.out w1 (Ext.refl w1)
  cases hT : (typeB r ts && chrB r.toNat xs)
  · have HR : Hid (mulR r ts xs ys = (false, [])) := by
      show _ = _
      unfold mulR
      rw [hT]
      rfl
    rw [hT] at HP
    clear hT
    go_enter Tryz.func49, Tryz.ntmps49
    go_wp2_with fail
    rw [← hw1]
    clear hw1
    refine HP.out.mono ?_
    rintro e w2 ⟨rfl, hx⟩
    have HX := hidP hx
    clear hx
    go_wp2
    refine bodyPost_ret (v := .tuple #[.slice none 0 0, .bool false]) (by simp [results, Tryz.results49, go_sem]) rfl ⟨none, 0, 0, [], by rw [HR.out], ?_, HX1.out.trans HX.out⟩
    rw [HR.out]
    exact OwnK.nil stepK _ _ _
  · have hT2 : typeB r ts = true := by
      simp only [Bool.and_eq_true] at hT
      exact hT.1
    have hP1 : chrB r.toNat xs = true := by
      simp only [Bool.and_eq_true] at hT
      exact hT.2
    obtain ⟨hr1, hr4, _⟩ := typeB_rank hT2
    obtain ⟨R, rfl⟩ : ∃ R : Nat, r = R := ⟨r.toNat, by omega⟩
    rw [Int.toNat_natCast] at hP1
    have hR : R ≤ 4 := by omega
    rw [hT2, Bool.true_and, Int.toNat_natCast] at HP'
    cases hQ : chrB R ys
    · have HR : Hid (mulR R ts xs ys = (false, [])) := by
        show _ = _
        unfold mulR
        rw [hT, Int.toNat_natCast, hQ]
        rfl
      rw [hT] at HP
      rw [hQ] at HP'
      clear hT hT2 hP1 hQ hr1 hr4
      go_enter Tryz.func49, Tryz.ntmps49
      go_wp2_with fail
      rw [← hw1]
      clear hw1
      refine HP.out.mono ?_
      rintro e w2 ⟨rfl, hx⟩
      obtain ⟨g0, g1⟩ := HC.out w2 hx
      have HX := hidP hx
      clear hx f0 f1
      go_wp2_with fail
      refine (HP'.out _ HX.out).mono ?_
      rintro e w3 ⟨rfl, hx⟩
      have HX3 := hidP (HX.out.trans hx)
      clear hx g0 g1
      go_wp2
      refine bodyPost_ret (v := .tuple #[.slice none 0 0, .bool false]) (by simp [results, Tryz.results49, go_sem]) rfl ⟨none, 0, 0, [], by rw [HR.out], ?_, HX1.out.trans HX3.out⟩
      rw [HR.out]
      exact OwnK.nil stepK _ _ _
    · have HR2 : Hid (mulR R ts xs ys = chrR R (mulT xs ys)) := by
        show _ = _
        unfold mulR
        rw [hT, Int.toNat_natCast, hQ]
        rfl
      have HU := hidP (chrB_iff.1 hP1)
      have HV := hidP (chrB_iff.1 hQ)
      have HT2 := hidP hT2
      rw [hT] at HP
      rw [hQ] at HP'
      have hnl := H.out.len
      have hnl' := H'.out.len
      have hu4 := HU.out.len
      have hv4 := HV.out.len
      clear hT hT2 hP1 hQ hr1 hr4
      go_enter Tryz.func49, Tryz.ntmps49
      go_wp2_with fail
      rw [← hw1]
      clear hw1
      refine HP.out.mono ?_
      rintro e w2 ⟨rfl, hx⟩
      obtain ⟨g0, g1⟩ := HC.out w2 hx
      have HX := hidP hx
      clear hx f0 f1
      go_wp2_with fail
      refine (HP'.out _ HX.out).mono ?_
      rintro e w3 ⟨rfl, hx⟩
      have HX3 := hidP (HX1.out.trans (HX.out.trans hx))
      have HY3 := hidP (HX.out.trans hx)
      have HPr := hidP (fun w' (hx : Ext w3 w') => product_any a n c xs a' n' c' ys w' (H.out.below (HY3.out.trans hx)) (H'.out.below (HY3.out.trans hx)) hR HU.out HV.out (HTb.out.below (HX3.out.trans hx)))
      have HCr := hidP (fun w' (hx : Ext w3 w') => HC.out w' (HY3.out.trans hx))
      have hE : Ext w3 w3.drew := Ext.drew w3
      clear hx g0 g1 HC HP
      go_wp2
      (refine walkR_start (fun w' => Ext w3 w') 9 (by kernel_rfl) ?_; simp only [numbered, List.take_succ_cons, List.take_zero, Nat.zero_add, Nat.reduceAdd, List.length_cons, List.length_nil])
      (repeat (first | (refine walkR_still (v := ?_) rfl (by decide +kernel) rfl (fun _ _ _ h => h) hE ?_ ?_; rotate_left; (focus (intro w' hw'; skip; go_simp; all_goals (with_reducible rfl))); simp only [Act.put, List.setIfInBounds_toArray, List.set_cons_zero, List.set_cons_succ]) | (refine walkR_skip rfl (by decide +kernel) rfl (fun _ _ _ h => h) hE ?_; simp only [Act.put, List.setIfInBounds_toArray, List.set_cons_zero, List.set_cons_succ])))
      (refine walkR_later ?_; simp only [List.cons_append, List.nil_append])
      (repeat (first | (refine walkR_still (v := ?_) rfl (by decide +kernel) rfl (fun _ _ _ h => h) hE ?_ ?_; rotate_left; (focus (intro w' hw'; obtain ⟨f0, f1⟩ := HCr.out w' hw'; go_simp; all_goals (with_reducible rfl))); simp only [Act.put, List.setIfInBounds_toArray, List.set_cons_zero, List.set_cons_succ]) | (refine walkR_skip rfl (by decide +kernel) rfl (fun _ _ _ h => h) hE ?_; simp only [Act.put, List.setIfInBounds_toArray, List.set_cons_zero, List.set_cons_succ])))
      (refine walkR_later ?_; simp only [List.cons_append, List.nil_append]); (refine walkR_later ?_; simp only [List.cons_append, List.nil_append]); (refine walkR_later ?_; simp only [List.cons_append, List.nil_append]); (refine walkR_later ?_; simp only [List.cons_append, List.nil_append]); (refine walkR_later ?_; simp only [List.cons_append, List.nil_append])
      (refine walkR_only (fun w' => Ext w3 w') rfl (by decide +kernel) rfl (fun _ h => h) ?_; intro K hK; go_simp; refine (HPr.out _ hE).mono ?_; rintro e w4 ⟨b, rfl, hC4, hb4, hx4⟩; refine hK _ _ (hE.trans hx4) ?_; clear hK K; (try simp only [Act.put, List.setIfInBounds_toArray, List.set_cons_zero, List.set_cons_succ]))
      have hE4 := hE.trans hx4
      have HX4 := hidP (HX3.out.trans hE4)
      obtain ⟨q, f1, f2, hC4⟩ := hC4
      obtain ⟨hjo, hjt⟩ := mulT_tells xs ys
      have HCh := hidP (cntCharacter_any R ta tn tc ts b (b + 1) q _ f1 f2 (mulT xs ys) w4 hC4 hjt hjo (by have := mulT_length (us := xs) (vs := ys) (by omega) (by omega); omega) HT2.out (fun w' hx => HIs.out w' (HX4.out.trans hx)))
      rw [Int.toNat_natCast, ← HR2.out] at HCh
      unfold PathRes at HCh
      clear hC4 hb4 hx4 hE hjo hjt
      (refine walkR_only (fun w' => Ext w3 w') rfl (by decide +kernel) rfl (fun _ h => h) ?_; intro K hK; go_simp; refine (HCh.out).mono ?_; rintro e w8 ⟨a8, n8, c8, hs8, rfl, ho8, hx8⟩; refine hK _ _ (hE4.trans hx8) ?_; clear hK K; (try simp only [Act.put, List.setIfInBounds_toArray, List.set_cons_zero, List.set_cons_succ]))
      have hE8 := hE4.trans hx8
      (repeat (first | (refine walkR_still (v := ?_) rfl (by decide +kernel) rfl (fun _ _ _ h => h) hE8 ?_ ?_; rotate_left; (focus (intro w' hw'; skip; go_simp; all_goals (with_reducible rfl))); simp only [Act.put, List.setIfInBounds_toArray, List.set_cons_zero, List.set_cons_succ]) | (refine walkR_skip rfl (by decide +kernel) rfl (fun _ _ _ h => h) hE8 ?_; simp only [Act.put, List.setIfInBounds_toArray, List.set_cons_zero, List.set_cons_succ])))
      (refine walkR_tail (by rfl) (by kernel_rfl) ?_; simp only [List.drop_succ_cons, List.drop_zero])
      have HO8 := hidP (ho8.weaken (B' := w.heap.size) HX4.out.size (Nat.le_refl _))
      have HX8 := hidP (HX4.out.trans hx8)
      clear ho8 hx8 hE4 hE8
      go_wp2
      refine bodyPost_ret (v := .tuple #[.slice a8 n8 c8, .bool (mulR R ts xs ys).1]) (by simp [results, Tryz.results49, go_sem]) rfl ⟨a8, n8, c8, hs8, rfl, HO8.out, HX8.out⟩
end Go.Proofs.YtnfbfdamlnjblaaGreatDoor

namespace Go.Proofs.YtnfbfdamlnjblaaGreatDoor
open Go.RowKit

/-- where the reference's product stands: all so far, or it is too long -/
structure MulS (us vs : List Tm) (k j : Nat) (T : List Tm) : Prop where
  len : T.length ≤ 401
  of : ∃ L, L <+: mulL us vs ∧ T = putsT [] 1 L ∧ (L = mulK us vs k j ∨ 400 < T.length)
theorem MulS.start (us vs : List Tm) : MulS us vs 0 0 [] := ⟨by simp, [], List.nil_prefix, rfl, .inl (by simp [mulK, mulL])⟩
theorem MulS.row {us vs T : List Tm} {k : Nat} (hk : k < us.length) (h : MulS us vs k vs.length T) : MulS us vs (k + 1) 0 T := by
  obtain ⟨h1, L, h2, h3, h4⟩ := h
  refine ⟨h1, L, h2, h3, ?_⟩
  rw [mulK_row hk] at h4
  rw [mulK_zero]
  exact h4
theorem MulS.stop {us vs T : List Tm} {k j k' j' : Nat} (h : MulS us vs k j T) (hl : 400 < T.length) : MulS us vs k' j' T := by
  obtain ⟨h1, L, h2, h3, _⟩ := h
  exact ⟨h1, L, h2, h3, .inr hl⟩
theorem MulS.put {us vs T : List Tm} {k j : Nat} (h : MulS us vs k j T) (hl : T.length ≤ 400) (hk : k < us.length) (hj : j < vs.length) : MulS us vs k (j + 1) (putT T (plusV (wayAt us k) 1 (wayAt vs j)) (lenAt us k * lenAt vs j)) := by
  obtain ⟨h1, L, h2, h3, h4⟩ := h
  have h5 : L = mulK us vs k j := by
    rcases h4 with h4 | h4
    · exact h4
    · omega
  subst h5
  refine ⟨Nat.le_trans (put_length _ _ _) (by omega), _, mulK_prefix (j + 1) hk, ?_, .inl rfl⟩
  rw [mulK_succ hj, puts_append, ← h3]
  show _ = putT T _ (1 * _)
  rw [Int.one_mul]
  rfl
theorem MulS.ord {us vs T : List Tm} {k j : Nat} (h : MulS us vs k j T) : Ordered Above T := by
  obtain ⟨_, L, _, h3, _⟩ := h
  rw [h3]
  exact ordered_puts 1 L List.Pairwise.nil
theorem MulS.bound {r : Nat} {us vs T : List Tm} {k j : Nat} (h : MulS us vs k j T) (hr : r ≤ 4) (hu : ChrP r us) (hv : ChrP r vs) {i : Nat} (hi : i < T.length) : 0 ≤ lenAt T i ∧ lenAt T i ≤ 160000000000000000 := by
  rw [ordered_lenAt h.ord hi]
  obtain ⟨_, L, h2, h3, _⟩ := h
  rw [h3, cntSum_puts, List.nil_append, timesT_one]
  exact prefix_bound hr hu hv h2 _
theorem MulS.done {r : Nat} {us vs T : List Tm} (h : MulS us vs us.length 0 T) (hr : r ≤ 4) (hu : ChrP r us) (hv : ChrP r vs) : T = mulT us vs ∨ (400 < T.length ∧ 400 < (mulT us vs).length) := by
  obtain ⟨_, L, h2, h3, h4⟩ := h
  rcases h4 with h4 | h4
  · left
    rw [mulT_eq hr hu hv, h3, h4, mulK_zero, List.take_length]
  · right
    have := mulT_stopped hr hu hv h2
    rw [← h3] at this
    exact ⟨h4, by omega⟩
theorem mulT_chr {r : Nat} {us vs T : List Tm} (h : T = mulT us vs ∨ (400 < T.length ∧ 400 < (mulT us vs).length)) : chrR r T = chrR r (mulT us vs) := by
  rcases h with h | ⟨h1, h2⟩
  · rw [h]
  · unfold chrR
    rw [chrB_long h1, chrB_long h2]
    rfl
set_option maxRecDepth 100000 in
set_option maxHeartbeats 4000000 in
theorem l8Mul_any {R : Nat} (a : Option Addr) (n c : Nat) (us : List Tm) (a' : Option Addr) (n' c' : Nat) (vs : List Tm) (w : World) (h : StepsAt w a n us) (h' : StepsAt w a' n' vs) (hR4 : R ≤ 4) (hP : ChrP R us) (hP' : ChrP R vs) :
    Calls Tryz.prog 101 #[.slice a n c, .slice a' n' c'] w fun e w' => ∃ g q c' hs T, e = .returned (.slice (some ⟨g, 0, none⟩) q c') ∧ OwnK stepK w' w.heap.size w'.heap.size (some ⟨g, 0, none⟩) q c' hs T ∧ (q ≤ 401 ∧ (T = mulT us vs ∨ (400 < T.length ∧ 400 < (mulT us vs).length))) ∧ Ext w w' := by
  have H := hidP h
  have H' := hidP h'
  have HP1 := hidP hP
  have HP2 := hidP hP'
  have hnl := h.len
  have hn4 := hP.len
  have hnl' := h'.len
  have hn4' := hP'.len
  have HM0 : Hid (OwnK stepK (w.alloc (.cells #[] 104)) w.heap.size (w.alloc (.cells #[] 104)).heap.size (some ⟨w.heap.size, 0, none⟩) 0 0 [] []) := OwnK.made0 stepK w
  have HX0 := hidP (Ext.alloc w (.cells #[] 104))
  clear h h' hP hP'
  go_enter Tryz.func101, Tryz.ntmps101
  go_wp2
  go_loopw [5, 6] (fun out i wr => ∃ (k g co q : Nat) (hs : List Hdr) (T : List Tm), k ≤ n ∧ out = .slice (some ⟨g, 0, none⟩) q co ∧ i = .int .i64 k ∧ Hid (MulS us vs k 0 T) ∧ Hid (OwnK stepK wr w.heap.size wr.heap.size (some ⟨g, 0, none⟩) q co hs T) ∧ Hid (Ext w wr)) (fun _ i _ => n - (intOf i).toNat)
  case atStart => exact ⟨0, _, _, _, [], [], Nat.zero_le _, rfl, rfl, hidP (MulS.start us vs), HM0, HX0⟩
  case round =>
    clear HM0 HX0
    obtain ⟨k, g, co, q, hs, T, hk, rfl, rfl, HS, HO, HX⟩ := hrel
    by_cases hlt : k < n
    · go_wp2
      go_loopw [5, 7] (fun out i wr => ∃ (j g co q : Nat) (hs : List Hdr) (T : List Tm), j ≤ n' ∧ out = .slice (some ⟨g, 0, none⟩) q co ∧ i = .int .i64 j ∧ Hid (MulS us vs k j T) ∧ Hid (OwnK stepK wr w.heap.size wr.heap.size (some ⟨g, 0, none⟩) q co hs T) ∧ Hid (Ext w wr)) (fun _ i _ => n' - (intOf i).toNat)
      case atStart => exact ⟨0, g, co, q, hs, T, Nat.zero_le _, rfl, rfl, HS, HO, HX⟩
      case round =>
        clear HS HO HX
        obtain ⟨j, g, co, q, hs, T, hj, rfl, rfl, HS, HO, HX⟩ := hrel
        have hql := HO.out.xl
        by_cases hlt' : j < n'
        · by_cases hle : q ≤ 400
          · obtain ⟨b0, o, aw, cw, W, L, rfl, HW, HL, hwl, HNl, hq⟩ := (H.out.below HX.out).way k hlt
            obtain ⟨b1, o', av, cv, V, M, rfl, HV, HM, hvl, HNv, hq'⟩ := (H'.out.below HX.out).way j hlt'
            have HQ := hidP hq
            have HQ' := hidP hq'
            have hat := HP1.out.at hR4 (k := k) (by omega)
            rw [HW.out, HL.out] at hat
            obtain ⟨hWl, hWb, hL1, hL2⟩ := hat
            have hat := HP2.out.at hR4 (k := j) (by omega)
            rw [HV.out, HM.out] at hat
            obtain ⟨hVl, hVb, hM1, hM2⟩ := hat
            have hm1 := Int.mul_le_mul hL1 hM1 (by omega) (by omega)
            have hm2 := Int.mul_le_mul hL2 hM2 (by omega) (by omega)
            have hmw : IntKind.i64.wrap (L * M) = L * M := wrap_in (by omega) (by omega)
            have HSn := hidP (HS.out.put (by omega) (by omega) (by omega))
            rw [HW.out, HL.out, HV.out, HM.out] at HSn
            have HPl : Hid (PlusIn W 1 V) := fun i hi => by
              have := hWb i (by omega)
              have := hVb i (by omega)
              omega
            have hp1 : (plusV W 1 V).length = W.length := plusV_length _ _ _
            have HMn := hidP (fun w' (hx : Ext wr w') => l5Plus_any aw W.length cw W 1 av V.length cv V w' (HQ.out w' hx).2.2 HNl.out (by omega) (HQ'.out w' hx).2.2 (by omega) HPl.out)
            have HBd := hidP (fun i (hi : i < q) => HS.out.bound hR4 HP1.out HP2.out (i := i) (by omega))
            have HMb := hidP (show 1 ≤ L * M ∧ L * M ≤ 1000000000000 by omega)
            have HPt := hidP (fun w' (hx : Ext wr w') a1 c1 (h1 : IntsAt w' a1 W.length (plusV W 1 V)) (h2 : a1 = none → c1 = 0) => l8Put_any w.heap.size g q co hs T a1 c1 (plusV W 1 V) (L * M) w' ((HO.out.below hx).weaken (Nat.le_refl _) hx.size) (by rw [hp1]; exact h1) h2 (by omega) (by omega) (Nat.le_trans HX.out.size hx.size) (fun i hi => by
              have := HBd.out i hi
              have := HMb.out
              omega))
            rw [hp1] at HPt
            have hE : Ext wr wr.drew := Ext.drew wr
            clear hq hq' hWl hWb hL1 hL2 hVl hVb hM1 hM2 hm1 hm2 hp1 hql
            go_wp2
            (refine walkR_start (fun w' => Ext wr w') 23 (by kernel_rfl) ?_; simp only [numbered, List.take_succ_cons, List.take_zero, Nat.zero_add, Nat.reduceAdd, List.length_cons, List.length_nil])
            (repeat (first | (refine walkR_still (v := ?_) rfl (by decide +kernel) rfl (fun _ _ _ h => h) hE ?_ ?_; rotate_left; (focus (intro w' hw'; obtain ⟨q1, q2, _⟩ := HQ.out w' hw'; obtain ⟨y1, y2, _⟩ := HQ'.out w' hw'; go_simp; all_goals (with_reducible rfl))); simp only [Act.put, List.setIfInBounds_toArray, List.set_cons_zero, List.set_cons_succ]) | (refine walkR_skip rfl (by decide +kernel) rfl (fun _ _ _ h => h) hE ?_; simp only [Act.put, List.setIfInBounds_toArray, List.set_cons_zero, List.set_cons_succ])))
            (refine walkR_later ?_; simp only [List.cons_append, List.nil_append])
            (repeat (first | (refine walkR_still (v := ?_) rfl (by decide +kernel) rfl (fun _ _ _ h => h) hE ?_ ?_; rotate_left; (focus (intro w' hw'; obtain ⟨q1, q2, _⟩ := HQ.out w' hw'; obtain ⟨y1, y2, _⟩ := HQ'.out w' hw'; go_simp; all_goals (with_reducible rfl))); simp only [Act.put, List.setIfInBounds_toArray, List.set_cons_zero, List.set_cons_succ]) | (refine walkR_skip rfl (by decide +kernel) rfl (fun _ _ _ h => h) hE ?_; simp only [Act.put, List.setIfInBounds_toArray, List.set_cons_zero, List.set_cons_succ])))
            (refine walkR_only (fun w' => Ext wr w') rfl (by decide +kernel) rfl (fun _ h => h) ?_; intro K hK; go_simp; refine (HMn.out _ hE).mono ?_; rintro e w3 ⟨a1, c1, rfl, ho1, hx1⟩; refine hK _ _ (hE.trans hx1) ?_; clear hK K; (try simp only [Act.put, List.setIfInBounds_toArray, List.set_cons_zero, List.set_cons_succ]))
            have hE3 := hE.trans hx1
            have HPt2 := hidP (HPt.out _ hE3 a1 c1 ho1.ints ho1.nil_cap)
            have HXE := hidP (HX.out.trans hE3)
            clear hE ho1 hx1 hE3 HPt HMn
            (refine walkR_tail (by rfl) (by kernel_rfl) ?_; simp only [List.drop_succ_cons, List.drop_zero])
            go_wp2_with fail
            refine HPt2.out.mono ?_
            rintro e w2 ⟨g2, q2, c2, hs2, rfl, ho2, hx2⟩
            have HO2 := hidP ho2
            have HX2 : Hid (Ext w w2) := Below.trans HXE.out hx2
            clear ho2 hx2
            go_wp2
            go_roundw
            case rel => exact ⟨j + 1, g2, c2, q2, hs2, _, by omega, rfl, by go_num, HSn, HO2, HX2⟩
            case measure => simp [intOf]; omega
          · have HS8 : Hid (MulS us vs (k + 1) 0 T) := HS.out.stop (by omega)
            clear HS hql
            go_wp2
            go_roundw
            case rel => exact ⟨k + 1, g, co, q, hs, T, by omega, rfl, by go_num, HS8, HO, HX⟩
            case measure => simp [intOf]; omega
        · obtain rfl : n' = j := by omega
          have HS8 : Hid (MulS us vs (k + 1) 0 T) := by
            have := HS.out
            rw [← hnl'] at this
            exact this.row (by omega)
          clear HS hql
          go_wp2
          go_roundw
          case rel => exact ⟨k + 1, g, co, q, hs, T, by omega, rfl, by go_num, HS8, HO, HX⟩
          case measure => simp [intOf]; omega
    · obtain rfl : n = k := by omega
      have hql := HO.out.xl
      have hS := HS.out
      rw [← hnl] at hS
      have HD := hidP (hS.done hR4 HP1.out HP2.out)
      have HLn := hidP (show q ≤ 401 by have := hS.len; omega)
      clear hS hql
      go_wp2
      go_ret
      exact ⟨g, q, co, hs, T, rfl, HO.out, ⟨HLn.out, HD.out⟩, HX.out⟩
set_option maxRecDepth 100000 in
set_option maxHeartbeats 4000000 in
theorem sMulCharacters_any (r : Int) (ta : Option Addr) (tn tc : Nat) (ts : List Int) (a : Option Addr) (n c : Nat) (xs : List Tm) (a' : Option Addr) (n' c' : Nat) (ys : List Tm) (w : World) (hc : IntsAt w ta tn ts) (hcn : tn ≤ 9223372036854775807)
    (h : StepsAt w a n xs) (hn : n ≤ 9223372036854775807) (h' : StepsAt w a' n' ys) (hn' : n' ≤ 9223372036854775807) :
    PathRes 48 #[carV r ta tn tc, .slice a n c, .slice a' n' c'] w (mulR r ts xs ys) := by
  unfold PathRes
  have hx1 := Ext.alloc w (.cells #[.int .i64 r, .slice ta tn tc] 55)
  have HC := hidP (fun w' (hx : Ext (w.alloc (.cells #[.int .i64 r, .slice ta tn tc] 55)) w') => (CarAt.new w _ rfl r ta tn tc 55).below hx)
  have HX1 := hidP hx1
  have H := hidP (h.below hx1)
  have H' := hidP (h'.below hx1)
  have HP := hidP (sCharacterOk_any r ta tn tc ts a n c xs _ (hc.below hx1) hcn (h.below hx1).terms hn)
  have hs1 : w.heap.size ≤ (w.alloc (.cells #[.int .i64 r, .slice ta tn tc] 55)).heap.size := hx1.size
  clear hc h h' hx1
  obtain ⟨w1, hw1⟩ : ∃ w1, w1 = w.alloc (.cells #[.int .i64 r, .slice ta tn tc] 55) := ⟨_, rfl⟩
  rw [← hw1] at HC HX1 H H' HP hs1
  have HS1 := hidP hs1
  clear hs1
  obtain ⟨f0, f1⟩ := HC.out w1 (Ext.refl w1)
  cases hT : (typeB r ts && chrB r.toNat xs)
  · have HR : Hid (mulR r ts xs ys = (false, [])) := by
      show _ = _
      unfold mulR
      rw [hT]
      rfl
    rw [hT] at HP
    clear hT
    go_enter Tryz.func48, Tryz.ntmps48
    go_wp2_with fail
    rw [← hw1]
    clear hw1
    refine HP.out.mono ?_
    rintro e w2 ⟨rfl, hx⟩
    have HX := hidP hx
    clear hx
    go_wp2
    refine bodyPost_ret (v := .tuple #[.slice none 0 0, .bool false]) (by simp [results, Tryz.results48, go_sem]) rfl ⟨none, 0, 0, [], by rw [HR.out], ?_, HX1.out.trans HX.out⟩
    rw [HR.out]
    exact OwnK.nil stepK _ _ _
  · have hT2 : typeB r ts = true := by
      simp only [Bool.and_eq_true] at hT
      exact hT.1
    have hP1 : chrB r.toNat xs = true := by
      simp only [Bool.and_eq_true] at hT
      exact hT.2
    obtain ⟨hr1, hr4, _⟩ := typeB_rank hT2
    obtain ⟨R, rfl⟩ : ∃ R : Nat, r = R := ⟨r.toNat, by omega⟩
    rw [Int.toNat_natCast] at hP1
    have hR : R ≤ 4 := by omega
    have HL := hidP (fun w' (hx : Ext w1 w') => l8Ok_any R ta tn tc a' n' c' ys w' (H'.out.below hx).terms hn' (by omega))
    cases hQ : chrB R ys
    · have HR : Hid (mulR R ts xs ys = (false, [])) := by
        show _ = _
        unfold mulR
        rw [hT, Int.toNat_natCast, hQ]
        rfl
      rw [hT] at HP
      rw [hQ] at HL
      clear hT hT2 hP1 hQ hr1 hr4
      go_enter Tryz.func48, Tryz.ntmps48
      go_wp2_with fail
      rw [← hw1]
      clear hw1
      refine HP.out.mono ?_
      rintro e w2 ⟨rfl, hx⟩
      obtain ⟨g0, g1⟩ := HC.out w2 hx
      have HX := hidP hx
      clear hx f0 f1
      go_wp2_with fail
      refine (HL.out _ HX.out).mono ?_
      rintro e w3 ⟨rfl, hx⟩
      have HX3 := hidP (HX.out.trans hx)
      clear hx g0 g1
      go_wp2
      refine bodyPost_ret (v := .tuple #[.slice none 0 0, .bool false]) (by simp [results, Tryz.results48, go_sem]) rfl ⟨none, 0, 0, [], by rw [HR.out], ?_, HX1.out.trans HX3.out⟩
      rw [HR.out]
      exact OwnK.nil stepK _ _ _
    · have HR2 : Hid (mulR R ts xs ys = chrR R (mulT xs ys)) := by
        show _ = _
        unfold mulR
        rw [hT, Int.toNat_natCast, hQ]
        rfl
      have HU := hidP (chrB_iff.1 hP1)
      have HV := hidP (chrB_iff.1 hQ)
      rw [hT] at HP
      rw [hQ] at HL
      have hnl := H.out.len
      have hnl' := H'.out.len
      have hu4 := HU.out.len
      have hv4 := HV.out.len
      clear hT hT2 hP1 hQ hr1 hr4
      have HMl := hidP (fun w' (hx : Ext w1 w') => l8Mul_any a n c xs a' n' c' ys w' (H.out.below hx) (H'.out.below hx) hR HU.out HV.out)
      go_enter Tryz.func48, Tryz.ntmps48
      go_wp2_with fail
      rw [← hw1]
      clear hw1
      refine HP.out.mono ?_
      rintro e w2 ⟨rfl, hx⟩
      obtain ⟨g0, g1⟩ := HC.out w2 hx
      have HX := hidP hx
      clear hx f0 f1
      go_wp2_with fail
      refine (HL.out _ HX.out).mono ?_
      rintro e w3 ⟨rfl, hx⟩
      have HY3 := hidP (HX.out.trans hx)
      have HX3 := hidP (HX1.out.trans (HX.out.trans hx))
      clear hx g0 g1
      have hE : Ext w3 w3.drew := Ext.drew w3
      go_wp2
      (refine walkR_start (fun w' => Ext w3 w') 9 (by kernel_rfl) ?_; simp only [numbered, List.take_succ_cons, List.take_zero, Nat.zero_add, Nat.reduceAdd, List.length_cons, List.length_nil])
      (repeat (first | (refine walkR_still (v := ?_) rfl (by decide +kernel) rfl (fun _ _ _ h => h) hE ?_ ?_; rotate_left; (focus (intro w' hw'; obtain ⟨g0, g1⟩ := HC.out w' (HY3.out.trans hw'); go_simp; all_goals (with_reducible rfl))); simp only [Act.put, List.setIfInBounds_toArray, List.set_cons_zero, List.set_cons_succ]) | (refine walkR_skip rfl (by decide +kernel) rfl (fun _ _ _ h => h) hE ?_; simp only [Act.put, List.setIfInBounds_toArray, List.set_cons_zero, List.set_cons_succ])))
      (refine walkR_only (fun w' => Ext w3 w') rfl (by decide +kernel) rfl (fun _ h => h) ?_; intro K hK; go_simp; refine (HMl.out _ (HY3.out.trans hE)).mono ?_; rintro e w4 ⟨g4, q4, c4, hs4, T, rfl, ho4, ⟨hq4, hD⟩, hx4⟩; refine hK _ _ (hE.trans hx4) ?_; clear hK K; (try simp only [Act.put, List.setIfInBounds_toArray, List.set_cons_zero, List.set_cons_succ]))
      have hE4 := hE.trans hx4
      have hl4 := ho4.xl
      have hch := mulT_chr (r := R) hD
      rw [← HR2.out] at hch
      have HCH := hidP hch
      have HGv := hidP (l8Give_any R ta tn tc (some ⟨g4, 0, none⟩) q4 c4 T w4 ho4.termsAt (by omega) (by omega))
      have HO4 := hidP (ho4.weaken (B' := w.heap.size) (Nat.le_trans HX3.out.size hE.size) (Nat.le_refl _))
      clear ho4 hx4 hE hch hD
      cases hb : chrB R T
      · rw [hb, if_neg Bool.false_ne_true] at HGv
        have hJ : Hid (mulR R ts xs ys = (false, [])) := by
          show _ = _
          rw [← HCH.out]
          unfold chrR
          rw [hb]
          rfl
        clear hb
        (refine walkR_only (fun w' => Ext w3 w') rfl (by decide +kernel) rfl (fun _ h => h) ?_; intro K hK; go_simp; refine (HGv.out).mono ?_; rintro e w5 ⟨rfl, hx5⟩; refine hK _ _ (hE4.trans hx5) ?_; clear hK K; (try simp only [Act.put, List.setIfInBounds_toArray, List.set_cons_zero, List.set_cons_succ]))
        have hE5 := hE4.trans hx5
        (repeat (first | (refine walkR_still (v := ?_) rfl (by decide +kernel) rfl (fun _ _ _ h => h) hE5 ?_ ?_; rotate_left; (focus (intro w' hw'; skip; go_simp; all_goals (with_reducible rfl))); simp only [Act.put, List.setIfInBounds_toArray, List.set_cons_zero, List.set_cons_succ]) | (refine walkR_skip rfl (by decide +kernel) rfl (fun _ _ _ h => h) hE5 ?_; simp only [Act.put, List.setIfInBounds_toArray, List.set_cons_zero, List.set_cons_succ])))
        (refine walkR_tail (by rfl) (by kernel_rfl) ?_; simp only [List.drop_succ_cons, List.drop_zero])
        have HX5 := hidP (HX3.out.trans hE5)
        clear hx5 hE4 hE5
        go_wp2
        refine bodyPost_ret (v := .tuple #[.slice none 0 0, .bool false]) (by simp [results, Tryz.results48, go_sem]) rfl ?_
        have hO : OwnK stepK w5 w.heap.size w5.heap.size none 0 0 [] (mulR R ts xs ys).2 := by
          rw [hJ.out]
          exact OwnK.nil stepK _ _ _
        first | exact ⟨none, 0, 0, [], by rw [hJ.out], hO, HX5.out⟩ | exact ⟨none, 0, 0, by rw [hJ.out], ⟨[], hO⟩, HX5.out⟩
      · rw [hb, if_pos rfl] at HGv
        have hJ : Hid (mulR R ts xs ys = (true, T)) := by
          show _ = _
          rw [← HCH.out]
          unfold chrR
          rw [hb]
          rfl
        clear hb
        (refine walkR_only (fun w' => Ext w3 w') rfl (by decide +kernel) rfl (fun _ h => h) ?_; intro K hK; go_simp; refine (HGv.out).mono ?_; rintro e w5 ⟨rfl, hx5⟩; refine hK _ _ (hE4.trans hx5) ?_; clear hK K; (try simp only [Act.put, List.setIfInBounds_toArray, List.set_cons_zero, List.set_cons_succ]))
        have hE5 := hE4.trans hx5
        (repeat (first | (refine walkR_still (v := ?_) rfl (by decide +kernel) rfl (fun _ _ _ h => h) hE5 ?_ ?_; rotate_left; (focus (intro w' hw'; skip; go_simp; all_goals (with_reducible rfl))); simp only [Act.put, List.setIfInBounds_toArray, List.set_cons_zero, List.set_cons_succ]) | (refine walkR_skip rfl (by decide +kernel) rfl (fun _ _ _ h => h) hE5 ?_; simp only [Act.put, List.setIfInBounds_toArray, List.set_cons_zero, List.set_cons_succ])))
        (refine walkR_tail (by rfl) (by kernel_rfl) ?_; simp only [List.drop_succ_cons, List.drop_zero])
        have HX5 := hidP (HX3.out.trans hE5)
        have HO5 := hidP ((HO4.out.below hx5).weaken (Nat.le_refl _) hx5.size)
        clear hx5 hE4 hE5
        go_wp2
        refine bodyPost_ret (v := .tuple #[.slice (some ⟨g4, 0, none⟩) q4 c4, .bool true]) (by simp [results, Tryz.results48, go_sem]) rfl ?_
        have hO : OwnK stepK w5 w.heap.size w5.heap.size (some ⟨g4, 0, none⟩) q4 c4 hs4 (mulR R ts xs ys).2 := by
          rw [hJ.out]
          exact HO5.out
        first | exact ⟨some ⟨g4, 0, none⟩, q4, c4, hs4, by rw [hJ.out], hO, HX5.out⟩ | exact ⟨some ⟨g4, 0, none⟩, q4, c4, by rw [hJ.out], ⟨hs4, hO⟩, HX5.out⟩
end Go.Proofs.YtnfbfdamlnjblaaGreatDoor
