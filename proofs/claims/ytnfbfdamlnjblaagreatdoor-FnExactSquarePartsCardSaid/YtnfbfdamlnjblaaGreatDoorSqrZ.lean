/-
  Products of lists of terms, plain. No program in sight.
  The program's products of lists of terms. Printed by gen/mul.py.
  The reference's products of lists of terms. Printed by gen/mul.py.
  A store at a key that a map has, while it is ranged over.
  Halves of a product and a double, plain. No program in sight.
  The program's counts once more: each key of the numbers is one of the words. Printed by gen/sqr.py.
  The program's SquareParts.
  The reference's SquareParts.
-/
import Derived.Test.YtnfbfdamlnjblaaGreatDoorJoinZ
import Derived.Test.YtnfbfdamlnjblaaGreatDoorCntZ
import Derived.Maps.RangeWalk
import Derived.Maps.OwnOps
namespace Go.Proofs.YtnfbfdamlnjblaaGreatDoor
open Go.RowKit

def plusT (p q : Tm) : Tm := (plusV p.1 1 q.1, p.2 * q.2)
def mulL (us vs : List Tm) : List Tm := us.flatMap fun p => vs.map (plusT p)
/-- what stands behind k rows and j more -/
def mulK (us vs : List Tm) (k j : Nat) : List Tm := mulL (us.take k) vs ++ (vs.take j).map (plusT (wayAt us k, lenAt us k))
theorem mulK_zero (us vs : List Tm) (k : Nat) : mulK us vs k 0 = mulL (us.take k) vs := by simp [mulK]
theorem at_eq {us : List Tm} {k : Nat} (hk : k < us.length) : (wayAt us k, lenAt us k) = us[k] := by
  unfold wayAt lenAt
  rw [getT hk]
theorem mulK_row {us vs : List Tm} {k : Nat} (hk : k < us.length) : mulK us vs k vs.length = mulL (us.take (k + 1)) vs := by
  unfold mulK mulL
  rw [List.take_succ_eq_append_getElem hk, List.flatMap_append, List.take_length, at_eq hk]
  simp
theorem mulK_succ {us vs : List Tm} {k j : Nat} (hj : j < vs.length) : mulK us vs k (j + 1) = mulK us vs k j ++ [plusT (wayAt us k, lenAt us k) (wayAt vs j, lenAt vs j)] := by
  unfold mulK
  rw [List.take_succ_eq_append_getElem hj, List.map_append, ← List.append_assoc, at_eq hj]
  rfl
theorem mulL_prefix (us vs : List Tm) (k : Nat) : mulL (us.take k) vs <+: mulL us vs := by
  refine ⟨mulL (us.drop k) vs, ?_⟩
  unfold mulL
  rw [← List.flatMap_append, List.take_append_drop]
theorem mulK_prefix {us vs : List Tm} {k : Nat} (j : Nat) (hk : k < us.length) : mulK us vs k j <+: mulL us vs := by
  refine List.IsPrefix.trans ⟨(vs.drop j).map (plusT (wayAt us k, lenAt us k)), ?_⟩ (mulL_prefix us vs (k + 1))
  rw [← mulK_row hk]
  unfold mulK
  rw [List.append_assoc, ← List.map_append, List.take_append_drop, List.take_length]
theorem mulL_length {us vs : List Tm} (hv : vs.length ≤ 400) : (mulL us vs).length ≤ 400 * us.length := by
  unfold mulL
  induction us with
  | nil => simp
  | cons p us ih =>
    rw [List.flatMap_cons, List.length_append, List.length_map, List.length_cons]
    omega
theorem mul_each {r : Nat} {us vs : List Tm} (hr : r ≤ 4) (hu : ChrP r us) (hv : ChrP r vs) : ∀ p ∈ mulL us vs, 1 ≤ p.2 ∧ p.2 ≤ 1000000000000 ∧ p.1.length = r ∧ KeyOk p.1 := fun p hp => by
  unfold mulL at hp
  rw [List.mem_flatMap] at hp
  obtain ⟨s, hs, hp⟩ := hp
  rw [List.mem_map] at hp
  obtain ⟨t, ht, rfl⟩ := hp
  have hs2 := hu.each s hs
  have ht2 := hv.each t ht
  obtain ⟨i, hi, rfl⟩ := List.getElem_of_mem hs
  obtain ⟨j, hj, rfl⟩ := List.getElem_of_mem ht
  have h1 := hu.at hr hi
  have h2 := hv.at hr hj
  unfold wayAt lenAt at h1 h2
  rw [getT hi] at h1
  rw [getT hj] at h2
  obtain ⟨a1, a2, a3, a4⟩ := h1
  obtain ⟨b1, b2, b3, b4⟩ := h2
  have m1 := Int.mul_le_mul a3 b3 (by omega) (by omega)
  have m2 := Int.mul_le_mul a4 b4 (by omega) (by omega)
  refine ⟨by unfold plusT; omega, by unfold plusT; omega, by unfold plusT; rw [plusV_length]; exact a1, fun j' hj' => ?_, by unfold plusT; rw [plusV_length]; omega⟩
  unfold plusT at hj' ⊢
  rw [plusV_length] at hj'
  rw [plusV_get _ _ _ _ hj']
  have := a2 j' (by omega)
  have := b2 j' (by omega)
  omega
theorem prefix_bound {r : Nat} {us vs L : List Tm} (hr : r ≤ 4) (hu : ChrP r us) (hv : ChrP r vs) (hL : L <+: mulL us vs) (x : List Int) : 0 ≤ cntSum L x ∧ cntSum L x ≤ 160000000000000000 := by
  have hlu := hu.len
  have h1 := mulL_length (us := us) hv.len
  have h2 := hL.length_le
  have h3 := cntSum_bound (M := 1000000000000) (by omega) (l := L) x fun p hp => by
    have := mul_each hr hu hv p (hL.subset hp)
    omega
  have h4 : (L.length : Int) * 1000000000000 ≤ 160000 * 1000000000000 := Int.mul_le_mul_of_nonneg_right (by omega) (by omega)
  omega
theorem put_more (l : List Tm) (w : List Int) (n : Int) : l.length ≤ (putT l w n).length := by
  induction l with
  | nil => simp
  | cons t l ih =>
    unfold putT
    split
    · simp only [List.length_cons]; omega
    · split <;> simp
theorem puts_more (n : Int) : ∀ (b o : List Tm), o.length ≤ (putsT o n b).length
  | [], _ => Nat.le_refl _
  | t :: b, o => Nat.le_trans (put_more o t.1 (n * t.2)) (puts_more n b (putT o t.1 (n * t.2)))
theorem puts_append (o : List Tm) (n : Int) (a b : List Tm) : putsT o n (a ++ b) = putsT (putsT o n a) n b := by
  unfold putsT
  rw [List.foldl_append]
theorem mem_put2 {l : List Tm} {w : List Int} {n : Int} {p : Tm} (h : p ∈ putT l w n) : p ∈ l ∨ p = (w, n) ∨ ∃ t ∈ l, p = (w, t.2 + n) := by
  induction l with
  | nil =>
    simp only [putT, List.mem_singleton] at h
    exact .inr (.inl h)
  | cons t l ih =>
    unfold putT at h
    split at h
    · rcases List.mem_cons.1 h with rfl | h
      · exact .inl (by simp)
      · rcases ih h with h | h | ⟨t', ht', h⟩
        · exact .inl (by simp [h])
        · exact .inr (.inl h)
        · exact .inr (.inr ⟨t', by simp [ht'], h⟩)
    · split at h
      · rcases List.mem_cons.1 h with rfl | h
        · exact .inr (.inr ⟨t, by simp, rfl⟩)
        · exact .inl (by simp [h])
      · rcases List.mem_cons.1 h with rfl | h
        · exact .inr (.inl rfl)
        · exact .inl h
theorem puts_pos : ∀ (b : List Tm) {o : List Tm}, (∀ p ∈ o, 0 < p.2) → (∀ p ∈ b, 0 < p.2) → ∀ p ∈ putsT o 1 b, 0 < p.2
  | [], _, ho, _, p, hp => ho p hp
  | t :: b, o, ho, hb, p, hp => by
    refine puts_pos b (o := putT o t.1 (1 * t.2)) (fun q hq => ?_) (fun q hq => hb q (by simp [hq])) p hp
    have ht := hb t (by simp)
    rcases mem_put2 hq with h | h | ⟨t', ht', h⟩
    · exact ho q h
    · rw [h]; show 0 < 1 * t.2; omega
    · rw [h]; have := ho t' ht'; show 0 < t'.2 + 1 * t.2; omega
/-- the product, in order -/
def mulT (us vs : List Tm) : List Tm := joinT [] 1 (mulL us vs)
theorem mulT_eq {r : Nat} {us vs : List Tm} (hr : r ≤ 4) (hu : ChrP r us) (hv : ChrP r vs) : mulT us vs = putsT [] 1 (mulL us vs) := by
  unfold mulT joinT
  refine clean_self fun p hp => ?_
  have := puts_pos (mulL us vs) (o := cleanT []) (fun q hq => by simp [cleanT] at hq) (fun q hq => by have := mul_each hr hu hv q hq; omega) p hp
  omega
theorem mulT_tells (us vs : List Tm) : Ordered Above (mulT us vs) ∧ Tells (cntSum (mulL us vs)) (mulT us vs) := by
  have := joinT_tells (a := []) (b := mulL us vs) 1 List.Pairwise.nil
  rwa [List.nil_append, timesT_one] at this
theorem mulT_length {us vs : List Tm} (hu : us.length ≤ 400) (hv : vs.length ≤ 400) : (mulT us vs).length ≤ 160000 := by
  have h1 := joinT_length [] 1 (mulL us vs)
  have h2 := mulL_length (us := us) hv
  unfold mulT
  simp only [List.length_nil] at h1
  omega
theorem mulT_stopped {r : Nat} {us vs L : List Tm} (hr : r ≤ 4) (hu : ChrP r us) (hv : ChrP r vs) (hL : L <+: mulL us vs) : (putsT [] 1 L).length ≤ (mulT us vs).length := by
  obtain ⟨M, hM⟩ := hL
  rw [mulT_eq hr hu hv, ← hM, puts_append]
  exact puts_more 1 M _
def mulR (r : Int) (ts : List Int) (us vs : List Tm) : Bool × List Tm := if typeB r ts && chrB r.toNat us then (if chrB r.toNat vs then chrR r.toNat (mulT us vs) else (false, [])) else (false, [])
theorem mulR_small (r : Int) (ts : List Int) (us vs : List Tm) : SmallL (mulR r ts us vs).2 := by
  unfold mulR
  split
  · rename_i h
    simp only [Bool.and_eq_true] at h
    have := typeB_rank h.1
    split
    · exact chrR_small (by omega) _
    · exact SmallL.nil
  · exact SmallL.nil
end Go.Proofs.YtnfbfdamlnjblaaGreatDoor

namespace Go.Proofs.YtnfbfdamlnjblaaGreatDoor
open Go.RowKit

theorem StpAt.extM {b1 b2 : Nat} {w w' : World} {b : Nat} {a : Option Addr} {n c : Nat} {l : Int} (h : StpAt w b a n c l) (hx : ExtM b1 b2 w w') (m1 : IsMapAt w b1) (m2 : IsMapAt w b2) : StpAt w' b a n c l :=
  ⟨hx.cell m1 m2 h.c0, hx.cell m1 m2 h.c1⟩
set_option maxRecDepth 100000 in
set_option maxHeartbeats 4000000 in
theorem product_any {R : Nat} (a : Option Addr) (n c : Nat) (us : List Tm) (a' : Option Addr) (n' c' : Nat) (vs : List Tm) (w : World) (h : StepsAt w a n us) (h' : StepsAt w a' n' vs) (hR4 : R ≤ 4) (hP : ChrP R us) (hP' : ChrP R vs) (ht : Tab w) :
    Calls Tryz.prog 102 #[.slice a n c, .slice a' n' c'] w fun e w' => ∃ b, e = .returned (cntV b (b + 1)) ∧ (∃ q f1 f2, Counts w' b (b + 1) q (cntSum (mulL us vs)) f1 f2) ∧ w.heap.size ≤ b ∧ Ext w w' := by
  have hx1 := Ext.alloc w (.cells #[.map none, .map none] 107)
  have hz1 : (w.alloc (.cells #[.map none, .map none] 107)).heap.size = w.heap.size + 1 := by simp
  have HZ := hidP (fun w' (hx : Ext (w.alloc (.cells #[.map none, .map none] 107)) w') j => new_cell (w' := w') (w := w) (cs := #[.map none, .map none]) (E := 107) (b := w.heap.size) rfl hx j)
  have H := hidP (h.below hx1)
  have H' := hidP (h'.below hx1)
  have HTb := hidP (ht.below hx1)
  have HX1 := hidP hx1
  have HP1 := hidP hP
  have HP2 := hidP hP'
  have hnl := h.len
  have hn4 := hP.len
  have hnl' := h'.len
  have hn4' := hP'.len
  have HN := hidP (fun w' => newCounts_any w')
  clear h h' ht hP hP' hx1
  go_enter Tryz.func102, Tryz.ntmps102
  go_wp2_with fail
  refine (HN.out _).mono ?_
  rintro e w3 ⟨b, rfl, hC3, hb3, hx3⟩
  have hx4 := Ext.alloc w3 (.cells #[.map (some b), .map (some (b + 1))] 107)
  have HX4 := hidP (hx3.trans hx4)
  have HC4 := hidP (hC3.below hx4)
  have HA4 := hidP (CntAt.new w3 _ rfl b (b + 1) 107)
  have HB := hidP hb3
  obtain ⟨wA, hwA⟩ : ∃ wA, wA = w.alloc (.cells #[.map none, .map none] 107) := ⟨_, rfl⟩
  rw [← hwA] at HX1 HX4 HB HZ H H' HTb hz1
  have HZ1 := hidP hz1
  obtain ⟨w4, hw4⟩ : ∃ w4, w4 = w3.alloc (.cells #[.map (some b), .map (some (b + 1))] 107) := ⟨_, rfl⟩
  rw [← hw4] at HX4 HC4 HA4
  obtain ⟨bk, hbk⟩ : ∃ bk, bk = w3.heap.size := ⟨_, rfl⟩
  rw [← hbk] at HA4
  clear hC3 hb3 hx3 hx4 hz1
  go_wp2
  rw [← hw4, ← hbk]
  clear hw4 hbk
  have HWA := hidP hwA
  clear hwA
  go_loopw [13] (fun i wr => ∃ k : Nat, k ≤ n ∧ i = .int .i64 k ∧ Hid (∃ q f1 f2, q ≤ 400 * k ∧ Counts wr b (b + 1) q (cntSum (mulL (us.take k) vs)) f1 f2) ∧ Hid (CntAt wr bk b (b + 1)) ∧ Hid (Ext wA wr)) (fun i _ => n - (intOf i).toNat)
  case atStart => exact ⟨0, Nat.zero_le _, rfl, hidP ⟨_, _, _, Nat.zero_le _, HC4.out⟩, HA4, HX4⟩
  case round =>
    clear HC4 HA4 HX4
    obtain ⟨k, hk, rfl, HCn, HA, HX⟩ := hrel
    by_cases hlt : k < n
    · obtain ⟨bu, o, aw, cw, W, L, rfl, HW, HL, hwl, HNl, hq⟩ := (H.out.below HX.out).way k hlt
      have HQ := hidP hq
      obtain ⟨q1, q2, _⟩ := hq wr (Ext.refl wr)
      have hat := HP1.out.at hR4 (k := k) (by omega)
      rw [HW.out, HL.out] at hat
      obtain ⟨hWl, hWb, hL1, hL2⟩ := hat
      have HS := hidP (StpAt.new wr _ rfl aw W.length cw L 104)
      have hx5 := Ext.alloc wr (.cells #[.slice aw W.length cw, .int .i64 L] 104)
      have HI5 := hidP ((HQ.out wr (Ext.refl _)).2.2.below hx5)
      have HA5 := hidP (HA.out.below hx5)
      have HX5 := hidP (HX.out.trans hx5)
      have HC5 : Hid (∃ q f1 f2, q ≤ 400 * k ∧ Counts (wr.alloc (.cells #[.slice aw W.length cw, .int .i64 L] 104)) b (b + 1) q (cntSum (mulL (us.take k) vs)) f1 f2) := by
        obtain ⟨q, f1, f2, hq, hC⟩ := HCn.out
        exact ⟨q, f1, f2, hq, hC.below hx5⟩
      obtain ⟨w5, hw5⟩ : ∃ w5, w5 = wr.alloc (.cells #[.slice aw W.length cw, .int .i64 L] 104) := ⟨_, rfl⟩
      rw [← hw5] at HS HI5 HA5 HX5 HC5
      obtain ⟨bs, hbs⟩ : ∃ bs, bs = wr.heap.size := ⟨_, rfl⟩
      rw [← hbs] at HS
      have HWb := hidP hWb
      have HWl := hidP hWl
      have HLb := hidP (show 1 ≤ L ∧ L ≤ 1000000 from ⟨hL1, hL2⟩)
      clear hq hWb hWl hL1 hL2 hx5 HA HX HCn HQ
      go_wp2
      rw [← hw5, ← hbs]
      clear hw5 hbs q1 q2
      go_loopw [19] (fun i wr => ∃ j : Nat, j ≤ n' ∧ i = .int .i64 j ∧ Hid (∃ q f1 f2, q ≤ 400 * k + j ∧ Counts wr b (b + 1) q (cntSum (mulK us vs k j)) f1 f2) ∧ Hid (CntAt wr bk b (b + 1)) ∧ Hid (StpAt wr bs aw W.length cw L) ∧ Hid (IntsAt wr aw W.length W) ∧ Hid (Ext wA wr)) (fun i _ => n' - (intOf i).toNat)
      case atStart =>
        rw [← mulK_zero] at HC5
        exact ⟨0, Nat.zero_le _, rfl, HC5, HA5, HS, HI5, HX5⟩
      case round =>
        clear HC5 HA5 HS HI5 HX5
        obtain ⟨j, hj, rfl, HCn, HA, HS, HI, HX⟩ := hrel
        by_cases hlt' : j < n'
        · obtain ⟨bv, o', av, cv, V, M, rfl, HV, HM, hvl, HNv, hq⟩ := (H'.out.below HX.out).way j hlt'
          have HQ := hidP hq
          obtain ⟨q1, q2, _⟩ := hq wr (Ext.refl wr)
          have hat := HP2.out.at hR4 (k := j) (by omega)
          rw [HV.out, HM.out] at hat
          obtain ⟨hVl, hVb, hM1, hM2⟩ := hat
          have hbd := prefix_bound hR4 HP1.out HP2.out (mulK_prefix (us := us) (vs := vs) j (k := k) (by omega)) (plusV W 1 V)
          have hm1 := Int.mul_le_mul HLb.out.1 hM1 (by omega) (by have := HLb.out; omega)
          have hm2 := Int.mul_le_mul HLb.out.2 hM2 (by omega) (by omega)
          have hmw : IntKind.i64.wrap (L * M) = L * M := wrap_in (by omega) (by omega)
          have HSn : Hid (addG (cntSum (mulK us vs k j)) (plusV W 1 V) (L * M) = cntSum (mulK us vs k (j + 1))) := by
            show _ = _
            rw [mulK_succ (by omega), cntSum_snoc, HW.out, HL.out, HV.out, HM.out]
            rfl
          have hWl := HWl.out
          have HKo : Hid (KeyOk (plusV W 1 V)) := by
            refine ⟨fun i hi => ?_, by rw [plusV_length]; omega⟩
            rw [plusV_length] at hi
            rw [plusV_get _ _ _ _ hi]
            have := HWb.out i (by omega)
            have := hVb i (by omega)
            omega
          have HPl : Hid (PlusIn W 1 V) := fun i hi => by
            have := HWb.out i (by omega)
            have := hVb i (by omega)
            omega
          have HA2 := hidP (Ext.alloc wr (.cells #[.slice av V.length cv, .int .i64 M] 104))
          have HT := hidP (fun w' (hx : Ext (wr.alloc (.cells #[.slice av V.length cv, .int .i64 M] 104)) w') => (StpAt.new wr _ rfl av V.length cv M 104).below hx)
          obtain ⟨w5, hw5⟩ : ∃ w5, w5 = wr.alloc (.cells #[.slice av V.length cv, .int .i64 M] 104) := ⟨_, rfl⟩
          rw [← hw5] at HA2 HT
          obtain ⟨bt, hbt⟩ : ∃ bt, bt = wr.heap.size := ⟨_, rfl⟩
          rw [← hbt] at HT
          have HAb := hidP (fun w' (hx : Ext w5 w') => HA.out.below (HA2.out.trans hx))
          have HSb := hidP (fun w' (hx : Ext w5 w') => HS.out.below (HA2.out.trans hx))
          have HLp := hidP (fun w' (hx : Ext w5 w') => listPlus_any aw W.length cw W 1 av V.length cv V w' (HI.out.below (HA2.out.trans hx)) HNl.out (by omega) (HQ.out w' (HA2.out.trans hx)).2.2 (by omega) HPl.out)
          obtain ⟨G, hG⟩ : ∃ G, G = cntSum (mulK us vs k j) := ⟨_, rfl⟩
          rw [← hG] at HCn HSn hbd
          have HGb := hidP hbd
          have HMb := hidP (show 1 ≤ L * M ∧ L * M ≤ 1000000000000 by omega)
          clear hq hG hVb hbd hM1 hM2 hWl hVl hm1 hm2
          go_wp2
          rw [← hw5, ← hbt]
          clear hw5 hbt q1 q2
          have hE : Ext w5 w5.drew := Ext.drew w5
          (refine walkR_start (fun w' => Ext w5 w') 11 (by kernel_rfl) ?_; simp only [numbered, List.take_succ_cons, List.take_zero, Nat.zero_add, Nat.reduceAdd, List.length_cons, List.length_nil])
          (repeat (first | (refine walkR_still (v := ?_) rfl (by decide +kernel) rfl (fun _ _ _ h => h) hE ?_ ?_; rotate_left; (focus (intro w' hw'; obtain ⟨z0, z1⟩ := HAb.out w' hw'; obtain ⟨q1, q2⟩ := HSb.out w' hw'; obtain ⟨y1, y2⟩ := HT.out w' hw'; go_simp; all_goals (with_reducible rfl))); simp only [Act.put, List.setIfInBounds_toArray, List.set_cons_zero, List.set_cons_succ]) | (refine walkR_skip rfl (by decide +kernel) rfl (fun _ _ _ h => h) hE ?_; simp only [Act.put, List.setIfInBounds_toArray, List.set_cons_zero, List.set_cons_succ])))
          (refine walkR_later ?_; simp only [List.cons_append, List.nil_append])
          (repeat (first | (refine walkR_still (v := ?_) rfl (by decide +kernel) rfl (fun _ _ _ h => h) hE ?_ ?_; rotate_left; (focus (intro w' hw'; obtain ⟨q1, q2⟩ := HSb.out w' hw'; obtain ⟨y1, y2⟩ := HT.out w' hw'; go_simp; all_goals (with_reducible rfl))); simp only [Act.put, List.setIfInBounds_toArray, List.set_cons_zero, List.set_cons_succ]) | (refine walkR_skip rfl (by decide +kernel) rfl (fun _ _ _ h => h) hE ?_; simp only [Act.put, List.setIfInBounds_toArray, List.set_cons_zero, List.set_cons_succ])))
          (refine walkR_only (fun w' => Ext w5 w') rfl (by decide +kernel) rfl (fun _ h => h) ?_; intro K hK; go_simp; refine (HLp.out _ hE).mono ?_; rintro e w6 ⟨a1, c1, rfl, ho1, hx6⟩; refine hK _ _ (hE.trans hx6) ?_; clear hK K; (try simp only [Act.put, List.setIfInBounds_toArray, List.set_cons_zero, List.set_cons_succ]))
          have hE3 := HA2.out.trans (hE.trans hx6)
          obtain ⟨q, f1, f2, hqk, hCn⟩ := HCn.out
          have hi1 := ho1.ints
          have hp1 : (plusV W 1 V).length = W.length := plusV_length _ _ _
          have HAd := hidP (cntAdd_any b (b + 1) q G f1 f2 a1 W.length c1 (plusV W 1 V) (L * M) w6 (hCn.below hE3) HKo.out hi1 ho1.nil_cap (by omega) (by have := HMb.out; have := HGb.out; omega) (by have := HMb.out; have := HGb.out; omega) (HTb.out.below (HX.out.trans hE3)))
          have HM1 := hidP ((hCn.below hE3).m1.is)
          have HM2 := hidP ((hCn.below hE3).m2.is)
          have HA6 := hidP (HA.out.below hE3)
          have HS6 := hidP (HS.out.below hE3)
          have HI6 := hidP (HI.out.below hE3)
          have HX6 := hidP (HX.out.trans hE3)
          have Hqk := hidP hqk
          clear ho1 hx6 hE hE3 hCn HCn hi1 hp1 hqk
          (refine walkR_tail (by rfl) (by kernel_rfl) ?_; simp only [List.drop_succ_cons, List.drop_zero])
          go_wp2_with fail
          refine HAd.out.mono ?_
          rintro e w7 ⟨rfl, ⟨g1, g2, hC7⟩, hx7⟩
          rw [HSn.out] at hC7
          have HC7 : Hid (∃ q f1 f2, q ≤ 400 * k + (j + 1) ∧ Counts w7 b (b + 1) q (cntSum (mulK us vs k (j + 1))) f1 f2) := hidP ⟨_, g1, g2, by have := Hqk.out; omega, hC7⟩
          have HA7 := hidP (HA6.out.extM hx7 HM1.out HM2.out)
          have HS7 := hidP (HS6.out.extM hx7 HM1.out HM2.out)
          have HI7 := hidP (HI6.out.extM hx7 HM1.out HM2.out)
          have HX7 := hidP (hx7.below HX6.out HB.out (Nat.le_succ_of_le HB.out) HX6.out.size)
          clear hC7 hx7
          go_wp2
          go_roundw
          case rel => exact ⟨j + 1, by omega, by go_num, HC7, HA7, HS7, HI7, HX7⟩
          case measure => simp [intOf]; omega
        · obtain rfl : n' = j := by omega
          have HC8 : Hid (∃ q f1 f2, q ≤ 400 * (k + 1) ∧ Counts wr b (b + 1) q (cntSum (mulL (us.take (k + 1)) vs)) f1 f2) := by
            obtain ⟨q, f1, f2, hq, hC⟩ := HCn.out
            rw [← hnl', mulK_row (by omega)] at hC
            exact ⟨q, f1, f2, by omega, hC⟩
          clear HCn HS HI
          go_wp2
          go_roundw
          case rel => exact ⟨k + 1, by omega, by go_num, HC8, HA, HX⟩
          case measure => simp [intOf]; omega
    · obtain rfl : n = k := by omega
      have HTk : Hid (us.take n = us) := List.take_of_length_le (by omega)
      rw [HTk.out] at HCn
      obtain ⟨z0, z1⟩ := HA.out
      have r0 := ((HZ.out wr HX.out 0).1).trans (show _ = some (Value.map none) from rfl)
      have r1 := ((HZ.out wr HX.out 1).1).trans (show _ = some (Value.map none) from rfl)
      have y0 := (HZ.out wr HX.out 0).2
      have y1 := (HZ.out wr HX.out 1).2
      obtain ⟨q, f1, f2, _, hCn⟩ := HCn.out
      have hblk : wr.heap[w.heap.size]? = some (.cells #[.map none, .map none] 107 (0, 0)) := by
        rw [HX.out.block _ (by have := HZ1.out; omega), HWA.out]
        exact heap_alloc_new _ _
      have HC9 := hidP (hCn.set2 hblk (.map (some b)) (.map (some (b + 1))))
      have HX9 : Hid (Ext w ((wr.setCell ⟨w.heap.size, 0, none⟩ (.map (some b))).setCell ⟨w.heap.size, 1, none⟩ (.map (some (b + 1))))) := Ext.setNew (Ext.setNew (HX1.out.trans HX.out) _ _ (Nat.le_refl _) _) _ _ (Nat.le_refl _) _
      have hs0 : ((wr.setCell ⟨w.heap.size, 0, none⟩ (.map (some b))).setCell ⟨w.heap.size, 1, none⟩ (.map (some (b + 1)))).cell? ⟨w.heap.size, 0, none⟩ = some (.map (some b)) := by
        simp [World.setCell, World.cell?, Array.getElem?_modify, hblk]
      have hs1 : ((wr.setCell ⟨w.heap.size, 0, none⟩ (.map (some b))).setCell ⟨w.heap.size, 1, none⟩ (.map (some (b + 1)))).cell? ⟨w.heap.size, 1, none⟩ = some (.map (some (b + 1))) := by
        simp [World.setCell, World.cell?, Array.getElem?_modify, hblk]
      have HBb : Hid (w.heap.size ≤ b) := by have := HB.out; have := HZ1.out; show _ ≤ _; omega
      clear hblk hCn HCn
      go_wp2
      refine bodyPost_ret (v := cntV b (b + 1)) (by simp [results, Tryz.results102, go_sem, hs0, hs1]) rfl ⟨b, rfl, ⟨q, f1, f2, HC9.out⟩, HBb.out, HX9.out⟩
set_option maxRecDepth 100000 in
set_option maxHeartbeats 4000000 in
theorem mulCharacters_any (r : Int) (ta : Option Addr) (tn tc : Nat) (ts : List Int) (a : Option Addr) (n c : Nat) (xs : List Tm) (a' : Option Addr) (n' c' : Nat) (ys : List Tm) (w : World) (hc : IntsAt w ta tn ts) (hcn : tn ≤ 9223372036854775807)
    (h : StepsAt w a n xs) (hn : n ≤ 9223372036854775807) (h' : StepsAt w a' n' ys) (hn' : n' ≤ 9223372036854775807) (hm : MaxL w) (ht : Tab w) :
    PathRes 49 #[carV r ta tn tc, .slice a n c, .slice a' n' c'] w (mulR r ts xs ys) := by
  unfold PathRes
  have hx1 := Ext.alloc w (.cells #[.int .i64 r, .slice ta tn tc] 55)
  have HC := hidP (fun w' (hx : Ext (w.alloc (.cells #[.int .i64 r, .slice ta tn tc] 55)) w') => (CarAt.new w _ rfl r ta tn tc 55).below hx)
  have HX1 := hidP hx1
  have H := hidP (h.below hx1)
  have H' := hidP (h'.below hx1)
  have HIs := hidP (fun w' (hx : Ext w w') => isCartan_any r ta tn tc ts w' (hc.below hx) hcn (hm.below hx))
  have HP := hidP (characterOk_of r ta tn tc ts a n c xs _ (h.below hx1).terms hn (fun w' hx => HIs.out w' (hx1.trans hx)))
  have HP' := hidP (fun w' (hx : Ext (w.alloc (.cells #[.int .i64 r, .slice ta tn tc] 55)) w') => characterOk_of r ta tn tc ts a' n' c' ys w' ((h'.below hx1).below hx).terms hn' (fun w'' hx' => HIs.out w'' ((hx1.trans hx).trans hx')))
  have HTb := hidP ht
  clear ht
  have hs1 : w.heap.size ≤ (w.alloc (.cells #[.int .i64 r, .slice ta tn tc] 55)).heap.size := hx1.size
  clear hc h h' hx1 hm
  obtain ⟨w1, hw1⟩ : ∃ w1, w1 = w.alloc (.cells #[.int .i64 r, .slice ta tn tc] 55) := ⟨_, rfl⟩
  rw [← hw1] at HC HX1 H H' HP HP' hs1
  have HS1 := hidP hs1
  clear hs1
  obtain ⟨f0, f1⟩ := HC.out w1 (Ext.refl w1)
  cases hT : (typeB r ts && chrB r.toNat xs)
  · have HR : Hid (mulR r ts xs ys = (false, [])) := by
      show _ = _
      unfold mulR
      rw [hT]
      rfl
    rw [hT] at HP
    clear hT
    go_enter Tryz.func49, Tryz.ntmps49
    go_wp2_with fail
    rw [← hw1]
    clear hw1
    refine HP.out.mono ?_
    rintro e w2 ⟨rfl, hx⟩
    have HX := hidP hx
    clear hx
    go_wp2
    refine bodyPost_ret (v := .tuple #[.slice none 0 0, .bool false]) (by simp [results, Tryz.results49, go_sem]) rfl ⟨none, 0, 0, [], by rw [HR.out], ?_, HX1.out.trans HX.out⟩
    rw [HR.out]
    exact OwnK.nil stepK _ _ _
  · have hT2 : typeB r ts = true := by
      simp only [Bool.and_eq_true] at hT
      exact hT.1
    have hP1 : chrB r.toNat xs = true := by
      simp only [Bool.and_eq_true] at hT
      exact hT.2
    obtain ⟨hr1, hr4, _⟩ := typeB_rank hT2
    obtain ⟨R, rfl⟩ : ∃ R : Nat, r = R := ⟨r.toNat, by omega⟩
    rw [Int.toNat_natCast] at hP1
    have hR : R ≤ 4 := by omega
    rw [hT2, Bool.true_and, Int.toNat_natCast] at HP'
    cases hQ : chrB R ys
    · have HR : Hid (mulR R ts xs ys = (false, [])) := by
        show _ = _
        unfold mulR
        rw [hT, Int.toNat_natCast, hQ]
        rfl
      rw [hT] at HP
      rw [hQ] at HP'
      clear hT hT2 hP1 hQ hr1 hr4
      go_enter Tryz.func49, Tryz.ntmps49
      go_wp2_with fail
      rw [← hw1]
      clear hw1
      refine HP.out.mono ?_
      rintro e w2 ⟨rfl, hx⟩
      obtain ⟨g0, g1⟩ := HC.out w2 hx
      have HX := hidP hx
      clear hx f0 f1
      go_wp2_with fail
      refine (HP'.out _ HX.out).mono ?_
      rintro e w3 ⟨rfl, hx⟩
      have HX3 := hidP (HX.out.trans hx)
      clear hx g0 g1
      go_wp2
      refine bodyPost_ret (v := .tuple #[.slice none 0 0, .bool false]) (by simp [results, Tryz.results49, go_sem]) rfl ⟨none, 0, 0, [], by rw [HR.out], ?_, HX1.out.trans HX3.out⟩
      rw [HR.out]
      exact OwnK.nil stepK _ _ _
    · have HR2 : Hid (mulR R ts xs ys = chrR R (mulT xs ys)) := by
        show _ = _
        unfold mulR
        rw [hT, Int.toNat_natCast, hQ]
        rfl
      have HU := hidP (chrB_iff.1 hP1)
      have HV := hidP (chrB_iff.1 hQ)
      have HT2 := hidP hT2
      rw [hT] at HP
      rw [hQ] at HP'
      have hnl := H.out.len
      have hnl' := H'.out.len
      have hu4 := HU.out.len
      have hv4 := HV.out.len
      clear hT hT2 hP1 hQ hr1 hr4
      go_enter Tryz.func49, Tryz.ntmps49
      go_wp2_with fail
      rw [← hw1]
      clear hw1
      refine HP.out.mono ?_
      rintro e w2 ⟨rfl, hx⟩
      obtain ⟨g0, g1⟩ := HC.out w2 hx
      have HX := hidP hx
      clear hx f0 f1
      go_wp2_with fail
      refine (HP'.out _ HX.out).mono ?_
      rintro e w3 ⟨rfl, hx⟩
      have HX3 := hidP (HX1.out.trans (HX.out.trans hx))
      have HY3 := hidP (HX.out.trans hx)
      have HPr := hidP (fun w' (hx : Ext w3 w') => product_any a n c xs a' n' c' ys w' (H.out.below (HY3.out.trans hx)) (H'.out.below (HY3.out.trans hx)) hR HU.out HV.out (HTb.out.below (HX3.out.trans hx)))
      have HCr := hidP (fun w' (hx : Ext w3 w') => HC.out w' (HY3.out.trans hx))
      have hE : Ext w3 w3.drew := Ext.drew w3
      clear hx g0 g1 HC HP
      go_wp2
      (refine walkR_start (fun w' => Ext w3 w') 9 (by kernel_rfl) ?_; simp only [numbered, List.take_succ_cons, List.take_zero, Nat.zero_add, Nat.reduceAdd, List.length_cons, List.length_nil])
      (repeat (first | (refine walkR_still (v := ?_) rfl (by decide +kernel) rfl (fun _ _ _ h => h) hE ?_ ?_; rotate_left; (focus (intro w' hw'; skip; go_simp; all_goals (with_reducible rfl))); simp only [Act.put, List.setIfInBounds_toArray, List.set_cons_zero, List.set_cons_succ]) | (refine walkR_skip rfl (by decide +kernel) rfl (fun _ _ _ h => h) hE ?_; simp only [Act.put, List.setIfInBounds_toArray, List.set_cons_zero, List.set_cons_succ])))
      (refine walkR_later ?_; simp only [List.cons_append, List.nil_append])
      (repeat (first | (refine walkR_still (v := ?_) rfl (by decide +kernel) rfl (fun _ _ _ h => h) hE ?_ ?_; rotate_left; (focus (intro w' hw'; obtain ⟨f0, f1⟩ := HCr.out w' hw'; go_simp; all_goals (with_reducible rfl))); simp only [Act.put, List.setIfInBounds_toArray, List.set_cons_zero, List.set_cons_succ]) | (refine walkR_skip rfl (by decide +kernel) rfl (fun _ _ _ h => h) hE ?_; simp only [Act.put, List.setIfInBounds_toArray, List.set_cons_zero, List.set_cons_succ])))
      (refine walkR_later ?_; simp only [List.cons_append, List.nil_append]); (refine walkR_later ?_; simp only [List.cons_append, List.nil_append]); (refine walkR_later ?_; simp only [List.cons_append, List.nil_append]); (refine walkR_later ?_; simp only [List.cons_append, List.nil_append]); (refine walkR_later ?_; simp only [List.cons_append, List.nil_append])
      (refine walkR_only (fun w' => Ext w3 w') rfl (by decide +kernel) rfl (fun _ h => h) ?_; intro K hK; go_simp; refine (HPr.out _ hE).mono ?_; rintro e w4 ⟨b, rfl, hC4, hb4, hx4⟩; refine hK _ _ (hE.trans hx4) ?_; clear hK K; (try simp only [Act.put, List.setIfInBounds_toArray, List.set_cons_zero, List.set_cons_succ]))
      have hE4 := hE.trans hx4
      have HX4 := hidP (HX3.out.trans hE4)
      obtain ⟨q, f1, f2, hC4⟩ := hC4
      obtain ⟨hjo, hjt⟩ := mulT_tells xs ys
      have HCh := hidP (cntCharacter_any R ta tn tc ts b (b + 1) q _ f1 f2 (mulT xs ys) w4 hC4 hjt hjo (by have := mulT_length (us := xs) (vs := ys) (by omega) (by omega); omega) HT2.out (fun w' hx => HIs.out w' (HX4.out.trans hx)))
      rw [Int.toNat_natCast, ← HR2.out] at HCh
      unfold PathRes at HCh
      clear hC4 hb4 hx4 hE hjo hjt
      (refine walkR_only (fun w' => Ext w3 w') rfl (by decide +kernel) rfl (fun _ h => h) ?_; intro K hK; go_simp; refine (HCh.out).mono ?_; rintro e w8 ⟨a8, n8, c8, hs8, rfl, ho8, hx8⟩; refine hK _ _ (hE4.trans hx8) ?_; clear hK K; (try simp only [Act.put, List.setIfInBounds_toArray, List.set_cons_zero, List.set_cons_succ]))
      have hE8 := hE4.trans hx8
      (repeat (first | (refine walkR_still (v := ?_) rfl (by decide +kernel) rfl (fun _ _ _ h => h) hE8 ?_ ?_; rotate_left; (focus (intro w' hw'; skip; go_simp; all_goals (with_reducible rfl))); simp only [Act.put, List.setIfInBounds_toArray, List.set_cons_zero, List.set_cons_succ]) | (refine walkR_skip rfl (by decide +kernel) rfl (fun _ _ _ h => h) hE8 ?_; simp only [Act.put, List.setIfInBounds_toArray, List.set_cons_zero, List.set_cons_succ])))
      (refine walkR_tail (by rfl) (by kernel_rfl) ?_; simp only [List.drop_succ_cons, List.drop_zero])
      have HO8 := hidP (ho8.weaken (B' := w.heap.size) HX4.out.size (Nat.le_refl _))
      have HX8 := hidP (HX4.out.trans hx8)
      clear ho8 hx8 hE4 hE8
      go_wp2
      refine bodyPost_ret (v := .tuple #[.slice a8 n8 c8, .bool (mulR R ts xs ys).1]) (by simp [results, Tryz.results49, go_sem]) rfl ⟨a8, n8, c8, hs8, rfl, HO8.out, HX8.out⟩
end Go.Proofs.YtnfbfdamlnjblaaGreatDoor

namespace Go.Proofs.YtnfbfdamlnjblaaGreatDoor
open Go.RowKit

/-- where the reference's product stands: all so far, or it is too long -/
structure MulS (us vs : List Tm) (k j : Nat) (T : List Tm) : Prop where
  len : T.length ≤ 401
  of : ∃ L, L <+: mulL us vs ∧ T = putsT [] 1 L ∧ (L = mulK us vs k j ∨ 400 < T.length)
theorem MulS.start (us vs : List Tm) : MulS us vs 0 0 [] := ⟨by simp, [], List.nil_prefix, rfl, .inl (by simp [mulK, mulL])⟩
theorem MulS.row {us vs T : List Tm} {k : Nat} (hk : k < us.length) (h : MulS us vs k vs.length T) : MulS us vs (k + 1) 0 T := by
  obtain ⟨h1, L, h2, h3, h4⟩ := h
  refine ⟨h1, L, h2, h3, ?_⟩
  rw [mulK_row hk] at h4
  rw [mulK_zero]
  exact h4
theorem MulS.stop {us vs T : List Tm} {k j k' j' : Nat} (h : MulS us vs k j T) (hl : 400 < T.length) : MulS us vs k' j' T := by
  obtain ⟨h1, L, h2, h3, _⟩ := h
  exact ⟨h1, L, h2, h3, .inr hl⟩
theorem MulS.put {us vs T : List Tm} {k j : Nat} (h : MulS us vs k j T) (hl : T.length ≤ 400) (hk : k < us.length) (hj : j < vs.length) : MulS us vs k (j + 1) (putT T (plusV (wayAt us k) 1 (wayAt vs j)) (lenAt us k * lenAt vs j)) := by
  obtain ⟨h1, L, h2, h3, h4⟩ := h
  have h5 : L = mulK us vs k j := by
    rcases h4 with h4 | h4
    · exact h4
    · omega
  subst h5
  refine ⟨Nat.le_trans (put_length _ _ _) (by omega), _, mulK_prefix (j + 1) hk, ?_, .inl rfl⟩
  rw [mulK_succ hj, puts_append, ← h3]
  show _ = putT T _ (1 * _)
  rw [Int.one_mul]
  rfl
theorem MulS.ord {us vs T : List Tm} {k j : Nat} (h : MulS us vs k j T) : Ordered Above T := by
  obtain ⟨_, L, _, h3, _⟩ := h
  rw [h3]
  exact ordered_puts 1 L List.Pairwise.nil
theorem MulS.bound {r : Nat} {us vs T : List Tm} {k j : Nat} (h : MulS us vs k j T) (hr : r ≤ 4) (hu : ChrP r us) (hv : ChrP r vs) {i : Nat} (hi : i < T.length) : 0 ≤ lenAt T i ∧ lenAt T i ≤ 160000000000000000 := by
  rw [ordered_lenAt h.ord hi]
  obtain ⟨_, L, h2, h3, _⟩ := h
  rw [h3, cntSum_puts, List.nil_append, timesT_one]
  exact prefix_bound hr hu hv h2 _
theorem MulS.done {r : Nat} {us vs T : List Tm} (h : MulS us vs us.length 0 T) (hr : r ≤ 4) (hu : ChrP r us) (hv : ChrP r vs) : T = mulT us vs ∨ (400 < T.length ∧ 400 < (mulT us vs).length) := by
  obtain ⟨_, L, h2, h3, h4⟩ := h
  rcases h4 with h4 | h4
  · left
    rw [mulT_eq hr hu hv, h3, h4, mulK_zero, List.take_length]
  · right
    have := mulT_stopped hr hu hv h2
    rw [← h3] at this
    exact ⟨h4, by omega⟩
theorem mulT_chr {r : Nat} {us vs T : List Tm} (h : T = mulT us vs ∨ (400 < T.length ∧ 400 < (mulT us vs).length)) : chrR r T = chrR r (mulT us vs) := by
  rcases h with h | ⟨h1, h2⟩
  · rw [h]
  · unfold chrR
    rw [chrB_long h1, chrB_long h2]
    rfl
set_option maxRecDepth 100000 in
set_option maxHeartbeats 4000000 in
theorem l8Mul_any {R : Nat} (a : Option Addr) (n c : Nat) (us : List Tm) (a' : Option Addr) (n' c' : Nat) (vs : List Tm) (w : World) (h : StepsAt w a n us) (h' : StepsAt w a' n' vs) (hR4 : R ≤ 4) (hP : ChrP R us) (hP' : ChrP R vs) :
    Calls Tryz.prog 101 #[.slice a n c, .slice a' n' c'] w fun e w' => ∃ g q c' hs T, e = .returned (.slice (some ⟨g, 0, none⟩) q c') ∧ OwnK stepK w' w.heap.size w'.heap.size (some ⟨g, 0, none⟩) q c' hs T ∧ (q ≤ 401 ∧ (T = mulT us vs ∨ (400 < T.length ∧ 400 < (mulT us vs).length))) ∧ Ext w w' := by
  have H := hidP h
  have H' := hidP h'
  have HP1 := hidP hP
  have HP2 := hidP hP'
  have hnl := h.len
  have hn4 := hP.len
  have hnl' := h'.len
  have hn4' := hP'.len
  have HM0 : Hid (OwnK stepK (w.alloc (.cells #[] 104)) w.heap.size (w.alloc (.cells #[] 104)).heap.size (some ⟨w.heap.size, 0, none⟩) 0 0 [] []) := OwnK.made0 stepK w
  have HX0 := hidP (Ext.alloc w (.cells #[] 104))
  clear h h' hP hP'
  go_enter Tryz.func101, Tryz.ntmps101
  go_wp2
  go_loopw [5, 6] (fun out i wr => ∃ (k g co q : Nat) (hs : List Hdr) (T : List Tm), k ≤ n ∧ out = .slice (some ⟨g, 0, none⟩) q co ∧ i = .int .i64 k ∧ Hid (MulS us vs k 0 T) ∧ Hid (OwnK stepK wr w.heap.size wr.heap.size (some ⟨g, 0, none⟩) q co hs T) ∧ Hid (Ext w wr)) (fun _ i _ => n - (intOf i).toNat)
  case atStart => exact ⟨0, _, _, _, [], [], Nat.zero_le _, rfl, rfl, hidP (MulS.start us vs), HM0, HX0⟩
  case round =>
    clear HM0 HX0
    obtain ⟨k, g, co, q, hs, T, hk, rfl, rfl, HS, HO, HX⟩ := hrel
    by_cases hlt : k < n
    · go_wp2
      go_loopw [5, 7] (fun out i wr => ∃ (j g co q : Nat) (hs : List Hdr) (T : List Tm), j ≤ n' ∧ out = .slice (some ⟨g, 0, none⟩) q co ∧ i = .int .i64 j ∧ Hid (MulS us vs k j T) ∧ Hid (OwnK stepK wr w.heap.size wr.heap.size (some ⟨g, 0, none⟩) q co hs T) ∧ Hid (Ext w wr)) (fun _ i _ => n' - (intOf i).toNat)
      case atStart => exact ⟨0, g, co, q, hs, T, Nat.zero_le _, rfl, rfl, HS, HO, HX⟩
      case round =>
        clear HS HO HX
        obtain ⟨j, g, co, q, hs, T, hj, rfl, rfl, HS, HO, HX⟩ := hrel
        have hql := HO.out.xl
        by_cases hlt' : j < n'
        · by_cases hle : q ≤ 400
          · obtain ⟨b0, o, aw, cw, W, L, rfl, HW, HL, hwl, HNl, hq⟩ := (H.out.below HX.out).way k hlt
            obtain ⟨b1, o', av, cv, V, M, rfl, HV, HM, hvl, HNv, hq'⟩ := (H'.out.below HX.out).way j hlt'
            have HQ := hidP hq
            have HQ' := hidP hq'
            have hat := HP1.out.at hR4 (k := k) (by omega)
            rw [HW.out, HL.out] at hat
            obtain ⟨hWl, hWb, hL1, hL2⟩ := hat
            have hat := HP2.out.at hR4 (k := j) (by omega)
            rw [HV.out, HM.out] at hat
            obtain ⟨hVl, hVb, hM1, hM2⟩ := hat
            have hm1 := Int.mul_le_mul hL1 hM1 (by omega) (by omega)
            have hm2 := Int.mul_le_mul hL2 hM2 (by omega) (by omega)
            have hmw : IntKind.i64.wrap (L * M) = L * M := wrap_in (by omega) (by omega)
            have HSn := hidP (HS.out.put (by omega) (by omega) (by omega))
            rw [HW.out, HL.out, HV.out, HM.out] at HSn
            have HPl : Hid (PlusIn W 1 V) := fun i hi => by
              have := hWb i (by omega)
              have := hVb i (by omega)
              omega
            have hp1 : (plusV W 1 V).length = W.length := plusV_length _ _ _
            have HMn := hidP (fun w' (hx : Ext wr w') => l5Plus_any aw W.length cw W 1 av V.length cv V w' (HQ.out w' hx).2.2 HNl.out (by omega) (HQ'.out w' hx).2.2 (by omega) HPl.out)
            have HBd := hidP (fun i (hi : i < q) => HS.out.bound hR4 HP1.out HP2.out (i := i) (by omega))
            have HMb := hidP (show 1 ≤ L * M ∧ L * M ≤ 1000000000000 by omega)
            have HPt := hidP (fun w' (hx : Ext wr w') a1 c1 (h1 : IntsAt w' a1 W.length (plusV W 1 V)) (h2 : a1 = none → c1 = 0) => l8Put_any w.heap.size g q co hs T a1 c1 (plusV W 1 V) (L * M) w' ((HO.out.below hx).weaken (Nat.le_refl _) hx.size) (by rw [hp1]; exact h1) h2 (by omega) (by omega) (Nat.le_trans HX.out.size hx.size) (fun i hi => by
              have := HBd.out i hi
              have := HMb.out
              omega))
            rw [hp1] at HPt
            have hE : Ext wr wr.drew := Ext.drew wr
            clear hq hq' hWl hWb hL1 hL2 hVl hVb hM1 hM2 hm1 hm2 hp1 hql
            go_wp2
            (refine walkR_start (fun w' => Ext wr w') 23 (by kernel_rfl) ?_; simp only [numbered, List.take_succ_cons, List.take_zero, Nat.zero_add, Nat.reduceAdd, List.length_cons, List.length_nil])
            (repeat (first | (refine walkR_still (v := ?_) rfl (by decide +kernel) rfl (fun _ _ _ h => h) hE ?_ ?_; rotate_left; (focus (intro w' hw'; obtain ⟨q1, q2, _⟩ := HQ.out w' hw'; obtain ⟨y1, y2, _⟩ := HQ'.out w' hw'; go_simp; all_goals (with_reducible rfl))); simp only [Act.put, List.setIfInBounds_toArray, List.set_cons_zero, List.set_cons_succ]) | (refine walkR_skip rfl (by decide +kernel) rfl (fun _ _ _ h => h) hE ?_; simp only [Act.put, List.setIfInBounds_toArray, List.set_cons_zero, List.set_cons_succ])))
            (refine walkR_later ?_; simp only [List.cons_append, List.nil_append])
            (repeat (first | (refine walkR_still (v := ?_) rfl (by decide +kernel) rfl (fun _ _ _ h => h) hE ?_ ?_; rotate_left; (focus (intro w' hw'; obtain ⟨q1, q2, _⟩ := HQ.out w' hw'; obtain ⟨y1, y2, _⟩ := HQ'.out w' hw'; go_simp; all_goals (with_reducible rfl))); simp only [Act.put, List.setIfInBounds_toArray, List.set_cons_zero, List.set_cons_succ]) | (refine walkR_skip rfl (by decide +kernel) rfl (fun _ _ _ h => h) hE ?_; simp only [Act.put, List.setIfInBounds_toArray, List.set_cons_zero, List.set_cons_succ])))
            (refine walkR_only (fun w' => Ext wr w') rfl (by decide +kernel) rfl (fun _ h => h) ?_; intro K hK; go_simp; refine (HMn.out _ hE).mono ?_; rintro e w3 ⟨a1, c1, rfl, ho1, hx1⟩; refine hK _ _ (hE.trans hx1) ?_; clear hK K; (try simp only [Act.put, List.setIfInBounds_toArray, List.set_cons_zero, List.set_cons_succ]))
            have hE3 := hE.trans hx1
            have HPt2 := hidP (HPt.out _ hE3 a1 c1 ho1.ints ho1.nil_cap)
            have HXE := hidP (HX.out.trans hE3)
            clear hE ho1 hx1 hE3 HPt HMn
            (refine walkR_tail (by rfl) (by kernel_rfl) ?_; simp only [List.drop_succ_cons, List.drop_zero])
            go_wp2_with fail
            refine HPt2.out.mono ?_
            rintro e w2 ⟨g2, q2, c2, hs2, rfl, ho2, hx2⟩
            have HO2 := hidP ho2
            have HX2 : Hid (Ext w w2) := Below.trans HXE.out hx2
            clear ho2 hx2
            go_wp2
            go_roundw
            case rel => exact ⟨j + 1, g2, c2, q2, hs2, _, by omega, rfl, by go_num, HSn, HO2, HX2⟩
            case measure => simp [intOf]; omega
          · have HS8 : Hid (MulS us vs (k + 1) 0 T) := HS.out.stop (by omega)
            clear HS hql
            go_wp2
            go_roundw
            case rel => exact ⟨k + 1, g, co, q, hs, T, by omega, rfl, by go_num, HS8, HO, HX⟩
            case measure => simp [intOf]; omega
        · obtain rfl : n' = j := by omega
          have HS8 : Hid (MulS us vs (k + 1) 0 T) := by
            have := HS.out
            rw [← hnl'] at this
            exact this.row (by omega)
          clear HS hql
          go_wp2
          go_roundw
          case rel => exact ⟨k + 1, g, co, q, hs, T, by omega, rfl, by go_num, HS8, HO, HX⟩
          case measure => simp [intOf]; omega
    · obtain rfl : n = k := by omega
      have hql := HO.out.xl
      have hS := HS.out
      rw [← hnl] at hS
      have HD := hidP (hS.done hR4 HP1.out HP2.out)
      have HLn := hidP (show q ≤ 401 by have := hS.len; omega)
      clear hS hql
      go_wp2
      go_ret
      exact ⟨g, q, co, hs, T, rfl, HO.out, ⟨HLn.out, HD.out⟩, HX.out⟩
set_option maxRecDepth 100000 in
set_option maxHeartbeats 4000000 in
theorem sMulCharacters_any (r : Int) (ta : Option Addr) (tn tc : Nat) (ts : List Int) (a : Option Addr) (n c : Nat) (xs : List Tm) (a' : Option Addr) (n' c' : Nat) (ys : List Tm) (w : World) (hc : IntsAt w ta tn ts) (hcn : tn ≤ 9223372036854775807)
    (h : StepsAt w a n xs) (hn : n ≤ 9223372036854775807) (h' : StepsAt w a' n' ys) (hn' : n' ≤ 9223372036854775807) :
    PathRes 48 #[carV r ta tn tc, .slice a n c, .slice a' n' c'] w (mulR r ts xs ys) := by
  unfold PathRes
  have hx1 := Ext.alloc w (.cells #[.int .i64 r, .slice ta tn tc] 55)
  have HC := hidP (fun w' (hx : Ext (w.alloc (.cells #[.int .i64 r, .slice ta tn tc] 55)) w') => (CarAt.new w _ rfl r ta tn tc 55).below hx)
  have HX1 := hidP hx1
  have H := hidP (h.below hx1)
  have H' := hidP (h'.below hx1)
  have HP := hidP (sCharacterOk_any r ta tn tc ts a n c xs _ (hc.below hx1) hcn (h.below hx1).terms hn)
  have hs1 : w.heap.size ≤ (w.alloc (.cells #[.int .i64 r, .slice ta tn tc] 55)).heap.size := hx1.size
  clear hc h h' hx1
  obtain ⟨w1, hw1⟩ : ∃ w1, w1 = w.alloc (.cells #[.int .i64 r, .slice ta tn tc] 55) := ⟨_, rfl⟩
  rw [← hw1] at HC HX1 H H' HP hs1
  have HS1 := hidP hs1
  clear hs1
  obtain ⟨f0, f1⟩ := HC.out w1 (Ext.refl w1)
  cases hT : (typeB r ts && chrB r.toNat xs)
  · have HR : Hid (mulR r ts xs ys = (false, [])) := by
      show _ = _
      unfold mulR
      rw [hT]
      rfl
    rw [hT] at HP
    clear hT
    go_enter Tryz.func48, Tryz.ntmps48
    go_wp2_with fail
    rw [← hw1]
    clear hw1
    refine HP.out.mono ?_
    rintro e w2 ⟨rfl, hx⟩
    have HX := hidP hx
    clear hx
    go_wp2
    refine bodyPost_ret (v := .tuple #[.slice none 0 0, .bool false]) (by simp [results, Tryz.results48, go_sem]) rfl ⟨none, 0, 0, [], by rw [HR.out], ?_, HX1.out.trans HX.out⟩
    rw [HR.out]
    exact OwnK.nil stepK _ _ _
  · have hT2 : typeB r ts = true := by
      simp only [Bool.and_eq_true] at hT
      exact hT.1
    have hP1 : chrB r.toNat xs = true := by
      simp only [Bool.and_eq_true] at hT
      exact hT.2
    obtain ⟨hr1, hr4, _⟩ := typeB_rank hT2
    obtain ⟨R, rfl⟩ : ∃ R : Nat, r = R := ⟨r.toNat, by omega⟩
    rw [Int.toNat_natCast] at hP1
    have hR : R ≤ 4 := by omega
    have HL := hidP (fun w' (hx : Ext w1 w') => l8Ok_any R ta tn tc a' n' c' ys w' (H'.out.below hx).terms hn' (by omega))
    cases hQ : chrB R ys
    · have HR : Hid (mulR R ts xs ys = (false, [])) := by
        show _ = _
        unfold mulR
        rw [hT, Int.toNat_natCast, hQ]
        rfl
      rw [hT] at HP
      rw [hQ] at HL
      clear hT hT2 hP1 hQ hr1 hr4
      go_enter Tryz.func48, Tryz.ntmps48
      go_wp2_with fail
      rw [← hw1]
      clear hw1
      refine HP.out.mono ?_
      rintro e w2 ⟨rfl, hx⟩
      obtain ⟨g0, g1⟩ := HC.out w2 hx
      have HX := hidP hx
      clear hx f0 f1
      go_wp2_with fail
      refine (HL.out _ HX.out).mono ?_
      rintro e w3 ⟨rfl, hx⟩
      have HX3 := hidP (HX.out.trans hx)
      clear hx g0 g1
      go_wp2
      refine bodyPost_ret (v := .tuple #[.slice none 0 0, .bool false]) (by simp [results, Tryz.results48, go_sem]) rfl ⟨none, 0, 0, [], by rw [HR.out], ?_, HX1.out.trans HX3.out⟩
      rw [HR.out]
      exact OwnK.nil stepK _ _ _
    · have HR2 : Hid (mulR R ts xs ys = chrR R (mulT xs ys)) := by
        show _ = _
        unfold mulR
        rw [hT, Int.toNat_natCast, hQ]
        rfl
      have HU := hidP (chrB_iff.1 hP1)
      have HV := hidP (chrB_iff.1 hQ)
      rw [hT] at HP
      rw [hQ] at HL
      have hnl := H.out.len
      have hnl' := H'.out.len
      have hu4 := HU.out.len
      have hv4 := HV.out.len
      clear hT hT2 hP1 hQ hr1 hr4
      have HMl := hidP (fun w' (hx : Ext w1 w') => l8Mul_any a n c xs a' n' c' ys w' (H.out.below hx) (H'.out.below hx) hR HU.out HV.out)
      go_enter Tryz.func48, Tryz.ntmps48
      go_wp2_with fail
      rw [← hw1]
      clear hw1
      refine HP.out.mono ?_
      rintro e w2 ⟨rfl, hx⟩
      obtain ⟨g0, g1⟩ := HC.out w2 hx
      have HX := hidP hx
      clear hx f0 f1
      go_wp2_with fail
      refine (HL.out _ HX.out).mono ?_
      rintro e w3 ⟨rfl, hx⟩
      have HY3 := hidP (HX.out.trans hx)
      have HX3 := hidP (HX1.out.trans (HX.out.trans hx))
      clear hx g0 g1
      have hE : Ext w3 w3.drew := Ext.drew w3
      go_wp2
      (refine walkR_start (fun w' => Ext w3 w') 9 (by kernel_rfl) ?_; simp only [numbered, List.take_succ_cons, List.take_zero, Nat.zero_add, Nat.reduceAdd, List.length_cons, List.length_nil])
      (repeat (first | (refine walkR_still (v := ?_) rfl (by decide +kernel) rfl (fun _ _ _ h => h) hE ?_ ?_; rotate_left; (focus (intro w' hw'; obtain ⟨g0, g1⟩ := HC.out w' (HY3.out.trans hw'); go_simp; all_goals (with_reducible rfl))); simp only [Act.put, List.setIfInBounds_toArray, List.set_cons_zero, List.set_cons_succ]) | (refine walkR_skip rfl (by decide +kernel) rfl (fun _ _ _ h => h) hE ?_; simp only [Act.put, List.setIfInBounds_toArray, List.set_cons_zero, List.set_cons_succ])))
      (refine walkR_only (fun w' => Ext w3 w') rfl (by decide +kernel) rfl (fun _ h => h) ?_; intro K hK; go_simp; refine (HMl.out _ (HY3.out.trans hE)).mono ?_; rintro e w4 ⟨g4, q4, c4, hs4, T, rfl, ho4, ⟨hq4, hD⟩, hx4⟩; refine hK _ _ (hE.trans hx4) ?_; clear hK K; (try simp only [Act.put, List.setIfInBounds_toArray, List.set_cons_zero, List.set_cons_succ]))
      have hE4 := hE.trans hx4
      have hl4 := ho4.xl
      have hch := mulT_chr (r := R) hD
      rw [← HR2.out] at hch
      have HCH := hidP hch
      have HGv := hidP (l8Give_any R ta tn tc (some ⟨g4, 0, none⟩) q4 c4 T w4 ho4.termsAt (by omega) (by omega))
      have HO4 := hidP (ho4.weaken (B' := w.heap.size) (Nat.le_trans HX3.out.size hE.size) (Nat.le_refl _))
      clear ho4 hx4 hE hch hD
      cases hb : chrB R T
      · rw [hb, if_neg Bool.false_ne_true] at HGv
        have hJ : Hid (mulR R ts xs ys = (false, [])) := by
          show _ = _
          rw [← HCH.out]
          unfold chrR
          rw [hb]
          rfl
        clear hb
        (refine walkR_only (fun w' => Ext w3 w') rfl (by decide +kernel) rfl (fun _ h => h) ?_; intro K hK; go_simp; refine (HGv.out).mono ?_; rintro e w5 ⟨rfl, hx5⟩; refine hK _ _ (hE4.trans hx5) ?_; clear hK K; (try simp only [Act.put, List.setIfInBounds_toArray, List.set_cons_zero, List.set_cons_succ]))
        have hE5 := hE4.trans hx5
        (repeat (first | (refine walkR_still (v := ?_) rfl (by decide +kernel) rfl (fun _ _ _ h => h) hE5 ?_ ?_; rotate_left; (focus (intro w' hw'; skip; go_simp; all_goals (with_reducible rfl))); simp only [Act.put, List.setIfInBounds_toArray, List.set_cons_zero, List.set_cons_succ]) | (refine walkR_skip rfl (by decide +kernel) rfl (fun _ _ _ h => h) hE5 ?_; simp only [Act.put, List.setIfInBounds_toArray, List.set_cons_zero, List.set_cons_succ])))
        (refine walkR_tail (by rfl) (by kernel_rfl) ?_; simp only [List.drop_succ_cons, List.drop_zero])
        have HX5 := hidP (HX3.out.trans hE5)
        clear hx5 hE4 hE5
        go_wp2
        refine bodyPost_ret (v := .tuple #[.slice none 0 0, .bool false]) (by simp [results, Tryz.results48, go_sem]) rfl ?_
        have hO : OwnK stepK w5 w.heap.size w5.heap.size none 0 0 [] (mulR R ts xs ys).2 := by
          rw [hJ.out]
          exact OwnK.nil stepK _ _ _
        first | exact ⟨none, 0, 0, [], by rw [hJ.out], hO, HX5.out⟩ | exact ⟨none, 0, 0, by rw [hJ.out], ⟨[], hO⟩, HX5.out⟩
      · rw [hb, if_pos rfl] at HGv
        have hJ : Hid (mulR R ts xs ys = (true, T)) := by
          show _ = _
          rw [← HCH.out]
          unfold chrR
          rw [hb]
          rfl
        clear hb
        (refine walkR_only (fun w' => Ext w3 w') rfl (by decide +kernel) rfl (fun _ h => h) ?_; intro K hK; go_simp; refine (HGv.out).mono ?_; rintro e w5 ⟨rfl, hx5⟩; refine hK _ _ (hE4.trans hx5) ?_; clear hK K; (try simp only [Act.put, List.setIfInBounds_toArray, List.set_cons_zero, List.set_cons_succ]))
        have hE5 := hE4.trans hx5
        (repeat (first | (refine walkR_still (v := ?_) rfl (by decide +kernel) rfl (fun _ _ _ h => h) hE5 ?_ ?_; rotate_left; (focus (intro w' hw'; skip; go_simp; all_goals (with_reducible rfl))); simp only [Act.put, List.setIfInBounds_toArray, List.set_cons_zero, List.set_cons_succ]) | (refine walkR_skip rfl (by decide +kernel) rfl (fun _ _ _ h => h) hE5 ?_; simp only [Act.put, List.setIfInBounds_toArray, List.set_cons_zero, List.set_cons_succ])))
        (refine walkR_tail (by rfl) (by kernel_rfl) ?_; simp only [List.drop_succ_cons, List.drop_zero])
        have HX5 := hidP (HX3.out.trans hE5)
        have HO5 := hidP ((HO4.out.below hx5).weaken (Nat.le_refl _) hx5.size)
        clear hx5 hE4 hE5
        go_wp2
        refine bodyPost_ret (v := .tuple #[.slice (some ⟨g4, 0, none⟩) q4 c4, .bool true]) (by simp [results, Tryz.results48, go_sem]) rfl ?_
        have hO : OwnK stepK w5 w.heap.size w5.heap.size (some ⟨g4, 0, none⟩) q4 c4 hs4 (mulR R ts xs ys).2 := by
          rw [hJ.out]
          exact HO5.out
        first | exact ⟨some ⟨g4, 0, none⟩, q4, c4, hs4, by rw [hJ.out], hO, HX5.out⟩ | exact ⟨some ⟨g4, 0, none⟩, q4, c4, by rw [hJ.out], ⟨hs4, hO⟩, HX5.out⟩
end Go.Proofs.YtnfbfdamlnjblaaGreatDoor

namespace Go.Proofs.YtnfbfdamlnjblaaGreatDoor
open Go.RowKit
open Go.ChangeShapes Go.WideShapes Go.MapKept Go.Maps
open Go.ChangeMaps (notKey putKey delKey mem_insert_iff eq_of_perm_sorted rising_of_pairwise filter_eq_eraseIdx hit_apart setBlock map_eraseIdx set_perm modify_eq_set eraseDups_of_nodup heap_setBlock_same heap_setBlock_other)
open Go.WideElems (Fit rd rg pl rd_key rd_val rg_of rd_mk rd_stay elemAt other_key trod_map_eq mapM_reads)
variable {H : Type} {P : Program} {k : TypeId} {R : Value → Option (DataW H × List MemPlace)} {w : World} {b r n : Nat} {D : DataW H} {left : Lit → Bool} {cnt : Nat}

/-- a store at a key that the map has, while it is ranged over: the range goes on as it was -/
theorem ranges_put {t e : TypeId} (h : w.ranges P k R b r n D left cnt) (K : Keyed P k) (ht : P.underlying t = some (.map k e)) {key val : Value} {kl : Lit} {d : DataW H} {ps : List MemPlace}
    (hkey : keyOf P k key = some kl) (hv : R val = some (d, ps)) (hhas : Maps.has D kl = true) (hn : n < maxLen) :
    ∃ w', (Instr.mapUpdate t (.map (some b)) key val).run P w = .ok () w' ∧ w'.ranges P k R b r n (D.put kl d) left cnt ∧ w.grownBy w' (some b) := by
  have hne := h.ne
  obtain ⟨es, clock, since, seen, c0, hb, F, hs, rfl, hr, hold, rfl, hl1, hl2, hsc, hsk⟩ := h
  rcases K.find w hkey es.toList F.keys with ⟨h1, h2⟩ | ⟨j, e0, h1, h2, h3⟩
  · exfalso
    rw [Maps.has_eq, List.any_eq_true] at hhas
    obtain ⟨p, hp, hpk⟩ := hhas
    obtain ⟨x, hx, rfl⟩ := List.mem_map.1 ((sorted_perm _).mem_iff.1 hp)
    obtain ⟨y, hy⟩ := F.reads x hx
    refine h2 x hx ?_
    have m1 := rd_key hy
    have e1 : (rg P k R x).1 = kl := by
      by_cases e1 : (rg P k R x).1 = kl
      · exact e1
      · rw [Maps.sameKey_ne e1] at hpk
        cases hpk
    rw [rg_of hy] at e1
    exact K.inj (e1 ▸ m1) hkey
  · have hj : es[j]? = some e0 := by simpa using h2
    have hjl : j < es.toList.length := (List.getElem?_eq_some_iff.1 h2).1
    have hkeyf : ∀ e', es[j]? = some e' → ({ e' with key := key, val := val } : MapEntry).key = e'.key := fun e' he' => by rw [hj] at he'; cases he'; exact h3.symm
    have hlist : (es.modify j (fun e' => { e' with key := key, val := val })).toList = es.toList.set j { e0 with key := key, val := val } := by rw [Array.toList_modify, modify_eq_set _ _ _ _ h2]
    have hset : ∀ x' ∈ es.toList.set j { e0 with key := key, val := val }, ∃ x ∈ es.toList, x'.born = x.born ∧ (rg P k R x').1 = (rg P k R x).1 ∧ (x' = x ∨ x'.val = val ∧ x'.key = key) := by
      intro x hx
      obtain ⟨i, hi, ex⟩ := List.getElem_of_mem hx
      rw [List.getElem_set] at ex
      split at ex
      · refine ⟨e0, List.mem_of_getElem? h2, by rw [← ex], ?_, .inr (by rw [← ex]; exact ⟨rfl, rfl⟩)⟩
        obtain ⟨y, hy⟩ := F.reads e0 (List.mem_of_getElem? h2)
        have m1 := rd_key hy
        rw [h3] at m1
        rw [← ex, rg_of (rd_mk hkey hv), rg_of hy]
        exact Option.some.inj (hkey.symm.trans m1)
      · have hi' : i < es.toList.length := by simpa using hi
        exact ⟨x, ex ▸ List.getElem_mem hi', rfl, rfl, .inl rfl⟩
    have hback : ∀ x ∈ es.toList, ∃ x' ∈ es.toList.set j { e0 with key := key, val := val }, (rg P k R x').1 = (rg P k R x).1 := by
      intro x hx
      obtain ⟨i, hi, rfl⟩ := List.getElem_of_mem hx
      refine ⟨(es.toList.set j { e0 with key := key, val := val })[i]'(by simpa using hi), List.getElem_mem _, ?_⟩
      rw [List.getElem_set]
      split
      · rename_i e1
        subst e1
        have e2 : es.toList[j] = e0 := by rw [List.getElem?_eq_getElem hi] at h2; exact Option.some.inj h2
        obtain ⟨y, hy⟩ := F.reads e0 (List.mem_of_getElem? h2)
        have m1 := rd_key hy
        rw [h3] at m1
        rw [e2, rg_of (rd_mk hkey hv), rg_of hy]
        exact Option.some.inj (hkey.symm.trans m1)
      · rfl
    obtain ⟨es', clock', hrun, F', hput, _⟩ := Maps.fit_store (R' := R) K ht hb F (Nat.lt_of_le_of_lt hs hn) (fun _ _ _ _ hz => hz) hkey hv
    have hrun2 : (Instr.mapUpdate t (.map (some b)) key val).run P w = .ok () (setBlock w b (.map (es.modify j (fun e' => { e' with key := key, val := val })) clock)) := by
      simp [Instr.mapUpdate, run_underlying ht, MapKept.run_getObj_map hb, K.check w false hkey, h1, hj, h3, K.stays w hkey, MapKept.run_setObj_map _ hb, Result.andThen, setBlock]
    have hw : setBlock w b (.map es' clock') = setBlock w b (.map (es.modify j (fun e' => { e' with key := key, val := val })) clock) := by
      have := hrun.symm.trans hrun2
      simpa using this
    have ho := heap_setBlock_same hb (.map es' clock')
    rw [hw, heap_setBlock_same hb] at ho
    have ho2 : (Obj.map (es.modify j (fun e' => { e' with key := key, val := val })) clock) = .map es' clock' := Option.some.inj ho
    injection ho2 with g1 g2
    subst g1
    subst g2
    refine ⟨_, hrun2, ⟨_, _, since, seen, c0, heap_setBlock_same hb _, F', by simpa using hs, by rw [DataW.put_eq, hput], (heap_setBlock_other hb _ hne).trans hr, fun x hx => ?_, ?_, fun x hx => ?_, fun kl' hkl' => ?_, hsc, hsk⟩, ⟨rfl, rfl, rfl, by simp [setBlock], fun i _ hi => heap_setBlock_other hb _ (fun e => hi (by rw [e]))⟩⟩
    · rw [hlist] at hx
      obtain ⟨y, hy, e1, _⟩ := hset x hx
      rw [e1]
      exact hold y hy
    · have e1 : ∀ a : Array MapEntry, (leftOf a seen).size = (a.toList.map (·.born)).countP fun q => !seen.contains q := fun a => by
        unfold leftOf
        rw [← Array.length_toList, Array.toList_filter, List.countP_map, List.countP_eq_length_filter]
        rfl
      rw [e1, e1, hlist, List.map_set]
      congr 1
      apply List.ext_getElem?
      intro i
      rw [List.getElem?_set]
      split
      · rename_i e2
        subst e2
        rw [if_pos (by simpa using hjl), List.getElem?_map, h2]
        rfl
      · rfl
    · rw [hlist] at hx
      obtain ⟨y, hy, e1, e2, _⟩ := hset x hx
      rw [e1, e2]
      exact hl1 y hy
    · obtain ⟨x, hx, rfl⟩ := hl2 kl' hkl'
      obtain ⟨y, hy, e1⟩ := hback x hx
      exact ⟨y, by rw [hlist]; exact hy, e1⟩

theorem RangeS.put {P : Program} {K : TypeId} {w : World} {b n r cnt : Nat} {f : ByteArray → Option Value} {left : ByteArray → Bool} (h : RangeS w P K b r n f left cnt) {T E : TypeId} (hK : P.underlying K = some .string) (hT : P.underlying T = some (.map K E)) (hn : n < maxLen)
    {s : ByteArray} (hs : s.size ≤ maxLen) (hf : (f s).isSome = true) (v : Value) : ∃ w', (Instr.mapUpdate T (.map (some b)) (.string s) v).run P w = .ok () w' ∧ RangeS w' P K b r n (putF f s v) left cnt ∧ w.grownBy w' (some b) := by
  obtain ⟨D, lf, h1, h2, h3⟩ := h
  have hD : Maps.IsMap D := by
    obtain ⟨es, clock, _, _, _, _, _, _, e, _⟩ := h1
    exact ⟨_, e⟩
  obtain ⟨w', hrun, hr, hg⟩ := ranges_put h1 (Maps.string_keyed hK) hT (keyOf_keyL hK hs) (val := v) (d := .held v) (ps := []) rfl (by rw [h2.has_ s hs]; exact hf) hn
  refine ⟨w', hrun, ⟨_, lf, hr, ⟨fun t ht v0 => ?_, fun t ht => ?_⟩, h3⟩, hg⟩
  · by_cases e : t = s
    · subst e
      rw [Maps.atKey_put_same hD (keyL_key _)]
      simp [putF]
    · rw [Maps.atKey_put_other (keyL_ne e), h2.at_ t ht]
      simp [putF, e]
  · by_cases e : t = s
    · subst e
      rw [Maps.has_put_same hD (keyL_key _)]
      simp [putF]
    · rw [Maps.has_put_other (keyL_ne e), h2.has_ t ht]
      simp [putF, e]
end Go.Proofs.YtnfbfdamlnjblaaGreatDoor

namespace Go.Proofs.YtnfbfdamlnjblaaGreatDoor
open Go.RowKit

def hlf (p : Tm) : Tm := (p.1, p.2.tdiv 2)
def halfT (l : List Tm) : List Tm := cleanT ((cleanT l).map hlf)
theorem cntSum_half : ∀ {l : List Tm}, Ordered Above l → cntSum (l.map hlf) = fun x => (cntSum l x).tdiv 2
  | [], _ => by funext x; simp [cntSum]
  | t :: l, h => by
    obtain ⟨h1, h2⟩ := List.pairwise_cons.1 h
    have ih := cntSum_half h2
    funext x
    have ihx := congrFun ih x
    by_cases e : t.1 = x
    · have z1 : cntSum l x = 0 := cntSum_none fun p hp ep => by
        have := h1 p hp
        rw [e, ep] at this
        exact above_ord.irr x this
      have z2 : cntSum (l.map hlf) x = 0 := by
        rw [ihx, z1]
        rfl
      simp only [List.map_cons, cntSum, z1, z2]
      have e2 : (hlf t).1 = x := e
      rw [if_pos e, if_pos e2]
      simp [hlf]
    · have e2 : ¬ (hlf t).1 = x := e
      simp only [List.map_cons, cntSum]
      rw [if_neg e, if_neg e2, ihx]
      simp
theorem ordered_half {l : List Tm} (h : Ordered Above l) : Ordered Above (l.map hlf) := by
  unfold Ordered at *
  rw [List.pairwise_map]
  exact h
theorem cntSum_join (a : List Tm) (n : Int) (b : List Tm) : cntSum (joinT a n b) = cntSum (a ++ timesT n b) := by
  unfold joinT
  rw [cntSum_clean, cntSum_puts]
  funext x
  rw [cntSum_append, cntSum_append, cntSum_clean]
theorem clean_ne {l : List Tm} : ∀ p ∈ cleanT l, p.2 ≠ 0 := fun p hp => by
  have := (List.mem_filter.1 hp).2
  simpa using this
theorem half_tells {l : List Tm} (h : Ordered Above l) : Ordered Above (halfT l) ∧ Tells (fun x => (cntSum l x).tdiv 2) (halfT l) := by
  have ho : Ordered Above (halfT l) := ordered_clean (ordered_half (ordered_clean h))
  refine ⟨ho, ?_⟩
  have ht := tells_of above_ord ho clean_ne
  have e : cntSum (halfT l) = fun x => (cntSum l x).tdiv 2 := by
    unfold halfT
    rw [cntSum_clean, cntSum_half (ordered_clean h), cntSum_clean]
  rwa [e] at ht
/-- a half of the square, symmetric (s = 1) or alternating (s = -1) -/
def partT (us : List Tm) (s : Int) : List Tm := halfT (joinT (mulT us us) s (dblT us))
def partG (us : List Tm) (s : Int) : List Int → Int := cntSum (mulL us us ++ timesT s (dblT us))
theorem part_tells (us : List Tm) (s : Int) : Ordered Above (partT us s) ∧ Tells (fun x => (partG us s x).tdiv 2) (partT us s) := by
  have h1 := half_tells (joinT_tells (b := dblT us) s (mulT_tells us us).1).1
  have e : cntSum (joinT (mulT us us) s (dblT us)) = partG us s := by
    rw [cntSum_join]
    funext x
    unfold partG
    rw [cntSum_append, cntSum_append]
    unfold mulT
    rw [cntSum_join, List.nil_append, timesT_one]
  rw [e] at h1
  exact h1
theorem half_length (l : List Tm) : (halfT l).length ≤ l.length := by
  unfold halfT cleanT
  have h1 := List.length_filter_le (fun p : Tm => p.2 != 0) ((List.filter (fun p : Tm => p.2 != 0) l).map hlf)
  have h2 := List.length_filter_le (fun p : Tm => p.2 != 0) l
  rw [List.length_map] at h1
  omega
theorem part_length {us : List Tm} (s : Int) (h : us.length ≤ 400) : (partT us s).length ≤ 200000 := by
  have h1 := half_length (joinT (mulT us us) s (dblT us))
  have h2 := joinT_length (mulT us us) s (dblT us)
  have h3 := mulT_length h h
  rw [dblT_length] at h2
  unfold partT
  omega
theorem times_sum (s : Int) : ∀ (l : List Tm) (x : List Int), cntSum (timesT s l) x = s * cntSum l x
  | [], x => by simp [timesT, cntSum]
  | t :: l, x => by
    have ih := times_sum s l x
    unfold timesT at ih ⊢
    simp only [List.map_cons, cntSum, ih]
    split
    · rw [Int.mul_add]
    · simp
theorem dbl_take_bound {r : Nat} {us : List Tm} (h : ChrP r us) {k : Nat} (hk : k ≤ us.length) (x : List Int) : 0 ≤ cntSum ((dblT us).take k) x ∧ cntSum ((dblT us).take k) x ≤ 400000000 := by
  unfold dblT
  rw [← List.map_take]
  exact mapT_bound h dblL hk x
theorem adds_bound {r : Nat} {us : List Tm} (hr : r ≤ 4) (h : ChrP r us) {s : Int} (hs : s = 1 ∨ s = -1) {k : Nat} (hk : k ≤ us.length) (x : List Int) :
    -200000000000000000 ≤ addsG (cntSum (mulL us us)) s ((dblT us).take k) x ∧ addsG (cntSum (mulL us us)) s ((dblT us).take k) x ≤ 200000000000000000 := by
  unfold addsG
  rw [times_sum]
  have h1 := dbl_take_bound h hk x
  have h2 := prefix_bound hr h h (List.prefix_rfl (l := mulL us us)) x
  rcases hs with rfl | rfl <;> omega
theorem adds_part (us : List Tm) (s : Int) : addsG (cntSum (mulL us us)) s (dblT us) = partG us s := by
  funext x
  unfold partG addsG
  rw [cntSum_append]
theorem part_bound {r : Nat} {us : List Tm} (hr : r ≤ 4) (h : ChrP r us) {s : Int} (hs : s = 1 ∨ s = -1) (x : List Int) : -200000000000000000 ≤ partG us s x ∧ partG us s x ≤ 200000000000000000 := by
  have := adds_bound hr h hs (k := us.length) (Nat.le_refl _) x
  rw [List.take_of_length_le (by rw [dblT_length]; exact Nat.le_refl _), adds_part] at this
  exact this
theorem tdiv_bound {a : Int} (h0 : -200000000000000000 ≤ a) (h1 : a ≤ 200000000000000000) : -200000000000000000 ≤ a.tdiv 2 ∧ a.tdiv 2 ≤ 200000000000000000 := by
  rcases Int.le_total 0 a with h | h
  · rw [Int.tdiv_eq_ediv_of_nonneg h]
    omega
  · have e : a.tdiv 2 = -((-a) / 2) := by
      rw [← Int.tdiv_eq_ediv_of_nonneg (by omega), Int.neg_tdiv, Int.neg_neg]
    rw [e]
    omega
theorem dbl_at {us : List Tm} {k : Nat} (hk : k < us.length) : wayAt (dblT us) k = dblL (wayAt us k) ∧ lenAt (dblT us) k = lenAt us k := by
  unfold wayAt lenAt dblT
  simp [List.getD_eq_getElem?_getD, hk]
theorem dbl_keys {r : Nat} {us : List Tm} (hr : r ≤ 4) (h : ChrP r us) {s : Int} (hs : s = 1 ∨ s = -1) {k : Nat} (hk : k < us.length) : KeyOk (wayAt (dblT us) k) ∧ -1000000000000 ≤ s * lenAt (dblT us) k ∧ s * lenAt (dblT us) k ≤ 1000000000000 := by
  obtain ⟨e1, e2⟩ := dbl_at hk
  obtain ⟨a1, a2, a3, a4⟩ := h.at hr hk
  rw [e1, e2]
  refine ⟨⟨fun j hj => ?_, by rw [dblL_length]; omega⟩, ?_⟩
  · rw [dblL_length] at hj
    rw [dblL_getD]
    have := a2 j (by omega)
    omega
  · rcases hs with rfl | rfl <;> omega
def squareR (r : Int) (ts : List Int) (us : List Tm) : Bool × List Tm × List Tm :=
  if typeB r ts && chrB r.toNat us then (if chrB r.toNat (mulT us us) && chrB r.toNat (dblT us) && (chrB r.toNat (partT us 1) && chrB r.toNat (partT us (-1))) then (true, partT us 1, partT us (-1)) else (false, [], [])) else (false, [], [])
theorem squareR_small (r : Int) (ts : List Int) (us : List Tm) : SmallL (squareR r ts us).2.1 ∧ SmallL (squareR r ts us).2.2 := by
  unfold squareR
  split
  · rename_i h
    simp only [Bool.and_eq_true] at h
    have := typeB_rank h.1
    split
    · rename_i h2
      simp only [Bool.and_eq_true] at h2
      exact ⟨(chrB_iff.1 h2.2.1).smallL (by omega), (chrB_iff.1 h2.2.2).smallL (by omega)⟩
    · exact ⟨SmallL.nil, SmallL.nil⟩
  · exact ⟨SmallL.nil, SmallL.nil⟩
theorem squareR_part {r : Int} {ts : List Int} {us : List Tm} {s : Int} (hs : s = 1 ∨ s = -1) (h : chrB r.toNat (partT us s) = false) : squareR r ts us = (false, [], []) := by
  unfold squareR
  split
  · rcases hs with rfl | rfl <;> rw [h] <;> simp
  · rfl
theorem squareR_mul {r : Int} {ts : List Int} {us : List Tm} (h : chrB r.toNat (mulT us us) = false) : squareR r ts us = (false, [], []) := by
  unfold squareR
  split
  · rw [h]; simp
  · rfl
theorem squareR_dbl {r : Int} {ts : List Int} {us : List Tm} (h : chrB r.toNat (dblT us) = false) : squareR r ts us = (false, [], []) := by
  unfold squareR
  split
  · rw [h]; simp
  · rfl
end Go.Proofs.YtnfbfdamlnjblaaGreatDoor

namespace Go.Proofs.YtnfbfdamlnjblaaGreatDoor
open Go.RowKit

structure CountsF (w : World) (b1 b2 n : Nat) (g : List Int → Int) (f1 f2 : ByteArray → Option Value) : Prop extends Counts w b1 b2 n g f1 f2 where
  sub : ∀ s, (f2 s).isSome = true → (f1 s).isSome = true
theorem CountsF.below {w w' : World} {b1 b2 n : Nat} {g : List Int → Int} {f1 f2 : ByteArray → Option Value} (h : CountsF w b1 b2 n g f1 f2) (hx : Ext w w') : CountsF w' b1 b2 n g f1 f2 := ⟨h.toCounts.below hx, h.sub⟩
theorem CountsF.made (w : World) : CountsF ((w.alloc (.map #[] 0)).alloc (.map #[] 0)) w.heap.size (w.heap.size + 1) 0 (fun _ => 0) (fun _ => none) (fun _ => none) := ⟨Counts.made w, fun s h => by simp at h⟩
theorem CountsF.stored {w w1 w2 : World} {b1 b2 n : Nat} {g : List Int → Int} {f1 f2 : ByteArray → Option Value} (h : CountsF w b1 b2 n g f1 f2) {x : List Int} (hk : KeyOk x) {a : Option Addr} {c : Nat} (hi : IntsAt w a x.length x) (ha : a = none → c = 0) {d : Int}
    (hm1 : MapS w1 Tryz.prog 9 b1 (n + 1) (putF f1 (keyI x) (.slice a x.length c))) (hg1 : w.grownBy w1 (some b1))
    (hm2 : MapS w2 Tryz.prog 9 b2 (n + 1) (putF f2 (keyI x) (.int .i64 d))) (hg2 : w1.grownBy w2 (some b2)) :
    CountsF w2 b1 b2 (n + 1) (fun y => if y = x then d else g y) (putF f1 (keyI x) (.slice a x.length c)) (putF f2 (keyI x) (.int .i64 d)) :=
  ⟨h.toCounts.stored hk hi ha hm1 hg1 hm2 hg2, fun s hs => by
    unfold putF at *
    split
    · rfl
    · rename_i e
      rw [if_neg e] at hs
      exact h.sub s hs⟩
theorem CountsF.set2 {w : World} {b1 b2 n k : Nat} {g : List Int → Int} {f1 f2 : ByteArray → Option Value} (h : CountsF w b1 b2 n g f1 f2) {E : TypeId} (hk : w.heap[k]? = some (.cells #[.map none, .map none] E (0, 0))) (v0 v1 : Value) :
    CountsF ((w.setCell ⟨k, 0, none⟩ v0).setCell ⟨k, 1, none⟩ v1) b1 b2 n g f1 f2 := ⟨h.toCounts.set2 hk v0 v1, h.sub⟩
/-- what a store at a key leaves, while the map is ranged over -/
theorem wpList_updateR {P : Program} {K : TypeId} {r cnt : Nat} {left : ByteArray → Bool} (w : World) {ops : Array Oper} {rest : List Oper} {o : Oper} {a : Act} {Q : Exit → Act → World → Prop} (hg : o.guard = none) (m x v : Operand) (T K' E : TypeId) (hop : o.op = Op.mapUpdate T m x v) (hK : P.underlying K = some .string) (hT : P.underlying T = some (.map K E)) (_ : K' = K)
    (b n : Nat) (f : ByteArray → Option Value) (hm : a.eval m = .map (some b)) (h : RangeS w P K b r n f left cnt) (hn : n < maxLen) (s : ByteArray) (hx : a.eval x = .string s) (hs : s.size ≤ maxLen) (hf : (f s).isSome = true) (u : Value) (hv : a.eval v = u)
    (hk : ∀ w', RangeS w' P K b r n (putF f s u) left cnt → w.grownBy w' (some b) → wpList P ops Q rest (a.put o.dst undef) w') : wpList P ops Q (o :: rest) a w := by
  refine wpList_plain hg fun K' hK' => ?_
  obtain ⟨w', hrun, r1, r2⟩ := h.put hK hT hn hs hf u
  unfold Oper.wp
  simp [execOp, hop, hm, hx, hv, hrun, Result.andThen]
  exact hK' _ _ (hk w' r1 r2)
def halfV : Value → Value
  | .int k v => .int k (v.tdiv 2)
  | v => v
/-- the numbers of the keys met are halved -/
def HalfW (f2 f : ByteArray → Option Value) (left : ByteArray → Bool) : Prop := ∀ s, s.size ≤ maxLen → f s = if left s then f2 s else (f2 s).map halfV
theorem HalfW.start (f2 : ByteArray → Option Value) : HalfW f2 f2 (fun s => (f2 s).isSome) := fun s _ => by
  cases h : f2 s <;> simp [h]
theorem HalfW.put {f2 f : ByteArray → Option Value} {left : ByteArray → Bool} (h : HalfW f2 f left) {s : ByteArray} {v : Value} (hs : f2 s = some v) : HalfW f2 (putF f s (halfV v)) (fun t => left t && !decide (t = s)) := fun t ht => by
  by_cases e : t = s
  · subst e
    simp [putF, hs]
  · have := h t ht
    simp [putF, e, this]
/-- the counts behind the loop -/
theorem CountsF.halved {w w' : World} {b1 b2 n : Nat} {g : List Int → Int} {f1 f2 f : ByteArray → Option Value} {left : ByteArray → Bool} (h : CountsF w b1 b2 n g f1 f2) (hm1 : MapS w' Tryz.prog 9 b1 n f1) (hm2 : MapS w' Tryz.prog 9 b2 n f) (hx : ExtM b1 b2 w w') (hw : HalfW f2 f left) (hl : ∀ s, s.size ≤ maxLen → left s = false) :
    Counts w' b1 b2 n (fun x => (g x).tdiv 2) f1 f := by
  refine ⟨h.ne, hm1, hm2, fun x hk => ?_, fun s hs => ?_, fun x hx => h.has x fun e => hx (by rw [e]; rfl)⟩
  · have h1 := h.num x hk
    rw [hw _ hk.size, hl _ hk.size, if_neg (by simp)]
    cases hf : f2 (keyI x) with
    | none =>
      rw [hf] at h1
      simp only [Option.getD_none, Value.int.injEq, true_and] at h1
      simp [← h1]
    | some v =>
      rw [hf] at h1
      simp only [Option.getD_some] at h1
      simp [h1, halfV]
  · obtain ⟨x, a, c, k1, k2, k3, k4, k5⟩ := (h.word s hs).ex
    exact ⟨x, a, c, k1, k2, k3, k4.extM hx h.m1.is h.m2.is, k5⟩

/-- slices of terms, as elements of a slice: the header and a dummy -/
def partK : Knd ((Option Addr × Nat × Nat) × List Int) where
  E := 53
  size := 1
  dft := ((none, 0, 0), [])
  ints := fun x => x.2
  put := fun x ys => (x.1, ys)
  cells := fun _ _ x => [.slice x.1.1 x.1.2.1 x.1.2.2]
  len := fun _ _ _ => rfl
  pos := by decide
  ne := by decide
  put_ints := fun _ _ => rfl
  put_cells := fun _ _ _ _ _ => rfl
  one := fun a c x u hu => by
    simp only [List.mem_cons, List.not_mem_nil, or_false] at hu
    rcases hu with rfl
    rfl
/-- a list lies elsewhere than a slice of another kind: it goes on when that one grows -/
theorem OwnK.keptBy {α β : Type} {K : Knd α} {L : Knd β} {w w' : World} {B U B2 U2 n c n2 c2 : Nat} {a a2 : Option Addr} {hs hs2 : List Hdr} {xs : List α} {ys : List β} (h : OwnK K w B U a n c hs xs) (k : OwnK L w B2 U2 a2 n2 c2 hs2 ys) (hE : K.E ≠ L.E) (hg : w.grownBy w' (Value.slice a2 n2 c2).ownBlock) : OwnK K w' B U a n c hs xs := by
  refine h.kept hg (fun b o e e2 => ?_) (fun i hi b o e e2 => ?_)
  · rcases h.form with ⟨e3, _⟩ | ⟨g, cur, e3, _, _, hg1, _⟩
    · rw [e] at e3; cases e3
    · rw [e] at e3
      simp only [Option.some.injEq, Addr.mk.injEq, and_true] at e3
      rcases k.form with ⟨e4, _⟩ | ⟨g', cur', e4, _, _, hg2, _⟩
      · simp [e4, Value.ownBlock] at e2
      · simp only [e4, Value.ownBlock, Option.some.injEq] at e2
        rw [← e3.1, e2, hg2] at hg1
        simp only [Option.some.injEq, Obj.cells.injEq] at hg1
        exact hE hg1.2.1.symm
  · obtain ⟨cur, hc⟩ := (h.each i hi).block e
    rcases k.form with ⟨e4, _⟩ | ⟨g', cur', e4, _, _, hg2, _⟩
    · simp [e4, Value.ownBlock] at e2
    · simp only [e4, Value.ownBlock, Option.some.injEq] at e2
      rw [e2, hg2] at hc
      simp only [Option.some.injEq, Obj.cells.injEq] at hc
      exact L.ne hc.2.1
set_option maxHeartbeats 1000000 in
theorem newCountsF (w : World) : Calls Tryz.prog 90 #[] w fun e w' => ∃ b, e = .returned (cntV b (b + 1)) ∧ CountsF w' b (b + 1) 0 (fun _ => 0) (fun _ => none) (fun _ => none) ∧ w.heap.size ≤ b ∧ Ext w w' := by
  have hmm := @run_makeMap Tryz.prog
  go_enter Tryz.func90, Tryz.ntmps90
  have hxc := Ext.alloc w (.cells #[.map (some (w.heap.size + 1)), .map (some (w.heap.size + 1 + 1))] 107)
  have hm := CountsF.made (w.alloc (.cells #[.map (some (w.heap.size + 1)), .map (some (w.heap.size + 1 + 1))] 107))
  have hx2 := (hxc.trans (Ext.alloc _ (.map #[] 0))).trans (Ext.alloc _ (.map #[] 0))
  have hc := CntAt.new w _ rfl (w.heap.size + 1) (w.heap.size + 1 + 1) 107
  have hc2 := (hc.below (Ext.alloc _ (.map #[] 0))).below (Ext.alloc _ (.map #[] 0))
  rw [show (w.alloc (.cells #[.map (some (w.heap.size + 1)), .map (some (w.heap.size + 1 + 1))] 107)).heap.size = w.heap.size + 1 by simp] at hm
  go_wp2
  refine bodyPost_ret (v := cntV (w.heap.size + 1) (w.heap.size + 1 + 1)) (by simp [results, Tryz.results90, go_sem, hc2.c0, hc2.c1]) rfl ⟨_, rfl, hm, by omega, hx2⟩
set_option maxRecDepth 100000 in
set_option maxHeartbeats 2000000 in
theorem cntAddF (b1 b2 n : Nat) (g : List Int → Int) (f1 f2 : ByteArray → Option Value) (a : Option Addr) (m c : Nat) (x : List Int) (d : Int) (w : World) (hC : CountsF w b1 b2 n g f1 f2) (hk : KeyOk x) (hi : IntsAt w a m x) (ha : a = none → c = 0)
    (hn : n ≤ 1000000000) (hr0 : -9223372036854775808 ≤ g x + d) (hr1 : g x + d ≤ 9223372036854775807) (ht : Tab w) :
    Calls Tryz.prog 91 #[cntV b1 b2, .slice a m c, .int .i64 d] w fun e w' => e = .returned (.tuple #[]) ∧ (∃ f1' f2', CountsF w' b1 b2 (n + 1) (addG g x d) f1' f2') ∧ ExtM b1 b2 w w' := by
  obtain rfl : m = x.length := hi.len.symm
  have hxa := Ext.alloc w (.cells #[.map (some b1), .map (some b2)] 107)
  have HC := hidP (hC.below hxa)
  have HI := hidP (hi.below hxa)
  have HA := hidP (CntAt.new w _ rfl b1 b2 107)
  have HK := hidP hk
  have HN := hidP ha
  have HF := hidP (formatInts_any a x.length c x _ (hi.below hxa) hk.1 (by have := hk.2; omega) (ht.below hxa))
  have HX := hidP hxa
  clear hxa hC hi hk ha ht
  go_enter Tryz.func91, Tryz.ntmps91
  go_wp2_with fail
  refine HF.out.mono ?_
  rintro e w1 ⟨rfl, hx1⟩
  have HX1 := hidP hx1
  have HC1 := hidP (HC.out.below hx1)
  have HI1 := hidP (HI.out.below hx1)
  have HA1 := hidP (HA.out.below hx1)
  obtain ⟨f0, f1'⟩ := HA1.out
  clear hx1 HF
  have hks := HK.out.size
  have HW := hidP (HC1.out.num x HK.out)
  go_wp2_with (first | (at_mapUpdate; refine wpList_updateS _ rfl _ _ _ 76 9 22 rfl Tryz.underlying9 Tryz.underlying76 b1 n f1 rfl HC1.out.m1 (by unfold maxLen; omega) (keyI x) rfl hks (.slice a x.length c) rfl ?_; intro w2 hm2 hg2; have q1 := (ExtM.of_left (b2 := b2) hg2).cell HC1.out.m1.is HC1.out.m2.is f1'; have HM2 := hidP hm2; have HG2 := hidP hg2; have HL2 := hidP (HC1.out.m2.kept hg2 (by simpa using HC1.out.ne.symm)); clear hm2 hg2) | (at_lookup; refine wpList_lookupS _ rfl _ _ 77 9 3 rfl Tryz.underlying9 Tryz.underlying77 (.int .i64 0) (zero_int _) b2 n f2 rfl HL2.out (keyI x) rfl hks ?_; rw [HW.out]) | (at_mapUpdate; refine wpList_updateS _ rfl _ _ _ 77 9 3 rfl Tryz.underlying9 Tryz.underlying77 b2 n f2 rfl HL2.out (by unfold maxLen; omega) (keyI x) rfl hks (.int .i64 (g x + d)) rfl ?_; intro w3 hm3 hg3; have HM3 := hidP hm3; have HG3 := hidP hg3; clear hm3 hg3) | fail)
  go_end0
  have hst := HC1.out.stored HK.out HI1.out HN.out HM2.out HG2.out HM3.out HG3.out
  exact ⟨rfl, ⟨_, _, hst⟩, ((ExtM.of_ext HX.out).trans (ExtM.of_ext HX1.out)).trans ((ExtM.of_left HG2.out).trans (ExtM.of_right HG3.out))⟩
set_option maxRecDepth 100000 in
set_option maxHeartbeats 4000000 in
theorem cntAddAllF (b1 b2 n0 : Nat) (g : List Int → Int) (f1 f2 : ByteArray → Option Value) (a : Option Addr) (n c : Nat) (us : List Tm) (m : Int) (w : World) (hC : CountsF w b1 b2 n0 g f1 f2) (h : StepsAt w a n us) (hn : n ≤ 1000) (hn0 : n0 ≤ 1000000)
    (hk : ∀ k, k < n → KeyOk (wayAt us k) ∧ -1000000000000 ≤ m * lenAt us k ∧ m * lenAt us k ≤ 1000000000000) (hb : ∀ k, k ≤ n → ∀ x, -200000000000000000 ≤ addsG g m (us.take k) x ∧ addsG g m (us.take k) x ≤ 200000000000000000) (ht : Tab w) :
    Calls Tryz.prog 100 #[cntV b1 b2, .slice a n c, .int .i64 m] w fun e w' => e = .returned (.tuple #[]) ∧ (∃ f1' f2', CountsF w' b1 b2 (n0 + n) (addsG g m us) f1' f2') ∧ ExtM b1 b2 w w' := by
  have hxa := Ext.alloc w (.cells #[.map (some b1), .map (some b2)] 107)
  have H := hidP h
  have HT := hidP ht
  have HK := hidP hk
  have HB := hidP hb
  have M1 := hidP hC.m1.is
  have M2 := hidP hC.m2.is
  have hnl := h.len
  have HA0 := hidP (CntAt.new w _ rfl b1 b2 107)
  have HC0 : Hid (∃ f1 f2, CountsF (w.alloc (.cells #[.map (some b1), .map (some b2)] 107)) b1 b2 (n0 + 0) (addsG g m (us.take 0)) f1 f2) := ⟨f1, f2, by rw [List.take_zero, addsG_nil]; exact hC.below hxa⟩
  have HX0 := hidP (ExtM.of_ext (b1 := b1) (b2 := b2) hxa)
  clear hxa h ht hk hb hC
  go_enter Tryz.func100, Tryz.ntmps100
  go_wp2
  go_loopw [10] (fun i wr => ∃ k : Nat, k ≤ n ∧ i = .int .i64 k ∧ Hid (∃ f1 f2, CountsF wr b1 b2 (n0 + k) (addsG g m (us.take k)) f1 f2) ∧ Hid (CntAt wr w.heap.size b1 b2) ∧ Hid (ExtM b1 b2 w wr)) (fun i _ => n - (intOf i).toNat)
  case atStart => exact ⟨0, Nat.zero_le _, rfl, HC0, HA0, HX0⟩
  case round =>
    clear HC0 HA0 HX0
    obtain ⟨k, hk, rfl, HCn, HA, HX⟩ := hrel
    by_cases hlt : k < n
    · obtain ⟨bu, o, aw, cw, W, L, rfl, HW, HL, hwl, HNl, hq⟩ := (H.out.extM HX.out M1.out M2.out).way k hlt
      have HQ := hidP hq
      obtain ⟨q1, q2, _⟩ := hq wr (Ext.refl wr)
      have hkk := HK.out k hlt
      rw [HW.out, HL.out] at hkk
      have HKo := hidP hkk.1
      have hmL := hkk.2
      have hmw : IntKind.i64.wrap (m * L) = m * L := wrap_in (by omega) (by omega)
      have HSn : Hid (addG (addsG g m (us.take k)) W (m * L) = addsG g m (us.take (k + 1))) := by
        show _ = _
        rw [addsG_take g m us (by omega), HW.out, HL.out]
      have hbk := HB.out k hk W
      have HA2 := hidP (Ext.alloc wr (.cells #[.slice aw W.length cw, .int .i64 L] 104))
      obtain ⟨q3, q4⟩ := StpAt.new wr _ rfl aw W.length cw L 104
      have q5 := HA.out.below (Ext.alloc wr (.cells #[.slice aw W.length cw, .int .i64 L] 104))
      obtain ⟨z0, z1⟩ := q5
      obtain ⟨f1', f2', hCn⟩ := HCn.out
      obtain ⟨G, hG⟩ : ∃ G, G = addsG g m (us.take k) := ⟨_, rfl⟩
      rw [← hG] at hCn HSn hbk
      have HAd := hidP (cntAddF b1 b2 (n0 + k) G f1' f2' aw W.length cw W (m * L) _ (hCn.below HA2.out) HKo.out (HQ.out _ HA2.out).2.2 HNl.out (by omega) (by omega) (by omega) ((HT.out.extM HX.out M1.out M2.out).below HA2.out))
      have HM1 := hidP (hCn.below HA2.out).m1.is
      have HM2 := hidP (hCn.below HA2.out).m2.is
      have HA3 := hidP (HA.out.below HA2.out)
      have HX3 := hidP (HX.out.trans (ExtM.of_ext HA2.out))
      clear hq hG hkk hCn HCn hbk
      go_wp2_with fail
      refine HAd.out.mono ?_
      rintro e w7 ⟨rfl, hC7, hx7⟩
      rw [HSn.out] at hC7
      have HC7 := hidP hC7
      have HA7 := hidP (HA3.out.extM hx7 HM1.out HM2.out)
      have HX7 := hidP (HX3.out.trans hx7)
      clear hC7 hx7 q1 q2 q3 q4 z0 z1
      go_wp2
      go_roundw
      case rel => exact ⟨k + 1, by omega, by go_num, HC7, HA7, HX7⟩
      case measure => simp [intOf]; omega
    · obtain rfl : n = k := by omega
      have HTk : Hid (us.take n = us) := List.take_of_length_le (by omega)
      rw [HTk.out] at HCn
      go_wp2
      go_end0
      exact ⟨rfl, HCn.out, HX.out⟩
set_option maxRecDepth 100000 in
set_option maxHeartbeats 4000000 in
theorem productF {R : Nat} (a : Option Addr) (n c : Nat) (us : List Tm) (a' : Option Addr) (n' c' : Nat) (vs : List Tm) (w : World) (h : StepsAt w a n us) (h' : StepsAt w a' n' vs) (hR4 : R ≤ 4) (hP : ChrP R us) (hP' : ChrP R vs) (ht : Tab w) :
    Calls Tryz.prog 102 #[.slice a n c, .slice a' n' c'] w fun e w' => ∃ b, e = .returned (cntV b (b + 1)) ∧ (∃ q f1 f2, q ≤ 160000 ∧ CountsF w' b (b + 1) q (cntSum (mulL us vs)) f1 f2) ∧ w.heap.size ≤ b ∧ Ext w w' := by
  have hx1 := Ext.alloc w (.cells #[.map none, .map none] 107)
  have hz1 : (w.alloc (.cells #[.map none, .map none] 107)).heap.size = w.heap.size + 1 := by simp
  have HZ := hidP (fun w' (hx : Ext (w.alloc (.cells #[.map none, .map none] 107)) w') j => new_cell (w' := w') (w := w) (cs := #[.map none, .map none]) (E := 107) (b := w.heap.size) rfl hx j)
  have H := hidP (h.below hx1)
  have H' := hidP (h'.below hx1)
  have HTb := hidP (ht.below hx1)
  have HX1 := hidP hx1
  have HP1 := hidP hP
  have HP2 := hidP hP'
  have hnl := h.len
  have hn4 := hP.len
  have hnl' := h'.len
  have hn4' := hP'.len
  have HN := hidP (fun w' => newCountsF w')
  clear h h' ht hP hP' hx1
  go_enter Tryz.func102, Tryz.ntmps102
  go_wp2_with fail
  refine (HN.out _).mono ?_
  rintro e w3 ⟨b, rfl, hC3, hb3, hx3⟩
  have hx4 := Ext.alloc w3 (.cells #[.map (some b), .map (some (b + 1))] 107)
  have HX4 := hidP (hx3.trans hx4)
  have HC4 := hidP (hC3.below hx4)
  have HA4 := hidP (CntAt.new w3 _ rfl b (b + 1) 107)
  have HB := hidP hb3
  obtain ⟨wA, hwA⟩ : ∃ wA, wA = w.alloc (.cells #[.map none, .map none] 107) := ⟨_, rfl⟩
  rw [← hwA] at HX1 HX4 HB HZ H H' HTb hz1
  have HZ1 := hidP hz1
  obtain ⟨w4, hw4⟩ : ∃ w4, w4 = w3.alloc (.cells #[.map (some b), .map (some (b + 1))] 107) := ⟨_, rfl⟩
  rw [← hw4] at HX4 HC4 HA4
  obtain ⟨bk, hbk⟩ : ∃ bk, bk = w3.heap.size := ⟨_, rfl⟩
  rw [← hbk] at HA4
  clear hC3 hb3 hx3 hx4 hz1
  go_wp2
  rw [← hw4, ← hbk]
  clear hw4 hbk
  have HWA := hidP hwA
  clear hwA
  go_loopw [13] (fun i wr => ∃ k : Nat, k ≤ n ∧ i = .int .i64 k ∧ Hid (∃ q f1 f2, q ≤ 400 * k ∧ CountsF wr b (b + 1) q (cntSum (mulL (us.take k) vs)) f1 f2) ∧ Hid (CntAt wr bk b (b + 1)) ∧ Hid (Ext wA wr)) (fun i _ => n - (intOf i).toNat)
  case atStart => exact ⟨0, Nat.zero_le _, rfl, hidP ⟨_, _, _, Nat.zero_le _, HC4.out⟩, HA4, HX4⟩
  case round =>
    clear HC4 HA4 HX4
    obtain ⟨k, hk, rfl, HCn, HA, HX⟩ := hrel
    by_cases hlt : k < n
    · obtain ⟨bu, o, aw, cw, W, L, rfl, HW, HL, hwl, HNl, hq⟩ := (H.out.below HX.out).way k hlt
      have HQ := hidP hq
      obtain ⟨q1, q2, _⟩ := hq wr (Ext.refl wr)
      have hat := HP1.out.at hR4 (k := k) (by omega)
      rw [HW.out, HL.out] at hat
      obtain ⟨hWl, hWb, hL1, hL2⟩ := hat
      have HS := hidP (StpAt.new wr _ rfl aw W.length cw L 104)
      have hx5 := Ext.alloc wr (.cells #[.slice aw W.length cw, .int .i64 L] 104)
      have HI5 := hidP ((HQ.out wr (Ext.refl _)).2.2.below hx5)
      have HA5 := hidP (HA.out.below hx5)
      have HX5 := hidP (HX.out.trans hx5)
      have HC5 : Hid (∃ q f1 f2, q ≤ 400 * k ∧ CountsF (wr.alloc (.cells #[.slice aw W.length cw, .int .i64 L] 104)) b (b + 1) q (cntSum (mulL (us.take k) vs)) f1 f2) := by
        obtain ⟨q, f1, f2, hq, hC⟩ := HCn.out
        exact ⟨q, f1, f2, hq, hC.below hx5⟩
      obtain ⟨w5, hw5⟩ : ∃ w5, w5 = wr.alloc (.cells #[.slice aw W.length cw, .int .i64 L] 104) := ⟨_, rfl⟩
      rw [← hw5] at HS HI5 HA5 HX5 HC5
      obtain ⟨bs, hbs⟩ : ∃ bs, bs = wr.heap.size := ⟨_, rfl⟩
      rw [← hbs] at HS
      have HWb := hidP hWb
      have HWl := hidP hWl
      have HLb := hidP (show 1 ≤ L ∧ L ≤ 1000000 from ⟨hL1, hL2⟩)
      clear hq hWb hWl hL1 hL2 hx5 HA HX HCn HQ
      go_wp2
      rw [← hw5, ← hbs]
      clear hw5 hbs q1 q2
      go_loopw [19] (fun i wr => ∃ j : Nat, j ≤ n' ∧ i = .int .i64 j ∧ Hid (∃ q f1 f2, q ≤ 400 * k + j ∧ CountsF wr b (b + 1) q (cntSum (mulK us vs k j)) f1 f2) ∧ Hid (CntAt wr bk b (b + 1)) ∧ Hid (StpAt wr bs aw W.length cw L) ∧ Hid (IntsAt wr aw W.length W) ∧ Hid (Ext wA wr)) (fun i _ => n' - (intOf i).toNat)
      case atStart =>
        rw [← mulK_zero] at HC5
        exact ⟨0, Nat.zero_le _, rfl, HC5, HA5, HS, HI5, HX5⟩
      case round =>
        clear HC5 HA5 HS HI5 HX5
        obtain ⟨j, hj, rfl, HCn, HA, HS, HI, HX⟩ := hrel
        by_cases hlt' : j < n'
        · obtain ⟨bv, o', av, cv, V, M, rfl, HV, HM, hvl, HNv, hq⟩ := (H'.out.below HX.out).way j hlt'
          have HQ := hidP hq
          obtain ⟨q1, q2, _⟩ := hq wr (Ext.refl wr)
          have hat := HP2.out.at hR4 (k := j) (by omega)
          rw [HV.out, HM.out] at hat
          obtain ⟨hVl, hVb, hM1, hM2⟩ := hat
          have hbd := prefix_bound hR4 HP1.out HP2.out (mulK_prefix (us := us) (vs := vs) j (k := k) (by omega)) (plusV W 1 V)
          have hm1 := Int.mul_le_mul HLb.out.1 hM1 (by omega) (by have := HLb.out; omega)
          have hm2 := Int.mul_le_mul HLb.out.2 hM2 (by omega) (by omega)
          have hmw : IntKind.i64.wrap (L * M) = L * M := wrap_in (by omega) (by omega)
          have HSn : Hid (addG (cntSum (mulK us vs k j)) (plusV W 1 V) (L * M) = cntSum (mulK us vs k (j + 1))) := by
            show _ = _
            rw [mulK_succ (by omega), cntSum_snoc, HW.out, HL.out, HV.out, HM.out]
            rfl
          have hWl := HWl.out
          have HKo : Hid (KeyOk (plusV W 1 V)) := by
            refine ⟨fun i hi => ?_, by rw [plusV_length]; omega⟩
            rw [plusV_length] at hi
            rw [plusV_get _ _ _ _ hi]
            have := HWb.out i (by omega)
            have := hVb i (by omega)
            omega
          have HPl : Hid (PlusIn W 1 V) := fun i hi => by
            have := HWb.out i (by omega)
            have := hVb i (by omega)
            omega
          have HA2 := hidP (Ext.alloc wr (.cells #[.slice av V.length cv, .int .i64 M] 104))
          have HT := hidP (fun w' (hx : Ext (wr.alloc (.cells #[.slice av V.length cv, .int .i64 M] 104)) w') => (StpAt.new wr _ rfl av V.length cv M 104).below hx)
          obtain ⟨w5, hw5⟩ : ∃ w5, w5 = wr.alloc (.cells #[.slice av V.length cv, .int .i64 M] 104) := ⟨_, rfl⟩
          rw [← hw5] at HA2 HT
          obtain ⟨bt, hbt⟩ : ∃ bt, bt = wr.heap.size := ⟨_, rfl⟩
          rw [← hbt] at HT
          have HAb := hidP (fun w' (hx : Ext w5 w') => HA.out.below (HA2.out.trans hx))
          have HSb := hidP (fun w' (hx : Ext w5 w') => HS.out.below (HA2.out.trans hx))
          have HLp := hidP (fun w' (hx : Ext w5 w') => listPlus_any aw W.length cw W 1 av V.length cv V w' (HI.out.below (HA2.out.trans hx)) HNl.out (by omega) (HQ.out w' (HA2.out.trans hx)).2.2 (by omega) HPl.out)
          obtain ⟨G, hG⟩ : ∃ G, G = cntSum (mulK us vs k j) := ⟨_, rfl⟩
          rw [← hG] at HCn HSn hbd
          have HGb := hidP hbd
          have HMb := hidP (show 1 ≤ L * M ∧ L * M ≤ 1000000000000 by omega)
          clear hq hG hVb hbd hM1 hM2 hWl hVl hm1 hm2
          go_wp2
          rw [← hw5, ← hbt]
          clear hw5 hbt q1 q2
          have hE : Ext w5 w5.drew := Ext.drew w5
          (refine walkR_start (fun w' => Ext w5 w') 11 (by kernel_rfl) ?_; simp only [numbered, List.take_succ_cons, List.take_zero, Nat.zero_add, Nat.reduceAdd, List.length_cons, List.length_nil])
          (repeat (first | (refine walkR_still (v := ?_) rfl (by decide +kernel) rfl (fun _ _ _ h => h) hE ?_ ?_; rotate_left; (focus (intro w' hw'; obtain ⟨z0, z1⟩ := HAb.out w' hw'; obtain ⟨q1, q2⟩ := HSb.out w' hw'; obtain ⟨y1, y2⟩ := HT.out w' hw'; go_simp; all_goals (with_reducible rfl))); simp only [Act.put, List.setIfInBounds_toArray, List.set_cons_zero, List.set_cons_succ]) | (refine walkR_skip rfl (by decide +kernel) rfl (fun _ _ _ h => h) hE ?_; simp only [Act.put, List.setIfInBounds_toArray, List.set_cons_zero, List.set_cons_succ])))
          (refine walkR_later ?_; simp only [List.cons_append, List.nil_append])
          (repeat (first | (refine walkR_still (v := ?_) rfl (by decide +kernel) rfl (fun _ _ _ h => h) hE ?_ ?_; rotate_left; (focus (intro w' hw'; obtain ⟨q1, q2⟩ := HSb.out w' hw'; obtain ⟨y1, y2⟩ := HT.out w' hw'; go_simp; all_goals (with_reducible rfl))); simp only [Act.put, List.setIfInBounds_toArray, List.set_cons_zero, List.set_cons_succ]) | (refine walkR_skip rfl (by decide +kernel) rfl (fun _ _ _ h => h) hE ?_; simp only [Act.put, List.setIfInBounds_toArray, List.set_cons_zero, List.set_cons_succ])))
          (refine walkR_only (fun w' => Ext w5 w') rfl (by decide +kernel) rfl (fun _ h => h) ?_; intro K hK; go_simp; refine (HLp.out _ hE).mono ?_; rintro e w6 ⟨a1, c1, rfl, ho1, hx6⟩; refine hK _ _ (hE.trans hx6) ?_; clear hK K; (try simp only [Act.put, List.setIfInBounds_toArray, List.set_cons_zero, List.set_cons_succ]))
          have hE3 := HA2.out.trans (hE.trans hx6)
          obtain ⟨q, f1, f2, hqk, hCn⟩ := HCn.out
          have hi1 := ho1.ints
          have hp1 : (plusV W 1 V).length = W.length := plusV_length _ _ _
          have HAd := hidP (cntAddF b (b + 1) q G f1 f2 a1 W.length c1 (plusV W 1 V) (L * M) w6 (hCn.below hE3) HKo.out hi1 ho1.nil_cap (by omega) (by have := HMb.out; have := HGb.out; omega) (by have := HMb.out; have := HGb.out; omega) (HTb.out.below (HX.out.trans hE3)))
          have HM1 := hidP ((hCn.below hE3).m1.is)
          have HM2 := hidP ((hCn.below hE3).m2.is)
          have HA6 := hidP (HA.out.below hE3)
          have HS6 := hidP (HS.out.below hE3)
          have HI6 := hidP (HI.out.below hE3)
          have HX6 := hidP (HX.out.trans hE3)
          have Hqk := hidP hqk
          clear ho1 hx6 hE hE3 hCn HCn hi1 hp1 hqk
          (refine walkR_tail (by rfl) (by kernel_rfl) ?_; simp only [List.drop_succ_cons, List.drop_zero])
          go_wp2_with fail
          refine HAd.out.mono ?_
          rintro e w7 ⟨rfl, ⟨g1, g2, hC7⟩, hx7⟩
          rw [HSn.out] at hC7
          have HC7 : Hid (∃ q f1 f2, q ≤ 400 * k + (j + 1) ∧ CountsF w7 b (b + 1) q (cntSum (mulK us vs k (j + 1))) f1 f2) := hidP ⟨_, g1, g2, by have := Hqk.out; omega, hC7⟩
          have HA7 := hidP (HA6.out.extM hx7 HM1.out HM2.out)
          have HS7 := hidP (HS6.out.extM hx7 HM1.out HM2.out)
          have HI7 := hidP (HI6.out.extM hx7 HM1.out HM2.out)
          have HX7 := hidP (hx7.below HX6.out HB.out (Nat.le_succ_of_le HB.out) HX6.out.size)
          clear hC7 hx7
          go_wp2
          go_roundw
          case rel => exact ⟨j + 1, by omega, by go_num, HC7, HA7, HS7, HI7, HX7⟩
          case measure => simp [intOf]; omega
        · obtain rfl : n' = j := by omega
          have HC8 : Hid (∃ q f1 f2, q ≤ 400 * (k + 1) ∧ CountsF wr b (b + 1) q (cntSum (mulL (us.take (k + 1)) vs)) f1 f2) := by
            obtain ⟨q, f1, f2, hq, hC⟩ := HCn.out
            rw [← hnl', mulK_row (by omega)] at hC
            exact ⟨q, f1, f2, by omega, hC⟩
          clear HCn HS HI
          go_wp2
          go_roundw
          case rel => exact ⟨k + 1, by omega, by go_num, HC8, HA, HX⟩
          case measure => simp [intOf]; omega
    · obtain rfl : n = k := by omega
      have HTk : Hid (us.take n = us) := List.take_of_length_le (by omega)
      rw [HTk.out] at HCn
      obtain ⟨z0, z1⟩ := HA.out
      have r0 := ((HZ.out wr HX.out 0).1).trans (show _ = some (Value.map none) from rfl)
      have r1 := ((HZ.out wr HX.out 1).1).trans (show _ = some (Value.map none) from rfl)
      have y0 := (HZ.out wr HX.out 0).2
      have y1 := (HZ.out wr HX.out 1).2
      obtain ⟨q, f1, f2, hq9, hCn⟩ := HCn.out
      have Hq9 : Hid (q ≤ 160000) := hidP (by omega)
      clear hq9
      have hblk : wr.heap[w.heap.size]? = some (.cells #[.map none, .map none] 107 (0, 0)) := by
        rw [HX.out.block _ (by have := HZ1.out; omega), HWA.out]
        exact heap_alloc_new _ _
      have HC9 := hidP (hCn.set2 hblk (.map (some b)) (.map (some (b + 1))))
      have HX9 : Hid (Ext w ((wr.setCell ⟨w.heap.size, 0, none⟩ (.map (some b))).setCell ⟨w.heap.size, 1, none⟩ (.map (some (b + 1))))) := Ext.setNew (Ext.setNew (HX1.out.trans HX.out) _ _ (Nat.le_refl _) _) _ _ (Nat.le_refl _) _
      have hs0 : ((wr.setCell ⟨w.heap.size, 0, none⟩ (.map (some b))).setCell ⟨w.heap.size, 1, none⟩ (.map (some (b + 1)))).cell? ⟨w.heap.size, 0, none⟩ = some (.map (some b)) := by
        simp [World.setCell, World.cell?, Array.getElem?_modify, hblk]
      have hs1 : ((wr.setCell ⟨w.heap.size, 0, none⟩ (.map (some b))).setCell ⟨w.heap.size, 1, none⟩ (.map (some (b + 1)))).cell? ⟨w.heap.size, 1, none⟩ = some (.map (some (b + 1))) := by
        simp [World.setCell, World.cell?, Array.getElem?_modify, hblk]
      have HBb : Hid (w.heap.size ≤ b) := by have := HB.out; have := HZ1.out; show _ ≤ _; omega
      clear hblk hCn HCn
      go_wp2
      refine bodyPost_ret (v := cntV b (b + 1)) (by simp [results, Tryz.results102, go_sem, hs0, hs1]) rfl ⟨b, rfl, ⟨q, f1, f2, Hq9.out, HC9.out⟩, HBb.out, HX9.out⟩
end Go.Proofs.YtnfbfdamlnjblaaGreatDoor

namespace Go.Proofs.YtnfbfdamlnjblaaGreatDoor
open Go.RowKit

/-- two lists and a truth, in memory of their own: the first one below the second one -/
def TwoRes (f : FuncId) (args : Array Value) (w : World) (res : Bool × List Tm × List Tm) : Prop :=
  Calls Tryz.prog f args w fun e w' => ∃ a n c hs a' n' c' hs' U, e = .returned (.tuple #[.slice a n c, .slice a' n' c', .bool res.1]) ∧ OwnK stepK w' w.heap.size U a n c hs res.2.1 ∧ OwnK stepK w' U w'.heap.size a' n' c' hs' res.2.2 ∧ w.heap.size ≤ U ∧ U ≤ w'.heap.size ∧ Ext w w'
abbrev PartV := (Option Addr × Nat × Nat) × List Int
def pd : PartV := ((none, 0, 0), [])
def sgn (k : Nat) : Int := ([1, -1] : List Int).getD k 0
structure PartsOk (R : Nat) (us : List Tm) (w : World) (B k : Nat) (ps : List PartV) : Prop where
  ex : ∃ U, B ≤ U ∧ U ≤ w.heap.size ∧ (0 < k → (∃ h0, OwnK stepK w B U (ps.getD 0 pd).1.1 (ps.getD 0 pd).1.2.1 (ps.getD 0 pd).1.2.2 h0 (partT us 1)) ∧ chrB R (partT us 1) = true) ∧
    (1 < k → (∃ h1, OwnK stepK w U w.heap.size (ps.getD 1 pd).1.1 (ps.getD 1 pd).1.2.1 (ps.getD 1 pd).1.2.2 h1 (partT us (-1))) ∧ chrB R (partT us (-1)) = true)
theorem PartsOk.start (R : Nat) (us : List Tm) {w : World} {B : Nat} (hB : B ≤ w.heap.size) : PartsOk R us w B 0 [] := ⟨B, Nat.le_refl _, hB, fun h => absurd h (by omega), fun h => absurd h (by omega)⟩
theorem PartsOk.step {R : Nat} {us : List Tm} {w w8 w9 : World} {B k : Nat} {ps : List PartV} (h : PartsOk R us w B k ps) (hk : k < 2) (hl : ps.length = k) (hx : Ext w w8) {a : Option Addr} {n c : Nat} {hs : List Hdr} (ho : OwnK stepK w8 w.heap.size w8.heap.size a n c hs (partT us (sgn k))) (hc : chrB R (partT us (sgn k)) = true)
    {B2 U2 n2 c2 : Nat} {a2 : Option Addr} {hs2 : List Hdr} {qs : List PartV} (hp : OwnK partK w8 B2 U2 a2 n2 c2 hs2 qs) (hg : w8.grownBy w9 (Value.slice a2 n2 c2).ownBlock) : PartsOk R us w9 B (k + 1) (ps ++ [((a, n, c), [])]) := by
  have hE : stepK.E ≠ partK.E := by decide
  obtain ⟨U, u1, u2, g0, g1⟩ := h.ex
  have s1 := hx.size
  have s2 := hg.size
  have hn := ho.keptBy hp hE hg
  rcases Nat.lt_or_ge 0 k with h0 | h0
  · obtain rfl : k = 1 := by omega
    have e0 : (ps ++ [((a, n, c), [])]).getD 0 pd = ps.getD 0 pd := getD_left _ _ _ _ (by omega)
    have e1 : (ps ++ [((a, n, c), [])]).getD 1 pd = ((a, n, c), []) := by rw [getD_right _ _ _ _ (by omega), hl]; rfl
    refine ⟨U, u1, by omega, fun _ => ?_, fun _ => ?_⟩
    · rw [e0]
      obtain ⟨⟨h0, q⟩, q2⟩ := g0 (by omega)
      exact ⟨⟨h0, (q.below hx).keptBy hp hE hg⟩, q2⟩
    · rw [e1]
      exact ⟨⟨hs, hn.weaken u2 s2⟩, hc⟩
  · obtain rfl : k = 0 := by omega
    have e0 : (ps ++ [((a, n, c), [])]).getD 0 pd = ((a, n, c), []) := by rw [getD_right _ _ _ _ (by omega), hl]; rfl
    refine ⟨w8.heap.size, by omega, s2, fun _ => ?_, fun h => absurd h (by omega)⟩
    rw [e0]
    exact ⟨⟨hs, hn.weaken (by omega) (Nat.le_refl _)⟩, hc⟩
theorem info_terms : (Tryz.prog.info? 53).map (fun i => (i.zero, i.size, i.bytes)) = some (some (.slice none 0 0), 1, 24) := by kernel_rfl
theorem TwoRes.nil {w w' : World} (hx : Ext w w') : ∃ a n c hs a' n' c' hs' U, Ending.returned (.tuple #[.slice none 0 0, .slice none 0 0, .bool false]) = Ending.returned (.tuple #[.slice a n c, .slice a' n' c', .bool (false, ([] : List Tm), ([] : List Tm)).1]) ∧ OwnK stepK w' w.heap.size U a n c hs [] ∧ OwnK stepK w' U w'.heap.size a' n' c' hs' [] ∧ w.heap.size ≤ U ∧ U ≤ w'.heap.size ∧ Ext w w' :=
  ⟨none, 0, 0, [], none, 0, 0, [], w.heap.size, rfl, OwnK.nil stepK _ _ _, OwnK.nil stepK _ _ _, Nat.le_refl _, hx.size, hx⟩

theorem ExtM.past {b1 b2 r : Nat} {w w' w'' : World} (h : ExtM b1 b2 w w') (hg : w'.grownBy w'' (some r)) (hr : w.heap.size ≤ r) : ExtM b1 b2 w w'' :=
  ⟨hg.os.trans h.os, hg.tape.trans h.tape, hg.output.trans h.output, Nat.le_trans h.size hg.size, fun k hk h1 h2 => (hg.block k (Nat.lt_of_lt_of_le hk h.size) (by simp only [ne_eq, Option.some.injEq]; omega)).trans (h.block k hk h1 h2)⟩
set_option maxRecDepth 100000 in
set_option maxHeartbeats 4000000 in
theorem squareParts_any (r : Int) (ta : Option Addr) (tn tc : Nat) (ts : List Int) (a : Option Addr) (n c : Nat) (xs : List Tm) (w : World) (hc : IntsAt w ta tn ts) (hcn : tn ≤ 9223372036854775807)
    (h : StepsAt w a n xs) (hn : n ≤ 9223372036854775807) (hm : MaxL w) (ht : Tab w) :
    TwoRes 53 #[carV r ta tn tc, .slice a n c] w (squareR r ts xs) := by
  unfold TwoRes
  have hx1 := Ext.alloc w (.cells #[.int .i64 r, .slice ta tn tc] 55)
  have HC := hidP (fun w' (hx : Ext (w.alloc (.cells #[.int .i64 r, .slice ta tn tc] 55)) w') => (CarAt.new w _ rfl r ta tn tc 55).below hx)
  have HX1 := hidP hx1
  have H := hidP (h.below hx1)
  have HIs := hidP (fun w' (hx : Ext w w') => isCartan_any r ta tn tc ts w' (hc.below hx) hcn (hm.below hx))
  have HP := hidP (characterOk_of r ta tn tc ts a n c xs _ (h.below hx1).terms hn (fun w' hx => HIs.out w' (hx1.trans hx)))
  have HMu := hidP (fun w' (hx : Ext w w') => mulCharacters_any r ta tn tc ts a n c xs a n c xs w' (hc.below hx) hcn (h.below hx) hn (h.below hx) hn (hm.below hx) (ht.below hx))
  have HDo := hidP (fun w' (hx : Ext w w') => doubleCharacter_any r ta tn tc ts a n c xs w' (hc.below hx) hcn (h.below hx) hn (hm.below hx) (ht.below hx))
  have HTb := hidP ht
  clear hc h hx1 hm ht
  obtain ⟨w1, hw1⟩ : ∃ w1, w1 = w.alloc (.cells #[.int .i64 r, .slice ta tn tc] 55) := ⟨_, rfl⟩
  rw [← hw1] at HC HX1 H HP
  obtain ⟨f0, f1⟩ := HC.out w1 (Ext.refl w1)
  cases hT : (typeB r ts && chrB r.toNat xs)
  · have HR : Hid (squareR r ts xs = (false, [], [])) := by
      show _ = _
      unfold squareR
      rw [hT]
      rfl
    rw [hT] at HP
    clear hT
    go_enter Tryz.func53, Tryz.ntmps53
    go_wp2_with fail
    rw [← hw1]
    clear hw1
    refine HP.out.mono ?_
    rintro e w2 ⟨rfl, hx⟩
    have HX := hidP hx
    clear hx
    go_wp2
    refine bodyPost_ret (v := .tuple #[.slice none 0 0, .slice none 0 0, .bool false]) (by simp [results, Tryz.results53, go_sem]) rfl ?_
    rw [HR.out]
    exact TwoRes.nil (HX1.out.trans HX.out)
  · have hT2 : typeB r ts = true := by
      simp only [Bool.and_eq_true] at hT
      exact hT.1
    have hP1 : chrB r.toNat xs = true := by
      simp only [Bool.and_eq_true] at hT
      exact hT.2
    obtain ⟨hr1, hr4, _⟩ := typeB_rank hT2
    obtain ⟨R, rfl⟩ : ∃ R : Nat, r = R := ⟨r.toNat, by omega⟩
    rw [Int.toNat_natCast] at hP1
    have hR : R ≤ 4 := by omega
    have HRp : Hid (∀ s, (s = 1 ∨ s = -1) → chrB R (partT xs s) = false → squareR R ts xs = (false, [], [])) := fun s hs h => squareR_part hs (by rw [Int.toNat_natCast]; exact h)
    have HRm : Hid (chrB R (mulT xs xs) = false → squareR R ts xs = (false, [], [])) := fun h => squareR_mul (by rw [Int.toNat_natCast]; exact h)
    have HRd : Hid (chrB R (dblT xs) = false → squareR R ts xs = (false, [], [])) := fun h => squareR_dbl (by rw [Int.toNat_natCast]; exact h)
    have HRt : Hid (chrB R (mulT xs xs) = true → chrB R (dblT xs) = true → chrB R (partT xs 1) = true → chrB R (partT xs (-1)) = true → squareR R ts xs = (true, partT xs 1, partT xs (-1))) := fun h1 h2 h3 h4 => by
      unfold squareR
      rw [hT, Int.toNat_natCast, h1, h2, h3, h4]
      rfl
    have HM1 : Hid (mulR R ts xs xs = chrR R (mulT xs xs)) := by
      show _ = _
      unfold mulR
      rw [hT, Int.toNat_natCast, hP1]
      rfl
    have HD1 : Hid (doubleR R ts xs = chrR R (dblT xs)) := by
      show _ = _
      unfold doubleR
      rw [hT, Int.toNat_natCast]
      rfl
    have HU := hidP (chrB_iff.1 hP1)
    have HT2 := hidP hT2
    rw [hT] at HP
    have hnl := H.out.len
    have hu4 := HU.out.len
    clear hT hT2 hP1 hr1 hr4
    go_enter Tryz.func53, Tryz.ntmps53
    go_wp2_with fail
    rw [← hw1]
    clear hw1
    refine HP.out.mono ?_
    rintro e w2 ⟨rfl, hx⟩
    obtain ⟨g0, g1⟩ := HC.out w2 hx
    have hxp := Ext.alloc w2 (.cells #[] 53)
    have hxl := Ext.alloc (w2.alloc (.cells #[] 53)) (.cells #[.int .i64 1, .int .i64 (-1)] 3)
    have HX2 := hidP (HX1.out.trans hx)
    have HXl := hidP (hxp.trans hxl)
    have HCl := hidP (fun w' (hy : Ext w2 w') => HC.out w' (hx.trans hy))
    have H2 := hidP (H.out.below hx)
    have HO0 : Hid (OwnK partK ((w2.alloc (.cells #[] 53)).alloc (.cells #[.int .i64 1, .int .i64 (-1)] 3)) w2.heap.size ((w2.alloc (.cells #[] 53)).alloc (.cells #[.int .i64 1, .int .i64 (-1)] 3)).heap.size (some ⟨w2.heap.size, 0, none⟩) 0 0 [] []) := ((OwnK.made0 partK w2).below hxl).weaken (Nat.le_refl _) hxl.size
    have HSg : Hid (OwnI ((w2.alloc (.cells #[] 53)).alloc (.cells #[.int .i64 1, .int .i64 (-1)] 3)) w2.heap.size (some ⟨(w2.alloc (.cells #[] 53)).heap.size, 0, none⟩) 2 2 [1, -1]) :=
      ⟨by simp [ivs], .inr ⟨_, 2, #[.int .i64 1, .int .i64 (-1)], rfl, hxp.size, heap_alloc_new _ _, Nat.le_refl _, by unfold maxLen; omega, by simp, by simp [ivs]⟩⟩
    have hsl : (w2.alloc (.cells #[] 53)).heap.size = w2.heap.size + 1 := by simp
    rw [hsl] at HSg
    obtain ⟨wl, hwl⟩ : ∃ wl, wl = (w2.alloc (.cells #[] 53)).alloc (.cells #[.int .i64 1, .int .i64 (-1)] 3) := ⟨_, rfl⟩
    rw [← hwl] at HXl HO0 HSg
    have HPo := hidP (PartsOk.start R xs (HX2.out.trans HXl.out).size)
    obtain ⟨gp, hgp⟩ : ∃ gp, gp = w2.heap.size := ⟨_, rfl⟩
    rw [← hgp] at HO0 HSg
    have HGp : Hid (w2.heap.size = gp) := hidP hgp.symm
    clear hx hxp hxl hsl HC H HP f0 f1
    go_wp2
    rw [← hwl, ← hgp]
    clear hwl hgp g0 g1
    go_loopw [7, 26] (fun p i wr => ∃ (k ga co : Nat) (hs : List Hdr) (ps : List PartV), k ≤ 2 ∧ p = .slice (some ⟨ga, 0, none⟩) k co ∧ i = .int .i64 k ∧ Hid (OwnK partK wr gp wr.heap.size (some ⟨ga, 0, none⟩) k co hs ps) ∧ Hid (PartsOk R xs wr w.heap.size k ps) ∧ Hid (OwnI wr gp (some ⟨gp + 1, 0, none⟩) 2 2 [1, -1]) ∧ Hid (Ext w2 wr)) (fun _ i _ => 2 - (intOf i).toNat)
    case atStart => exact ⟨0, _, 0, [], [], by omega, rfl, rfl, HO0, HPo, HSg, HXl⟩
    case round =>
      clear HO0 HPo HSg HXl
      obtain ⟨k, ga, co, hs, ps, hk, rfl, rfl, HO, HPo, HSg, HXr⟩ := hrel
      by_cases hlt : k < 2
      · have q0 := HSg.out.ints.atc k hlt
        obtain ⟨s, hsg⟩ : ∃ s, s = ([1, -1] : List Int).getD k 0 := ⟨_, rfl⟩
        rw [Nat.zero_add, ← hsg] at q0
        have HSs : Hid (s = sgn k) := hsg
        have HS1 : Hid (s = 1 ∨ s = -1) := by
          rcases k with _ | _ | k
          · exact .inl hsg
          · exact .inr hsg
          · omega
        clear hsg
        have HH := hidP (H2.out.below HXr.out)
        have HPr := hidP (productF a n c xs a n c xs wr HH.out HH.out hR HU.out HU.out (HTb.out.below (HX2.out.trans HXr.out)))
        go_wp2_with fail
        refine HPr.out.mono ?_
        rintro e w4 ⟨b, rfl, ⟨q, f1, f2, hq, hC4⟩, hb4, hx4⟩
        have hx5 := Ext.alloc w4 (.cells #[.map (some b), .map (some (b + 1))] 107)
        have HX5 := hidP (hx4.trans hx5)
        have HC5 := hidP (hC4.below hx5)
        have HA5 := hidP (CntAt.new w4 _ rfl b (b + 1) 107)
        have HB := hidP hb4
        have Hq := hidP hq
        obtain ⟨w5, hw5⟩ : ∃ w5, w5 = w4.alloc (.cells #[.map (some b), .map (some (b + 1))] 107) := ⟨_, rfl⟩
        rw [← hw5] at HX5 HC5 HA5
        obtain ⟨bk, hbk⟩ : ∃ bk, bk = w4.heap.size := ⟨_, rfl⟩
        rw [← hbk] at HA5
        have HDb := hidP (fun w' (hx : Ext w5 w') => doubled_any a n c xs w' (HH.out.below (HX5.out.trans hx)) hR HU.out (HTb.out.below ((HX2.out.trans HXr.out).trans (HX5.out.trans hx))))
        have HAb := hidP (fun w' (hx : Ext w5 w') => HA5.out.below hx)
        clear hC4 hx4 hx5 hb4 hq q0 HPr
        go_wp2
        rw [← hw5, ← hbk]
        clear hw5 hbk
        have hE : Ext w5 w5.drew := Ext.drew w5
        (refine walkR_start (fun w' => Ext w5 w') 5 (by kernel_rfl) ?_; simp only [numbered, List.take_succ_cons, List.take_zero, Nat.zero_add, Nat.reduceAdd, List.length_cons, List.length_nil])
        (repeat (first | (refine walkR_still (v := ?_) rfl (by decide +kernel) rfl (fun _ _ _ h => h) hE ?_ ?_; rotate_left; (focus (intro w' hw'; obtain ⟨z0, z1⟩ := HAb.out w' hw'; go_simp; all_goals (with_reducible rfl))); simp only [Act.put, List.setIfInBounds_toArray, List.set_cons_zero, List.set_cons_succ]) | (refine walkR_skip rfl (by decide +kernel) rfl (fun _ _ _ h => h) hE ?_; simp only [Act.put, List.setIfInBounds_toArray, List.set_cons_zero, List.set_cons_succ])))
        (refine walkR_later ?_; simp only [List.cons_append, List.nil_append]); (refine walkR_later ?_; simp only [List.cons_append, List.nil_append])
        (repeat (first | (refine walkR_still (v := ?_) rfl (by decide +kernel) rfl (fun _ _ _ h => h) hE ?_ ?_; rotate_left; (focus (intro w' hw'; skip; go_simp; all_goals (with_reducible rfl))); simp only [Act.put, List.setIfInBounds_toArray, List.set_cons_zero, List.set_cons_succ]) | (refine walkR_skip rfl (by decide +kernel) rfl (fun _ _ _ h => h) hE ?_; simp only [Act.put, List.setIfInBounds_toArray, List.set_cons_zero, List.set_cons_succ])))
        (refine walkR_only (fun w' => Ext w5 w') rfl (by decide +kernel) rfl (fun _ h => h) ?_; intro K hK; go_simp; refine (HDb.out _ hE).mono ?_; rintro e w6 ⟨bd, rfl, ⟨d1, d2, hCd⟩, hx6⟩; refine hK _ _ (hE.trans hx6) ?_; clear hK K; (try simp only [Act.put, List.setIfInBounds_toArray, List.set_cons_zero, List.set_cons_succ]))
        have hE6 := hE.trans hx6
        have HTr := hidP (cntTerms_any bd (bd + 1) n _ d1 d2 (dblT xs) w6 hCd (dbl_tells HU.out) (dbl_ord HU.out) (by rw [dblT_length]; omega))
        clear hCd hx6 hE
        (refine walkR_only (fun w' => Ext w5 w') rfl (by decide +kernel) rfl (fun _ h => h) ?_; intro K hK; go_simp; refine (HTr.out).mono ?_; rintro e w7 ⟨ad, cd, hd, rfl, hod, hx7⟩; refine hK _ _ (hE6.trans hx7) ?_; clear hK K; (try simp only [Act.put, List.setIfInBounds_toArray, List.set_cons_zero, List.set_cons_succ]))
        have hE7 := hE6.trans hx7
        have HX7 := hidP (HX5.out.trans hE7)
        have HC7 := hidP (HC5.out.below hE7)
        have HA7 := hidP (HA5.out.below hE7)
        have HAd := hidP (cntAddAllF b (b + 1) q (cntSum (mulL xs xs)) f1 f2 (some ⟨ad, 0, none⟩) (dblT xs).length cd (dblT xs) s w7 HC7.out hod.stepsAt (by rw [dblT_length]; omega) (by have := Hq.out; omega) (fun k hk => dbl_keys hR HU.out HS1.out (by rw [dblT_length] at hk; exact hk)) (fun k hk x => adds_bound hR HU.out HS1.out (by rw [dblT_length] at hk; exact hk) x) (HTb.out.below ((HX2.out.trans HXr.out).trans HX7.out)))
        have hdl : (dblT xs).length = n := by rw [dblT_length]; exact hnl
        rw [hdl] at HAd
        have Hqn : Hid (q + n ≤ 1000000) := hidP (by have := Hq.out; omega)
        clear hE6 hod hx7 hE7 HTr HDb HAb HC5 HA5 HX5
        (refine walkR_tail (by rfl) (by kernel_rfl) ?_; simp only [List.drop_succ_cons, List.drop_zero])
        rw [hdl]
        clear hdl
        go_wp2_with fail
        refine HAd.out.mono ?_
        rintro e w8 ⟨rfl, ⟨f1', f2', hC8⟩, hx8⟩
        rw [adds_part] at hC8
        obtain ⟨N, hN⟩ : ∃ N, N = q + n := ⟨_, rfl⟩
        rw [← hN] at hC8 Hqn
        have HN := hidP Hqn.out
        have hm1 := HC7.out.m1.is
        have hm2 := HC7.out.m2.is
        have HC8 := hidP hC8
        have HA8 := hidP (HA7.out.extM hx8 hm1 hm2)
        have HX8 : Hid (Ext wr w8) := hidP (hx8.below HX7.out HB.out (Nat.le_succ_of_le HB.out) HX7.out.size)
        have HGb := hidP (fun x => part_bound hR HU.out HS1.out x)
        clear hC8 hx8 hm1 hm2 hN HAd HC7 HA7 HX7 Hqn Hq
        obtain ⟨z0, z1⟩ := HA8.out
        go_wp2_with (first | (at_range; refine wpList_rangeS _ rfl _ 77 9 3 rfl Tryz.underlying9 Tryz.underlying77 (b + 1) N f2' rfl HC8.out.m2 ?_; intro w9 cnt0 hrg0 hx0 hs0; have HR0 := hidP hrg0; have HX9 := hidP hx0; clear hrg0 hx0 hs0) | fail)
        go_frame
        obtain ⟨Rr, hRr⟩ : ∃ x, x = w8.heap.size := ⟨_, rfl⟩
        rw [← hRr] at HR0
        rw [← hRr]
        have HRr := hidP hRr
        clear hRr z0 z1
        obtain ⟨wo, rfl⟩ : ∃ x, x = wr := ⟨_, rfl⟩
        go_loopw [11] (fun _ wx => ∃ (left : ByteArray → Bool) (cnt : Nat) (f : ByteArray → Option Value), Hid (RangeS wx Tryz.prog 9 (b + 1) Rr N f left cnt) ∧ Hid (HalfW f2' f left) ∧ Hid (MapS wx Tryz.prog 9 b N f1') ∧ Hid (ExtM b (b + 1) w8 wx)) (fun _ wx => wx.rangeLeft (b + 1) Rr)
        case atStart => exact ⟨_, _, _, HR0, hidP (HalfW.start f2'), hidP (HC8.out.m1.below HX9.out), hidP (ExtM.of_ext HX9.out)⟩
        case round =>
          clear HR0 HX9
          obtain ⟨left, cnt, f, HR, HW, Hm1, HXx⟩ := hrel
          go_wp2_with (first | (at_next; refine wpList_nextS _ rfl _ rfl 9 Tryz.underlying9 (b + 1) Rr N f left cnt rfl HR.out ?_ ?_) | fail)
          · intro hc0 hl0
            have hC10 := HC8.out.halved Hm1.out HR.out.mapS HXx.out HW.out hl0
            have HX10 : Hid (Ext wo wr) := hidP (HXx.out.below HX8.out HB.out (Nat.le_succ_of_le HB.out) HX8.out.size)
            have hto := (part_tells xs s).1
            have htt := (part_tells xs s).2
            have HCh := hidP (cntCharacter_any R ta tn tc ts b (b + 1) N _ f1' f (partT xs s) wr hC10 htt hto (by have := part_length s (us := xs) hu4; omega) HT2.out (fun w' hx => HIs.out w' (((HX2.out.trans HXr.out).trans HX10.out).trans hx)))
            rw [Int.toNat_natCast] at HCh
            unfold PathRes at HCh
            obtain ⟨z0, z1⟩ := HA8.out.extM HXx.out HC8.out.m1.is HC8.out.m2.is
            obtain ⟨y0, y1⟩ := HCl.out wr (HXr.out.trans HX10.out)
            clear hC10 hto htt
            go_wp2_with fail
            refine HCh.out.mono ?_
            rintro e w12 ⟨a8, n8, c8, hs8, rfl, ho8, hx12⟩
            have HX12 := hidP (HX10.out.trans hx12)
            cases hb : chrB R (partT xs s)
            · have HRf := hidP (HRp.out s HS1.out hb)
              have hcr : chrR R (partT xs s) = (false, []) := by unfold chrR; rw [hb]; rfl
              rw [hcr] at ho8
              rw [hcr]
              clear hcr hb ho8 hx12 z0 z1 y0 y1
              go_wp2
              refine bodyPost_ret (v := .tuple #[.slice none 0 0, .slice none 0 0, .bool false]) (by simp [results, Tryz.results53, go_sem]) rfl ?_
              rw [HRf.out]
              exact TwoRes.nil ((HX2.out.trans HXr.out).trans HX12.out)
            · have hcr : chrR R (partT xs s) = (true, partT xs s) := by unfold chrR; rw [hb]; rfl
              rw [hcr] at ho8
              rw [hcr]
              have HO8 := hidP ho8
              have Hb := hidP hb
              have HE13 := hidP (Ext.alloc w12 (.cells #[.slice a8 n8 c8] 53))
              clear hcr hb ho8 z0 z1 y0 y1
              have HOp := hidP (HO.out.below (HX12.out.trans HE13.out))
              have hcell : (w12.alloc (.cells #[.slice a8 n8 c8] 53)).cell? ⟨w12.heap.size, 0, none⟩ = some (.slice a8 n8 c8) := cell_top _ _ _ _ _ rfl
              have hBg : gp ≤ (w12.alloc (.cells #[.slice a8 n8 c8] 53)).heap.size := by rw [← HGp.out]; exact (HXr.out.trans (HX12.out.trans HE13.out)).size
              go_wp2_with (at_builtin; refine wpList_append_elem2 partK 122 (.slice none 0 0) 24 rfl (.tmp 60) (.tmp 62) rfl Tryz.underlying122 info_terms rfl (by omega) gp _ (some ⟨ga, 0, none⟩) k co hs ps rfl HOp.out w12.heap.size 1 (none, 0) ((a8, n8, c8), []) rfl (fun j hj => by obtain rfl : j = 0 := Nat.lt_one_iff.1 hj; exact hcell) (OwnI.nil _ _) (fun i hi b o b' o' e e' => by cases e') (fun b o b' o' e e' => by cases e') (by omega) hBg ?_; intro a4 c4 w13 ho4 hg4 hn4; have HO4 := hidP ho4; have HG4 := hidP hg4; clear ho4 hg4 hn4)
              obtain ⟨g4, rfl⟩ : ∃ g4, a4 = some ⟨g4, 0, none⟩ := by
                rcases HO4.out.form with ⟨_, h0, _⟩ | ⟨g4, _, e4, _⟩
                · omega
                · exact ⟨g4, e4⟩
              have HXw := hidP (HX12.out.trans HE13.out)
              have HO9 : Hid (OwnK stepK (w12.alloc (.cells #[.slice a8 n8 c8] 53)) wo.heap.size (w12.alloc (.cells #[.slice a8 n8 c8] 53)).heap.size a8 n8 c8 hs8 (partT xs (sgn k))) := by
                rw [← HSs.out]
                exact (HO8.out.below HE13.out).weaken HX10.out.size HE13.out.size
              have hb2 := Hb.out
              rw [HSs.out] at hb2
              have HPn := hidP (HPo.out.step hlt HO.out.xl HXw.out HO9.out hb2 HOp.out HG4.out)
              have HSn : Hid (OwnI w13 gp (some ⟨gp + 1, 0, none⟩) 2 2 [1, -1]) := by
                have hsw := HSg.out.below HXw.out
                refine hsw.grown HG4.out fun b o e e2 => ?_
                have hap := HOp.out.off_ints hsw
                simp only [Value.ownBlock, Option.some.injEq] at e2
                exact hap ga 0 b o rfl e e2.symm
              have HXn : Hid (Ext w2 w13) := by
                have h := HOp.out.below_grown (w0 := w2) HG4.out (by rw [← HGp.out]; exact HXr.out.trans HXw.out) hBg
                rw [← HGp.out] at h
                exact h
              clear hb2 hcell hBg
              go_roundw
              case rel => exact ⟨k + 1, g4, c4, _, _, by omega, rfl, by go_num, HO4, HPn, HSn, HXn⟩
              case measure => simp [intOf]; omega
          · intro sk v w10 cnt1 hss hls hfs hrg1 hlt1 hg1 hs1 hen
            have hv2 : f2' sk = some v := by
              have h0 := HW.out sk hss
              rw [hls, if_pos rfl] at h0
              rw [← h0]
              exact hfs
            obtain ⟨x, ax, cx, hkx, rfl, -, -, -⟩ := (HC8.out.word sk (HC8.out.sub sk (by rw [hv2]; rfl))).ex
            have hnum := HC8.out.num x hkx
            rw [hv2] at hnum
            obtain rfl : v = .int .i64 (partG xs s x) := hnum
            have hks := hkx.size
            have hRb : w8.heap.size ≤ Rr := Nat.le_of_eq HRr.out.symm
            have hbR : b ≠ Rr := by have h1 := HC8.out.m1.lt; have h2 := HRr.out; omega
            have HX10 := hidP (HXx.out.past hg1 hRb)
            have Hm10 := hidP (Hm1.out.kept hg1 (by simpa using hbR))
            have HW1 := hidP (show HalfW f2' (putF f (keyI x) (.int .i64 ((partG xs s x).tdiv 2))) _ from HW.out.put hv2)
            have HLt := hidP (show cnt1 < cnt ∧ wr.rangeLeft (b + 1) Rr = cnt from ⟨hlt1, HR.out.left_eq⟩)
            have HR1 := hidP hrg1
            have hsm : (f (keyI x)).isSome = true := by rw [hfs]; rfl
            have hgb := HGb.out x
            have htd := tdiv_bound hgb.1 hgb.2
            obtain ⟨v0, hv0⟩ : ∃ v0, v0 = partG xs s x := ⟨_, rfl⟩
            rw [← hv0] at htd HW1 hen
            have hwr : IntKind.i64.wrap (v0.tdiv 2) = v0.tdiv 2 := wrap_in (by omega) (by omega)
            obtain ⟨z0, z1⟩ := HA8.out.extM HX10.out HC8.out.m1.is HC8.out.m2.is
            have hNx := HN.out
            rw [← hv0]
            clear hv2 hfs hrg1 hlt1 hg1 hs1 hgb htd hv0 HR HW Hm1 HXx
            go_wp2_with (first | (at_mapUpdate; refine wpList_updateR _ rfl _ _ _ 77 9 3 rfl Tryz.underlying9 Tryz.underlying77 rfl (b + 1) N f rfl HR1.out (by unfold maxLen; omega) (keyI x) rfl hks hsm (.int .i64 (v0.tdiv 2)) rfl ?_; intro w11 hm3 hg3; have HR3 := hidP hm3; have HG3 := hidP hg3; clear hm3 hg3) | fail)
            simp only [Act.put]
            go_roundw
            case rel => exact ⟨_, cnt1, _, HR3, HW1, hidP (Hm10.out.kept HG3.out (by simp)), hidP (HX10.out.trans (ExtM.of_right HG3.out))⟩
            case measure => rw [HR3.out.left_eq, HLt.out.2]; exact HLt.out.1
      · obtain rfl : k = 2 := by omega
        obtain ⟨y0, y1⟩ := HCl.out wr HXr.out
        have HX3 := hidP (HX2.out.trans HXr.out)
        have HMm := hidP (HMu.out wr HX3.out)
        unfold PathRes at HMm
        rw [HM1.out] at HMm
        clear HSg
        go_wp2_with fail
        refine HMm.out.mono ?_
        rintro e w4 ⟨a4, n4, c4, hs4, rfl, -, hx4⟩
        have HX4 := hidP (HX3.out.trans hx4)
        cases hb : chrB R (mulT xs xs)
        · have HRf := hidP (HRm.out hb)
          have hcr : chrR R (mulT xs xs) = (false, []) := by unfold chrR; rw [hb]; rfl
          rw [hcr]
          clear hcr hb hx4 y0 y1 HMm
          go_wp2
          refine bodyPost_ret (v := .tuple #[.slice none 0 0, .slice none 0 0, .bool false]) (by simp [results, Tryz.results53, go_sem]) rfl ?_
          rw [HRf.out]
          exact TwoRes.nil HX4.out
        · have hcr : chrR R (mulT xs xs) = (true, mulT xs xs) := by unfold chrR; rw [hb]; rfl
          rw [hcr]
          have Hb := hidP hb
          obtain ⟨z0, z1⟩ := HCl.out w4 (HXr.out.trans hx4)
          have HDd := hidP (HDo.out w4 HX4.out)
          unfold PathRes at HDd
          rw [HD1.out] at HDd
          have HY4 := hidP hx4
          clear hcr hb hx4 y0 y1 HMm
          go_wp2_with fail
          refine HDd.out.mono ?_
          rintro e w5 ⟨a5, n5, c5, hs5, rfl, -, hx5⟩
          have HX5 := hidP (HX4.out.trans hx5)
          cases hb2 : chrB R (dblT xs)
          · have HRf := hidP (HRd.out hb2)
            have hcr : chrR R (dblT xs) = (false, []) := by unfold chrR; rw [hb2]; rfl
            rw [hcr]
            clear hcr hb2 hx5 z0 z1 HDd
            go_wp2
            refine bodyPost_ret (v := .tuple #[.slice none 0 0, .slice none 0 0, .bool false]) (by simp [results, Tryz.results53, go_sem]) rfl ?_
            rw [HRf.out]
            exact TwoRes.nil HX5.out
          · have hcr : chrR R (dblT xs) = (true, dblT xs) := by unfold chrR; rw [hb2]; rfl
            rw [hcr]
            obtain ⟨U, u1, u2, p0, p1⟩ := HPo.out.ex
            obtain ⟨⟨h0, o0⟩, b0⟩ := p0 (by omega)
            obtain ⟨⟨h1, o1⟩, b1⟩ := p1 (by omega)
            have HRf := hidP (HRt.out Hb.out hb2 b0 b1)
            have HE5 := hidP (HY4.out.trans hx5)
            obtain ⟨g, e, k0, -⟩ := HO.out.cell 0 0 (by omega) (by decide)
            simp only [Option.some.injEq, Addr.mk.injEq, and_true] at e
            subst e
            obtain ⟨g', e, k1, -⟩ := HO.out.cell 1 0 (by omega) (by decide)
            simp only [Option.some.injEq, Addr.mk.injEq, and_true] at e
            subst e
            obtain ⟨⟨⟨a0, n0, c0⟩, d0⟩, hp0⟩ : ∃ x, x = ps.getD 0 pd := ⟨_, rfl⟩
            obtain ⟨⟨⟨a1, n1, c1⟩, d1⟩, hp1⟩ : ∃ x, x = ps.getD 1 pd := ⟨_, rfl⟩
            have e0 : ps.getD 0 partK.dft = ps.getD 0 pd := rfl
            have e1 : ps.getD 1 partK.dft = ps.getD 1 pd := rfl
            rw [e0, ← hp0] at k0
            rw [e1, ← hp1] at k1
            rw [← hp0] at o0
            rw [← hp1] at o1
            have K0 : Hid (wr.cell? ⟨ga, 0, none⟩ = some (.slice a0 n0 c0)) := k0
            have K1 : Hid (wr.cell? ⟨ga, 1, none⟩ = some (.slice a1 n1 c1)) := k1
            have HO0 := hidP (o0.below HE5.out)
            have HO1 := hidP ((o1.below HE5.out).weaken (Nat.le_refl _) HE5.out.size)
            have HQ := hidP (fun w' (hx : Ext w5 w') => And.intro ((HE5.out.trans hx).cell (World.block_lt_of_cell? _ _ K0.out) |>.trans K0.out) ((HE5.out.trans hx).cell (World.block_lt_of_cell? _ _ K1.out) |>.trans K1.out))
            have HUu := hidP (And.intro u1 (Nat.le_trans u2 HE5.out.size))
            clear hcr hb2 hx5 z0 z1 HDd p0 p1 b0 b1 o0 o1 e0 e1 hp0 hp1 k0 k1 u1 u2 HPo HO
            go_wp2
            have hE : Ext w5 w5.drew := Ext.drew w5
            (refine walkR_start (fun w' => Ext w5 w') 9 (by kernel_rfl) ?_; simp only [numbered, List.take_succ_cons, List.take_zero, Nat.zero_add, Nat.reduceAdd, List.length_cons, List.length_nil])
            (repeat (first | (refine walkR_still (v := ?_) rfl (by decide +kernel) rfl (fun _ _ _ h => h) hE ?_ ?_; rotate_left; (focus (intro w' hw'; obtain ⟨z0, z1⟩ := HQ.out w' hw'; go_simp; all_goals (with_reducible rfl))); simp only [Act.put, List.setIfInBounds_toArray, List.set_cons_zero, List.set_cons_succ]) | (refine walkR_skip rfl (by decide +kernel) rfl (fun _ _ _ h => h) hE ?_; simp only [Act.put, List.setIfInBounds_toArray, List.set_cons_zero, List.set_cons_succ])))
            (refine walkR_tail (by rfl) (by kernel_rfl) ?_; simp only [List.drop_succ_cons, List.drop_zero])
            have HE := hidP hE
            clear hE
            go_wp2
            refine bodyPost_ret (v := .tuple #[.slice a0 n0 c0, .slice a1 n1 c1, .bool true]) (by simp [results, Tryz.results53, go_sem]) rfl ?_
            rw [HRf.out]
            exact ⟨a0, n0, c0, h0, a1, n1, c1, h1, U, rfl, HO0.out.below HE.out, (HO1.out.below HE.out).weaken (Nat.le_refl _) HE.out.size, HUu.out.1, Nat.le_trans HUu.out.2 HE.out.size, HX5.out.trans HE.out⟩
end Go.Proofs.YtnfbfdamlnjblaaGreatDoor

namespace Go.Proofs.YtnfbfdamlnjblaaGreatDoor
open Go.RowKit

/-- the first k numbers halved -/
def hafT (l : List Tm) (k : Nat) : List Tm := (l.take k).map hlf ++ l.drop k
theorem hafT_zero (l : List Tm) : hafT l 0 = l := by simp [hafT]
theorem hafT_all {l : List Tm} {k : Nat} (h : l.length ≤ k) : hafT l k = l.map hlf := by simp [hafT, List.take_of_length_le h, List.drop_of_length_le h]
theorem hafT_length (l : List Tm) (k : Nat) : (hafT l k).length = l.length := by unfold hafT; rw [List.length_append, List.length_map, List.length_take, List.length_drop]; omega
theorem hafT_at {l : List Tm} {k : Nat} (h : k < l.length) : wayAt (hafT l k) k = wayAt l k ∧ lenAt (hafT l k) k = lenAt l k := by
  have e : (hafT l k).getD k ([], 0) = l.getD k ([], 0) := by
    unfold hafT
    rw [getD_right _ _ _ _ (by rw [List.length_map, List.length_take]; omega), List.length_map, List.length_take, Nat.min_eq_left (Nat.le_of_lt h), Nat.sub_self]
    simp [List.getD_eq_getElem?_getD]
  unfold wayAt lenAt
  rw [e]
  exact ⟨rfl, rfl⟩
theorem hafT_succ {l : List Tm} {k : Nat} (h : k < l.length) : (hafT l k).set k (wayAt l k, (lenAt l k).tdiv 2) = hafT l (k + 1) := by
  unfold hafT
  rw [drop_at h, List.take_succ_eq_append_getElem h, List.map_append, List.set_append_right _ _ (by rw [List.length_map, List.length_take]; omega), List.length_map, List.length_take, Nat.min_eq_left (Nat.le_of_lt h), Nat.sub_self, List.set_cons_zero, ← at_eq h]
  simp [hlf]

set_option maxRecDepth 100000 in
set_option maxHeartbeats 4000000 in
theorem l8Half_any (a : Option Addr) (n c : Nat) (us : List Tm) (w : World) (h : StepsAt w a n us) (hn : n ≤ 1000000) (hw : ∀ k, k < n → (wayAt us k).length ≤ 1000000) (hb : ∀ p ∈ us, -200000000000000000 ≤ p.2 ∧ p.2 ≤ 200000000000000000) :
    Calls Tryz.prog 107 #[.slice a n c] w fun e w' => ∃ g c' hs, e = .returned (.slice (some ⟨g, 0, none⟩) (halfT us).length c') ∧ OwnK stepK w' w.heap.size w'.heap.size (some ⟨g, 0, none⟩) (halfT us).length c' hs (halfT us) ∧ Ext w w' := by
  have hnl := h.len
  have HCl := hidP (l8Clean_any a n c us w h hn hw)
  have hcl : (cleanT us).length ≤ n := by rw [← hnl]; exact List.length_filter_le _ _
  have HB := hidP (fun k (hk : k < (cleanT us).length) => hb ((cleanT us).getD k ([], 0)) (by rw [getT hk]; exact (List.mem_filter.1 (List.getElem_mem hk)).1))
  have HWc := hidP (fun k (hk : k < (cleanT us).length) => by
    have hm := (List.mem_filter.1 (List.getElem_mem hk)).1
    obtain ⟨i, hi, e⟩ := List.getElem_of_mem hm
    have := hw i (by omega)
    unfold wayAt at this
    rw [getT hi, e] at this
    have e2 : wayAt (cleanT us) k = (cleanT us)[k].1 := by unfold wayAt; rw [getT hk]
    exact show (wayAt (cleanT us) k).length ≤ 1000000 by rw [e2]; exact this)
  have HHf : Hid (halfT us = cleanT ((cleanT us).map hlf)) := rfl
  obtain ⟨V, hV⟩ : ∃ V, V = cleanT us := ⟨_, rfl⟩
  rw [← hV] at HCl hcl HB HWc HHf
  obtain ⟨m, hm⟩ : ∃ m, m = V.length := ⟨_, rfl⟩
  rw [← hm] at HCl hcl HB HWc
  have HMv := hidP hm
  clear h hw hb hV hm
  go_enter Tryz.func107, Tryz.ntmps107
  go_wp2_with fail
  refine HCl.out.mono ?_
  rintro e w1 ⟨g1, c1, hs1, rfl, ho1, hx1⟩
  have HO1 : Hid (OwnK stepK w1 w.heap.size w1.heap.size (some ⟨g1, 0, none⟩) m c1 hs1 (hafT V 0)) := by
    rw [hafT_zero]
    exact ho1
  have HX1 := hidP hx1
  clear ho1 hx1 HCl
  go_wp2
  go_loopw [4] (fun i wr => ∃ k : Nat, k ≤ m ∧ i = .int .i64 k ∧ Hid (OwnK stepK wr w.heap.size wr.heap.size (some ⟨g1, 0, none⟩) m c1 hs1 (hafT V k)) ∧ Hid (Ext w wr)) (fun i _ => m - (intOf i).toNat)
  case atStart => exact ⟨0, Nat.zero_le _, rfl, HO1, HX1⟩
  case round =>
    clear HO1 HX1
    obtain ⟨k, hk, rfl, HO, HX⟩ := hrel
    by_cases hlt : k < m
    · have hkV : k < V.length := by have := HMv.out; omega
      obtain ⟨g, al, cl, e', hh, q1, q2, r1, r2, hol⟩ := HO.out.stepCell k hlt
      simp only [Option.some.injEq, Addr.mk.injEq, and_true] at e'
      subst e'
      obtain ⟨e1, e2⟩ := hafT_at hkV
      rw [e2] at q2
      have hbk := HB.out k (by omega)
      have hbk : -200000000000000000 ≤ lenAt V k ∧ lenAt V k ≤ 200000000000000000 := hbk
      have htd := tdiv_bound hbk.1 hbk.2
      have hst := HO.out.stored k 1 hlt (by decide) (.int .i64 ((lenAt V k).tdiv 2)) (wayAt (hafT V k) k, (lenAt V k).tdiv 2) rfl rfl rfl
      rw [e1] at hst
      rw [hafT_succ hkV] at hst
      have HSt := hidP hst
      have hgB := HO.out.base_lt g1 0 rfl
      obtain ⟨M, hM⟩ : ∃ M, M = lenAt V k := ⟨_, rfl⟩
      rw [← hM] at q2 htd HSt
      have hwr : IntKind.i64.wrap (M.tdiv 2) = M.tdiv 2 := wrap_in (by omega) (by omega)
      clear hst hh hol hbk htd e1 e2 hM hkV
      go_wp2
      go_roundw
      case rel => exact ⟨k + 1, by omega, by go_num, OwnK.weaken HSt.out (Nat.le_refl _) (by simp [World.setCell]), Below.setCell (p := ⟨g1, k * 2 + 1, none⟩) HX.out hgB.1 _⟩
      case measure => simp [intOf]; omega
    · obtain rfl : m = k := by omega
      have hA : hafT V m = V.map hlf := hafT_all (by have := HMv.out; omega)
      rw [hA] at HO
      have hC2 := l8Clean_any (some ⟨g1, 0, none⟩) m c1 (V.map hlf) wr HO.out.stepsAt (by omega) (fun k hk => by
        have h1 := HWc.out k hk
        have e : wayAt (V.map hlf) k = wayAt V k := by
          unfold wayAt
          simp [List.getD_eq_getElem?_getD, show k < V.length by have := HMv.out; omega, hlf]
        rw [e]
        exact h1)
      rw [← HHf.out] at hC2
      have HC2 := hidP hC2
      clear hA hC2
      go_wp2_with fail
      refine HC2.out.mono ?_
      rintro e w2 ⟨g2, c2, hs2, rfl, ho2, hx2⟩
      have HO2 := hidP (ho2.weaken HX.out.size (Nat.le_refl _))
      have HX2 := hidP (HX.out.trans hx2)
      clear ho2 hx2
      go_wp2
      go_ret
      exact ⟨g2, c2, hs2, rfl, HO2.out, HX2.out⟩

theorem l8JoinC_any {R : Nat} (hR : R ≤ 4) {S D : List Tm} (hS : ChrP R S) (hD : ChrP R D) {m : Int} (hm : m = 1 ∨ m = -1) (a : Option Addr) (n c : Nat) (a' : Option Addr) (n' c' : Nat) (w : World) (h : StepsAt w a n S) (h' : StepsAt w a' n' D) :
    Calls Tryz.prog 99 #[.slice a n c, .int .i64 m, .slice a' n' c'] w fun e w' => ∃ g c' hs, e = .returned (.slice (some ⟨g, 0, none⟩) (joinT S m D).length c') ∧ OwnK stepK w' w.heap.size w'.heap.size (some ⟨g, 0, none⟩) (joinT S m D).length c' hs (joinT S m D) ∧ Ext w w' := by
  have hl := h.len
  have hl' := h'.len
  have hu4 := hS.len
  have hv4 := hD.len
  refine l8Join_any a n c S m a' n' c' D w h h' (by omega) (by omega) (fun k hk => ?_) (fun k hk => ?_) hS.ord (fun k hk x => ?_) (fun k hk => ?_)
  · have := hS.at hR (k := k) (by omega)
    omega
  · have := hD.at hR (k := k) (by omega)
    rcases hm with rfl | rfl <;> omega
  · rw [cntSum_append, times_sum]
    have h1 := take_bound hS S.length x
    have h2 := take_bound hD k x
    rw [List.take_length] at h1
    rcases hm with rfl | rfl <;> omega
  · have := puts_words (P := fun x => x.length ≤ 4) m D (o := cleanT S) (fun p hp => by have := (hS.small hR p (List.mem_filter.1 hp).1).2; show p.1.length ≤ 4; omega) (fun p hp => by have := (hD.small hR p hp).2; show p.1.length ≤ 4; omega) ((putsT (cleanT S) m D).getD k ([], 0)) (by rw [getT hk]; exact List.getElem_mem hk)
    unfold wayAt
    omega
theorem join_word {R : Nat} (hR : R ≤ 4) {S D : List Tm} (hS : ChrP R S) (hD : ChrP R D) (m : Int) {k : Nat} (hk : k < (joinT S m D).length) : (wayAt (joinT S m D) k).length ≤ 1000000 := by
  have hm := List.getElem_mem hk
  have hm2 := (List.mem_filter.1 hm).1
  have := puts_words (P := fun x => x.length ≤ 4) m D (o := cleanT S) (fun p hp => by have := (hS.small hR p (List.mem_filter.1 hp).1).2; show p.1.length ≤ 4; omega) (fun p hp => by have := (hD.small hR p hp).2; show p.1.length ≤ 4; omega) _ hm2
  unfold wayAt
  rw [getT hk]
  omega
theorem join_num {R : Nat} {S D : List Tm} (hS : ChrP R S) (hD : ChrP R D) {m : Int} (hm : m = 1 ∨ m = -1) : ∀ p ∈ joinT S m D, -200000000000000000 ≤ p.2 ∧ p.2 ≤ 200000000000000000 := fun p hp => by
  rw [← ordered_val above_ord (joinT_tells (b := D) m hS.ord).1 hp, cntSum_join, cntSum_append, times_sum]
  have h1 := take_bound hS S.length p.1
  have h2 := take_bound hD D.length p.1
  rw [List.take_length] at h1 h2
  rcases hm with rfl | rfl <;> omega
theorem chrB_of_chrR {r : Nat} {T T' : List Tm} (h : chrR r T = chrR r T') : chrB r T = chrB r T' := by
  unfold chrR at h
  cases h1 : chrB r T <;> cases h2 : chrB r T' <;> rw [h1, h2] at h <;> first | rfl | (simp at h)

set_option maxRecDepth 100000 in
set_option maxHeartbeats 4000000 in
theorem sSquareParts_any (r : Int) (ta : Option Addr) (tn tc : Nat) (ts : List Int) (a : Option Addr) (n c : Nat) (xs : List Tm) (w : World) (hc : IntsAt w ta tn ts) (hcn : tn ≤ 9223372036854775807)
    (h : StepsAt w a n xs) (hn : n ≤ 9223372036854775807) :
    TwoRes 52 #[carV r ta tn tc, .slice a n c] w (squareR r ts xs) := by
  unfold TwoRes
  have hx1 := Ext.alloc w (.cells #[.int .i64 r, .slice ta tn tc] 55)
  have HC := hidP (fun w' (hx : Ext (w.alloc (.cells #[.int .i64 r, .slice ta tn tc] 55)) w') => (CarAt.new w _ rfl r ta tn tc 55).below hx)
  have HX1 := hidP hx1
  have H := hidP (h.below hx1)
  have HP := hidP (sCharacterOk_any r ta tn tc ts a n c xs _ (hc.below hx1) hcn (h.below hx1).terms hn)
  clear hc h hx1
  obtain ⟨w1, hw1⟩ : ∃ w1, w1 = w.alloc (.cells #[.int .i64 r, .slice ta tn tc] 55) := ⟨_, rfl⟩
  rw [← hw1] at HC HX1 H HP
  obtain ⟨f0, f1⟩ := HC.out w1 (Ext.refl w1)
  cases hT : (typeB r ts && chrB r.toNat xs)
  · have HR : Hid (squareR r ts xs = (false, [], [])) := by
      show _ = _
      unfold squareR
      rw [hT]
      rfl
    rw [hT] at HP
    clear hT
    go_enter Tryz.func52, Tryz.ntmps52
    go_wp2_with fail
    rw [← hw1]
    clear hw1
    refine HP.out.mono ?_
    rintro e w2 ⟨rfl, hx⟩
    have HX := hidP hx
    clear hx
    go_wp2
    refine bodyPost_ret (v := .tuple #[.slice none 0 0, .slice none 0 0, .bool false]) (by simp [results, Tryz.results52, go_sem]) rfl ?_
    rw [HR.out]
    exact TwoRes.nil (HX1.out.trans HX.out)
  · have hT2 : typeB r ts = true := by
      simp only [Bool.and_eq_true] at hT
      exact hT.1
    have hP1 : chrB r.toNat xs = true := by
      simp only [Bool.and_eq_true] at hT
      exact hT.2
    obtain ⟨hr1, hr4, _⟩ := typeB_rank hT2
    obtain ⟨R, rfl⟩ : ∃ R : Nat, r = R := ⟨r.toNat, by omega⟩
    rw [Int.toNat_natCast] at hP1
    have hR : R ≤ 4 := by omega
    have HRp : Hid (∀ s, (s = 1 ∨ s = -1) → chrB R (partT xs s) = false → squareR R ts xs = (false, [], [])) := fun s hs h => squareR_part hs (by rw [Int.toNat_natCast]; exact h)
    have HRm : Hid (chrB R (mulT xs xs) = false → squareR R ts xs = (false, [], [])) := fun h => squareR_mul (by rw [Int.toNat_natCast]; exact h)
    have HRd : Hid (chrB R (dblT xs) = false → squareR R ts xs = (false, [], [])) := fun h => squareR_dbl (by rw [Int.toNat_natCast]; exact h)
    have HRt : Hid (chrB R (mulT xs xs) = true → chrB R (dblT xs) = true → chrB R (partT xs 1) = true → chrB R (partT xs (-1)) = true → squareR R ts xs = (true, partT xs 1, partT xs (-1))) := fun h1 h2 h3 h4 => by
      unfold squareR
      rw [hT, Int.toNat_natCast, h1, h2, h3, h4]
      rfl
    have HU := hidP (chrB_iff.1 hP1)
    rw [hT] at HP
    have hnl := H.out.len
    have hu4 := HU.out.len
    clear hT hT2 hP1 hr1 hr4
    go_enter Tryz.func52, Tryz.ntmps52
    go_wp2_with fail
    rw [← hw1]
    clear hw1
    refine HP.out.mono ?_
    rintro e w2 ⟨rfl, hx⟩
    have HX2 := hidP (HX1.out.trans hx)
    have HC2 := hidP (fun w' (hy : Ext w2 w') => HC.out w' (hx.trans hy))
    have H2 := hidP (H.out.below hx)
    have HMl := hidP (l8Mul_any a n c xs a n c xs w2 (H.out.below hx) (H.out.below hx) hR HU.out HU.out)
    clear hx HC H HP f0 f1
    go_wp2_with fail
    refine HMl.out.mono ?_
    rintro e w3 ⟨g3, q3, c3, hs3, T, rfl, ho3, ⟨hq3, hD⟩, hx3⟩
    have HO3 := hidP ho3
    have HX3 := hidP hx3
    have hl3 := ho3.xl
    have HCb := hidP (chrB_of_chrR (mulT_chr (r := R) hD))
    have HDd := hidP hD
    have HLo := hidP (fun w' (hx : Ext w3 w') => l8Ok_any R ta tn tc (some ⟨g3, 0, none⟩) q3 c3 T w' (HO3.out.termsAt.below hx) (by omega) (by omega))
    have HCr := hidP (fun w' (hx : Ext w3 w') => HC2.out w' (hx3.trans hx))
    have HDb := hidP (fun w' (hx : Ext w3 w') => l8Double_any a n c xs w' ((H2.out.below hx3).below hx) hR HU.out)
    have hE : Ext w3 w3.drew := Ext.drew w3
    clear ho3 hx3 hD HMl
    cases hb : chrB R T
    · have HRf := hidP (HRm.out (HCb.out.symm.trans hb))
      rw [hb] at HLo
      clear hb
      go_wp2
      (refine walkR_start (fun w' => Ext w3 w') 11 (by kernel_rfl) ?_; simp only [numbered, List.take_succ_cons, List.take_zero, Nat.zero_add, Nat.reduceAdd, List.length_cons, List.length_nil])
      (repeat (first | (refine walkR_still (v := ?_) rfl (by decide +kernel) rfl (fun _ _ _ h => h) hE ?_ ?_; rotate_left; (focus (intro w' hw'; obtain ⟨f0, f1⟩ := HCr.out w' hw'; go_simp; all_goals (with_reducible rfl))); simp only [Act.put, List.setIfInBounds_toArray, List.set_cons_zero, List.set_cons_succ]) | (refine walkR_skip rfl (by decide +kernel) rfl (fun _ _ _ h => h) hE ?_; simp only [Act.put, List.setIfInBounds_toArray, List.set_cons_zero, List.set_cons_succ])))
      (refine walkR_only (fun w' => Ext w3 w') rfl (by decide +kernel) rfl (fun _ h => h) ?_; intro K hK; go_simp; refine (HLo.out _ hE).mono ?_; rintro e w4 ⟨rfl, hx4⟩; refine hK _ _ (hE.trans hx4) ?_; clear hK K; (try simp only [Act.put, List.setIfInBounds_toArray, List.set_cons_zero, List.set_cons_succ]))
      have hE4 := hE.trans hx4
      (repeat (first | (refine walkR_still (v := ?_) rfl (by decide +kernel) rfl (fun _ _ _ h => h) hE4 ?_ ?_; rotate_left; (focus (intro w' hw'; obtain ⟨f0, f1⟩ := HCr.out w' hw'; go_simp; all_goals (with_reducible rfl))); simp only [Act.put, List.setIfInBounds_toArray, List.set_cons_zero, List.set_cons_succ]) | (refine walkR_skip rfl (by decide +kernel) rfl (fun _ _ _ h => h) hE4 ?_; simp only [Act.put, List.setIfInBounds_toArray, List.set_cons_zero, List.set_cons_succ])))
      (refine walkR_tail (by rfl) (by kernel_rfl) ?_; simp only [List.drop_succ_cons, List.drop_zero])
      have HE4 := hidP hE4
      clear hE4 hx4 hE
      go_wp2
      refine bodyPost_ret (v := .tuple #[.slice none 0 0, .slice none 0 0, .bool false]) (by simp [results, Tryz.results52, go_sem]) rfl ?_
      rw [HRf.out]
      exact TwoRes.nil (HX2.out.trans (HX3.out.trans HE4.out))
    · obtain rfl : T = mulT xs xs := by
        rcases HDd.out with h | ⟨h, _⟩
        · exact h
        · rw [chrB_long h] at hb
          cases hb
      have HS := hidP (chrB_iff.1 hb)
      rw [hb] at HLo
      clear HCb HDd
      cases hb2 : chrB R (dblT xs)
      · have HRf := hidP (HRd.out hb2)
        go_wp2
        (refine walkR_start (fun w' => Ext w3 w') 11 (by kernel_rfl) ?_; simp only [numbered, List.take_succ_cons, List.take_zero, Nat.zero_add, Nat.reduceAdd, List.length_cons, List.length_nil])
        (repeat (first | (refine walkR_still (v := ?_) rfl (by decide +kernel) rfl (fun _ _ _ h => h) hE ?_ ?_; rotate_left; (focus (intro w' hw'; obtain ⟨f0, f1⟩ := HCr.out w' hw'; go_simp; all_goals (with_reducible rfl))); simp only [Act.put, List.setIfInBounds_toArray, List.set_cons_zero, List.set_cons_succ]) | (refine walkR_skip rfl (by decide +kernel) rfl (fun _ _ _ h => h) hE ?_; simp only [Act.put, List.setIfInBounds_toArray, List.set_cons_zero, List.set_cons_succ])))
        (refine walkR_only (fun w' => Ext w3 w') rfl (by decide +kernel) rfl (fun _ h => h) ?_; intro K hK; go_simp; refine (HLo.out _ hE).mono ?_; rintro e w4 ⟨rfl, hx4⟩; refine hK _ _ (hE.trans hx4) ?_; clear hK K; (try simp only [Act.put, List.setIfInBounds_toArray, List.set_cons_zero, List.set_cons_succ]))
        have hE4 := hE.trans hx4
        (repeat (first | (refine walkR_still (v := ?_) rfl (by decide +kernel) rfl (fun _ _ _ h => h) hE4 ?_ ?_; rotate_left; (focus (intro w' hw'; obtain ⟨f0, f1⟩ := HCr.out w' hw'; go_simp; all_goals (with_reducible rfl))); simp only [Act.put, List.setIfInBounds_toArray, List.set_cons_zero, List.set_cons_succ]) | (refine walkR_skip rfl (by decide +kernel) rfl (fun _ _ _ h => h) hE4 ?_; simp only [Act.put, List.setIfInBounds_toArray, List.set_cons_zero, List.set_cons_succ])))
        (refine walkR_only (fun w' => Ext w3 w') rfl (by decide +kernel) rfl (fun _ h => h) ?_; intro K hK; go_simp; refine (HDb.out _ hE4).mono ?_; rintro e w5 ⟨g5, c5, hs5, rfl, ho5, hx5⟩; refine hK _ _ (hE4.trans hx5) ?_; clear hK K; (try simp only [Act.put, List.setIfInBounds_toArray, List.set_cons_zero, List.set_cons_succ]))
        have hE5 := hE4.trans hx5
        have HLd := hidP (l8Ok_any R ta tn tc (some ⟨g5, 0, none⟩) n c5 (dblT xs) w5 ho5.termsAt (by omega) (by omega))
        rw [hb2] at HLd
        (refine walkR_only (fun w' => Ext w3 w') rfl (by decide +kernel) rfl (fun _ h => h) ?_; intro K hK; go_simp; refine (HLd.out).mono ?_; rintro e w6 ⟨rfl, hx6⟩; refine hK _ _ (hE5.trans hx6) ?_; clear hK K; (try simp only [Act.put, List.setIfInBounds_toArray, List.set_cons_zero, List.set_cons_succ]))
        have hE6 := hE5.trans hx6
        (repeat (first | (refine walkR_still (v := ?_) rfl (by decide +kernel) rfl (fun _ _ _ h => h) hE6 ?_ ?_; rotate_left; (focus (intro w' hw'; skip; go_simp; all_goals (with_reducible rfl))); simp only [Act.put, List.setIfInBounds_toArray, List.set_cons_zero, List.set_cons_succ]) | (refine walkR_skip rfl (by decide +kernel) rfl (fun _ _ _ h => h) hE6 ?_; simp only [Act.put, List.setIfInBounds_toArray, List.set_cons_zero, List.set_cons_succ])))
        (refine walkR_tail (by rfl) (by kernel_rfl) ?_; simp only [List.drop_succ_cons, List.drop_zero])
        have HE6 := hidP hE6
        clear hE4 hE5 hE6 hx4 hx5 hx6 hE ho5 hb hb2 HLd
        go_wp2
        refine bodyPost_ret (v := .tuple #[.slice none 0 0, .slice none 0 0, .bool false]) (by simp [results, Tryz.results52, go_sem]) rfl ?_
        rw [HRf.out]
        exact TwoRes.nil (HX2.out.trans (HX3.out.trans HE6.out))
      · have HD := hidP (chrB_iff.1 hb2)
        have Hb := hidP hb
        have Hb2 := hidP hb2
        clear hb
        go_wp2
        (refine walkR_start (fun w' => Ext w3 w') 11 (by kernel_rfl) ?_; simp only [numbered, List.take_succ_cons, List.take_zero, Nat.zero_add, Nat.reduceAdd, List.length_cons, List.length_nil])
        (repeat (first | (refine walkR_still (v := ?_) rfl (by decide +kernel) rfl (fun _ _ _ h => h) hE ?_ ?_; rotate_left; (focus (intro w' hw'; obtain ⟨f0, f1⟩ := HCr.out w' hw'; go_simp; all_goals (with_reducible rfl))); simp only [Act.put, List.setIfInBounds_toArray, List.set_cons_zero, List.set_cons_succ]) | (refine walkR_skip rfl (by decide +kernel) rfl (fun _ _ _ h => h) hE ?_; simp only [Act.put, List.setIfInBounds_toArray, List.set_cons_zero, List.set_cons_succ])))
        (refine walkR_only (fun w' => Ext w3 w') rfl (by decide +kernel) rfl (fun _ h => h) ?_; intro K hK; go_simp; refine (HLo.out _ hE).mono ?_; rintro e w4 ⟨rfl, hx4⟩; refine hK _ _ (hE.trans hx4) ?_; clear hK K; (try simp only [Act.put, List.setIfInBounds_toArray, List.set_cons_zero, List.set_cons_succ]))
        have hE4 := hE.trans hx4
        (repeat (first | (refine walkR_still (v := ?_) rfl (by decide +kernel) rfl (fun _ _ _ h => h) hE4 ?_ ?_; rotate_left; (focus (intro w' hw'; obtain ⟨f0, f1⟩ := HCr.out w' hw'; go_simp; all_goals (with_reducible rfl))); simp only [Act.put, List.setIfInBounds_toArray, List.set_cons_zero, List.set_cons_succ]) | (refine walkR_skip rfl (by decide +kernel) rfl (fun _ _ _ h => h) hE4 ?_; simp only [Act.put, List.setIfInBounds_toArray, List.set_cons_zero, List.set_cons_succ])))
        (refine walkR_only (fun w' => Ext w3 w') rfl (by decide +kernel) rfl (fun _ h => h) ?_; intro K hK; go_simp; refine (HDb.out _ hE4).mono ?_; rintro e w5 ⟨g5, c5, hs5, rfl, ho5, hx5⟩; refine hK _ _ (hE4.trans hx5) ?_; clear hK K; (try simp only [Act.put, List.setIfInBounds_toArray, List.set_cons_zero, List.set_cons_succ]))
        have hE5 := hE4.trans hx5
        have HLd := hidP (l8Ok_any R ta tn tc (some ⟨g5, 0, none⟩) n c5 (dblT xs) w5 ho5.termsAt (by omega) (by omega))
        rw [hb2] at HLd
        (refine walkR_only (fun w' => Ext w3 w') rfl (by decide +kernel) rfl (fun _ h => h) ?_; intro K hK; go_simp; refine (HLd.out).mono ?_; rintro e w6 ⟨rfl, hx6⟩; refine hK _ _ (hE5.trans hx6) ?_; clear hK K; (try simp only [Act.put, List.setIfInBounds_toArray, List.set_cons_zero, List.set_cons_succ]))
        have hE6 := hE5.trans hx6
        (repeat (first | (refine walkR_still (v := ?_) rfl (by decide +kernel) rfl (fun _ _ _ h => h) hE6 ?_ ?_; rotate_left; (focus (intro w' hw'; skip; go_simp; all_goals (with_reducible rfl))); simp only [Act.put, List.setIfInBounds_toArray, List.set_cons_zero, List.set_cons_succ]) | (refine walkR_skip rfl (by decide +kernel) rfl (fun _ _ _ h => h) hE6 ?_; simp only [Act.put, List.setIfInBounds_toArray, List.set_cons_zero, List.set_cons_succ])))
        (refine walkR_tail (by rfl) (by kernel_rfl) ?_; simp only [List.drop_succ_cons, List.drop_zero])
        have HYw6 := hidP hE6
        clear hE4 hE5 hE6 hx4 hx5 hx6 hE ho5 hb2 HLd HLo
        have HDx7 := hidP (HDb.out w6 HYw6.out)
        go_wp2_with fail
        refine HDx7.out.mono ?_
        rintro e w7 ⟨g7, c7, hs7, rfl, ho7, hx7⟩
        have HYw7 := hidP (HYw6.out.trans hx7)
        have HJ7 := hidP (l8JoinC_any hR HS.out HD.out (.inl rfl) (some ⟨g3, 0, none⟩) q3 c3 (some ⟨g7, 0, none⟩) n c7 w7 (HO3.out.stepsAt.below HYw7.out) ho7.stepsAt)
        obtain ⟨J7, hJ7⟩ : ∃ J, J = joinT (mulT xs xs) 1 (dblT xs) := ⟨_, rfl⟩
        rw [← hJ7] at HJ7
        have HJe7 := hidP hJ7
        clear ho7 hx7 HDx7 hJ7
        go_wp2_with fail
        refine HJ7.out.mono ?_
        rintro e w8 ⟨g8, c8, hs8, rfl, ho8, hx8⟩
        have HYw8 := hidP (HYw7.out.trans hx8)
        have hlJ : J7.length ≤ 1000000 := by
          rw [HJe7.out]
          have h1 := joinT_length (mulT xs xs) 1 (dblT xs)
          have h2 := HS.out.len
          have h3 := HD.out.len
          omega
        have HF8 := hidP (l8Half_any (some ⟨g8, 0, none⟩) J7.length c8 J7 w8 ho8.stepsAt hlJ (fun k hk => by rw [HJe7.out] at hk ⊢; exact join_word hR HS.out HD.out _ hk) (by rw [HJe7.out]; exact join_num HS.out HD.out (.inl rfl)))
        obtain ⟨P1, hP1⟩ : ∃ P, P = halfT J7 := ⟨_, rfl⟩
        rw [← hP1] at HF8
        have HPeP1 : Hid (P1 = partT xs 1) := by
          show _ = _
          rw [hP1, HJe7.out]
          rfl
        have HPl1 : Hid (P1.length ≤ 1000000) := by
          show _ ≤ _
          rw [hP1]
          exact Nat.le_trans (half_length _) hlJ
        clear ho8 hx8 HJ7 hlJ hP1
        go_wp2_with fail
        refine HF8.out.mono ?_
        rintro e w9 ⟨g9, c9, hs9, rfl, ho9, hx9⟩
        have HYw9 := hidP (HYw8.out.trans hx9)
        have HO9 := hidP ho9
        clear ho9 hx9 HF8
        have HZw9 := hidP (Ext.refl w9)
        have HDx10 := hidP (HDb.out w9 HYw9.out)
        go_wp2_with fail
        refine HDx10.out.mono ?_
        rintro e w10 ⟨g10, c10, hs10, rfl, ho10, hx10⟩
        have HYw10 := hidP (HYw9.out.trans hx10)
        have HZw10 := hidP (HZw9.out.trans hx10)
        have HJ10 := hidP (l8JoinC_any hR HS.out HD.out (.inr rfl) (some ⟨g3, 0, none⟩) q3 c3 (some ⟨g10, 0, none⟩) n c10 w10 (HO3.out.stepsAt.below HYw10.out) ho10.stepsAt)
        obtain ⟨J10, hJ10⟩ : ∃ J, J = joinT (mulT xs xs) (-1) (dblT xs) := ⟨_, rfl⟩
        rw [← hJ10] at HJ10
        have HJe10 := hidP hJ10
        clear ho10 hx10 HDx10 hJ10
        go_wp2_with fail
        refine HJ10.out.mono ?_
        rintro e w11 ⟨g11, c11, hs11, rfl, ho11, hx11⟩
        have HYw11 := hidP (HYw10.out.trans hx11)
        have HZw11 := hidP (HZw10.out.trans hx11)
        have hlJ : J10.length ≤ 1000000 := by
          rw [HJe10.out]
          have h1 := joinT_length (mulT xs xs) (-1) (dblT xs)
          have h2 := HS.out.len
          have h3 := HD.out.len
          omega
        have HF11 := hidP (l8Half_any (some ⟨g11, 0, none⟩) J10.length c11 J10 w11 ho11.stepsAt hlJ (fun k hk => by rw [HJe10.out] at hk ⊢; exact join_word hR HS.out HD.out _ hk) (by rw [HJe10.out]; exact join_num HS.out HD.out (.inr rfl)))
        obtain ⟨P2, hP2⟩ : ∃ P, P = halfT J10 := ⟨_, rfl⟩
        rw [← hP2] at HF11
        have HPeP2 : Hid (P2 = partT xs (-1)) := by
          show _ = _
          rw [hP2, HJe10.out]
          rfl
        have HPl2 : Hid (P2.length ≤ 1000000) := by
          show _ ≤ _
          rw [hP2]
          exact Nat.le_trans (half_length _) hlJ
        clear ho11 hx11 HJ10 hlJ hP2
        go_wp2_with fail
        refine HF11.out.mono ?_
        rintro e w12 ⟨g12, c12, hs12, rfl, ho12, hx12⟩
        have HYw12 := hidP (HYw11.out.trans hx12)
        have HZw12 := hidP (HZw11.out.trans hx12)
        have HO12 := hidP ho12
        clear ho12 hx12 HF11
        have HO9b := hidP (HO9.out.below HZw12.out)
        have HLx := hidP (fun w' (hx : Ext w12 w') => l8Ok_any R ta tn tc (some ⟨g9, 0, none⟩) P1.length c9 P1 w' (HO9b.out.termsAt.below hx) (by have := HPl1.out; omega) (by omega))
        have HLy := hidP (fun w' (hx : Ext w12 w') => l8Ok_any R ta tn tc (some ⟨g12, 0, none⟩) P2.length c12 P2 w' (HO12.out.termsAt.below hx) (by have := HPl2.out; omega) (by omega))
        have HCz := hidP (fun w' (hx : Ext w12 w') => HCr.out w' (HYw12.out.trans hx))
        have HXz := hidP (HX2.out.trans (HX3.out.trans HYw12.out))
        have HUb := hidP (HX2.out.trans (HX3.out.trans HYw9.out)).size
        obtain ⟨f0, f1⟩ := HCz.out w12 (Ext.refl _)
        cases hp1 : chrB R P1
        · have HRf := hidP (HRp.out 1 (.inl rfl) (by rw [← HPeP1.out]; exact hp1))
          rw [hp1] at HLx
          clear hp1
          go_wp2_with fail
          refine (HLx.out _ (Ext.refl _)).mono ?_
          rintro e w13 ⟨rfl, hx13⟩
          have HX13 := hidP (HXz.out.trans hx13)
          clear hx13
          go_wp2
          refine bodyPost_ret (v := .tuple #[.slice none 0 0, .slice none 0 0, .bool false]) (by simp [results, Tryz.results52, go_sem]) rfl ?_
          rw [HRf.out]
          exact TwoRes.nil HX13.out
        · have Hp1 := hidP hp1
          rw [hp1] at HLx
          clear hp1
          go_wp2_with fail
          refine (HLx.out _ (Ext.refl _)).mono ?_
          rintro e w13 ⟨rfl, hx13⟩
          have HX13 := hidP hx13
          obtain ⟨f2, f3⟩ := HCz.out w13 hx13
          clear hx13 f0 f1
          cases hp2 : chrB R P2
          · have HRf := hidP (HRp.out (-1) (.inr rfl) (by rw [← HPeP2.out]; exact hp2))
            rw [hp2] at HLy
            clear hp2
            go_wp2_with fail
            refine (HLy.out _ HX13.out).mono ?_
            rintro e w14 ⟨rfl, hx14⟩
            have HX14 := hidP (HXz.out.trans (HX13.out.trans hx14))
            clear hx14
            go_wp2
            refine bodyPost_ret (v := .tuple #[.slice none 0 0, .slice none 0 0, .bool false]) (by simp [results, Tryz.results52, go_sem]) rfl ?_
            rw [HRf.out]
            exact TwoRes.nil HX14.out
          · have HRf := hidP (HRt.out Hb.out Hb2.out (by rw [← HPeP1.out]; exact Hp1.out) (by rw [← HPeP2.out]; exact hp2))
            rw [← HPeP1.out, ← HPeP2.out] at HRf
            rw [hp2] at HLy
            clear hp2
            go_wp2_with fail
            refine (HLy.out _ HX13.out).mono ?_
            rintro e w14 ⟨rfl, hx14⟩
            have HX14 := hidP (HX13.out.trans hx14)
            clear hx14
            go_wp2
            refine bodyPost_ret (v := .tuple #[.slice (some ⟨g9, 0, none⟩) P1.length c9, .slice (some ⟨g12, 0, none⟩) P2.length c12, .bool true]) (by simp [results, Tryz.results52, go_sem]) rfl ?_
            rw [HRf.out]
            exact ⟨some ⟨g9, 0, none⟩, P1.length, c9, hs9, some ⟨g12, 0, none⟩, P2.length, c12, hs12, w9.heap.size, rfl, (HO9b.out.below HX14.out).weaken (HX2.out.trans (HX3.out.trans HYw8.out)).size (Nat.le_refl _), (HO12.out.below HX14.out).weaken HZw11.out.size HX14.out.size, HUb.out, (HZw12.out.trans HX14.out).size, HXz.out.trans HX14.out⟩
end Go.Proofs.YtnfbfdamlnjblaaGreatDoor
