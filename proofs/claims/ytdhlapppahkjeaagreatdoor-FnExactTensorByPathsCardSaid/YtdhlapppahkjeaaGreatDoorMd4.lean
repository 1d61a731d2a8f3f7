/-
  Characters, plain: what a list of weights with numbers must be, sums of numbers by word, the dual and the double one. No program in sight.
  Characters read by the reference: l8Ok. Printed by gen/chr.py.
  Characters read by the program: CharacterOk. Printed by gen/chr.py.
-/
import Derived.Test.YtdhlapppahkjeaaGreatDoorMd3
namespace Go.Proofs.YtdhlapppahkjeaaGreatDoor
open Go.RowKit

/-! ### sums of numbers by word -/
def cntSum : List Tm → List Int → Int
  | [], _ => 0
  | p :: us, x => (if p.1 = x then p.2 else 0) + cntSum us x
theorem cntSum_append (us vs : List Tm) (x : List Int) : cntSum (us ++ vs) x = cntSum us x + cntSum vs x := by
  induction us with
  | nil => simp [cntSum]
  | cons p us ih => simp only [List.cons_append, cntSum, ih]; omega
theorem cntSum_none {us : List Tm} {x : List Int} (h : ∀ p ∈ us, p.1 ≠ x) : cntSum us x = 0 := by
  induction us with
  | nil => rfl
  | cons p us ih =>
    rw [cntSum, if_neg (h p (by simp)), ih (fun q hq => h q (by simp [hq]))]
    rfl
theorem cntSum_snoc (us : List Tm) (p : Tm) : cntSum (us ++ [p]) = addG (cntSum us) p.1 p.2 := by
  funext x
  rw [cntSum_append]
  unfold addG
  by_cases h : x = p.1
  · subst h; simp [cntSum]
  · rw [if_neg h]; simp [cntSum, Ne.symm h]
theorem tells_of {R : List Int → List Int → Prop} (O : Ord R) : ∀ {us : List Tm}, Ordered R us → (∀ p ∈ us, p.2 ≠ 0) → Tells (cntSum us) us
  | [], _, _ => fun x c => ⟨fun h => by simp at h, fun ⟨h, hc⟩ => absurd h.symm hc⟩
  | p :: us, h, hz => fun x c => by
    obtain ⟨h1, h2⟩ := List.pairwise_cons.1 h
    have ih := tells_of O h2 (fun q hq => hz q (by simp [hq])) x c
    have hne : ∀ q ∈ us, q.1 ≠ p.1 := fun q hq e => O.irr p.1 (by have := h1 q hq; rwa [e] at this)
    by_cases e : p.1 = x
    · subst e
      rw [cntSum, if_pos rfl, cntSum_none hne, Int.add_zero]
      constructor
      · intro hm
        rcases List.mem_cons.1 hm with e2 | hm
        · rw [← e2]
          exact ⟨rfl, hz (p.1, c) (by rw [e2]; simp)⟩
        · exact absurd rfl (hne (p.1, c) hm)
      · rintro ⟨rfl, _⟩
        exact List.mem_cons_self
    · rw [cntSum, if_neg e, Int.zero_add, ← ih]
      constructor
      · intro hm
        rcases List.mem_cons.1 hm with e2 | hm
        · exact absurd (by rw [← e2]) e
        · exact hm
      · exact fun hm => List.mem_cons_of_mem _ hm

/-! ### what a character is -/
def chrT (r : Nat) (us : List Tm) (i : Nat) : Bool :=
  wayB r (us.getD i ([], 0)).1 && (insB (us.getD i ([], 0)).2 1 1000000 && (decide (i = 0) || decide (0 < lexC (us.getD (i - 1) ([], 0)).1 (us.getD i ([], 0)).1)))
theorem chrT_way0 (r : Nat) (us : List Tm) (i : Nat) : chrT r us i = (wayB r (wayAt us i) && (insB (lenAt us i) 1 1000000 && (decide (i = 0) || decide (0 < lexC (wayAt us (i - 1)) (wayAt us i))))) := rfl
def chrB (r : Nat) (us : List Tm) : Bool := decide (us.length ≤ 400) && (List.range us.length).all (chrT r us)
theorem chrB_true {r : Nat} {us : List Tm} : chrB r us = true ↔ us.length ≤ 400 ∧ ∀ i, i < us.length → chrT r us i = true := by
  simp [chrB, List.all_eq_true]
theorem chrB_long {r : Nat} {us : List Tm} (h : 400 < us.length) : chrB r us = false := by
  rw [chrB, decide_eq_false (by omega), Bool.false_and]
theorem chrB_bad {r : Nat} {us : List Tm} (i : Nat) (hi : i < us.length) (h : chrT r us i = false) : chrB r us = false := by
  cases hb : chrB r us
  · rfl
  · rw [(chrB_true.1 hb).2 i hi] at h; cases h
/-- the same, as a property of the list -/
structure ChrP (r : Nat) (us : List Tm) : Prop where
  len : us.length ≤ 400
  each : ∀ p ∈ us, wayB r p.1 = true ∧ 1 ≤ p.2 ∧ p.2 ≤ 1000000
  ord : Ordered Above us
theorem above_iff {x y : List Int} : Above x y ↔ 0 < lexC x y := by
  unfold Above
  rw [lexC_swap]
  omega
theorem ordered_of_next {R : List Int → List Int → Prop} (O : Ord R) : ∀ (us : List Tm), (∀ i, i + 1 < us.length → R (us.getD i ([], 0)).1 (us.getD (i + 1) ([], 0)).1) → Ordered R us
  | [], _ => List.Pairwise.nil
  | [p], _ => List.pairwise_singleton _ _
  | p :: q :: us, h => by
    have ih := ordered_of_next O (q :: us) (fun i hi => by have := h (i + 1) (by simpa using hi); simpa using this)
    have hpq : R p.1 q.1 := by have := h 0 (by simp); simpa using this
    refine List.pairwise_cons.2 ⟨fun s hs => ?_, ih⟩
    rcases List.mem_cons.1 hs with rfl | hs
    · exact hpq
    · exact O.tr hpq ((List.pairwise_cons.1 ih).1 s hs)
theorem getT {us : List Tm} {i : Nat} (h : i < us.length) : us.getD i ([], 0) = us[i] := by simp [h]
theorem ordered_next {R : List Int → List Int → Prop} {us : List Tm} (h : Ordered R us) (i : Nat) (hi : i + 1 < us.length) : R (us.getD i ([], 0)).1 (us.getD (i + 1) ([], 0)).1 := by
  have := (List.pairwise_iff_getElem.1 h) i (i + 1) (by omega) hi (by omega)
  rw [getT hi, getT (show i < us.length by omega)]
  exact this
theorem chrB_iff {r : Nat} {us : List Tm} : chrB r us = true ↔ ChrP r us := by
  rw [chrB_true]
  constructor
  · rintro ⟨h1, h2⟩
    refine ⟨h1, fun p hp => ?_, ordered_of_next above_ord us fun i hi => ?_⟩
    · obtain ⟨i, hi, rfl⟩ := List.mem_iff_getElem.1 hp
      have := h2 i hi
      rw [chrT, getT hi, Bool.and_eq_true, Bool.and_eq_true] at this
      exact ⟨this.1, insB_true.1 this.2.1⟩
    · have := h2 (i + 1) hi
      simp only [chrT, Bool.and_eq_true, Bool.or_eq_true, decide_eq_true_eq, Nat.add_sub_cancel] at this
      rcases this.2.2 with h | h
      · omega
      · exact above_iff.2 h
  · rintro ⟨h1, h2, h3⟩
    refine ⟨h1, fun i hi => ?_⟩
    have hp := h2 (us.getD i ([], 0)) (by rw [getT hi]; exact List.getElem_mem hi)
    rw [chrT, hp.1, insB_true.2 hp.2, Bool.true_and, Bool.true_and, Bool.or_eq_true]
    cases i with
    | zero => left; rfl
    | succ i => right; exact decide_eq_true (above_iff.1 (ordered_next h3 i hi))
/-! ### the dual one -/
/-! ### the double one -/
end Go.Proofs.YtdhlapppahkjeaaGreatDoor

namespace Go.Proofs.YtdhlapppahkjeaaGreatDoor
open Go.RowKit

set_option maxRecDepth 100000 in
set_option maxHeartbeats 4000000 in
theorem l8Ok_any (r : Nat) (ta : Option Addr) (tn tc : Nat) (a : Option Addr) (n c : Nat) (xs : List Tm) (w : World) (h : TermsAt w a n xs) (hn : n ≤ 9223372036854775807) (hr : r ≤ 1000000) :
    Calls Tryz.prog 50 #[carV r ta tn tc, .slice a n c] w fun e w' => e = .returned (.bool (chrB r xs)) ∧ Ext w w' := by
  have hx1 := Ext.alloc w (.cells #[.int .i64 r, .slice ta tn tc] 29)
  have G := hidP (h.below hx1)
  have L0 := hidP h.len
  have HC := hidP (fun w' (hx : Ext (w.alloc (.cells #[.int .i64 r, .slice ta tn tc] 29)) w') => (CarAt.new w _ rfl (r : Int) ta tn tc 29).below hx)
  have HX1 := hidP hx1
  clear h hx1
  go_enter Tryz.func50, Tryz.ntmps50
  by_cases h400 : n ≤ 400
  · have h400' : ¬ (400 < (n : Int)) := by omega
    go_wp2
    obtain ⟨w1, hw1⟩ : ∃ w1, w1 = w.alloc (.cells #[.int .i64 r, .slice ta tn tc] 29) := ⟨_, rfl⟩
    rw [← hw1] at G HC HX1 ⊢
    clear hw1
    have hst : Hid (Ext w1 w1) := hidP (Ext.refl w1)
    go_loopw [5] (fun i wr => ∃ k : Nat, k ≤ n ∧ Hid (∀ j, j < k → chrT r xs j = true) ∧ i = .int .i64 k ∧ Hid (Ext w1 wr)) (fun i _ => n - (intOf i).toNat)
    case atStart => exact ⟨0, Nat.zero_le _, fun j h => by omega, rfl, hst⟩
    case round =>
      clear hst
      obtain ⟨k, hk, HJ, rfl, HX⟩ := hrel
      by_cases hlt : k < n
      · obtain ⟨b, o, aw, cw, W, L, rfl, HW, HL, hwl, hq⟩ := (G.out.below HX.out).way k hlt
        have HQ := hidP hq
        clear hq
        have HCr := hidP (fun w' (hx : Ext wr w') => HC.out w' (HX.out.trans hx))
        have HLat := hidP (fun w' (hx : Ext wr w') => l5Lattice_any r ta tn tc aw W.length cw W w' (HQ.out w' hx).2.2 hwl hr)
        have HSB : Hid (chrT r xs k = (wayB r W && (insB L 1 1000000 && (decide (k = 0) || decide (0 < lexC (wayAt xs (k - 1)) W))))) := by
          show _ = _
          rw [chrT_way0]
          rw [HW.out, HL.out]
        cases hA : wayB r W
        · rw [hA] at HLat HSB
          have HB := hidP (chrB_bad (r := r) k (by have := L0.out; omega) HSB.out)
          clear hA
          go_wp2
          have hE : Ext wr wr.drew := Ext.drew wr
          (refine walkR_start (fun w' => Ext wr w') 36 (by kernel_rfl) ?_; simp only [numbered, List.take_succ_cons, List.take_zero, Nat.zero_add, Nat.reduceAdd, List.length_cons, List.length_nil])
          (repeat (first | (refine walkR_still (v := ?_) rfl (by decide +kernel) rfl (fun _ _ _ h => h) hE ?_ ?_; rotate_left; (focus (intro w' hw'; obtain ⟨f0, f1⟩ := HCr.out w' hw'; obtain ⟨q1, q2, _⟩ := HQ.out w' hw'; go_simp; all_goals (with_reducible rfl))); simp only [Act.put, List.setIfInBounds_toArray, List.set_cons_zero, List.set_cons_succ]) | (refine walkR_skip rfl (by decide +kernel) rfl (fun _ _ _ h => h) hE ?_; simp only [Act.put, List.setIfInBounds_toArray, List.set_cons_zero, List.set_cons_succ])))
          (refine walkR_only (fun w' => Ext wr w') rfl (by decide +kernel) rfl (fun _ h => h) ?_; intro K hK; go_simp; refine (HLat.out _ hE).mono ?_; rintro e w2 ⟨rfl, hx2⟩; refine hK _ _ (hE.trans hx2) ?_; clear hK K; (try simp only [Act.put, List.setIfInBounds_toArray, List.set_cons_zero, List.set_cons_succ]))
          have hE2 := hE.trans hx2
          (repeat (first | (refine walkR_still (v := ?_) rfl (by decide +kernel) rfl (fun _ _ _ h => h) hE2 ?_ ?_; rotate_left; (focus (intro w' hw'; obtain ⟨f0, f1⟩ := HCr.out w' hw'; obtain ⟨q1, q2, _⟩ := HQ.out w' hw'; go_simp; all_goals (with_reducible rfl))); simp only [Act.put, List.setIfInBounds_toArray, List.set_cons_zero, List.set_cons_succ]) | (refine walkR_skip rfl (by decide +kernel) rfl (fun _ _ _ h => h) hE2 ?_; simp only [Act.put, List.setIfInBounds_toArray, List.set_cons_zero, List.set_cons_succ])))
          (refine walkR_tail (by rfl) (by kernel_rfl) ?_; simp only [List.drop_succ_cons, List.drop_zero])
          go_wp2
          go_ret
          exact ⟨ret_bool HB.out.symm, HX1.out.trans (HX.out.trans hE2)⟩
        · rw [hA] at HLat HSB
          cases hI : insB L 1 1000000
          · rw [hI] at HSB
            have HB := hidP (chrB_bad (r := r) k (by have := L0.out; omega) HSB.out)
            clear hA
            go_wp2
            have hE : Ext wr wr.drew := Ext.drew wr
            (refine walkR_start (fun w' => Ext wr w') 36 (by kernel_rfl) ?_; simp only [numbered, List.take_succ_cons, List.take_zero, Nat.zero_add, Nat.reduceAdd, List.length_cons, List.length_nil])
            (repeat (first | (refine walkR_still (v := ?_) rfl (by decide +kernel) rfl (fun _ _ _ h => h) hE ?_ ?_; rotate_left; (focus (intro w' hw'; obtain ⟨f0, f1⟩ := HCr.out w' hw'; obtain ⟨q1, q2, _⟩ := HQ.out w' hw'; go_simp; all_goals (with_reducible rfl))); simp only [Act.put, List.setIfInBounds_toArray, List.set_cons_zero, List.set_cons_succ]) | (refine walkR_skip rfl (by decide +kernel) rfl (fun _ _ _ h => h) hE ?_; simp only [Act.put, List.setIfInBounds_toArray, List.set_cons_zero, List.set_cons_succ])))
            (refine walkR_only (fun w' => Ext wr w') rfl (by decide +kernel) rfl (fun _ h => h) ?_; intro K hK; go_simp; refine (HLat.out _ hE).mono ?_; rintro e w2 ⟨rfl, hx2⟩; refine hK _ _ (hE.trans hx2) ?_; clear hK K; (try simp only [Act.put, List.setIfInBounds_toArray, List.set_cons_zero, List.set_cons_succ]))
            have hE2 := hE.trans hx2
            (repeat (first | (refine walkR_still (v := ?_) rfl (by decide +kernel) rfl (fun _ _ _ h => h) hE2 ?_ ?_; rotate_left; (focus (intro w' hw'; obtain ⟨f0, f1⟩ := HCr.out w' hw'; obtain ⟨q1, q2, _⟩ := HQ.out w' hw'; go_simp; all_goals (with_reducible rfl))); simp only [Act.put, List.setIfInBounds_toArray, List.set_cons_zero, List.set_cons_succ]) | (refine walkR_skip rfl (by decide +kernel) rfl (fun _ _ _ h => h) hE2 ?_; simp only [Act.put, List.setIfInBounds_toArray, List.set_cons_zero, List.set_cons_succ])))
            (refine walkR_only (fun w' => Ext wr w') rfl (by decide +kernel) rfl (fun _ h => h) ?_; intro K hK; go_simp; refine (l1In_any _ _ _ _).mono ?_; rintro e w3 ⟨rfl, rfl⟩; refine hK _ _ (hE2) ?_; clear hK K; (try simp only [Act.put, List.setIfInBounds_toArray, List.set_cons_zero, List.set_cons_succ]))
            (repeat (first | (refine walkR_still (v := ?_) rfl (by decide +kernel) rfl (fun _ _ _ h => h) hE2 ?_ ?_; rotate_left; (focus (intro w' hw'; obtain ⟨f0, f1⟩ := HCr.out w' hw'; obtain ⟨q1, q2, _⟩ := HQ.out w' hw'; go_simp; all_goals (with_reducible rfl))); simp only [Act.put, List.setIfInBounds_toArray, List.set_cons_zero, List.set_cons_succ]) | (refine walkR_skip rfl (by decide +kernel) rfl (fun _ _ _ h => h) hE2 ?_; simp only [Act.put, List.setIfInBounds_toArray, List.set_cons_zero, List.set_cons_succ])))
            (refine walkR_tail (by rfl) (by kernel_rfl) ?_; simp only [List.drop_succ_cons, List.drop_zero])
            go_wp2
            go_ret
            exact ⟨ret_bool HB.out.symm, HX1.out.trans (HX.out.trans hE2)⟩
          · rw [hI] at HSB
            clear hA
            cases k with
            | zero =>
              have HT : Hid (chrT r xs 0 = true) := HSB.out
              have HQ := hidP (by simpa only [Nat.zero_mul, Nat.add_zero] using HQ.out)
              go_wp2
              have hE : Ext wr wr.drew := Ext.drew wr
              (refine walkR_start (fun w' => Ext wr w') 36 (by kernel_rfl) ?_; simp only [numbered, List.take_succ_cons, List.take_zero, Nat.zero_add, Nat.reduceAdd, List.length_cons, List.length_nil])
              (repeat (first | (refine walkR_still (v := ?_) rfl (by decide +kernel) rfl (fun _ _ _ h => h) hE ?_ ?_; rotate_left; (focus (intro w' hw'; obtain ⟨f0, f1⟩ := HCr.out w' hw'; obtain ⟨q1, q2, _⟩ := HQ.out w' hw'; go_simp; all_goals (with_reducible rfl))); simp only [Act.put, List.setIfInBounds_toArray, List.set_cons_zero, List.set_cons_succ]) | (refine walkR_skip rfl (by decide +kernel) rfl (fun _ _ _ h => h) hE ?_; simp only [Act.put, List.setIfInBounds_toArray, List.set_cons_zero, List.set_cons_succ])))
              (refine walkR_only (fun w' => Ext wr w') rfl (by decide +kernel) rfl (fun _ h => h) ?_; intro K hK; go_simp; refine (HLat.out _ hE).mono ?_; rintro e w2 ⟨rfl, hx2⟩; refine hK _ _ (hE.trans hx2) ?_; clear hK K; (try simp only [Act.put, List.setIfInBounds_toArray, List.set_cons_zero, List.set_cons_succ]))
              have hE2 := hE.trans hx2
              (repeat (first | (refine walkR_still (v := ?_) rfl (by decide +kernel) rfl (fun _ _ _ h => h) hE2 ?_ ?_; rotate_left; (focus (intro w' hw'; obtain ⟨f0, f1⟩ := HCr.out w' hw'; obtain ⟨q1, q2, _⟩ := HQ.out w' hw'; go_simp; all_goals (with_reducible rfl))); simp only [Act.put, List.setIfInBounds_toArray, List.set_cons_zero, List.set_cons_succ]) | (refine walkR_skip rfl (by decide +kernel) rfl (fun _ _ _ h => h) hE2 ?_; simp only [Act.put, List.setIfInBounds_toArray, List.set_cons_zero, List.set_cons_succ])))
              (refine walkR_only (fun w' => Ext wr w') rfl (by decide +kernel) rfl (fun _ h => h) ?_; intro K hK; go_simp; refine (l1In_any _ _ _ _).mono ?_; rintro e w3 ⟨rfl, rfl⟩; refine hK _ _ (hE2) ?_; clear hK K; (try simp only [Act.put, List.setIfInBounds_toArray, List.set_cons_zero, List.set_cons_succ]))
              (repeat (first | (refine walkR_still (v := ?_) rfl (by decide +kernel) rfl (fun _ _ _ h => h) hE2 ?_ ?_; rotate_left; (focus (intro w' hw'; obtain ⟨f0, f1⟩ := HCr.out w' hw'; obtain ⟨q1, q2, _⟩ := HQ.out w' hw'; go_simp; all_goals (with_reducible rfl))); simp only [Act.put, List.setIfInBounds_toArray, List.set_cons_zero, List.set_cons_succ]) | (refine walkR_skip rfl (by decide +kernel) rfl (fun _ _ _ h => h) hE2 ?_; simp only [Act.put, List.setIfInBounds_toArray, List.set_cons_zero, List.set_cons_succ])))
              (refine walkR_tail (by rfl) (by kernel_rfl) ?_; simp only [List.drop_succ_cons, List.drop_zero])
              go_wp2
              go_roundw
              case rel =>
                refine ⟨1, by omega, fun j hj => ?_, by go_num, HX.out.trans hE2⟩
                obtain rfl : j = 0 := by omega
                exact HT.out
              case measure => simp [intOf]; omega
            | succ k =>
              have hk0 : (0 : Int) ≤ (k : Int) + 1 := by omega
              have hk1 : (0 : Int) < (k : Int) + 1 := by omega
              have hk2 : (k : Int) + 1 < n := by omega
              have hk3 : (k : Int) < n := by omega
              have hk4 : IntKind.i64.wrap (k : Int) = k := wrap_in (by omega) (by omega)
              obtain ⟨b', o', aV, cV, V, M, e', HV, _, hvl, hq⟩ := (G.out.below HX.out).way k (by omega)
              simp only [Option.some.injEq, Addr.mk.injEq, and_true] at e'
              obtain ⟨rfl, rfl⟩ := e'
              have HP := hidP hq
              clear hq
              have HSame := hidP (fun w' (hx : Ext wr w') => l6Above_any aV aw V.length W.length cV cw V W w' (HP.out w' hx).2.2 (HQ.out w' hx).2.2 hvl hwl)
              rw [show k + 1 - 1 = k from rfl, HV.out] at HSB
              cases hV : decide (0 < lexC V W)
              · rw [hV] at HSame
                have HB := hidP (chrB_bad (r := r) (us := xs) (k + 1) (by have := L0.out; omega) (by rw [HSB.out]; simp [hV]))
                clear hV HSB
                go_wp2
                have hE : Ext wr wr.drew := Ext.drew wr
                (refine walkR_start (fun w' => Ext wr w') 36 (by kernel_rfl) ?_; simp only [numbered, List.take_succ_cons, List.take_zero, Nat.zero_add, Nat.reduceAdd, List.length_cons, List.length_nil])
                (repeat (first | (refine walkR_still (v := ?_) rfl (by decide +kernel) rfl (fun _ _ _ h => h) hE ?_ ?_; rotate_left; (focus (intro w' hw'; obtain ⟨f0, f1⟩ := HCr.out w' hw'; obtain ⟨q1, q2, _⟩ := HQ.out w' hw'; obtain ⟨y1, y2, _⟩ := HP.out w' hw'; go_simp; all_goals (with_reducible rfl))); simp only [Act.put, List.setIfInBounds_toArray, List.set_cons_zero, List.set_cons_succ]) | (refine walkR_skip rfl (by decide +kernel) rfl (fun _ _ _ h => h) hE ?_; simp only [Act.put, List.setIfInBounds_toArray, List.set_cons_zero, List.set_cons_succ])))
                (refine walkR_only (fun w' => Ext wr w') rfl (by decide +kernel) rfl (fun _ h => h) ?_; intro K hK; go_simp; refine (HLat.out _ hE).mono ?_; rintro e w2 ⟨rfl, hx2⟩; refine hK _ _ (hE.trans hx2) ?_; clear hK K; (try simp only [Act.put, List.setIfInBounds_toArray, List.set_cons_zero, List.set_cons_succ]))
                have hE2 := hE.trans hx2
                (repeat (first | (refine walkR_still (v := ?_) rfl (by decide +kernel) rfl (fun _ _ _ h => h) hE2 ?_ ?_; rotate_left; (focus (intro w' hw'; obtain ⟨f0, f1⟩ := HCr.out w' hw'; obtain ⟨q1, q2, _⟩ := HQ.out w' hw'; obtain ⟨y1, y2, _⟩ := HP.out w' hw'; go_simp; all_goals (with_reducible rfl))); simp only [Act.put, List.setIfInBounds_toArray, List.set_cons_zero, List.set_cons_succ]) | (refine walkR_skip rfl (by decide +kernel) rfl (fun _ _ _ h => h) hE2 ?_; simp only [Act.put, List.setIfInBounds_toArray, List.set_cons_zero, List.set_cons_succ])))
                (refine walkR_only (fun w' => Ext wr w') rfl (by decide +kernel) rfl (fun _ h => h) ?_; intro K hK; go_simp; refine (l1In_any _ _ _ _).mono ?_; rintro e w3 ⟨rfl, rfl⟩; refine hK _ _ (hE2) ?_; clear hK K; (try simp only [Act.put, List.setIfInBounds_toArray, List.set_cons_zero, List.set_cons_succ]))
                (repeat (first | (refine walkR_still (v := ?_) rfl (by decide +kernel) rfl (fun _ _ _ h => h) hE2 ?_ ?_; rotate_left; (focus (intro w' hw'; obtain ⟨f0, f1⟩ := HCr.out w' hw'; obtain ⟨q1, q2, _⟩ := HQ.out w' hw'; obtain ⟨y1, y2, _⟩ := HP.out w' hw'; go_simp; all_goals (with_reducible rfl))); simp only [Act.put, List.setIfInBounds_toArray, List.set_cons_zero, List.set_cons_succ]) | (refine walkR_skip rfl (by decide +kernel) rfl (fun _ _ _ h => h) hE2 ?_; simp only [Act.put, List.setIfInBounds_toArray, List.set_cons_zero, List.set_cons_succ])))
                (refine walkR_only (fun w' => Ext wr w') rfl (by decide +kernel) rfl (fun _ h => h) ?_; intro K hK; go_simp; refine (HSame.out _ hE2).mono ?_; rintro e w4 ⟨rfl, hx4⟩; refine hK _ _ (hE2.trans hx4) ?_; clear hK K; (try simp only [Act.put, List.setIfInBounds_toArray, List.set_cons_zero, List.set_cons_succ]))
                have hE3 := hE2.trans hx4
                (repeat (first | (refine walkR_still (v := ?_) rfl (by decide +kernel) rfl (fun _ _ _ h => h) hE3 ?_ ?_; rotate_left; (focus (intro w' hw'; obtain ⟨f0, f1⟩ := HCr.out w' hw'; obtain ⟨q1, q2, _⟩ := HQ.out w' hw'; obtain ⟨y1, y2, _⟩ := HP.out w' hw'; go_simp; all_goals (with_reducible rfl))); simp only [Act.put, List.setIfInBounds_toArray, List.set_cons_zero, List.set_cons_succ]) | (refine walkR_skip rfl (by decide +kernel) rfl (fun _ _ _ h => h) hE3 ?_; simp only [Act.put, List.setIfInBounds_toArray, List.set_cons_zero, List.set_cons_succ])))
                (refine walkR_tail (by rfl) (by kernel_rfl) ?_; simp only [List.drop_succ_cons, List.drop_zero])
                go_wp2
                go_ret
                exact ⟨ret_bool HB.out.symm, HX1.out.trans (HX.out.trans hE3)⟩
              · rw [hV] at HSame
                have HT : Hid (chrT r xs (k + 1) = true) := by
                  show _ = _
                  rw [HSB.out]
                  simp [hV]
                clear hV HSB
                go_wp2
                have hE : Ext wr wr.drew := Ext.drew wr
                (refine walkR_start (fun w' => Ext wr w') 36 (by kernel_rfl) ?_; simp only [numbered, List.take_succ_cons, List.take_zero, Nat.zero_add, Nat.reduceAdd, List.length_cons, List.length_nil])
                (repeat (first | (refine walkR_still (v := ?_) rfl (by decide +kernel) rfl (fun _ _ _ h => h) hE ?_ ?_; rotate_left; (focus (intro w' hw'; obtain ⟨f0, f1⟩ := HCr.out w' hw'; obtain ⟨q1, q2, _⟩ := HQ.out w' hw'; obtain ⟨y1, y2, _⟩ := HP.out w' hw'; go_simp; all_goals (with_reducible rfl))); simp only [Act.put, List.setIfInBounds_toArray, List.set_cons_zero, List.set_cons_succ]) | (refine walkR_skip rfl (by decide +kernel) rfl (fun _ _ _ h => h) hE ?_; simp only [Act.put, List.setIfInBounds_toArray, List.set_cons_zero, List.set_cons_succ])))
                (refine walkR_only (fun w' => Ext wr w') rfl (by decide +kernel) rfl (fun _ h => h) ?_; intro K hK; go_simp; refine (HLat.out _ hE).mono ?_; rintro e w2 ⟨rfl, hx2⟩; refine hK _ _ (hE.trans hx2) ?_; clear hK K; (try simp only [Act.put, List.setIfInBounds_toArray, List.set_cons_zero, List.set_cons_succ]))
                have hE2 := hE.trans hx2
                (repeat (first | (refine walkR_still (v := ?_) rfl (by decide +kernel) rfl (fun _ _ _ h => h) hE2 ?_ ?_; rotate_left; (focus (intro w' hw'; obtain ⟨f0, f1⟩ := HCr.out w' hw'; obtain ⟨q1, q2, _⟩ := HQ.out w' hw'; obtain ⟨y1, y2, _⟩ := HP.out w' hw'; go_simp; all_goals (with_reducible rfl))); simp only [Act.put, List.setIfInBounds_toArray, List.set_cons_zero, List.set_cons_succ]) | (refine walkR_skip rfl (by decide +kernel) rfl (fun _ _ _ h => h) hE2 ?_; simp only [Act.put, List.setIfInBounds_toArray, List.set_cons_zero, List.set_cons_succ])))
                (refine walkR_only (fun w' => Ext wr w') rfl (by decide +kernel) rfl (fun _ h => h) ?_; intro K hK; go_simp; refine (l1In_any _ _ _ _).mono ?_; rintro e w3 ⟨rfl, rfl⟩; refine hK _ _ (hE2) ?_; clear hK K; (try simp only [Act.put, List.setIfInBounds_toArray, List.set_cons_zero, List.set_cons_succ]))
                (repeat (first | (refine walkR_still (v := ?_) rfl (by decide +kernel) rfl (fun _ _ _ h => h) hE2 ?_ ?_; rotate_left; (focus (intro w' hw'; obtain ⟨f0, f1⟩ := HCr.out w' hw'; obtain ⟨q1, q2, _⟩ := HQ.out w' hw'; obtain ⟨y1, y2, _⟩ := HP.out w' hw'; go_simp; all_goals (with_reducible rfl))); simp only [Act.put, List.setIfInBounds_toArray, List.set_cons_zero, List.set_cons_succ]) | (refine walkR_skip rfl (by decide +kernel) rfl (fun _ _ _ h => h) hE2 ?_; simp only [Act.put, List.setIfInBounds_toArray, List.set_cons_zero, List.set_cons_succ])))
                (refine walkR_only (fun w' => Ext wr w') rfl (by decide +kernel) rfl (fun _ h => h) ?_; intro K hK; go_simp; refine (HSame.out _ hE2).mono ?_; rintro e w4 ⟨rfl, hx4⟩; refine hK _ _ (hE2.trans hx4) ?_; clear hK K; (try simp only [Act.put, List.setIfInBounds_toArray, List.set_cons_zero, List.set_cons_succ]))
                have hE3 := hE2.trans hx4
                (repeat (first | (refine walkR_still (v := ?_) rfl (by decide +kernel) rfl (fun _ _ _ h => h) hE3 ?_ ?_; rotate_left; (focus (intro w' hw'; obtain ⟨f0, f1⟩ := HCr.out w' hw'; obtain ⟨q1, q2, _⟩ := HQ.out w' hw'; obtain ⟨y1, y2, _⟩ := HP.out w' hw'; go_simp; all_goals (with_reducible rfl))); simp only [Act.put, List.setIfInBounds_toArray, List.set_cons_zero, List.set_cons_succ]) | (refine walkR_skip rfl (by decide +kernel) rfl (fun _ _ _ h => h) hE3 ?_; simp only [Act.put, List.setIfInBounds_toArray, List.set_cons_zero, List.set_cons_succ])))
                (refine walkR_tail (by rfl) (by kernel_rfl) ?_; simp only [List.drop_succ_cons, List.drop_zero])
                go_wp2
                go_roundw
                case rel =>
                  refine ⟨k + 1 + 1, by omega, fun j hj => ?_, by go_num, HX.out.trans hE3⟩
                  rcases Nat.lt_succ_iff_lt_or_eq.1 hj with h3 | rfl
                  · exact HJ.out j h3
                  · exact HT.out
                case measure => simp [intOf]; omega
      · obtain rfl : k = n := by omega
        have HR : Hid (chrB r xs = true) := chrB_true.2 ⟨by have := L0.out; omega, fun j hj => HJ.out j (by have := L0.out; omega)⟩
        go_wp2
        go_ret
        exact ⟨ret_bool HR.out.symm, HX1.out.trans HX.out⟩
  · have HB := hidP (chrB_long (r := r) (us := xs) (by have := L0.out; omega))
    have h400' : 400 < (n : Int) := by omega
    go_wp2
    go_ret
    exact ⟨ret_bool HB.out.symm, HX1.out⟩
end Go.Proofs.YtdhlapppahkjeaaGreatDoor

namespace Go.Proofs.YtdhlapppahkjeaaGreatDoor
open Go.RowKit

theorem chrT_way {r : Nat} {p : List Tm} {k : Nat} (h : chrT r p k = true) : (wayAt p k).length = r := by
  simp only [chrT, Bool.and_eq_true] at h
  exact (wayB_iff.1 h.1).1
set_option maxRecDepth 100000 in
set_option maxHeartbeats 4000000 in
theorem characterOk_of (r : Int) (ta : Option Addr) (tn tc : Nat) (ts : List Int) (a : Option Addr) (n c : Nat) (xs : List Tm) (w : World) (h : TermsAt w a n xs) (hn : n ≤ 9223372036854775807)
    (HIs : ∀ w', Ext w w' → Calls Tryz.prog 36 #[carV r ta tn tc] w' fun e w'' => e = .returned (.bool (typeB r ts)) ∧ Ext w' w'') :
    Calls Tryz.prog 56 #[carV r ta tn tc, .slice a n c] w fun e w' => e = .returned (.bool (typeB r ts && chrB r.toNat xs)) ∧ Ext w w' := by
  have hx1 := Ext.alloc w (.cells #[.int .i64 r, .slice ta tn tc] 29)
  have G := hidP (h.below hx1)
  have L0 := hidP h.len
  have HC := hidP (fun w' (hx : Ext (w.alloc (.cells #[.int .i64 r, .slice ta tn tc] 29)) w') => (CarAt.new w _ rfl r ta tn tc 29).below hx)
  have HX1 := hidP hx1
  have HIs1 := hidP (HIs _ hx1)
  clear h hx1 HIs
  obtain ⟨w1, hw1⟩ : ∃ w1, w1 = w.alloc (.cells #[.int .i64 r, .slice ta tn tc] 29) := ⟨_, rfl⟩
  rw [← hw1] at G HC HX1 HIs1
  cases hT : typeB r ts
  · rw [hT] at HIs1
    clear hT
    obtain ⟨f0, f1⟩ := HC.out w1 (Ext.refl w1)
    go_enter Tryz.func56, Tryz.ntmps56
    go_wp2_with fail
    rw [← hw1]
    clear hw1
    refine HIs1.out.mono ?_
    rintro e w2 ⟨rfl, hx⟩
    have HX := hidP hx
    clear hx
    go_wp2
    go_ret
    exact ⟨rfl, HX1.out.trans HX.out⟩
  · obtain ⟨hr1, hr4, _⟩ := typeB_rank hT
    rw [hT] at HIs1
    rw [Bool.true_and]
    clear hT
    obtain ⟨R, rfl⟩ : ∃ R : Nat, r = R := ⟨r.toNat, by omega⟩
    rw [Int.toNat_natCast]
    have hr : R ≤ 4 := by omega
    clear hr1 hr4
    obtain ⟨f0, f1⟩ := HC.out w1 (Ext.refl w1)
    go_enter Tryz.func56, Tryz.ntmps56
    go_wp2_with fail
    rw [← hw1]
    clear hw1
    refine HIs1.out.mono ?_
    rintro e w1' ⟨rfl, hx⟩
    have HX0 := hidP hx
    clear hx f0 f1
    by_cases h400 : n ≤ 400
    · have h400' : ¬ (400 < (n : Int)) := by omega
      go_wp2
      go_loopw [17] (fun i wr => ∃ k : Nat, k ≤ n ∧ Hid (∀ j, j < k → chrT R xs j = true) ∧ i = .int .i64 k ∧ Hid (Ext w1 wr)) (fun i _ => n - (intOf i).toNat)
      case atStart => exact ⟨0, Nat.zero_le _, fun j h => by omega, rfl, HX0⟩
      case round =>
        clear HX0
        obtain ⟨k, hk, HJ, rfl, HX⟩ := hrel
        by_cases hlt : k < n
        · obtain ⟨b, o, aw, cw, W, L, rfl, HW, HL, hwl, hq⟩ := (G.out.below HX.out).way k hlt
          have HQ := hidP hq
          obtain ⟨q1, q2, _⟩ := hq wr (Ext.refl wr)
          clear hq
          have HA2 := hidP (Ext.alloc wr (.cells #[.slice aw W.length cw, .int .i64 L] 57))
          have HS := hidP (fun w' (hx : Ext (wr.alloc (.cells #[.slice aw W.length cw, .int .i64 L] 57)) w') => (StpAt.new wr _ rfl aw W.length cw L 57).below hx)
          obtain ⟨w2, hw2⟩ : ∃ w2, w2 = wr.alloc (.cells #[.slice aw W.length cw, .int .i64 L] 57) := ⟨_, rfl⟩
          rw [← hw2] at HA2 HS
          have HCr := hidP (fun w' (hx : Ext w2 w') => HC.out w' ((HX.out.trans HA2.out).trans hx))
          have HWt := hidP (fun w' (hx : Ext w2 w') => isWeight_any R ta tn tc aw W.length cw W w' (HQ.out w' (HA2.out.trans hx)).2.2 hwl (by omega))
          have HSB : Hid (chrT R xs k = (wayB R W && (insB L 1 1000000 && (decide (k = 0) || decide (0 < lexC (wayAt xs (k - 1)) W))))) := by
            show _ = _
            rw [chrT_way0]
            rw [HW.out, HL.out]
          cases hA : wayB R W
          · rw [hA] at HWt HSB
            have HB := hidP (chrB_bad (r := R) (us := xs) k (by have := L0.out; omega) HSB.out)
            clear hA
            go_wp2
            rw [← hw2]
            clear hw2 q1 q2
            have hE : Ext w2 w2.drew := Ext.drew w2
            (refine walkR_start (fun w' => Ext w2 w') 27 (by kernel_rfl) ?_; simp only [numbered, List.take_succ_cons, List.take_zero, Nat.zero_add, Nat.reduceAdd, List.length_cons, List.length_nil])
            (repeat (first | (refine walkR_still (v := ?_) rfl (by decide +kernel) rfl (fun _ _ _ h => h) hE ?_ ?_; rotate_left; (focus (intro w' hw'; obtain ⟨f0, f1⟩ := HCr.out w' hw'; obtain ⟨q1, q2⟩ := HS.out w' hw'; go_simp; all_goals (with_reducible rfl))); simp only [Act.put, List.setIfInBounds_toArray, List.set_cons_zero, List.set_cons_succ]) | (refine walkR_skip rfl (by decide +kernel) rfl (fun _ _ _ h => h) hE ?_; simp only [Act.put, List.setIfInBounds_toArray, List.set_cons_zero, List.set_cons_succ])))
            (refine walkR_only (fun w' => Ext w2 w') rfl (by decide +kernel) rfl (fun _ h => h) ?_; intro K hK; go_simp; refine (HWt.out _ hE).mono ?_; rintro e w3 ⟨rfl, hx3⟩; refine hK _ _ (hE.trans hx3) ?_; clear hK K; (try simp only [Act.put, List.setIfInBounds_toArray, List.set_cons_zero, List.set_cons_succ]))
            have hE2 := hE.trans hx3
            (repeat (first | (refine walkR_still (v := ?_) rfl (by decide +kernel) rfl (fun _ _ _ h => h) hE2 ?_ ?_; rotate_left; (focus (intro w' hw'; obtain ⟨f0, f1⟩ := HCr.out w' hw'; obtain ⟨q1, q2⟩ := HS.out w' hw'; go_simp; all_goals (with_reducible rfl))); simp only [Act.put, List.setIfInBounds_toArray, List.set_cons_zero, List.set_cons_succ]) | (refine walkR_skip rfl (by decide +kernel) rfl (fun _ _ _ h => h) hE2 ?_; simp only [Act.put, List.setIfInBounds_toArray, List.set_cons_zero, List.set_cons_succ])))
            (refine walkR_tail (by rfl) (by kernel_rfl) ?_; simp only [List.drop_succ_cons, List.drop_zero])
            go_wp2
            go_ret
            exact ⟨ret_bool HB.out.symm, HX1.out.trans (HX.out.trans (HA2.out.trans hE2))⟩
          · rw [hA] at HWt HSB
            have hWl := hidP ((wayB_iff.1 hA).1)
            cases hI : insB L 1 1000000
            · rw [hI] at HSB
              have HB := hidP (chrB_bad (r := R) (us := xs) k (by have := L0.out; omega) HSB.out)
              clear hA
              go_wp2
              rw [← hw2]
              clear hw2 q1 q2
              have hE : Ext w2 w2.drew := Ext.drew w2
              (refine walkR_start (fun w' => Ext w2 w') 27 (by kernel_rfl) ?_; simp only [numbered, List.take_succ_cons, List.take_zero, Nat.zero_add, Nat.reduceAdd, List.length_cons, List.length_nil])
              (repeat (first | (refine walkR_still (v := ?_) rfl (by decide +kernel) rfl (fun _ _ _ h => h) hE ?_ ?_; rotate_left; (focus (intro w' hw'; obtain ⟨f0, f1⟩ := HCr.out w' hw'; obtain ⟨q1, q2⟩ := HS.out w' hw'; go_simp; all_goals (with_reducible rfl))); simp only [Act.put, List.setIfInBounds_toArray, List.set_cons_zero, List.set_cons_succ]) | (refine walkR_skip rfl (by decide +kernel) rfl (fun _ _ _ h => h) hE ?_; simp only [Act.put, List.setIfInBounds_toArray, List.set_cons_zero, List.set_cons_succ])))
              (refine walkR_only (fun w' => Ext w2 w') rfl (by decide +kernel) rfl (fun _ h => h) ?_; intro K hK; go_simp; refine (HWt.out _ hE).mono ?_; rintro e w3 ⟨rfl, hx3⟩; refine hK _ _ (hE.trans hx3) ?_; clear hK K; (try simp only [Act.put, List.setIfInBounds_toArray, List.set_cons_zero, List.set_cons_succ]))
              have hE2 := hE.trans hx3
              (repeat (first | (refine walkR_still (v := ?_) rfl (by decide +kernel) rfl (fun _ _ _ h => h) hE2 ?_ ?_; rotate_left; (focus (intro w' hw'; obtain ⟨f0, f1⟩ := HCr.out w' hw'; obtain ⟨q1, q2⟩ := HS.out w' hw'; go_simp; all_goals (with_reducible rfl))); simp only [Act.put, List.setIfInBounds_toArray, List.set_cons_zero, List.set_cons_succ]) | (refine walkR_skip rfl (by decide +kernel) rfl (fun _ _ _ h => h) hE2 ?_; simp only [Act.put, List.setIfInBounds_toArray, List.set_cons_zero, List.set_cons_succ])))
              (refine walkR_only (fun w' => Ext w2 w') rfl (by decide +kernel) rfl (fun _ h => h) ?_; intro K hK; go_simp; refine (inside_any _ _ _ _).mono ?_; rintro e w4 ⟨rfl, rfl⟩; refine hK _ _ (hE2) ?_; clear hK K; (try simp only [Act.put, List.setIfInBounds_toArray, List.set_cons_zero, List.set_cons_succ]))
              (repeat (first | (refine walkR_still (v := ?_) rfl (by decide +kernel) rfl (fun _ _ _ h => h) hE2 ?_ ?_; rotate_left; (focus (intro w' hw'; obtain ⟨f0, f1⟩ := HCr.out w' hw'; obtain ⟨q1, q2⟩ := HS.out w' hw'; go_simp; all_goals (with_reducible rfl))); simp only [Act.put, List.setIfInBounds_toArray, List.set_cons_zero, List.set_cons_succ]) | (refine walkR_skip rfl (by decide +kernel) rfl (fun _ _ _ h => h) hE2 ?_; simp only [Act.put, List.setIfInBounds_toArray, List.set_cons_zero, List.set_cons_succ])))
              (refine walkR_tail (by rfl) (by kernel_rfl) ?_; simp only [List.drop_succ_cons, List.drop_zero])
              go_wp2
              go_ret
              exact ⟨ret_bool HB.out.symm, HX1.out.trans (HX.out.trans (HA2.out.trans hE2))⟩
            · rw [hI] at HSB
              have hIb := insB_true.1 hI
              clear hA
              cases k with
              | zero =>
                have HT : Hid (chrT R xs 0 = true) := HSB.out
                simp only [Nat.zero_mul, Nat.add_zero] at q1 q2
                go_wp2
                rw [← hw2]
                clear hw2 q1 q2
                have hE : Ext w2 w2.drew := Ext.drew w2
                (refine walkR_start (fun w' => Ext w2 w') 27 (by kernel_rfl) ?_; simp only [numbered, List.take_succ_cons, List.take_zero, Nat.zero_add, Nat.reduceAdd, List.length_cons, List.length_nil])
                (repeat (first | (refine walkR_still (v := ?_) rfl (by decide +kernel) rfl (fun _ _ _ h => h) hE ?_ ?_; rotate_left; (focus (intro w' hw'; obtain ⟨f0, f1⟩ := HCr.out w' hw'; obtain ⟨q1, q2⟩ := HS.out w' hw'; go_simp; all_goals (with_reducible rfl))); simp only [Act.put, List.setIfInBounds_toArray, List.set_cons_zero, List.set_cons_succ]) | (refine walkR_skip rfl (by decide +kernel) rfl (fun _ _ _ h => h) hE ?_; simp only [Act.put, List.setIfInBounds_toArray, List.set_cons_zero, List.set_cons_succ])))
                (refine walkR_only (fun w' => Ext w2 w') rfl (by decide +kernel) rfl (fun _ h => h) ?_; intro K hK; go_simp; refine (HWt.out _ hE).mono ?_; rintro e w3 ⟨rfl, hx3⟩; refine hK _ _ (hE.trans hx3) ?_; clear hK K; (try simp only [Act.put, List.setIfInBounds_toArray, List.set_cons_zero, List.set_cons_succ]))
                have hE2 := hE.trans hx3
                (repeat (first | (refine walkR_still (v := ?_) rfl (by decide +kernel) rfl (fun _ _ _ h => h) hE2 ?_ ?_; rotate_left; (focus (intro w' hw'; obtain ⟨f0, f1⟩ := HCr.out w' hw'; obtain ⟨q1, q2⟩ := HS.out w' hw'; go_simp; all_goals (with_reducible rfl))); simp only [Act.put, List.setIfInBounds_toArray, List.set_cons_zero, List.set_cons_succ]) | (refine walkR_skip rfl (by decide +kernel) rfl (fun _ _ _ h => h) hE2 ?_; simp only [Act.put, List.setIfInBounds_toArray, List.set_cons_zero, List.set_cons_succ])))
                (refine walkR_only (fun w' => Ext w2 w') rfl (by decide +kernel) rfl (fun _ h => h) ?_; intro K hK; go_simp; refine (inside_any _ _ _ _).mono ?_; rintro e w4 ⟨rfl, rfl⟩; refine hK _ _ (hE2) ?_; clear hK K; (try simp only [Act.put, List.setIfInBounds_toArray, List.set_cons_zero, List.set_cons_succ]))
                (repeat (first | (refine walkR_still (v := ?_) rfl (by decide +kernel) rfl (fun _ _ _ h => h) hE2 ?_ ?_; rotate_left; (focus (intro w' hw'; obtain ⟨f0, f1⟩ := HCr.out w' hw'; obtain ⟨q1, q2⟩ := HS.out w' hw'; go_simp; all_goals (with_reducible rfl))); simp only [Act.put, List.setIfInBounds_toArray, List.set_cons_zero, List.set_cons_succ]) | (refine walkR_skip rfl (by decide +kernel) rfl (fun _ _ _ h => h) hE2 ?_; simp only [Act.put, List.setIfInBounds_toArray, List.set_cons_zero, List.set_cons_succ])))
                (refine walkR_tail (by rfl) (by kernel_rfl) ?_; simp only [List.drop_succ_cons, List.drop_zero])
                obtain ⟨q1, q2⟩ := HS.out _ hE2
                go_wp2
                go_roundw
                case rel =>
                  refine ⟨1, by omega, fun j hj => ?_, by go_num, HX.out.trans (HA2.out.trans hE2)⟩
                  obtain rfl : j = 0 := by omega
                  exact HT.out
                case measure => simp [intOf]; omega
              | succ k =>
                have hk0 : (0 : Int) ≤ (k : Int) + 1 := by omega
                have hk1 : (0 : Int) < (k : Int) + 1 := by omega
                have hk2 : (k : Int) + 1 < n := by omega
                have hk3 : (k : Int) < n := by omega
                have hk4 : IntKind.i64.wrap (k : Int) = k := wrap_in (by omega) (by omega)
                obtain ⟨b', o', aV, cV, V, M, e', HV, _, hvl, hq⟩ := (G.out.below (HX.out.trans HA2.out)).way k (by omega)
                simp only [Option.some.injEq, Addr.mk.injEq, and_true] at e'
                obtain ⟨rfl, rfl⟩ := e'
                have HP := hidP hq
                clear hq
                have hVl : Hid (V.length = R) := by
                  show _ = _
                  rw [← HV.out]
                  exact chrT_way (HJ.out k (by omega))
                have HSame := hidP (fun w' (hx : Ext w2 w') => compareInts_any aV aw V.length W.length cV cw V W w' (HP.out w' hx).2.2 (HQ.out w' (HA2.out.trans hx)).2.2 (by have := hVl.out; omega) (by have := hWl.out; omega))
                rw [show k + 1 - 1 = k from rfl, HV.out] at HSB
                cases hV : decide (0 < lexC V W)
                · have hle : lexC V W ≤ 0 := by have := of_decide_eq_false hV; omega
                  have HB := hidP (chrB_bad (r := R) (us := xs) (k + 1) (by have := L0.out; omega) (by rw [HSB.out]; simp [hV]))
                  clear hV HSB
                  generalize lexC V W = D at *
                  go_wp2
                  rw [← hw2]
                  clear hw2 q1 q2
                  have hE : Ext w2 w2.drew := Ext.drew w2
                  (refine walkR_start (fun w' => Ext w2 w') 27 (by kernel_rfl) ?_; simp only [numbered, List.take_succ_cons, List.take_zero, Nat.zero_add, Nat.reduceAdd, List.length_cons, List.length_nil])
                  (repeat (first | (refine walkR_still (v := ?_) rfl (by decide +kernel) rfl (fun _ _ _ h => h) hE ?_ ?_; rotate_left; (focus (intro w' hw'; obtain ⟨f0, f1⟩ := HCr.out w' hw'; obtain ⟨q1, q2⟩ := HS.out w' hw'; obtain ⟨y1, y2, _⟩ := HP.out w' hw'; go_simp; all_goals (with_reducible rfl))); simp only [Act.put, List.setIfInBounds_toArray, List.set_cons_zero, List.set_cons_succ]) | (refine walkR_skip rfl (by decide +kernel) rfl (fun _ _ _ h => h) hE ?_; simp only [Act.put, List.setIfInBounds_toArray, List.set_cons_zero, List.set_cons_succ])))
                  (refine walkR_only (fun w' => Ext w2 w') rfl (by decide +kernel) rfl (fun _ h => h) ?_; intro K hK; go_simp; refine (HWt.out _ hE).mono ?_; rintro e w3 ⟨rfl, hx3⟩; refine hK _ _ (hE.trans hx3) ?_; clear hK K; (try simp only [Act.put, List.setIfInBounds_toArray, List.set_cons_zero, List.set_cons_succ]))
                  have hE2 := hE.trans hx3
                  (repeat (first | (refine walkR_still (v := ?_) rfl (by decide +kernel) rfl (fun _ _ _ h => h) hE2 ?_ ?_; rotate_left; (focus (intro w' hw'; obtain ⟨f0, f1⟩ := HCr.out w' hw'; obtain ⟨q1, q2⟩ := HS.out w' hw'; obtain ⟨y1, y2, _⟩ := HP.out w' hw'; go_simp; all_goals (with_reducible rfl))); simp only [Act.put, List.setIfInBounds_toArray, List.set_cons_zero, List.set_cons_succ]) | (refine walkR_skip rfl (by decide +kernel) rfl (fun _ _ _ h => h) hE2 ?_; simp only [Act.put, List.setIfInBounds_toArray, List.set_cons_zero, List.set_cons_succ])))
                  (refine walkR_only (fun w' => Ext w2 w') rfl (by decide +kernel) rfl (fun _ h => h) ?_; intro K hK; go_simp; refine (inside_any _ _ _ _).mono ?_; rintro e w4 ⟨rfl, rfl⟩; refine hK _ _ (hE2) ?_; clear hK K; (try simp only [Act.put, List.setIfInBounds_toArray, List.set_cons_zero, List.set_cons_succ]))
                  (repeat (first | (refine walkR_still (v := ?_) rfl (by decide +kernel) rfl (fun _ _ _ h => h) hE2 ?_ ?_; rotate_left; (focus (intro w' hw'; obtain ⟨f0, f1⟩ := HCr.out w' hw'; obtain ⟨q1, q2⟩ := HS.out w' hw'; obtain ⟨y1, y2, _⟩ := HP.out w' hw'; go_simp; all_goals (with_reducible rfl))); simp only [Act.put, List.setIfInBounds_toArray, List.set_cons_zero, List.set_cons_succ]) | (refine walkR_skip rfl (by decide +kernel) rfl (fun _ _ _ h => h) hE2 ?_; simp only [Act.put, List.setIfInBounds_toArray, List.set_cons_zero, List.set_cons_succ])))
                  (refine walkR_only (fun w' => Ext w2 w') rfl (by decide +kernel) rfl (fun _ h => h) ?_; intro K hK; go_simp; refine (HSame.out _ hE2).mono ?_; rintro e w5 ⟨rfl, rfl⟩; refine hK _ _ (hE2) ?_; clear hK K; (try simp only [Act.put, List.setIfInBounds_toArray, List.set_cons_zero, List.set_cons_succ]))
                  have hE3 := hE2
                  (repeat (first | (refine walkR_still (v := ?_) rfl (by decide +kernel) rfl (fun _ _ _ h => h) hE3 ?_ ?_; rotate_left; (focus (intro w' hw'; obtain ⟨f0, f1⟩ := HCr.out w' hw'; obtain ⟨q1, q2⟩ := HS.out w' hw'; obtain ⟨y1, y2, _⟩ := HP.out w' hw'; go_simp; all_goals (with_reducible rfl))); simp only [Act.put, List.setIfInBounds_toArray, List.set_cons_zero, List.set_cons_succ]) | (refine walkR_skip rfl (by decide +kernel) rfl (fun _ _ _ h => h) hE3 ?_; simp only [Act.put, List.setIfInBounds_toArray, List.set_cons_zero, List.set_cons_succ])))
                  (refine walkR_tail (by rfl) (by kernel_rfl) ?_; simp only [List.drop_succ_cons, List.drop_zero])
                  go_wp2
                  go_ret
                  exact ⟨ret_bool HB.out.symm, HX1.out.trans (HX.out.trans (HA2.out.trans hE3))⟩
                · have hle : ¬ (lexC V W ≤ 0) := by have := of_decide_eq_true hV; omega
                  have HT : Hid (chrT R xs (k + 1) = true) := by
                    show _ = _
                    rw [HSB.out]
                    simp [hV]
                  clear hV HSB
                  generalize lexC V W = D at *
                  go_wp2
                  rw [← hw2]
                  clear hw2 q1 q2
                  have hE : Ext w2 w2.drew := Ext.drew w2
                  (refine walkR_start (fun w' => Ext w2 w') 27 (by kernel_rfl) ?_; simp only [numbered, List.take_succ_cons, List.take_zero, Nat.zero_add, Nat.reduceAdd, List.length_cons, List.length_nil])
                  (repeat (first | (refine walkR_still (v := ?_) rfl (by decide +kernel) rfl (fun _ _ _ h => h) hE ?_ ?_; rotate_left; (focus (intro w' hw'; obtain ⟨f0, f1⟩ := HCr.out w' hw'; obtain ⟨q1, q2⟩ := HS.out w' hw'; obtain ⟨y1, y2, _⟩ := HP.out w' hw'; go_simp; all_goals (with_reducible rfl))); simp only [Act.put, List.setIfInBounds_toArray, List.set_cons_zero, List.set_cons_succ]) | (refine walkR_skip rfl (by decide +kernel) rfl (fun _ _ _ h => h) hE ?_; simp only [Act.put, List.setIfInBounds_toArray, List.set_cons_zero, List.set_cons_succ])))
                  (refine walkR_only (fun w' => Ext w2 w') rfl (by decide +kernel) rfl (fun _ h => h) ?_; intro K hK; go_simp; refine (HWt.out _ hE).mono ?_; rintro e w3 ⟨rfl, hx3⟩; refine hK _ _ (hE.trans hx3) ?_; clear hK K; (try simp only [Act.put, List.setIfInBounds_toArray, List.set_cons_zero, List.set_cons_succ]))
                  have hE2 := hE.trans hx3
                  (repeat (first | (refine walkR_still (v := ?_) rfl (by decide +kernel) rfl (fun _ _ _ h => h) hE2 ?_ ?_; rotate_left; (focus (intro w' hw'; obtain ⟨f0, f1⟩ := HCr.out w' hw'; obtain ⟨q1, q2⟩ := HS.out w' hw'; obtain ⟨y1, y2, _⟩ := HP.out w' hw'; go_simp; all_goals (with_reducible rfl))); simp only [Act.put, List.setIfInBounds_toArray, List.set_cons_zero, List.set_cons_succ]) | (refine walkR_skip rfl (by decide +kernel) rfl (fun _ _ _ h => h) hE2 ?_; simp only [Act.put, List.setIfInBounds_toArray, List.set_cons_zero, List.set_cons_succ])))
                  (refine walkR_only (fun w' => Ext w2 w') rfl (by decide +kernel) rfl (fun _ h => h) ?_; intro K hK; go_simp; refine (inside_any _ _ _ _).mono ?_; rintro e w4 ⟨rfl, rfl⟩; refine hK _ _ (hE2) ?_; clear hK K; (try simp only [Act.put, List.setIfInBounds_toArray, List.set_cons_zero, List.set_cons_succ]))
                  (repeat (first | (refine walkR_still (v := ?_) rfl (by decide +kernel) rfl (fun _ _ _ h => h) hE2 ?_ ?_; rotate_left; (focus (intro w' hw'; obtain ⟨f0, f1⟩ := HCr.out w' hw'; obtain ⟨q1, q2⟩ := HS.out w' hw'; obtain ⟨y1, y2, _⟩ := HP.out w' hw'; go_simp; all_goals (with_reducible rfl))); simp only [Act.put, List.setIfInBounds_toArray, List.set_cons_zero, List.set_cons_succ]) | (refine walkR_skip rfl (by decide +kernel) rfl (fun _ _ _ h => h) hE2 ?_; simp only [Act.put, List.setIfInBounds_toArray, List.set_cons_zero, List.set_cons_succ])))
                  (refine walkR_only (fun w' => Ext w2 w') rfl (by decide +kernel) rfl (fun _ h => h) ?_; intro K hK; go_simp; refine (HSame.out _ hE2).mono ?_; rintro e w5 ⟨rfl, rfl⟩; refine hK _ _ (hE2) ?_; clear hK K; (try simp only [Act.put, List.setIfInBounds_toArray, List.set_cons_zero, List.set_cons_succ]))
                  have hE3 := hE2
                  (repeat (first | (refine walkR_still (v := ?_) rfl (by decide +kernel) rfl (fun _ _ _ h => h) hE3 ?_ ?_; rotate_left; (focus (intro w' hw'; obtain ⟨f0, f1⟩ := HCr.out w' hw'; obtain ⟨q1, q2⟩ := HS.out w' hw'; obtain ⟨y1, y2, _⟩ := HP.out w' hw'; go_simp; all_goals (with_reducible rfl))); simp only [Act.put, List.setIfInBounds_toArray, List.set_cons_zero, List.set_cons_succ]) | (refine walkR_skip rfl (by decide +kernel) rfl (fun _ _ _ h => h) hE3 ?_; simp only [Act.put, List.setIfInBounds_toArray, List.set_cons_zero, List.set_cons_succ])))
                  (refine walkR_tail (by rfl) (by kernel_rfl) ?_; simp only [List.drop_succ_cons, List.drop_zero])
                  obtain ⟨q1, q2⟩ := HS.out _ hE3
                  go_wp2
                  go_roundw
                  case rel =>
                    refine ⟨k + 1 + 1, by omega, fun j hj => ?_, by go_num, HX.out.trans (HA2.out.trans hE3)⟩
                    rcases Nat.lt_succ_iff_lt_or_eq.1 hj with h3 | rfl
                    · exact HJ.out j h3
                    · exact HT.out
                  case measure => simp [intOf]; omega
        · obtain rfl : k = n := by omega
          have HR : Hid (chrB R xs = true) := chrB_true.2 ⟨by have := L0.out; omega, fun j hj => HJ.out j (by have := L0.out; omega)⟩
          go_wp2
          go_ret
          exact ⟨ret_bool HR.out.symm, HX1.out.trans HX.out⟩
    · have HB := hidP (chrB_long (r := R) (us := xs) (by have := L0.out; omega))
      have h400' : 400 < (n : Int) := by omega
      go_wp2
      go_ret
      exact ⟨ret_bool HB.out.symm, HX1.out.trans HX0.out⟩
end Go.Proofs.YtdhlapppahkjeaaGreatDoor
