/-
  Paths put together by the reference: l9Add, l9Join.
  l1Ints: a copy of a slice of integers.
  Paths read by the reference: l1Same, l5Lattice, l9Time, l9Ok, PathOk.
-/
import Derived.Test.YtfikkfbnlegflaaGreatDoorMh1
namespace Go.Proofs.YtfikkfbnlegflaaGreatDoor
open Go.RowKit

set_option maxHeartbeats 1000000 in
theorem l1Same_any (a1 a2 : Option Addr) (n1 n2 c1 c2 : Nat) (xs ys : List Int) (w : World) (h1 : IntsAt w a1 n1 xs) (h2 : IntsAt w a2 n2 ys) (hm1 : n1 ≤ 9223372036854775807) (hm2 : n2 ≤ 9223372036854775807) :
    Calls Tryz.prog 128 #[.slice a1 n1 c1, .slice a2 n2 c2] w fun e w' => e = .returned (.bool (xs == ys)) ∧ ∃ m, w' = w.drewN m := by
  obtain ⟨l1, g1⟩ := h1
  obtain ⟨l2, g2⟩ := h2
  have G1 := hidP g1
  have G2 := hidP g2
  have L1 := hidP l1
  have L2 := hidP l2
  clear g1 g2 l1 l2
  by_cases hne : n1 = n2
  · subst hne
    go_enter Tryz.func128, Tryz.ntmps128
    go_wp2
    go_loopw [5] (fun i wr => ∃ k m : Nat, k ≤ n1 ∧ Hid (∀ j, j < k → xs.getD j 0 = ys.getD j 0) ∧ i = .int .i64 k ∧ wr = w.drewN m) (fun i _ => n1 - (intOf i).toNat)
    case atStart => exact ⟨0, 0, Nat.zero_le _, fun j h => by omega, rfl, rfl⟩
    case round =>
      obtain ⟨k, m, hk, HJ, rfl, rfl⟩ := hrel
      by_cases hlt : k < n1
      · obtain ⟨b1, o1, rfl, q1⟩ := G1.out k hlt
        obtain ⟨b2, o2, rfl, q2⟩ := G2.out k hlt
        by_cases hd : xs.getD k 0 = ys.getD k 0
        · have hb : (xs[k]?.getD 0 != ys[k]?.getD 0) = false := by simpa [List.getD_eq_getElem?_getD] using hd
          have HD := hidP hd
          clear hd
          go_wp2
          go_quiet (fail)
          go_wp2
          go_roundw
          case rel =>
            refine ⟨k + 1, m + nq, by omega, fun j hj => ?_, by go_num, by simp⟩
            rcases Nat.lt_succ_iff_lt_or_eq.1 hj with h3 | rfl
            · exact HJ.out j h3
            · exact HD.out
          case measure => simp [intOf]; omega
        · have hb : (xs[k]?.getD 0 != ys[k]?.getD 0) = true := by simpa [List.getD_eq_getElem?_getD] using hd
          have HB : Hid ((xs == ys) = false) := by
            show _ = _
            rw [beq_eq_false_iff_ne]
            exact fun e => hd (by rw [e])
          clear hd
          go_wp2
          go_quiet (fail)
          go_wp2
          go_ret
          exact ⟨ret_bool HB.out.symm, _, by simp only [World.drewN_drewN]; rfl⟩
      · have HB : Hid ((xs == ys) = true) := by
          show _ = _
          rw [beq_iff_eq]
          exact ints_ext (L1.out.trans L2.out.symm) fun j hj => HJ.out j (by have := L1.out; omega)
        go_wp2
        go_ret
        exact ⟨ret_bool HB.out.symm, _, rfl⟩
  · have HB : Hid ((xs == ys) = false) := by
      show _ = _
      rw [beq_eq_false_iff_ne]
      exact fun e => hne (by rw [← L1.out, ← L2.out, e])
    have hb : (((n1 : Nat) : Int) != (n2 : Nat)) = true := bne_iff_ne.2 (by omega)
    clear hne
    go_enter Tryz.func128, Tryz.ntmps128
    go_wp2
    go_ret
    exact ⟨ret_bool HB.out.symm, 0, rfl⟩

def wayIn (x : Int) : Bool := insB x (-1000) 1000
theorem wayB_eq (r : Nat) (w : List Int) : wayB r w = (decide (w.length = r) && w.all wayIn) := by
  unfold wayB
  congr 1
theorem wayB_len {r : Nat} {w : List Int} (h : w.length ≠ r) : wayB r w = false := by simp [wayB_eq, h]
theorem wayB_bad {r : Nat} {w : List Int} (k : Nat) (hk : k < w.length) (h : wayIn (w.getD k 0) = false) : wayB r w = false := by
  rw [wayB_eq, Bool.and_eq_false_iff]
  right
  rw [List.all_eq_false]
  exact ⟨w.getD k 0, by rw [getD_lt _ hk]; exact List.getElem_mem hk, by rw [h]; exact Bool.false_ne_true⟩
theorem wayB_good {r : Nat} {w : List Int} (hl : w.length = r) (h : ∀ k, k < w.length → wayIn (w.getD k 0) = true) : wayB r w = true := by
  rw [wayB_eq, Bool.and_eq_true, List.all_eq_true]
  refine ⟨by simp [hl], fun x hx => ?_⟩
  obtain ⟨k, hk, rfl⟩ := List.mem_iff_getElem.1 hx
  rw [← getD_lt _ hk]
  exact h k hk

set_option maxRecDepth 100000 in
set_option maxHeartbeats 1000000 in
theorem l5Lattice_any (r : Nat) (ta : Option Addr) (tn tc : Nat) (a : Option Addr) (n c : Nat) (xs : List Int) (w : World) (h : IntsAt w a n xs) (hn : n ≤ 9223372036854775807) (_hr : r ≤ 1000000) :
    Calls Tryz.prog 75 #[carV r ta tn tc, .slice a n c] w fun e w' => e = .returned (.bool (wayB r xs)) ∧ Ext w w' := by
  have hX := Ext.alloc w (.cells #[.int .i64 r, .slice ta tn tc] 31)
  have G := hidP (h.below hX)
  have HX := hidP hX
  have L := hidP h.len
  obtain ⟨f0, f1⟩ := CarAt.new w _ rfl (r : Int) ta tn tc 31
  clear hX h
  go_enter Tryz.func75, Tryz.ntmps75
  by_cases hnr : n = r
  · have hne : ((n : Int) != (r : Int)) = false := by simp [hnr]
    have HN := hidP hnr
    clear hnr
    go_wp2
    go_loopw [5] (fun i wr => ∃ k : Nat, k ≤ n ∧ Hid (∀ j, j < k → wayIn (xs.getD j 0) = true) ∧ i = .int .i64 k ∧ wr = w.alloc (.cells #[.int .i64 r, .slice ta tn tc] 31)) (fun i _ => n - (intOf i).toNat)
    case atStart => exact ⟨0, Nat.zero_le _, fun j h => by omega, rfl, rfl⟩
    case round =>
      obtain ⟨k, hk, HJ, rfl, rfl⟩ := hrel
      by_cases hlt : k < n
      · obtain ⟨b, o, rfl, q⟩ := G.out.get k hlt
        cases hin : wayIn (xs.getD k 0)
        · have HB := hidP (wayB_bad (r := r) k (by have := L.out; omega) hin)
          have hin' : insB (xs[k]?.getD 0) (-1000) 1000 = false := by simpa [wayIn, List.getD_eq_getElem?_getD] using hin
          clear hin
          go_wp2_with (go_at_call 54; refine (l1In_any _ _ _ _).mono ?_; rintro e w' ⟨rfl, rfl⟩)
          go_ret
          exact ⟨ret_bool HB.out.symm, HX.out⟩
        · have hin' : insB (xs[k]?.getD 0) (-1000) 1000 = true := by simpa [wayIn, List.getD_eq_getElem?_getD] using hin
          have HI := hidP hin
          clear hin
          go_wp2_with (go_at_call 54; refine (l1In_any _ _ _ _).mono ?_; rintro e w' ⟨rfl, rfl⟩)
          go_roundw
          case rel =>
            refine ⟨k + 1, by omega, fun j hj => ?_, by go_num, trivial⟩
            rcases Nat.lt_succ_iff_lt_or_eq.1 hj with h3 | rfl
            · exact HJ.out j h3
            · exact HI.out
          case measure => simp [intOf]; omega
      · have HB := hidP (wayB_good (r := r) (w := xs) (by have := L.out; have := HN.out; omega) (fun j hj => HJ.out j (by have := L.out; omega)))
        go_wp2
        go_ret
        exact ⟨ret_bool HB.out.symm, HX.out⟩
  · have hne : ((n : Int) != (r : Int)) = true := bne_iff_ne.2 (by omega)
    have HB := hidP (wayB_len (r := r) (w := xs) (by have := L.out; omega))
    go_wp2
    go_ret
    exact ⟨ret_bool HB.out.symm, HX.out⟩

theorem timeAt_bounds {p : List Stp} {n : Nat} (h : ∀ k, k < n → 0 ≤ lenAt p k ∧ lenAt p k ≤ 1000000) : ∀ k, k ≤ n → 0 ≤ timeAt p k ∧ timeAt p k ≤ 1000000 * k
  | 0, _ => ⟨Int.le_refl _, Int.le_refl _⟩
  | k + 1, hk => by
    have h1 := timeAt_bounds h k (by omega)
    have h2 := h k (by omega)
    rw [timeAt]
    omega

set_option maxHeartbeats 1000000 in
theorem l9Time_any (a : Option Addr) (n c : Nat) (xs : List Stp) (w : World) (h : TermsAt w a n xs) (hn : n ≤ 1000000) (hb : ∀ k, k < n → 0 ≤ lenAt xs k ∧ lenAt xs k ≤ 1000000) :
    Calls Tryz.prog 129 #[.slice a n c] w fun e w' => e = .returned (.int .i64 (timeAt xs n)) ∧ w' = w := by
  have G := hidP h
  have HB := hidP (timeAt_bounds hb)
  have HD := hidP hb
  clear h hb
  go_enter Tryz.func129, Tryz.ntmps129
  go_wp2
  go_loopw [3, 4] (fun t i wr => ∃ k : Nat, k ≤ n ∧ t = .int .i64 (timeAt xs k) ∧ i = .int .i64 k ∧ wr = w) (fun _ i _ => n - (intOf i).toNat)
  case atStart => exact ⟨0, Nat.zero_le _, rfl, rfl, rfl⟩
  case round =>
    obtain ⟨k, hk, rfl, rfl, rfl⟩ := hrel
    by_cases hlt : k < n
    · obtain ⟨b, o, aw, cw, rfl, q1, q2, _, _⟩ := G.out.get k hlt
      have hT : Hid (timeAt xs (k + 1) = timeAt xs k + lenAt xs k) := rfl
      have hb1 := HB.out k hk
      have hb2 := HD.out k hlt
      obtain ⟨T, hT0⟩ : ∃ T, T = timeAt xs k := ⟨_, rfl⟩
      have HLe : Hid ((xs.getD k ([], 0)).2 = lenAt xs k) := rfl
      rw [HLe.out] at q2
      rw [← hT0] at hb1 hT ⊢
      clear hT0
      generalize lenAt xs k = L at hb2 q2 hT
      go_wp2
      go_roundw
      case rel => exact ⟨k + 1, by omega, by rw [hT.out], by go_num, trivial⟩
      case measure => simp [intOf]; omega
    · obtain rfl : k = n := by omega
      go_wp2
      go_ret
      exact ⟨rfl, rfl⟩

/-- one step of a path that is read -/
theorem TermsAt.way {w : World} {a : Option Addr} {n : Nat} {xs : List Stp} (h : TermsAt w a n xs) (k : Nat) (hk : k < n) :
    ∃ b o aw cw, ∃ W : List Int, ∃ L : Int, a = some ⟨b, o, none⟩ ∧ Hid (wayAt xs k = W) ∧ Hid (lenAt xs k = L) ∧ W.length ≤ 9223372036854775807 ∧ ∀ w', Ext w w' → w'.cell? ⟨b, o + k * 2, none⟩ = some (.slice aw W.length cw) ∧ w'.cell? ⟨b, o + k * 2 + 1, none⟩ = some (.int .i64 L) ∧ IntsAt w' aw W.length W := by
  obtain ⟨b, o, _, _, rfl, _⟩ := h.get k hk
  obtain ⟨aw, cw, h1, h2⟩ := h.keeps k hk
  exact ⟨b, o, aw, cw, wayAt xs k, lenAt xs k, rfl, rfl, rfl, h1, h2⟩
theorem pathB_long {r : Nat} {p : List Stp} (h : ¬ p.length ≤ 60) : pathB r p = false := by simp [pathB, h]
theorem pathB_bad {r : Nat} {p : List Stp} (k : Nat) (hk : k < p.length) (h : stepB r p k = false) : pathB r p = false := by
  have : (List.range p.length).all (stepB r p) = false := by
    rw [List.all_eq_false]
    exact ⟨k, List.mem_range.2 hk, by simp [h]⟩
  simp [pathB, this]
theorem pathB_end {r : Nat} {p : List Stp} {n : Nat} (hn : p.length = n) (h60 : n ≤ 60) (h : ∀ j, j < n → stepB r p j = true) : pathB r p = (decide (timeAt p n % 27720 = 0) && decide (timeAt p n ≤ 83160)) := by
  subst hn
  have : (List.range p.length).all (stepB r p) = true := by
    rw [List.all_eq_true]
    exact fun j hj => h j (List.mem_range.1 hj)
  unfold pathB
  rw [this, decide_eq_true h60, Bool.true_and, Bool.true_and]
theorem stepB_len {r : Nat} {p : List Stp} {k : Nat} (h : stepB r p k = true) : 0 ≤ lenAt p k ∧ lenAt p k ≤ 1000000 := by
  simp only [stepB, Bool.and_eq_true, decide_eq_true_eq] at h
  omega
theorem stepB_way {r : Nat} {p : List Stp} {k : Nat} (h : stepB r p k = true) : (wayAt p k).length = r := by
  simp only [stepB, Bool.and_eq_true] at h
  exact (wayB_iff.1 h.1).1

set_option maxRecDepth 100000 in
set_option maxHeartbeats 4000000 in
theorem l9Ok_any (r : Nat) (ta : Option Addr) (tn tc : Nat) (a : Option Addr) (n c : Nat) (xs : List Stp) (w : World) (h : TermsAt w a n xs) (hn : n ≤ 9223372036854775807) (hr : r ≤ 1000000) :
    Calls Tryz.prog 93 #[carV r ta tn tc, .slice a n c] w fun e w' => e = .returned (.bool (pathB r xs)) ∧ Ext w w' := by
  have hx1 := Ext.alloc w (.cells #[.int .i64 r, .slice ta tn tc] 31)
  have G := hidP (h.below hx1)
  have L0 := hidP h.len
  have HC := hidP (fun w' (hx : Ext (w.alloc (.cells #[.int .i64 r, .slice ta tn tc] 31)) w') => (CarAt.new w _ rfl (r : Int) ta tn tc 31).below hx)
  have HX1 := hidP hx1
  clear h hx1
  go_enter Tryz.func93, Tryz.ntmps93
  by_cases h60 : n ≤ 60
  · have h60' : ¬ (60 < (n : Int)) := by omega
    go_wp2
    obtain ⟨w1, hw1⟩ : ∃ w1, w1 = w.alloc (.cells #[.int .i64 r, .slice ta tn tc] 31) := ⟨_, rfl⟩
    rw [← hw1] at G HC HX1 ⊢
    clear hw1
    have hst : Hid (Ext w1 w1) := hidP (Ext.refl w1)
    go_loopw [5] (fun i wr => ∃ k : Nat, k ≤ n ∧ Hid (∀ j, j < k → stepB r xs j = true) ∧ i = .int .i64 k ∧ Hid (Ext w1 wr)) (fun i _ => n - (intOf i).toNat)
    case atStart => exact ⟨0, Nat.zero_le _, fun j h => by omega, rfl, hst⟩
    case round =>
      clear hst
      obtain ⟨k, hk, HJ, rfl, HX⟩ := hrel
      by_cases hlt : k < n
      · obtain ⟨b, o, aw, cw, W, L, rfl, HW, HL, hwl, hq⟩ := (G.out.below HX.out).way k hlt
        have HQ := hidP hq
        clear hq
        have HCr := hidP (fun w' (hx : Ext wr w') => HC.out w' (HX.out.trans hx))
        have HLat := hidP (fun w' (hx : Ext wr w') => l5Lattice_any r ta tn tc aw W.length cw W w' (HQ.out w' hx).2.2 hwl hr)
        have HSB : Hid (stepB r xs k = (wayB r W && (insB L 1 83160 && (decide (k = 0) || wayAt xs (k - 1) != W)))) := by
          show _ = _
          unfold stepB
          rw [HW.out, HL.out]
          rfl
        cases hA : wayB r W
        · rw [hA] at HLat HSB
          have HB := hidP (pathB_bad (r := r) k (by have := L0.out; omega) HSB.out)
          clear hA
          go_wp2
          have hE : Ext wr wr.drew := Ext.drew wr
          (refine walkR_start (fun w' => Ext wr w') 34 (by kernel_rfl) ?_; simp only [numbered, List.take_succ_cons, List.take_zero, Nat.zero_add, Nat.reduceAdd, List.length_cons, List.length_nil])
          (repeat (first | (refine walkR_still (v := ?_) rfl (by decide +kernel) rfl (fun _ _ _ h => h) hE ?_ ?_; rotate_left; (focus (intro w' hw'; obtain ⟨f0, f1⟩ := HCr.out w' hw'; obtain ⟨q1, q2, _⟩ := HQ.out w' hw'; go_simp; all_goals (with_reducible rfl))); simp only [Act.put, List.setIfInBounds_toArray, List.set_cons_zero, List.set_cons_succ]) | (refine walkR_skip rfl (by decide +kernel) rfl (fun _ _ _ h => h) hE ?_; simp only [Act.put, List.setIfInBounds_toArray, List.set_cons_zero, List.set_cons_succ])))
          (refine walkR_only (fun w' => Ext wr w') rfl (by decide +kernel) rfl (fun _ h => h) ?_; intro K hK; go_simp; refine (HLat.out _ hE).mono ?_; rintro e w2 ⟨rfl, hx2⟩; refine hK _ _ (hE.trans hx2) ?_; clear hK K; (try simp only [Act.put, List.setIfInBounds_toArray, List.set_cons_zero, List.set_cons_succ]))
          have hE2 := hE.trans hx2
          (repeat (first | (refine walkR_still (v := ?_) rfl (by decide +kernel) rfl (fun _ _ _ h => h) hE2 ?_ ?_; rotate_left; (focus (intro w' hw'; obtain ⟨f0, f1⟩ := HCr.out w' hw'; obtain ⟨q1, q2, _⟩ := HQ.out w' hw'; go_simp; all_goals (with_reducible rfl))); simp only [Act.put, List.setIfInBounds_toArray, List.set_cons_zero, List.set_cons_succ]) | (refine walkR_skip rfl (by decide +kernel) rfl (fun _ _ _ h => h) hE2 ?_; simp only [Act.put, List.setIfInBounds_toArray, List.set_cons_zero, List.set_cons_succ])))
          (refine walkR_tail (by rfl) (by kernel_rfl) ?_; simp only [List.drop_succ_cons, List.drop_zero])
          go_wp2
          go_ret
          exact ⟨ret_bool HB.out.symm, HX1.out.trans (HX.out.trans hE2)⟩
        · rw [hA] at HLat HSB
          cases hI : insB L 1 83160
          · rw [hI] at HSB
            have HB := hidP (pathB_bad (r := r) k (by have := L0.out; omega) HSB.out)
            clear hA
            go_wp2
            have hE : Ext wr wr.drew := Ext.drew wr
            (refine walkR_start (fun w' => Ext wr w') 34 (by kernel_rfl) ?_; simp only [numbered, List.take_succ_cons, List.take_zero, Nat.zero_add, Nat.reduceAdd, List.length_cons, List.length_nil])
            (repeat (first | (refine walkR_still (v := ?_) rfl (by decide +kernel) rfl (fun _ _ _ h => h) hE ?_ ?_; rotate_left; (focus (intro w' hw'; obtain ⟨f0, f1⟩ := HCr.out w' hw'; obtain ⟨q1, q2, _⟩ := HQ.out w' hw'; go_simp; all_goals (with_reducible rfl))); simp only [Act.put, List.setIfInBounds_toArray, List.set_cons_zero, List.set_cons_succ]) | (refine walkR_skip rfl (by decide +kernel) rfl (fun _ _ _ h => h) hE ?_; simp only [Act.put, List.setIfInBounds_toArray, List.set_cons_zero, List.set_cons_succ])))
            (refine walkR_only (fun w' => Ext wr w') rfl (by decide +kernel) rfl (fun _ h => h) ?_; intro K hK; go_simp; refine (HLat.out _ hE).mono ?_; rintro e w2 ⟨rfl, hx2⟩; refine hK _ _ (hE.trans hx2) ?_; clear hK K; (try simp only [Act.put, List.setIfInBounds_toArray, List.set_cons_zero, List.set_cons_succ]))
            have hE2 := hE.trans hx2
            (repeat (first | (refine walkR_still (v := ?_) rfl (by decide +kernel) rfl (fun _ _ _ h => h) hE2 ?_ ?_; rotate_left; (focus (intro w' hw'; obtain ⟨f0, f1⟩ := HCr.out w' hw'; obtain ⟨q1, q2, _⟩ := HQ.out w' hw'; go_simp; all_goals (with_reducible rfl))); simp only [Act.put, List.setIfInBounds_toArray, List.set_cons_zero, List.set_cons_succ]) | (refine walkR_skip rfl (by decide +kernel) rfl (fun _ _ _ h => h) hE2 ?_; simp only [Act.put, List.setIfInBounds_toArray, List.set_cons_zero, List.set_cons_succ])))
            (refine walkR_only (fun w' => Ext wr w') rfl (by decide +kernel) rfl (fun _ h => h) ?_; intro K hK; go_simp; refine (l1In_any _ _ _ _).mono ?_; rintro e w3 ⟨rfl, rfl⟩; refine hK _ _ (hE2) ?_; clear hK K; (try simp only [Act.put, List.setIfInBounds_toArray, List.set_cons_zero, List.set_cons_succ]))
            (repeat (first | (refine walkR_still (v := ?_) rfl (by decide +kernel) rfl (fun _ _ _ h => h) hE2 ?_ ?_; rotate_left; (focus (intro w' hw'; obtain ⟨f0, f1⟩ := HCr.out w' hw'; obtain ⟨q1, q2, _⟩ := HQ.out w' hw'; go_simp; all_goals (with_reducible rfl))); simp only [Act.put, List.setIfInBounds_toArray, List.set_cons_zero, List.set_cons_succ]) | (refine walkR_skip rfl (by decide +kernel) rfl (fun _ _ _ h => h) hE2 ?_; simp only [Act.put, List.setIfInBounds_toArray, List.set_cons_zero, List.set_cons_succ])))
            (refine walkR_tail (by rfl) (by kernel_rfl) ?_; simp only [List.drop_succ_cons, List.drop_zero])
            go_wp2
            go_ret
            exact ⟨ret_bool HB.out.symm, HX1.out.trans (HX.out.trans hE2)⟩
          · rw [hI] at HSB
            clear hA
            cases k with
            | zero =>
              have HT : Hid (stepB r xs 0 = true) := HSB.out
              have HQ := hidP (by simpa only [Nat.zero_mul, Nat.add_zero] using HQ.out)
              go_wp2
              have hE : Ext wr wr.drew := Ext.drew wr
              (refine walkR_start (fun w' => Ext wr w') 34 (by kernel_rfl) ?_; simp only [numbered, List.take_succ_cons, List.take_zero, Nat.zero_add, Nat.reduceAdd, List.length_cons, List.length_nil])
              (repeat (first | (refine walkR_still (v := ?_) rfl (by decide +kernel) rfl (fun _ _ _ h => h) hE ?_ ?_; rotate_left; (focus (intro w' hw'; obtain ⟨f0, f1⟩ := HCr.out w' hw'; obtain ⟨q1, q2, _⟩ := HQ.out w' hw'; go_simp; all_goals (with_reducible rfl))); simp only [Act.put, List.setIfInBounds_toArray, List.set_cons_zero, List.set_cons_succ]) | (refine walkR_skip rfl (by decide +kernel) rfl (fun _ _ _ h => h) hE ?_; simp only [Act.put, List.setIfInBounds_toArray, List.set_cons_zero, List.set_cons_succ])))
              (refine walkR_only (fun w' => Ext wr w') rfl (by decide +kernel) rfl (fun _ h => h) ?_; intro K hK; go_simp; refine (HLat.out _ hE).mono ?_; rintro e w2 ⟨rfl, hx2⟩; refine hK _ _ (hE.trans hx2) ?_; clear hK K; (try simp only [Act.put, List.setIfInBounds_toArray, List.set_cons_zero, List.set_cons_succ]))
              have hE2 := hE.trans hx2
              (repeat (first | (refine walkR_still (v := ?_) rfl (by decide +kernel) rfl (fun _ _ _ h => h) hE2 ?_ ?_; rotate_left; (focus (intro w' hw'; obtain ⟨f0, f1⟩ := HCr.out w' hw'; obtain ⟨q1, q2, _⟩ := HQ.out w' hw'; go_simp; all_goals (with_reducible rfl))); simp only [Act.put, List.setIfInBounds_toArray, List.set_cons_zero, List.set_cons_succ]) | (refine walkR_skip rfl (by decide +kernel) rfl (fun _ _ _ h => h) hE2 ?_; simp only [Act.put, List.setIfInBounds_toArray, List.set_cons_zero, List.set_cons_succ])))
              (refine walkR_only (fun w' => Ext wr w') rfl (by decide +kernel) rfl (fun _ h => h) ?_; intro K hK; go_simp; refine (l1In_any _ _ _ _).mono ?_; rintro e w3 ⟨rfl, rfl⟩; refine hK _ _ (hE2) ?_; clear hK K; (try simp only [Act.put, List.setIfInBounds_toArray, List.set_cons_zero, List.set_cons_succ]))
              (repeat (first | (refine walkR_still (v := ?_) rfl (by decide +kernel) rfl (fun _ _ _ h => h) hE2 ?_ ?_; rotate_left; (focus (intro w' hw'; obtain ⟨f0, f1⟩ := HCr.out w' hw'; obtain ⟨q1, q2, _⟩ := HQ.out w' hw'; go_simp; all_goals (with_reducible rfl))); simp only [Act.put, List.setIfInBounds_toArray, List.set_cons_zero, List.set_cons_succ]) | (refine walkR_skip rfl (by decide +kernel) rfl (fun _ _ _ h => h) hE2 ?_; simp only [Act.put, List.setIfInBounds_toArray, List.set_cons_zero, List.set_cons_succ])))
              (refine walkR_tail (by rfl) (by kernel_rfl) ?_; simp only [List.drop_succ_cons, List.drop_zero])
              go_wp2
              go_roundw
              case rel =>
                refine ⟨1, by omega, fun j hj => ?_, by go_num, HX.out.trans hE2⟩
                obtain rfl : j = 0 := by omega
                exact HT.out
              case measure => simp [intOf]; omega
            | succ k =>
              have hk0 : (0 : Int) ≤ (k : Int) + 1 := by omega
              have hk1 : (0 : Int) < (k : Int) + 1 := by omega
              have hk2 : (k : Int) + 1 < n := by omega
              have hk3 : (k : Int) < n := by omega
              have hk4 : IntKind.i64.wrap (k : Int) = k := wrap_in (by omega) (by omega)
              obtain ⟨b', o', aV, cV, V, M, e', HV, _, hvl, hq⟩ := (G.out.below HX.out).way k (by omega)
              simp only [Option.some.injEq, Addr.mk.injEq, and_true] at e'
              obtain ⟨rfl, rfl⟩ := e'
              have HP := hidP hq
              clear hq
              have HSame := hidP (fun w' (hx : Ext wr w') => l1Same_any aV aw V.length W.length cV cw V W w' (HP.out w' hx).2.2 (HQ.out w' hx).2.2 hvl hwl)
              rw [show k + 1 - 1 = k from rfl, HV.out] at HSB
              cases hV : (V == W)
              · rw [hV] at HSame
                have HT : Hid (stepB r xs (k + 1) = true) := by
                  show _ = _
                  rw [HSB.out]
                  simp [bne, hV]
                clear hV HSB
                go_wp2
                have hE : Ext wr wr.drew := Ext.drew wr
                (refine walkR_start (fun w' => Ext wr w') 34 (by kernel_rfl) ?_; simp only [numbered, List.take_succ_cons, List.take_zero, Nat.zero_add, Nat.reduceAdd, List.length_cons, List.length_nil])
                (repeat (first | (refine walkR_still (v := ?_) rfl (by decide +kernel) rfl (fun _ _ _ h => h) hE ?_ ?_; rotate_left; (focus (intro w' hw'; obtain ⟨f0, f1⟩ := HCr.out w' hw'; obtain ⟨q1, q2, _⟩ := HQ.out w' hw'; obtain ⟨y1, y2, _⟩ := HP.out w' hw'; go_simp; all_goals (with_reducible rfl))); simp only [Act.put, List.setIfInBounds_toArray, List.set_cons_zero, List.set_cons_succ]) | (refine walkR_skip rfl (by decide +kernel) rfl (fun _ _ _ h => h) hE ?_; simp only [Act.put, List.setIfInBounds_toArray, List.set_cons_zero, List.set_cons_succ])))
                (refine walkR_only (fun w' => Ext wr w') rfl (by decide +kernel) rfl (fun _ h => h) ?_; intro K hK; go_simp; refine (HLat.out _ hE).mono ?_; rintro e w2 ⟨rfl, hx2⟩; refine hK _ _ (hE.trans hx2) ?_; clear hK K; (try simp only [Act.put, List.setIfInBounds_toArray, List.set_cons_zero, List.set_cons_succ]))
                have hE2 := hE.trans hx2
                (repeat (first | (refine walkR_still (v := ?_) rfl (by decide +kernel) rfl (fun _ _ _ h => h) hE2 ?_ ?_; rotate_left; (focus (intro w' hw'; obtain ⟨f0, f1⟩ := HCr.out w' hw'; obtain ⟨q1, q2, _⟩ := HQ.out w' hw'; obtain ⟨y1, y2, _⟩ := HP.out w' hw'; go_simp; all_goals (with_reducible rfl))); simp only [Act.put, List.setIfInBounds_toArray, List.set_cons_zero, List.set_cons_succ]) | (refine walkR_skip rfl (by decide +kernel) rfl (fun _ _ _ h => h) hE2 ?_; simp only [Act.put, List.setIfInBounds_toArray, List.set_cons_zero, List.set_cons_succ])))
                (refine walkR_only (fun w' => Ext wr w') rfl (by decide +kernel) rfl (fun _ h => h) ?_; intro K hK; go_simp; refine (l1In_any _ _ _ _).mono ?_; rintro e w3 ⟨rfl, rfl⟩; refine hK _ _ (hE2) ?_; clear hK K; (try simp only [Act.put, List.setIfInBounds_toArray, List.set_cons_zero, List.set_cons_succ]))
                (repeat (first | (refine walkR_still (v := ?_) rfl (by decide +kernel) rfl (fun _ _ _ h => h) hE2 ?_ ?_; rotate_left; (focus (intro w' hw'; obtain ⟨f0, f1⟩ := HCr.out w' hw'; obtain ⟨q1, q2, _⟩ := HQ.out w' hw'; obtain ⟨y1, y2, _⟩ := HP.out w' hw'; go_simp; all_goals (with_reducible rfl))); simp only [Act.put, List.setIfInBounds_toArray, List.set_cons_zero, List.set_cons_succ]) | (refine walkR_skip rfl (by decide +kernel) rfl (fun _ _ _ h => h) hE2 ?_; simp only [Act.put, List.setIfInBounds_toArray, List.set_cons_zero, List.set_cons_succ])))
                (refine walkR_only (fun w' => Ext wr w') rfl (by decide +kernel) rfl (fun _ h => h) ?_; intro K hK; go_simp; refine (HSame.out _ hE2).mono ?_; rintro e w4 ⟨rfl, m, rfl⟩; refine hK _ _ (hE2.trans (Ext.drewN _ _)) ?_; clear hK K; (try simp only [Act.put, List.setIfInBounds_toArray, List.set_cons_zero, List.set_cons_succ]))
                have hE3 := hE2.trans (Ext.drewN _ m)
                (repeat (first | (refine walkR_still (v := ?_) rfl (by decide +kernel) rfl (fun _ _ _ h => h) hE3 ?_ ?_; rotate_left; (focus (intro w' hw'; obtain ⟨f0, f1⟩ := HCr.out w' hw'; obtain ⟨q1, q2, _⟩ := HQ.out w' hw'; obtain ⟨y1, y2, _⟩ := HP.out w' hw'; go_simp; all_goals (with_reducible rfl))); simp only [Act.put, List.setIfInBounds_toArray, List.set_cons_zero, List.set_cons_succ]) | (refine walkR_skip rfl (by decide +kernel) rfl (fun _ _ _ h => h) hE3 ?_; simp only [Act.put, List.setIfInBounds_toArray, List.set_cons_zero, List.set_cons_succ])))
                (refine walkR_tail (by rfl) (by kernel_rfl) ?_; simp only [List.drop_succ_cons, List.drop_zero])
                go_wp2
                go_roundw
                case rel =>
                  refine ⟨k + 1 + 1, by omega, fun j hj => ?_, by go_num, HX.out.trans hE3⟩
                  rcases Nat.lt_succ_iff_lt_or_eq.1 hj with h3 | rfl
                  · exact HJ.out j h3
                  · exact HT.out
                case measure => simp [intOf]; omega
              · rw [hV] at HSame
                have HB := hidP (pathB_bad (r := r) (p := xs) (k + 1) (by have := L0.out; omega) (by rw [HSB.out]; simp [bne, hV]))
                clear hV HSB
                go_wp2
                have hE : Ext wr wr.drew := Ext.drew wr
                (refine walkR_start (fun w' => Ext wr w') 34 (by kernel_rfl) ?_; simp only [numbered, List.take_succ_cons, List.take_zero, Nat.zero_add, Nat.reduceAdd, List.length_cons, List.length_nil])
                (repeat (first | (refine walkR_still (v := ?_) rfl (by decide +kernel) rfl (fun _ _ _ h => h) hE ?_ ?_; rotate_left; (focus (intro w' hw'; obtain ⟨f0, f1⟩ := HCr.out w' hw'; obtain ⟨q1, q2, _⟩ := HQ.out w' hw'; obtain ⟨y1, y2, _⟩ := HP.out w' hw'; go_simp; all_goals (with_reducible rfl))); simp only [Act.put, List.setIfInBounds_toArray, List.set_cons_zero, List.set_cons_succ]) | (refine walkR_skip rfl (by decide +kernel) rfl (fun _ _ _ h => h) hE ?_; simp only [Act.put, List.setIfInBounds_toArray, List.set_cons_zero, List.set_cons_succ])))
                (refine walkR_only (fun w' => Ext wr w') rfl (by decide +kernel) rfl (fun _ h => h) ?_; intro K hK; go_simp; refine (HLat.out _ hE).mono ?_; rintro e w2 ⟨rfl, hx2⟩; refine hK _ _ (hE.trans hx2) ?_; clear hK K; (try simp only [Act.put, List.setIfInBounds_toArray, List.set_cons_zero, List.set_cons_succ]))
                have hE2 := hE.trans hx2
                (repeat (first | (refine walkR_still (v := ?_) rfl (by decide +kernel) rfl (fun _ _ _ h => h) hE2 ?_ ?_; rotate_left; (focus (intro w' hw'; obtain ⟨f0, f1⟩ := HCr.out w' hw'; obtain ⟨q1, q2, _⟩ := HQ.out w' hw'; obtain ⟨y1, y2, _⟩ := HP.out w' hw'; go_simp; all_goals (with_reducible rfl))); simp only [Act.put, List.setIfInBounds_toArray, List.set_cons_zero, List.set_cons_succ]) | (refine walkR_skip rfl (by decide +kernel) rfl (fun _ _ _ h => h) hE2 ?_; simp only [Act.put, List.setIfInBounds_toArray, List.set_cons_zero, List.set_cons_succ])))
                (refine walkR_only (fun w' => Ext wr w') rfl (by decide +kernel) rfl (fun _ h => h) ?_; intro K hK; go_simp; refine (l1In_any _ _ _ _).mono ?_; rintro e w3 ⟨rfl, rfl⟩; refine hK _ _ (hE2) ?_; clear hK K; (try simp only [Act.put, List.setIfInBounds_toArray, List.set_cons_zero, List.set_cons_succ]))
                (repeat (first | (refine walkR_still (v := ?_) rfl (by decide +kernel) rfl (fun _ _ _ h => h) hE2 ?_ ?_; rotate_left; (focus (intro w' hw'; obtain ⟨f0, f1⟩ := HCr.out w' hw'; obtain ⟨q1, q2, _⟩ := HQ.out w' hw'; obtain ⟨y1, y2, _⟩ := HP.out w' hw'; go_simp; all_goals (with_reducible rfl))); simp only [Act.put, List.setIfInBounds_toArray, List.set_cons_zero, List.set_cons_succ]) | (refine walkR_skip rfl (by decide +kernel) rfl (fun _ _ _ h => h) hE2 ?_; simp only [Act.put, List.setIfInBounds_toArray, List.set_cons_zero, List.set_cons_succ])))
                (refine walkR_only (fun w' => Ext wr w') rfl (by decide +kernel) rfl (fun _ h => h) ?_; intro K hK; go_simp; refine (HSame.out _ hE2).mono ?_; rintro e w4 ⟨rfl, m, rfl⟩; refine hK _ _ (hE2.trans (Ext.drewN _ _)) ?_; clear hK K; (try simp only [Act.put, List.setIfInBounds_toArray, List.set_cons_zero, List.set_cons_succ]))
                have hE3 := hE2.trans (Ext.drewN _ m)
                (repeat (first | (refine walkR_still (v := ?_) rfl (by decide +kernel) rfl (fun _ _ _ h => h) hE3 ?_ ?_; rotate_left; (focus (intro w' hw'; obtain ⟨f0, f1⟩ := HCr.out w' hw'; obtain ⟨q1, q2, _⟩ := HQ.out w' hw'; obtain ⟨y1, y2, _⟩ := HP.out w' hw'; go_simp; all_goals (with_reducible rfl))); simp only [Act.put, List.setIfInBounds_toArray, List.set_cons_zero, List.set_cons_succ]) | (refine walkR_skip rfl (by decide +kernel) rfl (fun _ _ _ h => h) hE3 ?_; simp only [Act.put, List.setIfInBounds_toArray, List.set_cons_zero, List.set_cons_succ])))
                (refine walkR_tail (by rfl) (by kernel_rfl) ?_; simp only [List.drop_succ_cons, List.drop_zero])
                go_wp2
                go_ret
                exact ⟨ret_bool HB.out.symm, HX1.out.trans (HX.out.trans hE3)⟩
      · obtain rfl : k = n := by omega
        have HE := hidP (pathB_end (r := r) (L0.out) h60 HJ.out)
        have HTm := hidP (l9Time_any a k c xs wr (G.out.below HX.out) (by omega) (fun j hj => stepB_len (HJ.out j hj)))
        have hbd := (timeAt_bounds (p := xs) (n := k) (fun j hj => stepB_len (HJ.out j hj)) k (Nat.le_refl k))
        obtain ⟨T, hT⟩ : ∃ T, T = timeAt xs k := ⟨_, rfl⟩
        rw [← hT] at HE HTm hbd
        have htm : Int.tmod T 27720 = T % 27720 := Int.tmod_eq_emod_of_nonneg hbd.1
        clear hT
        by_cases hz : T % 27720 = 0
        · have HR : Hid (pathB r xs = decide (T ≤ 83160)) := by show _ = _; rw [HE.out]; simp [hz]
          go_wp2_with (refine HTm.out.mono ?_; rintro e w' ⟨rfl, rfl⟩)
          go_ret
          exact ⟨ret_bool HR.out.symm, HX1.out.trans HX.out⟩
        · have HR : Hid (pathB r xs = false) := by show _ = _; rw [HE.out]; simp [hz]
          have hz' : (T % 27720 == 0) = false := by simpa using hz
          go_wp2_with (refine HTm.out.mono ?_; rintro e w' ⟨rfl, rfl⟩)
          go_ret
          exact ⟨ret_bool HR.out.symm, HX1.out.trans HX.out⟩
  · have HB := hidP (pathB_long (r := r) (p := xs) (by have := L0.out; omega))
    have h60' : 60 < (n : Int) := by omega
    go_wp2
    go_ret
    exact ⟨ret_bool HB.out.symm, HX1.out⟩
end Go.Proofs.YtfikkfbnlegflaaGreatDoor

namespace Go.Proofs.YtfikkfbnlegflaaGreatDoor
open Go.RowKit
theorem l1Ints_any (a : Option Addr) (n c : Nat) (xs : List Int) (w : World) (h : IntsAt w a n xs) (hnil : a = none → c = 0) (hn : n ≤ 1000000000) :
    Calls Tryz.prog 109 #[.slice a n c] w fun e w' => ∃ a' c', e = .returned (.slice a' n c') ∧ OwnI w' w.heap.size a' n c' xs ∧ Ext w w' := by
  have H := hidP (h.below (Ext.alloc w (.cells #[] 3)))
  have hm := OwnI.made w w.heap.size 0 (Nat.le_refl _) (by unfold maxLen; omega)
  rw [show Array.replicate 0 (Value.int .i64 0) = #[] from rfl] at hm
  have HM := hidP hm
  have HN := hidP hnil
  clear h hnil hm
  go_enter Tryz.func109, Tryz.ntmps109
  go_wp2_with (at_builtin; refine wpList_append_ints rfl (.tmp 3) (.tmp 4) rfl w.heap.size (some ⟨w.heap.size, 0, none⟩) 0 0 [] rfl HM.out a n c xs rfl H.out HN.out (by omega) (by simp) ?_; intro a' c' w' ho hg)
  go_ret
  rw [Nat.zero_add, List.nil_append] at ho
  exact ⟨_, _, rfl, ho, grown_ext hg (Ext.alloc w _) (by simp) (fun q e => by cases e; exact Nat.le_refl _)⟩
end Go.Proofs.YtfikkfbnlegflaaGreatDoor

namespace Go.Proofs.YtfikkfbnlegflaaGreatDoor
open Go.RowKit

/-- steps, read, a way that is nil having no room -/
structure StepsAt (w : World) (a : Option Addr) (n : Nat) (xs : List Stp) : Prop where
  len : xs.length = n
  get : ∀ k, k < n → ∃ b o aw cw, a = some ⟨b, o, none⟩ ∧ w.cell? ⟨b, o + k * 2, none⟩ = some (.slice aw (wayAt xs k).length cw) ∧ w.cell? ⟨b, o + k * 2 + 1, none⟩ = some (.int .i64 (lenAt xs k)) ∧
    IntsAt w aw (wayAt xs k).length (wayAt xs k) ∧ (wayAt xs k).length ≤ 9223372036854775807 ∧ (aw = none → cw = 0)
theorem StepsAt.terms {w : World} {a : Option Addr} {n : Nat} {xs : List Stp} (h : StepsAt w a n xs) : TermsAt w a n xs :=
  ⟨h.len, fun i hi => by
    obtain ⟨b, o, aw, cw, e, h1, h2, h3, h4, _⟩ := h.get i hi
    exact ⟨b, o, aw, cw, e, h1, h2, h3, h4⟩⟩
theorem StepsAt.below {w w' : World} {a : Option Addr} {n : Nat} {xs : List Stp} (h : StepsAt w a n xs) (hb : Ext w w') : StepsAt w' a n xs := by
  refine ⟨h.len, fun i hi => ?_⟩
  obtain ⟨b, o, aw, cw, rfl, h1, h2, h3, h4, h5⟩ := h.get i hi
  have hl := World.block_lt_of_cell? w _ h1
  exact ⟨b, o, aw, cw, rfl, (hb.cell (p := ⟨b, o + i * 2, none⟩) hl).trans h1, (hb.cell (p := ⟨b, o + i * 2 + 1, none⟩) hl).trans h2, h3.below hb, h4, h5⟩
theorem StepsAt.way {w : World} {a : Option Addr} {n : Nat} {xs : List Stp} (h : StepsAt w a n xs) (k : Nat) (hk : k < n) :
    ∃ b o aw cw, ∃ W : List Int, ∃ L : Int, a = some ⟨b, o, none⟩ ∧ Hid (wayAt xs k = W) ∧ Hid (lenAt xs k = L) ∧ W.length ≤ 9223372036854775807 ∧ Hid (aw = none → cw = 0) ∧
      ∀ w', Ext w w' → w'.cell? ⟨b, o + k * 2, none⟩ = some (.slice aw W.length cw) ∧ w'.cell? ⟨b, o + k * 2 + 1, none⟩ = some (.int .i64 L) ∧ IntsAt w' aw W.length W := by
  obtain ⟨b, o, aw, cw, e, h1, h2, h3, h4, h5⟩ := h.get k hk
  refine ⟨b, o, aw, cw, wayAt xs k, lenAt xs k, e, rfl, rfl, h4, h5, fun w' hx => ?_⟩
  have hl := World.block_lt_of_cell? w _ h1
  exact ⟨(hx.cell (p := ⟨b, o + k * 2, none⟩) hl).trans h1, (hx.cell (p := ⟨b, o + k * 2 + 1, none⟩) hl).trans h2, h3.below hx⟩
theorem OwnK.stepCell {w : World} {B U : Nat} {a : Option Addr} {n c : Nat} {hs : List Hdr} {xs : List Stp} (h : OwnK stepK w B U a n c hs xs) (k : Nat) (hk : k < n) :
    ∃ g aw cw, a = some ⟨g, 0, none⟩ ∧ hs.getD k (none, 0) = (aw, cw) ∧ w.cell? ⟨g, k * 2, none⟩ = some (.slice aw (wayAt xs k).length cw) ∧ w.cell? ⟨g, k * 2 + 1, none⟩ = some (.int .i64 (lenAt xs k)) ∧
    w.frozen? ⟨g, k * 2, none⟩ = false ∧ w.frozen? ⟨g, k * 2 + 1, none⟩ = false ∧ OwnI w B aw (wayAt xs k).length cw (wayAt xs k) := by
  obtain ⟨g, rfl, hc, hf⟩ := h.cell k 0 hk (by decide)
  obtain ⟨g', e, hc', hf'⟩ := h.cell k 1 hk (by decide)
  simp only [Option.some.injEq, Addr.mk.injEq, and_true] at e
  subst e
  rw [show k * stepK.size + 0 = k * 2 from rfl] at hc hf
  rw [show k * stepK.size + 1 = k * 2 + 1 from rfl] at hc' hf'
  exact ⟨g, (hs.getD k (none, 0)).1, (hs.getD k (none, 0)).2, rfl, rfl, hc, hc', hf, hf', h.each k hk⟩
theorem OwnK.stepsAt {w : World} {B U : Nat} {a : Option Addr} {n c : Nat} {hs : List Hdr} {xs : List Stp} (h : OwnK stepK w B U a n c hs xs) : StepsAt w a n xs := by
  refine ⟨h.xl, fun k hk => ?_⟩
  obtain ⟨g, aw, cw, rfl, _, h1, h2, _, _, h5⟩ := h.stepCell k hk
  exact ⟨g, 0, aw, cw, rfl, by rw [Nat.zero_add]; exact h1, by rw [Nat.zero_add]; exact h2, h5.ints, h5.small, h5.nil_cap⟩
theorem addS_at {xs : List Stp} {m : Nat} (h : xs.length = m + 1) (s : Stp) (hs : s.2 ≠ 0) : addS xs s = if wayAt xs m = s.1 then xs.set m (wayAt xs m, lenAt xs m + s.2) else xs ++ [s] := by
  rcases snoc_cases xs with rfl | ⟨o, l, rfl⟩
  · simp at h
  · obtain rfl : o.length = m := by simpa using h
    rw [addS_snoc _ _ _ hs, wayAt_snoc, lenAt_snoc]
    split
    · simp
    · rfl
theorem addS_first {xs : List Stp} (h : xs.length = 0) (s : Stp) (hs : s.2 ≠ 0) : addS xs s = xs ++ [s] := by
  obtain rfl := List.eq_nil_of_length_eq_zero h
  rw [addS_nil _ hs, List.nil_append]
theorem Tryz.info69 : (Tryz.prog.info? 69).map (fun i => (i.zero, i.size, i.bytes)) = some (some (.agg #[.slice none 0 0, .int .i64 0]), 2, 32) := by kernel_rfl
/-- what is new is apart from all that was -/
theorem OwnK.new_apart {w w' : World} {B U B' : Nat} {a a' : Option Addr} {n c n' c' : Nat} {hs : List Hdr} {xs : List Stp} {ys : List Int} (h : OwnK stepK w B U a n c hs xs) (hi : OwnI w' B' a' n' c' ys) (hB : w.heap.size ≤ B') :
    (∀ i, i < n → Apart (hs.getD i (none, 0)).1 a') ∧ Apart a a' :=
  ⟨fun i hi' b o b' o' e e' => by have := ((h.each i hi').at_base b o e).2; have := (hi.at_base b' o' e').1; omega,
   fun b o b' o' e e' => by have := (h.base_lt b o e).2; have := (hi.at_base b' o' e').1; omega⟩

set_option maxRecDepth 100000 in
set_option maxHeartbeats 4000000 in
theorem l9Add_any (B : Nat) (ao : Option Addr) (m co : Nat) (hs : List Hdr) (xs : List Stp) (aw : Option Addr) (cw : Nat) (W : List Int) (L : Int) (w : World) (ho : OwnK stepK w B w.heap.size ao m co hs xs)
    (hway : IntsAt w aw W.length W) (hnil : aw = none → cw = 0) (hk : W.length ≤ 1000000) (hm : m ≤ 1000000) (hB : B ≤ w.heap.size) (hL0 : 0 ≤ L) (hL1 : L ≤ 1000000000000) (hls : ∀ i, i < m → 0 ≤ lenAt xs i ∧ lenAt xs i ≤ 1000000000000) :
    Calls Tryz.prog 102 #[.slice ao m co, .slice aw W.length cw, .int .i64 L] w fun e w' => ∃ a' n' c' hs', e = .returned (.slice a' n' c') ∧ OwnK stepK w' B w'.heap.size a' n' c' hs' (addS xs (W, L)) ∧ Below B w w' := by
  have HO := hidP ho
  have HWy := hidP hway
  have HN := hidP hnil
  have hxl := ho.xl
  have HB := hidP hB
  clear ho hway hnil hB
  by_cases hL : L = 0
  · subst hL
    have HS := hidP (addS_zero xs (W, 0) rfl)
    clear hxl
    go_enter Tryz.func102, Tryz.ntmps102
    go_wp2
    go_ret
    exact ⟨_, _, _, hs, rfl, by rw [HS.out]; exact HO.out, Below.refl _ _⟩
  · have hL' : (L == 0) = false := by simpa using hL
    have HI := hidP (fun w' (hx : Ext w w') => l1Ints_any aw W.length cw W w' (HWy.out.below hx) HN.out (by omega))
    -- the way behind: the step is new
    have hnew : ∀ (w0 : World), Ext w w0 → addS xs (W, L) = xs ++ [(W, L)] → True := fun _ _ _ => trivial
    clear hnew
    have hLne : (W, L).2 ≠ 0 := hL
    cases m with
    | zero =>
      have HS := hidP (addS_first hxl (W, L) hLne)
      clear hxl hL hLne hls
      go_enter Tryz.func102, Tryz.ntmps102
      go_wp2_with fail
      refine (HI.out _ (Ext.refl _)).mono ?_
      rintro e w1 ⟨a1, c1, rfl, ho1, hx1⟩
      have HX2 := hidP (hx1.trans (Ext.alloc w1 (.cells #[.slice a1 W.length c1, .int .i64 L] 69)))
      have HO2 := hidP (HO.out.below HX2.out)
      have HI2 := hidP ((ho1.below (Ext.alloc w1 (.cells #[.slice a1 W.length c1, .int .i64 L] 69))))
      have HAp := hidP (HO.out.new_apart ho1 (Nat.le_refl _))
      have HCe : Hid (∀ j, j < stepK.size → (w1.alloc (.cells #[.slice a1 W.length c1, .int .i64 L] 69)).cell? ⟨w1.heap.size, j, none⟩ = (stepK.cells a1 c1 (W, L))[j]?) := fun j _ => (cell_top _ _ _ _ _ rfl).trans (by simp [stepK])
      clear ho1 hx1 HI
      go_wp2_with (at_builtin; refine wpList_append_elem2 stepK 28 (.agg #[.slice none 0 0, .int .i64 0]) 32 rfl (.tmp 39) (.tmp 44) rfl Tryz.underlying28 Tryz.info69 rfl (by omega) B _ ao 0 co hs xs rfl HO2.out w1.heap.size 1 (a1, c1) (W, L) rfl HCe.out (HI2.out.base HB.out) HAp.out.1 HAp.out.2 (by omega) (Nat.le_trans HB.out HX2.out.size) ?_; intro a3 c3 w3 ho3 hg3 hn3; have HX3 := hidP (HO2.out.below_grown hg3 (show Below B w _ from Below.mono HX2.out HB.out) (Nat.le_trans HB.out HX2.out.size)); have HO3 := hidP ho3; clear ho3 hg3 hn3)
      go_ret
      exact ⟨_, _, _, _, rfl, by rw [HS.out]; exact HO3.out, HX3.out⟩
    | succ m =>
      have HS := hidP (addS_at hxl (W, L) hLne)
      obtain ⟨g, al, cl, rfl, hh, q1, q2, r1, r2, hol⟩ := HO.out.stepCell m (by omega)
      have hl2 := hls m (by omega)
      have hw64 : (wayAt xs m).length ≤ 9223372036854775807 := hol.small
      have HSame := hidP (l1Same_any al aw _ W.length cl cw _ W w hol.ints HWy.out hw64 (by omega))
      have HSt := hidP (fun w' (h : OwnK stepK w' B w.heap.size (some ⟨g, 0, none⟩) (m + 1) co hs xs) => h.stored m 1 (by omega) (by decide) (.int .i64 (lenAt xs m + L)) (wayAt xs m, lenAt xs m + L) rfl rfl rfl)
      obtain ⟨V, hV⟩ : ∃ V, V = wayAt xs m := ⟨_, rfl⟩
      obtain ⟨M, hM⟩ : ∃ M, M = lenAt xs m := ⟨_, rfl⟩
      rw [← hV, ← hM] at HS HSt
      rw [← hV] at HSame q1 hol hw64
      rw [← hM] at q2 hl2
      have hmi : 0 ≤ (m : Int) := by omega
      have hgB := hidP (HO.out.base_lt g 0 rfl)
      clear hxl hL hLne hls hh hV hM hol
      cases hb : (V == W)
      · rw [hb] at HSame
        have HS2 : Hid (addS xs (W, L) = xs ++ [(W, L)]) := by
          show _ = _
          rw [HS.out, if_neg (by simpa using hb)]
        clear hb HS HSt
        go_enter Tryz.func102, Tryz.ntmps102
        go_wp2_with fail
        refine HSame.out.mono ?_
        rintro e w0 ⟨rfl, q, rfl⟩
        go_wp2_with fail
        refine (HI.out _ (Ext.drewN w q)).mono ?_
        rintro e w1 ⟨a1, c1, rfl, ho1, hx1⟩
        have HX2 := hidP (((Ext.drewN w q).trans hx1).trans (Ext.alloc w1 (.cells #[.slice a1 W.length c1, .int .i64 L] 69)))
        have HO2 := hidP (HO.out.below HX2.out)
        have HI2 := hidP ((ho1.below (Ext.alloc w1 (.cells #[.slice a1 W.length c1, .int .i64 L] 69))))
        have HAp := hidP (HO.out.new_apart ho1 (Nat.le_refl _))
        have HCe : Hid (∀ j, j < stepK.size → (w1.alloc (.cells #[.slice a1 W.length c1, .int .i64 L] 69)).cell? ⟨w1.heap.size, j, none⟩ = (stepK.cells a1 c1 (W, L))[j]?) := fun j _ => (cell_top _ _ _ _ _ rfl).trans (by simp [stepK])
        clear ho1 hx1 HI q1 q2 r1 r2
        go_wp2_with (at_builtin; refine wpList_append_elem2 stepK 28 (.agg #[.slice none 0 0, .int .i64 0]) 32 rfl (.tmp 39) (.tmp 44) rfl Tryz.underlying28 Tryz.info69 rfl (by omega) B _ (some ⟨g, 0, none⟩) (m + 1) co hs xs rfl HO2.out w1.heap.size 1 (a1, c1) (W, L) rfl HCe.out (HI2.out.base HB.out) HAp.out.1 HAp.out.2 (by omega) (Nat.le_trans HB.out HX2.out.size) ?_; intro a3 c3 w3 ho3 hg3 hn3; have HX3 := hidP (HO2.out.below_grown hg3 (show Below B w _ from Below.mono HX2.out HB.out) (Nat.le_trans HB.out HX2.out.size)); have HO3 := hidP ho3; clear ho3 hg3 hn3)
        go_ret
        exact ⟨_, _, _, _, rfl, by rw [HS2.out]; exact HO3.out, HX3.out⟩
      · rw [hb] at HSame
        have HS2 : Hid (addS xs (W, L) = xs.set m (V, M + L)) := by
          show _ = _
          rw [HS.out, if_pos (by simpa using hb)]
        have hwr : IntKind.i64.wrap (M + L) = M + L := wrap_in (by omega) (by omega)
        clear hb HS HI
        go_enter Tryz.func102, Tryz.ntmps102
        go_wp2_with fail
        refine HSame.out.mono ?_
        rintro e w0 ⟨rfl, q, rfl⟩
        go_wp2
        go_ret
        refine ⟨_, _, _, hs, rfl, ?_, ?_⟩
        · rw [HS2.out]
          have := HSt.out _ (HO.out.below (Ext.drewN w q))
          refine OwnK.weaken this (Nat.le_refl _) ?_
          simp [World.setCell]
        · exact Below.setCell (p := ⟨g, m * 2 + 1, none⟩) (Below.mono (Ext.drewN w q) HB.out) hgB.out.1 _
/-! ### l9Join -/
def joinTo (o p : List Stp) (k : Nat) : List Stp := (p.take k).foldl addS o
theorem joinTo_succ (o p : List Stp) {k : Nat} (h : k < p.length) : joinTo o p (k + 1) = addS (joinTo o p k) (wayAt p k, lenAt p k) := by
  unfold joinTo
  rw [List.take_succ_eq_append_getElem h, List.foldl_append]
  simp [wayAt, lenAt, List.getD_eq_getElem?_getD, h]
theorem joinS_to (p : List Stp) : joinS p = joinTo [] p p.length := by
  unfold joinS joinTo
  rw [List.take_length]
theorem addS_length (o : List Stp) (s : Stp) : (addS o s).length ≤ o.length + 1 := by
  by_cases h : s.2 = 0
  · rw [addS_zero _ _ h]; omega
  · rcases snoc_cases o with rfl | ⟨o, l, rfl⟩
    · rw [addS_nil _ h]; simp
    · rw [addS_snoc _ _ _ h]
      split <;> simp
theorem joinTo_length (o p : List Stp) : ∀ k, (joinTo o p k).length ≤ o.length + k
  | 0 => by simp [joinTo]
  | k + 1 => by
    by_cases h : k < p.length
    · rw [joinTo_succ _ _ h]
      have := addS_length (joinTo o p k) (wayAt p k, lenAt p k)
      have := joinTo_length o p k
      omega
    · have : joinTo o p (k + 1) = joinTo o p k := by unfold joinTo; rw [List.take_of_length_le (by omega), List.take_of_length_le (by omega)]
      rw [this]
      have := joinTo_length o p k
      omega
theorem addS_lens {o : List Stp} {s : Stp} {D C : Int} (ho : ∀ i, i < o.length → 0 ≤ lenAt o i ∧ lenAt o i ≤ D) (hs : 0 ≤ s.2 ∧ s.2 ≤ C) (hD : 0 ≤ D) : ∀ i, i < (addS o s).length → 0 ≤ lenAt (addS o s) i ∧ lenAt (addS o s) i ≤ D + C := by
  have hC : 0 ≤ C := by omega
  by_cases h : s.2 = 0
  · rw [addS_zero _ _ h]
    intro i hi
    have := ho i hi
    omega
  · rcases Nat.eq_zero_or_pos o.length with h0 | h0
    · rw [addS_first h0 _ h]
      obtain rfl := List.eq_nil_of_length_eq_zero h0
      intro i hi
      obtain rfl : i = 0 := by simp at hi; omega
      show 0 ≤ s.2 ∧ s.2 ≤ _
      omega
    · obtain ⟨m, hm⟩ : ∃ m, o.length = m + 1 := ⟨o.length - 1, by omega⟩
      rw [addS_at hm _ h]
      intro i hi
      split at hi <;> split
      · rw [List.length_set] at hi
        unfold lenAt
        rw [OwnK.getD_set _ _ _ _ _ (by omega)]
        split
        · have := ho m (by omega)
          show 0 ≤ lenAt o m + s.2 ∧ lenAt o m + s.2 ≤ _
          omega
        · have := ho i hi
          unfold lenAt at this
          omega
      · contradiction
      · contradiction
      · rw [List.length_append, List.length_cons, List.length_nil] at hi
        by_cases hi2 : i < o.length
        · rw [lenAt_app _ _ _ hi2]
          have := ho i hi2
          omega
        · obtain rfl : i = o.length := by omega
          rw [lenAt_snoc]
          omega
theorem joinTo_lens {o p : List Stp} {D C : Int} (ho : ∀ i, i < o.length → 0 ≤ lenAt o i ∧ lenAt o i ≤ D) (hp : ∀ i, i < p.length → 0 ≤ lenAt p i ∧ lenAt p i ≤ C) : ∀ k, k ≤ p.length → 0 ≤ D → 0 ≤ C → ∀ i, i < (joinTo o p k).length → 0 ≤ lenAt (joinTo o p k) i ∧ lenAt (joinTo o p k) i ≤ D + C * k
  | 0, _, _, _ => by simpa [joinTo] using ho
  | k + 1, hk, hD, hC => by
    rw [joinTo_succ _ _ (by omega)]
    have h1 := joinTo_lens ho hp k (by omega) hD hC
    have hCk : 0 ≤ C * k := Int.mul_nonneg hC (by omega)
    intro i hi
    have := addS_lens (s := (wayAt p k, lenAt p k)) (C := C) h1 (hp k (by omega)) (by omega) i hi
    rw [show ((k + 1 : Nat) : Int) = (k : Int) + 1 from rfl, Int.mul_add, Int.mul_one]
    omega

end Go.Proofs.YtfikkfbnlegflaaGreatDoor
