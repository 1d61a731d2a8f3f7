/-
  Paths read by the reference: l1Same, l5Lattice, l9Time, l9Ok, PathOk.
-/
import Derived.Test.YtfikkfbnlegflaaGreatDoorStp
import Derived.Test.YtfikkfbnlegflaaGreatDoorCv
import Derived.Test.YtfikkfbnlegflaaGreatDoorReg
import Derived.Test.YtfikkfbnlegflaaGreatDoorInt
namespace Go.Proofs.YtfikkfbnlegflaaGreatDoor
open Go.RowKit

set_option maxHeartbeats 1000000 in
theorem l1Same_any (a1 a2 : Option Addr) (n1 n2 c1 c2 : Nat) (xs ys : List Int) (w : World) (h1 : IntsAt w a1 n1 xs) (h2 : IntsAt w a2 n2 ys) (hm1 : n1 ≤ 9223372036854775807) (hm2 : n2 ≤ 9223372036854775807) :
    Calls Tryz.prog 128 #[.slice a1 n1 c1, .slice a2 n2 c2] w fun e w' => e = .returned (.bool (xs == ys)) ∧ ∃ m, w' = w.drewN m := by
  obtain ⟨l1, g1⟩ := h1
  obtain ⟨l2, g2⟩ := h2
  have G1 := hidP g1
  have G2 := hidP g2
  have L1 := hidP l1
  have L2 := hidP l2
  clear g1 g2 l1 l2
  by_cases hne : n1 = n2
  · subst hne
    go_enter Tryz.func128, Tryz.ntmps128
    go_wp2
    go_loopw [5] (fun i wr => ∃ k m : Nat, k ≤ n1 ∧ Hid (∀ j, j < k → xs.getD j 0 = ys.getD j 0) ∧ i = .int .i64 k ∧ wr = w.drewN m) (fun i _ => n1 - (intOf i).toNat)
    case atStart => exact ⟨0, 0, Nat.zero_le _, fun j h => by omega, rfl, rfl⟩
    case round =>
      obtain ⟨k, m, hk, HJ, rfl, rfl⟩ := hrel
      by_cases hlt : k < n1
      · obtain ⟨b1, o1, rfl, q1⟩ := G1.out k hlt
        obtain ⟨b2, o2, rfl, q2⟩ := G2.out k hlt
        by_cases hd : xs.getD k 0 = ys.getD k 0
        · have hb : (xs[k]?.getD 0 != ys[k]?.getD 0) = false := by simpa [List.getD_eq_getElem?_getD] using hd
          have HD := hidP hd
          clear hd
          go_wp2
          go_quiet (fail)
          go_wp2
          go_roundw
          case rel =>
            refine ⟨k + 1, m + nq, by omega, fun j hj => ?_, by go_num, by simp⟩
            rcases Nat.lt_succ_iff_lt_or_eq.1 hj with h3 | rfl
            · exact HJ.out j h3
            · exact HD.out
          case measure => simp [intOf]; omega
        · have hb : (xs[k]?.getD 0 != ys[k]?.getD 0) = true := by simpa [List.getD_eq_getElem?_getD] using hd
          have HB : Hid ((xs == ys) = false) := by
            show _ = _
            rw [beq_eq_false_iff_ne]
            exact fun e => hd (by rw [e])
          clear hd
          go_wp2
          go_quiet (fail)
          go_wp2
          go_ret
          exact ⟨ret_bool HB.out.symm, _, by simp only [World.drewN_drewN]; rfl⟩
      · have HB : Hid ((xs == ys) = true) := by
          show _ = _
          rw [beq_iff_eq]
          exact ints_ext (L1.out.trans L2.out.symm) fun j hj => HJ.out j (by have := L1.out; omega)
        go_wp2
        go_ret
        exact ⟨ret_bool HB.out.symm, _, rfl⟩
  · have HB : Hid ((xs == ys) = false) := by
      show _ = _
      rw [beq_eq_false_iff_ne]
      exact fun e => hne (by rw [← L1.out, ← L2.out, e])
    have hb : (((n1 : Nat) : Int) != (n2 : Nat)) = true := bne_iff_ne.2 (by omega)
    clear hne
    go_enter Tryz.func128, Tryz.ntmps128
    go_wp2
    go_ret
    exact ⟨ret_bool HB.out.symm, 0, rfl⟩

def wayIn (x : Int) : Bool := insB x (-1000) 1000
theorem wayB_eq (r : Nat) (w : List Int) : wayB r w = (decide (w.length = r) && w.all wayIn) := by
  unfold wayB
  congr 1
theorem wayB_len {r : Nat} {w : List Int} (h : w.length ≠ r) : wayB r w = false := by simp [wayB_eq, h]
theorem wayB_bad {r : Nat} {w : List Int} (k : Nat) (hk : k < w.length) (h : wayIn (w.getD k 0) = false) : wayB r w = false := by
  rw [wayB_eq, Bool.and_eq_false_iff]
  right
  rw [List.all_eq_false]
  exact ⟨w.getD k 0, by rw [getD_lt _ hk]; exact List.getElem_mem hk, by rw [h]; exact Bool.false_ne_true⟩
theorem wayB_good {r : Nat} {w : List Int} (hl : w.length = r) (h : ∀ k, k < w.length → wayIn (w.getD k 0) = true) : wayB r w = true := by
  rw [wayB_eq, Bool.and_eq_true, List.all_eq_true]
  refine ⟨by simp [hl], fun x hx => ?_⟩
  obtain ⟨k, hk, rfl⟩ := List.mem_iff_getElem.1 hx
  rw [← getD_lt _ hk]
  exact h k hk

set_option maxRecDepth 100000 in
set_option maxHeartbeats 1000000 in
theorem l5Lattice_any (r : Nat) (ta : Option Addr) (tn tc : Nat) (a : Option Addr) (n c : Nat) (xs : List Int) (w : World) (h : IntsAt w a n xs) (hn : n ≤ 9223372036854775807) (hr : r ≤ 1000000) :
    Calls Tryz.prog 75 #[carV r ta tn tc, .slice a n c] w fun e w' => e = .returned (.bool (wayB r xs)) ∧ Ext w w' := by
  have hX := Ext.alloc w (.cells #[.int .i64 r, .slice ta tn tc] 31)
  have G := hidP (h.below hX)
  have HX := hidP hX
  have L := hidP h.len
  obtain ⟨f0, f1⟩ := CarAt.new w _ rfl (r : Int) ta tn tc 31
  clear hX h
  go_enter Tryz.func75, Tryz.ntmps75
  by_cases hnr : n = r
  · have hne : ((n : Int) != (r : Int)) = false := by simp [hnr]
    have HN := hidP hnr
    clear hnr
    go_wp2
    go_loopw [5] (fun i wr => ∃ k : Nat, k ≤ n ∧ Hid (∀ j, j < k → wayIn (xs.getD j 0) = true) ∧ i = .int .i64 k ∧ wr = w.alloc (.cells #[.int .i64 r, .slice ta tn tc] 31)) (fun i _ => n - (intOf i).toNat)
    case atStart => exact ⟨0, Nat.zero_le _, fun j h => by omega, rfl, rfl⟩
    case round =>
      obtain ⟨k, hk, HJ, rfl, rfl⟩ := hrel
      by_cases hlt : k < n
      · obtain ⟨b, o, rfl, q⟩ := G.out.get k hlt
        cases hin : wayIn (xs.getD k 0)
        · have HB := hidP (wayB_bad (r := r) k (by have := L.out; omega) hin)
          have hin' : insB (xs[k]?.getD 0) (-1000) 1000 = false := by simpa [wayIn, List.getD_eq_getElem?_getD] using hin
          clear hin
          go_wp2_with (go_at_call 54; refine (l1In_any _ _ _ _).mono ?_; rintro e w' ⟨rfl, rfl⟩)
          go_ret
          exact ⟨ret_bool HB.out.symm, HX.out⟩
        · have hin' : insB (xs[k]?.getD 0) (-1000) 1000 = true := by simpa [wayIn, List.getD_eq_getElem?_getD] using hin
          have HI := hidP hin
          clear hin
          go_wp2_with (go_at_call 54; refine (l1In_any _ _ _ _).mono ?_; rintro e w' ⟨rfl, rfl⟩)
          go_roundw
          case rel =>
            refine ⟨k + 1, by omega, fun j hj => ?_, by go_num, trivial⟩
            rcases Nat.lt_succ_iff_lt_or_eq.1 hj with h3 | rfl
            · exact HJ.out j h3
            · exact HI.out
          case measure => simp [intOf]; omega
      · have HB := hidP (wayB_good (r := r) (w := xs) (by have := L.out; have := HN.out; omega) (fun j hj => HJ.out j (by have := L.out; omega)))
        go_wp2
        go_ret
        exact ⟨ret_bool HB.out.symm, HX.out⟩
  · have hne : ((n : Int) != (r : Int)) = true := bne_iff_ne.2 (by omega)
    have HB := hidP (wayB_len (r := r) (w := xs) (by have := L.out; omega))
    go_wp2
    go_ret
    exact ⟨ret_bool HB.out.symm, HX.out⟩

theorem timeAt_bounds {p : List Stp} {n : Nat} (h : ∀ k, k < n → 0 ≤ lenAt p k ∧ lenAt p k ≤ 1000000) : ∀ k, k ≤ n → 0 ≤ timeAt p k ∧ timeAt p k ≤ 1000000 * k
  | 0, _ => ⟨Int.le_refl _, Int.le_refl _⟩
  | k + 1, hk => by
    have h1 := timeAt_bounds h k (by omega)
    have h2 := h k (by omega)
    rw [timeAt]
    omega

set_option maxHeartbeats 1000000 in
theorem l9Time_any (a : Option Addr) (n c : Nat) (xs : List Stp) (w : World) (h : TermsAt w a n xs) (hn : n ≤ 1000000) (hb : ∀ k, k < n → 0 ≤ lenAt xs k ∧ lenAt xs k ≤ 1000000) :
    Calls Tryz.prog 129 #[.slice a n c] w fun e w' => e = .returned (.int .i64 (timeAt xs n)) ∧ w' = w := by
  have G := hidP h
  have HB := hidP (timeAt_bounds hb)
  have HD := hidP hb
  clear h hb
  go_enter Tryz.func129, Tryz.ntmps129
  go_wp2
  go_loopw [3, 4] (fun t i wr => ∃ k : Nat, k ≤ n ∧ t = .int .i64 (timeAt xs k) ∧ i = .int .i64 k ∧ wr = w) (fun _ i _ => n - (intOf i).toNat)
  case atStart => exact ⟨0, Nat.zero_le _, rfl, rfl, rfl⟩
  case round =>
    obtain ⟨k, hk, rfl, rfl, rfl⟩ := hrel
    by_cases hlt : k < n
    · obtain ⟨b, o, aw, cw, rfl, q1, q2, _, _⟩ := G.out.get k hlt
      have hT : Hid (timeAt xs (k + 1) = timeAt xs k + lenAt xs k) := rfl
      have hb1 := HB.out k hk
      have hb2 := HD.out k hlt
      obtain ⟨T, hT0⟩ : ∃ T, T = timeAt xs k := ⟨_, rfl⟩
      have HLe : Hid ((xs.getD k ([], 0)).2 = lenAt xs k) := rfl
      rw [HLe.out] at q2
      rw [← hT0] at hb1 hT ⊢
      clear hT0
      generalize lenAt xs k = L at hb2 q2 hT
      go_wp2
      go_roundw
      case rel => exact ⟨k + 1, by omega, by rw [hT.out], by go_num, trivial⟩
      case measure => simp [intOf]; omega
    · obtain rfl : k = n := by omega
      go_wp2
      go_ret
      exact ⟨rfl, rfl⟩

/-- one step of a path that is read -/
theorem TermsAt.way {w : World} {a : Option Addr} {n : Nat} {xs : List Stp} (h : TermsAt w a n xs) (k : Nat) (hk : k < n) :
    ∃ b o aw cw, ∃ W : List Int, ∃ L : Int, a = some ⟨b, o, none⟩ ∧ Hid (wayAt xs k = W) ∧ Hid (lenAt xs k = L) ∧ W.length ≤ 9223372036854775807 ∧ ∀ w', Ext w w' → w'.cell? ⟨b, o + k * 2, none⟩ = some (.slice aw W.length cw) ∧ w'.cell? ⟨b, o + k * 2 + 1, none⟩ = some (.int .i64 L) ∧ IntsAt w' aw W.length W := by
  obtain ⟨b, o, _, _, rfl, _⟩ := h.get k hk
  obtain ⟨aw, cw, h1, h2⟩ := h.keeps k hk
  exact ⟨b, o, aw, cw, wayAt xs k, lenAt xs k, rfl, rfl, rfl, h1, h2⟩
theorem pathB_long {r : Nat} {p : List Stp} (h : ¬ p.length ≤ 60) : pathB r p = false := by simp [pathB, h]
theorem pathB_bad {r : Nat} {p : List Stp} (k : Nat) (hk : k < p.length) (h : stepB r p k = false) : pathB r p = false := by
  have : (List.range p.length).all (stepB r p) = false := by
    rw [List.all_eq_false]
    exact ⟨k, List.mem_range.2 hk, by simp [h]⟩
  simp [pathB, this]
theorem pathB_end {r : Nat} {p : List Stp} {n : Nat} (hn : p.length = n) (h60 : n ≤ 60) (h : ∀ j, j < n → stepB r p j = true) : pathB r p = (decide (timeAt p n % 27720 = 0) && decide (timeAt p n ≤ 83160)) := by
  subst hn
  have : (List.range p.length).all (stepB r p) = true := by
    rw [List.all_eq_true]
    exact fun j hj => h j (List.mem_range.1 hj)
  unfold pathB
  rw [this, decide_eq_true h60, Bool.true_and, Bool.true_and]
theorem stepB_len {r : Nat} {p : List Stp} {k : Nat} (h : stepB r p k = true) : 0 ≤ lenAt p k ∧ lenAt p k ≤ 1000000 := by
  simp only [stepB, Bool.and_eq_true, decide_eq_true_eq] at h
  omega
theorem stepB_way {r : Nat} {p : List Stp} {k : Nat} (h : stepB r p k = true) : (wayAt p k).length = r := by
  simp only [stepB, Bool.and_eq_true] at h
  exact (wayB_iff.1 h.1).1

set_option maxRecDepth 100000 in
set_option maxHeartbeats 4000000 in
theorem l9Ok_any (r : Nat) (ta : Option Addr) (tn tc : Nat) (a : Option Addr) (n c : Nat) (xs : List Stp) (w : World) (h : TermsAt w a n xs) (hn : n ≤ 9223372036854775807) (hr : r ≤ 1000000) :
    Calls Tryz.prog 93 #[carV r ta tn tc, .slice a n c] w fun e w' => e = .returned (.bool (pathB r xs)) ∧ Ext w w' := by
  have hx1 := Ext.alloc w (.cells #[.int .i64 r, .slice ta tn tc] 31)
  have G := hidP (h.below hx1)
  have L0 := hidP h.len
  have HC := hidP (fun w' (hx : Ext (w.alloc (.cells #[.int .i64 r, .slice ta tn tc] 31)) w') => (CarAt.new w _ rfl (r : Int) ta tn tc 31).below hx)
  have HX1 := hidP hx1
  clear h hx1
  go_enter Tryz.func93, Tryz.ntmps93
  by_cases h60 : n ≤ 60
  · have h60' : ¬ (60 < (n : Int)) := by omega
    go_wp2
    obtain ⟨w1, hw1⟩ : ∃ w1, w1 = w.alloc (.cells #[.int .i64 r, .slice ta tn tc] 31) := ⟨_, rfl⟩
    rw [← hw1] at G HC HX1 ⊢
    clear hw1
    have hst : Hid (Ext w1 w1) := hidP (Ext.refl w1)
    go_loopw [5] (fun i wr => ∃ k : Nat, k ≤ n ∧ Hid (∀ j, j < k → stepB r xs j = true) ∧ i = .int .i64 k ∧ Hid (Ext w1 wr)) (fun i _ => n - (intOf i).toNat)
    case atStart => exact ⟨0, Nat.zero_le _, fun j h => by omega, rfl, hst⟩
    case round =>
      clear hst
      obtain ⟨k, hk, HJ, rfl, HX⟩ := hrel
      by_cases hlt : k < n
      · obtain ⟨b, o, aw, cw, W, L, rfl, HW, HL, hwl, hq⟩ := (G.out.below HX.out).way k hlt
        have HQ := hidP hq
        clear hq
        have HCr := hidP (fun w' (hx : Ext wr w') => HC.out w' (HX.out.trans hx))
        have HLat := hidP (fun w' (hx : Ext wr w') => l5Lattice_any r ta tn tc aw W.length cw W w' (HQ.out w' hx).2.2 hwl hr)
        have HSB : Hid (stepB r xs k = (wayB r W && (insB L 1 83160 && (decide (k = 0) || wayAt xs (k - 1) != W)))) := by
          show _ = _
          unfold stepB
          rw [HW.out, HL.out]
          rfl
        cases hA : wayB r W
        · rw [hA] at HLat HSB
          have HB := hidP (pathB_bad (r := r) k (by have := L0.out; omega) HSB.out)
          clear hA
          go_wp2
          have hE : Ext wr wr.drew := Ext.drew wr
          (refine walkR_start (fun w' => Ext wr w') 34 (by kernel_rfl) ?_; simp only [numbered, List.take_succ_cons, List.take_zero, Nat.zero_add, Nat.reduceAdd, List.length_cons, List.length_nil])
          (repeat (first | (refine walkR_still (v := ?_) rfl (by decide +kernel) rfl (fun _ _ _ h => h) hE ?_ ?_; rotate_left; (focus (intro w' hw'; obtain ⟨f0, f1⟩ := HCr.out w' hw'; obtain ⟨q1, q2, _⟩ := HQ.out w' hw'; go_simp; all_goals (with_reducible rfl))); simp only [Act.put, List.setIfInBounds_toArray, List.set_cons_zero, List.set_cons_succ]) | (refine walkR_skip rfl (by decide +kernel) rfl (fun _ _ _ h => h) hE ?_; simp only [Act.put, List.setIfInBounds_toArray, List.set_cons_zero, List.set_cons_succ])))
          (refine walkR_only (fun w' => Ext wr w') rfl (by decide +kernel) rfl (fun _ h => h) ?_; intro K hK; go_simp; refine (HLat.out _ hE).mono ?_; rintro e w2 ⟨rfl, hx2⟩; refine hK _ _ (hE.trans hx2) ?_; clear hK K; (try simp only [Act.put, List.setIfInBounds_toArray, List.set_cons_zero, List.set_cons_succ]))
          have hE2 := hE.trans hx2
          (repeat (first | (refine walkR_still (v := ?_) rfl (by decide +kernel) rfl (fun _ _ _ h => h) hE2 ?_ ?_; rotate_left; (focus (intro w' hw'; obtain ⟨f0, f1⟩ := HCr.out w' hw'; obtain ⟨q1, q2, _⟩ := HQ.out w' hw'; go_simp; all_goals (with_reducible rfl))); simp only [Act.put, List.setIfInBounds_toArray, List.set_cons_zero, List.set_cons_succ]) | (refine walkR_skip rfl (by decide +kernel) rfl (fun _ _ _ h => h) hE2 ?_; simp only [Act.put, List.setIfInBounds_toArray, List.set_cons_zero, List.set_cons_succ])))
          (refine walkR_tail (by rfl) (by kernel_rfl) ?_; simp only [List.drop_succ_cons, List.drop_zero])
          go_wp2
          go_ret
          exact ⟨ret_bool HB.out.symm, HX1.out.trans (HX.out.trans hE2)⟩
        · rw [hA] at HLat HSB
          cases hI : insB L 1 83160
          · rw [hI] at HSB
            have HB := hidP (pathB_bad (r := r) k (by have := L0.out; omega) HSB.out)
            clear hA
            go_wp2
            have hE : Ext wr wr.drew := Ext.drew wr
            (refine walkR_start (fun w' => Ext wr w') 34 (by kernel_rfl) ?_; simp only [numbered, List.take_succ_cons, List.take_zero, Nat.zero_add, Nat.reduceAdd, List.length_cons, List.length_nil])
            (repeat (first | (refine walkR_still (v := ?_) rfl (by decide +kernel) rfl (fun _ _ _ h => h) hE ?_ ?_; rotate_left; (focus (intro w' hw'; obtain ⟨f0, f1⟩ := HCr.out w' hw'; obtain ⟨q1, q2, _⟩ := HQ.out w' hw'; go_simp; all_goals (with_reducible rfl))); simp only [Act.put, List.setIfInBounds_toArray, List.set_cons_zero, List.set_cons_succ]) | (refine walkR_skip rfl (by decide +kernel) rfl (fun _ _ _ h => h) hE ?_; simp only [Act.put, List.setIfInBounds_toArray, List.set_cons_zero, List.set_cons_succ])))
            (refine walkR_only (fun w' => Ext wr w') rfl (by decide +kernel) rfl (fun _ h => h) ?_; intro K hK; go_simp; refine (HLat.out _ hE).mono ?_; rintro e w2 ⟨rfl, hx2⟩; refine hK _ _ (hE.trans hx2) ?_; clear hK K; (try simp only [Act.put, List.setIfInBounds_toArray, List.set_cons_zero, List.set_cons_succ]))
            have hE2 := hE.trans hx2
            (repeat (first | (refine walkR_still (v := ?_) rfl (by decide +kernel) rfl (fun _ _ _ h => h) hE2 ?_ ?_; rotate_left; (focus (intro w' hw'; obtain ⟨f0, f1⟩ := HCr.out w' hw'; obtain ⟨q1, q2, _⟩ := HQ.out w' hw'; go_simp; all_goals (with_reducible rfl))); simp only [Act.put, List.setIfInBounds_toArray, List.set_cons_zero, List.set_cons_succ]) | (refine walkR_skip rfl (by decide +kernel) rfl (fun _ _ _ h => h) hE2 ?_; simp only [Act.put, List.setIfInBounds_toArray, List.set_cons_zero, List.set_cons_succ])))
            (refine walkR_only (fun w' => Ext wr w') rfl (by decide +kernel) rfl (fun _ h => h) ?_; intro K hK; go_simp; refine (l1In_any _ _ _ _).mono ?_; rintro e w3 ⟨rfl, rfl⟩; refine hK _ _ (hE2) ?_; clear hK K; (try simp only [Act.put, List.setIfInBounds_toArray, List.set_cons_zero, List.set_cons_succ]))
            (repeat (first | (refine walkR_still (v := ?_) rfl (by decide +kernel) rfl (fun _ _ _ h => h) hE2 ?_ ?_; rotate_left; (focus (intro w' hw'; obtain ⟨f0, f1⟩ := HCr.out w' hw'; obtain ⟨q1, q2, _⟩ := HQ.out w' hw'; go_simp; all_goals (with_reducible rfl))); simp only [Act.put, List.setIfInBounds_toArray, List.set_cons_zero, List.set_cons_succ]) | (refine walkR_skip rfl (by decide +kernel) rfl (fun _ _ _ h => h) hE2 ?_; simp only [Act.put, List.setIfInBounds_toArray, List.set_cons_zero, List.set_cons_succ])))
            (refine walkR_tail (by rfl) (by kernel_rfl) ?_; simp only [List.drop_succ_cons, List.drop_zero])
            go_wp2
            go_ret
            exact ⟨ret_bool HB.out.symm, HX1.out.trans (HX.out.trans hE2)⟩
          · rw [hI] at HSB
            clear hA
            cases k with
            | zero =>
              have HT : Hid (stepB r xs 0 = true) := HSB.out
              have HQ := hidP (by simpa only [Nat.zero_mul, Nat.add_zero] using HQ.out)
              go_wp2
              have hE : Ext wr wr.drew := Ext.drew wr
              (refine walkR_start (fun w' => Ext wr w') 34 (by kernel_rfl) ?_; simp only [numbered, List.take_succ_cons, List.take_zero, Nat.zero_add, Nat.reduceAdd, List.length_cons, List.length_nil])
              (repeat (first | (refine walkR_still (v := ?_) rfl (by decide +kernel) rfl (fun _ _ _ h => h) hE ?_ ?_; rotate_left; (focus (intro w' hw'; obtain ⟨f0, f1⟩ := HCr.out w' hw'; obtain ⟨q1, q2, _⟩ := HQ.out w' hw'; go_simp; all_goals (with_reducible rfl))); simp only [Act.put, List.setIfInBounds_toArray, List.set_cons_zero, List.set_cons_succ]) | (refine walkR_skip rfl (by decide +kernel) rfl (fun _ _ _ h => h) hE ?_; simp only [Act.put, List.setIfInBounds_toArray, List.set_cons_zero, List.set_cons_succ])))
              (refine walkR_only (fun w' => Ext wr w') rfl (by decide +kernel) rfl (fun _ h => h) ?_; intro K hK; go_simp; refine (HLat.out _ hE).mono ?_; rintro e w2 ⟨rfl, hx2⟩; refine hK _ _ (hE.trans hx2) ?_; clear hK K; (try simp only [Act.put, List.setIfInBounds_toArray, List.set_cons_zero, List.set_cons_succ]))
              have hE2 := hE.trans hx2
              (repeat (first | (refine walkR_still (v := ?_) rfl (by decide +kernel) rfl (fun _ _ _ h => h) hE2 ?_ ?_; rotate_left; (focus (intro w' hw'; obtain ⟨f0, f1⟩ := HCr.out w' hw'; obtain ⟨q1, q2, _⟩ := HQ.out w' hw'; go_simp; all_goals (with_reducible rfl))); simp only [Act.put, List.setIfInBounds_toArray, List.set_cons_zero, List.set_cons_succ]) | (refine walkR_skip rfl (by decide +kernel) rfl (fun _ _ _ h => h) hE2 ?_; simp only [Act.put, List.setIfInBounds_toArray, List.set_cons_zero, List.set_cons_succ])))
              (refine walkR_only (fun w' => Ext wr w') rfl (by decide +kernel) rfl (fun _ h => h) ?_; intro K hK; go_simp; refine (l1In_any _ _ _ _).mono ?_; rintro e w3 ⟨rfl, rfl⟩; refine hK _ _ (hE2) ?_; clear hK K; (try simp only [Act.put, List.setIfInBounds_toArray, List.set_cons_zero, List.set_cons_succ]))
              (repeat (first | (refine walkR_still (v := ?_) rfl (by decide +kernel) rfl (fun _ _ _ h => h) hE2 ?_ ?_; rotate_left; (focus (intro w' hw'; obtain ⟨f0, f1⟩ := HCr.out w' hw'; obtain ⟨q1, q2, _⟩ := HQ.out w' hw'; go_simp; all_goals (with_reducible rfl))); simp only [Act.put, List.setIfInBounds_toArray, List.set_cons_zero, List.set_cons_succ]) | (refine walkR_skip rfl (by decide +kernel) rfl (fun _ _ _ h => h) hE2 ?_; simp only [Act.put, List.setIfInBounds_toArray, List.set_cons_zero, List.set_cons_succ])))
              (refine walkR_tail (by rfl) (by kernel_rfl) ?_; simp only [List.drop_succ_cons, List.drop_zero])
              go_wp2
              go_roundw
              case rel =>
                refine ⟨1, by omega, fun j hj => ?_, by go_num, HX.out.trans hE2⟩
                obtain rfl : j = 0 := by omega
                exact HT.out
              case measure => simp [intOf]; omega
            | succ k =>
              have hk0 : (0 : Int) ≤ (k : Int) + 1 := by omega
              have hk1 : (0 : Int) < (k : Int) + 1 := by omega
              have hk2 : (k : Int) + 1 < n := by omega
              have hk3 : (k : Int) < n := by omega
              have hk4 : IntKind.i64.wrap (k : Int) = k := wrap_in (by omega) (by omega)
              obtain ⟨b', o', aV, cV, V, M, e', HV, _, hvl, hq⟩ := (G.out.below HX.out).way k (by omega)
              simp only [Option.some.injEq, Addr.mk.injEq, and_true] at e'
              obtain ⟨rfl, rfl⟩ := e'
              have HP := hidP hq
              clear hq
              have HSame := hidP (fun w' (hx : Ext wr w') => l1Same_any aV aw V.length W.length cV cw V W w' (HP.out w' hx).2.2 (HQ.out w' hx).2.2 hvl hwl)
              rw [show k + 1 - 1 = k from rfl, HV.out] at HSB
              cases hV : (V == W)
              · rw [hV] at HSame
                have HT : Hid (stepB r xs (k + 1) = true) := by
                  show _ = _
                  rw [HSB.out]
                  simp [bne, hV]
                clear hV HSB
                go_wp2
                have hE : Ext wr wr.drew := Ext.drew wr
                (refine walkR_start (fun w' => Ext wr w') 34 (by kernel_rfl) ?_; simp only [numbered, List.take_succ_cons, List.take_zero, Nat.zero_add, Nat.reduceAdd, List.length_cons, List.length_nil])
                (repeat (first | (refine walkR_still (v := ?_) rfl (by decide +kernel) rfl (fun _ _ _ h => h) hE ?_ ?_; rotate_left; (focus (intro w' hw'; obtain ⟨f0, f1⟩ := HCr.out w' hw'; obtain ⟨q1, q2, _⟩ := HQ.out w' hw'; obtain ⟨y1, y2, _⟩ := HP.out w' hw'; go_simp; all_goals (with_reducible rfl))); simp only [Act.put, List.setIfInBounds_toArray, List.set_cons_zero, List.set_cons_succ]) | (refine walkR_skip rfl (by decide +kernel) rfl (fun _ _ _ h => h) hE ?_; simp only [Act.put, List.setIfInBounds_toArray, List.set_cons_zero, List.set_cons_succ])))
                (refine walkR_only (fun w' => Ext wr w') rfl (by decide +kernel) rfl (fun _ h => h) ?_; intro K hK; go_simp; refine (HLat.out _ hE).mono ?_; rintro e w2 ⟨rfl, hx2⟩; refine hK _ _ (hE.trans hx2) ?_; clear hK K; (try simp only [Act.put, List.setIfInBounds_toArray, List.set_cons_zero, List.set_cons_succ]))
                have hE2 := hE.trans hx2
                (repeat (first | (refine walkR_still (v := ?_) rfl (by decide +kernel) rfl (fun _ _ _ h => h) hE2 ?_ ?_; rotate_left; (focus (intro w' hw'; obtain ⟨f0, f1⟩ := HCr.out w' hw'; obtain ⟨q1, q2, _⟩ := HQ.out w' hw'; obtain ⟨y1, y2, _⟩ := HP.out w' hw'; go_simp; all_goals (with_reducible rfl))); simp only [Act.put, List.setIfInBounds_toArray, List.set_cons_zero, List.set_cons_succ]) | (refine walkR_skip rfl (by decide +kernel) rfl (fun _ _ _ h => h) hE2 ?_; simp only [Act.put, List.setIfInBounds_toArray, List.set_cons_zero, List.set_cons_succ])))
                (refine walkR_only (fun w' => Ext wr w') rfl (by decide +kernel) rfl (fun _ h => h) ?_; intro K hK; go_simp; refine (l1In_any _ _ _ _).mono ?_; rintro e w3 ⟨rfl, rfl⟩; refine hK _ _ (hE2) ?_; clear hK K; (try simp only [Act.put, List.setIfInBounds_toArray, List.set_cons_zero, List.set_cons_succ]))
                (repeat (first | (refine walkR_still (v := ?_) rfl (by decide +kernel) rfl (fun _ _ _ h => h) hE2 ?_ ?_; rotate_left; (focus (intro w' hw'; obtain ⟨f0, f1⟩ := HCr.out w' hw'; obtain ⟨q1, q2, _⟩ := HQ.out w' hw'; obtain ⟨y1, y2, _⟩ := HP.out w' hw'; go_simp; all_goals (with_reducible rfl))); simp only [Act.put, List.setIfInBounds_toArray, List.set_cons_zero, List.set_cons_succ]) | (refine walkR_skip rfl (by decide +kernel) rfl (fun _ _ _ h => h) hE2 ?_; simp only [Act.put, List.setIfInBounds_toArray, List.set_cons_zero, List.set_cons_succ])))
                (refine walkR_only (fun w' => Ext wr w') rfl (by decide +kernel) rfl (fun _ h => h) ?_; intro K hK; go_simp; refine (HSame.out _ hE2).mono ?_; rintro e w4 ⟨rfl, m, rfl⟩; refine hK _ _ (hE2.trans (Ext.drewN _ _)) ?_; clear hK K; (try simp only [Act.put, List.setIfInBounds_toArray, List.set_cons_zero, List.set_cons_succ]))
                have hE3 := hE2.trans (Ext.drewN _ m)
                (repeat (first | (refine walkR_still (v := ?_) rfl (by decide +kernel) rfl (fun _ _ _ h => h) hE3 ?_ ?_; rotate_left; (focus (intro w' hw'; obtain ⟨f0, f1⟩ := HCr.out w' hw'; obtain ⟨q1, q2, _⟩ := HQ.out w' hw'; obtain ⟨y1, y2, _⟩ := HP.out w' hw'; go_simp; all_goals (with_reducible rfl))); simp only [Act.put, List.setIfInBounds_toArray, List.set_cons_zero, List.set_cons_succ]) | (refine walkR_skip rfl (by decide +kernel) rfl (fun _ _ _ h => h) hE3 ?_; simp only [Act.put, List.setIfInBounds_toArray, List.set_cons_zero, List.set_cons_succ])))
                (refine walkR_tail (by rfl) (by kernel_rfl) ?_; simp only [List.drop_succ_cons, List.drop_zero])
                go_wp2
                go_roundw
                case rel =>
                  refine ⟨k + 1 + 1, by omega, fun j hj => ?_, by go_num, HX.out.trans hE3⟩
                  rcases Nat.lt_succ_iff_lt_or_eq.1 hj with h3 | rfl
                  · exact HJ.out j h3
                  · exact HT.out
                case measure => simp [intOf]; omega
              · rw [hV] at HSame
                have HB := hidP (pathB_bad (r := r) (p := xs) (k + 1) (by have := L0.out; omega) (by rw [HSB.out]; simp [bne, hV]))
                clear hV HSB
                go_wp2
                have hE : Ext wr wr.drew := Ext.drew wr
                (refine walkR_start (fun w' => Ext wr w') 34 (by kernel_rfl) ?_; simp only [numbered, List.take_succ_cons, List.take_zero, Nat.zero_add, Nat.reduceAdd, List.length_cons, List.length_nil])
                (repeat (first | (refine walkR_still (v := ?_) rfl (by decide +kernel) rfl (fun _ _ _ h => h) hE ?_ ?_; rotate_left; (focus (intro w' hw'; obtain ⟨f0, f1⟩ := HCr.out w' hw'; obtain ⟨q1, q2, _⟩ := HQ.out w' hw'; obtain ⟨y1, y2, _⟩ := HP.out w' hw'; go_simp; all_goals (with_reducible rfl))); simp only [Act.put, List.setIfInBounds_toArray, List.set_cons_zero, List.set_cons_succ]) | (refine walkR_skip rfl (by decide +kernel) rfl (fun _ _ _ h => h) hE ?_; simp only [Act.put, List.setIfInBounds_toArray, List.set_cons_zero, List.set_cons_succ])))
                (refine walkR_only (fun w' => Ext wr w') rfl (by decide +kernel) rfl (fun _ h => h) ?_; intro K hK; go_simp; refine (HLat.out _ hE).mono ?_; rintro e w2 ⟨rfl, hx2⟩; refine hK _ _ (hE.trans hx2) ?_; clear hK K; (try simp only [Act.put, List.setIfInBounds_toArray, List.set_cons_zero, List.set_cons_succ]))
                have hE2 := hE.trans hx2
                (repeat (first | (refine walkR_still (v := ?_) rfl (by decide +kernel) rfl (fun _ _ _ h => h) hE2 ?_ ?_; rotate_left; (focus (intro w' hw'; obtain ⟨f0, f1⟩ := HCr.out w' hw'; obtain ⟨q1, q2, _⟩ := HQ.out w' hw'; obtain ⟨y1, y2, _⟩ := HP.out w' hw'; go_simp; all_goals (with_reducible rfl))); simp only [Act.put, List.setIfInBounds_toArray, List.set_cons_zero, List.set_cons_succ]) | (refine walkR_skip rfl (by decide +kernel) rfl (fun _ _ _ h => h) hE2 ?_; simp only [Act.put, List.setIfInBounds_toArray, List.set_cons_zero, List.set_cons_succ])))
                (refine walkR_only (fun w' => Ext wr w') rfl (by decide +kernel) rfl (fun _ h => h) ?_; intro K hK; go_simp; refine (l1In_any _ _ _ _).mono ?_; rintro e w3 ⟨rfl, rfl⟩; refine hK _ _ (hE2) ?_; clear hK K; (try simp only [Act.put, List.setIfInBounds_toArray, List.set_cons_zero, List.set_cons_succ]))
                (repeat (first | (refine walkR_still (v := ?_) rfl (by decide +kernel) rfl (fun _ _ _ h => h) hE2 ?_ ?_; rotate_left; (focus (intro w' hw'; obtain ⟨f0, f1⟩ := HCr.out w' hw'; obtain ⟨q1, q2, _⟩ := HQ.out w' hw'; obtain ⟨y1, y2, _⟩ := HP.out w' hw'; go_simp; all_goals (with_reducible rfl))); simp only [Act.put, List.setIfInBounds_toArray, List.set_cons_zero, List.set_cons_succ]) | (refine walkR_skip rfl (by decide +kernel) rfl (fun _ _ _ h => h) hE2 ?_; simp only [Act.put, List.setIfInBounds_toArray, List.set_cons_zero, List.set_cons_succ])))
                (refine walkR_only (fun w' => Ext wr w') rfl (by decide +kernel) rfl (fun _ h => h) ?_; intro K hK; go_simp; refine (HSame.out _ hE2).mono ?_; rintro e w4 ⟨rfl, m, rfl⟩; refine hK _ _ (hE2.trans (Ext.drewN _ _)) ?_; clear hK K; (try simp only [Act.put, List.setIfInBounds_toArray, List.set_cons_zero, List.set_cons_succ]))
                have hE3 := hE2.trans (Ext.drewN _ m)
                (repeat (first | (refine walkR_still (v := ?_) rfl (by decide +kernel) rfl (fun _ _ _ h => h) hE3 ?_ ?_; rotate_left; (focus (intro w' hw'; obtain ⟨f0, f1⟩ := HCr.out w' hw'; obtain ⟨q1, q2, _⟩ := HQ.out w' hw'; obtain ⟨y1, y2, _⟩ := HP.out w' hw'; go_simp; all_goals (with_reducible rfl))); simp only [Act.put, List.setIfInBounds_toArray, List.set_cons_zero, List.set_cons_succ]) | (refine walkR_skip rfl (by decide +kernel) rfl (fun _ _ _ h => h) hE3 ?_; simp only [Act.put, List.setIfInBounds_toArray, List.set_cons_zero, List.set_cons_succ])))
                (refine walkR_tail (by rfl) (by kernel_rfl) ?_; simp only [List.drop_succ_cons, List.drop_zero])
                go_wp2
                go_ret
                exact ⟨ret_bool HB.out.symm, HX1.out.trans (HX.out.trans hE3)⟩
      · obtain rfl : k = n := by omega
        have HE := hidP (pathB_end (r := r) (L0.out) h60 HJ.out)
        have HTm := hidP (l9Time_any a k c xs wr (G.out.below HX.out) (by omega) (fun j hj => stepB_len (HJ.out j hj)))
        have hbd := (timeAt_bounds (p := xs) (n := k) (fun j hj => stepB_len (HJ.out j hj)) k (Nat.le_refl k))
        obtain ⟨T, hT⟩ : ∃ T, T = timeAt xs k := ⟨_, rfl⟩
        rw [← hT] at HE HTm hbd
        have htm : Int.tmod T 27720 = T % 27720 := Int.tmod_eq_emod_of_nonneg hbd.1
        clear hT
        by_cases hz : T % 27720 = 0
        · have HR : Hid (pathB r xs = decide (T ≤ 83160)) := by show _ = _; rw [HE.out]; simp [hz]
          go_wp2_with (refine HTm.out.mono ?_; rintro e w' ⟨rfl, rfl⟩)
          go_ret
          exact ⟨ret_bool HR.out.symm, HX1.out.trans HX.out⟩
        · have HR : Hid (pathB r xs = false) := by show _ = _; rw [HE.out]; simp [hz]
          have hz' : (T % 27720 == 0) = false := by simpa using hz
          go_wp2_with (refine HTm.out.mono ?_; rintro e w' ⟨rfl, rfl⟩)
          go_ret
          exact ⟨ret_bool HR.out.symm, HX1.out.trans HX.out⟩
  · have HB := hidP (pathB_long (r := r) (p := xs) (by have := L0.out; omega))
    have h60' : 60 < (n : Int) := by omega
    go_wp2
    go_ret
    exact ⟨ret_bool HB.out.symm, HX1.out⟩
end Go.Proofs.YtfikkfbnlegflaaGreatDoor
