/-
  The law's own functions on slices of steps: their size, equality.
-/
import Derived.Test.YtdbpbnajegoffaaDoorInS
import Derived.Test.YtdbpbnajegoffaaDoorTermD
import Derived.Test.YtdbpbnajegoffaaDoorReg
namespace Go.Proofs.YtdbpbnajegoffaaDoor
open Go.RowKit

/-- how many numbers the first k elements hold -/
def mkAt (us : List (List Int × Int)) : Nat → Nat
  | 0 => 0
  | k + 1 => mkAt us k + ((us.getD k ([], 0)).1.length + 1)
/-- what a bound on the size leaves: -1, or the bound less what the elements hold -/
def SzOk (us : List (List Int × Int)) (n : Nat) (left v : Int) : Prop := v = -1 ∨ (0 ≤ v ∧ v = left - mkAt us n)
def SzRes (us : List (List Int × Int)) (n : Nat) (left : Int) (w : World) (e : Ending) (w' : World) : Prop := ∃ v, SzOk us n left v ∧ e = .returned (.int .i64 v) ∧ Ext w w'
theorem mkAt_mono (us : List (List Int × Int)) : ∀ (d k : Nat), mkAt us k ≤ mkAt us (k + d)
  | 0, k => Nat.le_refl _
  | d + 1, k => Nat.le_trans (mkAt_mono us d k) (by show _ ≤ mkAt us (k + d) + _; omega)
theorem mkAt_le (us : List (List Int × Int)) {j k : Nat} (h : j ≤ k) : mkAt us j ≤ mkAt us k := by
  have := mkAt_mono us (k - j) j
  rwa [show j + (k - j) = k by omega] at this
theorem mkAt_one (us : List (List Int × Int)) {j n : Nat} (h : j < n) : (us.getD j ([], 0)).1.length ≤ mkAt us n := by
  have h1 := mkAt_le us (show j + 1 ≤ n by omega)
  have h2 : mkAt us (j + 1) = mkAt us j + ((us.getD j ([], 0)).1.length + 1) := rfl
  omega
theorem mkAt_len (us : List (List Int × Int)) : ∀ n, n ≤ mkAt us n
  | 0 => Nat.le_refl _
  | n + 1 => by have := mkAt_len us n; show _ ≤ mkAt us n + _; omega

theorem szStep_any (a : Option Addr) (n c : Nat) (m left : Int) (w : World) (hn : n ≤ 9223372036854775807) (h0 : 0 ≤ left) (h1 : left ≤ 1048576) :
    Calls Tryd.prog 41 #[.agg #[.slice a n c, .int .i64 m], .int .i64 left] w fun e w' => e = .returned (.int .i64 (szLeft n left)) ∧ Ext w w' := by
  have HQ := hidP (fun w' => szIntS_any a n c left w' hn h0 h1)
  by_cases hle : (n : Int) ≤ left
  · have HE : Hid (szLeft n left = left - n) := if_pos hle
    rw [HE.out] at HQ ⊢
    go_enter Tryd.func41, Tryd.ntmps41
    go_wp2_with (go_at_call 40; refine (HQ.out _).mono ?_; rintro e w' ⟨rfl, rfl⟩)
    go_ret
    exact ⟨rfl, Ext.alloc _ _⟩
  · have HE : Hid (szLeft n left = -1) := if_neg hle
    rw [HE.out] at HQ ⊢
    go_enter Tryd.func41, Tryd.ntmps41
    go_wp2_with (go_at_call 40; refine (HQ.out _).mono ?_; rintro e w' ⟨rfl, rfl⟩)
    go_ret
    exact ⟨rfl, Ext.alloc _ _⟩
set_option maxHeartbeats 1000000 in
theorem szStepS_any (a : Option Addr) (n c : Nat) (us : List (List Int × Int)) (left : Int) (w : World) (h : TermsAt w a n us) (hn : n ≤ 9223372036854775807) (h0 : 0 ≤ left) (h1 : left ≤ 1048576) :
    Calls Tryd.prog 16 #[.slice a n c, .int .i64 left] w (SzRes us n left w) := by
  have G := hidP h
  clear h
  by_cases hle : (n : Int) ≤ left
  · have hx : ¬ (left - (n : Int) < 0) := by omega
    go_enter Tryd.func16, Tryd.ntmps16
    go_wp2
    go_loopw [1, 5] (fun v i wr => ∃ (k : Nat) (l : Int), k ≤ n ∧ 0 ≤ l ∧ l ≤ left ∧ Hid (l = left - n + k - mkAt us k) ∧ i = .int .i64 k ∧ v = .int .i64 l ∧ Hid (Ext w wr)) (fun _ i _ => n - (intOf i).toNat)
    case atStart => exact ⟨0, left - n, Nat.zero_le _, by omega, by omega, by show _ = _; simp [mkAt], rfl, rfl, Ext.refl _⟩
    case round =>
      obtain ⟨k, l, hk, hl0, hl1, HJ, rfl, rfl, HX⟩ := hrel
      by_cases hlt : k < n
      · obtain ⟨b, o, aw, cw, rfl, q, q', _, hm⟩ := (G.out.below HX.out).get k hlt
        have HG := hidP (fun w' => szStep_any aw (us.getD k ([], 0)).1.length cw (us.getD k ([], 0)).2 l w' hm hl0 (by omega))
        have HS : Hid (mkAt us (k + 1) = mkAt us k + ((us.getD k ([], 0)).1.length + 1)) := rfl
        by_cases hll : ((us.getD k ([], 0)).1.length : Int) ≤ l
        · have HE : Hid (szLeft (us.getD k ([], 0)).1.length l = l - (us.getD k ([], 0)).1.length) := if_pos hll
          rw [HE.out] at HG
          generalize us.getD k ([], 0) = U at *
          have hng : ¬ (l - (U.1.length : Int) < 0) := by omega
          go_wp2_with fail
          refine (HG.out _).mono ?_
          rintro e w1 ⟨rfl, hx1⟩
          have HX1 := hidP hx1
          clear hx1 q q'
          go_wp2
          go_roundw
          case rel => exact ⟨k + 1, l - U.1.length, by omega, by omega, by omega, by show _ = _; rw [HS.out]; have := HJ.out; omega, by go_num, rfl, HX.out.trans HX1.out⟩
          case measure => simp [intOf]; omega
        · have HE : Hid (szLeft (us.getD k ([], 0)).1.length l = -1) := if_neg hll
          rw [HE.out] at HG
          generalize us.getD k ([], 0) = U at *
          go_wp2_with fail
          refine (HG.out _).mono ?_
          rintro e w1 ⟨rfl, hx1⟩
          have HX1 := hidP hx1
          clear hx1 q q'
          go_wp2
          go_ret
          exact ⟨-1, .inl rfl, rfl, HX.out.trans HX1.out⟩
      · obtain rfl : k = n := by omega
        go_wp2
        go_ret
        exact ⟨l, .inr ⟨hl0, by have := HJ.out; omega⟩, rfl, HX.out⟩
  · have hx : left - (n : Int) < 0 := by omega
    go_enter Tryd.func16, Tryd.ntmps16
    go_wp2
    go_ret
    exact ⟨-1, .inl rfl, rfl, Ext.refl _⟩
set_option maxHeartbeats 1000000 in
theorem eqStep_any (m1 m2 : Int) (a1 a2 : Option Addr) (n1 n2 c1 c2 : Nat) (xs ys : List Int) (w : World) (h1 : IntsAt w a1 n1 xs) (h2 : IntsAt w a2 n2 ys) (hm1 : n1 ≤ 9223372036854775807) (hm2 : n2 ≤ 9223372036854775807) :
    Calls Tryd.prog 50 #[.agg #[.slice a1 n1 c1, .int .i64 m1], .agg #[.slice a2 n2 c2, .int .i64 m2]] w fun e w' => e = .returned (.bool ((xs == ys) && (m1 == m2))) ∧ Ext w w' := by
  have HQ := hidP (fun w' (hx : Ext w w') => eqIntS_any a1 a2 n1 n2 c1 c2 xs ys w' (h1.below hx) (h2.below hx) hm1 hm2)
  have hx0 := (Ext.alloc w (.cells #[.slice a1 n1 c1, .int .i64 m1] 71)).trans (Ext.alloc _ (.cells #[.slice a2 n2 c2, .int .i64 m2] 71))
  have HX0 := hidP hx0
  clear h1 h2 hx0
  cases hb : (xs == ys)
  · rw [hb] at HQ
    go_enter Tryd.func50, Tryd.ntmps50
    go_wp2_with (go_at_call 51; refine (HQ.out _ HX0.out).mono ?_; rintro e w' ⟨rfl, m, rfl⟩)
    go_ret
    exact ⟨rfl, HX0.out.trans (Ext.drewN _ _)⟩
  · rw [hb] at HQ
    have hz : w.heap.size + 1 < ((w.alloc (.cells #[.slice a1 n1 c1, .int .i64 m1] 71)).alloc (.cells #[.slice a2 n2 c2, .int .i64 m2] 71)).heap.size := by simp
    by_cases hmm : m1 = m2
    · have hb2 : (m1 != m2) = false := by simp [hmm]
      have HR : Hid ((true && (m1 == m2)) = true) := by show _ = _; simp [hmm]
      clear hmm
      go_enter Tryd.func50, Tryd.ntmps50
      go_wp2_with (go_at_call 51; refine (HQ.out _ HX0.out).mono ?_; rintro e w' ⟨rfl, m, rfl⟩)
      go_ret
      exact ⟨ret_bool HR.out.symm, HX0.out.trans (Ext.drewN _ _)⟩
    · have hb2 : (m1 != m2) = true := by simp [hmm]
      have HR : Hid ((true && (m1 == m2)) = false) := by show _ = _; simp [hmm]
      clear hmm
      go_enter Tryd.func50, Tryd.ntmps50
      go_wp2_with (go_at_call 51; refine (HQ.out _ HX0.out).mono ?_; rintro e w' ⟨rfl, m, rfl⟩)
      go_ret
      exact ⟨ret_bool HR.out.symm, HX0.out.trans (Ext.drewN _ _)⟩
set_option maxHeartbeats 1000000 in
theorem eqStepS_any (a1 a2 : Option Addr) (n1 n2 c1 c2 : Nat) (us vs : List (List Int × Int)) (w : World) (h1 : TermsAt w a1 n1 us) (h2 : TermsAt w a2 n2 vs) (hn1 : n1 ≤ 9223372036854775807) (hn2 : n2 ≤ 9223372036854775807) :
    Calls Tryd.prog 21 #[.slice a1 n1 c1, .slice a2 n2 c2] w fun e w' => e = .returned (.bool (us == vs)) ∧ Ext w w' := by
  have L1 := hidP h1.len
  have L2 := hidP h2.len
  have G1 := hidP h1
  have G2 := hidP h2
  clear h1 h2
  by_cases hne : n1 = n2
  · subst hne
    have hb : (((n1 : Nat) : Int) != (n1 : Nat)) = false := by simp
    go_enter Tryd.func21, Tryd.ntmps21
    go_wp2
    go_loopw [5] (fun i wr => ∃ k : Nat, k ≤ n1 ∧ Hid (∀ j, j < k → us.getD j ([], 0) = vs.getD j ([], 0)) ∧ i = .int .i64 k ∧ Hid (Ext w wr)) (fun i _ => n1 - (intOf i).toNat)
    case atStart => exact ⟨0, Nat.zero_le _, fun j h => by omega, rfl, Ext.refl _⟩
    case round =>
      obtain ⟨k, hk, HJ, rfl, HX⟩ := hrel
      by_cases hlt : k < n1
      · obtain ⟨b, o, aw, cw, rfl, _⟩ := G1.out.get k hlt
        obtain ⟨b', o', aw', cw', rfl, _⟩ := G2.out.get k hlt
        obtain ⟨aw, cw, hm, hq⟩ := G1.out.keeps k hlt
        obtain ⟨aw1, cw1, hm1, hq1⟩ := G2.out.keeps k hlt
        have HQ := hidP hq
        have HQ1 := hidP hq1
        have HE := hidP (fun w' (hx : Ext w w') => eqStep_any (us.getD k ([], 0)).2 (vs.getD k ([], 0)).2 aw aw1 _ _ cw cw1 _ _ w' (HQ.out w' hx).2.2 (HQ1.out w' hx).2.2 hm hm1)
        have HEQ : Hid (((us.getD k ([], 0)).1 == (vs.getD k ([], 0)).1 && (us.getD k ([], 0)).2 == (vs.getD k ([], 0)).2) = true → us.getD k ([], 0) = vs.getD k ([], 0)) := by
          intro h
          simp only [Bool.and_eq_true, beq_iff_eq] at h
          exact Prod.ext h.1 h.2
        have HNE : Hid (((us.getD k ([], 0)).1 == (vs.getD k ([], 0)).1 && (us.getD k ([], 0)).2 == (vs.getD k ([], 0)).2) = false → (us == vs) = false) := by
          intro h
          rw [beq_eq_false_iff_ne]
          rintro rfl
          simp at h
        have HS := hidP (fun (hs : us.getD k ([], 0) = vs.getD k ([], 0)) => (by
          intro j hj
          rcases Nat.lt_succ_iff_lt_or_eq.1 hj with h3 | rfl
          · exact HJ.out j h3
          · exact hs : ∀ j, j < k + 1 → us.getD j ([], 0) = vs.getD j ([], 0)))
        clear hq hq1
        generalize us.getD k ([], 0) = U at *
        generalize vs.getD k ([], 0) = V at *
        generalize (U.1 == V.1 && U.2 == V.2) = B at *
        have hE : Ext wr wr.drew := Ext.drew wr
        cases B
        all_goals
          go_wp2
          (refine walkR_start (fun w' => Ext wr w') 10 (by kernel_rfl) ?_; simp only [numbered, List.take_succ_cons, List.take_zero, Nat.zero_add, Nat.reduceAdd, List.length_cons, List.length_nil])
          (repeat (first | (refine walkR_still (v := ?_) rfl (by decide +kernel) rfl (fun _ _ _ h => h) hE ?_ ?_; rotate_left; (focus (intro w' hw'; obtain ⟨q, q', _⟩ := HQ.out w' (HX.out.trans hw'); obtain ⟨p, p', _⟩ := HQ1.out w' (HX.out.trans hw'); go_simp; all_goals (with_reducible rfl))); simp only [Act.put, List.setIfInBounds_toArray, List.set_cons_zero, List.set_cons_succ]) | (refine walkR_skip rfl (by decide +kernel) rfl (fun _ _ _ h => h) hE ?_; simp only [Act.put, List.setIfInBounds_toArray, List.set_cons_zero, List.set_cons_succ])))
          (refine walkR_only (fun w' => Ext wr w') rfl (by decide +kernel) rfl (fun _ h => h) ?_; intro K hK; go_simp; refine (HE.out _ (HX.out.trans hE)).mono ?_; rintro e w1 ⟨rfl, hx1⟩; refine hK _ _ (hE.trans hx1) ?_; clear hK K; (try simp only [Act.put, List.setIfInBounds_toArray, List.set_cons_zero, List.set_cons_succ]))
          have hE1 := hE.trans hx1
          clear hx1
          (repeat (first | (refine walkR_still (v := ?_) rfl (by decide +kernel) rfl (fun _ _ _ h => h) hE1 ?_ ?_; rotate_left; (focus (intro w' hw'; skip; go_simp; all_goals (with_reducible rfl))); simp only [Act.put, List.setIfInBounds_toArray, List.set_cons_zero, List.set_cons_succ]) | (refine walkR_skip rfl (by decide +kernel) rfl (fun _ _ _ h => h) hE1 ?_; simp only [Act.put, List.setIfInBounds_toArray, List.set_cons_zero, List.set_cons_succ])))
          (refine walkR_tail (by rfl) (by kernel_rfl) ?_; simp only [List.drop_succ_cons, List.drop_zero])
          go_wp2
        · go_ret
          exact ⟨ret_bool (HNE.out (by trivial)).symm, HX.out.trans hE1⟩
        · have hs := hidP (HS.out (HEQ.out (by trivial)))
          go_roundw
          case rel => exact ⟨k + 1, by omega, hs, by go_num, HX.out.trans hE1⟩
          case measure => simp [intOf]; omega
      · have HB : Hid ((us == vs) = true) := by
          show _ = _
          rw [beq_iff_eq]
          apply List.ext_getElem (L1.out.trans L2.out.symm)
          intro j p1 p2
          have := HJ.out j (by have := L1.out; omega)
          simpa [List.getD_eq_getElem?_getD, List.getElem?_eq_getElem p1, List.getElem?_eq_getElem p2] using this
        go_wp2
        go_ret
        exact ⟨ret_bool HB.out.symm, HX.out⟩
  · have HB : Hid ((us == vs) = false) := by
      show _ = _
      rw [beq_eq_false_iff_ne]
      exact fun e => hne (by rw [← L1.out, ← L2.out, e])
    have hb : (((n1 : Nat) : Int) != (n2 : Nat)) = true := bne_iff_ne.2 (by omega)
    clear hne
    go_enter Tryd.func21, Tryd.ntmps21
    go_wp2
    go_ret
    exact ⟨ret_bool HB.out.symm, Ext.refl _⟩
end Go.Proofs.YtdbpbnajegoffaaDoor
