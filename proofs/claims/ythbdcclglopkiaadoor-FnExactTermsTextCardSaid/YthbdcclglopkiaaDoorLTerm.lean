/-
  The law's own small functions on slices of a word and a number each.
-/
import Derived.Test.YthbdcclglopkiaaDoorTermD
import Derived.Test.YthbdcclglopkiaaDoorInS
import Derived.Test.YthbdcclglopkiaaDoorAlg
import Derived.Test.YthbdcclglopkiaaDoorReg
namespace Go.Proofs.YthbdcclglopkiaaDoor
open Go.RowKit

/-- what a bound on the size leaves: -1, or every length within the bound -/
def SzOk (n : Nat) (us : List (List Int × Int)) (left v : Int) : Prop := v = -1 ∨ (0 ≤ v ∧ v ≤ left ∧ (n : Int) ≤ left ∧ ∀ i, i < n → ((us.getD i ([], 0)).1.length : Int) ≤ left)
def SzRes (n : Nat) (us : List (List Int × Int)) (left : Int) (w : World) (e : Ending) (w' : World) : Prop := ∃ v, SzOk n us left v ∧ e = .returned (.int .i64 v) ∧ Ext w w'

theorem szTerm_any (a : Option Addr) (n c : Nat) (m left : Int) (w : World) (hn : n ≤ 9223372036854775807) (h0 : 0 ≤ left) (h1 : left ≤ 1048576) :
    Calls Tryd.prog 21 #[.agg #[.slice a n c, .int .i64 m], .int .i64 left] w fun e w' => e = .returned (.int .i64 (szLeft n left)) ∧ Ext w w' := by
  have HQ := hidP (fun w' => szIntS_any a n c left w' hn h0 h1)
  by_cases hle : (n : Int) ≤ left
  · have HE : Hid (szLeft n left = left - n) := if_pos hle
    rw [HE.out] at HQ ⊢
    go_enter Tryd.func21, Tryd.ntmps21
    go_wp2_with (go_at_call 38; refine (HQ.out _).mono ?_; rintro e w' ⟨rfl, rfl⟩)
    go_ret
    exact ⟨rfl, Ext.alloc _ _⟩
  · have HE : Hid (szLeft n left = -1) := if_neg hle
    rw [HE.out] at HQ ⊢
    go_enter Tryd.func21, Tryd.ntmps21
    go_wp2_with (go_at_call 38; refine (HQ.out _).mono ?_; rintro e w' ⟨rfl, rfl⟩)
    go_ret
    exact ⟨rfl, Ext.alloc _ _⟩
set_option maxHeartbeats 1000000 in
theorem szTermS_any (a : Option Addr) (n c : Nat) (us : List (List Int × Int)) (left : Int) (w : World) (h : TermsAt w a n us) (hn : n ≤ 9223372036854775807) (h0 : 0 ≤ left) (h1 : left ≤ 1048576) :
    Calls Tryd.prog 5 #[.slice a n c, .int .i64 left] w (SzRes n us left w) := by
  have G := hidP h
  clear h
  by_cases hle : (n : Int) ≤ left
  · have hx : ¬ (left - (n : Int) < 0) := by omega
    go_enter Tryd.func5, Tryd.ntmps5
    go_wp2
    go_loopw [1, 5] (fun v i wr => ∃ (k : Nat) (l : Int), k ≤ n ∧ 0 ≤ l ∧ l ≤ left ∧ Hid (∀ j, j < k → ((us.getD j ([], 0)).1.length : Int) ≤ left) ∧ i = .int .i64 k ∧ v = .int .i64 l ∧ Hid (Ext w wr)) (fun _ i _ => n - (intOf i).toNat)
    case atStart => exact ⟨0, left - n, Nat.zero_le _, by omega, by omega, fun j h => by omega, rfl, rfl, Ext.refl _⟩
    case round =>
      obtain ⟨k, l, hk, hl0, hl1, HJ, rfl, rfl, HX⟩ := hrel
      by_cases hlt : k < n
      · obtain ⟨b, o, aw, cw, rfl, q, q', _, hm⟩ := (G.out.below HX.out).get k hlt
        have HG := hidP (fun w' => szTerm_any aw (us.getD k ([], 0)).1.length cw (us.getD k ([], 0)).2 l w' hm hl0 (by omega))
        by_cases hll : ((us.getD k ([], 0)).1.length : Int) ≤ l
        · have HE : Hid (szLeft (us.getD k ([], 0)).1.length l = l - (us.getD k ([], 0)).1.length) := if_pos hll
          rw [HE.out] at HG
          have HJ2 : Hid (∀ j, j < k + 1 → ((us.getD j ([], 0)).1.length : Int) ≤ left) := by
            intro j hj
            rcases Nat.lt_succ_iff_lt_or_eq.1 hj with h3 | rfl
            · exact HJ.out j h3
            · omega
          generalize us.getD k ([], 0) = U at *
          have hng : ¬ (l - (U.1.length : Int) < 0) := by omega
          go_wp2_with fail
          refine (HG.out _).mono ?_
          rintro e w1 ⟨rfl, hx1⟩
          have HX1 := hidP hx1
          clear hx1 q q'
          go_wp2
          go_roundw
          case rel => exact ⟨k + 1, l - U.1.length, by omega, by omega, by omega, HJ2, by go_num, rfl, HX.out.trans HX1.out⟩
          case measure => simp [intOf]; omega
        · have HE : Hid (szLeft (us.getD k ([], 0)).1.length l = -1) := if_neg hll
          rw [HE.out] at HG
          generalize us.getD k ([], 0) = U at *
          go_wp2_with fail
          refine (HG.out _).mono ?_
          rintro e w1 ⟨rfl, hx1⟩
          have HX1 := hidP hx1
          clear hx1 q q'
          go_wp2
          go_ret
          exact ⟨-1, .inl rfl, rfl, HX.out.trans HX1.out⟩
      · obtain rfl : k = n := by omega
        go_wp2
        go_ret
        exact ⟨l, .inr ⟨hl0, hl1, hle, HJ.out⟩, rfl, HX.out⟩
  · have hx : left - (n : Int) < 0 := by omega
    go_enter Tryd.func5, Tryd.ntmps5
    go_wp2
    go_ret
    exact ⟨-1, .inl rfl, rfl, Ext.refl _⟩
set_option maxHeartbeats 1000000 in
theorem eqTerm_any (m1 m2 : Int) (a1 a2 : Option Addr) (n1 n2 c1 c2 : Nat) (xs ys : List Int) (w : World) (h1 : IntsAt w a1 n1 xs) (h2 : IntsAt w a2 n2 ys) (hm1 : n1 ≤ 9223372036854775807) (hm2 : n2 ≤ 9223372036854775807) :
    Calls Tryd.prog 28 #[.agg #[.slice a1 n1 c1, .int .i64 m1], .agg #[.slice a2 n2 c2, .int .i64 m2]] w fun e w' => e = .returned (.bool ((xs == ys) && (m1 == m2))) ∧ Ext w w' := by
  have HQ := hidP (fun w' (hx : Ext w w') => eqIntS_any a1 a2 n1 n2 c1 c2 xs ys w' (h1.below hx) (h2.below hx) hm1 hm2)
  have hx0 := (Ext.alloc w (.cells #[.slice a1 n1 c1, .int .i64 m1] 46)).trans (Ext.alloc _ (.cells #[.slice a2 n2 c2, .int .i64 m2] 46))
  have HX0 := hidP hx0
  clear h1 h2 hx0
  cases hb : (xs == ys)
  · rw [hb] at HQ
    go_enter Tryd.func28, Tryd.ntmps28
    go_wp2_with (go_at_call 44; refine (HQ.out _ HX0.out).mono ?_; rintro e w' ⟨rfl, m, rfl⟩)
    go_ret
    exact ⟨rfl, HX0.out.trans (Ext.drewN _ _)⟩
  · rw [hb] at HQ
    have hz : w.heap.size + 1 < ((w.alloc (.cells #[.slice a1 n1 c1, .int .i64 m1] 46)).alloc (.cells #[.slice a2 n2 c2, .int .i64 m2] 46)).heap.size := by simp
    by_cases hmm : m1 = m2
    · have hb2 : (m1 != m2) = false := by simp [hmm]
      have HR : Hid ((true && (m1 == m2)) = true) := by show _ = _; simp [hmm]
      clear hmm
      go_enter Tryd.func28, Tryd.ntmps28
      go_wp2_with (go_at_call 44; refine (HQ.out _ HX0.out).mono ?_; rintro e w' ⟨rfl, m, rfl⟩)
      go_ret
      exact ⟨ret_bool HR.out.symm, HX0.out.trans (Ext.drewN _ _)⟩
    · have hb2 : (m1 != m2) = true := by simp [hmm]
      have HR : Hid ((true && (m1 == m2)) = false) := by show _ = _; simp [hmm]
      clear hmm
      go_enter Tryd.func28, Tryd.ntmps28
      go_wp2_with (go_at_call 44; refine (HQ.out _ HX0.out).mono ?_; rintro e w' ⟨rfl, m, rfl⟩)
      go_ret
      exact ⟨ret_bool HR.out.symm, HX0.out.trans (Ext.drewN _ _)⟩
end Go.Proofs.YthbdcclglopkiaaDoor
