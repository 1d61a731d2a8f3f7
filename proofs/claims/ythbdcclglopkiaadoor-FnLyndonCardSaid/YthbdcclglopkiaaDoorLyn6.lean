/-
  The program's LyndonWords, moebius, LyndonCount.
-/
import Derived.Test.YthbdcclglopkiaaDoorLyn5
namespace Go.Proofs.YthbdcclglopkiaaDoor
open Go.RowKit

set_option maxHeartbeats 1000000 in
theorem lyndonWords_any (L n : Nat) (w : World) (hL : 1 ≤ L) (hL4 : L ≤ 4) (hn1 : 1 ≤ n) (hn : n ≤ 8) :
    Calls Tryd.prog 17 #[.int .i64 L, .int .i64 n] w fun e w' => ∃ a k c hs, e = .returned (.slice a k c) ∧ OwnK rowK w' w.heap.size w'.heap.size a k c hs (lynTo L n (L ^ n)) ∧ Ext w w' := by
  have h1 : insB L 1 4 = true := insB_true.2 (by omega)
  have h2 : insB n 1 8 = true := insB_true.2 (by omega)
  have HQ := hidP (lyndonWordsI_any L n w hL hL4 hn1 hn)
  go_enter Tryd.func17, Tryd.ntmps17
  go_wp2_with (first | (go_at_call 34; refine (inside_any _ _ _ _).mono ?_; rintro e w' ⟨rfl, rfl⟩) | (go_at_call 35; refine HQ.out.mono ?_; rintro e w' ⟨a, k, c, hs, rfl, ho, hx⟩))
  go_ret
  exact ⟨a, k, c, hs, rfl, ho, hx⟩
theorem moeTo_range (f n d : Nat) (out : Int) (h : -1 ≤ out ∧ out ≤ 1) : -1 ≤ moeTo f n d out ∧ moeTo f n d out ≤ 1 := by
  induction f generalizing n d out with
  | zero => exact h
  | succ f ih =>
    unfold moeTo
    split
    · exact h
    · split
      · exact ih _ _ _ h
      · split
        · omega
        · exact ih _ _ _ (by omega)
set_option maxHeartbeats 1000000 in
theorem moebius_any (n : Nat) (w : World) (hn1 : 1 ≤ n) (hn : n ≤ 1000000) :
    Calls Tryd.prog 36 #[.int .i64 n] w fun e w' => e = .returned (.int .i64 (moeL n)) ∧ w = w' := by
  go_enter Tryd.func36, Tryd.ntmps36
  go_wp2
  go_loop [0, 3, 4] (fun a b c => ∃ (m d f : Nat) (o : Int), 1 ≤ m ∧ m ≤ n ∧ 2 ≤ d ∧ d ≤ n + 2 ∧ a = .int .i64 m ∧ b = .int .i64 o ∧ c = .int .i64 d ∧ -1 ≤ o ∧ o ≤ 1 ∧ m + 1 ≤ f + d ∧ Hid (moeTo f m d o = moeL n) ∧ Hid (∀ k, 1 < k → m % k = 0 → d ≤ k)) (fun a _ c => (intOf a + 2 - intOf c).toNat)
  case atStart => exact ⟨n, 2, n, 1, hn1, Nat.le_refl _, Nat.le_refl _, by omega, rfl, rfl, rfl, by omega, by omega, by omega, rfl, fun k h _ => h⟩
  case round =>
    obtain ⟨m, d, f, o, hm1, hmn, hd2, hdn, rfl, rfl, rfl, ho1, ho2, hf, HE, HJ⟩ := hrel
    by_cases h1 : m ≤ 1
    · have HR : Hid (moeL n = o) := by
        show _ = _
        rw [← HE.out]
        cases f with
        | zero => rfl
        | succ f => simp [moeTo, h1]
      go_wp2
      go_ret
      exact ⟨ret_int HR.out.symm, rfl⟩
    · have hdm : d ≤ m := HJ.out m (by omega) (Nat.mod_self m)
      obtain ⟨f, rfl⟩ : ∃ g, f = g + 1 := ⟨f - 1, by omega⟩
      have hE := HE.out
      rw [moeTo, if_neg h1] at hE
      by_cases h2 : m % d = 0
      · rw [if_neg (by simpa using h2)] at hE
        have hb : ((m : Int) % (d : Int) != 0) = false := by
          have : ((m % d : Nat) : Int) = (m : Int) % (d : Int) := Int.natCast_emod m d
          rw [← this, h2]; rfl
        have hq : (m : Int) / (d : Int) = ((m / d : Nat) : Int) := (Int.natCast_ediv m d).symm
        have hqm : m / d ≤ m := Nat.div_le_self _ _
        have hq1 : 1 ≤ m / d := Nat.div_pos hdm (by omega)
        have hmul : m = d * (m / d) := by have := Nat.div_add_mod m d; omega
        have HMU := hidP hmul
        clear hmul
        by_cases h3 : m / d % d = 0
        · rw [if_pos h3] at hE
          have hb3 : (((m / d : Nat) : Int) % (d : Int) == 0) = true := by
            have : ((m / d % d : Nat) : Int) = ((m / d : Nat) : Int) % (d : Int) := Int.natCast_emod _ d
            rw [← this, h3]; rfl
          have HE2 := hidP hE
          clear h2 h3 hE HE
          generalize m / d = q at *
          go_wp2
          go_ret
          exact ⟨ret_int HE2.out, rfl⟩
        · rw [if_neg h3] at hE
          have hb3 : (((m / d : Nat) : Int) % (d : Int) == 0) = false := by
            have : ((m / d % d : Nat) : Int) = ((m / d : Nat) : Int) % (d : Int) := Int.natCast_emod _ d
            rw [← this, beq_eq_false_iff_ne]; omega
          have HE2 := hidP hE
          have HJ2 : Hid (∀ k, 1 < k → m / d % k = 0 → d + 1 ≤ k) := by
            intro k hk hkm
            have h4 : d ≤ k := HJ.out k hk (by
              rw [HMU.out, Nat.mul_mod, hkm]; simp)
            rcases Nat.lt_or_ge d k with h5 | h5
            · exact h5
            · obtain rfl : k = d := by omega
              exact absurd hkm h3
          clear h2 h3 hE HE HJ
          have hlt : m / d + 1 ≤ f + (d + 1) := by omega
          generalize m / d = q at *
          go_wp2
          go_round
          case rel => exact ⟨q, d + 1, f, -o, by omega, by omega, by omega, by omega, by first | rfl | go_num, by first | rfl | go_num, by go_num, by omega, by omega, hlt, HE2, HJ2⟩
          case measure => simp [intOf]; omega
      · rw [if_pos (by simpa using h2)] at hE
        have hb : ((m : Int) % (d : Int) != 0) = true := by
          have : ((m % d : Nat) : Int) = (m : Int) % (d : Int) := Int.natCast_emod m d
          rw [← this, bne_iff_ne]; omega
        have HE2 := hidP hE
        have HJ2 : Hid (∀ k, 1 < k → m % k = 0 → d + 1 ≤ k) := by
          intro k hk hkm
          have h4 : d ≤ k := HJ.out k hk hkm
          rcases Nat.lt_or_ge d k with h5 | h5
          · exact h5
          · obtain rfl : k = d := by omega
            exact absurd hkm h2
        clear h2 hE HE HJ
        go_wp2
        go_round
        case rel => exact ⟨m, d + 1, f, o, by omega, by omega, by omega, by omega, rfl, rfl, by go_num, by omega, by omega, by omega, HE2, HJ2⟩
        case measure => simp [intOf]; omega
set_option maxRecDepth 100000 in
set_option maxHeartbeats 2000000 in
theorem lyndonCount_any (L n : Nat) (w : World) (hL : 1 ≤ L) (hL4 : L ≤ 4) (hn1 : 1 ≤ n) (hn : n ≤ 8) :
    Calls Tryd.prog 18 #[.int .i64 L, .int .i64 n] w fun e w' => e = .returned (.int .i64 (cntL L n)) ∧ w = w' := by
  have h1 : insB L 1 4 = true := insB_true.2 (by omega)
  have h2 : insB n 1 8 = true := insB_true.2 (by omega)
  have HM := hidP (fun d (hd : 1 ≤ d) (hd2 : d ≤ 8) => moebius_any d w hd (by omega))
  have HPW : Hid (∀ j, j ≤ 8 → L ^ j ≤ 65536) := fun j hj => Nat.le_trans (Nat.pow_le_pow_left hL4 j) (Nat.le_trans (Nat.pow_le_pow_right (by omega) hj) (by decide))
  go_enter Tryd.func18, Tryd.ntmps18
  go_wp2_with (go_at_call 34; refine (inside_any _ _ _ _).mono ?_; rintro e w' ⟨rfl, rfl⟩)
  go_loop [5, 6] (fun a b => ∃ (k : Nat) (S : Int), k ≤ n ∧ a = .int .i64 S ∧ b = .int .i64 ((k + 1 : Nat) : Int) ∧ -65536 * (k : Int) ≤ S ∧ S ≤ 65536 * (k : Int) ∧ Hid (S = cntTo L n k)) (fun _ b => (n + 2 - intOf b).toNat)
  case atStart => exact ⟨0, 0, Nat.zero_le _, rfl, rfl, by omega, by omega, rfl⟩
  case round =>
    obtain ⟨k, S, hk, rfl, rfl, hS1, hS2, HS⟩ := hrel
    by_cases hlt : k < n
    · by_cases hd : n % (k + 1) = 0
      · have hb : ((n : Int) % ((k + 1 : Nat) : Int) == 0) = true := by
          have : ((n % (k + 1) : Nat) : Int) = (n : Int) % ((k + 1 : Nat) : Int) := Int.natCast_emod _ _
          rw [← this, hd]; rfl
        have hb2 : ((n : Int) % ((k : Int) + 1) == 0) = true := by simpa using hb
        have hq : (n : Int) / ((k : Int) + 1) = ((n / (k + 1) : Nat) : Int) := by
          simp [Int.natCast_ediv]
        have hqn : n / (k + 1) ≤ n := Nat.div_le_self _ _
        have HC : Hid (cntTo L n (k + 1) = S + moeL (k + 1) * (L ^ (n / (k + 1)) : Nat)) := by
          show _ = _
          rw [cntTo, if_pos hd, HS.out]
        clear hd hb
        generalize n / (k + 1) = q at *
        go_wp2
        go_loop [7, 28] (fun a b => ∃ j p : Nat, j ≤ q ∧ p ≤ 65536 ∧ a = .int .i64 p ∧ b = .int .i64 j ∧ Hid (p = L ^ j)) (fun _ b => q - (intOf b).toNat)
        case atStart => exact ⟨0, 1, Nat.zero_le _, by omega, rfl, rfl, by show _ = _; simp⟩
        case round =>
          obtain ⟨j, p, hj, hp, rfl, rfl, HP⟩ := hrel
          by_cases hjl : j < q
          · have hp2 : p * L ≤ 65536 := by
              have := HPW.out (j + 1) (by omega)
              rw [Nat.pow_succ, ← HP.out] at this
              exact this
            have hp3 : (p : Int) * (L : Int) ≤ 65536 := by
              have : ((p * L : Nat) : Int) ≤ 65536 := by omega
              simpa using this
            have hp4 : 0 ≤ (p : Int) * (L : Int) := Int.mul_nonneg (by omega) (by omega)
            have HP2 : Hid (p * L = L ^ (j + 1)) := by show _ = _; rw [Nat.pow_succ, ← HP.out]
            go_wp2
            go_round
            case rel => exact ⟨j + 1, p * L, by omega, hp2, by go_num, by go_num, HP2⟩
            case measure => simp [intOf]; omega
          · obtain rfl : j = q := by omega
            have hrg := moeTo_range (k + 1) (k + 1) 2 1 (by omega)
            have hrg2 : -1 ≤ moeL (k + 1) ∧ moeL (k + 1) ≤ 1 := hrg
            have HMk := hidP (HM.out (k + 1) (by omega) (by omega))
            have hC := HC.out
            rw [← HP.out] at hC
            clear hrg HC
            generalize moeL (k + 1) = e0 at *
            have hb1 : -65536 ≤ e0 * (p : Int) ∧ e0 * (p : Int) ≤ 65536 := by
              obtain ⟨g1, g2⟩ := hrg2
              have : e0 = -1 ∨ e0 = 0 ∨ e0 = 1 := by omega
              rcases this with rfl | rfl | rfl <;> omega
            obtain ⟨hb1a, hb1b⟩ := hb1
            have HC := hidP hC
            clear hC
            go_wp2_with fail
            first | refine HMk.out.mono ?_ | (rw [show ((k : Int) + 1) = ((k + 1 : Nat) : Int) from by simp]; refine HMk.out.mono ?_)
            rintro e w' ⟨rfl, rfl⟩
            go_wp2
            go_round
            case rel => exact ⟨k + 1, S + e0 * p, by omega, rfl, by go_num, by omega, by omega, by show _ = _; rw [HC.out]⟩
            case measure => simp [intOf]; omega
      · have hb : ((n : Int) % ((k : Int) + 1) == 0) = false := by
          have : ((n % (k + 1) : Nat) : Int) = (n : Int) % ((k : Int) + 1) := by simp [Int.natCast_emod]
          rw [← this, beq_eq_false_iff_ne]; omega
        have HC : Hid (S = cntTo L n (k + 1)) := by
          show _ = _
          rw [cntTo, if_neg hd, HS.out]
        clear hd
        go_wp2
        go_round
        case rel => exact ⟨k + 1, S, by omega, rfl, by go_num, by omega, by omega, HC⟩
        case measure => simp [intOf]; omega
    · obtain rfl : k = n := by omega
      have HR : Hid (S.tdiv k = cntL L k) := by show _ = _; rw [cntL, HS.out]
      go_wp2
      go_ret
      exact ⟨ret_int HR.out, rfl⟩
end Go.Proofs.YthbdcclglopkiaaDoor
