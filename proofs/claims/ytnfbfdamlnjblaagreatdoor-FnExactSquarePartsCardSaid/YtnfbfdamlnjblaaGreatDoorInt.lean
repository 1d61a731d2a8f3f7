/-
  The small functions on integers: inside, mod, IsPrime of both packages.
-/
import Derived.Test.YtnfbfdamlnjblaaGreatDoorLib
namespace Go.Proofs.YtnfbfdamlnjblaaGreatDoor
open Go.RowKit

theorem inside_any (n lo hi : Int) (w : World) :
    Calls Tryz.prog 119 #[.int .i64 n, .int .i64 lo, .int .i64 hi] w fun e w' => e = .returned (.bool (insB n lo hi)) ∧ w = w' := by
  by_cases h : lo ≤ n
  · go_enter Tryz.func119, Tryz.ntmps119
    go_wp2
    go_ret
    exact ⟨by simp [insB, h], rfl⟩
  · have h' : decide (lo ≤ n) = false := by simp; omega
    have HI := hidP (insB_false (hi := hi) |>.2 (fun hc : lo ≤ n ∧ n ≤ hi => h hc.1))
    go_enter Tryz.func119, Tryz.ntmps119
    go_wp2
    go_ret
    exact ⟨ret_bool HI.out.symm, rfl⟩
theorem l1In_any (n lo hi : Int) (w : World) :
    Calls Tryz.prog 110 #[.int .i64 n, .int .i64 lo, .int .i64 hi] w fun e w' => e = .returned (.bool (insB n lo hi)) ∧ w = w' := by
  by_cases h : lo ≤ n
  · go_enter Tryz.func110, Tryz.ntmps110
    go_wp2
    go_ret
    exact ⟨by simp [insB, h], rfl⟩
  · have h' : decide (lo ≤ n) = false := by simp; omega
    have HI := hidP (insB_false (hi := hi) |>.2 (fun hc : lo ≤ n ∧ n ≤ hi => h hc.1))
    go_enter Tryz.func110, Tryz.ntmps110
    go_wp2
    go_ret
    exact ⟨ret_bool HI.out.symm, rfl⟩
theorem mod_any (n p : Int) (w : World) (hp : 1 ≤ p) (hp2 : p ≤ 1000000) :
    Calls Tryz.prog 73 #[.int .i64 n, .int .i64 p] w fun e w' => e = .returned (.int .i64 (n % p)) ∧ w = w' := by
  have hb := tmod_pos_bounds n p (by omega)
  have hm : 0 ≤ n.tmod p + p := by omega
  have he : (n.tmod p + p) % p = n % p := by
    rcases Int.lt_or_le (n.tmod p) 0 with h | h
    · rw [emod_of_tmod_neg n p h (by omega), Int.emod_emod]
    · rw [emod_of_tmod_nonneg n p h (by omega), Int.add_emod_right, Int.emod_emod]
  have HE := hidP he
  clear he
  go_enter Tryz.func73, Tryz.ntmps73
  go_wp2
  go_ret
  exact ⟨ret_int HE.out, rfl⟩
theorem l1Mod_any (n p : Int) (w : World) (hp : 1 ≤ p) (hp2 : p ≤ 1000000) :
    Calls Tryz.prog 116 #[.int .i64 n, .int .i64 p] w fun e w' => e = .returned (.int .i64 (n % p)) ∧ w = w' := by
  have hb := tmod_pos_bounds n p (by omega)
  by_cases h : n.tmod p < 0
  · have he := hidP (emod_of_tmod_neg n p h (by omega))
    go_enter Tryz.func116, Tryz.ntmps116
    go_wp2
    go_ret
    exact ⟨ret_int he.out, rfl⟩
  · have he := hidP (emod_of_tmod_nonneg n p (by omega) (by omega))
    go_enter Tryz.func116, Tryz.ntmps116
    go_wp2
    go_ret
    exact ⟨ret_int he.out, rfl⟩

def primeTo (n : Int) (k : Nat) : Prop := ∀ d : Nat, d < k → 2 ≤ d → n % d ≠ 0
theorem primeTo_two (n : Int) : primeTo n 2 := fun d h1 h2 => by omega
theorem primeTo_succ {n : Int} {k : Nat} (h : primeTo n k) (hk : n % k ≠ 0) : primeTo n (k + 1) := fun d h1 h2 => by
  rcases Nat.lt_succ_iff_lt_or_eq.1 h1 with h3 | rfl
  · exact h d h3 h2
  · exact hk
theorem prime_of_to {n : Int} {k : Nat} (h : primeTo n k) (hk : n < k * k) (h2 : 2 ≤ n) (h3 : n ≤ 10007) : primeB n = true := by
  refine primeB_true.2 ⟨h2, h3, fun d hd1 hd2 hd3 => h d ?_ hd2⟩
  rcases Nat.lt_or_ge d k with h4 | h4
  · exact h4
  · exfalso
    have : k * k ≤ d * d := Nat.mul_le_mul h4 h4
    have : ((k * k : Nat) : Int) ≤ ((d * d : Nat) : Int) := by exact_mod_cast this
    simp only [Int.natCast_mul] at this
    omega
theorem not_prime_of {n : Int} {k : Nat} (hk : n % k = 0) (h2 : 2 ≤ k) (hkk : (k : Int) * k ≤ n) (h3 : n ≤ 10007) : primeB n = false := by
  refine primeB_false.2 fun h => h.2.2 k ?_ h2 hkk hk
  rcases Nat.lt_or_ge k 101 with h4 | h4
  · exact h4
  · exfalso
    have : 101 * 101 ≤ k * k := Nat.mul_le_mul h4 h4
    have : ((101 * 101 : Nat) : Int) ≤ ((k * k : Nat) : Int) := by exact_mod_cast this
    simp only [Int.natCast_mul] at this
    omega

set_option maxHeartbeats 1000000 in
theorem isPrime_any (n : Int) (w : World) :
    Calls Tryz.prog 118 #[.int .i64 n] w fun e w' => e = .returned (.bool (primeB n)) ∧ w = w' := by
  by_cases hin : 2 ≤ n ∧ n ≤ 10007
  · have hi : insB n 2 10007 = true := insB_true.2 hin
    obtain ⟨hn2, hn7⟩ := hin
    have hto := primeTo_two n
    go_enter Tryz.func118, Tryz.ntmps118
    go_wp2_with (go_at_call 119; refine (inside_any _ _ _ _).mono ?_; rintro e w' ⟨rfl, rfl⟩)
    go_loop [3] (fun i => ∃ k : Nat, 2 ≤ k ∧ k ≤ 101 ∧ primeTo n k ∧ i = .int .i64 k) (fun i => 101 - (intOf i).toNat)
    case atStart => exact ⟨2, Nat.le_refl _, by omega, hto, rfl⟩
    case round =>
      clear hto
      obtain ⟨k, hk2, hk, hpt, rfl⟩ := hrel
      have hkk1 : 0 ≤ (k : Int) * k := Int.mul_nonneg (by omega) (by omega)
      have hkk2 : (k : Int) * k ≤ 10201 := by
        have := Nat.mul_le_mul hk hk
        have : ((k * k : Nat) : Int) ≤ ((101 * 101 : Nat) : Int) := by exact_mod_cast this
        simpa using this
      by_cases hlt : (k : Int) * k ≤ n
      · by_cases hd : n % (k : Int) = 0
        · have hb := hidP (not_prime_of hd hk2 hlt hn7)
          have hd' : (n % (k : Int) == 0) = true := by simp [hd]
          clear hd
          go_wp2
          go_ret
          exact ⟨ret_bool hb.out.symm, rfl⟩
        · have hd' : (n % (k : Int) == 0) = false := by simp [hd]
          have hk101 : k < 101 := by
            rcases Nat.lt_or_ge k 101 with h4 | h4
            · exact h4
            · have : k = 101 := by omega
              subst this; omega
          have hs := primeTo_succ hpt hd
          clear hd hpt
          go_wp2
          go_round
          case rel => exact ⟨k + 1, by omega, by omega, hs, by go_num⟩
          case measure => simp [intOf]; omega
      · have hb := hidP (prime_of_to hpt (by omega) hn2 hn7)
        go_wp2
        go_ret
        exact ⟨ret_bool hb.out.symm, rfl⟩
  · have hi : insB n 2 10007 = false := insB_false.2 hin
    have hb : primeB n = false := primeB_false.2 fun h => hin ⟨h.1, h.2.1⟩
    have HB := hidP hb
    clear hin hb
    go_enter Tryz.func118, Tryz.ntmps118
    go_wp2_with (go_at_call 119; refine (inside_any _ _ _ _).mono ?_; rintro e w' ⟨rfl, rfl⟩)
    go_ret
    exact ⟨ret_bool HB.out.symm, rfl⟩
set_option maxHeartbeats 1000000 in
theorem sIsPrime_any (n : Int) (w : World) :
    Calls Tryz.prog 109 #[.int .i64 n] w fun e w' => e = .returned (.bool (primeB n)) ∧ w = w' := by
  by_cases hin : 2 ≤ n ∧ n ≤ 10007
  · have hi : insB n 2 10007 = true := insB_true.2 hin
    obtain ⟨hn2, hn7⟩ := hin
    have hto := primeTo_two n
    have hg1 : decide (n < 2) = false := by simp; omega
    go_enter Tryz.func109, Tryz.ntmps109
    go_wp2
    go_loop [3] (fun i => ∃ k : Nat, 2 ≤ k ∧ k ≤ 101 ∧ primeTo n k ∧ i = .int .i64 k) (fun i => 101 - (intOf i).toNat)
    case atStart => exact ⟨2, Nat.le_refl _, by omega, hto, rfl⟩
    case round =>
      clear hto
      obtain ⟨k, hk2, hk, hpt, rfl⟩ := hrel
      have hkk1 : 0 ≤ (k : Int) * k := Int.mul_nonneg (by omega) (by omega)
      have hkk2 : (k : Int) * k ≤ 10201 := by
        have := Nat.mul_le_mul hk hk
        have : ((k * k : Nat) : Int) ≤ ((101 * 101 : Nat) : Int) := by exact_mod_cast this
        simpa using this
      by_cases hlt : (k : Int) * k ≤ n
      · by_cases hd : n % (k : Int) = 0
        · have hb := hidP (not_prime_of hd hk2 hlt hn7)
          have hd' : (n % (k : Int) == 0) = true := by simp [hd]
          clear hd
          go_wp2
          go_ret
          exact ⟨ret_bool hb.out.symm, rfl⟩
        · have hd' : (n % (k : Int) == 0) = false := by simp [hd]
          have hk101 : k < 101 := by
            rcases Nat.lt_or_ge k 101 with h4 | h4
            · exact h4
            · have : k = 101 := by omega
              subst this; omega
          have hs := primeTo_succ hpt hd
          clear hd hpt
          go_wp2
          go_round
          case rel => exact ⟨k + 1, by omega, by omega, hs, by go_num⟩
          case measure => simp [intOf]; omega
      · have hb := hidP (prime_of_to hpt (by omega) hn2 hn7)
        go_wp2
        go_ret
        exact ⟨ret_bool hb.out.symm, rfl⟩
  · have hb : primeB n = false := primeB_false.2 fun h => hin ⟨h.1, h.2.1⟩
    have HB := hidP hb
    clear hb
    by_cases h2 : n < 2
    · clear hin
      go_enter Tryz.func109, Tryz.ntmps109
      go_wp2
      go_ret
      exact ⟨ret_bool HB.out.symm, rfl⟩
    · have hg1 : decide (n < 2) = false := by simp; omega
      have hg2 : 10007 < n := by omega
      clear hin
      go_enter Tryz.func109, Tryz.ntmps109
      go_wp2
      go_ret
      exact ⟨ret_bool HB.out.symm, rfl⟩
end Go.Proofs.YtnfbfdamlnjblaaGreatDoor
