/-
  The small functions on integers: inside, mod, IsPrime of both packages.
-/
import Derived.Test.YtfikkfbnlegflaaGreatDoorLib
namespace Go.Proofs.YtfikkfbnlegflaaGreatDoor
open Go.RowKit

theorem inside_any (n lo hi : Int) (w : World) :
    Calls Tryz.prog 57 #[.int .i64 n, .int .i64 lo, .int .i64 hi] w fun e w' => e = .returned (.bool (insB n lo hi)) ∧ w = w' := by
  by_cases h : lo ≤ n
  · go_enter Tryz.func57, Tryz.ntmps57
    go_wp2
    go_ret
    exact ⟨by simp [insB, h], rfl⟩
  · have h' : decide (lo ≤ n) = false := by simp; omega
    have HI := hidP (insB_false (hi := hi) |>.2 (fun hc : lo ≤ n ∧ n ≤ hi => h hc.1))
    go_enter Tryz.func57, Tryz.ntmps57
    go_wp2
    go_ret
    exact ⟨ret_bool HI.out.symm, rfl⟩
theorem l1In_any (n lo hi : Int) (w : World) :
    Calls Tryz.prog 54 #[.int .i64 n, .int .i64 lo, .int .i64 hi] w fun e w' => e = .returned (.bool (insB n lo hi)) ∧ w = w' := by
  by_cases h : lo ≤ n
  · go_enter Tryz.func54, Tryz.ntmps54
    go_wp2
    go_ret
    exact ⟨by simp [insB, h], rfl⟩
  · have h' : decide (lo ≤ n) = false := by simp; omega
    have HI := hidP (insB_false (hi := hi) |>.2 (fun hc : lo ≤ n ∧ n ≤ hi => h hc.1))
    go_enter Tryz.func54, Tryz.ntmps54
    go_wp2
    go_ret
    exact ⟨ret_bool HI.out.symm, rfl⟩

def primeTo (n : Int) (k : Nat) : Prop := ∀ d : Nat, d < k → 2 ≤ d → n % d ≠ 0
theorem primeTo_two (n : Int) : primeTo n 2 := fun d h1 h2 => by omega
theorem primeTo_succ {n : Int} {k : Nat} (h : primeTo n k) (hk : n % k ≠ 0) : primeTo n (k + 1) := fun d h1 h2 => by
  rcases Nat.lt_succ_iff_lt_or_eq.1 h1 with h3 | rfl
  · exact h d h3 h2
  · exact hk
theorem prime_of_to {n : Int} {k : Nat} (h : primeTo n k) (hk : n < k * k) (h2 : 2 ≤ n) (h3 : n ≤ 10007) : primeB n = true := by
  refine primeB_true.2 ⟨h2, h3, fun d hd1 hd2 hd3 => h d ?_ hd2⟩
  rcases Nat.lt_or_ge d k with h4 | h4
  · exact h4
  · exfalso
    have : k * k ≤ d * d := Nat.mul_le_mul h4 h4
    have : ((k * k : Nat) : Int) ≤ ((d * d : Nat) : Int) := by exact_mod_cast this
    simp only [Int.natCast_mul] at this
    omega
theorem not_prime_of {n : Int} {k : Nat} (hk : n % k = 0) (h2 : 2 ≤ k) (hkk : (k : Int) * k ≤ n) (h3 : n ≤ 10007) : primeB n = false := by
  refine primeB_false.2 fun h => h.2.2 k ?_ h2 hkk hk
  rcases Nat.lt_or_ge k 101 with h4 | h4
  · exact h4
  · exfalso
    have : 101 * 101 ≤ k * k := Nat.mul_le_mul h4 h4
    have : ((101 * 101 : Nat) : Int) ≤ ((k * k : Nat) : Int) := by exact_mod_cast this
    simp only [Int.natCast_mul] at this
    omega

end Go.Proofs.YtfikkfbnlegflaaGreatDoor
