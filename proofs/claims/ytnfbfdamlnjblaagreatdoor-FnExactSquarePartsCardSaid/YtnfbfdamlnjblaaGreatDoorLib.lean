/-
  General lemmas, no program in sight: hidden facts, integer remainders, primes.
-/
import Derived.Test.YtnfbfdamlnjblaaGreatDoorRows
import Derived.WalkKit
import Derived.WalkSpells
import Derived.WalkLawsBesides
namespace Go.Proofs.YtnfbfdamlnjblaaGreatDoor
open Go.RowKit

theorem hidP {p : Prop} (h : p) : Hid p := h

theorem ret_bool {a b : Bool} (h : a = b) : Ending.returned (.bool a) = .returned (.bool b) := by rw [h]
theorem ret_int {a b : Int} (h : a = b) : Ending.returned (.int .i64 a) = .returned (.int .i64 b) := by rw [h]

/-- n between lo and hi -/
def insB (n lo hi : Int) : Bool := decide (lo ≤ n ∧ n ≤ hi)
theorem insB_true {n lo hi : Int} : insB n lo hi = true ↔ lo ≤ n ∧ n ≤ hi := by simp [insB]
theorem insB_false {n lo hi : Int} : insB n lo hi = false ↔ ¬ (lo ≤ n ∧ n ≤ hi) := by
  rw [Bool.eq_false_iff, ne_eq, insB_true]

def PrimeP (n : Int) : Prop := 2 ≤ n ∧ n ≤ 10007 ∧ ∀ d : Nat, d < 101 → 2 ≤ d → (d : Int) * d ≤ n → n % d ≠ 0
instance (n : Int) : Decidable (PrimeP n) := by unfold PrimeP; infer_instance
def primeB (n : Int) : Bool := decide (PrimeP n)
theorem primeB_true {n : Int} : primeB n = true ↔ PrimeP n := by simp [primeB]
theorem primeB_false {n : Int} : primeB n = false ↔ ¬ PrimeP n := by simp [primeB]
theorem prime_bounds {n : Int} (h : primeB n = true) : 2 ≤ n ∧ n ≤ 10007 := ⟨(primeB_true.1 h).1, (primeB_true.1 h).2.1⟩

theorem tmod_pos_bounds (n p : Int) (hp : 0 < p) : -p < n.tmod p ∧ n.tmod p < p := by
  rcases Int.le_total 0 n with h | h
  · have h1 := Int.emod_nonneg n (Int.ne_of_gt hp); have h2 := Int.emod_lt_of_pos n hp
    rw [Int.tmod_eq_emod_of_nonneg h]; omega
  · have h1 := Int.emod_nonneg (-n) (Int.ne_of_gt hp); have h2 := Int.emod_lt_of_pos (-n) hp
    have e : n.tmod p = - ((-n) % p) := by rw [← Int.tmod_eq_emod_of_nonneg (by omega), Int.neg_tmod, Int.neg_neg]
    rw [e]; omega
theorem emod_of_tmod_nonneg (n p : Int) (h : 0 ≤ n.tmod p) (hp : 0 < p) : n.tmod p = n % p := by
  have h2 := tmod_pos_bounds n p hp
  have h3 := Int.mul_tdiv_add_tmod n p
  have : n % p = n.tmod p := by
    conv => lhs; rw [← h3, Int.add_comm, Int.add_mul_emod_self_left]
    exact Int.emod_eq_of_lt h h2.2
  exact this.symm
theorem emod_of_tmod_neg (n p : Int) (h : n.tmod p < 0) (hp : 0 < p) : n.tmod p + p = n % p := by
  have h2 := tmod_pos_bounds n p hp
  have h3 := Int.mul_tdiv_add_tmod n p
  have : n % p = n.tmod p + p := by
    conv => lhs; rw [← h3, Int.add_comm, Int.add_mul_emod_self_left]
    rw [← Int.add_emod_right]
    exact Int.emod_eq_of_lt (by omega) (by omega)
  exact this.symm


theorem wrap_in {n : Int} (h0 : -9223372036854775808 ≤ n) (h1 : n ≤ 9223372036854775807) : IntKind.i64.wrap n = n := IntWalk.i64_in n ⟨h0, h1⟩

/-- places in a table of d rows of d rows of d numbers -/
theorem idx2_facts {d i j : Int} (hi0 : 0 ≤ i) (hi1 : i < d) (_hj0 : 0 ≤ j) (hj1 : j < d) : 0 ≤ i * d ∧ i * d + j < d * d ∧ i * d ≤ d * d := by
  have h1 : (i + 1) * d ≤ d * d := Int.mul_le_mul_of_nonneg_right (by omega) (by omega)
  have h2 : 0 ≤ i * d := Int.mul_nonneg hi0 (by omega)
  rw [Int.add_mul, Int.one_mul] at h1
  omega
theorem idx_facts {d i j k : Int} (hd : d ≤ 28) (hi0 : 0 ≤ i) (hi1 : i < d) (hj0 : 0 ≤ j) (hj1 : j < d) (_hk0 : 0 ≤ k) (hk1 : k < d) :
    0 ≤ i * d ∧ i * d ≤ 784 ∧ 0 ≤ (i * d + j) * d ∧ (i * d + j) * d ≤ 21952 ∧ (i * d + j) * d + k < d * d * d := by
  obtain ⟨h1, h2, h3⟩ := idx2_facts hi0 hi1 hj0 hj1
  have h4 : d * d ≤ 28 * 28 := Int.mul_le_mul hd hd (by omega) (by omega)
  have h5 : (i * d + j + 1) * d ≤ d * d * d := Int.mul_le_mul_of_nonneg_right (by omega) (by omega)
  have h6 : 0 ≤ (i * d + j) * d := Int.mul_nonneg (by omega) (by omega)
  have h7 : d * d * d ≤ 28 * 28 * 28 := Int.mul_le_mul h4 hd (by omega) (by omega)
  rw [Int.add_mul, Int.one_mul] at h5
  refine ⟨h1, by omega, h6, by omega, by omega⟩
theorem cube_le {d : Int} (h0 : 0 ≤ d) (h : d ≤ 28) : 0 ≤ d * d ∧ d * d ≤ 784 ∧ 0 ≤ d * d * d ∧ d * d * d ≤ 21952 := by
  have h4 : d * d ≤ 28 * 28 := Int.mul_le_mul h h (by omega) (by omega)
  have h3 : 0 ≤ d * d := Int.mul_nonneg h0 h0
  have h7 : d * d * d ≤ 28 * 28 * 28 := Int.mul_le_mul h4 h (by omega) (by omega)
  exact ⟨h3, by omega, Int.mul_nonneg h3 h0, by omega⟩

end Go.Proofs.YtnfbfdamlnjblaaGreatDoor
