/-
  The reference's FormatInt and FormatInts.
-/
import Derived.Test.YtnfbfdamlnjblaaGreatDoorStr
import Derived.Laws.IdiomStrings
namespace Go.Proofs.YtnfbfdamlnjblaaGreatDoor
open Go.RowKit

def Pow (u k : Nat) : Prop := u < 10 ^ k
theorem Pow.step {v k : Nat} (h : Pow v k) (hv : 1 ≤ v) : ∃ k', k = k' + 1 ∧ Pow (v / 10) k' := by
  unfold Pow at *
  cases k with
  | zero => simp at h; omega
  | succ k => exact ⟨k, rfl, by rw [Nat.pow_succ] at h; exact (Nat.div_lt_iff_lt_mul (by omega)).2 h⟩
/-- a byte's text -/
theorem conv_byte (w : World) (b : Nat) (hb : b < 256) :
    (convert 162 9 (.slice (some ⟨w.heap.size, 0, none⟩) 1 1)).run Tryz.prog (w.alloc (.cells #[.int .u8 (b : Int)] 5)) = .ok (.string (str [UInt8.ofNat b])) (w.alloc (.cells #[.int .u8 (b : Int)] 5)) := by
  refine run_convert_bytes_back _ 162 9 5 ⟨w.heap.size, 0, none⟩ 1 [UInt8.ofNat b] Tryz.underlying162 Tryz.underlying5 Tryz.underlying9 fun j hj => ?_
  obtain rfl : j = 0 := by simp at hj; omega
  rw [add_none]
  refine (cell_top _ _ _ _ _ rfl).trans ?_
  simp [UInt8.toNat_ofNat', Nat.mod_eq_of_lt hb]

theorem itoa_length (n : Int) (h0 : -9223372036854775808 ≤ n) (h1 : n ≤ 9223372036854775807) : (Lib.itoa n).length ≤ 21 := by
  have hd : ∀ u : Nat, u < 10 ^ 20 → (Lib.decDigits u).length ≤ 20 := by
    have : ∀ (k u : Nat), u < 10 ^ (k + 1) → (Lib.decDigits u).length ≤ k + 1 := by
      intro k
      induction k with
      | zero => intro u h; rw [Lib.decDigits_one (by simpa using h)]; simp
      | succ k ih =>
        intro u h
        by_cases h1 : u < 10
        · rw [Lib.decDigits_one h1]; simp
        · rw [Lib.decDigits, dif_neg h1, List.length_append]
          have := ih (u / 10) (by rw [Nat.pow_succ] at h; exact (Nat.div_lt_iff_lt_mul (by omega)).2 h)
          simp
          omega
    exact fun u h => this 19 u h
  unfold Lib.itoa
  split
  · rw [List.length_cons]
    have := hd n.natAbs (by omega)
    omega
  · have := hd n.toNat (by omega)
    omega
theorem join_length (l : List (List UInt8)) (sep : List UInt8) (B : Nat) (h : ∀ x ∈ l, x.length + sep.length ≤ B) : (Lib.join l sep).length ≤ l.length * B := by
  match l with
  | [] => simp [Lib.join_nil]
  | x :: r =>
    rw [Lib.join_cons, List.length_append, List.length_cons, Nat.add_mul, Nat.one_mul]
    have h1 : ∀ r : List (List UInt8), (∀ y ∈ r, y.length + sep.length ≤ B) → (Lib.joinTail sep r).length ≤ r.length * B := by
      intro r
      induction r with
      | nil => intro _; simp [Lib.joinTail]
      | cons y r ih =>
        intro hr
        have := ih fun z hz => hr z (by simp [hz])
        have := hr y (by simp)
        simp only [Lib.joinTail, List.map_cons, List.flatten_cons, List.length_append, List.length_cons, Nat.add_mul, Nat.one_mul] at *
        omega
    have := h1 r fun y hy => h y (by simp [hy])
    have := h x (by simp)
    omega

/-- the text of a list of numbers -/
def intsT (xs : List Int) : List UInt8 := Lib.join (xs.map Lib.itoa) [32]
def Small (xs : List Int) : Prop := ∀ i, i < xs.length → -9223372036854775808 ≤ xs.getD i 0 ∧ xs.getD i 0 ≤ 9223372036854775807
theorem intsT_length (xs : List Int) (h : Small xs) (k : Nat) : (intsT (xs.take k)).length ≤ k * 22 := by
  refine Nat.le_trans (join_length _ [32] 22 ?_) ?_
  · intro x hx
    simp only [List.mem_map] at hx
    obtain ⟨y, hy, rfl⟩ := hx
    have hy := List.mem_of_mem_take hy
    obtain ⟨i, hi, rfl⟩ := List.mem_iff_getElem.1 hy
    have := h i hi
    rw [getD_lt _ hi] at this
    have := itoa_length _ this.1 this.2
    simp
    omega
  · simp only [List.length_map, List.length_take]
    exact Nat.mul_le_mul_right _ (Nat.min_le_left _ _)
theorem intsT_succ (xs : List Int) (k : Nat) (hk : k < xs.length) : intsT (xs.take (k + 1)) = if k = 0 then Lib.itoa (xs.getD k 0) else intsT (xs.take k) ++ [32] ++ Lib.itoa (xs.getD k 0) := by
  unfold intsT
  rw [List.take_succ_eq_append_getElem hk, List.map_append, getD_lt _ hk]
  split
  · rename_i h; subst h; simp [Lib.join_one]
  · rename_i h
    exact join_snoc _ _ _ (by intro e; have := congrArg List.length e; simp at this; rcases this with h1 | h1; exact h h1; subst h1; simp at hk)
end Go.Proofs.YtnfbfdamlnjblaaGreatDoor
