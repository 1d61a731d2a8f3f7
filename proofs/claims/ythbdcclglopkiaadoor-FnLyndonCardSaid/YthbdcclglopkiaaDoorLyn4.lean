/-
  All words of a length in order, the Lyndon words among them; how many they are. No program in sight.
-/
import Derived.Test.YthbdcclglopkiaaDoorLyn
namespace Go.Proofs.YthbdcclglopkiaaDoor
open Go.RowKit

/-- the word of n letters below L that is the number v -/
def dig (L : Nat) : Nat → Nat → List Int
  | 0, _ => []
  | n + 1, v => dig L n (v / L) ++ [((v % L : Nat) : Int)]
theorem dig_length (L n v : Nat) : (dig L n v).length = n := by
  induction n generalizing v with
  | zero => rfl
  | succ n ih => simp [dig, ih]
theorem dig_zero (L n : Nat) : dig L n 0 = List.replicate n 0 := by
  induction n with
  | zero => rfl
  | succ n ih => simp [dig, ih, List.replicate_succ']
theorem dig_shift {L : Nat} (hL : 0 < L) (m t u : Nat) : dig L (m + t) (u * L ^ t) = dig L m u ++ List.replicate t 0 := by
  induction t with
  | zero => simp
  | succ t ih =>
    have e1 : u * L ^ (t + 1) / L = u * L ^ t := by rw [Nat.pow_succ, ← Nat.mul_assoc, Nat.mul_div_cancel _ hL]
    have e2 : u * L ^ (t + 1) % L = 0 := by rw [Nat.pow_succ, ← Nat.mul_assoc, Nat.mul_mod_left]
    rw [← Nat.add_assoc, dig, e1, e2, ih, List.append_assoc, List.replicate_succ']
    rfl
theorem dig_last (L m u t : Nat) : (dig L (m + 1) u ++ List.replicate t 0).getD m 0 = ((u % L : Nat) : Int) := by
  simp [dig, List.getD_eq_getElem?_getD, dig_length]
theorem dig_set (L m u t : Nat) (x : Int) : (dig L (m + 1) u ++ List.replicate t 0).set m x = dig L m (u / L) ++ [x] ++ List.replicate t 0 := by
  rw [dig, List.set_append_left _ _ (by simp [dig_length]), List.set_append_right _ _ (by simp [dig_length])]
  simp [dig_length]
theorem dig_wipe (L m u t : Nat) : (dig L (m + 1) u ++ List.replicate t 0).set m 0 = dig L m (u / L) ++ List.replicate (t + 1) 0 := by
  rw [dig_set, List.append_assoc]
  rfl
theorem dig_up (L m u t : Nat) (h : u % L + 1 < L) : (dig L (m + 1) u ++ List.replicate t 0).set m (((u % L : Nat) : Int) + 1) = dig L (m + 1) (u + 1) ++ List.replicate t 0 := by
  have e0 : u + 1 = L * (u / L) + (u % L + 1) := by rw [← Nat.add_assoc, Nat.div_add_mod]
  have e1 : (u + 1) / L = u / L := by
    conv => lhs; rw [e0]
    rw [Nat.mul_add_div (by omega), Nat.div_eq_of_lt h, Nat.add_zero]
  have e2 : (u + 1) % L = u % L + 1 := by
    conv => lhs; rw [e0]
    rw [Nat.mul_add_mod, Nat.mod_eq_of_lt h]
  rw [dig_set, dig, e1, e2]
  rfl
theorem lt_same {u s : List Int} (h : u < s) (hl : u.length = s.length) (x y : List Int) : u ++ x < s ++ y := by
  rcases lt_cases h with ⟨t, ht, rfl⟩ | h2
  · rw [List.length_append] at hl
    have := List.length_pos_iff.2 ht
    omega
  · exact h2 x y
theorem dig_mono {L : Nat} (hL : 0 < L) (n v v' : Nat) (h : v < v') (hv : v' < L ^ n) : dig L n v < dig L n v' := by
  induction n generalizing v v' with
  | zero => simp at hv; omega
  | succ n ih =>
    rw [dig, dig]
    rcases Nat.lt_or_ge (v / L) (v' / L) with h1 | h1
    · refine lt_same (ih _ _ h1 ?_) (by rw [dig_length, dig_length]) _ _
      rw [Nat.div_lt_iff_lt_mul hL, ← Nat.pow_succ]
      exact hv
    · have h2 : v / L = v' / L := Nat.le_antisymm (Nat.div_le_div_right (Nat.le_of_lt h)) h1
      rw [h2]
      refine append_lt _ (List.cons_lt_cons_iff.2 (.inl ?_))
      have a1 := Nat.div_add_mod v L
      have a2 := Nat.div_add_mod v' L
      rw [h2] at a1
      omega
theorem dig_lt {L : Nat} (hL : 0 < L) (n v : Nat) : ∀ x ∈ dig L n v, 0 ≤ x ∧ x < L := by
  induction n generalizing v with
  | zero => simp [dig]
  | succ n ih =>
    intro x hx
    rw [dig, List.mem_append] at hx
    rcases hx with hx | hx
    · exact ih _ x hx
    · simp only [List.mem_singleton] at hx
      subst hx
      have := Nat.mod_lt v hL
      omega

/-- the Lyndon words among those ahead of the number v -/
def lynTo (L n v : Nat) : List (List Int) := ((List.range v).map (dig L n)).filter lynB
theorem lynTo_yes {L n v : Nat} (h : lynB (dig L n v) = true) : lynTo L n (v + 1) = lynTo L n v ++ [dig L n v] := by
  unfold lynTo
  rw [List.range_succ, List.map_append, List.filter_append]
  simp [h]
theorem lynTo_no {L n v : Nat} (h : lynB (dig L n v) = false) : lynTo L n (v + 1) = lynTo L n v := by
  unfold lynTo
  rw [List.range_succ, List.map_append, List.filter_append]
  simp [h]
theorem lynTo_mem {L n v : Nat} (hL : 0 < L) (x : List Int) (hx : x ∈ lynTo L n v) : lynB x = true ∧ x.length = n ∧ ∀ y ∈ x, 0 ≤ y ∧ y < L := by
  unfold lynTo at hx
  rw [List.mem_filter, List.mem_map] at hx
  obtain ⟨⟨u, _, rfl⟩, h2⟩ := hx
  exact ⟨h2, dig_length _ _ _, dig_lt hL _ _⟩
theorem lynTo_length (L n v : Nat) : (lynTo L n v).length ≤ v := by
  unfold lynTo
  refine Nat.le_trans (List.length_filter_le _ _) ?_
  simp
theorem lynTo_up {L n v : Nat} (hL : 0 < L) (hv : v ≤ L ^ n) (k : Nat) (hk : k + 1 < (lynTo L n v).length) : (lynTo L n v).getD k [] < (lynTo L n v).getD (k + 1) [] := by
  have hp : (lynTo L n v).Pairwise (· < ·) := by
    unfold lynTo
    refine List.Pairwise.filter _ ?_
    rw [List.pairwise_map]
    have := @List.pairwise_lt_range v
    refine List.Pairwise.imp_of_mem ?_ this
    intro a b _ hb hab
    exact dig_mono hL n a b hab (by have := List.mem_range.1 hb; omega)
  rw [List.pairwise_iff_getElem] at hp
  have := hp k (k + 1) (by omega) hk (by omega)
  simpa [List.getD_eq_getElem?_getD, hk, show k < (lynTo L n v).length by omega] using this

/-- the sum of Moebius -/
def moeTo : Nat → Nat → Nat → Int → Int
  | 0, _, _, out => out
  | f + 1, n, d, out => if n ≤ 1 then out else if n % d ≠ 0 then moeTo f n (d + 1) out else if n / d % d = 0 then 0 else moeTo f (n / d) (d + 1) (-out)
def moeL (n : Nat) : Int := moeTo n n 2 1
def cntTo (L n : Nat) : Nat → Int
  | 0 => 0
  | k + 1 => if n % (k + 1) = 0 then cntTo L n k + moeL (k + 1) * (L ^ (n / (k + 1)) : Nat) else cntTo L n k
def cntL (L n : Nat) : Int := (cntTo L n n).tdiv n
theorem cnt_all : ∀ L, L < 4 → ∀ n, n < 6 → ((lynTo (L + 1) (n + 1) ((L + 1) ^ (n + 1))).length : Int) = cntL (L + 1) (n + 1) := by decide +kernel
end Go.Proofs.YthbdcclglopkiaaDoor
