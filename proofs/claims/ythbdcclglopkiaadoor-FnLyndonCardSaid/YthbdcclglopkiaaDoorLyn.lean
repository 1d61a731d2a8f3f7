/-
  Lyndon words, no program in sight: joined, cut, factored.
-/
import Derived.Test.YthbdcclglopkiaaDoorWrd
namespace Go.Proofs.YthbdcclglopkiaaDoor
open Go.RowKit

/-- a word that is before all its proper ends -/
def LynP (w : List Int) : Prop := ∀ i, 0 < i → i < w.length → w < w.drop i

theorem lt_append (x : List Int) {y : List Int} (h : y ≠ []) : x < x ++ y := by
  induction x with
  | nil => cases y with
    | nil => exact absurd rfl h
    | cons a y => exact List.nil_lt_cons _ _
  | cons a x ih => exact List.cons_lt_cons_iff.2 (.inr ⟨rfl, ih⟩)
theorem append_lt (x : List Int) {y z : List Int} (h : y < z) : x ++ y < x ++ z := by
  induction x with
  | nil => exact h
  | cons a x ih => exact List.cons_lt_cons_iff.2 (.inr ⟨rfl, ih⟩)
/-- two words part at a place, or the one begins with the other -/
theorem lt_cases {u s : List Int} (h : u < s) : (∃ t, t ≠ [] ∧ s = u ++ t) ∨ ∀ x y, u ++ x < s ++ y := by
  induction u generalizing s with
  | nil => exact .inl ⟨s, by rintro rfl; exact List.lt_irrefl _ h, rfl⟩
  | cons a u ih =>
    cases s with
    | nil => exact absurd h (List.not_lt_nil _)
    | cons b s =>
      rcases List.cons_lt_cons_iff.1 h with h1 | ⟨rfl, h1⟩
      · exact .inr fun x y => List.cons_lt_cons_iff.2 (.inl h1)
      · rcases ih h1 with ⟨t, ht, rfl⟩ | h2
        · exact .inl ⟨t, ht, rfl⟩
        · exact .inr fun x y => List.cons_lt_cons_iff.2 (.inr ⟨rfl, h2 x y⟩)

theorem LynP.joined {u v : List Int} (hu : LynP u) (hv : LynP v) (hu0 : u ≠ []) (h : u < v) : LynP (u ++ v) := by
  have hv0 : v ≠ [] := by rintro rfl; exact List.not_lt_nil _ h
  have hpos : 0 < u.length := List.length_pos_iff.2 hu0
  have hw : u ++ v < v := by
    rcases lt_cases h with ⟨t, ht, rfl⟩ | h2
    · refine append_lt u ?_
      have := hv u.length hpos (by rw [List.length_append]; have := List.length_pos_iff.2 ht; omega)
      rwa [List.drop_left] at this
    · simpa using h2 v []
  intro i h0 hi
  rw [List.length_append] at hi
  rcases Nat.lt_or_ge i u.length with h1 | h1
  · have h3 := hu i h0 h1
    rw [List.drop_append_of_le_length (by omega)]
    rcases lt_cases h3 with ⟨t, ht, h4⟩ | h2
    · have := congrArg List.length h4
      simp at this
      omega
    · exact h2 v v
  · obtain ⟨k, rfl⟩ : ∃ k, i = u.length + k := ⟨i - u.length, by omega⟩
    rw [List.drop_append]
    simp only [show u.length + k - u.length = k by omega, List.drop_eq_nil_of_le (show u.length ≤ u.length + k by omega), List.nil_append]
    rcases Nat.eq_zero_or_pos k with rfl | hk
    · simpa using hw
    · exact List.lt_trans hw (hv k hk (by omega))

theorem LynP.single (a : Int) : LynP [a] := fun i h0 hi => by simp at hi; omega
theorem LynP.empty : LynP [] := fun i h0 hi => by simp at hi

theorem argmin (m : Nat) (f : Nat → List Int) : ∃ k, k < m + 1 ∧ ∀ j, j < m + 1 → f k ≤ f j := by
  induction m with
  | zero => exact ⟨0, by omega, fun j hj => by obtain rfl : j = 0 := by omega
                                               exact List.not_lt.1 (List.lt_irrefl _)⟩
  | succ m ih =>
    obtain ⟨k, hk, h⟩ := ih
    by_cases hc : f (m + 1) < f k
    · refine ⟨m + 1, by omega, fun j hj => ?_⟩
      rcases Nat.lt_or_ge j (m + 1) with h1 | h1
      · exact (List.le_iff_lt_or_eq.1 (h j h1)).elim (fun h2 => List.le_of_lt (List.lt_trans hc h2)) (fun h2 => by rw [← h2]; exact List.le_of_lt hc)
      · obtain rfl : j = m + 1 := by omega
        exact List.not_lt.1 (List.lt_irrefl _)
    · refine ⟨k, by omega, fun j hj => ?_⟩
      rcases Nat.lt_or_ge j (m + 1) with h1 | h1
      · exact h j h1
      · obtain rfl : j = m + 1 := by omega
        exact List.not_lt.1 hc
theorem least_end (u : List Int) (h0 : u ≠ []) : ∃ k, k < u.length ∧ LynP (u.drop k) ∧ u.drop k ≤ u := by
  have hpos := List.length_pos_iff.2 h0
  obtain ⟨m, hm⟩ : ∃ m, u.length = m + 1 := ⟨u.length - 1, by omega⟩
  obtain ⟨k, hk, h⟩ := argmin m (fun j => u.drop j)
  refine ⟨k, by omega, fun i hi hil => ?_, by simpa using h 0 (by omega)⟩
  rw [List.length_drop] at hil
  rw [List.drop_drop]
  rcases List.le_iff_lt_or_eq.1 (h (k + i) (by omega)) with h1 | h1
  · exact h1
  · have := congrArg List.length h1
    simp at this
    omega
/-- a word that is not before all its ends has a proper end that is such a word and not behind it -/
theorem bad_end {u : List Int} (h0 : u ≠ []) (hu : ¬ LynP u) : ∃ k, 0 < k ∧ k < u.length ∧ LynP (u.drop k) ∧ u.drop k ≤ u := by
  obtain ⟨k, h1, h2, h3⟩ := least_end u h0
  rcases Nat.eq_zero_or_pos k with rfl | hk
  · exact absurd (by simpa using h2) hu
  · exact ⟨k, hk, h1, h2, h3⟩

/-- the cut of such a word before its longest proper end that is one -/
theorem cut_spec {w : List Int} (hw : LynP w) (n : Nat) (h0 : 0 < n) (hn : n < w.length) (hv : LynP (w.drop n)) (hl : ∀ m, 0 < m → m < n → ¬ LynP (w.drop m)) :
    LynP (w.take n) ∧ w.take n < w.drop n := by
  have hlen : (w.take n).length = n := by simp; omega
  have hu0 : w.take n ≠ [] := by intro h; rw [h] at hlen; simp at hlen; omega
  have huw : w.take n < w := by
    conv => rhs; rw [← List.take_append_drop n w]
    refine lt_append _ ?_
    intro h
    have := congrArg List.length h
    simp at this
    omega
  have hwv := hw n h0 hn
  refine ⟨?_, List.lt_trans huw hwv⟩
  by_cases hu : LynP (w.take n)
  · exact hu
  exfalso
  obtain ⟨k, hk, hkl, h1, h2⟩ := bad_end hu0 hu
  rw [hlen] at hkl
  by_cases hc : (w.take n).drop k < w.drop n
  · refine hl k hk hkl ?_
    have := LynP.joined h1 hv (by intro h; have := congrArg List.length h; simp at this; omega) hc
    have he : w.drop k = (w.take n).drop k ++ w.drop n := by
      conv => lhs; rw [← List.take_append_drop n w]
      rw [List.drop_append_of_le_length (by omega)]
    rw [he]
    exact this
  · have h3 := List.not_lt.1 hc
    have h4 : w.drop n < w := List.lt_of_le_of_lt h3 (List.lt_of_le_of_lt h2 huw)
    exact List.lt_irrefl _ (List.lt_trans h4 hwv)


theorem lexC_lt (xs ys : List Int) : lexC xs ys < 0 ↔ xs < ys := by
  induction xs generalizing ys with
  | nil => cases ys with
    | nil => simp [lexC]
    | cons y ys => simp [lexC]
  | cons x xs ih =>
    cases ys with
    | nil => simp [lexC]
    | cons y ys =>
      rw [List.cons_lt_cons_iff]
      simp only [lexC]
      rcases Int.lt_trichotomy x y with h | h | h
      · simp [cmpI, h]
      · subst h
        simp [cmpI_self, ih]
      · have hx : ¬ x < y := by omega
        have hne : x ≠ y := by omega
        simp [cmpI, hx, h, hne]

def lynB (w : List Int) : Bool := decide (∀ i, i < w.length → 0 < i → lexC w (w.drop i) < 0)
theorem lynB_iff {w : List Int} : lynB w = true ↔ LynP w := by
  unfold lynB LynP
  rw [decide_eq_true_iff]
  exact ⟨fun h i h0 hi => (lexC_lt _ _).1 (h i hi h0), fun h i hi h0 => (lexC_lt _ _).2 (h i h0 hi)⟩
theorem lynB_all {w : List Int} (h : ∀ i, i < w.length → 0 < i → lexC w (w.drop i) < 0) : lynB w = true := by
  unfold lynB; rw [decide_eq_true_iff]; exact h
theorem lynB_not {w : List Int} (i : Nat) (h0 : 0 < i) (hi : i < w.length) (h : 0 ≤ lexC w (w.drop i)) : lynB w = false := by
  unfold lynB; rw [decide_eq_false_iff_not]; intro hh; have := hh i hi h0; omega
theorem lynB_short {w : List Int} (h : w.length ≤ 1) : lynB w = true := lynB_all fun i hi h0 => by omega

/-- letters -/
def letB (w : List Int) : Bool := !(w.any fun x => !insB x 0 3)
/-- words of 1 to 8 letters -/
def freeB (w : List Int) : Bool := insB w.length 1 8 && letB w
def lynOk (w : List Int) : Bool := freeB w && lynB w

/-- how long the longest beginning of at most n letters is that is a Lyndon word -/
def lpre (w : List Int) : Nat → Nat
  | 0 => 0
  | n + 1 => if lynB (w.take (n + 1)) then n + 1 else lpre w n
theorem lpre_le (w : List Int) (n : Nat) : lpre w n ≤ n := by
  induction n with
  | zero => exact Nat.le_refl _
  | succ n ih => unfold lpre; split; exact Nat.le_refl _; omega
theorem lpre_lyn (w : List Int) (n : Nat) : lynB (w.take (lpre w n)) = true := by
  induction n with
  | zero => exact lynB_short (by simp [lpre])
  | succ n ih => unfold lpre; split; assumption; exact ih
theorem lpre_max (w : List Int) (n m : Nat) (h : lpre w n < m) (hm : m ≤ n) : lynB (w.take m) = false := by
  induction n with
  | zero => omega
  | succ n ih =>
    unfold lpre at h
    split at h
    · omega
    · rename_i hc
      rcases Nat.lt_or_ge m (n + 1) with h1 | h1
      · exact ih h (by omega)
      · obtain rfl : m = n + 1 := by omega
        simpa using hc
theorem lpre_pos (w : List Int) (n : Nat) (hn : 0 < n) : 0 < lpre w n := by
  rcases Nat.eq_zero_or_pos (lpre w n) with h | h
  · have := lpre_max w n 1 (by omega) hn
    rw [lynB_short (by simp; omega)] at this
    cases this
  · exact h
theorem lpre_yes {w : List Int} {n : Nat} (h0 : 0 < n) (h : lynB (w.take n) = true) : lpre w n = n := by
  obtain ⟨m, rfl⟩ : ∃ m, n = m + 1 := ⟨n - 1, by omega⟩
  simp [lpre, h]
theorem lpre_no {w : List Int} {n : Nat} (h : lynB (w.take n) = false) : lpre w n = lpre w (n - 1) := by
  cases n with
  | zero => rfl
  | succ n => simp [lpre, h]

/-- the factors -/
def facL : Nat → List Int → List (List Int)
  | 0, _ => []
  | f + 1, w => if w.length = 0 then [] else w.take (lpre w w.length) :: facL f (w.drop (lpre w w.length))
theorem facL_join (f : Nat) (w : List Int) (hf : w.length ≤ f) : (facL f w).flatten = w := by
  induction f generalizing w with
  | zero => simp [facL]; exact List.eq_nil_of_length_eq_zero (by omega)
  | succ f ih =>
    unfold facL
    split
    · rename_i h; simp; exact List.eq_nil_of_length_eq_zero h
    · rename_i h
      have hp := lpre_pos w w.length (by omega)
      rw [List.flatten_cons, ih _ (by simp; omega), List.take_append_drop]
theorem facL_lyn (f : Nat) (w : List Int) : ∀ x ∈ facL f w, lynB x = true ∧ x ≠ [] := by
  induction f generalizing w with
  | zero => simp [facL]
  | succ f ih =>
    unfold facL
    split
    · simp
    · rename_i h
      intro x hx
      rcases List.mem_cons.1 hx with rfl | hx
      · refine ⟨lpre_lyn _ _, fun e => ?_⟩
        have hp := lpre_pos w w.length (by omega)
        have := congrArg List.length e
        simp at this
        rcases this with h1 | h1
        · omega
        · subst h1; simp at h
      · exact ih _ x hx
theorem facL_sub (f : Nat) (w : List Int) : ∀ x ∈ facL f w, ∃ i, x = (w.drop i).take x.length := by
  induction f generalizing w with
  | zero => simp [facL]
  | succ f ih =>
    unfold facL
    split
    · simp
    · intro x hx
      rcases List.mem_cons.1 hx with rfl | hx
      · exact ⟨0, by simp⟩
      · obtain ⟨i, hi⟩ := ih _ x hx
        exact ⟨lpre w w.length + i, by rw [List.drop_drop] at hi; exact hi⟩
theorem facL_down (f : Nat) (w : List Int) (hf : w.length ≤ f) (k : Nat) (hk : k + 1 < (facL f w).length) : ¬ (facL f w).getD k [] < (facL f w).getD (k + 1) [] := by
  induction f generalizing w k with
  | zero => simp [facL] at hk
  | succ f ih =>
    unfold facL at hk ⊢
    split
    · rename_i h; rw [if_pos h] at hk; simp at hk
    · rename_i h
      rw [if_neg h] at hk
      have hp := lpre_pos w w.length (by omega)
      have hle := lpre_le w w.length
      cases k with
      | zero =>
        cases f with
        | zero => simp [facL] at hk
        | succ f =>
          have hd : (w.drop (lpre w w.length)).length ≠ 0 := by
            intro h0
            rw [List.length_drop] at h0
            unfold facL at hk
            rw [if_pos (by rw [List.length_drop]; exact h0)] at hk
            simp at hk
          unfold facL
          rw [if_neg hd]
          simp only [List.getD_cons_zero, List.getD_cons_succ]
          intro hlt
          have l1 := lynB_iff.1 (lpre_lyn w w.length)
          have l2 := lynB_iff.1 (lpre_lyn (w.drop (lpre w w.length)) (w.drop (lpre w w.length)).length)
          have hp2 := lpre_pos (w.drop (lpre w w.length)) (w.drop (lpre w w.length)).length (by omega)
          have hle2 := lpre_le (w.drop (lpre w w.length)) (w.drop (lpre w w.length)).length
          have hj := LynP.joined l1 l2 (by intro e; have := congrArg List.length e; simp at this; rcases this with h1 | h1; omega; subst h1; simp at h) hlt
          have e : w.take (lpre w w.length) ++ (w.drop (lpre w w.length)).take (lpre (w.drop (lpre w w.length)) (w.drop (lpre w w.length)).length) = w.take (lpre w w.length + lpre (w.drop (lpre w w.length)) (w.drop (lpre w w.length)).length) := by
            rw [List.take_add]
          rw [e] at hj
          have hmax := lpre_max w w.length (lpre w w.length + lpre (w.drop (lpre w w.length)) (w.drop (lpre w w.length)).length) (by omega) (by have hdl := List.length_drop (i := lpre w w.length) (l := w); omega)
          rw [lynB_iff.2 hj] at hmax
          cases hmax
      | succ k =>
        simp only [List.getD_cons_succ]
        exact ih _ (by simp; omega) k (by simpa using hk)
theorem facL_one (f : Nat) (w : List Int) (hf : w.length ≤ f) (h0 : w ≠ []) : lynB w = decide ((facL f w).length = 1) := by
  have hj := facL_join f w hf
  have hl := facL_lyn f w
  cases hw : lynB w
  · symm
    rw [decide_eq_false_iff_not]
    intro h1
    obtain ⟨x, hx⟩ := List.length_eq_one_iff.1 h1
    rw [hx] at hj hl
    simp at hj hl
    subst hj
    rw [hl.1] at hw
    cases hw
  · symm
    rw [decide_eq_true_iff]
    have hlen := List.length_pos_iff.2 h0
    cases f with
    | zero => omega
    | succ f =>
      unfold facL
      rw [if_neg (by omega), lpre_yes (by omega) (by rw [List.take_length]; exact hw), List.drop_length]
      cases f <;> simp [facL]

/-- where the longest proper end that is a Lyndon word begins, from n on -/
def cutTo (w : List Int) : Nat → Nat → Nat
  | 0, n => n
  | f + 1, n => if lynB (w.drop n) then n else cutTo w f (n + 1)
def cutL (w : List Int) : Nat := cutTo w w.length 1
theorem cutTo_lyn (w : List Int) (f n : Nat) (h : w.length ≤ n + f) : lynB (w.drop (cutTo w f n)) = true := by
  induction f generalizing n with
  | zero => exact lynB_short (by simp [cutTo]; omega)
  | succ f ih => unfold cutTo; split; assumption; exact ih (n + 1) (by omega)
theorem cutTo_ge (w : List Int) (f n : Nat) : n ≤ cutTo w f n := by
  induction f generalizing n with
  | zero => exact Nat.le_refl _
  | succ f ih => unfold cutTo; split; exact Nat.le_refl _; exact Nat.le_trans (Nat.le_succ _) (ih _)
theorem cutTo_min (w : List Int) (f n m : Nat) (h0 : n ≤ m) (h1 : m < cutTo w f n) : lynB (w.drop m) = false := by
  induction f generalizing n with
  | zero => simp [cutTo] at h1; omega
  | succ f ih =>
    unfold cutTo at h1
    split at h1
    · omega
    · rename_i hc
      rcases Nat.lt_or_ge n m with h2 | h2
      · exact ih (n + 1) (by omega) h1
      · obtain rfl : m = n := by omega
        simpa using hc
theorem cutTo_stop {w : List Int} {f n : Nat} (h : lynB (w.drop n) = true) : cutTo w f n = n := by
  cases f with
  | zero => rfl
  | succ f => simp [cutTo, h]
theorem cutTo_step {w : List Int} {f n : Nat} (h : lynB (w.drop n) = false) : cutTo w (f + 1) n = cutTo w f (n + 1) := by simp [cutTo, h]
theorem cutTo_le (w : List Int) (f n : Nat) (hn : n < w.length) : cutTo w f n < w.length := by
  rcases Nat.lt_or_ge (cutTo w f n) w.length with h | h
  · exact h
  · have := cutTo_min w f n (w.length - 1) (by omega) (by omega)
    rw [lynB_short (by simp; omega)] at this
    cases this
theorem cutL_le (w : List Int) (h : 2 ≤ w.length) : 1 ≤ cutL w ∧ cutL w < w.length := ⟨cutTo_ge _ _ _, cutTo_le _ _ _ (by omega)⟩
theorem cutL_spec {w : List Int} (hw : lynB w = true) (h : 2 ≤ w.length) : lynB (w.take (cutL w)) = true ∧ lynB (w.drop (cutL w)) = true ∧ w.take (cutL w) < w.drop (cutL w) := by
  have h1 := cutL_le w h
  have hv : lynB (w.drop (cutL w)) = true := cutTo_lyn _ _ _ (by omega)
  obtain ⟨h2, h3⟩ := cut_spec (lynB_iff.1 hw) (cutL w) (by omega) h1.2 (lynB_iff.1 hv) (fun m h0 hm hl => by
    have := cutTo_min w w.length 1 m h0 hm
    rw [lynB_iff.2 hl] at this
    cases this)
  exact ⟨lynB_iff.2 h2, hv, h3⟩
theorem letB_sub {w : List Int} (h : letB w = true) (i n : Nat) : letB ((w.drop i).take n) = true := by
  unfold letB at *
  simp only [Bool.not_eq_true', List.any_eq_false] at *
  exact fun x hx => h x (List.mem_of_mem_drop (List.mem_of_mem_take hx))
end Go.Proofs.YthbdcclglopkiaaDoor
