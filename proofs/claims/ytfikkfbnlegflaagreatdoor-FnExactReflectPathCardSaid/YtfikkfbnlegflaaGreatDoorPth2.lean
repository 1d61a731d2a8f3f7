/-
  Paths, plain: a reflection between two times; lowering, and raising as lowering gone back. No program in sight.
-/
import Derived.Test.YtfikkfbnlegflaaGreatDoorPth
namespace Go.Proofs.YtfikkfbnlegflaaGreatDoor

def within (n lo hi : Int) : Int := if n < lo then lo else if n > hi then hi else n
/-- the pieces of step k, by the times u and v between which a reflection R is applied -/
def betK (R : List Int → List Int) (u v : Int) (p : List Stp) (k : Nat) : List Stp :=
  [(wayAt p k, within u (timeAt p k) (timeAt p (k + 1)) - timeAt p k), (R (wayAt p k), within v (timeAt p k) (timeAt p (k + 1)) - within u (timeAt p k) (timeAt p (k + 1))), (wayAt p k, timeAt p (k + 1) - within v (timeAt p k) (timeAt p (k + 1)))]
def betTo (R : List Int → List Int) (u v : Int) (p : List Stp) (n : Nat) : List Stp := (List.range n).flatMap (betK R u v p)
def betS (R : List Int → List Int) (u v : Int) (p : List Stp) : List Stp := betTo R u v p p.length
theorem betTo_succ (R : List Int → List Int) (u v : Int) (p : List Stp) (n : Nat) : betTo R u v p (n + 1) = betTo R u v p n ++ betK R u v p n := by simp [betTo, List.range_succ]
/-- the same by places of steps and times within them -/
def turnK (R : List Int → List Int) (p : List Stp) (a : Nat) (fr : Int) (b : Nat) (to : Int) (k : Nat) : List Stp :=
  if k < a ∨ b < k then [(wayAt p k, lenAt p k)] else
  [(wayAt p k, if k = a then fr else 0), (R (wayAt p k), (if k = b then to else lenAt p k) - if k = a then fr else 0), (wayAt p k, lenAt p k - if k = b then to else lenAt p k)]
def turnTo (R : List Int → List Int) (p : List Stp) (a : Nat) (fr : Int) (b : Nat) (to : Int) (n : Nat) : List Stp := (List.range n).flatMap (turnK R p a fr b to)
theorem turnTo_succ (R : List Int → List Int) (p : List Stp) (a : Nat) (fr : Int) (b : Nat) (to : Int) (n : Nat) : turnTo R p a fr b to (n + 1) = turnTo R p a fr b to n ++ turnK R p a fr b to n := by simp [turnTo, List.range_succ]

def Lens (p : List Stp) : Prop := ∀ k, k < p.length → 0 ≤ lenAt p k
theorem timeAt_mono {p : List Stp} (h : Lens p) : ∀ (d k : Nat), k + d ≤ p.length → timeAt p k ≤ timeAt p (k + d)
  | 0, k, _ => Int.le_refl _
  | d + 1, k, hk => by
    have := timeAt_mono h d k (by omega)
    have h2 := h (k + d) (by omega)
    show timeAt p k ≤ timeAt p (k + d) + lenAt p (k + d)
    omega
theorem timeAt_le {p : List Stp} (h : Lens p) {j k : Nat} (hj : j ≤ k) (hk : k ≤ p.length) : timeAt p j ≤ timeAt p k := by
  have := timeAt_mono h (k - j) j (by omega)
  rwa [show j + (k - j) = k by omega] at this
theorem lens_of_path {r : Nat} {p : List Stp} (h : PathP r p) : Lens p := fun k hk => by have := h.dur k hk; omega

theorem within_mid {n lo hi : Int} (h1 : lo ≤ n) (h2 : n ≤ hi) : within n lo hi = n := by unfold within; rw [if_neg (by omega), if_neg (by omega)]
theorem within_lo {n lo hi : Int} (h1 : n ≤ lo) (h2 : lo ≤ hi) : within n lo hi = lo := by
  unfold within
  split
  · rfl
  · rw [if_neg (by omega)]; omega
theorem within_hi {n lo hi : Int} (h1 : hi ≤ n) (h2 : lo ≤ hi) : within n lo hi = hi := by
  unfold within
  rw [if_neg (by omega)]
  split
  · rfl
  · omega
theorem within_bd {n lo hi : Int} (h : lo ≤ hi) : lo ≤ within n lo hi ∧ within n lo hi ≤ hi := by
  unfold within
  split
  · omega
  · split <;> omega
theorem within_le {u v lo hi : Int} (h : u ≤ v) (h2 : lo ≤ hi) : within u lo hi ≤ within v lo hi := by
  unfold within
  split <;> split <;> (try split) <;> (try split) <;> omega

structure Turn (p : List Stp) (a : Nat) (fr : Int) (b : Nat) (to : Int) : Prop where
  ab : a ≤ b
  an : a < p.length
  bn : b ≤ p.length
  fr0 : 0 ≤ fr
  fr1 : fr ≤ lenAt p a
  to0 : 0 ≤ to
  to1 : b < p.length → to ≤ lenAt p b
  last : b = p.length → to = 0
  eq : a = b → fr ≤ to
theorem expand_three (x y z : Stp) : expand [x, y, z] = List.replicate x.2.toNat x.1 ++ (List.replicate y.2.toNat y.1 ++ List.replicate z.2.toNat z.1) := by simp [expand]
theorem turn_eq (R : List Int → List Int) {p : List Stp} (hl : Lens p) {a b : Nat} {fr to : Int} (h : Turn p a fr b to) : ∀ n, n ≤ p.length →
    expand (turnTo R p a fr b to n) = expand (betTo R (timeAt p a + fr) (timeAt p b + to) p n) := by
  intro n
  induction n with
  | zero => intro _; rfl
  | succ n ih =>
    intro hn
    rw [turnTo_succ, betTo_succ, expand_append, expand_append, ih (by omega)]
    congr 1
    obtain ⟨h1, h2, h3, h4, h5, h6, h7, h8, h9⟩ := h
    have hln := hl n (by omega)
    have hs : timeAt p (n + 1) = timeAt p n + lenAt p n := rfl
    have hle : timeAt p n ≤ timeAt p (n + 1) := by omega
    have hsa : timeAt p (a + 1) = timeAt p a + lenAt p a := rfl
    unfold turnK betK
    rw [expand_three]
    by_cases c1 : n < a
    · rw [if_pos (.inl c1), expand_one]
      have e1 := timeAt_le hl (show n + 1 ≤ a by omega) (by omega)
      have e2 := timeAt_le hl h1 (by omega)
      rw [within_hi (by omega) hle, within_hi (by omega) hle]
      rw [hs, show timeAt p n + lenAt p n - timeAt p n = lenAt p n by omega]
      simp
    · by_cases c2 : b < n
      · rw [if_pos (.inr c2), expand_one]
        have e1 := timeAt_le hl (show b + 1 ≤ n by omega) (by omega)
        have e2 := timeAt_le hl (show a + 1 ≤ n by omega) (by omega)
        have e3 := h7 (by omega)
        have hsb : timeAt p (b + 1) = timeAt p b + lenAt p b := rfl
        rw [within_lo (by omega) hle, within_lo (by omega) hle]
        rw [hs, show timeAt p n + lenAt p n - timeAt p n = lenAt p n by omega]
        simp
      · rw [if_neg (by omega), expand_three]
        have ea : within (timeAt p a + fr) (timeAt p n) (timeAt p (n + 1)) = timeAt p n + (if n = a then fr else 0) := by
          split
          · rename_i e; subst e
            rw [within_mid (by omega) (by omega)]
          · have e1 := timeAt_le hl (show a + 1 ≤ n by omega) (by omega)
            rw [within_lo (by omega) hle]
            omega
        have eb : within (timeAt p b + to) (timeAt p n) (timeAt p (n + 1)) = timeAt p n + (if n = b then to else lenAt p n) := by
          split
          · rename_i e; subst e
            have := h7 (by omega)
            rw [within_mid (by omega) (by rw [hs]; omega)]
          · have e1 := timeAt_le hl (show n + 1 ≤ b by omega) (by omega)
            rw [within_hi (by omega) hle]
            omega
        rw [ea, eb, hs]
        generalize (if n = a then fr else 0) = X
        generalize (if n = b then to else lenAt p n) = Y
        rw [show timeAt p n + X - timeAt p n = X by omega, show timeAt p n + Y - (timeAt p n + X) = Y - X by omega, show timeAt p n + lenAt p n - (timeAt p n + Y) = lenAt p n - Y by omega]
theorem expand_filter (p : List Stp) : expand (p.filter fun s => s.2 != 0) = expand p := by
  induction p with
  | nil => rfl
  | cons s p ih =>
    have h2 : expand (s :: p) = List.replicate s.2.toNat s.1 ++ expand p := by simp [expand]
    rw [h2, List.filter_cons]
    split
    · have h3 : expand (s :: p.filter fun s => s.2 != 0) = List.replicate s.2.toNat s.1 ++ expand (p.filter fun s => s.2 != 0) := by simp [expand]
      rw [h3, ih]
    · rename_i h
      have : s.2 = 0 := by simpa using h
      rw [ih, this]
      rfl
theorem bet_nonneg (R : List Int → List Int) {p : List Stp} (hl : Lens p) {u v : Int} (huv : u ≤ v) (n : Nat) (hn : n ≤ p.length) : ∀ s ∈ betTo R u v p n, 0 ≤ s.2 := by
  intro s hs
  simp only [betTo, List.mem_flatMap, List.mem_range] at hs
  obtain ⟨k, hk, hs⟩ := hs
  have h1 := hl k (by omega)
  have h2 : timeAt p k ≤ timeAt p (k + 1) := by show timeAt p k ≤ timeAt p k + lenAt p k; omega
  have h3 := within_bd (n := u) h2
  have h4 := within_bd (n := v) h2
  have h5 := within_le huv h2
  simp only [betK, List.mem_cons, List.not_mem_nil, or_false] at hs
  rcases hs with rfl | rfl | rfl
  · show 0 ≤ _ - _; omega
  · show 0 ≤ _ - _; omega
  · show 0 ≤ _ - _; omega
theorem turn_nonneg (R : List Int → List Int) {p : List Stp} (hl : Lens p) {a b : Nat} {fr to : Int} (h : Turn p a fr b to) (n : Nat) (hn : n ≤ p.length) : ∀ s ∈ turnTo R p a fr b to n, 0 ≤ s.2 := by
  intro s hs
  simp only [turnTo, List.mem_flatMap, List.mem_range] at hs
  obtain ⟨k, hk, hs⟩ := hs
  have h1 := hl k (by omega)
  obtain ⟨g1, g2, g3, g4, g5, g6, g7, g8, g9⟩ := h
  unfold turnK at hs
  split at hs
  · simp only [List.mem_singleton] at hs
    subst hs
    exact h1
  · simp only [List.mem_cons, List.not_mem_nil, or_false] at hs
    have e1 : k = b → to ≤ lenAt p k := by rintro rfl; exact g7 (by omega)
    have e2 : k = a → fr ≤ lenAt p k := by rintro rfl; exact g5
    rcases hs with rfl | rfl | rfl
    · show 0 ≤ if k = a then fr else 0
      split <;> omega
    · show 0 ≤ (if k = b then to else lenAt p k) - if k = a then fr else 0
      split <;> split <;> omega
    · show 0 ≤ lenAt p k - if k = b then to else lenAt p k
      split <;> omega
theorem turn_le {p : List Stp} (hl : Lens p) {a b : Nat} {fr to : Int} (h : Turn p a fr b to) : timeAt p a + fr ≤ timeAt p b + to := by
  obtain ⟨g1, g2, g3, g4, g5, g6, g7, g8, g9⟩ := h
  rcases Nat.eq_or_lt_of_le g1 with rfl | h1
  · have := g9 rfl; omega
  · have := timeAt_le hl (show a + 1 ≤ b by omega) g3
    have hsa : timeAt p (a + 1) = timeAt p a + lenAt p a := rfl
    omega
/-- both ways to apply a reflection between two times -/
theorem turn_check (R : List Int → List Int) {r : Nat} {p : List Stp} (hl : Lens p) {a b : Nat} {fr to : Int} (h : Turn p a fr b to) :
    checkS r ((turnTo R p a fr b to p.length).filter fun s => s.2 != 0) = checkS r (betS R (timeAt p a + fr) (timeAt p b + to) p) := by
  unfold checkS
  have h1 := turn_nonneg R hl h p.length (Nat.le_refl _)
  have h2 := bet_nonneg R hl (turn_le hl h) p.length (Nat.le_refl _)
  have h3 : joinS ((turnTo R p a fr b to p.length).filter fun s => s.2 != 0) = joinS (betS R (timeAt p a + fr) (timeAt p b + to) p) := by
    refine join_congr (fun s hs => h1 s (List.mem_filter.1 hs).1) h2 ?_
    rw [expand_filter, turn_eq R hl h p.length (Nat.le_refl _)]
    rfl
  rw [h3]

/-! ### a path gone back -/
theorem bet_mir (R : List Int → List Int) (hR : ∀ w, R (negW w) = negW (R w)) {p : List Stp} (hl : Lens p) {u v : Int} (huv : u ≤ v) :
    joinS (betS R (timeAt p p.length - v) (timeAt p p.length - u) (mirS p)) = joinS (mirS (betS R u v p)) := by
  have hlm : Lens (mirS p) := fun k hk => by
    rw [mirS_length] at hk
    rw [(mirS_get p k hk).2]
    exact hl _ (by omega)
  refine join_congr (bet_nonneg R hlm (by omega) _ (Nat.le_refl _)) ?_ ?_
  · intro s hs
    simp only [mirS, List.mem_reverse, List.mem_map] at hs
    obtain ⟨t, ht, rfl⟩ := hs
    exact bet_nonneg R hl huv _ (Nat.le_refl _) t ht
  rw [expand_mir]
  unfold betS
  rw [mirS_length]
  have key : ∀ n, n ≤ p.length → expand (betTo R (timeAt p p.length - v) (timeAt p p.length - u) (mirS p) n) ++ ((expand (betTo R u v p (p.length - n))).map negW).reverse = ((expand (betTo R u v p p.length)).map negW).reverse := by
    intro n
    induction n with
    | zero => intro _; simp [betTo, expand]
    | succ n ih =>
      intro hn
      rw [← ih (by omega), betTo_succ, expand_append, List.append_assoc]
      congr 1
      obtain ⟨m, hm⟩ : ∃ m, m = p.length - (n + 1) := ⟨_, rfl⟩
      have hm2 : p.length - n = m + 1 := by omega
      rw [← hm, hm2, betTo_succ, expand_append, List.map_append, List.reverse_append]
      congr 1
      unfold betK
      rw [expand_three, expand_three]
      obtain ⟨e1, e2⟩ := mirS_get p n (by omega)
      rw [show p.length - 1 - n = m by omega] at e1 e2
      have t0 := timeAt_mir p n (by omega)
      have t1 := timeAt_mir p (n + 1) (by omega)
      rw [hm2] at t0
      rw [← hm] at t1
      have hlm := hl m (by omega)
      have hs : timeAt p (m + 1) = timeAt p m + lenAt p m := rfl
      have wm : ∀ x, within (timeAt p p.length - x) (timeAt (mirS p) n) (timeAt (mirS p) (n + 1)) = timeAt p p.length - within x (timeAt p m) (timeAt p (m + 1)) := by
        intro x
        rw [t0, t1]
        unfold within
        split <;> split <;> (try split) <;> (try split) <;> omega
      rw [wm, wm, t0, t1, e1, hR]
      generalize within u (timeAt p m) (timeAt p (m + 1)) = X
      generalize within v (timeAt p m) (timeAt p (m + 1)) = Y
      simp only [List.map_append, List.map_replicate, List.reverse_append, List.reverse_replicate, List.append_assoc]
      rw [show timeAt p p.length - Y - (timeAt p p.length - timeAt p (m + 1)) = timeAt p (m + 1) - Y by omega, show timeAt p p.length - X - (timeAt p p.length - Y) = Y - X by omega, show timeAt p p.length - timeAt p m - (timeAt p p.length - X) = X - timeAt p m by omega]
  have := key p.length (Nat.le_refl _)
  rw [Nat.sub_self] at this
  simpa [betTo, expand] using this

/-! ### places -/
def lastEq (f : Nat → Bool) : Nat → Nat
  | 0 => 0
  | k + 1 => if f (k + 1) then k + 1 else lastEq f k
theorem lastEq_of {f : Nat → Bool} : ∀ {n a : Nat}, a ≤ n → f a = true → (∀ k, a < k → k ≤ n → f k = false) → lastEq f n = a
  | 0, a, h, _, _ => by simp [lastEq]; omega
  | n + 1, a, h, hf, hn => by
    unfold lastEq
    by_cases e : a = n + 1
    · subst e; rw [if_pos hf]
    · rw [if_neg (by rw [hn (n + 1) (by omega) (Nat.le_refl _)]; simp)]
      exact lastEq_of (by omega) hf fun k h1 h2 => hn k h1 (by omega)
theorem lastEq_spec {f : Nat → Bool} : ∀ {n a : Nat}, a ≤ n → f a = true → lastEq f n ≤ n ∧ f (lastEq f n) = true ∧ a ≤ lastEq f n ∧ ∀ k, lastEq f n < k → k ≤ n → f k = false
  | 0, a, h, hf => by
    obtain rfl : a = 0 := by omega
    exact ⟨Nat.le_refl _, hf, Nat.le_refl _, fun k h1 h2 => by simp [lastEq] at h1; omega⟩
  | n + 1, a, h, hf => by
    unfold lastEq
    split
    · rename_i e; exact ⟨Nat.le_refl _, e, h, fun k h1 h2 => by omega⟩
    · rename_i e
      have ha : a ≤ n := by
        rcases Nat.eq_or_lt_of_le h with rfl | h'
        · exact absurd hf e
        · omega
      obtain ⟨h1, h2, h3, h4⟩ := lastEq_spec ha hf
      refine ⟨by omega, h2, h3, fun k h5 h6 => ?_⟩
      rcases Nat.eq_or_lt_of_le h6 with rfl | h7
      · simpa using e
      · exact h4 k h5 (by omega)
def firstEq (f : Nat → Bool) : Nat → Nat → Nat
  | 0, k => k
  | n + 1, k => if f k then k else firstEq f n (k + 1)
theorem firstEq_of {f : Nat → Bool} : ∀ {n k a : Nat}, k ≤ a → a ≤ k + n → f a = true → (∀ j, k ≤ j → j < a → f j = false) → firstEq f n k = a
  | 0, k, a, h1, h2, _, _ => by simp [firstEq]; omega
  | n + 1, k, a, h1, h2, hf, hn => by
    unfold firstEq
    by_cases e : k = a
    · subst e; rw [if_pos hf]
    · rw [if_neg (by rw [hn k (Nat.le_refl _) (by omega)]; simp)]
      exact firstEq_of (by omega) (by omega) hf fun j h3 h4 => hn j (by omega) h4
theorem firstEq_spec {f : Nat → Bool} : ∀ {n k a : Nat}, k ≤ a → a ≤ k + n → f a = true → k ≤ firstEq f n k ∧ firstEq f n k ≤ a ∧ f (firstEq f n k) = true ∧ ∀ j, k ≤ j → j < firstEq f n k → f j = false
  | 0, k, a, h1, h2, hf => by
    obtain rfl : a = k := by omega
    exact ⟨Nat.le_refl _, Nat.le_refl _, hf, fun j h3 h4 => by simp [firstEq] at h4; omega⟩
  | n + 1, k, a, h1, h2, hf => by
    unfold firstEq
    split
    · rename_i e; exact ⟨Nat.le_refl _, h1, e, fun j h3 h4 => by omega⟩
    · rename_i e
      have ha : k + 1 ≤ a := by
        rcases Nat.eq_or_lt_of_le h1 with rfl | h'
        · exact absurd hf e
        · omega
      obtain ⟨h3, h4, h5, h6⟩ := firstEq_spec (n := n) ha (by omega) hf
      refine ⟨by omega, h4, h5, fun j h7 h8 => ?_⟩
      rcases Nat.eq_or_lt_of_le h7 with rfl | h9
      · simpa using e
      · exact h6 j (by omega) h8

def minHt (i : Nat) (p : List Stp) : Nat → Int
  | 0 => 0
  | k + 1 => if htAt i p (k + 1) < minHt i p k then htAt i p (k + 1) else minHt i p k
theorem minHt_le (i : Nat) (p : List Stp) : ∀ (n k : Nat), k ≤ n → minHt i p n ≤ htAt i p k
  | 0, k, h => by
    obtain rfl : k = 0 := by omega
    exact Int.le_refl _
  | n + 1, k, h => by
    unfold minHt
    rcases Nat.eq_or_lt_of_le h with rfl | h'
    · split <;> omega
    · have := minHt_le i p n k (by omega)
      split <;> omega
theorem minHt_at (i : Nat) (p : List Stp) : ∀ (n : Nat), ∃ k, k ≤ n ∧ htAt i p k = minHt i p n
  | 0 => ⟨0, Nat.le_refl _, rfl⟩
  | n + 1 => by
    unfold minHt
    split
    · exact ⟨n + 1, Nat.le_refl _, rfl⟩
    · obtain ⟨k, h1, h2⟩ := minHt_at i p n
      exact ⟨k, by omega, h2⟩
theorem minHt_eq {i : Nat} {p : List Stp} {n k : Nat} {m : Int} (hk : k ≤ n) (h1 : htAt i p k = m) (h2 : ∀ j, j ≤ n → m ≤ htAt i p j) : minHt i p n = m := by
  obtain ⟨j, h3, h4⟩ := minHt_at i p n
  have h5 := minHt_le i p n k hk
  have h6 := h2 j h3
  omega

/-! ### lowering and raising -/
def lowT (i : Nat) (p : List Stp) : Int := minHt i p p.length + 27720
def lowA (i : Nat) (p : List Stp) : Nat := lastEq (fun k => htAt i p k == minHt i p p.length) p.length
def lowB (i : Nat) (p : List Stp) : Nat := firstEq (fun k => decide (lowT i p ≤ htAt i p (k + 1))) p.length (lowA i p)
def slopeAt (i : Nat) (p : List Stp) (k : Nat) : Int := (wayAt p k).getD i 0
def lowS (r : Nat) (R : List Int → List Int) (i : Nat) (p : List Stp) : Option (List Stp) :=
  if htAt i p p.length < lowT i p then none
  else if (lowT i p - htAt i p (lowB i p)).tmod (slopeAt i p (lowB i p)) = 0 then checkS r (betS R (timeAt p (lowA i p)) (timeAt p (lowB i p) + (lowT i p - htAt i p (lowB i p)).tdiv (slopeAt i p (lowB i p))) p)
  else none
def raiB (i : Nat) (p : List Stp) : Nat := firstEq (fun k => htAt i p k == minHt i p p.length) p.length 0
def raiA (i : Nat) (p : List Stp) : Nat := lastEq (fun k => decide (lowT i p ≤ htAt i p k)) (raiB i p)
def raiS (r : Nat) (R : List Int → List Int) (i : Nat) (p : List Stp) : Option (List Stp) :=
  if 0 < lowT i p then none
  else if (lowT i p - htAt i p (raiA i p)).tmod (slopeAt i p (raiA i p)) = 0 then checkS r (betS R (timeAt p (raiA i p) + (lowT i p - htAt i p (raiA i p)).tdiv (slopeAt i p (raiA i p))) (timeAt p (raiB i p)) p)
  else none

/-- what the search for the two places finds -/
structure LowP (i : Nat) (p : List Stp) (a b : Nat) : Prop where
  ab : a ≤ b
  bn : b < p.length
  ha : htAt i p a = minHt i p p.length
  aft : ∀ k, a < k → k ≤ p.length → htAt i p k ≠ minHt i p p.length
  hb : htAt i p b < lowT i p
  hb1 : lowT i p ≤ htAt i p (b + 1)
theorem low_places {i : Nat} {p : List Stp} (h : lowT i p ≤ htAt i p p.length) : LowP i p (lowA i p) (lowB i p) := by
  obtain ⟨k, hk, hk2⟩ := minHt_at i p p.length
  obtain ⟨h1, h2, _, h4⟩ := lastEq_spec (f := fun k => htAt i p k == minHt i p p.length) hk (by simpa using hk2)
  have h2' : htAt i p (lowA i p) = minHt i p p.length := by simpa [lowA] using h2
  have hT : lowT i p = minHt i p p.length + 27720 := rfl
  have hlt : lowA i p < p.length := by
    rcases Nat.lt_or_ge (lowA i p) p.length with h | h'
    · exact h
    · exfalso
      have e : lowA i p = p.length := Nat.le_antisymm h1 h'
      rw [e] at h2'
      omega
  obtain ⟨g1, g2, g3, g4⟩ := firstEq_spec (f := fun k => decide (lowT i p ≤ htAt i p (k + 1))) (n := p.length) (k := lowA i p) (a := p.length - 1) (by omega) (by omega) (by rw [show p.length - 1 + 1 = p.length by omega]; simpa using h)
  refine ⟨g1, by show firstEq _ _ _ < _; omega, h2', fun k h5 h6 => by simpa using h4 k h5 h6, ?_, by simpa [lowB] using g3⟩
  show htAt i p (lowB i p) < _
  rcases Nat.eq_or_lt_of_le g1 with h5 | h5
  · have e : lowB i p = lowA i p := h5.symm
    rw [e, h2']
    omega
  · have := g4 (lowB i p - 1) (by show _ ≤ lowB i p - 1; have : lowA i p < lowB i p := h5; omega) (by show lowB i p - 1 < lowB i p; have : lowA i p < lowB i p := h5; omega)
    have h6 : lowA i p < lowB i p := h5
    rw [show lowB i p - 1 + 1 = lowB i p by omega] at this
    simpa using this
structure RaiP (i : Nat) (p : List Stp) (a b : Nat) : Prop where
  ab : a < b
  bn : b ≤ p.length
  hb : htAt i p b = minHt i p p.length
  bef : ∀ k, k < b → htAt i p k ≠ minHt i p p.length
  ha : lowT i p ≤ htAt i p a
  ha1 : htAt i p (a + 1) < lowT i p
theorem rai_places {i : Nat} {p : List Stp} (h : lowT i p ≤ 0) : RaiP i p (raiA i p) (raiB i p) := by
  obtain ⟨k, hk, hk2⟩ := minHt_at i p p.length
  obtain ⟨_, g2, g3, g4⟩ := firstEq_spec (f := fun k => htAt i p k == minHt i p p.length) (n := p.length) (k := 0) (a := k) (by omega) (by omega) (by simpa using hk2)
  have g3' : htAt i p (raiB i p) = minHt i p p.length := by simpa [raiB] using g3
  have hT : lowT i p = minHt i p p.length + 27720 := rfl
  obtain ⟨h1, h2, _, h4⟩ := lastEq_spec (f := fun k => decide (lowT i p ≤ htAt i p k)) (n := raiB i p) (a := 0) (Nat.zero_le _) (decide_eq_true (show lowT i p ≤ htAt i p 0 from h))
  have h2' : lowT i p ≤ htAt i p (raiA i p) := by simpa [raiA] using h2
  have hlt : raiA i p < raiB i p := by
    rcases Nat.lt_or_ge (raiA i p) (raiB i p) with h | h'
    · exact h
    · exfalso
      have e : raiA i p = raiB i p := Nat.le_antisymm h1 h'
      rw [e] at h2'
      omega
  refine ⟨hlt, Nat.le_trans g2 hk, g3', fun k h5 => by simpa using g4 k (Nat.zero_le _) h5, h2', ?_⟩
  have := h4 (raiA i p + 1) (by show raiA i p < _; omega) (by omega)
  simpa using this
theorem LowP.unique {i : Nat} {p : List Stp} {a b : Nat} (h : LowP i p a b) (hbet : ∀ k, a < k → k ≤ b → htAt i p k < lowT i p) : lowA i p = a ∧ lowB i p = b := by
  have e : lowA i p = a := lastEq_of (f := fun k => htAt i p k == minHt i p p.length) (by have := h.ab; have := h.bn; omega) (by simpa using h.ha) fun k h1 h2 => by simpa using h.aft k h1 h2
  refine ⟨e, ?_⟩
  unfold lowB
  rw [e]
  exact firstEq_of (f := fun k => decide (lowT i p ≤ htAt i p (k + 1))) h.ab (by have := h.bn; omega) (by simpa using h.hb1) fun j h1 h2 => by simpa using hbet (j + 1) (by omega) (by omega)
theorem lowB_before {i : Nat} {p : List Stp} (h : lowT i p ≤ htAt i p p.length) : ∀ k, lowA i p < k → k ≤ lowB i p → htAt i p k < lowT i p := by
  have hp := low_places h
  obtain ⟨g1, g2, g3, g4⟩ := firstEq_spec (f := fun k => decide (lowT i p ≤ htAt i p (k + 1))) (n := p.length) (k := lowA i p) (a := p.length - 1) (by have := hp.ab; have := hp.bn; omega) (by omega) (by have := hp.bn; rw [show p.length - 1 + 1 = p.length by omega]; simpa using h)
  intro k h1 h2
  have := g4 (k - 1) (by omega) (by show k - 1 < lowB i p; omega)
  rw [show k - 1 + 1 = k by omega] at this
  simpa using this
theorem raiA_after {i : Nat} {p : List Stp} (h : lowT i p ≤ 0) : ∀ k, raiA i p < k → k ≤ raiB i p → htAt i p k < lowT i p := by
  obtain ⟨h1, h2, _, h4⟩ := lastEq_spec (f := fun k => decide (lowT i p ≤ htAt i p k)) (n := raiB i p) (a := 0) (Nat.zero_le _) (decide_eq_true (show lowT i p ≤ htAt i p 0 from h))
  intro k h5 h6
  simpa using h4 k h5 h6
theorem RaiP.unique {i : Nat} {p : List Stp} {a b : Nat} (h : RaiP i p a b) (hbet : ∀ k, a < k → k ≤ b → htAt i p k < lowT i p) : raiB i p = b ∧ raiA i p = a := by
  have e : raiB i p = b := firstEq_of (f := fun k => htAt i p k == minHt i p p.length) (by omega) (by have := h.bn; omega) (by simpa using h.hb) fun j _ h2 => by simpa using h.bef j h2
  refine ⟨e, ?_⟩
  unfold raiA
  rw [e]
  exact lastEq_of (f := fun k => decide (lowT i p ≤ htAt i p k)) (by have := h.ab; omega) (by simpa using h.ha) fun k h1 h2 => by simpa using hbet k h1 h2

/-- the height that a step reaches, and the time within it -/
theorem cross_pos {d s l : Int} (h0 : 0 < d) (h1 : d ≤ l * s) (hl : 0 ≤ l) (hm : d.tmod s = 0) : 0 < s ∧ 0 ≤ d.tdiv s ∧ d.tdiv s ≤ l ∧ d.tdiv s * s = d := by
  have hs : 0 < s := by
    rcases Int.lt_or_le 0 s with h | h
    · exact h
    · exfalso
      have := Int.mul_le_mul_of_nonneg_left h hl
      omega
  have e : d.tdiv s * s = d := by
    have := Int.mul_tdiv_add_tmod d s
    rw [hm, Int.add_zero, Int.mul_comm] at this
    exact this
  have h2 : 0 ≤ d.tdiv s := Int.tdiv_nonneg (by omega) (by omega)
  refine ⟨hs, h2, ?_, e⟩
  rcases Int.lt_or_le l (d.tdiv s) with h | h
  · exfalso
    have := Int.mul_lt_mul_of_pos_right h hs
    omega
  · exact h
theorem tmod_neg_right (a b : Int) : a.tmod (-b) = a.tmod b := Int.tmod_neg a b

/-- raising is lowering of the path gone back -/
theorem rai_eq {r : Nat} {R : List Int → List Int} (hR : ∀ w, R (negW w) = negW (R w)) {i : Nat} {p : List Stp} (hl : Lens p) : (lowS r R i (mirS p)).map mirS = raiS r R i p := by
  have hh := htAt_mir i p
  have ht := timeAt_mir p
  obtain ⟨km, hkm, hkm2⟩ := minHt_at i p p.length
  have hmin : minHt i (mirS p) (mirS p).length = minHt i p p.length - htAt i p p.length := by
    rw [mirS_length]
    refine minHt_eq (k := p.length - km) (by omega) ?_ fun j hj => ?_
    · rw [hh _ (by omega), show p.length - (p.length - km) = km by omega, hkm2]
    · rw [hh j hj]
      have := minHt_le i p p.length (p.length - j) (by omega)
      omega
  have hT : lowT i (mirS p) = lowT i p - htAt i p p.length := by unfold lowT; rw [hmin]; omega
  have hn : htAt i (mirS p) (mirS p).length = - htAt i p p.length := by
    rw [mirS_length, hh _ (Nat.le_refl _), Nat.sub_self]
    simp [htAt]
  unfold lowS raiS
  rw [hn, hT]
  by_cases hc : 0 < lowT i p
  · rw [if_pos (by omega), if_pos hc]
    rfl
  · rw [if_neg (by omega), if_neg hc]
    have hr := rai_places (i := i) (p := p) (by omega)
    have hra := raiA_after (i := i) (p := p) (by omega)
    generalize raiA i p = a at *
    generalize raiB i p = b at *
    obtain ⟨r1, r2, r3, r4, r5, r6⟩ := hr
    have hlow : LowP i (mirS p) (p.length - b) (p.length - 1 - a) := by
      refine ⟨by omega, by rw [mirS_length]; omega, ?_, fun k h1 h2 => ?_, ?_, ?_⟩
      · rw [hmin, hh _ (by omega), show p.length - (p.length - b) = b by omega, r3]
      · rw [mirS_length] at h2
        rw [hmin, hh k h2]
        have := r4 (p.length - k) (by omega)
        omega
      · rw [hT, hh _ (by omega), show p.length - (p.length - 1 - a) = a + 1 by omega]
        omega
      · rw [hT, hh _ (by omega), show p.length - (p.length - 1 - a + 1) = a by omega]
        omega
    obtain ⟨ea, eb⟩ := hlow.unique fun k h1 h2 => by
      rw [hT, hh k (by omega)]
      have := hra (p.length - k) (by omega) (by omega)
      omega
    rw [ea, eb]
    have hs : slopeAt i (mirS p) (p.length - 1 - a) = - slopeAt i p a := by
      unfold slopeAt
      rw [(mirS_get p _ (by omega)).1, show p.length - 1 - (p.length - 1 - a) = a by omega, negW_getD]
    have hH : htAt i p (a + 1) = htAt i p a + lenAt p a * slopeAt i p a := rfl
    have e1 : lowT i p - htAt i p p.length - htAt i (mirS p) (p.length - 1 - a) = lowT i p - htAt i p (a + 1) := by
      rw [hh _ (by omega), show p.length - (p.length - 1 - a) = a + 1 by omega]
      omega
    rw [e1, hs, tmod_neg_right]
    have hla := hl a (by omega)
    have hdd : lowT i p - htAt i p (a + 1) = lowT i p - htAt i p a - lenAt p a * slopeAt i p a := by omega
    have hmm : (lowT i p - htAt i p (a + 1)).tmod (slopeAt i p a) = 0 ↔ (lowT i p - htAt i p a).tmod (slopeAt i p a) = 0 := by
      rw [← Int.dvd_iff_tmod_eq_zero, ← Int.dvd_iff_tmod_eq_zero, hdd]
      exact ⟨fun h => by have := Int.dvd_add h (Int.dvd_mul_left (lenAt p a) (slopeAt i p a)); rwa [Int.sub_add_cancel] at this, fun h => Int.dvd_sub h (Int.dvd_mul_left _ _)⟩
    by_cases hd : (lowT i p - htAt i p a).tmod (slopeAt i p a) = 0
    · have hd' := hmm.2 hd
      rw [if_pos hd', if_pos hd]
      have hd2 : (lowT i p - htAt i p (a + 1)).tmod (-slopeAt i p a) = 0 := by rw [tmod_neg_right]; exact hd'
      obtain ⟨c1, c2, c3, c4⟩ := cross_pos (d := lowT i p - htAt i p (a + 1)) (s := - slopeAt i p a) (l := lenAt p a) (by omega) (by rw [Int.mul_neg]; omega) hla hd2
      have e2 : (lowT i p - htAt i p a).tdiv (slopeAt i p a) = lenAt p a - (lowT i p - htAt i p (a + 1)).tdiv (-slopeAt i p a) := by
        have h3 : (lenAt p a - (lowT i p - htAt i p (a + 1)).tdiv (-slopeAt i p a)) * slopeAt i p a = lowT i p - htAt i p a := by
          rw [Int.sub_mul]
          rw [Int.mul_neg] at c4
          omega
        rw [← h3]
        exact Int.mul_tdiv_cancel _ (by omega)
      rw [e2]
      generalize (lowT i p - htAt i p (a + 1)).tdiv (-slopeAt i p a) = q at *
      have hsa : timeAt p (a + 1) = timeAt p a + lenAt p a := rfl
      have hab := timeAt_le hl (show a + 1 ≤ b by omega) r2
      have e3 : timeAt (mirS p) (p.length - b) = timeAt p p.length - timeAt p b := by rw [ht _ (by omega), show p.length - (p.length - b) = b by omega]
      have e4 : timeAt (mirS p) (p.length - 1 - a) + q = timeAt p p.length - (timeAt p a + (lenAt p a - q)) := by
        rw [ht _ (by omega), show p.length - (p.length - 1 - a) = a + 1 by omega]
        omega
      rw [e3, e4]
      have huv : timeAt p a + (lenAt p a - q) ≤ timeAt p b := by omega
      have hj := bet_mir R hR hl huv
      have hnn : ∀ s ∈ betS R (timeAt p a + (lenAt p a - q)) (timeAt p b) p, 0 ≤ s.2 := bet_nonneg R hl huv p.length (Nat.le_refl _)
      have h5 : checkS r (betS R (timeAt p p.length - timeAt p b) (timeAt p p.length - (timeAt p a + (lenAt p a - q))) (mirS p)) = checkS r (mirS (betS R (timeAt p a + (lenAt p a - q)) (timeAt p b) p)) := by
        unfold checkS
        rw [hj]
      rw [h5, check_mir hnn]
      cases checkS r (betS R (timeAt p a + (lenAt p a - q)) (timeAt p b) p) with
      | none => rfl
      | some x => simp [mirS_mirS]
    · rw [if_neg (fun h => hd (hmm.1 h)), if_neg hd]
      rfl
end Go.Proofs.YtfikkfbnlegflaaGreatDoor
