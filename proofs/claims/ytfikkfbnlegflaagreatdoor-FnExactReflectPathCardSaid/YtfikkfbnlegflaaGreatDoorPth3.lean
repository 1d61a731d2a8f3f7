/-
  Paths, plain: simple reflections, heights and their bounds, what lowering and raising give. No program in sight.
-/
import Derived.Test.YtfikkfbnlegflaaGreatDoorPth2
import Derived.Test.YtfikkfbnlegflaaGreatDoorPthT
import Derived.Test.YtfikkfbnlegflaaGreatDoorCar
namespace Go.Proofs.YtfikkfbnlegflaaGreatDoor

/-- a simple reflection -/
def refl (r : Nat) (ts : List Int) (i : Nat) (w : List Int) : List Int := (List.range r).map fun k => w.getD k 0 - w.getD i 0 * ts.getD (k * r + i) 0
theorem refl_length (r : Nat) (ts : List Int) (i : Nat) (w : List Int) : (refl r ts i w).length = r := by simp [refl]
theorem refl_get (r : Nat) (ts : List Int) (i : Nat) (w : List Int) (k : Nat) (hk : k < r) : (refl r ts i w).getD k 0 = w.getD k 0 - w.getD i 0 * ts.getD (k * r + i) 0 := by
  simp [refl, List.getD_eq_getElem?_getD, hk]
theorem refl_neg (r : Nat) (ts : List Int) (i : Nat) (w : List Int) : refl r ts i (negW w) = negW (refl r ts i w) := by
  unfold refl
  show _ = List.map (fun x => -x) (List.map _ (List.range r))
  rw [List.map_map]
  apply List.map_congr_left
  intro k _
  simp only [Function.comp_apply, negW_getD, Int.neg_mul]
  omega
theorem typeB_entry {r : Nat} {ts : List Int} (h : typeB r ts = true) (m : Nat) : -3 ≤ ts.getD m 0 ∧ ts.getD m 0 ≤ 2 := by
  rw [typeB_eq] at h
  simp only [partsB, entryB, Bool.and_eq_true, List.all_eq_true, List.mem_range, decide_eq_true_eq] at h
  rcases Nat.lt_or_ge m ts.length with hm | hm
  · exact (h.1.2 m hm).1
  · rw [List.getD_eq_getElem?_getD, List.getElem?_eq_none hm]
    simp

/-- a path or none, as a call gives it -/
def optJ : Option (List Stp) → Bool × List Stp
  | some q => (true, q)
  | none => (false, [])
theorem chk_opt (r : Nat) (p : List Stp) : chk r p = optJ (checkS r p) := by
  unfold chk checkS
  split <;> rfl
theorem optJ_mir (o : Option (List Stp)) : optJ (o.map mirS) = ((optJ o).1, mirS (optJ o).2) := by
  cases o <;> rfl
def lowR (r : Nat) (ts : List Int) (i : Nat) (p : List Stp) : Bool × List Stp := optJ (lowS r (refl r ts i) i p)
def raiR (r : Nat) (ts : List Int) (i : Nat) (p : List Stp) : Bool × List Stp := optJ (raiS r (refl r ts i) i p)
theorem check_path {r : Nat} {p q : List Stp} (h : checkS r p = some q) : pathB r q = true := by
  unfold checkS at h
  split at h
  · rename_i hb
    cases h
    exact hb
  · cases h
theorem lowS_path {r : Nat} {R : List Int → List Int} {i : Nat} {p q : List Stp} (h : lowS r R i p = some q) : pathB r q = true := by
  unfold lowS at h
  split at h
  · cases h
  · split at h
    · exact check_path h
    · cases h
theorem raiS_path {r : Nat} {R : List Int → List Int} {i : Nat} {p q : List Stp} (h : raiS r R i p = some q) : pathB r q = true := by
  unfold raiS at h
  split at h
  · cases h
  · split at h
    · exact check_path h
    · cases h
theorem lowR_ok {r : Nat} (hr : r ≤ 4) (ts : List Int) (i : Nat) (p : List Stp) : ResOk (lowR r ts i p) := by
  unfold lowR
  cases h : lowS r (refl r ts i) i p with
  | none => exact .inl rfl
  | some q => exact .inr ⟨r, hr, lowS_path h⟩
theorem raiR_ok {r : Nat} (hr : r ≤ 4) (ts : List Int) (i : Nat) (p : List Stp) : ResOk (raiR r ts i p) := by
  unfold raiR
  cases h : raiS r (refl r ts i) i p with
  | none => exact .inl rfl
  | some q => exact .inr ⟨r, hr, raiS_path h⟩

/-- the heights at the ends of the steps -/
def hts (i : Nat) (p : List Stp) (n : Nat) : List Int := (List.range (n + 1)).map (htAt i p)
theorem hts_length (i : Nat) (p : List Stp) (n : Nat) : (hts i p n).length = n + 1 := by simp [hts]
theorem hts_get (i : Nat) (p : List Stp) (n k : Nat) (hk : k ≤ n) : (hts i p n).getD k 0 = htAt i p k := by
  simp [hts, List.getD_eq_getElem?_getD, show k < n + 1 by omega]
theorem hts_succ (i : Nat) (p : List Stp) (n : Nat) : hts i p (n + 1) = hts i p n ++ [htAt i p (n + 1)] := by
  simp [hts, List.range_succ]
theorem ht_bound {r : Nat} {p : List Stp} (h : PathP r p) {i : Nat} (hi : i < r) : ∀ k, k ≤ p.length → -1000 * timeAt p k ≤ htAt i p k ∧ htAt i p k ≤ 1000 * timeAt p k
  | 0, _ => by simp [htAt, timeAt]
  | k + 1, hk => by
    have ih := ht_bound h hi k (by omega)
    obtain ⟨hd1, hd2⟩ := h.dur k (by omega)
    obtain ⟨hw1, hw2⟩ := (h.way k (by omega)).2 i hi
    have e1 : htAt i p (k + 1) = htAt i p k + lenAt p k * (wayAt p k).getD i 0 := rfl
    have e2 : timeAt p (k + 1) = timeAt p k + lenAt p k := rfl
    have h1 : lenAt p k * (wayAt p k).getD i 0 ≤ lenAt p k * 1000 := Int.mul_le_mul_of_nonneg_left hw2 (by omega)
    have h2 : lenAt p k * (-1000) ≤ lenAt p k * (wayAt p k).getD i 0 := Int.mul_le_mul_of_nonneg_left hw1 (by omega)
    rw [e1, e2]
    omega
theorem ht_small {r : Nat} {p : List Stp} (h : PathP r p) {i : Nat} (hi : i < r) (k : Nat) (hk : k ≤ p.length) : -83160000 ≤ htAt i p k ∧ htAt i p k ≤ 83160000 := by
  have h1 := ht_bound h hi k hk
  have h2 := timeAt_le (lens_of_path h) hk (Nat.le_refl _)
  have h3 := h.tle
  omega
theorem time_small {r : Nat} {p : List Stp} (h : PathP r p) (k : Nat) (hk : k ≤ p.length) : 0 ≤ timeAt p k ∧ timeAt p k ≤ 83160 := by
  have h1 := timeAt_le (lens_of_path h) (Nat.zero_le k) hk
  have h2 := timeAt_le (lens_of_path h) hk (Nat.le_refl _)
  have h3 := h.tle
  have h4 : timeAt p 0 = 0 := rfl
  omega
theorem min_small {r : Nat} {p : List Stp} (h : PathP r p) {i : Nat} (hi : i < r) : -83160000 ≤ minHt i p p.length ∧ minHt i p p.length ≤ 0 := by
  obtain ⟨k, hk, e⟩ := minHt_at i p p.length
  have h1 := ht_small h hi k hk
  have h2 := minHt_le i p p.length 0 (Nat.zero_le _)
  have h3 : htAt i p 0 = 0 := rfl
  omega
end Go.Proofs.YtfikkfbnlegflaaGreatDoor
