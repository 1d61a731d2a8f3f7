/-
  Lists of residues as functions of the place: sums, multiples, tables. No program in sight.
-/
import Derived.Test.YtnfbfdamlnjblaaGreatDoorLib
namespace Go.Proofs.YtnfbfdamlnjblaaGreatDoor
open Go.RowKit

/-- the sum of f 0 .. f (n - 1) -/
def sumTo (n : Nat) (f : Nat → Int) : Int :=
  match n with
  | 0 => 0
  | n + 1 => sumTo n f + f n
theorem sumTo_congr {n : Nat} {f g : Nat → Int} (h : ∀ i, i < n → f i = g i) : sumTo n f = sumTo n g := by
  induction n with
  | zero => rfl
  | succ n ih => simp only [sumTo]; rw [ih fun i hi => h i (by omega), h n (by omega)]

/-- the list of the residues of f 0 .. f (n - 1) -/
def modL (p : Int) (n : Nat) (f : Nat → Int) : List Int := (List.range n).map fun m => f m % p
theorem modL_length (p : Int) (n : Nat) (f : Nat → Int) : (modL p n f).length = n := by simp [modL]
theorem modL_get (p : Int) (n : Nat) (f : Nat → Int) (m : Nat) (h : m < n) : (modL p n f).getD m 0 = f m % p := by
  simp [modL, List.getD_eq_getElem?_getD, h]
theorem modL_congr {p : Int} {n : Nat} {f g : Nat → Int} (h : ∀ m, m < n → f m % p = g m % p) : modL p n f = modL p n g := by
  unfold modL
  apply List.map_congr_left
  intro m hm
  exact h m (List.mem_range.1 hm)
theorem modL_zero (p : Int) (n : Nat) : modL p n (fun _ => 0) = List.replicate n 0 := by
  apply List.ext_getElem
  · simp [modL]
  · intro i h1 h2
    simp [modL]

theorem getD_lt (l : List Int) {i : Nat} (h : i < l.length) : l.getD i 0 = l[i] := by simp [h]

/-- residues modulo p -/
def Res (p : Int) (xs : List Int) : Prop := ∀ i, i < xs.length → 0 ≤ xs.getD i 0 ∧ xs.getD i 0 < p
theorem Res.modL {p : Int} (hp : 0 < p) (n : Nat) (f : Nat → Int) : Res p (modL p n f) := by
  intro i hi
  rw [modL_length] at hi
  rw [modL_get p n f i hi]
  exact ⟨Int.emod_nonneg _ (by omega), Int.emod_lt_of_pos _ hp⟩
theorem Res.zeros {p : Int} (hp : 0 < p) (n : Nat) : Res p (List.replicate n 0) := by
  rw [← modL_zero p]
  exact Res.modL hp n _
theorem Res.part {p : Int} {xs : List Int} (h : Res p xs) (i n : Nat) : Res p ((xs.drop i).take n) := by
  intro j hj
  simp at hj
  have := h (i + j) (by omega)
  simpa [List.getD_eq_getElem?_getD, List.getElem?_take, show j < n by omega] using this
theorem Res.eq_modL {p : Int} {xs : List Int} (h : Res p xs) : xs = Go.Proofs.YtnfbfdamlnjblaaGreatDoor.modL p xs.length (fun m => xs.getD m 0) := by
  apply List.ext_getElem
  · simp [modL_length]
  · intro i h1 h2
    have h3 := h i h1
    have h4 := modL_get p xs.length (fun m => xs.getD m 0) i h1
    rw [Int.emod_eq_of_lt h3.1 h3.2] at h4
    rw [getD_lt _ h2, getD_lt _ h1] at h4
    exact h4.symm

/-- a row, and k times another one -/
def addL (p : Int) (xs : List Int) (k : Int) (ys : List Int) : List Int := modL p xs.length fun m => xs.getD m 0 + k * ys.getD m 0
theorem addL_length (p : Int) (xs : List Int) (k : Int) (ys : List Int) : (addL p xs k ys).length = xs.length := modL_length _ _ _
theorem addL_get (p : Int) (xs : List Int) (k : Int) (ys : List Int) (m : Nat) (h : m < xs.length) : (addL p xs k ys).getD m 0 = (xs.getD m 0 + k * ys.getD m 0) % p := modL_get _ _ _ _ h
theorem addL_modL (p : Int) (n : Nat) (f : Nat → Int) (k : Int) (ys : List Int) : addL p (modL p n f) k ys = modL p n fun m => f m + k * ys.getD m 0 := by
  unfold addL
  rw [modL_length]
  apply modL_congr
  intro m hm
  rw [modL_get p n f m hm, Int.emod_add_emod]

/-- the number k of the bracket of basis elements i and j -/
def tab (t : List Int) (d i j m : Nat) : Int := t.getD ((i * d + j) * d + m) 0
/-- the bracket of basis elements i and j -/
def pairL (t : List Int) (d i j : Nat) : List Int := (t.drop ((i * d + j) * d)).take d
theorem nidx_lt {d i j : Nat} (hi : i < d) (hj : j < d) : (i * d + j) * d + d ≤ d * d * d := by
  have h1 : (i + 1) * d ≤ d * d := Nat.mul_le_mul_right d hi
  have h2 : (i * d + j + 1) * d ≤ d * d * d := Nat.mul_le_mul_right d (by rw [Nat.add_mul, Nat.one_mul] at h1; omega)
  rw [Nat.add_mul, Nat.one_mul] at h2
  exact h2
theorem pairL_length {t : List Int} {d i j : Nat} (ht : t.length = d * d * d) (hi : i < d) (hj : j < d) : (pairL t d i j).length = d := by
  have := nidx_lt hi hj
  simp [pairL]
  omega
theorem pairL_get {t : List Int} {d : Nat} (i j m : Nat) (hm : m < d) : (pairL t d i j).getD m 0 = tab t d i j m := by
  simp [pairL, tab, List.getD_eq_getElem?_getD, hm]

/-- the bracket of an element and the basis element j, modulo p -/
def rightL (p : Int) (t : List Int) (d : Nat) (u : List Int) (j : Nat) : List Int := modL p d fun m => sumTo u.length fun i => u.getD i 0 * tab t d i j m
def rightTo (p : Int) (t : List Int) (d : Nat) (u : List Int) (j k : Nat) : List Int := modL p d fun m => sumTo k fun i => u.getD i 0 * tab t d i j m
theorem rightTo_zero (p : Int) (t : List Int) (d : Nat) (u : List Int) (j : Nat) : rightTo p t d u j 0 = List.replicate d 0 := by
  rw [← modL_zero p]
  rfl
theorem rightTo_all (p : Int) (t : List Int) (d : Nat) (u : List Int) (j : Nat) : rightTo p t d u j u.length = rightL p t d u j := rfl
theorem rightTo_succ (p : Int) (t : List Int) (d : Nat) (u : List Int) (j k : Nat) : rightTo p t d u j (k + 1) = addL p (rightTo p t d u j k) (u.getD k 0) (pairL t d k j) := by
  unfold rightTo
  rw [addL_modL]
  apply modL_congr
  intro m hm
  simp only [sumTo]
  rw [pairL_get k j m hm]
theorem rightTo_skip (p : Int) (t : List Int) (d : Nat) (u : List Int) (j k : Nat) (h : u.getD k 0 = 0) : rightTo p t d u j (k + 1) = rightTo p t d u j k := by
  unfold rightTo
  apply modL_congr
  intro m _
  simp only [sumTo, h, Int.zero_mul, Int.add_zero]
theorem rightTo_length (p : Int) (t : List Int) (d : Nat) (u : List Int) (j k : Nat) : (rightTo p t d u j k).length = d := modL_length _ _ _

theorem rightTo_res {p : Int} (hp : 0 < p) (t : List Int) (d : Nat) (u : List Int) (j k : Nat) : Res p (rightTo p t d u j k) := Res.modL hp _ _
theorem rightL_res {p : Int} (hp : 0 < p) (t : List Int) (d : Nat) (u : List Int) (j : Nat) : Res p (rightL p t d u j) := Res.modL hp _ _
theorem rightL_length (p : Int) (t : List Int) (d : Nat) (u : List Int) (j : Nat) : (rightL p t d u j).length = d := modL_length _ _ _
theorem pairL_res {p : Int} {t : List Int} (h : Res p t) (d i j : Nat) : Res p (pairL t d i j) := h.part _ _
/-- bounds of residues, place by place -/
theorem Res.bd {p : Int} {xs : List Int} (h : Res p xs) {n : Nat} (hl : xs.length = n) (hp : p ≤ 10007) : ∀ j, j < n → 0 ≤ xs.getD j 0 ∧ xs.getD j 0 ≤ 1000000 :=
  fun j hj => by have := h j (by omega); omega

theorem addL_res {p : Int} (hp : 0 < p) (xs : List Int) (k : Int) (ys : List Int) : Res p (addL p xs k ys) := Res.modL hp _ _

end Go.Proofs.YtnfbfdamlnjblaaGreatDoor
