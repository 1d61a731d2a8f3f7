/-
  The example algebras, known by their series: a finite check.
-/
import Derived.Test.YthbdcclglopkiaaUni2
import Derived.Test.YthbdcclglopkiaaExA
namespace Go.Proofs.Ythbdcclglopkiaa
open Go.RowKit

def runC (f : List (List Int) → List (List Int)) : Nat → List (List Int) → Option (Nat × Nat)
  | 0, _ => none
  | n + 1, R => if (f R).length = R.length then some (0, R.length) else (runC f n (f R)).map fun x => (x.1 + 1, x.2)
theorem iterL_shift (f : List (List Int) → List (List Int)) (R : List (List Int)) (i : Nat) : iterL f (f R) i = iterL f R (i + 1) := by
  induction i with
  | zero => rfl
  | succ i ih => simp only [iterL]; rw [ih]; rfl
theorem runC_chain {f : List (List Int) → List (List Int)} {n m l : Nat} {R : List (List Int)} (h : runC f n R = some (m, l)) : Chain f R m ∧ (iterL f R m).length = l ∧ m < n := by
  induction n generalizing R m l with
  | zero => simp [runC] at h
  | succ n ih =>
    simp only [runC] at h
    split at h
    · rename_i he
      simp only [Option.some.injEq, Prod.mk.injEq] at h
      obtain ⟨rfl, rfl⟩ := h
      exact ⟨⟨fun i hi => by omega, he⟩, rfl, by omega⟩
    · rename_i hne
      rw [Option.map_eq_some_iff] at h
      obtain ⟨⟨m', l'⟩, h1, h2⟩ := h
      simp only [Prod.mk.injEq] at h2
      obtain ⟨rfl, rfl⟩ := h2
      obtain ⟨hc, hl, hm⟩ := ih h1
      refine ⟨⟨fun i hi => ?_, ?_⟩, ?_, by omega⟩
      · cases i with
        | zero => exact hne
        | succ i => have := hc.ne i (by omega); rw [iterL_shift, iterL_shift] at this; exact this
      · have := hc.eq; rw [iterL_shift, iterL_shift] at this; exact this
      · rw [iterL_shift] at hl; exact hl
def nilB (k : Nat) : Bool := k == 0 || k == 1 || k == 5 || k == 8
def solB (k : Nat) : Bool := k != 3 && k != 7
def isNil : Option (Nat × Nat) → Bool → Bool
  | some (_, l), b => (l == 0) == b
  | none, _ => false
def exChk (k : Nat) (p : Int) : Bool :=
  algB p (exDim k) (exTab k p) && isNil (runC (lowF p (exTab k p) (exDim k)) 8 (allL (exDim k))) (nilB k) &&
  (isNil (runC (derF p (exTab k p) (exDim k)) 8 (allL (exDim k))) (solB k) || (p == 2 && (runC (derF p (exTab k p) (exDim k)) 8 (allL (exDim k))).isSome)) && (!nilB k || uniB p (exTab k p) (exDim k))
def exAll (k : Nat) : Bool := [2, 3, 5, 7, 101].all (exChk k)
set_option maxRecDepth 100000
theorem ex0 : exAll 0 = true := by decide +kernel
theorem ex1 : exAll 1 = true := by decide +kernel
theorem ex2 : exAll 2 = true := by decide +kernel
theorem ex3 : exAll 3 = true := by decide +kernel
theorem ex4 : exAll 4 = true := by decide +kernel
theorem ex5 : exAll 5 = true := by decide +kernel
theorem ex6 : exAll 6 = true := by decide +kernel
theorem ex7 : exAll 7 = true := by decide +kernel
theorem ex8 : exAll 8 = true := by decide +kernel
theorem ex9 : exAll 9 = true := by decide +kernel
theorem exAll_true (k : Nat) (hk : k ≤ 9) : exAll k = true := by
  match k, hk with
  | 0, _ => exact ex0
  | 1, _ => exact ex1
  | 2, _ => exact ex2
  | 3, _ => exact ex3
  | 4, _ => exact ex4
  | 5, _ => exact ex5
  | 6, _ => exact ex6
  | 7, _ => exact ex7
  | 8, _ => exact ex8
  | 9, _ => exact ex9
/-- what is known of an example -/
structure ExOk (k : Nat) (p : Int) : Prop where
  alg : algB p (exDim k) (exTab k p) = true
  low : ∃ m, m ≤ 1000 ∧ Chain (lowF p (exTab k p) (exDim k)) (allL (exDim k)) m ∧ decide (0 ≤ classOf p (exTab k p) (exDim k) m) = nilB k
  der : ∃ m, m ≤ 1000 ∧ Chain (derF p (exTab k p) (exDim k)) (allL (exDim k)) m ∧ (p ≠ 2 → decide ((iterL (derF p (exTab k p) (exDim k)) (allL (exDim k)) m).length = 0) = solB k)
  uni : nilB k = true → uniB p (exTab k p) (exDim k) = true
theorem exOk (k : Nat) (hk : k ≤ 9) (p : Int) (hp : p = 2 ∨ p = 3 ∨ p = 5 ∨ p = 7 ∨ p = 101) : ExOk k p := by
  have h1 := exAll_true k hk
  unfold exAll at h1
  rw [List.all_eq_true] at h1
  have h2 := h1 p (by simpa using hp)
  unfold exChk at h2
  simp only [Bool.and_eq_true, Bool.or_eq_true, Bool.not_eq_true', beq_iff_eq] at h2
  obtain ⟨⟨⟨ha, hl⟩, hd⟩, hu⟩ := h2
  refine ⟨ha, ?_, ?_, fun hn => ?_⟩
  · cases hr : runC (lowF p (exTab k p) (exDim k)) 8 (allL (exDim k)) with
    | none => rw [hr] at hl; simp [isNil] at hl
    | some x =>
      obtain ⟨m, l⟩ := x
      rw [hr] at hl
      obtain ⟨hc, hl2, hm⟩ := runC_chain hr
      refine ⟨m, by omega, hc, ?_⟩
      simp only [isNil, beq_iff_eq] at hl
      unfold classOf
      rw [hl2, ← hl]
      by_cases h0 : l = 0
      · simp [h0]
      · simp [h0]
  · cases hr : runC (derF p (exTab k p) (exDim k)) 8 (allL (exDim k)) with
    | none => rw [hr] at hd; simp [isNil] at hd
    | some x =>
      obtain ⟨m, l⟩ := x
      rw [hr] at hd
      obtain ⟨hc, hl2, hm⟩ := runC_chain hr
      refine ⟨m, by omega, hc, fun hp2 => ?_⟩
      rcases hd with hd | hd
      · simp only [isNil, beq_iff_eq] at hd
        rw [hl2, ← hd]
        by_cases h0 : l = 0
        · simp [h0]
        · simp [h0]
      · exact absurd hd.1 hp2
  · rcases hu with hu | hu
    · rw [hn] at hu; cases hu
    · exact hu
end Go.Proofs.Ythbdcclglopkiaa
