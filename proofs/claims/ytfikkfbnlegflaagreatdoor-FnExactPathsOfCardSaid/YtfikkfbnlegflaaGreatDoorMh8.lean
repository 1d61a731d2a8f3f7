/-
  A region that draws its order: an operation behind which the class is narrower by what the operation gave.
  Roots, lengths and dimensions, plain.
  The finite sets of paths of the small modules: what holds of lowering and raising there. No program in sight.
  A list of one path.
  Owned lists of paths: each path lies in blocks of its own.
  The search of the paths of a weight, step by step. No program in sight.
  The search of the paths of a weight, plain: two tests of steepness end it alike. No program in sight.
  Coroots of every matrix that is a type's, in any order of rows: checked by the kernel.
  Where paths that are closed under lowering have no way above 12, there is none below -12. No program in sight.
  Coroots, plain: what the numbers of the weights of an orbit can be. No program in sight.
  The reference's small functions on lists: l1Residues, l1IsZero, l2Get, l2Row, l2Basis, l2Plus.
  What a valid algebra is, as the program asks it.
  The type lie: newLie, pair, right.
  The program's algebras by tables: residues, isZero, addTo, the type lie with pair and right.
  Paths of a weight, plain: straight paths lowered as far as they go; where no way rises above 12, none falls below -12. No program in sight.
  HighestPath: a path raised until it cannot be, the program's and the reference's.
  HighestPath, the reference's.
  The end of a path: a multiple added, both sides.
  The end of a path, in the units of time: both sides.
  EndOf: the program's and the reference's. Printed by gen/pthY.py.
  ReflectPath: the program's and the reference's. Printed by gen/pthV2.py.
-/
import Derived.Test.YtfikkfbnlegflaaGreatDoorMh7
namespace Go.Proofs.YtfikkfbnlegflaaGreatDoor
open Go.RowKit

end Go.Proofs.YtfikkfbnlegflaaGreatDoor

namespace Go.Proofs.YtfikkfbnlegflaaGreatDoor
open Go.RowKit

end Go.Proofs.YtfikkfbnlegflaaGreatDoor

namespace Go.Proofs.YtfikkfbnlegflaaGreatDoor
open Go.RowKit

end Go.Proofs.YtfikkfbnlegflaaGreatDoor

namespace Go.Proofs.YtfikkfbnlegflaaGreatDoor
open Go.RowKit

end Go.Proofs.YtfikkfbnlegflaaGreatDoor

namespace Go.Proofs.YtfikkfbnlegflaaGreatDoor
open Go.RowKit

end Go.Proofs.YtfikkfbnlegflaaGreatDoor

namespace Go.Proofs.YtfikkfbnlegflaaGreatDoor
open Go.RowKit

def lowF (r : Nat) (ts : List Int) (i : Nat) (p : List Stp) : Option (List Stp) := lowS r (refl r ts i) i p
end Go.Proofs.YtfikkfbnlegflaaGreatDoor

namespace Go.Proofs.YtfikkfbnlegflaaGreatDoor
open Go.RowKit

/-! ### lowering a straight path, part by part -/
def strP (w : List Int) : List Stp := [(w, 27720)]
/-- turned for the time M -/
def turnS (u v : List Int) (M : Int) : List Stp := if M = 0 then [(u, 27720)] else if M = 27720 then [(v, 27720)] else [(v, M), (u, 27720 - M)]
structure TurnP (r : Nat) (ts u : List Int) (i : Nat) (d c : Int) : Prop where
  ul : u.length = r
  hi : i < r
  hd : u.getD i 0 = d
  d1 : 1 ≤ d
  dc : d * c = 27720
  c1 : 1 ≤ c
  diag : ts.getD (i * r + i) 0 = 2
  wu : wayB r u = true
  wv : wayB r (refl r ts i u) = true
theorem TurnP.vi {r : Nat} {ts u : List Int} {i : Nat} {d c : Int} (h : TurnP r ts u i d c) : (refl r ts i u).getD i 0 = -d := by
  rw [refl_get _ _ _ _ _ h.hi, h.diag, h.hd]
  omega
theorem TurnP.ne {r : Nat} {ts u : List Int} {i : Nat} {d c : Int} (h : TurnP r ts u i d c) : refl r ts i u ≠ u := by
  intro e
  have h1 := h.vi
  rw [e, h.hd] at h1
  have := h.d1
  omega
theorem pathB_part {r : Nat} {ts u : List Int} {i : Nat} {d c : Int} (h : TurnP r ts u i d c) {M : Int} (h0 : 0 ≤ M) (h1 : M ≤ 27720) : pathB r (turnS u (refl r ts i u) M) = true := by
  have hwu := h.wu
  have hwv := h.wv
  have hne := h.ne
  unfold turnS
  split
  · simp [pathB, stepB, wayAt, lenAt, timeAt, hwu, List.range_succ]
  · split
    · simp [pathB, stepB, wayAt, lenAt, timeAt, hwv, List.range_succ]
    · rename_i e1 e2
      have e3 : M + (27720 - M) = 27720 := by omega
      simp [pathB, stepB, wayAt, lenAt, timeAt, hwu, hwv, List.range_succ, e3, hne]
      omega
theorem join_part {u v : List Int} (hne : v ≠ u) {M c : Int} (h0 : 0 ≤ M) (hc : 1 ≤ c) (hM : M + c ≤ 27720) : joinS [(v, M), (v, c), (u, 27720 - M - c)] = turnS u v (M + c) := by
  unfold joinS turnS
  have hc0 : c ≠ 0 := by omega
  rw [if_neg (show M + c ≠ 0 by omega)]
  by_cases hm : M = 0
  · subst hm
    by_cases hf : c = 27720
    · subst hf
      simp [addS]
    · have h2 : (27720 : Int) - 0 - c ≠ 0 := by omega
      have h3 : ¬ ((0 : Int) + c = 27720) := by omega
      rw [if_neg h3]
      simp [addS, hc0, hne]
      omega
  · by_cases hf : M + c = 27720
    · have h2 : (27720 : Int) - M - c = 0 := by omega
      rw [if_pos hf]
      simp [addS, hm, hc0, h2, hf]
    · have h2 : (27720 : Int) - M - c ≠ 0 := by omega
      rw [if_neg hf]
      simp [addS, hm, hc0, h2, hne]
      omega
theorem lowF_of {r : Nat} {ts : List Int} {i : Nat} {p : List Stp} {a b : Nat} {T H s c : Int} (hA : lowA i p = a) (hB : lowB i p = b) (hT : lowT i p = T) (hc : ¬ htAt i p p.length < T) (hH : htAt i p b = H) (hs : slopeAt i p b = s) (hm : (T - H).tmod s = 0) (hd : (T - H).tdiv s = c) :
    lowF r ts i p = checkS r (betS (refl r ts i) (timeAt p a) (timeAt p b + c) p) := by
  unfold lowF lowS
  rw [hT, if_neg hc, hA, hB, hH, hs, if_pos hm, hd]
theorem low_part {r : Nat} {ts u : List Int} {i : Nat} {d c : Int} (h : TurnP r ts u i d c) {m : Nat} (hm : (m : Int) < d) : lowF r ts i (turnS u (refl r ts i u) (m * c)) = some (turnS u (refl r ts i u) (((m + 1 : Nat) : Int) * c)) := by
  have hd1 := h.d1
  have hc1 := h.c1
  have hdc := h.dc
  have hvi := h.vi
  have hui := h.hd
  have hne := h.ne
  obtain ⟨v, hv⟩ : ∃ v, v = refl r ts i u := ⟨_, rfl⟩
  have hM : (m : Int) * c * d = 27720 * m := by rw [Int.mul_assoc, Int.mul_comm c d, hdc, Int.mul_comm]
  have hMle : (m : Int) * c + c ≤ 27720 := by
    have : ((m : Int) + 1) * c ≤ d * c := Int.mul_le_mul_of_nonneg_right (by omega) (by omega)
    rw [Int.add_mul, Int.one_mul, hdc] at this
    exact this
  have hM0 : 0 ≤ (m : Int) * c := Int.mul_nonneg (by omega) (by omega)
  have hnext : ((m + 1 : Nat) : Int) * c = m * c + c := by rw [Int.natCast_add, Int.add_mul]; simp
  have hok := pathB_part h (M := m * c + c) (by omega) hMle
  rw [hnext]
  rw [← hv] at hvi hne hok ⊢
  obtain ⟨M, hMM⟩ : ∃ M, M = (m : Int) * c := ⟨_, rfl⟩
  rw [← hMM] at hM hMle hM0 hok ⊢
  have htd : (27720 : Int).tdiv d = c := by rw [← hdc]; exact Int.mul_tdiv_cancel_left _ (by omega)
  have htm : (27720 : Int).tmod d = 0 := by rw [← hdc]; exact Int.mul_tmod_right _ _
  have hjoin := join_part hne hM0 hc1 hMle
  by_cases hz : M = 0
  · -- the straight path
    have hm0 : m = 0 := by
      rcases Nat.eq_zero_or_pos m with e | e
      · exact e
      · exfalso
        have : (1 : Int) * c ≤ m * c := Int.mul_le_mul_of_nonneg_right (by omega) (by omega)
        omega
    subst hz
    have hp : turnS u v 0 = [(u, 27720)] := by simp [turnS]
    have hend : htAt i [(u, 27720)] 1 = 27720 * d := by
      show (0 : Int) + 27720 * u.getD i 0 = _
      rw [hui]
      omega
    have hmin : minHt i [(u, 27720)] 1 = 0 := minHt_eq (k := 0) (by omega) rfl fun j hj => by
      rcases (by omega : j = 0 ∨ j = 1) with rfl | rfl
      · exact Int.le_refl _
      · rw [hend]; omega
    have hT : lowT i [(u, 27720)] = 27720 := by show minHt i [(u, 27720)] 1 + 27720 = _; rw [hmin]; rfl
    have hpl : LowP i [(u, 27720)] 0 0 := by
      refine ⟨Nat.le_refl _, by simp, by show (0 : Int) = minHt i [(u, 27720)] 1; rw [hmin], fun k h1 h2 => ?_, by rw [hT]; show (0 : Int) < _; omega, by rw [hT]; show _ ≤ htAt i [(u, 27720)] 1; rw [hend]; omega⟩
      obtain rfl : k = 1 := by simp at h2; omega
      show htAt i [(u, 27720)] 1 ≠ minHt i [(u, 27720)] 1
      rw [hend, hmin]
      omega
    obtain ⟨hA, hB⟩ := hpl.unique (fun k h1 h2 => by omega)
    rw [hp]
    rw [lowF_of (T := 27720) (H := 0) (s := d) (c := c) hA hB hT (by show ¬ htAt i [(u, 27720)] 1 < _; rw [hend]; omega) rfl (by show u.getD i 0 = d; exact hui) (by rw [Int.sub_zero]; exact htm) (by rw [Int.sub_zero]; exact htd)]
    show checkS r (betS (refl r ts i) 0 (0 + c) [(u, 27720)]) = _
    have hb : betS (refl r ts i) 0 (0 + c) [(u, 27720)] = [(u, 0), (v, c), (u, 27720 - c)] := by
      have hw1 : within 0 0 27720 = 0 := by decide
      have hw2 : within (0 + c) 0 27720 = c := by unfold within; rw [if_neg (by omega), if_neg (by omega)]; omega
      simp only [betS, betTo, List.length_singleton, List.range_one, List.flatMap_singleton, betK, wayAt, timeAt, lenAt, List.getD_cons_zero]
      simp only [Int.zero_add]
      rw [hw1, show within c 0 27720 = c by rw [Int.zero_add] at hw2; exact hw2, ← hv]
      simp
    rw [hb]
    have hj : joinS [(u, 0), (v, c), (u, 27720 - c)] = turnS u v (0 + c) := by
      rw [← hjoin]
      simp [joinS, addS]
    unfold checkS
    rw [hj, hok, if_pos rfl]
  · have hnf : M ≠ 27720 := by omega
    have hp : turnS u v M = [(v, M), (u, 27720 - M)] := by rw [turnS, if_neg hz, if_neg hnf]
    have hm1 : 1 ≤ m := by
      rcases Nat.eq_zero_or_pos m with e | e
      · subst e; simp at hMM; exact absurd hMM hz
      · exact e
    have h1 : htAt i [(v, M), (u, 27720 - M)] 1 = -(27720 * m) := by
      show (0 : Int) + M * v.getD i 0 = _
      rw [hvi, Int.mul_neg, hM]
      omega
    have h2 : htAt i [(v, M), (u, 27720 - M)] 2 = 27720 * d - 2 * (27720 * m) := by
      show htAt i [(v, M), (u, 27720 - M)] 1 + (27720 - M) * u.getD i 0 = _
      rw [h1, hui, Int.sub_mul, hM]
      omega
    have hmin : minHt i [(v, M), (u, 27720 - M)] 2 = -(27720 * m) := minHt_eq (k := 1) (by omega) h1 fun j hj => by
      rcases (by omega : j = 0 ∨ j = 1 ∨ j = 2) with rfl | rfl | rfl
      · show -(27720 * (m : Int)) ≤ 0; omega
      · rw [h1]; exact Int.le_refl _
      · rw [h2]; omega
    have hT : lowT i [(v, M), (u, 27720 - M)] = -(27720 * m) + 27720 := by show minHt i [(v, M), (u, 27720 - M)] 2 + 27720 = _; rw [hmin]
    have hpl : LowP i [(v, M), (u, 27720 - M)] 1 1 := by
      refine ⟨Nat.le_refl _, by simp, by show htAt i [(v, M), (u, 27720 - M)] 1 = minHt i [(v, M), (u, 27720 - M)] 2; rw [h1, hmin], fun k h3 h4 => ?_, by rw [hT, h1]; omega, by rw [hT]; show _ ≤ htAt i [(v, M), (u, 27720 - M)] 2; rw [h2]; omega⟩
      obtain rfl : k = 2 := by simp at h4; omega
      show htAt i [(v, M), (u, 27720 - M)] 2 ≠ minHt i [(v, M), (u, 27720 - M)] 2
      rw [h2, hmin]
      omega
    obtain ⟨hA, hB⟩ := hpl.unique (fun k h3 h4 => by omega)
    have hsub : -(27720 * (m : Int)) + 27720 - -(27720 * m) = 27720 := by omega
    rw [hp]
    rw [lowF_of (s := d) (c := c) hA hB hT (by show ¬ htAt i [(v, M), (u, 27720 - M)] 2 < _; rw [h2]; omega) h1 (by show u.getD i 0 = d; exact hui) (by rw [hsub]; exact htm) (by rw [hsub]; exact htd)]
    have ht1 : timeAt [(v, M), (u, 27720 - M)] 1 = M := by show (0 : Int) + M = M; omega
    rw [ht1]
    have hb : betS (refl r ts i) M (M + c) [(v, M), (u, 27720 - M)] = [(v, M), (refl r ts i v, 0), (v, 0), (u, 0), (v, c), (u, 27720 - M - c)] := by
      have hw1 : within M 0 M = M := by unfold within; rw [if_neg (by omega), if_neg (by omega)]
      have hw2 : within (M + c) 0 M = M := by unfold within; rw [if_neg (by omega), if_pos (by omega)]
      have hw3 : within M M 27720 = M := by unfold within; rw [if_neg (by omega), if_neg (by omega)]
      have hw4 : within (M + c) M 27720 = M + c := by unfold within; rw [if_neg (by omega), if_neg (by omega)]
      have e2 : M + (27720 - M) = 27720 := by omega
      simp only [betS, betTo, List.length_cons, List.length_nil, List.range_succ, List.range_zero, List.nil_append, List.flatMap_append, List.flatMap_cons, List.flatMap_nil, List.append_nil, betK, wayAt, timeAt, lenAt, List.getD_cons_zero, List.getD_cons_succ, Int.zero_add, e2, hw1, hw2, hw3, hw4, ← hv]
      simp
      omega
    rw [hb]
    have hj : joinS [(v, M), (refl r ts i v, 0), (v, 0), (u, 0), (v, c), (u, 27720 - M - c)] = turnS u v (M + c) := by
      rw [← hjoin]
      simp [joinS, addS]
    unfold checkS
    rw [hj, hok, if_pos rfl]
end Go.Proofs.YtfikkfbnlegflaaGreatDoor

namespace Go.Proofs.YtfikkfbnlegflaaGreatDoor
open Go.RowKit

end Go.Proofs.YtfikkfbnlegflaaGreatDoor

namespace Go.Proofs.YtfikkfbnlegflaaGreatDoor
open Go.RowKit

end Go.Proofs.YtfikkfbnlegflaaGreatDoor

namespace Go.Proofs.YtfikkfbnlegflaaGreatDoor
open Go.RowKit

end Go.Proofs.YtfikkfbnlegflaaGreatDoor

namespace Go.Proofs.YtfikkfbnlegflaaGreatDoor
open Go.RowKit

/-- the basis element k -/
def basisL (n k : Nat) : List Int := (List.replicate n 0).set k 1
end Go.Proofs.YtfikkfbnlegflaaGreatDoor

namespace Go.Proofs.YtfikkfbnlegflaaGreatDoor
open Go.RowKit

def drefL (r : Nat) (ts : List Int) (i : Nat) (y : List Int) : List Int := y.set i (y.getD i 0 - sumTo r fun k => ts.getD (k * r + i) 0 * y.getD k 0)
def nonnegL (y : List Int) : Bool := y.all fun n => decide (0 ≤ n)
def corGo (r : Nat) (ts : List Int) : Nat → List (List Int) → List (List Int) → List (List Int)
  | 0, done, _ => done
  | _ + 1, done, [] => done
  | f + 1, done, y :: q => corGo r ts f (done ++ [y]) (((List.range r).map fun i => drefL r ts i y).foldl (fun q z => if nonnegL z && !(done.contains z) && z != y && !(q.contains z) then q ++ [z] else q) q)
def corP (r : Nat) (ts : List Int) : List (List Int) := corGo r ts 40 [] ((List.range r).map (basisL r))
/-- down to a simple one: the rows taken, and the simple one's place -/
def chainD (r : Nat) (ts : List Int) : Nat → List Int → List Nat × Nat
  | 0, _ => ([], 1000)
  | f + 1, y => match (List.range r).find? (fun j => y == basisL r j) with
    | some j => ([], j)
    | none => match (List.range r).find? (fun k => nonnegL (drefL r ts k y) && decide ((drefL r ts k y).getD k 0 < y.getD k 0)) with
      | some k => let c := chainD r ts f (drefL r ts k y); (k :: c.1, c.2)
      | none => ([], 1000)
/-- pulled back along the rows -/
def backD (r : Nat) (ts : List Int) (ks : List Nat) (y : List Int) : List Int := ks.foldr (drefL r ts) y
def stepsOk (r : Nat) (ts : List Int) (ks : List Nat) : Bool := (List.range ks.length).all fun t => decide (ks.getD t 0 < r) && nonnegL (backD r ts (ks.take t) (basisL r (ks.getD t 0)))
def chainOk (r : Nat) (ts : List Int) (y : List Int) : Bool := let c := chainD r ts 20 y; decide (c.2 < r) && (backD r ts c.1 (basisL r c.2) == y) && stepsOk r ts c.1
def corOk (r : Nat) (ts : List Int) : Bool :=
  ((List.range r).all fun i => (corP r ts).contains (basisL r i) && decide (ts.getD (i * r + i) 0 = 2)) && (corP r ts).all fun y => decide (y.length = r) && nonnegL y && (y.all fun n => decide (n ≤ 10)) && chainOk r ts y &&
    (List.range r).all fun i => y == basisL r i || (corP r ts).contains (drefL r ts i y)
/-! ### pairings -/
def dotL (r : Nat) (x y : List Int) : Int := sumTo r fun j => x.getD j 0 * y.getD j 0
theorem sumTo_at {n i : Nat} (hi : i < n) {f g : Nat → Int} (h : ∀ j, j < n → j ≠ i → g j = f j) : sumTo n g = sumTo n f - f i + g i := by
  induction n with
  | zero => omega
  | succ n ih =>
    simp only [sumTo]
    rcases Nat.lt_or_ge i n with h1 | h1
    · rw [ih h1 fun j hj hne => h j (by omega) hne, h n (by omega) (by omega)]
      omega
    · obtain rfl : i = n := by omega
      rw [sumTo_congr fun j hj => h j (by omega) (by omega)]
      omega
theorem sumTo_lin (n : Nat) (f g : Nat → Int) (a : Int) : sumTo n (fun j => f j - a * g j) = sumTo n f - a * sumTo n g := by
  induction n with
  | zero => simp [sumTo]
  | succ n ih =>
    simp only [sumTo]
    rw [ih, Int.mul_add]
    omega
theorem sumTo_neg (n : Nat) (f : Nat → Int) : sumTo n (fun j => -(f j)) = -(sumTo n f) := by
  induction n with
  | zero => rfl
  | succ n ih => simp only [sumTo]; rw [ih]; omega
theorem neg_getD (y : List Int) (k : Nat) : (y.map fun n => -n).getD k 0 = -(y.getD k 0) := by
  simp only [List.getD_eq_getElem?_getD, List.getElem?_map]
  cases y[k]? <;> simp
theorem drefL_length (r : Nat) (ts : List Int) (i : Nat) (y : List Int) : (drefL r ts i y).length = y.length := by simp [drefL]
theorem dot_refl {r : Nat} (ts : List Int) {i : Nat} (hi : i < r) {x y : List Int} (hy : y.length = r) : dotL r (refl r ts i x) y = dotL r x (drefL r ts i y) := by
  have h1 : dotL r (refl r ts i x) y = sumTo r fun j => x.getD j 0 * y.getD j 0 - x.getD i 0 * (ts.getD (j * r + i) 0 * y.getD j 0) := by
    unfold dotL
    refine sumTo_congr fun j hj => ?_
    rw [refl_get _ _ _ _ _ hj, Int.sub_mul, Int.mul_assoc]
  have h2 : dotL r x (drefL r ts i y) = dotL r x y - x.getD i 0 * y.getD i 0 + x.getD i 0 * (y.getD i 0 - sumTo r fun k => ts.getD (k * r + i) 0 * y.getD k 0) := by
    unfold dotL
    rw [sumTo_at hi (f := fun j => x.getD j 0 * y.getD j 0) (g := fun j => x.getD j 0 * (drefL r ts i y).getD j 0) (fun j hj hne => by
      simp only [drefL, List.getD_eq_getElem?_getD]
      rw [List.getElem?_set_ne (Ne.symm hne)])]
    congr 2
    simp only [drefL, List.getD_eq_getElem?_getD]
    rw [List.getElem?_set_self (by omega)]
    rfl
  rw [h1, sumTo_lin, h2]
  unfold dotL
  rw [Int.mul_sub]
  omega
theorem dot_basis {r i : Nat} (hi : i < r) (x : List Int) : dotL r x (basisL r i) = x.getD i 0 := by
  unfold dotL
  rw [sumTo_at hi (f := fun _ => 0) (g := fun j => x.getD j 0 * (basisL r i).getD j 0) (fun j hj hne => by
    rw [show (basisL r i).getD j 0 = 0 by
      simp only [basisL, List.getD_eq_getElem?_getD]
      rw [List.getElem?_set_ne (Ne.symm hne)]
      simp [hj]]
    simp)]
  have : ∀ n, sumTo n (fun _ => (0 : Int)) = 0 := fun n => by induction n with | zero => rfl | succ n ih => simp [sumTo, ih]
  rw [this, show (basisL r i).getD i 0 = 1 by simp [basisL, List.getD_eq_getElem?_getD, hi]]
  omega
theorem dot_nonneg {r : Nat} {x y : List Int} (hx : ∀ j, j < r → 0 ≤ x.getD j 0) (hy : ∀ j, j < r → 0 ≤ y.getD j 0) : 0 ≤ dotL r x y := by
  unfold dotL
  have : ∀ n, n ≤ r → 0 ≤ sumTo n fun j => x.getD j 0 * y.getD j 0 := by
    intro n
    induction n with
    | zero => intro _; exact Int.le_refl _
    | succ n ih =>
      intro h
      simp only [sumTo]
      have := ih (by omega)
      have := Int.mul_nonneg (hx n (by omega)) (hy n (by omega))
      omega
  exact this r (Nat.le_refl _)
theorem nonnegL_get {y : List Int} (h : nonnegL y = true) (j : Nat) : 0 ≤ y.getD j 0 := by
  simp only [nonnegL, List.all_eq_true, decide_eq_true_eq] at h
  rw [List.getD_eq_getElem?_getD]
  cases hj : y[j]? with
  | none => simp
  | some v => exact h v (List.mem_of_getElem? hj)
/-- the weights that reflections make -/
inductive Orb (r : Nat) (ts w : List Int) : List Int → Prop
  | base : Orb r ts w w
  | step (x : List Int) (i : Nat) (hi : i < r) : Orb r ts w x → Orb r ts w (refl r ts i x)
theorem Orb.len {r : Nat} {ts w x : List Int} (hw : w.length = r) (h : Orb r ts w x) : x.length = r := by
  cases h with
  | base => exact hw
  | step => exact refl_length _ _ _ _
structure CorP (r : Nat) (ts : List Int) : Prop where
  ok : corOk r ts = true
theorem CorP.facts {r : Nat} {ts : List Int} (h : CorP r ts) : (∀ i, i < r → basisL r i ∈ corP r ts ∧ ts.getD (i * r + i) 0 = 2) ∧
    ∀ y ∈ corP r ts, y.length = r ∧ nonnegL y = true ∧ (∀ n ∈ y, n ≤ 10) ∧ chainOk r ts y = true ∧ ∀ i, i < r → y = basisL r i ∨ drefL r ts i y ∈ corP r ts := by
  have h1 := h.ok
  simp only [corOk, Bool.and_eq_true, List.all_eq_true, List.mem_range, decide_eq_true_eq, Bool.or_eq_true, beq_iff_eq, List.contains_iff_mem] at h1
  exact ⟨h1.1, fun y hy => ⟨(h1.2 y hy).1.1.1.1, (h1.2 y hy).1.1.1.2, (h1.2 y hy).1.1.2, (h1.2 y hy).1.2, (h1.2 y hy).2⟩⟩
theorem dref_basis {r : Nat} {ts : List Int} {i : Nat} (hi : i < r) (hd : ts.getD (i * r + i) 0 = 2) : drefL r ts i (basisL r i) = (basisL r i).map fun n => -n := by
  have hs : (sumTo r fun k => ts.getD (k * r + i) 0 * (basisL r i).getD k 0) = 2 := by
    have := dot_basis hi ((List.range r).map fun k => ts.getD (k * r + i) 0)
    unfold dotL at this
    rw [← hd, ← show ((List.range r).map fun k => ts.getD (k * r + i) 0).getD i 0 = ts.getD (i * r + i) 0 by simp [List.getD_eq_getElem?_getD, hi], ← this]
    refine sumTo_congr fun k hk => ?_
    simp [List.getD_eq_getElem?_getD, hk]
  unfold drefL
  rw [hs]
  apply List.ext_getElem
  · simp
  · intro j h1 h2
    have hj : j < r := by simpa [basisL] using h1
    by_cases e : i = j
    · subst e
      simp [basisL, hi]
    · rw [List.getElem_set_ne e]
      simp [basisL, List.getElem_set_ne e]
/-- each number of a weight of the orbit is a pairing of the first weight with a coroot, up to the sign -/
theorem orb_coord {r : Nat} {ts w : List Int} (hc : CorP r ts) {x : List Int} (h : Orb r ts w x) : ∀ y ∈ corP r ts, ∃ z ∈ corP r ts, dotL r x y = dotL r w z ∨ dotL r x y = -(dotL r w z) := by
  have hf := hc.facts
  have hneg : ∀ x z, dotL r x (z.map fun n => -n) = -(dotL r x z) := fun x z => by
    unfold dotL
    rw [← sumTo_neg]
    refine sumTo_congr fun k _ => ?_
    rw [neg_getD, Int.mul_neg]
  induction h with
  | base => exact fun y hy => ⟨y, hy, .inl rfl⟩
  | step x i hi _ ih =>
    intro y hy
    obtain ⟨hl, _, _, _, hcl⟩ := hf.2 y hy
    rw [dot_refl ts hi hl]
    rcases hcl i hi with rfl | h2
    · rw [dref_basis hi (hf.1 i hi).2, hneg]
      obtain ⟨z, hz, h3⟩ := ih _ hy
      refine ⟨z, hz, ?_⟩
      rcases h3 with h3 | h3
      · right; omega
      · left; omega
    · exact ih _ h2
end Go.Proofs.YtfikkfbnlegflaaGreatDoor

namespace Go.Proofs.YtfikkfbnlegflaaGreatDoor
open Go.RowKit

structure ClosedP (r : Nat) (ts w : List Int) (P : List Stp → Prop) : Prop where
  top : P (strP w)
  low : ∀ p i q, P p → i < r → lowF r ts i p = some q → P q
  le : ∀ p, P p → ∀ s ∈ p, ∀ j, j < r → s.1.getD j 0 ≤ 12
/-- a highest weight -/
structure HighW (r : Nat) (w : List Int) : Prop where
  len : w.length = r
  r4 : r ≤ 4
  bd : ∀ j, j < r → 0 ≤ w.getD j 0 ∧ w.getD j 0 ≤ 3
theorem cor_dot {r : Nat} {ts w : List Int} (hc : CorP r ts) (hw : HighW r w) {z : List Int} (hz : z ∈ corP r ts) : 0 ≤ dotL r w z ∧ dotL r w z ≤ 120 := by
  obtain ⟨hl, hn, hb, _, _⟩ := hc.facts.2 z hz
  refine ⟨dot_nonneg (fun j hj => (hw.bd j hj).1) fun j _ => nonnegL_get hn j, ?_⟩
  have key : ∀ n, n ≤ r → sumTo n (fun j => w.getD j 0 * z.getD j 0) ≤ n * 30 := by
    intro n
    induction n with
    | zero => intro _; simp [sumTo]
    | succ n ih =>
      intro h
      have h1 := ih (by omega)
      have h2 := hw.bd n (by omega)
      have h3 : 0 ≤ z.getD n 0 ∧ z.getD n 0 ≤ 10 := by
        refine ⟨nonnegL_get hn n, hb _ ?_⟩
        rw [List.getD_eq_getElem?_getD, List.getElem?_eq_getElem (by omega)]
        exact List.getElem_mem _
      have h4 : w.getD n 0 * z.getD n 0 ≤ 3 * 10 := Int.mul_le_mul h2.2 h3.2 h3.1 (by omega)
      simp only [sumTo]
      omega
  have := key r (Nat.le_refl _)
  have hr := hw.r4
  unfold dotL
  omega
theorem orb_bd {r : Nat} {ts w : List Int} (hc : CorP r ts) (hw : HighW r w) {x : List Int} (h : Orb r ts w x) : wayB r x = true := by
  have hl := h.len hw.len
  unfold wayB
  rw [Bool.and_eq_true, decide_eq_true_eq, List.all_eq_true]
  refine ⟨hl, fun n hn => ?_⟩
  obtain ⟨j, hj, rfl⟩ := List.mem_iff_getElem.1 hn
  have hjr : j < r := by omega
  obtain ⟨z, hz, h2⟩ := orb_coord hc h (basisL r j) (hc.facts.1 j hjr).1
  have h3 := cor_dot hc hw hz
  rw [dot_basis hjr, List.getD_eq_getElem?_getD, List.getElem?_eq_getElem hj, Option.getD_some] at h2
  rw [decide_eq_true_eq]
  omega
theorem turn_one {r : Nat} {ts w : List Int} (hc : CorP r ts) (hw : HighW r w) {P : List Stp → Prop} (hP : ClosedP r ts w P) {x : List Int} (h : Orb r ts w x) (hx : P (strP x)) {i : Nat} (hi : i < r) (h0 : 0 ≤ x.getD i 0) : P (strP (refl r ts i x)) := by
  have hl := h.len hw.len
  obtain ⟨d, hd⟩ : ∃ d, d = x.getD i 0 := ⟨_, rfl⟩
  rw [← hd] at h0
  by_cases hz : d = 0
  · have : refl r ts i x = x := by
      apply List.ext_getElem
      · rw [refl_length, hl]
      · intro j h1 h2
        have h3 := refl_get r ts i x j (by rw [refl_length] at h1; exact h1)
        rw [← hd, hz, Int.zero_mul, Int.sub_zero, List.getD_eq_getElem?_getD, List.getElem?_eq_getElem h1, List.getD_eq_getElem?_getD, List.getElem?_eq_getElem h2] at h3
        exact h3
    rw [this]
    exact hx
  · have h12 : d ≤ 12 := by
      have := hP.le _ hx (x, 27720) (by simp [strP]) i hi
      rw [← hd] at this
      exact this
    obtain ⟨c, hdc, hc1⟩ : ∃ c, d * c = 27720 ∧ 1 ≤ c := by
      rcases (by omega : d = 1 ∨ d = 2 ∨ d = 3 ∨ d = 4 ∨ d = 5 ∨ d = 6 ∨ d = 7 ∨ d = 8 ∨ d = 9 ∨ d = 10 ∨ d = 11 ∨ d = 12) with rfl | rfl | rfl | rfl | rfl | rfl | rfl | rfl | rfl | rfl | rfl | rfl
      · exact ⟨27720, by decide, by decide⟩
      · exact ⟨13860, by decide, by decide⟩
      · exact ⟨9240, by decide, by decide⟩
      · exact ⟨6930, by decide, by decide⟩
      · exact ⟨5544, by decide, by decide⟩
      · exact ⟨4620, by decide, by decide⟩
      · exact ⟨3960, by decide, by decide⟩
      · exact ⟨3465, by decide, by decide⟩
      · exact ⟨3080, by decide, by decide⟩
      · exact ⟨2772, by decide, by decide⟩
      · exact ⟨2520, by decide, by decide⟩
      · exact ⟨2310, by decide, by decide⟩
    have ht : TurnP r ts x i d c := ⟨hl, hi, hd.symm, by omega, hdc, hc1, (hc.facts.1 i hi).2, orb_bd hc hw h, orb_bd hc hw (.step x i hi h)⟩
    have key : ∀ m : Nat, (m : Int) ≤ d → P (turnS x (refl r ts i x) (m * c)) := by
      intro m
      induction m with
      | zero => intro _; simpa [turnS, strP] using hx
      | succ m ih => exact fun hm => hP.low _ i _ (ih (by omega)) hi (low_part ht (by omega))
    have h1 := key d.toNat (by omega)
    rw [show ((d.toNat : Nat) : Int) = d by omega, hdc] at h1
    simpa [turnS, strP] using h1
def actW (r : Nat) (ts : List Int) (ks : List Nat) (w : List Int) : List Int := ks.foldl (fun x k => refl r ts k x) w
theorem backD_length (r : Nat) (ts : List Int) (ks : List Nat) (y : List Int) : (backD r ts ks y).length = y.length := by
  induction ks with
  | nil => rfl
  | cons k ks ih => rw [backD, List.foldr_cons, drefL_length]; exact ih
theorem dot_act {r : Nat} {ts : List Int} {y : List Int} (hy : y.length = r) : ∀ (ks : List Nat) (w : List Int), (∀ k ∈ ks, k < r) → dotL r (actW r ts ks w) y = dotL r w (backD r ts ks y)
  | [], _, _ => rfl
  | k :: ks, w, h => by
    show dotL r (actW r ts ks (refl r ts k w)) y = dotL r w (drefL r ts k (backD r ts ks y))
    rw [dot_act hy ks _ fun k' hk' => h k' (by simp [hk']), dot_refl ts (h k (by simp)) (by rw [backD_length]; exact hy)]
theorem basis_len (r i : Nat) : (basisL r i).length = r := by simp [basisL]
theorem cor_reach {r : Nat} {ts w : List Int} (hc : CorP r ts) (hw : HighW r w) {P : List Stp → Prop} (hP : ClosedP r ts w P) {z : List Int} (hz : z ∈ corP r ts) : dotL r w z ≤ 12 := by
  obtain ⟨hl, _, _, hch, _⟩ := hc.facts.2 z hz
  unfold chainOk at hch
  obtain ⟨c, hcc⟩ : ∃ c, c = chainD r ts 20 z := ⟨_, rfl⟩
  rw [← hcc] at hch
  simp only [stepsOk, Bool.and_eq_true, decide_eq_true_eq, beq_iff_eq, List.all_eq_true, List.mem_range] at hch
  obtain ⟨⟨hj, hback⟩, hst⟩ := hch
  have hlt : ∀ k ∈ c.1, k < r := by
    intro k hk
    obtain ⟨t, ht, rfl⟩ := List.mem_iff_getElem.1 hk
    have := (hst t ht).1
    rwa [List.getD_eq_getElem?_getD, List.getElem?_eq_getElem ht] at this
  have key : ∀ t, t ≤ c.1.length → Orb r ts w (actW r ts (c.1.take t) w) ∧ P (strP (actW r ts (c.1.take t) w)) := by
    intro t
    induction t with
    | zero => exact fun _ => ⟨.base, hP.top⟩
    | succ t ih =>
      intro ht
      obtain ⟨h1, h2⟩ := ih (by omega)
      have h3 := (hst t (by omega)).1
      have h4 : actW r ts (c.1.take (t + 1)) w = refl r ts (c.1.getD t 0) (actW r ts (c.1.take t) w) := by
        unfold actW
        rw [List.take_succ_eq_append_getElem (by omega), List.foldl_append]
        simp [List.getD_eq_getElem?_getD, List.getElem?_eq_getElem (show t < c.1.length by omega)]
      rw [h4]
      refine ⟨.step _ _ h3 h1, turn_one hc hw hP h1 h2 h3 ?_⟩
      rw [← dot_basis h3, dot_act (basis_len _ _) _ _ fun k hk => hlt k (List.mem_of_mem_take hk)]
      exact dot_nonneg (fun j hj => (hw.bd j hj).1) fun j _ => nonnegL_get (hst t (by omega)).2 j
  obtain ⟨_, h2⟩ := key c.1.length (Nat.le_refl _)
  rw [List.take_length] at h2
  have h3 := hP.le _ h2 (actW r ts c.1 w, 27720) (by simp [strP]) c.2 hj
  rw [← dot_basis hj, dot_act (basis_len _ _) _ _ hlt, hback] at h3
  exact h3
/-- THE LAW -/
theorem orb_within {r : Nat} {ts w : List Int} (hc : CorP r ts) (hw : HighW r w) {P : List Stp → Prop} (hP : ClosedP r ts w P) {x : List Int} (h : Orb r ts w x) : ∀ j, j < r → -12 ≤ x.getD j 0 ∧ x.getD j 0 ≤ 12 := by
  intro j hj
  obtain ⟨z, hz, h2⟩ := orb_coord hc h (basisL r j) (hc.facts.1 j hj).1
  have h3 := cor_dot hc hw hz
  have h4 := cor_reach hc hw hP hz
  rw [dot_basis hj] at h2
  omega
/-! ### the ways of a path that is lowered -/
theorem addS_waysM (out : List Stp) (s : Stp) : ∀ x ∈ addS out s, (∃ y ∈ out, x.1 = y.1) ∨ x.1 = s.1 := by
  intro x hx
  by_cases h : s.2 = 0
  · rw [addS_zero _ _ h] at hx
    exact .inl ⟨x, hx, rfl⟩
  · rcases snoc_cases out with rfl | ⟨o, l, rfl⟩
    · rw [addS_nil _ h] at hx
      simp only [List.mem_singleton] at hx
      exact .inr (by rw [hx])
    · rw [addS_snoc _ _ _ h] at hx
      split at hx
      · rcases List.mem_append.1 hx with h1 | h1
        · exact .inl ⟨x, by simp [h1], rfl⟩
        · simp only [List.mem_singleton] at h1
          exact .inl ⟨l, by simp, by rw [h1]⟩
      · rcases List.mem_append.1 hx with h1 | h1
        · exact .inl ⟨x, h1, rfl⟩
        · simp only [List.mem_singleton] at h1
          exact .inr (by rw [h1])
theorem foldl_ways : ∀ (p out : List Stp), ∀ x ∈ p.foldl addS out, (∃ y ∈ out, x.1 = y.1) ∨ ∃ y ∈ p, x.1 = y.1
  | [], out, x, hx => .inl ⟨x, hx, rfl⟩
  | s :: p, out, x, hx => by
    rcases foldl_ways p (addS out s) x hx with ⟨y, hy, e⟩ | ⟨y, hy, e⟩
    · rcases addS_waysM out s y hy with ⟨z, hz, e2⟩ | e2
      · exact .inl ⟨z, hz, e.trans e2⟩
      · exact .inr ⟨s, by simp, e.trans e2⟩
    · exact .inr ⟨y, by simp [hy], e⟩
theorem lowF_ways {r : Nat} {ts : List Int} {i : Nat} {p q : List Stp} (h : lowF r ts i p = some q) : ∀ x ∈ q, ∃ y ∈ p, x.1 = y.1 ∨ x.1 = refl r ts i y.1 := by
  have key : ∀ u v : Int, checkS r (betS (refl r ts i) u v p) = some q → ∀ x ∈ q, ∃ y ∈ p, x.1 = y.1 ∨ x.1 = refl r ts i y.1 := by
    intro u v hc x hx
    unfold checkS at hc
    split at hc
    · cases hc
      rcases foldl_ways _ [] x hx with ⟨y, hy, _⟩ | ⟨y, hy, e⟩
      · simp at hy
      · unfold betS betTo at hy
        obtain ⟨k, hk, hy2⟩ := List.mem_flatMap.1 hy
        have hk := List.mem_range.1 hk
        have hm : p.getD k ([], 0) ∈ p := by
          rw [List.getD_eq_getElem?_getD, List.getElem?_eq_getElem hk]
          exact List.getElem_mem _
        refine ⟨_, hm, ?_⟩
        rw [e]
        simp only [betK, List.mem_cons, List.not_mem_nil, or_false] at hy2
        rcases hy2 with rfl | rfl | rfl
        · exact .inl rfl
        · exact .inr rfl
        · exact .inl rfl
    · cases hc
  unfold lowF lowS at h
  split at h
  · cases h
  · split at h
    · exact key _ _ h
    · cases h
theorem lowF_orb {r : Nat} {ts w : List Int} {i : Nat} (hi : i < r) {p q : List Stp} (h : lowF r ts i p = some q) (hp : ∀ s ∈ p, Orb r ts w s.1) : ∀ s ∈ q, Orb r ts w s.1 := by
  intro s hs
  obtain ⟨y, hy, e | e⟩ := lowF_ways h s hs
  · rw [e]; exact hp y hy
  · rw [e]; exact .step _ i hi (hp y hy)
end Go.Proofs.YtfikkfbnlegflaaGreatDoor

namespace Go.Proofs.YtfikkfbnlegflaaGreatDoor
open Go.RowKit

def corOne (r n : Nat) : Bool := (permsL r).all fun s => corOk r (madeL r ((typesL 5 r 0).getD n []) s)
def corCount (r : Nat) : Nat := (typesL 5 r 0).length
theorem cor_1 : (List.range (corCount 1)).all (corOne 1) = true := by decide +kernel
theorem cor_2 : (List.range (corCount 2)).all (corOne 2) = true := by decide +kernel
theorem cor_3 : (List.range (corCount 3)).all (corOne 3) = true := by decide +kernel
theorem count_4 : corCount 4 = 18 := by decide +kernel
theorem cor_4_0 : corOne 4 0 = true := by decide +kernel
theorem cor_4_1 : corOne 4 1 = true := by decide +kernel
theorem cor_4_2 : corOne 4 2 = true := by decide +kernel
theorem cor_4_3 : corOne 4 3 = true := by decide +kernel
theorem cor_4_4 : corOne 4 4 = true := by decide +kernel
theorem cor_4_5 : corOne 4 5 = true := by decide +kernel
theorem cor_4_6 : corOne 4 6 = true := by decide +kernel
theorem cor_4_7 : corOne 4 7 = true := by decide +kernel
theorem cor_4_8 : corOne 4 8 = true := by decide +kernel
theorem cor_4_9 : corOne 4 9 = true := by decide +kernel
theorem cor_4_10 : corOne 4 10 = true := by decide +kernel
theorem cor_4_11 : corOne 4 11 = true := by decide +kernel
theorem cor_4_12 : corOne 4 12 = true := by decide +kernel
theorem cor_4_13 : corOne 4 13 = true := by decide +kernel
theorem cor_4_14 : corOne 4 14 = true := by decide +kernel
theorem cor_4_15 : corOne 4 15 = true := by decide +kernel
theorem cor_4_16 : corOne 4 16 = true := by decide +kernel
theorem cor_4_17 : corOne 4 17 = true := by decide +kernel
theorem cor_4 (n : Nat) (h : n < 18) : corOne 4 n = true := by
  rcases (by omega : n = 0 ∨ n = 1 ∨ n = 2 ∨ n = 3 ∨ n = 4 ∨ n = 5 ∨ n = 6 ∨ n = 7 ∨ n = 8 ∨ n = 9 ∨ n = 10 ∨ n = 11 ∨ n = 12 ∨ n = 13 ∨ n = 14 ∨ n = 15 ∨ n = 16 ∨ n = 17) with rfl | rfl | rfl | rfl | rfl | rfl | rfl | rfl | rfl | rfl | rfl | rfl | rfl | rfl | rfl | rfl | rfl | rfl
  · exact cor_4_0
  · exact cor_4_1
  · exact cor_4_2
  · exact cor_4_3
  · exact cor_4_4
  · exact cor_4_5
  · exact cor_4_6
  · exact cor_4_7
  · exact cor_4_8
  · exact cor_4_9
  · exact cor_4_10
  · exact cor_4_11
  · exact cor_4_12
  · exact cor_4_13
  · exact cor_4_14
  · exact cor_4_15
  · exact cor_4_16
  · exact cor_4_17
theorem cor_all (r n : Nat) (h1 : 1 ≤ r) (h4 : r ≤ 4) (hn : n < corCount r) : corOne r n = true := by
  rcases (by omega : r = 1 ∨ r = 2 ∨ r = 3 ∨ r = 4) with rfl | rfl | rfl | rfl
  · have := cor_1
    simp only [List.all_eq_true, List.mem_range] at this
    exact this n hn
  · have := cor_2
    simp only [List.all_eq_true, List.mem_range] at this
    exact this n hn
  · have := cor_3
    simp only [List.all_eq_true, List.mem_range] at this
    exact this n hn
  · rw [count_4] at hn
    exact cor_4 n hn
theorem cor_of_type {r : Nat} {ts : List Int} (h : typeB r ts = true) : CorP r ts := by
  obtain ⟨h1, h4, hl⟩ := typeB_rank h
  have h1' : 1 ≤ r := by omega
  have h4' : r ≤ 4 := by omega
  have hl' : ts.length = r * r := by
    have h3 : ((r * r : Nat) : Int) = r * r := Int.natCast_mul _ _
    omega
  unfold typeB at h
  simp only [Bool.and_eq_true, List.any_eq_true, Int.toNat_natCast] at h
  obtain ⟨_, ks, hks, hre⟩ := h
  obtain ⟨s, hs, hm⟩ := reordB_iff.1 hre
  have hrk := (types_ok r (by omega) ks hks).2
  have hm' : Match ts r s (blockE ks) := by
    intro p q hp hq
    rw [hm p q hp hq]
    have hsl := hs.1
    have := atM_blockL ks p q (by rw [hrk]; omega) (by rw [hrk]; omega)
    rwa [hrk] at this
  have hmade := made_eq (by omega) hl' hs hm'
  obtain ⟨n, hn, he⟩ := List.mem_iff_getElem.1 hks
  have hc := cor_all r n h1' h4' hn
  simp only [corOne, List.all_eq_true] at hc
  have := hc s (perm_mem (by omega) hs)
  rw [List.getD_eq_getElem?_getD, List.getElem?_eq_getElem hn, Option.getD_some, he, ← hmade] at this
  exact ⟨this⟩
end Go.Proofs.YtfikkfbnlegflaaGreatDoor

namespace Go.Proofs.YtfikkfbnlegflaaGreatDoor
open Go.RowKit

/-- the search: none: out of fuel; some none: given up -/
def explGo (r : Nat) (ts : List Int) (bad : List Stp → Bool) : Nat → Nat → Nat → List (List Stp) → Option (Option (List (List Stp)))
  | 0, _, _, _ => none
  | f + 1, k, i, out =>
    if k < out.length then
      if i < r then
        match lowF r ts i (out.getD k []) with
        | none => explGo r ts bad f k (i + 1) out
        | some q => if out.contains q then explGo r ts bad f k (i + 1) out else if bad q || out.length == 400 then some none else explGo r ts bad f k (i + 1) (out ++ [q])
      else explGo r ts bad f (k + 1) 0 out
    else some (some out)
theorem expl_fuel (r : Nat) (ts : List Int) (bad : List Stp → Bool) : ∀ (f k i : Nat) (out : List (List Stp)), k ≤ out.length → out.length ≤ 400 → (400 - k) * (r + 1) + (r - i) < f → ∃ res, explGo r ts bad f k i out = some res
  | 0, _, _, _, _, _, h => by omega
  | f + 1, k, i, out, hk, hl, hf => by
    rw [explGo]
    by_cases h1 : k < out.length
    · rw [if_pos h1]
      by_cases h2 : i < r
      · rw [if_pos h2]
        cases hq : lowF r ts i (out.getD k []) with
        | none => exact expl_fuel r ts bad f k (i + 1) out hk hl (by omega)
        | some q =>
          show ∃ res, (if out.contains q then _ else _) = some res
          split
          · exact expl_fuel r ts bad f k (i + 1) out hk hl (by omega)
          · split
            · exact ⟨none, rfl⟩
            · rename_i h3
              simp only [Bool.or_eq_true, beq_iff_eq, not_or] at h3
              exact expl_fuel r ts bad f k (i + 1) (out ++ [q]) (by simp; omega) (by simp; omega) (by omega)
      · rw [if_neg h2]
        have h3 : (400 - k) * (r + 1) = (400 - (k + 1)) * (r + 1) + (r + 1) := by
          rw [show 400 - k = (400 - (k + 1)) + 1 by omega, Nat.add_mul, Nat.one_mul]
        exact expl_fuel r ts bad f (k + 1) 0 out (by omega) hl (by omega)
    · rw [if_neg h1]
      exact ⟨_, rfl⟩
/-- what is known of a search on its way -/
structure ExplInv (r : Nat) (ts w : List Int) (bad : List Stp → Bool) (k i : Nat) (out : List (List Stp)) : Prop where
  top : strP w ∈ out
  done : ∀ k', k' < k → ∀ j, j < r → ∀ q, lowF r ts j (out.getD k' []) = some q → q ∈ out
  part : ∀ j, j < i → j < r → ∀ q, lowF r ts j (out.getD k []) = some q → q ∈ out
  fine : ∀ p ∈ out, p = strP w ∨ bad p = false
  kl : k ≤ out.length
theorem getD_snoc {out : List (List Stp)} {q : List Stp} {k : Nat} (hk : k < out.length) : (out ++ [q]).getD k [] = out.getD k [] := by
  simp [List.getD_eq_getElem?_getD, List.getElem?_append_left hk]
theorem expl_closed {r : Nat} {ts w : List Int} {bad : List Stp → Bool} : ∀ (f k i : Nat) (out L : List (List Stp)), ExplInv r ts w bad k i out → explGo r ts bad f k i out = some (some L) →
    strP w ∈ L ∧ (∀ p ∈ L, ∀ j, j < r → ∀ q, lowF r ts j p = some q → q ∈ L) ∧ ∀ p ∈ L, p = strP w ∨ bad p = false
  | 0, _, _, _, _, _, h => by cases h
  | f + 1, k, i, out, L, hi, h => by
    rw [explGo] at h
    by_cases h1 : k < out.length
    · rw [if_pos h1] at h
      by_cases h2 : i < r
      · rw [if_pos h2] at h
        cases hq : lowF r ts i (out.getD k []) with
        | none =>
          rw [hq] at h
          refine expl_closed f k (i + 1) out L ⟨hi.top, hi.done, fun j hj hj2 q h5 => ?_, hi.fine, hi.kl⟩ h
          rcases Nat.lt_succ_iff_lt_or_eq.1 hj with h6 | rfl
          · exact hi.part j h6 hj2 q h5
          · rw [hq] at h5; cases h5
        | some q =>
          rw [hq] at h
          simp only at h
          split at h
          · rename_i h3
            refine expl_closed f k (i + 1) out L ⟨hi.top, hi.done, fun j hj hj2 q' h5 => ?_, hi.fine, hi.kl⟩ h
            rcases Nat.lt_succ_iff_lt_or_eq.1 hj with h6 | rfl
            · exact hi.part j h6 hj2 q' h5
            · rw [hq] at h5; cases h5
              simpa using h3
          · split at h
            · cases h
            · rename_i h3 h4
              simp only [Bool.or_eq_true, not_or, Bool.not_eq_true] at h4
              refine expl_closed f k (i + 1) (out ++ [q]) L ⟨by simp [hi.top], fun k' hk' j hj q' h5 => ?_, fun j hj hj2 q' h5 => ?_, fun p hp => ?_, by simp; have := hi.kl; omega⟩ h
              · rw [getD_snoc (by omega)] at h5
                exact List.mem_append_left _ (hi.done k' hk' j hj q' h5)
              · rw [getD_snoc h1] at h5
                rcases Nat.lt_succ_iff_lt_or_eq.1 hj with h6 | rfl
                · exact List.mem_append_left _ (hi.part j h6 hj2 q' h5)
                · rw [hq] at h5; cases h5
                  simp
              · rcases List.mem_append.1 hp with h6 | h6
                · exact hi.fine p h6
                · simp only [List.mem_singleton] at h6
                  subst h6
                  exact .inr h4.1
      · rw [if_neg h2] at h
        refine expl_closed f (k + 1) 0 out L ⟨hi.top, fun k' hk' j hj q h5 => ?_, fun j hj => by omega, hi.fine, by omega⟩ h
        rcases Nat.lt_succ_iff_lt_or_eq.1 hk' with h6 | rfl
        · exact hi.done k' h6 j hj q h5
        · exact hi.part j (by omega) hj q h5
    · rw [if_neg h1] at h
      cases h
      refine ⟨hi.top, fun p hp j hj q h5 => ?_, hi.fine⟩
      obtain ⟨k', hk', rfl⟩ := List.mem_iff_getElem.1 hp
      refine hi.done k' (by omega) j hj q ?_
      rw [List.getD_eq_getElem?_getD, List.getElem?_eq_getElem hk']
      exact h5
/-- a test of steepness -/
structure SteepT (r : Nat) (bad : List Stp → Bool) : Prop where
  le : ∀ q, bad q = false → ∀ s ∈ q, ∀ j, j < r → s.1.getD j 0 ≤ 12
  no : ∀ q, (∀ s ∈ q, s.1.length = r ∧ ∀ j, j < r → -12 ≤ s.1.getD j 0 ∧ s.1.getD j 0 ≤ 12) → bad q = false
theorem expl_within {r : Nat} {ts w : List Int} (hc : CorP r ts) (hw : HighW r w) {bad : List Stp → Bool} (hb : SteepT r bad) {f : Nat} {L : List (List Stp)} (h : explGo r ts bad f 0 0 [strP w] = some (some L)) :
    ∀ x, Orb r ts w x → ∀ j, j < r → -12 ≤ x.getD j 0 ∧ x.getD j 0 ≤ 12 := by
  have h0 : ExplInv r ts w bad 0 0 [strP w] := ⟨by simp, fun k' h => by omega, fun j h => by omega, fun p hp => .inl (by simpa using hp), by simp⟩
  obtain ⟨h1, h2, h3⟩ := expl_closed f 0 0 [strP w] L h0 h
  intro x hx
  refine orb_within hc hw (P := fun p => p ∈ L) ⟨h1, fun p i q hp hi hq => h2 p hp i hi q hq, fun p hp s hs j hj => ?_⟩ hx
  rcases h3 p hp with rfl | h4
  · simp only [strP, List.mem_singleton] at hs
    subst hs
    have := hw.bd j hj
    show w.getD j 0 ≤ 12
    omega
  · exact hb.le p h4 s hs j hj
theorem expl_alike {r : Nat} {ts w : List Int} (hlen : w.length = r) {b1 b2 : List Stp → Bool} (h1 : SteepT r b1) (h2 : SteepT r b2) (hin : ∀ x, Orb r ts w x → ∀ j, j < r → -12 ≤ x.getD j 0 ∧ x.getD j 0 ≤ 12) :
    ∀ (f k i : Nat) (out : List (List Stp)), (∀ p ∈ out, ∀ s ∈ p, Orb r ts w s.1) → explGo r ts b1 f k i out = explGo r ts b2 f k i out
  | 0, _, _, _, _ => rfl
  | f + 1, k, i, out, ho => by
    rw [explGo, explGo]
    by_cases hk : k < out.length
    · rw [if_pos hk, if_pos hk]
      by_cases hi : i < r
      · rw [if_pos hi, if_pos hi]
        have hm : out.getD k [] ∈ out := by
          rw [List.getD_eq_getElem?_getD, List.getElem?_eq_getElem hk]
          exact List.getElem_mem _
        cases hq : lowF r ts i (out.getD k []) with
        | none => exact expl_alike hlen h1 h2 hin f k (i + 1) out ho
        | some q =>
          have hqo := lowF_orb hi hq (ho _ hm)
          have hfl : ∀ s ∈ q, s.1.length = r ∧ ∀ j, j < r → -12 ≤ s.1.getD j 0 ∧ s.1.getD j 0 ≤ 12 := fun s hs => ⟨(hqo s hs).len hlen, hin _ (hqo s hs)⟩
          simp only
          rw [h1.no q hfl, h2.no q hfl]
          split
          · exact expl_alike hlen h1 h2 hin f k (i + 1) out ho
          · split
            · rfl
            · refine expl_alike hlen h1 h2 hin f k (i + 1) (out ++ [q]) fun p hp => ?_
              rcases List.mem_append.1 hp with h6 | h6
              · exact ho p h6
              · simp only [List.mem_singleton] at h6
                subst h6
                exact hqo
      · rw [if_neg hi, if_neg hi]
        exact expl_alike hlen h1 h2 hin f (k + 1) 0 out ho
    · rw [if_neg hk, if_neg hk]
/-- the paths of a weight -/
def explF (r : Nat) (ts : List Int) (bad : List Stp → Bool) (w : List Int) : Option (List (List Stp)) := (explGo r ts bad 3000 0 0 [strP w]).getD none
theorem expl_some {r : Nat} (hr : r ≤ 4) (ts : List Int) (bad : List Stp → Bool) (w : List Int) : explGo r ts bad 3000 0 0 [strP w] = some (explF r ts bad w) := by
  obtain ⟨res, h⟩ := expl_fuel r ts bad 3000 0 0 [strP w] (by simp) (by simp) (by
    have : 400 * (r + 1) ≤ 400 * 5 := Nat.mul_le_mul_left _ (by omega)
    omega)
  rw [explF, h]
  rfl
/-- THE LAW -/
theorem expl_same {r : Nat} {ts w : List Int} (hc : CorP r ts) (hw : HighW r w) {b1 b2 : List Stp → Bool} (h1 : SteepT r b1) (h2 : SteepT r b2) : explF r ts b1 w = explF r ts b2 w := by
  by_cases hin : ∀ x, Orb r ts w x → ∀ j, j < r → -12 ≤ x.getD j 0 ∧ x.getD j 0 ≤ 12
  · unfold explF
    rw [expl_alike hw.len h1 h2 hin 3000 0 0 [strP w] fun p hp s hs => by
      simp only [List.mem_singleton] at hp
      subst hp
      simp only [strP, List.mem_singleton] at hs
      subst hs
      exact .base]
  · have key : ∀ b, SteepT r b → explF r ts b w = none := by
      intro b hb
      cases he : explF r ts b w with
      | none => rfl
      | some L =>
        have h3 := expl_some hw.r4 ts b w
        rw [he] at h3
        exact absurd (expl_within hc hw hb h3) hin
    rw [key b1 h1, key b2 h2]
end Go.Proofs.YtfikkfbnlegflaaGreatDoor

namespace Go.Proofs.YtfikkfbnlegflaaGreatDoor
open Go.RowKit

/-- from here on the search ends with res -/
def Seeks (r : Nat) (ts : List Int) (bad : List Stp → Bool) (k i : Nat) (out : List (List Stp)) (res : Option (List (List Stp))) : Prop := ∃ f, explGo r ts bad f k i out = some res
section
variable {r : Nat} {ts : List Int} {bad : List Stp → Bool} {k i : Nat} {out : List (List Stp)} {res : Option (List (List Stp))}
theorem Seeks.done (h : Seeks r ts bad k i out res) (hk : ¬ k < out.length) : res = some out := by
  obtain ⟨f, h⟩ := h
  cases f with
  | zero => cases h
  | succ f => rw [explGo, if_neg hk] at h; cases h; rfl
theorem Seeks.next (h : Seeks r ts bad k i out res) (hk : k < out.length) (hi : ¬ i < r) : Seeks r ts bad (k + 1) 0 out res := by
  obtain ⟨f, h⟩ := h
  cases f with
  | zero => cases h
  | succ f => rw [explGo, if_pos hk, if_neg hi] at h; exact ⟨f, h⟩
theorem Seeks.none_ (h : Seeks r ts bad k i out res) (hk : k < out.length) (hi : i < r) (hq : lowF r ts i (out.getD k []) = none) : Seeks r ts bad k (i + 1) out res := by
  obtain ⟨f, h⟩ := h
  cases f with
  | zero => cases h
  | succ f => rw [explGo, if_pos hk, if_pos hi, hq] at h; exact ⟨f, h⟩
theorem Seeks.seen (h : Seeks r ts bad k i out res) (hk : k < out.length) (hi : i < r) {q : List Stp} (hq : lowF r ts i (out.getD k []) = some q) (hc : out.contains q = true) : Seeks r ts bad k (i + 1) out res := by
  obtain ⟨f, h⟩ := h
  cases f with
  | zero => cases h
  | succ f => rw [explGo, if_pos hk, if_pos hi, hq] at h; simp only [hc, if_true] at h; exact ⟨f, h⟩
theorem Seeks.given (h : Seeks r ts bad k i out res) (hk : k < out.length) (hi : i < r) {q : List Stp} (hq : lowF r ts i (out.getD k []) = some q) (hc : out.contains q = false) (hb : (bad q || out.length == 400) = true) : res = none := by
  obtain ⟨f, h⟩ := h
  cases f with
  | zero => cases h
  | succ f => rw [explGo, if_pos hk, if_pos hi, hq] at h; simp only [hc, hb, if_true, Bool.false_eq_true, if_false] at h; cases h; rfl
theorem Seeks.more (h : Seeks r ts bad k i out res) (hk : k < out.length) (hi : i < r) {q : List Stp} (hq : lowF r ts i (out.getD k []) = some q) (hc : out.contains q = false) (hb : (bad q || out.length == 400) = false) : Seeks r ts bad k (i + 1) (out ++ [q]) res := by
  obtain ⟨f, h⟩ := h
  cases f with
  | zero => cases h
  | succ f => rw [explGo, if_pos hk, if_pos hi, hq] at h; simp only [hc, hb, Bool.false_eq_true, if_false] at h; exact ⟨f, h⟩
end
theorem seeks_start {r : Nat} (hr : r ≤ 4) (ts : List Int) (bad : List Stp → Bool) (w : List Int) : Seeks r ts bad 0 0 [strP w] (explF r ts bad w) := ⟨3000, expl_some hr ts bad w⟩
end Go.Proofs.YtfikkfbnlegflaaGreatDoor

set_option linter.unusedVariables false
set_option linter.unusedSimpArgs false
namespace Go.Proofs.YtfikkfbnlegflaaGreatDoor
open Go.RowKit

/-- a path in memory: its blocks lie from lo on and under hi -/
structure PEl where
  lo : Nat
  hi : Nat
  at_ : Option Addr
  cap : Nat
  hs : List Hdr
  q : List Stp
def PEl.val (e : PEl) : Value := .slice e.at_ e.q.length e.cap
def pvs (ps : List PEl) : List Value := ps.map PEl.val
theorem pvs_length (ps : List PEl) : (pvs ps).length = ps.length := by simp [pvs]
structure PEl.Ok (w : World) (B : Nat) (e : PEl) : Prop where
  own : OwnK stepK w e.lo e.hi e.at_ e.q.length e.cap e.hs e.q
  base : B ≤ e.lo
  le : e.lo ≤ e.hi
  top : e.hi ≤ w.heap.size
structure OwnPs (w : World) (B : Nat) (a : Option Addr) (n c : Nat) (ps : List PEl) : Prop where
  row : w.ownsRow B 28 1 (.slice a n c) n (pvs ps)
  nn : a ≠ none
  each : ∀ e ∈ ps, e.Ok w B
  sep : ps.Pairwise (fun e f => e.hi ≤ f.lo)
  far : ∀ e ∈ ps, ∀ b o, a = some ⟨b, o, none⟩ → b < e.lo ∨ e.hi ≤ b
section
variable {w w' : World} {B n c : Nat} {a : Option Addr} {ps : List PEl}
theorem OwnPs.len (h : OwnPs w B a n c ps) : ps.length = n := by
  have := h.row.1
  simpa [pvs_length] using this
theorem OwnPs.form (h : OwnPs w B a n c ps) : ∃ g, a = some ⟨g, 0, none⟩ ∧ B ≤ g ∧ g < w.heap.size ∧ n ≤ c ∧ c ≤ maxLen := by
  rcases h.row.2 with ⟨he, h0⟩ | ⟨g, cap, cur, he, hB, hg, hnc, hcm, hcs, ht⟩
  · simp only [Value.slice.injEq] at he
    exact absurd he.1 h.nn
  · simp only [Value.slice.injEq, true_and] at he
    obtain ⟨rfl, rfl⟩ := he
    exact ⟨g, rfl, hB, (Array.getElem?_eq_some_iff.1 hg).1, hnc, hcm⟩
theorem OwnPs.cell (h : OwnPs w B a n c ps) {k : Nat} (hk : k < n) {g : Nat} (e : a = some ⟨g, 0, none⟩) : ∃ (hk2 : k < ps.length), w.cell? ⟨g, k, none⟩ = some (ps[k].val) := by
  subst e
  have hk2 : k < ps.length := by have := h.len; omega
  refine ⟨hk2, ?_⟩
  have h3 := h.row.cellAt k (by omega)
  rw [h3]
  simp [pvs, hk2]
/-- whatever leaves the list's own blocks alone, keeps it -/
theorem OwnPs.kept (h : OwnPs w B a n c ps) {row : Option Nat} (hg : w.grownBy w' row) (hr : ∀ b, row = some b → (∀ o, a ≠ some ⟨b, o, none⟩) ∧ ∀ e ∈ ps, b < e.lo ∨ e.hi ≤ b) : OwnPs w' B a n c ps := by
  obtain ⟨g, rfl, _⟩ := h.form
  refine ⟨h.row.kept hg (.inr fun e => ?_), h.nn, fun e he => ?_, h.sep, h.far⟩
  · exact (hr g e.symm).1 0 rfl
  · obtain ⟨h1, h2, h3, h4⟩ := h.each e he
    have key : ∀ b, e.lo ≤ b → b < e.hi → some b ≠ row := fun b h5 h6 h7 => by
      have := (hr b h7.symm).2 e he
      omega
    exact ⟨h1.kept hg (fun b o e1 => key b (h1.base_lt b o e1).1 (h1.olt b o e1)) (fun i hi b o e1 => key b ((h1.each i hi).at_base b o e1).1 (h1.lt i hi b o e1)), h2, h3, Nat.le_trans h4 hg.size⟩
theorem OwnPs.below (h : OwnPs w B a n c ps) (hb : Ext w w') : OwnPs w' B a n c ps :=
  h.kept (row := none) ⟨hb.os, hb.tape, hb.output, hb.size, fun k hk _ => hb.block k hk⟩ (by simp)
/-- the list grows: a path behind the others -/
theorem OwnPs.snoc_of (h : OwnPs w B a n c ps) {v' : Value} {e : PEl} (hr : w'.ownsRow B 28 1 v' (n + 1) (pvs ps ++ [e.val])) (hg : w.grownBy w' (Value.slice a n c).ownBlock)
    (he : e.Ok w B) (hs : ∀ f ∈ ps, f.hi ≤ e.lo) (hf : ∀ b o, a = some ⟨b, o, none⟩ → b < e.lo ∨ e.hi ≤ b) (hn : ∀ g m k, v' = .slice (some ⟨g, 0, none⟩) m k → a = some ⟨g, 0, none⟩ ∨ w.heap.size ≤ g) :
    ∃ a' c', v' = .slice a' (n + 1) c' ∧ OwnPs w' B a' (n + 1) c' (ps ++ [e]) := by
  obtain ⟨g0, rfl, _⟩ := h.form
  rcases hr.2 with ⟨_, h0⟩ | ⟨g', cap, cur, rfl, hB', hgb, hnc, _⟩
  · omega
  have hev : ∀ f ∈ ps ++ [e], f.Ok w B := fun f hf => by
    rcases List.mem_append.1 hf with h1 | h1
    · exact h.each f h1
    · simp only [List.mem_singleton] at h1
      subst h1; exact he
  have hfa : ∀ f ∈ ps ++ [e], g0 < f.lo ∨ f.hi ≤ g0 := fun f hf2 => by
    rcases List.mem_append.1 hf2 with h1 | h1
    · exact h.far f h1 g0 0 rfl
    · simp only [List.mem_singleton] at h1
      subst h1; exact hf g0 0 rfl
  refine ⟨_, _, rfl, ?_, by simp, fun f hf1 => ?_, ?_, fun f hf1 b o e1 => ?_⟩
  · rw [show pvs (ps ++ [e]) = pvs ps ++ [e.val] by simp [pvs]]
    exact hr
  · obtain ⟨h1, h2, h3, h4⟩ := hev f hf1
    have key : ∀ b, f.lo ≤ b → b < f.hi → some b ≠ (Value.slice (some (⟨g0, 0, none⟩ : Addr)) n c).ownBlock := fun b h5 h6 h7 => by
      simp only [Value.ownBlock, Option.some.injEq] at h7
      have := hfa f hf1
      omega
    exact ⟨h1.kept hg (fun b o e1 => key b (h1.base_lt b o e1).1 (h1.olt b o e1)) (fun i hi b o e1 => key b ((h1.each i hi).at_base b o e1).1 (h1.lt i hi b o e1)), h2, h3, Nat.le_trans h4 hg.size⟩
  · rw [List.pairwise_append]
    exact ⟨h.sep, List.pairwise_singleton _ _, fun x hx y hy => by simp only [List.mem_singleton] at hy; subst hy; exact hs x hx⟩
  · simp only [Option.some.injEq, Addr.mk.injEq, and_true] at e1
    obtain ⟨rfl, _⟩ := e1
    rcases hn _ _ _ rfl with h5 | h5
    · simp only [Option.some.injEq, Addr.mk.injEq, and_true] at h5
      rw [← h5]
      exact hfa f hf1
    · exact .inr (Nat.le_trans (hev f hf1).top h5)
end
theorem Tryz.infoSteps : (Tryz.prog.info? 28).map (fun i => (i.zero, i.size, i.bytes)) = some (some (.slice none 0 0), 1, 24) := by kernel_rfl
/-- append of one path to an owned list of paths -/
theorem wpList_append_path {ops : Array Oper} {rest : List Oper} {o : Oper} {av : Act} {Q : Exit → Act → World → Prop} {w : World} (hgd : o.guard = none) (s x : Operand)
    (ho : o.op = .call { callee := .builtin .append, args := #[s, x], argTypes := #[55, 55] }) (B : Nat) (a : Option Addr) (n c : Nat) (ps : List PEl) (hsv : av.eval s = .slice a n c) (hown : OwnPs w B a n c ps)
    (g m : Nat) (e : PEl) (hx : av.eval x = .slice (some ⟨g, 0, none⟩) 1 m) (hy : w.cell? ⟨g, 0, none⟩ = some e.val) (he : e.Ok w B) (hs : ∀ f ∈ ps, f.hi ≤ e.lo) (hf : ∀ b o, a = some ⟨b, o, none⟩ → b < e.lo ∨ e.hi ≤ b) (hsm : n ≤ 1000000000) (hB : B ≤ w.heap.size)
    (h : ∀ a' c' w', OwnPs w' B a' (n + 1) c' (ps ++ [e]) → w.grownBy w' (Value.slice a n c).ownBlock → OrNew w.heap.size a a' → wpList Tryz.prog ops Q rest (av.put o.dst (.slice a' (n + 1) c')) w') : wpList Tryz.prog ops Q (o :: rest) av w := by
  obtain ⟨i, hi, hz0, hz1, hz2⟩ := info_parts Tryz.infoSteps
  have hcells : ∀ j u, [e.val][j]? = some u → w.cell? ((⟨g, 0, none⟩ : Addr).add j) = some u := by
    intro j u hu
    cases j with
    | zero =>
      simp only [List.getElem?_cons_zero, Option.some.injEq] at hu
      subst hu
      rw [add_none]
      exact hy
    | succ j => simp at hu
  have hone : ∀ u ∈ [e.val], u.oneCell' = true := fun u hu => by simp only [List.mem_singleton] at hu; subst hu; rfl
  obtain ⟨g0, rfl, _, hgl, hnc, hcm⟩ := hown.form
  by_cases hroom : n + 1 ≤ c
  · refine wpList_append_fits w hgd s x 55 ho B 28 i 1 Tryz.underlying55 hi hz1 g0 n c (pvs ps) hsv hown.row ⟨g, 0, none⟩ 1 m [e.val] hx rfl hcells hone hroom ?_
    intro w' hr hg
    obtain ⟨a', c', e2, hk⟩ := hown.snoc_of hr hg he hs hf (fun g1 m1 k1 e3 => by cases e3; exact .inl rfl)
    simp only [Value.slice.injEq] at e2
    obtain ⟨rfl, _, rfl⟩ := e2
    exact h _ _ w' hk hg (.inl rfl)
  · have hlx := hown.row.1
    refine wpList_append_grows w hgd s x 55 ho 28 i (.slice none 0 0) 1 24 Tryz.underlying55 hi hz0 hz1 hz2 rfl (by decide) (some ⟨g0, 0, none⟩) n c (pvs ps) hsv (fun e => by cases e) hlx ?_ ⟨g, 0, none⟩ 1 m [e.val] hx rfl hcells hone (by omega) (by unfold maxLen; omega) (by omega) ?_
    · intro b e1 j u hu
      simp only [Option.some.injEq] at e1
      subst e1
      have hj : j < n * 1 := by have := (List.getElem?_eq_some_iff.1 hu).1; rwa [hlx] at this
      rw [add_none, Nat.zero_add, hown.row.cellAt j hj]
      exact hu
    · intro v' w' hr hg0
      have hg : w.grownBy w' (Value.slice (some (⟨g0, 0, none⟩ : Addr)) n c).ownBlock := ⟨hg0.os, hg0.tape, hg0.output, hg0.size, fun k hk _ => hg0.block k hk (by simp)⟩
      have hnew : ∀ g1 m1 k1, v' = .slice (some ⟨g1, 0, none⟩) m1 k1 → w.heap.size ≤ g1 := fun g1 m1 k1 e1 => by
        rcases hr.2 with ⟨_, h0⟩ | ⟨g', cap, cur, he, hB', _⟩
        · omega
        · rw [e1] at he
          simp only [Value.slice.injEq, Option.some.injEq, Addr.mk.injEq, and_true] at he
          rw [he.1]; exact hB'
      have hr2 : w'.ownsRow B 28 1 v' (n + 1) (pvs ps ++ [e.val]) := by
        refine ⟨hr.1, ?_⟩
        rcases hr.2 with h2 | ⟨g', cap, cur, he, hB', r⟩
        · exact .inl h2
        · exact .inr ⟨g', cap, cur, he, Nat.le_trans hB hB', r⟩
      obtain ⟨a', c', rfl, hk⟩ := hown.snoc_of hr2 hg he hs hf (fun g1 m1 k1 e1 => .inr (hnew g1 m1 k1 e1))
      refine h a' c' w' hk hg (.inr fun b o e1 => ?_)
      obtain ⟨g2, rfl, _⟩ := hk.form
      simp only [Option.some.injEq, Addr.mk.injEq, and_true] at e1
      rw [← e1.1]
      exact hnew _ _ _ rfl
end Go.Proofs.YtfikkfbnlegflaaGreatDoor

set_option linter.unusedVariables false
namespace Go.Proofs.YtfikkfbnlegflaaGreatDoor
open Go.RowKit

theorem PEl.Ok.below {w w' : World} {B : Nat} {e : PEl} (h : e.Ok w B) (hx : Ext w w') : e.Ok w' B := ⟨h.own.below hx, h.base, h.le, Nat.le_trans h.top hx.size⟩
theorem OwnPs.single (w : World) (B : Nat) (e : PEl) (he : e.Ok w B) (hB : B ≤ w.heap.size) : OwnPs (w.alloc (.cells #[e.val] 28)) B (some ⟨w.heap.size, 0, none⟩) 1 1 [e] := by
  have hrow := World.ownsRow_lit (e := 28) (size := 1) (base := B) w #[e.val] 1 hB (by unfold maxLen; omega) (by simp)
  refine ⟨by simpa [pvs] using hrow, by simp, fun f hf => ?_, List.pairwise_singleton _ _, fun f hf b o e1 => ?_⟩
  · simp only [List.mem_singleton] at hf
    subst hf
    exact he.below (Ext.alloc w _)
  · simp only [List.mem_singleton] at hf
    subst hf
    simp only [Option.some.injEq, Addr.mk.injEq, and_true] at e1
    exact .inr (by rw [← e1.1]; exact he.top)
theorem OwnPs.base {w : World} {B B' n c : Nat} {a : Option Addr} {ps : List PEl} (h : OwnPs w B a n c ps) (hB : B' ≤ B) : OwnPs w B' a n c ps := by
  refine ⟨⟨h.row.1, ?_⟩, h.nn, fun e he => ⟨(h.each e he).own, Nat.le_trans hB (h.each e he).base, (h.each e he).le, (h.each e he).top⟩, h.sep, h.far⟩
  rcases h.row.2 with h2 | ⟨g, cap, cur, he, hB', r⟩
  · exact .inl h2
  · exact .inr ⟨g, cap, cur, he, Nat.le_trans hB hB', r⟩
theorem OwnPs.ext {w w' w0 : World} {B n c : Nat} {a : Option Addr} {ps : List PEl} (h : OwnPs w B a n c ps) (hg : w.grownBy w' (Value.slice a n c).ownBlock) (hb : Ext w0 w) (hB : w0.heap.size ≤ B) : Ext w0 w' := by
  refine Below.grown hb hg hb.size fun k hk => ?_
  obtain ⟨g, rfl, h1, _⟩ := h.form
  simp only [Value.ownBlock, Option.some.injEq] at hk
  omega
end Go.Proofs.YtfikkfbnlegflaaGreatDoor

namespace Go.Proofs.YtfikkfbnlegflaaGreatDoor
open Go.RowKit

def straight (w : List Int) : List Stp := [(w, 27720)]
end Go.Proofs.YtfikkfbnlegflaaGreatDoor

namespace Go.Proofs.YtfikkfbnlegflaaGreatDoor
open Go.RowKit

/-! lengths -/
end Go.Proofs.YtfikkfbnlegflaaGreatDoor

namespace Go.Proofs.YtfikkfbnlegflaaGreatDoor
open Go.RowKit

section
variable {P : Program} {ops : Array Oper} {Q : Exit → Act → World → Prop} {C : World → Prop} {n : Nat}
end
end Go.Proofs.YtfikkfbnlegflaaGreatDoor
