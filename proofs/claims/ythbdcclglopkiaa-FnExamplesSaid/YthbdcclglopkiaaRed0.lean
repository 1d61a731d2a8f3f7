/-
  Rows brought into reduced form, as plain lists: no program in sight.
-/
import Derived.Test.YthbdcclglopkiaaInv
import Derived.Test.YthbdcclglopkiaaVec
namespace Go.Proofs.Ythbdcclglopkiaa
open Go.RowKit

/-- rows of L residues each -/
structure Rows (p : Int) (L : Nat) (rows : List (List Int)) : Prop where
  len : ∀ i, i < rows.length → (rows.getD i []).length = L
  res : ∀ i, i < rows.length → Res p (rows.getD i [])
theorem Rows.get {p : Int} {L : Nat} {rows : List (List Int)} (h : Rows p L rows) {i j : Nat} (hi : i < rows.length) (hj : j < L) : 0 ≤ (rows.getD i []).getD j 0 ∧ (rows.getD i []).getD j 0 < p :=
  h.res i hi j (by rw [h.len i hi]; exact hj)
theorem getD_setL {β : Type} (l : List β) (i j : Nat) (x d : β) (hi : i < l.length) : (l.set i x).getD j d = if i = j then x else l.getD j d := by
  simp only [List.getD_eq_getElem?_getD, List.getElem?_set]
  by_cases h : i = j
  · subst h; simp [hi]
  · simp [h]
theorem Rows.set {p : Int} {L : Nat} {rows : List (List Int)} (h : Rows p L rows) (i : Nat) {r : List Int} (hl : r.length = L) (hr : Res p r) : Rows p L (rows.set i r) := by
  constructor
  · intro j hj
    rw [List.length_set] at hj
    by_cases e : i < rows.length
    · rw [getD_setL _ _ _ _ _ e]
      split
      · exact hl
      · exact h.len j hj
    · rw [List.set_eq_of_length_le (by omega)]; exact h.len j hj
  · intro j hj
    rw [List.length_set] at hj
    by_cases e : i < rows.length
    · rw [getD_setL _ _ _ _ _ e]
      split
      · exact hr
      · exact h.res j hj
    · rw [List.set_eq_of_length_le (by omega)]; exact h.res j hj
theorem Rows.nil (p : Int) (L : Nat) : Rows p L [] := ⟨fun i h => by simp at h, fun i h => by simp at h⟩
theorem Rows.snoc {p : Int} {L : Nat} {rows : List (List Int)} (h : Rows p L rows) {r : List Int} (hl : r.length = L) (hr : Res p r) : Rows p L (rows ++ [r]) := by
  have key : ∀ i, i < rows.length + 1 → (i < rows.length ∧ (rows ++ [r]).getD i [] = rows.getD i []) ∨ (rows ++ [r]).getD i [] = r := fun i hi => by
    rcases Nat.lt_succ_iff_lt_or_eq.1 hi with h3 | rfl
    · exact .inl ⟨h3, by simp [List.getD_eq_getElem?_getD, List.getElem?_append_left h3]⟩
    · exact .inr (by simp [List.getD_eq_getElem?_getD])
  constructor
  · intro i hi
    rcases key i (by simpa using hi) with ⟨h3, e⟩ | e
    · rw [e]; exact h.len i h3
    · rw [e]; exact hl
  · intro i hi
    rcases key i (by simpa using hi) with ⟨h3, e⟩ | e
    · rw [e]; exact h.res i h3
    · rw [e]; exact hr

/-- the first row from one on whose number in a column is not 0; how many rows there are if there is none -/
def findRow (rows : List (List Int)) (c at' : Nat) : Nat := at' + (rows.drop at').findIdx fun row => row.getD c 0 != 0
theorem findRow_at {rows : List (List Int)} {c at' r : Nat} (h0 : at' ≤ r) (hr : r < rows.length) (hz : ∀ i, at' ≤ i → i < r → (rows.getD i []).getD c 0 = 0) (hne : (rows.getD r []).getD c 0 ≠ 0) : findRow rows c at' = r := by
  unfold findRow
  have hg : ∀ i, at' + i < rows.length → (rows.drop at')[i]? = some (rows.getD (at' + i) []) := fun i hi => by
    rw [List.getElem?_drop, List.getElem?_eq_getElem hi, List.getD_eq_getElem?_getD, List.getElem?_eq_getElem hi]; rfl
  have hlt : r - at' < (rows.drop at').length := by simp; omega
  have h1 : (rows.drop at').findIdx (fun row => row.getD c 0 != 0) = r - at' := by
    rw [List.findIdx_eq hlt]
    constructor
    · have := hg (r - at') (by omega)
      rw [List.getElem?_eq_getElem hlt, show at' + (r - at') = r by omega] at this
      simp only [Option.some.injEq] at this
      rw [this]
      simpa using hne
    · intro j hj
      have := hg j (by omega)
      rw [List.getElem?_eq_getElem (by omega)] at this
      simp only [Option.some.injEq] at this
      rw [this, hz (at' + j) (by omega) (by omega)]
      rfl
  omega
theorem findRow_none {rows : List (List Int)} {c at' : Nat} (h0 : at' ≤ rows.length) (hz : ∀ i, at' ≤ i → i < rows.length → (rows.getD i []).getD c 0 = 0) : findRow rows c at' = rows.length := by
  unfold findRow
  have h1 : (rows.drop at').findIdx (fun row => row.getD c 0 != 0) = (rows.drop at').length := by
    rw [List.findIdx_eq_length]
    intro x hx
    obtain ⟨i, hi, rfl⟩ := List.mem_iff_getElem.1 hx
    simp at hi
    have hlt : at' + i < rows.length := by omega
    have := hz (at' + i) (by omega) hlt
    have e : rows.getD (at' + i) [] = rows[at' + i] := by simp [List.getD_eq_getElem?_getD, hlt]
    rw [e] at this
    rw [List.getElem_drop, this]
    rfl
  rw [h1]
  simp
  omega

def swapR (rows : List (List Int)) (i j : Nat) : List (List Int) := (rows.set i (rows.getD j [])).set j (rows.getD i [])
theorem swapR_length (rows : List (List Int)) (i j : Nat) : (swapR rows i j).length = rows.length := by simp [swapR]
theorem swapR_get (rows : List (List Int)) (i j q : Nat) (hi : i < rows.length) (hj : j < rows.length) : (swapR rows i j).getD q [] = if j = q then rows.getD i [] else if i = q then rows.getD j [] else rows.getD q [] := by
  unfold swapR
  rw [getD_setL _ _ _ _ _ (by simpa using hj), getD_setL _ _ _ _ _ hi]
theorem Rows.swap {p : Int} {L : Nat} {rows : List (List Int)} (h : Rows p L rows) (i j : Nat) (hi : i < rows.length) (hj : j < rows.length) : Rows p L (swapR rows i j) :=
  (h.set i (h.len j hj) (h.res j hj)).set j (h.len i hi) (h.res i hi)

def scaleR (p k : Int) (row : List Int) : List Int := modL p row.length fun m => row.getD m 0 * k
theorem scaleR_length (p k : Int) (row : List Int) : (scaleR p k row).length = row.length := modL_length _ _ _
theorem scaleR_get (p k : Int) (row : List Int) (m : Nat) (h : m < row.length) : (scaleR p k row).getD m 0 = row.getD m 0 * k % p := modL_get _ _ _ _ h

/-- the rows ahead of m cleared in column c by the row at -/
def clearTo (p : Int) (c at' : Nat) (rows : List (List Int)) : Nat → List (List Int)
  | 0 => rows
  | m + 1 =>
    let R := clearTo p c at' rows m
    if m ≠ at' ∧ (R.getD m []).getD c 0 ≠ 0 then R.set m (addL p (R.getD m []) (p - (R.getD m []).getD c 0) (R.getD at' [])) else R
theorem clearTo_length (p : Int) (c at' : Nat) (rows : List (List Int)) (m : Nat) : (clearTo p c at' rows m).length = rows.length := by
  induction m with
  | zero => rfl
  | succ m ih => simp only [clearTo]; split <;> simp [ih]
theorem clearTo_rows {p : Int} (hp : 0 < p) {L : Nat} {rows : List (List Int)} (h : Rows p L rows) (c at' m : Nat) (hm : m ≤ rows.length) : Rows p L (clearTo p c at' rows m) := by
  induction m with
  | zero => exact h
  | succ m ih =>
    have h1 := ih (by omega)
    simp only [clearTo]
    split
    · exact h1.set m (by rw [addL_length]; exact h1.len m (by rw [clearTo_length]; omega)) (addL_res hp _ _ _)
    · exact h1

/-- one column: the rows and the pivots behind it -/
def redStep (p : Int) (c : Nat) (st : List (List Int) × List Int) : List (List Int) × List Int :=
  let r := findRow st.1 c st.2.length
  if r < st.1.length then
    let R1 := swapR st.1 r st.2.length
    let R2 := R1.set st.2.length (scaleR p (invP ((R1.getD st.2.length []).getD c 0) p) (R1.getD st.2.length []))
    (clearTo p c st.2.length R2 R2.length, st.2 ++ [(c : Int)])
  else st
/-- the first k columns -/
def redTo (p : Int) (rows : List (List Int)) : Nat → List (List Int) × List Int
  | 0 => (rows, [])
  | k + 1 => redStep p k (redTo p rows k)
structure RedOk (p : Int) (L n k : Nat) (st : List (List Int) × List Int) : Prop where
  rows : Rows p L st.1
  len : st.1.length = n
  pn : st.2.length ≤ n
  pk : st.2.length ≤ k
  pv : ∀ i, i < st.2.length → 0 ≤ st.2.getD i 0 ∧ st.2.getD i 0 < k
theorem findRow_ge (rows : List (List Int)) (c at' : Nat) : at' ≤ findRow rows c at' := Nat.le_add_right _ _
theorem RedOk.start {p : Int} {L : Nat} {rows : List (List Int)} (h : Rows p L rows) : RedOk p L rows.length 0 (rows, []) := ⟨h, rfl, by simp, by simp, fun i h => by simp at h⟩
theorem RedOk.step {p : Int} (hp : 0 < p) {L n k : Nat} {st : List (List Int) × List Int} (h : RedOk p L n k st) : RedOk p L n (k + 1) (redStep p k st) := by
  have hge := findRow_ge st.1 k st.2.length
  unfold redStep
  simp only
  split
  · rename_i hlt
    have hln := h.len
    have h1 := h.rows.swap (findRow st.1 k st.2.length) st.2.length hlt (by omega)
    have hl1 : (swapR st.1 (findRow st.1 k st.2.length) st.2.length).length = st.1.length := swapR_length _ _ _
    have h2 := h1.set st.2.length (r := scaleR p (invP (((swapR st.1 (findRow st.1 k st.2.length) st.2.length).getD st.2.length []).getD k 0) p) ((swapR st.1 (findRow st.1 k st.2.length) st.2.length).getD st.2.length []))
      (by rw [scaleR_length]; exact h1.len _ (by omega)) (Res.modL hp _ _)
    refine ⟨clearTo_rows hp h2 _ _ _ (Nat.le_refl _), by rw [clearTo_length, List.length_set, hl1, hln], by simp; omega, by have := h.pk; simp; omega, fun i hi => ?_⟩
    simp only [List.length_append, List.length_cons, List.length_nil] at hi
    rcases Nat.lt_succ_iff_lt_or_eq.1 hi with h3 | rfl
    · have := h.pv i h3
      simp only [List.getD_eq_getElem?_getD, List.getElem?_append_left h3] at this ⊢
      omega
    · simp [List.getD_eq_getElem?_getD]; omega
  · exact ⟨h.rows, h.len, h.pn, by have := h.pk; omega, fun i hi => by have := h.pv i hi; omega⟩
theorem redTo_ok {p : Int} (hp : 0 < p) {L : Nat} {rows : List (List Int)} (h : Rows p L rows) (k : Nat) : RedOk p L rows.length k (redTo p rows k) := by
  induction k with
  | zero => exact RedOk.start h
  | succ k ih => exact ih.step hp
end Go.Proofs.Ythbdcclglopkiaa
