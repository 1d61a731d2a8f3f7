/-
  Parts of Cartan matrices are Cartan matrices, plain: a finite table. No program in sight.
  Parts of Cartan matrices are Cartan matrices, plain. No program in sight.
-/
import Derived.Test.YtnfbfdamlnjblaaGreatDoorCarT
namespace Go.Proofs.YtnfbfdamlnjblaaGreatDoor

/-- the rows and columns of a matrix that a list names -/
def subL (xs : List Int) (r : Nat) (q : List Nat) : List Int := q.flatMap fun i => q.map fun j => atM xs r i j
/-- the lists of at most f different numbers below r that go on with a list -/
def allQ (r : Nat) : Nat → List Nat → List (List Nat)
  | 0, q => [q]
  | f + 1, q => q :: (List.range r).flatMap fun i => if q.contains i then [] else allQ r f (q ++ [i])
theorem allQ_self (r f : Nat) (q : List Nat) : q ∈ allQ r f q := by
  cases f <;> simp [allQ]
theorem allQ_mem (r : Nat) : ∀ (f : Nat) (q e : List Nat), e.length ≤ f → (q ++ e).Nodup → (∀ x ∈ e, x < r) → q ++ e ∈ allQ r f q
  | f, q, [], _, _, _ => by simpa using allQ_self r f q
  | 0, q, i :: e, h, _, _ => by simp at h
  | f + 1, q, i :: e, h, hd, hr => by
    have ih := allQ_mem r f (q ++ [i]) e (by simp at h; omega) (by simpa using hd) (fun x hx => hr x (by simp [hx]))
    simp only [allQ, List.mem_cons, List.mem_flatMap, List.mem_range]
    right
    refine ⟨i, hr i (by simp), ?_⟩
    have hn : ¬ i ∈ q := by
      rw [List.nodup_append] at hd
      intro hm
      exact hd.2.2 i hm i (by simp) rfl
    rw [if_neg (by simpa using hn)]
    simpa using ih
def subOk (r : Nat) : Bool := (typesL 5 r 0).all fun ks => (allQ r r []).all fun q => q.isEmpty || typeB q.length (subL (blockL ks) r q)
set_option maxRecDepth 1000000 in
theorem subOk1 : subOk 1 = true := by decide +kernel
set_option maxRecDepth 1000000 in
theorem subOk2 : subOk 2 = true := by decide +kernel
set_option maxRecDepth 1000000 in
theorem subOk3 : subOk 3 = true := by decide +kernel
def subAt (r : Nat) (ks : List Nat) : Bool := (allQ r r []).all fun q => q.isEmpty || typeB q.length (subL (blockL ks) r q)
theorem types4_len : (typesL 5 4 0).length = 18 := by decide +kernel
set_option maxRecDepth 1000000 in
theorem types4_0 : subAt 4 ((typesL 5 4 0).getD 0 []) = true := by decide +kernel
set_option maxRecDepth 1000000 in
theorem types4_1 : subAt 4 ((typesL 5 4 0).getD 1 []) = true := by decide +kernel
set_option maxRecDepth 1000000 in
theorem types4_2 : subAt 4 ((typesL 5 4 0).getD 2 []) = true := by decide +kernel
set_option maxRecDepth 1000000 in
theorem types4_3 : subAt 4 ((typesL 5 4 0).getD 3 []) = true := by decide +kernel
set_option maxRecDepth 1000000 in
theorem types4_4 : subAt 4 ((typesL 5 4 0).getD 4 []) = true := by decide +kernel
set_option maxRecDepth 1000000 in
theorem types4_5 : subAt 4 ((typesL 5 4 0).getD 5 []) = true := by decide +kernel
set_option maxRecDepth 1000000 in
theorem types4_6 : subAt 4 ((typesL 5 4 0).getD 6 []) = true := by decide +kernel
set_option maxRecDepth 1000000 in
theorem types4_7 : subAt 4 ((typesL 5 4 0).getD 7 []) = true := by decide +kernel
set_option maxRecDepth 1000000 in
theorem types4_8 : subAt 4 ((typesL 5 4 0).getD 8 []) = true := by decide +kernel
set_option maxRecDepth 1000000 in
theorem types4_9 : subAt 4 ((typesL 5 4 0).getD 9 []) = true := by decide +kernel
set_option maxRecDepth 1000000 in
theorem types4_10 : subAt 4 ((typesL 5 4 0).getD 10 []) = true := by decide +kernel
set_option maxRecDepth 1000000 in
theorem types4_11 : subAt 4 ((typesL 5 4 0).getD 11 []) = true := by decide +kernel
set_option maxRecDepth 1000000 in
theorem types4_12 : subAt 4 ((typesL 5 4 0).getD 12 []) = true := by decide +kernel
set_option maxRecDepth 1000000 in
theorem types4_13 : subAt 4 ((typesL 5 4 0).getD 13 []) = true := by decide +kernel
set_option maxRecDepth 1000000 in
theorem types4_14 : subAt 4 ((typesL 5 4 0).getD 14 []) = true := by decide +kernel
set_option maxRecDepth 1000000 in
theorem types4_15 : subAt 4 ((typesL 5 4 0).getD 15 []) = true := by decide +kernel
set_option maxRecDepth 1000000 in
theorem types4_16 : subAt 4 ((typesL 5 4 0).getD 16 []) = true := by decide +kernel
set_option maxRecDepth 1000000 in
theorem types4_17 : subAt 4 ((typesL 5 4 0).getD 17 []) = true := by decide +kernel
theorem subOk4 : subOk 4 = true := by
  unfold subOk
  rw [List.all_eq_true]
  intro ks hk
  obtain ⟨i, hi, rfl⟩ := List.getElem_of_mem hk
  have e : (typesL 5 4 0)[i] = (typesL 5 4 0).getD i [] := by simp [List.getD_eq_getElem?_getD, hi]
  rw [e]
  have hi' : i < 18 := by rw [← types4_len]; exact hi
  show subAt 4 _ = true
  match i, hi' with
  | 0, _ => exact types4_0
  | 1, _ => exact types4_1
  | 2, _ => exact types4_2
  | 3, _ => exact types4_3
  | 4, _ => exact types4_4
  | 5, _ => exact types4_5
  | 6, _ => exact types4_6
  | 7, _ => exact types4_7
  | 8, _ => exact types4_8
  | 9, _ => exact types4_9
  | 10, _ => exact types4_10
  | 11, _ => exact types4_11
  | 12, _ => exact types4_12
  | 13, _ => exact types4_13
  | 14, _ => exact types4_14
  | 15, _ => exact types4_15
  | 16, _ => exact types4_16
  | 17, _ => exact types4_17
  | n + 18, h => exact absurd h (by omega)
theorem subOk_all {r : Nat} (h1 : 1 ≤ r) (h4 : r ≤ 4) : subOk r = true := by
  match r, h1, h4 with
  | 1, _, _ => exact subOk1
  | 2, _, _ => exact subOk2
  | 3, _, _ => exact subOk3
  | 4, _, _ => exact subOk4

end Go.Proofs.YtnfbfdamlnjblaaGreatDoor

namespace Go.Proofs.YtnfbfdamlnjblaaGreatDoor

/-- a list of r different numbers below r holds them all -/
theorem full_all {r : Nat} {l : List Nat} (hl : l.length = r) (hd : l.Nodup) (hr : ∀ a ∈ l, a < r) {i : Nat} (hi : i < r) : i ∈ l := by
  apply Classical.byContradiction
  intro hn
  have := nodup_le r (i :: l) (List.nodup_cons.2 ⟨hn, hd⟩) (fun a ha => by
    rcases List.mem_cons.1 ha with rfl | ha
    · exact hi
    · exact hr a ha)
  simp at this
  omega
theorem sub_type {r : Int} {ts : List Int} (h : typeB r ts = true) {rows : List Nat} (hn : rows.Nodup) (hr : ∀ i ∈ rows, i < r.toNat) (hne : rows ≠ []) : typeB rows.length (subL ts r.toNat rows) = true := by
  unfold typeB at h
  simp only [Bool.and_eq_true, decide_eq_true_eq, List.any_eq_true] at h
  obtain ⟨⟨⟨h1, h4⟩, _⟩, ks, hks, hre⟩ := h
  obtain ⟨R, rfl⟩ : ∃ R : Nat, r = R := ⟨r.toNat, by omega⟩
  rw [Int.toNat_natCast] at *
  obtain ⟨full, hl, _, hd, hs, hok⟩ := searchB_sound R [] hre
  have hd := hd List.nodup_nil
  have hs : ∀ a ∈ full, a < R := fun a ha => List.mem_range.1 (hs (fun a ha => by simp at ha) a ha)
  -- the matrix is that of the type in the order of the list
  have hat : ∀ p q, p < R → q ≤ p → atM ts R (full.getD p 0) (full.getD q 0) = atM (blockL ks) R p q ∧ atM ts R (full.getD q 0) (full.getD p 0) = atM (blockL ks) R q p := by
    intro p q hp hq
    have := hok p (Nat.zero_le _) hp
    unfold rowChk at this
    have hlt : (full.take p).length = p := by simp; omega
    simp only [hlt, Bool.and_eq_true, beq_iff_eq, List.all_eq_true, List.mem_range] at this
    obtain ⟨t1, t2⟩ := this
    rcases Nat.eq_or_lt_of_le hq with rfl | hq
    · exact ⟨t1, t1⟩
    · have t3 := t2 q hq
      have e : (full.take p).getD q 0 = full.getD q 0 := by
        simp [List.getD_eq_getElem?_getD, hq]
      rw [e] at t3
      exact t3
  have hat2 : ∀ p q, p < R → q < R → atM ts R (full.getD p 0) (full.getD q 0) = atM (blockL ks) R p q := by
    intro p q hp hq
    rcases Nat.le_total q p with h | h
    · exact (hat p q hp h).1
    · exact (hat q p hq h).2
  have hix : ∀ i, i < R → full.idxOf i < R ∧ full.getD (full.idxOf i) 0 = i := fun i hi => by
    have hm := full_all hl hd hs hi
    have hlt := List.idxOf_lt_length_of_mem hm
    refine ⟨by omega, ?_⟩
    simp [List.getD_eq_getElem?_getD, hlt]
  have hsub : subL ts R rows = subL (blockL ks) R (rows.map fun i => full.idxOf i) := by
    unfold subL
    rw [List.flatMap_map]
    have key : ∀ i ∈ rows, (rows.map fun j => atM ts R i j) = (rows.map fun j => full.idxOf j).map fun j => atM (blockL ks) R (full.idxOf i) j := fun i hi => by
      rw [List.map_map]
      refine List.map_congr_left fun j hj => ?_
      have a := hix i (hr i hi)
      have b := hix j (hr j hj)
      have := hat2 _ _ a.1 b.1
      rw [a.2, b.2] at this
      exact this
    rw [List.flatMap_def, List.flatMap_def, List.map_congr_left key]
  have hq : (rows.map fun i => full.idxOf i).Nodup := by
    rw [List.Nodup, List.pairwise_map]
    refine List.Pairwise.imp_of_mem (fun {a b} ha hb hne he => ?_) hn
    have a1 := hix a (hr a ha)
    have b1 := hix b (hr b hb)
    rw [he] at a1
    exact hne (a1.2.symm.trans b1.2)
  have hqr : ∀ x ∈ rows.map (fun i => full.idxOf i), x < R := fun x hx => by
    obtain ⟨i, hi, rfl⟩ := List.mem_map.1 hx
    exact (hix i (hr i hi)).1
  have hql := nodup_le R _ hq hqr
  have hmem := allQ_mem R R [] _ hql (by simpa using hq) hqr
  have hall := subOk_all (r := R) (by omega) (by omega)
  unfold subOk at hall
  have h2 := List.all_eq_true.1 (List.all_eq_true.1 hall ks hks) _ hmem
  rw [List.nil_append] at h2
  have hnz : ((rows.map fun i => full.idxOf i).isEmpty) = false := by
    cases rows with
    | nil => exact absurd rfl hne
    | cons a l => rfl
  rw [hnz, Bool.false_or, List.length_map, ← hsub] at h2
  exact h2
end Go.Proofs.YtnfbfdamlnjblaaGreatDoor
