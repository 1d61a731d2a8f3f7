/-
  Paths put together by the reference: l9Add, l9Join.
-/
import Derived.Test.YtnfbfdamlnjblaaGreatDoorPthR
import Derived.Test.YtnfbfdamlnjblaaGreatDoorL1I
import Derived.Test.YtnfbfdamlnjblaaGreatDoorOwnB
namespace Go.Proofs.YtnfbfdamlnjblaaGreatDoor
open Go.RowKit

/-- steps, read, a way that is nil having no room -/
structure StepsAt (w : World) (a : Option Addr) (n : Nat) (xs : List Stp) : Prop where
  len : xs.length = n
  get : ∀ k, k < n → ∃ b o aw cw, a = some ⟨b, o, none⟩ ∧ w.cell? ⟨b, o + k * 2, none⟩ = some (.slice aw (wayAt xs k).length cw) ∧ w.cell? ⟨b, o + k * 2 + 1, none⟩ = some (.int .i64 (lenAt xs k)) ∧
    IntsAt w aw (wayAt xs k).length (wayAt xs k) ∧ (wayAt xs k).length ≤ 9223372036854775807 ∧ (aw = none → cw = 0)
theorem StepsAt.terms {w : World} {a : Option Addr} {n : Nat} {xs : List Stp} (h : StepsAt w a n xs) : TermsAt w a n xs :=
  ⟨h.len, fun i hi => by
    obtain ⟨b, o, aw, cw, e, h1, h2, h3, h4, _⟩ := h.get i hi
    exact ⟨b, o, aw, cw, e, h1, h2, h3, h4⟩⟩
theorem StepsAt.below {w w' : World} {a : Option Addr} {n : Nat} {xs : List Stp} (h : StepsAt w a n xs) (hb : Ext w w') : StepsAt w' a n xs := by
  refine ⟨h.len, fun i hi => ?_⟩
  obtain ⟨b, o, aw, cw, rfl, h1, h2, h3, h4, h5⟩ := h.get i hi
  have hl := World.block_lt_of_cell? w _ h1
  exact ⟨b, o, aw, cw, rfl, (hb.cell (p := ⟨b, o + i * 2, none⟩) hl).trans h1, (hb.cell (p := ⟨b, o + i * 2 + 1, none⟩) hl).trans h2, h3.below hb, h4, h5⟩
theorem StepsAt.way {w : World} {a : Option Addr} {n : Nat} {xs : List Stp} (h : StepsAt w a n xs) (k : Nat) (hk : k < n) :
    ∃ b o aw cw, ∃ W : List Int, ∃ L : Int, a = some ⟨b, o, none⟩ ∧ Hid (wayAt xs k = W) ∧ Hid (lenAt xs k = L) ∧ W.length ≤ 9223372036854775807 ∧ Hid (aw = none → cw = 0) ∧
      ∀ w', Ext w w' → w'.cell? ⟨b, o + k * 2, none⟩ = some (.slice aw W.length cw) ∧ w'.cell? ⟨b, o + k * 2 + 1, none⟩ = some (.int .i64 L) ∧ IntsAt w' aw W.length W := by
  obtain ⟨b, o, aw, cw, e, h1, h2, h3, h4, h5⟩ := h.get k hk
  refine ⟨b, o, aw, cw, wayAt xs k, lenAt xs k, e, rfl, rfl, h4, h5, fun w' hx => ?_⟩
  have hl := World.block_lt_of_cell? w _ h1
  exact ⟨(hx.cell (p := ⟨b, o + k * 2, none⟩) hl).trans h1, (hx.cell (p := ⟨b, o + k * 2 + 1, none⟩) hl).trans h2, h3.below hx⟩
theorem OwnK.stepCell {w : World} {B U : Nat} {a : Option Addr} {n c : Nat} {hs : List Hdr} {xs : List Stp} (h : OwnK stepK w B U a n c hs xs) (k : Nat) (hk : k < n) :
    ∃ g aw cw, a = some ⟨g, 0, none⟩ ∧ hs.getD k (none, 0) = (aw, cw) ∧ w.cell? ⟨g, k * 2, none⟩ = some (.slice aw (wayAt xs k).length cw) ∧ w.cell? ⟨g, k * 2 + 1, none⟩ = some (.int .i64 (lenAt xs k)) ∧
    w.frozen? ⟨g, k * 2, none⟩ = false ∧ w.frozen? ⟨g, k * 2 + 1, none⟩ = false ∧ OwnI w B aw (wayAt xs k).length cw (wayAt xs k) := by
  obtain ⟨g, rfl, hc, hf⟩ := h.cell k 0 hk (by decide)
  obtain ⟨g', e, hc', hf'⟩ := h.cell k 1 hk (by decide)
  simp only [Option.some.injEq, Addr.mk.injEq, and_true] at e
  subst e
  rw [show k * stepK.size + 0 = k * 2 from rfl] at hc hf
  rw [show k * stepK.size + 1 = k * 2 + 1 from rfl] at hc' hf'
  exact ⟨g, (hs.getD k (none, 0)).1, (hs.getD k (none, 0)).2, rfl, rfl, hc, hc', hf, hf', h.each k hk⟩
theorem OwnK.stepsAt {w : World} {B U : Nat} {a : Option Addr} {n c : Nat} {hs : List Hdr} {xs : List Stp} (h : OwnK stepK w B U a n c hs xs) : StepsAt w a n xs := by
  refine ⟨h.xl, fun k hk => ?_⟩
  obtain ⟨g, aw, cw, rfl, _, h1, h2, _, _, h5⟩ := h.stepCell k hk
  exact ⟨g, 0, aw, cw, rfl, by rw [Nat.zero_add]; exact h1, by rw [Nat.zero_add]; exact h2, h5.ints, h5.small, h5.nil_cap⟩
theorem addS_at {xs : List Stp} {m : Nat} (h : xs.length = m + 1) (s : Stp) (hs : s.2 ≠ 0) : addS xs s = if wayAt xs m = s.1 then xs.set m (wayAt xs m, lenAt xs m + s.2) else xs ++ [s] := by
  rcases snoc_cases xs with rfl | ⟨o, l, rfl⟩
  · simp at h
  · obtain rfl : o.length = m := by simpa using h
    rw [addS_snoc _ _ _ hs, wayAt_snoc, lenAt_snoc]
    split
    · simp
    · rfl
theorem addS_first {xs : List Stp} (h : xs.length = 0) (s : Stp) (hs : s.2 ≠ 0) : addS xs s = xs ++ [s] := by
  obtain rfl := List.eq_nil_of_length_eq_zero h
  rw [addS_nil _ hs, List.nil_append]
theorem Tryz.info104 : (Tryz.prog.info? 104).map (fun i => (i.zero, i.size, i.bytes)) = some (some (.agg #[.slice none 0 0, .int .i64 0]), 2, 32) := by kernel_rfl
/-- what is new is apart from all that was -/
theorem OwnK.new_apart {w w' : World} {B U B' : Nat} {a a' : Option Addr} {n c n' c' : Nat} {hs : List Hdr} {xs : List Stp} {ys : List Int} (h : OwnK stepK w B U a n c hs xs) (hi : OwnI w' B' a' n' c' ys) (hB : w.heap.size ≤ B') :
    (∀ i, i < n → Apart (hs.getD i (none, 0)).1 a') ∧ Apart a a' :=
  ⟨fun i hi' b o b' o' e e' => by have := ((h.each i hi').at_base b o e).2; have := (hi.at_base b' o' e').1; omega,
   fun b o b' o' e e' => by have := (h.base_lt b o e).2; have := (hi.at_base b' o' e').1; omega⟩

/-! ### l9Join -/
def joinTo (o p : List Stp) (k : Nat) : List Stp := (p.take k).foldl addS o
theorem joinTo_succ (o p : List Stp) {k : Nat} (h : k < p.length) : joinTo o p (k + 1) = addS (joinTo o p k) (wayAt p k, lenAt p k) := by
  unfold joinTo
  rw [List.take_succ_eq_append_getElem h, List.foldl_append]
  simp [wayAt, lenAt, List.getD_eq_getElem?_getD, h]
theorem joinS_append (p q : List Stp) : joinS (p ++ q) = joinTo (joinTo [] p p.length) q q.length := by
  unfold joinS joinTo
  rw [List.foldl_append, List.take_length, List.take_length]
theorem joinS_to (p : List Stp) : joinS p = joinTo [] p p.length := by
  unfold joinS joinTo
  rw [List.take_length]
theorem addS_length (o : List Stp) (s : Stp) : (addS o s).length ≤ o.length + 1 := by
  by_cases h : s.2 = 0
  · rw [addS_zero _ _ h]; omega
  · rcases snoc_cases o with rfl | ⟨o, l, rfl⟩
    · rw [addS_nil _ h]; simp
    · rw [addS_snoc _ _ _ h]
      split <;> simp
theorem joinTo_length (o p : List Stp) : ∀ k, (joinTo o p k).length ≤ o.length + k
  | 0 => by simp [joinTo]
  | k + 1 => by
    by_cases h : k < p.length
    · rw [joinTo_succ _ _ h]
      have := addS_length (joinTo o p k) (wayAt p k, lenAt p k)
      have := joinTo_length o p k
      omega
    · have : joinTo o p (k + 1) = joinTo o p k := by unfold joinTo; rw [List.take_of_length_le (by omega), List.take_of_length_le (by omega)]
      rw [this]
      have := joinTo_length o p k
      omega
theorem addS_lens {o : List Stp} {s : Stp} {D C : Int} (ho : ∀ i, i < o.length → 0 ≤ lenAt o i ∧ lenAt o i ≤ D) (hs : 0 ≤ s.2 ∧ s.2 ≤ C) (hD : 0 ≤ D) : ∀ i, i < (addS o s).length → 0 ≤ lenAt (addS o s) i ∧ lenAt (addS o s) i ≤ D + C := by
  have hC : 0 ≤ C := by omega
  by_cases h : s.2 = 0
  · rw [addS_zero _ _ h]
    intro i hi
    have := ho i hi
    omega
  · rcases Nat.eq_zero_or_pos o.length with h0 | h0
    · rw [addS_first h0 _ h]
      obtain rfl := List.eq_nil_of_length_eq_zero h0
      intro i hi
      obtain rfl : i = 0 := by simp at hi; omega
      show 0 ≤ s.2 ∧ s.2 ≤ _
      omega
    · obtain ⟨m, hm⟩ : ∃ m, o.length = m + 1 := ⟨o.length - 1, by omega⟩
      rw [addS_at hm _ h]
      intro i hi
      split at hi <;> split
      · rw [List.length_set] at hi
        unfold lenAt
        rw [OwnK.getD_set _ _ _ _ _ (by omega)]
        split
        · have := ho m (by omega)
          show 0 ≤ lenAt o m + s.2 ∧ lenAt o m + s.2 ≤ _
          omega
        · have := ho i hi
          unfold lenAt at this
          omega
      · contradiction
      · contradiction
      · rw [List.length_append, List.length_cons, List.length_nil] at hi
        by_cases hi2 : i < o.length
        · rw [lenAt_app _ _ _ hi2]
          have := ho i hi2
          omega
        · obtain rfl : i = o.length := by omega
          rw [lenAt_snoc]
          omega
theorem joinTo_lens {o p : List Stp} {D C : Int} (ho : ∀ i, i < o.length → 0 ≤ lenAt o i ∧ lenAt o i ≤ D) (hp : ∀ i, i < p.length → 0 ≤ lenAt p i ∧ lenAt p i ≤ C) : ∀ k, k ≤ p.length → 0 ≤ D → 0 ≤ C → ∀ i, i < (joinTo o p k).length → 0 ≤ lenAt (joinTo o p k) i ∧ lenAt (joinTo o p k) i ≤ D + C * k
  | 0, _, _, _ => by simpa [joinTo] using ho
  | k + 1, hk, hD, hC => by
    rw [joinTo_succ _ _ (by omega)]
    have h1 := joinTo_lens ho hp k (by omega) hD hC
    have hCk : 0 ≤ C * k := Int.mul_nonneg hC (by omega)
    intro i hi
    have := addS_lens (s := (wayAt p k, lenAt p k)) (C := C) h1 (hp k (by omega)) (by omega) i hi
    rw [show ((k + 1 : Nat) : Int) = (k : Int) + 1 from rfl, Int.mul_add, Int.mul_one]
    omega

end Go.Proofs.YtnfbfdamlnjblaaGreatDoor
