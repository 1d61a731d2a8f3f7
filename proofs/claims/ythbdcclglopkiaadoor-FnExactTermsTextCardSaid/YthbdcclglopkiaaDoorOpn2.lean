/-
  A slice of structs of a word and a number each, opened with the bounds of its integers.
-/
import Derived.Test.YthbdcclglopkiaaDoorOpn
namespace Go.Proofs.YthbdcclglopkiaaDoor
open Go.ChangeShapes Go.WideShapes Go.ChangeAt Go.RowKit Go.Joins Go.Deep

def RangeT (us : List (List Int × Int)) : Prop := ∀ i, i < us.length → (∀ j, j < (us.getD i ([], 0)).1.length → -9223372036854775808 ≤ (us.getD i ([], 0)).1.getD j 0 ∧ (us.getD i ([], 0)).1.getD j 0 ≤ 9223372036854775807) ∧
  -9223372036854775808 ≤ (us.getD i ([], 0)).2 ∧ (us.getD i ([], 0)).2 ≤ 9223372036854775807
section
variable {H : Type} {enc : TypeId × Value → H} {P : Program} {w : World} {base : Nat} {spare : Nat → Bool} {held : Bool}

/-- a slice of structs of a word and a number, with the bounds of its integers -/
theorem terms_in2 {t e ti : TypeId} {f0 f1 : Field} {fuel : Nat} {cs : List Value} {x : DataW H × List MemPlace} (ht : P.underlying t = some (.slice e)) (hs : P.underlying e = some (.struct #[f0, f1])) (hone : oneCellFields P #[f0, f1] = true) (hC : P.cellsOf e = 2)
    (e0 : P.underlying f0.type = some (.slice ti)) (e1 : P.underlying f1.type = some (.int .i64)) (he : P.underlying ti = some (.int .i64)) (hc : P.cellsOf ti = 1)
    (h : DataW.trod enc P w base spare held fuel t cs = some x) : ∃ ao n c us, cs = [.slice ao n c] ∧ TermsAt w ao n us ∧ n ≤ c ∧ n ≤ 9223372036854775807 ∧ (ao = none → c = 0) ∧ RangeT us := by
  rcases open_slice ht h with ⟨rfl, _⟩ | ⟨a, len, cap, m, fl, D, Pl, rfl, _, hl, hm, hmm, _, hi⟩
  · exact ⟨none, 0, 0, [], rfl, ⟨rfl, fun i h => by omega⟩, Nat.le_refl _, by omega, fun _ => rfl, fun i h => by simp at h⟩
  · have hlm : len ≤ m := by rw [hmm]; split <;> omega
    have each : ∀ i, i < len → ∃ aw n c xs m, w.cell? (a.add (i * 2)) = some (.slice aw n c) ∧ w.cell? (a.add (i * 2 + 1)) = some (.int .i64 m) ∧ IntsAt w aw n xs ∧ n ≤ 9223372036854775807 ∧ (∀ j, j < n → -9223372036854775808 ≤ xs.getD j 0 ∧ xs.getD j 0 ≤ 9223372036854775807) ∧ -9223372036854775808 ≤ m ∧ m ≤ 9223372036854775807 := by
      intro i hil
      obtain ⟨cs', hcs, htr⟩ := hi i (by omega)
      rw [hC] at hcs
      obtain ⟨_, hcl, hat⟩ := World.cells?_some hcs
      obtain ⟨y0, y1, n', _, _, h0, h1⟩ := trod_struct2 hs htr
      obtain ⟨o0, k0⟩ := hone_of hone 0 f0 rfl
      obtain ⟨o1, k1⟩ := hone_of hone 1 f1 rfl
      have c0 := hat 0 (by omega)
      have c1 := hat 1 (by omega)
      match cs', hcl with
      | [v0, v1], _ =>
        rw [o0, k0] at h0
        rw [o1, k1] at h1
        simp only [List.drop_zero, List.take_succ_cons, List.take_zero, List.drop_succ_cons] at h0 h1
        obtain ⟨aw, n, c, xs, q0, hI, _, hn2, _, hrg⟩ := ints_in e0 he hc h0
        obtain ⟨m1, q1, _, hwf⟩ := DataW.trod_int e1 h1
        have hm1 : -9223372036854775808 ≤ m1 ∧ m1 ≤ 9223372036854775807 := by simpa [Lit.wf, IntKind.min, IntKind.max, IntKind.signed, IntKind.bits] using hwf
        simp only [List.cons.injEq, and_true] at q0 q1
        subst q0 q1
        rw [add_add_plain] at c0 c1
        exact ⟨aw, n, c, xs, m1, c0, c1, hI, hn2, hrg, hm1⟩
    rcases Nat.eq_zero_or_pos len with h0 | h0
    · subst h0
      exact ⟨some a, 0, cap, [], rfl, ⟨rfl, fun i h => by omega⟩, hl, by omega, (fun h => by cases h), fun i h => by simp at h⟩
    · have ha : a = ⟨a.block, a.off, none⟩ := by
        obtain ⟨_, _, _, _, _, q, _⟩ := each 0 h0
        rw [Nat.zero_mul] at q
        exact plain_of_cell q
      have hex : ∃ f : Nat → List Int × Int, ∀ i, i < len → ∃ aw c, w.cell? (a.add (i * 2)) = some (.slice aw (f i).1.length c) ∧ w.cell? (a.add (i * 2 + 1)) = some (.int .i64 (f i).2) ∧ IntsAt w aw (f i).1.length (f i).1 ∧ (f i).1.length ≤ 9223372036854775807 ∧ (∀ j, j < (f i).1.length → -9223372036854775808 ≤ (f i).1.getD j 0 ∧ (f i).1.getD j 0 ≤ 9223372036854775807) ∧ -9223372036854775808 ≤ (f i).2 ∧ (f i).2 ≤ 9223372036854775807 := by
        refine ⟨fun i => if h : i < len then (Classical.choose (Classical.choose_spec (Classical.choose_spec (Classical.choose_spec (each i h)))), Classical.choose (Classical.choose_spec (Classical.choose_spec (Classical.choose_spec (Classical.choose_spec (each i h)))))) else ([], 0), fun i hi => ?_⟩
        have hh := Classical.choose_spec (Classical.choose_spec (Classical.choose_spec (Classical.choose_spec (Classical.choose_spec (each i hi)))))
        simp only [hi, dif_pos]
        have hl := hh.2.2.1.len
        refine ⟨Classical.choose (each i hi), Classical.choose (Classical.choose_spec (Classical.choose_spec (each i hi))), ?_, hh.2.1, ?_, ?_⟩
        · rw [hl]; exact hh.1
        · rw [hl]; exact hh.2.2.1
        · rw [hl]; exact hh.2.2.2
      obtain ⟨f, hf⟩ := hex
      refine ⟨some a, len, cap, (List.range len).map f, rfl, ⟨by simp, fun i hil => ?_⟩, hl, by unfold maxLen at hm; omega, (fun h => by cases h), fun i hil => ?_⟩
      · obtain ⟨aw, c, q0, q1, hI, hn, _⟩ := hf i hil
        have e : ((List.range len).map f).getD i ([], 0) = f i := by simp [List.getD_eq_getElem?_getD, hil]
        rw [ha, add_plain] at q0 q1
        exact ⟨_, _, aw, c, congrArg some ha, by rw [e]; exact q0, by rw [e, Nat.add_assoc]; exact q1, by rw [e]; exact hI, by rw [e]; exact hn⟩
      · have hil' : i < len := by simpa using hil
        obtain ⟨aw, c, q0, q1, hI, hn, hr⟩ := hf i hil'
        have e : ((List.range len).map f).getD i ([], 0) = f i := by simp [List.getD_eq_getElem?_getD, hil']
        rw [e]
        exact hr
end
end Go.Proofs.YthbdcclglopkiaaDoor
