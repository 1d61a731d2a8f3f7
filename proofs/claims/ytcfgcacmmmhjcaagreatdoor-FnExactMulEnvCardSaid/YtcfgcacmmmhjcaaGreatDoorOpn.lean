/-
  Arguments opened: slices of integers, algebras, slices of a word and a number each; what a call that only makes memory leaves readable.
-/
import Derived.Test.YtcfgcacmmmhjcaaGreatDoorAlg
import Derived.Test.YtcfgcacmmmhjcaaGreatDoorTermD
import Derived.Deep.Slices
import Derived.Lib.SmallJoins
import Derived.Carry
import Derived.ChangeSlices
import Derived.ProofKit
import Derived.OpenShut
import Derived.ChangeOld
namespace Go.Proofs.YtcfgcacmmmhjcaaGreatDoor
open Go.ChangeShapes Go.WideShapes Go.ChangeAt Go.RowKit Go.Joins Go.Deep

theorem plain_of_cell {w : World} {a : Addr} {v : Value} (h : w.cell? (a.add 0) = some v) : a = ⟨a.block, a.off, none⟩ := by
  unfold Addr.add at h
  simp only [if_true] at h
  unfold World.cell? at h
  split at h
  · split at h
    · cases h
    · rename_i hs
      cases a
      simp at hs
      simp [hs]
  · cases h
theorem add_plain (b o i : Nat) : (⟨b, o, none⟩ : Addr).add i = ⟨b, o + i, none⟩ := by
  unfold Addr.add
  split
  · subst_vars; rfl
  · rfl
theorem add_add_plain (a : Addr) (i j : Nat) : (a.add i).add j = a.add (i + j) := by
  unfold Addr.add
  by_cases hi : i = 0
  · simp [hi]
  · by_cases hj : j = 0
    · simp [hi, hj]
    · simp [hi, hj, Nat.add_assoc]

section
variable {H : Type} {enc : TypeId × Value → H} {P : Program} {w : World} {base : Nat} {spare : Nat → Bool} {held : Bool}

theorem ints_in {t e : TypeId} {fuel : Nat} {cs : List Value} {x : DataW H × List MemPlace} (ht : P.underlying t = some (.slice e)) (he : P.underlying e = some (.int .i64)) (hc : P.cellsOf e = 1)
    (h : DataW.trod enc P w base spare held fuel t cs = some x) : ∃ ao n c xs, cs = [.slice ao n c] ∧ IntsAt w ao n xs ∧ n ≤ c ∧ n ≤ 9223372036854775807 ∧ (ao = none → c = 0) ∧ ∀ i, i < n → -9223372036854775808 ≤ xs.getD i 0 ∧ xs.getD i 0 ≤ 9223372036854775807 := by
  rcases open_ints ht he hc h with ⟨rfl, _⟩ | ⟨a, len, cap, zs, rfl, _, hl, hm, hz, _, hcell, hwf⟩
  · exact ⟨none, 0, 0, [], rfl, IntsAt.nil _ _, Nat.le_refl _, by omega, fun _ => rfl, fun i h => by omega⟩
  · have hlen : len ≤ zs.length := by rw [hz]; split <;> omega
    refine ⟨some a, len, cap, zs.take len, rfl, ⟨by simp [hlen], fun i hi => ?_⟩, hl, by unfold maxLen at hm; omega, (fun h => by cases h), fun i hi => ?_⟩
    · have h0 := plain_of_cell (hcell 0 (by omega))
      have hi' := hcell i (by omega)
      rw [h0, add_plain] at hi'
      exact ⟨_, _, congrArg some h0, by rw [hi']; simp [List.getD_eq_getElem?_getD, hi]⟩
    · have hmem : (zs.take len).getD i 0 ∈ zs := by
        simp only [List.getD_eq_getElem?_getD, List.getElem?_take, hi, if_true]
        rw [List.getElem?_eq_getElem (by omega)]
        exact List.getElem_mem _
      have := hwf _ hmem
      simpa [Lit.wf, IntKind.min, IntKind.signed, IntKind.bits] using this

/-- an algebra by value -/
theorem alg_in {r : Reach} {b0 : Nat} {t ti : TypeId} {f0 f1 f2 : Field} {v : Value} {d : DataW H} {p : List MemPlace} (hs : P.underlying t = some (.struct #[f0, f1, f2])) (hone : oneCellFields P #[f0, f1, f2] = true) (hC : P.cellsOf t = 3)
    (e0 : P.underlying f0.type = some (.int .i64)) (e1 : P.underlying f1.type = some (.int .i64)) (e2 : P.underlying f2.type = some (.slice ti)) (he : P.underlying ti = some (.int .i64)) (hc : P.cellsOf ti = 1)
    (hv : Value.okWide P w r b0 t v) (h : DataW.Trod enc P w base spare held t v d p) :
    ∃ p d ao n c xs, v = algV p d ao n c ∧ IntsAt w ao n xs ∧ n ≤ c ∧ n ≤ 9223372036854775807 := by
  obtain ⟨v0, v1, v2, y0, y1, y2, n, rfl, _, _, h0, h1, h2⟩ := open_agg3 hs hone hC hv h
  obtain ⟨m0, q0, _⟩ := DataW.trod_int e0 h0
  obtain ⟨m1, q1, _⟩ := DataW.trod_int e1 h1
  obtain ⟨ao, n, c, xs, q2, hi, hn, hn2, _⟩ := ints_in e2 he hc h2
  simp only [List.cons.injEq, and_true] at q0 q1 q2
  subst q0 q1 q2
  exact ⟨m0, m1, ao, n, c, xs, rfl, hi, hn, hn2⟩

/-- a slice of structs of a word and a number -/
theorem terms_in {t e ti : TypeId} {f0 f1 : Field} {fuel : Nat} {cs : List Value} {x : DataW H × List MemPlace} (ht : P.underlying t = some (.slice e)) (hs : P.underlying e = some (.struct #[f0, f1])) (hone : oneCellFields P #[f0, f1] = true) (hC : P.cellsOf e = 2)
    (e0 : P.underlying f0.type = some (.slice ti)) (e1 : P.underlying f1.type = some (.int .i64)) (he : P.underlying ti = some (.int .i64)) (hc : P.cellsOf ti = 1)
    (h : DataW.trod enc P w base spare held fuel t cs = some x) : ∃ ao n c us, cs = [.slice ao n c] ∧ TermsAt w ao n us ∧ n ≤ c ∧ n ≤ 9223372036854775807 ∧ (ao = none → c = 0) := by
  rcases open_slice ht h with ⟨rfl, _⟩ | ⟨a, len, cap, m, fl, D, Pl, rfl, _, hl, hm, hmm, _, hi⟩
  · exact ⟨none, 0, 0, [], rfl, ⟨rfl, fun i h => by omega⟩, Nat.le_refl _, by omega, fun _ => rfl⟩
  · have hlm : len ≤ m := by rw [hmm]; split <;> omega
    have each : ∀ i, i < len → ∃ aw n c xs m, w.cell? (a.add (i * 2)) = some (.slice aw n c) ∧ w.cell? (a.add (i * 2 + 1)) = some (.int .i64 m) ∧ IntsAt w aw n xs ∧ n ≤ 9223372036854775807 := by
      intro i hil
      obtain ⟨cs', hcs, htr⟩ := hi i (by omega)
      rw [hC] at hcs
      obtain ⟨_, hcl, hat⟩ := World.cells?_some hcs
      obtain ⟨y0, y1, n', _, _, h0, h1⟩ := trod_struct2 hs htr
      obtain ⟨o0, k0⟩ := hone_of hone 0 f0 rfl
      obtain ⟨o1, k1⟩ := hone_of hone 1 f1 rfl
      have c0 := hat 0 (by omega)
      have c1 := hat 1 (by omega)
      match cs', hcl with
      | [v0, v1], _ =>
        rw [o0, k0] at h0
        rw [o1, k1] at h1
        simp only [List.drop_zero, List.take_succ_cons, List.take_zero, List.drop_succ_cons] at h0 h1
        obtain ⟨aw, n, c, xs, q0, hI, _, hn2, _⟩ := ints_in e0 he hc h0
        obtain ⟨m1, q1, _⟩ := DataW.trod_int e1 h1
        simp only [List.cons.injEq, and_true] at q0 q1
        subst q0 q1
        rw [add_add_plain] at c0 c1
        exact ⟨aw, n, c, xs, m1, c0, c1, hI, hn2⟩
    rcases Nat.eq_zero_or_pos len with h0 | h0
    · subst h0
      exact ⟨some a, 0, cap, [], rfl, ⟨rfl, fun i h => by omega⟩, hl, by omega, fun h => by cases h⟩
    · have ha : a = ⟨a.block, a.off, none⟩ := by
        obtain ⟨_, _, _, _, _, q, _⟩ := each 0 h0
        rw [Nat.zero_mul] at q
        exact plain_of_cell q
      have hex : ∃ f : Nat → List Int × Int, ∀ i, i < len → ∃ aw c, w.cell? (a.add (i * 2)) = some (.slice aw (f i).1.length c) ∧ w.cell? (a.add (i * 2 + 1)) = some (.int .i64 (f i).2) ∧ IntsAt w aw (f i).1.length (f i).1 ∧ (f i).1.length ≤ 9223372036854775807 := by
        refine ⟨fun i => if h : i < len then (Classical.choose (Classical.choose_spec (Classical.choose_spec (Classical.choose_spec (each i h)))), Classical.choose (Classical.choose_spec (Classical.choose_spec (Classical.choose_spec (Classical.choose_spec (each i h)))))) else ([], 0), fun i hi => ?_⟩
        have hh := Classical.choose_spec (Classical.choose_spec (Classical.choose_spec (Classical.choose_spec (Classical.choose_spec (each i hi)))))
        simp only [hi, dif_pos]
        have hl := hh.2.2.1.len
        refine ⟨Classical.choose (each i hi), Classical.choose (Classical.choose_spec (Classical.choose_spec (each i hi))), ?_, hh.2.1, ?_, ?_⟩
        · rw [hl]; exact hh.1
        · rw [hl]; exact hh.2.2.1
        · rw [hl]; exact hh.2.2.2
      obtain ⟨f, hf⟩ := hex
      refine ⟨some a, len, cap, (List.range len).map f, rfl, ⟨by simp, fun i hil => ?_⟩, hl, by unfold maxLen at hm; omega, fun h => by cases h⟩
      obtain ⟨aw, c, q0, q1, hI, hn⟩ := hf i hil
      have e : ((List.range len).map f).getD i ([], 0) = f i := by simp [List.getD_eq_getElem?_getD, hil]
      rw [ha, add_plain] at q0 q1
      exact ⟨_, _, aw, c, congrArg some ha, by rw [e]; exact q0, by rw [e, Nat.add_assoc]; exact q1, by rw [e]; exact hI, by rw [e]; exact hn⟩
end
end Go.Proofs.YtcfgcacmmmhjcaaGreatDoor
