/-
  Owned slices of elements as lists of an address and an element each; rows whose elements are moved about.
-/
import Derived.Test.YtfikkfbnlegflaaGreatDoorStp
import Derived.Test.YtfikkfbnlegflaaGreatDoorSes
import Derived.Lib.SliceRun
namespace Go.Proofs.YtfikkfbnlegflaaGreatDoor
open Go.RowKit

variable {α : Type}
theorem getD_mapped {β γ : Type} (f : β → γ) (l : List β) (i : Nat) (d : β) (e : γ) (hi : i < l.length) : (l.map f).getD i e = f (l.getD i d) := by
  simp [List.getD_eq_getElem?_getD, hi]
theorem getD_within {β : Type} (l : List β) (i : Nat) (d : β) (hi : i < l.length) : l.getD i d ∈ l := by
  simp [List.getD_eq_getElem?_getD, hi]
/-- the facts of an owned slice's elements, as a list -/
structure ElemK (K : Knd α) (w : World) (B U : Nat) (l : List (Hdr × α)) : Prop where
  each : ∀ z ∈ l, OwnI w B z.1.1 (K.ints z.2).length z.1.2 (K.ints z.2)
  apart : l.Pairwise fun z z' => Apart z.1.1 z'.1.1
  lt : ∀ z ∈ l, ∀ b o, z.1.1 = some ⟨b, o, none⟩ → b < U
theorem ElemK.sub {K : Knd α} {w : World} {B U : Nat} {l l' : List (Hdr × α)} (h : ElemK K w B U l) (hs : l'.Sublist l) : ElemK K w B U l' :=
  ⟨fun z hz => h.each z (hs.subset hz), h.apart.sublist hs, fun z hz => h.lt z (hs.subset hz)⟩
theorem OwnK.list {K : Knd α} {w : World} {B U : Nat} {a : Option Addr} {n c : Nat} {hs : List Hdr} {xs : List α} (h : OwnK K w B U a n c hs xs) :
    ElemK K w B U (hs.zip xs) ∧ (hs.zip xs).map (·.1) = hs ∧ (hs.zip xs).map (·.2) = xs ∧ (hs.zip xs).length = n := by
  have hl := h.hl
  have xl := h.xl
  have hz : (hs.zip xs).length = n := by rw [List.length_zip]; omega
  have hg : ∀ k, (hk : k < (hs.zip xs).length) → (hs.zip xs)[k] = (hs.getD k (none, 0), xs.getD k K.dft) := fun k hk => by
    rw [List.getElem_zip]
    simp [List.getD_eq_getElem?_getD, show k < hs.length by omega, show k < xs.length by omega]
  refine ⟨⟨fun z hz' => ?_, ?_, fun z hz' => ?_⟩, List.map_fst_zip (by omega), List.map_snd_zip (by omega), hz⟩
  · obtain ⟨k, hk, rfl⟩ := List.mem_iff_getElem.1 hz'
    rw [hg k hk]
    exact h.each k (by omega)
  · rw [List.pairwise_iff_getElem]
    intro i j hi hj hij
    rw [hg i hi, hg j hj]
    exact h.apart i j (by omega) (by omega) (by omega)
  · obtain ⟨k, hk, rfl⟩ := List.mem_iff_getElem.1 hz'
    rw [hg k hk]
    exact h.lt k (by omega)
theorem ElemK.own {K : Knd α} {w : World} {B U : Nat} {a : Option Addr} {n c : Nat} {l : List (Hdr × α)} (h : ElemK K w B U l) (hr : w.ownsRow B K.E K.size (.slice a n c) n (K.all (l.map (·.1)) (l.map (·.2)))) (hl : l.length = n) (olt : ∀ b o, a = some ⟨b, o, none⟩ → b < U) :
    OwnK K w B U a n c (l.map (·.1)) (l.map (·.2)) := by
  have g1 : ∀ i, i < n → (l.map (·.1)).getD i (none, 0) = (l.getD i ((none, 0), K.dft)).1 := fun i hi => getD_mapped _ _ _ _ _ (by omega)
  have g2 : ∀ i, i < n → (l.map (·.2)).getD i K.dft = (l.getD i ((none, 0), K.dft)).2 := fun i hi => getD_mapped _ _ _ _ _ (by omega)
  have gm : ∀ i, i < n → l.getD i ((none, 0), K.dft) ∈ l := fun i hi => getD_within _ _ _ (by omega)
  refine ⟨hr, by simpa using hl, by simpa using hl, fun i hi => ?_, fun i j hi hj hne => ?_, fun i hi b o e => ?_, olt⟩
  · rw [g1 i hi, g2 i hi]
    exact h.each _ (gm i hi)
  · rw [g1 i hi, g1 j hj]
    have hp := h.apart
    rw [List.pairwise_iff_getElem] at hp
    have e : ∀ k, (hk : k < l.length) → l.getD k ((none, 0), K.dft) = l[k] := fun k hk => by simp [List.getD_eq_getElem?_getD, hk]
    rw [e i (by omega), e j (by omega)]
    rcases Nat.lt_or_gt_of_ne hne with h3 | h3
    · exact hp i j (by omega) (by omega) h3
    · exact (hp j i (by omega) (by omega) h3).symm
  · rw [g1 i hi] at e
    exact h.lt _ (gm i hi) b o e
/-- what lies elsewhere stays -/
theorem ElemK.kept {K : Knd α} {w w' : World} {B U g : Nat} {l : List (Hdr × α)} (h : ElemK K w B U l) (hg : w.grownBy w' (some g)) (hf : ∀ z ∈ l, ∀ b o, z.1.1 = some ⟨b, o, none⟩ → b ≠ g) : ElemK K w' B U l :=
  ⟨fun z hz => (h.each z hz).grown hg fun b o e => by have := hf z hz b o e; simp only [ne_eq, Option.some.injEq]; exact this, h.apart, h.lt⟩

/-! ### a row of steps, whatever its addresses -/
structure RawS (w : World) (B g n c : Nat) (l : List (Hdr × Stp)) : Prop where
  row : w.ownsRow B stepK.E stepK.size (.slice (some ⟨g, 0, none⟩) n c) n (stepK.all (l.map (·.1)) (l.map (·.2)))
  len : l.length = n
theorem RawS.cells {w : World} {B g n c : Nat} {l : List (Hdr × Stp)} (h : RawS w B g n c l) (k : Nat) (hk : k < n) :
    w.cell? ⟨g, k * 2, none⟩ = some (.slice (l.getD k ((none, 0), ([], 0))).1.1 (l.getD k ((none, 0), ([], 0))).2.1.length (l.getD k ((none, 0), ([], 0))).1.2) ∧ w.cell? ⟨g, k * 2 + 1, none⟩ = some (.int .i64 (l.getD k ((none, 0), ([], 0))).2.2) ∧
    w.frozen? ⟨g, k * 2, none⟩ = false ∧ w.frozen? ⟨g, k * 2 + 1, none⟩ = false := by
  have hl := h.len
  have hml : (l.map (·.1)).length = (l.map (·.2)).length := by simp
  have h0 := h.row.cellAt (k * stepK.size + 0) (by show k * 2 + 0 < n * 2; omega)
  have h1 := h.row.cellAt (k * stepK.size + 1) (by show k * 2 + 1 < n * 2; omega)
  rw [stepK.all_get _ _ hml k 0 (by simp; omega) (by decide), getD_mapped _ _ _ ((none, 0), ([], 0)) _ (by omega), getD_mapped _ _ _ ((none, 0), ([], 0)) _ (by omega)] at h0
  rw [stepK.all_get _ _ hml k 1 (by simp; omega) (by decide), getD_mapped _ _ _ ((none, 0), ([], 0)) _ (by omega), getD_mapped _ _ _ ((none, 0), ([], 0)) _ (by omega)] at h1
  exact ⟨h0, h1, h.row.frozenAt _, h.row.frozenAt _⟩
theorem RawS.placed {w : World} {B g n c : Nat} {l : List (Hdr × Stp)} (h : RawS w B g n c l) (i : Nat) (hi : i < n) (z : Hdr × Stp) :
    RawS ((w.setCell ⟨g, i * 2, none⟩ (.slice z.1.1 z.2.1.length z.1.2)).setCell ⟨g, i * 2 + 1, none⟩ (.int .i64 z.2.2)) B g n c (l.set i z) := by
  have hl := h.len
  have hml : (l.map (·.1)).length = (l.map (·.2)).length := by simp
  have hr1 := (h.row.stored (i * stepK.size + 0) (.slice z.1.1 z.2.1.length z.1.2)).1
  rw [stepK.all_set _ _ hml i 0 (by simp; omega) (by decide) _ z.1 (z.2.1, ((l.map (·.2)).getD i stepK.dft).2) rfl] at hr1
  have hl2 : ((l.map (·.1)).set i z.1).length = ((l.map (·.2)).set i (z.2.1, ((l.map (·.2)).getD i stepK.dft).2)).length := by simp
  have hr2 := (World.ownsRow.stored hr1 (i * stepK.size + 1) (.int .i64 z.2.2)).1
  rw [stepK.all_set _ _ hl2 i 1 (by simp; omega) (by decide) _ z.1 z.2 (by
    rw [OwnK.getD_set _ _ _ _ _ (by simp; omega), OwnK.getD_set _ _ _ _ _ (by simp; omega), if_pos rfl, if_pos rfl]
    rfl)] at hr2
  simp only [List.set_set] at hr2
  refine ⟨?_, by simpa using hl⟩
  rw [List.map_set, List.map_set]
  exact hr2
theorem OwnK.raw {w : World} {B U g n c : Nat} {hs : List Hdr} {xs : List Stp} (h : OwnK stepK w B U (some ⟨g, 0, none⟩) n c hs xs) : RawS w B g n c (hs.zip xs) := by
  obtain ⟨_, h1, h2, h3⟩ := h.list
  exact ⟨by rw [h1, h2]; exact h.row, h3⟩
/-- the first places alone -/
theorem RawS.take {w : World} {B g n c : Nat} {l : List (Hdr × Stp)} (h : RawS w B g n c l) (m : Nat) (hm : m ≤ n) : RawS w B g m c (l.take m) := by
  have hl := h.len
  have hml : (l.map (·.1)).length = (l.map (·.2)).length := by simp
  refine ⟨⟨?_, ?_⟩, by simp; omega⟩
  · rw [stepK.all_length _ _ (by simp), show ((l.take m).map (·.2)).length = m by simp; omega]
  · rcases h.row.2 with ⟨he, _⟩ | ⟨g', cap, cur, he, hB, hg, hnc, hcm, hcs, ht⟩
    · simp at he
    · simp only [Value.slice.injEq, true_and] at he
      obtain ⟨he, rfl⟩ := he
      refine .inr ⟨g', c, cur, by rw [he], hB, hg, by omega, hcm, hcs, ?_⟩
      rw [List.map_take, List.map_take, stepK.all_take _ _ hml, ← ht, List.take_take, Nat.min_eq_left (Nat.mul_le_mul_right _ hm)]
/-- cells written from a place on: those ahead of it stay -/
theorem row_setCells {B g n c e size : Nat} : ∀ (vs : List Value) (o : Nat) (w : World) (ys : List Value), w.ownsRow B e size (.slice (some ⟨g, 0, none⟩) n c) n ys →
    ∃ zs, (w.setCells g o vs).ownsRow B e size (.slice (some ⟨g, 0, none⟩) n c) n zs ∧ zs.take o = ys.take o ∧ w.grownBy (w.setCells g o vs) (some g)
  | [], o, w, ys, h => ⟨ys, h, rfl, ⟨rfl, rfl, rfl, Nat.le_refl _, fun _ _ _ => rfl⟩⟩
  | v :: vs, o, w, ys, h => by
    obtain ⟨h1, h2⟩ := h.stored o v
    obtain ⟨zs, h3, h4, h5⟩ := row_setCells vs (o + 1) _ _ h1
    refine ⟨zs, h3, ?_, ⟨h5.os.trans h2.os, h5.tape.trans h2.tape, h5.output.trans h2.output, Nat.le_trans h2.size h5.size, fun k hk hne => (h5.block k (Nat.lt_of_lt_of_le hk h2.size) hne).trans (h2.block k hk hne)⟩⟩
    have h6 : (zs.take (o + 1)).take o = ((ys.set o v).take (o + 1)).take o := by rw [h4]
    rw [List.take_take, List.take_take, Nat.min_eq_left (by omega)] at h6
    rw [h6, List.take_set_of_le (Nat.le_refl _)]
end Go.Proofs.YtfikkfbnlegflaaGreatDoor
