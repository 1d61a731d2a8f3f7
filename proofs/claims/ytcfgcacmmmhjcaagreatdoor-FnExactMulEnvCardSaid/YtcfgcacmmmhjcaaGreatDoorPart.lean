/-
  A part of an owned slice of structs, appended to another owned slice; two chains of operations of a region that draws its order.
-/
import Derived.Test.YtcfgcacmmmhjcaaGreatDoorStp
import Derived.Test.YtcfgcacmmmhjcaaGreatDoorReg
namespace Go.Proofs.YtcfgcacmmmhjcaaGreatDoor
open Go.RowKit

variable {α : Type}
/-- m elements that lie one behind the other from a place on, each with its numbers in memory of its own -/
structure PartK (K : Knd α) (w : World) (B g o m : Nat) (hs : List Hdr) (xs : List α) : Prop where
  hl : hs.length = m
  xl : xs.length = m
  cells : ∀ (j : Nat) u, (K.all hs xs)[j]? = some u → w.cell? ((⟨g, o, none⟩ : Addr).add j) = some u
  each : ∀ i, i < m → OwnI w B (hs.getD i (none, 0)).1 (K.ints (xs.getD i K.dft)).length (hs.getD i (none, 0)).2 (K.ints (xs.getD i K.dft))
  apart : ∀ i j, i < m → j < m → i ≠ j → Apart (hs.getD i (none, 0)).1 (hs.getD j (none, 0)).1
theorem PartK.below {K : Knd α} {w w' : World} {B g o m : Nat} {hs : List Hdr} {xs : List α} (h : PartK K w B g o m hs xs) (hx : Ext w w') : PartK K w' B g o m hs xs :=
  ⟨h.hl, h.xl, fun j u hu => (hx.cell (World.block_lt_of_cell? w _ (h.cells j u hu))).trans (h.cells j u hu), fun i hi => (h.each i hi).below hx, h.apart⟩
theorem OwnK.part {K : Knd α} {w : World} {B U g n c : Nat} {hs : List Hdr} {xs : List α} (h : OwnK K w B U (some ⟨g, 0, none⟩) n c hs xs) (i : Nat) (hi : i ≤ n) : PartK K w B g (i * K.size) (n - i) (hs.drop i) (xs.drop i) := by
  have hhl := h.hl
  have hxl := h.xl
  have hall := K.all_length hs xs (hhl.trans hxl.symm)
  have hsplit : K.all hs xs = K.all (hs.take i) (xs.take i) ++ K.all (hs.drop i) (xs.drop i) := by
    rw [← K.all_append _ _ _ _ (by simp; omega), List.take_append_drop, List.take_append_drop]
  have hlen : (K.all (hs.take i) (xs.take i)).length = i * K.size := by
    rw [K.all_length _ _ (by simp; omega), List.length_take, hxl, Nat.min_eq_left hi]
  refine ⟨by simp; omega, by simp; omega, fun j u hu => ?_, fun q hq => ?_, fun q r hq hr hqr => ?_⟩
  · have h1 : (K.all hs xs)[i * K.size + j]? = some u := by
      rw [hsplit, List.getElem?_append_right (by omega), hlen, Nat.add_sub_cancel_left]
      exact hu
    have h2 : i * K.size + j < n * K.size := by
      have := (List.getElem?_eq_some_iff.1 h1).1
      rwa [hall, hxl] at this
    rw [add_none, h.row.cellAt _ h2]
    exact h1
  · have := h.each (i + q) (by omega)
    simpa [List.getD_eq_getElem?_getD, List.getElem?_drop] using this
  · have := h.apart (i + q) (i + r) (by omega) (by omega) (by omega)
    simpa [List.getD_eq_getElem?_getD, List.getElem?_drop] using this
theorem OwnK.cat_part {K : Knd α} {w w' : World} {B U : Nat} {a : Option Addr} {n c g o m : Nat} {hs hs2 : List Hdr} {xs xs2 : List α} (hown : OwnK K w B U a n c hs xs) (h2 : PartK K w B g o m hs2 xs2) {v' : Value}
    (hr : w'.ownsRow B K.E K.size v' (n + m) (K.all hs xs ++ K.all hs2 xs2)) (hg : w.grownBy w' (Value.slice a n c).ownBlock)
    (hap : ∀ i j, i < n → j < m → Apart (hs.getD i (none, 0)).1 (hs2.getD j (none, 0)).1) (hsl : ∃ a' c', v' = .slice a' (n + m) c') :
    ∃ a' c', v' = .slice a' (n + m) c' ∧ OwnK K w' B w'.heap.size a' (n + m) c' (hs ++ hs2) (xs ++ xs2) := by
  rw [← K.all_append hs hs2 xs xs2 (hown.hl.trans hown.xl.symm)] at hr
  obtain ⟨a', c', rfl⟩ := hsl
  refine ⟨a', c', rfl, ?_⟩
  have hxl := hown.xl
  have hhl := hown.hl
  have hxl2 := h2.xl
  have hhl2 := h2.hl
  have hne : ∀ {p : Option Addr} {k q : Nat} {ys : List Int}, OwnI w B p k q ys → ∀ b o, p = some ⟨b, o, none⟩ → some b ≠ (Value.slice a n c).ownBlock := fun hk b o e => by
    rcases hown.form with ⟨rfl, _⟩ | ⟨g', cur, rfl, _⟩
    · simp [Value.ownBlock]
    · have := hown.off_ints hk g' 0 b o rfl e
      simp only [Value.ownBlock, ne_eq, Option.some.injEq]
      omega
  have hev : ∀ q, q < n + m → OwnI w' B ((hs ++ hs2).getD q (none, 0)).1 (K.ints ((xs ++ xs2).getD q K.dft)).length ((hs ++ hs2).getD q (none, 0)).2 (K.ints ((xs ++ xs2).getD q K.dft)) := fun q hq => by
    by_cases h3 : q < n
    · rw [getD_left _ _ _ _ (by omega), getD_left _ _ _ _ (by omega)]
      exact (hown.each q h3).grown hg fun b o e => hne (hown.each q h3) b o e
    · rw [getD_right _ _ _ _ (by omega), getD_right _ _ _ _ (by omega), hhl, hxl]
      exact (h2.each _ (by omega)).grown hg fun b o e => hne (h2.each _ (by omega)) b o e
  refine ⟨hr, by simp [hhl, hhl2], by simp [hxl, hxl2], hev, fun q r hq hr' hqr => ?_, fun q hq b o e => ((hev q hq).at_base b o e).2, fun b o e => ?_⟩
  · by_cases h3 : q < n
    · rw [getD_left hs _ q _ (by omega)]
      by_cases h4 : r < n
      · rw [getD_left hs _ r _ (by omega)]; exact hown.apart q r h3 h4 hqr
      · rw [getD_right hs _ r _ (by omega)]; exact hap q _ h3 (by omega)
    · rw [getD_right hs _ q _ (by omega)]
      by_cases h4 : r < n
      · rw [getD_left hs _ r _ (by omega)]; exact (hap r _ h4 (by omega)).symm
      · rw [getD_right hs _ r _ (by omega)]; exact h2.apart _ _ (by omega) (by omega) (by omega)
  · rcases hr.2 with ⟨h5, h0⟩ | ⟨g', cap, cur, he, _, hg', _⟩
    · simp only [Value.slice.injEq] at h5
      rw [h5.1] at e
      cases e
    · simp only [Value.slice.injEq] at he
      rw [e] at he
      simp only [Option.some.injEq, Addr.mk.injEq, and_true] at he
      obtain ⟨⟨rfl, _⟩, _⟩ := he
      exact (Array.getElem?_eq_some_iff.1 hg').1

/-- append of a part's elements to an owned slice, at a single operation -/
theorem wp_append_part {o : Oper} {av : Act} {Kk : Act → World → Prop} {Q : Exit → Act → World → Prop} {w : World} (K : Knd α) (T : TypeId) (z : Value) (bytes : Nat) (s x : Operand)
    (ho : o.op = .call { callee := .builtin .append, args := #[s, x], argTypes := #[T, T] }) (hT : Tryz.prog.underlying T = some (.slice K.E)) (hinfo : (Tryz.prog.info? K.E).map (fun i => (i.zero, i.size, i.bytes)) = some (some z, K.size, bytes))
    (hz : z.cells.size = K.size) (hbp : bytes ≤ 1000)
    (B U : Nat) (g0 n c : Nat) (hs hs2 : List Hdr) (xs xs2 : List α) (hsv : av.eval s = .slice (some ⟨g0, 0, none⟩) n c) (hown : OwnK K w B U (some ⟨g0, 0, none⟩) n c hs xs)
    (g o2 m c2 : Nat) (hx : av.eval x = .slice (some ⟨g, o2, none⟩) m c2) (h2 : PartK K w B g o2 m hs2 xs2)
    (hap : ∀ i j, i < n → j < m → Apart (hs.getD i (none, 0)).1 (hs2.getD j (none, 0)).1) (hsm : n + m ≤ 1000000000) (hB : B ≤ w.heap.size)
    (h : ∀ g' c' w', OwnK K w' B w'.heap.size (some ⟨g', 0, none⟩) (n + m) c' (hs ++ hs2) (xs ++ xs2) → w.grownBy w' (some g0) → (g' = g0 ∨ w.heap.size ≤ g') → Kk (av.put o.dst (.slice (some ⟨g', 0, none⟩) (n + m) c')) w') : o.wp Tryz.prog av w Kk Q := by
  obtain ⟨i, hi, hz0, hz1, hz2⟩ := info_parts hinfo
  have hl2 := K.all_length hs2 xs2 (h2.hl.trans h2.xl.symm)
  rw [h2.xl] at hl2
  have hcells := h2.cells
  obtain ⟨gb, cur, eb, _⟩ : ∃ gb cur, (some (⟨g0, 0, none⟩ : Addr)) = some ⟨gb, 0, none⟩ ∧ w.heap[gb]? = some (.cells cur K.E (0, 0)) := by
    rcases hown.form with ⟨e, _⟩ | ⟨gb, cur, e, _, _, h3, _⟩
    · cases e
    · exact ⟨gb, cur, e, h3⟩
  by_cases hroom : n + m ≤ c
  · obtain ⟨w', hrun, hr, hg⟩ := run_append_fits (P := Tryz.prog) w B T o.type K.E i K.size hT hi hz1 g0 n c (K.all hs xs) hown.row ⟨g, o2, none⟩ m c2 (K.all hs2 xs2) hl2 hcells (K.all_one _ _) hroom
    obtain ⟨a', c', e, hk⟩ := hown.cat_part h2 hr hg hap ⟨_, _, rfl⟩
    simp only [Value.slice.injEq] at e
    obtain ⟨rfl, _, rfl⟩ := e
    unfold Oper.wp
    simp only [execOp, ho, resolve, invoke, builtin, Sem.run_bind, Sem.run_pure, Result.andThen_ok, List.map_toArray, List.map_cons, List.map_nil, hsv, hx, hrun]
    exact h _ _ w' hk hg (.inl rfl)
  · have hlx := K.all_length hs xs (hown.hl.trans hown.xl.symm)
    rw [hown.xl] at hlx
    obtain ⟨v', w', hrun, hr, hg0⟩ := run_append_arg_grows (P := Tryz.prog) w T o.type K.E i z K.size bytes hT hi hz0 hz1 hz2 hz K.pos ⟨g0, 0, none⟩ n c (K.all hs xs) hlx (by
      intro j u hu
      have hj : j < n * K.size := by have := (List.getElem?_eq_some_iff.1 hu).1; rwa [hlx] at this
      rw [add_none, Nat.zero_add, hown.row.cellAt j hj]
      exact hu) ⟨g, o2, none⟩ m c2 (K.all hs2 xs2) hl2 hcells (by omega) (by unfold maxLen; omega)
      (by calc (n + m) * bytes ≤ 1000000000 * 1000 := Nat.mul_le_mul (by omega) hbp
            _ ≤ _ := by omega)
    have hg : w.grownBy w' (Value.slice (some ⟨g0, 0, none⟩) n c).ownBlock := ⟨hg0.os, hg0.tape, hg0.output, hg0.size, fun k hk _ => hg0.block k hk (by simp)⟩
    have hr2 : w'.ownsRow B K.E K.size v' (n + m) (K.all hs xs ++ K.all hs2 xs2) := by
      refine ⟨hr.1, ?_⟩
      rcases hr.2 with h2 | ⟨g', cap, cur, he, hB', r⟩
      · exact .inl h2
      · exact .inr ⟨g', cap, cur, he, Nat.le_trans hB hB', r⟩
    obtain ⟨g', cap, he, hB'⟩ : ∃ g' cap, v' = .slice (some ⟨g', 0, none⟩) (n + m) cap ∧ w.heap.size ≤ g' := by
      rcases hr.2 with ⟨e5, h0⟩ | ⟨g', cap, cur, he, hB', _⟩
      · omega
      · exact ⟨g', cap, he, hB'⟩
    subst he
    obtain ⟨a', c', e, hk⟩ := hown.cat_part h2 hr2 hg hap ⟨_, _, rfl⟩
    simp only [Value.slice.injEq, true_and] at e
    obtain ⟨rfl, rfl⟩ := e
    unfold Oper.wp
    simp only [execOp, ho, resolve, invoke, builtin, Sem.run_bind, Sem.run_pure, Result.andThen_ok, List.map_toArray, List.map_cons, List.map_nil, hsv, hx, hrun]
    exact h g' _ w' hk hg (.inr hB')
theorem wpList_append_part {ops : Array Oper} {rest : List Oper} {o : Oper} {av : Act} {Q : Exit → Act → World → Prop} {w : World} (K : Knd α) (T : TypeId) (z : Value) (bytes : Nat) (hgd : o.guard = none) (s x : Operand)
    (ho : o.op = .call { callee := .builtin .append, args := #[s, x], argTypes := #[T, T] }) (hT : Tryz.prog.underlying T = some (.slice K.E)) (hinfo : (Tryz.prog.info? K.E).map (fun i => (i.zero, i.size, i.bytes)) = some (some z, K.size, bytes))
    (hz : z.cells.size = K.size) (hbp : bytes ≤ 1000)
    (B U : Nat) (g0 n c : Nat) (hs hs2 : List Hdr) (xs xs2 : List α) (hsv : av.eval s = .slice (some ⟨g0, 0, none⟩) n c) (hown : OwnK K w B U (some ⟨g0, 0, none⟩) n c hs xs)
    (g o2 m c2 : Nat) (hx : av.eval x = .slice (some ⟨g, o2, none⟩) m c2) (h2 : PartK K w B g o2 m hs2 xs2)
    (hap : ∀ i j, i < n → j < m → Apart (hs.getD i (none, 0)).1 (hs2.getD j (none, 0)).1) (hsm : n + m ≤ 1000000000) (hB : B ≤ w.heap.size)
    (h : ∀ g' c' w', OwnK K w' B w'.heap.size (some ⟨g', 0, none⟩) (n + m) c' (hs ++ hs2) (xs ++ xs2) → w.grownBy w' (some g0) → (g' = g0 ∨ w.heap.size ≤ g') → wpList Tryz.prog ops Q rest (av.put o.dst (.slice (some ⟨g', 0, none⟩) (n + m) c')) w') : wpList Tryz.prog ops Q (o :: rest) av w :=
  wpList_plain hgd fun _ hK' => wp_append_part K T z bytes s x ho hT hinfo hz hbp B U g0 n c hs hs2 xs xs2 hsv hown g o2 m c2 hx h2 hap hsm hB fun g' c' w' r1 r2 r3 => hK' _ _ (h g' c' w' r1 r2 r3)
theorem OwnK.front {K : Knd α} {w : World} {B U g n c : Nat} {hs : List Hdr} {xs : List α} (h : OwnK K w B U (some ⟨g, 0, none⟩) n c hs xs) (i : Nat) (hi : i ≤ n) : PartK K w B g 0 i (hs.take i) (xs.take i) := by
  have := (h.take i hi).part 0 (Nat.zero_le _)
  simpa using this
theorem PartK.single {K : Knd α} {w : World} {B g : Nat} {h1 : Hdr} {x1 : α} (hc : ∀ j, j < K.size → w.cell? ⟨g, j, none⟩ = (K.cells h1.1 h1.2 x1)[j]?) (hi : OwnI w B h1.1 (K.ints x1).length h1.2 (K.ints x1)) : PartK K w B g 0 1 [h1] [x1] := by
  refine ⟨rfl, rfl, fun j u hu => ?_, fun i hi' => ?_, fun i j hi' hj' hne => by omega⟩
  · have e : K.all [h1] [x1] = K.cells h1.1 h1.2 x1 := by simp [Knd.all]
    rw [e] at hu
    have hj : j < K.size := by have := (List.getElem?_eq_some_iff.1 hu).1; rwa [K.len] at this
    rw [add_none, Nat.zero_add, hc j hj]
    exact hu
  · obtain rfl : i = 0 := by omega
    exact hi
/-- an owned slice stays where another block is written, if that one is none of its own -/
theorem OwnK.past {K : Knd α} {w w' : World} {B U b n c : Nat} {a : Option Addr} {hs : List Hdr} {xs : List α} (h : OwnK K w B U a n c hs xs) (hg : w.grownBy w' (some b)) (ha : ∀ g o, a = some ⟨g, o, none⟩ → g ≠ b) (hb : U ≤ b) : OwnK K w' B U a n c hs xs :=
  h.kept hg (fun g o e e2 => ha g o e (Option.some.inj e2)) fun i hi g o e e2 => by
    have := h.lt i hi g o e
    have := Option.some.inj e2
    omega
theorem OwnI.past {w w' : World} {B n c b : Nat} {a : Option Addr} {xs : List Int} (h : OwnI w B a n c xs) (hg : w.grownBy w' (some b)) (ha : ∀ g o, a = some ⟨g, o, none⟩ → g ≠ b) : OwnI w' B a n c xs :=
  h.grown hg fun g o e e2 => ha g o e (Option.some.inj e2)
theorem PartK.moved {K : Knd α} {w : World} {B g o o' m : Nat} {hs : List Hdr} {xs : List α} (h : PartK K w B g o m hs xs) (hm : o' = o ∨ m = 0) : PartK K w B g o' m hs xs := by
  rcases hm with rfl | rfl
  · exact h
  · obtain rfl : hs = [] := List.length_eq_zero_iff.1 h.hl
    obtain rfl : xs = [] := List.length_eq_zero_iff.1 h.xl
    exact ⟨rfl, rfl, fun j u hu => by simp [Knd.all] at hu, fun i hi => by omega, fun i j hi => by omega⟩
end Go.Proofs.YtcfgcacmmmhjcaaGreatDoor
