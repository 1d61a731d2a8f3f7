/-
  Integers in memory: slices that are read, slices that a call owns, what a store or a call leaves.
-/
import Derived.Test.YtnfbfdamlnjblaaGreatDoorLib
import Derived.Laws.CopyOwn
namespace Go.Proofs.YtnfbfdamlnjblaaGreatDoor
open Go.RowKit

abbrev iv (n : Int) : Value := .int .i64 n
def ivs (xs : List Int) : List Value := xs.map (Value.int .i64)
theorem ivs_length (xs : List Int) : (ivs xs).length = xs.length := by simp [ivs]
theorem ivs_get (xs : List Int) (i : Nat) (h : i < xs.length) : (ivs xs)[i]? = some (.int .i64 (xs.getD i 0)) := by
  simp [ivs, h]
theorem ivs_get_inv {xs : List Int} {i : Nat} {v : Value} (h : (ivs xs)[i]? = some v) : i < xs.length ∧ v = .int .i64 (xs.getD i 0) := by
  simp only [ivs, List.getElem?_map, Option.map_eq_some_iff] at h
  obtain ⟨x, hx, rfl⟩ := h
  obtain ⟨h1, h2⟩ := List.getElem?_eq_some_iff.1 hx
  exact ⟨h1, by simp [h2, h1]⟩
theorem ivs_one (xs : List Int) : ∀ u ∈ ivs xs, u.oneCell' = true := by
  intro u hu
  simp only [ivs, List.mem_map] at hu
  obtain ⟨x, _, rfl⟩ := hu
  rfl

theorem ints_ext {xs ys : List Int} (hl : xs.length = ys.length) (h : ∀ j, j < xs.length → xs.getD j 0 = ys.getD j 0) : xs = ys := by
  apply List.ext_getElem hl
  intro i h1 h2
  have := h i h1
  simpa [List.getD_eq_getElem?_getD, List.getElem?_eq_getElem h1, List.getElem?_eq_getElem h2] using this

/-- 'w' is w but for new blocks -/
abbrev Ext (w w' : World) : Prop := Below w.heap.size w w'
theorem Ext.refl (w : World) : Ext w w := Below.refl _ _
theorem Ext.trans {a b c : World} (h : Ext a b) (k : Ext b c) : Ext a c := Below.trans h (k.mono h.size)
theorem Ext.drewN (w : World) (n : Nat) : Ext w (w.drewN n) := ⟨rfl, rfl, rfl, Nat.le_refl _, fun _ _ => rfl⟩
theorem Ext.alloc (w : World) (o : Obj) : Ext w (w.alloc o) := (Below.refl _ _).alloc (Nat.le_refl _) o
theorem Below.drewN {B : Nat} {a w : World} (h : Below B a w) (n : Nat) : Below B a (w.drewN n) := ⟨h.os, h.tape, h.output, h.size, h.block⟩
theorem Below.ext {B : Nat} {a w w' : World} (h : Below B a w) (k : Ext w w') (hB : B ≤ w.heap.size) : Below B a w' := h.trans (Below.mono k hB)

/-- the slice value at address a (n elements) reads as the integers xs -/
structure IntsAt (w : World) (a : Option Addr) (n : Nat) (xs : List Int) : Prop where
  len : xs.length = n
  get : ∀ i, i < n → ∃ b o, a = some ⟨b, o, none⟩ ∧ w.cell? ⟨b, o + i, none⟩ = some (.int .i64 (xs.getD i 0))

theorem IntsAt.nil (w : World) (a : Option Addr) : IntsAt w a 0 [] := ⟨rfl, fun i h => by omega⟩
theorem IntsAt.block_lt {w : World} {b o n : Nat} {xs : List Int} (h : IntsAt w (some ⟨b, o, none⟩) n xs) (hn : 0 < n) : b < w.heap.size := by
  obtain ⟨b', o', e, hc⟩ := h.get 0 hn
  simp only [Option.some.injEq, Addr.mk.injEq, and_true] at e
  obtain ⟨rfl, rfl⟩ := e
  exact World.block_lt_of_cell? w _ hc
theorem IntsAt.atc {w : World} {b o n : Nat} {xs : List Int} (h : IntsAt w (some ⟨b, o, none⟩) n xs) (i : Nat) (hi : i < n) : w.cell? ⟨b, o + i, none⟩ = some (.int .i64 (xs.getD i 0)) := by
  obtain ⟨b', o', e, hc⟩ := h.get i hi
  simp only [Option.some.injEq, Addr.mk.injEq, and_true] at e
  obtain ⟨rfl, rfl⟩ := e
  exact hc
theorem IntsAt.below {w w' : World} {a : Option Addr} {n : Nat} {xs : List Int} (h : IntsAt w a n xs) (hb : Ext w w') : IntsAt w' a n xs := by
  refine ⟨h.len, fun i hi => ?_⟩
  obtain ⟨b, o, rfl, hc⟩ := h.get i hi
  exact ⟨b, o, rfl, (hb.cell (p := ⟨b, o + i, none⟩) (World.block_lt_of_cell? w _ hc)).trans hc⟩
theorem IntsAt.drewN {w : World} {a : Option Addr} {n : Nat} {xs : List Int} (h : IntsAt w a n xs) (k : Nat) : IntsAt (w.drewN k) a n xs := h.below (Ext.drewN w k)
theorem IntsAt.unique {w : World} {a : Option Addr} {n : Nat} {xs ys : List Int} (h : IntsAt w a n xs) (k : IntsAt w a n ys) : xs = ys := by
  refine ints_ext (h.len.trans k.len.symm) fun j hj => ?_
  obtain ⟨b, o, rfl, hc⟩ := h.get j (h.len ▸ hj)
  obtain ⟨b', o', e, hc'⟩ := k.get j (h.len ▸ hj)
  simp only [Option.some.injEq, Addr.mk.injEq, and_true] at e
  obtain ⟨rfl, rfl⟩ := e
  rw [hc] at hc'
  simpa using hc'
/-- a part of a slice -/
theorem IntsAt.part {w : World} {b o n : Nat} {xs : List Int} (h : IntsAt w (some ⟨b, o, none⟩) n xs) (i m : Nat) (hm : i + m ≤ n) : IntsAt w (some ⟨b, o + i, none⟩) m ((xs.drop i).take m) := by
  have hl := h.len
  refine ⟨by simp; omega, fun j hj => ⟨b, o + i, rfl, ?_⟩⟩
  obtain ⟨b', o', e, hc⟩ := h.get (i + j) (by omega)
  simp only [Option.some.injEq, Addr.mk.injEq, and_true] at e
  obtain ⟨rfl, rfl⟩ := e
  rw [Nat.add_assoc, hc]
  simp [List.getD_eq_getElem?_getD, hj]

/-- an owned slice of integers: it is nil, or begins at the head of a block from B on that nothing else looks into -/
structure OwnI (w : World) (B : Nat) (a : Option Addr) (n c : Nat) (xs : List Int) : Prop where
  row : w.ownsRow B 3 1 (.slice a n c) n (ivs xs)

theorem OwnI.len {w : World} {B : Nat} {a : Option Addr} {n c : Nat} {xs : List Int} (h : OwnI w B a n c xs) : xs.length = n := by
  have := h.row.1
  simpa [ivs_length] using this
theorem OwnI.cell {w : World} {B : Nat} {a : Option Addr} {n c : Nat} {xs : List Int} (h : OwnI w B a n c xs) (k : Nat) (hk : k < n) :
    ∃ g, a = some ⟨g, 0, none⟩ ∧ B ≤ g ∧ g < w.heap.size ∧ w.cell? ⟨g, k, none⟩ = some (.int .i64 (xs.getD k 0)) ∧ w.frozen? ⟨g, k, none⟩ = false := by
  have hl := h.len
  rcases h.row.2 with ⟨he, h0⟩ | ⟨g, cap, cur, he, hB, hg, hnc, hcm, hcs, ht⟩
  · omega
  · simp only [Value.slice.injEq] at he
    obtain ⟨rfl, -, rfl⟩ := he
    have h2 := h.row
    have h3 := h2.cellAt k (by omega)
    rw [ivs_get xs k (by omega)] at h3
    exact ⟨g, rfl, hB, (h2.lt g rfl).2, h3, h2.frozenAt k⟩
theorem OwnI.ints {w : World} {B : Nat} {a : Option Addr} {n c : Nat} {xs : List Int} (h : OwnI w B a n c xs) : IntsAt w a n xs :=
  ⟨h.len, fun i hi => by
    obtain ⟨g, rfl, _, _, hc, _⟩ := h.cell i hi
    exact ⟨g, 0, rfl, by simpa using hc⟩⟩
theorem OwnI.grown {w w' : World} {B : Nat} {a : Option Addr} {n c : Nat} {xs : List Int} (h : OwnI w B a n c xs) {row : Option Nat} (hg : w.grownBy w' row) (hne : ∀ g o, a = some ⟨g, o, none⟩ → some g ≠ row) : OwnI w' B a n c xs := by
  refine ⟨h.row.kept hg ?_⟩
  cases a with
  | none => exact .inl rfl
  | some p =>
    right
    rcases h.row.2 with ⟨he, h0⟩ | ⟨g, cap, cur, he, _⟩
    · simp at he
    · simp only [Value.slice.injEq, Option.some.injEq] at he
      obtain ⟨rfl, -, -⟩ := he
      exact hne g 0 rfl
theorem OwnI.below {w w' : World} {B : Nat} {a : Option Addr} {n c : Nat} {xs : List Int} (h : OwnI w B a n c xs) (hb : Ext w w') : OwnI w' B a n c xs :=
  h.grown (row := none) ⟨hb.os, hb.tape, hb.output, hb.size, fun k hk _ => hb.block k hk⟩ (by simp)
theorem OwnI.base {w : World} {B B' : Nat} {a : Option Addr} {n c : Nat} {xs : List Int} (h : OwnI w B a n c xs) (hB : B' ≤ B) : OwnI w B' a n c xs := by
  refine ⟨h.row.1, ?_⟩
  rcases h.row.2 with h2 | ⟨g, cap, cur, he, hB', r⟩
  · exact .inl h2
  · exact .inr ⟨g, cap, cur, he, Nat.le_trans hB hB', r⟩
theorem OwnI.nil (w : World) (B : Nat) : OwnI w B none 0 0 [] := ⟨World.ownsRow_nil w B _ _⟩
theorem OwnI.made (w : World) (B n : Nat) (hB : B ≤ w.heap.size) (hm : n ≤ maxLen) : OwnI (w.alloc (.cells (Array.replicate n (.int .i64 0)) 3)) B (some ⟨w.heap.size, 0, none⟩) n n (List.replicate n 0) := by
  refine ⟨?_⟩
  have := World.ownsRow_lit (e := 3) (size := 1) (base := B) w (Array.replicate n (.int .i64 0)) n hB hm (by simp)
  simpa [ivs, List.map_replicate] using this

/-- w' is w but for new blocks and the n cells from a on, which now hold ys -/
structure UpdI (w w' : World) (a : Option Addr) (n : Nat) (ys : List Int) : Prop where
  os : w'.os = w.os
  tape : w'.tape = w.tape
  output : w'.output = w.output
  size : w.heap.size ≤ w'.heap.size
  len : ys.length = n
  other : ∀ k, k < w.heap.size → (∀ b o, a = some ⟨b, o, none⟩ → 0 < n → k ≠ b) → w'.heap[k]? = w.heap[k]?
  self : ∀ b o, a = some ⟨b, o, none⟩ → 0 < n → ∃ cur : Array Value, ∃ E : TypeId, ∃ fr : Nat × Nat, w.heap[b]? = some (.cells cur E fr) ∧ o + n ≤ cur.size ∧
    w'.heap[b]? = some (.cells (splice cur.toList o (ivs ys)).toArray E fr)

theorem splice_self (cur : List Value) (o : Nat) (ys : List Value) (h : ∀ i, i < ys.length → cur[o + i]? = ys[i]?) (hl : o + ys.length ≤ cur.length) : splice cur o ys = cur := by
  apply List.ext_getElem?
  intro i
  simp only [splice, List.getElem?_append, List.length_take, List.getElem?_take, List.getElem?_drop]
  by_cases h1 : i < o
  · simp [show min o cur.length = o by omega, h1, show i < cur.length by omega]
  · simp only [show min o cur.length = o by omega, h1, if_false]
    by_cases h2 : i - o < ys.length
    · simp only [h2, if_true]
      rw [← h _ h2]
      congr 1
      omega
    · simp only [h2, if_false]
      congr 1
      omega

theorem UpdI.start {w : World} {a : Option Addr} {n : Nat} {xs : List Int} (h : IntsAt w a n xs) : UpdI w w a n xs := by
  refine ⟨rfl, rfl, rfl, Nat.le_refl _, h.len, fun _ _ _ => rfl, fun b o e hn => ?_⟩
  subst e
  have hc : ∀ i, i < n → w.cell? ⟨b, o + i, none⟩ = some (.int .i64 (xs.getD i 0)) := fun i hi => by
    obtain ⟨b', o', e, hc⟩ := h.get i hi
    simp only [Option.some.injEq, Addr.mk.injEq, and_true] at e
    obtain ⟨rfl, rfl⟩ := e
    exact hc
  have hl := h.len
  have h0 := hc 0 hn
  unfold World.cell? at h0
  split at h0
  · rename_i cur E fr hb0
    have hb : w.heap[b]? = some (.cells cur E fr) := hb0
    have hcell : ∀ i, i < n → cur[o + i]? = some (.int .i64 (xs.getD i 0)) := fun i hi => by
      have := hc i hi
      unfold World.cell? at this
      simpa only [hb, Option.isSome_none, Bool.false_eq_true, if_false] using this
    have hsz : o + n ≤ cur.size := by
      have := hcell (n - 1) (by omega)
      have := (Array.getElem?_eq_some_iff.1 this).1
      omega
    refine ⟨cur, E, fr, hb, hsz, ?_⟩
    have hsp : splice cur.toList o (ivs xs) = cur.toList := by
      refine splice_self cur.toList o (ivs xs) (fun i hi => ?_) (by simp [ivs_length, hl, hsz])
      rw [ivs_length] at hi
      rw [ivs_get xs i hi, ← hcell i (by omega)]
      simp
    rw [hsp]
    exact hb
  · cases h0

theorem splice_set (cur : List Value) (o : Nat) (ys : List Value) (i : Nat) (v : Value) (hi : i < ys.length) (hl : o + ys.length ≤ cur.length) : (splice cur o ys).set (o + i) v = splice cur o (ys.set i v) := by
  apply List.ext_getElem?
  intro j
  simp only [splice, List.getElem?_set, List.getElem?_append, List.length_take, List.getElem?_take, List.getElem?_drop, List.length_append, List.length_drop, List.length_set]
  by_cases h1 : o + i = j
  · subst h1
    simp only [show min o cur.length = o by omega, show ¬ (o + i < o) by omega, if_false, if_true, show o + i - o = i by omega, hi, if_true]
    rw [if_pos (by omega)]
  · simp only [h1, if_false]
    by_cases h2 : j < o
    · simp [show min o cur.length = o by omega, h2]
    · simp only [show min o cur.length = o by omega, h2, if_false, show ¬ (i = j - o) by omega]

theorem heap_setCell_at (w : World) (b i : Nat) (cs : Array Value) (E : TypeId) (fr : Nat × Nat) (v : Value) (hg : w.heap[b]? = some (.cells cs E fr)) :
    (w.setCell ⟨b, i, none⟩ v).heap[b]? = some (.cells (cs.setIfInBounds i v) E fr) := by
  simp [World.setCell, Array.getElem?_modify, hg]

theorem UpdI.store {w w' : World} {b o n : Nat} {ys : List Int} (h : UpdI w w' (some ⟨b, o, none⟩) n ys) (k : Nat) (hk : k < n) (v : Int) :
    UpdI w (w'.setCell ⟨b, o + k, none⟩ (.int .i64 v)) (some ⟨b, o, none⟩) n (ys.set k v) := by
  have hl := h.len
  refine ⟨h.os, h.tape, h.output, by simpa [World.setCell] using h.size, by simpa using hl, fun j hj hne => ?_, fun b' o' e hn => ?_⟩
  · rw [Below.heap_setCell _ _ _ _ (hne b o rfl (by omega))]
    exact h.other j hj hne
  · simp only [Option.some.injEq, Addr.mk.injEq, and_true] at e
    obtain ⟨rfl, rfl⟩ := e
    obtain ⟨cur, E, fr, h1, h2, h3⟩ := h.self b o rfl hn
    refine ⟨cur, E, fr, h1, h2, ?_⟩
    rw [heap_setCell_at w' b (o + k) _ E fr _ h3]
    congr 2
    rw [List.setIfInBounds_toArray, splice_set _ _ _ _ _ (by simpa [ivs_length, hl] using hk) (by simpa [ivs_length, hl] using h2)]
    simp [ivs, List.map_set]


theorem splice_length (cur : List Value) (o : Nat) (ys : List Value) (hl : o + ys.length ≤ cur.length) : (splice cur o ys).length = cur.length := by simp [splice]; omega
theorem splice_get (cur : List Value) (o : Nat) (ys : List Value) (k : Nat) (hk : k < ys.length) (hl : o + ys.length ≤ cur.length) : (splice cur o ys)[o + k]? = ys[k]? := by
  simp only [splice, List.getElem?_append, List.length_take]
  rw [show min o cur.length = o by omega, if_neg (by omega), show o + k - o = k by omega, if_pos hk]

theorem UpdI.cellAt {w w' : World} {b o n : Nat} {ys : List Int} (h : UpdI w w' (some ⟨b, o, none⟩) n ys) (k : Nat) (hk : k < n) :
    ∃ v, w'.cell? ⟨b, o + k, none⟩ = some v ∧ w'.frozen? ⟨b, o + k, none⟩ = w.frozen? ⟨b, o + k, none⟩ := by
  have hl := h.len
  obtain ⟨cur, E, fr, h1, h2, h3⟩ := h.self b o rfl (by omega)
  refine ⟨.int .i64 (ys.getD k 0), ?_, ?_⟩
  · simp only [World.cell?, h3, Option.isSome_none, Bool.false_eq_true, if_false, List.getElem?_toArray]
    rw [splice_get _ _ _ _ (by simpa [ivs_length, hl] using hk) (by simpa [ivs_length, hl] using h2), ivs_get ys k (by omega)]
  · simp only [World.frozen?, h1, h3]

/-- what the cells read behind the change -/
theorem UpdI.ints {w w' : World} {a : Option Addr} {n : Nat} {xs ys : List Int} (h : UpdI w w' a n ys) (h0 : IntsAt w a n xs) : IntsAt w' a n ys := by
  refine ⟨h.len, fun k hk => ?_⟩
  obtain ⟨b, o, rfl, hc⟩ := h0.get k hk
  have hl := h.len
  obtain ⟨cur, E, fr, h1, h2, h3⟩ := h.self b o rfl (by omega)
  refine ⟨b, o, rfl, ?_⟩
  simp only [World.cell?, h3, Option.isSome_none, Bool.false_eq_true, if_false, List.getElem?_toArray]
  rw [splice_get _ _ _ _ (by simpa [ivs_length, hl] using hk) (by simpa [ivs_length, hl] using h2), ivs_get ys k (by omega)]

/-- another slice, in another block -/
theorem UpdI.others {w w' : World} {a a' : Option Addr} {n n' : Nat} {xs ys : List Int} (h : UpdI w w' a n ys) (k : IntsAt w a' n' xs) (hne : ∀ b o b' o', a = some ⟨b, o, none⟩ → a' = some ⟨b', o', none⟩ → b ≠ b') : IntsAt w' a' n' xs := by
  refine ⟨k.len, fun i hi => ?_⟩
  obtain ⟨b', o', rfl, hc⟩ := k.get i hi
  refine ⟨b', o', rfl, ?_⟩
  rw [World.cell?_of_block (w := w) (h.other b' (World.block_lt_of_cell? w _ hc) fun b o e _ => (hne b o b' o' e rfl).symm)]
  exact hc

theorem UpdI.below {w0 w w' : World} {B : Nat} {a : Option Addr} {n : Nat} {ys : List Int} (h : UpdI w w' a n ys) (hb : Below B w0 w) (hB : B ≤ w.heap.size) (ha : ∀ b o, a = some ⟨b, o, none⟩ → 0 < n → B ≤ b) : Below B w0 w' :=
  hb.trans ⟨h.os, h.tape, h.output, h.size, fun k hk => h.other k (by omega) fun b o e hn => by have := ha b o e hn; omega⟩

/-- the whole of an owned slice, changed -/
theorem UpdI.own {w w' : World} {B : Nat} {a : Option Addr} {n c : Nat} {xs ys : List Int} (h : UpdI w w' a n ys) (k : OwnI w B a n c xs) : OwnI w' B a n c ys := by
  have hl := h.len
  refine ⟨by simpa [ivs_length] using hl, ?_⟩
  rcases k.row.2 with ⟨he, h0⟩ | ⟨g, cap, cur, he, hB, hg, hnc, hcm, hcs, ht⟩
  · exact .inl ⟨he, h0⟩
  · simp only [Value.slice.injEq, true_and] at he
    obtain ⟨rfl, rfl⟩ := he
    rcases Nat.eq_zero_or_pos n with h0 | h0
    · subst h0
      have hy : ys = [] := List.eq_nil_of_length_eq_zero hl
      subst hy
      refine .inr ⟨g, c, cur, rfl, hB, ?_, hnc, hcm, hcs, by simp [ivs]⟩
      rw [h.other g (Array.getElem?_eq_some_iff.1 hg).1 fun _ _ _ hn => by omega]
      exact hg
    · obtain ⟨cur', E, fr, h1, h2, h3⟩ := h.self g 0 rfl h0
      rw [hg] at h1
      simp only [Option.some.injEq, Obj.cells.injEq] at h1
      obtain ⟨rfl, rfl, rfl⟩ := h1
      refine .inr ⟨g, c, _, rfl, hB, h3, hnc, hcm, ?_, ?_⟩
      · rw [List.size_toArray, splice_length _ _ _ (by simpa [ivs_length, hl] using h2)]; simpa using hcs
      · simp [splice, Nat.mul_one, ← ivs_length ys, ← hl]

theorem OwnI.unfrozen {w : World} {B : Nat} {a : Option Addr} {n c : Nat} {xs : List Int} (h : OwnI w B a n c xs) : ∀ i b o, i < n → a = some ⟨b, o, none⟩ → w.frozen? ⟨b, o + i, none⟩ = false := by
  intro i b o hi e
  obtain ⟨g, e', _, _, _, hf⟩ := h.cell i hi
  rw [e] at e'
  simp only [Option.some.injEq, Addr.mk.injEq, and_true] at e'
  obtain ⟨rfl, rfl⟩ := e'
  simpa using hf
theorem OwnI.at_base {w : World} {B : Nat} {a : Option Addr} {n c : Nat} {xs : List Int} (h : OwnI w B a n c xs) : ∀ b o, a = some ⟨b, o, none⟩ → B ≤ b ∧ b < w.heap.size := by
  intro b o e
  rcases h.row.2 with ⟨he, h0⟩ | ⟨g, cap, cur, he, hB, hg, _⟩
  · simp [e] at he
  · simp only [Value.slice.injEq] at he
    rw [e] at he
    simp only [Option.some.injEq, Addr.mk.injEq, and_true] at he
    obtain ⟨⟨rfl, _⟩, _⟩ := he
    exact ⟨hB, (Array.getElem?_eq_some_iff.1 hg).1⟩


/-- new blocks behind a change, and ahead of one -/
theorem UpdI.ext {w w' w'' : World} {a : Option Addr} {n : Nat} {ys : List Int} (h : UpdI w w' a n ys) (k : Ext w' w'') : UpdI w w'' a n ys := by
  refine ⟨k.os.trans h.os, k.tape.trans h.tape, k.output.trans h.output, Nat.le_trans h.size k.size, h.len, fun j hj hne => ?_, fun b o e hn => ?_⟩
  · rw [k.block j (Nat.lt_of_lt_of_le hj h.size)]
    exact h.other j hj hne
  · obtain ⟨cur, E, fr, h1, h2, h3⟩ := h.self b o e hn
    refine ⟨cur, E, fr, h1, h2, ?_⟩
    rw [k.block b (Array.getElem?_eq_some_iff.1 h3).1]
    exact h3
theorem Ext.drew (w : World) : Ext w w.drew := ⟨rfl, rfl, rfl, Nat.le_refl _, fun _ _ => rfl⟩
theorem UpdI.drew {w w' : World} {a : Option Addr} {n : Nat} {ys : List Int} (h : UpdI w w' a n ys) : UpdI w w'.drew a n ys := h.ext (Ext.drew w')
theorem UpdI.drewN {w w' : World} {a : Option Addr} {n : Nat} {ys : List Int} (h : UpdI w w' a n ys) (k : Nat) : UpdI w (w'.drewN k) a n ys := h.ext (Ext.drewN w' k)
theorem Ext.upd {w0 w w' : World} {a : Option Addr} {n : Nat} {xs ys : List Int} (k : Ext w0 w) (h0 : IntsAt w0 a n xs) (h : UpdI w w' a n ys) : UpdI w0 w' a n ys := by
  refine ⟨h.os.trans k.os, h.tape.trans k.tape, h.output.trans k.output, Nat.le_trans k.size h.size, h.len, fun j hj hne => ?_, fun b o e hn => ?_⟩
  · rw [h.other j (Nat.lt_of_lt_of_le hj k.size) hne, k.block j hj]
  · obtain ⟨cur, E, fr, h1, h2, h3⟩ := h.self b o e hn
    refine ⟨cur, E, fr, ?_, h2, h3⟩
    subst e
    rw [← h1, k.block b (h0.block_lt hn)]


theorem splice_splice (cur : List Value) (o : Nat) (ys zs : List Value) (hl : ys.length = zs.length) (hc : o + ys.length ≤ cur.length) : splice (splice cur o ys) o zs = splice cur o zs := by
  have ht : (cur.take o).length = o := by simp; omega
  have h1 : (splice cur o ys).take o = cur.take o := by
    unfold splice
    exact List.take_left' ht
  have h2 : (splice cur o ys).drop (o + zs.length) = cur.drop (o + zs.length) := by
    unfold splice
    rw [← List.append_assoc, ← hl]
    exact List.drop_left' (by simp; omega)
  show (splice cur o ys).take o ++ (zs ++ (splice cur o ys).drop (o + zs.length)) = cur.take o ++ (zs ++ cur.drop (o + zs.length))
  rw [h1, h2]

theorem UpdI.trans {w w' w'' : World} {a : Option Addr} {n : Nat} {ys zs : List Int} (h : UpdI w w' a n ys) (k : UpdI w' w'' a n zs) : UpdI w w'' a n zs := by
  refine ⟨k.os.trans h.os, k.tape.trans h.tape, k.output.trans h.output, Nat.le_trans h.size k.size, k.len, fun j hj hne => ?_, fun b o e hn => ?_⟩
  · rw [k.other j (Nat.lt_of_lt_of_le hj h.size) hne]
    exact h.other j hj hne
  · obtain ⟨cur, E, fr, h1, h2, h3⟩ := h.self b o e hn
    obtain ⟨cur', E', fr', k1, k2, k3⟩ := k.self b o e hn
    rw [h3] at k1
    simp only [Option.some.injEq, Obj.cells.injEq] at k1
    obtain ⟨rfl, rfl, rfl⟩ := k1
    refine ⟨cur, E, fr, h1, h2, ?_⟩
    rw [k3, splice_splice _ _ _ _ (by simp [ivs_length, h.len, k.len]) (by simpa [ivs_length, h.len] using h2)]


/-- a store into a block below what is owned -/
theorem OwnI.setBelow {w : World} {B : Nat} {a : Option Addr} {n c : Nat} {xs : List Int} (h : OwnI w B a n c xs) (b i : Nat) (hb : b < B) (v : Value) : OwnI (w.setCell ⟨b, i, none⟩ v) B a n c xs :=
  h.grown (row := some b) ⟨rfl, rfl, rfl, by simp [World.setCell], fun k _ hk => Below.heap_setCell _ _ _ _ (fun e => hk (by rw [e]))⟩ (fun g o e => by have := (h.at_base g o e).1; simp; omega)


def addrBlock : Option Addr → Option Nat
  | some ⟨b, _, none⟩ => some b
  | _ => none
theorem addrBlock_some {a : Option Addr} {b : Nat} (h : addrBlock a = some b) : ∃ o, a = some ⟨b, o, none⟩ := by
  unfold addrBlock at h
  split at h
  · simp only [Option.some.injEq] at h
    subst h
    exact ⟨_, rfl⟩
  · cases h
theorem UpdI.grownBy {w w' : World} {a : Option Addr} {n : Nat} {ys : List Int} (h : UpdI w w' a n ys) : w.grownBy w' (addrBlock a) :=
  ⟨h.os, h.tape, h.output, h.size, fun j hj hr => h.other j hj fun b o e _ he => hr (by rw [e, he]; rfl)⟩
/-- another owned slice, in another block -/
theorem OwnI.others {w w' : World} {B : Nat} {a a' : Option Addr} {n n' c' : Nat} {xs ys : List Int} (k : OwnI w B a' n' c' xs) (h : UpdI w w' a n ys) (hne : ∀ b o b' o', a = some ⟨b, o, none⟩ → a' = some ⟨b', o', none⟩ → b ≠ b') : OwnI w' B a' n' c' xs := by
  refine k.grown h.grownBy fun g o e => ?_
  cases hb : addrBlock a with
  | none => simp
  | some b =>
    obtain ⟨o', e'⟩ := addrBlock_some hb
    have := hne b o' g o e' e
    simp only [ne_eq, Option.some.injEq]
    omega


theorem UpdI.cellInt {w w' : World} {b o n : Nat} {ys : List Int} (h : UpdI w w' (some ⟨b, o, none⟩) n ys) (k : Nat) (hk : k < n) :
    w'.cell? ⟨b, o + k, none⟩ = some (.int .i64 (ys.getD k 0)) ∧ w'.frozen? ⟨b, o + k, none⟩ = w.frozen? ⟨b, o + k, none⟩ := by
  have hl := h.len
  obtain ⟨cur, E, fr, h1, h2, h3⟩ := h.self b o rfl (by omega)
  refine ⟨?_, ?_⟩
  · simp only [World.cell?, h3, Option.isSome_none, Bool.false_eq_true, if_false, List.getElem?_toArray]
    rw [splice_get _ _ _ _ (by simpa [ivs_length, hl] using hk) (by simpa [ivs_length, hl] using h2), ivs_get ys k (by omega)]
  · simp only [World.frozen?, h1, h3]

theorem cell_top (w : World) (cs : Array Value) (E : TypeId) (b i : Nat) (hb : b = w.heap.size) : (w.alloc (.cells cs E)).cell? ⟨b, i, none⟩ = cs[i]? := by
  subst hb
  simp only [World.cell?, heap_alloc_new, Option.isSome_none, Bool.false_eq_true, if_false]
theorem ints_alloc (w : World) (xs : List Int) (E : TypeId) : IntsAt (w.alloc (.cells (ivs xs).toArray E)) (some ⟨w.heap.size, 0, none⟩) xs.length xs := by
  refine ⟨rfl, fun i hi => ⟨w.heap.size, 0, rfl, ?_⟩⟩
  rw [cell_top _ _ _ _ _ rfl, Nat.zero_add, List.getElem?_toArray, ivs_get xs i hi]

theorem ints_allocAt (w : World) (xs : List Int) (E : TypeId) (b : Nat) (hb : b = w.heap.size) : IntsAt (w.alloc (.cells (ivs xs).toArray E)) (some ⟨b, 0, none⟩) xs.length xs := by
  rw [hb]
  exact ints_alloc w xs E

theorem Ext.setNew {w0 w : World} (h : Ext w0 w) (b i : Nat) (hb : w0.heap.size ≤ b) (v : Value) : Ext w0 (w.setCell ⟨b, i, none⟩ v) := Below.setCell (p := ⟨b, i, none⟩) h hb v
theorem frozen_top (w : World) (cs : Array Value) (E : TypeId) (b i : Nat) (hb : b = w.heap.size) : (w.alloc (.cells cs E)).frozen? ⟨b, i, none⟩ = false := by
  subst hb
  simp only [World.frozen?, heap_alloc_new]
  simp

/-- slices of slices of integers, read -/
structure RowsAt (w : World) (a : Option Addr) (n : Nat) (rows : List (List Int)) : Prop where
  len : rows.length = n
  get : ∀ i, i < n → ∃ b o a' c', a = some ⟨b, o, none⟩ ∧ w.cell? ⟨b, o + i, none⟩ = some (.slice a' (rows.getD i []).length c') ∧ IntsAt w a' (rows.getD i []).length (rows.getD i [])

theorem RowsAt.below {w w' : World} {a : Option Addr} {n : Nat} {rows : List (List Int)} (h : RowsAt w a n rows) (hb : Ext w w') : RowsAt w' a n rows := by
  refine ⟨h.len, fun i hi => ?_⟩
  obtain ⟨b, o, a', c', rfl, hc, hr⟩ := h.get i hi
  exact ⟨b, o, a', c', rfl, (hb.cell (p := ⟨b, o + i, none⟩) (World.block_lt_of_cell? w _ hc)).trans hc, hr.below hb⟩
/-- the cells of a new block, later -/
theorem new_cell {w w' : World} {cs : Array Value} {E : TypeId} {b : Nat} (hb : b = w.heap.size) (hx : Ext (w.alloc (.cells cs E)) w') (j : Nat) :
    w'.cell? ⟨b, j, none⟩ = cs[j]? ∧ w'.frozen? ⟨b, j, none⟩ = false := by
  subst hb
  have hl : w.heap.size < (w.alloc (.cells cs E)).heap.size := by simp
  exact ⟨(hx.cell (p := ⟨w.heap.size, j, none⟩) hl).trans (cell_top _ _ _ _ _ rfl), (hx.frozen (p := ⟨w.heap.size, j, none⟩) hl).trans (frozen_top _ _ _ _ _ rfl)⟩
end Go.Proofs.YtnfbfdamlnjblaaGreatDoor
