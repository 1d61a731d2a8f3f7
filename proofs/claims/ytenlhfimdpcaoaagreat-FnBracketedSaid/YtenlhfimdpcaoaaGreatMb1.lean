/-
  Spaces of rows modulo a prime, plain: the reduced form and its pivots; a smaller space has fewer reduced rows. No program in sight.
  Spaces of rows modulo a prime, plain: reduced rows span the same; a smaller space has fewer of them. No program in sight.
  Powers modulo a prime: the little law of Fermat; the inverse as a power. No program in sight.
  Square matrices modulo p as lists of residues: products, their law of association, sums. No program in sight.
  Rows brought into reduced form, as plain lists: no program in sight.
  Inverses of residues: the program's inverse, by Euclid's steps.
  What a valid algebra is, as the program asks it.
  The type lie: newLie, pair, right.
  The program's algebras by tables: residues, isZero, addTo, the type lie with pair and right.
  Algebras as values: the law's own functions on them, and AbelianAlgebra of both packages.
  Regions that draw their order: a walk in one order serves all orders. The operations that only read are taken first, in every world of a class; the others follow one by one, each of them the only one that may come up; a tail of operations that wait for all others is free to leave the class.
  append on an owned slice of integers; the library's Clone.
  The library's functions on slices of integers: IndexFunc, ContainsFunc, Clone.
  Lists of residues as functions of the place: sums, multiples, tables. No program in sight.
  The small functions on integers: inside, mod, IsPrime of both packages.
  The law's own small functions on slices of integers: eqIntS, markIntS, heldIntS, toIntS, szIntS.
  Integers in memory: slices that are read, slices that a call owns, what a store or a call leaves.
  General lemmas, no program in sight: hidden facts, integer remainders, primes.
-/
import Derived.Test.YtenlhfimdpcaoaaGreatRows
import Derived.WalkKit
import Derived.WalkSpells
import Derived.WalkLawsBesides
import Derived.Laws.CopyOwn
import Derived.Deep.QuietTactic
import Derived.BigQuiet
import Derived.Laws.AppendOwnNone
import Derived.OrdersHeld
import Derived.StillTail
namespace Go.Proofs.YtenlhfimdpcaoaaGreat
open Go.RowKit

theorem hidP {p : Prop} (h : p) : Hid p := h

theorem ret_bool {a b : Bool} (h : a = b) : Ending.returned (.bool a) = .returned (.bool b) := by rw [h]
theorem ret_int {a b : Int} (h : a = b) : Ending.returned (.int .i64 a) = .returned (.int .i64 b) := by rw [h]

/-- n between lo and hi -/
def insB (n lo hi : Int) : Bool := decide (lo ≤ n ∧ n ≤ hi)
theorem insB_true {n lo hi : Int} : insB n lo hi = true ↔ lo ≤ n ∧ n ≤ hi := by simp [insB]
theorem insB_false {n lo hi : Int} : insB n lo hi = false ↔ ¬ (lo ≤ n ∧ n ≤ hi) := by
  rw [Bool.eq_false_iff, ne_eq, insB_true]

def PrimeP (n : Int) : Prop := 2 ≤ n ∧ n ≤ 10007 ∧ ∀ d : Nat, d < 101 → 2 ≤ d → (d : Int) * d ≤ n → n % d ≠ 0
instance (n : Int) : Decidable (PrimeP n) := by unfold PrimeP; infer_instance
def primeB (n : Int) : Bool := decide (PrimeP n)
theorem primeB_true {n : Int} : primeB n = true ↔ PrimeP n := by simp [primeB]
theorem primeB_false {n : Int} : primeB n = false ↔ ¬ PrimeP n := by simp [primeB]
theorem prime_bounds {n : Int} (h : primeB n = true) : 2 ≤ n ∧ n ≤ 10007 := ⟨(primeB_true.1 h).1, (primeB_true.1 h).2.1⟩

theorem tmod_pos_bounds (n p : Int) (hp : 0 < p) : -p < n.tmod p ∧ n.tmod p < p := by
  rcases Int.le_total 0 n with h | h
  · have h1 := Int.emod_nonneg n (Int.ne_of_gt hp); have h2 := Int.emod_lt_of_pos n hp
    rw [Int.tmod_eq_emod_of_nonneg h]; omega
  · have h1 := Int.emod_nonneg (-n) (Int.ne_of_gt hp); have h2 := Int.emod_lt_of_pos (-n) hp
    have e : n.tmod p = - ((-n) % p) := by rw [← Int.tmod_eq_emod_of_nonneg (by omega), Int.neg_tmod, Int.neg_neg]
    rw [e]; omega
theorem emod_of_tmod_nonneg (n p : Int) (h : 0 ≤ n.tmod p) (hp : 0 < p) : n.tmod p = n % p := by
  have h2 := tmod_pos_bounds n p hp
  have h3 := Int.mul_tdiv_add_tmod n p
  have : n % p = n.tmod p := by
    conv => lhs; rw [← h3, Int.add_comm, Int.add_mul_emod_self_left]
    exact Int.emod_eq_of_lt h h2.2
  exact this.symm
theorem emod_of_tmod_neg (n p : Int) (h : n.tmod p < 0) (hp : 0 < p) : n.tmod p + p = n % p := by
  have h2 := tmod_pos_bounds n p hp
  have h3 := Int.mul_tdiv_add_tmod n p
  have : n % p = n.tmod p + p := by
    conv => lhs; rw [← h3, Int.add_comm, Int.add_mul_emod_self_left]
    rw [← Int.add_emod_right]
    exact Int.emod_eq_of_lt (by omega) (by omega)
  exact this.symm

theorem wrap_in {n : Int} (h0 : -9223372036854775808 ≤ n) (h1 : n ≤ 9223372036854775807) : IntKind.i64.wrap n = n := IntWalk.i64_in n ⟨h0, h1⟩

/-- places in a table of d rows of d rows of d numbers -/
theorem idx2_facts {d i j : Int} (hi0 : 0 ≤ i) (hi1 : i < d) (_hj0 : 0 ≤ j) (hj1 : j < d) : 0 ≤ i * d ∧ i * d + j < d * d ∧ i * d ≤ d * d := by
  have h1 : (i + 1) * d ≤ d * d := Int.mul_le_mul_of_nonneg_right (by omega) (by omega)
  have h2 : 0 ≤ i * d := Int.mul_nonneg hi0 (by omega)
  rw [Int.add_mul, Int.one_mul] at h1
  omega
theorem idx_facts {d i j k : Int} (hd : d ≤ 28) (hi0 : 0 ≤ i) (hi1 : i < d) (hj0 : 0 ≤ j) (hj1 : j < d) (_hk0 : 0 ≤ k) (hk1 : k < d) :
    0 ≤ i * d ∧ i * d ≤ 784 ∧ 0 ≤ (i * d + j) * d ∧ (i * d + j) * d ≤ 21952 ∧ (i * d + j) * d + k < d * d * d := by
  obtain ⟨h1, h2, h3⟩ := idx2_facts hi0 hi1 hj0 hj1
  have h4 : d * d ≤ 28 * 28 := Int.mul_le_mul hd hd (by omega) (by omega)
  have h5 : (i * d + j + 1) * d ≤ d * d * d := Int.mul_le_mul_of_nonneg_right (by omega) (by omega)
  have h6 : 0 ≤ (i * d + j) * d := Int.mul_nonneg (by omega) (by omega)
  have h7 : d * d * d ≤ 28 * 28 * 28 := Int.mul_le_mul h4 hd (by omega) (by omega)
  rw [Int.add_mul, Int.one_mul] at h5
  refine ⟨h1, by omega, h6, by omega, by omega⟩
theorem cube_le {d : Int} (h0 : 0 ≤ d) (h : d ≤ 28) : 0 ≤ d * d ∧ d * d ≤ 784 ∧ 0 ≤ d * d * d ∧ d * d * d ≤ 21952 := by
  have h4 : d * d ≤ 28 * 28 := Int.mul_le_mul h h (by omega) (by omega)
  have h3 : 0 ≤ d * d := Int.mul_nonneg h0 h0
  have h7 : d * d * d ≤ 28 * 28 * 28 := Int.mul_le_mul h4 h (by omega) (by omega)
  exact ⟨h3, by omega, Int.mul_nonneg h3 h0, by omega⟩

end Go.Proofs.YtenlhfimdpcaoaaGreat

namespace Go.Proofs.YtenlhfimdpcaoaaGreat
open Go.RowKit

def ivs (xs : List Int) : List Value := xs.map (Value.int .i64)
theorem ivs_length (xs : List Int) : (ivs xs).length = xs.length := by simp [ivs]
theorem ivs_get (xs : List Int) (i : Nat) (h : i < xs.length) : (ivs xs)[i]? = some (.int .i64 (xs.getD i 0)) := by
  simp [ivs, h]
theorem ivs_get_inv {xs : List Int} {i : Nat} {v : Value} (h : (ivs xs)[i]? = some v) : i < xs.length ∧ v = .int .i64 (xs.getD i 0) := by
  simp only [ivs, List.getElem?_map, Option.map_eq_some_iff] at h
  obtain ⟨x, hx, rfl⟩ := h
  obtain ⟨h1, h2⟩ := List.getElem?_eq_some_iff.1 hx
  exact ⟨h1, by simp [h2, h1]⟩
theorem ivs_one (xs : List Int) : ∀ u ∈ ivs xs, u.oneCell' = true := by
  intro u hu
  simp only [ivs, List.mem_map] at hu
  obtain ⟨x, _, rfl⟩ := hu
  rfl

theorem ints_ext {xs ys : List Int} (hl : xs.length = ys.length) (h : ∀ j, j < xs.length → xs.getD j 0 = ys.getD j 0) : xs = ys := by
  apply List.ext_getElem hl
  intro i h1 h2
  have := h i h1
  simpa [List.getD_eq_getElem?_getD, List.getElem?_eq_getElem h1, List.getElem?_eq_getElem h2] using this

/-- 'w' is w but for new blocks -/
abbrev Ext (w w' : World) : Prop := Below w.heap.size w w'
theorem Ext.refl (w : World) : Ext w w := Below.refl _ _
theorem Ext.trans {a b c : World} (h : Ext a b) (k : Ext b c) : Ext a c := Below.trans h (k.mono h.size)
theorem Ext.drewN (w : World) (n : Nat) : Ext w (w.drewN n) := ⟨rfl, rfl, rfl, Nat.le_refl _, fun _ _ => rfl⟩
theorem Ext.alloc (w : World) (o : Obj) : Ext w (w.alloc o) := (Below.refl _ _).alloc (Nat.le_refl _) o
/-- the slice value at address a (n elements) reads as the integers xs -/
structure IntsAt (w : World) (a : Option Addr) (n : Nat) (xs : List Int) : Prop where
  len : xs.length = n
  get : ∀ i, i < n → ∃ b o, a = some ⟨b, o, none⟩ ∧ w.cell? ⟨b, o + i, none⟩ = some (.int .i64 (xs.getD i 0))

theorem IntsAt.block_lt {w : World} {b o n : Nat} {xs : List Int} (h : IntsAt w (some ⟨b, o, none⟩) n xs) (hn : 0 < n) : b < w.heap.size := by
  obtain ⟨b', o', e, hc⟩ := h.get 0 hn
  simp only [Option.some.injEq, Addr.mk.injEq, and_true] at e
  obtain ⟨rfl, rfl⟩ := e
  exact World.block_lt_of_cell? w _ hc
theorem IntsAt.atc {w : World} {b o n : Nat} {xs : List Int} (h : IntsAt w (some ⟨b, o, none⟩) n xs) (i : Nat) (hi : i < n) : w.cell? ⟨b, o + i, none⟩ = some (.int .i64 (xs.getD i 0)) := by
  obtain ⟨b', o', e, hc⟩ := h.get i hi
  simp only [Option.some.injEq, Addr.mk.injEq, and_true] at e
  obtain ⟨rfl, rfl⟩ := e
  exact hc
theorem IntsAt.below {w w' : World} {a : Option Addr} {n : Nat} {xs : List Int} (h : IntsAt w a n xs) (hb : Ext w w') : IntsAt w' a n xs := by
  refine ⟨h.len, fun i hi => ?_⟩
  obtain ⟨b, o, rfl, hc⟩ := h.get i hi
  exact ⟨b, o, rfl, (hb.cell (p := ⟨b, o + i, none⟩) (World.block_lt_of_cell? w _ hc)).trans hc⟩
/-- a part of a slice -/
theorem IntsAt.part {w : World} {b o n : Nat} {xs : List Int} (h : IntsAt w (some ⟨b, o, none⟩) n xs) (i m : Nat) (hm : i + m ≤ n) : IntsAt w (some ⟨b, o + i, none⟩) m ((xs.drop i).take m) := by
  have hl := h.len
  refine ⟨by simp; omega, fun j hj => ⟨b, o + i, rfl, ?_⟩⟩
  obtain ⟨b', o', e, hc⟩ := h.get (i + j) (by omega)
  simp only [Option.some.injEq, Addr.mk.injEq, and_true] at e
  obtain ⟨rfl, rfl⟩ := e
  rw [Nat.add_assoc, hc]
  simp [List.getD_eq_getElem?_getD, hj]

/-- an owned slice of integers: it is nil, or begins at the head of a block from B on that nothing else looks into -/
structure OwnI (w : World) (B : Nat) (a : Option Addr) (n c : Nat) (xs : List Int) : Prop where
  row : w.ownsRow B 3 1 (.slice a n c) n (ivs xs)

theorem OwnI.len {w : World} {B : Nat} {a : Option Addr} {n c : Nat} {xs : List Int} (h : OwnI w B a n c xs) : xs.length = n := by
  have := h.row.1
  simpa [ivs_length] using this
theorem OwnI.cell {w : World} {B : Nat} {a : Option Addr} {n c : Nat} {xs : List Int} (h : OwnI w B a n c xs) (k : Nat) (hk : k < n) :
    ∃ g, a = some ⟨g, 0, none⟩ ∧ B ≤ g ∧ g < w.heap.size ∧ w.cell? ⟨g, k, none⟩ = some (.int .i64 (xs.getD k 0)) ∧ w.frozen? ⟨g, k, none⟩ = false := by
  have hl := h.len
  rcases h.row.2 with ⟨he, h0⟩ | ⟨g, cap, cur, he, hB, hg, hnc, hcm, hcs, ht⟩
  · omega
  · simp only [Value.slice.injEq] at he
    obtain ⟨rfl, -, rfl⟩ := he
    have h2 := h.row
    have h3 := h2.cellAt k (by omega)
    rw [ivs_get xs k (by omega)] at h3
    exact ⟨g, rfl, hB, (h2.lt g rfl).2, h3, h2.frozenAt k⟩
theorem OwnI.ints {w : World} {B : Nat} {a : Option Addr} {n c : Nat} {xs : List Int} (h : OwnI w B a n c xs) : IntsAt w a n xs :=
  ⟨h.len, fun i hi => by
    obtain ⟨g, rfl, _, _, hc, _⟩ := h.cell i hi
    exact ⟨g, 0, rfl, by simpa using hc⟩⟩
theorem OwnI.grown {w w' : World} {B : Nat} {a : Option Addr} {n c : Nat} {xs : List Int} (h : OwnI w B a n c xs) {row : Option Nat} (hg : w.grownBy w' row) (hne : ∀ g o, a = some ⟨g, o, none⟩ → some g ≠ row) : OwnI w' B a n c xs := by
  refine ⟨h.row.kept hg ?_⟩
  cases a with
  | none => exact .inl rfl
  | some p =>
    right
    rcases h.row.2 with ⟨he, h0⟩ | ⟨g, cap, cur, he, _⟩
    · simp at he
    · simp only [Value.slice.injEq, Option.some.injEq] at he
      obtain ⟨rfl, -, -⟩ := he
      exact hne g 0 rfl
theorem OwnI.below {w w' : World} {B : Nat} {a : Option Addr} {n c : Nat} {xs : List Int} (h : OwnI w B a n c xs) (hb : Ext w w') : OwnI w' B a n c xs :=
  h.grown (row := none) ⟨hb.os, hb.tape, hb.output, hb.size, fun k hk _ => hb.block k hk⟩ (by simp)
theorem OwnI.base {w : World} {B B' : Nat} {a : Option Addr} {n c : Nat} {xs : List Int} (h : OwnI w B a n c xs) (hB : B' ≤ B) : OwnI w B' a n c xs := by
  refine ⟨h.row.1, ?_⟩
  rcases h.row.2 with h2 | ⟨g, cap, cur, he, hB', r⟩
  · exact .inl h2
  · exact .inr ⟨g, cap, cur, he, Nat.le_trans hB hB', r⟩
theorem OwnI.nil (w : World) (B : Nat) : OwnI w B none 0 0 [] := ⟨World.ownsRow_nil w B _ _⟩
theorem OwnI.made (w : World) (B n : Nat) (hB : B ≤ w.heap.size) (hm : n ≤ maxLen) : OwnI (w.alloc (.cells (Array.replicate n (.int .i64 0)) 3)) B (some ⟨w.heap.size, 0, none⟩) n n (List.replicate n 0) := by
  refine ⟨?_⟩
  have := World.ownsRow_lit (e := 3) (size := 1) (base := B) w (Array.replicate n (.int .i64 0)) n hB hm (by simp)
  simpa [ivs, List.map_replicate] using this

/-- w' is w but for new blocks and the n cells from a on, which now hold ys -/
structure UpdI (w w' : World) (a : Option Addr) (n : Nat) (ys : List Int) : Prop where
  os : w'.os = w.os
  tape : w'.tape = w.tape
  output : w'.output = w.output
  size : w.heap.size ≤ w'.heap.size
  len : ys.length = n
  other : ∀ k, k < w.heap.size → (∀ b o, a = some ⟨b, o, none⟩ → 0 < n → k ≠ b) → w'.heap[k]? = w.heap[k]?
  self : ∀ b o, a = some ⟨b, o, none⟩ → 0 < n → ∃ cur : Array Value, ∃ E : TypeId, ∃ fr : Nat × Nat, w.heap[b]? = some (.cells cur E fr) ∧ o + n ≤ cur.size ∧
    w'.heap[b]? = some (.cells (splice cur.toList o (ivs ys)).toArray E fr)

theorem splice_self (cur : List Value) (o : Nat) (ys : List Value) (h : ∀ i, i < ys.length → cur[o + i]? = ys[i]?) (hl : o + ys.length ≤ cur.length) : splice cur o ys = cur := by
  apply List.ext_getElem?
  intro i
  simp only [splice, List.getElem?_append, List.length_take, List.getElem?_take, List.getElem?_drop]
  by_cases h1 : i < o
  · simp [show min o cur.length = o by omega, h1, show i < cur.length by omega]
  · simp only [show min o cur.length = o by omega, h1, if_false]
    by_cases h2 : i - o < ys.length
    · simp only [h2, if_true]
      rw [← h _ h2]
      congr 1
      omega
    · simp only [h2, if_false]
      congr 1
      omega

theorem UpdI.start {w : World} {a : Option Addr} {n : Nat} {xs : List Int} (h : IntsAt w a n xs) : UpdI w w a n xs := by
  refine ⟨rfl, rfl, rfl, Nat.le_refl _, h.len, fun _ _ _ => rfl, fun b o e hn => ?_⟩
  subst e
  have hc : ∀ i, i < n → w.cell? ⟨b, o + i, none⟩ = some (.int .i64 (xs.getD i 0)) := fun i hi => by
    obtain ⟨b', o', e, hc⟩ := h.get i hi
    simp only [Option.some.injEq, Addr.mk.injEq, and_true] at e
    obtain ⟨rfl, rfl⟩ := e
    exact hc
  have hl := h.len
  have h0 := hc 0 hn
  unfold World.cell? at h0
  split at h0
  · rename_i cur E fr hb0
    have hb : w.heap[b]? = some (.cells cur E fr) := hb0
    have hcell : ∀ i, i < n → cur[o + i]? = some (.int .i64 (xs.getD i 0)) := fun i hi => by
      have := hc i hi
      unfold World.cell? at this
      simpa only [hb, Option.isSome_none, Bool.false_eq_true, if_false] using this
    have hsz : o + n ≤ cur.size := by
      have := hcell (n - 1) (by omega)
      have := (Array.getElem?_eq_some_iff.1 this).1
      omega
    refine ⟨cur, E, fr, hb, hsz, ?_⟩
    have hsp : splice cur.toList o (ivs xs) = cur.toList := by
      refine splice_self cur.toList o (ivs xs) (fun i hi => ?_) (by simp [ivs_length, hl, hsz])
      rw [ivs_length] at hi
      rw [ivs_get xs i hi, ← hcell i (by omega)]
      simp
    rw [hsp]
    exact hb
  · cases h0

theorem splice_set (cur : List Value) (o : Nat) (ys : List Value) (i : Nat) (v : Value) (hi : i < ys.length) (hl : o + ys.length ≤ cur.length) : (splice cur o ys).set (o + i) v = splice cur o (ys.set i v) := by
  apply List.ext_getElem?
  intro j
  simp only [splice, List.getElem?_set, List.getElem?_append, List.length_take, List.getElem?_take, List.getElem?_drop, List.length_append, List.length_drop, List.length_set]
  by_cases h1 : o + i = j
  · subst h1
    simp only [show min o cur.length = o by omega, show ¬ (o + i < o) by omega, if_false, if_true, show o + i - o = i by omega, hi, if_true]
    rw [if_pos (by omega)]
  · simp only [h1, if_false]
    by_cases h2 : j < o
    · simp [show min o cur.length = o by omega, h2]
    · simp only [show min o cur.length = o by omega, h2, if_false, show ¬ (i = j - o) by omega]

theorem heap_setCell_at (w : World) (b i : Nat) (cs : Array Value) (E : TypeId) (fr : Nat × Nat) (v : Value) (hg : w.heap[b]? = some (.cells cs E fr)) :
    (w.setCell ⟨b, i, none⟩ v).heap[b]? = some (.cells (cs.setIfInBounds i v) E fr) := by
  simp [World.setCell, Array.getElem?_modify, hg]

theorem UpdI.store {w w' : World} {b o n : Nat} {ys : List Int} (h : UpdI w w' (some ⟨b, o, none⟩) n ys) (k : Nat) (hk : k < n) (v : Int) :
    UpdI w (w'.setCell ⟨b, o + k, none⟩ (.int .i64 v)) (some ⟨b, o, none⟩) n (ys.set k v) := by
  have hl := h.len
  refine ⟨h.os, h.tape, h.output, by simpa [World.setCell] using h.size, by simpa using hl, fun j hj hne => ?_, fun b' o' e hn => ?_⟩
  · rw [Below.heap_setCell _ _ _ _ (hne b o rfl (by omega))]
    exact h.other j hj hne
  · simp only [Option.some.injEq, Addr.mk.injEq, and_true] at e
    obtain ⟨rfl, rfl⟩ := e
    obtain ⟨cur, E, fr, h1, h2, h3⟩ := h.self b o rfl hn
    refine ⟨cur, E, fr, h1, h2, ?_⟩
    rw [heap_setCell_at w' b (o + k) _ E fr _ h3]
    congr 2
    rw [List.setIfInBounds_toArray, splice_set _ _ _ _ _ (by simpa [ivs_length, hl] using hk) (by simpa [ivs_length, hl] using h2)]
    simp [ivs, List.map_set]

theorem splice_length (cur : List Value) (o : Nat) (ys : List Value) (hl : o + ys.length ≤ cur.length) : (splice cur o ys).length = cur.length := by simp [splice]; omega
theorem splice_get (cur : List Value) (o : Nat) (ys : List Value) (k : Nat) (hk : k < ys.length) (hl : o + ys.length ≤ cur.length) : (splice cur o ys)[o + k]? = ys[k]? := by
  simp only [splice, List.getElem?_append, List.length_take]
  rw [show min o cur.length = o by omega, if_neg (by omega), show o + k - o = k by omega, if_pos hk]

theorem UpdI.cellAt {w w' : World} {b o n : Nat} {ys : List Int} (h : UpdI w w' (some ⟨b, o, none⟩) n ys) (k : Nat) (hk : k < n) :
    ∃ v, w'.cell? ⟨b, o + k, none⟩ = some v ∧ w'.frozen? ⟨b, o + k, none⟩ = w.frozen? ⟨b, o + k, none⟩ := by
  have hl := h.len
  obtain ⟨cur, E, fr, h1, h2, h3⟩ := h.self b o rfl (by omega)
  refine ⟨.int .i64 (ys.getD k 0), ?_, ?_⟩
  · simp only [World.cell?, h3, Option.isSome_none, Bool.false_eq_true, if_false, List.getElem?_toArray]
    rw [splice_get _ _ _ _ (by simpa [ivs_length, hl] using hk) (by simpa [ivs_length, hl] using h2), ivs_get ys k (by omega)]
  · simp only [World.frozen?, h1, h3]

/-- another slice, in another block -/
theorem UpdI.others {w w' : World} {a a' : Option Addr} {n n' : Nat} {xs ys : List Int} (h : UpdI w w' a n ys) (k : IntsAt w a' n' xs) (hne : ∀ b o b' o', a = some ⟨b, o, none⟩ → a' = some ⟨b', o', none⟩ → b ≠ b') : IntsAt w' a' n' xs := by
  refine ⟨k.len, fun i hi => ?_⟩
  obtain ⟨b', o', rfl, hc⟩ := k.get i hi
  refine ⟨b', o', rfl, ?_⟩
  rw [World.cell?_of_block (w := w) (h.other b' (World.block_lt_of_cell? w _ hc) fun b o e _ => (hne b o b' o' e rfl).symm)]
  exact hc

theorem UpdI.below {w0 w w' : World} {B : Nat} {a : Option Addr} {n : Nat} {ys : List Int} (h : UpdI w w' a n ys) (hb : Below B w0 w) (hB : B ≤ w.heap.size) (ha : ∀ b o, a = some ⟨b, o, none⟩ → 0 < n → B ≤ b) : Below B w0 w' :=
  hb.trans ⟨h.os, h.tape, h.output, h.size, fun k hk => h.other k (by omega) fun b o e hn => by have := ha b o e hn; omega⟩

/-- the whole of an owned slice, changed -/
theorem UpdI.own {w w' : World} {B : Nat} {a : Option Addr} {n c : Nat} {xs ys : List Int} (h : UpdI w w' a n ys) (k : OwnI w B a n c xs) : OwnI w' B a n c ys := by
  have hl := h.len
  refine ⟨by simpa [ivs_length] using hl, ?_⟩
  rcases k.row.2 with ⟨he, h0⟩ | ⟨g, cap, cur, he, hB, hg, hnc, hcm, hcs, ht⟩
  · exact .inl ⟨he, h0⟩
  · simp only [Value.slice.injEq, true_and] at he
    obtain ⟨rfl, rfl⟩ := he
    rcases Nat.eq_zero_or_pos n with h0 | h0
    · subst h0
      have hy : ys = [] := List.eq_nil_of_length_eq_zero hl
      subst hy
      refine .inr ⟨g, c, cur, rfl, hB, ?_, hnc, hcm, hcs, by simp [ivs]⟩
      rw [h.other g (Array.getElem?_eq_some_iff.1 hg).1 fun _ _ _ hn => by omega]
      exact hg
    · obtain ⟨cur', E, fr, h1, h2, h3⟩ := h.self g 0 rfl h0
      rw [hg] at h1
      simp only [Option.some.injEq, Obj.cells.injEq] at h1
      obtain ⟨rfl, rfl, rfl⟩ := h1
      refine .inr ⟨g, c, _, rfl, hB, h3, hnc, hcm, ?_, ?_⟩
      · rw [List.size_toArray, splice_length _ _ _ (by simpa [ivs_length, hl] using h2)]; simpa using hcs
      · simp [splice, Nat.mul_one, ← ivs_length ys, ← hl]

theorem OwnI.unfrozen {w : World} {B : Nat} {a : Option Addr} {n c : Nat} {xs : List Int} (h : OwnI w B a n c xs) : ∀ i b o, i < n → a = some ⟨b, o, none⟩ → w.frozen? ⟨b, o + i, none⟩ = false := by
  intro i b o hi e
  obtain ⟨g, e', _, _, _, hf⟩ := h.cell i hi
  rw [e] at e'
  simp only [Option.some.injEq, Addr.mk.injEq, and_true] at e'
  obtain ⟨rfl, rfl⟩ := e'
  simpa using hf
theorem OwnI.at_base {w : World} {B : Nat} {a : Option Addr} {n c : Nat} {xs : List Int} (h : OwnI w B a n c xs) : ∀ b o, a = some ⟨b, o, none⟩ → B ≤ b ∧ b < w.heap.size := by
  intro b o e
  rcases h.row.2 with ⟨he, h0⟩ | ⟨g, cap, cur, he, hB, hg, _⟩
  · simp [e] at he
  · simp only [Value.slice.injEq] at he
    rw [e] at he
    simp only [Option.some.injEq, Addr.mk.injEq, and_true] at he
    obtain ⟨⟨rfl, _⟩, _⟩ := he
    exact ⟨hB, (Array.getElem?_eq_some_iff.1 hg).1⟩

/-- new blocks behind a change, and ahead of one -/
theorem UpdI.ext {w w' w'' : World} {a : Option Addr} {n : Nat} {ys : List Int} (h : UpdI w w' a n ys) (k : Ext w' w'') : UpdI w w'' a n ys := by
  refine ⟨k.os.trans h.os, k.tape.trans h.tape, k.output.trans h.output, Nat.le_trans h.size k.size, h.len, fun j hj hne => ?_, fun b o e hn => ?_⟩
  · rw [k.block j (Nat.lt_of_lt_of_le hj h.size)]
    exact h.other j hj hne
  · obtain ⟨cur, E, fr, h1, h2, h3⟩ := h.self b o e hn
    refine ⟨cur, E, fr, h1, h2, ?_⟩
    rw [k.block b (Array.getElem?_eq_some_iff.1 h3).1]
    exact h3
theorem Ext.drew (w : World) : Ext w w.drew := ⟨rfl, rfl, rfl, Nat.le_refl _, fun _ _ => rfl⟩
theorem UpdI.drew {w w' : World} {a : Option Addr} {n : Nat} {ys : List Int} (h : UpdI w w' a n ys) : UpdI w w'.drew a n ys := h.ext (Ext.drew w')
theorem UpdI.drewN {w w' : World} {a : Option Addr} {n : Nat} {ys : List Int} (h : UpdI w w' a n ys) (k : Nat) : UpdI w (w'.drewN k) a n ys := h.ext (Ext.drewN w' k)
theorem Ext.upd {w0 w w' : World} {a : Option Addr} {n : Nat} {xs ys : List Int} (k : Ext w0 w) (h0 : IntsAt w0 a n xs) (h : UpdI w w' a n ys) : UpdI w0 w' a n ys := by
  refine ⟨h.os.trans k.os, h.tape.trans k.tape, h.output.trans k.output, Nat.le_trans k.size h.size, h.len, fun j hj hne => ?_, fun b o e hn => ?_⟩
  · rw [h.other j (Nat.lt_of_lt_of_le hj k.size) hne, k.block j hj]
  · obtain ⟨cur, E, fr, h1, h2, h3⟩ := h.self b o e hn
    refine ⟨cur, E, fr, ?_, h2, h3⟩
    subst e
    rw [← h1, k.block b (h0.block_lt hn)]

theorem splice_splice (cur : List Value) (o : Nat) (ys zs : List Value) (hl : ys.length = zs.length) (hc : o + ys.length ≤ cur.length) : splice (splice cur o ys) o zs = splice cur o zs := by
  have ht : (cur.take o).length = o := by simp; omega
  have h1 : (splice cur o ys).take o = cur.take o := by
    unfold splice
    exact List.take_left' ht
  have h2 : (splice cur o ys).drop (o + zs.length) = cur.drop (o + zs.length) := by
    unfold splice
    rw [← List.append_assoc, ← hl]
    exact List.drop_left' (by simp; omega)
  show (splice cur o ys).take o ++ (zs ++ (splice cur o ys).drop (o + zs.length)) = cur.take o ++ (zs ++ cur.drop (o + zs.length))
  rw [h1, h2]

theorem UpdI.trans {w w' w'' : World} {a : Option Addr} {n : Nat} {ys zs : List Int} (h : UpdI w w' a n ys) (k : UpdI w' w'' a n zs) : UpdI w w'' a n zs := by
  refine ⟨k.os.trans h.os, k.tape.trans h.tape, k.output.trans h.output, Nat.le_trans h.size k.size, k.len, fun j hj hne => ?_, fun b o e hn => ?_⟩
  · rw [k.other j (Nat.lt_of_lt_of_le hj h.size) hne]
    exact h.other j hj hne
  · obtain ⟨cur, E, fr, h1, h2, h3⟩ := h.self b o e hn
    obtain ⟨cur', E', fr', k1, k2, k3⟩ := k.self b o e hn
    rw [h3] at k1
    simp only [Option.some.injEq, Obj.cells.injEq] at k1
    obtain ⟨rfl, rfl, rfl⟩ := k1
    refine ⟨cur, E, fr, h1, h2, ?_⟩
    rw [k3, splice_splice _ _ _ _ (by simp [ivs_length, h.len, k.len]) (by simpa [ivs_length, h.len] using h2)]

/-- a store into a block below what is owned -/
theorem OwnI.setBelow {w : World} {B : Nat} {a : Option Addr} {n c : Nat} {xs : List Int} (h : OwnI w B a n c xs) (b i : Nat) (hb : b < B) (v : Value) : OwnI (w.setCell ⟨b, i, none⟩ v) B a n c xs :=
  h.grown (row := some b) ⟨rfl, rfl, rfl, by simp [World.setCell], fun k _ hk => Below.heap_setCell _ _ _ _ (fun e => hk (by rw [e]))⟩ (fun g o e => by have := (h.at_base g o e).1; simp; omega)

def addrBlock : Option Addr → Option Nat
  | some ⟨b, _, none⟩ => some b
  | _ => none
theorem addrBlock_some {a : Option Addr} {b : Nat} (h : addrBlock a = some b) : ∃ o, a = some ⟨b, o, none⟩ := by
  unfold addrBlock at h
  split at h
  · simp only [Option.some.injEq] at h
    subst h
    exact ⟨_, rfl⟩
  · cases h
theorem UpdI.grownBy {w w' : World} {a : Option Addr} {n : Nat} {ys : List Int} (h : UpdI w w' a n ys) : w.grownBy w' (addrBlock a) :=
  ⟨h.os, h.tape, h.output, h.size, fun j hj hr => h.other j hj fun b o e _ he => hr (by rw [e, he]; rfl)⟩
theorem UpdI.cellInt {w w' : World} {b o n : Nat} {ys : List Int} (h : UpdI w w' (some ⟨b, o, none⟩) n ys) (k : Nat) (hk : k < n) :
    w'.cell? ⟨b, o + k, none⟩ = some (.int .i64 (ys.getD k 0)) ∧ w'.frozen? ⟨b, o + k, none⟩ = w.frozen? ⟨b, o + k, none⟩ := by
  have hl := h.len
  obtain ⟨cur, E, fr, h1, h2, h3⟩ := h.self b o rfl (by omega)
  refine ⟨?_, ?_⟩
  · simp only [World.cell?, h3, Option.isSome_none, Bool.false_eq_true, if_false, List.getElem?_toArray]
    rw [splice_get _ _ _ _ (by simpa [ivs_length, hl] using hk) (by simpa [ivs_length, hl] using h2), ivs_get ys k (by omega)]
  · simp only [World.frozen?, h1, h3]

theorem cell_top (w : World) (cs : Array Value) (E : TypeId) (b i : Nat) (hb : b = w.heap.size) : (w.alloc (.cells cs E)).cell? ⟨b, i, none⟩ = cs[i]? := by
  subst hb
  simp only [World.cell?, heap_alloc_new, Option.isSome_none, Bool.false_eq_true, if_false]
theorem ints_alloc (w : World) (xs : List Int) (E : TypeId) : IntsAt (w.alloc (.cells (ivs xs).toArray E)) (some ⟨w.heap.size, 0, none⟩) xs.length xs := by
  refine ⟨rfl, fun i hi => ⟨w.heap.size, 0, rfl, ?_⟩⟩
  rw [cell_top _ _ _ _ _ rfl, Nat.zero_add, List.getElem?_toArray, ivs_get xs i hi]

theorem ints_allocAt (w : World) (xs : List Int) (E : TypeId) (b : Nat) (hb : b = w.heap.size) : IntsAt (w.alloc (.cells (ivs xs).toArray E)) (some ⟨b, 0, none⟩) xs.length xs := by
  rw [hb]
  exact ints_alloc w xs E

theorem Ext.setNew {w0 w : World} (h : Ext w0 w) (b i : Nat) (hb : w0.heap.size ≤ b) (v : Value) : Ext w0 (w.setCell ⟨b, i, none⟩ v) := Below.setCell (p := ⟨b, i, none⟩) h hb v
theorem frozen_top (w : World) (cs : Array Value) (E : TypeId) (b i : Nat) (hb : b = w.heap.size) : (w.alloc (.cells cs E)).frozen? ⟨b, i, none⟩ = false := by
  subst hb
  simp only [World.frozen?, heap_alloc_new]
  simp

/-- slices of slices of integers, read -/
structure RowsAt (w : World) (a : Option Addr) (n : Nat) (rows : List (List Int)) : Prop where
  len : rows.length = n
  get : ∀ i, i < n → ∃ b o a' c', a = some ⟨b, o, none⟩ ∧ w.cell? ⟨b, o + i, none⟩ = some (.slice a' (rows.getD i []).length c') ∧ IntsAt w a' (rows.getD i []).length (rows.getD i [])

theorem RowsAt.below {w w' : World} {a : Option Addr} {n : Nat} {rows : List (List Int)} (h : RowsAt w a n rows) (hb : Ext w w') : RowsAt w' a n rows := by
  refine ⟨h.len, fun i hi => ?_⟩
  obtain ⟨b, o, a', c', rfl, hc, hr⟩ := h.get i hi
  exact ⟨b, o, a', c', rfl, (hb.cell (p := ⟨b, o + i, none⟩) (World.block_lt_of_cell? w _ hc)).trans hc, hr.below hb⟩
/-- the cells of a new block, later -/
theorem new_cell {w w' : World} {cs : Array Value} {E : TypeId} {b : Nat} (hb : b = w.heap.size) (hx : Ext (w.alloc (.cells cs E)) w') (j : Nat) :
    w'.cell? ⟨b, j, none⟩ = cs[j]? ∧ w'.frozen? ⟨b, j, none⟩ = false := by
  subst hb
  have hl : w.heap.size < (w.alloc (.cells cs E)).heap.size := by simp
  exact ⟨(hx.cell (p := ⟨w.heap.size, j, none⟩) hl).trans (cell_top _ _ _ _ _ rfl), (hx.frozen (p := ⟨w.heap.size, j, none⟩) hl).trans (frozen_top _ _ _ _ _ rfl)⟩
end Go.Proofs.YtenlhfimdpcaoaaGreat

namespace Go.Proofs.YtenlhfimdpcaoaaGreat
open Go.RowKit

theorem Tryz.info3 : (Tryz.prog.info? 3).map (fun i => (i.zero, i.size, i.bytes)) = some (some (.int .i64 0), 1, 8) := by kernel_rfl

/-- make([]int, n) -/
theorem make_ints (n : Int) (h0 : 0 ≤ n) (h1 : n ≤ 1000000000000) (w : World) :
    (Instr.makeSlice 24 (.int .i64 n) (.int .i64 n)).run Tryz.prog w = .ok (.slice (some ⟨w.heap.size, 0, none⟩) n.toNat n.toNat) (w.alloc (.cells (Array.replicate n.toNat (.int .i64 0)) 3)) := by
  obtain ⟨i, hi, hz0, hz1, hz2⟩ := info_parts Tryz.info3
  have := run_make (P := Tryz.prog) w 24 3 i (.int .i64 0) Tryz.underlying24 hi hz0 .i64 .i64 n n h0 (Int.le_refl _) (by rw [hz2]; omega) (by omega)
  rw [this, hz1]
  have e : madeCells (Value.int .i64 0).cells (n.toNat * 1) = Array.replicate n.toNat (.int .i64 0) := by
    apply Array.ext'
    rw [show (Value.int .i64 0).cells = #[.int .i64 0] from rfl, toList_madeCells_one]
    simp
  rw [e]

/-- the first j numbers of ys, the others of xs -/
def partly (xs ys : List Int) (j : Nat) : List Int := ys.take j ++ xs.drop j
theorem partly_zero (xs ys : List Int) : partly xs ys 0 = xs := by simp [partly]
theorem partly_all (xs ys : List Int) (n : Nat) (h1 : xs.length = n) (h2 : ys.length = n) : partly xs ys n = ys := by simp [partly, ← h2, List.take_of_length_le, h1]
theorem partly_get (xs ys : List Int) (j n : Nat) (hj : j < n) (h1 : xs.length = n) (h2 : ys.length = n) : (partly xs ys j).getD j 0 = xs.getD j 0 := by
  simp only [partly, List.getD_eq_getElem?_getD]
  rw [List.getElem?_append_right (by simp; omega), List.getElem?_drop]
  congr 2
  simp
  omega
theorem partly_succ (xs ys : List Int) (n j : Nat) (hj : j < n) (h1 : xs.length = n) (h2 : ys.length = n) : (partly xs ys j).set j (ys.getD j 0) = partly xs ys (j + 1) := by
  apply List.ext_getElem?
  intro i
  simp only [partly, List.getElem?_set, List.getElem?_append, List.length_take, List.getElem?_take, List.getElem?_drop, List.length_append, List.length_drop]
  by_cases h : j = i
  · subst h
    rw [if_pos rfl, if_pos (by omega), if_pos (by omega), if_pos (by omega), List.getElem?_eq_getElem (by omega), List.getD_eq_getElem?_getD, List.getElem?_eq_getElem (by omega)]
    rfl
  · simp only [h, if_false]
    by_cases h3 : i < j
    · simp [show min j ys.length = j by omega, show min (j + 1) ys.length = j + 1 by omega, h3, show i < j + 1 by omega]
    · simp [show min j ys.length = j by omega, show min (j + 1) ys.length = j + 1 by omega, h3, show ¬ (i < j + 1) by omega]
      congr 1; omega

end Go.Proofs.YtenlhfimdpcaoaaGreat

namespace Go.Proofs.YtenlhfimdpcaoaaGreat
open Go.RowKit

theorem inside_any (n lo hi : Int) (w : World) :
    Calls Tryz.prog 74 #[.int .i64 n, .int .i64 lo, .int .i64 hi] w fun e w' => e = .returned (.bool (insB n lo hi)) ∧ w = w' := by
  by_cases h : lo ≤ n
  · go_enter Tryz.func74, Tryz.ntmps74
    go_wp2
    go_ret
    exact ⟨by simp [insB, h], rfl⟩
  · have h' : decide (lo ≤ n) = false := by simp; omega
    have HI := hidP (insB_false (hi := hi) |>.2 (fun hc : lo ≤ n ∧ n ≤ hi => h hc.1))
    go_enter Tryz.func74, Tryz.ntmps74
    go_wp2
    go_ret
    exact ⟨ret_bool HI.out.symm, rfl⟩
theorem l1In_any (n lo hi : Int) (w : World) :
    Calls Tryz.prog 133 #[.int .i64 n, .int .i64 lo, .int .i64 hi] w fun e w' => e = .returned (.bool (insB n lo hi)) ∧ w = w' := by
  by_cases h : lo ≤ n
  · go_enter Tryz.func133, Tryz.ntmps133
    go_wp2
    go_ret
    exact ⟨by simp [insB, h], rfl⟩
  · have h' : decide (lo ≤ n) = false := by simp; omega
    have HI := hidP (insB_false (hi := hi) |>.2 (fun hc : lo ≤ n ∧ n ≤ hi => h hc.1))
    go_enter Tryz.func133, Tryz.ntmps133
    go_wp2
    go_ret
    exact ⟨ret_bool HI.out.symm, rfl⟩
theorem l1Mod_any (n p : Int) (w : World) (hp : 1 ≤ p) (hp2 : p ≤ 1000000) :
    Calls Tryz.prog 149 #[.int .i64 n, .int .i64 p] w fun e w' => e = .returned (.int .i64 (n % p)) ∧ w = w' := by
  have hb := tmod_pos_bounds n p (by omega)
  by_cases h : n.tmod p < 0
  · have he := hidP (emod_of_tmod_neg n p h (by omega))
    go_enter Tryz.func149, Tryz.ntmps149
    go_wp2
    go_ret
    exact ⟨ret_int he.out, rfl⟩
  · have he := hidP (emod_of_tmod_nonneg n p (by omega) (by omega))
    go_enter Tryz.func149, Tryz.ntmps149
    go_wp2
    go_ret
    exact ⟨ret_int he.out, rfl⟩

def primeTo (n : Int) (k : Nat) : Prop := ∀ d : Nat, d < k → 2 ≤ d → n % d ≠ 0
theorem primeTo_two (n : Int) : primeTo n 2 := fun d h1 h2 => by omega
theorem primeTo_succ {n : Int} {k : Nat} (h : primeTo n k) (hk : n % k ≠ 0) : primeTo n (k + 1) := fun d h1 h2 => by
  rcases Nat.lt_succ_iff_lt_or_eq.1 h1 with h3 | rfl
  · exact h d h3 h2
  · exact hk
theorem prime_of_to {n : Int} {k : Nat} (h : primeTo n k) (hk : n < k * k) (h2 : 2 ≤ n) (h3 : n ≤ 10007) : primeB n = true := by
  refine primeB_true.2 ⟨h2, h3, fun d hd1 hd2 hd3 => h d ?_ hd2⟩
  rcases Nat.lt_or_ge d k with h4 | h4
  · exact h4
  · exfalso
    have : k * k ≤ d * d := Nat.mul_le_mul h4 h4
    have : ((k * k : Nat) : Int) ≤ ((d * d : Nat) : Int) := by exact_mod_cast this
    simp only [Int.natCast_mul] at this
    omega
theorem not_prime_of {n : Int} {k : Nat} (hk : n % k = 0) (h2 : 2 ≤ k) (hkk : (k : Int) * k ≤ n) (h3 : n ≤ 10007) : primeB n = false := by
  refine primeB_false.2 fun h => h.2.2 k ?_ h2 hkk hk
  rcases Nat.lt_or_ge k 101 with h4 | h4
  · exact h4
  · exfalso
    have : 101 * 101 ≤ k * k := Nat.mul_le_mul h4 h4
    have : ((101 * 101 : Nat) : Int) ≤ ((k * k : Nat) : Int) := by exact_mod_cast this
    simp only [Int.natCast_mul] at this
    omega

set_option maxHeartbeats 1000000 in
theorem isPrime_any (n : Int) (w : World) :
    Calls Tryz.prog 73 #[.int .i64 n] w fun e w' => e = .returned (.bool (primeB n)) ∧ w = w' := by
  by_cases hin : 2 ≤ n ∧ n ≤ 10007
  · have hi : insB n 2 10007 = true := insB_true.2 hin
    obtain ⟨hn2, hn7⟩ := hin
    have hto := primeTo_two n
    go_enter Tryz.func73, Tryz.ntmps73
    go_wp2_with (go_at_call 74; refine (inside_any _ _ _ _).mono ?_; rintro e w' ⟨rfl, rfl⟩)
    go_loop [3] (fun i => ∃ k : Nat, 2 ≤ k ∧ k ≤ 101 ∧ primeTo n k ∧ i = .int .i64 k) (fun i => 101 - (intOf i).toNat)
    case atStart => exact ⟨2, Nat.le_refl _, by omega, hto, rfl⟩
    case round =>
      clear hto
      obtain ⟨k, hk2, hk, hpt, rfl⟩ := hrel
      have hkk1 : 0 ≤ (k : Int) * k := Int.mul_nonneg (by omega) (by omega)
      have hkk2 : (k : Int) * k ≤ 10201 := by
        have := Nat.mul_le_mul hk hk
        have : ((k * k : Nat) : Int) ≤ ((101 * 101 : Nat) : Int) := by exact_mod_cast this
        simpa using this
      by_cases hlt : (k : Int) * k ≤ n
      · by_cases hd : n % (k : Int) = 0
        · have hb := hidP (not_prime_of hd hk2 hlt hn7)
          have hd' : (n % (k : Int) == 0) = true := by simp [hd]
          clear hd
          go_wp2
          go_ret
          exact ⟨ret_bool hb.out.symm, rfl⟩
        · have hd' : (n % (k : Int) == 0) = false := by simp [hd]
          have hk101 : k < 101 := by
            rcases Nat.lt_or_ge k 101 with h4 | h4
            · exact h4
            · have : k = 101 := by omega
              subst this; omega
          have hs := primeTo_succ hpt hd
          clear hd hpt
          go_wp2
          go_round
          case rel => exact ⟨k + 1, by omega, by omega, hs, by go_num⟩
          case measure => simp [intOf]; omega
      · have hb := hidP (prime_of_to hpt (by omega) hn2 hn7)
        go_wp2
        go_ret
        exact ⟨ret_bool hb.out.symm, rfl⟩
  · have hi : insB n 2 10007 = false := insB_false.2 hin
    have hb : primeB n = false := primeB_false.2 fun h => hin ⟨h.1, h.2.1⟩
    have HB := hidP hb
    clear hin hb
    go_enter Tryz.func73, Tryz.ntmps73
    go_wp2_with (go_at_call 74; refine (inside_any _ _ _ _).mono ?_; rintro e w' ⟨rfl, rfl⟩)
    go_ret
    exact ⟨ret_bool HB.out.symm, rfl⟩
set_option maxHeartbeats 1000000 in
theorem sIsPrime_any (n : Int) (w : World) :
    Calls Tryz.prog 132 #[.int .i64 n] w fun e w' => e = .returned (.bool (primeB n)) ∧ w = w' := by
  by_cases hin : 2 ≤ n ∧ n ≤ 10007
  · have hi : insB n 2 10007 = true := insB_true.2 hin
    obtain ⟨hn2, hn7⟩ := hin
    have hto := primeTo_two n
    have hg1 : decide (n < 2) = false := by simp; omega
    go_enter Tryz.func132, Tryz.ntmps132
    go_wp2
    go_loop [3] (fun i => ∃ k : Nat, 2 ≤ k ∧ k ≤ 101 ∧ primeTo n k ∧ i = .int .i64 k) (fun i => 101 - (intOf i).toNat)
    case atStart => exact ⟨2, Nat.le_refl _, by omega, hto, rfl⟩
    case round =>
      clear hto
      obtain ⟨k, hk2, hk, hpt, rfl⟩ := hrel
      have hkk1 : 0 ≤ (k : Int) * k := Int.mul_nonneg (by omega) (by omega)
      have hkk2 : (k : Int) * k ≤ 10201 := by
        have := Nat.mul_le_mul hk hk
        have : ((k * k : Nat) : Int) ≤ ((101 * 101 : Nat) : Int) := by exact_mod_cast this
        simpa using this
      by_cases hlt : (k : Int) * k ≤ n
      · by_cases hd : n % (k : Int) = 0
        · have hb := hidP (not_prime_of hd hk2 hlt hn7)
          have hd' : (n % (k : Int) == 0) = true := by simp [hd]
          clear hd
          go_wp2
          go_ret
          exact ⟨ret_bool hb.out.symm, rfl⟩
        · have hd' : (n % (k : Int) == 0) = false := by simp [hd]
          have hk101 : k < 101 := by
            rcases Nat.lt_or_ge k 101 with h4 | h4
            · exact h4
            · have : k = 101 := by omega
              subst this; omega
          have hs := primeTo_succ hpt hd
          clear hd hpt
          go_wp2
          go_round
          case rel => exact ⟨k + 1, by omega, by omega, hs, by go_num⟩
          case measure => simp [intOf]; omega
      · have hb := hidP (prime_of_to hpt (by omega) hn2 hn7)
        go_wp2
        go_ret
        exact ⟨ret_bool hb.out.symm, rfl⟩
  · have hb : primeB n = false := primeB_false.2 fun h => hin ⟨h.1, h.2.1⟩
    have HB := hidP hb
    clear hb
    by_cases h2 : n < 2
    · clear hin
      go_enter Tryz.func132, Tryz.ntmps132
      go_wp2
      go_ret
      exact ⟨ret_bool HB.out.symm, rfl⟩
    · have hg1 : decide (n < 2) = false := by simp; omega
      have hg2 : 10007 < n := by omega
      clear hin
      go_enter Tryz.func132, Tryz.ntmps132
      go_wp2
      go_ret
      exact ⟨ret_bool HB.out.symm, rfl⟩
end Go.Proofs.YtenlhfimdpcaoaaGreat

namespace Go.Proofs.YtenlhfimdpcaoaaGreat
open Go.RowKit

/-- the sum of f 0 .. f (n - 1) -/
def sumTo (n : Nat) (f : Nat → Int) : Int :=
  match n with
  | 0 => 0
  | n + 1 => sumTo n f + f n
theorem sumTo_congr {n : Nat} {f g : Nat → Int} (h : ∀ i, i < n → f i = g i) : sumTo n f = sumTo n g := by
  induction n with
  | zero => rfl
  | succ n ih => simp only [sumTo]; rw [ih fun i hi => h i (by omega), h n (by omega)]

/-- the list of the residues of f 0 .. f (n - 1) -/
def modL (p : Int) (n : Nat) (f : Nat → Int) : List Int := (List.range n).map fun m => f m % p
theorem modL_length (p : Int) (n : Nat) (f : Nat → Int) : (modL p n f).length = n := by simp [modL]
theorem modL_get (p : Int) (n : Nat) (f : Nat → Int) (m : Nat) (h : m < n) : (modL p n f).getD m 0 = f m % p := by
  simp [modL, List.getD_eq_getElem?_getD, h]
theorem modL_congr {p : Int} {n : Nat} {f g : Nat → Int} (h : ∀ m, m < n → f m % p = g m % p) : modL p n f = modL p n g := by
  unfold modL
  apply List.map_congr_left
  intro m hm
  exact h m (List.mem_range.1 hm)
theorem modL_zero (p : Int) (n : Nat) : modL p n (fun _ => 0) = List.replicate n 0 := by
  apply List.ext_getElem
  · simp [modL]
  · intro i h1 h2
    simp [modL]

theorem getD_lt (l : List Int) {i : Nat} (h : i < l.length) : l.getD i 0 = l[i] := by simp [h]

/-- residues modulo p -/
def Res (p : Int) (xs : List Int) : Prop := ∀ i, i < xs.length → 0 ≤ xs.getD i 0 ∧ xs.getD i 0 < p
theorem Res.modL {p : Int} (hp : 0 < p) (n : Nat) (f : Nat → Int) : Res p (modL p n f) := by
  intro i hi
  rw [modL_length] at hi
  rw [modL_get p n f i hi]
  exact ⟨Int.emod_nonneg _ (by omega), Int.emod_lt_of_pos _ hp⟩
theorem Res.part {p : Int} {xs : List Int} (h : Res p xs) (i n : Nat) : Res p ((xs.drop i).take n) := by
  intro j hj
  simp at hj
  have := h (i + j) (by omega)
  simpa [List.getD_eq_getElem?_getD, List.getElem?_take, show j < n by omega] using this
theorem Res.eq_modL {p : Int} {xs : List Int} (h : Res p xs) : xs = Go.Proofs.YtenlhfimdpcaoaaGreat.modL p xs.length (fun m => xs.getD m 0) := by
  apply List.ext_getElem
  · simp [modL_length]
  · intro i h1 h2
    have h3 := h i h1
    have h4 := modL_get p xs.length (fun m => xs.getD m 0) i h1
    rw [Int.emod_eq_of_lt h3.1 h3.2] at h4
    rw [getD_lt _ h2, getD_lt _ h1] at h4
    exact h4.symm

/-- a row, and k times another one -/
def addL (p : Int) (xs : List Int) (k : Int) (ys : List Int) : List Int := modL p xs.length fun m => xs.getD m 0 + k * ys.getD m 0
theorem addL_length (p : Int) (xs : List Int) (k : Int) (ys : List Int) : (addL p xs k ys).length = xs.length := modL_length _ _ _
theorem addL_get (p : Int) (xs : List Int) (k : Int) (ys : List Int) (m : Nat) (h : m < xs.length) : (addL p xs k ys).getD m 0 = (xs.getD m 0 + k * ys.getD m 0) % p := modL_get _ _ _ _ h
theorem addL_modL (p : Int) (n : Nat) (f : Nat → Int) (k : Int) (ys : List Int) : addL p (modL p n f) k ys = modL p n fun m => f m + k * ys.getD m 0 := by
  unfold addL
  rw [modL_length]
  apply modL_congr
  intro m hm
  rw [modL_get p n f m hm, Int.emod_add_emod]

/-- the number k of the bracket of basis elements i and j -/
def tab (t : List Int) (d i j m : Nat) : Int := t.getD ((i * d + j) * d + m) 0
/-- the bracket of basis elements i and j -/
def pairL (t : List Int) (d i j : Nat) : List Int := (t.drop ((i * d + j) * d)).take d
theorem nidx_lt {d i j : Nat} (hi : i < d) (hj : j < d) : (i * d + j) * d + d ≤ d * d * d := by
  have h1 : (i + 1) * d ≤ d * d := Nat.mul_le_mul_right d hi
  have h2 : (i * d + j + 1) * d ≤ d * d * d := Nat.mul_le_mul_right d (by rw [Nat.add_mul, Nat.one_mul] at h1; omega)
  rw [Nat.add_mul, Nat.one_mul] at h2
  exact h2
theorem pairL_length {t : List Int} {d i j : Nat} (ht : t.length = d * d * d) (hi : i < d) (hj : j < d) : (pairL t d i j).length = d := by
  have := nidx_lt hi hj
  simp [pairL]
  omega
theorem pairL_get {t : List Int} {d : Nat} (i j m : Nat) (hm : m < d) : (pairL t d i j).getD m 0 = tab t d i j m := by
  simp [pairL, tab, List.getD_eq_getElem?_getD, hm]

/-- the bracket of an element and the basis element j, modulo p -/
def rightL (p : Int) (t : List Int) (d : Nat) (u : List Int) (j : Nat) : List Int := modL p d fun m => sumTo u.length fun i => u.getD i 0 * tab t d i j m
def rightTo (p : Int) (t : List Int) (d : Nat) (u : List Int) (j k : Nat) : List Int := modL p d fun m => sumTo k fun i => u.getD i 0 * tab t d i j m
theorem rightTo_zero (p : Int) (t : List Int) (d : Nat) (u : List Int) (j : Nat) : rightTo p t d u j 0 = List.replicate d 0 := by
  rw [← modL_zero p]
  rfl
theorem rightTo_succ (p : Int) (t : List Int) (d : Nat) (u : List Int) (j k : Nat) : rightTo p t d u j (k + 1) = addL p (rightTo p t d u j k) (u.getD k 0) (pairL t d k j) := by
  unfold rightTo
  rw [addL_modL]
  apply modL_congr
  intro m hm
  simp only [sumTo]
  rw [pairL_get k j m hm]
theorem rightTo_skip (p : Int) (t : List Int) (d : Nat) (u : List Int) (j k : Nat) (h : u.getD k 0 = 0) : rightTo p t d u j (k + 1) = rightTo p t d u j k := by
  unfold rightTo
  apply modL_congr
  intro m _
  simp only [sumTo, h, Int.zero_mul, Int.add_zero]
theorem rightTo_length (p : Int) (t : List Int) (d : Nat) (u : List Int) (j k : Nat) : (rightTo p t d u j k).length = d := modL_length _ _ _

theorem rightTo_res {p : Int} (hp : 0 < p) (t : List Int) (d : Nat) (u : List Int) (j k : Nat) : Res p (rightTo p t d u j k) := Res.modL hp _ _
theorem rightL_res {p : Int} (hp : 0 < p) (t : List Int) (d : Nat) (u : List Int) (j : Nat) : Res p (rightL p t d u j) := Res.modL hp _ _
theorem rightL_length (p : Int) (t : List Int) (d : Nat) (u : List Int) (j : Nat) : (rightL p t d u j).length = d := modL_length _ _ _
theorem pairL_res {p : Int} {t : List Int} (h : Res p t) (d i j : Nat) : Res p (pairL t d i j) := h.part _ _
/-- bounds of residues, place by place -/
theorem Res.bd {p : Int} {xs : List Int} (h : Res p xs) {n : Nat} (hl : xs.length = n) (hp : p ≤ 10007) : ∀ j, j < n → 0 ≤ xs.getD j 0 ∧ xs.getD j 0 ≤ 1000000 :=
  fun j hj => by have := h j (by omega); omega

theorem addL_res {p : Int} (hp : 0 < p) (xs : List Int) (k : Int) (ys : List Int) : Res p (addL p xs k ys) := Res.modL hp _ _

end Go.Proofs.YtenlhfimdpcaoaaGreat

namespace Go.Proofs.YtenlhfimdpcaoaaGreat
open Go.RowKit

/-- the place of the first number that a test lets by, -1 if there is none -/
def idxFrom (f : Int → Bool) (k : Nat) : List Int → Int
  | [] => -1
  | x :: l => if f x then k else idxFrom f (k + 1) l
def idxL (f : Int → Bool) (l : List Int) : Int := idxFrom f 0 l
theorem idxFrom_none (f : Int → Bool) (k : Nat) (l : List Int) (h : ∀ j, j < l.length → f (l.getD j 0) = false) : idxFrom f k l = -1 := by
  induction l generalizing k with
  | nil => rfl
  | cons x l ih =>
    have h0 := h 0 (by simp)
    simp only [List.getD_cons_zero] at h0
    simp only [idxFrom, h0, Bool.false_eq_true, if_false]
    exact ih (k + 1) fun j hj => by have := h (j + 1) (by simpa using hj); simpa using this
theorem idxFrom_at (f : Int → Bool) (k : Nat) (l : List Int) (i : Nat) (hi : i < l.length) (h : ∀ j, j < i → f (l.getD j 0) = false) (ht : f (l.getD i 0) = true) : idxFrom f k l = ((k + i : Nat) : Int) := by
  induction l generalizing k i with
  | nil => simp at hi
  | cons x l ih =>
    cases i with
    | zero =>
      simp only [List.getD_cons_zero] at ht
      simp [idxFrom, ht]
    | succ i =>
      have h0 := h 0 (by omega)
      simp only [List.getD_cons_zero] at h0
      simp only [idxFrom, h0, Bool.false_eq_true, if_false]
      rw [ih (k + 1) i (by simpa using hi) (fun j hj => by have := h (j + 1) (by omega); simpa using this) (by simpa using ht)]
      congr 1
      omega
theorem idxL_none {f : Int → Bool} {l : List Int} (h : ∀ j, j < l.length → f (l.getD j 0) = false) : idxL f l = -1 := idxFrom_none f 0 l h
theorem idxL_at {f : Int → Bool} {l : List Int} {i : Nat} (hi : i < l.length) (h : ∀ j, j < i → f (l.getD j 0) = false) (ht : f (l.getD i 0) = true) : idxL f l = (i : Int) := by
  have := idxFrom_at f 0 l i hi h ht
  simpa [idxL] using this
theorem any_of {f : Int → Bool} {l : List Int} : l.any f = true ↔ ∃ j, j < l.length ∧ f (l.getD j 0) = true := by
  rw [List.any_eq_true]
  constructor
  · rintro ⟨x, hx, hf⟩
    obtain ⟨j, hj, rfl⟩ := List.mem_iff_getElem.1 hx
    exact ⟨j, hj, by rw [getD_lt _ hj]; exact hf⟩
  · rintro ⟨j, hj, hf⟩
    rw [getD_lt _ hj] at hf
    exact ⟨_, List.getElem_mem hj, hf⟩
theorem idxL_any (f : Int → Bool) (l : List Int) : decide (0 ≤ idxL f l) = l.any f := by
  by_cases h : l.any f = true
  · obtain ⟨j, hj, hf⟩ := any_of.1 h
    obtain ⟨i, hi⟩ : ∃ i, i = (l.findIdx f) := ⟨_, rfl⟩
    have h1 : i < l.length := by rw [hi]; exact List.findIdx_lt_length_of_exists ⟨l[j], List.getElem_mem hj, by rw [← getD_lt _ hj]; exact hf⟩
    have h2 : f (l.getD i 0) = true := by rw [getD_lt _ h1]; subst hi; exact List.findIdx_getElem
    have h3 : ∀ k, k < i → f (l.getD k 0) = false := fun k hk => by
      rw [getD_lt _ (by omega)]
      subst hi
      simpa using List.not_of_lt_findIdx hk
    rw [idxL_at h1 h3 h2, h]
    simp
  · have h' : l.any f = false := by simpa using h
    rw [h', idxL_none fun j hj => by
      cases hb : f (l.getD j 0)
      · rfl
      · exact absurd (any_of.2 ⟨j, hj, hb⟩) h]
    decide

set_option maxRecDepth 100000 in
set_option maxHeartbeats 1000000 in
theorem indexFunc_any (F : FuncId) (caps : Array Value) (f : Int → Bool) (a : Option Addr) (n c : Nat) (xs : List Int) (w : World) (h : IntsAt w a n xs) (hn : n ≤ 1000000000000)
    (hF : ∀ (args : Array Value) (w : World), Sem.run Tryz.prog (callFunc F args) w = .ok (.enter F args) w)
    (hf : ∀ x, Calls Tryz.prog F (#[.int .i64 x] ++ caps) w fun e w' => e = .returned (.bool (f x)) ∧ w = w') :
    Calls Tryz.prog 143 #[.slice a n c, .func (.func F) #[] caps] w fun e w' => e = .returned (.int .i64 (idxL f xs)) ∧ w = w' := by
  have G := hidP h.get
  have L := hidP h.len
  have HF := hidP hf
  clear h hf
  go_enter Tryz.func143, Tryz.ntmps143
  go_wp2
  go_loop [8] (fun i => ∃ k : Nat, k ≤ n ∧ Hid (∀ j, j < k → f (xs.getD j 0) = false) ∧ i = .int .i64 k) (fun i => n - (intOf i).toNat)
  case atStart => exact ⟨0, Nat.zero_le _, fun j h => by omega, rfl⟩
  case round =>
    obtain ⟨k, hk, HJ, rfl⟩ := hrel
    by_cases hlt : k < n
    · obtain ⟨b, o, rfl, q⟩ := G.out k hlt
      by_cases ht : f (xs.getD k 0) = true
      · have HI := hidP (idxL_at (by have := L.out; omega) HJ.out ht)
        have HT := hidP ht
        clear ht
        go_wp2_with fail
        refine (HF.out _).mono ?_
        rintro e w' ⟨rfl, rfl⟩
        have ht : f (xs[k]?.getD 0) = true := HT.out
        go_wp2
        go_ret
        exact ⟨ret_int HI.out.symm, rfl⟩
      · have ht' : f (xs.getD k 0) = false := by simpa using ht
        have HT := hidP ht'
        clear ht ht'
        go_wp2_with fail
        refine (HF.out _).mono ?_
        rintro e w' ⟨rfl, rfl⟩
        have ht : f (xs[k]?.getD 0) = false := HT.out
        go_wp2
        go_round
        case rel =>
          refine ⟨k + 1, by omega, fun j hj => ?_, by go_num⟩
          rcases Nat.lt_succ_iff_lt_or_eq.1 hj with h3 | rfl
          · exact HJ.out j h3
          · exact HT.out
        case measure => simp [intOf]; omega
    · have HI := hidP (idxL_none (f := f) (l := xs) fun j hj => HJ.out j (by have := L.out; omega))
      go_wp2
      go_ret
      exact ⟨ret_int HI.out.symm, rfl⟩

set_option maxHeartbeats 1000000 in
theorem containsFunc_any (F : FuncId) (caps : Array Value) (f : Int → Bool) (a : Option Addr) (n c : Nat) (xs : List Int) (w : World) (h : IntsAt w a n xs) (hn : n ≤ 1000000000000)
    (hF : ∀ (args : Array Value) (w : World), Sem.run Tryz.prog (callFunc F args) w = .ok (.enter F args) w)
    (hf : ∀ x, Calls Tryz.prog F (#[.int .i64 x] ++ caps) w fun e w' => e = .returned (.bool (f x)) ∧ w = w') :
    Calls Tryz.prog 137 #[.slice a n c, .func (.func F) #[] caps] w fun e w' => e = .returned (.bool (xs.any f)) ∧ w = w' := by
  have H := hidP (indexFunc_any F caps f a n c xs w h hn hF hf)
  have HA := hidP (idxL_any f xs)
  clear h hf hF
  go_enter Tryz.func137, Tryz.ntmps137
  go_wp2_with (go_at_call 143; refine H.out.mono ?_; rintro e w' ⟨rfl, rfl⟩)
  go_ret
  exact ⟨ret_bool HA.out, rfl⟩
end Go.Proofs.YtenlhfimdpcaoaaGreat

namespace Go.Proofs.YtenlhfimdpcaoaaGreat
open Go.RowKit

theorem OwnI.nil_cap {w : World} {B : Nat} {a : Option Addr} {n c : Nat} {xs : List Int} (h : OwnI w B a n c xs) : a = none → c = 0 := by
  intro e
  subst e
  rcases h.row.2 with ⟨he, _⟩ | ⟨g, cap, cur, he, _⟩
  · simp at he
    exact he.2
  · simp at he

theorem add_none (b o j : Nat) : (⟨b, o, none⟩ : Addr).add j = ⟨b, o + j, none⟩ := by
  unfold Addr.add
  split
  · subst_vars; rfl
  · rfl

theorem own_of_row {w : World} {B n : Nat} {v : Value} {xs : List Int} (h : w.ownsRow B 3 1 v n (ivs xs)) : ∃ a c, v = .slice a n c ∧ OwnI w B a n c xs := by
  rcases h.2 with ⟨he, h0⟩ | ⟨g, cap, cur, he, _⟩
  · subst h0
    exact ⟨none, 0, he, ⟨he ▸ h⟩⟩
  · exact ⟨_, _, he, ⟨he ▸ h⟩⟩

theorem wpList_append_ints {ops : Array Oper} {rest : List Oper} {o : Oper} {a : Act} {Q : Exit → Act → World → Prop} {w : World} (hgd : o.guard = none) (s x : Operand)
    (ho : o.op = .call { callee := .builtin .append, args := #[s, x], argTypes := #[24, 24] })
    (B : Nat) (av : Option Addr) (nv cv : Nat) (xs : List Int) (hs : a.eval s = .slice av nv cv) (hown : OwnI w B av nv cv xs)
    (ax : Option Addr) (m c : Nat) (ys : List Int) (hx : a.eval x = .slice ax m c) (hys : IntsAt w ax m ys) (hnil : ax = none → c = 0) (hsm : nv + m ≤ 1000000000000) (hB : B ≤ w.heap.size)
    (h : ∀ a' c' w', OwnI w' B a' (nv + m) c' (xs ++ ys) → w.grownBy w' (Value.slice av nv cv).ownBlock → wpList Tryz.prog ops Q rest (a.put o.dst (.slice a' (nv + m) c')) w') : wpList Tryz.prog ops Q (o :: rest) a w := by
  obtain ⟨i, hi, hz0, hz1, hz2⟩ := info_parts Tryz.info3
  cases ax with
  | none =>
    have hc := hnil rfl
    subst hc
    have hm : m = 0 := by
      rcases Nat.eq_zero_or_pos m with h0 | h0
      · exact h0
      · obtain ⟨_, _, e, _⟩ := hys.get 0 h0
        cases e
    subst hm
    have hy : ys = [] := List.eq_nil_of_length_eq_zero hys.len
    subst hy
    refine wpList_append_own_none hgd s x 24 ho B 3 i 1 Tryz.underlying24 hi _ nv (ivs xs) hs hown.row hx ?_
    have := h av cv w (by simpa using hown) ⟨rfl, rfl, rfl, Nat.le_refl _, fun _ _ _ => rfl⟩
    simpa using this
  | some ad =>
    have hl := hys.len
    refine wpList_append_own w hgd s x 24 ho B 3 i (.int .i64 0) 1 8 Tryz.underlying24 hi hz0 hz1 hz2 rfl (by decide) _ nv (ivs xs) hs hown.row ad m c (ivs ys) hx (by simp [ivs_length, hl]) ?_ (ivs_one ys) (by unfold maxLen; omega) (by omega) hB ?_
    · intro j u hu
      obtain ⟨hj, rfl⟩ := ivs_get_inv hu
      obtain ⟨b, o', e, hc⟩ := hys.get j (by omega)
      simp only [Option.some.injEq] at e
      subst e
      rw [add_none]
      exact hc
    · intro v' w' hr hg _
      rw [show ivs xs ++ ivs ys = ivs (xs ++ ys) by simp [ivs]] at hr
      obtain ⟨a', c', rfl, ho'⟩ := own_of_row hr
      exact h a' c' w' ho' hg

theorem wp_append_ints {o : Oper} {a : Act} {K : Act → World → Prop} {Q : Exit → Act → World → Prop} {w : World} (s x : Operand)
    (ho : o.op = .call { callee := .builtin .append, args := #[s, x], argTypes := #[24, 24] })
    (B : Nat) (av : Option Addr) (nv cv : Nat) (xs : List Int) (hs : a.eval s = .slice av nv cv) (hown : OwnI w B av nv cv xs)
    (ad : Addr) (m c : Nat) (ys : List Int) (hx : a.eval x = .slice (some ad) m c) (hys : IntsAt w (some ad) m ys) (hsm : nv + m ≤ 1000000000000) (hB : B ≤ w.heap.size)
    (h : ∀ a' c' w', OwnI w' B a' (nv + m) c' (xs ++ ys) → w.grownBy w' (Value.slice av nv cv).ownBlock → K (a.put o.dst (.slice a' (nv + m) c')) w') : o.wp Tryz.prog a w K Q := by
  obtain ⟨i, hi, hz0, hz1, hz2⟩ := info_parts Tryz.info3
  have hl := hys.len
  refine wp_append_own w s x 24 ho B 3 i (.int .i64 0) 1 8 Tryz.underlying24 hi hz0 hz1 hz2 rfl (by decide) _ nv (ivs xs) hs hown.row ad m c (ivs ys) hx (by simp [ivs_length, hl]) ?_ (ivs_one ys) (by unfold maxLen; omega) (by omega) hB ?_
  · intro j u hu
    obtain ⟨hj, rfl⟩ := ivs_get_inv hu
    obtain ⟨b, o', e, hc⟩ := hys.get j (by omega)
    simp only [Option.some.injEq] at e
    subst e
    rw [add_none]
    exact hc
  · intro v' w' hr hg _
    rw [show ivs xs ++ ivs ys = ivs (xs ++ ys) by simp [ivs]] at hr
    obtain ⟨a', c', rfl, ho'⟩ := own_of_row hr
    exact h a' c' w' ho' hg

theorem grown_ext {w w' : World} {B : Nat} {a : Option Addr} {n c : Nat} (h : w.grownBy w' (Value.slice a n c).ownBlock) {w0 : World} (hb : Below B w0 w) (hB : B ≤ w.heap.size) (ha : ∀ p, a = some p → B ≤ p.block) : Below B w0 w' := by
  refine Below.grown hb h hB fun k hk => ?_
  cases a with
  | none => simp [Value.ownBlock] at hk
  | some p =>
    simp [Value.ownBlock] at hk
    subst hk
    exact ha p rfl
theorem OwnI.addr_base {w : World} {B : Nat} {a : Option Addr} {n c : Nat} {xs : List Int} (h : OwnI w B a n c xs) : ∀ p, a = some p → B ≤ p.block := by
  intro p e
  subst e
  rcases h.row.2 with ⟨he, _⟩ | ⟨g, cap, cur, he, hB, _⟩
  · simp at he
  · simp only [Value.slice.injEq, Option.some.injEq] at he
    obtain ⟨rfl, _⟩ := he
    exact hB

set_option maxHeartbeats 1000000 in
theorem clone_any (a : Option Addr) (n c : Nat) (xs : List Int) (w : World) (h : IntsAt w a n xs) (hnil : a = none → c = 0) (hn : n ≤ 1000000000000) :
    Calls Tryz.prog 76 #[.slice a n c] w fun e w' => ∃ a' c', e = .returned (.slice a' n c') ∧ OwnI w' w.heap.size a' n c' xs ∧ Ext w w' := by
  have kn := fun (w : World) => Lib.run_eql_slice_nil (P := Tryz.prog) w 24 3 a n c 0 0 Tryz.underlying24
  cases a with
  | none =>
    have hc := hnil rfl
    subst hc
    have hm : n = 0 := by
      rcases Nat.eq_zero_or_pos n with h0 | h0
      · exact h0
      · obtain ⟨_, _, e, _⟩ := h.get 0 h0
        cases e
    subst hm
    have hy : xs = [] := List.eq_nil_of_length_eq_zero h.len
    subst hy
    clear h hnil
    go_enter Tryz.func76, Tryz.ntmps76
    go_wp2
    go_ret
    exact ⟨_, _, rfl, OwnI.nil _ _, Ext.refl _⟩
  | some p =>
    have H := hidP (h.below (Ext.alloc w (.cells #[] 3)))
    have hm := OwnI.made w w.heap.size 0 (Nat.le_refl _) (by unfold maxLen; omega)
    rw [show Array.replicate 0 (Value.int .i64 0) = #[] from rfl] at hm
    have HM := hidP hm
    clear h hnil hm
    go_enter Tryz.func76, Tryz.ntmps76
    go_wp2_with (at_builtin; refine wpList_append_ints rfl (.tmp 5) (.tmp 6) rfl w.heap.size (some ⟨w.heap.size, 0, none⟩) 0 0 [] rfl HM.out (some p) n c xs rfl H.out (fun e => by cases e) (by omega) (by simp) ?_; intro a' c' w' ho hg)
    go_ret
    rw [Nat.zero_add, List.nil_append] at ho
    exact ⟨_, _, rfl, ho, grown_ext hg (Ext.alloc w _) (by simp) (fun q e => by cases e; exact Nat.le_refl _)⟩
end Go.Proofs.YtenlhfimdpcaoaaGreat

namespace Go.Proofs.YtenlhfimdpcaoaaGreat
open Go.RowKit

section
variable {P : Program} {ops : Array Oper} {Q : Exit → Act → World → Prop} {C C' : World → Prop} {n : Nat}

/-- whatever order is picked from here on; behind each operation ahead of place n the world is of the class -/
def anyC (P : Program) (ops : Array Oper) (Q : Exit → Act → World → Prop) (n : Nat) (C : World → Prop) : Nat → Array Bool → Act → World → Prop
  | 0, listed, a, w => Region.ready .any ops listed = [] ∧ Q .normal a w
  | f + 1, listed, a, w => (Region.ready .any ops listed = [] → Q .normal a w) ∧
      ∀ i ∈ Region.ready .any ops listed, wpOp P ops Q i (fun a' w' => (i < n → C w') ∧ anyC P ops Q n C f (listed.setIfInBounds i true) a' w') a w

theorem anyC.out : ∀ (f : Nat) (listed : Array Bool) (a : Act) (w : World), anyC P ops Q n C f listed a w → wpAny P .any ops Q f listed a w
  | 0, _, _, _, h => h
  | f + 1, _, _, _, h => ⟨h.1, fun i hi => wpOp_mono (fun a' w' h' => anyC.out f _ a' w' h'.2) (h.2 i hi)⟩

theorem anyC.imp (hC : ∀ w, C' w → C w) : ∀ (f : Nat) (listed : Array Bool) (a : Act) (w : World), anyC P ops Q n C' f listed a w → anyC P ops Q n C f listed a w
  | 0, _, _, _, h => h
  | f + 1, _, _, _, h => ⟨h.1, fun i hi => wpOp_mono (fun a' w' h' => ⟨fun hn => hC _ (h'.1 hn), anyC.imp hC f _ a' w' h'.2⟩) (h.2 i hi)⟩

/-- no operation of the tail may come up while one of the head has not -/
def TailLast (ops : Array Oper) (n : Nat) : Prop := ∀ (listed : Array Bool), HeadInv .any ops n listed → ∀ i, i < n → listed.getD i true = false → ∀ t, n ≤ t → t ∉ Region.ready .any ops listed

def tailB (ops : Array Oper) (n : Nat) : Bool := decide (n = ops.size) || (decide (n < ops.size) && Region.sinkB .any ops n && Region.chainB .any ops n)
theorem tailB.last (h : tailB ops n = true) : TailLast ops n := by
  intro listed inv i hi hun t ht hr
  simp only [tailB, Bool.or_eq_true, decide_eq_true_eq, Bool.and_eq_true] at h
  rcases h with h | ⟨⟨h1, h2⟩, h3⟩
  · obtain ⟨_, ot, hot, _⟩ := mem_ready.1 hr
    have := (Array.getElem?_eq_some_iff.1 hot).1
    omega
  · exact tail_waits h2 h3 h1 inv _ i rfl hi hun t ht hr

theorem anyC.still_any {i : Nat} {oi : Oper} {v : Value} (hi : ops[i]? = some oi) (hsel : ∀ (j : Nat) (o : Oper) cs b, ops[j]? = some o → o.op ≠ .select cs b)
    (hQ : ∀ c a w, Q (.panic c) (a.put oi.dst v) w → Q (.panic c) a w) (hT : TailLast ops n) (hin : i < n) :
    ∀ (f : Nat) (listed : Array Bool) (a : Act) (w : World), HeadInv .any ops n listed →
      (∀ j oj, ops[j]? = some oj → j ≠ i → listed.getD j true = false → (∀ e ∈ oj.after, Region.binds .any e = true → e.on ≠ i) → oi.apart ops oj = true) →
      i ∈ Region.ready .any ops listed → YieldsIf P ops C oi v a → C w →
      anyC P ops Q n C f (listed.setIfInBounds i true) (a.put oi.dst v) w → anyC P ops Q n C (f + 1) listed a w := by
  intro f
  induction f with
  | zero =>
    intro listed a w inv _ hr hy hS H
    refine ⟨fun h => (by rw [h] at hr; cases hr), fun j hj => ?_⟩
    by_cases hji : j = i
    · subst hji; exact hy.wpOp hi hS ⟨fun _ => hS, H⟩
    · have := ready_mono hj hji
      rw [H.1] at this
      cases this
  | succ f ih =>
    intro listed a w inv hfree hr hy hS H
    have hun := (mem_ready.1 hr).1
    refine ⟨fun h => (by rw [h] at hr; cases hr), fun j hj => ?_⟩
    by_cases hji : j = i
    · subst hji; exact hy.wpOp hi hS ⟨fun _ => hS, H⟩
    · have hjn : j < n := by
        rcases Nat.lt_or_ge j n with h | h
        · exact h
        · exact absurd hj (hT listed inv i hin hun j h)
      have h1 := H.2 j (ready_mono hj hji)
      obtain ⟨hjun, oj, hoj, hall⟩ := mem_ready.1 hj
      have hnot : ∀ e ∈ oj.after, Region.binds .any e = true → e.on ≠ i := fun e he hb heq => by
        have h1 := hall e he hb
        rw [heq, getD_both hun] at h1
        cases h1
      have h2 := wpOp_putIf hoj (hfree j oj hoj hji hjun hnot) (fun cs b => hsel i oi cs b hi) (fun cs b => hsel j oj cs b hoj) hQ hy h1
      have hfree' : ∀ k ok, ops[k]? = some ok → k ≠ i → (listed.setIfInBounds j true).getD k true = false →
          (∀ e ∈ ok.after, Region.binds .any e = true → e.on ≠ i) → oi.apart ops ok = true := fun k ok hk hki hun hno => by
        refine hfree k ok hk hki ?_ hno
        by_cases hjk : j = k
        · subst hjk; exact hjun
        · rw [getD_set_ne true hjk] at hun; exact hun
      refine wpOp_mono (fun a' w' h3 => ⟨fun _ => h3.2.1 hjn, ih (listed.setIfInBounds j true) a' w' (inv.set hj hjn) hfree' (ready_mono hr (Ne.symm hji)) h3.1 (h3.2.1 hjn) ?_⟩) h2
      rw [Array.setIfInBounds_comm _ _ hji]
      exact h3.2.2

/-- the state of a walk: what has come up is closed under the edges, the tail has not come up -/
def WalkC (P : Program) (ops : Array Oper) (Q : Exit → Act → World → Prop) (n : Nat) (C : World → Prop) (f : Nat) (listed : Array Bool) (a : Act) (w : World) : Prop :=
  HeadInv .any ops n listed → anyC P ops Q n C f listed a w

theorem walkC_start {id : Nat} {a : Act} {w : World} (C : World → Prop) (n : Nat) (hm : P.follows .mixedOrders = true)
    (h : WalkC P ops Q n C ops.size (Array.replicate ops.size false) a w.drew) : (Code.region id ops true).wp P Q a w := by
  refine wp_region_any hm (anyC.out (C := C) (n := n) _ _ _ _ (h ⟨by simp, fun j oj _ hl => (by rw [getD_replicate_false] at hl; cases hl), fun t _ ht => getD_in (by simpa using ht) (getD_replicate_false _ _)⟩))

/-- an operation that only reads -/
theorem walkC_still {i : Nat} {oi : Oper} {v : Value} {f : Nat} {listed : Array Bool} {a : Act} {w : World} (hi : ops[i]? = some oi)
    (hb : (Region.noSelect ops && Region.free .any ops listed i && (Region.ready .any ops listed).contains i && tailB ops n && decide (i < n)) = true)
    (hQ : ∀ c a w, Q (.panic c) (a.put oi.dst v) w → Q (.panic c) a w) (hS : C w) (hy : YieldsIf P ops C oi v a)
    (h : WalkC P ops Q n C f (listed.setIfInBounds i true) (a.put oi.dst v) w) : WalkC P ops Q n C (f + 1) listed a w := by
  intro inv
  simp only [Bool.and_eq_true, decide_eq_true_eq] at hb
  obtain ⟨⟨⟨⟨h1, h2⟩, h3⟩, h4⟩, h5⟩ := hb
  exact anyC.still_any hi (Region.noSelect_spec h1) hQ (tailB.last h4) h5 f listed a w inv (Region.free_spec hi h2) (by simpa using h3) hy hS (h (inv.set (by simpa using h3) h5))

/-- the one operation that may come up; the class may become another, narrower one -/
theorem walkC_only {i : Nat} {oi : Oper} (C' : World → Prop) {f : Nat} {listed : Array Bool} {a : Act} {w : World} (hi : ops[i]? = some oi)
    (hb : (decide (Region.ready .any ops listed = [i]) && decide (i < n)) = true) (hw : Region.wanted oi (yielded ops a.tmps) = true) (hC : ∀ w, C' w → C w)
    (h : ∀ K : Act → World → Prop, (∀ a' w', C' w' → WalkC P ops Q n C' f (listed.setIfInBounds i true) a' w' → K a' w') → oi.wp P a w K Q) : WalkC P ops Q n C (f + 1) listed a w := by
  intro inv
  simp only [Bool.and_eq_true, decide_eq_true_eq] at hb
  have hr : i ∈ Region.ready .any ops listed := by rw [hb.1]; simp
  refine ⟨fun h0 => (by rw [hb.1] at h0; cases h0), fun j hj => ?_⟩
  rw [hb.1] at hj
  obtain rfl : j = i := by simpa using hj
  unfold wpOp
  simp only [hi, hw, if_true]
  refine .inl (h _ fun a' w' hc hk => ⟨fun _ => hC _ hc, anyC.imp hC _ _ _ _ (hk (inv.set hr hb.2))⟩)

theorem anyC.of_seq {Q : Exit → Act → World → Prop} : ∀ (l : List Oper) (k : Nat) (listed : Array Bool) (a : Act) (w : World), n ≤ k → (∀ j, l[j]? = ops[k + j]?) →
    Region.seqB .any ops l.length k listed = true → wpList P ops Q l a w → anyC P ops Q n C l.length listed a w
  | [], _, _, _, _, _, _, hB, h => ⟨by simpa [Region.seqB] using hB, h⟩
  | o :: l, k, listed, a, w, hn, hl, hB, h => by
    have h0 : ops[k]? = some o := by simpa using (hl 0).symm
    simp only [List.length_cons, Region.seqB, Bool.and_eq_true, decide_eq_true_eq] at hB
    refine ⟨fun h1 => (by rw [hB.1] at h1; cases h1), fun i hi => ?_⟩
    rw [hB.1] at hi
    have hik : i = k := by simpa using hi
    subst hik
    have hw : wpOp P ops Q i (wpList P ops Q l) a w := by unfold wpOp; simp only [h0]; exact h
    exact wpOp_mono (fun a' w' h' => ⟨fun hlt => by omega, anyC.of_seq l (i + 1) _ a' w' (by omega) (fun j => by have := hl (j + 1); simpa [Nat.add_assoc, Nat.add_comm 1 j] using this) hB.2 h'⟩) hw

/-- the tail, in the text's order -/
theorem walkC_tail {l : List Oper} {f : Nat} {listed : Array Bool} {a : Act} {w : World} (hf : f = (l.drop n).length) (hB : Region.seqB .any l.toArray (l.drop n).length n listed = true)
    (h : wpList P l.toArray Q (l.drop n) a w) : WalkC P l.toArray Q n C f listed a w := by
  intro _
  rw [hf]
  exact anyC.of_seq (l.drop n) n listed a w (Nat.le_refl _) (fun j => by simp [List.getElem?_drop]) hB h

/-- The same walk with a list of what is still to come, for reading the next operation off; the list itself says nothing. -/
def WalkR (P : Program) (ops : Array Oper) (Q : Exit → Act → World → Prop) (n : Nat) (C : World → Prop) (_rem : List (Nat × Oper)) (f : Nat) (listed : Array Bool) (a : Act) (w : World) : Prop :=
  WalkC P ops Q n C f listed a w

def numbered : Nat → List Oper → List (Nat × Oper)
  | _, [] => []
  | k, o :: l => (k, o) :: numbered (k + 1) l

theorem walkR_start {id : Nat} {l : List Oper} {a : Act} {w : World} (C : World → Prop) (n : Nat) (hm : P.follows .mixedOrders = true)
    (h : WalkR P l.toArray Q n C (numbered 0 (l.take n)) l.length (Array.replicate l.length false) a w.drew) : (Code.region id l.toArray true).wp P Q a w :=
  walkC_start C n hm (by simpa [WalkR] using h)

theorem walkR_later {x : Nat × Oper} {rem : List (Nat × Oper)} {f : Nat} {listed : Array Bool} {a : Act} {w : World} (h : WalkR P ops Q n C (rem ++ [x]) f listed a w) : WalkR P ops Q n C (x :: rem) f listed a w := h

theorem walkR_still {i : Nat} {oi : Oper} {v : Value} {rem : List (Nat × Oper)} {f : Nat} {listed : Array Bool} {a : Act} {w : World} (hi : ops[i]? = some oi)
    (hb : (Region.noSelect ops && Region.free .any ops listed i && (Region.ready .any ops listed).contains i && tailB ops n && decide (i < n)) = true)
    (hw : Region.wanted oi (yielded ops a.tmps) = true)
    (hQ : ∀ c a w, Q (.panic c) (a.put oi.dst v) w → Q (.panic c) a w) (hS : C w) (hy : ∀ w', C w' → (execOp a.eval oi).run P w' = .ok (.value v) w')
    (h : WalkR P ops Q n C rem f (listed.setIfInBounds i true) (a.put oi.dst v) w) : WalkR P ops Q n C ((i, oi) :: rem) (f + 1) listed a w :=
  walkC_still hi hb hQ hS (.inl ⟨hw, hy⟩) h

theorem walkR_skip {i : Nat} {oi : Oper} {rem : List (Nat × Oper)} {f : Nat} {listed : Array Bool} {a : Act} {w : World} (hi : ops[i]? = some oi)
    (hb : (Region.noSelect ops && Region.free .any ops listed i && (Region.ready .any ops listed).contains i && tailB ops n && decide (i < n)) = true)
    (hw : Region.wanted oi (yielded ops a.tmps) = false)
    (hQ : ∀ c a w, Q (.panic c) (a.put oi.dst undef) w → Q (.panic c) a w) (hS : C w)
    (h : WalkR P ops Q n C rem f (listed.setIfInBounds i true) (a.put oi.dst undef) w) : WalkR P ops Q n C ((i, oi) :: rem) (f + 1) listed a w :=
  walkC_still hi hb hQ hS (.inr ⟨hw, rfl⟩) h

theorem walkR_only {i : Nat} {oi : Oper} (C' : World → Prop) {rem : List (Nat × Oper)} {f : Nat} {listed : Array Bool} {a : Act} {w : World} (hi : ops[i]? = some oi)
    (hb : (decide (Region.ready .any ops listed = [i]) && decide (i < n)) = true) (hw : Region.wanted oi (yielded ops a.tmps) = true) (hC : ∀ w, C' w → C w)
    (h : ∀ K : Act → World → Prop, (∀ a' w', C' w' → WalkR P ops Q n C' rem f (listed.setIfInBounds i true) a' w' → K a' w') → oi.wp P a w K Q) : WalkR P ops Q n C ((i, oi) :: rem) (f + 1) listed a w :=
  walkC_only C' hi hb hw hC h

/-- two operations may come up: whichever is first -/
theorem walkC_split {i j : Nat} {oi oj : Oper} {f : Nat} {listed : Array Bool} {a : Act} {w : World} (hi : ops[i]? = some oi) (hj : ops[j]? = some oj)
    (hb : (decide (Region.ready .any ops listed = [i, j]) && decide (i < n) && decide (j < n)) = true) (hwi : Region.wanted oi (yielded ops a.tmps) = true) (hwj : Region.wanted oj (yielded ops a.tmps) = true)
    (h1 : ∀ K : Act → World → Prop, (∀ a' w', C w' → WalkC P ops Q n C f (listed.setIfInBounds i true) a' w' → K a' w') → oi.wp P a w K Q)
    (h2 : ∀ K : Act → World → Prop, (∀ a' w', C w' → WalkC P ops Q n C f (listed.setIfInBounds j true) a' w' → K a' w') → oj.wp P a w K Q) : WalkC P ops Q n C (f + 1) listed a w := by
  intro inv
  simp only [Bool.and_eq_true, decide_eq_true_eq] at hb
  obtain ⟨⟨hr, hin⟩, hjn⟩ := hb
  have hri : i ∈ Region.ready .any ops listed := by rw [hr]; simp
  have hrj : j ∈ Region.ready .any ops listed := by rw [hr]; simp
  refine ⟨fun h0 => (by rw [hr] at h0; cases h0), fun k hk => ?_⟩
  rw [hr] at hk
  simp only [List.mem_cons, List.not_mem_nil, or_false] at hk
  rcases hk with rfl | rfl
  · unfold wpOp
    simp only [hi, hwi, if_true]
    exact .inl (h1 _ fun a' w' hc hk => ⟨fun _ => hc, hk (inv.set hri hin)⟩)
  · unfold wpOp
    simp only [hj, hwj, if_true]
    exact .inl (h2 _ fun a' w' hc hk => ⟨fun _ => hc, hk (inv.set hrj hjn)⟩)
theorem Act.put_comm (a : Act) {x y : Nat} (h : x ≠ y) (v u : Value) : (a.put (some y) u).put (some x) v = (a.put (some x) v).put (some y) u := by
  simp only [Act.put]
  rw [Array.setIfInBounds_comm _ _ (Ne.symm h)]
/-- two operations in either order, both behind the same facts -/
theorem walkR_two {i j di dj : Nat} {oi oj : Oper} (R : Value → Value → World → Prop) (P1 P2 : Value → World → Prop) {rem : List (Nat × Oper)} {f : Nat} {listed : Array Bool} {a : Act} {w : World} (hi : ops[i]? = some oi) (hj : ops[j]? = some oj)
    (hb : (decide (Region.ready .any ops listed = [i, j]) && decide (i < n) && decide (j < n) && decide (Region.ready .any ops (listed.setIfInBounds i true) = [j]) && decide (Region.ready .any ops (listed.setIfInBounds j true) = [i]) && decide (i ≠ j)) = true)
    (_hdi : oi.dst = some di) (_hdj : oj.dst = some dj) (hd : di ≠ dj)
    (hwi : Region.wanted oi (yielded ops a.tmps) = true) (hwj : Region.wanted oj (yielded ops a.tmps) = true)
    (hwi2 : ∀ u, Region.wanted oi (yielded ops (a.put (some dj) u).tmps) = true) (hwj2 : ∀ v, Region.wanted oj (yielded ops (a.put (some di) v).tmps) = true)
    (h1 : ∀ K : Act → World → Prop, (∀ v w', C w' → P1 v w' → K (a.put (some di) v) w') → oi.wp P a w K Q)
    (h12 : ∀ v w', C w' → P1 v w' → ∀ K : Act → World → Prop, (∀ u w'', C w'' → R v u w'' → K ((a.put (some di) v).put (some dj) u) w'') → oj.wp P (a.put (some di) v) w' K Q)
    (h2 : ∀ K : Act → World → Prop, (∀ u w', C w' → P2 u w' → K (a.put (some dj) u) w') → oj.wp P a w K Q)
    (h21 : ∀ u w', C w' → P2 u w' → ∀ K : Act → World → Prop, (∀ v w'', C w'' → R v u w'' → K ((a.put (some dj) u).put (some di) v) w'') → oi.wp P (a.put (some dj) u) w' K Q)
    (h : ∀ v u w'', C w'' → R v u w'' → WalkR P ops Q n C rem f ((listed.setIfInBounds i true).setIfInBounds j true) ((a.put (some di) v).put (some dj) u) w'') : WalkR P ops Q n C ((i, oi) :: (j, oj) :: rem) (f + 2) listed a w := by
  simp only [Bool.and_eq_true, decide_eq_true_eq] at hb
  obtain ⟨⟨⟨⟨⟨hr, hin⟩, hjn⟩, hr1⟩, hr2⟩, hne⟩ := hb
  refine walkC_split (f := f + 1) hi hj (by simp [hr, hin, hjn]) hwi hwj ?_ ?_
  · intro K hK
    refine h1 K fun v w' hc hp => hK _ _ hc ?_
    refine walkC_only C hj (by simp [hr1, hjn]) (hwj2 v) (fun _ h => h) fun K' hK' => ?_
    exact h12 v w' hc hp K' fun u w'' hc' hr' => hK' _ _ hc' (h v u w'' hc' hr')
  · intro K hK
    refine h2 K fun u w' hc hp => hK _ _ hc ?_
    refine walkC_only C hi (by simp [hr2, hin]) (hwi2 u) (fun _ h => h) fun K' hK' => ?_
    refine h21 u w' hc hp K' fun v w'' hc' hr' => hK' _ _ hc' ?_
    have := h v u w'' hc' hr'
    rw [Act.put_comm a hd]
    rw [Array.setIfInBounds_comm _ _ (Ne.symm hne)]
    exact this

theorem walkR_tail {l : List Oper} {f : Nat} {listed : Array Bool} {a : Act} {w : World} (hf : f = (l.drop n).length) (hB : Region.seqB .any l.toArray (l.drop n).length n listed = true)
    (h : wpList P l.toArray Q (l.drop n) a w) : WalkR P l.toArray Q n C [] f listed a w := walkC_tail hf hB h

end
end Go.Proofs.YtenlhfimdpcaoaaGreat

namespace Go.Proofs.YtenlhfimdpcaoaaGreat
open Go.RowKit

/-- an algebra's value -/
abbrev algV (p d : Int) (a : Option Addr) (n c : Nat) : Value := .agg #[.int .i64 p, .int .i64 d, .slice a n c]

/-- the three cells of an algebra in a variable of its own -/
structure AlgAt (w : World) (b : Nat) (p d : Int) (a : Option Addr) (n c : Nat) : Prop where
  c0 : w.cell? ⟨b, 0, none⟩ = some (.int .i64 p)
  c1 : w.cell? ⟨b, 1, none⟩ = some (.int .i64 d)
  c2 : w.cell? ⟨b, 2, none⟩ = some (.slice a n c)
theorem AlgAt.below {w w' : World} {b : Nat} {p d : Int} {a : Option Addr} {n c : Nat} (h : AlgAt w b p d a n c) (hb : Ext w w') : AlgAt w' b p d a n c :=
  have hl := World.block_lt_of_cell? w _ h.c0
  ⟨(hb.cell (p := ⟨b, 0, none⟩) hl).trans h.c0, (hb.cell (p := ⟨b, 1, none⟩) hl).trans h.c1, (hb.cell (p := ⟨b, 2, none⟩) hl).trans h.c2⟩
theorem AlgAt.upd {w w' : World} {b : Nat} {p d : Int} {a : Option Addr} {n c : Nat} {a' : Option Addr} {n' : Nat} {ys : List Int} (h : AlgAt w b p d a n c) (hu : UpdI w w' a' n' ys) (hne : ∀ b' o', a' = some ⟨b', o', none⟩ → b ≠ b') : AlgAt w' b p d a n c :=
  have hl := World.block_lt_of_cell? w _ h.c0
  have hh := hu.other b hl fun b' o' e _ => hne b' o' e
  ⟨(World.cell?_of_block (a := ⟨b, 0, none⟩) hh).trans h.c0, (World.cell?_of_block (a := ⟨b, 1, none⟩) hh).trans h.c1, (World.cell?_of_block (a := ⟨b, 2, none⟩) hh).trans h.c2⟩
theorem AlgAt.new (w : World) (b : Nat) (hb : b = w.heap.size) (p d : Int) (a : Option Addr) (n c : Nat) (E : TypeId) : AlgAt (w.alloc (.cells #[.int .i64 p, .int .i64 d, .slice a n c] E)) b p d a n c :=
  ⟨(cell_top _ _ _ _ _ hb).trans rfl, (cell_top _ _ _ _ _ hb).trans rfl, (cell_top _ _ _ _ _ hb).trans rfl⟩

theorem resAlg {w w1 : World} {p0 d0 : Int} {a0 : Option Addr} {n0 c0 : Nat} {E : TypeId} (hx : Ext (w.alloc (.cells #[.int .i64 p0, .int .i64 d0, .slice a0 n0 c0] E)) w1) :
    w1.cell? ⟨w.heap.size, 0, none⟩ = some (.int .i64 p0) ∧ w1.cell? ⟨w.heap.size, 1, none⟩ = some (.int .i64 d0) ∧ w1.cell? ⟨w.heap.size, 2, none⟩ = some (.slice a0 n0 c0) ∧
    w1.frozen? ⟨w.heap.size, 0, none⟩ = false ∧ w1.frozen? ⟨w.heap.size, 1, none⟩ = false ∧ w1.frozen? ⟨w.heap.size, 2, none⟩ = false ∧ w.heap.size < w1.heap.size ∧ Ext w w1 := by
  have h := (AlgAt.new w _ rfl p0 d0 a0 n0 c0 E).below hx
  have hs : w.heap.size < w1.heap.size := by have := hx.size; simp at this; omega
  have hf : ∀ j, w1.frozen? ⟨w.heap.size, j, none⟩ = false := fun j => by
    rw [hx.frozen (p := ⟨w.heap.size, j, none⟩) (by simp)]
    exact frozen_top _ _ _ _ _ rfl
  exact ⟨h.c0, h.c1, h.c2, hf 0, hf 1, hf 2, hs, (Ext.alloc w _).trans hx⟩

set_option maxHeartbeats 1000000 in
theorem sAbelian_ok (p n : Int) (w : World) (hp : primeB p = true) (h0 : 0 ≤ n) (h1 : n ≤ 28) :
    Calls Tryz.prog 127 #[.int .i64 p, .int .i64 n] w fun e w' => ∃ a, e = .returned (algV p n a (n * n * n).toNat (n * n * n).toNat) ∧ OwnI w' w.heap.size a (n * n * n).toNat (n * n * n).toNat (List.replicate (n * n * n).toNat 0) ∧ Ext w w' := by
  have hi : insB n 0 28 = true := insB_true.2 ⟨h0, h1⟩
  obtain ⟨k1, k2, k3, k4⟩ := cube_le h0 h1
  have hmk := make_ints (n * n * n) k3 (by omega)
  have HM := hidP (fun w' (hb : w.heap.size ≤ w'.heap.size) => OwnI.made w' w.heap.size (n * n * n).toNat hb (by unfold maxLen; omega))
  go_enter Tryz.func127, Tryz.ntmps127
  go_wp2_with (first | (go_at_call 132; refine (sIsPrime_any _ _).mono ?_; rintro e w' ⟨rfl, rfl⟩) | (go_at_call 133; refine (l1In_any _ _ _ _).mono ?_; rintro e w' ⟨rfl, rfl⟩))
  refine bodyPost_ret (v := algV p n (some ⟨w.heap.size + 1, 0, none⟩) _ _) (by simp [results, Tryz.results127, go_sem]) rfl ⟨_, rfl, ?_, ?_⟩
  · have := HM.out (w.alloc (.cells #[.int .i64 p, .int .i64 n, .slice (some ⟨w.heap.size + 1, 0, none⟩) (n * n * n).toNat (n * n * n).toNat] 26)) (by simp)
    simpa using this
  · exact (Ext.alloc w _).trans (Ext.alloc _ _)

end Go.Proofs.YtenlhfimdpcaoaaGreat

namespace Go.Proofs.YtenlhfimdpcaoaaGreat
open Go.RowKit

def resB (p : Int) (xs : List Int) : Bool := !xs.any fun n => !insB n 0 (p - 1)
theorem resB_true {p : Int} {xs : List Int} : resB p xs = true ↔ Res p xs := by
  unfold resB Res
  rw [Bool.not_eq_true', Bool.eq_false_iff, ne_eq, any_of]
  constructor
  · intro h i hi
    have : insB (xs.getD i 0) 0 (p - 1) = true := by
      cases hb : insB (xs.getD i 0) 0 (p - 1)
      · exact absurd ⟨i, hi, by rw [hb]; rfl⟩ h
      · rfl
    rw [insB_true] at this
    omega
  · rintro h ⟨i, hi, hf⟩
    have := h i hi
    have h2 : insB (xs.getD i 0) 0 (p - 1) = true := insB_true.2 (by omega)
    rw [h2] at hf
    cases hf
def zeroB (xs : List Int) : Bool := !xs.any fun n => n != 0
theorem zeroB_true {xs : List Int} : zeroB xs = true ↔ ∀ i, i < xs.length → xs.getD i 0 = 0 := by
  unfold zeroB
  rw [Bool.not_eq_true', Bool.eq_false_iff, ne_eq, any_of]
  constructor
  · intro h i hi
    cases hb : (xs.getD i 0 != 0)
    · simpa using hb
    · exact absurd ⟨i, hi, hb⟩ h
  · rintro h ⟨i, hi, hf⟩
    rw [h i hi] at hf
    cases hf

theorem residues1_any (x p : Int) (b : Nat) (w : World) (hb : w.cell? ⟨b, 0, none⟩ = some (.int .i64 p)) (hp : -1000000 ≤ p) (hp2 : p ≤ 1000000000000) :
    Calls Tryz.prog 138 #[.int .i64 x, .pointer (some ⟨b, 0, none⟩)] w fun e w' => e = .returned (.bool (!insB x 0 (p - 1))) ∧ w = w' := by
  go_enter Tryz.func138, Tryz.ntmps138
  go_wp2_with (go_at_call 74; refine (inside_any _ _ _ _).mono ?_; rintro e w' ⟨rfl, rfl⟩)
  go_ret
  exact ⟨rfl, rfl⟩
theorem callFunc_residues1 (args : Array Value) (w : World) : Sem.run Tryz.prog (callFunc 138 args) w = .ok (.enter 138 args) w := by
  kernel_rfl

set_option maxHeartbeats 1000000 in
theorem residues_any (a : Option Addr) (n c : Nat) (xs : List Int) (p : Int) (w : World) (h : IntsAt w a n xs) (hn : n ≤ 1000000000000) (hp : -1000000 ≤ p) (hp2 : p ≤ 1000000000000) :
    Calls Tryz.prog 75 #[.slice a n c, .int .i64 p] w fun e w' => e = .returned (.bool (resB p xs)) ∧ Ext w w' := by
  have hb : (w.alloc (.cells #[.int .i64 p] 3)).cell? ⟨w.heap.size, 0, none⟩ = some (.int .i64 p) := (cell_top _ _ _ _ _ rfl).trans rfl
  have H := hidP (containsFunc_any 138 #[.pointer (some ⟨w.heap.size, 0, none⟩)] (fun x => !insB x 0 (p - 1)) a n c xs _ (h.below (Ext.alloc w (.cells #[.int .i64 p] 3))) hn callFunc_residues1 (fun x => residues1_any x p w.heap.size _ hb hp hp2))
  clear h hb
  go_enter Tryz.func75, Tryz.ntmps75
  go_wp2_with (go_at_call 137; refine H.out.mono ?_; rintro e w' ⟨rfl, rfl⟩)
  go_ret
  exact ⟨rfl, Ext.alloc _ _⟩
theorem isZero1_any (x : Int) (w : World) : Calls Tryz.prog 139 #[.int .i64 x] w fun e w' => e = .returned (.bool (x != 0)) ∧ w = w' := by
  go_enter Tryz.func139, Tryz.ntmps139
  go_wp2
  go_ret
  exact ⟨rfl, rfl⟩
theorem callFunc_isZero1 (args : Array Value) (w : World) : Sem.run Tryz.prog (callFunc 139 args) w = .ok (.enter 139 args) w := by
  kernel_rfl
theorem isZero_any (a : Option Addr) (n c : Nat) (xs : List Int) (w : World) (h : IntsAt w a n xs) (hn : n ≤ 1000000000000) :
    Calls Tryz.prog 79 #[.slice a n c] w fun e w' => e = .returned (.bool (zeroB xs)) ∧ w = w' := by
  have H := hidP (containsFunc_any 139 #[] (fun x => x != 0) a n c xs _ h hn callFunc_isZero1 (fun x => isZero1_any x _))
  clear h
  go_enter Tryz.func79, Tryz.ntmps79
  go_wp2_with (go_at_call 137; refine H.out.mono ?_; rintro e w' ⟨rfl, rfl⟩)
  go_ret
  exact ⟨rfl, rfl⟩

set_option maxHeartbeats 1000000 in
theorem addTo_any (a a' : Option Addr) (n c c' : Nat) (xs ys : List Int) (k p : Int) (w : World) (h : IntsAt w a n xs) (h' : IntsAt w a' n ys) (hf : ∀ i b o, i < n → a = some ⟨b, o, none⟩ → w.frozen? ⟨b, o + i, none⟩ = false)
    (hne : ∀ b o b' o', a = some ⟨b, o, none⟩ → a' = some ⟨b', o', none⟩ → b ≠ b') (hn : n ≤ 1000000000000)
    (hx : ∀ j, j < n → 0 ≤ xs.getD j 0 ∧ xs.getD j 0 ≤ 1000000) (hy : ∀ j, j < n → 0 ≤ ys.getD j 0 ∧ ys.getD j 0 ≤ 1000000) (hk0 : 0 ≤ k) (hk1 : k ≤ 1000000) (hp0 : 1 ≤ p) (hp1 : p ≤ 1000000) :
    Calls Tryz.prog 78 #[.slice a n c, .int .i64 k, .slice a' n c', .int .i64 p] w fun e w' => e = .returned (.tuple #[]) ∧ UpdI w w' a n (addL p xs k ys) := by
  have hst := UpdI.start h
  have HG := hidP h'
  have HR := hidP h
  have L := hidP h.len
  have LA := hidP (addL_length p xs k ys)
  have HF := hidP hf
  have HST := hidP hst
  have HNE := hidP hne
  have HX := hidP hx
  have HY := hidP hy
  clear h h' hf hst hne hx hy
  go_enter Tryz.func78, Tryz.ntmps78
  go_wp2
  go_loopw [12] (fun i wr => ∃ j : Nat, j ≤ n ∧ Hid (UpdI w wr a n (partly xs (addL p xs k ys) j)) ∧ i = .int .i64 j) (fun i _ => n - (intOf i).toNat)
  case atStart => exact ⟨0, Nat.zero_le _, by rw [partly_zero]; exact HST, rfl⟩
  case round =>
    obtain ⟨j, hj, HU, rfl⟩ := hrel
    by_cases hlt : j < n
    · obtain ⟨b, o, rfl, _⟩ := HR.out.get j hlt
      obtain ⟨b', o', rfl, q'⟩ := (HU.out.others HG.out HNE.out).get j hlt
      obtain ⟨q, hfz⟩ := HU.out.cellInt j hlt
      rw [partly_get _ _ j n hlt L.out (LA.out.trans L.out)] at q
      have hz : wr.frozen? ⟨b, o + j, none⟩ = false := hfz.trans (HF.out j b o hlt rfl)
      obtain ⟨x0, x1⟩ := HX.out j hlt
      obtain ⟨y0, y1⟩ := HY.out j hlt
      have hs := HU.out.store j hlt ((xs.getD j 0 + k * ys.getD j 0) % p)
      rw [← addL_get p xs k ys j (by have := L.out; omega), partly_succ xs _ n j hlt L.out (LA.out.trans L.out)] at hs
      have hg := addL_get p xs k ys j (by have := L.out; omega)
      generalize xs.getD j 0 = x at *
      generalize ys.getD j 0 = y at *
      have hm0 : 0 ≤ k * y := Int.mul_nonneg hk0 y0
      have hm1 : k * y ≤ 1000000000000 := by
        have := Int.mul_le_mul hk1 y1 y0 (by omega : (0 : Int) ≤ 1000000)
        omega
      have HS := hidP hs
      have HE := hidP hg
      clear hs hfz hg
      go_wp2
      go_roundw
      case rel =>
        refine ⟨j + 1, by omega, ?_, by go_num⟩
        have := HS.out
        rw [HE.out] at this
        exact this
      case measure => simp [intOf]; omega
    · have hu := HU.out
      obtain rfl : j = n := by omega
      rw [partly_all xs _ j L.out (LA.out.trans L.out)] at hu
      go_wp2
      go_end0
      exact ⟨rfl, hu⟩
end Go.Proofs.YtenlhfimdpcaoaaGreat

namespace Go.Proofs.YtenlhfimdpcaoaaGreat
open Go.RowKit

theorem newLie_any (p d : Int) (a : Option Addr) (n c : Nat) (w : World) :
    Calls Tryz.prog 66 #[algV p d a n c] w fun e w' => e = .returned (algV p d a n c) ∧ Ext w w' := by
  go_enter Tryz.func66, Tryz.ntmps66
  go_wp2
  exact bodyPost_ret (v := algV p d a n c) (by simp [results, Tryz.results66, go_sem]) rfl ⟨rfl, (Ext.alloc w _).trans (Ext.alloc _ _)⟩

set_option maxHeartbeats 1000000 in
theorem pair_any (p : Int) (d i j : Nat) (b o N c : Nat) (w : World) (hd : d ≤ 28) (hi : i < d) (hj : j < d) (hN : d * d * d ≤ N) (hc : N ≤ c) (hc2 : c ≤ 9223372036854775807) :
    Calls Tryz.prog 77 #[algV p d (some ⟨b, o, none⟩) N c, .int .i64 i, .int .i64 j] w fun e w' => e = .returned (.slice (some ⟨b, o + (i * d + j) * d, none⟩) d (c - (i * d + j) * d)) ∧ Ext w w' := by
  have hx := nidx_lt hi hj
  have h1 : i * d ≤ 28 * 28 := Nat.mul_le_mul (by omega) hd
  have h2 : (i * d + j) * d ≤ 900 * 28 := Nat.mul_le_mul (by omega) hd
  have e2 : 0 ≤ (i : Int) * d := Int.mul_nonneg (by omega) (by omega)
  have e3 : (i : Int) * d ≤ 784 := by
    have : ((i * d : Nat) : Int) ≤ 784 := by omega
    rwa [Int.natCast_mul] at this
  obtain ⟨t, ht⟩ : ∃ t, (i * d + j) * d = t := ⟨_, rfl⟩
  have e4 : ((i : Int) * d + j) * d = (t : Int) := by rw [← ht]; simp
  rw [ht] at hx h2 ⊢
  have hlt : t < c := by omega
  have ht2 : t + d ≤ c := by omega
  have hct : ¬ c = t := by omega
  clear ht h1 hx hN
  go_enter Tryz.func77, Tryz.ntmps77
  go_wp2
  go_ret
  exact ⟨congrArg (fun z => Ending.returned (Value.slice (some ⟨b, o + t, none⟩) z (c - t))) (Nat.add_sub_cancel_left t d), Ext.alloc _ _⟩

set_option maxRecDepth 100000 in
set_option maxHeartbeats 2000000 in
theorem right_any (p : Int) (d j : Nat) (b o N c : Nat) (t : List Int) (au : Option Addr) (cu : Nat) (u : List Int) (w : World) (hd : d ≤ 28) (hj : j < d) (hN : N = d * d * d) (hc : N ≤ c) (hc2 : c ≤ 9223372036854775807)
    (ht : IntsAt w (some ⟨b, o, none⟩) N t) (hu : IntsAt w au d u) (hp : 1 ≤ p) (hp2 : p ≤ 10007) (hrt : Res p t) (hru : Res p u) :
    Calls Tryz.prog 80 #[algV p d (some ⟨b, o, none⟩) N c, .slice au d cu, .int .i64 j] w fun e w' => ∃ a, e = .returned (.slice a d d) ∧ OwnI w' w.heap.size a d d (rightL p t d u j) ∧ Ext w w' := by
  have HM := hidP (OwnI.made (w.alloc (.cells #[.int .i64 p, .int .i64 (d : Int), .slice (some ⟨b, o, none⟩) N c] 80)) (w.heap.size + 1) d (by simp) (by unfold maxLen; omega))
  have hmk := make_ints (d : Int) (by omega) (by omega)
  simp only [Int.toNat_natCast] at hmk
  have HT := hidP ht
  have HU := hidP hu
  have HRT := hidP hrt
  have HRU := hidP hru
  have LU := hidP hu.len
  have HAL := hidP (AlgAt.new w _ rfl p d (some ⟨b, o, none⟩) N c 80)
  have HX1 := hidP (Ext.alloc w (.cells #[.int .i64 p, .int .i64 (d : Int), .slice (some ⟨b, o, none⟩) N c] 80))
  have LT := hidP (ht.len.trans hN)
  have HN := hidP hN
  have hwb : b < w.heap.size := ht.block_lt (by rw [hN]; exact Nat.mul_pos (Nat.mul_pos (by omega) (by omega)) (by omega))
  clear ht hu hrt hru hN
  go_enter Tryz.func80, Tryz.ntmps80
  go_wp2
  obtain ⟨w0, hw0⟩ : ∃ w0, w0 = w.alloc (.cells #[.int .i64 p, .int .i64 (d : Int), .slice (some ⟨b, o, none⟩) N c] 80) := ⟨_, rfl⟩
  rw [← hw0] at HM HAL HX1 ⊢
  have hsz : w0.heap.size = w.heap.size + 1 := by rw [hw0]; simp
  obtain ⟨w1, hw1⟩ : ∃ w1, w1 = w0.alloc (.cells (Array.replicate d (.int .i64 0)) 3) := ⟨_, rfl⟩
  rw [← hw1] at HM ⊢
  rw [hsz] at HM
  have hx01 : Ext w0 w1 := by rw [hw1]; exact Ext.alloc _ _
  have HX01 := hidP hx01
  have HAL1 := hidP (HAL.out.below hx01)
  have hst := UpdI.start HM.out.ints
  rw [← rightTo_zero p t d u j] at hst
  have HST := hidP hst
  have hsz1 : w.heap.size + 1 < w1.heap.size := by rw [hw1]; simp; omega
  clear hw0 hw1 hx01 hst hmk hsz
  go_loopw [15] (fun i wr => ∃ k : Nat, k ≤ d ∧ Hid (UpdI w1 wr (some ⟨w.heap.size + 1, 0, none⟩) d (rightTo p t d u j k)) ∧ i = .int .i64 k) (fun i _ => d - (intOf i).toNat)
  case atStart => exact ⟨0, Nat.zero_le _, HST, rfl⟩
  case round =>
    obtain ⟨k, hk, HUP, rfl⟩ := hrel
    by_cases hlt : k < d
    · have hOr := HUP.out.own HM.out
      have hALr := HAL1.out.upd HUP.out (fun b' o' e => by cases e; omega)
      have hbw : Below (w.heap.size + 1) w1 wr := HUP.out.below (Below.refl _ _) (by omega) (fun b' o' e _ => by cases e; omega)
      have hx : Ext w wr := Below.trans (HX1.out.trans HX01.out) (hbw.mono (by omega))
      obtain ⟨bu, ou, rfl, q⟩ := (HU.out.below hx).get k hlt
      by_cases hz : u.getD k 0 = 0
      · have hb : (u[k]?.getD 0 != 0) = false := by simpa [List.getD_eq_getElem?_getD] using hz
        have HS := hidP (rightTo_skip p t d u j k hz)
        clear hz hOr hALr hbw hx
        go_wp2
        go_roundw
        case rel => exact ⟨k + 1, by omega, (by rw [HS.out]; exact HUP.out), by go_num⟩
        case measure => simp [intOf]; omega
      · have hb : (u[k]?.getD 0 != 0) = true := by simpa [List.getD_eq_getElem?_getD] using hz
        have HS := hidP (rightTo_succ p t d u j k)
        have hru := HRU.out k (by have := LU.out; omega)
        clear hz
        have HPR := hidP (fun w' => pair_any p d k j b o N c w' hd hlt hj (by have := HN.out; omega) hc hc2)
        have HE := hidP hx
        have HO := hidP hOr
        have HF := hidP (fun w' (hx' : Ext wr w') => (⟨(hALr.below hx').c0, (hALr.below hx').c1, (hALr.below hx').c2⟩ : _ ∧ _ ∧ _))
        clear hOr hALr hbw hx
        have HA := hidP (fun w' (hx' : Ext wr w') => addTo_any (some ⟨w.heap.size + 1, 0, none⟩) (some ⟨b, o + (k * d + j) * d, none⟩) d d (c - (k * d + j) * d) (rightTo p t d u j k) (pairL t d k j) (u.getD k 0) p w' (HO.out.below hx').ints
          ((HT.out.below (HE.out.trans hx')).part ((k * d + j) * d) d (by have := HN.out; have := nidx_lt hlt hj; omega)) (HO.out.below hx').unfrozen (fun b1 o1 b2 o2 e1 e2 => by cases e1; cases e2; omega) (by omega)
          ((rightTo_res (by omega) t d u j k).bd (rightTo_length _ _ _ _ _ _) hp2) ((pairL_res HRT.out d k j).bd (pairL_length LT.out hlt hj) hp2) hru.1 (by omega) hp (by omega))
        rw [← HS.out] at HA
        have hE : Ext wr wr.drew := Ext.drew wr
        go_wp2
        (refine walkR_start (fun w' => Ext wr w') 8 (by kernel_rfl) ?_; simp only [numbered, List.take_succ_cons, List.take_zero, Nat.zero_add, Nat.reduceAdd, List.length_cons, List.length_nil])
        repeat (refine walkR_still (v := ?_) rfl (by decide +kernel) rfl (fun _ _ _ h => h) hE ?_ ?_; rotate_left; (focus (intro w' hw'; obtain ⟨f0, f1, f2⟩ := HF.out w' hw'; go_simp; all_goals (with_reducible rfl))); simp only [Act.put, List.setIfInBounds_toArray, List.set_cons_zero, List.set_cons_succ])
        (refine walkR_later ?_; simp only [List.cons_append, List.nil_append])
        repeat (refine walkR_still (v := ?_) rfl (by decide +kernel) rfl (fun _ _ _ h => h) hE ?_ ?_; rotate_left; (focus (intro w' hw'; obtain ⟨f0, f1, f2⟩ := HF.out w' hw'; go_simp; all_goals (with_reducible rfl))); simp only [Act.put, List.setIfInBounds_toArray, List.set_cons_zero, List.set_cons_succ])
        (refine walkR_only (fun w' => Ext wr w') rfl (by decide +kernel) rfl ?_ ?_)
        · exact fun _ h => h
        intro K hK
        go_simp
        refine (HPR.out _).mono ?_
        rintro e w2 ⟨rfl, hx2⟩
        have HX2 := hidP ((Ext.drew wr).trans hx2)
        refine hK _ _ HX2.out ?_
        clear hK K hx2
        (try simp only [Act.put, List.setIfInBounds_toArray, List.set_cons_zero, List.set_cons_succ])
        (refine walkR_tail (by rfl) (by kernel_rfl) ?_; simp only [List.drop_succ_cons, List.drop_zero])
        go_wp2_with (go_at_call 78; refine (HA.out _ HX2.out).mono ?_; rintro e w3 ⟨rfl, hu3⟩)
        go_roundw
        case rel => exact ⟨k + 1, by omega, HUP.out.trans (HX2.out.upd HO.out.ints hu3), by go_num⟩
        case measure => simp [intOf]; omega
    · have hu := HUP.out
      obtain rfl : k = d := by omega
      rw [show rightTo p t k u j k = rightL p t k u j by unfold rightTo rightL; rw [LU.out]] at hu
      have ho := hidP ((hu.own HM.out).base (B' := w.heap.size) (by omega))
      have hbw : Below (w.heap.size + 1) w1 wr := hu.below (Below.refl _ _) (by omega) (fun b' o' e _ => by cases e; omega)
      have hx := hidP (Below.trans (HX1.out.trans HX01.out) (hbw.mono (Nat.le_succ _)))
      clear hu hbw
      go_wp2
      go_ret
      exact ⟨_, rfl, ho.out, hx.out⟩
end Go.Proofs.YtenlhfimdpcaoaaGreat

namespace Go.Proofs.YtenlhfimdpcaoaaGreat
open Go.RowKit

def skewB (p : Int) (t : List Int) (d i j : Nat) : Bool := zeroB (addL p (pairL t d i j) 1 (pairL t d j i)) && (decide (i ≠ j) || zeroB (pairL t d i i))
def jacL (p : Int) (t : List Int) (d i j k : Nat) : List Int := addL p (addL p (rightL p t d (pairL t d i j) k) 1 (rightL p t d (pairL t d j k) i)) 1 (rightL p t d (pairL t d k i) j)
def jacB (p : Int) (t : List Int) (d i j k : Nat) : Bool := zeroB (jacL p t d i j k)
/-- the part of validity that is asked ahead of the brackets -/
def headB (p d : Int) (t : List Int) : Bool := primeB p && insB d 0 28 && decide ((t.length : Int) = d * d * d) && resB p t
def AlgP (p d : Int) (t : List Int) : Prop := headB p d t = true ∧ (∀ i, i < d.toNat → ∀ j, j < i + 1 → skewB p t d.toNat i j = true) ∧
  ∀ i, i < d.toNat → ∀ j, j < d.toNat → ∀ k, k < d.toNat → i < j → j < k → jacB p t d.toNat i j k = true
instance (p d : Int) (t : List Int) : Decidable (AlgP p d t) := by unfold AlgP; infer_instance
def algB (p d : Int) (t : List Int) : Bool := decide (AlgP p d t)
theorem algB_true {p d : Int} {t : List Int} : algB p d t = true ↔ AlgP p d t := by simp [algB]
theorem algB_false {p d : Int} {t : List Int} : algB p d t = false ↔ ¬ AlgP p d t := by simp [algB]
theorem headB_true {p d : Int} {t : List Int} (h : headB p d t = true) : primeB p = true ∧ 0 ≤ d ∧ d ≤ 28 ∧ (t.length : Int) = d * d * d ∧ Res p t := by
  simp only [headB, Bool.and_eq_true, decide_eq_true_eq] at h
  obtain ⟨⟨⟨h1, h2⟩, h3⟩, h4⟩ := h
  exact ⟨h1, (insB_true.1 h2).1, (insB_true.1 h2).2, h3, resB_true.1 h4⟩

set_option maxRecDepth 100000 in
set_option maxHeartbeats 4000000 in
theorem algebraOk_good (p : Int) (d : Nat) (a : Option Addr) (N c : Nat) (t : List Int) (w : World) (ht : IntsAt w a N t) (hnc : N ≤ c) (hc2 : c ≤ 9223372036854775807) (hh : headB p d t = true) :
    Calls Tryz.prog 14 #[algV p d a N c] w fun e w' => e = .returned (.bool (algB p d t)) ∧ Ext w w' := by
  obtain ⟨hp, hd0, hd, hl, hr⟩ := headB_true hh
  obtain ⟨p2, p7⟩ := prime_bounds hp
  have hi : insB d 0 28 = true := insB_true.2 ⟨hd0, hd⟩
  obtain ⟨k1, k2, k3, k4⟩ := cube_le hd0 hd
  have hlN := ht.len
  have hN : N = d * d * d := by
    have : ((t.length : Nat) : Int) = ((d * d * d : Nat) : Int) := by rw [hl]; simp
    omega
  have hNi : ((N : Int) != (d : Int) * d * d) = false := by rw [← hlN, hl]; simp
  have hrb : resB p t = true := resB_true.2 hr
  have HRS := hidP (fun w' (hx : Ext w w') => residues_any a N c t p w' (ht.below hx) (by omega) (by omega) (by omega))
  have HT := hidP ht
  have HR := hidP hr
  have HH := hidP hh
  have HN := hidP hN
  have LT := hidP (hlN.trans hN)
  clear ht hr hh hl hlN hN
  go_enter Tryz.func14, Tryz.ntmps14
  go_wp2_with (first | (go_at_call 73; refine (isPrime_any _ _).mono ?_; rintro e w' ⟨rfl, rfl⟩) | (go_at_call 74; refine (inside_any _ _ _ _).mono ?_; rintro e w' ⟨rfl, rfl⟩) | (go_at_call 75; refine (HRS.out _ (Ext.alloc w _)).mono ?_; rintro e w1 ⟨rfl, hx1⟩; obtain ⟨r0, r1, r2, _, _, _, hs01, hx01⟩ := resAlg hx1) | (go_at_call 66; refine (newLie_any _ _ _ _ _ _).mono ?_; rintro e w2 ⟨rfl, hx2⟩; have g0 := (hx2.cell (p := ⟨w.heap.size, 0, none⟩) hs01).trans r0; have g1 := (hx2.cell (p := ⟨w.heap.size, 1, none⟩) hs01).trans r1; have g2 := (hx2.cell (p := ⟨w.heap.size, 2, none⟩) hs01).trans r2; have hs02 := Nat.lt_of_lt_of_le hs01 hx2.size; clear r0 r1 r2))
  obtain ⟨w3, hw3⟩ : ∃ w3, w3 = w2.alloc (.cells #[.int .i64 p, .int .i64 (d : Int), .slice a N c] 80) := ⟨_, rfl⟩
  rw [← hw3]
  have hx3 : Ext w2 w3 := by rw [hw3]; exact Ext.alloc _ _
  have ha1 := (⟨g0, g1, g2⟩ : AlgAt w2 w.heap.size p d a N c).below hx3
  have ha3 : AlgAt w3 w2.heap.size p d a N c := by rw [hw3]; exact AlgAt.new w2 _ rfl _ _ _ _ _ _
  have HX := hidP ((hx01.trans hx2).trans hx3)
  have HF := hidP (fun w' (hx : Ext w3 w') => (⟨(ha1.below hx).c0, (ha1.below hx).c1, (ha3.below hx).c0, (ha3.below hx).c1, (ha3.below hx).c2⟩ : _ ∧ _ ∧ _ ∧ _ ∧ _))
  clear hw3 hx3 ha1 ha3 g0 g1 g2 hx01 hx2 hx1 hs01 HRS hNi hi hrb hp
  go_loopw [47] (fun v wr => ∃ i : Nat, i ≤ d ∧ Hid (∀ i', i' < i → ∀ j, j < i' + 1 → skewB p t d i' j = true) ∧ Hid (Ext w3 wr) ∧ v = .int .i64 i) (fun v _ => d - (intOf v).toNat)
  case atStart => exact ⟨0, Nat.zero_le _, fun i' h => by omega, Ext.refl _, rfl⟩
  case round =>
    obtain ⟨i, hi', HS, HXr, rfl⟩ := hrel
    by_cases hlt : i < d
    · obtain ⟨b, o, rfl, _⟩ := HT.out.get 0 (by rw [HN.out]; exact Nat.mul_pos (Nat.mul_pos (by omega) (by omega)) (by omega))
      obtain ⟨wo, rfl⟩ : ∃ wo : World, wo = wr := ⟨_, rfl⟩
      go_wp2
      go_loopw [52] (fun v wr => ∃ j : Nat, j ≤ i + 1 ∧ Hid (∀ j', j' < j → skewB p t d i j' = true) ∧ Hid (Ext w3 wr) ∧ v = .int .i64 j) (fun v _ => i + 1 - (intOf v).toNat)
      case atStart => exact ⟨0, Nat.zero_le _, fun i' h => by omega, HXr, rfl⟩
      case round =>
        obtain ⟨j, hj', HJ, HXi, rfl⟩ := hrel
        by_cases hjl : j < i + 1
        · have HPR := hidP (fun i j hi hj w' => pair_any p d i j b o N c w' (by omega) hi hj (by rw [HN.out]; exact Nat.le_refl _) hnc hc2)
          obtain ⟨f0, f1, f2, f3, f4⟩ := HF.out wr HXi.out
          go_wp2_with fail
          refine (HPR.out i j hlt (by omega) _).mono ?_
          rintro e w4 ⟨rfl, hx4⟩
          have HX4 := hidP (HXi.out.trans hx4)
          have HI4 := hidP (((HT.out.below HX.out).below HX4.out).part ((i * d + j) * d) d (by have := HN.out; have := nidx_lt hlt (show j < d by omega); omega))
          clear f0 f1 f2 f3 f4 hx4
          go_wp2_with fail
          refine (clone_any _ _ _ _ _ HI4.out (fun e => by cases e) (by omega)).mono ?_
          rintro e w5 ⟨aS, cS, rfl, ho5, hx5⟩
          have HO5 := hidP ho5
          have HX5 := hidP (HX4.out.trans hx5)
          clear ho5 hx5
          have hE : Ext w5 w5.drew := Ext.drew w5
          have HA := hidP (fun w' (hx' : Ext w5 w') => addTo_any aS (some ⟨b, o + (j * d + i) * d, none⟩) d cS (c - (j * d + i) * d) (pairL t d i j) (pairL t d j i) 1 p w' (HO5.out.below hx').ints
            ((HT.out.below ((HX.out.trans HX5.out).trans hx')).part ((j * d + i) * d) d (by have := HN.out; have := nidx_lt (show j < d by omega) hlt; omega)) (HO5.out.below hx').unfrozen
            (fun b1 o1 b2 o2 e1 e2 => by have := (HO5.out.at_base b1 o1 e1).1; cases e2; have := (HT.out.below (HX.out.trans HX4.out)).block_lt (by rw [HN.out]; exact Nat.mul_pos (Nat.mul_pos (by omega) (by omega)) (by omega)); omega) (by omega)
            ((pairL_res HR.out d i j).bd (pairL_length LT.out hlt (by omega)) p7) ((pairL_res HR.out d j i).bd (pairL_length LT.out (by omega) hlt) p7) (by omega) (by omega) (by omega) (by omega))
          go_wp2
          (refine walkR_start (fun w' => Ext w5 w') 7 (by kernel_rfl) ?_; simp only [numbered, List.take_succ_cons, List.take_zero, Nat.zero_add, Nat.reduceAdd, List.length_cons, List.length_nil])
          repeat (refine walkR_still (v := ?_) rfl (by decide +kernel) rfl (fun _ _ _ h => h) hE ?_ ?_; rotate_left; (focus (intro w' hw'; obtain ⟨f0, f1, f2, f3, f4⟩ := HF.out w' (HX5.out.trans hw'); go_simp; all_goals (with_reducible rfl))); simp only [Act.put, List.setIfInBounds_toArray, List.set_cons_zero, List.set_cons_succ])
          (refine walkR_later ?_; simp only [List.cons_append, List.nil_append])
          repeat (refine walkR_still (v := ?_) rfl (by decide +kernel) rfl (fun _ _ _ h => h) hE ?_ ?_; rotate_left; (focus (intro w' hw'; obtain ⟨f0, f1, f2, f3, f4⟩ := HF.out w' (HX5.out.trans hw'); go_simp; all_goals (with_reducible rfl))); simp only [Act.put, List.setIfInBounds_toArray, List.set_cons_zero, List.set_cons_succ])
          (refine walkR_only (fun w' => Ext w5 w') rfl (by decide +kernel) rfl ?_ ?_)
          · exact fun _ h => h
          intro K hK
          go_simp
          refine (HPR.out j i (by omega) hlt _).mono ?_
          rintro e w6 ⟨rfl, hx6⟩
          have HX6 := hidP ((Ext.drew w5).trans hx6)
          refine hK _ _ HX6.out ?_
          clear hK K hx6
          (try simp only [Act.put, List.setIfInBounds_toArray, List.set_cons_zero, List.set_cons_succ])
          (refine walkR_tail (by rfl) (by kernel_rfl) ?_; simp only [List.drop_succ_cons, List.drop_zero])
          go_wp2_with fail
          refine (HA.out _ HX6.out).mono ?_
          rintro e w7 ⟨rfl, hu7⟩
          have ho7 := hu7.own (HO5.out.below HX6.out)
          have hx7 : Ext w3 w7 := hu7.below (HX5.out.trans HX6.out) (HX5.out.trans HX6.out).size (fun b1 o1 e1 _ => by have := (HO5.out.at_base b1 o1 e1).1; have := HX4.out.size; omega)
          have HX7 := hidP hx7
          have HZ := hidP (fun w' (hx' : Ext w7 w') => isZero_any aS d cS _ w' (ho7.below hx').ints (by omega))
          have HP7 := hidP (fun w' (hx' : Ext w7 w') => ((HT.out.below ((HX.out.trans hx7).trans hx')).part ((i * d + i) * d) d (by have := HN.out; have := nidx_lt hlt hlt; omega)))
          have HSK : Hid (skewB p t d i j = (zeroB (addL p (pairL t d i j) 1 (pairL t d j i)) && (decide (i ≠ j) || zeroB (pairL t d i i)))) := rfl
          obtain ⟨f0, f1, f2, f3, f4⟩ := HF.out w7 hx7
          generalize addL p (pairL t d i j) 1 (pairL t d j i) = S at *
          clear hu7 ho7 hx7
          cases hz : zeroB S
          · have HB : Hid (algB p d t = false) := by
              show _ = _
              rw [algB_false]
              intro h
              have := h.2.1 i (by simpa using hlt) j hjl
              simp only [Int.toNat_natCast] at this
              rw [HSK.out, hz] at this
              cases this
            go_wp2_with fail
            refine (HZ.out _ (Ext.refl _)).mono ?_
            rintro e w8 ⟨rfl, rfl⟩
            go_wp2
            go_ret
            exact ⟨ret_bool HB.out.symm, HX.out.trans HX7.out⟩
          · go_wp2_with fail
            refine (HZ.out _ (Ext.refl _)).mono ?_
            rintro e w8 ⟨rfl, rfl⟩
            by_cases hij : i = j
            · subst hij
              have hd1 : ((i : Int) == i) = true := by simp
              cases hz2 : zeroB (pairL t d i i)
              · have HB : Hid (algB p d t = false) := by
                  show _ = _
                  rw [algB_false]
                  intro h
                  have := h.2.1 i (by simpa using hlt) i hjl
                  simp only [Int.toNat_natCast] at this
                  rw [HSK.out, hz, hz2] at this
                  simp at this
                go_wp2_with fail
                refine (HPR.out i i hlt hlt _).mono ?_
                rintro e w9 ⟨rfl, hx9⟩
                go_wp2_with fail
                refine (isZero_any _ _ _ _ _ (HP7.out _ hx9) (by omega)).mono ?_
                rintro e w10 ⟨rfl, rfl⟩
                have hz3 : zeroB (List.take d (List.drop ((i * d + i) * d) t)) = false := hz2
                have HX9 := hidP (HX7.out.trans hx9)
                clear hx9
                go_wp2
                go_ret
                exact ⟨ret_bool HB.out.symm, HX.out.trans HX9.out⟩
              · have HB : Hid (skewB p t d i i = true) := by
                  show _ = _
                  rw [HSK.out, hz, hz2]
                  simp
                go_wp2_with fail
                refine (HPR.out i i hlt hlt _).mono ?_
                rintro e w9 ⟨rfl, hx9⟩
                go_wp2_with fail
                refine (isZero_any _ _ _ _ _ (HP7.out _ hx9) (by omega)).mono ?_
                rintro e w10 ⟨rfl, rfl⟩
                have hz3 : zeroB (List.take d (List.drop ((i * d + i) * d) t)) = true := hz2
                have HX9 := hidP (HX7.out.trans hx9)
                clear hx9
                go_wp2
                go_roundw
                case rel =>
                  refine ⟨i + 1, by omega, fun j' hj' => ?_, HX9, by go_num⟩
                  rcases Nat.lt_succ_iff_lt_or_eq.1 hj' with h3 | rfl
                  · exact HJ.out j' h3
                  · exact HB.out
                case measure => simp [intOf]
            · have hd1 : ((i : Int) == j) = false := by simp; omega
              have HB : Hid (skewB p t d i j = true) := by
                show _ = _
                rw [HSK.out, hz]
                simp [hij]
              clear hij
              go_wp2
              go_roundw
              case rel =>
                refine ⟨j + 1, by omega, fun j' hj' => ?_, HX7, by go_num⟩
                rcases Nat.lt_succ_iff_lt_or_eq.1 hj' with h3 | rfl
                · exact HJ.out j' h3
                · exact HB.out
              case measure => simp [intOf]; omega
        · have hjl : j = i + 1 := by omega
          subst hjl
          go_wp2
          go_roundw
          case rel =>
            refine ⟨i + 1, by omega, fun i' hi' j hj => ?_, HXi, by go_num⟩
            rcases Nat.lt_succ_iff_lt_or_eq.1 hi' with h3 | rfl
            · exact HS.out i' h3 j hj
            · exact HJ.out j hj
          case measure => simp [intOf]; omega
    · have hid : d = i := by omega
      subst hid
      have H1 := HS
      clear HS
      obtain ⟨f0, f1, f2, f3, f4⟩ := HF.out wr HXr.out
      have HX1 := HXr
      clear HXr hi' hlt
      obtain ⟨wo, rfl⟩ : ∃ wo : World, wo = wr := ⟨_, rfl⟩
      go_wp2
      clear f0 f1 f2 f3 f4
      go_loopw [88] (fun v wr => ∃ i : Nat, i ≤ d ∧ Hid (∀ i', i' < i → ∀ j, j < d → ∀ k, k < d → i' < j → j < k → jacB p t d i' j k = true) ∧ Hid (Ext w3 wr) ∧ v = .int .i64 i) (fun v _ => d - (intOf v).toNat)
      case atStart => exact ⟨0, Nat.zero_le _, fun i' h => by omega, HX1, rfl⟩
      case round =>
        obtain ⟨i, hi', HI, HXr, rfl⟩ := hrel
        by_cases hlt : i < d
        · obtain ⟨wo', rfl⟩ : ∃ wo' : World, wo' = wr := ⟨_, rfl⟩
          go_wp2
          go_loopw [8] (fun v wr => ∃ j : Nat, j ≤ d ∧ i < j ∧ Hid (∀ j', j' < j → ∀ k, k < d → i < j' → j' < k → jacB p t d i j' k = true) ∧ Hid (Ext w3 wr) ∧ v = .int .i64 j) (fun v _ => d - (intOf v).toNat)
          case atStart => exact ⟨i + 1, by omega, by omega, fun j' h k hk h1 h2 => by omega, HXr, by go_num⟩
          case round =>
            obtain ⟨j, hj', hij, HJ, HXi, rfl⟩ := hrel
            obtain ⟨f0, f1, f2, f3, f4⟩ := HF.out wr HXi.out
            by_cases hjl : j < d
            · obtain ⟨wo', rfl⟩ : ∃ wo' : World, wo' = wr := ⟨_, rfl⟩
              go_wp2
              clear f0 f1 f2 f3 f4
              go_loopw [9] (fun v wr => ∃ k : Nat, k ≤ d ∧ j < k ∧ Hid (∀ k', k' < k → j < k' → jacB p t d i j k' = true) ∧ Hid (Ext w3 wr) ∧ v = .int .i64 k) (fun v _ => d - (intOf v).toNat)
              case atStart => exact ⟨j + 1, by omega, by omega, fun j' h h1 => by omega, HXi, by go_num⟩
              case round =>
                obtain ⟨k, hk', hjk, HK, HXk, rfl⟩ := hrel
                obtain ⟨f0, f1, f2, f3, f4⟩ := HF.out wr HXk.out
                by_cases hkl : k < d
                · obtain ⟨b, o, rfl, _⟩ := HT.out.get 0 (by rw [HN.out]; exact Nat.mul_pos (Nat.mul_pos (by omega) (by omega)) (by omega))
                  have HPR := hidP (fun i j hi hj w' => pair_any p d i j b o N c w' (by omega) hi hj (by rw [HN.out]; exact Nat.le_refl _) hnc hc2)
                  have HRI := hidP (fun (i j k : Nat) (hi : i < d) (hj : j < d) (hk : k < d) w' (hx : Ext w3 w') => right_any p d k b o N c t (some ⟨b, o + (i * d + j) * d, none⟩) (c - (i * d + j) * d) (pairL t d i j) w' (by omega) hk HN.out hnc hc2 (HT.out.below (HX.out.trans hx))
                    ((HT.out.below (HX.out.trans hx)).part ((i * d + j) * d) d (by have := HN.out; have := nidx_lt hi hj; omega)) (by omega) p7 HR.out (pairL_res HR.out d i j))
                  have hE : Ext wr wr.drew := Ext.drew wr
                  go_wp2
                  clear f0 f1 f2 f3 f4
                  (refine walkR_start (fun w' => Ext wr w') 6 (by kernel_rfl) ?_; simp only [numbered, List.take_succ_cons, List.take_zero, Nat.zero_add, Nat.reduceAdd, List.length_cons, List.length_nil])
                  repeat (refine walkR_still (v := ?_) rfl (by decide +kernel) rfl (fun _ _ _ h => h) hE ?_ ?_; rotate_left; (focus (intro w' hw'; obtain ⟨f0, f1, f2, f3, f4⟩ := HF.out w' (HXk.out.trans hw'); go_simp; all_goals (with_reducible rfl))); simp only [Act.put, List.setIfInBounds_toArray, List.set_cons_zero, List.set_cons_succ])
                  (refine walkR_later ?_; simp only [List.cons_append, List.nil_append])
                  repeat (refine walkR_still (v := ?_) rfl (by decide +kernel) rfl (fun _ _ _ h => h) hE ?_ ?_; rotate_left; (focus (intro w' hw'; obtain ⟨f0, f1, f2, f3, f4⟩ := HF.out w' (HXk.out.trans hw'); go_simp; all_goals (with_reducible rfl))); simp only [Act.put, List.setIfInBounds_toArray, List.set_cons_zero, List.set_cons_succ])
                  (refine walkR_only (fun w' => Ext wr w') rfl (by decide +kernel) rfl ?_ ?_)
                  · exact fun _ h => h
                  intro K hK
                  go_simp
                  refine (HPR.out i j hlt hjl _).mono ?_
                  rintro e w4 ⟨rfl, hx4⟩
                  have HX4 := hidP (HXk.out.trans ((Ext.drew wr).trans hx4))
                  refine hK _ _ ((Ext.drew wr).trans hx4) ?_
                  clear hK K hx4
                  (try simp only [Act.put, List.setIfInBounds_toArray, List.set_cons_zero, List.set_cons_succ])
                  (refine walkR_tail (by rfl) (by kernel_rfl) ?_; simp only [List.drop_succ_cons, List.drop_zero])
                  go_wp2_with (go_at_call 80; refine (HRI.out i j k hlt hjl hkl _ HX4.out).mono ?_; rintro e w5 ⟨aS, rfl, ho5, hx5⟩; have HO5 := hidP ho5; have HX5 := hidP (HX4.out.trans hx5); have HBS := hidP (fun b1 o1 e1 => Nat.le_trans HX4.out.size (ho5.at_base b1 o1 e1).1); clear ho5 hx5 hE)
                  have hE : Ext w5 w5.drew := Ext.drew w5
                  go_wp2
                  (refine walkR_start (fun w' => Ext w5 w') 10 (by kernel_rfl) ?_; simp only [numbered, List.take_succ_cons, List.take_zero, Nat.zero_add, Nat.reduceAdd, List.length_cons, List.length_nil])
                  repeat (refine walkR_still (v := ?_) rfl (by decide +kernel) rfl (fun _ _ _ h => h) hE ?_ ?_; rotate_left; (focus (intro w' hw'; obtain ⟨f0, f1, f2, f3, f4⟩ := HF.out w' (HX5.out.trans hw'); go_simp; all_goals (with_reducible rfl))); simp only [Act.put, List.setIfInBounds_toArray, List.set_cons_zero, List.set_cons_succ])
                  (refine walkR_later ?_; simp only [List.cons_append, List.nil_append])
                  repeat (refine walkR_still (v := ?_) rfl (by decide +kernel) rfl (fun _ _ _ h => h) hE ?_ ?_; rotate_left; (focus (intro w' hw'; obtain ⟨f0, f1, f2, f3, f4⟩ := HF.out w' (HX5.out.trans hw'); go_simp; all_goals (with_reducible rfl))); simp only [Act.put, List.setIfInBounds_toArray, List.set_cons_zero, List.set_cons_succ])
                  (refine walkR_later ?_; simp only [List.cons_append, List.nil_append])
                  repeat (refine walkR_still (v := ?_) rfl (by decide +kernel) rfl (fun _ _ _ h => h) hE ?_ ?_; rotate_left; (focus (intro w' hw'; obtain ⟨f0, f1, f2, f3, f4⟩ := HF.out w' (HX5.out.trans hw'); go_simp; all_goals (with_reducible rfl))); simp only [Act.put, List.setIfInBounds_toArray, List.set_cons_zero, List.set_cons_succ])
                  (refine walkR_only (fun w' => Ext w5 w') rfl (by decide +kernel) rfl ?_ ?_)
                  · exact fun _ h => h
                  intro K hK
                  go_simp
                  refine (HPR.out j k (by omega) (by omega) _).mono ?_
                  rintro e wa6 ⟨rfl, hxa6⟩
                  have HXA6 := hidP ((Ext.drew w5).trans hxa6)
                  refine hK _ _ HXA6.out ?_
                  clear hK K hxa6
                  (try simp only [Act.put, List.setIfInBounds_toArray, List.set_cons_zero, List.set_cons_succ])
                  (refine walkR_only (fun w' => Ext w5 w') rfl (by decide +kernel) rfl ?_ ?_)
                  · exact fun _ h => h
                  intro K hK
                  go_simp
                  refine (HRI.out j k i (by omega) (by omega) (by omega) _ (HX5.out.trans HXA6.out)).mono ?_
                  rintro e wb6 ⟨aR6, rfl, hor6, hxb6⟩
                  have HXB6 := hidP (HXA6.out.trans hxb6)
                  refine hK _ _ HXB6.out ?_
                  clear hK K
                  have HO6 := hidP (HO5.out.below HXB6.out)
                  have HA := hidP (addTo_any aS aR6 d d d (rightL p t d (pairL t d i j) k) (rightL p t d (pairL t d j k) i) 1 p wb6 HO6.out.ints hor6.ints HO6.out.unfrozen
                    (fun b1 o1 b2 o2 e1 e2 => by have h1 := (HO5.out.at_base b1 o1 e1).2; have h2 := (hor6.at_base b2 o2 e2).1; have := HXA6.out.size; omega) (by omega)
                    ((rightL_res (by omega) t d (pairL t d i j) k).bd (by first | exact rightL_length _ _ _ _ _ | (rw [addL_length]; exact rightL_length _ _ _ _ _)) p7) ((rightL_res (by omega) t d (pairL t d j k) i).bd (rightL_length _ _ _ _ _) p7) (by omega) (by omega) (by omega) (by omega))
                  clear hor6 hxb6
                  (try simp only [Act.put, List.setIfInBounds_toArray, List.set_cons_zero, List.set_cons_succ])
                  (refine walkR_tail (by rfl) (by kernel_rfl) ?_; simp only [List.drop_succ_cons, List.drop_zero])
                  go_wp2_with fail
                  refine HA.out.mono ?_
                  rintro e wc6 ⟨rfl, hu6⟩
                  have HP6 := hidP (hu6.own HO6.out)
                  have HX6 : Hid (Ext w3 wc6) := hu6.below (HX5.out.trans HXB6.out) (HX5.out.trans HXB6.out).size (fun b1 o1 e1 _ => (HBS.out b1 o1 e1))
                  clear hu6 hE HA
                  have hE : Ext wc6 wc6.drew := Ext.drew wc6
                  go_wp2
                  (refine walkR_start (fun w' => Ext wc6 w') 10 (by kernel_rfl) ?_; simp only [numbered, List.take_succ_cons, List.take_zero, Nat.zero_add, Nat.reduceAdd, List.length_cons, List.length_nil])
                  repeat (refine walkR_still (v := ?_) rfl (by decide +kernel) rfl (fun _ _ _ h => h) hE ?_ ?_; rotate_left; (focus (intro w' hw'; obtain ⟨f0, f1, f2, f3, f4⟩ := HF.out w' (HX6.out.trans hw'); go_simp; all_goals (with_reducible rfl))); simp only [Act.put, List.setIfInBounds_toArray, List.set_cons_zero, List.set_cons_succ])
                  (refine walkR_later ?_; simp only [List.cons_append, List.nil_append])
                  repeat (refine walkR_still (v := ?_) rfl (by decide +kernel) rfl (fun _ _ _ h => h) hE ?_ ?_; rotate_left; (focus (intro w' hw'; obtain ⟨f0, f1, f2, f3, f4⟩ := HF.out w' (HX6.out.trans hw'); go_simp; all_goals (with_reducible rfl))); simp only [Act.put, List.setIfInBounds_toArray, List.set_cons_zero, List.set_cons_succ])
                  (refine walkR_later ?_; simp only [List.cons_append, List.nil_append])
                  repeat (refine walkR_still (v := ?_) rfl (by decide +kernel) rfl (fun _ _ _ h => h) hE ?_ ?_; rotate_left; (focus (intro w' hw'; obtain ⟨f0, f1, f2, f3, f4⟩ := HF.out w' (HX6.out.trans hw'); go_simp; all_goals (with_reducible rfl))); simp only [Act.put, List.setIfInBounds_toArray, List.set_cons_zero, List.set_cons_succ])
                  (refine walkR_only (fun w' => Ext wc6 w') rfl (by decide +kernel) rfl ?_ ?_)
                  · exact fun _ h => h
                  intro K hK
                  go_simp
                  refine (HPR.out k i (by omega) (by omega) _).mono ?_
                  rintro e wa7 ⟨rfl, hxa7⟩
                  have HXA7 := hidP ((Ext.drew wc6).trans hxa7)
                  refine hK _ _ HXA7.out ?_
                  clear hK K hxa7
                  (try simp only [Act.put, List.setIfInBounds_toArray, List.set_cons_zero, List.set_cons_succ])
                  (refine walkR_only (fun w' => Ext wc6 w') rfl (by decide +kernel) rfl ?_ ?_)
                  · exact fun _ h => h
                  intro K hK
                  go_simp
                  refine (HRI.out k i j (by omega) (by omega) (by omega) _ (HX6.out.trans HXA7.out)).mono ?_
                  rintro e wb7 ⟨aR7, rfl, hor7, hxb7⟩
                  have HXB7 := hidP (HXA7.out.trans hxb7)
                  refine hK _ _ HXB7.out ?_
                  clear hK K
                  have HO7 := hidP (HP6.out.below HXB7.out)
                  have HA := hidP (addTo_any aS aR7 d d d (addL p (rightL p t d (pairL t d i j) k) 1 (rightL p t d (pairL t d j k) i)) (rightL p t d (pairL t d k i) j) 1 p wb7 HO7.out.ints hor7.ints HO7.out.unfrozen
                    (fun b1 o1 b2 o2 e1 e2 => by have h1 := (HP6.out.at_base b1 o1 e1).2; have h2 := (hor7.at_base b2 o2 e2).1; have := HXA7.out.size; omega) (by omega)
                    ((addL_res (by omega) _ _ _).bd (by first | exact rightL_length _ _ _ _ _ | (rw [addL_length]; exact rightL_length _ _ _ _ _)) p7) ((rightL_res (by omega) t d (pairL t d k i) j).bd (rightL_length _ _ _ _ _) p7) (by omega) (by omega) (by omega) (by omega))
                  clear hor7 hxb7
                  (try simp only [Act.put, List.setIfInBounds_toArray, List.set_cons_zero, List.set_cons_succ])
                  (refine walkR_tail (by rfl) (by kernel_rfl) ?_; simp only [List.drop_succ_cons, List.drop_zero])
                  go_wp2_with fail
                  refine HA.out.mono ?_
                  rintro e wc7 ⟨rfl, hu7⟩
                  have HP7 := hidP (hu7.own HO7.out)
                  have HX7 : Hid (Ext w3 wc7) := hu7.below (HX6.out.trans HXB7.out) (HX6.out.trans HXB7.out).size (fun b1 o1 e1 _ => (HBS.out b1 o1 e1))
                  clear hu7 hE HA
                  have HZ := hidP (isZero_any aS d d _ wc7 HP7.out.ints (by omega))
                  have HJB : Hid (jacB p t d i j k = zeroB (addL p (addL p (rightL p t d (pairL t d i j) k) 1 (rightL p t d (pairL t d j k) i)) 1 (rightL p t d (pairL t d k i) j))) := rfl
                  generalize addL p (addL p (rightL p t d (pairL t d i j) k) 1 (rightL p t d (pairL t d j k) i)) 1 (rightL p t d (pairL t d k i) j) = S at *
                  cases hz : zeroB S
                  · have HB : Hid (algB p d t = false) := by
                      show _ = _
                      rw [algB_false]
                      intro h
                      have := h.2.2 i (by simpa using hlt) j (by simpa using hjl) k (by simpa using hkl) hij hjk
                      simp only [Int.toNat_natCast] at this
                      rw [HJB.out, hz] at this
                      cases this
                    go_wp2_with fail
                    refine HZ.out.mono ?_
                    rintro e w8 ⟨rfl, rfl⟩
                    go_wp2
                    go_ret
                    exact ⟨ret_bool HB.out.symm, HX.out.trans HX7.out⟩
                  · go_wp2_with fail
                    refine HZ.out.mono ?_
                    rintro e w8 ⟨rfl, rfl⟩
                    have HB := hidP (HJB.out.trans hz)
                    go_wp2
                    go_roundw
                    case rel =>
                      refine ⟨k + 1, by omega, by omega, fun k' hk' h1 => ?_, HX7, by go_num⟩
                      rcases Nat.lt_succ_iff_lt_or_eq.1 hk' with h3 | rfl
                      · exact HK.out k' h3 h1
                      · exact HB.out
                    case measure => simp [intOf]; omega
                · obtain rfl : k = d := by omega
                  go_wp2
                  go_roundw
                  case rel =>
                    refine ⟨j + 1, by omega, by omega, fun j' hj' k' hk1 h1 h2 => ?_, HXk, by go_num⟩
                    rcases Nat.lt_succ_iff_lt_or_eq.1 hj' with h3 | rfl
                    · exact HJ.out j' h3 k' hk1 h1 h2
                    · exact HK.out k' hk1 h2
                  case measure => simp [intOf]; omega
            · obtain rfl : j = d := by omega
              go_wp2
              go_roundw
              case rel =>
                refine ⟨i + 1, by omega, fun i' hi1 j' hj1 k' hk1 h1 h2 => ?_, HXi, by go_num⟩
                rcases Nat.lt_succ_iff_lt_or_eq.1 hi1 with h3 | rfl
                · exact HI.out i' h3 j' hj1 k' hk1 h1 h2
                · exact HJ.out j' hj1 k' hk1 h1 h2
              case measure => simp [intOf]; omega
        · obtain rfl : i = d := by omega
          have HB : Hid (algB p i t = true) := by
            show _ = _
            rw [algB_true]
            refine ⟨HH.out, fun i' hi1 j hj => ?_, fun i' hi1 j hj k hk h1 h2 => ?_⟩
            · simp only [Int.toNat_natCast] at hi1 ⊢
              exact H1.out i' hi1 j hj
            · simp only [Int.toNat_natCast] at hi1 hj hk ⊢
              exact HI.out i' hi1 j hj k hk h1 h2
          go_wp2
          go_ret
          exact ⟨ret_bool HB.out.symm, HX.out.trans HXr.out⟩

set_option maxHeartbeats 2000000 in
theorem algebraOk_any (p d : Int) (a : Option Addr) (N c : Nat) (t : List Int) (w : World) (ht : IntsAt w a N t) (hnc : N ≤ c) (hc2 : c ≤ 9223372036854775807) :
    Calls Tryz.prog 14 #[algV p d a N c] w fun e w' => e = .returned (.bool (algB p d t)) ∧ Ext w w' := by
  cases hh : headB p d t
  · have HB : Hid (algB p d t = false) := by
      show _ = _
      rw [algB_false]
      intro h
      rw [h.1] at hh
      cases hh
    have hl := ht.len
    simp only [headB, Bool.and_eq_false_iff, decide_eq_false_iff_not] at hh
    cases hp : primeB p
    · clear hh ht hl
      go_enter Tryz.func14, Tryz.ntmps14
      go_wp2_with (first | (go_at_call 73; refine (isPrime_any _ _).mono ?_; rintro e w' ⟨rfl, rfl⟩))
      go_ret
      exact ⟨ret_bool HB.out.symm, Ext.alloc _ _⟩
    · cases hi : insB d 0 28
      · clear hh ht hl
        go_enter Tryz.func14, Tryz.ntmps14
        go_wp2_with (first | (go_at_call 73; refine (isPrime_any _ _).mono ?_; rintro e w' ⟨rfl, rfl⟩) | (go_at_call 74; refine (inside_any _ _ _ _).mono ?_; rintro e w' ⟨rfl, rfl⟩))
        go_ret
        exact ⟨ret_bool HB.out.symm, Ext.alloc _ _⟩
      · obtain ⟨h0, h28⟩ := insB_true.1 hi
        obtain ⟨k1, k2, k3, k4⟩ := cube_le h0 h28
        obtain ⟨p2, p7⟩ := prime_bounds hp
        by_cases hn : (N : Int) = d * d * d
        · have hr : resB p t = false := by
            rcases hh with ((h | h) | h) | h
            · rw [hp] at h; cases h
            · rw [hi] at h; cases h
            · exact absurd (by rw [hl]; exact hn) h
            · exact h
          have hNi : ((N : Int) != d * d * d) = false := by rw [hn]; simp
          have HRS := hidP (fun w' (hx : Ext w w') => residues_any a N c t p w' (ht.below hx) (by omega) (by omega) (by omega))
          clear hh ht hl hn
          go_enter Tryz.func14, Tryz.ntmps14
          go_wp2_with (first | (go_at_call 73; refine (isPrime_any _ _).mono ?_; rintro e w' ⟨rfl, rfl⟩) | (go_at_call 74; refine (inside_any _ _ _ _).mono ?_; rintro e w' ⟨rfl, rfl⟩) | (go_at_call 75; refine (HRS.out _ (Ext.alloc w _)).mono ?_; rintro e w1 ⟨rfl, hx1⟩))
          go_ret
          exact ⟨ret_bool HB.out.symm, (Ext.alloc w _).trans hx1⟩
        · have hNi : ((N : Int) != d * d * d) = true := bne_iff_ne.2 hn
          clear hh ht hl hn
          go_enter Tryz.func14, Tryz.ntmps14
          go_wp2_with (first | (go_at_call 73; refine (isPrime_any _ _).mono ?_; rintro e w' ⟨rfl, rfl⟩) | (go_at_call 74; refine (inside_any _ _ _ _).mono ?_; rintro e w' ⟨rfl, rfl⟩))
          go_ret
          exact ⟨ret_bool HB.out.symm, Ext.alloc _ _⟩
  · obtain ⟨hp, hd0, hd, hl, hr⟩ := headB_true hh
    obtain ⟨dn, rfl⟩ := Int.eq_ofNat_of_zero_le hd0
    exact algebraOk_good p dn a N c t w ht hnc hc2 hh
end Go.Proofs.YtenlhfimdpcaoaaGreat

namespace Go.Proofs.YtenlhfimdpcaoaaGreat
open Go.RowKit

/-- the inverse of n modulo p, 0 where there is none -/
def invP (n p : Int) : Int := (((List.range p.toNat).find? fun v : Nat => n * (v : Int) % p == 1).map fun v : Nat => (v : Int)).getD 0

theorem inv_unique {n p u v : Int} (hp : 0 < p) (hu : n * u % p = 1) (hv : n * v % p = 1) (hu0 : 0 ≤ u) (hu1 : u < p) (hv0 : 0 ≤ v) (hv1 : v < p) : u = v := by
  have h1 : (n * u - n * v) % p = 0 := by rw [Int.sub_emod, hu, hv]; simp
  have h2 : p ∣ n * (u - v) := by rw [Int.mul_sub]; exact Int.dvd_of_emod_eq_zero h1
  have h3 : p ∣ v * (n * (u - v)) := Int.dvd_trans h2 (Int.dvd_mul_left _ _)
  have h4 : v * (n * (u - v)) = (n * v) * (u - v) := by rw [← Int.mul_assoc, Int.mul_comm v n]
  rw [h4] at h3
  have h5 : (n * v) * (u - v) % p = (u - v) % p := by rw [Int.mul_emod, hv, Int.one_mul, Int.emod_emod]
  have h6 : (u - v) % p = 0 := by rw [← h5]; exact Int.emod_eq_zero_of_dvd h3
  obtain ⟨k, hk⟩ := Int.dvd_of_emod_eq_zero h6
  have hk0 : k = 0 := by
    rcases Int.lt_trichotomy k 0 with h | h | h
    · have : p * k ≤ p * (-1) := Int.mul_le_mul_of_nonneg_left (by omega) (by omega)
      omega
    · exact h
    · have : p * 1 ≤ p * k := Int.mul_le_mul_of_nonneg_left (by omega) (by omega)
      omega
  rw [hk0] at hk
  omega
theorem invP_spec {n p : Int} (h : ∃ v, 0 ≤ v ∧ v < p ∧ n * v % p = 1) : 0 ≤ invP n p ∧ invP n p < p ∧ n * invP n p % p = 1 := by
  obtain ⟨v, h0, h1, h2⟩ := h
  unfold invP
  cases hf : (List.range p.toNat).find? fun v : Nat => n * (v : Int) % p == 1 with
  | none =>
    rw [List.find?_eq_none] at hf
    have := hf v.toNat (by rw [List.mem_range]; omega)
    rw [Int.toNat_of_nonneg h0] at this
    simp [h2] at this
  | some u =>
    have h3 := List.find?_some hf
    have h4 := List.mem_of_find?_eq_some hf
    rw [List.mem_range] at h4
    simp only [beq_iff_eq] at h3
    exact ⟨by simp, by simp; omega, by simpa using h3⟩
theorem invP_eq {n p v : Int} (h0 : 0 ≤ v) (h1 : v < p) (h2 : n * v % p = 1) : invP n p = v := by
  obtain ⟨a, b, c⟩ := invP_spec ⟨v, h0, h1, h2⟩
  exact inv_unique (by omega) c h2 a b h0 h1

/-- a prime has no divisor but 1 and itself -/
theorem prime_dvd {p : Nat} (hp : primeB p = true) {d : Nat} (hd : d ∣ p) (h2 : 2 ≤ d) : d = p := by
  obtain ⟨hp2, hp7, hpr⟩ := primeB_true.1 hp
  obtain ⟨e, he⟩ := hd
  rcases Nat.lt_or_ge e 2 with h | h
  · rcases Nat.lt_or_ge e 1 with h' | h'
    · have : e = 0 := by omega
      subst this
      simp at he
      omega
    · have : e = 1 := by omega
      subst this
      omega
  · exfalso
    have key : ∀ a b : Nat, p = a * b → 2 ≤ a → 2 ≤ b → a ≤ b → False := by
      intro a b hab ha hb hle
      have h1 : a * a ≤ p := by rw [hab]; exact Nat.mul_le_mul_left _ hle
      have h101 : a < 101 := by
        rcases Nat.lt_or_ge a 101 with h4 | h4
        · exact h4
        · have := Nat.mul_le_mul h4 h4
          omega
      refine hpr a h101 ha ?_ ?_
      · have : ((a * a : Nat) : Int) ≤ (p : Int) := by omega
        simpa using this
      · rw [hab, Int.natCast_mul]
        exact Int.mul_emod_right _ _
    rcases Nat.le_total d e with h3 | h3
    · exact key d e he h2 h h3
    · exact key e d (by rw [he, Nat.mul_comm]) h h2 h3
theorem prime_gcd {p n : Nat} (hp : primeB p = true) (h1 : 1 ≤ n) (hn : n < p) : Nat.gcd n p = 1 := by
  have hd1 := Nat.gcd_dvd_left n p
  have hd2 := Nat.gcd_dvd_right n p
  have hpos : 0 < Nat.gcd n p := Nat.gcd_pos_of_pos_left _ (by omega)
  rcases Nat.lt_or_ge (Nat.gcd n p) 2 with h | h
  · omega
  · have := prime_dvd hp hd2 h
    have := Nat.le_of_dvd (by omega) hd1
    omega

end Go.Proofs.YtenlhfimdpcaoaaGreat

namespace Go.Proofs.YtenlhfimdpcaoaaGreat
open Go.RowKit

/-- rows of L residues each -/
structure Rows (p : Int) (L : Nat) (rows : List (List Int)) : Prop where
  len : ∀ i, i < rows.length → (rows.getD i []).length = L
  res : ∀ i, i < rows.length → Res p (rows.getD i [])
theorem Rows.get {p : Int} {L : Nat} {rows : List (List Int)} (h : Rows p L rows) {i j : Nat} (hi : i < rows.length) (hj : j < L) : 0 ≤ (rows.getD i []).getD j 0 ∧ (rows.getD i []).getD j 0 < p :=
  h.res i hi j (by rw [h.len i hi]; exact hj)
theorem getD_setL {β : Type} (l : List β) (i j : Nat) (x d : β) (hi : i < l.length) : (l.set i x).getD j d = if i = j then x else l.getD j d := by
  simp only [List.getD_eq_getElem?_getD, List.getElem?_set]
  by_cases h : i = j
  · subst h; simp [hi]
  · simp [h]
theorem Rows.set {p : Int} {L : Nat} {rows : List (List Int)} (h : Rows p L rows) (i : Nat) {r : List Int} (hl : r.length = L) (hr : Res p r) : Rows p L (rows.set i r) := by
  constructor
  · intro j hj
    rw [List.length_set] at hj
    by_cases e : i < rows.length
    · rw [getD_setL _ _ _ _ _ e]
      split
      · exact hl
      · exact h.len j hj
    · rw [List.set_eq_of_length_le (by omega)]; exact h.len j hj
  · intro j hj
    rw [List.length_set] at hj
    by_cases e : i < rows.length
    · rw [getD_setL _ _ _ _ _ e]
      split
      · exact hr
      · exact h.res j hj
    · rw [List.set_eq_of_length_le (by omega)]; exact h.res j hj
theorem Rows.nil (p : Int) (L : Nat) : Rows p L [] := ⟨fun i h => by simp at h, fun i h => by simp at h⟩
theorem Rows.snoc {p : Int} {L : Nat} {rows : List (List Int)} (h : Rows p L rows) {r : List Int} (hl : r.length = L) (hr : Res p r) : Rows p L (rows ++ [r]) := by
  have key : ∀ i, i < rows.length + 1 → (i < rows.length ∧ (rows ++ [r]).getD i [] = rows.getD i []) ∨ (rows ++ [r]).getD i [] = r := fun i hi => by
    rcases Nat.lt_succ_iff_lt_or_eq.1 hi with h3 | rfl
    · exact .inl ⟨h3, by simp [List.getD_eq_getElem?_getD, List.getElem?_append_left h3]⟩
    · exact .inr (by simp [List.getD_eq_getElem?_getD])
  constructor
  · intro i hi
    rcases key i (by simpa using hi) with ⟨h3, e⟩ | e
    · rw [e]; exact h.len i h3
    · rw [e]; exact hl
  · intro i hi
    rcases key i (by simpa using hi) with ⟨h3, e⟩ | e
    · rw [e]; exact h.res i h3
    · rw [e]; exact hr

/-- the first row from one on whose number in a column is not 0; how many rows there are if there is none -/
def findRow (rows : List (List Int)) (c at' : Nat) : Nat := at' + (rows.drop at').findIdx fun row => row.getD c 0 != 0
theorem findRow_at {rows : List (List Int)} {c at' r : Nat} (h0 : at' ≤ r) (hr : r < rows.length) (hz : ∀ i, at' ≤ i → i < r → (rows.getD i []).getD c 0 = 0) (hne : (rows.getD r []).getD c 0 ≠ 0) : findRow rows c at' = r := by
  unfold findRow
  have hg : ∀ i, at' + i < rows.length → (rows.drop at')[i]? = some (rows.getD (at' + i) []) := fun i hi => by
    rw [List.getElem?_drop, List.getElem?_eq_getElem hi, List.getD_eq_getElem?_getD, List.getElem?_eq_getElem hi]; rfl
  have hlt : r - at' < (rows.drop at').length := by simp; omega
  have h1 : (rows.drop at').findIdx (fun row => row.getD c 0 != 0) = r - at' := by
    rw [List.findIdx_eq hlt]
    constructor
    · have := hg (r - at') (by omega)
      rw [List.getElem?_eq_getElem hlt, show at' + (r - at') = r by omega] at this
      simp only [Option.some.injEq] at this
      rw [this]
      simpa using hne
    · intro j hj
      have := hg j (by omega)
      rw [List.getElem?_eq_getElem (by omega)] at this
      simp only [Option.some.injEq] at this
      rw [this, hz (at' + j) (by omega) (by omega)]
      rfl
  omega
theorem findRow_none {rows : List (List Int)} {c at' : Nat} (h0 : at' ≤ rows.length) (hz : ∀ i, at' ≤ i → i < rows.length → (rows.getD i []).getD c 0 = 0) : findRow rows c at' = rows.length := by
  unfold findRow
  have h1 : (rows.drop at').findIdx (fun row => row.getD c 0 != 0) = (rows.drop at').length := by
    rw [List.findIdx_eq_length]
    intro x hx
    obtain ⟨i, hi, rfl⟩ := List.mem_iff_getElem.1 hx
    simp at hi
    have hlt : at' + i < rows.length := by omega
    have := hz (at' + i) (by omega) hlt
    have e : rows.getD (at' + i) [] = rows[at' + i] := by simp [List.getD_eq_getElem?_getD, hlt]
    rw [e] at this
    rw [List.getElem_drop, this]
    rfl
  rw [h1]
  simp
  omega

def swapR (rows : List (List Int)) (i j : Nat) : List (List Int) := (rows.set i (rows.getD j [])).set j (rows.getD i [])
theorem swapR_length (rows : List (List Int)) (i j : Nat) : (swapR rows i j).length = rows.length := by simp [swapR]
theorem swapR_get (rows : List (List Int)) (i j q : Nat) (hi : i < rows.length) (hj : j < rows.length) : (swapR rows i j).getD q [] = if j = q then rows.getD i [] else if i = q then rows.getD j [] else rows.getD q [] := by
  unfold swapR
  rw [getD_setL _ _ _ _ _ (by simpa using hj), getD_setL _ _ _ _ _ hi]
theorem Rows.swap {p : Int} {L : Nat} {rows : List (List Int)} (h : Rows p L rows) (i j : Nat) (hi : i < rows.length) (hj : j < rows.length) : Rows p L (swapR rows i j) :=
  (h.set i (h.len j hj) (h.res j hj)).set j (h.len i hi) (h.res i hi)

def scaleR (p k : Int) (row : List Int) : List Int := modL p row.length fun m => row.getD m 0 * k
theorem scaleR_length (p k : Int) (row : List Int) : (scaleR p k row).length = row.length := modL_length _ _ _
theorem scaleR_get (p k : Int) (row : List Int) (m : Nat) (h : m < row.length) : (scaleR p k row).getD m 0 = row.getD m 0 * k % p := modL_get _ _ _ _ h

/-- the rows ahead of m cleared in column c by the row at -/
def clearTo (p : Int) (c at' : Nat) (rows : List (List Int)) : Nat → List (List Int)
  | 0 => rows
  | m + 1 =>
    let R := clearTo p c at' rows m
    if m ≠ at' ∧ (R.getD m []).getD c 0 ≠ 0 then R.set m (addL p (R.getD m []) (p - (R.getD m []).getD c 0) (R.getD at' [])) else R
theorem clearTo_length (p : Int) (c at' : Nat) (rows : List (List Int)) (m : Nat) : (clearTo p c at' rows m).length = rows.length := by
  induction m with
  | zero => rfl
  | succ m ih => simp only [clearTo]; split <;> simp [ih]
theorem clearTo_rows {p : Int} (hp : 0 < p) {L : Nat} {rows : List (List Int)} (h : Rows p L rows) (c at' m : Nat) (hm : m ≤ rows.length) : Rows p L (clearTo p c at' rows m) := by
  induction m with
  | zero => exact h
  | succ m ih =>
    have h1 := ih (by omega)
    simp only [clearTo]
    split
    · exact h1.set m (by rw [addL_length]; exact h1.len m (by rw [clearTo_length]; omega)) (addL_res hp _ _ _)
    · exact h1

/-- one column: the rows and the pivots behind it -/
def redStep (p : Int) (c : Nat) (st : List (List Int) × List Int) : List (List Int) × List Int :=
  let r := findRow st.1 c st.2.length
  if r < st.1.length then
    let R1 := swapR st.1 r st.2.length
    let R2 := R1.set st.2.length (scaleR p (invP ((R1.getD st.2.length []).getD c 0) p) (R1.getD st.2.length []))
    (clearTo p c st.2.length R2 R2.length, st.2 ++ [(c : Int)])
  else st
/-- the first k columns -/
def redTo (p : Int) (rows : List (List Int)) : Nat → List (List Int) × List Int
  | 0 => (rows, [])
  | k + 1 => redStep p k (redTo p rows k)
structure RedOk (p : Int) (L n k : Nat) (st : List (List Int) × List Int) : Prop where
  rows : Rows p L st.1
  len : st.1.length = n
  pn : st.2.length ≤ n
  pk : st.2.length ≤ k
  pv : ∀ i, i < st.2.length → 0 ≤ st.2.getD i 0 ∧ st.2.getD i 0 < k
theorem findRow_ge (rows : List (List Int)) (c at' : Nat) : at' ≤ findRow rows c at' := Nat.le_add_right _ _
theorem RedOk.start {p : Int} {L : Nat} {rows : List (List Int)} (h : Rows p L rows) : RedOk p L rows.length 0 (rows, []) := ⟨h, rfl, by simp, by simp, fun i h => by simp at h⟩
theorem RedOk.step {p : Int} (hp : 0 < p) {L n k : Nat} {st : List (List Int) × List Int} (h : RedOk p L n k st) : RedOk p L n (k + 1) (redStep p k st) := by
  have hge := findRow_ge st.1 k st.2.length
  unfold redStep
  simp only
  split
  · rename_i hlt
    have hln := h.len
    have h1 := h.rows.swap (findRow st.1 k st.2.length) st.2.length hlt (by omega)
    have hl1 : (swapR st.1 (findRow st.1 k st.2.length) st.2.length).length = st.1.length := swapR_length _ _ _
    have h2 := h1.set st.2.length (r := scaleR p (invP (((swapR st.1 (findRow st.1 k st.2.length) st.2.length).getD st.2.length []).getD k 0) p) ((swapR st.1 (findRow st.1 k st.2.length) st.2.length).getD st.2.length []))
      (by rw [scaleR_length]; exact h1.len _ (by omega)) (Res.modL hp _ _)
    refine ⟨clearTo_rows hp h2 _ _ _ (Nat.le_refl _), by rw [clearTo_length, List.length_set, hl1, hln], by simp; omega, by have := h.pk; simp; omega, fun i hi => ?_⟩
    simp only [List.length_append, List.length_cons, List.length_nil] at hi
    rcases Nat.lt_succ_iff_lt_or_eq.1 hi with h3 | rfl
    · have := h.pv i h3
      simp only [List.getD_eq_getElem?_getD, List.getElem?_append_left h3] at this ⊢
      omega
    · simp [List.getD_eq_getElem?_getD]; omega
  · exact ⟨h.rows, h.len, h.pn, by have := h.pk; omega, fun i hi => by have := h.pv i hi; omega⟩
theorem redTo_ok {p : Int} (hp : 0 < p) {L : Nat} {rows : List (List Int)} (h : Rows p L rows) (k : Nat) : RedOk p L rows.length k (redTo p rows k) := by
  induction k with
  | zero => exact RedOk.start h
  | succ k ih => exact ih.step hp
end Go.Proofs.YtenlhfimdpcaoaaGreat

namespace Go.Proofs.YtenlhfimdpcaoaaGreat
open Go.RowKit

/-! ### sums -/
theorem sumTo_modC {p : Int} {n : Nat} {f g : Nat → Int} (h : ∀ i, i < n → f i % p = g i % p) : sumTo n f % p = sumTo n g % p := by
  induction n with
  | zero => rfl
  | succ n ih =>
    simp only [sumTo]
    rw [Int.add_emod, ih fun i hi => h i (by omega), h n (by omega), ← Int.add_emod]
theorem sumTo_mulR (n : Nat) (f : Nat → Int) (c : Int) : sumTo n f * c = sumTo n fun k => f k * c := by
  induction n with
  | zero => simp [sumTo]
  | succ n ih => simp only [sumTo]; rw [Int.add_mul, ih]
theorem sumTo_mulL (n : Nat) (f : Nat → Int) (c : Int) : c * sumTo n f = sumTo n fun k => c * f k := by
  induction n with
  | zero => simp [sumTo]
  | succ n ih => simp only [sumTo]; rw [Int.mul_add, ih]
theorem sumTo_zero (n : Nat) : sumTo n (fun _ => 0) = 0 := by
  induction n with
  | zero => rfl
  | succ n ih => simp only [sumTo]; rw [ih]; rfl
theorem sumTo_addF (n : Nat) (f g : Nat → Int) : sumTo n (fun k => f k + g k) = sumTo n f + sumTo n g := by
  induction n with
  | zero => rfl
  | succ n ih => simp only [sumTo]; rw [ih]; omega
theorem sumTo_swap (n m : Nat) (f : Nat → Nat → Int) : sumTo n (fun i => sumTo m fun j => f i j) = sumTo m fun j => sumTo n fun i => f i j := by
  induction n with
  | zero => simp only [sumTo]; rw [sumTo_zero]
  | succ n ih => simp only [sumTo]; rw [ih, ← sumTo_addF]
theorem sumTo_only {n i : Nat} (hi : i < n) (f : Nat → Int) : sumTo n (fun k => (if i = k then 1 else 0) * f k) = f i := by
  induction n with
  | zero => omega
  | succ n ih =>
    simp only [sumTo]
    by_cases h : i = n
    · subst h
      have h0 : sumTo i (fun k => (if i = k then 1 else 0) * f k) = 0 := by
        rw [sumTo_congr (g := fun _ => 0) fun k hk => by rw [if_neg (by omega)]; omega]
        exact sumTo_zero i
      rw [h0, if_pos rfl]
      omega
    · rw [ih (by omega), if_neg h]
      omega
/-! ### square matrices -/
def entM (n : Nat) (A : List Int) (i j : Nat) : Int := A.getD (i * n + j) 0
def matM (p : Int) (n : Nat) (f : Nat → Nat → Int) : List Int := modL p (n * n) fun q => f (q / n) (q % n)
theorem place_lt {n i j : Nat} (hi : i < n) (hj : j < n) : i * n + j < n * n := by
  have : (i + 1) * n ≤ n * n := Nat.mul_le_mul_right n hi
  rw [Nat.add_mul, Nat.one_mul] at this
  omega
theorem place_div {n i j : Nat} (hj : j < n) : (i * n + j) / n = i := by
  rw [Nat.mul_comm, Nat.mul_add_div (by omega), Nat.div_eq_of_lt hj, Nat.add_zero]
theorem place_mod {n i j : Nat} (hj : j < n) : (i * n + j) % n = j := by
  rw [Nat.mul_comm, Nat.mul_add_mod, Nat.mod_eq_of_lt hj]
theorem matM_at (p : Int) {n : Nat} (f : Nat → Nat → Int) {i j : Nat} (hi : i < n) (hj : j < n) : entM n (matM p n f) i j = f i j % p := by
  unfold entM matM
  rw [modL_get _ _ _ _ (place_lt hi hj), place_div hj, place_mod hj]
theorem matM_length (p : Int) (n : Nat) (f : Nat → Nat → Int) : (matM p n f).length = n * n := modL_length _ _ _
theorem matM_res {p : Int} (hp : 0 < p) (n : Nat) (f : Nat → Nat → Int) : Res p (matM p n f) := Res.modL hp _ _
theorem matM_congr {p : Int} {n : Nat} {f g : Nat → Nat → Int} (h : ∀ i j, i < n → j < n → f i j % p = g i j % p) : matM p n f = matM p n g := by
  unfold matM
  refine modL_congr fun q hq => ?_
  have hn : 0 < n := by
    rcases Nat.eq_zero_or_pos n with h0 | h0
    · subst h0; simp at hq
    · exact h0
  exact h _ _ (Nat.div_lt_of_lt_mul hq) (Nat.mod_lt _ hn)
theorem matM_self {p : Int} {n : Nat} {A : List Int} (h : Res p A) (hl : A.length = n * n) : matM p n (entM n A) = A := by
  rw [h.eq_modL, hl]
  unfold matM
  refine modL_congr fun q hq => ?_
  unfold entM
  rw [modL_get _ _ _ _ (by rw [Nat.div_add_mod']; exact hq), Nat.div_add_mod', Int.emod_emod]
def mulM (p : Int) (n : Nat) (A B : List Int) : List Int := matM p n fun i j => sumTo n fun k => entM n A i k * entM n B k j
def oneM (p : Int) (n : Nat) : List Int := matM p n fun i j => if i = j then 1 else 0
theorem mulM_length (p : Int) (n : Nat) (A B : List Int) : (mulM p n A B).length = n * n := matM_length _ _ _
theorem mulM_res {p : Int} (hp : 0 < p) (n : Nat) (A B : List Int) : Res p (mulM p n A B) := matM_res hp _ _
theorem mul_emod_r (a b p : Int) : a * (b % p) % p = a * b % p := by rw [Int.mul_emod, Int.emod_emod, ← Int.mul_emod]
theorem mul_emod_l (a b p : Int) : a % p * b % p = a * b % p := by rw [Int.mul_emod, Int.emod_emod, ← Int.mul_emod]
/-! ### words of matrices -/
/-! ### sums and multiples -/
def dueM (p : Int) (n : Nat) (A B : List Int) : List Int := addL p (mulM p n A B) (p - 1) (mulM p n B A)
/-! ### rows of a product -/
/-- the first k sums of the row i of a product -/
def mulRow (p : Int) (n : Nat) (A B : List Int) (i k : Nat) : List Int := modL p n fun j => sumTo k fun l => entM n A i l * entM n B l j
theorem mulRow_zero (p : Int) (n : Nat) (A B : List Int) (i : Nat) : mulRow p n A B i 0 = List.replicate n 0 := by
  rw [← modL_zero p]
  rfl
theorem mulRow_length (p : Int) (n : Nat) (A B : List Int) (i k : Nat) : (mulRow p n A B i k).length = n := modL_length _ _ _
theorem mulRow_res {p : Int} (hp : 0 < p) (n : Nat) (A B : List Int) (i k : Nat) : Res p (mulRow p n A B i k) := Res.modL hp _ _
theorem mulRow_succ (p : Int) (n : Nat) (A B : List Int) (i k : Nat) : mulRow p n A B i (k + 1) = addL p (mulRow p n A B i k) (entM n A i k) ((B.drop (k * n)).take n) := by
  unfold mulRow
  rw [addL_modL]
  refine modL_congr fun j hj => ?_
  simp only [sumTo]
  congr 2
  unfold entM
  simp [List.getD_eq_getElem?_getD, hj]
theorem mulRow_skip (p : Int) (n : Nat) (A B : List Int) (i k : Nat) (h : entM n A i k = 0) : mulRow p n A B i (k + 1) = mulRow p n A B i k := by
  unfold mulRow
  refine modL_congr fun j _ => ?_
  simp only [sumTo, h, Int.zero_mul, Int.add_zero]
theorem mulM_row (p : Int) (n : Nat) (A B : List Int) (i : Nat) (hi : i < n) : ((mulM p n A B).drop (i * n)).take n = mulRow p n A B i n := by
  have hpl : ∀ j, j < n → i * n + j < n * n := fun j hj => place_lt hi hj
  have h2 : n ≤ n * n - i * n := by
    have : (i + 1) * n ≤ n * n := Nat.mul_le_mul_right n hi
    rw [Nat.add_mul, Nat.one_mul] at this
    omega
  apply List.ext_getElem
  · simp [mulM_length, mulRow_length]
    omega
  · intro j h1 h3
    have hj : j < n := by rw [mulRow_length] at h3; exact h3
    have e1 := matM_at p (fun i j => sumTo n fun k => entM n A i k * entM n B k j) hi hj
    have e2 := modL_get p n (fun j => sumTo n fun l => entM n A i l * entM n B l j) j hj
    have hlt : i * n + j < (mulM p n A B).length := by rw [mulM_length]; exact hpl j hj
    have e3 : (mulM p n A B).getD (i * n + j) 0 = (mulM p n A B)[i * n + j] := getD_lt _ hlt
    have e4 : (mulRow p n A B i n).getD j 0 = (mulRow p n A B i n)[j] := getD_lt _ h3
    rw [List.getElem_take, List.getElem_drop]
    unfold entM at e1
    rw [← e3, ← e4]
    exact e1.trans e2.symm
end Go.Proofs.YtenlhfimdpcaoaaGreat

namespace Go.Proofs.YtenlhfimdpcaoaaGreat
open Go.RowKit

theorem nodup_sub_len : ∀ {l1 l2 : List Nat}, l1.Nodup → (∀ x ∈ l1, x ∈ l2) → l1.length ≤ l2.length
  | [], _, _, _ => Nat.zero_le _
  | a :: l1, l2, h, hs => by
    obtain ⟨h1, h2⟩ := List.nodup_cons.1 h
    have ha := hs a (by simp)
    have ih := nodup_sub_len (l1 := l1) (l2 := l2.erase a) h2 fun x hx => (List.mem_erase_of_ne (fun e => h1 (by rw [← e]; exact hx))).2 (hs x (by simp [hx]))
    rw [List.length_erase_of_mem ha] at ih
    have := List.length_pos_of_mem ha
    rw [List.length_cons]
    omega
theorem perm_of_sub {l1 l2 : List Nat} (h1 : l1.Nodup) (h2 : l2.Nodup) (hs : ∀ x ∈ l1, x ∈ l2) (hl : l1.length = l2.length) : l1.Perm l2 :=
  (List.perm_ext_iff_of_nodup h1 h2).2 fun a => ⟨hs a, fun ha => Classical.byContradiction fun hn => by
    have := nodup_sub_len (l1 := a :: l1) (l2 := l2) (List.nodup_cons.2 ⟨hn, h1⟩) fun x hx => by
      rcases List.mem_cons.1 hx with rfl | h
      · exact ha
      · exact hs x h
    rw [List.length_cons] at this
    omega⟩
def prodN (l : List Nat) : Nat := l.foldr (· * ·) 1
theorem prodN_cons (a : Nat) (l : List Nat) : prodN (a :: l) = a * prodN l := rfl
theorem prodN_perm {l1 l2 : List Nat} (h : l1.Perm l2) : prodN l1 = prodN l2 := by
  induction h with
  | nil => rfl
  | cons x _ ih => rw [prodN_cons, prodN_cons, ih]
  | swap x y l => rw [prodN_cons, prodN_cons, prodN_cons, prodN_cons, Nat.mul_left_comm]
  | trans _ _ ih1 ih2 => exact ih1.trans ih2
theorem prodN_map (a p : Nat) : ∀ l : List Nat, prodN (l.map fun i => a * i % p) % p = a ^ l.length * prodN l % p
  | [] => by simp [prodN]
  | i :: l => by
    rw [List.map_cons, prodN_cons, prodN_cons, List.length_cons, Nat.mul_mod, prodN_map a p l, Nat.mod_mod, ← Nat.mul_mod]
    congr 1
    rw [Nat.pow_succ]
    simp only [Nat.mul_assoc, Nat.mul_left_comm, Nat.mul_comm]
theorem prodN_cop {p : Nat} : ∀ l : List Nat, (∀ i ∈ l, Nat.gcd i p = 1) → Nat.gcd (prodN l) p = 1
  | [], _ => by simp [prodN]
  | i :: l, h => by
    rw [prodN_cons]
    exact Nat.Coprime.mul_left (h i (by simp)) (prodN_cop l fun j hj => h j (by simp [hj]))
/-- 1, .., p - 1 -/
def resL (p : Nat) : List Nat := (List.range (p - 1)).map (· + 1)
theorem resL_mem {p i : Nat} : i ∈ resL p ↔ 1 ≤ i ∧ i < p := by
  unfold resL
  rw [List.mem_map]
  constructor
  · rintro ⟨j, hj, rfl⟩
    rw [List.mem_range] at hj
    omega
  · rintro ⟨h1, h2⟩
    exact ⟨i - 1, List.mem_range.2 (by omega), by omega⟩
theorem resL_nodup (p : Nat) : (resL p).Nodup := by
  unfold resL List.Nodup
  rw [List.pairwise_map]
  exact List.Pairwise.imp (fun h e => h (by omega)) (List.nodup_range (n := p - 1))
theorem resL_length (p : Nat) : (resL p).length = p - 1 := by simp [resL]
theorem times_inj {p a i j : Nat} (hg : Nat.gcd a p = 1) (hi : i < p) (hj : j < p) (h : a * i % p = a * j % p) : i = j := by
  have key : ∀ {i j : Nat}, i < p → j < p → i < j → a * i % p = a * j % p → False := fun {i j} hi hj hlt h => by
    have h1 : (a * j - a * i) % p = 0 := Nat.sub_mod_eq_zero_of_mod_eq h.symm
    rw [← Nat.mul_sub] at h1
    have h2 : p ∣ a * (j - i) := Nat.dvd_of_mod_eq_zero h1
    have h3 : p ∣ j - i := Nat.Coprime.dvd_of_dvd_mul_left (show Nat.Coprime p a from by rw [Nat.Coprime, Nat.gcd_comm]; exact hg) h2
    have := Nat.le_of_dvd (by omega) h3
    omega
  rcases Nat.lt_trichotomy i j with h1 | h1 | h1
  · exact (key hi hj h1 h).elim
  · exact h1
  · exact (key hj hi h1 h.symm).elim
/-- FERMAT -/
theorem fermat {p a : Nat} (hp : primeB p = true) (h1 : 1 ≤ a) (ha : a < p) : a ^ (p - 1) % p = 1 := by
  obtain ⟨p2, _⟩ := prime_bounds hp
  have hp2 : 2 ≤ p := by omega
  have hg := prime_gcd hp h1 ha
  have hperm : ((resL p).map fun i => a * i % p).Perm (resL p) := by
    refine perm_of_sub ?_ (resL_nodup p) (fun x hx => ?_) (by rw [List.length_map])
    · unfold List.Nodup
      rw [List.pairwise_map]
      exact List.Pairwise.imp_of_mem (fun {i j} hi hj hne e => hne (times_inj hg (resL_mem.1 hi).2 (resL_mem.1 hj).2 e)) (resL_nodup p)
    · rw [List.mem_map] at hx
      obtain ⟨i, hi, rfl⟩ := hx
      obtain ⟨i1, i2⟩ := resL_mem.1 hi
      refine resL_mem.2 ⟨?_, Nat.mod_lt _ (by omega)⟩
      apply Classical.byContradiction
      intro h0
      have h3 : p ∣ a * i := Nat.dvd_of_mod_eq_zero (by omega)
      have h4 : p ∣ i := Nat.Coprime.dvd_of_dvd_mul_left (show Nat.Coprime p a from by rw [Nat.Coprime, Nat.gcd_comm]; exact hg) h3
      have := Nat.le_of_dvd (by omega) h4
      omega
  have hW := prodN_cop (p := p) (resL p) fun i hi => prime_gcd hp (resL_mem.1 hi).1 (resL_mem.1 hi).2
  have hm := prodN_map a p (resL p)
  rw [prodN_perm hperm, resL_length] at hm
  obtain ⟨W, hWe⟩ : ∃ W, W = prodN (resL p) := ⟨_, rfl⟩
  rw [← hWe] at hW hm
  have h5 : W * a ^ (p - 1) % p = W * 1 % p := by rw [Nat.mul_one, Nat.mul_comm]; exact hm.symm
  have h6 : a ^ (p - 1) % p < p := Nat.mod_lt _ (by omega)
  have h7 : W * (a ^ (p - 1) % p) % p = W * 1 % p := by rw [Nat.mul_mod, Nat.mod_mod, ← Nat.mul_mod]; exact h5
  exact times_inj hW h6 (by omega) h7
/-- a power, by squares: what is left, so far -/
theorem pow_step (o x : Int) (n : Nat) : o * x ^ n = (if n % 2 = 1 then o * x else o) * (x * x) ^ (n / 2) := by
  have h := Nat.div_add_mod n 2
  have e : x ^ n = (x * x) ^ (n / 2) * x ^ (n % 2) := by
    conv => lhs; rw [← h]
    rw [Int.pow_add, Int.pow_mul, Int.pow_succ, Int.pow_succ, Int.pow_zero, Int.one_mul]
  rw [e]
  split
  · rename_i h1
    rw [h1, Int.pow_succ, Int.pow_zero, Int.one_mul, Int.mul_comm ((x * x) ^ (n / 2)), Int.mul_assoc]
  · rw [show n % 2 = 0 by omega, Int.pow_zero, Int.mul_one]
theorem pow_emod (x p : Int) (n : Nat) : (x % p) ^ n % p = x ^ n % p := by
  induction n with
  | zero => rw [Int.pow_zero, Int.pow_zero]
  | succ n ih => rw [Int.pow_succ, Int.pow_succ, Int.mul_emod, ih, Int.emod_emod, ← Int.mul_emod]
theorem invP_pow {p a : Nat} (hp : primeB p = true) (h1 : 1 ≤ a) (ha : a < p) : invP a p = (a : Int) ^ (p - 2) % p := by
  obtain ⟨p2, _⟩ := prime_bounds hp
  refine invP_eq (Int.emod_nonneg _ (by omega)) (Int.emod_lt_of_pos _ (by omega)) ?_
  rw [Int.mul_emod, Int.emod_emod, ← Int.mul_emod, ← Int.pow_succ']
  have h := fermat hp h1 ha
  rw [show p - 2 + 1 = p - 1 by omega]
  have e : ((a ^ (p - 1) % p : Nat) : Int) = (a : Int) ^ (p - 1) % (p : Int) := by rw [Int.natCast_emod, Int.natCast_pow]
  rw [← e, h]
  rfl
end Go.Proofs.YtenlhfimdpcaoaaGreat

namespace Go.Proofs.YtenlhfimdpcaoaaGreat
open Go.RowKit

/-- v is a combination of the rows of B, modulo p, in the first d places -/
def InSp (p : Int) (d : Nat) (B : List (List Int)) (v : Nat → Int) : Prop := ∃ c : Nat → Int, ∀ j, j < d → v j % p = (sumTo B.length fun i => c i * (B.getD i []).getD j 0) % p
def rowF (r : List Int) : Nat → Int := fun j => r.getD j 0
section
variable {p : Int} {d : Nat} {B C : List (List Int)} {v w : Nat → Int}
theorem InSp.congr (h : InSp p d B v) (e : ∀ j, j < d → w j % p = v j % p) : InSp p d B w := by
  obtain ⟨c, hc⟩ := h
  exact ⟨c, fun j hj => (e j hj).trans (hc j hj)⟩
theorem InSp.zero : InSp p d B (fun _ => 0) := ⟨fun _ => 0, fun j _ => by
  rw [sumTo_congr (g := fun _ => 0) fun i _ => Int.zero_mul _, sumTo_zero]⟩
theorem InSp.row {i : Nat} (hi : i < B.length) : InSp p d B (rowF (B.getD i [])) := ⟨fun k => if i = k then 1 else 0, fun j _ => by
  rw [sumTo_only hi (fun k => (B.getD k []).getD j 0)]
  rfl⟩
theorem InSp.lin (hv : InSp p d B v) (hw : InSp p d B w) (a b : Int) : InSp p d B (fun j => a * v j + b * w j) := by
  obtain ⟨c, hc⟩ := hv
  obtain ⟨e, he⟩ := hw
  refine ⟨fun i => a * c i + b * e i, fun j hj => ?_⟩
  rw [sumTo_congr (g := fun i => a * (c i * (B.getD i []).getD j 0) + b * (e i * (B.getD i []).getD j 0)) fun i _ => by
    rw [Int.add_mul, Int.mul_assoc, Int.mul_assoc], sumTo_addF, ← sumTo_mulL, ← sumTo_mulL]
  rw [Int.add_emod, Int.mul_emod, hc j hj, ← Int.mul_emod, Int.mul_emod b, he j hj, ← Int.mul_emod, ← Int.add_emod]
theorem InSp.sum (f : Nat → Nat → Int) (c : Nat → Int) : ∀ n, (∀ i, i < n → InSp p d B (f i)) → InSp p d B (fun j => sumTo n fun i => c i * f i j)
  | 0, _ => InSp.zero
  | n + 1, h => by
    have h1 := InSp.sum f c n fun i hi => h i (by omega)
    refine (h1.lin (h n (by omega)) 1 (c n)).congr fun j _ => ?_
    simp only [sumTo, Int.one_mul]
theorem InSp.trans (h : InSp p d B v) (hB : ∀ i, i < B.length → InSp p d C (rowF (B.getD i []))) : InSp p d C v := by
  obtain ⟨c, hc⟩ := h
  exact (InSp.sum (fun i => rowF (B.getD i [])) c B.length hB).congr hc
end
/-- two lists of rows of one span -/
structure SpEq (p : Int) (d : Nat) (A B : List (List Int)) : Prop where
  left : ∀ i, i < A.length → InSp p d B (rowF (A.getD i []))
  right : ∀ i, i < B.length → InSp p d A (rowF (B.getD i []))
theorem SpEq.refl (p : Int) (d : Nat) (A : List (List Int)) : SpEq p d A A := ⟨fun _ hi => InSp.row hi, fun _ hi => InSp.row hi⟩
theorem SpEq.trans {p : Int} {d : Nat} {A B C : List (List Int)} (h : SpEq p d A B) (k : SpEq p d B C) : SpEq p d A C :=
  ⟨fun i hi => (h.left i hi).trans k.left, fun i hi => (k.right i hi).trans h.right⟩
/-- one row replaced -/
theorem SpEq.set {p : Int} {d : Nat} {A : List (List Int)} {m : Nat} {u : List Int} (hm : m < A.length) (h1 : InSp p d A (rowF u)) (h2 : InSp p d (A.set m u) (rowF (A.getD m []))) : SpEq p d A (A.set m u) := by
  refine ⟨fun i hi => ?_, fun i hi => ?_⟩
  · by_cases e : m = i
    · subst e
      exact h2
    · have h3 := InSp.row (p := p) (d := d) (B := A.set m u) (i := i) (by rw [List.length_set]; exact hi)
      rw [getD_setL _ _ _ _ _ hm, if_neg e] at h3
      exact h3
  · rw [List.length_set] at hi
    rw [getD_setL _ _ _ _ _ hm]
    split
    · exact h1
    · exact InSp.row hi
theorem SpEq.swap {p : Int} {d : Nat} {A : List (List Int)} {i j : Nat} (hi : i < A.length) (hj : j < A.length) : SpEq p d A (swapR A i j) := by
  have hl := swapR_length A i j
  refine ⟨fun q hq => ?_, fun q hq => ?_⟩
  · have key : ∀ r, r < A.length → (swapR A i j).getD r [] = A.getD q [] → InSp p d (swapR A i j) (rowF (A.getD q [])) := fun r hr e => by
      rw [← e]
      exact InSp.row (by rw [hl]; exact hr)
    by_cases e1 : q = i
    · subst e1
      exact key j hj (by rw [swapR_get _ _ _ _ hi hj, if_pos rfl])
    · by_cases e2 : q = j
      · subst e2
        refine key i hi ?_
        rw [swapR_get _ _ _ _ hi hj]
        split
        · rename_i h
          rw [h]
        · rw [if_pos rfl]
      · refine key q hq ?_
        rw [swapR_get _ _ _ _ hi hj, if_neg (Ne.symm e2), if_neg (Ne.symm e1)]
  · rw [hl] at hq
    rw [swapR_get _ _ _ _ hi hj]
    split
    · exact InSp.row hi
    · split
      · exact InSp.row hj
      · exact InSp.row hq
/-- what clearing leaves -/
theorem clearTo_get (p : Int) (c at' : Nat) (rows : List (List Int)) : ∀ m, m ≤ rows.length → ∀ i, i < rows.length →
    (clearTo p c at' rows m).getD i [] = if i < m ∧ i ≠ at' ∧ (rows.getD i []).getD c 0 ≠ 0 then addL p (rows.getD i []) (p - (rows.getD i []).getD c 0) (rows.getD at' []) else rows.getD i []
  | 0, _, i, _ => by rw [if_neg (by omega)]; rfl
  | m + 1, hm, i, hi => by
    have ih := clearTo_get p c at' rows m (by omega)
    have hl := clearTo_length p c at' rows m
    have hmm := ih m (by omega)
    rw [if_neg (by omega)] at hmm
    have hat : at' < rows.length → (clearTo p c at' rows m).getD at' [] = rows.getD at' [] := fun h => by
      rw [ih at' h, if_neg (by simp)]
    have hat' : (clearTo p c at' rows m).getD at' [] = rows.getD at' [] := by
      by_cases h : at' < rows.length
      · exact hat h
      · rw [List.getD_eq_getElem?_getD, List.getD_eq_getElem?_getD, List.getElem?_eq_none (by omega), List.getElem?_eq_none (by omega)]
    simp only [clearTo]
    rw [hmm, hat']
    split
    · rename_i h1
      rw [getD_setL _ _ _ _ _ (by omega)]
      split
      · rename_i e
        subst e
        rw [if_pos ⟨by omega, h1⟩]
      · rename_i e
        rw [ih i hi]
        congr 1
        simp only [eq_iff_iff]
        constructor
        · rintro ⟨a, b⟩; exact ⟨by omega, b⟩
        · rintro ⟨a, b⟩; exact ⟨by omega, b⟩
    · rename_i h1
      rw [ih i hi]
      by_cases e : i = m
      · subst e
        rw [if_neg (by omega), if_neg (fun h => h1 h.2)]
      · congr 1
        simp only [eq_iff_iff]
        constructor
        · rintro ⟨a, b⟩; exact ⟨by omega, b⟩
        · rintro ⟨a, b⟩; exact ⟨by omega, b⟩
theorem SpEq.clear {p : Int} (hp : 0 < p) {d : Nat} {rows : List (List Int)} (h : Rows p d rows) (c at' : Nat) (hat : at' < rows.length) : ∀ m, m ≤ rows.length → SpEq p d rows (clearTo p c at' rows m)
  | 0, _ => SpEq.refl _ _ _
  | m + 1, hm => by
    have ih := SpEq.clear hp h c at' hat m (by omega)
    have hl := clearTo_length p c at' rows m
    have hr := clearTo_rows hp h c at' m (by omega)
    refine ih.trans ?_
    simp only [clearTo]
    split
    · rename_i h1
      have hln := hr.len m (by omega)
      refine SpEq.set (by omega) ?_ ?_
      · refine ((InSp.row (i := m) (by omega)).lin (InSp.row (i := at') (by omega)) 1 (p - ((clearTo p c at' rows m).getD m []).getD c 0)).congr fun j hj => ?_
        show (addL p _ _ _).getD j 0 % p = _
        rw [addL_get _ _ _ _ _ (by omega), Int.emod_emod, Int.one_mul]
        rfl
      · have e1 := InSp.row (p := p) (d := d) (B := (clearTo p c at' rows m).set m (addL p ((clearTo p c at' rows m).getD m []) (p - ((clearTo p c at' rows m).getD m []).getD c 0) ((clearTo p c at' rows m).getD at' []))) (i := m) (by rw [List.length_set]; omega)
        have e2 := InSp.row (p := p) (d := d) (B := (clearTo p c at' rows m).set m (addL p ((clearTo p c at' rows m).getD m []) (p - ((clearTo p c at' rows m).getD m []).getD c 0) ((clearTo p c at' rows m).getD at' []))) (i := at') (by rw [List.length_set]; omega)
        rw [getD_setL _ _ _ _ _ (by omega), if_pos rfl] at e1
        rw [getD_setL _ _ _ _ _ (by omega), if_neg h1.1] at e2
        refine (e1.lin e2 1 (((clearTo p c at' rows m).getD m []).getD c 0)).congr fun j hj => ?_
        show rowF _ j % p = (1 * (addL p _ _ _).getD j 0 + _ * rowF _ j) % p
        rw [addL_get _ _ _ _ _ (by omega), Int.one_mul, Int.emod_add_emod]
        unfold rowF
        obtain ⟨x, hx⟩ : ∃ x, x = ((clearTo p c at' rows m).getD m []).getD c 0 := ⟨_, rfl⟩
        obtain ⟨y, hy⟩ : ∃ y, y = ((clearTo p c at' rows m).getD at' []).getD j 0 := ⟨_, rfl⟩
        rw [← hx, ← hy]
        rw [show ((clearTo p c at' rows m).getD m []).getD j 0 + (p - x) * y + x * y = ((clearTo p c at' rows m).getD m []).getD j 0 + p * y by rw [Int.sub_mul]; omega, Int.add_mul_emod_self_left]
    · exact SpEq.refl _ _ _
end Go.Proofs.YtenlhfimdpcaoaaGreat

namespace Go.Proofs.YtenlhfimdpcaoaaGreat
open Go.RowKit

def pivN (st : List (List Int) × List Int) (i : Nat) : Nat := (st.2.getD i 0).toNat
def entN (st : List (List Int) × List Int) (i j : Nat) : Int := (st.1.getD i []).getD j 0
/-- reduced in the first k columns -/
structure Ech (p : Int) (k : Nat) (st : List (List Int) × List Int) : Prop where
  lt : ∀ i, i < st.2.length → pivN st i < k
  mono : ∀ i j, i < j → j < st.2.length → pivN st i < pivN st j
  one : ∀ i, i < st.2.length → entN st i (pivN st i) = 1
  off : ∀ i m, i < st.2.length → m < st.1.length → m ≠ i → entN st m (pivN st i) = 0
  left : ∀ i j, i < st.2.length → j < pivN st i → entN st i j = 0
  rest : ∀ m, st.2.length ≤ m → m < st.1.length → ∀ j, j < k → entN st m j = 0
theorem findRow_hit {rows : List (List Int)} {c at' : Nat} (h : findRow rows c at' < rows.length) : (rows.getD (findRow rows c at') []).getD c 0 ≠ 0 := by
  have hlt : (rows.drop at').findIdx (fun row => row.getD c 0 != 0) < (rows.drop at').length := by
    unfold findRow at h
    rw [List.length_drop]
    omega
  have h1 := List.findIdx_getElem (p := fun row : List Int => row.getD c 0 != 0) (xs := rows.drop at') (w := hlt)
  have e : (rows.drop at')[(rows.drop at').findIdx (fun row => row.getD c 0 != 0)] = rows.getD (findRow rows c at') [] := by
    rw [List.getElem_drop, List.getD_eq_getElem?_getD, List.getElem?_eq_getElem h]
    rfl
  rw [e] at h1
  simpa using h1
theorem findRow_miss {rows : List (List Int)} {c at' i : Nat} (h : ¬ findRow rows c at' < rows.length) (hi : at' ≤ i) (hl : i < rows.length) : (rows.getD i []).getD c 0 = 0 := by
  unfold findRow at h
  have hlt : i - at' < (rows.drop at').findIdx (fun row => row.getD c 0 != 0) := by omega
  have h1 := List.not_of_lt_findIdx hlt
  have e : (rows.drop at')[i - at']'(by rw [List.length_drop]; omega) = rows.getD i [] := by
    rw [List.getElem_drop, List.getD_eq_getElem?_getD, List.getElem?_eq_getElem hl, Option.getD_some]
    congr 1
    omega
  rw [e] at h1
  simpa using h1
theorem getD_app (l : List Int) (x : Int) (i : Nat) : (l ++ [x]).getD i 0 = if i < l.length then l.getD i 0 else if i = l.length then x else 0 := by
  simp only [List.getD_eq_getElem?_getD]
  split
  · rename_i h
    rw [List.getElem?_append_left h]
  · rename_i h
    rw [List.getElem?_append_right (by omega)]
    split
    · rename_i h2
      rw [h2]
      simp
    · rename_i h2
      rw [List.getElem?_eq_none (by simp; omega)]
      rfl
/-- the rows behind a column with a pivot, entry by entry -/
structure StepE (p : Int) (d k at' r : Nat) (A B : List (List Int)) : Prop where
  len : B.length = A.length
  at_ : ∀ j, j < d → (B.getD at' []).getD j 0 = (A.getD r []).getD j 0 * invP ((A.getD r []).getD k 0) p % p
  other : ∀ i, i < A.length → i ≠ at' → ∀ j, j < d → (B.getD i []).getD j 0 = ((A.getD (if i = r then at' else i) []).getD j 0 + (p - (A.getD (if i = r then at' else i) []).getD k 0) * (B.getD at' []).getD j 0) % p
theorem step_both {p : Int} (hp : primeB p = true) {d k n : Nat} {st : List (List Int) × List Int} (h : RedOk p d n k st) (hk : k < d) (hf : findRow st.1 k st.2.length < st.1.length) :
    StepE p d k st.2.length (findRow st.1 k st.2.length) st.1 (redStep p k st).1 ∧ (redStep p k st).2 = st.2 ++ [(k : Int)] ∧ SpEq p d st.1 (redStep p k st).1 := by
  obtain ⟨p2, p7⟩ := prime_bounds hp
  have hp0 : 0 < p := by omega
  have hge := findRow_ge st.1 k st.2.length
  obtain ⟨r, hr⟩ : ∃ r, r = findRow st.1 k st.2.length := ⟨_, rfl⟩
  have hx0 := findRow_hit hf
  have e : redStep p k st = (clearTo p k st.2.length ((swapR st.1 r st.2.length).set st.2.length (scaleR p (invP (((swapR st.1 r st.2.length).getD st.2.length []).getD k 0) p) ((swapR st.1 r st.2.length).getD st.2.length []))) ((swapR st.1 r st.2.length).set st.2.length (scaleR p (invP (((swapR st.1 r st.2.length).getD st.2.length []).getD k 0) p) ((swapR st.1 r st.2.length).getD st.2.length []))).length, st.2 ++ [(k : Int)]) := by
    unfold redStep
    rw [hr]
    simp only
    rw [if_pos hf]
  rw [← hr] at hf hge hx0 ⊢
  rw [e]
  clear e hr
  obtain ⟨a, ha⟩ : ∃ a, a = st.2.length := ⟨_, rfl⟩
  rw [← ha] at hge ⊢
  have hal : a < st.1.length := by omega
  have hs1 := swapR_length st.1 r a
  have hR1 := h.rows.swap r a hf hal
  have hat1 : (swapR st.1 r a).getD a [] = st.1.getD r [] := by rw [swapR_get _ _ _ _ hf hal, if_pos rfl]
  rw [hat1]
  obtain ⟨x, hx⟩ : ∃ x, x = (st.1.getD r []).getD k 0 := ⟨_, rfl⟩
  rw [← hx] at hx0 ⊢
  have hxb := h.rows.get hf hk
  rw [← hx] at hxb
  have hinv : x * invP x p % p = 1 := by
    obtain ⟨m, hm⟩ : ∃ m : Nat, x = m := ⟨x.toNat, by omega⟩
    obtain ⟨q, hq⟩ : ∃ q : Nat, p = q := ⟨p.toNat, by omega⟩
    subst hm
    subst hq
    have h1 := fermat (a := m) hp (by omega) (by omega)
    have hm1 : 1 ≤ q - 1 := by omega
    refine (invP_spec ⟨(m : Int) ^ (q - 2) % q, Int.emod_nonneg _ (by omega), Int.emod_lt_of_pos _ (by omega), ?_⟩).2.2
    rw [Int.mul_emod, Int.emod_emod, ← Int.mul_emod, ← Int.pow_succ', show q - 2 + 1 = q - 1 by omega]
    have e : ((m ^ (q - 1) % q : Nat) : Int) = (m : Int) ^ (q - 1) % (q : Int) := by rw [Int.natCast_emod, Int.natCast_pow]
    rw [← e, h1]
    rfl
  obtain ⟨I, hI⟩ : ∃ I, I = invP x p := ⟨_, rfl⟩
  rw [← hI] at hinv ⊢
  have hrl := h.rows.len r hf
  have hsl : (scaleR p I (st.1.getD r [])).length = d := by rw [scaleR_length]; exact hrl
  have hsr : Res p (scaleR p I (st.1.getD r [])) := Res.modL hp0 _ _
  obtain ⟨S, hS⟩ : ∃ S, S = scaleR p I (st.1.getD r []) := ⟨_, rfl⟩
  have hSg : ∀ j, j < d → S.getD j 0 = (st.1.getD r []).getD j 0 * I % p := fun j hj => by rw [hS, scaleR_get _ _ _ _ (by omega)]
  rw [← hS] at hsl hsr ⊢
  have hR2 := hR1.set a hsl hsr
  have hl2 : ((swapR st.1 r a).set a S).length = st.1.length := by rw [List.length_set, hs1]
  have hg2 : ∀ i, ((swapR st.1 r a).set a S).getD i [] = if a = i then S else if r = i then st.1.getD a [] else st.1.getD i [] := fun i => by
    rw [getD_setL _ _ _ _ _ (by omega), swapR_get _ _ _ _ hf hal]
    by_cases e1 : a = i
    · rw [if_pos e1, if_pos e1]
    · rw [if_neg e1, if_neg e1, if_neg e1]
  have hk1 : S.getD k 0 = 1 := by rw [hSg k hk, ← hx]; exact hinv
  refine ⟨⟨by rw [clearTo_length]; exact hl2, fun j hj => ?_, fun i hi hne j hj => ?_⟩, rfl, ?_⟩
  · show ((clearTo p k a _ _).getD a []).getD j 0 = _
    rw [clearTo_get p k a _ _ (Nat.le_refl _) a (by omega), if_neg (by simp), hg2, if_pos rfl, ← hx, ← hI]
    exact hSg j hj
  · show ((clearTo p k a _ _).getD i []).getD j 0 = ((st.1.getD (if i = r then a else i) []).getD j 0 + (p - (st.1.getD (if i = r then a else i) []).getD k 0) * ((clearTo p k a _ _).getD a []).getD j 0) % p
    have hb : (clearTo p k a ((swapR st.1 r a).set a S) ((swapR st.1 r a).set a S).length).getD a [] = S := by
      rw [clearTo_get p k a _ _ (Nat.le_refl _) a (by omega), if_neg (by simp), hg2, if_pos rfl]
    rw [hb, clearTo_get p k a _ _ (Nat.le_refl _) i (by omega), hg2 i, hg2 a, if_neg (Ne.symm hne), if_pos rfl]
    have e2 : (if r = i then st.1.getD a [] else st.1.getD i []) = st.1.getD (if i = r then a else i) [] := by
      by_cases e3 : i = r
      · rw [if_pos e3, if_pos e3.symm]
      · rw [if_neg e3, if_neg (Ne.symm e3)]
    rw [e2]
    have hlt : (if i = r then a else i) < st.1.length := by split <;> omega
    obtain ⟨q, hq⟩ : ∃ q, q = (if i = r then a else i) := ⟨_, rfl⟩
    rw [← hq] at hlt ⊢
    have hl3 := h.rows.len q hlt
    have hb3 := h.rows.get hlt hj
    split
    · rw [addL_get _ _ _ _ _ (by omega)]
    · rename_i h3
      have h4 : (st.1.getD q []).getD k 0 = 0 := Classical.byContradiction fun h5 => h3 ⟨by omega, hne, h5⟩
      rw [h4, Int.sub_zero, Int.add_mul_emod_self_left]
      exact (Int.emod_eq_of_lt hb3.1 hb3.2).symm
  · refine ((SpEq.swap hf hal).trans ?_).trans (SpEq.clear hp0 hR2 k a (by omega) _ (Nat.le_refl _))
    refine SpEq.set (by omega) ?_ ?_
    · have h1 := InSp.row (p := p) (d := d) (B := swapR st.1 r a) (i := a) (by omega)
      refine (h1.lin h1 I 0).congr fun j hj => ?_
      show S.getD j 0 % p = (I * ((swapR st.1 r a).getD a []).getD j 0 + 0 * _) % p
      rw [hSg j hj, hat1, Int.emod_emod, Int.zero_mul, Int.add_zero, Int.mul_comm]
    · have h1 := InSp.row (p := p) (d := d) (B := (swapR st.1 r a).set a S) (i := a) (by omega)
      rw [hg2, if_pos rfl] at h1
      refine (h1.lin h1 x 0).congr fun j hj => ?_
      show ((swapR st.1 r a).getD a []).getD j 0 % p = (x * S.getD j 0 + 0 * _) % p
      rw [hSg j hj, hat1, Int.zero_mul, Int.add_zero, mul_emod_r, Int.mul_comm ((st.1.getD r []).getD j 0), ← Int.mul_assoc, ← mul_emod_l, hinv, Int.one_mul]
theorem Ech.start (p : Int) (rows : List (List Int)) : Ech p 0 (rows, []) :=
  ⟨fun i h => by simp at h, fun i j _ h => by simp at h, fun i h => by simp at h, fun i m h => by simp at h, fun i j h => by simp at h, fun m _ _ j h => by omega⟩
theorem Ech.step {p : Int} (hp : primeB p = true) {d k n : Nat} {st : List (List Int) × List Int} (h : RedOk p d n k st) (he : Ech p k st) (hk : k < d) : Ech p (k + 1) (redStep p k st) ∧ SpEq p d st.1 (redStep p k st).1 := by
  obtain ⟨p2, p7⟩ := prime_bounds hp
  have hp0 : 0 < p := by omega
  by_cases hf : findRow st.1 k st.2.length < st.1.length
  · obtain ⟨hE, h2, hS⟩ := step_both hp h hk hf
    have hge := findRow_ge st.1 k st.2.length
    have hx0 := findRow_hit hf
    obtain ⟨r, hr⟩ : ∃ r, r = findRow st.1 k st.2.length := ⟨_, rfl⟩
    rw [← hr] at hf hge hx0 hE
    have hrz := fun j (hj : j < k) => he.rest r hge hf j hj
    obtain ⟨a, ha⟩ : ∃ a, a = st.2.length := ⟨_, rfl⟩
    rw [← ha] at hge hE
    have hal : a < st.1.length := by omega
    have hxb := h.rows.get hf hk
    have hinv : (st.1.getD r []).getD k 0 * invP ((st.1.getD r []).getD k 0) p % p = 1 := by
      obtain ⟨x, hx⟩ : ∃ x, x = (st.1.getD r []).getD k 0 := ⟨_, rfl⟩
      rw [← hx] at hxb hx0 ⊢
      obtain ⟨m, hm⟩ : ∃ m : Nat, x = m := ⟨x.toNat, by omega⟩
      obtain ⟨q, hq⟩ : ∃ q : Nat, p = q := ⟨p.toNat, by omega⟩
      subst hm
      subst hq
      have h1 := fermat (a := m) hp (by omega) (by omega)
      refine (invP_spec ⟨(m : Int) ^ (q - 2) % q, Int.emod_nonneg _ (by omega), Int.emod_lt_of_pos _ (by omega), ?_⟩).2.2
      rw [Int.mul_emod, Int.emod_emod, ← Int.mul_emod, ← Int.pow_succ', show q - 2 + 1 = q - 1 by omega]
      have e : ((m ^ (q - 1) % q : Nat) : Int) = (m : Int) ^ (q - 1) % (q : Int) := by rw [Int.natCast_emod, Int.natCast_pow]
      rw [← e, h1]
      rfl
    obtain ⟨st', hst⟩ : ∃ st', st' = redStep p k st := ⟨_, rfl⟩
    rw [← hst] at hE h2 hS ⊢
    have hl2 : st'.2.length = a + 1 := by rw [h2, ha]; simp
    have hpo : ∀ i, i < a → pivN st' i = pivN st i := fun i hi => by
      unfold pivN
      rw [h2, getD_app, if_pos (by omega)]
    have hpn : pivN st' a = k := by
      unfold pivN
      rw [h2, getD_app, if_neg (by omega), if_pos ha]
      simp
    -- entries of the pivot's row
    have hatz : ∀ j, j < k → entN st' a j = 0 := fun j hj => by
      unfold entN
      rw [hE.at_ j (by omega)]
      have := hrz j hj
      unfold entN at this
      rw [this, Int.zero_mul]
      rfl
    have hatk : entN st' a k = 1 := by
      unfold entN
      rw [hE.at_ k hk]
      exact hinv
    -- the others keep what lies ahead of k
    have hko : ∀ i, i < st.1.length → i ≠ a → ∀ j, j < k → entN st' i j = entN st (if i = r then a else i) j := fun i hi hne j hj => by
      have h3 := hE.other i hi hne j (by omega)
      have h4 := hatz j hj
      unfold entN at h4 ⊢
      rw [h3, h4, Int.mul_zero, Int.add_zero]
      have hlt : (if i = r then a else i) < st.1.length := by split <;> omega
      have hb := h.rows.get hlt (show j < d by omega)
      exact Int.emod_eq_of_lt hb.1 hb.2
    have hkz : ∀ i, i < st.1.length → i ≠ a → entN st' i k = 0 := fun i hi hne => by
      have h3 := hE.other i hi hne k hk
      unfold entN at hatk ⊢
      rw [h3, hatk, Int.mul_one, show ∀ y : Int, y + (p - y) = p by intro y; omega, Int.emod_self]
    have hl1 := hE.len
    refine ⟨⟨fun i hi => ?_, fun i j hij hj => ?_, fun i hi => ?_, fun i m hi hm hne => ?_, fun i j hi hj => ?_, fun m hm1 hm2 j hj => ?_⟩, hS⟩
    · rw [hl2] at hi
      by_cases e : i = a
      · rw [e, hpn]
        omega
      · rw [hpo i (by omega)]
        have := he.lt i (by omega)
        omega
    · rw [hl2] at hj
      by_cases e : j = a
      · rw [e, hpn, hpo i (by omega)]
        exact he.lt i (by omega)
      · rw [hpo i (by omega), hpo j (by omega)]
        exact he.mono i j hij (by omega)
    · rw [hl2] at hi
      by_cases e : i = a
      · rw [e, hpn]
        exact hatk
      · have hia : i < a := by omega
        have hlt := he.lt i (by omega)
        rw [hpo i hia, hko i (by omega) e _ hlt, if_neg (by omega)]
        exact he.one i (by omega)
    · rw [hl2] at hi
      rw [hl1] at hm
      by_cases e : i = a
      · rw [e, hpn]
        exact hkz m hm (by omega)
      · have hia : i < a := by omega
        have hlt := he.lt i (by omega)
        rw [hpo i hia]
        by_cases em : m = a
        · rw [em]
          exact hatz _ hlt
        · rw [hko m hm em _ hlt]
          refine he.off i _ (by omega) (by split <;> omega) ?_
          split <;> omega
    · rw [hl2] at hi
      by_cases e : i = a
      · rw [e, hpn] at hj
        rw [e]
        exact hatz j hj
      · have hia : i < a := by omega
        have hlt := he.lt i (by omega)
        rw [hpo i hia] at hj
        rw [hko i (by omega) e _ (by omega), if_neg (by omega)]
        exact he.left i j (by omega) hj
    · rw [hl2] at hm1
      rw [hl1] at hm2
      by_cases e : j = k
      · rw [e]
        exact hkz m hm2 (by omega)
      · rw [hko m hm2 (by omega) j (by omega)]
        refine he.rest _ ?_ (by split <;> omega) j (by omega)
        split <;> omega
  · have e : redStep p k st = st := by
      unfold redStep
      simp only
      rw [if_neg hf]
    rw [e]
    refine ⟨⟨fun i hi => by have := he.lt i hi; omega, he.mono, he.one, he.off, he.left, fun m h1 h2 j hj => ?_⟩, SpEq.refl _ _ _⟩
    by_cases ej : j = k
    · rw [ej]
      exact findRow_miss hf h1 h2
    · exact he.rest m h1 h2 j (by omega)
theorem red_all {p : Int} (hp : primeB p = true) {d : Nat} {rows : List (List Int)} (h : Rows p d rows) : ∀ k, k ≤ d → Ech p k (redTo p rows k) ∧ SpEq p d rows (redTo p rows k).1
  | 0, _ => ⟨Ech.start p rows, SpEq.refl _ _ _⟩
  | k + 1, hk => by
    obtain ⟨h1, h2⟩ := red_all hp h k (by omega)
    have hp0 : 0 < p := by have := (prime_bounds hp).1; omega
    obtain ⟨h3, h4⟩ := h1.step hp (redTo_ok hp0 h k) (by omega)
    exact ⟨h3, h2.trans h4⟩
theorem sumTo_one {n k : Nat} (hk : k < n) {f : Nat → Int} (h : ∀ i, i < n → i ≠ k → f i = 0) : sumTo n f = f k := by
  have e : sumTo n f = sumTo n fun i => (if k = i then 1 else 0) * f i := sumTo_congr fun i hi => by
    by_cases e : k = i
    · rw [if_pos e, Int.one_mul]
    · rw [if_neg e, Int.zero_mul]
      exact h i hi (Ne.symm e)
  rw [e, sumTo_only hk]
end Go.Proofs.YtenlhfimdpcaoaaGreat
