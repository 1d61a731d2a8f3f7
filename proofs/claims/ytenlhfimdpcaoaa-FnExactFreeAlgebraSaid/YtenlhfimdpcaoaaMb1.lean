/-
  Words: comparing lists of integers, by the library, the program and the reference.
  Regions that draw their order: a walk in one order serves all orders. The operations that only read are taken first, in every world of a class; the others follow one by one, each of them the only one that may come up; a tail of operations that wait for all others is free to leave the class.
  The reference's FormatInt and FormatInts.
  Slices of strings that a call owns; numbers as decimal text, as the reference writes them.
  Owned slices of elements that hold one slice of integers each (rows, terms, matrices): what they hold, and how it is kept and changed.
  append on an owned slice of integers; the library's Clone.
  The library's functions on slices of integers: IndexFunc, ContainsFunc, Clone.
  Lists of residues as functions of the place: sums, multiples, tables. No program in sight.
  The small functions on integers: inside, mod, IsPrime of both packages.
  The law's own small functions on slices of integers: eqIntS, markIntS, heldIntS, toIntS, szIntS.
  Integers in memory: slices that are read, slices that a call owns, what a store or a call leaves.
  General lemmas, no program in sight: hidden facts, integer remainders, primes.
-/
import Derived.Test.YtenlhfimdpcaoaaRows
import Derived.WalkKit
import Derived.WalkSpells
import Derived.WalkLawsBesides
import Derived.Laws.CopyOwn
import Derived.Deep.QuietTactic
import Derived.BigQuiet
import Derived.Laws.AppendOwnNone
import Derived.Lib.ItoaNum
import Derived.Lib.Join
import Derived.Laws.IdiomStrings
import Derived.OrdersHeld
import Derived.StillTail
namespace Go.Proofs.Ytenlhfimdpcaoaa
open Go.RowKit

theorem hidP {p : Prop} (h : p) : Hid p := h

theorem ret_bool {a b : Bool} (h : a = b) : Ending.returned (.bool a) = .returned (.bool b) := by rw [h]
theorem ret_int {a b : Int} (h : a = b) : Ending.returned (.int .i64 a) = .returned (.int .i64 b) := by rw [h]

/-- n between lo and hi -/
def insB (n lo hi : Int) : Bool := decide (lo ≤ n ∧ n ≤ hi)
theorem insB_true {n lo hi : Int} : insB n lo hi = true ↔ lo ≤ n ∧ n ≤ hi := by simp [insB]
theorem insB_false {n lo hi : Int} : insB n lo hi = false ↔ ¬ (lo ≤ n ∧ n ≤ hi) := by
  rw [Bool.eq_false_iff, ne_eq, insB_true]

def PrimeP (n : Int) : Prop := 2 ≤ n ∧ n ≤ 10007 ∧ ∀ d : Nat, d < 101 → 2 ≤ d → (d : Int) * d ≤ n → n % d ≠ 0
instance (n : Int) : Decidable (PrimeP n) := by unfold PrimeP; infer_instance
def primeB (n : Int) : Bool := decide (PrimeP n)
theorem primeB_true {n : Int} : primeB n = true ↔ PrimeP n := by simp [primeB]
theorem primeB_false {n : Int} : primeB n = false ↔ ¬ PrimeP n := by simp [primeB]
theorem prime_bounds {n : Int} (h : primeB n = true) : 2 ≤ n ∧ n ≤ 10007 := ⟨(primeB_true.1 h).1, (primeB_true.1 h).2.1⟩

theorem tmod_pos_bounds (n p : Int) (hp : 0 < p) : -p < n.tmod p ∧ n.tmod p < p := by
  rcases Int.le_total 0 n with h | h
  · have h1 := Int.emod_nonneg n (Int.ne_of_gt hp); have h2 := Int.emod_lt_of_pos n hp
    rw [Int.tmod_eq_emod_of_nonneg h]; omega
  · have h1 := Int.emod_nonneg (-n) (Int.ne_of_gt hp); have h2 := Int.emod_lt_of_pos (-n) hp
    have e : n.tmod p = - ((-n) % p) := by rw [← Int.tmod_eq_emod_of_nonneg (by omega), Int.neg_tmod, Int.neg_neg]
    rw [e]; omega
theorem emod_of_tmod_nonneg (n p : Int) (h : 0 ≤ n.tmod p) (hp : 0 < p) : n.tmod p = n % p := by
  have h2 := tmod_pos_bounds n p hp
  have h3 := Int.mul_tdiv_add_tmod n p
  have : n % p = n.tmod p := by
    conv => lhs; rw [← h3, Int.add_comm, Int.add_mul_emod_self_left]
    exact Int.emod_eq_of_lt h h2.2
  exact this.symm
theorem emod_of_tmod_neg (n p : Int) (h : n.tmod p < 0) (hp : 0 < p) : n.tmod p + p = n % p := by
  have h2 := tmod_pos_bounds n p hp
  have h3 := Int.mul_tdiv_add_tmod n p
  have : n % p = n.tmod p + p := by
    conv => lhs; rw [← h3, Int.add_comm, Int.add_mul_emod_self_left]
    rw [← Int.add_emod_right]
    exact Int.emod_eq_of_lt (by omega) (by omega)
  exact this.symm

theorem wrap_in {n : Int} (h0 : -9223372036854775808 ≤ n) (h1 : n ≤ 9223372036854775807) : IntKind.i64.wrap n = n := IntWalk.i64_in n ⟨h0, h1⟩

/-- places in a table of d rows of d rows of d numbers -/
theorem idx2_facts {d i j : Int} (hi0 : 0 ≤ i) (hi1 : i < d) (_hj0 : 0 ≤ j) (hj1 : j < d) : 0 ≤ i * d ∧ i * d + j < d * d ∧ i * d ≤ d * d := by
  have h1 : (i + 1) * d ≤ d * d := Int.mul_le_mul_of_nonneg_right (by omega) (by omega)
  have h2 : 0 ≤ i * d := Int.mul_nonneg hi0 (by omega)
  rw [Int.add_mul, Int.one_mul] at h1
  omega
theorem idx_facts {d i j k : Int} (hd : d ≤ 28) (hi0 : 0 ≤ i) (hi1 : i < d) (hj0 : 0 ≤ j) (hj1 : j < d) (_hk0 : 0 ≤ k) (hk1 : k < d) :
    0 ≤ i * d ∧ i * d ≤ 784 ∧ 0 ≤ (i * d + j) * d ∧ (i * d + j) * d ≤ 21952 ∧ (i * d + j) * d + k < d * d * d := by
  obtain ⟨h1, h2, h3⟩ := idx2_facts hi0 hi1 hj0 hj1
  have h4 : d * d ≤ 28 * 28 := Int.mul_le_mul hd hd (by omega) (by omega)
  have h5 : (i * d + j + 1) * d ≤ d * d * d := Int.mul_le_mul_of_nonneg_right (by omega) (by omega)
  have h6 : 0 ≤ (i * d + j) * d := Int.mul_nonneg (by omega) (by omega)
  have h7 : d * d * d ≤ 28 * 28 * 28 := Int.mul_le_mul h4 hd (by omega) (by omega)
  rw [Int.add_mul, Int.one_mul] at h5
  refine ⟨h1, by omega, h6, by omega, by omega⟩
theorem cube_le {d : Int} (h0 : 0 ≤ d) (h : d ≤ 28) : 0 ≤ d * d ∧ d * d ≤ 784 ∧ 0 ≤ d * d * d ∧ d * d * d ≤ 21952 := by
  have h4 : d * d ≤ 28 * 28 := Int.mul_le_mul h h (by omega) (by omega)
  have h3 : 0 ≤ d * d := Int.mul_nonneg h0 h0
  have h7 : d * d * d ≤ 28 * 28 * 28 := Int.mul_le_mul h4 h (by omega) (by omega)
  exact ⟨h3, by omega, Int.mul_nonneg h3 h0, by omega⟩

end Go.Proofs.Ytenlhfimdpcaoaa

namespace Go.Proofs.Ytenlhfimdpcaoaa
open Go.RowKit

def ivs (xs : List Int) : List Value := xs.map (Value.int .i64)
theorem ivs_length (xs : List Int) : (ivs xs).length = xs.length := by simp [ivs]
theorem ivs_get (xs : List Int) (i : Nat) (h : i < xs.length) : (ivs xs)[i]? = some (.int .i64 (xs.getD i 0)) := by
  simp [ivs, h]
theorem ivs_get_inv {xs : List Int} {i : Nat} {v : Value} (h : (ivs xs)[i]? = some v) : i < xs.length ∧ v = .int .i64 (xs.getD i 0) := by
  simp only [ivs, List.getElem?_map, Option.map_eq_some_iff] at h
  obtain ⟨x, hx, rfl⟩ := h
  obtain ⟨h1, h2⟩ := List.getElem?_eq_some_iff.1 hx
  exact ⟨h1, by simp [h2, h1]⟩
theorem ivs_one (xs : List Int) : ∀ u ∈ ivs xs, u.oneCell' = true := by
  intro u hu
  simp only [ivs, List.mem_map] at hu
  obtain ⟨x, _, rfl⟩ := hu
  rfl

theorem ints_ext {xs ys : List Int} (hl : xs.length = ys.length) (h : ∀ j, j < xs.length → xs.getD j 0 = ys.getD j 0) : xs = ys := by
  apply List.ext_getElem hl
  intro i h1 h2
  have := h i h1
  simpa [List.getD_eq_getElem?_getD, List.getElem?_eq_getElem h1, List.getElem?_eq_getElem h2] using this

/-- 'w' is w but for new blocks -/
abbrev Ext (w w' : World) : Prop := Below w.heap.size w w'
theorem Ext.refl (w : World) : Ext w w := Below.refl _ _
theorem Ext.trans {a b c : World} (h : Ext a b) (k : Ext b c) : Ext a c := Below.trans h (k.mono h.size)
theorem Ext.drewN (w : World) (n : Nat) : Ext w (w.drewN n) := ⟨rfl, rfl, rfl, Nat.le_refl _, fun _ _ => rfl⟩
theorem Ext.alloc (w : World) (o : Obj) : Ext w (w.alloc o) := (Below.refl _ _).alloc (Nat.le_refl _) o
/-- the slice value at address a (n elements) reads as the integers xs -/
structure IntsAt (w : World) (a : Option Addr) (n : Nat) (xs : List Int) : Prop where
  len : xs.length = n
  get : ∀ i, i < n → ∃ b o, a = some ⟨b, o, none⟩ ∧ w.cell? ⟨b, o + i, none⟩ = some (.int .i64 (xs.getD i 0))

theorem IntsAt.block_lt {w : World} {b o n : Nat} {xs : List Int} (h : IntsAt w (some ⟨b, o, none⟩) n xs) (hn : 0 < n) : b < w.heap.size := by
  obtain ⟨b', o', e, hc⟩ := h.get 0 hn
  simp only [Option.some.injEq, Addr.mk.injEq, and_true] at e
  obtain ⟨rfl, rfl⟩ := e
  exact World.block_lt_of_cell? w _ hc
theorem IntsAt.atc {w : World} {b o n : Nat} {xs : List Int} (h : IntsAt w (some ⟨b, o, none⟩) n xs) (i : Nat) (hi : i < n) : w.cell? ⟨b, o + i, none⟩ = some (.int .i64 (xs.getD i 0)) := by
  obtain ⟨b', o', e, hc⟩ := h.get i hi
  simp only [Option.some.injEq, Addr.mk.injEq, and_true] at e
  obtain ⟨rfl, rfl⟩ := e
  exact hc
theorem IntsAt.below {w w' : World} {a : Option Addr} {n : Nat} {xs : List Int} (h : IntsAt w a n xs) (hb : Ext w w') : IntsAt w' a n xs := by
  refine ⟨h.len, fun i hi => ?_⟩
  obtain ⟨b, o, rfl, hc⟩ := h.get i hi
  exact ⟨b, o, rfl, (hb.cell (p := ⟨b, o + i, none⟩) (World.block_lt_of_cell? w _ hc)).trans hc⟩
/-- a part of a slice -/
theorem IntsAt.part {w : World} {b o n : Nat} {xs : List Int} (h : IntsAt w (some ⟨b, o, none⟩) n xs) (i m : Nat) (hm : i + m ≤ n) : IntsAt w (some ⟨b, o + i, none⟩) m ((xs.drop i).take m) := by
  have hl := h.len
  refine ⟨by simp; omega, fun j hj => ⟨b, o + i, rfl, ?_⟩⟩
  obtain ⟨b', o', e, hc⟩ := h.get (i + j) (by omega)
  simp only [Option.some.injEq, Addr.mk.injEq, and_true] at e
  obtain ⟨rfl, rfl⟩ := e
  rw [Nat.add_assoc, hc]
  simp [List.getD_eq_getElem?_getD, hj]

/-- an owned slice of integers: it is nil, or begins at the head of a block from B on that nothing else looks into -/
structure OwnI (w : World) (B : Nat) (a : Option Addr) (n c : Nat) (xs : List Int) : Prop where
  row : w.ownsRow B 3 1 (.slice a n c) n (ivs xs)

theorem OwnI.len {w : World} {B : Nat} {a : Option Addr} {n c : Nat} {xs : List Int} (h : OwnI w B a n c xs) : xs.length = n := by
  have := h.row.1
  simpa [ivs_length] using this
theorem OwnI.cell {w : World} {B : Nat} {a : Option Addr} {n c : Nat} {xs : List Int} (h : OwnI w B a n c xs) (k : Nat) (hk : k < n) :
    ∃ g, a = some ⟨g, 0, none⟩ ∧ B ≤ g ∧ g < w.heap.size ∧ w.cell? ⟨g, k, none⟩ = some (.int .i64 (xs.getD k 0)) ∧ w.frozen? ⟨g, k, none⟩ = false := by
  have hl := h.len
  rcases h.row.2 with ⟨he, h0⟩ | ⟨g, cap, cur, he, hB, hg, hnc, hcm, hcs, ht⟩
  · omega
  · simp only [Value.slice.injEq] at he
    obtain ⟨rfl, -, rfl⟩ := he
    have h2 := h.row
    have h3 := h2.cellAt k (by omega)
    rw [ivs_get xs k (by omega)] at h3
    exact ⟨g, rfl, hB, (h2.lt g rfl).2, h3, h2.frozenAt k⟩
theorem OwnI.ints {w : World} {B : Nat} {a : Option Addr} {n c : Nat} {xs : List Int} (h : OwnI w B a n c xs) : IntsAt w a n xs :=
  ⟨h.len, fun i hi => by
    obtain ⟨g, rfl, _, _, hc, _⟩ := h.cell i hi
    exact ⟨g, 0, rfl, by simpa using hc⟩⟩
theorem OwnI.grown {w w' : World} {B : Nat} {a : Option Addr} {n c : Nat} {xs : List Int} (h : OwnI w B a n c xs) {row : Option Nat} (hg : w.grownBy w' row) (hne : ∀ g o, a = some ⟨g, o, none⟩ → some g ≠ row) : OwnI w' B a n c xs := by
  refine ⟨h.row.kept hg ?_⟩
  cases a with
  | none => exact .inl rfl
  | some p =>
    right
    rcases h.row.2 with ⟨he, h0⟩ | ⟨g, cap, cur, he, _⟩
    · simp at he
    · simp only [Value.slice.injEq, Option.some.injEq] at he
      obtain ⟨rfl, -, -⟩ := he
      exact hne g 0 rfl
theorem OwnI.below {w w' : World} {B : Nat} {a : Option Addr} {n c : Nat} {xs : List Int} (h : OwnI w B a n c xs) (hb : Ext w w') : OwnI w' B a n c xs :=
  h.grown (row := none) ⟨hb.os, hb.tape, hb.output, hb.size, fun k hk _ => hb.block k hk⟩ (by simp)
theorem OwnI.base {w : World} {B B' : Nat} {a : Option Addr} {n c : Nat} {xs : List Int} (h : OwnI w B a n c xs) (hB : B' ≤ B) : OwnI w B' a n c xs := by
  refine ⟨h.row.1, ?_⟩
  rcases h.row.2 with h2 | ⟨g, cap, cur, he, hB', r⟩
  · exact .inl h2
  · exact .inr ⟨g, cap, cur, he, Nat.le_trans hB hB', r⟩
theorem OwnI.nil (w : World) (B : Nat) : OwnI w B none 0 0 [] := ⟨World.ownsRow_nil w B _ _⟩
theorem OwnI.made (w : World) (B n : Nat) (hB : B ≤ w.heap.size) (hm : n ≤ maxLen) : OwnI (w.alloc (.cells (Array.replicate n (.int .i64 0)) 3)) B (some ⟨w.heap.size, 0, none⟩) n n (List.replicate n 0) := by
  refine ⟨?_⟩
  have := World.ownsRow_lit (e := 3) (size := 1) (base := B) w (Array.replicate n (.int .i64 0)) n hB hm (by simp)
  simpa [ivs, List.map_replicate] using this

/-- w' is w but for new blocks and the n cells from a on, which now hold ys -/
structure UpdI (w w' : World) (a : Option Addr) (n : Nat) (ys : List Int) : Prop where
  os : w'.os = w.os
  tape : w'.tape = w.tape
  output : w'.output = w.output
  size : w.heap.size ≤ w'.heap.size
  len : ys.length = n
  other : ∀ k, k < w.heap.size → (∀ b o, a = some ⟨b, o, none⟩ → 0 < n → k ≠ b) → w'.heap[k]? = w.heap[k]?
  self : ∀ b o, a = some ⟨b, o, none⟩ → 0 < n → ∃ cur : Array Value, ∃ E : TypeId, ∃ fr : Nat × Nat, w.heap[b]? = some (.cells cur E fr) ∧ o + n ≤ cur.size ∧
    w'.heap[b]? = some (.cells (splice cur.toList o (ivs ys)).toArray E fr)

theorem splice_self (cur : List Value) (o : Nat) (ys : List Value) (h : ∀ i, i < ys.length → cur[o + i]? = ys[i]?) (hl : o + ys.length ≤ cur.length) : splice cur o ys = cur := by
  apply List.ext_getElem?
  intro i
  simp only [splice, List.getElem?_append, List.length_take, List.getElem?_take, List.getElem?_drop]
  by_cases h1 : i < o
  · simp [show min o cur.length = o by omega, h1, show i < cur.length by omega]
  · simp only [show min o cur.length = o by omega, h1, if_false]
    by_cases h2 : i - o < ys.length
    · simp only [h2, if_true]
      rw [← h _ h2]
      congr 1
      omega
    · simp only [h2, if_false]
      congr 1
      omega

theorem UpdI.start {w : World} {a : Option Addr} {n : Nat} {xs : List Int} (h : IntsAt w a n xs) : UpdI w w a n xs := by
  refine ⟨rfl, rfl, rfl, Nat.le_refl _, h.len, fun _ _ _ => rfl, fun b o e hn => ?_⟩
  subst e
  have hc : ∀ i, i < n → w.cell? ⟨b, o + i, none⟩ = some (.int .i64 (xs.getD i 0)) := fun i hi => by
    obtain ⟨b', o', e, hc⟩ := h.get i hi
    simp only [Option.some.injEq, Addr.mk.injEq, and_true] at e
    obtain ⟨rfl, rfl⟩ := e
    exact hc
  have hl := h.len
  have h0 := hc 0 hn
  unfold World.cell? at h0
  split at h0
  · rename_i cur E fr hb0
    have hb : w.heap[b]? = some (.cells cur E fr) := hb0
    have hcell : ∀ i, i < n → cur[o + i]? = some (.int .i64 (xs.getD i 0)) := fun i hi => by
      have := hc i hi
      unfold World.cell? at this
      simpa only [hb, Option.isSome_none, Bool.false_eq_true, if_false] using this
    have hsz : o + n ≤ cur.size := by
      have := hcell (n - 1) (by omega)
      have := (Array.getElem?_eq_some_iff.1 this).1
      omega
    refine ⟨cur, E, fr, hb, hsz, ?_⟩
    have hsp : splice cur.toList o (ivs xs) = cur.toList := by
      refine splice_self cur.toList o (ivs xs) (fun i hi => ?_) (by simp [ivs_length, hl, hsz])
      rw [ivs_length] at hi
      rw [ivs_get xs i hi, ← hcell i (by omega)]
      simp
    rw [hsp]
    exact hb
  · cases h0

theorem splice_set (cur : List Value) (o : Nat) (ys : List Value) (i : Nat) (v : Value) (hi : i < ys.length) (hl : o + ys.length ≤ cur.length) : (splice cur o ys).set (o + i) v = splice cur o (ys.set i v) := by
  apply List.ext_getElem?
  intro j
  simp only [splice, List.getElem?_set, List.getElem?_append, List.length_take, List.getElem?_take, List.getElem?_drop, List.length_append, List.length_drop, List.length_set]
  by_cases h1 : o + i = j
  · subst h1
    simp only [show min o cur.length = o by omega, show ¬ (o + i < o) by omega, if_false, if_true, show o + i - o = i by omega, hi, if_true]
    rw [if_pos (by omega)]
  · simp only [h1, if_false]
    by_cases h2 : j < o
    · simp [show min o cur.length = o by omega, h2]
    · simp only [show min o cur.length = o by omega, h2, if_false, show ¬ (i = j - o) by omega]

theorem heap_setCell_at (w : World) (b i : Nat) (cs : Array Value) (E : TypeId) (fr : Nat × Nat) (v : Value) (hg : w.heap[b]? = some (.cells cs E fr)) :
    (w.setCell ⟨b, i, none⟩ v).heap[b]? = some (.cells (cs.setIfInBounds i v) E fr) := by
  simp [World.setCell, Array.getElem?_modify, hg]

theorem UpdI.store {w w' : World} {b o n : Nat} {ys : List Int} (h : UpdI w w' (some ⟨b, o, none⟩) n ys) (k : Nat) (hk : k < n) (v : Int) :
    UpdI w (w'.setCell ⟨b, o + k, none⟩ (.int .i64 v)) (some ⟨b, o, none⟩) n (ys.set k v) := by
  have hl := h.len
  refine ⟨h.os, h.tape, h.output, by simpa [World.setCell] using h.size, by simpa using hl, fun j hj hne => ?_, fun b' o' e hn => ?_⟩
  · rw [Below.heap_setCell _ _ _ _ (hne b o rfl (by omega))]
    exact h.other j hj hne
  · simp only [Option.some.injEq, Addr.mk.injEq, and_true] at e
    obtain ⟨rfl, rfl⟩ := e
    obtain ⟨cur, E, fr, h1, h2, h3⟩ := h.self b o rfl hn
    refine ⟨cur, E, fr, h1, h2, ?_⟩
    rw [heap_setCell_at w' b (o + k) _ E fr _ h3]
    congr 2
    rw [List.setIfInBounds_toArray, splice_set _ _ _ _ _ (by simpa [ivs_length, hl] using hk) (by simpa [ivs_length, hl] using h2)]
    simp [ivs, List.map_set]

theorem splice_length (cur : List Value) (o : Nat) (ys : List Value) (hl : o + ys.length ≤ cur.length) : (splice cur o ys).length = cur.length := by simp [splice]; omega
theorem splice_get (cur : List Value) (o : Nat) (ys : List Value) (k : Nat) (hk : k < ys.length) (hl : o + ys.length ≤ cur.length) : (splice cur o ys)[o + k]? = ys[k]? := by
  simp only [splice, List.getElem?_append, List.length_take]
  rw [show min o cur.length = o by omega, if_neg (by omega), show o + k - o = k by omega, if_pos hk]

theorem UpdI.cellAt {w w' : World} {b o n : Nat} {ys : List Int} (h : UpdI w w' (some ⟨b, o, none⟩) n ys) (k : Nat) (hk : k < n) :
    ∃ v, w'.cell? ⟨b, o + k, none⟩ = some v ∧ w'.frozen? ⟨b, o + k, none⟩ = w.frozen? ⟨b, o + k, none⟩ := by
  have hl := h.len
  obtain ⟨cur, E, fr, h1, h2, h3⟩ := h.self b o rfl (by omega)
  refine ⟨.int .i64 (ys.getD k 0), ?_, ?_⟩
  · simp only [World.cell?, h3, Option.isSome_none, Bool.false_eq_true, if_false, List.getElem?_toArray]
    rw [splice_get _ _ _ _ (by simpa [ivs_length, hl] using hk) (by simpa [ivs_length, hl] using h2), ivs_get ys k (by omega)]
  · simp only [World.frozen?, h1, h3]

/-- what the cells read behind the change -/
theorem UpdI.ints {w w' : World} {a : Option Addr} {n : Nat} {xs ys : List Int} (h : UpdI w w' a n ys) (h0 : IntsAt w a n xs) : IntsAt w' a n ys := by
  refine ⟨h.len, fun k hk => ?_⟩
  obtain ⟨b, o, rfl, hc⟩ := h0.get k hk
  have hl := h.len
  obtain ⟨cur, E, fr, h1, h2, h3⟩ := h.self b o rfl (by omega)
  refine ⟨b, o, rfl, ?_⟩
  simp only [World.cell?, h3, Option.isSome_none, Bool.false_eq_true, if_false, List.getElem?_toArray]
  rw [splice_get _ _ _ _ (by simpa [ivs_length, hl] using hk) (by simpa [ivs_length, hl] using h2), ivs_get ys k (by omega)]

/-- another slice, in another block -/
theorem UpdI.others {w w' : World} {a a' : Option Addr} {n n' : Nat} {xs ys : List Int} (h : UpdI w w' a n ys) (k : IntsAt w a' n' xs) (hne : ∀ b o b' o', a = some ⟨b, o, none⟩ → a' = some ⟨b', o', none⟩ → b ≠ b') : IntsAt w' a' n' xs := by
  refine ⟨k.len, fun i hi => ?_⟩
  obtain ⟨b', o', rfl, hc⟩ := k.get i hi
  refine ⟨b', o', rfl, ?_⟩
  rw [World.cell?_of_block (w := w) (h.other b' (World.block_lt_of_cell? w _ hc) fun b o e _ => (hne b o b' o' e rfl).symm)]
  exact hc

theorem UpdI.below {w0 w w' : World} {B : Nat} {a : Option Addr} {n : Nat} {ys : List Int} (h : UpdI w w' a n ys) (hb : Below B w0 w) (hB : B ≤ w.heap.size) (ha : ∀ b o, a = some ⟨b, o, none⟩ → 0 < n → B ≤ b) : Below B w0 w' :=
  hb.trans ⟨h.os, h.tape, h.output, h.size, fun k hk => h.other k (by omega) fun b o e hn => by have := ha b o e hn; omega⟩

/-- the whole of an owned slice, changed -/
theorem UpdI.own {w w' : World} {B : Nat} {a : Option Addr} {n c : Nat} {xs ys : List Int} (h : UpdI w w' a n ys) (k : OwnI w B a n c xs) : OwnI w' B a n c ys := by
  have hl := h.len
  refine ⟨by simpa [ivs_length] using hl, ?_⟩
  rcases k.row.2 with ⟨he, h0⟩ | ⟨g, cap, cur, he, hB, hg, hnc, hcm, hcs, ht⟩
  · exact .inl ⟨he, h0⟩
  · simp only [Value.slice.injEq, true_and] at he
    obtain ⟨rfl, rfl⟩ := he
    rcases Nat.eq_zero_or_pos n with h0 | h0
    · subst h0
      have hy : ys = [] := List.eq_nil_of_length_eq_zero hl
      subst hy
      refine .inr ⟨g, c, cur, rfl, hB, ?_, hnc, hcm, hcs, by simp [ivs]⟩
      rw [h.other g (Array.getElem?_eq_some_iff.1 hg).1 fun _ _ _ hn => by omega]
      exact hg
    · obtain ⟨cur', E, fr, h1, h2, h3⟩ := h.self g 0 rfl h0
      rw [hg] at h1
      simp only [Option.some.injEq, Obj.cells.injEq] at h1
      obtain ⟨rfl, rfl, rfl⟩ := h1
      refine .inr ⟨g, c, _, rfl, hB, h3, hnc, hcm, ?_, ?_⟩
      · rw [List.size_toArray, splice_length _ _ _ (by simpa [ivs_length, hl] using h2)]; simpa using hcs
      · simp [splice, Nat.mul_one, ← ivs_length ys, ← hl]

theorem OwnI.unfrozen {w : World} {B : Nat} {a : Option Addr} {n c : Nat} {xs : List Int} (h : OwnI w B a n c xs) : ∀ i b o, i < n → a = some ⟨b, o, none⟩ → w.frozen? ⟨b, o + i, none⟩ = false := by
  intro i b o hi e
  obtain ⟨g, e', _, _, _, hf⟩ := h.cell i hi
  rw [e] at e'
  simp only [Option.some.injEq, Addr.mk.injEq, and_true] at e'
  obtain ⟨rfl, rfl⟩ := e'
  simpa using hf
theorem OwnI.at_base {w : World} {B : Nat} {a : Option Addr} {n c : Nat} {xs : List Int} (h : OwnI w B a n c xs) : ∀ b o, a = some ⟨b, o, none⟩ → B ≤ b ∧ b < w.heap.size := by
  intro b o e
  rcases h.row.2 with ⟨he, h0⟩ | ⟨g, cap, cur, he, hB, hg, _⟩
  · simp [e] at he
  · simp only [Value.slice.injEq] at he
    rw [e] at he
    simp only [Option.some.injEq, Addr.mk.injEq, and_true] at he
    obtain ⟨⟨rfl, _⟩, _⟩ := he
    exact ⟨hB, (Array.getElem?_eq_some_iff.1 hg).1⟩

/-- new blocks behind a change, and ahead of one -/
theorem UpdI.ext {w w' w'' : World} {a : Option Addr} {n : Nat} {ys : List Int} (h : UpdI w w' a n ys) (k : Ext w' w'') : UpdI w w'' a n ys := by
  refine ⟨k.os.trans h.os, k.tape.trans h.tape, k.output.trans h.output, Nat.le_trans h.size k.size, h.len, fun j hj hne => ?_, fun b o e hn => ?_⟩
  · rw [k.block j (Nat.lt_of_lt_of_le hj h.size)]
    exact h.other j hj hne
  · obtain ⟨cur, E, fr, h1, h2, h3⟩ := h.self b o e hn
    refine ⟨cur, E, fr, h1, h2, ?_⟩
    rw [k.block b (Array.getElem?_eq_some_iff.1 h3).1]
    exact h3
theorem Ext.drew (w : World) : Ext w w.drew := ⟨rfl, rfl, rfl, Nat.le_refl _, fun _ _ => rfl⟩
theorem UpdI.drew {w w' : World} {a : Option Addr} {n : Nat} {ys : List Int} (h : UpdI w w' a n ys) : UpdI w w'.drew a n ys := h.ext (Ext.drew w')
theorem Ext.upd {w0 w w' : World} {a : Option Addr} {n : Nat} {xs ys : List Int} (k : Ext w0 w) (h0 : IntsAt w0 a n xs) (h : UpdI w w' a n ys) : UpdI w0 w' a n ys := by
  refine ⟨h.os.trans k.os, h.tape.trans k.tape, h.output.trans k.output, Nat.le_trans k.size h.size, h.len, fun j hj hne => ?_, fun b o e hn => ?_⟩
  · rw [h.other j (Nat.lt_of_lt_of_le hj k.size) hne, k.block j hj]
  · obtain ⟨cur, E, fr, h1, h2, h3⟩ := h.self b o e hn
    refine ⟨cur, E, fr, ?_, h2, h3⟩
    subst e
    rw [← h1, k.block b (h0.block_lt hn)]

/-- a store into a block below what is owned -/
theorem OwnI.setBelow {w : World} {B : Nat} {a : Option Addr} {n c : Nat} {xs : List Int} (h : OwnI w B a n c xs) (b i : Nat) (hb : b < B) (v : Value) : OwnI (w.setCell ⟨b, i, none⟩ v) B a n c xs :=
  h.grown (row := some b) ⟨rfl, rfl, rfl, by simp [World.setCell], fun k _ hk => Below.heap_setCell _ _ _ _ (fun e => hk (by rw [e]))⟩ (fun g o e => by have := (h.at_base g o e).1; simp; omega)

def addrBlock : Option Addr → Option Nat
  | some ⟨b, _, none⟩ => some b
  | _ => none
theorem addrBlock_some {a : Option Addr} {b : Nat} (h : addrBlock a = some b) : ∃ o, a = some ⟨b, o, none⟩ := by
  unfold addrBlock at h
  split at h
  · simp only [Option.some.injEq] at h
    subst h
    exact ⟨_, rfl⟩
  · cases h
theorem UpdI.grownBy {w w' : World} {a : Option Addr} {n : Nat} {ys : List Int} (h : UpdI w w' a n ys) : w.grownBy w' (addrBlock a) :=
  ⟨h.os, h.tape, h.output, h.size, fun j hj hr => h.other j hj fun b o e _ he => hr (by rw [e, he]; rfl)⟩
/-- another owned slice, in another block -/
theorem OwnI.others {w w' : World} {B : Nat} {a a' : Option Addr} {n n' c' : Nat} {xs ys : List Int} (k : OwnI w B a' n' c' xs) (h : UpdI w w' a n ys) (hne : ∀ b o b' o', a = some ⟨b, o, none⟩ → a' = some ⟨b', o', none⟩ → b ≠ b') : OwnI w' B a' n' c' xs := by
  refine k.grown h.grownBy fun g o e => ?_
  cases hb : addrBlock a with
  | none => simp
  | some b =>
    obtain ⟨o', e'⟩ := addrBlock_some hb
    have := hne b o' g o e' e
    simp only [ne_eq, Option.some.injEq]
    omega

theorem cell_top (w : World) (cs : Array Value) (E : TypeId) (b i : Nat) (hb : b = w.heap.size) : (w.alloc (.cells cs E)).cell? ⟨b, i, none⟩ = cs[i]? := by
  subst hb
  simp only [World.cell?, heap_alloc_new, Option.isSome_none, Bool.false_eq_true, if_false]
theorem Ext.setNew {w0 w : World} (h : Ext w0 w) (b i : Nat) (hb : w0.heap.size ≤ b) (v : Value) : Ext w0 (w.setCell ⟨b, i, none⟩ v) := Below.setCell (p := ⟨b, i, none⟩) h hb v
theorem frozen_top (w : World) (cs : Array Value) (E : TypeId) (b i : Nat) (hb : b = w.heap.size) : (w.alloc (.cells cs E)).frozen? ⟨b, i, none⟩ = false := by
  subst hb
  simp only [World.frozen?, heap_alloc_new]
  simp

/-- the cells of a new block, later -/
theorem new_cell {w w' : World} {cs : Array Value} {E : TypeId} {b : Nat} (hb : b = w.heap.size) (hx : Ext (w.alloc (.cells cs E)) w') (j : Nat) :
    w'.cell? ⟨b, j, none⟩ = cs[j]? ∧ w'.frozen? ⟨b, j, none⟩ = false := by
  subst hb
  have hl : w.heap.size < (w.alloc (.cells cs E)).heap.size := by simp
  exact ⟨(hx.cell (p := ⟨w.heap.size, j, none⟩) hl).trans (cell_top _ _ _ _ _ rfl), (hx.frozen (p := ⟨w.heap.size, j, none⟩) hl).trans (frozen_top _ _ _ _ _ rfl)⟩
end Go.Proofs.Ytenlhfimdpcaoaa

namespace Go.Proofs.Ytenlhfimdpcaoaa
open Go.RowKit

theorem Try.info3 : (Try.prog.info? 3).map (fun i => (i.zero, i.size, i.bytes)) = some (some (.int .i64 0), 1, 8) := by kernel_rfl

/-- make([]int, n) -/
theorem make_ints (n : Int) (h0 : 0 ≤ n) (h1 : n ≤ 1000000000000) (w : World) :
    (Instr.makeSlice 22 (.int .i64 n) (.int .i64 n)).run Try.prog w = .ok (.slice (some ⟨w.heap.size, 0, none⟩) n.toNat n.toNat) (w.alloc (.cells (Array.replicate n.toNat (.int .i64 0)) 3)) := by
  obtain ⟨i, hi, hz0, hz1, hz2⟩ := info_parts Try.info3
  have := run_make (P := Try.prog) w 22 3 i (.int .i64 0) Try.underlying22 hi hz0 .i64 .i64 n n h0 (Int.le_refl _) (by rw [hz2]; omega) (by omega)
  rw [this, hz1]
  have e : madeCells (Value.int .i64 0).cells (n.toNat * 1) = Array.replicate n.toNat (.int .i64 0) := by
    apply Array.ext'
    rw [show (Value.int .i64 0).cells = #[.int .i64 0] from rfl, toList_madeCells_one]
    simp
  rw [e]

set_option maxHeartbeats 1000000 in
theorem eqIntS_any (a1 a2 : Option Addr) (n1 n2 c1 c2 : Nat) (xs ys : List Int) (w : World) (h1 : IntsAt w a1 n1 xs) (h2 : IntsAt w a2 n2 ys) (hm1 : n1 ≤ 9223372036854775807) (hm2 : n2 ≤ 9223372036854775807) :
    Calls Try.prog 30 #[.slice a1 n1 c1, .slice a2 n2 c2] w fun e w' => e = .returned (.bool (xs == ys)) ∧ ∃ m, w' = w.drewN m := by
  obtain ⟨l1, g1⟩ := h1
  obtain ⟨l2, g2⟩ := h2
  have G1 := hidP g1
  have G2 := hidP g2
  have L1 := hidP l1
  have L2 := hidP l2
  clear g1 g2 l1 l2
  by_cases hne : n1 = n2
  · subst hne
    go_enter Try.func30, Try.ntmps30
    go_wp2
    go_loopw [5] (fun i wr => ∃ k m : Nat, k ≤ n1 ∧ Hid (∀ j, j < k → xs.getD j 0 = ys.getD j 0) ∧ i = .int .i64 k ∧ wr = w.drewN m) (fun i _ => n1 - (intOf i).toNat)
    case atStart => exact ⟨0, 0, Nat.zero_le _, fun j h => by omega, rfl, rfl⟩
    case round =>
      obtain ⟨k, m, hk, HJ, rfl, rfl⟩ := hrel
      by_cases hlt : k < n1
      · obtain ⟨b1, o1, rfl, q1⟩ := G1.out k hlt
        obtain ⟨b2, o2, rfl, q2⟩ := G2.out k hlt
        by_cases hd : xs.getD k 0 = ys.getD k 0
        · have hb : (xs[k]?.getD 0 != ys[k]?.getD 0) = false := by simpa [List.getD_eq_getElem?_getD] using hd
          have HD := hidP hd
          clear hd
          go_wp2
          go_quiet (fail)
          go_wp2
          go_roundw
          case rel =>
            refine ⟨k + 1, m + nq, by omega, fun j hj => ?_, by go_num, by simp⟩
            rcases Nat.lt_succ_iff_lt_or_eq.1 hj with h3 | rfl
            · exact HJ.out j h3
            · exact HD.out
          case measure => simp [intOf]; omega
        · have hb : (xs[k]?.getD 0 != ys[k]?.getD 0) = true := by simpa [List.getD_eq_getElem?_getD] using hd
          have HB : Hid ((xs == ys) = false) := by
            show _ = _
            rw [beq_eq_false_iff_ne]
            exact fun e => hd (by rw [e])
          clear hd
          go_wp2
          go_quiet (fail)
          go_wp2
          go_ret
          exact ⟨ret_bool HB.out.symm, _, by simp only [World.drewN_drewN]; rfl⟩
      · have HB : Hid ((xs == ys) = true) := by
          show _ = _
          rw [beq_iff_eq]
          exact ints_ext (L1.out.trans L2.out.symm) fun j hj => HJ.out j (by have := L1.out; omega)
        go_wp2
        go_ret
        exact ⟨ret_bool HB.out.symm, _, rfl⟩
  · have HB : Hid ((xs == ys) = false) := by
      show _ = _
      rw [beq_eq_false_iff_ne]
      exact fun e => hne (by rw [← L1.out, ← L2.out, e])
    have hb : (((n1 : Nat) : Int) != (n2 : Nat)) = true := bne_iff_ne.2 (by omega)
    clear hne
    go_enter Try.func30, Try.ntmps30
    go_wp2
    go_ret
    exact ⟨ret_bool HB.out.symm, 0, rfl⟩

/-- k, k + 1, .. -/
def upFrom (k : Int) : Nat → List Int
  | 0 => []
  | n + 1 => k :: upFrom (k + 1) n
theorem upFrom_length (k : Int) (n : Nat) : (upFrom k n).length = n := by
  induction n generalizing k with
  | zero => rfl
  | succ n ih => simp [upFrom, ih]
theorem upFrom_get (k : Int) (n j : Nat) (h : j < n) : (upFrom k n).getD j 0 = k + j := by
  induction n generalizing k j with
  | zero => omega
  | succ n ih =>
    cases j with
    | zero => simp [upFrom]
    | succ j =>
      have := ih (k + 1) j (by omega)
      simp only [List.getD_eq_getElem?_getD] at this ⊢
      simp only [upFrom, List.getElem?_cons_succ, this]
      omega
/-- the first j numbers of ys, the others of xs -/
def partly (xs ys : List Int) (j : Nat) : List Int := ys.take j ++ xs.drop j
theorem partly_zero (xs ys : List Int) : partly xs ys 0 = xs := by simp [partly]
theorem partly_all (xs ys : List Int) (n : Nat) (h1 : xs.length = n) (h2 : ys.length = n) : partly xs ys n = ys := by simp [partly, ← h2, List.take_of_length_le, h1]
theorem partly_succ (xs ys : List Int) (n j : Nat) (hj : j < n) (h1 : xs.length = n) (h2 : ys.length = n) : (partly xs ys j).set j (ys.getD j 0) = partly xs ys (j + 1) := by
  apply List.ext_getElem?
  intro i
  simp only [partly, List.getElem?_set, List.getElem?_append, List.length_take, List.getElem?_take, List.getElem?_drop, List.length_append, List.length_drop]
  by_cases h : j = i
  · subst h
    rw [if_pos rfl, if_pos (by omega), if_pos (by omega), if_pos (by omega), List.getElem?_eq_getElem (by omega), List.getD_eq_getElem?_getD, List.getElem?_eq_getElem (by omega)]
    rfl
  · simp only [h, if_false]
    by_cases h3 : i < j
    · simp [show min j ys.length = j by omega, show min (j + 1) ys.length = j + 1 by omega, h3, show i < j + 1 by omega]
    · simp [show min j ys.length = j by omega, show min (j + 1) ys.length = j + 1 by omega, h3, show ¬ (i < j + 1) by omega]
      congr 1; omega

set_option maxHeartbeats 1000000 in
theorem markIntS_any (a : Option Addr) (n c : Nat) (k0 : Int) (xs : List Int) (w : World) (h : IntsAt w a n xs) (hf : ∀ i b o, i < n → a = some ⟨b, o, none⟩ → w.frozen? ⟨b, o + i, none⟩ = false)
    (hn : n ≤ 1000000000000) (hk0 : -1000000000000 ≤ k0) (hk1 : k0 ≤ 1000000000000) :
    Calls Try.prog 31 #[.slice a n c, .int .i64 k0] w fun e w' => e = .returned (.int .i64 (k0 + n)) ∧ UpdI w w' a n (upFrom k0 n) := by
  have hst := UpdI.start h
  have G := hidP h.get
  have L := hidP h.len
  have HF := hidP hf
  have HST := hidP hst
  clear h hf hst
  go_enter Try.func31, Try.ntmps31
  go_wp2
  go_loopw [1, 5] (fun kk i wr => ∃ k : Nat, k ≤ n ∧ Hid (UpdI w wr a n (partly xs (upFrom k0 n) k)) ∧ i = .int .i64 k ∧ kk = .int .i64 (k0 + k)) (fun _ i _ => n - (intOf i).toNat)
  case atStart => exact ⟨0, Nat.zero_le _, by rw [partly_zero]; exact HST, rfl, by simp⟩
  case round =>
    obtain ⟨k, hk, HU, rfl, rfl⟩ := hrel
    by_cases hlt : k < n
    · obtain ⟨b, o, rfl, q⟩ := G.out k hlt
      have hcf := hidP (HU.out.cellAt k hlt)
      obtain ⟨v, hc, hfz⟩ := hcf.out
      have hfz' : wr.frozen? ⟨b, o + k, none⟩ = false := by rw [hfz]; exact HF.out k b o hlt rfl
      have hs := HU.out.store k hlt (k0 + k)
      rw [← upFrom_get k0 n k hlt, partly_succ xs _ n k hlt L.out (upFrom_length _ _), upFrom_get k0 n k hlt] at hs
      have HS := hidP hs
      clear hs hfz q hcf
      go_wp2
      go_roundw
      case rel => exact ⟨k + 1, by omega, HS, by go_num, by go_num⟩
      case measure => simp [intOf]; omega
    · have hu := HU.out
      obtain rfl : k = n := by omega
      rw [partly_all xs _ k L.out (upFrom_length _ _)] at hu
      go_wp2
      go_ret
      exact ⟨rfl, hu⟩

set_option maxHeartbeats 1000000 in
theorem heldIntS_any (a : Option Addr) (n c : Nat) (k0 : Int) (w : World) (h : IntsAt w a n (upFrom k0 n)) (hn : n ≤ 1000000000000) (hk0 : -1000000000000 ≤ k0) (hk1 : k0 ≤ 1000000000000) :
    Calls Try.prog 32 #[.slice a n c, .int .i64 k0] w fun e w' => e = .returned (.int .i64 (k0 + n)) ∧ ∃ m, w' = w.drewN m := by
  have G := hidP h.get
  clear h
  go_enter Try.func32, Try.ntmps32
  go_wp2
  go_loopw [1, 5] (fun kk i wr => ∃ k m : Nat, k ≤ n ∧ i = .int .i64 k ∧ kk = .int .i64 (k0 + k) ∧ wr = w.drewN m) (fun _ i _ => n - (intOf i).toNat)
  case atStart => exact ⟨0, 0, Nat.zero_le _, rfl, by simp, rfl⟩
  case round =>
    obtain ⟨k, m, hk, rfl, rfl, rfl⟩ := hrel
    by_cases hlt : k < n
    · obtain ⟨b, o, rfl, q⟩ := G.out k hlt
      rw [upFrom_get k0 n k hlt] at q
      go_wp2
      go_roundw
      case rel => exact ⟨k + 1, _, by omega, by go_num, by go_num, rfl⟩
      case measure => simp [intOf]; omega
    · obtain rfl : k = n := by omega
      go_wp2
      go_ret
      exact ⟨rfl, _, rfl⟩

end Go.Proofs.Ytenlhfimdpcaoaa

namespace Go.Proofs.Ytenlhfimdpcaoaa
open Go.RowKit

theorem inside_any (n lo hi : Int) (w : World) :
    Calls Try.prog 56 #[.int .i64 n, .int .i64 lo, .int .i64 hi] w fun e w' => e = .returned (.bool (insB n lo hi)) ∧ w = w' := by
  by_cases h : lo ≤ n
  · go_enter Try.func56, Try.ntmps56
    go_wp2
    go_ret
    exact ⟨by simp [insB, h], rfl⟩
  · have h' : decide (lo ≤ n) = false := by simp; omega
    have HI := hidP (insB_false (hi := hi) |>.2 (fun hc : lo ≤ n ∧ n ≤ hi => h hc.1))
    go_enter Try.func56, Try.ntmps56
    go_wp2
    go_ret
    exact ⟨ret_bool HI.out.symm, rfl⟩
theorem l1In_any (n lo hi : Int) (w : World) :
    Calls Try.prog 47 #[.int .i64 n, .int .i64 lo, .int .i64 hi] w fun e w' => e = .returned (.bool (insB n lo hi)) ∧ w = w' := by
  by_cases h : lo ≤ n
  · go_enter Try.func47, Try.ntmps47
    go_wp2
    go_ret
    exact ⟨by simp [insB, h], rfl⟩
  · have h' : decide (lo ≤ n) = false := by simp; omega
    have HI := hidP (insB_false (hi := hi) |>.2 (fun hc : lo ≤ n ∧ n ≤ hi => h hc.1))
    go_enter Try.func47, Try.ntmps47
    go_wp2
    go_ret
    exact ⟨ret_bool HI.out.symm, rfl⟩
theorem mod_any (n p : Int) (w : World) (hp : 1 ≤ p) (hp2 : p ≤ 1000000) :
    Calls Try.prog 123 #[.int .i64 n, .int .i64 p] w fun e w' => e = .returned (.int .i64 (n % p)) ∧ w = w' := by
  have hb := tmod_pos_bounds n p (by omega)
  have hm : 0 ≤ n.tmod p + p := by omega
  have he : (n.tmod p + p) % p = n % p := by
    rcases Int.lt_or_le (n.tmod p) 0 with h | h
    · rw [emod_of_tmod_neg n p h (by omega), Int.emod_emod]
    · rw [emod_of_tmod_nonneg n p h (by omega), Int.add_emod_right, Int.emod_emod]
  have HE := hidP he
  clear he
  go_enter Try.func123, Try.ntmps123
  go_wp2
  go_ret
  exact ⟨ret_int HE.out, rfl⟩
theorem l1Mod_any (n p : Int) (w : World) (hp : 1 ≤ p) (hp2 : p ≤ 1000000) :
    Calls Try.prog 116 #[.int .i64 n, .int .i64 p] w fun e w' => e = .returned (.int .i64 (n % p)) ∧ w = w' := by
  have hb := tmod_pos_bounds n p (by omega)
  by_cases h : n.tmod p < 0
  · have he := hidP (emod_of_tmod_neg n p h (by omega))
    go_enter Try.func116, Try.ntmps116
    go_wp2
    go_ret
    exact ⟨ret_int he.out, rfl⟩
  · have he := hidP (emod_of_tmod_nonneg n p (by omega) (by omega))
    go_enter Try.func116, Try.ntmps116
    go_wp2
    go_ret
    exact ⟨ret_int he.out, rfl⟩

def primeTo (n : Int) (k : Nat) : Prop := ∀ d : Nat, d < k → 2 ≤ d → n % d ≠ 0
theorem primeTo_two (n : Int) : primeTo n 2 := fun d h1 h2 => by omega
theorem primeTo_succ {n : Int} {k : Nat} (h : primeTo n k) (hk : n % k ≠ 0) : primeTo n (k + 1) := fun d h1 h2 => by
  rcases Nat.lt_succ_iff_lt_or_eq.1 h1 with h3 | rfl
  · exact h d h3 h2
  · exact hk
theorem prime_of_to {n : Int} {k : Nat} (h : primeTo n k) (hk : n < k * k) (h2 : 2 ≤ n) (h3 : n ≤ 10007) : primeB n = true := by
  refine primeB_true.2 ⟨h2, h3, fun d hd1 hd2 hd3 => h d ?_ hd2⟩
  rcases Nat.lt_or_ge d k with h4 | h4
  · exact h4
  · exfalso
    have : k * k ≤ d * d := Nat.mul_le_mul h4 h4
    have : ((k * k : Nat) : Int) ≤ ((d * d : Nat) : Int) := by exact_mod_cast this
    simp only [Int.natCast_mul] at this
    omega
theorem not_prime_of {n : Int} {k : Nat} (hk : n % k = 0) (h2 : 2 ≤ k) (hkk : (k : Int) * k ≤ n) (h3 : n ≤ 10007) : primeB n = false := by
  refine primeB_false.2 fun h => h.2.2 k ?_ h2 hkk hk
  rcases Nat.lt_or_ge k 101 with h4 | h4
  · exact h4
  · exfalso
    have : 101 * 101 ≤ k * k := Nat.mul_le_mul h4 h4
    have : ((101 * 101 : Nat) : Int) ≤ ((k * k : Nat) : Int) := by exact_mod_cast this
    simp only [Int.natCast_mul] at this
    omega

set_option maxHeartbeats 1000000 in
theorem isPrime_any (n : Int) (w : World) :
    Calls Try.prog 55 #[.int .i64 n] w fun e w' => e = .returned (.bool (primeB n)) ∧ w = w' := by
  by_cases hin : 2 ≤ n ∧ n ≤ 10007
  · have hi : insB n 2 10007 = true := insB_true.2 hin
    obtain ⟨hn2, hn7⟩ := hin
    have hto := primeTo_two n
    go_enter Try.func55, Try.ntmps55
    go_wp2_with (go_at_call 56; refine (inside_any _ _ _ _).mono ?_; rintro e w' ⟨rfl, rfl⟩)
    go_loop [3] (fun i => ∃ k : Nat, 2 ≤ k ∧ k ≤ 101 ∧ primeTo n k ∧ i = .int .i64 k) (fun i => 101 - (intOf i).toNat)
    case atStart => exact ⟨2, Nat.le_refl _, by omega, hto, rfl⟩
    case round =>
      clear hto
      obtain ⟨k, hk2, hk, hpt, rfl⟩ := hrel
      have hkk1 : 0 ≤ (k : Int) * k := Int.mul_nonneg (by omega) (by omega)
      have hkk2 : (k : Int) * k ≤ 10201 := by
        have := Nat.mul_le_mul hk hk
        have : ((k * k : Nat) : Int) ≤ ((101 * 101 : Nat) : Int) := by exact_mod_cast this
        simpa using this
      by_cases hlt : (k : Int) * k ≤ n
      · by_cases hd : n % (k : Int) = 0
        · have hb := hidP (not_prime_of hd hk2 hlt hn7)
          have hd' : (n % (k : Int) == 0) = true := by simp [hd]
          clear hd
          go_wp2
          go_ret
          exact ⟨ret_bool hb.out.symm, rfl⟩
        · have hd' : (n % (k : Int) == 0) = false := by simp [hd]
          have hk101 : k < 101 := by
            rcases Nat.lt_or_ge k 101 with h4 | h4
            · exact h4
            · have : k = 101 := by omega
              subst this; omega
          have hs := primeTo_succ hpt hd
          clear hd hpt
          go_wp2
          go_round
          case rel => exact ⟨k + 1, by omega, by omega, hs, by go_num⟩
          case measure => simp [intOf]; omega
      · have hb := hidP (prime_of_to hpt (by omega) hn2 hn7)
        go_wp2
        go_ret
        exact ⟨ret_bool hb.out.symm, rfl⟩
  · have hi : insB n 2 10007 = false := insB_false.2 hin
    have hb : primeB n = false := primeB_false.2 fun h => hin ⟨h.1, h.2.1⟩
    have HB := hidP hb
    clear hin hb
    go_enter Try.func55, Try.ntmps55
    go_wp2_with (go_at_call 56; refine (inside_any _ _ _ _).mono ?_; rintro e w' ⟨rfl, rfl⟩)
    go_ret
    exact ⟨ret_bool HB.out.symm, rfl⟩
set_option maxHeartbeats 1000000 in
theorem sIsPrime_any (n : Int) (w : World) :
    Calls Try.prog 46 #[.int .i64 n] w fun e w' => e = .returned (.bool (primeB n)) ∧ w = w' := by
  by_cases hin : 2 ≤ n ∧ n ≤ 10007
  · have hi : insB n 2 10007 = true := insB_true.2 hin
    obtain ⟨hn2, hn7⟩ := hin
    have hto := primeTo_two n
    have hg1 : decide (n < 2) = false := by simp; omega
    go_enter Try.func46, Try.ntmps46
    go_wp2
    go_loop [3] (fun i => ∃ k : Nat, 2 ≤ k ∧ k ≤ 101 ∧ primeTo n k ∧ i = .int .i64 k) (fun i => 101 - (intOf i).toNat)
    case atStart => exact ⟨2, Nat.le_refl _, by omega, hto, rfl⟩
    case round =>
      clear hto
      obtain ⟨k, hk2, hk, hpt, rfl⟩ := hrel
      have hkk1 : 0 ≤ (k : Int) * k := Int.mul_nonneg (by omega) (by omega)
      have hkk2 : (k : Int) * k ≤ 10201 := by
        have := Nat.mul_le_mul hk hk
        have : ((k * k : Nat) : Int) ≤ ((101 * 101 : Nat) : Int) := by exact_mod_cast this
        simpa using this
      by_cases hlt : (k : Int) * k ≤ n
      · by_cases hd : n % (k : Int) = 0
        · have hb := hidP (not_prime_of hd hk2 hlt hn7)
          have hd' : (n % (k : Int) == 0) = true := by simp [hd]
          clear hd
          go_wp2
          go_ret
          exact ⟨ret_bool hb.out.symm, rfl⟩
        · have hd' : (n % (k : Int) == 0) = false := by simp [hd]
          have hk101 : k < 101 := by
            rcases Nat.lt_or_ge k 101 with h4 | h4
            · exact h4
            · have : k = 101 := by omega
              subst this; omega
          have hs := primeTo_succ hpt hd
          clear hd hpt
          go_wp2
          go_round
          case rel => exact ⟨k + 1, by omega, by omega, hs, by go_num⟩
          case measure => simp [intOf]; omega
      · have hb := hidP (prime_of_to hpt (by omega) hn2 hn7)
        go_wp2
        go_ret
        exact ⟨ret_bool hb.out.symm, rfl⟩
  · have hb : primeB n = false := primeB_false.2 fun h => hin ⟨h.1, h.2.1⟩
    have HB := hidP hb
    clear hb
    by_cases h2 : n < 2
    · clear hin
      go_enter Try.func46, Try.ntmps46
      go_wp2
      go_ret
      exact ⟨ret_bool HB.out.symm, rfl⟩
    · have hg1 : decide (n < 2) = false := by simp; omega
      have hg2 : 10007 < n := by omega
      clear hin
      go_enter Try.func46, Try.ntmps46
      go_wp2
      go_ret
      exact ⟨ret_bool HB.out.symm, rfl⟩
end Go.Proofs.Ytenlhfimdpcaoaa

namespace Go.Proofs.Ytenlhfimdpcaoaa
open Go.RowKit

/-- the sum of f 0 .. f (n - 1) -/
def sumTo (n : Nat) (f : Nat → Int) : Int :=
  match n with
  | 0 => 0
  | n + 1 => sumTo n f + f n
end Go.Proofs.Ytenlhfimdpcaoaa

namespace Go.Proofs.Ytenlhfimdpcaoaa
open Go.RowKit

end Go.Proofs.Ytenlhfimdpcaoaa

namespace Go.Proofs.Ytenlhfimdpcaoaa
open Go.RowKit

theorem OwnI.nil_cap {w : World} {B : Nat} {a : Option Addr} {n c : Nat} {xs : List Int} (h : OwnI w B a n c xs) : a = none → c = 0 := by
  intro e
  subst e
  rcases h.row.2 with ⟨he, _⟩ | ⟨g, cap, cur, he, _⟩
  · simp at he
    exact he.2
  · simp at he

theorem add_none (b o j : Nat) : (⟨b, o, none⟩ : Addr).add j = ⟨b, o + j, none⟩ := by
  unfold Addr.add
  split
  · subst_vars; rfl
  · rfl

theorem own_of_row {w : World} {B n : Nat} {v : Value} {xs : List Int} (h : w.ownsRow B 3 1 v n (ivs xs)) : ∃ a c, v = .slice a n c ∧ OwnI w B a n c xs := by
  rcases h.2 with ⟨he, h0⟩ | ⟨g, cap, cur, he, _⟩
  · subst h0
    exact ⟨none, 0, he, ⟨he ▸ h⟩⟩
  · exact ⟨_, _, he, ⟨he ▸ h⟩⟩

theorem wpList_append_ints {ops : Array Oper} {rest : List Oper} {o : Oper} {a : Act} {Q : Exit → Act → World → Prop} {w : World} (hgd : o.guard = none) (s x : Operand)
    (ho : o.op = .call { callee := .builtin .append, args := #[s, x], argTypes := #[22, 22] })
    (B : Nat) (av : Option Addr) (nv cv : Nat) (xs : List Int) (hs : a.eval s = .slice av nv cv) (hown : OwnI w B av nv cv xs)
    (ax : Option Addr) (m c : Nat) (ys : List Int) (hx : a.eval x = .slice ax m c) (hys : IntsAt w ax m ys) (hnil : ax = none → c = 0) (hsm : nv + m ≤ 1000000000000) (hB : B ≤ w.heap.size)
    (h : ∀ a' c' w', OwnI w' B a' (nv + m) c' (xs ++ ys) → w.grownBy w' (Value.slice av nv cv).ownBlock → wpList Try.prog ops Q rest (a.put o.dst (.slice a' (nv + m) c')) w') : wpList Try.prog ops Q (o :: rest) a w := by
  obtain ⟨i, hi, hz0, hz1, hz2⟩ := info_parts Try.info3
  cases ax with
  | none =>
    have hc := hnil rfl
    subst hc
    have hm : m = 0 := by
      rcases Nat.eq_zero_or_pos m with h0 | h0
      · exact h0
      · obtain ⟨_, _, e, _⟩ := hys.get 0 h0
        cases e
    subst hm
    have hy : ys = [] := List.eq_nil_of_length_eq_zero hys.len
    subst hy
    refine wpList_append_own_none hgd s x 22 ho B 3 i 1 Try.underlying22 hi _ nv (ivs xs) hs hown.row hx ?_
    have := h av cv w (by simpa using hown) ⟨rfl, rfl, rfl, Nat.le_refl _, fun _ _ _ => rfl⟩
    simpa using this
  | some ad =>
    have hl := hys.len
    refine wpList_append_own w hgd s x 22 ho B 3 i (.int .i64 0) 1 8 Try.underlying22 hi hz0 hz1 hz2 rfl (by decide) _ nv (ivs xs) hs hown.row ad m c (ivs ys) hx (by simp [ivs_length, hl]) ?_ (ivs_one ys) (by unfold maxLen; omega) (by omega) hB ?_
    · intro j u hu
      obtain ⟨hj, rfl⟩ := ivs_get_inv hu
      obtain ⟨b, o', e, hc⟩ := hys.get j (by omega)
      simp only [Option.some.injEq] at e
      subst e
      rw [add_none]
      exact hc
    · intro v' w' hr hg _
      rw [show ivs xs ++ ivs ys = ivs (xs ++ ys) by simp [ivs]] at hr
      obtain ⟨a', c', rfl, ho'⟩ := own_of_row hr
      exact h a' c' w' ho' hg

theorem wp_append_ints {o : Oper} {a : Act} {K : Act → World → Prop} {Q : Exit → Act → World → Prop} {w : World} (s x : Operand)
    (ho : o.op = .call { callee := .builtin .append, args := #[s, x], argTypes := #[22, 22] })
    (B : Nat) (av : Option Addr) (nv cv : Nat) (xs : List Int) (hs : a.eval s = .slice av nv cv) (hown : OwnI w B av nv cv xs)
    (ad : Addr) (m c : Nat) (ys : List Int) (hx : a.eval x = .slice (some ad) m c) (hys : IntsAt w (some ad) m ys) (hsm : nv + m ≤ 1000000000000) (hB : B ≤ w.heap.size)
    (h : ∀ a' c' w', OwnI w' B a' (nv + m) c' (xs ++ ys) → w.grownBy w' (Value.slice av nv cv).ownBlock → K (a.put o.dst (.slice a' (nv + m) c')) w') : o.wp Try.prog a w K Q := by
  obtain ⟨i, hi, hz0, hz1, hz2⟩ := info_parts Try.info3
  have hl := hys.len
  refine wp_append_own w s x 22 ho B 3 i (.int .i64 0) 1 8 Try.underlying22 hi hz0 hz1 hz2 rfl (by decide) _ nv (ivs xs) hs hown.row ad m c (ivs ys) hx (by simp [ivs_length, hl]) ?_ (ivs_one ys) (by unfold maxLen; omega) (by omega) hB ?_
  · intro j u hu
    obtain ⟨hj, rfl⟩ := ivs_get_inv hu
    obtain ⟨b, o', e, hc⟩ := hys.get j (by omega)
    simp only [Option.some.injEq] at e
    subst e
    rw [add_none]
    exact hc
  · intro v' w' hr hg _
    rw [show ivs xs ++ ivs ys = ivs (xs ++ ys) by simp [ivs]] at hr
    obtain ⟨a', c', rfl, ho'⟩ := own_of_row hr
    exact h a' c' w' ho' hg

theorem grown_ext {w w' : World} {B : Nat} {a : Option Addr} {n c : Nat} (h : w.grownBy w' (Value.slice a n c).ownBlock) {w0 : World} (hb : Below B w0 w) (hB : B ≤ w.heap.size) (ha : ∀ p, a = some p → B ≤ p.block) : Below B w0 w' := by
  refine Below.grown hb h hB fun k hk => ?_
  cases a with
  | none => simp [Value.ownBlock] at hk
  | some p =>
    simp [Value.ownBlock] at hk
    subst hk
    exact ha p rfl
theorem OwnI.addr_base {w : World} {B : Nat} {a : Option Addr} {n c : Nat} {xs : List Int} (h : OwnI w B a n c xs) : ∀ p, a = some p → B ≤ p.block := by
  intro p e
  subst e
  rcases h.row.2 with ⟨he, _⟩ | ⟨g, cap, cur, he, hB, _⟩
  · simp at he
  · simp only [Value.slice.injEq, Option.some.injEq] at he
    obtain ⟨rfl, _⟩ := he
    exact hB

set_option maxHeartbeats 1000000 in
theorem clone_any (a : Option Addr) (n c : Nat) (xs : List Int) (w : World) (h : IntsAt w a n xs) (hnil : a = none → c = 0) (hn : n ≤ 1000000000000) :
    Calls Try.prog 64 #[.slice a n c] w fun e w' => ∃ a' c', e = .returned (.slice a' n c') ∧ OwnI w' w.heap.size a' n c' xs ∧ Ext w w' := by
  have kn := fun (w : World) => Lib.run_eql_slice_nil (P := Try.prog) w 22 3 a n c 0 0 Try.underlying22
  cases a with
  | none =>
    have hc := hnil rfl
    subst hc
    have hm : n = 0 := by
      rcases Nat.eq_zero_or_pos n with h0 | h0
      · exact h0
      · obtain ⟨_, _, e, _⟩ := h.get 0 h0
        cases e
    subst hm
    have hy : xs = [] := List.eq_nil_of_length_eq_zero h.len
    subst hy
    clear h hnil
    go_enter Try.func64, Try.ntmps64
    go_wp2
    go_ret
    exact ⟨_, _, rfl, OwnI.nil _ _, Ext.refl _⟩
  | some p =>
    have H := hidP (h.below (Ext.alloc w (.cells #[] 3)))
    have hm := OwnI.made w w.heap.size 0 (Nat.le_refl _) (by unfold maxLen; omega)
    rw [show Array.replicate 0 (Value.int .i64 0) = #[] from rfl] at hm
    have HM := hidP hm
    clear h hnil hm
    go_enter Try.func64, Try.ntmps64
    go_wp2_with (at_builtin; refine wpList_append_ints rfl (.tmp 5) (.tmp 6) rfl w.heap.size (some ⟨w.heap.size, 0, none⟩) 0 0 [] rfl HM.out (some p) n c xs rfl H.out (fun e => by cases e) (by omega) (by simp) ?_; intro a' c' w' ho hg)
    go_ret
    rw [Nat.zero_add, List.nil_append] at ho
    exact ⟨_, _, rfl, ho, grown_ext hg (Ext.alloc w _) (by simp) (fun q e => by cases e; exact Nat.le_refl _)⟩
end Go.Proofs.Ytenlhfimdpcaoaa

namespace Go.Proofs.Ytenlhfimdpcaoaa
open Go.RowKit

def Apart (a a' : Option Addr) : Prop := ∀ b o b' o', a = some ⟨b, o, none⟩ → a' = some ⟨b', o', none⟩ → b ≠ b'
theorem Apart.symm {a a' : Option Addr} (h : Apart a a') : Apart a' a := fun b o b' o' e e' => (h b' o' b o e' e).symm

/-- a kind of elements: the type's number, how many cells, the integers that its slice holds, its cells where the slice lies at an address with a capacity -/
structure Knd (α : Type) where
  E : TypeId
  size : Nat
  dft : α
  ints : α → List Int
  put : α → List Int → α
  cells : Option Addr → Nat → α → List Value
  len : ∀ a c x, (cells a c x).length = size
  pos : 0 < size
  ne : E ≠ 3
  put_ints : ∀ x ys, ints (put x ys) = ys
  put_cells : ∀ a c x ys, ys.length = (ints x).length → cells a c (put x ys) = cells a c x
  one : ∀ a c x, ∀ u ∈ cells a c x, u.oneCell' = true

abbrev Hdr := Option Addr × Nat

variable {α : Type}
def Knd.all (K : Knd α) : List Hdr → List α → List Value
  | h :: hs, x :: xs => K.cells h.1 h.2 x ++ K.all hs xs
  | _, _ => []
theorem Knd.all_length (K : Knd α) (hs : List Hdr) (xs : List α) (h : hs.length = xs.length) : (K.all hs xs).length = xs.length * K.size := by
  induction hs generalizing xs with
  | nil => cases xs <;> simp_all [Knd.all]
  | cons a hs ih =>
    cases xs with
    | nil => simp at h
    | cons x xs =>
      simp only [Knd.all, List.length_append, K.len, List.length_cons]
      rw [ih xs (by simpa using h), Nat.add_mul, Nat.one_mul, Nat.add_comm]
theorem Knd.all_get (K : Knd α) (hs : List Hdr) (xs : List α) (h : hs.length = xs.length) (i j : Nat) (hi : i < xs.length) (hj : j < K.size) :
    (K.all hs xs)[i * K.size + j]? = (K.cells (hs.getD i (none, 0)).1 (hs.getD i (none, 0)).2 (xs.getD i K.dft))[j]? := by
  induction hs generalizing xs i with
  | nil => cases xs <;> simp_all
  | cons a hs ih =>
    cases xs with
    | nil => simp at h
    | cons x xs =>
      cases i with
      | zero =>
        simp only [Knd.all, Nat.zero_mul, Nat.zero_add, List.getD_cons_zero]
        rw [List.getElem?_append_left (by rw [K.len]; exact hj)]
      | succ i =>
        simp only [Knd.all, List.getD_cons_succ]
        rw [List.getElem?_append_right (by rw [K.len, Nat.add_mul]; omega), K.len, Nat.add_mul, Nat.one_mul, show i * K.size + K.size + j - K.size = i * K.size + j by omega]
        exact ih xs (by simpa using h) i (by simpa using hi)
theorem Knd.all_set (K : Knd α) (hs : List Hdr) (xs : List α) (h : hs.length = xs.length) (i j : Nat) (hi : i < xs.length) (hj : j < K.size) (v : Value) (h' : Hdr) (x' : α)
    (he : K.cells h'.1 h'.2 x' = (K.cells (hs.getD i (none, 0)).1 (hs.getD i (none, 0)).2 (xs.getD i K.dft)).set j v) :
    (K.all hs xs).set (i * K.size + j) v = K.all (hs.set i h') (xs.set i x') := by
  induction hs generalizing xs i with
  | nil => cases xs <;> simp_all
  | cons a hs ih =>
    cases xs with
    | nil => simp at h
    | cons x xs =>
      cases i with
      | zero =>
        simp only [List.getD_cons_zero] at he
        simp only [Knd.all, Nat.zero_mul, Nat.zero_add, List.set_cons_zero]
        rw [List.set_append_left _ _ (by rw [K.len]; exact hj), he]
      | succ i =>
        simp only [List.getD_cons_succ] at he
        simp only [Knd.all, List.set_cons_succ]
        rw [List.set_append_right _ _ (by rw [K.len, Nat.add_mul]; omega), K.len, Nat.add_mul, Nat.one_mul, show i * K.size + K.size + j - K.size = i * K.size + j by omega]
        rw [ih xs (by simpa using h) i (by simpa using hi) he]
theorem Knd.all_snoc (K : Knd α) (hs : List Hdr) (xs : List α) (h : hs.length = xs.length) (a : Hdr) (x : α) : K.all (hs ++ [a]) (xs ++ [x]) = K.all hs xs ++ K.cells a.1 a.2 x := by
  induction hs generalizing xs with
  | nil => cases xs <;> simp_all [Knd.all]
  | cons a hs ih =>
    cases xs with
    | nil => simp at h
    | cons x xs => simp only [Knd.all, List.cons_append, List.append_assoc]; rw [ih xs (by simpa using h)]
theorem Knd.all_take (K : Knd α) (hs : List Hdr) (xs : List α) (h : hs.length = xs.length) (m : Nat) : K.all (hs.take m) (xs.take m) = (K.all hs xs).take (m * K.size) := by
  induction hs generalizing xs m with
  | nil => cases xs <;> simp_all [Knd.all]
  | cons a hs ih =>
    cases xs with
    | nil => simp at h
    | cons x xs =>
      cases m with
      | zero => simp [Knd.all]
      | succ m =>
        simp only [Knd.all, List.take_succ_cons]
        have hm : m * K.size + K.size - K.size = m * K.size := by omega
        rw [ih xs (by simpa using h), List.take_append, K.len, Nat.add_mul, Nat.one_mul, hm, List.take_of_length_le (l := K.cells _ _ _) (by rw [K.len]; omega)]
theorem Knd.all_one (K : Knd α) (hs : List Hdr) (xs : List α) : ∀ u ∈ K.all hs xs, u.oneCell' = true := by
  induction hs generalizing xs with
  | nil => cases xs <;> simp [Knd.all]
  | cons a hs ih =>
    cases xs with
    | nil => simp [Knd.all]
    | cons x xs =>
      intro u hu
      simp only [Knd.all, List.mem_append] at hu
      rcases hu with hu | hu
      · exact K.one _ _ _ u hu
      · exact ih xs u hu

/-- an owned slice of elements whose slices of integers are owned, too, all in blocks of their own from B on and below U -/
structure OwnK (K : Knd α) (w : World) (B U : Nat) (a : Option Addr) (n c : Nat) (hs : List Hdr) (xs : List α) : Prop where
  row : w.ownsRow B K.E K.size (.slice a n c) n (K.all hs xs)
  hl : hs.length = n
  xl : xs.length = n
  each : ∀ i, i < n → OwnI w B (hs.getD i (none, 0)).1 (K.ints (xs.getD i K.dft)).length (hs.getD i (none, 0)).2 (K.ints (xs.getD i K.dft))
  apart : ∀ i j, i < n → j < n → i ≠ j → Apart (hs.getD i (none, 0)).1 (hs.getD j (none, 0)).1
  lt : ∀ i, i < n → ∀ b o, (hs.getD i (none, 0)).1 = some ⟨b, o, none⟩ → b < U
  olt : ∀ b o, a = some ⟨b, o, none⟩ → b < U

theorem OwnI.block {w : World} {B : Nat} {a : Option Addr} {n c : Nat} {xs : List Int} (h : OwnI w B a n c xs) {b o : Nat} (e : a = some ⟨b, o, none⟩) : ∃ cur, w.heap[b]? = some (.cells cur 3 (0, 0)) := by
  rcases h.row.2 with ⟨he, _⟩ | ⟨g, cap, cur, he, _, hg, _⟩
  · simp [e] at he
  · simp only [Value.slice.injEq] at he
    rw [e] at he
    simp only [Option.some.injEq, Addr.mk.injEq, and_true] at he
    obtain ⟨⟨rfl, _⟩, _⟩ := he
    exact ⟨_, hg⟩

namespace OwnK
variable {K : Knd α} {w w' : World} {B U : Nat} {a : Option Addr} {n c : Nat} {hs : List Hdr} {xs : List α}

theorem form (h : OwnK K w B U a n c hs xs) : (a = none ∧ n = 0 ∧ c = 0) ∨ ∃ g cur, a = some ⟨g, 0, none⟩ ∧ B ≤ g ∧ g < w.heap.size ∧ w.heap[g]? = some (.cells cur K.E (0, 0)) ∧ n ≤ c ∧ c ≤ maxLen := by
  rcases h.row.2 with ⟨he, h0⟩ | ⟨g, cap, cur, he, hB, hg, hnc, hcm, _⟩
  · simp only [Value.slice.injEq] at he
    exact .inl ⟨he.1, h0, he.2.2⟩
  · simp only [Value.slice.injEq, true_and] at he
    obtain ⟨rfl, rfl⟩ := he
    exact .inr ⟨g, cur, rfl, hB, (Array.getElem?_eq_some_iff.1 hg).1, hg, hnc, hcm⟩
theorem base_lt (h : OwnK K w B U a n c hs xs) : ∀ b o, a = some ⟨b, o, none⟩ → B ≤ b ∧ b < w.heap.size := by
  intro b o e
  rcases h.form with ⟨rfl, _⟩ | ⟨g, cur, rfl, hB, hl, _⟩
  · cases e
  · simp only [Option.some.injEq, Addr.mk.injEq, and_true] at e
    obtain ⟨rfl, _⟩ := e
    exact ⟨hB, hl⟩
theorem far (h : OwnK K w B U a n c hs xs) (i : Nat) (hi : i < n) : Apart a (hs.getD i (none, 0)).1 := by
  intro b o b' o' e e' hb
  subst hb
  obtain ⟨cur', hg'⟩ := (h.each i hi).block e'
  rcases h.form with ⟨rfl, _⟩ | ⟨g, cur, rfl, _, _, hg, _⟩
  · cases e
  · simp only [Option.some.injEq, Addr.mk.injEq, and_true] at e
    obtain ⟨rfl, _⟩ := e
    rw [hg] at hg'
    simp only [Option.some.injEq, Obj.cells.injEq] at hg'
    exact K.ne hg'.2.1
theorem cell (h : OwnK K w B U a n c hs xs) (i j : Nat) (hi : i < n) (hj : j < K.size) : ∃ g, a = some ⟨g, 0, none⟩ ∧
    w.cell? ⟨g, i * K.size + j, none⟩ = (K.cells (hs.getD i (none, 0)).1 (hs.getD i (none, 0)).2 (xs.getD i K.dft))[j]? ∧ w.frozen? ⟨g, i * K.size + j, none⟩ = false := by
  rcases h.form with ⟨_, h0, _⟩ | ⟨g, cur, rfl, _, _, _, _⟩
  · omega
  · have hll : i * K.size + j < n * K.size := by
      have : (i + 1) * K.size ≤ n * K.size := Nat.mul_le_mul_right _ hi
      rw [Nat.add_mul] at this
      omega
    refine ⟨g, rfl, ?_, h.row.frozenAt _⟩
    rw [h.row.cellAt _ hll, K.all_get hs xs (h.hl.trans h.xl.symm) i j (by rw [h.xl]; exact hi) hj]
theorem kept (h : OwnK K w B U a n c hs xs) {row : Option Nat} (hg : w.grownBy w' row) (ho : ∀ b o, a = some ⟨b, o, none⟩ → some b ≠ row) (hi : ∀ i, i < n → ∀ b o, (hs.getD i (none, 0)).1 = some ⟨b, o, none⟩ → some b ≠ row) : OwnK K w' B U a n c hs xs := by
  refine ⟨h.row.kept hg ?_, h.hl, h.xl, fun i hin => (h.each i hin).grown hg fun g o e => hi i hin g o e, h.apart, h.lt, h.olt⟩
  rcases h.form with ⟨rfl, _⟩ | ⟨g, cur, rfl, _⟩
  · exact .inl rfl
  · exact .inr (ho g 0 rfl)
theorem below (h : OwnK K w B U a n c hs xs) (hb : Ext w w') : OwnK K w' B U a n c hs xs :=
  h.kept (row := none) ⟨hb.os, hb.tape, hb.output, hb.size, fun k hk _ => hb.block k hk⟩ (by simp) (by simp)
theorem weaken (h : OwnK K w B U a n c hs xs) {B' U' : Nat} (hB : B' ≤ B) (hU : U ≤ U') : OwnK K w B' U' a n c hs xs := by
  refine ⟨⟨h.row.1, ?_⟩, h.hl, h.xl, fun i hi => (h.each i hi).base hB, h.apart, fun i hi b o e => Nat.lt_of_lt_of_le (h.lt i hi b o e) hU, fun b o e => Nat.lt_of_lt_of_le (h.olt b o e) hU⟩
  rcases h.row.2 with h2 | ⟨g, cap, cur, he, hB', r⟩
  · exact .inl h2
  · exact .inr ⟨g, cap, cur, he, Nat.le_trans hB hB', r⟩
/-- another slice's change -/
theorem others (h : OwnK K w B U a n c hs xs) {a' : Option Addr} {n' : Nat} {ys : List Int} (hu : UpdI w w' a' n' ys) (ho : Apart a' a) (hi : ∀ i, i < n → Apart a' (hs.getD i (none, 0)).1) : OwnK K w' B U a n c hs xs := by
  refine h.kept hu.grownBy (fun b o e => ?_) (fun i hin b o e => ?_)
  · cases hb : addrBlock a' with
    | none => simp
    | some b' =>
      obtain ⟨o', e'⟩ := addrBlock_some hb
      have := ho b' o' b o e' e
      simp only [ne_eq, Option.some.injEq]
      omega
  · cases hb : addrBlock a' with
    | none => simp
    | some b' =>
      obtain ⟨o', e'⟩ := addrBlock_some hb
      have := hi i hin b' o' b o e' e
      simp only [ne_eq, Option.some.injEq]
      omega
theorem getD_set {β : Type} (l : List β) (i j : Nat) (x d : β) (hi : i < l.length) : (l.set i x).getD j d = if i = j then x else l.getD j d := by
  simp only [List.getD_eq_getElem?_getD, List.getElem?_set]
  by_cases h : i = j
  · subst h; simp [hi]
  · simp [h]
/-- the outer slice's cells are changed, so that its elements come from elsewhere in it -/
theorem shuffled (h : OwnK K w B U a n c hs xs) {hs' : List Hdr} {xs' : List α} {g : Nat} (e : a = some ⟨g, 0, none⟩) (hr : w'.ownsRow B K.E K.size (.slice a n c) n (K.all hs' xs')) (hg : w.grownBy w' (some g))
    (hl' : hs'.length = n) (xl' : xs'.length = n) (σ : Nat → Nat) (hσ : ∀ i, i < n → σ i < n) (hinj : ∀ i j, i < n → j < n → σ i = σ j → i = j)
    (hh : ∀ i, i < n → hs'.getD i (none, 0) = hs.getD (σ i) (none, 0)) (hx : ∀ i, i < n → K.ints (xs'.getD i K.dft) = K.ints (xs.getD (σ i) K.dft)) : OwnK K w' B U a n c hs' xs' := by
  refine ⟨hr, hl', xl', fun i hi => ?_, fun i j hi hj hne => ?_, fun i hi b o e => ?_, h.olt⟩
  · rw [hh i hi, hx i hi]
    exact (h.each _ (hσ i hi)).grown hg fun b o e' => by
      have := h.far _ (hσ i hi) g 0 b o e e'
      simp only [ne_eq, Option.some.injEq]
      omega
  · rw [hh i hi, hh j hj]
    exact h.apart _ _ (hσ i hi) (hσ j hj) fun e => hne (hinj i j hi hj e)
  · rw [hh i hi] at e
    exact h.lt _ (hσ i hi) b o e
/-- one plain cell of an element is changed -/
theorem stored (h : OwnK K w B U a n c hs xs) (i j : Nat) (hi : i < n) (hj : j < K.size) (v : Value) (x' : α) (hx : K.ints x' = K.ints (xs.getD i K.dft))
    (he : K.cells (hs.getD i (none, 0)).1 (hs.getD i (none, 0)).2 x' = (K.cells (hs.getD i (none, 0)).1 (hs.getD i (none, 0)).2 (xs.getD i K.dft)).set j v) {g : Nat} (e : a = some ⟨g, 0, none⟩) :
    OwnK K (w.setCell ⟨g, i * K.size + j, none⟩ v) B U a n c hs (xs.set i x') := by
  have hlx := h.hl.trans h.xl.symm
  have hxl := h.xl
  have hhl := h.hl
  subst e
  obtain ⟨hr, hg⟩ := h.row.stored (i * K.size + j) v
  rw [K.all_set hs xs hlx i j (by omega) hj v (hs.getD i (none, 0)) x' he] at hr
  have hs' : hs.set i (hs.getD i (none, 0)) = hs := by
    apply List.ext_getElem?
    intro q
    rw [List.getElem?_set]
    split
    · rename_i e; subst e
      simp [List.getD_eq_getElem?_getD, show i < hs.length by omega]
    · rfl
  rw [hs'] at hr
  refine h.shuffled rfl hr hg h.hl (by rw [List.length_set, h.xl]) id (fun _ h => h) (fun _ _ _ _ h => h) (fun _ _ => rfl) fun q hq => ?_
  rw [getD_set _ _ _ _ _ (by omega)]
  split
  · rename_i e; subst e; exact hx
  · rfl
/-- the first elements -/
theorem take (h : OwnK K w B U a n c hs xs) (m : Nat) (hm : m ≤ n) : OwnK K w B U a m c (hs.take m) (xs.take m) := by
  have hlx := h.hl.trans h.xl.symm
  have gd : ∀ {β : Type} (l : List β) (i : Nat) (d : β), i < m → (l.take m).getD i d = l.getD i d := fun l i d hi => by simp [List.getD_eq_getElem?_getD, hi]
  refine ⟨⟨?_, ?_⟩, by simp [h.hl, hm], by simp [h.xl, hm], fun i hi => ?_, fun i j hi hj => ?_, fun i hi => ?_, h.olt⟩
  · rw [K.all_length _ _ (by simp [hlx])]; simp [h.xl, hm]
  · rcases h.row.2 with ⟨he, h0⟩ | ⟨g, cap, cur, he, hB, hg, hnc, hcm, hcs, ht⟩
    · simp only [Value.slice.injEq] at he
      obtain ⟨rfl, _, rfl⟩ := he
      have : m = 0 := by omega
      subst this
      exact .inl ⟨rfl, rfl⟩
    · simp only [Value.slice.injEq, true_and] at he
      obtain ⟨rfl, rfl⟩ := he
      refine .inr ⟨g, c, cur, rfl, hB, hg, by omega, hcm, hcs, ?_⟩
      rw [K.all_take hs xs hlx, ← ht, List.take_take, Nat.min_eq_left (Nat.mul_le_mul_right _ hm)]
  · rw [gd _ _ _ hi, gd _ _ _ hi]; exact h.each i (by omega)
  · rw [gd _ _ _ hi, gd _ _ _ hj]; exact h.apart i j (by omega) (by omega)
  · rw [gd _ _ _ hi]; exact h.lt i (by omega)
end OwnK

/-- rows of integers -/
def rowK : Knd (List Int) where
  E := 22
  size := 1
  dft := []
  ints := id
  put := fun _ ys => ys
  cells := fun a c x => [.slice a x.length c]
  len := fun _ _ _ => rfl
  pos := by decide
  ne := by decide
  put_ints := fun _ _ => rfl
  put_cells := fun a c x ys h => by simp only [id] at h; rw [h]
  one := fun a c x u hu => by simp only [List.mem_singleton] at hu; subst hu; rfl
end Go.Proofs.Ytenlhfimdpcaoaa

namespace Go.Proofs.Ytenlhfimdpcaoaa
open Go.RowKit

/-! ### numbers as text -/
end Go.Proofs.Ytenlhfimdpcaoaa

namespace Go.Proofs.Ytenlhfimdpcaoaa
open Go.RowKit

end Go.Proofs.Ytenlhfimdpcaoaa

namespace Go.Proofs.Ytenlhfimdpcaoaa
open Go.RowKit

section
variable {P : Program} {ops : Array Oper} {Q : Exit → Act → World → Prop} {C C' : World → Prop} {n : Nat}

/-- whatever order is picked from here on; behind each operation ahead of place n the world is of the class -/
def anyC (P : Program) (ops : Array Oper) (Q : Exit → Act → World → Prop) (n : Nat) (C : World → Prop) : Nat → Array Bool → Act → World → Prop
  | 0, listed, a, w => Region.ready .any ops listed = [] ∧ Q .normal a w
  | f + 1, listed, a, w => (Region.ready .any ops listed = [] → Q .normal a w) ∧
      ∀ i ∈ Region.ready .any ops listed, wpOp P ops Q i (fun a' w' => (i < n → C w') ∧ anyC P ops Q n C f (listed.setIfInBounds i true) a' w') a w

theorem anyC.out : ∀ (f : Nat) (listed : Array Bool) (a : Act) (w : World), anyC P ops Q n C f listed a w → wpAny P .any ops Q f listed a w
  | 0, _, _, _, h => h
  | f + 1, _, _, _, h => ⟨h.1, fun i hi => wpOp_mono (fun a' w' h' => anyC.out f _ a' w' h'.2) (h.2 i hi)⟩

theorem anyC.imp (hC : ∀ w, C' w → C w) : ∀ (f : Nat) (listed : Array Bool) (a : Act) (w : World), anyC P ops Q n C' f listed a w → anyC P ops Q n C f listed a w
  | 0, _, _, _, h => h
  | f + 1, _, _, _, h => ⟨h.1, fun i hi => wpOp_mono (fun a' w' h' => ⟨fun hn => hC _ (h'.1 hn), anyC.imp hC f _ a' w' h'.2⟩) (h.2 i hi)⟩

/-- no operation of the tail may come up while one of the head has not -/
def TailLast (ops : Array Oper) (n : Nat) : Prop := ∀ (listed : Array Bool), HeadInv .any ops n listed → ∀ i, i < n → listed.getD i true = false → ∀ t, n ≤ t → t ∉ Region.ready .any ops listed

def tailB (ops : Array Oper) (n : Nat) : Bool := decide (n = ops.size) || (decide (n < ops.size) && Region.sinkB .any ops n && Region.chainB .any ops n)
theorem tailB.last (h : tailB ops n = true) : TailLast ops n := by
  intro listed inv i hi hun t ht hr
  simp only [tailB, Bool.or_eq_true, decide_eq_true_eq, Bool.and_eq_true] at h
  rcases h with h | ⟨⟨h1, h2⟩, h3⟩
  · obtain ⟨_, ot, hot, _⟩ := mem_ready.1 hr
    have := (Array.getElem?_eq_some_iff.1 hot).1
    omega
  · exact tail_waits h2 h3 h1 inv _ i rfl hi hun t ht hr

theorem anyC.still_any {i : Nat} {oi : Oper} {v : Value} (hi : ops[i]? = some oi) (hsel : ∀ (j : Nat) (o : Oper) cs b, ops[j]? = some o → o.op ≠ .select cs b)
    (hQ : ∀ c a w, Q (.panic c) (a.put oi.dst v) w → Q (.panic c) a w) (hT : TailLast ops n) (hin : i < n) :
    ∀ (f : Nat) (listed : Array Bool) (a : Act) (w : World), HeadInv .any ops n listed →
      (∀ j oj, ops[j]? = some oj → j ≠ i → listed.getD j true = false → (∀ e ∈ oj.after, Region.binds .any e = true → e.on ≠ i) → oi.apart ops oj = true) →
      i ∈ Region.ready .any ops listed → YieldsIf P ops C oi v a → C w →
      anyC P ops Q n C f (listed.setIfInBounds i true) (a.put oi.dst v) w → anyC P ops Q n C (f + 1) listed a w := by
  intro f
  induction f with
  | zero =>
    intro listed a w inv _ hr hy hS H
    refine ⟨fun h => (by rw [h] at hr; cases hr), fun j hj => ?_⟩
    by_cases hji : j = i
    · subst hji; exact hy.wpOp hi hS ⟨fun _ => hS, H⟩
    · have := ready_mono hj hji
      rw [H.1] at this
      cases this
  | succ f ih =>
    intro listed a w inv hfree hr hy hS H
    have hun := (mem_ready.1 hr).1
    refine ⟨fun h => (by rw [h] at hr; cases hr), fun j hj => ?_⟩
    by_cases hji : j = i
    · subst hji; exact hy.wpOp hi hS ⟨fun _ => hS, H⟩
    · have hjn : j < n := by
        rcases Nat.lt_or_ge j n with h | h
        · exact h
        · exact absurd hj (hT listed inv i hin hun j h)
      have h1 := H.2 j (ready_mono hj hji)
      obtain ⟨hjun, oj, hoj, hall⟩ := mem_ready.1 hj
      have hnot : ∀ e ∈ oj.after, Region.binds .any e = true → e.on ≠ i := fun e he hb heq => by
        have h1 := hall e he hb
        rw [heq, getD_both hun] at h1
        cases h1
      have h2 := wpOp_putIf hoj (hfree j oj hoj hji hjun hnot) (fun cs b => hsel i oi cs b hi) (fun cs b => hsel j oj cs b hoj) hQ hy h1
      have hfree' : ∀ k ok, ops[k]? = some ok → k ≠ i → (listed.setIfInBounds j true).getD k true = false →
          (∀ e ∈ ok.after, Region.binds .any e = true → e.on ≠ i) → oi.apart ops ok = true := fun k ok hk hki hun hno => by
        refine hfree k ok hk hki ?_ hno
        by_cases hjk : j = k
        · subst hjk; exact hjun
        · rw [getD_set_ne true hjk] at hun; exact hun
      refine wpOp_mono (fun a' w' h3 => ⟨fun _ => h3.2.1 hjn, ih (listed.setIfInBounds j true) a' w' (inv.set hj hjn) hfree' (ready_mono hr (Ne.symm hji)) h3.1 (h3.2.1 hjn) ?_⟩) h2
      rw [Array.setIfInBounds_comm _ _ hji]
      exact h3.2.2

/-- the state of a walk: what has come up is closed under the edges, the tail has not come up -/
def WalkC (P : Program) (ops : Array Oper) (Q : Exit → Act → World → Prop) (n : Nat) (C : World → Prop) (f : Nat) (listed : Array Bool) (a : Act) (w : World) : Prop :=
  HeadInv .any ops n listed → anyC P ops Q n C f listed a w

theorem walkC_start {id : Nat} {a : Act} {w : World} (C : World → Prop) (n : Nat) (hm : P.follows .mixedOrders = true)
    (h : WalkC P ops Q n C ops.size (Array.replicate ops.size false) a w.drew) : (Code.region id ops true).wp P Q a w := by
  refine wp_region_any hm (anyC.out (C := C) (n := n) _ _ _ _ (h ⟨by simp, fun j oj _ hl => (by rw [getD_replicate_false] at hl; cases hl), fun t _ ht => getD_in (by simpa using ht) (getD_replicate_false _ _)⟩))

/-- an operation that only reads -/
theorem walkC_still {i : Nat} {oi : Oper} {v : Value} {f : Nat} {listed : Array Bool} {a : Act} {w : World} (hi : ops[i]? = some oi)
    (hb : (Region.noSelect ops && Region.free .any ops listed i && (Region.ready .any ops listed).contains i && tailB ops n && decide (i < n)) = true)
    (hQ : ∀ c a w, Q (.panic c) (a.put oi.dst v) w → Q (.panic c) a w) (hS : C w) (hy : YieldsIf P ops C oi v a)
    (h : WalkC P ops Q n C f (listed.setIfInBounds i true) (a.put oi.dst v) w) : WalkC P ops Q n C (f + 1) listed a w := by
  intro inv
  simp only [Bool.and_eq_true, decide_eq_true_eq] at hb
  obtain ⟨⟨⟨⟨h1, h2⟩, h3⟩, h4⟩, h5⟩ := hb
  exact anyC.still_any hi (Region.noSelect_spec h1) hQ (tailB.last h4) h5 f listed a w inv (Region.free_spec hi h2) (by simpa using h3) hy hS (h (inv.set (by simpa using h3) h5))

/-- the one operation that may come up; the class may become another, narrower one -/
theorem walkC_only {i : Nat} {oi : Oper} (C' : World → Prop) {f : Nat} {listed : Array Bool} {a : Act} {w : World} (hi : ops[i]? = some oi)
    (hb : (decide (Region.ready .any ops listed = [i]) && decide (i < n)) = true) (hw : Region.wanted oi (yielded ops a.tmps) = true) (hC : ∀ w, C' w → C w)
    (h : ∀ K : Act → World → Prop, (∀ a' w', C' w' → WalkC P ops Q n C' f (listed.setIfInBounds i true) a' w' → K a' w') → oi.wp P a w K Q) : WalkC P ops Q n C (f + 1) listed a w := by
  intro inv
  simp only [Bool.and_eq_true, decide_eq_true_eq] at hb
  have hr : i ∈ Region.ready .any ops listed := by rw [hb.1]; simp
  refine ⟨fun h0 => (by rw [hb.1] at h0; cases h0), fun j hj => ?_⟩
  rw [hb.1] at hj
  obtain rfl : j = i := by simpa using hj
  unfold wpOp
  simp only [hi, hw, if_true]
  refine .inl (h _ fun a' w' hc hk => ⟨fun _ => hC _ hc, anyC.imp hC _ _ _ _ (hk (inv.set hr hb.2))⟩)

theorem anyC.of_seq {Q : Exit → Act → World → Prop} : ∀ (l : List Oper) (k : Nat) (listed : Array Bool) (a : Act) (w : World), n ≤ k → (∀ j, l[j]? = ops[k + j]?) →
    Region.seqB .any ops l.length k listed = true → wpList P ops Q l a w → anyC P ops Q n C l.length listed a w
  | [], _, _, _, _, _, _, hB, h => ⟨by simpa [Region.seqB] using hB, h⟩
  | o :: l, k, listed, a, w, hn, hl, hB, h => by
    have h0 : ops[k]? = some o := by simpa using (hl 0).symm
    simp only [List.length_cons, Region.seqB, Bool.and_eq_true, decide_eq_true_eq] at hB
    refine ⟨fun h1 => (by rw [hB.1] at h1; cases h1), fun i hi => ?_⟩
    rw [hB.1] at hi
    have hik : i = k := by simpa using hi
    subst hik
    have hw : wpOp P ops Q i (wpList P ops Q l) a w := by unfold wpOp; simp only [h0]; exact h
    exact wpOp_mono (fun a' w' h' => ⟨fun hlt => by omega, anyC.of_seq l (i + 1) _ a' w' (by omega) (fun j => by have := hl (j + 1); simpa [Nat.add_assoc, Nat.add_comm 1 j] using this) hB.2 h'⟩) hw

/-- the tail, in the text's order -/
theorem walkC_tail {l : List Oper} {f : Nat} {listed : Array Bool} {a : Act} {w : World} (hf : f = (l.drop n).length) (hB : Region.seqB .any l.toArray (l.drop n).length n listed = true)
    (h : wpList P l.toArray Q (l.drop n) a w) : WalkC P l.toArray Q n C f listed a w := by
  intro _
  rw [hf]
  exact anyC.of_seq (l.drop n) n listed a w (Nat.le_refl _) (fun j => by simp [List.getElem?_drop]) hB h

/-- The same walk with a list of what is still to come, for reading the next operation off; the list itself says nothing. -/
def WalkR (P : Program) (ops : Array Oper) (Q : Exit → Act → World → Prop) (n : Nat) (C : World → Prop) (_rem : List (Nat × Oper)) (f : Nat) (listed : Array Bool) (a : Act) (w : World) : Prop :=
  WalkC P ops Q n C f listed a w

def numbered : Nat → List Oper → List (Nat × Oper)
  | _, [] => []
  | k, o :: l => (k, o) :: numbered (k + 1) l

theorem walkR_start {id : Nat} {l : List Oper} {a : Act} {w : World} (C : World → Prop) (n : Nat) (hm : P.follows .mixedOrders = true)
    (h : WalkR P l.toArray Q n C (numbered 0 (l.take n)) l.length (Array.replicate l.length false) a w.drew) : (Code.region id l.toArray true).wp P Q a w :=
  walkC_start C n hm (by simpa [WalkR] using h)

theorem walkR_later {x : Nat × Oper} {rem : List (Nat × Oper)} {f : Nat} {listed : Array Bool} {a : Act} {w : World} (h : WalkR P ops Q n C (rem ++ [x]) f listed a w) : WalkR P ops Q n C (x :: rem) f listed a w := h

theorem walkR_still {i : Nat} {oi : Oper} {v : Value} {rem : List (Nat × Oper)} {f : Nat} {listed : Array Bool} {a : Act} {w : World} (hi : ops[i]? = some oi)
    (hb : (Region.noSelect ops && Region.free .any ops listed i && (Region.ready .any ops listed).contains i && tailB ops n && decide (i < n)) = true)
    (hw : Region.wanted oi (yielded ops a.tmps) = true)
    (hQ : ∀ c a w, Q (.panic c) (a.put oi.dst v) w → Q (.panic c) a w) (hS : C w) (hy : ∀ w', C w' → (execOp a.eval oi).run P w' = .ok (.value v) w')
    (h : WalkR P ops Q n C rem f (listed.setIfInBounds i true) (a.put oi.dst v) w) : WalkR P ops Q n C ((i, oi) :: rem) (f + 1) listed a w :=
  walkC_still hi hb hQ hS (.inl ⟨hw, hy⟩) h

theorem walkR_only {i : Nat} {oi : Oper} (C' : World → Prop) {rem : List (Nat × Oper)} {f : Nat} {listed : Array Bool} {a : Act} {w : World} (hi : ops[i]? = some oi)
    (hb : (decide (Region.ready .any ops listed = [i]) && decide (i < n)) = true) (hw : Region.wanted oi (yielded ops a.tmps) = true) (hC : ∀ w, C' w → C w)
    (h : ∀ K : Act → World → Prop, (∀ a' w', C' w' → WalkR P ops Q n C' rem f (listed.setIfInBounds i true) a' w' → K a' w') → oi.wp P a w K Q) : WalkR P ops Q n C ((i, oi) :: rem) (f + 1) listed a w :=
  walkC_only C' hi hb hw hC h

theorem walkR_tail {l : List Oper} {f : Nat} {listed : Array Bool} {a : Act} {w : World} (hf : f = (l.drop n).length) (hB : Region.seqB .any l.toArray (l.drop n).length n listed = true)
    (h : wpList P l.toArray Q (l.drop n) a w) : WalkR P l.toArray Q n C [] f listed a w := walkC_tail hf hB h

end
end Go.Proofs.Ytenlhfimdpcaoaa

namespace Go.Proofs.Ytenlhfimdpcaoaa
open Go.RowKit

def cmpI (a b : Int) : Int := if a < b then -1 else if b < a then 1 else 0
def lexC : List Int → List Int → Int
  | [], [] => 0
  | [], _ :: _ => -1
  | _ :: _, [] => 1
  | x :: xs, y :: ys => if cmpI x y != 0 then cmpI x y else lexC xs ys
def cmpW (xs ys : List Int) : Int := if cmpI xs.length ys.length != 0 then cmpI xs.length ys.length else lexC xs ys
theorem cmpI_self (a : Int) : cmpI a a = 0 := by simp [cmpI]
theorem cmpI_zero {a b : Int} (h : cmpI a b = 0) : a = b := by unfold cmpI at h; split at h; omega; split at h <;> omega
theorem lexC_drop (xs ys : List Int) (k : Nat) (h1 : k ≤ xs.length) (h2 : k ≤ ys.length) (h : ∀ j, j < k → xs.getD j 0 = ys.getD j 0) : lexC xs ys = lexC (xs.drop k) (ys.drop k) := by
  induction k generalizing xs ys with
  | zero => rfl
  | succ k ih =>
    match xs, ys with
    | [], _ => simp at h1
    | _ :: _, [] => simp at h2
    | x :: xs, y :: ys =>
      have h0 := h 0 (by omega)
      simp only [List.getD_cons_zero] at h0
      subst h0
      simp only [lexC, cmpI_self, List.drop_succ_cons, bne_self_eq_false, Bool.false_eq_true, if_false]
      exact ih xs ys (by simpa using h1) (by simpa using h2) (fun j hj => by have := h (j + 1) (by omega); simpa using this)
theorem lexC_at (xs ys : List Int) (k : Nat) (h1 : k < xs.length) (h2 : k < ys.length) (h : ∀ j, j < k → xs.getD j 0 = ys.getD j 0) (hne : cmpI (xs.getD k 0) (ys.getD k 0) ≠ 0) : lexC xs ys = cmpI (xs.getD k 0) (ys.getD k 0) := by
  rw [lexC_drop xs ys k (by omega) (by omega) h, List.drop_eq_getElem_cons h1, List.drop_eq_getElem_cons h2]
  simp only [List.getD_eq_getElem?_getD, List.getElem?_eq_getElem h1, List.getElem?_eq_getElem h2, Option.getD_some] at hne ⊢
  simp [lexC, hne]
theorem lexC_end_x (xs ys : List Int) (h1 : xs.length < ys.length) (h : ∀ j, j < xs.length → xs.getD j 0 = ys.getD j 0) : lexC xs ys = -1 := by
  rw [lexC_drop xs ys xs.length (by omega) (by omega) h, List.drop_length, List.drop_eq_getElem_cons h1]
  rfl
theorem lexC_end_y (xs ys : List Int) (h1 : ys.length < xs.length) (h : ∀ j, j < ys.length → xs.getD j 0 = ys.getD j 0) : lexC xs ys = 1 := by
  rw [lexC_drop xs ys ys.length (by omega) (by omega) h, List.drop_length, List.drop_eq_getElem_cons h1]
  rfl
theorem lexC_end (xs ys : List Int) (h1 : ys.length = xs.length) (h : ∀ j, j < ys.length → xs.getD j 0 = ys.getD j 0) : lexC xs ys = 0 := by
  rw [lexC_drop xs ys ys.length (by omega) (by omega) h, List.drop_length, h1, List.drop_length]
  rfl

theorem isNaN_any (x : Int) (w : World) : Calls Try.prog 174 #[.int .i64 x] w fun e w' => e = .returned (.bool false) ∧ w = w' := by
  have h : (x != x) = false := by simp
  go_enter Try.func174, Try.ntmps174
  go_wp2
  go_ret
  exact ⟨rfl, rfl⟩
set_option maxHeartbeats 1000000 in
theorem compareInt_any (a b : Int) (w : World) : Calls Try.prog 165 #[.int .i64 a, .int .i64 b] w fun e w' => e = .returned (.int .i64 (cmpI a b)) ∧ w = w' := by
  rcases Int.lt_trichotomy a b with h | h | h
  · have HC : Hid (cmpI a b = -1) := by show _ = _; unfold cmpI; rw [if_pos h]
    go_enter Try.func165, Try.ntmps165
    go_wp2_with (go_at_call 174; refine (isNaN_any _ _).mono ?_; rintro e w' ⟨rfl, rfl⟩)
    go_ret
    exact ⟨ret_int HC.out.symm, rfl⟩
  · have HC : Hid (cmpI a b = 0) := by show _ = _; rw [h, cmpI_self]
    have h1 : ¬ a < b := by omega
    have h2 : ¬ b < a := by omega
    clear h
    go_enter Try.func165, Try.ntmps165
    go_wp2_with (go_at_call 174; refine (isNaN_any _ _).mono ?_; rintro e w' ⟨rfl, rfl⟩)
    go_ret
    exact ⟨ret_int HC.out.symm, rfl⟩
  · have HC : Hid (cmpI a b = 1) := by show _ = _; unfold cmpI; rw [if_neg (by omega), if_pos h]
    have h1 : ¬ a < b := by omega
    go_enter Try.func165, Try.ntmps165
    go_wp2_with (go_at_call 174; refine (isNaN_any _ _).mono ?_; rintro e w' ⟨rfl, rfl⟩)
    go_ret
    exact ⟨ret_int HC.out.symm, rfl⟩
set_option maxHeartbeats 1000000 in
theorem compareInts_any (a a' : Option Addr) (n n' c c' : Nat) (xs ys : List Int) (w : World) (h : IntsAt w a n xs) (h' : IntsAt w a' n' ys) (hn : n ≤ 9223372036854775807) (hn' : n' ≤ 9223372036854775807) :
    Calls Try.prog 153 #[.slice a n c, .slice a' n' c'] w fun e w' => e = .returned (.int .i64 (lexC xs ys)) ∧ w = w' := by
  have G := hidP h
  have G' := hidP h'
  have L := hidP h.len
  have L' := hidP h'.len
  clear h h'
  go_enter Try.func153, Try.ntmps153
  go_wp2
  go_loop [11] (fun i => ∃ k : Nat, k ≤ n ∧ k ≤ n' ∧ Hid (∀ j, j < k → xs.getD j 0 = ys.getD j 0) ∧ i = .int .i64 k) (fun i => n - (intOf i).toNat)
  case atStart => exact ⟨0, Nat.zero_le _, Nat.zero_le _, fun j h => by omega, rfl⟩
  case round =>
    obtain ⟨k, hk, hk', HJ, rfl⟩ := hrel
    by_cases hlt : k < n
    · obtain ⟨b, o, rfl, q⟩ := G.out.get k hlt
      by_cases hlt' : k < n'
      · obtain ⟨b', o', rfl, q'⟩ := G'.out.get k hlt'
        by_cases hok : cmpI (xs.getD k 0) (ys.getD k 0) = 0
        · have HO := hidP (cmpI_zero hok)
          have HK := hidP hok
          clear hok
          go_wp2_with (go_at_call 165; refine (compareInt_any _ _ _).mono ?_; rintro e w' ⟨rfl, rfl⟩; have hd : (cmpI (xs[k]?.getD 0) (ys[k]?.getD 0) != 0) = false := by rw [← List.getD_eq_getElem?_getD, ← List.getD_eq_getElem?_getD, HK.out]; rfl)
          go_round
          case rel =>
            refine ⟨k + 1, by omega, by omega, fun j hj => ?_, by go_num⟩
            rcases Nat.lt_succ_iff_lt_or_eq.1 hj with h3 | rfl
            · exact HJ.out j h3
            · exact HO.out
          case measure => simp [intOf]; omega
        · have HB := hidP (lexC_at xs ys k (by have := L.out; omega) (by have := L'.out; omega) HJ.out hok)
          have HK := hidP hok
          clear hok
          go_wp2_with (go_at_call 165; refine (compareInt_any _ _ _).mono ?_; rintro e w' ⟨rfl, rfl⟩; have hd : (cmpI (xs[k]?.getD 0) (ys[k]?.getD 0) != 0) = true := by rw [← List.getD_eq_getElem?_getD, ← List.getD_eq_getElem?_getD]; exact bne_iff_ne.2 HK.out)
          go_ret
          exact ⟨ret_int (by rw [HB.out, List.getD_eq_getElem?_getD, List.getD_eq_getElem?_getD]), rfl⟩
      · have HB := hidP (lexC_end_y xs ys (by have := L.out; have := L'.out; omega) fun j hj => HJ.out j (by have := L'.out; omega))
        go_wp2
        go_ret
        exact ⟨ret_int HB.out.symm, rfl⟩
    · obtain rfl : k = n := by omega
      by_cases hl : k < n'
      · have HB := hidP (lexC_end_x xs ys (by have := L.out; have := L'.out; omega) fun j hj => HJ.out j (by have := L.out; omega))
        go_wp2
        go_ret
        exact ⟨ret_int HB.out.symm, rfl⟩
      · have HB := hidP (lexC_end xs ys (by have := L.out; have := L'.out; omega) fun j hj => HJ.out j (by have := L'.out; omega))
        go_wp2
        go_ret
        exact ⟨ret_int HB.out.symm, rfl⟩
set_option maxHeartbeats 1000000 in
theorem l6Above_any (a a' : Option Addr) (n n' c c' : Nat) (xs ys : List Int) (w : World) (h : IntsAt w a n xs) (h' : IntsAt w a' n' ys) (hn : n ≤ 9223372036854775807) (hn' : n' ≤ 9223372036854775807) :
    Calls Try.prog 166 #[.slice a n c, .slice a' n' c'] w fun e w' => e = .returned (.bool (decide (0 < lexC xs ys))) ∧ Ext w w' := by
  have G := hidP h
  have G' := hidP h'
  have L := hidP h.len
  have L' := hidP h'.len
  clear h h'
  go_enter Try.func166, Try.ntmps166
  go_wp2
  go_loopw [5] (fun i wr => ∃ k m : Nat, k ≤ n ∧ k ≤ n' ∧ Hid (∀ j, j < k → xs.getD j 0 = ys.getD j 0) ∧ i = .int .i64 k ∧ wr = w.drewN m) (fun i _ => n - (intOf i).toNat)
  case atStart => exact ⟨0, 0, Nat.zero_le _, Nat.zero_le _, fun j h => by omega, rfl, rfl⟩
  case round =>
    obtain ⟨k, m, hk, hk', HJ, rfl, rfl⟩ := hrel
    by_cases hlt : k < n
    · obtain ⟨b, o, rfl, q⟩ := G.out.get k hlt
      by_cases hlt' : k < n'
      · obtain ⟨b', o', rfl, q'⟩ := G'.out.get k hlt'
        by_cases hd : xs.getD k 0 = ys.getD k 0
        · have hb : (xs[k]?.getD 0 != ys[k]?.getD 0) = false := by simpa [List.getD_eq_getElem?_getD] using hd
          have HD := hidP hd
          clear hd
          go_wp2
          go_quiet (fail)
          go_wp2
          go_roundw
          case rel =>
            refine ⟨k + 1, m + nq, by omega, by omega, fun j hj => ?_, by go_num, by simp⟩
            rcases Nat.lt_succ_iff_lt_or_eq.1 hj with h3 | rfl
            · exact HJ.out j h3
            · exact HD.out
          case measure => simp [intOf]; omega
        · have hb : (xs[k]?.getD 0 != ys[k]?.getD 0) = true := by simpa [List.getD_eq_getElem?_getD] using hd
          have HB := hidP (lexC_at xs ys k (by have := L.out; omega) (by have := L'.out; omega) HJ.out (fun e => hd (cmpI_zero e)))
          have HD : Hid (decide (0 < lexC xs ys) = decide (ys[k]?.getD 0 < xs[k]?.getD 0)) := by
            show _ = _
            rw [HB.out, List.getD_eq_getElem?_getD, List.getD_eq_getElem?_getD]
            unfold cmpI
            split
            · simp; omega
            · split
              · simp; omega
              · simp; omega
          clear hd
          go_wp2
          go_quiet (fail)
          go_wp2
          go_quiet (fail)
          go_wp2
          go_ret
          refine ⟨ret_bool HD.out.symm, ?_⟩
          simp only [World.drewN_drewN]
          exact Ext.drewN _ _
      · have HB := hidP (lexC_end_y xs ys (by have := L.out; have := L'.out; omega) fun j hj => HJ.out j (by have := L'.out; omega))
        have HD : Hid (decide (0 < lexC xs ys) = true) := by show _ = _; rw [HB.out]; rfl
        have hgt : n' < n := by omega
        go_wp2
        go_ret
        exact ⟨ret_bool HD.out.symm, Ext.drewN _ _⟩
    · obtain rfl : k = n := by omega
      by_cases hl : k < n'
      · have HB := hidP (lexC_end_x xs ys (by have := L.out; have := L'.out; omega) fun j hj => HJ.out j (by have := L.out; omega))
        have HD : Hid (decide (0 < lexC xs ys) = false) := by show _ = _; rw [HB.out]; rfl
        have hgt : ¬ n' < k := by omega
        go_wp2
        go_ret
        exact ⟨ret_bool HD.out.symm, Ext.drewN _ _⟩
      · have HB := hidP (lexC_end xs ys (by have := L.out; have := L'.out; omega) fun j hj => HJ.out j (by have := L'.out; omega))
        have HD : Hid (decide (0 < lexC xs ys) = false) := by show _ = _; rw [HB.out]; rfl
        have hgt : ¬ n' < k := by omega
        go_wp2
        go_ret
        exact ⟨ret_bool HD.out.symm, Ext.drewN _ _⟩
theorem lexC_swap (xs ys : List Int) : lexC ys xs = - lexC xs ys := by
  induction xs generalizing ys with
  | nil => cases ys <;> simp [lexC]
  | cons x xs ih =>
    cases ys with
    | nil => simp [lexC]
    | cons y ys =>
      have h1 : cmpI y x = - cmpI x y := by unfold cmpI; split <;> split <;> (try split) <;> omega
      simp only [lexC, ih ys, h1]
      by_cases h : cmpI x y = 0
      · simp [h]
      · simp [h]
set_option maxHeartbeats 1000000 in
theorem l11Before_any (a a' : Option Addr) (n n' c c' : Nat) (xs ys : List Int) (w : World) (h : IntsAt w a n xs) (h' : IntsAt w a' n' ys) (hn : n ≤ 9223372036854775807) (hn' : n' ≤ 9223372036854775807) :
    Calls Try.prog 152 #[.slice a n c, .slice a' n' c'] w fun e w' => e = .returned (.bool (decide (cmpW xs ys < 0))) ∧ Ext w w' := by
  have HC := hidP (l6Above_any a' a n' n c' c ys xs w h' h hn' hn)
  by_cases hne : n = n'
  · have HD : Hid (decide (cmpW xs ys < 0) = decide (0 < lexC ys xs)) := by
      show _ = _
      unfold cmpW
      rw [h.len, h'.len, hne, cmpI_self]
      simp only [bne_self_eq_false, Bool.false_eq_true, if_false]
      rw [lexC_swap xs ys]
      congr 1
      simp
    have hb : (((n : Nat) : Int) != (n' : Nat)) = false := by simp [hne]
    clear h h' hne
    go_enter Try.func152, Try.ntmps152
    go_wp2_with (go_at_call 166; refine HC.out.mono ?_; rintro e w' ⟨rfl, hx⟩)
    go_ret
    exact ⟨ret_bool HD.out.symm, hx⟩
  · have HD : Hid (decide (cmpW xs ys < 0) = decide (n < n')) := by
      show _ = _
      have : cmpI (n : Int) n' ≠ 0 := fun e => hne (by have := cmpI_zero e; omega)
      unfold cmpW
      rw [h.len, h'.len]
      simp only [bne_iff_ne, ne_eq, this, not_false_eq_true, if_true]
      unfold cmpI at this ⊢
      split
      · simp; omega
      · split
        · simp; omega
        · simp; omega
    have hb : (((n : Nat) : Int) != (n' : Nat)) = true := bne_iff_ne.2 (by omega)
    clear h h' hne
    go_enter Try.func152, Try.ntmps152
    go_wp2
    go_ret
    exact ⟨ret_bool HD.out.symm, Ext.refl _⟩
end Go.Proofs.Ytenlhfimdpcaoaa
