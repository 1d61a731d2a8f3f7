/-
  Owned slices of rows: read; begun; append of one element, with the new slice's place: where it was, or in a new block.
  The program's reduce: the walk.
  The program's reduce: rows brought into reduced form in place.
  The program's algebras by tables: residues, isZero, addTo, the type lie with pair and right.
  Owned slices of elements that hold one slice of integers each (rows, terms, matrices): what they hold, and how it is kept and changed.
  append on an owned slice of integers; the library's Clone.
  The library's functions on slices of integers: IndexFunc, ContainsFunc, Clone.
  Rows brought into reduced form, as plain lists: no program in sight.
  Lists of residues as functions of the place: sums, multiples, tables. No program in sight.
  Inverses of residues: the program's inverse, by Euclid's steps.
  Arguments opened: slices of integers, algebras, slices of a word and a number each; what a call that only makes memory leaves readable.
  Slices of structs of a word and a number each, read.
  Algebras as values: the law's own functions on them, and AbelianAlgebra of both packages.
  Regions that draw their order: a walk in one order serves all orders. The operations that only read are taken first, in every world of a class; the others follow one by one, each of them the only one that may come up; a tail of operations that wait for all others is free to leave the class.
  The small functions on integers: inside, mod, IsPrime of both packages.
  The law's own small functions on slices of integers: eqIntS, markIntS, heldIntS, toIntS, szIntS.
  Integers in memory: slices that are read, slices that a call owns, what a store or a call leaves.
  General lemmas, no program in sight: hidden facts, integer remainders, primes.
-/
import Derived.Test.YtenlhfimdpcaoaaRows
import Derived.WalkKit
import Derived.WalkSpells
import Derived.WalkLawsBesides
import Derived.Laws.CopyOwn
import Derived.Deep.QuietTactic
import Derived.BigQuiet
import Derived.OrdersHeld
import Derived.StillTail
import Derived.Deep.Slices
import Derived.Lib.SmallJoins
import Derived.Carry
import Derived.ChangeSlices
import Derived.ProofKit
import Derived.OpenShut
import Derived.ChangeOld
import Derived.Laws.AppendOwnNone
import Derived.RegionTactic
import Derived.ChangeAlike
import Derived.ArgAppend
namespace Go.Proofs.Ytenlhfimdpcaoaa
open Go.RowKit

theorem hidP {p : Prop} (h : p) : Hid p := h

theorem ret_bool {a b : Bool} (h : a = b) : Ending.returned (.bool a) = .returned (.bool b) := by rw [h]
theorem ret_int {a b : Int} (h : a = b) : Ending.returned (.int .i64 a) = .returned (.int .i64 b) := by rw [h]

/-- n between lo and hi -/
def insB (n lo hi : Int) : Bool := decide (lo ≤ n ∧ n ≤ hi)
theorem insB_true {n lo hi : Int} : insB n lo hi = true ↔ lo ≤ n ∧ n ≤ hi := by simp [insB]
theorem insB_false {n lo hi : Int} : insB n lo hi = false ↔ ¬ (lo ≤ n ∧ n ≤ hi) := by
  rw [Bool.eq_false_iff, ne_eq, insB_true]

def PrimeP (n : Int) : Prop := 2 ≤ n ∧ n ≤ 10007 ∧ ∀ d : Nat, d < 101 → 2 ≤ d → (d : Int) * d ≤ n → n % d ≠ 0
instance (n : Int) : Decidable (PrimeP n) := by unfold PrimeP; infer_instance
def primeB (n : Int) : Bool := decide (PrimeP n)
theorem primeB_true {n : Int} : primeB n = true ↔ PrimeP n := by simp [primeB]
theorem primeB_false {n : Int} : primeB n = false ↔ ¬ PrimeP n := by simp [primeB]
theorem prime_bounds {n : Int} (h : primeB n = true) : 2 ≤ n ∧ n ≤ 10007 := ⟨(primeB_true.1 h).1, (primeB_true.1 h).2.1⟩

theorem tmod_pos_bounds (n p : Int) (hp : 0 < p) : -p < n.tmod p ∧ n.tmod p < p := by
  rcases Int.le_total 0 n with h | h
  · have h1 := Int.emod_nonneg n (Int.ne_of_gt hp); have h2 := Int.emod_lt_of_pos n hp
    rw [Int.tmod_eq_emod_of_nonneg h]; omega
  · have h1 := Int.emod_nonneg (-n) (Int.ne_of_gt hp); have h2 := Int.emod_lt_of_pos (-n) hp
    have e : n.tmod p = - ((-n) % p) := by rw [← Int.tmod_eq_emod_of_nonneg (by omega), Int.neg_tmod, Int.neg_neg]
    rw [e]; omega
theorem emod_of_tmod_nonneg (n p : Int) (h : 0 ≤ n.tmod p) (hp : 0 < p) : n.tmod p = n % p := by
  have h2 := tmod_pos_bounds n p hp
  have h3 := Int.mul_tdiv_add_tmod n p
  have : n % p = n.tmod p := by
    conv => lhs; rw [← h3, Int.add_comm, Int.add_mul_emod_self_left]
    exact Int.emod_eq_of_lt h h2.2
  exact this.symm
theorem emod_of_tmod_neg (n p : Int) (h : n.tmod p < 0) (hp : 0 < p) : n.tmod p + p = n % p := by
  have h2 := tmod_pos_bounds n p hp
  have h3 := Int.mul_tdiv_add_tmod n p
  have : n % p = n.tmod p + p := by
    conv => lhs; rw [← h3, Int.add_comm, Int.add_mul_emod_self_left]
    rw [← Int.add_emod_right]
    exact Int.emod_eq_of_lt (by omega) (by omega)
  exact this.symm

theorem wrap_in {n : Int} (h0 : -9223372036854775808 ≤ n) (h1 : n ≤ 9223372036854775807) : IntKind.i64.wrap n = n := IntWalk.i64_in n ⟨h0, h1⟩

theorem cube_le {d : Int} (h0 : 0 ≤ d) (h : d ≤ 28) : 0 ≤ d * d ∧ d * d ≤ 784 ∧ 0 ≤ d * d * d ∧ d * d * d ≤ 21952 := by
  have h4 : d * d ≤ 28 * 28 := Int.mul_le_mul h h (by omega) (by omega)
  have h3 : 0 ≤ d * d := Int.mul_nonneg h0 h0
  have h7 : d * d * d ≤ 28 * 28 * 28 := Int.mul_le_mul h4 h (by omega) (by omega)
  exact ⟨h3, by omega, Int.mul_nonneg h3 h0, by omega⟩

end Go.Proofs.Ytenlhfimdpcaoaa

namespace Go.Proofs.Ytenlhfimdpcaoaa
open Go.RowKit

def ivs (xs : List Int) : List Value := xs.map (Value.int .i64)
theorem ivs_length (xs : List Int) : (ivs xs).length = xs.length := by simp [ivs]
theorem ivs_get (xs : List Int) (i : Nat) (h : i < xs.length) : (ivs xs)[i]? = some (.int .i64 (xs.getD i 0)) := by
  simp [ivs, h]
theorem ivs_get_inv {xs : List Int} {i : Nat} {v : Value} (h : (ivs xs)[i]? = some v) : i < xs.length ∧ v = .int .i64 (xs.getD i 0) := by
  simp only [ivs, List.getElem?_map, Option.map_eq_some_iff] at h
  obtain ⟨x, hx, rfl⟩ := h
  obtain ⟨h1, h2⟩ := List.getElem?_eq_some_iff.1 hx
  exact ⟨h1, by simp [h2, h1]⟩
theorem ivs_one (xs : List Int) : ∀ u ∈ ivs xs, u.oneCell' = true := by
  intro u hu
  simp only [ivs, List.mem_map] at hu
  obtain ⟨x, _, rfl⟩ := hu
  rfl

theorem ints_ext {xs ys : List Int} (hl : xs.length = ys.length) (h : ∀ j, j < xs.length → xs.getD j 0 = ys.getD j 0) : xs = ys := by
  apply List.ext_getElem hl
  intro i h1 h2
  have := h i h1
  simpa [List.getD_eq_getElem?_getD, List.getElem?_eq_getElem h1, List.getElem?_eq_getElem h2] using this

/-- 'w' is w but for new blocks -/
abbrev Ext (w w' : World) : Prop := Below w.heap.size w w'
theorem Ext.refl (w : World) : Ext w w := Below.refl _ _
theorem Ext.trans {a b c : World} (h : Ext a b) (k : Ext b c) : Ext a c := Below.trans h (k.mono h.size)
theorem Ext.drewN (w : World) (n : Nat) : Ext w (w.drewN n) := ⟨rfl, rfl, rfl, Nat.le_refl _, fun _ _ => rfl⟩
theorem Ext.alloc (w : World) (o : Obj) : Ext w (w.alloc o) := (Below.refl _ _).alloc (Nat.le_refl _) o
theorem Below.ext {B : Nat} {a w w' : World} (h : Below B a w) (k : Ext w w') (hB : B ≤ w.heap.size) : Below B a w' := h.trans (Below.mono k hB)

/-- the slice value at address a (n elements) reads as the integers xs -/
structure IntsAt (w : World) (a : Option Addr) (n : Nat) (xs : List Int) : Prop where
  len : xs.length = n
  get : ∀ i, i < n → ∃ b o, a = some ⟨b, o, none⟩ ∧ w.cell? ⟨b, o + i, none⟩ = some (.int .i64 (xs.getD i 0))

theorem IntsAt.nil (w : World) (a : Option Addr) : IntsAt w a 0 [] := ⟨rfl, fun i h => by omega⟩
theorem IntsAt.block_lt {w : World} {b o n : Nat} {xs : List Int} (h : IntsAt w (some ⟨b, o, none⟩) n xs) (hn : 0 < n) : b < w.heap.size := by
  obtain ⟨b', o', e, hc⟩ := h.get 0 hn
  simp only [Option.some.injEq, Addr.mk.injEq, and_true] at e
  obtain ⟨rfl, rfl⟩ := e
  exact World.block_lt_of_cell? w _ hc
theorem IntsAt.atc {w : World} {b o n : Nat} {xs : List Int} (h : IntsAt w (some ⟨b, o, none⟩) n xs) (i : Nat) (hi : i < n) : w.cell? ⟨b, o + i, none⟩ = some (.int .i64 (xs.getD i 0)) := by
  obtain ⟨b', o', e, hc⟩ := h.get i hi
  simp only [Option.some.injEq, Addr.mk.injEq, and_true] at e
  obtain ⟨rfl, rfl⟩ := e
  exact hc
theorem IntsAt.below {w w' : World} {a : Option Addr} {n : Nat} {xs : List Int} (h : IntsAt w a n xs) (hb : Ext w w') : IntsAt w' a n xs := by
  refine ⟨h.len, fun i hi => ?_⟩
  obtain ⟨b, o, rfl, hc⟩ := h.get i hi
  exact ⟨b, o, rfl, (hb.cell (p := ⟨b, o + i, none⟩) (World.block_lt_of_cell? w _ hc)).trans hc⟩
/-- a part of a slice -/
theorem IntsAt.part {w : World} {b o n : Nat} {xs : List Int} (h : IntsAt w (some ⟨b, o, none⟩) n xs) (i m : Nat) (hm : i + m ≤ n) : IntsAt w (some ⟨b, o + i, none⟩) m ((xs.drop i).take m) := by
  have hl := h.len
  refine ⟨by simp; omega, fun j hj => ⟨b, o + i, rfl, ?_⟩⟩
  obtain ⟨b', o', e, hc⟩ := h.get (i + j) (by omega)
  simp only [Option.some.injEq, Addr.mk.injEq, and_true] at e
  obtain ⟨rfl, rfl⟩ := e
  rw [Nat.add_assoc, hc]
  simp [List.getD_eq_getElem?_getD, hj]

/-- an owned slice of integers: it is nil, or begins at the head of a block from B on that nothing else looks into -/
structure OwnI (w : World) (B : Nat) (a : Option Addr) (n c : Nat) (xs : List Int) : Prop where
  row : w.ownsRow B 3 1 (.slice a n c) n (ivs xs)

theorem OwnI.len {w : World} {B : Nat} {a : Option Addr} {n c : Nat} {xs : List Int} (h : OwnI w B a n c xs) : xs.length = n := by
  have := h.row.1
  simpa [ivs_length] using this
theorem OwnI.cell {w : World} {B : Nat} {a : Option Addr} {n c : Nat} {xs : List Int} (h : OwnI w B a n c xs) (k : Nat) (hk : k < n) :
    ∃ g, a = some ⟨g, 0, none⟩ ∧ B ≤ g ∧ g < w.heap.size ∧ w.cell? ⟨g, k, none⟩ = some (.int .i64 (xs.getD k 0)) ∧ w.frozen? ⟨g, k, none⟩ = false := by
  have hl := h.len
  rcases h.row.2 with ⟨he, h0⟩ | ⟨g, cap, cur, he, hB, hg, hnc, hcm, hcs, ht⟩
  · omega
  · simp only [Value.slice.injEq] at he
    obtain ⟨rfl, -, rfl⟩ := he
    have h2 := h.row
    have h3 := h2.cellAt k (by omega)
    rw [ivs_get xs k (by omega)] at h3
    exact ⟨g, rfl, hB, (h2.lt g rfl).2, h3, h2.frozenAt k⟩
theorem OwnI.ints {w : World} {B : Nat} {a : Option Addr} {n c : Nat} {xs : List Int} (h : OwnI w B a n c xs) : IntsAt w a n xs :=
  ⟨h.len, fun i hi => by
    obtain ⟨g, rfl, _, _, hc, _⟩ := h.cell i hi
    exact ⟨g, 0, rfl, by simpa using hc⟩⟩
theorem OwnI.grown {w w' : World} {B : Nat} {a : Option Addr} {n c : Nat} {xs : List Int} (h : OwnI w B a n c xs) {row : Option Nat} (hg : w.grownBy w' row) (hne : ∀ g o, a = some ⟨g, o, none⟩ → some g ≠ row) : OwnI w' B a n c xs := by
  refine ⟨h.row.kept hg ?_⟩
  cases a with
  | none => exact .inl rfl
  | some p =>
    right
    rcases h.row.2 with ⟨he, h0⟩ | ⟨g, cap, cur, he, _⟩
    · simp at he
    · simp only [Value.slice.injEq, Option.some.injEq] at he
      obtain ⟨rfl, -, -⟩ := he
      exact hne g 0 rfl
theorem OwnI.below {w w' : World} {B : Nat} {a : Option Addr} {n c : Nat} {xs : List Int} (h : OwnI w B a n c xs) (hb : Ext w w') : OwnI w' B a n c xs :=
  h.grown (row := none) ⟨hb.os, hb.tape, hb.output, hb.size, fun k hk _ => hb.block k hk⟩ (by simp)
theorem OwnI.base {w : World} {B B' : Nat} {a : Option Addr} {n c : Nat} {xs : List Int} (h : OwnI w B a n c xs) (hB : B' ≤ B) : OwnI w B' a n c xs := by
  refine ⟨h.row.1, ?_⟩
  rcases h.row.2 with h2 | ⟨g, cap, cur, he, hB', r⟩
  · exact .inl h2
  · exact .inr ⟨g, cap, cur, he, Nat.le_trans hB hB', r⟩
theorem OwnI.nil (w : World) (B : Nat) : OwnI w B none 0 0 [] := ⟨World.ownsRow_nil w B _ _⟩
theorem OwnI.made (w : World) (B n : Nat) (hB : B ≤ w.heap.size) (hm : n ≤ maxLen) : OwnI (w.alloc (.cells (Array.replicate n (.int .i64 0)) 3)) B (some ⟨w.heap.size, 0, none⟩) n n (List.replicate n 0) := by
  refine ⟨?_⟩
  have := World.ownsRow_lit (e := 3) (size := 1) (base := B) w (Array.replicate n (.int .i64 0)) n hB hm (by simp)
  simpa [ivs, List.map_replicate] using this

/-- w' is w but for new blocks and the n cells from a on, which now hold ys -/
structure UpdI (w w' : World) (a : Option Addr) (n : Nat) (ys : List Int) : Prop where
  os : w'.os = w.os
  tape : w'.tape = w.tape
  output : w'.output = w.output
  size : w.heap.size ≤ w'.heap.size
  len : ys.length = n
  other : ∀ k, k < w.heap.size → (∀ b o, a = some ⟨b, o, none⟩ → 0 < n → k ≠ b) → w'.heap[k]? = w.heap[k]?
  self : ∀ b o, a = some ⟨b, o, none⟩ → 0 < n → ∃ cur : Array Value, ∃ E : TypeId, ∃ fr : Nat × Nat, w.heap[b]? = some (.cells cur E fr) ∧ o + n ≤ cur.size ∧
    w'.heap[b]? = some (.cells (splice cur.toList o (ivs ys)).toArray E fr)

theorem splice_self (cur : List Value) (o : Nat) (ys : List Value) (h : ∀ i, i < ys.length → cur[o + i]? = ys[i]?) (hl : o + ys.length ≤ cur.length) : splice cur o ys = cur := by
  apply List.ext_getElem?
  intro i
  simp only [splice, List.getElem?_append, List.length_take, List.getElem?_take, List.getElem?_drop]
  by_cases h1 : i < o
  · simp [show min o cur.length = o by omega, h1, show i < cur.length by omega]
  · simp only [show min o cur.length = o by omega, h1, if_false]
    by_cases h2 : i - o < ys.length
    · simp only [h2, if_true]
      rw [← h _ h2]
      congr 1
      omega
    · simp only [h2, if_false]
      congr 1
      omega

theorem UpdI.start {w : World} {a : Option Addr} {n : Nat} {xs : List Int} (h : IntsAt w a n xs) : UpdI w w a n xs := by
  refine ⟨rfl, rfl, rfl, Nat.le_refl _, h.len, fun _ _ _ => rfl, fun b o e hn => ?_⟩
  subst e
  have hc : ∀ i, i < n → w.cell? ⟨b, o + i, none⟩ = some (.int .i64 (xs.getD i 0)) := fun i hi => by
    obtain ⟨b', o', e, hc⟩ := h.get i hi
    simp only [Option.some.injEq, Addr.mk.injEq, and_true] at e
    obtain ⟨rfl, rfl⟩ := e
    exact hc
  have hl := h.len
  have h0 := hc 0 hn
  unfold World.cell? at h0
  split at h0
  · rename_i cur E fr hb0
    have hb : w.heap[b]? = some (.cells cur E fr) := hb0
    have hcell : ∀ i, i < n → cur[o + i]? = some (.int .i64 (xs.getD i 0)) := fun i hi => by
      have := hc i hi
      unfold World.cell? at this
      simpa only [hb, Option.isSome_none, Bool.false_eq_true, if_false] using this
    have hsz : o + n ≤ cur.size := by
      have := hcell (n - 1) (by omega)
      have := (Array.getElem?_eq_some_iff.1 this).1
      omega
    refine ⟨cur, E, fr, hb, hsz, ?_⟩
    have hsp : splice cur.toList o (ivs xs) = cur.toList := by
      refine splice_self cur.toList o (ivs xs) (fun i hi => ?_) (by simp [ivs_length, hl, hsz])
      rw [ivs_length] at hi
      rw [ivs_get xs i hi, ← hcell i (by omega)]
      simp
    rw [hsp]
    exact hb
  · cases h0

theorem splice_set (cur : List Value) (o : Nat) (ys : List Value) (i : Nat) (v : Value) (hi : i < ys.length) (hl : o + ys.length ≤ cur.length) : (splice cur o ys).set (o + i) v = splice cur o (ys.set i v) := by
  apply List.ext_getElem?
  intro j
  simp only [splice, List.getElem?_set, List.getElem?_append, List.length_take, List.getElem?_take, List.getElem?_drop, List.length_append, List.length_drop, List.length_set]
  by_cases h1 : o + i = j
  · subst h1
    simp only [show min o cur.length = o by omega, show ¬ (o + i < o) by omega, if_false, if_true, show o + i - o = i by omega, hi, if_true]
    rw [if_pos (by omega)]
  · simp only [h1, if_false]
    by_cases h2 : j < o
    · simp [show min o cur.length = o by omega, h2]
    · simp only [show min o cur.length = o by omega, h2, if_false, show ¬ (i = j - o) by omega]

theorem heap_setCell_at (w : World) (b i : Nat) (cs : Array Value) (E : TypeId) (fr : Nat × Nat) (v : Value) (hg : w.heap[b]? = some (.cells cs E fr)) :
    (w.setCell ⟨b, i, none⟩ v).heap[b]? = some (.cells (cs.setIfInBounds i v) E fr) := by
  simp [World.setCell, Array.getElem?_modify, hg]

theorem UpdI.store {w w' : World} {b o n : Nat} {ys : List Int} (h : UpdI w w' (some ⟨b, o, none⟩) n ys) (k : Nat) (hk : k < n) (v : Int) :
    UpdI w (w'.setCell ⟨b, o + k, none⟩ (.int .i64 v)) (some ⟨b, o, none⟩) n (ys.set k v) := by
  have hl := h.len
  refine ⟨h.os, h.tape, h.output, by simpa [World.setCell] using h.size, by simpa using hl, fun j hj hne => ?_, fun b' o' e hn => ?_⟩
  · rw [Below.heap_setCell _ _ _ _ (hne b o rfl (by omega))]
    exact h.other j hj hne
  · simp only [Option.some.injEq, Addr.mk.injEq, and_true] at e
    obtain ⟨rfl, rfl⟩ := e
    obtain ⟨cur, E, fr, h1, h2, h3⟩ := h.self b o rfl hn
    refine ⟨cur, E, fr, h1, h2, ?_⟩
    rw [heap_setCell_at w' b (o + k) _ E fr _ h3]
    congr 2
    rw [List.setIfInBounds_toArray, splice_set _ _ _ _ _ (by simpa [ivs_length, hl] using hk) (by simpa [ivs_length, hl] using h2)]
    simp [ivs, List.map_set]

theorem splice_length (cur : List Value) (o : Nat) (ys : List Value) (hl : o + ys.length ≤ cur.length) : (splice cur o ys).length = cur.length := by simp [splice]; omega
theorem splice_get (cur : List Value) (o : Nat) (ys : List Value) (k : Nat) (hk : k < ys.length) (hl : o + ys.length ≤ cur.length) : (splice cur o ys)[o + k]? = ys[k]? := by
  simp only [splice, List.getElem?_append, List.length_take]
  rw [show min o cur.length = o by omega, if_neg (by omega), show o + k - o = k by omega, if_pos hk]

theorem UpdI.cellAt {w w' : World} {b o n : Nat} {ys : List Int} (h : UpdI w w' (some ⟨b, o, none⟩) n ys) (k : Nat) (hk : k < n) :
    ∃ v, w'.cell? ⟨b, o + k, none⟩ = some v ∧ w'.frozen? ⟨b, o + k, none⟩ = w.frozen? ⟨b, o + k, none⟩ := by
  have hl := h.len
  obtain ⟨cur, E, fr, h1, h2, h3⟩ := h.self b o rfl (by omega)
  refine ⟨.int .i64 (ys.getD k 0), ?_, ?_⟩
  · simp only [World.cell?, h3, Option.isSome_none, Bool.false_eq_true, if_false, List.getElem?_toArray]
    rw [splice_get _ _ _ _ (by simpa [ivs_length, hl] using hk) (by simpa [ivs_length, hl] using h2), ivs_get ys k (by omega)]
  · simp only [World.frozen?, h1, h3]

/-- another slice, in another block -/
theorem UpdI.others {w w' : World} {a a' : Option Addr} {n n' : Nat} {xs ys : List Int} (h : UpdI w w' a n ys) (k : IntsAt w a' n' xs) (hne : ∀ b o b' o', a = some ⟨b, o, none⟩ → a' = some ⟨b', o', none⟩ → b ≠ b') : IntsAt w' a' n' xs := by
  refine ⟨k.len, fun i hi => ?_⟩
  obtain ⟨b', o', rfl, hc⟩ := k.get i hi
  refine ⟨b', o', rfl, ?_⟩
  rw [World.cell?_of_block (w := w) (h.other b' (World.block_lt_of_cell? w _ hc) fun b o e _ => (hne b o b' o' e rfl).symm)]
  exact hc

theorem UpdI.below {w0 w w' : World} {B : Nat} {a : Option Addr} {n : Nat} {ys : List Int} (h : UpdI w w' a n ys) (hb : Below B w0 w) (hB : B ≤ w.heap.size) (ha : ∀ b o, a = some ⟨b, o, none⟩ → 0 < n → B ≤ b) : Below B w0 w' :=
  hb.trans ⟨h.os, h.tape, h.output, h.size, fun k hk => h.other k (by omega) fun b o e hn => by have := ha b o e hn; omega⟩

/-- the whole of an owned slice, changed -/
theorem UpdI.own {w w' : World} {B : Nat} {a : Option Addr} {n c : Nat} {xs ys : List Int} (h : UpdI w w' a n ys) (k : OwnI w B a n c xs) : OwnI w' B a n c ys := by
  have hl := h.len
  refine ⟨by simpa [ivs_length] using hl, ?_⟩
  rcases k.row.2 with ⟨he, h0⟩ | ⟨g, cap, cur, he, hB, hg, hnc, hcm, hcs, ht⟩
  · exact .inl ⟨he, h0⟩
  · simp only [Value.slice.injEq, true_and] at he
    obtain ⟨rfl, rfl⟩ := he
    rcases Nat.eq_zero_or_pos n with h0 | h0
    · subst h0
      have hy : ys = [] := List.eq_nil_of_length_eq_zero hl
      subst hy
      refine .inr ⟨g, c, cur, rfl, hB, ?_, hnc, hcm, hcs, by simp [ivs]⟩
      rw [h.other g (Array.getElem?_eq_some_iff.1 hg).1 fun _ _ _ hn => by omega]
      exact hg
    · obtain ⟨cur', E, fr, h1, h2, h3⟩ := h.self g 0 rfl h0
      rw [hg] at h1
      simp only [Option.some.injEq, Obj.cells.injEq] at h1
      obtain ⟨rfl, rfl, rfl⟩ := h1
      refine .inr ⟨g, c, _, rfl, hB, h3, hnc, hcm, ?_, ?_⟩
      · rw [List.size_toArray, splice_length _ _ _ (by simpa [ivs_length, hl] using h2)]; simpa using hcs
      · simp [splice, Nat.mul_one, ← ivs_length ys, ← hl]

theorem OwnI.unfrozen {w : World} {B : Nat} {a : Option Addr} {n c : Nat} {xs : List Int} (h : OwnI w B a n c xs) : ∀ i b o, i < n → a = some ⟨b, o, none⟩ → w.frozen? ⟨b, o + i, none⟩ = false := by
  intro i b o hi e
  obtain ⟨g, e', _, _, _, hf⟩ := h.cell i hi
  rw [e] at e'
  simp only [Option.some.injEq, Addr.mk.injEq, and_true] at e'
  obtain ⟨rfl, rfl⟩ := e'
  simpa using hf
theorem OwnI.at_base {w : World} {B : Nat} {a : Option Addr} {n c : Nat} {xs : List Int} (h : OwnI w B a n c xs) : ∀ b o, a = some ⟨b, o, none⟩ → B ≤ b ∧ b < w.heap.size := by
  intro b o e
  rcases h.row.2 with ⟨he, h0⟩ | ⟨g, cap, cur, he, hB, hg, _⟩
  · simp [e] at he
  · simp only [Value.slice.injEq] at he
    rw [e] at he
    simp only [Option.some.injEq, Addr.mk.injEq, and_true] at he
    obtain ⟨⟨rfl, _⟩, _⟩ := he
    exact ⟨hB, (Array.getElem?_eq_some_iff.1 hg).1⟩

/-- new blocks behind a change, and ahead of one -/
theorem UpdI.ext {w w' w'' : World} {a : Option Addr} {n : Nat} {ys : List Int} (h : UpdI w w' a n ys) (k : Ext w' w'') : UpdI w w'' a n ys := by
  refine ⟨k.os.trans h.os, k.tape.trans h.tape, k.output.trans h.output, Nat.le_trans h.size k.size, h.len, fun j hj hne => ?_, fun b o e hn => ?_⟩
  · rw [k.block j (Nat.lt_of_lt_of_le hj h.size)]
    exact h.other j hj hne
  · obtain ⟨cur, E, fr, h1, h2, h3⟩ := h.self b o e hn
    refine ⟨cur, E, fr, h1, h2, ?_⟩
    rw [k.block b (Array.getElem?_eq_some_iff.1 h3).1]
    exact h3
theorem Ext.drew (w : World) : Ext w w.drew := ⟨rfl, rfl, rfl, Nat.le_refl _, fun _ _ => rfl⟩
theorem UpdI.drew {w w' : World} {a : Option Addr} {n : Nat} {ys : List Int} (h : UpdI w w' a n ys) : UpdI w w'.drew a n ys := h.ext (Ext.drew w')
theorem UpdI.drewN {w w' : World} {a : Option Addr} {n : Nat} {ys : List Int} (h : UpdI w w' a n ys) (k : Nat) : UpdI w (w'.drewN k) a n ys := h.ext (Ext.drewN w' k)
theorem Ext.upd {w0 w w' : World} {a : Option Addr} {n : Nat} {xs ys : List Int} (k : Ext w0 w) (h0 : IntsAt w0 a n xs) (h : UpdI w w' a n ys) : UpdI w0 w' a n ys := by
  refine ⟨h.os.trans k.os, h.tape.trans k.tape, h.output.trans k.output, Nat.le_trans k.size h.size, h.len, fun j hj hne => ?_, fun b o e hn => ?_⟩
  · rw [h.other j (Nat.lt_of_lt_of_le hj k.size) hne, k.block j hj]
  · obtain ⟨cur, E, fr, h1, h2, h3⟩ := h.self b o e hn
    refine ⟨cur, E, fr, ?_, h2, h3⟩
    subst e
    rw [← h1, k.block b (h0.block_lt hn)]

theorem splice_splice (cur : List Value) (o : Nat) (ys zs : List Value) (hl : ys.length = zs.length) (hc : o + ys.length ≤ cur.length) : splice (splice cur o ys) o zs = splice cur o zs := by
  have ht : (cur.take o).length = o := by simp; omega
  have h1 : (splice cur o ys).take o = cur.take o := by
    unfold splice
    exact List.take_left' ht
  have h2 : (splice cur o ys).drop (o + zs.length) = cur.drop (o + zs.length) := by
    unfold splice
    rw [← List.append_assoc, ← hl]
    exact List.drop_left' (by simp; omega)
  show (splice cur o ys).take o ++ (zs ++ (splice cur o ys).drop (o + zs.length)) = cur.take o ++ (zs ++ cur.drop (o + zs.length))
  rw [h1, h2]

theorem UpdI.trans {w w' w'' : World} {a : Option Addr} {n : Nat} {ys zs : List Int} (h : UpdI w w' a n ys) (k : UpdI w' w'' a n zs) : UpdI w w'' a n zs := by
  refine ⟨k.os.trans h.os, k.tape.trans h.tape, k.output.trans h.output, Nat.le_trans h.size k.size, k.len, fun j hj hne => ?_, fun b o e hn => ?_⟩
  · rw [k.other j (Nat.lt_of_lt_of_le hj h.size) hne]
    exact h.other j hj hne
  · obtain ⟨cur, E, fr, h1, h2, h3⟩ := h.self b o e hn
    obtain ⟨cur', E', fr', k1, k2, k3⟩ := k.self b o e hn
    rw [h3] at k1
    simp only [Option.some.injEq, Obj.cells.injEq] at k1
    obtain ⟨rfl, rfl, rfl⟩ := k1
    refine ⟨cur, E, fr, h1, h2, ?_⟩
    rw [k3, splice_splice _ _ _ _ (by simp [ivs_length, h.len, k.len]) (by simpa [ivs_length, h.len] using h2)]

/-- a store into a block below what is owned -/
theorem OwnI.setBelow {w : World} {B : Nat} {a : Option Addr} {n c : Nat} {xs : List Int} (h : OwnI w B a n c xs) (b i : Nat) (hb : b < B) (v : Value) : OwnI (w.setCell ⟨b, i, none⟩ v) B a n c xs :=
  h.grown (row := some b) ⟨rfl, rfl, rfl, by simp [World.setCell], fun k _ hk => Below.heap_setCell _ _ _ _ (fun e => hk (by rw [e]))⟩ (fun g o e => by have := (h.at_base g o e).1; simp; omega)

def addrBlock : Option Addr → Option Nat
  | some ⟨b, _, none⟩ => some b
  | _ => none
theorem addrBlock_some {a : Option Addr} {b : Nat} (h : addrBlock a = some b) : ∃ o, a = some ⟨b, o, none⟩ := by
  unfold addrBlock at h
  split at h
  · simp only [Option.some.injEq] at h
    subst h
    exact ⟨_, rfl⟩
  · cases h
theorem UpdI.grownBy {w w' : World} {a : Option Addr} {n : Nat} {ys : List Int} (h : UpdI w w' a n ys) : w.grownBy w' (addrBlock a) :=
  ⟨h.os, h.tape, h.output, h.size, fun j hj hr => h.other j hj fun b o e _ he => hr (by rw [e, he]; rfl)⟩
/-- another owned slice, in another block -/
theorem OwnI.others {w w' : World} {B : Nat} {a a' : Option Addr} {n n' c' : Nat} {xs ys : List Int} (k : OwnI w B a' n' c' xs) (h : UpdI w w' a n ys) (hne : ∀ b o b' o', a = some ⟨b, o, none⟩ → a' = some ⟨b', o', none⟩ → b ≠ b') : OwnI w' B a' n' c' xs := by
  refine k.grown h.grownBy fun g o e => ?_
  cases hb : addrBlock a with
  | none => simp
  | some b =>
    obtain ⟨o', e'⟩ := addrBlock_some hb
    have := hne b o' g o e' e
    simp only [ne_eq, Option.some.injEq]
    omega

theorem UpdI.cellInt {w w' : World} {b o n : Nat} {ys : List Int} (h : UpdI w w' (some ⟨b, o, none⟩) n ys) (k : Nat) (hk : k < n) :
    w'.cell? ⟨b, o + k, none⟩ = some (.int .i64 (ys.getD k 0)) ∧ w'.frozen? ⟨b, o + k, none⟩ = w.frozen? ⟨b, o + k, none⟩ := by
  have hl := h.len
  obtain ⟨cur, E, fr, h1, h2, h3⟩ := h.self b o rfl (by omega)
  refine ⟨?_, ?_⟩
  · simp only [World.cell?, h3, Option.isSome_none, Bool.false_eq_true, if_false, List.getElem?_toArray]
    rw [splice_get _ _ _ _ (by simpa [ivs_length, hl] using hk) (by simpa [ivs_length, hl] using h2), ivs_get ys k (by omega)]
  · simp only [World.frozen?, h1, h3]

theorem cell_top (w : World) (cs : Array Value) (E : TypeId) (b i : Nat) (hb : b = w.heap.size) : (w.alloc (.cells cs E)).cell? ⟨b, i, none⟩ = cs[i]? := by
  subst hb
  simp only [World.cell?, heap_alloc_new, Option.isSome_none, Bool.false_eq_true, if_false]
theorem ints_alloc (w : World) (xs : List Int) (E : TypeId) : IntsAt (w.alloc (.cells (ivs xs).toArray E)) (some ⟨w.heap.size, 0, none⟩) xs.length xs := by
  refine ⟨rfl, fun i hi => ⟨w.heap.size, 0, rfl, ?_⟩⟩
  rw [cell_top _ _ _ _ _ rfl, Nat.zero_add, List.getElem?_toArray, ivs_get xs i hi]

theorem Ext.setNew {w0 w : World} (h : Ext w0 w) (b i : Nat) (hb : w0.heap.size ≤ b) (v : Value) : Ext w0 (w.setCell ⟨b, i, none⟩ v) := Below.setCell (p := ⟨b, i, none⟩) h hb v
theorem frozen_top (w : World) (cs : Array Value) (E : TypeId) (b i : Nat) (hb : b = w.heap.size) : (w.alloc (.cells cs E)).frozen? ⟨b, i, none⟩ = false := by
  subst hb
  simp only [World.frozen?, heap_alloc_new]
  simp

/-- the cells of a new block, later -/
theorem new_cell {w w' : World} {cs : Array Value} {E : TypeId} {b : Nat} (hb : b = w.heap.size) (hx : Ext (w.alloc (.cells cs E)) w') (j : Nat) :
    w'.cell? ⟨b, j, none⟩ = cs[j]? ∧ w'.frozen? ⟨b, j, none⟩ = false := by
  subst hb
  have hl : w.heap.size < (w.alloc (.cells cs E)).heap.size := by simp
  exact ⟨(hx.cell (p := ⟨w.heap.size, j, none⟩) hl).trans (cell_top _ _ _ _ _ rfl), (hx.frozen (p := ⟨w.heap.size, j, none⟩) hl).trans (frozen_top _ _ _ _ _ rfl)⟩
end Go.Proofs.Ytenlhfimdpcaoaa

namespace Go.Proofs.Ytenlhfimdpcaoaa
open Go.RowKit

theorem Try.info3 : (Try.prog.info? 3).map (fun i => (i.zero, i.size, i.bytes)) = some (some (.int .i64 0), 1, 8) := by kernel_rfl

/-- make([]int, n) -/
theorem make_ints (n : Int) (h0 : 0 ≤ n) (h1 : n ≤ 1000000000000) (w : World) :
    (Instr.makeSlice 22 (.int .i64 n) (.int .i64 n)).run Try.prog w = .ok (.slice (some ⟨w.heap.size, 0, none⟩) n.toNat n.toNat) (w.alloc (.cells (Array.replicate n.toNat (.int .i64 0)) 3)) := by
  obtain ⟨i, hi, hz0, hz1, hz2⟩ := info_parts Try.info3
  have := run_make (P := Try.prog) w 22 3 i (.int .i64 0) Try.underlying22 hi hz0 .i64 .i64 n n h0 (Int.le_refl _) (by rw [hz2]; omega) (by omega)
  rw [this, hz1]
  have e : madeCells (Value.int .i64 0).cells (n.toNat * 1) = Array.replicate n.toNat (.int .i64 0) := by
    apply Array.ext'
    rw [show (Value.int .i64 0).cells = #[.int .i64 0] from rfl, toList_madeCells_one]
    simp
  rw [e]

set_option maxHeartbeats 1000000 in
theorem eqIntS_any (a1 a2 : Option Addr) (n1 n2 c1 c2 : Nat) (xs ys : List Int) (w : World) (h1 : IntsAt w a1 n1 xs) (h2 : IntsAt w a2 n2 ys) (hm1 : n1 ≤ 9223372036854775807) (hm2 : n2 ≤ 9223372036854775807) :
    Calls Try.prog 30 #[.slice a1 n1 c1, .slice a2 n2 c2] w fun e w' => e = .returned (.bool (xs == ys)) ∧ ∃ m, w' = w.drewN m := by
  obtain ⟨l1, g1⟩ := h1
  obtain ⟨l2, g2⟩ := h2
  have G1 := hidP g1
  have G2 := hidP g2
  have L1 := hidP l1
  have L2 := hidP l2
  clear g1 g2 l1 l2
  by_cases hne : n1 = n2
  · subst hne
    go_enter Try.func30, Try.ntmps30
    go_wp2
    go_loopw [5] (fun i wr => ∃ k m : Nat, k ≤ n1 ∧ Hid (∀ j, j < k → xs.getD j 0 = ys.getD j 0) ∧ i = .int .i64 k ∧ wr = w.drewN m) (fun i _ => n1 - (intOf i).toNat)
    case atStart => exact ⟨0, 0, Nat.zero_le _, fun j h => by omega, rfl, rfl⟩
    case round =>
      obtain ⟨k, m, hk, HJ, rfl, rfl⟩ := hrel
      by_cases hlt : k < n1
      · obtain ⟨b1, o1, rfl, q1⟩ := G1.out k hlt
        obtain ⟨b2, o2, rfl, q2⟩ := G2.out k hlt
        by_cases hd : xs.getD k 0 = ys.getD k 0
        · have hb : (xs[k]?.getD 0 != ys[k]?.getD 0) = false := by simpa [List.getD_eq_getElem?_getD] using hd
          have HD := hidP hd
          clear hd
          go_wp2
          go_quiet (fail)
          go_wp2
          go_roundw
          case rel =>
            refine ⟨k + 1, m + nq, by omega, fun j hj => ?_, by go_num, by simp⟩
            rcases Nat.lt_succ_iff_lt_or_eq.1 hj with h3 | rfl
            · exact HJ.out j h3
            · exact HD.out
          case measure => simp [intOf]; omega
        · have hb : (xs[k]?.getD 0 != ys[k]?.getD 0) = true := by simpa [List.getD_eq_getElem?_getD] using hd
          have HB : Hid ((xs == ys) = false) := by
            show _ = _
            rw [beq_eq_false_iff_ne]
            exact fun e => hd (by rw [e])
          clear hd
          go_wp2
          go_quiet (fail)
          go_wp2
          go_ret
          exact ⟨ret_bool HB.out.symm, _, by simp only [World.drewN_drewN]; rfl⟩
      · have HB : Hid ((xs == ys) = true) := by
          show _ = _
          rw [beq_iff_eq]
          exact ints_ext (L1.out.trans L2.out.symm) fun j hj => HJ.out j (by have := L1.out; omega)
        go_wp2
        go_ret
        exact ⟨ret_bool HB.out.symm, _, rfl⟩
  · have HB : Hid ((xs == ys) = false) := by
      show _ = _
      rw [beq_eq_false_iff_ne]
      exact fun e => hne (by rw [← L1.out, ← L2.out, e])
    have hb : (((n1 : Nat) : Int) != (n2 : Nat)) = true := bne_iff_ne.2 (by omega)
    clear hne
    go_enter Try.func30, Try.ntmps30
    go_wp2
    go_ret
    exact ⟨ret_bool HB.out.symm, 0, rfl⟩

/-- k, k + 1, .. -/
def upFrom (k : Int) : Nat → List Int
  | 0 => []
  | n + 1 => k :: upFrom (k + 1) n
theorem upFrom_length (k : Int) (n : Nat) : (upFrom k n).length = n := by
  induction n generalizing k with
  | zero => rfl
  | succ n ih => simp [upFrom, ih]
theorem upFrom_get (k : Int) (n j : Nat) (h : j < n) : (upFrom k n).getD j 0 = k + j := by
  induction n generalizing k j with
  | zero => omega
  | succ n ih =>
    cases j with
    | zero => simp [upFrom]
    | succ j =>
      have := ih (k + 1) j (by omega)
      simp only [List.getD_eq_getElem?_getD] at this ⊢
      simp only [upFrom, List.getElem?_cons_succ, this]
      omega
/-- the first j numbers of ys, the others of xs -/
def partly (xs ys : List Int) (j : Nat) : List Int := ys.take j ++ xs.drop j
theorem partly_zero (xs ys : List Int) : partly xs ys 0 = xs := by simp [partly]
theorem partly_all (xs ys : List Int) (n : Nat) (h1 : xs.length = n) (h2 : ys.length = n) : partly xs ys n = ys := by simp [partly, ← h2, List.take_of_length_le, h1]
theorem partly_get (xs ys : List Int) (j n : Nat) (hj : j < n) (h1 : xs.length = n) (h2 : ys.length = n) : (partly xs ys j).getD j 0 = xs.getD j 0 := by
  simp only [partly, List.getD_eq_getElem?_getD]
  rw [List.getElem?_append_right (by simp; omega), List.getElem?_drop]
  congr 2
  simp
  omega
theorem partly_succ (xs ys : List Int) (n j : Nat) (hj : j < n) (h1 : xs.length = n) (h2 : ys.length = n) : (partly xs ys j).set j (ys.getD j 0) = partly xs ys (j + 1) := by
  apply List.ext_getElem?
  intro i
  simp only [partly, List.getElem?_set, List.getElem?_append, List.length_take, List.getElem?_take, List.getElem?_drop, List.length_append, List.length_drop]
  by_cases h : j = i
  · subst h
    rw [if_pos rfl, if_pos (by omega), if_pos (by omega), if_pos (by omega), List.getElem?_eq_getElem (by omega), List.getD_eq_getElem?_getD, List.getElem?_eq_getElem (by omega)]
    rfl
  · simp only [h, if_false]
    by_cases h3 : i < j
    · simp [show min j ys.length = j by omega, show min (j + 1) ys.length = j + 1 by omega, h3, show i < j + 1 by omega]
    · simp [show min j ys.length = j by omega, show min (j + 1) ys.length = j + 1 by omega, h3, show ¬ (i < j + 1) by omega]
      congr 1; omega

set_option maxHeartbeats 1000000 in
theorem markIntS_any (a : Option Addr) (n c : Nat) (k0 : Int) (xs : List Int) (w : World) (h : IntsAt w a n xs) (hf : ∀ i b o, i < n → a = some ⟨b, o, none⟩ → w.frozen? ⟨b, o + i, none⟩ = false)
    (hn : n ≤ 1000000000000) (hk0 : -1000000000000 ≤ k0) (hk1 : k0 ≤ 1000000000000) :
    Calls Try.prog 31 #[.slice a n c, .int .i64 k0] w fun e w' => e = .returned (.int .i64 (k0 + n)) ∧ UpdI w w' a n (upFrom k0 n) := by
  have hst := UpdI.start h
  have G := hidP h.get
  have L := hidP h.len
  have HF := hidP hf
  have HST := hidP hst
  clear h hf hst
  go_enter Try.func31, Try.ntmps31
  go_wp2
  go_loopw [1, 5] (fun kk i wr => ∃ k : Nat, k ≤ n ∧ Hid (UpdI w wr a n (partly xs (upFrom k0 n) k)) ∧ i = .int .i64 k ∧ kk = .int .i64 (k0 + k)) (fun _ i _ => n - (intOf i).toNat)
  case atStart => exact ⟨0, Nat.zero_le _, by rw [partly_zero]; exact HST, rfl, by simp⟩
  case round =>
    obtain ⟨k, hk, HU, rfl, rfl⟩ := hrel
    by_cases hlt : k < n
    · obtain ⟨b, o, rfl, q⟩ := G.out k hlt
      have hcf := hidP (HU.out.cellAt k hlt)
      obtain ⟨v, hc, hfz⟩ := hcf.out
      have hfz' : wr.frozen? ⟨b, o + k, none⟩ = false := by rw [hfz]; exact HF.out k b o hlt rfl
      have hs := HU.out.store k hlt (k0 + k)
      rw [← upFrom_get k0 n k hlt, partly_succ xs _ n k hlt L.out (upFrom_length _ _), upFrom_get k0 n k hlt] at hs
      have HS := hidP hs
      clear hs hfz q hcf
      go_wp2
      go_roundw
      case rel => exact ⟨k + 1, by omega, HS, by go_num, by go_num⟩
      case measure => simp [intOf]; omega
    · have hu := HU.out
      obtain rfl : k = n := by omega
      rw [partly_all xs _ k L.out (upFrom_length _ _)] at hu
      go_wp2
      go_ret
      exact ⟨rfl, hu⟩

set_option maxHeartbeats 1000000 in
theorem heldIntS_any (a : Option Addr) (n c : Nat) (k0 : Int) (w : World) (h : IntsAt w a n (upFrom k0 n)) (hn : n ≤ 1000000000000) (hk0 : -1000000000000 ≤ k0) (hk1 : k0 ≤ 1000000000000) :
    Calls Try.prog 32 #[.slice a n c, .int .i64 k0] w fun e w' => e = .returned (.int .i64 (k0 + n)) ∧ ∃ m, w' = w.drewN m := by
  have G := hidP h.get
  clear h
  go_enter Try.func32, Try.ntmps32
  go_wp2
  go_loopw [1, 5] (fun kk i wr => ∃ k m : Nat, k ≤ n ∧ i = .int .i64 k ∧ kk = .int .i64 (k0 + k) ∧ wr = w.drewN m) (fun _ i _ => n - (intOf i).toNat)
  case atStart => exact ⟨0, 0, Nat.zero_le _, rfl, by simp, rfl⟩
  case round =>
    obtain ⟨k, m, hk, rfl, rfl, rfl⟩ := hrel
    by_cases hlt : k < n
    · obtain ⟨b, o, rfl, q⟩ := G.out k hlt
      rw [upFrom_get k0 n k hlt] at q
      go_wp2
      go_roundw
      case rel => exact ⟨k + 1, _, by omega, by go_num, by go_num, rfl⟩
      case measure => simp [intOf]; omega
    · obtain rfl : k = n := by omega
      go_wp2
      go_ret
      exact ⟨rfl, _, rfl⟩

/-- what is left of a bound, -1 where nothing is -/
def szLeft (n : Nat) (left : Int) : Int := if (n : Int) ≤ left then left - n else -1
theorem szIntS_any (a : Option Addr) (n c : Nat) (left : Int) (w : World) (hn : n ≤ 9223372036854775807) (h0 : 0 ≤ left) (h1 : left ≤ 1048576) :
    Calls Try.prog 85 #[.slice a n c, .int .i64 left] w fun e w' => e = .returned (.int .i64 (szLeft n left)) ∧ w = w' := by
  by_cases hle : (n : Int) ≤ left
  · have HE := hidP (if_pos hle : szLeft n left = left - n)
    have hx : ¬ (left - (n : Int) < 0) := by omega
    go_enter Try.func85, Try.ntmps85
    go_wp2
    go_ret
    exact ⟨ret_int HE.out.symm, rfl⟩
  · have HE := hidP (if_neg hle : szLeft n left = -1)
    have hx : left - (n : Int) < 0 := by omega
    go_enter Try.func85, Try.ntmps85
    go_wp2
    go_ret
    exact ⟨ret_int HE.out.symm, rfl⟩

set_option maxHeartbeats 1000000 in
theorem toIntS_any (a : Option Addr) (n c : Nat) (xs : List Int) (w : World) (h : IntsAt w a n xs) (hn : n ≤ 1048576) :
    Calls Try.prog 29 #[.slice a n c] w fun e w' => ∃ a', e = .returned (.slice a' n n) ∧ OwnI w' w.heap.size a' n n xs ∧ Ext w w' := by
  have hmade := OwnI.made w w.heap.size n (Nat.le_refl _) (by unfold maxLen; omega)
  have H := hidP h
  have HM := hidP hmade
  have L := hidP h.len
  have hmk := make_ints (n : Int) (by omega) (by omega)
  simp only [Int.toNat_natCast] at hmk
  clear h hmade
  go_enter Try.func29, Try.ntmps29
  go_wp2
  obtain ⟨w1, hw1⟩ : ∃ w1, w1 = w.alloc (.cells (Array.replicate n (.int .i64 0)) 3) := ⟨_, rfl⟩
  rw [← hw1] at HM ⊢
  have hx : Hid (Ext w w1) := by rw [hw1]; exact Ext.alloc w _
  have h1 := hidP (H.out.below hx.out)
  have hst := hidP (UpdI.start HM.out.ints)
  clear hw1 hmk
  go_loopw [4] (fun i wr => ∃ k : Nat, k ≤ n ∧ Hid (UpdI w1 wr (some ⟨w.heap.size, 0, none⟩) n (partly (List.replicate n 0) xs k)) ∧ i = .int .i64 k) (fun i _ => n - (intOf i).toNat)
  case atStart => exact ⟨0, Nat.zero_le _, by rw [partly_zero]; exact hst, rfl⟩
  case round =>
    obtain ⟨k, hk, HU, rfl⟩ := hrel
    by_cases hlt : k < n
    · have he := hidP (HU.out.below hx.out hx.out.size (fun b o e _ => by simp only [Option.some.injEq, Addr.mk.injEq] at e; omega))
      obtain ⟨b, o, rfl, q⟩ := (H.out.below he.out).get k hlt
      have hcf := hidP (HU.out.cellAt k hlt)
      obtain ⟨v, hc, hfz⟩ := hcf.out
      have hfz' : wr.frozen? ⟨w.heap.size, k, none⟩ = false := by rw [Nat.zero_add] at hfz; rw [hfz]; have := HM.out.unfrozen k _ _ hlt rfl; simpa using this
      rw [Nat.zero_add] at hc
      have hs := HU.out.store k hlt (xs.getD k 0)
      rw [partly_succ _ xs n k hlt (by simp) L.out, Nat.zero_add] at hs
      have HS := hidP hs
      clear hs hfz hcf
      go_wp2
      go_roundw
      case rel => exact ⟨k + 1, by omega, by simpa using HS, by go_num⟩
      case measure => simp [intOf]; omega
    · have hu := HU.out
      obtain rfl : k = n := by omega
      rw [partly_all _ xs k (by simp) L.out] at hu
      have ho := hidP (hu.own HM.out)
      have he := hidP (hu.below hx.out hx.out.size (fun b o e _ => by simp only [Option.some.injEq, Addr.mk.injEq] at e; omega))
      clear hu
      go_wp2
      go_ret
      exact ⟨_, rfl, ho.out, he.out⟩
end Go.Proofs.Ytenlhfimdpcaoaa

namespace Go.Proofs.Ytenlhfimdpcaoaa
open Go.RowKit

theorem inside_any (n lo hi : Int) (w : World) :
    Calls Try.prog 56 #[.int .i64 n, .int .i64 lo, .int .i64 hi] w fun e w' => e = .returned (.bool (insB n lo hi)) ∧ w = w' := by
  by_cases h : lo ≤ n
  · go_enter Try.func56, Try.ntmps56
    go_wp2
    go_ret
    exact ⟨by simp [insB, h], rfl⟩
  · have h' : decide (lo ≤ n) = false := by simp; omega
    have HI := hidP (insB_false (hi := hi) |>.2 (fun hc : lo ≤ n ∧ n ≤ hi => h hc.1))
    go_enter Try.func56, Try.ntmps56
    go_wp2
    go_ret
    exact ⟨ret_bool HI.out.symm, rfl⟩
theorem l1In_any (n lo hi : Int) (w : World) :
    Calls Try.prog 47 #[.int .i64 n, .int .i64 lo, .int .i64 hi] w fun e w' => e = .returned (.bool (insB n lo hi)) ∧ w = w' := by
  by_cases h : lo ≤ n
  · go_enter Try.func47, Try.ntmps47
    go_wp2
    go_ret
    exact ⟨by simp [insB, h], rfl⟩
  · have h' : decide (lo ≤ n) = false := by simp; omega
    have HI := hidP (insB_false (hi := hi) |>.2 (fun hc : lo ≤ n ∧ n ≤ hi => h hc.1))
    go_enter Try.func47, Try.ntmps47
    go_wp2
    go_ret
    exact ⟨ret_bool HI.out.symm, rfl⟩
theorem mod_any (n p : Int) (w : World) (hp : 1 ≤ p) (hp2 : p ≤ 1000000) :
    Calls Try.prog 123 #[.int .i64 n, .int .i64 p] w fun e w' => e = .returned (.int .i64 (n % p)) ∧ w = w' := by
  have hb := tmod_pos_bounds n p (by omega)
  have hm : 0 ≤ n.tmod p + p := by omega
  have he : (n.tmod p + p) % p = n % p := by
    rcases Int.lt_or_le (n.tmod p) 0 with h | h
    · rw [emod_of_tmod_neg n p h (by omega), Int.emod_emod]
    · rw [emod_of_tmod_nonneg n p h (by omega), Int.add_emod_right, Int.emod_emod]
  have HE := hidP he
  clear he
  go_enter Try.func123, Try.ntmps123
  go_wp2
  go_ret
  exact ⟨ret_int HE.out, rfl⟩
theorem l1Mod_any (n p : Int) (w : World) (hp : 1 ≤ p) (hp2 : p ≤ 1000000) :
    Calls Try.prog 116 #[.int .i64 n, .int .i64 p] w fun e w' => e = .returned (.int .i64 (n % p)) ∧ w = w' := by
  have hb := tmod_pos_bounds n p (by omega)
  by_cases h : n.tmod p < 0
  · have he := hidP (emod_of_tmod_neg n p h (by omega))
    go_enter Try.func116, Try.ntmps116
    go_wp2
    go_ret
    exact ⟨ret_int he.out, rfl⟩
  · have he := hidP (emod_of_tmod_nonneg n p (by omega) (by omega))
    go_enter Try.func116, Try.ntmps116
    go_wp2
    go_ret
    exact ⟨ret_int he.out, rfl⟩

def primeTo (n : Int) (k : Nat) : Prop := ∀ d : Nat, d < k → 2 ≤ d → n % d ≠ 0
theorem primeTo_two (n : Int) : primeTo n 2 := fun d h1 h2 => by omega
theorem primeTo_succ {n : Int} {k : Nat} (h : primeTo n k) (hk : n % k ≠ 0) : primeTo n (k + 1) := fun d h1 h2 => by
  rcases Nat.lt_succ_iff_lt_or_eq.1 h1 with h3 | rfl
  · exact h d h3 h2
  · exact hk
theorem prime_of_to {n : Int} {k : Nat} (h : primeTo n k) (hk : n < k * k) (h2 : 2 ≤ n) (h3 : n ≤ 10007) : primeB n = true := by
  refine primeB_true.2 ⟨h2, h3, fun d hd1 hd2 hd3 => h d ?_ hd2⟩
  rcases Nat.lt_or_ge d k with h4 | h4
  · exact h4
  · exfalso
    have : k * k ≤ d * d := Nat.mul_le_mul h4 h4
    have : ((k * k : Nat) : Int) ≤ ((d * d : Nat) : Int) := by exact_mod_cast this
    simp only [Int.natCast_mul] at this
    omega
theorem not_prime_of {n : Int} {k : Nat} (hk : n % k = 0) (h2 : 2 ≤ k) (hkk : (k : Int) * k ≤ n) (h3 : n ≤ 10007) : primeB n = false := by
  refine primeB_false.2 fun h => h.2.2 k ?_ h2 hkk hk
  rcases Nat.lt_or_ge k 101 with h4 | h4
  · exact h4
  · exfalso
    have : 101 * 101 ≤ k * k := Nat.mul_le_mul h4 h4
    have : ((101 * 101 : Nat) : Int) ≤ ((k * k : Nat) : Int) := by exact_mod_cast this
    simp only [Int.natCast_mul] at this
    omega

set_option maxHeartbeats 1000000 in
theorem isPrime_any (n : Int) (w : World) :
    Calls Try.prog 55 #[.int .i64 n] w fun e w' => e = .returned (.bool (primeB n)) ∧ w = w' := by
  by_cases hin : 2 ≤ n ∧ n ≤ 10007
  · have hi : insB n 2 10007 = true := insB_true.2 hin
    obtain ⟨hn2, hn7⟩ := hin
    have hto := primeTo_two n
    go_enter Try.func55, Try.ntmps55
    go_wp2_with (go_at_call 56; refine (inside_any _ _ _ _).mono ?_; rintro e w' ⟨rfl, rfl⟩)
    go_loop [3] (fun i => ∃ k : Nat, 2 ≤ k ∧ k ≤ 101 ∧ primeTo n k ∧ i = .int .i64 k) (fun i => 101 - (intOf i).toNat)
    case atStart => exact ⟨2, Nat.le_refl _, by omega, hto, rfl⟩
    case round =>
      clear hto
      obtain ⟨k, hk2, hk, hpt, rfl⟩ := hrel
      have hkk1 : 0 ≤ (k : Int) * k := Int.mul_nonneg (by omega) (by omega)
      have hkk2 : (k : Int) * k ≤ 10201 := by
        have := Nat.mul_le_mul hk hk
        have : ((k * k : Nat) : Int) ≤ ((101 * 101 : Nat) : Int) := by exact_mod_cast this
        simpa using this
      by_cases hlt : (k : Int) * k ≤ n
      · by_cases hd : n % (k : Int) = 0
        · have hb := hidP (not_prime_of hd hk2 hlt hn7)
          have hd' : (n % (k : Int) == 0) = true := by simp [hd]
          clear hd
          go_wp2
          go_ret
          exact ⟨ret_bool hb.out.symm, rfl⟩
        · have hd' : (n % (k : Int) == 0) = false := by simp [hd]
          have hk101 : k < 101 := by
            rcases Nat.lt_or_ge k 101 with h4 | h4
            · exact h4
            · have : k = 101 := by omega
              subst this; omega
          have hs := primeTo_succ hpt hd
          clear hd hpt
          go_wp2
          go_round
          case rel => exact ⟨k + 1, by omega, by omega, hs, by go_num⟩
          case measure => simp [intOf]; omega
      · have hb := hidP (prime_of_to hpt (by omega) hn2 hn7)
        go_wp2
        go_ret
        exact ⟨ret_bool hb.out.symm, rfl⟩
  · have hi : insB n 2 10007 = false := insB_false.2 hin
    have hb : primeB n = false := primeB_false.2 fun h => hin ⟨h.1, h.2.1⟩
    have HB := hidP hb
    clear hin hb
    go_enter Try.func55, Try.ntmps55
    go_wp2_with (go_at_call 56; refine (inside_any _ _ _ _).mono ?_; rintro e w' ⟨rfl, rfl⟩)
    go_ret
    exact ⟨ret_bool HB.out.symm, rfl⟩
set_option maxHeartbeats 1000000 in
theorem sIsPrime_any (n : Int) (w : World) :
    Calls Try.prog 46 #[.int .i64 n] w fun e w' => e = .returned (.bool (primeB n)) ∧ w = w' := by
  by_cases hin : 2 ≤ n ∧ n ≤ 10007
  · have hi : insB n 2 10007 = true := insB_true.2 hin
    obtain ⟨hn2, hn7⟩ := hin
    have hto := primeTo_two n
    have hg1 : decide (n < 2) = false := by simp; omega
    go_enter Try.func46, Try.ntmps46
    go_wp2
    go_loop [3] (fun i => ∃ k : Nat, 2 ≤ k ∧ k ≤ 101 ∧ primeTo n k ∧ i = .int .i64 k) (fun i => 101 - (intOf i).toNat)
    case atStart => exact ⟨2, Nat.le_refl _, by omega, hto, rfl⟩
    case round =>
      clear hto
      obtain ⟨k, hk2, hk, hpt, rfl⟩ := hrel
      have hkk1 : 0 ≤ (k : Int) * k := Int.mul_nonneg (by omega) (by omega)
      have hkk2 : (k : Int) * k ≤ 10201 := by
        have := Nat.mul_le_mul hk hk
        have : ((k * k : Nat) : Int) ≤ ((101 * 101 : Nat) : Int) := by exact_mod_cast this
        simpa using this
      by_cases hlt : (k : Int) * k ≤ n
      · by_cases hd : n % (k : Int) = 0
        · have hb := hidP (not_prime_of hd hk2 hlt hn7)
          have hd' : (n % (k : Int) == 0) = true := by simp [hd]
          clear hd
          go_wp2
          go_ret
          exact ⟨ret_bool hb.out.symm, rfl⟩
        · have hd' : (n % (k : Int) == 0) = false := by simp [hd]
          have hk101 : k < 101 := by
            rcases Nat.lt_or_ge k 101 with h4 | h4
            · exact h4
            · have : k = 101 := by omega
              subst this; omega
          have hs := primeTo_succ hpt hd
          clear hd hpt
          go_wp2
          go_round
          case rel => exact ⟨k + 1, by omega, by omega, hs, by go_num⟩
          case measure => simp [intOf]; omega
      · have hb := hidP (prime_of_to hpt (by omega) hn2 hn7)
        go_wp2
        go_ret
        exact ⟨ret_bool hb.out.symm, rfl⟩
  · have hb : primeB n = false := primeB_false.2 fun h => hin ⟨h.1, h.2.1⟩
    have HB := hidP hb
    clear hb
    by_cases h2 : n < 2
    · clear hin
      go_enter Try.func46, Try.ntmps46
      go_wp2
      go_ret
      exact ⟨ret_bool HB.out.symm, rfl⟩
    · have hg1 : decide (n < 2) = false := by simp; omega
      have hg2 : 10007 < n := by omega
      clear hin
      go_enter Try.func46, Try.ntmps46
      go_wp2
      go_ret
      exact ⟨ret_bool HB.out.symm, rfl⟩
end Go.Proofs.Ytenlhfimdpcaoaa

namespace Go.Proofs.Ytenlhfimdpcaoaa
open Go.RowKit

section
variable {P : Program} {ops : Array Oper} {Q : Exit → Act → World → Prop} {C C' : World → Prop} {n : Nat}

/-- whatever order is picked from here on; behind each operation ahead of place n the world is of the class -/
def anyC (P : Program) (ops : Array Oper) (Q : Exit → Act → World → Prop) (n : Nat) (C : World → Prop) : Nat → Array Bool → Act → World → Prop
  | 0, listed, a, w => Region.ready .any ops listed = [] ∧ Q .normal a w
  | f + 1, listed, a, w => (Region.ready .any ops listed = [] → Q .normal a w) ∧
      ∀ i ∈ Region.ready .any ops listed, wpOp P ops Q i (fun a' w' => (i < n → C w') ∧ anyC P ops Q n C f (listed.setIfInBounds i true) a' w') a w

theorem anyC.out : ∀ (f : Nat) (listed : Array Bool) (a : Act) (w : World), anyC P ops Q n C f listed a w → wpAny P .any ops Q f listed a w
  | 0, _, _, _, h => h
  | f + 1, _, _, _, h => ⟨h.1, fun i hi => wpOp_mono (fun a' w' h' => anyC.out f _ a' w' h'.2) (h.2 i hi)⟩

theorem anyC.imp (hC : ∀ w, C' w → C w) : ∀ (f : Nat) (listed : Array Bool) (a : Act) (w : World), anyC P ops Q n C' f listed a w → anyC P ops Q n C f listed a w
  | 0, _, _, _, h => h
  | f + 1, _, _, _, h => ⟨h.1, fun i hi => wpOp_mono (fun a' w' h' => ⟨fun hn => hC _ (h'.1 hn), anyC.imp hC f _ a' w' h'.2⟩) (h.2 i hi)⟩

/-- no operation of the tail may come up while one of the head has not -/
def TailLast (ops : Array Oper) (n : Nat) : Prop := ∀ (listed : Array Bool), HeadInv .any ops n listed → ∀ i, i < n → listed.getD i true = false → ∀ t, n ≤ t → t ∉ Region.ready .any ops listed

def tailB (ops : Array Oper) (n : Nat) : Bool := decide (n = ops.size) || (decide (n < ops.size) && Region.sinkB .any ops n && Region.chainB .any ops n)
theorem tailB.last (h : tailB ops n = true) : TailLast ops n := by
  intro listed inv i hi hun t ht hr
  simp only [tailB, Bool.or_eq_true, decide_eq_true_eq, Bool.and_eq_true] at h
  rcases h with h | ⟨⟨h1, h2⟩, h3⟩
  · obtain ⟨_, ot, hot, _⟩ := mem_ready.1 hr
    have := (Array.getElem?_eq_some_iff.1 hot).1
    omega
  · exact tail_waits h2 h3 h1 inv _ i rfl hi hun t ht hr

theorem anyC.still_any {i : Nat} {oi : Oper} {v : Value} (hi : ops[i]? = some oi) (hsel : ∀ (j : Nat) (o : Oper) cs b, ops[j]? = some o → o.op ≠ .select cs b)
    (hQ : ∀ c a w, Q (.panic c) (a.put oi.dst v) w → Q (.panic c) a w) (hT : TailLast ops n) (hin : i < n) :
    ∀ (f : Nat) (listed : Array Bool) (a : Act) (w : World), HeadInv .any ops n listed →
      (∀ j oj, ops[j]? = some oj → j ≠ i → listed.getD j true = false → (∀ e ∈ oj.after, Region.binds .any e = true → e.on ≠ i) → oi.apart ops oj = true) →
      i ∈ Region.ready .any ops listed → YieldsIf P ops C oi v a → C w →
      anyC P ops Q n C f (listed.setIfInBounds i true) (a.put oi.dst v) w → anyC P ops Q n C (f + 1) listed a w := by
  intro f
  induction f with
  | zero =>
    intro listed a w inv _ hr hy hS H
    refine ⟨fun h => (by rw [h] at hr; cases hr), fun j hj => ?_⟩
    by_cases hji : j = i
    · subst hji; exact hy.wpOp hi hS ⟨fun _ => hS, H⟩
    · have := ready_mono hj hji
      rw [H.1] at this
      cases this
  | succ f ih =>
    intro listed a w inv hfree hr hy hS H
    have hun := (mem_ready.1 hr).1
    refine ⟨fun h => (by rw [h] at hr; cases hr), fun j hj => ?_⟩
    by_cases hji : j = i
    · subst hji; exact hy.wpOp hi hS ⟨fun _ => hS, H⟩
    · have hjn : j < n := by
        rcases Nat.lt_or_ge j n with h | h
        · exact h
        · exact absurd hj (hT listed inv i hin hun j h)
      have h1 := H.2 j (ready_mono hj hji)
      obtain ⟨hjun, oj, hoj, hall⟩ := mem_ready.1 hj
      have hnot : ∀ e ∈ oj.after, Region.binds .any e = true → e.on ≠ i := fun e he hb heq => by
        have h1 := hall e he hb
        rw [heq, getD_both hun] at h1
        cases h1
      have h2 := wpOp_putIf hoj (hfree j oj hoj hji hjun hnot) (fun cs b => hsel i oi cs b hi) (fun cs b => hsel j oj cs b hoj) hQ hy h1
      have hfree' : ∀ k ok, ops[k]? = some ok → k ≠ i → (listed.setIfInBounds j true).getD k true = false →
          (∀ e ∈ ok.after, Region.binds .any e = true → e.on ≠ i) → oi.apart ops ok = true := fun k ok hk hki hun hno => by
        refine hfree k ok hk hki ?_ hno
        by_cases hjk : j = k
        · subst hjk; exact hjun
        · rw [getD_set_ne true hjk] at hun; exact hun
      refine wpOp_mono (fun a' w' h3 => ⟨fun _ => h3.2.1 hjn, ih (listed.setIfInBounds j true) a' w' (inv.set hj hjn) hfree' (ready_mono hr (Ne.symm hji)) h3.1 (h3.2.1 hjn) ?_⟩) h2
      rw [Array.setIfInBounds_comm _ _ hji]
      exact h3.2.2

/-- the state of a walk: what has come up is closed under the edges, the tail has not come up -/
def WalkC (P : Program) (ops : Array Oper) (Q : Exit → Act → World → Prop) (n : Nat) (C : World → Prop) (f : Nat) (listed : Array Bool) (a : Act) (w : World) : Prop :=
  HeadInv .any ops n listed → anyC P ops Q n C f listed a w

theorem walkC_start {id : Nat} {a : Act} {w : World} (C : World → Prop) (n : Nat) (hm : P.follows .mixedOrders = true)
    (h : WalkC P ops Q n C ops.size (Array.replicate ops.size false) a w.drew) : (Code.region id ops true).wp P Q a w := by
  refine wp_region_any hm (anyC.out (C := C) (n := n) _ _ _ _ (h ⟨by simp, fun j oj _ hl => (by rw [getD_replicate_false] at hl; cases hl), fun t _ ht => getD_in (by simpa using ht) (getD_replicate_false _ _)⟩))

/-- an operation that only reads -/
theorem walkC_still {i : Nat} {oi : Oper} {v : Value} {f : Nat} {listed : Array Bool} {a : Act} {w : World} (hi : ops[i]? = some oi)
    (hb : (Region.noSelect ops && Region.free .any ops listed i && (Region.ready .any ops listed).contains i && tailB ops n && decide (i < n)) = true)
    (hQ : ∀ c a w, Q (.panic c) (a.put oi.dst v) w → Q (.panic c) a w) (hS : C w) (hy : YieldsIf P ops C oi v a)
    (h : WalkC P ops Q n C f (listed.setIfInBounds i true) (a.put oi.dst v) w) : WalkC P ops Q n C (f + 1) listed a w := by
  intro inv
  simp only [Bool.and_eq_true, decide_eq_true_eq] at hb
  obtain ⟨⟨⟨⟨h1, h2⟩, h3⟩, h4⟩, h5⟩ := hb
  exact anyC.still_any hi (Region.noSelect_spec h1) hQ (tailB.last h4) h5 f listed a w inv (Region.free_spec hi h2) (by simpa using h3) hy hS (h (inv.set (by simpa using h3) h5))

/-- the one operation that may come up; the class may become another, narrower one -/
theorem walkC_only {i : Nat} {oi : Oper} (C' : World → Prop) {f : Nat} {listed : Array Bool} {a : Act} {w : World} (hi : ops[i]? = some oi)
    (hb : (decide (Region.ready .any ops listed = [i]) && decide (i < n)) = true) (hw : Region.wanted oi (yielded ops a.tmps) = true) (hC : ∀ w, C' w → C w)
    (h : ∀ K : Act → World → Prop, (∀ a' w', C' w' → WalkC P ops Q n C' f (listed.setIfInBounds i true) a' w' → K a' w') → oi.wp P a w K Q) : WalkC P ops Q n C (f + 1) listed a w := by
  intro inv
  simp only [Bool.and_eq_true, decide_eq_true_eq] at hb
  have hr : i ∈ Region.ready .any ops listed := by rw [hb.1]; simp
  refine ⟨fun h0 => (by rw [hb.1] at h0; cases h0), fun j hj => ?_⟩
  rw [hb.1] at hj
  obtain rfl : j = i := by simpa using hj
  unfold wpOp
  simp only [hi, hw, if_true]
  refine .inl (h _ fun a' w' hc hk => ⟨fun _ => hC _ hc, anyC.imp hC _ _ _ _ (hk (inv.set hr hb.2))⟩)

theorem anyC.of_seq {Q : Exit → Act → World → Prop} : ∀ (l : List Oper) (k : Nat) (listed : Array Bool) (a : Act) (w : World), n ≤ k → (∀ j, l[j]? = ops[k + j]?) →
    Region.seqB .any ops l.length k listed = true → wpList P ops Q l a w → anyC P ops Q n C l.length listed a w
  | [], _, _, _, _, _, _, hB, h => ⟨by simpa [Region.seqB] using hB, h⟩
  | o :: l, k, listed, a, w, hn, hl, hB, h => by
    have h0 : ops[k]? = some o := by simpa using (hl 0).symm
    simp only [List.length_cons, Region.seqB, Bool.and_eq_true, decide_eq_true_eq] at hB
    refine ⟨fun h1 => (by rw [hB.1] at h1; cases h1), fun i hi => ?_⟩
    rw [hB.1] at hi
    have hik : i = k := by simpa using hi
    subst hik
    have hw : wpOp P ops Q i (wpList P ops Q l) a w := by unfold wpOp; simp only [h0]; exact h
    exact wpOp_mono (fun a' w' h' => ⟨fun hlt => by omega, anyC.of_seq l (i + 1) _ a' w' (by omega) (fun j => by have := hl (j + 1); simpa [Nat.add_assoc, Nat.add_comm 1 j] using this) hB.2 h'⟩) hw

/-- the tail, in the text's order -/
theorem walkC_tail {l : List Oper} {f : Nat} {listed : Array Bool} {a : Act} {w : World} (hf : f = (l.drop n).length) (hB : Region.seqB .any l.toArray (l.drop n).length n listed = true)
    (h : wpList P l.toArray Q (l.drop n) a w) : WalkC P l.toArray Q n C f listed a w := by
  intro _
  rw [hf]
  exact anyC.of_seq (l.drop n) n listed a w (Nat.le_refl _) (fun j => by simp [List.getElem?_drop]) hB h

/-- The same walk with a list of what is still to come, for reading the next operation off; the list itself says nothing. -/
def WalkR (P : Program) (ops : Array Oper) (Q : Exit → Act → World → Prop) (n : Nat) (C : World → Prop) (_rem : List (Nat × Oper)) (f : Nat) (listed : Array Bool) (a : Act) (w : World) : Prop :=
  WalkC P ops Q n C f listed a w

def numbered : Nat → List Oper → List (Nat × Oper)
  | _, [] => []
  | k, o :: l => (k, o) :: numbered (k + 1) l

theorem walkR_start {id : Nat} {l : List Oper} {a : Act} {w : World} (C : World → Prop) (n : Nat) (hm : P.follows .mixedOrders = true)
    (h : WalkR P l.toArray Q n C (numbered 0 (l.take n)) l.length (Array.replicate l.length false) a w.drew) : (Code.region id l.toArray true).wp P Q a w :=
  walkC_start C n hm (by simpa [WalkR] using h)

theorem walkR_later {x : Nat × Oper} {rem : List (Nat × Oper)} {f : Nat} {listed : Array Bool} {a : Act} {w : World} (h : WalkR P ops Q n C (rem ++ [x]) f listed a w) : WalkR P ops Q n C (x :: rem) f listed a w := h

theorem walkR_still {i : Nat} {oi : Oper} {v : Value} {rem : List (Nat × Oper)} {f : Nat} {listed : Array Bool} {a : Act} {w : World} (hi : ops[i]? = some oi)
    (hb : (Region.noSelect ops && Region.free .any ops listed i && (Region.ready .any ops listed).contains i && tailB ops n && decide (i < n)) = true)
    (hw : Region.wanted oi (yielded ops a.tmps) = true)
    (hQ : ∀ c a w, Q (.panic c) (a.put oi.dst v) w → Q (.panic c) a w) (hS : C w) (hy : ∀ w', C w' → (execOp a.eval oi).run P w' = .ok (.value v) w')
    (h : WalkR P ops Q n C rem f (listed.setIfInBounds i true) (a.put oi.dst v) w) : WalkR P ops Q n C ((i, oi) :: rem) (f + 1) listed a w :=
  walkC_still hi hb hQ hS (.inl ⟨hw, hy⟩) h

theorem walkR_skip {i : Nat} {oi : Oper} {rem : List (Nat × Oper)} {f : Nat} {listed : Array Bool} {a : Act} {w : World} (hi : ops[i]? = some oi)
    (hb : (Region.noSelect ops && Region.free .any ops listed i && (Region.ready .any ops listed).contains i && tailB ops n && decide (i < n)) = true)
    (hw : Region.wanted oi (yielded ops a.tmps) = false)
    (hQ : ∀ c a w, Q (.panic c) (a.put oi.dst undef) w → Q (.panic c) a w) (hS : C w)
    (h : WalkR P ops Q n C rem f (listed.setIfInBounds i true) (a.put oi.dst undef) w) : WalkR P ops Q n C ((i, oi) :: rem) (f + 1) listed a w :=
  walkC_still hi hb hQ hS (.inr ⟨hw, rfl⟩) h

theorem walkR_only {i : Nat} {oi : Oper} (C' : World → Prop) {rem : List (Nat × Oper)} {f : Nat} {listed : Array Bool} {a : Act} {w : World} (hi : ops[i]? = some oi)
    (hb : (decide (Region.ready .any ops listed = [i]) && decide (i < n)) = true) (hw : Region.wanted oi (yielded ops a.tmps) = true) (hC : ∀ w, C' w → C w)
    (h : ∀ K : Act → World → Prop, (∀ a' w', C' w' → WalkR P ops Q n C' rem f (listed.setIfInBounds i true) a' w' → K a' w') → oi.wp P a w K Q) : WalkR P ops Q n C ((i, oi) :: rem) (f + 1) listed a w :=
  walkC_only C' hi hb hw hC h

theorem walkR_tail {l : List Oper} {f : Nat} {listed : Array Bool} {a : Act} {w : World} (hf : f = (l.drop n).length) (hB : Region.seqB .any l.toArray (l.drop n).length n listed = true)
    (h : wpList P l.toArray Q (l.drop n) a w) : WalkR P l.toArray Q n C [] f listed a w := walkC_tail hf hB h

end
end Go.Proofs.Ytenlhfimdpcaoaa

namespace Go.Proofs.Ytenlhfimdpcaoaa
open Go.RowKit

/-- an algebra's value -/
abbrev algV (p d : Int) (a : Option Addr) (n c : Nat) : Value := .agg #[.int .i64 p, .int .i64 d, .slice a n c]

/-- the three cells of an algebra in a variable of its own -/
structure AlgAt (w : World) (b : Nat) (p d : Int) (a : Option Addr) (n c : Nat) : Prop where
  c0 : w.cell? ⟨b, 0, none⟩ = some (.int .i64 p)
  c1 : w.cell? ⟨b, 1, none⟩ = some (.int .i64 d)
  c2 : w.cell? ⟨b, 2, none⟩ = some (.slice a n c)
theorem AlgAt.below {w w' : World} {b : Nat} {p d : Int} {a : Option Addr} {n c : Nat} (h : AlgAt w b p d a n c) (hb : Ext w w') : AlgAt w' b p d a n c :=
  have hl := World.block_lt_of_cell? w _ h.c0
  ⟨(hb.cell (p := ⟨b, 0, none⟩) hl).trans h.c0, (hb.cell (p := ⟨b, 1, none⟩) hl).trans h.c1, (hb.cell (p := ⟨b, 2, none⟩) hl).trans h.c2⟩
theorem AlgAt.upd {w w' : World} {b : Nat} {p d : Int} {a : Option Addr} {n c : Nat} {a' : Option Addr} {n' : Nat} {ys : List Int} (h : AlgAt w b p d a n c) (hu : UpdI w w' a' n' ys) (hne : ∀ b' o', a' = some ⟨b', o', none⟩ → b ≠ b') : AlgAt w' b p d a n c :=
  have hl := World.block_lt_of_cell? w _ h.c0
  have hh := hu.other b hl fun b' o' e _ => hne b' o' e
  ⟨(World.cell?_of_block (a := ⟨b, 0, none⟩) hh).trans h.c0, (World.cell?_of_block (a := ⟨b, 1, none⟩) hh).trans h.c1, (World.cell?_of_block (a := ⟨b, 2, none⟩) hh).trans h.c2⟩
theorem AlgAt.new (w : World) (b : Nat) (hb : b = w.heap.size) (p d : Int) (a : Option Addr) (n c : Nat) (E : TypeId) : AlgAt (w.alloc (.cells #[.int .i64 p, .int .i64 d, .slice a n c] E)) b p d a n c :=
  ⟨(cell_top _ _ _ _ _ hb).trans rfl, (cell_top _ _ _ _ _ hb).trans rfl, (cell_top _ _ _ _ _ hb).trans rfl⟩

theorem resAlg {w w1 : World} {p0 d0 : Int} {a0 : Option Addr} {n0 c0 : Nat} {E : TypeId} (hx : Ext (w.alloc (.cells #[.int .i64 p0, .int .i64 d0, .slice a0 n0 c0] E)) w1) :
    w1.cell? ⟨w.heap.size, 0, none⟩ = some (.int .i64 p0) ∧ w1.cell? ⟨w.heap.size, 1, none⟩ = some (.int .i64 d0) ∧ w1.cell? ⟨w.heap.size, 2, none⟩ = some (.slice a0 n0 c0) ∧
    w1.frozen? ⟨w.heap.size, 0, none⟩ = false ∧ w1.frozen? ⟨w.heap.size, 1, none⟩ = false ∧ w1.frozen? ⟨w.heap.size, 2, none⟩ = false ∧ w.heap.size < w1.heap.size ∧ Ext w w1 := by
  have h := (AlgAt.new w _ rfl p0 d0 a0 n0 c0 E).below hx
  have hs : w.heap.size < w1.heap.size := by have := hx.size; simp at this; omega
  have hf : ∀ j, w1.frozen? ⟨w.heap.size, j, none⟩ = false := fun j => by
    rw [hx.frozen (p := ⟨w.heap.size, j, none⟩) (by simp)]
    exact frozen_top _ _ _ _ _ rfl
  exact ⟨h.c0, h.c1, h.c2, hf 0, hf 1, hf 2, hs, (Ext.alloc w _).trans hx⟩

set_option maxHeartbeats 1000000 in
theorem eqAlgebra_any (p1 d1 p2 d2 : Int) (a1 a2 : Option Addr) (n1 n2 c1 c2 : Nat) (xs ys : List Int) (w : World) (h1 : IntsAt w a1 n1 xs) (h2 : IntsAt w a2 n2 ys) (hm1 : n1 ≤ 9223372036854775807) (hm2 : n2 ≤ 9223372036854775807) :
    Calls Try.prog 10 #[algV p1 d1 a1 n1 c1, algV p2 d2 a2 n2 c2] w fun e w' => e = .returned (.bool (decide (p1 = p2 ∧ d1 = d2 ∧ xs = ys))) ∧ Ext w w' := by
  by_cases hp : p1 = p2
  · have hp' : (p1 != p2) = false := by simp [hp]
    by_cases hd : d1 = d2
    · have hd' : (d1 != d2) = false := by simp [hd]
      have HR : Hid (decide (p1 = p2 ∧ d1 = d2 ∧ xs = ys) = (xs == ys)) := by
        show _ = _
        by_cases h : xs = ys <;> simp [hp, hd, h]
      have HQ := hidP (fun w' (hx : Ext w w') => eqIntS_any a1 a2 n1 n2 c1 c2 xs ys w' (h1.below hx) (h2.below hx) hm1 hm2)
      clear hp hd h1 h2
      cases hb : (xs == ys)
      all_goals
        rw [hb] at HR
        go_enter Try.func10, Try.ntmps10
        go_wp2_with (go_at_call 30; refine (HQ.out _ ((Ext.alloc w _).trans (Ext.alloc _ _))).mono ?_; rintro e w' ⟨rfl, m, rfl⟩)
        go_ret
        exact ⟨ret_bool HR.out.symm, ((Ext.alloc w _).trans (Ext.alloc _ _)).trans (Ext.drewN _ _)⟩
    · have hd' : (d1 != d2) = true := by simp [hd]
      have HR : Hid (decide (p1 = p2 ∧ d1 = d2 ∧ xs = ys) = false) := by
        show _ = _
        simp [hd]
      clear hp hd
      go_enter Try.func10, Try.ntmps10
      go_wp2
      go_ret
      exact ⟨ret_bool HR.out.symm, (Ext.alloc w _).trans (Ext.alloc _ _)⟩
  · have hp' : (p1 != p2) = true := by simp [hp]
    have HR : Hid (decide (p1 = p2 ∧ d1 = d2 ∧ xs = ys) = false) := by
      show _ = _
      simp [hp]
    clear hp
    go_enter Try.func10, Try.ntmps10
    go_wp2
    go_ret
    exact ⟨ret_bool HR.out.symm, (Ext.alloc w _).trans (Ext.alloc _ _)⟩
theorem markAlgebra_any (p d : Int) (B : Nat) (a : Option Addr) (n c : Nat) (k0 : Int) (xs : List Int) (w : World) (h : OwnI w B a n c xs)
    (hn : n ≤ 1000000000000) (hk0 : -1000000000000 ≤ k0) (hk1 : k0 ≤ 1000000000000) :
    Calls Try.prog 11 #[algV p d a n c, .int .i64 k0] w fun e w' => e = .returned (.int .i64 (k0 + n)) ∧ UpdI w w' a n (upFrom k0 n) := by
  have HQ := hidP (fun w' (hx : Ext w w') => markIntS_any a n c k0 xs w' (h.below hx).ints (h.below hx).unfrozen hn hk0 hk1)
  have H := hidP h
  clear h
  go_enter Try.func11, Try.ntmps11
  go_wp2_with (go_at_call 31; refine (HQ.out _ (Ext.alloc w _)).mono ?_; rintro e w' ⟨rfl, hu⟩)
  go_ret
  exact ⟨rfl, (Ext.alloc w _).upd H.out.ints hu⟩
end Go.Proofs.Ytenlhfimdpcaoaa

namespace Go.Proofs.Ytenlhfimdpcaoaa
open Go.RowKit

end Go.Proofs.Ytenlhfimdpcaoaa

namespace Go.Proofs.Ytenlhfimdpcaoaa
open Go.ChangeShapes Go.WideShapes Go.ChangeAt Go.RowKit Go.Joins Go.Deep

theorem plain_of_cell {w : World} {a : Addr} {v : Value} (h : w.cell? (a.add 0) = some v) : a = ⟨a.block, a.off, none⟩ := by
  unfold Addr.add at h
  simp only [if_true] at h
  unfold World.cell? at h
  split at h
  · split at h
    · cases h
    · rename_i hs
      cases a
      simp at hs
      simp [hs]
  · cases h
theorem add_plain (b o i : Nat) : (⟨b, o, none⟩ : Addr).add i = ⟨b, o + i, none⟩ := by
  unfold Addr.add
  split
  · subst_vars; rfl
  · rfl
section
variable {H : Type} {enc : TypeId × Value → H} {P : Program} {w : World} {base : Nat} {spare : Nat → Bool} {held : Bool}

theorem ints_in {t e : TypeId} {fuel : Nat} {cs : List Value} {x : DataW H × List MemPlace} (ht : P.underlying t = some (.slice e)) (he : P.underlying e = some (.int .i64)) (hc : P.cellsOf e = 1)
    (h : DataW.trod enc P w base spare held fuel t cs = some x) : ∃ ao n c xs, cs = [.slice ao n c] ∧ IntsAt w ao n xs ∧ n ≤ c ∧ n ≤ 9223372036854775807 ∧ (ao = none → c = 0) ∧ ∀ i, i < n → -9223372036854775808 ≤ xs.getD i 0 ∧ xs.getD i 0 ≤ 9223372036854775807 := by
  rcases open_ints ht he hc h with ⟨rfl, _⟩ | ⟨a, len, cap, zs, rfl, _, hl, hm, hz, _, hcell, hwf⟩
  · exact ⟨none, 0, 0, [], rfl, IntsAt.nil _ _, Nat.le_refl _, by omega, fun _ => rfl, fun i h => by omega⟩
  · have hlen : len ≤ zs.length := by rw [hz]; split <;> omega
    refine ⟨some a, len, cap, zs.take len, rfl, ⟨by simp [hlen], fun i hi => ?_⟩, hl, by unfold maxLen at hm; omega, (fun h => by cases h), fun i hi => ?_⟩
    · have h0 := plain_of_cell (hcell 0 (by omega))
      have hi' := hcell i (by omega)
      rw [h0, add_plain] at hi'
      exact ⟨_, _, congrArg some h0, by rw [hi']; simp [List.getD_eq_getElem?_getD, hi]⟩
    · have hmem : (zs.take len).getD i 0 ∈ zs := by
        simp only [List.getD_eq_getElem?_getD, List.getElem?_take, hi, if_true]
        rw [List.getElem?_eq_getElem (by omega)]
        exact List.getElem_mem _
      have := hwf _ hmem
      simpa [Lit.wf, IntKind.min, IntKind.signed, IntKind.bits] using this

/-- an algebra by value -/
theorem alg_in {r : Reach} {b0 : Nat} {t ti : TypeId} {f0 f1 f2 : Field} {v : Value} {d : DataW H} {p : List MemPlace} (hs : P.underlying t = some (.struct #[f0, f1, f2])) (hone : oneCellFields P #[f0, f1, f2] = true) (hC : P.cellsOf t = 3)
    (e0 : P.underlying f0.type = some (.int .i64)) (e1 : P.underlying f1.type = some (.int .i64)) (e2 : P.underlying f2.type = some (.slice ti)) (he : P.underlying ti = some (.int .i64)) (hc : P.cellsOf ti = 1)
    (hv : Value.okWide P w r b0 t v) (h : DataW.Trod enc P w base spare held t v d p) :
    ∃ p d ao n c xs, v = algV p d ao n c ∧ IntsAt w ao n xs ∧ n ≤ c ∧ n ≤ 9223372036854775807 := by
  obtain ⟨v0, v1, v2, y0, y1, y2, n, rfl, _, _, h0, h1, h2⟩ := open_agg3 hs hone hC hv h
  obtain ⟨m0, q0, _⟩ := DataW.trod_int e0 h0
  obtain ⟨m1, q1, _⟩ := DataW.trod_int e1 h1
  obtain ⟨ao, n, c, xs, q2, hi, hn, hn2, _⟩ := ints_in e2 he hc h2
  simp only [List.cons.injEq, and_true] at q0 q1 q2
  subst q0 q1 q2
  exact ⟨m0, m1, ao, n, c, xs, rfl, hi, hn, hn2⟩

end
end Go.Proofs.Ytenlhfimdpcaoaa

namespace Go.Proofs.Ytenlhfimdpcaoaa
open Go.RowKit

/-- the inverse of n modulo p, 0 where there is none -/
def invP (n p : Int) : Int := (((List.range p.toNat).find? fun v : Nat => n * (v : Int) % p == 1).map fun v : Nat => (v : Int)).getD 0

theorem inv_unique {n p u v : Int} (hp : 0 < p) (hu : n * u % p = 1) (hv : n * v % p = 1) (hu0 : 0 ≤ u) (hu1 : u < p) (hv0 : 0 ≤ v) (hv1 : v < p) : u = v := by
  have h1 : (n * u - n * v) % p = 0 := by rw [Int.sub_emod, hu, hv]; simp
  have h2 : p ∣ n * (u - v) := by rw [Int.mul_sub]; exact Int.dvd_of_emod_eq_zero h1
  have h3 : p ∣ v * (n * (u - v)) := Int.dvd_trans h2 (Int.dvd_mul_left _ _)
  have h4 : v * (n * (u - v)) = (n * v) * (u - v) := by rw [← Int.mul_assoc, Int.mul_comm v n]
  rw [h4] at h3
  have h5 : (n * v) * (u - v) % p = (u - v) % p := by rw [Int.mul_emod, hv, Int.one_mul, Int.emod_emod]
  have h6 : (u - v) % p = 0 := by rw [← h5]; exact Int.emod_eq_zero_of_dvd h3
  obtain ⟨k, hk⟩ := Int.dvd_of_emod_eq_zero h6
  have hk0 : k = 0 := by
    rcases Int.lt_trichotomy k 0 with h | h | h
    · have : p * k ≤ p * (-1) := Int.mul_le_mul_of_nonneg_left (by omega) (by omega)
      omega
    · exact h
    · have : p * 1 ≤ p * k := Int.mul_le_mul_of_nonneg_left (by omega) (by omega)
      omega
  rw [hk0] at hk
  omega
theorem invP_spec {n p : Int} (h : ∃ v, 0 ≤ v ∧ v < p ∧ n * v % p = 1) : 0 ≤ invP n p ∧ invP n p < p ∧ n * invP n p % p = 1 := by
  obtain ⟨v, h0, h1, h2⟩ := h
  unfold invP
  cases hf : (List.range p.toNat).find? fun v : Nat => n * (v : Int) % p == 1 with
  | none =>
    rw [List.find?_eq_none] at hf
    have := hf v.toNat (by rw [List.mem_range]; omega)
    rw [Int.toNat_of_nonneg h0] at this
    simp [h2] at this
  | some u =>
    have h3 := List.find?_some hf
    have h4 := List.mem_of_find?_eq_some hf
    rw [List.mem_range] at h4
    simp only [beq_iff_eq] at h3
    exact ⟨by simp, by simp; omega, by simpa using h3⟩
theorem invP_eq {n p v : Int} (h0 : 0 ≤ v) (h1 : v < p) (h2 : n * v % p = 1) : invP n p = v := by
  obtain ⟨a, b, c⟩ := invP_spec ⟨v, h0, h1, h2⟩
  exact inv_unique (by omega) c h2 a b h0 h1

/-- a prime has no divisor but 1 and itself -/
theorem prime_dvd {p : Nat} (hp : primeB p = true) {d : Nat} (hd : d ∣ p) (h2 : 2 ≤ d) : d = p := by
  obtain ⟨hp2, hp7, hpr⟩ := primeB_true.1 hp
  obtain ⟨e, he⟩ := hd
  rcases Nat.lt_or_ge e 2 with h | h
  · rcases Nat.lt_or_ge e 1 with h' | h'
    · have : e = 0 := by omega
      subst this
      simp at he
      omega
    · have : e = 1 := by omega
      subst this
      omega
  · exfalso
    have key : ∀ a b : Nat, p = a * b → 2 ≤ a → 2 ≤ b → a ≤ b → False := by
      intro a b hab ha hb hle
      have h1 : a * a ≤ p := by rw [hab]; exact Nat.mul_le_mul_left _ hle
      have h101 : a < 101 := by
        rcases Nat.lt_or_ge a 101 with h4 | h4
        · exact h4
        · have := Nat.mul_le_mul h4 h4
          omega
      refine hpr a h101 ha ?_ ?_
      · have : ((a * a : Nat) : Int) ≤ (p : Int) := by omega
        simpa using this
      · rw [hab, Int.natCast_mul]
        exact Int.mul_emod_right _ _
    rcases Nat.le_total d e with h3 | h3
    · exact key d e he h2 h h3
    · exact key e d (by rw [he, Nat.mul_comm]) h h2 h3
theorem prime_gcd {p n : Nat} (hp : primeB p = true) (h1 : 1 ≤ n) (hn : n < p) : Nat.gcd n p = 1 := by
  have hd1 := Nat.gcd_dvd_left n p
  have hd2 := Nat.gcd_dvd_right n p
  have hpos : 0 < Nat.gcd n p := Nat.gcd_pos_of_pos_left _ (by omega)
  rcases Nat.lt_or_ge (Nat.gcd n p) 2 with h | h
  · omega
  · have := prime_dvd hp hd2 h
    have := Nat.le_of_dvd (by omega) hd1
    omega

/-- what holds ahead of each step of Euclid -/
structure Eucl (n p : Nat) (a b : Nat) (x y : Int) : Prop where
  gcd : Nat.gcd a b = 1
  a1 : 1 ≤ a
  ap : a ≤ p
  bp : b ≤ p
  ax : (x * n - a) % (p : Int) = 0
  bx : (y * n - b) % (p : Int) = 0
  xp : -(p : Int) ≤ x ∧ x ≤ p
  sg : (0 ≤ x ∧ y ≤ 0 ∧ a * (-y) + b * x = p) ∨ (x ≤ 0 ∧ 0 ≤ y ∧ a * y + b * (-x) = p)
theorem Eucl.start {n p : Nat} (hp : primeB p = true) (h1 : 1 ≤ n) (hn : n < p) : Eucl n p n p 1 0 :=
  ⟨prime_gcd hp h1 hn, h1, by omega, Nat.le_refl _, by simp, by simp, by omega, .inl ⟨by omega, by omega, by simp⟩⟩
theorem Eucl.yp {n p a b : Nat} {x y : Int} (h : Eucl n p a b x y) : -(p : Int) ≤ y ∧ y ≤ p := by
  have ha := h.a1
  rcases h.sg with ⟨hx, hy, e⟩ | ⟨hx, hy, e⟩
  · have h1 : (1 : Int) * (-y) ≤ a * (-y) := Int.mul_le_mul_of_nonneg_right (by omega) (by omega)
    have h2 : 0 ≤ (b : Int) * x := Int.mul_nonneg (by omega) hx
    omega
  · have h1 : (1 : Int) * y ≤ a * y := Int.mul_le_mul_of_nonneg_right (by omega) hy
    have h2 : 0 ≤ (b : Int) * (-x) := Int.mul_nonneg (by omega) (by omega)
    omega
theorem Eucl.bpos {n p a b : Nat} {x y : Int} (h : Eucl n p a b x y) (ha : 1 < a) : 0 < b := by
  rcases Nat.eq_zero_or_pos b with e | e
  · have := h.gcd
    rw [e, Nat.gcd_zero_right] at this
    omega
  · exact e
theorem Eucl.step {n p a b : Nat} {x y : Int} (h : Eucl n p a b x y) (ha : 1 < a) : Eucl n p b (a % b) y (x - (a / b : Nat) * y) := by
  have hb := h.bpos ha
  have hda := Nat.div_add_mod a b
  have hdaI : (b : Int) * ((a / b : Nat) : Int) + ((a % b : Nat) : Int) = a := by exact_mod_cast hda
  refine ⟨?_, hb, h.bp, Nat.le_trans (Nat.le_of_lt (Nat.mod_lt _ hb)) h.bp, h.bx, ?_, h.yp, ?_⟩
  · rw [Nat.gcd_comm, ← Nat.gcd_rec, Nat.gcd_comm]; exact h.gcd
  · have e : (x - ((a / b : Nat) : Int) * y) * n - ((a % b : Nat) : Int) = (x * n - a) - ((a / b : Nat) : Int) * (y * n - b) := by
      have : ((a % b : Nat) : Int) = a - (b : Int) * ((a / b : Nat) : Int) := by omega
      rw [this, Int.sub_mul, Int.mul_sub, Int.mul_assoc, Int.mul_comm ((a / b : Nat) : Int) (b : Int)]
      omega
    rw [e, Int.sub_emod, h.ax, Int.mul_emod, h.bx]
    simp
  · have hq : 0 ≤ ((a / b : Nat) : Int) := Int.natCast_nonneg _
    rcases h.sg with ⟨hx, hy, e⟩ | ⟨hx, hy, e⟩
    · right
      have h1 : ((a / b : Nat) : Int) * y ≤ 0 := Int.mul_nonpos_of_nonneg_of_nonpos hq hy
      refine ⟨hy, by omega, ?_⟩
      rw [← e, ← hdaI, Int.mul_sub, Int.add_mul, Int.mul_neg, Int.mul_neg, Int.mul_assoc]
      omega
    · left
      have h1 : 0 ≤ ((a / b : Nat) : Int) * y := Int.mul_nonneg hq hy
      refine ⟨hy, by omega, ?_⟩
      rw [← e, ← hdaI, Int.neg_sub, Int.mul_sub, Int.add_mul, Int.mul_neg, Int.mul_assoc]
      omega
theorem Eucl.done {n p b : Nat} {x y : Int} (h : Eucl n p 1 b x y) (hp : 2 ≤ p) : invP n p = x % (p : Int) := by
  refine invP_eq (Int.emod_nonneg _ (by omega)) (Int.emod_lt_of_pos _ (by omega)) ?_
  have h1 : x * n % (p : Int) = 1 := by
    have h2 := h.ax
    have e : x * n = (x * n - 1) + 1 := by omega
    rw [e, Int.add_emod]
    simp only [Int.natCast_one] at h2
    rw [h2, Int.zero_add, Int.emod_emod]
    exact Int.emod_eq_of_lt (by omega) (by omega)
  rw [Int.mul_emod, Int.emod_emod, ← Int.mul_emod, Int.mul_comm]
  exact h1

set_option maxHeartbeats 1000000 in
theorem inverse_any (n p : Nat) (w : World) (hp : primeB p = true) (h1 : 1 ≤ n) (hn : n < p) :
    Calls Try.prog 83 #[.int .i64 n, .int .i64 p] w fun e w' => e = .returned (.int .i64 (invP n p)) ∧ Ext w w' := by
  obtain ⟨p2, p7⟩ := prime_bounds hp
  have HS := hidP (Eucl.start hp h1 hn)
  clear hp
  go_enter Try.func83, Try.ntmps83
  go_wp2
  go_loopw [5, 6, 7, 8] (fun va vb vx vy wr => ∃ (a b : Nat) (x y : Int), Hid (Eucl n p a b x y) ∧ va = .int .i64 a ∧ vb = .int .i64 b ∧ vx = .int .i64 x ∧ vy = .int .i64 y ∧ Hid (Ext w wr)) (fun _ vb _ _ _ => (intOf vb).toNat)
  case atStart => exact ⟨n, p, 1, 0, HS, rfl, rfl, rfl, rfl, Ext.refl _⟩
  case round =>
    obtain ⟨a, b, x, y, HE, rfl, rfl, rfl, rfl, HX⟩ := hrel
    have a1 := HE.out.a1
    have ap := HE.out.ap
    have bp := HE.out.bp
    obtain ⟨x0, x1⟩ := HE.out.xp
    obtain ⟨y0, y1⟩ := HE.out.yp
    by_cases ha : 1 < a
    · have hb := HE.out.bpos ha
      have HE1 := hidP (HE.out.step ha)
      have hm : a % b < b := Nat.mod_lt _ hb
      have hbI : ¬ ((b : Int) = 0) := by omega
      have hqI : ((a / b : Nat) : Int) = (a : Int) / (b : Int) := by simp
      have hmI : ((a % b : Nat) : Int) = (a : Int) % (b : Int) := by simp
      have hq0 : 0 ≤ (a : Int) / (b : Int) := by rw [← hqI]; exact Int.natCast_nonneg _
      have hq1 : (a : Int) / (b : Int) ≤ a := by rw [← hqI]; exact Int.ofNat_le.2 (Nat.div_le_self a b)
      have hr0 : 0 ≤ (a : Int) % (b : Int) := by rw [← hmI]; exact Int.natCast_nonneg _
      have hr1 : (a : Int) % (b : Int) < b := by rw [← hmI]; exact Int.ofNat_lt.2 hm
      have hy1 : (a : Int) / (b : Int) * y ≤ 10007 * 10007 := by
        rcases Int.le_total 0 y with h | h
        · exact Int.mul_le_mul (by omega) (by omega) h (by omega)
        · have := Int.mul_nonpos_of_nonneg_of_nonpos hq0 h; omega
      have hy0 : - (10007 * 10007) ≤ (a : Int) / (b : Int) * y := by
        rcases Int.le_total 0 y with h | h
        · have := Int.mul_nonneg hq0 h; omega
        · have : (a : Int) / (b : Int) * (-y) ≤ 10007 * 10007 := Int.mul_le_mul (by omega) (by omega) (by omega) (by omega)
          rw [Int.mul_neg] at this
          omega
      rw [hqI] at HE1
      have et : Int.tmod (a : Int) (b : Int) = (a : Int) % (b : Int) := Int.tmod_eq_emod_of_nonneg (by omega)
      go_wp2
      go_quiet (fail)
      go_wp2
      go_roundw
      case rel => exact ⟨b, a % b, y, _, HE1, rfl, by first | rfl | (rw [hmI]), rfl, rfl, HX.out.trans (Ext.drewN _ _)⟩
      case measure => simp [intOf]; omega
    · obtain rfl : a = 1 := by omega
      have HI := hidP (HE.out.done (by omega))
      go_wp2_with (go_at_call 123; refine (mod_any _ _ _ (by omega) (by omega)).mono ?_; rintro e w' ⟨rfl, rfl⟩)
      go_ret
      exact ⟨ret_int HI.out.symm, HX.out⟩
end Go.Proofs.Ytenlhfimdpcaoaa

namespace Go.Proofs.Ytenlhfimdpcaoaa
open Go.RowKit

/-- the sum of f 0 .. f (n - 1) -/
def sumTo (n : Nat) (f : Nat → Int) : Int :=
  match n with
  | 0 => 0
  | n + 1 => sumTo n f + f n
theorem sumTo_congr {n : Nat} {f g : Nat → Int} (h : ∀ i, i < n → f i = g i) : sumTo n f = sumTo n g := by
  induction n with
  | zero => rfl
  | succ n ih => simp only [sumTo]; rw [ih fun i hi => h i (by omega), h n (by omega)]

/-- the list of the residues of f 0 .. f (n - 1) -/
def modL (p : Int) (n : Nat) (f : Nat → Int) : List Int := (List.range n).map fun m => f m % p
theorem modL_length (p : Int) (n : Nat) (f : Nat → Int) : (modL p n f).length = n := by simp [modL]
theorem modL_get (p : Int) (n : Nat) (f : Nat → Int) (m : Nat) (h : m < n) : (modL p n f).getD m 0 = f m % p := by
  simp [modL, List.getD_eq_getElem?_getD, h]
theorem modL_congr {p : Int} {n : Nat} {f g : Nat → Int} (h : ∀ m, m < n → f m % p = g m % p) : modL p n f = modL p n g := by
  unfold modL
  apply List.map_congr_left
  intro m hm
  exact h m (List.mem_range.1 hm)
theorem modL_zero (p : Int) (n : Nat) : modL p n (fun _ => 0) = List.replicate n 0 := by
  apply List.ext_getElem
  · simp [modL]
  · intro i h1 h2
    simp [modL]

theorem getD_lt (l : List Int) {i : Nat} (h : i < l.length) : l.getD i 0 = l[i] := by simp [h]

/-- residues modulo p -/
def Res (p : Int) (xs : List Int) : Prop := ∀ i, i < xs.length → 0 ≤ xs.getD i 0 ∧ xs.getD i 0 < p
theorem Res.modL {p : Int} (hp : 0 < p) (n : Nat) (f : Nat → Int) : Res p (modL p n f) := by
  intro i hi
  rw [modL_length] at hi
  rw [modL_get p n f i hi]
  exact ⟨Int.emod_nonneg _ (by omega), Int.emod_lt_of_pos _ hp⟩
theorem Res.zeros {p : Int} (hp : 0 < p) (n : Nat) : Res p (List.replicate n 0) := by
  rw [← modL_zero p]
  exact Res.modL hp n _
theorem Res.part {p : Int} {xs : List Int} (h : Res p xs) (i n : Nat) : Res p ((xs.drop i).take n) := by
  intro j hj
  simp at hj
  have := h (i + j) (by omega)
  simpa [List.getD_eq_getElem?_getD, List.getElem?_take, show j < n by omega] using this
/-- a row, and k times another one -/
def addL (p : Int) (xs : List Int) (k : Int) (ys : List Int) : List Int := modL p xs.length fun m => xs.getD m 0 + k * ys.getD m 0
theorem addL_length (p : Int) (xs : List Int) (k : Int) (ys : List Int) : (addL p xs k ys).length = xs.length := modL_length _ _ _
theorem addL_get (p : Int) (xs : List Int) (k : Int) (ys : List Int) (m : Nat) (h : m < xs.length) : (addL p xs k ys).getD m 0 = (xs.getD m 0 + k * ys.getD m 0) % p := modL_get _ _ _ _ h
theorem addL_modL (p : Int) (n : Nat) (f : Nat → Int) (k : Int) (ys : List Int) : addL p (modL p n f) k ys = modL p n fun m => f m + k * ys.getD m 0 := by
  unfold addL
  rw [modL_length]
  apply modL_congr
  intro m hm
  rw [modL_get p n f m hm, Int.emod_add_emod]

/-- the number k of the bracket of basis elements i and j -/
def tab (t : List Int) (d i j m : Nat) : Int := t.getD ((i * d + j) * d + m) 0
/-- the bracket of basis elements i and j -/
def pairL (t : List Int) (d i j : Nat) : List Int := (t.drop ((i * d + j) * d)).take d
theorem nidx_lt {d i j : Nat} (hi : i < d) (hj : j < d) : (i * d + j) * d + d ≤ d * d * d := by
  have h1 : (i + 1) * d ≤ d * d := Nat.mul_le_mul_right d hi
  have h2 : (i * d + j + 1) * d ≤ d * d * d := Nat.mul_le_mul_right d (by rw [Nat.add_mul, Nat.one_mul] at h1; omega)
  rw [Nat.add_mul, Nat.one_mul] at h2
  exact h2
theorem pairL_length {t : List Int} {d i j : Nat} (ht : t.length = d * d * d) (hi : i < d) (hj : j < d) : (pairL t d i j).length = d := by
  have := nidx_lt hi hj
  simp [pairL]
  omega
theorem pairL_get {t : List Int} {d : Nat} (i j m : Nat) (hm : m < d) : (pairL t d i j).getD m 0 = tab t d i j m := by
  simp [pairL, tab, List.getD_eq_getElem?_getD, hm]

/-- the bracket of an element and the basis element j, modulo p -/
def rightL (p : Int) (t : List Int) (d : Nat) (u : List Int) (j : Nat) : List Int := modL p d fun m => sumTo u.length fun i => u.getD i 0 * tab t d i j m
def rightTo (p : Int) (t : List Int) (d : Nat) (u : List Int) (j k : Nat) : List Int := modL p d fun m => sumTo k fun i => u.getD i 0 * tab t d i j m
theorem rightTo_zero (p : Int) (t : List Int) (d : Nat) (u : List Int) (j : Nat) : rightTo p t d u j 0 = List.replicate d 0 := by
  rw [← modL_zero p]
  rfl
theorem rightTo_succ (p : Int) (t : List Int) (d : Nat) (u : List Int) (j k : Nat) : rightTo p t d u j (k + 1) = addL p (rightTo p t d u j k) (u.getD k 0) (pairL t d k j) := by
  unfold rightTo
  rw [addL_modL]
  apply modL_congr
  intro m hm
  simp only [sumTo]
  rw [pairL_get k j m hm]
theorem rightTo_skip (p : Int) (t : List Int) (d : Nat) (u : List Int) (j k : Nat) (h : u.getD k 0 = 0) : rightTo p t d u j (k + 1) = rightTo p t d u j k := by
  unfold rightTo
  apply modL_congr
  intro m _
  simp only [sumTo, h, Int.zero_mul, Int.add_zero]
theorem rightTo_length (p : Int) (t : List Int) (d : Nat) (u : List Int) (j k : Nat) : (rightTo p t d u j k).length = d := modL_length _ _ _

theorem rightTo_res {p : Int} (hp : 0 < p) (t : List Int) (d : Nat) (u : List Int) (j k : Nat) : Res p (rightTo p t d u j k) := Res.modL hp _ _
theorem rightL_res {p : Int} (hp : 0 < p) (t : List Int) (d : Nat) (u : List Int) (j : Nat) : Res p (rightL p t d u j) := Res.modL hp _ _
theorem rightL_length (p : Int) (t : List Int) (d : Nat) (u : List Int) (j : Nat) : (rightL p t d u j).length = d := modL_length _ _ _
theorem pairL_res {p : Int} {t : List Int} (h : Res p t) (d i j : Nat) : Res p (pairL t d i j) := h.part _ _
/-- bounds of residues, place by place -/
theorem Res.bd {p : Int} {xs : List Int} (h : Res p xs) {n : Nat} (hl : xs.length = n) (hp : p ≤ 10007) : ∀ j, j < n → 0 ≤ xs.getD j 0 ∧ xs.getD j 0 ≤ 1000000 :=
  fun j hj => by have := h j (by omega); omega

theorem addL_res {p : Int} (hp : 0 < p) (xs : List Int) (k : Int) (ys : List Int) : Res p (addL p xs k ys) := Res.modL hp _ _

end Go.Proofs.Ytenlhfimdpcaoaa

namespace Go.Proofs.Ytenlhfimdpcaoaa
open Go.RowKit

/-- rows of L residues each -/
structure Rows (p : Int) (L : Nat) (rows : List (List Int)) : Prop where
  len : ∀ i, i < rows.length → (rows.getD i []).length = L
  res : ∀ i, i < rows.length → Res p (rows.getD i [])
theorem Rows.get {p : Int} {L : Nat} {rows : List (List Int)} (h : Rows p L rows) {i j : Nat} (hi : i < rows.length) (hj : j < L) : 0 ≤ (rows.getD i []).getD j 0 ∧ (rows.getD i []).getD j 0 < p :=
  h.res i hi j (by rw [h.len i hi]; exact hj)
theorem getD_setL {β : Type} (l : List β) (i j : Nat) (x d : β) (hi : i < l.length) : (l.set i x).getD j d = if i = j then x else l.getD j d := by
  simp only [List.getD_eq_getElem?_getD, List.getElem?_set]
  by_cases h : i = j
  · subst h; simp [hi]
  · simp [h]
theorem Rows.set {p : Int} {L : Nat} {rows : List (List Int)} (h : Rows p L rows) (i : Nat) {r : List Int} (hl : r.length = L) (hr : Res p r) : Rows p L (rows.set i r) := by
  constructor
  · intro j hj
    rw [List.length_set] at hj
    by_cases e : i < rows.length
    · rw [getD_setL _ _ _ _ _ e]
      split
      · exact hl
      · exact h.len j hj
    · rw [List.set_eq_of_length_le (by omega)]; exact h.len j hj
  · intro j hj
    rw [List.length_set] at hj
    by_cases e : i < rows.length
    · rw [getD_setL _ _ _ _ _ e]
      split
      · exact hr
      · exact h.res j hj
    · rw [List.set_eq_of_length_le (by omega)]; exact h.res j hj
/-- the first row from one on whose number in a column is not 0; how many rows there are if there is none -/
def findRow (rows : List (List Int)) (c at' : Nat) : Nat := at' + (rows.drop at').findIdx fun row => row.getD c 0 != 0
theorem findRow_at {rows : List (List Int)} {c at' r : Nat} (h0 : at' ≤ r) (hr : r < rows.length) (hz : ∀ i, at' ≤ i → i < r → (rows.getD i []).getD c 0 = 0) (hne : (rows.getD r []).getD c 0 ≠ 0) : findRow rows c at' = r := by
  unfold findRow
  have hg : ∀ i, at' + i < rows.length → (rows.drop at')[i]? = some (rows.getD (at' + i) []) := fun i hi => by
    rw [List.getElem?_drop, List.getElem?_eq_getElem hi, List.getD_eq_getElem?_getD, List.getElem?_eq_getElem hi]; rfl
  have hlt : r - at' < (rows.drop at').length := by simp; omega
  have h1 : (rows.drop at').findIdx (fun row => row.getD c 0 != 0) = r - at' := by
    rw [List.findIdx_eq hlt]
    constructor
    · have := hg (r - at') (by omega)
      rw [List.getElem?_eq_getElem hlt, show at' + (r - at') = r by omega] at this
      simp only [Option.some.injEq] at this
      rw [this]
      simpa using hne
    · intro j hj
      have := hg j (by omega)
      rw [List.getElem?_eq_getElem (by omega)] at this
      simp only [Option.some.injEq] at this
      rw [this, hz (at' + j) (by omega) (by omega)]
      rfl
  omega
theorem findRow_none {rows : List (List Int)} {c at' : Nat} (h0 : at' ≤ rows.length) (hz : ∀ i, at' ≤ i → i < rows.length → (rows.getD i []).getD c 0 = 0) : findRow rows c at' = rows.length := by
  unfold findRow
  have h1 : (rows.drop at').findIdx (fun row => row.getD c 0 != 0) = (rows.drop at').length := by
    rw [List.findIdx_eq_length]
    intro x hx
    obtain ⟨i, hi, rfl⟩ := List.mem_iff_getElem.1 hx
    simp at hi
    have hlt : at' + i < rows.length := by omega
    have := hz (at' + i) (by omega) hlt
    have e : rows.getD (at' + i) [] = rows[at' + i] := by simp [List.getD_eq_getElem?_getD, hlt]
    rw [e] at this
    rw [List.getElem_drop, this]
    rfl
  rw [h1]
  simp
  omega

def swapR (rows : List (List Int)) (i j : Nat) : List (List Int) := (rows.set i (rows.getD j [])).set j (rows.getD i [])
theorem swapR_length (rows : List (List Int)) (i j : Nat) : (swapR rows i j).length = rows.length := by simp [swapR]
theorem swapR_get (rows : List (List Int)) (i j q : Nat) (hi : i < rows.length) (hj : j < rows.length) : (swapR rows i j).getD q [] = if j = q then rows.getD i [] else if i = q then rows.getD j [] else rows.getD q [] := by
  unfold swapR
  rw [getD_setL _ _ _ _ _ (by simpa using hj), getD_setL _ _ _ _ _ hi]
theorem Rows.swap {p : Int} {L : Nat} {rows : List (List Int)} (h : Rows p L rows) (i j : Nat) (hi : i < rows.length) (hj : j < rows.length) : Rows p L (swapR rows i j) :=
  (h.set i (h.len j hj) (h.res j hj)).set j (h.len i hi) (h.res i hi)

def scaleR (p k : Int) (row : List Int) : List Int := modL p row.length fun m => row.getD m 0 * k
theorem scaleR_length (p k : Int) (row : List Int) : (scaleR p k row).length = row.length := modL_length _ _ _
theorem scaleR_get (p k : Int) (row : List Int) (m : Nat) (h : m < row.length) : (scaleR p k row).getD m 0 = row.getD m 0 * k % p := modL_get _ _ _ _ h

/-- the rows ahead of m cleared in column c by the row at -/
def clearTo (p : Int) (c at' : Nat) (rows : List (List Int)) : Nat → List (List Int)
  | 0 => rows
  | m + 1 =>
    let R := clearTo p c at' rows m
    if m ≠ at' ∧ (R.getD m []).getD c 0 ≠ 0 then R.set m (addL p (R.getD m []) (p - (R.getD m []).getD c 0) (R.getD at' [])) else R
theorem clearTo_length (p : Int) (c at' : Nat) (rows : List (List Int)) (m : Nat) : (clearTo p c at' rows m).length = rows.length := by
  induction m with
  | zero => rfl
  | succ m ih => simp only [clearTo]; split <;> simp [ih]
theorem clearTo_rows {p : Int} (hp : 0 < p) {L : Nat} {rows : List (List Int)} (h : Rows p L rows) (c at' m : Nat) (hm : m ≤ rows.length) : Rows p L (clearTo p c at' rows m) := by
  induction m with
  | zero => exact h
  | succ m ih =>
    have h1 := ih (by omega)
    simp only [clearTo]
    split
    · exact h1.set m (by rw [addL_length]; exact h1.len m (by rw [clearTo_length]; omega)) (addL_res hp _ _ _)
    · exact h1

/-- one column: the rows and the pivots behind it -/
def redStep (p : Int) (c : Nat) (st : List (List Int) × List Int) : List (List Int) × List Int :=
  let r := findRow st.1 c st.2.length
  if r < st.1.length then
    let R1 := swapR st.1 r st.2.length
    let R2 := R1.set st.2.length (scaleR p (invP ((R1.getD st.2.length []).getD c 0) p) (R1.getD st.2.length []))
    (clearTo p c st.2.length R2 R2.length, st.2 ++ [(c : Int)])
  else st
/-- the first k columns -/
def redTo (p : Int) (rows : List (List Int)) : Nat → List (List Int) × List Int
  | 0 => (rows, [])
  | k + 1 => redStep p k (redTo p rows k)
structure RedOk (p : Int) (L n k : Nat) (st : List (List Int) × List Int) : Prop where
  rows : Rows p L st.1
  len : st.1.length = n
  pn : st.2.length ≤ n
  pk : st.2.length ≤ k
  pv : ∀ i, i < st.2.length → 0 ≤ st.2.getD i 0 ∧ st.2.getD i 0 < k
theorem findRow_ge (rows : List (List Int)) (c at' : Nat) : at' ≤ findRow rows c at' := Nat.le_add_right _ _
theorem RedOk.start {p : Int} {L : Nat} {rows : List (List Int)} (h : Rows p L rows) : RedOk p L rows.length 0 (rows, []) := ⟨h, rfl, by simp, by simp, fun i h => by simp at h⟩
theorem RedOk.step {p : Int} (hp : 0 < p) {L n k : Nat} {st : List (List Int) × List Int} (h : RedOk p L n k st) : RedOk p L n (k + 1) (redStep p k st) := by
  have hge := findRow_ge st.1 k st.2.length
  unfold redStep
  simp only
  split
  · rename_i hlt
    have hln := h.len
    have h1 := h.rows.swap (findRow st.1 k st.2.length) st.2.length hlt (by omega)
    have hl1 : (swapR st.1 (findRow st.1 k st.2.length) st.2.length).length = st.1.length := swapR_length _ _ _
    have h2 := h1.set st.2.length (r := scaleR p (invP (((swapR st.1 (findRow st.1 k st.2.length) st.2.length).getD st.2.length []).getD k 0) p) ((swapR st.1 (findRow st.1 k st.2.length) st.2.length).getD st.2.length []))
      (by rw [scaleR_length]; exact h1.len _ (by omega)) (Res.modL hp _ _)
    refine ⟨clearTo_rows hp h2 _ _ _ (Nat.le_refl _), by rw [clearTo_length, List.length_set, hl1, hln], by simp; omega, by have := h.pk; simp; omega, fun i hi => ?_⟩
    simp only [List.length_append, List.length_cons, List.length_nil] at hi
    rcases Nat.lt_succ_iff_lt_or_eq.1 hi with h3 | rfl
    · have := h.pv i h3
      simp only [List.getD_eq_getElem?_getD, List.getElem?_append_left h3] at this ⊢
      omega
    · simp [List.getD_eq_getElem?_getD]; omega
  · exact ⟨h.rows, h.len, h.pn, by have := h.pk; omega, fun i hi => by have := h.pv i hi; omega⟩
theorem redTo_ok {p : Int} (hp : 0 < p) {L : Nat} {rows : List (List Int)} (h : Rows p L rows) (k : Nat) : RedOk p L rows.length k (redTo p rows k) := by
  induction k with
  | zero => exact RedOk.start h
  | succ k ih => exact ih.step hp
end Go.Proofs.Ytenlhfimdpcaoaa

namespace Go.Proofs.Ytenlhfimdpcaoaa
open Go.RowKit

/-- the place of the first number that a test lets by, -1 if there is none -/
def idxFrom (f : Int → Bool) (k : Nat) : List Int → Int
  | [] => -1
  | x :: l => if f x then k else idxFrom f (k + 1) l
def idxL (f : Int → Bool) (l : List Int) : Int := idxFrom f 0 l
theorem idxFrom_none (f : Int → Bool) (k : Nat) (l : List Int) (h : ∀ j, j < l.length → f (l.getD j 0) = false) : idxFrom f k l = -1 := by
  induction l generalizing k with
  | nil => rfl
  | cons x l ih =>
    have h0 := h 0 (by simp)
    simp only [List.getD_cons_zero] at h0
    simp only [idxFrom, h0, Bool.false_eq_true, if_false]
    exact ih (k + 1) fun j hj => by have := h (j + 1) (by simpa using hj); simpa using this
theorem idxFrom_at (f : Int → Bool) (k : Nat) (l : List Int) (i : Nat) (hi : i < l.length) (h : ∀ j, j < i → f (l.getD j 0) = false) (ht : f (l.getD i 0) = true) : idxFrom f k l = ((k + i : Nat) : Int) := by
  induction l generalizing k i with
  | nil => simp at hi
  | cons x l ih =>
    cases i with
    | zero =>
      simp only [List.getD_cons_zero] at ht
      simp [idxFrom, ht]
    | succ i =>
      have h0 := h 0 (by omega)
      simp only [List.getD_cons_zero] at h0
      simp only [idxFrom, h0, Bool.false_eq_true, if_false]
      rw [ih (k + 1) i (by simpa using hi) (fun j hj => by have := h (j + 1) (by omega); simpa using this) (by simpa using ht)]
      congr 1
      omega
theorem idxL_none {f : Int → Bool} {l : List Int} (h : ∀ j, j < l.length → f (l.getD j 0) = false) : idxL f l = -1 := idxFrom_none f 0 l h
theorem idxL_at {f : Int → Bool} {l : List Int} {i : Nat} (hi : i < l.length) (h : ∀ j, j < i → f (l.getD j 0) = false) (ht : f (l.getD i 0) = true) : idxL f l = (i : Int) := by
  have := idxFrom_at f 0 l i hi h ht
  simpa [idxL] using this
theorem any_of {f : Int → Bool} {l : List Int} : l.any f = true ↔ ∃ j, j < l.length ∧ f (l.getD j 0) = true := by
  rw [List.any_eq_true]
  constructor
  · rintro ⟨x, hx, hf⟩
    obtain ⟨j, hj, rfl⟩ := List.mem_iff_getElem.1 hx
    exact ⟨j, hj, by rw [getD_lt _ hj]; exact hf⟩
  · rintro ⟨j, hj, hf⟩
    rw [getD_lt _ hj] at hf
    exact ⟨_, List.getElem_mem hj, hf⟩
theorem idxL_any (f : Int → Bool) (l : List Int) : decide (0 ≤ idxL f l) = l.any f := by
  by_cases h : l.any f = true
  · obtain ⟨j, hj, hf⟩ := any_of.1 h
    obtain ⟨i, hi⟩ : ∃ i, i = (l.findIdx f) := ⟨_, rfl⟩
    have h1 : i < l.length := by rw [hi]; exact List.findIdx_lt_length_of_exists ⟨l[j], List.getElem_mem hj, by rw [← getD_lt _ hj]; exact hf⟩
    have h2 : f (l.getD i 0) = true := by rw [getD_lt _ h1]; subst hi; exact List.findIdx_getElem
    have h3 : ∀ k, k < i → f (l.getD k 0) = false := fun k hk => by
      rw [getD_lt _ (by omega)]
      subst hi
      simpa using List.not_of_lt_findIdx hk
    rw [idxL_at h1 h3 h2, h]
    simp
  · have h' : l.any f = false := by simpa using h
    rw [h', idxL_none fun j hj => by
      cases hb : f (l.getD j 0)
      · rfl
      · exact absurd (any_of.2 ⟨j, hj, hb⟩) h]
    decide

set_option maxRecDepth 100000 in
set_option maxHeartbeats 1000000 in
theorem indexFunc_any (F : FuncId) (caps : Array Value) (f : Int → Bool) (a : Option Addr) (n c : Nat) (xs : List Int) (w : World) (h : IntsAt w a n xs) (hn : n ≤ 1000000000000)
    (hF : ∀ (args : Array Value) (w : World), Sem.run Try.prog (callFunc F args) w = .ok (.enter F args) w)
    (hf : ∀ x, Calls Try.prog F (#[.int .i64 x] ++ caps) w fun e w' => e = .returned (.bool (f x)) ∧ w = w') :
    Calls Try.prog 155 #[.slice a n c, .func (.func F) #[] caps] w fun e w' => e = .returned (.int .i64 (idxL f xs)) ∧ w = w' := by
  have G := hidP h.get
  have L := hidP h.len
  have HF := hidP hf
  clear h hf
  go_enter Try.func155, Try.ntmps155
  go_wp2
  go_loop [8] (fun i => ∃ k : Nat, k ≤ n ∧ Hid (∀ j, j < k → f (xs.getD j 0) = false) ∧ i = .int .i64 k) (fun i => n - (intOf i).toNat)
  case atStart => exact ⟨0, Nat.zero_le _, fun j h => by omega, rfl⟩
  case round =>
    obtain ⟨k, hk, HJ, rfl⟩ := hrel
    by_cases hlt : k < n
    · obtain ⟨b, o, rfl, q⟩ := G.out k hlt
      by_cases ht : f (xs.getD k 0) = true
      · have HI := hidP (idxL_at (by have := L.out; omega) HJ.out ht)
        have HT := hidP ht
        clear ht
        go_wp2_with fail
        refine (HF.out _).mono ?_
        rintro e w' ⟨rfl, rfl⟩
        have ht : f (xs[k]?.getD 0) = true := HT.out
        go_wp2
        go_ret
        exact ⟨ret_int HI.out.symm, rfl⟩
      · have ht' : f (xs.getD k 0) = false := by simpa using ht
        have HT := hidP ht'
        clear ht ht'
        go_wp2_with fail
        refine (HF.out _).mono ?_
        rintro e w' ⟨rfl, rfl⟩
        have ht : f (xs[k]?.getD 0) = false := HT.out
        go_wp2
        go_round
        case rel =>
          refine ⟨k + 1, by omega, fun j hj => ?_, by go_num⟩
          rcases Nat.lt_succ_iff_lt_or_eq.1 hj with h3 | rfl
          · exact HJ.out j h3
          · exact HT.out
        case measure => simp [intOf]; omega
    · have HI := hidP (idxL_none (f := f) (l := xs) fun j hj => HJ.out j (by have := L.out; omega))
      go_wp2
      go_ret
      exact ⟨ret_int HI.out.symm, rfl⟩

set_option maxHeartbeats 1000000 in
theorem containsFunc_any (F : FuncId) (caps : Array Value) (f : Int → Bool) (a : Option Addr) (n c : Nat) (xs : List Int) (w : World) (h : IntsAt w a n xs) (hn : n ≤ 1000000000000)
    (hF : ∀ (args : Array Value) (w : World), Sem.run Try.prog (callFunc F args) w = .ok (.enter F args) w)
    (hf : ∀ x, Calls Try.prog F (#[.int .i64 x] ++ caps) w fun e w' => e = .returned (.bool (f x)) ∧ w = w') :
    Calls Try.prog 125 #[.slice a n c, .func (.func F) #[] caps] w fun e w' => e = .returned (.bool (xs.any f)) ∧ w = w' := by
  have H := hidP (indexFunc_any F caps f a n c xs w h hn hF hf)
  have HA := hidP (idxL_any f xs)
  clear h hf hF
  go_enter Try.func125, Try.ntmps125
  go_wp2_with (go_at_call 155; refine H.out.mono ?_; rintro e w' ⟨rfl, rfl⟩)
  go_ret
  exact ⟨ret_bool HA.out, rfl⟩
end Go.Proofs.Ytenlhfimdpcaoaa

namespace Go.Proofs.Ytenlhfimdpcaoaa
open Go.RowKit

theorem OwnI.nil_cap {w : World} {B : Nat} {a : Option Addr} {n c : Nat} {xs : List Int} (h : OwnI w B a n c xs) : a = none → c = 0 := by
  intro e
  subst e
  rcases h.row.2 with ⟨he, _⟩ | ⟨g, cap, cur, he, _⟩
  · simp at he
    exact he.2
  · simp at he

theorem add_none (b o j : Nat) : (⟨b, o, none⟩ : Addr).add j = ⟨b, o + j, none⟩ := by
  unfold Addr.add
  split
  · subst_vars; rfl
  · rfl

theorem own_of_row {w : World} {B n : Nat} {v : Value} {xs : List Int} (h : w.ownsRow B 3 1 v n (ivs xs)) : ∃ a c, v = .slice a n c ∧ OwnI w B a n c xs := by
  rcases h.2 with ⟨he, h0⟩ | ⟨g, cap, cur, he, _⟩
  · subst h0
    exact ⟨none, 0, he, ⟨he ▸ h⟩⟩
  · exact ⟨_, _, he, ⟨he ▸ h⟩⟩

theorem wpList_append_ints {ops : Array Oper} {rest : List Oper} {o : Oper} {a : Act} {Q : Exit → Act → World → Prop} {w : World} (hgd : o.guard = none) (s x : Operand)
    (ho : o.op = .call { callee := .builtin .append, args := #[s, x], argTypes := #[22, 22] })
    (B : Nat) (av : Option Addr) (nv cv : Nat) (xs : List Int) (hs : a.eval s = .slice av nv cv) (hown : OwnI w B av nv cv xs)
    (ax : Option Addr) (m c : Nat) (ys : List Int) (hx : a.eval x = .slice ax m c) (hys : IntsAt w ax m ys) (hnil : ax = none → c = 0) (hsm : nv + m ≤ 1000000000000) (hB : B ≤ w.heap.size)
    (h : ∀ a' c' w', OwnI w' B a' (nv + m) c' (xs ++ ys) → w.grownBy w' (Value.slice av nv cv).ownBlock → wpList Try.prog ops Q rest (a.put o.dst (.slice a' (nv + m) c')) w') : wpList Try.prog ops Q (o :: rest) a w := by
  obtain ⟨i, hi, hz0, hz1, hz2⟩ := info_parts Try.info3
  cases ax with
  | none =>
    have hc := hnil rfl
    subst hc
    have hm : m = 0 := by
      rcases Nat.eq_zero_or_pos m with h0 | h0
      · exact h0
      · obtain ⟨_, _, e, _⟩ := hys.get 0 h0
        cases e
    subst hm
    have hy : ys = [] := List.eq_nil_of_length_eq_zero hys.len
    subst hy
    refine wpList_append_own_none hgd s x 22 ho B 3 i 1 Try.underlying22 hi _ nv (ivs xs) hs hown.row hx ?_
    have := h av cv w (by simpa using hown) ⟨rfl, rfl, rfl, Nat.le_refl _, fun _ _ _ => rfl⟩
    simpa using this
  | some ad =>
    have hl := hys.len
    refine wpList_append_own w hgd s x 22 ho B 3 i (.int .i64 0) 1 8 Try.underlying22 hi hz0 hz1 hz2 rfl (by decide) _ nv (ivs xs) hs hown.row ad m c (ivs ys) hx (by simp [ivs_length, hl]) ?_ (ivs_one ys) (by unfold maxLen; omega) (by omega) hB ?_
    · intro j u hu
      obtain ⟨hj, rfl⟩ := ivs_get_inv hu
      obtain ⟨b, o', e, hc⟩ := hys.get j (by omega)
      simp only [Option.some.injEq] at e
      subst e
      rw [add_none]
      exact hc
    · intro v' w' hr hg _
      rw [show ivs xs ++ ivs ys = ivs (xs ++ ys) by simp [ivs]] at hr
      obtain ⟨a', c', rfl, ho'⟩ := own_of_row hr
      exact h a' c' w' ho' hg

theorem wp_append_ints {o : Oper} {a : Act} {K : Act → World → Prop} {Q : Exit → Act → World → Prop} {w : World} (s x : Operand)
    (ho : o.op = .call { callee := .builtin .append, args := #[s, x], argTypes := #[22, 22] })
    (B : Nat) (av : Option Addr) (nv cv : Nat) (xs : List Int) (hs : a.eval s = .slice av nv cv) (hown : OwnI w B av nv cv xs)
    (ad : Addr) (m c : Nat) (ys : List Int) (hx : a.eval x = .slice (some ad) m c) (hys : IntsAt w (some ad) m ys) (hsm : nv + m ≤ 1000000000000) (hB : B ≤ w.heap.size)
    (h : ∀ a' c' w', OwnI w' B a' (nv + m) c' (xs ++ ys) → w.grownBy w' (Value.slice av nv cv).ownBlock → K (a.put o.dst (.slice a' (nv + m) c')) w') : o.wp Try.prog a w K Q := by
  obtain ⟨i, hi, hz0, hz1, hz2⟩ := info_parts Try.info3
  have hl := hys.len
  refine wp_append_own w s x 22 ho B 3 i (.int .i64 0) 1 8 Try.underlying22 hi hz0 hz1 hz2 rfl (by decide) _ nv (ivs xs) hs hown.row ad m c (ivs ys) hx (by simp [ivs_length, hl]) ?_ (ivs_one ys) (by unfold maxLen; omega) (by omega) hB ?_
  · intro j u hu
    obtain ⟨hj, rfl⟩ := ivs_get_inv hu
    obtain ⟨b, o', e, hc⟩ := hys.get j (by omega)
    simp only [Option.some.injEq] at e
    subst e
    rw [add_none]
    exact hc
  · intro v' w' hr hg _
    rw [show ivs xs ++ ivs ys = ivs (xs ++ ys) by simp [ivs]] at hr
    obtain ⟨a', c', rfl, ho'⟩ := own_of_row hr
    exact h a' c' w' ho' hg

theorem grown_ext {w w' : World} {B : Nat} {a : Option Addr} {n c : Nat} (h : w.grownBy w' (Value.slice a n c).ownBlock) {w0 : World} (hb : Below B w0 w) (hB : B ≤ w.heap.size) (ha : ∀ p, a = some p → B ≤ p.block) : Below B w0 w' := by
  refine Below.grown hb h hB fun k hk => ?_
  cases a with
  | none => simp [Value.ownBlock] at hk
  | some p =>
    simp [Value.ownBlock] at hk
    subst hk
    exact ha p rfl
theorem OwnI.addr_base {w : World} {B : Nat} {a : Option Addr} {n c : Nat} {xs : List Int} (h : OwnI w B a n c xs) : ∀ p, a = some p → B ≤ p.block := by
  intro p e
  subst e
  rcases h.row.2 with ⟨he, _⟩ | ⟨g, cap, cur, he, hB, _⟩
  · simp at he
  · simp only [Value.slice.injEq, Option.some.injEq] at he
    obtain ⟨rfl, _⟩ := he
    exact hB

set_option maxHeartbeats 1000000 in
theorem clone_any (a : Option Addr) (n c : Nat) (xs : List Int) (w : World) (h : IntsAt w a n xs) (hnil : a = none → c = 0) (hn : n ≤ 1000000000000) :
    Calls Try.prog 64 #[.slice a n c] w fun e w' => ∃ a' c', e = .returned (.slice a' n c') ∧ OwnI w' w.heap.size a' n c' xs ∧ Ext w w' := by
  have kn := fun (w : World) => Lib.run_eql_slice_nil (P := Try.prog) w 22 3 a n c 0 0 Try.underlying22
  cases a with
  | none =>
    have hc := hnil rfl
    subst hc
    have hm : n = 0 := by
      rcases Nat.eq_zero_or_pos n with h0 | h0
      · exact h0
      · obtain ⟨_, _, e, _⟩ := h.get 0 h0
        cases e
    subst hm
    have hy : xs = [] := List.eq_nil_of_length_eq_zero h.len
    subst hy
    clear h hnil
    go_enter Try.func64, Try.ntmps64
    go_wp2
    go_ret
    exact ⟨_, _, rfl, OwnI.nil _ _, Ext.refl _⟩
  | some p =>
    have H := hidP (h.below (Ext.alloc w (.cells #[] 3)))
    have hm := OwnI.made w w.heap.size 0 (Nat.le_refl _) (by unfold maxLen; omega)
    rw [show Array.replicate 0 (Value.int .i64 0) = #[] from rfl] at hm
    have HM := hidP hm
    clear h hnil hm
    go_enter Try.func64, Try.ntmps64
    go_wp2_with (at_builtin; refine wpList_append_ints rfl (.tmp 5) (.tmp 6) rfl w.heap.size (some ⟨w.heap.size, 0, none⟩) 0 0 [] rfl HM.out (some p) n c xs rfl H.out (fun e => by cases e) (by omega) (by simp) ?_; intro a' c' w' ho hg)
    go_ret
    rw [Nat.zero_add, List.nil_append] at ho
    exact ⟨_, _, rfl, ho, grown_ext hg (Ext.alloc w _) (by simp) (fun q e => by cases e; exact Nat.le_refl _)⟩
end Go.Proofs.Ytenlhfimdpcaoaa

namespace Go.Proofs.Ytenlhfimdpcaoaa
open Go.RowKit

def Apart (a a' : Option Addr) : Prop := ∀ b o b' o', a = some ⟨b, o, none⟩ → a' = some ⟨b', o', none⟩ → b ≠ b'
theorem Apart.symm {a a' : Option Addr} (h : Apart a a') : Apart a' a := fun b o b' o' e e' => (h b' o' b o e' e).symm

/-- a kind of elements: the type's number, how many cells, the integers that its slice holds, its cells where the slice lies at an address with a capacity -/
structure Knd (α : Type) where
  E : TypeId
  size : Nat
  dft : α
  ints : α → List Int
  put : α → List Int → α
  cells : Option Addr → Nat → α → List Value
  len : ∀ a c x, (cells a c x).length = size
  pos : 0 < size
  ne : E ≠ 3
  put_ints : ∀ x ys, ints (put x ys) = ys
  put_cells : ∀ a c x ys, ys.length = (ints x).length → cells a c (put x ys) = cells a c x
  one : ∀ a c x, ∀ u ∈ cells a c x, u.oneCell' = true

abbrev Hdr := Option Addr × Nat

variable {α : Type}
def Knd.all (K : Knd α) : List Hdr → List α → List Value
  | h :: hs, x :: xs => K.cells h.1 h.2 x ++ K.all hs xs
  | _, _ => []
theorem Knd.all_length (K : Knd α) (hs : List Hdr) (xs : List α) (h : hs.length = xs.length) : (K.all hs xs).length = xs.length * K.size := by
  induction hs generalizing xs with
  | nil => cases xs <;> simp_all [Knd.all]
  | cons a hs ih =>
    cases xs with
    | nil => simp at h
    | cons x xs =>
      simp only [Knd.all, List.length_append, K.len, List.length_cons]
      rw [ih xs (by simpa using h), Nat.add_mul, Nat.one_mul, Nat.add_comm]
theorem Knd.all_get (K : Knd α) (hs : List Hdr) (xs : List α) (h : hs.length = xs.length) (i j : Nat) (hi : i < xs.length) (hj : j < K.size) :
    (K.all hs xs)[i * K.size + j]? = (K.cells (hs.getD i (none, 0)).1 (hs.getD i (none, 0)).2 (xs.getD i K.dft))[j]? := by
  induction hs generalizing xs i with
  | nil => cases xs <;> simp_all
  | cons a hs ih =>
    cases xs with
    | nil => simp at h
    | cons x xs =>
      cases i with
      | zero =>
        simp only [Knd.all, Nat.zero_mul, Nat.zero_add, List.getD_cons_zero]
        rw [List.getElem?_append_left (by rw [K.len]; exact hj)]
      | succ i =>
        simp only [Knd.all, List.getD_cons_succ]
        rw [List.getElem?_append_right (by rw [K.len, Nat.add_mul]; omega), K.len, Nat.add_mul, Nat.one_mul, show i * K.size + K.size + j - K.size = i * K.size + j by omega]
        exact ih xs (by simpa using h) i (by simpa using hi)
theorem Knd.all_set (K : Knd α) (hs : List Hdr) (xs : List α) (h : hs.length = xs.length) (i j : Nat) (hi : i < xs.length) (hj : j < K.size) (v : Value) (h' : Hdr) (x' : α)
    (he : K.cells h'.1 h'.2 x' = (K.cells (hs.getD i (none, 0)).1 (hs.getD i (none, 0)).2 (xs.getD i K.dft)).set j v) :
    (K.all hs xs).set (i * K.size + j) v = K.all (hs.set i h') (xs.set i x') := by
  induction hs generalizing xs i with
  | nil => cases xs <;> simp_all
  | cons a hs ih =>
    cases xs with
    | nil => simp at h
    | cons x xs =>
      cases i with
      | zero =>
        simp only [List.getD_cons_zero] at he
        simp only [Knd.all, Nat.zero_mul, Nat.zero_add, List.set_cons_zero]
        rw [List.set_append_left _ _ (by rw [K.len]; exact hj), he]
      | succ i =>
        simp only [List.getD_cons_succ] at he
        simp only [Knd.all, List.set_cons_succ]
        rw [List.set_append_right _ _ (by rw [K.len, Nat.add_mul]; omega), K.len, Nat.add_mul, Nat.one_mul, show i * K.size + K.size + j - K.size = i * K.size + j by omega]
        rw [ih xs (by simpa using h) i (by simpa using hi) he]
theorem Knd.all_snoc (K : Knd α) (hs : List Hdr) (xs : List α) (h : hs.length = xs.length) (a : Hdr) (x : α) : K.all (hs ++ [a]) (xs ++ [x]) = K.all hs xs ++ K.cells a.1 a.2 x := by
  induction hs generalizing xs with
  | nil => cases xs <;> simp_all [Knd.all]
  | cons a hs ih =>
    cases xs with
    | nil => simp at h
    | cons x xs => simp only [Knd.all, List.cons_append, List.append_assoc]; rw [ih xs (by simpa using h)]
theorem Knd.all_take (K : Knd α) (hs : List Hdr) (xs : List α) (h : hs.length = xs.length) (m : Nat) : K.all (hs.take m) (xs.take m) = (K.all hs xs).take (m * K.size) := by
  induction hs generalizing xs m with
  | nil => cases xs <;> simp_all [Knd.all]
  | cons a hs ih =>
    cases xs with
    | nil => simp at h
    | cons x xs =>
      cases m with
      | zero => simp [Knd.all]
      | succ m =>
        simp only [Knd.all, List.take_succ_cons]
        have hm : m * K.size + K.size - K.size = m * K.size := by omega
        rw [ih xs (by simpa using h), List.take_append, K.len, Nat.add_mul, Nat.one_mul, hm, List.take_of_length_le (l := K.cells _ _ _) (by rw [K.len]; omega)]
theorem Knd.all_one (K : Knd α) (hs : List Hdr) (xs : List α) : ∀ u ∈ K.all hs xs, u.oneCell' = true := by
  induction hs generalizing xs with
  | nil => cases xs <;> simp [Knd.all]
  | cons a hs ih =>
    cases xs with
    | nil => simp [Knd.all]
    | cons x xs =>
      intro u hu
      simp only [Knd.all, List.mem_append] at hu
      rcases hu with hu | hu
      · exact K.one _ _ _ u hu
      · exact ih xs u hu

/-- an owned slice of elements whose slices of integers are owned, too, all in blocks of their own from B on and below U -/
structure OwnK (K : Knd α) (w : World) (B U : Nat) (a : Option Addr) (n c : Nat) (hs : List Hdr) (xs : List α) : Prop where
  row : w.ownsRow B K.E K.size (.slice a n c) n (K.all hs xs)
  hl : hs.length = n
  xl : xs.length = n
  each : ∀ i, i < n → OwnI w B (hs.getD i (none, 0)).1 (K.ints (xs.getD i K.dft)).length (hs.getD i (none, 0)).2 (K.ints (xs.getD i K.dft))
  apart : ∀ i j, i < n → j < n → i ≠ j → Apart (hs.getD i (none, 0)).1 (hs.getD j (none, 0)).1
  lt : ∀ i, i < n → ∀ b o, (hs.getD i (none, 0)).1 = some ⟨b, o, none⟩ → b < U
  olt : ∀ b o, a = some ⟨b, o, none⟩ → b < U

theorem OwnI.block {w : World} {B : Nat} {a : Option Addr} {n c : Nat} {xs : List Int} (h : OwnI w B a n c xs) {b o : Nat} (e : a = some ⟨b, o, none⟩) : ∃ cur, w.heap[b]? = some (.cells cur 3 (0, 0)) := by
  rcases h.row.2 with ⟨he, _⟩ | ⟨g, cap, cur, he, _, hg, _⟩
  · simp [e] at he
  · simp only [Value.slice.injEq] at he
    rw [e] at he
    simp only [Option.some.injEq, Addr.mk.injEq, and_true] at he
    obtain ⟨⟨rfl, _⟩, _⟩ := he
    exact ⟨_, hg⟩

namespace OwnK
variable {K : Knd α} {w w' : World} {B U : Nat} {a : Option Addr} {n c : Nat} {hs : List Hdr} {xs : List α}

theorem form (h : OwnK K w B U a n c hs xs) : (a = none ∧ n = 0 ∧ c = 0) ∨ ∃ g cur, a = some ⟨g, 0, none⟩ ∧ B ≤ g ∧ g < w.heap.size ∧ w.heap[g]? = some (.cells cur K.E (0, 0)) ∧ n ≤ c ∧ c ≤ maxLen := by
  rcases h.row.2 with ⟨he, h0⟩ | ⟨g, cap, cur, he, hB, hg, hnc, hcm, _⟩
  · simp only [Value.slice.injEq] at he
    exact .inl ⟨he.1, h0, he.2.2⟩
  · simp only [Value.slice.injEq, true_and] at he
    obtain ⟨rfl, rfl⟩ := he
    exact .inr ⟨g, cur, rfl, hB, (Array.getElem?_eq_some_iff.1 hg).1, hg, hnc, hcm⟩
theorem base_lt (h : OwnK K w B U a n c hs xs) : ∀ b o, a = some ⟨b, o, none⟩ → B ≤ b ∧ b < w.heap.size := by
  intro b o e
  rcases h.form with ⟨rfl, _⟩ | ⟨g, cur, rfl, hB, hl, _⟩
  · cases e
  · simp only [Option.some.injEq, Addr.mk.injEq, and_true] at e
    obtain ⟨rfl, _⟩ := e
    exact ⟨hB, hl⟩
theorem far (h : OwnK K w B U a n c hs xs) (i : Nat) (hi : i < n) : Apart a (hs.getD i (none, 0)).1 := by
  intro b o b' o' e e' hb
  subst hb
  obtain ⟨cur', hg'⟩ := (h.each i hi).block e'
  rcases h.form with ⟨rfl, _⟩ | ⟨g, cur, rfl, _, _, hg, _⟩
  · cases e
  · simp only [Option.some.injEq, Addr.mk.injEq, and_true] at e
    obtain ⟨rfl, _⟩ := e
    rw [hg] at hg'
    simp only [Option.some.injEq, Obj.cells.injEq] at hg'
    exact K.ne hg'.2.1
theorem cell (h : OwnK K w B U a n c hs xs) (i j : Nat) (hi : i < n) (hj : j < K.size) : ∃ g, a = some ⟨g, 0, none⟩ ∧
    w.cell? ⟨g, i * K.size + j, none⟩ = (K.cells (hs.getD i (none, 0)).1 (hs.getD i (none, 0)).2 (xs.getD i K.dft))[j]? ∧ w.frozen? ⟨g, i * K.size + j, none⟩ = false := by
  rcases h.form with ⟨_, h0, _⟩ | ⟨g, cur, rfl, _, _, _, _⟩
  · omega
  · have hll : i * K.size + j < n * K.size := by
      have : (i + 1) * K.size ≤ n * K.size := Nat.mul_le_mul_right _ hi
      rw [Nat.add_mul] at this
      omega
    refine ⟨g, rfl, ?_, h.row.frozenAt _⟩
    rw [h.row.cellAt _ hll, K.all_get hs xs (h.hl.trans h.xl.symm) i j (by rw [h.xl]; exact hi) hj]
theorem kept (h : OwnK K w B U a n c hs xs) {row : Option Nat} (hg : w.grownBy w' row) (ho : ∀ b o, a = some ⟨b, o, none⟩ → some b ≠ row) (hi : ∀ i, i < n → ∀ b o, (hs.getD i (none, 0)).1 = some ⟨b, o, none⟩ → some b ≠ row) : OwnK K w' B U a n c hs xs := by
  refine ⟨h.row.kept hg ?_, h.hl, h.xl, fun i hin => (h.each i hin).grown hg fun g o e => hi i hin g o e, h.apart, h.lt, h.olt⟩
  rcases h.form with ⟨rfl, _⟩ | ⟨g, cur, rfl, _⟩
  · exact .inl rfl
  · exact .inr (ho g 0 rfl)
theorem below (h : OwnK K w B U a n c hs xs) (hb : Ext w w') : OwnK K w' B U a n c hs xs :=
  h.kept (row := none) ⟨hb.os, hb.tape, hb.output, hb.size, fun k hk _ => hb.block k hk⟩ (by simp) (by simp)
theorem weaken (h : OwnK K w B U a n c hs xs) {B' U' : Nat} (hB : B' ≤ B) (hU : U ≤ U') : OwnK K w B' U' a n c hs xs := by
  refine ⟨⟨h.row.1, ?_⟩, h.hl, h.xl, fun i hi => (h.each i hi).base hB, h.apart, fun i hi b o e => Nat.lt_of_lt_of_le (h.lt i hi b o e) hU, fun b o e => Nat.lt_of_lt_of_le (h.olt b o e) hU⟩
  rcases h.row.2 with h2 | ⟨g, cap, cur, he, hB', r⟩
  · exact .inl h2
  · exact .inr ⟨g, cap, cur, he, Nat.le_trans hB hB', r⟩
theorem getD_set {β : Type} (l : List β) (i j : Nat) (x d : β) (hi : i < l.length) : (l.set i x).getD j d = if i = j then x else l.getD j d := by
  simp only [List.getD_eq_getElem?_getD, List.getElem?_set]
  by_cases h : i = j
  · subst h; simp [hi]
  · simp [h]
/-- one element's integers are changed -/
theorem upd (h : OwnK K w B U a n c hs xs) (i : Nat) (hi : i < n) {ys : List Int} (hu : UpdI w w' (hs.getD i (none, 0)).1 (K.ints (xs.getD i K.dft)).length ys) : OwnK K w' B U a n c hs (xs.set i (K.put (xs.getD i K.dft) ys)) := by
  have hlen := hu.len
  have hcl : K.all hs (xs.set i (K.put (xs.getD i K.dft) ys)) = K.all hs xs := by
    have hx := h.xl
    apply List.ext_getElem?
    intro q
    by_cases hq : q < n * K.size
    · obtain ⟨i', j, rfl, hi', hj⟩ : ∃ i' j, q = i' * K.size + j ∧ i' < n ∧ j < K.size :=
        ⟨q / K.size, q % K.size, by rw [Nat.mul_comm]; exact (Nat.div_add_mod q K.size).symm, by rw [Nat.div_lt_iff_lt_mul K.pos]; exact hq, Nat.mod_lt _ K.pos⟩
      rw [K.all_get hs _ (by rw [h.hl, List.length_set, h.xl]) i' j (by rw [List.length_set, h.xl]; exact hi') hj, K.all_get hs xs (by rw [h.hl, h.xl]) i' j (by rw [h.xl]; exact hi') hj]
      rw [getD_set _ _ _ _ _ (by rw [h.xl]; exact hi)]
      by_cases e : i = i'
      · subst e
        rw [if_pos rfl, K.put_cells _ _ _ _ hlen]
      · rw [if_neg e]
    · rw [List.getElem?_eq_none (by rw [K.all_length _ _ (by rw [h.hl, List.length_set, h.xl]), List.length_set, h.xl]; omega), List.getElem?_eq_none (by rw [K.all_length _ _ (by rw [h.hl, h.xl]), h.xl]; omega)]
  have hk := hu.grownBy
  refine ⟨?_, h.hl, by rw [List.length_set, h.xl], fun j hj => ?_, h.apart, h.lt, h.olt⟩
  · rw [hcl]
    refine h.row.kept hk ?_
    rcases h.form with ⟨rfl, _⟩ | ⟨g, cur, rfl, _⟩
    · exact .inl rfl
    · right
      cases hb : addrBlock (hs.getD i (none, 0)).1 with
      | none => simp [Value.ownBlock]
      | some b' =>
        obtain ⟨o', e'⟩ := addrBlock_some hb
        have := h.far i hi g 0 b' o' rfl e'
        simp only [Value.ownBlock, ne_eq, Option.some.injEq]
        omega
  · rw [getD_set _ _ _ _ _ (by rw [h.xl]; exact hi)]
    by_cases e : i = j
    · subst e
      rw [if_pos rfl, K.put_ints, hlen]
      exact hu.own (h.each i hi)
    · rw [if_neg e]
      exact (h.each j hj).others hu (h.apart i j hi hj e)
/-- the outer slice's cells are changed, so that its elements come from elsewhere in it -/
theorem shuffled (h : OwnK K w B U a n c hs xs) {hs' : List Hdr} {xs' : List α} {g : Nat} (e : a = some ⟨g, 0, none⟩) (hr : w'.ownsRow B K.E K.size (.slice a n c) n (K.all hs' xs')) (hg : w.grownBy w' (some g))
    (hl' : hs'.length = n) (xl' : xs'.length = n) (σ : Nat → Nat) (hσ : ∀ i, i < n → σ i < n) (hinj : ∀ i j, i < n → j < n → σ i = σ j → i = j)
    (hh : ∀ i, i < n → hs'.getD i (none, 0) = hs.getD (σ i) (none, 0)) (hx : ∀ i, i < n → K.ints (xs'.getD i K.dft) = K.ints (xs.getD (σ i) K.dft)) : OwnK K w' B U a n c hs' xs' := by
  refine ⟨hr, hl', xl', fun i hi => ?_, fun i j hi hj hne => ?_, fun i hi b o e => ?_, h.olt⟩
  · rw [hh i hi, hx i hi]
    exact (h.each _ (hσ i hi)).grown hg fun b o e' => by
      have := h.far _ (hσ i hi) g 0 b o e e'
      simp only [ne_eq, Option.some.injEq]
      omega
  · rw [hh i hi, hh j hj]
    exact h.apart _ _ (hσ i hi) (hσ j hj) fun e => hne (hinj i j hi hj e)
  · rw [hh i hi] at e
    exact h.lt _ (hσ i hi) b o e
/-- the first elements -/
theorem take (h : OwnK K w B U a n c hs xs) (m : Nat) (hm : m ≤ n) : OwnK K w B U a m c (hs.take m) (xs.take m) := by
  have hlx := h.hl.trans h.xl.symm
  have gd : ∀ {β : Type} (l : List β) (i : Nat) (d : β), i < m → (l.take m).getD i d = l.getD i d := fun l i d hi => by simp [List.getD_eq_getElem?_getD, hi]
  refine ⟨⟨?_, ?_⟩, by simp [h.hl, hm], by simp [h.xl, hm], fun i hi => ?_, fun i j hi hj => ?_, fun i hi => ?_, h.olt⟩
  · rw [K.all_length _ _ (by simp [hlx])]; simp [h.xl, hm]
  · rcases h.row.2 with ⟨he, h0⟩ | ⟨g, cap, cur, he, hB, hg, hnc, hcm, hcs, ht⟩
    · simp only [Value.slice.injEq] at he
      obtain ⟨rfl, _, rfl⟩ := he
      have : m = 0 := by omega
      subst this
      exact .inl ⟨rfl, rfl⟩
    · simp only [Value.slice.injEq, true_and] at he
      obtain ⟨rfl, rfl⟩ := he
      refine .inr ⟨g, c, cur, rfl, hB, hg, by omega, hcm, hcs, ?_⟩
      rw [K.all_take hs xs hlx, ← ht, List.take_take, Nat.min_eq_left (Nat.mul_le_mul_right _ hm)]
  · rw [gd _ _ _ hi, gd _ _ _ hi]; exact h.each i (by omega)
  · rw [gd _ _ _ hi, gd _ _ _ hj]; exact h.apart i j (by omega) (by omega)
  · rw [gd _ _ _ hi]; exact h.lt i (by omega)
end OwnK

/-- append of one element, whose cells lie in a new block, to an owned slice of such -/
theorem wpList_append_elem {ops : Array Oper} {rest : List Oper} {o : Oper} {av : Act} {Q : Exit → Act → World → Prop} {w : World} (K : Knd α) (T : TypeId) (z : Value) (bytes : Nat) (hgd : o.guard = none) (s x : Operand)
    (ho : o.op = .call { callee := .builtin .append, args := #[s, x], argTypes := #[T, T] }) (hT : Try.prog.underlying T = some (.slice K.E)) (hinfo : (Try.prog.info? K.E).map (fun i => (i.zero, i.size, i.bytes)) = some (some z, K.size, bytes))
    (hz : z.cells.size = K.size) (hbp : bytes ≤ 1000)
    (B U : Nat) (a : Option Addr) (n c : Nat) (hs : List Hdr) (xs : List α) (hsv : av.eval s = .slice a n c) (hown : OwnK K w B U a n c hs xs)
    (g m : Nat) (h1 : Hdr) (x1 : α) (hx : av.eval x = .slice (some ⟨g, 0, none⟩) 1 m) (hcl : ∀ j, j < K.size → w.cell? ⟨g, j, none⟩ = (K.cells h1.1 h1.2 x1)[j]?)
    (hi1 : OwnI w B h1.1 (K.ints x1).length h1.2 (K.ints x1)) (hap : ∀ i, i < n → Apart (hs.getD i (none, 0)).1 h1.1) (hfar : Apart a h1.1) (hsm : n ≤ 1000000000) (hB : B ≤ w.heap.size)
    (h : ∀ a' c' w', OwnK K w' B w'.heap.size a' (n + 1) c' (hs ++ [h1]) (xs ++ [x1]) → w.grownBy w' (Value.slice a n c).ownBlock → wpList Try.prog ops Q rest (av.put o.dst (.slice a' (n + 1) c')) w') : wpList Try.prog ops Q (o :: rest) av w := by
  obtain ⟨i, hi, hz0, hz1, hz2⟩ := info_parts hinfo
  refine wpList_append_own w hgd s x T ho B K.E i z K.size bytes hT hi hz0 hz1 hz2 hz K.pos _ n (K.all hs xs) hsv hown.row ⟨g, 0, none⟩ 1 m (K.cells h1.1 h1.2 x1) hx (by rw [K.len, Nat.one_mul]) ?_ (K.one _ _ _) (by unfold maxLen; omega)
    (by calc (n + 1) * bytes ≤ 1000000001 * 1000 := Nat.mul_le_mul (by omega) hbp
          _ ≤ _ := by omega) hB ?_
  · intro j u hu
    have hj : j < K.size := by have := (List.getElem?_eq_some_iff.1 hu).1; rwa [K.len] at this
    rw [add_none, Nat.zero_add, hcl j hj]
    exact hu
  · intro v' w' hr hg hnil
    rw [← K.all_snoc hs xs (hown.hl.trans hown.xl.symm)] at hr
    obtain ⟨a', c', rfl⟩ : ∃ a' c', v' = .slice a' (n + 1) c' := by
      rcases hr.2 with ⟨_, h0⟩ | ⟨g', cap, cur, he, _⟩
      · omega
      · exact ⟨_, _, he⟩
    refine h a' c' w' ?_ hg
    have hxl := hown.xl
    have hhl := hown.hl
    have gd : ∀ {β : Type} (l : List β) (i : Nat) (x d : β), i < l.length → (l ++ [x]).getD i d = l.getD i d := fun l i x d hi => by simp [List.getD_eq_getElem?_getD, List.getElem?_append_left hi]
    have gl : ∀ {β : Type} (l : List β) (x d : β), (l ++ [x]).getD l.length d = x := fun l x d => by simp [List.getD_eq_getElem?_getD]
    have hne : ∀ q, q < n → ∀ b o, (hs.getD q (none, 0)).1 = some ⟨b, o, none⟩ → some b ≠ (Value.slice a n c).ownBlock := fun q hq b o e => by
      rcases hown.form with ⟨rfl, _⟩ | ⟨g', cur, rfl, _⟩
      · simp [Value.ownBlock]
      · have := hown.far q hq g' 0 b o rfl e
        simp only [Value.ownBlock, ne_eq, Option.some.injEq]
        omega
    have hne1 : ∀ b o, h1.1 = some ⟨b, o, none⟩ → some b ≠ (Value.slice a n c).ownBlock := fun b o e => by
      rcases hown.form with ⟨rfl, _⟩ | ⟨g', cur, rfl, _⟩
      · simp [Value.ownBlock]
      · have := hfar g' 0 b o rfl e
        simp only [Value.ownBlock, ne_eq, Option.some.injEq]
        omega
    have hev : ∀ q, q < n + 1 → OwnI w' B ((hs ++ [h1]).getD q (none, 0)).1 (K.ints ((xs ++ [x1]).getD q K.dft)).length ((hs ++ [h1]).getD q (none, 0)).2 (K.ints ((xs ++ [x1]).getD q K.dft)) := fun q hq => by
      rcases Nat.lt_succ_iff_lt_or_eq.1 hq with h3 | rfl
      · rw [gd _ _ _ _ (by omega), gd _ _ _ _ (by omega)]
        exact (hown.each q h3).grown hg fun b o e => hne q h3 b o e
      · have e1 : (hs ++ [h1]).getD q (none, 0) = h1 := by rw [← hhl]; exact gl _ _ _
        have e2 : (xs ++ [x1]).getD q K.dft = x1 := by rw [← hxl]; exact gl _ _ _
        rw [e1, e2]
        exact hi1.grown hg fun b o e => hne1 b o e
    refine ⟨hr, by simp [hhl], by simp [hxl], hev, fun q r hq hr' hqr => ?_, fun q hq b o e => ((hev q hq).at_base b o e).2, fun b o e => ?_⟩
    · rcases Nat.lt_succ_iff_lt_or_eq.1 hq with h3 | rfl
      · rw [gd hs q _ _ (by omega)]
        rcases Nat.lt_succ_iff_lt_or_eq.1 hr' with h4 | rfl
        · rw [gd hs r _ _ (by omega)]; exact hown.apart q r h3 h4 hqr
        · have e1 : (hs ++ [h1]).getD r (none, 0) = h1 := by rw [← hhl]; exact gl _ _ _
          rw [e1]; exact hap q h3
      · have e1 : (hs ++ [h1]).getD q (none, 0) = h1 := by rw [← hhl]; exact gl _ _ _
        rw [e1, gd hs r _ _ (by omega)]
        exact (hap r (by omega)).symm
    · rcases hr.2 with ⟨_, h0⟩ | ⟨g', cap, cur, he, _, hg', _⟩
      · omega
      · simp only [Value.slice.injEq] at he
        rw [e] at he
        simp only [Option.some.injEq, Addr.mk.injEq, and_true] at he
        obtain ⟨⟨rfl, _⟩, _⟩ := he
        exact (Array.getElem?_eq_some_iff.1 hg').1

/-- rows of integers -/
def rowK : Knd (List Int) where
  E := 22
  size := 1
  dft := []
  ints := id
  put := fun _ ys => ys
  cells := fun a c x => [.slice a x.length c]
  len := fun _ _ _ => rfl
  pos := by decide
  ne := by decide
  put_ints := fun _ _ => rfl
  put_cells := fun a c x ys h => by simp only [id] at h; rw [h]
  one := fun a c x u hu => by simp only [List.mem_singleton] at hu; subst hu; rfl
end Go.Proofs.Ytenlhfimdpcaoaa

namespace Go.Proofs.Ytenlhfimdpcaoaa
open Go.RowKit

def resB (p : Int) (xs : List Int) : Bool := !xs.any fun n => !insB n 0 (p - 1)
theorem resB_true {p : Int} {xs : List Int} : resB p xs = true ↔ Res p xs := by
  unfold resB Res
  rw [Bool.not_eq_true', Bool.eq_false_iff, ne_eq, any_of]
  constructor
  · intro h i hi
    have : insB (xs.getD i 0) 0 (p - 1) = true := by
      cases hb : insB (xs.getD i 0) 0 (p - 1)
      · exact absurd ⟨i, hi, by rw [hb]; rfl⟩ h
      · rfl
    rw [insB_true] at this
    omega
  · rintro h ⟨i, hi, hf⟩
    have := h i hi
    have h2 : insB (xs.getD i 0) 0 (p - 1) = true := insB_true.2 (by omega)
    rw [h2] at hf
    cases hf
def zeroB (xs : List Int) : Bool := !xs.any fun n => n != 0
theorem zeroB_true {xs : List Int} : zeroB xs = true ↔ ∀ i, i < xs.length → xs.getD i 0 = 0 := by
  unfold zeroB
  rw [Bool.not_eq_true', Bool.eq_false_iff, ne_eq, any_of]
  constructor
  · intro h i hi
    cases hb : (xs.getD i 0 != 0)
    · simpa using hb
    · exact absurd ⟨i, hi, hb⟩ h
  · rintro h ⟨i, hi, hf⟩
    rw [h i hi] at hf
    cases hf

theorem residues1_any (x p : Int) (b : Nat) (w : World) (hb : w.cell? ⟨b, 0, none⟩ = some (.int .i64 p)) (hp : -1000000 ≤ p) (hp2 : p ≤ 1000000000000) :
    Calls Try.prog 126 #[.int .i64 x, .pointer (some ⟨b, 0, none⟩)] w fun e w' => e = .returned (.bool (!insB x 0 (p - 1))) ∧ w = w' := by
  go_enter Try.func126, Try.ntmps126
  go_wp2_with (go_at_call 56; refine (inside_any _ _ _ _).mono ?_; rintro e w' ⟨rfl, rfl⟩)
  go_ret
  exact ⟨rfl, rfl⟩
theorem callFunc_residues1 (args : Array Value) (w : World) : Sem.run Try.prog (callFunc 126 args) w = .ok (.enter 126 args) w := by
  kernel_rfl

set_option maxHeartbeats 1000000 in
theorem residues_any (a : Option Addr) (n c : Nat) (xs : List Int) (p : Int) (w : World) (h : IntsAt w a n xs) (hn : n ≤ 1000000000000) (hp : -1000000 ≤ p) (hp2 : p ≤ 1000000000000) :
    Calls Try.prog 62 #[.slice a n c, .int .i64 p] w fun e w' => e = .returned (.bool (resB p xs)) ∧ Ext w w' := by
  have hb : (w.alloc (.cells #[.int .i64 p] 3)).cell? ⟨w.heap.size, 0, none⟩ = some (.int .i64 p) := (cell_top _ _ _ _ _ rfl).trans rfl
  have H := hidP (containsFunc_any 126 #[.pointer (some ⟨w.heap.size, 0, none⟩)] (fun x => !insB x 0 (p - 1)) a n c xs _ (h.below (Ext.alloc w (.cells #[.int .i64 p] 3))) hn callFunc_residues1 (fun x => residues1_any x p w.heap.size _ hb hp hp2))
  clear h hb
  go_enter Try.func62, Try.ntmps62
  go_wp2_with (go_at_call 125; refine H.out.mono ?_; rintro e w' ⟨rfl, rfl⟩)
  go_ret
  exact ⟨rfl, Ext.alloc _ _⟩
theorem isZero1_any (x : Int) (w : World) : Calls Try.prog 127 #[.int .i64 x] w fun e w' => e = .returned (.bool (x != 0)) ∧ w = w' := by
  go_enter Try.func127, Try.ntmps127
  go_wp2
  go_ret
  exact ⟨rfl, rfl⟩
theorem callFunc_isZero1 (args : Array Value) (w : World) : Sem.run Try.prog (callFunc 127 args) w = .ok (.enter 127 args) w := by
  kernel_rfl
theorem isZero_any (a : Option Addr) (n c : Nat) (xs : List Int) (w : World) (h : IntsAt w a n xs) (hn : n ≤ 1000000000000) :
    Calls Try.prog 67 #[.slice a n c] w fun e w' => e = .returned (.bool (zeroB xs)) ∧ w = w' := by
  have H := hidP (containsFunc_any 127 #[] (fun x => x != 0) a n c xs _ h hn callFunc_isZero1 (fun x => isZero1_any x _))
  clear h
  go_enter Try.func67, Try.ntmps67
  go_wp2_with (go_at_call 125; refine H.out.mono ?_; rintro e w' ⟨rfl, rfl⟩)
  go_ret
  exact ⟨rfl, rfl⟩

set_option maxHeartbeats 1000000 in
theorem addTo_any (a a' : Option Addr) (n c c' : Nat) (xs ys : List Int) (k p : Int) (w : World) (h : IntsAt w a n xs) (h' : IntsAt w a' n ys) (hf : ∀ i b o, i < n → a = some ⟨b, o, none⟩ → w.frozen? ⟨b, o + i, none⟩ = false)
    (hne : ∀ b o b' o', a = some ⟨b, o, none⟩ → a' = some ⟨b', o', none⟩ → b ≠ b') (hn : n ≤ 1000000000000)
    (hx : ∀ j, j < n → 0 ≤ xs.getD j 0 ∧ xs.getD j 0 ≤ 1000000) (hy : ∀ j, j < n → 0 ≤ ys.getD j 0 ∧ ys.getD j 0 ≤ 1000000) (hk0 : 0 ≤ k) (hk1 : k ≤ 1000000) (hp0 : 1 ≤ p) (hp1 : p ≤ 1000000) :
    Calls Try.prog 66 #[.slice a n c, .int .i64 k, .slice a' n c', .int .i64 p] w fun e w' => e = .returned (.tuple #[]) ∧ UpdI w w' a n (addL p xs k ys) := by
  have hst := UpdI.start h
  have HG := hidP h'
  have HR := hidP h
  have L := hidP h.len
  have LA := hidP (addL_length p xs k ys)
  have HF := hidP hf
  have HST := hidP hst
  have HNE := hidP hne
  have HX := hidP hx
  have HY := hidP hy
  clear h h' hf hst hne hx hy
  go_enter Try.func66, Try.ntmps66
  go_wp2
  go_loopw [12] (fun i wr => ∃ j : Nat, j ≤ n ∧ Hid (UpdI w wr a n (partly xs (addL p xs k ys) j)) ∧ i = .int .i64 j) (fun i _ => n - (intOf i).toNat)
  case atStart => exact ⟨0, Nat.zero_le _, by rw [partly_zero]; exact HST, rfl⟩
  case round =>
    obtain ⟨j, hj, HU, rfl⟩ := hrel
    by_cases hlt : j < n
    · obtain ⟨b, o, rfl, _⟩ := HR.out.get j hlt
      obtain ⟨b', o', rfl, q'⟩ := (HU.out.others HG.out HNE.out).get j hlt
      obtain ⟨q, hfz⟩ := HU.out.cellInt j hlt
      rw [partly_get _ _ j n hlt L.out (LA.out.trans L.out)] at q
      have hz : wr.frozen? ⟨b, o + j, none⟩ = false := hfz.trans (HF.out j b o hlt rfl)
      obtain ⟨x0, x1⟩ := HX.out j hlt
      obtain ⟨y0, y1⟩ := HY.out j hlt
      have hs := HU.out.store j hlt ((xs.getD j 0 + k * ys.getD j 0) % p)
      rw [← addL_get p xs k ys j (by have := L.out; omega), partly_succ xs _ n j hlt L.out (LA.out.trans L.out)] at hs
      have hg := addL_get p xs k ys j (by have := L.out; omega)
      generalize xs.getD j 0 = x at *
      generalize ys.getD j 0 = y at *
      have hm0 : 0 ≤ k * y := Int.mul_nonneg hk0 y0
      have hm1 : k * y ≤ 1000000000000 := by
        have := Int.mul_le_mul hk1 y1 y0 (by omega : (0 : Int) ≤ 1000000)
        omega
      have HS := hidP hs
      have HE := hidP hg
      clear hs hfz hg
      go_wp2
      go_roundw
      case rel =>
        refine ⟨j + 1, by omega, ?_, by go_num⟩
        have := HS.out
        rw [HE.out] at this
        exact this
      case measure => simp [intOf]; omega
    · have hu := HU.out
      obtain rfl : j = n := by omega
      rw [partly_all xs _ j L.out (LA.out.trans L.out)] at hu
      go_wp2
      go_end0
      exact ⟨rfl, hu⟩
end Go.Proofs.Ytenlhfimdpcaoaa

namespace Go.Proofs.Ytenlhfimdpcaoaa
open Go.RowKit

theorem Rows.bd {p : Int} {L : Nat} {rows : List (List Int)} (h : Rows p L rows) (hp : p ≤ 10007) {i : Nat} (hi : i < rows.length) : ∀ j, j < L → 0 ≤ (rows.getD i []).getD j 0 ∧ (rows.getD i []).getD j 0 ≤ 1000000 := fun j hj => by
  have := h.get hi hj
  omega
def swapH (hs : List Hdr) (i j : Nat) : List Hdr := (hs.set i (hs.getD j (none, 0))).set j (hs.getD i (none, 0))
theorem OwnK.swapRows {w : World} {B U n c g : Nat} {hs : List Hdr} {xs : List (List Int)} (h : OwnK rowK w B U (some ⟨g, 0, none⟩) n c hs xs) (i j : Nat) (hi : i < n) (hj : j < n) :
    OwnK rowK ((w.setCell ⟨g, i, none⟩ (.slice (hs.getD j (none, 0)).1 (xs.getD j []).length (hs.getD j (none, 0)).2)).setCell ⟨g, j, none⟩ (.slice (hs.getD i (none, 0)).1 (xs.getD i []).length (hs.getD i (none, 0)).2)) B U (some ⟨g, 0, none⟩) n c (swapH hs i j) (swapR xs i j) := by
  have hxl := h.xl
  have hhl := h.hl
  obtain ⟨h1, g1⟩ := h.row.stored i (.slice (hs.getD j (none, 0)).1 (xs.getD j []).length (hs.getD j (none, 0)).2)
  have e1 := rowK.all_set hs xs (hhl.trans hxl.symm) i 0 (by omega) (by decide) (.slice (hs.getD j (none, 0)).1 (xs.getD j []).length (hs.getD j (none, 0)).2) (hs.getD j (none, 0)) (xs.getD j []) rfl
  rw [show i * rowK.size + 0 = i from by show i * 1 + 0 = i; omega] at e1
  rw [e1] at h1
  obtain ⟨h2, g2⟩ := h1.stored j (.slice (hs.getD i (none, 0)).1 (xs.getD i []).length (hs.getD i (none, 0)).2)
  have e2 := rowK.all_set (hs.set i (hs.getD j (none, 0))) (xs.set i (xs.getD j [])) (by simp [hhl, hxl]) j 0 (by simp; omega) (by decide) (.slice (hs.getD i (none, 0)).1 (xs.getD i []).length (hs.getD i (none, 0)).2) (hs.getD i (none, 0)) (xs.getD i []) rfl
  rw [show j * rowK.size + 0 = j from by show j * 1 + 0 = j; omega] at e2
  rw [e2] at h2
  have hg : w.grownBy ((w.setCell ⟨g, i, none⟩ (.slice (hs.getD j (none, 0)).1 (xs.getD j []).length (hs.getD j (none, 0)).2)).setCell ⟨g, j, none⟩ (.slice (hs.getD i (none, 0)).1 (xs.getD i []).length (hs.getD i (none, 0)).2)) (some g) :=
    ⟨g2.os.trans g1.os, g2.tape.trans g1.tape, g2.output.trans g1.output, Nat.le_trans g1.size g2.size, fun k hk hne => (g2.block k (Nat.lt_of_lt_of_le hk g1.size) hne).trans (g1.block k hk hne)⟩
  refine h.shuffled (hs' := swapH hs i j) (xs' := swapR xs i j) rfl h2 hg (by simp [swapH, hhl]) (by simp [swapR, hxl]) (fun q => if j = q then i else if i = q then j else q) (fun q hq => ?_) (fun q r hq hr e => ?_) (fun q hq => ?_) (fun q hq => ?_)
  · show (if j = q then i else if i = q then j else q) < n
    split
    · exact hi
    · split
      · exact hj
      · exact hq
  · replace e : (if j = q then i else if i = q then j else q) = (if j = r then i else if i = r then j else r) := e
    split at e <;> split at e <;> (try split at e) <;> (try split at e) <;> omega
  · show ((hs.set i (hs.getD j (none, 0))).set j (hs.getD i (none, 0))).getD q (none, 0) = hs.getD (if j = q then i else if i = q then j else q) (none, 0)
    rw [getD_setL _ _ _ _ _ (by simp; omega), getD_setL _ _ _ _ _ (by omega)]
    by_cases a1 : j = q
    · simp [a1]
    · by_cases a2 : i = q
      · simp [a1, a2]
      · simp [a1, a2]
  · show rowK.ints ((swapR xs i j).getD q []) = rowK.ints (xs.getD (if j = q then i else if i = q then j else q) [])
    rw [swapR_get xs i j q (by omega) (by omega)]
    by_cases a1 : j = q
    · simp [a1]
    · by_cases a2 : i = q
      · simp [a1, a2]
      · simp [a1, a2]

/-- what reduce holds on its way: the rows, the pivots, and that nothing below B is changed -/
structure Red (w0 w : World) (B N : Nat) (a : Option Addr) (n c : Nat) (hs : List Hdr) (R : List (List Int)) (ap : Option Addr) (np cp : Nat) (P : List Int) : Prop where
  own : OwnK rowK w B N a n c hs R
  piv : OwnI w N ap np cp P
  bel : Below B w0 w
  hN : N ≤ w.heap.size
  hB : B ≤ N
namespace Red
variable {w0 w w' : World} {B N : Nat} {a : Option Addr} {n c : Nat} {hs : List Hdr} {R : List (List Int)} {ap : Option Addr} {np cp : Nat} {P : List Int}
theorem ext (h : Red w0 w B N a n c hs R ap np cp P) (hx : Ext w w') : Red w0 w' B N a n c hs R ap np cp P :=
  ⟨h.own.below hx, h.piv.below hx, Below.ext h.bel hx (Nat.le_trans h.hB h.hN), Nat.le_trans h.hN hx.size, h.hB⟩
theorem upd (h : Red w0 w B N a n c hs R ap np cp P) (i : Nat) (hi : i < n) {ys : List Int} (hu : UpdI w w' (hs.getD i (none, 0)).1 (R.getD i []).length ys) : Red w0 w' B N a n c hs (R.set i ys) ap np cp P := by
  refine ⟨h.own.upd i hi hu, h.piv.others hu fun b o b' o' e e' => ?_, hu.below h.bel (Nat.le_trans h.hB h.hN) fun b o e _ => ((h.own.each i hi).at_base b o e).1, Nat.le_trans h.hN hu.size, h.hB⟩
  have := h.own.lt i hi b o e
  have := (h.piv.at_base b' o' e').1
  omega
theorem swapRows {g : Nat} (h : Red w0 w B N (some ⟨g, 0, none⟩) n c hs R ap np cp P) (i j : Nat) (hi : i < n) (hj : j < n) :
    Red w0 ((w.setCell ⟨g, i, none⟩ (.slice (hs.getD j (none, 0)).1 (R.getD j []).length (hs.getD j (none, 0)).2)).setCell ⟨g, j, none⟩ (.slice (hs.getD i (none, 0)).1 (R.getD i []).length (hs.getD i (none, 0)).2)) B N (some ⟨g, 0, none⟩) n c (swapH hs i j) (swapR R i j) ap np cp P := by
  have hg := h.own.olt g 0 rfl
  have hg2 := (h.own.base_lt g 0 rfl).1
  exact ⟨h.own.swapRows i j hi hj, (h.piv.setBelow _ _ hg _).setBelow _ _ hg _, Below.setCell (p := ⟨g, j, none⟩) (Below.setCell (p := ⟨g, i, none⟩) h.bel hg2 _) hg2 _, by simpa [World.setCell] using h.hN, h.hB⟩
/-- the pivots grow -/
theorem grown (h : Red w0 w B N a n c hs R ap np cp P) {ap' : Option Addr} {np' cp' : Nat} {P' : List Int} (hg : w.grownBy w' (Value.slice ap np cp).ownBlock) (hp : OwnI w' N ap' np' cp' P') : Red w0 w' B N a n c hs R ap' np' cp' P' := by
  have hb : ∀ b o, ap = some ⟨b, o, none⟩ → N ≤ b := fun b o e => (h.piv.at_base b o e).1
  have key : ∀ b, b < N → some b ≠ (Value.slice ap np cp).ownBlock := fun b hb' => by
    cases ap with
    | none => simp [Value.ownBlock]
    | some q =>
      have := h.piv.addr_base q rfl
      simp only [Value.ownBlock, ne_eq, Option.some.injEq]
      omega
  refine ⟨h.own.kept hg (fun b o e => key b (h.own.olt b o e)) (fun i hi b o e => key b (h.own.lt i hi b o e)), hp, ?_, Nat.le_trans h.hN hg.size, h.hB⟩
  refine Below.grown h.bel hg (Nat.le_trans h.hB h.hN) fun q hq => ?_
  cases ap with
  | none => simp [Value.ownBlock] at hq
  | some q' =>
    simp [Value.ownBlock] at hq
    subst hq
    exact Nat.le_trans h.hB (h.piv.addr_base q' rfl)
/-- the cells of a row -/
theorem row (h : Red w0 w B N a n c hs R ap np cp P) {p : Int} {L : Nat} (hR : Rows p L R) (hL : 0 < L) (i : Nat) (hi : i < n) :
    ∃ g b cr, a = some ⟨g, 0, none⟩ ∧ hs.getD i (none, 0) = (some ⟨b, 0, none⟩, cr) ∧ g ≠ b ∧ g < w.heap.size ∧ b < w.heap.size ∧ B ≤ b ∧ L ≤ cr ∧
    ∀ w', Ext w w' → w'.cell? ⟨g, i, none⟩ = some (.slice (some ⟨b, 0, none⟩) L cr) ∧ w'.frozen? ⟨g, i, none⟩ = false ∧ (∀ j, j < L → w'.cell? ⟨b, j, none⟩ = some (.int .i64 ((R.getD i []).getD j 0)) ∧ w'.frozen? ⟨b, j, none⟩ = false) ∧ IntsAt w' (some ⟨b, 0, none⟩) L (R.getD i []) := by
  have hiR : i < R.length := by rw [h.own.xl]; exact hi
  have hl := hR.len i hiR
  have he := h.own.each i hi
  obtain ⟨b, eb, hBb, hbl, _⟩ := he.cell 0 (by show 0 < (R.getD i []).length; omega)
  obtain ⟨g, ea, _⟩ := h.own.cell i 0 hi (by decide)
  refine ⟨g, b, (hs.getD i (none, 0)).2, ea, Prod.ext eb rfl, ?_, ?_, hbl, hBb, ?_, fun w' hx => ?_⟩
  · exact h.own.far i hi g 0 b 0 ea eb
  · exact (h.own.base_lt g 0 ea).2
  · rcases he.row.2 with ⟨_, h0⟩ | ⟨g', cap, cur, hv, _, _, hnc, _⟩
    · have : (R.getD i []).length = 0 := h0
      omega
    · simp only [Value.slice.injEq] at hv
      have : (R.getD i []).length ≤ cap := hnc
      omega
  · have ho := h.own.below hx
    obtain ⟨g', e', hc, hf⟩ := ho.cell i 0 hi (by decide)
    rw [ea] at e'
    simp only [Option.some.injEq, Addr.mk.injEq, and_true] at e'
    subst e'
    rw [show i * rowK.size + 0 = i from by show i * 1 + 0 = i; omega] at hc hf
    have he' := ho.each i hi
    refine ⟨?_, hf, fun j hj => ?_, ?_⟩
    · rw [hc]
      show some (Value.slice (hs.getD i (none, 0)).1 (R.getD i []).length (hs.getD i (none, 0)).2) = _
      rw [eb, hl]
    · obtain ⟨b', e2, _, _, c2, f2⟩ := he'.cell j (by show j < (R.getD i []).length; omega)
      rw [eb] at e2
      simp only [Option.some.injEq, Addr.mk.injEq, and_true] at e2
      subst e2
      exact ⟨c2, f2⟩
    · have := he'.ints
      rw [eb] at this
      rw [← hl]
      exact this
end Red
theorem inverse_int (n p : Int) (w : World) (hp : primeB p = true) (h1 : 1 ≤ n) (hn : n < p) :
    Calls Try.prog 83 #[.int .i64 n, .int .i64 p] w fun e w' => e = .returned (.int .i64 (invP n p)) ∧ Ext w w' := by
  obtain ⟨n, rfl⟩ := Int.eq_ofNat_of_zero_le (show 0 ≤ n by omega)
  obtain ⟨p, rfl⟩ := Int.eq_ofNat_of_zero_le (show 0 ≤ p by omega)
  exact inverse_any n p w hp (by omega) (by omega)
theorem invP_lt {n p : Int} (hp : primeB p = true) : 0 ≤ invP n p ∧ invP n p < p := by
  obtain ⟨p2, _⟩ := prime_bounds hp
  unfold invP
  cases hf : (List.range p.toNat).find? fun v : Nat => n * (v : Int) % p == 1 with
  | none => simp; omega
  | some u =>
    have h4 := List.mem_of_find?_eq_some hf
    rw [List.mem_range] at h4
    simp
    omega
end Go.Proofs.Ytenlhfimdpcaoaa

namespace Go.Proofs.Ytenlhfimdpcaoaa
open Go.RowKit

theorem redStep_none {p : Int} {k n : Nat} {R : List (List Int)} {P : List Int} (hn : R.length = n) (hp : P.length ≤ n) (hz : ∀ i, P.length ≤ i → i < n → (R.getD i []).getD k 0 = 0) : redStep p k (R, P) = (R, P) := by
  unfold redStep
  simp only
  rw [findRow_none (by omega) (fun i h1 h2 => hz i h1 (by omega)), if_neg (Nat.lt_irrefl _)]
theorem redStep_some {p : Int} {k n r : Nat} {R : List (List Int)} {P : List Int} (hn : R.length = n) (hr : r < n) (hpr : P.length ≤ r) (hz : ∀ i, P.length ≤ i → i < r → (R.getD i []).getD k 0 = 0) (hne : (R.getD r []).getD k 0 ≠ 0) :
    redStep p k (R, P) = (clearTo p k P.length ((swapR R r P.length).set P.length (scaleR p (invP (((swapR R r P.length).getD P.length []).getD k 0) p) ((swapR R r P.length).getD P.length []))) n, P ++ [(k : Int)]) := by
  unfold redStep
  simp only
  rw [findRow_at hpr (by omega) hz hne, if_pos (by omega), List.length_set, swapR_length, hn]

set_option maxRecDepth 100000 in
set_option maxHeartbeats 4000000 in
theorem reduce_any (p : Int) (L cols B : Nat) (a : Option Addr) (n c : Nat) (hs : List Hdr) (rows : List (List Int)) (w : World) (h : OwnK rowK w B w.heap.size a n c hs rows) (hR : Rows p L rows) (hcl : cols ≤ L) (hp : primeB p = true) (hn : n ≤ 1000000) (hL : L ≤ 1000000) (hB : B ≤ w.heap.size) :
    Calls Try.prog 157 #[.slice a n c, .int .i64 cols, .int .i64 p] w fun e w' => ∃ a' c' hs', e = .returned (.slice a' (redTo p rows cols).2.length c') ∧ Red w w' B w.heap.size a n c hs' (redTo p rows cols).1 a' (redTo p rows cols).2.length c' (redTo p rows cols).2 := by
  obtain ⟨p2, p7⟩ := prime_bounds hp
  have hxl := h.xl
  have HOK := hidP (fun k => redTo_ok (by omega : 0 < p) hR k)
  rw [hxl] at HOK
  have HP := hidP hp
  have hrec : Red w (w.alloc (.cells #[] 3)) B w.heap.size a n c hs rows (some ⟨w.heap.size, 0, none⟩) 0 0 [] :=
    ⟨h.below (Ext.alloc _ _), by simpa using OwnI.made w w.heap.size 0 (Nat.le_refl _) (by unfold maxLen; omega), (Below.refl _ _).alloc hB _, by simp, hB⟩
  have HR := hidP hrec
  have hN : w.heap.size = w.heap.size := rfl
  obtain ⟨N, hN'⟩ : ∃ N, N = w.heap.size := ⟨_, rfl⟩
  clear h hR hp hrec hN
  go_enter Try.func157, Try.ntmps157
  go_wp2
  rw [← hN'] at HR ⊢
  obtain ⟨w0, hw0⟩ : ∃ w0, w0 = w.alloc (.cells #[] 3) := ⟨_, rfl⟩
  rw [← hw0] at HR ⊢
  have hN := hidP hN'
  clear hw0 hN' hB
  go_loopw [7, 17] (fun v i wr => ∃ (k : Nat) (hs' : List Hdr) (ap : Option Addr) (np cp : Nat), k ≤ cols ∧ i = .int .i64 k ∧ v = .slice ap np cp ∧ Hid (Red w wr B N a n c hs' (redTo p rows k).1 ap np cp (redTo p rows k).2)) (fun _ i _ => cols - (intOf i).toNat)
  case atStart => exact ⟨0, hs, _, 0, 0, Nat.zero_le _, rfl, rfl, HR⟩
  case round =>
    clear HR
    obtain ⟨k, hs1, ap, np, cp, hk, rfl, rfl, HR⟩ := hrel
    by_cases hlt : k < cols
    · have hok := HOK.out k
      have HNX : Hid (redTo p rows (k + 1) = redStep p k (redTo p rows k)) := rfl
      generalize redTo p rows k = ST at *
      obtain ⟨R, P⟩ := ST
      simp only at HR hok
      have hnp := HR.out.piv.len
      have hRl := hok.len
      have hpn := hok.pn
      simp only at hRl hpn
      have HRW := hidP hok.rows
      simp only at HRW
      subst hnp
      have HRl := hidP hRl
      clear hok hRl
      obtain ⟨wo, rfl⟩ : ∃ wo : World, wo = wr := ⟨_, rfl⟩
      go_wp2
      go_loop [10] (fun v => ∃ r : Nat, P.length ≤ r ∧ r ≤ n ∧ v = .int .i64 r ∧ Hid (∀ i, P.length ≤ i → i < r → (R.getD i []).getD k 0 = 0)) (fun v => n - (intOf v).toNat)
      case atStart => exact ⟨P.length, Nat.le_refl _, hpn, rfl, fun i h1 h2 => by omega⟩
      case round =>
        obtain ⟨r, hr0, hr1, rfl, HZ⟩ := hrel
        by_cases hrn : r < n
        · obtain ⟨g, br, cr, rfl, ehr, hgb, hgw, hbw, hBb, hLc, HCr⟩ := HR.out.row HRW.out (by omega) r hrn
          have HCr := hidP HCr
          obtain ⟨q1, z1, qz, _⟩ := HCr.out wo (Ext.refl _)
          obtain ⟨q2, _⟩ := qz k (by omega)
          by_cases hx : (R.getD r []).getD k 0 = 0
          · have HZ2 : Hid (∀ i, P.length ≤ i → i < r + 1 → (R.getD i []).getD k 0 = 0) := by
              intro i h1 h2
              rcases Nat.lt_succ_iff_lt_or_eq.1 h2 with h3 | rfl
              · exact HZ.out i h1 h3
              · exact hx
            have hxb : ((R.getD r []).getD k 0 == 0) = true := by rw [hx]; rfl
            clear qz
            generalize (R.getD r []).getD k 0 = x at *
            clear hx
            go_wp2
            go_round
            case rel =>
              exact ⟨r + 1, by omega, by omega, by go_num, HZ2⟩
            case measure => simp [intOf]; omega
          · have HNX := hidP (HNX.out.trans (redStep_some HRl.out hrn hr0 HZ.out hx))
            have hxb : ((R.getD r []).getD k 0 == 0) = false := beq_eq_false_iff_ne.2 hx
            have HX := hidP hx
            have hrnb : ((r : Int) == (n : Int)) = false := by simp; omega
            obtain ⟨gA, bA, cA, eA, ehA, _, _, hbA, hBbA, _, HCA⟩ := HR.out.row HRW.out (by omega) P.length (by omega)
            simp only [Option.some.injEq, Addr.mk.injEq, and_true] at eA
            subst eA
            have HCA := hidP HCA
            have e0 := HRW.out.len r (by have := HRl.out; omega)
            have eL := HRW.out.len P.length (by have := HRl.out; omega)
            have HSW := hidP (HR.out.swapRows r P.length hrn (by omega))
            have HRS := hidP (HRW.out.swap r P.length (by have := HRl.out; omega) (by have := HRl.out; omega))
            have hgl : ∀ i, P.length = i → (swapR R r P.length).getD i [] = R.getD r [] := fun i e => by
              rw [swapR_get R r P.length i (by have := HRl.out; omega) (by have := HRl.out; omega), if_pos e]
            have HY : Hid (1 ≤ ((swapR R r P.length).getD P.length []).getD k 0 ∧ ((swapR R r P.length).getD P.length []).getD k 0 < p) := by
              have h1 := HRW.out.get (i := r) (j := k) (by have := HRl.out; omega) (by omega)
              show _ ∧ _
              rw [hgl P.length rfl]
              omega
            have HRL2 : Hid ((swapR R r P.length).length = n) := (swapR_length R r P.length).trans HRl.out
            rw [ehr, ehA, e0, eL] at HSW
            clear hx qz e0 eL hgl
            generalize (R.getD r []).getD k 0 = x at *
            generalize swapR R r P.length = R2 at *
            generalize swapH hs1 r P.length = hs2 at *
            go_wp2
            clear q2
            obtain ⟨qA, zA, _, _⟩ := HCA.out _ (Ext.refl wo)
            have hPn : P.length < n := by omega
            clear HZ HX
            by_cases hrP : r = P.length
            all_goals first
              | (subst hrP
                 rw [ehr] at ehA
                 simp only [Prod.mk.injEq, Option.some.injEq, Addr.mk.injEq, and_true] at ehA
                 obtain ⟨rfl, rfl⟩ := ehA
                 go_region
                 have HX2 := hidP (HSW.out.ext (Ext.drew _))
                 generalize ((wo.setCell { block := g, off := P.length } (Value.slice (some { block := br, off := 0 }) L cr)).setCell { block := g, off := P.length } (Value.slice (some { block := br, off := 0 }) L cr)).drew = w2 at HX2 ⊢
                 clear HSW ehr hgb hgw hbw hBb hLc HCr q1 z1 qA zA hbA hBbA HCA)
              | (go_region
                 have HX2 := hidP (HSW.out.ext (Ext.drew _))
                 generalize ((wo.setCell { block := g, off := r } (Value.slice (some { block := bA, off := 0 }) L cA)).setCell { block := g, off := P.length } (Value.slice (some { block := br, off := 0 }) L cr)).drew = w2 at HX2 ⊢
                 clear HSW ehr ehA hgb hgw hbw hBb hLc HCr q1 z1 qA zA hbA hBbA HCA hrP)
            all_goals
              clear hrn hr0 hr1 hxb hrnb HR
              obtain ⟨g', b, cb, eg, ehb, hgb, hgw, hbw, hBb, hLc, HCb⟩ := HX2.out.row HRS.out (by omega) P.length hPn
              simp only [Option.some.injEq, Addr.mk.injEq, and_true] at eg
              subst eg
              have HCb := hidP HCb
              have HEH := hidP ehb
              obtain ⟨y1, yp⟩ := HY.out
              have HI := hidP (fun w' => inverse_int ((R2.getD P.length []).getD k 0) p w' HP.out y1 yp)
              have hi01 := invP_lt (n := (R2.getD P.length []).getD k 0) HP.out
              obtain ⟨q1, _, qz, _⟩ := HCb.out w2 (Ext.refl _)
              obtain ⟨q2, _⟩ := qz k (by omega)
              generalize hkv : invP ((R2.getD P.length []).getD k 0) p = kv at *
              have HKV := hidP hkv
              clear hkv qz ehb
              obtain ⟨kv0, kv1⟩ := hi01
              go_wp2_with (go_at_call 83; refine (HI.out _).mono ?_; rintro e w3 ⟨rfl, hx3⟩; have HX3 := hidP hx3; clear hx3 q1 q2; obtain ⟨q1, _⟩ := HCb.out w3 HX3.out)
              have HU0 := hidP (UpdI.start (HCb.out w3 HX3.out).2.2.2)
              have HLR := hidP (HRS.out.len P.length (by have := HRL2.out; omega))
              have HLS := hidP ((scaleR_length p kv (R2.getD P.length [])).trans HLR.out)
              have HX3R := hidP (HX2.out.ext HX3.out)
              have HRES := hidP (HRS.out.bd p7 (i := P.length) (by have := HRL2.out; omega))
              clear q1
              go_loopw [71] (fun v wr => ∃ j : Nat, j ≤ L ∧ v = .int .i64 j ∧ Hid (UpdI w3 wr (some ⟨b, 0, none⟩) L (partly (R2.getD P.length []) (scaleR p kv (R2.getD P.length [])) j))) (fun v _ => L - (intOf v).toNat)
              case atStart => exact ⟨0, Nat.zero_le _, rfl, by rw [partly_zero]; exact HU0⟩
              case round =>
                obtain ⟨j, hj, rfl, HU⟩ := hrel
                by_cases hjl : j < L
                · have hu := HU.out.drew
                  obtain ⟨c3, z3⟩ := hu.cellInt j hjl
                  obtain ⟨qg, _, qz, _⟩ := HCb.out w3 HX3.out
                  have hgw3 : g < w3.heap.size := Nat.lt_of_lt_of_le hgw HX3.out.size
                  have qg' : wr.drew.cell? ⟨g, P.length, none⟩ = some (.slice (some ⟨b, 0, none⟩) L cb) := (World.cell?_of_block (a := ⟨g, P.length, none⟩) (hu.other g hgw3 (fun b' o' e _ => by simp only [Option.some.injEq, Addr.mk.injEq] at e; omega))).trans qg
                  rw [Nat.zero_add] at c3 z3
                  rw [partly_get _ _ j L hjl HLR.out HLS.out] at c3
                  have z4 : wr.drew.frozen? ⟨b, j, none⟩ = false := z3.trans (qz j hjl).2
                  obtain ⟨x0, x1⟩ := HRES.out j hjl
                  have hm0 : 0 ≤ (R2.getD P.length []).getD j 0 * kv := Int.mul_nonneg x0 kv0
                  have hm1 : (R2.getD P.length []).getD j 0 * kv ≤ 1000000 * 10007 := Int.mul_le_mul x1 (by omega) kv0 (by omega)
                  have hs := hu.store j hjl ((R2.getD P.length []).getD j 0 * kv % p)
                  rw [← scaleR_get p kv _ j (by have := HLR.out; omega), partly_succ _ _ L j hjl HLR.out HLS.out, scaleR_get p kv _ j (by have := HLR.out; omega)] at hs
                  have e1 : IntKind.i64.wrap ((R2.getD P.length []).getD j 0 * kv) = (R2.getD P.length []).getD j 0 * kv := wrap_in (by omega) (by omega)
                  have e2 : Int.tmod ((R2.getD P.length []).getD j 0 * kv) p = (R2.getD P.length []).getD j 0 * kv % p := Int.tmod_eq_emod_of_nonneg hm0
                  rw [Nat.zero_add] at hs
                  have HS := hidP hs
                  clear hs hu qg qz z3 HU HU0
                  generalize (R2.getD P.length []).getD j 0 = x at *
                  have hpz : ¬ p = 0 := by omega
                  go_wp2
                  (refine walkR_start (fun w' => w' = wr.drew) 17 (by kernel_rfl) ?_; simp only [numbered, List.take_succ_cons, List.take_zero, Nat.zero_add, Nat.reduceAdd, List.length_cons, List.length_nil])
                  (repeat (first | (refine walkR_still (v := ?_) rfl (by decide +kernel) rfl (fun _ _ _ h => h) rfl ?_ ?_; rotate_left; (focus (intro w' hw'; subst hw'; go_simp; all_goals (with_reducible rfl))); simp only [Act.put, List.setIfInBounds_toArray, List.set_cons_zero, List.set_cons_succ]) | (refine walkR_skip rfl (by decide +kernel) rfl (fun _ _ _ h => h) rfl ?_; simp only [Act.put, List.setIfInBounds_toArray, List.set_cons_zero, List.set_cons_succ])))
                  (refine walkR_tail (by rfl) (by kernel_rfl) ?_; simp only [List.drop_succ_cons, List.drop_zero])
                  go_wp2
                  go_roundw
                  case rel => exact ⟨j + 1, by omega, by go_num, HS⟩
                  case measure => simp [intOf]; omega
                · obtain rfl : L = j := by omega
                  have hu := HU.out
                  rw [partly_all _ _ L HLR.out HLS.out] at hu
                  have HX4 := hidP (HX3R.out.upd P.length hPn (by rw [HEH.out, HLR.out]; exact hu))
                  have HRS4 := hidP (HRS.out.set P.length (r := scaleR p kv (R2.getD P.length [])) HLS.out (Res.modL (by omega) _ _))
                  have HL4 : Hid ((R2.set P.length (scaleR p kv (R2.getD P.length []))).length = n) := by show _ = _; rw [List.length_set]; exact HRL2.out
                  have HFIN : Hid (redTo p rows (k + 1) = (clearTo p k P.length (R2.set P.length (scaleR p kv (R2.getD P.length []))) n, P ++ [(k : Int)])) := HNX
                  clear hu HU HU0 HRES HNX HLS HLR HKV HY HRS HRL2 HI HCb HX2 HX3R y1 yp HEH
                  generalize R2.set P.length (scaleR p kv (R2.getD P.length [])) = R4 at *
                  generalize HW4 : wr = w4 at *
                  clear HW4
                  go_wp2
                  go_loopw [94] (fun v wr => ∃ m : Nat, m ≤ n ∧ v = .int .i64 m ∧ Hid (Red w wr B N (some ⟨g, 0, none⟩) n c hs2 (clearTo p k P.length R4 m) ap P.length cp P)) (fun v _ => n - (intOf v).toNat)
                  case atStart => exact ⟨0, Nat.zero_le _, rfl, HX4⟩
                  case round =>
                    clear HX4
                    obtain ⟨m, hm, rfl, HX⟩ := hrel
                    by_cases hmn : m < n
                    · have hcl := clearTo_rows (by omega : 0 < p) HRS4.out k P.length m (by have := HL4.out; omega)
                      have hll := (clearTo_length p k P.length R4 m).trans HL4.out
                      have HCT : Hid (clearTo p k P.length R4 (m + 1) = if m ≠ P.length ∧ ((clearTo p k P.length R4 m).getD m []).getD k 0 ≠ 0 then (clearTo p k P.length R4 m).set m (addL p ((clearTo p k P.length R4 m).getD m []) (p - ((clearTo p k P.length R4 m).getD m []).getD k 0) ((clearTo p k P.length R4 m).getD P.length [])) else clearTo p k P.length R4 m) := rfl
                      generalize clearTo p k P.length R4 m = R at *
                      have HRS := hidP hcl
                      have HRL := hidP hll
                      clear hcl hll
                      obtain ⟨g', bm, cm, eg, ehm, _, hgw2, _, hBm, _, HCm⟩ := HX.out.row HRS.out (by omega) m hmn
                      simp only [Option.some.injEq, Addr.mk.injEq, and_true] at eg
                      subst eg
                      have HCm := hidP HCm
                      have HEm := hidP ehm
                      clear ehm
                      obtain ⟨q1, _, qz, _⟩ := HCm.out wr (Ext.refl _)
                      obtain ⟨q2, _⟩ := qz k (by omega)
                      clear qz
                      by_cases hmP : m = P.length
                      · have hb1 : ((m : Int) != (P.length : Int)) = false := by simp [hmP]
                        have HC2 : Hid (clearTo p k P.length R4 (m + 1) = R) := HCT.out.trans (if_neg (fun h => h.1 hmP))
                        clear hmP
                        generalize (R.getD m []).getD k 0 = x at *
                        go_wp2
                        go_roundw
                        case rel => exact ⟨m + 1, by omega, by go_num, by rw [HC2.out]; exact HX⟩
                        case measure => simp [intOf]; omega
                      · have hb1 : ((m : Int) != (P.length : Int)) = true := bne_iff_ne.2 (by omega)
                        by_cases hx0 : (R.getD m []).getD k 0 = 0
                        · have hb2 : ((R.getD m []).getD k 0 != 0) = false := by rw [hx0]; rfl
                          have HC2 : Hid (clearTo p k P.length R4 (m + 1) = R) := HCT.out.trans (if_neg (fun h => h.2 hx0))
                          clear hx0 HCT
                          generalize (R.getD m []).getD k 0 = x at *
                          go_wp2
                          go_roundw
                          case rel => exact ⟨m + 1, by omega, by go_num, by rw [HC2.out]; exact HX⟩
                          case measure => simp [intOf]; omega
                        · have hb2 : ((R.getD m []).getD k 0 != 0) = true := bne_iff_ne.2 hx0
                          have HC2 := hidP (HCT.out.trans (if_pos ⟨hmP, hx0⟩))
                          obtain ⟨g', bA, cA, eg, ehA, _, _, _, _, _, HCA⟩ := HX.out.row HRS.out (by omega) P.length hPn
                          simp only [Option.some.injEq, Addr.mk.injEq, and_true] at eg
                          subst eg
                          have HCA := hidP HCA
                          have hap := HX.out.own.apart m P.length hmn hPn hmP
                          rw [HEm.out, ehA] at hap
                          have HAP := hidP hap
                          have HAD := hidP (addTo_any (some ⟨bm, 0, none⟩) (some ⟨bA, 0, none⟩) L cm cA (R.getD m []) (R.getD P.length []) (p - (R.getD m []).getD k 0) p wr.drew (HCm.out _ (Ext.drew wr)).2.2.2 (HCA.out _ (Ext.drew wr)).2.2.2
                            (fun i b o hi e => by simp only [Option.some.injEq, Addr.mk.injEq, and_true] at e; obtain ⟨rfl, rfl⟩ := e; rw [Nat.zero_add]; exact ((HCm.out _ (Ext.drew wr)).2.2.1 i hi).2) HAP.out (by omega)
                            (HRS.out.bd p7 (by have := HRL.out; omega)) (HRS.out.bd p7 (by have := HRL.out; omega)) (by have := HRS.out.get (i := m) (j := k) (by have := HRL.out; omega) (by omega); omega) (by have := HRS.out.get (i := m) (j := k) (by have := HRL.out; omega) (by omega); omega) (by omega) (by omega))
                          have hx01 := HRS.out.get (i := m) (j := k) (by have := HRL.out; omega) (by omega)
                          clear hx0 HCT hmP hap ehA
                          have HLm := hidP (HRS.out.len m (by have := HRL.out; omega))
                          generalize hxx : (R.getD m []).getD k 0 = x at *
                          have HXX := hidP hxx
                          clear hxx
                          obtain ⟨x0, x1⟩ := hx01
                          have e1 : IntKind.i64.wrap (p - x) = p - x := wrap_in (by omega) (by omega)
                          have hkL : k < L := by omega
                          go_wp2
                          clear q1 q2
                          (refine walkR_start (fun w' => w' = wr.drew) 12 (by kernel_rfl) ?_; simp only [numbered, List.take_succ_cons, List.take_zero, Nat.zero_add, Nat.reduceAdd, List.length_cons, List.length_nil])
                          (repeat (first | (refine walkR_still (v := ?_) rfl (by decide +kernel) rfl (fun _ _ _ h => h) rfl ?_ ?_; rotate_left; (focus (intro w' hw'; subst hw'; obtain ⟨q1, _, qz, _⟩ := HCm.out _ (Ext.drew wr); obtain ⟨q2, _⟩ := qz k (by omega); rw [HXX.out] at q2; clear qz; obtain ⟨qA, _⟩ := HCA.out _ (Ext.drew wr); go_simp; all_goals (with_reducible rfl))); simp only [Act.put, List.setIfInBounds_toArray, List.set_cons_zero, List.set_cons_succ]) | (refine walkR_skip rfl (by decide +kernel) rfl (fun _ _ _ h => h) rfl ?_; simp only [Act.put, List.setIfInBounds_toArray, List.set_cons_zero, List.set_cons_succ])))
                          (refine walkR_tail (by rfl) (by kernel_rfl) ?_; simp only [List.drop_succ_cons, List.drop_zero])
                          go_wp2_with fail
                          refine HAD.out.mono ?_
                          rintro e w5 ⟨rfl, hu⟩
                          have HX5 := hidP ((HX.out.ext (Ext.drew wr)).upd m hmn (by rw [HEm.out, HLm.out]; exact hu))
                          clear hu
                          go_wp2
                          go_roundw
                          case rel => exact ⟨m + 1, by omega, by go_num, by rw [HC2.out]; exact HX5⟩
                          case measure => simp [intOf]; omega
                    · obtain rfl : m = n := by omega
                      have hx6 := Ext.alloc wr (.cells #[.int .i64 (k : Int)] 3)
                      have HX6 := hidP (HX.out.ext hx6)
                      have hin := ints_alloc wr [(k : Int)] 3
                      have HIN : Hid (IntsAt (wr.alloc (.cells #[.int .i64 (k : Int)] 3)) (some ⟨wr.heap.size, 0, none⟩) 1 [(k : Int)]) := by show IntsAt _ _ _ _; simpa [ivs] using hin
                      clear hx6 hin
                      go_wp2_with (at_builtin; refine wpList_append_ints rfl (.tmp 123) (.tmp 125) rfl N ap P.length cp P rfl HX6.out.piv (some ⟨wr.heap.size, 0, none⟩) 1 1 [(k : Int)] rfl HIN.out (fun e => by cases e) (by omega) HX6.out.hN ?_; intro a' c' w7 ho hg; have HX7 := hidP (HX6.out.grown hg ho); clear ho hg)
                      go_roundw
                      case rel =>
                        refine ⟨k + 1, hs2, a', P.length + 1, c', by omega, by go_num, rfl, ?_⟩
                        rw [HFIN.out]
                        exact HX7
                      case measure => simp [intOf]; omega
        · obtain rfl : r = n := by omega
          have HNX := hidP (HNX.out.trans (redStep_none HRl.out hpn HZ.out))
          go_wp2
          go_roundw
          case rel => exact ⟨k + 1, hs1, ap, P.length, cp, by omega, by go_num, rfl, by rw [HNX.out]; exact HR⟩
          case measure => simp [intOf]; omega
    · obtain rfl : k = cols := by omega
      have hl := HR.out.piv.len
      subst hl
      go_wp2
      go_ret
      rw [hN.out] at HR
      exact ⟨_, _, _, rfl, HR.out⟩
end Go.Proofs.Ytenlhfimdpcaoaa

namespace Go.Proofs.Ytenlhfimdpcaoaa
open Go.RowKit

/-- rows of integers, read -/
structure RowsI (w : World) (a : Option Addr) (n : Nat) (rows : List (List Int)) : Prop where
  len : rows.length = n
  get : ∀ i, i < n → ∃ b o a' c', a = some ⟨b, o, none⟩ ∧ w.cell? ⟨b, o + i, none⟩ = some (.slice a' (rows.getD i []).length c') ∧ IntsAt w a' (rows.getD i []).length (rows.getD i []) ∧ (a' = none → c' = 0)
theorem RowsI.below {w w' : World} {a : Option Addr} {n : Nat} {rows : List (List Int)} (h : RowsI w a n rows) (hb : Ext w w') : RowsI w' a n rows := by
  refine ⟨h.len, fun i hi => ?_⟩
  obtain ⟨b, o, a', c', rfl, hc, hr, hn⟩ := h.get i hi
  exact ⟨b, o, a', c', rfl, (hb.cell (p := ⟨b, o + i, none⟩) (World.block_lt_of_cell? w _ hc)).trans hc, hr.below hb, hn⟩
theorem OwnK.rowsI {w : World} {B U : Nat} {a : Option Addr} {n c : Nat} {hs : List Hdr} {xs : List (List Int)} (h : OwnK rowK w B U a n c hs xs) : RowsI w a n xs := by
  refine ⟨h.xl, fun i hi => ?_⟩
  obtain ⟨g, rfl, hc, _⟩ := h.cell i 0 hi (by decide)
  rw [show i * rowK.size + 0 = i from by show i * 1 + 0 = i; omega] at hc
  exact ⟨g, 0, _, _, rfl, by rw [Nat.zero_add, hc]; rfl, (h.each i hi).ints, (h.each i hi).nil_cap⟩
theorem flatten_take_succ (rows : List (List Int)) (i : Nat) (hi : i < rows.length) : (rows.take (i + 1)).flatten = (rows.take i).flatten ++ rows.getD i [] := by
  rw [List.take_succ_eq_append_getElem hi, List.flatten_append]
  simp [List.getD_eq_getElem?_getD, hi]
theorem flatten_take_le (rows : List (List Int)) (i : Nat) : (rows.take i).flatten.length ≤ rows.flatten.length := by
  conv => rhs; rw [← List.take_append_drop i rows, List.flatten_append, List.length_append]
  omega
theorem ownI_zeros (w : World) (n m : Nat) (B : Nat) (hB : B ≤ w.heap.size) (cap : Nat) (hc : cap = n + m) (hm : cap ≤ maxLen) :
    OwnI (w.alloc (.cells (Builtin.zeroCells #[.int .i64 0] n ++ Builtin.zeroCells #[.int .i64 0] m) 3)) B (some ⟨w.heap.size, 0, none⟩) 0 cap [] := by
  refine ⟨by simp [ivs], .inr ⟨w.heap.size, cap, _, rfl, hB, heap_alloc_new _ _, Nat.zero_le _, hm, ?_, by simp [ivs]⟩⟩
  simp [Builtin.zeroCells, hc]

/-- a new slice without elements -/
theorem OwnK.made0 {α : Type} (K : Knd α) (w : World) : OwnK K (w.alloc (.cells #[] K.E)) w.heap.size (w.alloc (.cells #[] K.E)).heap.size (some ⟨w.heap.size, 0, none⟩) 0 0 [] [] := by
  refine ⟨⟨by simp [Knd.all], .inr ⟨w.heap.size, 0, #[], rfl, Nat.le_refl _, heap_alloc_new _ _, Nat.le_refl _, by unfold maxLen; omega, by simp, by simp [Knd.all]⟩⟩, rfl, rfl, fun i h => by omega, fun i j h => by omega, fun i h => by omega, fun b o e => ?_⟩
  simp only [Option.some.injEq, Addr.mk.injEq, and_true] at e
  simp [← e.1]

theorem Try.info22 : (Try.prog.info? 22).map (fun i => (i.zero, i.size, i.bytes)) = some (some (.slice none 0 0), 1, 24) := by kernel_rfl
/-- the step 'append(rows, row)', row new -/
theorem OwnK.below_grown {α : Type} {K : Knd α} {w w' w0 : World} {B U : Nat} {a : Option Addr} {n c : Nat} {hs : List Hdr} {xs : List α} (h : OwnK K w B U a n c hs xs) (hg : w.grownBy w' (Value.slice a n c).ownBlock) (hb : Below B w0 w) (hB : B ≤ w.heap.size) : Below B w0 w' := by
  refine Below.grown hb hg hB fun k hk => ?_
  rcases h.form with ⟨rfl, _⟩ | ⟨g, cur, rfl, hBg, _⟩
  · simp [Value.ownBlock] at hk
  · simp [Value.ownBlock] at hk
    subst hk
    exact hBg

variable {α : Type}

/-- a' is a, or lies in a block from N on -/
def OrNew (N : Nat) (a a' : Option Addr) : Prop := a' = a ∨ ∀ b o, a' = some ⟨b, o, none⟩ → N ≤ b

theorem OwnK.snoc_of {K : Knd α} {w w' : World} {B U : Nat} {a : Option Addr} {n c : Nat} {hs : List Hdr} {xs : List α} (hown : OwnK K w B U a n c hs xs) {v' : Value} {h1 : Hdr} {x1 : α}
    (hr : w'.ownsRow B K.E K.size v' (n + 1) (K.all hs xs ++ K.cells h1.1 h1.2 x1)) (hg : w.grownBy w' (Value.slice a n c).ownBlock)
    (hi1 : OwnI w B h1.1 (K.ints x1).length h1.2 (K.ints x1)) (hap : ∀ i, i < n → Apart (hs.getD i (none, 0)).1 h1.1) (hfar : Apart a h1.1) :
    ∃ a' c', v' = .slice a' (n + 1) c' ∧ OwnK K w' B w'.heap.size a' (n + 1) c' (hs ++ [h1]) (xs ++ [x1]) := by
  rw [← K.all_snoc hs xs (hown.hl.trans hown.xl.symm)] at hr
  obtain ⟨a', c', rfl⟩ : ∃ a' c', v' = .slice a' (n + 1) c' := by
    rcases hr.2 with ⟨_, h0⟩ | ⟨g', cap, cur, he, _⟩
    · omega
    · exact ⟨_, _, he⟩
  refine ⟨a', c', rfl, ?_⟩
  have hxl := hown.xl
  have hhl := hown.hl
  have gd : ∀ {β : Type} (l : List β) (i : Nat) (x d : β), i < l.length → (l ++ [x]).getD i d = l.getD i d := fun l i x d hi => by simp [List.getD_eq_getElem?_getD, List.getElem?_append_left hi]
  have gl : ∀ {β : Type} (l : List β) (x d : β), (l ++ [x]).getD l.length d = x := fun l x d => by simp [List.getD_eq_getElem?_getD]
  have hne : ∀ q, q < n → ∀ b o, (hs.getD q (none, 0)).1 = some ⟨b, o, none⟩ → some b ≠ (Value.slice a n c).ownBlock := fun q hq b o e => by
    rcases hown.form with ⟨rfl, _⟩ | ⟨g', cur, rfl, _⟩
    · simp [Value.ownBlock]
    · have := hown.far q hq g' 0 b o rfl e
      simp only [Value.ownBlock, ne_eq, Option.some.injEq]
      omega
  have hne1 : ∀ b o, h1.1 = some ⟨b, o, none⟩ → some b ≠ (Value.slice a n c).ownBlock := fun b o e => by
    rcases hown.form with ⟨rfl, _⟩ | ⟨g', cur, rfl, _⟩
    · simp [Value.ownBlock]
    · have := hfar g' 0 b o rfl e
      simp only [Value.ownBlock, ne_eq, Option.some.injEq]
      omega
  have hev : ∀ q, q < n + 1 → OwnI w' B ((hs ++ [h1]).getD q (none, 0)).1 (K.ints ((xs ++ [x1]).getD q K.dft)).length ((hs ++ [h1]).getD q (none, 0)).2 (K.ints ((xs ++ [x1]).getD q K.dft)) := fun q hq => by
    rcases Nat.lt_succ_iff_lt_or_eq.1 hq with h3 | rfl
    · rw [gd _ _ _ _ (by omega), gd _ _ _ _ (by omega)]
      exact (hown.each q h3).grown hg fun b o e => hne q h3 b o e
    · have e1 : (hs ++ [h1]).getD q (none, 0) = h1 := by rw [← hhl]; exact gl _ _ _
      have e2 : (xs ++ [x1]).getD q K.dft = x1 := by rw [← hxl]; exact gl _ _ _
      rw [e1, e2]
      exact hi1.grown hg fun b o e => hne1 b o e
  refine ⟨hr, by simp [hhl], by simp [hxl], hev, fun q r hq hr' hqr => ?_, fun q hq b o e => ((hev q hq).at_base b o e).2, fun b o e => ?_⟩
  · rcases Nat.lt_succ_iff_lt_or_eq.1 hq with h3 | rfl
    · rw [gd hs q _ _ (by omega)]
      rcases Nat.lt_succ_iff_lt_or_eq.1 hr' with h4 | rfl
      · rw [gd hs r _ _ (by omega)]; exact hown.apart q r h3 h4 hqr
      · have e1 : (hs ++ [h1]).getD r (none, 0) = h1 := by rw [← hhl]; exact gl _ _ _
        rw [e1]; exact hap q h3
    · have e1 : (hs ++ [h1]).getD q (none, 0) = h1 := by rw [← hhl]; exact gl _ _ _
      rw [e1, gd hs r _ _ (by omega)]
      exact (hap r (by omega)).symm
  · rcases hr.2 with ⟨_, h0⟩ | ⟨g', cap, cur, he, _, hg', _⟩
    · omega
    · simp only [Value.slice.injEq] at he
      rw [e] at he
      simp only [Option.some.injEq, Addr.mk.injEq, and_true] at he
      obtain ⟨⟨rfl, _⟩, _⟩ := he
      exact (Array.getElem?_eq_some_iff.1 hg').1

/-- append of one element, whose cells lie in a new block, to an owned slice of such -/
theorem wpList_append_elem2 {ops : Array Oper} {rest : List Oper} {o : Oper} {av : Act} {Q : Exit → Act → World → Prop} {w : World} (K : Knd α) (T : TypeId) (z : Value) (bytes : Nat) (hgd : o.guard = none) (s x : Operand)
    (ho : o.op = .call { callee := .builtin .append, args := #[s, x], argTypes := #[T, T] }) (hT : Try.prog.underlying T = some (.slice K.E)) (hinfo : (Try.prog.info? K.E).map (fun i => (i.zero, i.size, i.bytes)) = some (some z, K.size, bytes))
    (hz : z.cells.size = K.size) (hbp : bytes ≤ 1000)
    (B U : Nat) (a : Option Addr) (n c : Nat) (hs : List Hdr) (xs : List α) (hsv : av.eval s = .slice a n c) (hown : OwnK K w B U a n c hs xs)
    (g m : Nat) (h1 : Hdr) (x1 : α) (hx : av.eval x = .slice (some ⟨g, 0, none⟩) 1 m) (hcl : ∀ j, j < K.size → w.cell? ⟨g, j, none⟩ = (K.cells h1.1 h1.2 x1)[j]?)
    (hi1 : OwnI w B h1.1 (K.ints x1).length h1.2 (K.ints x1)) (hap : ∀ i, i < n → Apart (hs.getD i (none, 0)).1 h1.1) (hfar : Apart a h1.1) (hsm : n ≤ 1000000000) (hB : B ≤ w.heap.size)
    (h : ∀ a' c' w', OwnK K w' B w'.heap.size a' (n + 1) c' (hs ++ [h1]) (xs ++ [x1]) → w.grownBy w' (Value.slice a n c).ownBlock → OrNew w.heap.size a a' → wpList Try.prog ops Q rest (av.put o.dst (.slice a' (n + 1) c')) w') : wpList Try.prog ops Q (o :: rest) av w := by
  obtain ⟨i, hi, hz0, hz1, hz2⟩ := info_parts hinfo
  have hcells : ∀ j u, (K.cells h1.1 h1.2 x1)[j]? = some u → w.cell? ((⟨g, 0, none⟩ : Addr).add j) = some u := by
    intro j u hu
    have hj : j < K.size := by have := (List.getElem?_eq_some_iff.1 hu).1; rwa [K.len] at this
    rw [add_none, Nat.zero_add, hcl j hj]
    exact hu
  by_cases hroom : n + 1 ≤ c
  · rcases hown.form with ⟨_, _, h0⟩ | ⟨g0, cur, rfl, _⟩
    · omega
    · refine wpList_append_fits w hgd s x T ho B K.E i K.size hT hi hz1 g0 n c (K.all hs xs) hsv hown.row ⟨g, 0, none⟩ 1 m (K.cells h1.1 h1.2 x1) hx (by rw [K.len, Nat.one_mul]) hcells (K.one _ _ _) hroom ?_
      intro w' hr hg
      obtain ⟨a', c', e, hk⟩ := hown.snoc_of hr hg hi1 hap hfar
      simp only [Value.slice.injEq] at e
      obtain ⟨rfl, _, rfl⟩ := e
      exact h _ _ w' hk hg (.inl rfl)
  · have hlx := K.all_length hs xs (hown.hl.trans hown.xl.symm)
    rw [hown.xl] at hlx
    refine wpList_append_grows w hgd s x T ho K.E i z K.size bytes hT hi hz0 hz1 hz2 hz K.pos a n c (K.all hs xs) hsv ?_ hlx ?_ ⟨g, 0, none⟩ 1 m (K.cells h1.1 h1.2 x1) hx (by rw [K.len, Nat.one_mul]) hcells (K.one _ _ _) (by omega) (by unfold maxLen; omega)
      (by calc (n + 1) * bytes ≤ 1000000001 * 1000 := Nat.mul_le_mul (by omega) hbp
            _ ≤ _ := by omega) ?_
    · intro e
      rcases hown.form with ⟨_, h1, h2⟩ | ⟨g0, cur, e2, _⟩
      · exact ⟨h1, h2⟩
      · rw [e] at e2; cases e2
    · intro b e j u hu
      rcases hown.form with ⟨e2, _⟩ | ⟨g0, cur, e2, _⟩
      · rw [e] at e2; cases e2
      · rw [e] at e2
        simp only [Option.some.injEq] at e2
        subst e2
        have hj : j < n * K.size := by have := (List.getElem?_eq_some_iff.1 hu).1; rwa [hlx] at this
        subst e
        rw [add_none, Nat.zero_add, hown.row.cellAt j hj]
        exact hu
    · intro v' w' hr hg0
      have hg : w.grownBy w' (Value.slice a n c).ownBlock := ⟨hg0.os, hg0.tape, hg0.output, hg0.size, fun k hk _ => hg0.block k hk (by simp)⟩
      have hr2 : w'.ownsRow B K.E K.size v' (n + 1) (K.all hs xs ++ K.cells h1.1 h1.2 x1) := by
        refine ⟨hr.1, ?_⟩
        rcases hr.2 with h2 | ⟨g', cap, cur, he, hB', r⟩
        · exact .inl h2
        · exact .inr ⟨g', cap, cur, he, Nat.le_trans hB hB', r⟩
      obtain ⟨a', c', rfl, hk⟩ := hown.snoc_of hr2 hg hi1 hap hfar
      refine h a' c' w' hk hg (.inr fun b o e => ?_)
      rcases hr.2 with ⟨_, h0⟩ | ⟨g', cap, cur, he, hB', _⟩
      · omega
      · simp only [Value.slice.injEq] at he
        rw [e] at he
        simp only [Option.some.injEq, Addr.mk.injEq, and_true] at he
        obtain ⟨⟨rfl, _⟩, _⟩ := he
        exact hB'
end Go.Proofs.Ytenlhfimdpcaoaa
