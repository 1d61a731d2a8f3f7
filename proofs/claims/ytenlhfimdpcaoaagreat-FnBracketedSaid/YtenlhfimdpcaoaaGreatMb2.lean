/-
  (The append of one element lies in OwnB.)
  rowsOf, ZeroMatrix, UnitMatrix.
  Matrices as rows and back: slices.Grow and Concat, unit, rowsOf, matrixOf, UnitMatrix, span.
  The law's own copies of algebras and of slices of a word and a number each.
  The law's own small functions on slices of a word and a number each.
  The reference's l11Ok and EnvOk. Printed by gen/trm2.py.
  The reference's check of an algebra answers as the program's: spec.AlgebraOk. Printed by gen5.py.
  The reference's law of Jacobi and its check of an algebra: l2Jacobi, spec.AlgebraOk.
  The reference's bracket of two elements: l2Bracket.
  The reference's sums and brackets: l2Plus, l2Bracket.
  The reference's small functions on lists: l1Residues, l1IsZero, l2Get, l2Row, l2Basis, l2Plus.
  Terms: slices of a word and a number each, in order; the reference's checks l11Word and l11Ok.
  Slices of structs of a word and a number each, read.
  Words: comparing lists of integers, by the library, the program and the reference.
  Owned slices of rows: read; begun; append of one element, with the new slice's place: where it was, or in a new block.
  The program's reduce: the walk.
  The program's reduce: rows brought into reduced form in place.
  Owned slices of elements that hold one slice of integers each (rows, terms, matrices): what they hold, and how it is kept and changed.
-/
import Derived.Test.YtenlhfimdpcaoaaGreatMb1
import Derived.RegionTactic
import Derived.ChangeAlike
import Derived.ArgAppend
import Derived.Lib.AppendZeros
namespace Go.Proofs.YtenlhfimdpcaoaaGreat
open Go.RowKit

def Apart (a a' : Option Addr) : Prop := ∀ b o b' o', a = some ⟨b, o, none⟩ → a' = some ⟨b', o', none⟩ → b ≠ b'
theorem Apart.symm {a a' : Option Addr} (h : Apart a a') : Apart a' a := fun b o b' o' e e' => (h b' o' b o e' e).symm

/-- a kind of elements: the type's number, how many cells, the integers that its slice holds, its cells where the slice lies at an address with a capacity -/
structure Knd (α : Type) where
  E : TypeId
  size : Nat
  dft : α
  ints : α → List Int
  put : α → List Int → α
  cells : Option Addr → Nat → α → List Value
  len : ∀ a c x, (cells a c x).length = size
  pos : 0 < size
  ne : E ≠ 3
  put_ints : ∀ x ys, ints (put x ys) = ys
  put_cells : ∀ a c x ys, ys.length = (ints x).length → cells a c (put x ys) = cells a c x
  one : ∀ a c x, ∀ u ∈ cells a c x, u.oneCell' = true

abbrev Hdr := Option Addr × Nat

variable {α : Type}
def Knd.all (K : Knd α) : List Hdr → List α → List Value
  | h :: hs, x :: xs => K.cells h.1 h.2 x ++ K.all hs xs
  | _, _ => []
theorem Knd.all_length (K : Knd α) (hs : List Hdr) (xs : List α) (h : hs.length = xs.length) : (K.all hs xs).length = xs.length * K.size := by
  induction hs generalizing xs with
  | nil => cases xs <;> simp_all [Knd.all]
  | cons a hs ih =>
    cases xs with
    | nil => simp at h
    | cons x xs =>
      simp only [Knd.all, List.length_append, K.len, List.length_cons]
      rw [ih xs (by simpa using h), Nat.add_mul, Nat.one_mul, Nat.add_comm]
theorem Knd.all_get (K : Knd α) (hs : List Hdr) (xs : List α) (h : hs.length = xs.length) (i j : Nat) (hi : i < xs.length) (hj : j < K.size) :
    (K.all hs xs)[i * K.size + j]? = (K.cells (hs.getD i (none, 0)).1 (hs.getD i (none, 0)).2 (xs.getD i K.dft))[j]? := by
  induction hs generalizing xs i with
  | nil => cases xs <;> simp_all
  | cons a hs ih =>
    cases xs with
    | nil => simp at h
    | cons x xs =>
      cases i with
      | zero =>
        simp only [Knd.all, Nat.zero_mul, Nat.zero_add, List.getD_cons_zero]
        rw [List.getElem?_append_left (by rw [K.len]; exact hj)]
      | succ i =>
        simp only [Knd.all, List.getD_cons_succ]
        rw [List.getElem?_append_right (by rw [K.len, Nat.add_mul]; omega), K.len, Nat.add_mul, Nat.one_mul, show i * K.size + K.size + j - K.size = i * K.size + j by omega]
        exact ih xs (by simpa using h) i (by simpa using hi)
theorem Knd.all_set (K : Knd α) (hs : List Hdr) (xs : List α) (h : hs.length = xs.length) (i j : Nat) (hi : i < xs.length) (hj : j < K.size) (v : Value) (h' : Hdr) (x' : α)
    (he : K.cells h'.1 h'.2 x' = (K.cells (hs.getD i (none, 0)).1 (hs.getD i (none, 0)).2 (xs.getD i K.dft)).set j v) :
    (K.all hs xs).set (i * K.size + j) v = K.all (hs.set i h') (xs.set i x') := by
  induction hs generalizing xs i with
  | nil => cases xs <;> simp_all
  | cons a hs ih =>
    cases xs with
    | nil => simp at h
    | cons x xs =>
      cases i with
      | zero =>
        simp only [List.getD_cons_zero] at he
        simp only [Knd.all, Nat.zero_mul, Nat.zero_add, List.set_cons_zero]
        rw [List.set_append_left _ _ (by rw [K.len]; exact hj), he]
      | succ i =>
        simp only [List.getD_cons_succ] at he
        simp only [Knd.all, List.set_cons_succ]
        rw [List.set_append_right _ _ (by rw [K.len, Nat.add_mul]; omega), K.len, Nat.add_mul, Nat.one_mul, show i * K.size + K.size + j - K.size = i * K.size + j by omega]
        rw [ih xs (by simpa using h) i (by simpa using hi) he]
theorem Knd.all_snoc (K : Knd α) (hs : List Hdr) (xs : List α) (h : hs.length = xs.length) (a : Hdr) (x : α) : K.all (hs ++ [a]) (xs ++ [x]) = K.all hs xs ++ K.cells a.1 a.2 x := by
  induction hs generalizing xs with
  | nil => cases xs <;> simp_all [Knd.all]
  | cons a hs ih =>
    cases xs with
    | nil => simp at h
    | cons x xs => simp only [Knd.all, List.cons_append, List.append_assoc]; rw [ih xs (by simpa using h)]
theorem Knd.all_take (K : Knd α) (hs : List Hdr) (xs : List α) (h : hs.length = xs.length) (m : Nat) : K.all (hs.take m) (xs.take m) = (K.all hs xs).take (m * K.size) := by
  induction hs generalizing xs m with
  | nil => cases xs <;> simp_all [Knd.all]
  | cons a hs ih =>
    cases xs with
    | nil => simp at h
    | cons x xs =>
      cases m with
      | zero => simp [Knd.all]
      | succ m =>
        simp only [Knd.all, List.take_succ_cons]
        have hm : m * K.size + K.size - K.size = m * K.size := by omega
        rw [ih xs (by simpa using h), List.take_append, K.len, Nat.add_mul, Nat.one_mul, hm, List.take_of_length_le (l := K.cells _ _ _) (by rw [K.len]; omega)]
theorem Knd.all_one (K : Knd α) (hs : List Hdr) (xs : List α) : ∀ u ∈ K.all hs xs, u.oneCell' = true := by
  induction hs generalizing xs with
  | nil => cases xs <;> simp [Knd.all]
  | cons a hs ih =>
    cases xs with
    | nil => simp [Knd.all]
    | cons x xs =>
      intro u hu
      simp only [Knd.all, List.mem_append] at hu
      rcases hu with hu | hu
      · exact K.one _ _ _ u hu
      · exact ih xs u hu

/-- an owned slice of elements whose slices of integers are owned, too, all in blocks of their own from B on and below U -/
structure OwnK (K : Knd α) (w : World) (B U : Nat) (a : Option Addr) (n c : Nat) (hs : List Hdr) (xs : List α) : Prop where
  row : w.ownsRow B K.E K.size (.slice a n c) n (K.all hs xs)
  hl : hs.length = n
  xl : xs.length = n
  each : ∀ i, i < n → OwnI w B (hs.getD i (none, 0)).1 (K.ints (xs.getD i K.dft)).length (hs.getD i (none, 0)).2 (K.ints (xs.getD i K.dft))
  apart : ∀ i j, i < n → j < n → i ≠ j → Apart (hs.getD i (none, 0)).1 (hs.getD j (none, 0)).1
  lt : ∀ i, i < n → ∀ b o, (hs.getD i (none, 0)).1 = some ⟨b, o, none⟩ → b < U
  olt : ∀ b o, a = some ⟨b, o, none⟩ → b < U

theorem OwnI.block {w : World} {B : Nat} {a : Option Addr} {n c : Nat} {xs : List Int} (h : OwnI w B a n c xs) {b o : Nat} (e : a = some ⟨b, o, none⟩) : ∃ cur, w.heap[b]? = some (.cells cur 3 (0, 0)) := by
  rcases h.row.2 with ⟨he, _⟩ | ⟨g, cap, cur, he, _, hg, _⟩
  · simp [e] at he
  · simp only [Value.slice.injEq] at he
    rw [e] at he
    simp only [Option.some.injEq, Addr.mk.injEq, and_true] at he
    obtain ⟨⟨rfl, _⟩, _⟩ := he
    exact ⟨_, hg⟩

namespace OwnK
variable {K : Knd α} {w w' : World} {B U : Nat} {a : Option Addr} {n c : Nat} {hs : List Hdr} {xs : List α}

theorem form (h : OwnK K w B U a n c hs xs) : (a = none ∧ n = 0 ∧ c = 0) ∨ ∃ g cur, a = some ⟨g, 0, none⟩ ∧ B ≤ g ∧ g < w.heap.size ∧ w.heap[g]? = some (.cells cur K.E (0, 0)) ∧ n ≤ c ∧ c ≤ maxLen := by
  rcases h.row.2 with ⟨he, h0⟩ | ⟨g, cap, cur, he, hB, hg, hnc, hcm, _⟩
  · simp only [Value.slice.injEq] at he
    exact .inl ⟨he.1, h0, he.2.2⟩
  · simp only [Value.slice.injEq, true_and] at he
    obtain ⟨rfl, rfl⟩ := he
    exact .inr ⟨g, cur, rfl, hB, (Array.getElem?_eq_some_iff.1 hg).1, hg, hnc, hcm⟩
theorem base_lt (h : OwnK K w B U a n c hs xs) : ∀ b o, a = some ⟨b, o, none⟩ → B ≤ b ∧ b < w.heap.size := by
  intro b o e
  rcases h.form with ⟨rfl, _⟩ | ⟨g, cur, rfl, hB, hl, _⟩
  · cases e
  · simp only [Option.some.injEq, Addr.mk.injEq, and_true] at e
    obtain ⟨rfl, _⟩ := e
    exact ⟨hB, hl⟩
theorem far (h : OwnK K w B U a n c hs xs) (i : Nat) (hi : i < n) : Apart a (hs.getD i (none, 0)).1 := by
  intro b o b' o' e e' hb
  subst hb
  obtain ⟨cur', hg'⟩ := (h.each i hi).block e'
  rcases h.form with ⟨rfl, _⟩ | ⟨g, cur, rfl, _, _, hg, _⟩
  · cases e
  · simp only [Option.some.injEq, Addr.mk.injEq, and_true] at e
    obtain ⟨rfl, _⟩ := e
    rw [hg] at hg'
    simp only [Option.some.injEq, Obj.cells.injEq] at hg'
    exact K.ne hg'.2.1
theorem cell (h : OwnK K w B U a n c hs xs) (i j : Nat) (hi : i < n) (hj : j < K.size) : ∃ g, a = some ⟨g, 0, none⟩ ∧
    w.cell? ⟨g, i * K.size + j, none⟩ = (K.cells (hs.getD i (none, 0)).1 (hs.getD i (none, 0)).2 (xs.getD i K.dft))[j]? ∧ w.frozen? ⟨g, i * K.size + j, none⟩ = false := by
  rcases h.form with ⟨_, h0, _⟩ | ⟨g, cur, rfl, _, _, _, _⟩
  · omega
  · have hll : i * K.size + j < n * K.size := by
      have : (i + 1) * K.size ≤ n * K.size := Nat.mul_le_mul_right _ hi
      rw [Nat.add_mul] at this
      omega
    refine ⟨g, rfl, ?_, h.row.frozenAt _⟩
    rw [h.row.cellAt _ hll, K.all_get hs xs (h.hl.trans h.xl.symm) i j (by rw [h.xl]; exact hi) hj]
theorem kept (h : OwnK K w B U a n c hs xs) {row : Option Nat} (hg : w.grownBy w' row) (ho : ∀ b o, a = some ⟨b, o, none⟩ → some b ≠ row) (hi : ∀ i, i < n → ∀ b o, (hs.getD i (none, 0)).1 = some ⟨b, o, none⟩ → some b ≠ row) : OwnK K w' B U a n c hs xs := by
  refine ⟨h.row.kept hg ?_, h.hl, h.xl, fun i hin => (h.each i hin).grown hg fun g o e => hi i hin g o e, h.apart, h.lt, h.olt⟩
  rcases h.form with ⟨rfl, _⟩ | ⟨g, cur, rfl, _⟩
  · exact .inl rfl
  · exact .inr (ho g 0 rfl)
theorem below (h : OwnK K w B U a n c hs xs) (hb : Ext w w') : OwnK K w' B U a n c hs xs :=
  h.kept (row := none) ⟨hb.os, hb.tape, hb.output, hb.size, fun k hk _ => hb.block k hk⟩ (by simp) (by simp)
theorem weaken (h : OwnK K w B U a n c hs xs) {B' U' : Nat} (hB : B' ≤ B) (hU : U ≤ U') : OwnK K w B' U' a n c hs xs := by
  refine ⟨⟨h.row.1, ?_⟩, h.hl, h.xl, fun i hi => (h.each i hi).base hB, h.apart, fun i hi b o e => Nat.lt_of_lt_of_le (h.lt i hi b o e) hU, fun b o e => Nat.lt_of_lt_of_le (h.olt b o e) hU⟩
  rcases h.row.2 with h2 | ⟨g, cap, cur, he, hB', r⟩
  · exact .inl h2
  · exact .inr ⟨g, cap, cur, he, Nat.le_trans hB hB', r⟩
/-- another slice's change -/
theorem others (h : OwnK K w B U a n c hs xs) {a' : Option Addr} {n' : Nat} {ys : List Int} (hu : UpdI w w' a' n' ys) (ho : Apart a' a) (hi : ∀ i, i < n → Apart a' (hs.getD i (none, 0)).1) : OwnK K w' B U a n c hs xs := by
  refine h.kept hu.grownBy (fun b o e => ?_) (fun i hin b o e => ?_)
  · cases hb : addrBlock a' with
    | none => simp
    | some b' =>
      obtain ⟨o', e'⟩ := addrBlock_some hb
      have := ho b' o' b o e' e
      simp only [ne_eq, Option.some.injEq]
      omega
  · cases hb : addrBlock a' with
    | none => simp
    | some b' =>
      obtain ⟨o', e'⟩ := addrBlock_some hb
      have := hi i hin b' o' b o e' e
      simp only [ne_eq, Option.some.injEq]
      omega
theorem getD_set {β : Type} (l : List β) (i j : Nat) (x d : β) (hi : i < l.length) : (l.set i x).getD j d = if i = j then x else l.getD j d := by
  simp only [List.getD_eq_getElem?_getD, List.getElem?_set]
  by_cases h : i = j
  · subst h; simp [hi]
  · simp [h]
/-- the outer slice's cells are changed, so that its elements come from elsewhere in it -/
theorem shuffled (h : OwnK K w B U a n c hs xs) {hs' : List Hdr} {xs' : List α} {g : Nat} (e : a = some ⟨g, 0, none⟩) (hr : w'.ownsRow B K.E K.size (.slice a n c) n (K.all hs' xs')) (hg : w.grownBy w' (some g))
    (hl' : hs'.length = n) (xl' : xs'.length = n) (σ : Nat → Nat) (hσ : ∀ i, i < n → σ i < n) (hinj : ∀ i j, i < n → j < n → σ i = σ j → i = j)
    (hh : ∀ i, i < n → hs'.getD i (none, 0) = hs.getD (σ i) (none, 0)) (hx : ∀ i, i < n → K.ints (xs'.getD i K.dft) = K.ints (xs.getD (σ i) K.dft)) : OwnK K w' B U a n c hs' xs' := by
  refine ⟨hr, hl', xl', fun i hi => ?_, fun i j hi hj hne => ?_, fun i hi b o e => ?_, h.olt⟩
  · rw [hh i hi, hx i hi]
    exact (h.each _ (hσ i hi)).grown hg fun b o e' => by
      have := h.far _ (hσ i hi) g 0 b o e e'
      simp only [ne_eq, Option.some.injEq]
      omega
  · rw [hh i hi, hh j hj]
    exact h.apart _ _ (hσ i hi) (hσ j hj) fun e => hne (hinj i j hi hj e)
  · rw [hh i hi] at e
    exact h.lt _ (hσ i hi) b o e
/-- one plain cell of an element is changed -/
theorem stored (h : OwnK K w B U a n c hs xs) (i j : Nat) (hi : i < n) (hj : j < K.size) (v : Value) (x' : α) (hx : K.ints x' = K.ints (xs.getD i K.dft))
    (he : K.cells (hs.getD i (none, 0)).1 (hs.getD i (none, 0)).2 x' = (K.cells (hs.getD i (none, 0)).1 (hs.getD i (none, 0)).2 (xs.getD i K.dft)).set j v) {g : Nat} (e : a = some ⟨g, 0, none⟩) :
    OwnK K (w.setCell ⟨g, i * K.size + j, none⟩ v) B U a n c hs (xs.set i x') := by
  have hlx := h.hl.trans h.xl.symm
  have hxl := h.xl
  have hhl := h.hl
  subst e
  obtain ⟨hr, hg⟩ := h.row.stored (i * K.size + j) v
  rw [K.all_set hs xs hlx i j (by omega) hj v (hs.getD i (none, 0)) x' he] at hr
  have hs' : hs.set i (hs.getD i (none, 0)) = hs := by
    apply List.ext_getElem?
    intro q
    rw [List.getElem?_set]
    split
    · rename_i e; subst e
      simp [List.getD_eq_getElem?_getD, show i < hs.length by omega]
    · rfl
  rw [hs'] at hr
  refine h.shuffled rfl hr hg h.hl (by rw [List.length_set, h.xl]) id (fun _ h => h) (fun _ _ _ _ h => h) (fun _ _ => rfl) fun q hq => ?_
  rw [getD_set _ _ _ _ _ (by omega)]
  split
  · rename_i e; subst e; exact hx
  · rfl
/-- the first elements -/
theorem take (h : OwnK K w B U a n c hs xs) (m : Nat) (hm : m ≤ n) : OwnK K w B U a m c (hs.take m) (xs.take m) := by
  have hlx := h.hl.trans h.xl.symm
  have gd : ∀ {β : Type} (l : List β) (i : Nat) (d : β), i < m → (l.take m).getD i d = l.getD i d := fun l i d hi => by simp [List.getD_eq_getElem?_getD, hi]
  refine ⟨⟨?_, ?_⟩, by simp [h.hl, hm], by simp [h.xl, hm], fun i hi => ?_, fun i j hi hj => ?_, fun i hi => ?_, h.olt⟩
  · rw [K.all_length _ _ (by simp [hlx])]; simp [h.xl, hm]
  · rcases h.row.2 with ⟨he, h0⟩ | ⟨g, cap, cur, he, hB, hg, hnc, hcm, hcs, ht⟩
    · simp only [Value.slice.injEq] at he
      obtain ⟨rfl, _, rfl⟩ := he
      have : m = 0 := by omega
      subst this
      exact .inl ⟨rfl, rfl⟩
    · simp only [Value.slice.injEq, true_and] at he
      obtain ⟨rfl, rfl⟩ := he
      refine .inr ⟨g, c, cur, rfl, hB, hg, by omega, hcm, hcs, ?_⟩
      rw [K.all_take hs xs hlx, ← ht, List.take_take, Nat.min_eq_left (Nat.mul_le_mul_right _ hm)]
  · rw [gd _ _ _ hi, gd _ _ _ hi]; exact h.each i (by omega)
  · rw [gd _ _ _ hi, gd _ _ _ hj]; exact h.apart i j (by omega) (by omega)
  · rw [gd _ _ _ hi]; exact h.lt i (by omega)
end OwnK

/-- rows of integers -/
def rowK : Knd (List Int) where
  E := 24
  size := 1
  dft := []
  ints := id
  put := fun _ ys => ys
  cells := fun a c x => [.slice a x.length c]
  len := fun _ _ _ => rfl
  pos := by decide
  ne := by decide
  put_ints := fun _ _ => rfl
  put_cells := fun a c x ys h => by simp only [id] at h; rw [h]
  one := fun a c x u hu => by simp only [List.mem_singleton] at hu; subst hu; rfl
end Go.Proofs.YtenlhfimdpcaoaaGreat

namespace Go.Proofs.YtenlhfimdpcaoaaGreat
open Go.RowKit

namespace Red
variable {w0 w w' : World} {B N : Nat} {a : Option Addr} {n c : Nat} {hs : List Hdr} {R : List (List Int)} {ap : Option Addr} {np cp : Nat} {P : List Int}
end Red
end Go.Proofs.YtenlhfimdpcaoaaGreat

namespace Go.Proofs.YtenlhfimdpcaoaaGreat
open Go.RowKit

theorem redStep_none {p : Int} {k n : Nat} {R : List (List Int)} {P : List Int} (hn : R.length = n) (hp : P.length ≤ n) (hz : ∀ i, P.length ≤ i → i < n → (R.getD i []).getD k 0 = 0) : redStep p k (R, P) = (R, P) := by
  unfold redStep
  simp only
  rw [findRow_none (by omega) (fun i h1 h2 => hz i h1 (by omega)), if_neg (Nat.lt_irrefl _)]
end Go.Proofs.YtenlhfimdpcaoaaGreat

namespace Go.Proofs.YtenlhfimdpcaoaaGreat
open Go.RowKit

/-- rows of integers, read -/
structure RowsI (w : World) (a : Option Addr) (n : Nat) (rows : List (List Int)) : Prop where
  len : rows.length = n
  get : ∀ i, i < n → ∃ b o a' c', a = some ⟨b, o, none⟩ ∧ w.cell? ⟨b, o + i, none⟩ = some (.slice a' (rows.getD i []).length c') ∧ IntsAt w a' (rows.getD i []).length (rows.getD i []) ∧ (a' = none → c' = 0)
theorem RowsI.below {w w' : World} {a : Option Addr} {n : Nat} {rows : List (List Int)} (h : RowsI w a n rows) (hb : Ext w w') : RowsI w' a n rows := by
  refine ⟨h.len, fun i hi => ?_⟩
  obtain ⟨b, o, a', c', rfl, hc, hr, hn⟩ := h.get i hi
  exact ⟨b, o, a', c', rfl, (hb.cell (p := ⟨b, o + i, none⟩) (World.block_lt_of_cell? w _ hc)).trans hc, hr.below hb, hn⟩
theorem OwnK.rowsI {w : World} {B U : Nat} {a : Option Addr} {n c : Nat} {hs : List Hdr} {xs : List (List Int)} (h : OwnK rowK w B U a n c hs xs) : RowsI w a n xs := by
  refine ⟨h.xl, fun i hi => ?_⟩
  obtain ⟨g, rfl, hc, _⟩ := h.cell i 0 hi (by decide)
  rw [show i * rowK.size + 0 = i from by show i * 1 + 0 = i; omega] at hc
  exact ⟨g, 0, _, _, rfl, by rw [Nat.zero_add, hc]; rfl, (h.each i hi).ints, (h.each i hi).nil_cap⟩
theorem flatten_take_succ (rows : List (List Int)) (i : Nat) (hi : i < rows.length) : (rows.take (i + 1)).flatten = (rows.take i).flatten ++ rows.getD i [] := by
  rw [List.take_succ_eq_append_getElem hi, List.flatten_append]
  simp [List.getD_eq_getElem?_getD, hi]
theorem flatten_take_le (rows : List (List Int)) (i : Nat) : (rows.take i).flatten.length ≤ rows.flatten.length := by
  conv => rhs; rw [← List.take_append_drop i rows, List.flatten_append, List.length_append]
  omega
theorem ownI_zeros (w : World) (n m : Nat) (B : Nat) (hB : B ≤ w.heap.size) (cap : Nat) (hc : cap = n + m) (hm : cap ≤ maxLen) :
    OwnI (w.alloc (.cells (Builtin.zeroCells #[.int .i64 0] n ++ Builtin.zeroCells #[.int .i64 0] m) 3)) B (some ⟨w.heap.size, 0, none⟩) 0 cap [] := by
  refine ⟨by simp [ivs], .inr ⟨w.heap.size, cap, _, rfl, hB, heap_alloc_new _ _, Nat.zero_le _, hm, ?_, by simp [ivs]⟩⟩
  simp [Builtin.zeroCells, hc]

/-- a new slice without elements -/
theorem OwnK.made0 {α : Type} (K : Knd α) (w : World) : OwnK K (w.alloc (.cells #[] K.E)) w.heap.size (w.alloc (.cells #[] K.E)).heap.size (some ⟨w.heap.size, 0, none⟩) 0 0 [] [] := by
  refine ⟨⟨by simp [Knd.all], .inr ⟨w.heap.size, 0, #[], rfl, Nat.le_refl _, heap_alloc_new _ _, Nat.le_refl _, by unfold maxLen; omega, by simp, by simp [Knd.all]⟩⟩, rfl, rfl, fun i h => by omega, fun i j h => by omega, fun i h => by omega, fun b o e => ?_⟩
  simp only [Option.some.injEq, Addr.mk.injEq, and_true] at e
  simp [← e.1]

theorem Tryz.info24 : (Tryz.prog.info? 24).map (fun i => (i.zero, i.size, i.bytes)) = some (some (.slice none 0 0), 1, 24) := by kernel_rfl
/-- the step 'append(rows, row)', row new -/
theorem OwnK.below_grown {α : Type} {K : Knd α} {w w' w0 : World} {B U : Nat} {a : Option Addr} {n c : Nat} {hs : List Hdr} {xs : List α} (h : OwnK K w B U a n c hs xs) (hg : w.grownBy w' (Value.slice a n c).ownBlock) (hb : Below B w0 w) (hB : B ≤ w.heap.size) : Below B w0 w' := by
  refine Below.grown hb hg hB fun k hk => ?_
  rcases h.form with ⟨rfl, _⟩ | ⟨g, cur, rfl, hBg, _⟩
  · simp [Value.ownBlock] at hk
  · simp [Value.ownBlock] at hk
    subst hk
    exact hBg

variable {α : Type}

/-- a' is a, or lies in a block from N on -/
def OrNew (N : Nat) (a a' : Option Addr) : Prop := a' = a ∨ ∀ b o, a' = some ⟨b, o, none⟩ → N ≤ b

theorem OwnK.snoc_of {K : Knd α} {w w' : World} {B U : Nat} {a : Option Addr} {n c : Nat} {hs : List Hdr} {xs : List α} (hown : OwnK K w B U a n c hs xs) {v' : Value} {h1 : Hdr} {x1 : α}
    (hr : w'.ownsRow B K.E K.size v' (n + 1) (K.all hs xs ++ K.cells h1.1 h1.2 x1)) (hg : w.grownBy w' (Value.slice a n c).ownBlock)
    (hi1 : OwnI w B h1.1 (K.ints x1).length h1.2 (K.ints x1)) (hap : ∀ i, i < n → Apart (hs.getD i (none, 0)).1 h1.1) (hfar : Apart a h1.1) :
    ∃ a' c', v' = .slice a' (n + 1) c' ∧ OwnK K w' B w'.heap.size a' (n + 1) c' (hs ++ [h1]) (xs ++ [x1]) := by
  rw [← K.all_snoc hs xs (hown.hl.trans hown.xl.symm)] at hr
  obtain ⟨a', c', rfl⟩ : ∃ a' c', v' = .slice a' (n + 1) c' := by
    rcases hr.2 with ⟨_, h0⟩ | ⟨g', cap, cur, he, _⟩
    · omega
    · exact ⟨_, _, he⟩
  refine ⟨a', c', rfl, ?_⟩
  have hxl := hown.xl
  have hhl := hown.hl
  have gd : ∀ {β : Type} (l : List β) (i : Nat) (x d : β), i < l.length → (l ++ [x]).getD i d = l.getD i d := fun l i x d hi => by simp [List.getD_eq_getElem?_getD, List.getElem?_append_left hi]
  have gl : ∀ {β : Type} (l : List β) (x d : β), (l ++ [x]).getD l.length d = x := fun l x d => by simp [List.getD_eq_getElem?_getD]
  have hne : ∀ q, q < n → ∀ b o, (hs.getD q (none, 0)).1 = some ⟨b, o, none⟩ → some b ≠ (Value.slice a n c).ownBlock := fun q hq b o e => by
    rcases hown.form with ⟨rfl, _⟩ | ⟨g', cur, rfl, _⟩
    · simp [Value.ownBlock]
    · have := hown.far q hq g' 0 b o rfl e
      simp only [Value.ownBlock, ne_eq, Option.some.injEq]
      omega
  have hne1 : ∀ b o, h1.1 = some ⟨b, o, none⟩ → some b ≠ (Value.slice a n c).ownBlock := fun b o e => by
    rcases hown.form with ⟨rfl, _⟩ | ⟨g', cur, rfl, _⟩
    · simp [Value.ownBlock]
    · have := hfar g' 0 b o rfl e
      simp only [Value.ownBlock, ne_eq, Option.some.injEq]
      omega
  have hev : ∀ q, q < n + 1 → OwnI w' B ((hs ++ [h1]).getD q (none, 0)).1 (K.ints ((xs ++ [x1]).getD q K.dft)).length ((hs ++ [h1]).getD q (none, 0)).2 (K.ints ((xs ++ [x1]).getD q K.dft)) := fun q hq => by
    rcases Nat.lt_succ_iff_lt_or_eq.1 hq with h3 | rfl
    · rw [gd _ _ _ _ (by omega), gd _ _ _ _ (by omega)]
      exact (hown.each q h3).grown hg fun b o e => hne q h3 b o e
    · have e1 : (hs ++ [h1]).getD q (none, 0) = h1 := by rw [← hhl]; exact gl _ _ _
      have e2 : (xs ++ [x1]).getD q K.dft = x1 := by rw [← hxl]; exact gl _ _ _
      rw [e1, e2]
      exact hi1.grown hg fun b o e => hne1 b o e
  refine ⟨hr, by simp [hhl], by simp [hxl], hev, fun q r hq hr' hqr => ?_, fun q hq b o e => ((hev q hq).at_base b o e).2, fun b o e => ?_⟩
  · rcases Nat.lt_succ_iff_lt_or_eq.1 hq with h3 | rfl
    · rw [gd hs q _ _ (by omega)]
      rcases Nat.lt_succ_iff_lt_or_eq.1 hr' with h4 | rfl
      · rw [gd hs r _ _ (by omega)]; exact hown.apart q r h3 h4 hqr
      · have e1 : (hs ++ [h1]).getD r (none, 0) = h1 := by rw [← hhl]; exact gl _ _ _
        rw [e1]; exact hap q h3
    · have e1 : (hs ++ [h1]).getD q (none, 0) = h1 := by rw [← hhl]; exact gl _ _ _
      rw [e1, gd hs r _ _ (by omega)]
      exact (hap r (by omega)).symm
  · rcases hr.2 with ⟨_, h0⟩ | ⟨g', cap, cur, he, _, hg', _⟩
    · omega
    · simp only [Value.slice.injEq] at he
      rw [e] at he
      simp only [Option.some.injEq, Addr.mk.injEq, and_true] at he
      obtain ⟨⟨rfl, _⟩, _⟩ := he
      exact (Array.getElem?_eq_some_iff.1 hg').1

/-- append of one element, whose cells lie in a new block, to an owned slice of such -/
theorem wpList_append_elem2 {ops : Array Oper} {rest : List Oper} {o : Oper} {av : Act} {Q : Exit → Act → World → Prop} {w : World} (K : Knd α) (T : TypeId) (z : Value) (bytes : Nat) (hgd : o.guard = none) (s x : Operand)
    (ho : o.op = .call { callee := .builtin .append, args := #[s, x], argTypes := #[T, T] }) (hT : Tryz.prog.underlying T = some (.slice K.E)) (hinfo : (Tryz.prog.info? K.E).map (fun i => (i.zero, i.size, i.bytes)) = some (some z, K.size, bytes))
    (hz : z.cells.size = K.size) (hbp : bytes ≤ 1000)
    (B U : Nat) (a : Option Addr) (n c : Nat) (hs : List Hdr) (xs : List α) (hsv : av.eval s = .slice a n c) (hown : OwnK K w B U a n c hs xs)
    (g m : Nat) (h1 : Hdr) (x1 : α) (hx : av.eval x = .slice (some ⟨g, 0, none⟩) 1 m) (hcl : ∀ j, j < K.size → w.cell? ⟨g, j, none⟩ = (K.cells h1.1 h1.2 x1)[j]?)
    (hi1 : OwnI w B h1.1 (K.ints x1).length h1.2 (K.ints x1)) (hap : ∀ i, i < n → Apart (hs.getD i (none, 0)).1 h1.1) (hfar : Apart a h1.1) (hsm : n ≤ 1000000000) (hB : B ≤ w.heap.size)
    (h : ∀ a' c' w', OwnK K w' B w'.heap.size a' (n + 1) c' (hs ++ [h1]) (xs ++ [x1]) → w.grownBy w' (Value.slice a n c).ownBlock → OrNew w.heap.size a a' → wpList Tryz.prog ops Q rest (av.put o.dst (.slice a' (n + 1) c')) w') : wpList Tryz.prog ops Q (o :: rest) av w := by
  obtain ⟨i, hi, hz0, hz1, hz2⟩ := info_parts hinfo
  have hcells : ∀ j u, (K.cells h1.1 h1.2 x1)[j]? = some u → w.cell? ((⟨g, 0, none⟩ : Addr).add j) = some u := by
    intro j u hu
    have hj : j < K.size := by have := (List.getElem?_eq_some_iff.1 hu).1; rwa [K.len] at this
    rw [add_none, Nat.zero_add, hcl j hj]
    exact hu
  by_cases hroom : n + 1 ≤ c
  · rcases hown.form with ⟨_, _, h0⟩ | ⟨g0, cur, rfl, _⟩
    · omega
    · refine wpList_append_fits w hgd s x T ho B K.E i K.size hT hi hz1 g0 n c (K.all hs xs) hsv hown.row ⟨g, 0, none⟩ 1 m (K.cells h1.1 h1.2 x1) hx (by rw [K.len, Nat.one_mul]) hcells (K.one _ _ _) hroom ?_
      intro w' hr hg
      obtain ⟨a', c', e, hk⟩ := hown.snoc_of hr hg hi1 hap hfar
      simp only [Value.slice.injEq] at e
      obtain ⟨rfl, _, rfl⟩ := e
      exact h _ _ w' hk hg (.inl rfl)
  · have hlx := K.all_length hs xs (hown.hl.trans hown.xl.symm)
    rw [hown.xl] at hlx
    refine wpList_append_grows w hgd s x T ho K.E i z K.size bytes hT hi hz0 hz1 hz2 hz K.pos a n c (K.all hs xs) hsv ?_ hlx ?_ ⟨g, 0, none⟩ 1 m (K.cells h1.1 h1.2 x1) hx (by rw [K.len, Nat.one_mul]) hcells (K.one _ _ _) (by omega) (by unfold maxLen; omega)
      (by calc (n + 1) * bytes ≤ 1000000001 * 1000 := Nat.mul_le_mul (by omega) hbp
            _ ≤ _ := by omega) ?_
    · intro e
      rcases hown.form with ⟨_, h1, h2⟩ | ⟨g0, cur, e2, _⟩
      · exact ⟨h1, h2⟩
      · rw [e] at e2; cases e2
    · intro b e j u hu
      rcases hown.form with ⟨e2, _⟩ | ⟨g0, cur, e2, _⟩
      · rw [e] at e2; cases e2
      · rw [e] at e2
        simp only [Option.some.injEq] at e2
        subst e2
        have hj : j < n * K.size := by have := (List.getElem?_eq_some_iff.1 hu).1; rwa [hlx] at this
        subst e
        rw [add_none, Nat.zero_add, hown.row.cellAt j hj]
        exact hu
    · intro v' w' hr hg0
      have hg : w.grownBy w' (Value.slice a n c).ownBlock := ⟨hg0.os, hg0.tape, hg0.output, hg0.size, fun k hk _ => hg0.block k hk (by simp)⟩
      have hr2 : w'.ownsRow B K.E K.size v' (n + 1) (K.all hs xs ++ K.cells h1.1 h1.2 x1) := by
        refine ⟨hr.1, ?_⟩
        rcases hr.2 with h2 | ⟨g', cap, cur, he, hB', r⟩
        · exact .inl h2
        · exact .inr ⟨g', cap, cur, he, Nat.le_trans hB hB', r⟩
      obtain ⟨a', c', rfl, hk⟩ := hown.snoc_of hr2 hg hi1 hap hfar
      refine h a' c' w' hk hg (.inr fun b o e => ?_)
      rcases hr.2 with ⟨_, h0⟩ | ⟨g', cap, cur, he, hB', _⟩
      · omega
      · simp only [Value.slice.injEq] at he
        rw [e] at he
        simp only [Option.some.injEq, Addr.mk.injEq, and_true] at he
        obtain ⟨⟨rfl, _⟩, _⟩ := he
        exact hB'
end Go.Proofs.YtenlhfimdpcaoaaGreat

namespace Go.Proofs.YtenlhfimdpcaoaaGreat
open Go.RowKit

def cmpI (a b : Int) : Int := if a < b then -1 else if b < a then 1 else 0
def lexC : List Int → List Int → Int
  | [], [] => 0
  | [], _ :: _ => -1
  | _ :: _, [] => 1
  | x :: xs, y :: ys => if cmpI x y != 0 then cmpI x y else lexC xs ys
def cmpW (xs ys : List Int) : Int := if cmpI xs.length ys.length != 0 then cmpI xs.length ys.length else lexC xs ys
theorem cmpI_self (a : Int) : cmpI a a = 0 := by simp [cmpI]
theorem cmpI_zero {a b : Int} (h : cmpI a b = 0) : a = b := by unfold cmpI at h; split at h; omega; split at h <;> omega
theorem lexC_drop (xs ys : List Int) (k : Nat) (h1 : k ≤ xs.length) (h2 : k ≤ ys.length) (h : ∀ j, j < k → xs.getD j 0 = ys.getD j 0) : lexC xs ys = lexC (xs.drop k) (ys.drop k) := by
  induction k generalizing xs ys with
  | zero => rfl
  | succ k ih =>
    match xs, ys with
    | [], _ => simp at h1
    | _ :: _, [] => simp at h2
    | x :: xs, y :: ys =>
      have h0 := h 0 (by omega)
      simp only [List.getD_cons_zero] at h0
      subst h0
      simp only [lexC, cmpI_self, List.drop_succ_cons, bne_self_eq_false, Bool.false_eq_true, if_false]
      exact ih xs ys (by simpa using h1) (by simpa using h2) (fun j hj => by have := h (j + 1) (by omega); simpa using this)
theorem lexC_at (xs ys : List Int) (k : Nat) (h1 : k < xs.length) (h2 : k < ys.length) (h : ∀ j, j < k → xs.getD j 0 = ys.getD j 0) (hne : cmpI (xs.getD k 0) (ys.getD k 0) ≠ 0) : lexC xs ys = cmpI (xs.getD k 0) (ys.getD k 0) := by
  rw [lexC_drop xs ys k (by omega) (by omega) h, List.drop_eq_getElem_cons h1, List.drop_eq_getElem_cons h2]
  simp only [List.getD_eq_getElem?_getD, List.getElem?_eq_getElem h1, List.getElem?_eq_getElem h2, Option.getD_some] at hne ⊢
  simp [lexC, hne]
theorem lexC_end_x (xs ys : List Int) (h1 : xs.length < ys.length) (h : ∀ j, j < xs.length → xs.getD j 0 = ys.getD j 0) : lexC xs ys = -1 := by
  rw [lexC_drop xs ys xs.length (by omega) (by omega) h, List.drop_length, List.drop_eq_getElem_cons h1]
  rfl
theorem lexC_end_y (xs ys : List Int) (h1 : ys.length < xs.length) (h : ∀ j, j < ys.length → xs.getD j 0 = ys.getD j 0) : lexC xs ys = 1 := by
  rw [lexC_drop xs ys ys.length (by omega) (by omega) h, List.drop_length, List.drop_eq_getElem_cons h1]
  rfl
theorem lexC_end (xs ys : List Int) (h1 : ys.length = xs.length) (h : ∀ j, j < ys.length → xs.getD j 0 = ys.getD j 0) : lexC xs ys = 0 := by
  rw [lexC_drop xs ys ys.length (by omega) (by omega) h, List.drop_length, h1, List.drop_length]
  rfl

set_option maxHeartbeats 1000000 in
theorem l6Above_any (a a' : Option Addr) (n n' c c' : Nat) (xs ys : List Int) (w : World) (h : IntsAt w a n xs) (h' : IntsAt w a' n' ys) (hn : n ≤ 9223372036854775807) (hn' : n' ≤ 9223372036854775807) :
    Calls Tryz.prog 212 #[.slice a n c, .slice a' n' c'] w fun e w' => e = .returned (.bool (decide (0 < lexC xs ys))) ∧ Ext w w' := by
  have G := hidP h
  have G' := hidP h'
  have L := hidP h.len
  have L' := hidP h'.len
  clear h h'
  go_enter Tryz.func212, Tryz.ntmps212
  go_wp2
  go_loopw [5] (fun i wr => ∃ k m : Nat, k ≤ n ∧ k ≤ n' ∧ Hid (∀ j, j < k → xs.getD j 0 = ys.getD j 0) ∧ i = .int .i64 k ∧ wr = w.drewN m) (fun i _ => n - (intOf i).toNat)
  case atStart => exact ⟨0, 0, Nat.zero_le _, Nat.zero_le _, fun j h => by omega, rfl, rfl⟩
  case round =>
    obtain ⟨k, m, hk, hk', HJ, rfl, rfl⟩ := hrel
    by_cases hlt : k < n
    · obtain ⟨b, o, rfl, q⟩ := G.out.get k hlt
      by_cases hlt' : k < n'
      · obtain ⟨b', o', rfl, q'⟩ := G'.out.get k hlt'
        by_cases hd : xs.getD k 0 = ys.getD k 0
        · have hb : (xs[k]?.getD 0 != ys[k]?.getD 0) = false := by simpa [List.getD_eq_getElem?_getD] using hd
          have HD := hidP hd
          clear hd
          go_wp2
          go_quiet (fail)
          go_wp2
          go_roundw
          case rel =>
            refine ⟨k + 1, m + nq, by omega, by omega, fun j hj => ?_, by go_num, by simp⟩
            rcases Nat.lt_succ_iff_lt_or_eq.1 hj with h3 | rfl
            · exact HJ.out j h3
            · exact HD.out
          case measure => simp [intOf]; omega
        · have hb : (xs[k]?.getD 0 != ys[k]?.getD 0) = true := by simpa [List.getD_eq_getElem?_getD] using hd
          have HB := hidP (lexC_at xs ys k (by have := L.out; omega) (by have := L'.out; omega) HJ.out (fun e => hd (cmpI_zero e)))
          have HD : Hid (decide (0 < lexC xs ys) = decide (ys[k]?.getD 0 < xs[k]?.getD 0)) := by
            show _ = _
            rw [HB.out, List.getD_eq_getElem?_getD, List.getD_eq_getElem?_getD]
            unfold cmpI
            split
            · simp; omega
            · split
              · simp; omega
              · simp; omega
          clear hd
          go_wp2
          go_quiet (fail)
          go_wp2
          go_quiet (fail)
          go_wp2
          go_ret
          refine ⟨ret_bool HD.out.symm, ?_⟩
          simp only [World.drewN_drewN]
          exact Ext.drewN _ _
      · have HB := hidP (lexC_end_y xs ys (by have := L.out; have := L'.out; omega) fun j hj => HJ.out j (by have := L'.out; omega))
        have HD : Hid (decide (0 < lexC xs ys) = true) := by show _ = _; rw [HB.out]; rfl
        have hgt : n' < n := by omega
        go_wp2
        go_ret
        exact ⟨ret_bool HD.out.symm, Ext.drewN _ _⟩
    · obtain rfl : k = n := by omega
      by_cases hl : k < n'
      · have HB := hidP (lexC_end_x xs ys (by have := L.out; have := L'.out; omega) fun j hj => HJ.out j (by have := L.out; omega))
        have HD : Hid (decide (0 < lexC xs ys) = false) := by show _ = _; rw [HB.out]; rfl
        have hgt : ¬ n' < k := by omega
        go_wp2
        go_ret
        exact ⟨ret_bool HD.out.symm, Ext.drewN _ _⟩
      · have HB := hidP (lexC_end xs ys (by have := L.out; have := L'.out; omega) fun j hj => HJ.out j (by have := L'.out; omega))
        have HD : Hid (decide (0 < lexC xs ys) = false) := by show _ = _; rw [HB.out]; rfl
        have hgt : ¬ n' < k := by omega
        go_wp2
        go_ret
        exact ⟨ret_bool HD.out.symm, Ext.drewN _ _⟩
theorem lexC_swap (xs ys : List Int) : lexC ys xs = - lexC xs ys := by
  induction xs generalizing ys with
  | nil => cases ys <;> simp [lexC]
  | cons x xs ih =>
    cases ys with
    | nil => simp [lexC]
    | cons y ys =>
      have h1 : cmpI y x = - cmpI x y := by unfold cmpI; split <;> split <;> (try split) <;> omega
      simp only [lexC, ih ys, h1]
      by_cases h : cmpI x y = 0
      · simp [h]
      · simp [h]
set_option maxHeartbeats 1000000 in
theorem l11Before_any (a a' : Option Addr) (n n' c c' : Nat) (xs ys : List Int) (w : World) (h : IntsAt w a n xs) (h' : IntsAt w a' n' ys) (hn : n ≤ 9223372036854775807) (hn' : n' ≤ 9223372036854775807) :
    Calls Tryz.prog 206 #[.slice a n c, .slice a' n' c'] w fun e w' => e = .returned (.bool (decide (cmpW xs ys < 0))) ∧ Ext w w' := by
  have HC := hidP (l6Above_any a' a n' n c' c ys xs w h' h hn' hn)
  by_cases hne : n = n'
  · have HD : Hid (decide (cmpW xs ys < 0) = decide (0 < lexC ys xs)) := by
      show _ = _
      unfold cmpW
      rw [h.len, h'.len, hne, cmpI_self]
      simp only [bne_self_eq_false, Bool.false_eq_true, if_false]
      rw [lexC_swap xs ys]
      congr 1
      simp
    have hb : (((n : Nat) : Int) != (n' : Nat)) = false := by simp [hne]
    clear h h' hne
    go_enter Tryz.func206, Tryz.ntmps206
    go_wp2_with (go_at_call 212; refine HC.out.mono ?_; rintro e w' ⟨rfl, hx⟩)
    go_ret
    exact ⟨ret_bool HD.out.symm, hx⟩
  · have HD : Hid (decide (cmpW xs ys < 0) = decide (n < n')) := by
      show _ = _
      have : cmpI (n : Int) n' ≠ 0 := fun e => hne (by have := cmpI_zero e; omega)
      unfold cmpW
      rw [h.len, h'.len]
      simp only [bne_iff_ne, ne_eq, this, not_false_eq_true, if_true]
      unfold cmpI at this ⊢
      split
      · simp; omega
      · split
        · simp; omega
        · simp; omega
    have hb : (((n : Nat) : Int) != (n' : Nat)) = true := bne_iff_ne.2 (by omega)
    clear h h' hne
    go_enter Tryz.func206, Tryz.ntmps206
    go_wp2
    go_ret
    exact ⟨ret_bool HD.out.symm, Ext.refl _⟩
end Go.Proofs.YtenlhfimdpcaoaaGreat

namespace Go.Proofs.YtenlhfimdpcaoaaGreat
open Go.RowKit

end Go.Proofs.YtenlhfimdpcaoaaGreat

namespace Go.Proofs.YtenlhfimdpcaoaaGreat
open Go.RowKit

end Go.Proofs.YtenlhfimdpcaoaaGreat

namespace Go.Proofs.YtenlhfimdpcaoaaGreat
open Go.RowKit

set_option maxHeartbeats 1000000 in
theorem l2Get_any (p : Int) (d i j k : Nat) (b o N c : Nat) (t : List Int) (w : World) (ht : IntsAt w (some ⟨b, o, none⟩) N t) (hd : d ≤ 28) (hi : i < d) (hj : j < d) (hk : k < d) (hN : N = d * d * d) :
    Calls Tryz.prog 177 #[algV p d (some ⟨b, o, none⟩) N c, .int .i64 i, .int .i64 j, .int .i64 k] w fun e w' => e = .returned (.int .i64 (tab t d i j k)) ∧ Ext w w' := by
  have hx := nidx_lt hi hj
  have h1 : i * d ≤ 28 * 28 := Nat.mul_le_mul (by omega) hd
  have h2 : (i * d + j) * d ≤ 900 * 28 := Nat.mul_le_mul (by omega) hd
  have e2 : 0 ≤ (i : Int) * d := Int.mul_nonneg (by omega) (by omega)
  have e3 : (i : Int) * d ≤ 784 := by
    have : ((i * d : Nat) : Int) ≤ 784 := by omega
    rwa [Int.natCast_mul] at this
  have hq := ht.atc ((i * d + j) * d + k) (by omega)
  have HT : Hid (tab t d i j k = t.getD ((i * d + j) * d + k) 0) := rfl
  obtain ⟨m, hm⟩ : ∃ m, (i * d + j) * d = m := ⟨_, rfl⟩
  have e4 : ((i : Int) * d + j) * d = (m : Int) := by rw [← hm]; simp
  rw [hm] at hx h2 hq HT
  have hlt : m + k < N := by omega
  have hq2 : (w.alloc (.cells #[.int .i64 p, .int .i64 (d : Int), .slice (some ⟨b, o, none⟩) N c] 26)).cell? ⟨b, o + (m + k), none⟩ = some (.int .i64 (t.getD (m + k) 0)) :=
    ((Ext.alloc w _).cell (p := ⟨b, o + (m + k), none⟩) (World.block_lt_of_cell? w _ hq)).trans hq
  have hbw := World.block_lt_of_cell? w _ hq
  have HTL := hidP hN
  clear hm h1 hx ht hN hq2
  go_enter Tryz.func177, Tryz.ntmps177
  go_wp2
  go_ret
  exact ⟨ret_int HT.out.symm, Ext.alloc _ _⟩
/-- the basis element k -/
def basisL (n k : Nat) : List Int := (List.replicate n 0).set k 1
theorem l2Basis_any (n k : Nat) (w : World) (hk : k < n) (hn : n ≤ 1000000) :
    Calls Tryz.prog 190 #[.int .i64 n, .int .i64 k] w fun e w' => ∃ a, e = .returned (.slice a n n) ∧ OwnI w' w.heap.size a n n (basisL n k) ∧ Ext w w' := by
  have hm := OwnI.made w w.heap.size n (Nat.le_refl _) (by unfold maxLen; omega)
  have hu := (UpdI.start hm.ints).store k hk 1
  have HO := hidP (hu.own hm)
  have HX := hidP (hu.below (Ext.alloc w _) (by simp) (fun b o e _ => by cases e; exact Nat.le_refl _))
  have hmk := make_ints (n : Int) (by omega) (by omega)
  simp only [Int.toNat_natCast] at hmk
  clear hm hu
  go_enter Tryz.func190, Tryz.ntmps190
  go_wp2
  have hw : (w.alloc (.cells ((Array.replicate n (.int .i64 0)).setIfInBounds k (.int .i64 1)) 3)) = ((w.alloc (.cells (Array.replicate n (.int .i64 0)) 3)).setCell ⟨w.heap.size, 0 + k, none⟩ (.int .i64 1)) := by
    rw [Nat.zero_add, World.setCell_alloc_at]
    rfl
  rw [hw]
  go_ret
  exact ⟨_, rfl, HO.out, HX.out⟩
end Go.Proofs.YtenlhfimdpcaoaaGreat

namespace Go.Proofs.YtenlhfimdpcaoaaGreat
open Go.RowKit

end Go.Proofs.YtenlhfimdpcaoaaGreat

namespace Go.Proofs.YtenlhfimdpcaoaaGreat
open Go.RowKit

/-- the bracket, up to the first i rows and j places of the next one -/
def brTo (p : Int) (t : List Int) (d : Nat) (x y : List Int) (i j : Nat) : List Int :=
  modL p d fun k => sumTo i (fun i' => sumTo d fun j' => x.getD i' 0 * y.getD j' 0 * tab t d i' j' k) + sumTo j fun j' => x.getD i 0 * y.getD j' 0 * tab t d i j' k
/-- the bracket of two elements -/
def brL (p : Int) (t : List Int) (d : Nat) (x y : List Int) : List Int :=
  modL p d fun k => sumTo d fun i' => sumTo d fun j' => x.getD i' 0 * y.getD j' 0 * tab t d i' j' k
theorem sumTo_zero_of {n : Nat} {f : Nat → Int} (h : ∀ i, i < n → f i = 0) : sumTo n f = 0 := by
  induction n with
  | zero => rfl
  | succ n ih => rw [sumTo, ih (fun i hi => h i (by omega)), h n (by omega)]; rfl
theorem brTo_zero (p : Int) (t : List Int) (d : Nat) (x y : List Int) : brTo p t d x y 0 0 = List.replicate d 0 := by
  rw [← modL_zero p]
  rfl
theorem brTo_all (p : Int) (t : List Int) (d : Nat) (x y : List Int) : brTo p t d x y d 0 = brL p t d x y := by
  unfold brTo brL
  apply modL_congr
  intro m _
  simp [sumTo]
theorem brTo_row (p : Int) (t : List Int) (d : Nat) (x y : List Int) (i : Nat) : brTo p t d x y i d = brTo p t d x y (i + 1) 0 := by
  unfold brTo
  apply modL_congr
  intro m _
  simp only [sumTo, Int.add_zero]
theorem brTo_skip (p : Int) (t : List Int) (d : Nat) (x y : List Int) (i : Nat) (h : x.getD i 0 = 0) : brTo p t d x y (i + 1) 0 = brTo p t d x y i 0 := by
  unfold brTo
  apply modL_congr
  intro m _
  simp only [sumTo, Int.add_zero]
  rw [sumTo_zero_of (n := d) (fun j _ => by rw [h]; simp), Int.add_zero]
theorem brTo_succ (p : Int) (t : List Int) (d : Nat) (x y : List Int) (i j : Nat) : brTo p t d x y i (j + 1) = addL p (brTo p t d x y i j) ((x.getD i 0 * y.getD j 0) % p) (pairL t d i j) := by
  unfold brTo
  rw [addL_modL]
  apply modL_congr
  intro m hm
  rw [pairL_get i j m hm]
  simp only [sumTo]
  rw [← Int.add_assoc, Int.add_emod, Int.mul_emod _ (tab t d i j m), ← Int.add_emod]
  conv => rhs; rw [Int.add_emod, Int.mul_emod _ (tab t d i j m), Int.emod_emod, ← Int.add_emod]
theorem brTo_same (p : Int) (t : List Int) (d : Nat) (x y : List Int) (i j : Nat) (h : (x.getD i 0 * y.getD j 0) % p = 0) : brTo p t d x y i (j + 1) = brTo p t d x y i j := by
  rw [brTo_succ, h]
  unfold brTo
  rw [addL_modL]
  apply modL_congr
  intro m _
  rw [Int.zero_mul, Int.add_zero]
theorem brTo_length (p : Int) (t : List Int) (d : Nat) (x y : List Int) (i j : Nat) : (brTo p t d x y i j).length = d := modL_length _ _ _
theorem brTo_res {p : Int} (hp : 0 < p) (t : List Int) (d : Nat) (x y : List Int) (i j : Nat) : Res p (brTo p t d x y i j) := Res.modL hp _ _
theorem brL_length (p : Int) (t : List Int) (d : Nat) (x y : List Int) : (brL p t d x y).length = d := modL_length _ _ _
theorem partly_same (xs : List Int) (j : Nat) : partly xs xs j = xs := by simp [partly]

set_option maxRecDepth 100000 in
set_option maxHeartbeats 4000000 in
theorem l2Bracket_any (p : Int) (d N c cu cv : Nat) (at' au av : Option Addr) (t u v : List Int) (w : World) (hd : d ≤ 28) (hN : N = d * d * d)
    (ht : IntsAt w at' N t) (hu : IntsAt w au d u) (hv : IntsAt w av d v) (hp : 1 ≤ p) (hp2 : p ≤ 10007) (hrt : Res p t) (hru : Res p u) (hrv : Res p v) :
    Calls Tryz.prog 183 #[algV p d at' N c, .slice au d cu, .slice av d cv] w fun e w' => ∃ a, e = .returned (.slice a d d) ∧ OwnI w' w.heap.size a d d (brL p t d u v) ∧ Ext w w' := by
  have HM := hidP (OwnI.made (w.alloc (.cells #[.int .i64 p, .int .i64 (d : Int), .slice at' N c] 26)) (w.heap.size + 1) d (by simp) (by unfold maxLen; omega))
  have hmk := make_ints (d : Int) (by omega) (by omega)
  simp only [Int.toNat_natCast] at hmk
  have HT := hidP ht
  have HU := hidP hu
  have HV := hidP hv
  have HRT := hidP hrt
  have HRU := hidP hru
  have HRV := hidP hrv
  have LU := hidP hu.len
  have LV := hidP hv.len
  have HAL := hidP (AlgAt.new w _ rfl p d at' N c 26)
  have HX1 := hidP (Ext.alloc w (.cells #[.int .i64 p, .int .i64 (d : Int), .slice at' N c] 26))
  have LT := hidP (ht.len.trans hN)
  have HN := hidP hN
  have hpz : ¬ p = 0 := by omega
  clear ht hu hv hrt hru hrv hN
  go_enter Tryz.func183, Tryz.ntmps183
  go_wp2
  obtain ⟨w0, hw0⟩ : ∃ w0, w0 = w.alloc (.cells #[.int .i64 p, .int .i64 (d : Int), .slice at' N c] 26) := ⟨_, rfl⟩
  rw [← hw0] at HM HAL HX1 ⊢
  have hsz : w0.heap.size = w.heap.size + 1 := by rw [hw0]; simp
  obtain ⟨w1, hw1⟩ : ∃ w1, w1 = w0.alloc (.cells (Array.replicate d (.int .i64 0)) 3) := ⟨_, rfl⟩
  rw [← hw1] at HM ⊢
  rw [hsz] at HM
  have hx01 : Ext w0 w1 := by rw [hw1]; exact Ext.alloc _ _
  have HX01 := hidP hx01
  have HAL1 := hidP (HAL.out.below hx01)
  have hst := UpdI.start HM.out.ints
  rw [← brTo_zero p t d u v] at hst
  have HST := hidP hst
  have hsz1 : w.heap.size + 1 < w1.heap.size := by rw [hw1]; simp; omega
  have HAR := hidP (fun wr ys (h : UpdI w1 wr (some ⟨w.heap.size + 1, 0, none⟩) d ys) => (⟨h.own HM.out, HAL1.out.upd h (fun b' o' e => by cases e; omega),
    Below.trans (HX1.out.trans HX01.out) ((h.below (Below.refl _ _) (by omega) (fun b' o' e _ => by cases e; omega) : Below (w.heap.size + 1) w1 wr).mono (by omega))⟩ :
      OwnI wr (w.heap.size + 1) (some ⟨w.heap.size + 1, 0, none⟩) d d ys ∧ AlgAt wr w.heap.size p d at' N c ∧ Ext w wr))
  clear hw0 hw1 hx01 hst hmk hsz
  go_loopw [9] (fun i wr => ∃ k : Nat, k ≤ d ∧ Hid (UpdI w1 wr (some ⟨w.heap.size + 1, 0, none⟩) d (brTo p t d u v k 0)) ∧ i = .int .i64 k) (fun i _ => d - (intOf i).toNat)
  case atStart => exact ⟨0, Nat.zero_le _, HST, rfl⟩
  case round =>
    obtain ⟨i, hi, HUP, rfl⟩ := hrel
    by_cases hlt : i < d
    · obtain ⟨hO, hA, hx⟩ := HAR.out _ _ HUP.out
      obtain ⟨bu, ou, rfl, q⟩ := (HU.out.below hx).get i hlt
      by_cases hz : u.getD i 0 = 0
      · have hb : (u[i]?.getD 0 == 0) = true := by simpa [List.getD_eq_getElem?_getD] using hz
        have HS := hidP (brTo_skip p t d u v i hz)
        clear hz hO hA hx
        go_wp2
        go_roundw
        case rel => exact ⟨i + 1, by omega, (by rw [HS.out]; exact HUP.out), by go_num⟩
        case measure => simp [intOf]; omega
      · have hb : (u[i]?.getD 0 == 0) = false := by simpa [List.getD_eq_getElem?_getD] using hz
        clear hz hO hA hx
        obtain ⟨wo, rfl⟩ : ∃ wo : World, wo = wr := ⟨_, rfl⟩
        go_wp2
        clear q
        go_loopw [10] (fun v' wr => ∃ j : Nat, j ≤ d ∧ Hid (UpdI w1 wr (some ⟨w.heap.size + 1, 0, none⟩) d (brTo p t d u v i j)) ∧ v' = .int .i64 j) (fun i _ => d - (intOf i).toNat)
        case atStart => exact ⟨0, Nat.zero_le _, HUP, rfl⟩
        case round =>
          obtain ⟨j, hj, HUP2, rfl⟩ := hrel
          by_cases hjl : j < d
          · obtain ⟨hO, hA, hx⟩ := HAR.out _ _ HUP2.out
            have qi := ((HU.out.below hx)).atc i hlt
            obtain ⟨bv, ov, rfl, qv⟩ := (HV.out.below hx).get j hjl
            have f0 := hA.c0
            have ru := HRU.out i (by have := LU.out; omega)
            have rv := HRV.out j (by have := LV.out; omega)
            have HS := hidP (brTo_succ p t d u v i j)
            have HZ := hidP (brTo_same p t d u v i j)
            have hxy0 : 0 ≤ u.getD i 0 * v.getD j 0 := Int.mul_nonneg ru.1 rv.1
            have hxy1 : u.getD i 0 * v.getD j 0 ≤ 10007 * 10007 := Int.mul_le_mul (by omega) (by omega) rv.1 (by omega)
            have ef0 : 0 ≤ (u.getD i 0 * v.getD j 0) % p := Int.emod_nonneg _ hpz
            have ef1 : (u.getD i 0 * v.getD j 0) % p < p := Int.emod_lt_of_pos _ (by omega)
            clear ru rv
            generalize u.getD i 0 = x at *
            generalize v.getD j 0 = y at *
            have e1 : IntKind.i64.wrap (x * y) = x * y := wrap_in (by omega) (by omega)
            have e2 : Int.tmod (x * y) p = (x * y) % p := Int.tmod_eq_emod_of_nonneg (by omega)
            generalize hf : (x * y) % p = f at *
            clear hb hO hA hx hxy0 hxy1 hf
            go_wp2
            go_quiet (fail)
            clear qi qv e1 e2 f0
            have LB := hidP (brTo_length p t d u v i j)
            have LB2 := hidP (brTo_length p t d u v i (j + 1))
            have HUP3 := hidP (HUP2.out.drewN nq)
            obtain ⟨wo2, hwo2⟩ : ∃ wo2 : World, wo2 = wr.drewN nq := ⟨_, rfl⟩
            rw [← hwo2] at HUP3 ⊢
            clear hwo2 HUP2
            go_wp2
            go_loopw [12] (fun v' wr => ∃ k : Nat, k ≤ d ∧ Hid (UpdI w1 wr (some ⟨w.heap.size + 1, 0, none⟩) d (partly (brTo p t d u v i j) (brTo p t d u v i (j + 1)) k)) ∧ v' = .int .i64 k) (fun i _ => d - (intOf i).toNat)
            case atStart => exact ⟨0, Nat.zero_le _, by rw [partly_zero]; exact HUP3, rfl⟩
            case round =>
              obtain ⟨k, hk, HUP4, rfl⟩ := hrel
              by_cases hkl : k < d
              · by_cases hfz : f = 0
                · have hu := HUP4.out
                  rw [HZ.out hfz, partly_same, ← HZ.out hfz] at hu
                  have HU5 := hidP hu
                  have hb2 : (f != 0) = false := by simpa using hfz
                  clear hu hfz
                  go_wp2
                  go_roundw
                  case rel => exact ⟨j + 1, by omega, HU5.out, by go_num⟩
                  case measure => simp [intOf]; omega
                · have hb2 : (f != 0) = true := by simpa using hfz
                  have hdN : 0 < N := by rw [HN.out]; exact Nat.mul_pos (Nat.mul_pos (by omega) (by omega)) (by omega)
                  obtain ⟨bt, ot, rfl, _⟩ := HT.out.get 0 hdN
                  obtain ⟨hO, hA, hx⟩ := HAR.out _ _ HUP4.out
                  obtain ⟨q, hfr⟩ := HUP4.out.cellInt k hkl
                  rw [partly_get _ _ k d hkl LB.out LB2.out, Nat.zero_add] at q
                  have ra := brTo_res (by omega : 0 < p) t d u v i j k (by have := LB.out; omega)
                  have rt : 0 ≤ tab t d i j k ∧ tab t d i j k < p := HRT.out _ (by have := LT.out; have := nidx_lt hlt hjl; omega)
                  have hval : (brTo p t d u v i (j + 1)).getD k 0 = ((brTo p t d u v i j).getD k 0 + f * tab t d i j k) % p := by
                    rw [HS.out, addL_get _ _ _ _ _ (by have := LB.out; omega), pairL_get i j k hkl]
                  have HG := hidP (fun w' (hx' : Ext wr w') => l2Get_any p d i j k bt ot N c t w' (HT.out.below (hx.trans hx')) hd hlt hjl hkl HN.out)
                  have HF := hidP (fun w' (hx' : Ext wr w') => (⟨(hA.below hx').c0, (hA.below hx').c1, (hA.below hx').c2, (hx'.cell (p := ⟨w.heap.size + 1, k, none⟩) (World.block_lt_of_cell? wr _ q)).trans q⟩ : _ ∧ _ ∧ _ ∧ _))
                  have HST2 := hidP (fun w' (hx' : Ext wr w') => (HUP4.out.ext hx').store k hkl ((brTo p t d u v i (j + 1)).getD k 0))
                  rw [partly_succ _ _ d k hkl LB.out LB2.out] at HST2
                  have HCL := hidP (fun w' (hx' : Ext wr w') => (HUP4.out.ext hx').cellInt k hkl)
                  have HO4 := hidP (hO.unfrozen k _ _ hkl rfl)
                  generalize tab t d i j k = tv at *
                  rw [hval] at HST2
                  generalize (brTo p t d u v i j).getD k 0 = av at *
                  have m0 : 0 ≤ f * tv := Int.mul_nonneg ef0 rt.1
                  have m1 : f * tv ≤ 10007 * 10007 := Int.mul_le_mul (by omega) (by omega) rt.1 (by omega)
                  have e1 : IntKind.i64.wrap (f * tv) = f * tv := wrap_in (by omega) (by omega)
                  have e2 : IntKind.i64.wrap (av + f * tv) = av + f * tv := wrap_in (by omega) (by omega)
                  have e3 : Int.tmod (av + f * tv) p = (av + f * tv) % p := Int.tmod_eq_emod_of_nonneg (by omega)
                  clear hfz hval m0 m1 ra rt hO hA hx q hfr hdN
                  go_wp2
                  have hE : Ext wr wr.drew := Ext.drew wr
                  (refine walkR_start (fun w' => Ext wr w') 18 (by kernel_rfl) ?_; simp only [numbered, List.take_succ_cons, List.take_zero, Nat.zero_add, Nat.reduceAdd, List.length_cons, List.length_nil])
                  repeat (refine walkR_still (v := ?_) rfl (by decide +kernel) rfl (fun _ _ _ h => h) hE ?_ ?_; rotate_left; (focus (intro w' hw'; obtain ⟨f0, f1, f2, f3⟩ := HF.out w' hw'; go_simp; all_goals (with_reducible rfl))); simp only [Act.put, List.setIfInBounds_toArray, List.set_cons_zero, List.set_cons_succ])
                  (refine walkR_later ?_; simp only [List.cons_append, List.nil_append])
                  (refine walkR_later ?_; simp only [List.cons_append, List.nil_append])
                  (refine walkR_later ?_; simp only [List.cons_append, List.nil_append])
                  repeat (refine walkR_still (v := ?_) rfl (by decide +kernel) rfl (fun _ _ _ h => h) hE ?_ ?_; rotate_left; (focus (intro w' hw'; obtain ⟨f0, f1, f2, f3⟩ := HF.out w' hw'; go_simp; all_goals (with_reducible rfl))); simp only [Act.put, List.setIfInBounds_toArray, List.set_cons_zero, List.set_cons_succ])
                  (refine walkR_later ?_; simp only [List.cons_append, List.nil_append])
                  repeat (refine walkR_still (v := ?_) rfl (by decide +kernel) rfl (fun _ _ _ h => h) hE ?_ ?_; rotate_left; (focus (intro w' hw'; obtain ⟨f0, f1, f2, f3⟩ := HF.out w' hw'; go_simp; all_goals (with_reducible rfl))); simp only [Act.put, List.setIfInBounds_toArray, List.set_cons_zero, List.set_cons_succ])
                  (refine walkR_later ?_; simp only [List.cons_append, List.nil_append])
                  (refine walkR_only (fun w' => Ext wr w') rfl (by decide +kernel) rfl ?_ ?_)
                  · exact fun _ h => h
                  intro K hK
                  go_simp
                  refine (HG.out _ (Ext.drew wr)).mono ?_
                  rintro e w2 ⟨rfl, hx2⟩
                  have hX2 := (Ext.drew wr).trans hx2
                  have HS2 := hidP (HST2.out _ hX2)
                  obtain ⟨qd, hfr⟩ := HCL.out _ hX2
                  have hfr2 : w2.frozen? ⟨w.heap.size + 1, 0 + k, none⟩ = false := hfr.trans ((HUP4.out.cellInt k hkl).2.symm.trans HO4.out)
                  rw [Nat.zero_add] at qd hfr2 HS2
                  generalize (partly (brTo p t d u v i j) (brTo p t d u v i (j + 1)) k).getD k 0 = vd at qd
                  refine hK _ _ hX2 ?_
                  clear hK K hx2 hfr
                  (try simp only [Act.put, List.setIfInBounds_toArray, List.set_cons_zero, List.set_cons_succ])
                  repeat (refine walkR_still (v := ?_) rfl (by decide +kernel) rfl (fun _ _ _ h => h) hX2 ?_ ?_; rotate_left; (focus (intro w' hw'; obtain ⟨f0, f1, f2, f3⟩ := HF.out w' hw'; go_simp; all_goals (with_reducible rfl))); simp only [Act.put, List.setIfInBounds_toArray, List.set_cons_zero, List.set_cons_succ])
                  (refine walkR_tail (by rfl) (by kernel_rfl) ?_; simp only [List.drop_succ_cons, List.drop_zero])
                  clear hX2
                  go_wp2
                  go_roundw
                  case rel => exact ⟨k + 1, by omega, HS2.out, by go_num⟩
                  case measure => simp [intOf]; omega
              · have hu := HUP4.out
                obtain rfl : k = d := by omega
                rw [partly_all _ _ _ LB.out LB2.out] at hu
                have HU5 := hidP hu
                clear hu
                go_wp2
                go_roundw
                case rel => exact ⟨j + 1, by omega, HU5.out, by go_num⟩
                case measure => simp [intOf]; omega
          · have hu := HUP2.out
            obtain rfl : j = d := by omega
            rw [brTo_row] at hu
            have HU2 := hidP hu
            clear hu
            go_wp2
            go_roundw
            case rel => exact ⟨i + 1, by omega, HU2.out, by go_num⟩
            case measure => simp [intOf]; omega
    · have hu := HUP.out
      obtain rfl : i = d := by omega
      rw [brTo_all] at hu
      obtain ⟨hO, hA, hx⟩ := HAR.out _ _ hu
      have ho := hidP (hO.base (B' := w.heap.size) (by omega))
      have hx2 := hidP hx
      clear hu hO hA hx
      go_wp2
      go_ret
      exact ⟨_, rfl, ho.out, hx2.out⟩
end Go.Proofs.YtenlhfimdpcaoaaGreat

namespace Go.Proofs.YtenlhfimdpcaoaaGreat
open Go.RowKit

end Go.Proofs.YtenlhfimdpcaoaaGreat

namespace Go.Proofs.YtenlhfimdpcaoaaGreat
open Go.RowKit

end Go.Proofs.YtenlhfimdpcaoaaGreat

namespace Go.Proofs.YtenlhfimdpcaoaaGreat
open Go.RowKit

end Go.Proofs.YtenlhfimdpcaoaaGreat

namespace Go.Proofs.YtenlhfimdpcaoaaGreat
open Go.RowKit

end Go.Proofs.YtenlhfimdpcaoaaGreat

namespace Go.Proofs.YtenlhfimdpcaoaaGreat
open Go.RowKit

theorem Tryz.info141 : (Tryz.prog.info? 141).map (fun i => (i.zero, i.size, i.bytes)) = some (some (.agg #[.slice none 0 0, .int .i64 0]), 2, 32) := by kernel_rfl

end Go.Proofs.YtenlhfimdpcaoaaGreat

namespace Go.Proofs.YtenlhfimdpcaoaaGreat
open Go.RowKit

/-- a matrix's value -/
abbrev matV (p r s : Int) (a : Option Addr) (n c : Nat) : Value := .agg #[.int .i64 p, .int .i64 r, .int .i64 s, .slice a n c]
/-- the four cells of a matrix in a variable of its own -/
structure MatAt (w : World) (b : Nat) (p r s : Int) (a : Option Addr) (n c : Nat) : Prop where
  c0 : w.cell? ⟨b, 0, none⟩ = some (.int .i64 p)
  c1 : w.cell? ⟨b, 1, none⟩ = some (.int .i64 r)
  c2 : w.cell? ⟨b, 2, none⟩ = some (.int .i64 s)
  c3 : w.cell? ⟨b, 3, none⟩ = some (.slice a n c)
theorem MatAt.below {w w' : World} {b : Nat} {p r s : Int} {a : Option Addr} {n c : Nat} (h : MatAt w b p r s a n c) (hb : Ext w w') : MatAt w' b p r s a n c :=
  have hl := World.block_lt_of_cell? w _ h.c0
  ⟨(hb.cell (p := ⟨b, 0, none⟩) hl).trans h.c0, (hb.cell (p := ⟨b, 1, none⟩) hl).trans h.c1, (hb.cell (p := ⟨b, 2, none⟩) hl).trans h.c2, (hb.cell (p := ⟨b, 3, none⟩) hl).trans h.c3⟩
theorem MatAt.new (w : World) (b : Nat) (hb : b = w.heap.size) (p r s : Int) (a : Option Addr) (n c : Nat) (E : TypeId) : MatAt (w.alloc (.cells #[.int .i64 p, .int .i64 r, .int .i64 s, .slice a n c] E)) b p r s a n c :=
  ⟨(cell_top _ _ _ _ _ hb).trans rfl, (cell_top _ _ _ _ _ hb).trans rfl, (cell_top _ _ _ _ _ hb).trans rfl, (cell_top _ _ _ _ _ hb).trans rfl⟩

/-- slices.Grow of nil -/
theorem grow_any (n : Nat) (w : World) (hn : n ≤ 1000000000) :
    Calls Tryz.prog 186 #[.slice none 0 0, .int .i64 n] w fun e w' => ∃ a c, e = .returned (.slice a 0 c) ∧ OwnI w' w.heap.size a 0 c [] ∧ Ext w w' := by
  rcases Nat.eq_zero_or_pos n with h0 | h0
  · subst h0
    go_enter Tryz.func186, Tryz.ntmps186
    go_wp2
    go_ret
    exact ⟨_, _, rfl, OwnI.nil _ _, Ext.refl _⟩
  · obtain ⟨i, hi, hz0, hz1, hz2⟩ := info_parts Tryz.info3
    have hr := fun ty => Lib.run_append_nil_zeros (P := Tryz.prog) w 24 3 ty 3 i (.int .i64 0) .i64 .i64 Tryz.underlying24 Tryz.underlying3 hi hz0 n h0 (by omega) (by omega) (by rw [hz2]; omega)
    have hge := grownCap_ge w n 0 3
    have hle := grownCap_le_maxLen w n 0 3 (by unfold maxLen; omega)
    have HO := hidP (ownI_zeros w n (grownCap w n 0 3 - n) w.heap.size (Nat.le_refl _) (grownCap w n 0 3) (by omega) hle)
    have HR := hidP hr
    clear hr hge hle hi hz0 hz1 hz2
    generalize grownCap w n 0 3 = cap at *
    go_enter Tryz.func186, Tryz.ntmps186
    go_wp2_with (at_builtin; refine Lib.wpList_append_run _ rfl (.tmp 20) (.tmp 21) 24 3 rfl _ _ rfl rfl _ _ (HR.out _) ?_)
    go_ret
    exact ⟨_, _, rfl, HO.out.below (Ext.drew _), (Ext.alloc _ _).trans (Ext.drew _)⟩
set_option maxHeartbeats 1000000 in
theorem concat_any (a : Option Addr) (n c : Nat) (rows : List (List Int)) (w : World) (h : RowsI w a n rows) (hn : n ≤ 1000000000) (hl : rows.flatten.length ≤ 1000000000) :
    Calls Tryz.prog 159 #[.slice a n c] w fun e w' => ∃ a' c', e = .returned (.slice a' rows.flatten.length c') ∧ OwnI w' w.heap.size a' rows.flatten.length c' rows.flatten ∧ Ext w w' := by
  have G := hidP h
  have L := hidP h.len
  have HLE := hidP (fun i => Nat.le_trans (flatten_take_le rows i) hl)
  clear h
  go_enter Tryz.func159, Tryz.ntmps159
  go_wp2
  go_loop [3, 11] (fun v i => ∃ k m : Nat, k ≤ n ∧ i = .int .i64 k ∧ v = .int .i64 m ∧ Hid (m = (rows.take k).flatten.length)) (fun _ i => n - (intOf i).toNat)
  case atStart => exact ⟨0, 0, Nat.zero_le _, rfl, rfl, by show _ = _; simp⟩
  case round =>
    obtain ⟨k, m, hk, rfl, rfl, HM⟩ := hrel
    by_cases hlt : k < n
    · obtain ⟨b, o, a', c', rfl, q, _⟩ := G.out.get k hlt
      have hs := flatten_take_succ rows k (by have := L.out; omega)
      have hb := HLE.out (k + 1)
      rw [hs, List.length_append] at hb
      have hm := HM.out
      rw [← hm] at hb
      have HM2 : Hid (m + (rows.getD k []).length = (rows.take (k + 1)).flatten.length) := by show _ = _; rw [hs, List.length_append, hm]
      clear hs hm
      generalize (rows.getD k []).length = l at *
      go_wp2
      go_round
      case rel => exact ⟨k + 1, m + l, by omega, by go_num, by go_num, HM2⟩
      case measure => simp [intOf]; omega
    · obtain rfl : k = n := by omega
      have hm := HM.out
      rw [List.take_of_length_le (by have := L.out; omega)] at hm
      have HM2 := hidP hm
      have hmb : m ≤ 1000000000 := by omega
      have HG := hidP (grow_any m w hmb)
      clear hm HM
      go_wp2_with fail
      refine HG.out.mono ?_
      rintro e w1 ⟨ag, cg, rfl, hog, hxg⟩
      have HOG := hidP hog
      have HXG := hidP hxg
      clear hog hxg HG
      go_wp2
      go_loopw [6, 27] (fun v i wr => ∃ (j q : Nat) (av : Option Addr) (cv : Nat), j ≤ k ∧ i = .int .i64 j ∧ v = .slice av q cv ∧ Hid (OwnI wr w.heap.size av q cv (rows.take j).flatten) ∧ Hid (Ext w wr)) (fun _ i _ => k - (intOf i).toNat)
      case atStart => exact ⟨0, 0, _, _, Nat.zero_le _, rfl, rfl, HOG, HXG⟩
      case round =>
        obtain ⟨j, q0, av, cv, hj, rfl, rfl, HO, HX⟩ := hrel
        by_cases hjl : j < k
        · obtain ⟨b, o, a', c', rfl, q, hI, hnil⟩ := (G.out.below HX.out).get j hjl
          have HI := hidP hI
          have HN := hidP hnil
          have hs := flatten_take_succ rows j (by have := L.out; omega)
          have hb := HLE.out (j + 1)
          have hq0 := HO.out.len
          rw [hs, List.length_append, hq0] at hb
          have HS := hidP hs
          clear hs hI hnil hq0
          generalize (rows.getD j []).length = l at *
          go_wp2_with (at_builtin; refine wpList_append_ints rfl (.tmp 31) (.tmp 32) rfl w.heap.size av q0 cv _ rfl HO.out a' l c' _ rfl HI.out HN.out (by omega) HX.out.size ?_; intro a2 c2 w2 ho2 hg2; have HX2 := hidP (grown_ext hg2 HX.out HX.out.size (fun q e => HO.out.addr_base q e)); clear hg2)
          have HO2 : Hid (OwnI w2 w.heap.size a2 (q0 + l) c2 (rows.take (j + 1)).flatten) := by
            show OwnI _ _ _ _ _ _
            rw [HS.out]
            exact ho2
          clear ho2
          go_roundw
          case rel => exact ⟨j + 1, q0 + l, a2, c2, by omega, by go_num, rfl, HO2, HX2⟩
          case measure => simp [intOf]; omega
        · obtain rfl : j = k := by omega
          have ho := HO.out
          rw [List.take_of_length_le (by have := L.out; omega)] at ho
          have hq := ho.len
          have HQ := hidP hq
          have HO2 := hidP ho
          clear ho HO hq
          go_wp2
          go_ret
          rw [HQ.out]
          exact ⟨_, _, rfl, HO2.out, HX.out⟩
set_option maxHeartbeats 1000000 in
theorem matrixOf_any (p cols : Int) (a : Option Addr) (n c : Nat) (rows : List (List Int)) (w : World) (h : RowsI w a n rows) (hn : n ≤ 1000000000) (hl : rows.flatten.length ≤ 1000000000) :
    Calls Tryz.prog 120 #[.int .i64 p, .int .i64 cols, .slice a n c] w fun e w' => ∃ a' c', e = .returned (matV p n cols a' rows.flatten.length c') ∧ OwnI w' w.heap.size a' rows.flatten.length c' rows.flatten ∧ Ext w w' := by
  have hx0 := Ext.alloc w (.cells #[.int .i64 0, .int .i64 0, .int .i64 0, .slice none 0 0] 28)
  have HC := hidP (concat_any a n c rows _ (h.below hx0) hn hl)
  have hnew := fun w1 hx j => new_cell (w' := w1) (w := w) (cs := #[.int .i64 0, .int .i64 0, .int .i64 0, .slice none 0 0]) (E := 28) (b := w.heap.size) rfl hx j
  have HX0 := hidP hx0
  have hsz : w.heap.size < (w.alloc (.cells #[.int .i64 0, .int .i64 0, .int .i64 0, .slice none 0 0] 28)).heap.size := by simp
  obtain ⟨w0, hw0⟩ : ∃ w0, w0 = w.alloc (.cells #[.int .i64 0, .int .i64 0, .int .i64 0, .slice none 0 0] 28) := ⟨_, rfl⟩
  clear h hx0
  go_enter Tryz.func120, Tryz.ntmps120
  go_wp2_with fail
  rw [← hw0] at HC HX0 hnew hsz ⊢
  clear hw0
  refine HC.out.mono ?_
  rintro e w1 ⟨a', c', rfl, ho, hx⟩
  have HO := hidP ho
  have HX1 := hidP (HX0.out.trans hx)
  obtain ⟨r0, y0⟩ := hnew w1 hx 0
  obtain ⟨r1, y1⟩ := hnew w1 hx 1
  obtain ⟨r2, y2⟩ := hnew w1 hx 2
  obtain ⟨r3, y3⟩ := hnew w1 hx 3
  have r0 := r0.trans (show _ = some (Value.int .i64 0) from rfl)
  have r1 := r1.trans (show _ = some (Value.int .i64 0) from rfl)
  have r2 := r2.trans (show _ = some (Value.int .i64 0) from rfl)
  have r3 := r3.trans (show _ = some (Value.slice none 0 0) from rfl)
  generalize hq : rows.flatten.length = l at *
  have HQ := hidP hq
  clear hnew ho hx HC hq
  go_wp2
  refine bodyPost_ret (v := matV p n cols a' l c') (by simp [results, Tryz.results120, go_sem, r0, r1, r2, r3]) rfl ?_
  rw [HQ.out]
  refine ⟨_, _, rfl, ?_, ?_⟩
  · refine OwnI.base (B := w0.heap.size) ?_ (by omega)
    refine OwnI.setBelow (OwnI.setBelow (OwnI.setBelow (OwnI.setBelow HO.out _ _ ?_ _) _ _ ?_ _) _ _ ?_ _) _ _ ?_ _ <;> omega
  · refine Ext.setNew (Ext.setNew (Ext.setNew (Ext.setNew HX1.out _ _ ?_ _) _ _ ?_ _) _ _ ?_ _) _ _ ?_ _ <;> omega
end Go.Proofs.YtenlhfimdpcaoaaGreat

namespace Go.Proofs.YtenlhfimdpcaoaaGreat
open Go.RowKit

/-- the rows of a matrix -/
def matRows (r s : Nat) (data : List Int) : List (List Int) := (List.range r).map fun i => (data.drop (i * s)).take s
theorem matRows_length (r s : Nat) (data : List Int) : (matRows r s data).length = r := by simp [matRows]
theorem matRows_get (r s : Nat) (data : List Int) (i : Nat) (hi : i < r) : (matRows r s data).getD i [] = (data.drop (i * s)).take s := by simp [matRows, List.getD_eq_getElem?_getD, hi]
theorem mul_lt_of {r s i : Nat} (hi : i < r) : i * s + s ≤ r * s := by
  have := Nat.mul_le_mul_right s (show i + 1 ≤ r by omega)
  rw [Nat.add_mul, Nat.one_mul] at this
  exact this
theorem matRows_ok {p : Int} {r s : Nat} {data : List Int} (hl : data.length = r * s) (h : Res p data) : Rows p s (matRows r s data) := by
  constructor
  · intro i hi
    rw [matRows_length] at hi
    rw [matRows_get _ _ _ _ hi, List.length_take, List.length_drop, hl]
    have := mul_lt_of (s := s) hi
    omega
  · intro i hi
    rw [matRows_length] at hi
    rw [matRows_get _ _ _ _ hi]
    exact h.part _ _

/-- the unit matrix's numbers: the first k rows have their 1 -/
def unitTo (n : Nat) : Nat → List Int
  | 0 => List.replicate (n * n) 0
  | k + 1 => (unitTo n k).set (k * n + k) 1
theorem unitTo_length (n k : Nat) : (unitTo n k).length = n * n := by
  induction k with
  | zero => simp [unitTo]
  | succ k ih => simp [unitTo, ih]
end Go.Proofs.YtenlhfimdpcaoaaGreat

