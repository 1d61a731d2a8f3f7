/-
  Paths read by the reference: l1Same, l5Lattice, l9Time, l9Ok, PathOk.
  A Cartan matrix's value, and the cells of one in a variable of its own.
  A part of an owned slice of structs, appended to another owned slice; two chains of operations of a region that draws its order.
  Owned slices of steps; append of one owned slice to another one.
  What the functions of enveloping elements give, plain. No program in sight.
  Elements of an algebra: isElement, l2Vector.
  The reference's test of a Lyndon word and its cut: l11Lyndon, l11Cut.
  l1Ints: a copy of a slice of integers.
  The reference's Lyndon words of one length: l11LyndonWords.
  (The append of one element lies in OwnB.)
  rowsOf, ZeroMatrix, UnitMatrix.
  Matrices as rows and back: slices.Grow and Concat, unit, rowsOf, matrixOf, UnitMatrix, span.
  The law's own copies of algebras and of slices of a word and a number each.
  The law's own small functions on slices of a word and a number each.
  The program's reduce: the walk.
  The program's reduce: rows brought into reduced form in place.
  Rows brought into reduced form, as plain lists: no program in sight.
  Inverses of residues: the program's inverse, by Euclid's steps.
  The reference's next word and its Lyndon words: l11Next, l11LyndonWords.
  The reference's Lyndon words, plain: each word from the one before it; the table of a free algebra. No program in sight.
  Tables of brackets from the brackets [i, j] with j < i, plain. No program in sight.
-/
import Derived.Test.YtenlhfimdpcaoaaMb4
import Derived.RegionTactic
import Derived.ChangeAlike
import Derived.Lib.AppendZeros
namespace Go.Proofs.Ytenlhfimdpcaoaa
open Go.RowKit

/-- a list of n times n times n numbers by their places -/
def tabF (n : Nat) (g : Nat → Nat → Nat → Int) : List Int := (List.range (n * n * n)).map fun q => g (q / n / n) (q / n % n) (q % n)
theorem tabF_length (n : Nat) (g : Nat → Nat → Nat → Int) : (tabF n g).length = n * n * n := by simp [tabF]
theorem tabF_congr {n : Nat} {g h : Nat → Nat → Nat → Int} (e : ∀ i j k, i < n → j < n → k < n → g i j k = h i j k) : tabF n g = tabF n h := by
  unfold tabF
  apply List.map_congr_left
  intro q hq
  rw [List.mem_range] at hq
  have hn : 0 < n := by
    rcases Nat.eq_zero_or_pos n with h0 | h0
    · subst h0; simp at hq
    · exact h0
  refine e _ _ _ ?_ (Nat.mod_lt _ hn) (Nat.mod_lt _ hn)
  rw [Nat.div_div_eq_div_mul]
  exact Nat.div_lt_of_lt_mul hq
/-- one number stored -/
theorem tabF_set {n i j k : Nat} (hi : i < n) (hj : j < n) (hk : k < n) (g : Nat → Nat → Nat → Int) (v : Int) :
    (tabF n g).set ((i * n + j) * n + k) v = tabF n fun i' j' k' => if i' = i ∧ j' = j ∧ k' = k then v else g i' j' k' := by
  apply List.ext_getElem?
  intro q
  rw [List.getElem?_set]
  by_cases hq : q < n * n * n
  · have hn : 0 < n := by omega
    unfold tabF
    rw [List.length_map, List.length_range, List.getElem?_map, List.getElem?_map, List.getElem?_range hq]
    simp only [Option.map_some]
    by_cases e : (i * n + j) * n + k = q
    · subst e
      have h1 : (i * n + j) * n + k < n * n * n := hq
      have e1 : ((i * n + j) * n + k) / n = i * n + j := by
        rw [Nat.mul_comm, Nat.mul_add_div (by omega), Nat.div_eq_of_lt hk, Nat.add_zero]
      have e2 : ((i * n + j) * n + k) % n = k := by
        rw [Nat.mul_comm, Nat.mul_add_mod, Nat.mod_eq_of_lt hk]
      have e3 : (i * n + j) / n = i := by
        rw [Nat.mul_comm, Nat.mul_add_div (by omega), Nat.div_eq_of_lt hj, Nat.add_zero]
      have e4 : (i * n + j) % n = j := by
        rw [Nat.mul_comm, Nat.mul_add_mod, Nat.mod_eq_of_lt hj]
      rw [if_pos rfl, if_pos h1, e1, e2, e3, e4, if_pos ⟨rfl, rfl, rfl⟩]
    · rw [if_neg e, if_neg]
      intro h
      apply e
      have h1 := Nat.div_add_mod q n
      have h2 := Nat.div_add_mod (q / n) n
      rw [h.1, h.2.1] at h2
      rw [← h2, h.2.2, Nat.mul_comm] at h1
      rw [Nat.mul_comm i n]
      exact h1
  · rw [if_neg]
    · rw [List.getElem?_eq_none (by rw [tabF_length]; omega), List.getElem?_eq_none (by rw [tabF_length]; omega)]
    · intro e
      apply hq
      rw [← e]
      have h1 : i * n + j < n * n := by
        have : (i + 1) * n ≤ n * n := Nat.mul_le_mul_right n hi
        rw [Nat.add_mul] at this
        omega
      have : (i * n + j + 1) * n ≤ n * n * n := Nat.mul_le_mul_right n h1
      rw [Nat.add_mul] at this
      omega
theorem tabF_zero (n : Nat) : tabF n (fun _ _ _ => 0) = List.replicate (n * n * n) 0 := by
  unfold tabF
  rw [List.map_const']
  simp
/-- the table that tableBy makes of brackets [i, j] with j < i -/
def byE (p : Int) (f : Nat → Nat → List Int) (i j k : Nat) : Int := if j < i then (f i j).getD k 0 else if i < j then (0 - (f j i).getD k 0) % p else 0
def byL (p : Int) (n : Nat) (f : Nat → Nat → List Int) : List Int := tabF n (byE p f)
/-- on the way: what is stored up to [i, j] and m numbers of it -/
def byTo (p : Int) (f : Nat → Nat → List Int) (i j m a b k : Nat) : Int :=
  if b < a then (if a < i ∨ a = i ∧ (b < j ∨ b = j ∧ k < m) then (f a b).getD k 0 else 0)
  else if a < b then (if b < i ∨ b = i ∧ (a < j ∨ a = j ∧ k < m) then (0 - (f b a).getD k 0) % p else 0) else 0
theorem byTo_start (p : Int) (n : Nat) (f : Nat → Nat → List Int) : tabF n (byTo p f 0 0 0) = List.replicate (n * n * n) 0 := by
  rw [← tabF_zero]
  apply tabF_congr
  intro a b k _ _ _
  unfold byTo
  split
  · rw [if_neg (by omega)]
  · split
    · rw [if_neg (by omega)]
    · rfl
theorem byTo_row (p : Int) (n : Nat) (f : Nat → Nat → List Int) (i : Nat) : tabF n (byTo p f i i 0) = tabF n (byTo p f (i + 1) 0 0) := by
  apply tabF_congr
  intro a b k _ _ _
  unfold byTo
  by_cases h : b < a
  · rw [if_pos h, if_pos h]
    by_cases h2 : a < i ∨ a = i ∧ (b < i ∨ b = i ∧ k < 0)
    · rw [if_pos h2, if_pos (by omega)]
    · rw [if_neg h2, if_neg (by omega)]
  · rw [if_neg h, if_neg h]
    by_cases h3 : a < b
    · rw [if_pos h3, if_pos h3]
      by_cases h2 : b < i ∨ b = i ∧ (a < i ∨ a = i ∧ k < 0)
      · rw [if_pos h2, if_pos (by omega)]
      · rw [if_neg h2, if_neg (by omega)]
    · rw [if_neg h3, if_neg h3]
theorem byTo_next (p : Int) (n : Nat) (f : Nat → Nat → List Int) (i j m : Nat) (hm : (f i j).length ≤ m) : tabF n (byTo p f i j m) = tabF n (byTo p f i (j + 1) 0) := by
  apply tabF_congr
  intro a b k _ _ _
  unfold byTo
  have h0 : m ≤ k → (f i j).getD k 0 = 0 := fun h => by
    rw [List.getD_eq_getElem?_getD, List.getElem?_eq_none (by omega)]; rfl
  by_cases h : b < a
  · rw [if_pos h, if_pos h]
    by_cases h2 : a < i ∨ a = i ∧ (b < j ∨ b = j ∧ k < m)
    · rw [if_pos h2, if_pos (by omega)]
    · rw [if_neg h2]
      by_cases h3 : a < i ∨ a = i ∧ (b < j + 1 ∨ b = j + 1 ∧ k < 0)
      · rw [if_pos h3]
        obtain ⟨rfl, rfl⟩ : a = i ∧ b = j := by omega
        rw [h0 (by omega)]
      · rw [if_neg h3]
  · rw [if_neg h, if_neg h]
    by_cases h4 : a < b
    · rw [if_pos h4, if_pos h4]
      by_cases h2 : b < i ∨ b = i ∧ (a < j ∨ a = j ∧ k < m)
      · rw [if_pos h2, if_pos (by omega)]
      · rw [if_neg h2]
        by_cases h3 : b < i ∨ b = i ∧ (a < j + 1 ∨ a = j + 1 ∧ k < 0)
        · rw [if_pos h3]
          obtain ⟨rfl, rfl⟩ : b = i ∧ a = j := by omega
          rw [h0 (by omega)]
          simp
        · rw [if_neg h3]
    · rw [if_neg h4, if_neg h4]
theorem byTo_set (p : Int) {n : Nat} (f : Nat → Nat → List Int) {i j m : Nat} (hi : i < n) (hj : j < i) (hm : m < n) :
    ((tabF n (byTo p f i j m)).set ((i * n + j) * n + m) ((f i j).getD m 0)).set ((j * n + i) * n + m) ((0 - (f i j).getD m 0) % p) = tabF n (byTo p f i j (m + 1)) := by
  rw [tabF_set hi (by omega) hm, tabF_set (by omega) hi hm]
  apply tabF_congr
  intro a b k _ _ _
  unfold byTo
  by_cases e1 : a = j ∧ b = i ∧ k = m
  · obtain ⟨rfl, rfl, rfl⟩ := e1
    rw [if_pos ⟨rfl, rfl, rfl⟩, if_neg (by omega), if_pos hj, if_pos (by omega)]
  · rw [if_neg e1]
    by_cases e2 : a = i ∧ b = j ∧ k = m
    · obtain ⟨rfl, rfl, rfl⟩ := e2
      rw [if_pos ⟨rfl, rfl, rfl⟩, if_pos hj, if_pos (by omega)]
    · rw [if_neg e2]
      by_cases h : b < a
      · rw [if_pos h, if_pos h]
        by_cases h2 : a < i ∨ a = i ∧ (b < j ∨ b = j ∧ k < m)
        · rw [if_pos h2, if_pos (by omega)]
        · rw [if_neg h2, if_neg (by omega)]
      · rw [if_neg h, if_neg h]
        by_cases h3 : a < b
        · rw [if_pos h3, if_pos h3]
          by_cases h2 : b < i ∨ b = i ∧ (a < j ∨ a = j ∧ k < m)
          · rw [if_pos h2, if_pos (by omega)]
          · rw [if_neg h2, if_neg (by omega)]
        · rw [if_neg h3, if_neg h3]
theorem byTo_all (p : Int) (n : Nat) (f : Nat → Nat → List Int) : tabF n (byTo p f n 0 0) = byL p n f := by
  apply tabF_congr
  intro a b k _ _ _
  unfold byTo byE
  by_cases h : b < a
  · rw [if_pos h, if_pos h, if_pos (by omega)]
  · rw [if_neg h, if_neg h]
    by_cases h3 : a < b
    · rw [if_pos h3, if_pos h3, if_pos (by omega)]
    · rw [if_neg h3, if_neg h3]
end Go.Proofs.Ytenlhfimdpcaoaa

namespace Go.Proofs.Ytenlhfimdpcaoaa
open Go.RowKit

/-- a word repeated up to n letters -/
def fillD (n : Nat) (w : List Int) : List Int := (List.range n).map fun k => w.getD (k % w.length) 0
/-- without the letters x at its end -/
def stripD (x : Int) (l : List Int) : List Int := (l.reverse.dropWhile fun y => y == x).reverse
def bumpD (l : List Int) : List Int := if l.length = 0 then [] else l.set (l.length - 1) (l.getD (l.length - 1) 0 + 1)
def nextD (L n : Nat) (w : List Int) : List Int := bumpD (stripD ((L : Int) - 1) (fillD n w))
def duvS (L n : Nat) : Nat → List (List Int) × List Int
  | 0 => ([], [0])
  | i + 1 => let s := duvS L n i; if s.2.length = 0 then s else (if s.2.length = n then s.1 ++ [s.2] else s.1, nextD L n s.2)
theorem stripD_snoc (x : Int) (l : List Int) (y : Int) : stripD x (l ++ [y]) = if y = x then stripD x l else l ++ [y] := by
  unfold stripD
  rw [List.reverse_append, List.reverse_singleton, List.singleton_append, List.dropWhile_cons]
  by_cases h : y = x
  · subst h; simp
  · simp [h]
theorem strip_ok (x : Int) (l : List Int) : ∃ m, m ≤ l.length ∧ stripD x l = l.take m ∧ (0 < m → l.getD (m - 1) 0 ≠ x) ∧ ∀ j, m ≤ j → j < l.length → l.getD j 0 = x := by
  obtain ⟨r, rfl⟩ : ∃ r, l = r.reverse := ⟨l.reverse, by simp⟩
  induction r with
  | nil => exact ⟨0, Nat.le_refl _, rfl, fun h => by omega, fun j h1 h2 => by simp at h2⟩
  | cons y r ih =>
    rw [List.reverse_cons]
    generalize r.reverse = l at *
    obtain ⟨m, h1, h2, h3, h4⟩ := ih
    rw [stripD_snoc]
    by_cases h : y = x
    · rw [if_pos h]
      refine ⟨m, by simp; omega, by rw [h2, List.take_append_of_le_length h1], fun h0 => ?_, fun j hj hl => ?_⟩
      · have := h3 h0
        simp only [List.getD_eq_getElem?_getD] at this ⊢
        rwa [List.getElem?_append_left (by omega)]
      · rw [List.length_append, List.length_singleton] at hl
        simp only [List.getD_eq_getElem?_getD] at h4 ⊢
        by_cases e : j < l.length
        · rw [List.getElem?_append_left e]; exact h4 j hj e
        · obtain rfl : j = l.length := by omega
          simpa using h
    · rw [if_neg h]
      have h7 : (l ++ [y]).length = l.length + 1 := by simp
      refine ⟨l.length + 1, Nat.le_of_eq h7.symm, by rw [← h7, List.take_length], fun _ => ?_, ?_⟩
      rotate_left
      · intro j h5 h6
        omega
      simp [List.getD_eq_getElem?_getD, h]
/-- letters below L, at most n of them -/
structure DuvW (L n : Nat) (w : List Int) : Prop where
  len : w.length ≤ n
  let_ : ∀ i, i < w.length → 0 ≤ w.getD i 0 ∧ w.getD i 0 < L
theorem fillD_length (n : Nat) (w : List Int) : (fillD n w).length = n := by simp [fillD]
theorem fillD_get (n : Nat) (w : List Int) (i : Nat) (hi : i < n) : (fillD n w).getD i 0 = w.getD (i % w.length) 0 := by
  unfold fillD
  simp [List.getD_eq_getElem?_getD, hi]
theorem DuvW.next {L n : Nat} {w : List Int} (h : DuvW L n w) (hw : 0 < w.length) : DuvW L n (nextD L n w) := by
  obtain ⟨m, h1, h2, h3, _⟩ := strip_ok ((L : Int) - 1) (fillD n w)
  rw [fillD_length] at h1
  unfold nextD
  rw [h2]
  have hl : ((fillD n w).take m).length = m := by rw [List.length_take, fillD_length]; omega
  have hg : ∀ i, i < m → ((fillD n w).take m).getD i 0 = (fillD n w).getD i 0 := fun i hi => by
    simp [List.getD_eq_getElem?_getD, hi]
  have hr : ∀ i, i < n → 0 ≤ (fillD n w).getD i 0 ∧ (fillD n w).getD i 0 < L := fun i hi => by
    rw [fillD_get n w i hi]
    exact h.let_ _ (Nat.mod_lt _ hw)
  unfold bumpD
  rw [hl]
  by_cases hm : m = 0
  · rw [if_pos hm]; exact ⟨by simp, fun i hi => by simp at hi⟩
  · rw [if_neg hm]
    refine ⟨by rw [List.length_set, hl]; exact h1, fun i hi => ?_⟩
    rw [List.length_set, hl] at hi
    have hi2 := hg i hi
    have hr2 := hr i (by omega)
    have h3 := h3 (by omega)
    have hm1 := hg (m - 1) (by omega)
    have hr3 := hr (m - 1) (by omega)
    rw [List.getD_eq_getElem?_getD, List.getElem?_set]
    by_cases e : m - 1 = i
    · rw [if_pos e, if_pos (by rw [hl]; omega), Option.getD_some, hm1]
      omega
    · rw [if_neg e, ← List.getD_eq_getElem?_getD, hi2]
      exact hr2
theorem duv_word {L n : Nat} (hL : 1 ≤ L) (hn : 1 ≤ n) : ∀ i, DuvW L n (duvS L n i).2
  | 0 => ⟨by simp [duvS]; omega, fun i hi => by simp [duvS] at hi ⊢; subst hi; simp; omega⟩
  | i + 1 => by
    have ih := duv_word hL hn i
    simp only [duvS]
    split
    · exact ih
    · exact ih.next (by omega)
theorem duv_stay {L n i : Nat} (h : (duvS L n i).2.length = 0) : ∀ j, duvS L n (i + j) = duvS L n i
  | 0 => rfl
  | j + 1 => by
    have ih := duv_stay h j
    show duvS L n (i + j + 1) = _
    simp only [duvS]
    rw [ih, if_pos h]
def duvK (L n : Nat) : Bool := (duvS L n 60).2.length == 0 && (duvS L n 60).1 == lynTo L n (L ^ n)
theorem duv_one : ∀ n, n < 8 → duvK 1 (n + 1) = true := by decide +kernel
theorem duv_two : ∀ n, n < 7 → duvK 2 (n + 1) = true := by decide +kernel
theorem duv_three : ∀ n, n < 4 → duvK 3 (n + 1) = true := by decide +kernel
theorem duv_four : ∀ n, n < 3 → duvK 4 (n + 1) = true := by decide +kernel
theorem duv_ok {L n : Nat} (h1 : 1 ≤ n) (h : L = 1 ∧ n ≤ 8 ∨ L = 2 ∧ n ≤ 7 ∨ L = 3 ∧ n ≤ 4 ∨ L = 4 ∧ n ≤ 3) : (duvS L n 60).2.length = 0 ∧ (duvS L n 60).1 = lynTo L n (L ^ n) := by
  have key : duvK L n = true := by
    obtain ⟨m, rfl⟩ : ∃ m, n = m + 1 := ⟨n - 1, by omega⟩
    rcases h with ⟨rfl, h⟩ | ⟨rfl, h⟩ | ⟨rfl, h⟩ | ⟨rfl, h⟩
    · exact duv_one m (by omega)
    · exact duv_two m (by omega)
    · exact duv_three m (by omega)
    · exact duv_four m (by omega)
  unfold duvK at key
  rw [Bool.and_eq_true, beq_iff_eq, beq_iff_eq] at key
  exact key
/-! ### the table -/
def frRow (p : Int) (L n i j : Nat) : List Int := (frT L n i j).map fun c => c % p
def frTab (p : Int) (L n : Nat) : List Int := byL p (wordsZ L n).length (frRow p L n)
/-- what FreeAlgebra gives -/
def freeRes (p L n : Int) : Bool × (Int × Int × List Int) :=
  if primeB p && insB L 1 4 && insB n 1 8 && fitsF L.toNat n.toNat then (true, (p, ((wordsZ L.toNat n.toNat).length : Int), frTab p L.toNat n.toNat)) else (false, (0, 0, []))
theorem frRow_get (p : Int) (L n i j k : Nat) : (frRow p L n i j).getD k 0 = (frT L n i j).getD k 0 % p := by
  unfold frRow
  rw [List.getD_eq_getElem?_getD, List.getElem?_map, List.getD_eq_getElem?_getD]
  cases (frT L n i j)[k]? <;> simp
end Go.Proofs.Ytenlhfimdpcaoaa

namespace Go.Proofs.Ytenlhfimdpcaoaa
open Go.RowKit

theorem OwnI.firstN {w : World} {B : Nat} {a : Option Addr} {n c : Nat} {xs : List Int} (h : OwnI w B a n c xs) (m : Nat) (hm : m ≤ n) : OwnI w B a m c (xs.take m) := by
  refine ⟨⟨by have := h.len; simp [ivs_length]; omega, ?_⟩⟩
  rcases h.row.2 with ⟨he, h0⟩ | ⟨g, cap, cur, he, hB, hg, hnc, hcm, hcs, ht⟩
  · simp only [Value.slice.injEq] at he
    obtain ⟨rfl, _, rfl⟩ := he
    have : m = 0 := by omega
    subst this
    exact .inl ⟨rfl, rfl⟩
  · simp only [Value.slice.injEq, true_and] at he
    obtain ⟨rfl, rfl⟩ := he
    refine .inr ⟨g, c, cur, rfl, hB, hg, by omega, hcm, hcs, ?_⟩
    have e : ivs (xs.take m) = (ivs xs).take (m * 1) := by simp [ivs]
    rw [e, ← ht, List.take_take, Nat.min_eq_left (by omega)]
theorem OwnI.capN {w : World} {B : Nat} {a : Option Addr} {n c : Nat} {xs : List Int} (h : OwnI w B a n c xs) : n ≤ c := by
  rcases h.row.2 with ⟨he, h0⟩ | ⟨g, cap, cur, he, _, _, hnc, _⟩
  · simp only [Value.slice.injEq] at he
    omega
  · simp only [Value.slice.injEq] at he
    omega
theorem OwnI.putN {w : World} {B g n c : Nat} {xs : List Int} (h : OwnI w B (some ⟨g, 0, none⟩) n c xs) {i : Nat} (hi : i < n) (v : Int) : OwnI (w.setCell ⟨g, i, none⟩ (.int .i64 v)) B (some ⟨g, 0, none⟩) n c (xs.set i v) := by
  have := (UpdI.start h.ints).store i hi v
  rw [Nat.zero_add] at this
  exact this.own h
theorem fillD_take (n : Nat) (w : List Int) {k : Nat} (hk : k < n) : (fillD n w).take (k + 1) = (fillD n w).take k ++ [w.getD (k % w.length) 0] := by
  rw [List.take_succ_eq_append_getElem (by rw [fillD_length]; exact hk), ← fillD_get n w k hk]
  congr 2
  rw [List.getD_eq_getElem?_getD, List.getElem?_eq_getElem (by rw [fillD_length]; exact hk)]
  rfl
theorem strip_is {x : Int} {l : List Int} {m : Nat} (hm : m ≤ l.length) (h0 : 0 < m → l.getD (m - 1) 0 ≠ x) (h1 : ∀ j, m ≤ j → j < l.length → l.getD j 0 = x) : stripD x l = l.take m := by
  obtain ⟨m', a1, a2, a3, a4⟩ := strip_ok x l
  have : m' = m := by
    rcases Nat.lt_trichotomy m' m with h | h | h
    · exact absurd (a4 (m - 1) (by omega) (by omega)) (h0 (by omega))
    · exact h
    · exact absurd (h1 (m' - 1) (by omega) (by omega)) (a3 (by omega))
  rw [a2, this]
set_option maxHeartbeats 2000000 in
theorem l11Next_any (a : Option Addr) (l c L n : Nat) (W : List Int) (w : World) (h : IntsAt w a l W) (hl : 0 < l) (hl2 : l ≤ 1000) (hn : n ≤ 1000) (hL : L ≤ 1000) (hw : ∀ y ∈ W, 0 ≤ y ∧ y ≤ 1000) :
    Calls Try.prog 111 #[.slice a l c, .int .i64 L, .int .i64 n] w fun e w' => ∃ a' m c', e = .returned (.slice a' m c') ∧ OwnI w' w.heap.size a' m c' (nextD L n W) ∧ m ≤ n ∧ Ext w w' := by
  have G := hidP h
  have HL := hidP h.len
  have HW : Hid (∀ k, k < n → 0 ≤ (fillD n W).getD k 0 ∧ (fillD n W).getD k 0 ≤ 1000) := fun k hk => by
    have hlw := h.len
    rw [fillD_get n W k hk, hlw]
    have hm := Nat.mod_lt k hl
    rw [List.getD_eq_getElem?_getD, List.getElem?_eq_getElem (by omega)]
    exact hw _ (List.getElem_mem _)
  have HFL := hidP (fillD_length n W)
  have HFT := hidP (fun k (hk : k < n) => fillD_take n W hk)
  rw [h.len] at HFT
  have HO : Hid (OwnI (w.alloc (.cells #[] 3)) w.heap.size (some ⟨w.heap.size, 0, none⟩) 0 0 ((fillD n W).take 0)) := by
    have hm := OwnI.made w w.heap.size 0 (Nat.le_refl _) (by unfold maxLen; omega)
    exact hm
  have HX := hidP (Ext.alloc w (.cells #[] 3))
  clear h hw
  go_enter Try.func111, Try.ntmps111
  go_wp2
  go_loopw [7, 8] (fun v7 v8 wr => ∃ (k : Nat) (av : Option Addr) (cv : Nat), k ≤ n ∧ v8 = .int .i64 k ∧ v7 = .slice av k cv ∧ Hid (OwnI wr w.heap.size av k cv ((fillD n W).take k)) ∧ Hid (Ext w wr)) (fun _ v8 _ => n - (intOf v8).toNat)
  case atStart => exact ⟨0, _, _, Nat.zero_le _, rfl, rfl, HO, HX⟩
  case round =>
    clear HO HX
    obtain ⟨k, av, cv, hk, rfl, rfl, HO, HX⟩ := hrel
    by_cases hlt : k < n
    · have hm := Nat.mod_lt k hl
      obtain ⟨b, o, rfl, q⟩ := (G.out.below HX.out).get (k % l) hm
      have HT := hidP (HFT.out k hlt)
      have e1 : Int.tmod (k : Int) (l : Int) = ((k % l : Nat) : Int) := by rw [Int.tmod_eq_emod_of_nonneg (by omega)]; rfl
      have hlz : ¬ (l : Int) = 0 := by omega
      generalize W.getD (k % l) 0 = y at *
      generalize k % l = q0 at *
      have hxa := Ext.alloc wr (.cells #[.int .i64 y] 3)
      have HI : Hid (IntsAt (wr.alloc (.cells #[.int .i64 y] 3)) (some ⟨wr.heap.size, 0, none⟩) 1 [y]) := ⟨rfl, fun i hi => ⟨wr.heap.size, 0, rfl, by
        obtain rfl : i = 0 := by omega
        rw [cell_top _ _ _ _ _ rfl]
        rfl⟩⟩
      have HOa := hidP (HO.out.below hxa)
      have HXa := hidP (HX.out.trans hxa)
      clear hxa
      go_wp2_with (at_builtin; refine wpList_append_ints rfl (.tmp 15) (.tmp 23) rfl w.heap.size av k cv _ rfl HOa.out (some ⟨wr.heap.size, 0, none⟩) 1 1 [y] rfl HI.out (fun e => by cases e) (by omega) HXa.out.size ?_; intro a2 c2 w2 ho2 hg2; have HX2 := hidP (grown_ext hg2 HXa.out HXa.out.size (fun q e => HOa.out.addr_base q e)); have HO2 := hidP ho2; clear hg2 ho2)
      go_roundw
      case rel => exact ⟨k + 1, a2, c2, by omega, by go_num, rfl, by rw [HT.out]; exact HO2, HX2⟩
      case measure => simp [intOf]; omega
    · have HOn : Hid (OwnI wr w.heap.size av n cv ((fillD n W).take n)) := by
        have hh := HO.out
        rw [show k = n by omega] at hh
        exact hh
      have hkn : k = n := by omega
      subst hkn
      clear HO hk HFT
      go_wp2
      obtain ⟨wo, rfl⟩ : ∃ wo : World, wo = wr := ⟨_, rfl⟩
      go_loopw [7] (fun v wr2 => ∃ m : Nat, m ≤ k ∧ v = .slice av m cv ∧ Hid (OwnI wr2 w.heap.size av m cv ((fillD k W).take m)) ∧ Hid (∀ j, m ≤ j → j < k → (fillD k W).getD j 0 = (L : Int) - 1) ∧ Hid (Ext w wr2)) (fun v _ => match v with | .slice _ m _ => m | _ => 0)
      case atStart => exact ⟨k, Nat.le_refl _, rfl, HOn, fun j h1 h2 => by omega, HX⟩
      case round =>
        clear HOn HX
        obtain ⟨m, hm, rfl, HO, HZ, HX⟩ := hrel
        have eL : IntKind.i64.wrap ((L : Int) - 1) = (L : Int) - 1 := wrap_in (by omega) (by omega)
        by_cases hm0 : 0 < m
        · obtain ⟨g, rfl, hg1, _, q1, q2⟩ := HO.out.cell (m - 1) (by omega)
          have hv : ((fillD k W).take m).getD (m - 1) 0 = (fillD k W).getD (m - 1) 0 := by
            simp [List.getD_eq_getElem?_getD, List.getElem?_take, show m - 1 < m by omega]
          rw [hv] at q1
          have e0 : IntKind.i64.wrap ((m : Int) - 1) = ((m - 1 : Nat) : Int) := by rw [wrap_in (by omega) (by omega)]; omega
          have hb := HW.out (m - 1) (by omega)
          have HV := hidP hv
          clear hv
          by_cases hx : (fillD k W).getD (m - 1) 0 = (L : Int) - 1
          · rw [hx] at q1
            have HO2 : Hid (OwnI wr w.heap.size (some ⟨g, 0, none⟩) (m - 1) cv ((fillD k W).take (m - 1))) := by
              have hh := HO.out.firstN (m - 1) (by omega)
              rw [List.take_take, Nat.min_eq_left (by omega)] at hh
              exact hh
            have HZ2 : Hid (∀ j, m - 1 ≤ j → j < k → (fillD k W).getD j 0 = (L : Int) - 1) := fun j h1 h2 => by
              rcases Nat.lt_or_ge j m with h | h
              · rw [show j = m - 1 by omega]; exact hx
              · exact HZ.out j h h2
            have hcap : m ≤ cv := HO.out.capN
            have HXx := hidP hx
            clear hx hb
            go_wp2
            go_roundw
            case rel => exact ⟨m - 1, by omega, rfl, HO2, HZ2, HX⟩
            case measure => show m - 1 < m; omega
          · have HST := hidP (strip_is (x := (L : Int) - 1) (l := fillD k W) (m := m) (by rw [HFL.out]; exact hm) (fun _ => hx) (fun j h1 h2 => HZ.out j h1 (by rw [HFL.out] at h2; exact h2)))
            have HN : Hid (nextD L k W = ((fillD k W).take m).set (m - 1) ((fillD k W).getD (m - 1) 0 + 1)) := by
              show _ = _
              have hlm : ((fillD k W).take m).length = m := by rw [List.length_take, HFL.out]; omega
              unfold nextD
              rw [HST.out]
              unfold bumpD
              rw [hlm, if_neg (by omega), HV.out]
            have HOf := hidP (HO.out.putN (i := m - 1) (by omega) ((fillD k W).getD (m - 1) 0 + 1))
            have HXf := hidP (Ext.setNew HX.out g (m - 1) hg1 (.int .i64 ((fillD k W).getD (m - 1) 0 + 1)))
            have hbx : (((fillD k W).getD (m - 1) 0) == (L : Int) - 1) = false := by simpa using hx
            clear hx HV
            generalize (fillD k W).getD (m - 1) 0 = y at *
            have e2 : IntKind.i64.wrap (y + 1) = y + 1 := wrap_in (by omega) (by omega)
            go_wp2
            go_ret
            exact ⟨_, m, cv, rfl, by rw [HN.out]; exact HOf.out, hm, HXf.out⟩
        · obtain rfl : m = 0 := by omega
          have HN : Hid (nextD L k W = []) := by
            show _ = _
            unfold nextD
            rw [strip_is (x := (L : Int) - 1) (l := fillD k W) (m := 0) (Nat.zero_le _) (fun h => absurd h (by omega)) (fun j h1 h2 => HZ.out j h1 (by rw [HFL.out] at h2; exact h2))]
            rfl
          have HO0 := hidP HO.out
          rw [List.take_zero] at HO0
          go_wp2
          go_ret
          exact ⟨_, 0, cv, rfl, by rw [HN.out]; exact HO0.out, hm, HX.out⟩
end Go.Proofs.Ytenlhfimdpcaoaa

namespace Go.Proofs.Ytenlhfimdpcaoaa
open Go.RowKit

end Go.Proofs.Ytenlhfimdpcaoaa

namespace Go.Proofs.Ytenlhfimdpcaoaa
open Go.RowKit

end Go.Proofs.Ytenlhfimdpcaoaa

namespace Go.Proofs.Ytenlhfimdpcaoaa
open Go.RowKit

namespace Red
variable {w0 w w' : World} {B N : Nat} {a : Option Addr} {n c : Nat} {hs : List Hdr} {R : List (List Int)} {ap : Option Addr} {np cp : Nat} {P : List Int}
end Red
end Go.Proofs.Ytenlhfimdpcaoaa

namespace Go.Proofs.Ytenlhfimdpcaoaa
open Go.RowKit

end Go.Proofs.Ytenlhfimdpcaoaa

namespace Go.Proofs.Ytenlhfimdpcaoaa
open Go.RowKit

end Go.Proofs.Ytenlhfimdpcaoaa

namespace Go.Proofs.Ytenlhfimdpcaoaa
open Go.RowKit

theorem Try.info81 : (Try.prog.info? 81).map (fun i => (i.zero, i.size, i.bytes)) = some (some (.agg #[.slice none 0 0, .int .i64 0]), 2, 32) := by kernel_rfl

end Go.Proofs.Ytenlhfimdpcaoaa

namespace Go.Proofs.Ytenlhfimdpcaoaa
open Go.RowKit

end Go.Proofs.Ytenlhfimdpcaoaa

namespace Go.Proofs.Ytenlhfimdpcaoaa
open Go.RowKit

end Go.Proofs.Ytenlhfimdpcaoaa

namespace Go.Proofs.Ytenlhfimdpcaoaa
open Go.RowKit

theorem duv_earlyM {L n i M : Nat} (h : (duvS L n M).2.length = 0) (hi : (duvS L n i).2.length ≠ 0) : i < M := by
  rcases Nat.lt_or_ge i M with h1 | h1
  · exact h1
  · obtain ⟨j, rfl⟩ := Nat.exists_eq_add_of_le h1
    rw [duv_stay h j] at hi
    exact absurd h hi
theorem duv_endM {L n i M : Nat} (h : (duvS L n M).2.length = 0) (hi : (duvS L n i).2.length = 0) : duvS L n i = duvS L n M := by
  rcases Nat.le_total i M with h1 | h1
  · obtain ⟨j, rfl⟩ := Nat.exists_eq_add_of_le h1
    exact (duv_stay hi j).symm
  · obtain ⟨j, rfl⟩ := Nat.exists_eq_add_of_le h1
    exact duv_stay h j
theorem duvS_step {L n i : Nat} (h : (duvS L n i).2.length ≠ 0) : duvS L n (i + 1) = (if (duvS L n i).2.length = n then (duvS L n i).1 ++ [(duvS L n i).2] else (duvS L n i).1, nextD L n (duvS L n i).2) := by
  show (if (duvS L n i).2.length = 0 then duvS L n i else _) = _
  rw [if_neg h]
theorem OwnK.someOf {α : Type} {K : Knd α} {w : World} {B U : Nat} {a : Option Addr} {n c : Nat} {hs : List Hdr} {xs : List α} (h : OwnK K w B U a n c hs xs) (hn : 0 < n) : a ≠ none := by
  rintro rfl
  rcases h.form with ⟨_, h1, _⟩ | ⟨g, cur, h1, _⟩
  · omega
  · cases h1
theorem OwnK.at0 {α : Type} {K : Knd α} {w : World} {B U : Nat} {a : Option Addr} {n c : Nat} {hs : List Hdr} {xs : List α} (h : OwnK K w B U a n c hs xs) (hn : a ≠ none) : ∃ g, a = some ⟨g, 0, none⟩ := by
  rcases h.form with ⟨h1, _⟩ | ⟨g, cur, h1, _⟩
  · exact absurd h1 hn
  · exact ⟨g, h1⟩
theorem OwnK.noOwn {α : Type} {K : Knd α} {w : World} {B U : Nat} {a b : Option Addr} {n c : Nat} {hs : List Hdr} {xs : List α} (h : OwnK K w B U a n c hs xs) (hf : Apart a b) (g o : Nat) (e : b = some ⟨g, o, none⟩) : some g ≠ (Value.slice a n c).ownBlock := by
  intro e2
  rcases h.form with ⟨rfl, _⟩ | ⟨g', cur, rfl, _⟩
  · simp [Value.ownBlock] at e2
  · simp only [Value.ownBlock, Option.some.injEq] at e2
    exact hf g' 0 g o rfl e e2.symm
open Classical in
/-- the greatest number up to n that has a property -/
noncomputable def topN (J : Nat → Prop) : Nat → Nat
  | 0 => 0
  | n + 1 => if J (n + 1) then n + 1 else topN J n
theorem topN_ge {J : Nat → Prop} {i : Nat} (h : J i) : ∀ {n : Nat}, i ≤ n → i ≤ topN J n
  | 0, hi => hi
  | n + 1, hi => by
    unfold topN
    split
    · exact hi
    · rename_i hn
      rcases Nat.lt_succ_iff_lt_or_eq.1 (Nat.lt_succ_of_le hi) with h1 | h1
      · exact topN_ge h (Nat.le_of_lt_succ h1)
      · exact absurd (h1 ▸ h) hn
theorem topN_spec {J : Nat → Prop} {i : Nat} (h : J i) : ∀ {n : Nat}, i ≤ n → J (topN J n)
  | 0, hi => by
    obtain rfl : i = 0 := by omega
    exact h
  | n + 1, hi => by
    unfold topN
    split
    · rename_i hn
      exact hn
    · rename_i hn
      rcases Nat.lt_succ_iff_lt_or_eq.1 (Nat.lt_succ_of_le hi) with h1 | h1
      · exact topN_spec h (Nat.le_of_lt_succ h1)
      · exact absurd (h1 ▸ h) hn
theorem topJ {J : Nat → Prop} {N : Nat} (h : ∃ i, J i) (hb : ∀ i, J i → i ≤ N) : ∃ i, i = topN J N ∧ J i := by
  obtain ⟨i, hi⟩ := h
  exact ⟨_, rfl, topN_spec hi (hb i hi)⟩
theorem topLt {J J' : Nat → Prop} {N i : Nat} (h : i = topN J N) (h' : J' (i + 1)) (hN : i + 1 ≤ N) : N - topN J' N < N - topN J N := by
  have := topN_ge h' hN
  omega
/-- where the words stand: after i steps -/
structure DuvJ (M L n : Nat) (w : World) (i : Nat) (v5 v6 : Value) (wr : World) : Prop where
  le : i ≤ M
  st : ∃ (av : Option Addr) (nv cv : Nat) (hv : List Hdr) (bw : Option Addr) (nw cw : Nat), v5 = .slice av nv cv ∧ v6 = .slice bw nw cw ∧ OwnK rowK wr w.heap.size wr.heap.size av nv cv hv (duvS L n i).1 ∧ OwnI wr w.heap.size bw nw cw (duvS L n i).2 ∧ Ext w wr ∧ (∀ q, q < nv → Apart (hv.getD q (none, 0)).1 bw) ∧ Apart av bw ∧ nw ≤ n ∧ av ≠ none
set_option maxHeartbeats 2000000 in
theorem l11LyndonWords_any (M L n : Nat) (w : World) (hM : M ≤ 1000) (hL1 : 1 ≤ L) (hL : L ≤ 100) (hn1 : 1 ≤ n) (hn : n ≤ 100) (hS : (duvS L n M).2.length = 0) :
    Calls Try.prog 48 #[.int .i64 L, .int .i64 n] w fun e w' => ∃ g m c' hs, e = .returned (.slice (some ⟨g, 0, none⟩) m c') ∧ OwnK rowK w' w.heap.size w'.heap.size (some ⟨g, 0, none⟩) m c' hs (duvS L n M).1 ∧ Ext w w' := by
  have HD := hidP (fun i => duv_word hL1 hn1 i)
  have HEa := hidP (fun i (hi : (duvS L n i).2.length ≠ 0) => duv_earlyM hS hi)
  have HEn := hidP (fun i (hi : (duvS L n i).2.length = 0) => duv_endM hS hi)
  have HSt := hidP (fun i (hi : (duvS L n i).2.length ≠ 0) => duvS_step hi)
  have HLn : Hid (∀ i, i ≤ M → (duvS L n i).1.length ≤ i) := by
    intro i
    induction i with
    | zero => intro _; exact Nat.le_refl _
    | succ i ih =>
      intro hi
      have h1 := ih (by omega)
      by_cases h : (duvS L n i).2.length = 0
      · show ((if (duvS L n i).2.length = 0 then duvS L n i else _) : _ × _).1.length ≤ _
        rw [if_pos h]
        omega
      · rw [duvS_step h]
        show (if _ then _ else _ : List (List Int)).length ≤ _
        split
        · rw [List.length_append, List.length_singleton]; omega
        · omega
  have HO := hidP (OwnK.made0 rowK w)
  have hE : rowK.E = 22 := rfl
  rw [hE] at HO
  clear hE
  have hx1 := Ext.alloc w (.cells #[] 22)
  have hs1 : (w.alloc (.cells #[] 22)).heap.size = w.heap.size + 1 := by simp
  clear hS
  go_enter Try.func48, Try.ntmps48
  go_wp2
  obtain ⟨wa, hwa⟩ : ∃ wa, wa = w.alloc (.cells #[] 22) := ⟨_, rfl⟩
  rw [← hwa] at HO hx1 hs1 ⊢
  clear hwa
  have hx2 := Ext.alloc wa (.cells #[.int .i64 0] 3)
  have hs2 : (wa.alloc (.cells #[.int .i64 0] 3)).heap.size = w.heap.size + 1 + 1 := by simp [hs1]
  have HW : Hid (OwnI (wa.alloc (.cells #[.int .i64 0] 3)) w.heap.size (some ⟨w.heap.size + 1, 0, none⟩) 1 1 [0]) := by
    refine ⟨⟨rfl, .inr ⟨w.heap.size + 1, 1, #[.int .i64 0], rfl, Nat.le_succ _, ?_, Nat.le_refl _, by unfold maxLen; omega, rfl, rfl⟩⟩⟩
    have := heap_alloc_new wa (.cells #[.int .i64 0] 3)
    rw [hs1] at this
    exact this
  have HO0 := hidP ((HO.out.below hx2).weaken (Nat.le_refl _) (show wa.heap.size ≤ (wa.alloc (.cells #[.int .i64 0] 3)).heap.size from hx2.size))
  have HX := hidP (hx1.trans hx2)
  have HFa0 : Hid (Apart (some ⟨w.heap.size, 0, none⟩) (some ⟨w.heap.size + 1, 0, none⟩)) := fun b o b' o' e e' => by cases e; cases e'; omega
  clear hx1 hx2 hs1 hs2 HO
  obtain ⟨w0, hw0⟩ : ∃ w0, w0 = wa.alloc (.cells #[.int .i64 0] 3) := ⟨_, rfl⟩
  rw [← hw0] at HO0 HX HW ⊢
  clear hw0
  go_loopw [5, 6] (fun v5 v6 wr => ∃ i, DuvJ M L n w i v5 v6 wr) (fun v5 v6 wr => M - topN (fun i => DuvJ M L n w i v5 v6 wr) M)
  case atStart => exact ⟨0, Nat.zero_le _, _, 0, 0, [], _, 1, 1, rfl, rfl, HO0.out, HW.out, HX.out, fun q hq => by omega, HFa0.out, hn1, by simp⟩
  case round =>
    clear HO0 HX HW HFa0
    obtain ⟨i, hti, hJ⟩ := topJ (N := M) hrel (fun i h => h.le)
    clear hrel
    obtain ⟨hi, av, nv, cv, hv, bw, nw, cw, rfl, rfl, ho, hw, hx, hap, hfa, hnw, hnn⟩ := hJ
    have HTi := hidP hti
    have HO := hidP ho
    have HW := hidP hw
    have HX := hidP hx
    have HAp := hidP hap
    have HFa := hidP hfa
    have HNn := hidP hnn
    have hwl := hw.len
    have HWL := hidP hwl
    have hnv := ho.xl
    have hnvb := HLn.out i hi
    rw [hnv] at hnvb
    clear hti ho hw hx hap hfa hwl hnv hnn
    by_cases hnz : 0 < nw
    · have hne : (duvS L n i).2.length ≠ 0 := by rw [HWL.out]; omega
      have hiM := HEa.out i hne
      have hst := HSt.out i hne
      have hd := HD.out i
      have HNx := hidP (fun w' (hI : IntsAt w' bw nw (duvS L n i).2) => l11Next_any bw nw cw L n (duvS L n i).2 w' hI hnz (by omega) (by omega) (by omega) (fun y hy => by
        obtain ⟨k, hk, rfl⟩ := List.mem_iff_getElem.1 hy
        have := hd.let_ k hk
        rw [List.getD_eq_getElem?_getD, List.getElem?_eq_getElem hk] at this
        simp only [Option.getD_some] at this
        omega))
      rw [HWL.out] at hst
      have HST := hidP hst
      have HDn := hidP (fun i => (HD.out i).len)
      clear hne hst hd
      by_cases hln : nw = n
      · have hlb : ((nw : Int) == (n : Int)) = true := by simp [hln]
        have HS1 : Hid ((duvS L n (i + 1)).1 = (duvS L n i).1 ++ [(duvS L n i).2] ∧ (duvS L n (i + 1)).2 = nextD L n (duvS L n i).2) := by
          have hh := HST.out
          rw [if_pos hln] at hh
          rw [hh]
          exact ⟨rfl, rfl⟩
        have hxa := Ext.alloc wr (.cells #[.slice bw nw cw] 22)
        have HOa := hidP ((HO.out.below hxa).weaken (Nat.le_refl _) hxa.size)
        have HWa := hidP (HW.out.below hxa)
        have HXa := hidP (HX.out.trans hxa)
        have HCe : Hid (∀ q, q < rowK.size → (wr.alloc (.cells #[.slice bw nw cw] 22)).cell? ⟨wr.heap.size, q, none⟩ = (rowK.cells bw cw (duvS L n i).2)[q]?) := fun q hq => by
          rw [cell_top _ _ _ _ _ rfl]
          show _ = ([Value.slice bw (duvS L n i).2.length cw])[q]?
          rw [HWL.out]
          simp
        have HR3 : Hid (OwnI (wr.alloc (.cells #[.slice bw nw cw] 22)) w.heap.size bw (duvS L n i).2.length cw (duvS L n i).2) := by show OwnI _ _ _ _ _ _; rw [HWL.out]; exact HWa.out
        have HNo := hidP (HOa.out.noOwn (b := bw))
        clear hxa hln
        go_wp2_with (at_builtin; refine wpList_append_elem2 rowK 73 (.slice none 0 0) 24 rfl (.tmp 16) (.tmp 18) rfl Try.underlying73 Try.info22 rfl (by omega) w.heap.size _ av nv cv hv _ rfl HOa.out wr.heap.size 1 (bw, cw) (duvS L n i).2 rfl HCe.out HR3.out HAp.out HFa.out (by omega) HXa.out.size ?_; intro a3 c3 w3 ho3 hg3 hn3; have HO3 := hidP ho3; have HX3 : Hid (Ext w w3) := HOa.out.below_grown hg3 HXa.out HXa.out.size; have HW3 : Hid (OwnI w3 w.heap.size bw nw cw (duvS L n i).2) := HWa.out.grown hg3 (HNo.out HFa.out); have HNn3 : Hid (a3 ≠ none) := ho3.someOf (Nat.succ_pos _); clear ho3 hg3 hn3)
        refine (HNx.out _ HW3.out.ints).mono ?_
        rintro e w4 ⟨b4, m4, c4, rfl, ho4, hm4, hx4⟩
        have HJ1 : Hid (DuvJ M L n w (i + 1) (.slice a3 (nv + 1) c3) (.slice b4 m4 c4) w4) := by
          refine ⟨hiM, a3, nv + 1, c3, hv ++ [(bw, cw)], b4, m4, c4, rfl, rfl, ?_, ?_, HX3.out.trans hx4, ?_, ?_, hm4, HNn3.out⟩
          · rw [HS1.out.1]
            exact (HO3.out.below hx4).weaken (Nat.le_refl _) hx4.size
          · rw [HS1.out.2]
            exact ho4.base HX3.out.size
          · intro q hq b o b' o' e e'
            have h1 := HO3.out.lt q hq b o e
            have h2 := (ho4.at_base b' o' e').1
            omega
          · intro b o b' o' e e'
            have h1 := (HO3.out.base_lt b o e).2
            have h2 := (ho4.at_base b' o' e').1
            omega
        clear ho4 hx4 HNx
        go_wp2
        go_roundw
        case rel => exact ⟨i + 1, HJ1.out⟩
        case measure => exact topLt HTi.out HJ1.out hiM
      · have hlb : ((nw : Int) == (n : Int)) = false := by simp; omega
        have HS1 : Hid ((duvS L n (i + 1)).1 = (duvS L n i).1 ∧ (duvS L n (i + 1)).2 = nextD L n (duvS L n i).2) := by
          have hh := HST.out
          rw [if_neg hln] at hh
          rw [hh]
          exact ⟨rfl, rfl⟩
        clear hln
        go_wp2_with fail
        refine (HNx.out _ HW.out.ints).mono ?_
        rintro e w4 ⟨b4, m4, c4, rfl, ho4, hm4, hx4⟩
        have HJ1 : Hid (DuvJ M L n w (i + 1) (.slice av nv cv) (.slice b4 m4 c4) w4) := by
          refine ⟨hiM, av, nv, cv, hv, b4, m4, c4, rfl, rfl, ?_, ?_, HX.out.trans hx4, ?_, ?_, hm4, HNn.out⟩
          · rw [HS1.out.1]
            exact (HO.out.below hx4).weaken (Nat.le_refl _) hx4.size
          · rw [HS1.out.2]
            exact ho4.base HX.out.size
          · intro q hq b o b' o' e e'
            have h1 := HO.out.lt q hq b o e
            have h2 := (ho4.at_base b' o' e').1
            omega
          · intro b o b' o' e e'
            have h1 := (HO.out.base_lt b o e).2
            have h2 := (ho4.at_base b' o' e').1
            omega
        clear ho4 hx4 HNx
        go_wp2
        go_roundw
        case rel => exact ⟨i + 1, HJ1.out⟩
        case measure => exact topLt HTi.out HJ1.out hiM
    · obtain rfl : nw = 0 := by omega
      have hen := HEn.out i HWL.out
      have HOf : Hid (OwnK rowK wr w.heap.size wr.heap.size av nv cv hv (duvS L n M).1) := by
        have hh := HO.out
        rw [hen] at hh
        exact hh
      clear hen
      obtain ⟨g, rfl⟩ := HOf.out.at0 HNn.out
      go_wp2
      go_ret
      exact ⟨g, _, _, hv, rfl, HOf.out, HX.out⟩
end Go.Proofs.Ytenlhfimdpcaoaa

namespace Go.Proofs.Ytenlhfimdpcaoaa
open Go.RowKit
theorem l1Ints_any (a : Option Addr) (n c : Nat) (xs : List Int) (w : World) (h : IntsAt w a n xs) (hnil : a = none → c = 0) (hn : n ≤ 1000000000) :
    Calls Try.prog 112 #[.slice a n c] w fun e w' => ∃ a' c', e = .returned (.slice a' n c') ∧ OwnI w' w.heap.size a' n c' xs ∧ Ext w w' := by
  have H := hidP (h.below (Ext.alloc w (.cells #[] 3)))
  have hm := OwnI.made w w.heap.size 0 (Nat.le_refl _) (by unfold maxLen; omega)
  rw [show Array.replicate 0 (Value.int .i64 0) = #[] from rfl] at hm
  have HM := hidP hm
  have HN := hidP hnil
  clear h hnil hm
  go_enter Try.func112, Try.ntmps112
  go_wp2_with (at_builtin; refine wpList_append_ints rfl (.tmp 3) (.tmp 4) rfl w.heap.size (some ⟨w.heap.size, 0, none⟩) 0 0 [] rfl HM.out a n c xs rfl H.out HN.out (by omega) (by simp) ?_; intro a' c' w' ho hg)
  go_ret
  rw [Nat.zero_add, List.nil_append] at ho
  exact ⟨_, _, rfl, ho, grown_ext hg (Ext.alloc w _) (by simp) (fun q e => by cases e; exact Nat.le_refl _)⟩
end Go.Proofs.Ytenlhfimdpcaoaa

namespace Go.Proofs.Ytenlhfimdpcaoaa
open Go.RowKit

theorem IntsAt.behind {w : World} {b o n : Nat} {xs : List Int} (h : IntsAt w (some ⟨b, o, none⟩) n xs) (i : Nat) (hi : i ≤ n) : IntsAt w (some ⟨b, o + i, none⟩) (n - i) (xs.drop i) := by
  have := h.part i (n - i) (by omega)
  rwa [List.take_of_length_le (by rw [List.length_drop, h.len]; omega)] at this
theorem lyn_yes {xs : List Int} (h : ∀ j, 1 ≤ j → j < xs.length → lexC xs (xs.drop j) < 0) : lynB xs = true := by
  unfold lynB
  rw [decide_eq_true_iff]
  exact fun i h1 h2 => h i h2 h1
theorem lyn_no {xs : List Int} {j : Nat} (h1 : 1 ≤ j) (h2 : j < xs.length) (h : ¬ lexC xs (xs.drop j) < 0) : lynB xs = false := by
  unfold lynB
  rw [decide_eq_false_iff_not]
  exact fun hh => h (hh j h2 h1)
set_option maxHeartbeats 1000000 in
theorem l11Lyndon_any (b o n c : Nat) (xs : List Int) (w : World) (h : IntsAt w (some ⟨b, o, none⟩) n xs) (hnc : n ≤ c) (hc : c ≤ 9223372036854775807) (hn : n ≤ 1000000) :
    Calls Try.prog 151 #[.slice (some ⟨b, o, none⟩) n c] w fun e w' => e = .returned (.bool (lynB xs)) ∧ Ext w w' := by
  have H := hidP h
  have HL := hidP h.len
  clear h
  go_enter Try.func151, Try.ntmps151
  go_wp2
  go_loopw [3] (fun v wr => ∃ i : Nat, 1 ≤ i ∧ i ≤ n + 1 ∧ v = .int .i64 i ∧ Hid (∀ j, 1 ≤ j → j < i → j < n → lexC xs (xs.drop j) < 0) ∧ Hid (Ext w wr)) (fun v _ => n + 1 - (intOf v).toNat)
  case atStart => exact ⟨1, Nat.le_refl _, by omega, rfl, fun j h1 h2 => by omega, Ext.refl _⟩
  case round =>
    obtain ⟨i, hi1, hi, rfl, HZ, HX⟩ := hrel
    by_cases hlt : i < n
    · have HA := hidP (l6Above_any (some ⟨b, o + i, none⟩) (some ⟨b, o, none⟩) (n - i) n (c - i) c (xs.drop i) xs wr ((H.out.below HX.out).behind i (by omega)) (H.out.below HX.out) (by omega) (by omega))
      have HSw := hidP (lexC_swap xs (xs.drop i))
      have hic : i ≤ c := by omega
      have hcn : ¬ c = i := by omega
      go_wp2_with fail
      refine HA.out.mono ?_
      rintro e w3 ⟨rfl, hx3⟩
      have HX3 := hidP (HX.out.trans hx3)
      clear hx3 HA
      by_cases hl : lexC xs (xs.drop i) < 0
      · have hb : decide (0 < lexC (xs.drop i) xs) = true := by rw [HSw.out]; simp; omega
        have HZ2 : Hid (∀ j, 1 ≤ j → j < i + 1 → j < n → lexC xs (xs.drop j) < 0) := fun j h1 h2 h3 => by
          rcases Nat.lt_succ_iff_lt_or_eq.1 h2 with h | h
          · exact HZ.out j h1 h h3
          · rw [h]; exact hl
        rw [hb]
        clear hb hl HSw
        go_wp2
        go_roundw
        case rel => exact ⟨i + 1, by omega, by omega, by go_num, HZ2, HX3⟩
        case measure => simp [intOf]; omega
      · have hb : decide (0 < lexC (xs.drop i) xs) = false := by rw [HSw.out]; simp; omega
        have HN := hidP (lyn_no hi1 (by rw [HL.out]; exact hlt) hl)
        rw [hb]
        clear hb hl HSw
        go_wp2
        go_ret
        exact ⟨ret_bool HN.out.symm, HX3.out⟩
    · have HN := hidP (lyn_yes (xs := xs) (fun j h1 h2 => HZ.out j h1 (by rw [HL.out] at h2; omega) (by rw [HL.out] at h2; exact h2)))
      go_wp2
      go_ret
      exact ⟨ret_bool HN.out.symm, HX.out⟩
theorem cutTo_one (w : List Int) (f n : Nat) : cutTo w (f + 1) n = if lynB (w.drop n) then n else cutTo w f (n + 1) := rfl
theorem lyn_last {w : List Int} {k : Nat} (h : k + 1 = w.length) : lynB (w.drop k) = true := lynB_short (by rw [List.length_drop]; omega)
set_option maxHeartbeats 1000000 in
theorem l11Cut_any (b o n c : Nat) (xs : List Int) (w : World) (h : IntsAt w (some ⟨b, o, none⟩) n xs) (hnc : n ≤ c) (hc : c ≤ 9223372036854775807) (hn : n ≤ 1000000) (hn2 : 2 ≤ n) :
    Calls Try.prog 113 #[.slice (some ⟨b, o, none⟩) n c] w fun e w' => ∃ a1 n1 c1 a2 n2 c2, e = .returned (.tuple #[.slice a1 n1 c1, .slice a2 n2 c2]) ∧ OwnI w' w.heap.size a1 n1 c1 (xs.take (cutL xs)) ∧ OwnI w' w.heap.size a2 n2 c2 (xs.drop (cutL xs)) ∧ Ext w w' := by
  have H := hidP h
  have HL := hidP h.len
  have HCu : Hid (cutL xs = cutTo xs n 1) := by show cutL xs = _; unfold cutL; rw [h.len]
  clear h
  go_enter Try.func113, Try.ntmps113
  go_wp2
  go_loopw [4] (fun v wr => ∃ k : Nat, 1 ≤ k ∧ k < n ∧ v = .int .i64 k ∧ Hid (cutL xs = cutTo xs (n + 1 - k) k) ∧ Hid (Ext w wr)) (fun v _ => n - (intOf v).toNat)
  case atStart => exact ⟨1, Nat.le_refl _, by omega, rfl, HCu, Ext.refl _⟩
  case round =>
    clear HCu
    obtain ⟨k, hk1, hk, rfl, HCu, HX⟩ := hrel
    have HA := hidP (l11Lyndon_any b (o + k) (n - k) (c - k) (xs.drop k) wr ((H.out.below HX.out).behind k (by omega)) (by omega) (by omega) (by omega))
    have hkc : k ≤ c := by omega
    have hcn : ¬ c = k := by omega
    have HSt := hidP (cutTo_one xs (n - k) k)
    rw [show n - k + 1 = n + 1 - k by omega] at HSt
    have HLa : Hid (k + 1 = n → lynB (xs.drop k) = true) := fun e => lyn_last (by rw [HL.out]; exact e)
    go_wp2_with fail
    refine HA.out.mono ?_
    rintro e w3 ⟨rfl, hx3⟩
    have HX3 := hidP (HX.out.trans hx3)
    clear hx3 HA
    cases hl : lynB (xs.drop k) with
    | false =>
      have HC2 : Hid (cutL xs = cutTo xs (n + 1 - (k + 1)) (k + 1)) := by
        show _ = _
        rw [HCu.out, HSt.out, hl, show n + 1 - (k + 1) = n - k by omega]
        rfl
      have hk2 : k + 1 < n := by
        rcases Nat.lt_or_ge (k + 1) n with h | h
        · exact h
        · have := HLa.out (by omega)
          rw [hl] at this
          cases this
      clear hl
      go_wp2
      go_roundw
      case rel => exact ⟨k + 1, by omega, hk2, by go_num, HC2, HX3⟩
      case measure => simp [intOf]; omega
    | true =>
      have HC2 : Hid (cutL xs = k) := by
        show _ = _
        rw [HCu.out, HSt.out, hl]
        rfl
      clear hl
      have HI1 := hidP (fun w' (hx : Ext w w') => l1Ints_any (some ⟨b, o, none⟩) k c (xs.take k) w' (by
        have := (H.out.below hx).part 0 k (by omega)
        rwa [Nat.add_zero, List.drop_zero] at this) (fun e => by cases e) (by omega))
      have HI2 := hidP (fun w' (hx : Ext w w') => l1Ints_any (some ⟨b, o + k, none⟩) (n - k) (c - k) (xs.drop k) w' ((H.out.below hx).behind k (by omega)) (fun e => by cases e) (by omega))
      go_wp2
      have hE : Ext w w3.drew := HX3.out.trans (Ext.drew w3)
      have hkn : k ≤ n := by omega
      (refine walkR_start (fun w' => Ext w w') 8 (by kernel_rfl) ?_; simp only [numbered, List.take_succ_cons, List.take_zero, Nat.zero_add, Nat.reduceAdd, List.length_cons, List.length_nil])
      (repeat (first | (refine walkR_still (v := ?_) rfl (by decide +kernel) rfl (fun _ _ _ h => h) hE ?_ ?_; rotate_left; (focus (intro w' hw'; skip; go_simp; all_goals (with_reducible rfl))); simp only [Act.put, List.setIfInBounds_toArray, List.set_cons_zero, List.set_cons_succ]) | (refine walkR_skip rfl (by decide +kernel) rfl (fun _ _ _ h => h) hE ?_; simp only [Act.put, List.setIfInBounds_toArray, List.set_cons_zero, List.set_cons_succ])))
      (refine walkR_later ?_; simp only [List.cons_append, List.nil_append])
      (repeat (first | (refine walkR_still (v := ?_) rfl (by decide +kernel) rfl (fun _ _ _ h => h) hE ?_ ?_; rotate_left; (focus (intro w' hw'; skip; go_simp; all_goals (with_reducible rfl))); simp only [Act.put, List.setIfInBounds_toArray, List.set_cons_zero, List.set_cons_succ]) | (refine walkR_skip rfl (by decide +kernel) rfl (fun _ _ _ h => h) hE ?_; simp only [Act.put, List.setIfInBounds_toArray, List.set_cons_zero, List.set_cons_succ])))
      (refine walkR_later ?_; simp only [List.cons_append, List.nil_append])
      (refine walkR_only (fun w' => Ext w w') rfl (by decide +kernel) rfl (fun _ h => h) ?_; intro K hK; go_simp; refine (HI1.out _ hE).mono ?_; rintro e w4 ⟨a4, c4, rfl, ho4, hx4⟩; refine hK _ _ (hE.trans hx4) ?_; clear hK K; (try simp only [Act.put, List.setIfInBounds_toArray, List.set_cons_zero, List.set_cons_succ]))
      have hE4 := hE.trans hx4
      (refine walkR_only (fun w' => Ext w w') rfl (by decide +kernel) rfl (fun _ h => h) ?_; intro K hK; go_simp; refine (HI2.out _ hE4).mono ?_; rintro e w5 ⟨a5, c5, rfl, ho5, hx5⟩; refine hK _ _ (hE4.trans hx5) ?_; clear hK K; (try simp only [Act.put, List.setIfInBounds_toArray, List.set_cons_zero, List.set_cons_succ]))
      have HX5 := hidP (hE4.trans hx5)
      have HO4 := hidP ((ho4.below hx5).base (B' := w.heap.size) hE.size)
      have HO5 := hidP (ho5.base (B' := w.heap.size) hE4.size)
      clear ho4 ho5 hx4 hx5 hE hE4
      (refine walkR_tail (by rfl) (by kernel_rfl) ?_; simp only [List.drop_succ_cons, List.drop_zero])
      go_wp2
      refine bodyPost_ret (v := .tuple #[.slice a4 k c4, .slice a5 (n - k) c5]) (by simp [results, Try.results113, go_sem]) rfl ?_
      rw [HC2.out]
      exact ⟨a4, k, c4, a5, n - k, c5, rfl, HO4.out, HO5.out, HX5.out⟩
end Go.Proofs.Ytenlhfimdpcaoaa

namespace Go.Proofs.Ytenlhfimdpcaoaa
open Go.RowKit

end Go.Proofs.Ytenlhfimdpcaoaa

namespace Go.Proofs.Ytenlhfimdpcaoaa
open Go.RowKit

/-! ### how many words there are -/
/-! ### the functions -/
/-- k times a list behind another one -/
def joinE (p k : Int) (us vs : List Tm) : List Tm := us ++ vs.map fun q => (q.1, k % p * q.2)
end Go.Proofs.Ytenlhfimdpcaoaa

namespace Go.Proofs.Ytenlhfimdpcaoaa
open Go.RowKit

def stepK : Knd Stp where
  E := 81
  size := 2
  dft := ([], 0)
  ints := fun x => x.1
  put := fun x ys => (ys, x.2)
  cells := fun a c x => [.slice a x.1.length c, .int .i64 x.2]
  len := fun _ _ _ => rfl
  pos := by decide
  ne := by decide
  put_ints := fun _ _ => rfl
  put_cells := fun a c x ys h => by show [Value.slice a ys.length c, Value.int .i64 x.2] = _; rw [h]
  one := fun a c x u hu => by
    simp only [List.mem_cons, List.not_mem_nil, or_false] at hu
    rcases hu with rfl | rfl <;> rfl
theorem OwnI.small {w : World} {B : Nat} {a : Option Addr} {n c : Nat} {xs : List Int} (h : OwnI w B a n c xs) : n ≤ 9223372036854775807 := by
  rcases h.row.2 with ⟨_, h0⟩ | ⟨g, cap, cur, _, _, _, hnc, hcm, _⟩
  · omega
  · unfold maxLen at hcm; omega
variable {α : Type}
theorem Knd.all_append (K : Knd α) (hs hs2 : List Hdr) (xs xs2 : List α) (h : hs.length = xs.length) : K.all (hs ++ hs2) (xs ++ xs2) = K.all hs xs ++ K.all hs2 xs2 := by
  induction hs generalizing xs with
  | nil => cases xs <;> simp_all [Knd.all]
  | cons a hs ih =>
    cases xs with
    | nil => simp at h
    | cons x xs => simp only [Knd.all, List.cons_append, List.append_assoc]; rw [ih xs (by simpa using h)]
theorem getD_left {β : Type} (l k : List β) (i : Nat) (x : β) (h : i < l.length) : (l ++ k).getD i x = l.getD i x := by simp [List.getD_eq_getElem?_getD, List.getElem?_append_left h]
theorem getD_right {β : Type} (l k : List β) (i : Nat) (x : β) (h : l.length ≤ i) : (l ++ k).getD i x = k.getD (i - l.length) x := by simp [List.getD_eq_getElem?_getD, List.getElem?_append_right h]
theorem OwnK.off_ints {K : Knd α} {w : World} {B U B' : Nat} {a a' : Option Addr} {n c n' c' : Nat} {hs : List Hdr} {xs : List α} {ys : List Int} (h : OwnK K w B U a n c hs xs) (k : OwnI w B' a' n' c' ys) : Apart a a' := by
  intro b o b' o' e e' hb
  subst hb
  obtain ⟨cur', hg'⟩ := k.block e'
  rcases h.form with ⟨rfl, _⟩ | ⟨g, cur, rfl, _, _, hg, _⟩
  · cases e
  · simp only [Option.some.injEq, Addr.mk.injEq, and_true] at e
    obtain ⟨rfl, _⟩ := e
    rw [hg] at hg'
    simp only [Option.some.injEq, Obj.cells.injEq] at hg'
    exact K.ne hg'.2.1
theorem OwnK.cat_of {K : Knd α} {w w' : World} {B U U2 : Nat} {a a2 : Option Addr} {n c m c2 : Nat} {hs hs2 : List Hdr} {xs xs2 : List α} (hown : OwnK K w B U a n c hs xs) (h2 : OwnK K w B U2 a2 m c2 hs2 xs2) {v' : Value}
    (hr : w'.ownsRow B K.E K.size v' (n + m) (K.all hs xs ++ K.all hs2 xs2)) (hg : w.grownBy w' (Value.slice a n c).ownBlock)
    (hap : ∀ i j, i < n → j < m → Apart (hs.getD i (none, 0)).1 (hs2.getD j (none, 0)).1) (hsl : ∃ a' c', v' = .slice a' (n + m) c') :
    ∃ a' c', v' = .slice a' (n + m) c' ∧ OwnK K w' B w'.heap.size a' (n + m) c' (hs ++ hs2) (xs ++ xs2) := by
  rw [← K.all_append hs hs2 xs xs2 (hown.hl.trans hown.xl.symm)] at hr
  obtain ⟨a', c', rfl⟩ := hsl
  refine ⟨a', c', rfl, ?_⟩
  have hxl := hown.xl
  have hhl := hown.hl
  have hxl2 := h2.xl
  have hhl2 := h2.hl
  have hne : ∀ {p : Option Addr} {k q : Nat} {ys : List Int}, OwnI w B p k q ys → ∀ b o, p = some ⟨b, o, none⟩ → some b ≠ (Value.slice a n c).ownBlock := fun hk b o e => by
    rcases hown.form with ⟨rfl, _⟩ | ⟨g', cur, rfl, _⟩
    · simp [Value.ownBlock]
    · have := hown.off_ints hk g' 0 b o rfl e
      simp only [Value.ownBlock, ne_eq, Option.some.injEq]
      omega
  have hev : ∀ q, q < n + m → OwnI w' B ((hs ++ hs2).getD q (none, 0)).1 (K.ints ((xs ++ xs2).getD q K.dft)).length ((hs ++ hs2).getD q (none, 0)).2 (K.ints ((xs ++ xs2).getD q K.dft)) := fun q hq => by
    by_cases h3 : q < n
    · rw [getD_left _ _ _ _ (by omega), getD_left _ _ _ _ (by omega)]
      exact (hown.each q h3).grown hg fun b o e => hne (hown.each q h3) b o e
    · rw [getD_right _ _ _ _ (by omega), getD_right _ _ _ _ (by omega), hhl, hxl]
      exact (h2.each _ (by omega)).grown hg fun b o e => hne (h2.each _ (by omega)) b o e
  refine ⟨hr, by simp [hhl, hhl2], by simp [hxl, hxl2], hev, fun q r hq hr' hqr => ?_, fun q hq b o e => ((hev q hq).at_base b o e).2, fun b o e => ?_⟩
  · by_cases h3 : q < n
    · rw [getD_left hs _ q _ (by omega)]
      by_cases h4 : r < n
      · rw [getD_left hs _ r _ (by omega)]; exact hown.apart q r h3 h4 hqr
      · rw [getD_right hs _ r _ (by omega)]; exact hap q _ h3 (by omega)
    · rw [getD_right hs _ q _ (by omega)]
      by_cases h4 : r < n
      · rw [getD_left hs _ r _ (by omega)]; exact (hap r _ h4 (by omega)).symm
      · rw [getD_right hs _ r _ (by omega)]; exact h2.apart _ _ (by omega) (by omega) (by omega)
  · rcases hr.2 with ⟨h5, h0⟩ | ⟨g', cap, cur, he, _, hg', _⟩
    · simp only [Value.slice.injEq] at h5
      rw [h5.1] at e
      cases e
    · simp only [Value.slice.injEq] at he
      rw [e] at he
      simp only [Option.some.injEq, Addr.mk.injEq, and_true] at he
      obtain ⟨⟨rfl, _⟩, _⟩ := he
      exact (Array.getElem?_eq_some_iff.1 hg').1

/-- append of an owned slice's elements to another one -/
theorem wpList_append_elems {ops : Array Oper} {rest : List Oper} {o : Oper} {av : Act} {Q : Exit → Act → World → Prop} {w : World} (K : Knd α) (T : TypeId) (z : Value) (bytes : Nat) (hgd : o.guard = none) (s x : Operand)
    (ho : o.op = .call { callee := .builtin .append, args := #[s, x], argTypes := #[T, T] }) (hT : Try.prog.underlying T = some (.slice K.E)) (hinfo : (Try.prog.info? K.E).map (fun i => (i.zero, i.size, i.bytes)) = some (some z, K.size, bytes))
    (hz : z.cells.size = K.size) (hbp : bytes ≤ 1000)
    (B U U2 : Nat) (a : Option Addr) (n c : Nat) (hs hs2 : List Hdr) (xs xs2 : List α) (hsv : av.eval s = .slice a n c) (hown : OwnK K w B U a n c hs xs)
    (g m c2 : Nat) (hx : av.eval x = .slice (some ⟨g, 0, none⟩) m c2) (h2 : OwnK K w B U2 (some ⟨g, 0, none⟩) m c2 hs2 xs2)
    (hap : ∀ i j, i < n → j < m → Apart (hs.getD i (none, 0)).1 (hs2.getD j (none, 0)).1) (hsm : n + m ≤ 1000000000) (ha : a ≠ none) (hB : B ≤ w.heap.size)
    (h : ∀ a' c' w', OwnK K w' B w'.heap.size a' (n + m) c' (hs ++ hs2) (xs ++ xs2) → w.grownBy w' (Value.slice a n c).ownBlock → OrNew w.heap.size a a' → wpList Try.prog ops Q rest (av.put o.dst (.slice a' (n + m) c')) w') : wpList Try.prog ops Q (o :: rest) av w := by
  obtain ⟨i, hi, hz0, hz1, hz2⟩ := info_parts hinfo
  have hl2 := K.all_length hs2 xs2 (h2.hl.trans h2.xl.symm)
  rw [h2.xl] at hl2
  have hcells : ∀ j u, (K.all hs2 xs2)[j]? = some u → w.cell? ((⟨g, 0, none⟩ : Addr).add j) = some u := by
    intro j u hu
    have hj : j < m * K.size := by have := (List.getElem?_eq_some_iff.1 hu).1; rwa [hl2] at this
    rw [add_none, Nat.zero_add, h2.row.cellAt j hj]
    exact hu
  by_cases hroom : n + m ≤ c
  · rcases hown.form with ⟨e0, _⟩ | ⟨g0, cur, rfl, _⟩
    · exact absurd e0 ha
    · refine wpList_append_fits w hgd s x T ho B K.E i K.size hT hi hz1 g0 n c (K.all hs xs) hsv hown.row ⟨g, 0, none⟩ m c2 (K.all hs2 xs2) hx hl2 hcells (K.all_one _ _) hroom ?_
      intro w' hr hg
      obtain ⟨a', c', e, hk⟩ := hown.cat_of h2 hr hg hap ⟨_, _, rfl⟩
      simp only [Value.slice.injEq] at e
      obtain ⟨rfl, _, rfl⟩ := e
      exact h _ _ w' hk hg (.inl rfl)
  · have hlx := K.all_length hs xs (hown.hl.trans hown.xl.symm)
    rw [hown.xl] at hlx
    refine wpList_append_grows w hgd s x T ho K.E i z K.size bytes hT hi hz0 hz1 hz2 hz K.pos a n c (K.all hs xs) hsv ?_ hlx ?_ ⟨g, 0, none⟩ m c2 (K.all hs2 xs2) hx hl2 hcells (K.all_one _ _) (by omega) (by unfold maxLen; omega)
      (by calc (n + m) * bytes ≤ 1000000000 * 1000 := Nat.mul_le_mul (by omega) hbp
            _ ≤ _ := by omega) ?_
    · intro e
      rcases hown.form with ⟨_, h1, h2⟩ | ⟨g0, cur, e2, _⟩
      · exact ⟨h1, h2⟩
      · rw [e] at e2; cases e2
    · intro b e j u hu
      rcases hown.form with ⟨e2, _⟩ | ⟨g0, cur, e2, _⟩
      · rw [e] at e2; cases e2
      · rw [e] at e2
        simp only [Option.some.injEq] at e2
        subst e2
        have hj : j < n * K.size := by have := (List.getElem?_eq_some_iff.1 hu).1; rwa [hlx] at this
        subst e
        rw [add_none, Nat.zero_add, hown.row.cellAt j hj]
        exact hu
    · intro v' w' hr hg0
      have hg : w.grownBy w' (Value.slice a n c).ownBlock := ⟨hg0.os, hg0.tape, hg0.output, hg0.size, fun k hk _ => hg0.block k hk (by simp)⟩
      have hr2 : w'.ownsRow B K.E K.size v' (n + m) (K.all hs xs ++ K.all hs2 xs2) := by
        refine ⟨hr.1, ?_⟩
        rcases hr.2 with h2 | ⟨g', cap, cur, he, hB', r⟩
        · exact .inl h2
        · exact .inr ⟨g', cap, cur, he, Nat.le_trans hB hB', r⟩
      obtain ⟨a', c', rfl, hk⟩ := hown.cat_of h2 hr2 hg hap (by
        rcases hr.2 with ⟨e5, h0⟩ | ⟨g', cap, cur, he, hB', _⟩
        · omega
        · exact ⟨_, _, he⟩)
      refine h a' c' w' hk hg (.inr fun b o e => ?_)
      rcases hr.2 with ⟨_, h0⟩ | ⟨g', cap, cur, he, hB', _⟩
      · omega
      · simp only [Value.slice.injEq] at he
        rw [e] at he
        simp only [Option.some.injEq, Addr.mk.injEq, and_true] at he
        obtain ⟨⟨rfl, _⟩, _⟩ := he
        exact hB'
end Go.Proofs.Ytenlhfimdpcaoaa

namespace Go.Proofs.Ytenlhfimdpcaoaa
open Go.RowKit

variable {α : Type}
/-- m elements that lie one behind the other from a place on, each with its numbers in memory of its own -/
structure PartK (K : Knd α) (w : World) (B g o m : Nat) (hs : List Hdr) (xs : List α) : Prop where
  hl : hs.length = m
  xl : xs.length = m
  cells : ∀ (j : Nat) u, (K.all hs xs)[j]? = some u → w.cell? ((⟨g, o, none⟩ : Addr).add j) = some u
  each : ∀ i, i < m → OwnI w B (hs.getD i (none, 0)).1 (K.ints (xs.getD i K.dft)).length (hs.getD i (none, 0)).2 (K.ints (xs.getD i K.dft))
  apart : ∀ i j, i < m → j < m → i ≠ j → Apart (hs.getD i (none, 0)).1 (hs.getD j (none, 0)).1
theorem OwnK.part {K : Knd α} {w : World} {B U g n c : Nat} {hs : List Hdr} {xs : List α} (h : OwnK K w B U (some ⟨g, 0, none⟩) n c hs xs) (i : Nat) (hi : i ≤ n) : PartK K w B g (i * K.size) (n - i) (hs.drop i) (xs.drop i) := by
  have hhl := h.hl
  have hxl := h.xl
  have hall := K.all_length hs xs (hhl.trans hxl.symm)
  have hsplit : K.all hs xs = K.all (hs.take i) (xs.take i) ++ K.all (hs.drop i) (xs.drop i) := by
    rw [← K.all_append _ _ _ _ (by simp; omega), List.take_append_drop, List.take_append_drop]
  have hlen : (K.all (hs.take i) (xs.take i)).length = i * K.size := by
    rw [K.all_length _ _ (by simp; omega), List.length_take, hxl, Nat.min_eq_left hi]
  refine ⟨by simp; omega, by simp; omega, fun j u hu => ?_, fun q hq => ?_, fun q r hq hr hqr => ?_⟩
  · have h1 : (K.all hs xs)[i * K.size + j]? = some u := by
      rw [hsplit, List.getElem?_append_right (by omega), hlen, Nat.add_sub_cancel_left]
      exact hu
    have h2 : i * K.size + j < n * K.size := by
      have := (List.getElem?_eq_some_iff.1 h1).1
      rwa [hall, hxl] at this
    rw [add_none, h.row.cellAt _ h2]
    exact h1
  · have := h.each (i + q) (by omega)
    simpa [List.getD_eq_getElem?_getD, List.getElem?_drop] using this
  · have := h.apart (i + q) (i + r) (by omega) (by omega) (by omega)
    simpa [List.getD_eq_getElem?_getD, List.getElem?_drop] using this
theorem OwnK.cat_part {K : Knd α} {w w' : World} {B U : Nat} {a : Option Addr} {n c g o m : Nat} {hs hs2 : List Hdr} {xs xs2 : List α} (hown : OwnK K w B U a n c hs xs) (h2 : PartK K w B g o m hs2 xs2) {v' : Value}
    (hr : w'.ownsRow B K.E K.size v' (n + m) (K.all hs xs ++ K.all hs2 xs2)) (hg : w.grownBy w' (Value.slice a n c).ownBlock)
    (hap : ∀ i j, i < n → j < m → Apart (hs.getD i (none, 0)).1 (hs2.getD j (none, 0)).1) (hsl : ∃ a' c', v' = .slice a' (n + m) c') :
    ∃ a' c', v' = .slice a' (n + m) c' ∧ OwnK K w' B w'.heap.size a' (n + m) c' (hs ++ hs2) (xs ++ xs2) := by
  rw [← K.all_append hs hs2 xs xs2 (hown.hl.trans hown.xl.symm)] at hr
  obtain ⟨a', c', rfl⟩ := hsl
  refine ⟨a', c', rfl, ?_⟩
  have hxl := hown.xl
  have hhl := hown.hl
  have hxl2 := h2.xl
  have hhl2 := h2.hl
  have hne : ∀ {p : Option Addr} {k q : Nat} {ys : List Int}, OwnI w B p k q ys → ∀ b o, p = some ⟨b, o, none⟩ → some b ≠ (Value.slice a n c).ownBlock := fun hk b o e => by
    rcases hown.form with ⟨rfl, _⟩ | ⟨g', cur, rfl, _⟩
    · simp [Value.ownBlock]
    · have := hown.off_ints hk g' 0 b o rfl e
      simp only [Value.ownBlock, ne_eq, Option.some.injEq]
      omega
  have hev : ∀ q, q < n + m → OwnI w' B ((hs ++ hs2).getD q (none, 0)).1 (K.ints ((xs ++ xs2).getD q K.dft)).length ((hs ++ hs2).getD q (none, 0)).2 (K.ints ((xs ++ xs2).getD q K.dft)) := fun q hq => by
    by_cases h3 : q < n
    · rw [getD_left _ _ _ _ (by omega), getD_left _ _ _ _ (by omega)]
      exact (hown.each q h3).grown hg fun b o e => hne (hown.each q h3) b o e
    · rw [getD_right _ _ _ _ (by omega), getD_right _ _ _ _ (by omega), hhl, hxl]
      exact (h2.each _ (by omega)).grown hg fun b o e => hne (h2.each _ (by omega)) b o e
  refine ⟨hr, by simp [hhl, hhl2], by simp [hxl, hxl2], hev, fun q r hq hr' hqr => ?_, fun q hq b o e => ((hev q hq).at_base b o e).2, fun b o e => ?_⟩
  · by_cases h3 : q < n
    · rw [getD_left hs _ q _ (by omega)]
      by_cases h4 : r < n
      · rw [getD_left hs _ r _ (by omega)]; exact hown.apart q r h3 h4 hqr
      · rw [getD_right hs _ r _ (by omega)]; exact hap q _ h3 (by omega)
    · rw [getD_right hs _ q _ (by omega)]
      by_cases h4 : r < n
      · rw [getD_left hs _ r _ (by omega)]; exact (hap r _ h4 (by omega)).symm
      · rw [getD_right hs _ r _ (by omega)]; exact h2.apart _ _ (by omega) (by omega) (by omega)
  · rcases hr.2 with ⟨h5, h0⟩ | ⟨g', cap, cur, he, _, hg', _⟩
    · simp only [Value.slice.injEq] at h5
      rw [h5.1] at e
      cases e
    · simp only [Value.slice.injEq] at he
      rw [e] at he
      simp only [Option.some.injEq, Addr.mk.injEq, and_true] at he
      obtain ⟨⟨rfl, _⟩, _⟩ := he
      exact (Array.getElem?_eq_some_iff.1 hg').1

/-- append of a part's elements to an owned slice, at a single operation -/
theorem wp_append_part {o : Oper} {av : Act} {Kk : Act → World → Prop} {Q : Exit → Act → World → Prop} {w : World} (K : Knd α) (T : TypeId) (z : Value) (bytes : Nat) (s x : Operand)
    (ho : o.op = .call { callee := .builtin .append, args := #[s, x], argTypes := #[T, T] }) (hT : Try.prog.underlying T = some (.slice K.E)) (hinfo : (Try.prog.info? K.E).map (fun i => (i.zero, i.size, i.bytes)) = some (some z, K.size, bytes))
    (hz : z.cells.size = K.size) (hbp : bytes ≤ 1000)
    (B U : Nat) (g0 n c : Nat) (hs hs2 : List Hdr) (xs xs2 : List α) (hsv : av.eval s = .slice (some ⟨g0, 0, none⟩) n c) (hown : OwnK K w B U (some ⟨g0, 0, none⟩) n c hs xs)
    (g o2 m c2 : Nat) (hx : av.eval x = .slice (some ⟨g, o2, none⟩) m c2) (h2 : PartK K w B g o2 m hs2 xs2)
    (hap : ∀ i j, i < n → j < m → Apart (hs.getD i (none, 0)).1 (hs2.getD j (none, 0)).1) (hsm : n + m ≤ 1000000000) (hB : B ≤ w.heap.size)
    (h : ∀ g' c' w', OwnK K w' B w'.heap.size (some ⟨g', 0, none⟩) (n + m) c' (hs ++ hs2) (xs ++ xs2) → w.grownBy w' (some g0) → (g' = g0 ∨ w.heap.size ≤ g') → Kk (av.put o.dst (.slice (some ⟨g', 0, none⟩) (n + m) c')) w') : o.wp Try.prog av w Kk Q := by
  obtain ⟨i, hi, hz0, hz1, hz2⟩ := info_parts hinfo
  have hl2 := K.all_length hs2 xs2 (h2.hl.trans h2.xl.symm)
  rw [h2.xl] at hl2
  have hcells := h2.cells
  obtain ⟨gb, cur, eb, _⟩ : ∃ gb cur, (some (⟨g0, 0, none⟩ : Addr)) = some ⟨gb, 0, none⟩ ∧ w.heap[gb]? = some (.cells cur K.E (0, 0)) := by
    rcases hown.form with ⟨e, _⟩ | ⟨gb, cur, e, _, _, h3, _⟩
    · cases e
    · exact ⟨gb, cur, e, h3⟩
  by_cases hroom : n + m ≤ c
  · obtain ⟨w', hrun, hr, hg⟩ := run_append_fits (P := Try.prog) w B T o.type K.E i K.size hT hi hz1 g0 n c (K.all hs xs) hown.row ⟨g, o2, none⟩ m c2 (K.all hs2 xs2) hl2 hcells (K.all_one _ _) hroom
    obtain ⟨a', c', e, hk⟩ := hown.cat_part h2 hr hg hap ⟨_, _, rfl⟩
    simp only [Value.slice.injEq] at e
    obtain ⟨rfl, _, rfl⟩ := e
    unfold Oper.wp
    simp only [execOp, ho, resolve, invoke, builtin, Sem.run_bind, Sem.run_pure, Result.andThen_ok, List.map_toArray, List.map_cons, List.map_nil, hsv, hx, hrun]
    exact h _ _ w' hk hg (.inl rfl)
  · have hlx := K.all_length hs xs (hown.hl.trans hown.xl.symm)
    rw [hown.xl] at hlx
    obtain ⟨v', w', hrun, hr, hg0⟩ := run_append_arg_grows (P := Try.prog) w T o.type K.E i z K.size bytes hT hi hz0 hz1 hz2 hz K.pos ⟨g0, 0, none⟩ n c (K.all hs xs) hlx (by
      intro j u hu
      have hj : j < n * K.size := by have := (List.getElem?_eq_some_iff.1 hu).1; rwa [hlx] at this
      rw [add_none, Nat.zero_add, hown.row.cellAt j hj]
      exact hu) ⟨g, o2, none⟩ m c2 (K.all hs2 xs2) hl2 hcells (by omega) (by unfold maxLen; omega)
      (by calc (n + m) * bytes ≤ 1000000000 * 1000 := Nat.mul_le_mul (by omega) hbp
            _ ≤ _ := by omega)
    have hg : w.grownBy w' (Value.slice (some ⟨g0, 0, none⟩) n c).ownBlock := ⟨hg0.os, hg0.tape, hg0.output, hg0.size, fun k hk _ => hg0.block k hk (by simp)⟩
    have hr2 : w'.ownsRow B K.E K.size v' (n + m) (K.all hs xs ++ K.all hs2 xs2) := by
      refine ⟨hr.1, ?_⟩
      rcases hr.2 with h2 | ⟨g', cap, cur, he, hB', r⟩
      · exact .inl h2
      · exact .inr ⟨g', cap, cur, he, Nat.le_trans hB hB', r⟩
    obtain ⟨g', cap, he, hB'⟩ : ∃ g' cap, v' = .slice (some ⟨g', 0, none⟩) (n + m) cap ∧ w.heap.size ≤ g' := by
      rcases hr.2 with ⟨e5, h0⟩ | ⟨g', cap, cur, he, hB', _⟩
      · omega
      · exact ⟨g', cap, he, hB'⟩
    subst he
    obtain ⟨a', c', e, hk⟩ := hown.cat_part h2 hr2 hg hap ⟨_, _, rfl⟩
    simp only [Value.slice.injEq, true_and] at e
    obtain ⟨rfl, rfl⟩ := e
    unfold Oper.wp
    simp only [execOp, ho, resolve, invoke, builtin, Sem.run_bind, Sem.run_pure, Result.andThen_ok, List.map_toArray, List.map_cons, List.map_nil, hsv, hx, hrun]
    exact h g' _ w' hk hg (.inr hB')
theorem wpList_append_part {ops : Array Oper} {rest : List Oper} {o : Oper} {av : Act} {Q : Exit → Act → World → Prop} {w : World} (K : Knd α) (T : TypeId) (z : Value) (bytes : Nat) (hgd : o.guard = none) (s x : Operand)
    (ho : o.op = .call { callee := .builtin .append, args := #[s, x], argTypes := #[T, T] }) (hT : Try.prog.underlying T = some (.slice K.E)) (hinfo : (Try.prog.info? K.E).map (fun i => (i.zero, i.size, i.bytes)) = some (some z, K.size, bytes))
    (hz : z.cells.size = K.size) (hbp : bytes ≤ 1000)
    (B U : Nat) (g0 n c : Nat) (hs hs2 : List Hdr) (xs xs2 : List α) (hsv : av.eval s = .slice (some ⟨g0, 0, none⟩) n c) (hown : OwnK K w B U (some ⟨g0, 0, none⟩) n c hs xs)
    (g o2 m c2 : Nat) (hx : av.eval x = .slice (some ⟨g, o2, none⟩) m c2) (h2 : PartK K w B g o2 m hs2 xs2)
    (hap : ∀ i j, i < n → j < m → Apart (hs.getD i (none, 0)).1 (hs2.getD j (none, 0)).1) (hsm : n + m ≤ 1000000000) (hB : B ≤ w.heap.size)
    (h : ∀ g' c' w', OwnK K w' B w'.heap.size (some ⟨g', 0, none⟩) (n + m) c' (hs ++ hs2) (xs ++ xs2) → w.grownBy w' (some g0) → (g' = g0 ∨ w.heap.size ≤ g') → wpList Try.prog ops Q rest (av.put o.dst (.slice (some ⟨g', 0, none⟩) (n + m) c')) w') : wpList Try.prog ops Q (o :: rest) av w :=
  wpList_plain hgd fun _ hK' => wp_append_part K T z bytes s x ho hT hinfo hz hbp B U g0 n c hs hs2 xs xs2 hsv hown g o2 m c2 hx h2 hap hsm hB fun g' c' w' r1 r2 r3 => hK' _ _ (h g' c' w' r1 r2 r3)
theorem OwnK.front {K : Knd α} {w : World} {B U g n c : Nat} {hs : List Hdr} {xs : List α} (h : OwnK K w B U (some ⟨g, 0, none⟩) n c hs xs) (i : Nat) (hi : i ≤ n) : PartK K w B g 0 i (hs.take i) (xs.take i) := by
  have := (h.take i hi).part 0 (Nat.zero_le _)
  simpa using this
theorem PartK.single {K : Knd α} {w : World} {B g : Nat} {h1 : Hdr} {x1 : α} (hc : ∀ j, j < K.size → w.cell? ⟨g, j, none⟩ = (K.cells h1.1 h1.2 x1)[j]?) (hi : OwnI w B h1.1 (K.ints x1).length h1.2 (K.ints x1)) : PartK K w B g 0 1 [h1] [x1] := by
  refine ⟨rfl, rfl, fun j u hu => ?_, fun i hi' => ?_, fun i j hi' hj' hne => by omega⟩
  · have e : K.all [h1] [x1] = K.cells h1.1 h1.2 x1 := by simp [Knd.all]
    rw [e] at hu
    have hj : j < K.size := by have := (List.getElem?_eq_some_iff.1 hu).1; rwa [K.len] at this
    rw [add_none, Nat.zero_add, hc j hj]
    exact hu
  · obtain rfl : i = 0 := by omega
    exact hi
/-- an owned slice stays where another block is written, if that one is none of its own -/
theorem OwnK.past {K : Knd α} {w w' : World} {B U b n c : Nat} {a : Option Addr} {hs : List Hdr} {xs : List α} (h : OwnK K w B U a n c hs xs) (hg : w.grownBy w' (some b)) (ha : ∀ g o, a = some ⟨g, o, none⟩ → g ≠ b) (hb : U ≤ b) : OwnK K w' B U a n c hs xs :=
  h.kept hg (fun g o e e2 => ha g o e (Option.some.inj e2)) fun i hi g o e e2 => by
    have := h.lt i hi g o e
    have := Option.some.inj e2
    omega
theorem PartK.moved {K : Knd α} {w : World} {B g o o' m : Nat} {hs : List Hdr} {xs : List α} (h : PartK K w B g o m hs xs) (hm : o' = o ∨ m = 0) : PartK K w B g o' m hs xs := by
  rcases hm with rfl | rfl
  · exact h
  · obtain rfl : hs = [] := List.length_eq_zero_iff.1 h.hl
    obtain rfl : xs = [] := List.length_eq_zero_iff.1 h.xl
    exact ⟨rfl, rfl, fun j u hu => by simp [Knd.all] at hu, fun i hi => by omega, fun i j hi => by omega⟩
end Go.Proofs.Ytenlhfimdpcaoaa

namespace Go.Proofs.Ytenlhfimdpcaoaa
open Go.RowKit

end Go.Proofs.Ytenlhfimdpcaoaa

namespace Go.Proofs.Ytenlhfimdpcaoaa
open Go.RowKit

set_option maxHeartbeats 1000000 in
theorem l1Same_any (a1 a2 : Option Addr) (n1 n2 c1 c2 : Nat) (xs ys : List Int) (w : World) (h1 : IntsAt w a1 n1 xs) (h2 : IntsAt w a2 n2 ys) (hm1 : n1 ≤ 9223372036854775807) (hm2 : n2 ≤ 9223372036854775807) :
    Calls Try.prog 115 #[.slice a1 n1 c1, .slice a2 n2 c2] w fun e w' => e = .returned (.bool (xs == ys)) ∧ ∃ m, w' = w.drewN m := by
  obtain ⟨l1, g1⟩ := h1
  obtain ⟨l2, g2⟩ := h2
  have G1 := hidP g1
  have G2 := hidP g2
  have L1 := hidP l1
  have L2 := hidP l2
  clear g1 g2 l1 l2
  by_cases hne : n1 = n2
  · subst hne
    go_enter Try.func115, Try.ntmps115
    go_wp2
    go_loopw [5] (fun i wr => ∃ k m : Nat, k ≤ n1 ∧ Hid (∀ j, j < k → xs.getD j 0 = ys.getD j 0) ∧ i = .int .i64 k ∧ wr = w.drewN m) (fun i _ => n1 - (intOf i).toNat)
    case atStart => exact ⟨0, 0, Nat.zero_le _, fun j h => by omega, rfl, rfl⟩
    case round =>
      obtain ⟨k, m, hk, HJ, rfl, rfl⟩ := hrel
      by_cases hlt : k < n1
      · obtain ⟨b1, o1, rfl, q1⟩ := G1.out k hlt
        obtain ⟨b2, o2, rfl, q2⟩ := G2.out k hlt
        by_cases hd : xs.getD k 0 = ys.getD k 0
        · have hb : (xs[k]?.getD 0 != ys[k]?.getD 0) = false := by simpa [List.getD_eq_getElem?_getD] using hd
          have HD := hidP hd
          clear hd
          go_wp2
          go_quiet (fail)
          go_wp2
          go_roundw
          case rel =>
            refine ⟨k + 1, m + nq, by omega, fun j hj => ?_, by go_num, by simp⟩
            rcases Nat.lt_succ_iff_lt_or_eq.1 hj with h3 | rfl
            · exact HJ.out j h3
            · exact HD.out
          case measure => simp [intOf]; omega
        · have hb : (xs[k]?.getD 0 != ys[k]?.getD 0) = true := by simpa [List.getD_eq_getElem?_getD] using hd
          have HB : Hid ((xs == ys) = false) := by
            show _ = _
            rw [beq_eq_false_iff_ne]
            exact fun e => hd (by rw [e])
          clear hd
          go_wp2
          go_quiet (fail)
          go_wp2
          go_ret
          exact ⟨ret_bool HB.out.symm, _, by simp only [World.drewN_drewN]; rfl⟩
      · have HB : Hid ((xs == ys) = true) := by
          show _ = _
          rw [beq_iff_eq]
          exact ints_ext (L1.out.trans L2.out.symm) fun j hj => HJ.out j (by have := L1.out; omega)
        go_wp2
        go_ret
        exact ⟨ret_bool HB.out.symm, _, rfl⟩
  · have HB : Hid ((xs == ys) = false) := by
      show _ = _
      rw [beq_eq_false_iff_ne]
      exact fun e => hne (by rw [← L1.out, ← L2.out, e])
    have hb : (((n1 : Nat) : Int) != (n2 : Nat)) = true := bne_iff_ne.2 (by omega)
    clear hne
    go_enter Try.func115, Try.ntmps115
    go_wp2
    go_ret
    exact ⟨ret_bool HB.out.symm, 0, rfl⟩

end Go.Proofs.Ytenlhfimdpcaoaa
