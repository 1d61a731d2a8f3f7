/-
  Owned slices of elements that hold one slice of integers each (rows, terms, matrices): what they hold, and how it is kept and changed.
-/
import Derived.Test.YtnfbfdamlnjblaaGreatDoorApp
namespace Go.Proofs.YtnfbfdamlnjblaaGreatDoor
open Go.RowKit

def Apart (a a' : Option Addr) : Prop := ∀ b o b' o', a = some ⟨b, o, none⟩ → a' = some ⟨b', o', none⟩ → b ≠ b'
theorem Apart.symm {a a' : Option Addr} (h : Apart a a') : Apart a' a := fun b o b' o' e e' => (h b' o' b o e' e).symm

/-- a kind of elements: the type's number, how many cells, the integers that its slice holds, its cells where the slice lies at an address with a capacity -/
structure Knd (α : Type) where
  E : TypeId
  size : Nat
  dft : α
  ints : α → List Int
  put : α → List Int → α
  cells : Option Addr → Nat → α → List Value
  len : ∀ a c x, (cells a c x).length = size
  pos : 0 < size
  ne : E ≠ 3
  put_ints : ∀ x ys, ints (put x ys) = ys
  put_cells : ∀ a c x ys, ys.length = (ints x).length → cells a c (put x ys) = cells a c x
  one : ∀ a c x, ∀ u ∈ cells a c x, u.oneCell' = true

abbrev Hdr := Option Addr × Nat

variable {α : Type}
def Knd.all (K : Knd α) : List Hdr → List α → List Value
  | h :: hs, x :: xs => K.cells h.1 h.2 x ++ K.all hs xs
  | _, _ => []
theorem Knd.all_length (K : Knd α) (hs : List Hdr) (xs : List α) (h : hs.length = xs.length) : (K.all hs xs).length = xs.length * K.size := by
  induction hs generalizing xs with
  | nil => cases xs <;> simp_all [Knd.all]
  | cons a hs ih =>
    cases xs with
    | nil => simp at h
    | cons x xs =>
      simp only [Knd.all, List.length_append, K.len, List.length_cons]
      rw [ih xs (by simpa using h), Nat.add_mul, Nat.one_mul, Nat.add_comm]
theorem Knd.all_get (K : Knd α) (hs : List Hdr) (xs : List α) (h : hs.length = xs.length) (i j : Nat) (hi : i < xs.length) (hj : j < K.size) :
    (K.all hs xs)[i * K.size + j]? = (K.cells (hs.getD i (none, 0)).1 (hs.getD i (none, 0)).2 (xs.getD i K.dft))[j]? := by
  induction hs generalizing xs i with
  | nil => cases xs <;> simp_all
  | cons a hs ih =>
    cases xs with
    | nil => simp at h
    | cons x xs =>
      cases i with
      | zero =>
        simp only [Knd.all, Nat.zero_mul, Nat.zero_add, List.getD_cons_zero]
        rw [List.getElem?_append_left (by rw [K.len]; exact hj)]
      | succ i =>
        simp only [Knd.all, List.getD_cons_succ]
        rw [List.getElem?_append_right (by rw [K.len, Nat.add_mul]; omega), K.len, Nat.add_mul, Nat.one_mul, show i * K.size + K.size + j - K.size = i * K.size + j by omega]
        exact ih xs (by simpa using h) i (by simpa using hi)
theorem Knd.all_set (K : Knd α) (hs : List Hdr) (xs : List α) (h : hs.length = xs.length) (i j : Nat) (hi : i < xs.length) (hj : j < K.size) (v : Value) (h' : Hdr) (x' : α)
    (he : K.cells h'.1 h'.2 x' = (K.cells (hs.getD i (none, 0)).1 (hs.getD i (none, 0)).2 (xs.getD i K.dft)).set j v) :
    (K.all hs xs).set (i * K.size + j) v = K.all (hs.set i h') (xs.set i x') := by
  induction hs generalizing xs i with
  | nil => cases xs <;> simp_all
  | cons a hs ih =>
    cases xs with
    | nil => simp at h
    | cons x xs =>
      cases i with
      | zero =>
        simp only [List.getD_cons_zero] at he
        simp only [Knd.all, Nat.zero_mul, Nat.zero_add, List.set_cons_zero]
        rw [List.set_append_left _ _ (by rw [K.len]; exact hj), he]
      | succ i =>
        simp only [List.getD_cons_succ] at he
        simp only [Knd.all, List.set_cons_succ]
        rw [List.set_append_right _ _ (by rw [K.len, Nat.add_mul]; omega), K.len, Nat.add_mul, Nat.one_mul, show i * K.size + K.size + j - K.size = i * K.size + j by omega]
        rw [ih xs (by simpa using h) i (by simpa using hi) he]
theorem Knd.all_snoc (K : Knd α) (hs : List Hdr) (xs : List α) (h : hs.length = xs.length) (a : Hdr) (x : α) : K.all (hs ++ [a]) (xs ++ [x]) = K.all hs xs ++ K.cells a.1 a.2 x := by
  induction hs generalizing xs with
  | nil => cases xs <;> simp_all [Knd.all]
  | cons a hs ih =>
    cases xs with
    | nil => simp at h
    | cons x xs => simp only [Knd.all, List.cons_append, List.append_assoc]; rw [ih xs (by simpa using h)]
theorem Knd.all_take (K : Knd α) (hs : List Hdr) (xs : List α) (h : hs.length = xs.length) (m : Nat) : K.all (hs.take m) (xs.take m) = (K.all hs xs).take (m * K.size) := by
  induction hs generalizing xs m with
  | nil => cases xs <;> simp_all [Knd.all]
  | cons a hs ih =>
    cases xs with
    | nil => simp at h
    | cons x xs =>
      cases m with
      | zero => simp [Knd.all]
      | succ m =>
        simp only [Knd.all, List.take_succ_cons]
        have hm : m * K.size + K.size - K.size = m * K.size := by omega
        rw [ih xs (by simpa using h), List.take_append, K.len, Nat.add_mul, Nat.one_mul, hm, List.take_of_length_le (l := K.cells _ _ _) (by rw [K.len]; omega)]
theorem Knd.all_one (K : Knd α) (hs : List Hdr) (xs : List α) : ∀ u ∈ K.all hs xs, u.oneCell' = true := by
  induction hs generalizing xs with
  | nil => cases xs <;> simp [Knd.all]
  | cons a hs ih =>
    cases xs with
    | nil => simp [Knd.all]
    | cons x xs =>
      intro u hu
      simp only [Knd.all, List.mem_append] at hu
      rcases hu with hu | hu
      · exact K.one _ _ _ u hu
      · exact ih xs u hu

/-- an owned slice of elements whose slices of integers are owned, too, all in blocks of their own from B on and below U -/
structure OwnK (K : Knd α) (w : World) (B U : Nat) (a : Option Addr) (n c : Nat) (hs : List Hdr) (xs : List α) : Prop where
  row : w.ownsRow B K.E K.size (.slice a n c) n (K.all hs xs)
  hl : hs.length = n
  xl : xs.length = n
  each : ∀ i, i < n → OwnI w B (hs.getD i (none, 0)).1 (K.ints (xs.getD i K.dft)).length (hs.getD i (none, 0)).2 (K.ints (xs.getD i K.dft))
  apart : ∀ i j, i < n → j < n → i ≠ j → Apart (hs.getD i (none, 0)).1 (hs.getD j (none, 0)).1
  lt : ∀ i, i < n → ∀ b o, (hs.getD i (none, 0)).1 = some ⟨b, o, none⟩ → b < U
  olt : ∀ b o, a = some ⟨b, o, none⟩ → b < U

theorem OwnI.block {w : World} {B : Nat} {a : Option Addr} {n c : Nat} {xs : List Int} (h : OwnI w B a n c xs) {b o : Nat} (e : a = some ⟨b, o, none⟩) : ∃ cur, w.heap[b]? = some (.cells cur 3 (0, 0)) := by
  rcases h.row.2 with ⟨he, _⟩ | ⟨g, cap, cur, he, _, hg, _⟩
  · simp [e] at he
  · simp only [Value.slice.injEq] at he
    rw [e] at he
    simp only [Option.some.injEq, Addr.mk.injEq, and_true] at he
    obtain ⟨⟨rfl, _⟩, _⟩ := he
    exact ⟨_, hg⟩

namespace OwnK
variable {K : Knd α} {w w' : World} {B U : Nat} {a : Option Addr} {n c : Nat} {hs : List Hdr} {xs : List α}

theorem form (h : OwnK K w B U a n c hs xs) : (a = none ∧ n = 0 ∧ c = 0) ∨ ∃ g cur, a = some ⟨g, 0, none⟩ ∧ B ≤ g ∧ g < w.heap.size ∧ w.heap[g]? = some (.cells cur K.E (0, 0)) ∧ n ≤ c ∧ c ≤ maxLen := by
  rcases h.row.2 with ⟨he, h0⟩ | ⟨g, cap, cur, he, hB, hg, hnc, hcm, _⟩
  · simp only [Value.slice.injEq] at he
    exact .inl ⟨he.1, h0, he.2.2⟩
  · simp only [Value.slice.injEq, true_and] at he
    obtain ⟨rfl, rfl⟩ := he
    exact .inr ⟨g, cur, rfl, hB, (Array.getElem?_eq_some_iff.1 hg).1, hg, hnc, hcm⟩
theorem base_lt (h : OwnK K w B U a n c hs xs) : ∀ b o, a = some ⟨b, o, none⟩ → B ≤ b ∧ b < w.heap.size := by
  intro b o e
  rcases h.form with ⟨rfl, _⟩ | ⟨g, cur, rfl, hB, hl, _⟩
  · cases e
  · simp only [Option.some.injEq, Addr.mk.injEq, and_true] at e
    obtain ⟨rfl, _⟩ := e
    exact ⟨hB, hl⟩
theorem far (h : OwnK K w B U a n c hs xs) (i : Nat) (hi : i < n) : Apart a (hs.getD i (none, 0)).1 := by
  intro b o b' o' e e' hb
  subst hb
  obtain ⟨cur', hg'⟩ := (h.each i hi).block e'
  rcases h.form with ⟨rfl, _⟩ | ⟨g, cur, rfl, _, _, hg, _⟩
  · cases e
  · simp only [Option.some.injEq, Addr.mk.injEq, and_true] at e
    obtain ⟨rfl, _⟩ := e
    rw [hg] at hg'
    simp only [Option.some.injEq, Obj.cells.injEq] at hg'
    exact K.ne hg'.2.1
theorem cell (h : OwnK K w B U a n c hs xs) (i j : Nat) (hi : i < n) (hj : j < K.size) : ∃ g, a = some ⟨g, 0, none⟩ ∧
    w.cell? ⟨g, i * K.size + j, none⟩ = (K.cells (hs.getD i (none, 0)).1 (hs.getD i (none, 0)).2 (xs.getD i K.dft))[j]? ∧ w.frozen? ⟨g, i * K.size + j, none⟩ = false := by
  rcases h.form with ⟨_, h0, _⟩ | ⟨g, cur, rfl, _, _, _, _⟩
  · omega
  · have hll : i * K.size + j < n * K.size := by
      have : (i + 1) * K.size ≤ n * K.size := Nat.mul_le_mul_right _ hi
      rw [Nat.add_mul] at this
      omega
    refine ⟨g, rfl, ?_, h.row.frozenAt _⟩
    rw [h.row.cellAt _ hll, K.all_get hs xs (h.hl.trans h.xl.symm) i j (by rw [h.xl]; exact hi) hj]
theorem kept (h : OwnK K w B U a n c hs xs) {row : Option Nat} (hg : w.grownBy w' row) (ho : ∀ b o, a = some ⟨b, o, none⟩ → some b ≠ row) (hi : ∀ i, i < n → ∀ b o, (hs.getD i (none, 0)).1 = some ⟨b, o, none⟩ → some b ≠ row) : OwnK K w' B U a n c hs xs := by
  refine ⟨h.row.kept hg ?_, h.hl, h.xl, fun i hin => (h.each i hin).grown hg fun g o e => hi i hin g o e, h.apart, h.lt, h.olt⟩
  rcases h.form with ⟨rfl, _⟩ | ⟨g, cur, rfl, _⟩
  · exact .inl rfl
  · exact .inr (ho g 0 rfl)
theorem below (h : OwnK K w B U a n c hs xs) (hb : Ext w w') : OwnK K w' B U a n c hs xs :=
  h.kept (row := none) ⟨hb.os, hb.tape, hb.output, hb.size, fun k hk _ => hb.block k hk⟩ (by simp) (by simp)
theorem weaken (h : OwnK K w B U a n c hs xs) {B' U' : Nat} (hB : B' ≤ B) (hU : U ≤ U') : OwnK K w B' U' a n c hs xs := by
  refine ⟨⟨h.row.1, ?_⟩, h.hl, h.xl, fun i hi => (h.each i hi).base hB, h.apart, fun i hi b o e => Nat.lt_of_lt_of_le (h.lt i hi b o e) hU, fun b o e => Nat.lt_of_lt_of_le (h.olt b o e) hU⟩
  rcases h.row.2 with h2 | ⟨g, cap, cur, he, hB', r⟩
  · exact .inl h2
  · exact .inr ⟨g, cap, cur, he, Nat.le_trans hB hB', r⟩
/-- another slice's change -/
theorem others (h : OwnK K w B U a n c hs xs) {a' : Option Addr} {n' : Nat} {ys : List Int} (hu : UpdI w w' a' n' ys) (ho : Apart a' a) (hi : ∀ i, i < n → Apart a' (hs.getD i (none, 0)).1) : OwnK K w' B U a n c hs xs := by
  refine h.kept hu.grownBy (fun b o e => ?_) (fun i hin b o e => ?_)
  · cases hb : addrBlock a' with
    | none => simp
    | some b' =>
      obtain ⟨o', e'⟩ := addrBlock_some hb
      have := ho b' o' b o e' e
      simp only [ne_eq, Option.some.injEq]
      omega
  · cases hb : addrBlock a' with
    | none => simp
    | some b' =>
      obtain ⟨o', e'⟩ := addrBlock_some hb
      have := hi i hin b' o' b o e' e
      simp only [ne_eq, Option.some.injEq]
      omega
theorem getD_set {β : Type} (l : List β) (i j : Nat) (x d : β) (hi : i < l.length) : (l.set i x).getD j d = if i = j then x else l.getD j d := by
  simp only [List.getD_eq_getElem?_getD, List.getElem?_set]
  by_cases h : i = j
  · subst h; simp [hi]
  · simp [h]
/-- one element's integers are changed -/
theorem upd (h : OwnK K w B U a n c hs xs) (i : Nat) (hi : i < n) {ys : List Int} (hu : UpdI w w' (hs.getD i (none, 0)).1 (K.ints (xs.getD i K.dft)).length ys) : OwnK K w' B U a n c hs (xs.set i (K.put (xs.getD i K.dft) ys)) := by
  have hlen := hu.len
  have hcl : K.all hs (xs.set i (K.put (xs.getD i K.dft) ys)) = K.all hs xs := by
    have hx := h.xl
    apply List.ext_getElem?
    intro q
    by_cases hq : q < n * K.size
    · obtain ⟨i', j, rfl, hi', hj⟩ : ∃ i' j, q = i' * K.size + j ∧ i' < n ∧ j < K.size :=
        ⟨q / K.size, q % K.size, by rw [Nat.mul_comm]; exact (Nat.div_add_mod q K.size).symm, by rw [Nat.div_lt_iff_lt_mul K.pos]; exact hq, Nat.mod_lt _ K.pos⟩
      rw [K.all_get hs _ (by rw [h.hl, List.length_set, h.xl]) i' j (by rw [List.length_set, h.xl]; exact hi') hj, K.all_get hs xs (by rw [h.hl, h.xl]) i' j (by rw [h.xl]; exact hi') hj]
      rw [getD_set _ _ _ _ _ (by rw [h.xl]; exact hi)]
      by_cases e : i = i'
      · subst e
        rw [if_pos rfl, K.put_cells _ _ _ _ hlen]
      · rw [if_neg e]
    · rw [List.getElem?_eq_none (by rw [K.all_length _ _ (by rw [h.hl, List.length_set, h.xl]), List.length_set, h.xl]; omega), List.getElem?_eq_none (by rw [K.all_length _ _ (by rw [h.hl, h.xl]), h.xl]; omega)]
  have hk := hu.grownBy
  refine ⟨?_, h.hl, by rw [List.length_set, h.xl], fun j hj => ?_, h.apart, h.lt, h.olt⟩
  · rw [hcl]
    refine h.row.kept hk ?_
    rcases h.form with ⟨rfl, _⟩ | ⟨g, cur, rfl, _⟩
    · exact .inl rfl
    · right
      cases hb : addrBlock (hs.getD i (none, 0)).1 with
      | none => simp [Value.ownBlock]
      | some b' =>
        obtain ⟨o', e'⟩ := addrBlock_some hb
        have := h.far i hi g 0 b' o' rfl e'
        simp only [Value.ownBlock, ne_eq, Option.some.injEq]
        omega
  · rw [getD_set _ _ _ _ _ (by rw [h.xl]; exact hi)]
    by_cases e : i = j
    · subst e
      rw [if_pos rfl, K.put_ints, hlen]
      exact hu.own (h.each i hi)
    · rw [if_neg e]
      exact (h.each j hj).others hu (h.apart i j hi hj e)
/-- the outer slice's cells are changed, so that its elements come from elsewhere in it -/
theorem shuffled (h : OwnK K w B U a n c hs xs) {hs' : List Hdr} {xs' : List α} {g : Nat} (e : a = some ⟨g, 0, none⟩) (hr : w'.ownsRow B K.E K.size (.slice a n c) n (K.all hs' xs')) (hg : w.grownBy w' (some g))
    (hl' : hs'.length = n) (xl' : xs'.length = n) (σ : Nat → Nat) (hσ : ∀ i, i < n → σ i < n) (hinj : ∀ i j, i < n → j < n → σ i = σ j → i = j)
    (hh : ∀ i, i < n → hs'.getD i (none, 0) = hs.getD (σ i) (none, 0)) (hx : ∀ i, i < n → K.ints (xs'.getD i K.dft) = K.ints (xs.getD (σ i) K.dft)) : OwnK K w' B U a n c hs' xs' := by
  refine ⟨hr, hl', xl', fun i hi => ?_, fun i j hi hj hne => ?_, fun i hi b o e => ?_, h.olt⟩
  · rw [hh i hi, hx i hi]
    exact (h.each _ (hσ i hi)).grown hg fun b o e' => by
      have := h.far _ (hσ i hi) g 0 b o e e'
      simp only [ne_eq, Option.some.injEq]
      omega
  · rw [hh i hi, hh j hj]
    exact h.apart _ _ (hσ i hi) (hσ j hj) fun e => hne (hinj i j hi hj e)
  · rw [hh i hi] at e
    exact h.lt _ (hσ i hi) b o e
/-- one plain cell of an element is changed -/
theorem stored (h : OwnK K w B U a n c hs xs) (i j : Nat) (hi : i < n) (hj : j < K.size) (v : Value) (x' : α) (hx : K.ints x' = K.ints (xs.getD i K.dft))
    (he : K.cells (hs.getD i (none, 0)).1 (hs.getD i (none, 0)).2 x' = (K.cells (hs.getD i (none, 0)).1 (hs.getD i (none, 0)).2 (xs.getD i K.dft)).set j v) {g : Nat} (e : a = some ⟨g, 0, none⟩) :
    OwnK K (w.setCell ⟨g, i * K.size + j, none⟩ v) B U a n c hs (xs.set i x') := by
  have hlx := h.hl.trans h.xl.symm
  have hxl := h.xl
  have hhl := h.hl
  subst e
  obtain ⟨hr, hg⟩ := h.row.stored (i * K.size + j) v
  rw [K.all_set hs xs hlx i j (by omega) hj v (hs.getD i (none, 0)) x' he] at hr
  have hs' : hs.set i (hs.getD i (none, 0)) = hs := by
    apply List.ext_getElem?
    intro q
    rw [List.getElem?_set]
    split
    · rename_i e; subst e
      simp [List.getD_eq_getElem?_getD, show i < hs.length by omega]
    · rfl
  rw [hs'] at hr
  refine h.shuffled rfl hr hg h.hl (by rw [List.length_set, h.xl]) id (fun _ h => h) (fun _ _ _ _ h => h) (fun _ _ => rfl) fun q hq => ?_
  rw [getD_set _ _ _ _ _ (by omega)]
  split
  · rename_i e; subst e; exact hx
  · rfl
theorem nil (K : Knd α) (w : World) (B U : Nat) : OwnK K w B U none 0 0 [] [] :=
  ⟨World.ownsRow_nil w B _ _, rfl, rfl, fun i h => by omega, fun i j h => by omega, fun i h => by omega, fun b o e => by cases e⟩
/-- the first elements -/
theorem take (h : OwnK K w B U a n c hs xs) (m : Nat) (hm : m ≤ n) : OwnK K w B U a m c (hs.take m) (xs.take m) := by
  have hlx := h.hl.trans h.xl.symm
  have gd : ∀ {β : Type} (l : List β) (i : Nat) (d : β), i < m → (l.take m).getD i d = l.getD i d := fun l i d hi => by simp [List.getD_eq_getElem?_getD, hi]
  refine ⟨⟨?_, ?_⟩, by simp [h.hl, hm], by simp [h.xl, hm], fun i hi => ?_, fun i j hi hj => ?_, fun i hi => ?_, h.olt⟩
  · rw [K.all_length _ _ (by simp [hlx])]; simp [h.xl, hm]
  · rcases h.row.2 with ⟨he, h0⟩ | ⟨g, cap, cur, he, hB, hg, hnc, hcm, hcs, ht⟩
    · simp only [Value.slice.injEq] at he
      obtain ⟨rfl, _, rfl⟩ := he
      have : m = 0 := by omega
      subst this
      exact .inl ⟨rfl, rfl⟩
    · simp only [Value.slice.injEq, true_and] at he
      obtain ⟨rfl, rfl⟩ := he
      refine .inr ⟨g, c, cur, rfl, hB, hg, by omega, hcm, hcs, ?_⟩
      rw [K.all_take hs xs hlx, ← ht, List.take_take, Nat.min_eq_left (Nat.mul_le_mul_right _ hm)]
  · rw [gd _ _ _ hi, gd _ _ _ hi]; exact h.each i (by omega)
  · rw [gd _ _ _ hi, gd _ _ _ hj]; exact h.apart i j (by omega) (by omega)
  · rw [gd _ _ _ hi]; exact h.lt i (by omega)
end OwnK

/-- append of one element, whose cells lie in a new block, to an owned slice of such -/
theorem wpList_append_elem {ops : Array Oper} {rest : List Oper} {o : Oper} {av : Act} {Q : Exit → Act → World → Prop} {w : World} (K : Knd α) (T : TypeId) (z : Value) (bytes : Nat) (hgd : o.guard = none) (s x : Operand)
    (ho : o.op = .call { callee := .builtin .append, args := #[s, x], argTypes := #[T, T] }) (hT : Tryz.prog.underlying T = some (.slice K.E)) (hinfo : (Tryz.prog.info? K.E).map (fun i => (i.zero, i.size, i.bytes)) = some (some z, K.size, bytes))
    (hz : z.cells.size = K.size) (hbp : bytes ≤ 1000)
    (B U : Nat) (a : Option Addr) (n c : Nat) (hs : List Hdr) (xs : List α) (hsv : av.eval s = .slice a n c) (hown : OwnK K w B U a n c hs xs)
    (g m : Nat) (h1 : Hdr) (x1 : α) (hx : av.eval x = .slice (some ⟨g, 0, none⟩) 1 m) (hcl : ∀ j, j < K.size → w.cell? ⟨g, j, none⟩ = (K.cells h1.1 h1.2 x1)[j]?)
    (hi1 : OwnI w B h1.1 (K.ints x1).length h1.2 (K.ints x1)) (hap : ∀ i, i < n → Apart (hs.getD i (none, 0)).1 h1.1) (hfar : Apart a h1.1) (hsm : n ≤ 1000000000) (hB : B ≤ w.heap.size)
    (h : ∀ a' c' w', OwnK K w' B w'.heap.size a' (n + 1) c' (hs ++ [h1]) (xs ++ [x1]) → w.grownBy w' (Value.slice a n c).ownBlock → wpList Tryz.prog ops Q rest (av.put o.dst (.slice a' (n + 1) c')) w') : wpList Tryz.prog ops Q (o :: rest) av w := by
  obtain ⟨i, hi, hz0, hz1, hz2⟩ := info_parts hinfo
  refine wpList_append_own w hgd s x T ho B K.E i z K.size bytes hT hi hz0 hz1 hz2 hz K.pos _ n (K.all hs xs) hsv hown.row ⟨g, 0, none⟩ 1 m (K.cells h1.1 h1.2 x1) hx (by rw [K.len, Nat.one_mul]) ?_ (K.one _ _ _) (by unfold maxLen; omega)
    (by calc (n + 1) * bytes ≤ 1000000001 * 1000 := Nat.mul_le_mul (by omega) hbp
          _ ≤ _ := by omega) hB ?_
  · intro j u hu
    have hj : j < K.size := by have := (List.getElem?_eq_some_iff.1 hu).1; rwa [K.len] at this
    rw [add_none, Nat.zero_add, hcl j hj]
    exact hu
  · intro v' w' hr hg hnil
    rw [← K.all_snoc hs xs (hown.hl.trans hown.xl.symm)] at hr
    obtain ⟨a', c', rfl⟩ : ∃ a' c', v' = .slice a' (n + 1) c' := by
      rcases hr.2 with ⟨_, h0⟩ | ⟨g', cap, cur, he, _⟩
      · omega
      · exact ⟨_, _, he⟩
    refine h a' c' w' ?_ hg
    have hxl := hown.xl
    have hhl := hown.hl
    have gd : ∀ {β : Type} (l : List β) (i : Nat) (x d : β), i < l.length → (l ++ [x]).getD i d = l.getD i d := fun l i x d hi => by simp [List.getD_eq_getElem?_getD, List.getElem?_append_left hi]
    have gl : ∀ {β : Type} (l : List β) (x d : β), (l ++ [x]).getD l.length d = x := fun l x d => by simp [List.getD_eq_getElem?_getD]
    have hne : ∀ q, q < n → ∀ b o, (hs.getD q (none, 0)).1 = some ⟨b, o, none⟩ → some b ≠ (Value.slice a n c).ownBlock := fun q hq b o e => by
      rcases hown.form with ⟨rfl, _⟩ | ⟨g', cur, rfl, _⟩
      · simp [Value.ownBlock]
      · have := hown.far q hq g' 0 b o rfl e
        simp only [Value.ownBlock, ne_eq, Option.some.injEq]
        omega
    have hne1 : ∀ b o, h1.1 = some ⟨b, o, none⟩ → some b ≠ (Value.slice a n c).ownBlock := fun b o e => by
      rcases hown.form with ⟨rfl, _⟩ | ⟨g', cur, rfl, _⟩
      · simp [Value.ownBlock]
      · have := hfar g' 0 b o rfl e
        simp only [Value.ownBlock, ne_eq, Option.some.injEq]
        omega
    have hev : ∀ q, q < n + 1 → OwnI w' B ((hs ++ [h1]).getD q (none, 0)).1 (K.ints ((xs ++ [x1]).getD q K.dft)).length ((hs ++ [h1]).getD q (none, 0)).2 (K.ints ((xs ++ [x1]).getD q K.dft)) := fun q hq => by
      rcases Nat.lt_succ_iff_lt_or_eq.1 hq with h3 | rfl
      · rw [gd _ _ _ _ (by omega), gd _ _ _ _ (by omega)]
        exact (hown.each q h3).grown hg fun b o e => hne q h3 b o e
      · have e1 : (hs ++ [h1]).getD q (none, 0) = h1 := by rw [← hhl]; exact gl _ _ _
        have e2 : (xs ++ [x1]).getD q K.dft = x1 := by rw [← hxl]; exact gl _ _ _
        rw [e1, e2]
        exact hi1.grown hg fun b o e => hne1 b o e
    refine ⟨hr, by simp [hhl], by simp [hxl], hev, fun q r hq hr' hqr => ?_, fun q hq b o e => ((hev q hq).at_base b o e).2, fun b o e => ?_⟩
    · rcases Nat.lt_succ_iff_lt_or_eq.1 hq with h3 | rfl
      · rw [gd hs q _ _ (by omega)]
        rcases Nat.lt_succ_iff_lt_or_eq.1 hr' with h4 | rfl
        · rw [gd hs r _ _ (by omega)]; exact hown.apart q r h3 h4 hqr
        · have e1 : (hs ++ [h1]).getD r (none, 0) = h1 := by rw [← hhl]; exact gl _ _ _
          rw [e1]; exact hap q h3
      · have e1 : (hs ++ [h1]).getD q (none, 0) = h1 := by rw [← hhl]; exact gl _ _ _
        rw [e1, gd hs r _ _ (by omega)]
        exact (hap r (by omega)).symm
    · rcases hr.2 with ⟨_, h0⟩ | ⟨g', cap, cur, he, _, hg', _⟩
      · omega
      · simp only [Value.slice.injEq] at he
        rw [e] at he
        simp only [Option.some.injEq, Addr.mk.injEq, and_true] at he
        obtain ⟨⟨rfl, _⟩, _⟩ := he
        exact (Array.getElem?_eq_some_iff.1 hg').1

/-- rows of integers -/
def rowK : Knd (List Int) where
  E := 22
  size := 1
  dft := []
  ints := id
  put := fun _ ys => ys
  cells := fun a c x => [.slice a x.length c]
  len := fun _ _ _ => rfl
  pos := by decide
  ne := by decide
  put_ints := fun _ _ => rfl
  put_cells := fun a c x ys h => by simp only [id] at h; rw [h]
  one := fun a c x u hu => by simp only [List.mem_singleton] at hu; subst hu; rfl
end Go.Proofs.YtnfbfdamlnjblaaGreatDoor
