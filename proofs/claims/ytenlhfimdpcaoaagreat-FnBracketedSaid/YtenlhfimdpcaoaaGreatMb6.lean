/-
  A region that draws its order: two operations one behind the other, and a third one that may come up at any time; appends of several strings.
  The reference's positive roots.
  The reference's places and order of lattice elements.
  Owned slices of rows of integers whose rows are owned each, but may be shared.
  A part of an owned slice of structs, appended to another owned slice; two chains of operations of a region that draws its order.
  The reference's numbers of a lattice element: weights, heights, orders.
  A region that draws its order: an operation behind which the class is narrower by what the operation gave.
  Roots, lengths and dimensions, plain.
  Paths, plain: simple reflections, heights and their bounds, what lowering and raising give. No program in sight.
  What functions on paths give: a path in memory of its own, or none.
  Paths read by the program: isWeight, PathOk.
  Paths put together by the reference: l9Add, l9Join.
  Paths read by the reference: l1Same, l5Lattice, l9Time, l9Ok, PathOk.
  Owned slices of steps; append of one owned slice to another one.
  Paths, plain: a reflection between two times; lowering, and raising as lowering gone back. No program in sight.
  Paths, plain: steps put together, heights, a reflection between two times, lowering and raising. No program in sight.
  A quotient is no greater than what is divided; one integer read, one stored.
  The program's search for an order of rows.
  The library's functions on slices of integers, for slices that read as lists: Contains, Index, Min, Equal.
  Cartan matrices of one part, by the program: the names, an entry, the closures that write, the matrix.
-/
import Derived.Test.YtenlhfimdpcaoaaGreatMb5
import Derived.Deep.RegionHeld3
import Derived.Deep.QuietTactic
import Derived.BigQuiet
namespace Go.Proofs.YtenlhfimdpcaoaaGreat
open Go.RowKit

def nameS : List ByteArray := pNames.map str
theorem UpdI.far {w w' : World} {g o n : Nat} {ys : List Int} (h : UpdI w w' (some ⟨g, o, none⟩) n ys) {b i : Nat} {v : Value} (hc : w.cell? ⟨b, i, none⟩ = some v) (hne : b ≠ g) : w'.cell? ⟨b, i, none⟩ = some v :=
  (World.cell?_of_block (a := ⟨b, i, none⟩) (h.other b (World.block_lt_of_cell? w _ hc) fun b' o' e _ => by cases e; exact hne)).trans hc
theorem UpdI.farF {w w' : World} {g o n : Nat} {ys : List Int} (h : UpdI w w' (some ⟨g, o, none⟩) n ys) {b i : Nat} (hb : b < w.heap.size) (hne : b ≠ g) : w'.frozen? ⟨b, i, none⟩ = w.frozen? ⟨b, i, none⟩ := by
  have := h.other b hb fun b' o' e _ => by cases e; exact hne
  simp only [World.frozen?, this]
theorem OwnI.setFar {w : World} {B g n c : Nat} {xs : List Int} (h : OwnI w B (some ⟨g, 0, none⟩) n c xs) (b i : Nat) (v : Value) (hne : g ≠ b) : OwnI (w.setCell ⟨b, i, none⟩ v) B (some ⟨g, 0, none⟩) n c xs :=
  h.grown (row := some b) ⟨rfl, rfl, rfl, by simp [World.setCell], fun k _ hk => Below.heap_setCell _ _ _ _ (fun e => hk (by rw [e]))⟩ (fun g' o e => by cases e; simpa using hne)
/-- places in a matrix of rank at most 4 -/
theorem idx4 {r i j : Int} (hr : r ≤ 4) (hi0 : 0 ≤ i) (hi : i < r) (_hj0 : 0 ≤ j) (hj : j < r) : 0 ≤ i * r ∧ i * r ≤ 12 ∧ i * r + j < r * r ∧ r * r ≤ 16 := by
  have h1 : (i + 1) * r ≤ r * r := Int.mul_le_mul_of_nonneg_right (by omega) (by omega)
  have h2 : 0 ≤ i * r := Int.mul_nonneg hi0 (by omega)
  have h3 : r * r ≤ 4 * 4 := Int.mul_le_mul hr hr (by omega) (by omega)
  have h4 : i * r ≤ 3 * 4 := Int.mul_le_mul (by omega) hr (by omega) (by omega)
  rw [Int.add_mul, Int.one_mul] at h1
  omega

theorem l5At_any (r : Int) (a : Option Addr) (n c : Nat) (xs : List Int) (i j : Nat) (w : World) (h : IntsAt w a n xs) (hn : (n : Int) = r * r) (hr : r ≤ 4) (hi : (i : Int) < r) (hj : (j : Int) < r) :
    Calls Tryz.prog 194 #[carV r a n c, .int .i64 i, .int .i64 j] w fun e w' => e = .returned (.int .i64 (atM xs r.toNat i j)) ∧ Ext w w' := by
  obtain ⟨R, rfl⟩ : ∃ R : Nat, r = R := ⟨r.toNat, by omega⟩
  obtain ⟨h0, h1, h2, h3⟩ := idx4 hr (Int.natCast_nonneg i) hi (Int.natCast_nonneg j) hj
  rw [← hn] at h2 h3
  have hx : i * R + j < n := by
    have : ((i * R + j : Nat) : Int) < n := by rw [Int.natCast_add, Int.natCast_mul]; exact h2
    omega
  obtain ⟨b, o, rfl, hc⟩ := (h.below (Ext.alloc w (.cells #[.int .i64 R, .slice a n c] 117))).get _ hx
  have HA : Hid (xs.getD (i * R + j) 0 = atM xs (R : Int).toNat i j) := rfl
  rw [HA.out] at hc
  have hp : 0 ≤ (i : Int) * R + j := by omega
  have hCA := CarAt.new w _ rfl R (some ⟨b, o, none⟩) n c 117
  obtain ⟨f0, f1⟩ := hCA
  clear h hn
  go_enter Tryz.func194, Tryz.ntmps194
  go_wp2
  go_ret
  exact ⟨rfl, Ext.alloc _ _⟩

end Go.Proofs.YtenlhfimdpcaoaaGreat

namespace Go.Proofs.YtenlhfimdpcaoaaGreat
open Go.RowKit

end Go.Proofs.YtenlhfimdpcaoaaGreat

namespace Go.Proofs.YtenlhfimdpcaoaaGreat
open Go.RowKit

def natI (l : List Nat) : List Int := l.map fun x : Nat => (x : Int)
theorem natI_length (l : List Nat) : (natI l).length = l.length := by simp [natI]
theorem natI_getD (l : List Nat) (j : Nat) : (natI l).getD j 0 = (l.getD j 0 : Nat) := by
  simp only [natI, List.getD_eq_getElem?_getD, List.getElem?_map]
  cases l[j]? <;> simp
theorem natI_append (l m : List Nat) : natI (l ++ m) = natI l ++ natI m := by simp [natI]
/-- sums for a place in a matrix -/
structure PlaceF (i j r : Nat) : Prop where
  w1 : IntKind.i64.wrap ((i : Int) * r) = (i : Int) * r
  w2 : IntKind.i64.wrap ((i : Int) * r + j) = (i : Int) * r + j
  p0 : 0 ≤ (i : Int) * r + j
  p1 : (i : Int) * r + j < (r : Int) * r
  pn : ((i : Int) * r + j).toNat = i * r + j
theorem placeF {i j r : Nat} (hr : r ≤ 4) (hi : i < r) (hj : j < r) : PlaceF i j r := by
  obtain ⟨h0, h1, h2, h3⟩ := idx4 (r := (r : Int)) (i := i) (j := j) (by omega) (by omega) (by omega) (by omega) (by omega)
  refine ⟨wrap_in (by omega) (by omega), wrap_in (by omega) (by omega), by omega, h2, ?_⟩
  rw [← Int.natCast_mul, ← Int.natCast_add]
  rfl

end Go.Proofs.YtenlhfimdpcaoaaGreat

namespace Go.Proofs.YtenlhfimdpcaoaaGreat
open Go.RowKit

theorem tdiv_bound (a b : Int) : -(a.natAbs : Int) ≤ a.tdiv b ∧ a.tdiv b ≤ a.natAbs := by
  have h : (a.tdiv b).natAbs ≤ a.natAbs := by
    rw [Int.natAbs_tdiv]
    exact Nat.div_le_self _ _
  omega
theorem IntsAt.one {w : World} {a : Option Addr} {n : Nat} {xs : List Int} (h : IntsAt w a n xs) (i : Nat) (hi : i < n) : ∃ b o, a = some ⟨b, o, none⟩ ∧ ∀ w', Ext w w' → w'.cell? ⟨b, o + i, none⟩ = some (.int .i64 (xs.getD i 0)) := by
  obtain ⟨b, o, rfl, hc⟩ := h.get i hi
  exact ⟨b, o, rfl, fun w' hx => (hx.cell (p := ⟨b, o + i, none⟩) (World.block_lt_of_cell? w _ hc)).trans hc⟩
theorem OwnI.stored {w : World} {B g n c : Nat} {xs : List Int} (h : OwnI w B (some ⟨g, 0, none⟩) n c xs) (k : Nat) (v : Int) : OwnI (w.setCell ⟨g, k, none⟩ (.int .i64 v)) B (some ⟨g, 0, none⟩) n c (xs.set k v) := by
  have := (h.row.stored k (.int .i64 v)).1
  rw [show (ivs xs).set k (.int .i64 v) = ivs (xs.set k v) by simp [ivs, List.map_set]] at this
  exact ⟨this⟩
end Go.Proofs.YtenlhfimdpcaoaaGreat

namespace Go.Proofs.YtenlhfimdpcaoaaGreat

abbrev Stp := List Int × Int
def wayAt (p : List Stp) (k : Nat) : List Int := (p.getD k ([], 0)).1
def lenAt (p : List Stp) (k : Nat) : Int := (p.getD k ([], 0)).2
/-! ### steps put together -/
/-! ### gone back -/
def negW (w : List Int) : List Int := w.map fun x => -x
theorem negW_length (w : List Int) : (negW w).length = w.length := by simp [negW]
theorem negW_getD (w : List Int) (j : Nat) : (negW w).getD j 0 = - w.getD j 0 := by
  simp only [negW, List.getD_eq_getElem?_getD, List.getElem?_map]
  cases w[j]? <;> simp
end Go.Proofs.YtenlhfimdpcaoaaGreat

namespace Go.Proofs.YtenlhfimdpcaoaaGreat

/-! ### a path gone back -/
/-! ### places -/
/-! ### lowering and raising -/
end Go.Proofs.YtenlhfimdpcaoaaGreat

namespace Go.Proofs.YtenlhfimdpcaoaaGreat
open Go.RowKit

def stepK : Knd Stp where
  E := 141
  size := 2
  dft := ([], 0)
  ints := fun x => x.1
  put := fun x ys => (ys, x.2)
  cells := fun a c x => [.slice a x.1.length c, .int .i64 x.2]
  len := fun _ _ _ => rfl
  pos := by decide
  ne := by decide
  put_ints := fun _ _ => rfl
  put_cells := fun a c x ys h => by show [Value.slice a ys.length c, Value.int .i64 x.2] = _; rw [h]
  one := fun a c x u hu => by
    simp only [List.mem_cons, List.not_mem_nil, or_false] at hu
    rcases hu with rfl | rfl <;> rfl
theorem OwnI.small {w : World} {B : Nat} {a : Option Addr} {n c : Nat} {xs : List Int} (h : OwnI w B a n c xs) : n ≤ 9223372036854775807 := by
  rcases h.row.2 with ⟨_, h0⟩ | ⟨g, cap, cur, _, _, _, hnc, hcm, _⟩
  · omega
  · unfold maxLen at hcm; omega
variable {α : Type}
theorem Knd.all_append (K : Knd α) (hs hs2 : List Hdr) (xs xs2 : List α) (h : hs.length = xs.length) : K.all (hs ++ hs2) (xs ++ xs2) = K.all hs xs ++ K.all hs2 xs2 := by
  induction hs generalizing xs with
  | nil => cases xs <;> simp_all [Knd.all]
  | cons a hs ih =>
    cases xs with
    | nil => simp at h
    | cons x xs => simp only [Knd.all, List.cons_append, List.append_assoc]; rw [ih xs (by simpa using h)]
theorem getD_left {β : Type} (l k : List β) (i : Nat) (x : β) (h : i < l.length) : (l ++ k).getD i x = l.getD i x := by simp [List.getD_eq_getElem?_getD, List.getElem?_append_left h]
theorem getD_right {β : Type} (l k : List β) (i : Nat) (x : β) (h : l.length ≤ i) : (l ++ k).getD i x = k.getD (i - l.length) x := by simp [List.getD_eq_getElem?_getD, List.getElem?_append_right h]
theorem OwnK.off_ints {K : Knd α} {w : World} {B U B' : Nat} {a a' : Option Addr} {n c n' c' : Nat} {hs : List Hdr} {xs : List α} {ys : List Int} (h : OwnK K w B U a n c hs xs) (k : OwnI w B' a' n' c' ys) : Apart a a' := by
  intro b o b' o' e e' hb
  subst hb
  obtain ⟨cur', hg'⟩ := k.block e'
  rcases h.form with ⟨rfl, _⟩ | ⟨g, cur, rfl, _, _, hg, _⟩
  · cases e
  · simp only [Option.some.injEq, Addr.mk.injEq, and_true] at e
    obtain ⟨rfl, _⟩ := e
    rw [hg] at hg'
    simp only [Option.some.injEq, Obj.cells.injEq] at hg'
    exact K.ne hg'.2.1
theorem OwnK.cat_of {K : Knd α} {w w' : World} {B U U2 : Nat} {a a2 : Option Addr} {n c m c2 : Nat} {hs hs2 : List Hdr} {xs xs2 : List α} (hown : OwnK K w B U a n c hs xs) (h2 : OwnK K w B U2 a2 m c2 hs2 xs2) {v' : Value}
    (hr : w'.ownsRow B K.E K.size v' (n + m) (K.all hs xs ++ K.all hs2 xs2)) (hg : w.grownBy w' (Value.slice a n c).ownBlock)
    (hap : ∀ i j, i < n → j < m → Apart (hs.getD i (none, 0)).1 (hs2.getD j (none, 0)).1) (hsl : ∃ a' c', v' = .slice a' (n + m) c') :
    ∃ a' c', v' = .slice a' (n + m) c' ∧ OwnK K w' B w'.heap.size a' (n + m) c' (hs ++ hs2) (xs ++ xs2) := by
  rw [← K.all_append hs hs2 xs xs2 (hown.hl.trans hown.xl.symm)] at hr
  obtain ⟨a', c', rfl⟩ := hsl
  refine ⟨a', c', rfl, ?_⟩
  have hxl := hown.xl
  have hhl := hown.hl
  have hxl2 := h2.xl
  have hhl2 := h2.hl
  have hne : ∀ {p : Option Addr} {k q : Nat} {ys : List Int}, OwnI w B p k q ys → ∀ b o, p = some ⟨b, o, none⟩ → some b ≠ (Value.slice a n c).ownBlock := fun hk b o e => by
    rcases hown.form with ⟨rfl, _⟩ | ⟨g', cur, rfl, _⟩
    · simp [Value.ownBlock]
    · have := hown.off_ints hk g' 0 b o rfl e
      simp only [Value.ownBlock, ne_eq, Option.some.injEq]
      omega
  have hev : ∀ q, q < n + m → OwnI w' B ((hs ++ hs2).getD q (none, 0)).1 (K.ints ((xs ++ xs2).getD q K.dft)).length ((hs ++ hs2).getD q (none, 0)).2 (K.ints ((xs ++ xs2).getD q K.dft)) := fun q hq => by
    by_cases h3 : q < n
    · rw [getD_left _ _ _ _ (by omega), getD_left _ _ _ _ (by omega)]
      exact (hown.each q h3).grown hg fun b o e => hne (hown.each q h3) b o e
    · rw [getD_right _ _ _ _ (by omega), getD_right _ _ _ _ (by omega), hhl, hxl]
      exact (h2.each _ (by omega)).grown hg fun b o e => hne (h2.each _ (by omega)) b o e
  refine ⟨hr, by simp [hhl, hhl2], by simp [hxl, hxl2], hev, fun q r hq hr' hqr => ?_, fun q hq b o e => ((hev q hq).at_base b o e).2, fun b o e => ?_⟩
  · by_cases h3 : q < n
    · rw [getD_left hs _ q _ (by omega)]
      by_cases h4 : r < n
      · rw [getD_left hs _ r _ (by omega)]; exact hown.apart q r h3 h4 hqr
      · rw [getD_right hs _ r _ (by omega)]; exact hap q _ h3 (by omega)
    · rw [getD_right hs _ q _ (by omega)]
      by_cases h4 : r < n
      · rw [getD_left hs _ r _ (by omega)]; exact (hap r _ h4 (by omega)).symm
      · rw [getD_right hs _ r _ (by omega)]; exact h2.apart _ _ (by omega) (by omega) (by omega)
  · rcases hr.2 with ⟨h5, h0⟩ | ⟨g', cap, cur, he, _, hg', _⟩
    · simp only [Value.slice.injEq] at h5
      rw [h5.1] at e
      cases e
    · simp only [Value.slice.injEq] at he
      rw [e] at he
      simp only [Option.some.injEq, Addr.mk.injEq, and_true] at he
      obtain ⟨⟨rfl, _⟩, _⟩ := he
      exact (Array.getElem?_eq_some_iff.1 hg').1

/-- append of an owned slice's elements to another one -/
theorem wpList_append_elems {ops : Array Oper} {rest : List Oper} {o : Oper} {av : Act} {Q : Exit → Act → World → Prop} {w : World} (K : Knd α) (T : TypeId) (z : Value) (bytes : Nat) (hgd : o.guard = none) (s x : Operand)
    (ho : o.op = .call { callee := .builtin .append, args := #[s, x], argTypes := #[T, T] }) (hT : Tryz.prog.underlying T = some (.slice K.E)) (hinfo : (Tryz.prog.info? K.E).map (fun i => (i.zero, i.size, i.bytes)) = some (some z, K.size, bytes))
    (hz : z.cells.size = K.size) (hbp : bytes ≤ 1000)
    (B U U2 : Nat) (a : Option Addr) (n c : Nat) (hs hs2 : List Hdr) (xs xs2 : List α) (hsv : av.eval s = .slice a n c) (hown : OwnK K w B U a n c hs xs)
    (g m c2 : Nat) (hx : av.eval x = .slice (some ⟨g, 0, none⟩) m c2) (h2 : OwnK K w B U2 (some ⟨g, 0, none⟩) m c2 hs2 xs2)
    (hap : ∀ i j, i < n → j < m → Apart (hs.getD i (none, 0)).1 (hs2.getD j (none, 0)).1) (hsm : n + m ≤ 1000000000) (ha : a ≠ none) (hB : B ≤ w.heap.size)
    (h : ∀ a' c' w', OwnK K w' B w'.heap.size a' (n + m) c' (hs ++ hs2) (xs ++ xs2) → w.grownBy w' (Value.slice a n c).ownBlock → OrNew w.heap.size a a' → wpList Tryz.prog ops Q rest (av.put o.dst (.slice a' (n + m) c')) w') : wpList Tryz.prog ops Q (o :: rest) av w := by
  obtain ⟨i, hi, hz0, hz1, hz2⟩ := info_parts hinfo
  have hl2 := K.all_length hs2 xs2 (h2.hl.trans h2.xl.symm)
  rw [h2.xl] at hl2
  have hcells : ∀ j u, (K.all hs2 xs2)[j]? = some u → w.cell? ((⟨g, 0, none⟩ : Addr).add j) = some u := by
    intro j u hu
    have hj : j < m * K.size := by have := (List.getElem?_eq_some_iff.1 hu).1; rwa [hl2] at this
    rw [add_none, Nat.zero_add, h2.row.cellAt j hj]
    exact hu
  by_cases hroom : n + m ≤ c
  · rcases hown.form with ⟨e0, _⟩ | ⟨g0, cur, rfl, _⟩
    · exact absurd e0 ha
    · refine wpList_append_fits w hgd s x T ho B K.E i K.size hT hi hz1 g0 n c (K.all hs xs) hsv hown.row ⟨g, 0, none⟩ m c2 (K.all hs2 xs2) hx hl2 hcells (K.all_one _ _) hroom ?_
      intro w' hr hg
      obtain ⟨a', c', e, hk⟩ := hown.cat_of h2 hr hg hap ⟨_, _, rfl⟩
      simp only [Value.slice.injEq] at e
      obtain ⟨rfl, _, rfl⟩ := e
      exact h _ _ w' hk hg (.inl rfl)
  · have hlx := K.all_length hs xs (hown.hl.trans hown.xl.symm)
    rw [hown.xl] at hlx
    refine wpList_append_grows w hgd s x T ho K.E i z K.size bytes hT hi hz0 hz1 hz2 hz K.pos a n c (K.all hs xs) hsv ?_ hlx ?_ ⟨g, 0, none⟩ m c2 (K.all hs2 xs2) hx hl2 hcells (K.all_one _ _) (by omega) (by unfold maxLen; omega)
      (by calc (n + m) * bytes ≤ 1000000000 * 1000 := Nat.mul_le_mul (by omega) hbp
            _ ≤ _ := by omega) ?_
    · intro e
      rcases hown.form with ⟨_, h1, h2⟩ | ⟨g0, cur, e2, _⟩
      · exact ⟨h1, h2⟩
      · rw [e] at e2; cases e2
    · intro b e j u hu
      rcases hown.form with ⟨e2, _⟩ | ⟨g0, cur, e2, _⟩
      · rw [e] at e2; cases e2
      · rw [e] at e2
        simp only [Option.some.injEq] at e2
        subst e2
        have hj : j < n * K.size := by have := (List.getElem?_eq_some_iff.1 hu).1; rwa [hlx] at this
        subst e
        rw [add_none, Nat.zero_add, hown.row.cellAt j hj]
        exact hu
    · intro v' w' hr hg0
      have hg : w.grownBy w' (Value.slice a n c).ownBlock := ⟨hg0.os, hg0.tape, hg0.output, hg0.size, fun k hk _ => hg0.block k hk (by simp)⟩
      have hr2 : w'.ownsRow B K.E K.size v' (n + m) (K.all hs xs ++ K.all hs2 xs2) := by
        refine ⟨hr.1, ?_⟩
        rcases hr.2 with h2 | ⟨g', cap, cur, he, hB', r⟩
        · exact .inl h2
        · exact .inr ⟨g', cap, cur, he, Nat.le_trans hB hB', r⟩
      obtain ⟨a', c', rfl, hk⟩ := hown.cat_of h2 hr2 hg hap (by
        rcases hr.2 with ⟨e5, h0⟩ | ⟨g', cap, cur, he, hB', _⟩
        · omega
        · exact ⟨_, _, he⟩)
      refine h a' c' w' hk hg (.inr fun b o e => ?_)
      rcases hr.2 with ⟨_, h0⟩ | ⟨g', cap, cur, he, hB', _⟩
      · omega
      · simp only [Value.slice.injEq] at he
        rw [e] at he
        simp only [Option.some.injEq, Addr.mk.injEq, and_true] at he
        obtain ⟨⟨rfl, _⟩, _⟩ := he
        exact hB'
end Go.Proofs.YtenlhfimdpcaoaaGreat

namespace Go.Proofs.YtenlhfimdpcaoaaGreat
open Go.RowKit

set_option maxHeartbeats 1000000 in
theorem l1Same_any (a1 a2 : Option Addr) (n1 n2 c1 c2 : Nat) (xs ys : List Int) (w : World) (h1 : IntsAt w a1 n1 xs) (h2 : IntsAt w a2 n2 ys) (hm1 : n1 ≤ 9223372036854775807) (hm2 : n2 ≤ 9223372036854775807) :
    Calls Tryz.prog 170 #[.slice a1 n1 c1, .slice a2 n2 c2] w fun e w' => e = .returned (.bool (xs == ys)) ∧ ∃ m, w' = w.drewN m := by
  obtain ⟨l1, g1⟩ := h1
  obtain ⟨l2, g2⟩ := h2
  have G1 := hidP g1
  have G2 := hidP g2
  have L1 := hidP l1
  have L2 := hidP l2
  clear g1 g2 l1 l2
  by_cases hne : n1 = n2
  · subst hne
    go_enter Tryz.func170, Tryz.ntmps170
    go_wp2
    go_loopw [5] (fun i wr => ∃ k m : Nat, k ≤ n1 ∧ Hid (∀ j, j < k → xs.getD j 0 = ys.getD j 0) ∧ i = .int .i64 k ∧ wr = w.drewN m) (fun i _ => n1 - (intOf i).toNat)
    case atStart => exact ⟨0, 0, Nat.zero_le _, fun j h => by omega, rfl, rfl⟩
    case round =>
      obtain ⟨k, m, hk, HJ, rfl, rfl⟩ := hrel
      by_cases hlt : k < n1
      · obtain ⟨b1, o1, rfl, q1⟩ := G1.out k hlt
        obtain ⟨b2, o2, rfl, q2⟩ := G2.out k hlt
        by_cases hd : xs.getD k 0 = ys.getD k 0
        · have hb : (xs[k]?.getD 0 != ys[k]?.getD 0) = false := by simpa [List.getD_eq_getElem?_getD] using hd
          have HD := hidP hd
          clear hd
          go_wp2
          go_quiet (fail)
          go_wp2
          go_roundw
          case rel =>
            refine ⟨k + 1, m + nq, by omega, fun j hj => ?_, by go_num, by simp⟩
            rcases Nat.lt_succ_iff_lt_or_eq.1 hj with h3 | rfl
            · exact HJ.out j h3
            · exact HD.out
          case measure => simp [intOf]; omega
        · have hb : (xs[k]?.getD 0 != ys[k]?.getD 0) = true := by simpa [List.getD_eq_getElem?_getD] using hd
          have HB : Hid ((xs == ys) = false) := by
            show _ = _
            rw [beq_eq_false_iff_ne]
            exact fun e => hd (by rw [e])
          clear hd
          go_wp2
          go_quiet (fail)
          go_wp2
          go_ret
          exact ⟨ret_bool HB.out.symm, _, by simp only [World.drewN_drewN]; rfl⟩
      · have HB : Hid ((xs == ys) = true) := by
          show _ = _
          rw [beq_iff_eq]
          exact ints_ext (L1.out.trans L2.out.symm) fun j hj => HJ.out j (by have := L1.out; omega)
        go_wp2
        go_ret
        exact ⟨ret_bool HB.out.symm, _, rfl⟩
  · have HB : Hid ((xs == ys) = false) := by
      show _ = _
      rw [beq_eq_false_iff_ne]
      exact fun e => hne (by rw [← L1.out, ← L2.out, e])
    have hb : (((n1 : Nat) : Int) != (n2 : Nat)) = true := bne_iff_ne.2 (by omega)
    clear hne
    go_enter Tryz.func170, Tryz.ntmps170
    go_wp2
    go_ret
    exact ⟨ret_bool HB.out.symm, 0, rfl⟩

end Go.Proofs.YtenlhfimdpcaoaaGreat

namespace Go.Proofs.YtenlhfimdpcaoaaGreat
open Go.RowKit

/-- steps, read, a way that is nil having no room -/
structure StepsAt (w : World) (a : Option Addr) (n : Nat) (xs : List Stp) : Prop where
  len : xs.length = n
  get : ∀ k, k < n → ∃ b o aw cw, a = some ⟨b, o, none⟩ ∧ w.cell? ⟨b, o + k * 2, none⟩ = some (.slice aw (wayAt xs k).length cw) ∧ w.cell? ⟨b, o + k * 2 + 1, none⟩ = some (.int .i64 (lenAt xs k)) ∧
    IntsAt w aw (wayAt xs k).length (wayAt xs k) ∧ (wayAt xs k).length ≤ 9223372036854775807 ∧ (aw = none → cw = 0)
theorem StepsAt.below {w w' : World} {a : Option Addr} {n : Nat} {xs : List Stp} (h : StepsAt w a n xs) (hb : Ext w w') : StepsAt w' a n xs := by
  refine ⟨h.len, fun i hi => ?_⟩
  obtain ⟨b, o, aw, cw, rfl, h1, h2, h3, h4, h5⟩ := h.get i hi
  have hl := World.block_lt_of_cell? w _ h1
  exact ⟨b, o, aw, cw, rfl, (hb.cell (p := ⟨b, o + i * 2, none⟩) hl).trans h1, (hb.cell (p := ⟨b, o + i * 2 + 1, none⟩) hl).trans h2, h3.below hb, h4, h5⟩
theorem StepsAt.way {w : World} {a : Option Addr} {n : Nat} {xs : List Stp} (h : StepsAt w a n xs) (k : Nat) (hk : k < n) :
    ∃ b o aw cw, ∃ W : List Int, ∃ L : Int, a = some ⟨b, o, none⟩ ∧ Hid (wayAt xs k = W) ∧ Hid (lenAt xs k = L) ∧ W.length ≤ 9223372036854775807 ∧ Hid (aw = none → cw = 0) ∧
      ∀ w', Ext w w' → w'.cell? ⟨b, o + k * 2, none⟩ = some (.slice aw W.length cw) ∧ w'.cell? ⟨b, o + k * 2 + 1, none⟩ = some (.int .i64 L) ∧ IntsAt w' aw W.length W := by
  obtain ⟨b, o, aw, cw, e, h1, h2, h3, h4, h5⟩ := h.get k hk
  refine ⟨b, o, aw, cw, wayAt xs k, lenAt xs k, e, rfl, rfl, h4, h5, fun w' hx => ?_⟩
  have hl := World.block_lt_of_cell? w _ h1
  exact ⟨(hx.cell (p := ⟨b, o + k * 2, none⟩) hl).trans h1, (hx.cell (p := ⟨b, o + k * 2 + 1, none⟩) hl).trans h2, h3.below hx⟩
theorem OwnK.stepCell {w : World} {B U : Nat} {a : Option Addr} {n c : Nat} {hs : List Hdr} {xs : List Stp} (h : OwnK stepK w B U a n c hs xs) (k : Nat) (hk : k < n) :
    ∃ g aw cw, a = some ⟨g, 0, none⟩ ∧ hs.getD k (none, 0) = (aw, cw) ∧ w.cell? ⟨g, k * 2, none⟩ = some (.slice aw (wayAt xs k).length cw) ∧ w.cell? ⟨g, k * 2 + 1, none⟩ = some (.int .i64 (lenAt xs k)) ∧
    w.frozen? ⟨g, k * 2, none⟩ = false ∧ w.frozen? ⟨g, k * 2 + 1, none⟩ = false ∧ OwnI w B aw (wayAt xs k).length cw (wayAt xs k) := by
  obtain ⟨g, rfl, hc, hf⟩ := h.cell k 0 hk (by decide)
  obtain ⟨g', e, hc', hf'⟩ := h.cell k 1 hk (by decide)
  simp only [Option.some.injEq, Addr.mk.injEq, and_true] at e
  subst e
  rw [show k * stepK.size + 0 = k * 2 from rfl] at hc hf
  rw [show k * stepK.size + 1 = k * 2 + 1 from rfl] at hc' hf'
  exact ⟨g, (hs.getD k (none, 0)).1, (hs.getD k (none, 0)).2, rfl, rfl, hc, hc', hf, hf', h.each k hk⟩
theorem OwnK.stepsAt {w : World} {B U : Nat} {a : Option Addr} {n c : Nat} {hs : List Hdr} {xs : List Stp} (h : OwnK stepK w B U a n c hs xs) : StepsAt w a n xs := by
  refine ⟨h.xl, fun k hk => ?_⟩
  obtain ⟨g, aw, cw, rfl, _, h1, h2, _, _, h5⟩ := h.stepCell k hk
  exact ⟨g, 0, aw, cw, rfl, by rw [Nat.zero_add]; exact h1, by rw [Nat.zero_add]; exact h2, h5.ints, h5.small, h5.nil_cap⟩
/-! ### l9Join -/
end Go.Proofs.YtenlhfimdpcaoaaGreat

namespace Go.Proofs.YtenlhfimdpcaoaaGreat
open Go.RowKit

theorem typeB_rank {r : Int} {ts : List Int} (h : typeB r ts = true) : 1 ≤ r ∧ r ≤ 4 ∧ (ts.length : Int) = r * r := by
  simp only [typeB, Bool.and_eq_true, decide_eq_true_eq] at h
  omega

end Go.Proofs.YtenlhfimdpcaoaaGreat

namespace Go.Proofs.YtenlhfimdpcaoaaGreat
open Go.RowKit

end Go.Proofs.YtenlhfimdpcaoaaGreat

namespace Go.Proofs.YtenlhfimdpcaoaaGreat

theorem typeB_entry {r : Nat} {ts : List Int} (h : typeB r ts = true) (m : Nat) : -3 ≤ ts.getD m 0 ∧ ts.getD m 0 ≤ 2 := by
  rw [typeB_eq] at h
  simp only [partsB, entryB, Bool.and_eq_true, List.all_eq_true, List.mem_range, decide_eq_true_eq] at h
  rcases Nat.lt_or_ge m ts.length with hm | hm
  · exact (h.1.2 m hm).1
  · rw [List.getD_eq_getElem?_getD, List.getElem?_eq_none hm]
    simp

end Go.Proofs.YtenlhfimdpcaoaaGreat

namespace Go.Proofs.YtenlhfimdpcaoaaGreat
open Go.RowKit

def wgtF (r : Nat) (ts x : List Int) (i j : Nat) : Int := atM ts r i j * x.getD j 0
def wgtL (r : Nat) (ts x : List Int) : List Int := (List.range r).map fun i => sumTo r (wgtF r ts x i)
/-- the rows so far, and one of them up to a column -/
def wgtTo (r : Nat) (ts x : List Int) (k j : Nat) : List Int := (List.range r).map fun i => if i < k then sumTo r (wgtF r ts x i) else if i = k then sumTo j (wgtF r ts x i) else 0
theorem wgtL_get (r : Nat) (ts x : List Int) (i : Nat) (hi : i < r) : (wgtL r ts x).getD i 0 = sumTo r (wgtF r ts x i) := by simp [wgtL, List.getD_eq_getElem?_getD, hi]
theorem wgtTo_zero (r : Nat) (ts x : List Int) : wgtTo r ts x 0 0 = List.replicate r 0 := by
  apply List.ext_getElem
  · simp [wgtTo]
  · intro i h1 h2
    simp [wgtTo, sumTo]
theorem wgtTo_next (r : Nat) (ts x : List Int) (k : Nat) : wgtTo r ts x k r = wgtTo r ts x (k + 1) 0 := by
  unfold wgtTo
  apply List.map_congr_left
  intro i _
  by_cases h : i < k
  · rw [if_pos h, if_pos (by omega)]
  · by_cases h2 : i = k
    · rw [if_neg h, if_pos h2, if_pos (by omega)]
    · rw [if_neg h, if_neg h2, if_neg (by omega)]
      split <;> simp [sumTo]
theorem wgtTo_all (r : Nat) (ts x : List Int) (j : Nat) : wgtTo r ts x r j = wgtL r ts x := by
  unfold wgtTo wgtL
  apply List.map_congr_left
  intro i hi
  rw [if_pos (List.mem_range.1 hi)]
theorem wgtTo_at (r : Nat) (ts x : List Int) (k j : Nat) (hk : k < r) : (wgtTo r ts x k j).getD k 0 = sumTo j (wgtF r ts x k) := by simp [wgtTo, List.getD_eq_getElem?_getD, hk]
theorem wgtTo_set (r : Nat) (ts x : List Int) (k j : Nat) : (wgtTo r ts x k j).set k (sumTo (j + 1) (wgtF r ts x k)) = wgtTo r ts x k (j + 1) := by
  apply List.ext_getElem
  · simp [wgtTo]
  · intro i h1 h2
    have h3 : i < r := by simpa [wgtTo] using h2
    rw [List.getElem_set]
    by_cases h : k = i
    · subst h
      simp [wgtTo]
    · rw [if_neg h]
      simp only [wgtTo, List.getElem_map, List.getElem_range]
      rw [if_neg (Ne.symm h), if_neg (Ne.symm h)]
/-- bounds of the sums -/
theorem wgt_bd {r : Nat} {ts x : List Int} (hT : typeB r ts = true) {M : Int} (hb : ∀ j, j < r → -M ≤ x.getD j 0 ∧ x.getD j 0 ≤ M) (i : Nat) {j : Nat} (hj : j < r) : -(3 * M) ≤ wgtF r ts x i j ∧ wgtF r ts x i j ≤ 3 * M := by
  have h2 := hb j hj
  have h3 : -3 ≤ atM ts r i j ∧ atM ts r i j ≤ 2 := typeB_entry hT _
  unfold wgtF
  obtain ⟨h2a, h2b⟩ := h2
  obtain ⟨h3a, h3b⟩ := h3
  generalize x.getD j 0 = y at *
  generalize atM ts r i j = z at *
  rcases (by omega : z = -3 ∨ z = -2 ∨ z = -1 ∨ z = 0 ∨ z = 1 ∨ z = 2) with rfl | rfl | rfl | rfl | rfl | rfl <;> omega
theorem sum_bd {f : Nat → Int} {M : Int} : ∀ (n : Nat), (∀ i, i < n → -M ≤ f i ∧ f i ≤ M) → -(n * M) ≤ sumTo n f ∧ sumTo n f ≤ n * M
  | 0, _ => by simp [sumTo]
  | n + 1, h => by
    have h1 := sum_bd n fun i hi => h i (by omega)
    have h2 := h n (by omega)
    simp only [sumTo, Int.natCast_add, Int.add_mul, Int.cast_ofNat_Int, Int.one_mul]
    omega
theorem wgtS_bd {r : Nat} {ts x : List Int} (hT : typeB r ts = true) {M : Int} (hM : 0 ≤ M) (hb : ∀ j, j < r → -M ≤ x.getD j 0 ∧ x.getD j 0 ≤ M) (i : Nat) {j : Nat} (hj : j ≤ r) : -(12 * M) ≤ sumTo j (wgtF r ts x i) ∧ sumTo j (wgtF r ts x i) ≤ 12 * M := by
  have h := sum_bd (f := wgtF r ts x i) (M := 3 * M) j fun a ha => wgt_bd hT hb i (by omega)
  have hr := typeB_rank hT
  have h4 : (j : Int) * (3 * M) ≤ 4 * (3 * M) := Int.mul_le_mul_of_nonneg_right (by omega) (by omega)
  omega
def simL (r : Nat) (ts : List Int) (i : Nat) (x : List Int) : List Int := x.set i (x.getD i 0 - (wgtL r ts x).getD i 0)
def hgtL (x : List Int) : Int := sumTo x.length fun i => x.getD i 0
def posL (x : List Int) : Bool := x.all fun n => decide (0 ≤ n)
def lessD : List Int → List Int → Bool
  | a :: x, b :: y => if a = b then lessD x y else decide (b < a)
  | _, _ => false
def lessL (x y : List Int) : Bool := if hgtL x = hgtL y then lessD x y else decide (hgtL x < hgtL y)
/-- the roots as they are found; none: more than the fuel -/
def foundGo (r : Nat) (ts : List Int) : Nat → Nat → Nat → List (List Int) → Option (List (List Int))
  | 0, _, _, _ => none
  | f + 1, k, i, out =>
    if k < out.length then
      if i < r then foundGo r ts f k (i + 1) (if posL (simL r ts i (out.getD k [])) && !out.contains (simL r ts i (out.getD k [])) then out ++ [simL r ts i (out.getD k [])] else out)
      else foundGo r ts f (k + 1) 0 out
    else some out
def foundL (r : Nat) (ts : List Int) : Option (List (List Int)) := foundGo r ts 100 0 0 ((List.range r).map (basisL r))
def atR (x : List Int) (out : List (List Int)) : Nat → Nat
  | 0 => 0
  | k + 1 => if lessL x (out.getD k []) then atR x out k else k + 1
def insR (out : List (List Int)) (x : List Int) : List (List Int) := out.take (atR x out out.length) ++ x :: out.drop (atR x out out.length)
def rootsOf (fs : List (List Int)) : List (List Int) := fs.foldl insR []
/-! lengths -/
def lenJ (r : Nat) (ts : List Int) (a : Nat) : Nat → List Int → List Int
  | 0, d => d
  | j + 1, d => if (lenJ r ts a j d).getD j 0 = 0 ∧ atM ts r a j ≠ 0 then (lenJ r ts a j d).set j (((lenJ r ts a j d).getD a 0 * atM ts r a j).tdiv (atM ts r j a)) else lenJ r ts a j d
/-- over the first rows of a part: the numbers and the least one -/
def lenK (r : Nat) (ts : List Int) (rows : List Nat) (d : List Int) : Nat → List Int × Int
  | 0 => (d, 6)
  | k + 1 => (lenJ r ts (rows.getD k 0) r (lenK r ts rows d k).1, if (lenJ r ts (rows.getD k 0) r (lenK r ts rows d k).1).getD (rows.getD k 0) 0 < (lenK r ts rows d k).2 then (lenJ r ts (rows.getD k 0) r (lenK r ts rows d k).1).getD (rows.getD k 0) 0 else (lenK r ts rows d k).2)
def lenD (rows : List Nat) (s : Int) (d : List Int) : Nat → List Int
  | 0 => d
  | k + 1 => (lenD rows s d k).set (rows.getD k 0) (((lenD rows s d k).getD (rows.getD k 0) 0).tdiv s)
def rowsAt (r : Nat) (ts : List Int) (i : Nat) : List Nat := partL (bitsOf ts) r i
def lenI (r : Nat) (ts : List Int) : Nat → List Int
  | 0 => List.replicate r 0
  | i + 1 => if (lenI r ts i).getD i 0 ≠ 0 then lenI r ts i else
    lenD (rowsAt r ts i) (lenK r ts (rowsAt r ts i) ((lenI r ts i).set i 6) (rowsAt r ts i).length).2 (lenK r ts (rowsAt r ts i) ((lenI r ts i).set i 6) (rowsAt r ts i).length).1 (rowsAt r ts i).length
def lenL (r : Nat) (ts : List Int) : List Int := lenI r ts r
def okD (r : Nat) (d : List Int) : Bool := decide (d.length = r) && d.all fun x => decide (-1000 ≤ x ∧ x ≤ 1000)
/-- all numbers on the way are small, what is divided by is not 0 -/
def lenOk (r : Nat) (ts : List Int) : Bool := okD r (lenL r ts) && (List.range r).all fun i => decide ((lenI r ts i).getD i 0 ≠ 0) ||
  (decide (1 ≤ (lenK r ts (rowsAt r ts i) ((lenI r ts i).set i 6) (rowsAt r ts i).length).2) &&
   ((List.range (rowsAt r ts i).length).all fun k => (List.range (r + 1)).all fun j => okD r (lenJ r ts ((rowsAt r ts i).getD k 0) j (lenK r ts (rowsAt r ts i) ((lenI r ts i).set i 6) k).1) && decide (-1000 ≤ (lenK r ts (rowsAt r ts i) ((lenI r ts i).set i 6) k).2 ∧ (lenK r ts (rowsAt r ts i) ((lenI r ts i).set i 6) k).2 ≤ 1000)) &&
   (List.range ((rowsAt r ts i).length + 1)).all fun k => okD r (lenD (rowsAt r ts i) (lenK r ts (rowsAt r ts i) ((lenI r ts i).set i 6) (rowsAt r ts i).length).2 (lenK r ts (rowsAt r ts i) ((lenI r ts i).set i 6) (rowsAt r ts i).length).1 k))
def innL (r : Nat) (ts x y : List Int) : Int := sumTo r fun i => x.getD i 0 * (lenL r ts).getD i 0 * (wgtL r ts y).getD i 0
def corL (r : Nat) (ts x : List Int) : List Int := (List.range r).map fun i => (x.getD i 0 * (lenL r ts).getD i 0).tdiv ((innL r ts x x).tdiv 2)
end Go.Proofs.YtenlhfimdpcaoaaGreat

namespace Go.Proofs.YtenlhfimdpcaoaaGreat
open Go.RowKit

section
variable {P : Program} {ops : Array Oper} {Q : Exit → Act → World → Prop} {C : World → Prop} {n : Nat}
theorem walkC_onlyX {i : Nat} {oi : Oper} {f : Nat} {listed : Array Bool} {a : Act} {w : World} (hi : ops[i]? = some oi)
    (hb : (decide (Region.ready .any ops listed = [i]) && decide (i < n)) = true) (hw : Region.wanted oi (yielded ops a.tmps) = true)
    (h : ∀ K : Act → World → Prop, (∀ (C' : World → Prop), (∀ w, C' w → C w) → ∀ a' w', C' w' → WalkC P ops Q n C' f (listed.setIfInBounds i true) a' w' → K a' w') → oi.wp P a w K Q) : WalkC P ops Q n C (f + 1) listed a w := by
  intro inv
  simp only [Bool.and_eq_true, decide_eq_true_eq] at hb
  have hr : i ∈ Region.ready .any ops listed := by rw [hb.1]; simp
  refine ⟨fun h0 => (by rw [hb.1] at h0; cases h0), fun j hj => ?_⟩
  rw [hb.1] at hj
  obtain rfl : j = i := by simpa using hj
  unfold wpOp
  simp only [hi, hw, if_true]
  refine .inl (h _ fun C' hC a' w' hc hk => ⟨fun _ => hC _ hc, anyC.imp hC _ _ _ _ (hk (inv.set hr hb.2))⟩)
theorem walkR_onlyX {i : Nat} {oi : Oper} {rem : List (Nat × Oper)} {f : Nat} {listed : Array Bool} {a : Act} {w : World} (hi : ops[i]? = some oi)
    (hb : (decide (Region.ready .any ops listed = [i]) && decide (i < n)) = true) (hw : Region.wanted oi (yielded ops a.tmps) = true)
    (h : ∀ K : Act → World → Prop, (∀ (C' : World → Prop), (∀ w, C' w → C w) → ∀ a' w', C' w' → WalkR P ops Q n C' rem f (listed.setIfInBounds i true) a' w' → K a' w') → oi.wp P a w K Q) : WalkR P ops Q n C ((i, oi) :: rem) (f + 1) listed a w :=
  walkC_onlyX hi hb hw h
end
end Go.Proofs.YtenlhfimdpcaoaaGreat

namespace Go.Proofs.YtenlhfimdpcaoaaGreat
open Go.RowKit

structure WgStep (r : Nat) (ts x : List Int) (k j : Nat) (T Z S : Int) : Prop where
  res : sumTo (j + 1) (wgtF r ts x k) = S + T * Z
  mul : IntKind.i64.wrap (T * Z) = T * Z
  add : IntKind.i64.wrap (S + T * Z) = S + T * Z
theorem wg_step {r : Nat} {ts x : List Int} (hT : typeB r ts = true) (hb : ∀ j, j < r → -1000000 ≤ x.getD j 0 ∧ x.getD j 0 ≤ 1000000) (k : Nat) {j : Nat} (hj : j < r) : WgStep r ts x k j (atM ts r k j) (x.getD j 0) (sumTo j (wgtF r ts x k)) := by
  have h1 := wgt_bd hT hb k hj
  have h2 := wgtS_bd hT (by omega) hb k (Nat.le_of_lt hj)
  unfold wgtF at h1
  exact ⟨rfl, wrap_in (by omega) (by omega), wrap_in (by omega) (by omega)⟩

set_option maxHeartbeats 2000000 in
theorem l5Weight_any (R : Nat) (ta : Option Addr) (tn tc : Nat) (ts : List Int) (a : Option Addr) (n c : Nat) (W : List Int) (w : World) (hc : IntsAt w ta tn ts) (hT : typeB R ts = true) (h : IntsAt w a n W) (hW : W.length = R)
    (hb : ∀ j, j < R → -1000000 ≤ W.getD j 0 ∧ W.getD j 0 ≤ 1000000) :
    Calls Tryz.prog 169 #[carV R ta tn tc, .slice a n c] w fun e w' => ∃ a', e = .returned (.slice a' n n) ∧ OwnI w' w.heap.size a' n n (wgtL R ts W) ∧ Ext w w' := by
  have hx1 := Ext.alloc w (.cells #[.int .i64 R, .slice ta tn tc] 117)
  have HC := hidP (fun w' (hx : Ext (w.alloc (.cells #[.int .i64 R, .slice ta tn tc] 117)) w') => (CarAt.new w _ rfl (R : Int) ta tn tc 117).below hx)
  have HX1 := hidP hx1
  have hnR : n = R := by have := h.len; omega
  subst hnR
  have hrk := typeB_rank hT
  have HAt := hidP (fun w' (hx : Ext w w') (k j : Nat) (hk : k < n) (hj : j < n) => l5At_any (n : Int) ta tn tc ts k j w' (hc.below hx) (by have := hc.len; omega) (by omega) (by omega) (by omega))
  have HI := hidP h
  have HT := hidP hT
  have HB := hidP hb
  have hs1 : w.heap.size ≤ (w.alloc (.cells #[.int .i64 n, .slice ta tn tc] 117)).heap.size := hx1.size
  have hn4 : n ≤ 4 := by omega
  have hmk := make_ints (n : Int) (by omega) (by omega)
  simp only [Int.toNat_natCast] at hmk
  clear hc h hx1 hT hb hW hrk
  obtain ⟨w1, hw1⟩ : ∃ w1, w1 = w.alloc (.cells #[.int .i64 n, .slice ta tn tc] 117) := ⟨_, rfl⟩
  have hs2 : w1.heap.size = w.heap.size + 1 := by rw [hw1]; simp
  have hm := OwnI.made w1 w.heap.size n (by omega) (by unfold maxLen; omega)
  have HX2 := hidP (Ext.alloc w1 (.cells (Array.replicate n (.int .i64 0)) 3))
  rw [hs2, ← wgtTo_zero n ts W] at hm
  have HM := hidP hm
  have HG1 : Hid (w1.heap.size ≤ w.heap.size + 1) := by show _ ≤ _; omega
  rw [← hw1] at HC HX1
  have HW1 := hidP hw1
  clear hs1 hs2 hm hw1
  go_enter Tryz.func169, Tryz.ntmps169
  go_wp2
  rw [← HW1.out]
  clear HW1
  obtain ⟨g, hg⟩ : ∃ g, g = w.heap.size + 1 := ⟨_, rfl⟩
  rw [← hg] at HM HG1 ⊢
  obtain ⟨w2, hw2⟩ : ∃ w2, w2 = w1.alloc (.cells (Array.replicate n (.int .i64 0)) 3) := ⟨_, rfl⟩
  rw [← hw2] at HM HX2 ⊢
  clear hw2 hg hmk
  go_loopw [6] (fun ii wr => ∃ k : Nat, k ≤ n ∧ ii = .int .i64 k ∧ Hid (OwnI wr w.heap.size (some ⟨g, 0, none⟩) n n (wgtTo n ts W k 0)) ∧ Hid (Ext w1 wr)) (fun ii _ => n - (intOf ii).toNat)
  case atStart => exact ⟨0, Nat.zero_le _, rfl, HM, HX2⟩
  case round =>
    clear HM HX2
    obtain ⟨k, hk, rfl, HO, HX⟩ := hrel
    obtain ⟨y0, y1⟩ := HC.out wr HX.out
    by_cases hlt : k < n
    · go_wp2
      go_loopw [7] (fun jj wq => ∃ j : Nat, j ≤ n ∧ jj = .int .i64 j ∧ Hid (OwnI wq w.heap.size (some ⟨g, 0, none⟩) n n (wgtTo n ts W k j)) ∧ Hid (Ext w1 wq)) (fun jj _ => n - (intOf jj).toNat)
      case atStart => exact ⟨0, Nat.zero_le _, rfl, HO, HX⟩
      case round =>
        clear HO HX y0 y1
        obtain ⟨j, hj, rfl, HO, HX⟩ := hrel
        obtain ⟨y0, y1⟩ := HC.out _ HX.out
        by_cases hlj : j < n
        · have hst := wg_step HT.out HB.out k hlj
          obtain ⟨S, hS⟩ : ∃ S, S = sumTo j (wgtF n ts W k) := ⟨_, rfl⟩
          obtain ⟨Z, hZ⟩ : ∃ Z, Z = W.getD j 0 := ⟨_, rfl⟩
          obtain ⟨T, hT⟩ : ∃ T, T = atM ts n k j := ⟨_, rfl⟩
          rw [← hS, ← hZ, ← hT] at hst
          obtain ⟨b, o, rfl, hwj⟩ := HI.out.one j hlj
          have HF : Hid (∀ w', Ext wr w' → w'.cell? ⟨g, k, none⟩ = some (.int .i64 S) ∧ w'.frozen? ⟨g, k, none⟩ = false ∧ w'.cell? ⟨b, o + j, none⟩ = some (.int .i64 Z)) := by
            show ∀ w', _
            intro w' hx
            obtain ⟨g', e', _, _, q1, q2⟩ := (HO.out.below hx).cell k hlt
            simp only [Option.some.injEq, Addr.mk.injEq, and_true] at e'
            subst e'
            rw [wgtTo_at _ _ _ _ _ hlt, ← hS] at q1
            have q3 := hwj w' ((HX1.out.trans HX.out).trans hx)
            rw [← hZ] at q3
            exact ⟨q1, q2, q3⟩
          have HCk := hidP (fun w' (hx : Ext w1 w') => HAt.out w' (HX1.out.trans hx) k j hlt hlj)
          have HSt : Hid (∀ w', Ext wr w' → OwnI (w'.setCell ⟨g, k, none⟩ (.int .i64 (S + T * Z))) w.heap.size (some ⟨g, 0, none⟩) n n (wgtTo n ts W k (j + 1))) := by
            show ∀ w', _
            intro w' hx
            have h1 := (HO.out.below hx).stored k (S + T * Z)
            rw [← hst.res] at h1
            rw [wgtTo_set] at h1
            rw [← hst.res]
            exact h1
          have hmul := hst.mul
          have hadd := hst.add
          simp only [Int.toNat_natCast, ← hT] at HCk
          have hk0 : (0 : Int) ≤ (k : Int) := by omega
          have hkn : (k : Int) < (n : Int) := by omega
          have hj0 : (0 : Int) ≤ (j : Int) := by omega
          have hjn : (j : Int) < (n : Int) := by omega
          clear hst hS hZ hT hwj
          have hE : Ext wr wr.drew := Ext.drew wr
          go_wp2
          (refine walkR_start (fun w' => Ext wr w') 16 (by kernel_rfl) ?_; simp only [numbered, List.take_succ_cons, List.take_zero, Nat.zero_add, Nat.reduceAdd, List.length_cons, List.length_nil])
          (repeat (first | (refine walkR_still (v := ?_) rfl (by decide +kernel) rfl (fun _ _ _ h => h) hE ?_ ?_; rotate_left; (focus (intro w' hw'; obtain ⟨q1, q2, q3⟩ := HF.out w' hw'; obtain ⟨f0, f1⟩ := HC.out w' (HX.out.trans hw'); go_simp; all_goals (with_reducible rfl))); simp only [Act.put, List.setIfInBounds_toArray, List.set_cons_zero, List.set_cons_succ]) | (refine walkR_skip rfl (by decide +kernel) rfl (fun _ _ _ h => h) hE ?_; simp only [Act.put, List.setIfInBounds_toArray, List.set_cons_zero, List.set_cons_succ])))
          (refine walkR_later ?_; simp only [List.cons_append, List.nil_append])
          (repeat (first | (refine walkR_still (v := ?_) rfl (by decide +kernel) rfl (fun _ _ _ h => h) hE ?_ ?_; rotate_left; (focus (intro w' hw'; obtain ⟨q1, q2, q3⟩ := HF.out w' hw'; obtain ⟨f0, f1⟩ := HC.out w' (HX.out.trans hw'); go_simp; all_goals (with_reducible rfl))); simp only [Act.put, List.setIfInBounds_toArray, List.set_cons_zero, List.set_cons_succ]) | (refine walkR_skip rfl (by decide +kernel) rfl (fun _ _ _ h => h) hE ?_; simp only [Act.put, List.setIfInBounds_toArray, List.set_cons_zero, List.set_cons_succ])))
          (refine walkR_later ?_; simp only [List.cons_append, List.nil_append]); (refine walkR_later ?_; simp only [List.cons_append, List.nil_append])
          (refine walkR_only (fun w' => Ext wr w') rfl (by decide +kernel) rfl (fun _ h => h) ?_; intro K hK; go_simp; refine (HCk.out _ (HX.out.trans hE)).mono ?_; rintro e w3 ⟨rfl, hx3⟩; refine hK _ _ (hE.trans hx3) ?_; clear hK K; (try simp only [Act.put, List.setIfInBounds_toArray, List.set_cons_zero, List.set_cons_succ]))
          have hE3 := hE.trans hx3
          clear hx3 hE
          (repeat (first | (refine walkR_still (v := ?_) rfl (by decide +kernel) rfl (fun _ _ _ h => h) hE3 ?_ ?_; rotate_left; (focus (intro w' hw'; obtain ⟨q1, q2, q3⟩ := HF.out w' hw'; go_simp; all_goals (with_reducible rfl))); simp only [Act.put, List.setIfInBounds_toArray, List.set_cons_zero, List.set_cons_succ]) | (refine walkR_skip rfl (by decide +kernel) rfl (fun _ _ _ h => h) hE3 ?_; simp only [Act.put, List.setIfInBounds_toArray, List.set_cons_zero, List.set_cons_succ])))
          (refine walkR_tail (by rfl) (by kernel_rfl) ?_; simp only [List.drop_succ_cons, List.drop_zero])
          obtain ⟨q1, q2, q3⟩ := HF.out w3 hE3
          have HO3 := hidP (HSt.out w3 hE3)
          have HX3 : Hid (Ext w1 (w3.setCell ⟨g, k, none⟩ (.int .i64 (S + T * Z)))) := Ext.setNew (HX.out.trans hE3) _ _ (by have := HG1.out; exact this) _
          clear q3 hE3
          go_wp2
          go_roundw
          case rel => exact ⟨j + 1, by omega, by go_num, HO3, HX3⟩
          case measure => simp [intOf]; omega
        · obtain rfl : n = j := by omega
          rw [wgtTo_next] at HO
          go_wp2
          go_roundw
          case rel => exact ⟨k + 1, by omega, by go_num, HO, HX⟩
          case measure => simp [intOf]; omega
    · obtain rfl : n = k := by omega
      rw [wgtTo_all] at HO
      go_wp2
      go_ret
      exact ⟨_, rfl, HO.out, HX1.out.trans HX.out⟩

theorem simL_length (r : Nat) (ts : List Int) (i : Nat) (x : List Int) : (simL r ts i x).length = x.length := by simp [simL]
set_option maxHeartbeats 2000000 in
theorem l5Simple_any (R : Nat) (ta : Option Addr) (tn tc : Nat) (ts : List Int) (i : Nat) (hi : i < R) (a : Option Addr) (n c : Nat) (W : List Int) (w : World) (hc : IntsAt w ta tn ts) (hT : typeB R ts = true) (h : IntsAt w a n W) (hW : W.length = R)
    (hnil : a = none → c = 0) (hb : ∀ j, j < R → -1000000 ≤ W.getD j 0 ∧ W.getD j 0 ≤ 1000000) :
    Calls Tryz.prog 191 #[carV R ta tn tc, .int .i64 i, .slice a n c] w fun e w' => ∃ a' c', e = .returned (.slice a' n c') ∧ OwnI w' w.heap.size a' n c' (simL R ts i W) ∧ Ext w w' := by
  have hx1 := Ext.alloc w (.cells #[.int .i64 R, .slice ta tn tc] 117)
  have HC := hidP (fun w' (hx : Ext (w.alloc (.cells #[.int .i64 R, .slice ta tn tc] 117)) w') => (CarAt.new w _ rfl (R : Int) ta tn tc 117).below hx)
  have HX1 := hidP hx1
  have hnR : n = R := by have := h.len; omega
  subst hnR
  have hrk := typeB_rank hT
  have HWg := hidP (fun w' (hx : Ext w w') => l5Weight_any n ta tn tc ts a n c W w' (hc.below hx) hT (h.below hx) hW hb)
  have HCl := hidP (l1Ints_any a n c W _ (h.below hx1) hnil (by omega))
  have hs1 : w.heap.size ≤ (w.alloc (.cells #[.int .i64 n, .slice ta tn tc] 117)).heap.size := hx1.size
  have hbi := hb i hi
  have hsb := wgtS_bd hT (by omega) hb i (Nat.le_refl n)
  have HSi : Hid (simL n ts i W = W.set i (W.getD i 0 - sumTo n (wgtF n ts W i))) := by
    show _ = _
    unfold simL
    rw [wgtL_get _ _ _ _ hi]
  have HSg := hidP (wgtL_get n ts W i hi)
  obtain ⟨Z, hZ⟩ : ∃ Z, Z = W.getD i 0 := ⟨_, rfl⟩
  obtain ⟨V, hV⟩ : ∃ V, V = sumTo n (wgtF n ts W i) := ⟨_, rfl⟩
  rw [← hZ] at hbi HSi
  rw [← hV] at hsb HSi HSg
  have hsub : IntKind.i64.wrap (Z - V) = Z - V := wrap_in (by omega) (by omega)
  have HZ := hidP hZ
  have hi0 : (0 : Int) ≤ (i : Int) := by omega
  have hin : (i : Int) < (n : Int) := by omega
  clear hc h hx1 hT hb hW hrk hnil hbi hsb hZ hV
  obtain ⟨w1, hw1⟩ : ∃ w1, w1 = w.alloc (.cells #[.int .i64 n, .slice ta tn tc] 117) := ⟨_, rfl⟩
  rw [← hw1] at HC HX1 hs1 HCl
  have HS1 := hidP hs1
  clear hs1
  go_enter Tryz.func191, Tryz.ntmps191
  go_wp2_with fail
  rw [← hw1]
  clear hw1
  refine HCl.out.mono ?_
  rintro e w2 ⟨a1, c1, rfl, ho, hx⟩
  obtain ⟨g, rfl, _⟩ := ho.cell i hi
  have HX2 := hidP hx
  have HG1 : Hid (w1.heap.size ≤ g) := (ho.at_base g 0 rfl).1
  have HO2 := hidP (ho.base (B' := w.heap.size) HS1.out)
  clear ho hx HCl
  have HF : Hid (∀ w', Ext w2 w' → w'.cell? ⟨g, i, none⟩ = some (.int .i64 Z) ∧ w'.frozen? ⟨g, i, none⟩ = false) := by
    show ∀ w', _
    intro w' hx
    obtain ⟨g', e', _, _, q1, q2⟩ := (HO2.out.below hx).cell i hi
    simp only [Option.some.injEq, Addr.mk.injEq, and_true] at e'
    subst e'
    rw [← HZ.out] at q1
    exact ⟨q1, q2⟩
  have HSt : Hid (∀ w', Ext w2 w' → OwnI (w'.setCell ⟨g, i, none⟩ (.int .i64 (Z - V))) w.heap.size (some ⟨g, 0, none⟩) n c1 (simL n ts i W)) := by
    show ∀ w', _
    intro w' hx
    have h1 := (HO2.out.below hx).stored i (Z - V)
    rw [← HSi.out] at h1
    exact h1
  have hE : Ext w2 w2.drew := Ext.drew w2
  go_wp2
  (refine walkR_start (fun w' => Ext w2 w') 14 (by kernel_rfl) ?_; simp only [numbered, List.take_succ_cons, List.take_zero, Nat.zero_add, Nat.reduceAdd, List.length_cons, List.length_nil])
  (repeat (first | (refine walkR_still (v := ?_) rfl (by decide +kernel) rfl (fun _ _ _ h => h) hE ?_ ?_; rotate_left; (focus (intro w' hw'; obtain ⟨q1, q2⟩ := HF.out w' hw'; obtain ⟨f0, f1⟩ := HC.out w' (HX2.out.trans hw'); go_simp; all_goals (with_reducible rfl))); simp only [Act.put, List.setIfInBounds_toArray, List.set_cons_zero, List.set_cons_succ]) | (refine walkR_skip rfl (by decide +kernel) rfl (fun _ _ _ h => h) hE ?_; simp only [Act.put, List.setIfInBounds_toArray, List.set_cons_zero, List.set_cons_succ])))
  (refine walkR_later ?_; simp only [List.cons_append, List.nil_append])
  (refine walkR_still (v := ?_) rfl (by decide +kernel) rfl (fun _ _ _ h => h) hE ?_ ?_; rotate_left; (focus (intro w' hw'; skip; go_simp; all_goals (with_reducible rfl))); simp only [Act.put, List.setIfInBounds_toArray, List.set_cons_zero, List.set_cons_succ])
  (refine walkR_later ?_; simp only [List.cons_append, List.nil_append]); (refine walkR_later ?_; simp only [List.cons_append, List.nil_append]); (refine walkR_later ?_; simp only [List.cons_append, List.nil_append]); (refine walkR_later ?_; simp only [List.cons_append, List.nil_append])
  (refine walkR_onlyX rfl (by decide +kernel) rfl ?_; intro K hK; go_simp; refine (HWg.out _ ((HX1.out.trans HX2.out).trans hE)).mono ?_; rintro e w3 ⟨aw, rfl, how, hx3⟩; refine hK (Ext w3) (fun w' h => (hE.trans hx3).trans h) _ _ (Ext.refl w3) ?_; clear hK K; (try simp only [Act.put, List.setIfInBounds_toArray, List.set_cons_zero, List.set_cons_succ]))
  have hE3 := hE.trans hx3
  clear hx3 hE
  obtain ⟨gw, rfl, _, _, _, _⟩ := how.cell i hi
  have HQ : Hid (∀ w', Ext w3 w' → w'.cell? ⟨gw, i, none⟩ = some (.int .i64 V)) := by
    show ∀ w', _
    intro w' hx
    obtain ⟨g', e', _, _, q, _⟩ := (how.below hx).cell i hi
    simp only [Option.some.injEq, Addr.mk.injEq, and_true] at e'
    subst e'
    rwa [HSg.out] at q
  clear how
  have hR3 := Ext.refl w3
  (repeat (first | (refine walkR_still (v := ?_) rfl (by decide +kernel) rfl (fun _ _ _ h => h) hR3 ?_ ?_; rotate_left; (focus (intro w' hw'; obtain ⟨q1, q2⟩ := HF.out w' (hE3.trans hw'); have q3 := HQ.out w' hw'; go_simp; all_goals (with_reducible rfl))); simp only [Act.put, List.setIfInBounds_toArray, List.set_cons_zero, List.set_cons_succ]) | (refine walkR_skip rfl (by decide +kernel) rfl (fun _ _ _ h => h) hR3 ?_; simp only [Act.put, List.setIfInBounds_toArray, List.set_cons_zero, List.set_cons_succ])))
  obtain ⟨q1, q2⟩ := HF.out w3 hE3
  have HO3 := hidP (HSt.out w3 hE3)
  have HX3 : Hid (Ext w1 (w3.setCell ⟨g, i, none⟩ (.int .i64 (Z - V)))) := Ext.setNew (HX2.out.trans hE3) _ _ (by have := HG1.out; exact this) _
  clear hE3
  (refine walkR_tail (by rfl) (by kernel_rfl) ?_; simp only [List.drop_succ_cons, List.drop_zero])
  go_wp2
  go_ret
  exact ⟨_, _, rfl, HO3.out, HX1.out.trans HX3.out⟩

theorem sum_getD_bd {x : List Int} {M : Int} (hb : ∀ j, j < x.length → -M ≤ x.getD j 0 ∧ x.getD j 0 ≤ M) {k : Nat} (hk : k ≤ x.length) : -(k * M) ≤ sumTo k (fun i => x.getD i 0) ∧ sumTo k (fun i => x.getD i 0) ≤ k * M := sum_bd k fun i hi => hb i (by omega)
set_option maxHeartbeats 2000000 in
theorem l5Height_any (a : Option Addr) (n c : Nat) (W : List Int) (w : World) (h : IntsAt w a n W) (hn : n ≤ 1000) (hb : ∀ j, j < n → -100000000 ≤ W.getD j 0 ∧ W.getD j 0 ≤ 100000000) :
    Calls Tryz.prog 207 #[.slice a n c] w fun e w' => e = .returned (.int .i64 (hgtL W)) ∧ w = w' := by
  have hl := h.len
  have HE : Hid (hgtL W = sumTo n fun i => W.getD i 0) := by
    show _ = _
    unfold hgtL
    rw [hl]
  have HS := hidP (fun k (hk : k < n) => show IntKind.i64.wrap (sumTo k (fun i => W.getD i 0) + W.getD k 0) = sumTo (k + 1) (fun i => W.getD i 0) from by
    have h1 := sum_getD_bd (M := 100000000) (fun j hj => hb j (by omega)) (show k + 1 ≤ W.length by omega)
    have h2 : ((k + 1 : Nat) : Int) * 100000000 ≤ 1000 * 100000000 := Int.mul_le_mul_of_nonneg_right (by omega) (by omega)
    exact wrap_in (by simp only [sumTo] at h1 ⊢; omega) (by simp only [sumTo] at h1 ⊢; omega))
  have HI := hidP h
  clear hl h hb
  go_enter Tryz.func207, Tryz.ntmps207
  go_wp2
  go_loop [3, 4] (fun s i => ∃ k : Nat, k ≤ n ∧ s = .int .i64 (sumTo k fun i => W.getD i 0) ∧ i = .int .i64 k) (fun _ i => n - (intOf i).toNat)
  case atStart => exact ⟨0, Nat.zero_le _, rfl, rfl⟩
  case round =>
    obtain ⟨k, hk, rfl, rfl⟩ := hrel
    by_cases hlt : k < n
    · obtain ⟨b, o, rfl, q⟩ := HI.out.get k hlt
      have hs := HS.out k hlt
      obtain ⟨S, hS⟩ : ∃ S, S = sumTo k (fun i => W.getD i 0) := ⟨_, rfl⟩
      obtain ⟨S1, hS1⟩ : ∃ S, S = sumTo (k + 1) (fun i => W.getD i 0) := ⟨_, rfl⟩
      obtain ⟨Z, hZ⟩ : ∃ Z, Z = W.getD k 0 := ⟨_, rfl⟩
      rw [← hS, ← hS1, ← hZ] at hs
      rw [← hZ] at q
      rw [← hS]
      have HS1 := hidP hS1
      clear hS hS1 hZ
      go_wp2
      go_round
      case rel => exact ⟨k + 1, by omega, by rw [← HS1.out], by go_num⟩
      case measure => simp [intOf]; omega
    · obtain rfl : n = k := by omega
      rw [← HE.out]
      go_wp2
      go_ret
      exact ⟨rfl, rfl⟩
set_option maxHeartbeats 2000000 in
theorem l5Positive_any (a : Option Addr) (n c : Nat) (W : List Int) (w : World) (h : IntsAt w a n W) (hn : n ≤ 1000000) :
    Calls Tryz.prog 192 #[.slice a n c] w fun e w' => e = .returned (.bool (posL W)) ∧ w = w' := by
  have HL := hidP h.len
  have HI := hidP h
  clear h
  go_enter Tryz.func192, Tryz.ntmps192
  go_wp2
  go_loop [3] (fun i => ∃ k : Nat, k ≤ n ∧ i = .int .i64 k ∧ Hid (∀ j, j < k → 0 ≤ W.getD j 0)) (fun i => n - (intOf i).toNat)
  case atStart => exact ⟨0, Nat.zero_le _, rfl, fun j h => by omega⟩
  case round =>
    obtain ⟨k, hk, rfl, HJ⟩ := hrel
    by_cases hlt : k < n
    · obtain ⟨b, o, rfl, q⟩ := HI.out.get k hlt
      obtain ⟨Z, hZ⟩ : ∃ Z, Z = W.getD k 0 := ⟨_, rfl⟩
      rw [← hZ] at q
      have HZ := hidP hZ
      clear hZ
      by_cases hz : Z < 0
      · have HF : Hid (posL W = false) := by
          show _ = _
          have hkl : k < W.length := by have := HL.out; omega
          unfold posL
          rw [List.all_eq_false]
          refine ⟨W.getD k 0, ?_, by have := HZ.out; rw [decide_eq_true_eq]; omega⟩
          rw [List.getD_eq_getElem?_getD, List.getElem?_eq_getElem hkl]
          exact List.getElem_mem hkl
        go_wp2
        go_ret
        exact ⟨ret_bool HF.out.symm, rfl⟩
      · have hz' : 0 ≤ Z := by omega
        clear hz
        have HJ' : Hid (∀ j, j < k + 1 → 0 ≤ W.getD j 0) := by
          intro j hj
          rcases Nat.lt_succ_iff_lt_or_eq.1 hj with h3 | rfl
          · exact HJ.out j h3
          · rw [← HZ.out]; exact hz'
        go_wp2
        go_round
        case rel => exact ⟨k + 1, by omega, by go_num, HJ'⟩
        case measure => simp [intOf]; omega
    · have HF : Hid (posL W = true) := by
        show _ = _
        unfold posL
        rw [List.all_eq_true]
        intro x hx
        obtain ⟨j, hj, rfl⟩ := List.mem_iff_getElem.1 hx
        have := HJ.out j (by have := HL.out; omega)
        rw [List.getD_eq_getElem?_getD, List.getElem?_eq_getElem hj] at this
        simpa using this
      go_wp2
      go_ret
      exact ⟨ret_bool HF.out.symm, rfl⟩
end Go.Proofs.YtenlhfimdpcaoaaGreat

namespace Go.Proofs.YtenlhfimdpcaoaaGreat
open Go.RowKit

variable {α : Type}
/-- m elements that lie one behind the other from a place on, each with its numbers in memory of its own -/
structure PartK (K : Knd α) (w : World) (B g o m : Nat) (hs : List Hdr) (xs : List α) : Prop where
  hl : hs.length = m
  xl : xs.length = m
  cells : ∀ (j : Nat) u, (K.all hs xs)[j]? = some u → w.cell? ((⟨g, o, none⟩ : Addr).add j) = some u
  each : ∀ i, i < m → OwnI w B (hs.getD i (none, 0)).1 (K.ints (xs.getD i K.dft)).length (hs.getD i (none, 0)).2 (K.ints (xs.getD i K.dft))
  apart : ∀ i j, i < m → j < m → i ≠ j → Apart (hs.getD i (none, 0)).1 (hs.getD j (none, 0)).1
theorem OwnK.part {K : Knd α} {w : World} {B U g n c : Nat} {hs : List Hdr} {xs : List α} (h : OwnK K w B U (some ⟨g, 0, none⟩) n c hs xs) (i : Nat) (hi : i ≤ n) : PartK K w B g (i * K.size) (n - i) (hs.drop i) (xs.drop i) := by
  have hhl := h.hl
  have hxl := h.xl
  have hall := K.all_length hs xs (hhl.trans hxl.symm)
  have hsplit : K.all hs xs = K.all (hs.take i) (xs.take i) ++ K.all (hs.drop i) (xs.drop i) := by
    rw [← K.all_append _ _ _ _ (by simp; omega), List.take_append_drop, List.take_append_drop]
  have hlen : (K.all (hs.take i) (xs.take i)).length = i * K.size := by
    rw [K.all_length _ _ (by simp; omega), List.length_take, hxl, Nat.min_eq_left hi]
  refine ⟨by simp; omega, by simp; omega, fun j u hu => ?_, fun q hq => ?_, fun q r hq hr hqr => ?_⟩
  · have h1 : (K.all hs xs)[i * K.size + j]? = some u := by
      rw [hsplit, List.getElem?_append_right (by omega), hlen, Nat.add_sub_cancel_left]
      exact hu
    have h2 : i * K.size + j < n * K.size := by
      have := (List.getElem?_eq_some_iff.1 h1).1
      rwa [hall, hxl] at this
    rw [add_none, h.row.cellAt _ h2]
    exact h1
  · have := h.each (i + q) (by omega)
    simpa [List.getD_eq_getElem?_getD, List.getElem?_drop] using this
  · have := h.apart (i + q) (i + r) (by omega) (by omega) (by omega)
    simpa [List.getD_eq_getElem?_getD, List.getElem?_drop] using this
theorem OwnK.cat_part {K : Knd α} {w w' : World} {B U : Nat} {a : Option Addr} {n c g o m : Nat} {hs hs2 : List Hdr} {xs xs2 : List α} (hown : OwnK K w B U a n c hs xs) (h2 : PartK K w B g o m hs2 xs2) {v' : Value}
    (hr : w'.ownsRow B K.E K.size v' (n + m) (K.all hs xs ++ K.all hs2 xs2)) (hg : w.grownBy w' (Value.slice a n c).ownBlock)
    (hap : ∀ i j, i < n → j < m → Apart (hs.getD i (none, 0)).1 (hs2.getD j (none, 0)).1) (hsl : ∃ a' c', v' = .slice a' (n + m) c') :
    ∃ a' c', v' = .slice a' (n + m) c' ∧ OwnK K w' B w'.heap.size a' (n + m) c' (hs ++ hs2) (xs ++ xs2) := by
  rw [← K.all_append hs hs2 xs xs2 (hown.hl.trans hown.xl.symm)] at hr
  obtain ⟨a', c', rfl⟩ := hsl
  refine ⟨a', c', rfl, ?_⟩
  have hxl := hown.xl
  have hhl := hown.hl
  have hxl2 := h2.xl
  have hhl2 := h2.hl
  have hne : ∀ {p : Option Addr} {k q : Nat} {ys : List Int}, OwnI w B p k q ys → ∀ b o, p = some ⟨b, o, none⟩ → some b ≠ (Value.slice a n c).ownBlock := fun hk b o e => by
    rcases hown.form with ⟨rfl, _⟩ | ⟨g', cur, rfl, _⟩
    · simp [Value.ownBlock]
    · have := hown.off_ints hk g' 0 b o rfl e
      simp only [Value.ownBlock, ne_eq, Option.some.injEq]
      omega
  have hev : ∀ q, q < n + m → OwnI w' B ((hs ++ hs2).getD q (none, 0)).1 (K.ints ((xs ++ xs2).getD q K.dft)).length ((hs ++ hs2).getD q (none, 0)).2 (K.ints ((xs ++ xs2).getD q K.dft)) := fun q hq => by
    by_cases h3 : q < n
    · rw [getD_left _ _ _ _ (by omega), getD_left _ _ _ _ (by omega)]
      exact (hown.each q h3).grown hg fun b o e => hne (hown.each q h3) b o e
    · rw [getD_right _ _ _ _ (by omega), getD_right _ _ _ _ (by omega), hhl, hxl]
      exact (h2.each _ (by omega)).grown hg fun b o e => hne (h2.each _ (by omega)) b o e
  refine ⟨hr, by simp [hhl, hhl2], by simp [hxl, hxl2], hev, fun q r hq hr' hqr => ?_, fun q hq b o e => ((hev q hq).at_base b o e).2, fun b o e => ?_⟩
  · by_cases h3 : q < n
    · rw [getD_left hs _ q _ (by omega)]
      by_cases h4 : r < n
      · rw [getD_left hs _ r _ (by omega)]; exact hown.apart q r h3 h4 hqr
      · rw [getD_right hs _ r _ (by omega)]; exact hap q _ h3 (by omega)
    · rw [getD_right hs _ q _ (by omega)]
      by_cases h4 : r < n
      · rw [getD_left hs _ r _ (by omega)]; exact (hap r _ h4 (by omega)).symm
      · rw [getD_right hs _ r _ (by omega)]; exact h2.apart _ _ (by omega) (by omega) (by omega)
  · rcases hr.2 with ⟨h5, h0⟩ | ⟨g', cap, cur, he, _, hg', _⟩
    · simp only [Value.slice.injEq] at h5
      rw [h5.1] at e
      cases e
    · simp only [Value.slice.injEq] at he
      rw [e] at he
      simp only [Option.some.injEq, Addr.mk.injEq, and_true] at he
      obtain ⟨⟨rfl, _⟩, _⟩ := he
      exact (Array.getElem?_eq_some_iff.1 hg').1

/-- append of a part's elements to an owned slice, at a single operation -/
theorem wp_append_part {o : Oper} {av : Act} {Kk : Act → World → Prop} {Q : Exit → Act → World → Prop} {w : World} (K : Knd α) (T : TypeId) (z : Value) (bytes : Nat) (s x : Operand)
    (ho : o.op = .call { callee := .builtin .append, args := #[s, x], argTypes := #[T, T] }) (hT : Tryz.prog.underlying T = some (.slice K.E)) (hinfo : (Tryz.prog.info? K.E).map (fun i => (i.zero, i.size, i.bytes)) = some (some z, K.size, bytes))
    (hz : z.cells.size = K.size) (hbp : bytes ≤ 1000)
    (B U : Nat) (g0 n c : Nat) (hs hs2 : List Hdr) (xs xs2 : List α) (hsv : av.eval s = .slice (some ⟨g0, 0, none⟩) n c) (hown : OwnK K w B U (some ⟨g0, 0, none⟩) n c hs xs)
    (g o2 m c2 : Nat) (hx : av.eval x = .slice (some ⟨g, o2, none⟩) m c2) (h2 : PartK K w B g o2 m hs2 xs2)
    (hap : ∀ i j, i < n → j < m → Apart (hs.getD i (none, 0)).1 (hs2.getD j (none, 0)).1) (hsm : n + m ≤ 1000000000) (hB : B ≤ w.heap.size)
    (h : ∀ g' c' w', OwnK K w' B w'.heap.size (some ⟨g', 0, none⟩) (n + m) c' (hs ++ hs2) (xs ++ xs2) → w.grownBy w' (some g0) → (g' = g0 ∨ w.heap.size ≤ g') → Kk (av.put o.dst (.slice (some ⟨g', 0, none⟩) (n + m) c')) w') : o.wp Tryz.prog av w Kk Q := by
  obtain ⟨i, hi, hz0, hz1, hz2⟩ := info_parts hinfo
  have hl2 := K.all_length hs2 xs2 (h2.hl.trans h2.xl.symm)
  rw [h2.xl] at hl2
  have hcells := h2.cells
  obtain ⟨gb, cur, eb, _⟩ : ∃ gb cur, (some (⟨g0, 0, none⟩ : Addr)) = some ⟨gb, 0, none⟩ ∧ w.heap[gb]? = some (.cells cur K.E (0, 0)) := by
    rcases hown.form with ⟨e, _⟩ | ⟨gb, cur, e, _, _, h3, _⟩
    · cases e
    · exact ⟨gb, cur, e, h3⟩
  by_cases hroom : n + m ≤ c
  · obtain ⟨w', hrun, hr, hg⟩ := run_append_fits (P := Tryz.prog) w B T o.type K.E i K.size hT hi hz1 g0 n c (K.all hs xs) hown.row ⟨g, o2, none⟩ m c2 (K.all hs2 xs2) hl2 hcells (K.all_one _ _) hroom
    obtain ⟨a', c', e, hk⟩ := hown.cat_part h2 hr hg hap ⟨_, _, rfl⟩
    simp only [Value.slice.injEq] at e
    obtain ⟨rfl, _, rfl⟩ := e
    unfold Oper.wp
    simp only [execOp, ho, resolve, invoke, builtin, Sem.run_bind, Sem.run_pure, Result.andThen_ok, List.map_toArray, List.map_cons, List.map_nil, hsv, hx, hrun]
    exact h _ _ w' hk hg (.inl rfl)
  · have hlx := K.all_length hs xs (hown.hl.trans hown.xl.symm)
    rw [hown.xl] at hlx
    obtain ⟨v', w', hrun, hr, hg0⟩ := run_append_arg_grows (P := Tryz.prog) w T o.type K.E i z K.size bytes hT hi hz0 hz1 hz2 hz K.pos ⟨g0, 0, none⟩ n c (K.all hs xs) hlx (by
      intro j u hu
      have hj : j < n * K.size := by have := (List.getElem?_eq_some_iff.1 hu).1; rwa [hlx] at this
      rw [add_none, Nat.zero_add, hown.row.cellAt j hj]
      exact hu) ⟨g, o2, none⟩ m c2 (K.all hs2 xs2) hl2 hcells (by omega) (by unfold maxLen; omega)
      (by calc (n + m) * bytes ≤ 1000000000 * 1000 := Nat.mul_le_mul (by omega) hbp
            _ ≤ _ := by omega)
    have hg : w.grownBy w' (Value.slice (some ⟨g0, 0, none⟩) n c).ownBlock := ⟨hg0.os, hg0.tape, hg0.output, hg0.size, fun k hk _ => hg0.block k hk (by simp)⟩
    have hr2 : w'.ownsRow B K.E K.size v' (n + m) (K.all hs xs ++ K.all hs2 xs2) := by
      refine ⟨hr.1, ?_⟩
      rcases hr.2 with h2 | ⟨g', cap, cur, he, hB', r⟩
      · exact .inl h2
      · exact .inr ⟨g', cap, cur, he, Nat.le_trans hB hB', r⟩
    obtain ⟨g', cap, he, hB'⟩ : ∃ g' cap, v' = .slice (some ⟨g', 0, none⟩) (n + m) cap ∧ w.heap.size ≤ g' := by
      rcases hr.2 with ⟨e5, h0⟩ | ⟨g', cap, cur, he, hB', _⟩
      · omega
      · exact ⟨g', cap, he, hB'⟩
    subst he
    obtain ⟨a', c', e, hk⟩ := hown.cat_part h2 hr2 hg hap ⟨_, _, rfl⟩
    simp only [Value.slice.injEq, true_and] at e
    obtain ⟨rfl, rfl⟩ := e
    unfold Oper.wp
    simp only [execOp, ho, resolve, invoke, builtin, Sem.run_bind, Sem.run_pure, Result.andThen_ok, List.map_toArray, List.map_cons, List.map_nil, hsv, hx, hrun]
    exact h g' _ w' hk hg (.inr hB')
theorem wpList_append_part {ops : Array Oper} {rest : List Oper} {o : Oper} {av : Act} {Q : Exit → Act → World → Prop} {w : World} (K : Knd α) (T : TypeId) (z : Value) (bytes : Nat) (hgd : o.guard = none) (s x : Operand)
    (ho : o.op = .call { callee := .builtin .append, args := #[s, x], argTypes := #[T, T] }) (hT : Tryz.prog.underlying T = some (.slice K.E)) (hinfo : (Tryz.prog.info? K.E).map (fun i => (i.zero, i.size, i.bytes)) = some (some z, K.size, bytes))
    (hz : z.cells.size = K.size) (hbp : bytes ≤ 1000)
    (B U : Nat) (g0 n c : Nat) (hs hs2 : List Hdr) (xs xs2 : List α) (hsv : av.eval s = .slice (some ⟨g0, 0, none⟩) n c) (hown : OwnK K w B U (some ⟨g0, 0, none⟩) n c hs xs)
    (g o2 m c2 : Nat) (hx : av.eval x = .slice (some ⟨g, o2, none⟩) m c2) (h2 : PartK K w B g o2 m hs2 xs2)
    (hap : ∀ i j, i < n → j < m → Apart (hs.getD i (none, 0)).1 (hs2.getD j (none, 0)).1) (hsm : n + m ≤ 1000000000) (hB : B ≤ w.heap.size)
    (h : ∀ g' c' w', OwnK K w' B w'.heap.size (some ⟨g', 0, none⟩) (n + m) c' (hs ++ hs2) (xs ++ xs2) → w.grownBy w' (some g0) → (g' = g0 ∨ w.heap.size ≤ g') → wpList Tryz.prog ops Q rest (av.put o.dst (.slice (some ⟨g', 0, none⟩) (n + m) c')) w') : wpList Tryz.prog ops Q (o :: rest) av w :=
  wpList_plain hgd fun _ hK' => wp_append_part K T z bytes s x ho hT hinfo hz hbp B U g0 n c hs hs2 xs xs2 hsv hown g o2 m c2 hx h2 hap hsm hB fun g' c' w' r1 r2 r3 => hK' _ _ (h g' c' w' r1 r2 r3)
theorem OwnK.front {K : Knd α} {w : World} {B U g n c : Nat} {hs : List Hdr} {xs : List α} (h : OwnK K w B U (some ⟨g, 0, none⟩) n c hs xs) (i : Nat) (hi : i ≤ n) : PartK K w B g 0 i (hs.take i) (xs.take i) := by
  have := (h.take i hi).part 0 (Nat.zero_le _)
  simpa using this
theorem PartK.single {K : Knd α} {w : World} {B g : Nat} {h1 : Hdr} {x1 : α} (hc : ∀ j, j < K.size → w.cell? ⟨g, j, none⟩ = (K.cells h1.1 h1.2 x1)[j]?) (hi : OwnI w B h1.1 (K.ints x1).length h1.2 (K.ints x1)) : PartK K w B g 0 1 [h1] [x1] := by
  refine ⟨rfl, rfl, fun j u hu => ?_, fun i hi' => ?_, fun i j hi' hj' hne => by omega⟩
  · have e : K.all [h1] [x1] = K.cells h1.1 h1.2 x1 := by simp [Knd.all]
    rw [e] at hu
    have hj : j < K.size := by have := (List.getElem?_eq_some_iff.1 hu).1; rwa [K.len] at this
    rw [add_none, Nat.zero_add, hc j hj]
    exact hu
  · obtain rfl : i = 0 := by omega
    exact hi
/-- an owned slice stays where another block is written, if that one is none of its own -/
theorem OwnK.past {K : Knd α} {w w' : World} {B U b n c : Nat} {a : Option Addr} {hs : List Hdr} {xs : List α} (h : OwnK K w B U a n c hs xs) (hg : w.grownBy w' (some b)) (ha : ∀ g o, a = some ⟨g, o, none⟩ → g ≠ b) (hb : U ≤ b) : OwnK K w' B U a n c hs xs :=
  h.kept hg (fun g o e e2 => ha g o e (Option.some.inj e2)) fun i hi g o e e2 => by
    have := h.lt i hi g o e
    have := Option.some.inj e2
    omega
theorem PartK.moved {K : Knd α} {w : World} {B g o o' m : Nat} {hs : List Hdr} {xs : List α} (h : PartK K w B g o m hs xs) (hm : o' = o ∨ m = 0) : PartK K w B g o' m hs xs := by
  rcases hm with rfl | rfl
  · exact h
  · obtain rfl : hs = [] := List.length_eq_zero_iff.1 h.hl
    obtain rfl : xs = [] := List.length_eq_zero_iff.1 h.xl
    exact ⟨rfl, rfl, fun j u hu => by simp [Knd.all] at hu, fun i hi => by omega, fun i j hi => by omega⟩
end Go.Proofs.YtenlhfimdpcaoaaGreat

namespace Go.Proofs.YtenlhfimdpcaoaaGreat
open Go.RowKit

abbrev HRow := (Hdr × List Int) × List Int
def hdrK : Knd HRow where
  E := 24
  size := 1
  dft := (((none, 0), []), [])
  ints := fun x => x.2
  put := fun x ys => (x.1, ys)
  cells := fun _ _ x => [.slice x.1.1.1 x.1.2.length x.1.1.2]
  len := fun _ _ _ => rfl
  pos := by decide
  ne := by decide
  put_ints := fun _ _ => rfl
  put_cells := fun _ _ _ _ _ => rfl
  one := fun a c x u hu => by simp only [List.mem_singleton] at hu; subst hu; rfl
def nilH (n : Nat) : List Hdr := List.replicate n (none, 0)
theorem nilH_snoc (n : Nat) : nilH n ++ [(none, 0)] = nilH (n + 1) := by simp [nilH, List.replicate_succ']
theorem nilH_app (n m : Nat) : nilH n ++ nilH m = nilH (n + m) := by simp [nilH, List.replicate_append_replicate]
theorem nilH_get (n i : Nat) : (nilH n).getD i (none, 0) = (none, 0) := by
  simp only [nilH, List.getD_eq_getElem?_getD, List.getElem?_replicate]
  split <;> rfl
def rowOf (x : HRow) : List Int := x.1.2
def hrow (a : Option Addr) (c : Nat) (xs : List Int) : HRow := (((a, c), xs), [])
/-- a row of its own -/
def HOk (w : World) (B : Nat) (x : HRow) : Prop := x.2 = [] ∧ OwnI w B x.1.1.1 x.1.2.length x.1.1.2 x.1.2
structure HRows (w : World) (B : Nat) (a : Option Addr) (n c : Nat) (xs : List HRow) : Prop where
  own : OwnK hdrK w B w.heap.size a n c (nilH n) xs
  rd : ∀ x ∈ xs, HOk w B x
theorem HOk.below {w w' : World} {B : Nat} {x : HRow} (h : HOk w B x) (hx : Ext w w') : HOk w' B x := ⟨h.1, h.2.below hx⟩
theorem HRows.below {w w' : World} {B : Nat} {a : Option Addr} {n c : Nat} {xs : List HRow} (h : HRows w B a n c xs) (hx : Ext w w') : HRows w' B a n c xs :=
  ⟨(h.own.below hx).weaken (Nat.le_refl _) hx.size, fun x hx' => (h.rd x hx').below hx⟩
theorem HRows.len {w : World} {B : Nat} {a : Option Addr} {n c : Nat} {xs : List HRow} (h : HRows w B a n c xs) : xs.length = n := h.own.xl
theorem HRows.at_ {w : World} {B : Nat} {a : Option Addr} {n c : Nat} {xs : List HRow} (h : HRows w B a n c xs) (i : Nat) (hi : i < n) :
    ∃ g ai ci, a = some ⟨g, 0, none⟩ ∧ (xs.getD i hdrK.dft).1.1 = (ai, ci) ∧ w.cell? ⟨g, i, none⟩ = some (.slice ai (rowOf (xs.getD i hdrK.dft)).length ci) ∧ OwnI w B ai (rowOf (xs.getD i hdrK.dft)).length ci (rowOf (xs.getD i hdrK.dft)) := by
  obtain ⟨g, rfl, hc, _⟩ := h.own.cell i 0 hi (by decide)
  have hl := h.len
  rw [show i * hdrK.size + 0 = i from by show i * 1 + 0 = i; omega] at hc
  have hm : xs.getD i hdrK.dft ∈ xs := by
    rw [List.getD_eq_getElem?_getD, List.getElem?_eq_getElem (by omega)]
    exact List.getElem_mem _
  exact ⟨g, _, _, rfl, rfl, hc, (h.rd _ hm).2⟩
theorem rowOf_get (xs : List HRow) (i : Nat) : (xs.map rowOf).getD i [] = rowOf (xs.getD i hdrK.dft) := by
  simp only [List.getD_eq_getElem?_getD, List.getElem?_map]
  cases xs[i]? <;> rfl
theorem HRows.rowsI {w : World} {B : Nat} {a : Option Addr} {n c : Nat} {xs : List HRow} (h : HRows w B a n c xs) : RowsI w a n (xs.map rowOf) := by
  refine ⟨by rw [List.length_map]; exact h.len, fun i hi => ?_⟩
  obtain ⟨g, ai, ci, rfl, _, hc, ho⟩ := h.at_ i hi
  rw [rowOf_get]
  exact ⟨g, 0, ai, ci, rfl, by rw [Nat.zero_add]; exact hc, ho.ints, ho.nil_cap⟩
theorem HRows.base {w : World} {B B' : Nat} {a : Option Addr} {n c : Nat} {xs : List HRow} (h : HRows w B a n c xs) (hB : B' ≤ B) : HRows w B' a n c xs :=
  ⟨h.own.weaken hB (Nat.le_refl _), fun x hx => ⟨(h.rd x hx).1, (h.rd x hx).2.base hB⟩⟩
/-- the rows' blocks are none of the slice's -/
theorem HRows.apart {w : World} {B B' : Nat} {a a' : Option Addr} {n c n' c' : Nat} {xs : List HRow} {ys : List Int} (h : HRows w B a n c xs) (k : OwnI w B' a' n' c' ys) : ∀ b o, a' = some ⟨b, o, none⟩ → some b ≠ (Value.slice a n c).ownBlock := by
  intro b o e e2
  rcases h.own.form with ⟨rfl, _⟩ | ⟨g, cur, rfl, _, _, hg, _⟩
  · simp [Value.ownBlock] at e2
  · obtain ⟨cur', hc⟩ := k.block e
    simp only [Value.ownBlock, Option.some.injEq] at e2
    subst e2
    rw [hg] at hc
    simp only [Option.some.injEq, Obj.cells.injEq] at hc
    exact hdrK.ne hc.2.1
theorem wpList_append_row {ops : Array Oper} {rest : List Oper} {o : Oper} {av : Act} {Q : Exit → Act → World → Prop} {w : World} (T : TypeId) (hgd : o.guard = none) (s x : Operand)
    (ho : o.op = .call { callee := .builtin .append, args := #[s, x], argTypes := #[T, T] }) (hT : Tryz.prog.underlying T = some (.slice 24))
    (B : Nat) (a : Option Addr) (n c : Nat) (xs : List HRow) (hsv : av.eval s = .slice a n c) (hown : HRows w B a n c xs)
    (g m : Nat) (a1 : Option Addr) (n1 c1 : Nat) (ys : List Int) (hx : av.eval x = .slice (some ⟨g, 0, none⟩) 1 m) (hcl : w.cell? ⟨g, 0, none⟩ = some (.slice a1 n1 c1))
    (hi1 : OwnI w B a1 n1 c1 ys) (hsm : n ≤ 1000000000) (hB : B ≤ w.heap.size)
    (h : ∀ a' c' w', HRows w' B a' (n + 1) c' (xs ++ [hrow a1 c1 ys]) → w.grownBy w' (Value.slice a n c).ownBlock → OrNew w.heap.size a a' → wpList Tryz.prog ops Q rest (av.put o.dst (.slice a' (n + 1) c')) w') : wpList Tryz.prog ops Q (o :: rest) av w := by
  obtain rfl : ys.length = n1 := hi1.len
  refine wpList_append_elem2 hdrK T (.slice none 0 0) 24 hgd s x ho hT Tryz.info24 rfl (by omega) B _ a n c (nilH n) xs hsv hown.own g m (none, 0) (hrow a1 c1 ys) hx (fun j hj => by
    obtain rfl : j = 0 := by have : j < 1 := hj; omega
    exact hcl) (OwnI.nil w B) (fun i _ b o b' o' _ e => by cases e) (fun b o b' o' _ e => by cases e) hsm hB ?_
  intro a' c' w' ho' hg hn
  rw [nilH_snoc] at ho'
  refine h a' c' w' ⟨ho', fun z hz => ?_⟩ hg hn
  rcases List.mem_append.1 hz with hz | hz
  · exact ⟨(hown.rd z hz).1, (hown.rd z hz).2.grown hg fun b o e => hown.apart (hown.rd z hz).2 b o e⟩
  · simp only [List.mem_singleton] at hz
    subst hz
    exact ⟨rfl, hi1.grown hg fun b o e => hown.apart hi1 b o e⟩
theorem nilH_apart (n m i j : Nat) : Apart ((nilH n).getD i (none, 0)).1 ((nilH m).getD j (none, 0)).1 := by
  rw [nilH_get, nilH_get]
  intro b o b' o' e
  cases e
theorem HRows.front {w : World} {B g n c : Nat} {xs : List HRow} (h : HRows w B (some ⟨g, 0, none⟩) n c xs) (i : Nat) (hi : i ≤ n) : PartK hdrK w B g 0 i (nilH i) (xs.take i) := by
  have := h.own.front i hi
  rwa [show (nilH n).take i = nilH i by simp [nilH, List.take_replicate, Nat.min_eq_left hi]] at this
theorem HRows.part {w : World} {B g n c : Nat} {xs : List HRow} (h : HRows w B (some ⟨g, 0, none⟩) n c xs) (i : Nat) (hi : i ≤ n) : PartK hdrK w B g (i * 1) (n - i) (nilH (n - i)) (xs.drop i) := by
  have := h.own.part i hi
  rwa [show (nilH n).drop i = nilH (n - i) by simp [nilH]] at this
/-- one element in a new block -/
theorem hrow_single {w : World} {B g : Nat} {a1 : Option Addr} {n1 c1 : Nat} {ys : List Int} (hl : ys.length = n1) (hc : w.cell? ⟨g, 0, none⟩ = some (.slice a1 n1 c1)) : PartK hdrK w B g 0 1 (nilH 1) [hrow a1 c1 ys] := by
  subst hl
  exact PartK.single (h1 := (none, 0)) (x1 := hrow a1 c1 ys) (fun j hj => by
    obtain rfl : j = 0 := by have : j < 1 := hj; omega
    exact hc) (OwnI.nil w B)
theorem HRows.below_grown {w w' w0 : World} {B : Nat} {a : Option Addr} {n c : Nat} {xs : List HRow} (h : HRows w B a n c xs) (hg : w.grownBy w' (Value.slice a n c).ownBlock) (hb : Below B w0 w) (hB : B ≤ w.heap.size) : Below B w0 w' := h.own.below_grown hg hb hB
theorem HRows.base_ge {w : World} {B g n c : Nat} {xs : List HRow} (h : HRows w B (some ⟨g, 0, none⟩) n c xs) : B ≤ g ∧ g < w.heap.size := h.own.base_lt g 0 rfl
/-- rows of another slice are kept by what changes this one -/
theorem HOk.grown {w w' : World} {B B' : Nat} {a : Option Addr} {n c : Nat} {xs : List HRow} {x : HRow} (k : HOk w B' x) (h : HRows w B a n c xs) (hg : w.grownBy w' (Value.slice a n c).ownBlock) : HOk w' B' x :=
  ⟨k.1, k.2.grown hg fun b o e => h.apart k.2 b o e⟩
theorem HRows.cat {w w' : World} {B : Nat} {a a' : Option Addr} {n c n2 c' : Nat} {xs ys : List HRow} (h : HRows w B a n c xs) (hg : w.grownBy w' (Value.slice a n c).ownBlock) (hy : ∀ y ∈ ys, HOk w B y)
    (ho : OwnK hdrK w' B w'.heap.size a' n2 c' (nilH n2) (xs ++ ys)) : HRows w' B a' n2 c' (xs ++ ys) :=
  ⟨ho, fun z hz => by
    rcases List.mem_append.1 hz with hz | hz
    · exact (h.rd z hz).grown h hg
    · exact (hy z hz).grown h hg⟩
theorem wp_append_rows {o : Oper} {av : Act} {Kk : Act → World → Prop} {Q : Exit → Act → World → Prop} {w : World} (s x : Operand)
    (ho : o.op = .call { callee := .builtin .append, args := #[s, x], argTypes := #[74, 74] })
    (B : Nat) (g0 n c : Nat) (xs ys : List HRow) (hsv : av.eval s = .slice (some ⟨g0, 0, none⟩) n c) (hown : HRows w B (some ⟨g0, 0, none⟩) n c xs)
    (g o2 m c2 : Nat) (hx : av.eval x = .slice (some ⟨g, o2, none⟩) m c2) (h2 : PartK hdrK w B g o2 m (nilH m) ys) (hy : ∀ y ∈ ys, HOk w B y) (hsm : n + m ≤ 1000000000) (hB : B ≤ w.heap.size)
    (h : ∀ g' c' w', HRows w' B (some ⟨g', 0, none⟩) (n + m) c' (xs ++ ys) → w.grownBy w' (some g0) → (g' = g0 ∨ w.heap.size ≤ g') → Kk (av.put o.dst (.slice (some ⟨g', 0, none⟩) (n + m) c')) w') : o.wp Tryz.prog av w Kk Q :=
  wp_append_part hdrK 74 (.slice none 0 0) 24 s x ho Tryz.underlying74 Tryz.info24 rfl (by omega) B _ g0 n c (nilH n) (nilH m) xs ys hsv hown.own g o2 m c2 hx h2 (fun i j _ _ => nilH_apart n m i j) hsm hB
    fun g' c' w' r1 r2 r3 => h g' c' w' (hown.cat r2 hy (by rw [nilH_app] at r1; exact r1)) r2 r3
theorem wpList_append_rows {ops : Array Oper} {rest : List Oper} {o : Oper} {av : Act} {Q : Exit → Act → World → Prop} {w : World} (hgd : o.guard = none) (s x : Operand)
    (ho : o.op = .call { callee := .builtin .append, args := #[s, x], argTypes := #[74, 74] })
    (B : Nat) (g0 n c : Nat) (xs ys : List HRow) (hsv : av.eval s = .slice (some ⟨g0, 0, none⟩) n c) (hown : HRows w B (some ⟨g0, 0, none⟩) n c xs)
    (g o2 m c2 : Nat) (hx : av.eval x = .slice (some ⟨g, o2, none⟩) m c2) (h2 : PartK hdrK w B g o2 m (nilH m) ys) (hy : ∀ y ∈ ys, HOk w B y) (hsm : n + m ≤ 1000000000) (hB : B ≤ w.heap.size)
    (h : ∀ g' c' w', HRows w' B (some ⟨g', 0, none⟩) (n + m) c' (xs ++ ys) → w.grownBy w' (some g0) → (g' = g0 ∨ w.heap.size ≤ g') → wpList Tryz.prog ops Q rest (av.put o.dst (.slice (some ⟨g', 0, none⟩) (n + m) c')) w') : wpList Tryz.prog ops Q (o :: rest) av w :=
  wpList_plain hgd fun _ hK' => wp_append_rows s x ho B g0 n c xs ys hsv hown g o2 m c2 hx h2 hy hsm hB fun g' c' w' r1 r2 r3 => hK' _ _ (h g' c' w' r1 r2 r3)
theorem HRows.made0 (w : World) : HRows (w.alloc (.cells #[] 24)) w.heap.size (some ⟨w.heap.size, 0, none⟩) 0 0 [] := ⟨OwnK.made0 hdrK w, fun x hx => by simp at hx⟩
end Go.Proofs.YtenlhfimdpcaoaaGreat

namespace Go.Proofs.YtenlhfimdpcaoaaGreat
open Go.RowKit

set_option maxHeartbeats 2000000 in
theorem l5Place_any (a : Option Addr) (n c : Nat) (rows : List (List Int)) (ax : Option Addr) (nx cx : Nat) (X : List Int) (w : World) (h : RowsI w a n rows) (hx : IntsAt w ax nx X) (hn : n ≤ 1000000) (hnx : nx ≤ 1000000) (hrl : ∀ i, i < n → (rows.getD i []).length ≤ 1000000) :
    Calls Tryz.prog 163 #[.slice a n c, .slice ax nx cx] w fun e w' => ∃ v : Int, e = .returned (.int .i64 v) ∧ decide (v < 0) = !rows.contains X ∧ Ext w w' := by
  have HR := hidP h
  have HX := hidP hx
  have HL := hidP hrl
  have HLen := hidP h.len
  clear h hx hrl
  go_enter Tryz.func163, Tryz.ntmps163
  go_wp2
  go_loopw [5] (fun i wr => ∃ k : Nat, k ≤ n ∧ i = .int .i64 k ∧ Hid (∀ j, j < k → rows.getD j [] ≠ X) ∧ Hid (Ext w wr)) (fun i _ => n - (intOf i).toNat)
  case atStart => exact ⟨0, Nat.zero_le _, rfl, fun j h => by omega, Ext.refl _⟩
  case round =>
    obtain ⟨k, hk, rfl, HJ, HE⟩ := hrel
    by_cases hlt : k < n
    · obtain ⟨b, o, ar, cr, rfl, hc, hr, _⟩ := (HR.out.below HE.out).get k hlt
      have hl := HL.out k hlt
      obtain ⟨V, hV⟩ : ∃ V, V = rows.getD k [] := ⟨_, rfl⟩
      rw [← hV] at hc hr hl
      have HV := hidP hV
      have HS := hidP (l1Same_any ar ax V.length nx cr cx V X wr hr (HX.out.below HE.out) (by omega) (by omega))
      clear hV hr
      cases hb : (V == X)
      · rw [hb] at HS
        have HJ' : Hid (∀ j, j < k + 1 → rows.getD j [] ≠ X) := by
          intro j hj
          rcases Nat.lt_succ_iff_lt_or_eq.1 hj with h3 | rfl
          · exact HJ.out j h3
          · rw [← HV.out]; simpa using hb
        clear hb
        go_wp2_with fail
        refine HS.out.mono ?_
        rintro e w2 ⟨rfl, q, rfl⟩
        have HE2 := hidP (HE.out.trans (Ext.drewN wr q))
        go_wp2
        go_roundw
        case rel => exact ⟨k + 1, by omega, by go_num, HJ', HE2⟩
        case measure => simp [intOf]; omega
      · rw [hb] at HS
        have HF : Hid (rows.contains X = true) := by
          show _ = _
          have hkl : k < rows.length := by have := HLen.out; omega
          rw [List.contains_iff_mem]
          have : V = X := by simpa using hb
          rw [← this, HV.out, List.getD_eq_getElem?_getD, List.getElem?_eq_getElem hkl]
          exact List.getElem_mem hkl
        clear hb
        go_wp2_with fail
        refine HS.out.mono ?_
        rintro e w2 ⟨rfl, q, rfl⟩
        have HE2 := hidP (HE.out.trans (Ext.drewN wr q))
        go_wp2
        go_ret
        exact ⟨k, rfl, by rw [HF.out]; simp, HE2.out⟩
    · have HF : Hid (rows.contains X = false) := by
        show _ = _
        rw [Bool.eq_false_iff, ne_eq, List.contains_iff_mem]
        intro hm
        obtain ⟨j, hj, rfl⟩ := List.mem_iff_getElem.1 hm
        refine HJ.out j (by have := HLen.out; omega) ?_
        rw [List.getD_eq_getElem?_getD, List.getElem?_eq_getElem hj]
        rfl
      go_wp2
      go_ret
      exact ⟨-1, rfl, by rw [HF.out]; decide, HE.out⟩

theorem lessD_same {x y : List Int} {k : Nat} (hx : k < x.length) (hy : k < y.length) (h : ∀ j, j < k → x.getD j 0 = y.getD j 0) (hne : x.getD k 0 ≠ y.getD k 0) : lessD x y = decide (y.getD k 0 < x.getD k 0) := by
  induction x generalizing y k with
  | nil => simp at hx
  | cons a x ih =>
    cases y with
    | nil => simp at hy
    | cons b y =>
      cases k with
      | zero =>
        simp only [List.getD_cons_zero] at hne ⊢
        rw [lessD, if_neg hne]
      | succ k =>
        have h0 := h 0 (by omega)
        simp only [List.getD_cons_zero] at h0
        rw [lessD, if_pos h0]
        simp only [List.getD_cons_succ] at hne ⊢
        exact ih (by simpa using hx) (by simpa using hy) (fun j hj => by have := h (j + 1) (by omega); simpa using this) hne
theorem lessD_eq {x y : List Int} (hl : x.length = y.length) (h : ∀ j, j < x.length → x.getD j 0 = y.getD j 0) : lessD x y = false := by
  induction x generalizing y with
  | nil => cases y <;> rfl
  | cons a x ih =>
    cases y with
    | nil => rfl
    | cons b y =>
      have h0 := h 0 (by simp)
      simp only [List.getD_cons_zero] at h0
      rw [lessD, if_pos h0]
      exact ih (by simpa using hl) fun j hj => by have := h (j + 1) (by simpa using hj); simpa using this
set_option maxHeartbeats 2000000 in
theorem l5Less_any (a a' : Option Addr) (n c c' : Nat) (X Y : List Int) (w : World) (h : IntsAt w a n X) (h' : IntsAt w a' n Y) (hn : n ≤ 1000) (hb : ∀ j, j < n → -100000000 ≤ X.getD j 0 ∧ X.getD j 0 ≤ 100000000) (hb' : ∀ j, j < n → -100000000 ≤ Y.getD j 0 ∧ Y.getD j 0 ≤ 100000000) :
    Calls Tryz.prog 193 #[.slice a n c, .slice a' n c'] w fun e w' => e = .returned (.bool (lessL X Y)) ∧ Ext w w' := by
  have HX := hidP h
  have HY := hidP h'
  have HH := hidP (fun w' (hx : Ext w w') => l5Height_any a n c X w' (h.below hx) hn hb)
  have HH' := hidP (fun w' (hx : Ext w w') => l5Height_any a' n c' Y w' (h'.below hx) hn hb')
  have HLX := hidP h.len
  have HLY := hidP h'.len
  obtain ⟨A, hA⟩ : ∃ A, A = hgtL X := ⟨_, rfl⟩
  obtain ⟨B, hB⟩ : ∃ B, B = hgtL Y := ⟨_, rfl⟩
  rw [← hA] at HH
  rw [← hB] at HH'
  clear h h' hb hb'
  by_cases hab : A = B
  · have HR : Hid (lessL X Y = lessD X Y) := by
      show _ = _
      unfold lessL
      rw [← hA, ← hB, if_pos hab]
    have hne : (A != B) = false := by simpa using hab
    clear hA hB hab
    go_enter Tryz.func193, Tryz.ntmps193
    go_wp2_with fail
    refine (HH.out _ (Ext.refl _)).mono ?_
    rintro e w2 ⟨rfl, rfl⟩
    go_wp2_with fail
    refine (HH'.out _ (Ext.refl _)).mono ?_
    rintro e w3 ⟨rfl, rfl⟩
    go_wp2
    go_loopw [5] (fun i wr => ∃ k : Nat, k ≤ n ∧ i = .int .i64 k ∧ Hid (∀ j, j < k → X.getD j 0 = Y.getD j 0) ∧ Hid (Ext w wr)) (fun i _ => n - (intOf i).toNat)
    case atStart => exact ⟨0, Nat.zero_le _, rfl, fun j h => by omega, Ext.refl _⟩
    case round =>
      obtain ⟨k, hk, rfl, HJ, HE⟩ := hrel
      by_cases hlt : k < n
      · obtain ⟨b, o, rfl, qx⟩ := HX.out.one k hlt
        obtain ⟨b', o', rfl, qy⟩ := HY.out.one k hlt
        obtain ⟨P, hP⟩ : ∃ P, P = X.getD k 0 := ⟨_, rfl⟩
        obtain ⟨R, hR⟩ : ∃ R, R = Y.getD k 0 := ⟨_, rfl⟩
        rw [← hP] at qx
        rw [← hR] at qy
        have HF : Hid (∀ w', Ext wr w' → w'.cell? ⟨b, o + k, none⟩ = some (.int .i64 P) ∧ w'.cell? ⟨b', o' + k, none⟩ = some (.int .i64 R)) := fun w' hx => ⟨qx w' (HE.out.trans hx), qy w' (HE.out.trans hx)⟩
        have hk0 : (0 : Int) ≤ (k : Int) := by omega
        have hkn : (k : Int) < (n : Int) := by omega
        by_cases hd : P = R
        · have HJ' : Hid (∀ j, j < k + 1 → X.getD j 0 = Y.getD j 0) := by
            intro j hj
            rcases Nat.lt_succ_iff_lt_or_eq.1 hj with h3 | rfl
            · exact HJ.out j h3
            · rw [← hP, ← hR]; exact hd
          have hne2 : (P != R) = false := by simpa using hd
          clear hd hP hR qx qy
          have hE : Ext wr wr.drew := Ext.drew wr
          go_wp2
          (refine walkR_start (fun w' => Ext wr w') 9 (by kernel_rfl) ?_; simp only [numbered, List.take_succ_cons, List.take_zero, Nat.zero_add, Nat.reduceAdd, List.length_cons, List.length_nil])
          (repeat (first | (refine walkR_still (v := ?_) rfl (by decide +kernel) rfl (fun _ _ _ h => h) hE ?_ ?_; rotate_left; (focus (intro w' hw'; obtain ⟨q1, q2⟩ := HF.out w' hw'; go_simp; all_goals (with_reducible rfl))); simp only [Act.put, List.setIfInBounds_toArray, List.set_cons_zero, List.set_cons_succ]) | (refine walkR_skip rfl (by decide +kernel) rfl (fun _ _ _ h => h) hE ?_; simp only [Act.put, List.setIfInBounds_toArray, List.set_cons_zero, List.set_cons_succ])))
          (refine walkR_tail (by rfl) (by kernel_rfl) ?_; simp only [List.drop_succ_cons, List.drop_zero])
          have HE2 := hidP (HE.out.trans hE)
          go_wp2
          go_roundw
          case rel => exact ⟨k + 1, by omega, by go_num, HJ', HE2⟩
          case measure => simp [intOf]; omega
        · have HD : Hid (lessD X Y = decide (R < P)) := by
            show _ = _
            rw [hP, hR]
            exact lessD_same (by have := HLX.out; omega) (by have := HLY.out; omega) HJ.out (by rw [← hP, ← hR]; exact hd)
          have hne2 : (P != R) = true := by simpa using hd
          clear hd hP hR qx qy
          have hE : Ext wr wr.drew := Ext.drew wr
          go_wp2
          (refine walkR_start (fun w' => Ext wr w') 9 (by kernel_rfl) ?_; simp only [numbered, List.take_succ_cons, List.take_zero, Nat.zero_add, Nat.reduceAdd, List.length_cons, List.length_nil])
          (repeat (first | (refine walkR_still (v := ?_) rfl (by decide +kernel) rfl (fun _ _ _ h => h) hE ?_ ?_; rotate_left; (focus (intro w' hw'; obtain ⟨q1, q2⟩ := HF.out w' hw'; go_simp; all_goals (with_reducible rfl))); simp only [Act.put, List.setIfInBounds_toArray, List.set_cons_zero, List.set_cons_succ]) | (refine walkR_skip rfl (by decide +kernel) rfl (fun _ _ _ h => h) hE ?_; simp only [Act.put, List.setIfInBounds_toArray, List.set_cons_zero, List.set_cons_succ])))
          (refine walkR_tail (by rfl) (by kernel_rfl) ?_; simp only [List.drop_succ_cons, List.drop_zero])
          have hE2 : Ext wr wr.drew.drew := hE.trans (Ext.drew _)
          go_wp2
          (refine walkR_start (fun w' => Ext wr w') 9 (by kernel_rfl) ?_; simp only [numbered, List.take_succ_cons, List.take_zero, Nat.zero_add, Nat.reduceAdd, List.length_cons, List.length_nil])
          (repeat (first | (refine walkR_still (v := ?_) rfl (by decide +kernel) rfl (fun _ _ _ h => h) hE2 ?_ ?_; rotate_left; (focus (intro w' hw'; obtain ⟨q1, q2⟩ := HF.out w' hw'; go_simp; all_goals (with_reducible rfl))); simp only [Act.put, List.setIfInBounds_toArray, List.set_cons_zero, List.set_cons_succ]) | (refine walkR_skip rfl (by decide +kernel) rfl (fun _ _ _ h => h) hE2 ?_; simp only [Act.put, List.setIfInBounds_toArray, List.set_cons_zero, List.set_cons_succ])))
          (refine walkR_tail (by rfl) (by kernel_rfl) ?_; simp only [List.drop_succ_cons, List.drop_zero])
          have HE2 := hidP (HE.out.trans hE2)
          go_wp2
          go_ret
          exact ⟨ret_bool (HR.out.trans HD.out).symm, HE2.out⟩
      · have HD : Hid (lessD X Y = false) := by
          show _ = _
          exact lessD_eq (by have := HLX.out; have := HLY.out; omega) (fun j hj => HJ.out j (by have := HLX.out; omega))
        go_wp2
        go_ret
        exact ⟨ret_bool (HR.out.trans HD.out).symm, HE.out⟩
  · have HR : Hid (lessL X Y = decide (A < B)) := by
      show _ = _
      unfold lessL
      rw [← hA, ← hB, if_neg hab]
    have hne : (A != B) = true := by simpa using hab
    clear hA hB hab
    go_enter Tryz.func193, Tryz.ntmps193
    go_wp2_with fail
    refine (HH.out _ (Ext.refl _)).mono ?_
    rintro e w2 ⟨rfl, rfl⟩
    go_wp2_with fail
    refine (HH'.out _ (Ext.refl _)).mono ?_
    rintro e w3 ⟨rfl, rfl⟩
    go_wp2_with fail
    refine (HH.out _ (Ext.refl _)).mono ?_
    rintro e w2 ⟨rfl, rfl⟩
    go_wp2_with fail
    refine (HH'.out _ (Ext.refl _)).mono ?_
    rintro e w3 ⟨rfl, rfl⟩
    go_wp2
    go_ret
    exact ⟨ret_bool HR.out.symm, Ext.refl _⟩
end Go.Proofs.YtenlhfimdpcaoaaGreat

namespace Go.Proofs.YtenlhfimdpcaoaaGreat
open Go.RowKit

theorem foundGo_pre (r : Nat) (ts : List Int) : ∀ (f k i : Nat) (out R : List (List Int)), foundGo r ts f k i out = some R → ∃ t, R = out ++ t
  | 0, _, _, _, _, h => by cases h
  | f + 1, k, i, out, R, h => by
    rw [foundGo] at h
    split at h
    · split at h
      · obtain ⟨t, ht⟩ := foundGo_pre r ts f _ _ _ _ h
        split at ht
        · exact ⟨_, by rw [ht, List.append_assoc]⟩
        · exact ⟨t, ht⟩
      · exact foundGo_pre r ts f _ _ _ _ h
    · cases h
      exact ⟨[], by simp⟩
theorem foundGo_end {r : Nat} {ts : List Int} {f k i : Nat} {out R : List (List Int)} (h : foundGo r ts f k i out = some R) (hk : ¬ k < out.length) : R = out := by
  cases f with
  | zero => cases h
  | succ f =>
    rw [foundGo, if_neg hk] at h
    exact (Option.some.inj h).symm
theorem foundGo_next {r : Nat} {ts : List Int} {f k : Nat} {out R : List (List Int)} (h : foundGo r ts f k r out = some R) (hk : k < out.length) : ∃ f', foundGo r ts f' (k + 1) 0 out = some R := by
  cases f with
  | zero => cases h
  | succ f =>
    rw [foundGo, if_pos hk, if_neg (by omega)] at h
    exact ⟨f, h⟩
theorem foundGo_step {r : Nat} {ts : List Int} {f k i : Nat} {out R : List (List Int)} (h : foundGo r ts f k i out = some R) (hk : k < out.length) (hi : i < r) : ∃ f', foundGo r ts f' k (i + 1) (if posL (simL r ts i (out.getD k [])) && !out.contains (simL r ts i (out.getD k [])) then out ++ [simL r ts i (out.getD k [])] else out) = some R := by
  cases f with
  | zero => cases h
  | succ f =>
    rw [foundGo, if_pos hk, if_pos hi] at h
    exact ⟨f, h⟩
theorem insR_length (out : List (List Int)) (x : List Int) : (insR out x).length = out.length + 1 := by
  simp only [insR, List.length_append, List.length_take, List.length_cons, List.length_drop]
  omega
theorem mem_insR {out : List (List Int)} {x y : List Int} (h : y ∈ insR out x) : y ∈ out ∨ y = x := by
  simp only [insR, List.mem_append, List.mem_cons] at h
  rcases h with h | h | h
  · exact .inl (List.mem_of_mem_take h)
  · exact .inr h
  · exact .inl (List.mem_of_mem_drop h)
def insTo (fs : List (List Int)) (k : Nat) : List (List Int) := (fs.take k).foldl insR []
theorem insTo_succ {fs : List (List Int)} {k : Nat} (h : k < fs.length) : insTo fs (k + 1) = insR (insTo fs k) (fs.getD k []) := by
  unfold insTo
  rw [List.take_succ_eq_append_getElem h, List.foldl_append]
  simp [List.getD_eq_getElem?_getD, h]
theorem insTo_length (fs : List (List Int)) : ∀ k, k ≤ fs.length → (insTo fs k).length = k
  | 0, _ => rfl
  | k + 1, h => by rw [insTo_succ (by omega), insR_length, insTo_length fs k (by omega)]
theorem insTo_all (fs : List (List Int)) : insTo fs fs.length = rootsOf fs := by
  unfold insTo rootsOf
  rw [List.take_length]
theorem insTo_mem (fs : List (List Int)) : ∀ k, k ≤ fs.length → ∀ y ∈ insTo fs k, y ∈ fs
  | 0, _, y, h => by simp [insTo] at h
  | k + 1, hk, y, h => by
    rw [insTo_succ (by omega)] at h
    rcases mem_insR h with h | rfl
    · exact insTo_mem fs k (by omega) y h
    · rw [List.getD_eq_getElem?_getD, List.getElem?_eq_getElem (by omega)]
      exact List.getElem_mem _
/-- rows of a rank with small numbers -/
def SmallRows (r : Nat) (fs : List (List Int)) : Prop := ∀ x ∈ fs, x.length = r ∧ ∀ j, j < r → -1000 ≤ x.getD j 0 ∧ x.getD j 0 ≤ 1000
theorem SmallRows.get {r : Nat} {fs : List (List Int)} (h : SmallRows r fs) {k : Nat} (hk : k < fs.length) : (fs.getD k []).length = r ∧ ∀ j, j < r → -1000 ≤ (fs.getD k []).getD j 0 ∧ (fs.getD k []).getD j 0 ≤ 1000 := by
  refine h _ ?_
  rw [List.getD_eq_getElem?_getD, List.getElem?_eq_getElem hk]
  exact List.getElem_mem _
end Go.Proofs.YtenlhfimdpcaoaaGreat

namespace Go.Proofs.YtenlhfimdpcaoaaGreat
open Go.RowKit

section
variable {P : Program} {ops : Array Oper} {Q : Exit → Act → World → Prop} {C : World → Prop} {n : Nat}

theorem walkR_three {i k j di dk dj : Nat} {oi ok oj : Oper} (P1 : Value → World → Prop) (P12 : Value → Value → World → Prop) (PJ : Value → World → Prop) (P1J : Value → Value → World → Prop) (R : Value → Value → Value → World → Prop)
    {rem : List (Nat × Oper)} {f : Nat} {listed : Array Bool} {a : Act} {w : World} (hi : ops[i]? = some oi) (hk : ops[k]? = some ok) (hj : ops[j]? = some oj)
    (hb : (decide (Region.ready .any ops listed = [i, j]) && decide (i < n) && decide (k < n) && decide (j < n) && decide (Region.ready .any ops (listed.setIfInBounds i true) = [k, j]) && decide (Region.ready .any ops ((listed.setIfInBounds i true).setIfInBounds k true) = [j])
      && decide (Region.ready .any ops ((listed.setIfInBounds i true).setIfInBounds j true) = [k]) && decide (Region.ready .any ops (listed.setIfInBounds j true) = [i]) && decide (Region.ready .any ops ((listed.setIfInBounds j true).setIfInBounds i true) = [k]) && decide (i ≠ j) && decide (k ≠ j)) = true)
    (_hdi : oi.dst = some di) (_hdk : ok.dst = some dk) (_hdj : oj.dst = some dj) (hd1 : di ≠ dj) (hd2 : dk ≠ dj)
    (hwi : ∀ a : Act, Region.wanted oi (yielded ops a.tmps) = true) (hwk : ∀ a : Act, Region.wanted ok (yielded ops a.tmps) = true) (hwj : ∀ a : Act, Region.wanted oj (yielded ops a.tmps) = true)
    (h1 : ∀ K : Act → World → Prop, (∀ v w', C w' → P1 v w' → K (a.put (some di) v) w') → oi.wp P a w K Q)
    (h12 : ∀ v w', C w' → P1 v w' → ∀ K : Act → World → Prop, (∀ u w'', C w'' → P12 v u w'' → K ((a.put (some di) v).put (some dk) u) w'') → ok.wp P (a.put (some di) v) w' K Q)
    (h12J : ∀ v u w', C w' → P12 v u w' → ∀ K : Act → World → Prop, (∀ z w'', C w'' → R v u z w'' → K (((a.put (some di) v).put (some dk) u).put (some dj) z) w'') → oj.wp P ((a.put (some di) v).put (some dk) u) w' K Q)
    (h1J : ∀ v w', C w' → P1 v w' → ∀ K : Act → World → Prop, (∀ z w'', C w'' → P1J v z w'' → K ((a.put (some di) v).put (some dj) z) w'') → oj.wp P (a.put (some di) v) w' K Q)
    (h1J2 : ∀ v z w', C w' → P1J v z w' → ∀ K : Act → World → Prop, (∀ u w'', C w'' → R v u z w'' → K (((a.put (some di) v).put (some dj) z).put (some dk) u) w'') → ok.wp P ((a.put (some di) v).put (some dj) z) w' K Q)
    (hJ : ∀ K : Act → World → Prop, (∀ z w', C w' → PJ z w' → K (a.put (some dj) z) w') → oj.wp P a w K Q)
    (hJ1 : ∀ z w', C w' → PJ z w' → ∀ K : Act → World → Prop, (∀ v w'', C w'' → P1J v z w'' → K ((a.put (some dj) z).put (some di) v) w'') → oi.wp P (a.put (some dj) z) w' K Q)
    (h : ∀ v u z w'', C w'' → R v u z w'' → WalkR P ops Q n C rem f (((listed.setIfInBounds i true).setIfInBounds k true).setIfInBounds j true) (((a.put (some di) v).put (some dk) u).put (some dj) z) w'') : WalkR P ops Q n C ((i, oi) :: (k, ok) :: (j, oj) :: rem) (f + 3) listed a w := by
  simp only [Bool.and_eq_true, decide_eq_true_eq] at hb
  obtain ⟨⟨⟨⟨⟨⟨⟨⟨⟨⟨hr, hin⟩, hkn⟩, hjn⟩, hr1⟩, hr12⟩, hr1J⟩, hrJ⟩, hrJ1⟩, hij⟩, hkj⟩ := hb
  -- i and j have come up
  have mid : ∀ v z w', C w' → P1J v z w' → WalkC P ops Q n C (f + 1) ((listed.setIfInBounds i true).setIfInBounds j true) ((a.put (some di) v).put (some dj) z) w' := by
    intro v z w' hc hp
    refine walkC_only C hk (by simp [hr1J, hkn]) (hwk _) (fun _ h => h) fun K hK => ?_
    refine h1J2 v z w' hc hp K fun u w'' hc' hR => hK _ _ hc' ?_
    have := h v u z w'' hc' hR
    rw [Act.put_comm _ hd2, Array.setIfInBounds_comm _ _ (Ne.symm hkj)]
    exact this
  refine walkC_split (f := f + 2) hi hj (by simp [hr, hin, hjn]) (hwi _) (hwj _) ?_ ?_
  · intro K hK
    refine h1 K fun v w' hc hp => hK _ _ hc ?_
    refine walkC_split (f := f + 1) hk hj (by simp [hr1, hkn, hjn]) (hwk _) (hwj _) ?_ ?_
    · intro K' hK'
      refine h12 v w' hc hp K' fun u w'' hc' hp' => hK' _ _ hc' ?_
      refine walkC_only C hj (by simp [hr12, hjn]) (hwj _) (fun _ h => h) fun K2 hK2 => ?_
      exact h12J v u w'' hc' hp' K2 fun z w3 hc3 hR => hK2 _ _ hc3 (h v u z w3 hc3 hR)
    · intro K' hK'
      exact h1J v w' hc hp K' fun z w'' hc' hp' => hK' _ _ hc' (mid v z w'' hc' hp')
  · intro K hK
    refine hJ K fun z w' hc hp => hK _ _ hc ?_
    refine walkC_only C hi (by simp [hrJ, hin]) (hwi _) (fun _ h => h) fun K' hK' => ?_
    refine hJ1 z w' hc hp K' fun v w'' hc' hp' => hK' _ _ hc' ?_
    have := mid v z w'' hc' hp'
    rw [Act.put_comm _ hd1, Array.setIfInBounds_comm _ _ (Ne.symm hij)]
    exact this
end

end Go.Proofs.YtenlhfimdpcaoaaGreat
