/-
  Owned slices of rows: read; begun; append of one element, with the new slice's place: where it was, or in a new block.
-/
import Derived.Test.YtnfbfdamlnjblaaGreatDoorOwn
import Derived.ArgAppend
namespace Go.Proofs.YtnfbfdamlnjblaaGreatDoor
open Go.RowKit

/-- rows of integers, read -/
structure RowsI (w : World) (a : Option Addr) (n : Nat) (rows : List (List Int)) : Prop where
  len : rows.length = n
  get : ∀ i, i < n → ∃ b o a' c', a = some ⟨b, o, none⟩ ∧ w.cell? ⟨b, o + i, none⟩ = some (.slice a' (rows.getD i []).length c') ∧ IntsAt w a' (rows.getD i []).length (rows.getD i []) ∧ (a' = none → c' = 0)
theorem RowsI.below {w w' : World} {a : Option Addr} {n : Nat} {rows : List (List Int)} (h : RowsI w a n rows) (hb : Ext w w') : RowsI w' a n rows := by
  refine ⟨h.len, fun i hi => ?_⟩
  obtain ⟨b, o, a', c', rfl, hc, hr, hn⟩ := h.get i hi
  exact ⟨b, o, a', c', rfl, (hb.cell (p := ⟨b, o + i, none⟩) (World.block_lt_of_cell? w _ hc)).trans hc, hr.below hb, hn⟩
theorem OwnK.rowsI {w : World} {B U : Nat} {a : Option Addr} {n c : Nat} {hs : List Hdr} {xs : List (List Int)} (h : OwnK rowK w B U a n c hs xs) : RowsI w a n xs := by
  refine ⟨h.xl, fun i hi => ?_⟩
  obtain ⟨g, rfl, hc, _⟩ := h.cell i 0 hi (by decide)
  rw [show i * rowK.size + 0 = i from by show i * 1 + 0 = i; omega] at hc
  exact ⟨g, 0, _, _, rfl, by rw [Nat.zero_add, hc]; rfl, (h.each i hi).ints, (h.each i hi).nil_cap⟩
theorem flatten_take_succ (rows : List (List Int)) (i : Nat) (hi : i < rows.length) : (rows.take (i + 1)).flatten = (rows.take i).flatten ++ rows.getD i [] := by
  rw [List.take_succ_eq_append_getElem hi, List.flatten_append]
  simp [List.getD_eq_getElem?_getD, hi]
theorem flatten_take_le (rows : List (List Int)) (i : Nat) : (rows.take i).flatten.length ≤ rows.flatten.length := by
  conv => rhs; rw [← List.take_append_drop i rows, List.flatten_append, List.length_append]
  omega
theorem ownI_zeros (w : World) (n m : Nat) (B : Nat) (hB : B ≤ w.heap.size) (cap : Nat) (hc : cap = n + m) (hm : cap ≤ maxLen) :
    OwnI (w.alloc (.cells (Builtin.zeroCells #[.int .i64 0] n ++ Builtin.zeroCells #[.int .i64 0] m) 3)) B (some ⟨w.heap.size, 0, none⟩) 0 cap [] := by
  refine ⟨by simp [ivs], .inr ⟨w.heap.size, cap, _, rfl, hB, heap_alloc_new _ _, Nat.zero_le _, hm, ?_, by simp [ivs]⟩⟩
  simp [Builtin.zeroCells, hc]

/-- a new slice without elements -/
theorem OwnK.made0 {α : Type} (K : Knd α) (w : World) : OwnK K (w.alloc (.cells #[] K.E)) w.heap.size (w.alloc (.cells #[] K.E)).heap.size (some ⟨w.heap.size, 0, none⟩) 0 0 [] [] := by
  refine ⟨⟨by simp [Knd.all], .inr ⟨w.heap.size, 0, #[], rfl, Nat.le_refl _, heap_alloc_new _ _, Nat.le_refl _, by unfold maxLen; omega, by simp, by simp [Knd.all]⟩⟩, rfl, rfl, fun i h => by omega, fun i j h => by omega, fun i h => by omega, fun b o e => ?_⟩
  simp only [Option.some.injEq, Addr.mk.injEq, and_true] at e
  simp [← e.1]

theorem Tryz.info22 : (Tryz.prog.info? 22).map (fun i => (i.zero, i.size, i.bytes)) = some (some (.slice none 0 0), 1, 24) := by kernel_rfl
/-- the step 'append(rows, row)', row new -/
theorem OwnK.below_grown {α : Type} {K : Knd α} {w w' w0 : World} {B U : Nat} {a : Option Addr} {n c : Nat} {hs : List Hdr} {xs : List α} (h : OwnK K w B U a n c hs xs) (hg : w.grownBy w' (Value.slice a n c).ownBlock) (hb : Below B w0 w) (hB : B ≤ w.heap.size) : Below B w0 w' := by
  refine Below.grown hb hg hB fun k hk => ?_
  rcases h.form with ⟨rfl, _⟩ | ⟨g, cur, rfl, hBg, _⟩
  · simp [Value.ownBlock] at hk
  · simp [Value.ownBlock] at hk
    subst hk
    exact hBg

variable {α : Type}

/-- a' is a, or lies in a block from N on -/
def OrNew (N : Nat) (a a' : Option Addr) : Prop := a' = a ∨ ∀ b o, a' = some ⟨b, o, none⟩ → N ≤ b

theorem OwnK.snoc_of {K : Knd α} {w w' : World} {B U : Nat} {a : Option Addr} {n c : Nat} {hs : List Hdr} {xs : List α} (hown : OwnK K w B U a n c hs xs) {v' : Value} {h1 : Hdr} {x1 : α}
    (hr : w'.ownsRow B K.E K.size v' (n + 1) (K.all hs xs ++ K.cells h1.1 h1.2 x1)) (hg : w.grownBy w' (Value.slice a n c).ownBlock)
    (hi1 : OwnI w B h1.1 (K.ints x1).length h1.2 (K.ints x1)) (hap : ∀ i, i < n → Apart (hs.getD i (none, 0)).1 h1.1) (hfar : Apart a h1.1) :
    ∃ a' c', v' = .slice a' (n + 1) c' ∧ OwnK K w' B w'.heap.size a' (n + 1) c' (hs ++ [h1]) (xs ++ [x1]) := by
  rw [← K.all_snoc hs xs (hown.hl.trans hown.xl.symm)] at hr
  obtain ⟨a', c', rfl⟩ : ∃ a' c', v' = .slice a' (n + 1) c' := by
    rcases hr.2 with ⟨_, h0⟩ | ⟨g', cap, cur, he, _⟩
    · omega
    · exact ⟨_, _, he⟩
  refine ⟨a', c', rfl, ?_⟩
  have hxl := hown.xl
  have hhl := hown.hl
  have gd : ∀ {β : Type} (l : List β) (i : Nat) (x d : β), i < l.length → (l ++ [x]).getD i d = l.getD i d := fun l i x d hi => by simp [List.getD_eq_getElem?_getD, List.getElem?_append_left hi]
  have gl : ∀ {β : Type} (l : List β) (x d : β), (l ++ [x]).getD l.length d = x := fun l x d => by simp [List.getD_eq_getElem?_getD]
  have hne : ∀ q, q < n → ∀ b o, (hs.getD q (none, 0)).1 = some ⟨b, o, none⟩ → some b ≠ (Value.slice a n c).ownBlock := fun q hq b o e => by
    rcases hown.form with ⟨rfl, _⟩ | ⟨g', cur, rfl, _⟩
    · simp [Value.ownBlock]
    · have := hown.far q hq g' 0 b o rfl e
      simp only [Value.ownBlock, ne_eq, Option.some.injEq]
      omega
  have hne1 : ∀ b o, h1.1 = some ⟨b, o, none⟩ → some b ≠ (Value.slice a n c).ownBlock := fun b o e => by
    rcases hown.form with ⟨rfl, _⟩ | ⟨g', cur, rfl, _⟩
    · simp [Value.ownBlock]
    · have := hfar g' 0 b o rfl e
      simp only [Value.ownBlock, ne_eq, Option.some.injEq]
      omega
  have hev : ∀ q, q < n + 1 → OwnI w' B ((hs ++ [h1]).getD q (none, 0)).1 (K.ints ((xs ++ [x1]).getD q K.dft)).length ((hs ++ [h1]).getD q (none, 0)).2 (K.ints ((xs ++ [x1]).getD q K.dft)) := fun q hq => by
    rcases Nat.lt_succ_iff_lt_or_eq.1 hq with h3 | rfl
    · rw [gd _ _ _ _ (by omega), gd _ _ _ _ (by omega)]
      exact (hown.each q h3).grown hg fun b o e => hne q h3 b o e
    · have e1 : (hs ++ [h1]).getD q (none, 0) = h1 := by rw [← hhl]; exact gl _ _ _
      have e2 : (xs ++ [x1]).getD q K.dft = x1 := by rw [← hxl]; exact gl _ _ _
      rw [e1, e2]
      exact hi1.grown hg fun b o e => hne1 b o e
  refine ⟨hr, by simp [hhl], by simp [hxl], hev, fun q r hq hr' hqr => ?_, fun q hq b o e => ((hev q hq).at_base b o e).2, fun b o e => ?_⟩
  · rcases Nat.lt_succ_iff_lt_or_eq.1 hq with h3 | rfl
    · rw [gd hs q _ _ (by omega)]
      rcases Nat.lt_succ_iff_lt_or_eq.1 hr' with h4 | rfl
      · rw [gd hs r _ _ (by omega)]; exact hown.apart q r h3 h4 hqr
      · have e1 : (hs ++ [h1]).getD r (none, 0) = h1 := by rw [← hhl]; exact gl _ _ _
        rw [e1]; exact hap q h3
    · have e1 : (hs ++ [h1]).getD q (none, 0) = h1 := by rw [← hhl]; exact gl _ _ _
      rw [e1, gd hs r _ _ (by omega)]
      exact (hap r (by omega)).symm
  · rcases hr.2 with ⟨_, h0⟩ | ⟨g', cap, cur, he, _, hg', _⟩
    · omega
    · simp only [Value.slice.injEq] at he
      rw [e] at he
      simp only [Option.some.injEq, Addr.mk.injEq, and_true] at he
      obtain ⟨⟨rfl, _⟩, _⟩ := he
      exact (Array.getElem?_eq_some_iff.1 hg').1

/-- append of one element, whose cells lie in a new block, to an owned slice of such -/
theorem wpList_append_elem2 {ops : Array Oper} {rest : List Oper} {o : Oper} {av : Act} {Q : Exit → Act → World → Prop} {w : World} (K : Knd α) (T : TypeId) (z : Value) (bytes : Nat) (hgd : o.guard = none) (s x : Operand)
    (ho : o.op = .call { callee := .builtin .append, args := #[s, x], argTypes := #[T, T] }) (hT : Tryz.prog.underlying T = some (.slice K.E)) (hinfo : (Tryz.prog.info? K.E).map (fun i => (i.zero, i.size, i.bytes)) = some (some z, K.size, bytes))
    (hz : z.cells.size = K.size) (hbp : bytes ≤ 1000)
    (B U : Nat) (a : Option Addr) (n c : Nat) (hs : List Hdr) (xs : List α) (hsv : av.eval s = .slice a n c) (hown : OwnK K w B U a n c hs xs)
    (g m : Nat) (h1 : Hdr) (x1 : α) (hx : av.eval x = .slice (some ⟨g, 0, none⟩) 1 m) (hcl : ∀ j, j < K.size → w.cell? ⟨g, j, none⟩ = (K.cells h1.1 h1.2 x1)[j]?)
    (hi1 : OwnI w B h1.1 (K.ints x1).length h1.2 (K.ints x1)) (hap : ∀ i, i < n → Apart (hs.getD i (none, 0)).1 h1.1) (hfar : Apart a h1.1) (hsm : n ≤ 1000000000) (hB : B ≤ w.heap.size)
    (h : ∀ a' c' w', OwnK K w' B w'.heap.size a' (n + 1) c' (hs ++ [h1]) (xs ++ [x1]) → w.grownBy w' (Value.slice a n c).ownBlock → OrNew w.heap.size a a' → wpList Tryz.prog ops Q rest (av.put o.dst (.slice a' (n + 1) c')) w') : wpList Tryz.prog ops Q (o :: rest) av w := by
  obtain ⟨i, hi, hz0, hz1, hz2⟩ := info_parts hinfo
  have hcells : ∀ j u, (K.cells h1.1 h1.2 x1)[j]? = some u → w.cell? ((⟨g, 0, none⟩ : Addr).add j) = some u := by
    intro j u hu
    have hj : j < K.size := by have := (List.getElem?_eq_some_iff.1 hu).1; rwa [K.len] at this
    rw [add_none, Nat.zero_add, hcl j hj]
    exact hu
  by_cases hroom : n + 1 ≤ c
  · rcases hown.form with ⟨_, _, h0⟩ | ⟨g0, cur, rfl, _⟩
    · omega
    · refine wpList_append_fits w hgd s x T ho B K.E i K.size hT hi hz1 g0 n c (K.all hs xs) hsv hown.row ⟨g, 0, none⟩ 1 m (K.cells h1.1 h1.2 x1) hx (by rw [K.len, Nat.one_mul]) hcells (K.one _ _ _) hroom ?_
      intro w' hr hg
      obtain ⟨a', c', e, hk⟩ := hown.snoc_of hr hg hi1 hap hfar
      simp only [Value.slice.injEq] at e
      obtain ⟨rfl, _, rfl⟩ := e
      exact h _ _ w' hk hg (.inl rfl)
  · have hlx := K.all_length hs xs (hown.hl.trans hown.xl.symm)
    rw [hown.xl] at hlx
    refine wpList_append_grows w hgd s x T ho K.E i z K.size bytes hT hi hz0 hz1 hz2 hz K.pos a n c (K.all hs xs) hsv ?_ hlx ?_ ⟨g, 0, none⟩ 1 m (K.cells h1.1 h1.2 x1) hx (by rw [K.len, Nat.one_mul]) hcells (K.one _ _ _) (by omega) (by unfold maxLen; omega)
      (by calc (n + 1) * bytes ≤ 1000000001 * 1000 := Nat.mul_le_mul (by omega) hbp
            _ ≤ _ := by omega) ?_
    · intro e
      rcases hown.form with ⟨_, h1, h2⟩ | ⟨g0, cur, e2, _⟩
      · exact ⟨h1, h2⟩
      · rw [e] at e2; cases e2
    · intro b e j u hu
      rcases hown.form with ⟨e2, _⟩ | ⟨g0, cur, e2, _⟩
      · rw [e] at e2; cases e2
      · rw [e] at e2
        simp only [Option.some.injEq] at e2
        subst e2
        have hj : j < n * K.size := by have := (List.getElem?_eq_some_iff.1 hu).1; rwa [hlx] at this
        subst e
        rw [add_none, Nat.zero_add, hown.row.cellAt j hj]
        exact hu
    · intro v' w' hr hg0
      have hg : w.grownBy w' (Value.slice a n c).ownBlock := ⟨hg0.os, hg0.tape, hg0.output, hg0.size, fun k hk _ => hg0.block k hk (by simp)⟩
      have hr2 : w'.ownsRow B K.E K.size v' (n + 1) (K.all hs xs ++ K.cells h1.1 h1.2 x1) := by
        refine ⟨hr.1, ?_⟩
        rcases hr.2 with h2 | ⟨g', cap, cur, he, hB', r⟩
        · exact .inl h2
        · exact .inr ⟨g', cap, cur, he, Nat.le_trans hB hB', r⟩
      obtain ⟨a', c', rfl, hk⟩ := hown.snoc_of hr2 hg hi1 hap hfar
      refine h a' c' w' hk hg (.inr fun b o e => ?_)
      rcases hr.2 with ⟨_, h0⟩ | ⟨g', cap, cur, he, hB', _⟩
      · omega
      · simp only [Value.slice.injEq] at he
        rw [e] at he
        simp only [Option.some.injEq, Addr.mk.injEq, and_true] at he
        obtain ⟨⟨rfl, _⟩, _⟩ := he
        exact hB'
end Go.Proofs.YtnfbfdamlnjblaaGreatDoor
