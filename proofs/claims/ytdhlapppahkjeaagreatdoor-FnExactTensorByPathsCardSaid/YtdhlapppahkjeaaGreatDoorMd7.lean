/-
  A reflection applied between two times of a path, by the program: turned. Printed by gen/pthI.py.
  slices.DeleteFunc at steps of no time.
  Owned slices of elements as lists of an address and an element each; rows whose elements are moved about.
  The law's own functions on Cartan matrices and on sessions: eqCartan, markCartan, heldCartan, eqSession, markSession, heldSession.
  Algebras as values: the law's own functions on them, and AbelianAlgebra of both packages.
  The times at which heights are met: crossing, l9Cross; l9Within.
  Simple reflections of a weight, the program's and the reference's; the times at which heights are met.
  Heights of the program's paths and of the reference's.
  Paths of the program: JoinPaths.
  TypeOf and IsCartan of the program.
  CartanOf of the program, at the names of types.
  The program's lists of types.
-/
import Derived.Test.YtdhlapppahkjeaaGreatDoorMd6
import Derived.Maps.AppendAt
import Derived.Lib.SliceRun
namespace Go.Proofs.YtdhlapppahkjeaaGreatDoor
open Go.RowKit

/-- a value that is a slice of strings -/
def HdrS (w : World) (v : Value) (ss : List ByteArray) : Prop := ∃ a c, v = .slice a ss.length c ∧ ss.length ≤ c ∧ StrsAt w a ss.length ss ∧ (a = none → c = 0) ∧ ∀ b o, a = some ⟨b, o, none⟩ → ∃ cur, ∃ fr : Nat × Nat, w.heap[b]? = some (.cells cur 9 fr)
theorem HdrS.keep {w w' : World} {v : Value} {ss : List ByteArray} (h : HdrS w v ss) {row : Option Nat} (hg : w.grownBy w' row) (hne : ∀ b, row = some b → ∃ cur, ∃ fr : Nat × Nat, w.heap[b]? = some (.cells cur 83 fr)) : HdrS w' v ss := by
  obtain ⟨a, c, rfl, hcp, hs, hn, ht⟩ := h
  have hb : ∀ b o, a = some ⟨b, o, none⟩ → w'.heap[b]? = w.heap[b]? := fun b o e => by
    obtain ⟨cur, fr, h1⟩ := ht b o e
    refine hg.block b (Array.getElem?_eq_some_iff.1 h1).1 fun hr => ?_
    obtain ⟨cur', fr', h2⟩ := hne b hr.symm
    rw [h1] at h2
    simp only [Option.some.injEq, Obj.cells.injEq] at h2
    exact absurd h2.2.1 (by decide)
  refine ⟨a, c, rfl, hcp, ⟨rfl, fun i hi => ?_⟩, hn, fun b o e => ?_⟩
  · obtain ⟨b, o, e, hc⟩ := hs.get i hi
    exact ⟨b, o, e, (World.cell?_of_block (hb b o e)).trans hc⟩
  · rw [hb b o e]
    exact ht b o e
theorem HdrS.below {w w' : World} {v : Value} {ss : List ByteArray} (h : HdrS w v ss) (hb : Ext w w') : HdrS w' v ss :=
  h.keep (row := none) ⟨hb.os, hb.tape, hb.output, hb.size, fun k hk _ => hb.block k hk⟩ (by simp)
theorem HdrS.nil (w : World) : HdrS w (.slice none 0 0) [] := ⟨none, 0, rfl, Nat.le_refl _, StrsAt.nil w none, fun _ => rfl, fun b o e => by cases e⟩
/-- rows of strings, read -/
structure SRowsAt (w : World) (a : Option Addr) (n : Nat) (L : List (List ByteArray)) : Prop where
  len : L.length = n
  get : ∀ i, i < n → ∃ b o v, a = some ⟨b, o, none⟩ ∧ w.cell? ⟨b, o + i, none⟩ = some v ∧ HdrS w v (L.getD i [])
theorem SRowsAt.below {w w' : World} {a : Option Addr} {n : Nat} {L : List (List ByteArray)} (h : SRowsAt w a n L) (hb : Ext w w') : SRowsAt w' a n L := by
  refine ⟨h.len, fun i hi => ?_⟩
  obtain ⟨b, o, v, rfl, hc, hv⟩ := h.get i hi
  exact ⟨b, o, v, rfl, (hb.cell (p := ⟨b, o + i, none⟩) (World.block_lt_of_cell? w _ hc)).trans hc, hv.below hb⟩
/-- owned -/
structure OwnP (w : World) (B : Nat) (a : Option Addr) (n c : Nat) (L : List (List ByteArray)) : Prop where
  row : ∃ vs : List Value, w.ownsRow B 83 1 (.slice a n c) n vs ∧ (∀ i, i < n → HdrS w (vs.getD i undef) (L.getD i []))
  len : L.length = n
theorem OwnP.rows {w : World} {B : Nat} {a : Option Addr} {n c : Nat} {L : List (List ByteArray)} (h : OwnP w B a n c L) : SRowsAt w a n L := by
  refine ⟨h.len, fun i hi => ?_⟩
  obtain ⟨vs, hr, hv⟩ := h.row
  rcases hr.2 with ⟨he, h0⟩ | ⟨g, cap, cur, he, hB, hg, hnc, hcm, hcs, ht⟩
  · omega
  · simp only [Value.slice.injEq] at he
    obtain ⟨rfl, -, rfl⟩ := he
    have hl : vs.length = n := by simpa using hr.1
    have h3 := hr.cellAt i (by omega)
    refine ⟨g, 0, vs.getD i undef, rfl, ?_, hv i hi⟩
    rw [Nat.zero_add, h3, List.getD_eq_getElem?_getD, List.getElem?_eq_getElem (by omega)]
    rfl
theorem OwnP.keep {w w' : World} {B : Nat} {a : Option Addr} {n c : Nat} {L : List (List ByteArray)} (h : OwnP w B a n c L) (hb : Ext w w') : OwnP w' B a n c L := by
  obtain ⟨vs, hr, hv⟩ := h.row
  refine ⟨⟨vs, ?_, fun i hi => (hv i hi).below hb⟩, h.len⟩
  refine hr.kept (row := none) ⟨hb.os, hb.tape, hb.output, hb.size, fun k hk _ => hb.block k hk⟩ ?_
  rcases hr.2 with ⟨he, h0⟩ | ⟨g, cap, cur, he, _⟩
  · exact .inl (by rw [he]; rfl)
  · exact .inr (by rw [he]; simp [Value.ownBlock])
theorem OwnP.made (w : World) : OwnP (w.alloc (.cells #[] 83)) w.heap.size (some ⟨w.heap.size, 0, none⟩) 0 0 [] := by
  refine ⟨⟨[], ?_, fun i h => by omega⟩, rfl⟩
  have := World.ownsRow_lit (e := 83) (size := 1) (base := w.heap.size) w #[] 0 (Nat.le_refl _) (by unfold maxLen; omega) (by simp)
  simpa using this
theorem OwnP.addr {w : World} {B : Nat} {a : Option Addr} {n c : Nat} {L : List (List ByteArray)} (h : OwnP w B a n c L) (p : Addr) (e : a = some p) : ∃ g, p = ⟨g, 0, none⟩ := by
  obtain ⟨vs, hr, _⟩ := h.row
  rcases hr.2 with ⟨he, h0⟩ | ⟨g', cap, cur, he, _⟩
  · simp [e] at he
  · simp only [Value.slice.injEq] at he
    rw [e] at he
    simp only [Option.some.injEq] at he
    exact ⟨g', he.1⟩
theorem OwnP.base_lt {w : World} {B : Nat} {a : Option Addr} {n c : Nat} {L : List (List ByteArray)} (h : OwnP w B a n c L) : ∀ b o, a = some ⟨b, o, none⟩ → B ≤ b ∧ b < w.heap.size := by
  intro b o e
  obtain ⟨vs, hr, _⟩ := h.row
  rcases hr.2 with ⟨he, h0⟩ | ⟨g', cap, cur, he, hB', hg', _⟩
  · simp [e] at he
  · simp only [Value.slice.injEq] at he
    rw [e] at he
    simp only [Option.some.injEq, Addr.mk.injEq, and_true] at he
    obtain ⟨⟨rfl, _⟩, _⟩ := he
    exact ⟨hB', (Array.getElem?_eq_some_iff.1 hg').1⟩
theorem OwnP.rowblk {w : World} {B : Nat} {a : Option Addr} {n c : Nat} {L : List (List ByteArray)} (h : OwnP w B a n c L) : ∀ b, (Value.slice a n c).ownBlock = some b → B ≤ b ∧ ∃ cur, ∃ fr : Nat × Nat, w.heap[b]? = some (.cells cur 83 fr) := by
  intro b e
  obtain ⟨vs, hr, _⟩ := h.row
  rcases hr.2 with ⟨he, h0⟩ | ⟨g', cap, cur, he, hB', hg', _⟩
  · simp only [Value.slice.injEq] at he
    obtain ⟨rfl, -, -⟩ := he
    simp [Value.ownBlock] at e
  · simp only [Value.slice.injEq] at he
    obtain ⟨rfl, -, -⟩ := he
    simp only [Value.ownBlock, Option.some.injEq] at e
    subst e
    exact ⟨hB', cur, (0, 0), hg'⟩
theorem SRowsAt.keep {w w' : World} {a : Option Addr} {n : Nat} {L : List (List ByteArray)} (h : SRowsAt w a n L) {row : Option Nat} (hg : w.grownBy w' row) (hne : ∀ b, row = some b → ∃ cur, ∃ fr : Nat × Nat, w.heap[b]? = some (.cells cur 83 fr)) (ha : ∀ b o, a = some ⟨b, o, none⟩ → some b ≠ row) : SRowsAt w' a n L := by
  refine ⟨h.len, fun i hi => ?_⟩
  obtain ⟨b, o, v, rfl, hc, hv⟩ := h.get i hi
  have hb : w'.heap[b]? = w.heap[b]? := hg.block b (World.block_lt_of_cell? w _ hc) (ha b o rfl)
  exact ⟨b, o, v, rfl, (World.cell?_of_block (a := ⟨b, o + i, none⟩) hb).trans hc, hv.keep hg hne⟩
theorem Tryz.info83 : (Tryz.prog.info? 83).map (fun i => (i.zero, i.size, i.bytes)) = some (some (.slice none 0 0), 1, 24) := by kernel_rfl
/-- append of one row -/
theorem wpList_append_srow {ops : Array Oper} {rest : List Oper} {o : Oper} {a : Act} {Q : Exit → Act → World → Prop} {w : World} (hgd : o.guard = none) (s x : Operand)
    (ho : o.op = .call { callee := .builtin .append, args := #[s, x], argTypes := #[98, 98] })
    (B : Nat) (av : Option Addr) (nv cv : Nat) (L : List (List ByteArray)) (hs : a.eval s = .slice av nv cv) (hown : OwnP w B av nv cv L)
    (g c : Nat) (y : Value) (ss : List ByteArray) (hx : a.eval x = .slice (some ⟨g, 0, none⟩) 1 c) (hc : w.cell? ⟨g, 0, none⟩ = some y) (hy : HdrS w y ss) (hsm : nv ≤ 1000000000) (hB : B ≤ w.heap.size)
    (h : ∀ a' c' w', OwnP w' B a' (nv + 1) c' (L ++ [ss]) → w.grownBy w' (Value.slice av nv cv).ownBlock → (∀ b o, a' = some ⟨b, o, none⟩ → (∃ o', av = some ⟨b, o', none⟩) ∨ w.heap.size ≤ b) → wpList Tryz.prog ops Q rest (a.put o.dst (.slice a' (nv + 1) c')) w') : wpList Tryz.prog ops Q (o :: rest) a w := by
  obtain ⟨i, hi, hz0, hz1, hz2⟩ := info_parts Tryz.info83
  have hrow := hown.rowblk
  obtain ⟨vs, hr, hv⟩ := hown.row
  have hL := hown.len
  have hl : vs.length = nv := by simpa using hr.1
  have hone : ∀ u ∈ [y], u.oneCell' = true := by
    obtain ⟨a', c', rfl, _, _⟩ := hy
    simp [Value.oneCell']
  refine wpList_append_own_at w hgd s x 98 ho B 83 i (.slice none 0 0) 1 24 Tryz.underlying98 hi hz0 hz1 hz2 rfl (by decide) _ nv vs hs hr ⟨g, 0, none⟩ 1 c [y] hx (by simp) ?_ hone (by unfold maxLen; omega) (by omega) hB ?_
  · intro j u hu
    cases j with
    | zero =>
      simp only [List.getElem?_cons_zero, Option.some.injEq] at hu
      subst hu
      rw [add_none]
      exact hc
    | succ j => simp at hu
  · intro v' w' hr' hg _ hat
    rcases hr'.2 with ⟨_, h0⟩ | ⟨g', cap, cur, he, _⟩
    · omega
    · subst he
      refine h _ _ w' ⟨⟨vs ++ [y], hr', fun i hi => ?_⟩, by simp [hL]⟩ hg (fun b o e => ?_)
      rotate_left
      · simp only [Option.some.injEq, Addr.mk.injEq, and_true] at e
        obtain ⟨rfl, rfl⟩ := e
        simp only [Value.ownBlock] at hat
        rcases hat with h1 | h1
        · left
          cases av with
          | none => simp at h1
          | some p =>
            rcases hr.2 with ⟨he, _⟩ | ⟨g2, cap2, cur2, he, _⟩
            · simp at he
            · simp only [Value.slice.injEq, Option.some.injEq] at he
              obtain ⟨rfl, _⟩ := he
              simp only [Option.some.injEq] at h1
              exact ⟨0, by rw [h1]⟩
        · right
          simp only [Option.some.injEq] at h1
          omega
      rcases Nat.lt_succ_iff_lt_or_eq.1 hi with h3 | rfl
      · rw [getD_app_l _ _ _ _ (by omega), getD_app_l _ _ _ _ (by omega)]
        exact (hv i h3).keep hg fun b e => (hrow b e).2
      · rw [getD_app_r _ _ _ _ (by omega), getD_app_r _ _ _ _ (by omega), hl, hL, Nat.sub_self]
        exact hy.keep hg fun b e => (hrow b e).2
/-- a name, and a list of names behind it -/
theorem wpList_append_names {ops : Array Oper} {rest : List Oper} {o : Oper} {a : Act} {Q : Exit → Act → World → Prop} {w : World} (hgd : o.guard = none) (s x : Operand)
    (ho : o.op = .call { callee := .builtin .append, args := #[s, x], argTypes := #[83, 83] })
    (B : Nat) (av : Option Addr) (nv cv : Nat) (xs : List ByteArray) (hs : a.eval s = .slice av nv cv) (hown : OwnS w B av nv cv xs)
    (v : Value) (ys : List ByteArray) (hx : a.eval x = v) (hy : HdrS w v ys) (hsm : nv + ys.length ≤ 1000000000) (hB : B ≤ w.heap.size)
    (h : ∀ a' c' w', OwnS w' B a' (nv + ys.length) c' (xs ++ ys) → w.grownBy w' (Value.slice av nv cv).ownBlock → wpList Tryz.prog ops Q rest (a.put o.dst (.slice a' (nv + ys.length) c')) w') : wpList Tryz.prog ops Q (o :: rest) a w := by
  obtain ⟨i, hi, hz0, hz1, hz2⟩ := info_parts Tryz.info9
  obtain ⟨a1, c1, rfl, _, hsa, hnil, _⟩ := hy
  cases a1 with
  | none =>
    have hc := hnil rfl
    subst hc
    have hm : ys.length = 0 := by
      rcases Nat.eq_zero_or_pos ys.length with h0 | h0
      · exact h0
      · obtain ⟨_, _, e, _⟩ := hsa.get 0 h0
        cases e
    have hyn : ys = [] := List.eq_nil_of_length_eq_zero hm
    subst hyn
    refine wpList_append_own_none hgd s x 83 ho B 9 i 1 Tryz.underlying83 hi _ nv (svs xs) hs hown.row hx ?_
    have := h av cv w (by simpa using hown) ⟨rfl, rfl, rfl, Nat.le_refl _, fun _ _ _ => rfl⟩
    simpa using this
  | some ad =>
    refine wpList_append_own w hgd s x 83 ho B 9 i (.string ⟨#[]⟩) 1 16 Tryz.underlying83 hi hz0 hz1 hz2 rfl (by decide) _ nv (svs xs) hs hown.row ad ys.length c1 (svs ys) hx (by simp [svs_length]) ?_ (svs_one ys) (by unfold maxLen; omega) (by omega) hB ?_
    · intro j u hu
      have hj : j < ys.length := by have := (List.getElem?_eq_some_iff.1 hu).1; rwa [svs_length] at this
      obtain ⟨b, o', e, hc⟩ := hsa.get j hj
      simp only [Option.some.injEq] at e
      subst e
      rw [add_none, hc]
      rw [svs_get ys j (ys.getD j ByteArray.empty) (by simp [hj])] at hu
      exact hu
    · intro v' w' hr hg hn
      rw [show svs xs ++ svs ys = svs (xs ++ ys) by simp [svs]] at hr
      rcases hr.2 with ⟨he, h0⟩ | ⟨g', cap, cur, he, _⟩
      · exfalso
        have := (hn.1 he).1
        simp only [Value.slice.injEq] at this
        exact hown.nn this.1
      · subst he
        exact h _ _ w' ⟨hr, by simp⟩ hg

theorem OwnS.lit (w : World) (s : ByteArray) : OwnS (w.alloc (.cells #[.string s] 9)) w.heap.size (some ⟨w.heap.size, 0, none⟩) 1 1 [s] := by
  refine ⟨?_, by simp⟩
  have := World.ownsRow_lit (e := 9) (size := 1) (base := w.heap.size) w #[.string s] 1 (Nat.le_refl _) (by unfold maxLen; omega) (by simp)
  simpa [svs] using this
theorem OwnS.hdr {w : World} {B : Nat} {a : Option Addr} {n c : Nat} {xs : List ByteArray} (h : OwnS w B a n c xs) : HdrS w (.slice a n c) xs := by
  have hl := h.len
  subst hl
  have hcap : xs.length ≤ c := by obtain ⟨_, _, _, _, h5, _⟩ := h.form; exact h5
  refine ⟨a, c, rfl, hcap, h.strs, fun e => absurd e h.nn, fun b o e => ?_⟩
  rcases h.row.2 with ⟨he, _⟩ | ⟨g, cap, cur, he, _, hg, _⟩
  · simp only [Value.slice.injEq] at he
    exact absurd he.1 h.nn
  · simp only [Value.slice.injEq] at he
    rw [e] at he
    simp only [Option.some.injEq, Addr.mk.injEq, and_true] at he
    obtain ⟨⟨rfl, _⟩, _⟩ := he
    exact ⟨cur, (0, 0), hg⟩
theorem name_rank (k : Nat) (hk : k < 12) (s : ByteArray) (hs : s = nameS.getD k ByteArray.empty) (h : 1 < s.size) : ((s[1].toNat : Int) - 48) % 256 = (pRank k : Int) := by
  have key : ∀ k, k < 12 → ((((nameS.getD k ByteArray.empty).data[1]?.getD 0).toNat : Int) - 48) % 256 = (pRank k : Int) := by decide +kernel
  have := key k hk
  rw [← hs] at this
  rw [← this]
  congr 2
  have h3 : 1 < s.data.size := h
  rw [Array.getElem?_eq_getElem h3]
  rfl
theorem name_size (k : Nat) (hk : k < 12) (s : ByteArray) (hs : s = nameS.getD k ByteArray.empty) : s.size = 2 := by
  have key : ∀ k, k < 12 → (nameS.getD k ByteArray.empty).size = 2 := by decide +kernel
  rw [hs]
  exact key k hk
def rowS (ks : List Nat) : List ByteArray := ks.map fun k => nameS.getD k ByteArray.empty
theorem rowS_length (ks : List Nat) : (rowS ks).length = ks.length := by simp [rowS]
theorem flatMap_le {α β : Type} (l : List α) (g : α → List β) (M : Nat) (h : ∀ x ∈ l, (g x).length ≤ M) : (l.flatMap g).length ≤ l.length * M := by
  induction l with
  | nil => simp
  | cons x l ih =>
    rw [List.flatMap_cons, List.length_append, List.length_cons, Nat.add_mul, Nat.one_mul]
    have := ih fun y hy => h y (by simp [hy])
    have := h x (by simp)
    omega
/-- the types from one place on -/
def typesD (f rank lo d : Nat) : List (List Nat) := (List.range d).flatMap fun e => if rank < pRank (lo + e) then [] else (typesL f (rank - pRank (lo + e)) (lo + e)).map ((lo + e) :: ·)
theorem typesD_succ (f rank lo d : Nat) : typesD f rank lo (d + 1) = typesD f rank lo d ++ if rank < pRank (lo + d) then [] else (typesL f (rank - pRank (lo + d)) (lo + d)).map ((lo + d) :: ·) := by
  simp [typesD, List.range_succ]
theorem typesL_succ (f rank lo : Nat) (h : rank ≠ 0) : typesL (f + 1) rank lo = typesD f rank lo (12 - lo) := by
  rw [typesL, if_neg h]
  rfl
theorem typesL_len : ∀ (f rank lo : Nat), (typesL f rank lo).length ≤ 13 ^ rank
  | 0, _, _ => by simp [typesL]
  | f + 1, rank, lo => by
    by_cases h : rank = 0
    · subst h; simp [typesL]
    · rw [typesL_succ _ _ _ h]
      refine Nat.le_trans (flatMap_le _ _ (13 ^ (rank - 1)) fun e he => ?_) ?_
      · have he := List.mem_range.1 he
        split
        · simp
        · rename_i h2
          rw [List.length_map]
          refine Nat.le_trans (typesL_len f _ _) (Nat.pow_le_pow_right (by omega) ?_)
          have := (pRank_pos (lo + e) (by omega)).1
          omega
      · rw [List.length_range, show rank = (rank - 1) + 1 by omega, Nat.pow_succ, Nat.add_sub_cancel, Nat.mul_comm]
        exact Nat.mul_le_mul_left _ (by omega)
theorem typesD_len (f rank lo d : Nat) (h0 : rank ≠ 0) (hd : lo + d ≤ 12) : (typesD f rank lo d).length ≤ 13 ^ rank := by
  refine Nat.le_trans (flatMap_le _ _ (13 ^ (rank - 1)) fun e he => ?_) ?_
  · have he := List.mem_range.1 he
    split
    · simp
    · rw [List.length_map]
      refine Nat.le_trans (typesL_len f _ _) (Nat.pow_le_pow_right (by omega) ?_)
      have := (pRank_pos (lo + e) (by omega)).1
      omega
  · rw [List.length_range]
    conv => rhs; rw [show rank = (rank - 1) + 1 by omega, Nat.pow_succ, Nat.mul_comm]
    exact Nat.mul_le_mul_right _ (by omega)
theorem pow13 {rank : Nat} (h : rank ≤ 4) : 13 ^ rank ≤ 28561 := Nat.le_trans (Nat.pow_le_pow_right (by omega) h) (by decide)
theorem typesL_short : ∀ (f rank lo : Nat), ∀ ks ∈ typesL f rank lo, ks.length ≤ rank
  | 0, _, _, ks, h => by simp [typesL] at h
  | f + 1, rank, lo, ks, h => by
    by_cases h0 : rank = 0
    · subst h0; simp [typesL] at h; simp [h]
    · rw [typesL_succ _ _ _ h0] at h
      simp only [typesD, List.mem_flatMap, List.mem_range] at h
      obtain ⟨e, he, h⟩ := h
      split at h
      · simp at h
      · simp only [List.mem_map] at h
        obtain ⟨ks', hk, rfl⟩ := h
        have := typesL_short f _ _ ks' hk
        have := (pRank_pos (lo + e) (by omega)).1
        simp
        omega
set_option maxRecDepth 100000 in
set_option maxHeartbeats 4000000 in
theorem typesOf_any : ∀ (f rank lo : Nat) (w : World), rank < f → rank ≤ 4 → lo ≤ 12 →
    Calls Tryz.prog 86 #[.int .i64 rank, .int .i64 lo] w fun e w' => ∃ a c, e = .returned (.slice a (typesL f rank lo).length c) ∧ SRowsAt w' a (typesL f rank lo).length ((typesL f rank lo).map rowS) ∧ Ext w w' ∧ ∀ b o, a = some ⟨b, o, none⟩ → w.heap.size ≤ b ∧ b < w'.heap.size := by
  intro f
  induction f with
  | zero => intro rank lo w h; omega
  | succ f ih =>
    intro rank lo w hf hr4 hlo
    by_cases h0 : rank = 0
    · subst h0
      have HN : Hid (SRowsAt (w.alloc (.cells #[.slice none 0 0] 83)) (some ⟨w.heap.size, 0, none⟩) 1 [[]]) := by
        refine ⟨rfl, fun i hi => ?_⟩
        obtain rfl : i = 0 := by omega
        exact ⟨_, 0, _, rfl, (cell_top _ _ _ _ _ rfl).trans rfl, HdrS.nil _⟩
      clear ih
      go_enter Tryz.func86, Tryz.ntmps86
      go_wp2
      go_ret
      exact ⟨_, _, rfl, HN.out, Ext.alloc _ _, fun b o e => by cases e; simp⟩
    · have hr0 : ((rank : Int) == 0) = false := by simp; omega
      have HT := hidP (typesL_succ f rank lo h0)
      have HM := hidP (OwnP.made w)
      have HX0 := hidP (Ext.alloc w (.cells #[] 83))
      have HN := hidP (fun w' => partNames_any w')
      have HI := hidP ih
      have hrp : 0 < rank := by omega
      have HZ := hidP h0
      rw [HT.out]
      clear ih h0
      go_enter Tryz.func86, Tryz.ntmps86
      go_wp2
      go_loopw [5, 6] (fun u t wr => ∃ (d : Nat) (av : Option Addr) (cv : Nat), lo + d ≤ 12 ∧ t = .int .i64 (lo + d : Nat) ∧ u = .slice av (typesD f rank lo d).length cv ∧ Hid (OwnP wr w.heap.size av (typesD f rank lo d).length cv ((typesD f rank lo d).map rowS)) ∧ Hid (Ext w wr)) (fun _ t _ => 12 - (intOf t).toNat)
      case atStart => exact ⟨0, _, _, hlo, rfl, rfl, HM, HX0⟩
      case round =>
        clear HM HX0
        obtain ⟨d, av, cv, hd, rfl, rfl, HO, HX⟩ := hrel
        have hlen := typesD_len f rank lo d HZ.out hd
        have h13 := pow13 hr4
        have HTS := hidP (typesD_succ f rank lo d)
        obtain ⟨wo, rfl⟩ : ∃ wo : World, wo = wr := ⟨_, rfl⟩
        have HP := HN.out
        go_wp2_with fail
        refine (HN.out _).mono ?_
        rintro e w1 ⟨bn, rfl, _, hx1⟩
        have HX1 := hidP hx1
        clear hx1
        by_cases hlt : lo + d < 12
        · go_wp2_with fail
          refine (HN.out _).mono ?_
          rintro e w2 ⟨bm, rfl, hs2, hx2⟩
          obtain ⟨b, o, e, q⟩ := hs2.get (lo + d) hlt
          simp only [Option.some.injEq, Addr.mk.injEq, and_true] at e
          obtain ⟨rfl, rfl⟩ := e
          obtain ⟨s, hs⟩ : ∃ s, s = nameS.getD (lo + d) ByteArray.empty := ⟨_, rfl⟩
          rw [← hs] at q
          have hz2 := name_size _ hlt s hs
          have hz : 1 < s.size := by omega
          have hrk := name_rank _ hlt s hs hz
          have HS := hidP hs
          have HX2 := hidP (HX1.out.trans hx2)
          have hp := pRank_pos _ hlt
          generalize hpk : pRank (lo + d) = n at *
          have HPK := hidP hpk
          rw [Nat.zero_add] at q
          clear hs hx2 hs2 hz2 hpk HX1
          by_cases hgt : rank < n
          · have HE : Hid (typesD f rank lo (d + 1) = typesD f rank lo d) := by
              show _ = _
              rw [HTS.out, if_pos hgt, List.append_nil]
            go_wp2
            go_roundw
            case rel => exact ⟨d + 1, av, cv, by omega, by go_num, by rw [HE.out], by rw [HE.out]; exact HO.out.keep HX2.out, HX.out.trans HX2.out⟩
            case measure => simp [intOf]; omega
          · have HE : Hid (typesD f rank lo (d + 1) = typesD f rank lo d ++ (typesL f (rank - n) (lo + d)).map ((lo + d) :: ·)) := by
              show _ = _
              rw [HTS.out, if_neg hgt]
            have HC := hidP (fun w' => HI.out (rank - n) (lo + d) w' (by omega) (by omega) (by omega))
            have hsub : ((rank : Int) - n) = ((rank - n : Nat) : Int) := by omega
            simp only [Int.natCast_add] at HC
            have HL2 := hidP (typesL_len f (rank - n) (lo + d))
            have h132 := pow13 (show rank - n ≤ 4 by omega)
            have HSh := hidP (typesL_short f (rank - n) (lo + d))
            generalize typesL f (rank - n) (lo + d) = L2 at *
            generalize typesD f rank lo d = L1 at *
            go_wp2_with fail
            refine (HC.out _).mono ?_
            rintro e w3 ⟨a3, c3, rfl, hs3, hx3, ha3⟩
            have HA3 := hidP ha3
            have HS3 := hidP hs3
            have HX3 := hidP (HX2.out.trans hx3)
            have HO3 := hidP (HO.out.keep HX3.out)
            have HA2 : Hid (∀ b o, av = some ⟨b, o, none⟩ → b < w2.heap.size ∨ w3.heap.size ≤ b) := fun b o e => .inl ((HO.out.keep HX2.out).base_lt b o e).2
            have HXa := hidP (HX.out.trans HX3.out)
            have hl2 : L2.length ≤ 28561 := Nat.le_trans HL2.out h132
            clear hs3 hx3 q hsub ha3
            go_wp2
            go_loopw [5, 39] (fun u t wr => ∃ (k : Nat) (av : Option Addr) (cv : Nat), k ≤ L2.length ∧ t = .int .i64 k ∧ u = .slice av (L1.length + k) cv ∧ Hid (OwnP wr w.heap.size av (L1.length + k) cv (L1.map rowS ++ (L2.take k).map fun ks => s :: rowS ks)) ∧ Hid (Ext w wr) ∧ Hid (∀ b o, av = some ⟨b, o, none⟩ → b < w2.heap.size ∨ w3.heap.size ≤ b) ∧ Hid (w3.heap.size ≤ wr.heap.size) ∧ Hid (SRowsAt wr a3 L2.length (L2.map rowS))) (fun _ t _ => L2.length - (intOf t).toNat)
            case atStart => exact ⟨0, _, _, Nat.zero_le _, rfl, rfl, by show OwnP _ _ _ _ _ _; simpa using HO3.out, HXa, HA2, Nat.le_refl _, HS3⟩
            case round =>
              clear HO3 HXa HS3 HX3
              obtain ⟨k, av, cv, hk, rfl, rfl, HO, HX, HA, HW3, HS3⟩ := hrel
              by_cases hlk : k < L2.length
              · obtain ⟨b, o, v, rfl, qv, hv⟩ := HS3.out.get k hlk
                have hgd : (L2.map rowS).getD k [] = rowS (L2.getD k []) := by simp [List.getD_eq_getElem?_getD, hlk]
                rw [hgd] at hv
                have hsh : (L2.getD k []).length ≤ rank - n := HSh.out _ (by rw [List.getD_eq_getElem?_getD, List.getElem?_eq_getElem hlk]; exact List.getElem_mem hlk)
                have HTK : Hid ((L1.map rowS ++ (L2.take k).map fun ks => s :: rowS ks) ++ [s :: rowS (L2.getD k [])] = L1.map rowS ++ (L2.take (k + 1)).map fun ks => s :: rowS ks) := by
                  show _ = _
                  rw [List.take_succ_eq_append_getElem hlk, List.map_append, List.append_assoc]
                  simp [List.getD_eq_getElem?_getD, hlk]
                have hlr : (rowS (L2.getD k [])).length ≤ 4 := by rw [rowS_length]; omega
                generalize rowS (L2.getD k []) = ss at *
                have HV := hidP hv
                clear hv hgd hsh
                have hxl := Ext.alloc wr (.cells #[.string s] 9)
                have HW0 := hidP (OwnS.lit wr s)
                have HVa := hidP (HV.out.below hxl)
                have HOa := hidP (HO.out.keep hxl)
                have HXl := hidP hxl
                have hX := HX.out.size
                clear hxl
                go_wp2_with (first
                  | (at_builtin; refine wpList_append_names rfl (.tmp 45) (.tmp 46) rfl wr.heap.size (some ⟨wr.heap.size, 0, none⟩) 1 1 [s] rfl HW0.out v ss rfl HVa.out (by omega) (by simp) ?_; intro a4 c4 w4 ho4 hg4; have hx4 := HW0.out.ext hg4 HXl.out (Nat.le_refl _); have hd4 := ho4.hdr; have hxn := Ext.alloc w4 (.cells #[.slice a4 (1 + ss.length) c4] 83); have HD4 := hidP (hd4.below hxn); have HC4 := hidP ((cell_top w4 #[.slice a4 (1 + ss.length) c4] 83 w4.heap.size 0 rfl).trans (show _ = some (Value.slice a4 (1 + ss.length) c4) from rfl)); have HO4 := hidP (HO.out.keep (hx4.trans hxn)); have HX4 := hidP (hx4.trans hxn); clear ho4 hg4 hx4 hd4 hxn)
                  | (at_builtin; refine wpList_append_srow rfl (.tmp 43) (.tmp 48) rfl w.heap.size av (L1.length + k) cv _ rfl HO4.out w4.heap.size 1 _ ([s] ++ ss) rfl HC4.out HD4.out (by omega) (Nat.le_trans hX HX4.out.size) ?_; intro a6 c6 w6 ho6 hg6 hn6))
                rw [List.singleton_append, HTK.out] at ho6
                have HO6 := hidP ho6
                have hrb := HO4.out.rowblk
                have HX6 := hidP (Below.grown (HX.out.trans HX4.out) hg6 (Nat.le_trans hX HX4.out.size) fun b e => (hrb b e).1)
                have HW6 : Hid (w3.heap.size ≤ w6.heap.size) := Nat.le_trans HW3.out (Nat.le_trans HX4.out.size hg6.size)
                have HA6 : Hid (∀ b o, a6 = some ⟨b, o, none⟩ → b < w2.heap.size ∨ w3.heap.size ≤ b) := fun b o e => by
                  rcases hn6 b o e with ⟨o', e'⟩ | h
                  · exact HA.out b o' e'
                  · right
                    have := HW3.out
                    have := HX4.out.size
                    omega
                have HS6 := hidP ((HS3.out.below HX4.out).keep hg6 (fun b e => (hrb b e).2) fun b' o' e' hr => by
                  have h1 := HA3.out b' o' e'
                  cases hav : av with
                  | none => rw [hav] at hr; simp [Value.ownBlock] at hr
                  | some p =>
                    obtain ⟨g, rfl⟩ := HO.out.addr p hav
                    rw [hav] at hr
                    simp only [Value.ownBlock, Option.some.injEq] at hr
                    have h2 := HA.out g 0 hav
                    omega)
                clear hrb hg6 hn6 ho6
                go_roundw
                case rel => exact ⟨k + 1, a6, c6, by omega, by go_num, rfl, HO6, HX6, HA6, HW6, HS6⟩
                case measure => simp [intOf]; omega
              · obtain rfl : k = L2.length := by omega
                go_wp2
                go_roundw
                case rel =>
                  refine ⟨d + 1, av, cv, by omega, by go_num, by rw [HE.out]; simp, ?_, HX⟩
                  have := HO.out
                  rw [List.take_length] at this
                  rw [HE.out, List.map_append, List.map_map, List.length_append, List.length_map]
                  have he : (rowS ∘ fun x => (lo + d) :: x) = fun ks => s :: rowS ks := by
                    funext ks
                    have e : rowS ((lo + d) :: ks) = nameS.getD (lo + d) ByteArray.empty :: rowS ks := rfl
                    show rowS ((lo + d) :: ks) = s :: rowS ks
                    rw [e, ← HS.out]
                  rw [he]
                  exact this
                case measure => simp [intOf]; omega
        · obtain rfl : d = 12 - lo := by omega
          go_wp2
          go_ret
          exact ⟨_, _, rfl, (HO.out.keep HX1.out).rows, HX.out.trans HX1.out, (HO.out.keep HX1.out).base_lt⟩
end Go.Proofs.YtdhlapppahkjeaaGreatDoor

namespace Go.Proofs.YtdhlapppahkjeaaGreatDoor
open Go.RowKit

def joinN (ks : List Nat) : ByteArray := str (Lib.join ((rowS ks).map (·.data.toList)) [43])
theorem split_all : ∀ ks ∈ allTypes, Lib.splitB ⟨#[43]⟩ 0 (Lib.countB (joinN ks) ⟨#[43]⟩) (joinN ks) = rowS ks ∧ Lib.countB (joinN ks) ⟨#[43]⟩ + 1 = ks.length ∧ (joinN ks).size ≤ 20 ∧ 1 ≤ (joinN ks).size := by decide +kernel

theorem Tryz.info29 : (Tryz.prog.info? 29).map (fun i => (i.zero, i.size, i.bytes)) = some (some (.agg #[.int .i64 0, .slice none 0 0]), 2, 32) := by kernel_rfl
/-- internal/bytealg.MaxLen holds some number -/
def MaxL (w : World) : Prop := ∃ m, w.cell? ⟨0, 0, none⟩ = some (.int .i64 m)
theorem MaxL.below {w w' : World} (h : MaxL w) (hx : Ext w w') : MaxL w' := by
  obtain ⟨m, hm⟩ := h
  exact ⟨m, (hx.cell (p := ⟨0, 0, none⟩) (World.block_lt_of_cell? w _ hm)).trans hm⟩
theorem split_any (ks : List Nat) (hks : ks ∈ allTypes) (w : World) (hm : MaxL w) :
    Calls Tryz.prog 110 #[.string (joinN ks), .string ⟨#[43]⟩] w fun e w' => ∃ b, e = .returned (.slice (some ⟨b, 0, none⟩) ks.length ks.length) ∧ StrsAt w' (some ⟨b, 0, none⟩) ks.length (rowS ks) ∧ Ext w w' := by
  obtain ⟨h1, h2, h3, h4⟩ := split_all ks hks
  obtain ⟨m, hm⟩ := hm
  refine (Tryz.strings_Split (joinN ks) ⟨#[43]⟩ m w (by omega) hm (by decide)).mono fun e w' ⟨he, hw⟩ => ⟨w.heap.size, ?_, ?_, ?_⟩
  · rw [he, h2]
  · rw [hw, h1]
    have := strs_alloc w (rowS ks) 9
    rw [rowS_length] at this
    exact this
  · rw [hw]
    exact Ext.alloc _ _
theorem take_map_snoc (ks : List Nat) (k : Nat) (h : k < ks.length) : (ks.take (k + 1)).map partP = (ks.take k).map partP ++ [partP (ks.getD k 0)] := by
  rw [List.take_succ_eq_append_getElem h, List.map_append]
  simp [List.getD_eq_getElem?_getD, h]
set_option maxRecDepth 100000 in
set_option maxHeartbeats 4000000 in
theorem cartanOf_any (ks : List Nat) (hks : ks ∈ allTypes) (w : World) (hm : MaxL w) :
    Calls Tryz.prog 87 #[.string (joinN ks)] w fun e w' => ∃ a, e = .returned (.tuple #[carV (rankL ks) a (rankL ks * rankL ks) (rankL ks * rankL ks), .bool true]) ∧ OwnI w' w.heap.size a (rankL ks * rankL ks) (rankL ks * rankL ks) (blockL ks) ∧ Ext w w' := by
  obtain ⟨t1, t2, t3, t4⟩ := types_all ks hks
  have HK := hidP t1
  obtain ⟨R, hR⟩ : ∃ R, R = rankL ks := ⟨_, rfl⟩
  have HJ := hidP (fun (a : Option Addr) (n c : Nat) w' (h : CarsAt w' a n ks) => joined_any ks hks a n c w' h)
  rw [← hR] at t2 t3 HJ ⊢
  have HR := hidP hR
  have hx0 := Ext.alloc w (.cells #[.int .i64 0, .slice none 0 0] 29)
  have HS := hidP (split_any ks hks _ (hm.below hx0))
  have HX0 := hidP hx0
  obtain ⟨n, hn⟩ : ∃ n, n = ks.length := ⟨_, rfl⟩
  rw [← hn] at HS t4
  have HL := hidP hn
  clear t1 hR hx0 hn hm
  generalize joinN ks = nm at *
  go_enter Tryz.func87, Tryz.ntmps87
  go_wp2_with fail
  refine HS.out.mono ?_
  rintro e w1 ⟨bs, rfl, hs1, hx1⟩
  have HS1 := hidP hs1
  have HXr := hidP hx1
  have HX1 := hidP (HX0.out.trans hx1)
  have hb2 : w.heap.size < w1.heap.size := by have := hx1.size; simp at this; omega
  clear hs1 hx1 HS
  go_wp2
  have HO := hidP (OwnK.made0 carK w1)
  have HX2 := hidP (Ext.alloc w1 (.cells #[] 29))
  rw [show carK.E = 29 from rfl] at HO
  go_loopw [16, 5, 6] (fun t u v wr => ∃ (k : Nat) (av : Option Addr) (cv : Nat) (hv : List Hdr), k ≤ n ∧ t = .int .i64 k ∧ u = .slice av k cv ∧ v = .int .i64 (offK ks k) ∧ Hid (OwnK carK wr w1.heap.size wr.heap.size av k cv hv ((ks.take k).map partP)) ∧ Hid (Ext w1 wr)) (fun t _ _ _ => n - (intOf t).toNat)
  case atStart => exact ⟨0, _, _, [], Nat.zero_le _, rfl, rfl, rfl, HO, HX2⟩
  case round =>
    clear HO HX2
    obtain ⟨k, av, cv, hv, hk, rfl, rfl, rfl, HO, HX⟩ := hrel
    obtain ⟨wo, rfl⟩ : ∃ wo : World, wo = wr := ⟨_, rfl⟩
    by_cases hlt : k < n
    · obtain ⟨b, o, e, q⟩ := (HS1.out.below HX.out).get k hlt
      simp only [Option.some.injEq, Addr.mk.injEq, and_true] at e
      obtain ⟨rfl, rfl⟩ := e
      rw [Nat.zero_add] at q
      have hki : ks.getD k 0 < 12 := HK.out _ (getD_mem (by rw [← HL.out]; exact hlt))
      have hgd : (rowS ks).getD k ByteArray.empty = nameS.getD (ks.getD k 0) ByteArray.empty := by
        have : k < ks.length := by rw [← HL.out]; exact hlt
        simp [rowS, List.getD_eq_getElem?_getD, this]
      rw [hgd] at q
      have HOK := hidP (offK_succ ks k (by rw [← HL.out]; exact hlt))
      have HT := hidP (take_map_snoc ks k (by rw [← HL.out]; exact hlt))
      have hol := offK_le ks (ks.length - (k + 1)) (k + 1) (by have := HL.out; omega)
      rw [show k + 1 + (ks.length - (k + 1)) = ks.length by have := HL.out; omega, offK_all, HOK.out, ← HR.out] at hol
      have HP := hidP (fun w' => partCartan_any (ks.getD k 0) hki _ rfl w')
      have HPL := hidP (pMat_length _ hki)
      have hrk := pRank_pos _ hki
      generalize ks.getD k 0 = kk at *
      have HPP : Hid (partP kk = ((pRank kk : Int), pMat kk)) := rfl
      generalize nameS.getD kk ByteArray.empty = s at *
      generalize offK ks k = ok at *
      generalize pRank kk = r at *
      clear hgd
      go_wp2_with fail
      refine (HP.out _).mono ?_
      rintro e w3 ⟨a3, rfl, ho3, hx3⟩
      have HO3 := hidP ho3
      have HXo := hidP hx3
      have HX3 := hidP (HX.out.trans hx3)
      clear ho3 hx3
      have hxa := Ext.alloc w3 (.cells #[.int .i64 r, .slice a3 (r * r) (r * r)] 29)
      have hxb := Ext.alloc (w3.alloc (.cells #[.int .i64 r, .slice a3 (r * r) (r * r)] 29)) (.cells #[.int .i64 r, .slice a3 (r * r) (r * r)] 29)
      have HX5 := hidP (HX3.out.trans (hxa.trans hxb))
      have HO5 := hidP (HO.out.below (HXo.out.trans (hxa.trans hxb)))
      have HI5 : Hid (OwnI ((w3.alloc (.cells #[.int .i64 r, .slice a3 (r * r) (r * r)] 29)).alloc (.cells #[.int .i64 r, .slice a3 (r * r) (r * r)] 29)) w1.heap.size a3 (carK.ints (partP kk)).length (r * r) (carK.ints (partP kk))) := by
        rw [HPP.out]
        show OwnI _ _ _ (pMat kk).length _ (pMat kk)
        rw [HPL.out]
        exact (HO3.out.below (hxa.trans hxb)).base HX.out.size
      have HCl : Hid (∀ j, j < carK.size → ((w3.alloc (.cells #[.int .i64 r, .slice a3 (r * r) (r * r)] 29)).alloc (.cells #[.int .i64 r, .slice a3 (r * r) (r * r)] 29)).cell? ⟨w3.heap.size + 1, j, none⟩ = (carK.cells a3 (r * r) (partP kk))[j]?) := fun j hj => by
        rw [cell_top _ _ _ _ _ (by simp), HPP.out]
        show _ = ([Value.int .i64 r, Value.slice a3 (pMat kk).length (r * r)])[j]?
        rw [HPL.out]
        simp
      have HAp : Hid (∀ q, q < k → Apart (hv.getD q (none, 0)).1 a3) := fun q hq b o b' o' e e' => by
        have := HO.out.lt q hq b o e
        have := (HO3.out.at_base b' o' e').1
        omega
      have HFr : Hid (Apart av a3) := fun b o b' o' e e' => by
        have := HO.out.olt b o e
        have := (HO3.out.at_base b' o' e').1
        omega
      clear hxa hxb HO3
      go_wp2_with (at_builtin; refine wpList_append_elem2 carK 130 (.agg #[.int .i64 0, .slice none 0 0]) 32 rfl (.tmp 32) (.tmp 34) rfl Tryz.underlying130 Tryz.info29 rfl (by omega) w1.heap.size _ av k cv hv _ rfl HO5.out (w3.heap.size + 1) 1 (a3, r * r) (partP kk) rfl HCl.out HI5.out HAp.out HFr.out (by omega) HX5.out.size ?_; intro a6 c6 w6 ho6 hg6 hn6)
      have HX6 := hidP (HO5.out.below_grown hg6 HX5.out HX5.out.size)
      rw [← HT.out] at ho6
      have HO6 := hidP ho6
      go_roundw
      case rel => exact ⟨k + 1, a6, c6, _, by omega, by go_num, rfl, by rw [HOK.out]; simp, HO6, HX6⟩
      case measure => simp [intOf]; omega
    · obtain rfl : k = n := by omega
      have hof : offK ks k = R := by rw [HR.out, HL.out, offK_all]
      rw [hof]
      have hot : (ks.take k) = ks := by rw [HL.out, List.take_length]
      rw [hot] at HO
      have HJw := hidP (HJ.out av k cv wo (HO.out.cars HK.out))
      have hrg : ¬ (4 < (R : Int)) := by omega
      clear hof hot
      go_wp2_with fail
      refine HJw.out.mono ?_
      rintro e w3 ⟨a3, rfl, ho3, hx3⟩
      have hxx := (HXr.out.trans HX.out).trans hx3
      obtain ⟨c0, f0⟩ := new_cell (w := w) (b := w.heap.size) rfl hxx 0
      obtain ⟨c1, f1⟩ := new_cell (w := w) (b := w.heap.size) rfl hxx 1
      have c0' : w3.cell? ⟨w.heap.size, 0, none⟩ = some (.int .i64 0) := c0
      have c1' : w3.cell? ⟨w.heap.size, 1, none⟩ = some (.slice none 0 0) := c1
      have hl3 : w.heap.size < w3.heap.size := by have := hxx.size; simp at this; omega
      have hne : ∀ g, a3 = some ⟨g, 0, none⟩ → g ≠ w.heap.size := fun g e => by have := (ho3.at_base g 0 e).1; have := HX.out.size; omega
      have HEnd : Hid (OwnI ((w3.setCell ⟨w.heap.size, 0, none⟩ (.int .i64 R)).setCell ⟨w.heap.size, 1, none⟩ (.slice a3 (R * R) (R * R))) w.heap.size a3 (R * R) (R * R) (blockL ks) ∧ Ext w ((w3.setCell ⟨w.heap.size, 0, none⟩ (.int .i64 R)).setCell ⟨w.heap.size, 1, none⟩ (.slice a3 (R * R) (R * R)))) := by
        refine ⟨?_, ?_⟩
        · have h1 := ho3.base (B' := wo.heap.size) (Nat.le_refl _)
          have h2 : OwnI ((w3.setCell ⟨w.heap.size, 0, none⟩ (.int .i64 R)).setCell ⟨w.heap.size, 1, none⟩ (.slice a3 (R * R) (R * R))) wo.heap.size a3 (R * R) (R * R) (blockL ks) := (h1.setBelow _ 0 (by have := HX.out.size; omega) _).setBelow _ 1 (by have := HX.out.size; omega) _
          exact h2.base (by have := HX.out.size; omega)
        · exact (((HX1.out.trans HX.out).trans hx3).setNew _ _ (Nat.le_refl _) _).setNew _ _ (Nat.le_refl _) _
      clear ho3 hx3 hxx c0 c1 hne
      go_wp2
      refine bodyPost_ret (v := .tuple #[carV R a3 (R * R) (R * R), .bool true]) (by simp [results, Tryz.results87, go_sem, c0', c1']) rfl ⟨a3, rfl, ?_, ?_⟩
      · exact HEnd.out.1
      · exact HEnd.out.2
end Go.Proofs.YtdhlapppahkjeaaGreatDoor

namespace Go.Proofs.YtdhlapppahkjeaaGreatDoor
open Go.RowKit

def memTB (r : Nat) : Bool := (typesL 5 r 0).all fun ks => allTypes.contains ks && decide (rankL ks = r) && decide (1 ≤ ks.length) && decide (ks.length ≤ 4)
theorem memTB_all : ∀ r, r < 5 → 1 ≤ r → memTB r = true := by decide +kernel
theorem types_mem (r : Nat) (h1 : r < 5) (h2 : 1 ≤ r) : ∀ ks ∈ typesL 5 r 0, ks ∈ allTypes ∧ rankL ks = r ∧ 1 ≤ ks.length ∧ ks.length ≤ 4 := by
  intro ks hk
  have := memTB_all r h1 h2
  simp only [memTB, List.all_eq_true, Bool.and_eq_true, decide_eq_true_eq, List.contains_iff_mem] at this
  obtain ⟨⟨⟨a, b⟩, c⟩, d⟩ := this ks hk
  exact ⟨a, b, c, d⟩
/-- a name if it is a type's matrix, else none -/
def NameIf (b : Bool) (s : ByteArray) : Prop := (b = true → s.toList.isEmpty = false) ∧ (b = false → s = ⟨#[]⟩)
theorem NameIf.no {b : Bool} (h : b = false) : NameIf b ⟨#[]⟩ := ⟨fun e => absurd (h.symm.trans e) (by simp), fun _ => rfl⟩
theorem NameIf.yes {b : Bool} {s : ByteArray} (h : b = true) (hs : s.toList.isEmpty = false) : NameIf b s := ⟨fun _ => hs, fun e => absurd (h.symm.trans e) (by simp)⟩
theorem name_ne : ∀ ks ∈ allTypes, (joinN ks).toList.isEmpty = false := by decide +kernel
theorem join_any (v : Value) (ks : List Nat) (hks : ks ∈ allTypes) (h1 : 1 ≤ ks.length) (h4 : ks.length ≤ 4) (w : World) (h : HdrS w v (rowS ks)) :
    Calls Tryz.prog 78 #[v, .string ⟨#[43]⟩] w fun e w' => e = .returned (.string (joinN ks)) ∧ Ext w w' := by
  obtain ⟨a, c, rfl, hcap, hs, _, ht⟩ := h
  obtain ⟨_, _, hz, _⟩ := split_all ks hks
  have hl := rowS_length ks
  obtain ⟨b, o, rfl, _⟩ := hs.get 0 (by omega)
  obtain ⟨cur, fr, hb⟩ := ht b o rfl
  have hsz : (Lib.join ((rowS ks).map (·.data.toList)) [43]).length ≤ 20 := by
    have : (joinN ks).size = (Lib.join ((rowS ks).map (·.data.toList)) [43]).length := str_size _
    omega
  have := Tryz.strings_Join b o c (rowS ks) ⟨#[43]⟩ w (fun j x hx => by
    have hj : j < (rowS ks).length := (List.getElem?_eq_some_iff.1 hx).1
    obtain ⟨b', o', e, hc⟩ := hs.get j hj
    simp only [Option.some.injEq, Addr.mk.injEq, and_true] at e
    obtain ⟨rfl, rfl⟩ := e
    rw [hc, List.getD_eq_getElem?_getD, hx]
    rfl) (Array.getElem?_eq_some_iff.1 hb).1 (by omega) (by omega) (by show (Lib.join _ [43]).length ≤ _; omega)
  refine this.mono fun e w' ⟨he, hw⟩ => ⟨he, hw⟩
set_option maxRecDepth 100000 in
set_option maxHeartbeats 4000000 in
theorem typeOf_any (r : Int) (a : Option Addr) (n c : Nat) (xs : List Int) (w : World) (h : IntsAt w a n xs) (hn : n ≤ 9223372036854775807) (hm : MaxL w) :
    Calls Tryz.prog 63 #[carV r a n c] w fun e w' => ∃ s : ByteArray, e = .returned (.string s) ∧ NameIf (typeB r xs) s ∧ Ext w w' := by
  have L := hidP h.len
  have hx0 := Ext.alloc w (.cells #[.int .i64 r, .slice a n c] 29)
  obtain ⟨f0, f1⟩ := CarAt.new w _ rfl r a n c 29
  cases hi : insB r 1 4
  · have HT : Hid (typeB r xs = false) := by
      show _ = _
      unfold typeB
      have : decide (1 ≤ r ∧ r ≤ 4) = false := hi
      rw [this]
      rfl
    have HI := hidP (fun w' => inside_any r 1 4 w')
    rw [hi] at HI
    have HX0 := hidP hx0
    clear h hi hx0
    go_enter Tryz.func63, Tryz.ntmps63
    go_wp2_with fail
    refine (HI.out _).mono ?_
    rintro e w' ⟨rfl, rfl⟩
    go_wp2
    go_ret
    exact ⟨_, rfl, NameIf.no HT.out, HX0.out⟩
  · obtain ⟨h1, h4⟩ := insB_true.1 hi
    have HI := hidP (fun w' => inside_any r 1 4 w')
    rw [hi] at HI
    have hdi : decide (1 ≤ r ∧ r ≤ 4) = true := hi
    have hr0 : 0 ≤ r * r := Int.mul_nonneg (by omega) (by omega)
    have hr16 : r * r ≤ 16 := by
      have := Int.mul_le_mul h4 h4 (by omega) (by omega : (0 : Int) ≤ 4)
      omega
    by_cases hl : (n : Int) = r * r
    · obtain ⟨R, rfl⟩ : ∃ R : Nat, r = R := ⟨r.toNat, by omega⟩
      have hR1 : 1 ≤ R := by omega
      have hR4 : R ≤ 4 := by omega
      have hnr : n = R * R := by rw [← Int.natCast_mul] at hl; omega
      subst hnr
      have HT : Hid (typeB (R : Int) xs = (typesL 5 R 0).any fun ks => reordB xs R (blockL ks)) := by
        show _ = _
        unfold typeB
        rw [hdi, Int.toNat_natCast, decide_eq_true (by rw [L.out]; exact hl), Bool.true_and, Bool.true_and]
      have hTM := types_mem R (by omega) hR1
      have HTM := hidP hTM
      have HTO := hidP (fun w' => typesOf_any 5 R 0 w' (by omega) hR4 (by omega))
      have hlb : ((((R * R : Nat) : Int)) != (R : Int) * R) = false := by
        rw [Int.natCast_mul]; simp
      have H := hidP (h.below hx0)
      have HMx := hidP (hm.below hx0)
      have HX0 := hidP hx0
      have hlen := typesL_len 5 R 0
      have h13 := pow13 hR4
      have HLn : Hid ((typesL 5 R 0).length ≤ 28561) := Nat.le_trans hlen h13
      generalize typesL 5 R 0 = T at *
      clear h hi hx0 hl hdi hTM hm hlen h13
      go_enter Tryz.func63, Tryz.ntmps63
      go_wp2_with fail
      refine (HI.out _).mono ?_
      rintro e w' ⟨rfl, rfl⟩
      obtain ⟨w0, hw0⟩ : ∃ w0, w0 = w.alloc (.cells #[.int .i64 R, .slice a (R * R) c] 29) := ⟨_, rfl⟩
      rw [← hw0] at f0 f1 H HMx HX0 ⊢
      obtain ⟨b1, hb1⟩ : ∃ b, b = w.heap.size := ⟨_, rfl⟩
      rw [← hb1] at f0 f1 ⊢
      have HC : Hid (CarAt w0 b1 R a (R * R) c) := ⟨f0, f1⟩
      clear hw0 hb1
      go_wp2_with fail
      refine (HTO.out _).mono ?_
      rintro e w1 ⟨a1, c1, rfl, hs1, hx1, _⟩
      have HS1 := hidP hs1
      have HX1 := hidP hx1
      clear hs1 hx1 f0 f1
      go_wp2
      go_loopw [27] (fun t wr => ∃ k : Nat, k ≤ T.length ∧ t = .int .i64 k ∧ Hid (∀ q, q < k → reordB xs R (blockL (T.getD q [])) = false) ∧ Hid (Ext w1 wr)) (fun t _ => T.length - (intOf t).toNat)
      case atStart => exact ⟨0, Nat.zero_le _, rfl, fun q hq => by omega, Ext.refl _⟩
      case round =>
        obtain ⟨k, hk, rfl, HJ, HX⟩ := hrel
        have hln := HLn.out
        by_cases hlt : k < T.length
        · obtain ⟨b, o, v, rfl, qv, hv⟩ := (HS1.out.below HX.out).get k hlt
          have hgd : (T.map rowS).getD k [] = rowS (T.getD k []) := by simp [List.getD_eq_getElem?_getD, hlt]
          rw [hgd] at hv
          have hmem : T.getD k [] ∈ T := by rw [List.getD_eq_getElem?_getD, List.getElem?_eq_getElem hlt]; exact List.getElem_mem hlt
          obtain ⟨t1, t2, t3, t4⟩ := HTM.out _ hmem
          have HMem := hidP hmem
          obtain ⟨ks, hks⟩ : ∃ ks, ks = T.getD k [] := ⟨_, rfl⟩
          rw [← hks] at hv t1 t2 t3 t4 HMem
          have HKS := hidP hks
          have HJo := hidP (join_any v ks t1 t3 t4 wr hv)
          have HCO := hidP (fun w' (hx : Ext wr w') => cartanOf_any ks t1 w' (HMx.out.below ((HX1.out.trans HX.out).trans hx)))
          rw [t2] at HCO
          have HNZ := hidP (name_ne ks t1)
          clear hks hgd hv hmem t1 t2 t3 t4
          generalize joinN ks = nm at *
          go_wp2_with fail
          refine HJo.out.mono ?_
          rintro e w2 ⟨rfl, hx2⟩
          have HX2 := hidP hx2
          clear hx2
          go_wp2_with fail
          refine (HCO.out _ HX2.out).mono ?_
          rintro e w3 ⟨a3, rfl, ho3, hx3⟩
          have hxa := Ext.alloc w3 (.cells #[.int .i64 R, .slice a3 (R * R) (R * R)] 29)
          have HX3 := hidP ((HX2.out.trans hx3).trans hxa)
          have HO3 := hidP (ho3.below hxa)
          have HXa := hidP (((HX1.out.trans HX.out).trans (HX2.out.trans hx3)).trans hxa)
          obtain ⟨f0, f1⟩ := HC.out.below HXa.out
          have HRE := hidP (fun w' (hx : Ext (w3.alloc (.cells #[.int .i64 R, .slice a3 (R * R) (R * R)] 29)) w') => reordered_any R hR4 xs (blockL ks) R [] a a3 none c (R * R) 0 0 w' ((H.out.below HXa.out).below hx) (HO3.out.below hx).ints (IntsAt.nil _ _) (fun _ => rfl) (by omega) (fun x hx => by simp at hx))
          have HRB : Hid (reordB xs R (blockL (T.getD k [])) = searchB (List.range R) R (rowChk xs R (blockL ks) R) R []) := by
            show _ = _
            rw [← HKS.out]
            rfl
          clear ho3 hx3 hxa
          generalize searchB (List.range R) R (rowChk xs R (blockL ks) R) R [] = sb at *
          go_wp2_with fail
          refine (HRE.out _ (Ext.refl _)).mono ?_
          rintro e w4 ⟨rfl, hx4⟩
          have HX4 := hidP (HX3.out.trans hx4)
          clear hx4 f0 f1
          cases sb
          · go_wp2
            go_roundw
            case rel =>
              refine ⟨k + 1, by omega, by go_num, fun q hq => ?_, HX.out.trans HX4.out⟩
              rcases Nat.lt_succ_iff_lt_or_eq.1 hq with h3 | rfl
              · exact HJ.out q h3
              · exact HRB.out
            case measure => simp [intOf]; omega
          · have HE : Hid (T.any (fun ks => reordB xs R (blockL ks)) = true) := by
              show _ = _
              rw [List.any_eq_true]
              refine ⟨ks, HMem.out, ?_⟩
              have := HRB.out
              rwa [← HKS.out] at this
            go_wp2
            go_ret
            exact ⟨_, rfl, NameIf.yes (HT.out.trans HE.out) HNZ.out, ((HX0.out.trans HX1.out).trans HX.out).trans HX4.out⟩
        · obtain rfl : k = T.length := by omega
          have HE : Hid (T.any (fun ks => reordB xs R (blockL ks)) = false) := by
            show _ = _
            rw [List.any_eq_false]
            intro ks hks
            obtain ⟨q, hq, rfl⟩ := List.mem_iff_getElem.1 hks
            have := HJ.out q hq
            rw [List.getD_eq_getElem?_getD, List.getElem?_eq_getElem hq] at this
            simpa using this
          go_wp2
          go_ret
          exact ⟨_, rfl, NameIf.no (HT.out.trans HE.out), (HX0.out.trans HX1.out).trans HX.out⟩
    · have HT : Hid (typeB r xs = false) := by
        show _ = _
        unfold typeB
        rw [decide_eq_false (p := (xs.length : Int) = r * r) (by rw [L.out]; exact hl)]
        simp
      have hlb : ((n : Int) != r * r) = true := by simpa using hl
      have HX0 := hidP hx0
      clear h hi hx0 hl hdi hm
      go_enter Tryz.func63, Tryz.ntmps63
      go_wp2_with fail
      refine (HI.out _).mono ?_
      rintro e w' ⟨rfl, rfl⟩
      go_wp2
      go_ret
      exact ⟨_, rfl, NameIf.no HT.out, HX0.out⟩
theorem isCartan_any (r : Int) (a : Option Addr) (n c : Nat) (xs : List Int) (w : World) (h : IntsAt w a n xs) (hn : n ≤ 9223372036854775807) (hm : MaxL w) :
    Calls Tryz.prog 36 #[carV r a n c] w fun e w' => e = .returned (.bool (typeB r xs)) ∧ Ext w w' := by
  have hx0 := Ext.alloc w (.cells #[.int .i64 r, .slice a n c] 29)
  have H := hidP (typeOf_any r a n c xs _ (h.below hx0) hn (hm.below hx0))
  obtain ⟨f0, f1⟩ := CarAt.new w _ rfl r a n c 29
  have HX0 := hidP hx0
  clear h hm hx0
  go_enter Tryz.func36, Tryz.ntmps36
  go_wp2_with fail
  refine H.out.mono ?_
  rintro e w1 ⟨s, rfl, hs, hx1⟩
  have HX1 := hidP (HX0.out.trans hx1)
  clear hx1 H
  cases hb : typeB r xs
  · obtain rfl := hs.2 hb
    have HB := hidP hb
    clear hs hb
    go_wp2
    go_ret
    exact ⟨ret_bool HB.out.symm, HX1.out⟩
  · have he := hs.1 hb
    have HB := hidP hb
    clear hs hb
    go_wp2
    go_ret
    exact ⟨ret_bool HB.out.symm, HX1.out⟩
end Go.Proofs.YtdhlapppahkjeaaGreatDoor

namespace Go.Proofs.YtdhlapppahkjeaaGreatDoor
open Go.RowKit

end Go.Proofs.YtdhlapppahkjeaaGreatDoor

namespace Go.Proofs.YtdhlapppahkjeaaGreatDoor
open Go.RowKit

theorem own_one (w : World) (B : Nat) (z : Int) (hB : B ≤ w.heap.size) : OwnI (w.alloc (.cells #[.int .i64 z] 3)) B (some ⟨w.heap.size, 0, none⟩) 1 1 [z] :=
  ⟨World.ownsRow_lit (e := 3) (size := 1) (base := B) w #[.int .i64 z] 1 hB (by unfold maxLen; omega) (by simp)⟩
theorem ints_one (w : World) (z : Int) (E : TypeId) : IntsAt (w.alloc (.cells #[.int .i64 z] E)) (some ⟨w.heap.size, 0, none⟩) 1 [z] := ⟨rfl, fun q hq => ⟨_, 0, rfl, by
  obtain rfl : q = 0 := by omega
  exact (cell_top _ _ _ _ _ rfl).trans rfl⟩⟩
/-- one number of a slice of integers, in later worlds, too -/
theorem IntsAt.one {w : World} {a : Option Addr} {n : Nat} {xs : List Int} (h : IntsAt w a n xs) (i : Nat) (hi : i < n) : ∃ b o, a = some ⟨b, o, none⟩ ∧ ∀ w', Ext w w' → w'.cell? ⟨b, o + i, none⟩ = some (.int .i64 (xs.getD i 0)) := by
  obtain ⟨b, o, rfl, hc⟩ := h.get i hi
  exact ⟨b, o, rfl, fun w' hx => (hx.cell (p := ⟨b, o + i, none⟩) (World.block_lt_of_cell? w _ hc)).trans hc⟩
/-- what a round of 'heights' does with numbers -/
structure HtStep (p : List Stp) (i k : Nat) (H L Z : Int) : Prop where
  now : htAt i p k = H
  next : htAt i p (k + 1) = H + L * Z
  mul : IntKind.i64.wrap (L * Z) = L * Z
  add : IntKind.i64.wrap (H + L * Z) = H + L * Z
theorem ht_step {r : Nat} {p : List Stp} (hp : PathP r p) {i k : Nat} (hi : i < r) (hk : k < p.length) : HtStep p i k (htAt i p k) (lenAt p k) ((wayAt p k).getD i 0) := by
  obtain ⟨hd1, hd2⟩ := hp.dur k hk
  obtain ⟨hw1, hw2⟩ := (hp.way k hk).2 i hi
  have h1 : lenAt p k * (wayAt p k).getD i 0 ≤ lenAt p k * 1000 := Int.mul_le_mul_of_nonneg_left hw2 (by omega)
  have h2 : lenAt p k * (-1000) ≤ lenAt p k * (wayAt p k).getD i 0 := Int.mul_le_mul_of_nonneg_left hw1 (by omega)
  have h3 := ht_small hp hi k (by omega)
  exact ⟨rfl, rfl, wrap_in (by omega) (by omega), wrap_in (by omega) (by omega)⟩

set_option maxHeartbeats 2000000 in
theorem heights_any (i r : Nat) (a : Option Addr) (n c : Nat) (xs : List Stp) (w : World) (h : TermsAt w a n xs) (hp : PathP r xs) (hi : i < r) :
    Calls Tryz.prog 72 #[.int .i64 i, .slice a n c] w fun e w' => ∃ g c', e = .returned (.slice (some ⟨g, 0, none⟩) (n + 1) c') ∧ OwnI w' w.heap.size (some ⟨g, 0, none⟩) (n + 1) c' (hts i xs n) ∧ Ext w w' := by
  have G := hidP h
  have HP := hidP hp
  have hl := hidP h.len
  have hn60 : n ≤ 60 := by have := hp.len; have := h.len; omega
  have HO0 := hidP (own_one w w.heap.size 0 (Nat.le_refl _))
  have HX0 := hidP (Ext.alloc w (.cells #[.int .i64 0] 3))
  clear h hp
  go_enter Tryz.func72, Tryz.ntmps72
  go_wp2
  go_loopw [5, 11] (fun out ii wr => ∃ (k g co : Nat), k ≤ n ∧ out = .slice (some ⟨g, 0, none⟩) (k + 1) co ∧ ii = .int .i64 k ∧ Hid (OwnI wr w.heap.size (some ⟨g, 0, none⟩) (k + 1) co (hts i xs k)) ∧ Hid (Ext w wr)) (fun _ ii _ => n - (intOf ii).toNat)
  case atStart => exact ⟨0, _, _, Nat.zero_le _, rfl, rfl, HO0, HX0⟩
  case round =>
    obtain ⟨k, g, co, hk, rfl, rfl, HO, HX⟩ := hrel
    by_cases hlt : k < n
    · obtain ⟨b, o, aw, cw, W, L, rfl, HW, HL, hwl, hq⟩ := (G.out.below HX.out).way k hlt
      have HQ := hidP hq
      have hst := ht_step HP.out hi (show k < xs.length by have := hl.out; omega)
      have hwr := (HP.out.way k (by have := hl.out; omega)).1
      rw [HW.out] at hst hwr
      rw [HL.out] at hst
      obtain ⟨q1, q2, qi⟩ := hq wr (Ext.refl wr)
      obtain ⟨bw, ow, rfl, hwi⟩ := qi.one i (by omega)
      have hiw : (i : Int) < (W.length : Int) := by omega
      have hi0 : (0 : Int) ≤ (i : Int) := by omega
      obtain ⟨Z, hZ⟩ : ∃ Z, Z = W.getD i 0 := ⟨_, rfl⟩
      obtain ⟨H, hH⟩ : ∃ H, H = htAt i xs k := ⟨_, rfl⟩
      rw [← hZ, ← hH] at hst
      rw [← hZ] at hwi
      have HWi := hidP hwi
      have HG : Hid (∀ w', Ext wr w' → w'.cell? ⟨g, k, none⟩ = some (.int .i64 H)) := by
        show ∀ w', _
        intro w' hx
        obtain ⟨g', e', _, _, hc, _⟩ := (HO.out.below hx).cell k (by omega)
        simp only [Option.some.injEq, Addr.mk.injEq, and_true] at e'
        rw [← e', hts_get _ _ _ _ (Nat.le_refl _), ← hH] at hc
        exact hc
      have HNx : Hid (hts i xs (k + 1) = hts i xs k ++ [H + L * Z]) := by
        show _ = _
        rw [hts_succ, hst.next]
      have hmul := hst.mul
      have hadd := hst.add
      have hk1 : (k : Int) < (k : Int) + 1 := by omega
      have hk0 : (0 : Int) ≤ (k : Int) := by omega
      clear hst hZ hH qi hwi hq hwr
      have HA2 := hidP (Ext.alloc wr (.cells #[.slice (some ⟨bw, ow, none⟩) W.length cw, .int .i64 L] 73))
      have HS := hidP (fun w' (hx : Ext (wr.alloc (.cells #[.slice (some ⟨bw, ow, none⟩) W.length cw, .int .i64 L] 73)) w') => (StpAt.new wr _ rfl (some ⟨bw, ow, none⟩) W.length cw L 73).below hx)
      obtain ⟨w2, hw2⟩ : ∃ w2, w2 = wr.alloc (.cells #[.slice (some ⟨bw, ow, none⟩) W.length cw, .int .i64 L] 73) := ⟨_, rfl⟩
      rw [← hw2] at HA2 HS
      go_wp2
      rw [← hw2]
      clear hw2 q1 q2
      have hE : Ext w2 w2.drew := Ext.drew w2
      (refine walkR_start (fun w' => Ext w2 w') 15 (by kernel_rfl) ?_; simp only [numbered, List.take_succ_cons, List.take_zero, Nat.zero_add, Nat.reduceAdd, List.length_cons, List.length_nil])
      (repeat (first | (refine walkR_still (v := ?_) rfl (by decide +kernel) rfl (fun _ _ _ h => h) hE ?_ ?_; rotate_left; (focus (intro w' hw'; obtain ⟨q1, q2⟩ := HS.out w' hw'; obtain c1 := HG.out w' (HA2.out.trans hw'); obtain c2 := HWi.out w' (HA2.out.trans hw'); go_simp; all_goals (with_reducible rfl))); simp only [Act.put, List.setIfInBounds_toArray, List.set_cons_zero, List.set_cons_succ]) | (refine walkR_skip rfl (by decide +kernel) rfl (fun _ _ _ h => h) hE ?_; simp only [Act.put, List.setIfInBounds_toArray, List.set_cons_zero, List.set_cons_succ])))
      (refine walkR_only (fun w' => Ext w2 w') rfl (by decide +kernel) rfl ?_ ?_)
      · exact fun _ h => h
      intro K hK
      go_simp
      refine hK _ _ (hE.trans (Ext.alloc _ (.cells #[.int .i64 (H + L * Z)] 3))) ?_
      clear hK K
      have hE3 := hidP (HA2.out.trans (hE.trans (Ext.alloc _ (.cells #[.int .i64 (H + L * Z)] 3))))
      have HO3 := hidP (HO.out.below hE3.out)
      have HI3 := hidP (ints_one w2.drew (H + L * Z) 3)
      have HX3 := hidP (HX.out.trans hE3.out)
      clear hE
      (try simp only [Act.put, List.setIfInBounds_toArray, List.set_cons_zero, List.set_cons_succ])
      (refine walkR_tail (by rfl) (by kernel_rfl) ?_; simp only [List.drop_succ_cons, List.drop_zero])
      go_wp2_with (at_builtin; refine wpList_append_ints rfl (.tmp 16) (.tmp 30) rfl w.heap.size (some ⟨g, 0, none⟩) (k + 1) co _ rfl HO3.out (some ⟨w2.heap.size, 0, none⟩) 1 1 [H + L * Z] rfl HI3.out (fun e => by cases e) (by omega) HX3.out.size ?_; intro a5 c5 w5 ho5 hg5; have HX5 := hidP (grown_ext hg5 HX3.out HX3.out.size HO3.out.addr_base); rw [← HNx.out] at ho5; have HO5 := hidP ho5; clear ho5 hg5)
      obtain ⟨g5, e5, _⟩ := HO5.out.cell 0 (by omega)
      subst e5
      go_roundw
      case rel => exact ⟨k + 1, g5, c5, by omega, rfl, by go_num, HO5, HX5⟩
      case measure => simp [intOf]; omega
    · obtain rfl : n = k := by omega
      go_wp2
      go_ret
      exact ⟨g, co, rfl, HO.out, HX.out⟩
set_option maxHeartbeats 2000000 in
theorem l9Heights_any (i r : Nat) (a : Option Addr) (n c : Nat) (xs : List Stp) (w : World) (h : TermsAt w a n xs) (hp : PathP r xs) (hi : i < r) :
    Calls Tryz.prog 62 #[.int .i64 i, .slice a n c] w fun e w' => ∃ g c', e = .returned (.slice (some ⟨g, 0, none⟩) (n + 1) c') ∧ OwnI w' w.heap.size (some ⟨g, 0, none⟩) (n + 1) c' (hts i xs n) ∧ Ext w w' := by
  have G := hidP h
  have HP := hidP hp
  have hl := hidP h.len
  have hn60 : n ≤ 60 := by have := hp.len; have := h.len; omega
  have HO0 := hidP (own_one w w.heap.size 0 (Nat.le_refl _))
  have HX0 := hidP (Ext.alloc w (.cells #[.int .i64 0] 3))
  clear h hp
  go_enter Tryz.func62, Tryz.ntmps62
  go_wp2
  go_loopw [5, 6] (fun out ii wr => ∃ (k g co : Nat), k ≤ n ∧ out = .slice (some ⟨g, 0, none⟩) (k + 1) co ∧ ii = .int .i64 k ∧ Hid (OwnI wr w.heap.size (some ⟨g, 0, none⟩) (k + 1) co (hts i xs k)) ∧ Hid (Ext w wr)) (fun _ ii _ => n - (intOf ii).toNat)
  case atStart => exact ⟨0, _, _, Nat.zero_le _, rfl, rfl, HO0, HX0⟩
  case round =>
    obtain ⟨k, g, co, hk, rfl, rfl, HO, HX⟩ := hrel
    by_cases hlt : k < n
    · obtain ⟨b, o, aw, cw, W, L, rfl, HW, HL, hwl, hq⟩ := (G.out.below HX.out).way k hlt
      have HQ := hidP hq
      have hst := ht_step HP.out hi (show k < xs.length by have := hl.out; omega)
      have hwr := (HP.out.way k (by have := hl.out; omega)).1
      rw [HW.out] at hst hwr
      rw [HL.out] at hst
      obtain ⟨q1, q2, qi⟩ := hq wr (Ext.refl wr)
      obtain ⟨bw, ow, rfl, hwi⟩ := qi.one i (by omega)
      have hiw : (i : Int) < (W.length : Int) := by omega
      have hi0 : (0 : Int) ≤ (i : Int) := by omega
      obtain ⟨Z, hZ⟩ : ∃ Z, Z = W.getD i 0 := ⟨_, rfl⟩
      obtain ⟨H, hH⟩ : ∃ H, H = htAt i xs k := ⟨_, rfl⟩
      rw [← hZ, ← hH] at hst
      rw [← hZ] at hwi
      have HWi := hidP hwi
      have HG : Hid (∀ w', Ext wr w' → w'.cell? ⟨g, k, none⟩ = some (.int .i64 H)) := by
        show ∀ w', _
        intro w' hx
        obtain ⟨g', e', _, _, hc, _⟩ := (HO.out.below hx).cell k (by omega)
        simp only [Option.some.injEq, Addr.mk.injEq, and_true] at e'
        rw [← e', hts_get _ _ _ _ (Nat.le_refl _), ← hH] at hc
        exact hc
      have HNx : Hid (hts i xs (k + 1) = hts i xs k ++ [H + L * Z]) := by
        show _ = _
        rw [hts_succ, hst.next]
      have hmul := hst.mul
      have hadd := hst.add
      have hk1 : (k : Int) < (k : Int) + 1 := by omega
      have hk0 : (0 : Int) ≤ (k : Int) := by omega
      clear hst hZ hH qi hwi hq hwr
      clear q1 q2
      obtain ⟨w2, hw2⟩ : ∃ w2, w2 = wr := ⟨_, rfl⟩
      have HA2 : Hid (Ext wr w2) := by rw [hw2]; exact Ext.refl _
      go_wp2
      rw [← hw2]
      clear hw2
      have hE : Ext w2 w2.drew := Ext.drew w2
      (refine walkR_start (fun w' => Ext w2 w') 21 (by kernel_rfl) ?_; simp only [numbered, List.take_succ_cons, List.take_zero, Nat.zero_add, Nat.reduceAdd, List.length_cons, List.length_nil])
      (repeat (first | (refine walkR_still (v := ?_) rfl (by decide +kernel) rfl (fun _ _ _ h => h) hE ?_ ?_; rotate_left; (focus (intro w' hw'; obtain ⟨q1, q2, _⟩ := HQ.out w' (HA2.out.trans hw'); obtain c1 := HG.out w' (HA2.out.trans hw'); obtain c2 := HWi.out w' (HA2.out.trans hw'); go_simp; all_goals (with_reducible rfl))); simp only [Act.put, List.setIfInBounds_toArray, List.set_cons_zero, List.set_cons_succ]) | (refine walkR_skip rfl (by decide +kernel) rfl (fun _ _ _ h => h) hE ?_; simp only [Act.put, List.setIfInBounds_toArray, List.set_cons_zero, List.set_cons_succ])))
      (refine walkR_only (fun w' => Ext w2 w') rfl (by decide +kernel) rfl ?_ ?_)
      · exact fun _ h => h
      intro K hK
      go_simp
      refine hK _ _ (hE.trans (Ext.alloc _ (.cells #[.int .i64 (H + L * Z)] 3))) ?_
      clear hK K
      have hE3 := hidP (HA2.out.trans (hE.trans (Ext.alloc _ (.cells #[.int .i64 (H + L * Z)] 3))))
      have HO3 := hidP (HO.out.below hE3.out)
      have HI3 := hidP (ints_one w2.drew (H + L * Z) 3)
      have HX3 := hidP (HX.out.trans hE3.out)
      clear hE
      (try simp only [Act.put, List.setIfInBounds_toArray, List.set_cons_zero, List.set_cons_succ])
      (refine walkR_tail (by rfl) (by kernel_rfl) ?_; simp only [List.drop_succ_cons, List.drop_zero])
      go_wp2_with (at_builtin; refine wpList_append_ints rfl (.tmp 14) (.tmp 34) rfl w.heap.size (some ⟨g, 0, none⟩) (k + 1) co _ rfl HO3.out (some ⟨w2.heap.size, 0, none⟩) 1 1 [H + L * Z] rfl HI3.out (fun e => by cases e) (by omega) HX3.out.size ?_; intro a5 c5 w5 ho5 hg5; have HX5 := hidP (grown_ext hg5 HX3.out HX3.out.size HO3.out.addr_base); rw [← HNx.out] at ho5; have HO5 := hidP ho5; clear ho5 hg5)
      obtain ⟨g5, e5, _⟩ := HO5.out.cell 0 (by omega)
      subst e5
      go_roundw
      case rel => exact ⟨k + 1, g5, c5, by omega, rfl, by go_num, HO5, HX5⟩
      case measure => simp [intOf]; omega
    · obtain rfl : n = k := by omega
      go_wp2
      go_ret
      exact ⟨g, co, rfl, HO.out, HX.out⟩
end Go.Proofs.YtdhlapppahkjeaaGreatDoor

namespace Go.Proofs.YtdhlapppahkjeaaGreatDoor
open Go.RowKit

theorem OwnI.stored {w : World} {B g n c : Nat} {xs : List Int} (h : OwnI w B (some ⟨g, 0, none⟩) n c xs) (k : Nat) (v : Int) : OwnI (w.setCell ⟨g, k, none⟩ (.int .i64 v)) B (some ⟨g, 0, none⟩) n c (xs.set k v) := by
  have := (h.row.stored k (.int .i64 v)).1
  rw [show (ivs xs).set k (.int .i64 v) = ivs (xs.set k v) by simp [ivs, List.map_set]] at this
  exact ⟨this⟩
theorem partly_at (xs ys : List Int) (k : Nat) (h1 : k ≤ ys.length) : (partly xs ys k).getD k 0 = xs.getD k 0 := by
  simp only [partly, List.getD_eq_getElem?_getD]
  rw [List.getElem?_append_right (by simp; omega)]
  simp [Nat.min_eq_left h1]
/-- what a round of a reflection does with numbers -/
structure RfStep (r : Nat) (ts W : List Int) (i k : Nat) (A Z T : Int) : Prop where
  a : W.getD k 0 = A
  z : W.getD i 0 = Z
  t : atM ts r k i = T
  res : (refl r ts i W).getD k 0 = A - Z * T
  mul : IntKind.i64.wrap (Z * T) = Z * T
  sub : IntKind.i64.wrap (A - Z * T) = A - Z * T
theorem rf_step {r : Nat} {ts W : List Int} (hT : typeB r ts = true) {i k : Nat} (hk : k < r) (hb : ∀ j, j < r → -1000 ≤ W.getD j 0 ∧ W.getD j 0 ≤ 1000) (hi : i < r) : RfStep r ts W i k (W.getD k 0) (W.getD i 0) (atM ts r k i) := by
  have h1 := hb k hk
  have h2 := hb i hi
  have h3 : -3 ≤ atM ts r k i ∧ atM ts r k i ≤ 2 := typeB_entry hT _
  have h4 : -3000 ≤ W.getD i 0 * atM ts r k i ∧ W.getD i 0 * atM ts r k i ≤ 3000 := by
    obtain ⟨h2a, h2b⟩ := h2
    obtain ⟨h3a, h3b⟩ := h3
    generalize W.getD i 0 = x at *
    generalize atM ts r k i = y at *
    rcases (by omega : y = -3 ∨ y = -2 ∨ y = -1 ∨ y = 0 ∨ y = 1 ∨ y = 2) with rfl | rfl | rfl | rfl | rfl | rfl <;> omega
  exact ⟨rfl, rfl, rfl, refl_get r ts i W k hk, wrap_in (by omega) (by omega), wrap_in (by omega) (by omega)⟩

set_option maxHeartbeats 2000000 in
theorem reflectWeight_any (R : Nat) (ta : Option Addr) (tn tc : Nat) (ts : List Int) (i : Nat) (a : Option Addr) (n c : Nat) (W : List Int) (w : World) (hc : IntsAt w ta tn ts) (hT : typeB R ts = true) (hi : i < R) (h : IntsAt w a n W) (hnil : a = none → c = 0) (hW : W.length = R)
    (hb : ∀ j, j < R → -1000 ≤ W.getD j 0 ∧ W.getD j 0 ≤ 1000) :
    Calls Tryz.prog 103 #[carV R ta tn tc, .int .i64 i, .slice a n c] w fun e w' => ∃ a' c', e = .returned (.slice a' n c') ∧ OwnI w' w.heap.size a' n c' (refl R ts i W) ∧ Ext w w' := by
  have hx1 := Ext.alloc w (.cells #[.int .i64 R, .slice ta tn tc] 29)
  have HC := hidP (fun w' (hx : Ext (w.alloc (.cells #[.int .i64 R, .slice ta tn tc] 29)) w') => (CarAt.new w _ rfl (R : Int) ta tn tc 29).below hx)
  have HX1 := hidP hx1
  have hnR : n = R := by have := h.len; omega
  subst hnR
  have hrk := typeB_rank hT
  have HAt := hidP (fun w' (hx : Ext w w') (k : Nat) (hk : k < n) => cartAt_any (n : Int) ta tn tc ts k i w' (hc.below hx) (by have := hc.len; omega) (by omega) (by omega) (by omega))
  have HCl := hidP (clone_any a n c W _ (h.below hx1) hnil (by omega))
  have HI := hidP h
  have HT := hidP hT
  have HB := hidP hb
  have HW := hidP hW
  have hs1 : w.heap.size ≤ (w.alloc (.cells #[.int .i64 n, .slice ta tn tc] 29)).heap.size := hx1.size
  have hn4 : n ≤ 4 := by omega
  clear hc h hnil hx1 hT hb hW hrk
  obtain ⟨w1, hw1⟩ : ∃ w1, w1 = w.alloc (.cells #[.int .i64 n, .slice ta tn tc] 29) := ⟨_, rfl⟩
  rw [← hw1] at HC HX1 HCl hs1
  have HS1 := hidP hs1
  clear hs1
  obtain ⟨b, o, rfl, hwi⟩ := HI.out.one i hi
  have HWi := hidP hwi
  have hi0 : (0 : Int) ≤ (i : Int) := by omega
  have hin : (i : Int) < (n : Int) := by omega
  have HL : Hid ((refl n ts i W).length = n) := refl_length _ _ _ _
  clear hwi
  go_enter Tryz.func103, Tryz.ntmps103
  go_wp2_with fail
  rw [← hw1]
  clear hw1
  refine HCl.out.mono ?_
  rintro e w2 ⟨a1, c1, rfl, ho, hx⟩
  obtain ⟨g, rfl, _⟩ := ho.cell i hi
  have HX2 := hidP hx
  have HG1 : Hid (w1.heap.size ≤ g) := (ho.at_base g 0 rfl).1
  have HO2 := hidP (ho.base (B' := w.heap.size) HS1.out)
  clear ho hx HCl
  go_wp2
  go_loopw [13] (fun ii wr => ∃ k : Nat, k ≤ n ∧ ii = .int .i64 k ∧ Hid (OwnI wr w.heap.size (some ⟨g, 0, none⟩) n c1 (partly W (refl n ts i W) k)) ∧ Hid (Ext w1 wr)) (fun ii _ => n - (intOf ii).toNat)
  case atStart => exact ⟨0, Nat.zero_le _, rfl, by rw [partly_zero]; exact HO2, HX2⟩
  case round =>
    obtain ⟨k, hk, rfl, HO, HX⟩ := hrel

    by_cases hlt : k < n
    · have hst := rf_step HT.out hlt HB.out hi
      obtain ⟨A, hA⟩ : ∃ A, A = W.getD k 0 := ⟨_, rfl⟩
      obtain ⟨Z, hZ⟩ : ∃ Z, Z = W.getD i 0 := ⟨_, rfl⟩
      obtain ⟨T, hT⟩ : ∃ T, T = atM ts n k i := ⟨_, rfl⟩
      rw [← hA, ← hZ, ← hT] at hst
      obtain ⟨b', o', e', hwk⟩ := HI.out.one k hlt
      simp only [Option.some.injEq, Addr.mk.injEq, and_true] at e'
      obtain ⟨rfl, rfl⟩ := e'
      have HF : Hid (∀ w', Ext wr w' → w'.cell? ⟨g, k, none⟩ = some (.int .i64 A) ∧ w'.frozen? ⟨g, k, none⟩ = false ∧ w'.cell? ⟨b, o + i, none⟩ = some (.int .i64 Z) ∧ w'.cell? ⟨b, o + k, none⟩ = some (.int .i64 A)) := by
        show ∀ w', _
        intro w' hx
        obtain ⟨g', e', _, _, q1, q2⟩ := (HO.out.below hx).cell k hlt
        simp only [Option.some.injEq, Addr.mk.injEq, and_true] at e'
        subst e'
        rw [partly_at _ _ _ (by rw [HL.out]; omega), ← hA] at q1
        have q3 := HWi.out w' ((HX1.out.trans HX.out).trans hx)
        have q4 := hwk w' ((HX1.out.trans HX.out).trans hx)
        rw [← hZ] at q3
        rw [← hA] at q4
        exact ⟨q1, q2, q3, q4⟩
      have HCk := hidP (fun w' (hx : Ext w1 w') => HAt.out w' (HX1.out.trans hx) k hlt)
      have HSt : Hid (∀ w', Ext wr w' → OwnI (w'.setCell ⟨g, k, none⟩ (.int .i64 (A - Z * T))) w.heap.size (some ⟨g, 0, none⟩) n c1 (partly W (refl n ts i W) (k + 1))) := by
        show ∀ w', _
        intro w' hx
        have h1 := (HO.out.below hx).stored k (A - Z * T)
        rw [← hst.res] at h1
        rw [partly_succ W (refl n ts i W) n k hlt HW.out HL.out] at h1
        rw [← hst.res]
        exact h1
      have HBg := hidP ((HO2.out.at_base g 0 rfl).1)
      have hmul := hst.mul
      have hsub := hst.sub
      simp only [Int.toNat_natCast, ← hT] at HCk
      have hk0 : (0 : Int) ≤ (k : Int) := by omega
      have hkn : (k : Int) < (n : Int) := by omega
      clear hst hA hZ hT hwk
      have hE : Ext wr wr.drew := Ext.drew wr
      go_wp2
      (refine walkR_start (fun w' => Ext wr w') 14 (by kernel_rfl) ?_; simp only [numbered, List.take_succ_cons, List.take_zero, Nat.zero_add, Nat.reduceAdd, List.length_cons, List.length_nil])
      (repeat (first | (refine walkR_still (v := ?_) rfl (by decide +kernel) rfl (fun _ _ _ h => h) hE ?_ ?_; rotate_left; (focus (intro w' hw'; obtain ⟨q1, q2, q3, q4⟩ := HF.out w' hw'; obtain ⟨f0, f1⟩ := HC.out w' (HX.out.trans hw'); go_simp; all_goals (with_reducible rfl))); simp only [Act.put, List.setIfInBounds_toArray, List.set_cons_zero, List.set_cons_succ]) | (refine walkR_skip rfl (by decide +kernel) rfl (fun _ _ _ h => h) hE ?_; simp only [Act.put, List.setIfInBounds_toArray, List.set_cons_zero, List.set_cons_succ])))
      (refine walkR_only (fun w' => Ext wr w') rfl (by decide +kernel) rfl (fun _ h => h) ?_; intro K hK; go_simp; refine (HCk.out _ (HX.out.trans hE)).mono ?_; rintro e w3 ⟨rfl, hx3⟩; refine hK _ _ (hE.trans hx3) ?_; clear hK K; (try simp only [Act.put, List.setIfInBounds_toArray, List.set_cons_zero, List.set_cons_succ]))
      have hE3 := hE.trans hx3
      clear hx3 hE
      (repeat (first | (refine walkR_still (v := ?_) rfl (by decide +kernel) rfl (fun _ _ _ h => h) hE3 ?_ ?_; rotate_left; (focus (intro w' hw'; obtain ⟨q1, q2, q3, q4⟩ := HF.out w' hw'; go_simp; all_goals (with_reducible rfl))); simp only [Act.put, List.setIfInBounds_toArray, List.set_cons_zero, List.set_cons_succ]) | (refine walkR_skip rfl (by decide +kernel) rfl (fun _ _ _ h => h) hE3 ?_; simp only [Act.put, List.setIfInBounds_toArray, List.set_cons_zero, List.set_cons_succ])))
      (refine walkR_tail (by rfl) (by kernel_rfl) ?_; simp only [List.drop_succ_cons, List.drop_zero])
      obtain ⟨q1, q2, q3, q4⟩ := HF.out w3 hE3
      have HO3 := hidP (HSt.out w3 hE3)
      have HX3 : Hid (Ext w1 (w3.setCell ⟨g, k, none⟩ (.int .i64 (A - Z * T)))) := Ext.setNew (HX.out.trans hE3) _ _ (by have := HG1.out; exact this) _
      clear q3 q4 hE3
      go_wp2
      go_roundw
      case rel => exact ⟨k + 1, by omega, by go_num, HO3, HX3⟩
      case measure => simp [intOf]; omega
    · obtain rfl : n = k := by omega
      have HD : Hid (partly W (refl n ts i W) n = refl n ts i W) := partly_all _ _ _ HW.out HL.out
      rw [HD.out] at HO
      go_wp2
      go_ret
      exact ⟨_, _, rfl, HO.out, HX1.out.trans HX.out⟩
set_option maxHeartbeats 2000000 in
theorem l6Reflect_any (R : Nat) (ta : Option Addr) (tn tc : Nat) (ts : List Int) (i : Nat) (a : Option Addr) (n c : Nat) (W : List Int) (w : World) (hc : IntsAt w ta tn ts) (hT : typeB R ts = true) (hi : i < R) (h : IntsAt w a n W) (hnil : a = none → c = 0) (hW : W.length = R)
    (hb : ∀ j, j < R → -1000 ≤ W.getD j 0 ∧ W.getD j 0 ≤ 1000) :
    Calls Tryz.prog 117 #[carV R ta tn tc, .int .i64 i, .slice a n c] w fun e w' => ∃ a' c', e = .returned (.slice a' n c') ∧ OwnI w' w.heap.size a' n c' (refl R ts i W) ∧ Ext w w' := by
  have hx1 := Ext.alloc w (.cells #[.int .i64 R, .slice ta tn tc] 29)
  have HC := hidP (fun w' (hx : Ext (w.alloc (.cells #[.int .i64 R, .slice ta tn tc] 29)) w') => (CarAt.new w _ rfl (R : Int) ta tn tc 29).below hx)
  have HX1 := hidP hx1
  have hnR : n = R := by have := h.len; omega
  subst hnR
  have hrk := typeB_rank hT
  have HAt := hidP (fun w' (hx : Ext w w') (k : Nat) (hk : k < n) => l5At_any (n : Int) ta tn tc ts k i w' (hc.below hx) (by have := hc.len; omega) (by omega) (by omega) (by omega))
  have HCl := hidP (l1Ints_any a n c W _ (h.below hx1) hnil (by omega))
  have HI := hidP h
  have HT := hidP hT
  have HB := hidP hb
  have HW := hidP hW
  have hs1 : w.heap.size ≤ (w.alloc (.cells #[.int .i64 n, .slice ta tn tc] 29)).heap.size := hx1.size
  have hn4 : n ≤ 4 := by omega
  clear hc h hnil hx1 hT hb hW hrk
  obtain ⟨w1, hw1⟩ : ∃ w1, w1 = w.alloc (.cells #[.int .i64 n, .slice ta tn tc] 29) := ⟨_, rfl⟩
  rw [← hw1] at HC HX1 HCl hs1
  have HS1 := hidP hs1
  clear hs1
  obtain ⟨b, o, rfl, hwi⟩ := HI.out.one i hi
  have HWi := hidP hwi
  have hi0 : (0 : Int) ≤ (i : Int) := by omega
  have hin : (i : Int) < (n : Int) := by omega
  have HL : Hid ((refl n ts i W).length = n) := refl_length _ _ _ _
  clear hwi
  go_enter Tryz.func117, Tryz.ntmps117
  go_wp2_with fail
  rw [← hw1]
  clear hw1
  refine HCl.out.mono ?_
  rintro e w2 ⟨a1, c1, rfl, ho, hx⟩
  obtain ⟨g, rfl, _⟩ := ho.cell i hi
  have HX2 := hidP hx
  have HG1 : Hid (w1.heap.size ≤ g) := (ho.at_base g 0 rfl).1
  have HO2 := hidP (ho.base (B' := w.heap.size) HS1.out)
  clear ho hx HCl
  go_wp2
  go_loopw [8] (fun ii wr => ∃ k : Nat, k ≤ n ∧ ii = .int .i64 k ∧ Hid (OwnI wr w.heap.size (some ⟨g, 0, none⟩) n c1 (partly W (refl n ts i W) k)) ∧ Hid (Ext w1 wr)) (fun ii _ => n - (intOf ii).toNat)
  case atStart => exact ⟨0, Nat.zero_le _, rfl, by rw [partly_zero]; exact HO2, HX2⟩
  case round =>
    obtain ⟨k, hk, rfl, HO, HX⟩ := hrel
    obtain ⟨y0, y1⟩ := HC.out wr HX.out
    by_cases hlt : k < n
    · have hst := rf_step HT.out hlt HB.out hi
      obtain ⟨A, hA⟩ : ∃ A, A = W.getD k 0 := ⟨_, rfl⟩
      obtain ⟨Z, hZ⟩ : ∃ Z, Z = W.getD i 0 := ⟨_, rfl⟩
      obtain ⟨T, hT⟩ : ∃ T, T = atM ts n k i := ⟨_, rfl⟩
      rw [← hA, ← hZ, ← hT] at hst
      obtain ⟨b', o', e', hwk⟩ := HI.out.one k hlt
      simp only [Option.some.injEq, Addr.mk.injEq, and_true] at e'
      obtain ⟨rfl, rfl⟩ := e'
      have HF : Hid (∀ w', Ext wr w' → w'.cell? ⟨g, k, none⟩ = some (.int .i64 A) ∧ w'.frozen? ⟨g, k, none⟩ = false ∧ w'.cell? ⟨b, o + i, none⟩ = some (.int .i64 Z) ∧ w'.cell? ⟨b, o + k, none⟩ = some (.int .i64 A)) := by
        show ∀ w', _
        intro w' hx
        obtain ⟨g', e', _, _, q1, q2⟩ := (HO.out.below hx).cell k hlt
        simp only [Option.some.injEq, Addr.mk.injEq, and_true] at e'
        subst e'
        rw [partly_at _ _ _ (by rw [HL.out]; omega), ← hA] at q1
        have q3 := HWi.out w' ((HX1.out.trans HX.out).trans hx)
        have q4 := hwk w' ((HX1.out.trans HX.out).trans hx)
        rw [← hZ] at q3
        rw [← hA] at q4
        exact ⟨q1, q2, q3, q4⟩
      have HCk := hidP (fun w' (hx : Ext w1 w') => HAt.out w' (HX1.out.trans hx) k hlt)
      have HSt : Hid (∀ w', Ext wr w' → OwnI (w'.setCell ⟨g, k, none⟩ (.int .i64 (A - Z * T))) w.heap.size (some ⟨g, 0, none⟩) n c1 (partly W (refl n ts i W) (k + 1))) := by
        show ∀ w', _
        intro w' hx
        have h1 := (HO.out.below hx).stored k (A - Z * T)
        rw [← hst.res] at h1
        rw [partly_succ W (refl n ts i W) n k hlt HW.out HL.out] at h1
        rw [← hst.res]
        exact h1
      have HBg := hidP ((HO2.out.at_base g 0 rfl).1)
      have hmul := hst.mul
      have hsub := hst.sub
      simp only [Int.toNat_natCast, ← hT] at HCk
      have hk0 : (0 : Int) ≤ (k : Int) := by omega
      have hkn : (k : Int) < (n : Int) := by omega
      clear hst hA hZ hT hwk
      have hE : Ext wr wr.drew := Ext.drew wr
      go_wp2
      (refine walkR_start (fun w' => Ext wr w') 16 (by kernel_rfl) ?_; simp only [numbered, List.take_succ_cons, List.take_zero, Nat.zero_add, Nat.reduceAdd, List.length_cons, List.length_nil])
      (repeat (first | (refine walkR_still (v := ?_) rfl (by decide +kernel) rfl (fun _ _ _ h => h) hE ?_ ?_; rotate_left; (focus (intro w' hw'; obtain ⟨q1, q2, q3, q4⟩ := HF.out w' hw'; obtain ⟨f0, f1⟩ := HC.out w' (HX.out.trans hw'); go_simp; all_goals (with_reducible rfl))); simp only [Act.put, List.setIfInBounds_toArray, List.set_cons_zero, List.set_cons_succ]) | (refine walkR_skip rfl (by decide +kernel) rfl (fun _ _ _ h => h) hE ?_; simp only [Act.put, List.setIfInBounds_toArray, List.set_cons_zero, List.set_cons_succ])))
      (refine walkR_only (fun w' => Ext wr w') rfl (by decide +kernel) rfl (fun _ h => h) ?_; intro K hK; go_simp; refine (HCk.out _ (HX.out.trans hE)).mono ?_; rintro e w3 ⟨rfl, hx3⟩; refine hK _ _ (hE.trans hx3) ?_; clear hK K; (try simp only [Act.put, List.setIfInBounds_toArray, List.set_cons_zero, List.set_cons_succ]))
      have hE3 := hE.trans hx3
      clear hx3 hE
      (repeat (first | (refine walkR_still (v := ?_) rfl (by decide +kernel) rfl (fun _ _ _ h => h) hE3 ?_ ?_; rotate_left; (focus (intro w' hw'; obtain ⟨q1, q2, q3, q4⟩ := HF.out w' hw'; go_simp; all_goals (with_reducible rfl))); simp only [Act.put, List.setIfInBounds_toArray, List.set_cons_zero, List.set_cons_succ]) | (refine walkR_skip rfl (by decide +kernel) rfl (fun _ _ _ h => h) hE3 ?_; simp only [Act.put, List.setIfInBounds_toArray, List.set_cons_zero, List.set_cons_succ])))
      (refine walkR_tail (by rfl) (by kernel_rfl) ?_; simp only [List.drop_succ_cons, List.drop_zero])
      obtain ⟨q1, q2, q3, q4⟩ := HF.out w3 hE3
      have HO3 := hidP (HSt.out w3 hE3)
      have HX3 : Hid (Ext w1 (w3.setCell ⟨g, k, none⟩ (.int .i64 (A - Z * T)))) := Ext.setNew (HX.out.trans hE3) _ _ (by have := HG1.out; exact this) _
      clear q3 q4 hE3
      go_wp2
      go_roundw
      case rel => exact ⟨k + 1, by omega, by go_num, HO3, HX3⟩
      case measure => simp [intOf]; omega
    · obtain rfl : n = k := by omega
      have HD : Hid (partly W (refl n ts i W) n = refl n ts i W) := partly_all _ _ _ HW.out HL.out
      rw [HD.out] at HO
      go_wp2
      go_ret
      exact ⟨_, _, rfl, HO.out, HX1.out.trans HX.out⟩
end Go.Proofs.YtdhlapppahkjeaaGreatDoor

namespace Go.Proofs.YtdhlapppahkjeaaGreatDoor
open Go.RowKit

theorem tdiv_bound (a b : Int) : -(a.natAbs : Int) ≤ a.tdiv b ∧ a.tdiv b ≤ a.natAbs := by
  have h : (a.tdiv b).natAbs ≤ a.natAbs := by
    rw [Int.natAbs_tdiv]
    exact Nat.div_le_self _ _
  omega
/-- the time within a step at which a height is met, and whether it is an integer -/
def crossV (f s t : Int) : Int × Bool := if f = t then (0, true) else ((t - f).tdiv s, (t - f).tmod s == 0)

set_option maxHeartbeats 1000000 in
theorem crossing_any (f s t : Int) (w : World) (hf : -1000000000 ≤ f ∧ f ≤ 1000000000) (ht : -1000000000 ≤ t ∧ t ≤ 1000000000) (hs : f ≠ t → s ≠ 0) :
    Calls Tryz.prog 79 #[.int .i64 f, .int .i64 s, .int .i64 t] w fun e w' => e = .returned (.tuple #[.int .i64 (crossV f s t).1, .bool (crossV f s t).2]) ∧ Ext w w' := by
  by_cases h : f = t
  · have HV : Hid (crossV f s t = (0, true)) := if_pos h
    rw [HV.out]
    have hb : (f == t) = true := by simp [h]
    clear h hs
    go_enter Tryz.func79, Tryz.ntmps79
    go_wp2
    refine bodyPost_ret (v := .tuple #[.int .i64 0, .bool true]) (by simp [results, Tryz.results79, go_sem]) rfl ⟨rfl, Ext.refl _⟩
  · have HV : Hid (crossV f s t = ((t - f).tdiv s, (t - f).tmod s == 0)) := if_neg h
    rw [HV.out]
    have hb : (f == t) = false := by simp [h]
    have hs0 : ¬ (s = 0) := hs h
    have hd := tdiv_bound (t - f) s
    have h1 : IntKind.i64.wrap (t - f) = t - f := wrap_in (by omega) (by omega)
    have h2 : IntKind.i64.wrap ((t - f).tdiv s) = (t - f).tdiv s := wrap_in (by omega) (by omega)
    have hE : Ext w w.drew := Ext.drew w
    clear h hs hd
    go_enter Tryz.func79, Tryz.ntmps79
    go_wp2
    (refine walkR_start (fun w' => Ext w w') 12 (by kernel_rfl) ?_; simp only [numbered, List.take_succ_cons, List.take_zero, Nat.zero_add, Nat.reduceAdd, List.length_cons, List.length_nil])
    (repeat (first | (refine walkR_still (v := ?_) rfl (by decide +kernel) rfl (fun _ _ _ h => h) hE ?_ ?_; rotate_left; (focus (intro w' hw'; skip; go_simp; all_goals (with_reducible rfl))); simp only [Act.put, List.setIfInBounds_toArray, List.set_cons_zero, List.set_cons_succ]) | (refine walkR_skip rfl (by decide +kernel) rfl (fun _ _ _ h => h) hE ?_; simp only [Act.put, List.setIfInBounds_toArray, List.set_cons_zero, List.set_cons_succ])))
    (refine walkR_tail (by rfl) (by kernel_rfl) ?_; simp only [List.drop_succ_cons, List.drop_zero])
    go_wp2
    refine bodyPost_ret (v := .tuple #[.int .i64 ((t - f).tdiv s), .bool ((t - f).tmod s == 0)]) (by simp [results, Tryz.results79, go_sem]) rfl ⟨rfl, hE⟩
def l9CrossV (f h s t : Int) : Int := if (t - h).tmod s = 0 then f + (t - h).tdiv s else -1
set_option maxHeartbeats 1000000 in
theorem l9Cross_any (f h s t : Int) (w : World) (hf : 0 ≤ f ∧ f ≤ 1000000000) (hh : -1000000000 ≤ h ∧ h ≤ 1000000000) (ht : -1000000000 ≤ t ∧ t ≤ 1000000000) (hs : s ≠ 0) :
    Calls Tryz.prog 115 #[.int .i64 f, .int .i64 h, .int .i64 s, .int .i64 t] w fun e w' => e = .returned (.int .i64 (l9CrossV f h s t)) ∧ w = w' := by
  have hd := tdiv_bound (t - h) s
  have h1 : IntKind.i64.wrap (t - h) = t - h := wrap_in (by omega) (by omega)
  have h2 : IntKind.i64.wrap ((t - h).tdiv s) = (t - h).tdiv s := wrap_in (by omega) (by omega)
  have h3 : IntKind.i64.wrap (f + (t - h).tdiv s) = f + (t - h).tdiv s := wrap_in (by omega) (by omega)
  have hs0 : ¬ (s = 0) := hs
  by_cases hm : (t - h).tmod s = 0
  · have HV : Hid (l9CrossV f h s t = f + (t - h).tdiv s) := if_pos hm
    rw [HV.out]
    have hb : ((t - h).tmod s != 0) = false := by simp [hm]
    clear hm hd hs
    go_enter Tryz.func115, Tryz.ntmps115
    go_wp2
    go_ret
    exact ⟨rfl, rfl⟩
  · have HV : Hid (l9CrossV f h s t = -1) := if_neg hm
    rw [HV.out]
    have hb : ((t - h).tmod s != 0) = true := by simp [hm]
    clear hm hd hs
    go_enter Tryz.func115, Tryz.ntmps115
    go_wp2
    go_ret
    exact ⟨rfl, rfl⟩
theorem l9Within_any (n lo hi : Int) (w : World) :
    Calls Tryz.prog 116 #[.int .i64 n, .int .i64 lo, .int .i64 hi] w fun e w' => e = .returned (.int .i64 (within n lo hi)) ∧ w = w' := by
  by_cases h1 : n < lo
  · have HV : Hid (within n lo hi = lo) := if_pos h1
    rw [HV.out]
    go_enter Tryz.func116, Tryz.ntmps116
    go_wp2
    go_ret
    exact ⟨rfl, rfl⟩
  · by_cases h2 : n > hi
    · have HV : Hid (within n lo hi = hi) := by
        show _ = _
        unfold within
        rw [if_neg h1, if_pos h2]
      rw [HV.out]
      go_enter Tryz.func116, Tryz.ntmps116
      go_wp2
      go_ret
      exact ⟨rfl, rfl⟩
    · have HV : Hid (within n lo hi = n) := by
        show _ = _
        unfold within
        rw [if_neg h1, if_neg h2]
      rw [HV.out]
      go_enter Tryz.func116, Tryz.ntmps116
      go_wp2
      go_ret
      exact ⟨rfl, rfl⟩
end Go.Proofs.YtdhlapppahkjeaaGreatDoor

namespace Go.Proofs.YtdhlapppahkjeaaGreatDoor
open Go.RowKit

end Go.Proofs.YtdhlapppahkjeaaGreatDoor

namespace Go.Proofs.YtdhlapppahkjeaaGreatDoor
open Go.RowKit

set_option maxHeartbeats 1000000 in
theorem eqCartan_any (r1 r2 : Int) (a1 a2 : Option Addr) (n1 n2 c1 c2 : Nat) (xs ys : List Int) (w : World) (h1 : IntsAt w a1 n1 xs) (h2 : IntsAt w a2 n2 ys) (hm1 : n1 ≤ 9223372036854775807) (hm2 : n2 ≤ 9223372036854775807) :
    Calls Tryz.prog 11 #[carV r1 a1 n1 c1, carV r2 a2 n2 c2] w fun e w' => e = .returned (.bool (decide (r1 = r2 ∧ xs = ys))) ∧ Ext w w' := by
  by_cases hd : r1 = r2
  · have hd' : (r1 != r2) = false := by simp [hd]
    have HR : Hid (decide (r1 = r2 ∧ xs = ys) = (xs == ys)) := by
      show _ = _
      by_cases h : xs = ys <;> simp [hd, h]
    have HQ := hidP (fun w' (hx : Ext w w') => eqIntS_any a1 a2 n1 n2 c1 c2 xs ys w' (h1.below hx) (h2.below hx) hm1 hm2)
    clear hd h1 h2
    cases hb : (xs == ys)
    all_goals
      rw [hb] at HR
      go_enter Tryz.func11, Tryz.ntmps11
      go_wp2_with (go_at_call 12; refine (HQ.out _ ((Ext.alloc w _).trans (Ext.alloc _ _))).mono ?_; rintro e w' ⟨rfl, m, rfl⟩)
      go_ret
      exact ⟨ret_bool HR.out.symm, ((Ext.alloc w _).trans (Ext.alloc _ _)).trans (Ext.drewN _ _)⟩
  · have hd' : (r1 != r2) = true := by simp [hd]
    have HR : Hid (decide (r1 = r2 ∧ xs = ys) = false) := by
      show _ = _
      simp [hd]
    clear hd
    go_enter Tryz.func11, Tryz.ntmps11
    go_wp2
    go_ret
    exact ⟨ret_bool HR.out.symm, (Ext.alloc w _).trans (Ext.alloc _ _)⟩
theorem markCartan_any (r : Int) (B : Nat) (a : Option Addr) (n c : Nat) (k0 : Int) (xs : List Int) (w : World) (h : OwnI w B a n c xs)
    (hn : n ≤ 1000000000000) (hk0 : -1000000000000 ≤ k0) (hk1 : k0 ≤ 1000000000000) :
    Calls Tryz.prog 13 #[carV r a n c, .int .i64 k0] w fun e w' => e = .returned (.int .i64 (k0 + n)) ∧ UpdI w w' a n (upFrom k0 n) := by
  have HQ := hidP (fun w' (hx : Ext w w') => markIntS_any a n c k0 xs w' (h.below hx).ints (h.below hx).unfrozen hn hk0 hk1)
  have H := hidP h
  clear h
  go_enter Tryz.func13, Tryz.ntmps13
  go_wp2_with (go_at_call 14; refine (HQ.out _ (Ext.alloc w _)).mono ?_; rintro e w' ⟨rfl, hu⟩)
  go_ret
  exact ⟨rfl, (Ext.alloc w _).upd H.out.ints hu⟩

end Go.Proofs.YtdhlapppahkjeaaGreatDoor

namespace Go.Proofs.YtdhlapppahkjeaaGreatDoor
open Go.RowKit

variable {α : Type}
theorem getD_mapped {β γ : Type} (f : β → γ) (l : List β) (i : Nat) (d : β) (e : γ) (hi : i < l.length) : (l.map f).getD i e = f (l.getD i d) := by
  simp [List.getD_eq_getElem?_getD, hi]
theorem getD_within {β : Type} (l : List β) (i : Nat) (d : β) (hi : i < l.length) : l.getD i d ∈ l := by
  simp [List.getD_eq_getElem?_getD, hi]
/-- the facts of an owned slice's elements, as a list -/
structure ElemK (K : Knd α) (w : World) (B U : Nat) (l : List (Hdr × α)) : Prop where
  each : ∀ z ∈ l, OwnI w B z.1.1 (K.ints z.2).length z.1.2 (K.ints z.2)
  apart : l.Pairwise fun z z' => Apart z.1.1 z'.1.1
  lt : ∀ z ∈ l, ∀ b o, z.1.1 = some ⟨b, o, none⟩ → b < U
theorem ElemK.sub {K : Knd α} {w : World} {B U : Nat} {l l' : List (Hdr × α)} (h : ElemK K w B U l) (hs : l'.Sublist l) : ElemK K w B U l' :=
  ⟨fun z hz => h.each z (hs.subset hz), h.apart.sublist hs, fun z hz => h.lt z (hs.subset hz)⟩
theorem OwnK.list {K : Knd α} {w : World} {B U : Nat} {a : Option Addr} {n c : Nat} {hs : List Hdr} {xs : List α} (h : OwnK K w B U a n c hs xs) :
    ElemK K w B U (hs.zip xs) ∧ (hs.zip xs).map (·.1) = hs ∧ (hs.zip xs).map (·.2) = xs ∧ (hs.zip xs).length = n := by
  have hl := h.hl
  have xl := h.xl
  have hz : (hs.zip xs).length = n := by rw [List.length_zip]; omega
  have hg : ∀ k, (hk : k < (hs.zip xs).length) → (hs.zip xs)[k] = (hs.getD k (none, 0), xs.getD k K.dft) := fun k hk => by
    rw [List.getElem_zip]
    simp [List.getD_eq_getElem?_getD, show k < hs.length by omega, show k < xs.length by omega]
  refine ⟨⟨fun z hz' => ?_, ?_, fun z hz' => ?_⟩, List.map_fst_zip (by omega), List.map_snd_zip (by omega), hz⟩
  · obtain ⟨k, hk, rfl⟩ := List.mem_iff_getElem.1 hz'
    rw [hg k hk]
    exact h.each k (by omega)
  · rw [List.pairwise_iff_getElem]
    intro i j hi hj hij
    rw [hg i hi, hg j hj]
    exact h.apart i j (by omega) (by omega) (by omega)
  · obtain ⟨k, hk, rfl⟩ := List.mem_iff_getElem.1 hz'
    rw [hg k hk]
    exact h.lt k (by omega)
theorem ElemK.own {K : Knd α} {w : World} {B U : Nat} {a : Option Addr} {n c : Nat} {l : List (Hdr × α)} (h : ElemK K w B U l) (hr : w.ownsRow B K.E K.size (.slice a n c) n (K.all (l.map (·.1)) (l.map (·.2)))) (hl : l.length = n) (olt : ∀ b o, a = some ⟨b, o, none⟩ → b < U) :
    OwnK K w B U a n c (l.map (·.1)) (l.map (·.2)) := by
  have g1 : ∀ i, i < n → (l.map (·.1)).getD i (none, 0) = (l.getD i ((none, 0), K.dft)).1 := fun i hi => getD_mapped _ _ _ _ _ (by omega)
  have g2 : ∀ i, i < n → (l.map (·.2)).getD i K.dft = (l.getD i ((none, 0), K.dft)).2 := fun i hi => getD_mapped _ _ _ _ _ (by omega)
  have gm : ∀ i, i < n → l.getD i ((none, 0), K.dft) ∈ l := fun i hi => getD_within _ _ _ (by omega)
  refine ⟨hr, by simpa using hl, by simpa using hl, fun i hi => ?_, fun i j hi hj hne => ?_, fun i hi b o e => ?_, olt⟩
  · rw [g1 i hi, g2 i hi]
    exact h.each _ (gm i hi)
  · rw [g1 i hi, g1 j hj]
    have hp := h.apart
    rw [List.pairwise_iff_getElem] at hp
    have e : ∀ k, (hk : k < l.length) → l.getD k ((none, 0), K.dft) = l[k] := fun k hk => by simp [List.getD_eq_getElem?_getD, hk]
    rw [e i (by omega), e j (by omega)]
    rcases Nat.lt_or_gt_of_ne hne with h3 | h3
    · exact hp i j (by omega) (by omega) h3
    · exact (hp j i (by omega) (by omega) h3).symm
  · rw [g1 i hi] at e
    exact h.lt _ (gm i hi) b o e
/-- what lies elsewhere stays -/
theorem ElemK.kept {K : Knd α} {w w' : World} {B U g : Nat} {l : List (Hdr × α)} (h : ElemK K w B U l) (hg : w.grownBy w' (some g)) (hf : ∀ z ∈ l, ∀ b o, z.1.1 = some ⟨b, o, none⟩ → b ≠ g) : ElemK K w' B U l :=
  ⟨fun z hz => (h.each z hz).grown hg fun b o e => by have := hf z hz b o e; simp only [ne_eq, Option.some.injEq]; exact this, h.apart, h.lt⟩

/-! ### a row of steps, whatever its addresses -/
structure RawS (w : World) (B g n c : Nat) (l : List (Hdr × Stp)) : Prop where
  row : w.ownsRow B stepK.E stepK.size (.slice (some ⟨g, 0, none⟩) n c) n (stepK.all (l.map (·.1)) (l.map (·.2)))
  len : l.length = n
theorem RawS.cells {w : World} {B g n c : Nat} {l : List (Hdr × Stp)} (h : RawS w B g n c l) (k : Nat) (hk : k < n) :
    w.cell? ⟨g, k * 2, none⟩ = some (.slice (l.getD k ((none, 0), ([], 0))).1.1 (l.getD k ((none, 0), ([], 0))).2.1.length (l.getD k ((none, 0), ([], 0))).1.2) ∧ w.cell? ⟨g, k * 2 + 1, none⟩ = some (.int .i64 (l.getD k ((none, 0), ([], 0))).2.2) ∧
    w.frozen? ⟨g, k * 2, none⟩ = false ∧ w.frozen? ⟨g, k * 2 + 1, none⟩ = false := by
  have hl := h.len
  have hml : (l.map (·.1)).length = (l.map (·.2)).length := by simp
  have h0 := h.row.cellAt (k * stepK.size + 0) (by show k * 2 + 0 < n * 2; omega)
  have h1 := h.row.cellAt (k * stepK.size + 1) (by show k * 2 + 1 < n * 2; omega)
  rw [stepK.all_get _ _ hml k 0 (by simp; omega) (by decide), getD_mapped _ _ _ ((none, 0), ([], 0)) _ (by omega), getD_mapped _ _ _ ((none, 0), ([], 0)) _ (by omega)] at h0
  rw [stepK.all_get _ _ hml k 1 (by simp; omega) (by decide), getD_mapped _ _ _ ((none, 0), ([], 0)) _ (by omega), getD_mapped _ _ _ ((none, 0), ([], 0)) _ (by omega)] at h1
  exact ⟨h0, h1, h.row.frozenAt _, h.row.frozenAt _⟩
theorem RawS.placed {w : World} {B g n c : Nat} {l : List (Hdr × Stp)} (h : RawS w B g n c l) (i : Nat) (hi : i < n) (z : Hdr × Stp) :
    RawS ((w.setCell ⟨g, i * 2, none⟩ (.slice z.1.1 z.2.1.length z.1.2)).setCell ⟨g, i * 2 + 1, none⟩ (.int .i64 z.2.2)) B g n c (l.set i z) := by
  have hl := h.len
  have hml : (l.map (·.1)).length = (l.map (·.2)).length := by simp
  have hr1 := (h.row.stored (i * stepK.size + 0) (.slice z.1.1 z.2.1.length z.1.2)).1
  rw [stepK.all_set _ _ hml i 0 (by simp; omega) (by decide) _ z.1 (z.2.1, ((l.map (·.2)).getD i stepK.dft).2) rfl] at hr1
  have hl2 : ((l.map (·.1)).set i z.1).length = ((l.map (·.2)).set i (z.2.1, ((l.map (·.2)).getD i stepK.dft).2)).length := by simp
  have hr2 := (World.ownsRow.stored hr1 (i * stepK.size + 1) (.int .i64 z.2.2)).1
  rw [stepK.all_set _ _ hl2 i 1 (by simp; omega) (by decide) _ z.1 z.2 (by
    rw [OwnK.getD_set _ _ _ _ _ (by simp; omega), OwnK.getD_set _ _ _ _ _ (by simp; omega), if_pos rfl, if_pos rfl]
    rfl)] at hr2
  simp only [List.set_set] at hr2
  refine ⟨?_, by simpa using hl⟩
  rw [List.map_set, List.map_set]
  exact hr2
theorem OwnK.raw {w : World} {B U g n c : Nat} {hs : List Hdr} {xs : List Stp} (h : OwnK stepK w B U (some ⟨g, 0, none⟩) n c hs xs) : RawS w B g n c (hs.zip xs) := by
  obtain ⟨_, h1, h2, h3⟩ := h.list
  exact ⟨by rw [h1, h2]; exact h.row, h3⟩
/-- cells written from a place on: those ahead of it stay -/
theorem row_setCells {B g n c e size : Nat} : ∀ (vs : List Value) (o : Nat) (w : World) (ys : List Value), w.ownsRow B e size (.slice (some ⟨g, 0, none⟩) n c) n ys →
    ∃ zs, (w.setCells g o vs).ownsRow B e size (.slice (some ⟨g, 0, none⟩) n c) n zs ∧ zs.take o = ys.take o ∧ w.grownBy (w.setCells g o vs) (some g)
  | [], o, w, ys, h => ⟨ys, h, rfl, ⟨rfl, rfl, rfl, Nat.le_refl _, fun _ _ _ => rfl⟩⟩
  | v :: vs, o, w, ys, h => by
    obtain ⟨h1, h2⟩ := h.stored o v
    obtain ⟨zs, h3, h4, h5⟩ := row_setCells vs (o + 1) _ _ h1
    refine ⟨zs, h3, ?_, ⟨h5.os.trans h2.os, h5.tape.trans h2.tape, h5.output.trans h2.output, Nat.le_trans h2.size h5.size, fun k hk hne => (h5.block k (Nat.lt_of_lt_of_le hk h2.size) hne).trans (h2.block k hk hne)⟩⟩
    have h6 : (zs.take (o + 1)).take o = ((ys.set o v).take (o + 1)).take o := by rw [h4]
    rw [List.take_take, List.take_take, Nat.min_eq_left (by omega)] at h6
    rw [h6, List.take_set_of_le (Nat.le_refl _)]
end Go.Proofs.YtdhlapppahkjeaaGreatDoor

namespace Go.Proofs.YtdhlapppahkjeaaGreatDoor
open Go.RowKit

theorem run_clear_steps (b off m cc : Nat) (ty : TypeId) (w : World) (hm : 0 < m) (hc : ∀ j, j < m * 2 → (w.cell? ⟨b, off + j, none⟩).isSome = true) (hf : ∀ j, j < m * 2 → w.frozen? ⟨b, off + j, none⟩ = false) :
    ∃ vs, Sem.run Tryz.prog (Builtin.clear_ #[45] ty #[.slice (some ⟨b, off, none⟩) m cc]) w = .ok (.tuple #[]) (w.setCells b off vs) := by
  have hz := Tryz.zeroValue73
  have hl : (Builtin.zeroCells (Value.agg #[.slice none 0 0, .int .i64 0]).cells m).toList.length = m * 2 := by simp [Builtin.zeroCells, Value.cells]
  have h1 : ∀ v ∈ (Builtin.zeroCells (Value.agg #[.slice none 0 0, .int .i64 0]).cells m).toList, v.oneCell' = true := by
    intro v hv
    simp only [Builtin.zeroCells, Array.toList_map, List.mem_map, Value.cells] at hv
    obtain ⟨i, _, rfl⟩ := hv
    have h2 : i % 2 = 0 ∨ i % 2 = 1 := by omega
    rcases h2 with h2 | h2
    · rw [show (#[Value.slice none 0 0, Value.int .i64 0]).size = 2 from rfl, h2]; rfl
    · rw [show (#[Value.slice none 0 0, Value.int .i64 0]).size = 2 from rfl, h2]; rfl
  have hst := run_storeCells_cells (P := Tryz.prog) b off _ 0 w (by rw [hl]; simpa using hc) (by rw [hl]; simpa using hf) h1
  simp only [Nat.add_zero] at hst
  obtain ⟨m', rfl⟩ : ∃ m', m = m' + 1 := ⟨m - 1, by omega⟩
  refine ⟨(Builtin.zeroCells (Value.agg #[.slice none 0 0, .int .i64 0]).cells (m' + 1)).toList, ?_⟩
  simp [Builtin.clear_, run_underlying Tryz.underlying45, hz, hst]
theorem row_take {w : World} {B g n c e size : Nat} {ys : List Value} (h : w.ownsRow B e size (.slice (some ⟨g, 0, none⟩) n c) n ys) (m : Nat) (hm : m ≤ n) : w.ownsRow B e size (.slice (some ⟨g, 0, none⟩) m c) m (ys.take (m * size)) := by
  refine ⟨by rw [List.length_take, h.1]; exact Nat.min_eq_left (Nat.mul_le_mul_right _ hm), ?_⟩
  rcases h.2 with ⟨he, _⟩ | ⟨g', cap, cur, he, hB, hg, hnc, hcm, hcs, ht⟩
  · simp at he
  · simp only [Value.slice.injEq, true_and] at he
    obtain ⟨he, rfl⟩ := he
    refine .inr ⟨g', c, cur, by rw [he], hB, hg, by omega, hcm, hcs, ?_⟩
    rw [← ht, List.take_take, Nat.min_eq_left (Nat.mul_le_mul_right _ hm)]

theorem turned1_any (a : Option Addr) (n c : Nat) (L : Int) (w : World) : Calls Tryz.prog 105 #[.agg #[.slice a n c, .int .i64 L]] w fun e w' => e = .returned (.bool (L == 0)) ∧ Ext w w' := by
  have hx := Ext.alloc w (.cells #[.slice a n c, .int .i64 L] 73)
  have HX := hidP hx
  clear hx
  go_enter Tryz.func105, Tryz.ntmps105
  go_wp2
  go_ret
  exact ⟨rfl, HX.out⟩
theorem callFunc_turned1 (args : Array Value) (w : World) : Sem.run Tryz.prog (callFunc 105 args) w = .ok (.enter 105 args) w := by
  kernel_rfl
def zeroLen (x : Int) : Bool := x == 0
def durs (xs : List Stp) : List Int := xs.map (·.2)
theorem durs_get (xs : List Stp) (k : Nat) : (durs xs).getD k 0 = lenAt xs k := by
  unfold durs lenAt
  simp only [List.getD_eq_getElem?_getD, List.getElem?_map]
  cases xs[k]? <;> rfl
set_option maxHeartbeats 1000000 in
theorem indexStep_any (a : Option Addr) (n c : Nat) (xs : List Stp) (w : World) (h : TermsAt w a n xs) (hn : n ≤ 9223372036854775807) :
    Calls Tryz.prog 122 #[.slice a n c, .func (.func 105) #[] #[]] w fun e w' => e = .returned (.int .i64 (idxL zeroLen (durs xs))) ∧ Ext w w' := by
  have G := hidP h
  have L0 := hidP h.len
  clear h
  have hcf := callFunc_turned1
  go_enter Tryz.func122, Tryz.ntmps122
  go_wp2
  go_loopw [8] (fun i wr => ∃ k : Nat, k ≤ n ∧ Hid (∀ j, j < k → zeroLen ((durs xs).getD j 0) = false) ∧ i = .int .i64 k ∧ Hid (Ext w wr)) (fun i _ => n - (intOf i).toNat)
  case atStart => exact ⟨0, Nat.zero_le _, fun j h => absurd h (Nat.not_lt_zero _), rfl, Ext.refl _⟩
  case round =>
    obtain ⟨k, hk, HJ, rfl, HX⟩ := hrel
    by_cases hlt : k < n
    · obtain ⟨b, o, aw, cw, W, L, rfl, HW, HL, hwl, hq⟩ := (G.out.below HX.out).way k hlt
      obtain ⟨q1, q2, _⟩ := hq wr (Ext.refl wr)
      have HT := hidP (turned1_any aw W.length cw L wr)
      have HZ : Hid (zeroLen ((durs xs).getD k 0) = (L == 0)) := by
        show _ = _
        rw [durs_get, HL.out]
        rfl
      clear hq
      cases hb : (L == 0)
      · rw [hb] at HT HZ
        clear hb
        go_wp2_with fail
        refine HT.out.mono ?_
        rintro e w1 ⟨rfl, hx⟩
        have HX1 := hidP (HX.out.trans hx)
        clear hx q1 q2
        go_wp2
        go_roundw
        case rel =>
          refine ⟨k + 1, by omega, fun j hj => ?_, by go_num, HX1.out⟩
          rcases Nat.lt_succ_iff_lt_or_eq.1 hj with h3 | rfl
          · exact HJ.out j h3
          · exact HZ.out
        case measure => simp [intOf]; omega
      · rw [hb] at HT HZ
        clear hb
        have HI : Hid (idxL zeroLen (durs xs) = (k : Int)) := idxL_at (by unfold durs; rw [List.length_map, L0.out]; exact hlt) HJ.out HZ.out
        go_wp2_with fail
        refine HT.out.mono ?_
        rintro e w1 ⟨rfl, hx⟩
        have HX1 := hidP (HX.out.trans hx)
        clear hx q1 q2
        go_wp2
        go_ret
        exact ⟨ret_int HI.out.symm, HX1.out⟩
    · have HI : Hid (idxL zeroLen (durs xs) = -1) := idxL_none fun j hj => HJ.out j (by unfold durs at hj; rw [List.length_map, L0.out] at hj; omega)
      go_wp2
      go_ret
      exact ⟨ret_int HI.out.symm, HX.out⟩
def keepZ (z : Hdr × Stp) : Bool := z.2.2 != 0
set_option maxRecDepth 100000 in
set_option maxHeartbeats 4000000 in
theorem deleteStep_any (B U g n c : Nat) (hs : List Hdr) (xs : List Stp) (w : World) (h : OwnK stepK w B U (some ⟨g, 0, none⟩) n c hs xs) :
    Calls Tryz.prog 104 #[.slice (some ⟨g, 0, none⟩) n c, .func (.func 105) #[] #[]] w fun e w' => ∃ n' hs', e = .returned (.slice (some ⟨g, 0, none⟩) n' c) ∧
      OwnK stepK w' B U (some ⟨g, 0, none⟩) n' c hs' (xs.filter fun s => s.2 != 0) ∧ w.grownBy w' (some g) := by
  have hnm : n ≤ 9223372036854775807 := by
    rcases h.form with ⟨_, h0, _⟩ | ⟨_, _, _, _, _, _, h1, h2⟩
    · omega
    · unfold maxLen at h2; omega
  have hcn : n ≤ c := by
    rcases h.form with ⟨_, h0, _⟩ | ⟨_, _, _, _, _, _, h1, h2⟩
    · omega
    · exact h1
  have hcm : c ≤ 9223372036854775807 := by
    rcases h.form with ⟨_, h0, h1⟩ | ⟨_, _, _, _, _, _, h1, h2⟩
    · omega
    · unfold maxLen at h2; omega
  have HI := hidP (indexStep_any (some ⟨g, 0, none⟩) n c xs w h.termsAt hnm)
  obtain ⟨hE0, hm1, hm2, hzl⟩ := h.list
  have hfar : ∀ z ∈ hs.zip xs, ∀ b o, z.1.1 = some ⟨b, o, none⟩ → b ≠ g := fun z hz b o e hb => by
    obtain ⟨k, hk, rfl⟩ := List.mem_iff_getElem.1 hz
    rw [List.getElem_zip] at e
    have h1 : hs[k]'(by rw [List.length_zip] at hk; omega) = hs.getD k (none, 0) := by
      have : k < hs.length := by rw [List.length_zip] at hk; omega
      simp [List.getD_eq_getElem?_getD, this]
    rw [h1] at e
    exact h.far k (by omega) g 0 b o rfl e hb.symm
  have hfil : ((hs.zip xs).filter keepZ).map (·.2) = xs.filter fun s => s.2 != 0 := by
    have : (hs.zip xs).filter keepZ = (hs.zip xs).filter ((fun s : Stp => s.2 != 0) ∘ (fun z : Hdr × Stp => z.2)) := rfl
    rw [this, ← List.filter_map, hm2]
  have hlen : ∀ k, k < n → lenAt xs k = ((hs.zip xs).getD k ((none, 0), ([], 0))).2.2 := fun k hk => by
    conv => lhs; rw [← hm2]
    unfold lenAt
    rw [getD_mapped _ _ _ ((none, 0), ([], 0)) _ (by omega)]
  have hgw : g < w.heap.size := (h.base_lt g 0 rfl).2
  have hraw := h.raw
  have hxl := h.xl
  obtain ⟨zs, hzs⟩ : ∃ zs, zs = hs.zip xs := ⟨_, rfl⟩
  rw [← hzs] at hE0 hfar hfil hlen hraw hzl
  have HE := hidP hE0
  have HFar := hidP hfar
  have HFil := hidP hfil
  have HLen := hidP hlen
  have HRaw := hidP hraw
  have HZl := hidP hzl
  have HOl := hidP h.olt
  have H0 := hidP h
  have HXl := hidP hxl
  clear h hE0 hm1 hm2 hzl hfar hfil hlen hraw hzs hxl
  -- what comes out, once the row is cut
  have HOut : Hid (∀ (w' : World) (i : Nat) (l : List (Hdr × Stp)) (ys : List Value), w'.ownsRow B stepK.E stepK.size (.slice (some ⟨g, 0, none⟩) n c) n ys → ys.take (i * 2) = (stepK.all (l.map (·.1)) (l.map (·.2))).take (i * 2) → i ≤ n → l.length = n → l.take i = zs.filter keepZ → w.grownBy w' (some g) →
      OwnK stepK w' B U (some ⟨g, 0, none⟩) i c ((l.take i).map (·.1)) (xs.filter fun s => s.2 != 0)) := by
    intro w' i l ys hr ht hi hl hli hg
    have h1 := row_take hr i hi
    rw [show i * stepK.size = i * 2 from rfl, ht] at h1
    have h2 : (stepK.all (l.map (·.1)) (l.map (·.2))).take (i * 2) = stepK.all ((l.take i).map (·.1)) ((l.take i).map (·.2)) := by
      rw [List.map_take, List.map_take, stepK.all_take _ _ (by simp)]
      rfl
    rw [h2] at h1
    have h3 : ElemK stepK w' B U (l.take i) := by
      rw [hli]
      exact (HE.out.kept hg HFar.out).sub List.filter_sublist
    have h4 := h3.own h1 (by simp; omega) HOl.out
    have h5 : (l.take i).map (·.2) = xs.filter fun s => s.2 != 0 := by rw [hli]; exact HFil.out
    rw [h5] at h4
    exact h4
  by_cases hall : ∀ k, k < n → lenAt xs k ≠ 0
  · have HIx : Hid (idxL zeroLen (durs xs) = -1) := idxL_none fun j hj => by
      rw [durs_get]
      have := hall j (by unfold durs at hj; rw [List.length_map, HXl.out] at hj; exact hj)
      simpa [zeroLen] using this
    have HXs : Hid (xs.filter (fun s => s.2 != 0) = xs) := by
      show _ = _
      rw [List.filter_eq_self]
      intro s hs'
      obtain ⟨k, hk, rfl⟩ := List.mem_iff_getElem.1 hs'
      have := hall k (by have := HXl.out; omega)
      unfold lenAt at this
      rw [List.getD_eq_getElem?_getD, List.getElem?_eq_getElem hk, Option.getD_some] at this
      simpa using this
    rw [HIx.out] at HI
    rw [HXs.out]
    clear hall
    go_enter Tryz.func104, Tryz.ntmps104
    go_wp2_with fail
    refine HI.out.mono ?_
    rintro e w1 ⟨rfl, hx⟩
    have HX := hidP hx
    clear hx
    go_wp2
    go_ret
    exact ⟨n, hs, rfl, H0.out.below HX.out, ⟨HX.out.os, HX.out.tape, HX.out.output, HX.out.size, fun k hk _ => HX.out.block k hk⟩⟩
  · obtain ⟨i0, hi0, hz0, hbef⟩ : ∃ i0, i0 < n ∧ lenAt xs i0 = 0 ∧ ∀ j, j < i0 → lenAt xs j ≠ 0 := by
      have hex : ∃ k, k < n ∧ lenAt xs k = 0 := by
        apply Classical.byContradiction
        intro hno
        exact hall fun k hk e => hno ⟨k, hk, e⟩
      have : ∀ m, (∃ k, k < m ∧ k < n ∧ lenAt xs k = 0) → ∃ i0, i0 < n ∧ lenAt xs i0 = 0 ∧ ∀ j, j < i0 → lenAt xs j ≠ 0 := by
        intro m
        induction m with
        | zero => rintro ⟨k, hk, _⟩; omega
        | succ m ih =>
          rintro ⟨k, hk, hkn, hk0⟩
          by_cases hb : ∃ k', k' < m ∧ k' < n ∧ lenAt xs k' = 0
          · exact ih hb
          · refine ⟨k, hkn, hk0, fun j hj e => hb ⟨j, by omega, by omega, e⟩⟩
      obtain ⟨k, hk, hk0⟩ := hex
      exact this (k + 1) ⟨k, by omega, hk, hk0⟩
    have HIx : Hid (idxL zeroLen (durs xs) = (i0 : Int)) := idxL_at (by unfold durs; rw [List.length_map, HXl.out]; exact hi0) (fun j hj => by
      rw [durs_get]
      have := hbef j hj
      simpa [zeroLen] using this) (by rw [durs_get, hz0]; rfl)
    rw [HIx.out] at HI
    -- the first places are kept, the next one is not
    have HSt : Hid (zs.take i0 = (zs.take (i0 + 1)).filter keepZ) := by
      show _ = _
      have hzl := HZl.out
      rw [List.take_succ_eq_append_getElem (by omega), List.filter_append]
      have e1 : (zs.take i0).filter keepZ = zs.take i0 := by
        rw [List.filter_eq_self]
        intro z hz
        obtain ⟨k, hk, rfl⟩ := List.mem_iff_getElem.1 hz
        rw [List.length_take] at hk
        have h1 := hbef k (by omega)
        rw [HLen.out k (by omega)] at h1
        rw [List.getElem_take]
        simp only [keepZ, List.getD_eq_getElem?_getD, List.getElem?_eq_getElem (show k < zs.length by omega), Option.getD_some] at h1 ⊢
        simpa using h1
      have e2 : keepZ (zs[i0]'(by omega)) = false := by
        have h1 := hz0
        rw [HLen.out i0 hi0] at h1
        simp only [keepZ, List.getD_eq_getElem?_getD, List.getElem?_eq_getElem (show i0 < zs.length by omega), Option.getD_some] at h1 ⊢
        simpa using h1
      rw [e1, List.filter_cons, e2]
      simp
    clear hall hz0 hbef
    have hne1 : ((i0 : Int) == -1) = false := beq_eq_false_iff_ne.2 (by omega)
    have hcf := callFunc_turned1
    go_enter Tryz.func104, Tryz.ntmps104
    go_wp2_with fail
    refine HI.out.mono ?_
    rintro e w1 ⟨rfl, hx⟩
    have HG1 : Hid (w.grownBy w1 (some g)) := ⟨hx.os, hx.tape, hx.output, hx.size, fun k hk _ => hx.block k hk⟩
    have HR1 : Hid (RawS w1 B g n c zs) := by
      have := H0.out.below hx
      exact ⟨HRaw.out.row.kept (row := none) ⟨hx.os, hx.tape, hx.output, hx.size, fun k hk _ => hx.block k hk⟩ (.inr (by simp [Value.ownBlock])), HRaw.out.len⟩
    clear hx HI
    go_wp2
    go_loopw [5, 6] (fun ii jj wr => ∃ (i j : Nat) (l : List (Hdr × Stp)), i < j ∧ j ≤ n ∧ ii = .int .i64 i ∧ jj = .int .i64 j ∧ Hid (RawS wr B g n c l) ∧ Hid (l.take i = (zs.take j).filter keepZ) ∧ Hid (l.drop j = zs.drop j) ∧ Hid (w.grownBy wr (some g))) (fun _ jj _ => n - (intOf jj).toNat)
    case atStart => exact ⟨i0, i0 + 1, zs, Nat.lt_succ_self _, by omega, rfl, by go_num, HR1, HSt, rfl, HG1⟩
    case round =>
      obtain ⟨i, j, l, hij, hjn, rfl, rfl, HR, HT, HD, HG⟩ := hrel
      by_cases hlt : j < n
      · obtain ⟨q1, q2, r1, r2⟩ := HR.out.cells j hlt
        obtain ⟨⟨⟨aw, cw⟩, ⟨W, L⟩⟩, hz⟩ : ∃ z, z = l.getD j ((none, 0), ([], 0)) := ⟨_, rfl⟩
        rw [← hz] at q1 q2
        dsimp only at q1 q2
        have HZ : Hid (zs.getD j ((none, 0), ([], 0)) = ((aw, cw), (W, L))) := by
          show _ = _
          have h1 : (l.drop j)[0]? = (zs.drop j)[0]? := by rw [HD.out]
          simp only [List.getElem?_drop, Nat.add_zero] at h1
          rw [hz, List.getD_eq_getElem?_getD, List.getD_eq_getElem?_getD, h1]
        have hll := HR.out.len
        have HTs : Hid (zs.take (j + 1) = zs.take j ++ [((aw, cw), (W, L))]) := by
          show _ = _
          have hzl := HZl.out
          rw [List.take_succ_eq_append_getElem (by omega), ← HZ.out, List.getD_eq_getElem?_getD, List.getElem?_eq_getElem (by omega), Option.getD_some]
        have HDs : Hid (∀ l' : List (Hdr × Stp), l'.drop j = zs.drop j → l'.drop (j + 1) = zs.drop (j + 1)) := fun l' hl' => by
          rw [← List.drop_drop, ← List.drop_drop, hl']
        have HTn := hidP (fun w' => turned1_any aw W.length cw L w')
        obtain ⟨g0, g1, g2, g3⟩ := HR.out.cells i (by omega)
        have HPl := hidP (fun w' (h' : RawS w' B g n c l) => h'.placed i (by omega) ((aw, cw), (W, L)))
        have HX2 := hidP (Ext.alloc wr (.cells #[.slice aw W.length cw, .int .i64 L] 73))
        have HS := hidP (fun w' (hx : Ext (wr.alloc (.cells #[.slice aw W.length cw, .int .i64 L] 73)) w') => (StpAt.new wr _ rfl aw W.length cw L 73).below hx)
        have hgr : g < wr.heap.size := World.block_lt_of_cell? wr _ q1
        have HRE : Hid (∀ w', Ext wr w' → RawS w' B g n c l) := fun w' hx => ⟨HR.out.row.kept (row := none) ⟨hx.os, hx.tape, hx.output, hx.size, fun k hk _ => hx.block k hk⟩ (.inr (by simp [Value.ownBlock])), HR.out.len⟩
        obtain ⟨w2, hw2⟩ : ∃ w2, w2 = wr.alloc (.cells #[.slice aw W.length cw, .int .i64 L] 73) := ⟨_, rfl⟩
        rw [← hw2] at HX2 HS
        have hi1 : (i : Int) < (n : Int) := by omega
        have hi2 : (0 : Int) ≤ (i : Int) := by omega
        clear hz g0 g1 g2 g3
        obtain ⟨s1, s2⟩ := HS.out w2 (Ext.refl _)
        cases hb : (L == 0)
        · have hkeep : keepZ ((aw, cw), (W, L)) = true := by simpa [keepZ] using hb
          rw [hb] at HTn
          clear hb
          have HT2 : Hid ((l.set i ((aw, cw), (W, L))).take (i + 1) = (zs.take (j + 1)).filter keepZ) := by
            show _ = _
            rw [HTs.out, List.filter_append, ← HT.out, List.take_succ_eq_append_getElem (by simp; omega), List.getElem_set_self, List.take_set_of_le (Nat.le_refl _), List.filter_cons, hkeep]
            simp
          have HD2 : Hid ((l.set i ((aw, cw), (W, L))).drop (j + 1) = zs.drop (j + 1)) := by
            show _ = _
            rw [List.drop_set_of_lt (by omega)]
            exact HDs.out l HD.out
          clear hkeep
          go_wp2_with fail
          rw [← hw2]
          clear hw2 q1 q2 r1 r2
          refine (HTn.out w2).mono ?_
          rintro e w3 ⟨rfl, hx⟩
          obtain ⟨t1, t2⟩ := HS.out w3 hx
          have HR3 := hidP (HRE.out w3 (HX2.out.trans hx))
          obtain ⟨g0, g1, g2, g3⟩ := HR3.out.cells i (by omega)
          have HP3 := hidP (HPl.out w3 HR3.out)
          have hx3 := HX2.out.trans hx
          have HG3 : Hid (w.grownBy ((w3.setCell ⟨g, i * 2, none⟩ (.slice aw W.length cw)).setCell ⟨g, i * 2 + 1, none⟩ (.int .i64 L)) (some g)) :=
            ⟨hx3.os.trans HG.out.os, hx3.tape.trans HG.out.tape, hx3.output.trans HG.out.output, by have := HG.out.size; have := hx3.size; simp [World.setCell]; omega, fun k hk hne => by
              have hkg : k ≠ g := fun e => hne (by rw [e])
              rw [Below.heap_setCell _ _ _ _ hkg, Below.heap_setCell _ _ _ _ hkg, hx3.block k (Nat.lt_of_lt_of_le hk HG.out.size)]
              exact HG.out.block k hk hne⟩
          clear hx hx3 s1 s2
          go_wp2
          go_roundw
          case rel => exact ⟨i + 1, j + 1, _, by omega, by omega, by go_num, by go_num, HP3, HT2, HD2, HG3⟩
          case measure => simp [intOf]; omega
        · have hkeep : keepZ ((aw, cw), (W, L)) = false := by simpa [keepZ] using hb
          rw [hb] at HTn
          clear hb
          have HT2 : Hid (l.take i = (zs.take (j + 1)).filter keepZ) := by
            show _ = _
            rw [HTs.out, List.filter_append, ← HT.out, List.filter_cons, hkeep]
            simp
          have HD2 : Hid (l.drop (j + 1) = zs.drop (j + 1)) := HDs.out l HD.out
          clear hkeep
          go_wp2_with fail
          rw [← hw2]
          clear hw2 q1 q2 r1 r2
          refine (HTn.out w2).mono ?_
          rintro e w3 ⟨rfl, hx⟩
          have HR3 := hidP (HRE.out w3 (HX2.out.trans hx))
          have hx3 := HX2.out.trans hx
          have HG3 : Hid (w.grownBy w3 (some g)) :=
            ⟨hx3.os.trans HG.out.os, hx3.tape.trans HG.out.tape, hx3.output.trans HG.out.output, Nat.le_trans HG.out.size hx3.size, fun k hk hne => by
              rw [hx3.block k (Nat.lt_of_lt_of_le hk HG.out.size)]
              exact HG.out.block k hk hne⟩
          clear hx hx3 s1 s2
          go_wp2
          go_roundw
          case rel => exact ⟨i, j + 1, l, by omega, by omega, rfl, by go_num, HR3, HT2, HD2, HG3⟩
          case measure => simp [intOf]; omega
      · obtain rfl : n = j := by omega
        have hll := HR.out.len
        have HTf : Hid (l.take i = zs.filter keepZ) := by
          show _ = _
          rw [HT.out, List.take_of_length_le (by have := HZl.out; omega)]
        have hci : ¬ (c = i) := by omega
        have hi1 : (i : Int) ≤ (c : Int) := by omega
        have hi2 : (0 : Int) ≤ (i : Int) := by omega
        have hi3 : (i : Int) ≤ (n : Int) := by omega
        have hi4 : (n : Int) ≤ (c : Int) := by omega
        have HCell : Hid (∀ q, q < (n - i) * 2 → (wr.cell? ⟨g, i * 2 + q, none⟩).isSome = true ∧ wr.frozen? ⟨g, i * 2 + q, none⟩ = false) := by
          intro q hq
          obtain ⟨k1, k2, k3, k4⟩ := HR.out.cells (i + q / 2) (by omega)
          rcases (by omega : q % 2 = 0 ∨ q % 2 = 1) with h2 | h2
          · rw [show i * 2 + q = (i + q / 2) * 2 by omega, k1, k3]; simp
          · rw [show i * 2 + q = (i + q / 2) * 2 + 1 by omega, k2, k4]; simp
        have HFin : Hid (∀ vs, OwnK stepK (wr.setCells g (i * 2) vs) B U (some ⟨g, 0, none⟩) i c ((l.take i).map (·.1)) (xs.filter fun s => s.2 != 0) ∧ w.grownBy (wr.setCells g (i * 2) vs) (some g)) := by
          intro vs
          obtain ⟨ys, h1, h2, h3⟩ := row_setCells vs (i * 2) wr _ HR.out.row
          have hg : w.grownBy (wr.setCells g (i * 2) vs) (some g) := ⟨h3.os.trans HG.out.os, h3.tape.trans HG.out.tape, h3.output.trans HG.out.output, Nat.le_trans HG.out.size h3.size, fun k hk hne => (h3.block k (Nat.lt_of_lt_of_le hk HG.out.size) hne).trans (HG.out.block k hk hne)⟩
          exact ⟨HOut.out _ i l ys h1 h2 (by omega) hll HTf.out hg, hg⟩
        obtain ⟨vs, hrun⟩ := run_clear_steps g (i * 2) (n - i) (c - i) 0 wr (by omega) (fun q hq => (HCell.out q hq).1) (fun q hq => (HCell.out q hq).2)
        obtain ⟨hk1, hk2⟩ := HFin.out vs
        have HK1 := hidP hk1
        have HK2 := hidP hk2
        clear hk1 hk2 hll
        go_wp2
        go_ret
        exact ⟨i, _, rfl, HK1.out, HK2.out⟩
end Go.Proofs.YtdhlapppahkjeaaGreatDoor

namespace Go.Proofs.YtdhlapppahkjeaaGreatDoor
open Go.RowKit

variable {α : Type}
/-- a new block with elements of one's own -/
theorem ElemK.lit {K : Knd α} {w : World} {B : Nat} {l : List (Hdr × α)} (h : ElemK K w B w.heap.size l) (hB : B ≤ w.heap.size) (hm : l.length ≤ maxLen) :
    OwnK K (w.alloc (.cells (K.all (l.map (·.1)) (l.map (·.2))).toArray K.E)) B (w.heap.size + 1) (some ⟨w.heap.size, 0, none⟩) l.length l.length (l.map (·.1)) (l.map (·.2)) := by
  have hx := Ext.alloc w (.cells (K.all (l.map (·.1)) (l.map (·.2))).toArray K.E)
  have h1 : ElemK K (w.alloc (.cells (K.all (l.map (·.1)) (l.map (·.2))).toArray K.E)) B (w.heap.size + 1) l :=
    ⟨fun z hz => (h.each z hz).below hx, h.apart, fun z hz b o e => by have := h.lt z hz b o e; omega⟩
  refine h1.own ?_ rfl (fun b o e => by simp only [Option.some.injEq, Addr.mk.injEq, and_true] at e; omega)
  have hl : (K.all (l.map (·.1)) (l.map (·.2))).toArray.size = l.length * K.size := by
    rw [List.size_toArray, K.all_length _ _ (by simp)]
    simp
  have := World.ownsRow_lit (e := K.E) (size := K.size) (base := B) w (K.all (l.map (·.1)) (l.map (·.2))).toArray l.length hB hm hl
  simpa using this
theorem turn_le_len (R : List Int → List Int) {r : Nat} {p : List Stp} (hp : PathP r p) {a b : Nat} {fr tq : Int} (h : Turn p a fr b tq) (n : Nat) (hn : n ≤ p.length) : ∀ s ∈ turnTo R p a fr b tq n, 0 ≤ s.2 ∧ s.2 ≤ 83160 := by
  intro s hs
  refine ⟨turn_nonneg R (lens_of_path hp) h n hn s hs, ?_⟩
  simp only [turnTo, List.mem_flatMap, List.mem_range] at hs
  obtain ⟨k, hk, hs⟩ := hs
  have h1 := hp.dur k (by omega)
  obtain ⟨g1, g2, g3, g4, g5, g6, g7, g8, g9⟩ := h
  unfold turnK at hs
  split at hs
  · simp only [List.mem_singleton] at hs
    subst hs
    exact h1.2
  · simp only [List.mem_cons, List.not_mem_nil, or_false] at hs
    have e1 : k = b → tq ≤ lenAt p k := by rintro rfl; exact g7 (by omega)
    have e2 : k = a → fr ≤ lenAt p k := by rintro rfl; exact g5
    rcases hs with rfl | rfl | rfl
    · show (if k = a then fr else 0) ≤ _
      split <;> omega
    · show ((if k = b then tq else lenAt p k) - if k = a then fr else 0) ≤ _
      split <;> split <;> omega
    · show (lenAt p k - if k = b then tq else lenAt p k) ≤ _
      split <;> omega
theorem turn_way {r : Nat} {ts : List Int} {i : Nat} {p : List Stp} (hp : PathP r p) (a : Nat) (fr : Int) (b : Nat) (tq : Int) (n : Nat) (hn : n ≤ p.length) : ∀ s ∈ turnTo (refl r ts i) p a fr b tq n, s.1.length = r := by
  intro s hs
  simp only [turnTo, List.mem_flatMap, List.mem_range] at hs
  obtain ⟨k, hk, hs⟩ := hs
  have h1 := (hp.way k (by omega)).1
  unfold turnK at hs
  split at hs
  · simp only [List.mem_singleton] at hs
    subst hs
    exact h1
  · simp only [List.mem_cons, List.not_mem_nil, or_false] at hs
    rcases hs with rfl | rfl | rfl
    · exact h1
    · exact refl_length _ _ _ _
    · exact h1
theorem turnTo_length (R : List Int → List Int) (p : List Stp) (a : Nat) (fr : Int) (b : Nat) (tq : Int) : ∀ n, (turnTo R p a fr b tq n).length ≤ 3 * n
  | 0 => Nat.le_refl _
  | n + 1 => by
    have ih := turnTo_length R p a fr b tq n
    rw [turnTo_succ, List.length_append]
    have : (turnK R p a fr b tq n).length ≤ 3 := by
      unfold turnK
      split <;> simp
    omega
/-- what 'turned' gives -/
def turnR (r : Nat) (ts : List Int) (i : Nat) (p : List Stp) (a : Nat) (fr : Int) (b : Nat) (tq : Int) : Bool × List Stp := chk r ((turnTo (refl r ts i) p a fr b tq p.length).filter fun s => s.2 != 0)

set_option maxRecDepth 100000 in
set_option maxHeartbeats 8000000 in
theorem turned_any (R : Nat) (ta : Option Addr) (tn tc : Nat) (ts : List Int) (i : Nat) (a : Option Addr) (n c : Nat) (xs : List Stp) (A Bq : Nat) (fr tq : Int) (w : World) (hc : IntsAt w ta tn ts) (hT : typeB R ts = true) (hi : i < R)
    (h : StepsAt w a n xs) (hp : PathP R xs) (hTu : Turn xs A fr Bq tq)
    (HIs : ∀ w', Ext w w' → Calls Tryz.prog 36 #[carV R ta tn tc] w' fun e w'' => e = .returned (.bool (typeB R ts)) ∧ Ext w' w'') :
    PathRes 80 #[carV R ta tn tc, .int .i64 i, .slice a n c, .int .i64 A, .int .i64 fr, .int .i64 Bq, .int .i64 tq] w (turnR R ts i xs A fr Bq tq) := by
  unfold PathRes
  obtain ⟨⟨J1, J2⟩, hJ⟩ : ∃ J, J = turnR R ts i xs A fr Bq tq := ⟨_, rfl⟩
  rw [← hJ]
  have HJ := hidP hJ
  clear hJ
  dsimp only
  have hx1 := Ext.alloc w (.cells #[.int .i64 R, .slice ta tn tc] 29)
  have HC := hidP (fun w' (hx : Ext (w.alloc (.cells #[.int .i64 R, .slice ta tn tc] 29)) w') => (CarAt.new w _ rfl (R : Int) ta tn tc 29).below hx)
  have HX1 := hidP hx1
  have HT := hidP hT
  have HP := hidP hp
  have HTu := hidP hTu
  have HIs1 := hidP HIs
  have Hc := hidP hc
  have Hh := hidP h
  have Hl := hidP h.len
  have hn60 : n ≤ 60 := by have := hp.len; have := h.len; omega
  have hr4 := typeB_rank hT
  have hR4 : R ≤ 4 := by omega
  have hRf := hidP (fun w' (hx : Ext w w') (aw : Option Addr) (cw : Nat) (W : List Int) (hI : IntsAt w' aw W.length W) (hnl : aw = none → cw = 0) (hW : W.length = R) (hb : ∀ j, j < R → -1000 ≤ W.getD j 0 ∧ W.getD j 0 ≤ 1000) => reflectWeight_any R ta tn tc ts i aw W.length cw W w' (hc.below hx) hT hi hI hnl hW hb)
  have HM0 := hidP (OwnK.made0 stepK (w.alloc (.cells #[.int .i64 R, .slice ta tn tc] 29)))
  have HXM := hidP (Ext.alloc (w.alloc (.cells #[.int .i64 R, .slice ta tn tc] 29)) (.cells #[] 73))
  have hA := hTu.an
  have hAB := hTu.ab
  have hBn := hTu.bn
  have hln := h.len
  have hAn : A < n := by omega
  have hBn' : Bq ≤ n := by omega
  have hfr0 := hTu.fr0
  have hto0 := hTu.to0
  clear hc h hx1 hT hp hTu HIs hr4 hA hBn hln
  go_enter Tryz.func80, Tryz.ntmps80
  go_wp2
  obtain ⟨w1, hw1⟩ : ∃ w1, w1 = w.alloc (.cells #[.int .i64 R, .slice ta tn tc] 29) := ⟨_, rfl⟩
  have hws : w.heap.size + 1 = w1.heap.size := by rw [hw1]; simp
  rw [← hw1] at HM0 HXM HC HX1 ⊢
  have HWS := hidP hws
  clear hw1 hws
  go_loopw [16, 24] (fun out ii wr => ∃ (k g m co : Nat) (hs : List Hdr), k ≤ n ∧ m ≤ 3 * k ∧ out = .slice (some ⟨g, 0, none⟩) m co ∧ ii = .int .i64 k ∧ Hid (OwnK stepK wr w1.heap.size wr.heap.size (some ⟨g, 0, none⟩) m co hs (turnTo (refl R ts i) xs A fr Bq tq k)) ∧ Hid (Ext w1 wr)) (fun _ ii _ => n - (intOf ii).toNat)
  case atStart => exact ⟨0, _, _, _, [], Nat.zero_le _, Nat.zero_le _, rfl, rfl, by rw [HWS.out]; exact HM0, HXM⟩
  case round =>
    obtain ⟨k, g, m, co, hs, hk, hm3, rfl, rfl, HO, HX⟩ := hrel
    by_cases hlt : k < n
    · obtain ⟨b, o, aw, cw, W, L, rfl, HW, HL, hwl, HNl, hq⟩ := (Hh.out.below (HX1.out.trans HX.out)).way k hlt
      have HQ := hidP hq
      obtain ⟨q1, q2, _⟩ := hq wr (Ext.refl wr)
      have hwy := HP.out.way k (by have := Hl.out; omega)
      have hdur := HP.out.dur k (by have := Hl.out; omega)
      rw [HW.out] at hwy
      rw [HL.out] at hdur
      have HWy := hidP hwy
      have hWle : W.length ≤ 4 := by omega
      have hfrA : k = A → fr ≤ L := fun e => by have := HTu.out.fr1; rw [← e, HL.out] at this; exact this
      have htoB : k = Bq → tq ≤ L := fun e => by have := HTu.out.to1 (by have := Hl.out; omega); rw [← e, HL.out] at this; exact this
      have hTS : Hid (turnTo (refl R ts i) xs A fr Bq tq (k + 1) = turnTo (refl R ts i) xs A fr Bq tq k ++ turnK (refl R ts i) xs A fr Bq tq k) := turnTo_succ _ _ _ _ _ _ _
      have HA2 := hidP (Ext.alloc wr (.cells #[.slice aw W.length cw, .int .i64 L] 73))
      have HS := hidP (fun w' (hx : Ext (wr.alloc (.cells #[.slice aw W.length cw, .int .i64 L] 73)) w') => (StpAt.new wr _ rfl aw W.length cw L 73).below hx)
      obtain ⟨w2, hw2⟩ : ∃ w2, w2 = wr.alloc (.cells #[.slice aw W.length cw, .int .i64 L] 73) := ⟨_, rfl⟩
      rw [← hw2] at HA2 HS
      have HCl := hidP (fun w' (hx : Ext w2 w') => clone_any aw W.length cw W w' (HQ.out w' (HA2.out.trans hx)).2.2 HNl.out (by omega))
      have HRf := hidP (fun w' (hx : Ext w2 w') => hRf.out w' ((HX1.out.trans HX.out).trans (HA2.out.trans hx)) aw cw W (HQ.out w' (HA2.out.trans hx)).2.2 HNl.out HWy.out.1 HWy.out.2)
      have HX2 := hidP (HX.out.trans HA2.out)
      have hE : Ext w2 w2.drew := Ext.drew w2
      obtain ⟨s1, s2⟩ := HS.out w2 (Ext.refl _)
      have hz0 : wr.heap.size < w2.heap.size := World.block_lt_of_cell? w2 _ s1
      clear hq hwy
      by_cases hkl : k < A
      · -- ahead of the part
        have HTK : Hid (turnTo (refl R ts i) xs A fr Bq tq (k + 1) = turnTo (refl R ts i) xs A fr Bq tq k ++ [(W, L)]) := by
          show _ = _
          rw [hTS.out]
          unfold turnK
          rw [if_pos (by omega), HW.out, HL.out]
        have hA : ((k : Int) == (A : Int)) = false := by simp; omega
        have hB : ((k : Int) == (Bq : Int)) = false := by simp; omega
        have hl1 : (k : Int) < (A : Int) := by omega
        have hl2 : ¬ ((A : Int) ≤ (k : Int)) := by omega
        clear hTS hfrA htoB
        go_wp2
        rw [← hw2]
        clear hw2 q1 q2 s1 s2
        (refine walkR_start (fun w' => Ext w2 w') 8 (by kernel_rfl) ?_; simp only [numbered, List.take_succ_cons, List.take_zero, Nat.zero_add, Nat.reduceAdd, List.length_cons, List.length_nil])
        (repeat (first | (refine walkR_still (v := ?_) rfl (by decide +kernel) rfl (fun _ _ _ h => h) hE ?_ ?_; rotate_left; (focus (intro w' hw'; obtain ⟨s1, s2⟩ := HS.out w' hw'; go_simp; all_goals (with_reducible rfl))); simp only [Act.put, List.setIfInBounds_toArray, List.set_cons_zero, List.set_cons_succ]) | (refine walkR_skip rfl (by decide +kernel) rfl (fun _ _ _ h => h) hE ?_; simp only [Act.put, List.setIfInBounds_toArray, List.set_cons_zero, List.set_cons_succ])))
        (refine walkR_later ?_; simp only [List.cons_append, List.nil_append])
        (repeat (first | (refine walkR_still (v := ?_) rfl (by decide +kernel) rfl (fun _ _ _ h => h) hE ?_ ?_; rotate_left; (focus (intro w' hw'; obtain ⟨s1, s2⟩ := HS.out w' hw'; go_simp; all_goals (with_reducible rfl))); simp only [Act.put, List.setIfInBounds_toArray, List.set_cons_zero, List.set_cons_succ]) | (refine walkR_skip rfl (by decide +kernel) rfl (fun _ _ _ h => h) hE ?_; simp only [Act.put, List.setIfInBounds_toArray, List.set_cons_zero, List.set_cons_succ])))
        (refine walkR_later ?_; simp only [List.cons_append, List.nil_append]); (refine walkR_later ?_; simp only [List.cons_append, List.nil_append])
        (refine walkR_only (fun w' => Ext w2 w') rfl (by decide +kernel) rfl (fun _ h => h) ?_; intro K hK; go_simp; refine (HCl.out _ hE).mono ?_; rintro e w3 ⟨a1, c1, rfl, ho1, hx1⟩; refine hK _ _ (hE.trans hx1) ?_; clear hK K; (try simp only [Act.put, List.setIfInBounds_toArray, List.set_cons_zero, List.set_cons_succ]))
        have HE3 := hidP (HA2.out.trans ((hE.trans hx1).trans (Ext.alloc w3 (.cells #[.slice a1 W.length c1, .int .i64 L] 73))))
        have HO3 := hidP (HO.out.below HE3.out)
        have HI3 := hidP (ho1.below (Ext.alloc w3 (.cells #[.slice a1 W.length c1, .int .i64 L] 73)))
        have HAp := hidP (HO.out.new_apart ho1 (by have := HA2.out.size; simpa using this))
        have HB3 : Hid (w1.heap.size ≤ w2.drew.heap.size) := Nat.le_trans HX.out.size (HA2.out.trans hE).size
        have HCe : Hid (∀ j, j < stepK.size → (w3.alloc (.cells #[.slice a1 W.length c1, .int .i64 L] 73)).cell? ⟨w3.heap.size, j, none⟩ = (stepK.cells a1 c1 (W, L))[j]?) := fun j _ => (cell_top _ _ _ _ _ rfl).trans (by simp [stepK])
        have hE3 := hE.trans hx1
        clear ho1 hx1 hE
        (repeat (first | (refine walkR_still (v := ?_) rfl (by decide +kernel) rfl (fun _ _ _ h => h) hE3 ?_ ?_; rotate_left; (focus (intro w' hw'; skip; go_simp; all_goals (with_reducible rfl))); simp only [Act.put, List.setIfInBounds_toArray, List.set_cons_zero, List.set_cons_succ]) | (refine walkR_skip rfl (by decide +kernel) rfl (fun _ _ _ h => h) hE3 ?_; simp only [Act.put, List.setIfInBounds_toArray, List.set_cons_zero, List.set_cons_succ])))
        (refine walkR_only (fun w' => Ext w2 w') rfl (by decide +kernel) rfl ?_ ?_)
        · exact fun _ h => h
        intro K hK
        go_simp
        refine hK _ _ (hE3.trans (Ext.alloc w3 (.cells #[.slice a1 W.length c1, .int .i64 L] 73))) ?_
        clear hK K hE3
        (try simp only [Act.put, List.setIfInBounds_toArray, List.set_cons_zero, List.set_cons_succ])
        (refine walkR_tail (by rfl) (by kernel_rfl) ?_; simp only [List.drop_succ_cons, List.drop_zero])
        go_wp2_with (at_builtin; refine wpList_append_elem2 stepK 45 (.agg #[.slice none 0 0, .int .i64 0]) 32 rfl (.tmp 57) (.tmp 64) rfl Tryz.underlying45 Tryz.info73 rfl (by omega) w1.heap.size _ (some ⟨g, 0, none⟩) m co hs _ rfl HO3.out w3.heap.size 1 (a1, c1) (W, L) rfl HCe.out (HI3.out.base HB3.out) HAp.out.1 HAp.out.2 (by omega) (Nat.le_trans HX.out.size HE3.out.size) ?_; intro a4 c4 w4 ho4 hg4 _; have HX4 := hidP (Below.own (HX.out.trans HE3.out) hg4 (HX.out.trans HE3.out).size (fun b o e => by have := HO.out.base_lt b o e; omega) HO3.out.addr); rw [← HTK.out] at ho4; have HO4 := hidP ho4; clear ho4 hg4)
        obtain ⟨g4, rfl⟩ : ∃ g4, a4 = some ⟨g4, 0, none⟩ := by
          rcases HO4.out.form with ⟨_, h0, _⟩ | ⟨g4, _, e4, _⟩
          · omega
          · exact ⟨g4, e4⟩
        go_roundw
        case rel => exact ⟨k + 1, g4, m + 1, c4, _, by omega, by omega, rfl, by go_num, HO4, HX4⟩
        case measure => simp [intOf]; omega
      · by_cases hkg : Bq < k
        · -- behind the part
          have HTK : Hid (turnTo (refl R ts i) xs A fr Bq tq (k + 1) = turnTo (refl R ts i) xs A fr Bq tq k ++ [(W, L)]) := by
            show _ = _
            rw [hTS.out]
            unfold turnK
            rw [if_pos (by omega), HW.out, HL.out]
          have hA : ((k : Int) == (A : Int)) = false := by simp; omega
          have hB : ((k : Int) == (Bq : Int)) = false := by simp; omega
          have hl1 : ¬ ((k : Int) < (A : Int)) := by omega
          have hl2 : (A : Int) ≤ (k : Int) := by omega
          have hl3 : (Bq : Int) < (k : Int) := by omega
          have hl4 : ¬ ((k : Int) < (Bq : Int)) := by omega
          clear hTS hfrA htoB
          go_wp2
          rw [← hw2]
          clear hw2 q1 q2 s1 s2
          (refine walkR_start (fun w' => Ext w2 w') 8 (by kernel_rfl) ?_; simp only [numbered, List.take_succ_cons, List.take_zero, Nat.zero_add, Nat.reduceAdd, List.length_cons, List.length_nil])
          (repeat (first | (refine walkR_still (v := ?_) rfl (by decide +kernel) rfl (fun _ _ _ h => h) hE ?_ ?_; rotate_left; (focus (intro w' hw'; obtain ⟨s1, s2⟩ := HS.out w' hw'; go_simp; all_goals (with_reducible rfl))); simp only [Act.put, List.setIfInBounds_toArray, List.set_cons_zero, List.set_cons_succ]) | (refine walkR_skip rfl (by decide +kernel) rfl (fun _ _ _ h => h) hE ?_; simp only [Act.put, List.setIfInBounds_toArray, List.set_cons_zero, List.set_cons_succ])))
          (refine walkR_later ?_; simp only [List.cons_append, List.nil_append])
          (repeat (first | (refine walkR_still (v := ?_) rfl (by decide +kernel) rfl (fun _ _ _ h => h) hE ?_ ?_; rotate_left; (focus (intro w' hw'; obtain ⟨s1, s2⟩ := HS.out w' hw'; go_simp; all_goals (with_reducible rfl))); simp only [Act.put, List.setIfInBounds_toArray, List.set_cons_zero, List.set_cons_succ]) | (refine walkR_skip rfl (by decide +kernel) rfl (fun _ _ _ h => h) hE ?_; simp only [Act.put, List.setIfInBounds_toArray, List.set_cons_zero, List.set_cons_succ])))
          (refine walkR_later ?_; simp only [List.cons_append, List.nil_append]); (refine walkR_later ?_; simp only [List.cons_append, List.nil_append])
          (refine walkR_only (fun w' => Ext w2 w') rfl (by decide +kernel) rfl (fun _ h => h) ?_; intro K hK; go_simp; refine (HCl.out _ hE).mono ?_; rintro e w3 ⟨a1, c1, rfl, ho1, hx1⟩; refine hK _ _ (hE.trans hx1) ?_; clear hK K; (try simp only [Act.put, List.setIfInBounds_toArray, List.set_cons_zero, List.set_cons_succ]))
          have HE3 := hidP (HA2.out.trans ((hE.trans hx1).trans (Ext.alloc w3 (.cells #[.slice a1 W.length c1, .int .i64 L] 73))))
          have HO3 := hidP (HO.out.below HE3.out)
          have HI3 := hidP (ho1.below (Ext.alloc w3 (.cells #[.slice a1 W.length c1, .int .i64 L] 73)))
          have HAp := hidP (HO.out.new_apart ho1 (by have := HA2.out.size; simpa using this))
          have HB3 : Hid (w1.heap.size ≤ w2.drew.heap.size) := Nat.le_trans HX.out.size (HA2.out.trans hE).size
          have HCe : Hid (∀ j, j < stepK.size → (w3.alloc (.cells #[.slice a1 W.length c1, .int .i64 L] 73)).cell? ⟨w3.heap.size, j, none⟩ = (stepK.cells a1 c1 (W, L))[j]?) := fun j _ => (cell_top _ _ _ _ _ rfl).trans (by simp [stepK])
          have hE3 := hE.trans hx1
          clear ho1 hx1 hE
          (repeat (first | (refine walkR_still (v := ?_) rfl (by decide +kernel) rfl (fun _ _ _ h => h) hE3 ?_ ?_; rotate_left; (focus (intro w' hw'; skip; go_simp; all_goals (with_reducible rfl))); simp only [Act.put, List.setIfInBounds_toArray, List.set_cons_zero, List.set_cons_succ]) | (refine walkR_skip rfl (by decide +kernel) rfl (fun _ _ _ h => h) hE3 ?_; simp only [Act.put, List.setIfInBounds_toArray, List.set_cons_zero, List.set_cons_succ])))
          (refine walkR_only (fun w' => Ext w2 w') rfl (by decide +kernel) rfl ?_ ?_)
          · exact fun _ h => h
          intro K hK
          go_simp
          refine hK _ _ (hE3.trans (Ext.alloc w3 (.cells #[.slice a1 W.length c1, .int .i64 L] 73))) ?_
          clear hK K hE3
          (try simp only [Act.put, List.setIfInBounds_toArray, List.set_cons_zero, List.set_cons_succ])
          (refine walkR_tail (by rfl) (by kernel_rfl) ?_; simp only [List.drop_succ_cons, List.drop_zero])
          go_wp2_with (at_builtin; refine wpList_append_elem2 stepK 45 (.agg #[.slice none 0 0, .int .i64 0]) 32 rfl (.tmp 57) (.tmp 64) rfl Tryz.underlying45 Tryz.info73 rfl (by omega) w1.heap.size _ (some ⟨g, 0, none⟩) m co hs _ rfl HO3.out w3.heap.size 1 (a1, c1) (W, L) rfl HCe.out (HI3.out.base HB3.out) HAp.out.1 HAp.out.2 (by omega) (Nat.le_trans HX.out.size HE3.out.size) ?_; intro a4 c4 w4 ho4 hg4 _; have HX4 := hidP (Below.own (HX.out.trans HE3.out) hg4 (HX.out.trans HE3.out).size (fun b o e => by have := HO.out.base_lt b o e; omega) HO3.out.addr); rw [← HTK.out] at ho4; have HO4 := hidP ho4; clear ho4 hg4)
          obtain ⟨g4, rfl⟩ : ∃ g4, a4 = some ⟨g4, 0, none⟩ := by
            rcases HO4.out.form with ⟨_, h0, _⟩ | ⟨g4, _, e4, _⟩
            · omega
            · exact ⟨g4, e4⟩
          go_roundw
          case rel => exact ⟨k + 1, g4, m + 1, c4, _, by omega, by omega, rfl, by go_num, HO4, HX4⟩
          case measure => simp [intOf]; omega
        · by_cases hkA : k = A
          · by_cases hkB : k = Bq
            · have hfl := hfrA hkA
              have htl := htoB hkB
              have hft : fr ≤ tq := HTu.out.eq (by omega)
              have HTK : Hid (turnTo (refl R ts i) xs A fr Bq tq (k + 1) = turnTo (refl R ts i) xs A fr Bq tq k ++ [(W, fr), (refl R ts i W, tq - fr), (W, L - tq)]) := by
                show _ = _
                rw [hTS.out]
                unfold turnK
                rw [if_neg (by omega), HW.out, HL.out]
                rw [if_pos hkA, if_pos hkB]
              have hge : (A : Int) ≤ (k : Int) := by omega
              have hng : ¬ ((k : Int) < (A : Int)) := by omega
              have hnb : ¬ ((Bq : Int) < (k : Int)) := by omega
              have hA : ((k : Int) == (A : Int)) = true := by simp [hkA]
              have hBq : ((k : Int) == (Bq : Int)) = true := by simp [hkB]
              have hwr1 : IntKind.i64.wrap (tq - fr) = tq - fr := wrap_in (by omega) (by omega)
              have hwr2 : IntKind.i64.wrap (L - tq) = L - tq := wrap_in (by omega) (by omega)
              have hlb : ¬ ((k : Int) < (Bq : Int)) := by omega
              have HkA := hidP hkA
              have HkB := hidP hkB
              clear hTS hfrA htoB hkA hkB
              go_wp2
              rw [← hw2]
              clear hw2 q1 q2 s1 s2
              (refine walkR_start (fun w' => Ext w2 w') 24 (by kernel_rfl) ?_; simp only [numbered, List.take_succ_cons, List.take_zero, Nat.zero_add, Nat.reduceAdd, List.length_cons, List.length_nil])
              (repeat (first | (refine walkR_still (v := ?_) rfl (by decide +kernel) rfl (fun _ _ _ h => h) hE ?_ ?_; rotate_left; (focus (intro w' hw'; obtain ⟨s1, s2⟩ := HS.out w' hw'; go_simp; all_goals (with_reducible rfl))); simp only [Act.put, List.setIfInBounds_toArray, List.set_cons_zero, List.set_cons_succ]) | (refine walkR_skip rfl (by decide +kernel) rfl (fun _ _ _ h => h) hE ?_; simp only [Act.put, List.setIfInBounds_toArray, List.set_cons_zero, List.set_cons_succ])))
              (refine walkR_later ?_; simp only [List.cons_append, List.nil_append])
              (repeat (first | (refine walkR_still (v := ?_) rfl (by decide +kernel) rfl (fun _ _ _ h => h) hE ?_ ?_; rotate_left; (focus (intro w' hw'; skip; go_simp; all_goals (with_reducible rfl))); simp only [Act.put, List.setIfInBounds_toArray, List.set_cons_zero, List.set_cons_succ]) | (refine walkR_skip rfl (by decide +kernel) rfl (fun _ _ _ h => h) hE ?_; simp only [Act.put, List.setIfInBounds_toArray, List.set_cons_zero, List.set_cons_succ])))
              (refine walkR_later ?_; simp only [List.cons_append, List.nil_append])
              (repeat (first | (refine walkR_still (v := ?_) rfl (by decide +kernel) rfl (fun _ _ _ h => h) hE ?_ ?_; rotate_left; (focus (intro w' hw'; obtain ⟨s1, s2⟩ := HS.out w' hw'; obtain ⟨f0, f1⟩ := HC.out w' (HX2.out.trans hw'); go_simp; all_goals (with_reducible rfl))); simp only [Act.put, List.setIfInBounds_toArray, List.set_cons_zero, List.set_cons_succ]) | (refine walkR_skip rfl (by decide +kernel) rfl (fun _ _ _ h => h) hE ?_; simp only [Act.put, List.setIfInBounds_toArray, List.set_cons_zero, List.set_cons_succ])))
              (refine walkR_later ?_; simp only [List.cons_append, List.nil_append])
              (repeat (first | (refine walkR_still (v := ?_) rfl (by decide +kernel) rfl (fun _ _ _ h => h) hE ?_ ?_; rotate_left; (focus (intro w' hw'; skip; go_simp; all_goals (with_reducible rfl))); simp only [Act.put, List.setIfInBounds_toArray, List.set_cons_zero, List.set_cons_succ]) | (refine walkR_skip rfl (by decide +kernel) rfl (fun _ _ _ h => h) hE ?_; simp only [Act.put, List.setIfInBounds_toArray, List.set_cons_zero, List.set_cons_succ])))
              (refine walkR_later ?_; simp only [List.cons_append, List.nil_append])
              (repeat (first | (refine walkR_still (v := ?_) rfl (by decide +kernel) rfl (fun _ _ _ h => h) hE ?_ ?_; rotate_left; (focus (intro w' hw'; obtain ⟨s1, s2⟩ := HS.out w' hw'; go_simp; all_goals (with_reducible rfl))); simp only [Act.put, List.setIfInBounds_toArray, List.set_cons_zero, List.set_cons_succ]) | (refine walkR_skip rfl (by decide +kernel) rfl (fun _ _ _ h => h) hE ?_; simp only [Act.put, List.setIfInBounds_toArray, List.set_cons_zero, List.set_cons_succ])))
              (refine walkR_later ?_; simp only [List.cons_append, List.nil_append])
              (repeat (first | (refine walkR_still (v := ?_) rfl (by decide +kernel) rfl (fun _ _ _ h => h) hE ?_ ?_; rotate_left; (focus (intro w' hw'; obtain ⟨s1, s2⟩ := HS.out w' hw'; go_simp; all_goals (with_reducible rfl))); simp only [Act.put, List.setIfInBounds_toArray, List.set_cons_zero, List.set_cons_succ]) | (refine walkR_skip rfl (by decide +kernel) rfl (fun _ _ _ h => h) hE ?_; simp only [Act.put, List.setIfInBounds_toArray, List.set_cons_zero, List.set_cons_succ])))
              (refine walkR_later ?_; simp only [List.cons_append, List.nil_append]); (refine walkR_later ?_; simp only [List.cons_append, List.nil_append])
              (refine walkR_only (fun w' => Ext w2 w') rfl (by decide +kernel) rfl (fun _ h => h) ?_; intro K hK; go_simp; refine (HCl.out _ hE).mono ?_; rintro e w3 ⟨a1, c1, rfl, ho1, hx1⟩; refine hK _ _ (hE.trans hx1) ?_; clear hK K; (try simp only [Act.put, List.setIfInBounds_toArray, List.set_cons_zero, List.set_cons_succ]))
              have hE3 := hE.trans hx1
              have HI1 := hidP ho1
              have hz1 := hidP (hidP hx1.size).out
              clear ho1 hx1
              (repeat (first | (refine walkR_still (v := ?_) rfl (by decide +kernel) rfl (fun _ _ _ h => h) hE3 ?_ ?_; rotate_left; (focus (intro w' hw'; skip; go_simp; all_goals (with_reducible rfl))); simp only [Act.put, List.setIfInBounds_toArray, List.set_cons_zero, List.set_cons_succ]) | (refine walkR_skip rfl (by decide +kernel) rfl (fun _ _ _ h => h) hE3 ?_; simp only [Act.put, List.setIfInBounds_toArray, List.set_cons_zero, List.set_cons_succ])))
              (refine walkR_only (fun w' => Ext w2 w') rfl (by decide +kernel) rfl (fun _ h => h) ?_; intro K hK; go_simp; refine (HRf.out _ hE3).mono ?_; rintro e w4 ⟨a2, c2, rfl, ho2, hx2⟩; refine hK _ _ (hE3.trans hx2) ?_; clear hK K; (try simp only [Act.put, List.setIfInBounds_toArray, List.set_cons_zero, List.set_cons_succ]))
              have hE4 := hE3.trans hx2
              have HI2 := hidP ho2
              have HI12 := hidP (HI1.out.below hx2)
              have hz2 := hidP (hidP hx2.size).out
              clear ho2 hx2 hE3
              (repeat (first | (refine walkR_still (v := ?_) rfl (by decide +kernel) rfl (fun _ _ _ h => h) hE4 ?_ ?_; rotate_left; (focus (intro w' hw'; skip; go_simp; all_goals (with_reducible rfl))); simp only [Act.put, List.setIfInBounds_toArray, List.set_cons_zero, List.set_cons_succ]) | (refine walkR_skip rfl (by decide +kernel) rfl (fun _ _ _ h => h) hE4 ?_; simp only [Act.put, List.setIfInBounds_toArray, List.set_cons_zero, List.set_cons_succ])))
              (refine walkR_only (fun w' => Ext w2 w') rfl (by decide +kernel) rfl (fun _ h => h) ?_; intro K hK; go_simp; refine (HCl.out _ hE4).mono ?_; rintro e w5 ⟨a3, c3, rfl, ho3, hx3⟩; refine hK _ _ (hE4.trans hx3) ?_; clear hK K; (try simp only [Act.put, List.setIfInBounds_toArray, List.set_cons_zero, List.set_cons_succ]))
              have hE5 := hE4.trans hx3
              have HI3 := hidP ho3
              have HI23 := hidP (HI2.out.below hx3)
              have HI13 := hidP (HI12.out.below hx3)
              clear ho3 hx3 hE4
              (repeat (first | (refine walkR_still (v := ?_) rfl (by decide +kernel) rfl (fun _ _ _ h => h) hE5 ?_ ?_; rotate_left; (focus (intro w' hw'; skip; go_simp; all_goals (with_reducible rfl))); simp only [Act.put, List.setIfInBounds_toArray, List.set_cons_zero, List.set_cons_succ]) | (refine walkR_skip rfl (by decide +kernel) rfl (fun _ _ _ h => h) hE5 ?_; simp only [Act.put, List.setIfInBounds_toArray, List.set_cons_zero, List.set_cons_succ])))
              have HRl : Hid ((refl R ts i W).length = R) := refl_length _ _ _ _
              have HEl : Hid (ElemK stepK w5 w1.heap.size w5.heap.size [((a1, c1), (W, fr)), ((a2, c2), (refl R ts i W, tq - fr)), ((a3, c3), (W, L - tq))]) := by
                have hb1 := fun b o e => HI1.out.at_base b o e
                have hb2 := fun b o e => HI2.out.at_base b o e
                have hb3 := fun b o e => HI3.out.at_base b o e
                have hs2 := hE.size
                have hs0 := HX2.out.size
                have hl13 := fun b o e => HI13.out.at_base b o e
                have hl23 := fun b o e => HI23.out.at_base b o e
                refine ⟨fun z hz => ?_, ?_, fun z hz b o e => ?_⟩
                · simp only [List.mem_cons, List.not_mem_nil, or_false] at hz
                  rcases hz with rfl | rfl | rfl
                  · exact HI13.out.base (Nat.le_trans hs0 hs2)
                  · have h1 : OwnI w5 w1.heap.size a2 W.length c2 (refl R ts i W) := HI23.out.base (by have := hz1.out; omega)
                    show OwnI w5 w1.heap.size a2 (refl R ts i W).length c2 (refl R ts i W)
                    rw [show (refl R ts i W).length = W.length by rw [HRl.out, HWy.out.1]]
                    exact h1
                  · exact HI3.out.base (by have := hz1.out; have := hz2.out; omega)
                · refine .cons (fun z hz => ?_) (.cons (fun z hz => ?_) (.cons (fun z hz => by cases hz) .nil))
                  · simp only [List.mem_cons, List.not_mem_nil, or_false] at hz
                    rcases hz with rfl | rfl
                    · intro b o b' o' e e'
                      have := hb1 b o e
                      have := hb2 b' o' e'
                      omega
                    · intro b o b' o' e e'
                      have := hb1 b o e
                      have := hb3 b' o' e'
                      have := hz2.out
                      omega
                  · simp only [List.mem_cons, List.not_mem_nil, or_false] at hz
                    rcases hz with rfl
                    intro b o b' o' e e'
                    have := hb2 b o e
                    have := hb3 b' o' e'
                    omega
                · simp only [List.mem_cons, List.not_mem_nil, or_false] at hz
                  rcases hz with rfl | rfl | rfl
                  · exact (hl13 b o e).2
                  · exact (hl23 b o e).2
                  · exact (hb3 b o e).2
              have hB5 : w1.heap.size ≤ w5.heap.size := (HX2.out.trans hE5).size
              have HLit : Hid (OwnK stepK (w5.alloc (.cells #[.slice a1 W.length c1, .int .i64 (fr), .slice a2 W.length c2, .int .i64 (tq - fr), .slice a3 W.length c3, .int .i64 (L - tq)] 73)) w1.heap.size (w5.heap.size + 1) (some ⟨w5.heap.size, 0, none⟩) 3 3 [(a1, c1), (a2, c2), (a3, c3)] [(W, fr), (refl R ts i W, tq - fr), (W, L - tq)]) := by
                have h1 := HEl.out.lit hB5 (by unfold maxLen; simp)
                have e1 : (stepK.all ([((a1, c1), (W, fr)), ((a2, c2), (refl R ts i W, tq - fr)), ((a3, c3), (W, L - tq))].map (·.1)) ([((a1, c1), (W, fr)), ((a2, c2), (refl R ts i W, tq - fr)), ((a3, c3), (W, L - tq))].map (·.2))).toArray = #[Value.slice a1 W.length c1, .int .i64 (fr), .slice a2 W.length c2, .int .i64 (tq - fr), .slice a3 W.length c3, .int .i64 (L - tq)] := by
                  have e2 : (refl R ts i W).length = W.length := by rw [HRl.out, HWy.out.1]
                  simp only [List.map_cons, List.map_nil, Knd.all, stepK, e2]
                  rfl
                rw [e1] at h1
                exact h1
              have HX5 := hidP (HX2.out.trans (hE5.trans (Ext.alloc w5 (.cells #[.slice a1 W.length c1, .int .i64 (fr), .slice a2 W.length c2, .int .i64 (tq - fr), .slice a3 W.length c3, .int .i64 (L - tq)] 73))))
              have HO5 := hidP (HO.out.below ((HA2.out.trans hE5).trans (Ext.alloc w5 (.cells #[.slice a1 W.length c1, .int .i64 (fr), .slice a2 W.length c2, .int .i64 (tq - fr), .slice a3 W.length c3, .int .i64 (L - tq)] 73))))
              have HAp : Hid (∀ p q, p < m → q < 3 → Apart (hs.getD p (none, 0)).1 ([(a1, c1), (a2, c2), (a3, c3)].getD q (none, 0)).1) := by
                intro p q hp hq b o b' o' e e'
                have h1 := ((HO.out.each p hp).at_base b o e).2
                have h2 := HA2.out.size
                have h3 := hE.size
                have h4 := hz1.out
                have h5 := hz2.out
                rcases (by omega : q = 0 ∨ q = 1 ∨ q = 2) with rfl | rfl | rfl
                · have := (HI1.out.at_base b' o' e').1; omega
                · have := (HI2.out.at_base b' o' e').1; omega
                · have := (HI3.out.at_base b' o' e').1; omega
              (refine walkR_only (fun w' => Ext w2 w') rfl (by decide +kernel) rfl ?_ ?_)
              · exact fun _ h => h
              intro K hK
              go_simp
              refine hK _ _ (hE5.trans (Ext.alloc w5 (.cells #[.slice a1 W.length c1, .int .i64 (fr), .slice a2 W.length c2, .int .i64 (tq - fr), .slice a3 W.length c3, .int .i64 (L - tq)] 73))) ?_
              clear hK K hE5 hE hB5
              (try simp only [Act.put, List.setIfInBounds_toArray, List.set_cons_zero, List.set_cons_succ])
              (refine walkR_tail (by rfl) (by kernel_rfl) ?_; simp only [List.drop_succ_cons, List.drop_zero])
              go_wp2_with (at_builtin; refine wpList_append_elems stepK 45 (.agg #[.slice none 0 0, .int .i64 0]) 32 rfl (.tmp 66) (.tmp 89) rfl Tryz.underlying45 Tryz.info73 rfl (by omega) w1.heap.size _ _ (some ⟨g, 0, none⟩) m co hs [(a1, c1), (a2, c2), (a3, c3)] _ [(W, fr), (refl R ts i W, tq - fr), (W, L - tq)] rfl HO5.out w5.heap.size 3 3 rfl HLit.out HAp.out (by omega) (by simp) HX5.out.size ?_; intro a6 c6 w6 ho6 hg6 _; have HX6 := hidP (Below.own HX5.out hg6 HX5.out.size (fun b o e => by have := HO.out.base_lt b o e; omega) HO5.out.addr); rw [← HTK.out] at ho6; have HO6 := hidP ho6; clear ho6 hg6)
              obtain ⟨g6, rfl⟩ : ∃ g6, a6 = some ⟨g6, 0, none⟩ := by
                rcases HO6.out.form with ⟨_, h0, _⟩ | ⟨g6, _, e6, _⟩
                · omega
                · exact ⟨g6, e6⟩
              go_roundw
              case rel => exact ⟨k + 1, g6, m + 3, c6, _, by omega, by omega, rfl, by go_num, HO6, HX6⟩
              case measure => simp [intOf]; omega
            · have hfl := hfrA hkA
              have HTK : Hid (turnTo (refl R ts i) xs A fr Bq tq (k + 1) = turnTo (refl R ts i) xs A fr Bq tq k ++ [(W, fr), (refl R ts i W, L - fr), (W, 0)]) := by
                show _ = _
                rw [hTS.out]
                unfold turnK
                rw [if_neg (by omega), HW.out, HL.out]
                rw [if_pos hkA, if_neg hkB, Int.sub_self]
              have hge : (A : Int) ≤ (k : Int) := by omega
              have hng : ¬ ((k : Int) < (A : Int)) := by omega
              have hnb : ¬ ((Bq : Int) < (k : Int)) := by omega
              have hA : ((k : Int) == (A : Int)) = true := by simp [hkA]
              have hBq : ((k : Int) == (Bq : Int)) = false := by simp; omega
              have hwr1 : IntKind.i64.wrap (L - fr) = L - fr := wrap_in (by omega) (by omega)
              have hwr2 : IntKind.i64.wrap L = L := wrap_in (by omega) (by omega)
              have hlb : (k : Int) < (Bq : Int) := by omega
              have HkA := hidP hkA
              have HkB := hidP hkB
              clear hTS hfrA htoB hkA hkB
              go_wp2
              rw [← hw2]
              clear hw2 q1 q2 s1 s2
              (refine walkR_start (fun w' => Ext w2 w') 24 (by kernel_rfl) ?_; simp only [numbered, List.take_succ_cons, List.take_zero, Nat.zero_add, Nat.reduceAdd, List.length_cons, List.length_nil])
              (repeat (first | (refine walkR_still (v := ?_) rfl (by decide +kernel) rfl (fun _ _ _ h => h) hE ?_ ?_; rotate_left; (focus (intro w' hw'; obtain ⟨s1, s2⟩ := HS.out w' hw'; go_simp; all_goals (with_reducible rfl))); simp only [Act.put, List.setIfInBounds_toArray, List.set_cons_zero, List.set_cons_succ]) | (refine walkR_skip rfl (by decide +kernel) rfl (fun _ _ _ h => h) hE ?_; simp only [Act.put, List.setIfInBounds_toArray, List.set_cons_zero, List.set_cons_succ])))
              (refine walkR_later ?_; simp only [List.cons_append, List.nil_append])
              (repeat (first | (refine walkR_still (v := ?_) rfl (by decide +kernel) rfl (fun _ _ _ h => h) hE ?_ ?_; rotate_left; (focus (intro w' hw'; skip; go_simp; all_goals (with_reducible rfl))); simp only [Act.put, List.setIfInBounds_toArray, List.set_cons_zero, List.set_cons_succ]) | (refine walkR_skip rfl (by decide +kernel) rfl (fun _ _ _ h => h) hE ?_; simp only [Act.put, List.setIfInBounds_toArray, List.set_cons_zero, List.set_cons_succ])))
              (refine walkR_later ?_; simp only [List.cons_append, List.nil_append])
              (repeat (first | (refine walkR_still (v := ?_) rfl (by decide +kernel) rfl (fun _ _ _ h => h) hE ?_ ?_; rotate_left; (focus (intro w' hw'; obtain ⟨s1, s2⟩ := HS.out w' hw'; obtain ⟨f0, f1⟩ := HC.out w' (HX2.out.trans hw'); go_simp; all_goals (with_reducible rfl))); simp only [Act.put, List.setIfInBounds_toArray, List.set_cons_zero, List.set_cons_succ]) | (refine walkR_skip rfl (by decide +kernel) rfl (fun _ _ _ h => h) hE ?_; simp only [Act.put, List.setIfInBounds_toArray, List.set_cons_zero, List.set_cons_succ])))
              (refine walkR_later ?_; simp only [List.cons_append, List.nil_append])
              (repeat (first | (refine walkR_still (v := ?_) rfl (by decide +kernel) rfl (fun _ _ _ h => h) hE ?_ ?_; rotate_left; (focus (intro w' hw'; skip; go_simp; all_goals (with_reducible rfl))); simp only [Act.put, List.setIfInBounds_toArray, List.set_cons_zero, List.set_cons_succ]) | (refine walkR_skip rfl (by decide +kernel) rfl (fun _ _ _ h => h) hE ?_; simp only [Act.put, List.setIfInBounds_toArray, List.set_cons_zero, List.set_cons_succ])))
              (refine walkR_later ?_; simp only [List.cons_append, List.nil_append])
              (repeat (first | (refine walkR_still (v := ?_) rfl (by decide +kernel) rfl (fun _ _ _ h => h) hE ?_ ?_; rotate_left; (focus (intro w' hw'; obtain ⟨s1, s2⟩ := HS.out w' hw'; go_simp; all_goals (with_reducible rfl))); simp only [Act.put, List.setIfInBounds_toArray, List.set_cons_zero, List.set_cons_succ]) | (refine walkR_skip rfl (by decide +kernel) rfl (fun _ _ _ h => h) hE ?_; simp only [Act.put, List.setIfInBounds_toArray, List.set_cons_zero, List.set_cons_succ])))
              (refine walkR_later ?_; simp only [List.cons_append, List.nil_append])
              (repeat (first | (refine walkR_still (v := ?_) rfl (by decide +kernel) rfl (fun _ _ _ h => h) hE ?_ ?_; rotate_left; (focus (intro w' hw'; obtain ⟨s1, s2⟩ := HS.out w' hw'; go_simp; all_goals (with_reducible rfl))); simp only [Act.put, List.setIfInBounds_toArray, List.set_cons_zero, List.set_cons_succ]) | (refine walkR_skip rfl (by decide +kernel) rfl (fun _ _ _ h => h) hE ?_; simp only [Act.put, List.setIfInBounds_toArray, List.set_cons_zero, List.set_cons_succ])))
              (refine walkR_later ?_; simp only [List.cons_append, List.nil_append]); (refine walkR_later ?_; simp only [List.cons_append, List.nil_append])
              (refine walkR_only (fun w' => Ext w2 w') rfl (by decide +kernel) rfl (fun _ h => h) ?_; intro K hK; go_simp; refine (HCl.out _ hE).mono ?_; rintro e w3 ⟨a1, c1, rfl, ho1, hx1⟩; refine hK _ _ (hE.trans hx1) ?_; clear hK K; (try simp only [Act.put, List.setIfInBounds_toArray, List.set_cons_zero, List.set_cons_succ]))
              have hE3 := hE.trans hx1
              have HI1 := hidP ho1
              have hz1 := hidP (hidP hx1.size).out
              clear ho1 hx1
              (repeat (first | (refine walkR_still (v := ?_) rfl (by decide +kernel) rfl (fun _ _ _ h => h) hE3 ?_ ?_; rotate_left; (focus (intro w' hw'; skip; go_simp; all_goals (with_reducible rfl))); simp only [Act.put, List.setIfInBounds_toArray, List.set_cons_zero, List.set_cons_succ]) | (refine walkR_skip rfl (by decide +kernel) rfl (fun _ _ _ h => h) hE3 ?_; simp only [Act.put, List.setIfInBounds_toArray, List.set_cons_zero, List.set_cons_succ])))
              (refine walkR_only (fun w' => Ext w2 w') rfl (by decide +kernel) rfl (fun _ h => h) ?_; intro K hK; go_simp; refine (HRf.out _ hE3).mono ?_; rintro e w4 ⟨a2, c2, rfl, ho2, hx2⟩; refine hK _ _ (hE3.trans hx2) ?_; clear hK K; (try simp only [Act.put, List.setIfInBounds_toArray, List.set_cons_zero, List.set_cons_succ]))
              have hE4 := hE3.trans hx2
              have HI2 := hidP ho2
              have HI12 := hidP (HI1.out.below hx2)
              have hz2 := hidP (hidP hx2.size).out
              clear ho2 hx2 hE3
              (repeat (first | (refine walkR_still (v := ?_) rfl (by decide +kernel) rfl (fun _ _ _ h => h) hE4 ?_ ?_; rotate_left; (focus (intro w' hw'; skip; go_simp; all_goals (with_reducible rfl))); simp only [Act.put, List.setIfInBounds_toArray, List.set_cons_zero, List.set_cons_succ]) | (refine walkR_skip rfl (by decide +kernel) rfl (fun _ _ _ h => h) hE4 ?_; simp only [Act.put, List.setIfInBounds_toArray, List.set_cons_zero, List.set_cons_succ])))
              (refine walkR_only (fun w' => Ext w2 w') rfl (by decide +kernel) rfl (fun _ h => h) ?_; intro K hK; go_simp; refine (HCl.out _ hE4).mono ?_; rintro e w5 ⟨a3, c3, rfl, ho3, hx3⟩; refine hK _ _ (hE4.trans hx3) ?_; clear hK K; (try simp only [Act.put, List.setIfInBounds_toArray, List.set_cons_zero, List.set_cons_succ]))
              have hE5 := hE4.trans hx3
              have HI3 := hidP ho3
              have HI23 := hidP (HI2.out.below hx3)
              have HI13 := hidP (HI12.out.below hx3)
              clear ho3 hx3 hE4
              (repeat (first | (refine walkR_still (v := ?_) rfl (by decide +kernel) rfl (fun _ _ _ h => h) hE5 ?_ ?_; rotate_left; (focus (intro w' hw'; skip; go_simp; all_goals (with_reducible rfl))); simp only [Act.put, List.setIfInBounds_toArray, List.set_cons_zero, List.set_cons_succ]) | (refine walkR_skip rfl (by decide +kernel) rfl (fun _ _ _ h => h) hE5 ?_; simp only [Act.put, List.setIfInBounds_toArray, List.set_cons_zero, List.set_cons_succ])))
              have HRl : Hid ((refl R ts i W).length = R) := refl_length _ _ _ _
              have HEl : Hid (ElemK stepK w5 w1.heap.size w5.heap.size [((a1, c1), (W, fr)), ((a2, c2), (refl R ts i W, L - fr)), ((a3, c3), (W, 0))]) := by
                have hb1 := fun b o e => HI1.out.at_base b o e
                have hb2 := fun b o e => HI2.out.at_base b o e
                have hb3 := fun b o e => HI3.out.at_base b o e
                have hs2 := hE.size
                have hs0 := HX2.out.size
                have hl13 := fun b o e => HI13.out.at_base b o e
                have hl23 := fun b o e => HI23.out.at_base b o e
                refine ⟨fun z hz => ?_, ?_, fun z hz b o e => ?_⟩
                · simp only [List.mem_cons, List.not_mem_nil, or_false] at hz
                  rcases hz with rfl | rfl | rfl
                  · exact HI13.out.base (Nat.le_trans hs0 hs2)
                  · have h1 : OwnI w5 w1.heap.size a2 W.length c2 (refl R ts i W) := HI23.out.base (by have := hz1.out; omega)
                    show OwnI w5 w1.heap.size a2 (refl R ts i W).length c2 (refl R ts i W)
                    rw [show (refl R ts i W).length = W.length by rw [HRl.out, HWy.out.1]]
                    exact h1
                  · exact HI3.out.base (by have := hz1.out; have := hz2.out; omega)
                · refine .cons (fun z hz => ?_) (.cons (fun z hz => ?_) (.cons (fun z hz => by cases hz) .nil))
                  · simp only [List.mem_cons, List.not_mem_nil, or_false] at hz
                    rcases hz with rfl | rfl
                    · intro b o b' o' e e'
                      have := hb1 b o e
                      have := hb2 b' o' e'
                      omega
                    · intro b o b' o' e e'
                      have := hb1 b o e
                      have := hb3 b' o' e'
                      have := hz2.out
                      omega
                  · simp only [List.mem_cons, List.not_mem_nil, or_false] at hz
                    rcases hz with rfl
                    intro b o b' o' e e'
                    have := hb2 b o e
                    have := hb3 b' o' e'
                    omega
                · simp only [List.mem_cons, List.not_mem_nil, or_false] at hz
                  rcases hz with rfl | rfl | rfl
                  · exact (hl13 b o e).2
                  · exact (hl23 b o e).2
                  · exact (hb3 b o e).2
              have hB5 : w1.heap.size ≤ w5.heap.size := (HX2.out.trans hE5).size
              have HLit : Hid (OwnK stepK (w5.alloc (.cells #[.slice a1 W.length c1, .int .i64 (fr), .slice a2 W.length c2, .int .i64 (L - fr), .slice a3 W.length c3, .int .i64 (0)] 73)) w1.heap.size (w5.heap.size + 1) (some ⟨w5.heap.size, 0, none⟩) 3 3 [(a1, c1), (a2, c2), (a3, c3)] [(W, fr), (refl R ts i W, L - fr), (W, 0)]) := by
                have h1 := HEl.out.lit hB5 (by unfold maxLen; simp)
                have e1 : (stepK.all ([((a1, c1), (W, fr)), ((a2, c2), (refl R ts i W, L - fr)), ((a3, c3), (W, 0))].map (·.1)) ([((a1, c1), (W, fr)), ((a2, c2), (refl R ts i W, L - fr)), ((a3, c3), (W, 0))].map (·.2))).toArray = #[Value.slice a1 W.length c1, .int .i64 (fr), .slice a2 W.length c2, .int .i64 (L - fr), .slice a3 W.length c3, .int .i64 (0)] := by
                  have e2 : (refl R ts i W).length = W.length := by rw [HRl.out, HWy.out.1]
                  simp only [List.map_cons, List.map_nil, Knd.all, stepK, e2]
                  rfl
                rw [e1] at h1
                exact h1
              have HX5 := hidP (HX2.out.trans (hE5.trans (Ext.alloc w5 (.cells #[.slice a1 W.length c1, .int .i64 (fr), .slice a2 W.length c2, .int .i64 (L - fr), .slice a3 W.length c3, .int .i64 (0)] 73))))
              have HO5 := hidP (HO.out.below ((HA2.out.trans hE5).trans (Ext.alloc w5 (.cells #[.slice a1 W.length c1, .int .i64 (fr), .slice a2 W.length c2, .int .i64 (L - fr), .slice a3 W.length c3, .int .i64 (0)] 73))))
              have HAp : Hid (∀ p q, p < m → q < 3 → Apart (hs.getD p (none, 0)).1 ([(a1, c1), (a2, c2), (a3, c3)].getD q (none, 0)).1) := by
                intro p q hp hq b o b' o' e e'
                have h1 := ((HO.out.each p hp).at_base b o e).2
                have h2 := HA2.out.size
                have h3 := hE.size
                have h4 := hz1.out
                have h5 := hz2.out
                rcases (by omega : q = 0 ∨ q = 1 ∨ q = 2) with rfl | rfl | rfl
                · have := (HI1.out.at_base b' o' e').1; omega
                · have := (HI2.out.at_base b' o' e').1; omega
                · have := (HI3.out.at_base b' o' e').1; omega
              (refine walkR_only (fun w' => Ext w2 w') rfl (by decide +kernel) rfl ?_ ?_)
              · exact fun _ h => h
              intro K hK
              go_simp
              refine hK _ _ (hE5.trans (Ext.alloc w5 (.cells #[.slice a1 W.length c1, .int .i64 (fr), .slice a2 W.length c2, .int .i64 (L - fr), .slice a3 W.length c3, .int .i64 (0)] 73))) ?_
              clear hK K hE5 hE hB5
              (try simp only [Act.put, List.setIfInBounds_toArray, List.set_cons_zero, List.set_cons_succ])
              (refine walkR_tail (by rfl) (by kernel_rfl) ?_; simp only [List.drop_succ_cons, List.drop_zero])
              go_wp2_with (at_builtin; refine wpList_append_elems stepK 45 (.agg #[.slice none 0 0, .int .i64 0]) 32 rfl (.tmp 66) (.tmp 89) rfl Tryz.underlying45 Tryz.info73 rfl (by omega) w1.heap.size _ _ (some ⟨g, 0, none⟩) m co hs [(a1, c1), (a2, c2), (a3, c3)] _ [(W, fr), (refl R ts i W, L - fr), (W, 0)] rfl HO5.out w5.heap.size 3 3 rfl HLit.out HAp.out (by omega) (by simp) HX5.out.size ?_; intro a6 c6 w6 ho6 hg6 _; have HX6 := hidP (Below.own HX5.out hg6 HX5.out.size (fun b o e => by have := HO.out.base_lt b o e; omega) HO5.out.addr); rw [← HTK.out] at ho6; have HO6 := hidP ho6; clear ho6 hg6)
              obtain ⟨g6, rfl⟩ : ∃ g6, a6 = some ⟨g6, 0, none⟩ := by
                rcases HO6.out.form with ⟨_, h0, _⟩ | ⟨g6, _, e6, _⟩
                · omega
                · exact ⟨g6, e6⟩
              go_roundw
              case rel => exact ⟨k + 1, g6, m + 3, c6, _, by omega, by omega, rfl, by go_num, HO6, HX6⟩
              case measure => simp [intOf]; omega
          · by_cases hkB : k = Bq
            · have htl := htoB hkB
              have HTK : Hid (turnTo (refl R ts i) xs A fr Bq tq (k + 1) = turnTo (refl R ts i) xs A fr Bq tq k ++ [(W, 0), (refl R ts i W, tq), (W, L - tq)]) := by
                show _ = _
                rw [hTS.out]
                unfold turnK
                rw [if_neg (by omega), HW.out, HL.out]
                rw [if_neg hkA, if_pos hkB, Int.sub_zero]
              have hge : (A : Int) ≤ (k : Int) := by omega
              have hng : ¬ ((k : Int) < (A : Int)) := by omega
              have hnb : ¬ ((Bq : Int) < (k : Int)) := by omega
              have hA : ((k : Int) == (A : Int)) = false := by simp; omega
              have hBq : ((k : Int) == (Bq : Int)) = true := by simp [hkB]
              have hwr1 : IntKind.i64.wrap (tq) = tq := wrap_in (by omega) (by omega)
              have hwr2 : IntKind.i64.wrap (L - tq) = L - tq := wrap_in (by omega) (by omega)
              have hlb : ¬ ((k : Int) < (Bq : Int)) := by omega
              have HkA := hidP hkA
              have HkB := hidP hkB
              clear hTS hfrA htoB hkA hkB
              go_wp2
              rw [← hw2]
              clear hw2 q1 q2 s1 s2
              (refine walkR_start (fun w' => Ext w2 w') 24 (by kernel_rfl) ?_; simp only [numbered, List.take_succ_cons, List.take_zero, Nat.zero_add, Nat.reduceAdd, List.length_cons, List.length_nil])
              (repeat (first | (refine walkR_still (v := ?_) rfl (by decide +kernel) rfl (fun _ _ _ h => h) hE ?_ ?_; rotate_left; (focus (intro w' hw'; obtain ⟨s1, s2⟩ := HS.out w' hw'; go_simp; all_goals (with_reducible rfl))); simp only [Act.put, List.setIfInBounds_toArray, List.set_cons_zero, List.set_cons_succ]) | (refine walkR_skip rfl (by decide +kernel) rfl (fun _ _ _ h => h) hE ?_; simp only [Act.put, List.setIfInBounds_toArray, List.set_cons_zero, List.set_cons_succ])))
              (refine walkR_later ?_; simp only [List.cons_append, List.nil_append])
              (repeat (first | (refine walkR_still (v := ?_) rfl (by decide +kernel) rfl (fun _ _ _ h => h) hE ?_ ?_; rotate_left; (focus (intro w' hw'; skip; go_simp; all_goals (with_reducible rfl))); simp only [Act.put, List.setIfInBounds_toArray, List.set_cons_zero, List.set_cons_succ]) | (refine walkR_skip rfl (by decide +kernel) rfl (fun _ _ _ h => h) hE ?_; simp only [Act.put, List.setIfInBounds_toArray, List.set_cons_zero, List.set_cons_succ])))
              (refine walkR_later ?_; simp only [List.cons_append, List.nil_append])
              (repeat (first | (refine walkR_still (v := ?_) rfl (by decide +kernel) rfl (fun _ _ _ h => h) hE ?_ ?_; rotate_left; (focus (intro w' hw'; obtain ⟨s1, s2⟩ := HS.out w' hw'; obtain ⟨f0, f1⟩ := HC.out w' (HX2.out.trans hw'); go_simp; all_goals (with_reducible rfl))); simp only [Act.put, List.setIfInBounds_toArray, List.set_cons_zero, List.set_cons_succ]) | (refine walkR_skip rfl (by decide +kernel) rfl (fun _ _ _ h => h) hE ?_; simp only [Act.put, List.setIfInBounds_toArray, List.set_cons_zero, List.set_cons_succ])))
              (refine walkR_later ?_; simp only [List.cons_append, List.nil_append])
              (repeat (first | (refine walkR_still (v := ?_) rfl (by decide +kernel) rfl (fun _ _ _ h => h) hE ?_ ?_; rotate_left; (focus (intro w' hw'; skip; go_simp; all_goals (with_reducible rfl))); simp only [Act.put, List.setIfInBounds_toArray, List.set_cons_zero, List.set_cons_succ]) | (refine walkR_skip rfl (by decide +kernel) rfl (fun _ _ _ h => h) hE ?_; simp only [Act.put, List.setIfInBounds_toArray, List.set_cons_zero, List.set_cons_succ])))
              (refine walkR_later ?_; simp only [List.cons_append, List.nil_append])
              (repeat (first | (refine walkR_still (v := ?_) rfl (by decide +kernel) rfl (fun _ _ _ h => h) hE ?_ ?_; rotate_left; (focus (intro w' hw'; obtain ⟨s1, s2⟩ := HS.out w' hw'; go_simp; all_goals (with_reducible rfl))); simp only [Act.put, List.setIfInBounds_toArray, List.set_cons_zero, List.set_cons_succ]) | (refine walkR_skip rfl (by decide +kernel) rfl (fun _ _ _ h => h) hE ?_; simp only [Act.put, List.setIfInBounds_toArray, List.set_cons_zero, List.set_cons_succ])))
              (refine walkR_later ?_; simp only [List.cons_append, List.nil_append])
              (repeat (first | (refine walkR_still (v := ?_) rfl (by decide +kernel) rfl (fun _ _ _ h => h) hE ?_ ?_; rotate_left; (focus (intro w' hw'; obtain ⟨s1, s2⟩ := HS.out w' hw'; go_simp; all_goals (with_reducible rfl))); simp only [Act.put, List.setIfInBounds_toArray, List.set_cons_zero, List.set_cons_succ]) | (refine walkR_skip rfl (by decide +kernel) rfl (fun _ _ _ h => h) hE ?_; simp only [Act.put, List.setIfInBounds_toArray, List.set_cons_zero, List.set_cons_succ])))
              (refine walkR_later ?_; simp only [List.cons_append, List.nil_append]); (refine walkR_later ?_; simp only [List.cons_append, List.nil_append])
              (refine walkR_only (fun w' => Ext w2 w') rfl (by decide +kernel) rfl (fun _ h => h) ?_; intro K hK; go_simp; refine (HCl.out _ hE).mono ?_; rintro e w3 ⟨a1, c1, rfl, ho1, hx1⟩; refine hK _ _ (hE.trans hx1) ?_; clear hK K; (try simp only [Act.put, List.setIfInBounds_toArray, List.set_cons_zero, List.set_cons_succ]))
              have hE3 := hE.trans hx1
              have HI1 := hidP ho1
              have hz1 := hidP (hidP hx1.size).out
              clear ho1 hx1
              (repeat (first | (refine walkR_still (v := ?_) rfl (by decide +kernel) rfl (fun _ _ _ h => h) hE3 ?_ ?_; rotate_left; (focus (intro w' hw'; skip; go_simp; all_goals (with_reducible rfl))); simp only [Act.put, List.setIfInBounds_toArray, List.set_cons_zero, List.set_cons_succ]) | (refine walkR_skip rfl (by decide +kernel) rfl (fun _ _ _ h => h) hE3 ?_; simp only [Act.put, List.setIfInBounds_toArray, List.set_cons_zero, List.set_cons_succ])))
              (refine walkR_only (fun w' => Ext w2 w') rfl (by decide +kernel) rfl (fun _ h => h) ?_; intro K hK; go_simp; refine (HRf.out _ hE3).mono ?_; rintro e w4 ⟨a2, c2, rfl, ho2, hx2⟩; refine hK _ _ (hE3.trans hx2) ?_; clear hK K; (try simp only [Act.put, List.setIfInBounds_toArray, List.set_cons_zero, List.set_cons_succ]))
              have hE4 := hE3.trans hx2
              have HI2 := hidP ho2
              have HI12 := hidP (HI1.out.below hx2)
              have hz2 := hidP (hidP hx2.size).out
              clear ho2 hx2 hE3
              (repeat (first | (refine walkR_still (v := ?_) rfl (by decide +kernel) rfl (fun _ _ _ h => h) hE4 ?_ ?_; rotate_left; (focus (intro w' hw'; skip; go_simp; all_goals (with_reducible rfl))); simp only [Act.put, List.setIfInBounds_toArray, List.set_cons_zero, List.set_cons_succ]) | (refine walkR_skip rfl (by decide +kernel) rfl (fun _ _ _ h => h) hE4 ?_; simp only [Act.put, List.setIfInBounds_toArray, List.set_cons_zero, List.set_cons_succ])))
              (refine walkR_only (fun w' => Ext w2 w') rfl (by decide +kernel) rfl (fun _ h => h) ?_; intro K hK; go_simp; refine (HCl.out _ hE4).mono ?_; rintro e w5 ⟨a3, c3, rfl, ho3, hx3⟩; refine hK _ _ (hE4.trans hx3) ?_; clear hK K; (try simp only [Act.put, List.setIfInBounds_toArray, List.set_cons_zero, List.set_cons_succ]))
              have hE5 := hE4.trans hx3
              have HI3 := hidP ho3
              have HI23 := hidP (HI2.out.below hx3)
              have HI13 := hidP (HI12.out.below hx3)
              clear ho3 hx3 hE4
              (repeat (first | (refine walkR_still (v := ?_) rfl (by decide +kernel) rfl (fun _ _ _ h => h) hE5 ?_ ?_; rotate_left; (focus (intro w' hw'; skip; go_simp; all_goals (with_reducible rfl))); simp only [Act.put, List.setIfInBounds_toArray, List.set_cons_zero, List.set_cons_succ]) | (refine walkR_skip rfl (by decide +kernel) rfl (fun _ _ _ h => h) hE5 ?_; simp only [Act.put, List.setIfInBounds_toArray, List.set_cons_zero, List.set_cons_succ])))
              have HRl : Hid ((refl R ts i W).length = R) := refl_length _ _ _ _
              have HEl : Hid (ElemK stepK w5 w1.heap.size w5.heap.size [((a1, c1), (W, 0)), ((a2, c2), (refl R ts i W, tq)), ((a3, c3), (W, L - tq))]) := by
                have hb1 := fun b o e => HI1.out.at_base b o e
                have hb2 := fun b o e => HI2.out.at_base b o e
                have hb3 := fun b o e => HI3.out.at_base b o e
                have hs2 := hE.size
                have hs0 := HX2.out.size
                have hl13 := fun b o e => HI13.out.at_base b o e
                have hl23 := fun b o e => HI23.out.at_base b o e
                refine ⟨fun z hz => ?_, ?_, fun z hz b o e => ?_⟩
                · simp only [List.mem_cons, List.not_mem_nil, or_false] at hz
                  rcases hz with rfl | rfl | rfl
                  · exact HI13.out.base (Nat.le_trans hs0 hs2)
                  · have h1 : OwnI w5 w1.heap.size a2 W.length c2 (refl R ts i W) := HI23.out.base (by have := hz1.out; omega)
                    show OwnI w5 w1.heap.size a2 (refl R ts i W).length c2 (refl R ts i W)
                    rw [show (refl R ts i W).length = W.length by rw [HRl.out, HWy.out.1]]
                    exact h1
                  · exact HI3.out.base (by have := hz1.out; have := hz2.out; omega)
                · refine .cons (fun z hz => ?_) (.cons (fun z hz => ?_) (.cons (fun z hz => by cases hz) .nil))
                  · simp only [List.mem_cons, List.not_mem_nil, or_false] at hz
                    rcases hz with rfl | rfl
                    · intro b o b' o' e e'
                      have := hb1 b o e
                      have := hb2 b' o' e'
                      omega
                    · intro b o b' o' e e'
                      have := hb1 b o e
                      have := hb3 b' o' e'
                      have := hz2.out
                      omega
                  · simp only [List.mem_cons, List.not_mem_nil, or_false] at hz
                    rcases hz with rfl
                    intro b o b' o' e e'
                    have := hb2 b o e
                    have := hb3 b' o' e'
                    omega
                · simp only [List.mem_cons, List.not_mem_nil, or_false] at hz
                  rcases hz with rfl | rfl | rfl
                  · exact (hl13 b o e).2
                  · exact (hl23 b o e).2
                  · exact (hb3 b o e).2
              have hB5 : w1.heap.size ≤ w5.heap.size := (HX2.out.trans hE5).size
              have HLit : Hid (OwnK stepK (w5.alloc (.cells #[.slice a1 W.length c1, .int .i64 (0), .slice a2 W.length c2, .int .i64 (tq), .slice a3 W.length c3, .int .i64 (L - tq)] 73)) w1.heap.size (w5.heap.size + 1) (some ⟨w5.heap.size, 0, none⟩) 3 3 [(a1, c1), (a2, c2), (a3, c3)] [(W, 0), (refl R ts i W, tq), (W, L - tq)]) := by
                have h1 := HEl.out.lit hB5 (by unfold maxLen; simp)
                have e1 : (stepK.all ([((a1, c1), (W, 0)), ((a2, c2), (refl R ts i W, tq)), ((a3, c3), (W, L - tq))].map (·.1)) ([((a1, c1), (W, 0)), ((a2, c2), (refl R ts i W, tq)), ((a3, c3), (W, L - tq))].map (·.2))).toArray = #[Value.slice a1 W.length c1, .int .i64 (0), .slice a2 W.length c2, .int .i64 (tq), .slice a3 W.length c3, .int .i64 (L - tq)] := by
                  have e2 : (refl R ts i W).length = W.length := by rw [HRl.out, HWy.out.1]
                  simp only [List.map_cons, List.map_nil, Knd.all, stepK, e2]
                  rfl
                rw [e1] at h1
                exact h1
              have HX5 := hidP (HX2.out.trans (hE5.trans (Ext.alloc w5 (.cells #[.slice a1 W.length c1, .int .i64 (0), .slice a2 W.length c2, .int .i64 (tq), .slice a3 W.length c3, .int .i64 (L - tq)] 73))))
              have HO5 := hidP (HO.out.below ((HA2.out.trans hE5).trans (Ext.alloc w5 (.cells #[.slice a1 W.length c1, .int .i64 (0), .slice a2 W.length c2, .int .i64 (tq), .slice a3 W.length c3, .int .i64 (L - tq)] 73))))
              have HAp : Hid (∀ p q, p < m → q < 3 → Apart (hs.getD p (none, 0)).1 ([(a1, c1), (a2, c2), (a3, c3)].getD q (none, 0)).1) := by
                intro p q hp hq b o b' o' e e'
                have h1 := ((HO.out.each p hp).at_base b o e).2
                have h2 := HA2.out.size
                have h3 := hE.size
                have h4 := hz1.out
                have h5 := hz2.out
                rcases (by omega : q = 0 ∨ q = 1 ∨ q = 2) with rfl | rfl | rfl
                · have := (HI1.out.at_base b' o' e').1; omega
                · have := (HI2.out.at_base b' o' e').1; omega
                · have := (HI3.out.at_base b' o' e').1; omega
              (refine walkR_only (fun w' => Ext w2 w') rfl (by decide +kernel) rfl ?_ ?_)
              · exact fun _ h => h
              intro K hK
              go_simp
              refine hK _ _ (hE5.trans (Ext.alloc w5 (.cells #[.slice a1 W.length c1, .int .i64 (0), .slice a2 W.length c2, .int .i64 (tq), .slice a3 W.length c3, .int .i64 (L - tq)] 73))) ?_
              clear hK K hE5 hE hB5
              (try simp only [Act.put, List.setIfInBounds_toArray, List.set_cons_zero, List.set_cons_succ])
              (refine walkR_tail (by rfl) (by kernel_rfl) ?_; simp only [List.drop_succ_cons, List.drop_zero])
              go_wp2_with (at_builtin; refine wpList_append_elems stepK 45 (.agg #[.slice none 0 0, .int .i64 0]) 32 rfl (.tmp 66) (.tmp 89) rfl Tryz.underlying45 Tryz.info73 rfl (by omega) w1.heap.size _ _ (some ⟨g, 0, none⟩) m co hs [(a1, c1), (a2, c2), (a3, c3)] _ [(W, 0), (refl R ts i W, tq), (W, L - tq)] rfl HO5.out w5.heap.size 3 3 rfl HLit.out HAp.out (by omega) (by simp) HX5.out.size ?_; intro a6 c6 w6 ho6 hg6 _; have HX6 := hidP (Below.own HX5.out hg6 HX5.out.size (fun b o e => by have := HO.out.base_lt b o e; omega) HO5.out.addr); rw [← HTK.out] at ho6; have HO6 := hidP ho6; clear ho6 hg6)
              obtain ⟨g6, rfl⟩ : ∃ g6, a6 = some ⟨g6, 0, none⟩ := by
                rcases HO6.out.form with ⟨_, h0, _⟩ | ⟨g6, _, e6, _⟩
                · omega
                · exact ⟨g6, e6⟩
              go_roundw
              case rel => exact ⟨k + 1, g6, m + 3, c6, _, by omega, by omega, rfl, by go_num, HO6, HX6⟩
              case measure => simp [intOf]; omega
            · skip
              have HTK : Hid (turnTo (refl R ts i) xs A fr Bq tq (k + 1) = turnTo (refl R ts i) xs A fr Bq tq k ++ [(W, 0), (refl R ts i W, L), (W, 0)]) := by
                show _ = _
                rw [hTS.out]
                unfold turnK
                rw [if_neg (by omega), HW.out, HL.out]
                rw [if_neg hkA, if_neg hkB, Int.sub_zero, Int.sub_self]
              have hge : (A : Int) ≤ (k : Int) := by omega
              have hng : ¬ ((k : Int) < (A : Int)) := by omega
              have hnb : ¬ ((Bq : Int) < (k : Int)) := by omega
              have hA : ((k : Int) == (A : Int)) = false := by simp; omega
              have hBq : ((k : Int) == (Bq : Int)) = false := by simp; omega
              have hwr1 : IntKind.i64.wrap (L) = L := wrap_in (by omega) (by omega)
              have hlb : (k : Int) < (Bq : Int) := by omega
              have HkA := hidP hkA
              have HkB := hidP hkB
              clear hTS hfrA htoB hkA hkB
              go_wp2
              rw [← hw2]
              clear hw2 q1 q2 s1 s2
              (refine walkR_start (fun w' => Ext w2 w') 24 (by kernel_rfl) ?_; simp only [numbered, List.take_succ_cons, List.take_zero, Nat.zero_add, Nat.reduceAdd, List.length_cons, List.length_nil])
              (repeat (first | (refine walkR_still (v := ?_) rfl (by decide +kernel) rfl (fun _ _ _ h => h) hE ?_ ?_; rotate_left; (focus (intro w' hw'; obtain ⟨s1, s2⟩ := HS.out w' hw'; go_simp; all_goals (with_reducible rfl))); simp only [Act.put, List.setIfInBounds_toArray, List.set_cons_zero, List.set_cons_succ]) | (refine walkR_skip rfl (by decide +kernel) rfl (fun _ _ _ h => h) hE ?_; simp only [Act.put, List.setIfInBounds_toArray, List.set_cons_zero, List.set_cons_succ])))
              (refine walkR_later ?_; simp only [List.cons_append, List.nil_append])
              (repeat (first | (refine walkR_still (v := ?_) rfl (by decide +kernel) rfl (fun _ _ _ h => h) hE ?_ ?_; rotate_left; (focus (intro w' hw'; skip; go_simp; all_goals (with_reducible rfl))); simp only [Act.put, List.setIfInBounds_toArray, List.set_cons_zero, List.set_cons_succ]) | (refine walkR_skip rfl (by decide +kernel) rfl (fun _ _ _ h => h) hE ?_; simp only [Act.put, List.setIfInBounds_toArray, List.set_cons_zero, List.set_cons_succ])))
              (refine walkR_later ?_; simp only [List.cons_append, List.nil_append])
              (repeat (first | (refine walkR_still (v := ?_) rfl (by decide +kernel) rfl (fun _ _ _ h => h) hE ?_ ?_; rotate_left; (focus (intro w' hw'; obtain ⟨s1, s2⟩ := HS.out w' hw'; obtain ⟨f0, f1⟩ := HC.out w' (HX2.out.trans hw'); go_simp; all_goals (with_reducible rfl))); simp only [Act.put, List.setIfInBounds_toArray, List.set_cons_zero, List.set_cons_succ]) | (refine walkR_skip rfl (by decide +kernel) rfl (fun _ _ _ h => h) hE ?_; simp only [Act.put, List.setIfInBounds_toArray, List.set_cons_zero, List.set_cons_succ])))
              (refine walkR_later ?_; simp only [List.cons_append, List.nil_append])
              (repeat (first | (refine walkR_still (v := ?_) rfl (by decide +kernel) rfl (fun _ _ _ h => h) hE ?_ ?_; rotate_left; (focus (intro w' hw'; skip; go_simp; all_goals (with_reducible rfl))); simp only [Act.put, List.setIfInBounds_toArray, List.set_cons_zero, List.set_cons_succ]) | (refine walkR_skip rfl (by decide +kernel) rfl (fun _ _ _ h => h) hE ?_; simp only [Act.put, List.setIfInBounds_toArray, List.set_cons_zero, List.set_cons_succ])))
              (refine walkR_later ?_; simp only [List.cons_append, List.nil_append])
              (repeat (first | (refine walkR_still (v := ?_) rfl (by decide +kernel) rfl (fun _ _ _ h => h) hE ?_ ?_; rotate_left; (focus (intro w' hw'; obtain ⟨s1, s2⟩ := HS.out w' hw'; go_simp; all_goals (with_reducible rfl))); simp only [Act.put, List.setIfInBounds_toArray, List.set_cons_zero, List.set_cons_succ]) | (refine walkR_skip rfl (by decide +kernel) rfl (fun _ _ _ h => h) hE ?_; simp only [Act.put, List.setIfInBounds_toArray, List.set_cons_zero, List.set_cons_succ])))
              (refine walkR_later ?_; simp only [List.cons_append, List.nil_append])
              (repeat (first | (refine walkR_still (v := ?_) rfl (by decide +kernel) rfl (fun _ _ _ h => h) hE ?_ ?_; rotate_left; (focus (intro w' hw'; obtain ⟨s1, s2⟩ := HS.out w' hw'; go_simp; all_goals (with_reducible rfl))); simp only [Act.put, List.setIfInBounds_toArray, List.set_cons_zero, List.set_cons_succ]) | (refine walkR_skip rfl (by decide +kernel) rfl (fun _ _ _ h => h) hE ?_; simp only [Act.put, List.setIfInBounds_toArray, List.set_cons_zero, List.set_cons_succ])))
              (refine walkR_later ?_; simp only [List.cons_append, List.nil_append]); (refine walkR_later ?_; simp only [List.cons_append, List.nil_append])
              (refine walkR_only (fun w' => Ext w2 w') rfl (by decide +kernel) rfl (fun _ h => h) ?_; intro K hK; go_simp; refine (HCl.out _ hE).mono ?_; rintro e w3 ⟨a1, c1, rfl, ho1, hx1⟩; refine hK _ _ (hE.trans hx1) ?_; clear hK K; (try simp only [Act.put, List.setIfInBounds_toArray, List.set_cons_zero, List.set_cons_succ]))
              have hE3 := hE.trans hx1
              have HI1 := hidP ho1
              have hz1 := hidP (hidP hx1.size).out
              clear ho1 hx1
              (repeat (first | (refine walkR_still (v := ?_) rfl (by decide +kernel) rfl (fun _ _ _ h => h) hE3 ?_ ?_; rotate_left; (focus (intro w' hw'; skip; go_simp; all_goals (with_reducible rfl))); simp only [Act.put, List.setIfInBounds_toArray, List.set_cons_zero, List.set_cons_succ]) | (refine walkR_skip rfl (by decide +kernel) rfl (fun _ _ _ h => h) hE3 ?_; simp only [Act.put, List.setIfInBounds_toArray, List.set_cons_zero, List.set_cons_succ])))
              (refine walkR_only (fun w' => Ext w2 w') rfl (by decide +kernel) rfl (fun _ h => h) ?_; intro K hK; go_simp; refine (HRf.out _ hE3).mono ?_; rintro e w4 ⟨a2, c2, rfl, ho2, hx2⟩; refine hK _ _ (hE3.trans hx2) ?_; clear hK K; (try simp only [Act.put, List.setIfInBounds_toArray, List.set_cons_zero, List.set_cons_succ]))
              have hE4 := hE3.trans hx2
              have HI2 := hidP ho2
              have HI12 := hidP (HI1.out.below hx2)
              have hz2 := hidP (hidP hx2.size).out
              clear ho2 hx2 hE3
              (repeat (first | (refine walkR_still (v := ?_) rfl (by decide +kernel) rfl (fun _ _ _ h => h) hE4 ?_ ?_; rotate_left; (focus (intro w' hw'; skip; go_simp; all_goals (with_reducible rfl))); simp only [Act.put, List.setIfInBounds_toArray, List.set_cons_zero, List.set_cons_succ]) | (refine walkR_skip rfl (by decide +kernel) rfl (fun _ _ _ h => h) hE4 ?_; simp only [Act.put, List.setIfInBounds_toArray, List.set_cons_zero, List.set_cons_succ])))
              (refine walkR_only (fun w' => Ext w2 w') rfl (by decide +kernel) rfl (fun _ h => h) ?_; intro K hK; go_simp; refine (HCl.out _ hE4).mono ?_; rintro e w5 ⟨a3, c3, rfl, ho3, hx3⟩; refine hK _ _ (hE4.trans hx3) ?_; clear hK K; (try simp only [Act.put, List.setIfInBounds_toArray, List.set_cons_zero, List.set_cons_succ]))
              have hE5 := hE4.trans hx3
              have HI3 := hidP ho3
              have HI23 := hidP (HI2.out.below hx3)
              have HI13 := hidP (HI12.out.below hx3)
              clear ho3 hx3 hE4
              (repeat (first | (refine walkR_still (v := ?_) rfl (by decide +kernel) rfl (fun _ _ _ h => h) hE5 ?_ ?_; rotate_left; (focus (intro w' hw'; skip; go_simp; all_goals (with_reducible rfl))); simp only [Act.put, List.setIfInBounds_toArray, List.set_cons_zero, List.set_cons_succ]) | (refine walkR_skip rfl (by decide +kernel) rfl (fun _ _ _ h => h) hE5 ?_; simp only [Act.put, List.setIfInBounds_toArray, List.set_cons_zero, List.set_cons_succ])))
              have HRl : Hid ((refl R ts i W).length = R) := refl_length _ _ _ _
              have HEl : Hid (ElemK stepK w5 w1.heap.size w5.heap.size [((a1, c1), (W, 0)), ((a2, c2), (refl R ts i W, L)), ((a3, c3), (W, 0))]) := by
                have hb1 := fun b o e => HI1.out.at_base b o e
                have hb2 := fun b o e => HI2.out.at_base b o e
                have hb3 := fun b o e => HI3.out.at_base b o e
                have hs2 := hE.size
                have hs0 := HX2.out.size
                have hl13 := fun b o e => HI13.out.at_base b o e
                have hl23 := fun b o e => HI23.out.at_base b o e
                refine ⟨fun z hz => ?_, ?_, fun z hz b o e => ?_⟩
                · simp only [List.mem_cons, List.not_mem_nil, or_false] at hz
                  rcases hz with rfl | rfl | rfl
                  · exact HI13.out.base (Nat.le_trans hs0 hs2)
                  · have h1 : OwnI w5 w1.heap.size a2 W.length c2 (refl R ts i W) := HI23.out.base (by have := hz1.out; omega)
                    show OwnI w5 w1.heap.size a2 (refl R ts i W).length c2 (refl R ts i W)
                    rw [show (refl R ts i W).length = W.length by rw [HRl.out, HWy.out.1]]
                    exact h1
                  · exact HI3.out.base (by have := hz1.out; have := hz2.out; omega)
                · refine .cons (fun z hz => ?_) (.cons (fun z hz => ?_) (.cons (fun z hz => by cases hz) .nil))
                  · simp only [List.mem_cons, List.not_mem_nil, or_false] at hz
                    rcases hz with rfl | rfl
                    · intro b o b' o' e e'
                      have := hb1 b o e
                      have := hb2 b' o' e'
                      omega
                    · intro b o b' o' e e'
                      have := hb1 b o e
                      have := hb3 b' o' e'
                      have := hz2.out
                      omega
                  · simp only [List.mem_cons, List.not_mem_nil, or_false] at hz
                    rcases hz with rfl
                    intro b o b' o' e e'
                    have := hb2 b o e
                    have := hb3 b' o' e'
                    omega
                · simp only [List.mem_cons, List.not_mem_nil, or_false] at hz
                  rcases hz with rfl | rfl | rfl
                  · exact (hl13 b o e).2
                  · exact (hl23 b o e).2
                  · exact (hb3 b o e).2
              have hB5 : w1.heap.size ≤ w5.heap.size := (HX2.out.trans hE5).size
              have HLit : Hid (OwnK stepK (w5.alloc (.cells #[.slice a1 W.length c1, .int .i64 (0), .slice a2 W.length c2, .int .i64 (L), .slice a3 W.length c3, .int .i64 (0)] 73)) w1.heap.size (w5.heap.size + 1) (some ⟨w5.heap.size, 0, none⟩) 3 3 [(a1, c1), (a2, c2), (a3, c3)] [(W, 0), (refl R ts i W, L), (W, 0)]) := by
                have h1 := HEl.out.lit hB5 (by unfold maxLen; simp)
                have e1 : (stepK.all ([((a1, c1), (W, 0)), ((a2, c2), (refl R ts i W, L)), ((a3, c3), (W, 0))].map (·.1)) ([((a1, c1), (W, 0)), ((a2, c2), (refl R ts i W, L)), ((a3, c3), (W, 0))].map (·.2))).toArray = #[Value.slice a1 W.length c1, .int .i64 (0), .slice a2 W.length c2, .int .i64 (L), .slice a3 W.length c3, .int .i64 (0)] := by
                  have e2 : (refl R ts i W).length = W.length := by rw [HRl.out, HWy.out.1]
                  simp only [List.map_cons, List.map_nil, Knd.all, stepK, e2]
                  rfl
                rw [e1] at h1
                exact h1
              have HX5 := hidP (HX2.out.trans (hE5.trans (Ext.alloc w5 (.cells #[.slice a1 W.length c1, .int .i64 (0), .slice a2 W.length c2, .int .i64 (L), .slice a3 W.length c3, .int .i64 (0)] 73))))
              have HO5 := hidP (HO.out.below ((HA2.out.trans hE5).trans (Ext.alloc w5 (.cells #[.slice a1 W.length c1, .int .i64 (0), .slice a2 W.length c2, .int .i64 (L), .slice a3 W.length c3, .int .i64 (0)] 73))))
              have HAp : Hid (∀ p q, p < m → q < 3 → Apart (hs.getD p (none, 0)).1 ([(a1, c1), (a2, c2), (a3, c3)].getD q (none, 0)).1) := by
                intro p q hp hq b o b' o' e e'
                have h1 := ((HO.out.each p hp).at_base b o e).2
                have h2 := HA2.out.size
                have h3 := hE.size
                have h4 := hz1.out
                have h5 := hz2.out
                rcases (by omega : q = 0 ∨ q = 1 ∨ q = 2) with rfl | rfl | rfl
                · have := (HI1.out.at_base b' o' e').1; omega
                · have := (HI2.out.at_base b' o' e').1; omega
                · have := (HI3.out.at_base b' o' e').1; omega
              (refine walkR_only (fun w' => Ext w2 w') rfl (by decide +kernel) rfl ?_ ?_)
              · exact fun _ h => h
              intro K hK
              go_simp
              refine hK _ _ (hE5.trans (Ext.alloc w5 (.cells #[.slice a1 W.length c1, .int .i64 (0), .slice a2 W.length c2, .int .i64 (L), .slice a3 W.length c3, .int .i64 (0)] 73))) ?_
              clear hK K hE5 hE hB5
              (try simp only [Act.put, List.setIfInBounds_toArray, List.set_cons_zero, List.set_cons_succ])
              (refine walkR_tail (by rfl) (by kernel_rfl) ?_; simp only [List.drop_succ_cons, List.drop_zero])
              go_wp2_with (at_builtin; refine wpList_append_elems stepK 45 (.agg #[.slice none 0 0, .int .i64 0]) 32 rfl (.tmp 66) (.tmp 89) rfl Tryz.underlying45 Tryz.info73 rfl (by omega) w1.heap.size _ _ (some ⟨g, 0, none⟩) m co hs [(a1, c1), (a2, c2), (a3, c3)] _ [(W, 0), (refl R ts i W, L), (W, 0)] rfl HO5.out w5.heap.size 3 3 rfl HLit.out HAp.out (by omega) (by simp) HX5.out.size ?_; intro a6 c6 w6 ho6 hg6 _; have HX6 := hidP (Below.own HX5.out hg6 HX5.out.size (fun b o e => by have := HO.out.base_lt b o e; omega) HO5.out.addr); rw [← HTK.out] at ho6; have HO6 := hidP ho6; clear ho6 hg6)
              obtain ⟨g6, rfl⟩ : ∃ g6, a6 = some ⟨g6, 0, none⟩ := by
                rcases HO6.out.form with ⟨_, h0, _⟩ | ⟨g6, _, e6, _⟩
                · omega
                · exact ⟨g6, e6⟩
              go_roundw
              case rel => exact ⟨k + 1, g6, m + 3, c6, _, by omega, by omega, rfl, by go_num, HO6, HX6⟩
              case measure => simp [intOf]; omega
    · obtain rfl : n = k := by omega
      have HDel := hidP (fun w' (hx : OwnK stepK w' w1.heap.size w'.heap.size (some ⟨g, 0, none⟩) m co hs (turnTo (refl R ts i) xs A fr Bq tq n)) => deleteStep_any w1.heap.size w'.heap.size g m co hs _ w' hx)
      have HTl := hidP (turn_le_len (refl R ts i) HP.out HTu.out n (by have := Hl.out; omega))
      have HTw := hidP (turn_way (ts := ts) (i := i) HP.out A fr Bq tq n (by have := Hl.out; omega))
      have HTn := hidP (turnTo_length (refl R ts i) xs A fr Bq tq n)
      have HJc : Hid (chk R ((turnTo (refl R ts i) xs A fr Bq tq n).filter fun s => s.2 != 0) = (J1, J2)) := by
        show _ = _
        rw [HJ.out]
        unfold turnR
        rw [Hl.out]
      have hE : Ext wr wr.drew := Ext.drew wr
      have hgw := (HO.out.base_lt g 0 rfl).1
      go_wp2
      (refine walkR_start (fun w' => Ext w1 w') 6 (by kernel_rfl) ?_; simp only [numbered, List.take_succ_cons, List.take_zero, Nat.zero_add, Nat.reduceAdd, List.length_cons, List.length_nil])
      (repeat (first | (refine walkR_still (v := ?_) rfl (by decide +kernel) rfl (fun _ _ _ h => h) (HX.out.trans hE) ?_ ?_; rotate_left; (focus (intro w' hw'; obtain ⟨f0, f1⟩ := HC.out w' hw'; go_simp; all_goals (with_reducible rfl))); simp only [Act.put, List.setIfInBounds_toArray, List.set_cons_zero, List.set_cons_succ]) | (refine walkR_skip rfl (by decide +kernel) rfl (fun _ _ _ h => h) (HX.out.trans hE) ?_; simp only [Act.put, List.setIfInBounds_toArray, List.set_cons_zero, List.set_cons_succ])))
      (refine walkR_only (fun w' => Ext w1 w') rfl (by decide +kernel) rfl (fun _ h => h) ?_; intro K hK; go_simp; refine (HDel.out wr.drew (OwnK.below HO.out hE)).mono ?_; rintro e w3 ⟨m3, hs3, rfl, ho3, hg3⟩; refine hK _ _ (Below.own (a := some ⟨g, 0, none⟩) (n := m) (c := co) (HX.out.trans hE) hg3 (HX.out.trans hE).size (fun b o e => by simp only [Option.some.injEq, Addr.mk.injEq, and_true] at e; omega) (fun p e => ⟨g, by simpa using e.symm⟩)) ?_; clear hK K; (try simp only [Act.put, List.setIfInBounds_toArray, List.set_cons_zero, List.set_cons_succ]))
      have hX3 : Ext w1 w3 := Below.own (a := some ⟨g, 0, none⟩) (n := m) (c := co) (HX.out.trans hE) hg3 (HX.out.trans hE).size (fun b o e => by simp only [Option.some.injEq, Addr.mk.injEq, and_true] at e; omega) (fun p e => ⟨g, by simpa using e.symm⟩)
      have HO3 := hidP ho3
      have hm3 : m3 ≤ 180 := by
        have h1 := ho3.xl
        have h2 := List.length_filter_le (fun s : Stp => s.2 != 0) (turnTo (refl R ts i) xs A fr Bq tq n)
        have h3 := HTn.out
        omega
      have HCk := hidP (checked_of R ta tn tc ts w1.heap.size _ (some ⟨g, 0, none⟩) m3 co hs3 _ w3 ho3 hX3.size (by omega) (fun k hk => by
        have hmem : ((turnTo (refl R ts i) xs A fr Bq tq n).filter fun s => s.2 != 0).getD k ([], 0) ∈ turnTo (refl R ts i) xs A fr Bq tq n := (List.mem_filter.1 (getD_within _ k ([], 0) (by have := ho3.xl; omega))).1
        have h1 := HTl.out _ hmem
        have h2 := HTw.out _ hmem
        unfold wayAt lenAt
        omega) HT.out (fun w' hx' => HIs1.out w' ((HX1.out.trans hX3).trans hx')))
      rw [HJc.out] at HCk
      dsimp only at HCk
      clear ho3 hg3
      (refine walkR_only (fun w' => Ext w1 w') rfl (by decide +kernel) rfl (fun _ h => h) ?_; intro K hK; go_simp; refine (HCk.out).mono ?_; rintro e w7 ⟨a7, n7, c7, hs7, rfl, ho7, hx7⟩; refine hK _ _ (hX3.trans hx7) ?_; clear hK K; (try simp only [Act.put, List.setIfInBounds_toArray, List.set_cons_zero, List.set_cons_succ]))
      have HX7 := hidP (HX1.out.trans (hX3.trans hx7))
      have HO7 := hidP (ho7.weaken HX1.out.size (Nat.le_refl _))
      have hX7 := hX3.trans hx7
      clear ho7 hx7 hX3
      (repeat (first | (refine walkR_still (v := ?_) rfl (by decide +kernel) rfl (fun _ _ _ h => h) hX7 ?_ ?_; rotate_left; (focus (intro w' hw'; skip; go_simp; all_goals (with_reducible rfl))); simp only [Act.put, List.setIfInBounds_toArray, List.set_cons_zero, List.set_cons_succ]) | (refine walkR_skip rfl (by decide +kernel) rfl (fun _ _ _ h => h) hX7 ?_; simp only [Act.put, List.setIfInBounds_toArray, List.set_cons_zero, List.set_cons_succ])))
      (refine walkR_tail (by rfl) (by kernel_rfl) ?_; simp only [List.drop_succ_cons, List.drop_zero])
      go_wp2
      refine bodyPost_ret (v := .tuple #[.slice a7 n7 c7, .bool J1]) (by simp [results, Tryz.results80, go_sem]) rfl ⟨a7, n7, c7, hs7, rfl, HO7.out, HX7.out⟩
end Go.Proofs.YtdhlapppahkjeaaGreatDoor
