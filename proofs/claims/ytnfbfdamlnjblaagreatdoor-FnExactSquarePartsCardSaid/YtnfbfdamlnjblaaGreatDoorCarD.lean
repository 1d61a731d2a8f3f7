/-
  The program's lists of types.
-/
import Derived.Test.YtnfbfdamlnjblaaGreatDoorCarE
import Derived.Test.YtnfbfdamlnjblaaGreatDoorOwn
import Derived.Maps.AppendAt
namespace Go.Proofs.YtnfbfdamlnjblaaGreatDoor
open Go.RowKit

/-- a value that is a slice of strings -/
def HdrS (w : World) (v : Value) (ss : List ByteArray) : Prop := ∃ a c, v = .slice a ss.length c ∧ ss.length ≤ c ∧ StrsAt w a ss.length ss ∧ (a = none → c = 0) ∧ ∀ b o, a = some ⟨b, o, none⟩ → ∃ cur, ∃ fr : Nat × Nat, w.heap[b]? = some (.cells cur 9 fr)
theorem HdrS.keep {w w' : World} {v : Value} {ss : List ByteArray} (h : HdrS w v ss) {row : Option Nat} (hg : w.grownBy w' row) (hne : ∀ b, row = some b → ∃ cur, ∃ fr : Nat × Nat, w.heap[b]? = some (.cells cur 148 fr)) : HdrS w' v ss := by
  obtain ⟨a, c, rfl, hcp, hs, hn, ht⟩ := h
  have hb : ∀ b o, a = some ⟨b, o, none⟩ → w'.heap[b]? = w.heap[b]? := fun b o e => by
    obtain ⟨cur, fr, h1⟩ := ht b o e
    refine hg.block b (Array.getElem?_eq_some_iff.1 h1).1 fun hr => ?_
    obtain ⟨cur', fr', h2⟩ := hne b hr.symm
    rw [h1] at h2
    simp only [Option.some.injEq, Obj.cells.injEq] at h2
    exact absurd h2.2.1 (by decide)
  refine ⟨a, c, rfl, hcp, ⟨rfl, fun i hi => ?_⟩, hn, fun b o e => ?_⟩
  · obtain ⟨b, o, e, hc⟩ := hs.get i hi
    exact ⟨b, o, e, (World.cell?_of_block (hb b o e)).trans hc⟩
  · rw [hb b o e]
    exact ht b o e
theorem HdrS.below {w w' : World} {v : Value} {ss : List ByteArray} (h : HdrS w v ss) (hb : Ext w w') : HdrS w' v ss :=
  h.keep (row := none) ⟨hb.os, hb.tape, hb.output, hb.size, fun k hk _ => hb.block k hk⟩ (by simp)
theorem HdrS.nil (w : World) : HdrS w (.slice none 0 0) [] := ⟨none, 0, rfl, Nat.le_refl _, StrsAt.nil w none, fun _ => rfl, fun b o e => by cases e⟩
/-- rows of strings, read -/
structure SRowsAt (w : World) (a : Option Addr) (n : Nat) (L : List (List ByteArray)) : Prop where
  len : L.length = n
  get : ∀ i, i < n → ∃ b o v, a = some ⟨b, o, none⟩ ∧ w.cell? ⟨b, o + i, none⟩ = some v ∧ HdrS w v (L.getD i [])
theorem SRowsAt.below {w w' : World} {a : Option Addr} {n : Nat} {L : List (List ByteArray)} (h : SRowsAt w a n L) (hb : Ext w w') : SRowsAt w' a n L := by
  refine ⟨h.len, fun i hi => ?_⟩
  obtain ⟨b, o, v, rfl, hc, hv⟩ := h.get i hi
  exact ⟨b, o, v, rfl, (hb.cell (p := ⟨b, o + i, none⟩) (World.block_lt_of_cell? w _ hc)).trans hc, hv.below hb⟩
/-- owned -/
structure OwnP (w : World) (B : Nat) (a : Option Addr) (n c : Nat) (L : List (List ByteArray)) : Prop where
  row : ∃ vs : List Value, w.ownsRow B 148 1 (.slice a n c) n vs ∧ (∀ i, i < n → HdrS w (vs.getD i undef) (L.getD i []))
  len : L.length = n
theorem OwnP.rows {w : World} {B : Nat} {a : Option Addr} {n c : Nat} {L : List (List ByteArray)} (h : OwnP w B a n c L) : SRowsAt w a n L := by
  refine ⟨h.len, fun i hi => ?_⟩
  obtain ⟨vs, hr, hv⟩ := h.row
  rcases hr.2 with ⟨he, h0⟩ | ⟨g, cap, cur, he, hB, hg, hnc, hcm, hcs, ht⟩
  · omega
  · simp only [Value.slice.injEq] at he
    obtain ⟨rfl, -, rfl⟩ := he
    have hl : vs.length = n := by simpa using hr.1
    have h3 := hr.cellAt i (by omega)
    refine ⟨g, 0, vs.getD i undef, rfl, ?_, hv i hi⟩
    rw [Nat.zero_add, h3, List.getD_eq_getElem?_getD, List.getElem?_eq_getElem (by omega)]
    rfl
theorem OwnP.keep {w w' : World} {B : Nat} {a : Option Addr} {n c : Nat} {L : List (List ByteArray)} (h : OwnP w B a n c L) (hb : Ext w w') : OwnP w' B a n c L := by
  obtain ⟨vs, hr, hv⟩ := h.row
  refine ⟨⟨vs, ?_, fun i hi => (hv i hi).below hb⟩, h.len⟩
  refine hr.kept (row := none) ⟨hb.os, hb.tape, hb.output, hb.size, fun k hk _ => hb.block k hk⟩ ?_
  rcases hr.2 with ⟨he, h0⟩ | ⟨g, cap, cur, he, _⟩
  · exact .inl (by rw [he]; rfl)
  · exact .inr (by rw [he]; simp [Value.ownBlock])
theorem OwnP.made (w : World) : OwnP (w.alloc (.cells #[] 148)) w.heap.size (some ⟨w.heap.size, 0, none⟩) 0 0 [] := by
  refine ⟨⟨[], ?_, fun i h => by omega⟩, rfl⟩
  have := World.ownsRow_lit (e := 148) (size := 1) (base := w.heap.size) w #[] 0 (Nat.le_refl _) (by unfold maxLen; omega) (by simp)
  simpa using this
theorem OwnP.addr {w : World} {B : Nat} {a : Option Addr} {n c : Nat} {L : List (List ByteArray)} (h : OwnP w B a n c L) (p : Addr) (e : a = some p) : ∃ g, p = ⟨g, 0, none⟩ := by
  obtain ⟨vs, hr, _⟩ := h.row
  rcases hr.2 with ⟨he, h0⟩ | ⟨g', cap, cur, he, _⟩
  · simp [e] at he
  · simp only [Value.slice.injEq] at he
    rw [e] at he
    simp only [Option.some.injEq] at he
    exact ⟨g', he.1⟩
theorem OwnP.base_lt {w : World} {B : Nat} {a : Option Addr} {n c : Nat} {L : List (List ByteArray)} (h : OwnP w B a n c L) : ∀ b o, a = some ⟨b, o, none⟩ → B ≤ b ∧ b < w.heap.size := by
  intro b o e
  obtain ⟨vs, hr, _⟩ := h.row
  rcases hr.2 with ⟨he, h0⟩ | ⟨g', cap, cur, he, hB', hg', _⟩
  · simp [e] at he
  · simp only [Value.slice.injEq] at he
    rw [e] at he
    simp only [Option.some.injEq, Addr.mk.injEq, and_true] at he
    obtain ⟨⟨rfl, _⟩, _⟩ := he
    exact ⟨hB', (Array.getElem?_eq_some_iff.1 hg').1⟩
theorem OwnP.rowblk {w : World} {B : Nat} {a : Option Addr} {n c : Nat} {L : List (List ByteArray)} (h : OwnP w B a n c L) : ∀ b, (Value.slice a n c).ownBlock = some b → B ≤ b ∧ ∃ cur, ∃ fr : Nat × Nat, w.heap[b]? = some (.cells cur 148 fr) := by
  intro b e
  obtain ⟨vs, hr, _⟩ := h.row
  rcases hr.2 with ⟨he, h0⟩ | ⟨g', cap, cur, he, hB', hg', _⟩
  · simp only [Value.slice.injEq] at he
    obtain ⟨rfl, -, -⟩ := he
    simp [Value.ownBlock] at e
  · simp only [Value.slice.injEq] at he
    obtain ⟨rfl, -, -⟩ := he
    simp only [Value.ownBlock, Option.some.injEq] at e
    subst e
    exact ⟨hB', cur, (0, 0), hg'⟩
theorem SRowsAt.keep {w w' : World} {a : Option Addr} {n : Nat} {L : List (List ByteArray)} (h : SRowsAt w a n L) {row : Option Nat} (hg : w.grownBy w' row) (hne : ∀ b, row = some b → ∃ cur, ∃ fr : Nat × Nat, w.heap[b]? = some (.cells cur 148 fr)) (ha : ∀ b o, a = some ⟨b, o, none⟩ → some b ≠ row) : SRowsAt w' a n L := by
  refine ⟨h.len, fun i hi => ?_⟩
  obtain ⟨b, o, v, rfl, hc, hv⟩ := h.get i hi
  have hb : w'.heap[b]? = w.heap[b]? := hg.block b (World.block_lt_of_cell? w _ hc) (ha b o rfl)
  exact ⟨b, o, v, rfl, (World.cell?_of_block (a := ⟨b, o + i, none⟩) hb).trans hc, hv.keep hg hne⟩
theorem Tryz.info148 : (Tryz.prog.info? 148).map (fun i => (i.zero, i.size, i.bytes)) = some (some (.slice none 0 0), 1, 24) := by kernel_rfl
/-- append of one row -/
theorem wpList_append_srow {ops : Array Oper} {rest : List Oper} {o : Oper} {a : Act} {Q : Exit → Act → World → Prop} {w : World} (hgd : o.guard = none) (s x : Operand)
    (ho : o.op = .call { callee := .builtin .append, args := #[s, x], argTypes := #[187, 187] })
    (B : Nat) (av : Option Addr) (nv cv : Nat) (L : List (List ByteArray)) (hs : a.eval s = .slice av nv cv) (hown : OwnP w B av nv cv L)
    (g c : Nat) (y : Value) (ss : List ByteArray) (hx : a.eval x = .slice (some ⟨g, 0, none⟩) 1 c) (hc : w.cell? ⟨g, 0, none⟩ = some y) (hy : HdrS w y ss) (hsm : nv ≤ 1000000000) (hB : B ≤ w.heap.size)
    (h : ∀ a' c' w', OwnP w' B a' (nv + 1) c' (L ++ [ss]) → w.grownBy w' (Value.slice av nv cv).ownBlock → (∀ b o, a' = some ⟨b, o, none⟩ → (∃ o', av = some ⟨b, o', none⟩) ∨ w.heap.size ≤ b) → wpList Tryz.prog ops Q rest (a.put o.dst (.slice a' (nv + 1) c')) w') : wpList Tryz.prog ops Q (o :: rest) a w := by
  obtain ⟨i, hi, hz0, hz1, hz2⟩ := info_parts Tryz.info148
  have hrow := hown.rowblk
  obtain ⟨vs, hr, hv⟩ := hown.row
  have hL := hown.len
  have hl : vs.length = nv := by simpa using hr.1
  have hone : ∀ u ∈ [y], u.oneCell' = true := by
    obtain ⟨a', c', rfl, _, _⟩ := hy
    simp [Value.oneCell']
  refine wpList_append_own_at w hgd s x 187 ho B 148 i (.slice none 0 0) 1 24 Tryz.underlying187 hi hz0 hz1 hz2 rfl (by decide) _ nv vs hs hr ⟨g, 0, none⟩ 1 c [y] hx (by simp) ?_ hone (by unfold maxLen; omega) (by omega) hB ?_
  · intro j u hu
    cases j with
    | zero =>
      simp only [List.getElem?_cons_zero, Option.some.injEq] at hu
      subst hu
      rw [add_none]
      exact hc
    | succ j => simp at hu
  · intro v' w' hr' hg _ hat
    rcases hr'.2 with ⟨_, h0⟩ | ⟨g', cap, cur, he, _⟩
    · omega
    · subst he
      refine h _ _ w' ⟨⟨vs ++ [y], hr', fun i hi => ?_⟩, by simp [hL]⟩ hg (fun b o e => ?_)
      rotate_left
      · simp only [Option.some.injEq, Addr.mk.injEq, and_true] at e
        obtain ⟨rfl, rfl⟩ := e
        simp only [Value.ownBlock] at hat
        rcases hat with h1 | h1
        · left
          cases av with
          | none => simp at h1
          | some p =>
            rcases hr.2 with ⟨he, _⟩ | ⟨g2, cap2, cur2, he, _⟩
            · simp at he
            · simp only [Value.slice.injEq, Option.some.injEq] at he
              obtain ⟨rfl, _⟩ := he
              simp only [Option.some.injEq] at h1
              exact ⟨0, by rw [h1]⟩
        · right
          simp only [Option.some.injEq] at h1
          omega
      rcases Nat.lt_succ_iff_lt_or_eq.1 hi with h3 | rfl
      · rw [getD_app_l _ _ _ _ (by omega), getD_app_l _ _ _ _ (by omega)]
        exact (hv i h3).keep hg fun b e => (hrow b e).2
      · rw [getD_app_r _ _ _ _ (by omega), getD_app_r _ _ _ _ (by omega), hl, hL, Nat.sub_self]
        exact hy.keep hg fun b e => (hrow b e).2
/-- a name, and a list of names behind it -/
theorem wpList_append_names {ops : Array Oper} {rest : List Oper} {o : Oper} {a : Act} {Q : Exit → Act → World → Prop} {w : World} (hgd : o.guard = none) (s x : Operand)
    (ho : o.op = .call { callee := .builtin .append, args := #[s, x], argTypes := #[148, 148] })
    (B : Nat) (av : Option Addr) (nv cv : Nat) (xs : List ByteArray) (hs : a.eval s = .slice av nv cv) (hown : OwnS w B av nv cv xs)
    (v : Value) (ys : List ByteArray) (hx : a.eval x = v) (hy : HdrS w v ys) (hsm : nv + ys.length ≤ 1000000000) (hB : B ≤ w.heap.size)
    (h : ∀ a' c' w', OwnS w' B a' (nv + ys.length) c' (xs ++ ys) → w.grownBy w' (Value.slice av nv cv).ownBlock → wpList Tryz.prog ops Q rest (a.put o.dst (.slice a' (nv + ys.length) c')) w') : wpList Tryz.prog ops Q (o :: rest) a w := by
  obtain ⟨i, hi, hz0, hz1, hz2⟩ := info_parts Tryz.info9
  obtain ⟨a1, c1, rfl, _, hsa, hnil, _⟩ := hy
  cases a1 with
  | none =>
    have hc := hnil rfl
    subst hc
    have hm : ys.length = 0 := by
      rcases Nat.eq_zero_or_pos ys.length with h0 | h0
      · exact h0
      · obtain ⟨_, _, e, _⟩ := hsa.get 0 h0
        cases e
    have hyn : ys = [] := List.eq_nil_of_length_eq_zero hm
    subst hyn
    refine wpList_append_own_none hgd s x 148 ho B 9 i 1 Tryz.underlying148 hi _ nv (svs xs) hs hown.row hx ?_
    have := h av cv w (by simpa using hown) ⟨rfl, rfl, rfl, Nat.le_refl _, fun _ _ _ => rfl⟩
    simpa using this
  | some ad =>
    refine wpList_append_own w hgd s x 148 ho B 9 i (.string ⟨#[]⟩) 1 16 Tryz.underlying148 hi hz0 hz1 hz2 rfl (by decide) _ nv (svs xs) hs hown.row ad ys.length c1 (svs ys) hx (by simp [svs_length]) ?_ (svs_one ys) (by unfold maxLen; omega) (by omega) hB ?_
    · intro j u hu
      have hj : j < ys.length := by have := (List.getElem?_eq_some_iff.1 hu).1; rwa [svs_length] at this
      obtain ⟨b, o', e, hc⟩ := hsa.get j hj
      simp only [Option.some.injEq] at e
      subst e
      rw [add_none, hc]
      rw [svs_get ys j (ys.getD j ByteArray.empty) (by simp [hj])] at hu
      exact hu
    · intro v' w' hr hg hn
      rw [show svs xs ++ svs ys = svs (xs ++ ys) by simp [svs]] at hr
      rcases hr.2 with ⟨he, h0⟩ | ⟨g', cap, cur, he, _⟩
      · exfalso
        have := (hn.1 he).1
        simp only [Value.slice.injEq] at this
        exact hown.nn this.1
      · subst he
        exact h _ _ w' ⟨hr, by simp⟩ hg

theorem OwnS.lit (w : World) (s : ByteArray) : OwnS (w.alloc (.cells #[.string s] 9)) w.heap.size (some ⟨w.heap.size, 0, none⟩) 1 1 [s] := by
  refine ⟨?_, by simp⟩
  have := World.ownsRow_lit (e := 9) (size := 1) (base := w.heap.size) w #[.string s] 1 (Nat.le_refl _) (by unfold maxLen; omega) (by simp)
  simpa [svs] using this
theorem OwnS.hdr {w : World} {B : Nat} {a : Option Addr} {n c : Nat} {xs : List ByteArray} (h : OwnS w B a n c xs) : HdrS w (.slice a n c) xs := by
  have hl := h.len
  subst hl
  have hcap : xs.length ≤ c := by obtain ⟨_, _, _, _, h5, _⟩ := h.form; exact h5
  refine ⟨a, c, rfl, hcap, h.strs, fun e => absurd e h.nn, fun b o e => ?_⟩
  rcases h.row.2 with ⟨he, _⟩ | ⟨g, cap, cur, he, _, hg, _⟩
  · simp only [Value.slice.injEq] at he
    exact absurd he.1 h.nn
  · simp only [Value.slice.injEq] at he
    rw [e] at he
    simp only [Option.some.injEq, Addr.mk.injEq, and_true] at he
    obtain ⟨⟨rfl, _⟩, _⟩ := he
    exact ⟨cur, (0, 0), hg⟩
theorem name_rank (k : Nat) (hk : k < 12) (s : ByteArray) (hs : s = nameS.getD k ByteArray.empty) (h : 1 < s.size) : ((s[1].toNat : Int) - 48) % 256 = (pRank k : Int) := by
  have key : ∀ k, k < 12 → ((((nameS.getD k ByteArray.empty).data[1]?.getD 0).toNat : Int) - 48) % 256 = (pRank k : Int) := by decide +kernel
  have := key k hk
  rw [← hs] at this
  rw [← this]
  congr 2
  have h3 : 1 < s.data.size := h
  rw [Array.getElem?_eq_getElem h3]
  rfl
theorem name_size (k : Nat) (hk : k < 12) (s : ByteArray) (hs : s = nameS.getD k ByteArray.empty) : s.size = 2 := by
  have key : ∀ k, k < 12 → (nameS.getD k ByteArray.empty).size = 2 := by decide +kernel
  rw [hs]
  exact key k hk
def rowS (ks : List Nat) : List ByteArray := ks.map fun k => nameS.getD k ByteArray.empty
theorem rowS_length (ks : List Nat) : (rowS ks).length = ks.length := by simp [rowS]
theorem flatMap_le {α β : Type} (l : List α) (g : α → List β) (M : Nat) (h : ∀ x ∈ l, (g x).length ≤ M) : (l.flatMap g).length ≤ l.length * M := by
  induction l with
  | nil => simp
  | cons x l ih =>
    rw [List.flatMap_cons, List.length_append, List.length_cons, Nat.add_mul, Nat.one_mul]
    have := ih fun y hy => h y (by simp [hy])
    have := h x (by simp)
    omega
/-- the types from one place on -/
def typesD (f rank lo d : Nat) : List (List Nat) := (List.range d).flatMap fun e => if rank < pRank (lo + e) then [] else (typesL f (rank - pRank (lo + e)) (lo + e)).map ((lo + e) :: ·)
theorem typesD_succ (f rank lo d : Nat) : typesD f rank lo (d + 1) = typesD f rank lo d ++ if rank < pRank (lo + d) then [] else (typesL f (rank - pRank (lo + d)) (lo + d)).map ((lo + d) :: ·) := by
  simp [typesD, List.range_succ]
theorem typesL_succ (f rank lo : Nat) (h : rank ≠ 0) : typesL (f + 1) rank lo = typesD f rank lo (12 - lo) := by
  rw [typesL, if_neg h]
  rfl
theorem typesL_len : ∀ (f rank lo : Nat), (typesL f rank lo).length ≤ 13 ^ rank
  | 0, _, _ => by simp [typesL]
  | f + 1, rank, lo => by
    by_cases h : rank = 0
    · subst h; simp [typesL]
    · rw [typesL_succ _ _ _ h]
      refine Nat.le_trans (flatMap_le _ _ (13 ^ (rank - 1)) fun e he => ?_) ?_
      · have he := List.mem_range.1 he
        split
        · simp
        · rename_i h2
          rw [List.length_map]
          refine Nat.le_trans (typesL_len f _ _) (Nat.pow_le_pow_right (by omega) ?_)
          have := (pRank_pos (lo + e) (by omega)).1
          omega
      · rw [List.length_range, show rank = (rank - 1) + 1 by omega, Nat.pow_succ, Nat.add_sub_cancel, Nat.mul_comm]
        exact Nat.mul_le_mul_left _ (by omega)
theorem typesD_len (f rank lo d : Nat) (h0 : rank ≠ 0) (hd : lo + d ≤ 12) : (typesD f rank lo d).length ≤ 13 ^ rank := by
  refine Nat.le_trans (flatMap_le _ _ (13 ^ (rank - 1)) fun e he => ?_) ?_
  · have he := List.mem_range.1 he
    split
    · simp
    · rw [List.length_map]
      refine Nat.le_trans (typesL_len f _ _) (Nat.pow_le_pow_right (by omega) ?_)
      have := (pRank_pos (lo + e) (by omega)).1
      omega
  · rw [List.length_range]
    conv => rhs; rw [show rank = (rank - 1) + 1 by omega, Nat.pow_succ, Nat.mul_comm]
    exact Nat.mul_le_mul_right _ (by omega)
theorem pow13 {rank : Nat} (h : rank ≤ 4) : 13 ^ rank ≤ 28561 := Nat.le_trans (Nat.pow_le_pow_right (by omega) h) (by decide)
theorem typesL_short : ∀ (f rank lo : Nat), ∀ ks ∈ typesL f rank lo, ks.length ≤ rank
  | 0, _, _, ks, h => by simp [typesL] at h
  | f + 1, rank, lo, ks, h => by
    by_cases h0 : rank = 0
    · subst h0; simp [typesL] at h; simp [h]
    · rw [typesL_succ _ _ _ h0] at h
      simp only [typesD, List.mem_flatMap, List.mem_range] at h
      obtain ⟨e, he, h⟩ := h
      split at h
      · simp at h
      · simp only [List.mem_map] at h
        obtain ⟨ks', hk, rfl⟩ := h
        have := typesL_short f _ _ ks' hk
        have := (pRank_pos (lo + e) (by omega)).1
        simp
        omega
set_option maxRecDepth 100000 in
set_option maxHeartbeats 4000000 in
theorem typesOf_any : ∀ (f rank lo : Nat) (w : World), rank < f → rank ≤ 4 → lo ≤ 12 →
    Calls Tryz.prog 185 #[.int .i64 rank, .int .i64 lo] w fun e w' => ∃ a c, e = .returned (.slice a (typesL f rank lo).length c) ∧ SRowsAt w' a (typesL f rank lo).length ((typesL f rank lo).map rowS) ∧ Ext w w' ∧ ∀ b o, a = some ⟨b, o, none⟩ → w.heap.size ≤ b ∧ b < w'.heap.size := by
  intro f
  induction f with
  | zero => intro rank lo w h; omega
  | succ f ih =>
    intro rank lo w hf hr4 hlo
    by_cases h0 : rank = 0
    · subst h0
      have HN : Hid (SRowsAt (w.alloc (.cells #[.slice none 0 0] 148)) (some ⟨w.heap.size, 0, none⟩) 1 [[]]) := by
        refine ⟨rfl, fun i hi => ?_⟩
        obtain rfl : i = 0 := by omega
        exact ⟨_, 0, _, rfl, (cell_top _ _ _ _ _ rfl).trans rfl, HdrS.nil _⟩
      clear ih
      go_enter Tryz.func185, Tryz.ntmps185
      go_wp2
      go_ret
      exact ⟨_, _, rfl, HN.out, Ext.alloc _ _, fun b o e => by cases e; simp⟩
    · have hr0 : ((rank : Int) == 0) = false := by simp; omega
      have HT := hidP (typesL_succ f rank lo h0)
      have HM := hidP (OwnP.made w)
      have HX0 := hidP (Ext.alloc w (.cells #[] 148))
      have HN := hidP (fun w' => partNames_any w')
      have HI := hidP ih
      have hrp : 0 < rank := by omega
      have HZ := hidP h0
      rw [HT.out]
      clear ih h0
      go_enter Tryz.func185, Tryz.ntmps185
      go_wp2
      go_loopw [5, 6] (fun u t wr => ∃ (d : Nat) (av : Option Addr) (cv : Nat), lo + d ≤ 12 ∧ t = .int .i64 (lo + d : Nat) ∧ u = .slice av (typesD f rank lo d).length cv ∧ Hid (OwnP wr w.heap.size av (typesD f rank lo d).length cv ((typesD f rank lo d).map rowS)) ∧ Hid (Ext w wr)) (fun _ t _ => 12 - (intOf t).toNat)
      case atStart => exact ⟨0, _, _, hlo, rfl, rfl, HM, HX0⟩
      case round =>
        clear HM HX0
        obtain ⟨d, av, cv, hd, rfl, rfl, HO, HX⟩ := hrel
        have hlen := typesD_len f rank lo d HZ.out hd
        have h13 := pow13 hr4
        have HTS := hidP (typesD_succ f rank lo d)
        obtain ⟨wo, rfl⟩ : ∃ wo : World, wo = wr := ⟨_, rfl⟩
        have HP := HN.out
        go_wp2_with fail
        refine (HN.out _).mono ?_
        rintro e w1 ⟨bn, rfl, _, hx1⟩
        have HX1 := hidP hx1
        clear hx1
        by_cases hlt : lo + d < 12
        · go_wp2_with fail
          refine (HN.out _).mono ?_
          rintro e w2 ⟨bm, rfl, hs2, hx2⟩
          obtain ⟨b, o, e, q⟩ := hs2.get (lo + d) hlt
          simp only [Option.some.injEq, Addr.mk.injEq, and_true] at e
          obtain ⟨rfl, rfl⟩ := e
          obtain ⟨s, hs⟩ : ∃ s, s = nameS.getD (lo + d) ByteArray.empty := ⟨_, rfl⟩
          rw [← hs] at q
          have hz2 := name_size _ hlt s hs
          have hz : 1 < s.size := by omega
          have hrk := name_rank _ hlt s hs hz
          have HS := hidP hs
          have HX2 := hidP (HX1.out.trans hx2)
          have hp := pRank_pos _ hlt
          generalize hpk : pRank (lo + d) = n at *
          have HPK := hidP hpk
          rw [Nat.zero_add] at q
          clear hs hx2 hs2 hz2 hpk HX1
          by_cases hgt : rank < n
          · have HE : Hid (typesD f rank lo (d + 1) = typesD f rank lo d) := by
              show _ = _
              rw [HTS.out, if_pos hgt, List.append_nil]
            go_wp2
            go_roundw
            case rel => exact ⟨d + 1, av, cv, by omega, by go_num, by rw [HE.out], by rw [HE.out]; exact HO.out.keep HX2.out, HX.out.trans HX2.out⟩
            case measure => simp [intOf]; omega
          · have HE : Hid (typesD f rank lo (d + 1) = typesD f rank lo d ++ (typesL f (rank - n) (lo + d)).map ((lo + d) :: ·)) := by
              show _ = _
              rw [HTS.out, if_neg hgt]
            have HC := hidP (fun w' => HI.out (rank - n) (lo + d) w' (by omega) (by omega) (by omega))
            have hsub : ((rank : Int) - n) = ((rank - n : Nat) : Int) := by omega
            simp only [Int.natCast_add] at HC
            have HL2 := hidP (typesL_len f (rank - n) (lo + d))
            have h132 := pow13 (show rank - n ≤ 4 by omega)
            have HSh := hidP (typesL_short f (rank - n) (lo + d))
            generalize typesL f (rank - n) (lo + d) = L2 at *
            generalize typesD f rank lo d = L1 at *
            go_wp2_with fail
            refine (HC.out _).mono ?_
            rintro e w3 ⟨a3, c3, rfl, hs3, hx3, ha3⟩
            have HA3 := hidP ha3
            have HS3 := hidP hs3
            have HX3 := hidP (HX2.out.trans hx3)
            have HO3 := hidP (HO.out.keep HX3.out)
            have HA2 : Hid (∀ b o, av = some ⟨b, o, none⟩ → b < w2.heap.size ∨ w3.heap.size ≤ b) := fun b o e => .inl ((HO.out.keep HX2.out).base_lt b o e).2
            have HXa := hidP (HX.out.trans HX3.out)
            have hl2 : L2.length ≤ 28561 := Nat.le_trans HL2.out h132
            clear hs3 hx3 q hsub ha3
            go_wp2
            go_loopw [5, 39] (fun u t wr => ∃ (k : Nat) (av : Option Addr) (cv : Nat), k ≤ L2.length ∧ t = .int .i64 k ∧ u = .slice av (L1.length + k) cv ∧ Hid (OwnP wr w.heap.size av (L1.length + k) cv (L1.map rowS ++ (L2.take k).map fun ks => s :: rowS ks)) ∧ Hid (Ext w wr) ∧ Hid (∀ b o, av = some ⟨b, o, none⟩ → b < w2.heap.size ∨ w3.heap.size ≤ b) ∧ Hid (w3.heap.size ≤ wr.heap.size) ∧ Hid (SRowsAt wr a3 L2.length (L2.map rowS))) (fun _ t _ => L2.length - (intOf t).toNat)
            case atStart => exact ⟨0, _, _, Nat.zero_le _, rfl, rfl, by show OwnP _ _ _ _ _ _; simpa using HO3.out, HXa, HA2, Nat.le_refl _, HS3⟩
            case round =>
              clear HO3 HXa HS3 HX3
              obtain ⟨k, av, cv, hk, rfl, rfl, HO, HX, HA, HW3, HS3⟩ := hrel
              by_cases hlk : k < L2.length
              · obtain ⟨b, o, v, rfl, qv, hv⟩ := HS3.out.get k hlk
                have hgd : (L2.map rowS).getD k [] = rowS (L2.getD k []) := by simp [List.getD_eq_getElem?_getD, hlk]
                rw [hgd] at hv
                have hsh : (L2.getD k []).length ≤ rank - n := HSh.out _ (by rw [List.getD_eq_getElem?_getD, List.getElem?_eq_getElem hlk]; exact List.getElem_mem hlk)
                have HTK : Hid ((L1.map rowS ++ (L2.take k).map fun ks => s :: rowS ks) ++ [s :: rowS (L2.getD k [])] = L1.map rowS ++ (L2.take (k + 1)).map fun ks => s :: rowS ks) := by
                  show _ = _
                  rw [List.take_succ_eq_append_getElem hlk, List.map_append, List.append_assoc]
                  simp [List.getD_eq_getElem?_getD, hlk]
                have hlr : (rowS (L2.getD k [])).length ≤ 4 := by rw [rowS_length]; omega
                generalize rowS (L2.getD k []) = ss at *
                have HV := hidP hv
                clear hv hgd hsh
                have hxl := Ext.alloc wr (.cells #[.string s] 9)
                have HW0 := hidP (OwnS.lit wr s)
                have HVa := hidP (HV.out.below hxl)
                have HOa := hidP (HO.out.keep hxl)
                have HXl := hidP hxl
                have hX := HX.out.size
                clear hxl
                go_wp2_with (first
                  | (at_builtin; refine wpList_append_names rfl (.tmp 45) (.tmp 46) rfl wr.heap.size (some ⟨wr.heap.size, 0, none⟩) 1 1 [s] rfl HW0.out v ss rfl HVa.out (by omega) (by simp) ?_; intro a4 c4 w4 ho4 hg4; have hx4 := HW0.out.ext hg4 HXl.out (Nat.le_refl _); have hd4 := ho4.hdr; have hxn := Ext.alloc w4 (.cells #[.slice a4 (1 + ss.length) c4] 148); have HD4 := hidP (hd4.below hxn); have HC4 := hidP ((cell_top w4 #[.slice a4 (1 + ss.length) c4] 148 w4.heap.size 0 rfl).trans (show _ = some (Value.slice a4 (1 + ss.length) c4) from rfl)); have HO4 := hidP (HO.out.keep (hx4.trans hxn)); have HX4 := hidP (hx4.trans hxn); clear ho4 hg4 hx4 hd4 hxn)
                  | (at_builtin; refine wpList_append_srow rfl (.tmp 43) (.tmp 48) rfl w.heap.size av (L1.length + k) cv _ rfl HO4.out w4.heap.size 1 _ ([s] ++ ss) rfl HC4.out HD4.out (by omega) (Nat.le_trans hX HX4.out.size) ?_; intro a6 c6 w6 ho6 hg6 hn6))
                rw [List.singleton_append, HTK.out] at ho6
                have HO6 := hidP ho6
                have hrb := HO4.out.rowblk
                have HX6 := hidP (Below.grown (HX.out.trans HX4.out) hg6 (Nat.le_trans hX HX4.out.size) fun b e => (hrb b e).1)
                have HW6 : Hid (w3.heap.size ≤ w6.heap.size) := Nat.le_trans HW3.out (Nat.le_trans HX4.out.size hg6.size)
                have HA6 : Hid (∀ b o, a6 = some ⟨b, o, none⟩ → b < w2.heap.size ∨ w3.heap.size ≤ b) := fun b o e => by
                  rcases hn6 b o e with ⟨o', e'⟩ | h
                  · exact HA.out b o' e'
                  · right
                    have := HW3.out
                    have := HX4.out.size
                    omega
                have HS6 := hidP ((HS3.out.below HX4.out).keep hg6 (fun b e => (hrb b e).2) fun b' o' e' hr => by
                  have h1 := HA3.out b' o' e'
                  cases hav : av with
                  | none => rw [hav] at hr; simp [Value.ownBlock] at hr
                  | some p =>
                    obtain ⟨g, rfl⟩ := HO.out.addr p hav
                    rw [hav] at hr
                    simp only [Value.ownBlock, Option.some.injEq] at hr
                    have h2 := HA.out g 0 hav
                    omega)
                clear hrb hg6 hn6 ho6
                go_roundw
                case rel => exact ⟨k + 1, a6, c6, by omega, by go_num, rfl, HO6, HX6, HA6, HW6, HS6⟩
                case measure => simp [intOf]; omega
              · obtain rfl : k = L2.length := by omega
                go_wp2
                go_roundw
                case rel =>
                  refine ⟨d + 1, av, cv, by omega, by go_num, by rw [HE.out]; simp, ?_, HX⟩
                  have := HO.out
                  rw [List.take_length] at this
                  rw [HE.out, List.map_append, List.map_map, List.length_append, List.length_map]
                  have he : (rowS ∘ fun x => (lo + d) :: x) = fun ks => s :: rowS ks := by
                    funext ks
                    have e : rowS ((lo + d) :: ks) = nameS.getD (lo + d) ByteArray.empty :: rowS ks := rfl
                    show rowS ((lo + d) :: ks) = s :: rowS ks
                    rw [e, ← HS.out]
                  rw [he]
                  exact this
                case measure => simp [intOf]; omega
        · obtain rfl : d = 12 - lo := by omega
          go_wp2
          go_ret
          exact ⟨_, _, rfl, (HO.out.keep HX1.out).rows, HX.out.trans HX1.out, (HO.out.keep HX1.out).base_lt⟩
end Go.Proofs.YtnfbfdamlnjblaaGreatDoor
