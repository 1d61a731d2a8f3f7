/-
  A region that draws its order: two operations one behind the other, and a third one that may come up at any time; appends of several strings.
-/
import Derived.Test.YtnfbfdamlnjblaaGreatDoorReg
import Derived.Test.YtnfbfdamlnjblaaGreatDoorStr
namespace Go.Proofs.YtnfbfdamlnjblaaGreatDoor
open Go.RowKit

section
variable {P : Program} {ops : Array Oper} {Q : Exit → Act → World → Prop} {C : World → Prop} {n : Nat}

theorem walkR_three {i k j di dk dj : Nat} {oi ok oj : Oper} (P1 : Value → World → Prop) (P12 : Value → Value → World → Prop) (PJ : Value → World → Prop) (P1J : Value → Value → World → Prop) (R : Value → Value → Value → World → Prop)
    {rem : List (Nat × Oper)} {f : Nat} {listed : Array Bool} {a : Act} {w : World} (hi : ops[i]? = some oi) (hk : ops[k]? = some ok) (hj : ops[j]? = some oj)
    (hb : (decide (Region.ready .any ops listed = [i, j]) && decide (i < n) && decide (k < n) && decide (j < n) && decide (Region.ready .any ops (listed.setIfInBounds i true) = [k, j]) && decide (Region.ready .any ops ((listed.setIfInBounds i true).setIfInBounds k true) = [j])
      && decide (Region.ready .any ops ((listed.setIfInBounds i true).setIfInBounds j true) = [k]) && decide (Region.ready .any ops (listed.setIfInBounds j true) = [i]) && decide (Region.ready .any ops ((listed.setIfInBounds j true).setIfInBounds i true) = [k]) && decide (i ≠ j) && decide (k ≠ j)) = true)
    (_hdi : oi.dst = some di) (_hdk : ok.dst = some dk) (_hdj : oj.dst = some dj) (hd1 : di ≠ dj) (hd2 : dk ≠ dj)
    (hwi : ∀ a : Act, Region.wanted oi (yielded ops a.tmps) = true) (hwk : ∀ a : Act, Region.wanted ok (yielded ops a.tmps) = true) (hwj : ∀ a : Act, Region.wanted oj (yielded ops a.tmps) = true)
    (h1 : ∀ K : Act → World → Prop, (∀ v w', C w' → P1 v w' → K (a.put (some di) v) w') → oi.wp P a w K Q)
    (h12 : ∀ v w', C w' → P1 v w' → ∀ K : Act → World → Prop, (∀ u w'', C w'' → P12 v u w'' → K ((a.put (some di) v).put (some dk) u) w'') → ok.wp P (a.put (some di) v) w' K Q)
    (h12J : ∀ v u w', C w' → P12 v u w' → ∀ K : Act → World → Prop, (∀ z w'', C w'' → R v u z w'' → K (((a.put (some di) v).put (some dk) u).put (some dj) z) w'') → oj.wp P ((a.put (some di) v).put (some dk) u) w' K Q)
    (h1J : ∀ v w', C w' → P1 v w' → ∀ K : Act → World → Prop, (∀ z w'', C w'' → P1J v z w'' → K ((a.put (some di) v).put (some dj) z) w'') → oj.wp P (a.put (some di) v) w' K Q)
    (h1J2 : ∀ v z w', C w' → P1J v z w' → ∀ K : Act → World → Prop, (∀ u w'', C w'' → R v u z w'' → K (((a.put (some di) v).put (some dj) z).put (some dk) u) w'') → ok.wp P ((a.put (some di) v).put (some dj) z) w' K Q)
    (hJ : ∀ K : Act → World → Prop, (∀ z w', C w' → PJ z w' → K (a.put (some dj) z) w') → oj.wp P a w K Q)
    (hJ1 : ∀ z w', C w' → PJ z w' → ∀ K : Act → World → Prop, (∀ v w'', C w'' → P1J v z w'' → K ((a.put (some dj) z).put (some di) v) w'') → oi.wp P (a.put (some dj) z) w' K Q)
    (h : ∀ v u z w'', C w'' → R v u z w'' → WalkR P ops Q n C rem f (((listed.setIfInBounds i true).setIfInBounds k true).setIfInBounds j true) (((a.put (some di) v).put (some dk) u).put (some dj) z) w'') : WalkR P ops Q n C ((i, oi) :: (k, ok) :: (j, oj) :: rem) (f + 3) listed a w := by
  simp only [Bool.and_eq_true, decide_eq_true_eq] at hb
  obtain ⟨⟨⟨⟨⟨⟨⟨⟨⟨⟨hr, hin⟩, hkn⟩, hjn⟩, hr1⟩, hr12⟩, hr1J⟩, hrJ⟩, hrJ1⟩, hij⟩, hkj⟩ := hb
  -- i and j have come up
  have mid : ∀ v z w', C w' → P1J v z w' → WalkC P ops Q n C (f + 1) ((listed.setIfInBounds i true).setIfInBounds j true) ((a.put (some di) v).put (some dj) z) w' := by
    intro v z w' hc hp
    refine walkC_only C hk (by simp [hr1J, hkn]) (hwk _) (fun _ h => h) fun K hK => ?_
    refine h1J2 v z w' hc hp K fun u w'' hc' hR => hK _ _ hc' ?_
    have := h v u z w'' hc' hR
    rw [Act.put_comm _ hd2, Array.setIfInBounds_comm _ _ (Ne.symm hkj)]
    exact this
  refine walkC_split (f := f + 2) hi hj (by simp [hr, hin, hjn]) (hwi _) (hwj _) ?_ ?_
  · intro K hK
    refine h1 K fun v w' hc hp => hK _ _ hc ?_
    refine walkC_split (f := f + 1) hk hj (by simp [hr1, hkn, hjn]) (hwk _) (hwj _) ?_ ?_
    · intro K' hK'
      refine h12 v w' hc hp K' fun u w'' hc' hp' => hK' _ _ hc' ?_
      refine walkC_only C hj (by simp [hr12, hjn]) (hwj _) (fun _ h => h) fun K2 hK2 => ?_
      exact h12J v u w'' hc' hp' K2 fun z w3 hc3 hR => hK2 _ _ hc3 (h v u z w3 hc3 hR)
    · intro K' hK'
      exact h1J v w' hc hp K' fun z w'' hc' hp' => hK' _ _ hc' (mid v z w'' hc' hp')
  · intro K hK
    refine hJ K fun z w' hc hp => hK _ _ hc ?_
    refine walkC_only C hi (by simp [hrJ, hin]) (hwi _) (fun _ h => h) fun K' hK' => ?_
    refine hJ1 z w' hc hp K' fun v w'' hc' hp' => hK' _ _ hc' ?_
    have := mid v z w'' hc' hp'
    rw [Act.put_comm _ hd1, Array.setIfInBounds_comm _ _ (Ne.symm hij)]
    exact this
end

/-- the slice value at address a (n elements) reads as strings -/
structure StrsR (w : World) (a : Option Addr) (n : Nat) (ss : List ByteArray) : Prop where
  len : ss.length = n
  get : ∀ i, i < n → ∃ b o, a = some ⟨b, o, none⟩ ∧ w.cell? ⟨b, o + i, none⟩ = some (.string (ss.getD i ByteArray.empty))
theorem StrsR.below {w w' : World} {a : Option Addr} {n : Nat} {ss : List ByteArray} (h : StrsR w a n ss) (hb : Ext w w') : StrsR w' a n ss := by
  refine ⟨h.len, fun i hi => ?_⟩
  obtain ⟨b, o, rfl, hc⟩ := h.get i hi
  exact ⟨b, o, rfl, (hb.cell (p := ⟨b, o + i, none⟩) (World.block_lt_of_cell? w _ hc)).trans hc⟩
theorem OwnS.strsR {w : World} {B : Nat} {a : Option Addr} {n c : Nat} {xs : List ByteArray} (h : OwnS w B a n c xs) : StrsR w a n xs := by
  refine ⟨h.len, fun i hi => ?_⟩
  obtain ⟨g, rfl, _, _, _, _, hc⟩ := h.form
  have hl := h.len
  refine ⟨g, 0, rfl, hc i _ ?_⟩
  rw [List.getD_eq_getElem?_getD, List.getElem?_eq_getElem (by omega)]
  rfl
theorem StrsR.part {w : World} {b o n : Nat} {ss : List ByteArray} (h : StrsR w (some ⟨b, o, none⟩) n ss) (i m : Nat) (hm : i + m ≤ n) : StrsR w (some ⟨b, o + i, none⟩) m ((ss.drop i).take m) := by
  have hl := h.len
  refine ⟨by simp; omega, fun j hj => ?_⟩
  obtain ⟨b', o', e, hc⟩ := h.get (i + j) (by omega)
  simp only [Option.some.injEq, Addr.mk.injEq, and_true] at e
  obtain ⟨rfl, rfl⟩ := e
  refine ⟨_, _, rfl, ?_⟩
  rw [Nat.add_assoc, hc]
  simp [List.getD_eq_getElem?_getD, hj, List.getElem?_drop]
theorem OwnS.base {w : World} {B B' : Nat} {a : Option Addr} {n c : Nat} {xs : List ByteArray} (h : OwnS w B a n c xs) (hB : B' ≤ B) : OwnS w B' a n c xs := by
  refine ⟨⟨h.row.1, ?_⟩, h.nn⟩
  rcases h.row.2 with h2 | ⟨g, cap, cur, he, hB', r⟩
  · exact .inl h2
  · exact .inr ⟨g, cap, cur, he, Nat.le_trans hB hB', r⟩
theorem OwnS.blk {w : World} {B : Nat} {a : Option Addr} {n c : Nat} {xs : List ByteArray} (h : OwnS w B a n c xs) : ∃ g cur, a = some ⟨g, 0, none⟩ ∧ w.heap[g]? = some (.cells cur 9) := by
  rcases h.row.2 with ⟨he, _⟩ | ⟨g, cap, cur, he, hB, hg, _⟩
  · simp only [Value.slice.injEq] at he
    exact absurd he.1 h.nn
  · simp only [Value.slice.injEq] at he
    exact ⟨g, cur, he.1, hg⟩
theorem OwnI.blk {w : World} {B : Nat} {a : Option Addr} {n c : Nat} {xs : List Int} (h : OwnI w B a n c xs) {g o : Nat} (e : a = some ⟨g, o, none⟩) : ∃ cur, w.heap[g]? = some (.cells cur 3) := by
  rcases h.row.2 with ⟨he, _⟩ | ⟨g', cap, cur, he, hB, hg, _⟩
  · simp only [Value.slice.injEq] at he
    rw [e] at he
    cases he.1
  · simp only [Value.slice.injEq] at he
    rw [e] at he
    simp only [Option.some.injEq, Addr.mk.injEq, and_true] at he
    obtain ⟨⟨rfl, _⟩, _⟩ := he
    exact ⟨cur, hg⟩
/-- a slice of strings and one of integers lie in different blocks -/
theorem OwnS.ne_ints {w : World} {B B' : Nat} {a a' : Option Addr} {n c n' c' : Nat} {xs : List ByteArray} {ys : List Int} (h : OwnS w B a n c xs) (k : OwnI w B' a' n' c' ys) (g o : Nat) (e : a = some ⟨g, o, none⟩) : some g ≠ (Value.slice a' n' c').ownBlock := by
  intro hk
  cases a' with
  | none => simp [Value.ownBlock] at hk
  | some p =>
    simp only [Value.ownBlock, Option.some.injEq] at hk
    obtain ⟨g1, cur1, e1, h1⟩ := h.blk
    rw [e] at e1
    simp only [Option.some.injEq, Addr.mk.injEq, and_true] at e1
    obtain ⟨rfl, rfl⟩ := e1
    rcases k.row.2 with ⟨he, _⟩ | ⟨g', cap, cur, he, hB, hg, _⟩
    · simp at he
    · simp only [Value.slice.injEq, Option.some.injEq] at he
      obtain ⟨rfl, _⟩ := he
      simp only at hk
      subst hk
      rw [h1] at hg
      simp at hg
/-- a block behind the ones of w is not an owned slice's block -/
theorem OwnI.ne_new {w : World} {B : Nat} {a : Option Addr} {n c : Nat} {xs : List Int} (h : OwnI w B a n c xs) {g : Nat} (hg : w.heap.size ≤ g) : some g ≠ (Value.slice a n c).ownBlock := by
  intro hk
  rcases h.row.2 with ⟨he, _⟩ | ⟨g', cap, cur, he, hB, hg', _⟩
  · simp only [Value.slice.injEq] at he
    rw [he.1] at hk
    simp [Value.ownBlock] at hk
  · simp only [Value.slice.injEq] at he
    rw [he.1] at hk
    simp only [Value.ownBlock, Option.some.injEq] at hk
    have := (Array.getElem?_eq_some_iff.1 hg').1
    omega
theorem StrsR.one {w : World} {g : Nat} {y : ByteArray} (h : w.cell? ⟨g, 0, none⟩ = some (.string y)) : StrsR w (some ⟨g, 0, none⟩) 1 [y] := ⟨rfl, fun i hi => by
  obtain rfl : i = 0 := by omega
  exact ⟨g, 0, rfl, by simpa using h⟩⟩
/-- append of several strings -/
theorem wp_append_strs {o : Oper} {a : Act} {K : Act → World → Prop} {Q : Exit → Act → World → Prop} {w : World} (s x : Operand)
    (ho : o.op = .call { callee := .builtin .append, args := #[s, x], argTypes := #[148, 148] })
    (B : Nat) (av : Option Addr) (nv cv : Nat) (xs : List ByteArray) (hs : a.eval s = .slice av nv cv) (hown : OwnS w B av nv cv xs)
    (ad : Addr) (m c : Nat) (ys : List ByteArray) (hx : a.eval x = .slice (some ad) m c) (hy : StrsR w (some ad) m ys) (hsm : nv + m ≤ 1000000000) (hB : B ≤ w.heap.size)
    (h : ∀ a' c' w', OwnS w' B a' (nv + m) c' (xs ++ ys) → w.grownBy w' (Value.slice av nv cv).ownBlock → K (a.put o.dst (.slice a' (nv + m) c')) w') : o.wp Tryz.prog a w K Q := by
  obtain ⟨i, hi, hz0, hz1, hz2⟩ := info_parts Tryz.info9
  have hl := hy.len
  refine wp_append_own w s x 148 ho B 9 i (.string ⟨#[]⟩) 1 16 Tryz.underlying148 hi hz0 hz1 hz2 rfl (by decide) _ nv (svs xs) hs hown.row ad m c (svs ys) hx (by simp [svs, hl]) ?_ (svs_one ys) (by unfold maxLen; omega) (by omega) hB ?_
  · intro j u hu
    simp only [svs, List.getElem?_map, Option.map_eq_some_iff] at hu
    obtain ⟨y, hy', rfl⟩ := hu
    have hj : j < ys.length := (List.getElem?_eq_some_iff.1 hy').1
    obtain ⟨b, o', e, hc⟩ := hy.get j (by omega)
    simp only [Option.some.injEq] at e
    subst e
    rw [add_none, hc, List.getD_eq_getElem?_getD, hy']
    rfl
  · intro v' w' hr hg hnil
    rw [show svs xs ++ svs ys = svs (xs ++ ys) by simp [svs]] at hr
    rcases hr.2 with ⟨e, _⟩ | ⟨g', cap, cur, he, _⟩
    · have := (hnil.1 e).1
      simp only [Value.slice.injEq] at this
      exact absurd this.1 hown.nn
    · subst he
      exact h _ _ w' ⟨hr, by simp⟩ hg
theorem wpList_append_strs {ops : Array Oper} {rest : List Oper} {o : Oper} {a : Act} {Q : Exit → Act → World → Prop} {w : World} (hgd : o.guard = none) (s x : Operand)
    (ho : o.op = .call { callee := .builtin .append, args := #[s, x], argTypes := #[148, 148] })
    (B : Nat) (av : Option Addr) (nv cv : Nat) (xs : List ByteArray) (hs : a.eval s = .slice av nv cv) (hown : OwnS w B av nv cv xs)
    (ad : Addr) (m c : Nat) (ys : List ByteArray) (hx : a.eval x = .slice (some ad) m c) (hy : StrsR w (some ad) m ys) (hsm : nv + m ≤ 1000000000) (hB : B ≤ w.heap.size)
    (h : ∀ a' c' w', OwnS w' B a' (nv + m) c' (xs ++ ys) → w.grownBy w' (Value.slice av nv cv).ownBlock → wpList Tryz.prog ops Q rest (a.put o.dst (.slice a' (nv + m) c')) w') : wpList Tryz.prog ops Q (o :: rest) a w :=
  wpList_plain hgd fun _ hK => wp_append_strs s x ho B av nv cv xs hs hown ad m c ys hx hy hsm hB fun a' c' w' h2 h3 => hK _ _ (h a' c' w' h2 h3)
end Go.Proofs.YtnfbfdamlnjblaaGreatDoor
