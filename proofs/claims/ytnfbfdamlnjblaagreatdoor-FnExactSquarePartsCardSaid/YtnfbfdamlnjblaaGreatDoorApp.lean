/-
  append on an owned slice of integers; the library's Clone.
-/
import Derived.Test.YtnfbfdamlnjblaaGreatDoorSlc
namespace Go.Proofs.YtnfbfdamlnjblaaGreatDoor
open Go.RowKit

theorem OwnI.nil_cap {w : World} {B : Nat} {a : Option Addr} {n c : Nat} {xs : List Int} (h : OwnI w B a n c xs) : a = none → c = 0 := by
  intro e
  subst e
  rcases h.row.2 with ⟨he, _⟩ | ⟨g, cap, cur, he, _⟩
  · simp at he
    exact he.2
  · simp at he

theorem add_none (b o j : Nat) : (⟨b, o, none⟩ : Addr).add j = ⟨b, o + j, none⟩ := by
  unfold Addr.add
  split
  · subst_vars; rfl
  · rfl

theorem own_of_row {w : World} {B n : Nat} {v : Value} {xs : List Int} (h : w.ownsRow B 3 1 v n (ivs xs)) : ∃ a c, v = .slice a n c ∧ OwnI w B a n c xs := by
  rcases h.2 with ⟨he, h0⟩ | ⟨g, cap, cur, he, _⟩
  · subst h0
    exact ⟨none, 0, he, ⟨he ▸ h⟩⟩
  · exact ⟨_, _, he, ⟨he ▸ h⟩⟩

theorem wpList_append_ints {ops : Array Oper} {rest : List Oper} {o : Oper} {a : Act} {Q : Exit → Act → World → Prop} {w : World} (hgd : o.guard = none) (s x : Operand)
    (ho : o.op = .call { callee := .builtin .append, args := #[s, x], argTypes := #[22, 22] })
    (B : Nat) (av : Option Addr) (nv cv : Nat) (xs : List Int) (hs : a.eval s = .slice av nv cv) (hown : OwnI w B av nv cv xs)
    (ax : Option Addr) (m c : Nat) (ys : List Int) (hx : a.eval x = .slice ax m c) (hys : IntsAt w ax m ys) (hnil : ax = none → c = 0) (hsm : nv + m ≤ 1000000000000) (hB : B ≤ w.heap.size)
    (h : ∀ a' c' w', OwnI w' B a' (nv + m) c' (xs ++ ys) → w.grownBy w' (Value.slice av nv cv).ownBlock → wpList Tryz.prog ops Q rest (a.put o.dst (.slice a' (nv + m) c')) w') : wpList Tryz.prog ops Q (o :: rest) a w := by
  obtain ⟨i, hi, hz0, hz1, hz2⟩ := info_parts Tryz.info3
  cases ax with
  | none =>
    have hc := hnil rfl
    subst hc
    have hm : m = 0 := by
      rcases Nat.eq_zero_or_pos m with h0 | h0
      · exact h0
      · obtain ⟨_, _, e, _⟩ := hys.get 0 h0
        cases e
    subst hm
    have hy : ys = [] := List.eq_nil_of_length_eq_zero hys.len
    subst hy
    refine wpList_append_own_none hgd s x 22 ho B 3 i 1 Tryz.underlying22 hi _ nv (ivs xs) hs hown.row hx ?_
    have := h av cv w (by simpa using hown) ⟨rfl, rfl, rfl, Nat.le_refl _, fun _ _ _ => rfl⟩
    simpa using this
  | some ad =>
    have hl := hys.len
    refine wpList_append_own w hgd s x 22 ho B 3 i (.int .i64 0) 1 8 Tryz.underlying22 hi hz0 hz1 hz2 rfl (by decide) _ nv (ivs xs) hs hown.row ad m c (ivs ys) hx (by simp [ivs_length, hl]) ?_ (ivs_one ys) (by unfold maxLen; omega) (by omega) hB ?_
    · intro j u hu
      obtain ⟨hj, rfl⟩ := ivs_get_inv hu
      obtain ⟨b, o', e, hc⟩ := hys.get j (by omega)
      simp only [Option.some.injEq] at e
      subst e
      rw [add_none]
      exact hc
    · intro v' w' hr hg _
      rw [show ivs xs ++ ivs ys = ivs (xs ++ ys) by simp [ivs]] at hr
      obtain ⟨a', c', rfl, ho'⟩ := own_of_row hr
      exact h a' c' w' ho' hg

theorem wp_append_ints {o : Oper} {a : Act} {K : Act → World → Prop} {Q : Exit → Act → World → Prop} {w : World} (s x : Operand)
    (ho : o.op = .call { callee := .builtin .append, args := #[s, x], argTypes := #[22, 22] })
    (B : Nat) (av : Option Addr) (nv cv : Nat) (xs : List Int) (hs : a.eval s = .slice av nv cv) (hown : OwnI w B av nv cv xs)
    (ad : Addr) (m c : Nat) (ys : List Int) (hx : a.eval x = .slice (some ad) m c) (hys : IntsAt w (some ad) m ys) (hsm : nv + m ≤ 1000000000000) (hB : B ≤ w.heap.size)
    (h : ∀ a' c' w', OwnI w' B a' (nv + m) c' (xs ++ ys) → w.grownBy w' (Value.slice av nv cv).ownBlock → K (a.put o.dst (.slice a' (nv + m) c')) w') : o.wp Tryz.prog a w K Q := by
  obtain ⟨i, hi, hz0, hz1, hz2⟩ := info_parts Tryz.info3
  have hl := hys.len
  refine wp_append_own w s x 22 ho B 3 i (.int .i64 0) 1 8 Tryz.underlying22 hi hz0 hz1 hz2 rfl (by decide) _ nv (ivs xs) hs hown.row ad m c (ivs ys) hx (by simp [ivs_length, hl]) ?_ (ivs_one ys) (by unfold maxLen; omega) (by omega) hB ?_
  · intro j u hu
    obtain ⟨hj, rfl⟩ := ivs_get_inv hu
    obtain ⟨b, o', e, hc⟩ := hys.get j (by omega)
    simp only [Option.some.injEq] at e
    subst e
    rw [add_none]
    exact hc
  · intro v' w' hr hg _
    rw [show ivs xs ++ ivs ys = ivs (xs ++ ys) by simp [ivs]] at hr
    obtain ⟨a', c', rfl, ho'⟩ := own_of_row hr
    exact h a' c' w' ho' hg

theorem grown_ext {w w' : World} {B : Nat} {a : Option Addr} {n c : Nat} (h : w.grownBy w' (Value.slice a n c).ownBlock) {w0 : World} (hb : Below B w0 w) (hB : B ≤ w.heap.size) (ha : ∀ p, a = some p → B ≤ p.block) : Below B w0 w' := by
  refine Below.grown hb h hB fun k hk => ?_
  cases a with
  | none => simp [Value.ownBlock] at hk
  | some p =>
    simp [Value.ownBlock] at hk
    subst hk
    exact ha p rfl
theorem OwnI.addr_base {w : World} {B : Nat} {a : Option Addr} {n c : Nat} {xs : List Int} (h : OwnI w B a n c xs) : ∀ p, a = some p → B ≤ p.block := by
  intro p e
  subst e
  rcases h.row.2 with ⟨he, _⟩ | ⟨g, cap, cur, he, hB, _⟩
  · simp at he
  · simp only [Value.slice.injEq, Option.some.injEq] at he
    obtain ⟨rfl, _⟩ := he
    exact hB

set_option maxHeartbeats 1000000 in
theorem clone_any (a : Option Addr) (n c : Nat) (xs : List Int) (w : World) (h : IntsAt w a n xs) (hnil : a = none → c = 0) (hn : n ≤ 1000000000000) :
    Calls Tryz.prog 77 #[.slice a n c] w fun e w' => ∃ a' c', e = .returned (.slice a' n c') ∧ OwnI w' w.heap.size a' n c' xs ∧ Ext w w' := by
  have kn := fun (w : World) => Lib.run_eql_slice_nil (P := Tryz.prog) w 22 3 a n c 0 0 Tryz.underlying22
  cases a with
  | none =>
    have hc := hnil rfl
    subst hc
    have hm : n = 0 := by
      rcases Nat.eq_zero_or_pos n with h0 | h0
      · exact h0
      · obtain ⟨_, _, e, _⟩ := h.get 0 h0
        cases e
    subst hm
    have hy : xs = [] := List.eq_nil_of_length_eq_zero h.len
    subst hy
    clear h hnil
    go_enter Tryz.func77, Tryz.ntmps77
    go_wp2
    go_ret
    exact ⟨_, _, rfl, OwnI.nil _ _, Ext.refl _⟩
  | some p =>
    have H := hidP (h.below (Ext.alloc w (.cells #[] 3)))
    have hm := OwnI.made w w.heap.size 0 (Nat.le_refl _) (by unfold maxLen; omega)
    rw [show Array.replicate 0 (Value.int .i64 0) = #[] from rfl] at hm
    have HM := hidP hm
    clear h hnil hm
    go_enter Tryz.func77, Tryz.ntmps77
    go_wp2_with (at_builtin; refine wpList_append_ints rfl (.tmp 5) (.tmp 6) rfl w.heap.size (some ⟨w.heap.size, 0, none⟩) 0 0 [] rfl HM.out (some p) n c xs rfl H.out (fun e => by cases e) (by omega) (by simp) ?_; intro a' c' w' ho hg)
    go_ret
    rw [Nat.zero_add, List.nil_append] at ho
    exact ⟨_, _, rfl, ho, grown_ext hg (Ext.alloc w _) (by simp) (fun q e => by cases e; exact Nat.le_refl _)⟩
end Go.Proofs.YtnfbfdamlnjblaaGreatDoor
