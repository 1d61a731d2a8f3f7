/-
  Slices of strings that a call owns; numbers as decimal text, as the reference writes them.
-/
import Derived.Test.YtnfbfdamlnjblaaGreatDoorApp
import Derived.Lib.ItoaNum
import Derived.Lib.Join
import Derived.BigQuiet
import Derived.Deep.QuietTactic
namespace Go.Proofs.YtnfbfdamlnjblaaGreatDoor
open Go.RowKit

def svs (xs : List ByteArray) : List Value := xs.map Value.string
theorem svs_length (xs : List ByteArray) : (svs xs).length = xs.length := by simp [svs]
theorem svs_one (xs : List ByteArray) : ∀ u ∈ svs xs, u.oneCell' = true := by
  intro u hu
  simp only [svs, List.mem_map] at hu
  obtain ⟨x, _, rfl⟩ := hu
  rfl
theorem svs_get (xs : List ByteArray) (i : Nat) (x : ByteArray) (h : xs[i]? = some x) : (svs xs)[i]? = some (.string x) := by simp [svs, h]
/-- an owned slice of strings, not nil -/
structure OwnS (w : World) (B : Nat) (a : Option Addr) (n c : Nat) (xs : List ByteArray) : Prop where
  row : w.ownsRow B 9 1 (.slice a n c) n (svs xs)
  nn : a ≠ none
theorem OwnS.len {w : World} {B : Nat} {a : Option Addr} {n c : Nat} {xs : List ByteArray} (h : OwnS w B a n c xs) : xs.length = n := by
  have := h.row.1
  simpa [svs_length] using this
theorem OwnS.form {w : World} {B : Nat} {a : Option Addr} {n c : Nat} {xs : List ByteArray} (h : OwnS w B a n c xs) : ∃ g, a = some ⟨g, 0, none⟩ ∧ B ≤ g ∧ g < w.heap.size ∧ n ≤ c ∧ c ≤ maxLen ∧ ∀ j x, xs[j]? = .some x → w.cell? ⟨g, 0 + j, none⟩ = .some (.string x) := by
  rcases h.row.2 with ⟨he, h0⟩ | ⟨g, cap, cur, he, hB, hg, hnc, hcm, hcs, ht⟩
  · simp only [Value.slice.injEq] at he
    exact absurd he.1 h.nn
  · have h2 := h.row
    simp only [Value.slice.injEq, true_and] at he
    obtain ⟨rfl, rfl⟩ := he
    refine ⟨g, rfl, hB, (Array.getElem?_eq_some_iff.1 hg).1, hnc, hcm, fun j x hx => ?_⟩
    have hj : j < xs.length := (List.getElem?_eq_some_iff.1 hx).1
    have h3 := h2.cellAt j (by have := h.len; omega)
    rw [svs_get xs j x hx] at h3
    rw [Nat.zero_add]
    exact h3
theorem OwnS.grown {w w' : World} {B : Nat} {a : Option Addr} {n c : Nat} {xs : List ByteArray} (h : OwnS w B a n c xs) {row : Option Nat} (hg : w.grownBy w' row) (hne : ∀ g o, a = .some ⟨g, o, none⟩ → .some g ≠ row) : OwnS w' B a n c xs := by
  refine ⟨h.row.kept hg ?_, h.nn⟩
  obtain ⟨g, rfl, _⟩ := h.form
  exact .inr (hne g 0 rfl)
theorem OwnS.below {w w' : World} {B : Nat} {a : Option Addr} {n c : Nat} {xs : List ByteArray} (h : OwnS w B a n c xs) (hb : Ext w w') : OwnS w' B a n c xs :=
  h.grown (row := none) ⟨hb.os, hb.tape, hb.output, hb.size, fun k hk _ => hb.block k hk⟩ (by simp)
theorem OwnS.made (w : World) (B : Nat) (hB : B ≤ w.heap.size) : OwnS (w.alloc (.cells #[] 9)) B (.some ⟨w.heap.size, 0, none⟩) 0 0 [] := by
  refine ⟨?_, by simp⟩
  have := World.ownsRow_lit (e := 9) (size := 1) (base := B) w #[] 0 hB (by unfold maxLen; omega) (by simp)
  simpa [svs] using this
theorem Tryz.info9 : (Tryz.prog.info? 9).map (fun i => (i.zero, i.size, i.bytes)) = some (some (.string ⟨#[]⟩), 1, 16) := by kernel_rfl
/-- append of one string -/
theorem wpList_append_str {ops : Array Oper} {rest : List Oper} {o : Oper} {a : Act} {Q : Exit → Act → World → Prop} {w : World} (hgd : o.guard = none) (s x : Operand)
    (ho : o.op = .call { callee := .builtin .append, args := #[s, x], argTypes := #[148, 148] })
    (B : Nat) (av : Option Addr) (nv cv : Nat) (xs : List ByteArray) (hs : a.eval s = .slice av nv cv) (hown : OwnS w B av nv cv xs)
    (g c : Nat) (y : ByteArray) (hx : a.eval x = .slice (some ⟨g, 0, none⟩) 1 c) (hy : w.cell? ⟨g, 0, none⟩ = some (.string y)) (hsm : nv ≤ 1000000000) (hB : B ≤ w.heap.size)
    (h : ∀ a' c' w', OwnS w' B a' (nv + 1) c' (xs ++ [y]) → w.grownBy w' (Value.slice av nv cv).ownBlock → wpList Tryz.prog ops Q rest (a.put o.dst (.slice a' (nv + 1) c')) w') : wpList Tryz.prog ops Q (o :: rest) a w := by
  obtain ⟨i, hi, hz0, hz1, hz2⟩ := info_parts Tryz.info9
  refine wpList_append_own w hgd s x 148 ho B 9 i (.string ⟨#[]⟩) 1 16 Tryz.underlying148 hi hz0 hz1 hz2 rfl (by decide) _ nv (svs xs) hs hown.row ⟨g, 0, none⟩ 1 c (svs [y]) hx (by simp [svs]) ?_ (svs_one [y]) (by unfold maxLen; omega) (by omega) hB ?_
  · intro j u hu
    cases j with
    | zero =>
      simp only [svs, List.map_cons, List.map_nil, List.getElem?_cons_zero, Option.some.injEq] at hu
      subst hu
      rw [add_none]
      exact hy
    | succ j => simp [svs] at hu
  · intro v' w' hr hg _
    rw [show svs xs ++ svs [y] = svs (xs ++ [y]) by simp [svs]] at hr
    rcases hr.2 with ⟨_, h0⟩ | ⟨g', cap, cur, he, _⟩
    · omega
    · subst he
      exact h _ _ w' ⟨hr, by simp⟩ hg
theorem OwnS.ext {w w' : World} {B : Nat} {a : Option Addr} {n c : Nat} {xs : List ByteArray} (h : OwnS w B a n c xs) (hg : w.grownBy w' (Value.slice a n c).ownBlock) {w0 : World} (hb : Ext w0 w) (hB : w0.heap.size ≤ B) : Ext w0 w' := by
  refine Below.grown hb hg hb.size fun k hk => ?_
  obtain ⟨g, rfl, h1, _⟩ := h.form
  simp only [Value.ownBlock, Option.some.injEq] at hk
  omega

/-! ### numbers as text -/
def str (l : List UInt8) : ByteArray := ⟨l.toArray⟩
theorem str_size (l : List UInt8) : (str l).size = l.length := by simp [str, ByteArray.size]
theorem str_append (l m : List UInt8) : str l ++ str m = str (l ++ m) := by
  apply ByteArray.ext
  simp [str]
def decAcc (u : Nat) (s : List UInt8) : List UInt8 := if u = 0 then s else Lib.decDigits u ++ s
theorem decAcc_step (u : Nat) (s : List UInt8) (h : 1 ≤ u) : decAcc (u / 10) (UInt8.ofNat (48 + u % 10) :: s) = decAcc u s := by
  unfold decAcc
  rw [if_neg (show ¬ u = 0 by omega)]
  by_cases h1 : u < 10
  · rw [if_pos (by omega), Lib.decDigits_one h1, Nat.mod_eq_of_lt h1]
    rfl
  · rw [if_neg (by omega)]
    conv => rhs; rw [Lib.decDigits, dif_neg h1]
    rw [List.append_assoc]
    rfl
theorem join_snoc (l : List (List UInt8)) (x sep : List UInt8) (h : l ≠ []) : Lib.join (l ++ [x]) sep = Lib.join l sep ++ sep ++ x := by
  match l, h with
  | y :: r, _ =>
    rw [List.cons_append, Lib.join_cons, Lib.join_cons]
    simp [Lib.joinTail]
end Go.Proofs.YtnfbfdamlnjblaaGreatDoor
