/-
  FnExactFreeAlgebra: for all primes, numbers of letters and of steps the program's FreeAlgebra returns what the reference's returns, in memory of its own.
  No condition.
  Arguments opened: slices of integers, algebras, slices of a word and a number each; what a call that only makes memory leaves readable.
  The program's FreeAlgebra.
  The program's LyndonWords, moebius, LyndonCount.
  The program's lyndonWords.
  Words cut and factored by the program: CutWord, FactorWord.
  The reference's free algebra: FreeAlgebra.
  Example algebras: l7Set, l12Rows, l12Example, exampleBrackets, ExampleAlgebra.
  The program's free algebra of some words: freeAlgebra. Owned slices of maps.
-/
import Derived.Test.YtenlhfimdpcaoaaMb6
import Derived.Deep.LoopGhost
import Derived.Deep.Slices
import Derived.Lib.SmallJoins
import Derived.Carry
import Derived.ChangeSlices
import Derived.ProofKit
import Derived.OpenShut
import Derived.ChangeOld
namespace Go.Proofs.Ytenlhfimdpcaoaa
open Go.RowKit

def mvs (bs : List Nat) : List Value := bs.map fun b => Value.map (some b)
theorem mvs_length (bs : List Nat) : (mvs bs).length = bs.length := by simp [mvs]
theorem mvs_one (bs : List Nat) : ∀ u ∈ mvs bs, u.oneCell' = true := by
  intro u hu
  simp only [mvs, List.mem_map] at hu
  obtain ⟨x, _, rfl⟩ := hu
  rfl
theorem mvs_get (bs : List Nat) (i : Nat) (h : i < bs.length) : (mvs bs)[i]? = some (.map (some (bs.getD i 0))) := by simp [mvs, h, List.getD_eq_getElem?_getD]
/-- an owned slice of maps, not nil -/
structure OwnMs (w : World) (B : Nat) (g n c : Nat) (bs : List Nat) : Prop where
  row : w.ownsRow B 129 1 (.slice (some ⟨g, 0, none⟩) n c) n (mvs bs)
theorem OwnMs.len {w : World} {B g n c : Nat} {bs : List Nat} (h : OwnMs w B g n c bs) : bs.length = n := by
  have := h.row.1
  simpa [mvs_length] using this
theorem OwnMs.form {w : World} {B g n c : Nat} {bs : List Nat} (h : OwnMs w B g n c bs) : B ≤ g ∧ g < w.heap.size ∧ (∃ cur fr, w.heap[g]? = some (.cells cur 129 fr)) ∧ n ≤ c ∧ c ≤ maxLen ∧ ∀ j, j < n → w.cell? ⟨g, j, none⟩ = .some (.map (some (bs.getD j 0))) := by
  rcases h.row.2 with ⟨he, h0⟩ | ⟨g', cap, cur, he, hB, hg, hnc, hcm, hcs, ht⟩
  · simp at he
  · have h2 := h.row
    simp only [Value.slice.injEq, Option.some.injEq, Addr.mk.injEq, and_true, true_and] at he
    obtain ⟨rfl, rfl⟩ := he
    refine ⟨hB, (Array.getElem?_eq_some_iff.1 hg).1, ⟨_, _, hg⟩, hnc, hcm, fun j hj => ?_⟩
    have hl := h.len
    have h3 := h2.cellAt j (by omega)
    rw [mvs_get bs j (by omega)] at h3
    exact h3
theorem OwnMs.grown {w w' : World} {B g n c : Nat} {bs : List Nat} (h : OwnMs w B g n c bs) {row : Option Nat} (hg : w.grownBy w' row) (hne : some g ≠ row) : OwnMs w' B g n c bs :=
  ⟨h.row.kept hg (.inr hne)⟩
theorem OwnMs.below {w w' : World} {B g n c : Nat} {bs : List Nat} (h : OwnMs w B g n c bs) (hb : Ext w w') : OwnMs w' B g n c bs :=
  h.grown (row := none) ⟨hb.os, hb.tape, hb.output, hb.size, fun k hk _ => hb.block k hk⟩ (by simp)
theorem OwnMs.made (w : World) (B : Nat) (hB : B ≤ w.heap.size) : OwnMs (w.alloc (.cells #[] 129)) B w.heap.size 0 0 [] := by
  refine ⟨?_⟩
  have := World.ownsRow_lit (e := 129) (size := 1) (base := B) w #[] 0 hB (by unfold maxLen; omega) (by simp)
  simpa [mvs] using this
theorem Try.info129 : (Try.prog.info? 129).map (fun i => (i.zero, i.size, i.bytes)) = some (some (.map none), 1, 8) := by kernel_rfl
/-- append of one map -/
theorem wpList_append_map {ops : Array Oper} {rest : List Oper} {o : Oper} {a : Act} {Q : Exit → Act → World → Prop} {w : World} (hgd : o.guard = none) (s x : Operand)
    (ho : o.op = .call { callee := .builtin .append, args := #[s, x], argTypes := #[127, 127] })
    (B : Nat) (gv nv cv : Nat) (bs : List Nat) (hs : a.eval s = .slice (some ⟨gv, 0, none⟩) nv cv) (hown : OwnMs w B gv nv cv bs)
    (g c : Nat) (y : Nat) (hx : a.eval x = .slice (some ⟨g, 0, none⟩) 1 c) (hy : w.cell? ⟨g, 0, none⟩ = some (.map (some y))) (hsm : nv ≤ 1000000000) (hB : B ≤ w.heap.size)
    (h : ∀ g' c' w', OwnMs w' B g' (nv + 1) c' (bs ++ [y]) → w.grownBy w' (some gv) → (g' = gv ∨ w.heap.size ≤ g') → wpList Try.prog ops Q rest (a.put o.dst (.slice (some ⟨g', 0, none⟩) (nv + 1) c')) w') : wpList Try.prog ops Q (o :: rest) a w := by
  obtain ⟨i, hi, hz0, hz1, hz2⟩ := info_parts Try.info129
  have hcells : ∀ j u, (mvs [y])[j]? = some u → w.cell? ((⟨g, 0, none⟩ : Addr).add j) = some u := by
    intro j u hu
    cases j with
    | zero =>
      simp only [mvs, List.map_cons, List.map_nil, List.getElem?_cons_zero, Option.some.injEq] at hu
      subst hu
      rw [add_none]
      exact hy
    | succ j => simp [mvs] at hu
  obtain ⟨hgB, hgl, _, hnc, hcm, _⟩ := hown.form
  have hap : mvs bs ++ mvs [y] = mvs (bs ++ [y]) := by simp [mvs]
  by_cases hroom : nv + 1 ≤ cv
  · refine wpList_append_fits w hgd s x 127 ho B 129 i 1 Try.underlying127 hi hz1 gv nv cv (mvs bs) hs hown.row ⟨g, 0, none⟩ 1 c (mvs [y]) hx (by simp [mvs]) hcells (mvs_one [y]) hroom ?_
    intro w' hr hg
    rw [hap] at hr
    exact h _ _ w' ⟨hr⟩ hg (.inl rfl)
  · have hlx := hown.row.1
    refine wpList_append_grows w hgd s x 127 ho 129 i (.map none) 1 8 Try.underlying127 hi hz0 hz1 hz2 rfl (by decide) (some ⟨gv, 0, none⟩) nv cv (mvs bs) hs (fun e => by cases e) hlx ?_ ⟨g, 0, none⟩ 1 c (mvs [y]) hx (by simp [mvs]) hcells (mvs_one [y]) (by omega) (by unfold maxLen; omega) (by omega) ?_
    · intro b e1 j u hu
      simp only [Option.some.injEq] at e1
      subst e1
      have hj : j < nv * 1 := by have := (List.getElem?_eq_some_iff.1 hu).1; rwa [hlx] at this
      rw [add_none, Nat.zero_add, hown.row.cellAt j hj]
      exact hu
    · intro v' w' hr hg0
      rw [hap] at hr
      have hg : w.grownBy w' (some gv) := ⟨hg0.os, hg0.tape, hg0.output, hg0.size, fun k hk _ => hg0.block k hk (by simp)⟩
      rcases hr.2 with ⟨_, h0⟩ | ⟨g', cap, cur, he, hB', r⟩
      · omega
      · subst he
        exact h g' cap w' ⟨⟨hr.1, .inr ⟨g', cap, cur, rfl, Nat.le_trans hB hB', r⟩⟩⟩ hg (.inr hB')
/-- the boxes' cells: p, words, steps, the variable of the places -/
structure FreC (w : World) (H : Nat) (p : Int) (av : Option Addr) (nv cv n : Nat) : Prop where
  c0 : w.cell? ⟨H, 0, none⟩ = some (.int .i64 p)
  c1 : w.cell? ⟨H + 1, 0, none⟩ = some (.slice av nv cv)
  c2 : w.cell? ⟨H + 2, 0, none⟩ = some (.int .i64 (n : Int))
  res : AlgAt w (H + 3) 0 0 none 0 0
  resf : ∀ j, w.frozen? ⟨H + 3, j, none⟩ = false
  c7 : w.cell? ⟨H + 7, 0, none⟩ = some (.map (some (H + 6)))
theorem FreC.kept {w w' : World} {H : Nat} {p : Int} {av : Option Addr} {nv cv n : Nat} (h : FreC w H p av nv cv n) {row : Option Nat} (hg : w.grownBy w' row) (hr : ∀ b, row = some b → b = H + 4 ∨ b = H + 5 ∨ b = H + 6 ∨ H + 8 ≤ b) : FreC w' H p av nv cv n := by
  have key : ∀ b j v, (b = H ∨ b = H + 1 ∨ b = H + 2 ∨ b = H + 3 ∨ b = H + 7) → w.cell? ⟨b, j, none⟩ = some v → w'.cell? ⟨b, j, none⟩ = some v := fun b j v hb hc =>
    (World.cell?_of_block (a := ⟨b, j, none⟩) (hg.block b (World.block_lt_of_cell? w _ hc) (fun e => by have := hr b e.symm; omega))).trans hc
  have hl : H + 3 < w.heap.size := World.block_lt_of_cell? w _ h.res.c0
  refine ⟨key _ _ _ (by omega) h.c0, key _ _ _ (by omega) h.c1, key _ _ _ (by omega) h.c2, ⟨key _ _ _ (by omega) h.res.c0, key _ _ _ (by omega) h.res.c1, key _ _ _ (by omega) h.res.c2⟩, fun j => ?_, key _ _ _ (by omega) h.c7⟩
  have hb := hg.block (H + 3) hl (fun e => by have := hr _ e.symm; omega)
  rw [World.frozen?_of_block hb]
  exact h.resf j
theorem words_let {L : Nat} (hL : 0 < L) : ∀ n, ∀ x ∈ wordsZ L n, ∀ y ∈ x, 0 ≤ y ∧ y < L
  | 0, x, h => by cases h
  | n + 1, x, h => by
    have h : x ∈ wordsZ L n ++ lynTo L (n + 1) (L ^ (n + 1)) := h
    rcases List.mem_append.1 h with h | h
    · exact words_let hL n x h
    · exact (lynTo_mem hL x h).2.2
theorem words_word {L n k : Nat} (hL : 0 < L) (hk : k < (wordsZ L n).length) : WordF L ((wordsZ L n).getD k []).length ((wordsZ L n).getD k []) :=
  ⟨rfl, words_let hL n _ (by rw [List.getD_eq_getElem?_getD, List.getElem?_eq_getElem hk]; exact List.getElem_mem hk)⟩
/-- where the loop stands: k sums and places are made -/
structure FreY (w0 w : World) (p : Int) (L n : Nat) (av : Option Addr) (nv cv k : Nat) : Prop where
  con : FreC w w0.heap.size p av nv cv n
  fr5 : w.frozen? ⟨w0.heap.size + 5, 0, none⟩ = false
  st : ∃ (g sc m : Nat) (bs : List Nat) (fi : ByteArray → Option Value), w.cell? ⟨w0.heap.size + 5, 0, none⟩ = some (.slice (some ⟨g, 0, none⟩) k sc) ∧ OwnMs w w0.heap.size g k sc bs ∧ (g = w0.heap.size + 4 ∨ w0.heap.size + 8 ≤ g) ∧
    (∀ q, q < k → w0.heap.size + 8 ≤ bs.getD q 0 ∧ ∃ mm f, FreM w (bs.getD q 0) mm L ((wordsZ L n).getD q []).length p (gM p (frS L n q)) f) ∧
    MapS w Try.prog 9 (w0.heap.size + 6) m fi ∧ m ≤ k ∧ (∀ q, q < k → fi (keyF ((wordsZ L n).getD q [])) = some (.int .i64 (q : Int)))
  ext : Ext w0 w
theorem freY_start (w : World) (p : Int) (L n : Nat) (av : Option Addr) (nv cv : Nat) : FreY w ((((((((w.alloc (.cells #[.int .i64 p] 3)).alloc (.cells #[.slice av nv cv] 73)).alloc (.cells #[.int .i64 (n : Int)] 3)).alloc (.cells #[.int .i64 0, .int .i64 0, .slice none 0 0] 24)).alloc (.cells #[] 129)).alloc
    (.cells #[.slice (some ⟨w.heap.size + 1 + 1 + 1 + 1, 0, none⟩) 0 0] 127)).alloc (.map #[] 0)).alloc (.cells #[.map (some (w.heap.size + 1 + 1 + 1 + 1 + 1 + 1))] 128)) p L n av nv cv 0 := by
  obtain ⟨w1, h1⟩ : ∃ w1, w1 = w.alloc (.cells #[.int .i64 p] 3) := ⟨_, rfl⟩
  obtain ⟨w2, h2⟩ : ∃ x : World, x = w1.alloc (.cells #[.slice av nv cv] 73) := ⟨_, rfl⟩
  obtain ⟨w3, h3⟩ : ∃ x : World, x = w2.alloc (.cells #[.int .i64 (n : Int)] 3) := ⟨_, rfl⟩
  obtain ⟨w4, h4⟩ : ∃ x : World, x = w3.alloc (.cells #[.int .i64 0, .int .i64 0, .slice none 0 0] 24) := ⟨_, rfl⟩
  obtain ⟨w5, h5⟩ : ∃ x : World, x = w4.alloc (.cells #[] 129) := ⟨_, rfl⟩
  obtain ⟨w6, h6⟩ : ∃ x : World, x = w5.alloc (.cells #[.slice (some ⟨w.heap.size + 1 + 1 + 1 + 1, 0, none⟩) 0 0] 127) := ⟨_, rfl⟩
  obtain ⟨w7, h7⟩ : ∃ x : World, x = w6.alloc (.map #[] 0) := ⟨_, rfl⟩
  obtain ⟨w8, h8⟩ : ∃ x : World, x = w7.alloc (.cells #[.map (some (w.heap.size + 1 + 1 + 1 + 1 + 1 + 1))] 128) := ⟨_, rfl⟩
  rw [← h1, ← h2, ← h3, ← h4, ← h5, ← h6, ← h7, ← h8]
  have s1 : w1.heap.size = w.heap.size + 1 := by rw [h1]; simp
  have s2 : w2.heap.size = w.heap.size + 2 := by rw [h2]; simp [s1]
  have s3 : w3.heap.size = w.heap.size + 3 := by rw [h3]; simp [s2]
  have s4 : w4.heap.size = w.heap.size + 4 := by rw [h4]; simp [s3]
  have s5 : w5.heap.size = w.heap.size + 5 := by rw [h5]; simp [s4]
  have s6 : w6.heap.size = w.heap.size + 6 := by rw [h6]; simp [s5]
  have s7 : w7.heap.size = w.heap.size + 7 := by rw [h7]; simp [s6]
  have x7 : Ext w7 w8 := by rw [h8]; exact Ext.alloc _ _
  have x6 : Ext w6 w8 := Ext.trans (by rw [h7]; exact Ext.alloc _ _) x7
  have x5 : Ext w5 w8 := Ext.trans (by rw [h6]; exact Ext.alloc _ _) x6
  have x4 : Ext w4 w8 := Ext.trans (by rw [h5]; exact Ext.alloc _ _) x5
  have x3 : Ext w3 w8 := Ext.trans (by rw [h4]; exact Ext.alloc _ _) x4
  have x2 : Ext w2 w8 := Ext.trans (by rw [h3]; exact Ext.alloc _ _) x3
  have x1 : Ext w1 w8 := Ext.trans (by rw [h2]; exact Ext.alloc _ _) x2
  have x0 : Ext w w8 := Ext.trans (by rw [h1]; exact Ext.alloc _ _) x1
  have x8 : Ext w8 w8 := Ext.refl _
  have key : ∀ (wa wb : World) (cs : Array Value) (E : TypeId) (k j : Nat) (v : Value), wb = wa.alloc (.cells cs E) → wa.heap.size = k → Ext wb w8 → cs[j]? = some v → w8.cell? ⟨k, j, none⟩ = some v := by
    intro wa wb cs E k j v e hk hx hc
    subst hk
    refine (hx.cell (p := ⟨wa.heap.size, j, none⟩) (by rw [e]; simp)).trans ?_
    rw [e]
    exact (cell_top _ _ _ _ _ rfl).trans hc
  have keyf : ∀ (wa wb : World) (cs : Array Value) (E : TypeId) (k j : Nat), wb = wa.alloc (.cells cs E) → wa.heap.size = k → Ext wb w8 → w8.frozen? ⟨k, j, none⟩ = false := by
    intro wa wb cs E k j e hk hx
    subst hk
    rw [hx.frozen (p := ⟨wa.heap.size, j, none⟩) (by rw [e]; simp), e]
    exact frozen_top _ _ _ _ _ rfl
  refine ⟨⟨key _ _ _ _ _ 0 _ h1 rfl x1 rfl, key _ _ _ _ _ 0 _ h2 s1 x2 rfl, key _ _ _ _ _ 0 _ h3 s2 x3 rfl, ⟨key _ _ _ _ _ 0 _ h4 s3 x4 rfl, key _ _ _ _ _ 1 _ h4 s3 x4 rfl, key _ _ _ _ _ 2 _ h4 s3 x4 rfl⟩, fun j => keyf _ _ _ _ _ j h4 s3 x4, key _ _ _ _ _ 0 _ h8 s7 x8 rfl⟩, keyf _ _ _ _ _ 0 h6 s5 x6, ?_, x0⟩
  refine ⟨w.heap.size + 4, 0, 0, [], fun _ => none, key _ _ _ _ _ 0 _ h6 s5 x6 rfl, ?_, .inl rfl, fun q hq => by omega, ?_, Nat.le_refl _, fun q hq => by omega⟩
  · have := OwnMs.made w4 w.heap.size (by omega)
    rw [← h5, s4] at this
    exact this.below x5
  · have := MapS.made w6 Try.prog 9
    rw [← h7, s6] at this
    exact this.below x7
theorem callFunc_freeTab (args : Array Value) (w : World) : Sem.run Try.prog (callFunc 121 args) w = .ok (.enter 121 args) w := by
  kernel_rfl
set_option maxRecDepth 100000 in
set_option maxHeartbeats 8000000 in
theorem freeAlg_any (p : Int) (L n : Nat) (av : Option Addr) (nv cv : Nat) (B U : Nat) (hv : List Hdr) (w : World) (hw : OwnK rowK w B U av nv cv hv (wordsZ L n)) (hpp : primeB p = true) (hL0 : 0 < L) (hL : L ≤ 4) (hn : n ≤ 8) (hN : nv ≤ 28) (hF : FreeOk L n) :
    Calls Try.prog 58 #[.int .i64 p, .slice av nv cv, .int .i64 (n : Int)] w fun e w' => ∃ a, e = .returned (algV p (nv : Int) a (nv * nv * nv) (nv * nv * nv)) ∧ OwnI w' w.heap.size a (nv * nv * nv) (nv * nv * nv) (frTab p L n) ∧ Ext w w' := by
  have hmm := @run_makeMap Try.prog
  obtain ⟨hp, hp2⟩ := prime_bounds hpp
  have HW := hidP hw
  have hxl := hw.xl
  have HXl := hidP hxl
  have HF := hidP hF
  clear hw hF hxl
  go_enter Try.func58, Try.ntmps58
  have HY0 := hidP (freY_start w p L n av nv cv)
  go_wp2
  obtain ⟨wz, hwz⟩ : ∃ wz, wz = ((((((((w.alloc (.cells #[.int .i64 p] 3)).alloc (.cells #[.slice av nv cv] 73)).alloc (.cells #[.int .i64 (n : Int)] 3)).alloc (.cells #[.int .i64 0, .int .i64 0, .slice none 0 0] 24)).alloc (.cells #[] 129)).alloc
    (.cells #[.slice (some ⟨w.heap.size + 1 + 1 + 1 + 1, 0, none⟩) 0 0] 127)).alloc (.map #[] 0)).alloc (.cells #[.map (some (w.heap.size + 1 + 1 + 1 + 1 + 1 + 1))] 128)) := ⟨_, rfl⟩
  rw [← hwz] at HY0 ⊢
  clear hwz
  rw [show w.heap.size + 1 + 1 + 1 + 1 + 1 + 1 + 1 = w.heap.size + 7 from rfl, show w.heap.size + 1 + 1 + 1 + 1 + 1 + 1 = w.heap.size + 6 from rfl, show w.heap.size + 1 + 1 + 1 + 1 + 1 = w.heap.size + 5 from rfl, show w.heap.size + 1 + 1 + 1 + 1 = w.heap.size + 4 from rfl, show w.heap.size + 1 + 1 + 1 = w.heap.size + 3 from rfl, show w.heap.size + 1 + 1 = w.heap.size + 2 from rfl]
  obtain ⟨H, hH⟩ : ∃ H, H = w.heap.size := ⟨_, rfl⟩
  rw [← hH]
  have HH := hidP hH
  clear hH
  go_loopw [15] (fun v15 wr => ∃ k : Nat, k ≤ nv ∧ v15 = .int .i64 k ∧ Hid (FreY w wr p L n av nv cv k)) (fun v15 _ => nv - (intOf v15).toNat)
  case atStart => exact ⟨0, Nat.zero_le _, rfl, HY0⟩
  case round =>
    clear HY0
    obtain ⟨k, hk, rfl, HY⟩ := hrel
    by_cases hkn : k < nv
    · have hwk := words_at (L := L) (n := n) (k := k) hL0 (by rw [HXl.out]; exact hkn)
      have hww := words_word (L := L) (n := n) (k := k) hL0 (by rw [HXl.out]; exact hkn)
      obtain ⟨gv, bv, cw, rfl, hoW, hc1, hc2, hcW0⟩ := HW.out.rowAt k hkn (by omega)
      have hcW := (HY.out.ext.cell (p := ⟨gv, k, none⟩) (World.block_lt_of_cell? w _ hcW0)).trans hcW0
      obtain ⟨hcon, hfr5, ⟨g, sc, m, bs, fi, hs5, hms, hgg, hsum, hidx, hmk, hat⟩, hext⟩ := HY.out
      rw [← HH.out] at hcon hfr5 hs5 hms hgg hsum hidx
      have HLs : Hid (∀ w', Ext w w' → Calls Try.prog 118 #[.slice (some ⟨bv, 0, none⟩) ((wordsZ L n).getD k []).length cw, .int .i64 p] w' (LsRes w' L ((wordsZ L n).getD k []).length p (frS L n k))) := fun w' hx => letterSum_any p hp hp2 L hL 8 bv 0 _ cw _ w' (hoW.ints.below hx) hww hc1 hc2 hwk.1 (by omega) (by omega)
      have HLk : Hid (∀ w', Ext w w' → Calls Try.prog 119 #[.slice (some ⟨bv, 0, none⟩) ((wordsZ L n).getD k []).length cw] w' fun e w'' => e = .returned (.string (keyF ((wordsZ L n).getD k []))) ∧ Ext w' w'') := fun w' hx => letterKey_any _ _ cw _ w' (hoW.ints.below hx) (fun z hz => by have := hww.let_ z hz; omega) (by omega)
      have hb5 := World.block_lt_of_cell? wr _ hs5
      have HF5 := hidP (fun w' (hx : Ext wr w') => (⟨(hx.cell (p := ⟨H + 5, 0, none⟩) hb5).trans hs5, (hx.cell (p := ⟨H, 0, none⟩) (World.block_lt_of_cell? wr _ hcon.c0)).trans hcon.c0⟩ : _ ∧ _))
      have HZ5 := hidP (fun w' (hx : Ext wr w') => (hx.frozen (p := ⟨H + 5, 0, none⟩) hb5).trans hfr5)
      have HCon := hidP hcon
      have HMs := hidP hms
      have HGg := hidP hgg
      have HSum := hidP hsum
      have HIdx := hidP hidx
      have HMk := hidP hmk
      have HAt := hidP hat
      have HEx := hidP hext
      have hkI : (k : Int) < (nv : Int) := by omega
      have hks : (keyF ((wordsZ L n).getD k [])).size ≤ maxLen := by rw [keyF_size]; unfold maxLen; omega
      have HWw := hidP hww
      generalize hWd : (wordsZ L n).getD k [] = W at *
      have HWd := hidP hWd
      have HB5 : Hid (H + 8 ≤ wr.heap.size) := by
        have h1 : H + 7 < wr.heap.size := World.block_lt_of_cell? wr _ hcon.c7
        show _ ≤ _
        omega
      clear hcon hfr5 hs5 hms hgg hsum hidx hmk hat hext hb5 hoW HY hWd hww hcW0
      have hE : Ext wr wr.drew := Ext.drew wr
      go_wp2
      (refine walkR_start (fun w' => Ext wr w') 5 (by kernel_rfl) ?_; simp only [numbered, List.take_succ_cons, List.take_zero, Nat.zero_add, Nat.reduceAdd, List.length_cons, List.length_nil])
      (repeat (first | (refine walkR_still (v := ?_) rfl (by decide +kernel) rfl (fun _ _ _ h => h) hE ?_ ?_; rotate_left; (focus (intro w' hw'; obtain ⟨f5, f0⟩ := HF5.out w' hw'; go_simp; all_goals (with_reducible rfl))); simp only [Act.put, List.setIfInBounds_toArray, List.set_cons_zero, List.set_cons_succ]) | (refine walkR_skip rfl (by decide +kernel) rfl (fun _ _ _ h => h) hE ?_; simp only [Act.put, List.setIfInBounds_toArray, List.set_cons_zero, List.set_cons_succ])))
      (refine walkR_only (fun w' => Ext wr w') rfl (by decide +kernel) rfl (fun _ h => h) ?_; intro K hK; go_simp; refine (HLs.out _ (HEx.out.trans hE)).mono ?_; rintro e w2 ⟨b2, m2, f2, rfl, hF2, hm2, hb2, hx2⟩; refine hK _ _ (hE.trans hx2) ?_; clear hK K; (try simp only [Act.put, List.setIfInBounds_toArray, List.set_cons_zero, List.set_cons_succ]))
      have hE2 := hE.trans hx2
      (repeat (first | (refine walkR_still (v := ?_) rfl (by decide +kernel) rfl (fun _ _ _ h => h) hE2 ?_ ?_; rotate_left; (focus (intro w' hw'; skip; go_simp; all_goals (with_reducible rfl))); simp only [Act.put, List.setIfInBounds_toArray, List.set_cons_zero, List.set_cons_succ]) | (refine walkR_skip rfl (by decide +kernel) rfl (fun _ _ _ h => h) hE2 ?_; simp only [Act.put, List.setIfInBounds_toArray, List.set_cons_zero, List.set_cons_succ])))
      (refine walkR_only (fun w' => Ext wr w') rfl (by decide +kernel) rfl ?_ ?_)
      · exact fun _ h => h
      intro K' hK'
      go_simp
      refine hK' _ _ (hE2.trans (Ext.alloc w2 (.cells #[.map (some b2)] 129))) ?_
      clear hK' K'
      (try simp only [Act.put, List.setIfInBounds_toArray, List.set_cons_zero, List.set_cons_succ])
      (refine walkR_tail (by rfl) (by kernel_rfl) ?_; simp only [List.drop_succ_cons, List.drop_zero])
      have hxa := hE2.trans (Ext.alloc w2 (.cells #[.map (some b2)] 129))
      have HMa := hidP (HMs.out.below hxa)
      have HXa := hidP hxa
      have HCe : Hid ((w2.alloc (.cells #[.map (some b2)] 129)).cell? ⟨w2.heap.size, 0, none⟩ = some (.map (some b2))) := (cell_top _ _ _ _ _ rfl).trans rfl
      have HF2 := hidP (hF2.below (Ext.alloc w2 (.cells #[.map (some b2)] 129)))
      have HB2 : Hid (H + 8 ≤ b2) := Nat.le_trans HB5.out (Nat.le_trans hE.size hb2)
      have HSz : Hid (H ≤ (w2.alloc (.cells #[.map (some b2)] 129)).heap.size) := by
        have h1 := hxa.size
        have h2 := HB5.out
        show _ ≤ _
        omega
      have HL5 : Hid (H + 5 < (w2.alloc (.cells #[.map (some b2)] 129)).heap.size) := by
        have h1 := hxa.size
        have h2 := HB5.out
        show _ < _
        omega
      have HN5' : Hid (some (H + 5) ≠ some g) := by
        have := HGg.out
        show _ ≠ _
        simp
        omega
      clear hF2 hm2 hb2 hx2 hE2 hE hxa HLs HMs
      go_wp2_with (at_builtin; refine wpList_append_map rfl (.tmp 20) (.tmp 24) rfl H g k sc bs rfl HMa.out w2.heap.size 1 b2 rfl HCe.out (by omega) HSz.out ?_; intro g5 c5 w5 ho5 hg5 hn5; have HO5 := hidP ho5; have HG5 := hidP hg5; have HN5 := hidP hn5; have hc5 := (World.cell?_of_block (a := ⟨H + 5, 0, none⟩) (hg5.block (H + 5) HL5.out HN5'.out)).trans (HF5.out _ HXa.out).1; have hz5 := (World.frozen?_of_block (hg5.block (H + 5) HL5.out HN5'.out)).trans (HZ5.out _ HXa.out); clear ho5 hg5 hn5)
      have hgs : w5.grownBy (w5.setCell ⟨H + 5, 0, none⟩ (.slice (some ⟨g5, 0, none⟩) (k + 1) c5)) (some (H + 5)) := ⟨rfl, rfl, rfl, by simp [World.setCell], fun k _ hk => Below.heap_setCell _ _ _ _ (fun e => hk (by rw [e]))⟩
      have hcs : (w5.setCell ⟨H + 5, 0, none⟩ (.slice (some ⟨g5, 0, none⟩) (k + 1) c5)).cell? ⟨H + 5, 0, none⟩ = some (.slice (some ⟨g5, 0, none⟩) (k + 1) c5) := World.cell?_setCell_same _ _ _ hc5
      have hzs : (w5.setCell ⟨H + 5, 0, none⟩ (.slice (some ⟨g5, 0, none⟩) (k + 1) c5)).frozen? ⟨H + 5, 0, none⟩ = false := by rw [World.frozen?_setCell]; exact hz5
      have HEx5 : Hid (Ext w (w5.setCell ⟨H + 5, 0, none⟩ (.slice (some ⟨g5, 0, none⟩) (k + 1) c5))) :=
        ext_past (ext_past (HEx.out.trans HXa.out) HG5.out (by have := HH.out; have := HGg.out; omega)) hgs (by have := HH.out; omega)
      have HCon5 := hidP (((HCon.out.kept (row := none) ⟨HXa.out.os, HXa.out.tape, HXa.out.output, HXa.out.size, fun k hk _ => HXa.out.block k hk⟩ (by simp)).kept HG5.out (fun b e => by cases e; have := HGg.out; omega)).kept hgs (fun b e => by cases e; omega))
      have hg8 : g5 = H + 4 ∨ H + 8 ≤ g5 := by
        have h1 := HN5.out
        have h2 := HGg.out
        have h3 := HXa.out.size
        have h4 := HB5.out
        omega
      have HMs5 := hidP (HO5.out.grown hgs (by simp; omega))
      have HIdx5 := hidP (((HIdx.out.below HXa.out).kept HG5.out (by have := HGg.out; simp; omega)).kept hgs (by simp))
      obtain ⟨_, _, ⟨cur, fr, hcur⟩, _⟩ := HMa.out.form
      have hmap : ∀ b mm L l p f g', FreM (w2.alloc (.cells #[.map (some b2)] 129)) b mm L l p g' f → some b ≠ some g := by
        intro b mm L l p f g' h e
        obtain ⟨es, clock, hm⟩ := h.map.isMap
        cases e
        rw [hcur] at hm
        cases hm
      have HSum5 : Hid (∀ q, q < k + 1 → H + 8 ≤ (bs ++ [b2]).getD q 0 ∧ ∃ mm f, FreM (w5.setCell ⟨H + 5, 0, none⟩ (.slice (some ⟨g5, 0, none⟩) (k + 1) c5)) ((bs ++ [b2]).getD q 0) mm L ((wordsZ L n).getD q []).length p (gM p (frS L n q)) f) := by
        intro q hq
        have hbl : bs.length = k := HMa.out.len
        by_cases hqk : q < k
        · obtain ⟨h1, mm, f, h2⟩ := HSum.out q hqk
          have e : (bs ++ [b2]).getD q 0 = bs.getD q 0 := by rw [List.getD_eq_getElem?_getD, List.getElem?_append_left (by omega), ← List.getD_eq_getElem?_getD]
          rw [e]
          exact ⟨h1, mm, f, ((h2.below HXa.out).kept HG5.out (hmap _ _ _ _ _ _ _ (h2.below HXa.out))).kept hgs (fun e => by simp only [Option.some.injEq] at e; omega)⟩
        · obtain rfl : q = k := by omega
          have e : (bs ++ [b2]).getD q 0 = b2 := by rw [List.getD_eq_getElem?_getD, List.getElem?_append_right (by omega), hbl]; simp
          rw [e, HWd.out]
          exact ⟨HB2.out, m2, f2, (HF2.out.kept HG5.out (hmap _ _ _ _ _ _ _ HF2.out)).kept hgs (by have := HB2.out; simp; omega)⟩
      have HG8 := hidP hg8
      have HCs := hidP hcs
      have HZs := hidP hzs
      obtain ⟨w6, hw6⟩ : ∃ w6, w6 = w5.setCell ⟨H + 5, 0, none⟩ (.slice (some ⟨g5, 0, none⟩) (k + 1) c5) := ⟨_, rfl⟩
      rw [← hw6] at HEx5 HCon5 HMs5 HIdx5 HSum5 HCs HZs ⊢
      clear hgs hcs hzs hg8 hcur hmap hw6 hc5 hz5 HO5 HG5 HN5 HCon HMa HIdx HSum HF2 HXa HEx HF5 HZ5 HCe HSz HL5 HN5'
      have HF7 := hidP (fun w' (hx : Ext w6 w') => (hx.cell (p := ⟨H + 7, 0, none⟩) (World.block_lt_of_cell? w6 _ HCon5.out.c7)).trans HCon5.out.c7)
      have hE : Ext w6 w6.drew := Ext.drew w6
      (refine walkR_start (fun w' => Ext w6 w') 4 (by kernel_rfl) ?_; simp only [numbered, List.take_succ_cons, List.take_zero, Nat.zero_add, Nat.reduceAdd, List.length_cons, List.length_nil])
      (repeat (first | (refine walkR_still (v := ?_) rfl (by decide +kernel) rfl (fun _ _ _ h => h) hE ?_ ?_; rotate_left; (focus (intro w' hw'; have f7 := HF7.out w' hw'; go_simp; all_goals (with_reducible rfl))); simp only [Act.put, List.setIfInBounds_toArray, List.set_cons_zero, List.set_cons_succ]) | (refine walkR_skip rfl (by decide +kernel) rfl (fun _ _ _ h => h) hE ?_; simp only [Act.put, List.setIfInBounds_toArray, List.set_cons_zero, List.set_cons_succ])))
      (refine walkR_later ?_; simp only [List.cons_append, List.nil_append])
      (repeat (first | (refine walkR_still (v := ?_) rfl (by decide +kernel) rfl (fun _ _ _ h => h) hE ?_ ?_; rotate_left; (focus (intro w' hw'; skip; go_simp; all_goals (with_reducible rfl))); simp only [Act.put, List.setIfInBounds_toArray, List.set_cons_zero, List.set_cons_succ]) | (refine walkR_skip rfl (by decide +kernel) rfl (fun _ _ _ h => h) hE ?_; simp only [Act.put, List.setIfInBounds_toArray, List.set_cons_zero, List.set_cons_succ])))
      (refine walkR_only (fun w' => Ext w6 w') rfl (by decide +kernel) rfl (fun _ h => h) ?_; intro K hK; go_simp; refine (HLk.out _ (HEx5.out.trans hE)).mono ?_; rintro e w7 ⟨rfl, hx7⟩; refine hK _ _ (hE.trans hx7) ?_; clear hK K; (try simp only [Act.put, List.setIfInBounds_toArray, List.set_cons_zero, List.set_cons_succ]))
      have hE7 := hE.trans hx7
      (repeat (first | (refine walkR_still (v := ?_) rfl (by decide +kernel) rfl (fun _ _ _ h => h) hE7 ?_ ?_; rotate_left; (focus (intro w' hw'; skip; go_simp; all_goals (with_reducible rfl))); simp only [Act.put, List.setIfInBounds_toArray, List.set_cons_zero, List.set_cons_succ]) | (refine walkR_skip rfl (by decide +kernel) rfl (fun _ _ _ h => h) hE7 ?_; simp only [Act.put, List.setIfInBounds_toArray, List.set_cons_zero, List.set_cons_succ])))
      (refine walkR_tail (by rfl) (by kernel_rfl) ?_; simp only [List.drop_succ_cons, List.drop_zero])
      have HCon7 := hidP (HCon5.out.kept (row := none) ⟨hE7.os, hE7.tape, hE7.output, hE7.size, fun k hk _ => hE7.block k hk⟩ (by simp))
      have HMs7 := hidP (HMs5.out.below hE7)
      have HIdx7 := hidP (HIdx5.out.below hE7)
      have HX7 := hidP hE7
      have HMb : Hid (m < maxLen) := by
        have := HMk.out
        show m < _
        unfold maxLen
        omega
      clear HCon5 HMs5 HIdx5 hx7 hE hE7 HF7 HLk
      go_wp2_with (first | (at_mapUpdate; refine wpList_updateS _ rfl _ _ _ 128 9 3 rfl Try.underlying9 Try.underlying128 (H + 6) m fi rfl HIdx7.out HMb.out (keyF W) rfl hks (.int .i64 (k : Int)) rfl ?_; intro w8 hm8 hg8; have HM8 := hidP hm8; have HG9 := hidP hg8; clear hm8 hg8) | fail)
      have hl5 : H + 5 < w6.heap.size := World.block_lt_of_cell? w6 _ HCs.out
      have hl57 : H + 5 < w7.heap.size := Nat.lt_of_lt_of_le hl5 HX7.out.size
      have hb5 : w8.heap[H + 5]? = w7.heap[H + 5]? := HG9.out.block (H + 5) hl57 (by simp)
      have HY8 : Hid (FreY w w8 p L n (some ⟨gv, 0, none⟩) nv cv (k + 1)) := by
        refine ⟨?_, ?_, ⟨g5, c5, m + 1, bs ++ [b2], putF fi (keyF W) (.int .i64 (k : Int)), ?_, ?_, ?_, ?_, ?_, ?_, ?_⟩, ?_⟩
        · rw [← HH.out]
          exact HCon7.out.kept HG9.out (fun b e => by cases e; omega)
        · rw [← HH.out, World.frozen?_of_block hb5]
          exact (HX7.out.frozen (p := ⟨H + 5, 0, none⟩) hl5).trans HZs.out
        · rw [← HH.out]
          exact (World.cell?_of_block (a := ⟨H + 5, 0, none⟩) hb5).trans ((HX7.out.cell (p := ⟨H + 5, 0, none⟩) hl5).trans HCs.out)
        · rw [← HH.out]
          exact HMs7.out.grown HG9.out (fun e => by have := HG8.out; simp only [Option.some.injEq] at e; omega)
        · rw [← HH.out]
          exact HG8.out
        · intro q hq
          obtain ⟨h1, mm, f, h2⟩ := HSum5.out q hq
          rw [← HH.out]
          exact ⟨h1, mm, f, (h2.below HX7.out).kept HG9.out (fun e => by simp only [Option.some.injEq] at e; omega)⟩
        · rw [← HH.out]
          exact HM8.out
        · have := HMk.out
          omega
        · intro q hq
          unfold putF
          by_cases hqk : q < k
          · rw [if_neg, HAt.out q hqk]
            intro e
            have hwq := words_word (L := L) (n := n) (k := q) hL0 (by rw [HXl.out]; omega)
            have hb := HF.out.lead.inc q k hqk (by rw [HXl.out]; exact hkn)
            have hb : Before ((wordsZ L n).getD q []) ((wordsZ L n).getD k []) := hb
            rw [HWd.out, keyF_inj hL hwq HWw.out e] at hb
            exact before_ord.irr _ hb
          · obtain rfl : q = k := by omega
            rw [HWd.out, if_pos rfl]
        · exact ext_past (HEx5.out.trans HX7.out) HG9.out (by have := HH.out; omega)
      clear HM8 HG9 hl5 hl57 hb5 HCon7 HMs7 HIdx7 HX7 HSum5 HCs HZs
      go_roundw
      case rel => exact ⟨k + 1, by omega, by go_num, HY8⟩
      case measure => simp [intOf]; omega
    · obtain rfl : k = nv := by omega
      have hX : ∃ gs sc m ms fi, FreX wr (w.heap.size + 1) (w.heap.size + 2) (w.heap.size + 5) w.heap.size (w.heap.size + 7) p L n av cv gs sc (w.heap.size + 6) m ms fi := by
        obtain ⟨g, sc, m, bs, fi, h1, h2, h3, h4, h5, h6, h7⟩ := HY.out.st
        have hcon := HY.out.con
        refine ⟨g, sc, m, fun q => bs.getD q 0, fi, ?_, hcon.c2, ?_, hcon.c0, hcon.c7, ?_, fun q hq => ?_, h5, fun q hq => h7 q (by rw [HXl.out] at hq; exact hq)⟩
        · rw [HXl.out]; exact hcon.c1
        · rw [HXl.out]; exact h1
        · rw [HXl.out]; exact (HW.out.below HY.out.ext).rowsI
        · rw [HXl.out] at hq
          exact ⟨h2.form.2.2.2.2.2 q hq, (h4 q hq).2⟩
      rw [← HH.out] at hX
      obtain ⟨gs, sc, m, ms, fi, hX⟩ := hX
      have hTb := tableBy_any 121 #[.pointer (some ⟨H + 1, 0, none⟩), .pointer (some ⟨H + 2, 0, none⟩), .pointer (some ⟨H + 5, 0, none⟩), .pointer (some ⟨H, 0, none⟩), .pointer (some ⟨H + 7, 0, none⟩)] p k (frRow p L n) wr (by omega) (by omega) hN callFunc_freeTab (fun i j w' hji hi hx => by
        refine (freeTab_any _ _ _ _ _ p L n av cv _ _ _ _ _ _ i j w' (hX.below hx) hp hp2 hL0 hL hn (by rw [HXl.out]; exact hN) HF.out hji (by rw [HXl.out]; exact hi)).mono ?_
        rintro e w'' ⟨a, c, rfl, h1, h2, h3⟩
        exact ⟨a, c, rfl, h1, fun b o e => .inr (h2 b o e), h3⟩) (fun i j _ _ => by rw [frRow_length, HXl.out]; exact Nat.le_refl _) (fun i j q _ _ hq => by
        rw [frRow_at]
        have h1 := Int.emod_nonneg ((frT L n i j).getD q 0) (show p ≠ 0 by omega)
        have h2 := Int.emod_lt_of_pos ((frT L n i j).getD q 0) (show 0 < p by omega)
        omega)
      have HTb := hidP hTb
      have hcon := HY.out.con
      rw [← HH.out] at hcon
      have HRes := hidP hcon.res
      have HRf := hidP hcon.resf
      have f0 := hcon.c0
      have f1 := hcon.c1
      have HEx := hidP HY.out.ext
      have hkk : ¬ (k : Int) < (k : Int) := by omega
      have HTab : Hid (byL p k (frRow p L n) = frTab p L n) := by
        show _ = _
        unfold frTab
        rw [HXl.out]
      clear hX hTb hcon HY
      go_wp2_with fail
      refine HTb.out.mono ?_
      rintro e w2 ⟨a, rfl, ho2, hx2⟩
      obtain ⟨r0, r1, r2⟩ := HRes.out.below hx2
      have hl3 : H + 3 < wr.heap.size := World.block_lt_of_cell? wr _ HRes.out.c0
      have y0 := (hx2.frozen (p := ⟨H + 3, 0, none⟩) hl3).trans (HRf.out 0)
      have y1 := (hx2.frozen (p := ⟨H + 3, 1, none⟩) hl3).trans (HRf.out 1)
      have y2 := (hx2.frozen (p := ⟨H + 3, 2, none⟩) hl3).trans (HRf.out 2)
      rw [HTab.out] at ho2
      have HO2 := hidP ho2
      have HX2 := hidP (HEx.out.trans hx2)
      have HL3 := hidP hl3
      clear ho2 hx2 hl3 HTb f0 f1
      go_wp2
      refine bodyPost_ret (v := algV p (k : Int) a (k * k * k) (k * k * k)) (by simp [results, Try.results58, go_sem, r0, r1, r2]) rfl ?_
      refine ⟨a, rfl, ?_, ?_⟩
      · exact (((HO2.out.setBelow _ _ HL3.out _).setBelow _ _ HL3.out _).setBelow _ _ HL3.out _).base HEx.out.size
      · have hw : w.heap.size ≤ H + 3 := by have := HH.out; omega
        exact Ext.setNew (Ext.setNew (Ext.setNew HX2.out _ _ hw _) _ _ hw _) _ _ hw _
end Go.Proofs.Ytenlhfimdpcaoaa

namespace Go.Proofs.Ytenlhfimdpcaoaa
open Go.RowKit

set_option maxRecDepth 100000 in
set_option maxHeartbeats 1000000 in
theorem l7Set_any (p d i j k n : Int) (a : Option Addr) (N c : Nat) (xs : List Int) (w : World) (h : IntsAt w a N xs)
    (hp : 1 ≤ p) (hp2 : p ≤ 1000000) (hN : (N : Int) = d * d * d) (hd0 : 0 ≤ d) (hd1 : d ≤ 28) (hi0 : 0 ≤ i) (hi1 : i < d) (hj0 : 0 ≤ j) (hj1 : j < d) (hk0 : 0 ≤ k) (hk1 : k < d) (hn0 : -1000000000 ≤ n) (hn1 : n ≤ 1000000000)
    (hf : ∀ i b o, i < N → a = some ⟨b, o, none⟩ → w.frozen? ⟨b, o + i, none⟩ = false) :
    Calls Try.prog 53 #[.agg #[.int .i64 p, .int .i64 d, .slice a N c], .int .i64 i, .int .i64 j, .int .i64 k, .int .i64 n] w fun e w' => e = .returned (.tuple #[]) ∧ UpdI w w' a N ((xs.set ((i * d + j) * d + k).toNat (n % p)).set ((j * d + i) * d + k).toNat ((-n) % p)) := by
  obtain ⟨q1, q2, q3, q4, q5⟩ := idx_facts hd1 hi0 hi1 hj0 hj1 hk0 hk1
  obtain ⟨r1, r2, r3, r4, r5⟩ := idx_facts hd1 hj0 hj1 hi0 hi1 hk0 hk1
  obtain ⟨t1, ht1⟩ := Int.eq_ofNat_of_zero_le (show 0 ≤ (i * d + j) * d + k by omega)
  obtain ⟨t2, ht2⟩ := Int.eq_ofNat_of_zero_le (show 0 ≤ (j * d + i) * d + k by omega)
  have T1 : t1 < N := by omega
  have T2 : t2 < N := by omega
  have hst := UpdI.start h
  obtain ⟨b, o, rfl, hb⟩ := h.get t1 T1
  have hbl := World.block_lt_of_cell? w _ hb
  have HH := hidP h
  have HB := hidP hb
  have HST := hidP hst
  have HT1 := hidP ht1
  have HT2 := hidP ht2
  have HFZ := hidP hf
  have e1 : IntKind.i64.wrap (i * d) = i * d := wrap_in (by omega) (by omega)
  have e2 : IntKind.i64.wrap (i * d + j) = i * d + j := wrap_in (by omega) (by omega)
  have e3 : IntKind.i64.wrap ((i * d + j) * d) = (i * d + j) * d := wrap_in (by omega) (by omega)
  have e4 : IntKind.i64.wrap ((i * d + j) * d + k) = (t1 : Int) := by rw [← ht1]; exact wrap_in (by omega) (by omega)
  have e5 : IntKind.i64.wrap (j * d) = j * d := wrap_in (by omega) (by omega)
  have e6 : IntKind.i64.wrap (j * d + i) = j * d + i := wrap_in (by omega) (by omega)
  have e7 : IntKind.i64.wrap ((j * d + i) * d) = (j * d + i) * d := wrap_in (by omega) (by omega)
  have e8 : IntKind.i64.wrap ((j * d + i) * d + k) = (t2 : Int) := by rw [← ht2]; exact wrap_in (by omega) (by omega)
  have e9 : IntKind.i64.wrap (0 - n) = -n := by rw [Int.zero_sub]; exact wrap_in (by omega) (by omega)
  have T1' : (t1 : Int) < N := by omega
  have T2' : (t2 : Int) < N := by omega
  clear h hst hb hf ht1 ht2 q1 q2 q3 q4 q5 r1 r2 r3 r4 r5 hN
  go_enter Try.func53, Try.ntmps53
  go_wp2
  obtain ⟨w1, hw1⟩ : ∃ w1, w1 = w.alloc (.cells #[.int .i64 p, .int .i64 d, .slice (some ⟨b, o, none⟩) N c] 24) := ⟨_, rfl⟩
  have hc0 : w1.cell? ⟨w.heap.size, 0, none⟩ = some (.int .i64 p) := by rw [hw1]; simp
  have hc1 : w1.cell? ⟨w.heap.size, 1, none⟩ = some (.int .i64 d) := by rw [hw1]; simp
  have hc2 : w1.cell? ⟨w.heap.size, 2, none⟩ = some (.slice (some ⟨b, o, none⟩) N c) := by rw [hw1]; simp
  have hsz : w.heap.size < w1.heap.size := by rw [hw1]; simp
  have hx1 : Ext w w1 := by rw [hw1]; exact Ext.alloc w _
  rw [← hw1]
  have HF := hidP (fun w' (hx : Ext w1 w') => (⟨(hx.cell hsz).trans hc0, (hx.cell hsz).trans hc1, (hx.cell hsz).trans hc2⟩ : w'.cell? ⟨w.heap.size, 0, none⟩ = some (.int .i64 p) ∧ w'.cell? ⟨w.heap.size, 1, none⟩ = some (.int .i64 d) ∧ w'.cell? ⟨w.heap.size, 2, none⟩ = some (.slice (some ⟨b, o, none⟩) N c)))
  have hu1 := hidP ((hx1.upd HH.out (UpdI.start (HH.out.below hx1))))
  have hb1 : w1.cell? ⟨b, o + t1, none⟩ = some (.int .i64 (xs.getD t1 0)) := (hx1.cell (p := ⟨b, o + t1, none⟩) hbl).trans HB.out
  have hz1 : w1.frozen? ⟨b, o + t1, none⟩ = false := (hx1.frozen (p := ⟨b, o + t1, none⟩) hbl).trans (HFZ.out t1 b o T1 rfl)
  clear hw1 hx1 hc0 hc1 hc2
  have hE : Ext w1 w1.drew := Ext.drew w1
  (refine walkR_start (fun w' => Ext w1 w') 18 (by kernel_rfl) ?_; simp only [numbered, List.take_succ_cons, List.take_zero, Nat.zero_add, Nat.reduceAdd, List.length_cons, List.length_nil])
  repeat (refine walkR_still (v := ?_) rfl (by decide +kernel) rfl (fun _ _ _ h => h) hE ?_ ?_; rotate_left; (focus (intro w' hw'; obtain ⟨f0, f1, f2⟩ := HF.out w' hw'; go_simp; all_goals (with_reducible rfl))); simp only [Act.put, List.setIfInBounds_toArray, List.set_cons_zero, List.set_cons_succ])
  (refine walkR_only (fun w' => Ext w1 w') rfl (by decide +kernel) rfl ?_ ?_)
  · exact fun _ h => h
  intro K hK
  go_simp
  refine (l1Mod_any _ _ _ hp hp2).mono ?_
  rintro e w' ⟨rfl, rfl⟩
  refine hK _ _ hE ?_
  clear hK K
  (try simp only [Act.put, List.setIfInBounds_toArray, List.set_cons_zero, List.set_cons_succ])
  repeat (refine walkR_still (v := ?_) rfl (by decide +kernel) rfl (fun _ _ _ h => h) hE ?_ ?_; rotate_left; (focus (intro w' hw'; obtain ⟨f0, f1, f2⟩ := HF.out w' hw'; go_simp; all_goals (with_reducible rfl))); simp only [Act.put, List.setIfInBounds_toArray, List.set_cons_zero, List.set_cons_succ])
  (refine walkR_tail (by rfl) (by kernel_rfl) ?_; simp only [List.drop_succ_cons, List.drop_zero])
  go_wp2
  obtain ⟨w2, hw2⟩ : ∃ w2, w2 = (w1.setCell ⟨b, o + t1, none⟩ (.int .i64 (n % p))).drew := ⟨_, rfl⟩
  rw [← hw2]
  have hu2 : Hid (UpdI w w2 (some ⟨b, o, none⟩) N (xs.set t1 (n % p))) := by rw [hw2]; exact (hu1.out.store t1 T1 (n % p)).drew
  have hsz2 : w.heap.size < w2.heap.size := by rw [hw2]; simpa using hsz
  have HF2 := HF
  clear HF
  have hg : ∀ j, w2.cell? ⟨w.heap.size, j, none⟩ = w1.cell? ⟨w.heap.size, j, none⟩ := fun j => by
    rw [hw2, World.cell?_drew]
    exact World.cell?_of_block (Below.heap_setCell _ _ _ _ (Nat.ne_of_gt hbl))
  obtain ⟨g0, g1, g2⟩ := HF2.out w1 (Ext.refl w1)
  have HF := hidP (fun w' (hx : Ext w2 w') => (⟨(hx.cell hsz2).trans ((hg 0).trans g0), (hx.cell hsz2).trans ((hg 1).trans g1), (hx.cell hsz2).trans ((hg 2).trans g2)⟩ : w'.cell? ⟨w.heap.size, 0, none⟩ = some (.int .i64 p) ∧ w'.cell? ⟨w.heap.size, 1, none⟩ = some (.int .i64 d) ∧ w'.cell? ⟨w.heap.size, 2, none⟩ = some (.slice (some ⟨b, o, none⟩) N c)))
  obtain ⟨v2, hb2, hz2'⟩ := hu2.out.cellAt t2 T2
  have hz2 : w2.frozen? ⟨b, o + t2, none⟩ = false := hz2'.trans (HFZ.out t2 b o T2 rfl)
  clear hw2 hg g0 g1 g2 hz2' HF2 hb1 hz1 hE hu1
  have hE : Ext w2 w2.drew := Ext.drew w2
  (refine walkR_start (fun w' => Ext w2 w') 19 (by kernel_rfl) ?_; simp only [numbered, List.take_succ_cons, List.take_zero, Nat.zero_add, Nat.reduceAdd, List.length_cons, List.length_nil])
  repeat (refine walkR_still (v := ?_) rfl (by decide +kernel) rfl (fun _ _ _ h => h) hE ?_ ?_; rotate_left; (focus (intro w' hw'; obtain ⟨f0, f1, f2⟩ := HF.out w' hw'; go_simp; all_goals (with_reducible rfl))); simp only [Act.put, List.setIfInBounds_toArray, List.set_cons_zero, List.set_cons_succ])
  (refine walkR_only (fun w' => Ext w2 w') rfl (by decide +kernel) rfl ?_ ?_)
  · exact fun _ h => h
  intro K hK
  go_simp
  refine (l1Mod_any _ _ _ hp hp2).mono ?_
  rintro e w' ⟨rfl, rfl⟩
  refine hK _ _ hE ?_
  clear hK K
  (try simp only [Act.put, List.setIfInBounds_toArray, List.set_cons_zero, List.set_cons_succ])
  repeat (refine walkR_still (v := ?_) rfl (by decide +kernel) rfl (fun _ _ _ h => h) hE ?_ ?_; rotate_left; (focus (intro w' hw'; obtain ⟨f0, f1, f2⟩ := HF.out w' hw'; go_simp; all_goals (with_reducible rfl))); simp only [Act.put, List.setIfInBounds_toArray, List.set_cons_zero, List.set_cons_succ])
  (refine walkR_tail (by rfl) (by kernel_rfl) ?_; simp only [List.drop_succ_cons, List.drop_zero])
  go_wp2
  go_end0
  rw [HT1.out, HT2.out]
  exact ⟨rfl, (hu2.out.store t2 T2 _).drew⟩
end Go.Proofs.Ytenlhfimdpcaoaa

namespace Go.Proofs.Ytenlhfimdpcaoaa
open Go.RowKit

theorem freeRes_no {p L n : Int} (h : (primeB p && insB L 1 4 && insB n 1 8 && fitsF L.toNat n.toNat) = false) : freeRes p L n = (false, (0, 0, [])) := by
  unfold freeRes
  rw [h]
  rfl
theorem fits_less {M k : Nat} (h : fitsF M (k + 1) = true) : fitsF M k = true := by
  unfold fitsF at h ⊢
  rw [decide_eq_true_iff] at h ⊢
  omega
theorem fits_none {M k q : Nat} (h : fitsF M k = false) (hq : k ≤ q) : fitsF M q = false := by
  cases hh : fitsF M q with
  | false => rfl
  | true =>
    have : ∀ d, fitsF M (k + d) = true → fitsF M k = true := by
      intro d
      induction d with
      | zero => exact id
      | succ d ih => exact fun h => ih (fits_less h)
    rw [this (q - k) (by rw [show k + (q - k) = q by omega]; exact hh)] at h
    cases h
theorem fits_zero {M : Nat} (h1 : 1 ≤ M) (h4 : M ≤ 4) : fitsF M 0 = true := by
  unfold fitsF
  rw [decide_eq_true_iff]
  omega
theorem words_one : ∀ M : Nat, M < 5 → 1 ≤ M → 0 < (wordsZ M 1).length := by decide +kernel
theorem words_pos {M : Nat} (h1 : 1 ≤ M) (h4 : M ≤ 4) : ∀ k, 0 < (wordsZ M (k + 1)).length
  | 0 => words_one M (by omega) h1
  | k + 1 => by
    have := words_pos h1 h4 k
    show 0 < (wordsZ M (k + 1) ++ _).length
    rw [List.length_append]
    omega
theorem duv_few (L n : Nat) : ∀ i, (duvS L n i).1.length ≤ i
  | 0 => Nat.le_refl _
  | i + 1 => by
    have h1 := duv_few L n i
    by_cases h : (duvS L n i).2.length = 0
    · show ((if (duvS L n i).2.length = 0 then duvS L n i else _) : _ × _).1.length ≤ _
      rw [if_pos h]
      omega
    · rw [duvS_step h]
      show (if _ then _ else _ : List (List Int)).length ≤ _
      split
      · rw [List.length_append, List.length_singleton]; omega
      · omega
theorem duv_fits {M k : Nat} (h1 : 1 ≤ M) (h4 : M ≤ 4) (hk : k + 1 ≤ 8) (hf : fitsF M k = true) : (duvS M (k + 1) 60).2.length = 0 ∧ (duvS M (k + 1) 60).1 = lynTo M (k + 1) (M ^ (k + 1)) := by
  unfold fitsF at hf
  rw [decide_eq_true_iff] at hf
  exact duv_ok (by omega) (by omega)
set_option maxRecDepth 100000 in
set_option maxHeartbeats 8000000 in
theorem sFreeAlgebra_any (p L n : Int) (w : World) :
    Calls Try.prog 8 #[.int .i64 p, .int .i64 L, .int .i64 n] w fun e w' => ∃ a N c, e = .returned (.tuple #[algV (freeRes p L n).2.1 (freeRes p L n).2.2.1 a N c, .bool (freeRes p L n).1]) ∧ OwnI w' w.heap.size a N c (freeRes p L n).2.2.2 ∧ Ext w w' := by
  have hnew := fun w1 hx j => new_cell (w' := w1) (w := w) (cs := #[.int .i64 0, .int .i64 0, .slice none 0 0]) (E := 24) (b := w.heap.size) rfl hx j
  have hx0 := Ext.alloc w (.cells #[.int .i64 0, .int .i64 0, .slice none 0 0] 24)
  have HP := hidP (fun w' => sIsPrime_any p w')
  have HL := hidP (fun w' => l1In_any L 1 4 w')
  have HNn := hidP (fun w' => l1In_any n 1 8 w')
  have HNW := hidP hnew
  have HX0 := hidP hx0
  clear hnew hx0
  go_enter Try.func8, Try.ntmps8
  go_wp2_with fail
  obtain ⟨w0, hw0⟩ : ∃ w0, w0 = w.alloc (.cells #[.int .i64 0, .int .i64 0, .slice none 0 0] 24) := ⟨_, rfl⟩
  rw [← hw0] at HNW HX0 ⊢
  clear hw0
  refine (HP.out w0).mono ?_
  rintro e w1 ⟨rfl, rfl⟩
  cases hp : primeB p with
  | false =>
    have HR := hidP (freeRes_no (p := p) (L := L) (n := n) (by rw [hp]; rfl))
    obtain ⟨r0, y0⟩ := HNW.out w0 (Ext.refl _) 0
    obtain ⟨r1, y1⟩ := HNW.out w0 (Ext.refl _) 1
    obtain ⟨r2, y2⟩ := HNW.out w0 (Ext.refl _) 2
    have r0 := r0.trans (show _ = some (Value.int .i64 0) from rfl)
    have r1 := r1.trans (show _ = some (Value.int .i64 0) from rfl)
    have r2 := r2.trans (show _ = some (Value.slice none 0 0) from rfl)
    go_wp2
    refine bodyPost_ret (v := .tuple #[algV 0 0 none 0 0, .bool false]) (by simp [results, Try.results8, go_sem, r0, r1, r2]) rfl ?_
    rw [HR.out]
    exact ⟨none, 0, 0, rfl, OwnI.nil _ _, Ext.setNew (Ext.setNew (Ext.setNew HX0.out _ _ (Nat.le_refl _) _) _ _ (Nat.le_refl _) _) _ _ (Nat.le_refl _) _⟩
  | true =>
    have HPt := hidP hp
    go_wp2_with fail
    refine (HL.out w0).mono ?_
    rintro e w1 ⟨rfl, rfl⟩
    cases hl : insB L 1 4 with
    | false =>
      have HR := hidP (freeRes_no (p := p) (L := L) (n := n) (by rw [hl, Bool.and_false]; rfl))
      obtain ⟨r0, y0⟩ := HNW.out w0 (Ext.refl _) 0
      obtain ⟨r1, y1⟩ := HNW.out w0 (Ext.refl _) 1
      obtain ⟨r2, y2⟩ := HNW.out w0 (Ext.refl _) 2
      have r0 := r0.trans (show _ = some (Value.int .i64 0) from rfl)
      have r1 := r1.trans (show _ = some (Value.int .i64 0) from rfl)
      have r2 := r2.trans (show _ = some (Value.slice none 0 0) from rfl)
      go_wp2
      refine bodyPost_ret (v := .tuple #[algV 0 0 none 0 0, .bool false]) (by simp [results, Try.results8, go_sem, r0, r1, r2]) rfl ?_
      rw [HR.out]
      exact ⟨none, 0, 0, rfl, OwnI.nil _ _, Ext.setNew (Ext.setNew (Ext.setNew HX0.out _ _ (Nat.le_refl _) _) _ _ (Nat.le_refl _) _) _ _ (Nat.le_refl _) _⟩
    | true =>
      have HLt := hidP hl
      go_wp2_with fail
      refine (HNn.out w0).mono ?_
      rintro e w1 ⟨rfl, rfl⟩
      cases hnn : insB n 1 8 with
      | false =>
        have HR := hidP (freeRes_no (p := p) (L := L) (n := n) (by rw [hnn, Bool.and_false]; rfl))
        obtain ⟨r0, y0⟩ := HNW.out w0 (Ext.refl _) 0
        obtain ⟨r1, y1⟩ := HNW.out w0 (Ext.refl _) 1
        obtain ⟨r2, y2⟩ := HNW.out w0 (Ext.refl _) 2
        have r0 := r0.trans (show _ = some (Value.int .i64 0) from rfl)
        have r1 := r1.trans (show _ = some (Value.int .i64 0) from rfl)
        have r2 := r2.trans (show _ = some (Value.slice none 0 0) from rfl)
        go_wp2
        refine bodyPost_ret (v := .tuple #[algV 0 0 none 0 0, .bool false]) (by simp [results, Try.results8, go_sem, r0, r1, r2]) rfl ?_
        rw [HR.out]
        exact ⟨none, 0, 0, rfl, OwnI.nil _ _, Ext.setNew (Ext.setNew (Ext.setNew HX0.out _ _ (Nat.le_refl _) _) _ _ (Nat.le_refl _) _) _ _ (Nat.le_refl _) _⟩
      | true =>
        have HNt := hidP hnn
        obtain ⟨l1, l4⟩ := insB_true.1 hl
        obtain ⟨n1, n8⟩ := insB_true.1 hnn
        obtain ⟨M, rfl⟩ := Int.eq_ofNat_of_zero_le (show 0 ≤ L by omega)
        obtain ⟨q, rfl⟩ := Int.eq_ofNat_of_zero_le (show 0 ≤ n by omega)
        have HO := hidP (OwnK.made0 rowK w0)
        have hE : rowK.E = 22 := rfl
        rw [hE] at HO
        have HX := hidP (Ext.alloc w0 (.cells #[] 22))
        clear hE hp hl hnn HP HL HNn
        have HF0 := hidP (fits_zero (M := M) (by omega) (by omega))
        go_wp2
        go_loopw [8, 9] (fun v8 v9 wr => ∃ (k : Nat) (av : Option Addr) (nv cv : Nat) (hv : List Hdr), k ≤ q ∧ v9 = .int .i64 ((k + 1 : Nat) : Int) ∧ v8 = .slice av nv cv ∧ Hid (fitsF M k = true) ∧ Hid (OwnK rowK wr w0.heap.size wr.heap.size av nv cv hv (wordsZ M k)) ∧ Hid (Ext w0 wr) ∧ Hid (av ≠ none)) (fun _ v9 _ => q + 1 - (intOf v9).toNat)
        case atStart => exact ⟨0, _, 0, 0, [], Nat.zero_le _, rfl, rfl, HF0, HO, HX, by show _ ≠ _; simp⟩
        case round =>
          clear HO HX HF0
          obtain ⟨k, av, nv, cv, hv, hk, rfl, rfl, HFt, HO, HX, HNn⟩ := hrel
          by_cases hkq : k < q
          · obtain ⟨hd1, hd2⟩ := duv_fits (M := M) (k := k) (by omega) (by omega) (by omega) HFt.out
            have HWs := hidP (l11LyndonWords_any 60 M (k + 1) wr (by omega) (by omega) (by omega) (by omega) (by omega) hd1)
            rw [hd2] at HWs
            have hd3 := duv_few M (k + 1) 60
            rw [hd2] at hd3
            have hw28 := words_len (L := M) (n := k) (by omega) (by omega) (by omega) HFt.out
            have hxl := HO.out.xl
            have HWz : Hid (wordsZ M (k + 1) = wordsZ M k ++ lynTo M (k + 1) (M ^ (k + 1))) := rfl
            have HW28 := hidP hw28
            have hle : ((k + 1 : Nat) : Int) ≤ (q : Int) := by omega
            clear hd1 hd2 hw28
            generalize lynTo M (k + 1) (M ^ (k + 1)) = lw at *
            go_wp2_with fail
            refine HWs.out.mono ?_
            rintro e w4 ⟨g4, m4, c4, hs4, rfl, ho4, hx4⟩
            have hm4 := ho4.xl
            have hm60 : m4 ≤ 60 := by omega
            have hnv28 : nv ≤ 28 := by have := HW28.out.1; omega
            have HO4 := hidP (HO.out.below hx4)
            have HL4 := hidP (ho4.weaken (B' := w0.heap.size) HX.out.size (Nat.le_refl _))
            have HX4 := hidP (HX.out.trans hx4)
            have HAp : Hid (∀ i j, i < nv → j < m4 → Apart (hv.getD i (none, 0)).1 (hs4.getD j (none, 0)).1) := by
              intro i j hi hj b o b' o' e e'
              have h1 := HO.out.lt i hi b o e
              have h2 := ((ho4.each j hj).at_base b' o' e').1
              omega
            clear ho4 hx4 HWs hd3
            have hpos : 0 < nv + m4 := by
              have h1 := words_pos (M := M) (by omega) (by omega) k
              rw [HWz.out, List.length_append] at h1
              omega
            have hwl : (wordsZ M (k + 1)).length = nv + m4 := by rw [HWz.out, List.length_append]; omega
            clear hm4 hxl
            cases hfk : fitsF M (k + 1) with
            | true =>
              have hw2 := words_len (L := M) (n := k + 1) (by omega) (by omega) (by omega) hfk
              have hgt : ¬ (28 < (nv + m4 : Nat)) := by omega
              have hgtI : ¬ ((28 : Int) < (nv : Int) + (m4 : Int)) := by omega
              have HFt2 := hidP hfk
              clear hw2 hwl hfk
              go_wp2_with (at_builtin; refine wpList_append_elems rowK 73 (.slice none 0 0) 24 rfl (.tmp 37) (.tmp 40) rfl Try.underlying73 Try.info22 rfl (by omega) w0.heap.size _ _ av nv cv hv hs4 _ lw rfl HO4.out g4 m4 c4 rfl HL4.out HAp.out (by omega) HNn.out HX4.out.size ?_; intro a5 c5 w5 ho5 hg5 hn5; have HX5 : Hid (Ext w0 w5) := HO4.out.below_grown hg5 HX4.out HX4.out.size; have HN6 : Hid (a5 ≠ none) := ho5.someOf hpos; have HO5 := hidP ho5; clear ho5 hg5 hn5)
              have HO6 : Hid (OwnK rowK w5 w0.heap.size w5.heap.size a5 (nv + m4) c5 (hv ++ hs4) (wordsZ M (k + 1))) := by
                show OwnK _ _ _ _ _ _ _ _ _
                rw [HWz.out]
                exact HO5.out
              go_roundw
              case rel => exact ⟨k + 1, a5, nv + m4, c5, hv ++ hs4, by omega, by go_num, rfl, HFt2, HO6, HX5, HN6⟩
              case measure => simp [intOf]; omega
            | false =>
              have hw2 := HW28.out.2 hfk (by omega)
              have hgt : 28 < nv + m4 := by omega
              have hgtI : (28 : Int) < (nv : Int) + (m4 : Int) := by omega
              have HR := hidP (freeRes_no (p := p) (L := M) (n := q) (by
                have := fits_none hfk (show k + 1 ≤ q by omega)
                show (primeB p && insB (M : Int) 1 4 && insB (q : Int) 1 8 && fitsF M q) = false
                rw [this, Bool.and_false]))
              clear hw2 hwl hfk
              go_wp2_with (at_builtin; refine wpList_append_elems rowK 73 (.slice none 0 0) 24 rfl (.tmp 37) (.tmp 40) rfl Try.underlying73 Try.info22 rfl (by omega) w0.heap.size _ _ av nv cv hv hs4 _ lw rfl HO4.out g4 m4 c4 rfl HL4.out HAp.out (by omega) HNn.out HX4.out.size ?_; intro a5 c5 w5 ho5 hg5 hn5; have HX5 : Hid (Ext w0 w5) := HO4.out.below_grown hg5 HX4.out HX4.out.size; have HN6 : Hid (a5 ≠ none) := ho5.someOf hpos; have HO5 := hidP ho5; obtain ⟨r0, y0⟩ := HNW.out w5 HX5.out 0; obtain ⟨r1, y1⟩ := HNW.out w5 HX5.out 1; obtain ⟨r2, y2⟩ := HNW.out w5 HX5.out 2; have r0 := r0.trans (show _ = some (Value.int .i64 0) from rfl); have r1 := r1.trans (show _ = some (Value.int .i64 0) from rfl); have r2 := r2.trans (show _ = some (Value.slice none 0 0) from rfl); clear ho5 hg5 hn5)
              refine bodyPost_ret (v := .tuple #[algV 0 0 none 0 0, .bool false]) (by simp [results, Try.results8, go_sem, r0, r1, r2]) rfl ?_
              rw [HR.out]
              exact ⟨none, 0, 0, rfl, OwnI.nil _ _, Ext.setNew (Ext.setNew (Ext.setNew (HX0.out.trans HX5.out) _ _ (Nat.le_refl _) _) _ _ (Nat.le_refl _) _) _ _ (Nat.le_refl _) _⟩
          · obtain rfl : k = q := by omega
            have HFr := hidP (free_ok (free_fits HFt.out))
            have HRs : Hid (freeRes p (M : Int) (k : Int) = (true, (p, ((wordsZ M k).length : Int), frTab p M k))) := by
              show _ = _
              unfold freeRes
              rw [if_pos]
              · rfl
              · show (primeB p && insB (M : Int) 1 4 && insB (k : Int) 1 8 && fitsF M k) = true
                rw [HPt.out, HLt.out, HNt.out, HFt.out]
                rfl
            have hpb := prime_bounds HPt.out
            have hxl := HO.out.xl
            have hw28 : nv ≤ 28 := by have := (words_len (L := M) (n := k) (by omega) (by omega) (by omega) HFt.out).1; omega
            have HWd := hidP (fun w' (hx : Ext wr w') => HO.out.rowsI.below hx)
            have HWo := hidP (fun w' (hx : Ext wr w') => HO.out.below hx)
            have HWl := hidP (fun s (hs : s < nv) => words_at (L := M) (n := k) (k := s) (by omega) (by omega))
            have HNw : Hid ((wordsZ M k).length = nv) := hxl
            obtain ⟨wo, rfl⟩ : ∃ wo : World, wo = wr := ⟨_, rfl⟩
            have HS0 := hidP (OwnPs.made wo)
            have HXs := hidP (Ext.alloc wo (.cells #[] 63))
            have HXo := hidP HX.out
            have hknot : ¬ ((k + 1 : Nat) : Int) ≤ (k : Int) := by omega
            clear hxl HX HNn HFt HO hkq
            go_wp2
            go_loopw [10, 11] (fun v10 v11 wr => ∃ (s : Nat) (sa : Option Addr) (sc : Nat) (ps : List PEl), s ≤ nv ∧ v10 = .slice sa s sc ∧ v11 = .int .i64 s ∧ Hid (OwnPs wr wo.heap.size sa s sc ps) ∧ Hid (ps.map PEl.q = (frM p M k).take s) ∧ Hid (Ext wo wr)) (fun _ v11 _ => nv - (intOf v11).toNat)
            case atStart => exact ⟨0, _, 0, [], Nat.zero_le _, rfl, rfl, HS0, rfl, HXs⟩
            case round =>
              clear HS0 HXs
              obtain ⟨s, sa, sc, ps, hs, rfl, rfl, HS, HPq, HX2⟩ := hrel
              by_cases hsn : s < nv
              · obtain ⟨l1, l2⟩ := HWl.out s hsn
                obtain ⟨gv, bv, cw, rfl, hoW, hc1, hc2, hcW⟩ := (HWo.out wr HX2.out).rowAt s hsn (by omega)
                have hFm := frM_at p (L := M) (n := k) (k := s) (by rw [HNw.out]; exact hsn)
                generalize hWd : (wordsZ M k).getD s [] = W at *
                have HFm := hidP hFm
                have hSm := l11Sum_any p hpb.1 hpb.2 8 bv 0 W.length cw W wr hoW.ints hc1 hc2 l1 (by omega) (by omega)
                have HSm := hidP hSm
                have hsI : (s : Int) < (nv : Int) := by omega
                have HTop := hidP (fun f (hf : f ∈ ps) => (HS.out.each f hf).top)
                have HGl : Hid (∀ b o, sa = some ⟨b, o, none⟩ → b < wr.heap.size) := by
                  intro b o e
                  obtain ⟨g', e', _, h, _⟩ := HS.out.form
                  rw [e] at e'
                  cases e'
                  exact h
                clear hSm hoW hWd hFm
                go_wp2_with fail
                refine HSm.out.mono ?_
                rintro e w3 ⟨g3, q3, c3, hs3, rfl, ho3, hx3⟩
                have hxl := ho3.xl
                have hxa := Ext.alloc w3 (.cells #[.slice (some ⟨g3, 0, none⟩) q3 c3] 63)
                have HX4 := hidP (HX2.out.trans (hx3.trans hxa))
                have HS4 := hidP (HS.out.below (hx3.trans hxa))
                have HEl : Hid (PEl.Ok (w3.alloc (.cells #[.slice (some ⟨g3, 0, none⟩) q3 c3] 63)) wo.heap.size ⟨wr.heap.size, w3.heap.size, some ⟨g3, 0, none⟩, c3, hs3, sumF p 8 W⟩) :=
                  ⟨by show OwnK _ _ _ _ _ (sumF p 8 W).length _ _ _; rw [hxl]; exact ho3.below hxa, HX2.out.size, hx3.size, hxa.size⟩
                have HCe : Hid ((w3.alloc (.cells #[.slice (some ⟨g3, 0, none⟩) q3 c3] 63)).cell? ⟨w3.heap.size, 0, none⟩ = some (PEl.val ⟨wr.heap.size, w3.heap.size, some ⟨g3, 0, none⟩, c3, hs3, sumF p 8 W⟩)) := by
                  refine (cell_top _ _ _ _ _ rfl).trans ?_
                  show _ = some (Value.slice _ (sumF p 8 W).length _)
                  rw [hxl]
                  rfl
                clear hx3 ho3 hxa hxl HSm
                go_wp2_with (at_builtin; refine wpList_append_path rfl (.tmp 53) (.tmp 60) rfl wo.heap.size _ s sc ps rfl HS4.out w3.heap.size 1 _ rfl HCe.out HEl.out (fun f hf => HTop.out f hf) (fun b o e => .inl (HGl.out b o e)) (by omega) HX4.out.size ?_; intro a7 c7 w7 ho7 hg7 hn7; have HO7 := hidP ho7; have HX7 := hidP (HS4.out.ext hg7 HX4.out (Nat.le_refl _)); clear ho7 hg7 hn7)
                have HP7 : Hid ((ps ++ [PEl.mk wr.heap.size w3.heap.size (some ⟨g3, 0, none⟩) c3 hs3 (sumF p 8 W)]).map PEl.q = (frM p M k).take (s + 1)) := by
                  show _ = _
                  have hl : s < (frM p M k).length := by rw [frM_length, HNw.out]; exact hsn
                  rw [List.map_append, HPq.out, List.take_succ_eq_append_getElem hl]
                  congr 1
                  have := HFm.out
                  rw [List.getD_eq_getElem?_getD, List.getElem?_eq_getElem hl] at this
                  simp only [Option.getD_some] at this
                  rw [this]
                  rfl
                go_roundw
                case rel => exact ⟨s + 1, a7, c7, _, by omega, rfl, by go_num, HO7, HP7, HX7⟩
                case measure => simp [intOf]; omega
              · obtain rfl : s = nv := by omega
                have hsum : SumsAt wr sa s (frM p M k) := by
                  refine HS.out.sums ?_
                  rw [HPq.out, List.take_of_length_le (by rw [frM_length, HNw.out]; exact Nat.le_refl _)]
                have HSum := hidP (fun w' (hx : Ext wr w') => hsum.below hx)
                obtain ⟨w2, rfl⟩ : ∃ w2 : World, w2 = wr := ⟨_, rfl⟩
                have HAb := hidP (sAbelian_ok p (s : Int) w2 HPt.out (by omega) (by omega))
                obtain ⟨N3, hN3⟩ : ∃ N3, N3 = ((s : Int) * s * s).toNat := ⟨_, rfl⟩
                rw [← hN3] at HAb
                have HN3 : Hid (N3 = s * s * s) := by
                  show _ = _
                  rw [hN3, ← Int.natCast_mul, ← Int.natCast_mul, Int.toNat_natCast]
                have hssn : ¬ (s : Int) < (s : Int) := by omega
                clear hsum HS HPq hN3
                go_wp2_with fail
                refine HAb.out.mono ?_
                rintro e w3 ⟨a2, rfl, ho3, hx3⟩
                have hxa := Ext.alloc w3 (.cells #[.int .i64 p, .int .i64 (s : Int), .slice a2 N3 N3] 24)
                have HT0 : Hid (FreT w2 (w3.alloc (.cells #[.int .i64 p, .int .i64 (s : Int), .slice a2 N3 N3] 24)) w3.heap.size p s N3 a2 (tabF s (byTo p (frRow p M k) 0 0 0))) := by
                  refine ⟨AlgAt.new w3 _ rfl _ _ _ _ _ _, ?_, hx3.trans hxa, fun b o e => ?_⟩
                  · rw [byTo_start, ← HN3.out]
                    exact ho3.below hxa
                  · have := (ho3.at_base b o e).2
                    omega
                have HA2 := hidP (fun b o (e : a2 = some ⟨b, o, none⟩) => (ho3.at_base b o e).2)
                obtain ⟨bA, hbA⟩ : ∃ b, b = w3.heap.size := ⟨_, rfl⟩
                rw [← hbA] at HT0 HA2
                have HBA := hidP hbA
                clear ho3 hx3 hxa hbA HAb
                go_wp2
                try rw [← HBA.out]
                go_loopw [13] (fun v13 wr => ∃ (i : Nat), i ≤ s ∧ v13 = .int .i64 i ∧ Hid (FreT w2 wr bA p s N3 a2 (tabF s (byTo p (frRow p M k) i 0 0)))) (fun v13 _ => s - (intOf v13).toNat)
                case atStart => exact ⟨0, Nat.zero_le _, rfl, HT0⟩
                case round =>
                  clear HT0
                  obtain ⟨i, hi, rfl, HT⟩ := hrel
                  by_cases his : i < s
                  · go_wp2
                    go_loopw [14] (fun v14 wr => ∃ (j : Nat), j ≤ i ∧ v14 = .int .i64 j ∧ Hid (FreT w2 wr bA p s N3 a2 (tabF s (byTo p (frRow p M k) i j 0)))) (fun v14 _ => i - (intOf v14).toNat)
                    case atStart => exact ⟨0, Nat.zero_le _, rfl, HT⟩
                    case round =>
                      clear HT
                      obtain ⟨j, hj, rfl, HT⟩ := hrel
                      by_cases hji : j < i
                      · obtain ⟨li1, li2⟩ := HWl.out i his
                        obtain ⟨lj1, lj2⟩ := HWl.out j (by omega)
                        have hxw := HX2.out.trans HT.out.ext
                        obtain ⟨gv, bi, ci, rfl, hoi, _, _, hci⟩ := (HWo.out wr hxw).rowAt i his (by omega)
                        obtain ⟨gv', bj, cj, hgv, hoj, _, _, hcj⟩ := (HWo.out wr hxw).rowAt j (by omega) (by omega)
                        cases hgv
                        obtain ⟨gs, ai, qi, rfl, hsi, hti⟩ := (HSum.out wr HT.out.ext).get i his
                        obtain ⟨gs', aj, qj, hgs, hsj, htj⟩ := (HSum.out wr HT.out.ext).get j (by omega)
                        cases hgs
                        have hb1 := World.block_lt_of_cell? wr _ hci
                        have hb2 := World.block_lt_of_cell? wr _ hsi
                        have HF := hidP (fun w' (hx : Ext wr w') => (⟨(hx.cell (p := ⟨gv, i, none⟩) hb1).trans hci, (hx.cell (p := ⟨gv, j, none⟩) hb1).trans hcj, (hx.cell (p := ⟨gs, i, none⟩) hb2).trans hsi, (hx.cell (p := ⟨gs, j, none⟩) hb2).trans hsj⟩ : _ ∧ _ ∧ _ ∧ _))
                        have HPd : Hid (∀ w', Ext wr w' → Calls Try.prog 51 #[.int .i64 p, .slice ai ((frM p M k).getD i []).length qi, .slice aj ((frM p M k).getD j []).length qj] w' fun e w'' => ∃ g q c' hs, e = .returned (.slice (some ⟨g, 0, none⟩) q c') ∧ OwnK stepK w'' w'.heap.size w''.heap.size (some ⟨g, 0, none⟩) q c' hs (prodM p ((frM p M k).getD i []) ((frM p M k).getD j [])) ∧ Ext w' w'') := fun w' hx =>
                          l11Product_any p ai _ qi _ aj _ qj _ w' (hti.below hx) (htj.below hx) (by
                            have h8 := sum_few8 p li1 (by omega)
                            rw [← frM_at p (by rw [HNw.out]; exact his)] at h8
                            omega) (by
                            have h8 := sum_few8 p lj1 (by omega)
                            rw [← frM_at p (by rw [HNw.out]; omega)] at h8
                            omega) hpb.1 hpb.2 (fun q hq => by have := frM_num hpb.1 (L := M) (n := k) (m := i) (by omega) (by omega) (by rw [HNw.out]; exact his) hq; omega) (fun q hq => by have := frM_num hpb.1 (L := M) (n := k) (m := j) (by omega) (by omega) (by rw [HNw.out]; omega) hq; omega)
                        have HSt : Hid (((wordsZ M k).getD i []).length + ((wordsZ M k).getD j []).length ≤ k → ElimR p M k i j 0 (prodM p ((frM p M k).getD i []) ((frM p M k).getD j []))) := fun hl => elim_start hpb.1 (by omega) (by omega) HFr.out (by rw [HNw.out]; exact his) hji hl
                        have HNo : Hid (¬ ((wordsZ M k).getD i []).length + ((wordsZ M k).getD j []).length ≤ k → tabF s (byTo p (frRow p M k) i j 0) = tabF s (byTo p (frRow p M k) i (j + 1) 0)) := fun hl => byTo_past p s (frRow p M k) i j (elim_none p hl)
                        clear hoi hoj hci hcj hsi hsj hti htj hb1 hb2 hxw
                        generalize ((wordsZ M k).getD i []).length = li at *
                        generalize ((wordsZ M k).getD j []).length = lj at *
                        have e1 : IntKind.i64.wrap ((li : Int) + lj) = (li : Int) + lj := wrap_in (by omega) (by omega)
                        have hE : Ext wr wr.drew := Ext.drew wr
                        have q1 : (i : Int) < (s : Int) := by omega
                        have q2 : (j : Int) < (s : Int) := by omega
                        have q3 : (j : Int) < (i : Int) := by omega
                        by_cases hl : li + lj ≤ k
                        · have HS0 := hidP (HSt.out hl)
                          have q4 : (li : Int) + lj ≤ (k : Int) := by omega
                          clear hl HSt HNo
                          go_wp2
                          (refine walkR_start (fun w' => Ext wr w') 12 (by kernel_rfl) ?_; simp only [numbered, List.take_succ_cons, List.take_zero, Nat.zero_add, Nat.reduceAdd, List.length_cons, List.length_nil])
                          (repeat (first | (refine walkR_still (v := ?_) rfl (by decide +kernel) rfl (fun _ _ _ h => h) hE ?_ ?_; rotate_left; (focus (intro w' hw'; obtain ⟨f0, f1, f2, f3⟩ := HF.out w' hw'; go_simp; all_goals (with_reducible rfl))); simp only [Act.put, List.setIfInBounds_toArray, List.set_cons_zero, List.set_cons_succ]) | (refine walkR_skip rfl (by decide +kernel) rfl (fun _ _ _ h => h) hE ?_; simp only [Act.put, List.setIfInBounds_toArray, List.set_cons_zero, List.set_cons_succ])))
                          (refine walkR_tail (by rfl) (by kernel_rfl) ?_; simp only [List.drop_succ_cons, List.drop_zero])
                          have HFi : Hid (∀ w', Ext wr w' → w'.cell? ⟨gs, i, none⟩ = some (.slice ai ((frM p M k).getD i []).length qi) ∧ w'.cell? ⟨gs, j, none⟩ = some (.slice aj ((frM p M k).getD j []).length qj)) := fun w' hx => ⟨(HF.out w' hx).2.2.1, (HF.out w' hx).2.2.2⟩
                          have hE2 : Ext wr wr.drew.drew := hE.trans (Ext.drew _)
                          clear HF
                          go_wp2
                          (refine walkR_start (fun w' => Ext wr w') 10 (by kernel_rfl) ?_; simp only [numbered, List.take_succ_cons, List.take_zero, Nat.zero_add, Nat.reduceAdd, List.length_cons, List.length_nil])
                          (repeat (first | (refine walkR_still (v := ?_) rfl (by decide +kernel) rfl (fun _ _ _ h => h) hE2 ?_ ?_; rotate_left; (focus (intro w' hw'; obtain ⟨f2, f3⟩ := HFi.out w' hw'; go_simp; all_goals (with_reducible rfl))); simp only [Act.put, List.setIfInBounds_toArray, List.set_cons_zero, List.set_cons_succ]) | (refine walkR_skip rfl (by decide +kernel) rfl (fun _ _ _ h => h) hE2 ?_; simp only [Act.put, List.setIfInBounds_toArray, List.set_cons_zero, List.set_cons_succ])))
                          (refine walkR_only (fun w' => Ext wr w') rfl (by decide +kernel) rfl (fun _ h => h) ?_; intro K hK; go_simp; refine (HPd.out _ hE2).mono ?_; rintro e w4 ⟨g4, n4, c4, hs4, rfl, ho4, hx4⟩; refine hK _ _ (hE2.trans hx4) ?_; clear hK K; (try simp only [Act.put, List.setIfInBounds_toArray, List.set_cons_zero, List.set_cons_succ]))
                          have hE4 := hE2.trans hx4
                          (repeat (first | (refine walkR_still (v := ?_) rfl (by decide +kernel) rfl (fun _ _ _ h => h) hE4 ?_ ?_; rotate_left; (focus (intro w' hw'; skip; go_simp; all_goals (with_reducible rfl))); simp only [Act.put, List.setIfInBounds_toArray, List.set_cons_zero, List.set_cons_succ]) | (refine walkR_skip rfl (by decide +kernel) rfl (fun _ _ _ h => h) hE4 ?_; simp only [Act.put, List.setIfInBounds_toArray, List.set_cons_zero, List.set_cons_succ])))
                          (refine walkR_tail (by rfl) (by kernel_rfl) ?_; simp only [List.drop_succ_cons, List.drop_zero])
                          have hJ0 : FreJ p M k i j w2 wr bA s N3 a2 0 (.slice (some ⟨g4, 0, none⟩) n4 c4) w4 := ⟨Nat.zero_le _, _, _, _, hs4, _, rfl, ho4.weaken hE2.size (Nat.le_refl _), HS0.out, HT.out.below hE4, hE4.size⟩
                          have HJ0 := hidP hJ0
                          have HAt := hidP HT.out.own.at_base
                          have HTx := hidP HT.out.ext
                          clear hJ0 ho4 hx4 hE4 hE2 hE HPd HFi HS0 HT
                          obtain ⟨wj, rfl⟩ : ∃ wj : World, wj = wr := ⟨_, rfl⟩
                          go_wp2
                          go_loopw [15] (fun v15 wr => ∃ k0, FreJ p M k i j w2 wj bA s N3 a2 k0 v15 wr) (fun v15 wr => s - topN (fun k0 => FreJ p M k i j w2 wj bA s N3 a2 k0 v15 wr) s)
                          case atStart => exact ⟨0, HJ0.out⟩
                          case round =>
                            clear HJ0
                            obtain ⟨k0, hti, hJ⟩ := topJ (N := s) hrel (fun i h => h.le)
                            clear hrel
                            obtain ⟨hk0, ar, nr, cr, hsr, R, rfl, hoR, hel, hft, hsz⟩ := hJ
                            have HTi := hidP hti
                            have HOR := hidP hoR
                            have HEl := hidP hel
                            have HFt := hidP hft
                            have HSz := hidP hsz
                            have hRl := hoR.xl
                            clear hti hoR hel hft hsz
                            by_cases hnr : 0 < nr
                            · cases R with
                              | nil => simp at hRl; omega
                              | cons qq lr =>
                                obtain ⟨m, h0, hm, hw, hc, hbe, hz, hnx⟩ := elim_step hpb.1 (L := M) (by omega) (by omega) HFr.out HEl.out
                                have hnum := elim_num HEl.out (k := 0) (by simp)
                                have hTf := HFt.out.as (byTo_skip p s (frRow p M k) i j h0 hz)
                                rw [HNw.out] at hm
                                obtain ⟨bR, oR, aw, cw, W, L, rfl, HWy, HL, hwl, HNl, hq⟩ := HOR.out.stepsAt.way 0 hnr
                                have hw1 : qq.1 = W := HWy.out
                                have hL1 : qq.2 = L := HL.out
                                rw [HWy.out, HL.out] at hnum
                                rw [hw1] at hw hbe
                                rw [hL1] at hc hnx
                                obtain ⟨hw16, hL0, hLp⟩ := hnum
                                have HQ : Hid (∀ w', Ext wr w' → w'.cell? ⟨bR, oR, none⟩ = some (.slice aw W.length cw) ∧ w'.cell? ⟨bR, oR + 1, none⟩ = some (.int .i64 L)) := fun w' hx => ⟨by simpa using (hq w' hx).1, by simpa using (hq w' hx).2.1⟩
                                have HPl := hidP (l5Place_at _ s cv (wordsZ M k) aw W.length cw W wr (HWd.out wr (HX2.out.trans hTf.ext)) (hq wr (Ext.refl _)).2.2 (by omega) (by omega) (fun i hi => by have := HWl.out i hi; omega) m hm hw.symm hbe)
                                have hnx' : ElimR p M k i j (m + 1) (putsM p [] (joinE p (-L) (qq :: lr) ((frM p M k).getD m []))) := by rw [← Int.zero_sub]; exact hnx
                                have HNx := hidP hnx'
                                have HTf := hidP hTf
                                have HCc := hidP hc
                                have HH0 := hidP h0
                                have HEl2 : Hid (nr ≤ 100000) := by
                                  have h1 := HEl.out.few
                                  show nr ≤ 100000
                                  omega
                                have HEl3 : Hid (∀ q, q < nr → (wayAt (qq :: lr) q).length ≤ 1000000 ∧ 0 ≤ lenAt (qq :: lr) q ∧ lenAt (qq :: lr) q ≤ 10007) := by
                                  intro q hq
                                  have := elim_num HEl.out (k := q) (by omega)
                                  omega
                                have HL1 := hidP hL1
                                clear hq hw1 hL1 hw hbe hz hnx hnx' hTf hc h0 HFt HEl HWy HL HNl hwl
                                obtain ⟨qc0, qc1⟩ := HQ.out wr (Ext.refl _)
                                have hnrI : (0 : Int) < (nr : Int) := by omega
                                go_wp2_with fail
                                refine HPl.out.mono ?_
                                rintro e w5 ⟨rfl, hx5⟩
                                have HT5 := hidP (HTf.out.below hx5)
                                have HO5 := hidP (HOR.out.below hx5)
                                have HZ5 := hidP (Nat.le_trans HSz.out hx5.size)
                                have HQ5 := hidP (fun w' (hx : Ext w5 w') => HQ.out w' (hx5.trans hx))
                                have HAl5 := hidP (fun w' (hx : Ext w5 w') => (HT5.out.alg.below hx))
                                have hE : Ext w5 w5.drew := Ext.drew w5
                                have q5 : (m : Int) < (s : Int) := by omega
                                have hLb : L ≤ 10007 := by omega
                                have HS7 : Hid (∀ w', Ext w5 w' → Calls Try.prog 53 #[.agg #[.int .i64 p, .int .i64 (s : Int), .slice a2 N3 N3], .int .i64 i, .int .i64 j, .int .i64 m, .int .i64 L] w' fun e w'' => e = .returned (.tuple #[]) ∧ UpdI w' w'' a2 N3 (tabF s (byTo p (frRow p M k) i j (m + 1)))) := by
                                  intro w' hx
                                  have hb := (HT5.out.below hx)
                                  have h7 := l7Set_any p (s : Int) i j m L a2 N3 N3 _ w' hb.own.ints (by omega) (by omega) (by rw [HN3.out]; rw [Int.natCast_mul, Int.natCast_mul]) (by omega) (by omega) (by omega) (by omega) (by omega) (by omega) (by omega) (by omega) (by omega) (by omega) hb.own.unfrozen
                                  have t1 : (((i : Int) * s + j) * s + m).toNat = (i * s + j) * s + m := by
                                    rw [← Int.natCast_mul, ← Int.natCast_add, ← Int.natCast_mul, ← Int.natCast_add, Int.toNat_natCast]
                                  have t2 : (((j : Int) * s + i) * s + m).toNat = (j * s + i) * s + m := by
                                    rw [← Int.natCast_mul, ← Int.natCast_add, ← Int.natCast_mul, ← Int.natCast_add, Int.toNat_natCast]
                                  have hset := byTo_set p (n := s) (frRow p M k) (i := i) (j := j) (m := m) his hji hm
                                  rw [← HCc.out, Int.zero_sub] at hset
                                  rw [t1, t2, Int.emod_eq_of_lt (by omega) hLp, hset] at h7
                                  exact h7
                                clear hx5 HPl HTf HOR HSz HQ qc0 qc1
                                go_wp2
                                (refine walkR_start (fun w' => Ext w5 w') 8 (by kernel_rfl) ?_; simp only [numbered, List.take_succ_cons, List.take_zero, Nat.zero_add, Nat.reduceAdd, List.length_cons, List.length_nil])
                                (repeat (first | (refine walkR_still (v := ?_) rfl (by decide +kernel) rfl (fun _ _ _ h => h) hE ?_ ?_; rotate_left; (focus (intro w' hw'; obtain ⟨⟨f0, f1, f2⟩, ⟨f3, f4⟩⟩ := And.intro (HAl5.out w' hw') (HQ5.out w' hw'); go_simp; all_goals (with_reducible rfl))); simp only [Act.put, List.setIfInBounds_toArray, List.set_cons_zero, List.set_cons_succ]) | (refine walkR_skip rfl (by decide +kernel) rfl (fun _ _ _ h => h) hE ?_; simp only [Act.put, List.setIfInBounds_toArray, List.set_cons_zero, List.set_cons_succ])))
                                (refine walkR_tail (by rfl) (by kernel_rfl) ?_; simp only [List.drop_succ_cons, List.drop_zero])
                                have HO6 := hidP (HO5.out.below hE)
                                have HT6 := hidP (HT5.out.below hE)
                                have HZ6 : Hid (wj.heap.size ≤ w5.drew.heap.size) := Nat.le_trans HZ5.out hE.size
                                have HQ6 := hidP (HQ5.out _ hE)
                                have HC7 := hidP (HS7.out _ hE)
                                clear HO5 HT5 HZ5 HQ5 HAl5 HS7 hE
                                obtain ⟨w6, hw6⟩ : ∃ w6, w6 = w5.drew := ⟨_, rfl⟩
                                rw [← hw6] at HO6 HT6 HZ6 HQ6 HC7 ⊢
                                clear hw6
                                go_wp2_with fail
                                refine HC7.out.mono ?_
                                rintro e w7 ⟨rfl, hu7⟩
                                have HT7 := hidP (HT6.out.upd hu7)
                                have hO7 := HO6.out.others hu7 (fun b o b' o' e e' hbb => by
                                  have x1 := (HAt.out b o e).2
                                  have x2 := (HO6.out.base_lt b' o' e').1
                                  omega) (fun i hi b o b' o' e e' hbb => by
                                  have x1 := (HAt.out b o e).2
                                  have x2 := ((HO6.out.each i hi).at_base b' o' e').1
                                  omega)
                                have HO7 := hidP hO7
                                obtain ⟨b7, o7, aw7, cw7, e7, _, h72, _⟩ := hO7.stepsAt.get 0 hnr
                                cases e7
                                have h72 : w7.cell? ⟨bR, oR + 1, none⟩ = some (.int .i64 L) := by
                                  rw [Nat.zero_mul, Nat.add_zero] at h72
                                  rw [h72]
                                  exact congrArg (fun x => some (Value.int .i64 x)) HL1.out
                                obtain ⟨gs', am, qm, hgs, hsm, htm⟩ := (HSum.out w7 HT7.out.ext).get m hm
                                cases hgs
                                have hb3 := World.block_lt_of_cell? w7 _ h72
                                have hb4 := World.block_lt_of_cell? w7 _ hsm
                                have HF7 : Hid (∀ w', Ext w7 w' → w'.cell? ⟨bR, oR + 1, none⟩ = some (.int .i64 L) ∧ w'.cell? ⟨gs, m, none⟩ = some (.slice am ((frM p M k).getD m []).length qm)) := fun w' hx => ⟨(hx.cell (p := ⟨bR, oR + 1, none⟩) hb3).trans h72, (hx.cell (p := ⟨gs, m, none⟩) hb4).trans hsm⟩
                                have HZ7 : Hid (wj.heap.size ≤ w7.heap.size) := Nat.le_trans HZ6.out hu7.size
                                have hfew := HEl2.out
                                have HJn : Hid (∀ w', Ext w7 w' → Calls Try.prog 54 #[.int .i64 p, .slice (some ⟨bR, oR, none⟩) nr cr, .int .i64 (-L), .slice am ((frM p M k).getD m []).length qm] w' fun e w'' => ∃ g q c' hs, e = .returned (.slice (some ⟨g, 0, none⟩) q c') ∧ OwnK stepK w'' w'.heap.size w''.heap.size (some ⟨g, 0, none⟩) q c' hs (putsM p [] (joinE p (-L) (qq :: lr) ((frM p M k).getD m []))) ∧ Ext w' w'') := fun w' hx =>
                                  l11Join_any p _ nr cr (qq :: lr) (-L) am _ qm _ w' (hO7.stepsAt.below hx) (htm.below hx) hfew (by
                                    have h8 := sum_few8 p (HWl.out m hm).1 (by have := (HWl.out m hm).2; omega)
                                    rw [← frM_at p (by rw [HNw.out]; exact hm)] at h8
                                    omega) hpb.1 hpb.2 (fun q hq => HEl3.out q hq) (fun q hq => by have := frM_num hpb.1 (L := M) (n := k) (m := m) (by omega) (by omega) (by rw [HNw.out]; exact hm) hq; omega)
                                have e9 : IntKind.i64.wrap (0 - L) = -L := by rw [Int.zero_sub]; exact wrap_in (by omega) (by omega)
                                have e9' : IntKind.i64.wrap (-L) = -L := wrap_in (by omega) (by omega)
                                have hE : Ext w7 w7.drew := Ext.drew w7
                                clear hu7 hO7 h72 hsm htm hb3 hb4 HO6 HT6 HZ6 HQ6 HC7 hfew
                                go_wp2
                                (refine walkR_start (fun w' => Ext w7 w') 12 (by kernel_rfl) ?_; simp only [numbered, List.take_succ_cons, List.take_zero, Nat.zero_add, Nat.reduceAdd, List.length_cons, List.length_nil])
                                (repeat (first | (refine walkR_still (v := ?_) rfl (by decide +kernel) rfl (fun _ _ _ h => h) hE ?_ ?_; rotate_left; (focus (intro w' hw'; obtain ⟨f0, f1⟩ := HF7.out w' hw'; go_simp; all_goals (with_reducible rfl))); simp only [Act.put, List.setIfInBounds_toArray, List.set_cons_zero, List.set_cons_succ]) | (refine walkR_skip rfl (by decide +kernel) rfl (fun _ _ _ h => h) hE ?_; simp only [Act.put, List.setIfInBounds_toArray, List.set_cons_zero, List.set_cons_succ])))
                                (refine walkR_only (fun w' => Ext w7 w') rfl (by decide +kernel) rfl (fun _ h => h) ?_; intro K hK; go_simp; refine (HJn.out _ hE).mono ?_; rintro e w8 ⟨g8, n8, c8, hs8, rfl, ho8, hx8⟩; refine hK _ _ (hE.trans hx8) ?_; clear hK K; (try simp only [Act.put, List.setIfInBounds_toArray, List.set_cons_zero, List.set_cons_succ]))
                                have hE8 := hE.trans hx8
                                (repeat (first | (refine walkR_still (v := ?_) rfl (by decide +kernel) rfl (fun _ _ _ h => h) hE8 ?_ ?_; rotate_left; (focus (intro w' hw'; skip; go_simp; all_goals (with_reducible rfl))); simp only [Act.put, List.setIfInBounds_toArray, List.set_cons_zero, List.set_cons_succ]) | (refine walkR_skip rfl (by decide +kernel) rfl (fun _ _ _ h => h) hE8 ?_; simp only [Act.put, List.setIfInBounds_toArray, List.set_cons_zero, List.set_cons_succ])))
                                (refine walkR_tail (by rfl) (by kernel_rfl) ?_; simp only [List.drop_succ_cons, List.drop_zero])
                                have HJ8 : Hid (FreJ p M k i j w2 wj bA s N3 a2 (m + 1) (.slice (some ⟨g8, 0, none⟩) n8 c8) w8) := ⟨hm, _, _, _, hs8, _, rfl, ho8.weaken (Nat.le_trans HZ7.out hE.size) (Nat.le_refl _), HNx.out, HT7.out.below hE8, Nat.le_trans HZ7.out hE8.size⟩
                                clear ho8 hx8 hE8 hE HJn HF7 HNx HT7
                                go_wp2
                                go_roundw
                                case rel => exact ⟨m + 1, HJ8.out⟩
                                case measure =>
                                  have h1 := topN_ge (J := fun k0 => FreJ p M k i j w2 wj bA s N3 a2 k0 (.slice (some ⟨g8, 0, none⟩) n8 c8) w8) (i := m + 1) (n := s) HJ8.out hm
                                  have h2 := HTi.out
                                  have h3 := HH0.out
                                  have h4 := hm
                                  show _ - topN _ _ < _ - topN _ _
                                  omega
                            · obtain rfl : nr = 0 := by omega
                              have hR0 : R = [] := List.length_eq_zero_iff.1 hRl
                              subst hR0
                              have HT2 := hidP (HFt.out.as (byTo_past p s (frRow p M k) i j (elim_end HFr.out HEl.out)))
                              clear hRl HFt HEl HOR HTi
                              go_wp2
                              go_roundw
                              case rel => exact ⟨j + 1, by omega, by go_num, HT2⟩
                              case measure => simp [intOf]; omega
                        · have HT2 := hidP (HT.out.as (HNo.out hl))
                          have q4 : (k : Int) < (li : Int) + lj := by omega
                          clear hl HSt HPd HNo HT
                          go_wp2
                          (refine walkR_start (fun w' => Ext wr w') 12 (by kernel_rfl) ?_; simp only [numbered, List.take_succ_cons, List.take_zero, Nat.zero_add, Nat.reduceAdd, List.length_cons, List.length_nil])
                          (repeat (first | (refine walkR_still (v := ?_) rfl (by decide +kernel) rfl (fun _ _ _ h => h) hE ?_ ?_; rotate_left; (focus (intro w' hw'; obtain ⟨f0, f1, f2, f3⟩ := HF.out w' hw'; go_simp; all_goals (with_reducible rfl))); simp only [Act.put, List.setIfInBounds_toArray, List.set_cons_zero, List.set_cons_succ]) | (refine walkR_skip rfl (by decide +kernel) rfl (fun _ _ _ h => h) hE ?_; simp only [Act.put, List.setIfInBounds_toArray, List.set_cons_zero, List.set_cons_succ])))
                          (refine walkR_tail (by rfl) (by kernel_rfl) ?_; simp only [List.drop_succ_cons, List.drop_zero])
                          have HT3 := hidP (HT2.out.below hE)
                          clear HT2 hE
                          go_wp2
                          go_roundw
                          case rel => exact ⟨j + 1, by omega, by go_num, HT3⟩
                          case measure => simp [intOf]; omega
                      · obtain rfl : j = i := by omega
                        have HT2 := hidP (HT.out.as (byTo_row p s (frRow p M k) j))
                        clear HT
                        go_wp2
                        go_roundw
                        case rel => exact ⟨j + 1, by omega, by go_num, HT2⟩
                        case measure => simp [intOf]; omega
                  · obtain rfl : i = s := by omega
                    have hfin := HT.out.as (byTo_all p i (frRow p M k))
                    have hfi : byL p i (frRow p M k) = frTab p M k := by rw [← HNw.out]; rfl
                    rw [hfi] at hfin
                    have HFi := hidP hfin.own
                    have HEx := hidP (HXo.out.trans (HX2.out.trans hfin.ext))
                    obtain ⟨f0, f1, f2⟩ := hfin.alg
                    obtain ⟨r0, y0⟩ := HNW.out wr HEx.out 0
                    obtain ⟨r1, y1⟩ := HNW.out wr HEx.out 1
                    obtain ⟨r2, y2⟩ := HNW.out wr HEx.out 2
                    have r0 := r0.trans (show _ = some (Value.int .i64 0) from rfl)
                    have r1 := r1.trans (show _ = some (Value.int .i64 0) from rfl)
                    have r2 := r2.trans (show _ = some (Value.slice none 0 0) from rfl)
                    have HLw : Hid (w.heap.size < w2.heap.size) := by
                      have h1 := World.block_lt_of_cell? w0 _ (HNW.out w0 (Ext.refl _) 0).1
                      have h2 := HXo.out.size
                      have h3 := HX2.out.size
                      have h1 : w.heap.size < w0.heap.size := h1
                      show _ < _
                      omega
                    have hiiI : ¬ (i : Int) < (i : Int) := by omega
                    clear hfin HT hfi
                    go_wp2
                    refine bodyPost_ret (v := .tuple #[algV p (i : Int) a2 N3 N3, .bool true]) (by simp [results, Try.results8, go_sem, r0, r1, r2]) rfl ?_
                    rw [HRs.out]
                    refine ⟨a2, N3, N3, ?_, ?_, ?_⟩
                    · rw [HNw.out]
                    · exact (((HFi.out.setBelow _ _ HLw.out _).setBelow _ _ HLw.out _).setBelow _ _ HLw.out _).base (Nat.le_of_lt HLw.out)
                    · exact Ext.setNew (Ext.setNew (Ext.setNew (HX0.out.trans HEx.out) _ _ (Nat.le_refl _) _) _ _ (Nat.le_refl _) _) _ _ (Nat.le_refl _) _
end Go.Proofs.Ytenlhfimdpcaoaa

namespace Go.Proofs.Ytenlhfimdpcaoaa
open Go.RowKit

end Go.Proofs.Ytenlhfimdpcaoaa

namespace Go.Proofs.Ytenlhfimdpcaoaa
open Go.RowKit

/-- an owned slice of integers does not lie in the block of a slice of such -/
theorem OwnK.ints_far {α : Type} {K : Knd α} {w : World} {B B' U : Nat} {a a' : Option Addr} {n c n' c' : Nat} {hs : List Hdr} {xs : List α} {ys : List Int} (h : OwnK K w B U a n c hs xs) (k : OwnI w B' a' n' c' ys) :
    ∀ b o, a' = some ⟨b, o, none⟩ → some b ≠ (Value.slice a n c).ownBlock := by
  intro b o e
  obtain ⟨cur, hb⟩ := k.block e
  rcases h.form with ⟨rfl, _⟩ | ⟨g, cur', rfl, _, _, hg, _⟩
  · simp [Value.ownBlock]
  · simp only [Value.ownBlock, ne_eq, Option.some.injEq]
    rintro rfl
    rw [hg] at hb
    simp only [Option.some.injEq, Obj.cells.injEq] at hb
    exact K.ne hb.2.1
set_option maxRecDepth 100000 in
set_option maxHeartbeats 4000000 in
theorem lyndonWordsI_any (L n : Nat) (w : World) (hL : 1 ≤ L) (hL4 : L ≤ 4) (hn1 : 1 ≤ n) (hn : n ≤ 8) :
    Calls Try.prog 57 #[.int .i64 L, .int .i64 n] w fun e w' => ∃ a k c hs, e = .returned (.slice a k c) ∧ OwnK rowK w' w.heap.size w'.heap.size a k c hs (lynTo L n (L ^ n)) ∧ Ext w w' := by
  have hmade := OwnI.made (w.alloc (.cells #[] 22)) (w.heap.size + 1) n (by simp) (by unfold maxLen; omega)
  rw [show (w.alloc (.cells #[] 22)).heap.size = w.heap.size + 1 by simp] at hmade
  have hmk := make_ints (n : Int) (by omega) (by omega)
  simp only [Int.toNat_natCast] at hmk
  have HO := hidP (OwnK.made0 rowK w)
  have hE : rowK.E = 22 := rfl
  rw [hE] at HO
  have hx0 := Ext.alloc w (.cells #[] 22)
  have hx1 := Ext.alloc (w.alloc (.cells #[] 22)) (.cells (Array.replicate n (.int .i64 0)) 3)
  go_enter Try.func57, Try.ntmps57
  go_wp2
  obtain ⟨w1, hw1⟩ : ∃ w1, w1 = (w.alloc (.cells #[] 22)).alloc (.cells (Array.replicate n (.int .i64 0)) 3) := ⟨_, rfl⟩
  rw [← hw1] at hmade hx1 ⊢
  have HM := hidP hmade
  have HO1 := hidP (HO.out.below hx1)
  have HX1 := hidP (hx0.trans hx1)
  have hsz1 : w.heap.size + 1 ≤ w1.heap.size := by have := hx1.size; simpa using this
  clear hw1 hmade hx0 hx1 HO hmk hE
  have HXZ := hidP (fun (h : 0 < n) => HM.out.block rfl)
  go_loopg [5] (L ^ n) (fun gk u wr => ∃ (v m : Nat) (av : Option Addr) (cv : Nat) (hv : List Hdr), v + gk = L ^ n ∧ v < L ^ n ∧ m ≤ v ∧ u = .slice av m cv ∧ Hid (OwnK rowK wr w.heap.size wr.heap.size av m cv hv (lynTo L n v)) ∧ Hid (OwnI wr (w.heap.size + 1) (some ⟨w.heap.size + 1, 0, none⟩) n n (dig L n v)) ∧ Hid (∀ q, q < m → Apart (some ⟨w.heap.size + 1, 0, none⟩) (hv.getD q (none, 0)).1) ∧ Hid (Ext w wr))
  case atStart =>
    refine ⟨0, 0, _, 0, [], by omega, Nat.pow_pos hL, Nat.le_refl _, rfl, ?_, ?_, fun q hq => by omega, HX1⟩
    · exact HO1.out.weaken (Nat.le_refl _) (by simpa using hsz1)
    · show OwnI _ _ _ _ _ _
      rw [dig_zero]
      exact HM.out
  case round =>
    clear HO1 HM HX1 HXZ
    obtain ⟨v, m, av, cv, hv, hvk, hvn, hmv, rfl, HL, HI, HA, HX⟩ := hrel
    obtain ⟨wo, rfl⟩ : ∃ wo : World, wo = wr := ⟨_, rfl⟩
    have hLn : L ^ n ≤ 65536 := Nat.le_trans (Nat.pow_le_pow_left hL4 n) (Nat.le_trans (Nat.pow_le_pow_right (by omega) hn) (by decide))
    have HC := hidP (isLyndon_any (some ⟨w.heap.size + 1, 0, none⟩) n n (dig L n v) wo HI.out.ints (Nat.le_refl _) (by unfold maxLen; omega) (by omega))
    obtain ⟨N, hN⟩ : ∃ N, N = L ^ n := ⟨_, rfl⟩
    rw [← hN] at hvk hvn hLn
    have HN := hidP hN
    clear hN
    cases hb : lynB (dig L n v)
    case' false =>
      rw [hb] at HC
      obtain ⟨w3, rfl⟩ : ∃ w3 : World, w3 = wo := ⟨_, rfl⟩
      have HL3 : Hid (OwnK rowK w3 w.heap.size w3.heap.size av m cv hv (lynTo L n (v + 1))) := by show OwnK _ _ _ _ _ _ _ _ _; rw [lynTo_no hb]; exact HL.out
      have HI3 := HI
      have HRW : Hid (dig L n v = dig L n v) := rfl
      have HA3 := HA
      have HX3 := HX
      have hm3 : m ≤ v + 1 := by omega
      clear hb hmv HL HI HA HX
      go_wp2_with fail
      refine HC.out.mono ?_
      rintro e w' ⟨rfl, rfl⟩
      go_wp2
    case' true =>
      rw [hb] at HC
      have HCl := hidP (clone_any (some ⟨w.heap.size + 1, 0, none⟩) n n (dig L n v) wo HI.out.ints (fun e => by cases e) (by omega))
      go_wp2_with fail
      refine HC.out.mono ?_
      rintro e w' ⟨rfl, rfl⟩
      go_wp2_with fail
      refine HCl.out.mono ?_
      rintro e w1 ⟨a1, c1, rfl, ho1, hx1⟩
      have HL1 := hidP (HL.out.below hx1)
      have HO1 := hidP ho1
      have HX1 := hidP (HX.out.trans hx1)
      have HI1 := hidP (HI.out.below hx1)
      have hx2 := Ext.alloc w1 (.cells #[.slice a1 n c1] 22)
      have HLR : Hid ((dig L n v).length = n) := dig_length _ _ _
      have HLY := hidP (lynTo_yes hb)
      clear ho1 hx1 HC HCl hb
      have HI2 := hidP (HI1.out.below hx2)
      have HL2 := hidP (HL1.out.below hx2)
      have HO2 := hidP (HO1.out.below hx2)
      have HX2 := hidP (HX1.out.trans hx2)
      obtain ⟨row, hrow⟩ : ∃ row, dig L n v = row := ⟨_, rfl⟩
      rw [hrow] at HLR HLY HI1 HI2 HO1 HO2
      have HRW := hidP hrow
      clear hrow
      have HGl : w.heap.size + 1 < wo.heap.size := by
        obtain ⟨g, e, _, hl, _⟩ := HI.out.cell 0 hn1
        simp only [Option.some.injEq, Addr.mk.injEq, and_true] at e
        omega
      have HAp : Hid (∀ q, q < m → Apart (hv.getD q (none, 0)).1 a1) := fun q hq b o b' o' e e' => by
        have := HL.out.lt q hq b o e
        have := (HO1.out.at_base b' o' e').1
        omega
      have HFr : Hid (Apart av a1) := fun b o b' o' e e' => by
        have := HL.out.olt b o e
        have := (HO1.out.at_base b' o' e').1
        omega
      have HA3 : Hid (∀ q, q < m + 1 → Apart (some ⟨w.heap.size + 1, 0, none⟩) ((hv ++ [(a1, c1)]).getD q (none, 0)).1) := fun q hq => by
        rcases Nat.lt_succ_iff_lt_or_eq.1 hq with h3 | rfl
        · have := HA.out q h3
          rw [List.getD_eq_getElem?_getD, List.getElem?_append_left (by rw [HL.out.hl]; exact h3), ← List.getD_eq_getElem?_getD]
          exact this
        · have e1 : (hv ++ [(a1, c1)]).getD q (none, 0) = (a1, c1) := by
            rw [List.getD_eq_getElem?_getD, List.getElem?_append_right (by rw [HL.out.hl]; exact Nat.le_refl _), HL.out.hl]
            simp
          rw [e1]
          intro b o b' o' e e'
          have := (HO1.out.at_base b' o' e').1
          simp only [Option.some.injEq, Addr.mk.injEq, and_true] at e
          omega
      have HCe : Hid (∀ q, q < rowK.size → (w1.alloc (.cells #[.slice a1 n c1] 22)).cell? ⟨w1.heap.size, q, none⟩ = (rowK.cells a1 c1 row)[q]?) := fun q hq => by
        rw [cell_top _ _ _ _ _ rfl]
        show _ = ([Value.slice a1 row.length c1])[q]?
        rw [HLR.out]
        simp
      have HR3 : Hid (OwnI (w1.alloc (.cells #[.slice a1 n c1] 22)) w.heap.size a1 row.length c1 row) := by show OwnI _ _ _ _ _ _; rw [HLR.out]; exact HO2.out.base HX.out.size
      clear hx2 HL1 HO1 HX1 HO2 HI1
      go_wp2_with (at_builtin; refine wpList_append_elem2 rowK 73 (.slice none 0 0) 24 rfl (.tmp 13) (.tmp 16) rfl Try.underlying73 Try.info22 rfl (by omega) w.heap.size _ av m cv hv _ rfl HL2.out w1.heap.size 1 (a1, c1) row rfl HCe.out HR3.out HAp.out HFr.out (by omega) HX2.out.size ?_; intro a3 c3 w3 ho3 hg3 _; have HX3 := hidP (show Ext w w3 from HL2.out.below_grown hg3 HX2.out HX2.out.size); have HI3 := hidP (HI2.out.grown hg3 fun g o e => HL2.out.ints_far HI2.out g o e); have HL3 : OwnK rowK w3 w.heap.size w3.heap.size a3 (m + 1) c3 (hv ++ [(a1, c1)]) (lynTo L n v ++ [row]) := ho3; rw [← HLY.out] at HL3; have HL3 := hidP HL3; clear ho3 hg3)
      have hm3 : m + 1 ≤ v + 1 := by omega
      clear HLY hmv HL HA HX HAp HFr HCe HR3 HL2 HX2 HI2 HI HGl
    all_goals
      have HU := hidP (UpdI.start HI3.out.ints)
      go_loopg [7] n (fun gk u wr => ∃ (m t q : Nat) (x : Int), m = gk ∧ m + t = n ∧ u = .int .i64 x ∧ (x ≤ m - 1 ∧ (m : Int) - 1 ≤ x) ∧ Hid (q < L ^ m ∧ (q + 1) * L ^ t = v + 1) ∧ Hid (UpdI w3 wr (some ⟨w.heap.size + 1, 0, none⟩) n (dig L m q ++ List.replicate t 0)))
      case atStart => exact ⟨n, 0, v, _, rfl, rfl, rfl, ⟨Int.le_refl _, Int.le_refl _⟩, ⟨by rw [← HN.out]; exact hvn, by simp⟩, by first | (rw [HRW.out]; simpa using HU) | simpa using HU⟩
      case round =>
        clear HU
        obtain ⟨m', t, q, x, rfl, hmt, rfl, ⟨hx1, hx2⟩, HQ, HU⟩ := hrel
        have HI4 := hidP (HU.out.ints HI3.out.ints)
        have HX4 := hidP (show Ext w wr from HU.out.below HX3.out HX3.out.size (fun b o e _ => by simp only [Option.some.injEq, Addr.mk.injEq, and_true] at e; omega))
        have HL4 := hidP ((HL3.out.others HU.out (fun b o b' o' e e' => fun hbb => HL3.out.ints_far HI3.out b o e (by rw [hbb, e']; rfl)) (fun q hq => HA3.out q hq)).weaken (U' := wr.heap.size) (Nat.le_refl _) HU.out.size)
        have HO4 := hidP (HU.out.own HI3.out)
        by_cases hm0 : m' = 0
        · obtain rfl : x = -1 := by omega
          subst hm0
          have hv1 : N = v + 1 := by
            have h1 := HQ.out.1
            have h2 := HQ.out.2
            have h3 := HN.out
            obtain rfl : t = n := by omega
            rw [← h3] at h2
            simp at h1
            subst h1
            omega
          have HLN : Hid (lynTo L n (v + 1) = lynTo L n (L ^ n)) := by show _ = _; rw [← HN.out, hv1]
          rw [HLN.out] at HL4
          clear hv1
          go_wp2
          go_ret
          exact ⟨_, _, _, _, rfl, HL4.out, HX4.out⟩
        · obtain ⟨j, rfl⟩ : ∃ j, m' = j + 1 := ⟨m' - 1, by omega⟩
          obtain rfl : x = (j : Int) := by omega
          have hjn : j < n := by omega
          have hc := HI4.out.atc j hjn
          rw [dig_last, Nat.zero_add] at hc
          have hfz := (HU.out.cellAt j hjn)
          have hfr : wr.frozen? ⟨w.heap.size + 1, j, none⟩ = false := by
            obtain ⟨y, _, hz⟩ := hfz
            rw [Nat.zero_add] at hz
            rw [hz]
            have := HI3.out.unfrozen j _ _ hjn rfl
            simpa using this
          clear hfz hm0
          have hrL : q % L < L := Nat.mod_lt _ hL
          have HUS := hidP (fun y => HU.out.store j hjn y)
          simp only [Nat.zero_add] at HUS
          by_cases hd : q % L = L - 1
          · have hW := dig_wipe L j q t
            have HUW := hidP (HUS.out 0)
            rw [hW] at HUW
            have HQ2 : Hid (q / L < L ^ j ∧ (q / L + 1) * L ^ (t + 1) = v + 1) := by
              obtain ⟨h1, h2⟩ := HQ.out
              refine ⟨?_, ?_⟩
              · rw [Nat.div_lt_iff_lt_mul hL, ← Nat.pow_succ]; exact h1
              · rw [← h2, Nat.pow_succ, Nat.mul_comm (L ^ t) L, ← Nat.mul_assoc]
                congr 1
                have := Nat.div_add_mod q L
                rw [Nat.add_mul, Nat.mul_comm (q / L) L]
                omega
            have hbt : (((q % L : Nat) : Int) == (L : Int) - 1) = true := by rw [beq_iff_eq]; omega
            clear hW hd HUS HQ hrL
            generalize q % L = r at *
            go_wp2
            go_roundg j
            case measure => omega
            case rel => exact ⟨j, t + 1, q / L, (j : Int) - 1, rfl, by omega, rfl, ⟨Int.le_refl _, Int.le_refl _⟩, HQ2, HUW⟩
          · have hW := dig_up L j q t (by omega)
            have HUW := hidP (HUS.out (((q % L : Nat) : Int) + 1))
            rw [hW] at HUW
            have HQ2 : Hid (v + 1 < L ^ n ∧ dig L (j + 1) (q + 1) ++ List.replicate t 0 = dig L n (v + 1)) := by
              obtain ⟨h1, h2⟩ := HQ.out
              have hlt : q + 1 < L ^ (j + 1) := by
                rcases Nat.lt_or_ge (q + 1) (L ^ (j + 1)) with h3 | h3
                · exact h3
                · exfalso
                  have h3' : L ^ (j + 1) = L * L ^ j := Nat.pow_succ'
                  have h4 : q + 1 = L * L ^ j := by omega
                  have h5 : (q + 1) % L = 0 := by rw [h4]; exact Nat.mul_mod_right _ _
                  have h6 : q % L + 1 < L := by omega
                  have h7 := Nat.add_mod q 1 L
                  rcases Nat.lt_or_ge 1 L with h8 | h8
                  · rw [Nat.mod_eq_of_lt h8, Nat.mod_eq_of_lt h6] at h7
                    omega
                  · omega
              refine ⟨?_, ?_⟩
              · rw [← h2, show n = (j + 1) + t by omega, Nat.pow_add]
                exact Nat.mul_lt_mul_of_pos_right hlt (Nat.pow_pos hL)
              · rw [← h2, show n = (j + 1) + t by omega, dig_shift hL]
            have hbt : (((q % L : Nat) : Int) == (L : Int) - 1) = false := by rw [beq_eq_false_iff_ne]; omega
            clear hW hd HUS HQ
            generalize q % L = r at *
            have hgk : 0 < gk := by omega
            go_wp2
            have hu := HUW.out
            rw [HQ2.out.2] at hu
            have HI5 := hidP (hu.own HI3.out)
            have HX5 := hidP (show Ext w _ from hu.below HX3.out HX3.out.size (fun b o e _ => by simp only [Option.some.injEq, Addr.mk.injEq, and_true] at e; omega))
            have HL5 := hidP ((HL3.out.others hu (fun b o b' o' e e' => fun hbb => HL3.out.ints_far HI3.out b o e (by rw [hbb, e']; rfl)) (fun q hq => HA3.out q hq)).weaken (Nat.le_refl _) hu.size)
            clear hu
            go_roundg (gk - 1)
            case measure => omega
            case rel => exact ⟨v + 1, _, _, _, _, by have := HN.out; omega, HQ2.out.1, hm3, rfl, HL5, HI5, HA3, HX5⟩
end Go.Proofs.Ytenlhfimdpcaoaa

namespace Go.Proofs.Ytenlhfimdpcaoaa
open Go.RowKit

theorem moeTo_range (f n d : Nat) (out : Int) (h : -1 ≤ out ∧ out ≤ 1) : -1 ≤ moeTo f n d out ∧ moeTo f n d out ≤ 1 := by
  induction f generalizing n d out with
  | zero => exact h
  | succ f ih =>
    unfold moeTo
    split
    · exact h
    · split
      · exact ih _ _ _ h
      · split
        · omega
        · exact ih _ _ _ (by omega)
set_option maxHeartbeats 1000000 in
theorem moebius_any (n : Nat) (w : World) (hn1 : 1 ≤ n) (hn : n ≤ 1000000) :
    Calls Try.prog 69 #[.int .i64 n] w fun e w' => e = .returned (.int .i64 (moeL n)) ∧ w = w' := by
  go_enter Try.func69, Try.ntmps69
  go_wp2
  go_loop [0, 3, 4] (fun a b c => ∃ (m d f : Nat) (o : Int), 1 ≤ m ∧ m ≤ n ∧ 2 ≤ d ∧ d ≤ n + 2 ∧ a = .int .i64 m ∧ b = .int .i64 o ∧ c = .int .i64 d ∧ -1 ≤ o ∧ o ≤ 1 ∧ m + 1 ≤ f + d ∧ Hid (moeTo f m d o = moeL n) ∧ Hid (∀ k, 1 < k → m % k = 0 → d ≤ k)) (fun a _ c => (intOf a + 2 - intOf c).toNat)
  case atStart => exact ⟨n, 2, n, 1, hn1, Nat.le_refl _, Nat.le_refl _, by omega, rfl, rfl, rfl, by omega, by omega, by omega, rfl, fun k h _ => h⟩
  case round =>
    obtain ⟨m, d, f, o, hm1, hmn, hd2, hdn, rfl, rfl, rfl, ho1, ho2, hf, HE, HJ⟩ := hrel
    by_cases h1 : m ≤ 1
    · have HR : Hid (moeL n = o) := by
        show _ = _
        rw [← HE.out]
        cases f with
        | zero => rfl
        | succ f => simp [moeTo, h1]
      go_wp2
      go_ret
      exact ⟨ret_int HR.out.symm, rfl⟩
    · have hdm : d ≤ m := HJ.out m (by omega) (Nat.mod_self m)
      obtain ⟨f, rfl⟩ : ∃ g, f = g + 1 := ⟨f - 1, by omega⟩
      have hE := HE.out
      rw [moeTo, if_neg h1] at hE
      by_cases h2 : m % d = 0
      · rw [if_neg (by simpa using h2)] at hE
        have hb : ((m : Int) % (d : Int) != 0) = false := by
          have : ((m % d : Nat) : Int) = (m : Int) % (d : Int) := Int.natCast_emod m d
          rw [← this, h2]; rfl
        have hq : (m : Int) / (d : Int) = ((m / d : Nat) : Int) := (Int.natCast_ediv m d).symm
        have hqm : m / d ≤ m := Nat.div_le_self _ _
        have hq1 : 1 ≤ m / d := Nat.div_pos hdm (by omega)
        have hmul : m = d * (m / d) := by have := Nat.div_add_mod m d; omega
        have HMU := hidP hmul
        clear hmul
        by_cases h3 : m / d % d = 0
        · rw [if_pos h3] at hE
          have hb3 : (((m / d : Nat) : Int) % (d : Int) == 0) = true := by
            have : ((m / d % d : Nat) : Int) = ((m / d : Nat) : Int) % (d : Int) := Int.natCast_emod _ d
            rw [← this, h3]; rfl
          have HE2 := hidP hE
          clear h2 h3 hE HE
          generalize m / d = q at *
          go_wp2
          go_ret
          exact ⟨ret_int HE2.out, rfl⟩
        · rw [if_neg h3] at hE
          have hb3 : (((m / d : Nat) : Int) % (d : Int) == 0) = false := by
            have : ((m / d % d : Nat) : Int) = ((m / d : Nat) : Int) % (d : Int) := Int.natCast_emod _ d
            rw [← this, beq_eq_false_iff_ne]; omega
          have HE2 := hidP hE
          have HJ2 : Hid (∀ k, 1 < k → m / d % k = 0 → d + 1 ≤ k) := by
            intro k hk hkm
            have h4 : d ≤ k := HJ.out k hk (by
              rw [HMU.out, Nat.mul_mod, hkm]; simp)
            rcases Nat.lt_or_ge d k with h5 | h5
            · exact h5
            · obtain rfl : k = d := by omega
              exact absurd hkm h3
          clear h2 h3 hE HE HJ
          have hlt : m / d + 1 ≤ f + (d + 1) := by omega
          generalize m / d = q at *
          go_wp2
          go_round
          case rel => exact ⟨q, d + 1, f, -o, by omega, by omega, by omega, by omega, by first | rfl | go_num, by first | rfl | go_num, by go_num, by omega, by omega, hlt, HE2, HJ2⟩
          case measure => simp [intOf]; omega
      · rw [if_pos (by simpa using h2)] at hE
        have hb : ((m : Int) % (d : Int) != 0) = true := by
          have : ((m % d : Nat) : Int) = (m : Int) % (d : Int) := Int.natCast_emod m d
          rw [← this, bne_iff_ne]; omega
        have HE2 := hidP hE
        have HJ2 : Hid (∀ k, 1 < k → m % k = 0 → d + 1 ≤ k) := by
          intro k hk hkm
          have h4 : d ≤ k := HJ.out k hk hkm
          rcases Nat.lt_or_ge d k with h5 | h5
          · exact h5
          · obtain rfl : k = d := by omega
            exact absurd hkm h2
        clear h2 hE HE HJ
        go_wp2
        go_round
        case rel => exact ⟨m, d + 1, f, o, by omega, by omega, by omega, by omega, rfl, rfl, by go_num, by omega, by omega, by omega, HE2, HJ2⟩
        case measure => simp [intOf]; omega
set_option maxRecDepth 100000 in
set_option maxHeartbeats 2000000 in
theorem lyndonCount_any (L n : Nat) (w : World) (hL : 1 ≤ L) (hL4 : L ≤ 4) (hn1 : 1 ≤ n) (hn : n ≤ 8) :
    Calls Try.prog 16 #[.int .i64 L, .int .i64 n] w fun e w' => e = .returned (.int .i64 (cntL L n)) ∧ w = w' := by
  have h1 : insB L 1 4 = true := insB_true.2 (by omega)
  have h2 : insB n 1 8 = true := insB_true.2 (by omega)
  have HM := hidP (fun d (hd : 1 ≤ d) (hd2 : d ≤ 8) => moebius_any d w hd (by omega))
  have HPW : Hid (∀ j, j ≤ 8 → L ^ j ≤ 65536) := fun j hj => Nat.le_trans (Nat.pow_le_pow_left hL4 j) (Nat.le_trans (Nat.pow_le_pow_right (by omega) hj) (by decide))
  go_enter Try.func16, Try.ntmps16
  go_wp2_with (go_at_call 56; refine (inside_any _ _ _ _).mono ?_; rintro e w' ⟨rfl, rfl⟩)
  go_loop [5, 6] (fun a b => ∃ (k : Nat) (S : Int), k ≤ n ∧ a = .int .i64 S ∧ b = .int .i64 ((k + 1 : Nat) : Int) ∧ -65536 * (k : Int) ≤ S ∧ S ≤ 65536 * (k : Int) ∧ Hid (S = cntTo L n k)) (fun _ b => (n + 2 - intOf b).toNat)
  case atStart => exact ⟨0, 0, Nat.zero_le _, rfl, rfl, by omega, by omega, rfl⟩
  case round =>
    obtain ⟨k, S, hk, rfl, rfl, hS1, hS2, HS⟩ := hrel
    by_cases hlt : k < n
    · by_cases hd : n % (k + 1) = 0
      · have hb : ((n : Int) % ((k + 1 : Nat) : Int) == 0) = true := by
          have : ((n % (k + 1) : Nat) : Int) = (n : Int) % ((k + 1 : Nat) : Int) := Int.natCast_emod _ _
          rw [← this, hd]; rfl
        have hb2 : ((n : Int) % ((k : Int) + 1) == 0) = true := by simpa using hb
        have hq : (n : Int) / ((k : Int) + 1) = ((n / (k + 1) : Nat) : Int) := by
          simp [Int.natCast_ediv]
        have hqn : n / (k + 1) ≤ n := Nat.div_le_self _ _
        have HC : Hid (cntTo L n (k + 1) = S + moeL (k + 1) * (L ^ (n / (k + 1)) : Nat)) := by
          show _ = _
          rw [cntTo, if_pos hd, HS.out]
        clear hd hb
        generalize n / (k + 1) = q at *
        go_wp2
        go_loop [7, 28] (fun a b => ∃ j p : Nat, j ≤ q ∧ p ≤ 65536 ∧ a = .int .i64 p ∧ b = .int .i64 j ∧ Hid (p = L ^ j)) (fun _ b => q - (intOf b).toNat)
        case atStart => exact ⟨0, 1, Nat.zero_le _, by omega, rfl, rfl, by show _ = _; simp⟩
        case round =>
          obtain ⟨j, p, hj, hp, rfl, rfl, HP⟩ := hrel
          by_cases hjl : j < q
          · have hp2 : p * L ≤ 65536 := by
              have := HPW.out (j + 1) (by omega)
              rw [Nat.pow_succ, ← HP.out] at this
              exact this
            have hp3 : (p : Int) * (L : Int) ≤ 65536 := by
              have : ((p * L : Nat) : Int) ≤ 65536 := by omega
              simpa using this
            have hp4 : 0 ≤ (p : Int) * (L : Int) := Int.mul_nonneg (by omega) (by omega)
            have HP2 : Hid (p * L = L ^ (j + 1)) := by show _ = _; rw [Nat.pow_succ, ← HP.out]
            go_wp2
            go_round
            case rel => exact ⟨j + 1, p * L, by omega, hp2, by go_num, by go_num, HP2⟩
            case measure => simp [intOf]; omega
          · obtain rfl : j = q := by omega
            have hrg := moeTo_range (k + 1) (k + 1) 2 1 (by omega)
            have hrg2 : -1 ≤ moeL (k + 1) ∧ moeL (k + 1) ≤ 1 := hrg
            have HMk := hidP (HM.out (k + 1) (by omega) (by omega))
            have hC := HC.out
            rw [← HP.out] at hC
            clear hrg HC
            generalize moeL (k + 1) = e0 at *
            have hb1 : -65536 ≤ e0 * (p : Int) ∧ e0 * (p : Int) ≤ 65536 := by
              obtain ⟨g1, g2⟩ := hrg2
              have : e0 = -1 ∨ e0 = 0 ∨ e0 = 1 := by omega
              rcases this with rfl | rfl | rfl <;> omega
            obtain ⟨hb1a, hb1b⟩ := hb1
            have HC := hidP hC
            clear hC
            go_wp2_with fail
            first | refine HMk.out.mono ?_ | (rw [show ((k : Int) + 1) = ((k + 1 : Nat) : Int) from by simp]; refine HMk.out.mono ?_)
            rintro e w' ⟨rfl, rfl⟩
            go_wp2
            go_round
            case rel => exact ⟨k + 1, S + e0 * p, by omega, rfl, by go_num, by omega, by omega, by show _ = _; rw [HC.out]⟩
            case measure => simp [intOf]; omega
      · have hb : ((n : Int) % ((k : Int) + 1) == 0) = false := by
          have : ((n % (k + 1) : Nat) : Int) = (n : Int) % ((k : Int) + 1) := by simp [Int.natCast_emod]
          rw [← this, beq_eq_false_iff_ne]; omega
        have HC : Hid (S = cntTo L n (k + 1)) := by
          show _ = _
          rw [cntTo, if_neg hd, HS.out]
        clear hd
        go_wp2
        go_round
        case rel => exact ⟨k + 1, S, by omega, rfl, by go_num, by omega, by omega, HC⟩
        case measure => simp [intOf]; omega
    · obtain rfl : k = n := by omega
      have HR : Hid (S.tdiv k = cntL L k) := by show _ = _; rw [cntL, HS.out]
      go_wp2
      go_ret
      exact ⟨ret_int HR.out, rfl⟩
end Go.Proofs.Ytenlhfimdpcaoaa

namespace Go.Proofs.Ytenlhfimdpcaoaa
open Go.RowKit

theorem cnt_fits : ∀ L, L < 4 → ∀ n, n < 8 → fitsF (L + 1) n = true → ((lynTo (L + 1) (n + 1) ((L + 1) ^ (n + 1))).length : Int) = cntL (L + 1) (n + 1) := by decide +kernel
theorem cnt_fit {M k : Nat} (h1 : 1 ≤ M) (h4 : M ≤ 4) (hk : k + 1 ≤ 8) (hf : fitsF M k = true) : cntL M (k + 1) = ((lynTo M (k + 1) (M ^ (k + 1))).length : Int) := by
  obtain ⟨m, rfl⟩ : ∃ m, M = m + 1 := ⟨M - 1, by omega⟩
  exact (cnt_fits m (by omega) k (by omega) hf).symm
set_option maxRecDepth 100000 in
set_option maxHeartbeats 8000000 in
theorem freeAlgebra_any (p L n : Int) (w : World) :
    Calls Try.prog 9 #[.int .i64 p, .int .i64 L, .int .i64 n] w fun e w' => ∃ a N c, e = .returned (.tuple #[algV (freeRes p L n).2.1 (freeRes p L n).2.2.1 a N c, .bool (freeRes p L n).1]) ∧ OwnI w' w.heap.size a N c (freeRes p L n).2.2.2 ∧ Ext w w' := by
  have hnew := fun w1 hx j => new_cell (w' := w1) (w := w) (cs := #[.int .i64 0, .int .i64 0, .slice none 0 0]) (E := 24) (b := w.heap.size) rfl hx j
  have hx0 := Ext.alloc w (.cells #[.int .i64 0, .int .i64 0, .slice none 0 0] 24)
  have HP := hidP (fun w' => isPrime_any p w')
  have HL := hidP (fun w' => inside_any L 1 4 w')
  have HNn := hidP (fun w' => inside_any n 1 8 w')
  have HNW := hidP hnew
  have HX0 := hidP hx0
  clear hnew hx0
  by_cases hgood : primeB p = true ∧ insB L 1 4 = true ∧ insB n 1 8 = true
  · obtain ⟨hp, hl, hnn⟩ := hgood
    obtain ⟨l1, l4⟩ := insB_true.1 hl
    obtain ⟨n1, n8⟩ := insB_true.1 hnn
    obtain ⟨M, rfl⟩ := Int.eq_ofNat_of_zero_le (show 0 ≤ L by omega)
    obtain ⟨q, rfl⟩ := Int.eq_ofNat_of_zero_le (show 0 ≤ n by omega)
    have HPt := hidP hp
    have HLt := hidP hl
    have HNt := hidP hnn
    go_enter Try.func9, Try.ntmps9
    go_wp2_with fail
    refine (HP.out _).mono ?_
    rintro e w' ⟨rfl, rfl⟩
    clear HP
    go_wp2_with fail
    refine (HL.out _).mono ?_
    rintro e w' ⟨rfl, rfl⟩
    clear HL
    go_wp2_with fail
    refine (HNn.out _).mono ?_
    rintro e w' ⟨rfl, rfl⟩
    clear HNn
    obtain ⟨w0, hw0⟩ : ∃ w0, w0 = w.alloc (.cells #[.int .i64 0, .int .i64 0, .slice none 0 0] 24) := ⟨_, rfl⟩
    rw [← hw0] at HNW HX0 ⊢
    clear hw0
    have HO := hidP (OwnK.made0 rowK w0)
    have hE : rowK.E = 22 := rfl
    rw [hE] at HO
    have HX := hidP (Ext.alloc w0 (.cells #[] 22))
    clear hE
    have HF0 := hidP (fits_zero (M := M) (by omega) (by omega))
    go_wp2
    clear hp hl hnn
    go_loopw [8, 9] (fun v8 v9 wr => ∃ (k : Nat) (av : Option Addr) (nv cv : Nat) (hv : List Hdr), k ≤ q ∧ v9 = .int .i64 ((k + 1 : Nat) : Int) ∧ v8 = .slice av nv cv ∧ Hid (fitsF M k = true) ∧ Hid (OwnK rowK wr w0.heap.size wr.heap.size av nv cv hv (wordsZ M k)) ∧ Hid (Ext w0 wr) ∧ Hid (av ≠ none)) (fun _ v9 _ => q + 1 - (intOf v9).toNat)
    case atStart => exact ⟨0, _, 0, 0, [], Nat.zero_le _, rfl, rfl, HF0, HO, HX, by show _ ≠ _; simp⟩
    case round =>
      clear HO HX HF0
      obtain ⟨k, av, nv, cv, hv, hk, rfl, rfl, HFt, HO, HX, HNn⟩ := hrel
      have hxl := HO.out.xl
      by_cases hkq : k < q
      · have HCn := hidP (fun w' => lyndonCount_any M (k + 1) w' (by omega) (by omega) (by omega) (by omega))
        rw [cnt_fit (by omega) (by omega) (by omega) HFt.out] at HCn
        have HWs := hidP (lyndonWordsI_any M (k + 1) wr (by omega) (by omega) (by omega) (by omega))
        have HW28 := hidP (words_len (L := M) (n := k) (by omega) (by omega) (by omega) HFt.out)
        have HWz : Hid (wordsZ M (k + 1) = wordsZ M k ++ lynTo M (k + 1) (M ^ (k + 1))) := rfl
        have hle : ((k + 1 : Nat) : Int) ≤ (q : Int) := by omega
        have hnv28 : nv ≤ 28 := by have := HW28.out.1; omega
        have hpos := words_pos (M := M) (by omega) (by omega) k
        rw [HWz.out, List.length_append] at hpos
        have hwl : (wordsZ M (k + 1)).length = nv + (lynTo M (k + 1) (M ^ (k + 1))).length := by rw [HWz.out, List.length_append, hxl]
        rw [hxl] at hpos
        have hlw : (lynTo M (k + 1) (M ^ (k + 1))).length ≤ 100000 := by
          have h1 := lynTo_length M (k + 1) (M ^ (k + 1))
          have h2 : M ^ (k + 1) ≤ 4 ^ 8 := Nat.le_trans (Nat.pow_le_pow_left (by omega) _) (Nat.pow_le_pow_right (by omega) (by omega))
          omega
        generalize lynTo M (k + 1) (M ^ (k + 1)) = lw at *
        have e1 : IntKind.i64.wrap ((nv : Int) + (lw.length : Int)) = (nv : Int) + (lw.length : Int) := wrap_in (by omega) (by omega)
        go_wp2_with fail
        refine (HCn.out _).mono ?_
        rintro e w' ⟨rfl, rfl⟩
        cases hfk : fitsF M (k + 1) with
        | true =>
          have hw2 := words_len (L := M) (n := k + 1) (by omega) (by omega) (by omega) hfk
          have hgtI : ¬ ((28 : Int) < (nv : Int) + (lw.length : Int)) := by omega
          have HFt2 := hidP hfk
          clear hw2 hfk
          go_wp2_with fail
          refine HWs.out.mono ?_
          rintro e w4 ⟨g4, m4, c4, hs4, rfl, ho4, hx4⟩
          have hm4 := ho4.xl
          have HO4 := hidP (HO.out.below hx4)
          have HL4 := hidP (ho4.weaken (B' := w0.heap.size) HX.out.size (Nat.le_refl _))
          have HX4 := hidP (HX.out.trans hx4)
          have HAp : Hid (∀ i j, i < nv → j < m4 → Apart (hv.getD i (none, 0)).1 (hs4.getD j (none, 0)).1) := by
            intro i j hi hj b o b' o' e e'
            have h1 := HO.out.lt i hi b o e
            have h2 := ((ho4.each j hj).at_base b' o' e').1
            omega
          cases g4 with
          | none =>
            obtain ⟨rfl, rfl⟩ : m4 = 0 ∧ c4 = 0 := by
              rcases HL4.out.form with ⟨_, h1, h2⟩ | ⟨_, _, h1, _⟩
              · exact ⟨h1, h2⟩
              · cases h1
            have hlw0 : lw = [] := List.length_eq_zero_iff.1 hm4
            have HO6 : Hid (OwnK rowK w4 w0.heap.size w4.heap.size av nv cv hv (wordsZ M (k + 1))) := by
              show OwnK _ _ _ _ _ _ _ _ _
              rw [HWz.out, hlw0, List.append_nil]
              exact HO4.out.weaken (Nat.le_refl _) hx4.size
            clear ho4 hx4 HWs hm4 hlw0 HL4 HAp
            obtain ⟨i0, hi0, hz0, hz1, hz2⟩ := info_parts Try.info22
            go_wp2_with (at_builtin; refine wpList_append_own_none rfl (.tmp 38) (.tmp 41) 73 rfl w0.heap.size 22 i0 1 Try.underlying73 hi0 _ nv (rowK.all hv (wordsZ M k)) rfl HO4.out.row rfl ?_)
            go_roundw
            case rel => exact ⟨k + 1, av, nv, cv, hv, by omega, by go_num, rfl, HFt2, HO6, HX4, HNn⟩
            case measure => simp [intOf]; omega
          | some ad =>
            obtain ⟨gg, rfl⟩ : ∃ gg, ad = ⟨gg, 0, none⟩ := by
              rcases HL4.out.form with ⟨h1, _⟩ | ⟨gg, _, h1, _⟩
              · cases h1
              · exact ⟨gg, Option.some.inj h1⟩
            clear ho4 hx4 HWs
            go_wp2_with (at_builtin; refine wpList_append_elems rowK 73 (.slice none 0 0) 24 rfl (.tmp 38) (.tmp 41) rfl Try.underlying73 Try.info22 rfl (by omega) w0.heap.size _ _ av nv cv hv hs4 _ lw rfl HO4.out gg m4 c4 rfl HL4.out HAp.out (by omega) HNn.out HX4.out.size ?_; intro a5 c5 w5 ho5 hg5 hn5; have HX5 : Hid (Ext w0 w5) := HO4.out.below_grown hg5 HX4.out HX4.out.size; have HN6 : Hid (a5 ≠ none) := ho5.someOf (by omega); have HO5 := hidP ho5; clear ho5 hg5 hn5)
            have HO6 : Hid (OwnK rowK w5 w0.heap.size w5.heap.size a5 (nv + m4) c5 (hv ++ hs4) (wordsZ M (k + 1))) := by
              show OwnK _ _ _ _ _ _ _ _ _
              rw [HWz.out]
              exact HO5.out
            go_roundw
            case rel => exact ⟨k + 1, a5, nv + m4, c5, hv ++ hs4, by omega, by go_num, rfl, HFt2, HO6, HX5, HN6⟩
            case measure => simp [intOf]; omega
        | false =>
          have hw2 := HW28.out.2 hfk (by omega)
          have hgtI : (28 : Int) < (nv : Int) + (lw.length : Int) := by omega
          have HR := hidP (freeRes_no (p := p) (L := M) (n := q) (by
            have := fits_none hfk (show k + 1 ≤ q by omega)
            show (primeB p && insB (M : Int) 1 4 && insB (q : Int) 1 8 && fitsF M q) = false
            rw [this, Bool.and_false]))
          obtain ⟨r0, y0⟩ := HNW.out wr HX.out 0
          obtain ⟨r1, y1⟩ := HNW.out wr HX.out 1
          obtain ⟨r2, y2⟩ := HNW.out wr HX.out 2
          have r0 := r0.trans (show _ = some (Value.int .i64 0) from rfl)
          have r1 := r1.trans (show _ = some (Value.int .i64 0) from rfl)
          have r2 := r2.trans (show _ = some (Value.slice none 0 0) from rfl)
          clear hw2 hfk HWs hwl
          go_wp2
          refine bodyPost_ret (v := .tuple #[algV 0 0 none 0 0, .bool false]) (by simp [results, Try.results9, go_sem, r0, r1, r2]) rfl ?_
          rw [HR.out]
          exact ⟨none, 0, 0, rfl, OwnI.nil _ _, Ext.setNew (Ext.setNew (Ext.setNew (HX0.out.trans HX.out) _ _ (Nat.le_refl _) _) _ _ (Nat.le_refl _) _) _ _ (Nat.le_refl _) _⟩
      · obtain rfl : k = q := by omega
        have HRs : Hid (freeRes p (M : Int) (k : Int) = (true, (p, ((wordsZ M k).length : Int), frTab p M k))) := by
          show _ = _
          unfold freeRes
          rw [if_pos]
          · rfl
          · show (primeB p && insB (M : Int) 1 4 && insB (k : Int) 1 8 && fitsF M k) = true
            rw [HPt.out, HLt.out, HNt.out, HFt.out]
            rfl
        have hw28 : nv ≤ 28 := by have := (words_len (L := M) (n := k) (by omega) (by omega) (by omega) HFt.out).1; omega
        have HFa := hidP (freeAlg_any p M k av nv cv w0.heap.size wr.heap.size hv wr HO.out HPt.out (by omega) (by omega) (by omega) hw28 (free_ok (free_fits HFt.out)))
        have HNw := hidP hxl
        have hknot : ¬ ((k + 1 : Nat) : Int) ≤ (k : Int) := by omega
        clear HNn HFt HO hkq hxl
        go_wp2_with fail
        refine HFa.out.mono ?_
        rintro e w2 ⟨a, rfl, ho2, hx2⟩
        have HX2 := hidP (HX.out.trans hx2)
        obtain ⟨r0, y0⟩ := HNW.out w2 HX2.out 0
        obtain ⟨r1, y1⟩ := HNW.out w2 HX2.out 1
        obtain ⟨r2, y2⟩ := HNW.out w2 HX2.out 2
        have r0 := r0.trans (show _ = some (Value.int .i64 0) from rfl)
        have r1 := r1.trans (show _ = some (Value.int .i64 0) from rfl)
        have r2 := r2.trans (show _ = some (Value.slice none 0 0) from rfl)
        have HLw : Hid (w.heap.size < wr.heap.size) := by
          have h1 := World.block_lt_of_cell? w0 _ (HNW.out w0 (Ext.refl _) 0).1
          have h2 := HX.out.size
          have h1 : w.heap.size < w0.heap.size := h1
          show _ < _
          omega
        have HO2 := hidP ho2
        clear ho2 hx2 HFa
        go_wp2
        refine bodyPost_ret (v := .tuple #[algV p (nv : Int) a (nv * nv * nv) (nv * nv * nv), .bool true]) (by simp [results, Try.results9, go_sem, r0, r1, r2]) rfl ?_
        rw [HRs.out]
        refine ⟨a, nv * nv * nv, nv * nv * nv, ?_, ?_, ?_⟩
        · rw [HNw.out]
        · exact (((HO2.out.setBelow _ _ HLw.out _).setBelow _ _ HLw.out _).setBelow _ _ HLw.out _).base (Nat.le_of_lt HLw.out)
        · exact Ext.setNew (Ext.setNew (Ext.setNew (HX0.out.trans HX2.out) _ _ (Nat.le_refl _) _) _ _ (Nat.le_refl _) _) _ _ (Nat.le_refl _) _
  · have HR := hidP (freeRes_no (p := p) (L := L) (n := n) (by
      cases hp : primeB p
      · rfl
      · cases hl : insB L 1 4
        · rfl
        · cases hn : insB n 1 8
          · rfl
          · exact absurd ⟨hp, hl, hn⟩ hgood))
    have hcase : primeB p = false ∨ (primeB p = true ∧ insB L 1 4 = false) ∨ (primeB p = true ∧ insB L 1 4 = true ∧ insB n 1 8 = false) := by
      cases hp : primeB p
      · exact .inl rfl
      · cases hl : insB L 1 4
        · exact .inr (.inl ⟨rfl, rfl⟩)
        · cases hn : insB n 1 8
          · exact .inr (.inr ⟨rfl, rfl, rfl⟩)
          · exact absurd ⟨hp, hl, hn⟩ hgood
    clear hgood
    go_enter Try.func9, Try.ntmps9
    obtain ⟨r0, y0⟩ := HNW.out _ (Ext.refl _) 0
    obtain ⟨r1, y1⟩ := HNW.out _ (Ext.refl _) 1
    obtain ⟨r2, y2⟩ := HNW.out _ (Ext.refl _) 2
    have r0 := r0.trans (show _ = some (Value.int .i64 0) from rfl)
    have r1 := r1.trans (show _ = some (Value.int .i64 0) from rfl)
    have r2 := r2.trans (show _ = some (Value.slice none 0 0) from rfl)
    rcases hcase with hp | ⟨hp, hl⟩ | ⟨hp, hl, hn⟩
    · clear HL HNn
      go_wp2_with fail
      refine (HP.out _).mono ?_
      rintro e w' ⟨rfl, rfl⟩
      go_wp2
      refine bodyPost_ret (v := .tuple #[algV 0 0 none 0 0, .bool false]) (by simp [results, Try.results9, go_sem, r0, r1, r2]) rfl ?_
      rw [HR.out]
      first | exact ⟨none, 0, 0, rfl, OwnI.nil _ _, HX0.out⟩ | exact ⟨none, 0, 0, rfl, OwnI.nil _ _, Ext.setNew (Ext.setNew (Ext.setNew HX0.out _ _ (Nat.le_refl _) _) _ _ (Nat.le_refl _) _) _ _ (Nat.le_refl _) _⟩
    · clear HNn
      go_wp2_with fail
      refine (HP.out _).mono ?_
      rintro e w' ⟨rfl, rfl⟩
      clear HP
      go_wp2_with fail
      refine (HL.out _).mono ?_
      rintro e w' ⟨rfl, rfl⟩
      go_wp2
      refine bodyPost_ret (v := .tuple #[algV 0 0 none 0 0, .bool false]) (by simp [results, Try.results9, go_sem, r0, r1, r2]) rfl ?_
      rw [HR.out]
      first | exact ⟨none, 0, 0, rfl, OwnI.nil _ _, HX0.out⟩ | exact ⟨none, 0, 0, rfl, OwnI.nil _ _, Ext.setNew (Ext.setNew (Ext.setNew HX0.out _ _ (Nat.le_refl _) _) _ _ (Nat.le_refl _) _) _ _ (Nat.le_refl _) _⟩
    · go_wp2_with fail
      refine (HP.out _).mono ?_
      rintro e w' ⟨rfl, rfl⟩
      clear HP
      go_wp2_with fail
      refine (HL.out _).mono ?_
      rintro e w' ⟨rfl, rfl⟩
      clear HL
      go_wp2_with fail
      refine (HNn.out _).mono ?_
      rintro e w' ⟨rfl, rfl⟩
      go_wp2
      refine bodyPost_ret (v := .tuple #[algV 0 0 none 0 0, .bool false]) (by simp [results, Try.results9, go_sem, r0, r1, r2]) rfl ?_
      rw [HR.out]
      first | exact ⟨none, 0, 0, rfl, OwnI.nil _ _, HX0.out⟩ | exact ⟨none, 0, 0, rfl, OwnI.nil _ _, Ext.setNew (Ext.setNew (Ext.setNew HX0.out _ _ (Nat.le_refl _) _) _ _ (Nat.le_refl _) _) _ _ (Nat.le_refl _) _⟩
end Go.Proofs.Ytenlhfimdpcaoaa

namespace Go.Proofs.Ytenlhfimdpcaoaa
open Go.ChangeShapes Go.WideShapes Go.ChangeAt Go.RowKit Go.Joins Go.Deep

section
variable {H : Type} {enc : TypeId × Value → H} {P : Program} {w : World} {base : Nat} {spare : Nat → Bool} {held : Bool}

end
end Go.Proofs.Ytenlhfimdpcaoaa

namespace Go.Proofs.Ytenlhfimdpcaoaa.fnExactFreeAlgebra
open Go.ChangeShapes Go.WideShapes Go.ChangeAt Go.RowKit
set_option linter.unusedVariables false

theorem freeRes_len (p L n : Int) : (freeRes p L n).2.2.2.length ≤ 21952 := by
  unfold freeRes
  split
  · rename_i h
    simp only [Bool.and_eq_true] at h
    obtain ⟨⟨⟨_, hl⟩, hn⟩, hf⟩ := h
    obtain ⟨l1, l4⟩ := insB_true.1 hl
    obtain ⟨n1, n8⟩ := insB_true.1 hn
    have := (words_len (L := L.toNat) (n := n.toNat) (by omega) (by omega) (by omega) hf).1
    show (frTab p L.toNat n.toNat).length ≤ _
    unfold frTab byL
    rw [tabF_length]
    have h2 := Nat.mul_le_mul (Nat.mul_le_mul this this) this
    exact Nat.le_trans h2 (by decide)
  · simp
/-- The Go text returns true, and leaves what was there. -/
theorem walk (a0 a1 a2 : Int) (w : World) :
    Calls Try.prog 3 #[.int .i64 a0, .int .i64 a1, .int .i64 a2] w fun e w' => e = .returned (.bool true) ∧ Ext w w' := by
  have hS := hidP (fun w' => sFreeAlgebra_any a0 a1 a2 w')
  have hI := hidP (fun w' => freeAlgebra_any a0 a1 a2 w')
  have hL := freeRes_len a0 a1 a2
  obtain ⟨D, hD⟩ : ∃ D, D = freeRes a0 a1 a2 := ⟨_, rfl⟩
  rw [← hD] at hS hI hL
  obtain ⟨ok, P, d, t⟩ := D
  simp only at hS hI hL
  clear hD
  go_enter Try.func3, Try.ntmps3
  go_wp2_with fail
  refine (hS.out _).mono ?_
  rintro e w1 ⟨aS, nS, cS, rfl, hoS, hx1⟩
  have HoS := hidP hoS
  have HX1 := hidP hx1
  clear hoS hx1
  go_wp2_with fail
  refine (hI.out _).mono ?_
  rintro e w2 ⟨aI, nI, cI, rfl, hoI, hx2⟩
  obtain ⟨r0, r1, r2, _, _, _, hs12, hx12⟩ := resAlg hx2
  have HoI := hidP (hoI.base (B' := w1.heap.size + 1) (by simp))
  have HX12 := hidP hx12
  have HoS2 := hidP (HoS.out.below hx12)
  clear hoI hx2 hx12
  have HE := hidP (fun w' (hx : Ext w2 w') => eqAlgebra_any P d P d aI aS nI nS cI cS t t w' (HoI.out.ints.below hx) (HoS2.out.ints.below hx) (by have := HoI.out.len; omega) (by have := HoS.out.len; omega))
  simp only [and_self, decide_true] at HE
  go_wp2_with fail
  refine (HE.out _ (Ext.alloc _ _)).mono ?_
  rintro e w3 ⟨rfl, hx3⟩
  obtain ⟨s0, s1, s2, _, _, _, hs23, hx23⟩ := resAlg hx3
  have t0 := (hx23.cell (p := ⟨w1.heap.size, 0, none⟩) hs12).trans r0
  have t1 := (hx23.cell (p := ⟨w1.heap.size, 1, none⟩) hs12).trans r1
  have t2 := (hx23.cell (p := ⟨w1.heap.size, 2, none⟩) hs12).trans r2
  have HoI3 := hidP (HoI.out.below hx23)
  have HX23 := hidP hx23
  clear r0 r1 r2 HE hx3 hx23
  have HM := hidP (markAlgebra_any P d _ aI nI cI 1 t w3 HoI3.out (by have := HoI.out.len; omega) (by omega) (by omega))
  have HBI := hidP (fun b o e => (HoI.out.at_base b o e))
  have HBS := hidP (fun b o e => (HoS.out.at_base b o e))
  go_wp2_with fail
  refine HM.out.mono ?_
  rintro e w4 ⟨rfl, hu4⟩
  have hal1 := (⟨t0, t1, t2⟩ : AlgAt w3 w1.heap.size P d aS nS cS).upd hu4 (fun b o e => by have := HBI.out b o e; omega)
  have hal2 := (⟨s0, s1, s2⟩ : AlgAt w3 w2.heap.size P d aI nI cI).upd hu4 (fun b o e => by have := HBI.out b o e; omega)
  have HoI4 := hidP (hu4.own HoI3.out)
  have HoS4 := hidP (((HoS2.out.below HX23.out)).others hu4 (fun b o b' o' e e' => by have := HBI.out b o e; have := HBS.out b' o' e'; omega))
  have HU4 := hidP hu4
  clear s0 s1 s2 t0 t1 t2 hu4 HM
  have HA2 := hidP hal2
  obtain ⟨s0, s1, s2⟩ := hal2
  have HA1 := hidP hal1
  clear hal1
  have hnI := hidP (HoI.out.len)
  have HH := hidP (fun w' (hx : Ext w4 w') => heldAlgebra_any P d aI nI cI 1 w' (HoI4.out.ints.below hx) (by have := hnI.out; omega) (by omega) (by omega))
  have hq : ¬ (1 + (nI : Int) < 0) := by omega
  go_wp2_with fail
  refine (HH.out _ (Ext.refl _)).mono ?_
  rintro e w5 ⟨rfl, hx5⟩
  have HX5 := hidP hx5
  clear s0 s1 s2 hx5
  go_wp2_with fail
  refine (hI.out _).mono ?_
  rintro e w6 ⟨aJ, nJ, cJ, rfl, hoJ, hx6⟩
  have HoJ := hidP hoJ
  have HX6 := hidP hx6
  have HE := hidP (fun w' (hx : Ext w6 w') => eqAlgebra_any P d P d aJ aS nJ nS cJ cS t t w' (HoJ.out.ints.below hx) ((((HoS4.out.below HX5.out).below HX6.out).below hx).ints) (by have := HoJ.out.len; omega) (by have := HoS.out.len; omega))
  simp only [and_self, decide_true] at HE
  obtain ⟨t0, t1, t2⟩ := (HA1.out.below HX5.out).below HX6.out
  have hs6 := World.block_lt_of_cell? w6 _ t0
  clear hoJ hx6
  go_wp2_with fail
  refine (HE.out _ (Ext.alloc _ _)).mono ?_
  rintro e w7 ⟨rfl, hx7⟩
  have HX7 := hidP ((Ext.alloc _ _).trans hx7)
  obtain ⟨s0, s1, s2⟩ := ((HA2.out.below HX5.out).below HX6.out).below HX7.out
  clear t0 t1 t2 hs6 hx7 HE
  go_wp2_with fail
  refine (HH.out _ ((HX5.out.trans HX6.out).trans HX7.out)).mono ?_
  rintro e w8 ⟨rfl, hx8⟩
  have HX8 := hidP hx8
  clear s0 s1 s2 hx8
  go_wp2
  go_ret
  refine ⟨rfl, ?_⟩
  have h3 : Ext w w3 := (HX1.out.trans HX12.out).trans HX23.out
  have h4 : Below w.heap.size w w4 := HU4.out.below h3 h3.size (fun b o e _ => by have := HBI.out b o e; have := HX1.out.size; omega)
  exact Ext.trans h4 (((HX5.out.trans HX6.out).trans HX7.out).trans HX8.out)

theorem own : ownKnob Try.prog.godebug = none := by kernel_rfl
/-! ### THE ROW's STEP -/
set_option maxRecDepth 100000 in
theorem lifted (os : Os) (started : os.Started) (H : Type) (enc : TypeId × Value → H) :
    ReturnsInHanded {} Try.checked os 3 .any (Rows.fnExactFreeAlgebraSpec.pre6 enc Try.prog Try.f3 Rows.fnExactFreeAlgebraRow.domain false) (Rows.fnExactFreeAlgebraSpec.post enc Try.prog Try.f3 false true false false) := by
  refine returnsInHanded_of_change (C := Try.checked) own started (by kernel_rfl) Try.func3
    (ChangeSpec.witness6 (enc := enc) (C := Try.checked) false ⟨#[], #[.int .i64 0, .int .i64 0, .int .i64 0], []⟩ 8 (by kernel_rfl) (by kernel_rfl) (by kernel_rfl) (by kernel_rfl)) ?_
  intro W base args ds gs before hval0 hW hcnd _
  have hval : ∀ (j : Nat) t v, Try.f3.params[j]? = some t → args[j]? = some v → Value.okWide Try.prog W .any base t v := hval0
  have hW' := hW
  obtain ⟨p, q, hA0, hV, rfl, hfz, hnd⟩ := hW
  have hA : DataW.TrodAll enc Try.prog W 0 (fun _ => true) true Try.f3.params.toList args.toList ds p := hA0
  rw [Try.params3] at hA hval
  obtain ⟨v0, vs0, d0, ds0, p0, q0, hargs, rfl, rfl, h0, r0⟩ := trodAll_cons hA
  obtain ⟨v1, vs1, d1, ds1, p1, q1, rfl, rfl, rfl, h1, r1⟩ := trodAll_cons r0
  obtain ⟨v2, vs2, d2, ds2, p2, q2, rfl, rfl, rfl, h2, r2⟩ := trodAll_cons r1
  obtain ⟨rfl, rfl, rfl⟩ := trodAll_nil r2
  obtain rfl : args = #[v0, v1, v2] := by cases args; simp_all
  obtain ⟨rfl, rfl⟩ := trodVars_none hV
  obtain ⟨a0, rfl, rfl, rfl, w0⟩ := open_int Try.underlying3 (hval 0 3 v0 rfl rfl) h0
  obtain ⟨a1, rfl, rfl, rfl, w1⟩ := open_int Try.underlying3 (hval 1 3 v1 rfl rfl) h1
  obtain ⟨a2, rfl, rfl, rfl, w2⟩ := open_int Try.underlying3 (hval 2 3 v2 rfl rfl) h2
  clear hA0 hval0
  refine (walk a0 a1 a2 W  ).mono fun e W' ⟨he, bel⟩ => ?_
  subst he
  exact ⟨_, rfl, _, _, _, [], _, [], hW', trodAll_mk1 (shut_bool Try.underlying4 _), (trodAll_cons_mk (shut_int Try.underlying3 w0) (trodAll_cons_mk (shut_int Try.underlying3 w1) (trodAll_cons_mk (shut_int Try.underlying3 w2) trodAll_mk0))), rfl, bel.frame _, fun h => by cases h⟩

theorem over : Rows.fnExactFreeAlgebraRow.holds Try.pinned (OpenSpec.ofChange Rows.fnExactFreeAlgebraSpec) :=
  OpenClaim.holds_of_wide 3 Try.f3 rfl rfl rfl rfl rfl rfl rfl ⟨rfl, rfl, rfl, rfl, rfl⟩ rfl rfl rfl rfl rfl (by kernel_rfl) Try.func3 (by kernel_rfl)
    (of_decide_eq_true (by kernel_rfl)) (by unfold Func.isWrapper; first | (rw [if_pos (by decide +kernel)]; kernel_rfl) | (rw [if_neg (by decide +kernel)]; exact ⟨rfl, rfl⟩))
    (fun os started H enc _ => lifted os started H enc)

/-- THE STATEMENT -/
theorem proved : Rows.FnExactFreeAlgebraSaid :=
  over
#print axioms proved

end Go.Proofs.Ytenlhfimdpcaoaa.fnExactFreeAlgebra
