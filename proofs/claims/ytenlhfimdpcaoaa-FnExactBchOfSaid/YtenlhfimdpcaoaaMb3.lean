/-
  What l1Reduce keeps: the numbers row by row, the matrix's block, the pivots. No walk yet.
  The reference's powers and inverses modulo a prime: l1Power, l1Inverse, InverseOf.
  Matrices in one list, number by number: the steps of the reference's reduction. No program in sight.
  The product of nilpotent elements: both sides' sums are the same; a matrix row by row in one list. No program in sight.
  Spaces of rows modulo a prime, plain: the reduced form and its pivots; a smaller space has fewer reduced rows. No program in sight.
  Spaces of rows modulo a prime, plain: reduced rows span the same; a smaller space has fewer of them. No program in sight.
  Powers modulo a prime: the little law of Fermat; the inverse as a power. No program in sight.
  Square matrices modulo p as lists of residues: products, their law of association, sums. No program in sight.
  The reference's matrix of some rows: l1Rows.
  A matrix in a block of its own: what stays when something else is written, what it holds when a field is set.
  The reference's small functions on matrices: l1At, l1Row, l1Copy, l1Zero, l1Unit.
  Series of an algebra: the steps that are closures, and the loop.
  The program's product of two spaces: (lie).product.
  The program's bracket and the space of rows: (lie).bracket, (lie).space, (lie).product.
  (The append of one element lies in OwnB.)
  l1Ints: a copy of a slice of integers.
  rowsOf, ZeroMatrix, UnitMatrix.
  Matrices as rows and back: slices.Grow and Concat, unit, rowsOf, matrixOf, UnitMatrix, span.
-/
import Derived.Test.YtenlhfimdpcaoaaMb2
import Derived.Lib.AppendZeros
namespace Go.Proofs.Ytenlhfimdpcaoaa
open Go.RowKit

/-- a matrix's value -/
abbrev matV (p r s : Int) (a : Option Addr) (n c : Nat) : Value := .agg #[.int .i64 p, .int .i64 r, .int .i64 s, .slice a n c]
/-- the four cells of a matrix in a variable of its own -/
structure MatAt (w : World) (b : Nat) (p r s : Int) (a : Option Addr) (n c : Nat) : Prop where
  c0 : w.cell? ⟨b, 0, none⟩ = some (.int .i64 p)
  c1 : w.cell? ⟨b, 1, none⟩ = some (.int .i64 r)
  c2 : w.cell? ⟨b, 2, none⟩ = some (.int .i64 s)
  c3 : w.cell? ⟨b, 3, none⟩ = some (.slice a n c)
theorem MatAt.below {w w' : World} {b : Nat} {p r s : Int} {a : Option Addr} {n c : Nat} (h : MatAt w b p r s a n c) (hb : Ext w w') : MatAt w' b p r s a n c :=
  have hl := World.block_lt_of_cell? w _ h.c0
  ⟨(hb.cell (p := ⟨b, 0, none⟩) hl).trans h.c0, (hb.cell (p := ⟨b, 1, none⟩) hl).trans h.c1, (hb.cell (p := ⟨b, 2, none⟩) hl).trans h.c2, (hb.cell (p := ⟨b, 3, none⟩) hl).trans h.c3⟩
theorem MatAt.new (w : World) (b : Nat) (hb : b = w.heap.size) (p r s : Int) (a : Option Addr) (n c : Nat) (E : TypeId) : MatAt (w.alloc (.cells #[.int .i64 p, .int .i64 r, .int .i64 s, .slice a n c] E)) b p r s a n c :=
  ⟨(cell_top _ _ _ _ _ hb).trans rfl, (cell_top _ _ _ _ _ hb).trans rfl, (cell_top _ _ _ _ _ hb).trans rfl, (cell_top _ _ _ _ _ hb).trans rfl⟩

/-- slices.Grow of nil -/
theorem grow_any (n : Nat) (w : World) (hn : n ≤ 1000000000) :
    Calls Try.prog 167 #[.slice none 0 0, .int .i64 n] w fun e w' => ∃ a c, e = .returned (.slice a 0 c) ∧ OwnI w' w.heap.size a 0 c [] ∧ Ext w w' := by
  rcases Nat.eq_zero_or_pos n with h0 | h0
  · subst h0
    go_enter Try.func167, Try.ntmps167
    go_wp2
    go_ret
    exact ⟨_, _, rfl, OwnI.nil _ _, Ext.refl _⟩
  · obtain ⟨i, hi, hz0, hz1, hz2⟩ := info_parts Try.info3
    have hr := fun ty => Lib.run_append_nil_zeros (P := Try.prog) w 22 3 ty 3 i (.int .i64 0) .i64 .i64 Try.underlying22 Try.underlying3 hi hz0 n h0 (by omega) (by omega) (by rw [hz2]; omega)
    have hge := grownCap_ge w n 0 3
    have hle := grownCap_le_maxLen w n 0 3 (by unfold maxLen; omega)
    have HO := hidP (ownI_zeros w n (grownCap w n 0 3 - n) w.heap.size (Nat.le_refl _) (grownCap w n 0 3) (by omega) hle)
    have HR := hidP hr
    clear hr hge hle hi hz0 hz1 hz2
    generalize grownCap w n 0 3 = cap at *
    go_enter Try.func167, Try.ntmps167
    go_wp2_with (at_builtin; refine Lib.wpList_append_run _ rfl (.tmp 20) (.tmp 21) 22 3 rfl _ _ rfl rfl _ _ (HR.out _) ?_)
    go_ret
    exact ⟨_, _, rfl, HO.out.below (Ext.drew _), (Ext.alloc _ _).trans (Ext.drew _)⟩
set_option maxHeartbeats 1000000 in
theorem concat_any (a : Option Addr) (n c : Nat) (rows : List (List Int)) (w : World) (h : RowsI w a n rows) (hn : n ≤ 1000000000) (hl : rows.flatten.length ≤ 1000000000) :
    Calls Try.prog 156 #[.slice a n c] w fun e w' => ∃ a' c', e = .returned (.slice a' rows.flatten.length c') ∧ OwnI w' w.heap.size a' rows.flatten.length c' rows.flatten ∧ Ext w w' := by
  have G := hidP h
  have L := hidP h.len
  have HLE := hidP (fun i => Nat.le_trans (flatten_take_le rows i) hl)
  clear h
  go_enter Try.func156, Try.ntmps156
  go_wp2
  go_loop [3, 11] (fun v i => ∃ k m : Nat, k ≤ n ∧ i = .int .i64 k ∧ v = .int .i64 m ∧ Hid (m = (rows.take k).flatten.length)) (fun _ i => n - (intOf i).toNat)
  case atStart => exact ⟨0, 0, Nat.zero_le _, rfl, rfl, by show _ = _; simp⟩
  case round =>
    obtain ⟨k, m, hk, rfl, rfl, HM⟩ := hrel
    by_cases hlt : k < n
    · obtain ⟨b, o, a', c', rfl, q, _⟩ := G.out.get k hlt
      have hs := flatten_take_succ rows k (by have := L.out; omega)
      have hb := HLE.out (k + 1)
      rw [hs, List.length_append] at hb
      have hm := HM.out
      rw [← hm] at hb
      have HM2 : Hid (m + (rows.getD k []).length = (rows.take (k + 1)).flatten.length) := by show _ = _; rw [hs, List.length_append, hm]
      clear hs hm
      generalize (rows.getD k []).length = l at *
      go_wp2
      go_round
      case rel => exact ⟨k + 1, m + l, by omega, by go_num, by go_num, HM2⟩
      case measure => simp [intOf]; omega
    · obtain rfl : k = n := by omega
      have hm := HM.out
      rw [List.take_of_length_le (by have := L.out; omega)] at hm
      have HM2 := hidP hm
      have hmb : m ≤ 1000000000 := by omega
      have HG := hidP (grow_any m w hmb)
      clear hm HM
      go_wp2_with fail
      refine HG.out.mono ?_
      rintro e w1 ⟨ag, cg, rfl, hog, hxg⟩
      have HOG := hidP hog
      have HXG := hidP hxg
      clear hog hxg HG
      go_wp2
      go_loopw [6, 27] (fun v i wr => ∃ (j q : Nat) (av : Option Addr) (cv : Nat), j ≤ k ∧ i = .int .i64 j ∧ v = .slice av q cv ∧ Hid (OwnI wr w.heap.size av q cv (rows.take j).flatten) ∧ Hid (Ext w wr)) (fun _ i _ => k - (intOf i).toNat)
      case atStart => exact ⟨0, 0, _, _, Nat.zero_le _, rfl, rfl, HOG, HXG⟩
      case round =>
        obtain ⟨j, q0, av, cv, hj, rfl, rfl, HO, HX⟩ := hrel
        by_cases hjl : j < k
        · obtain ⟨b, o, a', c', rfl, q, hI, hnil⟩ := (G.out.below HX.out).get j hjl
          have HI := hidP hI
          have HN := hidP hnil
          have hs := flatten_take_succ rows j (by have := L.out; omega)
          have hb := HLE.out (j + 1)
          have hq0 := HO.out.len
          rw [hs, List.length_append, hq0] at hb
          have HS := hidP hs
          clear hs hI hnil hq0
          generalize (rows.getD j []).length = l at *
          go_wp2_with (at_builtin; refine wpList_append_ints rfl (.tmp 31) (.tmp 32) rfl w.heap.size av q0 cv _ rfl HO.out a' l c' _ rfl HI.out HN.out (by omega) HX.out.size ?_; intro a2 c2 w2 ho2 hg2; have HX2 := hidP (grown_ext hg2 HX.out HX.out.size (fun q e => HO.out.addr_base q e)); clear hg2)
          have HO2 : Hid (OwnI w2 w.heap.size a2 (q0 + l) c2 (rows.take (j + 1)).flatten) := by
            show OwnI _ _ _ _ _ _
            rw [HS.out]
            exact ho2
          clear ho2
          go_roundw
          case rel => exact ⟨j + 1, q0 + l, a2, c2, by omega, by go_num, rfl, HO2, HX2⟩
          case measure => simp [intOf]; omega
        · obtain rfl : j = k := by omega
          have ho := HO.out
          rw [List.take_of_length_le (by have := L.out; omega)] at ho
          have hq := ho.len
          have HQ := hidP hq
          have HO2 := hidP ho
          clear ho HO hq
          go_wp2
          go_ret
          rw [HQ.out]
          exact ⟨_, _, rfl, HO2.out, HX.out⟩
set_option maxHeartbeats 1000000 in
theorem matrixOf_any (p cols : Int) (a : Option Addr) (n c : Nat) (rows : List (List Int)) (w : World) (h : RowsI w a n rows) (hn : n ≤ 1000000000) (hl : rows.flatten.length ≤ 1000000000) :
    Calls Try.prog 130 #[.int .i64 p, .int .i64 cols, .slice a n c] w fun e w' => ∃ a' c', e = .returned (matV p n cols a' rows.flatten.length c') ∧ OwnI w' w.heap.size a' rows.flatten.length c' rows.flatten ∧ Ext w w' := by
  have hx0 := Ext.alloc w (.cells #[.int .i64 0, .int .i64 0, .int .i64 0, .slice none 0 0] 36)
  have HC := hidP (concat_any a n c rows _ (h.below hx0) hn hl)
  have hnew := fun w1 hx j => new_cell (w' := w1) (w := w) (cs := #[.int .i64 0, .int .i64 0, .int .i64 0, .slice none 0 0]) (E := 36) (b := w.heap.size) rfl hx j
  have HX0 := hidP hx0
  have hsz : w.heap.size < (w.alloc (.cells #[.int .i64 0, .int .i64 0, .int .i64 0, .slice none 0 0] 36)).heap.size := by simp
  obtain ⟨w0, hw0⟩ : ∃ w0, w0 = w.alloc (.cells #[.int .i64 0, .int .i64 0, .int .i64 0, .slice none 0 0] 36) := ⟨_, rfl⟩
  clear h hx0
  go_enter Try.func130, Try.ntmps130
  go_wp2_with fail
  rw [← hw0] at HC HX0 hnew hsz ⊢
  clear hw0
  refine HC.out.mono ?_
  rintro e w1 ⟨a', c', rfl, ho, hx⟩
  have HO := hidP ho
  have HX1 := hidP (HX0.out.trans hx)
  obtain ⟨r0, y0⟩ := hnew w1 hx 0
  obtain ⟨r1, y1⟩ := hnew w1 hx 1
  obtain ⟨r2, y2⟩ := hnew w1 hx 2
  obtain ⟨r3, y3⟩ := hnew w1 hx 3
  have r0 := r0.trans (show _ = some (Value.int .i64 0) from rfl)
  have r1 := r1.trans (show _ = some (Value.int .i64 0) from rfl)
  have r2 := r2.trans (show _ = some (Value.int .i64 0) from rfl)
  have r3 := r3.trans (show _ = some (Value.slice none 0 0) from rfl)
  generalize hq : rows.flatten.length = l at *
  have HQ := hidP hq
  clear hnew ho hx HC hq
  go_wp2
  refine bodyPost_ret (v := matV p n cols a' l c') (by simp [results, Try.results130, go_sem, r0, r1, r2, r3]) rfl ?_
  rw [HQ.out]
  refine ⟨_, _, rfl, ?_, ?_⟩
  · refine OwnI.base (B := w0.heap.size) ?_ (by omega)
    refine OwnI.setBelow (OwnI.setBelow (OwnI.setBelow (OwnI.setBelow HO.out _ _ ?_ _) _ _ ?_ _) _ _ ?_ _) _ _ ?_ _ <;> omega
  · refine Ext.setNew (Ext.setNew (Ext.setNew (Ext.setNew HX1.out _ _ ?_ _) _ _ ?_ _) _ _ ?_ _) _ _ ?_ _ <;> omega
/-- the reduced basis of the sums of rows -/
def spanL (p : Int) (cols : Nat) (rows : List (List Int)) : List (List Int) := (redTo p rows cols).1.take (redTo p rows cols).2.length
set_option maxHeartbeats 2000000 in
theorem span_any (p : Int) (L cols : Nat) (a : Option Addr) (n c : Nat) (rows : List (List Int)) (w : World) (h : RowsI w a n rows) (hR : Rows p L rows) (hcl : cols ≤ L) (hp : primeB p = true) (hn : n ≤ 1000000) (hL : L ≤ 1000000) :
    Calls Try.prog 131 #[.slice a n c, .int .i64 cols, .int .i64 p] w fun e w' => ∃ a' c' hs', e = .returned (.slice a' (redTo p rows cols).2.length c') ∧ OwnK rowK w' w.heap.size w'.heap.size a' (redTo p rows cols).2.length c' hs' (spanL p cols rows) ∧ Ext w w' := by
  have G := hidP h
  have HLn := hidP h.len
  have HR := hidP hR
  have hown : OwnK rowK (w.alloc (.cells #[] 22)) w.heap.size (w.alloc (.cells #[] 22)).heap.size (some ⟨w.heap.size, 0, none⟩) 0 0 [] [] := by
    refine ⟨⟨rfl, .inr ⟨w.heap.size, 0, #[], rfl, Nat.le_refl _, heap_alloc_new _ _, Nat.le_refl _, by unfold maxLen; omega, rfl, rfl⟩⟩, rfl, rfl, fun i h => by omega, fun i j h => by omega, fun i h => by omega, fun b o e => ?_⟩
    simp only [Option.some.injEq, Addr.mk.injEq, and_true] at e
    simp [← e.1]
  have HO := hidP hown
  have HX := hidP (Ext.alloc w (.cells #[] 22))
  clear h hR hown
  go_enter Try.func131, Try.ntmps131
  go_wp2
  obtain ⟨w0, hw0⟩ : ∃ w0, w0 = w.alloc (.cells #[] 22) := ⟨_, rfl⟩
  rw [← hw0] at HO HX ⊢
  clear hw0
  go_loopw [7, 13] (fun v i wr => ∃ (k : Nat) (av : Option Addr) (cv : Nat) (hs : List Hdr), k ≤ n ∧ i = .int .i64 k ∧ v = .slice av k cv ∧ Hid (OwnK rowK wr w.heap.size wr.heap.size av k cv hs (rows.take k)) ∧ Hid (Ext w wr)) (fun _ i _ => n - (intOf i).toNat)
  case atStart => exact ⟨0, _, 0, [], Nat.zero_le _, rfl, rfl, HO, HX⟩
  case round =>
    clear HO HX
    obtain ⟨k, av, cv, hs, hk, rfl, rfl, HO, HX⟩ := hrel
    by_cases hlt : k < n
    · obtain ⟨b, o, a', c', rfl, q, hI, hnil⟩ := (G.out.below HX.out).get k hlt
      have hlk := HR.out.len k (by have := HLn.out; omega)
      have HCl := hidP (clone_any a' _ c' _ wr hI hnil (by omega))
      have HT : Hid (rows.take (k + 1) = rows.take k ++ [rows.getD k []]) := by
        show _ = _
        rw [List.take_succ_eq_append_getElem (by have := HLn.out; omega)]
        simp [List.getD_eq_getElem?_getD, show k < rows.length by have := HLn.out; omega]
      rw [hlk] at HCl q
      have HLK := hidP hlk
      clear hI hnil hlk
      generalize rows.getD k [] = row at *
      go_wp2_with fail
      refine HCl.out.mono ?_
      rintro e w1 ⟨a1, c1, rfl, ho1, hx1⟩
      have HO1 := hidP (HO.out.below hx1)
      have HR1 := hidP ho1
      have HX1 := hidP (HX.out.trans hx1)
      have HSZ := hidP hx1.size
      clear ho1 hx1 HCl q
      have hx2 := Ext.alloc w1 (.cells #[.slice a1 L c1] 22)
      have HO2 := hidP (HO1.out.below hx2)
      have HR2 := hidP ((HR1.out.below hx2).base (B' := w.heap.size) (Nat.le_trans HX.out.size (Nat.le_refl _)))
      have HX2 := hidP (HX1.out.trans hx2)
      have HAp : Hid (∀ i, i < k → Apart (hs.getD i (none, 0)).1 a1) := fun i hi b o b' o' e e' => by
        have := HO.out.lt i hi b o e
        have := (HR1.out.at_base b' o' e').1
        omega
      have HFa : Hid (Apart av a1) := fun b o b' o' e e' => by
        have := HO.out.olt b o e
        have := (HR1.out.at_base b' o' e').1
        omega
      have HCe : Hid (∀ j, j < rowK.size → (w1.alloc (.cells #[.slice a1 L c1] 22)).cell? ⟨w1.heap.size, j, none⟩ = (rowK.cells a1 c1 row)[j]?) := fun j hj => by
        rw [cell_top _ _ _ _ _ rfl]
        show _ = ([Value.slice a1 row.length c1])[j]?
        rw [HLK.out]
        simp
      have HR3 : Hid (OwnI (w1.alloc (.cells #[.slice a1 L c1] 22)) w.heap.size a1 row.length c1 row) := by show OwnI _ _ _ _ _ _; rw [HLK.out]; exact HR2.out
      clear hx2 HO1 HR1 HX1 HR2
      go_wp2_with (at_builtin; refine wpList_append_elem rowK 73 (.slice none 0 0) 24 rfl (.tmp 17) (.tmp 20) rfl Try.underlying73 Try.info22 rfl (by omega) w.heap.size _ av k cv hs _ rfl HO2.out w1.heap.size 1 (a1, c1) row rfl HCe.out HR3.out HAp.out HFa.out (by omega) HX2.out.size ?_; intro a3 c3 w3 ho3 hg3; have HX3 := hidP (HO2.out.below_grown hg3 HX2.out HX2.out.size); have HO3 := hidP ho3; clear ho3 hg3)
      go_roundw
      case rel => exact ⟨k + 1, a3, c3, hs ++ [(a1, c1)], by omega, by go_num, rfl, by rw [HT.out]; exact HO3, HX3⟩
      case measure => simp [intOf]; omega
    · obtain rfl : k = n := by omega
      have ho := HO.out
      rw [List.take_of_length_le (by have := HLn.out; omega)] at ho
      have HO2 := hidP ho
      have HD := hidP (reduce_any p L cols w.heap.size av k cv hs rows wr ho HR.out hcl hp hn hL HX.out.size)
      have HOK := hidP (redTo_ok (by have := (prime_bounds hp).1; omega : 0 < p) HR.out cols)
      clear ho HO
      go_wp2_with fail
      refine HD.out.mono ?_
      rintro e w1 ⟨a1, c1, hs1, rfl, hr⟩
      have HF := hidP hr
      have hle := HOK.out.pn
      rw [HLn.out] at hle
      have HX1 : Hid (Ext w w1) := Below.trans HX.out hr.bel
      obtain ⟨hnc, hcm⟩ : k ≤ cv ∧ cv ≤ maxLen := by
        rcases hr.own.form with ⟨_, h0, h1⟩ | ⟨_, _, _, _, _, _, h1, h2⟩
        · rw [h0, h1]; exact ⟨Nat.le_refl _, Nat.zero_le _⟩
        · exact ⟨h1, h2⟩
      have HTk := hidP (hr.own.take _ hle)
      have HSP : Hid (spanL p cols rows = (redTo p rows cols).1.take (redTo p rows cols).2.length) := rfl
      clear hr HD
      unfold maxLen at hcm
      generalize hq : (redTo p rows cols).2.length = m at *
      have HQ := hidP hq
      clear hq
      go_wp2
      go_ret
      rw [HSP.out, HQ.out]
      exact ⟨_, _, _, rfl, HTk.out.weaken (Nat.le_refl _) (HF.out.hN), HX1.out⟩
end Go.Proofs.Ytenlhfimdpcaoaa

namespace Go.Proofs.Ytenlhfimdpcaoaa
open Go.RowKit

/-- the rows of a matrix -/
def matRows (r s : Nat) (data : List Int) : List (List Int) := (List.range r).map fun i => (data.drop (i * s)).take s
theorem matRows_length (r s : Nat) (data : List Int) : (matRows r s data).length = r := by simp [matRows]
theorem matRows_get (r s : Nat) (data : List Int) (i : Nat) (hi : i < r) : (matRows r s data).getD i [] = (data.drop (i * s)).take s := by simp [matRows, List.getD_eq_getElem?_getD, hi]
theorem mul_lt_of {r s i : Nat} (hi : i < r) : i * s + s ≤ r * s := by
  have := Nat.mul_le_mul_right s (show i + 1 ≤ r by omega)
  rw [Nat.add_mul, Nat.one_mul] at this
  exact this
theorem matRows_ok {p : Int} {r s : Nat} {data : List Int} (hl : data.length = r * s) (h : Res p data) : Rows p s (matRows r s data) := by
  constructor
  · intro i hi
    rw [matRows_length] at hi
    rw [matRows_get _ _ _ _ hi, List.length_take, List.length_drop, hl]
    have := mul_lt_of (s := s) hi
    omega
  · intro i hi
    rw [matRows_length] at hi
    rw [matRows_get _ _ _ _ hi]
    exact h.part _ _

theorem getD_setL' {β : Type} (l : List β) (i j : Nat) (x d : β) : (l.set i x).getD j d = if i = j ∧ i < l.length then x else l.getD j d := by
  simp only [List.getD_eq_getElem?_getD, List.getElem?_set]
  by_cases h : i = j
  · subst h
    by_cases hl : i < l.length
    · simp [hl]
    · simp [hl]
  · simp [h]
set_option maxHeartbeats 2000000 in
theorem rowsOf_any (p : Int) (r s : Nat) (a : Option Addr) (N c : Nat) (data : List Int) (w : World) (h : IntsAt w a N data) (hN : N = r * s) (hc : N ≤ c) (hc2 : c ≤ 9223372036854775807) (hr : r ≤ 1000000) (hs : s ≤ 1000000) (hrs : r = 0 ∨ 1 ≤ s) :
    Calls Try.prog 129 #[matV p r s a N c] w fun e w' => ∃ a' c' hs, e = .returned (.slice a' r c') ∧ OwnK rowK w' w.heap.size w'.heap.size a' r c' hs (matRows r s data) ∧ Ext w w' := by
  have hx0 := Ext.alloc w (.cells #[.int .i64 p, .int .i64 (r : Int), .int .i64 (s : Int), .slice a N c] 36)
  have HM := hidP (MatAt.new w _ rfl p r s a N c 36)
  have G := hidP (h.below hx0)
  have HX := hidP hx0
  have HN := hidP hN
  have HL := hidP h.len
  have hsz : (w.alloc (.cells #[.int .i64 p, .int .i64 (r : Int), .int .i64 (s : Int), .slice a N c] 36)).heap.size = w.heap.size + 1 := by simp
  have HO := hidP (OwnK.made0 rowK (w.alloc (.cells #[.int .i64 p, .int .i64 (r : Int), .int .i64 (s : Int), .slice a N c] 36)))
  have HX0 := hidP (Ext.alloc (w.alloc (.cells #[.int .i64 p, .int .i64 (r : Int), .int .i64 (s : Int), .slice a N c] 36)) (.cells #[] 22))
  have hE : rowK.E = 22 := rfl
  rw [hE] at HO
  clear h hx0 hN hE
  go_enter Try.func129, Try.ntmps129
  go_wp2
  rw [← hsz]
  obtain ⟨wb, hwb⟩ : ∃ wb, wb = (w.alloc (.cells #[.int .i64 p, .int .i64 (r : Int), .int .i64 (s : Int), .slice a N c] 36)) := ⟨_, rfl⟩
  rw [← hwb] at HO HX G HM HX0 ⊢
  clear hwb hsz
  go_loopw [3, 8] (fun v i wr => ∃ (k : Nat) (av : Option Addr) (cv : Nat) (hs : List Hdr), k ≤ r ∧ i = .int .i64 k ∧ v = .slice av k cv ∧ Hid (OwnK rowK wr wb.heap.size wr.heap.size av k cv hs ((matRows r s data).take k)) ∧ Hid (Ext wb wr)) (fun _ i _ => r - (intOf i).toNat)
  case atStart => exact ⟨0, _, 0, [], Nat.zero_le _, rfl, rfl, HO, HX0⟩
  case round =>
    clear HO HX0
    obtain ⟨k, av, cv, hd, hk, rfl, rfl, HO, HX0⟩ := hrel
    by_cases hlt : k < r
    · have hs1 : 1 ≤ s := by omega
      have hks := mul_lt_of (s := s) hlt
      obtain ⟨b, o, rfl, _⟩ := (G.out.below HX0.out).get 0 (by rw [HN.out]; omega)
      have hI := (G.out.below HX0.out).part (k * s) s (by rw [HN.out]; exact hks)
      have HRow : Hid ((matRows r s data).getD k [] = (data.drop (k * s)).take s) := matRows_get r s data k hlt
      have HT : Hid ((matRows r s data).take (k + 1) = (matRows r s data).take k ++ [(data.drop (k * s)).take s]) := by
        show _ = _
        rw [List.take_succ_eq_append_getElem (by rw [matRows_length]; exact hlt)]
        simp [matRows]
      have HLR : Hid (((data.drop (k * s)).take s).length = s) := by
        show _ = _
        rw [List.length_take, List.length_drop, HL.out, HN.out]
        omega
      have HCl := hidP (clone_any (some ⟨b, o + k * s, none⟩) s (c - k * s) _ wr hI (fun e => by cases e) (by omega))
      obtain ⟨c0, c1, c2, c3⟩ := HM.out.below HX0.out
      have hb1 : k * s ≤ 1000000 * 1000000 := Nat.mul_le_mul (by omega) hs
      obtain ⟨t, ht⟩ : ∃ t, k * s = t := ⟨_, rfl⟩
      have e4 : (k : Int) * (s : Int) = (t : Int) := by rw [← ht]; simp
      have e5 : ((k : Int) + 1) * (s : Int) = ((t + s : Nat) : Int) := by rw [← ht, Int.add_mul, Int.one_mul]; simp
      rw [ht] at hks HCl hb1 HT HLR HRow
      have hNr := HN.out
      have hlt1 : t < c := by omega
      have hlt2 : t + s ≤ c := by omega
      have hct : ¬ c = t := by omega
      clear ht hI HRow hNr
      generalize (data.drop t).take s = row at *
      have e6 : t + s - t = s := by omega
      go_wp2_with fail
      clear e4 e5
      refine HCl.out.mono ?_
      rintro e w1 ⟨a1, c1', rfl, ho1, hx1⟩
      have HO1 := hidP (HO.out.below hx1)
      have HR1 := hidP ho1
      have HX01 := hidP (HX0.out.trans hx1)
      clear ho1 hx1 HCl c0 c1 c2 c3
      have hx2 := Ext.alloc w1 (.cells #[.slice a1 s c1'] 22)
      have HO2 := hidP (HO1.out.below hx2)
      have HR2 := hidP ((HR1.out.below hx2).base (B' := wb.heap.size) HX0.out.size)
      have HX02 := hidP (HX01.out.trans hx2)
      have HAp : Hid (∀ i, i < k → Apart (hd.getD i (none, 0)).1 a1) := fun i hi b o b' o' e e' => by
        have := HO.out.lt i hi b o e
        have := (HR1.out.at_base b' o' e').1
        omega
      have HFa : Hid (Apart av a1) := fun b o b' o' e e' => by
        have := HO.out.olt b o e
        have := (HR1.out.at_base b' o' e').1
        omega
      have HCe : Hid (∀ j, j < rowK.size → (w1.alloc (.cells #[.slice a1 s c1'] 22)).cell? ⟨w1.heap.size, j, none⟩ = (rowK.cells a1 c1' row)[j]?) := fun j hj => by
        rw [cell_top _ _ _ _ _ rfl]
        show _ = ([Value.slice a1 row.length c1'])[j]?
        rw [HLR.out]
        simp
      have HR3 : Hid (OwnI (w1.alloc (.cells #[.slice a1 s c1'] 22)) wb.heap.size a1 row.length c1' row) := by show OwnI _ _ _ _ _ _; rw [HLR.out]; exact HR2.out
      clear hx2 HO1 HR1 HR2 HX01
      go_wp2_with (at_builtin; refine wpList_append_elem rowK 73 (.slice none 0 0) 24 rfl (.tmp 11) (.tmp 25) rfl Try.underlying73 Try.info22 rfl (by omega) wb.heap.size _ av k cv hd _ rfl HO2.out w1.heap.size 1 (a1, c1') row rfl HCe.out HR3.out HAp.out HFa.out (by omega) HX02.out.size ?_; intro a3 c3 w3 ho3 hg3; have HX3 := hidP (HO2.out.below_grown hg3 HX02.out HX02.out.size); have HO3 := hidP ho3; clear ho3 hg3)
      go_roundw
      case rel => exact ⟨k + 1, a3, c3, hd ++ [(a1, c1')], by omega, by go_num, rfl, by rw [HT.out]; exact HO3, HX3⟩
      case measure => simp [intOf]; omega
    · obtain rfl : k = r := by omega
      have ho := HO.out
      rw [List.take_of_length_le (by rw [matRows_length]; omega)] at ho
      have HO2 := hidP ho
      clear ho HO
      go_wp2
      go_ret
      exact ⟨_, _, _, rfl, HO2.out.weaken HX.out.size (Nat.le_refl _), HX.out.trans HX0.out⟩
set_option maxHeartbeats 1000000 in
theorem zeroMatrix_ok (p r s : Int) (w : World) (hp : primeB p = true) (hr0 : 0 ≤ r) (hr1 : r ≤ 40) (hs0 : 0 ≤ s) (hs1 : s ≤ 40) :
    Calls Try.prog 107 #[.int .i64 p, .int .i64 r, .int .i64 s] w fun e w' => ∃ a, e = .returned (matV p r s a (r * s).toNat (r * s).toNat) ∧ OwnI w' w.heap.size a (r * s).toNat (r * s).toNat (List.replicate (r * s).toNat 0) ∧ Ext w w' := by
  have hi : insB r 0 40 = true := insB_true.2 ⟨hr0, hr1⟩
  have hj : insB s 0 40 = true := insB_true.2 ⟨hs0, hs1⟩
  have k3 : 0 ≤ r * s := Int.mul_nonneg hr0 hs0
  have k4 : r * s ≤ 40 * 40 := Int.mul_le_mul hr1 hs1 hs0 (by omega)
  have hmk := make_ints (r * s) k3 (by omega)
  have HM := hidP (fun w' (hb : w.heap.size ≤ w'.heap.size) => OwnI.made w' w.heap.size (r * s).toNat hb (by unfold maxLen; omega))
  go_enter Try.func107, Try.ntmps107
  go_wp2_with (first | (go_at_call 55; refine (isPrime_any _ _).mono ?_; rintro e w' ⟨rfl, rfl⟩) | (go_at_call 56; refine (inside_any _ _ _ _).mono ?_; rintro e w' ⟨rfl, rfl⟩))
  refine bodyPost_ret (v := matV p r s (some ⟨w.heap.size + 1, 0, none⟩) _ _) (by simp [results, Try.results107, go_sem]) rfl ⟨_, rfl, ?_, ?_⟩
  · have := HM.out (w.alloc (.cells #[.int .i64 p, .int .i64 r, .int .i64 s, .slice (some ⟨w.heap.size + 1, 0, none⟩) (r * s).toNat (r * s).toNat] 36)) (by simp)
    simpa using this
  · exact (Ext.alloc w _).trans (Ext.alloc _ _)
/-- the unit matrix's numbers: the first k rows have their 1 -/
def unitTo (n : Nat) : Nat → List Int
  | 0 => List.replicate (n * n) 0
  | k + 1 => (unitTo n k).set (k * n + k) 1
theorem unitTo_length (n k : Nat) : (unitTo n k).length = n * n := by
  induction k with
  | zero => simp [unitTo]
  | succ k ih => simp [unitTo, ih]
theorem unitTo_res {p : Int} (hp : 2 ≤ p) (n k : Nat) : Res p (unitTo n k) := by
  induction k with
  | zero => exact Res.zeros (by omega) _
  | succ k ih =>
    intro i hi
    simp only [unitTo, List.length_set] at hi ⊢
    have := ih i hi
    rw [getD_setL' _ _ _ _ _]
    split
    · omega
    · exact this
set_option maxHeartbeats 1000000 in
theorem unitMatrix_ok (p : Int) (n : Nat) (w : World) (hp : primeB p = true) (hn : n ≤ 40) :
    Calls Try.prog 73 #[.int .i64 p, .int .i64 n] w fun e w' => ∃ a, e = .returned (matV p n n a (n * n) (n * n)) ∧ OwnI w' w.heap.size a (n * n) (n * n) (unitTo n n) ∧ Ext w w' := by
  have HZ := hidP (fun w' => zeroMatrix_ok p n n w' hp (by omega) (by omega) (by omega) (by omega))
  have hnn : ((n : Int) * n).toNat = n * n := by rw [← Int.natCast_mul]; exact Int.toNat_natCast _
  have hb : n * n ≤ 40 * 40 := Nat.mul_le_mul hn hn
  rw [hnn] at HZ
  have hx0 := Ext.alloc w (.cells #[.int .i64 0, .int .i64 0, .int .i64 0, .slice none 0 0] 36)
  have hnew := fun w1 hx j => new_cell (w' := w1) (w := w) (cs := #[.int .i64 0, .int .i64 0, .int .i64 0, .slice none 0 0]) (E := 36) (b := w.heap.size) rfl hx j
  have HX0 := hidP hx0
  have hsz : w.heap.size < (w.alloc (.cells #[.int .i64 0, .int .i64 0, .int .i64 0, .slice none 0 0] 36)).heap.size := by simp
  obtain ⟨w0, hw0⟩ : ∃ w0, w0 = w.alloc (.cells #[.int .i64 0, .int .i64 0, .int .i64 0, .slice none 0 0] 36) := ⟨_, rfl⟩
  clear hx0 hnn
  go_enter Try.func73, Try.ntmps73
  go_wp2_with fail
  rw [← hw0] at HX0 hnew hsz ⊢
  clear hw0
  refine (HZ.out _).mono ?_
  rintro e w1 ⟨a, rfl, ho, hx⟩
  have HNW := hidP (fun w2 hx2 j => hnew w2 (hx.trans hx2) j)
  have HO1 := hidP ho
  have HX1 := hidP (HX0.out.trans hx)
  have HS1 := hidP hx.size
  clear ho hx hnew HZ
  go_wp2
  have HM := hidP (MatAt.new w1 _ rfl p n n a (n * n) (n * n) 36)
  have hxa := Ext.alloc w1 (.cells #[.int .i64 p, .int .i64 (n : Int), .int .i64 (n : Int), .slice a (n * n) (n * n)] 36)
  have HA := hidP (HO1.out.below hxa)
  obtain ⟨w2, hw2⟩ : ∃ w2, w2 = w1.alloc (.cells #[.int .i64 p, .int .i64 (n : Int), .int .i64 (n : Int), .slice a (n * n) (n * n)] 36) := ⟨_, rfl⟩
  rw [← hw2] at HM hxa HA ⊢
  clear hw2
  have HXA := hidP hxa
  have HU0 := hidP (UpdI.start HA.out.ints)
  have HBS := hidP (fun b o e => HO1.out.at_base b o e)
  clear hxa HX0
  have HF : Hid (∀ w' ys, UpdI w2 w' a (n * n) ys → MatAt w' w1.heap.size p n n a (n * n) (n * n) ∧ (∀ j, w'.cell? ⟨w.heap.size, j, none⟩ = w2.cell? ⟨w.heap.size, j, none⟩ ∧ w'.frozen? ⟨w.heap.size, j, none⟩ = w2.frozen? ⟨w.heap.size, j, none⟩)) := by
    intro w' ys hu
    have hl := World.block_lt_of_cell? w2 _ HM.out.c0
    have hh : w'.heap[w1.heap.size]? = w2.heap[w1.heap.size]? := hu.other _ hl (fun b o e _ => by have := (HBS.out b o e).2; omega)
    have h0 : w'.heap[w.heap.size]? = w2.heap[w.heap.size]? := hu.other _ (by have := HS1.out; have := HXA.out.size; omega) (fun b o e _ => by have := (HBS.out b o e).1; omega)
    exact ⟨⟨(World.cell?_of_block (a := ⟨w1.heap.size, 0, none⟩) hh).trans HM.out.c0, (World.cell?_of_block (a := ⟨w1.heap.size, 1, none⟩) hh).trans HM.out.c1, (World.cell?_of_block (a := ⟨w1.heap.size, 2, none⟩) hh).trans HM.out.c2, (World.cell?_of_block (a := ⟨w1.heap.size, 3, none⟩) hh).trans HM.out.c3⟩,
      fun j => ⟨World.cell?_of_block (a := ⟨w.heap.size, j, none⟩) h0, by simp only [World.frozen?, h0]⟩⟩
  go_loopw [13] (fun v wr => ∃ k : Nat, k ≤ n ∧ v = .int .i64 k ∧ Hid (UpdI w2 wr a (n * n) (unitTo n k))) (fun v _ => n - (intOf v).toNat)
  case atStart => exact ⟨0, Nat.zero_le _, rfl, HU0⟩
  case round =>
    obtain ⟨k, hk, rfl, HU⟩ := hrel
    obtain ⟨c0, c1, c2, c3⟩ := (HF.out _ _ HU.out).1
    by_cases hlt : k < n
    · have hkn := mul_lt_of (s := n) hlt
      obtain ⟨b, o, rfl, _⟩ := HA.out.ints.get 0 (by omega)
      have hk2 : k * n + k < n * n := by omega
      obtain ⟨v0, q, z⟩ := HU.out.cellAt (k * n + k) hk2
      have z2 : wr.frozen? ⟨b, o + (k * n + k), none⟩ = false := z.trans (HA.out.unfrozen _ b o hk2 rfl)
      have hs := HU.out.store (k * n + k) hk2 1
      have HS := hidP hs
      have HT : Hid (unitTo n (k + 1) = (unitTo n k).set (k * n + k) 1) := rfl
      obtain ⟨t, ht⟩ : ∃ t, k * n = t := ⟨_, rfl⟩
      have e4 : (k : Int) * (n : Int) = (t : Int) := by rw [← ht]; simp
      rw [ht] at hk2 q z2 HS HT
      obtain ⟨nn, hnn⟩ : ∃ nn, n * n = nn := ⟨_, rfl⟩
      have HNN := hidP hnn
      clear hs z ht hkn
      rw [hnn] at hk2 hb c3
      clear hnn
      go_wp2
      go_roundw
      case rel => exact ⟨k + 1, by omega, by go_num, by rw [HT.out]; exact HS⟩
      case measure => simp [intOf]; omega
    · obtain rfl : k = n := by omega
      obtain ⟨_, hf⟩ := HF.out _ _ HU.out
      have r0 := (hf 0).1.trans ((HNW.out w2 HXA.out 0).1.trans (show _ = some (Value.int .i64 0) from rfl))
      have r1 := (hf 1).1.trans ((HNW.out w2 HXA.out 1).1.trans (show _ = some (Value.int .i64 0) from rfl))
      have r2 := (hf 2).1.trans ((HNW.out w2 HXA.out 2).1.trans (show _ = some (Value.int .i64 0) from rfl))
      have r3 := (hf 3).1.trans ((HNW.out w2 HXA.out 3).1.trans (show _ = some (Value.slice none 0 0) from rfl))
      have y0 := (hf 0).2.trans (HNW.out w2 HXA.out 0).2
      have y1 := (hf 1).2.trans (HNW.out w2 HXA.out 1).2
      have y2 := (hf 2).2.trans (HNW.out w2 HXA.out 2).2
      have y3 := (hf 3).2.trans (HNW.out w2 HXA.out 3).2
      have HOF := hidP (HU.out.own HA.out)
      have HXF : Hid (Ext w wr) := HU.out.below (HX1.out.trans HXA.out) (HX1.out.trans HXA.out).size (fun b o e _ => by have := (HBS.out b o e).1; omega)
      have hsz2 := HS1.out
      clear hf
      go_wp2
      refine bodyPost_ret (v := matV p k k a (k * k) (k * k)) (by simp [results, Try.results73, go_sem, r0, r1, r2, r3]) rfl ⟨_, rfl, ?_, ?_⟩
      · refine OwnI.base (B := w0.heap.size) ?_ (by omega)
        refine OwnI.setBelow (OwnI.setBelow (OwnI.setBelow (OwnI.setBelow HOF.out _ _ ?_ _) _ _ ?_ _) _ _ ?_ _) _ _ ?_ _ <;> omega
      · refine Ext.setNew (Ext.setNew (Ext.setNew (Ext.setNew HXF.out _ _ ?_ _) _ _ ?_ _) _ _ ?_ _) _ _ ?_ _ <;> omega
end Go.Proofs.Ytenlhfimdpcaoaa

namespace Go.Proofs.Ytenlhfimdpcaoaa
open Go.RowKit
theorem l1Ints_any (a : Option Addr) (n c : Nat) (xs : List Int) (w : World) (h : IntsAt w a n xs) (hnil : a = none → c = 0) (hn : n ≤ 1000000000) :
    Calls Try.prog 112 #[.slice a n c] w fun e w' => ∃ a' c', e = .returned (.slice a' n c') ∧ OwnI w' w.heap.size a' n c' xs ∧ Ext w w' := by
  have H := hidP (h.below (Ext.alloc w (.cells #[] 3)))
  have hm := OwnI.made w w.heap.size 0 (Nat.le_refl _) (by unfold maxLen; omega)
  rw [show Array.replicate 0 (Value.int .i64 0) = #[] from rfl] at hm
  have HM := hidP hm
  have HN := hidP hnil
  clear h hnil hm
  go_enter Try.func112, Try.ntmps112
  go_wp2_with (at_builtin; refine wpList_append_ints rfl (.tmp 3) (.tmp 4) rfl w.heap.size (some ⟨w.heap.size, 0, none⟩) 0 0 [] rfl HM.out a n c xs rfl H.out HN.out (by omega) (by simp) ?_; intro a' c' w' ho hg)
  go_ret
  rw [Nat.zero_add, List.nil_append] at ho
  exact ⟨_, _, rfl, ho, grown_ext hg (Ext.alloc w _) (by simp) (fun q e => by cases e; exact Nat.le_refl _)⟩
end Go.Proofs.Ytenlhfimdpcaoaa

namespace Go.Proofs.Ytenlhfimdpcaoaa
open Go.RowKit

theorem sumTo_add (n : Nat) (f g : Nat → Int) : sumTo n (fun i => f i + g i) = sumTo n f + sumTo n g := by
  induction n with
  | zero => rfl
  | succ n ih => simp only [sumTo, ih]; omega
theorem sumTo_mul (n : Nat) (a : Int) (f : Nat → Int) : a * sumTo n f = sumTo n fun i => a * f i := by
  induction n with
  | zero => simp [sumTo]
  | succ n ih => simp only [sumTo, Int.mul_add, ih]
theorem sumTo_comm (n m : Nat) (f : Nat → Nat → Int) : sumTo n (fun i => sumTo m fun j => f i j) = sumTo m fun j => sumTo n fun i => f i j := by
  induction n with
  | zero => simp only [sumTo]; exact (sumTo_zero_of fun _ _ => rfl).symm
  | succ n ih => simp only [sumTo, ih]; rw [← sumTo_add]
/-- the bracket, the first k numbers of the second element taken -/
def bto (p : Int) (t : List Int) (d : Nat) (u v : List Int) (k : Nat) : List Int := modL p d fun m => sumTo k fun j => v.getD j 0 * sumTo d fun i => u.getD i 0 * tab t d i j m
theorem bto_zero (p : Int) (t : List Int) (d : Nat) (u v : List Int) : bto p t d u v 0 = List.replicate d 0 := modL_zero p d
theorem bto_length (p : Int) (t : List Int) (d : Nat) (u v : List Int) (k : Nat) : (bto p t d u v k).length = d := modL_length _ _ _
theorem bto_res {p : Int} (hp : 0 < p) (t : List Int) (d : Nat) (u v : List Int) (k : Nat) : Res p (bto p t d u v k) := Res.modL hp _ _
theorem bto_skip (p : Int) (t : List Int) (d : Nat) (u v : List Int) (k : Nat) (h : v.getD k 0 = 0) : bto p t d u v (k + 1) = bto p t d u v k := by
  unfold bto
  apply modL_congr
  intro m _
  simp only [sumTo, h, Int.zero_mul, Int.add_zero]
theorem bto_succ (p : Int) (t : List Int) (d : Nat) (u v : List Int) (k : Nat) (hu : u.length = d) : bto p t d u v (k + 1) = addL p (bto p t d u v k) (v.getD k 0) (rightL p t d u k) := by
  unfold bto
  rw [addL_modL]
  apply modL_congr
  intro m hm
  unfold rightL
  rw [modL_get _ _ _ _ hm, hu]
  simp only [sumTo]
  rw [Int.add_emod, Int.mul_emod, ← Int.add_emod]
  conv => rhs; rw [Int.add_emod, Int.mul_emod, Int.emod_emod, ← Int.add_emod]
theorem bto_all (p : Int) (t : List Int) (d : Nat) (u v : List Int) : bto p t d u v d = brL p t d u v := by
  unfold bto brL
  apply modL_congr
  intro m _
  congr 1
  rw [sumTo_comm]
  apply sumTo_congr
  intro j _
  rw [sumTo_mul]
  apply sumTo_congr
  intro i _
  rw [← Int.mul_assoc, Int.mul_comm (v.getD j 0)]
set_option maxHeartbeats 2000000 in
theorem bracket_any (p : Int) (d : Nat) (at' : Option Addr) (N c : Nat) (t : List Int) (au av : Option Addr) (cu cv : Nat) (u v : List Int) (w : World) (hd : d ≤ 28) (hN : N = d * d * d) (hc : N ≤ c) (hc2 : c ≤ 1000000000000)
    (ht : IntsAt w at' N t) (hu : IntsAt w au d u) (hv : IntsAt w av d v) (hp : 1 ≤ p) (hp2 : p ≤ 10007) (hrt : Res p t) (hru : Res p u) (hrv : Res p v) :
    Calls Try.prog 82 #[algV p d at' N c, .slice au d cu, .slice av d cv] w fun e w' => ∃ a, e = .returned (.slice a d d) ∧ OwnI w' w.heap.size a d d (brL p t d u v) ∧ Ext w w' := by
  have HM := hidP (OwnI.made (w.alloc (.cells #[.int .i64 p, .int .i64 (d : Int), .slice at' N c] 91)) (w.heap.size + 1) d (by simp) (by unfold maxLen; omega))
  have HAL := hidP (AlgAt.new w _ rfl p d at' N c 91)
  have HX1 := hidP (Ext.alloc w (.cells #[.int .i64 p, .int .i64 (d : Int), .slice at' N c] 91))
  have hmk := make_ints (d : Int) (by omega) (by omega)
  simp only [Int.toNat_natCast] at hmk
  have HT := hidP ht
  have HU := hidP hu
  have HV := hidP hv
  have LU := hidP hu.len
  have LV := hidP hv.len
  have HRT := hidP hrt
  have HRU := hidP hru
  have HRV := hidP hrv
  have HN := hidP hN
  clear ht hu hv hrt hru hrv hN
  go_enter Try.func82, Try.ntmps82
  go_wp2
  obtain ⟨w0, hw0⟩ : ∃ w0, w0 = w.alloc (.cells #[.int .i64 p, .int .i64 (d : Int), .slice at' N c] 91) := ⟨_, rfl⟩
  rw [← hw0] at HM HAL HX1 ⊢
  have hsz : w0.heap.size = w.heap.size + 1 := by rw [hw0]; simp
  obtain ⟨w1, hw1⟩ : ∃ w1, w1 = w0.alloc (.cells (Array.replicate d (.int .i64 0)) 3) := ⟨_, rfl⟩
  rw [← hw1] at HM ⊢
  rw [hsz] at HM
  have hx01 : Ext w0 w1 := by rw [hw1]; exact Ext.alloc _ _
  have HX01 := hidP hx01
  have HAL1 := hidP (HAL.out.below hx01)
  have hst := UpdI.start HM.out.ints
  rw [← bto_zero p t d u v] at hst
  have HST := hidP hst
  have hsz1 : w.heap.size + 1 < w1.heap.size := by rw [hw1]; simp; omega
  clear hw0 hw1 hx01 hst hmk hsz
  go_loopw [15] (fun i wr => ∃ k : Nat, k ≤ d ∧ Hid (UpdI w1 wr (some ⟨w.heap.size + 1, 0, none⟩) d (bto p t d u v k)) ∧ i = .int .i64 k) (fun i _ => d - (intOf i).toNat)
  case atStart => exact ⟨0, Nat.zero_le _, HST, rfl⟩
  case round =>
    obtain ⟨k, hk, HUP, rfl⟩ := hrel
    by_cases hlt : k < d
    · have hOr := HUP.out.own HM.out
      have hALr := HAL1.out.upd HUP.out (fun b' o' e => by cases e; omega)
      have hbw : Below (w.heap.size + 1) w1 wr := HUP.out.below (Below.refl _ _) (by omega) (fun b' o' e _ => by cases e; omega)
      have hx : Ext w wr := Below.trans (HX1.out.trans HX01.out) (hbw.mono (by omega))
      obtain ⟨bu, ou, rfl, q⟩ := (HV.out.below hx).get k hlt
      by_cases hz : v.getD k 0 = 0
      · have hb : (v[k]?.getD 0 != 0) = false := by simpa [List.getD_eq_getElem?_getD] using hz
        have HS := hidP (bto_skip p t d u v k hz)
        clear hz hOr hALr hbw hx
        go_wp2
        go_roundw
        case rel => exact ⟨k + 1, by omega, (by rw [HS.out]; exact HUP.out), by go_num⟩
        case measure => simp [intOf]; omega
      · have hb : (v[k]?.getD 0 != 0) = true := by simpa [List.getD_eq_getElem?_getD] using hz
        have HS := hidP (bto_succ p t d u v k LU.out)
        have hrv := HRV.out k (by have := LV.out; omega)
        clear hz
        obtain ⟨b, o, rfl, _⟩ := HT.out.get 0 (by rw [HN.out]; exact Nat.mul_pos (Nat.mul_pos (by omega) (by omega)) (by omega))
        have HE := hidP hx
        have HO := hidP hOr
        have HPR := hidP (fun w' (hx' : Ext wr w') => right_any p d k b o N c t au cu u w' hd hlt HN.out hc hc2 (HT.out.below (HE.out.trans hx')) (HU.out.below (HE.out.trans hx')) hp hp2 HRT.out HRU.out)
        have HF := hidP (fun w' (hx' : Ext wr w') => (⟨(hALr.below hx').c0, (hALr.below hx').c1, (hALr.below hx').c2⟩ : _ ∧ _ ∧ _))
        clear hOr hALr hbw hx
        have HA := hidP (fun w' aR (hx' : Ext wr w') (hR : OwnI w' wr.heap.size aR d d (rightL p t d u k)) => addTo_any (some ⟨w.heap.size + 1, 0, none⟩) aR d d d (bto p t d u v k) (rightL p t d u k) (v.getD k 0) p w' (HO.out.below hx').ints
          hR.ints (HO.out.below hx').unfrozen (fun b1 o1 b2 o2 e1 e2 => by have h1 := (HO.out.at_base b1 o1 e1).2; have h2 := (hR.at_base b2 o2 e2).1; omega) (by omega)
          ((bto_res (by omega) t d u v k).bd (bto_length _ _ _ _ _ _) hp2) ((rightL_res (by omega) t d u k).bd (rightL_length _ _ _ _ _) hp2) hrv.1 (by omega) hp (by omega))
        rw [← HS.out] at HA
        have hE : Ext wr wr.drew := Ext.drew wr
        go_wp2
        (refine walkR_start (fun w' => Ext wr w') 8 (by kernel_rfl) ?_; simp only [numbered, List.take_succ_cons, List.take_zero, Nat.zero_add, Nat.reduceAdd, List.length_cons, List.length_nil])
        repeat (refine walkR_still (v := ?_) rfl (by decide +kernel) rfl (fun _ _ _ h => h) hE ?_ ?_; rotate_left; (focus (intro w' hw'; obtain ⟨f0, f1, f2⟩ := HF.out w' hw'; go_simp; all_goals (with_reducible rfl))); simp only [Act.put, List.setIfInBounds_toArray, List.set_cons_zero, List.set_cons_succ])
        (refine walkR_later ?_; simp only [List.cons_append, List.nil_append])
        repeat (refine walkR_still (v := ?_) rfl (by decide +kernel) rfl (fun _ _ _ h => h) hE ?_ ?_; rotate_left; (focus (intro w' hw'; obtain ⟨f0, f1, f2⟩ := HF.out w' hw'; go_simp; all_goals (with_reducible rfl))); simp only [Act.put, List.setIfInBounds_toArray, List.set_cons_zero, List.set_cons_succ])
        (refine walkR_only (fun w' => Ext wr w') rfl (by decide +kernel) rfl ?_ ?_)
        · exact fun _ h => h
        intro K hK
        go_simp
        refine (HPR.out _ hE).mono ?_
        rintro e w2 ⟨aR, rfl, hoR, hx2⟩
        have HX2 := hidP ((Ext.drew wr).trans hx2)
        have HA2 := hidP (HA.out _ aR HX2.out (hoR.base (B' := wr.heap.size) (Nat.le_refl _)))
        refine hK _ _ HX2.out ?_
        clear hK K hx2 hoR
        (try simp only [Act.put, List.setIfInBounds_toArray, List.set_cons_zero, List.set_cons_succ])
        (refine walkR_tail (by rfl) (by kernel_rfl) ?_; simp only [List.drop_succ_cons, List.drop_zero])
        go_wp2_with (go_at_call 66; refine HA2.out.mono ?_; rintro e w3 ⟨rfl, hu3⟩)
        go_roundw
        case rel => exact ⟨k + 1, by omega, HUP.out.trans (HX2.out.upd HO.out.ints hu3), by go_num⟩
        case measure => simp [intOf]; omega
    · have hu := HUP.out
      obtain rfl : k = d := by omega
      rw [bto_all] at hu
      have ho := hidP ((hu.own HM.out).base (B' := w.heap.size) (by omega))
      have hbw : Below (w.heap.size + 1) w1 wr := hu.below (Below.refl _ _) (by omega) (fun b' o' e _ => by cases e; omega)
      have hx := hidP (Below.trans (HX1.out.trans HX01.out) (hbw.mono (Nat.le_succ _)))
      clear hu hbw
      go_wp2
      go_ret
      exact ⟨_, rfl, ho.out, hx.out⟩
theorem Rows.flat {p : Int} {L : Nat} {rows : List (List Int)} (h : Rows p L rows) : rows.flatten.length = rows.length * L := by
  induction rows with
  | nil => simp
  | cons r rows ih =>
    have h0 := h.len 0 (by simp)
    simp only [List.getD_cons_zero] at h0
    rw [List.flatten_cons, List.length_append, h0, ih ⟨fun i hi => by have := h.len (i + 1) (by simpa using hi); simpa using this, fun i hi => by have := h.res (i + 1) (by simpa using hi); simpa using this⟩]
    simp only [List.length_cons, Nat.add_mul, Nat.one_mul]
    omega
theorem spanL_rows {p : Int} (hp : 0 < p) {L : Nat} {rows : List (List Int)} (h : Rows p L rows) (cols : Nat) : Rows p L (spanL p cols rows) ∧ (spanL p cols rows).length = (redTo p rows cols).2.length ∧ (spanL p cols rows).length ≤ rows.length := by
  have hok := redTo_ok hp h cols
  have hl : (spanL p cols rows).length = (redTo p rows cols).2.length := by unfold spanL; rw [List.length_take, hok.len]; exact Nat.min_eq_left hok.pn
  have key : ∀ i, i < (spanL p cols rows).length → i < (redTo p rows cols).1.length ∧ (spanL p cols rows).getD i [] = (redTo p rows cols).1.getD i [] := fun i hi => by
    rw [hl] at hi
    have := hok.pn
    have := hok.len
    exact ⟨by omega, by unfold spanL; simp [List.getD_eq_getElem?_getD, hi]⟩
  refine ⟨⟨fun i hi => ?_, fun i hi => ?_⟩, hl, by rw [hl]; exact hok.pn⟩
  · obtain ⟨h1, h2⟩ := key i hi
    rw [h2]; exact hok.rows.len i h1
  · obtain ⟨h1, h2⟩ := key i hi
    rw [h2]; exact hok.rows.res i h1
set_option maxHeartbeats 2000000 in
theorem space_any (p : Int) (d : Nat) (at' : Option Addr) (N c : Nat) (a : Option Addr) (n c' : Nat) (rows : List (List Int)) (w : World) (h : RowsI w a n rows) (hR : Rows p d rows) (hp : primeB p = true) (hd : d ≤ 1000) (hn : n ≤ 100000) :
    Calls Try.prog 128 #[algV p d at' N c, .slice a n c'] w fun e w' => ∃ a' l c2, e = .returned (matV p (spanL p d rows).length d a' l c2) ∧ OwnI w' w.heap.size a' l c2 (spanL p d rows).flatten ∧ Ext w w' := by
  have hx0 := Ext.alloc w (.cells #[.int .i64 p, .int .i64 (d : Int), .slice at' N c] 91)
  have hx1 := Ext.alloc (w.alloc (.cells #[.int .i64 p, .int .i64 (d : Int), .slice at' N c] 91)) (.cells #[.int .i64 0, .int .i64 0, .int .i64 0, .slice none 0 0] 36)
  have HAL := hidP ((AlgAt.new w _ rfl p d at' N c 91).below hx1)
  have hnew := fun w1 hx j => new_cell (w' := w1) (w := w.alloc (.cells #[.int .i64 p, .int .i64 (d : Int), .slice at' N c] 91)) (cs := #[.int .i64 0, .int .i64 0, .int .i64 0, .slice none 0 0]) (E := 36) (b := w.heap.size + 1) (by simp) hx j
  have HX := hidP (hx0.trans hx1)
  have hsz : w.heap.size + 1 < ((w.alloc (.cells #[.int .i64 p, .int .i64 (d : Int), .slice at' N c] 91)).alloc (.cells #[.int .i64 0, .int .i64 0, .int .i64 0, .slice none 0 0] 36)).heap.size := by simp
  have G := hidP (h.below (hx0.trans hx1))
  have HR := hidP hR
  clear h hR hx0 hx1
  go_enter Try.func128, Try.ntmps128
  go_wp2
  obtain ⟨w0, hw0⟩ : ∃ w0, w0 = (w.alloc (.cells #[.int .i64 p, .int .i64 (d : Int), .slice at' N c] 91)).alloc (.cells #[.int .i64 0, .int .i64 0, .int .i64 0, .slice none 0 0] 36) := ⟨_, rfl⟩
  rw [← hw0] at HAL hnew HX hsz G ⊢
  clear hw0
  have HNW := hidP hnew
  have HF := hidP (fun w' (hx' : Ext w0 w') => (⟨(HAL.out.below hx').c0, (HAL.out.below hx').c1⟩ : _ ∧ _))
  have HSP := hidP (fun w' (hx' : Ext w0 w') => span_any p d d a n c' rows w' (G.out.below hx') HR.out (Nat.le_refl _) hp (by omega) (by omega))
  obtain ⟨HSR, HSL, HSN⟩ := spanL_rows (by have := (prime_bounds hp).1; omega : 0 < p) HR.out d
  have HGL := hidP G.out.len
  have HFL : Hid ((spanL p d rows).flatten.length ≤ 1000000000) := by
    show _ ≤ _
    rw [HSR.flat]
    have : (spanL p d rows).length * d ≤ 100000 * 1000 := Nat.mul_le_mul (by have := HGL.out; omega) hd
    omega
  have HSL := hidP HSL
  have HSN2 : Hid ((spanL p d rows).length ≤ 100000) := by show _ ≤ _; have := HGL.out; omega
  clear hnew HSR HSN
  have hE : Ext w0 w0.drew := Ext.drew w0
  (refine walkR_start (fun w' => Ext w0 w') 11 (by kernel_rfl) ?_; simp only [numbered, List.take_succ_cons, List.take_zero, Nat.zero_add, Nat.reduceAdd, List.length_cons, List.length_nil])
  (repeat (first | (refine walkR_still (v := ?_) rfl (by decide +kernel) rfl (fun _ _ _ h => h) hE ?_ ?_; rotate_left; (focus (intro w' hw'; obtain ⟨f0, f1⟩ := HF.out w' hw'; go_simp; all_goals (with_reducible rfl))); simp only [Act.put, List.setIfInBounds_toArray, List.set_cons_zero, List.set_cons_succ]) | (refine walkR_skip rfl (by decide +kernel) rfl (fun _ _ _ h => h) hE ?_; simp only [Act.put, List.setIfInBounds_toArray, List.set_cons_zero, List.set_cons_succ])))
  (refine walkR_only (fun w' => Ext w0 w') rfl (by decide +kernel) rfl (fun _ h => h) ?_; intro K hK; go_simp; refine (HSP.out _ hE).mono ?_; rintro e w2 ⟨a2, c2, hs2, rfl, hk2, hx2⟩; refine hK _ _ (hE.trans hx2) ?_; clear hK K; (try simp only [Act.put, List.setIfInBounds_toArray, List.set_cons_zero, List.set_cons_succ]))
  have HX2 := hidP (hE.trans hx2)
  have HMO := hidP (matrixOf_any p d a2 _ c2 (spanL p d rows) w2 hk2.rowsI (by rw [← HSL.out]; have := HSN2.out; omega) HFL.out)
  clear hx2 hk2
  generalize hm : (redTo p rows d).2.length = m at *
  have HM := hidP hm
  clear hm
  (refine walkR_only (fun w' => Ext w0 w') rfl (by decide +kernel) rfl (fun _ h => h) ?_; intro K hK; go_simp; refine (HMO.out).mono ?_; rintro e w3 ⟨a3, c3, rfl, ho3, hx3⟩; refine hK _ _ (HX2.out.trans hx3) ?_; clear hK K; (try simp only [Act.put, List.setIfInBounds_toArray, List.set_cons_zero, List.set_cons_succ]))
  have HX3 := hidP (HX2.out.trans hx3)
  have HO3 := hidP (ho3.base (B' := w0.heap.size) HX2.out.size)
  clear hx3 ho3 hE
  obtain ⟨r0, y0⟩ := HNW.out w3 HX3.out 0
  obtain ⟨r1, y1⟩ := HNW.out w3 HX3.out 1
  obtain ⟨r2, y2⟩ := HNW.out w3 HX3.out 2
  obtain ⟨r3, y3⟩ := HNW.out w3 HX3.out 3
  have r0 := r0.trans (show _ = some (Value.int .i64 0) from rfl)
  have r1 := r1.trans (show _ = some (Value.int .i64 0) from rfl)
  have r2 := r2.trans (show _ = some (Value.int .i64 0) from rfl)
  have r3 := r3.trans (show _ = some (Value.slice none 0 0) from rfl)
  generalize hq : (spanL p d rows).flatten.length = l at *
  have HQ := hidP hq
  clear hq
  have hml : ((spanL p d rows).length : Int) = (m : Int) := by have := HSL.out; omega
  have HML := hidP hml
  clear hml
  (refine walkR_tail (by rfl) (by kernel_rfl) ?_; simp only [List.drop_succ_cons, List.drop_zero])
  go_wp2
  refine bodyPost_ret (v := matV p m d a3 l c3) (by simp [results, Try.results128, go_sem, r0, r1, r2, r3]) rfl ⟨a3, l, c3, by rw [HML.out], ?_, ?_⟩
  · refine OwnI.base (B := w0.heap.size) ?_ (by omega)
    refine OwnI.setBelow (OwnI.setBelow (OwnI.setBelow (OwnI.setBelow HO3.out _ _ ?_ _) _ _ ?_ _) _ _ ?_ _) _ _ ?_ _ <;> omega
  · refine Ext.setNew (Ext.setNew (Ext.setNew (Ext.setNew (HX.out.trans HX3.out) _ _ ?_ _) _ _ ?_ _) _ _ ?_ _) _ _ ?_ _ <;> omega
end Go.Proofs.Ytenlhfimdpcaoaa

namespace Go.Proofs.Ytenlhfimdpcaoaa
open Go.RowKit

/-- brackets of the first i rows with all of T, and of row i with the first j -/
def prodTo (p : Int) (t : List Int) (d : Nat) (S T : List (List Int)) : Nat → Nat → List (List Int)
  | 0, j => (T.take j).map (brL p t d (S.getD 0 []))
  | i + 1, j => prodTo p t d S T i T.length ++ (T.take j).map (brL p t d (S.getD (i + 1) []))
def prodAll (p : Int) (t : List Int) (d : Nat) (S T : List (List Int)) : List (List Int) := prodTo p t d S T S.length 0
theorem prodTo_row (p : Int) (t : List Int) (d : Nat) (S T : List (List Int)) (i : Nat) : prodTo p t d S T i T.length = prodTo p t d S T (i + 1) 0 := by simp [prodTo]
theorem prodTo_succ (p : Int) (t : List Int) (d : Nat) (S T : List (List Int)) (i j : Nat) (hj : j < T.length) : prodTo p t d S T i (j + 1) = prodTo p t d S T i j ++ [brL p t d (S.getD i []) (T.getD j [])] := by
  have e : (T.take (j + 1)).map (brL p t d (S.getD i [])) = (T.take j).map (brL p t d (S.getD i [])) ++ [brL p t d (S.getD i []) (T.getD j [])] := by
    rw [List.take_succ_eq_append_getElem hj, List.map_append]
    simp [List.getD_eq_getElem?_getD, hj]
  cases i with
  | zero => exact e
  | succ i => simp only [prodTo]; rw [e, List.append_assoc]
theorem prodTo_length (p : Int) (t : List Int) (d : Nat) (S T : List (List Int)) (i j : Nat) (hj : j ≤ T.length) : (prodTo p t d S T i j).length = i * T.length + j := by
  induction i generalizing j with
  | zero => simp [prodTo, hj]
  | succ i ih => simp only [prodTo, List.length_append, ih _ (Nat.le_refl _), List.length_map, List.length_take, Nat.min_eq_left hj, Nat.add_mul, Nat.one_mul]
theorem map_br_rows {p : Int} (hp : 0 < p) (t : List Int) (d : Nat) (u : List Int) (T : List (List Int)) : Rows p d (T.map (brL p t d u)) := by
  have key : ∀ i, i < (T.map (brL p t d u)).length → ∃ v, (T.map (brL p t d u)).getD i [] = brL p t d u v := fun i hi => by
    simp at hi
    exact ⟨T[i], by simp [List.getD_eq_getElem?_getD, hi]⟩
  exact ⟨fun i hi => by obtain ⟨v, e⟩ := key i hi; rw [e]; exact modL_length _ _ _, fun i hi => by obtain ⟨v, e⟩ := key i hi; rw [e]; exact Res.modL hp _ _⟩
theorem Rows.append {p : Int} {L : Nat} {R1 R2 : List (List Int)} (h1 : Rows p L R1) (h2 : Rows p L R2) : Rows p L (R1 ++ R2) := by
  have key : ∀ i, i < (R1 ++ R2).length → (i < R1.length ∧ (R1 ++ R2).getD i [] = R1.getD i []) ∨ (i - R1.length < R2.length ∧ (R1 ++ R2).getD i [] = R2.getD (i - R1.length) []) := fun i hi => by
    rw [List.length_append] at hi
    rcases Nat.lt_or_ge i R1.length with h | h
    · exact .inl ⟨h, by simp [List.getD_eq_getElem?_getD, List.getElem?_append_left h]⟩
    · exact .inr ⟨by omega, by simp [List.getD_eq_getElem?_getD, List.getElem?_append_right h]⟩
  constructor
  · intro i hi
    rcases key i hi with ⟨h, e⟩ | ⟨h, e⟩ <;> rw [e]
    · exact h1.len i h
    · exact h2.len _ h
  · intro i hi
    rcases key i hi with ⟨h, e⟩ | ⟨h, e⟩ <;> rw [e]
    · exact h1.res i h
    · exact h2.res _ h
theorem prodTo_rows {p : Int} (hp : 0 < p) (t : List Int) (d : Nat) (S T : List (List Int)) (i j : Nat) : Rows p d (prodTo p t d S T i j) := by
  induction i generalizing j with
  | zero => exact map_br_rows hp _ _ _ _
  | succ i ih => exact (ih _).append (map_br_rows hp _ _ _ _)
/-- the space of brackets -/
def prodL (p : Int) (t : List Int) (d : Nat) (S T : List (List Int)) : List (List Int) := spanL p d (prodAll p t d S T)

/-- another slice's outer block is none of these -/
def Clear (lo hi : Nat) (a : Option Addr) : Prop := ∀ b o, a = some ⟨b, o, none⟩ → b < lo ∨ hi ≤ b
theorem Clear.next {lo hi N : Nat} {a a' : Option Addr} (h : Clear lo hi a) (hn : OrNew N a a') (hN : hi ≤ N) : Clear lo hi a' := by
  intro b o e
  rcases hn with rfl | hn
  · exact h b o e
  · right; have := hn b o e; omega
theorem OwnK.kept_clear {α : Type} {K : Knd α} {w w' : World} {B U : Nat} {a : Option Addr} {n c : Nat} {hs : List Hdr} {xs : List α} (h : OwnK K w B U a n c hs xs) {av : Option Addr} {nv cv : Nat}
    (hp : ∀ p, av = some p → p.spot = none) (hc : Clear B U av) (hg : w.grownBy w' (Value.slice av nv cv).ownBlock) : OwnK K w' B U a n c hs xs := by
  have key : ∀ b, B ≤ b → b < U → some b ≠ (Value.slice av nv cv).ownBlock := fun b h1 h2 => by
    cases av with
    | none => simp [Value.ownBlock]
    | some q =>
      have hq := hp q rfl
      have := hc q.block q.off (by cases q; simp at hq; simp [hq])
      simp only [Value.ownBlock, ne_eq, Option.some.injEq]
      omega
  refine h.kept hg (fun b o e => key b (h.base_lt b o e).1 (h.olt b o e)) (fun i hi b o e => key b ((h.each i hi).at_base b o e).1 (h.lt i hi b o e))
theorem OwnK.spot {α : Type} {K : Knd α} {w : World} {B U : Nat} {a : Option Addr} {n c : Nat} {hs : List Hdr} {xs : List α} (h : OwnK K w B U a n c hs xs) : ∀ p, a = some p → p.spot = none := by
  intro p e
  rcases h.form with ⟨rfl, _⟩ | ⟨g, cur, rfl, _⟩
  · cases e
  · cases e; rfl

/-- a row, by its header -/
theorem OwnK.rowAt {w : World} {B U : Nat} {a : Option Addr} {n c : Nat} {hs : List Hdr} {xs : List (List Int)} (h : OwnK rowK w B U a n c hs xs) (i : Nat) (hi : i < n) :
    ∃ g, a = some ⟨g, 0, none⟩ ∧ w.cell? ⟨g, i, none⟩ = some (.slice (hs.getD i (none, 0)).1 (xs.getD i []).length (hs.getD i (none, 0)).2) ∧ IntsAt w (hs.getD i (none, 0)).1 (xs.getD i []).length (xs.getD i []) := by
  obtain ⟨g, e, hc, _⟩ := h.cell i 0 hi (by decide)
  rw [show i * rowK.size + 0 = i from by show i * 1 + 0 = i; omega] at hc
  exact ⟨g, e, hc, (h.each i hi).ints⟩

set_option maxHeartbeats 4000000 in
theorem product_any (p : Int) (d r1 r2 : Nat) (aT aS aU : Option Addr) (N c N1 c1 N2 c2 : Nat) (t dS dU : List Int) (w : World) (hd : d ≤ 28) (hN : N = d * d * d) (hc : N ≤ c) (hcb : c ≤ 1000000000000)
    (ht : IntsAt w aT N t) (hS : IntsAt w aS N1 dS) (hU : IntsAt w aU N2 dU) (hN1 : N1 = r1 * d) (hN2 : N2 = r2 * d) (hc1 : N1 ≤ c1) (hcb1 : c1 ≤ 9223372036854775807) (hc2 : N2 ≤ c2) (hcb2 : c2 ≤ 9223372036854775807)
    (hp : primeB p = true) (hrt : Res p t) (hrS : Res p dS) (hrU : Res p dU) (h1 : r1 ≤ 100) (h2 : r2 ≤ 100) (hz1 : r1 = 0 ∨ 1 ≤ d) (hz2 : r2 = 0 ∨ 1 ≤ d) :
    Calls Try.prog 76 #[algV p d aT N c, matV p r1 d aS N1 c1, matV p r2 d aU N2 c2] w fun e w' =>
      ∃ a' l c3, e = .returned (matV p (prodL p t d (matRows r1 d dS) (matRows r2 d dU)).length d a' l c3) ∧ OwnI w' w.heap.size a' l c3 (prodL p t d (matRows r1 d dS) (matRows r2 d dU)).flatten ∧ Ext w w' := by
  obtain ⟨p2, p7⟩ := prime_bounds hp
  have hR1 := matRows_ok (p := p) (r := r1) (s := d) (data := dS) (hS.len.trans hN1) hrS
  have hR2 := matRows_ok (p := p) (r := r2) (s := d) (data := dU) (hU.len.trans hN2) hrU
  have hwA := Ext.alloc w (.cells #[.int .i64 p, .int .i64 (d : Int), .slice aT N c] 91)
  have hwB := Ext.alloc (w.alloc (.cells #[.int .i64 p, .int .i64 (d : Int), .slice aT N c] 91)) (.cells #[.int .i64 p, .int .i64 (r1 : Int), .int .i64 (d : Int), .slice aS N1 c1] 36)
  have hwC := Ext.alloc ((w.alloc (.cells #[.int .i64 p, .int .i64 (d : Int), .slice aT N c] 91)).alloc (.cells #[.int .i64 p, .int .i64 (r1 : Int), .int .i64 (d : Int), .slice aS N1 c1] 36)) (.cells #[.int .i64 p, .int .i64 (r2 : Int), .int .i64 (d : Int), .slice aU N2 c2] 36)
  have hwD := Ext.alloc (((w.alloc (.cells #[.int .i64 p, .int .i64 (d : Int), .slice aT N c] 91)).alloc (.cells #[.int .i64 p, .int .i64 (r1 : Int), .int .i64 (d : Int), .slice aS N1 c1] 36)).alloc (.cells #[.int .i64 p, .int .i64 (r2 : Int), .int .i64 (d : Int), .slice aU N2 c2] 36)) (.cells #[.int .i64 0, .int .i64 0, .int .i64 0, .slice none 0 0] 36)
  have HAL := hidP ((AlgAt.new w _ rfl p d aT N c 91).below ((hwB.trans hwC).trans hwD))
  have HM1 := hidP ((MatAt.new (w.alloc (.cells #[.int .i64 p, .int .i64 (d : Int), .slice aT N c] 91)) (w.heap.size + 1) (by simp) p r1 d aS N1 c1 36).below (hwC.trans hwD))
  have HM2 := hidP ((MatAt.new ((w.alloc (.cells #[.int .i64 p, .int .i64 (d : Int), .slice aT N c] 91)).alloc (.cells #[.int .i64 p, .int .i64 (r1 : Int), .int .i64 (d : Int), .slice aS N1 c1] 36)) (w.heap.size + 1 + 1) (by simp) p r2 d aU N2 c2 36).below hwD)
  have hnew := fun w1 hx j => new_cell (w' := w1) (w := ((w.alloc (.cells #[.int .i64 p, .int .i64 (d : Int), .slice aT N c] 91)).alloc (.cells #[.int .i64 p, .int .i64 (r1 : Int), .int .i64 (d : Int), .slice aS N1 c1] 36)).alloc (.cells #[.int .i64 p, .int .i64 (r2 : Int), .int .i64 (d : Int), .slice aU N2 c2] 36)) (cs := #[.int .i64 0, .int .i64 0, .int .i64 0, .slice none 0 0]) (E := 36) (b := w.heap.size + 1 + 1 + 1) (by simp) hx j
  have hxb := ((hwA.trans hwB).trans hwC).trans hwD
  have HXb := hidP hxb
  have HT := hidP (ht.below hxb)
  have HS := hidP (hS.below hxb)
  have HU := hidP (hU.below hxb)
  have hszb : ((((w.alloc (.cells #[.int .i64 p, .int .i64 (d : Int), .slice aT N c] 91)).alloc (.cells #[.int .i64 p, .int .i64 (r1 : Int), .int .i64 (d : Int), .slice aS N1 c1] 36)).alloc (.cells #[.int .i64 p, .int .i64 (r2 : Int), .int .i64 (d : Int), .slice aU N2 c2] 36)).alloc (.cells #[.int .i64 0, .int .i64 0, .int .i64 0, .slice none 0 0] 36)).heap.size = w.heap.size + 1 + 1 + 1 + 1 := by simp
  have HR1 := hidP hR1
  have HR2 := hidP hR2
  have HRT := hidP hrt
  have HN := hidP hN
  have HN1 := hidP hN1
  have HN2 := hidP hN2
  clear ht hS hU hR1 hR2 hwA hwB hwC hwD hrt hN hN1 hN2
  go_enter Try.func76, Try.ntmps76
  go_wp2_with fail
  obtain ⟨wb, hwb⟩ : ∃ wb, wb = ((((w.alloc (.cells #[.int .i64 p, .int .i64 (d : Int), .slice aT N c] 91)).alloc (.cells #[.int .i64 p, .int .i64 (r1 : Int), .int .i64 (d : Int), .slice aS N1 c1] 36)).alloc (.cells #[.int .i64 p, .int .i64 (r2 : Int), .int .i64 (d : Int), .slice aU N2 c2] 36)).alloc (.cells #[.int .i64 0, .int .i64 0, .int .i64 0, .slice none 0 0] 36)) := ⟨_, rfl⟩
  rw [← hwb] at HAL HM1 HM2 hnew hxb HXb HT HS HU hszb ⊢
  rw [← hszb]
  have HSZ : Hid (w.heap.size + 3 < wb.heap.size) := by show _ < _; omega
  clear hwb hszb hxb
  have HNW := hidP hnew
  clear hnew
  have HF := hidP (fun w' (hx' : Ext wb w') => (⟨(HAL.out.below hx').c0, (HAL.out.below hx').c1, (HAL.out.below hx').c2, (HM2.out.below hx').c0, (HM2.out.below hx').c1, (HM2.out.below hx').c2, (HM2.out.below hx').c3⟩ : _ ∧ _ ∧ _ ∧ _ ∧ _ ∧ _ ∧ _))
  have HOL := hidP (OwnK.made0 rowK wb)
  have hE : rowK.E = 22 := rfl
  rw [hE] at HOL
  clear hE
  have hx0 := Ext.alloc wb (.cells #[] 22)
  have hs0 : wb.heap.size < (wb.alloc (.cells #[] 22)).heap.size := by simp
  obtain ⟨w0, hw0⟩ : ∃ w0, w0 = wb.alloc (.cells #[] 22) := ⟨_, rfl⟩
  rw [← hw0] at HOL hx0 hs0 ⊢
  clear hw0
  have HX0 := hidP hx0
  clear hx0
  have HRO := hidP (rowsOf_any p r1 d aS N1 c1 dS w0 (HS.out.below HX0.out) HN1.out hc1 hcb1 (by omega) (by omega) hz1)
  refine HRO.out.mono ?_
  rintro e wS ⟨aR, cR, hsR, rfl, hoR, hxS⟩
  have HOR := hidP hoR
  have HXS := hidP (HX0.out.trans hxS)
  have HOL1 := hidP ((HOL.out.below hxS).weaken (Nat.le_refl _) hxS.size)
  have HCL : Hid (Clear w0.heap.size wS.heap.size (some ⟨wb.heap.size, 0, none⟩)) := fun b o e => by cases e; left; exact hs0
  have HSS := hidP hxS.size
  clear hoR hxS HRO HOL hs0
  generalize hLo : w0.heap.size = lo at *
  generalize hHi : wS.heap.size = hi at *
  have HHi := hidP hHi
  have HS1L := hidP (matRows_length r1 d dS)
  have HS2L := hidP (matRows_length r2 d dU)
  have HPR := hidP (prodTo_row p t d (matRows r1 d dS) (matRows r2 d dU))
  rw [HS2L.out] at HPR
  clear hLo hHi
  have HSP := hidP (fun w' av nv cv hv (hx' : Ext wb w') (hk : OwnK rowK w' wb.heap.size w'.heap.size av nv cv hv (prodTo p t d (matRows r1 d dS) (matRows r2 d dU) r1 0)) =>
    space_any p d aT N c av nv cv (prodTo p t d (matRows r1 d dS) (matRows r2 d dU) r1 0) w' hk.rowsI (prodTo_rows (by omega) _ _ _ _ _ _) hp (by omega)
      (by have := hk.xl; rw [prodTo_length _ _ _ _ _ _ _ (Nat.zero_le _), HS2L.out] at this; have := Nat.mul_le_mul h1 h2; omega))
  have HPL : Hid (prodL p t d (matRows r1 d dS) (matRows r2 d dU) = spanL p d (prodTo p t d (matRows r1 d dS) (matRows r2 d dU) r1 0)) := by
    show _ = _
    unfold prodL prodAll
    rw [HS1L.out]
  have HLB := hidP (fun i j (hi' : i < r1) (hj' : j ≤ r2) => (by
    rw [prodTo_length _ _ _ _ _ _ _ (by rw [HS2L.out]; exact hj'), HS2L.out]
    have := Nat.mul_le_mul (show i ≤ 100 by omega) h2
    omega : (prodTo p t d (matRows r1 d dS) (matRows r2 d dU) i j).length ≤ 10100))
  have HPS := hidP (fun i j (hj' : j < r2) => prodTo_succ p t d (matRows r1 d dS) (matRows r2 d dU) i j (by rw [HS2L.out]; exact hj'))
  generalize hRS : matRows r1 d dS = RS at *
  generalize hRU : matRows r2 d dU = RU at *
  have HRS1 := hidP hRS
  have HRS2 := hidP hRU
  clear hRS hRU
  go_wp2
  go_loopw [7, 16] (fun v vi wr => ∃ (i : Nat) (av : Option Addr) (nv cv : Nat) (hv : List Hdr), i ≤ r1 ∧ vi = .int .i64 i ∧ v = .slice av nv cv ∧ Hid (OwnK rowK wr wb.heap.size wr.heap.size av nv cv hv (prodTo p t d RS RU i 0)) ∧ Hid (Ext wb wr) ∧
    Hid (OwnK rowK wr lo hi aR r1 cR hsR RS) ∧ Hid (Clear lo hi av) ∧ Hid (hi ≤ wr.heap.size)) (fun _ vi _ => r1 - (intOf vi).toNat)
  case atStart => exact ⟨0, _, 0, 0, [], Nat.zero_le _, rfl, rfl, by rw [HHi.out]; exact HOL1, HXS, HOR, HCL, Nat.le_of_eq HHi.out.symm⟩
  case round =>
    clear HOL1 HXS HOR HCL HHi
    obtain ⟨i, av, nv, cv, hv, hi1, rfl, rfl, HL, HX, HOR, HCL, HHI⟩ := hrel
    obtain ⟨wo, rfl⟩ : ∃ wo : World, wo = wr := ⟨_, rfl⟩
    by_cases hlt : i < r1
    · obtain ⟨bR, rfl, q, _⟩ := HOR.out.rowAt i hlt
      have hlu := HR1.out.len i (by have := HS1L.out; omega)
      have HRu := hidP (HR1.out.res i (by have := HS1L.out; omega))
      rw [hlu] at q
      obtain ⟨f0, f1, f2, g0, g1, g2, g3⟩ := HF.out wo HX.out
      have HRO := hidP (rowsOf_any p r2 d aU N2 c2 dU wo (HU.out.below HX.out) HN2.out hc2 hcb2 (by omega) (by omega) hz2)
      have HLU := hidP hlu
      have HQU := hidP (fun w' (ho : OwnK rowK w' lo hi (some ⟨bR, 0, none⟩) r1 cR hsR RS) => ho.rowAt i hlt)
      generalize hh : hsR.getD i (none, 0) = hu at *
      clear hh
      clear hlu
      go_wp2_with fail
      refine HRO.out.mono ?_
      rintro e wT ⟨aQ, cQ, hsQ, rfl, hoQ, hxT⟩
      have HOQ := hidP hoQ
      have HXT := hidP (HX.out.trans hxT)
      have HLT := hidP ((HL.out.below hxT).weaken (Nat.le_refl _) hxT.size)
      have HOR2 := hidP (HOR.out.below hxT)
      have HHI2 : Hid (hi ≤ wT.heap.size) := Nat.le_trans HHI.out hxT.size
      have HCQ : Hid (Clear wo.heap.size wT.heap.size av) := fun b o e => .inl (HL.out.base_lt b o e).2
      clear hoQ hxT HRO f0 f1 f2 g0 g1 g2 g3 q
      generalize hLo2 : wo.heap.size = lo2 at *
      generalize hHi2 : wT.heap.size = hi2 at *
      have HHi2 := hidP hHi2
      clear hLo2 hHi2 HL HX HOR
      go_wp2
      go_loopw [7, 23] (fun v vj wr => ∃ (j : Nat) (av : Option Addr) (nv cv : Nat) (hv : List Hdr), j ≤ r2 ∧ vj = .int .i64 j ∧ v = .slice av nv cv ∧ Hid (OwnK rowK wr wb.heap.size wr.heap.size av nv cv hv (prodTo p t d RS RU i j)) ∧ Hid (Ext wb wr) ∧
        Hid (OwnK rowK wr lo hi (some ⟨bR, 0, none⟩) r1 cR hsR RS) ∧ Hid (Clear lo hi av) ∧ Hid (hi ≤ wr.heap.size) ∧ Hid (OwnK rowK wr lo2 hi2 aQ r2 cQ hsQ RU) ∧ Hid (Clear lo2 hi2 av) ∧ Hid (hi2 ≤ wr.heap.size)) (fun _ vj _ => r2 - (intOf vj).toNat)
      case atStart => exact ⟨0, _, _, _, _, Nat.zero_le _, rfl, rfl, by rw [HHi2.out]; exact HLT, HXT, HOR2, HCL, by rw [HHi2.out]; exact HHI2, by rw [← HRS2.out]; exact HOQ, HCQ, Nat.le_of_eq HHi2.out.symm⟩
      case round =>
        clear HLT HXT HOR2 HCL HHI2 HOQ HCQ HHi2
        obtain ⟨j, av, nv, cv, hv, hj1, rfl, rfl, HL, HX, HOR, HCL, HHI, HOQ, HCQ, HHQ⟩ := hrel
        obtain ⟨wo2, rfl⟩ : ∃ wo2 : World, wo2 = wr := ⟨_, rfl⟩
        by_cases hjl : j < r2
        · obtain ⟨bQ, rfl, q, hIv⟩ := HOQ.out.rowAt j hjl
          have hlv := HR2.out.len j (by have := HS2L.out; omega)
          have HRv := hidP (HR2.out.res j (by have := HS2L.out; omega))
          rw [hlv] at q hIv
          obtain ⟨f0, f1, f2, _⟩ := HF.out wo2 HX.out
          obtain ⟨gX, eX, qX, hIu⟩ := HQU.out wo2 HOR.out
          clear eX qX
          rw [HLU.out] at hIu
          have HB := hidP (bracket_any p d aT N c t hu.1 (hsQ.getD j (none, 0)).1 hu.2 (hsQ.getD j (none, 0)).2 (RS.getD i []) (RU.getD j []) wo2 hd HN.out hc hcb (HT.out.below HX.out) hIu hIv (by omega) p7 HRT.out HRu.out HRv.out)
          have HPSJ := hidP (HPS.out i j hjl)
          have HLBJ := hidP (HLB.out i j hlt hj1)
          have HNV := hidP HL.out.xl
          generalize hsQ.getD j (none, 0) = hw at *
          clear hlv hIv hIu
          go_wp2_with fail
          refine HB.out.mono ?_
          rintro e w1 ⟨a1, rfl, ho1, hx1⟩
          have HL1 := hidP (HL.out.below hx1)
          have HO1 := hidP ho1
          have HX1 := hidP (HX.out.trans hx1)
          have HOR1 := hidP (HOR.out.below hx1)
          have HOQ1 := hidP (HOQ.out.below hx1)
          have HZ1 := hidP hx1.size
          clear ho1 hx1 HB f0 f1 f2 q
          have hx2 := Ext.alloc w1 (.cells #[.slice a1 d d] 22)
          have HLR : Hid ((brL p t d (RS.getD i []) (RU.getD j [])).length = d) := modL_length _ _ _
          generalize brL p t d (RS.getD i []) (RU.getD j []) = row at *
          have HL2 := hidP (HL1.out.below hx2)
          have HO2 := hidP ((HO1.out.below hx2).base (B' := wb.heap.size) HX.out.size)
          have HX2 := hidP (HX1.out.trans hx2)
          have HOR2 := hidP (HOR1.out.below hx2)
          have HOQ2 := hidP (HOQ1.out.below hx2)
          have HZ2 := hidP (Nat.le_trans HZ1.out hx2.size)
          have HAp : Hid (∀ q, q < nv → Apart (hv.getD q (none, 0)).1 a1) := fun q hq b o b' o' e e' => by
            have := HL.out.lt q hq b o e
            have := (HO1.out.at_base b' o' e').1
            omega
          have HFa : Hid (Apart av a1) := fun b o b' o' e e' => by
            have := HL.out.olt b o e
            have := (HO1.out.at_base b' o' e').1
            omega
          have HCe : Hid (∀ q, q < rowK.size → (w1.alloc (.cells #[.slice a1 d d] 22)).cell? ⟨w1.heap.size, q, none⟩ = (rowK.cells a1 d row)[q]?) := fun q hq => by
            rw [cell_top _ _ _ _ _ rfl]
            show _ = ([Value.slice a1 row.length d])[q]?
            rw [HLR.out]
            simp
          have HR3 : Hid (OwnI (w1.alloc (.cells #[.slice a1 d d] 22)) wb.heap.size a1 row.length d row) := by show OwnI _ _ _ _ _ _; rw [HLR.out]; exact HO2.out
          have hnvb : nv ≤ 10100 := by have := HNV.out; have := HLBJ.out; omega
          clear hx2 HL1 HO1 HX1 HOR1 HOQ1 HO2
          go_wp2_with (at_builtin; refine wpList_append_elem2 rowK 73 (.slice none 0 0) 24 rfl (.tmp 27) (.tmp 32) rfl Try.underlying73 Try.info22 rfl (by omega) wb.heap.size _ av nv cv hv _ rfl HL2.out w1.heap.size 1 (a1, d) row rfl HCe.out HR3.out HAp.out HFa.out (by omega) HX2.out.size ?_; intro a3 c3 w3 ho3 hg3 hn3; have HX3 := hidP (HL2.out.below_grown hg3 HX2.out HX2.out.size); have HO3 := hidP ho3; have HG3 := hidP hg3; have HN3 := hidP hn3; clear ho3 hg3 hn3)
          have HOR3 := hidP (HOR2.out.kept_clear HL2.out.spot HCL.out HG3.out)
          have HOQ3 := hidP (HOQ2.out.kept_clear HL2.out.spot HCQ.out HG3.out)
          have HCL3 := hidP (HCL.out.next HN3.out (Nat.le_trans HHI.out HZ2.out))
          have HCQ3 := hidP (HCQ.out.next HN3.out (Nat.le_trans HHQ.out HZ2.out))
          have HHI3 : Hid (hi ≤ w3.heap.size) := Nat.le_trans (Nat.le_trans HHI.out HZ2.out) HG3.out.size
          have HHQ3 : Hid (hi2 ≤ w3.heap.size) := Nat.le_trans (Nat.le_trans HHQ.out HZ2.out) HG3.out.size
          go_roundw
          case rel => exact ⟨j + 1, a3, nv + 1, c3, hv ++ [(a1, d)], by omega, by go_num, rfl, by rw [HPSJ.out]; exact HO3, HX3, HOR3, HCL3, HHI3, HOQ3, HCQ3, HHQ3⟩
          case measure => simp [intOf]; omega
        · obtain rfl : j = r2 := by omega
          have HL2 : Hid (OwnK rowK wo2 wb.heap.size wo2.heap.size av nv cv hv (prodTo p t d RS RU (i + 1) 0)) := by show OwnK _ _ _ _ _ _ _ _ _; rw [← HPR.out]; exact HL.out
          go_wp2
          go_roundw
          case rel => exact ⟨i + 1, av, nv, cv, hv, by omega, by go_num, rfl, HL2, HX, HOR, HCL, HHI⟩
          case measure => simp [intOf]; omega
    · obtain rfl : i = r1 := by omega
      obtain ⟨f0, f1, f2, _⟩ := HF.out wo HX.out
      have HSPA := hidP (HSP.out wo av nv cv hv HX.out HL.out)
      rw [← HPL.out] at HSPA
      go_wp2_with fail
      refine HSPA.out.mono ?_
      rintro e w3 ⟨a3, l3, c3, rfl, ho3, hx3⟩
      have HX3 := hidP (HX.out.trans hx3)
      have HO3 := hidP (ho3.base (B' := wb.heap.size) HX.out.size)
      clear hx3 ho3 f0 f1 f2
      obtain ⟨r0, y0⟩ := HNW.out w3 HX3.out 0
      obtain ⟨r1', y1⟩ := HNW.out w3 HX3.out 1
      obtain ⟨r2', y2⟩ := HNW.out w3 HX3.out 2
      obtain ⟨r3, y3⟩ := HNW.out w3 HX3.out 3
      have r0 := r0.trans (show _ = some (Value.int .i64 0) from rfl)
      have r1' := r1'.trans (show _ = some (Value.int .i64 0) from rfl)
      have r2' := r2'.trans (show _ = some (Value.int .i64 0) from rfl)
      have r3 := r3.trans (show _ = some (Value.slice none 0 0) from rfl)
      have hsz := HSZ.out
      generalize hm : (prodL p t d RS RU).length = m at *
      have HM := hidP hm
      clear hm
      go_wp2
      refine bodyPost_ret (v := matV p m d a3 l3 c3) (by simp [results, Try.results76, go_sem, r0, r1', r2', r3]) rfl ?_
      rw [HRS1.out, HRS2.out, HM.out]
      refine ⟨a3, l3, c3, rfl, ?_, ?_⟩
      · refine OwnI.base (B := wb.heap.size) ?_ (by omega)
        refine OwnI.setBelow (OwnI.setBelow (OwnI.setBelow (OwnI.setBelow HO3.out _ _ ?_ _) _ _ ?_ _) _ _ ?_ _) _ _ ?_ _ <;> omega
      · refine Ext.setNew (Ext.setNew (Ext.setNew (Ext.setNew (HXb.out.trans HX3.out) _ _ ?_ _) _ _ ?_ _) _ _ ?_ _) _ _ ?_ _ <;> omega
end Go.Proofs.Ytenlhfimdpcaoaa

namespace Go.Proofs.Ytenlhfimdpcaoaa
open Go.RowKit

theorem matRows_flatten {p : Int} {d : Nat} {R : List (List Int)} (h : Rows p d R) : matRows R.length d R.flatten = R := by
  induction R with
  | nil => rfl
  | cons r R ih =>
    have h0 := h.len 0 (by simp)
    simp only [List.getD_cons_zero] at h0
    have ht : Rows p d R := ⟨fun i hi => by have := h.len (i + 1) (by simpa using hi); simpa using this, fun i hi => by have := h.res (i + 1) (by simpa using hi); simpa using this⟩
    have ih := ih ht
    unfold matRows at ih ⊢
    rw [List.length_cons, List.range_succ_eq_map, List.map_cons, List.map_map]
    congr 1
    · simp [h0]
    · conv => rhs; rw [← ih]
      apply List.map_congr_left
      intro i _
      show List.take d (List.drop ((i + 1) * d) (r :: R).flatten) = List.take d (List.drop (i * d) R.flatten)
      rw [List.flatten_cons, Nat.add_mul, Nat.one_mul, Nat.add_comm, ← List.drop_drop]
      rw [List.drop_left' h0]
theorem Rows.flat_res {p : Int} {L : Nat} {rows : List (List Int)} (h : Rows p L rows) : Res p rows.flatten := by
  induction rows with
  | nil => intro i hi; simp at hi
  | cons r R ih =>
    have h0 := h.res 0 (by simp)
    simp only [List.getD_cons_zero] at h0
    have ht : Rows p L R := ⟨fun i hi => by have := h.len (i + 1) (by simpa using hi); simpa using this, fun i hi => by have := h.res (i + 1) (by simpa using hi); simpa using this⟩
    have ih := ih ht
    intro i hi
    rw [List.flatten_cons] at hi ⊢
    rcases Nat.lt_or_ge i r.length with h1 | h1
    · have := h0 i h1
      simpa [List.getD_eq_getElem?_getD, List.getElem?_append_left h1] using this
    · rw [List.length_append] at hi
      have := ih (i - r.length) (by omega)
      simpa [List.getD_eq_getElem?_getD, List.getElem?_append_right h1] using this

/-- what a step on spaces does: its value on rows is f -/
def StepSays (p : Int) (d : Nat) (B : Nat) (f : List (List Int) → List (List Int)) (R : List (List Int)) (w : World) (e : Ending) (w' : World) : Prop :=
  ∃ a' l c', e = .returned (matV p (f R).length d a' l c') ∧ OwnI w' B a' l c' (f R).flatten ∧ Ext w w'

set_option maxHeartbeats 2000000 in
theorem lowerStep_any (p : Int) (d r : Nat) (bx ba : Nat) (aT aA aS : Option Addr) (N c cA N1 c1 : Nat) (t : List Int) (R : List (List Int)) (w : World) (hal : AlgAt w bx p d aT N c) (hma : MatAt w ba p d d aA (d * d) cA)
    (hd : d ≤ 28) (hN : N = d * d * d) (hc : N ≤ c) (hcb : c ≤ 1000000000000) (ht : IntsAt w aT N t) (hA : IntsAt w aA (d * d) (unitTo d d)) (hcA : d * d ≤ cA) (hcA2 : cA ≤ 9223372036854775807)
    (hS : IntsAt w aS N1 R.flatten) (hr : R.length = r) (hR : Rows p d R) (hc1 : N1 ≤ c1) (hcb1 : c1 ≤ 9223372036854775807) (hp : primeB p = true) (hrt : Res p t) (hrb : r ≤ 100) (hz : r = 0 ∨ 1 ≤ d) :
    Calls Try.prog 75 #[matV p r d aS N1 c1, .pointer (some ⟨bx, 0, none⟩), .pointer (some ⟨ba, 0, none⟩)] w (StepSays p d w.heap.size (fun R => prodL p t d (matRows d d (unitTo d d)) R) R w) := by
  have hx0 := Ext.alloc w (.cells #[.int .i64 p, .int .i64 (r : Int), .int .i64 (d : Int), .slice aS N1 c1] 36)
  have hx1 := Ext.alloc (w.alloc (.cells #[.int .i64 p, .int .i64 (r : Int), .int .i64 (d : Int), .slice aS N1 c1] 36)) (.cells #[.int .i64 0, .int .i64 0, .int .i64 0, .slice none 0 0] 36)
  have hfl := hR.flat
  have hmr := matRows_flatten hR
  rw [hr] at hfl hmr
  have HP := hidP (fun w' (hx : Ext w w') => product_any p d d r aT aA aS N c (d * d) cA N1 c1 t (unitTo d d) R.flatten w' hd hN hc hcb (ht.below hx) (hA.below hx) (hS.below hx) rfl (hS.len.symm.trans hfl) hcA hcA2 hc1 hcb1 hp hrt
    (unitTo_res (prime_bounds hp).1 d d) hR.flat_res (by omega) hrb (by omega) hz)
  rw [hmr] at HP
  have hnew := fun w1 hx j => new_cell (w' := w1) (w := w.alloc (.cells #[.int .i64 p, .int .i64 (r : Int), .int .i64 (d : Int), .slice aS N1 c1] 36)) (cs := #[.int .i64 0, .int .i64 0, .int .i64 0, .slice none 0 0]) (E := 36) (b := w.heap.size + 1) (by simp) hx j
  have HX := hidP (hx0.trans hx1)
  have hsz : w.heap.size + 1 < ((w.alloc (.cells #[.int .i64 p, .int .i64 (r : Int), .int .i64 (d : Int), .slice aS N1 c1] 36)).alloc (.cells #[.int .i64 0, .int .i64 0, .int .i64 0, .slice none 0 0] 36)).heap.size := by simp
  obtain ⟨f0, f1, f2⟩ := hal
  obtain ⟨g0, g1, g2, g3⟩ := hma
  have hl1 := World.block_lt_of_cell? w _ f0
  have hl2 := World.block_lt_of_cell? w _ g0
  simp only at hl1 hl2
  clear ht hA hS hr hR hx0 hx1 hmr hfl hrt hN
  go_enter Try.func75, Try.ntmps75
  go_wp2_with fail
  obtain ⟨w0, hw0⟩ : ∃ w0, w0 = (w.alloc (.cells #[.int .i64 p, .int .i64 (r : Int), .int .i64 (d : Int), .slice aS N1 c1] 36)).alloc (.cells #[.int .i64 0, .int .i64 0, .int .i64 0, .slice none 0 0] 36) := ⟨_, rfl⟩
  rw [← hw0] at HX hnew hsz ⊢
  clear hw0 f0 f1 f2 g0 g1 g2 g3
  refine (HP.out _ HX.out).mono ?_
  rintro e w1 ⟨a', l, c', rfl, ho, hx⟩
  have HO := hidP ho
  have HX1 := hidP (HX.out.trans hx)
  have r0 := (hnew w1 hx 0).1.trans (show _ = some (Value.int .i64 0) from rfl)
  have r1 := (hnew w1 hx 1).1.trans (show _ = some (Value.int .i64 0) from rfl)
  have r2 := (hnew w1 hx 2).1.trans (show _ = some (Value.int .i64 0) from rfl)
  have r3 := (hnew w1 hx 3).1.trans (show _ = some (Value.slice none 0 0) from rfl)
  have y0 := (hnew w1 hx 0).2
  have y1 := (hnew w1 hx 1).2
  have y2 := (hnew w1 hx 2).2
  have y3 := (hnew w1 hx 3).2
  clear hnew ho hx HP
  generalize hm : (prodL p t d (matRows d d (unitTo d d)) R).length = m at *
  have HM := hidP hm
  clear hm
  go_wp2
  refine bodyPost_ret (v := matV p m d a' l c') (by simp [results, Try.results75, go_sem, r0, r1, r2, r3]) rfl ?_
  refine ⟨a', l, c', by rw [← HM.out], ?_, ?_⟩
  · refine OwnI.base (B := w0.heap.size) ?_ (by omega)
    refine OwnI.setBelow (OwnI.setBelow (OwnI.setBelow (OwnI.setBelow HO.out _ _ ?_ _) _ _ ?_ _) _ _ ?_ _) _ _ ?_ _ <;> omega
  · refine Ext.setNew (Ext.setNew (Ext.setNew (Ext.setNew HX1.out _ _ ?_ _) _ _ ?_ _) _ _ ?_ _) _ _ ?_ _ <;> omega
/-- a matrix as data -/
structure Mx where
  p : Int
  r : Int
  s : Int
  data : List Int
def matK : Knd Mx where
  E := 36
  size := 4
  dft := ⟨0, 0, 0, []⟩
  ints := Mx.data
  put := fun x ys => { x with data := ys }
  cells := fun a c x => [.int .i64 x.p, .int .i64 x.r, .int .i64 x.s, .slice a x.data.length c]
  len := fun _ _ _ => rfl
  pos := by decide
  ne := by decide
  put_ints := fun _ _ => rfl
  put_cells := fun a c x ys h => by simp only at h ⊢; rw [h]
  one := fun a c x u hu => by simp only [List.mem_cons, List.not_mem_nil, or_false] at hu; rcases hu with rfl | rfl | rfl | rfl <;> rfl
theorem Try.info36 : (Try.prog.info? 36).map (fun i => (i.zero, i.size, i.bytes)) = some (some (.agg #[.int .i64 0, .int .i64 0, .int .i64 0, .slice none 0 0]), 4, 48) := by kernel_rfl
theorem OwnI.caps {w : World} {B : Nat} {a : Option Addr} {n c : Nat} {xs : List Int} (h : OwnI w B a n c xs) : n ≤ c ∧ c ≤ 9223372036854775807 := by
  rcases h.row.2 with ⟨he, h0⟩ | ⟨g, cap, cur, he, _, _, hnc, hcm, _⟩
  · simp only [Value.slice.injEq] at he
    omega
  · simp only [Value.slice.injEq] at he
    unfold maxLen at hcm
    omega
def iterL (f : List (List Int) → List (List Int)) (R : List (List Int)) : Nat → List (List Int)
  | 0 => R
  | i + 1 => f (iterL f R i)
def mxOf (p d : Int) (R : List (List Int)) : Mx := ⟨p, R.length, d, R.flatten⟩
/-- the matrices of a series, i + 1 of them -/
def serL (p d : Int) (f : List (List Int) → List (List Int)) (R : List (List Int)) (i : Nat) : List Mx := (List.range (i + 1)).map fun j => mxOf p d (iterL f R j)
theorem serL_succ (p d : Int) (f : List (List Int) → List (List Int)) (R : List (List Int)) (i : Nat) : serL p d f R (i + 1) = serL p d f R i ++ [mxOf p d (iterL f R (i + 1))] := by
  unfold serL
  rw [List.range_succ, List.map_append]
  rfl
theorem serL_get (p d : Int) (f : List (List Int) → List (List Int)) (R : List (List Int)) (i j : Nat) (hj : j ≤ i) : (serL p d f R i).getD j matK.dft = mxOf p d (iterL f R j) := by
  unfold serL
  simp [List.getD_eq_getElem?_getD, show j < i + 1 by omega]
end Go.Proofs.Ytenlhfimdpcaoaa

namespace Go.Proofs.Ytenlhfimdpcaoaa
open Go.RowKit

theorem l1At_any (p : Int) (r s i j N c : Nat) (a : Option Addr) (data : List Int) (w : World) (h : IntsAt w a N data) (hN : N ≤ 1000000000) (hlt : i * s + j < N) :
    Calls Try.prog 146 #[matV p r s a N c, .int .i64 i, .int .i64 j] w fun e w' => e = .returned (.int .i64 (data.getD (i * s + j) 0)) ∧ Ext w w' := by
  have hx0 := Ext.alloc w (.cells #[.int .i64 p, .int .i64 (r : Int), .int .i64 (s : Int), .slice a N c] 36)
  have HM := hidP (MatAt.new w _ rfl p r s a N c 36)
  obtain ⟨b, o, rfl, q⟩ := (h.below hx0).get (i * s + j) hlt
  have HX := hidP hx0
  obtain ⟨t, ht⟩ : ∃ t, i * s = t := ⟨_, rfl⟩
  have e1 : (i : Int) * (s : Int) = (t : Int) := by rw [← ht]; simp
  rw [ht] at hlt q ⊢
  clear ht hx0 h
  obtain ⟨c0, c1, c2, c3⟩ := HM.out
  go_enter Try.func146, Try.ntmps146
  go_wp2
  go_ret
  exact ⟨rfl, HX.out⟩
theorem l1Row_any (p : Int) (r s i b o N c : Nat) (data : List Int) (w : World) (h : IntsAt w (some ⟨b, o, none⟩) N data) (hN : N = r * s) (hc : N ≤ c) (hc2 : c ≤ 9223372036854775807) (hr : r ≤ 1000000) (hs : s ≤ 1000000) (hs1 : 1 ≤ s) (hi : i < r) :
    Calls Try.prog 168 #[matV p r s (some ⟨b, o, none⟩) N c, .int .i64 i] w fun e w' => ∃ a' c', e = .returned (.slice a' s c') ∧ IntsAt w' a' s ((matRows r s data).getD i []) ∧ Ext w w' := by
  have hx0 := Ext.alloc w (.cells #[.int .i64 p, .int .i64 (r : Int), .int .i64 (s : Int), .slice (some ⟨b, o, none⟩) N c] 36)
  have HM := hidP (MatAt.new w _ rfl p r s (some ⟨b, o, none⟩) N c 36)
  have hks := mul_lt_of (s := s) hi
  have HI := hidP ((h.below hx0).part (i * s) s (by rw [hN]; exact hks))
  have HX := hidP hx0
  have HRow : Hid ((matRows r s data).getD i [] = (data.drop (i * s)).take s) := matRows_get r s data i hi
  rw [HRow.out]
  have hb1 : i * s ≤ 1000000 * 1000000 := Nat.mul_le_mul (by omega) hs
  obtain ⟨t, ht⟩ : ∃ t, i * s = t := ⟨_, rfl⟩
  have e4 : (i : Int) * (s : Int) = (t : Int) := by rw [← ht]; simp
  have e5 : ((i : Int) + 1) * (s : Int) = ((t + s : Nat) : Int) := by rw [← ht, Int.add_mul, Int.one_mul]; simp
  rw [ht] at hks HI hb1 ⊢
  have hlt1 : t < c := by omega
  have hlt2 : t + s ≤ c := by omega
  have hct : ¬ c = t := by omega
  clear ht hx0 h HRow hN
  generalize (data.drop t).take s = row at *
  have e6 : t + s - t = s := by omega
  obtain ⟨c0, c1, c2, c3⟩ := HM.out
  go_enter Try.func168, Try.ntmps168
  go_wp2
  go_ret
  exact ⟨some ⟨b, o + t, none⟩, c - t, by simp only [e6]; rfl, HI.out, HX.out⟩
set_option maxHeartbeats 1000000 in
theorem l1Copy_any (p r s : Int) (a : Option Addr) (N c : Nat) (data : List Int) (w : World) (h : IntsAt w a N data) (hnil : a = none → c = 0) (hN : N ≤ 1000000000) :
    Calls Try.prog 147 #[matV p r s a N c] w fun e w' => ∃ a' c', e = .returned (matV p r s a' N c') ∧ OwnI w' w.heap.size a' N c' data ∧ Ext w w' := by
  have hx0 := (Ext.alloc w (.cells #[.int .i64 p, .int .i64 r, .int .i64 s, .slice a N c] 36)).trans (Ext.alloc _ (.cells #[.int .i64 0, .int .i64 0, .int .i64 0, .slice none 0 0] 36))
  have HM := hidP (MatAt.below (MatAt.new w _ rfl p r s a N c 36) (Ext.alloc _ (.cells #[.int .i64 0, .int .i64 0, .int .i64 0, .slice none 0 0] 36)))
  have hnew := fun w1 hx j => new_cell (w' := w1) (w := w.alloc (.cells #[.int .i64 p, .int .i64 r, .int .i64 s, .slice a N c] 36)) (cs := #[.int .i64 0, .int .i64 0, .int .i64 0, .slice none 0 0]) (E := 36) (b := w.heap.size + 1) (by simp) hx j
  have HC := hidP (fun w' (hx : Ext ((w.alloc (.cells #[.int .i64 p, .int .i64 r, .int .i64 s, .slice a N c] 36)).alloc (.cells #[.int .i64 0, .int .i64 0, .int .i64 0, .slice none 0 0] 36)) w') => l1Ints_any a N c data w' ((h.below hx0).below hx) hnil hN)
  have HX := hidP hx0
  have hsz : ((w.alloc (.cells #[.int .i64 p, .int .i64 r, .int .i64 s, .slice a N c] 36)).alloc (.cells #[.int .i64 0, .int .i64 0, .int .i64 0, .slice none 0 0] 36)).heap.size = w.heap.size + 2 := by simp
  clear hx0 h
  go_enter Try.func147, Try.ntmps147
  go_wp2
  obtain ⟨wb, hwb⟩ : ∃ wb, wb = ((w.alloc (.cells #[.int .i64 p, .int .i64 r, .int .i64 s, .slice a N c] 36)).alloc (.cells #[.int .i64 0, .int .i64 0, .int .i64 0, .slice none 0 0] 36)) := ⟨_, rfl⟩
  rw [← hwb] at HM hnew HC HX hsz ⊢
  clear hwb
  have HF := hidP (fun w' (hx : Ext wb w') => (⟨(HM.out.below hx).c0, (HM.out.below hx).c1, (HM.out.below hx).c2, (HM.out.below hx).c3⟩ : _ ∧ _ ∧ _ ∧ _))
  have HNW := hidP hnew
  clear hnew
  have hE : Ext wb wb.drew := Ext.drew wb
  (refine walkR_start (fun w' => Ext wb w') 9 (by kernel_rfl) ?_; simp only [numbered, List.take_succ_cons, List.take_zero, Nat.zero_add, Nat.reduceAdd, List.length_cons, List.length_nil])
  repeat (refine walkR_still (v := ?_) rfl (by decide +kernel) rfl (fun _ _ _ h => h) hE ?_ ?_; rotate_left; (focus (intro w' hw'; obtain ⟨f0, f1, f2, f3⟩ := HF.out w' hw'; go_simp; all_goals (with_reducible rfl))); simp only [Act.put, List.setIfInBounds_toArray, List.set_cons_zero, List.set_cons_succ])
  (refine walkR_only (fun w' => Ext wb w') rfl (by decide +kernel) rfl (fun _ h => h) ?_; intro K hK; go_simp; refine (HC.out _ hE).mono ?_; rintro e w3 ⟨a3, c3, rfl, ho3, hx3⟩; refine hK _ _ (hE.trans hx3) ?_; clear hK K; (try simp only [Act.put, List.setIfInBounds_toArray, List.set_cons_zero, List.set_cons_succ]))
  have hE3 := hE.trans hx3
  have HO3 := hidP (ho3.base (B' := wb.heap.size) hE.size)
  have HE3 := hidP hE3
  clear ho3 hx3 hE
  repeat (refine walkR_still (v := ?_) rfl (by decide +kernel) rfl (fun _ _ _ h => h) hE3 ?_ ?_; rotate_left; (focus (intro w' hw'; skip; go_simp; all_goals (with_reducible rfl))); simp only [Act.put, List.setIfInBounds_toArray, List.set_cons_zero, List.set_cons_succ])
  (refine walkR_tail (by rfl) (by kernel_rfl) ?_; simp only [List.drop_succ_cons, List.drop_zero])
  obtain ⟨r0, y0⟩ := HNW.out w3 HE3.out 0
  obtain ⟨r1, y1⟩ := HNW.out w3 HE3.out 1
  obtain ⟨r2, y2⟩ := HNW.out w3 HE3.out 2
  obtain ⟨r3, y3⟩ := HNW.out w3 HE3.out 3
  have r0 := r0.trans (show _ = some (Value.int .i64 0) from rfl)
  have r1 := r1.trans (show _ = some (Value.int .i64 0) from rfl)
  have r2 := r2.trans (show _ = some (Value.int .i64 0) from rfl)
  have r3 := r3.trans (show _ = some (Value.slice none 0 0) from rfl)
  go_wp2
  refine bodyPost_ret (v := matV p r s a3 N c3) (by simp [results, Try.results147, go_sem, r0, r1, r2, r3]) rfl ?_
  refine ⟨a3, c3, rfl, ?_, ?_⟩
  · refine OwnI.base (B := wb.heap.size) ?_ (by omega)
    refine OwnI.setBelow (OwnI.setBelow (OwnI.setBelow (OwnI.setBelow HO3.out _ _ ?_ _) _ _ ?_ _) _ _ ?_ _) _ _ ?_ _ <;> omega
  · refine Ext.setNew (Ext.setNew (Ext.setNew (Ext.setNew (HX.out.trans HE3.out) _ _ ?_ _) _ _ ?_ _) _ _ ?_ _) _ _ ?_ _ <;> omega
set_option maxHeartbeats 1000000 in
theorem l1Zero_any (p r s : Int) (w : World) (hr0 : 0 ≤ r) (hr1 : r ≤ 40) (hs0 : 0 ≤ s) (hs1 : s ≤ 40) :
    Calls Try.prog 97 #[.int .i64 p, .int .i64 r, .int .i64 s] w fun e w' => ∃ a, e = .returned (matV p r s a (r * s).toNat (r * s).toNat) ∧ OwnI w' w.heap.size a (r * s).toNat (r * s).toNat (List.replicate (r * s).toNat 0) ∧ Ext w w' := by
  have k3 : 0 ≤ r * s := Int.mul_nonneg hr0 hs0
  have k4 : r * s ≤ 40 * 40 := Int.mul_le_mul hr1 hs1 hs0 (by omega)
  have hmk := make_ints (r * s) k3 (by omega)
  have HM := hidP (fun w' (hb : w.heap.size ≤ w'.heap.size) => OwnI.made w' w.heap.size (r * s).toNat hb (by unfold maxLen; omega))
  go_enter Try.func97, Try.ntmps97
  go_wp2
  refine bodyPost_ret (v := matV p r s (some ⟨w.heap.size + 1, 0, none⟩) _ _) (by simp [results, Try.results97, go_sem]) rfl ⟨_, rfl, ?_, ?_⟩
  · have := HM.out (w.alloc (.cells #[.int .i64 p, .int .i64 r, .int .i64 s, .slice (some ⟨w.heap.size + 1, 0, none⟩) (r * s).toNat (r * s).toNat] 36)) (by simp)
    simpa using this
  · exact (Ext.alloc w _).trans (Ext.alloc _ _)
set_option maxHeartbeats 1000000 in
theorem l1Unit_any (p : Int) (n : Nat) (w : World) (hn : n ≤ 40) :
    Calls Try.prog 99 #[.int .i64 p, .int .i64 n] w fun e w' => ∃ a, e = .returned (matV p n n a (n * n) (n * n)) ∧ OwnI w' w.heap.size a (n * n) (n * n) (unitTo n n) ∧ Ext w w' := by
  have HZ := hidP (fun w' => l1Zero_any p n n w' (by omega) (by omega) (by omega) (by omega))
  have hnn : ((n : Int) * n).toNat = n * n := by rw [← Int.natCast_mul]; exact Int.toNat_natCast _
  have hb : n * n ≤ 40 * 40 := Nat.mul_le_mul hn hn
  rw [hnn] at HZ
  have hx0 := Ext.alloc w (.cells #[.int .i64 0, .int .i64 0, .int .i64 0, .slice none 0 0] 36)
  have hnew := fun w1 hx j => new_cell (w' := w1) (w := w) (cs := #[.int .i64 0, .int .i64 0, .int .i64 0, .slice none 0 0]) (E := 36) (b := w.heap.size) rfl hx j
  have HX0 := hidP hx0
  have hsz : w.heap.size < (w.alloc (.cells #[.int .i64 0, .int .i64 0, .int .i64 0, .slice none 0 0] 36)).heap.size := by simp
  obtain ⟨w0, hw0⟩ : ∃ w0, w0 = w.alloc (.cells #[.int .i64 0, .int .i64 0, .int .i64 0, .slice none 0 0] 36) := ⟨_, rfl⟩
  clear hx0 hnn
  go_enter Try.func99, Try.ntmps99
  go_wp2_with fail
  rw [← hw0] at HX0 hnew hsz ⊢
  clear hw0
  refine (HZ.out _).mono ?_
  rintro e w1 ⟨a, rfl, ho, hx⟩
  have HNW := hidP (fun w2 hx2 j => hnew w2 (hx.trans hx2) j)
  have HO1 := hidP ho
  have HX1 := hidP (HX0.out.trans hx)
  have HS1 := hidP hx.size
  clear ho hx hnew HZ
  go_wp2
  have HM := hidP (MatAt.new w1 _ rfl p n n a (n * n) (n * n) 36)
  have hxa := Ext.alloc w1 (.cells #[.int .i64 p, .int .i64 (n : Int), .int .i64 (n : Int), .slice a (n * n) (n * n)] 36)
  have HA := hidP (HO1.out.below hxa)
  obtain ⟨w2, hw2⟩ : ∃ w2, w2 = w1.alloc (.cells #[.int .i64 p, .int .i64 (n : Int), .int .i64 (n : Int), .slice a (n * n) (n * n)] 36) := ⟨_, rfl⟩
  rw [← hw2] at HM hxa HA ⊢
  clear hw2
  have HXA := hidP hxa
  have HU0 := hidP (UpdI.start HA.out.ints)
  have HBS := hidP (fun b o e => HO1.out.at_base b o e)
  clear hxa HX0
  have HF : Hid (∀ w' ys, UpdI w2 w' a (n * n) ys → MatAt w' w1.heap.size p n n a (n * n) (n * n) ∧ (∀ j, w'.cell? ⟨w.heap.size, j, none⟩ = w2.cell? ⟨w.heap.size, j, none⟩ ∧ w'.frozen? ⟨w.heap.size, j, none⟩ = w2.frozen? ⟨w.heap.size, j, none⟩)) := by
    intro w' ys hu
    have hl := World.block_lt_of_cell? w2 _ HM.out.c0
    have hh : w'.heap[w1.heap.size]? = w2.heap[w1.heap.size]? := hu.other _ hl (fun b o e _ => by have := (HBS.out b o e).2; omega)
    have h0 : w'.heap[w.heap.size]? = w2.heap[w.heap.size]? := hu.other _ (by have := HS1.out; have := HXA.out.size; omega) (fun b o e _ => by have := (HBS.out b o e).1; omega)
    exact ⟨⟨(World.cell?_of_block (a := ⟨w1.heap.size, 0, none⟩) hh).trans HM.out.c0, (World.cell?_of_block (a := ⟨w1.heap.size, 1, none⟩) hh).trans HM.out.c1, (World.cell?_of_block (a := ⟨w1.heap.size, 2, none⟩) hh).trans HM.out.c2, (World.cell?_of_block (a := ⟨w1.heap.size, 3, none⟩) hh).trans HM.out.c3⟩,
      fun j => ⟨World.cell?_of_block (a := ⟨w.heap.size, j, none⟩) h0, by simp only [World.frozen?, h0]⟩⟩
  go_loopw [6] (fun v wr => ∃ k : Nat, k ≤ n ∧ v = .int .i64 k ∧ Hid (UpdI w2 wr a (n * n) (unitTo n k))) (fun v _ => n - (intOf v).toNat)
  case atStart => exact ⟨0, Nat.zero_le _, rfl, HU0⟩
  case round =>
    obtain ⟨k, hk, rfl, HU⟩ := hrel
    obtain ⟨c0, c1, c2, c3⟩ := (HF.out _ _ HU.out).1
    by_cases hlt : k < n
    · have hkn := mul_lt_of (s := n) hlt
      obtain ⟨b, o, rfl, _⟩ := HA.out.ints.get 0 (by omega)
      have hk2 : k * n + k < n * n := by omega
      obtain ⟨v0, q, z⟩ := HU.out.cellAt (k * n + k) hk2
      have z2 : wr.frozen? ⟨b, o + (k * n + k), none⟩ = false := z.trans (HA.out.unfrozen _ b o hk2 rfl)
      have hs := HU.out.store (k * n + k) hk2 1
      have HS := hidP hs
      have HT : Hid (unitTo n (k + 1) = (unitTo n k).set (k * n + k) 1) := rfl
      obtain ⟨t, ht⟩ : ∃ t, k * n = t := ⟨_, rfl⟩
      have e4 : (k : Int) * (n : Int) = (t : Int) := by rw [← ht]; simp
      rw [ht] at hk2 q z2 HS HT
      obtain ⟨nn, hnn⟩ : ∃ nn, n * n = nn := ⟨_, rfl⟩
      have HNN := hidP hnn
      clear hs z ht hkn
      rw [hnn] at hk2 hb c3
      clear hnn
      go_wp2
      go_roundw
      case rel => exact ⟨k + 1, by omega, by go_num, by rw [HT.out]; exact HS⟩
      case measure => simp [intOf]; omega
    · obtain rfl : k = n := by omega
      obtain ⟨_, hf⟩ := HF.out _ _ HU.out
      have r0 := (hf 0).1.trans ((HNW.out w2 HXA.out 0).1.trans (show _ = some (Value.int .i64 0) from rfl))
      have r1 := (hf 1).1.trans ((HNW.out w2 HXA.out 1).1.trans (show _ = some (Value.int .i64 0) from rfl))
      have r2 := (hf 2).1.trans ((HNW.out w2 HXA.out 2).1.trans (show _ = some (Value.int .i64 0) from rfl))
      have r3 := (hf 3).1.trans ((HNW.out w2 HXA.out 3).1.trans (show _ = some (Value.slice none 0 0) from rfl))
      have y0 := (hf 0).2.trans (HNW.out w2 HXA.out 0).2
      have y1 := (hf 1).2.trans (HNW.out w2 HXA.out 1).2
      have y2 := (hf 2).2.trans (HNW.out w2 HXA.out 2).2
      have y3 := (hf 3).2.trans (HNW.out w2 HXA.out 3).2
      have HOF := hidP (HU.out.own HA.out)
      have HXF : Hid (Ext w wr) := HU.out.below (HX1.out.trans HXA.out) (HX1.out.trans HXA.out).size (fun b o e _ => by have := (HBS.out b o e).1; omega)
      have hsz2 := HS1.out
      clear hf
      go_wp2
      refine bodyPost_ret (v := matV p k k a (k * k) (k * k)) (by simp [results, Try.results99, go_sem, r0, r1, r2, r3]) rfl ⟨_, rfl, ?_, ?_⟩
      · refine OwnI.base (B := w0.heap.size) ?_ (by omega)
        refine OwnI.setBelow (OwnI.setBelow (OwnI.setBelow (OwnI.setBelow HOF.out _ _ ?_ _) _ _ ?_ _) _ _ ?_ _) _ _ ?_ _ <;> omega
      · refine Ext.setNew (Ext.setNew (Ext.setNew (Ext.setNew HXF.out _ _ ?_ _) _ _ ?_ _) _ _ ?_ _) _ _ ?_ _ <;> omega
end Go.Proofs.Ytenlhfimdpcaoaa

namespace Go.Proofs.Ytenlhfimdpcaoaa
open Go.RowKit

/-- a matrix's block -/
def MatB (w : World) (b : Nat) (p r s : Int) (a : Option Addr) (n c : Nat) : Prop := w.heap[b]? = some (.cells #[.int .i64 p, .int .i64 r, .int .i64 s, .slice a n c] 36)
namespace MatB
variable {w w' : World} {b : Nat} {p r s : Int} {a : Option Addr} {n c : Nat}
theorem lt (h : MatB w b p r s a n c) : b < w.heap.size := (Array.getElem?_eq_some_iff.1 h).1
theorem at' (h : MatB w b p r s a n c) : MatAt w b p r s a n c := by
  unfold MatB at h
  constructor <;> simp [World.cell?, h]
theorem fz (h : MatB w b p r s a n c) (j : Nat) : w.frozen? ⟨b, j, none⟩ = false := by
  unfold MatB at h
  simp [World.frozen?, h]
theorem new (w : World) (p r s : Int) (a : Option Addr) (n c : Nat) : MatB (w.alloc (.cells #[.int .i64 p, .int .i64 r, .int .i64 s, .slice a n c] 36)) w.heap.size p r s a n c := heap_alloc_new _ _
theorem same (h : MatB w b p r s a n c) (e : w'.heap[b]? = w.heap[b]?) : MatB w' b p r s a n c := e.trans h
theorem below (h : MatB w b p r s a n c) (hx : Ext w w') : MatB w' b p r s a n c := h.same (hx.block b h.lt)
theorem ne {B : Nat} {av : Option Addr} {m cv : Nat} {xs : List Int} (h : MatB w b p r s a n c) (k : OwnI w B av m cv xs) {g o : Nat} (e : av = some ⟨g, o, none⟩) : g ≠ b := by
  rintro rfl
  obtain ⟨cur, hc⟩ := k.block e
  unfold MatB at h
  rw [h] at hc
  simp at hc
theorem grown {B : Nat} {av : Option Addr} {m cv : Nat} {xs : List Int} (h : MatB w b p r s a n c) (k : OwnI w B av m cv xs) (hg : w.grownBy w' (Value.slice av m cv).ownBlock) : MatB w' b p r s a n c := by
  refine h.same (hg.block b h.lt fun e => ?_)
  cases av with
  | none => simp [Value.ownBlock] at e
  | some q =>
    simp only [Value.ownBlock, Option.some.injEq] at e
    rcases k.row.2 with ⟨he, _⟩ | ⟨g', cap, cur, he, hB, hg', _⟩
    · simp at he
    · simp only [Value.slice.injEq, Option.some.injEq] at he
      obtain ⟨rfl, _⟩ := he
      exact h.ne k rfl e.symm
theorem put3 (h : MatB w b p r s a n c) (a' : Option Addr) (n' c' : Nat) : MatB (w.setCell ⟨b, 3, none⟩ (.slice a' n' c')) b p r s a' n' c' := heap_setCell_at w b 3 _ _ _ _ h
theorem other (h : MatB w b p r s a n c) {b' i : Nat} (v : Value) (hne : b' ≠ b) : MatB (w.setCell ⟨b', i, none⟩ v) b p r s a n c :=
  h.same (Below.heap_setCell _ _ _ _ hne.symm)
end MatB
theorem OwnI.offB {w : World} {B m cv b : Nat} {p r s : Int} {a av : Option Addr} {n c : Nat} {xs : List Int} (k : OwnI w B av m cv xs) (h : MatB w b p r s a n c) (i : Nat) (v : Value) : OwnI (w.setCell ⟨b, i, none⟩ v) B av m cv xs :=
  k.grown (row := some b) ⟨rfl, rfl, rfl, by simp [World.setCell], fun k _ hk => Below.heap_setCell _ _ _ _ (fun e => hk (by rw [e]))⟩ (fun g' o e => by simpa using h.ne k e)
/-- four cells of one block are written -/
def set4 (w : World) (b : Nat) (v0 v1 v2 v3 : Value) : World := (((w.setCell ⟨b, 0, none⟩ v0).setCell ⟨b, 1, none⟩ v1).setCell ⟨b, 2, none⟩ v2).setCell ⟨b, 3, none⟩ v3
theorem OwnI.set4 {w : World} {B n c : Nat} {a : Option Addr} {xs : List Int} (h : OwnI w B a n c xs) (b : Nat) (v0 v1 v2 v3 : Value) (hb : b < B) : OwnI (set4 w b v0 v1 v2 v3) B a n c xs :=
  (((h.setBelow b 0 hb v0).setBelow b 1 hb v1).setBelow b 2 hb v2).setBelow b 3 hb v3
theorem Ext.set4 {w0 w : World} (h : Ext w0 w) (b : Nat) (v0 v1 v2 v3 : Value) (hb : w0.heap.size ≤ b) : Ext w0 (set4 w b v0 v1 v2 v3) :=
  (((h.setNew b 0 hb v0).setNew b 1 hb v1).setNew b 2 hb v2).setNew b 3 hb v3
end Go.Proofs.Ytenlhfimdpcaoaa

namespace Go.Proofs.Ytenlhfimdpcaoaa
open Go.RowKit

set_option maxHeartbeats 2000000 in
theorem l1Rows_any (p cols : Int) (a : Option Addr) (n c : Nat) (rows : List (List Int)) (w : World) (h : RowsI w a n rows) (hn : n ≤ 1000000000) (hl : rows.flatten.length ≤ 1000000000) (hpos : ∀ i, i < n → 1 ≤ (rows.getD i []).length) :
    Calls Try.prog 170 #[.int .i64 p, .int .i64 cols, .slice a n c] w fun e w' => ∃ a' l c', e = .returned (matV p n cols a' l c') ∧ OwnI w' w.heap.size a' l c' rows.flatten ∧ Ext w w' := by
  have G := hidP h
  have L := hidP h.len
  have HLE := hidP (fun i => Nat.le_trans (flatten_take_le rows i) hl)
  have HPos := hidP hpos
  have hnew := fun w1 hx j => new_cell (w' := w1) (w := w) (cs := #[.int .i64 0, .int .i64 0, .int .i64 0, .slice none 0 0]) (E := 36) (b := w.heap.size) rfl hx j
  have hX0 := Ext.alloc w (.cells #[.int .i64 0, .int .i64 0, .int .i64 0, .slice none 0 0] 36)
  have hs0 : (w.alloc (.cells #[.int .i64 0, .int .i64 0, .int .i64 0, .slice none 0 0] 36)).heap.size = w.heap.size + 1 := by simp
  clear h hpos
  go_enter Try.func170, Try.ntmps170
  go_wp2
  obtain ⟨wa, hwa⟩ : ∃ wa, wa = w.alloc (.cells #[.int .i64 0, .int .i64 0, .int .i64 0, .slice none 0 0] 36) := ⟨_, rfl⟩
  rw [← hwa] at hnew hX0 hs0 ⊢
  clear hwa
  have hm := OwnI.made wa wa.heap.size 0 (Nat.le_refl _) (by unfold maxLen; omega)
  rw [show Array.replicate 0 (Value.int .i64 0) = #[] from rfl] at hm
  have hx1 := Ext.alloc wa (.cells #[] 3)
  have hs1 : (wa.alloc (.cells #[] 3)).heap.size = w.heap.size + 1 + 1 := by simp [hs0]
  rw [hs0] at hm
  obtain ⟨wc, hwc⟩ : ∃ wc, wc = wa.alloc (.cells #[] 3) := ⟨_, rfl⟩
  rw [← hwc] at hm hx1 hs1 ⊢
  clear hwc
  have hmb := MatB.new wc p n cols (some ⟨w.heap.size + 1, 0, none⟩) 0 0
  have hx2 := Ext.alloc wc (.cells #[.int .i64 p, .int .i64 (n : Int), .int .i64 cols, .slice (some ⟨w.heap.size + 1, 0, none⟩) 0 0] 36)
  have HO0 := hidP (hm.below hx2)
  have HX0 := hidP (hx1.trans hx2)
  rw [hs1] at hmb
  have HMB0 := hidP hmb
  have HNW := hidP hnew
  have HXa := hidP hX0
  have HS0 := hidP hs0
  clear hm hx1 hx2 hs1 hmb hnew hX0 hs0
  obtain ⟨w0, hw0⟩ : ∃ w0, w0 = wc.alloc (.cells #[.int .i64 p, .int .i64 (n : Int), .int .i64 cols, .slice (some ⟨w.heap.size + 1, 0, none⟩) 0 0] 36) := ⟨_, rfl⟩
  rw [← hw0] at HO0 HX0 HMB0 ⊢
  clear hw0
  go_loopw [8] (fun v wr => ∃ (k q : Nat) (av : Option Addr) (cv : Nat), k ≤ n ∧ v = .int .i64 k ∧ Hid (OwnI wr (w.heap.size + 1) av q cv (rows.take k).flatten) ∧ Hid (MatB wr (w.heap.size + 1 + 1) p n cols av q cv) ∧ Hid (Ext wa wr)) (fun v _ => n - (intOf v).toNat)
  case atStart => exact ⟨0, 0, _, _, Nat.zero_le _, rfl, HO0, HMB0, HX0⟩
  case round =>
    clear HO0 HMB0 HX0
    obtain ⟨k, q, av, cv, hk, rfl, HO, HMB, HX⟩ := hrel
    by_cases hlt : k < n
    · obtain ⟨b, o, a', c', rfl, qc, hI, hnil⟩ := (G.out.below HXa.out).get k hlt
      have hp1 := HPos.out k hlt
      obtain ⟨b', o', rfl, _⟩ := hI.get 0 hp1
      have hs := flatten_take_succ rows k (by have := L.out; omega)
      have hb := HLE.out (k + 1)
      have hq0 := HO.out.len
      rw [hs, List.length_append, hq0] at hb
      have HSu := hidP hs
      have HI := hidP hI
      have HF := hidP (fun w' (hx : MatB w' (w.heap.size + 1 + 1) p n cols av q cv ∧ Ext wa w') => (⟨hx.1.at'.c3, (hx.2.cell (World.block_lt_of_cell? wa _ qc)).trans qc⟩ : _ ∧ _))
      clear hs hI hnil hq0 hp1
      generalize hrow : rows.getD k [] = row at *
      generalize hll : row.length = l at *
      go_wp2
      have hE : Ext wr wr.drew := Ext.drew wr
      have hC : MatB wr.drew (w.heap.size + 1 + 1) p n cols av q cv ∧ Ext wa wr.drew := ⟨HMB.out.below hE, HX.out.trans hE⟩
      (refine walkR_start (fun w' => MatB w' (w.heap.size + 1 + 1) p n cols av q cv ∧ Ext wa w') 7 (by kernel_rfl) ?_; simp only [numbered, List.take_succ_cons, List.take_zero, Nat.zero_add, Nat.reduceAdd, List.length_cons, List.length_nil])
      (repeat (first | (refine walkR_still (v := ?_) rfl (by decide +kernel) rfl (fun _ _ _ h => h) hC ?_ ?_; rotate_left; (focus (intro w' hw'; obtain ⟨f0, f1⟩ := HF.out w' hw'; go_simp; all_goals (with_reducible rfl))); simp only [Act.put, List.setIfInBounds_toArray, List.set_cons_zero, List.set_cons_succ]) | (refine walkR_skip rfl (by decide +kernel) rfl (fun _ _ _ h => h) hC ?_; simp only [Act.put, List.setIfInBounds_toArray, List.set_cons_zero, List.set_cons_succ])))
      (refine walkR_only (fun w' => MatB w' (w.heap.size + 1 + 1) p n cols av q cv ∧ Ext wa w') rfl (by decide +kernel) rfl ?_ ?_)
      · exact fun _ h => h
      intro K hK
      refine wp_append_ints (.tmp 22) (.tmp 26) rfl (w.heap.size + 1) av q cv _ rfl (HO.out.below hE) ⟨b', o', none⟩ l c' row rfl (HI.out.below (HX.out.trans hE)) (by omega) (by have := HX.out.size; have := HS0.out; have := hE.size; omega) ?_
      intro a2 c2 w2 ho2 hg2
      have HX2 := hidP (grown_ext hg2 (HX.out.trans hE) (Nat.le_trans HX.out.size hE.size) (fun q e => by have := HO.out.addr_base q e; have := HS0.out; omega))
      have HMB2 := hidP ((HMB.out.below hE).grown (HO.out.below hE) hg2)
      have HO2 : Hid (OwnI w2 (w.heap.size + 1) a2 (q + l) c2 (rows.take (k + 1)).flatten) := by
        show OwnI _ _ _ _ _ _
        rw [HSu.out]
        exact ho2
      refine hK _ _ ⟨HMB2.out, HX2.out⟩ ?_
      clear hK K ho2 hg2 hE hC
      obtain ⟨f0, f1⟩ := HF.out w2 ⟨HMB2.out, HX2.out⟩
      have f2 := HMB2.out.fz 3
      (try simp only [Act.put, List.setIfInBounds_toArray, List.set_cons_zero, List.set_cons_succ])
      (refine walkR_tail (by rfl) (by kernel_rfl) ?_; simp only [List.drop_succ_cons, List.drop_zero])
      go_wp2
      go_roundw
      case rel => exact ⟨k + 1, q + l, a2, c2, by omega, by go_num, HO2.out.offB HMB2.out 3 _, HMB2.out.put3 _ _ _, Ext.setNew HX2.out _ _ (by have := HS0.out; omega) _⟩
      case measure => simp [intOf]; omega
    · obtain rfl : k = n := by omega
      have ho := HO.out
      rw [List.take_of_length_le (by have := L.out; omega)] at ho
      have HO2 := hidP ho
      clear ho
      obtain ⟨m0, m1, m2, m3⟩ := HMB.out.at'
      obtain ⟨r0, y0⟩ := HNW.out wr HX.out 0
      obtain ⟨r1, y1⟩ := HNW.out wr HX.out 1
      obtain ⟨r2, y2⟩ := HNW.out wr HX.out 2
      obtain ⟨r3, y3⟩ := HNW.out wr HX.out 3
      have r0 := r0.trans (show _ = some (Value.int .i64 0) from rfl)
      have r1 := r1.trans (show _ = some (Value.int .i64 0) from rfl)
      have r2 := r2.trans (show _ = some (Value.int .i64 0) from rfl)
      have r3 := r3.trans (show _ = some (Value.slice none 0 0) from rfl)
      go_wp2
      refine bodyPost_ret (v := matV p k cols av q cv) (by simp [results, Try.results170, go_sem, r0, r1, r2, r3]) rfl ?_
      exact ⟨av, q, cv, rfl, ((HO2.out.set4 w.heap.size _ _ _ _ (by omega)).base (Nat.le_succ _)), Ext.set4 (HXa.out.trans HX.out) _ _ _ _ _ (Nat.le_refl _)⟩
end Go.Proofs.Ytenlhfimdpcaoaa

namespace Go.Proofs.Ytenlhfimdpcaoaa
open Go.RowKit

/-! ### sums -/
theorem sumTo_modC {p : Int} {n : Nat} {f g : Nat → Int} (h : ∀ i, i < n → f i % p = g i % p) : sumTo n f % p = sumTo n g % p := by
  induction n with
  | zero => rfl
  | succ n ih =>
    simp only [sumTo]
    rw [Int.add_emod, ih fun i hi => h i (by omega), h n (by omega), ← Int.add_emod]
theorem sumTo_mulL (n : Nat) (f : Nat → Int) (c : Int) : c * sumTo n f = sumTo n fun k => c * f k := by
  induction n with
  | zero => simp [sumTo]
  | succ n ih => simp only [sumTo]; rw [Int.mul_add, ih]
theorem sumTo_zero (n : Nat) : sumTo n (fun _ => 0) = 0 := by
  induction n with
  | zero => rfl
  | succ n ih => simp only [sumTo]; rw [ih]; rfl
theorem sumTo_addF (n : Nat) (f g : Nat → Int) : sumTo n (fun k => f k + g k) = sumTo n f + sumTo n g := by
  induction n with
  | zero => rfl
  | succ n ih => simp only [sumTo]; rw [ih]; omega
theorem sumTo_swap (n m : Nat) (f : Nat → Nat → Int) : sumTo n (fun i => sumTo m fun j => f i j) = sumTo m fun j => sumTo n fun i => f i j := by
  induction n with
  | zero => simp only [sumTo]; rw [sumTo_zero]
  | succ n ih => simp only [sumTo]; rw [ih, ← sumTo_addF]
theorem sumTo_only {n i : Nat} (hi : i < n) (f : Nat → Int) : sumTo n (fun k => (if i = k then 1 else 0) * f k) = f i := by
  induction n with
  | zero => omega
  | succ n ih =>
    simp only [sumTo]
    by_cases h : i = n
    · subst h
      have h0 : sumTo i (fun k => (if i = k then 1 else 0) * f k) = 0 := by
        rw [sumTo_congr (g := fun _ => 0) fun k hk => by rw [if_neg (by omega)]; omega]
        exact sumTo_zero i
      rw [h0, if_pos rfl]
      omega
    · rw [ih (by omega), if_neg h]
      omega
/-! ### square matrices -/
theorem place_lt {n i j : Nat} (hi : i < n) (hj : j < n) : i * n + j < n * n := by
  have : (i + 1) * n ≤ n * n := Nat.mul_le_mul_right n hi
  rw [Nat.add_mul, Nat.one_mul] at this
  omega
theorem place_div {n i j : Nat} (hj : j < n) : (i * n + j) / n = i := by
  rw [Nat.mul_comm, Nat.mul_add_div (by omega), Nat.div_eq_of_lt hj, Nat.add_zero]
theorem mul_emod_r (a b p : Int) : a * (b % p) % p = a * b % p := by rw [Int.mul_emod, Int.emod_emod, ← Int.mul_emod]
theorem mul_emod_l (a b p : Int) : a % p * b % p = a * b % p := by rw [Int.mul_emod, Int.emod_emod, ← Int.mul_emod]
/-! ### words of matrices -/
/-! ### sums and multiples -/
theorem addL_modK (p : Int) (o X : List Int) (c : Int) : addL p o (c % p) X = addL p o c X := by
  unfold addL
  refine modL_congr fun m hm => ?_
  rw [Int.add_emod, mul_emod_l, ← Int.add_emod]
/-! ### rows of a product -/
end Go.Proofs.Ytenlhfimdpcaoaa

namespace Go.Proofs.Ytenlhfimdpcaoaa
open Go.RowKit

theorem nodup_sub_len : ∀ {l1 l2 : List Nat}, l1.Nodup → (∀ x ∈ l1, x ∈ l2) → l1.length ≤ l2.length
  | [], _, _, _ => Nat.zero_le _
  | a :: l1, l2, h, hs => by
    obtain ⟨h1, h2⟩ := List.nodup_cons.1 h
    have ha := hs a (by simp)
    have ih := nodup_sub_len (l1 := l1) (l2 := l2.erase a) h2 fun x hx => (List.mem_erase_of_ne (fun e => h1 (by rw [← e]; exact hx))).2 (hs x (by simp [hx]))
    rw [List.length_erase_of_mem ha] at ih
    have := List.length_pos_of_mem ha
    rw [List.length_cons]
    omega
theorem perm_of_sub {l1 l2 : List Nat} (h1 : l1.Nodup) (h2 : l2.Nodup) (hs : ∀ x ∈ l1, x ∈ l2) (hl : l1.length = l2.length) : l1.Perm l2 :=
  (List.perm_ext_iff_of_nodup h1 h2).2 fun a => ⟨hs a, fun ha => Classical.byContradiction fun hn => by
    have := nodup_sub_len (l1 := a :: l1) (l2 := l2) (List.nodup_cons.2 ⟨hn, h1⟩) fun x hx => by
      rcases List.mem_cons.1 hx with rfl | h
      · exact ha
      · exact hs x h
    rw [List.length_cons] at this
    omega⟩
def prodN (l : List Nat) : Nat := l.foldr (· * ·) 1
theorem prodN_cons (a : Nat) (l : List Nat) : prodN (a :: l) = a * prodN l := rfl
theorem prodN_perm {l1 l2 : List Nat} (h : l1.Perm l2) : prodN l1 = prodN l2 := by
  induction h with
  | nil => rfl
  | cons x _ ih => rw [prodN_cons, prodN_cons, ih]
  | swap x y l => rw [prodN_cons, prodN_cons, prodN_cons, prodN_cons, Nat.mul_left_comm]
  | trans _ _ ih1 ih2 => exact ih1.trans ih2
theorem prodN_map (a p : Nat) : ∀ l : List Nat, prodN (l.map fun i => a * i % p) % p = a ^ l.length * prodN l % p
  | [] => by simp [prodN]
  | i :: l => by
    rw [List.map_cons, prodN_cons, prodN_cons, List.length_cons, Nat.mul_mod, prodN_map a p l, Nat.mod_mod, ← Nat.mul_mod]
    congr 1
    rw [Nat.pow_succ]
    simp only [Nat.mul_assoc, Nat.mul_left_comm, Nat.mul_comm]
theorem prodN_cop {p : Nat} : ∀ l : List Nat, (∀ i ∈ l, Nat.gcd i p = 1) → Nat.gcd (prodN l) p = 1
  | [], _ => by simp [prodN]
  | i :: l, h => by
    rw [prodN_cons]
    exact Nat.Coprime.mul_left (h i (by simp)) (prodN_cop l fun j hj => h j (by simp [hj]))
/-- 1, .., p - 1 -/
def resL (p : Nat) : List Nat := (List.range (p - 1)).map (· + 1)
theorem resL_mem {p i : Nat} : i ∈ resL p ↔ 1 ≤ i ∧ i < p := by
  unfold resL
  rw [List.mem_map]
  constructor
  · rintro ⟨j, hj, rfl⟩
    rw [List.mem_range] at hj
    omega
  · rintro ⟨h1, h2⟩
    exact ⟨i - 1, List.mem_range.2 (by omega), by omega⟩
theorem resL_nodup (p : Nat) : (resL p).Nodup := by
  unfold resL List.Nodup
  rw [List.pairwise_map]
  exact List.Pairwise.imp (fun h e => h (by omega)) (List.nodup_range (n := p - 1))
theorem resL_length (p : Nat) : (resL p).length = p - 1 := by simp [resL]
theorem times_inj {p a i j : Nat} (hg : Nat.gcd a p = 1) (hi : i < p) (hj : j < p) (h : a * i % p = a * j % p) : i = j := by
  have key : ∀ {i j : Nat}, i < p → j < p → i < j → a * i % p = a * j % p → False := fun {i j} hi hj hlt h => by
    have h1 : (a * j - a * i) % p = 0 := Nat.sub_mod_eq_zero_of_mod_eq h.symm
    rw [← Nat.mul_sub] at h1
    have h2 : p ∣ a * (j - i) := Nat.dvd_of_mod_eq_zero h1
    have h3 : p ∣ j - i := Nat.Coprime.dvd_of_dvd_mul_left (show Nat.Coprime p a from by rw [Nat.Coprime, Nat.gcd_comm]; exact hg) h2
    have := Nat.le_of_dvd (by omega) h3
    omega
  rcases Nat.lt_trichotomy i j with h1 | h1 | h1
  · exact (key hi hj h1 h).elim
  · exact h1
  · exact (key hj hi h1 h.symm).elim
/-- FERMAT -/
theorem fermat {p a : Nat} (hp : primeB p = true) (h1 : 1 ≤ a) (ha : a < p) : a ^ (p - 1) % p = 1 := by
  obtain ⟨p2, _⟩ := prime_bounds hp
  have hp2 : 2 ≤ p := by omega
  have hg := prime_gcd hp h1 ha
  have hperm : ((resL p).map fun i => a * i % p).Perm (resL p) := by
    refine perm_of_sub ?_ (resL_nodup p) (fun x hx => ?_) (by rw [List.length_map])
    · unfold List.Nodup
      rw [List.pairwise_map]
      exact List.Pairwise.imp_of_mem (fun {i j} hi hj hne e => hne (times_inj hg (resL_mem.1 hi).2 (resL_mem.1 hj).2 e)) (resL_nodup p)
    · rw [List.mem_map] at hx
      obtain ⟨i, hi, rfl⟩ := hx
      obtain ⟨i1, i2⟩ := resL_mem.1 hi
      refine resL_mem.2 ⟨?_, Nat.mod_lt _ (by omega)⟩
      apply Classical.byContradiction
      intro h0
      have h3 : p ∣ a * i := Nat.dvd_of_mod_eq_zero (by omega)
      have h4 : p ∣ i := Nat.Coprime.dvd_of_dvd_mul_left (show Nat.Coprime p a from by rw [Nat.Coprime, Nat.gcd_comm]; exact hg) h3
      have := Nat.le_of_dvd (by omega) h4
      omega
  have hW := prodN_cop (p := p) (resL p) fun i hi => prime_gcd hp (resL_mem.1 hi).1 (resL_mem.1 hi).2
  have hm := prodN_map a p (resL p)
  rw [prodN_perm hperm, resL_length] at hm
  obtain ⟨W, hWe⟩ : ∃ W, W = prodN (resL p) := ⟨_, rfl⟩
  rw [← hWe] at hW hm
  have h5 : W * a ^ (p - 1) % p = W * 1 % p := by rw [Nat.mul_one, Nat.mul_comm]; exact hm.symm
  have h6 : a ^ (p - 1) % p < p := Nat.mod_lt _ (by omega)
  have h7 : W * (a ^ (p - 1) % p) % p = W * 1 % p := by rw [Nat.mul_mod, Nat.mod_mod, ← Nat.mul_mod]; exact h5
  exact times_inj hW h6 (by omega) h7
/-- a power, by squares: what is left, so far -/
theorem pow_step (o x : Int) (n : Nat) : o * x ^ n = (if n % 2 = 1 then o * x else o) * (x * x) ^ (n / 2) := by
  have h := Nat.div_add_mod n 2
  have e : x ^ n = (x * x) ^ (n / 2) * x ^ (n % 2) := by
    conv => lhs; rw [← h]
    rw [Int.pow_add, Int.pow_mul, Int.pow_succ, Int.pow_succ, Int.pow_zero, Int.one_mul]
  rw [e]
  split
  · rename_i h1
    rw [h1, Int.pow_succ, Int.pow_zero, Int.one_mul, Int.mul_comm ((x * x) ^ (n / 2)), Int.mul_assoc]
  · rw [show n % 2 = 0 by omega, Int.pow_zero, Int.mul_one]
theorem pow_emod (x p : Int) (n : Nat) : (x % p) ^ n % p = x ^ n % p := by
  induction n with
  | zero => rw [Int.pow_zero, Int.pow_zero]
  | succ n ih => rw [Int.pow_succ, Int.pow_succ, Int.mul_emod, ih, Int.emod_emod, ← Int.mul_emod]
theorem invP_pow {p a : Nat} (hp : primeB p = true) (h1 : 1 ≤ a) (ha : a < p) : invP a p = (a : Int) ^ (p - 2) % p := by
  obtain ⟨p2, _⟩ := prime_bounds hp
  refine invP_eq (Int.emod_nonneg _ (by omega)) (Int.emod_lt_of_pos _ (by omega)) ?_
  rw [Int.mul_emod, Int.emod_emod, ← Int.mul_emod, ← Int.pow_succ']
  have h := fermat hp h1 ha
  rw [show p - 2 + 1 = p - 1 by omega]
  have e : ((a ^ (p - 1) % p : Nat) : Int) = (a : Int) ^ (p - 1) % (p : Int) := by rw [Int.natCast_emod, Int.natCast_pow]
  rw [← e, h]
  rfl
end Go.Proofs.Ytenlhfimdpcaoaa

namespace Go.Proofs.Ytenlhfimdpcaoaa
open Go.RowKit

/-- v is a combination of the rows of B, modulo p, in the first d places -/
def InSp (p : Int) (d : Nat) (B : List (List Int)) (v : Nat → Int) : Prop := ∃ c : Nat → Int, ∀ j, j < d → v j % p = (sumTo B.length fun i => c i * (B.getD i []).getD j 0) % p
def rowF (r : List Int) : Nat → Int := fun j => r.getD j 0
section
variable {p : Int} {d : Nat} {B C : List (List Int)} {v w : Nat → Int}
theorem InSp.congr (h : InSp p d B v) (e : ∀ j, j < d → w j % p = v j % p) : InSp p d B w := by
  obtain ⟨c, hc⟩ := h
  exact ⟨c, fun j hj => (e j hj).trans (hc j hj)⟩
theorem InSp.zero : InSp p d B (fun _ => 0) := ⟨fun _ => 0, fun j _ => by
  rw [sumTo_congr (g := fun _ => 0) fun i _ => Int.zero_mul _, sumTo_zero]⟩
theorem InSp.row {i : Nat} (hi : i < B.length) : InSp p d B (rowF (B.getD i [])) := ⟨fun k => if i = k then 1 else 0, fun j _ => by
  rw [sumTo_only hi (fun k => (B.getD k []).getD j 0)]
  rfl⟩
theorem InSp.lin (hv : InSp p d B v) (hw : InSp p d B w) (a b : Int) : InSp p d B (fun j => a * v j + b * w j) := by
  obtain ⟨c, hc⟩ := hv
  obtain ⟨e, he⟩ := hw
  refine ⟨fun i => a * c i + b * e i, fun j hj => ?_⟩
  rw [sumTo_congr (g := fun i => a * (c i * (B.getD i []).getD j 0) + b * (e i * (B.getD i []).getD j 0)) fun i _ => by
    rw [Int.add_mul, Int.mul_assoc, Int.mul_assoc], sumTo_addF, ← sumTo_mulL, ← sumTo_mulL]
  rw [Int.add_emod, Int.mul_emod, hc j hj, ← Int.mul_emod, Int.mul_emod b, he j hj, ← Int.mul_emod, ← Int.add_emod]
theorem InSp.sum (f : Nat → Nat → Int) (c : Nat → Int) : ∀ n, (∀ i, i < n → InSp p d B (f i)) → InSp p d B (fun j => sumTo n fun i => c i * f i j)
  | 0, _ => InSp.zero
  | n + 1, h => by
    have h1 := InSp.sum f c n fun i hi => h i (by omega)
    refine (h1.lin (h n (by omega)) 1 (c n)).congr fun j _ => ?_
    simp only [sumTo, Int.one_mul]
theorem InSp.trans (h : InSp p d B v) (hB : ∀ i, i < B.length → InSp p d C (rowF (B.getD i []))) : InSp p d C v := by
  obtain ⟨c, hc⟩ := h
  exact (InSp.sum (fun i => rowF (B.getD i [])) c B.length hB).congr hc
end
/-- two lists of rows of one span -/
structure SpEq (p : Int) (d : Nat) (A B : List (List Int)) : Prop where
  left : ∀ i, i < A.length → InSp p d B (rowF (A.getD i []))
  right : ∀ i, i < B.length → InSp p d A (rowF (B.getD i []))
theorem SpEq.refl (p : Int) (d : Nat) (A : List (List Int)) : SpEq p d A A := ⟨fun _ hi => InSp.row hi, fun _ hi => InSp.row hi⟩
theorem SpEq.trans {p : Int} {d : Nat} {A B C : List (List Int)} (h : SpEq p d A B) (k : SpEq p d B C) : SpEq p d A C :=
  ⟨fun i hi => (h.left i hi).trans k.left, fun i hi => (k.right i hi).trans h.right⟩
/-- one row replaced -/
theorem SpEq.set {p : Int} {d : Nat} {A : List (List Int)} {m : Nat} {u : List Int} (hm : m < A.length) (h1 : InSp p d A (rowF u)) (h2 : InSp p d (A.set m u) (rowF (A.getD m []))) : SpEq p d A (A.set m u) := by
  refine ⟨fun i hi => ?_, fun i hi => ?_⟩
  · by_cases e : m = i
    · subst e
      exact h2
    · have h3 := InSp.row (p := p) (d := d) (B := A.set m u) (i := i) (by rw [List.length_set]; exact hi)
      rw [getD_setL _ _ _ _ _ hm, if_neg e] at h3
      exact h3
  · rw [List.length_set] at hi
    rw [getD_setL _ _ _ _ _ hm]
    split
    · exact h1
    · exact InSp.row hi
theorem SpEq.swap {p : Int} {d : Nat} {A : List (List Int)} {i j : Nat} (hi : i < A.length) (hj : j < A.length) : SpEq p d A (swapR A i j) := by
  have hl := swapR_length A i j
  refine ⟨fun q hq => ?_, fun q hq => ?_⟩
  · have key : ∀ r, r < A.length → (swapR A i j).getD r [] = A.getD q [] → InSp p d (swapR A i j) (rowF (A.getD q [])) := fun r hr e => by
      rw [← e]
      exact InSp.row (by rw [hl]; exact hr)
    by_cases e1 : q = i
    · subst e1
      exact key j hj (by rw [swapR_get _ _ _ _ hi hj, if_pos rfl])
    · by_cases e2 : q = j
      · subst e2
        refine key i hi ?_
        rw [swapR_get _ _ _ _ hi hj]
        split
        · rename_i h
          rw [h]
        · rw [if_pos rfl]
      · refine key q hq ?_
        rw [swapR_get _ _ _ _ hi hj, if_neg (Ne.symm e2), if_neg (Ne.symm e1)]
  · rw [hl] at hq
    rw [swapR_get _ _ _ _ hi hj]
    split
    · exact InSp.row hi
    · split
      · exact InSp.row hj
      · exact InSp.row hq
/-- what clearing leaves -/
theorem clearTo_get (p : Int) (c at' : Nat) (rows : List (List Int)) : ∀ m, m ≤ rows.length → ∀ i, i < rows.length →
    (clearTo p c at' rows m).getD i [] = if i < m ∧ i ≠ at' ∧ (rows.getD i []).getD c 0 ≠ 0 then addL p (rows.getD i []) (p - (rows.getD i []).getD c 0) (rows.getD at' []) else rows.getD i []
  | 0, _, i, _ => by rw [if_neg (by omega)]; rfl
  | m + 1, hm, i, hi => by
    have ih := clearTo_get p c at' rows m (by omega)
    have hl := clearTo_length p c at' rows m
    have hmm := ih m (by omega)
    rw [if_neg (by omega)] at hmm
    have hat : at' < rows.length → (clearTo p c at' rows m).getD at' [] = rows.getD at' [] := fun h => by
      rw [ih at' h, if_neg (by simp)]
    have hat' : (clearTo p c at' rows m).getD at' [] = rows.getD at' [] := by
      by_cases h : at' < rows.length
      · exact hat h
      · rw [List.getD_eq_getElem?_getD, List.getD_eq_getElem?_getD, List.getElem?_eq_none (by omega), List.getElem?_eq_none (by omega)]
    simp only [clearTo]
    rw [hmm, hat']
    split
    · rename_i h1
      rw [getD_setL _ _ _ _ _ (by omega)]
      split
      · rename_i e
        subst e
        rw [if_pos ⟨by omega, h1⟩]
      · rename_i e
        rw [ih i hi]
        congr 1
        simp only [eq_iff_iff]
        constructor
        · rintro ⟨a, b⟩; exact ⟨by omega, b⟩
        · rintro ⟨a, b⟩; exact ⟨by omega, b⟩
    · rename_i h1
      rw [ih i hi]
      by_cases e : i = m
      · subst e
        rw [if_neg (by omega), if_neg (fun h => h1 h.2)]
      · congr 1
        simp only [eq_iff_iff]
        constructor
        · rintro ⟨a, b⟩; exact ⟨by omega, b⟩
        · rintro ⟨a, b⟩; exact ⟨by omega, b⟩
theorem SpEq.clear {p : Int} (hp : 0 < p) {d : Nat} {rows : List (List Int)} (h : Rows p d rows) (c at' : Nat) (hat : at' < rows.length) : ∀ m, m ≤ rows.length → SpEq p d rows (clearTo p c at' rows m)
  | 0, _ => SpEq.refl _ _ _
  | m + 1, hm => by
    have ih := SpEq.clear hp h c at' hat m (by omega)
    have hl := clearTo_length p c at' rows m
    have hr := clearTo_rows hp h c at' m (by omega)
    refine ih.trans ?_
    simp only [clearTo]
    split
    · rename_i h1
      have hln := hr.len m (by omega)
      refine SpEq.set (by omega) ?_ ?_
      · refine ((InSp.row (i := m) (by omega)).lin (InSp.row (i := at') (by omega)) 1 (p - ((clearTo p c at' rows m).getD m []).getD c 0)).congr fun j hj => ?_
        show (addL p _ _ _).getD j 0 % p = _
        rw [addL_get _ _ _ _ _ (by omega), Int.emod_emod, Int.one_mul]
        rfl
      · have e1 := InSp.row (p := p) (d := d) (B := (clearTo p c at' rows m).set m (addL p ((clearTo p c at' rows m).getD m []) (p - ((clearTo p c at' rows m).getD m []).getD c 0) ((clearTo p c at' rows m).getD at' []))) (i := m) (by rw [List.length_set]; omega)
        have e2 := InSp.row (p := p) (d := d) (B := (clearTo p c at' rows m).set m (addL p ((clearTo p c at' rows m).getD m []) (p - ((clearTo p c at' rows m).getD m []).getD c 0) ((clearTo p c at' rows m).getD at' []))) (i := at') (by rw [List.length_set]; omega)
        rw [getD_setL _ _ _ _ _ (by omega), if_pos rfl] at e1
        rw [getD_setL _ _ _ _ _ (by omega), if_neg h1.1] at e2
        refine (e1.lin e2 1 (((clearTo p c at' rows m).getD m []).getD c 0)).congr fun j hj => ?_
        show rowF _ j % p = (1 * (addL p _ _ _).getD j 0 + _ * rowF _ j) % p
        rw [addL_get _ _ _ _ _ (by omega), Int.one_mul, Int.emod_add_emod]
        unfold rowF
        obtain ⟨x, hx⟩ : ∃ x, x = ((clearTo p c at' rows m).getD m []).getD c 0 := ⟨_, rfl⟩
        obtain ⟨y, hy⟩ : ∃ y, y = ((clearTo p c at' rows m).getD at' []).getD j 0 := ⟨_, rfl⟩
        rw [← hx, ← hy]
        rw [show ((clearTo p c at' rows m).getD m []).getD j 0 + (p - x) * y + x * y = ((clearTo p c at' rows m).getD m []).getD j 0 + p * y by rw [Int.sub_mul]; omega, Int.add_mul_emod_self_left]
    · exact SpEq.refl _ _ _
end Go.Proofs.Ytenlhfimdpcaoaa

namespace Go.Proofs.Ytenlhfimdpcaoaa
open Go.RowKit

def pivN (st : List (List Int) × List Int) (i : Nat) : Nat := (st.2.getD i 0).toNat
def entN (st : List (List Int) × List Int) (i j : Nat) : Int := (st.1.getD i []).getD j 0
/-- reduced in the first k columns -/
structure Ech (p : Int) (k : Nat) (st : List (List Int) × List Int) : Prop where
  lt : ∀ i, i < st.2.length → pivN st i < k
  mono : ∀ i j, i < j → j < st.2.length → pivN st i < pivN st j
  one : ∀ i, i < st.2.length → entN st i (pivN st i) = 1
  off : ∀ i m, i < st.2.length → m < st.1.length → m ≠ i → entN st m (pivN st i) = 0
  left : ∀ i j, i < st.2.length → j < pivN st i → entN st i j = 0
  rest : ∀ m, st.2.length ≤ m → m < st.1.length → ∀ j, j < k → entN st m j = 0
theorem findRow_hit {rows : List (List Int)} {c at' : Nat} (h : findRow rows c at' < rows.length) : (rows.getD (findRow rows c at') []).getD c 0 ≠ 0 := by
  have hlt : (rows.drop at').findIdx (fun row => row.getD c 0 != 0) < (rows.drop at').length := by
    unfold findRow at h
    rw [List.length_drop]
    omega
  have h1 := List.findIdx_getElem (p := fun row : List Int => row.getD c 0 != 0) (xs := rows.drop at') (w := hlt)
  have e : (rows.drop at')[(rows.drop at').findIdx (fun row => row.getD c 0 != 0)] = rows.getD (findRow rows c at') [] := by
    rw [List.getElem_drop, List.getD_eq_getElem?_getD, List.getElem?_eq_getElem h]
    rfl
  rw [e] at h1
  simpa using h1
theorem findRow_miss {rows : List (List Int)} {c at' i : Nat} (h : ¬ findRow rows c at' < rows.length) (hi : at' ≤ i) (hl : i < rows.length) : (rows.getD i []).getD c 0 = 0 := by
  unfold findRow at h
  have hlt : i - at' < (rows.drop at').findIdx (fun row => row.getD c 0 != 0) := by omega
  have h1 := List.not_of_lt_findIdx hlt
  have e : (rows.drop at')[i - at']'(by rw [List.length_drop]; omega) = rows.getD i [] := by
    rw [List.getElem_drop, List.getD_eq_getElem?_getD, List.getElem?_eq_getElem hl, Option.getD_some]
    congr 1
    omega
  rw [e] at h1
  simpa using h1
theorem getD_app (l : List Int) (x : Int) (i : Nat) : (l ++ [x]).getD i 0 = if i < l.length then l.getD i 0 else if i = l.length then x else 0 := by
  simp only [List.getD_eq_getElem?_getD]
  split
  · rename_i h
    rw [List.getElem?_append_left h]
  · rename_i h
    rw [List.getElem?_append_right (by omega)]
    split
    · rename_i h2
      rw [h2]
      simp
    · rename_i h2
      rw [List.getElem?_eq_none (by simp; omega)]
      rfl
/-- the rows behind a column with a pivot, entry by entry -/
structure StepE (p : Int) (d k at' r : Nat) (A B : List (List Int)) : Prop where
  len : B.length = A.length
  at_ : ∀ j, j < d → (B.getD at' []).getD j 0 = (A.getD r []).getD j 0 * invP ((A.getD r []).getD k 0) p % p
  other : ∀ i, i < A.length → i ≠ at' → ∀ j, j < d → (B.getD i []).getD j 0 = ((A.getD (if i = r then at' else i) []).getD j 0 + (p - (A.getD (if i = r then at' else i) []).getD k 0) * (B.getD at' []).getD j 0) % p
theorem step_both {p : Int} (hp : primeB p = true) {d k n : Nat} {st : List (List Int) × List Int} (h : RedOk p d n k st) (hk : k < d) (hf : findRow st.1 k st.2.length < st.1.length) :
    StepE p d k st.2.length (findRow st.1 k st.2.length) st.1 (redStep p k st).1 ∧ (redStep p k st).2 = st.2 ++ [(k : Int)] ∧ SpEq p d st.1 (redStep p k st).1 := by
  obtain ⟨p2, p7⟩ := prime_bounds hp
  have hp0 : 0 < p := by omega
  have hge := findRow_ge st.1 k st.2.length
  obtain ⟨r, hr⟩ : ∃ r, r = findRow st.1 k st.2.length := ⟨_, rfl⟩
  have hx0 := findRow_hit hf
  have e : redStep p k st = (clearTo p k st.2.length ((swapR st.1 r st.2.length).set st.2.length (scaleR p (invP (((swapR st.1 r st.2.length).getD st.2.length []).getD k 0) p) ((swapR st.1 r st.2.length).getD st.2.length []))) ((swapR st.1 r st.2.length).set st.2.length (scaleR p (invP (((swapR st.1 r st.2.length).getD st.2.length []).getD k 0) p) ((swapR st.1 r st.2.length).getD st.2.length []))).length, st.2 ++ [(k : Int)]) := by
    unfold redStep
    rw [hr]
    simp only
    rw [if_pos hf]
  rw [← hr] at hf hge hx0 ⊢
  rw [e]
  clear e hr
  obtain ⟨a, ha⟩ : ∃ a, a = st.2.length := ⟨_, rfl⟩
  rw [← ha] at hge ⊢
  have hal : a < st.1.length := by omega
  have hs1 := swapR_length st.1 r a
  have hR1 := h.rows.swap r a hf hal
  have hat1 : (swapR st.1 r a).getD a [] = st.1.getD r [] := by rw [swapR_get _ _ _ _ hf hal, if_pos rfl]
  rw [hat1]
  obtain ⟨x, hx⟩ : ∃ x, x = (st.1.getD r []).getD k 0 := ⟨_, rfl⟩
  rw [← hx] at hx0 ⊢
  have hxb := h.rows.get hf hk
  rw [← hx] at hxb
  have hinv : x * invP x p % p = 1 := by
    obtain ⟨m, hm⟩ : ∃ m : Nat, x = m := ⟨x.toNat, by omega⟩
    obtain ⟨q, hq⟩ : ∃ q : Nat, p = q := ⟨p.toNat, by omega⟩
    subst hm
    subst hq
    have h1 := fermat (a := m) hp (by omega) (by omega)
    have hm1 : 1 ≤ q - 1 := by omega
    refine (invP_spec ⟨(m : Int) ^ (q - 2) % q, Int.emod_nonneg _ (by omega), Int.emod_lt_of_pos _ (by omega), ?_⟩).2.2
    rw [Int.mul_emod, Int.emod_emod, ← Int.mul_emod, ← Int.pow_succ', show q - 2 + 1 = q - 1 by omega]
    have e : ((m ^ (q - 1) % q : Nat) : Int) = (m : Int) ^ (q - 1) % (q : Int) := by rw [Int.natCast_emod, Int.natCast_pow]
    rw [← e, h1]
    rfl
  obtain ⟨I, hI⟩ : ∃ I, I = invP x p := ⟨_, rfl⟩
  rw [← hI] at hinv ⊢
  have hrl := h.rows.len r hf
  have hsl : (scaleR p I (st.1.getD r [])).length = d := by rw [scaleR_length]; exact hrl
  have hsr : Res p (scaleR p I (st.1.getD r [])) := Res.modL hp0 _ _
  obtain ⟨S, hS⟩ : ∃ S, S = scaleR p I (st.1.getD r []) := ⟨_, rfl⟩
  have hSg : ∀ j, j < d → S.getD j 0 = (st.1.getD r []).getD j 0 * I % p := fun j hj => by rw [hS, scaleR_get _ _ _ _ (by omega)]
  rw [← hS] at hsl hsr ⊢
  have hR2 := hR1.set a hsl hsr
  have hl2 : ((swapR st.1 r a).set a S).length = st.1.length := by rw [List.length_set, hs1]
  have hg2 : ∀ i, ((swapR st.1 r a).set a S).getD i [] = if a = i then S else if r = i then st.1.getD a [] else st.1.getD i [] := fun i => by
    rw [getD_setL _ _ _ _ _ (by omega), swapR_get _ _ _ _ hf hal]
    by_cases e1 : a = i
    · rw [if_pos e1, if_pos e1]
    · rw [if_neg e1, if_neg e1, if_neg e1]
  have hk1 : S.getD k 0 = 1 := by rw [hSg k hk, ← hx]; exact hinv
  refine ⟨⟨by rw [clearTo_length]; exact hl2, fun j hj => ?_, fun i hi hne j hj => ?_⟩, rfl, ?_⟩
  · show ((clearTo p k a _ _).getD a []).getD j 0 = _
    rw [clearTo_get p k a _ _ (Nat.le_refl _) a (by omega), if_neg (by simp), hg2, if_pos rfl, ← hx, ← hI]
    exact hSg j hj
  · show ((clearTo p k a _ _).getD i []).getD j 0 = ((st.1.getD (if i = r then a else i) []).getD j 0 + (p - (st.1.getD (if i = r then a else i) []).getD k 0) * ((clearTo p k a _ _).getD a []).getD j 0) % p
    have hb : (clearTo p k a ((swapR st.1 r a).set a S) ((swapR st.1 r a).set a S).length).getD a [] = S := by
      rw [clearTo_get p k a _ _ (Nat.le_refl _) a (by omega), if_neg (by simp), hg2, if_pos rfl]
    rw [hb, clearTo_get p k a _ _ (Nat.le_refl _) i (by omega), hg2 i, hg2 a, if_neg (Ne.symm hne), if_pos rfl]
    have e2 : (if r = i then st.1.getD a [] else st.1.getD i []) = st.1.getD (if i = r then a else i) [] := by
      by_cases e3 : i = r
      · rw [if_pos e3, if_pos e3.symm]
      · rw [if_neg e3, if_neg (Ne.symm e3)]
    rw [e2]
    have hlt : (if i = r then a else i) < st.1.length := by split <;> omega
    obtain ⟨q, hq⟩ : ∃ q, q = (if i = r then a else i) := ⟨_, rfl⟩
    rw [← hq] at hlt ⊢
    have hl3 := h.rows.len q hlt
    have hb3 := h.rows.get hlt hj
    split
    · rw [addL_get _ _ _ _ _ (by omega)]
    · rename_i h3
      have h4 : (st.1.getD q []).getD k 0 = 0 := Classical.byContradiction fun h5 => h3 ⟨by omega, hne, h5⟩
      rw [h4, Int.sub_zero, Int.add_mul_emod_self_left]
      exact (Int.emod_eq_of_lt hb3.1 hb3.2).symm
  · refine ((SpEq.swap hf hal).trans ?_).trans (SpEq.clear hp0 hR2 k a (by omega) _ (Nat.le_refl _))
    refine SpEq.set (by omega) ?_ ?_
    · have h1 := InSp.row (p := p) (d := d) (B := swapR st.1 r a) (i := a) (by omega)
      refine (h1.lin h1 I 0).congr fun j hj => ?_
      show S.getD j 0 % p = (I * ((swapR st.1 r a).getD a []).getD j 0 + 0 * _) % p
      rw [hSg j hj, hat1, Int.emod_emod, Int.zero_mul, Int.add_zero, Int.mul_comm]
    · have h1 := InSp.row (p := p) (d := d) (B := (swapR st.1 r a).set a S) (i := a) (by omega)
      rw [hg2, if_pos rfl] at h1
      refine (h1.lin h1 x 0).congr fun j hj => ?_
      show ((swapR st.1 r a).getD a []).getD j 0 % p = (x * S.getD j 0 + 0 * _) % p
      rw [hSg j hj, hat1, Int.zero_mul, Int.add_zero, mul_emod_r, Int.mul_comm ((st.1.getD r []).getD j 0), ← Int.mul_assoc, ← mul_emod_l, hinv, Int.one_mul]
theorem Ech.start (p : Int) (rows : List (List Int)) : Ech p 0 (rows, []) :=
  ⟨fun i h => by simp at h, fun i j _ h => by simp at h, fun i h => by simp at h, fun i m h => by simp at h, fun i j h => by simp at h, fun m _ _ j h => by omega⟩
theorem Ech.step {p : Int} (hp : primeB p = true) {d k n : Nat} {st : List (List Int) × List Int} (h : RedOk p d n k st) (he : Ech p k st) (hk : k < d) : Ech p (k + 1) (redStep p k st) ∧ SpEq p d st.1 (redStep p k st).1 := by
  obtain ⟨p2, p7⟩ := prime_bounds hp
  have hp0 : 0 < p := by omega
  by_cases hf : findRow st.1 k st.2.length < st.1.length
  · obtain ⟨hE, h2, hS⟩ := step_both hp h hk hf
    have hge := findRow_ge st.1 k st.2.length
    have hx0 := findRow_hit hf
    obtain ⟨r, hr⟩ : ∃ r, r = findRow st.1 k st.2.length := ⟨_, rfl⟩
    rw [← hr] at hf hge hx0 hE
    have hrz := fun j (hj : j < k) => he.rest r hge hf j hj
    obtain ⟨a, ha⟩ : ∃ a, a = st.2.length := ⟨_, rfl⟩
    rw [← ha] at hge hE
    have hal : a < st.1.length := by omega
    have hxb := h.rows.get hf hk
    have hinv : (st.1.getD r []).getD k 0 * invP ((st.1.getD r []).getD k 0) p % p = 1 := by
      obtain ⟨x, hx⟩ : ∃ x, x = (st.1.getD r []).getD k 0 := ⟨_, rfl⟩
      rw [← hx] at hxb hx0 ⊢
      obtain ⟨m, hm⟩ : ∃ m : Nat, x = m := ⟨x.toNat, by omega⟩
      obtain ⟨q, hq⟩ : ∃ q : Nat, p = q := ⟨p.toNat, by omega⟩
      subst hm
      subst hq
      have h1 := fermat (a := m) hp (by omega) (by omega)
      refine (invP_spec ⟨(m : Int) ^ (q - 2) % q, Int.emod_nonneg _ (by omega), Int.emod_lt_of_pos _ (by omega), ?_⟩).2.2
      rw [Int.mul_emod, Int.emod_emod, ← Int.mul_emod, ← Int.pow_succ', show q - 2 + 1 = q - 1 by omega]
      have e : ((m ^ (q - 1) % q : Nat) : Int) = (m : Int) ^ (q - 1) % (q : Int) := by rw [Int.natCast_emod, Int.natCast_pow]
      rw [← e, h1]
      rfl
    obtain ⟨st', hst⟩ : ∃ st', st' = redStep p k st := ⟨_, rfl⟩
    rw [← hst] at hE h2 hS ⊢
    have hl2 : st'.2.length = a + 1 := by rw [h2, ha]; simp
    have hpo : ∀ i, i < a → pivN st' i = pivN st i := fun i hi => by
      unfold pivN
      rw [h2, getD_app, if_pos (by omega)]
    have hpn : pivN st' a = k := by
      unfold pivN
      rw [h2, getD_app, if_neg (by omega), if_pos ha]
      simp
    -- entries of the pivot's row
    have hatz : ∀ j, j < k → entN st' a j = 0 := fun j hj => by
      unfold entN
      rw [hE.at_ j (by omega)]
      have := hrz j hj
      unfold entN at this
      rw [this, Int.zero_mul]
      rfl
    have hatk : entN st' a k = 1 := by
      unfold entN
      rw [hE.at_ k hk]
      exact hinv
    -- the others keep what lies ahead of k
    have hko : ∀ i, i < st.1.length → i ≠ a → ∀ j, j < k → entN st' i j = entN st (if i = r then a else i) j := fun i hi hne j hj => by
      have h3 := hE.other i hi hne j (by omega)
      have h4 := hatz j hj
      unfold entN at h4 ⊢
      rw [h3, h4, Int.mul_zero, Int.add_zero]
      have hlt : (if i = r then a else i) < st.1.length := by split <;> omega
      have hb := h.rows.get hlt (show j < d by omega)
      exact Int.emod_eq_of_lt hb.1 hb.2
    have hkz : ∀ i, i < st.1.length → i ≠ a → entN st' i k = 0 := fun i hi hne => by
      have h3 := hE.other i hi hne k hk
      unfold entN at hatk ⊢
      rw [h3, hatk, Int.mul_one, show ∀ y : Int, y + (p - y) = p by intro y; omega, Int.emod_self]
    have hl1 := hE.len
    refine ⟨⟨fun i hi => ?_, fun i j hij hj => ?_, fun i hi => ?_, fun i m hi hm hne => ?_, fun i j hi hj => ?_, fun m hm1 hm2 j hj => ?_⟩, hS⟩
    · rw [hl2] at hi
      by_cases e : i = a
      · rw [e, hpn]
        omega
      · rw [hpo i (by omega)]
        have := he.lt i (by omega)
        omega
    · rw [hl2] at hj
      by_cases e : j = a
      · rw [e, hpn, hpo i (by omega)]
        exact he.lt i (by omega)
      · rw [hpo i (by omega), hpo j (by omega)]
        exact he.mono i j hij (by omega)
    · rw [hl2] at hi
      by_cases e : i = a
      · rw [e, hpn]
        exact hatk
      · have hia : i < a := by omega
        have hlt := he.lt i (by omega)
        rw [hpo i hia, hko i (by omega) e _ hlt, if_neg (by omega)]
        exact he.one i (by omega)
    · rw [hl2] at hi
      rw [hl1] at hm
      by_cases e : i = a
      · rw [e, hpn]
        exact hkz m hm (by omega)
      · have hia : i < a := by omega
        have hlt := he.lt i (by omega)
        rw [hpo i hia]
        by_cases em : m = a
        · rw [em]
          exact hatz _ hlt
        · rw [hko m hm em _ hlt]
          refine he.off i _ (by omega) (by split <;> omega) ?_
          split <;> omega
    · rw [hl2] at hi
      by_cases e : i = a
      · rw [e, hpn] at hj
        rw [e]
        exact hatz j hj
      · have hia : i < a := by omega
        have hlt := he.lt i (by omega)
        rw [hpo i hia] at hj
        rw [hko i (by omega) e _ (by omega), if_neg (by omega)]
        exact he.left i j (by omega) hj
    · rw [hl2] at hm1
      rw [hl1] at hm2
      by_cases e : j = k
      · rw [e]
        exact hkz m hm2 (by omega)
      · rw [hko m hm2 (by omega) j (by omega)]
        refine he.rest _ ?_ (by split <;> omega) j (by omega)
        split <;> omega
  · have e : redStep p k st = st := by
      unfold redStep
      simp only
      rw [if_neg hf]
    rw [e]
    refine ⟨⟨fun i hi => by have := he.lt i hi; omega, he.mono, he.one, he.off, he.left, fun m h1 h2 j hj => ?_⟩, SpEq.refl _ _ _⟩
    by_cases ej : j = k
    · rw [ej]
      exact findRow_miss hf h1 h2
    · exact he.rest m h1 h2 j (by omega)
theorem red_all {p : Int} (hp : primeB p = true) {d : Nat} {rows : List (List Int)} (h : Rows p d rows) : ∀ k, k ≤ d → Ech p k (redTo p rows k) ∧ SpEq p d rows (redTo p rows k).1
  | 0, _ => ⟨Ech.start p rows, SpEq.refl _ _ _⟩
  | k + 1, hk => by
    obtain ⟨h1, h2⟩ := red_all hp h k (by omega)
    have hp0 : 0 < p := by have := (prime_bounds hp).1; omega
    obtain ⟨h3, h4⟩ := h1.step hp (redTo_ok hp0 h k) (by omega)
    exact ⟨h3, h2.trans h4⟩
theorem sumTo_one {n k : Nat} (hk : k < n) {f : Nat → Int} (h : ∀ i, i < n → i ≠ k → f i = 0) : sumTo n f = f k := by
  have e : sumTo n f = sumTo n fun i => (if k = i then 1 else 0) * f i := sumTo_congr fun i hi => by
    by_cases e : k = i
    · rw [if_pos e, Int.one_mul]
    · rw [if_neg e, Int.zero_mul]
      exact h i hi (Ne.symm e)
  rw [e, sumTo_only hk]
/-- a row that leads in a column, out of a span, leads in a pivot of it -/
theorem lead_piv {p : Int} (_hp2 : 2 ≤ p) {d : Nat} {B : List (List Int) × List Int} (hB : Ech p d B) {v : Nat → Int} (hv : InSp p d B.1 v) {q : Nat} (hq : q < d) (hl : ∀ j, j < q → v j % p = 0) (h1 : v q % p = 1) : ∃ i, i < B.2.length ∧ pivN B i = q := by
  obtain ⟨c, hc⟩ := hv
  apply Classical.byContradiction
  intro hno
  have hne : ∀ i, i < B.2.length → pivN B i ≠ q := fun i hi e => hno ⟨i, hi, e⟩
  by_cases hBl : B.2.length ≤ B.1.length
  · have hpiv : ∀ i, i < B.2.length → v (pivN B i) % p = c i % p := fun i hi => by
      rw [hc _ (hB.lt i hi), sumTo_one (k := i) (by omega) fun m hm hmi => by
        have := hB.off i m hi hm hmi
        unfold entN at this
        rw [this, Int.mul_zero]]
      have := hB.one i hi
      unfold entN at this
      rw [this, Int.mul_one]
    have h2 := hc q hq
    have h3 : sumTo B.1.length (fun i => c i * (B.1.getD i []).getD q 0) % p = sumTo B.1.length (fun _ => 0) % p := sumTo_modC fun i hi => by
      by_cases hir : i < B.2.length
      · rcases Nat.lt_or_gt_of_ne (hne i hir) with h4 | h4
        · have h5 := hpiv i hir
          rw [hl _ h4] at h5
          rw [Int.mul_emod, ← h5, Int.zero_mul]
        · have h5 := hB.left i q hir h4
          unfold entN at h5
          rw [h5, Int.mul_zero]
      · have h5 := hB.rest i (by omega) hi q hq
        unfold entN at h5
        rw [h5, Int.mul_zero]
    rw [h2, h3, sumTo_zero] at h1
    simp at h1
  · -- more pivots than rows: impossible, a pivot's row is not empty
    have h4 := hB.one B.1.length (by omega)
    unfold entN at h4
    rw [show B.1.getD B.1.length [] = [] by simp [List.getD_eq_getElem?_getD]] at h4
    simp at h4
/-- a smaller space has fewer reduced rows -/
theorem rank_le {p : Int} (hp : primeB p = true) {d : Nat} {A B : List (List Int)} (hA : Rows p d A) (hB : Rows p d B) (h : ∀ i, i < A.length → InSp p d B (rowF (A.getD i []))) : (redTo p A d).2.length ≤ (redTo p B d).2.length := by
  obtain ⟨a1, a2⟩ := red_all hp hA d (Nat.le_refl _)
  obtain ⟨b1, b2⟩ := red_all hp hB d (Nat.le_refl _)
  obtain ⟨p2, _⟩ := prime_bounds hp
  have hp0 : 0 < p := by omega
  have hpn := (redTo_ok hp0 hA d).pn
  have hln := (redTo_ok hp0 hA d).len
  have key : ∀ i, i < (redTo p A d).2.length → ∃ k, k < (redTo p B d).2.length ∧ pivN (redTo p B d) k = pivN (redTo p A d) i := fun i hi => by
    have h3 := ((a2.right i (by omega)).trans h).trans b2.left
    refine lead_piv p2 b1 h3 (a1.lt i hi) (fun j hj => ?_) ?_
    · have := a1.left i j hi hj
      unfold entN at this
      unfold rowF
      rw [this]
      rfl
    · have := a1.one i hi
      unfold entN at this
      unfold rowF
      rw [this]
      exact Int.emod_eq_of_lt (by omega) (by omega)
  have hnd : ((List.range (redTo p A d).2.length).map (pivN (redTo p A d))).Nodup := by
    unfold List.Nodup
    rw [List.pairwise_map]
    exact List.Pairwise.imp_of_mem (fun {i j} hi hj hne e => by
      rw [List.mem_range] at hi hj
      rcases Nat.lt_or_gt_of_ne hne with h4 | h4
      · have := a1.mono i j h4 hj
        omega
      · have := a1.mono j i h4 hi
        omega) (List.nodup_range (n := (redTo p A d).2.length))
  have := nodup_sub_len (l2 := (List.range (redTo p B d).2.length).map (pivN (redTo p B d))) hnd fun x hx => by
    rw [List.mem_map] at hx ⊢
    obtain ⟨i, hi, rfl⟩ := hx
    obtain ⟨k, hk, e⟩ := key i (List.mem_range.1 hi)
    exact ⟨k, List.mem_range.2 hk, e⟩
  simpa using this
end Go.Proofs.Ytenlhfimdpcaoaa

namespace Go.Proofs.Ytenlhfimdpcaoaa
open Go.RowKit

/-- a multiple, by a sum with zeros -/
def timesZ (p n : Int) (x : List Int) : List Int := addL p (List.replicate x.length 0) n x
theorem timesZ_get (p n : Int) (x : List Int) (m : Nat) (h : m < x.length) : (timesZ p n x).getD m 0 = n * x.getD m 0 % p := by
  unfold timesZ
  rw [addL_get _ _ _ _ _ (by simpa using h)]
  simp [List.getD_eq_getElem?_getD, h]
theorem addL_times (p : Int) {a x : List Int} (n : Int) (h : x.length = a.length) : addL p a 1 (timesZ p n x) = addL p a n x := by
  unfold addL
  refine modL_congr fun m hm => ?_
  rw [timesZ_get _ _ _ _ (by omega), Int.one_mul, Int.add_emod, Int.emod_emod, ← Int.add_emod]
theorem addL_two (p : Int) {a x y : List Int} (n : Int) (h : x.length = a.length) (_h2 : y.length = a.length) : addL p a n (addL p x 1 y) = addL p (addL p a n x) n y := by
  unfold addL
  rw [modL_length]
  refine modL_congr fun m hm => ?_
  have h1 := modL_get p x.length (fun m => x.getD m 0 + 1 * y.getD m 0) m (by omega)
  have h2 := modL_get p a.length (fun m => a.getD m 0 + n * x.getD m 0) m hm
  rw [h1, h2, Int.emod_add_emod, Int.add_emod, mul_emod_r, ← Int.add_emod, Int.one_mul, Int.mul_add]
  congr 1
  omega
def bchI (p i2 i12 i24 : Int) (x y xy xxy yyx yxx : List Int) : List Int := addL p (addL p (addL p (addL p (addL p x 1 y) i2 xy) i12 xxy) i12 yyx) (p - i24) yxx
def bchS (p i2 i12 i24 : Int) (x y xy xxy yyx yxx : List Int) : List Int := addL p (addL p (addL p (addL p x 1 y) 1 (timesZ p i2 xy)) 1 (timesZ p i12 (addL p xxy 1 yyx))) 1 (timesZ p (0 - i24) yxx)
theorem bch_same {p : Int} {x y xy xxy yyx yxx : List Int} (i2 i12 i24 : Int) (h1 : xy.length = x.length) (h2 : xxy.length = x.length) (h3 : yyx.length = x.length) (h4 : yxx.length = x.length) :
    bchS p i2 i12 i24 x y xy xxy yyx yxx = bchI p i2 i12 i24 x y xy xxy yyx yxx := by
  unfold bchS bchI
  rw [addL_times p _ (by simp only [addL_length]; omega), addL_times p _ (by simp only [addL_length]; omega), addL_times p _ (by simp only [addL_length]; omega), addL_two p _ (by simp only [addL_length]; omega) (by simp only [addL_length]; omega)]
  rw [← addL_modK p _ _ (p - i24), show p - i24 = 0 - i24 + p by omega, Int.add_emod_right, addL_modK]
/-- what is asked of primes -/
theorem prime_12 {p : Nat} (hp : primeB p = true) (h5 : 5 ≤ p) : 1 ≤ 2 % p ∧ 1 ≤ 12 % p ∧ 1 ≤ 24 % p := by
  by_cases h : 24 < p
  · rw [Nat.mod_eq_of_lt (by omega), Nat.mod_eq_of_lt (by omega), Nat.mod_eq_of_lt (by omega)]
    omega
  · have key : ∀ q : Nat, q < 25 → 5 ≤ q → primeB (q : Int) = true → 1 ≤ 2 % q ∧ 1 ≤ 12 % q ∧ 1 ≤ 24 % q := by decide
    exact key p (by omega) h5 hp
/-! ### rows in one list -/
structure FlatR (L : Nat) (rows : List (List Int)) (data : List Int) : Prop where
  len : data.length = rows.length * L
  wid : ∀ i, i < rows.length → (rows.getD i []).length = L
  at_ : ∀ i j, i < rows.length → j < L → data.getD (i * L + j) 0 = (rows.getD i []).getD j 0
theorem flat_lt {n L i j : Nat} (hi : i < n) (hj : j < L) : i * L + j < n * L := by
  have : (i + 1) * L ≤ n * L := Nat.mul_le_mul_right L hi
  rw [Nat.add_mul, Nat.one_mul] at this
  omega
theorem flatR_of {L : Nat} : ∀ {rows : List (List Int)}, (∀ i, i < rows.length → (rows.getD i []).length = L) → FlatR L rows rows.flatten
  | [], _ => ⟨by simp, fun i hi => absurd hi (Nat.not_lt_zero _), fun i j hi => absurd hi (Nat.not_lt_zero _)⟩
  | r :: rows, h => by
    have hr : r.length = L := h 0 (by simp)
    have ih := flatR_of (L := L) (rows := rows) fun i hi => h (i + 1) (by simpa using hi)
    refine ⟨?_, h, fun i j hi hj => ?_⟩
    · rw [List.flatten_cons, List.length_append, ih.len, List.length_cons, Nat.add_mul, Nat.one_mul]
      omega
    · rw [List.flatten_cons]
      cases i with
      | zero =>
        simp only [List.getD_eq_getElem?_getD, Nat.zero_mul, Nat.zero_add]
        rw [List.getElem?_append_left (by omega)]
        rfl
      | succ i =>
        have := ih.at_ i j (by simpa using hi) hj
        simp only [List.getD_eq_getElem?_getD] at this ⊢
        rw [List.getElem?_append_right (by rw [Nat.add_mul]; omega), show (i + 1) * L + j - r.length = i * L + j by rw [Nat.add_mul, Nat.one_mul]; omega, this]
        rfl
/-- an early end of the reduction changes nothing -/
theorem red_full {p : Int} {rows : List (List Int)} {k : Nat} (hl : (redTo p rows k).1.length ≤ (redTo p rows k).2.length) : ∀ m, redTo p rows (k + m) = redTo p rows k
  | 0 => rfl
  | m + 1 => by
    have ih := red_full hl m
    show redStep p (k + m) (redTo p rows (k + m)) = _
    rw [ih]
    have hge := findRow_ge (redTo p rows k).1 (k + m) (redTo p rows k).2.length
    unfold redStep
    simp only
    rw [if_neg (by omega)]
/-- how the reference clears a row -/
theorem clear_same (p f a b : Int) : (a - f * b) % p = (a + (p - f) * b) % p := by
  rw [show a + (p - f) * b = a - f * b + p * b by rw [Int.sub_mul]; omega, Int.add_mul_emod_self_left]
end Go.Proofs.Ytenlhfimdpcaoaa

namespace Go.Proofs.Ytenlhfimdpcaoaa
open Go.RowKit

/-- a list of n times s numbers by their places -/
def flatL (n s : Nat) (e : Nat → Nat → Int) : List Int := (List.range (n * s)).map fun q => e (q / s) (q % s)
theorem flatL_length (n s : Nat) (e : Nat → Nat → Int) : (flatL n s e).length = n * s := by simp [flatL]
theorem flat_div {s i j : Nat} (hj : j < s) : (i * s + j) / s = i ∧ (i * s + j) % s = j :=
  ⟨by rw [Nat.mul_comm, Nat.mul_add_div (by omega), Nat.div_eq_of_lt hj, Nat.add_zero], by rw [Nat.mul_comm, Nat.mul_add_mod, Nat.mod_eq_of_lt hj]⟩
theorem flatL_get {n s i j : Nat} (hi : i < n) (hj : j < s) (e : Nat → Nat → Int) : (flatL n s e).getD (i * s + j) 0 = e i j := by
  unfold flatL
  rw [List.getD_eq_getElem?_getD, List.getElem?_map, List.getElem?_range (flat_lt hi hj)]
  simp only [Option.map_some, Option.getD_some]
  rw [(flat_div hj).1, (flat_div hj).2]
theorem flatL_congr {n s : Nat} {e f : Nat → Nat → Int} (h : ∀ i j, i < n → j < s → e i j = f i j) : flatL n s e = flatL n s f := by
  unfold flatL
  apply List.map_congr_left
  intro q hq
  rw [List.mem_range] at hq
  have hs : 0 < s := by
    rcases Nat.eq_zero_or_pos s with h0 | h0
    · subst h0; simp at hq
    · exact h0
  exact h _ _ (Nat.div_lt_of_lt_mul (by rw [Nat.mul_comm]; exact hq)) (Nat.mod_lt _ hs)
theorem flatL_set {n s i j : Nat} (hj : j < s) (e : Nat → Nat → Int) (v : Int) :
    (flatL n s e).set (i * s + j) v = flatL n s fun i' j' => if i' = i ∧ j' = j then v else e i' j' := by
  apply List.ext_getElem?
  intro q
  rw [List.getElem?_set]
  by_cases hq : q < n * s
  · unfold flatL
    rw [List.length_map, List.length_range, List.getElem?_map, List.getElem?_map, List.getElem?_range hq]
    simp only [Option.map_some]
    by_cases e : i * s + j = q
    · subst e
      rw [if_pos rfl, if_pos hq, (flat_div hj).1, (flat_div hj).2, if_pos ⟨rfl, rfl⟩]
    · rw [if_neg e, if_neg]
      intro h
      apply e
      have h1 := Nat.div_add_mod q s
      rw [h.1, h.2, Nat.mul_comm] at h1
      exact h1
  · have h1 : (flatL n s e)[q]? = none := List.getElem?_eq_none (by rw [flatL_length]; omega)
    have h2 : (flatL n s fun i' j' => if i' = i ∧ j' = j then v else e i' j')[q]? = none := List.getElem?_eq_none (by rw [flatL_length]; omega)
    rw [h1, h2, flatL_length]
    split
    · rename_i h3; rw [h3, if_neg hq]
    · rfl
theorem flatL_own {n s : Nat} {l : List Int} (h : l.length = n * s) : l = flatL n s fun i j => l.getD (i * s + j) 0 := by
  apply List.ext_getElem?
  intro q
  by_cases hq : q < n * s
  · unfold flatL
    rw [List.getElem?_map, List.getElem?_range hq]
    simp only [Option.map_some]
    have h1 := Nat.div_add_mod q s
    rw [Nat.mul_comm] at h1
    rw [h1, List.getD_eq_getElem?_getD, List.getElem?_eq_getElem (by omega)]
    rfl
  · rw [List.getElem?_eq_none (by omega), List.getElem?_eq_none (by rw [flatL_length]; omega)]
/-- the numbers of rows -/
def entR (R : List (List Int)) (i j : Nat) : Int := (R.getD i []).getD j 0
theorem flat_rows {p : Int} {s : Nat} {R : List (List Int)} (h : Rows p s R) : R.flatten = flatL R.length s (entR R) := by
  have hf := flatR_of (L := s) (rows := R) (fun i hi => h.len i hi)
  rw [flatL_own (l := R.flatten) (n := R.length) (s := s) hf.len]
  apply flatL_congr
  intro i j hi hj
  exact hf.at_ i j hi hj
/-! ### the steps, up to a column -/
/-- the rows r and k exchanged in the first m columns -/
def swapE (e : Nat → Nat → Int) (r k m i j : Nat) : Int := if j < m then (if i = r then e k j else if i = k then e r j else e i j) else e i j
theorem swapE_zero (n s : Nat) (e : Nat → Nat → Int) (r k : Nat) : flatL n s (swapE e r k 0) = flatL n s e := flatL_congr fun i j _ _ => by unfold swapE; rw [if_neg (by omega)]
theorem swapE_set {n s r k m : Nat} (hm : m < s) (e : Nat → Nat → Int) :
    ((flatL n s (swapE e r k m)).set (r * s + m) (e k m)).set (k * s + m) (e r m) = flatL n s (swapE e r k (m + 1)) := by
  rw [flatL_set hm, flatL_set hm]
  apply flatL_congr
  intro i j _ _
  unfold swapE
  by_cases h1 : i = k ∧ j = m
  · obtain ⟨rfl, rfl⟩ := h1
    rw [if_pos ⟨rfl, rfl⟩, if_pos (by omega)]
    by_cases h2 : i = r
    · subst h2; rw [if_pos rfl]
    · rw [if_neg h2, if_pos rfl]
  · rw [if_neg h1]
    by_cases h2 : i = r ∧ j = m
    · obtain ⟨rfl, rfl⟩ := h2
      rw [if_pos ⟨rfl, rfl⟩, if_pos (by omega), if_pos rfl]
    · rw [if_neg h2]
      by_cases h3 : j < m
      · rw [if_pos h3, if_pos (by omega : j < m + 1)]
      · rw [if_neg h3]
        by_cases h4 : j < m + 1
        · rw [if_pos h4, if_neg (by omega : ¬ i = r), if_neg (by omega : ¬ i = k)]
        · rw [if_neg h4]
/-- the row r times x in the first m columns -/
def scaleE (p x : Int) (e : Nat → Nat → Int) (r m i j : Nat) : Int := if i = r ∧ j < m then e i j * x % p else e i j
theorem scaleE_zero (n s : Nat) (p x : Int) (e : Nat → Nat → Int) (r : Nat) : flatL n s (scaleE p x e r 0) = flatL n s e := flatL_congr fun i j _ _ => by unfold scaleE; rw [if_neg (by omega)]
theorem scaleE_set {n s r m : Nat} (hm : m < s) (p x : Int) (e : Nat → Nat → Int) : (flatL n s (scaleE p x e r m)).set (r * s + m) (e r m * x % p) = flatL n s (scaleE p x e r (m + 1)) := by
  rw [flatL_set hm]
  apply flatL_congr
  intro i j _ _
  unfold scaleE
  by_cases h1 : i = r ∧ j = m
  · obtain ⟨rfl, rfl⟩ := h1
    rw [if_pos ⟨rfl, rfl⟩, if_pos ⟨rfl, by omega⟩]
  · rw [if_neg h1]
    by_cases h2 : i = r ∧ j < m
    · rw [if_pos h2, if_pos (by omega)]
    · rw [if_neg h2, if_neg (by omega)]
/-- rows cleared by the row r in column c: those ahead of a, and of a the first m columns -/
def clearE (p : Int) (e : Nat → Nat → Int) (r c a m i j : Nat) : Int := if i ≠ r ∧ e i c ≠ 0 ∧ (i < a ∨ i = a ∧ j < m) then (e i j - e i c * e r j) % p else e i j
theorem clearE_zero (n s : Nat) (p : Int) (e : Nat → Nat → Int) (r c : Nat) : flatL n s (clearE p e r c 0 0) = flatL n s e := flatL_congr fun i j _ _ => by unfold clearE; rw [if_neg (by omega)]
theorem clearE_set {n s r c a m : Nat} (hm : m < s) (p : Int) (e : Nat → Nat → Int) (ha : a ≠ r) (hf : e a c ≠ 0) :
    (flatL n s (clearE p e r c a m)).set (a * s + m) ((e a m - e a c * e r m) % p) = flatL n s (clearE p e r c a (m + 1)) := by
  rw [flatL_set hm]
  apply flatL_congr
  intro i j _ _
  unfold clearE
  by_cases h1 : i = a ∧ j = m
  · obtain ⟨rfl, rfl⟩ := h1
    rw [if_pos ⟨rfl, rfl⟩, if_pos ⟨ha, hf, by omega⟩]
  · rw [if_neg h1]
    by_cases h2 : i ≠ r ∧ e i c ≠ 0 ∧ (i < a ∨ i = a ∧ j < m)
    · rw [if_pos h2, if_pos ⟨h2.1, h2.2.1, by omega⟩]
    · rw [if_neg h2, if_neg (fun h => h2 ⟨h.1, h.2.1, by omega⟩)]
theorem clearE_next {n s : Nat} (p : Int) (e : Nat → Nat → Int) (r c a : Nat) : flatL n s (clearE p e r c a s) = flatL n s (clearE p e r c (a + 1) 0) :=
  flatL_congr fun i j _ hj => by
    unfold clearE
    by_cases h2 : i ≠ r ∧ e i c ≠ 0 ∧ (i < a ∨ i = a ∧ j < s)
    · rw [if_pos h2, if_pos ⟨h2.1, h2.2.1, by omega⟩]
    · rw [if_neg h2, if_neg (fun h => h2 ⟨h.1, h.2.1, by omega⟩)]
theorem clearE_same {n s : Nat} (p : Int) (e : Nat → Nat → Int) (r c a : Nat) (h : a = r ∨ e a c = 0) : flatL n s (clearE p e r c a 0) = flatL n s (clearE p e r c (a + 1) 0) :=
  flatL_congr fun i j _ _ => by
    unfold clearE
    by_cases h2 : i ≠ r ∧ e i c ≠ 0 ∧ (i < a ∨ i = a ∧ j < 0)
    · rw [if_pos h2, if_pos ⟨h2.1, h2.2.1, by omega⟩]
    · rw [if_neg h2, if_neg]
      intro h3
      refine h2 ⟨h3.1, h3.2.1, .inl ?_⟩
      rcases h with h | h
      · omega
      · by_cases e1 : i = a
        · subst e1; exact absurd h h3.2.1
        · omega
/-- one column whole -/
theorem redStep_flat {p : Int} {s k n r : Nat} {R : List (List Int)} {P : List Int} (hp : 0 < p) (hR : Rows p s R) (hn : R.length = n) (hk : k < s) (hr : r < n) (hpr : P.length ≤ r) (hz : ∀ i, P.length ≤ i → i < r → entR R i k = 0) (hne : entR R r k ≠ 0) :
    (redStep p k (R, P)).2 = P ++ [(k : Int)] ∧
      (redStep p k (R, P)).1.flatten = flatL n s (clearE p (scaleE p (invP (swapE (entR R) P.length r s P.length k) p) (swapE (entR R) P.length r s) P.length s) P.length k n 0) := by
  subst hn
  have hf := findRow_at (rows := R) (c := k) hpr hr hz hne
  have hok := RedOk.step (n := R.length) (k := k) hp (L := s) (st := (R, P.take 0)) ⟨hR, rfl, by simp, by simp, fun i hi => by simp at hi⟩
  clear hok
  have hPl : P.length < R.length := by omega
  have hs1 := hR.swap r P.length hr hPl
  have hsl : (swapR R r P.length).length = R.length := swapR_length _ _ _
  have hsg : ∀ i j, i < R.length → j < s → ((swapR R r P.length).getD i []).getD j 0 = swapE (entR R) P.length r s i j := by
    intro i j hi hj
    rw [swapR_get R r P.length i hr hPl]
    unfold swapE entR
    rw [if_pos hj]
    by_cases e1 : P.length = i
    · rw [if_pos e1, if_pos e1.symm]
    · rw [if_neg e1, if_neg (show ¬ i = P.length from fun h => e1 h.symm)]
      by_cases e2 : r = i
      · rw [if_pos e2, if_pos e2.symm]
      · rw [if_neg e2, if_neg (show ¬ i = r from fun h => e2 h.symm)]
  have hx := hsg P.length k hPl hk
  generalize hxe : invP (((swapR R r P.length).getD P.length []).getD k 0) p = x
  have hs2 := hs1.set P.length (r := scaleR p x ((swapR R r P.length).getD P.length [])) (by rw [scaleR_length]; exact hs1.len _ (by omega)) (Res.modL hp _ _)
  have e0 : redStep p k (R, P) = (clearTo p k P.length ((swapR R r P.length).set P.length (scaleR p x ((swapR R r P.length).getD P.length []))) R.length, P ++ [(k : Int)]) := by
    unfold redStep
    simp only
    rw [hf, if_pos hr, hxe, List.length_set, hsl]
  rw [e0]
  refine ⟨rfl, ?_⟩
  have hl2 : ((swapR R r P.length).set P.length (scaleR p x ((swapR R r P.length).getD P.length []))).length = R.length := by rw [List.length_set, hsl]
  have hg2 : ∀ i j, i < R.length → j < s → (((swapR R r P.length).set P.length (scaleR p x ((swapR R r P.length).getD P.length []))).getD i []).getD j 0 = scaleE p x (swapE (entR R) P.length r s) P.length s i j := by
    intro i j hi hj
    rw [getD_setL _ _ _ _ _ (by omega)]
    unfold scaleE
    by_cases e1 : P.length = i
    · subst e1
      rw [if_pos rfl, if_pos ⟨rfl, hj⟩, scaleR_get _ _ _ _ (by rw [hs1.len _ (by omega)]; exact hj), hsg _ _ hPl hj]
    · rw [if_neg e1, if_neg (show ¬ (i = P.length ∧ j < s) from fun h => e1 h.1.symm), hsg _ _ hi hj]
  generalize hA : (swapR R r P.length).set P.length (scaleR p x ((swapR R r P.length).getD P.length [])) = A at *
  have hc := clearTo_rows hp hs2 k P.length R.length (by omega)
  rw [flat_rows hc, clearTo_length, hl2, ← hx, hxe]
  apply flatL_congr
  intro i j hi hj
  show ((clearTo p k P.length A R.length).getD i []).getD j 0 = _
  rw [clearTo_get p k P.length A R.length (by omega) i (by omega)]
  unfold clearE
  rw [← hg2 i k hi hk]
  by_cases h1 : i < R.length ∧ i ≠ P.length ∧ (A.getD i []).getD k 0 ≠ 0
  · rw [if_pos h1, if_pos ⟨h1.2.1, h1.2.2, .inl h1.1⟩, addL_get _ _ _ _ _ (by rw [hs2.len _ (by omega)]; exact hj), hg2 i j hi hj, hg2 _ _ hPl hj, clear_same]
  · rw [if_neg h1, if_neg (fun h => h1 ⟨hi, h.1, h.2.1⟩)]
    exact hg2 i j hi hj
end Go.Proofs.Ytenlhfimdpcaoaa

namespace Go.Proofs.Ytenlhfimdpcaoaa
open Go.RowKit

theorem mul_small {a b : Int} (a0 : 0 ≤ a) (a1 : a ≤ 10007) (b0 : 0 ≤ b) (b1 : b ≤ 10007) : 0 ≤ a * b ∧ a * b ≤ 100140049 :=
  ⟨Int.mul_nonneg a0 b0, Int.le_trans (Int.mul_le_mul a1 b1 b0 (by decide)) (by decide)⟩
theorem pow_next {p y o : Int} {m : Nat} : (if m % 2 = 1 then o * y % p else o) * (y * y % p) ^ (m / 2) % p = o * y ^ m % p := by
  rw [pow_step o y m, Int.mul_emod, pow_emod, ← Int.mul_emod]
  split
  · rw [Int.mul_emod, Int.emod_emod, ← Int.mul_emod]
  · rfl
set_option maxHeartbeats 1000000 in
theorem l1Power_any (x p : Int) (n : Nat) (w : World) (hp : 2 ≤ p) (hp2 : p ≤ 10007) (hx0 : 0 ≤ x) (hx1 : x < p) (hn : n ≤ 1000000) :
    Calls Try.prog 162 #[.int .i64 x, .int .i64 n, .int .i64 p] w fun e w' => e = .returned (.int .i64 (x ^ n % p)) ∧ w = w' := by
  have HS : Hid ((1 : Int) * x ^ n % p = x ^ n % p) := by show _ = _; rw [Int.one_mul]
  go_enter Try.func162, Try.ntmps162
  go_wp2
  go_loop [0, 1, 7] (fun vx vn vo => ∃ (y o : Int) (m : Nat), vx = .int .i64 y ∧ vn = .int .i64 m ∧ vo = .int .i64 o ∧ m ≤ 1000000 ∧ 0 ≤ y ∧ y < p ∧ 0 ≤ o ∧ o < p ∧ Hid (o * y ^ m % p = x ^ n % p)) (fun _ vn _ => (intOf vn).toNat)
  case atStart => exact ⟨x, 1, n, rfl, rfl, rfl, hn, hx0, hx1, by omega, by omega, HS⟩
  case round =>
    clear HS
    obtain ⟨y, o, m, rfl, rfl, rfl, hm, y0, y1, o0, o1, HE⟩ := hrel
    obtain ⟨q1, q2⟩ := mul_small o0 (by omega) y0 (by omega : y ≤ 10007)
    obtain ⟨q3, q4⟩ := mul_small y0 (by omega : y ≤ 10007) y0 (by omega)
    have e1 : IntKind.i64.wrap (o * y) = o * y := wrap_in (by omega) (by omega)
    have e2 : IntKind.i64.wrap (y * y) = y * y := wrap_in (by omega) (by omega)
    have e3 : Int.tmod (o * y) p = o * y % p := Int.tmod_eq_emod_of_nonneg q1
    have e4 : Int.tmod (y * y) p = y * y % p := Int.tmod_eq_emod_of_nonneg q3
    have e5 : Int.tmod (m : Int) 2 = ((m % 2 : Nat) : Int) := by rw [Int.tmod_eq_emod_of_nonneg (by omega)]; omega
    have e6 : Int.tdiv (m : Int) 2 = ((m / 2 : Nat) : Int) := by rw [Int.tdiv_eq_ediv_of_nonneg (by omega)]; omega
    have hpz : ¬ p = 0 := by omega
    have hoy := Int.emod_nonneg (o * y) hpz
    have hoy2 := Int.emod_lt_of_pos (o * y) (by omega : 0 < p)
    have hyy := Int.emod_nonneg (y * y) hpz
    have hyy2 := Int.emod_lt_of_pos (y * y) (by omega : 0 < p)
    have HN := hidP (pow_next (p := p) (y := y) (o := o) (m := m))
    by_cases hlt : 0 < m
    · by_cases hodd : m % 2 = 1
      · have HN2 : Hid (o * y % p * (y * y % p) ^ (m / 2) % p = x ^ n % p) := by
          have h := HN.out
          rw [if_pos hodd] at h
          exact h.trans HE.out
        clear HN HE
        generalize o * y % p = o2 at *
        generalize y * y % p = y2 at *
        go_wp2
        go_roundw
        case rel => exact ⟨y2, o2, m / 2, rfl, by go_num, rfl, by omega, by omega, by omega, by omega, by omega, HN2⟩
        case measure => simp [intOf]; omega
      · have HN2 : Hid (o * (y * y % p) ^ (m / 2) % p = x ^ n % p) := by
          have h := HN.out
          rw [if_neg hodd] at h
          exact h.trans HE.out
        clear HN HE
        generalize o * y % p = o2 at *
        generalize y * y % p = y2 at *
        go_wp2
        go_roundw
        case rel => exact ⟨y2, o, m / 2, rfl, by go_num, rfl, by omega, by omega, by omega, by omega, by omega, HN2⟩
        case measure => simp [intOf]; omega
    · obtain rfl : m = 0 := by omega
      have hv : o = x ^ n % p := by
        have h := HE.out
        rw [Int.pow_zero, Int.mul_one, Int.emod_eq_of_lt o0 o1] at h
        exact h
      go_wp2
      go_ret
      exact ⟨by rw [← hv]; rfl, rfl⟩
theorem l1Inverse_any (x p : Int) (w : World) (hp : 2 ≤ p) (hp2 : p ≤ 10007) (hx0 : 0 ≤ x) (hx1 : x < p) :
    Calls Try.prog 139 #[.int .i64 x, .int .i64 p] w fun e w' => e = .returned (.int .i64 (x ^ (p.toNat - 2) % p)) ∧ w = w' := by
  obtain ⟨m, hm⟩ : ∃ m : Nat, m = p.toNat - 2 := ⟨_, rfl⟩
  have e1 : IntKind.i64.wrap (p - 2) = (m : Int) := by rw [hm, wrap_in (by omega) (by omega)]; omega
  have HP := hidP (l1Power_any x p m w hp hp2 hx0 hx1 (by omega))
  rw [← hm]
  have hpz : ¬ p = 0 := by omega
  have e2 : Int.tmod (x ^ m % p) p = x ^ m % p := by rw [Int.tmod_eq_emod_of_nonneg (Int.emod_nonneg _ hpz), Int.emod_emod]
  clear hm
  generalize x ^ m % p = v at *
  go_enter Try.func139, Try.ntmps139
  go_wp2_with fail
  refine HP.out.mono ?_
  rintro e w1 ⟨rfl, rfl⟩
  go_wp2
  go_ret
  exact ⟨rfl, rfl⟩
theorem invP_two : invP 1 2 = 1 := by decide
theorem invP_powI {p x : Int} (hp : primeB p = true) (h1 : 1 ≤ x) (hx : x < p) : x ^ (p.toNat - 2) % p = invP x p := by
  obtain ⟨p2, p7⟩ := prime_bounds hp
  obtain ⟨q, rfl⟩ := Int.eq_ofNat_of_zero_le (show 0 ≤ p by omega)
  obtain ⟨a, rfl⟩ := Int.eq_ofNat_of_zero_le (show 0 ≤ x by omega)
  rw [invP_pow hp (by omega) (by omega)]
  rfl
set_option maxHeartbeats 1000000 in
theorem inverseOf_any (n p : Int) (w : World) (hp : primeB p = true) (hn : n % p ≠ 0) :
    Calls Try.prog 92 #[.int .i64 n, .int .i64 p] w fun e w' => e = .returned (.int .i64 (invP (n % p) p)) ∧ w = w' := by
  obtain ⟨p2, p7⟩ := prime_bounds hp
  have h0 := Int.emod_nonneg n (show p ≠ 0 by omega)
  have h1 := Int.emod_lt_of_pos n (show 0 < p by omega)
  have HP := hidP (sIsPrime_any p w)
  rw [hp] at HP
  have HM := hidP (l1Mod_any n p w (by omega) (by omega))
  have HI := hidP (l1Inverse_any (n % p) p w p2 p7 h0 h1)
  rw [invP_powI hp (by omega) h1] at HI
  have HT := hidP invP_two
  have hE : Hid (p = 2 → n % p = 1) := by show _ → _; intro h; omega
  clear hp
  generalize n % p = m at *
  go_enter Try.func92, Try.ntmps92
  go_wp2_with fail
  refine HP.out.mono ?_
  rintro e w1 ⟨rfl, rfl⟩
  go_wp2_with fail
  refine HM.out.mono ?_
  rintro e w1 ⟨rfl, rfl⟩
  by_cases h2 : p = 2
  · have hm1 := hE.out h2
    subst hm1
    subst h2
    go_wp2
    go_ret
    exact ⟨by rw [HT.out]; rfl, rfl⟩
  · go_wp2_with fail
    refine HM.out.mono ?_
    rintro e w1 ⟨rfl, rfl⟩
    go_wp2_with fail
    refine HI.out.mono ?_
    rintro e w1 ⟨rfl, rfl⟩
    go_wp2
    go_ret
    exact ⟨rfl, rfl⟩
end Go.Proofs.Ytenlhfimdpcaoaa

namespace Go.Proofs.Ytenlhfimdpcaoaa
open Go.RowKit

theorem UpdI.put0 {w0 w : World} {g m : Nat} {ys : List Int} (h : UpdI w0 w (some ⟨g, 0, none⟩) m ys) {i : Nat} (hi : i < m) (v : Int) : UpdI w0 (w.setCell ⟨g, i, none⟩ (.int .i64 v)) (some ⟨g, 0, none⟩) m (ys.set i v) := by
  have := h.store i hi v
  rwa [Nat.zero_add] at this
theorem OwnI.put0 {w : World} {B g n c : Nat} {xs : List Int} (h : OwnI w B (some ⟨g, 0, none⟩) n c xs) {i : Nat} (hi : i < n) (v : Int) : OwnI (w.setCell ⟨g, i, none⟩ (.int .i64 v)) B (some ⟨g, 0, none⟩) n c (xs.set i v) :=
  ((UpdI.start h.ints).put0 hi v).own h
theorem OwnI.get0 {w : World} {B g n c : Nat} {xs : List Int} (h : OwnI w B (some ⟨g, 0, none⟩) n c xs) {i : Nat} (hi : i < n) : w.cell? ⟨g, i, none⟩ = some (.int .i64 (xs.getD i 0)) ∧ w.frozen? ⟨g, i, none⟩ = false := by
  obtain ⟨b, o, e', q1⟩ := h.ints.get i hi
  simp only [Option.some.injEq, Addr.mk.injEq, and_true] at e'
  obtain ⟨rfl, rfl⟩ := e'
  rw [Nat.zero_add] at q1
  exact ⟨q1, by have := h.unfrozen i g 0 hi rfl; rwa [Nat.zero_add] at this⟩
theorem OwnI.setOf {w : World} {B n c : Nat} {a : Option Addr} {xs : List Int} (h : OwnI w B a n c xs) (b i : Nat) (v : Value) (hne : ∀ g o, a = some ⟨g, o, none⟩ → g ≠ b) : OwnI (w.setCell ⟨b, i, none⟩ v) B a n c xs :=
  h.grown (row := some b) ⟨rfl, rfl, rfl, by simp [World.setCell], fun k _ hk => Below.heap_setCell _ _ _ _ (fun e => hk (by rw [e]))⟩ (fun g' o e => by simpa using hne g' o e)
/-- the numbers, the matrix's block, the pivots -/
structure RedS (w : World) (b5 Bd Bp : Nat) (p : Int) (n s : Nat) (ad : Option Addr) (N cd : Nat) (D : List Int) (ap : Option Addr) (np cp : Nat) (P : List Int) : Prop where
  data : OwnI w Bd ad N cd D
  mat : MatB w b5 p n s ad N cd
  piv : OwnI w Bp ap np cp P
  gl : ∀ b o, ad = some ⟨b, o, none⟩ → b < Bp
namespace RedS
variable {w w' : World} {b5 Bd Bp : Nat} {p : Int} {n s : Nat} {ad : Option Addr} {N cd : Nat} {D : List Int} {ap : Option Addr} {np cp : Nat} {P : List Int}
theorem below (h : RedS w b5 Bd Bp p n s ad N cd D ap np cp P) (hx : Ext w w') : RedS w' b5 Bd Bp p n s ad N cd D ap np cp P := ⟨h.data.below hx, h.mat.below hx, h.piv.below hx, h.gl⟩
theorem cells (h : RedS w b5 Bd Bp p n s ad N cd D ap np cp P) (hx : Ext w w') : w'.cell? ⟨b5, 0, none⟩ = some (.int .i64 p) ∧ w'.cell? ⟨b5, 1, none⟩ = some (.int .i64 (n : Int)) ∧ w'.cell? ⟨b5, 2, none⟩ = some (.int .i64 (s : Int)) ∧ w'.cell? ⟨b5, 3, none⟩ = some (.slice ad N cd) := by
  have := (h.mat.below hx).at'
  exact ⟨this.c0, this.c1, this.c2, this.c3⟩
theorem put {g : Nat} (h : RedS w b5 Bd Bp p n s (some ⟨g, 0, none⟩) N cd D ap np cp P) {i : Nat} (hi : i < N) (v : Int) : RedS (w.setCell ⟨g, i, none⟩ (.int .i64 v)) b5 Bd Bp p n s (some ⟨g, 0, none⟩) N cd (D.set i v) ap np cp P :=
  ⟨h.data.put0 hi v, h.mat.other _ (h.mat.ne h.data rfl), h.piv.setOf g i _ (fun g' o e => by have := (h.piv.at_base g' o e).1; have := h.gl g 0 rfl; omega), h.gl⟩
theorem num {g : Nat} (h : RedS w b5 Bd Bp p n s (some ⟨g, 0, none⟩) N cd D ap np cp P) (hx : Ext w w') {i : Nat} (hi : i < N) : w'.cell? ⟨g, i, none⟩ = some (.int .i64 (D.getD i 0)) ∧ w'.frozen? ⟨g, i, none⟩ = false := (h.data.below hx).get0 hi
theorem push (h : RedS w b5 Bd Bp p n s ad N cd D ap np cp P) (hg : w.grownBy w' (Value.slice ap np cp).ownBlock) {a2 : Option Addr} {n2 c2 : Nat} {P2 : List Int} (ho : OwnI w' Bp a2 n2 c2 P2) : RedS w' b5 Bd Bp p n s ad N cd D a2 n2 c2 P2 := by
  refine ⟨h.data.grown hg fun g o e e2 => ?_, h.mat.grown h.piv hg, ho, h.gl⟩
  cases ap with
  | none => simp [Value.ownBlock] at e2
  | some q =>
    simp only [Value.ownBlock, Option.some.injEq] at e2
    have := h.piv.addr_base q rfl
    have := h.gl g o e
    omega
theorem ext {w0 : World} (h : RedS w b5 Bd Bp p n s ad N cd D ap np cp P) (hx : Ext w0 w) (hg : w.grownBy w' (Value.slice ap np cp).ownBlock) (hb : w0.heap.size ≤ Bp) : Ext w0 w' :=
  grown_ext hg hx hx.size (fun q e => by have := h.piv.addr_base q e; omega)
end RedS
/-- where a number lies -/
structure IdxS (N i s t j : Nat) : Prop where
  w1 : IntKind.i64.wrap ((i : Int) * (s : Int)) = (t : Int)
  w2 : IntKind.i64.wrap ((t : Int) + (j : Int)) = (t : Int) + (j : Int)
  lo : 0 ≤ (t : Int) + (j : Int)
  hi : (t : Int) + (j : Int) < (N : Int)
  nat : ((t : Int) + (j : Int)).toNat = t + j
theorem idxS {n s i j N : Nat} (hN : N = n * s) (hNb : N ≤ 1000000) (hi : i < n) (hj : j < s) : ∃ t : Nat, i * s = t ∧ t + j < N ∧ IdxS N i s t j := by
  have h := flat_lt (L := s) hi hj
  refine ⟨i * s, rfl, by omega, ?_, wrap_in (by omega) (by omega), by omega, by omega, by omega⟩
  have e : (i : Int) * (s : Int) = ((i * s : Nat) : Int) := (Int.natCast_mul _ _).symm
  rw [e]
  exact wrap_in (by omega) (by omega)
/-! ### numbers that stay residues -/
def BndE (p : Int) (n s : Nat) (e : Nat → Nat → Int) : Prop := ∀ i j, i < n → j < s → 0 ≤ e i j ∧ e i j < p
theorem swapE_bnd {p : Int} {n s r k : Nat} {e : Nat → Nat → Int} (h : BndE p n s e) (hr : r < n) (hk : k < n) (m : Nat) : BndE p n s (swapE e r k m) := by
  intro i j hi hj
  unfold swapE
  split
  · split
    · exact h _ _ hk hj
    · split
      · exact h _ _ hr hj
      · exact h _ _ hi hj
  · exact h _ _ hi hj
theorem scaleE_bnd {p x : Int} (hp : 0 < p) {n s r : Nat} {e : Nat → Nat → Int} (h : BndE p n s e) (m : Nat) : BndE p n s (scaleE p x e r m) := by
  intro i j hi hj
  unfold scaleE
  split
  · exact ⟨Int.emod_nonneg _ (by omega), Int.emod_lt_of_pos _ hp⟩
  · exact h _ _ hi hj
theorem swapE_at (e : Nat → Nat → Int) (r k m i : Nat) : swapE e r k m i m = e i m := by unfold swapE; rw [if_neg (by omega)]
theorem swapE_row (e : Nat → Nat → Int) (r k : Nat) {s j : Nat} (hj : j < s) : swapE e r k s r j = e k j := by unfold swapE; rw [if_pos hj, if_pos rfl]
theorem scaleE_at (p x : Int) (e : Nat → Nat → Int) (r m i : Nat) : scaleE p x e r m i m = e i m := by unfold scaleE; rw [if_neg (by omega)]
theorem clearE_at (p : Int) (e : Nat → Nat → Int) (r c a m : Nat) : clearE p e r c a m a m = e a m := by unfold clearE; rw [if_neg (by omega)]
theorem clearE_at0 (p : Int) (e : Nat → Nat → Int) (r c a j : Nat) : clearE p e r c a 0 a j = e a j := by unfold clearE; rw [if_neg (by omega)]
theorem clearE_row (p : Int) (e : Nat → Nat → Int) (r c a m j : Nat) : clearE p e r c a m r j = e r j := by unfold clearE; rw [if_neg (by simp)]
theorem entR_bnd {p : Int} {s : Nat} {R : List (List Int)} (h : Rows p s R) : BndE p R.length s (entR R) := fun _ _ hi hj => h.get hi hj
theorem redTo_all {p : Int} {R : List (List Int)} {k s : Nat} (hk : k ≤ s) (hl : (redTo p R k).1.length ≤ (redTo p R k).2.length) : redTo p R s = redTo p R k := by
  obtain ⟨m, rfl⟩ := Nat.exists_eq_add_of_le hk
  exact red_full hl m
end Go.Proofs.Ytenlhfimdpcaoaa
