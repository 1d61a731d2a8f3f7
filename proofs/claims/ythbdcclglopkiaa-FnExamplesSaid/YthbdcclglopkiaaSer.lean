/-
  Series of an algebra: the steps that are closures, and the loop.
-/
import Derived.Test.YthbdcclglopkiaaPrd
namespace Go.Proofs.Ythbdcclglopkiaa
open Go.RowKit

theorem matRows_flatten {p : Int} {d : Nat} {R : List (List Int)} (h : Rows p d R) : matRows R.length d R.flatten = R := by
  induction R with
  | nil => rfl
  | cons r R ih =>
    have h0 := h.len 0 (by simp)
    simp only [List.getD_cons_zero] at h0
    have ht : Rows p d R := ⟨fun i hi => by have := h.len (i + 1) (by simpa using hi); simpa using this, fun i hi => by have := h.res (i + 1) (by simpa using hi); simpa using this⟩
    have ih := ih ht
    unfold matRows at ih ⊢
    rw [List.length_cons, List.range_succ_eq_map, List.map_cons, List.map_map]
    congr 1
    · simp [h0]
    · conv => rhs; rw [← ih]
      apply List.map_congr_left
      intro i _
      show List.take d (List.drop ((i + 1) * d) (r :: R).flatten) = List.take d (List.drop (i * d) R.flatten)
      rw [List.flatten_cons, Nat.add_mul, Nat.one_mul, Nat.add_comm, ← List.drop_drop]
      rw [List.drop_left' h0]
theorem Rows.flat_res {p : Int} {L : Nat} {rows : List (List Int)} (h : Rows p L rows) : Res p rows.flatten := by
  induction rows with
  | nil => intro i hi; simp at hi
  | cons r R ih =>
    have h0 := h.res 0 (by simp)
    simp only [List.getD_cons_zero] at h0
    have ht : Rows p L R := ⟨fun i hi => by have := h.len (i + 1) (by simpa using hi); simpa using this, fun i hi => by have := h.res (i + 1) (by simpa using hi); simpa using this⟩
    have ih := ih ht
    intro i hi
    rw [List.flatten_cons] at hi ⊢
    rcases Nat.lt_or_ge i r.length with h1 | h1
    · have := h0 i h1
      simpa [List.getD_eq_getElem?_getD, List.getElem?_append_left h1] using this
    · rw [List.length_append] at hi
      have := ih (i - r.length) (by omega)
      simpa [List.getD_eq_getElem?_getD, List.getElem?_append_right h1] using this

/-- what a step on spaces does: its value on rows is f -/
def StepSays (p : Int) (d : Nat) (B : Nat) (f : List (List Int) → List (List Int)) (R : List (List Int)) (w : World) (e : Ending) (w' : World) : Prop :=
  ∃ a' l c', e = .returned (matV p (f R).length d a' l c') ∧ OwnI w' B a' l c' (f R).flatten ∧ Ext w w'

set_option maxHeartbeats 2000000 in
theorem lowerStep_any (p : Int) (d r : Nat) (bx ba : Nat) (aT aA aS : Option Addr) (N c cA N1 c1 : Nat) (t : List Int) (R : List (List Int)) (w : World) (hal : AlgAt w bx p d aT N c) (hma : MatAt w ba p d d aA (d * d) cA)
    (hd : d ≤ 28) (hN : N = d * d * d) (hc : N ≤ c) (hcb : c ≤ 1000000000000) (ht : IntsAt w aT N t) (hA : IntsAt w aA (d * d) (unitTo d d)) (hcA : d * d ≤ cA) (hcA2 : cA ≤ 9223372036854775807)
    (hS : IntsAt w aS N1 R.flatten) (hr : R.length = r) (hR : Rows p d R) (hc1 : N1 ≤ c1) (hcb1 : c1 ≤ 9223372036854775807) (hp : primeB p = true) (hrt : Res p t) (hrb : r ≤ 100) (hz : r = 0 ∨ 1 ≤ d) :
    Calls Try.prog 74 #[matV p r d aS N1 c1, .pointer (some ⟨bx, 0, none⟩), .pointer (some ⟨ba, 0, none⟩)] w (StepSays p d w.heap.size (fun R => prodL p t d (matRows d d (unitTo d d)) R) R w) := by
  have hx0 := Ext.alloc w (.cells #[.int .i64 p, .int .i64 (r : Int), .int .i64 (d : Int), .slice aS N1 c1] 67)
  have hx1 := Ext.alloc (w.alloc (.cells #[.int .i64 p, .int .i64 (r : Int), .int .i64 (d : Int), .slice aS N1 c1] 67)) (.cells #[.int .i64 0, .int .i64 0, .int .i64 0, .slice none 0 0] 67)
  have hfl := hR.flat
  have hmr := matRows_flatten hR
  rw [hr] at hfl hmr
  have HP := hidP (fun w' (hx : Ext w w') => product_any p d d r aT aA aS N c (d * d) cA N1 c1 t (unitTo d d) R.flatten w' hd hN hc hcb (ht.below hx) (hA.below hx) (hS.below hx) rfl (hS.len.symm.trans hfl) hcA hcA2 hc1 hcb1 hp hrt
    (unitTo_res (prime_bounds hp).1 d d) hR.flat_res (by omega) hrb (by omega) hz)
  rw [hmr] at HP
  have hnew := fun w1 hx j => new_cell (w' := w1) (w := w.alloc (.cells #[.int .i64 p, .int .i64 (r : Int), .int .i64 (d : Int), .slice aS N1 c1] 67)) (cs := #[.int .i64 0, .int .i64 0, .int .i64 0, .slice none 0 0]) (E := 67) (b := w.heap.size + 1) (by simp) hx j
  have HX := hidP (hx0.trans hx1)
  have hsz : w.heap.size + 1 < ((w.alloc (.cells #[.int .i64 p, .int .i64 (r : Int), .int .i64 (d : Int), .slice aS N1 c1] 67)).alloc (.cells #[.int .i64 0, .int .i64 0, .int .i64 0, .slice none 0 0] 67)).heap.size := by simp
  obtain ⟨f0, f1, f2⟩ := hal
  obtain ⟨g0, g1, g2, g3⟩ := hma
  have hl1 := World.block_lt_of_cell? w _ f0
  have hl2 := World.block_lt_of_cell? w _ g0
  simp only at hl1 hl2
  clear ht hA hS hr hR hx0 hx1 hmr hfl hrt hN
  go_enter Try.func74, Try.ntmps74
  go_wp2_with fail
  obtain ⟨w0, hw0⟩ : ∃ w0, w0 = (w.alloc (.cells #[.int .i64 p, .int .i64 (r : Int), .int .i64 (d : Int), .slice aS N1 c1] 67)).alloc (.cells #[.int .i64 0, .int .i64 0, .int .i64 0, .slice none 0 0] 67) := ⟨_, rfl⟩
  rw [← hw0] at HX hnew hsz ⊢
  clear hw0 f0 f1 f2 g0 g1 g2 g3
  refine (HP.out _ HX.out).mono ?_
  rintro e w1 ⟨a', l, c', rfl, ho, hx⟩
  have HO := hidP ho
  have HX1 := hidP (HX.out.trans hx)
  have r0 := (hnew w1 hx 0).1.trans (show _ = some (Value.int .i64 0) from rfl)
  have r1 := (hnew w1 hx 1).1.trans (show _ = some (Value.int .i64 0) from rfl)
  have r2 := (hnew w1 hx 2).1.trans (show _ = some (Value.int .i64 0) from rfl)
  have r3 := (hnew w1 hx 3).1.trans (show _ = some (Value.slice none 0 0) from rfl)
  have y0 := (hnew w1 hx 0).2
  have y1 := (hnew w1 hx 1).2
  have y2 := (hnew w1 hx 2).2
  have y3 := (hnew w1 hx 3).2
  clear hnew ho hx HP
  generalize hm : (prodL p t d (matRows d d (unitTo d d)) R).length = m at *
  have HM := hidP hm
  clear hm
  go_wp2
  refine bodyPost_ret (v := matV p m d a' l c') (by simp [results, Try.results74, go_sem, r0, r1, r2, r3]) rfl ?_
  refine ⟨a', l, c', by rw [← HM.out], ?_, ?_⟩
  · refine OwnI.base (B := w0.heap.size) ?_ (by omega)
    refine OwnI.setBelow (OwnI.setBelow (OwnI.setBelow (OwnI.setBelow HO.out _ _ ?_ _) _ _ ?_ _) _ _ ?_ _) _ _ ?_ _ <;> omega
  · refine Ext.setNew (Ext.setNew (Ext.setNew (Ext.setNew HX1.out _ _ ?_ _) _ _ ?_ _) _ _ ?_ _) _ _ ?_ _ <;> omega
set_option maxHeartbeats 2000000 in
theorem derivedStep_any (p : Int) (d r : Nat) (bx : Nat) (aT aS : Option Addr) (N c N1 c1 : Nat) (t : List Int) (R : List (List Int)) (w : World) (hal : AlgAt w bx p d aT N c)
    (hd : d ≤ 28) (hN : N = d * d * d) (hc : N ≤ c) (hcb : c ≤ 1000000000000) (ht : IntsAt w aT N t)
    (hS : IntsAt w aS N1 R.flatten) (hr : R.length = r) (hR : Rows p d R) (hc1 : N1 ≤ c1) (hcb1 : c1 ≤ 9223372036854775807) (hp : primeB p = true) (hrt : Res p t) (hrb : r ≤ 100) (hz : r = 0 ∨ 1 ≤ d) :
    Calls Try.prog 76 #[matV p r d aS N1 c1, .pointer (some ⟨bx, 0, none⟩)] w (StepSays p d w.heap.size (fun R => prodL p t d R R) R w) := by
  have hx0 := Ext.alloc w (.cells #[.int .i64 p, .int .i64 (r : Int), .int .i64 (d : Int), .slice aS N1 c1] 67)
  have hx1 := Ext.alloc (w.alloc (.cells #[.int .i64 p, .int .i64 (r : Int), .int .i64 (d : Int), .slice aS N1 c1] 67)) (.cells #[.int .i64 0, .int .i64 0, .int .i64 0, .slice none 0 0] 67)
  have hfl := hR.flat
  have hmr := matRows_flatten hR
  rw [hr] at hfl hmr
  have HP := hidP (fun w' (hx : Ext w w') => product_any p d r r aT aS aS N c N1 c1 N1 c1 t R.flatten R.flatten w' hd hN hc hcb (ht.below hx) (hS.below hx) (hS.below hx) (hS.len.symm.trans hfl) (hS.len.symm.trans hfl) hc1 hcb1 hc1 hcb1 hp hrt
    hR.flat_res hR.flat_res hrb hrb hz hz)
  rw [hmr] at HP
  have hnew := fun w1 hx j => new_cell (w' := w1) (w := w.alloc (.cells #[.int .i64 p, .int .i64 (r : Int), .int .i64 (d : Int), .slice aS N1 c1] 67)) (cs := #[.int .i64 0, .int .i64 0, .int .i64 0, .slice none 0 0]) (E := 67) (b := w.heap.size + 1) (by simp) hx j
  have HX := hidP (hx0.trans hx1)
  have hsz : w.heap.size + 1 < ((w.alloc (.cells #[.int .i64 p, .int .i64 (r : Int), .int .i64 (d : Int), .slice aS N1 c1] 67)).alloc (.cells #[.int .i64 0, .int .i64 0, .int .i64 0, .slice none 0 0] 67)).heap.size := by simp
  obtain ⟨f0, f1, f2⟩ := hal
  have hl1 := World.block_lt_of_cell? w _ f0
  simp only at hl1
  clear ht hS hr hR hx0 hx1 hmr hfl hrt hN
  go_enter Try.func76, Try.ntmps76
  go_wp2_with fail
  obtain ⟨w0, hw0⟩ : ∃ w0, w0 = (w.alloc (.cells #[.int .i64 p, .int .i64 (r : Int), .int .i64 (d : Int), .slice aS N1 c1] 67)).alloc (.cells #[.int .i64 0, .int .i64 0, .int .i64 0, .slice none 0 0] 67) := ⟨_, rfl⟩
  rw [← hw0] at HX hnew hsz ⊢
  clear hw0 f0 f1 f2
  refine (HP.out _ HX.out).mono ?_
  rintro e w1 ⟨a', l, c', rfl, ho, hx⟩
  have HO := hidP ho
  have HX1 := hidP (HX.out.trans hx)
  have r0 := (hnew w1 hx 0).1.trans (show _ = some (Value.int .i64 0) from rfl)
  have r1 := (hnew w1 hx 1).1.trans (show _ = some (Value.int .i64 0) from rfl)
  have r2 := (hnew w1 hx 2).1.trans (show _ = some (Value.int .i64 0) from rfl)
  have r3 := (hnew w1 hx 3).1.trans (show _ = some (Value.slice none 0 0) from rfl)
  have y0 := (hnew w1 hx 0).2
  have y1 := (hnew w1 hx 1).2
  have y2 := (hnew w1 hx 2).2
  have y3 := (hnew w1 hx 3).2
  clear hnew ho hx HP
  generalize hm : (prodL p t d R R).length = m at *
  have HM := hidP hm
  clear hm
  go_wp2
  refine bodyPost_ret (v := matV p m d a' l c') (by simp [results, Try.results76, go_sem, r0, r1, r2, r3]) rfl ?_
  refine ⟨a', l, c', by rw [← HM.out], ?_, ?_⟩
  · refine OwnI.base (B := w0.heap.size) ?_ (by omega)
    refine OwnI.setBelow (OwnI.setBelow (OwnI.setBelow (OwnI.setBelow HO.out _ _ ?_ _) _ _ ?_ _) _ _ ?_ _) _ _ ?_ _ <;> omega
  · refine Ext.setNew (Ext.setNew (Ext.setNew (Ext.setNew HX1.out _ _ ?_ _) _ _ ?_ _) _ _ ?_ _) _ _ ?_ _ <;> omega
/-- a matrix as data -/
structure Mx where
  p : Int
  r : Int
  s : Int
  data : List Int
def matK : Knd Mx where
  E := 67
  size := 4
  dft := ⟨0, 0, 0, []⟩
  ints := Mx.data
  put := fun x ys => { x with data := ys }
  cells := fun a c x => [.int .i64 x.p, .int .i64 x.r, .int .i64 x.s, .slice a x.data.length c]
  len := fun _ _ _ => rfl
  pos := by decide
  ne := by decide
  put_ints := fun _ _ => rfl
  put_cells := fun a c x ys h => by simp only at h ⊢; rw [h]
  one := fun a c x u hu => by simp only [List.mem_cons, List.not_mem_nil, or_false] at hu; rcases hu with rfl | rfl | rfl | rfl <;> rfl
theorem Try.info67 : (Try.prog.info? 67).map (fun i => (i.zero, i.size, i.bytes)) = some (some (.agg #[.int .i64 0, .int .i64 0, .int .i64 0, .slice none 0 0]), 4, 48) := by kernel_rfl
theorem OwnI.caps {w : World} {B : Nat} {a : Option Addr} {n c : Nat} {xs : List Int} (h : OwnI w B a n c xs) : n ≤ c ∧ c ≤ 9223372036854775807 := by
  rcases h.row.2 with ⟨he, h0⟩ | ⟨g, cap, cur, he, _, _, hnc, hcm, _⟩
  · simp only [Value.slice.injEq] at he
    omega
  · simp only [Value.slice.injEq] at he
    unfold maxLen at hcm
    omega
def iterL (f : List (List Int) → List (List Int)) (R : List (List Int)) : Nat → List (List Int)
  | 0 => R
  | i + 1 => f (iterL f R i)
def mxOf (p d : Int) (R : List (List Int)) : Mx := ⟨p, R.length, d, R.flatten⟩
/-- the matrices of a series, i + 1 of them -/
def serL (p d : Int) (f : List (List Int) → List (List Int)) (R : List (List Int)) (i : Nat) : List Mx := (List.range (i + 1)).map fun j => mxOf p d (iterL f R j)
theorem serL_succ (p d : Int) (f : List (List Int) → List (List Int)) (R : List (List Int)) (i : Nat) : serL p d f R (i + 1) = serL p d f R i ++ [mxOf p d (iterL f R (i + 1))] := by
  unfold serL
  rw [List.range_succ, List.map_append]
  rfl
theorem serL_get (p d : Int) (f : List (List Int) → List (List Int)) (R : List (List Int)) (i j : Nat) (hj : j ≤ i) : (serL p d f R i).getD j matK.dft = mxOf p d (iterL f R j) := by
  unfold serL
  simp [List.getD_eq_getElem?_getD, show j < i + 1 by omega]
end Go.Proofs.Ythbdcclglopkiaa
