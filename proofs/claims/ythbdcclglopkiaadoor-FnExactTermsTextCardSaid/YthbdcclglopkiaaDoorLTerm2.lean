/-
  The law's own copies of algebras and of slices of a word and a number each.
-/
import Derived.Test.YthbdcclglopkiaaDoorLTerm
namespace Go.Proofs.YthbdcclglopkiaaDoor
open Go.RowKit

theorem Tryd.info46 : (Tryd.prog.info? 46).map (fun i => (i.zero, i.size, i.bytes)) = some (some (.agg #[.slice none 0 0, .int .i64 0]), 2, 32) := by kernel_rfl

/-- the cells of a new slice of structs -/
def zeroT (n : Nat) : Array Value := madeCells #[.slice none 0 0, .int .i64 0] (n * 2)
theorem zeroT_size (n : Nat) : (zeroT n).size = n * 2 := by simp [zeroT, madeCells]
theorem make_terms (n : Nat) (h1 : n ≤ 1000000000) (w : World) :
    (Instr.makeSlice 25 (.int .i64 (n : Int)) (.int .i64 (n : Int))).run Tryd.prog w = .ok (.slice (some ⟨w.heap.size, 0, none⟩) n n) (w.alloc (.cells (zeroT n) 46)) := by
  obtain ⟨i, hi, hz0, hz1, hz2⟩ := info_parts Tryd.info46
  have := run_make (P := Tryd.prog) w 25 46 i _ Tryd.underlying25 hi hz0 .i64 .i64 n n (by omega) (Int.le_refl _) (by rw [hz2]; omega) (by omega)
  rw [this, hz1]
  rfl

set_option maxHeartbeats 1000000 in
theorem toTerm_any (m : Int) (a : Option Addr) (n c : Nat) (xs : List Int) (w : World) (h : IntsAt w a n xs) (hn : n ≤ 1048576) :
    Calls Tryd.prog 24 #[.agg #[.slice a n c, .int .i64 m]] w fun e w' => ∃ a', e = .returned (.agg #[.slice a' n n, .int .i64 m]) ∧ OwnI w' w.heap.size a' n n xs ∧ Ext w w' := by
  have HQ := hidP (fun w' (hx : Ext w w') => toIntS_any a n c xs w' (h.below hx) hn)
  clear h
  go_enter Tryd.func24, Tryd.ntmps24
  go_wp2_with fail
  have hx0 : Ext w (((w.alloc (.cells #[.slice a n c, .int .i64 m] 45)).alloc (.cells #[.slice none 0 0, .int .i64 0] 46)).alloc (.cells #[.slice none 0 0, .int .i64 0] 46)) :=
    ((Ext.alloc w _).trans (Ext.alloc _ _)).trans (Ext.alloc _ _)
  have hq := HQ.out _ hx0
  have hg := fun w1 hx j => new_cell (w' := w1) (w := w) (cs := #[.slice a n c, .int .i64 m]) (E := 45) (b := w.heap.size) rfl (((Ext.alloc _ (.cells #[.slice none 0 0, .int .i64 0] 46)).trans (Ext.alloc _ (.cells #[.slice none 0 0, .int .i64 0] 46))).trans hx) j
  have hg1 := fun w1 hx j => new_cell (w' := w1) (w := w.alloc (.cells #[.slice a n c, .int .i64 m] 45)) (cs := #[.slice none 0 0, .int .i64 0]) (E := 46) (b := w.heap.size + 1) (by simp) ((Ext.alloc _ (.cells #[.slice none 0 0, .int .i64 0] 46)).trans hx) j
  have hg2 := fun w1 hx j => new_cell (w' := w1) (w := (w.alloc (.cells #[.slice a n c, .int .i64 m] 45)).alloc (.cells #[.slice none 0 0, .int .i64 0] 46)) (cs := #[.slice none 0 0, .int .i64 0]) (E := 46) (b := w.heap.size + 1 + 1) (by simp) hx j
  have hs0 : w.heap.size + 2 < (((w.alloc (.cells #[.slice a n c, .int .i64 m] 45)).alloc (.cells #[.slice none 0 0, .int .i64 0] 46)).alloc (.cells #[.slice none 0 0, .int .i64 0] 46)).heap.size := by simp
  obtain ⟨W, hW⟩ : ∃ W, W = (((w.alloc (.cells #[.slice a n c, .int .i64 m] 45)).alloc (.cells #[.slice none 0 0, .int .i64 0] 46)).alloc (.cells #[.slice none 0 0, .int .i64 0] 46)) := ⟨_, rfl⟩
  rw [← hW] at hx0 hs0 hq hg hg1 hg2 ⊢
  clear hW HQ
  have HQ := hidP hq
  have HX := hidP hx0
  clear hq hx0
  refine HQ.out.mono ?_
  rintro e w1 ⟨a', rfl, ho, hx⟩
  have HO := hidP ho
  have p1 := (hg w1 hx 1).1.trans (show _ = some (Value.int .i64 m) from rfl)
  obtain ⟨q0, z0⟩ := hg2 w1 hx 0
  obtain ⟨q1, z1⟩ := hg2 w1 hx 1
  obtain ⟨r0, y0⟩ := hg1 w1 hx 0
  obtain ⟨r1, y1⟩ := hg1 w1 hx 1
  have q0 := q0.trans (show _ = some (Value.slice none 0 0) from rfl)
  have q1 := q1.trans (show _ = some (Value.int .i64 0) from rfl)
  have r0 := r0.trans (show _ = some (Value.slice none 0 0) from rfl)
  have r1 := r1.trans (show _ = some (Value.int .i64 0) from rfl)
  have HX1 := hidP (HX.out.trans hx)
  have hsz : w.heap.size + 2 < W.heap.size := hs0
  clear ho hx hs0 hg hg1 hg2
  go_wp2
  refine bodyPost_ret (v := .agg #[.slice a' n n, .int .i64 m]) (by simp [results, Tryd.results24, go_sem, r0, r1]) rfl ⟨_, rfl, ?_, ?_⟩
  · refine OwnI.base (B := W.heap.size) ?_ (by omega)
    refine OwnI.setBelow (OwnI.setBelow (OwnI.setBelow (OwnI.setBelow HO.out _ _ ?_ _) _ _ ?_ _) _ _ ?_ _) _ _ ?_ _ <;> omega
  · refine Ext.setNew (Ext.setNew (Ext.setNew (Ext.setNew HX1.out _ _ ?_ _) _ _ ?_ _) _ _ ?_ _) _ _ ?_ _ <;> omega
end Go.Proofs.YthbdcclglopkiaaDoor
