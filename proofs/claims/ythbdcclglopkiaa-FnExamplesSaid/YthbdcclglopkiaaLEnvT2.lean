/-
  The law's own copies of algebras and of slices of a word and a number each.
-/
import Derived.Test.YthbdcclglopkiaaLEnvT
namespace Go.Proofs.Ythbdcclglopkiaa
open Go.RowKit

theorem Try.info74 : (Try.prog.info? 74).map (fun i => (i.zero, i.size, i.bytes)) = some (some (.agg #[.slice none 0 0, .int .i64 0]), 2, 32) := by kernel_rfl

/-- the cells of a new slice of structs -/
def zeroT (n : Nat) : Array Value := madeCells #[.slice none 0 0, .int .i64 0] (n * 2)
theorem zeroT_size (n : Nat) : (zeroT n).size = n * 2 := by simp [zeroT, madeCells]
theorem make_terms (n : Nat) (h1 : n ≤ 1000000000) (w : World) :
    (Instr.makeSlice 41 (.int .i64 (n : Int)) (.int .i64 (n : Int))).run Try.prog w = .ok (.slice (some ⟨w.heap.size, 0, none⟩) n n) (w.alloc (.cells (zeroT n) 74)) := by
  obtain ⟨i, hi, hz0, hz1, hz2⟩ := info_parts Try.info74
  have := run_make (P := Try.prog) w 41 74 i _ Try.underlying41 hi hz0 .i64 .i64 n n (by omega) (Int.le_refl _) (by rw [hz2]; omega) (by omega)
  rw [this, hz1]
  rfl

/-- the cells of a new block, later -/
theorem new_cell {w w' : World} {cs : Array Value} {E : TypeId} {b : Nat} (hb : b = w.heap.size) (hx : Ext (w.alloc (.cells cs E)) w') (j : Nat) :
    w'.cell? ⟨b, j, none⟩ = cs[j]? ∧ w'.frozen? ⟨b, j, none⟩ = false := by
  subst hb
  have hl : w.heap.size < (w.alloc (.cells cs E)).heap.size := by simp
  exact ⟨(hx.cell (p := ⟨w.heap.size, j, none⟩) hl).trans (cell_top _ _ _ _ _ rfl), (hx.frozen (p := ⟨w.heap.size, j, none⟩) hl).trans (frozen_top _ _ _ _ _ rfl)⟩

theorem szAlgebra_any (p d : Int) (a : Option Addr) (n c : Nat) (left : Int) (w : World) (hn : n ≤ 9223372036854775807) (h0 : 0 ≤ left) (h1 : left ≤ 1048576) :
    Calls Try.prog 18 #[algV p d a n c, .int .i64 left] w fun e w' => e = .returned (.int .i64 (szLeft n left)) ∧ Ext w w' := by
  have HQ := hidP (fun w' => szIntS_any a n c left w' hn h0 h1)
  by_cases hle : (n : Int) ≤ left
  · have HE : Hid (szLeft n left = left - n) := if_pos hle
    rw [HE.out] at HQ ⊢
    go_enter Try.func18, Try.ntmps18
    go_wp2_with (go_at_call 50; refine (HQ.out _).mono ?_; rintro e w' ⟨rfl, rfl⟩)
    go_ret
    exact ⟨rfl, Ext.alloc _ _⟩
  · have HE : Hid (szLeft n left = -1) := if_neg hle
    rw [HE.out] at HQ ⊢
    go_enter Try.func18, Try.ntmps18
    go_wp2_with (go_at_call 50; refine (HQ.out _).mono ?_; rintro e w' ⟨rfl, rfl⟩)
    go_ret
    exact ⟨rfl, Ext.alloc _ _⟩
set_option maxHeartbeats 1000000 in
theorem toAlgebra_any (p d : Int) (a : Option Addr) (n c : Nat) (xs : List Int) (w : World) (h : IntsAt w a n xs) (hn : n ≤ 1048576) :
    Calls Try.prog 21 #[algV p d a n c] w fun e w' => ∃ a', e = .returned (algV p d a' n n) ∧ OwnI w' w.heap.size a' n n xs ∧ Ext w w' := by
  have HQ := hidP (fun w' (hx : Ext w w') => toIntS_any a n c xs w' (h.below hx) hn)
  clear h
  go_enter Try.func21, Try.ntmps21
  go_wp2_with fail
  have hx0 : Ext w (((w.alloc (.cells #[.int .i64 p, .int .i64 d, .slice a n c] 35)).alloc (.cells #[.int .i64 0, .int .i64 0, .slice none 0 0] 24)).alloc (.cells #[.int .i64 p, .int .i64 d, .slice none 0 0] 24)) :=
    ((Ext.alloc w _).trans (Ext.alloc _ _)).trans (Ext.alloc _ _)
  have hc0 := fun w1 hx j => new_cell (w' := w1) (w := ((w.alloc (.cells #[.int .i64 p, .int .i64 d, .slice a n c] 35)).alloc (.cells #[.int .i64 0, .int .i64 0, .slice none 0 0] 24))) (cs := #[.int .i64 p, .int .i64 d, .slice none 0 0]) (E := 24) (b := w.heap.size + 1 + 1) (by simp) hx j
  have hc1 := fun w1 hx j => new_cell (w' := w1) (w := w.alloc (.cells #[.int .i64 p, .int .i64 d, .slice a n c] 35)) (cs := #[.int .i64 0, .int .i64 0, .slice none 0 0]) (E := 24) (b := w.heap.size + 1) (by simp) ((Ext.alloc _ (.cells #[.int .i64 p, .int .i64 d, .slice none 0 0] 24)).trans hx) j
  have hs0 : w.heap.size + 2 < (((w.alloc (.cells #[.int .i64 p, .int .i64 d, .slice a n c] 35)).alloc (.cells #[.int .i64 0, .int .i64 0, .slice none 0 0] 24)).alloc (.cells #[.int .i64 p, .int .i64 d, .slice none 0 0] 24)).heap.size := by simp
  have hq := HQ.out _ hx0
  obtain ⟨W, hW⟩ : ∃ W, W = (((w.alloc (.cells #[.int .i64 p, .int .i64 d, .slice a n c] 35)).alloc (.cells #[.int .i64 0, .int .i64 0, .slice none 0 0] 24)).alloc (.cells #[.int .i64 p, .int .i64 d, .slice none 0 0] 24)) := ⟨_, rfl⟩
  rw [← hW] at hx0 hc0 hc1 hs0 hq ⊢
  clear hW HQ
  have HQ := hidP hq
  have HX := hidP hx0
  clear hq hx0
  refine HQ.out.mono ?_
  rintro e w1 ⟨a', rfl, ho, hx⟩
  have HO := hidP ho
  obtain ⟨q0, _⟩ := hc0 w1 hx 0
  obtain ⟨q1, _⟩ := hc0 w1 hx 1
  obtain ⟨q2, z2⟩ := hc0 w1 hx 2
  obtain ⟨r0, y0⟩ := hc1 w1 hx 0
  obtain ⟨r1, y1⟩ := hc1 w1 hx 1
  obtain ⟨r2, y2⟩ := hc1 w1 hx 2
  have q0 := q0.trans (show _ = some (Value.int .i64 p) from rfl)
  have q1 := q1.trans (show _ = some (Value.int .i64 d) from rfl)
  have q2 := q2.trans (show _ = some (Value.slice none 0 0) from rfl)
  have r0 := r0.trans (show _ = some (Value.int .i64 0) from rfl)
  have r1 := r1.trans (show _ = some (Value.int .i64 0) from rfl)
  have r2 := r2.trans (show _ = some (Value.slice none 0 0) from rfl)
  have HX1 := hidP (HX.out.trans hx)
  have hsz : w.heap.size + 2 < W.heap.size := hs0
  clear hc0 hc1 ho hx hs0
  go_wp2
  refine bodyPost_ret (v := algV p d a' n n) (by simp [results, Try.results21, go_sem, r0, r1, r2]) rfl ⟨_, rfl, ?_, ?_⟩
  · refine OwnI.base (B := W.heap.size) ?_ (by omega)
    refine OwnI.setBelow (OwnI.setBelow (OwnI.setBelow (OwnI.setBelow HO.out _ _ ?_ _) _ _ ?_ _) _ _ ?_ _) _ _ ?_ _ <;> omega
  · refine Ext.setNew (Ext.setNew (Ext.setNew (Ext.setNew HX1.out _ _ ?_ _) _ _ ?_ _) _ _ ?_ _) _ _ ?_ _ <;> omega
set_option maxHeartbeats 1000000 in
theorem toEnvTerm_any (m : Int) (a : Option Addr) (n c : Nat) (xs : List Int) (w : World) (h : IntsAt w a n xs) (hn : n ≤ 1048576) :
    Calls Try.prog 55 #[.agg #[.slice a n c, .int .i64 m]] w fun e w' => ∃ a', e = .returned (.agg #[.slice a' n n, .int .i64 m]) ∧ OwnI w' w.heap.size a' n n xs ∧ Ext w w' := by
  have HQ := hidP (fun w' (hx : Ext w w') => toIntS_any a n c xs w' (h.below hx) hn)
  clear h
  go_enter Try.func55, Try.ntmps55
  go_wp2_with fail
  have hx0 : Ext w (((w.alloc (.cells #[.slice a n c, .int .i64 m] 73)).alloc (.cells #[.slice none 0 0, .int .i64 0] 74)).alloc (.cells #[.slice none 0 0, .int .i64 0] 74)) :=
    ((Ext.alloc w _).trans (Ext.alloc _ _)).trans (Ext.alloc _ _)
  have hq := HQ.out _ hx0
  have hg := fun w1 hx j => new_cell (w' := w1) (w := w) (cs := #[.slice a n c, .int .i64 m]) (E := 73) (b := w.heap.size) rfl (((Ext.alloc _ (.cells #[.slice none 0 0, .int .i64 0] 74)).trans (Ext.alloc _ (.cells #[.slice none 0 0, .int .i64 0] 74))).trans hx) j
  have hg1 := fun w1 hx j => new_cell (w' := w1) (w := w.alloc (.cells #[.slice a n c, .int .i64 m] 73)) (cs := #[.slice none 0 0, .int .i64 0]) (E := 74) (b := w.heap.size + 1) (by simp) ((Ext.alloc _ (.cells #[.slice none 0 0, .int .i64 0] 74)).trans hx) j
  have hg2 := fun w1 hx j => new_cell (w' := w1) (w := (w.alloc (.cells #[.slice a n c, .int .i64 m] 73)).alloc (.cells #[.slice none 0 0, .int .i64 0] 74)) (cs := #[.slice none 0 0, .int .i64 0]) (E := 74) (b := w.heap.size + 1 + 1) (by simp) hx j
  have hs0 : w.heap.size + 2 < (((w.alloc (.cells #[.slice a n c, .int .i64 m] 73)).alloc (.cells #[.slice none 0 0, .int .i64 0] 74)).alloc (.cells #[.slice none 0 0, .int .i64 0] 74)).heap.size := by simp
  obtain ⟨W, hW⟩ : ∃ W, W = (((w.alloc (.cells #[.slice a n c, .int .i64 m] 73)).alloc (.cells #[.slice none 0 0, .int .i64 0] 74)).alloc (.cells #[.slice none 0 0, .int .i64 0] 74)) := ⟨_, rfl⟩
  rw [← hW] at hx0 hs0 hq hg hg1 hg2 ⊢
  clear hW HQ
  have HQ := hidP hq
  have HX := hidP hx0
  clear hq hx0
  refine HQ.out.mono ?_
  rintro e w1 ⟨a', rfl, ho, hx⟩
  have HO := hidP ho
  have p1 := (hg w1 hx 1).1.trans (show _ = some (Value.int .i64 m) from rfl)
  obtain ⟨q0, z0⟩ := hg2 w1 hx 0
  obtain ⟨q1, z1⟩ := hg2 w1 hx 1
  obtain ⟨r0, y0⟩ := hg1 w1 hx 0
  obtain ⟨r1, y1⟩ := hg1 w1 hx 1
  have q0 := q0.trans (show _ = some (Value.slice none 0 0) from rfl)
  have q1 := q1.trans (show _ = some (Value.int .i64 0) from rfl)
  have r0 := r0.trans (show _ = some (Value.slice none 0 0) from rfl)
  have r1 := r1.trans (show _ = some (Value.int .i64 0) from rfl)
  have HX1 := hidP (HX.out.trans hx)
  have hsz : w.heap.size + 2 < W.heap.size := hs0
  clear ho hx hs0 hg hg1 hg2
  go_wp2
  refine bodyPost_ret (v := .agg #[.slice a' n n, .int .i64 m]) (by simp [results, Try.results55, go_sem, r0, r1]) rfl ⟨_, rfl, ?_, ?_⟩
  · refine OwnI.base (B := W.heap.size) ?_ (by omega)
    refine OwnI.setBelow (OwnI.setBelow (OwnI.setBelow (OwnI.setBelow HO.out _ _ ?_ _) _ _ ?_ _) _ _ ?_ _) _ _ ?_ _ <;> omega
  · refine Ext.setNew (Ext.setNew (Ext.setNew (Ext.setNew HX1.out _ _ ?_ _) _ _ ?_ _) _ _ ?_ _) _ _ ?_ _ <;> omega
end Go.Proofs.Ythbdcclglopkiaa
