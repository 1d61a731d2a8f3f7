/-
  The law's own copies of Cartan matrices.
-/
import Derived.Test.YtdbpbnajegoffaaDoorInS
import Derived.Test.YtdbpbnajegoffaaDoorCv
namespace Go.Proofs.YtdbpbnajegoffaaDoor
open Go.RowKit

theorem szCartan_any (p : Int) (a : Option Addr) (n c : Nat) (left : Int) (w : World) (hn : n ≤ 9223372036854775807) (h0 : 0 ≤ left) (h1 : left ≤ 1048576) :
    Calls Tryd.prog 15 #[carV p a n c, .int .i64 left] w fun e w' => e = .returned (.int .i64 (szLeft n left)) ∧ Ext w w' := by
  have HQ := hidP (fun w' => szIntS_any a n c left w' hn h0 h1)
  by_cases hle : (n : Int) ≤ left
  · have HE : Hid (szLeft n left = left - n) := if_pos hle
    rw [HE.out] at HQ ⊢
    go_enter Tryd.func15, Tryd.ntmps15
    go_wp2_with (go_at_call 40; refine (HQ.out _).mono ?_; rintro e w' ⟨rfl, rfl⟩)
    go_ret
    exact ⟨rfl, Ext.alloc _ _⟩
  · have HE : Hid (szLeft n left = -1) := if_neg hle
    rw [HE.out] at HQ ⊢
    go_enter Tryd.func15, Tryd.ntmps15
    go_wp2_with (go_at_call 40; refine (HQ.out _).mono ?_; rintro e w' ⟨rfl, rfl⟩)
    go_ret
    exact ⟨rfl, Ext.alloc _ _⟩
set_option maxHeartbeats 1000000 in
theorem toCartan_any (p : Int) (a : Option Addr) (n c : Nat) (xs : List Int) (w : World) (h : IntsAt w a n xs) (hn : n ≤ 1048576) :
    Calls Tryd.prog 18 #[carV p a n c] w fun e w' => ∃ a', e = .returned (carV p a' n n) ∧ OwnI w' w.heap.size a' n n xs ∧ Ext w w' := by
  have HQ := hidP (fun w' (hx : Ext w w') => toIntS_any a n c xs w' (h.below hx) hn)
  clear h
  go_enter Tryd.func18, Tryd.ntmps18
  go_wp2_with fail
  have hx0 : Ext w (((w.alloc (.cells #[.int .i64 p, .slice a n c] 34)).alloc (.cells #[.int .i64 0, .slice none 0 0] 26)).alloc (.cells #[.int .i64 p, .slice none 0 0] 26)) :=
    ((Ext.alloc w _).trans (Ext.alloc _ _)).trans (Ext.alloc _ _)
  have hc0 := fun w1 hx j => new_cell (w' := w1) (w := ((w.alloc (.cells #[.int .i64 p, .slice a n c] 34)).alloc (.cells #[.int .i64 0, .slice none 0 0] 26))) (cs := #[.int .i64 p, .slice none 0 0]) (E := 26) (b := w.heap.size + 1 + 1) (by simp) hx j
  have hc1 := fun w1 hx j => new_cell (w' := w1) (w := w.alloc (.cells #[.int .i64 p, .slice a n c] 34)) (cs := #[.int .i64 0, .slice none 0 0]) (E := 26) (b := w.heap.size + 1) (by simp) ((Ext.alloc _ (.cells #[.int .i64 p, .slice none 0 0] 26)).trans hx) j
  have hs0 : w.heap.size + 2 < (((w.alloc (.cells #[.int .i64 p, .slice a n c] 34)).alloc (.cells #[.int .i64 0, .slice none 0 0] 26)).alloc (.cells #[.int .i64 p, .slice none 0 0] 26)).heap.size := by simp
  have hq := HQ.out _ hx0
  obtain ⟨W, hW⟩ : ∃ W, W = (((w.alloc (.cells #[.int .i64 p, .slice a n c] 34)).alloc (.cells #[.int .i64 0, .slice none 0 0] 26)).alloc (.cells #[.int .i64 p, .slice none 0 0] 26)) := ⟨_, rfl⟩
  rw [← hW] at hx0 hc0 hc1 hs0 hq ⊢
  clear hW HQ
  have HQ := hidP hq
  have HX := hidP hx0
  clear hq hx0
  refine HQ.out.mono ?_
  rintro e w1 ⟨a', rfl, ho, hx⟩
  have HO := hidP ho
  obtain ⟨q0, _⟩ := hc0 w1 hx 0
  obtain ⟨q1, z1⟩ := hc0 w1 hx 1
  obtain ⟨r0, y0⟩ := hc1 w1 hx 0
  obtain ⟨r1, y1⟩ := hc1 w1 hx 1
  have q0 := q0.trans (show _ = some (Value.int .i64 p) from rfl)
  have q1 := q1.trans (show _ = some (Value.slice none 0 0) from rfl)
  have r0 := r0.trans (show _ = some (Value.int .i64 0) from rfl)
  have r1 := r1.trans (show _ = some (Value.slice none 0 0) from rfl)
  have HX1 := hidP (HX.out.trans hx)
  have hsz : w.heap.size + 2 < W.heap.size := hs0
  clear hc0 hc1 ho hx hs0
  go_wp2
  refine bodyPost_ret (v := carV p a' n n) (by simp [results, Tryd.results18, go_sem, r0, r1]) rfl ⟨_, rfl, ?_, ?_⟩
  · refine OwnI.base (B := W.heap.size) ?_ (by omega)
    refine OwnI.setBelow (OwnI.setBelow (OwnI.setBelow HO.out _ _ ?_ _) _ _ ?_ _) _ _ ?_ _ <;> omega
  · refine Ext.setNew (Ext.setNew (Ext.setNew HX1.out _ _ ?_ _) _ _ ?_ _) _ _ ?_ _ <;> omega
end Go.Proofs.YtdbpbnajegoffaaDoor
