/-
  The law's own functions on Cartan matrices and on sessions: eqCartan, markCartan, heldCartan, eqSession, markSession, heldSession.
-/
import Derived.Test.YtnfbfdamlnjblaaGreatDoorAlg
import Derived.Test.YtnfbfdamlnjblaaGreatDoorCar
import Derived.Test.YtnfbfdamlnjblaaGreatDoorCv
import Derived.Test.YtnfbfdamlnjblaaGreatDoorOwn
namespace Go.Proofs.YtnfbfdamlnjblaaGreatDoor
open Go.RowKit

theorem resCar {w w1 : World} {r0 : Int} {a0 : Option Addr} {n0 c0 : Nat} {E : TypeId} (hx : Ext (w.alloc (.cells #[.int .i64 r0, .slice a0 n0 c0] E)) w1) :
    w1.cell? ⟨w.heap.size, 0, none⟩ = some (.int .i64 r0) ∧ w1.cell? ⟨w.heap.size, 1, none⟩ = some (.slice a0 n0 c0) ∧
    w1.frozen? ⟨w.heap.size, 0, none⟩ = false ∧ w1.frozen? ⟨w.heap.size, 1, none⟩ = false ∧ w.heap.size < w1.heap.size ∧ Ext w w1 := by
  have h := (CarAt.new w _ rfl r0 a0 n0 c0 E).below hx
  have hs : w.heap.size < w1.heap.size := by have := hx.size; simp at this; omega
  have hf : ∀ j, w1.frozen? ⟨w.heap.size, j, none⟩ = false := fun j => by
    rw [hx.frozen (p := ⟨w.heap.size, j, none⟩) (by simp)]
    exact frozen_top _ _ _ _ _ rfl
  exact ⟨h.c0, h.c1, hf 0, hf 1, hs, (Ext.alloc w _).trans hx⟩

set_option maxHeartbeats 1000000 in
theorem eqCartan_any (r1 r2 : Int) (a1 a2 : Option Addr) (n1 n2 c1 c2 : Nat) (xs ys : List Int) (w : World) (h1 : IntsAt w a1 n1 xs) (h2 : IntsAt w a2 n2 ys) (hm1 : n1 ≤ 9223372036854775807) (hm2 : n2 ≤ 9223372036854775807) :
    Calls Tryz.prog 40 #[carV r1 a1 n1 c1, carV r2 a2 n2 c2] w fun e w' => e = .returned (.bool (decide (r1 = r2 ∧ xs = ys))) ∧ Ext w w' := by
  by_cases hd : r1 = r2
  · have hd' : (r1 != r2) = false := by simp [hd]
    have HR : Hid (decide (r1 = r2 ∧ xs = ys) = (xs == ys)) := by
      show _ = _
      by_cases h : xs = ys <;> simp [hd, h]
    have HQ := hidP (fun w' (hx : Ext w w') => eqIntS_any a1 a2 n1 n2 c1 c2 xs ys w' (h1.below hx) (h2.below hx) hm1 hm2)
    clear hd h1 h2
    cases hb : (xs == ys)
    all_goals
      rw [hb] at HR
      go_enter Tryz.func40, Tryz.ntmps40
      go_wp2_with (go_at_call 20; refine (HQ.out _ ((Ext.alloc w _).trans (Ext.alloc _ _))).mono ?_; rintro e w' ⟨rfl, m, rfl⟩)
      go_ret
      exact ⟨ret_bool HR.out.symm, ((Ext.alloc w _).trans (Ext.alloc _ _)).trans (Ext.drewN _ _)⟩
  · have hd' : (r1 != r2) = true := by simp [hd]
    have HR : Hid (decide (r1 = r2 ∧ xs = ys) = false) := by
      show _ = _
      simp [hd]
    clear hd
    go_enter Tryz.func40, Tryz.ntmps40
    go_wp2
    go_ret
    exact ⟨ret_bool HR.out.symm, (Ext.alloc w _).trans (Ext.alloc _ _)⟩
theorem markCartan_any (r : Int) (B : Nat) (a : Option Addr) (n c : Nat) (k0 : Int) (xs : List Int) (w : World) (h : OwnI w B a n c xs)
    (hn : n ≤ 1000000000000) (hk0 : -1000000000000 ≤ k0) (hk1 : k0 ≤ 1000000000000) :
    Calls Tryz.prog 41 #[carV r a n c, .int .i64 k0] w fun e w' => e = .returned (.int .i64 (k0 + n)) ∧ UpdI w w' a n (upFrom k0 n) := by
  have HQ := hidP (fun w' (hx : Ext w w') => markIntS_any a n c k0 xs w' (h.below hx).ints (h.below hx).unfrozen hn hk0 hk1)
  have H := hidP h
  clear h
  go_enter Tryz.func41, Tryz.ntmps41
  go_wp2_with (go_at_call 22; refine (HQ.out _ (Ext.alloc w _)).mono ?_; rintro e w' ⟨rfl, hu⟩)
  go_ret
  exact ⟨rfl, (Ext.alloc w _).upd H.out.ints hu⟩

end Go.Proofs.YtnfbfdamlnjblaaGreatDoor