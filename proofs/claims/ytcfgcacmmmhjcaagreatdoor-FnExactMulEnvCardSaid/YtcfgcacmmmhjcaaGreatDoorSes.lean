/-
  The law's own functions on Cartan matrices and on sessions: eqCartan, markCartan, heldCartan, eqSession, markSession, heldSession.
-/
import Derived.Test.YtcfgcacmmmhjcaaGreatDoorAlg
import Derived.Test.YtcfgcacmmmhjcaaGreatDoorCar
import Derived.Test.YtcfgcacmmmhjcaaGreatDoorCv
import Derived.Test.YtcfgcacmmmhjcaaGreatDoorOwn
namespace Go.Proofs.YtcfgcacmmmhjcaaGreatDoor
open Go.RowKit

theorem resCar {w w1 : World} {r0 : Int} {a0 : Option Addr} {n0 c0 : Nat} {E : TypeId} (hx : Ext (w.alloc (.cells #[.int .i64 r0, .slice a0 n0 c0] E)) w1) :
    w1.cell? ⟨w.heap.size, 0, none⟩ = some (.int .i64 r0) ∧ w1.cell? ⟨w.heap.size, 1, none⟩ = some (.slice a0 n0 c0) ∧
    w1.frozen? ⟨w.heap.size, 0, none⟩ = false ∧ w1.frozen? ⟨w.heap.size, 1, none⟩ = false ∧ w.heap.size < w1.heap.size ∧ Ext w w1 := by
  have h := (CarAt.new w _ rfl r0 a0 n0 c0 E).below hx
  have hs : w.heap.size < w1.heap.size := by have := hx.size; simp at this; omega
  have hf : ∀ j, w1.frozen? ⟨w.heap.size, j, none⟩ = false := fun j => by
    rw [hx.frozen (p := ⟨w.heap.size, j, none⟩) (by simp)]
    exact frozen_top _ _ _ _ _ rfl
  exact ⟨h.c0, h.c1, hf 0, hf 1, hs, (Ext.alloc w _).trans hx⟩


end Go.Proofs.YtcfgcacmmmhjcaaGreatDoor