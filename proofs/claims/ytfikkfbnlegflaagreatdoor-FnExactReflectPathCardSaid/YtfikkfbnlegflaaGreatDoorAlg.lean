/-
  Algebras as values: the law's own functions on them, and AbelianAlgebra of both packages.
-/
import Derived.Test.YtfikkfbnlegflaaGreatDoorInS
import Derived.Test.YtfikkfbnlegflaaGreatDoorInt
import Derived.Test.YtfikkfbnlegflaaGreatDoorReg
namespace Go.Proofs.YtfikkfbnlegflaaGreatDoor
open Go.RowKit

/-- an algebra's value -/
abbrev algV (p d : Int) (a : Option Addr) (n c : Nat) : Value := .agg #[.int .i64 p, .int .i64 d, .slice a n c]

/-- the three cells of an algebra in a variable of its own -/
structure AlgAt (w : World) (b : Nat) (p d : Int) (a : Option Addr) (n c : Nat) : Prop where
  c0 : w.cell? ⟨b, 0, none⟩ = some (.int .i64 p)
  c1 : w.cell? ⟨b, 1, none⟩ = some (.int .i64 d)
  c2 : w.cell? ⟨b, 2, none⟩ = some (.slice a n c)
theorem AlgAt.below {w w' : World} {b : Nat} {p d : Int} {a : Option Addr} {n c : Nat} (h : AlgAt w b p d a n c) (hb : Ext w w') : AlgAt w' b p d a n c :=
  have hl := World.block_lt_of_cell? w _ h.c0
  ⟨(hb.cell (p := ⟨b, 0, none⟩) hl).trans h.c0, (hb.cell (p := ⟨b, 1, none⟩) hl).trans h.c1, (hb.cell (p := ⟨b, 2, none⟩) hl).trans h.c2⟩
theorem AlgAt.upd {w w' : World} {b : Nat} {p d : Int} {a : Option Addr} {n c : Nat} {a' : Option Addr} {n' : Nat} {ys : List Int} (h : AlgAt w b p d a n c) (hu : UpdI w w' a' n' ys) (hne : ∀ b' o', a' = some ⟨b', o', none⟩ → b ≠ b') : AlgAt w' b p d a n c :=
  have hl := World.block_lt_of_cell? w _ h.c0
  have hh := hu.other b hl fun b' o' e _ => hne b' o' e
  ⟨(World.cell?_of_block (a := ⟨b, 0, none⟩) hh).trans h.c0, (World.cell?_of_block (a := ⟨b, 1, none⟩) hh).trans h.c1, (World.cell?_of_block (a := ⟨b, 2, none⟩) hh).trans h.c2⟩
theorem AlgAt.new (w : World) (b : Nat) (hb : b = w.heap.size) (p d : Int) (a : Option Addr) (n c : Nat) (E : TypeId) : AlgAt (w.alloc (.cells #[.int .i64 p, .int .i64 d, .slice a n c] E)) b p d a n c :=
  ⟨(cell_top _ _ _ _ _ hb).trans rfl, (cell_top _ _ _ _ _ hb).trans rfl, (cell_top _ _ _ _ _ hb).trans rfl⟩

theorem resAlg {w w1 : World} {p0 d0 : Int} {a0 : Option Addr} {n0 c0 : Nat} {E : TypeId} (hx : Ext (w.alloc (.cells #[.int .i64 p0, .int .i64 d0, .slice a0 n0 c0] E)) w1) :
    w1.cell? ⟨w.heap.size, 0, none⟩ = some (.int .i64 p0) ∧ w1.cell? ⟨w.heap.size, 1, none⟩ = some (.int .i64 d0) ∧ w1.cell? ⟨w.heap.size, 2, none⟩ = some (.slice a0 n0 c0) ∧
    w1.frozen? ⟨w.heap.size, 0, none⟩ = false ∧ w1.frozen? ⟨w.heap.size, 1, none⟩ = false ∧ w1.frozen? ⟨w.heap.size, 2, none⟩ = false ∧ w.heap.size < w1.heap.size ∧ Ext w w1 := by
  have h := (AlgAt.new w _ rfl p0 d0 a0 n0 c0 E).below hx
  have hs : w.heap.size < w1.heap.size := by have := hx.size; simp at this; omega
  have hf : ∀ j, w1.frozen? ⟨w.heap.size, j, none⟩ = false := fun j => by
    rw [hx.frozen (p := ⟨w.heap.size, j, none⟩) (by simp)]
    exact frozen_top _ _ _ _ _ rfl
  exact ⟨h.c0, h.c1, h.c2, hf 0, hf 1, hf 2, hs, (Ext.alloc w _).trans hx⟩


end Go.Proofs.YtfikkfbnlegflaaGreatDoor
