/-
  A Cartan matrix's value, and the cells of one in a variable of its own.
-/
import Derived.Test.YtnfbfdamlnjblaaGreatDoorMem
namespace Go.Proofs.YtnfbfdamlnjblaaGreatDoor
open Go.RowKit

/-- a Cartan matrix's value -/
abbrev carV (r : Int) (a : Option Addr) (n c : Nat) : Value := .agg #[.int .i64 r, .slice a n c]
/-- the two cells of one in a variable of its own -/
structure CarAt (w : World) (b : Nat) (r : Int) (a : Option Addr) (n c : Nat) : Prop where
  c0 : w.cell? ⟨b, 0, none⟩ = some (.int .i64 r)
  c1 : w.cell? ⟨b, 1, none⟩ = some (.slice a n c)
theorem CarAt.below {w w' : World} {b : Nat} {r : Int} {a : Option Addr} {n c : Nat} (h : CarAt w b r a n c) (hb : Ext w w') : CarAt w' b r a n c :=
  have hl := World.block_lt_of_cell? w _ h.c0
  ⟨(hb.cell (p := ⟨b, 0, none⟩) hl).trans h.c0, (hb.cell (p := ⟨b, 1, none⟩) hl).trans h.c1⟩
theorem CarAt.new (w : World) (b : Nat) (hb : b = w.heap.size) (r : Int) (a : Option Addr) (n c : Nat) (E : TypeId) : CarAt (w.alloc (.cells #[.int .i64 r, .slice a n c] E)) b r a n c :=
  ⟨(cell_top _ _ _ _ _ hb).trans rfl, (cell_top _ _ _ _ _ hb).trans rfl⟩
theorem CarAt.block {w : World} {b : Nat} {r : Int} {a : Option Addr} {n c : Nat} (h : CarAt w b r a n c) : b < w.heap.size := World.block_lt_of_cell? w _ h.c0

end Go.Proofs.YtnfbfdamlnjblaaGreatDoor
