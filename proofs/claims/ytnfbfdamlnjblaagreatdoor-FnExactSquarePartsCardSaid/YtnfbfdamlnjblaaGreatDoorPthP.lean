/-
  Paths read by the program: isWeight, PathOk.
-/
import Derived.Test.YtnfbfdamlnjblaaGreatDoorPthR
import Derived.Test.YtnfbfdamlnjblaaGreatDoorSlw
import Derived.Test.YtnfbfdamlnjblaaGreatDoorSlc
import Derived.Test.YtnfbfdamlnjblaaGreatDoorCar
namespace Go.Proofs.YtnfbfdamlnjblaaGreatDoor
open Go.RowKit

theorem isWeight1_any (x : Int) (w : World) : Calls Tryz.prog 162 #[.int .i64 x] w fun e w' => e = .returned (.bool (!insB x (-1000) 1000)) ∧ w = w' := by
  go_enter Tryz.func162, Tryz.ntmps162
  go_wp2_with (go_at_call 119; refine (inside_any _ _ _ _).mono ?_; rintro e w' ⟨rfl, rfl⟩)
  go_ret
  exact ⟨rfl, rfl⟩
theorem callFunc_isWeight1 (args : Array Value) (w : World) : Sem.run Tryz.prog (callFunc 162 args) w = .ok (.enter 162 args) w := by
  kernel_rfl
set_option maxHeartbeats 1000000 in
theorem isWeight_any (r : Nat) (ta : Option Addr) (tn tc : Nat) (a : Option Addr) (n c : Nat) (xs : List Int) (w : World) (h : IntsAt w a n xs) (_hn : n ≤ 9223372036854775807) (hr : r ≤ 1000000) :
    Calls Tryz.prog 135 #[carV r ta tn tc, .slice a n c] w fun e w' => e = .returned (.bool (wayB r xs)) ∧ Ext w w' := by
  have hX := Ext.alloc w (.cells #[.int .i64 r, .slice ta tn tc] 55)
  have HX := hidP hX
  have L := hidP h.len
  have HF : Hid (wayB r xs = (decide (xs.length = r) && !(xs.any fun x => !insB x (-1000) 1000))) := by
    show _ = _
    rw [wayB_eq, List.all_eq_not_any_not]
    rfl
  have HI := hidP (h.below hX)
  clear h hX
  by_cases hnr : n = r
  · have hne : ((n : Int) == (r : Int)) = true := by simp [hnr]
    have HC := hidP (containsFunc_any 162 #[] (fun x => !insB x (-1000) 1000) a n c xs _ HI.out (by omega) callFunc_isWeight1 (fun x => isWeight1_any x _))
    have HR : Hid (wayB r xs = !(xs.any fun x => !insB x (-1000) 1000)) := by
      show _ = _
      rw [HF.out, decide_eq_true (by have := L.out; omega), Bool.true_and]
    generalize (xs.any fun x => !insB x (-1000) 1000) = B at *
    clear hnr
    go_enter Tryz.func135, Tryz.ntmps135
    go_wp2_with (go_at_call 150; refine HC.out.mono ?_; rintro e w' ⟨rfl, rfl⟩)
    go_ret
    exact ⟨ret_bool HR.out.symm, HX.out⟩
  · have hne : ((n : Int) == (r : Int)) = false := beq_eq_false_iff_ne.2 (by omega)
    have HR : Hid (wayB r xs = false) := by
      show _ = _
      rw [HF.out, decide_eq_false (by have := L.out; omega), Bool.false_and]
    go_enter Tryz.func135, Tryz.ntmps135
    go_wp2
    go_ret
    exact ⟨ret_bool HR.out.symm, HX.out⟩

/-- the two cells of a step in a variable of its own -/
structure StpAt (w : World) (b : Nat) (a : Option Addr) (n c : Nat) (l : Int) : Prop where
  c0 : w.cell? ⟨b, 0, none⟩ = some (.slice a n c)
  c1 : w.cell? ⟨b, 1, none⟩ = some (.int .i64 l)
theorem StpAt.below {w w' : World} {b : Nat} {l : Int} {a : Option Addr} {n c : Nat} (h : StpAt w b a n c l) (hb : Ext w w') : StpAt w' b a n c l :=
  have hl := World.block_lt_of_cell? w _ h.c0
  ⟨(hb.cell (p := ⟨b, 0, none⟩) hl).trans h.c0, (hb.cell (p := ⟨b, 1, none⟩) hl).trans h.c1⟩
theorem StpAt.new (w : World) (b : Nat) (hb : b = w.heap.size) (a : Option Addr) (n c : Nat) (l : Int) (E : TypeId) : StpAt (w.alloc (.cells #[.slice a n c, .int .i64 l] E)) b a n c l :=
  ⟨(cell_top _ _ _ _ _ hb).trans rfl, (cell_top _ _ _ _ _ hb).trans rfl⟩
theorem typeB_rank {r : Int} {ts : List Int} (h : typeB r ts = true) : 1 ≤ r ∧ r ≤ 4 ∧ (ts.length : Int) = r * r := by
  simp only [typeB, Bool.and_eq_true, decide_eq_true_eq] at h
  omega

end Go.Proofs.YtnfbfdamlnjblaaGreatDoor
