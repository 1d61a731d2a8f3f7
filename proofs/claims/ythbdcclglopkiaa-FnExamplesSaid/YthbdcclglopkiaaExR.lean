/-
  ExampleAlgebra of both packages.
-/
import Derived.Test.YthbdcclglopkiaaAlg
import Derived.Test.YthbdcclglopkiaaSet
namespace Go.Proofs.Ythbdcclglopkiaa
open Go.RowKit

def exDim : Nat → Nat
  | 0 => 3 | 1 => 3 | 2 => 2 | 3 => 3 | 4 => 4 | 5 => 5 | 6 => 6 | 7 => 5 | 8 => 5 | _ => 4
def exRows : Nat → List (List Int)
  | 0 => []
  | 1 => [[0, 1, 2, 1]]
  | 2 => [[0, 1, 1, 1]]
  | 3 => [[0, 1, 2, 1], [1, 2, 0, 1], [0, 2, 1, -1]]
  | 4 => [[0, 1, 1, 1], [0, 2, 2, -1], [1, 2, 3, 1]]
  | 5 => [[0, 1, 2, 1], [0, 2, 3, 1], [0, 3, 4, 1]]
  | 6 => [[0, 1, 1, 1], [0, 2, 2, 1], [0, 3, 3, 2], [1, 2, 3, 1], [0, 4, 5, 1]]
  | 7 => [[0, 1, 1, 2], [0, 2, 2, -2], [1, 2, 0, 1], [0, 3, 3, 1], [0, 4, 4, -1], [1, 4, 3, 1], [2, 3, 4, 1]]
  | 8 => [[0, 1, 4, 1], [2, 3, 4, 1]]
  | _ => [[0, 1, 1, 1], [0, 2, 2, 1], [0, 3, 3, 1]]

def L12RowsSays (k : Nat) (w : World) : Prop := Calls Try.prog 68 #[.int .i64 k] w fun e w' => ∃ a c, e = .returned (.tuple #[.int .i64 (exDim k), .slice a (exRows k).length c]) ∧ RowsAt w' a (exRows k).length (exRows k) ∧ Ext w w'
set_option maxHeartbeats 1000000 in
theorem l12Rows_0 (w : World) : L12RowsSays 0 w := by
  unfold L12RowsSays
  go_enter Try.func68, Try.ntmps68
  go_wp2
  go_ret2
  exact ⟨none, 0, rfl, ⟨rfl, fun i hi => absurd hi (by simp [exRows])⟩, Ext.refl w⟩

set_option maxHeartbeats 1000000 in
theorem l12Rows_1 (w : World) : L12RowsSays 1 w := by
  unfold L12RowsSays
  have i0 := ints_allocAt w [0, 1, 2, 1] 3 (w.heap.size) (by simp)
  have I0 := hidP (i0.below (((Ext.refl _).trans (Ext.alloc _ _)) : Ext _ ((w.alloc (.cells (ivs [0, 1, 2, 1]).toArray 3)).alloc (.cells #[Value.slice (some ⟨w.heap.size, 0, none⟩) 4 4] 22))))
  have X := hidP ((((Ext.refl _).trans (Ext.alloc _ _)).trans (Ext.alloc _ _)) : Ext w ((w.alloc (.cells (ivs [0, 1, 2, 1]).toArray 3)).alloc (.cells #[Value.slice (some ⟨w.heap.size, 0, none⟩) 4 4] 22)))
  clear i0
  go_enter Try.func68, Try.ntmps68
  go_wp2
  go_ret2
  refine ⟨some ⟨w.heap.size + 1, 0, none⟩, 1, rfl, ⟨rfl, fun i hi => ?_⟩, X.out⟩
  simp only [exRows, List.length_cons, List.length_nil] at hi
  rcases i with _ | i
  · exact ⟨_, 0, _, 4, rfl, (cell_top _ _ _ _ _ (by simp)).trans rfl, I0.out⟩
  · omega

set_option maxHeartbeats 1000000 in
theorem l12Rows_2 (w : World) : L12RowsSays 2 w := by
  unfold L12RowsSays
  have i0 := ints_allocAt w [0, 1, 1, 1] 3 (w.heap.size) (by simp)
  have I0 := hidP (i0.below (((Ext.refl _).trans (Ext.alloc _ _)) : Ext _ ((w.alloc (.cells (ivs [0, 1, 1, 1]).toArray 3)).alloc (.cells #[Value.slice (some ⟨w.heap.size, 0, none⟩) 4 4] 22))))
  have X := hidP ((((Ext.refl _).trans (Ext.alloc _ _)).trans (Ext.alloc _ _)) : Ext w ((w.alloc (.cells (ivs [0, 1, 1, 1]).toArray 3)).alloc (.cells #[Value.slice (some ⟨w.heap.size, 0, none⟩) 4 4] 22)))
  clear i0
  go_enter Try.func68, Try.ntmps68
  go_wp2
  go_ret2
  refine ⟨some ⟨w.heap.size + 1, 0, none⟩, 1, rfl, ⟨rfl, fun i hi => ?_⟩, X.out⟩
  simp only [exRows, List.length_cons, List.length_nil] at hi
  rcases i with _ | i
  · exact ⟨_, 0, _, 4, rfl, (cell_top _ _ _ _ _ (by simp)).trans rfl, I0.out⟩
  · omega

set_option maxHeartbeats 1000000 in
theorem l12Rows_3 (w : World) : L12RowsSays 3 w := by
  unfold L12RowsSays
  have i0 := ints_allocAt w [0, 1, 2, 1] 3 (w.heap.size) (by simp)
  have i1 := ints_allocAt (w.alloc (.cells (ivs [0, 1, 2, 1]).toArray 3)) [1, 2, 0, 1] 3 (w.heap.size + 1) (by simp)
  have i2 := ints_allocAt ((w.alloc (.cells (ivs [0, 1, 2, 1]).toArray 3)).alloc (.cells (ivs [1, 2, 0, 1]).toArray 3)) [0, 2, 1, -1] 3 (w.heap.size + 1 + 1) (by simp)
  have I0 := hidP (i0.below (((((Ext.refl _).trans (Ext.alloc _ _)).trans (Ext.alloc _ _)).trans (Ext.alloc _ _)) : Ext _ ((((w.alloc (.cells (ivs [0, 1, 2, 1]).toArray 3)).alloc (.cells (ivs [1, 2, 0, 1]).toArray 3)).alloc (.cells (ivs [0, 2, 1, -1]).toArray 3)).alloc (.cells #[Value.slice (some ⟨w.heap.size, 0, none⟩) 4 4, Value.slice (some ⟨w.heap.size + 1, 0, none⟩) 4 4, Value.slice (some ⟨w.heap.size + 1 + 1, 0, none⟩) 4 4] 22))))
  have I1 := hidP (i1.below ((((Ext.refl _).trans (Ext.alloc _ _)).trans (Ext.alloc _ _)) : Ext _ ((((w.alloc (.cells (ivs [0, 1, 2, 1]).toArray 3)).alloc (.cells (ivs [1, 2, 0, 1]).toArray 3)).alloc (.cells (ivs [0, 2, 1, -1]).toArray 3)).alloc (.cells #[Value.slice (some ⟨w.heap.size, 0, none⟩) 4 4, Value.slice (some ⟨w.heap.size + 1, 0, none⟩) 4 4, Value.slice (some ⟨w.heap.size + 1 + 1, 0, none⟩) 4 4] 22))))
  have I2 := hidP (i2.below (((Ext.refl _).trans (Ext.alloc _ _)) : Ext _ ((((w.alloc (.cells (ivs [0, 1, 2, 1]).toArray 3)).alloc (.cells (ivs [1, 2, 0, 1]).toArray 3)).alloc (.cells (ivs [0, 2, 1, -1]).toArray 3)).alloc (.cells #[Value.slice (some ⟨w.heap.size, 0, none⟩) 4 4, Value.slice (some ⟨w.heap.size + 1, 0, none⟩) 4 4, Value.slice (some ⟨w.heap.size + 1 + 1, 0, none⟩) 4 4] 22))))
  have X := hidP ((((((Ext.refl _).trans (Ext.alloc _ _)).trans (Ext.alloc _ _)).trans (Ext.alloc _ _)).trans (Ext.alloc _ _)) : Ext w ((((w.alloc (.cells (ivs [0, 1, 2, 1]).toArray 3)).alloc (.cells (ivs [1, 2, 0, 1]).toArray 3)).alloc (.cells (ivs [0, 2, 1, -1]).toArray 3)).alloc (.cells #[Value.slice (some ⟨w.heap.size, 0, none⟩) 4 4, Value.slice (some ⟨w.heap.size + 1, 0, none⟩) 4 4, Value.slice (some ⟨w.heap.size + 1 + 1, 0, none⟩) 4 4] 22)))
  clear i0 i1 i2
  go_enter Try.func68, Try.ntmps68
  go_wp2
  go_ret2
  refine ⟨some ⟨w.heap.size + 1 + 1 + 1, 0, none⟩, 3, rfl, ⟨rfl, fun i hi => ?_⟩, X.out⟩
  simp only [exRows, List.length_cons, List.length_nil] at hi
  rcases i with _ | _ | _ | i
  · exact ⟨_, 0, _, 4, rfl, (cell_top _ _ _ _ _ (by simp)).trans rfl, I0.out⟩
  · exact ⟨_, 0, _, 4, rfl, (cell_top _ _ _ _ _ (by simp)).trans rfl, I1.out⟩
  · exact ⟨_, 0, _, 4, rfl, (cell_top _ _ _ _ _ (by simp)).trans rfl, I2.out⟩
  · omega

set_option maxHeartbeats 1000000 in
theorem l12Rows_4 (w : World) : L12RowsSays 4 w := by
  unfold L12RowsSays
  have i0 := ints_allocAt w [0, 1, 1, 1] 3 (w.heap.size) (by simp)
  have i1 := ints_allocAt (w.alloc (.cells (ivs [0, 1, 1, 1]).toArray 3)) [0, 2, 2, -1] 3 (w.heap.size + 1) (by simp)
  have i2 := ints_allocAt ((w.alloc (.cells (ivs [0, 1, 1, 1]).toArray 3)).alloc (.cells (ivs [0, 2, 2, -1]).toArray 3)) [1, 2, 3, 1] 3 (w.heap.size + 1 + 1) (by simp)
  have I0 := hidP (i0.below (((((Ext.refl _).trans (Ext.alloc _ _)).trans (Ext.alloc _ _)).trans (Ext.alloc _ _)) : Ext _ ((((w.alloc (.cells (ivs [0, 1, 1, 1]).toArray 3)).alloc (.cells (ivs [0, 2, 2, -1]).toArray 3)).alloc (.cells (ivs [1, 2, 3, 1]).toArray 3)).alloc (.cells #[Value.slice (some ⟨w.heap.size, 0, none⟩) 4 4, Value.slice (some ⟨w.heap.size + 1, 0, none⟩) 4 4, Value.slice (some ⟨w.heap.size + 1 + 1, 0, none⟩) 4 4] 22))))
  have I1 := hidP (i1.below ((((Ext.refl _).trans (Ext.alloc _ _)).trans (Ext.alloc _ _)) : Ext _ ((((w.alloc (.cells (ivs [0, 1, 1, 1]).toArray 3)).alloc (.cells (ivs [0, 2, 2, -1]).toArray 3)).alloc (.cells (ivs [1, 2, 3, 1]).toArray 3)).alloc (.cells #[Value.slice (some ⟨w.heap.size, 0, none⟩) 4 4, Value.slice (some ⟨w.heap.size + 1, 0, none⟩) 4 4, Value.slice (some ⟨w.heap.size + 1 + 1, 0, none⟩) 4 4] 22))))
  have I2 := hidP (i2.below (((Ext.refl _).trans (Ext.alloc _ _)) : Ext _ ((((w.alloc (.cells (ivs [0, 1, 1, 1]).toArray 3)).alloc (.cells (ivs [0, 2, 2, -1]).toArray 3)).alloc (.cells (ivs [1, 2, 3, 1]).toArray 3)).alloc (.cells #[Value.slice (some ⟨w.heap.size, 0, none⟩) 4 4, Value.slice (some ⟨w.heap.size + 1, 0, none⟩) 4 4, Value.slice (some ⟨w.heap.size + 1 + 1, 0, none⟩) 4 4] 22))))
  have X := hidP ((((((Ext.refl _).trans (Ext.alloc _ _)).trans (Ext.alloc _ _)).trans (Ext.alloc _ _)).trans (Ext.alloc _ _)) : Ext w ((((w.alloc (.cells (ivs [0, 1, 1, 1]).toArray 3)).alloc (.cells (ivs [0, 2, 2, -1]).toArray 3)).alloc (.cells (ivs [1, 2, 3, 1]).toArray 3)).alloc (.cells #[Value.slice (some ⟨w.heap.size, 0, none⟩) 4 4, Value.slice (some ⟨w.heap.size + 1, 0, none⟩) 4 4, Value.slice (some ⟨w.heap.size + 1 + 1, 0, none⟩) 4 4] 22)))
  clear i0 i1 i2
  go_enter Try.func68, Try.ntmps68
  go_wp2
  go_ret2
  refine ⟨some ⟨w.heap.size + 1 + 1 + 1, 0, none⟩, 3, rfl, ⟨rfl, fun i hi => ?_⟩, X.out⟩
  simp only [exRows, List.length_cons, List.length_nil] at hi
  rcases i with _ | _ | _ | i
  · exact ⟨_, 0, _, 4, rfl, (cell_top _ _ _ _ _ (by simp)).trans rfl, I0.out⟩
  · exact ⟨_, 0, _, 4, rfl, (cell_top _ _ _ _ _ (by simp)).trans rfl, I1.out⟩
  · exact ⟨_, 0, _, 4, rfl, (cell_top _ _ _ _ _ (by simp)).trans rfl, I2.out⟩
  · omega

set_option maxHeartbeats 1000000 in
theorem l12Rows_5 (w : World) : L12RowsSays 5 w := by
  unfold L12RowsSays
  have i0 := ints_allocAt w [0, 1, 2, 1] 3 (w.heap.size) (by simp)
  have i1 := ints_allocAt (w.alloc (.cells (ivs [0, 1, 2, 1]).toArray 3)) [0, 2, 3, 1] 3 (w.heap.size + 1) (by simp)
  have i2 := ints_allocAt ((w.alloc (.cells (ivs [0, 1, 2, 1]).toArray 3)).alloc (.cells (ivs [0, 2, 3, 1]).toArray 3)) [0, 3, 4, 1] 3 (w.heap.size + 1 + 1) (by simp)
  have I0 := hidP (i0.below (((((Ext.refl _).trans (Ext.alloc _ _)).trans (Ext.alloc _ _)).trans (Ext.alloc _ _)) : Ext _ ((((w.alloc (.cells (ivs [0, 1, 2, 1]).toArray 3)).alloc (.cells (ivs [0, 2, 3, 1]).toArray 3)).alloc (.cells (ivs [0, 3, 4, 1]).toArray 3)).alloc (.cells #[Value.slice (some ⟨w.heap.size, 0, none⟩) 4 4, Value.slice (some ⟨w.heap.size + 1, 0, none⟩) 4 4, Value.slice (some ⟨w.heap.size + 1 + 1, 0, none⟩) 4 4] 22))))
  have I1 := hidP (i1.below ((((Ext.refl _).trans (Ext.alloc _ _)).trans (Ext.alloc _ _)) : Ext _ ((((w.alloc (.cells (ivs [0, 1, 2, 1]).toArray 3)).alloc (.cells (ivs [0, 2, 3, 1]).toArray 3)).alloc (.cells (ivs [0, 3, 4, 1]).toArray 3)).alloc (.cells #[Value.slice (some ⟨w.heap.size, 0, none⟩) 4 4, Value.slice (some ⟨w.heap.size + 1, 0, none⟩) 4 4, Value.slice (some ⟨w.heap.size + 1 + 1, 0, none⟩) 4 4] 22))))
  have I2 := hidP (i2.below (((Ext.refl _).trans (Ext.alloc _ _)) : Ext _ ((((w.alloc (.cells (ivs [0, 1, 2, 1]).toArray 3)).alloc (.cells (ivs [0, 2, 3, 1]).toArray 3)).alloc (.cells (ivs [0, 3, 4, 1]).toArray 3)).alloc (.cells #[Value.slice (some ⟨w.heap.size, 0, none⟩) 4 4, Value.slice (some ⟨w.heap.size + 1, 0, none⟩) 4 4, Value.slice (some ⟨w.heap.size + 1 + 1, 0, none⟩) 4 4] 22))))
  have X := hidP ((((((Ext.refl _).trans (Ext.alloc _ _)).trans (Ext.alloc _ _)).trans (Ext.alloc _ _)).trans (Ext.alloc _ _)) : Ext w ((((w.alloc (.cells (ivs [0, 1, 2, 1]).toArray 3)).alloc (.cells (ivs [0, 2, 3, 1]).toArray 3)).alloc (.cells (ivs [0, 3, 4, 1]).toArray 3)).alloc (.cells #[Value.slice (some ⟨w.heap.size, 0, none⟩) 4 4, Value.slice (some ⟨w.heap.size + 1, 0, none⟩) 4 4, Value.slice (some ⟨w.heap.size + 1 + 1, 0, none⟩) 4 4] 22)))
  clear i0 i1 i2
  go_enter Try.func68, Try.ntmps68
  go_wp2
  go_ret2
  refine ⟨some ⟨w.heap.size + 1 + 1 + 1, 0, none⟩, 3, rfl, ⟨rfl, fun i hi => ?_⟩, X.out⟩
  simp only [exRows, List.length_cons, List.length_nil] at hi
  rcases i with _ | _ | _ | i
  · exact ⟨_, 0, _, 4, rfl, (cell_top _ _ _ _ _ (by simp)).trans rfl, I0.out⟩
  · exact ⟨_, 0, _, 4, rfl, (cell_top _ _ _ _ _ (by simp)).trans rfl, I1.out⟩
  · exact ⟨_, 0, _, 4, rfl, (cell_top _ _ _ _ _ (by simp)).trans rfl, I2.out⟩
  · omega

set_option maxHeartbeats 1000000 in
theorem l12Rows_6 (w : World) : L12RowsSays 6 w := by
  unfold L12RowsSays
  have i0 := ints_allocAt w [0, 1, 1, 1] 3 (w.heap.size) (by simp)
  have i1 := ints_allocAt (w.alloc (.cells (ivs [0, 1, 1, 1]).toArray 3)) [0, 2, 2, 1] 3 (w.heap.size + 1) (by simp)
  have i2 := ints_allocAt ((w.alloc (.cells (ivs [0, 1, 1, 1]).toArray 3)).alloc (.cells (ivs [0, 2, 2, 1]).toArray 3)) [0, 3, 3, 2] 3 (w.heap.size + 1 + 1) (by simp)
  have i3 := ints_allocAt (((w.alloc (.cells (ivs [0, 1, 1, 1]).toArray 3)).alloc (.cells (ivs [0, 2, 2, 1]).toArray 3)).alloc (.cells (ivs [0, 3, 3, 2]).toArray 3)) [1, 2, 3, 1] 3 (w.heap.size + 1 + 1 + 1) (by simp)
  have i4 := ints_allocAt ((((w.alloc (.cells (ivs [0, 1, 1, 1]).toArray 3)).alloc (.cells (ivs [0, 2, 2, 1]).toArray 3)).alloc (.cells (ivs [0, 3, 3, 2]).toArray 3)).alloc (.cells (ivs [1, 2, 3, 1]).toArray 3)) [0, 4, 5, 1] 3 (w.heap.size + 1 + 1 + 1 + 1) (by simp)
  have I0 := hidP (i0.below (((((((Ext.refl _).trans (Ext.alloc _ _)).trans (Ext.alloc _ _)).trans (Ext.alloc _ _)).trans (Ext.alloc _ _)).trans (Ext.alloc _ _)) : Ext _ ((((((w.alloc (.cells (ivs [0, 1, 1, 1]).toArray 3)).alloc (.cells (ivs [0, 2, 2, 1]).toArray 3)).alloc (.cells (ivs [0, 3, 3, 2]).toArray 3)).alloc (.cells (ivs [1, 2, 3, 1]).toArray 3)).alloc (.cells (ivs [0, 4, 5, 1]).toArray 3)).alloc (.cells #[Value.slice (some ⟨w.heap.size, 0, none⟩) 4 4, Value.slice (some ⟨w.heap.size + 1, 0, none⟩) 4 4, Value.slice (some ⟨w.heap.size + 1 + 1, 0, none⟩) 4 4, Value.slice (some ⟨w.heap.size + 1 + 1 + 1, 0, none⟩) 4 4, Value.slice (some ⟨w.heap.size + 1 + 1 + 1 + 1, 0, none⟩) 4 4] 22))))
  have I1 := hidP (i1.below ((((((Ext.refl _).trans (Ext.alloc _ _)).trans (Ext.alloc _ _)).trans (Ext.alloc _ _)).trans (Ext.alloc _ _)) : Ext _ ((((((w.alloc (.cells (ivs [0, 1, 1, 1]).toArray 3)).alloc (.cells (ivs [0, 2, 2, 1]).toArray 3)).alloc (.cells (ivs [0, 3, 3, 2]).toArray 3)).alloc (.cells (ivs [1, 2, 3, 1]).toArray 3)).alloc (.cells (ivs [0, 4, 5, 1]).toArray 3)).alloc (.cells #[Value.slice (some ⟨w.heap.size, 0, none⟩) 4 4, Value.slice (some ⟨w.heap.size + 1, 0, none⟩) 4 4, Value.slice (some ⟨w.heap.size + 1 + 1, 0, none⟩) 4 4, Value.slice (some ⟨w.heap.size + 1 + 1 + 1, 0, none⟩) 4 4, Value.slice (some ⟨w.heap.size + 1 + 1 + 1 + 1, 0, none⟩) 4 4] 22))))
  have I2 := hidP (i2.below (((((Ext.refl _).trans (Ext.alloc _ _)).trans (Ext.alloc _ _)).trans (Ext.alloc _ _)) : Ext _ ((((((w.alloc (.cells (ivs [0, 1, 1, 1]).toArray 3)).alloc (.cells (ivs [0, 2, 2, 1]).toArray 3)).alloc (.cells (ivs [0, 3, 3, 2]).toArray 3)).alloc (.cells (ivs [1, 2, 3, 1]).toArray 3)).alloc (.cells (ivs [0, 4, 5, 1]).toArray 3)).alloc (.cells #[Value.slice (some ⟨w.heap.size, 0, none⟩) 4 4, Value.slice (some ⟨w.heap.size + 1, 0, none⟩) 4 4, Value.slice (some ⟨w.heap.size + 1 + 1, 0, none⟩) 4 4, Value.slice (some ⟨w.heap.size + 1 + 1 + 1, 0, none⟩) 4 4, Value.slice (some ⟨w.heap.size + 1 + 1 + 1 + 1, 0, none⟩) 4 4] 22))))
  have I3 := hidP (i3.below ((((Ext.refl _).trans (Ext.alloc _ _)).trans (Ext.alloc _ _)) : Ext _ ((((((w.alloc (.cells (ivs [0, 1, 1, 1]).toArray 3)).alloc (.cells (ivs [0, 2, 2, 1]).toArray 3)).alloc (.cells (ivs [0, 3, 3, 2]).toArray 3)).alloc (.cells (ivs [1, 2, 3, 1]).toArray 3)).alloc (.cells (ivs [0, 4, 5, 1]).toArray 3)).alloc (.cells #[Value.slice (some ⟨w.heap.size, 0, none⟩) 4 4, Value.slice (some ⟨w.heap.size + 1, 0, none⟩) 4 4, Value.slice (some ⟨w.heap.size + 1 + 1, 0, none⟩) 4 4, Value.slice (some ⟨w.heap.size + 1 + 1 + 1, 0, none⟩) 4 4, Value.slice (some ⟨w.heap.size + 1 + 1 + 1 + 1, 0, none⟩) 4 4] 22))))
  have I4 := hidP (i4.below (((Ext.refl _).trans (Ext.alloc _ _)) : Ext _ ((((((w.alloc (.cells (ivs [0, 1, 1, 1]).toArray 3)).alloc (.cells (ivs [0, 2, 2, 1]).toArray 3)).alloc (.cells (ivs [0, 3, 3, 2]).toArray 3)).alloc (.cells (ivs [1, 2, 3, 1]).toArray 3)).alloc (.cells (ivs [0, 4, 5, 1]).toArray 3)).alloc (.cells #[Value.slice (some ⟨w.heap.size, 0, none⟩) 4 4, Value.slice (some ⟨w.heap.size + 1, 0, none⟩) 4 4, Value.slice (some ⟨w.heap.size + 1 + 1, 0, none⟩) 4 4, Value.slice (some ⟨w.heap.size + 1 + 1 + 1, 0, none⟩) 4 4, Value.slice (some ⟨w.heap.size + 1 + 1 + 1 + 1, 0, none⟩) 4 4] 22))))
  have X := hidP ((((((((Ext.refl _).trans (Ext.alloc _ _)).trans (Ext.alloc _ _)).trans (Ext.alloc _ _)).trans (Ext.alloc _ _)).trans (Ext.alloc _ _)).trans (Ext.alloc _ _)) : Ext w ((((((w.alloc (.cells (ivs [0, 1, 1, 1]).toArray 3)).alloc (.cells (ivs [0, 2, 2, 1]).toArray 3)).alloc (.cells (ivs [0, 3, 3, 2]).toArray 3)).alloc (.cells (ivs [1, 2, 3, 1]).toArray 3)).alloc (.cells (ivs [0, 4, 5, 1]).toArray 3)).alloc (.cells #[Value.slice (some ⟨w.heap.size, 0, none⟩) 4 4, Value.slice (some ⟨w.heap.size + 1, 0, none⟩) 4 4, Value.slice (some ⟨w.heap.size + 1 + 1, 0, none⟩) 4 4, Value.slice (some ⟨w.heap.size + 1 + 1 + 1, 0, none⟩) 4 4, Value.slice (some ⟨w.heap.size + 1 + 1 + 1 + 1, 0, none⟩) 4 4] 22)))
  clear i0 i1 i2 i3 i4
  go_enter Try.func68, Try.ntmps68
  go_wp2
  go_ret2
  refine ⟨some ⟨w.heap.size + 1 + 1 + 1 + 1 + 1, 0, none⟩, 5, rfl, ⟨rfl, fun i hi => ?_⟩, X.out⟩
  simp only [exRows, List.length_cons, List.length_nil] at hi
  rcases i with _ | _ | _ | _ | _ | i
  · exact ⟨_, 0, _, 4, rfl, (cell_top _ _ _ _ _ (by simp)).trans rfl, I0.out⟩
  · exact ⟨_, 0, _, 4, rfl, (cell_top _ _ _ _ _ (by simp)).trans rfl, I1.out⟩
  · exact ⟨_, 0, _, 4, rfl, (cell_top _ _ _ _ _ (by simp)).trans rfl, I2.out⟩
  · exact ⟨_, 0, _, 4, rfl, (cell_top _ _ _ _ _ (by simp)).trans rfl, I3.out⟩
  · exact ⟨_, 0, _, 4, rfl, (cell_top _ _ _ _ _ (by simp)).trans rfl, I4.out⟩
  · omega

set_option maxHeartbeats 1000000 in
theorem l12Rows_7 (w : World) : L12RowsSays 7 w := by
  unfold L12RowsSays
  have i0 := ints_allocAt w [0, 1, 1, 2] 3 (w.heap.size) (by simp)
  have i1 := ints_allocAt (w.alloc (.cells (ivs [0, 1, 1, 2]).toArray 3)) [0, 2, 2, -2] 3 (w.heap.size + 1) (by simp)
  have i2 := ints_allocAt ((w.alloc (.cells (ivs [0, 1, 1, 2]).toArray 3)).alloc (.cells (ivs [0, 2, 2, -2]).toArray 3)) [1, 2, 0, 1] 3 (w.heap.size + 1 + 1) (by simp)
  have i3 := ints_allocAt (((w.alloc (.cells (ivs [0, 1, 1, 2]).toArray 3)).alloc (.cells (ivs [0, 2, 2, -2]).toArray 3)).alloc (.cells (ivs [1, 2, 0, 1]).toArray 3)) [0, 3, 3, 1] 3 (w.heap.size + 1 + 1 + 1) (by simp)
  have i4 := ints_allocAt ((((w.alloc (.cells (ivs [0, 1, 1, 2]).toArray 3)).alloc (.cells (ivs [0, 2, 2, -2]).toArray 3)).alloc (.cells (ivs [1, 2, 0, 1]).toArray 3)).alloc (.cells (ivs [0, 3, 3, 1]).toArray 3)) [0, 4, 4, -1] 3 (w.heap.size + 1 + 1 + 1 + 1) (by simp)
  have i5 := ints_allocAt (((((w.alloc (.cells (ivs [0, 1, 1, 2]).toArray 3)).alloc (.cells (ivs [0, 2, 2, -2]).toArray 3)).alloc (.cells (ivs [1, 2, 0, 1]).toArray 3)).alloc (.cells (ivs [0, 3, 3, 1]).toArray 3)).alloc (.cells (ivs [0, 4, 4, -1]).toArray 3)) [1, 4, 3, 1] 3 (w.heap.size + 1 + 1 + 1 + 1 + 1) (by simp)
  have i6 := ints_allocAt ((((((w.alloc (.cells (ivs [0, 1, 1, 2]).toArray 3)).alloc (.cells (ivs [0, 2, 2, -2]).toArray 3)).alloc (.cells (ivs [1, 2, 0, 1]).toArray 3)).alloc (.cells (ivs [0, 3, 3, 1]).toArray 3)).alloc (.cells (ivs [0, 4, 4, -1]).toArray 3)).alloc (.cells (ivs [1, 4, 3, 1]).toArray 3)) [2, 3, 4, 1] 3 (w.heap.size + 1 + 1 + 1 + 1 + 1 + 1) (by simp)
  have I0 := hidP (i0.below (((((((((Ext.refl _).trans (Ext.alloc _ _)).trans (Ext.alloc _ _)).trans (Ext.alloc _ _)).trans (Ext.alloc _ _)).trans (Ext.alloc _ _)).trans (Ext.alloc _ _)).trans (Ext.alloc _ _)) : Ext _ ((((((((w.alloc (.cells (ivs [0, 1, 1, 2]).toArray 3)).alloc (.cells (ivs [0, 2, 2, -2]).toArray 3)).alloc (.cells (ivs [1, 2, 0, 1]).toArray 3)).alloc (.cells (ivs [0, 3, 3, 1]).toArray 3)).alloc (.cells (ivs [0, 4, 4, -1]).toArray 3)).alloc (.cells (ivs [1, 4, 3, 1]).toArray 3)).alloc (.cells (ivs [2, 3, 4, 1]).toArray 3)).alloc (.cells #[Value.slice (some ⟨w.heap.size, 0, none⟩) 4 4, Value.slice (some ⟨w.heap.size + 1, 0, none⟩) 4 4, Value.slice (some ⟨w.heap.size + 1 + 1, 0, none⟩) 4 4, Value.slice (some ⟨w.heap.size + 1 + 1 + 1, 0, none⟩) 4 4, Value.slice (some ⟨w.heap.size + 1 + 1 + 1 + 1, 0, none⟩) 4 4, Value.slice (some ⟨w.heap.size + 1 + 1 + 1 + 1 + 1, 0, none⟩) 4 4, Value.slice (some ⟨w.heap.size + 1 + 1 + 1 + 1 + 1 + 1, 0, none⟩) 4 4] 22))))
  have I1 := hidP (i1.below ((((((((Ext.refl _).trans (Ext.alloc _ _)).trans (Ext.alloc _ _)).trans (Ext.alloc _ _)).trans (Ext.alloc _ _)).trans (Ext.alloc _ _)).trans (Ext.alloc _ _)) : Ext _ ((((((((w.alloc (.cells (ivs [0, 1, 1, 2]).toArray 3)).alloc (.cells (ivs [0, 2, 2, -2]).toArray 3)).alloc (.cells (ivs [1, 2, 0, 1]).toArray 3)).alloc (.cells (ivs [0, 3, 3, 1]).toArray 3)).alloc (.cells (ivs [0, 4, 4, -1]).toArray 3)).alloc (.cells (ivs [1, 4, 3, 1]).toArray 3)).alloc (.cells (ivs [2, 3, 4, 1]).toArray 3)).alloc (.cells #[Value.slice (some ⟨w.heap.size, 0, none⟩) 4 4, Value.slice (some ⟨w.heap.size + 1, 0, none⟩) 4 4, Value.slice (some ⟨w.heap.size + 1 + 1, 0, none⟩) 4 4, Value.slice (some ⟨w.heap.size + 1 + 1 + 1, 0, none⟩) 4 4, Value.slice (some ⟨w.heap.size + 1 + 1 + 1 + 1, 0, none⟩) 4 4, Value.slice (some ⟨w.heap.size + 1 + 1 + 1 + 1 + 1, 0, none⟩) 4 4, Value.slice (some ⟨w.heap.size + 1 + 1 + 1 + 1 + 1 + 1, 0, none⟩) 4 4] 22))))
  have I2 := hidP (i2.below (((((((Ext.refl _).trans (Ext.alloc _ _)).trans (Ext.alloc _ _)).trans (Ext.alloc _ _)).trans (Ext.alloc _ _)).trans (Ext.alloc _ _)) : Ext _ ((((((((w.alloc (.cells (ivs [0, 1, 1, 2]).toArray 3)).alloc (.cells (ivs [0, 2, 2, -2]).toArray 3)).alloc (.cells (ivs [1, 2, 0, 1]).toArray 3)).alloc (.cells (ivs [0, 3, 3, 1]).toArray 3)).alloc (.cells (ivs [0, 4, 4, -1]).toArray 3)).alloc (.cells (ivs [1, 4, 3, 1]).toArray 3)).alloc (.cells (ivs [2, 3, 4, 1]).toArray 3)).alloc (.cells #[Value.slice (some ⟨w.heap.size, 0, none⟩) 4 4, Value.slice (some ⟨w.heap.size + 1, 0, none⟩) 4 4, Value.slice (some ⟨w.heap.size + 1 + 1, 0, none⟩) 4 4, Value.slice (some ⟨w.heap.size + 1 + 1 + 1, 0, none⟩) 4 4, Value.slice (some ⟨w.heap.size + 1 + 1 + 1 + 1, 0, none⟩) 4 4, Value.slice (some ⟨w.heap.size + 1 + 1 + 1 + 1 + 1, 0, none⟩) 4 4, Value.slice (some ⟨w.heap.size + 1 + 1 + 1 + 1 + 1 + 1, 0, none⟩) 4 4] 22))))
  have I3 := hidP (i3.below ((((((Ext.refl _).trans (Ext.alloc _ _)).trans (Ext.alloc _ _)).trans (Ext.alloc _ _)).trans (Ext.alloc _ _)) : Ext _ ((((((((w.alloc (.cells (ivs [0, 1, 1, 2]).toArray 3)).alloc (.cells (ivs [0, 2, 2, -2]).toArray 3)).alloc (.cells (ivs [1, 2, 0, 1]).toArray 3)).alloc (.cells (ivs [0, 3, 3, 1]).toArray 3)).alloc (.cells (ivs [0, 4, 4, -1]).toArray 3)).alloc (.cells (ivs [1, 4, 3, 1]).toArray 3)).alloc (.cells (ivs [2, 3, 4, 1]).toArray 3)).alloc (.cells #[Value.slice (some ⟨w.heap.size, 0, none⟩) 4 4, Value.slice (some ⟨w.heap.size + 1, 0, none⟩) 4 4, Value.slice (some ⟨w.heap.size + 1 + 1, 0, none⟩) 4 4, Value.slice (some ⟨w.heap.size + 1 + 1 + 1, 0, none⟩) 4 4, Value.slice (some ⟨w.heap.size + 1 + 1 + 1 + 1, 0, none⟩) 4 4, Value.slice (some ⟨w.heap.size + 1 + 1 + 1 + 1 + 1, 0, none⟩) 4 4, Value.slice (some ⟨w.heap.size + 1 + 1 + 1 + 1 + 1 + 1, 0, none⟩) 4 4] 22))))
  have I4 := hidP (i4.below (((((Ext.refl _).trans (Ext.alloc _ _)).trans (Ext.alloc _ _)).trans (Ext.alloc _ _)) : Ext _ ((((((((w.alloc (.cells (ivs [0, 1, 1, 2]).toArray 3)).alloc (.cells (ivs [0, 2, 2, -2]).toArray 3)).alloc (.cells (ivs [1, 2, 0, 1]).toArray 3)).alloc (.cells (ivs [0, 3, 3, 1]).toArray 3)).alloc (.cells (ivs [0, 4, 4, -1]).toArray 3)).alloc (.cells (ivs [1, 4, 3, 1]).toArray 3)).alloc (.cells (ivs [2, 3, 4, 1]).toArray 3)).alloc (.cells #[Value.slice (some ⟨w.heap.size, 0, none⟩) 4 4, Value.slice (some ⟨w.heap.size + 1, 0, none⟩) 4 4, Value.slice (some ⟨w.heap.size + 1 + 1, 0, none⟩) 4 4, Value.slice (some ⟨w.heap.size + 1 + 1 + 1, 0, none⟩) 4 4, Value.slice (some ⟨w.heap.size + 1 + 1 + 1 + 1, 0, none⟩) 4 4, Value.slice (some ⟨w.heap.size + 1 + 1 + 1 + 1 + 1, 0, none⟩) 4 4, Value.slice (some ⟨w.heap.size + 1 + 1 + 1 + 1 + 1 + 1, 0, none⟩) 4 4] 22))))
  have I5 := hidP (i5.below ((((Ext.refl _).trans (Ext.alloc _ _)).trans (Ext.alloc _ _)) : Ext _ ((((((((w.alloc (.cells (ivs [0, 1, 1, 2]).toArray 3)).alloc (.cells (ivs [0, 2, 2, -2]).toArray 3)).alloc (.cells (ivs [1, 2, 0, 1]).toArray 3)).alloc (.cells (ivs [0, 3, 3, 1]).toArray 3)).alloc (.cells (ivs [0, 4, 4, -1]).toArray 3)).alloc (.cells (ivs [1, 4, 3, 1]).toArray 3)).alloc (.cells (ivs [2, 3, 4, 1]).toArray 3)).alloc (.cells #[Value.slice (some ⟨w.heap.size, 0, none⟩) 4 4, Value.slice (some ⟨w.heap.size + 1, 0, none⟩) 4 4, Value.slice (some ⟨w.heap.size + 1 + 1, 0, none⟩) 4 4, Value.slice (some ⟨w.heap.size + 1 + 1 + 1, 0, none⟩) 4 4, Value.slice (some ⟨w.heap.size + 1 + 1 + 1 + 1, 0, none⟩) 4 4, Value.slice (some ⟨w.heap.size + 1 + 1 + 1 + 1 + 1, 0, none⟩) 4 4, Value.slice (some ⟨w.heap.size + 1 + 1 + 1 + 1 + 1 + 1, 0, none⟩) 4 4] 22))))
  have I6 := hidP (i6.below (((Ext.refl _).trans (Ext.alloc _ _)) : Ext _ ((((((((w.alloc (.cells (ivs [0, 1, 1, 2]).toArray 3)).alloc (.cells (ivs [0, 2, 2, -2]).toArray 3)).alloc (.cells (ivs [1, 2, 0, 1]).toArray 3)).alloc (.cells (ivs [0, 3, 3, 1]).toArray 3)).alloc (.cells (ivs [0, 4, 4, -1]).toArray 3)).alloc (.cells (ivs [1, 4, 3, 1]).toArray 3)).alloc (.cells (ivs [2, 3, 4, 1]).toArray 3)).alloc (.cells #[Value.slice (some ⟨w.heap.size, 0, none⟩) 4 4, Value.slice (some ⟨w.heap.size + 1, 0, none⟩) 4 4, Value.slice (some ⟨w.heap.size + 1 + 1, 0, none⟩) 4 4, Value.slice (some ⟨w.heap.size + 1 + 1 + 1, 0, none⟩) 4 4, Value.slice (some ⟨w.heap.size + 1 + 1 + 1 + 1, 0, none⟩) 4 4, Value.slice (some ⟨w.heap.size + 1 + 1 + 1 + 1 + 1, 0, none⟩) 4 4, Value.slice (some ⟨w.heap.size + 1 + 1 + 1 + 1 + 1 + 1, 0, none⟩) 4 4] 22))))
  have X := hidP ((((((((((Ext.refl _).trans (Ext.alloc _ _)).trans (Ext.alloc _ _)).trans (Ext.alloc _ _)).trans (Ext.alloc _ _)).trans (Ext.alloc _ _)).trans (Ext.alloc _ _)).trans (Ext.alloc _ _)).trans (Ext.alloc _ _)) : Ext w ((((((((w.alloc (.cells (ivs [0, 1, 1, 2]).toArray 3)).alloc (.cells (ivs [0, 2, 2, -2]).toArray 3)).alloc (.cells (ivs [1, 2, 0, 1]).toArray 3)).alloc (.cells (ivs [0, 3, 3, 1]).toArray 3)).alloc (.cells (ivs [0, 4, 4, -1]).toArray 3)).alloc (.cells (ivs [1, 4, 3, 1]).toArray 3)).alloc (.cells (ivs [2, 3, 4, 1]).toArray 3)).alloc (.cells #[Value.slice (some ⟨w.heap.size, 0, none⟩) 4 4, Value.slice (some ⟨w.heap.size + 1, 0, none⟩) 4 4, Value.slice (some ⟨w.heap.size + 1 + 1, 0, none⟩) 4 4, Value.slice (some ⟨w.heap.size + 1 + 1 + 1, 0, none⟩) 4 4, Value.slice (some ⟨w.heap.size + 1 + 1 + 1 + 1, 0, none⟩) 4 4, Value.slice (some ⟨w.heap.size + 1 + 1 + 1 + 1 + 1, 0, none⟩) 4 4, Value.slice (some ⟨w.heap.size + 1 + 1 + 1 + 1 + 1 + 1, 0, none⟩) 4 4] 22)))
  clear i0 i1 i2 i3 i4 i5 i6
  go_enter Try.func68, Try.ntmps68
  go_wp2
  go_ret2
  refine ⟨some ⟨w.heap.size + 1 + 1 + 1 + 1 + 1 + 1 + 1, 0, none⟩, 7, rfl, ⟨rfl, fun i hi => ?_⟩, X.out⟩
  simp only [exRows, List.length_cons, List.length_nil] at hi
  rcases i with _ | _ | _ | _ | _ | _ | _ | i
  · exact ⟨_, 0, _, 4, rfl, (cell_top _ _ _ _ _ (by simp)).trans rfl, I0.out⟩
  · exact ⟨_, 0, _, 4, rfl, (cell_top _ _ _ _ _ (by simp)).trans rfl, I1.out⟩
  · exact ⟨_, 0, _, 4, rfl, (cell_top _ _ _ _ _ (by simp)).trans rfl, I2.out⟩
  · exact ⟨_, 0, _, 4, rfl, (cell_top _ _ _ _ _ (by simp)).trans rfl, I3.out⟩
  · exact ⟨_, 0, _, 4, rfl, (cell_top _ _ _ _ _ (by simp)).trans rfl, I4.out⟩
  · exact ⟨_, 0, _, 4, rfl, (cell_top _ _ _ _ _ (by simp)).trans rfl, I5.out⟩
  · exact ⟨_, 0, _, 4, rfl, (cell_top _ _ _ _ _ (by simp)).trans rfl, I6.out⟩
  · omega

set_option maxHeartbeats 1000000 in
theorem l12Rows_8 (w : World) : L12RowsSays 8 w := by
  unfold L12RowsSays
  have i0 := ints_allocAt w [0, 1, 4, 1] 3 (w.heap.size) (by simp)
  have i1 := ints_allocAt (w.alloc (.cells (ivs [0, 1, 4, 1]).toArray 3)) [2, 3, 4, 1] 3 (w.heap.size + 1) (by simp)
  have I0 := hidP (i0.below ((((Ext.refl _).trans (Ext.alloc _ _)).trans (Ext.alloc _ _)) : Ext _ (((w.alloc (.cells (ivs [0, 1, 4, 1]).toArray 3)).alloc (.cells (ivs [2, 3, 4, 1]).toArray 3)).alloc (.cells #[Value.slice (some ⟨w.heap.size, 0, none⟩) 4 4, Value.slice (some ⟨w.heap.size + 1, 0, none⟩) 4 4] 22))))
  have I1 := hidP (i1.below (((Ext.refl _).trans (Ext.alloc _ _)) : Ext _ (((w.alloc (.cells (ivs [0, 1, 4, 1]).toArray 3)).alloc (.cells (ivs [2, 3, 4, 1]).toArray 3)).alloc (.cells #[Value.slice (some ⟨w.heap.size, 0, none⟩) 4 4, Value.slice (some ⟨w.heap.size + 1, 0, none⟩) 4 4] 22))))
  have X := hidP (((((Ext.refl _).trans (Ext.alloc _ _)).trans (Ext.alloc _ _)).trans (Ext.alloc _ _)) : Ext w (((w.alloc (.cells (ivs [0, 1, 4, 1]).toArray 3)).alloc (.cells (ivs [2, 3, 4, 1]).toArray 3)).alloc (.cells #[Value.slice (some ⟨w.heap.size, 0, none⟩) 4 4, Value.slice (some ⟨w.heap.size + 1, 0, none⟩) 4 4] 22)))
  clear i0 i1
  go_enter Try.func68, Try.ntmps68
  go_wp2
  go_ret2
  refine ⟨some ⟨w.heap.size + 1 + 1, 0, none⟩, 2, rfl, ⟨rfl, fun i hi => ?_⟩, X.out⟩
  simp only [exRows, List.length_cons, List.length_nil] at hi
  rcases i with _ | _ | i
  · exact ⟨_, 0, _, 4, rfl, (cell_top _ _ _ _ _ (by simp)).trans rfl, I0.out⟩
  · exact ⟨_, 0, _, 4, rfl, (cell_top _ _ _ _ _ (by simp)).trans rfl, I1.out⟩
  · omega

set_option maxHeartbeats 1000000 in
theorem l12Rows_9 (w : World) : L12RowsSays 9 w := by
  unfold L12RowsSays
  have i0 := ints_allocAt w [0, 1, 1, 1] 3 (w.heap.size) (by simp)
  have i1 := ints_allocAt (w.alloc (.cells (ivs [0, 1, 1, 1]).toArray 3)) [0, 2, 2, 1] 3 (w.heap.size + 1) (by simp)
  have i2 := ints_allocAt ((w.alloc (.cells (ivs [0, 1, 1, 1]).toArray 3)).alloc (.cells (ivs [0, 2, 2, 1]).toArray 3)) [0, 3, 3, 1] 3 (w.heap.size + 1 + 1) (by simp)
  have I0 := hidP (i0.below (((((Ext.refl _).trans (Ext.alloc _ _)).trans (Ext.alloc _ _)).trans (Ext.alloc _ _)) : Ext _ ((((w.alloc (.cells (ivs [0, 1, 1, 1]).toArray 3)).alloc (.cells (ivs [0, 2, 2, 1]).toArray 3)).alloc (.cells (ivs [0, 3, 3, 1]).toArray 3)).alloc (.cells #[Value.slice (some ⟨w.heap.size, 0, none⟩) 4 4, Value.slice (some ⟨w.heap.size + 1, 0, none⟩) 4 4, Value.slice (some ⟨w.heap.size + 1 + 1, 0, none⟩) 4 4] 22))))
  have I1 := hidP (i1.below ((((Ext.refl _).trans (Ext.alloc _ _)).trans (Ext.alloc _ _)) : Ext _ ((((w.alloc (.cells (ivs [0, 1, 1, 1]).toArray 3)).alloc (.cells (ivs [0, 2, 2, 1]).toArray 3)).alloc (.cells (ivs [0, 3, 3, 1]).toArray 3)).alloc (.cells #[Value.slice (some ⟨w.heap.size, 0, none⟩) 4 4, Value.slice (some ⟨w.heap.size + 1, 0, none⟩) 4 4, Value.slice (some ⟨w.heap.size + 1 + 1, 0, none⟩) 4 4] 22))))
  have I2 := hidP (i2.below (((Ext.refl _).trans (Ext.alloc _ _)) : Ext _ ((((w.alloc (.cells (ivs [0, 1, 1, 1]).toArray 3)).alloc (.cells (ivs [0, 2, 2, 1]).toArray 3)).alloc (.cells (ivs [0, 3, 3, 1]).toArray 3)).alloc (.cells #[Value.slice (some ⟨w.heap.size, 0, none⟩) 4 4, Value.slice (some ⟨w.heap.size + 1, 0, none⟩) 4 4, Value.slice (some ⟨w.heap.size + 1 + 1, 0, none⟩) 4 4] 22))))
  have X := hidP ((((((Ext.refl _).trans (Ext.alloc _ _)).trans (Ext.alloc _ _)).trans (Ext.alloc _ _)).trans (Ext.alloc _ _)) : Ext w ((((w.alloc (.cells (ivs [0, 1, 1, 1]).toArray 3)).alloc (.cells (ivs [0, 2, 2, 1]).toArray 3)).alloc (.cells (ivs [0, 3, 3, 1]).toArray 3)).alloc (.cells #[Value.slice (some ⟨w.heap.size, 0, none⟩) 4 4, Value.slice (some ⟨w.heap.size + 1, 0, none⟩) 4 4, Value.slice (some ⟨w.heap.size + 1 + 1, 0, none⟩) 4 4] 22)))
  clear i0 i1 i2
  go_enter Try.func68, Try.ntmps68
  go_wp2
  go_ret2
  refine ⟨some ⟨w.heap.size + 1 + 1 + 1, 0, none⟩, 3, rfl, ⟨rfl, fun i hi => ?_⟩, X.out⟩
  simp only [exRows, List.length_cons, List.length_nil] at hi
  rcases i with _ | _ | _ | i
  · exact ⟨_, 0, _, 4, rfl, (cell_top _ _ _ _ _ (by simp)).trans rfl, I0.out⟩
  · exact ⟨_, 0, _, 4, rfl, (cell_top _ _ _ _ _ (by simp)).trans rfl, I1.out⟩
  · exact ⟨_, 0, _, 4, rfl, (cell_top _ _ _ _ _ (by simp)).trans rfl, I2.out⟩
  · omega
def ExBrSays (k : Nat) (w : World) : Prop := Calls Try.prog 33 #[.int .i64 k] w fun e w' => ∃ a c, e = .returned (.slice a (exRows k).length c) ∧ IntsAt w' a (exRows k).flatten.length (exRows k).flatten ∧ (∀ b o, a = some ⟨b, o, none⟩ → w.heap.size ≤ b) ∧ Ext w w'
set_option maxHeartbeats 1000000 in
theorem exBr_0 (w : World) : ExBrSays 0 w := by
  unfold ExBrSays
  go_enter Try.func33, Try.ntmps33
  go_wp2
  go_ret
  exact ⟨none, 0, rfl, IntsAt.nil _ _, fun b o e => (by cases e), Ext.refl w⟩

set_option maxHeartbeats 1000000 in
theorem exBr_1 (w : World) : ExBrSays 1 w := by
  unfold ExBrSays
  have I := hidP (ints_alloc w [0, 1, 2, 1] 51)
  go_enter Try.func33, Try.ntmps33
  go_wp2
  go_ret
  exact ⟨_, _, rfl, I.out, fun b o e => (by cases e; exact Nat.le_refl _), Ext.alloc _ _⟩

set_option maxHeartbeats 1000000 in
theorem exBr_2 (w : World) : ExBrSays 2 w := by
  unfold ExBrSays
  have I := hidP (ints_alloc w [0, 1, 1, 1] 51)
  go_enter Try.func33, Try.ntmps33
  go_wp2
  go_ret
  exact ⟨_, _, rfl, I.out, fun b o e => (by cases e; exact Nat.le_refl _), Ext.alloc _ _⟩

set_option maxHeartbeats 1000000 in
theorem exBr_3 (w : World) : ExBrSays 3 w := by
  unfold ExBrSays
  have I := hidP (ints_alloc w [0, 1, 2, 1, 1, 2, 0, 1, 0, 2, 1, -1] 51)
  go_enter Try.func33, Try.ntmps33
  go_wp2
  go_ret
  exact ⟨_, _, rfl, I.out, fun b o e => (by cases e; exact Nat.le_refl _), Ext.alloc _ _⟩

set_option maxHeartbeats 1000000 in
theorem exBr_4 (w : World) : ExBrSays 4 w := by
  unfold ExBrSays
  have I := hidP (ints_alloc w [0, 1, 1, 1, 0, 2, 2, -1, 1, 2, 3, 1] 51)
  go_enter Try.func33, Try.ntmps33
  go_wp2
  go_ret
  exact ⟨_, _, rfl, I.out, fun b o e => (by cases e; exact Nat.le_refl _), Ext.alloc _ _⟩

set_option maxHeartbeats 1000000 in
theorem exBr_5 (w : World) : ExBrSays 5 w := by
  unfold ExBrSays
  have I := hidP (ints_alloc w [0, 1, 2, 1, 0, 2, 3, 1, 0, 3, 4, 1] 51)
  go_enter Try.func33, Try.ntmps33
  go_wp2
  go_ret
  exact ⟨_, _, rfl, I.out, fun b o e => (by cases e; exact Nat.le_refl _), Ext.alloc _ _⟩

set_option maxHeartbeats 1000000 in
theorem exBr_6 (w : World) : ExBrSays 6 w := by
  unfold ExBrSays
  have I := hidP (ints_alloc w [0, 1, 1, 1, 0, 2, 2, 1, 0, 3, 3, 2, 1, 2, 3, 1, 0, 4, 5, 1] 51)
  go_enter Try.func33, Try.ntmps33
  go_wp2
  go_ret
  exact ⟨_, _, rfl, I.out, fun b o e => (by cases e; exact Nat.le_refl _), Ext.alloc _ _⟩

set_option maxHeartbeats 1000000 in
theorem exBr_7 (w : World) : ExBrSays 7 w := by
  unfold ExBrSays
  have I := hidP (ints_alloc w [0, 1, 1, 2, 0, 2, 2, -2, 1, 2, 0, 1, 0, 3, 3, 1, 0, 4, 4, -1, 1, 4, 3, 1, 2, 3, 4, 1] 51)
  go_enter Try.func33, Try.ntmps33
  go_wp2
  go_ret
  exact ⟨_, _, rfl, I.out, fun b o e => (by cases e; exact Nat.le_refl _), Ext.alloc _ _⟩

set_option maxHeartbeats 1000000 in
theorem exBr_8 (w : World) : ExBrSays 8 w := by
  unfold ExBrSays
  have I := hidP (ints_alloc w [0, 1, 4, 1, 2, 3, 4, 1] 51)
  go_enter Try.func33, Try.ntmps33
  go_wp2
  go_ret
  exact ⟨_, _, rfl, I.out, fun b o e => (by cases e; exact Nat.le_refl _), Ext.alloc _ _⟩

set_option maxHeartbeats 1000000 in
theorem exBr_9 (w : World) : ExBrSays 9 w := by
  unfold ExBrSays
  have I := hidP (ints_alloc w [0, 1, 1, 1, 0, 2, 2, 1, 0, 3, 3, 1] 51)
  go_enter Try.func33, Try.ntmps33
  go_wp2
  go_ret
  exact ⟨_, _, rfl, I.out, fun b o e => (by cases e; exact Nat.le_refl _), Ext.alloc _ _⟩
end Go.Proofs.Ythbdcclglopkiaa
