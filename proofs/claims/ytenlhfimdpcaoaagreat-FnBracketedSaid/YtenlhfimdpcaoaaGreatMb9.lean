/-
  Parts of the walk of the reference's free algebra: rows of a table of words, a list of sums of words, the algebra under way.
  A list of one path.
  Owned lists of paths: each path lies in blocks of its own.
  Append of an owned slice's elements to another one, at a single operation.
  The elimination of the reference's free algebra, plain: what is left, step by step; the table's numbers passed over. No program in sight.
  Draws of a matrix with an inverse: l12Invertible.
  The reference's table of the simple algebra A1.
  The plainest algebras of the draws are valid, for the six primes of the draws. No program in sight.
  Draws: what a draw leaves as it was; numbers out of a list, lists of numbers, matrices.
  Draws: the cursor over a code's bytes; numbers below another.
  Slices of bytes, read; the laws' own at0 and big.
  Arguments opened: slices of integers, algebras, slices of a word and a number each; what a call that only makes memory leaves readable.
  ExampleAlgebra of both packages.
  ExampleAlgebra of both packages.
  Example algebras: l7Set, l12Rows, l12Example, exampleBrackets, ExampleAlgebra.
-/
import Derived.Test.YtenlhfimdpcaoaaGreatMb8
import Derived.Deep.Slices
import Derived.Lib.SmallJoins
import Derived.Carry
import Derived.ChangeSlices
import Derived.ProofKit
import Derived.OpenShut
import Derived.ChangeOld
import Derived.BigQuiet
import Derived.Deep.QuietTactic
namespace Go.Proofs.YtenlhfimdpcaoaaGreat
open Go.RowKit

set_option maxRecDepth 100000 in
set_option maxHeartbeats 1000000 in
theorem l7Set_any (p d i j k n : Int) (a : Option Addr) (N c : Nat) (xs : List Int) (w : World) (h : IntsAt w a N xs)
    (hp : 1 ≤ p) (hp2 : p ≤ 1000000) (hN : (N : Int) = d * d * d) (hd0 : 0 ≤ d) (hd1 : d ≤ 28) (hi0 : 0 ≤ i) (hi1 : i < d) (hj0 : 0 ≤ j) (hj1 : j < d) (hk0 : 0 ≤ k) (hk1 : k < d) (hn0 : -1000000000 ≤ n) (hn1 : n ≤ 1000000000)
    (hf : ∀ i b o, i < N → a = some ⟨b, o, none⟩ → w.frozen? ⟨b, o + i, none⟩ = false) :
    Calls Tryz.prog 141 #[.agg #[.int .i64 p, .int .i64 d, .slice a N c], .int .i64 i, .int .i64 j, .int .i64 k, .int .i64 n] w fun e w' => e = .returned (.tuple #[]) ∧ UpdI w w' a N ((xs.set ((i * d + j) * d + k).toNat (n % p)).set ((j * d + i) * d + k).toNat ((-n) % p)) := by
  obtain ⟨q1, q2, q3, q4, q5⟩ := idx_facts hd1 hi0 hi1 hj0 hj1 hk0 hk1
  obtain ⟨r1, r2, r3, r4, r5⟩ := idx_facts hd1 hj0 hj1 hi0 hi1 hk0 hk1
  obtain ⟨t1, ht1⟩ := Int.eq_ofNat_of_zero_le (show 0 ≤ (i * d + j) * d + k by omega)
  obtain ⟨t2, ht2⟩ := Int.eq_ofNat_of_zero_le (show 0 ≤ (j * d + i) * d + k by omega)
  have T1 : t1 < N := by omega
  have T2 : t2 < N := by omega
  have hst := UpdI.start h
  obtain ⟨b, o, rfl, hb⟩ := h.get t1 T1
  have hbl := World.block_lt_of_cell? w _ hb
  have HH := hidP h
  have HB := hidP hb
  have HST := hidP hst
  have HT1 := hidP ht1
  have HT2 := hidP ht2
  have HFZ := hidP hf
  have e1 : IntKind.i64.wrap (i * d) = i * d := wrap_in (by omega) (by omega)
  have e2 : IntKind.i64.wrap (i * d + j) = i * d + j := wrap_in (by omega) (by omega)
  have e3 : IntKind.i64.wrap ((i * d + j) * d) = (i * d + j) * d := wrap_in (by omega) (by omega)
  have e4 : IntKind.i64.wrap ((i * d + j) * d + k) = (t1 : Int) := by rw [← ht1]; exact wrap_in (by omega) (by omega)
  have e5 : IntKind.i64.wrap (j * d) = j * d := wrap_in (by omega) (by omega)
  have e6 : IntKind.i64.wrap (j * d + i) = j * d + i := wrap_in (by omega) (by omega)
  have e7 : IntKind.i64.wrap ((j * d + i) * d) = (j * d + i) * d := wrap_in (by omega) (by omega)
  have e8 : IntKind.i64.wrap ((j * d + i) * d + k) = (t2 : Int) := by rw [← ht2]; exact wrap_in (by omega) (by omega)
  have e9 : IntKind.i64.wrap (0 - n) = -n := by rw [Int.zero_sub]; exact wrap_in (by omega) (by omega)
  have T1' : (t1 : Int) < N := by omega
  have T2' : (t2 : Int) < N := by omega
  clear h hst hb hf ht1 ht2 q1 q2 q3 q4 q5 r1 r2 r3 r4 r5 hN
  go_enter Tryz.func141, Tryz.ntmps141
  go_wp2
  obtain ⟨w1, hw1⟩ : ∃ w1, w1 = w.alloc (.cells #[.int .i64 p, .int .i64 d, .slice (some ⟨b, o, none⟩) N c] 26) := ⟨_, rfl⟩
  have hc0 : w1.cell? ⟨w.heap.size, 0, none⟩ = some (.int .i64 p) := by rw [hw1]; simp
  have hc1 : w1.cell? ⟨w.heap.size, 1, none⟩ = some (.int .i64 d) := by rw [hw1]; simp
  have hc2 : w1.cell? ⟨w.heap.size, 2, none⟩ = some (.slice (some ⟨b, o, none⟩) N c) := by rw [hw1]; simp
  have hsz : w.heap.size < w1.heap.size := by rw [hw1]; simp
  have hx1 : Ext w w1 := by rw [hw1]; exact Ext.alloc w _
  rw [← hw1]
  have HF := hidP (fun w' (hx : Ext w1 w') => (⟨(hx.cell hsz).trans hc0, (hx.cell hsz).trans hc1, (hx.cell hsz).trans hc2⟩ : w'.cell? ⟨w.heap.size, 0, none⟩ = some (.int .i64 p) ∧ w'.cell? ⟨w.heap.size, 1, none⟩ = some (.int .i64 d) ∧ w'.cell? ⟨w.heap.size, 2, none⟩ = some (.slice (some ⟨b, o, none⟩) N c)))
  have hu1 := hidP ((hx1.upd HH.out (UpdI.start (HH.out.below hx1))))
  have hb1 : w1.cell? ⟨b, o + t1, none⟩ = some (.int .i64 (xs.getD t1 0)) := (hx1.cell (p := ⟨b, o + t1, none⟩) hbl).trans HB.out
  have hz1 : w1.frozen? ⟨b, o + t1, none⟩ = false := (hx1.frozen (p := ⟨b, o + t1, none⟩) hbl).trans (HFZ.out t1 b o T1 rfl)
  clear hw1 hx1 hc0 hc1 hc2
  have hE : Ext w1 w1.drew := Ext.drew w1
  (refine walkR_start (fun w' => Ext w1 w') 18 (by kernel_rfl) ?_; simp only [numbered, List.take_succ_cons, List.take_zero, Nat.zero_add, Nat.reduceAdd, List.length_cons, List.length_nil])
  repeat (refine walkR_still (v := ?_) rfl (by decide +kernel) rfl (fun _ _ _ h => h) hE ?_ ?_; rotate_left; (focus (intro w' hw'; obtain ⟨f0, f1, f2⟩ := HF.out w' hw'; go_simp; all_goals (with_reducible rfl))); simp only [Act.put, List.setIfInBounds_toArray, List.set_cons_zero, List.set_cons_succ])
  (refine walkR_only (fun w' => Ext w1 w') rfl (by decide +kernel) rfl ?_ ?_)
  · exact fun _ h => h
  intro K hK
  go_simp
  refine (l1Mod_any _ _ _ hp hp2).mono ?_
  rintro e w' ⟨rfl, rfl⟩
  refine hK _ _ hE ?_
  clear hK K
  (try simp only [Act.put, List.setIfInBounds_toArray, List.set_cons_zero, List.set_cons_succ])
  repeat (refine walkR_still (v := ?_) rfl (by decide +kernel) rfl (fun _ _ _ h => h) hE ?_ ?_; rotate_left; (focus (intro w' hw'; obtain ⟨f0, f1, f2⟩ := HF.out w' hw'; go_simp; all_goals (with_reducible rfl))); simp only [Act.put, List.setIfInBounds_toArray, List.set_cons_zero, List.set_cons_succ])
  (refine walkR_tail (by rfl) (by kernel_rfl) ?_; simp only [List.drop_succ_cons, List.drop_zero])
  go_wp2
  obtain ⟨w2, hw2⟩ : ∃ w2, w2 = (w1.setCell ⟨b, o + t1, none⟩ (.int .i64 (n % p))).drew := ⟨_, rfl⟩
  rw [← hw2]
  have hu2 : Hid (UpdI w w2 (some ⟨b, o, none⟩) N (xs.set t1 (n % p))) := by rw [hw2]; exact (hu1.out.store t1 T1 (n % p)).drew
  have hsz2 : w.heap.size < w2.heap.size := by rw [hw2]; simpa using hsz
  have HF2 := HF
  clear HF
  have hg : ∀ j, w2.cell? ⟨w.heap.size, j, none⟩ = w1.cell? ⟨w.heap.size, j, none⟩ := fun j => by
    rw [hw2, World.cell?_drew]
    exact World.cell?_of_block (Below.heap_setCell _ _ _ _ (Nat.ne_of_gt hbl))
  obtain ⟨g0, g1, g2⟩ := HF2.out w1 (Ext.refl w1)
  have HF := hidP (fun w' (hx : Ext w2 w') => (⟨(hx.cell hsz2).trans ((hg 0).trans g0), (hx.cell hsz2).trans ((hg 1).trans g1), (hx.cell hsz2).trans ((hg 2).trans g2)⟩ : w'.cell? ⟨w.heap.size, 0, none⟩ = some (.int .i64 p) ∧ w'.cell? ⟨w.heap.size, 1, none⟩ = some (.int .i64 d) ∧ w'.cell? ⟨w.heap.size, 2, none⟩ = some (.slice (some ⟨b, o, none⟩) N c)))
  obtain ⟨v2, hb2, hz2'⟩ := hu2.out.cellAt t2 T2
  have hz2 : w2.frozen? ⟨b, o + t2, none⟩ = false := hz2'.trans (HFZ.out t2 b o T2 rfl)
  clear hw2 hg g0 g1 g2 hz2' HF2 hb1 hz1 hE hu1
  have hE : Ext w2 w2.drew := Ext.drew w2
  (refine walkR_start (fun w' => Ext w2 w') 19 (by kernel_rfl) ?_; simp only [numbered, List.take_succ_cons, List.take_zero, Nat.zero_add, Nat.reduceAdd, List.length_cons, List.length_nil])
  repeat (refine walkR_still (v := ?_) rfl (by decide +kernel) rfl (fun _ _ _ h => h) hE ?_ ?_; rotate_left; (focus (intro w' hw'; obtain ⟨f0, f1, f2⟩ := HF.out w' hw'; go_simp; all_goals (with_reducible rfl))); simp only [Act.put, List.setIfInBounds_toArray, List.set_cons_zero, List.set_cons_succ])
  (refine walkR_only (fun w' => Ext w2 w') rfl (by decide +kernel) rfl ?_ ?_)
  · exact fun _ h => h
  intro K hK
  go_simp
  refine (l1Mod_any _ _ _ hp hp2).mono ?_
  rintro e w' ⟨rfl, rfl⟩
  refine hK _ _ hE ?_
  clear hK K
  (try simp only [Act.put, List.setIfInBounds_toArray, List.set_cons_zero, List.set_cons_succ])
  repeat (refine walkR_still (v := ?_) rfl (by decide +kernel) rfl (fun _ _ _ h => h) hE ?_ ?_; rotate_left; (focus (intro w' hw'; obtain ⟨f0, f1, f2⟩ := HF.out w' hw'; go_simp; all_goals (with_reducible rfl))); simp only [Act.put, List.setIfInBounds_toArray, List.set_cons_zero, List.set_cons_succ])
  (refine walkR_tail (by rfl) (by kernel_rfl) ?_; simp only [List.drop_succ_cons, List.drop_zero])
  go_wp2
  go_end0
  rw [HT1.out, HT2.out]
  exact ⟨rfl, (hu2.out.store t2 T2 _).drew⟩
end Go.Proofs.YtenlhfimdpcaoaaGreat

namespace Go.Proofs.YtenlhfimdpcaoaaGreat
open Go.RowKit

def exDim : Nat → Nat
  | 0 => 3 | 1 => 3 | 2 => 2 | 3 => 3 | 4 => 4 | 5 => 5 | 6 => 6 | 7 => 5 | 8 => 5 | _ => 4
def exRows : Nat → List (List Int)
  | 0 => []
  | 1 => [[0, 1, 2, 1]]
  | 2 => [[0, 1, 1, 1]]
  | 3 => [[0, 1, 2, 1], [1, 2, 0, 1], [0, 2, 1, -1]]
  | 4 => [[0, 1, 1, 1], [0, 2, 2, -1], [1, 2, 3, 1]]
  | 5 => [[0, 1, 2, 1], [0, 2, 3, 1], [0, 3, 4, 1]]
  | 6 => [[0, 1, 1, 1], [0, 2, 2, 1], [0, 3, 3, 2], [1, 2, 3, 1], [0, 4, 5, 1]]
  | 7 => [[0, 1, 1, 2], [0, 2, 2, -2], [1, 2, 0, 1], [0, 3, 3, 1], [0, 4, 4, -1], [1, 4, 3, 1], [2, 3, 4, 1]]
  | 8 => [[0, 1, 4, 1], [2, 3, 4, 1]]
  | _ => [[0, 1, 1, 1], [0, 2, 2, 1], [0, 3, 3, 1]]

def L12RowsSays (k : Nat) (w : World) : Prop := Calls Tryz.prog 140 #[.int .i64 k] w fun e w' => ∃ a c, e = .returned (.tuple #[.int .i64 (exDim k), .slice a (exRows k).length c]) ∧ RowsAt w' a (exRows k).length (exRows k) ∧ Ext w w'
set_option maxHeartbeats 1000000 in
theorem l12Rows_0 (w : World) : L12RowsSays 0 w := by
  unfold L12RowsSays
  go_enter Tryz.func140, Tryz.ntmps140
  go_wp2
  go_ret2
  exact ⟨none, 0, rfl, ⟨rfl, fun i hi => absurd hi (by simp [exRows])⟩, Ext.refl w⟩

set_option maxHeartbeats 1000000 in
theorem l12Rows_1 (w : World) : L12RowsSays 1 w := by
  unfold L12RowsSays
  have i0 := ints_allocAt w [0, 1, 2, 1] 3 (w.heap.size) (by simp)
  have I0 := hidP (i0.below (((Ext.refl _).trans (Ext.alloc _ _)) : Ext _ ((w.alloc (.cells (ivs [0, 1, 2, 1]).toArray 3)).alloc (.cells #[Value.slice (some ⟨w.heap.size, 0, none⟩) 4 4] 24))))
  have X := hidP ((((Ext.refl _).trans (Ext.alloc _ _)).trans (Ext.alloc _ _)) : Ext w ((w.alloc (.cells (ivs [0, 1, 2, 1]).toArray 3)).alloc (.cells #[Value.slice (some ⟨w.heap.size, 0, none⟩) 4 4] 24)))
  clear i0
  go_enter Tryz.func140, Tryz.ntmps140
  go_wp2
  go_ret2
  refine ⟨some ⟨w.heap.size + 1, 0, none⟩, 1, rfl, ⟨rfl, fun i hi => ?_⟩, X.out⟩
  simp only [exRows, List.length_cons, List.length_nil] at hi
  rcases i with _ | i
  · exact ⟨_, 0, _, 4, rfl, (cell_top _ _ _ _ _ (by simp)).trans rfl, I0.out⟩
  · omega

set_option maxHeartbeats 1000000 in
theorem l12Rows_2 (w : World) : L12RowsSays 2 w := by
  unfold L12RowsSays
  have i0 := ints_allocAt w [0, 1, 1, 1] 3 (w.heap.size) (by simp)
  have I0 := hidP (i0.below (((Ext.refl _).trans (Ext.alloc _ _)) : Ext _ ((w.alloc (.cells (ivs [0, 1, 1, 1]).toArray 3)).alloc (.cells #[Value.slice (some ⟨w.heap.size, 0, none⟩) 4 4] 24))))
  have X := hidP ((((Ext.refl _).trans (Ext.alloc _ _)).trans (Ext.alloc _ _)) : Ext w ((w.alloc (.cells (ivs [0, 1, 1, 1]).toArray 3)).alloc (.cells #[Value.slice (some ⟨w.heap.size, 0, none⟩) 4 4] 24)))
  clear i0
  go_enter Tryz.func140, Tryz.ntmps140
  go_wp2
  go_ret2
  refine ⟨some ⟨w.heap.size + 1, 0, none⟩, 1, rfl, ⟨rfl, fun i hi => ?_⟩, X.out⟩
  simp only [exRows, List.length_cons, List.length_nil] at hi
  rcases i with _ | i
  · exact ⟨_, 0, _, 4, rfl, (cell_top _ _ _ _ _ (by simp)).trans rfl, I0.out⟩
  · omega

set_option maxHeartbeats 1000000 in
theorem l12Rows_3 (w : World) : L12RowsSays 3 w := by
  unfold L12RowsSays
  have i0 := ints_allocAt w [0, 1, 2, 1] 3 (w.heap.size) (by simp)
  have i1 := ints_allocAt (w.alloc (.cells (ivs [0, 1, 2, 1]).toArray 3)) [1, 2, 0, 1] 3 (w.heap.size + 1) (by simp)
  have i2 := ints_allocAt ((w.alloc (.cells (ivs [0, 1, 2, 1]).toArray 3)).alloc (.cells (ivs [1, 2, 0, 1]).toArray 3)) [0, 2, 1, -1] 3 (w.heap.size + 1 + 1) (by simp)
  have I0 := hidP (i0.below (((((Ext.refl _).trans (Ext.alloc _ _)).trans (Ext.alloc _ _)).trans (Ext.alloc _ _)) : Ext _ ((((w.alloc (.cells (ivs [0, 1, 2, 1]).toArray 3)).alloc (.cells (ivs [1, 2, 0, 1]).toArray 3)).alloc (.cells (ivs [0, 2, 1, -1]).toArray 3)).alloc (.cells #[Value.slice (some ⟨w.heap.size, 0, none⟩) 4 4, Value.slice (some ⟨w.heap.size + 1, 0, none⟩) 4 4, Value.slice (some ⟨w.heap.size + 1 + 1, 0, none⟩) 4 4] 24))))
  have I1 := hidP (i1.below ((((Ext.refl _).trans (Ext.alloc _ _)).trans (Ext.alloc _ _)) : Ext _ ((((w.alloc (.cells (ivs [0, 1, 2, 1]).toArray 3)).alloc (.cells (ivs [1, 2, 0, 1]).toArray 3)).alloc (.cells (ivs [0, 2, 1, -1]).toArray 3)).alloc (.cells #[Value.slice (some ⟨w.heap.size, 0, none⟩) 4 4, Value.slice (some ⟨w.heap.size + 1, 0, none⟩) 4 4, Value.slice (some ⟨w.heap.size + 1 + 1, 0, none⟩) 4 4] 24))))
  have I2 := hidP (i2.below (((Ext.refl _).trans (Ext.alloc _ _)) : Ext _ ((((w.alloc (.cells (ivs [0, 1, 2, 1]).toArray 3)).alloc (.cells (ivs [1, 2, 0, 1]).toArray 3)).alloc (.cells (ivs [0, 2, 1, -1]).toArray 3)).alloc (.cells #[Value.slice (some ⟨w.heap.size, 0, none⟩) 4 4, Value.slice (some ⟨w.heap.size + 1, 0, none⟩) 4 4, Value.slice (some ⟨w.heap.size + 1 + 1, 0, none⟩) 4 4] 24))))
  have X := hidP ((((((Ext.refl _).trans (Ext.alloc _ _)).trans (Ext.alloc _ _)).trans (Ext.alloc _ _)).trans (Ext.alloc _ _)) : Ext w ((((w.alloc (.cells (ivs [0, 1, 2, 1]).toArray 3)).alloc (.cells (ivs [1, 2, 0, 1]).toArray 3)).alloc (.cells (ivs [0, 2, 1, -1]).toArray 3)).alloc (.cells #[Value.slice (some ⟨w.heap.size, 0, none⟩) 4 4, Value.slice (some ⟨w.heap.size + 1, 0, none⟩) 4 4, Value.slice (some ⟨w.heap.size + 1 + 1, 0, none⟩) 4 4] 24)))
  clear i0 i1 i2
  go_enter Tryz.func140, Tryz.ntmps140
  go_wp2
  go_ret2
  refine ⟨some ⟨w.heap.size + 1 + 1 + 1, 0, none⟩, 3, rfl, ⟨rfl, fun i hi => ?_⟩, X.out⟩
  simp only [exRows, List.length_cons, List.length_nil] at hi
  rcases i with _ | _ | _ | i
  · exact ⟨_, 0, _, 4, rfl, (cell_top _ _ _ _ _ (by simp)).trans rfl, I0.out⟩
  · exact ⟨_, 0, _, 4, rfl, (cell_top _ _ _ _ _ (by simp)).trans rfl, I1.out⟩
  · exact ⟨_, 0, _, 4, rfl, (cell_top _ _ _ _ _ (by simp)).trans rfl, I2.out⟩
  · omega

set_option maxHeartbeats 1000000 in
theorem l12Rows_4 (w : World) : L12RowsSays 4 w := by
  unfold L12RowsSays
  have i0 := ints_allocAt w [0, 1, 1, 1] 3 (w.heap.size) (by simp)
  have i1 := ints_allocAt (w.alloc (.cells (ivs [0, 1, 1, 1]).toArray 3)) [0, 2, 2, -1] 3 (w.heap.size + 1) (by simp)
  have i2 := ints_allocAt ((w.alloc (.cells (ivs [0, 1, 1, 1]).toArray 3)).alloc (.cells (ivs [0, 2, 2, -1]).toArray 3)) [1, 2, 3, 1] 3 (w.heap.size + 1 + 1) (by simp)
  have I0 := hidP (i0.below (((((Ext.refl _).trans (Ext.alloc _ _)).trans (Ext.alloc _ _)).trans (Ext.alloc _ _)) : Ext _ ((((w.alloc (.cells (ivs [0, 1, 1, 1]).toArray 3)).alloc (.cells (ivs [0, 2, 2, -1]).toArray 3)).alloc (.cells (ivs [1, 2, 3, 1]).toArray 3)).alloc (.cells #[Value.slice (some ⟨w.heap.size, 0, none⟩) 4 4, Value.slice (some ⟨w.heap.size + 1, 0, none⟩) 4 4, Value.slice (some ⟨w.heap.size + 1 + 1, 0, none⟩) 4 4] 24))))
  have I1 := hidP (i1.below ((((Ext.refl _).trans (Ext.alloc _ _)).trans (Ext.alloc _ _)) : Ext _ ((((w.alloc (.cells (ivs [0, 1, 1, 1]).toArray 3)).alloc (.cells (ivs [0, 2, 2, -1]).toArray 3)).alloc (.cells (ivs [1, 2, 3, 1]).toArray 3)).alloc (.cells #[Value.slice (some ⟨w.heap.size, 0, none⟩) 4 4, Value.slice (some ⟨w.heap.size + 1, 0, none⟩) 4 4, Value.slice (some ⟨w.heap.size + 1 + 1, 0, none⟩) 4 4] 24))))
  have I2 := hidP (i2.below (((Ext.refl _).trans (Ext.alloc _ _)) : Ext _ ((((w.alloc (.cells (ivs [0, 1, 1, 1]).toArray 3)).alloc (.cells (ivs [0, 2, 2, -1]).toArray 3)).alloc (.cells (ivs [1, 2, 3, 1]).toArray 3)).alloc (.cells #[Value.slice (some ⟨w.heap.size, 0, none⟩) 4 4, Value.slice (some ⟨w.heap.size + 1, 0, none⟩) 4 4, Value.slice (some ⟨w.heap.size + 1 + 1, 0, none⟩) 4 4] 24))))
  have X := hidP ((((((Ext.refl _).trans (Ext.alloc _ _)).trans (Ext.alloc _ _)).trans (Ext.alloc _ _)).trans (Ext.alloc _ _)) : Ext w ((((w.alloc (.cells (ivs [0, 1, 1, 1]).toArray 3)).alloc (.cells (ivs [0, 2, 2, -1]).toArray 3)).alloc (.cells (ivs [1, 2, 3, 1]).toArray 3)).alloc (.cells #[Value.slice (some ⟨w.heap.size, 0, none⟩) 4 4, Value.slice (some ⟨w.heap.size + 1, 0, none⟩) 4 4, Value.slice (some ⟨w.heap.size + 1 + 1, 0, none⟩) 4 4] 24)))
  clear i0 i1 i2
  go_enter Tryz.func140, Tryz.ntmps140
  go_wp2
  go_ret2
  refine ⟨some ⟨w.heap.size + 1 + 1 + 1, 0, none⟩, 3, rfl, ⟨rfl, fun i hi => ?_⟩, X.out⟩
  simp only [exRows, List.length_cons, List.length_nil] at hi
  rcases i with _ | _ | _ | i
  · exact ⟨_, 0, _, 4, rfl, (cell_top _ _ _ _ _ (by simp)).trans rfl, I0.out⟩
  · exact ⟨_, 0, _, 4, rfl, (cell_top _ _ _ _ _ (by simp)).trans rfl, I1.out⟩
  · exact ⟨_, 0, _, 4, rfl, (cell_top _ _ _ _ _ (by simp)).trans rfl, I2.out⟩
  · omega

set_option maxHeartbeats 1000000 in
theorem l12Rows_5 (w : World) : L12RowsSays 5 w := by
  unfold L12RowsSays
  have i0 := ints_allocAt w [0, 1, 2, 1] 3 (w.heap.size) (by simp)
  have i1 := ints_allocAt (w.alloc (.cells (ivs [0, 1, 2, 1]).toArray 3)) [0, 2, 3, 1] 3 (w.heap.size + 1) (by simp)
  have i2 := ints_allocAt ((w.alloc (.cells (ivs [0, 1, 2, 1]).toArray 3)).alloc (.cells (ivs [0, 2, 3, 1]).toArray 3)) [0, 3, 4, 1] 3 (w.heap.size + 1 + 1) (by simp)
  have I0 := hidP (i0.below (((((Ext.refl _).trans (Ext.alloc _ _)).trans (Ext.alloc _ _)).trans (Ext.alloc _ _)) : Ext _ ((((w.alloc (.cells (ivs [0, 1, 2, 1]).toArray 3)).alloc (.cells (ivs [0, 2, 3, 1]).toArray 3)).alloc (.cells (ivs [0, 3, 4, 1]).toArray 3)).alloc (.cells #[Value.slice (some ⟨w.heap.size, 0, none⟩) 4 4, Value.slice (some ⟨w.heap.size + 1, 0, none⟩) 4 4, Value.slice (some ⟨w.heap.size + 1 + 1, 0, none⟩) 4 4] 24))))
  have I1 := hidP (i1.below ((((Ext.refl _).trans (Ext.alloc _ _)).trans (Ext.alloc _ _)) : Ext _ ((((w.alloc (.cells (ivs [0, 1, 2, 1]).toArray 3)).alloc (.cells (ivs [0, 2, 3, 1]).toArray 3)).alloc (.cells (ivs [0, 3, 4, 1]).toArray 3)).alloc (.cells #[Value.slice (some ⟨w.heap.size, 0, none⟩) 4 4, Value.slice (some ⟨w.heap.size + 1, 0, none⟩) 4 4, Value.slice (some ⟨w.heap.size + 1 + 1, 0, none⟩) 4 4] 24))))
  have I2 := hidP (i2.below (((Ext.refl _).trans (Ext.alloc _ _)) : Ext _ ((((w.alloc (.cells (ivs [0, 1, 2, 1]).toArray 3)).alloc (.cells (ivs [0, 2, 3, 1]).toArray 3)).alloc (.cells (ivs [0, 3, 4, 1]).toArray 3)).alloc (.cells #[Value.slice (some ⟨w.heap.size, 0, none⟩) 4 4, Value.slice (some ⟨w.heap.size + 1, 0, none⟩) 4 4, Value.slice (some ⟨w.heap.size + 1 + 1, 0, none⟩) 4 4] 24))))
  have X := hidP ((((((Ext.refl _).trans (Ext.alloc _ _)).trans (Ext.alloc _ _)).trans (Ext.alloc _ _)).trans (Ext.alloc _ _)) : Ext w ((((w.alloc (.cells (ivs [0, 1, 2, 1]).toArray 3)).alloc (.cells (ivs [0, 2, 3, 1]).toArray 3)).alloc (.cells (ivs [0, 3, 4, 1]).toArray 3)).alloc (.cells #[Value.slice (some ⟨w.heap.size, 0, none⟩) 4 4, Value.slice (some ⟨w.heap.size + 1, 0, none⟩) 4 4, Value.slice (some ⟨w.heap.size + 1 + 1, 0, none⟩) 4 4] 24)))
  clear i0 i1 i2
  go_enter Tryz.func140, Tryz.ntmps140
  go_wp2
  go_ret2
  refine ⟨some ⟨w.heap.size + 1 + 1 + 1, 0, none⟩, 3, rfl, ⟨rfl, fun i hi => ?_⟩, X.out⟩
  simp only [exRows, List.length_cons, List.length_nil] at hi
  rcases i with _ | _ | _ | i
  · exact ⟨_, 0, _, 4, rfl, (cell_top _ _ _ _ _ (by simp)).trans rfl, I0.out⟩
  · exact ⟨_, 0, _, 4, rfl, (cell_top _ _ _ _ _ (by simp)).trans rfl, I1.out⟩
  · exact ⟨_, 0, _, 4, rfl, (cell_top _ _ _ _ _ (by simp)).trans rfl, I2.out⟩
  · omega

set_option maxHeartbeats 1000000 in
theorem l12Rows_6 (w : World) : L12RowsSays 6 w := by
  unfold L12RowsSays
  have i0 := ints_allocAt w [0, 1, 1, 1] 3 (w.heap.size) (by simp)
  have i1 := ints_allocAt (w.alloc (.cells (ivs [0, 1, 1, 1]).toArray 3)) [0, 2, 2, 1] 3 (w.heap.size + 1) (by simp)
  have i2 := ints_allocAt ((w.alloc (.cells (ivs [0, 1, 1, 1]).toArray 3)).alloc (.cells (ivs [0, 2, 2, 1]).toArray 3)) [0, 3, 3, 2] 3 (w.heap.size + 1 + 1) (by simp)
  have i3 := ints_allocAt (((w.alloc (.cells (ivs [0, 1, 1, 1]).toArray 3)).alloc (.cells (ivs [0, 2, 2, 1]).toArray 3)).alloc (.cells (ivs [0, 3, 3, 2]).toArray 3)) [1, 2, 3, 1] 3 (w.heap.size + 1 + 1 + 1) (by simp)
  have i4 := ints_allocAt ((((w.alloc (.cells (ivs [0, 1, 1, 1]).toArray 3)).alloc (.cells (ivs [0, 2, 2, 1]).toArray 3)).alloc (.cells (ivs [0, 3, 3, 2]).toArray 3)).alloc (.cells (ivs [1, 2, 3, 1]).toArray 3)) [0, 4, 5, 1] 3 (w.heap.size + 1 + 1 + 1 + 1) (by simp)
  have I0 := hidP (i0.below (((((((Ext.refl _).trans (Ext.alloc _ _)).trans (Ext.alloc _ _)).trans (Ext.alloc _ _)).trans (Ext.alloc _ _)).trans (Ext.alloc _ _)) : Ext _ ((((((w.alloc (.cells (ivs [0, 1, 1, 1]).toArray 3)).alloc (.cells (ivs [0, 2, 2, 1]).toArray 3)).alloc (.cells (ivs [0, 3, 3, 2]).toArray 3)).alloc (.cells (ivs [1, 2, 3, 1]).toArray 3)).alloc (.cells (ivs [0, 4, 5, 1]).toArray 3)).alloc (.cells #[Value.slice (some ⟨w.heap.size, 0, none⟩) 4 4, Value.slice (some ⟨w.heap.size + 1, 0, none⟩) 4 4, Value.slice (some ⟨w.heap.size + 1 + 1, 0, none⟩) 4 4, Value.slice (some ⟨w.heap.size + 1 + 1 + 1, 0, none⟩) 4 4, Value.slice (some ⟨w.heap.size + 1 + 1 + 1 + 1, 0, none⟩) 4 4] 24))))
  have I1 := hidP (i1.below ((((((Ext.refl _).trans (Ext.alloc _ _)).trans (Ext.alloc _ _)).trans (Ext.alloc _ _)).trans (Ext.alloc _ _)) : Ext _ ((((((w.alloc (.cells (ivs [0, 1, 1, 1]).toArray 3)).alloc (.cells (ivs [0, 2, 2, 1]).toArray 3)).alloc (.cells (ivs [0, 3, 3, 2]).toArray 3)).alloc (.cells (ivs [1, 2, 3, 1]).toArray 3)).alloc (.cells (ivs [0, 4, 5, 1]).toArray 3)).alloc (.cells #[Value.slice (some ⟨w.heap.size, 0, none⟩) 4 4, Value.slice (some ⟨w.heap.size + 1, 0, none⟩) 4 4, Value.slice (some ⟨w.heap.size + 1 + 1, 0, none⟩) 4 4, Value.slice (some ⟨w.heap.size + 1 + 1 + 1, 0, none⟩) 4 4, Value.slice (some ⟨w.heap.size + 1 + 1 + 1 + 1, 0, none⟩) 4 4] 24))))
  have I2 := hidP (i2.below (((((Ext.refl _).trans (Ext.alloc _ _)).trans (Ext.alloc _ _)).trans (Ext.alloc _ _)) : Ext _ ((((((w.alloc (.cells (ivs [0, 1, 1, 1]).toArray 3)).alloc (.cells (ivs [0, 2, 2, 1]).toArray 3)).alloc (.cells (ivs [0, 3, 3, 2]).toArray 3)).alloc (.cells (ivs [1, 2, 3, 1]).toArray 3)).alloc (.cells (ivs [0, 4, 5, 1]).toArray 3)).alloc (.cells #[Value.slice (some ⟨w.heap.size, 0, none⟩) 4 4, Value.slice (some ⟨w.heap.size + 1, 0, none⟩) 4 4, Value.slice (some ⟨w.heap.size + 1 + 1, 0, none⟩) 4 4, Value.slice (some ⟨w.heap.size + 1 + 1 + 1, 0, none⟩) 4 4, Value.slice (some ⟨w.heap.size + 1 + 1 + 1 + 1, 0, none⟩) 4 4] 24))))
  have I3 := hidP (i3.below ((((Ext.refl _).trans (Ext.alloc _ _)).trans (Ext.alloc _ _)) : Ext _ ((((((w.alloc (.cells (ivs [0, 1, 1, 1]).toArray 3)).alloc (.cells (ivs [0, 2, 2, 1]).toArray 3)).alloc (.cells (ivs [0, 3, 3, 2]).toArray 3)).alloc (.cells (ivs [1, 2, 3, 1]).toArray 3)).alloc (.cells (ivs [0, 4, 5, 1]).toArray 3)).alloc (.cells #[Value.slice (some ⟨w.heap.size, 0, none⟩) 4 4, Value.slice (some ⟨w.heap.size + 1, 0, none⟩) 4 4, Value.slice (some ⟨w.heap.size + 1 + 1, 0, none⟩) 4 4, Value.slice (some ⟨w.heap.size + 1 + 1 + 1, 0, none⟩) 4 4, Value.slice (some ⟨w.heap.size + 1 + 1 + 1 + 1, 0, none⟩) 4 4] 24))))
  have I4 := hidP (i4.below (((Ext.refl _).trans (Ext.alloc _ _)) : Ext _ ((((((w.alloc (.cells (ivs [0, 1, 1, 1]).toArray 3)).alloc (.cells (ivs [0, 2, 2, 1]).toArray 3)).alloc (.cells (ivs [0, 3, 3, 2]).toArray 3)).alloc (.cells (ivs [1, 2, 3, 1]).toArray 3)).alloc (.cells (ivs [0, 4, 5, 1]).toArray 3)).alloc (.cells #[Value.slice (some ⟨w.heap.size, 0, none⟩) 4 4, Value.slice (some ⟨w.heap.size + 1, 0, none⟩) 4 4, Value.slice (some ⟨w.heap.size + 1 + 1, 0, none⟩) 4 4, Value.slice (some ⟨w.heap.size + 1 + 1 + 1, 0, none⟩) 4 4, Value.slice (some ⟨w.heap.size + 1 + 1 + 1 + 1, 0, none⟩) 4 4] 24))))
  have X := hidP ((((((((Ext.refl _).trans (Ext.alloc _ _)).trans (Ext.alloc _ _)).trans (Ext.alloc _ _)).trans (Ext.alloc _ _)).trans (Ext.alloc _ _)).trans (Ext.alloc _ _)) : Ext w ((((((w.alloc (.cells (ivs [0, 1, 1, 1]).toArray 3)).alloc (.cells (ivs [0, 2, 2, 1]).toArray 3)).alloc (.cells (ivs [0, 3, 3, 2]).toArray 3)).alloc (.cells (ivs [1, 2, 3, 1]).toArray 3)).alloc (.cells (ivs [0, 4, 5, 1]).toArray 3)).alloc (.cells #[Value.slice (some ⟨w.heap.size, 0, none⟩) 4 4, Value.slice (some ⟨w.heap.size + 1, 0, none⟩) 4 4, Value.slice (some ⟨w.heap.size + 1 + 1, 0, none⟩) 4 4, Value.slice (some ⟨w.heap.size + 1 + 1 + 1, 0, none⟩) 4 4, Value.slice (some ⟨w.heap.size + 1 + 1 + 1 + 1, 0, none⟩) 4 4] 24)))
  clear i0 i1 i2 i3 i4
  go_enter Tryz.func140, Tryz.ntmps140
  go_wp2
  go_ret2
  refine ⟨some ⟨w.heap.size + 1 + 1 + 1 + 1 + 1, 0, none⟩, 5, rfl, ⟨rfl, fun i hi => ?_⟩, X.out⟩
  simp only [exRows, List.length_cons, List.length_nil] at hi
  rcases i with _ | _ | _ | _ | _ | i
  · exact ⟨_, 0, _, 4, rfl, (cell_top _ _ _ _ _ (by simp)).trans rfl, I0.out⟩
  · exact ⟨_, 0, _, 4, rfl, (cell_top _ _ _ _ _ (by simp)).trans rfl, I1.out⟩
  · exact ⟨_, 0, _, 4, rfl, (cell_top _ _ _ _ _ (by simp)).trans rfl, I2.out⟩
  · exact ⟨_, 0, _, 4, rfl, (cell_top _ _ _ _ _ (by simp)).trans rfl, I3.out⟩
  · exact ⟨_, 0, _, 4, rfl, (cell_top _ _ _ _ _ (by simp)).trans rfl, I4.out⟩
  · omega

set_option maxHeartbeats 1000000 in
theorem l12Rows_7 (w : World) : L12RowsSays 7 w := by
  unfold L12RowsSays
  have i0 := ints_allocAt w [0, 1, 1, 2] 3 (w.heap.size) (by simp)
  have i1 := ints_allocAt (w.alloc (.cells (ivs [0, 1, 1, 2]).toArray 3)) [0, 2, 2, -2] 3 (w.heap.size + 1) (by simp)
  have i2 := ints_allocAt ((w.alloc (.cells (ivs [0, 1, 1, 2]).toArray 3)).alloc (.cells (ivs [0, 2, 2, -2]).toArray 3)) [1, 2, 0, 1] 3 (w.heap.size + 1 + 1) (by simp)
  have i3 := ints_allocAt (((w.alloc (.cells (ivs [0, 1, 1, 2]).toArray 3)).alloc (.cells (ivs [0, 2, 2, -2]).toArray 3)).alloc (.cells (ivs [1, 2, 0, 1]).toArray 3)) [0, 3, 3, 1] 3 (w.heap.size + 1 + 1 + 1) (by simp)
  have i4 := ints_allocAt ((((w.alloc (.cells (ivs [0, 1, 1, 2]).toArray 3)).alloc (.cells (ivs [0, 2, 2, -2]).toArray 3)).alloc (.cells (ivs [1, 2, 0, 1]).toArray 3)).alloc (.cells (ivs [0, 3, 3, 1]).toArray 3)) [0, 4, 4, -1] 3 (w.heap.size + 1 + 1 + 1 + 1) (by simp)
  have i5 := ints_allocAt (((((w.alloc (.cells (ivs [0, 1, 1, 2]).toArray 3)).alloc (.cells (ivs [0, 2, 2, -2]).toArray 3)).alloc (.cells (ivs [1, 2, 0, 1]).toArray 3)).alloc (.cells (ivs [0, 3, 3, 1]).toArray 3)).alloc (.cells (ivs [0, 4, 4, -1]).toArray 3)) [1, 4, 3, 1] 3 (w.heap.size + 1 + 1 + 1 + 1 + 1) (by simp)
  have i6 := ints_allocAt ((((((w.alloc (.cells (ivs [0, 1, 1, 2]).toArray 3)).alloc (.cells (ivs [0, 2, 2, -2]).toArray 3)).alloc (.cells (ivs [1, 2, 0, 1]).toArray 3)).alloc (.cells (ivs [0, 3, 3, 1]).toArray 3)).alloc (.cells (ivs [0, 4, 4, -1]).toArray 3)).alloc (.cells (ivs [1, 4, 3, 1]).toArray 3)) [2, 3, 4, 1] 3 (w.heap.size + 1 + 1 + 1 + 1 + 1 + 1) (by simp)
  have I0 := hidP (i0.below (((((((((Ext.refl _).trans (Ext.alloc _ _)).trans (Ext.alloc _ _)).trans (Ext.alloc _ _)).trans (Ext.alloc _ _)).trans (Ext.alloc _ _)).trans (Ext.alloc _ _)).trans (Ext.alloc _ _)) : Ext _ ((((((((w.alloc (.cells (ivs [0, 1, 1, 2]).toArray 3)).alloc (.cells (ivs [0, 2, 2, -2]).toArray 3)).alloc (.cells (ivs [1, 2, 0, 1]).toArray 3)).alloc (.cells (ivs [0, 3, 3, 1]).toArray 3)).alloc (.cells (ivs [0, 4, 4, -1]).toArray 3)).alloc (.cells (ivs [1, 4, 3, 1]).toArray 3)).alloc (.cells (ivs [2, 3, 4, 1]).toArray 3)).alloc (.cells #[Value.slice (some ⟨w.heap.size, 0, none⟩) 4 4, Value.slice (some ⟨w.heap.size + 1, 0, none⟩) 4 4, Value.slice (some ⟨w.heap.size + 1 + 1, 0, none⟩) 4 4, Value.slice (some ⟨w.heap.size + 1 + 1 + 1, 0, none⟩) 4 4, Value.slice (some ⟨w.heap.size + 1 + 1 + 1 + 1, 0, none⟩) 4 4, Value.slice (some ⟨w.heap.size + 1 + 1 + 1 + 1 + 1, 0, none⟩) 4 4, Value.slice (some ⟨w.heap.size + 1 + 1 + 1 + 1 + 1 + 1, 0, none⟩) 4 4] 24))))
  have I1 := hidP (i1.below ((((((((Ext.refl _).trans (Ext.alloc _ _)).trans (Ext.alloc _ _)).trans (Ext.alloc _ _)).trans (Ext.alloc _ _)).trans (Ext.alloc _ _)).trans (Ext.alloc _ _)) : Ext _ ((((((((w.alloc (.cells (ivs [0, 1, 1, 2]).toArray 3)).alloc (.cells (ivs [0, 2, 2, -2]).toArray 3)).alloc (.cells (ivs [1, 2, 0, 1]).toArray 3)).alloc (.cells (ivs [0, 3, 3, 1]).toArray 3)).alloc (.cells (ivs [0, 4, 4, -1]).toArray 3)).alloc (.cells (ivs [1, 4, 3, 1]).toArray 3)).alloc (.cells (ivs [2, 3, 4, 1]).toArray 3)).alloc (.cells #[Value.slice (some ⟨w.heap.size, 0, none⟩) 4 4, Value.slice (some ⟨w.heap.size + 1, 0, none⟩) 4 4, Value.slice (some ⟨w.heap.size + 1 + 1, 0, none⟩) 4 4, Value.slice (some ⟨w.heap.size + 1 + 1 + 1, 0, none⟩) 4 4, Value.slice (some ⟨w.heap.size + 1 + 1 + 1 + 1, 0, none⟩) 4 4, Value.slice (some ⟨w.heap.size + 1 + 1 + 1 + 1 + 1, 0, none⟩) 4 4, Value.slice (some ⟨w.heap.size + 1 + 1 + 1 + 1 + 1 + 1, 0, none⟩) 4 4] 24))))
  have I2 := hidP (i2.below (((((((Ext.refl _).trans (Ext.alloc _ _)).trans (Ext.alloc _ _)).trans (Ext.alloc _ _)).trans (Ext.alloc _ _)).trans (Ext.alloc _ _)) : Ext _ ((((((((w.alloc (.cells (ivs [0, 1, 1, 2]).toArray 3)).alloc (.cells (ivs [0, 2, 2, -2]).toArray 3)).alloc (.cells (ivs [1, 2, 0, 1]).toArray 3)).alloc (.cells (ivs [0, 3, 3, 1]).toArray 3)).alloc (.cells (ivs [0, 4, 4, -1]).toArray 3)).alloc (.cells (ivs [1, 4, 3, 1]).toArray 3)).alloc (.cells (ivs [2, 3, 4, 1]).toArray 3)).alloc (.cells #[Value.slice (some ⟨w.heap.size, 0, none⟩) 4 4, Value.slice (some ⟨w.heap.size + 1, 0, none⟩) 4 4, Value.slice (some ⟨w.heap.size + 1 + 1, 0, none⟩) 4 4, Value.slice (some ⟨w.heap.size + 1 + 1 + 1, 0, none⟩) 4 4, Value.slice (some ⟨w.heap.size + 1 + 1 + 1 + 1, 0, none⟩) 4 4, Value.slice (some ⟨w.heap.size + 1 + 1 + 1 + 1 + 1, 0, none⟩) 4 4, Value.slice (some ⟨w.heap.size + 1 + 1 + 1 + 1 + 1 + 1, 0, none⟩) 4 4] 24))))
  have I3 := hidP (i3.below ((((((Ext.refl _).trans (Ext.alloc _ _)).trans (Ext.alloc _ _)).trans (Ext.alloc _ _)).trans (Ext.alloc _ _)) : Ext _ ((((((((w.alloc (.cells (ivs [0, 1, 1, 2]).toArray 3)).alloc (.cells (ivs [0, 2, 2, -2]).toArray 3)).alloc (.cells (ivs [1, 2, 0, 1]).toArray 3)).alloc (.cells (ivs [0, 3, 3, 1]).toArray 3)).alloc (.cells (ivs [0, 4, 4, -1]).toArray 3)).alloc (.cells (ivs [1, 4, 3, 1]).toArray 3)).alloc (.cells (ivs [2, 3, 4, 1]).toArray 3)).alloc (.cells #[Value.slice (some ⟨w.heap.size, 0, none⟩) 4 4, Value.slice (some ⟨w.heap.size + 1, 0, none⟩) 4 4, Value.slice (some ⟨w.heap.size + 1 + 1, 0, none⟩) 4 4, Value.slice (some ⟨w.heap.size + 1 + 1 + 1, 0, none⟩) 4 4, Value.slice (some ⟨w.heap.size + 1 + 1 + 1 + 1, 0, none⟩) 4 4, Value.slice (some ⟨w.heap.size + 1 + 1 + 1 + 1 + 1, 0, none⟩) 4 4, Value.slice (some ⟨w.heap.size + 1 + 1 + 1 + 1 + 1 + 1, 0, none⟩) 4 4] 24))))
  have I4 := hidP (i4.below (((((Ext.refl _).trans (Ext.alloc _ _)).trans (Ext.alloc _ _)).trans (Ext.alloc _ _)) : Ext _ ((((((((w.alloc (.cells (ivs [0, 1, 1, 2]).toArray 3)).alloc (.cells (ivs [0, 2, 2, -2]).toArray 3)).alloc (.cells (ivs [1, 2, 0, 1]).toArray 3)).alloc (.cells (ivs [0, 3, 3, 1]).toArray 3)).alloc (.cells (ivs [0, 4, 4, -1]).toArray 3)).alloc (.cells (ivs [1, 4, 3, 1]).toArray 3)).alloc (.cells (ivs [2, 3, 4, 1]).toArray 3)).alloc (.cells #[Value.slice (some ⟨w.heap.size, 0, none⟩) 4 4, Value.slice (some ⟨w.heap.size + 1, 0, none⟩) 4 4, Value.slice (some ⟨w.heap.size + 1 + 1, 0, none⟩) 4 4, Value.slice (some ⟨w.heap.size + 1 + 1 + 1, 0, none⟩) 4 4, Value.slice (some ⟨w.heap.size + 1 + 1 + 1 + 1, 0, none⟩) 4 4, Value.slice (some ⟨w.heap.size + 1 + 1 + 1 + 1 + 1, 0, none⟩) 4 4, Value.slice (some ⟨w.heap.size + 1 + 1 + 1 + 1 + 1 + 1, 0, none⟩) 4 4] 24))))
  have I5 := hidP (i5.below ((((Ext.refl _).trans (Ext.alloc _ _)).trans (Ext.alloc _ _)) : Ext _ ((((((((w.alloc (.cells (ivs [0, 1, 1, 2]).toArray 3)).alloc (.cells (ivs [0, 2, 2, -2]).toArray 3)).alloc (.cells (ivs [1, 2, 0, 1]).toArray 3)).alloc (.cells (ivs [0, 3, 3, 1]).toArray 3)).alloc (.cells (ivs [0, 4, 4, -1]).toArray 3)).alloc (.cells (ivs [1, 4, 3, 1]).toArray 3)).alloc (.cells (ivs [2, 3, 4, 1]).toArray 3)).alloc (.cells #[Value.slice (some ⟨w.heap.size, 0, none⟩) 4 4, Value.slice (some ⟨w.heap.size + 1, 0, none⟩) 4 4, Value.slice (some ⟨w.heap.size + 1 + 1, 0, none⟩) 4 4, Value.slice (some ⟨w.heap.size + 1 + 1 + 1, 0, none⟩) 4 4, Value.slice (some ⟨w.heap.size + 1 + 1 + 1 + 1, 0, none⟩) 4 4, Value.slice (some ⟨w.heap.size + 1 + 1 + 1 + 1 + 1, 0, none⟩) 4 4, Value.slice (some ⟨w.heap.size + 1 + 1 + 1 + 1 + 1 + 1, 0, none⟩) 4 4] 24))))
  have I6 := hidP (i6.below (((Ext.refl _).trans (Ext.alloc _ _)) : Ext _ ((((((((w.alloc (.cells (ivs [0, 1, 1, 2]).toArray 3)).alloc (.cells (ivs [0, 2, 2, -2]).toArray 3)).alloc (.cells (ivs [1, 2, 0, 1]).toArray 3)).alloc (.cells (ivs [0, 3, 3, 1]).toArray 3)).alloc (.cells (ivs [0, 4, 4, -1]).toArray 3)).alloc (.cells (ivs [1, 4, 3, 1]).toArray 3)).alloc (.cells (ivs [2, 3, 4, 1]).toArray 3)).alloc (.cells #[Value.slice (some ⟨w.heap.size, 0, none⟩) 4 4, Value.slice (some ⟨w.heap.size + 1, 0, none⟩) 4 4, Value.slice (some ⟨w.heap.size + 1 + 1, 0, none⟩) 4 4, Value.slice (some ⟨w.heap.size + 1 + 1 + 1, 0, none⟩) 4 4, Value.slice (some ⟨w.heap.size + 1 + 1 + 1 + 1, 0, none⟩) 4 4, Value.slice (some ⟨w.heap.size + 1 + 1 + 1 + 1 + 1, 0, none⟩) 4 4, Value.slice (some ⟨w.heap.size + 1 + 1 + 1 + 1 + 1 + 1, 0, none⟩) 4 4] 24))))
  have X := hidP ((((((((((Ext.refl _).trans (Ext.alloc _ _)).trans (Ext.alloc _ _)).trans (Ext.alloc _ _)).trans (Ext.alloc _ _)).trans (Ext.alloc _ _)).trans (Ext.alloc _ _)).trans (Ext.alloc _ _)).trans (Ext.alloc _ _)) : Ext w ((((((((w.alloc (.cells (ivs [0, 1, 1, 2]).toArray 3)).alloc (.cells (ivs [0, 2, 2, -2]).toArray 3)).alloc (.cells (ivs [1, 2, 0, 1]).toArray 3)).alloc (.cells (ivs [0, 3, 3, 1]).toArray 3)).alloc (.cells (ivs [0, 4, 4, -1]).toArray 3)).alloc (.cells (ivs [1, 4, 3, 1]).toArray 3)).alloc (.cells (ivs [2, 3, 4, 1]).toArray 3)).alloc (.cells #[Value.slice (some ⟨w.heap.size, 0, none⟩) 4 4, Value.slice (some ⟨w.heap.size + 1, 0, none⟩) 4 4, Value.slice (some ⟨w.heap.size + 1 + 1, 0, none⟩) 4 4, Value.slice (some ⟨w.heap.size + 1 + 1 + 1, 0, none⟩) 4 4, Value.slice (some ⟨w.heap.size + 1 + 1 + 1 + 1, 0, none⟩) 4 4, Value.slice (some ⟨w.heap.size + 1 + 1 + 1 + 1 + 1, 0, none⟩) 4 4, Value.slice (some ⟨w.heap.size + 1 + 1 + 1 + 1 + 1 + 1, 0, none⟩) 4 4] 24)))
  clear i0 i1 i2 i3 i4 i5 i6
  go_enter Tryz.func140, Tryz.ntmps140
  go_wp2
  go_ret2
  refine ⟨some ⟨w.heap.size + 1 + 1 + 1 + 1 + 1 + 1 + 1, 0, none⟩, 7, rfl, ⟨rfl, fun i hi => ?_⟩, X.out⟩
  simp only [exRows, List.length_cons, List.length_nil] at hi
  rcases i with _ | _ | _ | _ | _ | _ | _ | i
  · exact ⟨_, 0, _, 4, rfl, (cell_top _ _ _ _ _ (by simp)).trans rfl, I0.out⟩
  · exact ⟨_, 0, _, 4, rfl, (cell_top _ _ _ _ _ (by simp)).trans rfl, I1.out⟩
  · exact ⟨_, 0, _, 4, rfl, (cell_top _ _ _ _ _ (by simp)).trans rfl, I2.out⟩
  · exact ⟨_, 0, _, 4, rfl, (cell_top _ _ _ _ _ (by simp)).trans rfl, I3.out⟩
  · exact ⟨_, 0, _, 4, rfl, (cell_top _ _ _ _ _ (by simp)).trans rfl, I4.out⟩
  · exact ⟨_, 0, _, 4, rfl, (cell_top _ _ _ _ _ (by simp)).trans rfl, I5.out⟩
  · exact ⟨_, 0, _, 4, rfl, (cell_top _ _ _ _ _ (by simp)).trans rfl, I6.out⟩
  · omega

set_option maxHeartbeats 1000000 in
theorem l12Rows_8 (w : World) : L12RowsSays 8 w := by
  unfold L12RowsSays
  have i0 := ints_allocAt w [0, 1, 4, 1] 3 (w.heap.size) (by simp)
  have i1 := ints_allocAt (w.alloc (.cells (ivs [0, 1, 4, 1]).toArray 3)) [2, 3, 4, 1] 3 (w.heap.size + 1) (by simp)
  have I0 := hidP (i0.below ((((Ext.refl _).trans (Ext.alloc _ _)).trans (Ext.alloc _ _)) : Ext _ (((w.alloc (.cells (ivs [0, 1, 4, 1]).toArray 3)).alloc (.cells (ivs [2, 3, 4, 1]).toArray 3)).alloc (.cells #[Value.slice (some ⟨w.heap.size, 0, none⟩) 4 4, Value.slice (some ⟨w.heap.size + 1, 0, none⟩) 4 4] 24))))
  have I1 := hidP (i1.below (((Ext.refl _).trans (Ext.alloc _ _)) : Ext _ (((w.alloc (.cells (ivs [0, 1, 4, 1]).toArray 3)).alloc (.cells (ivs [2, 3, 4, 1]).toArray 3)).alloc (.cells #[Value.slice (some ⟨w.heap.size, 0, none⟩) 4 4, Value.slice (some ⟨w.heap.size + 1, 0, none⟩) 4 4] 24))))
  have X := hidP (((((Ext.refl _).trans (Ext.alloc _ _)).trans (Ext.alloc _ _)).trans (Ext.alloc _ _)) : Ext w (((w.alloc (.cells (ivs [0, 1, 4, 1]).toArray 3)).alloc (.cells (ivs [2, 3, 4, 1]).toArray 3)).alloc (.cells #[Value.slice (some ⟨w.heap.size, 0, none⟩) 4 4, Value.slice (some ⟨w.heap.size + 1, 0, none⟩) 4 4] 24)))
  clear i0 i1
  go_enter Tryz.func140, Tryz.ntmps140
  go_wp2
  go_ret2
  refine ⟨some ⟨w.heap.size + 1 + 1, 0, none⟩, 2, rfl, ⟨rfl, fun i hi => ?_⟩, X.out⟩
  simp only [exRows, List.length_cons, List.length_nil] at hi
  rcases i with _ | _ | i
  · exact ⟨_, 0, _, 4, rfl, (cell_top _ _ _ _ _ (by simp)).trans rfl, I0.out⟩
  · exact ⟨_, 0, _, 4, rfl, (cell_top _ _ _ _ _ (by simp)).trans rfl, I1.out⟩
  · omega

set_option maxHeartbeats 1000000 in
theorem l12Rows_9 (w : World) : L12RowsSays 9 w := by
  unfold L12RowsSays
  have i0 := ints_allocAt w [0, 1, 1, 1] 3 (w.heap.size) (by simp)
  have i1 := ints_allocAt (w.alloc (.cells (ivs [0, 1, 1, 1]).toArray 3)) [0, 2, 2, 1] 3 (w.heap.size + 1) (by simp)
  have i2 := ints_allocAt ((w.alloc (.cells (ivs [0, 1, 1, 1]).toArray 3)).alloc (.cells (ivs [0, 2, 2, 1]).toArray 3)) [0, 3, 3, 1] 3 (w.heap.size + 1 + 1) (by simp)
  have I0 := hidP (i0.below (((((Ext.refl _).trans (Ext.alloc _ _)).trans (Ext.alloc _ _)).trans (Ext.alloc _ _)) : Ext _ ((((w.alloc (.cells (ivs [0, 1, 1, 1]).toArray 3)).alloc (.cells (ivs [0, 2, 2, 1]).toArray 3)).alloc (.cells (ivs [0, 3, 3, 1]).toArray 3)).alloc (.cells #[Value.slice (some ⟨w.heap.size, 0, none⟩) 4 4, Value.slice (some ⟨w.heap.size + 1, 0, none⟩) 4 4, Value.slice (some ⟨w.heap.size + 1 + 1, 0, none⟩) 4 4] 24))))
  have I1 := hidP (i1.below ((((Ext.refl _).trans (Ext.alloc _ _)).trans (Ext.alloc _ _)) : Ext _ ((((w.alloc (.cells (ivs [0, 1, 1, 1]).toArray 3)).alloc (.cells (ivs [0, 2, 2, 1]).toArray 3)).alloc (.cells (ivs [0, 3, 3, 1]).toArray 3)).alloc (.cells #[Value.slice (some ⟨w.heap.size, 0, none⟩) 4 4, Value.slice (some ⟨w.heap.size + 1, 0, none⟩) 4 4, Value.slice (some ⟨w.heap.size + 1 + 1, 0, none⟩) 4 4] 24))))
  have I2 := hidP (i2.below (((Ext.refl _).trans (Ext.alloc _ _)) : Ext _ ((((w.alloc (.cells (ivs [0, 1, 1, 1]).toArray 3)).alloc (.cells (ivs [0, 2, 2, 1]).toArray 3)).alloc (.cells (ivs [0, 3, 3, 1]).toArray 3)).alloc (.cells #[Value.slice (some ⟨w.heap.size, 0, none⟩) 4 4, Value.slice (some ⟨w.heap.size + 1, 0, none⟩) 4 4, Value.slice (some ⟨w.heap.size + 1 + 1, 0, none⟩) 4 4] 24))))
  have X := hidP ((((((Ext.refl _).trans (Ext.alloc _ _)).trans (Ext.alloc _ _)).trans (Ext.alloc _ _)).trans (Ext.alloc _ _)) : Ext w ((((w.alloc (.cells (ivs [0, 1, 1, 1]).toArray 3)).alloc (.cells (ivs [0, 2, 2, 1]).toArray 3)).alloc (.cells (ivs [0, 3, 3, 1]).toArray 3)).alloc (.cells #[Value.slice (some ⟨w.heap.size, 0, none⟩) 4 4, Value.slice (some ⟨w.heap.size + 1, 0, none⟩) 4 4, Value.slice (some ⟨w.heap.size + 1 + 1, 0, none⟩) 4 4] 24)))
  clear i0 i1 i2
  go_enter Tryz.func140, Tryz.ntmps140
  go_wp2
  go_ret2
  refine ⟨some ⟨w.heap.size + 1 + 1 + 1, 0, none⟩, 3, rfl, ⟨rfl, fun i hi => ?_⟩, X.out⟩
  simp only [exRows, List.length_cons, List.length_nil] at hi
  rcases i with _ | _ | _ | i
  · exact ⟨_, 0, _, 4, rfl, (cell_top _ _ _ _ _ (by simp)).trans rfl, I0.out⟩
  · exact ⟨_, 0, _, 4, rfl, (cell_top _ _ _ _ _ (by simp)).trans rfl, I1.out⟩
  · exact ⟨_, 0, _, 4, rfl, (cell_top _ _ _ _ _ (by simp)).trans rfl, I2.out⟩
  · omega
end Go.Proofs.YtenlhfimdpcaoaaGreat

namespace Go.Proofs.YtenlhfimdpcaoaaGreat
open Go.RowKit

def setTab (p d : Int) (t : List Int) (r : List Int) : List Int :=
  (t.set ((r.getD 0 0 * d + r.getD 1 0) * d + r.getD 2 0).toNat (r.getD 3 0 % p)).set ((r.getD 1 0 * d + r.getD 0 0) * d + r.getD 2 0).toNat ((-r.getD 3 0) % p)
def exTab (k : Nat) (p : Int) : List Int := (exRows k).foldl (setTab p (exDim k)) (List.replicate ((exDim k : Int) * exDim k * exDim k).toNat 0)
def exTabTo (k : Nat) (p : Int) (r : Nat) : List Int := ((exRows k).take r).foldl (setTab p (exDim k)) (List.replicate ((exDim k : Int) * exDim k * exDim k).toNat 0)
theorem exTabTo_zero (k : Nat) (p : Int) : exTabTo k p 0 = List.replicate ((exDim k : Int) * exDim k * exDim k).toNat 0 := by simp [exTabTo]
theorem exTabTo_succ (k : Nat) (p : Int) (r : Nat) (h : r < (exRows k).length) : exTabTo k p (r + 1) = setTab p (exDim k) (exTabTo k p r) ((exRows k).getD r []) := by
  simp only [exTabTo, List.getD_eq_getElem?_getD, List.getElem?_eq_getElem h, Option.getD_some]
  rw [List.take_succ_eq_append_getElem h, List.foldl_append]
  rfl
theorem exTabTo_all (k : Nat) (p : Int) : exTabTo k p (exRows k).length = exTab k p := by simp [exTabTo, exTab]
def exRowOk (d : Int) (r : List Int) : Bool := decide (r.length = 4 ∧ 0 ≤ r.getD 0 0 ∧ r.getD 0 0 < d ∧ 0 ≤ r.getD 1 0 ∧ r.getD 1 0 < d ∧ 0 ≤ r.getD 2 0 ∧ r.getD 2 0 < d ∧ -10 ≤ r.getD 3 0 ∧ r.getD 3 0 ≤ 10)
theorem exRows_ok (k : Nat) (hk : k < 10) : ∀ r, r < (exRows k).length → exRowOk (exDim k) ((exRows k).getD r []) = true := by
  have h : ∀ k : Fin 10, ∀ r : Fin (exRows k).length, exRowOk (exDim k) ((exRows k).getD r []) = true := by decide
  exact fun r hr => h ⟨k, hk⟩ ⟨r, hr⟩
theorem exRows_le (k : Nat) : (exRows k).length ≤ 7 := by unfold exRows; split <;> simp
theorem exDim_le (k : Nat) : 2 ≤ exDim k ∧ exDim k ≤ 6 := by unfold exDim; split <;> omega

theorem l12Rows_any (k : Nat) (hk : k < 10) (w : World) : L12RowsSays k w := by
  obtain rfl | rfl | rfl | rfl | rfl | rfl | rfl | rfl | rfl | rfl : k = 0 ∨ k = 1 ∨ k = 2 ∨ k = 3 ∨ k = 4 ∨ k = 5 ∨ k = 6 ∨ k = 7 ∨ k = 8 ∨ k = 9 := by omega
  · exact l12Rows_0 w
  · exact l12Rows_1 w
  · exact l12Rows_2 w
  · exact l12Rows_3 w
  · exact l12Rows_4 w
  · exact l12Rows_5 w
  · exact l12Rows_6 w
  · exact l12Rows_7 w
  · exact l12Rows_8 w
  · exact l12Rows_9 w

set_option maxRecDepth 100000 in
set_option maxHeartbeats 2000000 in
theorem l12Example_any (k : Nat) (hk : k < 10) (p : Int) (hp : primeB p = true) (w : World) :
    Calls Tryz.prog 83 #[.int .i64 k, .int .i64 p] w fun e w' => ∃ a n, e = .returned (algV p (exDim k) a n n) ∧ OwnI w' w.heap.size a n n (exTab k p) ∧ Ext w w' := by
  have hR := hidP (fun w' => l12Rows_any k hk w')
  obtain ⟨d2, d6⟩ := exDim_le k
  have hlen7 := exRows_le k
  obtain ⟨p2, p7⟩ := prime_bounds hp
  have HA := hidP (fun w' => sAbelian_ok p (exDim k) w' hp (by omega) (by omega))
  obtain ⟨N, hN⟩ : ∃ N, N = ((exDim k : Int) * exDim k * exDim k).toNat := ⟨_, rfl⟩
  rw [← hN] at HA
  have HN0 := hidP hN
  clear hN
  go_enter Tryz.func83, Tryz.ntmps83
  go_wp2_with (go_at_call 140; refine (hR.out _).mono ?_; rintro e w1 ⟨aR, cR, rfl, hrows, hx1⟩; go_wp2_with (go_at_call 127; refine (HA.out _).mono ?_; rintro e w2 ⟨aT, rfl, hown, hx2⟩))
  have hN := HN0.out
  have hxa := (Ext.alloc w (.cells #[.int .i64 0, .int .i64 0, .slice none 0 0] 26)).trans hx1
  obtain ⟨w3, hw3⟩ : ∃ w3, w3 = w2.alloc (.cells #[.int .i64 p, .int .i64 (exDim k : Int), .slice aT N N] 26) := ⟨_, rfl⟩
  rw [← hw3]
  have hx3 : Ext w2 w3 := by rw [hw3]; exact Ext.alloc _ _
  have halg : AlgAt w3 w2.heap.size p (exDim k) aT N N := by rw [hw3]; exact AlgAt.new w2 _ rfl _ _ _ _ _ _
  have hres : AlgAt w1 w.heap.size 0 0 none 0 0 := (AlgAt.new w _ rfl _ _ _ _ _ _).below hx1
  have hresf : ∀ j, w1.frozen? ⟨w.heap.size, j, none⟩ = false := fun j => by
    rw [hx1.frozen (p := ⟨w.heap.size, j, none⟩) (by simp)]
    exact frozen_top _ _ _ _ _ rfl
  have hsz1 : w.heap.size < w1.heap.size := by have := hx1.size; simp at this; omega
  have hown3 := hown.below hx3
  have HO := hidP hown3
  have HOB := hidP hown.at_base
  have HRW := hidP hrows
  have HX12 := hidP (hx2.trans hx3)
  have HAL := hidP halg
  have HRS := hidP hres
  have HRF := hidP hresf
  have HXA := hidP hxa
  have hst := UpdI.start hown3.ints
  rw [show List.replicate N 0 = exTabTo k p 0 by rw [exTabTo_zero, hN]] at hst
  have HST := hidP hst
  have hN' : (N : Int) = (exDim k : Int) * exDim k * exDim k := by
    have := (cube_le (d := exDim k) (by omega) (by omega)).2.2.1
    omega
  have HN := hidP hN
  have HN' := hidP hN'
  have hrl := exRows_ok k hk
  have HRL := hidP hrl
  clear hown hrows hx1 hx2 hx3 halg hw3 hres hresf hown3 hst hN hN' hrl hR HA hxa
  go_loopw [8] (fun i wr => ∃ r : Nat, r ≤ (exRows k).length ∧ Hid (UpdI w3 wr aT N (exTabTo k p r)) ∧ i = .int .i64 r) (fun i _ => (exRows k).length - (intOf i).toNat)
  case atStart => exact ⟨0, Nat.zero_le _, HST, rfl⟩
  case round =>
    obtain ⟨r, hr, HU, rfl⟩ := hrel
    have hbl := hidP (HU.out.below HX12.out HX12.out.size (fun b o e _ => (HOB.out b o e).1))
    by_cases hlt : r < (exRows k).length
    · have hok := HRL.out r hlt
      simp only [exRowOk, decide_eq_true_eq] at hok
      obtain ⟨m4, m0, m0', m1, m1', m2, m2', m3, m3'⟩ := hok
      obtain ⟨bR, oR, aR', cR', rfl, hc, hi⟩ := (HRW.out.below hbl.out).get r hlt
      rw [m4] at hc hi
      obtain ⟨b', o', rfl, _⟩ := hi.get 0 (by omega)
      have q0 := hi.atc 0 (by omega)
      have q1 := hi.atc 1 (by omega)
      have q2 := hi.atc 2 (by omega)
      have q3 := hi.atc 3 (by omega)
      rw [Nat.add_zero] at q0
      have hst := exTabTo_succ k p r hlt
      unfold setTab at hst
      have hal := HAL.out.upd HU.out (fun b' o' e => by have := (HOB.out b' o' e).2; omega)
      have hO := HU.out.own HO.out
      generalize ((exRows k).getD r []).getD 0 0 = x0 at *
      generalize ((exRows k).getD r []).getD 1 0 = x1 at *
      generalize ((exRows k).getD r []).getD 2 0 = x2 at *
      generalize ((exRows k).getD r []).getD 3 0 = x3 at *
      have hbR := World.block_lt_of_cell? wr _ hc
      have hb' := World.block_lt_of_cell? wr _ q0
      have HF := hidP (fun w' (hx : Ext wr w') => (⟨(hal.below hx).c0, (hal.below hx).c1, (hal.below hx).c2, (hx.cell (p := ⟨bR, oR + r, none⟩) hbR).trans hc, (hx.cell (p := ⟨b', o', none⟩) hb').trans q0, (hx.cell (p := ⟨b', o' + 1, none⟩) hb').trans q1, (hx.cell (p := ⟨b', o' + 2, none⟩) hb').trans q2, (hx.cell (p := ⟨b', o' + 3, none⟩) hb').trans q3⟩ : _ ∧ _ ∧ _ ∧ _ ∧ _ ∧ _ ∧ _ ∧ _))
      have HS := hidP (fun w' (hx : Ext wr w') => l7Set_any p (exDim k) x0 x1 x2 x3 aT N N _ w' (hO.below hx).ints (by omega) (by omega) HN'.out (by omega) (by omega) m0 m0' m1 m1' m2 m2' (by omega) (by omega) (hO.below hx).unfrozen)
      rw [← hst] at HS
      have HOO := hidP hO
      have hE : Ext wr wr.drew := Ext.drew wr
      have hl4 : (r : Int) < (exRows k).length := by omega
      clear hal hO hst hc q0 q1 q2 q3 hi
      go_wp2
      (refine walkR_start (fun w' => Ext wr w') 25 (by kernel_rfl) ?_; simp only [numbered, List.take_succ_cons, List.take_zero, Nat.zero_add, Nat.reduceAdd, List.length_cons, List.length_nil])
      repeat (refine walkR_still (v := ?_) rfl (by decide +kernel) rfl (fun _ _ _ h => h) hE ?_ ?_; rotate_left; (focus (intro w' hw'; obtain ⟨f0, f1, f2, f3, f4, f5, f6, f7⟩ := HF.out w' hw'; go_simp; all_goals (with_reducible rfl))); simp only [Act.put, List.setIfInBounds_toArray, List.set_cons_zero, List.set_cons_succ])
      (refine walkR_tail (by rfl) (by kernel_rfl) ?_; simp only [List.drop_succ_cons, List.drop_zero])
      go_wp2_with (go_at_call 141; refine (HS.out _ (Ext.drew wr)).mono ?_; rintro e w4 ⟨rfl, hu4⟩)
      go_roundw
      case rel => exact ⟨r + 1, by omega, HU.out.trans ((Ext.drew wr).upd HOO.out.ints hu4), by go_num⟩
      case measure => simp [intOf]; omega
    · obtain rfl : r = (exRows k).length := by omega
      have hO := HU.out.own HO.out
      rw [exTabTo_all] at hO
      have HOO := hidP hO
      have hal := HAL.out.upd HU.out (fun b' o' e => by have := (HOB.out b' o' e).2; omega)
      obtain ⟨f0, f1, f2⟩ := hal
      have hrs := HRS.out.below hbl.out
      obtain ⟨g0, g1, g2⟩ := hrs
      have z0 := (hbl.out.frozen (p := ⟨w.heap.size, 0, none⟩) hsz1).trans (HRF.out 0)
      have z1 := (hbl.out.frozen (p := ⟨w.heap.size, 1, none⟩) hsz1).trans (HRF.out 1)
      have z2 := (hbl.out.frozen (p := ⟨w.heap.size, 2, none⟩) hsz1).trans (HRF.out 2)
      clear hO
      go_wp2
      refine bodyPost_ret (v := algV p (exDim k) aT N N) (by simp [results, Tryz.results83, go_sem, g0, g1, g2]) rfl ⟨_, _, rfl, ?_, ?_⟩
      · exact (((HOO.out.setBelow _ _ hsz1 _).setBelow _ _ hsz1 _).setBelow _ _ hsz1 _).base (by omega)
      · refine Ext.setNew (Ext.setNew (Ext.setNew ?_ _ _ (Nat.le_refl _) _) _ _ (Nat.le_refl _) _) _ _ (Nat.le_refl _) _
        exact Ext.trans HXA.out hbl.out
end Go.Proofs.YtenlhfimdpcaoaaGreat

namespace Go.Proofs.YtenlhfimdpcaoaaGreat
open Go.ChangeShapes Go.WideShapes Go.ChangeAt Go.RowKit Go.Joins Go.Deep

theorem plain_of_cell {w : World} {a : Addr} {v : Value} (h : w.cell? (a.add 0) = some v) : a = ⟨a.block, a.off, none⟩ := by
  unfold Addr.add at h
  simp only [if_true] at h
  unfold World.cell? at h
  split at h
  · split at h
    · cases h
    · rename_i hs
      cases a
      simp at hs
      simp [hs]
  · cases h
theorem add_plain (b o i : Nat) : (⟨b, o, none⟩ : Addr).add i = ⟨b, o + i, none⟩ := by
  unfold Addr.add
  split
  · subst_vars; rfl
  · rfl
section
variable {H : Type} {enc : TypeId × Value → H} {P : Program} {w : World} {base : Nat} {spare : Nat → Bool} {held : Bool}

end
end Go.Proofs.YtenlhfimdpcaoaaGreat

namespace Go.Proofs.YtenlhfimdpcaoaaGreat
open Go.ChangeShapes Go.WideShapes Go.ChangeAt Go.RowKit Go.Joins Go.Deep

/-- a slice of bytes, read -/
structure BytesAt (w : World) (a : Option Addr) (n : Nat) (bs : List Int) : Prop where
  len : bs.length = n
  get : ∀ i, i < n → ∃ b o, a = some ⟨b, o, none⟩ ∧ w.cell? ⟨b, o + i, none⟩ = some (.int .u8 (bs.getD i 0)) ∧ 0 ≤ bs.getD i 0 ∧ bs.getD i 0 ≤ 255
theorem bytes_in {H : Type} {enc : TypeId × Value → H} {P : Program} {w : World} {base : Nat} {spare : Nat → Bool} {held : Bool} {t e : TypeId} {fuel : Nat} {cs : List Value} {x : DataW H × List MemPlace} (ht : P.underlying t = some (.slice e)) (he : P.underlying e = some (.int .u8)) (hc : P.cellsOf e = 1)
    (h : DataW.trod enc P w base spare held fuel t cs = some x) : ∃ ao n c xs, cs = [.slice ao n c] ∧ BytesAt w ao n xs ∧ n ≤ 9223372036854775807 := by
  rcases open_ints ht he hc h with ⟨rfl, _⟩ | ⟨a, len, cap, zs, rfl, _, hl, hm, hz, _, hcell, hwf⟩
  · exact ⟨none, 0, 0, [], rfl, ⟨rfl, fun i h => by omega⟩, by omega⟩
  · have hlen : len ≤ zs.length := by rw [hz]; split <;> omega
    refine ⟨some a, len, cap, zs.take len, rfl, ⟨by simp [hlen], fun i hi => ?_⟩, by unfold maxLen at hm; omega⟩
    have h0 := plain_of_cell (hcell 0 (by omega))
    have hi' := hcell i (by omega)
    rw [h0, add_plain] at hi'
    have e1 : (zs.take len).getD i 0 = zs.getD i 0 := by simp [List.getD_eq_getElem?_getD, hi]
    refine ⟨_, _, congrArg some h0, by rw [hi', e1], ?_⟩
    have hmem : (zs.take len).getD i 0 ∈ zs := by
      simp only [List.getD_eq_getElem?_getD, List.getElem?_take, hi, if_true]
      rw [List.getElem?_eq_getElem (by omega)]
      exact List.getElem_mem _
    have := hwf _ hmem
    simpa [Lit.wf, IntKind.min, IntKind.max, IntKind.signed, IntKind.bits] using this
theorem big_any (a : Option Addr) (n c : Nat) (w : World) : Calls Tryz.prog 10 #[.slice a n c] w fun e w' => e = .returned (.bool (decide (1048576 < n))) ∧ w = w' := by
  have hb : decide ((1048576 : Int) < (n : Int)) = decide (1048576 < n) := by
    rw [decide_eq_decide]
    omega
  have HB := hidP hb
  clear hb
  go_enter Tryz.func10, Tryz.ntmps10
  go_wp2
  go_ret
  exact ⟨ret_bool (by first | exact HB.out | rfl), rfl⟩
theorem BytesAt.below {w w' : World} {a : Option Addr} {n : Nat} {bs : List Int} (h : BytesAt w a n bs) (hx : Ext w w') : BytesAt w' a n bs :=
  ⟨h.len, fun i hi => by obtain ⟨b, o, e, q, r⟩ := h.get i hi; exact ⟨b, o, e, (hx.cell (p := ⟨b, o + i, none⟩) (World.block_lt_of_cell? w _ q)).trans q, r⟩⟩
theorem BytesAt.grown {w w' : World} {a : Option Addr} {n : Nat} {bs : List Int} (h : BytesAt w a n bs) {g : Nat} (hg : w.grownBy w' (some g)) (hne : ∀ b o, a = some ⟨b, o, none⟩ → 0 < n → b < g) : BytesAt w' a n bs :=
  ⟨h.len, fun i hi => by
    obtain ⟨b, o, e, q, r⟩ := h.get i hi
    refine ⟨b, o, e, ?_, r⟩
    rw [World.cell?_of_block (w := w) (hg.block b (World.block_lt_of_cell? w _ q) (by have := hne b o e (by omega); simp only [ne_eq, Option.some.injEq]; omega))]
    exact q⟩
end Go.Proofs.YtenlhfimdpcaoaaGreat

namespace Go.Proofs.YtenlhfimdpcaoaaGreat
open Go.RowKit

/-- block g is a cursor over the bytes at a -/
structure CurAt (w : World) (g : Nat) (a : Option Addr) (n c : Nat) : Prop where
  ex : ∃ (i : Nat) (h : Int), i ≤ n ∧ w.cell? ⟨g, 0, none⟩ = some (.slice a n c) ∧ w.cell? ⟨g, 1, none⟩ = some (.int .i64 i) ∧ w.cell? ⟨g, 2, none⟩ = some (.int .i64 h)
  fr : ∀ j, w.frozen? ⟨g, j, none⟩ = false
  far : ∀ b o, a = some ⟨b, o, none⟩ → 0 < n → b < g
  blk : ∃ cur fr, w.heap[g]? = some (.cells cur 112 fr)
theorem CurAt.grown {w w' : World} {g : Nat} {a : Option Addr} {n c : Nat} (h : CurAt w g a n c) {row : Option Nat} (hg : w.grownBy w' row) (hne : some g ≠ row) : CurAt w' g a n c := by
  obtain ⟨cur, fr, hb⟩ := h.blk
  have hl : g < w.heap.size := (Array.getElem?_eq_some_iff.1 hb).1
  have he := hg.block g hl hne
  obtain ⟨i, x, hi, f0, f1, f2⟩ := h.ex
  exact ⟨⟨i, x, hi, (World.cell?_of_block (w := w) he).trans f0, (World.cell?_of_block (w := w) he).trans f1, (World.cell?_of_block (w := w) he).trans f2⟩, fun j => by rw [World.frozen?_of_block he]; exact h.fr j, h.far, cur, fr, he.trans hb⟩
theorem CurAt.lt {w : World} {g : Nat} {a : Option Addr} {n c : Nat} (h : CurAt w g a n c) : g < w.heap.size := by
  obtain ⟨cur, fr, hb⟩ := h.blk
  exact (Array.getElem?_eq_some_iff.1 hb).1
theorem CurAt.below {w w' : World} {g : Nat} {a : Option Addr} {n c : Nat} (h : CurAt w g a n c) (hx : Ext w w') : CurAt w' g a n c :=
  h.grown (row := none) ⟨hx.os, hx.tape, hx.output, hx.size, fun k hk _ => hx.block k hk⟩ (by simp)
/-- a slice of integers that is owned lies elsewhere -/
theorem CurAt.apart {w : World} {g B : Nat} {a a' : Option Addr} {n c n' c' : Nat} {xs : List Int} (h : CurAt w g a n c) (k : OwnI w B a' n' c' xs) : ∀ b o, a' = some ⟨b, o, none⟩ → b ≠ g := by
  intro b o e hb
  subst hb
  obtain ⟨cur, hc⟩ := k.block e
  obtain ⟨cur', fr, hc'⟩ := h.blk
  rw [hc] at hc'
  simp only [Option.some.injEq, Obj.cells.injEq] at hc'
  exact absurd hc'.2.1 (by decide)
theorem CurAt.own {w w' : World} {g B : Nat} {a a' : Option Addr} {n c n' c' : Nat} {xs : List Int} (h : CurAt w g a n c) (k : OwnI w B a' n' c' xs) (hg : w.grownBy w' (some g)) : OwnI w' B a' n' c' xs :=
  k.grown hg fun b o e => by have := h.apart k b o e; simpa using this
theorem CurAt.ownGrown {w w' : World} {g B : Nat} {a a' : Option Addr} {n c n' c' : Nat} {xs : List Int} (h : CurAt w g a n c) (k : OwnI w B a' n' c' xs) (hg : w.grownBy w' (Value.slice a' n' c').ownBlock) : CurAt w' g a n c := by
  refine h.grown hg ?_
  cases a' with
  | none => simp [Value.ownBlock]
  | some p =>
    rcases k.row.2 with ⟨he, _⟩ | ⟨g', cap, cur, he, _⟩
    · simp at he
    · simp only [Value.slice.injEq, Option.some.injEq] at he
      obtain ⟨rfl, _⟩ := he
      have := h.apart k g' 0 rfl
      simp only [Value.ownBlock, ne_eq, Option.some.injEq]
      omega
def Drawn (w : World) (g : Nat) (a : Option Addr) (n c : Nat) (P : Nat → Prop) (e : Ending) (w' : World) : Prop := ∃ v : Nat, P v ∧ e = .returned (.int .i64 v) ∧ CurAt w' g a n c ∧ w.grownBy w' (some g)

theorem gb_trans {a b c : World} {g : Option Nat} (h : a.grownBy b g) (k : b.grownBy c g) : a.grownBy c g :=
  ⟨k.os.trans h.os, k.tape.trans h.tape, k.output.trans h.output, Nat.le_trans h.size k.size, fun j hj hne => (k.block j (Nat.lt_of_lt_of_le hj h.size) hne).trans (h.block j hj hne)⟩
theorem bits_below (x : Int) (m : Nat) (hm : m < 4611686018427387904) : ∃ v : Nat, v ≤ m ∧ bits .and .i64 x (m : Int) = (v : Int) := by
  have h2 : (BitVec.ofInt 64 (m : Int)).toNat = m := by
    rw [BitVec.ofInt_natCast, BitVec.toNat_ofNat]; exact Nat.mod_eq_of_lt (by omega)
  refine ⟨(BitVec.ofInt 64 x).toNat &&& m, Nat.and_le_right, ?_⟩
  have hx : (BitVec.ofInt 64 x).toNat &&& m ≤ m := Nat.and_le_right
  show IntKind.i64.wrap ((BitVec.ofInt 64 x &&& BitVec.ofInt 64 (m : Int)).toNat : Int) = _
  rw [BitVec.toNat_and, h2]
  exact wrap_in (by omega) (by omega)
theorem bits_255 (x : Int) : ∃ v : Nat, v ≤ 255 ∧ bits .and .i64 x 255 = (v : Int) := bits_below x 255 (by omega)
theorem bits_30 (x : Int) : ∃ v : Nat, v ≤ 1073741823 ∧ bits .and .i64 x 1073741823 = (v : Int) := bits_below x 1073741823 (by omega)

set_option maxRecDepth 100000 in
set_option maxHeartbeats 1000000 in
theorem l1Byte_any (g : Nat) (a : Option Addr) (n c : Nat) (bs : List Int) (w : World) (hc : CurAt w g a n c) (hb : BytesAt w a n bs) (hn : n ≤ 1048576) :
    Calls Tryz.prog 151 #[.pointer (some ⟨g, 0, none⟩)] w (Drawn w g a n c (fun v => v ≤ 255)) := by
  obtain ⟨i, h, hi, f0, f1, f2⟩ := hc.ex
  have fr0 := hc.fr 0
  have fr1 := hc.fr 1
  have fr2 := hc.fr 2
  go_enter Tryz.func151, Tryz.ntmps151
  go_wp2
  obtain ⟨h1, hh1⟩ : ∃ h1, h1 = wrap64 (wrap64 (h * 6364136223846793005) + 1442695040888963407) := ⟨_, rfl⟩
  rw [← hh1]
  clear hh1
  obtain ⟨w1, hw1⟩ : ∃ w1, w1 = w.setCell ⟨g, 2, none⟩ (.int .i64 h1) := ⟨_, rfl⟩
  have e0 : w1.cell? ⟨g, 0, none⟩ = some (.slice a n c) := by rw [hw1, World.cell?_setCell_other w _ _ _ (by simp)]; exact f0
  have e1 : w1.cell? ⟨g, 1, none⟩ = some (.int .i64 i) := by rw [hw1, World.cell?_setCell_other w _ _ _ (by simp)]; exact f1
  have e2 : w1.cell? ⟨g, 2, none⟩ = some (.int .i64 h1) := by rw [hw1]; exact World.cell?_setCell_same _ _ _ f2
  have hg1 : w.grownBy w1 (some g) := by rw [hw1]; exact ⟨rfl, rfl, rfl, by simp, fun k hk hne => Below.heap_setCell _ _ _ _ (by simpa using hne)⟩
  have bl : ∃ cur fr, w1.heap[g]? = some (.cells cur 112 fr) := by
    obtain ⟨cur, fr, hb⟩ := hc.blk
    rw [hw1]
    exact ⟨_, _, heap_setCell_at w g 2 _ _ _ _ hb⟩
  have k0 : ∀ j, w1.frozen? ⟨g, j, none⟩ = false := by intro j; rw [hw1, World.frozen?_setCell]; exact hc.fr j
  rw [← hw1]
  clear hw1
  go_quiet (fail)
  go_wp2
  obtain ⟨x, hx, hxe⟩ := bits_255 (bits BinOp.xor IntKind.i64 (h1 / 8589934592) (h1 / 35184372088832))
  rw [hxe]
  clear hxe
  by_cases hlt : i < n
  · obtain ⟨b, o, rfl, q0, y0, y1⟩ := (hb.grown hg1 hc.far).get i hlt
    obtain ⟨y, hy⟩ := Int.eq_ofNat_of_zero_le y0
    rw [hy] at q0 y1
    have q1 : wrap64 (y : Int) = (y : Int) := by unfold wrap64; omega
    clear hy y0
    go_quiet (fail)
    go_wp2
    go_quiet (fail)
    go_wp2
    obtain ⟨z, hz, hze⟩ := bits_255 ((x : Int) + y)
    rw [hze]
    clear hze
    go_ret
    refine ⟨z, hz, rfl, ?_, ?_⟩
    · refine ⟨⟨i + 1, h1, by omega, ?_, ?_, ?_⟩, fun j => ?_, hc.far, ?_⟩
      · rw [World.cell?_setCell_other _ _ _ _ (by simp)]; exact e0
      · rw [World.cell?_setCell_same _ _ _ (show (w1.drewN _).cell? _ = some (.int .i64 i) from e1)]; congr 1
      · rw [World.cell?_setCell_other _ _ _ _ (by simp)]; exact e2
      · rw [World.frozen?_setCell]; exact k0 j
      · obtain ⟨cur, fr, hb⟩ := bl
        exact ⟨_, _, heap_setCell_at (w1.drewN _) g 1 _ _ _ _ hb⟩
    · exact gb_trans hg1 ⟨rfl, rfl, rfl, by simp [World.setCell, World.drewN], fun k hk hne => Below.heap_setCell _ _ _ _ (by simpa using hne)⟩
  · go_quiet (fail)
    go_wp2
    go_ret
    exact ⟨x, hx, rfl, ⟨⟨i, h1, hi, e0, e1, e2⟩, k0, hc.far, bl⟩, gb_trans hg1 ⟨rfl, rfl, rfl, Nat.le_refl _, fun _ _ _ => rfl⟩⟩
def BelowP (k : Int) (v : Nat) : Prop := (k ≤ 0 → v = 0) ∧ (0 < k → (v : Int) < k)
set_option maxRecDepth 100000 in
set_option maxHeartbeats 1000000 in
theorem l1Below_any (g : Nat) (k : Int) (a : Option Addr) (n c : Nat) (bs : List Int) (w : World) (hc : CurAt w g a n c) (hb : BytesAt w a n bs) (hn : n ≤ 1048576) (hk : k ≤ 1000000000000) :
    Calls Tryz.prog 108 #[.pointer (some ⟨g, 0, none⟩), .int .i64 k] w (Drawn w g a n c (BelowP k)) := by
  by_cases h0 : k ≤ 0
  · go_enter Tryz.func108, Tryz.ntmps108
    go_wp2
    go_ret
    exact ⟨0, ⟨fun _ => rfl, fun h => by omega⟩, rfl, hc, ⟨rfl, rfl, rfl, Nat.le_refl _, fun _ _ _ => rfl⟩⟩
  · have hk1 : 1 ≤ k := by omega
    obtain ⟨m, rfl⟩ := Int.eq_ofNat_of_zero_le (show 0 ≤ k by omega)
    have HC := hidP hc
    have HB := hidP hb
    clear hc hb
    by_cases h1 : (m : Int) ≤ 256
    · have HL := hidP (l1Byte_any g a n c bs w HC.out HB.out hn)
      go_enter Tryz.func108, Tryz.ntmps108
      go_wp2_with fail
      refine HL.out.mono ?_
      rintro e w1 ⟨v, hv, rfl, hc1, hg1⟩
      have HC1 := hidP hc1
      have HG1 := hidP hg1
      clear hc1 hg1
      go_wp2
      go_ret
      exact ⟨v % m, ⟨fun h => by omega, fun h => by have := Nat.mod_lt v (show 0 < m by omega); omega⟩, by first | rfl | (congr 2), HC1.out, HG1.out⟩
    · have HL := hidP (fun w' (hc : CurAt w' g a n c) (hb : BytesAt w' a n bs) => l1Byte_any g a n c bs w' hc hb hn)
      go_enter Tryz.func108, Tryz.ntmps108
      go_wp2_with fail
      refine (HL.out _ HC.out HB.out).mono ?_
      rintro e w1 ⟨v1, hv1, rfl, hc1, hg1⟩
      have HB1 := hidP (HB.out.grown hg1 HC.out.far)
      have HC1 := hidP hc1
      have HG1 := hidP hg1
      clear hc1 hg1
      go_wp2_with fail
      refine (HL.out _ HC1.out HB1.out).mono ?_
      rintro e w2 ⟨v2, hv2, rfl, hc1, hg1⟩
      have HB2 := hidP (HB1.out.grown hg1 HC1.out.far)
      have HC2 := hidP hc1
      have HG2 := hidP (gb_trans HG1.out hg1)
      clear hc1 hg1
      go_wp2_with fail
      refine (HL.out _ HC2.out HB2.out).mono ?_
      rintro e w3 ⟨v3, hv3, rfl, hc1, hg1⟩
      have HB3 := hidP (HB2.out.grown hg1 HC2.out.far)
      have HC3 := hidP hc1
      have HG3 := hidP (gb_trans HG2.out hg1)
      clear hc1 hg1
      go_wp2_with fail
      refine (HL.out _ HC3.out HB3.out).mono ?_
      rintro e w4 ⟨v4, hv4, rfl, hc1, hg1⟩
      have HC4 := hidP hc1
      have HG4 := hidP (gb_trans HG3.out hg1)
      clear hc1 hg1
      go_wp2
      go_ret
      refine ⟨(v1 * 16777216 + v2 * 65536 + v3 * 256 + v4) % m, ⟨fun h => by omega, fun h => ?_⟩, ?_, HC4.out, HG4.out⟩
      · have := Nat.mod_lt (v1 * 16777216 + v2 * 65536 + v3 * 256 + v4) (show 0 < m by omega)
        omega
      · congr 2
theorem CurAt.new (a : Option Addr) (n c : Nat) (bs : List Int) (w : World) (hb : BytesAt w a n bs) (h : Int) :
    CurAt (w.alloc (.cells #[.slice a n c, .int .i64 0, .int .i64 h] 112)) w.heap.size a n c := by
  refine ⟨⟨0, h, Nat.zero_le _, (cell_top _ _ _ _ _ rfl).trans rfl, (cell_top _ _ _ _ _ rfl).trans rfl, (cell_top _ _ _ _ _ rfl).trans rfl⟩, fun j => frozen_top _ _ _ _ _ rfl, fun b o e h0 => ?_, _, _, heap_alloc_new _ _⟩
  obtain ⟨b', o', e', q, _⟩ := hb.get 0 h0
  rw [e] at e'
  simp only [Option.some.injEq, Addr.mk.injEq, and_true] at e'
  obtain ⟨rfl, rfl⟩ := e'
  exact World.block_lt_of_cell? w _ q
set_option maxHeartbeats 1000000 in
theorem l1New_any (a : Option Addr) (n c : Nat) (bs : List Int) (w : World) (hb : BytesAt w a n bs) (hn : n ≤ 1048576) :
    Calls Tryz.prog 57 #[.slice a n c] w fun e w' => ∃ g, e = .returned (.pointer (some ⟨g, 0, none⟩)) ∧ CurAt w' g a n c ∧ w.heap.size ≤ g ∧ Ext w w' := by
  have HB := hidP hb
  clear hb
  go_enter Tryz.func57, Tryz.ntmps57
  go_wp2
  go_loop [3, 4] (fun v i => ∃ k h : Nat, k ≤ n ∧ h ≤ 1073741823 ∧ v = .int .i64 h ∧ i = .int .i64 k) (fun _ i => n - (intOf i).toNat)
  case atStart => exact ⟨0, 124929 + n, Nat.zero_le _, by omega, by first | rfl | go_num, rfl⟩
  case round =>
    obtain ⟨k, h, hk, hh, rfl, rfl⟩ := hrel
    by_cases hlt : k < n
    · by_cases h4 : (k : Int) < 4000
      · obtain ⟨b, o, rfl, q0, y0, y1⟩ := HB.out.get k hlt
        obtain ⟨y, hy⟩ := Int.eq_ofNat_of_zero_le y0
        rw [hy] at q0 y1
        have q1 : wrap64 (y : Int) = (y : Int) := by unfold wrap64; omega
        clear hy y0
        obtain ⟨z, hz, hze⟩ := bits_30 ((h : Int) * 131 + y + 7)
        go_wp2
        go_round
        case rel => exact ⟨k + 1, z, by omega, hz, by first | rfl | rw [hze], by go_num⟩
        case measure => simp [intOf]; omega
      · have HN := hidP (fun h => CurAt.new a n c bs w HB.out h)
        go_wp2
        go_ret
        exact ⟨w.heap.size, rfl, HN.out _, Nat.le_refl _, Ext.alloc _ _⟩
    · have HN := hidP (fun h => CurAt.new a n c bs w HB.out h)
      go_wp2
      go_ret
      exact ⟨w.heap.size, rfl, HN.out _, Nat.le_refl _, Ext.alloc _ _⟩
end Go.Proofs.YtenlhfimdpcaoaaGreat

namespace Go.Proofs.YtenlhfimdpcaoaaGreat
open Go.RowKit

theorem Ext.gb {w w' : World} (h : Ext w w') (r : Option Nat) : w.grownBy w' r := ⟨h.os, h.tape, h.output, h.size, fun k hk _ => h.block k hk⟩
/-- drawn: the cursor is as it was, but for its own block; all else is new -/
structure DrawSt (w w' : World) (g : Nat) (a : Option Addr) (n c : Nat) : Prop where
  cur : CurAt w' g a n c
  gb : w.grownBy w' (some g)
theorem DrawSt.refl {w : World} {g : Nat} {a : Option Addr} {n c : Nat} (h : CurAt w g a n c) : DrawSt w w g a n c := ⟨h, rfl, rfl, rfl, Nat.le_refl _, fun _ _ _ => rfl⟩
theorem DrawSt.trans {w w1 w2 : World} {g : Nat} {a : Option Addr} {n c : Nat} (h : DrawSt w w1 g a n c) (k : DrawSt w1 w2 g a n c) : DrawSt w w2 g a n c := ⟨k.cur, gb_trans h.gb k.gb⟩
theorem DrawSt.ext {w w1 w2 : World} {g : Nat} {a : Option Addr} {n c : Nat} (h : DrawSt w w1 g a n c) (k : Ext w1 w2) : DrawSt w w2 g a n c := ⟨h.cur.below k, gb_trans h.gb (k.gb _)⟩
theorem DrawSt.bytes {w w' : World} {g : Nat} {a : Option Addr} {n c : Nat} {bs : List Int} (h : DrawSt w w' g a n c) (hb : BytesAt w a n bs) : BytesAt w' a n bs := hb.grown h.gb h.cur.far
theorem DrawSt.own {w w' : World} {g B : Nat} {a a' : Option Addr} {n c n' c' : Nat} {xs : List Int} (h : DrawSt w w' g a n c) (h0 : CurAt w g a n c) (k : OwnI w B a' n' c' xs) : OwnI w' B a' n' c' xs := h0.own k h.gb

set_option maxHeartbeats 1000000 in
theorem l1Once_any (g : Nat) (k : Int) (a : Option Addr) (n c : Nat) (bs : List Int) (w : World) (hc : CurAt w g a n c) (hb : BytesAt w a n bs) (hn : n ≤ 1048576) (hk : k ≤ 1000000000000) :
    Calls Tryz.prog 60 #[.pointer (some ⟨g, 0, none⟩), .int .i64 k] w fun e w' => ∃ b : Bool, e = .returned (.bool b) ∧ DrawSt w w' g a n c := by
  have HB := hidP (l1Below_any g k a n c bs w hc hb hn hk)
  clear hc hb
  go_enter Tryz.func60, Tryz.ntmps60
  go_wp2_with fail
  refine HB.out.mono ?_
  rintro e w1 ⟨v, hv, rfl, hc1, hg1⟩
  have HD := hidP (⟨hc1, hg1⟩ : DrawSt w w1 g a n c)
  clear hc1 hg1 hv
  go_wp2
  go_ret
  exact ⟨_, rfl, HD.out⟩
set_option maxHeartbeats 1000000 in
theorem l1PickInt_any (g : Nat) (a : Option Addr) (n c : Nat) (bs : List Int) (b o m cm : Nat) (xs : List Int) (w : World) (hc : CurAt w g a n c) (hb : BytesAt w a n bs) (hn : n ≤ 1048576) (hx : IntsAt w (some ⟨b, o, none⟩) m xs) (hne : b ≠ g) (hm : 0 < m) (hm2 : m ≤ 1000000) :
    Calls Tryz.prog 123 #[.pointer (some ⟨g, 0, none⟩), .slice (some ⟨b, o, none⟩) m cm] w fun e w' => ∃ t, t < m ∧ e = .returned (.int .i64 (xs.getD t 0)) ∧ DrawSt w w' g a n c := by
  have HB := hidP (l1Below_any g (m : Int) a n c bs w hc hb hn (by omega))
  have HX := hidP (fun (w' : World) (hg : w.grownBy w' (some g)) t (ht : t < m) => (World.cell?_of_block (a := ⟨b, o + t, none⟩) (hg.block b (World.block_lt_of_cell? w _ (hx.atc t ht)) (by simpa using hne))).trans (hx.atc t ht))
  clear hc hb hx
  go_enter Tryz.func123, Tryz.ntmps123
  go_wp2_with fail
  refine HB.out.mono ?_
  rintro e w1 ⟨v, hv, rfl, hc1, hg1⟩
  have hvm : v < m := by have := hv.2 (by omega); omega
  have hq := HX.out w1 hg1 v hvm
  have hvI : (v : Int) < (m : Int) := by omega
  have HD := hidP (⟨hc1, hg1⟩ : DrawSt w w1 g a n c)
  clear hc1 hg1 hv HX HB
  go_wp2
  go_ret
  exact ⟨v, hvm, rfl, HD.out⟩
def drawP : List Int := [2, 3, 5, 7, 11, 101]
theorem drawP_prime : ∀ p ∈ drawP, primeB p = true := by decide +kernel
set_option maxHeartbeats 1000000 in
theorem l12Prime_any (g : Nat) (a : Option Addr) (n c : Nat) (bs : List Int) (w : World) (hc : CurAt w g a n c) (hb : BytesAt w a n bs) (hn : n ≤ 1048576) :
    Calls Tryz.prog 58 #[.pointer (some ⟨g, 0, none⟩)] w fun e w' => ∃ p, p ∈ drawP ∧ e = .returned (.int .i64 p) ∧ DrawSt w w' g a n c := by
  have hx := Ext.alloc w (.cells (ivs drawP).toArray 3)
  have hi := ints_alloc w drawP 3
  have HP := hidP (l1PickInt_any g a n c bs w.heap.size 0 6 6 drawP _ (hc.below hx) (hb.below hx) hn hi (by have := hc.lt; omega) (by omega) (by omega))
  have HD : Hid (∀ w', DrawSt (w.alloc (.cells (ivs drawP).toArray 3)) w' g a n c → DrawSt w w' g a n c) := fun w' h => ⟨h.cur, gb_trans (hx.gb _) h.gb⟩
  clear hx hi hc hb
  go_enter Tryz.func58, Tryz.ntmps58
  go_wp2_with fail
  refine HP.out.mono ?_
  rintro e w1 ⟨t, ht, rfl, hd⟩
  have HD1 := hidP (HD.out _ hd)
  clear hd
  have hm : drawP.getD t 0 ∈ drawP := by
    rw [List.getD_eq_getElem?_getD, List.getElem?_eq_getElem (show t < drawP.length from ht)]
    exact List.getElem_mem _
  go_wp2
  go_ret
  exact ⟨_, hm, rfl, HD1.out⟩
theorem DrawSt.grown {w w1 w2 : World} {g B : Nat} {a a' : Option Addr} {n c n' c' : Nat} {xs : List Int} (h : DrawSt w w1 g a n c) (k : OwnI w1 B a' n' c' xs) (hB : w.heap.size ≤ B) (hg : w1.grownBy w2 (Value.slice a' n' c').ownBlock) : DrawSt w w2 g a n c := by
  refine ⟨h.cur.ownGrown k hg, ⟨hg.os.trans h.gb.os, hg.tape.trans h.gb.tape, hg.output.trans h.gb.output, Nat.le_trans h.gb.size hg.size, fun j hj hne => ?_⟩⟩
  refine (hg.block j (Nat.lt_of_lt_of_le hj h.gb.size) ?_).trans (h.gb.block j hj hne)
  cases a' with
  | none => simp [Value.ownBlock]
  | some ad =>
    have := k.addr_base ad rfl
    simp only [Value.ownBlock, ne_eq, Option.some.injEq]
    omega
set_option maxRecDepth 100000 in
set_option maxHeartbeats 2000000 in
theorem l12List_any (g : Nat) (k : Nat) (p : Int) (a : Option Addr) (n c : Nat) (bs : List Int) (w : World) (hc : CurAt w g a n c) (hb : BytesAt w a n bs) (hn : n ≤ 1048576) (hp : 1 ≤ p) (hp2 : p ≤ 1000000) (hk : k ≤ 1000000) :
    Calls Tryz.prog 96 #[.pointer (some ⟨g, 0, none⟩), .int .i64 k, .int .i64 p] w fun e w' => ∃ a' c' xs, e = .returned (.slice a' k c') ∧ OwnI w' w.heap.size a' k c' xs ∧ Res p xs ∧ DrawSt w w' g a n c := by
  have HBy := hidP hb
  have hx := Ext.alloc w (.cells #[] 3)
  have HO0 : Hid (OwnI (w.alloc (.cells #[] 3)) w.heap.size (some ⟨w.heap.size, 0, none⟩) 0 0 []) := OwnI.made w w.heap.size 0 (Nat.le_refl _) (by unfold maxLen; omega)
  have HD0 := hidP ((DrawSt.refl hc).ext hx)
  have HBe := hidP (fun w' (hd : DrawSt w w' g a n c) => l1Below_any g p a n c bs w' hd.cur (hd.bytes hb) hn (by omega))
  have HOn := hidP (fun w' (hd : DrawSt w w' g a n c) => l1Once_any g 3 a n c bs w' hd.cur (hd.bytes hb) hn (by omega))
  clear hc hb hx
  go_enter Tryz.func96, Tryz.ntmps96
  go_wp2
  go_loopw [7, 8] (fun v7 v8 wr => ∃ (m : Nat) (a' : Option Addr) (c' : Nat) (xs : List Int), m ≤ k ∧ v7 = .slice a' m c' ∧ v8 = .int .i64 m ∧ Hid (OwnI wr w.heap.size a' m c' xs) ∧ Hid (Res p xs) ∧ Hid (DrawSt w wr g a n c)) (fun _ v8 _ => k - (intOf v8).toNat)
  case atStart => exact ⟨0, _, 0, [], Nat.zero_le _, rfl, rfl, HO0, fun i hi => absurd hi (by simp), HD0⟩
  case round =>
    clear HO0 HD0
    obtain ⟨m, a', c', xs, hm, rfl, rfl, HO, HR, HD⟩ := hrel
    by_cases hlt : m < k
    · have HB1 := hidP (HBe.out wr HD.out)
      go_wp2_with fail
      refine HB1.out.mono ?_
      rintro e w1 ⟨v, hv, rfl, hc1, hg1⟩
      have hvp : (v : Int) < p := hv.2 (by omega)
      have hd1 : DrawSt wr w1 g a n c := ⟨hc1, hg1⟩
      have HO1 := hidP (hd1.own HD.out.cur HO.out)
      have HD1 := hidP (HD.out.trans hd1)
      have HO2 := hidP (HOn.out w1 HD1.out)
      clear hc1 hg1 hd1 hv HB1 HO HD
      go_wp2_with fail
      refine HO2.out.mono ?_
      rintro e w2 ⟨b, rfl, hd2⟩
      have HO3 := hidP (hd2.own HD1.out.cur HO1.out)
      have HD3 := hidP (HD1.out.trans hd2)
      have hms : w.heap.size ≤ w2.heap.size := HD3.out.gb.size
      have HSz := hidP hms
      clear hd2 HO2 HO1 HD1 hms
      have key : ∀ z : Int, 0 ≤ z → z < p → Res p (xs ++ [z]) := by
        intro z h0 h1 i hi
        rw [List.length_append, List.length_singleton] at hi
        have hr := HR.out i
        rw [List.getD_eq_getElem?_getD] at hr ⊢
        by_cases e : i < xs.length
        · rw [List.getElem?_append_left e]
          exact hr e
        · obtain rfl : i = xs.length := by omega
          simp [h0, h1]
      have HKey := hidP key
      clear key
      have fin : ∀ (z : Int), Hid (OwnI (w2.alloc (.cells #[.int .i64 z] 3)) w.heap.size a' m c' xs) ∧ Hid (DrawSt w (w2.alloc (.cells #[.int .i64 z] 3)) g a n c) ∧ Hid (IntsAt (w2.alloc (.cells #[.int .i64 z] 3)) (some ⟨w2.heap.size, 0, none⟩) 1 [z]) ∧ Hid (w.heap.size ≤ (w2.alloc (.cells #[.int .i64 z] 3)).heap.size) := fun z =>
        ⟨HO3.out.below (Ext.alloc _ _), HD3.out.ext (Ext.alloc _ _), ints_alloc w2 [z] 3, Nat.le_trans HSz.out (Ext.alloc w2 (.cells #[.int .i64 z] 3)).size⟩
      have HFin := hidP fin
      clear fin
      cases b with
      | true =>
        obtain ⟨h1, h2, h3, h4⟩ := HFin.out 0
        go_wp2_with (at_builtin; refine wpList_append_ints rfl (.tmp 21) (.tmp 23) rfl w.heap.size a' m c' xs rfl h1.out (some ⟨w2.heap.size, 0, none⟩) 1 1 [0] rfl h3.out (fun e => by cases e) (by omega) h4.out ?_; intro a5 c5 w5 ho5 hg5; have HO5 := hidP ho5; have HD5 := hidP (h2.out.grown h1.out (Nat.le_refl _) hg5); clear ho5 hg5)
        have HR5 := hidP (HKey.out 0 (by omega) (by omega))
        go_roundw
        case rel => exact ⟨m + 1, a5, c5, _, by omega, rfl, by go_num, HO5, HR5, HD5⟩
        case measure => simp [intOf]; omega
      | false =>
        obtain ⟨h1, h2, h3, h4⟩ := HFin.out (v : Int)
        go_wp2_with (at_builtin; refine wpList_append_ints rfl (.tmp 21) (.tmp 23) rfl w.heap.size a' m c' xs rfl h1.out (some ⟨w2.heap.size, 0, none⟩) 1 1 [(v : Int)] rfl h3.out (fun e => by cases e) (by omega) h4.out ?_; intro a5 c5 w5 ho5 hg5; have HO5 := hidP ho5; have HD5 := hidP (h2.out.grown h1.out (Nat.le_refl _) hg5); clear ho5 hg5)
        have HR5 := hidP (HKey.out (v : Int) (by omega) hvp)
        go_roundw
        case rel => exact ⟨m + 1, a5, c5, _, by omega, rfl, by go_num, HO5, HR5, HD5⟩
        case measure => simp [intOf]; omega
    · obtain rfl : m = k := by omega
      have hmm : ¬ (m : Int) < (m : Int) := by omega
      clear HBe HOn
      go_wp2
      go_ret
      first | exact ⟨a', c', xs, rfl, HO.out, HR.out, HD.out⟩ | exact ⟨a', c', rfl, xs, HO.out, HR.out, HD.out⟩
end Go.Proofs.YtenlhfimdpcaoaaGreat

namespace Go.Proofs.YtenlhfimdpcaoaaGreat
open Go.RowKit

/-- a table by its numbers that are not 0 -/
def spT (p : Int) (n : Nat) (es : List (Nat × Int)) : List Int := (List.range (n * n * n)).map fun q => ((es.find? fun e => e.1 == q).map fun e => e.2).getD 0 % p
/-- the simple algebra A1 -/
def a1T (p : Int) : List Int := spT p 3 [(3, -2), (7, 1), (9, 2), (17, -2), (19, -1), (23, 2)]

theorem a1_valid : ∀ p ∈ drawP, algB p 3 (a1T p) = true := by decide +kernel
theorem abelian_valid : ∀ p ∈ drawP, ∀ n : Nat, n < 4 → algB p n (List.replicate (n * n * n) 0) = true := by decide +kernel
end Go.Proofs.YtenlhfimdpcaoaaGreat

namespace Go.Proofs.YtenlhfimdpcaoaaGreat
open Go.RowKit

theorem a1_found : foundL 1 [2] = some [[1]] := by decide +kernel
theorem a1_type : typeB 1 [2] = true := by decide +kernel
theorem a1_lens : lenOk 1 [2] = true := by decide +kernel
theorem a1_small : SmallRows 1 [[1]] := by
  intro x hx
  simp only [List.mem_singleton] at hx
  subst hx
  refine ⟨rfl, fun j hj => ?_⟩
  obtain rfl : j = 0 := by omega
  decide
theorem a1_len : ∀ i, i < 1 → (([[1]] : List (List Int)).getD i []).length ≤ 1000000 := by
  intro i hi
  obtain rfl : i = 0 := by omega
  decide
theorem a1_bd (x : Int) (hx : -2 ≤ x ∧ x ≤ 2) : ∀ j, j < 1 → -1000000 ≤ ([x] : List Int).getD j 0 ∧ ([x] : List Int).getD j 0 ≤ 1000000 := by
  intro j hj
  obtain rfl : j = 0 := by omega
  show -1000000 ≤ x ∧ x ≤ 1000000
  omega
theorem a1_bd3 : ∀ j, j < 1 → -1000 ≤ ([1] : List Int).getD j 0 ∧ ([1] : List Int).getD j 0 ≤ 1000 := by
  intro j hj
  obtain rfl : j = 0 := by omega
  decide
/-- the table, step by step -/
def a1S (p : Int) : Nat → List Int
  | 0 => List.replicate 27 0
  | 1 => ((List.replicate 27 0).set 9 (2 % p)).set 3 ((-2) % p)
  | 2 => ((((List.replicate 27 0).set 9 (2 % p)).set 3 ((-2) % p)).set 17 ((-2) % p)).set 23 ((- -2) % p)
  | _ => ((((((List.replicate 27 0).set 9 (2 % p)).set 3 ((-2) % p)).set 17 ((-2) % p)).set 23 ((- -2) % p)).set 7 (1 % p)).set 19 ((-1) % p)
theorem a1S_all (p : Int) : a1S p 3 = a1T p := by
  have h0 : (0 : Int) % p = 0 := Int.zero_emod p
  have e : a1T p = [0 % p, 0 % p, 0 % p, (-2) % p, 0 % p, 0 % p, 0 % p, 1 % p, 0 % p, 2 % p, 0 % p, 0 % p, 0 % p, 0 % p, 0 % p, 0 % p, 0 % p, (-2) % p, 0 % p, (-1) % p, 0 % p, 0 % p, 0 % p, 2 % p, 0 % p, 0 % p, 0 % p] := rfl
  rw [e, h0]
  rfl
set_option maxRecDepth 100000 in
set_option maxHeartbeats 4000000 in
theorem l7Table_a1 (p : Int) (hp : primeB p = true) (ta : Option Addr) (tc : Nat) (w : World) (hc : IntsAt w ta 1 [2]) :
    Calls Tryz.prog 125 #[carV 1 ta 1 tc, .int .i64 p] w fun e w' => ∃ a, e = .returned (algV p 3 a 27 27) ∧ OwnI w' w.heap.size a 27 27 (a1T p) ∧ Ext w w' := by
  obtain ⟨p2, p7⟩ := prime_bounds hp
  have hxa := Ext.alloc w (.cells #[.int .i64 1, .slice ta 1 tc] 117)
  obtain ⟨wa, hwa⟩ : ∃ wa, wa = w.alloc (.cells #[.int .i64 1, .slice ta 1 tc] 117) := ⟨_, rfl⟩
  have hsa : w.heap.size + 1 = wa.heap.size := by rw [hwa]; simp
  have hcar : CarAt wa w.heap.size 1 ta 1 tc := by rw [hwa]; exact CarAt.new w _ rfl 1 ta 1 tc 117
  rw [← hwa] at hxa
  have hxb := Ext.alloc wa (.cells #[.int .i64 0, .int .i64 0, .slice none 0 0] 26)
  obtain ⟨wb, hwb⟩ : ∃ wb, wb = wa.alloc (.cells #[.int .i64 0, .int .i64 0, .slice none 0 0] 26) := ⟨_, rfl⟩
  have hres : AlgAt wb wa.heap.size 0 0 none 0 0 := by rw [hwb]; exact AlgAt.new wa _ rfl _ _ _ _ _ _
  have hresf : ∀ j, wb.frozen? ⟨wa.heap.size, j, none⟩ = false := fun j => by
    rw [hwb]
    exact frozen_top _ _ _ _ _ rfl
  have hsb : wa.heap.size < wb.heap.size := by rw [hwb]; simp
  rw [← hwb] at hxb
  obtain ⟨br, hbr⟩ : ∃ br, br = wa.heap.size := ⟨_, rfl⟩
  rw [← hbr] at hres hresf hsb
  have hwbr : w.heap.size < br := by omega
  have HWA : Hid (w.alloc (.cells #[.int .i64 1, .slice ta 1 tc] 117) = wa) := hwa.symm
  have HWB : Hid (wa.alloc (.cells #[.int .i64 0, .int .i64 0, .slice none 0 0] 26) = wb) := hwb.symm
  have HBR : Hid (w.heap.size + 1 = br) := hsa.trans hbr.symm
  have HCar := hidP (fun w' (hx : Ext wb w') => hcar.below (hxb.trans hx))
  have HTs := hidP (fun w' (hx : Ext wb w') => hc.below ((hxa.trans hxb).trans hx))
  have HRes := hidP (fun w' (hx : Ext wb w') => hres.below hx)
  have HResF := hidP (fun w' (hx : Ext wb w') (j : Nat) => (hx.frozen (p := ⟨br, j, none⟩) hsb).trans (hresf j))
  have HXB := hidP (hxa.trans hxb)
  have HSB : Hid (br < wb.heap.size) := hsb
  have HRo : Hid (Calls Tryz.prog 165 #[carV 1 ta 1 tc] wb fun e w' => ∃ a c xs, e = .returned (.slice a 1 c) ∧ HRows w' wb.heap.size a 1 c xs ∧ xs.map rowOf = [[1]] ∧ Ext wb w') := l5Roots_own 1 ta 1 tc [2] wb (HTs.out wb (Ext.refl _)) a1_type [[1]] a1_found (by decide) a1_small
  have HAb : Hid (∀ w', Calls Tryz.prog 127 #[.int .i64 p, .int .i64 3] w' fun e w'' => ∃ a, e = .returned (algV p 3 a 27 27) ∧ OwnI w'' w'.heap.size a 27 27 (a1S p 0) ∧ Ext w' w'') := fun w' => sAbelian_ok p 3 w' hp (by omega) (by omega)
  clear hxa hwa hsa hcar hxb hwb hres hresf hsb hbr hc
  go_enter Tryz.func125, Tryz.ntmps125
  go_wp2_with fail
  rw [HWA.out, HWB.out]
  try rw [HBR.out]
  clear HWA HWB HBR
  refine HRo.out.mono ?_
  rintro e w1 ⟨a5, c5, xs, rfl, hr5, hx5, hx1⟩
  obtain ⟨g5, _, _, rfl, _⟩ := hr5.at_ 0 (by omega)
  have HAll := hidP (l7All_any wb.heap.size g5 1 c5 xs w1 hr5 hx1.size (by omega) (by omega) (by
    rw [hx5]
    intro i hi
    obtain rfl : i = 0 := by omega
    refine ⟨by decide, fun j hj => ?_⟩
    have : j < 1 := hj
    obtain rfl : j = 0 := by omega
    decide))
  have HRoots := hidP (fun w' (hx : Ext w1 w') => (show RowsI w' (some ⟨g5, 0, none⟩) 1 [[1]] by have := (hr5.below hx).rowsI; rwa [hx5] at this))
  have HX5 : Hid (xs.map rowOf = [[1]]) := hx5
  have HX1 := hidP hx1
  clear hr5 hx5 hx1 HRo
  go_wp2_with fail
  refine HAll.out.mono ?_
  rintro e w2 ⟨g7, c7, ys, rfl, hr7, hy7, hx2⟩
  rw [HX5.out] at hy7
  have HRows7 := hidP (fun w' (hx : Ext w2 w') => (show RowsI w' (some ⟨g7, 0, none⟩) 2 [[1], [-1]] by have := (hr7.below hx).rowsI; rw [hy7] at this; exact this))
  have HX2 := hidP (HX1.out.trans hx2)
  have HX12 := hidP hx2
  have HNw : Hid (Calls Tryz.prog 167 #[carV 1 ta 1 tc, .slice (some ⟨g5, 0, none⟩) 1 c5] w2 fun e w' => ∃ p, e = .returned (.pointer p) ∧ Ext w2 w') := l7New_any 1 ta 1 tc (some ⟨g5, 0, none⟩) 1 c5 w2 (by omega)
  obtain ⟨y0, y1⟩ := HCar.out w2 HX2.out
  clear hr7 hy7 hx2 HX5 HAll
  go_wp2_with fail
  refine HNw.out.mono ?_
  rintro e w3 ⟨p8, rfl, hx3⟩
  clear y0 y1
  have HX3 := hidP (HX2.out.trans hx3)
  have HX23 := hidP hx3
  have HA := hidP (HAb.out w3)
  obtain ⟨y0, y1⟩ := HCar.out w3 HX3.out
  have e21 : IntKind.i64.wrap (2 * 1) = 2 := by decide
  have e23 : IntKind.i64.wrap (2 + 1) = 3 := by decide
  obtain ⟨b0, o0, ar0, cr0, e0, hc0, hi0, _⟩ := (HRows7.out w3 HX23.out).get 0 (by omega)
  cases e0
  obtain ⟨b1, o1, ar1, cr1, e1, hc1, hi1, _⟩ := (HRows7.out w3 HX23.out).get 1 (by omega)
  cases e1
  have HRow0 : Hid (∀ w', Ext w3 w' → w'.cell? ⟨g7, 0, none⟩ = some (.slice ar0 1 cr0) ∧ IntsAt w' ar0 1 [1]) := fun w' hx => ⟨(hx.cell (World.block_lt_of_cell? w3 _ hc0)).trans hc0, hi0.below hx⟩
  have HRow1 : Hid (∀ w', Ext w3 w' → w'.cell? ⟨g7, 1, none⟩ = some (.slice ar1 1 cr1) ∧ IntsAt w' ar1 1 [-1]) := fun w' hx => ⟨(hx.cell (World.block_lt_of_cell? w3 _ hc1)).trans hc1, hi1.below hx⟩
  clear hc0 hi0 hc1 hi1
  clear hx3 HNw HAb
  go_wp2_with fail
  refine HA.out.mono ?_
  rintro e w4 ⟨aT, rfl, hoT, hx4⟩
  obtain ⟨w5, hw5⟩ : ∃ w5, w5 = w4.alloc (.cells #[.int .i64 p, .int .i64 3, .slice aT 27 27] 26) := ⟨_, rfl⟩
  have hx5 : Ext w4 w5 := by rw [hw5]; exact Ext.alloc _ _
  have halg : AlgAt w5 w4.heap.size p 3 aT 27 27 := by rw [hw5]; exact AlgAt.new w4 _ rfl _ _ _ _ _ _
  have HW5 : Hid (w4.alloc (.cells #[.int .i64 p, .int .i64 3, .slice aT 27 27] 26) = w5) := hw5.symm
  have HO := hidP (hoT.below hx5)
  have HOB := hidP hoT.at_base
  have HX35 := hidP (hx4.trans hx5)
  have HAL := hidP halg
  have HST := hidP (UpdI.start (hoT.below hx5).ints)
  have e10 : IntKind.i64.wrap (1 + 0) = 1 := by decide
  clear y0 y1 e21 e23 hx4 hoT hw5 hx5 halg HA
  go_wp2_with fail
  rw [HW5.out]
  clear HW5
  go_loopw [10] (fun iv wr => ∃ i q : Nat, i ≤ 2 ∧ q = (if i = 2 then 3 else i) ∧ Hid (UpdI w5 wr aT 27 (a1S p q)) ∧ iv = .int .i64 i) (fun iv _ => 2 - (intOf iv).toNat)
  case atStart => exact ⟨0, 0, by omega, rfl, HST, rfl⟩
  case round =>
    obtain ⟨i, q, hi, hq, HU, rfl⟩ := hrel
    have hbl := HU.out.below HX35.out HX35.out.size (fun b o e _ => (HOB.out b o e).1)
    have hO := HU.out.own HO.out
    have hal := HAL.out.upd HU.out (fun b' o' e => by have := (HOB.out b' o' e).2; omega)
    have HXr := hidP (HX3.out.trans hbl)
    have HX2r := hidP ((HX12.out.trans HX23.out).trans hbl)
    have HRw := hidP (fun w' (hx : Ext wr w') => HRoots.out w' (HX2r.out.trans hx))
    have HR7 := HRows7.out wr (HX23.out.trans hbl)
    have HCr := hidP (fun w' (hx : Ext wr w') => HCar.out w' (HXr.out.trans hx))
    have HTr := hidP (fun w' (hx : Ext wr w') => HTs.out w' (HXr.out.trans hx))
    rcases (show i = 0 ∨ i = 1 ∨ i = 2 by omega) with rfl | rfl | rfl
    · obtain rfl : q = 0 := by simpa using hq
      obtain ⟨b, o, ar, cr, e, hcr, hir, _⟩ := HR7.get 0 (by omega)
      cases e
      have hcr : wr.cell? ⟨g7, 0, none⟩ = some (.slice ar 1 cr) := hcr
      have hir : IntsAt wr ar 1 [1] := hir
      have HIx : Hid (∀ w', Ext wr w' → Calls Tryz.prog 168 #[carV 1 ta 1 tc, .slice (some ⟨g5, 0, none⟩) 1 c5, .slice ar 1 cr] w' fun e w'' => e = .returned (.int .i64 0) ∧ Ext w' w'') := fun w' hx => l7Index_pos 1 ta 1 tc (some ⟨g5, 0, none⟩) 1 c5 [[1]] ar 1 cr [1] w' (HRw.out w' hx) (hir.below hx) (by omega) (by omega) a1_len 0 (by omega) rfl (fun j hj => by omega)
      have HWt : Hid (∀ w', Ext wr w' → Calls Tryz.prog 169 #[carV 1 ta 1 tc, .slice ar 1 cr] w' fun e w'' => ∃ a', e = .returned (.slice a' 1 1) ∧ OwnI w'' w'.heap.size a' 1 1 [2] ∧ Ext w' w'') := fun w' hx => l5Weight_any 1 ta 1 tc [2] ar 1 cr [1] w' (HTr.out w' hx) a1_type (hir.below hx) rfl (a1_bd 1 (by omega))
      have HS : Hid (∀ w', Ext wr w' → Calls Tryz.prog 141 #[algV p 3 aT 27 27, .int .i64 1, .int .i64 0, .int .i64 0, .int .i64 2] w' fun e w'' => e = .returned (.tuple #[]) ∧ UpdI w' w'' aT 27 (a1S p 1)) := fun w' hx => l7Set_any p 3 1 0 0 2 aT 27 27 (a1S p 0) w' (hO.below hx).ints (by omega) (by omega) rfl (by omega) (by omega) (by omega) (by omega) (by omega) (by omega) (by omega) (by omega) (by omega) (by omega) (hO.below hx).unfrozen
      have HOO := hidP hO
      have HAl := hidP (fun w' (hx : Ext wr w') => hal.below hx)
      obtain ⟨y0, y1⟩ := HCr.out wr (Ext.refl _)
      clear hbl hO hal hir hq HR7
      go_wp2_with fail
      refine (HIx.out _ (Ext.refl _)).mono ?_
      rintro e w6 ⟨rfl, hx6⟩
      have HX6 := hidP hx6
      clear y0 y1 hcr hx6
      obtain ⟨y0, y1⟩ := HCr.out w6 HX6.out
      go_wp2_with fail
      refine (HWt.out _ HX6.out).mono ?_
      rintro e w7 ⟨a13, rfl, ho7, hx7⟩
      have HX7 := hidP (HX6.out.trans hx7)
      have HO7 := hidP ho7
      clear y0 y1 ho7 hx7 HIx HWt
      go_wp2
      go_loopw [14] (fun jv wq => (jv = .int .i64 0 ∧ wq = w7) ∨ (jv = .int .i64 1 ∧ Hid (UpdI w5 wq aT 27 (a1S p 1)))) (fun jv _ => 1 - (intOf jv).toNat)
      case atStart => exact .inl ⟨rfl, rfl⟩
      case round =>
        rcases hrel with ⟨rfl, e⟩ | ⟨rfl, HU2⟩
        · have e' := e.symm
          subst e'
          clear e
          obtain ⟨gW, egW, _, hgW, hcW, _⟩ := HO7.out.cell 0 (by omega)
          subst egW
          have hcW : w7.cell? ⟨gW, 0, none⟩ = some (.int .i64 2) := hcW
          have HCW := hidP (fun w' (hx : Ext w7 w') => (hx.cell (p := ⟨gW, 0, none⟩) hgW).trans hcW)
          obtain ⟨y0, y1⟩ := HCr.out w7 HX7.out
          have hE : Ext w7 w7.drew := Ext.drew w7
          clear hcW
          go_wp2
          clear y0 y1
          (refine walkR_start (fun w' => Ext w7 w') 10 (by kernel_rfl) ?_; simp only [numbered, List.take_succ_cons, List.take_zero, Nat.zero_add, Nat.reduceAdd, List.length_cons, List.length_nil])
          repeat (refine walkR_still (v := ?_) rfl (by decide +kernel) rfl (fun _ _ _ h => h) hE ?_ ?_; rotate_left; (focus (intro w' hw'; obtain ⟨f0, f1, f2⟩ := HAl.out w' (HX7.out.trans hw'); have f3 := HCW.out w' hw'; go_simp; all_goals (with_reducible rfl))); simp only [Act.put, List.setIfInBounds_toArray, List.set_cons_zero, List.set_cons_succ])
          (refine walkR_tail (by rfl) (by kernel_rfl) ?_; simp only [List.drop_succ_cons, List.drop_zero])
          go_wp2_with fail
          refine (HS.out _ (HX7.out.trans hE)).mono ?_
          rintro e w8 ⟨rfl, hu8⟩
          have HU8 : Hid (UpdI w5 w8 aT 27 (a1S p 1)) := HU.out.trans ((HX7.out.trans hE).upd HOO.out.ints hu8)
          have e01 : IntKind.i64.wrap (0 + 1) = 1 := by decide
          clear hu8 hE
          go_wp2
          go_roundw
          case rel => exact .inr ⟨by go_num, HU8⟩
          case measure => simp [intOf]
        · have hbl := HU2.out.below HX35.out HX35.out.size (fun b o e _ => (HOB.out b o e).1)
          obtain ⟨y0, y1⟩ := HCar.out _ (HX3.out.trans hbl)
          clear hbl
          go_wp2
          clear y0 y1
          go_loopw [15] (fun jv wq => jv = .int .i64 0 ∧ Hid (UpdI w5 wq aT 27 (a1S p 1))) (fun jv _ => 1 - (intOf jv).toNat)
          case atStart => exact ⟨rfl, HU2⟩
          case round =>
            obtain ⟨rfl, HU3⟩ := hrel
            go_wp2
            go_roundw
            case rel => exact ⟨1, 1, by omega, rfl, HU3, by go_num⟩
            case measure => simp [intOf]
    · obtain rfl : q = 1 := by simpa using hq
      have HIx : Hid (∀ w', Ext wr w' → Calls Tryz.prog 168 #[carV 1 ta 1 tc, .slice (some ⟨g5, 0, none⟩) 1 c5, .slice ar1 1 cr1] w' fun e w'' => e = .returned (.int .i64 2) ∧ Ext w' w'') := fun w' hx => l7Index_neg 1 (by omega) ta 1 tc (some ⟨g5, 0, none⟩) 1 c5 [[1]] ar1 1 cr1 [-1] w' (HRw.out w' hx) (HRow1.out _ (Ext.trans hbl hx)).2 (by omega) (by omega) a1_len (a1_bd (-1) (by omega)) (by decide) 0 (by omega) rfl (fun j hj => by omega)
      have HWt : Hid (∀ w', Ext wr w' → Calls Tryz.prog 169 #[carV 1 ta 1 tc, .slice ar1 1 cr1] w' fun e w'' => ∃ a', e = .returned (.slice a' 1 1) ∧ OwnI w'' w'.heap.size a' 1 1 [-2] ∧ Ext w' w'') := fun w' hx => l5Weight_any 1 ta 1 tc [2] ar1 1 cr1 [-1] w' (HTr.out w' hx) a1_type (HRow1.out _ (Ext.trans hbl hx)).2 rfl (a1_bd (-1) (by omega))
      have HS : Hid (∀ w', Ext wr w' → Calls Tryz.prog 141 #[algV p 3 aT 27 27, .int .i64 1, .int .i64 2, .int .i64 2, .int .i64 (-2)] w' fun e w'' => e = .returned (.tuple #[]) ∧ UpdI w' w'' aT 27 (a1S p 2)) := fun w' hx => l7Set_any p 3 1 2 2 (-2) aT 27 27 (a1S p 1) w' (hO.below hx).ints (by omega) (by omega) rfl (by omega) (by omega) (by omega) (by omega) (by omega) (by omega) (by omega) (by omega) (by omega) (by omega) (hO.below hx).unfrozen
      have HOO := hidP hO
      have HAl := hidP (fun w' (hx : Ext wr w') => hal.below hx)
      have hcr := (HRow1.out wr hbl).1
      obtain ⟨y0, y1⟩ := HCr.out wr (Ext.refl _)
      clear hbl hO hal hq HR7
      go_wp2_with fail
      refine (HIx.out _ (Ext.refl _)).mono ?_
      rintro e w6 ⟨rfl, hx6⟩
      have HX6 := hidP hx6
      clear y0 y1 hcr hx6
      obtain ⟨y0, y1⟩ := HCr.out w6 HX6.out
      go_wp2_with fail
      refine (HWt.out _ HX6.out).mono ?_
      rintro e w7 ⟨a13, rfl, ho7, hx7⟩
      have HX7 := hidP (HX6.out.trans hx7)
      have HO7 := hidP ho7
      clear y0 y1 ho7 hx7 HIx HWt
      go_wp2
      go_loopw [14] (fun jv wq => (jv = .int .i64 0 ∧ wq = w7) ∨ (jv = .int .i64 1 ∧ Hid (UpdI w5 wq aT 27 (a1S p 2)))) (fun jv _ => 1 - (intOf jv).toNat)
      case atStart => exact .inl ⟨rfl, rfl⟩
      case round =>
        rcases hrel with ⟨rfl, e⟩ | ⟨rfl, HU2⟩
        · have e' := e.symm
          subst e'
          clear e
          obtain ⟨gW, egW, _, hgW, hcW, _⟩ := HO7.out.cell 0 (by omega)
          subst egW
          have hcW : w7.cell? ⟨gW, 0, none⟩ = some (.int .i64 (-2)) := hcW
          have HCW := hidP (fun w' (hx : Ext w7 w') => (hx.cell (p := ⟨gW, 0, none⟩) hgW).trans hcW)
          obtain ⟨y0, y1⟩ := HCr.out w7 HX7.out
          have hE : Ext w7 w7.drew := Ext.drew w7
          clear hcW
          go_wp2
          clear y0 y1
          (refine walkR_start (fun w' => Ext w7 w') 10 (by kernel_rfl) ?_; simp only [numbered, List.take_succ_cons, List.take_zero, Nat.zero_add, Nat.reduceAdd, List.length_cons, List.length_nil])
          repeat (refine walkR_still (v := ?_) rfl (by decide +kernel) rfl (fun _ _ _ h => h) hE ?_ ?_; rotate_left; (focus (intro w' hw'; obtain ⟨f0, f1, f2⟩ := HAl.out w' (HX7.out.trans hw'); have f3 := HCW.out w' hw'; go_simp; all_goals (with_reducible rfl))); simp only [Act.put, List.setIfInBounds_toArray, List.set_cons_zero, List.set_cons_succ])
          (refine walkR_tail (by rfl) (by kernel_rfl) ?_; simp only [List.drop_succ_cons, List.drop_zero])
          go_wp2_with fail
          refine (HS.out _ (HX7.out.trans hE)).mono ?_
          rintro e w8 ⟨rfl, hu8⟩
          have HU8 : Hid (UpdI w5 w8 aT 27 (a1S p 2)) := HU.out.trans ((HX7.out.trans hE).upd HOO.out.ints hu8)
          have e01 : IntKind.i64.wrap (0 + 1) = 1 := by decide
          clear hu8 hE
          go_wp2
          go_roundw
          case rel => exact .inr ⟨by go_num, HU8⟩
          case measure => simp [intOf]
        · have hbl := HU2.out.below HX35.out HX35.out.size (fun b o e _ => (HOB.out b o e).1)
          have HBL : Hid (Ext w3 wr) := hbl
          have hO := HU2.out.own HO.out
          have hal := HAL.out.upd HU2.out (fun b' o' e => by have := (HOB.out b' o' e).2; omega)
          have HO2 := hidP hO
          have HAl2 := hidP (fun w' (hx : Ext wr w') => hal.below hx)
          obtain ⟨y0, y1⟩ := HCar.out _ (HX3.out.trans hbl)
          clear hbl hO hal HU HOO HAl HS HX7 HO7 HX6 HCr HTr HRw HXr HX2r
          go_wp2
          clear y0 y1
          go_loopw [15] (fun jv wq => (jv = .int .i64 0 ∧ wq = wr) ∨ (jv = .int .i64 1 ∧ Hid (UpdI w5 wq aT 27 (a1S p 3)))) (fun jv _ => 1 - (intOf jv).toNat)
          case atStart => exact .inl ⟨rfl, rfl⟩
          case round =>
            rcases hrel with ⟨rfl, e⟩ | ⟨rfl, HU3⟩
            · have e' := e.symm
              subst e'
              clear e
              have HIx : Hid (∀ w', Ext w3 w' → Calls Tryz.prog 168 #[carV 1 ta 1 tc, .slice (some ⟨g5, 0, none⟩) 1 c5, .slice ar0 1 cr0] w' fun e w'' => e = .returned (.int .i64 0) ∧ Ext w' w'') := fun w' hx => l7Index_pos 1 ta 1 tc (some ⟨g5, 0, none⟩) 1 c5 [[1]] ar0 1 cr0 [1] w' (HRoots.out w' (HX12.out.trans (HX23.out.trans hx))) (HRow0.out _ hx).2 (by omega) (by omega) a1_len 0 (by omega) rfl (fun j hj => by omega)
              have HMn : Hid (∀ w', Ext w3 w' → Calls Tryz.prog 171 #[.slice ar0 1 cr0] w' fun e w'' => ∃ a', e = .returned (.slice a' 1 1) ∧ OwnI w'' w'.heap.size a' 1 1 [-1] ∧ Ext w' w'') := fun w' hx => l5Minus_any ar0 1 cr0 [1] w' (HRow0.out _ hx).2 (by omega) (a1_bd 1 (by omega))
              have HSm : Hid (∀ w' a', Ext w3 w' → IntsAt w' a' 1 [-1] → Calls Tryz.prog 170 #[.slice ar1 1 cr1, .slice a' 1 1] w' fun e w'' => e = .returned (.bool true) ∧ Ext w' w'') := fun w' a' hx hy => (l1Same_any ar1 a' 1 1 cr1 1 [-1] [-1] w' (HRow1.out _ hx).2 hy (by omega) (by omega)).mono (by
                rintro e w'' ⟨rfl, m, rfl⟩
                exact ⟨rfl, Ext.drewN _ _⟩)
              have HCo : Hid (∀ w', Ext w3 w' → Calls Tryz.prog 172 #[carV 1 ta 1 tc, .slice ar0 1 cr0] w' fun e w'' => ∃ a', e = .returned (.slice a' 1 1) ∧ OwnI w'' w'.heap.size a' 1 1 [1] ∧ Ext w' w'') := fun w' hx => l5Coroot_any 1 ta 1 tc [2] ar0 cr0 [1] w' (HTs.out w' (HX3.out.trans hx)) a1_type a1_lens (HRow0.out _ hx).2 (a1_bd3) (by decide +kernel)
              have HS : Hid (∀ w', Ext wr w' → Calls Tryz.prog 141 #[algV p 3 aT 27 27, .int .i64 0, .int .i64 2, .int .i64 1, .int .i64 1] w' fun e w'' => e = .returned (.tuple #[]) ∧ UpdI w' w'' aT 27 (a1S p 3)) := fun w' hx => l7Set_any p 3 0 2 1 1 aT 27 27 (a1S p 2) w' (HO2.out.below hx).ints (by omega) (by omega) rfl (by omega) (by omega) (by omega) (by omega) (by omega) (by omega) (by omega) (by omega) (by omega) (by omega) (HO2.out.below hx).unfrozen
              have hc0 := (HRow0.out wr HBL.out).1
              obtain ⟨y0, y1⟩ := HCar.out wr (HX3.out.trans HBL.out)
              go_wp2_with fail
              refine (HIx.out _ HBL.out).mono ?_
              rintro e w8 ⟨rfl, hx8⟩
              have HX8 := hidP hx8
              clear y0 y1 hc0 hx8
              go_wp2_with fail
              refine (HMn.out _ (Ext.trans HBL.out HX8.out)).mono ?_
              rintro e w9 ⟨a9, rfl, ho9, hx9⟩
              have HX9 := hidP (HX8.out.trans hx9)
              have HO9 := hidP ho9
              clear ho9 hx9
              go_wp2_with fail
              refine (HSm.out _ _ (Ext.trans HBL.out HX9.out) HO9.out.ints).mono ?_
              rintro e w10 ⟨rfl, hx10⟩
              have HX10 := hidP (HX9.out.trans hx10)
              clear hx10 HO9
              obtain ⟨y0, y1⟩ := HCar.out w10 (HX3.out.trans (Ext.trans HBL.out HX10.out))
              go_wp2_with fail
              refine (HCo.out _ (Ext.trans HBL.out HX10.out)).mono ?_
              rintro e w11 ⟨a18, rfl, ho11, hx11⟩
              have HX11 := hidP (HX10.out.trans hx11)
              have HO11 := hidP ho11
              clear y0 y1 ho11 hx11 HIx HMn HSm HCo
              go_wp2
              go_loopw [19] (fun jv wq => (jv = .int .i64 0 ∧ wq = w11) ∨ (jv = .int .i64 1 ∧ Hid (UpdI w5 wq aT 27 (a1S p 3)))) (fun jv _ => 1 - (intOf jv).toNat)
              case atStart => exact .inl ⟨rfl, rfl⟩
              case round =>
                rcases hrel with ⟨rfl, e⟩ | ⟨rfl, HU3⟩
                · have e' := e.symm
                  subst e'
                  clear e
                  obtain ⟨gW, egW, _, hgW, hcW, _⟩ := HO11.out.cell 0 (by omega)
                  subst egW
                  have hcW : w11.cell? ⟨gW, 0, none⟩ = some (.int .i64 1) := hcW
                  have HCW := hidP (fun w' (hx : Ext w11 w') => (hx.cell (p := ⟨gW, 0, none⟩) hgW).trans hcW)
                  obtain ⟨y0, y1⟩ := HCar.out w11 (HX3.out.trans (Ext.trans HBL.out HX11.out))
                  have hE : Ext w11 w11.drew := Ext.drew w11
                  clear hcW
                  go_wp2
                  clear y0 y1
                  (refine walkR_start (fun w' => Ext w11 w') 10 (by kernel_rfl) ?_; simp only [numbered, List.take_succ_cons, List.take_zero, Nat.zero_add, Nat.reduceAdd, List.length_cons, List.length_nil])
                  repeat (refine walkR_still (v := ?_) rfl (by decide +kernel) rfl (fun _ _ _ h => h) hE ?_ ?_; rotate_left; (focus (intro w' hw'; obtain ⟨f0, f1, f2⟩ := HAl2.out w' (HX11.out.trans hw'); have f3 := HCW.out w' hw'; go_simp; all_goals (with_reducible rfl))); simp only [Act.put, List.setIfInBounds_toArray, List.set_cons_zero, List.set_cons_succ])
                  (refine walkR_tail (by rfl) (by kernel_rfl) ?_; simp only [List.drop_succ_cons, List.drop_zero])
                  go_wp2_with fail
                  refine (HS.out _ (HX11.out.trans hE)).mono ?_
                  rintro e w12 ⟨rfl, hu12⟩
                  have HU12 : Hid (UpdI w5 w12 aT 27 (a1S p 3)) := HU2.out.trans ((HX11.out.trans hE).upd HO2.out.ints hu12)
                  have e01 : IntKind.i64.wrap (0 + 1) = 1 := by decide
                  clear hu12 hE
                  go_wp2
                  go_roundw
                  case rel => exact .inr ⟨by go_num, HU12⟩
                  case measure => simp [intOf]
                · have hbl := HU3.out.below HX35.out HX35.out.size (fun b o e _ => (HOB.out b o e).1)
                  obtain ⟨y0, y1⟩ := HCar.out _ (HX3.out.trans hbl)
                  have e01 : IntKind.i64.wrap (0 + 1) = 1 := by decide
                  clear hbl
                  go_wp2
                  go_roundw
                  case rel => exact .inr ⟨by go_num, HU3⟩
                  case measure => simp [intOf]
            · go_wp2
              go_roundw
              case rel => exact ⟨2, 3, by omega, rfl, HU3, by go_num⟩
              case measure => simp [intOf]
    · obtain rfl : q = 3 := by simpa using hq
      rw [a1S_all] at hO
      have HOO := hidP hO
      obtain ⟨f0, f1, f2⟩ := hal
      have HXb := hidP (HX3.out.trans hbl)
      obtain ⟨g0, g1, g2⟩ := HRes.out wr HXb.out
      have z0 := HResF.out wr HXb.out 0
      have z1 := HResF.out wr HXb.out 1
      have z2 := HResF.out wr HXb.out 2
      have hbr3 : br < w3.heap.size := by
        have h1 := HSB.out
        have h2 := HX3.out.size
        omega
      clear hO hbl HXr HX2r HRw HR7 HCr HTr hq
      go_wp2
      refine bodyPost_ret (v := algV p 3 aT 27 27) (by simp [results, Tryz.results125, go_sem, g0, g1, g2]) rfl ⟨aT, rfl, ?_, ?_⟩
      · exact (((HOO.out.setBelow _ _ hbr3 _).setBelow _ _ hbr3 _).setBelow _ _ hbr3 _).base (by have h1 := HXB.out.size; have h2 := HX3.out.size; omega)
      · refine Ext.setNew (Ext.setNew (Ext.setNew ?_ _ _ (Nat.le_of_lt hwbr) _) _ _ (Nat.le_of_lt hwbr) _) _ _ (Nat.le_of_lt hwbr) _
        exact HXB.out.trans HXb.out
end Go.Proofs.YtenlhfimdpcaoaaGreat

namespace Go.Proofs.YtenlhfimdpcaoaaGreat
open Go.RowKit

theorem unit_one {p : Int} (hp : 2 ≤ p) (n : Nat) : unitTo n n = oneM p n := by
  refine matM_ext (unitTo_length n n) fun i j hi hj => ?_
  rw [unitTo_get n n (Nat.le_refl _) i j hi hj]
  by_cases e : i = j
  · rw [if_pos ⟨hi, e⟩, if_pos e, Int.emod_eq_of_lt (by omega) (by omega)]
  · rw [if_neg (fun h => e h.2), if_neg e]; rfl
theorem unit_res {p : Int} (hp : 2 ≤ p) (n : Nat) : Res p (unitTo n n) := by rw [unit_one hp]; exact matM_res (by omega) _ _
theorem unit_set {p : Int} (hp : 2 ≤ p) {n i j : Nat} (hi : i < n) (hj : j < n) {v : Int} (h0 : 0 ≤ v) (h1 : v < p) : (unitTo n n).set (i * n + j) v = elemM p n i j (if i = j then v - 1 else v) := by
  rw [unit_one hp]
  unfold oneM
  have hv : v = v % p := (Int.emod_eq_of_lt h0 h1).symm
  conv => lhs; rw [hv]
  rw [matM_set hi hj]
  refine matM_congr fun a b _ _ => ?_
  by_cases e : a = i ∧ b = j
  · obtain ⟨rfl, rfl⟩ := e
    by_cases h : a = b
    · simp only [h, and_self, if_true]
      congr 1
      omega
    · simp only [h, and_self, if_true, if_false]
      congr 1
      omega
  · rw [if_neg e, if_neg e, Int.add_zero]
/-- a matrix that is drawn: residues, its rows a basis -/
structure InvM (p : Int) (n : Nat) (M : List Int) : Prop where
  len : M.length = n * n
  res : Res p M
  basis : Basis p n M
theorem InvM.one {p : Int} (hp : 2 ≤ p) (n : Nat) : InvM p n (unitTo n n) := ⟨unitTo_length n n, unit_res hp n, by rw [unit_one hp]; exact basis_one n⟩
theorem InvM.off {p : Int} (hp : 2 ≤ p) {n : Nat} {M : List Int} (h : InvM p n M) {i j : Nat} (hi : i < n) (hj : j < n) (hne : i ≠ j) {v : Int} (h0 : 0 ≤ v) (h1 : v < p) : InvM p n (mulM p n M ((unitTo n n).set (i * n + j) v)) := by
  refine ⟨mulM_length _ _ _ _, mulM_res (by omega) _ _ _, ?_⟩
  rw [unit_set hp hi hj h0 h1, if_neg hne]
  refine h.basis.mul (elem_off hi hj hne v) ?_
  have := elem_off (p := p) hi hj hne (-v)
  rwa [Int.neg_neg] at this
theorem InvM.diag {p : Int} (hp : primeB p = true) {n : Nat} {M : List Int} (h : InvM p n M) {i : Nat} (hi : i < n) {v : Int} (h0 : 1 ≤ v) (h1 : v < p) : InvM p n (mulM p n M ((unitTo n n).set (i * n + i) v)) := by
  obtain ⟨p2, p7⟩ := prime_bounds hp
  refine ⟨mulM_length _ _ _ _, mulM_res (by omega) _ _ _, ?_⟩
  rw [unit_set p2 hi hi (by omega) h1, if_pos rfl]
  obtain ⟨y, hy⟩ : ∃ y, v * y % p = 1 % p := by
    refine ⟨invP v p, ?_⟩
    rw [Int.emod_eq_of_lt (show (0 : Int) ≤ 1 by decide) (show (1 : Int) < p by omega)]
    obtain ⟨m, hm⟩ : ∃ m : Nat, v = m := ⟨v.toNat, by omega⟩
    obtain ⟨q, hq⟩ : ∃ q : Nat, p = q := ⟨p.toNat, by omega⟩
    subst hm
    subst hq
    have h2 := fermat (a := m) hp (by omega) (by omega)
    refine (invP_spec ⟨(m : Int) ^ (q - 2) % q, Int.emod_nonneg _ (by omega), Int.emod_lt_of_pos _ (by omega), ?_⟩).2.2
    rw [Int.mul_emod, Int.emod_emod, ← Int.mul_emod, ← Int.pow_succ', show q - 2 + 1 = q - 1 by omega]
    exact_mod_cast h2
  refine h.basis.mul (elem_diag hi hy) (elem_diag hi (by rw [Int.mul_comm]; exact hy))
theorem elem_res {p : Int} (hp : 2 ≤ p) {n i j : Nat} (hi : i < n) (hj : j < n) {v : Int} (h0 : 0 ≤ v) (h1 : v < p) : Res p ((unitTo n n).set (i * n + j) v) := by
  rw [unit_set hp hi hj h0 h1]
  exact matM_res (by omega) _ _
/-- a matrix in a variable of its own -/
structure MatVar (w : World) (b : Nat) (p r s : Int) (a : Option Addr) (n c : Nat) : Prop where
  mat : MatAt w b p r s a n c
  fz : ∀ j, w.frozen? ⟨b, j, none⟩ = false
theorem MatVar.grown {w w' : World} {b : Nat} {p r s : Int} {a : Option Addr} {n c : Nat} (h : MatVar w b p r s a n c) {row : Option Nat} (hg : w.grownBy w' row) (hne : some b ≠ row) : MatVar w' b p r s a n c := by
  have hl : b < w.heap.size := World.block_lt_of_cell? w ⟨b, 0, none⟩ h.mat.c0
  have hb := hg.block b hl hne
  exact ⟨⟨(World.cell?_of_block (a := ⟨b, 0, none⟩) hb).trans h.mat.c0, (World.cell?_of_block (a := ⟨b, 1, none⟩) hb).trans h.mat.c1, (World.cell?_of_block (a := ⟨b, 2, none⟩) hb).trans h.mat.c2, (World.cell?_of_block (a := ⟨b, 3, none⟩) hb).trans h.mat.c3⟩, fun j => (World.frozen?_of_block (a := ⟨b, j, none⟩) hb).trans (h.fz j)⟩
theorem MatVar.below {w w' : World} {b : Nat} {p r s : Int} {a : Option Addr} {n c : Nat} (h : MatVar w b p r s a n c) (hx : Ext w w') : MatVar w' b p r s a n c := h.grown (row := none) (hx.gb none) (by simp)
theorem MatVar.new (w : World) (p r s : Int) (a : Option Addr) (n c : Nat) (E : TypeId) : MatVar (w.alloc (.cells #[.int .i64 p, .int .i64 r, .int .i64 s, .slice a n c] E)) w.heap.size p r s a n c := ⟨MatAt.new w _ rfl _ _ _ _ _ _ _, fun _ => frozen_top _ _ _ _ _ rfl⟩
theorem MatVar.set {w : World} {b : Nat} {p r s : Int} {a : Option Addr} {n c : Nat} (h : MatVar w b p r s a n c) (p' r' s' : Int) (a' : Option Addr) (n' c' : Nat) :
    MatVar ((((w.setCell ⟨b, 0, none⟩ (.int .i64 p')).setCell ⟨b, 1, none⟩ (.int .i64 r')).setCell ⟨b, 2, none⟩ (.int .i64 s')).setCell ⟨b, 3, none⟩ (.slice a' n' c')) b p' r' s' a' n' c' := by
  obtain ⟨c0, c1, c2, c3⟩ := h.mat
  have k1 : (w.setCell ⟨b, 0, none⟩ (.int .i64 p')).cell? ⟨b, 1, none⟩ = some (.int .i64 r) := by rw [World.cell?_setCell_other _ _ _ _ (by simp)]; exact c1
  have k2 : ((w.setCell ⟨b, 0, none⟩ (.int .i64 p')).setCell ⟨b, 1, none⟩ (.int .i64 r')).cell? ⟨b, 2, none⟩ = some (.int .i64 s) := by rw [World.cell?_setCell_other _ _ _ _ (by simp), World.cell?_setCell_other _ _ _ _ (by simp)]; exact c2
  have k3 : (((w.setCell ⟨b, 0, none⟩ (.int .i64 p')).setCell ⟨b, 1, none⟩ (.int .i64 r')).setCell ⟨b, 2, none⟩ (.int .i64 s')).cell? ⟨b, 3, none⟩ = some (.slice a n c) := by rw [World.cell?_setCell_other _ _ _ _ (by simp), World.cell?_setCell_other _ _ _ _ (by simp), World.cell?_setCell_other _ _ _ _ (by simp)]; exact c3
  refine ⟨⟨?_, ?_, ?_, World.cell?_setCell_same _ _ _ k3⟩, fun j => by rw [World.frozen?_setCell, World.frozen?_setCell, World.frozen?_setCell, World.frozen?_setCell]; exact h.fz j⟩
  · rw [World.cell?_setCell_other _ _ _ _ (by simp), World.cell?_setCell_other _ _ _ _ (by simp), World.cell?_setCell_other _ _ _ _ (by simp)]
    exact World.cell?_setCell_same _ _ _ c0
  · rw [World.cell?_setCell_other _ _ _ _ (by simp), World.cell?_setCell_other _ _ _ _ (by simp)]
    exact World.cell?_setCell_same _ _ _ k1
  · rw [World.cell?_setCell_other _ _ _ _ (by simp)]
    exact World.cell?_setCell_same _ _ _ k2
theorem set4_gb (w : World) (b : Nat) (v0 v1 v2 v3 : Value) : w.grownBy ((((w.setCell ⟨b, 0, none⟩ v0).setCell ⟨b, 1, none⟩ v1).setCell ⟨b, 2, none⟩ v2).setCell ⟨b, 3, none⟩ v3) (some b) :=
  ⟨rfl, rfl, rfl, by simp [World.setCell], fun k _ hk => by
    have e : k ≠ b := fun e => hk (by rw [e])
    rw [Below.heap_setCell _ _ _ _ e, Below.heap_setCell _ _ _ _ e, Below.heap_setCell _ _ _ _ e, Below.heap_setCell _ _ _ _ e]⟩
theorem DrawSt.past {w w1 w2 : World} {g b : Nat} {a : Option Addr} {n c : Nat} (h : DrawSt w w1 g a n c) (hg : w1.grownBy w2 (some b)) (hb : w.heap.size ≤ b) (hne : b ≠ g) : DrawSt w w2 g a n c :=
  ⟨h.cur.grown hg (by simpa using Ne.symm hne), hg.os.trans h.gb.os, hg.tape.trans h.gb.tape, hg.output.trans h.gb.output, Nat.le_trans h.gb.size hg.size, fun j hj hk => (hg.block j (Nat.lt_of_lt_of_le hj h.gb.size) (fun e => by cases e; omega)).trans (h.gb.block j hj hk)⟩
set_option maxRecDepth 100000 in
set_option maxHeartbeats 8000000 in
theorem l12Invertible_any (g : Nat) (p : Int) (n : Nat) (a : Option Addr) (na ca : Nat) (bs : List Int) (w : World) (hc : CurAt w g a na ca) (hb : BytesAt w a na bs) (hna : na ≤ 1048576) (hp : primeB p = true) (hn : n ≤ 40) :
    Calls Tryz.prog 62 #[.pointer (some ⟨g, 0, none⟩), .int .i64 p, .int .i64 n] w fun e w' => ∃ a' M, e = .returned (matV p n n a' (n * n) (n * n)) ∧ OwnI w' w.heap.size a' (n * n) (n * n) M ∧ InvM p n M ∧ DrawSt w w' g a na ca := by
  obtain ⟨p2, p7⟩ := prime_bounds hp
  have hgl := hc.lt
  have hx := Ext.alloc w (.cells #[.int .i64 0, .int .i64 0, .int .i64 0, .slice none 0 0] 28)
  have hV0 := MatVar.new w 0 0 0 none 0 0 28
  obtain ⟨w0, hw0⟩ : ∃ w0, w0 = w.alloc (.cells #[.int .i64 0, .int .i64 0, .int .i64 0, .slice none 0 0] 28) := ⟨_, rfl⟩
  rw [← hw0] at hx hV0
  have HX0 := hidP hx
  have HV0 := hidP hV0
  have HB := hidP hb
  have HD0 := hidP ((DrawSt.refl hc).ext hx)
  have HUn := hidP (fun w' => l1Unit_any p n w' hn)
  obtain ⟨N, hN⟩ : ∃ N, N = n * n := ⟨_, rfl⟩
  have HN := hidP hN
  rw [← hN] at HUn ⊢
  clear hN
  have HBe := hidP (fun w' (hd : DrawSt w w' g a na ca) (k : Int) (hk : k ≤ 1000000000000) => l1Below_any g k a na ca bs w' hd.cur (hd.bytes hb) hna hk)
  have HInv := hidP (InvM.one p2 n)
  have HGl : Hid (g < w.heap.size) := hgl
  clear hx hV0 hb hc hgl
  go_enter Tryz.func62, Tryz.ntmps62
  go_wp2_with fail
  rw [← hw0]
  clear hw0
  refine (HUn.out _).mono ?_
  rintro e w1 ⟨a1, rfl, ho1, hx1⟩
  have hxa := Ext.alloc w1 (.cells #[.int .i64 p, .int .i64 (n : Int), .int .i64 (n : Int), .slice a1 N N] 28)
  have HD2 := hidP (HD0.out.ext (hx1.trans hxa))
  have HV2 := hidP (HV0.out.below (hx1.trans hxa))
  have HM2 := hidP (MatVar.new w1 p n n a1 N N 28)
  have HO2 := hidP ((ho1.base (show w.heap.size + 1 ≤ w0.heap.size from World.block_lt_of_cell? w0 ⟨w.heap.size, 0, none⟩ HV0.out.mat.c0)).below hxa)
  obtain ⟨bm, hbm⟩ : ∃ b, b = w1.heap.size := ⟨_, rfl⟩
  have hsz : w.heap.size < bm := by
    have h1 := hx1.size
    have h2 : w.heap.size < w0.heap.size := World.block_lt_of_cell? w0 ⟨w.heap.size, 0, none⟩ HV0.out.mat.c0
    omega
  have HSz : Hid (w.heap.size < bm ∧ bm ≠ g) := ⟨hsz, by have := HGl.out; omega⟩
  obtain ⟨w2, hw2⟩ : ∃ w2, w2 = w1.alloc (.cells #[.int .i64 p, .int .i64 (n : Int), .int .i64 (n : Int), .slice a1 N N] 28) := ⟨_, rfl⟩
  rw [← hw2] at HD2 HV2 HM2 HO2
  rw [← hbm] at HM2
  have HB6 := hidP (HBe.out w2 HD2.out 6 (by omega))
  clear ho1 hx1 hxa hsz
  go_wp2_with fail
  rw [← hw2, ← hbm]
  clear hw2 hbm
  refine HB6.out.mono ?_
  rintro e w3 ⟨steps, hst, rfl, hc3, hg3⟩
  have hs6 : steps < 1000000 := by have := hst.2 (by omega); omega
  have hd3 : DrawSt w2 w3 g a na ca := ⟨hc3, hg3⟩
  have HD3 := hidP (HD2.out.trans hd3)
  have HV3 := hidP (HV2.out.grown hg3 (by have := HGl.out; simp; omega))
  have HM3 := hidP (HM2.out.grown hg3 (by have := HSz.out; simp; omega))
  have HO3 := hidP (hd3.own HD2.out.cur HO2.out)
  clear hst hc3 hg3 hd3 HB6 HD2 HV2 HM2 HO2
  go_wp2
  go_loopw [9] (fun v9 wr => ∃ (k : Nat) (am : Option Addr) (M : List Int), k ≤ steps ∧ v9 = .int .i64 k ∧ Hid (DrawSt w wr g a na ca) ∧ Hid (MatVar wr w.heap.size 0 0 0 none 0 0) ∧ Hid (MatVar wr bm p n n am N N) ∧ Hid (OwnI wr (w.heap.size + 1) am N N M) ∧ Hid (InvM p n M)) (fun v9 _ => steps - (intOf v9).toNat)
  case atStart => exact ⟨0, a1, _, Nat.zero_le _, rfl, HD3, HV3, HM3, HO3, HInv⟩
  case round =>
    clear HD3 HV3 HM3 HO3 HInv
    obtain ⟨k, am, M, hk, rfl, HD, HV, HM, HO, HI⟩ := hrel
    by_cases hgo : k < steps ∧ 1 < n
    · obtain ⟨hks, hn1⟩ := hgo
      have hksI : (k : Int) < (steps : Int) := by omega
      have hn1I : (1 : Int) < (n : Int) := by omega
      have HB4 := hidP (HBe.out wr HD.out (n : Int) (by omega))
      go_wp2_with fail
      refine HB4.out.mono ?_
      rintro e w4 ⟨i, hiv, rfl, hc4, hg4⟩
      have hin : i < n := by have := hiv.2 (by omega); omega
      have hd4 : DrawSt wr w4 g a na ca := ⟨hc4, hg4⟩
      have HD4 := hidP (HD.out.trans hd4)
      have HV4 := hidP (HV.out.grown hg4 (by have := HGl.out; simp; omega))
      have HM4 := hidP (HM.out.grown hg4 (by have := HSz.out; simp; omega))
      have HO4 := hidP (hd4.own HD.out.cur HO.out)
      have HB5 := hidP (HBe.out w4 HD4.out (n : Int) (by omega))
      clear hiv hc4 hg4 hd4 HB4 HD HV HM HO
      go_wp2_with fail
      refine HB5.out.mono ?_
      rintro e w5 ⟨j, hjv, rfl, hc5, hg5⟩
      have hjn : j < n := by have := hjv.2 (by omega); omega
      have hd5 : DrawSt w4 w5 g a na ca := ⟨hc5, hg5⟩
      have HD5 := hidP (HD4.out.trans hd5)
      have HV5 := hidP (HV4.out.grown hg5 (by have := HGl.out; simp; omega))
      have HM5 := hidP (HM4.out.grown hg5 (by have := HSz.out; simp; omega))
      have HO5 := hidP (hd5.own HD4.out.cur HO4.out)
      have HBe5 : Hid (bm < w5.heap.size ∧ g < w5.heap.size ∧ w.heap.size < w5.heap.size) := by
        have h1 : bm < w5.heap.size := World.block_lt_of_cell? w5 ⟨bm, 0, none⟩ HM5.out.mat.c0
        have h2 := HGl.out
        have h3 := HSz.out
        show _ ∧ _ ∧ _
        omega
      have HAm := hidP (fun b o (e : am = some ⟨b, o, none⟩) => (HO5.out.at_base b o e).2)
      clear hjv hc5 hg5 hd5 HB5 HD4 HV4 HM4 HO4
      go_wp2_with fail
      refine (HUn.out w5).mono ?_
      rintro e w6 ⟨ae, rfl, ho6, hx6⟩
      have hxa := Ext.alloc w6 (.cells #[.int .i64 p, .int .i64 (n : Int), .int .i64 (n : Int), .slice ae N N] 28)
      have HD6 := hidP (HD5.out.ext (hx6.trans hxa))
      have HV6 := hidP (HV5.out.below (hx6.trans hxa))
      have HM6 := hidP (HM5.out.below (hx6.trans hxa))
      have HO6 := hidP (HO5.out.below (hx6.trans hxa))
      have hEv := MatVar.new w6 p n n ae N N 28
      have HEo := hidP (ho6.below hxa)
      have HEb := hidP (fun b o (e : ae = some ⟨b, o, none⟩) => (ho6.at_base b o e).2)
      obtain ⟨be, hbe⟩ : ∃ b, b = w6.heap.size := ⟨_, rfl⟩
      have hbg : be ≠ g := by have h1 := hx6.size; have h2 := HBe5.out; omega
      rw [← hbe] at hEv HEb
      obtain ⟨w6p, hw6⟩ : ∃ w6p, w6p = w6.alloc (.cells #[.int .i64 p, .int .i64 (n : Int), .int .i64 (n : Int), .slice ae N N] 28) := ⟨_, rfl⟩
      rw [← hw6] at HD6 HV6 HM6 HO6 hEv HEo
      have HEv := hidP (fun w' (hd : DrawSt w6p w' g a na ca) => hEv.grown hd.gb (by simpa using hbg))
      have HWw : Hid (w6.alloc (.cells #[.int .i64 p, .int .i64 (n : Int), .int .i64 (n : Int), .slice ae N N] 28) = w6p) := hw6.symm
      have HWb : Hid (w6.heap.size = be) := hbe.symm
      clear ho6 hx6 hxa hEv hw6 hbe HD5 HV5 HM5 HO5
      have hE : DrawSt w6p w6p.drew g a na ca := (DrawSt.refl HD6.out.cur).ext (Ext.drew w6p)
      obtain ⟨t, ht⟩ : ∃ t, t = i * n + j := ⟨_, rfl⟩
      have hnb : N ≤ 40 * 40 := by rw [HN.out]; exact Nat.mul_le_mul hn hn
      by_cases hij : i = j
      · subst hij
        have htN : t < N := by rw [HN.out, ht]; exact place_lt hin hin
        have hb1 : ((i : Int) != (i : Int)) = false := by simp
        have htI : (t : Int) = (i : Int) * n + i := by rw [ht, Int.natCast_add, Int.natCast_mul]
        have hm0 : 0 ≤ (i : Int) * n := Int.mul_nonneg (by omega) (by omega)
        have e1 : IntKind.i64.wrap ((i : Int) * n) = (i : Int) * n := wrap_in (by omega) (by omega)
        have e2 : IntKind.i64.wrap ((i : Int) * n + i) = (t : Int) := by rw [← htI]; exact wrap_in (by omega) (by omega)
        have e3 : IntKind.i64.wrap (p - 1) = p - 1 := wrap_in (by omega) (by omega)
        have ht0 : (0 : Int) ≤ (t : Int) := by omega
        have htL : (t : Int) < (N : Int) := by omega
        have HT := hidP ht
        clear htI hm0 ht
        obtain ⟨ba, hba, _, _, _, _⟩ := HEo.out.cell t htN
        subst hba
        go_wp2
        rw [HWw.out, HWb.out]
        (refine walkR_start (fun w' => DrawSt w6p w' g a na ca) 13 (by kernel_rfl) ?_; simp only [numbered, List.take_succ_cons, List.take_zero, Nat.zero_add, Nat.reduceAdd, List.length_cons, List.length_nil])
        (repeat (first | (refine walkR_still (v := ?_) rfl (by decide +kernel) rfl (fun _ _ _ h => h) hE ?_ ?_; rotate_left; (focus (intro w' hw'; obtain ⟨⟨z0, z1, z2, z3⟩, _⟩ := HEv.out w' hw'; go_simp; all_goals (with_reducible rfl))); simp only [Act.put, List.setIfInBounds_toArray, List.set_cons_zero, List.set_cons_succ]) | (refine walkR_skip rfl (by decide +kernel) rfl (fun _ _ _ h => h) hE ?_; simp only [Act.put, List.setIfInBounds_toArray, List.set_cons_zero, List.set_cons_succ])))
        (refine walkR_only (fun w' => DrawSt w6p w' g a na ca) rfl (by decide +kernel) rfl (fun _ h => h) ?_; intro K hK; go_simp; refine (HBe.out _ (HD6.out.trans hE) (p - 1) (by omega)).mono ?_; rintro e w7 ⟨v, hv, rfl, hc7, hg7⟩; refine hK _ _ (hE.trans ⟨hc7, hg7⟩) ?_; clear hK K; (try simp only [Act.put, List.setIfInBounds_toArray, List.set_cons_zero, List.set_cons_succ]))
        have hE7 : DrawSt w6p w7 g a na ca := hE.trans ⟨hc7, hg7⟩
        have hvp : 1 + (v : Int) < p := by have := hv.2 (by omega); omega
        have e9 : IntKind.i64.wrap (1 + (v : Int)) = 1 + (v : Int) := wrap_in (by omega) (by omega)
        (repeat (first | (refine walkR_still (v := ?_) rfl (by decide +kernel) rfl (fun _ _ _ h => h) hE7 ?_ ?_; rotate_left; (focus (intro w' hw'; obtain ⟨⟨z0, z1, z2, z3⟩, _⟩ := HEv.out w' hw'; go_simp; all_goals (with_reducible rfl))); simp only [Act.put, List.setIfInBounds_toArray, List.set_cons_zero, List.set_cons_succ]) | (refine walkR_skip rfl (by decide +kernel) rfl (fun _ _ _ h => h) hE7 ?_; simp only [Act.put, List.setIfInBounds_toArray, List.set_cons_zero, List.set_cons_succ])))
        (refine walkR_tail (by rfl) (by kernel_rfl) ?_; simp only [List.drop_succ_cons, List.drop_zero])
        have HM7 := hidP (HM6.out.grown hE7.gb (by have := HSz.out; simp; omega))
        have HV7 := hidP (HV6.out.grown hE7.gb (by have := HGl.out; simp; omega))
        have HO7 := hidP (hE7.own HD6.out.cur HO6.out)
        have HE7 := hidP (hE7.own HD6.out.cur HEo.out)
        have HEv7 := hidP (HEv.out _ hE7)
        have HD7 := hidP (HD6.out.trans hE7)
        obtain ⟨ba', hba, hbB, hbl, hct, hft⟩ := HE7.out.cell t htN
        cases hba
        have hne1 : ¬ bm = ba := by have := HBe5.out; omega
        have hne2 : ¬ ba = bm := by omega
        have hne3 : ¬ be = ba := by have := HEb.out ba 0 rfl; omega
        have hne4 : ¬ ba = be := by omega
        have hst := HE7.out.stored t (1 + (v : Int))
        have hgs : w7.grownBy (w7.setCell ⟨ba, t, none⟩ (.int .i64 (1 + (v : Int)))) (some ba) := ⟨rfl, rfl, rfl, by simp [World.setCell], fun k _ hk => Below.heap_setCell _ _ _ _ (fun e => hk (by rw [e]))⟩
        have HE8 := hidP hst
        have HM8 := hidP (HM7.out.grown hgs (by simp; omega))
        have HV8 := hidP (HV7.out.grown hgs (by have := HBe5.out; simp; omega))
        have HO8 := hidP (HO7.out.grown hgs (fun g' o e => by have := HAm.out g' o e; have := HBe5.out; simp; omega))
        have HD8 := hidP (HD7.out.past hgs (by have := HBe5.out; omega) (by have := HBe5.out; have := HGl.out; omega))
        have HI8 := hidP (HI.out.diag hp hin (v := 1 + (v : Int)) (by omega) hvp)
        have hre := elem_res (p := p) p2 hin hin (v := (1 + (v : Int))) (by omega) (by omega)
        rw [← HT.out] at hre
        have hmu := l1Mul_any p n am (some ⟨ba, 0, none⟩) N N M _ _ (by rw [← HN.out]; exact HO8.out.ints) (by rw [← HN.out]; exact HE8.out.ints) HI.out.res hre p2 p7 hn
        rw [← HN.out] at hmu
        have HMu := hidP hmu
        obtain ⟨⟨c0, c1, c2, c3⟩, _⟩ := HM7.out
        obtain ⟨⟨z0, z1, z2, z3⟩, _⟩ := HEv7.out
        rw [← HT.out] at HI8
        have HSz8 : Hid (w.heap.size ≤ (w7.setCell ⟨ba, t, none⟩ (.int .i64 (1 + (v : Int)))).heap.size ∧ bm < (w7.setCell ⟨ba, t, none⟩ (.int .i64 (1 + (v : Int)))).heap.size) := ⟨HD8.out.gb.size, World.block_lt_of_cell? _ ⟨bm, 0, none⟩ HM8.out.mat.c0⟩
        clear hmu hE hE7 hst hgs hv hc7 hg7 hre HD6 HM6 HV6 HO6 HEo HEv htN hbB hbl
        go_wp2_with fail
        refine HMu.out.mono ?_
        rintro e w9 ⟨a9, rfl, ho9, hx9⟩
        have HM9 := hidP (HM8.out.below hx9)
        have hg9 := set4_gb w9 bm (.int .i64 p) (.int .i64 (n : Int)) (.int .i64 (n : Int)) (.slice a9 N N)
        have HM10 := hidP (HM9.out.set p n n a9 N N)
        have HV10 := hidP ((HV8.out.below hx9).grown hg9 (by have := HSz.out; simp; omega))
        have HD10 := hidP ((HD8.out.ext hx9).past hg9 (by have := HSz.out; omega) HSz.out.2)
        have HO10 : Hid (OwnI ((((w9.setCell ⟨bm, 0, none⟩ (.int .i64 p)).setCell ⟨bm, 1, none⟩ (.int .i64 (n : Int))).setCell ⟨bm, 2, none⟩ (.int .i64 (n : Int))).setCell ⟨bm, 3, none⟩ (.slice a9 N N)) (w.heap.size + 1) a9 N N _) := ((((ho9.setBelow _ _ HSz8.out.2 _).setBelow _ _ HSz8.out.2 _).setBelow _ _ HSz8.out.2 _).setBelow _ _ HSz8.out.2 _).base (by have := HSz.out; have := HSz8.out; omega)
        obtain ⟨⟨c0, c1, c2, c3⟩, cf⟩ := HM9.out
        have cf0 := cf 0
        have cf1 := cf 1
        have cf2 := cf 2
        have cf3 := cf 3
        clear hg9 ho9 hx9 HMu HM8 HV8 HD8 HE8 HO8 cf z0 z1 z2 z3 HM7 HV7 HO7 HE7 HD7 HEv7 hct hft
        go_wp2
        have hwk : IntKind.i64.wrap ((k : Int) + 1) = (k : Int) + 1 := wrap_in (by omega) (by omega)
        go_roundw
        case rel => exact ⟨k + 1, a9, _, by omega, rfl, HD10, HV10, HM10, HO10, HI8⟩
        case measure => simp [intOf]; omega
      · have htN : t < N := by rw [HN.out, ht]; exact place_lt hin hjn
        have hb1 : ((i : Int) != (j : Int)) = true := by simp; omega
        have htI : (t : Int) = (i : Int) * n + j := by rw [ht, Int.natCast_add, Int.natCast_mul]
        have hm0 : 0 ≤ (i : Int) * n := Int.mul_nonneg (by omega) (by omega)
        have e1 : IntKind.i64.wrap ((i : Int) * n) = (i : Int) * n := wrap_in (by omega) (by omega)
        have e2 : IntKind.i64.wrap ((i : Int) * n + j) = (t : Int) := by rw [← htI]; exact wrap_in (by omega) (by omega)
        have ht0 : (0 : Int) ≤ (t : Int) := by omega
        have htL : (t : Int) < (N : Int) := by omega
        have HT := hidP ht
        clear htI hm0 ht
        obtain ⟨ba, hba, _, _, _, _⟩ := HEo.out.cell t htN
        subst hba
        go_wp2
        rw [HWw.out, HWb.out]
        (refine walkR_start (fun w' => DrawSt w6p w' g a na ca) 11 (by kernel_rfl) ?_; simp only [numbered, List.take_succ_cons, List.take_zero, Nat.zero_add, Nat.reduceAdd, List.length_cons, List.length_nil])
        (repeat (first | (refine walkR_still (v := ?_) rfl (by decide +kernel) rfl (fun _ _ _ h => h) hE ?_ ?_; rotate_left; (focus (intro w' hw'; obtain ⟨⟨z0, z1, z2, z3⟩, _⟩ := HEv.out w' hw'; go_simp; all_goals (with_reducible rfl))); simp only [Act.put, List.setIfInBounds_toArray, List.set_cons_zero, List.set_cons_succ]) | (refine walkR_skip rfl (by decide +kernel) rfl (fun _ _ _ h => h) hE ?_; simp only [Act.put, List.setIfInBounds_toArray, List.set_cons_zero, List.set_cons_succ])))
        (refine walkR_only (fun w' => DrawSt w6p w' g a na ca) rfl (by decide +kernel) rfl (fun _ h => h) ?_; intro K hK; go_simp; refine (HBe.out _ (HD6.out.trans hE) p (by omega)).mono ?_; rintro e w7 ⟨v, hv, rfl, hc7, hg7⟩; refine hK _ _ (hE.trans ⟨hc7, hg7⟩) ?_; clear hK K; (try simp only [Act.put, List.setIfInBounds_toArray, List.set_cons_zero, List.set_cons_succ]))
        have hE7 : DrawSt w6p w7 g a na ca := hE.trans ⟨hc7, hg7⟩
        have hvp : (v : Int) < p := by have := hv.2 (by omega); omega
        (repeat (first | (refine walkR_still (v := ?_) rfl (by decide +kernel) rfl (fun _ _ _ h => h) hE7 ?_ ?_; rotate_left; (focus (intro w' hw'; obtain ⟨⟨z0, z1, z2, z3⟩, _⟩ := HEv.out w' hw'; go_simp; all_goals (with_reducible rfl))); simp only [Act.put, List.setIfInBounds_toArray, List.set_cons_zero, List.set_cons_succ]) | (refine walkR_skip rfl (by decide +kernel) rfl (fun _ _ _ h => h) hE7 ?_; simp only [Act.put, List.setIfInBounds_toArray, List.set_cons_zero, List.set_cons_succ])))
        (refine walkR_tail (by rfl) (by kernel_rfl) ?_; simp only [List.drop_succ_cons, List.drop_zero])
        have HM7 := hidP (HM6.out.grown hE7.gb (by have := HSz.out; simp; omega))
        have HV7 := hidP (HV6.out.grown hE7.gb (by have := HGl.out; simp; omega))
        have HO7 := hidP (hE7.own HD6.out.cur HO6.out)
        have HE7 := hidP (hE7.own HD6.out.cur HEo.out)
        have HEv7 := hidP (HEv.out _ hE7)
        have HD7 := hidP (HD6.out.trans hE7)
        obtain ⟨ba', hba, hbB, hbl, hct, hft⟩ := HE7.out.cell t htN
        cases hba
        have hne1 : ¬ bm = ba := by have := HBe5.out; omega
        have hne2 : ¬ ba = bm := by omega
        have hne3 : ¬ be = ba := by have := HEb.out ba 0 rfl; omega
        have hne4 : ¬ ba = be := by omega
        have hst := HE7.out.stored t (v : Int)
        have hgs : w7.grownBy (w7.setCell ⟨ba, t, none⟩ (.int .i64 (v : Int))) (some ba) := ⟨rfl, rfl, rfl, by simp [World.setCell], fun k _ hk => Below.heap_setCell _ _ _ _ (fun e => hk (by rw [e]))⟩
        have HE8 := hidP hst
        have HM8 := hidP (HM7.out.grown hgs (by simp; omega))
        have HV8 := hidP (HV7.out.grown hgs (by have := HBe5.out; simp; omega))
        have HO8 := hidP (HO7.out.grown hgs (fun g' o e => by have := HAm.out g' o e; have := HBe5.out; simp; omega))
        have HD8 := hidP (HD7.out.past hgs (by have := HBe5.out; omega) (by have := HBe5.out; have := HGl.out; omega))
        have HI8 := hidP (HI.out.off p2 hin hjn hij (v := (v : Int)) (by omega) hvp)
        have hre := elem_res (p := p) p2 hin hjn (v := (v : Int)) (by omega) (by omega)
        rw [← HT.out] at hre
        have hmu := l1Mul_any p n am (some ⟨ba, 0, none⟩) N N M _ _ (by rw [← HN.out]; exact HO8.out.ints) (by rw [← HN.out]; exact HE8.out.ints) HI.out.res hre p2 p7 hn
        rw [← HN.out] at hmu
        have HMu := hidP hmu
        obtain ⟨⟨c0, c1, c2, c3⟩, _⟩ := HM7.out
        obtain ⟨⟨z0, z1, z2, z3⟩, _⟩ := HEv7.out
        rw [← HT.out] at HI8
        have HSz8 : Hid (w.heap.size ≤ (w7.setCell ⟨ba, t, none⟩ (.int .i64 (v : Int))).heap.size ∧ bm < (w7.setCell ⟨ba, t, none⟩ (.int .i64 (v : Int))).heap.size) := ⟨HD8.out.gb.size, World.block_lt_of_cell? _ ⟨bm, 0, none⟩ HM8.out.mat.c0⟩
        clear hmu hE hE7 hst hgs hv hc7 hg7 hre HD6 HM6 HV6 HO6 HEo HEv htN hbB hbl
        go_wp2_with fail
        refine HMu.out.mono ?_
        rintro e w9 ⟨a9, rfl, ho9, hx9⟩
        have HM9 := hidP (HM8.out.below hx9)
        have hg9 := set4_gb w9 bm (.int .i64 p) (.int .i64 (n : Int)) (.int .i64 (n : Int)) (.slice a9 N N)
        have HM10 := hidP (HM9.out.set p n n a9 N N)
        have HV10 := hidP ((HV8.out.below hx9).grown hg9 (by have := HSz.out; simp; omega))
        have HD10 := hidP ((HD8.out.ext hx9).past hg9 (by have := HSz.out; omega) HSz.out.2)
        have HO10 : Hid (OwnI ((((w9.setCell ⟨bm, 0, none⟩ (.int .i64 p)).setCell ⟨bm, 1, none⟩ (.int .i64 (n : Int))).setCell ⟨bm, 2, none⟩ (.int .i64 (n : Int))).setCell ⟨bm, 3, none⟩ (.slice a9 N N)) (w.heap.size + 1) a9 N N _) := ((((ho9.setBelow _ _ HSz8.out.2 _).setBelow _ _ HSz8.out.2 _).setBelow _ _ HSz8.out.2 _).setBelow _ _ HSz8.out.2 _).base (by have := HSz.out; have := HSz8.out; omega)
        obtain ⟨⟨c0, c1, c2, c3⟩, cf⟩ := HM9.out
        have cf0 := cf 0
        have cf1 := cf 1
        have cf2 := cf 2
        have cf3 := cf 3
        clear hg9 ho9 hx9 HMu HM8 HV8 HD8 HE8 HO8 cf z0 z1 z2 z3 HM7 HV7 HO7 HE7 HD7 HEv7 hct hft
        go_wp2
        have hwk : IntKind.i64.wrap ((k : Int) + 1) = (k : Int) + 1 := wrap_in (by omega) (by omega)
        go_roundw
        case rel => exact ⟨k + 1, a9, _, by omega, rfl, HD10, HV10, HM10, HO10, HI8⟩
        case measure => simp [intOf]; omega
    · obtain ⟨⟨c0, c1, c2, c3⟩, cf⟩ := HM.out
      have HZ := hidP (HV.out.set p n n am N N)
      obtain ⟨⟨z0, z1, z2, z3⟩, zf⟩ := HV.out
      have zf0 := zf 0
      have zf1 := zf 1
      have zf2 := zf 2
      have zf3 := zf 3
      have hlt : w.heap.size < w.heap.size + 1 := Nat.lt_succ_self _
      have hgz := set4_gb wr w.heap.size (.int .i64 p) (.int .i64 (n : Int)) (.int .i64 (n : Int)) (.slice am N N)
      have HDz := hidP (HD.out.past hgz (Nat.le_refl _) (by have := HGl.out; omega))
      have HOz : Hid (OwnI ((((wr.setCell ⟨w.heap.size, 0, none⟩ (.int .i64 p)).setCell ⟨w.heap.size, 1, none⟩ (.int .i64 (n : Int))).setCell ⟨w.heap.size, 2, none⟩ (.int .i64 (n : Int))).setCell ⟨w.heap.size, 3, none⟩ (.slice am N N)) w.heap.size am N N M) := ((((HO.out.setBelow _ _ hlt _).setBelow _ _ hlt _).setBelow _ _ hlt _).setBelow _ _ hlt _).base (Nat.le_succ _)
      clear cf zf hgz HD HO HV HM hlt
      by_cases hks : k < steps
      · have hn1 : ¬ (1 : Int) < (n : Int) := by omega
        have hksI : (k : Int) < (steps : Int) := by omega
        go_wp2
        obtain ⟨r0, r1, r2, r3⟩ := HZ.out.mat
        refine bodyPost_ret (v := matV p n n am N N) (by simp [results, Tryz.results62, go_sem, r0, r1, r2, r3]) rfl ?_
        exact ⟨am, rfl, M, HOz.out, HI.out, HDz.out⟩
      · have hksI : ¬ (k : Int) < (steps : Int) := by omega
        go_wp2
        obtain ⟨r0, r1, r2, r3⟩ := HZ.out.mat
        refine bodyPost_ret (v := matV p n n am N N) (by simp [results, Tryz.results62, go_sem, r0, r1, r2, r3]) rfl ?_
        exact ⟨am, rfl, M, HOz.out, HI.out, HDz.out⟩
end Go.Proofs.YtenlhfimdpcaoaaGreat

namespace Go.Proofs.YtenlhfimdpcaoaaGreat
open Go.RowKit

theorem byTo_skip (p : Int) (n : Nat) (f : Nat → Nat → List Int) (i j : Nat) {k m : Nat} (hkm : k ≤ m) (hz : ∀ q, k ≤ q → q < m → (f i j).getD q 0 = 0) : tabF n (byTo p f i j k) = tabF n (byTo p f i j m) := by
  apply tabF_congr
  intro a b q _ _ _
  unfold byTo
  by_cases h : b < a
  · rw [if_pos h, if_pos h]
    by_cases h2 : a < i ∨ a = i ∧ (b < j ∨ b = j ∧ q < k)
    · rw [if_pos h2, if_pos (by omega)]
    · rw [if_neg h2]
      by_cases h3 : a < i ∨ a = i ∧ (b < j ∨ b = j ∧ q < m)
      · rw [if_pos h3]
        obtain ⟨rfl, rfl⟩ : a = i ∧ b = j := by omega
        rw [hz q (by omega) (by omega)]
      · rw [if_neg h3]
  · rw [if_neg h, if_neg h]
    by_cases h4 : a < b
    · rw [if_pos h4, if_pos h4]
      by_cases h2 : b < i ∨ b = i ∧ (a < j ∨ a = j ∧ q < k)
      · rw [if_pos h2, if_pos (by omega)]
      · rw [if_neg h2]
        by_cases h3 : b < i ∨ b = i ∧ (a < j ∨ a = j ∧ q < m)
        · rw [if_pos h3]
          obtain ⟨rfl, rfl⟩ : b = i ∧ a = j := by omega
          rw [hz q (by omega) (by omega)]
          simp
        · rw [if_neg h3]
    · rw [if_neg h4, if_neg h4]
theorem byTo_past (p : Int) (n : Nat) (f : Nat → Nat → List Int) (i j : Nat) {k : Nat} (hz : ∀ q, k ≤ q → q < (f i j).length → (f i j).getD q 0 = 0) : tabF n (byTo p f i j k) = tabF n (byTo p f i (j + 1) 0) := by
  by_cases hk : k ≤ (f i j).length
  · rw [byTo_skip p n f i j hk (fun q h1 h2 => hz q h1 h2), byTo_next p n f i j _ (Nat.le_refl _)]
  · exact byTo_next p n f i j k (by omega)
theorem words_mem {L : Nat} (hL : 0 < L) : ∀ n, ∀ x ∈ wordsZ L n, 1 ≤ x.length ∧ x.length ≤ n
  | 0, x, h => by cases h
  | n + 1, x, h => by
    have h : x ∈ wordsZ L n ++ lynTo L (n + 1) (L ^ (n + 1)) := h
    rcases List.mem_append.1 h with h | h
    · have := words_mem hL n x h
      omega
    · have := (lynTo_mem hL x h).2.1
      omega
theorem words_at {L n k : Nat} (hL : 0 < L) (hk : k < (wordsZ L n).length) : 1 ≤ ((wordsZ L n).getD k []).length ∧ ((wordsZ L n).getD k []).length ≤ n := by
  apply words_mem hL n
  rw [List.getD_eq_getElem?_getD, List.getElem?_eq_getElem hk]
  exact List.getElem_mem hk
/-- the sums of the words, modulo p -/
def frM (p : Int) (L n : Nat) : List (List Tm) := (wordsZ L n).map (sumF p 8)
theorem frM_length (p : Int) (L n : Nat) : (frM p L n).length = (wordsZ L n).length := by simp [frM]
theorem frM_at (p : Int) {L n k : Nat} (hk : k < (wordsZ L n).length) : (frM p L n).getD k [] = sumF p 8 ((wordsZ L n).getD k []) := by
  unfold frM
  simp [List.getD_eq_getElem?_getD, hk]
theorem frM_sum (p : Int) {L n k : Nat} (hk : k < (wordsZ L n).length) (x : List Int) : cntSum ((frM p L n).getD k []) x % p = cntSum (frS L n k) x % p := by
  rw [frM_at p hk]
  exact sumF_sum p 8 _ x
/-- what is left of the bracket [i, j] from the basis element k0 on -/
structure ElimR (p : Int) (L n i j k0 : Nat) (R : List Tm) : Prop where
  rest : RestM p (wordsZ L n).length (fun k => cntSum (frS L n k)) (fun k => (frT L n i j).getD k 0) k0 R
  few : R.length ≤ 40000 + 128 * k0
  len : ∀ q ∈ R, q.1.length ≤ 16
theorem prodM_length (p : Int) (u v : List Tm) : (prodM p u v).length ≤ u.length * (v.length * 2) := by
  unfold prodM
  have := putsM_length p (pairsM p u v) []
  rw [pairsM_length] at this
  simpa using this
theorem prodM_words (p : Int) (u v : List Tm) {a b : Nat} (hu : ∀ q ∈ u, q.1.length = a) (hv : ∀ q ∈ v, q.1.length = b) : ∀ q ∈ prodM p u v, q.1.length = a + b := by
  intro q h
  unfold prodM at h
  rcases putsM_words p _ _ q h with ⟨r, h1, h3⟩ | ⟨r, h1, _⟩
  · unfold pairsM at h1
    obtain ⟨x, hx, h1⟩ := List.mem_flatMap.1 h1
    obtain ⟨y, hy, h1⟩ := List.mem_flatMap.1 h1
    have e1 := hu x hx
    have e2 := hv y hy
    rw [← h3]
    rcases List.mem_cons.1 h1 with h1 | h1
    · subst h1; show (x.1 ++ y.1).length = _; rw [List.length_append]; omega
    · rw [List.mem_singleton] at h1; subst h1; show (y.1 ++ x.1).length = _; rw [List.length_append]; omega
  · cases h1
theorem sum_few8 (p : Int) {W : List Int} (h1 : 1 ≤ W.length) (h8 : W.length ≤ 8) : (sumF p 8 W).length ≤ 128 := by
  have h := sumF_few p 8 W h1
  have hpw : ∀ m, m ≤ 8 → 2 ^ (m - 1) ≤ 128 := by decide
  have := hpw W.length h8
  omega
theorem elim_start {p : Int} (hp : 2 ≤ p) {L n i j : Nat} (hL : 0 < L) (hn : n ≤ 8) (h : FreeOk L n) (hi : i < (wordsZ L n).length) (hj : j < i) (hl : ((wordsZ L n).getD i []).length + ((wordsZ L n).getD j []).length ≤ n) :
    ElimR p L n i j 0 (prodM p ((frM p L n).getD i []) ((frM p L n).getD j [])) := by
  have hwi := words_at hL hi
  have hwj := words_at (L := L) (n := n) (k := j) hL (by omega)
  refine ⟨⟨(NormM.nil p).puts (by omega) _, fun x => ?_⟩, ?_, ?_⟩
  · rw [gM_prod (fun x => frM_sum p hi x) (fun x => frM_sum p (show j < _ by omega) x) x, h.tab i j hi hj hl x]
  · rw [frM_at p hi, frM_at p (show j < _ by omega)]
    have h1 := prodM_length p (sumF p 8 ((wordsZ L n).getD i [])) (sumF p 8 ((wordsZ L n).getD j []))
    have h2 := sum_few8 p hwi.1 (by omega)
    have h3 := sum_few8 p hwj.1 (by omega)
    have h4 := Nat.mul_le_mul h2 (Nat.mul_le_mul_right 2 h3)
    omega
  · rw [frM_at p hi, frM_at p (show j < _ by omega)]
    intro q hq
    have := prodM_words p _ _ (sumF_words p 8 ((wordsZ L n).getD i [])) (sumF_words p 8 ((wordsZ L n).getD j [])) q hq
    omega
theorem frRow_at (p : Int) (L n i j k : Nat) : (frRow p L n i j).getD k 0 = (frT L n i j).getD k 0 % p := frRow_get p L n i j k
theorem frRow_length (p : Int) (L n i j : Nat) : (frRow p L n i j).length = (wordsZ L n).length := by
  unfold frRow
  rw [List.length_map, frT_length]
theorem elim_step {p : Int} (hp : 2 ≤ p) {L n i j k0 : Nat} (hL : 0 < L) (hn : n ≤ 8) (h : FreeOk L n) {q : Tm} {l : List Tm} (e : ElimR p L n i j k0 (q :: l)) :
    ∃ m, k0 ≤ m ∧ m < (wordsZ L n).length ∧ q.1 = (wordsZ L n).getD m [] ∧ q.2 = (frRow p L n i j).getD m 0 ∧ (∀ s, s < m → (wordsZ L n).getD s [] ≠ q.1) ∧ (∀ s, k0 ≤ s → s < m → (frRow p L n i j).getD s 0 = 0) ∧
      ElimR p L n i j (m + 1) (putsM p [] (joinE p (0 - q.2) (q :: l) ((frM p L n).getD m []))) := by
  obtain ⟨m, h0, hm, hw, hc, hz⟩ := e.rest.head (by omega) h.lead
  have hwm := words_at hL hm
  refine ⟨m, h0, hm, hw, by rw [frRow_at]; exact hc, fun s hs => ?_, fun s h1 h2 => by rw [frRow_at]; exact hz s h1 h2, ?_, ?_, ?_⟩
  · intro e2
    have hb := h.lead.inc s m hs hm
    have hb : Before ((wordsZ L n).getD s []) ((wordsZ L n).getD m []) := hb
    rw [e2, hw] at hb
    exact before_ord.irr _ hb
  · exact e.rest.next (by omega) h0 hm hc hz (fun x => frM_sum p hm x)
  · have h1 := putsM_length p (joinE p (0 - q.2) (q :: l) ((frM p L n).getD m [])) []
    have h2 := sum_few8 p hwm.1 (by omega)
    have h3 := e.few
    rw [← frM_at p hm] at h2
    have h4 : (joinE p (0 - q.2) (q :: l) ((frM p L n).getD m [])).length = (q :: l).length + ((frM p L n).getD m []).length := by
      unfold joinE
      simp
      omega
    rw [h4] at h1
    simp only [List.length_nil] at h1
    omega
  · intro r hr
    rcases putsM_words p _ _ r hr with ⟨s, h1, h3⟩ | ⟨s, h1, _⟩
    · rw [← h3]
      unfold joinE at h1
      rcases List.mem_append.1 h1 with h1 | h1
      · exact e.len s h1
      · obtain ⟨t, ht, rfl⟩ := List.mem_map.1 h1
        rw [frM_at p hm] at ht
        have := sumF_words p 8 _ t ht
        show t.1.length ≤ 16
        omega
    · cases h1
theorem elim_end {p : Int} {L n i j k0 : Nat} (h : FreeOk L n) (e : ElimR p L n i j k0 []) : ∀ s, k0 ≤ s → s < (frRow p L n i j).length → (frRow p L n i j).getD s 0 = 0 := by
  intro s h1 h2
  rw [frRow_length] at h2
  rw [frRow_at]
  exact e.rest.empty h.lead s h1 h2
theorem elim_none (p : Int) {L n i j : Nat} (hl : ¬ ((wordsZ L n).getD i []).length + ((wordsZ L n).getD j []).length ≤ n) : ∀ s, 0 ≤ s → s < (frRow p L n i j).length → (frRow p L n i j).getD s 0 = 0 := by
  intro s _ _
  rw [frRow_at]
  unfold frT
  rw [if_neg hl]
  simp [List.getD_eq_getElem?_getD, List.getElem?_replicate]
  split <;> simp
theorem elim_num {p : Int} {L n i j k0 : Nat} {R : List Tm} (e : ElimR p L n i j k0 R) {k : Nat} (hk : k < R.length) : (wayAt R k).length ≤ 16 ∧ 0 < lenAt R k ∧ lenAt R k < p := by
  refine ⟨?_, e.rest.norm.at hk⟩
  have := e.len (R.getD k ([], 0)) (by rw [getTm hk]; exact List.getElem_mem hk)
  exact this
theorem frM_num {p : Int} (hp : 2 ≤ p) {L n m : Nat} (hL : 0 < L) (hn : n ≤ 8) (hm : m < (wordsZ L n).length) {k : Nat} (hk : k < ((frM p L n).getD m []).length) :
    1 ≤ (wayAt ((frM p L n).getD m []) k).length ∧ (wayAt ((frM p L n).getD m []) k).length ≤ 16 ∧ 0 < lenAt ((frM p L n).getD m []) k ∧ lenAt ((frM p L n).getD m []) k < p := by
  rw [frM_at p hm] at hk ⊢
  have hwm := words_at hL hm
  have h1 := (sumF_norm hp 8 ((wordsZ L n).getD m [])).at hk
  have hw := sumF_words p 8 ((wordsZ L n).getD m []) ((sumF p 8 ((wordsZ L n).getD m [])).getD k ([], 0)) (by rw [getTm hk]; exact List.getElem_mem hk)
  have hw : (wayAt (sumF p 8 ((wordsZ L n).getD m [])) k).length = _ := hw
  omega
end Go.Proofs.YtenlhfimdpcaoaaGreat

namespace Go.Proofs.YtenlhfimdpcaoaaGreat
open Go.RowKit

variable {α : Type}
/-- append of an owned slice's elements to another one -/
theorem wp_append_elems {o : Oper} {av : Act} {Kk : Act → World → Prop} {Q : Exit → Act → World → Prop} {w : World} (K : Knd α) (T : TypeId) (z : Value) (bytes : Nat) (s x : Operand)
    (ho : o.op = .call { callee := .builtin .append, args := #[s, x], argTypes := #[T, T] }) (hT : Tryz.prog.underlying T = some (.slice K.E)) (hinfo : (Tryz.prog.info? K.E).map (fun i => (i.zero, i.size, i.bytes)) = some (some z, K.size, bytes))
    (hz : z.cells.size = K.size) (hbp : bytes ≤ 1000)
    (B U U2 : Nat) (a : Option Addr) (n c : Nat) (hs hs2 : List Hdr) (xs xs2 : List α) (hsv : av.eval s = .slice a n c) (hown : OwnK K w B U a n c hs xs)
    (g m c2 : Nat) (hx : av.eval x = .slice (some ⟨g, 0, none⟩) m c2) (h2 : OwnK K w B U2 (some ⟨g, 0, none⟩) m c2 hs2 xs2)
    (hap : ∀ i j, i < n → j < m → Apart (hs.getD i (none, 0)).1 (hs2.getD j (none, 0)).1) (hsm : n + m ≤ 1000000000) (ha : a ≠ none) (hB : B ≤ w.heap.size)
    (h : ∀ a' c' w', OwnK K w' B w'.heap.size a' (n + m) c' (hs ++ hs2) (xs ++ xs2) → w.grownBy w' (Value.slice a n c).ownBlock → OrNew w.heap.size a a' → Kk (av.put o.dst (.slice a' (n + m) c')) w') : o.wp Tryz.prog av w Kk Q := by
  obtain ⟨i, hi, hz0, hz1, hz2⟩ := info_parts hinfo
  have hl2 := K.all_length hs2 xs2 (h2.hl.trans h2.xl.symm)
  rw [h2.xl] at hl2
  have hcells : ∀ j u, (K.all hs2 xs2)[j]? = some u → w.cell? ((⟨g, 0, none⟩ : Addr).add j) = some u := by
    intro j u hu
    have hj : j < m * K.size := by have := (List.getElem?_eq_some_iff.1 hu).1; rwa [hl2] at this
    rw [add_none, Nat.zero_add, h2.row.cellAt j hj]
    exact hu
  by_cases hroom : n + m ≤ c
  · rcases hown.form with ⟨e0, _⟩ | ⟨g0, cur, rfl, _⟩
    · exact absurd e0 ha
    · obtain ⟨w', hrun, hr, hg⟩ := run_append_fits (P := Tryz.prog) w B T o.type K.E i K.size hT hi hz1 g0 n c (K.all hs xs) hown.row ⟨g, 0, none⟩ m c2 (K.all hs2 xs2) hl2 hcells (K.all_one _ _) hroom
      obtain ⟨a', c', e, hk⟩ := hown.cat_of h2 hr hg hap ⟨_, _, rfl⟩
      simp only [Value.slice.injEq] at e
      obtain ⟨rfl, _, rfl⟩ := e
      unfold Oper.wp
      simp only [execOp, ho, resolve, invoke, builtin, Sem.run_bind, Sem.run_pure, Result.andThen_ok, List.map_toArray, List.map_cons, List.map_nil, hsv, hx, hrun]
      exact h _ _ w' hk hg (.inl rfl)
  · have hlx := K.all_length hs xs (hown.hl.trans hown.xl.symm)
    rw [hown.xl] at hlx
    obtain ⟨b0, rfl⟩ : ∃ b0, a = some b0 := by
      cases a with
      | none => exact absurd rfl ha
      | some b0 => exact ⟨b0, rfl⟩
    obtain ⟨v', w', hrun, hr, hg0⟩ := run_append_arg_grows (P := Tryz.prog) w T o.type K.E i z K.size bytes hT hi hz0 hz1 hz2 hz K.pos b0 n c (K.all hs xs) hlx (by
      intro j u hu
      rcases hown.form with ⟨e2, _⟩ | ⟨g0, cur, e2, _⟩
      · cases e2
      · simp only [Option.some.injEq] at e2
        subst e2
        have hj : j < n * K.size := by have := (List.getElem?_eq_some_iff.1 hu).1; rwa [hlx] at this
        rw [add_none, Nat.zero_add, hown.row.cellAt j hj]
        exact hu) ⟨g, 0, none⟩ m c2 (K.all hs2 xs2) hl2 hcells (by omega) (by unfold maxLen; omega)
      (by calc (n + m) * bytes ≤ 1000000000 * 1000 := Nat.mul_le_mul (by omega) hbp
            _ ≤ _ := by omega)
    · have hg : w.grownBy w' (Value.slice (some b0) n c).ownBlock := ⟨hg0.os, hg0.tape, hg0.output, hg0.size, fun k hk _ => hg0.block k hk (by simp)⟩
      have hr2 : w'.ownsRow B K.E K.size v' (n + m) (K.all hs xs ++ K.all hs2 xs2) := by
        refine ⟨hr.1, ?_⟩
        rcases hr.2 with h2 | ⟨g', cap, cur, he, hB', r⟩
        · exact .inl h2
        · exact .inr ⟨g', cap, cur, he, Nat.le_trans hB hB', r⟩
      obtain ⟨a', c', rfl, hk⟩ := hown.cat_of h2 hr2 hg hap (by
        rcases hr.2 with ⟨e5, h0⟩ | ⟨g', cap, cur, he, hB', _⟩
        · omega
        · exact ⟨_, _, he⟩)
      unfold Oper.wp
      simp only [execOp, ho, resolve, invoke, builtin, Sem.run_bind, Sem.run_pure, Result.andThen_ok, List.map_toArray, List.map_cons, List.map_nil, hsv, hx, hrun]
      refine h a' c' w' hk hg (.inr fun b o e => ?_)
      rcases hr.2 with ⟨_, h0⟩ | ⟨g', cap, cur, he, hB', _⟩
      · omega
      · simp only [Value.slice.injEq] at he
        rw [e] at he
        simp only [Option.some.injEq, Addr.mk.injEq, and_true] at he
        obtain ⟨⟨rfl, _⟩, _⟩ := he
        exact hB'
end Go.Proofs.YtenlhfimdpcaoaaGreat

set_option linter.unusedVariables false
set_option linter.unusedSimpArgs false
namespace Go.Proofs.YtenlhfimdpcaoaaGreat
open Go.RowKit

/-- a path in memory: its blocks lie from lo on and under hi -/
structure PEl where
  lo : Nat
  hi : Nat
  at_ : Option Addr
  cap : Nat
  hs : List Hdr
  q : List Stp
def PEl.val (e : PEl) : Value := .slice e.at_ e.q.length e.cap
def pvs (ps : List PEl) : List Value := ps.map PEl.val
theorem pvs_length (ps : List PEl) : (pvs ps).length = ps.length := by simp [pvs]
structure PEl.Ok (w : World) (B : Nat) (e : PEl) : Prop where
  own : OwnK stepK w e.lo e.hi e.at_ e.q.length e.cap e.hs e.q
  base : B ≤ e.lo
  le : e.lo ≤ e.hi
  top : e.hi ≤ w.heap.size
structure OwnPs (w : World) (B : Nat) (a : Option Addr) (n c : Nat) (ps : List PEl) : Prop where
  row : w.ownsRow B 136 1 (.slice a n c) n (pvs ps)
  nn : a ≠ none
  each : ∀ e ∈ ps, e.Ok w B
  sep : ps.Pairwise (fun e f => e.hi ≤ f.lo)
  far : ∀ e ∈ ps, ∀ b o, a = some ⟨b, o, none⟩ → b < e.lo ∨ e.hi ≤ b
section
variable {w w' : World} {B n c : Nat} {a : Option Addr} {ps : List PEl}
theorem OwnPs.len (h : OwnPs w B a n c ps) : ps.length = n := by
  have := h.row.1
  simpa [pvs_length] using this
theorem OwnPs.form (h : OwnPs w B a n c ps) : ∃ g, a = some ⟨g, 0, none⟩ ∧ B ≤ g ∧ g < w.heap.size ∧ n ≤ c ∧ c ≤ maxLen := by
  rcases h.row.2 with ⟨he, h0⟩ | ⟨g, cap, cur, he, hB, hg, hnc, hcm, hcs, ht⟩
  · simp only [Value.slice.injEq] at he
    exact absurd he.1 h.nn
  · simp only [Value.slice.injEq, true_and] at he
    obtain ⟨rfl, rfl⟩ := he
    exact ⟨g, rfl, hB, (Array.getElem?_eq_some_iff.1 hg).1, hnc, hcm⟩
theorem OwnPs.cell (h : OwnPs w B a n c ps) {k : Nat} (hk : k < n) {g : Nat} (e : a = some ⟨g, 0, none⟩) : ∃ (hk2 : k < ps.length), w.cell? ⟨g, k, none⟩ = some (ps[k].val) := by
  subst e
  have hk2 : k < ps.length := by have := h.len; omega
  refine ⟨hk2, ?_⟩
  have h3 := h.row.cellAt k (by omega)
  rw [h3]
  simp [pvs, hk2]
/-- whatever leaves the list's own blocks alone, keeps it -/
theorem OwnPs.kept (h : OwnPs w B a n c ps) {row : Option Nat} (hg : w.grownBy w' row) (hr : ∀ b, row = some b → (∀ o, a ≠ some ⟨b, o, none⟩) ∧ ∀ e ∈ ps, b < e.lo ∨ e.hi ≤ b) : OwnPs w' B a n c ps := by
  obtain ⟨g, rfl, _⟩ := h.form
  refine ⟨h.row.kept hg (.inr fun e => ?_), h.nn, fun e he => ?_, h.sep, h.far⟩
  · exact (hr g e.symm).1 0 rfl
  · obtain ⟨h1, h2, h3, h4⟩ := h.each e he
    have key : ∀ b, e.lo ≤ b → b < e.hi → some b ≠ row := fun b h5 h6 h7 => by
      have := (hr b h7.symm).2 e he
      omega
    exact ⟨h1.kept hg (fun b o e1 => key b (h1.base_lt b o e1).1 (h1.olt b o e1)) (fun i hi b o e1 => key b ((h1.each i hi).at_base b o e1).1 (h1.lt i hi b o e1)), h2, h3, Nat.le_trans h4 hg.size⟩
theorem OwnPs.below (h : OwnPs w B a n c ps) (hb : Ext w w') : OwnPs w' B a n c ps :=
  h.kept (row := none) ⟨hb.os, hb.tape, hb.output, hb.size, fun k hk _ => hb.block k hk⟩ (by simp)
/-- the list grows: a path behind the others -/
theorem OwnPs.snoc_of (h : OwnPs w B a n c ps) {v' : Value} {e : PEl} (hr : w'.ownsRow B 136 1 v' (n + 1) (pvs ps ++ [e.val])) (hg : w.grownBy w' (Value.slice a n c).ownBlock)
    (he : e.Ok w B) (hs : ∀ f ∈ ps, f.hi ≤ e.lo) (hf : ∀ b o, a = some ⟨b, o, none⟩ → b < e.lo ∨ e.hi ≤ b) (hn : ∀ g m k, v' = .slice (some ⟨g, 0, none⟩) m k → a = some ⟨g, 0, none⟩ ∨ w.heap.size ≤ g) :
    ∃ a' c', v' = .slice a' (n + 1) c' ∧ OwnPs w' B a' (n + 1) c' (ps ++ [e]) := by
  obtain ⟨g0, rfl, _⟩ := h.form
  rcases hr.2 with ⟨_, h0⟩ | ⟨g', cap, cur, rfl, hB', hgb, hnc, _⟩
  · omega
  have hev : ∀ f ∈ ps ++ [e], f.Ok w B := fun f hf => by
    rcases List.mem_append.1 hf with h1 | h1
    · exact h.each f h1
    · simp only [List.mem_singleton] at h1
      subst h1; exact he
  have hfa : ∀ f ∈ ps ++ [e], g0 < f.lo ∨ f.hi ≤ g0 := fun f hf2 => by
    rcases List.mem_append.1 hf2 with h1 | h1
    · exact h.far f h1 g0 0 rfl
    · simp only [List.mem_singleton] at h1
      subst h1; exact hf g0 0 rfl
  refine ⟨_, _, rfl, ?_, by simp, fun f hf1 => ?_, ?_, fun f hf1 b o e1 => ?_⟩
  · rw [show pvs (ps ++ [e]) = pvs ps ++ [e.val] by simp [pvs]]
    exact hr
  · obtain ⟨h1, h2, h3, h4⟩ := hev f hf1
    have key : ∀ b, f.lo ≤ b → b < f.hi → some b ≠ (Value.slice (some (⟨g0, 0, none⟩ : Addr)) n c).ownBlock := fun b h5 h6 h7 => by
      simp only [Value.ownBlock, Option.some.injEq] at h7
      have := hfa f hf1
      omega
    exact ⟨h1.kept hg (fun b o e1 => key b (h1.base_lt b o e1).1 (h1.olt b o e1)) (fun i hi b o e1 => key b ((h1.each i hi).at_base b o e1).1 (h1.lt i hi b o e1)), h2, h3, Nat.le_trans h4 hg.size⟩
  · rw [List.pairwise_append]
    exact ⟨h.sep, List.pairwise_singleton _ _, fun x hx y hy => by simp only [List.mem_singleton] at hy; subst hy; exact hs x hx⟩
  · simp only [Option.some.injEq, Addr.mk.injEq, and_true] at e1
    obtain ⟨rfl, _⟩ := e1
    rcases hn _ _ _ rfl with h5 | h5
    · simp only [Option.some.injEq, Addr.mk.injEq, and_true] at h5
      rw [← h5]
      exact hfa f hf1
    · exact .inr (Nat.le_trans (hev f hf1).top h5)
end
theorem Tryz.infoSteps : (Tryz.prog.info? 136).map (fun i => (i.zero, i.size, i.bytes)) = some (some (.slice none 0 0), 1, 24) := by kernel_rfl
/-- append of one path to an owned list of paths -/
theorem wpList_append_path {ops : Array Oper} {rest : List Oper} {o : Oper} {av : Act} {Q : Exit → Act → World → Prop} {w : World} (hgd : o.guard = none) (s x : Operand)
    (ho : o.op = .call { callee := .builtin .append, args := #[s, x], argTypes := #[135, 135] }) (B : Nat) (a : Option Addr) (n c : Nat) (ps : List PEl) (hsv : av.eval s = .slice a n c) (hown : OwnPs w B a n c ps)
    (g m : Nat) (e : PEl) (hx : av.eval x = .slice (some ⟨g, 0, none⟩) 1 m) (hy : w.cell? ⟨g, 0, none⟩ = some e.val) (he : e.Ok w B) (hs : ∀ f ∈ ps, f.hi ≤ e.lo) (hf : ∀ b o, a = some ⟨b, o, none⟩ → b < e.lo ∨ e.hi ≤ b) (hsm : n ≤ 1000000000) (hB : B ≤ w.heap.size)
    (h : ∀ a' c' w', OwnPs w' B a' (n + 1) c' (ps ++ [e]) → w.grownBy w' (Value.slice a n c).ownBlock → OrNew w.heap.size a a' → wpList Tryz.prog ops Q rest (av.put o.dst (.slice a' (n + 1) c')) w') : wpList Tryz.prog ops Q (o :: rest) av w := by
  obtain ⟨i, hi, hz0, hz1, hz2⟩ := info_parts Tryz.infoSteps
  have hcells : ∀ j u, [e.val][j]? = some u → w.cell? ((⟨g, 0, none⟩ : Addr).add j) = some u := by
    intro j u hu
    cases j with
    | zero =>
      simp only [List.getElem?_cons_zero, Option.some.injEq] at hu
      subst hu
      rw [add_none]
      exact hy
    | succ j => simp at hu
  have hone : ∀ u ∈ [e.val], u.oneCell' = true := fun u hu => by simp only [List.mem_singleton] at hu; subst hu; rfl
  obtain ⟨g0, rfl, _, hgl, hnc, hcm⟩ := hown.form
  by_cases hroom : n + 1 ≤ c
  · refine wpList_append_fits w hgd s x 135 ho B 136 i 1 Tryz.underlying135 hi hz1 g0 n c (pvs ps) hsv hown.row ⟨g, 0, none⟩ 1 m [e.val] hx rfl hcells hone hroom ?_
    intro w' hr hg
    obtain ⟨a', c', e2, hk⟩ := hown.snoc_of hr hg he hs hf (fun g1 m1 k1 e3 => by cases e3; exact .inl rfl)
    simp only [Value.slice.injEq] at e2
    obtain ⟨rfl, _, rfl⟩ := e2
    exact h _ _ w' hk hg (.inl rfl)
  · have hlx := hown.row.1
    refine wpList_append_grows w hgd s x 135 ho 136 i (.slice none 0 0) 1 24 Tryz.underlying135 hi hz0 hz1 hz2 rfl (by decide) (some ⟨g0, 0, none⟩) n c (pvs ps) hsv (fun e => by cases e) hlx ?_ ⟨g, 0, none⟩ 1 m [e.val] hx rfl hcells hone (by omega) (by unfold maxLen; omega) (by omega) ?_
    · intro b e1 j u hu
      simp only [Option.some.injEq] at e1
      subst e1
      have hj : j < n * 1 := by have := (List.getElem?_eq_some_iff.1 hu).1; rwa [hlx] at this
      rw [add_none, Nat.zero_add, hown.row.cellAt j hj]
      exact hu
    · intro v' w' hr hg0
      have hg : w.grownBy w' (Value.slice (some (⟨g0, 0, none⟩ : Addr)) n c).ownBlock := ⟨hg0.os, hg0.tape, hg0.output, hg0.size, fun k hk _ => hg0.block k hk (by simp)⟩
      have hnew : ∀ g1 m1 k1, v' = .slice (some ⟨g1, 0, none⟩) m1 k1 → w.heap.size ≤ g1 := fun g1 m1 k1 e1 => by
        rcases hr.2 with ⟨_, h0⟩ | ⟨g', cap, cur, he, hB', _⟩
        · omega
        · rw [e1] at he
          simp only [Value.slice.injEq, Option.some.injEq, Addr.mk.injEq, and_true] at he
          rw [he.1]; exact hB'
      have hr2 : w'.ownsRow B 136 1 v' (n + 1) (pvs ps ++ [e.val]) := by
        refine ⟨hr.1, ?_⟩
        rcases hr.2 with h2 | ⟨g', cap, cur, he, hB', r⟩
        · exact .inl h2
        · exact .inr ⟨g', cap, cur, he, Nat.le_trans hB hB', r⟩
      obtain ⟨a', c', rfl, hk⟩ := hown.snoc_of hr2 hg he hs hf (fun g1 m1 k1 e1 => .inr (hnew g1 m1 k1 e1))
      refine h a' c' w' hk hg (.inr fun b o e1 => ?_)
      obtain ⟨g2, rfl, _⟩ := hk.form
      simp only [Option.some.injEq, Addr.mk.injEq, and_true] at e1
      rw [← e1.1]
      exact hnew _ _ _ rfl
end Go.Proofs.YtenlhfimdpcaoaaGreat

set_option linter.unusedVariables false
namespace Go.Proofs.YtenlhfimdpcaoaaGreat
open Go.RowKit

theorem OwnPs.ext {w w' w0 : World} {B n c : Nat} {a : Option Addr} {ps : List PEl} (h : OwnPs w B a n c ps) (hg : w.grownBy w' (Value.slice a n c).ownBlock) (hb : Ext w0 w) (hB : w0.heap.size ≤ B) : Ext w0 w' := by
  refine Below.grown hb hg hb.size fun k hk => ?_
  obtain ⟨g, rfl, h1, _⟩ := h.form
  simp only [Value.ownBlock, Option.some.injEq] at hk
  omega
end Go.Proofs.YtenlhfimdpcaoaaGreat

namespace Go.Proofs.YtenlhfimdpcaoaaGreat
open Go.RowKit

theorem OwnK.rowAtF {w : World} {B U : Nat} {a : Option Addr} {n c : Nat} {hs : List Hdr} {xs : List (List Int)} (h : OwnK rowK w B U a n c hs xs) (k : Nat) (hk : k < n) (hp : 0 < (xs.getD k []).length) :
    ∃ g b cw, a = some ⟨g, 0, none⟩ ∧ OwnI w B (some ⟨b, 0, none⟩) (xs.getD k []).length cw (xs.getD k []) ∧ (xs.getD k []).length ≤ cw ∧ cw ≤ 9223372036854775807 ∧ w.cell? ⟨g, k, none⟩ = some (.slice (some ⟨b, 0, none⟩) (xs.getD k []).length cw) := by
  obtain ⟨g, rfl, hc, _⟩ := h.cell k 0 hk (by decide)
  rw [show k * rowK.size + 0 = k from by show k * 1 + 0 = k; omega] at hc
  have ho := h.each k hk
  have ho : OwnI w B (hs.getD k (none, 0)).1 (xs.getD k []).length (hs.getD k (none, 0)).2 (xs.getD k []) := ho
  have hc : w.cell? ⟨g, k, none⟩ = some (.slice (hs.getD k (none, 0)).1 (xs.getD k []).length (hs.getD k (none, 0)).2) := hc
  obtain ⟨b, hb, _⟩ := ho.cell 0 hp
  rw [hb] at ho hc
  exact ⟨g, b, _, rfl, ho, ho.capX.1, ho.capX.2, hc⟩
theorem OwnPs.made (w : World) : OwnPs (w.alloc (.cells #[] 136)) w.heap.size (some ⟨w.heap.size, 0, none⟩) 0 0 [] :=
  { row := ⟨by simp [pvs], .inr ⟨w.heap.size, 0, #[], rfl, Nat.le_refl _, heap_alloc_new _ _, Nat.le_refl _, by unfold maxLen; omega, by simp, by simp [pvs]⟩⟩
    nn := by simp
    each := fun e he => absurd he (by simp)
    sep := List.Pairwise.nil
    far := fun e he => absurd he (by simp) }
/-- a list of lists of steps, read -/
structure SumsAt (w : World) (a : Option Addr) (n : Nat) (L : List (List Stp)) : Prop where
  len : L.length = n
  get : ∀ k, k < n → ∃ g at_ cp, a = some ⟨g, 0, none⟩ ∧ w.cell? ⟨g, k, none⟩ = some (.slice at_ (L.getD k []).length cp) ∧ StepsAt w at_ (L.getD k []).length (L.getD k [])
theorem OwnPs.sums {w : World} {B n c : Nat} {a : Option Addr} {ps : List PEl} (h : OwnPs w B a n c ps) {L : List (List Stp)} (hq : ps.map PEl.q = L) : SumsAt w a n L := by
  subst hq
  refine ⟨by rw [List.length_map]; exact h.len, fun k hk => ?_⟩
  obtain ⟨g, e, _⟩ := h.form
  obtain ⟨hk2, hc⟩ := h.cell hk e
  have hq : (ps.map PEl.q).getD k [] = ps[k].q := by simp [List.getD_eq_getElem?_getD, hk2]
  rw [hq]
  exact ⟨g, ps[k].at_, ps[k].cap, e, hc, (h.each _ (List.getElem_mem _)).own.stepsAt⟩
theorem SumsAt.below {w w' : World} {a : Option Addr} {n : Nat} {L : List (List Stp)} (h : SumsAt w a n L) (hx : Ext w w') : SumsAt w' a n L := by
  refine ⟨h.len, fun k hk => ?_⟩
  obtain ⟨g, at_, cp, e, hc, hs⟩ := h.get k hk
  exact ⟨g, at_, cp, e, (hx.cell (p := ⟨g, k, none⟩) (World.block_lt_of_cell? w _ hc)).trans hc, hs.below hx⟩
/-- the algebra that is made: its variable's block b, its table at a -/
structure FreT (w2 w : World) (b : Nat) (p : Int) (N N3 : Nat) (a : Option Addr) (ts : List Int) : Prop where
  alg : AlgAt w b p (N : Int) a N3 N3
  own : OwnI w w2.heap.size a N3 N3 ts
  ext : Ext w2 w
  ne : ∀ b' o', a = some ⟨b', o', none⟩ → b ≠ b'
theorem FreT.below {w2 w w' : World} {b : Nat} {p : Int} {N N3 : Nat} {a : Option Addr} {ts : List Int} (h : FreT w2 w b p N N3 a ts) (hx : Ext w w') : FreT w2 w' b p N N3 a ts :=
  ⟨h.alg.below hx, h.own.below hx, h.ext.trans hx, h.ne⟩
theorem FreT.upd {w2 w w' : World} {b : Nat} {p : Int} {N N3 : Nat} {a : Option Addr} {ts ys : List Int} (h : FreT w2 w b p N N3 a ts) (hu : UpdI w w' a N3 ys) : FreT w2 w' b p N N3 a ys :=
  ⟨h.alg.upd hu h.ne, hu.own h.own, hu.below h.ext h.ext.size (fun b o e _ => (h.own.at_base b o e).1), h.ne⟩
theorem FreT.as {w2 w : World} {b : Nat} {p : Int} {N N3 : Nat} {a : Option Addr} {ts ys : List Int} (h : FreT w2 w b p N N3 a ts) (e : ts = ys) : FreT w2 w b p N N3 a ys := e ▸ h
/-- the inner loop: what is left from k0 on, the table up to it -/
structure FreJ (p : Int) (M q i j : Nat) (w2 wj : World) (b N N3 : Nat) (a : Option Addr) (k0 : Nat) (v : Value) (w : World) : Prop where
  le : k0 ≤ N
  st : ∃ (ar : Option Addr) (nr cr : Nat) (hs : List Hdr) (R : List Tm), v = .slice ar nr cr ∧ OwnK stepK w wj.heap.size w.heap.size ar nr cr hs R ∧ ElimR p M q i j k0 R ∧ FreT w2 w b p N N3 a (tabF N (byTo p (frRow p M q) i j k0)) ∧ wj.heap.size ≤ w.heap.size
end Go.Proofs.YtenlhfimdpcaoaaGreat
