/-
  Example algebras: l7Set, l12Rows, l12Example, exampleBrackets, ExampleAlgebra.
-/
import Derived.Test.YthbdcclglopkiaaInS
import Derived.Test.YthbdcclglopkiaaInt
import Derived.Test.YthbdcclglopkiaaReg
namespace Go.Proofs.Ythbdcclglopkiaa
open Go.RowKit

set_option maxRecDepth 100000 in
set_option maxHeartbeats 1000000 in
theorem l7Set_any (p d i j k n : Int) (a : Option Addr) (N c : Nat) (xs : List Int) (w : World) (h : IntsAt w a N xs)
    (hp : 1 ≤ p) (hp2 : p ≤ 1000000) (hN : (N : Int) = d * d * d) (hd0 : 0 ≤ d) (hd1 : d ≤ 28) (hi0 : 0 ≤ i) (hi1 : i < d) (hj0 : 0 ≤ j) (hj1 : j < d) (hk0 : 0 ≤ k) (hk1 : k < d) (hn0 : -1000000000 ≤ n) (hn1 : n ≤ 1000000000)
    (hf : ∀ i b o, i < N → a = some ⟨b, o, none⟩ → w.frozen? ⟨b, o + i, none⟩ = false) :
    Calls Try.prog 63 #[.agg #[.int .i64 p, .int .i64 d, .slice a N c], .int .i64 i, .int .i64 j, .int .i64 k, .int .i64 n] w fun e w' => e = .returned (.tuple #[]) ∧ UpdI w w' a N ((xs.set ((i * d + j) * d + k).toNat (n % p)).set ((j * d + i) * d + k).toNat ((-n) % p)) := by
  obtain ⟨q1, q2, q3, q4, q5⟩ := idx_facts hd1 hi0 hi1 hj0 hj1 hk0 hk1
  obtain ⟨r1, r2, r3, r4, r5⟩ := idx_facts hd1 hj0 hj1 hi0 hi1 hk0 hk1
  obtain ⟨t1, ht1⟩ := Int.eq_ofNat_of_zero_le (show 0 ≤ (i * d + j) * d + k by omega)
  obtain ⟨t2, ht2⟩ := Int.eq_ofNat_of_zero_le (show 0 ≤ (j * d + i) * d + k by omega)
  have T1 : t1 < N := by omega
  have T2 : t2 < N := by omega
  have hst := UpdI.start h
  obtain ⟨b, o, rfl, hb⟩ := h.get t1 T1
  have hbl := World.block_lt_of_cell? w _ hb
  have HH := hidP h
  have HB := hidP hb
  have HST := hidP hst
  have HT1 := hidP ht1
  have HT2 := hidP ht2
  have HFZ := hidP hf
  have e1 : IntKind.i64.wrap (i * d) = i * d := wrap_in (by omega) (by omega)
  have e2 : IntKind.i64.wrap (i * d + j) = i * d + j := wrap_in (by omega) (by omega)
  have e3 : IntKind.i64.wrap ((i * d + j) * d) = (i * d + j) * d := wrap_in (by omega) (by omega)
  have e4 : IntKind.i64.wrap ((i * d + j) * d + k) = (t1 : Int) := by rw [← ht1]; exact wrap_in (by omega) (by omega)
  have e5 : IntKind.i64.wrap (j * d) = j * d := wrap_in (by omega) (by omega)
  have e6 : IntKind.i64.wrap (j * d + i) = j * d + i := wrap_in (by omega) (by omega)
  have e7 : IntKind.i64.wrap ((j * d + i) * d) = (j * d + i) * d := wrap_in (by omega) (by omega)
  have e8 : IntKind.i64.wrap ((j * d + i) * d + k) = (t2 : Int) := by rw [← ht2]; exact wrap_in (by omega) (by omega)
  have e9 : IntKind.i64.wrap (0 - n) = -n := by rw [Int.zero_sub]; exact wrap_in (by omega) (by omega)
  have T1' : (t1 : Int) < N := by omega
  have T2' : (t2 : Int) < N := by omega
  clear h hst hb hf ht1 ht2 q1 q2 q3 q4 q5 r1 r2 r3 r4 r5 hN
  go_enter Try.func63, Try.ntmps63
  go_wp2
  obtain ⟨w1, hw1⟩ : ∃ w1, w1 = w.alloc (.cells #[.int .i64 p, .int .i64 d, .slice (some ⟨b, o, none⟩) N c] 24) := ⟨_, rfl⟩
  have hc0 : w1.cell? ⟨w.heap.size, 0, none⟩ = some (.int .i64 p) := by rw [hw1]; simp
  have hc1 : w1.cell? ⟨w.heap.size, 1, none⟩ = some (.int .i64 d) := by rw [hw1]; simp
  have hc2 : w1.cell? ⟨w.heap.size, 2, none⟩ = some (.slice (some ⟨b, o, none⟩) N c) := by rw [hw1]; simp
  have hsz : w.heap.size < w1.heap.size := by rw [hw1]; simp
  have hx1 : Ext w w1 := by rw [hw1]; exact Ext.alloc w _
  rw [← hw1]
  have HF := hidP (fun w' (hx : Ext w1 w') => (⟨(hx.cell hsz).trans hc0, (hx.cell hsz).trans hc1, (hx.cell hsz).trans hc2⟩ : w'.cell? ⟨w.heap.size, 0, none⟩ = some (.int .i64 p) ∧ w'.cell? ⟨w.heap.size, 1, none⟩ = some (.int .i64 d) ∧ w'.cell? ⟨w.heap.size, 2, none⟩ = some (.slice (some ⟨b, o, none⟩) N c)))
  have hu1 := hidP ((hx1.upd HH.out (UpdI.start (HH.out.below hx1))))
  have hb1 : w1.cell? ⟨b, o + t1, none⟩ = some (.int .i64 (xs.getD t1 0)) := (hx1.cell (p := ⟨b, o + t1, none⟩) hbl).trans HB.out
  have hz1 : w1.frozen? ⟨b, o + t1, none⟩ = false := (hx1.frozen (p := ⟨b, o + t1, none⟩) hbl).trans (HFZ.out t1 b o T1 rfl)
  clear hw1 hx1 hc0 hc1 hc2
  have hE : Ext w1 w1.drew := Ext.drew w1
  (refine walkR_start (fun w' => Ext w1 w') 18 (by kernel_rfl) ?_; simp only [numbered, List.take_succ_cons, List.take_zero, Nat.zero_add, Nat.reduceAdd, List.length_cons, List.length_nil])
  repeat (refine walkR_still (v := ?_) rfl (by decide +kernel) rfl (fun _ _ _ h => h) hE ?_ ?_; rotate_left; (focus (intro w' hw'; obtain ⟨f0, f1, f2⟩ := HF.out w' hw'; go_simp; all_goals (with_reducible rfl))); simp only [Act.put, List.setIfInBounds_toArray, List.set_cons_zero, List.set_cons_succ])
  (refine walkR_only (fun w' => Ext w1 w') rfl (by decide +kernel) rfl ?_ ?_)
  · exact fun _ h => h
  intro K hK
  go_simp
  refine (l1Mod_any _ _ _ hp hp2).mono ?_
  rintro e w' ⟨rfl, rfl⟩
  refine hK _ _ hE ?_
  clear hK K
  (try simp only [Act.put, List.setIfInBounds_toArray, List.set_cons_zero, List.set_cons_succ])
  repeat (refine walkR_still (v := ?_) rfl (by decide +kernel) rfl (fun _ _ _ h => h) hE ?_ ?_; rotate_left; (focus (intro w' hw'; obtain ⟨f0, f1, f2⟩ := HF.out w' hw'; go_simp; all_goals (with_reducible rfl))); simp only [Act.put, List.setIfInBounds_toArray, List.set_cons_zero, List.set_cons_succ])
  (refine walkR_tail (by rfl) (by kernel_rfl) ?_; simp only [List.drop_succ_cons, List.drop_zero])
  go_wp2
  obtain ⟨w2, hw2⟩ : ∃ w2, w2 = (w1.setCell ⟨b, o + t1, none⟩ (.int .i64 (n % p))).drew := ⟨_, rfl⟩
  rw [← hw2]
  have hu2 : Hid (UpdI w w2 (some ⟨b, o, none⟩) N (xs.set t1 (n % p))) := by rw [hw2]; exact (hu1.out.store t1 T1 (n % p)).drew
  have hsz2 : w.heap.size < w2.heap.size := by rw [hw2]; simpa using hsz
  have HF2 := HF
  clear HF
  have hg : ∀ j, w2.cell? ⟨w.heap.size, j, none⟩ = w1.cell? ⟨w.heap.size, j, none⟩ := fun j => by
    rw [hw2, World.cell?_drew]
    exact World.cell?_of_block (Below.heap_setCell _ _ _ _ (Nat.ne_of_gt hbl))
  obtain ⟨g0, g1, g2⟩ := HF2.out w1 (Ext.refl w1)
  have HF := hidP (fun w' (hx : Ext w2 w') => (⟨(hx.cell hsz2).trans ((hg 0).trans g0), (hx.cell hsz2).trans ((hg 1).trans g1), (hx.cell hsz2).trans ((hg 2).trans g2)⟩ : w'.cell? ⟨w.heap.size, 0, none⟩ = some (.int .i64 p) ∧ w'.cell? ⟨w.heap.size, 1, none⟩ = some (.int .i64 d) ∧ w'.cell? ⟨w.heap.size, 2, none⟩ = some (.slice (some ⟨b, o, none⟩) N c)))
  obtain ⟨v2, hb2, hz2'⟩ := hu2.out.cellAt t2 T2
  have hz2 : w2.frozen? ⟨b, o + t2, none⟩ = false := hz2'.trans (HFZ.out t2 b o T2 rfl)
  clear hw2 hg g0 g1 g2 hz2' HF2 hb1 hz1 hE hu1
  have hE : Ext w2 w2.drew := Ext.drew w2
  (refine walkR_start (fun w' => Ext w2 w') 19 (by kernel_rfl) ?_; simp only [numbered, List.take_succ_cons, List.take_zero, Nat.zero_add, Nat.reduceAdd, List.length_cons, List.length_nil])
  repeat (refine walkR_still (v := ?_) rfl (by decide +kernel) rfl (fun _ _ _ h => h) hE ?_ ?_; rotate_left; (focus (intro w' hw'; obtain ⟨f0, f1, f2⟩ := HF.out w' hw'; go_simp; all_goals (with_reducible rfl))); simp only [Act.put, List.setIfInBounds_toArray, List.set_cons_zero, List.set_cons_succ])
  (refine walkR_only (fun w' => Ext w2 w') rfl (by decide +kernel) rfl ?_ ?_)
  · exact fun _ h => h
  intro K hK
  go_simp
  refine (l1Mod_any _ _ _ hp hp2).mono ?_
  rintro e w' ⟨rfl, rfl⟩
  refine hK _ _ hE ?_
  clear hK K
  (try simp only [Act.put, List.setIfInBounds_toArray, List.set_cons_zero, List.set_cons_succ])
  repeat (refine walkR_still (v := ?_) rfl (by decide +kernel) rfl (fun _ _ _ h => h) hE ?_ ?_; rotate_left; (focus (intro w' hw'; obtain ⟨f0, f1, f2⟩ := HF.out w' hw'; go_simp; all_goals (with_reducible rfl))); simp only [Act.put, List.setIfInBounds_toArray, List.set_cons_zero, List.set_cons_succ])
  (refine walkR_tail (by rfl) (by kernel_rfl) ?_; simp only [List.drop_succ_cons, List.drop_zero])
  go_wp2
  go_end0
  rw [HT1.out, HT2.out]
  exact ⟨rfl, (hu2.out.store t2 T2 _).drew⟩
end Go.Proofs.Ythbdcclglopkiaa
