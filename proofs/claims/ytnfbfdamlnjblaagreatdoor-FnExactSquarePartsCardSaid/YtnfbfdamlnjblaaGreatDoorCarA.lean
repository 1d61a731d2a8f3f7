/-
  Cartan matrices of one part, by the program: the names, an entry, the closures that write, the matrix.
-/
import Derived.Test.YtnfbfdamlnjblaaGreatDoorStr
import Derived.Test.YtnfbfdamlnjblaaGreatDoorCar
import Derived.Test.YtnfbfdamlnjblaaGreatDoorInt
import Derived.Test.YtnfbfdamlnjblaaGreatDoorCv
import Derived.Test.YtnfbfdamlnjblaaGreatDoorReg
import Derived.Test.YtnfbfdamlnjblaaGreatDoorShl
import Derived.Deep.RegionHeld3
namespace Go.Proofs.YtnfbfdamlnjblaaGreatDoor
open Go.RowKit

/-- a slice of strings, read -/
structure StrsAt (w : World) (a : Option Addr) (n : Nat) (ss : List ByteArray) : Prop where
  len : ss.length = n
  get : ∀ i, i < n → ∃ b o, a = some ⟨b, o, none⟩ ∧ w.cell? ⟨b, o + i, none⟩ = some (.string (ss.getD i ByteArray.empty))
theorem StrsAt.below {w w' : World} {a : Option Addr} {n : Nat} {ss : List ByteArray} (h : StrsAt w a n ss) (hb : Ext w w') : StrsAt w' a n ss := by
  refine ⟨h.len, fun i hi => ?_⟩
  obtain ⟨b, o, rfl, hc⟩ := h.get i hi
  exact ⟨b, o, rfl, (hb.cell (p := ⟨b, o + i, none⟩) (World.block_lt_of_cell? w _ hc)).trans hc⟩
theorem StrsAt.nil (w : World) (a : Option Addr) : StrsAt w a 0 [] := ⟨rfl, fun i h => by omega⟩
theorem strs_alloc (w : World) (ss : List ByteArray) (E : TypeId) : StrsAt (w.alloc (.cells (svs ss).toArray E)) (some ⟨w.heap.size, 0, none⟩) ss.length ss := by
  refine ⟨rfl, fun i hi => ⟨w.heap.size, 0, rfl, ?_⟩⟩
  rw [cell_top _ _ _ _ _ rfl, Nat.zero_add, List.getElem?_toArray]
  simp [svs, hi]
theorem OwnS.strs {w : World} {B : Nat} {a : Option Addr} {n c : Nat} {xs : List ByteArray} (h : OwnS w B a n c xs) : StrsAt w a n xs := by
  refine ⟨h.len, fun i hi => ?_⟩
  obtain ⟨g, rfl, _, _, _, _, hc⟩ := h.form
  have hl := h.len
  exact ⟨g, 0, rfl, hc i _ (by simp [show i < xs.length by omega])⟩

def nameS : List ByteArray := pNames.map str
theorem nameS_length : nameS.length = 12 := rfl
theorem partNames_any (w : World) : Calls Tryz.prog 204 #[] w fun e w' => ∃ b, e = .returned (.slice (some ⟨b, 0, none⟩) 12 12) ∧ StrsAt w' (some ⟨b, 0, none⟩) 12 nameS ∧ Ext w w' := by
  go_enter Tryz.func204, Tryz.ntmps204
  go_wp2
  go_ret
  exact ⟨_, rfl, strs_alloc w nameS 9, Ext.alloc _ _⟩
theorem l5Names_any (w : World) : Calls Tryz.prog 182 #[] w fun e w' => ∃ b, e = .returned (.slice (some ⟨b, 0, none⟩) 12 12) ∧ StrsAt w' (some ⟨b, 0, none⟩) 12 nameS ∧ Ext w w' := by
  go_enter Tryz.func182, Tryz.ntmps182
  go_wp2
  go_ret
  exact ⟨_, rfl, strs_alloc w nameS 9, Ext.alloc _ _⟩

theorem UpdI.far {w w' : World} {g o n : Nat} {ys : List Int} (h : UpdI w w' (some ⟨g, o, none⟩) n ys) {b i : Nat} {v : Value} (hc : w.cell? ⟨b, i, none⟩ = some v) (hne : b ≠ g) : w'.cell? ⟨b, i, none⟩ = some v :=
  (World.cell?_of_block (a := ⟨b, i, none⟩) (h.other b (World.block_lt_of_cell? w _ hc) fun b' o' e _ => by cases e; exact hne)).trans hc
theorem UpdI.farF {w w' : World} {g o n : Nat} {ys : List Int} (h : UpdI w w' (some ⟨g, o, none⟩) n ys) {b i : Nat} (hb : b < w.heap.size) (hne : b ≠ g) : w'.frozen? ⟨b, i, none⟩ = w.frozen? ⟨b, i, none⟩ := by
  have := h.other b hb fun b' o' e _ => by cases e; exact hne
  simp only [World.frozen?, this]
theorem OwnI.setFar {w : World} {B g n c : Nat} {xs : List Int} (h : OwnI w B (some ⟨g, 0, none⟩) n c xs) (b i : Nat) (v : Value) (hne : g ≠ b) : OwnI (w.setCell ⟨b, i, none⟩ v) B (some ⟨g, 0, none⟩) n c xs :=
  h.grown (row := some b) ⟨rfl, rfl, rfl, by simp [World.setCell], fun k _ hk => Below.heap_setCell _ _ _ _ (fun e => hk (by rw [e]))⟩ (fun g' o e => by cases e; simpa using hne)
/-- places in a matrix of rank at most 4 -/
theorem idx4 {r i j : Int} (hr : r ≤ 4) (hi0 : 0 ≤ i) (hi : i < r) (_hj0 : 0 ≤ j) (hj : j < r) : 0 ≤ i * r ∧ i * r ≤ 12 ∧ i * r + j < r * r ∧ r * r ≤ 16 := by
  have h1 : (i + 1) * r ≤ r * r := Int.mul_le_mul_of_nonneg_right (by omega) (by omega)
  have h2 : 0 ≤ i * r := Int.mul_nonneg hi0 (by omega)
  have h3 : r * r ≤ 4 * 4 := Int.mul_le_mul hr hr (by omega) (by omega)
  have h4 : i * r ≤ 3 * 4 := Int.mul_le_mul (by omega) hr (by omega) (by omega)
  rw [Int.add_mul, Int.one_mul] at h1
  omega

theorem cartAt_any (r : Int) (a : Option Addr) (n c : Nat) (xs : List Int) (i j : Nat) (w : World) (h : IntsAt w a n xs) (hn : (n : Int) = r * r) (hr : r ≤ 4) (hi : (i : Int) < r) (hj : (j : Int) < r) :
    Calls Tryz.prog 143 #[carV r a n c, .int .i64 i, .int .i64 j] w fun e w' => e = .returned (.int .i64 (atM xs r.toNat i j)) ∧ Ext w w' := by
  obtain ⟨R, rfl⟩ : ∃ R : Nat, r = R := ⟨r.toNat, by omega⟩
  obtain ⟨h0, h1, h2, h3⟩ := idx4 hr (Int.natCast_nonneg i) hi (Int.natCast_nonneg j) hj
  rw [← hn] at h2 h3
  have hx : i * R + j < n := by
    have : ((i * R + j : Nat) : Int) < n := by rw [Int.natCast_add, Int.natCast_mul]; exact h2
    omega
  obtain ⟨b, o, rfl, hc⟩ := (h.below (Ext.alloc w (.cells #[.int .i64 R, .slice a n c] 55))).get _ hx
  have HA : Hid (xs.getD (i * R + j) 0 = atM xs (R : Int).toNat i j) := rfl
  rw [HA.out] at hc
  have hp : 0 ≤ (i : Int) * R + j := by omega
  have hCA := CarAt.new w _ rfl R (some ⟨b, o, none⟩) n c 55
  obtain ⟨f0, f1⟩ := hCA
  clear h hn
  go_enter Tryz.func143, Tryz.ntmps143
  go_wp2
  go_ret
  exact ⟨rfl, Ext.alloc _ _⟩
theorem l5At_any (r : Int) (a : Option Addr) (n c : Nat) (xs : List Int) (i j : Nat) (w : World) (h : IntsAt w a n xs) (hn : (n : Int) = r * r) (hr : r ≤ 4) (hi : (i : Int) < r) (hj : (j : Int) < r) :
    Calls Tryz.prog 142 #[carV r a n c, .int .i64 i, .int .i64 j] w fun e w' => e = .returned (.int .i64 (atM xs r.toNat i j)) ∧ Ext w w' := by
  obtain ⟨R, rfl⟩ : ∃ R : Nat, r = R := ⟨r.toNat, by omega⟩
  obtain ⟨h0, h1, h2, h3⟩ := idx4 hr (Int.natCast_nonneg i) hi (Int.natCast_nonneg j) hj
  rw [← hn] at h2 h3
  have hx : i * R + j < n := by
    have : ((i * R + j : Nat) : Int) < n := by rw [Int.natCast_add, Int.natCast_mul]; exact h2
    omega
  obtain ⟨b, o, rfl, hc⟩ := (h.below (Ext.alloc w (.cells #[.int .i64 R, .slice a n c] 55))).get _ hx
  have HA : Hid (xs.getD (i * R + j) 0 = atM xs (R : Int).toNat i j) := rfl
  rw [HA.out] at hc
  have hp : 0 ≤ (i : Int) * R + j := by omega
  have hCA := CarAt.new w _ rfl R (some ⟨b, o, none⟩) n c 55
  obtain ⟨f0, f1⟩ := hCA
  clear h hn
  go_enter Tryz.func142, Tryz.ntmps142
  go_wp2
  go_ret
  exact ⟨rfl, Ext.alloc _ _⟩

theorem callFunc_put (args : Array Value) (w : World) : Sem.run Tryz.prog (callFunc 218 args) w = .ok (.enter 218 args) w := by
  kernel_rfl
theorem callFunc_both (args : Array Value) (w : World) : Sem.run Tryz.prog (callFunc 219 args) w = .ok (.enter 219 args) w := by
  kernel_rfl
/-- one entry is written -/
theorem put_any (i j v n : Int) (bc bn g m c : Nat) (v0 : Value) (w : World) (h1 : w.cell? ⟨bc, 1, none⟩ = some (.slice (some ⟨g, 0, none⟩) m c)) (h2 : w.cell? ⟨bn, 0, none⟩ = some (.int .i64 n))
    (hi : 1 ≤ i) (hi2 : i ≤ n) (hj : 1 ≤ j) (hj2 : j ≤ n) (hn : n ≤ 4) (hm : (m : Int) = n * n) (hc : w.cell? ⟨g, ((i - 1) * n + j).toNat - 1, none⟩ = some v0) (hf : w.frozen? ⟨g, ((i - 1) * n + j).toNat - 1, none⟩ = false) :
    Calls Tryz.prog 218 #[.int .i64 i, .int .i64 j, .int .i64 v, .pointer (some ⟨bc, 0, none⟩), .pointer (some ⟨bn, 0, none⟩)] w fun e w' => e = .returned (.tuple #[]) ∧ w' = w.setCell ⟨g, ((i - 1) * n + j).toNat - 1, none⟩ (.int .i64 v) := by
  obtain ⟨k0, k1, k2, k3⟩ := idx4 (r := n) (i := i - 1) (j := j - 1) hn (by omega) (by omega) (by omega) (by omega)
  rw [← hm] at k2 k3
  have hp : 0 ≤ (i - 1) * n + j - 1 := by omega
  have hl : (i - 1) * n + j - 1 < m := by omega
  clear hm
  go_enter Tryz.func218, Tryz.ntmps218
  go_wp2
  go_end0
  exact ⟨rfl, rfl⟩
/-- a place in a matrix of rank n, as a number -/
theorem place4 {i j n : Int} {m : Nat} (hn : n ≤ 4) (hm : (m : Int) = n * n) (hi : 1 ≤ i) (hi2 : i ≤ n) (hj : 1 ≤ j) (hj2 : j ≤ n) : ((i - 1) * n + j).toNat - 1 < m := by
  obtain ⟨k0, k1, k2, k3⟩ := idx4 (r := n) (i := i - 1) (j := j - 1) hn (by omega) (by omega) (by omega) (by omega)
  omega
theorem put_upd (i j v n : Int) (bc bn g m c : Nat) (xs : List Int) (w0 w : World) (h1 : w.cell? ⟨bc, 1, none⟩ = some (.slice (some ⟨g, 0, none⟩) m c)) (h2 : w.cell? ⟨bn, 0, none⟩ = some (.int .i64 n))
    (hi : 1 ≤ i) (hi2 : i ≤ n) (hj : 1 ≤ j) (hj2 : j ≤ n) (hn : n ≤ 4) (hm : (m : Int) = n * n) (hx : UpdI w0 w (some ⟨g, 0, none⟩) m xs) (hf : ∀ t, t < m → w0.frozen? ⟨g, t, none⟩ = false) :
    Calls Tryz.prog 218 #[.int .i64 i, .int .i64 j, .int .i64 v, .pointer (some ⟨bc, 0, none⟩), .pointer (some ⟨bn, 0, none⟩)] w fun e w' => e = .returned (.tuple #[]) ∧ UpdI w0 w' (some ⟨g, 0, none⟩) m (xs.set (((i - 1) * n + j).toNat - 1) v) := by
  have hl := place4 hn hm hi hi2 hj hj2
  obtain ⟨q, hz⟩ := hx.cellInt _ hl
  rw [Nat.zero_add] at q hz
  refine (put_any i j v n bc bn g m c _ w h1 h2 hi hi2 hj hj2 hn hm q (hz.trans (hf _ hl))).mono ?_
  rintro e w' ⟨rfl, rfl⟩
  refine ⟨rfl, ?_⟩
  have := hx.store _ hl v
  rwa [Nat.zero_add] at this
/-- what the closures hold -/
structure PutAt (w : World) (bp bc bn g m c : Nat) (n : Int) : Prop where
  hp : w.cell? ⟨bp, 0, none⟩ = some (.func (.func 218) #[] #[.pointer (some ⟨bc, 0, none⟩), .pointer (some ⟨bn, 0, none⟩)])
  h1 : w.cell? ⟨bc, 1, none⟩ = some (.slice (some ⟨g, 0, none⟩) m c)
  h2 : w.cell? ⟨bn, 0, none⟩ = some (.int .i64 n)
  np : bp ≠ g
  nc : bc ≠ g
  nn : bn ≠ g
theorem PutAt.upd {w w' : World} {bp bc bn g m c : Nat} {n : Int} (h : PutAt w bp bc bn g m c n) {ys : List Int} (hu : UpdI w w' (some ⟨g, 0, none⟩) m ys) : PutAt w' bp bc bn g m c n :=
  ⟨hu.far h.hp h.np, hu.far h.h1 h.nc, hu.far h.h2 h.nn, h.np, h.nc, h.nn⟩
theorem both_upd (i j n : Int) (bp bc bn g m c : Nat) (xs : List Int) (w0 w : World) (hP : PutAt w0 bp bc bn g m c n)
    (hi : 1 ≤ i) (hi2 : i ≤ n) (hj : 1 ≤ j) (hj2 : j ≤ n) (hn : n ≤ 4) (hm : (m : Int) = n * n) (hx : UpdI w0 w (some ⟨g, 0, none⟩) m xs) (hf : ∀ t, t < m → w0.frozen? ⟨g, t, none⟩ = false) :
    Calls Tryz.prog 219 #[.int .i64 i, .int .i64 j, .pointer (some ⟨bp, 0, none⟩)] w fun e w' => e = .returned (.tuple #[]) ∧ UpdI w0 w' (some ⟨g, 0, none⟩) m ((xs.set (((i - 1) * n + j).toNat - 1) (-1)).set (((j - 1) * n + i).toNat - 1) (-1)) := by
  obtain ⟨f0, f1, f2, _, _, _⟩ := hP.upd hx
  have h1 := hidP (put_upd i j (-1) n bc bn g m c xs w0 w f1 f2 hi hi2 hj hj2 hn hm hx hf)
  have h2 := hidP (fun w1 (hx1 : UpdI w0 w1 (some ⟨g, 0, none⟩) m (xs.set (((i - 1) * n + j).toNat - 1) (-1))) => put_upd j i (-1) n bc bn g m c _ w0 w1 (hP.upd hx1).h1 (hP.upd hx1).h2 hj hj2 hi hi2 hn hm hx1 hf)
  have H := hidP hP
  have kp := callFunc_put
  clear hP hx hf hm f1 f2
  go_enter Tryz.func219, Tryz.ntmps219
  go_wp2_with fail
  refine h1.out.mono ?_
  rintro e w1 ⟨rfl, hx1⟩
  obtain ⟨g0, _, _, _, _, _⟩ := H.out.upd hx1
  have h3 := hidP (h2.out w1 hx1)
  clear hx1 f0
  go_wp2_with fail
  refine h3.out.mono ?_
  rintro e w2 ⟨rfl, hx2⟩
  go_wp2
  go_end0
  exact ⟨rfl, hx2⟩
end Go.Proofs.YtnfbfdamlnjblaaGreatDoor
