/-
  The program's algebras by tables: residues, isZero, addTo, the type lie with pair and right.
-/
import Derived.Test.YtcfgcacmmmhjcaaGreatDoorApp
import Derived.Test.YtcfgcacmmmhjcaaGreatDoorAlg
namespace Go.Proofs.YtcfgcacmmmhjcaaGreatDoor
open Go.RowKit

def resB (p : Int) (xs : List Int) : Bool := !xs.any fun n => !insB n 0 (p - 1)
theorem resB_true {p : Int} {xs : List Int} : resB p xs = true ↔ Res p xs := by
  unfold resB Res
  rw [Bool.not_eq_true', Bool.eq_false_iff, ne_eq, any_of]
  constructor
  · intro h i hi
    have : insB (xs.getD i 0) 0 (p - 1) = true := by
      cases hb : insB (xs.getD i 0) 0 (p - 1)
      · exact absurd ⟨i, hi, by rw [hb]; rfl⟩ h
      · rfl
    rw [insB_true] at this
    omega
  · rintro h ⟨i, hi, hf⟩
    have := h i hi
    have h2 : insB (xs.getD i 0) 0 (p - 1) = true := insB_true.2 (by omega)
    rw [h2] at hf
    cases hf
def zeroB (xs : List Int) : Bool := !xs.any fun n => n != 0
theorem zeroB_true {xs : List Int} : zeroB xs = true ↔ ∀ i, i < xs.length → xs.getD i 0 = 0 := by
  unfold zeroB
  rw [Bool.not_eq_true', Bool.eq_false_iff, ne_eq, any_of]
  constructor
  · intro h i hi
    cases hb : (xs.getD i 0 != 0)
    · simpa using hb
    · exact absurd ⟨i, hi, hb⟩ h
  · rintro h ⟨i, hi, hf⟩
    rw [h i hi] at hf
    cases hf

theorem residues1_any (x p : Int) (b : Nat) (w : World) (hb : w.cell? ⟨b, 0, none⟩ = some (.int .i64 p)) (hp : -1000000 ≤ p) (hp2 : p ≤ 1000000000000) :
    Calls Tryz.prog 88 #[.int .i64 x, .pointer (some ⟨b, 0, none⟩)] w fun e w' => e = .returned (.bool (!insB x 0 (p - 1))) ∧ w = w' := by
  go_enter Tryz.func88, Tryz.ntmps88
  go_wp2_with (go_at_call 68; refine (inside_any _ _ _ _).mono ?_; rintro e w' ⟨rfl, rfl⟩)
  go_ret
  exact ⟨rfl, rfl⟩
theorem callFunc_residues1 (args : Array Value) (w : World) : Sem.run Tryz.prog (callFunc 88 args) w = .ok (.enter 88 args) w := by
  kernel_rfl

set_option maxHeartbeats 1000000 in
theorem residues_any (a : Option Addr) (n c : Nat) (xs : List Int) (p : Int) (w : World) (h : IntsAt w a n xs) (hn : n ≤ 1000000000000) (hp : -1000000 ≤ p) (hp2 : p ≤ 1000000000000) :
    Calls Tryz.prog 69 #[.slice a n c, .int .i64 p] w fun e w' => e = .returned (.bool (resB p xs)) ∧ Ext w w' := by
  have hb : (w.alloc (.cells #[.int .i64 p] 3)).cell? ⟨w.heap.size, 0, none⟩ = some (.int .i64 p) := (cell_top _ _ _ _ _ rfl).trans rfl
  have H := hidP (containsFunc_any 88 #[.pointer (some ⟨w.heap.size, 0, none⟩)] (fun x => !insB x 0 (p - 1)) a n c xs _ (h.below (Ext.alloc w (.cells #[.int .i64 p] 3))) hn callFunc_residues1 (fun x => residues1_any x p w.heap.size _ hb hp hp2))
  clear h hb
  go_enter Tryz.func69, Tryz.ntmps69
  go_wp2_with (go_at_call 87; refine H.out.mono ?_; rintro e w' ⟨rfl, rfl⟩)
  go_ret
  exact ⟨rfl, Ext.alloc _ _⟩
theorem isZero1_any (x : Int) (w : World) : Calls Tryz.prog 89 #[.int .i64 x] w fun e w' => e = .returned (.bool (x != 0)) ∧ w = w' := by
  go_enter Tryz.func89, Tryz.ntmps89
  go_wp2
  go_ret
  exact ⟨rfl, rfl⟩
theorem callFunc_isZero1 (args : Array Value) (w : World) : Sem.run Tryz.prog (callFunc 89 args) w = .ok (.enter 89 args) w := by
  kernel_rfl
theorem isZero_any (a : Option Addr) (n c : Nat) (xs : List Int) (w : World) (h : IntsAt w a n xs) (hn : n ≤ 1000000000000) :
    Calls Tryz.prog 73 #[.slice a n c] w fun e w' => e = .returned (.bool (zeroB xs)) ∧ w = w' := by
  have H := hidP (containsFunc_any 89 #[] (fun x => x != 0) a n c xs _ h hn callFunc_isZero1 (fun x => isZero1_any x _))
  clear h
  go_enter Tryz.func73, Tryz.ntmps73
  go_wp2_with (go_at_call 87; refine H.out.mono ?_; rintro e w' ⟨rfl, rfl⟩)
  go_ret
  exact ⟨rfl, rfl⟩

set_option maxHeartbeats 1000000 in
theorem addTo_any (a a' : Option Addr) (n c c' : Nat) (xs ys : List Int) (k p : Int) (w : World) (h : IntsAt w a n xs) (h' : IntsAt w a' n ys) (hf : ∀ i b o, i < n → a = some ⟨b, o, none⟩ → w.frozen? ⟨b, o + i, none⟩ = false)
    (hne : ∀ b o b' o', a = some ⟨b, o, none⟩ → a' = some ⟨b', o', none⟩ → b ≠ b') (hn : n ≤ 1000000000000)
    (hx : ∀ j, j < n → 0 ≤ xs.getD j 0 ∧ xs.getD j 0 ≤ 1000000) (hy : ∀ j, j < n → 0 ≤ ys.getD j 0 ∧ ys.getD j 0 ≤ 1000000) (hk0 : 0 ≤ k) (hk1 : k ≤ 1000000) (hp0 : 1 ≤ p) (hp1 : p ≤ 1000000) :
    Calls Tryz.prog 72 #[.slice a n c, .int .i64 k, .slice a' n c', .int .i64 p] w fun e w' => e = .returned (.tuple #[]) ∧ UpdI w w' a n (addL p xs k ys) := by
  have hst := UpdI.start h
  have HG := hidP h'
  have HR := hidP h
  have L := hidP h.len
  have LA := hidP (addL_length p xs k ys)
  have HF := hidP hf
  have HST := hidP hst
  have HNE := hidP hne
  have HX := hidP hx
  have HY := hidP hy
  clear h h' hf hst hne hx hy
  go_enter Tryz.func72, Tryz.ntmps72
  go_wp2
  go_loopw [12] (fun i wr => ∃ j : Nat, j ≤ n ∧ Hid (UpdI w wr a n (partly xs (addL p xs k ys) j)) ∧ i = .int .i64 j) (fun i _ => n - (intOf i).toNat)
  case atStart => exact ⟨0, Nat.zero_le _, by rw [partly_zero]; exact HST, rfl⟩
  case round =>
    obtain ⟨j, hj, HU, rfl⟩ := hrel
    by_cases hlt : j < n
    · obtain ⟨b, o, rfl, _⟩ := HR.out.get j hlt
      obtain ⟨b', o', rfl, q'⟩ := (HU.out.others HG.out HNE.out).get j hlt
      obtain ⟨q, hfz⟩ := HU.out.cellInt j hlt
      rw [partly_get _ _ j n hlt L.out (LA.out.trans L.out)] at q
      have hz : wr.frozen? ⟨b, o + j, none⟩ = false := hfz.trans (HF.out j b o hlt rfl)
      obtain ⟨x0, x1⟩ := HX.out j hlt
      obtain ⟨y0, y1⟩ := HY.out j hlt
      have hs := HU.out.store j hlt ((xs.getD j 0 + k * ys.getD j 0) % p)
      rw [← addL_get p xs k ys j (by have := L.out; omega), partly_succ xs _ n j hlt L.out (LA.out.trans L.out)] at hs
      have hg := addL_get p xs k ys j (by have := L.out; omega)
      generalize xs.getD j 0 = x at *
      generalize ys.getD j 0 = y at *
      have hm0 : 0 ≤ k * y := Int.mul_nonneg hk0 y0
      have hm1 : k * y ≤ 1000000000000 := by
        have := Int.mul_le_mul hk1 y1 y0 (by omega : (0 : Int) ≤ 1000000)
        omega
      have HS := hidP hs
      have HE := hidP hg
      clear hs hfz hg
      go_wp2
      go_roundw
      case rel =>
        refine ⟨j + 1, by omega, ?_, by go_num⟩
        have := HS.out
        rw [HE.out] at this
        exact this
      case measure => simp [intOf]; omega
    · have hu := HU.out
      obtain rfl : j = n := by omega
      rw [partly_all xs _ j L.out (LA.out.trans L.out)] at hu
      go_wp2
      go_end0
      exact ⟨rfl, hu⟩
end Go.Proofs.YtcfgcacmmmhjcaaGreatDoor
