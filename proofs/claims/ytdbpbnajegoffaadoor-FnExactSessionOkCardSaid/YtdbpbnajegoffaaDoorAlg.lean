/-
  Algebras as values: the law's own functions on them, and AbelianAlgebra of both packages.
-/
import Derived.Test.YtdbpbnajegoffaaDoorInS
import Derived.Test.YtdbpbnajegoffaaDoorInt
import Derived.Test.YtdbpbnajegoffaaDoorReg
namespace Go.Proofs.YtdbpbnajegoffaaDoor
open Go.RowKit

/-- an algebra's value -/
abbrev algV (p d : Int) (a : Option Addr) (n c : Nat) : Value := .agg #[.int .i64 p, .int .i64 d, .slice a n c]

/-- the three cells of an algebra in a variable of its own -/
structure AlgAt (w : World) (b : Nat) (p d : Int) (a : Option Addr) (n c : Nat) : Prop where
  c0 : w.cell? ⟨b, 0, none⟩ = some (.int .i64 p)
  c1 : w.cell? ⟨b, 1, none⟩ = some (.int .i64 d)
  c2 : w.cell? ⟨b, 2, none⟩ = some (.slice a n c)
theorem AlgAt.below {w w' : World} {b : Nat} {p d : Int} {a : Option Addr} {n c : Nat} (h : AlgAt w b p d a n c) (hb : Ext w w') : AlgAt w' b p d a n c :=
  have hl := World.block_lt_of_cell? w _ h.c0
  ⟨(hb.cell (p := ⟨b, 0, none⟩) hl).trans h.c0, (hb.cell (p := ⟨b, 1, none⟩) hl).trans h.c1, (hb.cell (p := ⟨b, 2, none⟩) hl).trans h.c2⟩
theorem AlgAt.upd {w w' : World} {b : Nat} {p d : Int} {a : Option Addr} {n c : Nat} {a' : Option Addr} {n' : Nat} {ys : List Int} (h : AlgAt w b p d a n c) (hu : UpdI w w' a' n' ys) (hne : ∀ b' o', a' = some ⟨b', o', none⟩ → b ≠ b') : AlgAt w' b p d a n c :=
  have hl := World.block_lt_of_cell? w _ h.c0
  have hh := hu.other b hl fun b' o' e _ => hne b' o' e
  ⟨(World.cell?_of_block (a := ⟨b, 0, none⟩) hh).trans h.c0, (World.cell?_of_block (a := ⟨b, 1, none⟩) hh).trans h.c1, (World.cell?_of_block (a := ⟨b, 2, none⟩) hh).trans h.c2⟩
theorem AlgAt.new (w : World) (b : Nat) (hb : b = w.heap.size) (p d : Int) (a : Option Addr) (n c : Nat) (E : TypeId) : AlgAt (w.alloc (.cells #[.int .i64 p, .int .i64 d, .slice a n c] E)) b p d a n c :=
  ⟨(cell_top _ _ _ _ _ hb).trans rfl, (cell_top _ _ _ _ _ hb).trans rfl, (cell_top _ _ _ _ _ hb).trans rfl⟩

theorem resAlg {w w1 : World} {p0 d0 : Int} {a0 : Option Addr} {n0 c0 : Nat} {E : TypeId} (hx : Ext (w.alloc (.cells #[.int .i64 p0, .int .i64 d0, .slice a0 n0 c0] E)) w1) :
    w1.cell? ⟨w.heap.size, 0, none⟩ = some (.int .i64 p0) ∧ w1.cell? ⟨w.heap.size, 1, none⟩ = some (.int .i64 d0) ∧ w1.cell? ⟨w.heap.size, 2, none⟩ = some (.slice a0 n0 c0) ∧
    w1.frozen? ⟨w.heap.size, 0, none⟩ = false ∧ w1.frozen? ⟨w.heap.size, 1, none⟩ = false ∧ w1.frozen? ⟨w.heap.size, 2, none⟩ = false ∧ w.heap.size < w1.heap.size ∧ Ext w w1 := by
  have h := (AlgAt.new w _ rfl p0 d0 a0 n0 c0 E).below hx
  have hs : w.heap.size < w1.heap.size := by have := hx.size; simp at this; omega
  have hf : ∀ j, w1.frozen? ⟨w.heap.size, j, none⟩ = false := fun j => by
    rw [hx.frozen (p := ⟨w.heap.size, j, none⟩) (by simp)]
    exact frozen_top _ _ _ _ _ rfl
  exact ⟨h.c0, h.c1, h.c2, hf 0, hf 1, hf 2, hs, (Ext.alloc w _).trans hx⟩

set_option maxHeartbeats 1000000 in
theorem eqAlgebra_any (p1 d1 p2 d2 : Int) (a1 a2 : Option Addr) (n1 n2 c1 c2 : Nat) (xs ys : List Int) (w : World) (h1 : IntsAt w a1 n1 xs) (h2 : IntsAt w a2 n2 ys) (hm1 : n1 ≤ 9223372036854775807) (hm2 : n2 ≤ 9223372036854775807) :
    Calls Tryd.prog 30 #[algV p1 d1 a1 n1 c1, algV p2 d2 a2 n2 c2] w fun e w' => e = .returned (.bool (decide (p1 = p2 ∧ d1 = d2 ∧ xs = ys))) ∧ Ext w w' := by
  by_cases hp : p1 = p2
  · have hp' : (p1 != p2) = false := by simp [hp]
    by_cases hd : d1 = d2
    · have hd' : (d1 != d2) = false := by simp [hd]
      have HR : Hid (decide (p1 = p2 ∧ d1 = d2 ∧ xs = ys) = (xs == ys)) := by
        show _ = _
        by_cases h : xs = ys <;> simp [hp, hd, h]
      have HQ := hidP (fun w' (hx : Ext w w') => eqIntS_any a1 a2 n1 n2 c1 c2 xs ys w' (h1.below hx) (h2.below hx) hm1 hm2)
      clear hp hd h1 h2
      cases hb : (xs == ys)
      all_goals
        rw [hb] at HR
        go_enter Tryd.func30, Tryd.ntmps30
        go_wp2_with (go_at_call 51; refine (HQ.out _ ((Ext.alloc w _).trans (Ext.alloc _ _))).mono ?_; rintro e w' ⟨rfl, m, rfl⟩)
        go_ret
        exact ⟨ret_bool HR.out.symm, ((Ext.alloc w _).trans (Ext.alloc _ _)).trans (Ext.drewN _ _)⟩
    · have hd' : (d1 != d2) = true := by simp [hd]
      have HR : Hid (decide (p1 = p2 ∧ d1 = d2 ∧ xs = ys) = false) := by
        show _ = _
        simp [hd]
      clear hp hd
      go_enter Tryd.func30, Tryd.ntmps30
      go_wp2
      go_ret
      exact ⟨ret_bool HR.out.symm, (Ext.alloc w _).trans (Ext.alloc _ _)⟩
  · have hp' : (p1 != p2) = true := by simp [hp]
    have HR : Hid (decide (p1 = p2 ∧ d1 = d2 ∧ xs = ys) = false) := by
      show _ = _
      simp [hp]
    clear hp
    go_enter Tryd.func30, Tryd.ntmps30
    go_wp2
    go_ret
    exact ⟨ret_bool HR.out.symm, (Ext.alloc w _).trans (Ext.alloc _ _)⟩
theorem markAlgebra_any (p d : Int) (B : Nat) (a : Option Addr) (n c : Nat) (k0 : Int) (xs : List Int) (w : World) (h : OwnI w B a n c xs)
    (hn : n ≤ 1000000000000) (hk0 : -1000000000000 ≤ k0) (hk1 : k0 ≤ 1000000000000) :
    Calls Tryd.prog 31 #[algV p d a n c, .int .i64 k0] w fun e w' => e = .returned (.int .i64 (k0 + n)) ∧ UpdI w w' a n (upFrom k0 n) := by
  have HQ := hidP (fun w' (hx : Ext w w') => markIntS_any a n c k0 xs w' (h.below hx).ints (h.below hx).unfrozen hn hk0 hk1)
  have H := hidP h
  clear h
  go_enter Tryd.func31, Tryd.ntmps31
  go_wp2_with (go_at_call 52; refine (HQ.out _ (Ext.alloc w _)).mono ?_; rintro e w' ⟨rfl, hu⟩)
  go_ret
  exact ⟨rfl, (Ext.alloc w _).upd H.out.ints hu⟩
theorem heldAlgebra_any (p d : Int) (a : Option Addr) (n c : Nat) (k0 : Int) (w : World) (h : IntsAt w a n (upFrom k0 n))
    (hn : n ≤ 1000000000000) (hk0 : 0 ≤ k0) (hk1 : k0 ≤ 1000000000000) :
    Calls Tryd.prog 32 #[algV p d a n c, .int .i64 k0] w fun e w' => e = .returned (.int .i64 (k0 + n)) ∧ Ext w w' := by
  have HQ := hidP (fun w' (hx : Ext w w') => heldIntS_any a n c k0 w' (h.below hx) hn (by omega) hk1)
  clear h
  have hk : ¬ (k0 + (n : Int) < 0) := by omega
  go_enter Tryd.func32, Tryd.ntmps32
  go_wp2_with (go_at_call 53; refine (HQ.out _ (Ext.alloc w _)).mono ?_; rintro e w' ⟨rfl, m, rfl⟩)
  go_ret
  exact ⟨rfl, (Ext.alloc w _).trans (Ext.drewN _ _)⟩

set_option maxHeartbeats 1000000 in
theorem abelian_ok (p n : Int) (w : World) (hp : primeB p = true) (h0 : 0 ≤ n) (h1 : n ≤ 28) :
    Calls Tryd.prog 29 #[.int .i64 p, .int .i64 n] w fun e w' => ∃ a, e = .returned (algV p n a (n * n * n).toNat (n * n * n).toNat) ∧ OwnI w' w.heap.size a (n * n * n).toNat (n * n * n).toNat (List.replicate (n * n * n).toNat 0) ∧ Ext w w' := by
  have hi : insB n 0 28 = true := insB_true.2 ⟨h0, h1⟩
  obtain ⟨k1, k2, k3, k4⟩ := cube_le h0 h1
  have hmk := make_ints (n * n * n) k3 (by omega)
  have HM := hidP (fun w' (hb : w.heap.size ≤ w'.heap.size) => OwnI.made w' w.heap.size (n * n * n).toNat hb (by unfold maxLen; omega))
  go_enter Tryd.func29, Tryd.ntmps29
  go_wp2_with (first | (go_at_call 59; refine (isPrime_any _ _).mono ?_; rintro e w' ⟨rfl, rfl⟩) | (go_at_call 60; refine (inside_any _ _ _ _).mono ?_; rintro e w' ⟨rfl, rfl⟩))
  refine bodyPost_ret (v := algV p n (some ⟨w.heap.size + 1, 0, none⟩) _ _) (by simp [results, Tryd.results29, go_sem]) rfl ⟨_, rfl, ?_, ?_⟩
  · have := HM.out (w.alloc (.cells #[.int .i64 p, .int .i64 n, .slice (some ⟨w.heap.size + 1, 0, none⟩) (n * n * n).toNat (n * n * n).toNat] 24)) (by simp)
    simpa using this
  · exact (Ext.alloc w _).trans (Ext.alloc _ _)

set_option maxHeartbeats 1000000 in
theorem abelian_bad (p n : Int) (w : World) (hb : primeB p = false ∨ insB n 0 28 = false) :
    Calls Tryd.prog 29 #[.int .i64 p, .int .i64 n] w fun e w' => e = .returned (algV 0 0 none 0 0) ∧ Ext w w' := by
  cases hp : primeB p
  · clear hb
    go_enter Tryd.func29, Tryd.ntmps29
    go_wp2_with (first | (go_at_call 59; refine (isPrime_any _ _).mono ?_; rintro e w' ⟨rfl, rfl⟩) | (go_at_call 60; refine (inside_any _ _ _ _).mono ?_; rintro e w' ⟨rfl, rfl⟩))
    refine bodyPost_ret (v := algV 0 0 none 0 0) (by simp [results, Tryd.results29, go_sem]) rfl ⟨rfl, ?_⟩
    exact (Ext.alloc w _)
  · have hi : insB n 0 28 = false := by rcases hb with h | h; (rw [h] at hp; cases hp); exact h
    clear hb
    go_enter Tryd.func29, Tryd.ntmps29
    go_wp2_with (first | (go_at_call 59; refine (isPrime_any _ _).mono ?_; rintro e w' ⟨rfl, rfl⟩) | (go_at_call 60; refine (inside_any _ _ _ _).mono ?_; rintro e w' ⟨rfl, rfl⟩))
    refine bodyPost_ret (v := algV 0 0 none 0 0) (by simp [results, Tryd.results29, go_sem]) rfl ⟨rfl, ?_⟩
    exact (Ext.alloc w _)
set_option maxHeartbeats 1000000 in
theorem sAbelian_ok (p n : Int) (w : World) (hp : primeB p = true) (h0 : 0 ≤ n) (h1 : n ≤ 28) :
    Calls Tryd.prog 26 #[.int .i64 p, .int .i64 n] w fun e w' => ∃ a, e = .returned (algV p n a (n * n * n).toNat (n * n * n).toNat) ∧ OwnI w' w.heap.size a (n * n * n).toNat (n * n * n).toNat (List.replicate (n * n * n).toNat 0) ∧ Ext w w' := by
  have hi : insB n 0 28 = true := insB_true.2 ⟨h0, h1⟩
  obtain ⟨k1, k2, k3, k4⟩ := cube_le h0 h1
  have hmk := make_ints (n * n * n) k3 (by omega)
  have HM := hidP (fun w' (hb : w.heap.size ≤ w'.heap.size) => OwnI.made w' w.heap.size (n * n * n).toNat hb (by unfold maxLen; omega))
  go_enter Tryd.func26, Tryd.ntmps26
  go_wp2_with (first | (go_at_call 54; refine (sIsPrime_any _ _).mono ?_; rintro e w' ⟨rfl, rfl⟩) | (go_at_call 55; refine (l1In_any _ _ _ _).mono ?_; rintro e w' ⟨rfl, rfl⟩))
  refine bodyPost_ret (v := algV p n (some ⟨w.heap.size + 1, 0, none⟩) _ _) (by simp [results, Tryd.results26, go_sem]) rfl ⟨_, rfl, ?_, ?_⟩
  · have := HM.out (w.alloc (.cells #[.int .i64 p, .int .i64 n, .slice (some ⟨w.heap.size + 1, 0, none⟩) (n * n * n).toNat (n * n * n).toNat] 24)) (by simp)
    simpa using this
  · exact (Ext.alloc w _).trans (Ext.alloc _ _)

set_option maxHeartbeats 1000000 in
theorem sAbelian_bad (p n : Int) (w : World) (hb : primeB p = false ∨ insB n 0 28 = false) :
    Calls Tryd.prog 26 #[.int .i64 p, .int .i64 n] w fun e w' => e = .returned (algV 0 0 none 0 0) ∧ Ext w w' := by
  cases hp : primeB p
  · clear hb
    go_enter Tryd.func26, Tryd.ntmps26
    go_wp2_with (first | (go_at_call 54; refine (sIsPrime_any _ _).mono ?_; rintro e w' ⟨rfl, rfl⟩) | (go_at_call 55; refine (l1In_any _ _ _ _).mono ?_; rintro e w' ⟨rfl, rfl⟩))
    refine bodyPost_ret (v := algV 0 0 none 0 0) (by simp [results, Tryd.results26, go_sem]) rfl ⟨rfl, ?_⟩
    exact (Ext.alloc w _)
  · have hi : insB n 0 28 = false := by rcases hb with h | h; (rw [h] at hp; cases hp); exact h
    clear hb
    go_enter Tryd.func26, Tryd.ntmps26
    go_wp2_with (first | (go_at_call 54; refine (sIsPrime_any _ _).mono ?_; rintro e w' ⟨rfl, rfl⟩) | (go_at_call 55; refine (l1In_any _ _ _ _).mono ?_; rintro e w' ⟨rfl, rfl⟩))
    refine bodyPost_ret (v := algV 0 0 none 0 0) (by simp [results, Tryd.results26, go_sem]) rfl ⟨rfl, ?_⟩
    exact (Ext.alloc w _)
end Go.Proofs.YtdbpbnajegoffaaDoor
