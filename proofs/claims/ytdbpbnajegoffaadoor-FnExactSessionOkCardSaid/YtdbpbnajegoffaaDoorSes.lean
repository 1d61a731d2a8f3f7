/-
  The law's own functions on Cartan matrices and on sessions: eqCartan, markCartan, heldCartan, eqSession, markSession, heldSession.
-/
import Derived.Test.YtdbpbnajegoffaaDoorAlg
import Derived.Test.YtdbpbnajegoffaaDoorCar
import Derived.Test.YtdbpbnajegoffaaDoorCv
import Derived.Test.YtdbpbnajegoffaaDoorOwn
namespace Go.Proofs.YtdbpbnajegoffaaDoor
open Go.RowKit

theorem resCar {w w1 : World} {r0 : Int} {a0 : Option Addr} {n0 c0 : Nat} {E : TypeId} (hx : Ext (w.alloc (.cells #[.int .i64 r0, .slice a0 n0 c0] E)) w1) :
    w1.cell? ⟨w.heap.size, 0, none⟩ = some (.int .i64 r0) ∧ w1.cell? ⟨w.heap.size, 1, none⟩ = some (.slice a0 n0 c0) ∧
    w1.frozen? ⟨w.heap.size, 0, none⟩ = false ∧ w1.frozen? ⟨w.heap.size, 1, none⟩ = false ∧ w.heap.size < w1.heap.size ∧ Ext w w1 := by
  have h := (CarAt.new w _ rfl r0 a0 n0 c0 E).below hx
  have hs : w.heap.size < w1.heap.size := by have := hx.size; simp at this; omega
  have hf : ∀ j, w1.frozen? ⟨w.heap.size, j, none⟩ = false := fun j => by
    rw [hx.frozen (p := ⟨w.heap.size, j, none⟩) (by simp)]
    exact frozen_top _ _ _ _ _ rfl
  exact ⟨h.c0, h.c1, hf 0, hf 1, hs, (Ext.alloc w _).trans hx⟩

set_option maxHeartbeats 1000000 in
theorem eqCartan_any (r1 r2 : Int) (a1 a2 : Option Addr) (n1 n2 c1 c2 : Nat) (xs ys : List Int) (w : World) (h1 : IntsAt w a1 n1 xs) (h2 : IntsAt w a2 n2 ys) (hm1 : n1 ≤ 9223372036854775807) (hm2 : n2 ≤ 9223372036854775807) :
    Calls Tryd.prog 22 #[carV r1 a1 n1 c1, carV r2 a2 n2 c2] w fun e w' => e = .returned (.bool (decide (r1 = r2 ∧ xs = ys))) ∧ Ext w w' := by
  by_cases hd : r1 = r2
  · have hd' : (r1 != r2) = false := by simp [hd]
    have HR : Hid (decide (r1 = r2 ∧ xs = ys) = (xs == ys)) := by
      show _ = _
      by_cases h : xs = ys <;> simp [hd, h]
    have HQ := hidP (fun w' (hx : Ext w w') => eqIntS_any a1 a2 n1 n2 c1 c2 xs ys w' (h1.below hx) (h2.below hx) hm1 hm2)
    clear hd h1 h2
    cases hb : (xs == ys)
    all_goals
      rw [hb] at HR
      go_enter Tryd.func22, Tryd.ntmps22
      go_wp2_with (go_at_call 51; refine (HQ.out _ ((Ext.alloc w _).trans (Ext.alloc _ _))).mono ?_; rintro e w' ⟨rfl, m, rfl⟩)
      go_ret
      exact ⟨ret_bool HR.out.symm, ((Ext.alloc w _).trans (Ext.alloc _ _)).trans (Ext.drewN _ _)⟩
  · have hd' : (r1 != r2) = true := by simp [hd]
    have HR : Hid (decide (r1 = r2 ∧ xs = ys) = false) := by
      show _ = _
      simp [hd]
    clear hd
    go_enter Tryd.func22, Tryd.ntmps22
    go_wp2
    go_ret
    exact ⟨ret_bool HR.out.symm, (Ext.alloc w _).trans (Ext.alloc _ _)⟩
theorem markCartan_any (r : Int) (B : Nat) (a : Option Addr) (n c : Nat) (k0 : Int) (xs : List Int) (w : World) (h : OwnI w B a n c xs)
    (hn : n ≤ 1000000000000) (hk0 : -1000000000000 ≤ k0) (hk1 : k0 ≤ 1000000000000) :
    Calls Tryd.prog 23 #[carV r a n c, .int .i64 k0] w fun e w' => e = .returned (.int .i64 (k0 + n)) ∧ UpdI w w' a n (upFrom k0 n) := by
  have HQ := hidP (fun w' (hx : Ext w w') => markIntS_any a n c k0 xs w' (h.below hx).ints (h.below hx).unfrozen hn hk0 hk1)
  have H := hidP h
  clear h
  go_enter Tryd.func23, Tryd.ntmps23
  go_wp2_with (go_at_call 52; refine (HQ.out _ (Ext.alloc w _)).mono ?_; rintro e w' ⟨rfl, hu⟩)
  go_ret
  exact ⟨rfl, (Ext.alloc w _).upd H.out.ints hu⟩
theorem heldCartan_any (r : Int) (a : Option Addr) (n c : Nat) (k0 : Int) (w : World) (h : IntsAt w a n (upFrom k0 n))
    (hn : n ≤ 1000000000000) (hk0 : 0 ≤ k0) (hk1 : k0 ≤ 1000000000000) :
    Calls Tryd.prog 33 #[carV r a n c, .int .i64 k0] w fun e w' => e = .returned (.int .i64 (k0 + n)) ∧ Ext w w' := by
  have HQ := hidP (fun w' (hx : Ext w w') => heldIntS_any a n c k0 w' (h.below hx) hn (by omega) hk1)
  clear h
  have hk : ¬ (k0 + (n : Int) < 0) := by omega
  go_enter Tryd.func33, Tryd.ntmps33
  go_wp2_with (go_at_call 53; refine (HQ.out _ (Ext.alloc w _)).mono ?_; rintro e w' ⟨rfl, m, rfl⟩)
  go_ret
  exact ⟨rfl, (Ext.alloc w _).trans (Ext.drewN _ _)⟩

/-- a session's value -/
abbrev sesV (p d : Int) (a : Option Addr) (n c : Nat) (r : Int) (a' : Option Addr) (n' c' : Nat) : Value := .agg #[.int .i64 p, .int .i64 d, .slice a n c, .int .i64 r, .slice a' n' c']
/-- the five cells of a session in a variable of its own -/
structure SesAt (w : World) (b : Nat) (p d : Int) (a : Option Addr) (n c : Nat) (r : Int) (a' : Option Addr) (n' c' : Nat) : Prop where
  c0 : w.cell? ⟨b, 0, none⟩ = some (.int .i64 p)
  c1 : w.cell? ⟨b, 1, none⟩ = some (.int .i64 d)
  c2 : w.cell? ⟨b, 2, none⟩ = some (.slice a n c)
  c3 : w.cell? ⟨b, 3, none⟩ = some (.int .i64 r)
  c4 : w.cell? ⟨b, 4, none⟩ = some (.slice a' n' c')
theorem SesAt.below {w w' : World} {b : Nat} {p d : Int} {a : Option Addr} {n c : Nat} {r : Int} {a' : Option Addr} {n' c' : Nat} (h : SesAt w b p d a n c r a' n' c') (hb : Ext w w') : SesAt w' b p d a n c r a' n' c' :=
  have hl := World.block_lt_of_cell? w _ h.c0
  ⟨(hb.cell (p := ⟨b, 0, none⟩) hl).trans h.c0, (hb.cell (p := ⟨b, 1, none⟩) hl).trans h.c1, (hb.cell (p := ⟨b, 2, none⟩) hl).trans h.c2, (hb.cell (p := ⟨b, 3, none⟩) hl).trans h.c3, (hb.cell (p := ⟨b, 4, none⟩) hl).trans h.c4⟩
theorem SesAt.upd {w w' : World} {b : Nat} {p d : Int} {a : Option Addr} {n c : Nat} {r : Int} {a1 : Option Addr} {n1 c1 : Nat} {a' : Option Addr} {n' : Nat} {ys : List Int} (h : SesAt w b p d a n c r a1 n1 c1) (hu : UpdI w w' a' n' ys) (hne : ∀ b' o', a' = some ⟨b', o', none⟩ → b ≠ b') : SesAt w' b p d a n c r a1 n1 c1 :=
  have hl := World.block_lt_of_cell? w _ h.c0
  have hh := hu.other b hl fun b' o' e _ => hne b' o' e
  ⟨(World.cell?_of_block (a := ⟨b, 0, none⟩) hh).trans h.c0, (World.cell?_of_block (a := ⟨b, 1, none⟩) hh).trans h.c1, (World.cell?_of_block (a := ⟨b, 2, none⟩) hh).trans h.c2, (World.cell?_of_block (a := ⟨b, 3, none⟩) hh).trans h.c3, (World.cell?_of_block (a := ⟨b, 4, none⟩) hh).trans h.c4⟩
theorem SesAt.new (w : World) (b : Nat) (hb : b = w.heap.size) (p d : Int) (a : Option Addr) (n c : Nat) (r : Int) (a' : Option Addr) (n' c' : Nat) (E : TypeId) : SesAt (w.alloc (.cells #[.int .i64 p, .int .i64 d, .slice a n c, .int .i64 r, .slice a' n' c'] E)) b p d a n c r a' n' c' :=
  ⟨(cell_top _ _ _ _ _ hb).trans rfl, (cell_top _ _ _ _ _ hb).trans rfl, (cell_top _ _ _ _ _ hb).trans rfl, (cell_top _ _ _ _ _ hb).trans rfl, (cell_top _ _ _ _ _ hb).trans rfl⟩

theorem resSes {w w1 : World} {p d : Int} {a : Option Addr} {n c : Nat} {r : Int} {a' : Option Addr} {n' c' : Nat} {E : TypeId} (hx : Ext (w.alloc (.cells #[.int .i64 p, .int .i64 d, .slice a n c, .int .i64 r, .slice a' n' c'] E)) w1) :
    SesAt w1 w.heap.size p d a n c r a' n' c' ∧ (∀ j, w1.frozen? ⟨w.heap.size, j, none⟩ = false) ∧ w.heap.size < w1.heap.size ∧ Ext w w1 := by
  have h := (SesAt.new w _ rfl p d a n c r a' n' c' E).below hx
  have hs : w.heap.size < w1.heap.size := by have := hx.size; simp at this; omega
  have hf : ∀ j, w1.frozen? ⟨w.heap.size, j, none⟩ = false := fun j => by
    rw [hx.frozen (p := ⟨w.heap.size, j, none⟩) (by simp)]
    exact frozen_top _ _ _ _ _ rfl
  exact ⟨h, hf, hs, (Ext.alloc w _).trans hx⟩
theorem OwnI.set2 {w : World} {B n c : Nat} {a : Option Addr} {xs : List Int} (h : OwnI w B a n c xs) (b i : Nat) (v : Value) (hne : ∀ g o, a = some ⟨g, o, none⟩ → g ≠ b) : OwnI (w.setCell ⟨b, i, none⟩ v) B a n c xs :=
  h.grown (row := some b) ⟨rfl, rfl, rfl, by simp [World.setCell], fun k _ hk => Below.heap_setCell _ _ _ _ (fun e => hk (by rw [e]))⟩ (fun g' o e => by simpa using hne g' o e)
/-- five cells of one block are written: what lies elsewhere stays -/
def set5 (w : World) (b : Nat) (v0 v1 v2 v3 v4 : Value) : World := ((((w.setCell ⟨b, 0, none⟩ v0).setCell ⟨b, 1, none⟩ v1).setCell ⟨b, 2, none⟩ v2).setCell ⟨b, 3, none⟩ v3).setCell ⟨b, 4, none⟩ v4
theorem OwnI.set5 {w : World} {B n c : Nat} {a : Option Addr} {xs : List Int} (h : OwnI w B a n c xs) (b : Nat) (v0 v1 v2 v3 v4 : Value) (hne : ∀ g o, a = some ⟨g, o, none⟩ → g ≠ b) : OwnI (set5 w b v0 v1 v2 v3 v4) B a n c xs :=
  ((((h.set2 b 0 v0 hne).set2 b 1 v1 hne).set2 b 2 v2 hne).set2 b 3 v3 hne).set2 b 4 v4 hne
theorem Ext.set5 {w0 w : World} (h : Ext w0 w) (b : Nat) (hb : w0.heap.size ≤ b) (v0 v1 v2 v3 v4 : Value) : Ext w0 (set5 w b v0 v1 v2 v3 v4) :=
  ((((h.setNew b 0 hb v0).setNew b 1 hb v1).setNew b 2 hb v2).setNew b 3 hb v3).setNew b 4 hb v4

set_option maxHeartbeats 1000000 in
theorem eqSession_any (p1 d1 p2 d2 : Int) (a1 a2 : Option Addr) (n1 n2 c1 c2 : Nat) (xs ys : List Int) (r1 r2 : Int) (e1 e2 : Option Addr) (k1 k2 l1 l2 : Nat) (us vs : List Int) (w : World)
    (h1 : IntsAt w a1 n1 xs) (h2 : IntsAt w a2 n2 ys) (hm1 : n1 ≤ 9223372036854775807) (hm2 : n2 ≤ 9223372036854775807)
    (g1 : IntsAt w e1 k1 us) (g2 : IntsAt w e2 k2 vs) (gm1 : k1 ≤ 9223372036854775807) (gm2 : k2 ≤ 9223372036854775807) :
    Calls Tryd.prog 8 #[sesV p1 d1 a1 n1 c1 r1 e1 k1 l1, sesV p2 d2 a2 n2 c2 r2 e2 k2 l2] w fun e w' => e = .returned (.bool (decide (p1 = p2 ∧ d1 = d2 ∧ xs = ys) && decide (r1 = r2 ∧ us = vs))) ∧ Ext w w' := by
  have HA := hidP (fun w' (hx : Ext w w') => eqAlgebra_any p1 d1 p2 d2 a1 a2 n1 n2 c1 c2 xs ys w' (h1.below hx) (h2.below hx) hm1 hm2)
  have HC := hidP (fun w' (hx : Ext w w') => eqCartan_any r1 r2 e1 e2 k1 k2 l1 l2 us vs w' (g1.below hx) (g2.below hx) gm1 gm2)
  have HE := hidP ((Ext.alloc w (.cells #[.int .i64 p1, .int .i64 d1, .slice a1 n1 c1, .int .i64 r1, .slice e1 k1 l1] 28)).trans (Ext.alloc _ (.cells #[.int .i64 p2, .int .i64 d2, .slice a2 n2 c2, .int .i64 r2, .slice e2 k2 l2] 28)))
  obtain ⟨s0, s1, s2, s3, s4⟩ := (SesAt.new w _ rfl p1 d1 a1 n1 c1 r1 e1 k1 l1 28).below (Ext.alloc _ (.cells #[.int .i64 p2, .int .i64 d2, .slice a2 n2 c2, .int .i64 r2, .slice e2 k2 l2] 28))
  obtain ⟨t0, t1, t2, t3, t4⟩ := SesAt.new (w.alloc (.cells #[.int .i64 p1, .int .i64 d1, .slice a1 n1 c1, .int .i64 r1, .slice e1 k1 l1] 28)) (w.heap.size + 1) (by simp) p2 d2 a2 n2 c2 r2 e2 k2 l2 28
  have HS := hidP (SesAt.mk s0 s1 s2 s3 s4)
  have HT := hidP (SesAt.mk t0 t1 t2 t3 t4)
  clear s0 s1 s2 s3 s4 t0 t1 t2 t3 t4
  clear h1 h2 g1 g2
  generalize decide (p1 = p2 ∧ d1 = d2 ∧ xs = ys) = A at HA ⊢
  generalize decide (r1 = r2 ∧ us = vs) = C at HC ⊢
  go_enter Tryd.func8, Tryd.ntmps8
  cases A
  · go_wp2_with (go_at_call 30; refine (HA.out _ HE.out).mono ?_; rintro e w' ⟨rfl, hx⟩; have hx := hidP hx)
    go_ret
    exact ⟨rfl, HE.out.trans hx.out⟩
  · go_wp2_with fail
    refine (HA.out _ HE.out).mono ?_
    rintro e w' ⟨rfl, hx⟩
    obtain ⟨s0, s1, s2, s3, s4⟩ := HS.out.below hx
    obtain ⟨t0, t1, t2, t3, t4⟩ := HT.out.below hx
    have HX := hidP (HE.out.trans hx)
    clear hx
    go_wp2_with fail
    refine (HC.out _ HX.out).mono ?_
    rintro e w'' ⟨rfl, hx⟩
    have HX2 := hidP (HX.out.trans hx)
    clear hx
    cases C
    · go_wp2
      go_ret
      exact ⟨rfl, HX2.out⟩
    · go_wp2
      go_ret
      exact ⟨rfl, HX2.out⟩
set_option maxHeartbeats 1000000 in
theorem markSession_any (p d r : Int) (B B' : Nat) (a a' : Option Addr) (n c n' c' : Nat) (k0 : Int) (xs ys : List Int) (w : World) (h : OwnI w B a n c xs) (h' : OwnI w B' a' n' c' ys)
    (hap : Apart a a') (hn : n ≤ 1000000) (hn' : n' ≤ 1000000) (hk0 : 0 ≤ k0) (hk1 : k0 ≤ 1000000) :
    Calls Tryd.prog 9 #[sesV p d a n c r a' n' c', .int .i64 k0] w fun e w' => e = .returned (.int .i64 (k0 + n + n')) ∧ ∃ w1, UpdI w w1 a n (upFrom k0 n) ∧ UpdI w1 w' a' n' (upFrom (k0 + n) n') := by
  have HA := hidP (fun w' (hx : Ext w w') => markAlgebra_any p d B a n c k0 xs w' (h.below hx) (by omega) (by omega) (by omega))
  have HC := hidP (fun w' (hx : OwnI w' B' a' n' c' ys) => markCartan_any r B' a' n' c' (k0 + n) ys w' hx (by omega) (by omega) (by omega))
  have HS := hidP (SesAt.new w _ rfl p d a n c r a' n' c' 28)
  have HE := hidP (Ext.alloc w (.cells #[.int .i64 p, .int .i64 d, .slice a n c, .int .i64 r, .slice a' n' c'] 28))
  have HO := hidP h
  have HO' := hidP h'
  have HP := hidP hap
  clear h h' hap
  go_enter Tryd.func9, Tryd.ntmps9
  go_wp2_with fail
  refine (HA.out _ HE.out).mono ?_
  rintro e w1 ⟨rfl, hu⟩
  obtain ⟨s0, s1, s2, s3, s4⟩ := HS.out.upd hu (fun b o e => by
    have := (HO.out.at_base b o e).2
    omega)
  have HU := hidP (HE.out.upd HO.out.ints hu)
  have HO1 := hidP (HO'.out.others HU.out HP.out)
  clear hu
  go_wp2_with fail
  refine (HC.out _ HO1.out).mono ?_
  rintro e w2 ⟨rfl, hu⟩
  have HU2 := hidP hu
  clear hu s0 s1 s2 s3 s4
  go_wp2
  go_ret
  exact ⟨rfl, w1, HU.out, HU2.out⟩
set_option maxHeartbeats 1000000 in
theorem heldSession_any (p d r : Int) (a a' : Option Addr) (n c n' c' : Nat) (k0 : Int) (w : World) (h : IntsAt w a n (upFrom k0 n)) (h' : IntsAt w a' n' (upFrom (k0 + n) n'))
    (hn : n ≤ 1000000) (hn' : n' ≤ 1000000) (hk0 : 0 ≤ k0) (hk1 : k0 ≤ 1000000) :
    Calls Tryd.prog 10 #[sesV p d a n c r a' n' c', .int .i64 k0] w fun e w' => e = .returned (.int .i64 (k0 + n + n')) ∧ Ext w w' := by
  have HA := hidP (fun w' (hx : Ext w w') => heldAlgebra_any p d a n c k0 w' (h.below hx) (by omega) (by omega) (by omega))
  have HC := hidP (fun w' (hx : Ext w w') => heldCartan_any r a' n' c' (k0 + n) w' (h'.below hx) (by omega) (by omega) (by omega))
  have HS := hidP (SesAt.new w _ rfl p d a n c r a' n' c' 28)
  have HE := hidP (Ext.alloc w (.cells #[.int .i64 p, .int .i64 d, .slice a n c, .int .i64 r, .slice a' n' c'] 28))
  clear h h'
  have hk2 : ¬ (k0 + (n : Int) < 0) := by omega
  have hk3 : ¬ (k0 + (n : Int) + (n' : Int) < 0) := by omega
  go_enter Tryd.func10, Tryd.ntmps10
  go_wp2_with fail
  refine (HA.out _ HE.out).mono ?_
  rintro e w1 ⟨rfl, hx⟩
  obtain ⟨s0, s1, s2, s3, s4⟩ := HS.out.below hx
  have HX := hidP (HE.out.trans hx)
  clear hx
  go_wp2_with fail
  refine (HC.out _ HX.out).mono ?_
  rintro e w2 ⟨rfl, hx⟩
  have HX2 := hidP (HX.out.trans hx)
  clear hx s0 s1 s2 s3 s4
  go_wp2
  go_ret
  exact ⟨rfl, HX2.out⟩
end Go.Proofs.YtdbpbnajegoffaaDoor