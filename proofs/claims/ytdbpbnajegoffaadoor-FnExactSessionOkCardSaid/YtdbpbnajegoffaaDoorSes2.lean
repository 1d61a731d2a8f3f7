/-
  The law's own copies of sessions.
-/
import Derived.Test.YtdbpbnajegoffaaDoorSzC
import Derived.Test.YtdbpbnajegoffaaDoorSes
namespace Go.Proofs.YtdbpbnajegoffaaDoor
open Go.RowKit

theorem szAlgebra_any (p d : Int) (a : Option Addr) (n c : Nat) (left : Int) (w : World) (hn : n ≤ 9223372036854775807) (h0 : 0 ≤ left) (h1 : left ≤ 1048576) :
    Calls Tryd.prog 34 #[algV p d a n c, .int .i64 left] w fun e w' => e = .returned (.int .i64 (szLeft n left)) ∧ Ext w w' := by
  have HQ := hidP (fun w' => szIntS_any a n c left w' hn h0 h1)
  by_cases hle : (n : Int) ≤ left
  · have HE : Hid (szLeft n left = left - n) := if_pos hle
    rw [HE.out] at HQ ⊢
    go_enter Tryd.func34, Tryd.ntmps34
    go_wp2_with (go_at_call 40; refine (HQ.out _).mono ?_; rintro e w' ⟨rfl, rfl⟩)
    go_ret
    exact ⟨rfl, Ext.alloc _ _⟩
  · have HE : Hid (szLeft n left = -1) := if_neg hle
    rw [HE.out] at HQ ⊢
    go_enter Tryd.func34, Tryd.ntmps34
    go_wp2_with (go_at_call 40; refine (HQ.out _).mono ?_; rintro e w' ⟨rfl, rfl⟩)
    go_ret
    exact ⟨rfl, Ext.alloc _ _⟩
set_option maxHeartbeats 1000000 in
theorem toAlgebra_any (p d : Int) (a : Option Addr) (n c : Nat) (xs : List Int) (w : World) (h : IntsAt w a n xs) (hn : n ≤ 1048576) :
    Calls Tryd.prog 37 #[algV p d a n c] w fun e w' => ∃ a', e = .returned (algV p d a' n n) ∧ OwnI w' w.heap.size a' n n xs ∧ Ext w w' := by
  have HQ := hidP (fun w' (hx : Ext w w') => toIntS_any a n c xs w' (h.below hx) hn)
  clear h
  go_enter Tryd.func37, Tryd.ntmps37
  go_wp2_with fail
  have hx0 : Ext w (((w.alloc (.cells #[.int .i64 p, .int .i64 d, .slice a n c] 33)).alloc (.cells #[.int .i64 0, .int .i64 0, .slice none 0 0] 24)).alloc (.cells #[.int .i64 p, .int .i64 d, .slice none 0 0] 24)) :=
    ((Ext.alloc w _).trans (Ext.alloc _ _)).trans (Ext.alloc _ _)
  have hc0 := fun w1 hx j => new_cell (w' := w1) (w := ((w.alloc (.cells #[.int .i64 p, .int .i64 d, .slice a n c] 33)).alloc (.cells #[.int .i64 0, .int .i64 0, .slice none 0 0] 24))) (cs := #[.int .i64 p, .int .i64 d, .slice none 0 0]) (E := 24) (b := w.heap.size + 1 + 1) (by simp) hx j
  have hc1 := fun w1 hx j => new_cell (w' := w1) (w := w.alloc (.cells #[.int .i64 p, .int .i64 d, .slice a n c] 33)) (cs := #[.int .i64 0, .int .i64 0, .slice none 0 0]) (E := 24) (b := w.heap.size + 1) (by simp) ((Ext.alloc _ (.cells #[.int .i64 p, .int .i64 d, .slice none 0 0] 24)).trans hx) j
  have hs0 : w.heap.size + 2 < (((w.alloc (.cells #[.int .i64 p, .int .i64 d, .slice a n c] 33)).alloc (.cells #[.int .i64 0, .int .i64 0, .slice none 0 0] 24)).alloc (.cells #[.int .i64 p, .int .i64 d, .slice none 0 0] 24)).heap.size := by simp
  have hq := HQ.out _ hx0
  obtain ⟨W, hW⟩ : ∃ W, W = (((w.alloc (.cells #[.int .i64 p, .int .i64 d, .slice a n c] 33)).alloc (.cells #[.int .i64 0, .int .i64 0, .slice none 0 0] 24)).alloc (.cells #[.int .i64 p, .int .i64 d, .slice none 0 0] 24)) := ⟨_, rfl⟩
  rw [← hW] at hx0 hc0 hc1 hs0 hq ⊢
  clear hW HQ
  have HQ := hidP hq
  have HX := hidP hx0
  clear hq hx0
  refine HQ.out.mono ?_
  rintro e w1 ⟨a', rfl, ho, hx⟩
  have HO := hidP ho
  obtain ⟨q0, _⟩ := hc0 w1 hx 0
  obtain ⟨q1, _⟩ := hc0 w1 hx 1
  obtain ⟨q2, z2⟩ := hc0 w1 hx 2
  obtain ⟨r0, y0⟩ := hc1 w1 hx 0
  obtain ⟨r1, y1⟩ := hc1 w1 hx 1
  obtain ⟨r2, y2⟩ := hc1 w1 hx 2
  have q0 := q0.trans (show _ = some (Value.int .i64 p) from rfl)
  have q1 := q1.trans (show _ = some (Value.int .i64 d) from rfl)
  have q2 := q2.trans (show _ = some (Value.slice none 0 0) from rfl)
  have r0 := r0.trans (show _ = some (Value.int .i64 0) from rfl)
  have r1 := r1.trans (show _ = some (Value.int .i64 0) from rfl)
  have r2 := r2.trans (show _ = some (Value.slice none 0 0) from rfl)
  have HX1 := hidP (HX.out.trans hx)
  have hsz : w.heap.size + 2 < W.heap.size := hs0
  clear hc0 hc1 ho hx hs0
  go_wp2
  refine bodyPost_ret (v := algV p d a' n n) (by simp [results, Tryd.results37, go_sem, r0, r1, r2]) rfl ⟨_, rfl, ?_, ?_⟩
  · refine OwnI.base (B := W.heap.size) ?_ (by omega)
    refine OwnI.setBelow (OwnI.setBelow (OwnI.setBelow (OwnI.setBelow HO.out _ _ ?_ _) _ _ ?_ _) _ _ ?_ _) _ _ ?_ _ <;> omega
  · refine Ext.setNew (Ext.setNew (Ext.setNew (Ext.setNew HX1.out _ _ ?_ _) _ _ ?_ _) _ _ ?_ _) _ _ ?_ _ <;> omega

theorem szSession_any (p d : Int) (a : Option Addr) (n c : Nat) (r : Int) (a' : Option Addr) (n' c' : Nat) (left : Int) (w : World) (hn : n ≤ 9223372036854775807) (hn' : n' ≤ 9223372036854775807) (h0 : 0 ≤ left) (h1 : left ≤ 1048576) :
    Calls Tryd.prog 11 #[sesV p d a n c r a' n' c', .int .i64 left] w fun e w' => e = .returned (.int .i64 (if (n : Int) ≤ left then szLeft n' (left - n) else -1)) ∧ Ext w w' := by
  have HA := hidP (fun w' => szAlgebra_any p d a n c left w' hn h0 h1)
  have HS := hidP (SesAt.new w _ rfl p d a n c r a' n' c' 36)
  have HE := hidP (Ext.alloc w (.cells #[.int .i64 p, .int .i64 d, .slice a n c, .int .i64 r, .slice a' n' c'] 36))
  by_cases hle : (n : Int) ≤ left
  · have HZ : Hid (szLeft n left = left - n) := if_pos hle
    rw [HZ.out] at HA
    rw [if_pos hle]
    have HC := hidP (fun w' => szCartan_any r a' n' c' (left - n) w' hn' (by omega) (by omega))
    have hx : ¬ (left - (n : Int) < 0) := by omega
    clear hle
    by_cases hl2 : (n' : Int) ≤ left - n
    · have HZ2 : Hid (szLeft n' (left - n) = left - n - n') := if_pos hl2
      rw [HZ2.out] at HC ⊢
      have hx2 : ¬ (left - (n : Int) - n' < 0) := by omega
      clear hl2
      go_enter Tryd.func11, Tryd.ntmps11
      go_wp2_with fail
      refine (HA.out _).mono ?_
      rintro e w1 ⟨rfl, hx1⟩
      obtain ⟨s0, s1, s2, s3, s4⟩ := HS.out.below hx1
      have HX := hidP (HE.out.trans hx1)
      clear hx1
      go_wp2_with fail
      refine (HC.out _).mono ?_
      rintro e w2 ⟨rfl, hx2⟩
      have HX2 := hidP (HX.out.trans hx2)
      clear hx2
      go_wp2
      go_ret
      exact ⟨rfl, HX2.out⟩
    · have HZ2 : Hid (szLeft n' (left - n) = -1) := if_neg hl2
      rw [HZ2.out] at HC ⊢
      clear hl2
      go_enter Tryd.func11, Tryd.ntmps11
      go_wp2_with fail
      refine (HA.out _).mono ?_
      rintro e w1 ⟨rfl, hx1⟩
      obtain ⟨s0, s1, s2, s3, s4⟩ := HS.out.below hx1
      have HX := hidP (HE.out.trans hx1)
      clear hx1
      go_wp2_with fail
      refine (HC.out _).mono ?_
      rintro e w2 ⟨rfl, hx2⟩
      have HX2 := hidP (HX.out.trans hx2)
      clear hx2
      go_wp2
      go_ret
      exact ⟨rfl, HX2.out⟩
  · have HZ : Hid (szLeft n left = -1) := if_neg hle
    rw [HZ.out] at HA
    rw [if_neg hle]
    clear hle
    go_enter Tryd.func11, Tryd.ntmps11
    go_wp2_with fail
    refine (HA.out _).mono ?_
    rintro e w1 ⟨rfl, hx1⟩
    have HX := hidP (HE.out.trans hx1)
    clear hx1
    go_wp2
    go_ret
    exact ⟨rfl, HX.out⟩
/-- a cell is written: that cell, and the others of the block -/
theorem cell_set {w : World} {b j : Nat} {x v : Value} (h : w.cell? ⟨b, j, none⟩ = some x) : (w.setCell ⟨b, j, none⟩ v).cell? ⟨b, j, none⟩ = some v := World.cell?_setCell_same _ _ _ h
theorem cell_ne {w : World} {b j b' j' : Nat} {x v : Value} (h : w.cell? ⟨b', j', none⟩ = some x) (hne : b ≠ b' ∨ j ≠ j') : (w.setCell ⟨b, j, none⟩ v).cell? ⟨b', j', none⟩ = some x := by
  rw [World.cell?_setCell_other]
  · exact h
  · intro e
    simp only [Addr.mk.injEq, and_true] at e
    omega
def set3 (w : World) (b : Nat) (v0 v1 v2 : Value) : World := ((w.setCell ⟨b, 0, none⟩ v0).setCell ⟨b, 1, none⟩ v1).setCell ⟨b, 2, none⟩ v2
theorem set3_at {w : World} {b p d : Nat} {v0 v1 v2 x0 x1 x2 x3 x4 : Value} (h0 : w.cell? ⟨b, 0, none⟩ = some x0) (h1 : w.cell? ⟨b, 1, none⟩ = some x1) (h2 : w.cell? ⟨b, 2, none⟩ = some x2) (h3 : w.cell? ⟨b, 3, none⟩ = some x3) (h4 : w.cell? ⟨b, 4, none⟩ = some x4) :
    (set3 w b v0 v1 v2).cell? ⟨b, 0, none⟩ = some v0 ∧ (set3 w b v0 v1 v2).cell? ⟨b, 1, none⟩ = some v1 ∧ (set3 w b v0 v1 v2).cell? ⟨b, 2, none⟩ = some v2 ∧ (set3 w b v0 v1 v2).cell? ⟨b, 3, none⟩ = some x3 ∧ (set3 w b v0 v1 v2).cell? ⟨b, 4, none⟩ = some x4 :=
  ⟨cell_ne (cell_ne (cell_set h0) (.inr (by decide))) (.inr (by decide)), cell_ne (cell_set (cell_ne h1 (.inr (by decide)))) (.inr (by decide)), cell_set (cell_ne (cell_ne h2 (.inr (by decide))) (.inr (by decide))),
   cell_ne (cell_ne (cell_ne h3 (.inr (by decide))) (.inr (by decide))) (.inr (by decide)), cell_ne (cell_ne (cell_ne h4 (.inr (by decide))) (.inr (by decide))) (.inr (by decide))⟩
theorem set3_ne {w : World} {b b' j : Nat} {v0 v1 v2 x : Value} (h : w.cell? ⟨b', j, none⟩ = some x) (hne : b ≠ b') : (set3 w b v0 v1 v2).cell? ⟨b', j, none⟩ = some x :=
  cell_ne (cell_ne (cell_ne h (.inl hne)) (.inl hne)) (.inl hne)
theorem set3_frozen {w : World} {b b' j : Nat} {v0 v1 v2 : Value} : (set3 w b v0 v1 v2).frozen? ⟨b', j, none⟩ = w.frozen? ⟨b', j, none⟩ := by simp [set3]
theorem OwnI.set3 {w : World} {B n c : Nat} {a : Option Addr} {xs : List Int} (h : OwnI w B a n c xs) (b : Nat) (v0 v1 v2 : Value) (hne : ∀ g o, a = some ⟨g, o, none⟩ → g ≠ b) : OwnI (set3 w b v0 v1 v2) B a n c xs :=
  ((h.set2 b 0 v0 hne).set2 b 1 v1 hne).set2 b 2 v2 hne
theorem Ext.set3 {w0 w : World} (h : Ext w0 w) (b : Nat) (hb : w0.heap.size ≤ b) (v0 v1 v2 : Value) : Ext w0 (set3 w b v0 v1 v2) :=
  ((h.setNew b 0 hb v0).setNew b 1 hb v1).setNew b 2 hb v2
set_option maxHeartbeats 2000000 in
theorem toSession_any (p d r : Int) (a : Option Addr) (n c : Nat) (xs : List Int) (a' : Option Addr) (n' c' : Nat) (ys : List Int) (w : World) (h : IntsAt w a n xs) (h' : IntsAt w a' n' ys) (hn : n ≤ 1048576) (hn' : n' ≤ 1048576) :
    Calls Tryd.prog 13 #[sesV p d a n c r a' n' c'] w fun e w' => ∃ e1 e2, e = .returned (sesV p d e1 n n r e2 n' n') ∧ OwnI w' w.heap.size e1 n n xs ∧ OwnI w' w.heap.size e2 n' n' ys ∧ Apart e1 e2 ∧ Ext w w' := by
  have HA := hidP (fun w' (hx : Ext w w') => toAlgebra_any p d a n c xs w' (h.below hx) hn)
  have HC := hidP (fun w' (hx : Ext w w') => toCartan_any r a' n' c' ys w' (h'.below hx) hn')
  clear h h'
  -- the three variables
  have hxa := Ext.alloc w (.cells #[.int .i64 p, .int .i64 d, .slice a n c, .int .i64 r, .slice a' n' c'] 36)
  have HS := hidP (SesAt.new w _ rfl p d a n c r a' n' c' 36)
  obtain ⟨wa, hwa⟩ : ∃ wa, wa = w.alloc (.cells #[.int .i64 p, .int .i64 d, .slice a n c, .int .i64 r, .slice a' n' c'] 36) := ⟨_, rfl⟩
  rw [← hwa] at hxa HS
  have hsa : wa.heap.size = w.heap.size + 1 := by rw [hwa]; simp
  have hxb := Ext.alloc wa (.cells #[.int .i64 0, .int .i64 0, .slice none 0 0, .int .i64 0, .slice none 0 0] 28)
  have hxc := Ext.alloc (wa.alloc (.cells #[.int .i64 0, .int .i64 0, .slice none 0 0, .int .i64 0, .slice none 0 0] 28)) (.cells #[.int .i64 0, .int .i64 0, .slice none 0 0, .int .i64 0, .slice none 0 0] 28)
  have HB := hidP (fun w1 (hx : Ext ((wa.alloc (.cells #[.int .i64 0, .int .i64 0, .slice none 0 0, .int .i64 0, .slice none 0 0] 28)).alloc (.cells #[.int .i64 0, .int .i64 0, .slice none 0 0, .int .i64 0, .slice none 0 0] 28)) w1) => resSes (hxc.trans hx))
  have HCc := hidP (fun w1 (hx : Ext ((wa.alloc (.cells #[.int .i64 0, .int .i64 0, .slice none 0 0, .int .i64 0, .slice none 0 0] 28)).alloc (.cells #[.int .i64 0, .int .i64 0, .slice none 0 0, .int .i64 0, .slice none 0 0] 28)) w1) => resSes hx)
  rw [show (wa.alloc (.cells #[.int .i64 0, .int .i64 0, .slice none 0 0, .int .i64 0, .slice none 0 0] 28)).heap.size = w.heap.size + 1 + 1 by simp [hsa]] at HCc
  rw [hsa] at HB
  have hs3 : ((wa.alloc (.cells #[.int .i64 0, .int .i64 0, .slice none 0 0, .int .i64 0, .slice none 0 0] 28)).alloc (.cells #[.int .i64 0, .int .i64 0, .slice none 0 0, .int .i64 0, .slice none 0 0] 28)).heap.size = w.heap.size + 3 := by simp [hsa]
  have hx3 := (hxa.trans hxb).trans hxc
  have HSA := hidP (HS.out.below (hxb.trans hxc))
  obtain ⟨w3, hw3⟩ : ∃ w3, w3 = (wa.alloc (.cells #[.int .i64 0, .int .i64 0, .slice none 0 0, .int .i64 0, .slice none 0 0] 28)).alloc (.cells #[.int .i64 0, .int .i64 0, .slice none 0 0, .int .i64 0, .slice none 0 0] 28) := ⟨_, rfl⟩
  rw [← hw3] at HB HCc hs3 hx3 HSA
  have HX3 := hidP hx3
  clear hxa hxb hxc hx3 HS hsa
  go_enter Tryd.func13, Tryd.ntmps13
  go_wp2_with fail
  rw [← hwa, ← hw3]
  clear hwa hw3
  refine (HA.out _ HX3.out).mono ?_
  rintro e w4 ⟨e1, rfl, ho1, hx4⟩
  obtain ⟨⟨q0, q1, q2, q3, q4⟩, hqf, hqs, _⟩ := HCc.out w4 hx4
  have hqfz := hqf
  have z0 := hqf 0
  have z1 := hqf 1
  have z2 := hqf 2
  have z3 := hqf 3
  have z4 := hqf 4
  obtain ⟨s0, s1, s2, s3, s4⟩ := HSA.out.below hx4
  have hs4 : w.heap.size < w4.heap.size := by omega
  have HX4 := hidP (HX3.out.trans hx4)
  have HB4 := hidP (HB.out w4 hx4)
  have HO1 := hidP (ho1.base (B' := w.heap.size + 3) (by omega))
  clear ho1 hx4 hqf
  -- the algebra is written
  have hx5 : Ext w (set3 w4 (w.heap.size + 1 + 1) (.int .i64 p) (.int .i64 d) (.slice e1 n n)) := HX4.out.set3 _ (by omega) _ _ _
  have hcells := set3_at (v0 := .int .i64 p) (v1 := .int .i64 d) (v2 := .slice e1 n n) (p := 0) (d := 0) q0 q1 q2 q3 q4
  have hbox0 := set3_ne (b := w.heap.size + 1 + 1) (v0 := .int .i64 p) (v1 := .int .i64 d) (v2 := .slice e1 n n) s3 (by omega)
  have hbox1 := set3_ne (b := w.heap.size + 1 + 1) (v0 := .int .i64 p) (v1 := .int .i64 d) (v2 := .slice e1 n n) s4 (by omega)
  have hres : SesAt (set3 w4 (w.heap.size + 1 + 1) (.int .i64 p) (.int .i64 d) (.slice e1 n n)) (w.heap.size + 1) 0 0 none 0 0 0 none 0 0 := by
    obtain ⟨⟨t0, t1, t2, t3, t4⟩, _⟩ := HB4.out
    exact ⟨set3_ne t0 (by omega), set3_ne t1 (by omega), set3_ne t2 (by omega), set3_ne t3 (by omega), set3_ne t4 (by omega)⟩
  have hfr : ∀ b j, (set3 w4 (w.heap.size + 1 + 1) (.int .i64 p) (.int .i64 d) (.slice e1 n n)).frozen? ⟨b, j, none⟩ = w4.frozen? ⟨b, j, none⟩ := fun b j => set3_frozen
  have HO5 := hidP (HO1.out.set3 (w.heap.size + 1 + 1) (.int .i64 p) (.int .i64 d) (.slice e1 n n) (fun g o e => by have := (HO1.out.at_base g o e).1; omega))
  have hsz5 : (set3 w4 (w.heap.size + 1 + 1) (.int .i64 p) (.int .i64 d) (.slice e1 n n)).heap.size = w4.heap.size := by simp [set3]
  have HF1 := hidP (fun j => (HB4.out.2.1 j))
  have HF2 := hidP (fun j => hfr (w.heap.size + 1) j)
  have HF3 := hidP (fun j => hfr (w.heap.size + 1 + 1) j)
  go_wp2_with fail
  unfold set3 at hx5 hcells hbox0 hbox1 hres HO5 hsz5 HF2 HF3
  obtain ⟨w5, hw5⟩ : ∃ w5, w5 = ((w4.setCell ⟨w.heap.size + 1 + 1, 0, none⟩ (.int .i64 p)).setCell ⟨w.heap.size + 1 + 1, 1, none⟩ (.int .i64 d)).setCell ⟨w.heap.size + 1 + 1, 2, none⟩ (.slice e1 n n) := ⟨_, rfl⟩
  rw [← hw5] at hx5 hcells hbox0 hbox1 hres HO5 hsz5 HF2 HF3 ⊢
  clear hw5
  have HX5 := hidP hx5
  refine (HC.out _ hx5).mono ?_
  rintro e w6 ⟨e2, rfl, ho2, hx6⟩
  obtain ⟨t0, t1, t2, t3, t4⟩ := hres.below hx6
  obtain ⟨k0, k1, k2, k3, k4⟩ := hcells
  obtain ⟨o0, o1, o2, o3, o4⟩ := (SesAt.mk k0 k1 k2 k3 k4 : SesAt w5 (w.heap.size + 1 + 1) p d e1 n n 0 none 0 0).below hx6
  have hl2 : w.heap.size + 1 + 1 < w5.heap.size := by omega
  have hfo : ∀ j, w6.frozen? ⟨w.heap.size + 1 + 1, j, none⟩ = false := fun j => by
    rw [hx6.frozen (p := ⟨w.heap.size + 1 + 1, j, none⟩) hl2, HF3.out j]
    exact hqfz j
  have hfr1 : ∀ j, w6.frozen? ⟨w.heap.size + 1, j, none⟩ = false := fun j => by
    rw [hx6.frozen (p := ⟨w.heap.size + 1, j, none⟩) (by omega : w.heap.size + 1 < w5.heap.size), HF2.out j]
    exact HF1.out j
  have yo3 := hfo 3
  have yo4 := hfo 4
  have yr0 := hfr1 0
  have yr1 := hfr1 1
  have yr2 := hfr1 2
  have yr3 := hfr1 3
  have yr4 := hfr1 4
  have HX6 := hidP (HX5.out.trans hx6)
  have HO6 := hidP (HO5.out.below hx6)
  have HO2 := hidP (ho2.base (B' := w.heap.size + 3) (by omega))
  have HAp : Hid (Apart e1 e2) := by
    intro b o b' o' e e'
    have := (HO5.out.at_base b o e).2
    have := (ho2.at_base b' o' e').1
    omega
  have hl6 := hx6.size
  have hlt6 : w.heap.size + 1 + 1 < w6.heap.size := by omega
  clear hx5 hbox0 hbox1 hres hsz5 hfo hfr1 ho2 hx6 k0 k1 k2 k3 k4 HF1 HF2 HF3 HB4 z0 z1 z2 z3 z4 q0 q1 q2 q3 q4 s0 s1 s2 s3 s4 hqs hl6
  go_wp2
  refine bodyPost_ret (v := sesV p d e1 n n r e2 n' n') (by simp [results, Tryd.results13, go_sem, t0, t1, t2, t3, t4]) rfl ⟨e1, e2, rfl, ?_, ?_, HAp.out, ?_⟩
  · refine (OwnI.set5 (OwnI.set2 (OwnI.set2 (HO6.out.base (B' := w.heap.size) (by omega)) _ _ _ ?_) _ _ _ ?_) _ _ _ _ _ _ ?_) <;> (intro g o e; have := (HO6.out.at_base g o e).1; omega)
  · refine (OwnI.set5 (OwnI.set2 (OwnI.set2 (HO2.out.base (B' := w.heap.size) (by omega)) _ _ _ ?_) _ _ _ ?_) _ _ _ _ _ _ ?_) <;> (intro g o e; have := (HO2.out.at_base g o e).1; omega)
  · refine Ext.set5 (Ext.setNew (Ext.setNew HX6.out _ _ ?_ _) _ _ ?_ _) _ ?_ _ _ _ _ _ <;> omega
end Go.Proofs.YtdbpbnajegoffaaDoor
