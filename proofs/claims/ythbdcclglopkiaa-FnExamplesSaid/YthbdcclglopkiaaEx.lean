/-
  ExampleAlgebra of both packages.
-/
import Derived.Test.YthbdcclglopkiaaExR
namespace Go.Proofs.Ythbdcclglopkiaa
open Go.RowKit

def setTab (p d : Int) (t : List Int) (r : List Int) : List Int :=
  (t.set ((r.getD 0 0 * d + r.getD 1 0) * d + r.getD 2 0).toNat (r.getD 3 0 % p)).set ((r.getD 1 0 * d + r.getD 0 0) * d + r.getD 2 0).toNat ((-r.getD 3 0) % p)
theorem setTab_length (p d : Int) (t r : List Int) : (setTab p d t r).length = t.length := by simp [setTab]
def exTab (k : Nat) (p : Int) : List Int := (exRows k).foldl (setTab p (exDim k)) (List.replicate ((exDim k : Int) * exDim k * exDim k).toNat 0)
def exTabTo (k : Nat) (p : Int) (r : Nat) : List Int := ((exRows k).take r).foldl (setTab p (exDim k)) (List.replicate ((exDim k : Int) * exDim k * exDim k).toNat 0)
theorem exTabTo_zero (k : Nat) (p : Int) : exTabTo k p 0 = List.replicate ((exDim k : Int) * exDim k * exDim k).toNat 0 := by simp [exTabTo]
theorem exTabTo_succ (k : Nat) (p : Int) (r : Nat) (h : r < (exRows k).length) : exTabTo k p (r + 1) = setTab p (exDim k) (exTabTo k p r) ((exRows k).getD r []) := by
  simp only [exTabTo, List.getD_eq_getElem?_getD, List.getElem?_eq_getElem h, Option.getD_some]
  rw [List.take_succ_eq_append_getElem h, List.foldl_append]
  rfl
theorem exTabTo_all (k : Nat) (p : Int) : exTabTo k p (exRows k).length = exTab k p := by simp [exTabTo, exTab]
theorem exTabTo_length (k : Nat) (p : Int) (r : Nat) : (exTabTo k p r).length = ((exDim k : Int) * exDim k * exDim k).toNat := by
  unfold exTabTo
  generalize (exRows k).take r = l
  suffices h : ∀ t : List Int, (l.foldl (setTab p (exDim k)) t).length = t.length by rw [h]; simp
  induction l with
  | nil => intro t; rfl
  | cons x l ih => intro t; rw [List.foldl_cons, ih, setTab_length]

def exRowOk (d : Int) (r : List Int) : Bool := decide (r.length = 4 ∧ 0 ≤ r.getD 0 0 ∧ r.getD 0 0 < d ∧ 0 ≤ r.getD 1 0 ∧ r.getD 1 0 < d ∧ 0 ≤ r.getD 2 0 ∧ r.getD 2 0 < d ∧ -10 ≤ r.getD 3 0 ∧ r.getD 3 0 ≤ 10)
theorem exRows_ok (k : Nat) (hk : k < 10) : ∀ r, r < (exRows k).length → exRowOk (exDim k) ((exRows k).getD r []) = true := by
  have h : ∀ k : Fin 10, ∀ r : Fin (exRows k).length, exRowOk (exDim k) ((exRows k).getD r []) = true := by decide
  exact fun r hr => h ⟨k, hk⟩ ⟨r, hr⟩
theorem exRows_le (k : Nat) : (exRows k).length ≤ 7 := by unfold exRows; split <;> simp
theorem exDim_le (k : Nat) : 2 ≤ exDim k ∧ exDim k ≤ 6 := by unfold exDim; split <;> omega

theorem l12Rows_any (k : Nat) (hk : k < 10) (w : World) : L12RowsSays k w := by
  obtain rfl | rfl | rfl | rfl | rfl | rfl | rfl | rfl | rfl | rfl : k = 0 ∨ k = 1 ∨ k = 2 ∨ k = 3 ∨ k = 4 ∨ k = 5 ∨ k = 6 ∨ k = 7 ∨ k = 8 ∨ k = 9 := by omega
  · exact l12Rows_0 w
  · exact l12Rows_1 w
  · exact l12Rows_2 w
  · exact l12Rows_3 w
  · exact l12Rows_4 w
  · exact l12Rows_5 w
  · exact l12Rows_6 w
  · exact l12Rows_7 w
  · exact l12Rows_8 w
  · exact l12Rows_9 w

set_option maxRecDepth 100000 in
set_option maxHeartbeats 2000000 in
theorem l12Example_any (k : Nat) (hk : k < 10) (p : Int) (hp : primeB p = true) (w : World) :
    Calls Try.prog 29 #[.int .i64 k, .int .i64 p] w fun e w' => ∃ a n, e = .returned (algV p (exDim k) a n n) ∧ OwnI w' w.heap.size a n n (exTab k p) ∧ Ext w w' := by
  have hR := hidP (fun w' => l12Rows_any k hk w')
  obtain ⟨d2, d6⟩ := exDim_le k
  have hlen7 := exRows_le k
  obtain ⟨p2, p7⟩ := prime_bounds hp
  have HA := hidP (fun w' => sAbelian_ok p (exDim k) w' hp (by omega) (by omega))
  obtain ⟨N, hN⟩ : ∃ N, N = ((exDim k : Int) * exDim k * exDim k).toNat := ⟨_, rfl⟩
  rw [← hN] at HA
  have HN0 := hidP hN
  clear hN
  go_enter Try.func29, Try.ntmps29
  go_wp2_with (go_at_call 68; refine (hR.out _).mono ?_; rintro e w1 ⟨aR, cR, rfl, hrows, hx1⟩; go_wp2_with (go_at_call 60; refine (HA.out _).mono ?_; rintro e w2 ⟨aT, rfl, hown, hx2⟩))
  have hN := HN0.out
  have hxa := (Ext.alloc w (.cells #[.int .i64 0, .int .i64 0, .slice none 0 0] 24)).trans hx1
  obtain ⟨w3, hw3⟩ : ∃ w3, w3 = w2.alloc (.cells #[.int .i64 p, .int .i64 (exDim k : Int), .slice aT N N] 24) := ⟨_, rfl⟩
  rw [← hw3]
  have hx3 : Ext w2 w3 := by rw [hw3]; exact Ext.alloc _ _
  have halg : AlgAt w3 w2.heap.size p (exDim k) aT N N := by rw [hw3]; exact AlgAt.new w2 _ rfl _ _ _ _ _ _
  have hres : AlgAt w1 w.heap.size 0 0 none 0 0 := (AlgAt.new w _ rfl _ _ _ _ _ _).below hx1
  have hresf : ∀ j, w1.frozen? ⟨w.heap.size, j, none⟩ = false := fun j => by
    rw [hx1.frozen (p := ⟨w.heap.size, j, none⟩) (by simp)]
    exact frozen_top _ _ _ _ _ rfl
  have hsz1 : w.heap.size < w1.heap.size := by have := hx1.size; simp at this; omega
  have hown3 := hown.below hx3
  have HO := hidP hown3
  have HOB := hidP hown.at_base
  have HRW := hidP hrows
  have HX12 := hidP (hx2.trans hx3)
  have HAL := hidP halg
  have HRS := hidP hres
  have HRF := hidP hresf
  have HXA := hidP hxa
  have hst := UpdI.start hown3.ints
  rw [show List.replicate N 0 = exTabTo k p 0 by rw [exTabTo_zero, hN]] at hst
  have HST := hidP hst
  have hN' : (N : Int) = (exDim k : Int) * exDim k * exDim k := by
    have := (cube_le (d := exDim k) (by omega) (by omega)).2.2.1
    omega
  have HN := hidP hN
  have HN' := hidP hN'
  have hrl := exRows_ok k hk
  have HRL := hidP hrl
  clear hown hrows hx1 hx2 hx3 halg hw3 hres hresf hown3 hst hN hN' hrl hR HA hxa
  go_loopw [8] (fun i wr => ∃ r : Nat, r ≤ (exRows k).length ∧ Hid (UpdI w3 wr aT N (exTabTo k p r)) ∧ i = .int .i64 r) (fun i _ => (exRows k).length - (intOf i).toNat)
  case atStart => exact ⟨0, Nat.zero_le _, HST, rfl⟩
  case round =>
    obtain ⟨r, hr, HU, rfl⟩ := hrel
    have hbl := hidP (HU.out.below HX12.out HX12.out.size (fun b o e _ => (HOB.out b o e).1))
    by_cases hlt : r < (exRows k).length
    · have hok := HRL.out r hlt
      simp only [exRowOk, decide_eq_true_eq] at hok
      obtain ⟨m4, m0, m0', m1, m1', m2, m2', m3, m3'⟩ := hok
      obtain ⟨bR, oR, aR', cR', rfl, hc, hi⟩ := (HRW.out.below hbl.out).get r hlt
      rw [m4] at hc hi
      obtain ⟨b', o', rfl, _⟩ := hi.get 0 (by omega)
      have q0 := hi.atc 0 (by omega)
      have q1 := hi.atc 1 (by omega)
      have q2 := hi.atc 2 (by omega)
      have q3 := hi.atc 3 (by omega)
      rw [Nat.add_zero] at q0
      have hst := exTabTo_succ k p r hlt
      unfold setTab at hst
      have hal := HAL.out.upd HU.out (fun b' o' e => by have := (HOB.out b' o' e).2; omega)
      have hO := HU.out.own HO.out
      generalize ((exRows k).getD r []).getD 0 0 = x0 at *
      generalize ((exRows k).getD r []).getD 1 0 = x1 at *
      generalize ((exRows k).getD r []).getD 2 0 = x2 at *
      generalize ((exRows k).getD r []).getD 3 0 = x3 at *
      have hbR := World.block_lt_of_cell? wr _ hc
      have hb' := World.block_lt_of_cell? wr _ q0
      have HF := hidP (fun w' (hx : Ext wr w') => (⟨(hal.below hx).c0, (hal.below hx).c1, (hal.below hx).c2, (hx.cell (p := ⟨bR, oR + r, none⟩) hbR).trans hc, (hx.cell (p := ⟨b', o', none⟩) hb').trans q0, (hx.cell (p := ⟨b', o' + 1, none⟩) hb').trans q1, (hx.cell (p := ⟨b', o' + 2, none⟩) hb').trans q2, (hx.cell (p := ⟨b', o' + 3, none⟩) hb').trans q3⟩ : _ ∧ _ ∧ _ ∧ _ ∧ _ ∧ _ ∧ _ ∧ _))
      have HS := hidP (fun w' (hx : Ext wr w') => l7Set_any p (exDim k) x0 x1 x2 x3 aT N N _ w' (hO.below hx).ints (by omega) (by omega) HN'.out (by omega) (by omega) m0 m0' m1 m1' m2 m2' (by omega) (by omega) (hO.below hx).unfrozen)
      rw [← hst] at HS
      have HOO := hidP hO
      have hE : Ext wr wr.drew := Ext.drew wr
      have hl4 : (r : Int) < (exRows k).length := by omega
      clear hal hO hst hc q0 q1 q2 q3 hi
      go_wp2
      (refine walkR_start (fun w' => Ext wr w') 25 (by kernel_rfl) ?_; simp only [numbered, List.take_succ_cons, List.take_zero, Nat.zero_add, Nat.reduceAdd, List.length_cons, List.length_nil])
      repeat (refine walkR_still (v := ?_) rfl (by decide +kernel) rfl (fun _ _ _ h => h) hE ?_ ?_; rotate_left; (focus (intro w' hw'; obtain ⟨f0, f1, f2, f3, f4, f5, f6, f7⟩ := HF.out w' hw'; go_simp; all_goals (with_reducible rfl))); simp only [Act.put, List.setIfInBounds_toArray, List.set_cons_zero, List.set_cons_succ])
      (refine walkR_tail (by rfl) (by kernel_rfl) ?_; simp only [List.drop_succ_cons, List.drop_zero])
      go_wp2_with (go_at_call 63; refine (HS.out _ (Ext.drew wr)).mono ?_; rintro e w4 ⟨rfl, hu4⟩)
      go_roundw
      case rel => exact ⟨r + 1, by omega, HU.out.trans ((Ext.drew wr).upd HOO.out.ints hu4), by go_num⟩
      case measure => simp [intOf]; omega
    · obtain rfl : r = (exRows k).length := by omega
      have hO := HU.out.own HO.out
      rw [exTabTo_all] at hO
      have HOO := hidP hO
      have hal := HAL.out.upd HU.out (fun b' o' e => by have := (HOB.out b' o' e).2; omega)
      obtain ⟨f0, f1, f2⟩ := hal
      have hrs := HRS.out.below hbl.out
      obtain ⟨g0, g1, g2⟩ := hrs
      have z0 := (hbl.out.frozen (p := ⟨w.heap.size, 0, none⟩) hsz1).trans (HRF.out 0)
      have z1 := (hbl.out.frozen (p := ⟨w.heap.size, 1, none⟩) hsz1).trans (HRF.out 1)
      have z2 := (hbl.out.frozen (p := ⟨w.heap.size, 2, none⟩) hsz1).trans (HRF.out 2)
      clear hO
      go_wp2
      refine bodyPost_ret (v := algV p (exDim k) aT N N) (by simp [results, Try.results29, go_sem, g0, g1, g2]) rfl ⟨_, _, rfl, ?_, ?_⟩
      · exact (((HOO.out.setBelow _ _ hsz1 _).setBelow _ _ hsz1 _).setBelow _ _ hsz1 _).base (by omega)
      · refine Ext.setNew (Ext.setNew (Ext.setNew ?_ _ _ (Nat.le_refl _) _) _ _ (Nat.le_refl _) _) _ _ (Nat.le_refl _) _
        exact Ext.trans HXA.out hbl.out
end Go.Proofs.Ythbdcclglopkiaa
