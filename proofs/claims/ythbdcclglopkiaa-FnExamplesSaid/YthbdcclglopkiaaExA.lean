/-
  ExampleAlgebra of both packages, whole.
-/
import Derived.Test.YthbdcclglopkiaaEx
namespace Go.Proofs.Ythbdcclglopkiaa
open Go.RowKit

/-- what ExampleAlgebra gives -/
structure ExData where
  p : Int
  d : Int
  t : List Int
  ok : Bool
def exData (k p : Int) : ExData := if primeB p = true ∧ insB k 0 9 = true then ⟨p, exDim k.toNat, exTab k.toNat p, true⟩ else ⟨0, 0, [], false⟩
def ExSays (f : Nat) (k p : Int) (w : World) : Prop := Calls Try.prog f #[.int .i64 k, .int .i64 p] w fun e w' => ∃ a n c, e = .returned (.tuple #[algV (exData k p).p (exData k p).d a n c, .bool (exData k p).ok]) ∧ OwnI w' w.heap.size a n c (exData k p).t ∧ Ext w w'
theorem exData_bad {k p : Int} (h : ¬ (primeB p = true ∧ insB k 0 9 = true)) : exData k p = ⟨0, 0, [], false⟩ := if_neg h
theorem exData_ok {k p : Int} (h : primeB p = true ∧ insB k 0 9 = true) : exData k p = ⟨p, exDim k.toNat, exTab k.toNat p, true⟩ := if_pos h

set_option maxHeartbeats 1000000 in
theorem sExampleAlgebra_any (k p : Int) (w : World) : ExSays 7 k p w := by
  cases hp : primeB p
  · have hd := hidP (exData_bad (k := k) (p := p) (by simp [hp]))
    unfold ExSays
    rw [hd.out]
    go_enter Try.func7, Try.ntmps7
    go_wp2_with (first | (go_at_call 27; refine (sIsPrime_any _ _).mono ?_; rintro e w' ⟨rfl, rfl⟩) | (go_at_call 28; refine (l1In_any _ _ _ _).mono ?_; rintro e w' ⟨rfl, rfl⟩))
    exact bodyPost_ret (v := .tuple #[algV 0 0 none 0 0, .bool false]) (by simp [results, Try.results7, go_sem]) rfl ⟨none, 0, 0, rfl, OwnI.nil _ _, Ext.alloc w _⟩
  · cases hi : insB k 0 9
    · have hd := hidP (exData_bad (k := k) (p := p) (by simp [hi]))
      unfold ExSays
      rw [hd.out]
      go_enter Try.func7, Try.ntmps7
      go_wp2_with (first | (go_at_call 27; refine (sIsPrime_any _ _).mono ?_; rintro e w' ⟨rfl, rfl⟩) | (go_at_call 28; refine (l1In_any _ _ _ _).mono ?_; rintro e w' ⟨rfl, rfl⟩))
      exact bodyPost_ret (v := .tuple #[algV 0 0 none 0 0, .bool false]) (by simp [results, Try.results7, go_sem]) rfl ⟨none, 0, 0, rfl, OwnI.nil _ _, Ext.alloc w _⟩
    · have hd := hidP (exData_ok (k := k) (p := p) ⟨hp, hi⟩)
      obtain ⟨h0, h9⟩ := insB_true.1 hi
      obtain ⟨kn, rfl⟩ := Int.eq_ofNat_of_zero_le h0
      rw [Int.toNat_natCast] at hd
      have hE := hidP (fun w' => l12Example_any kn (by omega) p hp w')
      unfold ExSays
      rw [hd.out]
      go_enter Try.func7, Try.ntmps7
      go_wp2_with (first | (go_at_call 27; refine (sIsPrime_any _ _).mono ?_; rintro e w' ⟨rfl, rfl⟩) | (go_at_call 28; refine (l1In_any _ _ _ _).mono ?_; rintro e w' ⟨rfl, rfl⟩) | (go_at_call 29; refine (hE.out _).mono ?_; rintro e w1 ⟨aT, N, rfl, hown, hx1⟩; obtain ⟨r0, r1, r2, z0, z1, z2, hs, hxx⟩ := resAlg hx1; have HO := hidP hown; have HX := hidP hxx; clear hown hx1 hxx))
      refine bodyPost_ret (v := .tuple #[algV p (exDim kn) aT N N, .bool true]) (by simp [results, Try.results7, go_sem, r0, r1, r2]) rfl ⟨_, _, _, rfl, ?_, ?_⟩
      · simp only [World.size_alloc] at HO
        exact (((HO.out.setBelow _ _ (by omega) _).setBelow _ _ (by omega) _).setBelow _ _ (by omega) _).base (by omega)
      · exact Ext.setNew (Ext.setNew (Ext.setNew HX.out _ _ (Nat.le_refl _) _) _ _ (Nat.le_refl _) _) _ _ (Nat.le_refl _) _

theorem flat4_length (l : List (List Int)) (h : ∀ r, r < l.length → (l.getD r []).length = 4) : l.flatten.length = 4 * l.length := by
  induction l with
  | nil => rfl
  | cons x l ih =>
    have h0 := h 0 (by simp)
    have h1 := ih fun r hr => by have := h (r + 1) (by simpa using hr); simpa using this
    simp at h0
    simp only [List.flatten_cons, List.length_append, List.length_cons, h1, h0]
    omega
theorem flat4_get (l : List (List Int)) (h : ∀ r, r < l.length → (l.getD r []).length = 4) (r j : Nat) (hr : r < l.length) (hj : j < 4) : l.flatten.getD (r * 4 + j) 0 = (l.getD r []).getD j 0 := by
  induction l generalizing r with
  | nil => simp at hr
  | cons x l ih =>
    have h0 := h 0 (by simp)
    simp at h0
    cases r with
    | zero =>
      simp only [List.flatten_cons, List.getD_eq_getElem?_getD, Nat.zero_mul, Nat.zero_add, List.getElem?_cons_zero, Option.getD_some]
      rw [List.getElem?_append_left (by omega)]
    | succ r =>
      have h1 := ih (fun r hr => by have := h (r + 1) (by simpa using hr); simpa using this) r (by simpa using hr)
      have e : (r + 1) * 4 + j = x.length + (r * 4 + j) := by omega
      simp only [List.flatten_cons, List.getD_eq_getElem?_getD, e, List.getElem?_append_right (Nat.le_add_right _ _), Nat.add_sub_cancel_left, List.getElem?_cons_succ] at h1 ⊢
      exact h1

theorem exBr_any (k : Nat) (hk : k < 10) (w : World) : ExBrSays k w := by
  obtain rfl | rfl | rfl | rfl | rfl | rfl | rfl | rfl | rfl | rfl : k = 0 ∨ k = 1 ∨ k = 2 ∨ k = 3 ∨ k = 4 ∨ k = 5 ∨ k = 6 ∨ k = 7 ∨ k = 8 ∨ k = 9 := by omega
  · exact exBr_0 w
  · exact exBr_1 w
  · exact exBr_2 w
  · exact exBr_3 w
  · exact exBr_4 w
  · exact exBr_5 w
  · exact exBr_6 w
  · exact exBr_7 w
  · exact exBr_8 w
  · exact exBr_9 w

set_option maxRecDepth 100000 in
set_option maxHeartbeats 2000000 in
theorem exampleAlgebra_ok (kn : Nat) (hk : kn < 10) (p : Int) (hp : primeB p = true) (w : World) :
    Calls Try.prog 8 #[.int .i64 kn, .int .i64 p] w fun e w' => ∃ a n, e = .returned (.tuple #[algV p (exDim kn) a n n, .bool true]) ∧ OwnI w' w.heap.size a n n (exTab kn p) ∧ Ext w w' := by
  have hB := hidP (fun w' => exBr_any kn hk w')
  have hi : insB kn 0 9 = true := insB_true.2 ⟨by omega, by omega⟩
  obtain ⟨d2, d6⟩ := exDim_le kn
  have hlen7 := exRows_le kn
  obtain ⟨p2, p7⟩ := prime_bounds hp
  have HA := hidP (fun w' => abelian_ok p (exDim kn) w' hp (by omega) (by omega))
  obtain ⟨N, hN⟩ : ∃ N, N = ((exDim kn : Int) * exDim kn * exDim kn).toNat := ⟨_, rfl⟩
  rw [← hN] at HA
  have HN0 := hidP hN
  clear hN
  have hk' : (kn : Int) < 10 := by omega
  have hdim : ∀ h : kn < 10, ([.int .i64 3, .int .i64 3, .int .i64 2, .int .i64 3, .int .i64 4, .int .i64 5, .int .i64 6, .int .i64 5, .int .i64 5, .int .i64 4] : List Value)[kn]'h = .int .i64 (exDim kn) := by
    intro h
    obtain rfl | rfl | rfl | rfl | rfl | rfl | rfl | rfl | rfl | rfl : kn = 0 ∨ kn = 1 ∨ kn = 2 ∨ kn = 3 ∨ kn = 4 ∨ kn = 5 ∨ kn = 6 ∨ kn = 7 ∨ kn = 8 ∨ kn = 9 := by omega
    all_goals rfl
  have HD := hidP hdim
  clear hdim
  go_enter Try.func8, Try.ntmps8
  go_wp2_with (first | (go_at_call 30; refine (isPrime_any _ _).mono ?_; rintro e w' ⟨rfl, rfl⟩) | (go_at_call 31; refine (inside_any _ _ _ _).mono ?_; rintro e w' ⟨rfl, rfl⟩) | (go_at_call 32; rw [HD.out]; refine (HA.out _).mono ?_; rintro e w1 ⟨aT, rfl, hown, hx1⟩) | (go_at_call 33; refine (hB.out _).mono ?_; rintro e w2 ⟨aR, cR, rfl, hrows, hbr, hx2⟩))
  obtain ⟨x0, x1, x2, z0, z1, z2, hs2, hxx2⟩ := resAlg hx2
  obtain ⟨r0, r1, r2, y0, y1, y2, hs1, hxx1⟩ := resAlg ((Ext.alloc _ _).trans hx1)
  have hbase := hown.base (B' := w.heap.size + 1) (by simp)
  have hO2 := hbase.below hxx2
  have HOB := hidP hbase.at_base
  have HX12 := hidP hxx2
  have HXA := hidP (hxx1.trans hxx2)
  have HRS := hidP (⟨r0, r1, r2⟩ : AlgAt w1 w.heap.size 0 0 none 0 0)
  have HRF := hidP (⟨y0, y1, y2⟩ : w1.frozen? ⟨w.heap.size, 0, none⟩ = false ∧ w1.frozen? ⟨w.heap.size, 1, none⟩ = false ∧ w1.frozen? ⟨w.heap.size, 2, none⟩ = false)
  have HAL := hidP (⟨x0, x1, x2⟩ : AlgAt w2 w1.heap.size p (exDim kn) aT N N)
  have HO := hidP hO2
  have HRW := hidP hrows
  have HBR := hidP (fun b o e => (by have := hbr b o e; simp at this; omega : w1.heap.size ≤ b))
  have HOB1 := hidP (fun b o e => ((hown.at_base b o e).2 : b < w1.heap.size))
  have hN := HN0.out
  have hst := UpdI.start hO2.ints
  rw [show List.replicate N 0 = exTabTo kn p 0 by rw [exTabTo_zero, hN]] at hst
  have HST := hidP hst
  have hN' : (N : Int) = (exDim kn : Int) * exDim kn * exDim kn := by
    have := (cube_le (d := exDim kn) (by omega) (by omega)).2.2.1
    omega
  have HN' := hidP hN'
  have hrl := exRows_ok kn hk
  have HRL := hidP hrl
  have h4 : ∀ r, r < (exRows kn).length → ((exRows kn).getD r []).length = 4 := fun r hr => by
    have := hrl r hr
    simp only [exRowOk, decide_eq_true_eq] at this
    exact this.1
  have HF4 := hidP (flat4_length _ h4)
  have HG4 := hidP (flat4_get _ h4)
  clear x0 x1 x2 z0 z1 z2 r0 r1 r2 y0 y1 y2 hxx1 hxx2 hx1 hx2 hown hbase hO2 hrows hN hst hN' hrl h4 hB HA HD hi hbr
  go_loopw [33] (fun i wr => ∃ r : Nat, r ≤ (exRows kn).length ∧ Hid (UpdI w2 wr aT N (exTabTo kn p r)) ∧ i = .int .i64 r) (fun i _ => (exRows kn).length - (intOf i).toNat)
  case atStart => exact ⟨0, Nat.zero_le _, HST, rfl⟩
  case round =>
    obtain ⟨r, hr, HU, rfl⟩ := hrel
    have hbl := hidP (HU.out.below (Below.refl (w.heap.size + 1) w2) (by have := HX12.out.size; omega) (fun b o e _ => (HOB.out b o e).1))
    by_cases hlt : r < (exRows kn).length
    · have hok := HRL.out r hlt
      simp only [exRowOk, decide_eq_true_eq] at hok
      obtain ⟨m4, m0, m0', m1, m1', m2, m2', m3, m3'⟩ := hok
      have hfl := HF4.out
      have hi := HU.out.others HRW.out (fun b o b' o' e e' => by have := HBR.out b' o' e'; have := HOB1.out b o e; omega)
      obtain ⟨b', o', rfl, q0⟩ := hi.get (r * 4 + 0) (by omega)
      have q1 := hi.atc (r * 4 + 1) (by omega)
      have q2 := hi.atc (r * 4 + 2) (by omega)
      have q3 := hi.atc (r * 4 + 3) (by omega)
      rw [HG4.out r _ hlt (by omega)] at q0 q1 q2 q3
      rw [← Nat.add_assoc] at q0 q1 q2 q3
      rw [Nat.add_zero] at q0
      have hst := exTabTo_succ kn p r hlt
      unfold setTab at hst
      have hal := HAL.out.upd HU.out (fun b' o' e => by have := (HOB1.out b' o' e); omega)
      have hO := HU.out.own HO.out
      generalize ((exRows kn).getD r []).getD 0 0 = x0 at *
      generalize ((exRows kn).getD r []).getD 1 0 = x1 at *
      generalize ((exRows kn).getD r []).getD 2 0 = x2 at *
      generalize ((exRows kn).getD r []).getD 3 0 = x3 at *
      have HO := hidP hO
      have HS := hidP hst
      have HALr := hidP hal
      have hl4 : (r : Int) < (exRows kn).length := by omega
      clear hO hst hal hi hfl
      obtain ⟨k1, k2, k3, k4, k5⟩ := idx_facts (by omega : (exDim kn : Int) ≤ 28) m0 m0' m1 m1' m2 m2'
      obtain ⟨l1, l2, l3, l4, l5⟩ := idx_facts (by omega : (exDim kn : Int) ≤ 28) m1 m1' m0 m0' m2 m2'
      obtain ⟨t1, ht1⟩ := Int.eq_ofNat_of_zero_le (show 0 ≤ (x0 * (exDim kn : Int) + x1) * exDim kn + x2 by omega)
      obtain ⟨t2, ht2⟩ := Int.eq_ofNat_of_zero_le (show 0 ≤ (x1 * (exDim kn : Int) + x0) * exDim kn + x2 by omega)
      have T0 := HN'.out
      have T1 : (t1 : Int) < N := by omega
      have T2 : (t2 : Int) < N := by omega
      rw [ht1, ht2, Int.toNat_natCast, Int.toNat_natCast] at HS
      have e1 : IntKind.i64.wrap (x0 * (exDim kn : Int)) = x0 * (exDim kn : Int) := wrap_in (by omega) (by omega)
      have e2 : IntKind.i64.wrap (x0 * (exDim kn : Int) + x1) = x0 * (exDim kn : Int) + x1 := wrap_in (by omega) (by omega)
      have e3 : IntKind.i64.wrap ((x0 * (exDim kn : Int) + x1) * exDim kn) = (x0 * (exDim kn : Int) + x1) * exDim kn := wrap_in (by omega) (by omega)
      have e4 : IntKind.i64.wrap ((x0 * (exDim kn : Int) + x1) * exDim kn + x2) = (t1 : Int) := by rw [← ht1]; exact wrap_in (by omega) (by omega)
      have e5 : IntKind.i64.wrap (x1 * (exDim kn : Int)) = x1 * (exDim kn : Int) := wrap_in (by omega) (by omega)
      have e6 : IntKind.i64.wrap (x1 * (exDim kn : Int) + x0) = x1 * (exDim kn : Int) + x0 := wrap_in (by omega) (by omega)
      have e7 : IntKind.i64.wrap ((x1 * (exDim kn : Int) + x0) * exDim kn) = (x1 * (exDim kn : Int) + x0) * exDim kn := wrap_in (by omega) (by omega)
      have e8 : IntKind.i64.wrap ((x1 * (exDim kn : Int) + x0) * exDim kn + x2) = (t2 : Int) := by rw [← ht2]; exact wrap_in (by omega) (by omega)
      have e9 : IntKind.i64.wrap (-x3) = -x3 := wrap_in (by omega) (by omega)
      have HT1 := hidP (by omega : t1 < N)
      have HT2 := hidP (by omega : t2 < N)
      obtain ⟨g, rfl, hg1, hg2, hg3, hg4⟩ := HO.out.cell t1 HT1.out
      clear k1 k2 k3 k4 k5 l1 l2 l3 l4 l5 T0 ht1 ht2 hg3 hg4
      go_wp2
      go_quiet (fail)
      obtain ⟨w5, hw5⟩ : ∃ w5, w5 = (wr.alloc (.cells #[.int .i64 x0, .int .i64 x1, .int .i64 x2, .int .i64 x3] 51)).drewN nq := ⟨_, rfl⟩
      have hx5 : Hid (Ext wr w5) := by rw [hw5]; exact (Ext.alloc wr _).trans (Ext.drewN _ _)
      rw [← hw5]
      have HF := hidP (fun w' (hx : Ext w5 w') => (⟨(HALr.out.below (hx5.out.trans hx)).c0, (HALr.out.below (hx5.out.trans hx)).c1, (HALr.out.below (hx5.out.trans hx)).c2⟩ : _ ∧ _ ∧ _))
      have HO5 := hidP (HO.out.below hx5.out)
      obtain ⟨g', e', _, _, hc5, hz5⟩ := HO5.out.cell t1 HT1.out
      cases e'
      have HU5 := hidP (UpdI.start HO5.out.ints)
      clear hw5 q0 q1 q2 q3
      have hE : Ext w5 w5.drew := Ext.drew w5
      go_wp2
      (refine walkR_start (fun w' => Ext w5 w') 17 (by kernel_rfl) ?_; simp only [numbered, List.take_succ_cons, List.take_zero, Nat.zero_add, Nat.reduceAdd, List.length_cons, List.length_nil])
      repeat (refine walkR_still (v := ?_) rfl (by decide +kernel) rfl (fun _ _ _ h => h) hE ?_ ?_; rotate_left; (focus (intro w' hw'; obtain ⟨f0, f1, f2⟩ := HF.out w' hw'; go_simp; all_goals (with_reducible rfl))); simp only [Act.put, List.setIfInBounds_toArray, List.set_cons_zero, List.set_cons_succ])
      (refine walkR_only (fun w' => Ext w5 w') rfl (by decide +kernel) rfl ?_ ?_)
      · exact fun _ h => h
      intro K hK
      go_simp
      refine (mod_any _ _ _ (by omega) (by omega)).mono ?_
      rintro e w' ⟨rfl, rfl⟩
      refine hK _ _ hE ?_
      clear hK K
      (try simp only [Act.put, List.setIfInBounds_toArray, List.set_cons_zero, List.set_cons_succ])
      repeat (refine walkR_still (v := ?_) rfl (by decide +kernel) rfl (fun _ _ _ h => h) hE ?_ ?_; rotate_left; (focus (intro w' hw'; obtain ⟨f0, f1, f2⟩ := HF.out w' hw'; go_simp; all_goals (with_reducible rfl))); simp only [Act.put, List.setIfInBounds_toArray, List.set_cons_zero, List.set_cons_succ])
      (refine walkR_tail (by rfl) (by kernel_rfl) ?_; simp only [List.drop_succ_cons, List.drop_zero])
      go_wp2
      obtain ⟨w6, hw6⟩ : ∃ w6, w6 = (w5.setCell ⟨g, t1, none⟩ (.int .i64 (x3 % p))).drew := ⟨_, rfl⟩
      rw [← hw6]
      have hu6 : UpdI w5 w6 (some ⟨g, 0, none⟩) N ((exTabTo kn p r).set t1 (x3 % p)) := by
        rw [hw6]
        have := (HU5.out.store t1 HT1.out (x3 % p)).drew
        rw [Nat.zero_add] at this
        exact this
      have HU6 := hidP hu6
      have HO6 := hidP (hu6.own HO5.out)
      have hal6 := ((⟨(HF.out w5 (Ext.refl w5)).1, (HF.out w5 (Ext.refl w5)).2.1, (HF.out w5 (Ext.refl w5)).2.2⟩ : AlgAt w5 w1.heap.size p (exDim kn) (some ⟨g, 0, none⟩) N N)).upd hu6 (fun b' o' e => by have := HOB1.out b' o' e; omega)
      clear hE HF hc5 hz5 hw6
      have HF := hidP (fun w' (hx : Ext w6 w') => (⟨(hal6.below hx).c0, (hal6.below hx).c1, (hal6.below hx).c2⟩ : _ ∧ _ ∧ _))
      obtain ⟨g', e', _, _, hc6, hz6⟩ := HO6.out.cell t2 HT2.out
      cases e'
      clear hal6 hu6
      have hE : Ext w6 w6.drew := Ext.drew w6
      (refine walkR_start (fun w' => Ext w6 w') 18 (by kernel_rfl) ?_; simp only [numbered, List.take_succ_cons, List.take_zero, Nat.zero_add, Nat.reduceAdd, List.length_cons, List.length_nil])
      repeat (refine walkR_still (v := ?_) rfl (by decide +kernel) rfl (fun _ _ _ h => h) hE ?_ ?_; rotate_left; (focus (intro w' hw'; obtain ⟨f0, f1, f2⟩ := HF.out w' hw'; go_simp; all_goals (with_reducible rfl))); simp only [Act.put, List.setIfInBounds_toArray, List.set_cons_zero, List.set_cons_succ])
      (refine walkR_only (fun w' => Ext w6 w') rfl (by decide +kernel) rfl ?_ ?_)
      · exact fun _ h => h
      intro K hK
      go_simp
      refine (mod_any _ _ _ (by omega) (by omega)).mono ?_
      rintro e w' ⟨rfl, rfl⟩
      refine hK _ _ hE ?_
      clear hK K
      (try simp only [Act.put, List.setIfInBounds_toArray, List.set_cons_zero, List.set_cons_succ])
      repeat (refine walkR_still (v := ?_) rfl (by decide +kernel) rfl (fun _ _ _ h => h) hE ?_ ?_; rotate_left; (focus (intro w' hw'; obtain ⟨f0, f1, f2⟩ := HF.out w' hw'; go_simp; all_goals (with_reducible rfl))); simp only [Act.put, List.setIfInBounds_toArray, List.set_cons_zero, List.set_cons_succ])
      (refine walkR_tail (by rfl) (by kernel_rfl) ?_; simp only [List.drop_succ_cons, List.drop_zero])
      go_wp2
      go_roundw
      case rel =>
        refine ⟨r + 1, by omega, ?_, by go_num⟩
        rw [HS.out]
        have h1 := HU.out.trans (hx5.out.upd HO.out.ints HU6.out)
        have h2 := (h1.store t2 HT2.out (-x3 % p)).drew
        rw [Nat.zero_add] at h2
        exact h2
      case measure => simp [intOf]; omega
    · obtain rfl : r = (exRows kn).length := by omega
      have hO := HU.out.own HO.out
      rw [exTabTo_all] at hO
      have HOO := hidP hO
      have hal := HAL.out.upd HU.out (fun b' o' e => by have := (HOB1.out b' o' e); omega)
      obtain ⟨f0, f1, f2⟩ := hal
      have hsz : w.heap.size < w1.heap.size := World.block_lt_of_cell? w1 _ HRS.out.c0
      have hrs := HRS.out.below HX12.out
      have hz : ∀ j, w2.frozen? ⟨w.heap.size, j, none⟩ = w1.frozen? ⟨w.heap.size, j, none⟩ := fun j => HX12.out.frozen (p := ⟨w.heap.size, j, none⟩) hsz
      have hc' : ∀ j, wr.cell? ⟨w.heap.size, j, none⟩ = w2.cell? ⟨w.heap.size, j, none⟩ := fun j => hbl.out.cell (p := ⟨w.heap.size, j, none⟩) (Nat.lt_succ_self _)
      have hz' : ∀ j, wr.frozen? ⟨w.heap.size, j, none⟩ = w2.frozen? ⟨w.heap.size, j, none⟩ := fun j => hbl.out.frozen (p := ⟨w.heap.size, j, none⟩) (Nat.lt_succ_self _)
      have g0 := (hc' 0).trans hrs.c0
      have g1 := (hc' 1).trans hrs.c1
      have g2 := (hc' 2).trans hrs.c2
      obtain ⟨y0, y1, y2⟩ := HRF.out
      have z0 := (hz' 0).trans ((hz 0).trans y0)
      have z1 := (hz' 1).trans ((hz 1).trans y1)
      have z2 := (hz' 2).trans ((hz 2).trans y2)
      clear hO hrs hz hc' hz' y0 y1 y2
      go_wp2
      refine bodyPost_ret (v := .tuple #[algV p (exDim kn) aT N N, .bool true]) (by simp [results, Try.results8, go_sem, g0, g1, g2]) rfl ⟨_, _, rfl, ?_, ?_⟩
      · exact (((HOO.out.setBelow _ _ (by omega) _).setBelow _ _ (by omega) _).setBelow _ _ (by omega) _).base (by omega)
      · exact Ext.setNew (Ext.setNew (Ext.setNew (Below.trans HXA.out (Below.mono hbl.out (Nat.le_succ _))) _ _ (Nat.le_refl _) _) _ _ (Nat.le_refl _) _) _ _ (Nat.le_refl _) _

theorem exampleAlgebra_any (k p : Int) (w : World) : ExSays 8 k p w := by
  by_cases h : primeB p = true ∧ insB k 0 9 = true
  · obtain ⟨h0, h9⟩ := insB_true.1 h.2
    obtain ⟨kn, rfl⟩ := Int.eq_ofNat_of_zero_le h0
    unfold ExSays
    rw [exData_ok h]
    exact (exampleAlgebra_ok kn (by omega) p h.1 w).mono fun e w' ⟨a, n, he, ho, hx⟩ => ⟨a, n, n, he, ho, hx⟩
  · have hd := hidP (exData_bad h)
    unfold ExSays
    rw [hd.out]
    cases hp : primeB p
    · clear h
      go_enter Try.func8, Try.ntmps8
      go_wp2_with (first | (go_at_call 30; refine (isPrime_any _ _).mono ?_; rintro e w' ⟨rfl, rfl⟩) | (go_at_call 31; refine (inside_any _ _ _ _).mono ?_; rintro e w' ⟨rfl, rfl⟩))
      exact bodyPost_ret (v := .tuple #[algV 0 0 none 0 0, .bool false]) (by simp [results, Try.results8, go_sem]) rfl ⟨none, 0, 0, rfl, OwnI.nil _ _, Ext.alloc w _⟩
    · have hi : insB k 0 9 = false := by
        cases hi : insB k 0 9
        · rfl
        · exact absurd ⟨hp, hi⟩ h
      clear h
      go_enter Try.func8, Try.ntmps8
      go_wp2_with (first | (go_at_call 30; refine (isPrime_any _ _).mono ?_; rintro e w' ⟨rfl, rfl⟩) | (go_at_call 31; refine (inside_any _ _ _ _).mono ?_; rintro e w' ⟨rfl, rfl⟩))
      exact bodyPost_ret (v := .tuple #[algV 0 0 none 0 0, .bool false]) (by simp [results, Try.results8, go_sem]) rfl ⟨none, 0, 0, rfl, OwnI.nil _ _, Ext.alloc w _⟩
end Go.Proofs.Ythbdcclglopkiaa
