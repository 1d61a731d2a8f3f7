/-
  LowerSeries, DerivedSeries, ClassOf, IsSolvable of the program, where the chain of spaces is known.
-/
import Derived.Test.YthbdcclglopkiaaSer2
namespace Go.Proofs.Ythbdcclglopkiaa
open Go.RowKit

theorem matRows_flat {r d : Nat} {data : List Int} (h : data.length = r * d) : (matRows r d data).flatten = data := by
  induction r generalizing data with
  | zero => simp at h; subst h; rfl
  | succ r ih =>
    unfold matRows at ih ⊢
    rw [List.range_succ_eq_map, List.map_cons, List.map_map, List.flatten_cons]
    have h1 : (data.drop d).length = r * d := by rw [List.length_drop, h, Nat.add_mul, Nat.one_mul]; omega
    have h2 := ih h1
    have e : (List.map ((fun i => List.take d (List.drop (i * d) data)) ∘ Nat.succ) (List.range r)) = (List.range r).map fun i => List.take d (List.drop (i * d) (data.drop d)) := by
      apply List.map_congr_left
      intro i _
      show List.take d (List.drop ((i + 1) * d) data) = _
      rw [List.drop_drop, Nat.add_mul, Nat.one_mul, Nat.add_comm]
    rw [e, h2]
    simp
def allL (d : Nat) : List (List Int) := matRows d d (unitTo d d)
def lowF (p : Int) (t : List Int) (d : Nat) (R : List (List Int)) : List (List Int) := prodL p t d (allL d) R
def derF (p : Int) (t : List Int) (d : Nat) (R : List (List Int)) : List (List Int) := prodL p t d R R
theorem prodL_ok {p : Int} (hp : 0 < p) (t : List Int) (d : Nat) (S T : List (List Int)) : Rows p d (prodL p t d S T) ∧ (prodL p t d S T).length ≤ d := by
  have hr : Rows p d (prodAll p t d S T) := prodTo_rows hp _ _ _ _ _ _
  obtain ⟨h1, h2, _⟩ := spanL_rows hp hr d
  exact ⟨h1, by unfold prodL; rw [h2]; exact (redTo_ok hp hr d).pk⟩
theorem allL_ok {p : Int} (hp : 2 ≤ p) (d : Nat) : Rows p d (allL d) ∧ (allL d).length ≤ d :=
  ⟨matRows_ok (unitTo_length d d) (unitTo_res hp d d), by unfold allL; rw [matRows_length]; exact Nat.le_refl _⟩
theorem iter_ok {p : Int} (hp : 2 ≤ p) (d : Nat) (f : List (List Int) → List (List Int)) (hf : ∀ R, Rows p d (f R) ∧ (f R).length ≤ d) (i : Nat) : Rows p d (iterL f (allL d) i) ∧ (iterL f (allL d) i).length ≤ d := by
  cases i with
  | zero => exact allL_ok hp d
  | succ i => exact hf _

/-- a chain of spaces that ends: m steps on which the numbers of rows differ, then one on which they do not -/
structure Chain (f : List (List Int) → List (List Int)) (R : List (List Int)) (m : Nat) : Prop where
  ne : ∀ i, i < m → (iterL f R (i + 1)).length ≠ (iterL f R i).length
  eq : (iterL f R (m + 1)).length = (iterL f R m).length

set_option maxHeartbeats 2000000 in
theorem lowerSeries_ok (p : Int) (d m : Nat) (a : Option Addr) (N c : Nat) (t : List Int) (w : World) (ht : IntsAt w a N t) (hnc : N ≤ c) (hc2 : c ≤ 1000000000000) (hb : algB p d t = true) (hm : m ≤ 1000) (hch : Chain (lowF p t d) (allL d) m) :
    Calls Try.prog 45 #[algV p d a N c] w fun e w' => ∃ a' c' hs, e = .returned (.slice a' (m + 1) c') ∧ OwnK matK w' w.heap.size w'.heap.size a' (m + 1) c' hs (serL p d (lowF p t d) (allL d) m) ∧ Ext w w' := by
  obtain ⟨hh, _⟩ := algB_true.1 hb
  obtain ⟨hp, hd0, hd, hl, hr⟩ := headB_true hh
  obtain ⟨p2, p7⟩ := prime_bounds hp
  have hN : N = d * d * d := by
    have : ((t.length : Nat) : Int) = ((d * d * d : Nat) : Int) := by rw [hl]; simp
    have := ht.len
    omega
  have hx0 := Ext.alloc w (.cells #[.int .i64 p, .int .i64 (d : Int), .slice a N c] 24)
  have HOK := hidP (algebraOk_any p d a N c t _ (ht.below hx0) hnc hc2)
  rw [hb] at HOK
  have HAL := hidP (AlgAt.new w _ rfl p d a N c 24)
  have HX0 := hidP hx0
  have HT := hidP ht
  have HR := hidP hr
  have HN := hidP hN
  have HP := hidP hp
  have HCH := hidP hch
  clear hb hh hl hr hN hx0 ht hch hp
  go_enter Try.func45, Try.ntmps45
  go_wp2_with fail
  refine HOK.out.mono ?_
  rintro e w1 ⟨rfl, hx1⟩
  obtain ⟨f0, f1, f2⟩ := HAL.out.below hx1
  have HAL1 := hidP (HAL.out.below hx1)
  have HX1 := hidP (HX0.out.trans hx1)
  clear hx1 HOK HAL
  go_wp2_with fail
  refine (newLie_any _ _ _ _ _ _).mono ?_
  rintro e w2 ⟨rfl, hx2⟩
  have HX2 := hidP (HX1.out.trans hx2)
  have HAL2 := hidP (HAL1.out.below hx2)
  clear f0 f1 f2 hx2 HAL1
  obtain ⟨f0, f1, f2⟩ := HAL2.out.below (Ext.alloc w2 (.cells #[.int .i64 p, .int .i64 (d : Int), .slice a N c] 57))
  have hx3 := Ext.alloc w2 (.cells #[.int .i64 p, .int .i64 (d : Int), .slice a N c] 57)
  have HL3 := hidP (AlgAt.new w2 _ rfl p d a N c 57)
  have HX3 := hidP (HX2.out.trans hx3)
  have HUM := hidP (fun w' => unitMatrix_ok p d w' HP.out (by omega))
  clear hx3
  go_wp2_with fail
  obtain ⟨w3, hw3⟩ : ∃ w3, w3 = w2.alloc (.cells #[.int .i64 p, .int .i64 (d : Int), .slice a N c] 57) := ⟨_, rfl⟩
  rw [← hw3] at HL3 HX3 f0 f1 f2 ⊢
  clear hw3 f0 f1 f2
  refine (HUM.out _).mono ?_
  rintro e w4 ⟨a4, rfl, ho4, hx4⟩
  have HO4 := hidP (ho4.base (B' := w.heap.size) HX3.out.size)
  have HX4 := hidP (HX3.out.trans hx4)
  have HL4 := hidP (HL3.out.below hx4)
  clear ho4 hx4 HUM HL3
  have hx5 := Ext.alloc w4 (.cells #[.int .i64 p, .int .i64 (d : Int), .int .i64 (d : Int), .slice a4 (d * d) (d * d)] 67)
  have HL5 := hidP (HL4.out.below hx5)
  have HM5 := hidP (MatAt.new w4 _ rfl p d d a4 (d * d) (d * d) 67)
  have HO5 := hidP (HO4.out.below hx5)
  have HX5 := hidP (HX4.out.trans hx5)
  have hdd : d * d ≤ 28 * 28 := Nat.mul_le_mul (by omega) (by omega)
  clear hx5
  have HSR := hidP (series_any 74 #[.pointer (some ⟨w2.heap.size, 0, none⟩), .pointer (some ⟨w4.heap.size, 0, none⟩)] (lowF p t d) p d w.heap.size m a4 (d * d) (d * d) (allL d) (w4.alloc (.cells #[.int .i64 p, .int .i64 (d : Int), .int .i64 (d : Int), .slice a4 (d * d) (d * d)] 67))
    (by show OwnI _ _ _ _ _ (matRows d d (unitTo d d)).flatten; rw [matRows_flat (unitTo_length d d)]; exact HO5.out) HX5.out.size (by omega) (fun args w => by kernel_rfl)
    (fun i hi al ll cl w' hx' ho' => by
      obtain ⟨hRi, hLi⟩ := iter_ok p2 d (lowF p t d) (fun R => prodL_ok (by omega) t d (allL d) R) i
      obtain ⟨hc1, hc2'⟩ := ho'.caps
      exact lowerStep_any p d (iterL (lowF p t d) (allL d) i).length w2.heap.size w4.heap.size a a4 al N c (d * d) ll cl t (iterL (lowF p t d) (allL d) i) w' (HL5.out.below hx') (HM5.out.below hx') (by omega) HN.out hnc hc2 (HT.out.below (HX5.out.trans hx'))
        (HO5.out.below hx').ints (Nat.le_refl _) (by omega) ho'.ints rfl hRi hc1 hc2' HP.out HR.out (by omega) (by omega))
    HCH.out.ne HCH.out.eq)
  have HDL : Hid (((allL d).length : Int) = (d : Int)) := by show _ = _; unfold allL; rw [matRows_length]
  rw [HDL.out] at HSR
  go_wp2_with fail
  refine HSR.out.mono ?_
  rintro e w6 ⟨a6, c6, hs6, rfl, hk6, hx6⟩
  have HK6 := hidP hk6
  have HX6 := hidP (HX5.out.trans hx6)
  clear hk6 hx6 HSR
  go_wp2
  go_ret
  exact ⟨_, _, _, rfl, HK6.out, HX6.out⟩
set_option maxHeartbeats 2000000 in
theorem derivedSeries_ok (p : Int) (d m : Nat) (a : Option Addr) (N c : Nat) (t : List Int) (w : World) (ht : IntsAt w a N t) (hnc : N ≤ c) (hc2 : c ≤ 1000000000000) (hb : algB p d t = true) (hm : m ≤ 1000) (hch : Chain (derF p t d) (allL d) m) :
    Calls Try.prog 46 #[algV p d a N c] w fun e w' => ∃ a' c' hs, e = .returned (.slice a' (m + 1) c') ∧ OwnK matK w' w.heap.size w'.heap.size a' (m + 1) c' hs (serL p d (derF p t d) (allL d) m) ∧ Ext w w' := by
  obtain ⟨hh, _⟩ := algB_true.1 hb
  obtain ⟨hp, hd0, hd, hl, hr⟩ := headB_true hh
  obtain ⟨p2, p7⟩ := prime_bounds hp
  have hN : N = d * d * d := by
    have : ((t.length : Nat) : Int) = ((d * d * d : Nat) : Int) := by rw [hl]; simp
    have := ht.len
    omega
  have hx0 := Ext.alloc w (.cells #[.int .i64 p, .int .i64 (d : Int), .slice a N c] 24)
  have HOK := hidP (algebraOk_any p d a N c t _ (ht.below hx0) hnc hc2)
  rw [hb] at HOK
  have HAL := hidP (AlgAt.new w _ rfl p d a N c 24)
  have HX0 := hidP hx0
  have HT := hidP ht
  have HR := hidP hr
  have HN := hidP hN
  have HP := hidP hp
  have HCH := hidP hch
  clear hb hh hl hr hN hx0 ht hch hp
  go_enter Try.func46, Try.ntmps46
  go_wp2_with fail
  refine HOK.out.mono ?_
  rintro e w1 ⟨rfl, hx1⟩
  obtain ⟨f0, f1, f2⟩ := HAL.out.below hx1
  have HAL1 := hidP (HAL.out.below hx1)
  have HX1 := hidP (HX0.out.trans hx1)
  clear hx1 HOK HAL
  go_wp2_with fail
  refine (newLie_any _ _ _ _ _ _).mono ?_
  rintro e w2 ⟨rfl, hx2⟩
  have HX2 := hidP (HX1.out.trans hx2)
  have HAL2 := hidP (HAL1.out.below hx2)
  clear f0 f1 f2 hx2 HAL1
  obtain ⟨f0, f1, f2⟩ := HAL2.out.below (Ext.alloc w2 (.cells #[.int .i64 p, .int .i64 (d : Int), .slice a N c] 57))
  have hx3 := Ext.alloc w2 (.cells #[.int .i64 p, .int .i64 (d : Int), .slice a N c] 57)
  have HL3 := hidP (AlgAt.new w2 _ rfl p d a N c 57)
  have HX3 := hidP (HX2.out.trans hx3)
  have HUM := hidP (fun w' => unitMatrix_ok p d w' HP.out (by omega))
  clear hx3
  go_wp2_with fail
  obtain ⟨w3, hw3⟩ : ∃ w3, w3 = w2.alloc (.cells #[.int .i64 p, .int .i64 (d : Int), .slice a N c] 57) := ⟨_, rfl⟩
  rw [← hw3] at HL3 HX3 f0 f1 f2 ⊢
  clear hw3 f0 f1 f2
  refine (HUM.out _).mono ?_
  rintro e w4 ⟨a4, rfl, ho4, hx4⟩
  have HO4 := hidP (ho4.base (B' := w.heap.size) HX3.out.size)
  have HX4 := hidP (HX3.out.trans hx4)
  have HL4 := hidP (HL3.out.below hx4)
  clear ho4 hx4 HUM HL3
  have hdd : d * d ≤ 28 * 28 := Nat.mul_le_mul (by omega) (by omega)
  have HSR := hidP (series_any 76 #[.pointer (some ⟨w2.heap.size, 0, none⟩)] (derF p t d) p d w.heap.size m a4 (d * d) (d * d) (allL d) w4
    (by show OwnI _ _ _ _ _ (matRows d d (unitTo d d)).flatten; rw [matRows_flat (unitTo_length d d)]; exact HO4.out) HX4.out.size (by omega) (fun args w => by kernel_rfl)
    (fun i hi al ll cl w' hx' ho' => by
      obtain ⟨hRi, hLi⟩ := iter_ok p2 d (derF p t d) (fun R => prodL_ok (by omega) t d R R) i
      obtain ⟨hc1, hc2'⟩ := ho'.caps
      exact derivedStep_any p d (iterL (derF p t d) (allL d) i).length w2.heap.size a al N c ll cl t (iterL (derF p t d) (allL d) i) w' (HL4.out.below hx') (by omega) HN.out hnc hc2 (HT.out.below (HX4.out.trans hx'))
        ho'.ints rfl hRi hc1 hc2' HP.out HR.out (by omega) (by omega))
    HCH.out.ne HCH.out.eq)
  have HDL : Hid (((allL d).length : Int) = (d : Int)) := by show _ = _; unfold allL; rw [matRows_length]
  rw [HDL.out] at HSR
  go_wp2_with fail
  refine HSR.out.mono ?_
  rintro e w6 ⟨a6, c6, hs6, rfl, hk6, hx6⟩
  have HK6 := hidP hk6
  have HX6 := hidP (HX4.out.trans hx6)
  clear hk6 hx6 HSR
  go_wp2
  go_ret
  exact ⟨_, _, _, rfl, HK6.out, HX6.out⟩
/-- the class of an algebra whose lower series is a chain of m steps -/
def classOf (p : Int) (t : List Int) (d m : Nat) : Int := if (iterL (lowF p t d) (allL d) m).length = 0 then m else -1
set_option maxHeartbeats 1000000 in
theorem classOf_ok (p : Int) (d m : Nat) (a : Option Addr) (N c : Nat) (t : List Int) (w : World) (ht : IntsAt w a N t) (hnc : N ≤ c) (hc2 : c ≤ 1000000000000) (hb : algB p d t = true) (hm : m ≤ 1000) (hch : Chain (lowF p t d) (allL d) m) :
    Calls Try.prog 15 #[algV p d a N c] w fun e w' => e = .returned (.int .i64 (classOf p t d m)) ∧ Ext w w' := by
  have hx0 := Ext.alloc w (.cells #[.int .i64 p, .int .i64 (d : Int), .slice a N c] 24)
  have HS := hidP (lowerSeries_ok p d m a N c t _ (ht.below hx0) hnc hc2 hb hm hch)
  have HX0 := hidP hx0
  clear hx0 ht hch
  go_enter Try.func15, Try.ntmps15
  go_wp2_with fail
  refine HS.out.mono ?_
  rintro e w1 ⟨a1, c1, hs, rfl, hk, hx1⟩
  have HX1 := hidP (HX0.out.trans hx1)
  obtain ⟨g, rfl, q1, _⟩ := hk.cell m 1 (by omega) (by decide)
  rw [serL_get p d (lowF p t d) (allL d) m m (Nat.le_refl _)] at q1
  have q1 : w1.cell? ⟨g, m * 4 + 1, none⟩ = some (.int .i64 ((iterL (lowF p t d) (allL d) m).length : Int)) := q1
  have HC : Hid (classOf p t d m = if (iterL (lowF p t d) (allL d) m).length = 0 then (m : Int) else -1) := rfl
  generalize (iterL (lowF p t d) (allL d) m).length = l at *
  have hz : (((m : Int) + 1) == 0) = false := by simp; omega
  clear hk hx1 HS
  by_cases hl : l = 0
  · have hlb : ((l : Int) != 0) = false := by simp [hl]
    have HC2 := hidP (HC.out.trans (if_pos hl))
    clear hl
    go_wp2
    go_ret
    exact ⟨ret_int HC2.out.symm, HX1.out⟩
  · have hlb : ((l : Int) != 0) = true := bne_iff_ne.2 (by omega)
    have HC2 := hidP (HC.out.trans (if_neg hl))
    clear hl
    go_wp2
    go_ret
    exact ⟨ret_int HC2.out.symm, HX1.out⟩
set_option maxHeartbeats 1000000 in
theorem isSolvable_ok (p : Int) (d m : Nat) (a : Option Addr) (N c : Nat) (t : List Int) (w : World) (ht : IntsAt w a N t) (hnc : N ≤ c) (hc2 : c ≤ 1000000000000) (hb : algB p d t = true) (hm : m ≤ 1000) (hch : Chain (derF p t d) (allL d) m) :
    Calls Try.prog 16 #[algV p d a N c] w fun e w' => e = .returned (.bool (decide ((iterL (derF p t d) (allL d) m).length = 0))) ∧ Ext w w' := by
  have hx0 := Ext.alloc w (.cells #[.int .i64 p, .int .i64 (d : Int), .slice a N c] 24)
  have HS := hidP (derivedSeries_ok p d m a N c t _ (ht.below hx0) hnc hc2 hb hm hch)
  have HX0 := hidP hx0
  clear hx0 ht hch
  go_enter Try.func16, Try.ntmps16
  go_wp2_with fail
  refine HS.out.mono ?_
  rintro e w1 ⟨a1, c1, hs, rfl, hk, hx1⟩
  have HX1 := hidP (HX0.out.trans hx1)
  obtain ⟨g, rfl, q1, _⟩ := hk.cell m 1 (by omega) (by decide)
  rw [serL_get p d (derF p t d) (allL d) m m (Nat.le_refl _)] at q1
  have q1 : w1.cell? ⟨g, m * 4 + 1, none⟩ = some (.int .i64 ((iterL (derF p t d) (allL d) m).length : Int)) := q1
  have HC : Hid (decide ((iterL (derF p t d) (allL d) m).length = 0) = decide ((iterL (derF p t d) (allL d) m).length = 0)) := rfl
  generalize hl : (iterL (derF p t d) (allL d) m).length = l at *
  have HL := hidP hl
  clear hk hx1 HS hl HC
  go_wp2
  go_ret
  rw [HL.out]
  refine ⟨?_, HX1.out⟩
  have hbe : ((l : Int) == 0) = decide (l = 0) := by rw [Bool.eq_iff_iff, beq_iff_eq, decide_eq_true_eq]; omega
  simp [hbe]
end Go.Proofs.Ythbdcclglopkiaa
