/-
  The law's own copies of algebras and of slices of a word and a number each.
  The law's own small functions on slices of a word and a number each.
  The reference's l11Ok and EnvOk. Printed by gen/trm2.py.
  The reference's check of an algebra answers as the program's: spec.AlgebraOk. Printed by gen5.py.
  The reference's law of Jacobi and its check of an algebra: l2Jacobi, spec.AlgebraOk.
  The reference's bracket of two elements: l2Bracket.
  The reference's sums and brackets: l2Plus, l2Bracket.
  The reference's small functions on lists: l1Residues, l1IsZero, l2Get, l2Row, l2Basis, l2Plus.
  What a valid algebra is, as the program asks it.
  The type lie: newLie, pair, right.
  Terms: slices of a word and a number each, in order; the reference's checks l11Word and l11Ok.
  Words: comparing lists of integers, by the library, the program and the reference.
-/
import Derived.Test.YtenlhfimdpcaoaaMb1
namespace Go.Proofs.Ytenlhfimdpcaoaa
open Go.RowKit

end Go.Proofs.Ytenlhfimdpcaoaa

namespace Go.Proofs.Ytenlhfimdpcaoaa
open Go.RowKit

end Go.Proofs.Ytenlhfimdpcaoaa

namespace Go.Proofs.Ytenlhfimdpcaoaa
open Go.RowKit

theorem newLie_any (p d : Int) (a : Option Addr) (n c : Nat) (w : World) :
    Calls Try.prog 63 #[algV p d a n c] w fun e w' => e = .returned (algV p d a n c) ∧ Ext w w' := by
  go_enter Try.func63, Try.ntmps63
  go_wp2
  exact bodyPost_ret (v := algV p d a n c) (by simp [results, Try.results63, go_sem]) rfl ⟨rfl, (Ext.alloc w _).trans (Ext.alloc _ _)⟩

set_option maxHeartbeats 1000000 in
theorem pair_any (p : Int) (d i j : Nat) (b o N c : Nat) (w : World) (hd : d ≤ 28) (hi : i < d) (hj : j < d) (hN : d * d * d ≤ N) (hc : N ≤ c) (hc2 : c ≤ 1000000000000) :
    Calls Try.prog 65 #[algV p d (some ⟨b, o, none⟩) N c, .int .i64 i, .int .i64 j] w fun e w' => e = .returned (.slice (some ⟨b, o + (i * d + j) * d, none⟩) d (c - (i * d + j) * d)) ∧ Ext w w' := by
  have hx := nidx_lt hi hj
  have h1 : i * d ≤ 28 * 28 := Nat.mul_le_mul (by omega) hd
  have h2 : (i * d + j) * d ≤ 900 * 28 := Nat.mul_le_mul (by omega) hd
  have e2 : 0 ≤ (i : Int) * d := Int.mul_nonneg (by omega) (by omega)
  have e3 : (i : Int) * d ≤ 784 := by
    have : ((i * d : Nat) : Int) ≤ 784 := by omega
    rwa [Int.natCast_mul] at this
  obtain ⟨t, ht⟩ : ∃ t, (i * d + j) * d = t := ⟨_, rfl⟩
  have e4 : ((i : Int) * d + j) * d = (t : Int) := by rw [← ht]; simp
  rw [ht] at hx h2 ⊢
  have hlt : t < c := by omega
  have ht2 : t + d ≤ c := by omega
  have hct : ¬ c = t := by omega
  clear ht h1 hx hN
  go_enter Try.func65, Try.ntmps65
  go_wp2
  go_ret
  exact ⟨congrArg (fun z => Ending.returned (Value.slice (some ⟨b, o + t, none⟩) z (c - t))) (Nat.add_sub_cancel_left t d), Ext.alloc _ _⟩

set_option maxRecDepth 100000 in
set_option maxHeartbeats 2000000 in
theorem right_any (p : Int) (d j : Nat) (b o N c : Nat) (t : List Int) (au : Option Addr) (cu : Nat) (u : List Int) (w : World) (hd : d ≤ 28) (hj : j < d) (hN : N = d * d * d) (hc : N ≤ c) (hc2 : c ≤ 1000000000000)
    (ht : IntsAt w (some ⟨b, o, none⟩) N t) (hu : IntsAt w au d u) (hp : 1 ≤ p) (hp2 : p ≤ 10007) (hrt : Res p t) (hru : Res p u) :
    Calls Try.prog 68 #[algV p d (some ⟨b, o, none⟩) N c, .slice au d cu, .int .i64 j] w fun e w' => ∃ a, e = .returned (.slice a d d) ∧ OwnI w' w.heap.size a d d (rightL p t d u j) ∧ Ext w w' := by
  have HM := hidP (OwnI.made (w.alloc (.cells #[.int .i64 p, .int .i64 (d : Int), .slice (some ⟨b, o, none⟩) N c] 91)) (w.heap.size + 1) d (by simp) (by unfold maxLen; omega))
  have hmk := make_ints (d : Int) (by omega) (by omega)
  simp only [Int.toNat_natCast] at hmk
  have HT := hidP ht
  have HU := hidP hu
  have HRT := hidP hrt
  have HRU := hidP hru
  have LU := hidP hu.len
  have HAL := hidP (AlgAt.new w _ rfl p d (some ⟨b, o, none⟩) N c 91)
  have HX1 := hidP (Ext.alloc w (.cells #[.int .i64 p, .int .i64 (d : Int), .slice (some ⟨b, o, none⟩) N c] 91))
  have LT := hidP (ht.len.trans hN)
  have HN := hidP hN
  have hwb : b < w.heap.size := ht.block_lt (by rw [hN]; exact Nat.mul_pos (Nat.mul_pos (by omega) (by omega)) (by omega))
  clear ht hu hrt hru hN
  go_enter Try.func68, Try.ntmps68
  go_wp2
  obtain ⟨w0, hw0⟩ : ∃ w0, w0 = w.alloc (.cells #[.int .i64 p, .int .i64 (d : Int), .slice (some ⟨b, o, none⟩) N c] 91) := ⟨_, rfl⟩
  rw [← hw0] at HM HAL HX1 ⊢
  have hsz : w0.heap.size = w.heap.size + 1 := by rw [hw0]; simp
  obtain ⟨w1, hw1⟩ : ∃ w1, w1 = w0.alloc (.cells (Array.replicate d (.int .i64 0)) 3) := ⟨_, rfl⟩
  rw [← hw1] at HM ⊢
  rw [hsz] at HM
  have hx01 : Ext w0 w1 := by rw [hw1]; exact Ext.alloc _ _
  have HX01 := hidP hx01
  have HAL1 := hidP (HAL.out.below hx01)
  have hst := UpdI.start HM.out.ints
  rw [← rightTo_zero p t d u j] at hst
  have HST := hidP hst
  have hsz1 : w.heap.size + 1 < w1.heap.size := by rw [hw1]; simp; omega
  clear hw0 hw1 hx01 hst hmk hsz
  go_loopw [15] (fun i wr => ∃ k : Nat, k ≤ d ∧ Hid (UpdI w1 wr (some ⟨w.heap.size + 1, 0, none⟩) d (rightTo p t d u j k)) ∧ i = .int .i64 k) (fun i _ => d - (intOf i).toNat)
  case atStart => exact ⟨0, Nat.zero_le _, HST, rfl⟩
  case round =>
    obtain ⟨k, hk, HUP, rfl⟩ := hrel
    by_cases hlt : k < d
    · have hOr := HUP.out.own HM.out
      have hALr := HAL1.out.upd HUP.out (fun b' o' e => by cases e; omega)
      have hbw : Below (w.heap.size + 1) w1 wr := HUP.out.below (Below.refl _ _) (by omega) (fun b' o' e _ => by cases e; omega)
      have hx : Ext w wr := Below.trans (HX1.out.trans HX01.out) (hbw.mono (by omega))
      obtain ⟨bu, ou, rfl, q⟩ := (HU.out.below hx).get k hlt
      by_cases hz : u.getD k 0 = 0
      · have hb : (u[k]?.getD 0 != 0) = false := by simpa [List.getD_eq_getElem?_getD] using hz
        have HS := hidP (rightTo_skip p t d u j k hz)
        clear hz hOr hALr hbw hx
        go_wp2
        go_roundw
        case rel => exact ⟨k + 1, by omega, (by rw [HS.out]; exact HUP.out), by go_num⟩
        case measure => simp [intOf]; omega
      · have hb : (u[k]?.getD 0 != 0) = true := by simpa [List.getD_eq_getElem?_getD] using hz
        have HS := hidP (rightTo_succ p t d u j k)
        have hru := HRU.out k (by have := LU.out; omega)
        clear hz
        have HPR := hidP (fun w' => pair_any p d k j b o N c w' hd hlt hj (by have := HN.out; omega) hc hc2)
        have HE := hidP hx
        have HO := hidP hOr
        have HF := hidP (fun w' (hx' : Ext wr w') => (⟨(hALr.below hx').c0, (hALr.below hx').c1, (hALr.below hx').c2⟩ : _ ∧ _ ∧ _))
        clear hOr hALr hbw hx
        have HA := hidP (fun w' (hx' : Ext wr w') => addTo_any (some ⟨w.heap.size + 1, 0, none⟩) (some ⟨b, o + (k * d + j) * d, none⟩) d d (c - (k * d + j) * d) (rightTo p t d u j k) (pairL t d k j) (u.getD k 0) p w' (HO.out.below hx').ints
          ((HT.out.below (HE.out.trans hx')).part ((k * d + j) * d) d (by have := HN.out; have := nidx_lt hlt hj; omega)) (HO.out.below hx').unfrozen (fun b1 o1 b2 o2 e1 e2 => by cases e1; cases e2; omega) (by omega)
          ((rightTo_res (by omega) t d u j k).bd (rightTo_length _ _ _ _ _ _) hp2) ((pairL_res HRT.out d k j).bd (pairL_length LT.out hlt hj) hp2) hru.1 (by omega) hp (by omega))
        rw [← HS.out] at HA
        have hE : Ext wr wr.drew := Ext.drew wr
        go_wp2
        (refine walkR_start (fun w' => Ext wr w') 8 (by kernel_rfl) ?_; simp only [numbered, List.take_succ_cons, List.take_zero, Nat.zero_add, Nat.reduceAdd, List.length_cons, List.length_nil])
        repeat (refine walkR_still (v := ?_) rfl (by decide +kernel) rfl (fun _ _ _ h => h) hE ?_ ?_; rotate_left; (focus (intro w' hw'; obtain ⟨f0, f1, f2⟩ := HF.out w' hw'; go_simp; all_goals (with_reducible rfl))); simp only [Act.put, List.setIfInBounds_toArray, List.set_cons_zero, List.set_cons_succ])
        (refine walkR_later ?_; simp only [List.cons_append, List.nil_append])
        repeat (refine walkR_still (v := ?_) rfl (by decide +kernel) rfl (fun _ _ _ h => h) hE ?_ ?_; rotate_left; (focus (intro w' hw'; obtain ⟨f0, f1, f2⟩ := HF.out w' hw'; go_simp; all_goals (with_reducible rfl))); simp only [Act.put, List.setIfInBounds_toArray, List.set_cons_zero, List.set_cons_succ])
        (refine walkR_only (fun w' => Ext wr w') rfl (by decide +kernel) rfl ?_ ?_)
        · exact fun _ h => h
        intro K hK
        go_simp
        refine (HPR.out _).mono ?_
        rintro e w2 ⟨rfl, hx2⟩
        have HX2 := hidP ((Ext.drew wr).trans hx2)
        refine hK _ _ HX2.out ?_
        clear hK K hx2
        (try simp only [Act.put, List.setIfInBounds_toArray, List.set_cons_zero, List.set_cons_succ])
        (refine walkR_tail (by rfl) (by kernel_rfl) ?_; simp only [List.drop_succ_cons, List.drop_zero])
        go_wp2_with (go_at_call 66; refine (HA.out _ HX2.out).mono ?_; rintro e w3 ⟨rfl, hu3⟩)
        go_roundw
        case rel => exact ⟨k + 1, by omega, HUP.out.trans (HX2.out.upd HO.out.ints hu3), by go_num⟩
        case measure => simp [intOf]; omega
    · have hu := HUP.out
      obtain rfl : k = d := by omega
      rw [show rightTo p t k u j k = rightL p t k u j by unfold rightTo rightL; rw [LU.out]] at hu
      have ho := hidP ((hu.own HM.out).base (B' := w.heap.size) (by omega))
      have hbw : Below (w.heap.size + 1) w1 wr := hu.below (Below.refl _ _) (by omega) (fun b' o' e _ => by cases e; omega)
      have hx := hidP (Below.trans (HX1.out.trans HX01.out) (hbw.mono (Nat.le_succ _)))
      clear hu hbw
      go_wp2
      go_ret
      exact ⟨_, rfl, ho.out, hx.out⟩
end Go.Proofs.Ytenlhfimdpcaoaa

namespace Go.Proofs.Ytenlhfimdpcaoaa
open Go.RowKit

def skewB (p : Int) (t : List Int) (d i j : Nat) : Bool := zeroB (addL p (pairL t d i j) 1 (pairL t d j i)) && (decide (i ≠ j) || zeroB (pairL t d i i))
def jacL (p : Int) (t : List Int) (d i j k : Nat) : List Int := addL p (addL p (rightL p t d (pairL t d i j) k) 1 (rightL p t d (pairL t d j k) i)) 1 (rightL p t d (pairL t d k i) j)
def jacB (p : Int) (t : List Int) (d i j k : Nat) : Bool := zeroB (jacL p t d i j k)
/-- the part of validity that is asked ahead of the brackets -/
def headB (p d : Int) (t : List Int) : Bool := primeB p && insB d 0 28 && decide ((t.length : Int) = d * d * d) && resB p t
def AlgP (p d : Int) (t : List Int) : Prop := headB p d t = true ∧ (∀ i, i < d.toNat → ∀ j, j < i + 1 → skewB p t d.toNat i j = true) ∧
  ∀ i, i < d.toNat → ∀ j, j < d.toNat → ∀ k, k < d.toNat → i < j → j < k → jacB p t d.toNat i j k = true
instance (p d : Int) (t : List Int) : Decidable (AlgP p d t) := by unfold AlgP; infer_instance
def algB (p d : Int) (t : List Int) : Bool := decide (AlgP p d t)
theorem algB_true {p d : Int} {t : List Int} : algB p d t = true ↔ AlgP p d t := by simp [algB]
theorem algB_false {p d : Int} {t : List Int} : algB p d t = false ↔ ¬ AlgP p d t := by simp [algB]
theorem headB_true {p d : Int} {t : List Int} (h : headB p d t = true) : primeB p = true ∧ 0 ≤ d ∧ d ≤ 28 ∧ (t.length : Int) = d * d * d ∧ Res p t := by
  simp only [headB, Bool.and_eq_true, decide_eq_true_eq] at h
  obtain ⟨⟨⟨h1, h2⟩, h3⟩, h4⟩ := h
  exact ⟨h1, (insB_true.1 h2).1, (insB_true.1 h2).2, h3, resB_true.1 h4⟩

set_option maxRecDepth 100000 in
set_option maxHeartbeats 4000000 in
theorem algebraOk_good (p : Int) (d : Nat) (a : Option Addr) (N c : Nat) (t : List Int) (w : World) (ht : IntsAt w a N t) (hnc : N ≤ c) (hc2 : c ≤ 1000000000000) (hh : headB p d t = true) :
    Calls Try.prog 15 #[algV p d a N c] w fun e w' => e = .returned (.bool (algB p d t)) ∧ Ext w w' := by
  obtain ⟨hp, hd0, hd, hl, hr⟩ := headB_true hh
  obtain ⟨p2, p7⟩ := prime_bounds hp
  have hi : insB d 0 28 = true := insB_true.2 ⟨hd0, hd⟩
  obtain ⟨k1, k2, k3, k4⟩ := cube_le hd0 hd
  have hlN := ht.len
  have hN : N = d * d * d := by
    have : ((t.length : Nat) : Int) = ((d * d * d : Nat) : Int) := by rw [hl]; simp
    omega
  have hNi : ((N : Int) != (d : Int) * d * d) = false := by rw [← hlN, hl]; simp
  have hrb : resB p t = true := resB_true.2 hr
  have HRS := hidP (fun w' (hx : Ext w w') => residues_any a N c t p w' (ht.below hx) (by omega) (by omega) (by omega))
  have HT := hidP ht
  have HR := hidP hr
  have HH := hidP hh
  have HN := hidP hN
  have LT := hidP (hlN.trans hN)
  clear ht hr hh hl hlN hN
  go_enter Try.func15, Try.ntmps15
  go_wp2_with (first | (go_at_call 55; refine (isPrime_any _ _).mono ?_; rintro e w' ⟨rfl, rfl⟩) | (go_at_call 56; refine (inside_any _ _ _ _).mono ?_; rintro e w' ⟨rfl, rfl⟩) | (go_at_call 62; refine (HRS.out _ (Ext.alloc w _)).mono ?_; rintro e w1 ⟨rfl, hx1⟩; obtain ⟨r0, r1, r2, _, _, _, hs01, hx01⟩ := resAlg hx1) | (go_at_call 63; refine (newLie_any _ _ _ _ _ _).mono ?_; rintro e w2 ⟨rfl, hx2⟩; have g0 := (hx2.cell (p := ⟨w.heap.size, 0, none⟩) hs01).trans r0; have g1 := (hx2.cell (p := ⟨w.heap.size, 1, none⟩) hs01).trans r1; have g2 := (hx2.cell (p := ⟨w.heap.size, 2, none⟩) hs01).trans r2; have hs02 := Nat.lt_of_lt_of_le hs01 hx2.size; clear r0 r1 r2))
  obtain ⟨w3, hw3⟩ : ∃ w3, w3 = w2.alloc (.cells #[.int .i64 p, .int .i64 (d : Int), .slice a N c] 91) := ⟨_, rfl⟩
  rw [← hw3]
  have hx3 : Ext w2 w3 := by rw [hw3]; exact Ext.alloc _ _
  have ha1 := (⟨g0, g1, g2⟩ : AlgAt w2 w.heap.size p d a N c).below hx3
  have ha3 : AlgAt w3 w2.heap.size p d a N c := by rw [hw3]; exact AlgAt.new w2 _ rfl _ _ _ _ _ _
  have HX := hidP ((hx01.trans hx2).trans hx3)
  have HF := hidP (fun w' (hx : Ext w3 w') => (⟨(ha1.below hx).c0, (ha1.below hx).c1, (ha3.below hx).c0, (ha3.below hx).c1, (ha3.below hx).c2⟩ : _ ∧ _ ∧ _ ∧ _ ∧ _))
  clear hw3 hx3 ha1 ha3 g0 g1 g2 hx01 hx2 hx1 hs01 HRS hNi hi hrb hp
  go_loopw [47] (fun v wr => ∃ i : Nat, i ≤ d ∧ Hid (∀ i', i' < i → ∀ j, j < i' + 1 → skewB p t d i' j = true) ∧ Hid (Ext w3 wr) ∧ v = .int .i64 i) (fun v _ => d - (intOf v).toNat)
  case atStart => exact ⟨0, Nat.zero_le _, fun i' h => by omega, Ext.refl _, rfl⟩
  case round =>
    obtain ⟨i, hi', HS, HXr, rfl⟩ := hrel
    by_cases hlt : i < d
    · obtain ⟨b, o, rfl, _⟩ := HT.out.get 0 (by rw [HN.out]; exact Nat.mul_pos (Nat.mul_pos (by omega) (by omega)) (by omega))
      obtain ⟨wo, rfl⟩ : ∃ wo : World, wo = wr := ⟨_, rfl⟩
      go_wp2
      go_loopw [52] (fun v wr => ∃ j : Nat, j ≤ i + 1 ∧ Hid (∀ j', j' < j → skewB p t d i j' = true) ∧ Hid (Ext w3 wr) ∧ v = .int .i64 j) (fun v _ => i + 1 - (intOf v).toNat)
      case atStart => exact ⟨0, Nat.zero_le _, fun i' h => by omega, HXr, rfl⟩
      case round =>
        obtain ⟨j, hj', HJ, HXi, rfl⟩ := hrel
        by_cases hjl : j < i + 1
        · have HPR := hidP (fun i j hi hj w' => pair_any p d i j b o N c w' (by omega) hi hj (by rw [HN.out]; exact Nat.le_refl _) hnc hc2)
          obtain ⟨f0, f1, f2, f3, f4⟩ := HF.out wr HXi.out
          go_wp2_with fail
          refine (HPR.out i j hlt (by omega) _).mono ?_
          rintro e w4 ⟨rfl, hx4⟩
          have HX4 := hidP (HXi.out.trans hx4)
          have HI4 := hidP (((HT.out.below HX.out).below HX4.out).part ((i * d + j) * d) d (by have := HN.out; have := nidx_lt hlt (show j < d by omega); omega))
          clear f0 f1 f2 f3 f4 hx4
          go_wp2_with fail
          refine (clone_any _ _ _ _ _ HI4.out (fun e => by cases e) (by omega)).mono ?_
          rintro e w5 ⟨aS, cS, rfl, ho5, hx5⟩
          have HO5 := hidP ho5
          have HX5 := hidP (HX4.out.trans hx5)
          clear ho5 hx5
          have hE : Ext w5 w5.drew := Ext.drew w5
          have HA := hidP (fun w' (hx' : Ext w5 w') => addTo_any aS (some ⟨b, o + (j * d + i) * d, none⟩) d cS (c - (j * d + i) * d) (pairL t d i j) (pairL t d j i) 1 p w' (HO5.out.below hx').ints
            ((HT.out.below ((HX.out.trans HX5.out).trans hx')).part ((j * d + i) * d) d (by have := HN.out; have := nidx_lt (show j < d by omega) hlt; omega)) (HO5.out.below hx').unfrozen
            (fun b1 o1 b2 o2 e1 e2 => by have := (HO5.out.at_base b1 o1 e1).1; cases e2; have := (HT.out.below (HX.out.trans HX4.out)).block_lt (by rw [HN.out]; exact Nat.mul_pos (Nat.mul_pos (by omega) (by omega)) (by omega)); omega) (by omega)
            ((pairL_res HR.out d i j).bd (pairL_length LT.out hlt (by omega)) p7) ((pairL_res HR.out d j i).bd (pairL_length LT.out (by omega) hlt) p7) (by omega) (by omega) (by omega) (by omega))
          go_wp2
          (refine walkR_start (fun w' => Ext w5 w') 7 (by kernel_rfl) ?_; simp only [numbered, List.take_succ_cons, List.take_zero, Nat.zero_add, Nat.reduceAdd, List.length_cons, List.length_nil])
          repeat (refine walkR_still (v := ?_) rfl (by decide +kernel) rfl (fun _ _ _ h => h) hE ?_ ?_; rotate_left; (focus (intro w' hw'; obtain ⟨f0, f1, f2, f3, f4⟩ := HF.out w' (HX5.out.trans hw'); go_simp; all_goals (with_reducible rfl))); simp only [Act.put, List.setIfInBounds_toArray, List.set_cons_zero, List.set_cons_succ])
          (refine walkR_later ?_; simp only [List.cons_append, List.nil_append])
          repeat (refine walkR_still (v := ?_) rfl (by decide +kernel) rfl (fun _ _ _ h => h) hE ?_ ?_; rotate_left; (focus (intro w' hw'; obtain ⟨f0, f1, f2, f3, f4⟩ := HF.out w' (HX5.out.trans hw'); go_simp; all_goals (with_reducible rfl))); simp only [Act.put, List.setIfInBounds_toArray, List.set_cons_zero, List.set_cons_succ])
          (refine walkR_only (fun w' => Ext w5 w') rfl (by decide +kernel) rfl ?_ ?_)
          · exact fun _ h => h
          intro K hK
          go_simp
          refine (HPR.out j i (by omega) hlt _).mono ?_
          rintro e w6 ⟨rfl, hx6⟩
          have HX6 := hidP ((Ext.drew w5).trans hx6)
          refine hK _ _ HX6.out ?_
          clear hK K hx6
          (try simp only [Act.put, List.setIfInBounds_toArray, List.set_cons_zero, List.set_cons_succ])
          (refine walkR_tail (by rfl) (by kernel_rfl) ?_; simp only [List.drop_succ_cons, List.drop_zero])
          go_wp2_with fail
          refine (HA.out _ HX6.out).mono ?_
          rintro e w7 ⟨rfl, hu7⟩
          have ho7 := hu7.own (HO5.out.below HX6.out)
          have hx7 : Ext w3 w7 := hu7.below (HX5.out.trans HX6.out) (HX5.out.trans HX6.out).size (fun b1 o1 e1 _ => by have := (HO5.out.at_base b1 o1 e1).1; have := HX4.out.size; omega)
          have HX7 := hidP hx7
          have HZ := hidP (fun w' (hx' : Ext w7 w') => isZero_any aS d cS _ w' (ho7.below hx').ints (by omega))
          have HP7 := hidP (fun w' (hx' : Ext w7 w') => ((HT.out.below ((HX.out.trans hx7).trans hx')).part ((i * d + i) * d) d (by have := HN.out; have := nidx_lt hlt hlt; omega)))
          have HSK : Hid (skewB p t d i j = (zeroB (addL p (pairL t d i j) 1 (pairL t d j i)) && (decide (i ≠ j) || zeroB (pairL t d i i)))) := rfl
          obtain ⟨f0, f1, f2, f3, f4⟩ := HF.out w7 hx7
          generalize addL p (pairL t d i j) 1 (pairL t d j i) = S at *
          clear hu7 ho7 hx7
          cases hz : zeroB S
          · have HB : Hid (algB p d t = false) := by
              show _ = _
              rw [algB_false]
              intro h
              have := h.2.1 i (by simpa using hlt) j hjl
              simp only [Int.toNat_natCast] at this
              rw [HSK.out, hz] at this
              cases this
            go_wp2_with fail
            refine (HZ.out _ (Ext.refl _)).mono ?_
            rintro e w8 ⟨rfl, rfl⟩
            go_wp2
            go_ret
            exact ⟨ret_bool HB.out.symm, HX.out.trans HX7.out⟩
          · go_wp2_with fail
            refine (HZ.out _ (Ext.refl _)).mono ?_
            rintro e w8 ⟨rfl, rfl⟩
            by_cases hij : i = j
            · subst hij
              have hd1 : ((i : Int) == i) = true := by simp
              cases hz2 : zeroB (pairL t d i i)
              · have HB : Hid (algB p d t = false) := by
                  show _ = _
                  rw [algB_false]
                  intro h
                  have := h.2.1 i (by simpa using hlt) i hjl
                  simp only [Int.toNat_natCast] at this
                  rw [HSK.out, hz, hz2] at this
                  simp at this
                go_wp2_with fail
                refine (HPR.out i i hlt hlt _).mono ?_
                rintro e w9 ⟨rfl, hx9⟩
                go_wp2_with fail
                refine (isZero_any _ _ _ _ _ (HP7.out _ hx9) (by omega)).mono ?_
                rintro e w10 ⟨rfl, rfl⟩
                have hz3 : zeroB (List.take d (List.drop ((i * d + i) * d) t)) = false := hz2
                have HX9 := hidP (HX7.out.trans hx9)
                clear hx9
                go_wp2
                go_ret
                exact ⟨ret_bool HB.out.symm, HX.out.trans HX9.out⟩
              · have HB : Hid (skewB p t d i i = true) := by
                  show _ = _
                  rw [HSK.out, hz, hz2]
                  simp
                go_wp2_with fail
                refine (HPR.out i i hlt hlt _).mono ?_
                rintro e w9 ⟨rfl, hx9⟩
                go_wp2_with fail
                refine (isZero_any _ _ _ _ _ (HP7.out _ hx9) (by omega)).mono ?_
                rintro e w10 ⟨rfl, rfl⟩
                have hz3 : zeroB (List.take d (List.drop ((i * d + i) * d) t)) = true := hz2
                have HX9 := hidP (HX7.out.trans hx9)
                clear hx9
                go_wp2
                go_roundw
                case rel =>
                  refine ⟨i + 1, by omega, fun j' hj' => ?_, HX9, by go_num⟩
                  rcases Nat.lt_succ_iff_lt_or_eq.1 hj' with h3 | rfl
                  · exact HJ.out j' h3
                  · exact HB.out
                case measure => simp [intOf]
            · have hd1 : ((i : Int) == j) = false := by simp; omega
              have HB : Hid (skewB p t d i j = true) := by
                show _ = _
                rw [HSK.out, hz]
                simp [hij]
              clear hij
              go_wp2
              go_roundw
              case rel =>
                refine ⟨j + 1, by omega, fun j' hj' => ?_, HX7, by go_num⟩
                rcases Nat.lt_succ_iff_lt_or_eq.1 hj' with h3 | rfl
                · exact HJ.out j' h3
                · exact HB.out
              case measure => simp [intOf]; omega
        · have hjl : j = i + 1 := by omega
          subst hjl
          go_wp2
          go_roundw
          case rel =>
            refine ⟨i + 1, by omega, fun i' hi' j hj => ?_, HXi, by go_num⟩
            rcases Nat.lt_succ_iff_lt_or_eq.1 hi' with h3 | rfl
            · exact HS.out i' h3 j hj
            · exact HJ.out j hj
          case measure => simp [intOf]; omega
    · have hid : d = i := by omega
      subst hid
      have H1 := HS
      clear HS
      obtain ⟨f0, f1, f2, f3, f4⟩ := HF.out wr HXr.out
      have HX1 := HXr
      clear HXr hi' hlt
      obtain ⟨wo, rfl⟩ : ∃ wo : World, wo = wr := ⟨_, rfl⟩
      go_wp2
      clear f0 f1 f2 f3 f4
      go_loopw [88] (fun v wr => ∃ i : Nat, i ≤ d ∧ Hid (∀ i', i' < i → ∀ j, j < d → ∀ k, k < d → i' < j → j < k → jacB p t d i' j k = true) ∧ Hid (Ext w3 wr) ∧ v = .int .i64 i) (fun v _ => d - (intOf v).toNat)
      case atStart => exact ⟨0, Nat.zero_le _, fun i' h => by omega, HX1, rfl⟩
      case round =>
        obtain ⟨i, hi', HI, HXr, rfl⟩ := hrel
        by_cases hlt : i < d
        · obtain ⟨wo', rfl⟩ : ∃ wo' : World, wo' = wr := ⟨_, rfl⟩
          go_wp2
          go_loopw [8] (fun v wr => ∃ j : Nat, j ≤ d ∧ i < j ∧ Hid (∀ j', j' < j → ∀ k, k < d → i < j' → j' < k → jacB p t d i j' k = true) ∧ Hid (Ext w3 wr) ∧ v = .int .i64 j) (fun v _ => d - (intOf v).toNat)
          case atStart => exact ⟨i + 1, by omega, by omega, fun j' h k hk h1 h2 => by omega, HXr, by go_num⟩
          case round =>
            obtain ⟨j, hj', hij, HJ, HXi, rfl⟩ := hrel
            obtain ⟨f0, f1, f2, f3, f4⟩ := HF.out wr HXi.out
            by_cases hjl : j < d
            · obtain ⟨wo', rfl⟩ : ∃ wo' : World, wo' = wr := ⟨_, rfl⟩
              go_wp2
              clear f0 f1 f2 f3 f4
              go_loopw [9] (fun v wr => ∃ k : Nat, k ≤ d ∧ j < k ∧ Hid (∀ k', k' < k → j < k' → jacB p t d i j k' = true) ∧ Hid (Ext w3 wr) ∧ v = .int .i64 k) (fun v _ => d - (intOf v).toNat)
              case atStart => exact ⟨j + 1, by omega, by omega, fun j' h h1 => by omega, HXi, by go_num⟩
              case round =>
                obtain ⟨k, hk', hjk, HK, HXk, rfl⟩ := hrel
                obtain ⟨f0, f1, f2, f3, f4⟩ := HF.out wr HXk.out
                by_cases hkl : k < d
                · obtain ⟨b, o, rfl, _⟩ := HT.out.get 0 (by rw [HN.out]; exact Nat.mul_pos (Nat.mul_pos (by omega) (by omega)) (by omega))
                  have HPR := hidP (fun i j hi hj w' => pair_any p d i j b o N c w' (by omega) hi hj (by rw [HN.out]; exact Nat.le_refl _) hnc hc2)
                  have HRI := hidP (fun (i j k : Nat) (hi : i < d) (hj : j < d) (hk : k < d) w' (hx : Ext w3 w') => right_any p d k b o N c t (some ⟨b, o + (i * d + j) * d, none⟩) (c - (i * d + j) * d) (pairL t d i j) w' (by omega) hk HN.out hnc hc2 (HT.out.below (HX.out.trans hx))
                    ((HT.out.below (HX.out.trans hx)).part ((i * d + j) * d) d (by have := HN.out; have := nidx_lt hi hj; omega)) (by omega) p7 HR.out (pairL_res HR.out d i j))
                  have hE : Ext wr wr.drew := Ext.drew wr
                  go_wp2
                  clear f0 f1 f2 f3 f4
                  (refine walkR_start (fun w' => Ext wr w') 6 (by kernel_rfl) ?_; simp only [numbered, List.take_succ_cons, List.take_zero, Nat.zero_add, Nat.reduceAdd, List.length_cons, List.length_nil])
                  repeat (refine walkR_still (v := ?_) rfl (by decide +kernel) rfl (fun _ _ _ h => h) hE ?_ ?_; rotate_left; (focus (intro w' hw'; obtain ⟨f0, f1, f2, f3, f4⟩ := HF.out w' (HXk.out.trans hw'); go_simp; all_goals (with_reducible rfl))); simp only [Act.put, List.setIfInBounds_toArray, List.set_cons_zero, List.set_cons_succ])
                  (refine walkR_later ?_; simp only [List.cons_append, List.nil_append])
                  repeat (refine walkR_still (v := ?_) rfl (by decide +kernel) rfl (fun _ _ _ h => h) hE ?_ ?_; rotate_left; (focus (intro w' hw'; obtain ⟨f0, f1, f2, f3, f4⟩ := HF.out w' (HXk.out.trans hw'); go_simp; all_goals (with_reducible rfl))); simp only [Act.put, List.setIfInBounds_toArray, List.set_cons_zero, List.set_cons_succ])
                  (refine walkR_only (fun w' => Ext wr w') rfl (by decide +kernel) rfl ?_ ?_)
                  · exact fun _ h => h
                  intro K hK
                  go_simp
                  refine (HPR.out i j hlt hjl _).mono ?_
                  rintro e w4 ⟨rfl, hx4⟩
                  have HX4 := hidP (HXk.out.trans ((Ext.drew wr).trans hx4))
                  refine hK _ _ ((Ext.drew wr).trans hx4) ?_
                  clear hK K hx4
                  (try simp only [Act.put, List.setIfInBounds_toArray, List.set_cons_zero, List.set_cons_succ])
                  (refine walkR_tail (by rfl) (by kernel_rfl) ?_; simp only [List.drop_succ_cons, List.drop_zero])
                  go_wp2_with (go_at_call 68; refine (HRI.out i j k hlt hjl hkl _ HX4.out).mono ?_; rintro e w5 ⟨aS, rfl, ho5, hx5⟩; have HO5 := hidP ho5; have HX5 := hidP (HX4.out.trans hx5); have HBS := hidP (fun b1 o1 e1 => Nat.le_trans HX4.out.size (ho5.at_base b1 o1 e1).1); clear ho5 hx5 hE)
                  have hE : Ext w5 w5.drew := Ext.drew w5
                  go_wp2
                  (refine walkR_start (fun w' => Ext w5 w') 10 (by kernel_rfl) ?_; simp only [numbered, List.take_succ_cons, List.take_zero, Nat.zero_add, Nat.reduceAdd, List.length_cons, List.length_nil])
                  repeat (refine walkR_still (v := ?_) rfl (by decide +kernel) rfl (fun _ _ _ h => h) hE ?_ ?_; rotate_left; (focus (intro w' hw'; obtain ⟨f0, f1, f2, f3, f4⟩ := HF.out w' (HX5.out.trans hw'); go_simp; all_goals (with_reducible rfl))); simp only [Act.put, List.setIfInBounds_toArray, List.set_cons_zero, List.set_cons_succ])
                  (refine walkR_later ?_; simp only [List.cons_append, List.nil_append])
                  repeat (refine walkR_still (v := ?_) rfl (by decide +kernel) rfl (fun _ _ _ h => h) hE ?_ ?_; rotate_left; (focus (intro w' hw'; obtain ⟨f0, f1, f2, f3, f4⟩ := HF.out w' (HX5.out.trans hw'); go_simp; all_goals (with_reducible rfl))); simp only [Act.put, List.setIfInBounds_toArray, List.set_cons_zero, List.set_cons_succ])
                  (refine walkR_later ?_; simp only [List.cons_append, List.nil_append])
                  repeat (refine walkR_still (v := ?_) rfl (by decide +kernel) rfl (fun _ _ _ h => h) hE ?_ ?_; rotate_left; (focus (intro w' hw'; obtain ⟨f0, f1, f2, f3, f4⟩ := HF.out w' (HX5.out.trans hw'); go_simp; all_goals (with_reducible rfl))); simp only [Act.put, List.setIfInBounds_toArray, List.set_cons_zero, List.set_cons_succ])
                  (refine walkR_only (fun w' => Ext w5 w') rfl (by decide +kernel) rfl ?_ ?_)
                  · exact fun _ h => h
                  intro K hK
                  go_simp
                  refine (HPR.out j k (by omega) (by omega) _).mono ?_
                  rintro e wa6 ⟨rfl, hxa6⟩
                  have HXA6 := hidP ((Ext.drew w5).trans hxa6)
                  refine hK _ _ HXA6.out ?_
                  clear hK K hxa6
                  (try simp only [Act.put, List.setIfInBounds_toArray, List.set_cons_zero, List.set_cons_succ])
                  (refine walkR_only (fun w' => Ext w5 w') rfl (by decide +kernel) rfl ?_ ?_)
                  · exact fun _ h => h
                  intro K hK
                  go_simp
                  refine (HRI.out j k i (by omega) (by omega) (by omega) _ (HX5.out.trans HXA6.out)).mono ?_
                  rintro e wb6 ⟨aR6, rfl, hor6, hxb6⟩
                  have HXB6 := hidP (HXA6.out.trans hxb6)
                  refine hK _ _ HXB6.out ?_
                  clear hK K
                  have HO6 := hidP (HO5.out.below HXB6.out)
                  have HA := hidP (addTo_any aS aR6 d d d (rightL p t d (pairL t d i j) k) (rightL p t d (pairL t d j k) i) 1 p wb6 HO6.out.ints hor6.ints HO6.out.unfrozen
                    (fun b1 o1 b2 o2 e1 e2 => by have h1 := (HO5.out.at_base b1 o1 e1).2; have h2 := (hor6.at_base b2 o2 e2).1; have := HXA6.out.size; omega) (by omega)
                    ((rightL_res (by omega) t d (pairL t d i j) k).bd (by first | exact rightL_length _ _ _ _ _ | (rw [addL_length]; exact rightL_length _ _ _ _ _)) p7) ((rightL_res (by omega) t d (pairL t d j k) i).bd (rightL_length _ _ _ _ _) p7) (by omega) (by omega) (by omega) (by omega))
                  clear hor6 hxb6
                  (try simp only [Act.put, List.setIfInBounds_toArray, List.set_cons_zero, List.set_cons_succ])
                  (refine walkR_tail (by rfl) (by kernel_rfl) ?_; simp only [List.drop_succ_cons, List.drop_zero])
                  go_wp2_with fail
                  refine HA.out.mono ?_
                  rintro e wc6 ⟨rfl, hu6⟩
                  have HP6 := hidP (hu6.own HO6.out)
                  have HX6 : Hid (Ext w3 wc6) := hu6.below (HX5.out.trans HXB6.out) (HX5.out.trans HXB6.out).size (fun b1 o1 e1 _ => (HBS.out b1 o1 e1))
                  clear hu6 hE HA
                  have hE : Ext wc6 wc6.drew := Ext.drew wc6
                  go_wp2
                  (refine walkR_start (fun w' => Ext wc6 w') 10 (by kernel_rfl) ?_; simp only [numbered, List.take_succ_cons, List.take_zero, Nat.zero_add, Nat.reduceAdd, List.length_cons, List.length_nil])
                  repeat (refine walkR_still (v := ?_) rfl (by decide +kernel) rfl (fun _ _ _ h => h) hE ?_ ?_; rotate_left; (focus (intro w' hw'; obtain ⟨f0, f1, f2, f3, f4⟩ := HF.out w' (HX6.out.trans hw'); go_simp; all_goals (with_reducible rfl))); simp only [Act.put, List.setIfInBounds_toArray, List.set_cons_zero, List.set_cons_succ])
                  (refine walkR_later ?_; simp only [List.cons_append, List.nil_append])
                  repeat (refine walkR_still (v := ?_) rfl (by decide +kernel) rfl (fun _ _ _ h => h) hE ?_ ?_; rotate_left; (focus (intro w' hw'; obtain ⟨f0, f1, f2, f3, f4⟩ := HF.out w' (HX6.out.trans hw'); go_simp; all_goals (with_reducible rfl))); simp only [Act.put, List.setIfInBounds_toArray, List.set_cons_zero, List.set_cons_succ])
                  (refine walkR_later ?_; simp only [List.cons_append, List.nil_append])
                  repeat (refine walkR_still (v := ?_) rfl (by decide +kernel) rfl (fun _ _ _ h => h) hE ?_ ?_; rotate_left; (focus (intro w' hw'; obtain ⟨f0, f1, f2, f3, f4⟩ := HF.out w' (HX6.out.trans hw'); go_simp; all_goals (with_reducible rfl))); simp only [Act.put, List.setIfInBounds_toArray, List.set_cons_zero, List.set_cons_succ])
                  (refine walkR_only (fun w' => Ext wc6 w') rfl (by decide +kernel) rfl ?_ ?_)
                  · exact fun _ h => h
                  intro K hK
                  go_simp
                  refine (HPR.out k i (by omega) (by omega) _).mono ?_
                  rintro e wa7 ⟨rfl, hxa7⟩
                  have HXA7 := hidP ((Ext.drew wc6).trans hxa7)
                  refine hK _ _ HXA7.out ?_
                  clear hK K hxa7
                  (try simp only [Act.put, List.setIfInBounds_toArray, List.set_cons_zero, List.set_cons_succ])
                  (refine walkR_only (fun w' => Ext wc6 w') rfl (by decide +kernel) rfl ?_ ?_)
                  · exact fun _ h => h
                  intro K hK
                  go_simp
                  refine (HRI.out k i j (by omega) (by omega) (by omega) _ (HX6.out.trans HXA7.out)).mono ?_
                  rintro e wb7 ⟨aR7, rfl, hor7, hxb7⟩
                  have HXB7 := hidP (HXA7.out.trans hxb7)
                  refine hK _ _ HXB7.out ?_
                  clear hK K
                  have HO7 := hidP (HP6.out.below HXB7.out)
                  have HA := hidP (addTo_any aS aR7 d d d (addL p (rightL p t d (pairL t d i j) k) 1 (rightL p t d (pairL t d j k) i)) (rightL p t d (pairL t d k i) j) 1 p wb7 HO7.out.ints hor7.ints HO7.out.unfrozen
                    (fun b1 o1 b2 o2 e1 e2 => by have h1 := (HP6.out.at_base b1 o1 e1).2; have h2 := (hor7.at_base b2 o2 e2).1; have := HXA7.out.size; omega) (by omega)
                    ((addL_res (by omega) _ _ _).bd (by first | exact rightL_length _ _ _ _ _ | (rw [addL_length]; exact rightL_length _ _ _ _ _)) p7) ((rightL_res (by omega) t d (pairL t d k i) j).bd (rightL_length _ _ _ _ _) p7) (by omega) (by omega) (by omega) (by omega))
                  clear hor7 hxb7
                  (try simp only [Act.put, List.setIfInBounds_toArray, List.set_cons_zero, List.set_cons_succ])
                  (refine walkR_tail (by rfl) (by kernel_rfl) ?_; simp only [List.drop_succ_cons, List.drop_zero])
                  go_wp2_with fail
                  refine HA.out.mono ?_
                  rintro e wc7 ⟨rfl, hu7⟩
                  have HP7 := hidP (hu7.own HO7.out)
                  have HX7 : Hid (Ext w3 wc7) := hu7.below (HX6.out.trans HXB7.out) (HX6.out.trans HXB7.out).size (fun b1 o1 e1 _ => (HBS.out b1 o1 e1))
                  clear hu7 hE HA
                  have HZ := hidP (isZero_any aS d d _ wc7 HP7.out.ints (by omega))
                  have HJB : Hid (jacB p t d i j k = zeroB (addL p (addL p (rightL p t d (pairL t d i j) k) 1 (rightL p t d (pairL t d j k) i)) 1 (rightL p t d (pairL t d k i) j))) := rfl
                  generalize addL p (addL p (rightL p t d (pairL t d i j) k) 1 (rightL p t d (pairL t d j k) i)) 1 (rightL p t d (pairL t d k i) j) = S at *
                  cases hz : zeroB S
                  · have HB : Hid (algB p d t = false) := by
                      show _ = _
                      rw [algB_false]
                      intro h
                      have := h.2.2 i (by simpa using hlt) j (by simpa using hjl) k (by simpa using hkl) hij hjk
                      simp only [Int.toNat_natCast] at this
                      rw [HJB.out, hz] at this
                      cases this
                    go_wp2_with fail
                    refine HZ.out.mono ?_
                    rintro e w8 ⟨rfl, rfl⟩
                    go_wp2
                    go_ret
                    exact ⟨ret_bool HB.out.symm, HX.out.trans HX7.out⟩
                  · go_wp2_with fail
                    refine HZ.out.mono ?_
                    rintro e w8 ⟨rfl, rfl⟩
                    have HB := hidP (HJB.out.trans hz)
                    go_wp2
                    go_roundw
                    case rel =>
                      refine ⟨k + 1, by omega, by omega, fun k' hk' h1 => ?_, HX7, by go_num⟩
                      rcases Nat.lt_succ_iff_lt_or_eq.1 hk' with h3 | rfl
                      · exact HK.out k' h3 h1
                      · exact HB.out
                    case measure => simp [intOf]; omega
                · obtain rfl : k = d := by omega
                  go_wp2
                  go_roundw
                  case rel =>
                    refine ⟨j + 1, by omega, by omega, fun j' hj' k' hk1 h1 h2 => ?_, HXk, by go_num⟩
                    rcases Nat.lt_succ_iff_lt_or_eq.1 hj' with h3 | rfl
                    · exact HJ.out j' h3 k' hk1 h1 h2
                    · exact HK.out k' hk1 h2
                  case measure => simp [intOf]; omega
            · obtain rfl : j = d := by omega
              go_wp2
              go_roundw
              case rel =>
                refine ⟨i + 1, by omega, fun i' hi1 j' hj1 k' hk1 h1 h2 => ?_, HXi, by go_num⟩
                rcases Nat.lt_succ_iff_lt_or_eq.1 hi1 with h3 | rfl
                · exact HI.out i' h3 j' hj1 k' hk1 h1 h2
                · exact HJ.out j' hj1 k' hk1 h1 h2
              case measure => simp [intOf]; omega
        · obtain rfl : i = d := by omega
          have HB : Hid (algB p i t = true) := by
            show _ = _
            rw [algB_true]
            refine ⟨HH.out, fun i' hi1 j hj => ?_, fun i' hi1 j hj k hk h1 h2 => ?_⟩
            · simp only [Int.toNat_natCast] at hi1 ⊢
              exact H1.out i' hi1 j hj
            · simp only [Int.toNat_natCast] at hi1 hj hk ⊢
              exact HI.out i' hi1 j hj k hk h1 h2
          go_wp2
          go_ret
          exact ⟨ret_bool HB.out.symm, HX.out.trans HXr.out⟩

set_option maxHeartbeats 2000000 in
theorem algebraOk_any (p d : Int) (a : Option Addr) (N c : Nat) (t : List Int) (w : World) (ht : IntsAt w a N t) (hnc : N ≤ c) (hc2 : c ≤ 1000000000000) :
    Calls Try.prog 15 #[algV p d a N c] w fun e w' => e = .returned (.bool (algB p d t)) ∧ Ext w w' := by
  cases hh : headB p d t
  · have HB : Hid (algB p d t = false) := by
      show _ = _
      rw [algB_false]
      intro h
      rw [h.1] at hh
      cases hh
    have hl := ht.len
    simp only [headB, Bool.and_eq_false_iff, decide_eq_false_iff_not] at hh
    cases hp : primeB p
    · clear hh ht hl
      go_enter Try.func15, Try.ntmps15
      go_wp2_with (first | (go_at_call 55; refine (isPrime_any _ _).mono ?_; rintro e w' ⟨rfl, rfl⟩))
      go_ret
      exact ⟨ret_bool HB.out.symm, Ext.alloc _ _⟩
    · cases hi : insB d 0 28
      · clear hh ht hl
        go_enter Try.func15, Try.ntmps15
        go_wp2_with (first | (go_at_call 55; refine (isPrime_any _ _).mono ?_; rintro e w' ⟨rfl, rfl⟩) | (go_at_call 56; refine (inside_any _ _ _ _).mono ?_; rintro e w' ⟨rfl, rfl⟩))
        go_ret
        exact ⟨ret_bool HB.out.symm, Ext.alloc _ _⟩
      · obtain ⟨h0, h28⟩ := insB_true.1 hi
        obtain ⟨k1, k2, k3, k4⟩ := cube_le h0 h28
        obtain ⟨p2, p7⟩ := prime_bounds hp
        by_cases hn : (N : Int) = d * d * d
        · have hr : resB p t = false := by
            rcases hh with ((h | h) | h) | h
            · rw [hp] at h; cases h
            · rw [hi] at h; cases h
            · exact absurd (by rw [hl]; exact hn) h
            · exact h
          have hNi : ((N : Int) != d * d * d) = false := by rw [hn]; simp
          have HRS := hidP (fun w' (hx : Ext w w') => residues_any a N c t p w' (ht.below hx) (by omega) (by omega) (by omega))
          clear hh ht hl hn
          go_enter Try.func15, Try.ntmps15
          go_wp2_with (first | (go_at_call 55; refine (isPrime_any _ _).mono ?_; rintro e w' ⟨rfl, rfl⟩) | (go_at_call 56; refine (inside_any _ _ _ _).mono ?_; rintro e w' ⟨rfl, rfl⟩) | (go_at_call 62; refine (HRS.out _ (Ext.alloc w _)).mono ?_; rintro e w1 ⟨rfl, hx1⟩))
          go_ret
          exact ⟨ret_bool HB.out.symm, (Ext.alloc w _).trans hx1⟩
        · have hNi : ((N : Int) != d * d * d) = true := bne_iff_ne.2 hn
          clear hh ht hl hn
          go_enter Try.func15, Try.ntmps15
          go_wp2_with (first | (go_at_call 55; refine (isPrime_any _ _).mono ?_; rintro e w' ⟨rfl, rfl⟩) | (go_at_call 56; refine (inside_any _ _ _ _).mono ?_; rintro e w' ⟨rfl, rfl⟩))
          go_ret
          exact ⟨ret_bool HB.out.symm, Ext.alloc _ _⟩
  · obtain ⟨hp, hd0, hd, hl, hr⟩ := headB_true hh
    obtain ⟨dn, rfl⟩ := Int.eq_ofNat_of_zero_le hd0
    exact algebraOk_good p dn a N c t w ht hnc hc2 hh
end Go.Proofs.Ytenlhfimdpcaoaa

namespace Go.Proofs.Ytenlhfimdpcaoaa
open Go.RowKit

set_option maxHeartbeats 1000000 in
theorem l1Residues_any (a : Option Addr) (n c : Nat) (xs : List Int) (p : Int) (w : World) (h : IntsAt w a n xs) (hn : n ≤ 1000000000000) :
    Calls Try.prog 133 #[.slice a n c, .int .i64 p] w fun e w' => e = .returned (.bool (resB p xs)) ∧ w = w' := by
  have G := hidP h
  clear h
  go_enter Try.func133, Try.ntmps133
  go_wp2
  go_loop [5] (fun i => ∃ k : Nat, k ≤ n ∧ Hid (∀ j, j < k → 0 ≤ xs.getD j 0 ∧ xs.getD j 0 < p) ∧ i = .int .i64 k) (fun i => n - (intOf i).toNat)
  case atStart => exact ⟨0, Nat.zero_le _, fun j h => by omega, rfl⟩
  case round =>
    obtain ⟨k, hk, HJ, rfl⟩ := hrel
    by_cases hlt : k < n
    · obtain ⟨b, o, rfl, q⟩ := G.out.get k hlt
      have HL := hidP G.out.len
      by_cases hok : 0 ≤ xs.getD k 0 ∧ xs.getD k 0 < p
      · have HO := hidP hok
        obtain ⟨h0, h1⟩ := hok
        rw [List.getD_eq_getElem?_getD] at h0 h1
        have hd : decide (xs[k]?.getD 0 < 0) = false := by simp; omega
        go_wp2
        go_round
        case rel =>
          refine ⟨k + 1, by omega, fun j hj => ?_, by go_num⟩
          rcases Nat.lt_succ_iff_lt_or_eq.1 hj with h3 | rfl
          · exact HJ.out j h3
          · exact HO.out
        case measure => simp [intOf]; omega
      · have HB : Hid (resB p xs = false) := by
          show _ = _
          rw [Bool.eq_false_iff, ne_eq, resB_true]
          exact fun h => hok (h k (by have := HL.out; omega))
        rw [List.getD_eq_getElem?_getD] at hok
        by_cases h0 : xs[k]?.getD 0 < 0
        · have hd : decide (xs[k]?.getD 0 < 0) = true := by simp; omega
          clear hok
          go_wp2
          go_ret
          exact ⟨ret_bool HB.out.symm, rfl⟩
        · have hd : decide (xs[k]?.getD 0 < 0) = false := by simp; omega
          have h1 : p ≤ xs[k]?.getD 0 := by omega
          clear hok
          go_wp2
          go_ret
          exact ⟨ret_bool HB.out.symm, rfl⟩
    · have HB : Hid (resB p xs = true) := by
        show _ = _
        rw [resB_true]
        exact fun j hj => HJ.out j (by have := G.out.len; omega)
      go_wp2
      go_ret
      exact ⟨ret_bool HB.out.symm, rfl⟩
set_option maxHeartbeats 1000000 in
theorem l1IsZero_any (a : Option Addr) (n c : Nat) (xs : List Int) (w : World) (h : IntsAt w a n xs) (hn : n ≤ 1000000000000) :
    Calls Try.prog 159 #[.slice a n c] w fun e w' => e = .returned (.bool (zeroB xs)) ∧ w = w' := by
  have G := hidP h
  clear h
  go_enter Try.func159, Try.ntmps159
  go_wp2
  go_loop [3] (fun i => ∃ k : Nat, k ≤ n ∧ Hid (∀ j, j < k → xs.getD j 0 = 0) ∧ i = .int .i64 k) (fun i => n - (intOf i).toNat)
  case atStart => exact ⟨0, Nat.zero_le _, fun j h => by omega, rfl⟩
  case round =>
    obtain ⟨k, hk, HJ, rfl⟩ := hrel
    by_cases hlt : k < n
    · obtain ⟨b, o, rfl, q⟩ := G.out.get k hlt
      have HL := hidP G.out.len
      by_cases hok : xs.getD k 0 = 0
      · have HO := hidP hok
        have hd : (xs[k]?.getD 0 != 0) = false := by rw [← List.getD_eq_getElem?_getD, hok]; rfl
        clear hok
        go_wp2
        go_round
        case rel =>
          refine ⟨k + 1, by omega, fun j hj => ?_, by go_num⟩
          rcases Nat.lt_succ_iff_lt_or_eq.1 hj with h3 | rfl
          · exact HJ.out j h3
          · exact HO.out
        case measure => simp [intOf]; omega
      · have HB : Hid (zeroB xs = false) := by
          show _ = _
          rw [Bool.eq_false_iff, ne_eq, zeroB_true]
          exact fun h => hok (h k (by have := HL.out; omega))
        have hd : (xs[k]?.getD 0 != 0) = true := by rw [← List.getD_eq_getElem?_getD]; exact bne_iff_ne.2 hok
        clear hok
        go_wp2
        go_ret
        exact ⟨ret_bool HB.out.symm, rfl⟩
    · have HB : Hid (zeroB xs = true) := by
        show _ = _
        rw [zeroB_true]
        exact fun j hj => HJ.out j (by have := G.out.len; omega)
      go_wp2
      go_ret
      exact ⟨ret_bool HB.out.symm, rfl⟩
set_option maxHeartbeats 1000000 in
theorem l2Get_any (p : Int) (d i j k : Nat) (b o N c : Nat) (t : List Int) (w : World) (ht : IntsAt w (some ⟨b, o, none⟩) N t) (hd : d ≤ 28) (hi : i < d) (hj : j < d) (hk : k < d) (hN : N = d * d * d) :
    Calls Try.prog 134 #[algV p d (some ⟨b, o, none⟩) N c, .int .i64 i, .int .i64 j, .int .i64 k] w fun e w' => e = .returned (.int .i64 (tab t d i j k)) ∧ Ext w w' := by
  have hx := nidx_lt hi hj
  have h1 : i * d ≤ 28 * 28 := Nat.mul_le_mul (by omega) hd
  have h2 : (i * d + j) * d ≤ 900 * 28 := Nat.mul_le_mul (by omega) hd
  have e2 : 0 ≤ (i : Int) * d := Int.mul_nonneg (by omega) (by omega)
  have e3 : (i : Int) * d ≤ 784 := by
    have : ((i * d : Nat) : Int) ≤ 784 := by omega
    rwa [Int.natCast_mul] at this
  have hq := ht.atc ((i * d + j) * d + k) (by omega)
  have HT : Hid (tab t d i j k = t.getD ((i * d + j) * d + k) 0) := rfl
  obtain ⟨m, hm⟩ : ∃ m, (i * d + j) * d = m := ⟨_, rfl⟩
  have e4 : ((i : Int) * d + j) * d = (m : Int) := by rw [← hm]; simp
  rw [hm] at hx h2 hq HT
  have hlt : m + k < N := by omega
  have hq2 : (w.alloc (.cells #[.int .i64 p, .int .i64 (d : Int), .slice (some ⟨b, o, none⟩) N c] 24)).cell? ⟨b, o + (m + k), none⟩ = some (.int .i64 (t.getD (m + k) 0)) :=
    ((Ext.alloc w _).cell (p := ⟨b, o + (m + k), none⟩) (World.block_lt_of_cell? w _ hq)).trans hq
  have hbw := World.block_lt_of_cell? w _ hq
  have HTL := hidP hN
  clear hm h1 hx ht hN hq2
  go_enter Try.func134, Try.ntmps134
  go_wp2
  go_ret
  exact ⟨ret_int HT.out.symm, Ext.alloc _ _⟩
set_option maxHeartbeats 1000000 in
theorem l2Row_any (p : Int) (d i j : Nat) (b o N c : Nat) (w : World) (hd : d ≤ 28) (hi : i < d) (hj : j < d) (hN : d * d * d ≤ N) (hc : N ≤ c) (hc2 : c ≤ 1000000000000) :
    Calls Try.prog 144 #[algV p d (some ⟨b, o, none⟩) N c, .int .i64 i, .int .i64 j] w fun e w' => e = .returned (.slice (some ⟨b, o + (i * d + j) * d, none⟩) d (c - (i * d + j) * d)) ∧ Ext w w' := by
  have hx := nidx_lt hi hj
  have h1 : i * d ≤ 28 * 28 := Nat.mul_le_mul (by omega) hd
  have h2 : (i * d + j) * d ≤ 900 * 28 := Nat.mul_le_mul (by omega) hd
  have e2 : 0 ≤ (i : Int) * d := Int.mul_nonneg (by omega) (by omega)
  have e3 : (i : Int) * d ≤ 784 := by
    have : ((i * d : Nat) : Int) ≤ 784 := by omega
    rwa [Int.natCast_mul] at this
  have h5 : (i * d + j + 1) * d = (i * d + j) * d + d := by rw [Nat.add_mul, Nat.one_mul]
  obtain ⟨t, ht⟩ : ∃ t, (i * d + j) * d = t := ⟨_, rfl⟩
  have e4 : ((i : Int) * d + j) * d = (t : Int) := by rw [← ht]; simp
  have e5 : ((i : Int) * d + j + 1) * d = ((t + d : Nat) : Int) := by rw [← ht, ← h5]; simp
  rw [ht] at hx h2 ⊢
  have hlt : t < c := by omega
  have ht2 : t + d ≤ c := by omega
  have hct : ¬ c = t := by omega
  clear ht h1 hx hN h5
  go_enter Try.func144, Try.ntmps144
  go_wp2
  go_ret
  exact ⟨congrArg (fun z => Ending.returned (Value.slice (some ⟨b, o + t, none⟩) z (c - t))) (Nat.add_sub_cancel_left t d), Ext.alloc _ _⟩
/-- the basis element k -/
def basisL (n k : Nat) : List Int := (List.replicate n 0).set k 1
theorem basisL_get (n k i : Nat) (hi : i < n) : (basisL n k).getD i 0 = if i = k then 1 else 0 := by
  simp only [basisL, List.getD_eq_getElem?_getD, List.getElem?_set, List.length_replicate]
  by_cases h : k = i
  · subst h
    simp [hi]
  · simp [h, hi, Ne.symm h]
theorem l2Basis_any (n k : Nat) (w : World) (hk : k < n) (hn : n ≤ 1000000) :
    Calls Try.prog 158 #[.int .i64 n, .int .i64 k] w fun e w' => ∃ a, e = .returned (.slice a n n) ∧ OwnI w' w.heap.size a n n (basisL n k) ∧ Ext w w' := by
  have hm := OwnI.made w w.heap.size n (Nat.le_refl _) (by unfold maxLen; omega)
  have hu := (UpdI.start hm.ints).store k hk 1
  have HO := hidP (hu.own hm)
  have HX := hidP (hu.below (Ext.alloc w _) (by simp) (fun b o e _ => by cases e; exact Nat.le_refl _))
  have hmk := make_ints (n : Int) (by omega) (by omega)
  simp only [Int.toNat_natCast] at hmk
  clear hm hu
  go_enter Try.func158, Try.ntmps158
  go_wp2
  have hw : (w.alloc (.cells ((Array.replicate n (.int .i64 0)).setIfInBounds k (.int .i64 1)) 3)) = ((w.alloc (.cells (Array.replicate n (.int .i64 0)) 3)).setCell ⟨w.heap.size, 0 + k, none⟩ (.int .i64 1)) := by
    rw [Nat.zero_add, World.setCell_alloc_at]
    rfl
  rw [hw]
  go_ret
  exact ⟨_, rfl, HO.out, HX.out⟩
end Go.Proofs.Ytenlhfimdpcaoaa

namespace Go.Proofs.Ytenlhfimdpcaoaa
open Go.RowKit

set_option maxHeartbeats 1000000 in
theorem l2Plus_any (a a' : Option Addr) (n c c' : Nat) (xs ys : List Int) (p : Int) (w : World) (h : IntsAt w a n xs) (h' : IntsAt w a' n ys) (hn : n ≤ 1000000)
    (hx : Res p xs) (hy : Res p ys) (hp0 : 1 ≤ p) (hp1 : p ≤ 10007) :
    Calls Try.prog 90 #[.int .i64 p, .slice a n c, .slice a' n c'] w fun e w' => ∃ b, e = .returned (.slice b n n) ∧ OwnI w' w.heap.size b n n (addL p xs 1 ys) ∧ Ext w w' := by
  have hm := OwnI.made w w.heap.size n (Nat.le_refl _) (by unfold maxLen; omega)
  have hst := UpdI.start hm.ints
  have HX := hidP hx
  have HY := hidP hy
  have HG := hidP h
  have HG' := hidP h'
  have L := hidP h.len
  have L' := hidP h'.len
  have LA := hidP ((addL_length p xs 1 ys).trans h.len)
  have hmk := make_ints (n : Int) (by omega) (by omega)
  simp only [Int.toNat_natCast] at hmk
  have hx0 := Ext.alloc w (.cells (Array.replicate n (.int .i64 0)) 3)
  have hsz : w.heap.size < (w.alloc (.cells (Array.replicate n (.int .i64 0)) 3)).heap.size := by simp
  clear h h' hx hy
  go_enter Try.func90, Try.ntmps90
  go_wp2
  obtain ⟨w1, hw1⟩ : ∃ w1, w1 = w.alloc (.cells (Array.replicate n (.int .i64 0)) 3) := ⟨_, rfl⟩
  rw [← hw1] at hm hst hx0 hsz ⊢
  have HM := hidP hm
  have HST := hidP hst
  have HX0 := hidP hx0
  clear hw1 hm hst hmk hx0
  go_loopw [8] (fun i wr => ∃ j : Nat, j ≤ n ∧ Hid (UpdI w1 wr (some ⟨w.heap.size, 0, none⟩) n (partly (List.replicate n 0) (addL p xs 1 ys) j)) ∧ i = .int .i64 j) (fun i _ => n - (intOf i).toNat)
  case atStart => exact ⟨0, Nat.zero_le _, by rw [partly_zero]; exact HST, rfl⟩
  case round =>
    obtain ⟨j, hj, HU, rfl⟩ := hrel
    by_cases hlt : j < n
    · have hB : Ext w wr := HU.out.below HX0.out (by omega) (fun b o e _ => by cases e; exact Nat.le_refl _)
      obtain ⟨b, o, rfl, q⟩ := (HG.out.below (hB.trans (Ext.drew wr))).get j hlt
      obtain ⟨b', o', rfl, q'⟩ := (HG'.out.below (hB.trans (Ext.drew wr))).get j hlt
      have hu := HU.out.drew
      have hz : wr.drew.frozen? ⟨w.heap.size, 0 + j, none⟩ = false := (hu.own HM.out).unfrozen j _ _ hlt rfl
      obtain ⟨qd, _⟩ := hu.cellInt j hlt
      obtain ⟨x0, x1⟩ := HX.out j (by have := L.out; omega)
      obtain ⟨y0, y1⟩ := HY.out j (by have := L'.out; omega)
      have hs := hu.store j hlt ((xs.getD j 0 + 1 * ys.getD j 0) % p)
      have hg := addL_get p xs 1 ys j (by have := L.out; omega)
      rw [← hg, partly_succ (List.replicate n 0) _ n j hlt (by simp) LA.out, hg, Int.one_mul] at hs
      have e1 : IntKind.i64.wrap (xs.getD j 0 + ys.getD j 0) = xs.getD j 0 + ys.getD j 0 := wrap_in (by omega) (by omega)
      have e2 : Int.tmod (xs.getD j 0 + ys.getD j 0) p = (xs.getD j 0 + ys.getD j 0) % p := Int.tmod_eq_emod_of_nonneg (by omega)
      generalize xs.getD j 0 = x at *
      generalize ys.getD j 0 = y at *
      rw [Nat.zero_add] at hs hz qd
      generalize (partly (List.replicate n 0) (addL p xs 1 ys) j).getD j 0 = v0 at qd
      have HS := hidP hs
      clear hs hg hu hB
      go_wp2
      have hE : wr.drew = wr.drew := rfl
      have hpz : ¬ p = 0 := by omega
      (refine walkR_start (fun w' => w' = wr.drew) 14 (by kernel_rfl) ?_; simp only [numbered, List.take_succ_cons, List.take_zero, Nat.zero_add, Nat.reduceAdd, List.length_cons, List.length_nil])
      repeat (refine walkR_still (v := ?_) rfl (by decide +kernel) rfl (fun _ _ _ h => h) hE ?_ ?_; rotate_left; (focus (intro w' hw'; subst hw'; go_simp; all_goals (with_reducible rfl))); simp only [Act.put, List.setIfInBounds_toArray, List.set_cons_zero, List.set_cons_succ])
      (refine walkR_tail (by rfl) (by kernel_rfl) ?_; simp only [List.drop_succ_cons, List.drop_zero])
      go_wp2
      go_roundw
      case rel => exact ⟨j + 1, by omega, HS.out, by go_num⟩
      case measure => simp [intOf]; omega
    · have hu := HU.out
      obtain rfl : j = n := by omega
      rw [partly_all _ _ _ (by simp) LA.out] at hu
      have ho := hidP (hu.own HM.out)
      have hx := hidP (hu.below HX0.out (by omega) (fun b o e _ => by cases e; exact Nat.le_refl _))
      clear hu
      go_wp2
      go_ret
      exact ⟨_, rfl, ho.out, hx.out⟩
end Go.Proofs.Ytenlhfimdpcaoaa

namespace Go.Proofs.Ytenlhfimdpcaoaa
open Go.RowKit

/-- the bracket, up to the first i rows and j places of the next one -/
def brTo (p : Int) (t : List Int) (d : Nat) (x y : List Int) (i j : Nat) : List Int :=
  modL p d fun k => sumTo i (fun i' => sumTo d fun j' => x.getD i' 0 * y.getD j' 0 * tab t d i' j' k) + sumTo j fun j' => x.getD i 0 * y.getD j' 0 * tab t d i j' k
/-- the bracket of two elements -/
def brL (p : Int) (t : List Int) (d : Nat) (x y : List Int) : List Int :=
  modL p d fun k => sumTo d fun i' => sumTo d fun j' => x.getD i' 0 * y.getD j' 0 * tab t d i' j' k
theorem sumTo_zero_of {n : Nat} {f : Nat → Int} (h : ∀ i, i < n → f i = 0) : sumTo n f = 0 := by
  induction n with
  | zero => rfl
  | succ n ih => rw [sumTo, ih (fun i hi => h i (by omega)), h n (by omega)]; rfl
theorem brTo_zero (p : Int) (t : List Int) (d : Nat) (x y : List Int) : brTo p t d x y 0 0 = List.replicate d 0 := by
  rw [← modL_zero p]
  rfl
theorem brTo_all (p : Int) (t : List Int) (d : Nat) (x y : List Int) : brTo p t d x y d 0 = brL p t d x y := by
  unfold brTo brL
  apply modL_congr
  intro m _
  simp [sumTo]
theorem brTo_row (p : Int) (t : List Int) (d : Nat) (x y : List Int) (i : Nat) : brTo p t d x y i d = brTo p t d x y (i + 1) 0 := by
  unfold brTo
  apply modL_congr
  intro m _
  simp only [sumTo, Int.add_zero]
theorem brTo_skip (p : Int) (t : List Int) (d : Nat) (x y : List Int) (i : Nat) (h : x.getD i 0 = 0) : brTo p t d x y (i + 1) 0 = brTo p t d x y i 0 := by
  unfold brTo
  apply modL_congr
  intro m _
  simp only [sumTo, Int.add_zero]
  rw [sumTo_zero_of (n := d) (fun j _ => by rw [h]; simp), Int.add_zero]
theorem brTo_succ (p : Int) (t : List Int) (d : Nat) (x y : List Int) (i j : Nat) : brTo p t d x y i (j + 1) = addL p (brTo p t d x y i j) ((x.getD i 0 * y.getD j 0) % p) (pairL t d i j) := by
  unfold brTo
  rw [addL_modL]
  apply modL_congr
  intro m hm
  rw [pairL_get i j m hm]
  simp only [sumTo]
  rw [← Int.add_assoc, Int.add_emod, Int.mul_emod _ (tab t d i j m), ← Int.add_emod]
  conv => rhs; rw [Int.add_emod, Int.mul_emod _ (tab t d i j m), Int.emod_emod, ← Int.add_emod]
theorem brTo_same (p : Int) (t : List Int) (d : Nat) (x y : List Int) (i j : Nat) (h : (x.getD i 0 * y.getD j 0) % p = 0) : brTo p t d x y i (j + 1) = brTo p t d x y i j := by
  rw [brTo_succ, h]
  unfold brTo
  rw [addL_modL]
  apply modL_congr
  intro m _
  rw [Int.zero_mul, Int.add_zero]
theorem brTo_length (p : Int) (t : List Int) (d : Nat) (x y : List Int) (i j : Nat) : (brTo p t d x y i j).length = d := modL_length _ _ _
theorem brTo_res {p : Int} (hp : 0 < p) (t : List Int) (d : Nat) (x y : List Int) (i j : Nat) : Res p (brTo p t d x y i j) := Res.modL hp _ _
theorem brL_length (p : Int) (t : List Int) (d : Nat) (x y : List Int) : (brL p t d x y).length = d := modL_length _ _ _
theorem brL_res {p : Int} (hp : 0 < p) (t : List Int) (d : Nat) (x y : List Int) : Res p (brL p t d x y) := Res.modL hp _ _
theorem partly_same (xs : List Int) (j : Nat) : partly xs xs j = xs := by simp [partly]

set_option maxRecDepth 100000 in
set_option maxHeartbeats 4000000 in
theorem l2Bracket_any (p : Int) (d N c cu cv : Nat) (at' au av : Option Addr) (t u v : List Int) (w : World) (hd : d ≤ 28) (hN : N = d * d * d)
    (ht : IntsAt w at' N t) (hu : IntsAt w au d u) (hv : IntsAt w av d v) (hp : 1 ≤ p) (hp2 : p ≤ 10007) (hrt : Res p t) (hru : Res p u) (hrv : Res p v) :
    Calls Try.prog 89 #[algV p d at' N c, .slice au d cu, .slice av d cv] w fun e w' => ∃ a, e = .returned (.slice a d d) ∧ OwnI w' w.heap.size a d d (brL p t d u v) ∧ Ext w w' := by
  have HM := hidP (OwnI.made (w.alloc (.cells #[.int .i64 p, .int .i64 (d : Int), .slice at' N c] 24)) (w.heap.size + 1) d (by simp) (by unfold maxLen; omega))
  have hmk := make_ints (d : Int) (by omega) (by omega)
  simp only [Int.toNat_natCast] at hmk
  have HT := hidP ht
  have HU := hidP hu
  have HV := hidP hv
  have HRT := hidP hrt
  have HRU := hidP hru
  have HRV := hidP hrv
  have LU := hidP hu.len
  have LV := hidP hv.len
  have HAL := hidP (AlgAt.new w _ rfl p d at' N c 24)
  have HX1 := hidP (Ext.alloc w (.cells #[.int .i64 p, .int .i64 (d : Int), .slice at' N c] 24))
  have LT := hidP (ht.len.trans hN)
  have HN := hidP hN
  have hpz : ¬ p = 0 := by omega
  clear ht hu hv hrt hru hrv hN
  go_enter Try.func89, Try.ntmps89
  go_wp2
  obtain ⟨w0, hw0⟩ : ∃ w0, w0 = w.alloc (.cells #[.int .i64 p, .int .i64 (d : Int), .slice at' N c] 24) := ⟨_, rfl⟩
  rw [← hw0] at HM HAL HX1 ⊢
  have hsz : w0.heap.size = w.heap.size + 1 := by rw [hw0]; simp
  obtain ⟨w1, hw1⟩ : ∃ w1, w1 = w0.alloc (.cells (Array.replicate d (.int .i64 0)) 3) := ⟨_, rfl⟩
  rw [← hw1] at HM ⊢
  rw [hsz] at HM
  have hx01 : Ext w0 w1 := by rw [hw1]; exact Ext.alloc _ _
  have HX01 := hidP hx01
  have HAL1 := hidP (HAL.out.below hx01)
  have hst := UpdI.start HM.out.ints
  rw [← brTo_zero p t d u v] at hst
  have HST := hidP hst
  have hsz1 : w.heap.size + 1 < w1.heap.size := by rw [hw1]; simp; omega
  have HAR := hidP (fun wr ys (h : UpdI w1 wr (some ⟨w.heap.size + 1, 0, none⟩) d ys) => (⟨h.own HM.out, HAL1.out.upd h (fun b' o' e => by cases e; omega),
    Below.trans (HX1.out.trans HX01.out) ((h.below (Below.refl _ _) (by omega) (fun b' o' e _ => by cases e; omega) : Below (w.heap.size + 1) w1 wr).mono (by omega))⟩ :
      OwnI wr (w.heap.size + 1) (some ⟨w.heap.size + 1, 0, none⟩) d d ys ∧ AlgAt wr w.heap.size p d at' N c ∧ Ext w wr))
  clear hw0 hw1 hx01 hst hmk hsz
  go_loopw [9] (fun i wr => ∃ k : Nat, k ≤ d ∧ Hid (UpdI w1 wr (some ⟨w.heap.size + 1, 0, none⟩) d (brTo p t d u v k 0)) ∧ i = .int .i64 k) (fun i _ => d - (intOf i).toNat)
  case atStart => exact ⟨0, Nat.zero_le _, HST, rfl⟩
  case round =>
    obtain ⟨i, hi, HUP, rfl⟩ := hrel
    by_cases hlt : i < d
    · obtain ⟨hO, hA, hx⟩ := HAR.out _ _ HUP.out
      obtain ⟨bu, ou, rfl, q⟩ := (HU.out.below hx).get i hlt
      by_cases hz : u.getD i 0 = 0
      · have hb : (u[i]?.getD 0 == 0) = true := by simpa [List.getD_eq_getElem?_getD] using hz
        have HS := hidP (brTo_skip p t d u v i hz)
        clear hz hO hA hx
        go_wp2
        go_roundw
        case rel => exact ⟨i + 1, by omega, (by rw [HS.out]; exact HUP.out), by go_num⟩
        case measure => simp [intOf]; omega
      · have hb : (u[i]?.getD 0 == 0) = false := by simpa [List.getD_eq_getElem?_getD] using hz
        clear hz hO hA hx
        obtain ⟨wo, rfl⟩ : ∃ wo : World, wo = wr := ⟨_, rfl⟩
        go_wp2
        clear q
        go_loopw [10] (fun v' wr => ∃ j : Nat, j ≤ d ∧ Hid (UpdI w1 wr (some ⟨w.heap.size + 1, 0, none⟩) d (brTo p t d u v i j)) ∧ v' = .int .i64 j) (fun i _ => d - (intOf i).toNat)
        case atStart => exact ⟨0, Nat.zero_le _, HUP, rfl⟩
        case round =>
          obtain ⟨j, hj, HUP2, rfl⟩ := hrel
          by_cases hjl : j < d
          · obtain ⟨hO, hA, hx⟩ := HAR.out _ _ HUP2.out
            have qi := ((HU.out.below hx)).atc i hlt
            obtain ⟨bv, ov, rfl, qv⟩ := (HV.out.below hx).get j hjl
            have f0 := hA.c0
            have ru := HRU.out i (by have := LU.out; omega)
            have rv := HRV.out j (by have := LV.out; omega)
            have HS := hidP (brTo_succ p t d u v i j)
            have HZ := hidP (brTo_same p t d u v i j)
            have hxy0 : 0 ≤ u.getD i 0 * v.getD j 0 := Int.mul_nonneg ru.1 rv.1
            have hxy1 : u.getD i 0 * v.getD j 0 ≤ 10007 * 10007 := Int.mul_le_mul (by omega) (by omega) rv.1 (by omega)
            have ef0 : 0 ≤ (u.getD i 0 * v.getD j 0) % p := Int.emod_nonneg _ hpz
            have ef1 : (u.getD i 0 * v.getD j 0) % p < p := Int.emod_lt_of_pos _ (by omega)
            clear ru rv
            generalize u.getD i 0 = x at *
            generalize v.getD j 0 = y at *
            have e1 : IntKind.i64.wrap (x * y) = x * y := wrap_in (by omega) (by omega)
            have e2 : Int.tmod (x * y) p = (x * y) % p := Int.tmod_eq_emod_of_nonneg (by omega)
            generalize hf : (x * y) % p = f at *
            clear hb hO hA hx hxy0 hxy1 hf
            go_wp2
            go_quiet (fail)
            clear qi qv e1 e2 f0
            have LB := hidP (brTo_length p t d u v i j)
            have LB2 := hidP (brTo_length p t d u v i (j + 1))
            have HUP3 := hidP (HUP2.out.drewN nq)
            obtain ⟨wo2, hwo2⟩ : ∃ wo2 : World, wo2 = wr.drewN nq := ⟨_, rfl⟩
            rw [← hwo2] at HUP3 ⊢
            clear hwo2 HUP2
            go_wp2
            go_loopw [12] (fun v' wr => ∃ k : Nat, k ≤ d ∧ Hid (UpdI w1 wr (some ⟨w.heap.size + 1, 0, none⟩) d (partly (brTo p t d u v i j) (brTo p t d u v i (j + 1)) k)) ∧ v' = .int .i64 k) (fun i _ => d - (intOf i).toNat)
            case atStart => exact ⟨0, Nat.zero_le _, by rw [partly_zero]; exact HUP3, rfl⟩
            case round =>
              obtain ⟨k, hk, HUP4, rfl⟩ := hrel
              by_cases hkl : k < d
              · by_cases hfz : f = 0
                · have hu := HUP4.out
                  rw [HZ.out hfz, partly_same, ← HZ.out hfz] at hu
                  have HU5 := hidP hu
                  have hb2 : (f != 0) = false := by simpa using hfz
                  clear hu hfz
                  go_wp2
                  go_roundw
                  case rel => exact ⟨j + 1, by omega, HU5.out, by go_num⟩
                  case measure => simp [intOf]; omega
                · have hb2 : (f != 0) = true := by simpa using hfz
                  have hdN : 0 < N := by rw [HN.out]; exact Nat.mul_pos (Nat.mul_pos (by omega) (by omega)) (by omega)
                  obtain ⟨bt, ot, rfl, _⟩ := HT.out.get 0 hdN
                  obtain ⟨hO, hA, hx⟩ := HAR.out _ _ HUP4.out
                  obtain ⟨q, hfr⟩ := HUP4.out.cellInt k hkl
                  rw [partly_get _ _ k d hkl LB.out LB2.out, Nat.zero_add] at q
                  have ra := brTo_res (by omega : 0 < p) t d u v i j k (by have := LB.out; omega)
                  have rt : 0 ≤ tab t d i j k ∧ tab t d i j k < p := HRT.out _ (by have := LT.out; have := nidx_lt hlt hjl; omega)
                  have hval : (brTo p t d u v i (j + 1)).getD k 0 = ((brTo p t d u v i j).getD k 0 + f * tab t d i j k) % p := by
                    rw [HS.out, addL_get _ _ _ _ _ (by have := LB.out; omega), pairL_get i j k hkl]
                  have HG := hidP (fun w' (hx' : Ext wr w') => l2Get_any p d i j k bt ot N c t w' (HT.out.below (hx.trans hx')) hd hlt hjl hkl HN.out)
                  have HF := hidP (fun w' (hx' : Ext wr w') => (⟨(hA.below hx').c0, (hA.below hx').c1, (hA.below hx').c2, (hx'.cell (p := ⟨w.heap.size + 1, k, none⟩) (World.block_lt_of_cell? wr _ q)).trans q⟩ : _ ∧ _ ∧ _ ∧ _))
                  have HST2 := hidP (fun w' (hx' : Ext wr w') => (HUP4.out.ext hx').store k hkl ((brTo p t d u v i (j + 1)).getD k 0))
                  rw [partly_succ _ _ d k hkl LB.out LB2.out] at HST2
                  have HCL := hidP (fun w' (hx' : Ext wr w') => (HUP4.out.ext hx').cellInt k hkl)
                  have HO4 := hidP (hO.unfrozen k _ _ hkl rfl)
                  generalize tab t d i j k = tv at *
                  rw [hval] at HST2
                  generalize (brTo p t d u v i j).getD k 0 = av at *
                  have m0 : 0 ≤ f * tv := Int.mul_nonneg ef0 rt.1
                  have m1 : f * tv ≤ 10007 * 10007 := Int.mul_le_mul (by omega) (by omega) rt.1 (by omega)
                  have e1 : IntKind.i64.wrap (f * tv) = f * tv := wrap_in (by omega) (by omega)
                  have e2 : IntKind.i64.wrap (av + f * tv) = av + f * tv := wrap_in (by omega) (by omega)
                  have e3 : Int.tmod (av + f * tv) p = (av + f * tv) % p := Int.tmod_eq_emod_of_nonneg (by omega)
                  clear hfz hval m0 m1 ra rt hO hA hx q hfr hdN
                  go_wp2
                  have hE : Ext wr wr.drew := Ext.drew wr
                  (refine walkR_start (fun w' => Ext wr w') 18 (by kernel_rfl) ?_; simp only [numbered, List.take_succ_cons, List.take_zero, Nat.zero_add, Nat.reduceAdd, List.length_cons, List.length_nil])
                  repeat (refine walkR_still (v := ?_) rfl (by decide +kernel) rfl (fun _ _ _ h => h) hE ?_ ?_; rotate_left; (focus (intro w' hw'; obtain ⟨f0, f1, f2, f3⟩ := HF.out w' hw'; go_simp; all_goals (with_reducible rfl))); simp only [Act.put, List.setIfInBounds_toArray, List.set_cons_zero, List.set_cons_succ])
                  (refine walkR_later ?_; simp only [List.cons_append, List.nil_append])
                  (refine walkR_later ?_; simp only [List.cons_append, List.nil_append])
                  (refine walkR_later ?_; simp only [List.cons_append, List.nil_append])
                  repeat (refine walkR_still (v := ?_) rfl (by decide +kernel) rfl (fun _ _ _ h => h) hE ?_ ?_; rotate_left; (focus (intro w' hw'; obtain ⟨f0, f1, f2, f3⟩ := HF.out w' hw'; go_simp; all_goals (with_reducible rfl))); simp only [Act.put, List.setIfInBounds_toArray, List.set_cons_zero, List.set_cons_succ])
                  (refine walkR_later ?_; simp only [List.cons_append, List.nil_append])
                  repeat (refine walkR_still (v := ?_) rfl (by decide +kernel) rfl (fun _ _ _ h => h) hE ?_ ?_; rotate_left; (focus (intro w' hw'; obtain ⟨f0, f1, f2, f3⟩ := HF.out w' hw'; go_simp; all_goals (with_reducible rfl))); simp only [Act.put, List.setIfInBounds_toArray, List.set_cons_zero, List.set_cons_succ])
                  (refine walkR_later ?_; simp only [List.cons_append, List.nil_append])
                  (refine walkR_only (fun w' => Ext wr w') rfl (by decide +kernel) rfl ?_ ?_)
                  · exact fun _ h => h
                  intro K hK
                  go_simp
                  refine (HG.out _ (Ext.drew wr)).mono ?_
                  rintro e w2 ⟨rfl, hx2⟩
                  have hX2 := (Ext.drew wr).trans hx2
                  have HS2 := hidP (HST2.out _ hX2)
                  obtain ⟨qd, hfr⟩ := HCL.out _ hX2
                  have hfr2 : w2.frozen? ⟨w.heap.size + 1, 0 + k, none⟩ = false := hfr.trans ((HUP4.out.cellInt k hkl).2.symm.trans HO4.out)
                  rw [Nat.zero_add] at qd hfr2 HS2
                  generalize (partly (brTo p t d u v i j) (brTo p t d u v i (j + 1)) k).getD k 0 = vd at qd
                  refine hK _ _ hX2 ?_
                  clear hK K hx2 hfr
                  (try simp only [Act.put, List.setIfInBounds_toArray, List.set_cons_zero, List.set_cons_succ])
                  repeat (refine walkR_still (v := ?_) rfl (by decide +kernel) rfl (fun _ _ _ h => h) hX2 ?_ ?_; rotate_left; (focus (intro w' hw'; obtain ⟨f0, f1, f2, f3⟩ := HF.out w' hw'; go_simp; all_goals (with_reducible rfl))); simp only [Act.put, List.setIfInBounds_toArray, List.set_cons_zero, List.set_cons_succ])
                  (refine walkR_tail (by rfl) (by kernel_rfl) ?_; simp only [List.drop_succ_cons, List.drop_zero])
                  clear hX2
                  go_wp2
                  go_roundw
                  case rel => exact ⟨k + 1, by omega, HS2.out, by go_num⟩
                  case measure => simp [intOf]; omega
              · have hu := HUP4.out
                obtain rfl : k = d := by omega
                rw [partly_all _ _ _ LB.out LB2.out] at hu
                have HU5 := hidP hu
                clear hu
                go_wp2
                go_roundw
                case rel => exact ⟨j + 1, by omega, HU5.out, by go_num⟩
                case measure => simp [intOf]; omega
          · have hu := HUP2.out
            obtain rfl : j = d := by omega
            rw [brTo_row] at hu
            have HU2 := hidP hu
            clear hu
            go_wp2
            go_roundw
            case rel => exact ⟨i + 1, by omega, HU2.out, by go_num⟩
            case measure => simp [intOf]; omega
    · have hu := HUP.out
      obtain rfl : i = d := by omega
      rw [brTo_all] at hu
      obtain ⟨hO, hA, hx⟩ := HAR.out _ _ hu
      have ho := hidP (hO.base (B' := w.heap.size) (by omega))
      have hx2 := hidP hx
      clear hu hO hA hx
      go_wp2
      go_ret
      exact ⟨_, rfl, ho.out, hx2.out⟩
end Go.Proofs.Ytenlhfimdpcaoaa

namespace Go.Proofs.Ytenlhfimdpcaoaa
open Go.RowKit

theorem sumTo_single {n k : Nat} {f : Nat → Int} (hk : k < n) (h : ∀ i, i < n → i ≠ k → f i = 0) : sumTo n f = f k := by
  induction n with
  | zero => omega
  | succ n ih =>
    rw [sumTo]
    by_cases hkn : k = n
    · subst hkn
      rw [sumTo_zero_of (fun i hi => h i (by omega) (by omega)), Int.zero_add]
    · rw [ih (by omega) (fun i hi hne => h i (by omega) hne), h n (by omega) (by omega), Int.add_zero]
theorem brL_basis (p : Int) (t : List Int) (d k : Nat) (x : List Int) (hl : x.length = d) (hk : k < d) : brL p t d x (basisL d k) = rightL p t d x k := by
  unfold brL rightL
  apply modL_congr
  intro m _
  rw [hl]
  congr 1
  apply sumTo_congr
  intro i _
  rw [sumTo_single hk (fun j hj hne => by rw [basisL_get d k j hj, if_neg hne]; simp), basisL_get d k k hk, if_pos rfl, Int.mul_one]
theorem basisL_res {p : Int} (hp : 1 < p) (n k : Nat) : Res p (basisL n k) := by
  intro i hi
  rw [basisL_get n k i (by simpa [basisL] using hi)]
  split <;> omega

def jacAllB (p : Int) (t : List Int) (d : Nat) : Bool := decide (∀ i, i < d → ∀ j, j < d → ∀ k, k < d → i < j → j < k → jacB p t d i j k = true)
theorem jacAllB_true {p : Int} {t : List Int} {d : Nat} : jacAllB p t d = true ↔ ∀ i, i < d → ∀ j, j < d → ∀ k, k < d → i < j → j < k → jacB p t d i j k = true := by simp [jacAllB]

set_option maxRecDepth 100000 in
set_option maxHeartbeats 4000000 in
theorem l2Jacobi_any (p : Int) (d N c : Nat) (at' : Option Addr) (t : List Int) (w : World) (hd : d ≤ 28) (hN : N = d * d * d)
    (ht : IntsAt w at' N t) (hp : 2 ≤ p) (hp2 : p ≤ 10007) (hrt : Res p t) (hnc : N ≤ c) (hc2 : c ≤ 1000000000000) :
    Calls Try.prog 135 #[algV p d at' N c] w fun e w' => e = .returned (.bool (jacAllB p t d)) ∧ Ext w w' := by
  have HT := hidP ht
  have HAL := hidP (AlgAt.new w _ rfl p d at' N c 24)
  have HX1 := hidP (Ext.alloc w (.cells #[.int .i64 p, .int .i64 (d : Int), .slice at' N c] 24))
  have LT := hidP (ht.len.trans hN)
  have HN := hidP hN
  have HRT := hidP hrt
  clear ht hN hrt
  go_enter Try.func135, Try.ntmps135
  go_wp2
  obtain ⟨w0, hw0⟩ : ∃ w0, w0 = w.alloc (.cells #[.int .i64 p, .int .i64 (d : Int), .slice at' N c] 24) := ⟨_, rfl⟩
  rw [← hw0] at HAL HX1 ⊢
  clear hw0
  have HF := hidP (fun w' (hx : Ext w0 w') => (⟨(HAL.out.below hx).c0, (HAL.out.below hx).c1, (HAL.out.below hx).c2⟩ : _ ∧ _ ∧ _))
  go_loopw [4] (fun v wr => ∃ i : Nat, i ≤ d ∧ Hid (∀ i', i' < i → ∀ j, j < d → ∀ k, k < d → i' < j → j < k → jacB p t d i' j k = true) ∧ Hid (Ext w0 wr) ∧ v = .int .i64 i) (fun v _ => d - (intOf v).toNat)
  case atStart => exact ⟨0, Nat.zero_le _, fun i' h => by omega, Ext.refl _, rfl⟩
  case round =>
    obtain ⟨i, hi', HJ, HX, rfl⟩ := hrel
    by_cases hlt : i < d
    · obtain ⟨b, o, rfl, _⟩ := HT.out.get 0 (by rw [HN.out]; exact Nat.mul_pos (Nat.mul_pos (by omega) (by omega)) (by omega))
      have HPart : Hid (∀ i j, i < d → j < d → ∀ w', Ext w0 w' → IntsAt w' (some ⟨b, o + (i * d + j) * d, none⟩) d (pairL t d i j)) :=
        fun i j hi hj w' hx => ((HT.out.below HX1.out).below hx).part ((i * d + j) * d) d (by have := HN.out; have := nidx_lt hi hj; omega)
      have HRow := hidP (fun i j hi hj w' => l2Row_any p d i j b o N c w' hd hi hj (by rw [HN.out]; exact Nat.le_refl _) hnc hc2)
      have HBas := hidP (fun k hk w' => l2Basis_any d k w' hk (by omega))
      have HBr : Hid (∀ i j k, i < d → j < d → k < d → ∀ w', Ext w0 w' → ∀ av, IntsAt w' av d (basisL d k) →
          Calls Try.prog 89 #[algV p d (some ⟨b, o, none⟩) N c, .slice (some ⟨b, o + (i * d + j) * d, none⟩) d (c - (i * d + j) * d), .slice av d d] w' fun e w2 => ∃ a, e = .returned (.slice a d d) ∧ OwnI w2 w'.heap.size a d d (rightL p t d (pairL t d i j) k) ∧ Ext w' w2) := by
        intro i j k hi hj hk w' hx av hv
        have h := l2Bracket_any p d N c (c - (i * d + j) * d) d _ _ av t (pairL t d i j) _ w' hd HN.out ((HT.out.below HX1.out).below hx) (HPart.out i j hi hj w' hx) hv (by omega) hp2 HRT.out (pairL_res HRT.out d i j) (basisL_res (by omega) d k)
        rwa [brL_basis p t d k _ (pairL_length LT.out hi hj) hk] at h
      obtain ⟨wo, rfl⟩ : ∃ wo : World, wo = wr := ⟨_, rfl⟩
      go_wp2
      go_loopw [5] (fun v wr => ∃ j : Nat, j ≤ d ∧ i < j ∧ Hid (∀ j', j' < j → ∀ k, k < d → i < j' → j' < k → jacB p t d i j' k = true) ∧ Hid (Ext w0 wr) ∧ v = .int .i64 j) (fun v _ => d - (intOf v).toNat)
      case atStart => exact ⟨i + 1, by omega, by omega, fun j' h k hk h1 h2 => by omega, HX, rfl⟩
      case round =>
        obtain ⟨j, hj', hij, HJ2, HX2, rfl⟩ := hrel
        by_cases hjl : j < d
        · obtain ⟨wo2, rfl⟩ : ∃ wo2 : World, wo2 = wr := ⟨_, rfl⟩
          go_wp2
          go_loopw [6] (fun v wr => ∃ k : Nat, k ≤ d ∧ j < k ∧ Hid (∀ k', k' < k → j < k' → jacB p t d i j k' = true) ∧ Hid (Ext w0 wr) ∧ v = .int .i64 k) (fun v _ => d - (intOf v).toNat)
          case atStart => exact ⟨j + 1, by omega, by omega, fun k' h h1 => by omega, HX2, rfl⟩
          case round =>
            obtain ⟨k, hk', hjk, HJ3, HX3, rfl⟩ := hrel
            by_cases hkl : k < d
            · have hE : Ext wr wr.drew := Ext.drew wr
              go_wp2
              (refine walkR_start (fun w' => Ext wr w') 9 (by kernel_rfl) ?_; simp only [numbered, List.take_succ_cons, List.take_zero, Nat.zero_add, Nat.reduceAdd, List.length_cons, List.length_nil])
              repeat (refine walkR_still (v := ?_) rfl (by decide +kernel) rfl (fun _ _ _ h => h) hE ?_ ?_; rotate_left; (focus (intro w' hw'; obtain ⟨f0, f1, f2⟩ := HF.out w' (HX3.out.trans hw'); go_simp; all_goals (with_reducible rfl))); simp only [Act.put, List.setIfInBounds_toArray, List.set_cons_zero, List.set_cons_succ])
              (refine walkR_later ?_; simp only [List.cons_append, List.nil_append])
              repeat (refine walkR_still (v := ?_) rfl (by decide +kernel) rfl (fun _ _ _ h => h) hE ?_ ?_; rotate_left; (focus (intro w' hw'; obtain ⟨f0, f1, f2⟩ := HF.out w' (HX3.out.trans hw'); go_simp; all_goals (with_reducible rfl))); simp only [Act.put, List.setIfInBounds_toArray, List.set_cons_zero, List.set_cons_succ])
              (refine walkR_later ?_; simp only [List.cons_append, List.nil_append])
              (refine walkR_later ?_; simp only [List.cons_append, List.nil_append])
              (refine walkR_only (fun w' => Ext wr w') rfl (by decide +kernel) rfl ?_ ?_)
              · exact fun _ h => h
              intro K hK
              go_simp
              refine (HRow.out i j hlt hjl _).mono ?_
              rintro e wa1 ⟨rfl, hx2⟩
              have hA1 := hE.trans hx2
              refine hK _ _ hA1 ?_
              clear hK K hx2
              (try simp only [Act.put, List.setIfInBounds_toArray, List.set_cons_zero, List.set_cons_succ])
              (refine walkR_only (fun w' => Ext wr w') rfl (by decide +kernel) rfl ?_ ?_)
              · exact fun _ h => h
              intro K hK
              go_simp
              refine (HBas.out k hkl _).mono ?_
              rintro e wb1 ⟨ab1, rfl, hob, hx2⟩
              have HB1 := hidP hob.ints
              clear hob
              have hB1 := hA1.trans hx2
              refine hK _ _ hB1 ?_
              clear hK K hx2
              (try simp only [Act.put, List.setIfInBounds_toArray, List.set_cons_zero, List.set_cons_succ])
              (refine walkR_only (fun w' => Ext wr w') rfl (by decide +kernel) rfl ?_ ?_)
              · exact fun _ h => h
              intro K hK
              go_simp
              refine (HBr.out i j k hlt hjl hkl _ (HX3.out.trans hB1) _ HB1.out).mono ?_
              rintro e wc1 ⟨ac1, rfl, hoc, hx2⟩
              have HC1 := hidP hoc.ints
              clear hoc
              have hC1 := hB1.trans hx2
              refine hK _ _ hC1 ?_
              clear hK K hx2
              (try simp only [Act.put, List.setIfInBounds_toArray, List.set_cons_zero, List.set_cons_succ])
              (refine walkR_tail (by rfl) (by kernel_rfl) ?_; simp only [List.drop_succ_cons, List.drop_zero])
              have HY1 := hidP (HX3.out.trans hC1)
              clear hE hA1 hB1 hC1
              go_wp2_with fail
              have hE : Ext wc1 wc1.drew := Ext.drew wc1
              go_wp2
              (refine walkR_start (fun w' => Ext wc1 w') 13 (by kernel_rfl) ?_; simp only [numbered, List.take_succ_cons, List.take_zero, Nat.zero_add, Nat.reduceAdd, List.length_cons, List.length_nil])
              repeat (refine walkR_still (v := ?_) rfl (by decide +kernel) rfl (fun _ _ _ h => h) hE ?_ ?_; rotate_left; (focus (intro w' hw'; obtain ⟨f0, f1, f2⟩ := HF.out w' (HY1.out.trans hw'); go_simp; all_goals (with_reducible rfl))); simp only [Act.put, List.setIfInBounds_toArray, List.set_cons_zero, List.set_cons_succ])
              (refine walkR_later ?_; simp only [List.cons_append, List.nil_append])
              repeat (refine walkR_still (v := ?_) rfl (by decide +kernel) rfl (fun _ _ _ h => h) hE ?_ ?_; rotate_left; (focus (intro w' hw'; obtain ⟨f0, f1, f2⟩ := HF.out w' (HY1.out.trans hw'); go_simp; all_goals (with_reducible rfl))); simp only [Act.put, List.setIfInBounds_toArray, List.set_cons_zero, List.set_cons_succ])
              (refine walkR_later ?_; simp only [List.cons_append, List.nil_append])
              (refine walkR_later ?_; simp only [List.cons_append, List.nil_append])
              (refine walkR_later ?_; simp only [List.cons_append, List.nil_append])
              (refine walkR_only (fun w' => Ext wc1 w') rfl (by decide +kernel) rfl ?_ ?_)
              · exact fun _ h => h
              intro K hK
              go_simp
              refine (HRow.out j k hjl hkl _).mono ?_
              rintro e wa2 ⟨rfl, hx2⟩
              have hA2 := hE.trans hx2
              refine hK _ _ hA2 ?_
              clear hK K hx2
              (try simp only [Act.put, List.setIfInBounds_toArray, List.set_cons_zero, List.set_cons_succ])
              (refine walkR_only (fun w' => Ext wc1 w') rfl (by decide +kernel) rfl ?_ ?_)
              · exact fun _ h => h
              intro K hK
              go_simp
              refine (HBas.out i hlt _).mono ?_
              rintro e wb2 ⟨ab2, rfl, hob, hx2⟩
              have HB2 := hidP hob.ints
              clear hob
              have hB2 := hA2.trans hx2
              refine hK _ _ hB2 ?_
              clear hK K hx2
              (try simp only [Act.put, List.setIfInBounds_toArray, List.set_cons_zero, List.set_cons_succ])
              (refine walkR_only (fun w' => Ext wc1 w') rfl (by decide +kernel) rfl ?_ ?_)
              · exact fun _ h => h
              intro K hK
              go_simp
              refine (HBr.out j k i hjl hkl hlt _ (HY1.out.trans hB2) _ HB2.out).mono ?_
              rintro e wc2 ⟨ac2, rfl, hoc, hx2⟩
              have HC2 := hidP hoc.ints
              clear hoc
              have hC2 := hB2.trans hx2
              refine hK _ _ hC2 ?_
              clear hK K hx2
              (try simp only [Act.put, List.setIfInBounds_toArray, List.set_cons_zero, List.set_cons_succ])
              (refine walkR_only (fun w' => Ext wc1 w') rfl (by decide +kernel) rfl ?_ ?_)
              · exact fun _ h => h
              intro K hK
              go_simp
              refine (l2Plus_any ac1 ac2 d d d (rightL p t d (pairL t d i j) k) (rightL p t d (pairL t d j k) i) p _ (HC1.out.below hC2) HC2.out (by omega) (rightL_res (by omega) _ _ _ _) (rightL_res (by omega) _ _ _ _) (by omega) hp2).mono ?_
              rintro e wd2 ⟨ad2, rfl, hod, hx2⟩
              have HD2 := hidP hod.ints
              clear hod
              have hD2 := hC2.trans hx2
              refine hK _ _ hD2 ?_
              clear hK K hx2
              (try simp only [Act.put, List.setIfInBounds_toArray, List.set_cons_zero, List.set_cons_succ])
              (refine walkR_tail (by rfl) (by kernel_rfl) ?_; simp only [List.drop_succ_cons, List.drop_zero])
              have HY2 := hidP (HY1.out.trans hD2)
              clear hE hA2 hB2 hC2 hD2
              go_wp2_with fail
              have hE : Ext wd2 wd2.drew := Ext.drew wd2
              go_wp2
              (refine walkR_start (fun w' => Ext wd2 w') 13 (by kernel_rfl) ?_; simp only [numbered, List.take_succ_cons, List.take_zero, Nat.zero_add, Nat.reduceAdd, List.length_cons, List.length_nil])
              repeat (refine walkR_still (v := ?_) rfl (by decide +kernel) rfl (fun _ _ _ h => h) hE ?_ ?_; rotate_left; (focus (intro w' hw'; obtain ⟨f0, f1, f2⟩ := HF.out w' (HY2.out.trans hw'); go_simp; all_goals (with_reducible rfl))); simp only [Act.put, List.setIfInBounds_toArray, List.set_cons_zero, List.set_cons_succ])
              (refine walkR_later ?_; simp only [List.cons_append, List.nil_append])
              repeat (refine walkR_still (v := ?_) rfl (by decide +kernel) rfl (fun _ _ _ h => h) hE ?_ ?_; rotate_left; (focus (intro w' hw'; obtain ⟨f0, f1, f2⟩ := HF.out w' (HY2.out.trans hw'); go_simp; all_goals (with_reducible rfl))); simp only [Act.put, List.setIfInBounds_toArray, List.set_cons_zero, List.set_cons_succ])
              (refine walkR_later ?_; simp only [List.cons_append, List.nil_append])
              (refine walkR_later ?_; simp only [List.cons_append, List.nil_append])
              (refine walkR_later ?_; simp only [List.cons_append, List.nil_append])
              (refine walkR_only (fun w' => Ext wd2 w') rfl (by decide +kernel) rfl ?_ ?_)
              · exact fun _ h => h
              intro K hK
              go_simp
              refine (HRow.out k i hkl hlt _).mono ?_
              rintro e wa3 ⟨rfl, hx2⟩
              have hA3 := hE.trans hx2
              refine hK _ _ hA3 ?_
              clear hK K hx2
              (try simp only [Act.put, List.setIfInBounds_toArray, List.set_cons_zero, List.set_cons_succ])
              (refine walkR_only (fun w' => Ext wd2 w') rfl (by decide +kernel) rfl ?_ ?_)
              · exact fun _ h => h
              intro K hK
              go_simp
              refine (HBas.out j hjl _).mono ?_
              rintro e wb3 ⟨ab3, rfl, hob, hx2⟩
              have HB3 := hidP hob.ints
              clear hob
              have hB3 := hA3.trans hx2
              refine hK _ _ hB3 ?_
              clear hK K hx2
              (try simp only [Act.put, List.setIfInBounds_toArray, List.set_cons_zero, List.set_cons_succ])
              (refine walkR_only (fun w' => Ext wd2 w') rfl (by decide +kernel) rfl ?_ ?_)
              · exact fun _ h => h
              intro K hK
              go_simp
              refine (HBr.out k i j hkl hlt hjl _ (HY2.out.trans hB3) _ HB3.out).mono ?_
              rintro e wc3 ⟨ac3, rfl, hoc, hx2⟩
              have HC3 := hidP hoc.ints
              clear hoc
              have hC3 := hB3.trans hx2
              refine hK _ _ hC3 ?_
              clear hK K hx2
              (try simp only [Act.put, List.setIfInBounds_toArray, List.set_cons_zero, List.set_cons_succ])
              (refine walkR_only (fun w' => Ext wd2 w') rfl (by decide +kernel) rfl ?_ ?_)
              · exact fun _ h => h
              intro K hK
              go_simp
              refine (l2Plus_any ad2 ac3 d d d (addL p (rightL p t d (pairL t d i j) k) 1 (rightL p t d (pairL t d j k) i)) (rightL p t d (pairL t d k i) j) p _ (HD2.out.below hC3) HC3.out (by omega) (addL_res (by omega) _ _ _) (rightL_res (by omega) _ _ _ _) (by omega) hp2).mono ?_
              rintro e wd3 ⟨ad3, rfl, hod, hx2⟩
              have HD3 := hidP hod.ints
              clear hod
              have hD3 := hC3.trans hx2
              refine hK _ _ hD3 ?_
              clear hK K hx2
              (try simp only [Act.put, List.setIfInBounds_toArray, List.set_cons_zero, List.set_cons_succ])
              (refine walkR_tail (by rfl) (by kernel_rfl) ?_; simp only [List.drop_succ_cons, List.drop_zero])
              have HY3 := hidP (HY2.out.trans hD3)
              clear hE hA3 hB3 hC3 hD3
              have HJB : Hid (jacB p t d i j k = zeroB (addL p (addL p (rightL p t d (pairL t d i j) k) 1 (rightL p t d (pairL t d j k) i)) 1 (rightL p t d (pairL t d k i) j))) := rfl
              generalize addL p (addL p (rightL p t d (pairL t d i j) k) 1 (rightL p t d (pairL t d j k) i)) 1 (rightL p t d (pairL t d k i) j) = Z at *
              go_wp2_with fail
              refine (l1IsZero_any _ _ _ _ _ HD3.out (by omega)).mono ?_
              rintro e we ⟨rfl, rfl⟩
              cases hz : zeroB Z
              · have HB : Hid (jacAllB p t d = false) := by
                  show _ = _
                  rw [Bool.eq_false_iff, ne_eq, jacAllB_true]
                  intro h
                  have := h i hlt j hjl k hkl hij hjk
                  rw [HJB.out, hz] at this
                  cases this
                go_wp2
                go_ret
                exact ⟨ret_bool HB.out.symm, HX1.out.trans HY3.out⟩
              · have HB : Hid (jacB p t d i j k = true) := HJB.out.trans hz
                go_wp2
                go_roundw
                case rel =>
                  refine ⟨k + 1, by omega, by omega, fun k' h' h1 => ?_, HY3.out, by go_num⟩
                  rcases Nat.lt_succ_iff_lt_or_eq.1 h' with h3 | rfl
                  · exact HJ3.out k' h3 h1
                  · exact HB.out
                case measure => simp [intOf]; omega
            · go_wp2
              go_roundw
              case rel =>
                refine ⟨j + 1, by omega, by omega, fun j' h' k' hk2 h1 h2 => ?_, HX3.out, by go_num⟩
                rcases Nat.lt_succ_iff_lt_or_eq.1 h' with h3 | rfl
                · exact HJ2.out j' h3 k' hk2 h1 h2
                · exact HJ3.out k' (by omega) h2
              case measure => simp [intOf]; omega
        · go_wp2
          go_roundw
          case rel =>
            refine ⟨i + 1, by omega, fun i' h' j' hj2 k' hk2 h1 h2 => ?_, HX2.out, by go_num⟩
            rcases Nat.lt_succ_iff_lt_or_eq.1 h' with h3 | rfl
            · exact HJ.out i' h3 j' hj2 k' hk2 h1 h2
            · exact HJ2.out j' (by omega) k' hk2 h1 h2
          case measure => simp [intOf]; omega
    · have HB : Hid (jacAllB p t d = true) := by
        show _ = _
        rw [jacAllB_true]
        exact fun i' h' => HJ.out i' (by omega)
      go_wp2
      go_ret
      exact ⟨ret_bool HB.out.symm, HX1.out.trans HX.out⟩
end Go.Proofs.Ytenlhfimdpcaoaa

namespace Go.Proofs.Ytenlhfimdpcaoaa
open Go.RowKit

/-- one place of the two rows that are skew -/
def skewK (p : Int) (t : List Int) (d i j k : Nat) : Bool := !((decide (i = j) && tab t d i j k != 0) || (tab t d i j k + tab t d j i k) % p != 0)
theorem skewB_of {p : Int} {t : List Int} {d i j : Nat} (ht : t.length = d * d * d) (hi : i < d) (hj : j < d) : skewB p t d i j = true ↔ ∀ k, k < d → skewK p t d i j k = true := by
  unfold skewB skewK
  rw [Bool.and_eq_true, zeroB_true, Bool.or_eq_true, zeroB_true, addL_length, pairL_length ht hi hj, pairL_length ht hi hi]
  constructor
  · rintro ⟨h1, h2⟩ k hk
    have h1 := h1 k hk
    rw [addL_get _ _ _ _ _ (by rw [pairL_length ht hi hj]; exact hk), pairL_get i j k hk, pairL_get j i k hk, Int.one_mul] at h1
    rw [h1]
    rcases h2 with h2 | h2
    · have : ¬ i = j := by simpa using h2
      simp [this]
    · by_cases hij : i = j
      · subst hij
        have := h2 k hk
        rw [pairL_get i i k hk] at this
        simp [this]
      · simp [hij]
  · intro h
    refine ⟨fun k hk => ?_, ?_⟩
    · have := h k hk
      simp only [Bool.not_or, Bool.and_eq_true, Bool.not_eq_true', bne_eq_false_iff_eq] at this
      rw [addL_get _ _ _ _ _ (by rw [pairL_length ht hi hj]; exact hk), pairL_get i j k hk, pairL_get j i k hk, Int.one_mul]
      exact this.2
    · by_cases hij : i = j
      · right
        subst hij
        intro k hk
        have := h k hk
        rw [pairL_get i i k hk]
        simp at this
        exact this.1
      · left
        simpa using hij

set_option maxRecDepth 100000 in
set_option maxHeartbeats 4000000 in
theorem sAlgebraOk_good (p : Int) (d : Nat) (a : Option Addr) (N c : Nat) (t : List Int) (w : World) (ht : IntsAt w a N t) (hnc : N ≤ c) (hc2 : c ≤ 1000000000000) (hh : headB p d t = true) :
    Calls Try.prog 86 #[algV p d a N c] w fun e w' => e = .returned (.bool (algB p d t)) ∧ Ext w w' := by
  obtain ⟨hp, hd0, hd, hl, hr⟩ := headB_true hh
  obtain ⟨p2, p7⟩ := prime_bounds hp
  have hi : insB d 0 28 = true := insB_true.2 ⟨hd0, hd⟩
  obtain ⟨k1, k2, k3, k4⟩ := cube_le hd0 hd
  have hlN := ht.len
  have hN : N = d * d * d := by
    have : ((t.length : Nat) : Int) = ((d * d * d : Nat) : Int) := by rw [hl]; simp
    omega
  have hNi : ((N : Int) != (d : Int) * d * d) = false := by rw [← hlN, hl]; simp
  have hrb : resB p t = true := resB_true.2 hr
  have hx0 : Ext w (w.alloc (.cells #[.int .i64 p, .int .i64 (d : Int), .slice a N c] 24)) := Ext.alloc _ _
  have HRS := hidP (l1Residues_any a N c t p _ (ht.below hx0) (by omega))
  have HAL := hidP (AlgAt.new w _ rfl p d a N c 24)
  have HT := hidP ht
  have HR := hidP hr
  have HH := hidP hh
  have HN := hidP hN
  have HX1 := hidP hx0
  have LT := hidP (hlN.trans hN)
  clear ht hr hh hl hlN hN hx0
  go_enter Try.func86, Try.ntmps86
  go_wp2_with (first | (go_at_call 46; refine (sIsPrime_any _ _).mono ?_; rintro e w' ⟨rfl, rfl⟩) | (go_at_call 47; refine (l1In_any _ _ _ _).mono ?_; rintro e w' ⟨rfl, rfl⟩) | (go_at_call 133; refine HRS.out.mono ?_; rintro e w1 ⟨rfl, rfl⟩))
  obtain ⟨w0, hw0⟩ : ∃ w0, w0 = w.alloc (.cells #[.int .i64 p, .int .i64 (d : Int), .slice a N c] 24) := ⟨_, rfl⟩
  rw [← hw0] at HAL HX1 ⊢
  clear hw0 HRS hNi hi hrb hp k1 k2 k3 k4
  have HF := hidP (fun w' (hx : Ext w0 w') => (⟨(HAL.out.below hx).c0, (HAL.out.below hx).c1, (HAL.out.below hx).c2⟩ : _ ∧ _ ∧ _))
  go_loopw [4] (fun v wr => ∃ i : Nat, i ≤ d ∧ Hid (∀ i', i' < i → ∀ j, j < i' + 1 → skewB p t d i' j = true) ∧ Hid (Ext w0 wr) ∧ v = .int .i64 i) (fun v _ => d - (intOf v).toNat)
  case atStart => exact ⟨0, Nat.zero_le _, fun i' h => by omega, Ext.refl _, rfl⟩
  case round =>
    obtain ⟨i, hi', HJ, HX, rfl⟩ := hrel
    by_cases hlt : i < d
    · obtain ⟨b, o, rfl, _⟩ := HT.out.get 0 (by rw [HN.out]; exact Nat.mul_pos (Nat.mul_pos (by omega) (by omega)) (by omega))
      have HGet : Hid (∀ i j k, i < d → j < d → k < d → ∀ w', Ext w0 w' →
          Calls Try.prog 134 #[algV p d (some ⟨b, o, none⟩) N c, .int .i64 i, .int .i64 j, .int .i64 k] w' fun e w2 => e = .returned (.int .i64 (tab t d i j k)) ∧ Ext w' w2) :=
        fun i j k hi hj hk w' hx => l2Get_any p d i j k b o N c t w' ((HT.out.below HX1.out).below hx) (by omega) hi hj hk HN.out
      have HTab : Hid (∀ i j k, i < d → j < d → k < d → 0 ≤ tab t d i j k ∧ tab t d i j k < p) :=
        fun i j k hi hj hk => HR.out _ (by have := LT.out; have := nidx_lt hi hj; omega)
      obtain ⟨wo, rfl⟩ : ∃ wo : World, wo = wr := ⟨_, rfl⟩
      go_wp2
      go_loopw [5] (fun v wr => ∃ j : Nat, j ≤ i + 1 ∧ Hid (∀ j', j' < j → skewB p t d i j' = true) ∧ Hid (Ext w0 wr) ∧ v = .int .i64 j) (fun v _ => i + 1 - (intOf v).toNat)
      case atStart => exact ⟨0, Nat.zero_le _, fun i' h => by omega, HX, rfl⟩
      case round =>
        obtain ⟨j, hj', HJ2, HX2, rfl⟩ := hrel
        by_cases hjl : j < i + 1
        · have hjd : j < d := by omega
          have hji : j ≤ i := by omega
          obtain ⟨wo2, rfl⟩ : ∃ wo2 : World, wo2 = wr := ⟨_, rfl⟩
          go_wp2
          go_loopw [6] (fun v wr => ∃ k : Nat, k ≤ d ∧ Hid (∀ k', k' < k → skewK p t d i j k' = true) ∧ Hid (Ext w0 wr) ∧ v = .int .i64 k) (fun v _ => d - (intOf v).toNat)
          case atStart => exact ⟨0, Nat.zero_le _, fun i' h => by omega, HX2, rfl⟩
          case round =>
            obtain ⟨k, hk', HJ3, HX3, rfl⟩ := hrel
            by_cases hkl : k < d
            · have HSK : Hid (skewK p t d i j k = !((decide (i = j) && tab t d i j k != 0) || (tab t d i j k + tab t d j i k) % p != 0)) := rfl
              have HG1 := hidP (HGet.out i j k hlt hjd hkl)
              have HG2 := hidP (HGet.out j i k hjd hlt hkl)
              have ra := HTab.out i j k hlt hjd hkl
              have rb := HTab.out j i k hjd hlt hkl
              have HBad : skewK p t d i j k = false → Hid (algB p d t = false) := by
                intro hf
                show _ = _
                rw [algB_false]
                intro h
                have h1 := h.2.1 i (by simpa using hlt) j hjl
                simp only [Int.toNat_natCast] at h1
                rw [skewB_of LT.out hlt hjd] at h1
                rw [h1 k hkl] at hf
                cases hf
              have HBad := hidP HBad
              generalize tab t d i j k = x at *
              generalize tab t d j i k = y at *
              have e1 : IntKind.i64.wrap (x + y) = x + y := wrap_in (by omega) (by omega)
              have e2 : Int.tmod (x + y) p = (x + y) % p := Int.tmod_eq_emod_of_nonneg (by omega)
              have hpz : ¬ p = 0 := by omega
              have hE : Ext wr wr.drew := Ext.drew wr
              generalize (x + y) % p = s at *
              have HG : Hid (0 ≤ x ∧ 0 ≤ y) := ⟨ra.1, rb.1⟩
              clear ra rb
              by_cases hij : i = j
              · have hd1 : ((i : Int) == j) = true := by simp [hij]
                rw [decide_eq_true hij] at HSK
                clear hij
                cases hx1 : (x != 0)
                · cases hs1 : (s != 0)
                  · go_wp2
                    (refine walkR_start (fun w' => Ext wr w') 27 (by kernel_rfl) ?_; simp only [numbered, List.take_succ_cons, List.take_zero, Nat.zero_add, Nat.reduceAdd, List.length_cons, List.length_nil])
                    repeat (refine walkR_still (v := ?_) rfl (by decide +kernel) rfl (fun _ _ _ h => h) hE ?_ ?_; rotate_left; (focus (intro w' hw'; obtain ⟨f0, f1, f2⟩ := HF.out w' (HX3.out.trans hw'); go_simp; all_goals (with_reducible rfl))); simp only [Act.put, List.setIfInBounds_toArray, List.set_cons_zero, List.set_cons_succ])
                    (refine walkR_only (fun w' => Ext wr w') rfl (by decide +kernel) rfl ?_ ?_)
                    · exact fun _ h => h
                    intro K hK
                    go_simp
                    refine (HG1.out _ (HX3.out.trans hE)).mono ?_
                    rintro e wa ⟨rfl, hx2⟩
                    have hA := hE.trans hx2
                    refine hK _ _ hA ?_
                    clear hK K hx2
                    (try simp only [Act.put, List.setIfInBounds_toArray, List.set_cons_zero, List.set_cons_succ])
                    repeat (refine walkR_still (v := ?_) rfl (by decide +kernel) rfl (fun _ _ _ h => h) hA ?_ ?_; rotate_left; (focus (intro w' hw'; obtain ⟨f0, f1, f2⟩ := HF.out w' (HX3.out.trans hw'); go_simp; all_goals (with_reducible rfl))); simp only [Act.put, List.setIfInBounds_toArray, List.set_cons_zero, List.set_cons_succ])
                    (refine walkR_later ?_; simp only [List.cons_append, List.nil_append])
                    repeat (refine walkR_still (v := ?_) rfl (by decide +kernel) rfl (fun _ _ _ h => h) hA ?_ ?_; rotate_left; (focus (intro w' hw'; obtain ⟨f0, f1, f2⟩ := HF.out w' (HX3.out.trans hw'); go_simp; all_goals (with_reducible rfl))); simp only [Act.put, List.setIfInBounds_toArray, List.set_cons_zero, List.set_cons_succ])
                    (refine walkR_later ?_; simp only [List.cons_append, List.nil_append])
                    (refine walkR_later ?_; simp only [List.cons_append, List.nil_append])
                    repeat (refine walkR_still (v := ?_) rfl (by decide +kernel) rfl (fun _ _ _ h => h) hA ?_ ?_; rotate_left; (focus (intro w' hw'; obtain ⟨f0, f1, f2⟩ := HF.out w' (HX3.out.trans hw'); go_simp; all_goals (with_reducible rfl))); simp only [Act.put, List.setIfInBounds_toArray, List.set_cons_zero, List.set_cons_succ])
                    (refine walkR_later ?_; simp only [List.cons_append, List.nil_append])
                    (refine walkR_later ?_; simp only [List.cons_append, List.nil_append])
                    (refine walkR_only (fun w' => Ext wr w') rfl (by decide +kernel) rfl ?_ ?_)
                    · exact fun _ h => h
                    intro K hK
                    go_simp
                    refine (HG1.out _ (HX3.out.trans hA)).mono ?_
                    rintro e wb ⟨rfl, hx2⟩
                    have hB := hA.trans hx2
                    refine hK _ _ hB ?_
                    clear hK K hx2
                    (try simp only [Act.put, List.setIfInBounds_toArray, List.set_cons_zero, List.set_cons_succ])
                    (refine walkR_only (fun w' => Ext wr w') rfl (by decide +kernel) rfl ?_ ?_)
                    · exact fun _ h => h
                    intro K hK
                    go_simp
                    refine (HG2.out _ (HX3.out.trans hB)).mono ?_
                    rintro e wc ⟨rfl, hx2⟩
                    have hC := hB.trans hx2
                    refine hK _ _ hC ?_
                    clear hK K hx2
                    (try simp only [Act.put, List.setIfInBounds_toArray, List.set_cons_zero, List.set_cons_succ])
                    repeat (refine walkR_still (v := ?_) rfl (by decide +kernel) rfl (fun _ _ _ h => h) hC ?_ ?_; rotate_left; (focus (intro w' hw'; obtain ⟨f0, f1, f2⟩ := HF.out w' (HX3.out.trans hw'); go_simp; all_goals (with_reducible rfl))); simp only [Act.put, List.setIfInBounds_toArray, List.set_cons_zero, List.set_cons_succ])
                    (refine walkR_tail (by rfl) (by kernel_rfl) ?_; simp only [List.drop_succ_cons, List.drop_zero])
                    have HY := hidP (HX3.out.trans hC)
                    have HB : Hid (skewK p t d i j k = true) := HSK.out.trans (by rw [hx1, hs1]; simp)
                    go_wp2
                    go_roundw
                    case rel =>
                      refine ⟨k + 1, by omega, fun k' h' => ?_, HY.out, by go_num⟩
                      rcases Nat.lt_succ_iff_lt_or_eq.1 h' with h3 | rfl
                      · exact HJ3.out k' h3
                      · exact HB.out
                    case measure => simp [intOf]; omega
                  · go_wp2
                    (refine walkR_start (fun w' => Ext wr w') 27 (by kernel_rfl) ?_; simp only [numbered, List.take_succ_cons, List.take_zero, Nat.zero_add, Nat.reduceAdd, List.length_cons, List.length_nil])
                    repeat (refine walkR_still (v := ?_) rfl (by decide +kernel) rfl (fun _ _ _ h => h) hE ?_ ?_; rotate_left; (focus (intro w' hw'; obtain ⟨f0, f1, f2⟩ := HF.out w' (HX3.out.trans hw'); go_simp; all_goals (with_reducible rfl))); simp only [Act.put, List.setIfInBounds_toArray, List.set_cons_zero, List.set_cons_succ])
                    (refine walkR_only (fun w' => Ext wr w') rfl (by decide +kernel) rfl ?_ ?_)
                    · exact fun _ h => h
                    intro K hK
                    go_simp
                    refine (HG1.out _ (HX3.out.trans hE)).mono ?_
                    rintro e wa ⟨rfl, hx2⟩
                    have hA := hE.trans hx2
                    refine hK _ _ hA ?_
                    clear hK K hx2
                    (try simp only [Act.put, List.setIfInBounds_toArray, List.set_cons_zero, List.set_cons_succ])
                    repeat (refine walkR_still (v := ?_) rfl (by decide +kernel) rfl (fun _ _ _ h => h) hA ?_ ?_; rotate_left; (focus (intro w' hw'; obtain ⟨f0, f1, f2⟩ := HF.out w' (HX3.out.trans hw'); go_simp; all_goals (with_reducible rfl))); simp only [Act.put, List.setIfInBounds_toArray, List.set_cons_zero, List.set_cons_succ])
                    (refine walkR_later ?_; simp only [List.cons_append, List.nil_append])
                    repeat (refine walkR_still (v := ?_) rfl (by decide +kernel) rfl (fun _ _ _ h => h) hA ?_ ?_; rotate_left; (focus (intro w' hw'; obtain ⟨f0, f1, f2⟩ := HF.out w' (HX3.out.trans hw'); go_simp; all_goals (with_reducible rfl))); simp only [Act.put, List.setIfInBounds_toArray, List.set_cons_zero, List.set_cons_succ])
                    (refine walkR_later ?_; simp only [List.cons_append, List.nil_append])
                    (refine walkR_later ?_; simp only [List.cons_append, List.nil_append])
                    repeat (refine walkR_still (v := ?_) rfl (by decide +kernel) rfl (fun _ _ _ h => h) hA ?_ ?_; rotate_left; (focus (intro w' hw'; obtain ⟨f0, f1, f2⟩ := HF.out w' (HX3.out.trans hw'); go_simp; all_goals (with_reducible rfl))); simp only [Act.put, List.setIfInBounds_toArray, List.set_cons_zero, List.set_cons_succ])
                    (refine walkR_later ?_; simp only [List.cons_append, List.nil_append])
                    (refine walkR_later ?_; simp only [List.cons_append, List.nil_append])
                    (refine walkR_only (fun w' => Ext wr w') rfl (by decide +kernel) rfl ?_ ?_)
                    · exact fun _ h => h
                    intro K hK
                    go_simp
                    refine (HG1.out _ (HX3.out.trans hA)).mono ?_
                    rintro e wb ⟨rfl, hx2⟩
                    have hB := hA.trans hx2
                    refine hK _ _ hB ?_
                    clear hK K hx2
                    (try simp only [Act.put, List.setIfInBounds_toArray, List.set_cons_zero, List.set_cons_succ])
                    (refine walkR_only (fun w' => Ext wr w') rfl (by decide +kernel) rfl ?_ ?_)
                    · exact fun _ h => h
                    intro K hK
                    go_simp
                    refine (HG2.out _ (HX3.out.trans hB)).mono ?_
                    rintro e wc ⟨rfl, hx2⟩
                    have hC := hB.trans hx2
                    refine hK _ _ hC ?_
                    clear hK K hx2
                    (try simp only [Act.put, List.setIfInBounds_toArray, List.set_cons_zero, List.set_cons_succ])
                    repeat (refine walkR_still (v := ?_) rfl (by decide +kernel) rfl (fun _ _ _ h => h) hC ?_ ?_; rotate_left; (focus (intro w' hw'; obtain ⟨f0, f1, f2⟩ := HF.out w' (HX3.out.trans hw'); go_simp; all_goals (with_reducible rfl))); simp only [Act.put, List.setIfInBounds_toArray, List.set_cons_zero, List.set_cons_succ])
                    (refine walkR_tail (by rfl) (by kernel_rfl) ?_; simp only [List.drop_succ_cons, List.drop_zero])
                    have HY := hidP (HX3.out.trans hC)
                    have HB := HBad.out (HSK.out.trans (by rw [hs1]; simp))
                    go_wp2
                    go_ret
                    exact ⟨ret_bool HB.out.symm, HX1.out.trans HY.out⟩
                · clear e1 e2
                  go_wp2
                  (refine walkR_start (fun w' => Ext wr w') 27 (by kernel_rfl) ?_; simp only [numbered, List.take_succ_cons, List.take_zero, Nat.zero_add, Nat.reduceAdd, List.length_cons, List.length_nil])
                  repeat (refine walkR_still (v := ?_) rfl (by decide +kernel) rfl (fun _ _ _ h => h) hE ?_ ?_; rotate_left; (focus (intro w' hw'; obtain ⟨f0, f1, f2⟩ := HF.out w' (HX3.out.trans hw'); go_simp; all_goals (with_reducible rfl))); simp only [Act.put, List.setIfInBounds_toArray, List.set_cons_zero, List.set_cons_succ])
                  (refine walkR_only (fun w' => Ext wr w') rfl (by decide +kernel) rfl ?_ ?_)
                  · exact fun _ h => h
                  intro K hK
                  go_simp
                  refine (HG1.out _ (HX3.out.trans hE)).mono ?_
                  rintro e wa ⟨rfl, hx2⟩
                  have hA := hE.trans hx2
                  refine hK _ _ hA ?_
                  clear hK K hx2
                  (try simp only [Act.put, List.setIfInBounds_toArray, List.set_cons_zero, List.set_cons_succ])
                  repeat (refine walkR_still (v := ?_) rfl (by decide +kernel) rfl (fun _ _ _ h => h) hA ?_ ?_; rotate_left; (focus (intro w' hw'; obtain ⟨f0, f1, f2⟩ := HF.out w' (HX3.out.trans hw'); go_simp; all_goals (with_reducible rfl))); simp only [Act.put, List.setIfInBounds_toArray, List.set_cons_zero, List.set_cons_succ])
                  iterate 15 (refine walkR_skip rfl (by decide +kernel) rfl (fun _ _ _ h => h) hA ?_; simp only [Act.put, List.setIfInBounds_toArray, List.set_cons_zero, List.set_cons_succ])
                  repeat (refine walkR_still (v := ?_) rfl (by decide +kernel) rfl (fun _ _ _ h => h) hA ?_ ?_; rotate_left; (focus (intro w' hw'; obtain ⟨f0, f1, f2⟩ := HF.out w' (HX3.out.trans hw'); go_simp; all_goals (with_reducible rfl))); simp only [Act.put, List.setIfInBounds_toArray, List.set_cons_zero, List.set_cons_succ])
                  (refine walkR_tail (by rfl) (by kernel_rfl) ?_; simp only [List.drop_succ_cons, List.drop_zero])
                  have HY := hidP (HX3.out.trans hA)
                  have HB := HBad.out (HSK.out.trans (by rw [hx1]; simp))
                  go_wp2
                  go_ret
                  exact ⟨ret_bool HB.out.symm, HX1.out.trans HY.out⟩
              · have hd1 : ((i : Int) == j) = false := by simp; omega
                rw [decide_eq_false hij] at HSK
                clear hij
                cases hs1 : (s != 0)
                · go_wp2
                  (refine walkR_start (fun w' => Ext wr w') 27 (by kernel_rfl) ?_; simp only [numbered, List.take_succ_cons, List.take_zero, Nat.zero_add, Nat.reduceAdd, List.length_cons, List.length_nil])
                  repeat (refine walkR_still (v := ?_) rfl (by decide +kernel) rfl (fun _ _ _ h => h) hE ?_ ?_; rotate_left; (focus (intro w' hw'; obtain ⟨f0, f1, f2⟩ := HF.out w' (HX3.out.trans hw'); go_simp; all_goals (with_reducible rfl))); simp only [Act.put, List.setIfInBounds_toArray, List.set_cons_zero, List.set_cons_succ])
                  iterate 6 (refine walkR_skip rfl (by decide +kernel) rfl (fun _ _ _ h => h) hE ?_; simp only [Act.put, List.setIfInBounds_toArray, List.set_cons_zero, List.set_cons_succ])
                  repeat (refine walkR_still (v := ?_) rfl (by decide +kernel) rfl (fun _ _ _ h => h) hE ?_ ?_; rotate_left; (focus (intro w' hw'; obtain ⟨f0, f1, f2⟩ := HF.out w' (HX3.out.trans hw'); go_simp; all_goals (with_reducible rfl))); simp only [Act.put, List.setIfInBounds_toArray, List.set_cons_zero, List.set_cons_succ])
                  (refine walkR_later ?_; simp only [List.cons_append, List.nil_append])
                  repeat (refine walkR_still (v := ?_) rfl (by decide +kernel) rfl (fun _ _ _ h => h) hE ?_ ?_; rotate_left; (focus (intro w' hw'; obtain ⟨f0, f1, f2⟩ := HF.out w' (HX3.out.trans hw'); go_simp; all_goals (with_reducible rfl))); simp only [Act.put, List.setIfInBounds_toArray, List.set_cons_zero, List.set_cons_succ])
                  (refine walkR_later ?_; simp only [List.cons_append, List.nil_append])
                  (refine walkR_later ?_; simp only [List.cons_append, List.nil_append])
                  repeat (refine walkR_still (v := ?_) rfl (by decide +kernel) rfl (fun _ _ _ h => h) hE ?_ ?_; rotate_left; (focus (intro w' hw'; obtain ⟨f0, f1, f2⟩ := HF.out w' (HX3.out.trans hw'); go_simp; all_goals (with_reducible rfl))); simp only [Act.put, List.setIfInBounds_toArray, List.set_cons_zero, List.set_cons_succ])
                  (refine walkR_later ?_; simp only [List.cons_append, List.nil_append])
                  (refine walkR_later ?_; simp only [List.cons_append, List.nil_append])
                  (refine walkR_only (fun w' => Ext wr w') rfl (by decide +kernel) rfl ?_ ?_)
                  · exact fun _ h => h
                  intro K hK
                  go_simp
                  refine (HG1.out _ (HX3.out.trans hE)).mono ?_
                  rintro e wb ⟨rfl, hx2⟩
                  have hB := hE.trans hx2
                  refine hK _ _ hB ?_
                  clear hK K hx2
                  (try simp only [Act.put, List.setIfInBounds_toArray, List.set_cons_zero, List.set_cons_succ])
                  (refine walkR_only (fun w' => Ext wr w') rfl (by decide +kernel) rfl ?_ ?_)
                  · exact fun _ h => h
                  intro K hK
                  go_simp
                  refine (HG2.out _ (HX3.out.trans hB)).mono ?_
                  rintro e wc ⟨rfl, hx2⟩
                  have hC := hB.trans hx2
                  refine hK _ _ hC ?_
                  clear hK K hx2
                  (try simp only [Act.put, List.setIfInBounds_toArray, List.set_cons_zero, List.set_cons_succ])
                  repeat (refine walkR_still (v := ?_) rfl (by decide +kernel) rfl (fun _ _ _ h => h) hC ?_ ?_; rotate_left; (focus (intro w' hw'; obtain ⟨f0, f1, f2⟩ := HF.out w' (HX3.out.trans hw'); go_simp; all_goals (with_reducible rfl))); simp only [Act.put, List.setIfInBounds_toArray, List.set_cons_zero, List.set_cons_succ])
                  (refine walkR_tail (by rfl) (by kernel_rfl) ?_; simp only [List.drop_succ_cons, List.drop_zero])
                  have HY := hidP (HX3.out.trans hC)
                  have HB : Hid (skewK p t d i j k = true) := HSK.out.trans (by rw [hs1]; simp)
                  go_wp2
                  go_roundw
                  case rel =>
                    refine ⟨k + 1, by omega, fun k' h' => ?_, HY.out, by go_num⟩
                    rcases Nat.lt_succ_iff_lt_or_eq.1 h' with h3 | rfl
                    · exact HJ3.out k' h3
                    · exact HB.out
                  case measure => simp [intOf]; omega
                · go_wp2
                  (refine walkR_start (fun w' => Ext wr w') 27 (by kernel_rfl) ?_; simp only [numbered, List.take_succ_cons, List.take_zero, Nat.zero_add, Nat.reduceAdd, List.length_cons, List.length_nil])
                  repeat (refine walkR_still (v := ?_) rfl (by decide +kernel) rfl (fun _ _ _ h => h) hE ?_ ?_; rotate_left; (focus (intro w' hw'; obtain ⟨f0, f1, f2⟩ := HF.out w' (HX3.out.trans hw'); go_simp; all_goals (with_reducible rfl))); simp only [Act.put, List.setIfInBounds_toArray, List.set_cons_zero, List.set_cons_succ])
                  iterate 6 (refine walkR_skip rfl (by decide +kernel) rfl (fun _ _ _ h => h) hE ?_; simp only [Act.put, List.setIfInBounds_toArray, List.set_cons_zero, List.set_cons_succ])
                  repeat (refine walkR_still (v := ?_) rfl (by decide +kernel) rfl (fun _ _ _ h => h) hE ?_ ?_; rotate_left; (focus (intro w' hw'; obtain ⟨f0, f1, f2⟩ := HF.out w' (HX3.out.trans hw'); go_simp; all_goals (with_reducible rfl))); simp only [Act.put, List.setIfInBounds_toArray, List.set_cons_zero, List.set_cons_succ])
                  (refine walkR_later ?_; simp only [List.cons_append, List.nil_append])
                  repeat (refine walkR_still (v := ?_) rfl (by decide +kernel) rfl (fun _ _ _ h => h) hE ?_ ?_; rotate_left; (focus (intro w' hw'; obtain ⟨f0, f1, f2⟩ := HF.out w' (HX3.out.trans hw'); go_simp; all_goals (with_reducible rfl))); simp only [Act.put, List.setIfInBounds_toArray, List.set_cons_zero, List.set_cons_succ])
                  (refine walkR_later ?_; simp only [List.cons_append, List.nil_append])
                  (refine walkR_later ?_; simp only [List.cons_append, List.nil_append])
                  repeat (refine walkR_still (v := ?_) rfl (by decide +kernel) rfl (fun _ _ _ h => h) hE ?_ ?_; rotate_left; (focus (intro w' hw'; obtain ⟨f0, f1, f2⟩ := HF.out w' (HX3.out.trans hw'); go_simp; all_goals (with_reducible rfl))); simp only [Act.put, List.setIfInBounds_toArray, List.set_cons_zero, List.set_cons_succ])
                  (refine walkR_later ?_; simp only [List.cons_append, List.nil_append])
                  (refine walkR_later ?_; simp only [List.cons_append, List.nil_append])
                  (refine walkR_only (fun w' => Ext wr w') rfl (by decide +kernel) rfl ?_ ?_)
                  · exact fun _ h => h
                  intro K hK
                  go_simp
                  refine (HG1.out _ (HX3.out.trans hE)).mono ?_
                  rintro e wb ⟨rfl, hx2⟩
                  have hB := hE.trans hx2
                  refine hK _ _ hB ?_
                  clear hK K hx2
                  (try simp only [Act.put, List.setIfInBounds_toArray, List.set_cons_zero, List.set_cons_succ])
                  (refine walkR_only (fun w' => Ext wr w') rfl (by decide +kernel) rfl ?_ ?_)
                  · exact fun _ h => h
                  intro K hK
                  go_simp
                  refine (HG2.out _ (HX3.out.trans hB)).mono ?_
                  rintro e wc ⟨rfl, hx2⟩
                  have hC := hB.trans hx2
                  refine hK _ _ hC ?_
                  clear hK K hx2
                  (try simp only [Act.put, List.setIfInBounds_toArray, List.set_cons_zero, List.set_cons_succ])
                  repeat (refine walkR_still (v := ?_) rfl (by decide +kernel) rfl (fun _ _ _ h => h) hC ?_ ?_; rotate_left; (focus (intro w' hw'; obtain ⟨f0, f1, f2⟩ := HF.out w' (HX3.out.trans hw'); go_simp; all_goals (with_reducible rfl))); simp only [Act.put, List.setIfInBounds_toArray, List.set_cons_zero, List.set_cons_succ])
                  (refine walkR_tail (by rfl) (by kernel_rfl) ?_; simp only [List.drop_succ_cons, List.drop_zero])
                  have HY := hidP (HX3.out.trans hC)
                  have HB := HBad.out (HSK.out.trans (by rw [hs1]; simp))
                  go_wp2
                  go_ret
                  exact ⟨ret_bool HB.out.symm, HX1.out.trans HY.out⟩
            · have HB : Hid (skewB p t d i j = true) := (skewB_of LT.out hlt hjd).2 (fun k' h' => HJ3.out k' (by omega))
              go_wp2
              go_roundw
              case rel =>
                refine ⟨j + 1, by omega, fun j' h' => ?_, HX3.out, by go_num⟩
                rcases Nat.lt_succ_iff_lt_or_eq.1 h' with h3 | rfl
                · exact HJ2.out j' h3
                · exact HB.out
              case measure => simp [intOf]; omega
        · obtain rfl : j = i + 1 := by omega
          go_wp2
          go_roundw
          case rel =>
            refine ⟨i + 1, by omega, fun i' h' j' hj2 => ?_, HX2.out, by go_num⟩
            rcases Nat.lt_succ_iff_lt_or_eq.1 h' with h3 | rfl
            · exact HJ.out i' h3 j' hj2
            · exact HJ2.out j' hj2
          case measure => simp [intOf]; omega
    · have HJA := hidP (fun w' (hx : Ext w0 w') => l2Jacobi_any p d N c a t w' (by omega) HN.out ((HT.out.below HX1.out).below hx) (by omega) p7 HR.out hnc hc2)
      have HB : Hid (jacAllB p t d = algB p d t) := by
        show _ = _
        rw [Bool.eq_iff_iff, jacAllB_true, algB_true]
        unfold AlgP
        simp only [Int.toNat_natCast]
        exact ⟨fun h => ⟨HH.out, fun i' h' => HJ.out i' (by omega), h⟩, fun h => h.2.2⟩
      obtain ⟨f0, f1, f2⟩ := HF.out wr HX.out
      go_wp2_with fail
      refine (HJA.out _ HX.out).mono ?_
      rintro e w2 ⟨rfl, hx2⟩
      go_wp2
      go_ret
      exact ⟨ret_bool HB.out, HX1.out.trans (HX.out.trans hx2)⟩

set_option maxHeartbeats 2000000 in
theorem sAlgebraOk_any (p d : Int) (a : Option Addr) (N c : Nat) (t : List Int) (w : World) (ht : IntsAt w a N t) (hnc : N ≤ c) (hc2 : c ≤ 1000000000000) :
    Calls Try.prog 86 #[algV p d a N c] w fun e w' => e = .returned (.bool (algB p d t)) ∧ Ext w w' := by
  cases hh : headB p d t
  · have HB : Hid (algB p d t = false) := by
      show _ = _
      rw [algB_false]
      intro h
      rw [h.1] at hh
      cases hh
    have hl := ht.len
    simp only [headB, Bool.and_eq_false_iff, decide_eq_false_iff_not] at hh
    cases hp : primeB p
    · clear hh ht hl
      go_enter Try.func86, Try.ntmps86
      go_wp2_with (first | (go_at_call 46; refine (sIsPrime_any _ _).mono ?_; rintro e w' ⟨rfl, rfl⟩))
      go_ret
      exact ⟨ret_bool HB.out.symm, Ext.alloc _ _⟩
    · cases hi : insB d 0 28
      · clear hh ht hl
        go_enter Try.func86, Try.ntmps86
        go_wp2_with (first | (go_at_call 46; refine (sIsPrime_any _ _).mono ?_; rintro e w' ⟨rfl, rfl⟩) | (go_at_call 47; refine (l1In_any _ _ _ _).mono ?_; rintro e w' ⟨rfl, rfl⟩))
        go_ret
        exact ⟨ret_bool HB.out.symm, Ext.alloc _ _⟩
      · obtain ⟨h0, h28⟩ := insB_true.1 hi
        obtain ⟨k1, k2, k3, k4⟩ := cube_le h0 h28
        obtain ⟨p2, p7⟩ := prime_bounds hp
        by_cases hn : (N : Int) = d * d * d
        · have hr : resB p t = false := by
            rcases hh with ((h | h) | h) | h
            · rw [hp] at h; cases h
            · rw [hi] at h; cases h
            · exact absurd (by rw [hl]; exact hn) h
            · exact h
          have hNi : ((N : Int) != d * d * d) = false := by rw [hn]; simp
          have hx0 : Ext w (w.alloc (.cells #[.int .i64 p, .int .i64 d, .slice a N c] 24)) := Ext.alloc _ _
          have HRS := hidP (l1Residues_any a N c t p _ (ht.below hx0) (by omega))
          clear hh ht hl hn hx0
          go_enter Try.func86, Try.ntmps86
          go_wp2_with (first | (go_at_call 46; refine (sIsPrime_any _ _).mono ?_; rintro e w' ⟨rfl, rfl⟩) | (go_at_call 47; refine (l1In_any _ _ _ _).mono ?_; rintro e w' ⟨rfl, rfl⟩) | (go_at_call 133; refine HRS.out.mono ?_; rintro e w1 ⟨rfl, rfl⟩))
          go_ret
          exact ⟨ret_bool HB.out.symm, Ext.alloc _ _⟩
        · have hNi : ((N : Int) != d * d * d) = true := bne_iff_ne.2 hn
          clear hh ht hl hn
          go_enter Try.func86, Try.ntmps86
          go_wp2_with (first | (go_at_call 46; refine (sIsPrime_any _ _).mono ?_; rintro e w' ⟨rfl, rfl⟩) | (go_at_call 47; refine (l1In_any _ _ _ _).mono ?_; rintro e w' ⟨rfl, rfl⟩))
          go_ret
          exact ⟨ret_bool HB.out.symm, Ext.alloc _ _⟩
  · obtain ⟨hp, hd0, hd, hl, hr⟩ := headB_true hh
    obtain ⟨dn, rfl⟩ := Int.eq_ofNat_of_zero_le hd0
    exact sAlgebraOk_good p dn a N c t w ht hnc hc2 hh
end Go.Proofs.Ytenlhfimdpcaoaa

namespace Go.Proofs.Ytenlhfimdpcaoaa
open Go.RowKit

end Go.Proofs.Ytenlhfimdpcaoaa

namespace Go.Proofs.Ytenlhfimdpcaoaa
open Go.RowKit

end Go.Proofs.Ytenlhfimdpcaoaa

namespace Go.Proofs.Ytenlhfimdpcaoaa
open Go.RowKit

theorem szAlgebra_any (p d : Int) (a : Option Addr) (n c : Nat) (left : Int) (w : World) (hn : n ≤ 9223372036854775807) (h0 : 0 ≤ left) (h1 : left ≤ 1048576) :
    Calls Try.prog 26 #[algV p d a n c, .int .i64 left] w fun e w' => e = .returned (.int .i64 (szLeft n left)) ∧ Ext w w' := by
  have HQ := hidP (fun w' => szIntS_any a n c left w' hn h0 h1)
  by_cases hle : (n : Int) ≤ left
  · have HE : Hid (szLeft n left = left - n) := if_pos hle
    rw [HE.out] at HQ ⊢
    go_enter Try.func26, Try.ntmps26
    go_wp2_with (go_at_call 85; refine (HQ.out _).mono ?_; rintro e w' ⟨rfl, rfl⟩)
    go_ret
    exact ⟨rfl, Ext.alloc _ _⟩
  · have HE : Hid (szLeft n left = -1) := if_neg hle
    rw [HE.out] at HQ ⊢
    go_enter Try.func26, Try.ntmps26
    go_wp2_with (go_at_call 85; refine (HQ.out _).mono ?_; rintro e w' ⟨rfl, rfl⟩)
    go_ret
    exact ⟨rfl, Ext.alloc _ _⟩
set_option maxHeartbeats 1000000 in
theorem toAlgebra_any (p d : Int) (a : Option Addr) (n c : Nat) (xs : List Int) (w : World) (h : IntsAt w a n xs) (hn : n ≤ 1048576) :
    Calls Try.prog 28 #[algV p d a n c] w fun e w' => ∃ a', e = .returned (algV p d a' n n) ∧ OwnI w' w.heap.size a' n n xs ∧ Ext w w' := by
  have HQ := hidP (fun w' (hx : Ext w w') => toIntS_any a n c xs w' (h.below hx) hn)
  clear h
  go_enter Try.func28, Try.ntmps28
  go_wp2_with fail
  have hx0 : Ext w (((w.alloc (.cells #[.int .i64 p, .int .i64 d, .slice a n c] 51)).alloc (.cells #[.int .i64 0, .int .i64 0, .slice none 0 0] 24)).alloc (.cells #[.int .i64 p, .int .i64 d, .slice none 0 0] 24)) :=
    ((Ext.alloc w _).trans (Ext.alloc _ _)).trans (Ext.alloc _ _)
  have hc0 := fun w1 hx j => new_cell (w' := w1) (w := ((w.alloc (.cells #[.int .i64 p, .int .i64 d, .slice a n c] 51)).alloc (.cells #[.int .i64 0, .int .i64 0, .slice none 0 0] 24))) (cs := #[.int .i64 p, .int .i64 d, .slice none 0 0]) (E := 24) (b := w.heap.size + 1 + 1) (by simp) hx j
  have hc1 := fun w1 hx j => new_cell (w' := w1) (w := w.alloc (.cells #[.int .i64 p, .int .i64 d, .slice a n c] 51)) (cs := #[.int .i64 0, .int .i64 0, .slice none 0 0]) (E := 24) (b := w.heap.size + 1) (by simp) ((Ext.alloc _ (.cells #[.int .i64 p, .int .i64 d, .slice none 0 0] 24)).trans hx) j
  have hs0 : w.heap.size + 2 < (((w.alloc (.cells #[.int .i64 p, .int .i64 d, .slice a n c] 51)).alloc (.cells #[.int .i64 0, .int .i64 0, .slice none 0 0] 24)).alloc (.cells #[.int .i64 p, .int .i64 d, .slice none 0 0] 24)).heap.size := by simp
  have hq := HQ.out _ hx0
  obtain ⟨W, hW⟩ : ∃ W, W = (((w.alloc (.cells #[.int .i64 p, .int .i64 d, .slice a n c] 51)).alloc (.cells #[.int .i64 0, .int .i64 0, .slice none 0 0] 24)).alloc (.cells #[.int .i64 p, .int .i64 d, .slice none 0 0] 24)) := ⟨_, rfl⟩
  rw [← hW] at hx0 hc0 hc1 hs0 hq ⊢
  clear hW HQ
  have HQ := hidP hq
  have HX := hidP hx0
  clear hq hx0
  refine HQ.out.mono ?_
  rintro e w1 ⟨a', rfl, ho, hx⟩
  have HO := hidP ho
  obtain ⟨q0, _⟩ := hc0 w1 hx 0
  obtain ⟨q1, _⟩ := hc0 w1 hx 1
  obtain ⟨q2, z2⟩ := hc0 w1 hx 2
  obtain ⟨r0, y0⟩ := hc1 w1 hx 0
  obtain ⟨r1, y1⟩ := hc1 w1 hx 1
  obtain ⟨r2, y2⟩ := hc1 w1 hx 2
  have q0 := q0.trans (show _ = some (Value.int .i64 p) from rfl)
  have q1 := q1.trans (show _ = some (Value.int .i64 d) from rfl)
  have q2 := q2.trans (show _ = some (Value.slice none 0 0) from rfl)
  have r0 := r0.trans (show _ = some (Value.int .i64 0) from rfl)
  have r1 := r1.trans (show _ = some (Value.int .i64 0) from rfl)
  have r2 := r2.trans (show _ = some (Value.slice none 0 0) from rfl)
  have HX1 := hidP (HX.out.trans hx)
  have hsz : w.heap.size + 2 < W.heap.size := hs0
  clear hc0 hc1 ho hx hs0
  go_wp2
  refine bodyPost_ret (v := algV p d a' n n) (by simp [results, Try.results28, go_sem, r0, r1, r2]) rfl ⟨_, rfl, ?_, ?_⟩
  · refine OwnI.base (B := W.heap.size) ?_ (by omega)
    refine OwnI.setBelow (OwnI.setBelow (OwnI.setBelow (OwnI.setBelow HO.out _ _ ?_ _) _ _ ?_ _) _ _ ?_ _) _ _ ?_ _ <;> omega
  · refine Ext.setNew (Ext.setNew (Ext.setNew (Ext.setNew HX1.out _ _ ?_ _) _ _ ?_ _) _ _ ?_ _) _ _ ?_ _ <;> omega
end Go.Proofs.Ytenlhfimdpcaoaa
