/-
  The reference's matrix of a type of one part.
-/
import Derived.Test.YtnfbfdamlnjblaaGreatDoorCarD
namespace Go.Proofs.YtnfbfdamlnjblaaGreatDoor
open Go.RowKit

def chainO (n : Nat) (d4 : Bool) : Nat → List Int
  | 0 => List.replicate (n * n) 0
  | i + 1 => if decide (i + 1 < n) && !d4 then (((chainO n d4 i).set (i * n + i) 2).set (i * n + i + 1) (-1)).set ((i + 1) * n + i) (-1) else (chainO n d4 i).set (i * n + i) 2
def dChain : Nat → List Int
  | 0 => chainO 4 true 4
  | k + 1 => if k = 1 then dChain k else ((dChain k).set (4 + k) (-1)).set (k * 4 + 1) (-1)
def letterO (k : Nat) : Nat := if k < 4 then 65 else if k < 7 then 66 else if k < 9 then 67 else if k = 9 then 68 else if k = 10 then 70 else 71
theorem name_letter (k : Nat) (hk : k < 12) (s : ByteArray) (hs : s = nameS.getD k ByteArray.empty) (h : 0 < s.size) : s[0].toNat = letterO k := by
  have key : ∀ k, k < 12 → ((nameS.getD k ByteArray.empty).data[0]?.getD 0).toNat = letterO k := by decide +kernel
  have := key k hk
  rw [← hs] at this
  rw [← this]
  have h3 : 0 < s.data.size := h
  rw [Array.getElem?_eq_getElem h3]
  rfl
/-- a place of an owned row, behind changes -/
theorem UpdI.place {w0 w : World} {B g m c : Nat} {xs ys : List Int} (h : UpdI w0 w (some ⟨g, 0, none⟩) m ys) (h0 : OwnI w0 B (some ⟨g, 0, none⟩) m c xs) {i : Nat} (hi : i < m) :
    w.cell? ⟨g, i, none⟩ = some (.int .i64 (ys.getD i 0)) ∧ w.frozen? ⟨g, i, none⟩ = false := by
  obtain ⟨y0, y1⟩ := h.cellInt i hi
  have y2 := h0.unfrozen i g 0 hi rfl
  rw [Nat.zero_add] at y0 y1 y2
  exact ⟨y0, y1.trans y2⟩
theorem UpdI.put {w0 w : World} {g m : Nat} {ys : List Int} (h : UpdI w0 w (some ⟨g, 0, none⟩) m ys) {i : Nat} (hi : i < m) (v : Int) : UpdI w0 (w.setCell ⟨g, i, none⟩ (.int .i64 v)) (some ⟨g, 0, none⟩) m (ys.set i v) := by
  have := h.store i hi v
  rwa [Nat.zero_add] at this
set_option maxRecDepth 100000 in
set_option maxHeartbeats 4000000 in
theorem l5One_any (k : Nat) (hk : k < 12) (s : ByteArray) (hs : s = nameS.getD k ByteArray.empty) (w : World) :
    Calls Tryz.prog 184 #[.string s] w fun e w' => ∃ a, e = .returned (carV (pRank k) a (pRank k * pRank k) (pRank k * pRank k)) ∧ OwnI w' w.heap.size a (pRank k * pRank k) (pRank k * pRank k) (pMat k) ∧ Ext w w' := by
  have h2 := name_size k hk s hs
  have h2' : 1 < s.size := by omega
  have h20 : 0 < s.size := by omega
  obtain ⟨hn1, hn4⟩ := pRank_pos k hk
  have hb := name_rank k hk s hs h2'
  have hl0 := name_letter k hk s hs h20
  obtain ⟨d4, hd4⟩ : ∃ d, d = (k == 9) := ⟨_, rfl⟩
  have hD : (letterO k == 68) = d4 := by
    have key : ∀ k, k < 12 → (letterO k == 68) = (k == 9) := by decide
    rw [hd4]
    exact key k hk
  generalize hnk : pRank k = n at *
  have HK := hidP hnk
  have HK4 := hidP hd4
  obtain ⟨L, hL⟩ : ∃ L, L = letterO k := ⟨_, rfl⟩
  rw [← hL] at hl0 hD
  have HL := hidP hL
  have hnn : (n : Int) * n ≤ 16 := by
    have := Nat.mul_le_mul hn4 hn4
    have h : ((n * n : Nat) : Int) ≤ ((4 * 4 : Nat) : Int) := by exact_mod_cast this
    rw [Int.natCast_mul] at h
    exact h
  have hnn0 : 0 ≤ (n : Int) * n := Int.mul_nonneg (by omega) (by omega)
  have hmk := make_ints ((n : Int) * n) hnn0 (by omega)
  have hmn : ((n : Int) * n).toNat = n * n := by rw [← Int.natCast_mul]; rfl
  rw [hmn] at hmk
  have hD1 : ((L : Int) == 68) = d4 := by
    rw [← hD, Bool.eq_iff_iff, beq_iff_eq, beq_iff_eq]
    omega
  have HD1 := hidP hD1
  clear hmn hs hD hnk hd4 hL hD1 h2
  go_enter Tryz.func184, Tryz.ntmps184
  go_wp2
  have hm0 := OwnI.made (w.alloc (.cells #[.int .i64 0, .slice none 0 0] 55)) (w.heap.size + 1) (n * n) (by simp) (by unfold maxLen; omega)
  have hx1 := Ext.alloc (w.alloc (.cells #[.int .i64 0, .slice none 0 0] 55)) (.cells (Array.replicate (n * n) (.int .i64 0)) 3)
  have hx2 := Ext.alloc ((w.alloc (.cells #[.int .i64 0, .slice none 0 0] 55)).alloc (.cells (Array.replicate (n * n) (.int .i64 0)) 3)) (.cells #[.int .i64 n, .slice (some ⟨w.heap.size + 1, 0, none⟩) (n * n) (n * n)] 55)
  have hca := CarAt.new ((w.alloc (.cells #[.int .i64 0, .slice none 0 0] 55)).alloc (.cells (Array.replicate (n * n) (.int .i64 0)) 3)) (w.heap.size + 1 + 1) (by simp) n (some ⟨w.heap.size + 1, 0, none⟩) (n * n) (n * n) 55
  have hr0 := new_cell (w := w) (b := w.heap.size) rfl (hx1.trans hx2) 0
  have hr1 := new_cell (w := w) (b := w.heap.size) rfl (hx1.trans hx2) 1
  rw [show (w.alloc (.cells #[.int .i64 0, .slice none 0 0] 55)).heap.size = w.heap.size + 1 by simp] at hm0
  have hX : Ext w (((w.alloc (.cells #[.int .i64 0, .slice none 0 0] 55)).alloc (.cells (Array.replicate (n * n) (.int .i64 0)) 3)).alloc (.cells #[.int .i64 n, .slice (some ⟨w.heap.size + 1, 0, none⟩) (n * n) (n * n)] 55)) := (Ext.alloc w _).trans (hx1.trans hx2)
  have hm := hm0.below hx2
  obtain ⟨w1, hw1⟩ : ∃ w1, w1 = ((w.alloc (.cells #[.int .i64 0, .slice none 0 0] 55)).alloc (.cells (Array.replicate (n * n) (.int .i64 0)) 3)).alloc (.cells #[.int .i64 n, .slice (some ⟨w.heap.size + 1, 0, none⟩) (n * n) (n * n)] 55) := ⟨_, rfl⟩
  obtain ⟨g, hg⟩ : ∃ g, g = w.heap.size + 1 := ⟨_, rfl⟩
  obtain ⟨b4, hb4⟩ : ∃ b, b = w.heap.size + 1 + 1 := ⟨_, rfl⟩
  rw [← hw1] at hm hca hr0 hr1 hX ⊢
  rw [← hb4] at hca ⊢
  rw [← hg] at hm hca ⊢
  have n4 : b4 ≠ g := by omega
  have nw : w.heap.size ≠ g := by omega
  have HM := hidP hm
  have HC := hidP hca
  have HX := hidP hX
  have hr0' : w1.cell? ⟨w.heap.size, 0, none⟩ = some (.int .i64 0) := hr0.1
  have hr1' : w1.cell? ⟨w.heap.size, 1, none⟩ = some (.slice none 0 0) := hr1.1
  have HR : Hid (w1.cell? ⟨w.heap.size, 0, none⟩ = some (.int .i64 0) ∧ w1.cell? ⟨w.heap.size, 1, none⟩ = some (.slice none 0 0) ∧ w1.frozen? ⟨w.heap.size, 0, none⟩ = false ∧ w1.frozen? ⟨w.heap.size, 1, none⟩ = false) := ⟨hr0', hr1', hr0.2, hr1.2⟩
  have HU0 := hidP (UpdI.start hm.ints)
  have hlw : w.heap.size < w1.heap.size := World.block_lt_of_cell? w1 _ hr0'
  have HGW : Hid (w.heap.size ≤ g) := by show _ ≤ _; omega
  clear hw1 hg hb4 hm0 hx1 hx2 hr0 hr1 hr0' hr1' hX hm hca
  go_loopw [5] (fun t wr => ∃ i : Nat, i ≤ n ∧ t = .int .i64 i ∧ Hid (UpdI w1 wr (some ⟨g, 0, none⟩) (n * n) (chainO n d4 i))) (fun t _ => n - (intOf t).toNat)
  case atStart => exact ⟨0, Nat.zero_le _, rfl, HU0⟩
  case round =>
    clear HU0
    obtain ⟨i, hi, rfl, HU⟩ := hrel
    obtain ⟨c0, c1⟩ := HC.out
    have f1 := HU.out.far c1 n4
    by_cases hlt : i < n
    · have p1 : i * n + i < n * n := by
        have : (i + 1) * n ≤ n * n := Nat.mul_le_mul_right _ hlt
        rw [Nat.add_mul, Nat.one_mul] at this
        omega
      obtain ⟨y0, y1⟩ := HU.out.place HM.out p1
      have hu1 := HU.out.put p1 2
      have g1 := hu1.far c1 n4
      have P1 := hidP (placeF hn4 hlt hlt)
      obtain ⟨k1, k2, k3, k4, k5⟩ := P1.out
      by_cases hq : i + 1 < n
      · have hq' : (i : Int) + 1 < n := by omega
        cases d4
        · have p2 : i * n + i + 1 < n * n := by
            have : (i + 1) * n ≤ n * n := Nat.mul_le_mul_right _ hlt
            rw [Nat.add_mul, Nat.one_mul] at this
            omega
          have p3 : (i + 1) * n + i < n * n := by
            have : (i + 2) * n ≤ n * n := Nat.mul_le_mul_right _ (by omega)
            rw [Nat.add_mul] at this ⊢
            omega
          obtain ⟨y2, y3⟩ := hu1.place HM.out p2
          have hu2 := hu1.put p2 (-1)
          have g2 := hu2.far c1 n4
          obtain ⟨y4, y5⟩ := hu2.place HM.out p3
          have hu3 := hu2.put p3 (-1)
          have HE : Hid (chainO n false (i + 1) = (((chainO n false i).set (i * n + i) 2).set (i * n + i + 1) (-1)).set ((i + 1) * n + i) (-1)) := by
            show _ = _
            rw [chainO, if_pos (by simp [hq])]
          rw [← HE.out] at hu3
          have HU3 := hidP hu3
          have hd := HD1.out
          obtain ⟨l1, l2, l3, l4, l5⟩ := placeF (i := i + 1) (j := i) hn4 hq hlt
          simp only [Int.natCast_add, Int.cast_ofNat_Int] at l1 l2 l3 l4 l5
          clear hu1 hu2 hu3 c0 c1
          go_wp2
          go_roundw
          case rel => exact ⟨i + 1, by omega, by go_num, HU3⟩
          case measure => simp [intOf]; omega
        · have HE : Hid (chainO n true (i + 1) = (chainO n true i).set (i * n + i) 2) := by
            show _ = _
            rw [chainO, if_neg (by simp)]
          rw [← HE.out] at hu1
          have HU1 := hidP hu1
          have hd := HD1.out
          clear hu1 c0 c1
          go_wp2
          go_roundw
          case rel => exact ⟨i + 1, by omega, by go_num, HU1⟩
          case measure => simp [intOf]; omega
      · have hq' : ¬ (i : Int) + 1 < n := by omega
        have HE : Hid (chainO n d4 (i + 1) = (chainO n d4 i).set (i * n + i) 2) := by
          show _ = _
          rw [chainO, if_neg (by simp [hq])]
        rw [← HE.out] at hu1
        have HU1 := hidP hu1
        clear hu1 c0 c1
        go_wp2
        go_roundw
        case rel => exact ⟨i + 1, by omega, by go_num, HU1⟩
        case measure => simp [intOf]; omega
    · obtain rfl : i = n := by omega
      have hcase : k = 0 ∨ k = 1 ∨ k = 2 ∨ k = 3 ∨ k = 4 ∨ k = 5 ∨ k = 6 ∨ k = 7 ∨ k = 8 ∨ k = 9 ∨ k = 10 ∨ k = 11 := by omega
      rcases hcase with rfl | rfl | rfl | rfl | rfl | rfl | rfl | rfl | rfl | rfl | rfl | rfl
      · obtain rfl : i = 1 := HK.out.symm
        obtain rfl : L = 65 := HL.out
        obtain rfl : d4 = false := HK4.out
        have HUF : Hid (UpdI w1 wr (some ⟨g, 0, none⟩) 1 (pMat 0)) := by
          have h : chainO 1 false 1 = pMat 0 := by decide
          rw [← h]
          exact HU
        obtain ⟨e0, e1⟩ := HC.out
        have t0 := HUF.out.far e0 n4
        have t1 := HUF.out.far e1 n4
        obtain ⟨r0, r1, r2, r3⟩ := HR.out
        have o0 := HUF.out.far r0 nw
        have o1 := HUF.out.far r1 nw
        have o2 := (HUF.out.farF hlw nw).trans r2
        have o3 := (HUF.out.farF hlw nw).trans r3
        have o4 : w.heap.size < wr.heap.size := Nat.lt_of_lt_of_le hlw HUF.out.size
        have HEnd : Hid (OwnI ((wr.setCell ⟨w.heap.size, 0, none⟩ (.int .i64 1)).setCell ⟨w.heap.size, 1, none⟩ (.slice (some ⟨g, 0, none⟩) 1 1)) w.heap.size (some ⟨g, 0, none⟩) 1 1 (pMat 0) ∧ Ext w ((wr.setCell ⟨w.heap.size, 0, none⟩ (.int .i64 1)).setCell ⟨w.heap.size, 1, none⟩ (.slice (some ⟨g, 0, none⟩) 1 1))) := by
          refine ⟨?_, ?_⟩
          · exact ((((HUF.out.own HM.out).base HGW.out).setFar _ 0 _ (Ne.symm nw)).setFar _ 1 _ (Ne.symm nw))
          · have h : Ext w wr := HUF.out.below HX.out HX.out.size fun b o e _ => by cases e; exact HGW.out
            exact (h.setNew _ _ (Nat.le_refl _) _).setNew _ _ (Nat.le_refl _) _
        clear e0 e1 r0 r1 r2 r3
        go_wp2
        refine bodyPost_ret (v := carV 1 (some ⟨g, 0, none⟩) 1 1) (by simp [results, Tryz.results184, go_sem, o0, o1]) rfl ⟨some ⟨g, 0, none⟩, rfl, ?_, ?_⟩
        · exact HEnd.out.1
        · exact HEnd.out.2
      · obtain rfl : i = 2 := HK.out.symm
        obtain rfl : L = 65 := HL.out
        obtain rfl : d4 = false := HK4.out
        have HUF : Hid (UpdI w1 wr (some ⟨g, 0, none⟩) 4 (pMat 1)) := by
          have h : chainO 2 false 2 = pMat 1 := by decide
          rw [← h]
          exact HU
        obtain ⟨e0, e1⟩ := HC.out
        have t0 := HUF.out.far e0 n4
        have t1 := HUF.out.far e1 n4
        obtain ⟨r0, r1, r2, r3⟩ := HR.out
        have o0 := HUF.out.far r0 nw
        have o1 := HUF.out.far r1 nw
        have o2 := (HUF.out.farF hlw nw).trans r2
        have o3 := (HUF.out.farF hlw nw).trans r3
        have o4 : w.heap.size < wr.heap.size := Nat.lt_of_lt_of_le hlw HUF.out.size
        have HEnd : Hid (OwnI ((wr.setCell ⟨w.heap.size, 0, none⟩ (.int .i64 2)).setCell ⟨w.heap.size, 1, none⟩ (.slice (some ⟨g, 0, none⟩) 4 4)) w.heap.size (some ⟨g, 0, none⟩) 4 4 (pMat 1) ∧ Ext w ((wr.setCell ⟨w.heap.size, 0, none⟩ (.int .i64 2)).setCell ⟨w.heap.size, 1, none⟩ (.slice (some ⟨g, 0, none⟩) 4 4))) := by
          refine ⟨?_, ?_⟩
          · exact ((((HUF.out.own HM.out).base HGW.out).setFar _ 0 _ (Ne.symm nw)).setFar _ 1 _ (Ne.symm nw))
          · have h : Ext w wr := HUF.out.below HX.out HX.out.size fun b o e _ => by cases e; exact HGW.out
            exact (h.setNew _ _ (Nat.le_refl _) _).setNew _ _ (Nat.le_refl _) _
        clear e0 e1 r0 r1 r2 r3
        go_wp2
        refine bodyPost_ret (v := carV 2 (some ⟨g, 0, none⟩) 4 4) (by simp [results, Tryz.results184, go_sem, o0, o1]) rfl ⟨some ⟨g, 0, none⟩, rfl, ?_, ?_⟩
        · exact HEnd.out.1
        · exact HEnd.out.2
      · obtain rfl : i = 3 := HK.out.symm
        obtain rfl : L = 65 := HL.out
        obtain rfl : d4 = false := HK4.out
        have HUF : Hid (UpdI w1 wr (some ⟨g, 0, none⟩) 9 (pMat 2)) := by
          have h : chainO 3 false 3 = pMat 2 := by decide
          rw [← h]
          exact HU
        obtain ⟨e0, e1⟩ := HC.out
        have t0 := HUF.out.far e0 n4
        have t1 := HUF.out.far e1 n4
        obtain ⟨r0, r1, r2, r3⟩ := HR.out
        have o0 := HUF.out.far r0 nw
        have o1 := HUF.out.far r1 nw
        have o2 := (HUF.out.farF hlw nw).trans r2
        have o3 := (HUF.out.farF hlw nw).trans r3
        have o4 : w.heap.size < wr.heap.size := Nat.lt_of_lt_of_le hlw HUF.out.size
        have HEnd : Hid (OwnI ((wr.setCell ⟨w.heap.size, 0, none⟩ (.int .i64 3)).setCell ⟨w.heap.size, 1, none⟩ (.slice (some ⟨g, 0, none⟩) 9 9)) w.heap.size (some ⟨g, 0, none⟩) 9 9 (pMat 2) ∧ Ext w ((wr.setCell ⟨w.heap.size, 0, none⟩ (.int .i64 3)).setCell ⟨w.heap.size, 1, none⟩ (.slice (some ⟨g, 0, none⟩) 9 9))) := by
          refine ⟨?_, ?_⟩
          · exact ((((HUF.out.own HM.out).base HGW.out).setFar _ 0 _ (Ne.symm nw)).setFar _ 1 _ (Ne.symm nw))
          · have h : Ext w wr := HUF.out.below HX.out HX.out.size fun b o e _ => by cases e; exact HGW.out
            exact (h.setNew _ _ (Nat.le_refl _) _).setNew _ _ (Nat.le_refl _) _
        clear e0 e1 r0 r1 r2 r3
        go_wp2
        refine bodyPost_ret (v := carV 3 (some ⟨g, 0, none⟩) 9 9) (by simp [results, Tryz.results184, go_sem, o0, o1]) rfl ⟨some ⟨g, 0, none⟩, rfl, ?_, ?_⟩
        · exact HEnd.out.1
        · exact HEnd.out.2
      · obtain rfl : i = 4 := HK.out.symm
        obtain rfl : L = 65 := HL.out
        obtain rfl : d4 = false := HK4.out
        have HUF : Hid (UpdI w1 wr (some ⟨g, 0, none⟩) 16 (pMat 3)) := by
          have h : chainO 4 false 4 = pMat 3 := by decide
          rw [← h]
          exact HU
        obtain ⟨e0, e1⟩ := HC.out
        have t0 := HUF.out.far e0 n4
        have t1 := HUF.out.far e1 n4
        obtain ⟨r0, r1, r2, r3⟩ := HR.out
        have o0 := HUF.out.far r0 nw
        have o1 := HUF.out.far r1 nw
        have o2 := (HUF.out.farF hlw nw).trans r2
        have o3 := (HUF.out.farF hlw nw).trans r3
        have o4 : w.heap.size < wr.heap.size := Nat.lt_of_lt_of_le hlw HUF.out.size
        have HEnd : Hid (OwnI ((wr.setCell ⟨w.heap.size, 0, none⟩ (.int .i64 4)).setCell ⟨w.heap.size, 1, none⟩ (.slice (some ⟨g, 0, none⟩) 16 16)) w.heap.size (some ⟨g, 0, none⟩) 16 16 (pMat 3) ∧ Ext w ((wr.setCell ⟨w.heap.size, 0, none⟩ (.int .i64 4)).setCell ⟨w.heap.size, 1, none⟩ (.slice (some ⟨g, 0, none⟩) 16 16))) := by
          refine ⟨?_, ?_⟩
          · exact ((((HUF.out.own HM.out).base HGW.out).setFar _ 0 _ (Ne.symm nw)).setFar _ 1 _ (Ne.symm nw))
          · have h : Ext w wr := HUF.out.below HX.out HX.out.size fun b o e _ => by cases e; exact HGW.out
            exact (h.setNew _ _ (Nat.le_refl _) _).setNew _ _ (Nat.le_refl _) _
        clear e0 e1 r0 r1 r2 r3
        go_wp2
        refine bodyPost_ret (v := carV 4 (some ⟨g, 0, none⟩) 16 16) (by simp [results, Tryz.results184, go_sem, o0, o1]) rfl ⟨some ⟨g, 0, none⟩, rfl, ?_, ?_⟩
        · exact HEnd.out.1
        · exact HEnd.out.2
      · obtain rfl : i = 2 := HK.out.symm
        obtain rfl : L = 66 := HL.out
        obtain rfl : d4 = false := HK4.out
        obtain ⟨c0, c1⟩ := HC.out
        have f1 := HU.out.far c1 n4
        obtain ⟨y0, y1⟩ := HU.out.place HM.out (show 2 < 4 by omega)
        have hu1 := HU.out.put (show 2 < 4 by omega) (-2)
        have HUF : Hid (UpdI w1 (wr.setCell ⟨g, 2, none⟩ (.int .i64 (-2))) (some ⟨g, 0, none⟩) 4 (pMat 4)) := by
          have h : (chainO 2 false 2).set 2 (-2) = pMat 4 := by decide
          rw [← h]
          exact hu1
        clear c0 c1 hu1
        obtain ⟨e0, e1⟩ := HC.out
        have t0 := HUF.out.far e0 n4
        have t1 := HUF.out.far e1 n4
        obtain ⟨r0, r1, r2, r3⟩ := HR.out
        have o0 := HUF.out.far r0 nw
        have o1 := HUF.out.far r1 nw
        have o2 := (HUF.out.farF hlw nw).trans r2
        have o3 := (HUF.out.farF hlw nw).trans r3
        have o4 : w.heap.size < (wr.setCell ⟨g, 2, none⟩ (.int .i64 (-2))).heap.size := Nat.lt_of_lt_of_le hlw HUF.out.size
        have HEnd : Hid (OwnI (((wr.setCell ⟨g, 2, none⟩ (.int .i64 (-2))).setCell ⟨w.heap.size, 0, none⟩ (.int .i64 2)).setCell ⟨w.heap.size, 1, none⟩ (.slice (some ⟨g, 0, none⟩) 4 4)) w.heap.size (some ⟨g, 0, none⟩) 4 4 (pMat 4) ∧ Ext w (((wr.setCell ⟨g, 2, none⟩ (.int .i64 (-2))).setCell ⟨w.heap.size, 0, none⟩ (.int .i64 2)).setCell ⟨w.heap.size, 1, none⟩ (.slice (some ⟨g, 0, none⟩) 4 4))) := by
          refine ⟨?_, ?_⟩
          · exact ((((HUF.out.own HM.out).base HGW.out).setFar _ 0 _ (Ne.symm nw)).setFar _ 1 _ (Ne.symm nw))
          · have h : Ext w (wr.setCell ⟨g, 2, none⟩ (.int .i64 (-2))) := HUF.out.below HX.out HX.out.size fun b o e _ => by cases e; exact HGW.out
            exact (h.setNew _ _ (Nat.le_refl _) _).setNew _ _ (Nat.le_refl _) _
        clear e0 e1 r0 r1 r2 r3
        go_wp2
        refine bodyPost_ret (v := carV 2 (some ⟨g, 0, none⟩) 4 4) (by simp [results, Tryz.results184, go_sem, o0, o1]) rfl ⟨some ⟨g, 0, none⟩, rfl, ?_, ?_⟩
        · exact HEnd.out.1
        · exact HEnd.out.2
      · obtain rfl : i = 3 := HK.out.symm
        obtain rfl : L = 66 := HL.out
        obtain rfl : d4 = false := HK4.out
        obtain ⟨c0, c1⟩ := HC.out
        have f1 := HU.out.far c1 n4
        obtain ⟨y0, y1⟩ := HU.out.place HM.out (show 7 < 9 by omega)
        have hu1 := HU.out.put (show 7 < 9 by omega) (-2)
        have HUF : Hid (UpdI w1 (wr.setCell ⟨g, 7, none⟩ (.int .i64 (-2))) (some ⟨g, 0, none⟩) 9 (pMat 5)) := by
          have h : (chainO 3 false 3).set 7 (-2) = pMat 5 := by decide
          rw [← h]
          exact hu1
        clear c0 c1 hu1
        obtain ⟨e0, e1⟩ := HC.out
        have t0 := HUF.out.far e0 n4
        have t1 := HUF.out.far e1 n4
        obtain ⟨r0, r1, r2, r3⟩ := HR.out
        have o0 := HUF.out.far r0 nw
        have o1 := HUF.out.far r1 nw
        have o2 := (HUF.out.farF hlw nw).trans r2
        have o3 := (HUF.out.farF hlw nw).trans r3
        have o4 : w.heap.size < (wr.setCell ⟨g, 7, none⟩ (.int .i64 (-2))).heap.size := Nat.lt_of_lt_of_le hlw HUF.out.size
        have HEnd : Hid (OwnI (((wr.setCell ⟨g, 7, none⟩ (.int .i64 (-2))).setCell ⟨w.heap.size, 0, none⟩ (.int .i64 3)).setCell ⟨w.heap.size, 1, none⟩ (.slice (some ⟨g, 0, none⟩) 9 9)) w.heap.size (some ⟨g, 0, none⟩) 9 9 (pMat 5) ∧ Ext w (((wr.setCell ⟨g, 7, none⟩ (.int .i64 (-2))).setCell ⟨w.heap.size, 0, none⟩ (.int .i64 3)).setCell ⟨w.heap.size, 1, none⟩ (.slice (some ⟨g, 0, none⟩) 9 9))) := by
          refine ⟨?_, ?_⟩
          · exact ((((HUF.out.own HM.out).base HGW.out).setFar _ 0 _ (Ne.symm nw)).setFar _ 1 _ (Ne.symm nw))
          · have h : Ext w (wr.setCell ⟨g, 7, none⟩ (.int .i64 (-2))) := HUF.out.below HX.out HX.out.size fun b o e _ => by cases e; exact HGW.out
            exact (h.setNew _ _ (Nat.le_refl _) _).setNew _ _ (Nat.le_refl _) _
        clear e0 e1 r0 r1 r2 r3
        go_wp2
        refine bodyPost_ret (v := carV 3 (some ⟨g, 0, none⟩) 9 9) (by simp [results, Tryz.results184, go_sem, o0, o1]) rfl ⟨some ⟨g, 0, none⟩, rfl, ?_, ?_⟩
        · exact HEnd.out.1
        · exact HEnd.out.2
      · obtain rfl : i = 4 := HK.out.symm
        obtain rfl : L = 66 := HL.out
        obtain rfl : d4 = false := HK4.out
        obtain ⟨c0, c1⟩ := HC.out
        have f1 := HU.out.far c1 n4
        obtain ⟨y0, y1⟩ := HU.out.place HM.out (show 14 < 16 by omega)
        have hu1 := HU.out.put (show 14 < 16 by omega) (-2)
        have HUF : Hid (UpdI w1 (wr.setCell ⟨g, 14, none⟩ (.int .i64 (-2))) (some ⟨g, 0, none⟩) 16 (pMat 6)) := by
          have h : (chainO 4 false 4).set 14 (-2) = pMat 6 := by decide
          rw [← h]
          exact hu1
        clear c0 c1 hu1
        obtain ⟨e0, e1⟩ := HC.out
        have t0 := HUF.out.far e0 n4
        have t1 := HUF.out.far e1 n4
        obtain ⟨r0, r1, r2, r3⟩ := HR.out
        have o0 := HUF.out.far r0 nw
        have o1 := HUF.out.far r1 nw
        have o2 := (HUF.out.farF hlw nw).trans r2
        have o3 := (HUF.out.farF hlw nw).trans r3
        have o4 : w.heap.size < (wr.setCell ⟨g, 14, none⟩ (.int .i64 (-2))).heap.size := Nat.lt_of_lt_of_le hlw HUF.out.size
        have HEnd : Hid (OwnI (((wr.setCell ⟨g, 14, none⟩ (.int .i64 (-2))).setCell ⟨w.heap.size, 0, none⟩ (.int .i64 4)).setCell ⟨w.heap.size, 1, none⟩ (.slice (some ⟨g, 0, none⟩) 16 16)) w.heap.size (some ⟨g, 0, none⟩) 16 16 (pMat 6) ∧ Ext w (((wr.setCell ⟨g, 14, none⟩ (.int .i64 (-2))).setCell ⟨w.heap.size, 0, none⟩ (.int .i64 4)).setCell ⟨w.heap.size, 1, none⟩ (.slice (some ⟨g, 0, none⟩) 16 16))) := by
          refine ⟨?_, ?_⟩
          · exact ((((HUF.out.own HM.out).base HGW.out).setFar _ 0 _ (Ne.symm nw)).setFar _ 1 _ (Ne.symm nw))
          · have h : Ext w (wr.setCell ⟨g, 14, none⟩ (.int .i64 (-2))) := HUF.out.below HX.out HX.out.size fun b o e _ => by cases e; exact HGW.out
            exact (h.setNew _ _ (Nat.le_refl _) _).setNew _ _ (Nat.le_refl _) _
        clear e0 e1 r0 r1 r2 r3
        go_wp2
        refine bodyPost_ret (v := carV 4 (some ⟨g, 0, none⟩) 16 16) (by simp [results, Tryz.results184, go_sem, o0, o1]) rfl ⟨some ⟨g, 0, none⟩, rfl, ?_, ?_⟩
        · exact HEnd.out.1
        · exact HEnd.out.2
      · obtain rfl : i = 3 := HK.out.symm
        obtain rfl : L = 67 := HL.out
        obtain rfl : d4 = false := HK4.out
        obtain ⟨c0, c1⟩ := HC.out
        have f1 := HU.out.far c1 n4
        obtain ⟨y0, y1⟩ := HU.out.place HM.out (show 5 < 9 by omega)
        have hu1 := HU.out.put (show 5 < 9 by omega) (-2)
        have HUF : Hid (UpdI w1 (wr.setCell ⟨g, 5, none⟩ (.int .i64 (-2))) (some ⟨g, 0, none⟩) 9 (pMat 7)) := by
          have h : (chainO 3 false 3).set 5 (-2) = pMat 7 := by decide
          rw [← h]
          exact hu1
        clear c0 c1 hu1
        obtain ⟨e0, e1⟩ := HC.out
        have t0 := HUF.out.far e0 n4
        have t1 := HUF.out.far e1 n4
        obtain ⟨r0, r1, r2, r3⟩ := HR.out
        have o0 := HUF.out.far r0 nw
        have o1 := HUF.out.far r1 nw
        have o2 := (HUF.out.farF hlw nw).trans r2
        have o3 := (HUF.out.farF hlw nw).trans r3
        have o4 : w.heap.size < (wr.setCell ⟨g, 5, none⟩ (.int .i64 (-2))).heap.size := Nat.lt_of_lt_of_le hlw HUF.out.size
        have HEnd : Hid (OwnI (((wr.setCell ⟨g, 5, none⟩ (.int .i64 (-2))).setCell ⟨w.heap.size, 0, none⟩ (.int .i64 3)).setCell ⟨w.heap.size, 1, none⟩ (.slice (some ⟨g, 0, none⟩) 9 9)) w.heap.size (some ⟨g, 0, none⟩) 9 9 (pMat 7) ∧ Ext w (((wr.setCell ⟨g, 5, none⟩ (.int .i64 (-2))).setCell ⟨w.heap.size, 0, none⟩ (.int .i64 3)).setCell ⟨w.heap.size, 1, none⟩ (.slice (some ⟨g, 0, none⟩) 9 9))) := by
          refine ⟨?_, ?_⟩
          · exact ((((HUF.out.own HM.out).base HGW.out).setFar _ 0 _ (Ne.symm nw)).setFar _ 1 _ (Ne.symm nw))
          · have h : Ext w (wr.setCell ⟨g, 5, none⟩ (.int .i64 (-2))) := HUF.out.below HX.out HX.out.size fun b o e _ => by cases e; exact HGW.out
            exact (h.setNew _ _ (Nat.le_refl _) _).setNew _ _ (Nat.le_refl _) _
        clear e0 e1 r0 r1 r2 r3
        go_wp2
        refine bodyPost_ret (v := carV 3 (some ⟨g, 0, none⟩) 9 9) (by simp [results, Tryz.results184, go_sem, o0, o1]) rfl ⟨some ⟨g, 0, none⟩, rfl, ?_, ?_⟩
        · exact HEnd.out.1
        · exact HEnd.out.2
      · obtain rfl : i = 4 := HK.out.symm
        obtain rfl : L = 67 := HL.out
        obtain rfl : d4 = false := HK4.out
        obtain ⟨c0, c1⟩ := HC.out
        have f1 := HU.out.far c1 n4
        obtain ⟨y0, y1⟩ := HU.out.place HM.out (show 11 < 16 by omega)
        have hu1 := HU.out.put (show 11 < 16 by omega) (-2)
        have HUF : Hid (UpdI w1 (wr.setCell ⟨g, 11, none⟩ (.int .i64 (-2))) (some ⟨g, 0, none⟩) 16 (pMat 8)) := by
          have h : (chainO 4 false 4).set 11 (-2) = pMat 8 := by decide
          rw [← h]
          exact hu1
        clear c0 c1 hu1
        obtain ⟨e0, e1⟩ := HC.out
        have t0 := HUF.out.far e0 n4
        have t1 := HUF.out.far e1 n4
        obtain ⟨r0, r1, r2, r3⟩ := HR.out
        have o0 := HUF.out.far r0 nw
        have o1 := HUF.out.far r1 nw
        have o2 := (HUF.out.farF hlw nw).trans r2
        have o3 := (HUF.out.farF hlw nw).trans r3
        have o4 : w.heap.size < (wr.setCell ⟨g, 11, none⟩ (.int .i64 (-2))).heap.size := Nat.lt_of_lt_of_le hlw HUF.out.size
        have HEnd : Hid (OwnI (((wr.setCell ⟨g, 11, none⟩ (.int .i64 (-2))).setCell ⟨w.heap.size, 0, none⟩ (.int .i64 4)).setCell ⟨w.heap.size, 1, none⟩ (.slice (some ⟨g, 0, none⟩) 16 16)) w.heap.size (some ⟨g, 0, none⟩) 16 16 (pMat 8) ∧ Ext w (((wr.setCell ⟨g, 11, none⟩ (.int .i64 (-2))).setCell ⟨w.heap.size, 0, none⟩ (.int .i64 4)).setCell ⟨w.heap.size, 1, none⟩ (.slice (some ⟨g, 0, none⟩) 16 16))) := by
          refine ⟨?_, ?_⟩
          · exact ((((HUF.out.own HM.out).base HGW.out).setFar _ 0 _ (Ne.symm nw)).setFar _ 1 _ (Ne.symm nw))
          · have h : Ext w (wr.setCell ⟨g, 11, none⟩ (.int .i64 (-2))) := HUF.out.below HX.out HX.out.size fun b o e _ => by cases e; exact HGW.out
            exact (h.setNew _ _ (Nat.le_refl _) _).setNew _ _ (Nat.le_refl _) _
        clear e0 e1 r0 r1 r2 r3
        go_wp2
        refine bodyPost_ret (v := carV 4 (some ⟨g, 0, none⟩) 16 16) (by simp [results, Tryz.results184, go_sem, o0, o1]) rfl ⟨some ⟨g, 0, none⟩, rfl, ?_, ?_⟩
        · exact HEnd.out.1
        · exact HEnd.out.2
      · obtain rfl : i = 4 := HK.out.symm
        obtain rfl : L = 68 := HL.out
        obtain rfl : d4 = true := HK4.out
        obtain ⟨c0, c1⟩ := HC.out
        have f1 := HU.out.far c1 n4
        have f0 := HU.out.far c0 n4
        clear c0 c1
        go_wp2
        have HU0 : Hid (UpdI w1 wr (some ⟨g, 0, none⟩) 16 (dChain 0)) := HU.out
        clear HU f0 f1
        go_loopw [6] (fun t wr => ∃ j : Nat, j ≤ 4 ∧ t = .int .i64 j ∧ Hid (UpdI w1 wr (some ⟨g, 0, none⟩) 16 (dChain j))) (fun t _ => 4 - (intOf t).toNat)
        case atStart => exact ⟨0, Nat.zero_le _, rfl, HU0⟩
        case round =>
          clear HU0
          obtain ⟨j, hj, rfl, HU⟩ := hrel
          obtain ⟨c0, c1⟩ := HC.out
          have f1 := HU.out.far c1 n4
          have f0 := HU.out.far c0 n4
          by_cases hj4 : j < 4
          · by_cases hj1 : j = 1
            · subst hj1
              clear c0 c1
              go_wp2
              go_roundw
              case rel => exact ⟨2, by omega, by go_num, HU⟩
              case measure => simp [intOf]
            · have HE : Hid (dChain (j + 1) = ((dChain j).set (4 + j) (-1)).set (j * 4 + 1) (-1)) := by
                show _ = _
                rw [dChain, if_neg hj1]
              have p1 : 4 + j < 16 := by omega
              have p2 : j * 4 + 1 < 16 := by omega
              obtain ⟨y0, y1⟩ := HU.out.place HM.out p1
              have hu1 := HU.out.put p1 (-1)
              have g1 := hu1.far c1 n4
              obtain ⟨y2, y3⟩ := hu1.place HM.out p2
              have hu2 := hu1.put p2 (-1)
              rw [← HE.out] at hu2
              have HU2 := hidP hu2
              have hj1' : ((j : Int) != 1) = true := by simp; omega
              clear hu1 hu2 c0 c1 hj1
              go_wp2
              go_roundw
              case rel => exact ⟨j + 1, by omega, by go_num, HU2⟩
              case measure => simp [intOf]; omega
          · obtain rfl : j = 4 := by omega
            have HUF : Hid (UpdI w1 wr (some ⟨g, 0, none⟩) 16 (pMat 9)) := by
              have h : dChain 4 = pMat 9 := by decide
              rw [← h]
              exact HU
            clear HU f0 f1 c0 c1
            obtain ⟨e0, e1⟩ := HC.out
            have t0 := HUF.out.far e0 n4
            have t1 := HUF.out.far e1 n4
            obtain ⟨r0, r1, r2, r3⟩ := HR.out
            have o0 := HUF.out.far r0 nw
            have o1 := HUF.out.far r1 nw
            have o2 := (HUF.out.farF hlw nw).trans r2
            have o3 := (HUF.out.farF hlw nw).trans r3
            have o4 : w.heap.size < wr.heap.size := Nat.lt_of_lt_of_le hlw HUF.out.size
            have HEnd : Hid (OwnI ((wr.setCell ⟨w.heap.size, 0, none⟩ (.int .i64 4)).setCell ⟨w.heap.size, 1, none⟩ (.slice (some ⟨g, 0, none⟩) 16 16)) w.heap.size (some ⟨g, 0, none⟩) 16 16 (pMat 9) ∧ Ext w ((wr.setCell ⟨w.heap.size, 0, none⟩ (.int .i64 4)).setCell ⟨w.heap.size, 1, none⟩ (.slice (some ⟨g, 0, none⟩) 16 16))) := by
              refine ⟨?_, ?_⟩
              · exact ((((HUF.out.own HM.out).base HGW.out).setFar _ 0 _ (Ne.symm nw)).setFar _ 1 _ (Ne.symm nw))
              · have h : Ext w wr := HUF.out.below HX.out HX.out.size fun b o e _ => by cases e; exact HGW.out
                exact (h.setNew _ _ (Nat.le_refl _) _).setNew _ _ (Nat.le_refl _) _
            clear e0 e1 r0 r1 r2 r3
            go_wp2
            refine bodyPost_ret (v := carV 4 (some ⟨g, 0, none⟩) 16 16) (by simp [results, Tryz.results184, go_sem, o0, o1]) rfl ⟨some ⟨g, 0, none⟩, rfl, ?_, ?_⟩
            · exact HEnd.out.1
            · exact HEnd.out.2
      · obtain rfl : i = 4 := HK.out.symm
        obtain rfl : L = 70 := HL.out
        obtain rfl : d4 = false := HK4.out
        obtain ⟨c0, c1⟩ := HC.out
        have f1 := HU.out.far c1 n4
        obtain ⟨y0, y1⟩ := HU.out.place HM.out (show 9 < 16 by omega)
        have hu1 := HU.out.put (show 9 < 16 by omega) (-2)
        have HUF : Hid (UpdI w1 (wr.setCell ⟨g, 9, none⟩ (.int .i64 (-2))) (some ⟨g, 0, none⟩) 16 (pMat 10)) := by
          have h : (chainO 4 false 4).set 9 (-2) = pMat 10 := by decide
          rw [← h]
          exact hu1
        clear c0 c1 hu1
        obtain ⟨e0, e1⟩ := HC.out
        have t0 := HUF.out.far e0 n4
        have t1 := HUF.out.far e1 n4
        obtain ⟨r0, r1, r2, r3⟩ := HR.out
        have o0 := HUF.out.far r0 nw
        have o1 := HUF.out.far r1 nw
        have o2 := (HUF.out.farF hlw nw).trans r2
        have o3 := (HUF.out.farF hlw nw).trans r3
        have o4 : w.heap.size < (wr.setCell ⟨g, 9, none⟩ (.int .i64 (-2))).heap.size := Nat.lt_of_lt_of_le hlw HUF.out.size
        have HEnd : Hid (OwnI (((wr.setCell ⟨g, 9, none⟩ (.int .i64 (-2))).setCell ⟨w.heap.size, 0, none⟩ (.int .i64 4)).setCell ⟨w.heap.size, 1, none⟩ (.slice (some ⟨g, 0, none⟩) 16 16)) w.heap.size (some ⟨g, 0, none⟩) 16 16 (pMat 10) ∧ Ext w (((wr.setCell ⟨g, 9, none⟩ (.int .i64 (-2))).setCell ⟨w.heap.size, 0, none⟩ (.int .i64 4)).setCell ⟨w.heap.size, 1, none⟩ (.slice (some ⟨g, 0, none⟩) 16 16))) := by
          refine ⟨?_, ?_⟩
          · exact ((((HUF.out.own HM.out).base HGW.out).setFar _ 0 _ (Ne.symm nw)).setFar _ 1 _ (Ne.symm nw))
          · have h : Ext w (wr.setCell ⟨g, 9, none⟩ (.int .i64 (-2))) := HUF.out.below HX.out HX.out.size fun b o e _ => by cases e; exact HGW.out
            exact (h.setNew _ _ (Nat.le_refl _) _).setNew _ _ (Nat.le_refl _) _
        clear e0 e1 r0 r1 r2 r3
        go_wp2
        refine bodyPost_ret (v := carV 4 (some ⟨g, 0, none⟩) 16 16) (by simp [results, Tryz.results184, go_sem, o0, o1]) rfl ⟨some ⟨g, 0, none⟩, rfl, ?_, ?_⟩
        · exact HEnd.out.1
        · exact HEnd.out.2
      · obtain rfl : i = 2 := HK.out.symm
        obtain rfl : L = 71 := HL.out
        obtain rfl : d4 = false := HK4.out
        obtain ⟨c0, c1⟩ := HC.out
        have f1 := HU.out.far c1 n4
        obtain ⟨y0, y1⟩ := HU.out.place HM.out (show 1 < 4 by omega)
        have hu1 := HU.out.put (show 1 < 4 by omega) (-3)
        have HUF : Hid (UpdI w1 (wr.setCell ⟨g, 1, none⟩ (.int .i64 (-3))) (some ⟨g, 0, none⟩) 4 (pMat 11)) := by
          have h : (chainO 2 false 2).set 1 (-3) = pMat 11 := by decide
          rw [← h]
          exact hu1
        clear c0 c1 hu1
        obtain ⟨e0, e1⟩ := HC.out
        have t0 := HUF.out.far e0 n4
        have t1 := HUF.out.far e1 n4
        obtain ⟨r0, r1, r2, r3⟩ := HR.out
        have o0 := HUF.out.far r0 nw
        have o1 := HUF.out.far r1 nw
        have o2 := (HUF.out.farF hlw nw).trans r2
        have o3 := (HUF.out.farF hlw nw).trans r3
        have o4 : w.heap.size < (wr.setCell ⟨g, 1, none⟩ (.int .i64 (-3))).heap.size := Nat.lt_of_lt_of_le hlw HUF.out.size
        have HEnd : Hid (OwnI (((wr.setCell ⟨g, 1, none⟩ (.int .i64 (-3))).setCell ⟨w.heap.size, 0, none⟩ (.int .i64 2)).setCell ⟨w.heap.size, 1, none⟩ (.slice (some ⟨g, 0, none⟩) 4 4)) w.heap.size (some ⟨g, 0, none⟩) 4 4 (pMat 11) ∧ Ext w (((wr.setCell ⟨g, 1, none⟩ (.int .i64 (-3))).setCell ⟨w.heap.size, 0, none⟩ (.int .i64 2)).setCell ⟨w.heap.size, 1, none⟩ (.slice (some ⟨g, 0, none⟩) 4 4))) := by
          refine ⟨?_, ?_⟩
          · exact ((((HUF.out.own HM.out).base HGW.out).setFar _ 0 _ (Ne.symm nw)).setFar _ 1 _ (Ne.symm nw))
          · have h : Ext w (wr.setCell ⟨g, 1, none⟩ (.int .i64 (-3))) := HUF.out.below HX.out HX.out.size fun b o e _ => by cases e; exact HGW.out
            exact (h.setNew _ _ (Nat.le_refl _) _).setNew _ _ (Nat.le_refl _) _
        clear e0 e1 r0 r1 r2 r3
        go_wp2
        refine bodyPost_ret (v := carV 2 (some ⟨g, 0, none⟩) 4 4) (by simp [results, Tryz.results184, go_sem, o0, o1]) rfl ⟨some ⟨g, 0, none⟩, rfl, ?_, ?_⟩
        · exact HEnd.out.1
        · exact HEnd.out.2
end Go.Proofs.YtnfbfdamlnjblaaGreatDoor
