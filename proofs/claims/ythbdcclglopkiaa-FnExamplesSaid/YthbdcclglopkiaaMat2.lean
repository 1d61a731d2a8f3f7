/-
  rowsOf, ZeroMatrix, UnitMatrix.
-/
import Derived.Test.YthbdcclglopkiaaMat
namespace Go.Proofs.Ythbdcclglopkiaa
open Go.RowKit

/-- the rows of a matrix -/
def matRows (r s : Nat) (data : List Int) : List (List Int) := (List.range r).map fun i => (data.drop (i * s)).take s
theorem matRows_length (r s : Nat) (data : List Int) : (matRows r s data).length = r := by simp [matRows]
theorem matRows_get (r s : Nat) (data : List Int) (i : Nat) (hi : i < r) : (matRows r s data).getD i [] = (data.drop (i * s)).take s := by simp [matRows, List.getD_eq_getElem?_getD, hi]
theorem mul_lt_of {r s i : Nat} (hi : i < r) : i * s + s ≤ r * s := by
  have := Nat.mul_le_mul_right s (show i + 1 ≤ r by omega)
  rw [Nat.add_mul, Nat.one_mul] at this
  exact this
theorem matRows_ok {p : Int} {r s : Nat} {data : List Int} (hl : data.length = r * s) (h : Res p data) : Rows p s (matRows r s data) := by
  constructor
  · intro i hi
    rw [matRows_length] at hi
    rw [matRows_get _ _ _ _ hi, List.length_take, List.length_drop, hl]
    have := mul_lt_of (s := s) hi
    omega
  · intro i hi
    rw [matRows_length] at hi
    rw [matRows_get _ _ _ _ hi]
    exact h.part _ _

theorem getD_setL' {β : Type} (l : List β) (i j : Nat) (x d : β) : (l.set i x).getD j d = if i = j ∧ i < l.length then x else l.getD j d := by
  simp only [List.getD_eq_getElem?_getD, List.getElem?_set]
  by_cases h : i = j
  · subst h
    by_cases hl : i < l.length
    · simp [hl]
    · simp [hl]
  · simp [h]
set_option maxHeartbeats 2000000 in
theorem rowsOf_any (p : Int) (r s : Nat) (a : Option Addr) (N c : Nat) (data : List Int) (w : World) (h : IntsAt w a N data) (hN : N = r * s) (hc : N ≤ c) (hc2 : c ≤ 9223372036854775807) (hr : r ≤ 1000000) (hs : s ≤ 1000000) (hrs : r = 0 ∨ 1 ≤ s) :
    Calls Try.prog 102 #[matV p r s a N c] w fun e w' => ∃ a' c' hs, e = .returned (.slice a' r c') ∧ OwnK rowK w' w.heap.size w'.heap.size a' r c' hs (matRows r s data) ∧ Ext w w' := by
  have hx0 := Ext.alloc w (.cells #[.int .i64 p, .int .i64 (r : Int), .int .i64 (s : Int), .slice a N c] 67)
  have HM := hidP (MatAt.new w _ rfl p r s a N c 67)
  have G := hidP (h.below hx0)
  have HX := hidP hx0
  have HN := hidP hN
  have HL := hidP h.len
  have hsz : (w.alloc (.cells #[.int .i64 p, .int .i64 (r : Int), .int .i64 (s : Int), .slice a N c] 67)).heap.size = w.heap.size + 1 := by simp
  have HO := hidP (OwnK.made0 rowK (w.alloc (.cells #[.int .i64 p, .int .i64 (r : Int), .int .i64 (s : Int), .slice a N c] 67)))
  have HX0 := hidP (Ext.alloc (w.alloc (.cells #[.int .i64 p, .int .i64 (r : Int), .int .i64 (s : Int), .slice a N c] 67)) (.cells #[] 22))
  have hE : rowK.E = 22 := rfl
  rw [hE] at HO
  clear h hx0 hN hE
  go_enter Try.func102, Try.ntmps102
  go_wp2
  rw [← hsz]
  obtain ⟨wb, hwb⟩ : ∃ wb, wb = (w.alloc (.cells #[.int .i64 p, .int .i64 (r : Int), .int .i64 (s : Int), .slice a N c] 67)) := ⟨_, rfl⟩
  rw [← hwb] at HO HX G HM HX0 ⊢
  clear hwb hsz
  go_loopw [3, 8] (fun v i wr => ∃ (k : Nat) (av : Option Addr) (cv : Nat) (hs : List Hdr), k ≤ r ∧ i = .int .i64 k ∧ v = .slice av k cv ∧ Hid (OwnK rowK wr wb.heap.size wr.heap.size av k cv hs ((matRows r s data).take k)) ∧ Hid (Ext wb wr)) (fun _ i _ => r - (intOf i).toNat)
  case atStart => exact ⟨0, _, 0, [], Nat.zero_le _, rfl, rfl, HO, HX0⟩
  case round =>
    clear HO HX0
    obtain ⟨k, av, cv, hd, hk, rfl, rfl, HO, HX0⟩ := hrel
    by_cases hlt : k < r
    · have hs1 : 1 ≤ s := by omega
      have hks := mul_lt_of (s := s) hlt
      obtain ⟨b, o, rfl, _⟩ := (G.out.below HX0.out).get 0 (by rw [HN.out]; omega)
      have hI := (G.out.below HX0.out).part (k * s) s (by rw [HN.out]; exact hks)
      have HRow : Hid ((matRows r s data).getD k [] = (data.drop (k * s)).take s) := matRows_get r s data k hlt
      have HT : Hid ((matRows r s data).take (k + 1) = (matRows r s data).take k ++ [(data.drop (k * s)).take s]) := by
        show _ = _
        rw [List.take_succ_eq_append_getElem (by rw [matRows_length]; exact hlt)]
        simp [matRows]
      have HLR : Hid (((data.drop (k * s)).take s).length = s) := by
        show _ = _
        rw [List.length_take, List.length_drop, HL.out, HN.out]
        omega
      have HCl := hidP (clone_any (some ⟨b, o + k * s, none⟩) s (c - k * s) _ wr hI (fun e => by cases e) (by omega))
      obtain ⟨c0, c1, c2, c3⟩ := HM.out.below HX0.out
      have hb1 : k * s ≤ 1000000 * 1000000 := Nat.mul_le_mul (by omega) hs
      obtain ⟨t, ht⟩ : ∃ t, k * s = t := ⟨_, rfl⟩
      have e4 : (k : Int) * (s : Int) = (t : Int) := by rw [← ht]; simp
      have e5 : ((k : Int) + 1) * (s : Int) = ((t + s : Nat) : Int) := by rw [← ht, Int.add_mul, Int.one_mul]; simp
      rw [ht] at hks HCl hb1 HT HLR HRow
      have hNr := HN.out
      have hlt1 : t < c := by omega
      have hlt2 : t + s ≤ c := by omega
      have hct : ¬ c = t := by omega
      clear ht hI HRow hNr
      generalize (data.drop t).take s = row at *
      have e6 : t + s - t = s := by omega
      go_wp2_with fail
      clear e4 e5
      refine HCl.out.mono ?_
      rintro e w1 ⟨a1, c1', rfl, ho1, hx1⟩
      have HO1 := hidP (HO.out.below hx1)
      have HR1 := hidP ho1
      have HX01 := hidP (HX0.out.trans hx1)
      clear ho1 hx1 HCl c0 c1 c2 c3
      have hx2 := Ext.alloc w1 (.cells #[.slice a1 s c1'] 22)
      have HO2 := hidP (HO1.out.below hx2)
      have HR2 := hidP ((HR1.out.below hx2).base (B' := wb.heap.size) HX0.out.size)
      have HX02 := hidP (HX01.out.trans hx2)
      have HAp : Hid (∀ i, i < k → Apart (hd.getD i (none, 0)).1 a1) := fun i hi b o b' o' e e' => by
        have := HO.out.lt i hi b o e
        have := (HR1.out.at_base b' o' e').1
        omega
      have HFa : Hid (Apart av a1) := fun b o b' o' e e' => by
        have := HO.out.olt b o e
        have := (HR1.out.at_base b' o' e').1
        omega
      have HCe : Hid (∀ j, j < rowK.size → (w1.alloc (.cells #[.slice a1 s c1'] 22)).cell? ⟨w1.heap.size, j, none⟩ = (rowK.cells a1 c1' row)[j]?) := fun j hj => by
        rw [cell_top _ _ _ _ _ rfl]
        show _ = ([Value.slice a1 row.length c1'])[j]?
        rw [HLR.out]
        simp
      have HR3 : Hid (OwnI (w1.alloc (.cells #[.slice a1 s c1'] 22)) wb.heap.size a1 row.length c1' row) := by show OwnI _ _ _ _ _ _; rw [HLR.out]; exact HR2.out
      clear hx2 HO1 HR1 HR2 HX01
      go_wp2_with (at_builtin; refine wpList_append_elem rowK 78 (.slice none 0 0) 24 rfl (.tmp 11) (.tmp 25) rfl Try.underlying78 Try.info22 rfl (by omega) wb.heap.size _ av k cv hd _ rfl HO2.out w1.heap.size 1 (a1, c1') row rfl HCe.out HR3.out HAp.out HFa.out (by omega) HX02.out.size ?_; intro a3 c3 w3 ho3 hg3; have HX3 := hidP (HO2.out.below_grown hg3 HX02.out HX02.out.size); have HO3 := hidP ho3; clear ho3 hg3)
      go_roundw
      case rel => exact ⟨k + 1, a3, c3, hd ++ [(a1, c1')], by omega, by go_num, rfl, by rw [HT.out]; exact HO3, HX3⟩
      case measure => simp [intOf]; omega
    · obtain rfl : k = r := by omega
      have ho := HO.out
      rw [List.take_of_length_le (by rw [matRows_length]; omega)] at ho
      have HO2 := hidP ho
      clear ho HO
      go_wp2
      go_ret
      exact ⟨_, _, _, rfl, HO2.out.weaken HX.out.size (Nat.le_refl _), HX.out.trans HX0.out⟩
set_option maxHeartbeats 1000000 in
theorem zeroMatrix_ok (p r s : Int) (w : World) (hp : primeB p = true) (hr0 : 0 ≤ r) (hr1 : r ≤ 40) (hs0 : 0 ≤ s) (hs1 : s ≤ 40) :
    Calls Try.prog 101 #[.int .i64 p, .int .i64 r, .int .i64 s] w fun e w' => ∃ a, e = .returned (matV p r s a (r * s).toNat (r * s).toNat) ∧ OwnI w' w.heap.size a (r * s).toNat (r * s).toNat (List.replicate (r * s).toNat 0) ∧ Ext w w' := by
  have hi : insB r 0 40 = true := insB_true.2 ⟨hr0, hr1⟩
  have hj : insB s 0 40 = true := insB_true.2 ⟨hs0, hs1⟩
  have k3 : 0 ≤ r * s := Int.mul_nonneg hr0 hs0
  have k4 : r * s ≤ 40 * 40 := Int.mul_le_mul hr1 hs1 hs0 (by omega)
  have hmk := make_ints (r * s) k3 (by omega)
  have HM := hidP (fun w' (hb : w.heap.size ≤ w'.heap.size) => OwnI.made w' w.heap.size (r * s).toNat hb (by unfold maxLen; omega))
  go_enter Try.func101, Try.ntmps101
  go_wp2_with (first | (go_at_call 30; refine (isPrime_any _ _).mono ?_; rintro e w' ⟨rfl, rfl⟩) | (go_at_call 31; refine (inside_any _ _ _ _).mono ?_; rintro e w' ⟨rfl, rfl⟩))
  refine bodyPost_ret (v := matV p r s (some ⟨w.heap.size + 1, 0, none⟩) _ _) (by simp [results, Try.results101, go_sem]) rfl ⟨_, rfl, ?_, ?_⟩
  · have := HM.out (w.alloc (.cells #[.int .i64 p, .int .i64 r, .int .i64 s, .slice (some ⟨w.heap.size + 1, 0, none⟩) (r * s).toNat (r * s).toNat] 67)) (by simp)
    simpa using this
  · exact (Ext.alloc w _).trans (Ext.alloc _ _)
/-- the unit matrix's numbers: the first k rows have their 1 -/
def unitTo (n : Nat) : Nat → List Int
  | 0 => List.replicate (n * n) 0
  | k + 1 => (unitTo n k).set (k * n + k) 1
theorem unitTo_length (n k : Nat) : (unitTo n k).length = n * n := by
  induction k with
  | zero => simp [unitTo]
  | succ k ih => simp [unitTo, ih]
theorem unitTo_res {p : Int} (hp : 2 ≤ p) (n k : Nat) : Res p (unitTo n k) := by
  induction k with
  | zero => exact Res.zeros (by omega) _
  | succ k ih =>
    intro i hi
    simp only [unitTo, List.length_set] at hi ⊢
    have := ih i hi
    rw [getD_setL' _ _ _ _ _]
    split
    · omega
    · exact this
set_option maxHeartbeats 1000000 in
theorem unitMatrix_ok (p : Int) (n : Nat) (w : World) (hp : primeB p = true) (hn : n ≤ 40) :
    Calls Try.prog 72 #[.int .i64 p, .int .i64 n] w fun e w' => ∃ a, e = .returned (matV p n n a (n * n) (n * n)) ∧ OwnI w' w.heap.size a (n * n) (n * n) (unitTo n n) ∧ Ext w w' := by
  have HZ := hidP (fun w' => zeroMatrix_ok p n n w' hp (by omega) (by omega) (by omega) (by omega))
  have hnn : ((n : Int) * n).toNat = n * n := by rw [← Int.natCast_mul]; exact Int.toNat_natCast _
  have hb : n * n ≤ 40 * 40 := Nat.mul_le_mul hn hn
  rw [hnn] at HZ
  have hx0 := Ext.alloc w (.cells #[.int .i64 0, .int .i64 0, .int .i64 0, .slice none 0 0] 67)
  have hnew := fun w1 hx j => new_cell (w' := w1) (w := w) (cs := #[.int .i64 0, .int .i64 0, .int .i64 0, .slice none 0 0]) (E := 67) (b := w.heap.size) rfl hx j
  have HX0 := hidP hx0
  have hsz : w.heap.size < (w.alloc (.cells #[.int .i64 0, .int .i64 0, .int .i64 0, .slice none 0 0] 67)).heap.size := by simp
  obtain ⟨w0, hw0⟩ : ∃ w0, w0 = w.alloc (.cells #[.int .i64 0, .int .i64 0, .int .i64 0, .slice none 0 0] 67) := ⟨_, rfl⟩
  clear hx0 hnn
  go_enter Try.func72, Try.ntmps72
  go_wp2_with fail
  rw [← hw0] at HX0 hnew hsz ⊢
  clear hw0
  refine (HZ.out _).mono ?_
  rintro e w1 ⟨a, rfl, ho, hx⟩
  have HNW := hidP (fun w2 hx2 j => hnew w2 (hx.trans hx2) j)
  have HO1 := hidP ho
  have HX1 := hidP (HX0.out.trans hx)
  have HS1 := hidP hx.size
  clear ho hx hnew HZ
  go_wp2
  have HM := hidP (MatAt.new w1 _ rfl p n n a (n * n) (n * n) 67)
  have hxa := Ext.alloc w1 (.cells #[.int .i64 p, .int .i64 (n : Int), .int .i64 (n : Int), .slice a (n * n) (n * n)] 67)
  have HA := hidP (HO1.out.below hxa)
  obtain ⟨w2, hw2⟩ : ∃ w2, w2 = w1.alloc (.cells #[.int .i64 p, .int .i64 (n : Int), .int .i64 (n : Int), .slice a (n * n) (n * n)] 67) := ⟨_, rfl⟩
  rw [← hw2] at HM hxa HA ⊢
  clear hw2
  have HXA := hidP hxa
  have HU0 := hidP (UpdI.start HA.out.ints)
  have HBS := hidP (fun b o e => HO1.out.at_base b o e)
  clear hxa HX0
  have HF : Hid (∀ w' ys, UpdI w2 w' a (n * n) ys → MatAt w' w1.heap.size p n n a (n * n) (n * n) ∧ (∀ j, w'.cell? ⟨w.heap.size, j, none⟩ = w2.cell? ⟨w.heap.size, j, none⟩ ∧ w'.frozen? ⟨w.heap.size, j, none⟩ = w2.frozen? ⟨w.heap.size, j, none⟩)) := by
    intro w' ys hu
    have hl := World.block_lt_of_cell? w2 _ HM.out.c0
    have hh : w'.heap[w1.heap.size]? = w2.heap[w1.heap.size]? := hu.other _ hl (fun b o e _ => by have := (HBS.out b o e).2; omega)
    have h0 : w'.heap[w.heap.size]? = w2.heap[w.heap.size]? := hu.other _ (by have := HS1.out; have := HXA.out.size; omega) (fun b o e _ => by have := (HBS.out b o e).1; omega)
    exact ⟨⟨(World.cell?_of_block (a := ⟨w1.heap.size, 0, none⟩) hh).trans HM.out.c0, (World.cell?_of_block (a := ⟨w1.heap.size, 1, none⟩) hh).trans HM.out.c1, (World.cell?_of_block (a := ⟨w1.heap.size, 2, none⟩) hh).trans HM.out.c2, (World.cell?_of_block (a := ⟨w1.heap.size, 3, none⟩) hh).trans HM.out.c3⟩,
      fun j => ⟨World.cell?_of_block (a := ⟨w.heap.size, j, none⟩) h0, by simp only [World.frozen?, h0]⟩⟩
  go_loopw [13] (fun v wr => ∃ k : Nat, k ≤ n ∧ v = .int .i64 k ∧ Hid (UpdI w2 wr a (n * n) (unitTo n k))) (fun v _ => n - (intOf v).toNat)
  case atStart => exact ⟨0, Nat.zero_le _, rfl, HU0⟩
  case round =>
    obtain ⟨k, hk, rfl, HU⟩ := hrel
    obtain ⟨c0, c1, c2, c3⟩ := (HF.out _ _ HU.out).1
    by_cases hlt : k < n
    · have hkn := mul_lt_of (s := n) hlt
      obtain ⟨b, o, rfl, _⟩ := HA.out.ints.get 0 (by omega)
      have hk2 : k * n + k < n * n := by omega
      obtain ⟨v0, q, z⟩ := HU.out.cellAt (k * n + k) hk2
      have z2 : wr.frozen? ⟨b, o + (k * n + k), none⟩ = false := z.trans (HA.out.unfrozen _ b o hk2 rfl)
      have hs := HU.out.store (k * n + k) hk2 1
      have HS := hidP hs
      have HT : Hid (unitTo n (k + 1) = (unitTo n k).set (k * n + k) 1) := rfl
      obtain ⟨t, ht⟩ : ∃ t, k * n = t := ⟨_, rfl⟩
      have e4 : (k : Int) * (n : Int) = (t : Int) := by rw [← ht]; simp
      rw [ht] at hk2 q z2 HS HT
      obtain ⟨nn, hnn⟩ : ∃ nn, n * n = nn := ⟨_, rfl⟩
      have HNN := hidP hnn
      clear hs z ht hkn
      rw [hnn] at hk2 hb c3
      clear hnn
      go_wp2
      go_roundw
      case rel => exact ⟨k + 1, by omega, by go_num, by rw [HT.out]; exact HS⟩
      case measure => simp [intOf]; omega
    · obtain rfl : k = n := by omega
      obtain ⟨_, hf⟩ := HF.out _ _ HU.out
      have r0 := (hf 0).1.trans ((HNW.out w2 HXA.out 0).1.trans (show _ = some (Value.int .i64 0) from rfl))
      have r1 := (hf 1).1.trans ((HNW.out w2 HXA.out 1).1.trans (show _ = some (Value.int .i64 0) from rfl))
      have r2 := (hf 2).1.trans ((HNW.out w2 HXA.out 2).1.trans (show _ = some (Value.int .i64 0) from rfl))
      have r3 := (hf 3).1.trans ((HNW.out w2 HXA.out 3).1.trans (show _ = some (Value.slice none 0 0) from rfl))
      have y0 := (hf 0).2.trans (HNW.out w2 HXA.out 0).2
      have y1 := (hf 1).2.trans (HNW.out w2 HXA.out 1).2
      have y2 := (hf 2).2.trans (HNW.out w2 HXA.out 2).2
      have y3 := (hf 3).2.trans (HNW.out w2 HXA.out 3).2
      have HOF := hidP (HU.out.own HA.out)
      have HXF : Hid (Ext w wr) := HU.out.below (HX1.out.trans HXA.out) (HX1.out.trans HXA.out).size (fun b o e _ => by have := (HBS.out b o e).1; omega)
      have hsz2 := HS1.out
      clear hf
      go_wp2
      refine bodyPost_ret (v := matV p k k a (k * k) (k * k)) (by simp [results, Try.results72, go_sem, r0, r1, r2, r3]) rfl ⟨_, rfl, ?_, ?_⟩
      · refine OwnI.base (B := w0.heap.size) ?_ (by omega)
        refine OwnI.setBelow (OwnI.setBelow (OwnI.setBelow (OwnI.setBelow HOF.out _ _ ?_ _) _ _ ?_ _) _ _ ?_ _) _ _ ?_ _ <;> omega
      · refine Ext.setNew (Ext.setNew (Ext.setNew (Ext.setNew HXF.out _ _ ?_ _) _ _ ?_ _) _ _ ?_ _) _ _ ?_ _ <;> omega
end Go.Proofs.Ythbdcclglopkiaa
