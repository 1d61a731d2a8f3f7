/-
  The law's own copies of slices of steps.
-/
import Derived.Test.YtdbpbnajegoffaaDoorLStp
import Derived.Test.YtdbpbnajegoffaaDoorPthC
import Derived.Test.YtdbpbnajegoffaaDoorSes
namespace Go.Proofs.YtdbpbnajegoffaaDoor
open Go.RowKit

/-- the cells of a new slice of structs -/
def zeroT (n : Nat) : Array Value := madeCells #[.slice none 0 0, .int .i64 0] (n * 2)
theorem zeroT_size (n : Nat) : (zeroT n).size = n * 2 := by simp [zeroT, madeCells]
theorem make_terms (n : Nat) (h1 : n ≤ 1000000000) (w : World) :
    (Instr.makeSlice 44 (.int .i64 (n : Int)) (.int .i64 (n : Int))).run Tryd.prog w = .ok (.slice (some ⟨w.heap.size, 0, none⟩) n n) (w.alloc (.cells (zeroT n) 71)) := by
  obtain ⟨i, hi, hz0, hz1, hz2⟩ := info_parts Tryd.info71
  have := run_make (P := Tryd.prog) w 44 71 i _ Tryd.underlying44 hi hz0 .i64 .i64 n n (by omega) (Int.le_refl _) (by rw [hz2]; omega) (by omega)
  rw [this, hz1]
  rfl

set_option maxHeartbeats 1000000 in
theorem toStep_any (m : Int) (a : Option Addr) (n c : Nat) (xs : List Int) (w : World) (h : IntsAt w a n xs) (hn : n ≤ 1048576) :
    Calls Tryd.prog 46 #[.agg #[.slice a n c, .int .i64 m]] w fun e w' => ∃ a', e = .returned (.agg #[.slice a' n n, .int .i64 m]) ∧ OwnI w' w.heap.size a' n n xs ∧ Ext w w' := by
  have HQ := hidP (fun w' (hx : Ext w w') => toIntS_any a n c xs w' (h.below hx) hn)
  clear h
  go_enter Tryd.func46, Tryd.ntmps46
  go_wp2_with fail
  have hx0 : Ext w (((w.alloc (.cells #[.slice a n c, .int .i64 m] 67)).alloc (.cells #[.slice none 0 0, .int .i64 0] 71)).alloc (.cells #[.slice none 0 0, .int .i64 0] 71)) :=
    ((Ext.alloc w _).trans (Ext.alloc _ _)).trans (Ext.alloc _ _)
  have hq := HQ.out _ hx0
  have hg := fun w1 hx j => new_cell (w' := w1) (w := w) (cs := #[.slice a n c, .int .i64 m]) (E := 67) (b := w.heap.size) rfl (((Ext.alloc _ (.cells #[.slice none 0 0, .int .i64 0] 71)).trans (Ext.alloc _ (.cells #[.slice none 0 0, .int .i64 0] 71))).trans hx) j
  have hg1 := fun w1 hx j => new_cell (w' := w1) (w := w.alloc (.cells #[.slice a n c, .int .i64 m] 67)) (cs := #[.slice none 0 0, .int .i64 0]) (E := 71) (b := w.heap.size + 1) (by simp) ((Ext.alloc _ (.cells #[.slice none 0 0, .int .i64 0] 71)).trans hx) j
  have hg2 := fun w1 hx j => new_cell (w' := w1) (w := (w.alloc (.cells #[.slice a n c, .int .i64 m] 67)).alloc (.cells #[.slice none 0 0, .int .i64 0] 71)) (cs := #[.slice none 0 0, .int .i64 0]) (E := 71) (b := w.heap.size + 1 + 1) (by simp) hx j
  have hs0 : w.heap.size + 2 < (((w.alloc (.cells #[.slice a n c, .int .i64 m] 67)).alloc (.cells #[.slice none 0 0, .int .i64 0] 71)).alloc (.cells #[.slice none 0 0, .int .i64 0] 71)).heap.size := by simp
  obtain ⟨W, hW⟩ : ∃ W, W = (((w.alloc (.cells #[.slice a n c, .int .i64 m] 67)).alloc (.cells #[.slice none 0 0, .int .i64 0] 71)).alloc (.cells #[.slice none 0 0, .int .i64 0] 71)) := ⟨_, rfl⟩
  rw [← hW] at hx0 hs0 hq hg hg1 hg2 ⊢
  clear hW HQ
  have HQ := hidP hq
  have HX := hidP hx0
  clear hq hx0
  refine HQ.out.mono ?_
  rintro e w1 ⟨a', rfl, ho, hx⟩
  have HO := hidP ho
  have p1 := (hg w1 hx 1).1.trans (show _ = some (Value.int .i64 m) from rfl)
  obtain ⟨q0, z0⟩ := hg2 w1 hx 0
  obtain ⟨q1, z1⟩ := hg2 w1 hx 1
  obtain ⟨r0, y0⟩ := hg1 w1 hx 0
  obtain ⟨r1, y1⟩ := hg1 w1 hx 1
  have q0 := q0.trans (show _ = some (Value.slice none 0 0) from rfl)
  have q1 := q1.trans (show _ = some (Value.int .i64 0) from rfl)
  have r0 := r0.trans (show _ = some (Value.slice none 0 0) from rfl)
  have r1 := r1.trans (show _ = some (Value.int .i64 0) from rfl)
  have HX1 := hidP (HX.out.trans hx)
  have hsz : w.heap.size + 2 < W.heap.size := hs0
  clear ho hx hs0 hg hg1 hg2
  go_wp2
  refine bodyPost_ret (v := .agg #[.slice a' n n, .int .i64 m]) (by simp [results, Tryd.results46, go_sem, r0, r1]) rfl ⟨_, rfl, ?_, ?_⟩
  · refine OwnI.base (B := W.heap.size) ?_ (by omega)
    refine OwnI.setBelow (OwnI.setBelow (OwnI.setBelow (OwnI.setBelow HO.out _ _ ?_ _) _ _ ?_ _) _ _ ?_ _) _ _ ?_ _ <;> omega
  · refine Ext.setNew (Ext.setNew (Ext.setNew (Ext.setNew HX1.out _ _ ?_ _) _ _ ?_ _) _ _ ?_ _) _ _ ?_ _ <;> omega

theorem all_zeros (n : Nat) : stepK.all (List.replicate n (none, 0)) (List.replicate n ([], 0)) = (zeroT n).toList := by
  have hl : (List.replicate n ((none, 0) : Hdr)).length = (List.replicate n (([], 0) : Stp)).length := by simp
  apply List.ext_getElem?
  intro q
  by_cases hq : q < n * 2
  · obtain ⟨i, j, rfl, hi, hj⟩ : ∃ i j, q = i * stepK.size + j ∧ i < n ∧ j < stepK.size := ⟨q / 2, q % 2, by show q = q / 2 * 2 + q % 2; omega, by omega, by show q % 2 < 2; omega⟩
    rw [stepK.all_get _ _ hl i j (by simpa using hi) hj]
    have e1 : (List.replicate n ((none, 0) : Hdr)).getD i (none, 0) = (none, 0) := by simp [List.getD_eq_getElem?_getD, hi]
    have e2 : (List.replicate n (([], 0) : Stp)).getD i stepK.dft = ([], 0) := by simp [List.getD_eq_getElem?_getD, hi]
    rw [e1, e2]
    have hz : (zeroT n)[i * 2 + j]? = some ((#[Value.slice none 0 0, Value.int .i64 0])[(i * 2 + j) % 2]!) := by
      simp only [zeroT, madeCells, List.size_toArray, List.length_cons, List.length_nil]
      rw [Array.getElem?_map, Array.getElem?_range]
      have : j < 2 := hj
      simp [show i * 2 + j < n * 2 by omega]
    rw [Array.getElem?_toList (xs := zeroT n), show i * stepK.size + j = i * 2 + j from rfl, hz]
    have hj2 : j < 2 := hj
    rcases (by omega : j = 0 ∨ j = 1) with rfl | rfl
    · rw [show (i * 2 + 0) % 2 = 0 by omega]; rfl
    · rw [show (i * 2 + 1) % 2 = 1 by omega]; rfl
  · rw [List.getElem?_eq_none (by rw [stepK.all_length _ _ hl, List.length_replicate]; show n * 2 ≤ q; omega), List.getElem?_eq_none (by rw [Array.length_toList, zeroT_size]; omega)]
theorem OwnK.zeros (w : World) (n : Nat) (hm : n ≤ maxLen) : OwnK stepK (w.alloc (.cells (zeroT n) 71)) w.heap.size (w.alloc (.cells (zeroT n) 71)).heap.size (some ⟨w.heap.size, 0, none⟩) n n (List.replicate n (none, 0)) (List.replicate n ([], 0)) := by
  have g1 : ∀ i, i < n → (List.replicate n ((none, 0) : Hdr)).getD i (none, 0) = (none, 0) := fun i hi => by simp [List.getD_eq_getElem?_getD, hi]
  refine ⟨?_, by simp, by simp, fun i hi => ?_, fun i j hi hj _ => ?_, fun i hi b o e => ?_, fun b o e => ?_⟩
  · have := World.ownsRow_lit (e := 71) (size := 2) (base := w.heap.size) w (zeroT n) n (Nat.le_refl _) hm (zeroT_size n)
    rw [all_zeros]
    exact this
  · have e2 : (List.replicate n (([], 0) : Stp)).getD i stepK.dft = ([], 0) := by simp [List.getD_eq_getElem?_getD, hi]
    rw [g1 i hi, e2]
    exact OwnI.nil _ _
  · rw [g1 i hi]
    intro b o b' o' e
    cases e
  · rw [g1 i hi] at e
    cases e
  · simp only [Option.some.injEq, Addr.mk.injEq, and_true] at e
    simp [← e.1]
theorem set_set_same {β : Type} (l : List β) (i : Nat) (x y : β) : (l.set i x).set i y = l.set i y := by simp
/-- one element gets another word and another number -/
theorem OwnK.placed {w : World} {B U n c : Nat} {a : Option Addr} {hs : List Hdr} {xs : List Stp} (h : OwnK stepK w B U a n c hs xs) (i : Nat) (hi : i < n) {g : Nat} (e : a = some ⟨g, 0, none⟩) (h1 : Hdr) (x1 : Stp)
    (ho : OwnI w B h1.1 x1.1.length h1.2 x1.1) (hap : ∀ j, j < n → j ≠ i → Apart (hs.getD j (none, 0)).1 h1.1) (hU : ∀ b o, h1.1 = some ⟨b, o, none⟩ → b < U) :
    OwnK stepK ((w.setCell ⟨g, i * 2, none⟩ (.slice h1.1 x1.1.length h1.2)).setCell ⟨g, i * 2 + 1, none⟩ (.int .i64 x1.2)) B U a n c (hs.set i h1) (xs.set i x1) := by
  have hlx := h.hl.trans h.xl.symm
  have hxl := h.xl
  have hhl := h.hl
  subst e
  have hr1 := (h.row.stored (i * stepK.size + 0) (.slice h1.1 x1.1.length h1.2)).1
  rw [stepK.all_set hs xs hlx i 0 (by omega) (by decide) _ h1 (x1.1, (xs.getD i stepK.dft).2) rfl] at hr1
  have hl2 : (hs.set i h1).length = (xs.set i (x1.1, (xs.getD i stepK.dft).2)).length := by simp [hlx]
  have hr2 := (World.ownsRow.stored hr1 (i * stepK.size + 1) (.int .i64 x1.2)).1
  rw [stepK.all_set _ _ hl2 i 1 (by simp; omega) (by decide) _ h1 x1 (by
    rw [OwnK.getD_set _ _ _ _ _ (by omega), OwnK.getD_set _ _ _ _ _ (by omega), if_pos rfl, if_pos rfl]
    rfl), set_set_same, set_set_same] at hr2
  have hfar1 := h.off_ints ho
  have hkeep : ∀ {p : Option Addr} {m q : Nat} {ys : List Int}, OwnI w B p m q ys → Apart (some ⟨g, 0, none⟩) p → OwnI ((w.setCell ⟨g, i * 2, none⟩ (.slice h1.1 x1.1.length h1.2)).setCell ⟨g, i * 2 + 1, none⟩ (.int .i64 x1.2)) B p m q ys := fun hk hne =>
    (hk.set2 g _ _ (fun b o e he => hne g 0 b o rfl e he.symm)).set2 g _ _ (fun b o e he => hne g 0 b o rfl e he.symm)
  refine ⟨hr2, by simp [hhl], by simp [hxl], fun j hj => ?_, fun j k hj hk hne => ?_, fun j hj b o e => ?_, h.olt⟩
  · rw [OwnK.getD_set _ _ _ _ _ (by omega), OwnK.getD_set _ _ _ _ _ (by omega)]
    by_cases hji : i = j
    · rw [if_pos hji, if_pos hji]
      exact hkeep ho hfar1
    · rw [if_neg hji, if_neg hji]
      exact hkeep (h.each j hj) (h.far j hj)
  · rw [OwnK.getD_set _ _ _ _ _ (by omega), OwnK.getD_set _ _ _ _ _ (by omega)]
    by_cases hji : i = j
    · rw [if_pos hji, if_neg (by omega)]
      exact (hap k hk (by omega)).symm
    · rw [if_neg hji]
      by_cases hki : i = k
      · rw [if_pos hki]
        exact hap j hj (by omega)
      · rw [if_neg hki]
        exact h.apart j k hj hk hne
  · rw [OwnK.getD_set _ _ _ _ _ (by omega)] at e
    split at e
    · exact hU b o e
    · exact h.lt j hj b o e

set_option maxHeartbeats 1000000 in
theorem toStepS_any (a : Option Addr) (n c : Nat) (us : List Stp) (w : World) (h : TermsAt w a n us) (hn : n ≤ 1048576) (hm : ∀ i, i < n → ((us.getD i ([], 0)).1.length : Int) ≤ 1048576) :
    Calls Tryd.prog 19 #[.slice a n c] w fun e w' => ∃ g hs, e = .returned (.slice (some ⟨g, 0, none⟩) n n) ∧ OwnK stepK w' w.heap.size w'.heap.size (some ⟨g, 0, none⟩) n n hs us ∧ Ext w w' := by
  have hx0 := Ext.alloc w (.cells (zeroT n) 71)
  have G := hidP h
  have HM := hidP hm
  have L := hidP h.len
  have hmk := make_terms n (by omega)
  have HS := hidP (OwnK.zeros w n (by unfold maxLen; omega))
  have hb0 : w.heap.size < (w.alloc (.cells (zeroT n) 71)).heap.size := by simp
  clear h hm
  go_enter Tryd.func19, Tryd.ntmps19
  go_wp2
  obtain ⟨w0, hw0⟩ : ∃ w0, w0 = w.alloc (.cells (zeroT n) 71) := ⟨_, rfl⟩
  rw [← hw0] at HS hx0 hb0 ⊢
  clear hw0 hmk
  have HX0 := hidP hx0
  clear hx0
  go_loopw [4] (fun i wr => ∃ (k : Nat) (hs : List Hdr) (xs : List Stp), k ≤ n ∧ i = .int .i64 k ∧ Hid (OwnK stepK wr w.heap.size wr.heap.size (some ⟨w.heap.size, 0, none⟩) n n hs xs) ∧ Hid (∀ j, j < k → xs.getD j ([], 0) = us.getD j ([], 0)) ∧ Hid (Ext w wr)) (fun i _ => n - (intOf i).toNat)
  case atStart => exact ⟨0, _, _, Nat.zero_le _, rfl, HS, fun j hj => absurd hj (Nat.not_lt_zero _), HX0⟩
  case round =>
    obtain ⟨k, hs, xs, hk, rfl, HO, HJ, HX⟩ := hrel
    by_cases hlt : k < n
    · obtain ⟨b, o, aw, cw, rfl, q, q', hI, _⟩ := (G.out.below HX.out).get k hlt
      have HG := hidP (toStep_any (us.getD k ([], 0)).2 aw (us.getD k ([], 0)).1.length cw (us.getD k ([], 0)).1 wr hI (by have := HM.out k hlt; omega))
      clear hI
      go_wp2_with fail
      refine HG.out.mono ?_
      rintro e w1 ⟨a1, rfl, ho, hx⟩
      have hapN := HO.out.new_apart ho (Nat.le_refl _)
      have hO1 := (HO.out.below hx).weaken (Nat.le_refl _) hx.size
      have HT1 := hidP (hO1.placed k hlt rfl (a1, (us.getD k ([], 0)).1.length) (us.getD k ([], 0)) (ho.base HX.out.size) (fun j hj _ => hapN.1 j hj) (fun b o e => (ho.at_base b o e).2))
      obtain ⟨g', aw', cw', e', _, z0, z1, y0, y1, _⟩ := hO1.stepCell k hlt
      simp only [Option.some.injEq, Addr.mk.injEq, and_true] at e'
      subst e'
      have HX1 : Hid (Ext w ((w1.setCell ⟨w.heap.size, k * 2, none⟩ (.slice a1 (us.getD k ([], 0)).1.length (us.getD k ([], 0)).1.length)).setCell ⟨w.heap.size, k * 2 + 1, none⟩ (.int .i64 (us.getD k ([], 0)).2))) :=
        Ext.setNew (Ext.setNew (HX.out.trans hx) _ _ (Nat.le_refl _) _) _ _ (Nat.le_refl _) _
      have HJ1 : Hid (∀ j, j < k + 1 → (xs.set k (us.getD k ([], 0))).getD j ([], 0) = us.getD j ([], 0)) := by
        show ∀ j, _
        intro j hj
        rw [OwnK.getD_set _ _ _ _ _ (by rw [HO.out.xl]; exact hlt)]
        split
        · rename_i e; rw [e]
        · exact HJ.out j (by omega)
      clear q q' ho hx hO1 hapN
      clear HG
      generalize us.getD k ([], 0) = U at *
      go_wp2
      go_roundw
      case rel => exact ⟨k + 1, _, _, by omega, by go_num, OwnK.weaken HT1.out (Nat.le_refl _) (by simp [World.setCell]), HJ1, HX1⟩
      case measure => simp [intOf]; omega
    · obtain rfl : k = n := by omega
      have HE : Hid (xs = us) := by
        show _ = _
        apply List.ext_getElem (HO.out.xl.trans L.out.symm)
        intro j p1 p2
        have := HJ.out j (by have := L.out; omega)
        simpa [List.getD_eq_getElem?_getD, List.getElem?_eq_getElem p1, List.getElem?_eq_getElem p2] using this
      go_wp2
      go_ret
      exact ⟨_, _, rfl, by rw [← HE.out]; exact HO.out, HX.out⟩
end Go.Proofs.YtdbpbnajegoffaaDoor
