/-
  The law's own copies and comparisons of slices of a word and a number each.
-/
import Derived.Test.YthbdcclglopkiaaDoorLTerm2
namespace Go.Proofs.YthbdcclglopkiaaDoor
open Go.RowKit

/-- block g: n structs, the first k of which read as us says -/
structure TMade (w : World) (g n k : Nat) (us : List (List Int × Int)) : Prop where
  lt : g < w.heap.size
  free : ∀ j, j < n * 2 → (∃ v, w.cell? ⟨g, j, none⟩ = some v) ∧ w.frozen? ⟨g, j, none⟩ = false
  get : ∀ i, i < k → ∃ aw cw, w.cell? ⟨g, i * 2, none⟩ = some (.slice aw (us.getD i ([], 0)).1.length cw) ∧ w.cell? ⟨g, i * 2 + 1, none⟩ = some (.int .i64 (us.getD i ([], 0)).2) ∧
    IntsAt w aw (us.getD i ([], 0)).1.length (us.getD i ([], 0)).1 ∧ ∀ b o, aw = some ⟨b, o, none⟩ → b ≠ g
theorem IntsAt.setOther {w : World} {a : Option Addr} {n : Nat} {xs : List Int} (h : IntsAt w a n xs) (g j : Nat) (v : Value) (hne : ∀ b o, a = some ⟨b, o, none⟩ → b ≠ g) : IntsAt (w.setCell ⟨g, j, none⟩ v) a n xs := by
  refine ⟨h.len, fun i hi => ?_⟩
  obtain ⟨b, o, rfl, hc⟩ := h.get i hi
  refine ⟨b, o, rfl, ?_⟩
  rw [World.cell?_setCell_other w _ _ v (fun e => hne b o rfl (by simp only [Addr.mk.injEq] at e; exact e.1.symm))]
  exact hc
theorem TMade.start {w : World} (n : Nat) (us : List (List Int × Int)) (E : TypeId) : TMade (w.alloc (.cells (zeroT n) E)) w.heap.size n 0 us := by
  refine ⟨by simp, fun j hj => ?_, fun i h => by omega⟩
  rw [cell_top _ _ _ _ _ rfl, frozen_top _ _ _ _ _ rfl]
  exact ⟨⟨_, Array.getElem?_eq_getElem (by rw [zeroT_size]; exact hj)⟩, rfl⟩
theorem TMade.below {w w' : World} {g n k : Nat} {us : List (List Int × Int)} (h : TMade w g n k us) (hx : Ext w w') : TMade w' g n k us := by
  have hc : ∀ j, w'.cell? ⟨g, j, none⟩ = w.cell? ⟨g, j, none⟩ := fun j => hx.cell (p := ⟨g, j, none⟩) h.lt
  have hf : ∀ j, w'.frozen? ⟨g, j, none⟩ = w.frozen? ⟨g, j, none⟩ := fun j => hx.frozen (p := ⟨g, j, none⟩) h.lt
  refine ⟨Nat.lt_of_lt_of_le h.lt hx.size, fun j hj => by rw [hc, hf]; exact h.free j hj, fun i hi => ?_⟩
  obtain ⟨aw, cw, h1, h2, h3, h4⟩ := h.get i hi
  exact ⟨aw, cw, (hc _).trans h1, (hc _).trans h2, h3.below hx, h4⟩
theorem TMade.step {w w1 : World} {g n k : Nat} {us : List (List Int × Int)} (h : TMade w g n k us) (hk : k < n) (hx : Ext w w1) {a' : Option Addr} {c' : Nat} (ho : OwnI w1 w.heap.size a' (us.getD k ([], 0)).1.length c' (us.getD k ([], 0)).1) :
    TMade ((w1.setCell ⟨g, k * 2, none⟩ (.slice a' (us.getD k ([], 0)).1.length c')).setCell ⟨g, k * 2 + 1, none⟩ (.int .i64 (us.getD k ([], 0)).2)) g n (k + 1) us := by
  have h1 := h.below hx
  obtain ⟨⟨v0, q0⟩, _⟩ := h1.free (k * 2) (by omega)
  obtain ⟨⟨v1, q1⟩, _⟩ := h1.free (k * 2 + 1) (by omega)
  have hne : ∀ b o, a' = some ⟨b, o, none⟩ → b ≠ g := fun b o e => by have := (ho.at_base b o e).1; have := h.lt; omega
  have hoth : ∀ j, j ≠ k * 2 → j ≠ k * 2 + 1 → ((w1.setCell ⟨g, k * 2, none⟩ (.slice a' (us.getD k ([], 0)).1.length c')).setCell ⟨g, k * 2 + 1, none⟩ (.int .i64 (us.getD k ([], 0)).2)).cell? ⟨g, j, none⟩ = w1.cell? ⟨g, j, none⟩ := fun j h0 h1 => by
    rw [World.cell?_setCell_other _ _ _ _ (fun e => h1 (by simp only [Addr.mk.injEq] at e; exact e.2.1.symm)), World.cell?_setCell_other _ _ _ _ (fun e => h0 (by simp only [Addr.mk.injEq] at e; exact e.2.1.symm))]
  have hs0 : ((w1.setCell ⟨g, k * 2, none⟩ (.slice a' (us.getD k ([], 0)).1.length c')).setCell ⟨g, k * 2 + 1, none⟩ (.int .i64 (us.getD k ([], 0)).2)).cell? ⟨g, k * 2, none⟩ = some (.slice a' (us.getD k ([], 0)).1.length c') := by
    rw [World.cell?_setCell_other _ _ _ _ (fun e => by simp only [Addr.mk.injEq] at e; omega)]
    exact World.cell?_setCell_same _ _ _ q0
  have hs1 : ((w1.setCell ⟨g, k * 2, none⟩ (.slice a' (us.getD k ([], 0)).1.length c')).setCell ⟨g, k * 2 + 1, none⟩ (.int .i64 (us.getD k ([], 0)).2)).cell? ⟨g, k * 2 + 1, none⟩ = some (.int .i64 (us.getD k ([], 0)).2) := by
    refine World.cell?_setCell_same (u := v1) _ _ _ ?_
    rw [World.cell?_setCell_other _ _ _ _ (fun e => by simp only [Addr.mk.injEq] at e; omega)]
    exact q1
  refine ⟨by simpa [World.setCell] using h1.lt, fun j hj => ⟨?_, ?_⟩, fun i hi => ?_⟩
  · by_cases e0 : j = k * 2
    · subst e0; exact ⟨_, hs0⟩
    · by_cases e1 : j = k * 2 + 1
      · subst e1; exact ⟨_, hs1⟩
      · rw [hoth j e0 e1]; exact (h1.free j hj).1
  · simpa using (h1.free j hj).2
  · rcases Nat.lt_succ_iff_lt_or_eq.1 hi with h3 | rfl
    · obtain ⟨aw, cw, p1, p2, p3, p4⟩ := h1.get i h3
      refine ⟨aw, cw, ?_, ?_, (p3.setOther g _ _ p4).setOther g _ _ p4, p4⟩
      · rw [hoth _ (by omega) (by omega)]; exact p1
      · rw [hoth _ (by omega) (by omega)]; exact p2
    · exact ⟨a', c', hs0, hs1, (ho.ints.setOther g _ _ hne).setOther g _ _ hne, hne⟩
theorem TMade.all {w : World} {g n : Nat} {us : List (List Int × Int)} (h : TMade w g n n us) (hl : us.length = n) (hm : ∀ i, i < n → (us.getD i ([], 0)).1.length ≤ 9223372036854775807) : TermsAt w (some ⟨g, 0, none⟩) n us := by
  refine ⟨hl, fun i hi => ?_⟩
  obtain ⟨aw, cw, h1, h2, h3, _⟩ := h.get i hi
  exact ⟨g, 0, aw, cw, rfl, by rw [Nat.zero_add]; exact h1, by rw [Nat.zero_add]; exact h2, h3, hm i hi⟩

set_option maxHeartbeats 1000000 in
theorem toTermS_any (a : Option Addr) (n c : Nat) (us : List (List Int × Int)) (w : World) (h : TermsAt w a n us) (hn : n ≤ 1048576) (hm : ∀ i, i < n → ((us.getD i ([], 0)).1.length : Int) ≤ 1048576) :
    Calls Tryd.prog 7 #[.slice a n c] w fun e w' => ∃ a', e = .returned (.slice a' n n) ∧ TermsAt w' a' n us ∧ Ext w w' := by
  have hx0 := Ext.alloc w (.cells (zeroT n) 46)
  have G := hidP h
  have HM := hidP hm
  have L := hidP h.len
  have hmk := make_terms n (by omega)
  have HS := hidP (TMade.start (w := w) n us 46)
  have hb0 : w.heap.size < (w.alloc (.cells (zeroT n) 46)).heap.size := by simp
  clear h hm
  go_enter Tryd.func7, Tryd.ntmps7
  go_wp2
  obtain ⟨w0, hw0⟩ : ∃ w0, w0 = w.alloc (.cells (zeroT n) 46) := ⟨_, rfl⟩
  rw [← hw0] at HS hx0 hb0 ⊢
  clear hw0 hmk
  have HX0 := hidP hx0
  clear hx0
  go_loopw [4] (fun i wr => ∃ k : Nat, k ≤ n ∧ i = .int .i64 k ∧ Hid (TMade wr w.heap.size n k us) ∧ Hid (Ext w wr)) (fun i _ => n - (intOf i).toNat)
  case atStart => exact ⟨0, Nat.zero_le _, rfl, HS, HX0⟩
  case round =>
    obtain ⟨k, hk, rfl, HT, HX⟩ := hrel
    by_cases hlt : k < n
    · obtain ⟨b, o, aw, cw, rfl, q, q', hI, _⟩ := (G.out.below HX.out).get k hlt
      have HG := hidP (toTerm_any (us.getD k ([], 0)).2 aw (us.getD k ([], 0)).1.length cw (us.getD k ([], 0)).1 wr hI (by have := HM.out k hlt; omega))
      clear hI
      go_wp2_with fail
      refine HG.out.mono ?_
      rintro e w1 ⟨a1, rfl, ho, hx⟩
      have HT1 := hidP (HT.out.step hlt hx ho)
      obtain ⟨⟨v0, z0⟩, y0⟩ := (HT.out.below hx).free (k * 2) (by omega)
      obtain ⟨⟨v1, z1⟩, y1⟩ := (HT.out.below hx).free (k * 2 + 1) (by omega)
      have HX1 : Hid (Ext w ((w1.setCell ⟨w.heap.size, k * 2, none⟩ (.slice a1 (us.getD k ([], 0)).1.length (us.getD k ([], 0)).1.length)).setCell ⟨w.heap.size, k * 2 + 1, none⟩ (.int .i64 (us.getD k ([], 0)).2))) :=
        Ext.setNew (Ext.setNew (HX.out.trans hx) _ _ (Nat.le_refl _) _) _ _ (Nat.le_refl _) _
      clear q q' ho hx
      clear HG
      generalize us.getD k ([], 0) = U at *
      go_wp2
      go_roundw
      case rel => exact ⟨k + 1, by omega, by go_num, HT1, HX1⟩
      case measure => simp [intOf]; omega
    · obtain rfl : k = n := by omega
      have hm2 := fun i hi => (by have := HM.out i hi; omega : (us.getD i ([], 0)).1.length ≤ 9223372036854775807)
      have HE := hidP (HT.out.all L.out hm2)
      clear hm2
      go_wp2
      go_ret
      exact ⟨_, rfl, HE.out, HX.out⟩
set_option maxHeartbeats 1000000 in
theorem eqTermS_any (a1 a2 : Option Addr) (n1 n2 c1 c2 : Nat) (us vs : List (List Int × Int)) (w : World) (h1 : TermsAt w a1 n1 us) (h2 : TermsAt w a2 n2 vs) (hn1 : n1 ≤ 9223372036854775807) (hn2 : n2 ≤ 9223372036854775807) :
    Calls Tryd.prog 9 #[.slice a1 n1 c1, .slice a2 n2 c2] w fun e w' => e = .returned (.bool (us == vs)) ∧ Ext w w' := by
  have L1 := hidP h1.len
  have L2 := hidP h2.len
  have G1 := hidP h1
  have G2 := hidP h2
  clear h1 h2
  by_cases hne : n1 = n2
  · subst hne
    have hb : (((n1 : Nat) : Int) != (n1 : Nat)) = false := by simp
    go_enter Tryd.func9, Tryd.ntmps9
    go_wp2
    go_loopw [5] (fun i wr => ∃ k : Nat, k ≤ n1 ∧ Hid (∀ j, j < k → us.getD j ([], 0) = vs.getD j ([], 0)) ∧ i = .int .i64 k ∧ Hid (Ext w wr)) (fun i _ => n1 - (intOf i).toNat)
    case atStart => exact ⟨0, Nat.zero_le _, fun j h => by omega, rfl, Ext.refl _⟩
    case round =>
      obtain ⟨k, hk, HJ, rfl, HX⟩ := hrel
      by_cases hlt : k < n1
      · obtain ⟨b, o, aw, cw, rfl, _⟩ := G1.out.get k hlt
        obtain ⟨b', o', aw', cw', rfl, _⟩ := G2.out.get k hlt
        obtain ⟨aw, cw, hm, hq⟩ := G1.out.keeps k hlt
        obtain ⟨aw1, cw1, hm1, hq1⟩ := G2.out.keeps k hlt
        have HQ := hidP hq
        have HQ1 := hidP hq1
        have HE := hidP (fun w' (hx : Ext w w') => eqTerm_any (us.getD k ([], 0)).2 (vs.getD k ([], 0)).2 aw aw1 _ _ cw cw1 _ _ w' (HQ.out w' hx).2.2 (HQ1.out w' hx).2.2 hm hm1)
        have HEQ : Hid (((us.getD k ([], 0)).1 == (vs.getD k ([], 0)).1 && (us.getD k ([], 0)).2 == (vs.getD k ([], 0)).2) = true → us.getD k ([], 0) = vs.getD k ([], 0)) := by
          intro h
          simp only [Bool.and_eq_true, beq_iff_eq] at h
          exact Prod.ext h.1 h.2
        have HNE : Hid (((us.getD k ([], 0)).1 == (vs.getD k ([], 0)).1 && (us.getD k ([], 0)).2 == (vs.getD k ([], 0)).2) = false → (us == vs) = false) := by
          intro h
          rw [beq_eq_false_iff_ne]
          rintro rfl
          simp at h
        have HS := hidP (fun (hs : us.getD k ([], 0) = vs.getD k ([], 0)) => (by
          intro j hj
          rcases Nat.lt_succ_iff_lt_or_eq.1 hj with h3 | rfl
          · exact HJ.out j h3
          · exact hs : ∀ j, j < k + 1 → us.getD j ([], 0) = vs.getD j ([], 0)))
        clear hq hq1
        generalize us.getD k ([], 0) = U at *
        generalize vs.getD k ([], 0) = V at *
        generalize (U.1 == V.1 && U.2 == V.2) = B at *
        have hE : Ext wr wr.drew := Ext.drew wr
        cases B
        all_goals
          go_wp2
          (refine walkR_start (fun w' => Ext wr w') 10 (by kernel_rfl) ?_; simp only [numbered, List.take_succ_cons, List.take_zero, Nat.zero_add, Nat.reduceAdd, List.length_cons, List.length_nil])
          (repeat (first | (refine walkR_still (v := ?_) rfl (by decide +kernel) rfl (fun _ _ _ h => h) hE ?_ ?_; rotate_left; (focus (intro w' hw'; obtain ⟨q, q', _⟩ := HQ.out w' (HX.out.trans hw'); obtain ⟨p, p', _⟩ := HQ1.out w' (HX.out.trans hw'); go_simp; all_goals (with_reducible rfl))); simp only [Act.put, List.setIfInBounds_toArray, List.set_cons_zero, List.set_cons_succ]) | (refine walkR_skip rfl (by decide +kernel) rfl (fun _ _ _ h => h) hE ?_; simp only [Act.put, List.setIfInBounds_toArray, List.set_cons_zero, List.set_cons_succ])))
          (refine walkR_only (fun w' => Ext wr w') rfl (by decide +kernel) rfl (fun _ h => h) ?_; intro K hK; go_simp; refine (HE.out _ (HX.out.trans hE)).mono ?_; rintro e w1 ⟨rfl, hx1⟩; refine hK _ _ (hE.trans hx1) ?_; clear hK K; (try simp only [Act.put, List.setIfInBounds_toArray, List.set_cons_zero, List.set_cons_succ]))
          have hE1 := hE.trans hx1
          clear hx1
          (repeat (first | (refine walkR_still (v := ?_) rfl (by decide +kernel) rfl (fun _ _ _ h => h) hE1 ?_ ?_; rotate_left; (focus (intro w' hw'; skip; go_simp; all_goals (with_reducible rfl))); simp only [Act.put, List.setIfInBounds_toArray, List.set_cons_zero, List.set_cons_succ]) | (refine walkR_skip rfl (by decide +kernel) rfl (fun _ _ _ h => h) hE1 ?_; simp only [Act.put, List.setIfInBounds_toArray, List.set_cons_zero, List.set_cons_succ])))
          (refine walkR_tail (by rfl) (by kernel_rfl) ?_; simp only [List.drop_succ_cons, List.drop_zero])
          go_wp2
        · go_ret
          exact ⟨ret_bool (HNE.out (by trivial)).symm, HX.out.trans hE1⟩
        · have hs := hidP (HS.out (HEQ.out (by trivial)))
          go_roundw
          case rel => exact ⟨k + 1, by omega, hs, by go_num, HX.out.trans hE1⟩
          case measure => simp [intOf]; omega
      · have HB : Hid ((us == vs) = true) := by
          show _ = _
          rw [beq_iff_eq]
          apply List.ext_getElem (L1.out.trans L2.out.symm)
          intro j p1 p2
          have := HJ.out j (by have := L1.out; omega)
          simpa [List.getD_eq_getElem?_getD, List.getElem?_eq_getElem p1, List.getElem?_eq_getElem p2] using this
        go_wp2
        go_ret
        exact ⟨ret_bool HB.out.symm, HX.out⟩
  · have HB : Hid ((us == vs) = false) := by
      show _ = _
      rw [beq_eq_false_iff_ne]
      exact fun e => hne (by rw [← L1.out, ← L2.out, e])
    have hb : (((n1 : Nat) : Int) != (n2 : Nat)) = true := bne_iff_ne.2 (by omega)
    clear hne
    go_enter Tryd.func9, Tryd.ntmps9
    go_wp2
    go_ret
    exact ⟨ret_bool HB.out.symm, Ext.refl _⟩
end Go.Proofs.YthbdcclglopkiaaDoor
