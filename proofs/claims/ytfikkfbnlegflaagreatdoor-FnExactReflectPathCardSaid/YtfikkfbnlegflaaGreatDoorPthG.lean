/-
  Simple reflections of a weight, the program's and the reference's; the times at which heights are met.
-/
import Derived.Test.YtfikkfbnlegflaaGreatDoorPthF
namespace Go.Proofs.YtfikkfbnlegflaaGreatDoor
open Go.RowKit

theorem OwnI.stored {w : World} {B g n c : Nat} {xs : List Int} (h : OwnI w B (some ⟨g, 0, none⟩) n c xs) (k : Nat) (v : Int) : OwnI (w.setCell ⟨g, k, none⟩ (.int .i64 v)) B (some ⟨g, 0, none⟩) n c (xs.set k v) := by
  have := (h.row.stored k (.int .i64 v)).1
  rw [show (ivs xs).set k (.int .i64 v) = ivs (xs.set k v) by simp [ivs, List.map_set]] at this
  exact ⟨this⟩
theorem partly_at (xs ys : List Int) (k : Nat) (h1 : k ≤ ys.length) : (partly xs ys k).getD k 0 = xs.getD k 0 := by
  simp only [partly, List.getD_eq_getElem?_getD]
  rw [List.getElem?_append_right (by simp; omega)]
  simp [Nat.min_eq_left h1]
/-- what a round of a reflection does with numbers -/
structure RfStep (r : Nat) (ts W : List Int) (i k : Nat) (A Z T : Int) : Prop where
  a : W.getD k 0 = A
  z : W.getD i 0 = Z
  t : atM ts r k i = T
  res : (refl r ts i W).getD k 0 = A - Z * T
  mul : IntKind.i64.wrap (Z * T) = Z * T
  sub : IntKind.i64.wrap (A - Z * T) = A - Z * T
theorem rf_step {r : Nat} {ts W : List Int} (hT : typeB r ts = true) {i k : Nat} (hk : k < r) (hb : ∀ j, j < r → -1000 ≤ W.getD j 0 ∧ W.getD j 0 ≤ 1000) (hi : i < r) : RfStep r ts W i k (W.getD k 0) (W.getD i 0) (atM ts r k i) := by
  have h1 := hb k hk
  have h2 := hb i hi
  have h3 : -3 ≤ atM ts r k i ∧ atM ts r k i ≤ 2 := typeB_entry hT _
  have h4 : -3000 ≤ W.getD i 0 * atM ts r k i ∧ W.getD i 0 * atM ts r k i ≤ 3000 := by
    obtain ⟨h2a, h2b⟩ := h2
    obtain ⟨h3a, h3b⟩ := h3
    generalize W.getD i 0 = x at *
    generalize atM ts r k i = y at *
    rcases (by omega : y = -3 ∨ y = -2 ∨ y = -1 ∨ y = 0 ∨ y = 1 ∨ y = 2) with rfl | rfl | rfl | rfl | rfl | rfl <;> omega
  exact ⟨rfl, rfl, rfl, refl_get r ts i W k hk, wrap_in (by omega) (by omega), wrap_in (by omega) (by omega)⟩

set_option maxHeartbeats 2000000 in
theorem reflectWeight_any (R : Nat) (ta : Option Addr) (tn tc : Nat) (ts : List Int) (i : Nat) (a : Option Addr) (n c : Nat) (W : List Int) (w : World) (hc : IntsAt w ta tn ts) (hT : typeB R ts = true) (hi : i < R) (h : IntsAt w a n W) (hnil : a = none → c = 0) (hW : W.length = R)
    (hb : ∀ j, j < R → -1000 ≤ W.getD j 0 ∧ W.getD j 0 ≤ 1000) :
    Calls Tryz.prog 132 #[carV R ta tn tc, .int .i64 i, .slice a n c] w fun e w' => ∃ a' c', e = .returned (.slice a' n c') ∧ OwnI w' w.heap.size a' n c' (refl R ts i W) ∧ Ext w w' := by
  have hx1 := Ext.alloc w (.cells #[.int .i64 R, .slice ta tn tc] 31)
  have HC := hidP (fun w' (hx : Ext (w.alloc (.cells #[.int .i64 R, .slice ta tn tc] 31)) w') => (CarAt.new w _ rfl (R : Int) ta tn tc 31).below hx)
  have HX1 := hidP hx1
  have hnR : n = R := by have := h.len; omega
  subst hnR
  have hrk := typeB_rank hT
  have HAt := hidP (fun w' (hx : Ext w w') (k : Nat) (hk : k < n) => cartAt_any (n : Int) ta tn tc ts k i w' (hc.below hx) (by have := hc.len; omega) (by omega) (by omega) (by omega))
  have HCl := hidP (clone_any a n c W _ (h.below hx1) hnil (by omega))
  have HI := hidP h
  have HT := hidP hT
  have HB := hidP hb
  have HW := hidP hW
  have hs1 : w.heap.size ≤ (w.alloc (.cells #[.int .i64 n, .slice ta tn tc] 31)).heap.size := hx1.size
  have hn4 : n ≤ 4 := by omega
  clear hc h hnil hx1 hT hb hW hrk
  obtain ⟨w1, hw1⟩ : ∃ w1, w1 = w.alloc (.cells #[.int .i64 n, .slice ta tn tc] 31) := ⟨_, rfl⟩
  rw [← hw1] at HC HX1 HCl hs1
  have HS1 := hidP hs1
  clear hs1
  obtain ⟨b, o, rfl, hwi⟩ := HI.out.one i hi
  have HWi := hidP hwi
  have hi0 : (0 : Int) ≤ (i : Int) := by omega
  have hin : (i : Int) < (n : Int) := by omega
  have HL : Hid ((refl n ts i W).length = n) := refl_length _ _ _ _
  clear hwi
  go_enter Tryz.func132, Tryz.ntmps132
  go_wp2_with fail
  rw [← hw1]
  clear hw1
  refine HCl.out.mono ?_
  rintro e w2 ⟨a1, c1, rfl, ho, hx⟩
  obtain ⟨g, rfl, _⟩ := ho.cell i hi
  have HX2 := hidP hx
  have HG1 : Hid (w1.heap.size ≤ g) := (ho.at_base g 0 rfl).1
  have HO2 := hidP (ho.base (B' := w.heap.size) HS1.out)
  clear ho hx HCl
  go_wp2
  go_loopw [13] (fun ii wr => ∃ k : Nat, k ≤ n ∧ ii = .int .i64 k ∧ Hid (OwnI wr w.heap.size (some ⟨g, 0, none⟩) n c1 (partly W (refl n ts i W) k)) ∧ Hid (Ext w1 wr)) (fun ii _ => n - (intOf ii).toNat)
  case atStart => exact ⟨0, Nat.zero_le _, rfl, by rw [partly_zero]; exact HO2, HX2⟩
  case round =>
    obtain ⟨k, hk, rfl, HO, HX⟩ := hrel

    by_cases hlt : k < n
    · have hst := rf_step HT.out hlt HB.out hi
      obtain ⟨A, hA⟩ : ∃ A, A = W.getD k 0 := ⟨_, rfl⟩
      obtain ⟨Z, hZ⟩ : ∃ Z, Z = W.getD i 0 := ⟨_, rfl⟩
      obtain ⟨T, hT⟩ : ∃ T, T = atM ts n k i := ⟨_, rfl⟩
      rw [← hA, ← hZ, ← hT] at hst
      obtain ⟨b', o', e', hwk⟩ := HI.out.one k hlt
      simp only [Option.some.injEq, Addr.mk.injEq, and_true] at e'
      obtain ⟨rfl, rfl⟩ := e'
      have HF : Hid (∀ w', Ext wr w' → w'.cell? ⟨g, k, none⟩ = some (.int .i64 A) ∧ w'.frozen? ⟨g, k, none⟩ = false ∧ w'.cell? ⟨b, o + i, none⟩ = some (.int .i64 Z) ∧ w'.cell? ⟨b, o + k, none⟩ = some (.int .i64 A)) := by
        show ∀ w', _
        intro w' hx
        obtain ⟨g', e', _, _, q1, q2⟩ := (HO.out.below hx).cell k hlt
        simp only [Option.some.injEq, Addr.mk.injEq, and_true] at e'
        subst e'
        rw [partly_at _ _ _ (by rw [HL.out]; omega), ← hA] at q1
        have q3 := HWi.out w' ((HX1.out.trans HX.out).trans hx)
        have q4 := hwk w' ((HX1.out.trans HX.out).trans hx)
        rw [← hZ] at q3
        rw [← hA] at q4
        exact ⟨q1, q2, q3, q4⟩
      have HCk := hidP (fun w' (hx : Ext w1 w') => HAt.out w' (HX1.out.trans hx) k hlt)
      have HSt : Hid (∀ w', Ext wr w' → OwnI (w'.setCell ⟨g, k, none⟩ (.int .i64 (A - Z * T))) w.heap.size (some ⟨g, 0, none⟩) n c1 (partly W (refl n ts i W) (k + 1))) := by
        show ∀ w', _
        intro w' hx
        have h1 := (HO.out.below hx).stored k (A - Z * T)
        rw [← hst.res] at h1
        rw [partly_succ W (refl n ts i W) n k hlt HW.out HL.out] at h1
        rw [← hst.res]
        exact h1
      have HBg := hidP ((HO2.out.at_base g 0 rfl).1)
      have hmul := hst.mul
      have hsub := hst.sub
      simp only [Int.toNat_natCast, ← hT] at HCk
      have hk0 : (0 : Int) ≤ (k : Int) := by omega
      have hkn : (k : Int) < (n : Int) := by omega
      clear hst hA hZ hT hwk
      have hE : Ext wr wr.drew := Ext.drew wr
      go_wp2
      (refine walkR_start (fun w' => Ext wr w') 14 (by kernel_rfl) ?_; simp only [numbered, List.take_succ_cons, List.take_zero, Nat.zero_add, Nat.reduceAdd, List.length_cons, List.length_nil])
      (repeat (first | (refine walkR_still (v := ?_) rfl (by decide +kernel) rfl (fun _ _ _ h => h) hE ?_ ?_; rotate_left; (focus (intro w' hw'; obtain ⟨q1, q2, q3, q4⟩ := HF.out w' hw'; obtain ⟨f0, f1⟩ := HC.out w' (HX.out.trans hw'); go_simp; all_goals (with_reducible rfl))); simp only [Act.put, List.setIfInBounds_toArray, List.set_cons_zero, List.set_cons_succ]) | (refine walkR_skip rfl (by decide +kernel) rfl (fun _ _ _ h => h) hE ?_; simp only [Act.put, List.setIfInBounds_toArray, List.set_cons_zero, List.set_cons_succ])))
      (refine walkR_only (fun w' => Ext wr w') rfl (by decide +kernel) rfl (fun _ h => h) ?_; intro K hK; go_simp; refine (HCk.out _ (HX.out.trans hE)).mono ?_; rintro e w3 ⟨rfl, hx3⟩; refine hK _ _ (hE.trans hx3) ?_; clear hK K; (try simp only [Act.put, List.setIfInBounds_toArray, List.set_cons_zero, List.set_cons_succ]))
      have hE3 := hE.trans hx3
      clear hx3 hE
      (repeat (first | (refine walkR_still (v := ?_) rfl (by decide +kernel) rfl (fun _ _ _ h => h) hE3 ?_ ?_; rotate_left; (focus (intro w' hw'; obtain ⟨q1, q2, q3, q4⟩ := HF.out w' hw'; go_simp; all_goals (with_reducible rfl))); simp only [Act.put, List.setIfInBounds_toArray, List.set_cons_zero, List.set_cons_succ]) | (refine walkR_skip rfl (by decide +kernel) rfl (fun _ _ _ h => h) hE3 ?_; simp only [Act.put, List.setIfInBounds_toArray, List.set_cons_zero, List.set_cons_succ])))
      (refine walkR_tail (by rfl) (by kernel_rfl) ?_; simp only [List.drop_succ_cons, List.drop_zero])
      obtain ⟨q1, q2, q3, q4⟩ := HF.out w3 hE3
      have HO3 := hidP (HSt.out w3 hE3)
      have HX3 : Hid (Ext w1 (w3.setCell ⟨g, k, none⟩ (.int .i64 (A - Z * T)))) := Ext.setNew (HX.out.trans hE3) _ _ (by have := HG1.out; exact this) _
      clear q3 q4 hE3
      go_wp2
      go_roundw
      case rel => exact ⟨k + 1, by omega, by go_num, HO3, HX3⟩
      case measure => simp [intOf]; omega
    · obtain rfl : n = k := by omega
      have HD : Hid (partly W (refl n ts i W) n = refl n ts i W) := partly_all _ _ _ HW.out HL.out
      rw [HD.out] at HO
      go_wp2
      go_ret
      exact ⟨_, _, rfl, HO.out, HX1.out.trans HX.out⟩
set_option maxHeartbeats 2000000 in
theorem l6Reflect_any (R : Nat) (ta : Option Addr) (tn tc : Nat) (ts : List Int) (i : Nat) (a : Option Addr) (n c : Nat) (W : List Int) (w : World) (hc : IntsAt w ta tn ts) (hT : typeB R ts = true) (hi : i < R) (h : IntsAt w a n W) (hnil : a = none → c = 0) (hW : W.length = R)
    (hb : ∀ j, j < R → -1000 ≤ W.getD j 0 ∧ W.getD j 0 ≤ 1000) :
    Calls Tryz.prog 114 #[carV R ta tn tc, .int .i64 i, .slice a n c] w fun e w' => ∃ a' c', e = .returned (.slice a' n c') ∧ OwnI w' w.heap.size a' n c' (refl R ts i W) ∧ Ext w w' := by
  have hx1 := Ext.alloc w (.cells #[.int .i64 R, .slice ta tn tc] 31)
  have HC := hidP (fun w' (hx : Ext (w.alloc (.cells #[.int .i64 R, .slice ta tn tc] 31)) w') => (CarAt.new w _ rfl (R : Int) ta tn tc 31).below hx)
  have HX1 := hidP hx1
  have hnR : n = R := by have := h.len; omega
  subst hnR
  have hrk := typeB_rank hT
  have HAt := hidP (fun w' (hx : Ext w w') (k : Nat) (hk : k < n) => l5At_any (n : Int) ta tn tc ts k i w' (hc.below hx) (by have := hc.len; omega) (by omega) (by omega) (by omega))
  have HCl := hidP (l1Ints_any a n c W _ (h.below hx1) hnil (by omega))
  have HI := hidP h
  have HT := hidP hT
  have HB := hidP hb
  have HW := hidP hW
  have hs1 : w.heap.size ≤ (w.alloc (.cells #[.int .i64 n, .slice ta tn tc] 31)).heap.size := hx1.size
  have hn4 : n ≤ 4 := by omega
  clear hc h hnil hx1 hT hb hW hrk
  obtain ⟨w1, hw1⟩ : ∃ w1, w1 = w.alloc (.cells #[.int .i64 n, .slice ta tn tc] 31) := ⟨_, rfl⟩
  rw [← hw1] at HC HX1 HCl hs1
  have HS1 := hidP hs1
  clear hs1
  obtain ⟨b, o, rfl, hwi⟩ := HI.out.one i hi
  have HWi := hidP hwi
  have hi0 : (0 : Int) ≤ (i : Int) := by omega
  have hin : (i : Int) < (n : Int) := by omega
  have HL : Hid ((refl n ts i W).length = n) := refl_length _ _ _ _
  clear hwi
  go_enter Tryz.func114, Tryz.ntmps114
  go_wp2_with fail
  rw [← hw1]
  clear hw1
  refine HCl.out.mono ?_
  rintro e w2 ⟨a1, c1, rfl, ho, hx⟩
  obtain ⟨g, rfl, _⟩ := ho.cell i hi
  have HX2 := hidP hx
  have HG1 : Hid (w1.heap.size ≤ g) := (ho.at_base g 0 rfl).1
  have HO2 := hidP (ho.base (B' := w.heap.size) HS1.out)
  clear ho hx HCl
  go_wp2
  go_loopw [8] (fun ii wr => ∃ k : Nat, k ≤ n ∧ ii = .int .i64 k ∧ Hid (OwnI wr w.heap.size (some ⟨g, 0, none⟩) n c1 (partly W (refl n ts i W) k)) ∧ Hid (Ext w1 wr)) (fun ii _ => n - (intOf ii).toNat)
  case atStart => exact ⟨0, Nat.zero_le _, rfl, by rw [partly_zero]; exact HO2, HX2⟩
  case round =>
    obtain ⟨k, hk, rfl, HO, HX⟩ := hrel
    obtain ⟨y0, y1⟩ := HC.out wr HX.out
    by_cases hlt : k < n
    · have hst := rf_step HT.out hlt HB.out hi
      obtain ⟨A, hA⟩ : ∃ A, A = W.getD k 0 := ⟨_, rfl⟩
      obtain ⟨Z, hZ⟩ : ∃ Z, Z = W.getD i 0 := ⟨_, rfl⟩
      obtain ⟨T, hT⟩ : ∃ T, T = atM ts n k i := ⟨_, rfl⟩
      rw [← hA, ← hZ, ← hT] at hst
      obtain ⟨b', o', e', hwk⟩ := HI.out.one k hlt
      simp only [Option.some.injEq, Addr.mk.injEq, and_true] at e'
      obtain ⟨rfl, rfl⟩ := e'
      have HF : Hid (∀ w', Ext wr w' → w'.cell? ⟨g, k, none⟩ = some (.int .i64 A) ∧ w'.frozen? ⟨g, k, none⟩ = false ∧ w'.cell? ⟨b, o + i, none⟩ = some (.int .i64 Z) ∧ w'.cell? ⟨b, o + k, none⟩ = some (.int .i64 A)) := by
        show ∀ w', _
        intro w' hx
        obtain ⟨g', e', _, _, q1, q2⟩ := (HO.out.below hx).cell k hlt
        simp only [Option.some.injEq, Addr.mk.injEq, and_true] at e'
        subst e'
        rw [partly_at _ _ _ (by rw [HL.out]; omega), ← hA] at q1
        have q3 := HWi.out w' ((HX1.out.trans HX.out).trans hx)
        have q4 := hwk w' ((HX1.out.trans HX.out).trans hx)
        rw [← hZ] at q3
        rw [← hA] at q4
        exact ⟨q1, q2, q3, q4⟩
      have HCk := hidP (fun w' (hx : Ext w1 w') => HAt.out w' (HX1.out.trans hx) k hlt)
      have HSt : Hid (∀ w', Ext wr w' → OwnI (w'.setCell ⟨g, k, none⟩ (.int .i64 (A - Z * T))) w.heap.size (some ⟨g, 0, none⟩) n c1 (partly W (refl n ts i W) (k + 1))) := by
        show ∀ w', _
        intro w' hx
        have h1 := (HO.out.below hx).stored k (A - Z * T)
        rw [← hst.res] at h1
        rw [partly_succ W (refl n ts i W) n k hlt HW.out HL.out] at h1
        rw [← hst.res]
        exact h1
      have HBg := hidP ((HO2.out.at_base g 0 rfl).1)
      have hmul := hst.mul
      have hsub := hst.sub
      simp only [Int.toNat_natCast, ← hT] at HCk
      have hk0 : (0 : Int) ≤ (k : Int) := by omega
      have hkn : (k : Int) < (n : Int) := by omega
      clear hst hA hZ hT hwk
      have hE : Ext wr wr.drew := Ext.drew wr
      go_wp2
      (refine walkR_start (fun w' => Ext wr w') 16 (by kernel_rfl) ?_; simp only [numbered, List.take_succ_cons, List.take_zero, Nat.zero_add, Nat.reduceAdd, List.length_cons, List.length_nil])
      (repeat (first | (refine walkR_still (v := ?_) rfl (by decide +kernel) rfl (fun _ _ _ h => h) hE ?_ ?_; rotate_left; (focus (intro w' hw'; obtain ⟨q1, q2, q3, q4⟩ := HF.out w' hw'; obtain ⟨f0, f1⟩ := HC.out w' (HX.out.trans hw'); go_simp; all_goals (with_reducible rfl))); simp only [Act.put, List.setIfInBounds_toArray, List.set_cons_zero, List.set_cons_succ]) | (refine walkR_skip rfl (by decide +kernel) rfl (fun _ _ _ h => h) hE ?_; simp only [Act.put, List.setIfInBounds_toArray, List.set_cons_zero, List.set_cons_succ])))
      (refine walkR_only (fun w' => Ext wr w') rfl (by decide +kernel) rfl (fun _ h => h) ?_; intro K hK; go_simp; refine (HCk.out _ (HX.out.trans hE)).mono ?_; rintro e w3 ⟨rfl, hx3⟩; refine hK _ _ (hE.trans hx3) ?_; clear hK K; (try simp only [Act.put, List.setIfInBounds_toArray, List.set_cons_zero, List.set_cons_succ]))
      have hE3 := hE.trans hx3
      clear hx3 hE
      (repeat (first | (refine walkR_still (v := ?_) rfl (by decide +kernel) rfl (fun _ _ _ h => h) hE3 ?_ ?_; rotate_left; (focus (intro w' hw'; obtain ⟨q1, q2, q3, q4⟩ := HF.out w' hw'; go_simp; all_goals (with_reducible rfl))); simp only [Act.put, List.setIfInBounds_toArray, List.set_cons_zero, List.set_cons_succ]) | (refine walkR_skip rfl (by decide +kernel) rfl (fun _ _ _ h => h) hE3 ?_; simp only [Act.put, List.setIfInBounds_toArray, List.set_cons_zero, List.set_cons_succ])))
      (refine walkR_tail (by rfl) (by kernel_rfl) ?_; simp only [List.drop_succ_cons, List.drop_zero])
      obtain ⟨q1, q2, q3, q4⟩ := HF.out w3 hE3
      have HO3 := hidP (HSt.out w3 hE3)
      have HX3 : Hid (Ext w1 (w3.setCell ⟨g, k, none⟩ (.int .i64 (A - Z * T)))) := Ext.setNew (HX.out.trans hE3) _ _ (by have := HG1.out; exact this) _
      clear q3 q4 hE3
      go_wp2
      go_roundw
      case rel => exact ⟨k + 1, by omega, by go_num, HO3, HX3⟩
      case measure => simp [intOf]; omega
    · obtain rfl : n = k := by omega
      have HD : Hid (partly W (refl n ts i W) n = refl n ts i W) := partly_all _ _ _ HW.out HL.out
      rw [HD.out] at HO
      go_wp2
      go_ret
      exact ⟨_, _, rfl, HO.out, HX1.out.trans HX.out⟩
end Go.Proofs.YtfikkfbnlegflaaGreatDoor
