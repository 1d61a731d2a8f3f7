/-
  The law's own functions on slices of steps: their size, equality.
  The law's own copies of slices of steps.
  The law's own marks in slices of steps; what a change within bounds leaves.
  The law's own copies of Cartan matrices.
  Arguments opened: slices of integers, algebras, slices of a word and a number each; what a call that only makes memory leaves readable.
  Arguments opened: Cartan matrices, sessions.
  How much a path holds.
-/
import Derived.Test.YtnfbfdamlnjblaaGreatDoorInS
import Derived.Test.YtnfbfdamlnjblaaGreatDoorTermD
import Derived.Test.YtnfbfdamlnjblaaGreatDoorReg
import Derived.Test.YtnfbfdamlnjblaaGreatDoorPthC
import Derived.Test.YtnfbfdamlnjblaaGreatDoorSes
import Derived.Test.YtnfbfdamlnjblaaGreatDoorCv
import Derived.Test.YtnfbfdamlnjblaaGreatDoorAlg
import Derived.Deep.Slices
import Derived.Lib.SmallJoins
import Derived.Carry
import Derived.ChangeSlices
import Derived.ProofKit
import Derived.OpenShut
import Derived.ChangeOld
import Derived.Test.YtnfbfdamlnjblaaGreatDoorPthT
namespace Go.Proofs.YtnfbfdamlnjblaaGreatDoor
open Go.RowKit

/-- how many numbers the first k elements hold -/
def mkAt (us : List (List Int × Int)) : Nat → Nat
  | 0 => 0
  | k + 1 => mkAt us k + ((us.getD k ([], 0)).1.length + 1)
/-- what a bound on the size leaves: -1, or the bound less what the elements hold -/
def SzOk (us : List (List Int × Int)) (n : Nat) (left v : Int) : Prop := v = -1 ∨ (0 ≤ v ∧ v = left - mkAt us n)
def SzRes (us : List (List Int × Int)) (n : Nat) (left : Int) (w : World) (e : Ending) (w' : World) : Prop := ∃ v, SzOk us n left v ∧ e = .returned (.int .i64 v) ∧ Ext w w'
theorem mkAt_mono (us : List (List Int × Int)) : ∀ (d k : Nat), mkAt us k ≤ mkAt us (k + d)
  | 0, k => Nat.le_refl _
  | d + 1, k => Nat.le_trans (mkAt_mono us d k) (by show _ ≤ mkAt us (k + d) + _; omega)
theorem mkAt_le (us : List (List Int × Int)) {j k : Nat} (h : j ≤ k) : mkAt us j ≤ mkAt us k := by
  have := mkAt_mono us (k - j) j
  rwa [show j + (k - j) = k by omega] at this
theorem mkAt_one (us : List (List Int × Int)) {j n : Nat} (h : j < n) : (us.getD j ([], 0)).1.length ≤ mkAt us n := by
  have h1 := mkAt_le us (show j + 1 ≤ n by omega)
  have h2 : mkAt us (j + 1) = mkAt us j + ((us.getD j ([], 0)).1.length + 1) := rfl
  omega
theorem mkAt_len (us : List (List Int × Int)) : ∀ n, n ≤ mkAt us n
  | 0 => Nat.le_refl _
  | n + 1 => by have := mkAt_len us n; show _ ≤ mkAt us n + _; omega

theorem szStep_any (a : Option Addr) (n c : Nat) (m left : Int) (w : World) (hn : n ≤ 9223372036854775807) (h0 : 0 ≤ left) (h1 : left ≤ 1048576) :
    Calls Tryz.prog 85 #[.agg #[.slice a n c, .int .i64 m], .int .i64 left] w fun e w' => e = .returned (.int .i64 (szLeft n left)) ∧ Ext w w' := by
  have HQ := hidP (fun w' => szIntS_any a n c left w' hn h0 h1)
  by_cases hle : (n : Int) ≤ left
  · have HE : Hid (szLeft n left = left - n) := if_pos hle
    rw [HE.out] at HQ ⊢
    go_enter Tryz.func85, Tryz.ntmps85
    go_wp2_with (go_at_call 54; refine (HQ.out _).mono ?_; rintro e w' ⟨rfl, rfl⟩)
    go_ret
    exact ⟨rfl, Ext.alloc _ _⟩
  · have HE : Hid (szLeft n left = -1) := if_neg hle
    rw [HE.out] at HQ ⊢
    go_enter Tryz.func85, Tryz.ntmps85
    go_wp2_with (go_at_call 54; refine (HQ.out _).mono ?_; rintro e w' ⟨rfl, rfl⟩)
    go_ret
    exact ⟨rfl, Ext.alloc _ _⟩
set_option maxHeartbeats 1000000 in
theorem szStepS_any (a : Option Addr) (n c : Nat) (us : List (List Int × Int)) (left : Int) (w : World) (h : TermsAt w a n us) (hn : n ≤ 9223372036854775807) (h0 : 0 ≤ left) (h1 : left ≤ 1048576) :
    Calls Tryz.prog 34 #[.slice a n c, .int .i64 left] w (SzRes us n left w) := by
  have G := hidP h
  clear h
  by_cases hle : (n : Int) ≤ left
  · have hx : ¬ (left - (n : Int) < 0) := by omega
    go_enter Tryz.func34, Tryz.ntmps34
    go_wp2
    go_loopw [1, 5] (fun v i wr => ∃ (k : Nat) (l : Int), k ≤ n ∧ 0 ≤ l ∧ l ≤ left ∧ Hid (l = left - n + k - mkAt us k) ∧ i = .int .i64 k ∧ v = .int .i64 l ∧ Hid (Ext w wr)) (fun _ i _ => n - (intOf i).toNat)
    case atStart => exact ⟨0, left - n, Nat.zero_le _, by omega, by omega, by show _ = _; simp [mkAt], rfl, rfl, Ext.refl _⟩
    case round =>
      obtain ⟨k, l, hk, hl0, hl1, HJ, rfl, rfl, HX⟩ := hrel
      by_cases hlt : k < n
      · obtain ⟨b, o, aw, cw, rfl, q, q', _, hm⟩ := (G.out.below HX.out).get k hlt
        have HG := hidP (fun w' => szStep_any aw (us.getD k ([], 0)).1.length cw (us.getD k ([], 0)).2 l w' hm hl0 (by omega))
        have HS : Hid (mkAt us (k + 1) = mkAt us k + ((us.getD k ([], 0)).1.length + 1)) := rfl
        by_cases hll : ((us.getD k ([], 0)).1.length : Int) ≤ l
        · have HE : Hid (szLeft (us.getD k ([], 0)).1.length l = l - (us.getD k ([], 0)).1.length) := if_pos hll
          rw [HE.out] at HG
          generalize us.getD k ([], 0) = U at *
          have hng : ¬ (l - (U.1.length : Int) < 0) := by omega
          go_wp2_with fail
          refine (HG.out _).mono ?_
          rintro e w1 ⟨rfl, hx1⟩
          have HX1 := hidP hx1
          clear hx1 q q'
          go_wp2
          go_roundw
          case rel => exact ⟨k + 1, l - U.1.length, by omega, by omega, by omega, by show _ = _; rw [HS.out]; have := HJ.out; omega, by go_num, rfl, HX.out.trans HX1.out⟩
          case measure => simp [intOf]; omega
        · have HE : Hid (szLeft (us.getD k ([], 0)).1.length l = -1) := if_neg hll
          rw [HE.out] at HG
          generalize us.getD k ([], 0) = U at *
          go_wp2_with fail
          refine (HG.out _).mono ?_
          rintro e w1 ⟨rfl, hx1⟩
          have HX1 := hidP hx1
          clear hx1 q q'
          go_wp2
          go_ret
          exact ⟨-1, .inl rfl, rfl, HX.out.trans HX1.out⟩
      · obtain rfl : k = n := by omega
        go_wp2
        go_ret
        exact ⟨l, .inr ⟨hl0, by have := HJ.out; omega⟩, rfl, HX.out⟩
  · have hx : left - (n : Int) < 0 := by omega
    go_enter Tryz.func34, Tryz.ntmps34
    go_wp2
    go_ret
    exact ⟨-1, .inl rfl, rfl, Ext.refl _⟩
set_option maxHeartbeats 1000000 in
theorem eqStep_any (m1 m2 : Int) (a1 a2 : Option Addr) (n1 n2 c1 c2 : Nat) (xs ys : List Int) (w : World) (h1 : IntsAt w a1 n1 xs) (h2 : IntsAt w a2 n2 ys) (hm1 : n1 ≤ 9223372036854775807) (hm2 : n2 ≤ 9223372036854775807) :
    Calls Tryz.prog 94 #[.agg #[.slice a1 n1 c1, .int .i64 m1], .agg #[.slice a2 n2 c2, .int .i64 m2]] w fun e w' => e = .returned (.bool ((xs == ys) && (m1 == m2))) ∧ Ext w w' := by
  have HQ := hidP (fun w' (hx : Ext w w') => eqIntS_any a1 a2 n1 n2 c1 c2 xs ys w' (h1.below hx) (h2.below hx) hm1 hm2)
  have hx0 := (Ext.alloc w (.cells #[.slice a1 n1 c1, .int .i64 m1] 104)).trans (Ext.alloc _ (.cells #[.slice a2 n2 c2, .int .i64 m2] 104))
  have HX0 := hidP hx0
  clear h1 h2 hx0
  cases hb : (xs == ys)
  · rw [hb] at HQ
    go_enter Tryz.func94, Tryz.ntmps94
    go_wp2_with (go_at_call 20; refine (HQ.out _ HX0.out).mono ?_; rintro e w' ⟨rfl, m, rfl⟩)
    go_ret
    exact ⟨rfl, HX0.out.trans (Ext.drewN _ _)⟩
  · rw [hb] at HQ
    have hz : w.heap.size + 1 < ((w.alloc (.cells #[.slice a1 n1 c1, .int .i64 m1] 104)).alloc (.cells #[.slice a2 n2 c2, .int .i64 m2] 104)).heap.size := by simp
    by_cases hmm : m1 = m2
    · have hb2 : (m1 != m2) = false := by simp [hmm]
      have HR : Hid ((true && (m1 == m2)) = true) := by show _ = _; simp [hmm]
      clear hmm
      go_enter Tryz.func94, Tryz.ntmps94
      go_wp2_with (go_at_call 20; refine (HQ.out _ HX0.out).mono ?_; rintro e w' ⟨rfl, m, rfl⟩)
      go_ret
      exact ⟨ret_bool HR.out.symm, HX0.out.trans (Ext.drewN _ _)⟩
    · have hb2 : (m1 != m2) = true := by simp [hmm]
      have HR : Hid ((true && (m1 == m2)) = false) := by show _ = _; simp [hmm]
      clear hmm
      go_enter Tryz.func94, Tryz.ntmps94
      go_wp2_with (go_at_call 20; refine (HQ.out _ HX0.out).mono ?_; rintro e w' ⟨rfl, m, rfl⟩)
      go_ret
      exact ⟨ret_bool HR.out.symm, HX0.out.trans (Ext.drewN _ _)⟩
set_option maxHeartbeats 1000000 in
theorem eqStepS_any (a1 a2 : Option Addr) (n1 n2 c1 c2 : Nat) (us vs : List (List Int × Int)) (w : World) (h1 : TermsAt w a1 n1 us) (h2 : TermsAt w a2 n2 vs) (hn1 : n1 ≤ 9223372036854775807) (hn2 : n2 ≤ 9223372036854775807) :
    Calls Tryz.prog 39 #[.slice a1 n1 c1, .slice a2 n2 c2] w fun e w' => e = .returned (.bool (us == vs)) ∧ Ext w w' := by
  have L1 := hidP h1.len
  have L2 := hidP h2.len
  have G1 := hidP h1
  have G2 := hidP h2
  clear h1 h2
  by_cases hne : n1 = n2
  · subst hne
    have hb : (((n1 : Nat) : Int) != (n1 : Nat)) = false := by simp
    go_enter Tryz.func39, Tryz.ntmps39
    go_wp2
    go_loopw [5] (fun i wr => ∃ k : Nat, k ≤ n1 ∧ Hid (∀ j, j < k → us.getD j ([], 0) = vs.getD j ([], 0)) ∧ i = .int .i64 k ∧ Hid (Ext w wr)) (fun i _ => n1 - (intOf i).toNat)
    case atStart => exact ⟨0, Nat.zero_le _, fun j h => by omega, rfl, Ext.refl _⟩
    case round =>
      obtain ⟨k, hk, HJ, rfl, HX⟩ := hrel
      by_cases hlt : k < n1
      · obtain ⟨b, o, aw, cw, rfl, _⟩ := G1.out.get k hlt
        obtain ⟨b', o', aw', cw', rfl, _⟩ := G2.out.get k hlt
        obtain ⟨aw, cw, hm, hq⟩ := G1.out.keeps k hlt
        obtain ⟨aw1, cw1, hm1, hq1⟩ := G2.out.keeps k hlt
        have HQ := hidP hq
        have HQ1 := hidP hq1
        have HE := hidP (fun w' (hx : Ext w w') => eqStep_any (us.getD k ([], 0)).2 (vs.getD k ([], 0)).2 aw aw1 _ _ cw cw1 _ _ w' (HQ.out w' hx).2.2 (HQ1.out w' hx).2.2 hm hm1)
        have HEQ : Hid (((us.getD k ([], 0)).1 == (vs.getD k ([], 0)).1 && (us.getD k ([], 0)).2 == (vs.getD k ([], 0)).2) = true → us.getD k ([], 0) = vs.getD k ([], 0)) := by
          intro h
          simp only [Bool.and_eq_true, beq_iff_eq] at h
          exact Prod.ext h.1 h.2
        have HNE : Hid (((us.getD k ([], 0)).1 == (vs.getD k ([], 0)).1 && (us.getD k ([], 0)).2 == (vs.getD k ([], 0)).2) = false → (us == vs) = false) := by
          intro h
          rw [beq_eq_false_iff_ne]
          rintro rfl
          simp at h
        have HS := hidP (fun (hs : us.getD k ([], 0) = vs.getD k ([], 0)) => (by
          intro j hj
          rcases Nat.lt_succ_iff_lt_or_eq.1 hj with h3 | rfl
          · exact HJ.out j h3
          · exact hs : ∀ j, j < k + 1 → us.getD j ([], 0) = vs.getD j ([], 0)))
        clear hq hq1
        generalize us.getD k ([], 0) = U at *
        generalize vs.getD k ([], 0) = V at *
        generalize (U.1 == V.1 && U.2 == V.2) = B at *
        have hE : Ext wr wr.drew := Ext.drew wr
        cases B
        all_goals
          go_wp2
          (refine walkR_start (fun w' => Ext wr w') 10 (by kernel_rfl) ?_; simp only [numbered, List.take_succ_cons, List.take_zero, Nat.zero_add, Nat.reduceAdd, List.length_cons, List.length_nil])
          (repeat (first | (refine walkR_still (v := ?_) rfl (by decide +kernel) rfl (fun _ _ _ h => h) hE ?_ ?_; rotate_left; (focus (intro w' hw'; obtain ⟨q, q', _⟩ := HQ.out w' (HX.out.trans hw'); obtain ⟨p, p', _⟩ := HQ1.out w' (HX.out.trans hw'); go_simp; all_goals (with_reducible rfl))); simp only [Act.put, List.setIfInBounds_toArray, List.set_cons_zero, List.set_cons_succ]) | (refine walkR_skip rfl (by decide +kernel) rfl (fun _ _ _ h => h) hE ?_; simp only [Act.put, List.setIfInBounds_toArray, List.set_cons_zero, List.set_cons_succ])))
          (refine walkR_only (fun w' => Ext wr w') rfl (by decide +kernel) rfl (fun _ h => h) ?_; intro K hK; go_simp; refine (HE.out _ (HX.out.trans hE)).mono ?_; rintro e w1 ⟨rfl, hx1⟩; refine hK _ _ (hE.trans hx1) ?_; clear hK K; (try simp only [Act.put, List.setIfInBounds_toArray, List.set_cons_zero, List.set_cons_succ]))
          have hE1 := hE.trans hx1
          clear hx1
          (repeat (first | (refine walkR_still (v := ?_) rfl (by decide +kernel) rfl (fun _ _ _ h => h) hE1 ?_ ?_; rotate_left; (focus (intro w' hw'; skip; go_simp; all_goals (with_reducible rfl))); simp only [Act.put, List.setIfInBounds_toArray, List.set_cons_zero, List.set_cons_succ]) | (refine walkR_skip rfl (by decide +kernel) rfl (fun _ _ _ h => h) hE1 ?_; simp only [Act.put, List.setIfInBounds_toArray, List.set_cons_zero, List.set_cons_succ])))
          (refine walkR_tail (by rfl) (by kernel_rfl) ?_; simp only [List.drop_succ_cons, List.drop_zero])
          go_wp2
        · go_ret
          exact ⟨ret_bool (HNE.out (by trivial)).symm, HX.out.trans hE1⟩
        · have hs := hidP (HS.out (HEQ.out (by trivial)))
          go_roundw
          case rel => exact ⟨k + 1, by omega, hs, by go_num, HX.out.trans hE1⟩
          case measure => simp [intOf]; omega
      · have HB : Hid ((us == vs) = true) := by
          show _ = _
          rw [beq_iff_eq]
          apply List.ext_getElem (L1.out.trans L2.out.symm)
          intro j p1 p2
          have := HJ.out j (by have := L1.out; omega)
          simpa [List.getD_eq_getElem?_getD, List.getElem?_eq_getElem p1, List.getElem?_eq_getElem p2] using this
        go_wp2
        go_ret
        exact ⟨ret_bool HB.out.symm, HX.out⟩
  · have HB : Hid ((us == vs) = false) := by
      show _ = _
      rw [beq_eq_false_iff_ne]
      exact fun e => hne (by rw [← L1.out, ← L2.out, e])
    have hb : (((n1 : Nat) : Int) != (n2 : Nat)) = true := bne_iff_ne.2 (by omega)
    clear hne
    go_enter Tryz.func39, Tryz.ntmps39
    go_wp2
    go_ret
    exact ⟨ret_bool HB.out.symm, Ext.refl _⟩
end Go.Proofs.YtnfbfdamlnjblaaGreatDoor

namespace Go.Proofs.YtnfbfdamlnjblaaGreatDoor
open Go.RowKit

/-- the cells of a new slice of structs -/
def zeroT (n : Nat) : Array Value := madeCells #[.slice none 0 0, .int .i64 0] (n * 2)
theorem zeroT_size (n : Nat) : (zeroT n).size = n * 2 := by simp [zeroT, madeCells]
theorem make_terms (n : Nat) (h1 : n ≤ 1000000000) (w : World) :
    (Instr.makeSlice 53 (.int .i64 (n : Int)) (.int .i64 (n : Int))).run Tryz.prog w = .ok (.slice (some ⟨w.heap.size, 0, none⟩) n n) (w.alloc (.cells (zeroT n) 104)) := by
  obtain ⟨i, hi, hz0, hz1, hz2⟩ := info_parts Tryz.info104
  have := run_make (P := Tryz.prog) w 53 104 i _ Tryz.underlying53 hi hz0 .i64 .i64 n n (by omega) (Int.le_refl _) (by rw [hz2]; omega) (by omega)
  rw [this, hz1]
  rfl

set_option maxHeartbeats 1000000 in
theorem toStep_any (m : Int) (a : Option Addr) (n c : Nat) (xs : List Int) (w : World) (h : IntsAt w a n xs) (hn : n ≤ 1048576) :
    Calls Tryz.prog 88 #[.agg #[.slice a n c, .int .i64 m]] w fun e w' => ∃ a', e = .returned (.agg #[.slice a' n n, .int .i64 m]) ∧ OwnI w' w.heap.size a' n n xs ∧ Ext w w' := by
  have HQ := hidP (fun w' (hx : Ext w w') => toIntS_any a n c xs w' (h.below hx) hn)
  clear h
  go_enter Tryz.func88, Tryz.ntmps88
  go_wp2_with fail
  have hx0 : Ext w (((w.alloc (.cells #[.slice a n c, .int .i64 m] 102)).alloc (.cells #[.slice none 0 0, .int .i64 0] 104)).alloc (.cells #[.slice none 0 0, .int .i64 0] 104)) :=
    ((Ext.alloc w _).trans (Ext.alloc _ _)).trans (Ext.alloc _ _)
  have hq := HQ.out _ hx0
  have hg := fun w1 hx j => new_cell (w' := w1) (w := w) (cs := #[.slice a n c, .int .i64 m]) (E := 102) (b := w.heap.size) rfl (((Ext.alloc _ (.cells #[.slice none 0 0, .int .i64 0] 104)).trans (Ext.alloc _ (.cells #[.slice none 0 0, .int .i64 0] 104))).trans hx) j
  have hg1 := fun w1 hx j => new_cell (w' := w1) (w := w.alloc (.cells #[.slice a n c, .int .i64 m] 102)) (cs := #[.slice none 0 0, .int .i64 0]) (E := 104) (b := w.heap.size + 1) (by simp) ((Ext.alloc _ (.cells #[.slice none 0 0, .int .i64 0] 104)).trans hx) j
  have hg2 := fun w1 hx j => new_cell (w' := w1) (w := (w.alloc (.cells #[.slice a n c, .int .i64 m] 102)).alloc (.cells #[.slice none 0 0, .int .i64 0] 104)) (cs := #[.slice none 0 0, .int .i64 0]) (E := 104) (b := w.heap.size + 1 + 1) (by simp) hx j
  have hs0 : w.heap.size + 2 < (((w.alloc (.cells #[.slice a n c, .int .i64 m] 102)).alloc (.cells #[.slice none 0 0, .int .i64 0] 104)).alloc (.cells #[.slice none 0 0, .int .i64 0] 104)).heap.size := by simp
  obtain ⟨W, hW⟩ : ∃ W, W = (((w.alloc (.cells #[.slice a n c, .int .i64 m] 102)).alloc (.cells #[.slice none 0 0, .int .i64 0] 104)).alloc (.cells #[.slice none 0 0, .int .i64 0] 104)) := ⟨_, rfl⟩
  rw [← hW] at hx0 hs0 hq hg hg1 hg2 ⊢
  clear hW HQ
  have HQ := hidP hq
  have HX := hidP hx0
  clear hq hx0
  refine HQ.out.mono ?_
  rintro e w1 ⟨a', rfl, ho, hx⟩
  have HO := hidP ho
  have p1 := (hg w1 hx 1).1.trans (show _ = some (Value.int .i64 m) from rfl)
  obtain ⟨q0, z0⟩ := hg2 w1 hx 0
  obtain ⟨q1, z1⟩ := hg2 w1 hx 1
  obtain ⟨r0, y0⟩ := hg1 w1 hx 0
  obtain ⟨r1, y1⟩ := hg1 w1 hx 1
  have q0 := q0.trans (show _ = some (Value.slice none 0 0) from rfl)
  have q1 := q1.trans (show _ = some (Value.int .i64 0) from rfl)
  have r0 := r0.trans (show _ = some (Value.slice none 0 0) from rfl)
  have r1 := r1.trans (show _ = some (Value.int .i64 0) from rfl)
  have HX1 := hidP (HX.out.trans hx)
  have hsz : w.heap.size + 2 < W.heap.size := hs0
  clear ho hx hs0 hg hg1 hg2
  go_wp2
  refine bodyPost_ret (v := .agg #[.slice a' n n, .int .i64 m]) (by simp [results, Tryz.results88, go_sem, r0, r1]) rfl ⟨_, rfl, ?_, ?_⟩
  · refine OwnI.base (B := W.heap.size) ?_ (by omega)
    refine OwnI.setBelow (OwnI.setBelow (OwnI.setBelow (OwnI.setBelow HO.out _ _ ?_ _) _ _ ?_ _) _ _ ?_ _) _ _ ?_ _ <;> omega
  · refine Ext.setNew (Ext.setNew (Ext.setNew (Ext.setNew HX1.out _ _ ?_ _) _ _ ?_ _) _ _ ?_ _) _ _ ?_ _ <;> omega

theorem all_zeros (n : Nat) : stepK.all (List.replicate n (none, 0)) (List.replicate n ([], 0)) = (zeroT n).toList := by
  have hl : (List.replicate n ((none, 0) : Hdr)).length = (List.replicate n (([], 0) : Stp)).length := by simp
  apply List.ext_getElem?
  intro q
  by_cases hq : q < n * 2
  · obtain ⟨i, j, rfl, hi, hj⟩ : ∃ i j, q = i * stepK.size + j ∧ i < n ∧ j < stepK.size := ⟨q / 2, q % 2, by show q = q / 2 * 2 + q % 2; omega, by omega, by show q % 2 < 2; omega⟩
    rw [stepK.all_get _ _ hl i j (by simpa using hi) hj]
    have e1 : (List.replicate n ((none, 0) : Hdr)).getD i (none, 0) = (none, 0) := by simp [List.getD_eq_getElem?_getD, hi]
    have e2 : (List.replicate n (([], 0) : Stp)).getD i stepK.dft = ([], 0) := by simp [List.getD_eq_getElem?_getD, hi]
    rw [e1, e2]
    have hz : (zeroT n)[i * 2 + j]? = some ((#[Value.slice none 0 0, Value.int .i64 0])[(i * 2 + j) % 2]!) := by
      simp only [zeroT, madeCells, List.size_toArray, List.length_cons, List.length_nil]
      rw [Array.getElem?_map, Array.getElem?_range]
      have : j < 2 := hj
      simp [show i * 2 + j < n * 2 by omega]
    rw [Array.getElem?_toList (xs := zeroT n), show i * stepK.size + j = i * 2 + j from rfl, hz]
    have hj2 : j < 2 := hj
    rcases (by omega : j = 0 ∨ j = 1) with rfl | rfl
    · rw [show (i * 2 + 0) % 2 = 0 by omega]; rfl
    · rw [show (i * 2 + 1) % 2 = 1 by omega]; rfl
  · rw [List.getElem?_eq_none (by rw [stepK.all_length _ _ hl, List.length_replicate]; show n * 2 ≤ q; omega), List.getElem?_eq_none (by rw [Array.length_toList, zeroT_size]; omega)]
theorem OwnK.zeros (w : World) (n : Nat) (hm : n ≤ maxLen) : OwnK stepK (w.alloc (.cells (zeroT n) 104)) w.heap.size (w.alloc (.cells (zeroT n) 104)).heap.size (some ⟨w.heap.size, 0, none⟩) n n (List.replicate n (none, 0)) (List.replicate n ([], 0)) := by
  have g1 : ∀ i, i < n → (List.replicate n ((none, 0) : Hdr)).getD i (none, 0) = (none, 0) := fun i hi => by simp [List.getD_eq_getElem?_getD, hi]
  refine ⟨?_, by simp, by simp, fun i hi => ?_, fun i j hi hj _ => ?_, fun i hi b o e => ?_, fun b o e => ?_⟩
  · have := World.ownsRow_lit (e := 104) (size := 2) (base := w.heap.size) w (zeroT n) n (Nat.le_refl _) hm (zeroT_size n)
    rw [all_zeros]
    exact this
  · have e2 : (List.replicate n (([], 0) : Stp)).getD i stepK.dft = ([], 0) := by simp [List.getD_eq_getElem?_getD, hi]
    rw [g1 i hi, e2]
    exact OwnI.nil _ _
  · rw [g1 i hi]
    intro b o b' o' e
    cases e
  · rw [g1 i hi] at e
    cases e
  · simp only [Option.some.injEq, Addr.mk.injEq, and_true] at e
    simp [← e.1]
theorem set_set_same {β : Type} (l : List β) (i : Nat) (x y : β) : (l.set i x).set i y = l.set i y := by simp
theorem OwnI.setOff {w : World} {B n c : Nat} {a : Option Addr} {xs : List Int} (h : OwnI w B a n c xs) (b i : Nat) (v : Value) (hne : ∀ g o, a = some ⟨g, o, none⟩ → g ≠ b) : OwnI (w.setCell ⟨b, i, none⟩ v) B a n c xs :=
  h.grown (row := some b) ⟨rfl, rfl, rfl, by simp [World.setCell], fun k _ hk => Below.heap_setCell _ _ _ _ (fun e => hk (by rw [e]))⟩ (fun g' o e => by simpa using hne g' o e)
/-- one element gets another word and another number -/
theorem OwnK.placed {w : World} {B U n c : Nat} {a : Option Addr} {hs : List Hdr} {xs : List Stp} (h : OwnK stepK w B U a n c hs xs) (i : Nat) (hi : i < n) {g : Nat} (e : a = some ⟨g, 0, none⟩) (h1 : Hdr) (x1 : Stp)
    (ho : OwnI w B h1.1 x1.1.length h1.2 x1.1) (hap : ∀ j, j < n → j ≠ i → Apart (hs.getD j (none, 0)).1 h1.1) (hU : ∀ b o, h1.1 = some ⟨b, o, none⟩ → b < U) :
    OwnK stepK ((w.setCell ⟨g, i * 2, none⟩ (.slice h1.1 x1.1.length h1.2)).setCell ⟨g, i * 2 + 1, none⟩ (.int .i64 x1.2)) B U a n c (hs.set i h1) (xs.set i x1) := by
  have hlx := h.hl.trans h.xl.symm
  have hxl := h.xl
  have hhl := h.hl
  subst e
  have hr1 := (h.row.stored (i * stepK.size + 0) (.slice h1.1 x1.1.length h1.2)).1
  rw [stepK.all_set hs xs hlx i 0 (by omega) (by decide) _ h1 (x1.1, (xs.getD i stepK.dft).2) rfl] at hr1
  have hl2 : (hs.set i h1).length = (xs.set i (x1.1, (xs.getD i stepK.dft).2)).length := by simp [hlx]
  have hr2 := (World.ownsRow.stored hr1 (i * stepK.size + 1) (.int .i64 x1.2)).1
  rw [stepK.all_set _ _ hl2 i 1 (by simp; omega) (by decide) _ h1 x1 (by
    rw [OwnK.getD_set _ _ _ _ _ (by omega), OwnK.getD_set _ _ _ _ _ (by omega), if_pos rfl, if_pos rfl]
    rfl), set_set_same, set_set_same] at hr2
  have hfar1 := h.off_ints ho
  have hkeep : ∀ {p : Option Addr} {m q : Nat} {ys : List Int}, OwnI w B p m q ys → Apart (some ⟨g, 0, none⟩) p → OwnI ((w.setCell ⟨g, i * 2, none⟩ (.slice h1.1 x1.1.length h1.2)).setCell ⟨g, i * 2 + 1, none⟩ (.int .i64 x1.2)) B p m q ys := fun hk hne =>
    (hk.setOff g _ _ (fun b o e he => hne g 0 b o rfl e he.symm)).setOff g _ _ (fun b o e he => hne g 0 b o rfl e he.symm)
  refine ⟨hr2, by simp [hhl], by simp [hxl], fun j hj => ?_, fun j k hj hk hne => ?_, fun j hj b o e => ?_, h.olt⟩
  · rw [OwnK.getD_set _ _ _ _ _ (by omega), OwnK.getD_set _ _ _ _ _ (by omega)]
    by_cases hji : i = j
    · rw [if_pos hji, if_pos hji]
      exact hkeep ho hfar1
    · rw [if_neg hji, if_neg hji]
      exact hkeep (h.each j hj) (h.far j hj)
  · rw [OwnK.getD_set _ _ _ _ _ (by omega), OwnK.getD_set _ _ _ _ _ (by omega)]
    by_cases hji : i = j
    · rw [if_pos hji, if_neg (by omega)]
      exact (hap k hk (by omega)).symm
    · rw [if_neg hji]
      by_cases hki : i = k
      · rw [if_pos hki]
        exact hap j hj (by omega)
      · rw [if_neg hki]
        exact h.apart j k hj hk hne
  · rw [OwnK.getD_set _ _ _ _ _ (by omega)] at e
    split at e
    · exact hU b o e
    · exact h.lt j hj b o e

set_option maxHeartbeats 1000000 in
theorem toStepS_any (a : Option Addr) (n c : Nat) (us : List Stp) (w : World) (h : TermsAt w a n us) (hn : n ≤ 1048576) (hm : ∀ i, i < n → ((us.getD i ([], 0)).1.length : Int) ≤ 1048576) :
    Calls Tryz.prog 37 #[.slice a n c] w fun e w' => ∃ g hs, e = .returned (.slice (some ⟨g, 0, none⟩) n n) ∧ OwnK stepK w' w.heap.size w'.heap.size (some ⟨g, 0, none⟩) n n hs us ∧ Ext w w' := by
  have hx0 := Ext.alloc w (.cells (zeroT n) 104)
  have G := hidP h
  have HM := hidP hm
  have L := hidP h.len
  have hmk := make_terms n (by omega)
  have HS := hidP (OwnK.zeros w n (by unfold maxLen; omega))
  have hb0 : w.heap.size < (w.alloc (.cells (zeroT n) 104)).heap.size := by simp
  clear h hm
  go_enter Tryz.func37, Tryz.ntmps37
  go_wp2
  obtain ⟨w0, hw0⟩ : ∃ w0, w0 = w.alloc (.cells (zeroT n) 104) := ⟨_, rfl⟩
  rw [← hw0] at HS hx0 hb0 ⊢
  clear hw0 hmk
  have HX0 := hidP hx0
  clear hx0
  go_loopw [4] (fun i wr => ∃ (k : Nat) (hs : List Hdr) (xs : List Stp), k ≤ n ∧ i = .int .i64 k ∧ Hid (OwnK stepK wr w.heap.size wr.heap.size (some ⟨w.heap.size, 0, none⟩) n n hs xs) ∧ Hid (∀ j, j < k → xs.getD j ([], 0) = us.getD j ([], 0)) ∧ Hid (Ext w wr)) (fun i _ => n - (intOf i).toNat)
  case atStart => exact ⟨0, _, _, Nat.zero_le _, rfl, HS, fun j hj => absurd hj (Nat.not_lt_zero _), HX0⟩
  case round =>
    obtain ⟨k, hs, xs, hk, rfl, HO, HJ, HX⟩ := hrel
    by_cases hlt : k < n
    · obtain ⟨b, o, aw, cw, rfl, q, q', hI, _⟩ := (G.out.below HX.out).get k hlt
      have HG := hidP (toStep_any (us.getD k ([], 0)).2 aw (us.getD k ([], 0)).1.length cw (us.getD k ([], 0)).1 wr hI (by have := HM.out k hlt; omega))
      clear hI
      go_wp2_with fail
      refine HG.out.mono ?_
      rintro e w1 ⟨a1, rfl, ho, hx⟩
      have hapN := HO.out.new_apart ho (Nat.le_refl _)
      have hO1 := (HO.out.below hx).weaken (Nat.le_refl _) hx.size
      have HT1 := hidP (hO1.placed k hlt rfl (a1, (us.getD k ([], 0)).1.length) (us.getD k ([], 0)) (ho.base HX.out.size) (fun j hj _ => hapN.1 j hj) (fun b o e => (ho.at_base b o e).2))
      obtain ⟨g', aw', cw', e', _, z0, z1, y0, y1, _⟩ := hO1.stepCell k hlt
      simp only [Option.some.injEq, Addr.mk.injEq, and_true] at e'
      subst e'
      have HX1 : Hid (Ext w ((w1.setCell ⟨w.heap.size, k * 2, none⟩ (.slice a1 (us.getD k ([], 0)).1.length (us.getD k ([], 0)).1.length)).setCell ⟨w.heap.size, k * 2 + 1, none⟩ (.int .i64 (us.getD k ([], 0)).2))) :=
        Ext.setNew (Ext.setNew (HX.out.trans hx) _ _ (Nat.le_refl _) _) _ _ (Nat.le_refl _) _
      have HJ1 : Hid (∀ j, j < k + 1 → (xs.set k (us.getD k ([], 0))).getD j ([], 0) = us.getD j ([], 0)) := by
        show ∀ j, _
        intro j hj
        rw [OwnK.getD_set _ _ _ _ _ (by rw [HO.out.xl]; exact hlt)]
        split
        · rename_i e; rw [e]
        · exact HJ.out j (by omega)
      clear q q' ho hx hO1 hapN
      clear HG
      generalize us.getD k ([], 0) = U at *
      go_wp2
      go_roundw
      case rel => exact ⟨k + 1, _, _, by omega, by go_num, OwnK.weaken HT1.out (Nat.le_refl _) (by simp [World.setCell]), HJ1, HX1⟩
      case measure => simp [intOf]; omega
    · obtain rfl : k = n := by omega
      have HE : Hid (xs = us) := by
        show _ = _
        apply List.ext_getElem (HO.out.xl.trans L.out.symm)
        intro j p1 p2
        have := HJ.out j (by have := L.out; omega)
        simpa [List.getD_eq_getElem?_getD, List.getElem?_eq_getElem p1, List.getElem?_eq_getElem p2] using this
      go_wp2
      go_ret
      exact ⟨_, _, rfl, by rw [← HE.out]; exact HO.out, HX.out⟩
end Go.Proofs.YtnfbfdamlnjblaaGreatDoor

namespace Go.Proofs.YtnfbfdamlnjblaaGreatDoor
open Go.RowKit

/-- w' is w but for new blocks and for blocks from B on below U -/
structure UpdB (w w' : World) (B U : Nat) : Prop where
  os : w'.os = w.os
  tape : w'.tape = w.tape
  output : w'.output = w.output
  size : w.heap.size ≤ w'.heap.size
  other : ∀ k, k < w.heap.size → (k < B ∨ U ≤ k) → w'.heap[k]? = w.heap[k]?
theorem UpdB.refl (w : World) (B U : Nat) : UpdB w w B U := ⟨rfl, rfl, rfl, Nat.le_refl _, fun _ _ _ => rfl⟩
theorem UpdB.trans {w w' w'' : World} {B U : Nat} (h : UpdB w w' B U) (k : UpdB w' w'' B U) : UpdB w w'' B U :=
  ⟨k.os.trans h.os, k.tape.trans h.tape, k.output.trans h.output, Nat.le_trans h.size k.size, fun j hj hb => (k.other j (Nat.lt_of_lt_of_le hj h.size) hb).trans (h.other j hj hb)⟩
theorem UpdB.wide {w w' : World} {B U B' U' : Nat} (h : UpdB w w' B U) (hB : B' ≤ B) (hU : U ≤ U') : UpdB w w' B' U' :=
  ⟨h.os, h.tape, h.output, h.size, fun j hj hb => h.other j hj (by omega)⟩
theorem Ext.updB {w w' : World} (h : Ext w w') (B U : Nat) : UpdB w w' B U := ⟨h.os, h.tape, h.output, h.size, fun j hj _ => h.block j hj⟩
theorem UpdI.updB {w w' : World} {a : Option Addr} {n B U : Nat} {ys : List Int} (h : UpdI w w' a n ys) (ha : ∀ b o, a = some ⟨b, o, none⟩ → B ≤ b ∧ b < U) : UpdB w w' B U :=
  ⟨h.os, h.tape, h.output, h.size, fun j hj hb => h.other j hj fun b o e _ => by have := ha b o e; omega⟩
theorem UpdB.setCell {w w' : World} {B U : Nat} (h : UpdB w w' B U) (b i : Nat) (v : Value) (hb : B ≤ b ∧ b < U) : UpdB w (w'.setCell ⟨b, i, none⟩ v) B U :=
  ⟨h.os, h.tape, h.output, by simpa [World.setCell] using h.size, fun j hj hb' => by
    rw [Below.heap_setCell _ _ _ _ (show j ≠ b by omega)]
    exact h.other j hj hb'⟩
theorem UpdB.below {w0 w w' : World} {N B U : Nat} (h : UpdB w w' B U) (hb : Below N w0 w) (hN : N ≤ w.heap.size) (hB : N ≤ B) : Below N w0 w' :=
  hb.trans ⟨h.os, h.tape, h.output, h.size, fun k hk => h.other k (by omega) (.inl (by omega))⟩
theorem OwnI.updB {w w' : World} {B' B U n c : Nat} {a : Option Addr} {xs : List Int} (h : OwnI w B' a n c xs) (hu : UpdB w w' B U) (ha : ∀ b o, a = some ⟨b, o, none⟩ → b < B ∨ U ≤ b) : OwnI w' B' a n c xs := by
  refine ⟨h.row.1, ?_⟩
  rcases h.row.2 with h2 | ⟨g, cap, cur, he, hB, hg, r⟩
  · exact .inl h2
  · refine .inr ⟨g, cap, cur, he, hB, ?_, r⟩
    simp only [Value.slice.injEq] at he
    rw [hu.other g (Array.getElem?_eq_some_iff.1 hg).1 (ha g 0 he.1)]
    exact hg
theorem OwnK.updB {α : Type} {K : Knd α} {w w' : World} {B' U' B U n c : Nat} {a : Option Addr} {hs : List Hdr} {xs : List α} (h : OwnK K w B' U' a n c hs xs) (hu : UpdB w w' B U) (ho : ∀ b o, a = some ⟨b, o, none⟩ → b < B ∨ U ≤ b)
    (hi : ∀ i, i < n → ∀ b o, (hs.getD i (none, 0)).1 = some ⟨b, o, none⟩ → b < B ∨ U ≤ b) : OwnK K w' B' U' a n c hs xs := by
  refine ⟨⟨h.row.1, ?_⟩, h.hl, h.xl, fun i hin => (h.each i hin).updB hu (hi i hin), h.apart, h.lt, h.olt⟩
  rcases h.row.2 with h2 | ⟨g, cap, cur, he, hB, hg, r⟩
  · exact .inl h2
  · refine .inr ⟨g, cap, cur, he, hB, ?_, r⟩
    simp only [Value.slice.injEq] at he
    rw [hu.other g (Array.getElem?_eq_some_iff.1 hg).1 (ho g 0 he.1)]
    exact hg
theorem OwnK.updB_lo {α : Type} {K : Knd α} {w w' : World} {B' U' B U n c : Nat} {a : Option Addr} {hs : List Hdr} {xs : List α} (h : OwnK K w B' U' a n c hs xs) (hu : UpdB w w' B U) (hU : U' ≤ B) : OwnK K w' B' U' a n c hs xs :=
  h.updB hu (fun b o e => .inl (Nat.lt_of_lt_of_le (h.olt b o e) hU)) (fun i hi b o e => .inl (Nat.lt_of_lt_of_le (h.lt i hi b o e) hU))
theorem OwnK.updB_hi {α : Type} {K : Knd α} {w w' : World} {B' U' B U n c : Nat} {a : Option Addr} {hs : List Hdr} {xs : List α} (h : OwnK K w B' U' a n c hs xs) (hu : UpdB w w' B U) (hB : U ≤ B') : OwnK K w' B' U' a n c hs xs :=
  h.updB hu (fun b o e => .inr (Nat.le_trans hB (h.base_lt b o e).1)) (fun i hi b o e => .inr (Nat.le_trans hB ((h.each i hi).at_base b o e).1))

/-- what a place holds once it is marked -/
def MarkedAt (k0 : Int) (us xs : List Stp) (j : Nat) : Prop := xs.getD j ([], 0) = (upFrom (k0 + mkAt us j) (us.getD j ([], 0)).1.length, k0 + mkAt us j + (us.getD j ([], 0)).1.length)

set_option maxHeartbeats 2000000 in
theorem markStepS_any (B U : Nat) (a : Option Addr) (n c : Nat) (hs : List Hdr) (us : List Stp) (k0 : Int) (w : World) (h : OwnK stepK w B U a n c hs us) (hn : mkAt us n ≤ 10000000) (hk0 : 0 ≤ k0) (hk1 : k0 ≤ 10000000000) :
    Calls Tryz.prog 42 #[.slice a n c, .int .i64 k0] w fun e w' => e = .returned (.int .i64 (k0 + mkAt us n)) ∧ ∃ xs, OwnK stepK w' B U a n c hs xs ∧ Hid (∀ j, j < n → MarkedAt k0 us xs j) ∧ UpdB w w' B U := by
  have H0 := hidP h
  clear h
  have hnm : n ≤ 10000000 := Nat.le_trans (mkAt_len us n) hn
  go_enter Tryz.func42, Tryz.ntmps42
  go_wp2
  go_loopw [1, 5] (fun kk i wr => ∃ (k : Nat) (m : Int) (xs : List Stp), k ≤ n ∧ 0 ≤ m ∧ m ≤ 20000000000 ∧ i = .int .i64 k ∧ kk = .int .i64 m ∧ Hid (m = k0 + mkAt us k) ∧ Hid (OwnK stepK wr B U a n c hs xs) ∧ Hid (∀ j, j < k → MarkedAt k0 us xs j) ∧ Hid (∀ j, k ≤ j → j < n → xs.getD j ([], 0) = us.getD j ([], 0)) ∧ Hid (UpdB w wr B U)) (fun _ i _ => n - (intOf i).toNat)
  case atStart => exact ⟨0, k0, us, Nat.zero_le _, hk0, by omega, rfl, rfl, by show _ = _; simp [mkAt], H0, fun j hj => absurd hj (Nat.not_lt_zero _), fun j _ _ => rfl, UpdB.refl _ _ _⟩
  case round =>
    obtain ⟨k, m, xs, hk, hm0, hm1, rfl, rfl, Hm, HO, HJ, HR, HU⟩ := hrel
    by_cases hlt : k < n
    · obtain ⟨g, aw, cw, rfl, hh, c0, c1, f0, f1, hI⟩ := HO.out.stepCell k hlt
      have hxk : xs.getD k ([], 0) = us.getD k ([], 0) := HR.out k (Nat.le_refl _) hlt
      have hwk : wayAt xs k = (us.getD k ([], 0)).1 := by unfold wayAt; rw [hxk]
      rw [hwk] at c0 hI
      have hb1 := mkAt_le us (show k + 1 ≤ n by omega)
      have hs1 : mkAt us (k + 1) = mkAt us k + ((us.getD k ([], 0)).1.length + 1) := rfl
      have Hs1 := hidP hs1
      have hme := Hm.out
      obtain ⟨V, hV⟩ : ∃ V, V = us.getD k ([], 0) := ⟨_, rfl⟩
      rw [← hV] at c0 hI hs1 hxk Hs1
      have hVl : V.1.length ≤ 10000000 := by omega
      have hm2 : m + V.1.length ≤ 10010000000 := by omega
      have HG := hidP (markIntS_any aw V.1.length cw m V.1 wr hI.ints hI.unfrozen (by omega) (by omega) (by omega))
      have HB : Hid (∀ b o, aw = some ⟨b, o, none⟩ → B ≤ b ∧ b < U) := fun b o e => ⟨(hI.at_base b o e).1, HO.out.lt k hlt b o (by rw [hh]; exact e)⟩
      have HB2 : Hid (B ≤ g ∧ g < U) := ⟨(HO.out.base_lt g 0 rfl).1, HO.out.olt g 0 rfl⟩
      have HP : Hid (∀ w1, UpdI wr w1 aw V.1.length (upFrom m V.1.length) →
          (∃ v, w1.cell? ⟨g, k * 2 + 1, none⟩ = some v) ∧ w1.frozen? ⟨g, k * 2 + 1, none⟩ = false ∧
          OwnK stepK (w1.setCell ⟨g, k * 2 + 1, none⟩ (.int .i64 (m + V.1.length))) B U (some ⟨g, 0, none⟩) n c hs (xs.set k (upFrom m V.1.length, m + V.1.length)) ∧ ((∃ aw2 cw2, w1.cell? ⟨g, k * 2, none⟩ = some (.slice aw2 V.1.length cw2)))) := by
        show ∀ w1, _
        intro w1 hu
        have e1 : (hs.getD k (none, 0)).1 = aw := by rw [hh]
        have e2 : (stepK.ints (xs.getD k stepK.dft)).length = V.1.length := by
          show (xs.getD k ([], 0)).1.length = _
          rw [hxk]
        have h1 := HO.out.upd (w' := w1) k hlt (ys := upFrom m V.1.length) (by rw [e1, e2]; exact hu)
        obtain ⟨g', aw', cw', e', hh', d0, d1, _, y1, _⟩ := h1.stepCell k hlt
        simp only [Option.some.injEq, Addr.mk.injEq, and_true] at e'
        subst e'
        have hw2 : wayAt (xs.set k (stepK.put (xs.getD k stepK.dft) (upFrom m V.1.length))) k = upFrom m V.1.length := by
          unfold wayAt
          rw [OwnK.getD_set _ _ _ _ _ (by rw [HO.out.xl]; exact hlt), if_pos rfl]
          rfl
        refine ⟨⟨_, d1⟩, y1, ?_, ⟨aw', cw', by rw [d0, hw2, upFrom_length]⟩⟩
        have h2 := h1.stored k 1 hlt (by decide) (.int .i64 (m + V.1.length)) (upFrom m V.1.length, m + V.1.length) (by
          rw [OwnK.getD_set _ _ _ _ _ (by rw [HO.out.xl]; exact hlt), if_pos rfl]; rfl) (by
          rw [OwnK.getD_set _ _ _ _ _ (by rw [HO.out.xl]; exact hlt), if_pos rfl]; rfl) (g := g) rfl
        rw [set_set_same] at h2
        exact h2
      have HM2 : Hid (∀ j, j < k + 1 → MarkedAt k0 us (xs.set k (upFrom m V.1.length, m + V.1.length)) j) := by
        show ∀ j, _
        intro j hj
        unfold MarkedAt
        rw [OwnK.getD_set _ _ _ _ _ (by rw [HO.out.xl]; exact hlt)]
        by_cases e : k = j
        · subst e
          rw [if_pos rfl, ← hV, hme]
        · rw [if_neg e]
          exact HJ.out j (by omega)
      have HR2 : Hid (∀ j, k + 1 ≤ j → j < n → (xs.set k (upFrom m V.1.length, m + V.1.length)).getD j ([], 0) = us.getD j ([], 0)) := by
        show ∀ j, _
        intro j hj hjn
        rw [OwnK.getD_set _ _ _ _ _ (by rw [HO.out.xl]; exact hlt), if_neg (by omega)]
        exact HR.out j (by omega) hjn
      have Hm2 : Hid (m + V.1.length + 1 = k0 + mkAt us (k + 1)) := by
        show _ = _
        rw [hs1, hme]
        omega
      clear hI hxk hwk hV hh hs1 hme hb1 Hs1 Hm HJ HR f0 f1 c1
      go_wp2_with fail
      refine HG.out.mono ?_
      rintro e w1 ⟨rfl, hu⟩
      obtain ⟨⟨v1, d1⟩, y1, ho, _⟩ := HP.out w1 hu
      have HU2 := hidP ((HU.out.trans (hu.updB HB.out)).setCell g (k * 2 + 1) (.int .i64 (m + V.1.length)) HB2.out)
      have HO2 := hidP ho
      clear ho hu HP HG c0
      go_wp2
      go_roundw
      case rel => exact ⟨k + 1, m + V.1.length + 1, _, by omega, by omega, by omega, by go_num, by go_num, Hm2, HO2, HM2, HR2, HU2⟩
      case measure => simp [intOf]; omega
    · obtain rfl : k = n := by omega
      have hme := Hm.out
      go_wp2
      go_ret
      exact ⟨ret_int hme, xs, HO.out, HJ, HU.out⟩
set_option maxHeartbeats 2000000 in
theorem heldStepS_any (a : Option Addr) (n c : Nat) (us xs : List Stp) (k0 : Int) (w : World) (h : TermsAt w a n xs) (hM : ∀ j, j < n → MarkedAt k0 us xs j) (hn : mkAt us n ≤ 10000000) (hk0 : 0 ≤ k0) (hk1 : k0 ≤ 10000000000) :
    Calls Tryz.prog 43 #[.slice a n c, .int .i64 k0] w fun e w' => e = .returned (.int .i64 (k0 + mkAt us n)) ∧ Ext w w' := by
  have G := hidP h
  have HM := hidP hM
  clear h hM
  have hnm : n ≤ 10000000 := Nat.le_trans (mkAt_len us n) hn
  go_enter Tryz.func43, Tryz.ntmps43
  go_wp2
  go_loopw [1, 5] (fun kk i wr => ∃ (k : Nat) (m : Int), k ≤ n ∧ 0 ≤ m ∧ m ≤ 20000000000 ∧ i = .int .i64 k ∧ kk = .int .i64 m ∧ Hid (m = k0 + mkAt us k) ∧ Hid (Ext w wr)) (fun _ i _ => n - (intOf i).toNat)
  case atStart => exact ⟨0, k0, Nat.zero_le _, hk0, by omega, rfl, rfl, by show _ = _; simp [mkAt], Ext.refl _⟩
  case round =>
    obtain ⟨k, m, hk, hm0, hm1, rfl, rfl, Hm, HX⟩ := hrel
    by_cases hlt : k < n
    · obtain ⟨b, o, aw, cw, rfl, _⟩ := G.out.get k hlt
      obtain ⟨aw, cw, _, hq⟩ := G.out.keeps k hlt
      have hxk := HM.out k hlt
      unfold MarkedAt at hxk
      have hb1 := mkAt_le us (show k + 1 ≤ n by omega)
      have hs1 : mkAt us (k + 1) = mkAt us k + ((us.getD k ([], 0)).1.length + 1) := rfl
      have hme := Hm.out
      rw [← hme] at hxk
      obtain ⟨V, hV⟩ : ∃ V, V = us.getD k ([], 0) := ⟨_, rfl⟩
      rw [← hV] at hs1 hxk
      rw [hxk] at hq
      simp only [upFrom_length] at hq
      have hVl : V.1.length ≤ 10000000 := by omega
      have hm2 : m + V.1.length ≤ 10010000000 := by omega
      have hmn : ¬ (m + (V.1.length : Int) < 0) := by omega
      have hne : (m + (V.1.length : Int) != m + (V.1.length : Int)) = false := by simp
      have HQ := hidP (fun w' (hx : Ext wr w') => hq w' (HX.out.trans hx))
      have HG := hidP (fun w' (hx : Ext wr w') => heldIntS_any aw V.1.length cw m w' (HQ.out w' hx).2.2 (by omega) (by omega) (by omega))
      have Hm2 : Hid (m + V.1.length + 1 = k0 + mkAt us (k + 1)) := by
        show _ = _
        rw [hs1, hme]
        omega
      obtain ⟨q0, q1, _⟩ := HQ.out wr (Ext.refl _)
      clear hxk hV hs1 hme hb1 Hm hq q1
      go_wp2_with fail
      refine (HG.out _ (Ext.refl _)).mono ?_
      rintro e w1 ⟨rfl, q, rfl⟩
      obtain ⟨p0, p1, _⟩ := HQ.out (wr.drewN q) (Ext.drewN _ _)
      clear q0 p0
      go_wp2
      go_roundw
      case rel => exact ⟨k + 1, m + V.1.length + 1, by omega, by omega, by omega, by go_num, by go_num, Hm2, HX.out.trans (Ext.drewN _ _)⟩
      case measure => simp [intOf]; omega
    · obtain rfl : k = n := by omega
      have hme := Hm.out
      go_wp2
      go_ret
      exact ⟨ret_int hme, HX.out⟩
end Go.Proofs.YtnfbfdamlnjblaaGreatDoor

namespace Go.Proofs.YtnfbfdamlnjblaaGreatDoor
open Go.RowKit

theorem szCartan_any (p : Int) (a : Option Addr) (n c : Nat) (left : Int) (w : World) (hn : n ≤ 9223372036854775807) (h0 : 0 ≤ left) (h1 : left ≤ 1048576) :
    Calls Tryz.prog 33 #[carV p a n c, .int .i64 left] w fun e w' => e = .returned (.int .i64 (szLeft n left)) ∧ Ext w w' := by
  have HQ := hidP (fun w' => szIntS_any a n c left w' hn h0 h1)
  by_cases hle : (n : Int) ≤ left
  · have HE : Hid (szLeft n left = left - n) := if_pos hle
    rw [HE.out] at HQ ⊢
    go_enter Tryz.func33, Tryz.ntmps33
    go_wp2_with (go_at_call 54; refine (HQ.out _).mono ?_; rintro e w' ⟨rfl, rfl⟩)
    go_ret
    exact ⟨rfl, Ext.alloc _ _⟩
  · have HE : Hid (szLeft n left = -1) := if_neg hle
    rw [HE.out] at HQ ⊢
    go_enter Tryz.func33, Tryz.ntmps33
    go_wp2_with (go_at_call 54; refine (HQ.out _).mono ?_; rintro e w' ⟨rfl, rfl⟩)
    go_ret
    exact ⟨rfl, Ext.alloc _ _⟩
set_option maxHeartbeats 1000000 in
theorem toCartan_any (p : Int) (a : Option Addr) (n c : Nat) (xs : List Int) (w : World) (h : IntsAt w a n xs) (hn : n ≤ 1048576) :
    Calls Tryz.prog 36 #[carV p a n c] w fun e w' => ∃ a', e = .returned (carV p a' n n) ∧ OwnI w' w.heap.size a' n n xs ∧ Ext w w' := by
  have HQ := hidP (fun w' (hx : Ext w w') => toIntS_any a n c xs w' (h.below hx) hn)
  clear h
  go_enter Tryz.func36, Tryz.ntmps36
  go_wp2_with fail
  have hx0 : Ext w (((w.alloc (.cells #[.int .i64 p, .slice a n c] 49)).alloc (.cells #[.int .i64 0, .slice none 0 0] 55)).alloc (.cells #[.int .i64 p, .slice none 0 0] 55)) :=
    ((Ext.alloc w _).trans (Ext.alloc _ _)).trans (Ext.alloc _ _)
  have hc0 := fun w1 hx j => new_cell (w' := w1) (w := ((w.alloc (.cells #[.int .i64 p, .slice a n c] 49)).alloc (.cells #[.int .i64 0, .slice none 0 0] 55))) (cs := #[.int .i64 p, .slice none 0 0]) (E := 55) (b := w.heap.size + 1 + 1) (by simp) hx j
  have hc1 := fun w1 hx j => new_cell (w' := w1) (w := w.alloc (.cells #[.int .i64 p, .slice a n c] 49)) (cs := #[.int .i64 0, .slice none 0 0]) (E := 55) (b := w.heap.size + 1) (by simp) ((Ext.alloc _ (.cells #[.int .i64 p, .slice none 0 0] 55)).trans hx) j
  have hs0 : w.heap.size + 2 < (((w.alloc (.cells #[.int .i64 p, .slice a n c] 49)).alloc (.cells #[.int .i64 0, .slice none 0 0] 55)).alloc (.cells #[.int .i64 p, .slice none 0 0] 55)).heap.size := by simp
  have hq := HQ.out _ hx0
  obtain ⟨W, hW⟩ : ∃ W, W = (((w.alloc (.cells #[.int .i64 p, .slice a n c] 49)).alloc (.cells #[.int .i64 0, .slice none 0 0] 55)).alloc (.cells #[.int .i64 p, .slice none 0 0] 55)) := ⟨_, rfl⟩
  rw [← hW] at hx0 hc0 hc1 hs0 hq ⊢
  clear hW HQ
  have HQ := hidP hq
  have HX := hidP hx0
  clear hq hx0
  refine HQ.out.mono ?_
  rintro e w1 ⟨a', rfl, ho, hx⟩
  have HO := hidP ho
  obtain ⟨q0, _⟩ := hc0 w1 hx 0
  obtain ⟨q1, z1⟩ := hc0 w1 hx 1
  obtain ⟨r0, y0⟩ := hc1 w1 hx 0
  obtain ⟨r1, y1⟩ := hc1 w1 hx 1
  have q0 := q0.trans (show _ = some (Value.int .i64 p) from rfl)
  have q1 := q1.trans (show _ = some (Value.slice none 0 0) from rfl)
  have r0 := r0.trans (show _ = some (Value.int .i64 0) from rfl)
  have r1 := r1.trans (show _ = some (Value.slice none 0 0) from rfl)
  have HX1 := hidP (HX.out.trans hx)
  have hsz : w.heap.size + 2 < W.heap.size := hs0
  clear hc0 hc1 ho hx hs0
  go_wp2
  refine bodyPost_ret (v := carV p a' n n) (by simp [results, Tryz.results36, go_sem, r0, r1]) rfl ⟨_, rfl, ?_, ?_⟩
  · refine OwnI.base (B := W.heap.size) ?_ (by omega)
    refine OwnI.setBelow (OwnI.setBelow (OwnI.setBelow HO.out _ _ ?_ _) _ _ ?_ _) _ _ ?_ _ <;> omega
  · refine Ext.setNew (Ext.setNew (Ext.setNew HX1.out _ _ ?_ _) _ _ ?_ _) _ _ ?_ _ <;> omega
end Go.Proofs.YtnfbfdamlnjblaaGreatDoor

namespace Go.Proofs.YtnfbfdamlnjblaaGreatDoor
open Go.ChangeShapes Go.WideShapes Go.ChangeAt Go.RowKit Go.Joins Go.Deep

theorem plain_of_cell {w : World} {a : Addr} {v : Value} (h : w.cell? (a.add 0) = some v) : a = ⟨a.block, a.off, none⟩ := by
  unfold Addr.add at h
  simp only [if_true] at h
  unfold World.cell? at h
  split at h
  · split at h
    · cases h
    · rename_i hs
      cases a
      simp at hs
      simp [hs]
  · cases h
theorem add_plain (b o i : Nat) : (⟨b, o, none⟩ : Addr).add i = ⟨b, o + i, none⟩ := by
  unfold Addr.add
  split
  · subst_vars; rfl
  · rfl
theorem add_add_plain (a : Addr) (i j : Nat) : (a.add i).add j = a.add (i + j) := by
  unfold Addr.add
  by_cases hi : i = 0
  · simp [hi]
  · by_cases hj : j = 0
    · simp [hi, hj]
    · simp [hi, hj, Nat.add_assoc]

section
variable {H : Type} {enc : TypeId × Value → H} {P : Program} {w : World} {base : Nat} {spare : Nat → Bool} {held : Bool}

theorem ints_in {t e : TypeId} {fuel : Nat} {cs : List Value} {x : DataW H × List MemPlace} (ht : P.underlying t = some (.slice e)) (he : P.underlying e = some (.int .i64)) (hc : P.cellsOf e = 1)
    (h : DataW.trod enc P w base spare held fuel t cs = some x) : ∃ ao n c xs, cs = [.slice ao n c] ∧ IntsAt w ao n xs ∧ n ≤ c ∧ n ≤ 9223372036854775807 ∧ (ao = none → c = 0) ∧ ∀ i, i < n → -9223372036854775808 ≤ xs.getD i 0 ∧ xs.getD i 0 ≤ 9223372036854775807 := by
  rcases open_ints ht he hc h with ⟨rfl, _⟩ | ⟨a, len, cap, zs, rfl, _, hl, hm, hz, _, hcell, hwf⟩
  · exact ⟨none, 0, 0, [], rfl, IntsAt.nil _ _, Nat.le_refl _, by omega, fun _ => rfl, fun i h => by omega⟩
  · have hlen : len ≤ zs.length := by rw [hz]; split <;> omega
    refine ⟨some a, len, cap, zs.take len, rfl, ⟨by simp [hlen], fun i hi => ?_⟩, hl, by unfold maxLen at hm; omega, (fun h => by cases h), fun i hi => ?_⟩
    · have h0 := plain_of_cell (hcell 0 (by omega))
      have hi' := hcell i (by omega)
      rw [h0, add_plain] at hi'
      exact ⟨_, _, congrArg some h0, by rw [hi']; simp [List.getD_eq_getElem?_getD, hi]⟩
    · have hmem : (zs.take len).getD i 0 ∈ zs := by
        simp only [List.getD_eq_getElem?_getD, List.getElem?_take, hi, if_true]
        rw [List.getElem?_eq_getElem (by omega)]
        exact List.getElem_mem _
      have := hwf _ hmem
      simpa [Lit.wf, IntKind.min, IntKind.signed, IntKind.bits] using this

/-- an algebra by value -/
theorem alg_in {r : Reach} {b0 : Nat} {t ti : TypeId} {f0 f1 f2 : Field} {v : Value} {d : DataW H} {p : List MemPlace} (hs : P.underlying t = some (.struct #[f0, f1, f2])) (hone : oneCellFields P #[f0, f1, f2] = true) (hC : P.cellsOf t = 3)
    (e0 : P.underlying f0.type = some (.int .i64)) (e1 : P.underlying f1.type = some (.int .i64)) (e2 : P.underlying f2.type = some (.slice ti)) (he : P.underlying ti = some (.int .i64)) (hc : P.cellsOf ti = 1)
    (hv : Value.okWide P w r b0 t v) (h : DataW.Trod enc P w base spare held t v d p) :
    ∃ p d ao n c xs, v = algV p d ao n c ∧ IntsAt w ao n xs ∧ n ≤ c ∧ n ≤ 9223372036854775807 := by
  obtain ⟨v0, v1, v2, y0, y1, y2, n, rfl, _, _, h0, h1, h2⟩ := open_agg3 hs hone hC hv h
  obtain ⟨m0, q0, _⟩ := DataW.trod_int e0 h0
  obtain ⟨m1, q1, _⟩ := DataW.trod_int e1 h1
  obtain ⟨ao, n, c, xs, q2, hi, hn, hn2, _⟩ := ints_in e2 he hc h2
  simp only [List.cons.injEq, and_true] at q0 q1 q2
  subst q0 q1 q2
  exact ⟨m0, m1, ao, n, c, xs, rfl, hi, hn, hn2⟩

/-- a slice of structs of a word and a number -/
theorem terms_in {t e ti : TypeId} {f0 f1 : Field} {fuel : Nat} {cs : List Value} {x : DataW H × List MemPlace} (ht : P.underlying t = some (.slice e)) (hs : P.underlying e = some (.struct #[f0, f1])) (hone : oneCellFields P #[f0, f1] = true) (hC : P.cellsOf e = 2)
    (e0 : P.underlying f0.type = some (.slice ti)) (e1 : P.underlying f1.type = some (.int .i64)) (he : P.underlying ti = some (.int .i64)) (hc : P.cellsOf ti = 1)
    (h : DataW.trod enc P w base spare held fuel t cs = some x) : ∃ ao n c us, cs = [.slice ao n c] ∧ TermsAt w ao n us ∧ n ≤ c ∧ n ≤ 9223372036854775807 ∧ (ao = none → c = 0) := by
  rcases open_slice ht h with ⟨rfl, _⟩ | ⟨a, len, cap, m, fl, D, Pl, rfl, _, hl, hm, hmm, _, hi⟩
  · exact ⟨none, 0, 0, [], rfl, ⟨rfl, fun i h => by omega⟩, Nat.le_refl _, by omega, fun _ => rfl⟩
  · have hlm : len ≤ m := by rw [hmm]; split <;> omega
    have each : ∀ i, i < len → ∃ aw n c xs m, w.cell? (a.add (i * 2)) = some (.slice aw n c) ∧ w.cell? (a.add (i * 2 + 1)) = some (.int .i64 m) ∧ IntsAt w aw n xs ∧ n ≤ 9223372036854775807 := by
      intro i hil
      obtain ⟨cs', hcs, htr⟩ := hi i (by omega)
      rw [hC] at hcs
      obtain ⟨_, hcl, hat⟩ := World.cells?_some hcs
      obtain ⟨y0, y1, n', _, _, h0, h1⟩ := trod_struct2 hs htr
      obtain ⟨o0, k0⟩ := hone_of hone 0 f0 rfl
      obtain ⟨o1, k1⟩ := hone_of hone 1 f1 rfl
      have c0 := hat 0 (by omega)
      have c1 := hat 1 (by omega)
      match cs', hcl with
      | [v0, v1], _ =>
        rw [o0, k0] at h0
        rw [o1, k1] at h1
        simp only [List.drop_zero, List.take_succ_cons, List.take_zero, List.drop_succ_cons] at h0 h1
        obtain ⟨aw, n, c, xs, q0, hI, _, hn2, _⟩ := ints_in e0 he hc h0
        obtain ⟨m1, q1, _⟩ := DataW.trod_int e1 h1
        simp only [List.cons.injEq, and_true] at q0 q1
        subst q0 q1
        rw [add_add_plain] at c0 c1
        exact ⟨aw, n, c, xs, m1, c0, c1, hI, hn2⟩
    rcases Nat.eq_zero_or_pos len with h0 | h0
    · subst h0
      exact ⟨some a, 0, cap, [], rfl, ⟨rfl, fun i h => by omega⟩, hl, by omega, fun h => by cases h⟩
    · have ha : a = ⟨a.block, a.off, none⟩ := by
        obtain ⟨_, _, _, _, _, q, _⟩ := each 0 h0
        rw [Nat.zero_mul] at q
        exact plain_of_cell q
      have hex : ∃ f : Nat → List Int × Int, ∀ i, i < len → ∃ aw c, w.cell? (a.add (i * 2)) = some (.slice aw (f i).1.length c) ∧ w.cell? (a.add (i * 2 + 1)) = some (.int .i64 (f i).2) ∧ IntsAt w aw (f i).1.length (f i).1 ∧ (f i).1.length ≤ 9223372036854775807 := by
        refine ⟨fun i => if h : i < len then (Classical.choose (Classical.choose_spec (Classical.choose_spec (Classical.choose_spec (each i h)))), Classical.choose (Classical.choose_spec (Classical.choose_spec (Classical.choose_spec (Classical.choose_spec (each i h)))))) else ([], 0), fun i hi => ?_⟩
        have hh := Classical.choose_spec (Classical.choose_spec (Classical.choose_spec (Classical.choose_spec (Classical.choose_spec (each i hi)))))
        simp only [hi, dif_pos]
        have hl := hh.2.2.1.len
        refine ⟨Classical.choose (each i hi), Classical.choose (Classical.choose_spec (Classical.choose_spec (each i hi))), ?_, hh.2.1, ?_, ?_⟩
        · rw [hl]; exact hh.1
        · rw [hl]; exact hh.2.2.1
        · rw [hl]; exact hh.2.2.2
      obtain ⟨f, hf⟩ := hex
      refine ⟨some a, len, cap, (List.range len).map f, rfl, ⟨by simp, fun i hil => ?_⟩, hl, by unfold maxLen at hm; omega, fun h => by cases h⟩
      obtain ⟨aw, c, q0, q1, hI, hn⟩ := hf i hil
      have e : ((List.range len).map f).getD i ([], 0) = f i := by simp [List.getD_eq_getElem?_getD, hil]
      rw [ha, add_plain] at q0 q1
      exact ⟨_, _, aw, c, congrArg some ha, by rw [e]; exact q0, by rw [e, Nat.add_assoc]; exact q1, by rw [e]; exact hI, by rw [e]; exact hn⟩
end
end Go.Proofs.YtnfbfdamlnjblaaGreatDoor

namespace Go.Proofs.YtnfbfdamlnjblaaGreatDoor
open Go.ChangeShapes Go.WideShapes Go.ChangeAt Go.RowKit Go.Joins Go.Deep

section
variable {H : Type} {enc : TypeId × Value → H} {P : Program} {w : World} {base : Nat} {spare : Nat → Bool} {held : Bool}
/-- a Cartan matrix by value -/
theorem car_in {r : Reach} {b0 : Nat} {t ti : TypeId} {f0 f1 : Field} {v : Value} {d : DataW H} {p : List MemPlace} (hs : P.underlying t = some (.struct #[f0, f1])) (hone : oneCellFields P #[f0, f1] = true) (hC : P.cellsOf t = 2)
    (e0 : P.underlying f0.type = some (.int .i64)) (e1 : P.underlying f1.type = some (.slice ti)) (he : P.underlying ti = some (.int .i64)) (hc : P.cellsOf ti = 1)
    (hv : Value.okWide P w r b0 t v) (h : DataW.Trod enc P w base spare held t v d p) :
    ∃ p ao n c xs, v = carV p ao n c ∧ IntsAt w ao n xs ∧ n ≤ c ∧ n ≤ 9223372036854775807 := by
  obtain ⟨v0, v1, y0, y1, n, rfl, _, _, h0, h1⟩ := open_agg2 hs hone hC hv h
  obtain ⟨m0, q0, _⟩ := DataW.trod_int e0 h0
  obtain ⟨ao, n, c, xs, q1, hi, hn, hn2, _⟩ := ints_in e1 he hc h1
  simp only [List.cons.injEq, and_true] at q0 q1
  subst q0 q1
  exact ⟨m0, ao, n, c, xs, rfl, hi, hn, hn2⟩
end
end Go.Proofs.YtnfbfdamlnjblaaGreatDoor

namespace Go.Proofs.YtnfbfdamlnjblaaGreatDoor
open Go.RowKit

theorem mkAt_bound (us : List Stp) (c : Nat) : ∀ n, (∀ k, k < n → (us.getD k ([], 0)).1.length ≤ c) → mkAt us n ≤ n * (c + 1)
  | 0, _ => Nat.zero_le _
  | n + 1, h => by
    have h1 := mkAt_bound us c n fun k hk => h k (by omega)
    have h2 := h n (by omega)
    show mkAt us n + ((us.getD n ([], 0)).1.length + 1) ≤ (n + 1) * (c + 1)
    rw [Nat.add_mul]
    omega
theorem res_small {J1 : Bool} {J2 : List Stp} (h : ResOk (J1, J2)) {n : Nat} (hn : J2.length = n) : mkAt J2 n ≤ 10000000 := by
  rcases h with h | ⟨R, hR, h⟩
  · have h' : J2 = [] := h
    subst h'
    simp at hn
    subst hn
    exact Nat.zero_le _
  · obtain ⟨h1, h2⟩ := pathB_small h
    have h1' : J2.length ≤ 60 := h1
    have := mkAt_bound J2 4 n fun k hk => by
      have := (h2 k (by show k < J2.length; omega)).1
      have h3 : (J2.getD k ([], 0)).1.length = R := this
      omega
    omega
end Go.Proofs.YtnfbfdamlnjblaaGreatDoor
