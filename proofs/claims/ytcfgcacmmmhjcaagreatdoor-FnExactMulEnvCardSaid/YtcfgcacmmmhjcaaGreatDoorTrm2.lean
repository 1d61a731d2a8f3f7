/-
  The reference's l11Ok and EnvOk. Printed by gen/trm2.py.
-/
import Derived.Test.YtcfgcacmmmhjcaaGreatDoorTrm
import Derived.Test.YtcfgcacmmmhjcaaGreatDoorSp5
namespace Go.Proofs.YtcfgcacmmmhjcaaGreatDoor
open Go.RowKit

def termB (p d : Int) (us : List (List Int × Int)) (i : Nat) : Bool :=
  wordB d (us.getD i ([], 0)).1 && insB (us.getD i ([], 0)).2 1 (p - 1) && (decide (i = 0) || decide (cmpW (us.getD (i - 1) ([], 0)).1 (us.getD i ([], 0)).1 < 0))
def envB (p d : Int) (us : List (List Int × Int)) : Bool := decide (us.length ≤ 300) && (List.range us.length).all (termB p d us)
theorem envB_true {p d : Int} {us : List (List Int × Int)} : envB p d us = true ↔ us.length ≤ 300 ∧ ∀ i, i < us.length → termB p d us i = true := by
  simp [envB]
theorem envB_long {p d : Int} {us : List (List Int × Int)} (h : 300 < us.length) : envB p d us = false := by
  rw [Bool.eq_false_iff, ne_eq, envB_true]; omega
theorem envB_bad {p d : Int} {us : List (List Int × Int)} (i : Nat) (hi : i < us.length) (h : termB p d us i = false) : envB p d us = false := by
  rw [Bool.eq_false_iff, ne_eq, envB_true]
  intro hw
  rw [hw.2 i hi] at h
  cases h
set_option maxRecDepth 100000 in
set_option maxHeartbeats 2000000 in
theorem l11Ok_any (p d : Int) (ta : Option Addr) (tn tc : Nat) (a : Option Addr) (n c : Nat) (us : List (List Int × Int)) (w : World) (h : TermsAt w a n us) (hn : n ≤ 1000000000000) (hd0 : -1000 ≤ d) (hd1 : d ≤ 1000000) (hp0 : -1000 ≤ p) (hp1 : p ≤ 1000000) :
    Calls Tryz.prog 40 #[algV p d ta tn tc, .slice a n c] w fun e w' => e = .returned (.bool (envB p d us)) ∧ Ext w w' := by
  have hX := Ext.alloc w (.cells #[.int .i64 p, .int .i64 d, .slice ta tn tc] 28)
  have G := hidP (h.below hX)
  have HX := hidP hX
  have L := hidP h.len
  clear hX h
  go_enter Tryz.func40, Tryz.ntmps40
  by_cases h6 : n ≤ 300
  · go_wp2
    obtain ⟨w0, hw0⟩ : ∃ w0, w0 = w.alloc (.cells #[.int .i64 p, .int .i64 d, .slice ta tn tc] 28) := ⟨_, rfl⟩
    have HAL : Hid (AlgAt w0 w.heap.size p d ta tn tc) := by rw [hw0]; exact AlgAt.new w _ rfl p d ta tn tc _
    rw [← hw0] at G HX ⊢
    clear hw0
    have HF := hidP (fun w' (hx : Ext w0 w') => (⟨(HAL.out.below hx).c0, (HAL.out.below hx).c1, (HAL.out.below hx).c2⟩ : _ ∧ _ ∧ _))
    have ed : IntKind.i64.wrap (p - 1) = p - 1 := wrap_in (by omega) (by omega)
    go_loopw [5] (fun i wr => ∃ k : Nat, k ≤ n ∧ Hid (∀ j, j < k → termB p d us j = true) ∧ i = .int .i64 k ∧ Hid (Ext w0 wr)) (fun i _ => n - (intOf i).toNat)
    case atStart => exact ⟨0, Nat.zero_le _, fun j h => by omega, rfl, Ext.refl _⟩
    case round =>
      obtain ⟨k, hk, HJ, rfl, HXr⟩ := hrel
      by_cases hlt : k < n
      · obtain ⟨b, o, _, _, rfl, _⟩ := G.out.get k hlt
        obtain ⟨aw, cw, hm, hq⟩ := G.out.keeps k hlt
        obtain ⟨aw1, cw1, hm1, hq1⟩ := G.out.keeps (k - 1) (by omega)
        have HQ := hidP hq
        have HQ1 := hidP hq1
        have HB := hidP (fun e => envB_bad (p := p) (d := d) (us := us) k (by have := L.out; omega) e)
        have HK : Hid (termB p d us k = (wordB d (us.getD k ([], 0)).1 && insB (us.getD k ([], 0)).2 1 (p - 1) && (decide (k = 0) || decide (cmpW (us.getD (k - 1) ([], 0)).1 (us.getD k ([], 0)).1 < 0)))) := rfl
        have hE : Ext wr wr.drew := Ext.drew wr
        have HS := hidP (fun (hs : termB p d us k = true) => (by
          intro j hj
          rcases Nat.lt_succ_iff_lt_or_eq.1 hj with h3 | rfl
          · exact HJ.out j h3
          · exact hs : ∀ j, j < k + 1 → termB p d us j = true))
        clear hq hq1
        generalize us.getD k ([], 0) = U at *
        generalize us.getD (k - 1) ([], 0) = V at *
        obtain ⟨x, m⟩ := U
        obtain ⟨y, m1⟩ := V
        simp only at HQ HQ1 HK hm hm1
        have HWD := hidP (fun w' (hx : Ext w0 w') => l11Word_any p d ta tn tc aw x.length cw x w' (HQ.out w' hx).2.2 hm hd0 hd1)
        have HBF := hidP (fun w' (hx : Ext w0 w') => l11Before_any aw1 aw y.length x.length cw1 cw y x w' (HQ1.out w' hx).2.2 (HQ.out w' hx).2.2 hm1 hm)
        generalize hwb : wordB d x = WB at *
        generalize hcb : decide (cmpW y x < 0) = CB at *
        clear hwb hcb
        cases WB
        · have HB' := hidP (HB.out (by rw [HK.out]; rfl))
          go_wp2
          (refine walkR_start (fun w' => Ext wr w') 39 (by kernel_rfl) ?_; simp only [numbered, List.take_succ_cons, List.take_zero, Nat.zero_add, Nat.reduceAdd, List.length_cons, List.length_nil])
          (repeat (first | (refine walkR_still (v := ?_) rfl (by decide +kernel) rfl (fun _ _ _ h => h) hE ?_ ?_; rotate_left; (focus (intro w' hw'; obtain ⟨f0, f1, f2⟩ := HF.out w' (HXr.out.trans hw'); obtain ⟨q, q', _⟩ := HQ.out w' (HXr.out.trans hw'); go_simp; all_goals (with_reducible rfl))); simp only [Act.put, List.setIfInBounds_toArray, List.set_cons_zero, List.set_cons_succ]) | (refine walkR_skip rfl (by decide +kernel) rfl (fun _ _ _ h => h) hE ?_; simp only [Act.put, List.setIfInBounds_toArray, List.set_cons_zero, List.set_cons_succ])))
          (refine walkR_only (fun w' => Ext wr w') rfl (by decide +kernel) rfl (fun _ h => h) ?_; intro K hK; go_simp; refine (HWD.out _ (HXr.out.trans hE)).mono ?_; rintro e w1 ⟨rfl, hx1⟩; refine hK _ _ (hE.trans hx1) ?_; clear hK K; (try simp only [Act.put, List.setIfInBounds_toArray, List.set_cons_zero, List.set_cons_succ]))
          have hE1 := hE.trans hx1
          clear hx1
          (repeat (first | (refine walkR_still (v := ?_) rfl (by decide +kernel) rfl (fun _ _ _ h => h) hE1 ?_ ?_; rotate_left; (focus (intro w' hw'; obtain ⟨f0, f1, f2⟩ := HF.out w' (HXr.out.trans hw'); obtain ⟨q, q', _⟩ := HQ.out w' (HXr.out.trans hw'); go_simp; all_goals (with_reducible rfl))); simp only [Act.put, List.setIfInBounds_toArray, List.set_cons_zero, List.set_cons_succ]) | (refine walkR_skip rfl (by decide +kernel) rfl (fun _ _ _ h => h) hE1 ?_; simp only [Act.put, List.setIfInBounds_toArray, List.set_cons_zero, List.set_cons_succ])))
          (refine walkR_tail (by rfl) (by kernel_rfl) ?_; simp only [List.drop_succ_cons, List.drop_zero])
          go_wp2
          go_ret
          exact ⟨ret_bool HB'.out.symm, (HX.out.trans HXr.out).trans hE1⟩
        · cases hi : insB m 1 (p - 1)
          · have HB' := hidP (HB.out (by rw [HK.out]; rw [hi]; rfl))
            go_wp2
            (refine walkR_start (fun w' => Ext wr w') 39 (by kernel_rfl) ?_; simp only [numbered, List.take_succ_cons, List.take_zero, Nat.zero_add, Nat.reduceAdd, List.length_cons, List.length_nil])
            (repeat (first | (refine walkR_still (v := ?_) rfl (by decide +kernel) rfl (fun _ _ _ h => h) hE ?_ ?_; rotate_left; (focus (intro w' hw'; obtain ⟨f0, f1, f2⟩ := HF.out w' (HXr.out.trans hw'); obtain ⟨q, q', _⟩ := HQ.out w' (HXr.out.trans hw'); go_simp; all_goals (with_reducible rfl))); simp only [Act.put, List.setIfInBounds_toArray, List.set_cons_zero, List.set_cons_succ]) | (refine walkR_skip rfl (by decide +kernel) rfl (fun _ _ _ h => h) hE ?_; simp only [Act.put, List.setIfInBounds_toArray, List.set_cons_zero, List.set_cons_succ])))
            (refine walkR_only (fun w' => Ext wr w') rfl (by decide +kernel) rfl (fun _ h => h) ?_; intro K hK; go_simp; refine (HWD.out _ (HXr.out.trans hE)).mono ?_; rintro e w1 ⟨rfl, hx1⟩; refine hK _ _ (hE.trans hx1) ?_; clear hK K; (try simp only [Act.put, List.setIfInBounds_toArray, List.set_cons_zero, List.set_cons_succ]))
            have hE1 := hE.trans hx1
            clear hx1
            (repeat (first | (refine walkR_still (v := ?_) rfl (by decide +kernel) rfl (fun _ _ _ h => h) hE1 ?_ ?_; rotate_left; (focus (intro w' hw'; obtain ⟨f0, f1, f2⟩ := HF.out w' (HXr.out.trans hw'); obtain ⟨q, q', _⟩ := HQ.out w' (HXr.out.trans hw'); go_simp; all_goals (with_reducible rfl))); simp only [Act.put, List.setIfInBounds_toArray, List.set_cons_zero, List.set_cons_succ]) | (refine walkR_skip rfl (by decide +kernel) rfl (fun _ _ _ h => h) hE1 ?_; simp only [Act.put, List.setIfInBounds_toArray, List.set_cons_zero, List.set_cons_succ])))
            (refine walkR_only (fun w' => Ext wr w') rfl (by decide +kernel) rfl (fun _ h => h) ?_; intro K hK; go_simp; refine (l1In_any _ _ _ _).mono ?_; rintro e w' ⟨rfl, rfl⟩; refine hK _ _ (hE1) ?_; clear hK K; (try simp only [Act.put, List.setIfInBounds_toArray, List.set_cons_zero, List.set_cons_succ]))
            (repeat (first | (refine walkR_still (v := ?_) rfl (by decide +kernel) rfl (fun _ _ _ h => h) hE1 ?_ ?_; rotate_left; (focus (intro w' hw'; obtain ⟨f0, f1, f2⟩ := HF.out w' (HXr.out.trans hw'); obtain ⟨q, q', _⟩ := HQ.out w' (HXr.out.trans hw'); go_simp; all_goals (with_reducible rfl))); simp only [Act.put, List.setIfInBounds_toArray, List.set_cons_zero, List.set_cons_succ]) | (refine walkR_skip rfl (by decide +kernel) rfl (fun _ _ _ h => h) hE1 ?_; simp only [Act.put, List.setIfInBounds_toArray, List.set_cons_zero, List.set_cons_succ])))
            (refine walkR_tail (by rfl) (by kernel_rfl) ?_; simp only [List.drop_succ_cons, List.drop_zero])
            go_wp2
            go_ret
            exact ⟨ret_bool HB'.out.symm, (HX.out.trans HXr.out).trans hE1⟩
          · by_cases hk0 : k = 0
            · subst hk0
              have hs := hidP (HS.out (by rw [HK.out]; rw [hi]; rfl))
              go_wp2
              (refine walkR_start (fun w' => Ext wr w') 39 (by kernel_rfl) ?_; simp only [numbered, List.take_succ_cons, List.take_zero, Nat.zero_add, Nat.reduceAdd, List.length_cons, List.length_nil])
              (repeat (first | (refine walkR_still (v := ?_) rfl (by decide +kernel) rfl (fun _ _ _ h => h) hE ?_ ?_; rotate_left; (focus (intro w' hw'; obtain ⟨f0, f1, f2⟩ := HF.out w' (HXr.out.trans hw'); obtain ⟨q, q', _⟩ := HQ.out w' (HXr.out.trans hw'); simp only [Nat.zero_mul, Nat.add_zero] at q q'; go_simp; all_goals (with_reducible rfl))); simp only [Act.put, List.setIfInBounds_toArray, List.set_cons_zero, List.set_cons_succ]) | (refine walkR_skip rfl (by decide +kernel) rfl (fun _ _ _ h => h) hE ?_; simp only [Act.put, List.setIfInBounds_toArray, List.set_cons_zero, List.set_cons_succ])))
              (refine walkR_only (fun w' => Ext wr w') rfl (by decide +kernel) rfl (fun _ h => h) ?_; intro K hK; go_simp; refine (HWD.out _ (HXr.out.trans hE)).mono ?_; rintro e w1 ⟨rfl, hx1⟩; refine hK _ _ (hE.trans hx1) ?_; clear hK K; (try simp only [Act.put, List.setIfInBounds_toArray, List.set_cons_zero, List.set_cons_succ]))
              have hE1 := hE.trans hx1
              clear hx1
              (repeat (first | (refine walkR_still (v := ?_) rfl (by decide +kernel) rfl (fun _ _ _ h => h) hE1 ?_ ?_; rotate_left; (focus (intro w' hw'; obtain ⟨f0, f1, f2⟩ := HF.out w' (HXr.out.trans hw'); obtain ⟨q, q', _⟩ := HQ.out w' (HXr.out.trans hw'); simp only [Nat.zero_mul, Nat.add_zero] at q q'; go_simp; all_goals (with_reducible rfl))); simp only [Act.put, List.setIfInBounds_toArray, List.set_cons_zero, List.set_cons_succ]) | (refine walkR_skip rfl (by decide +kernel) rfl (fun _ _ _ h => h) hE1 ?_; simp only [Act.put, List.setIfInBounds_toArray, List.set_cons_zero, List.set_cons_succ])))
              (refine walkR_only (fun w' => Ext wr w') rfl (by decide +kernel) rfl (fun _ h => h) ?_; intro K hK; go_simp; refine (l1In_any _ _ _ _).mono ?_; rintro e w' ⟨rfl, rfl⟩; refine hK _ _ (hE1) ?_; clear hK K; (try simp only [Act.put, List.setIfInBounds_toArray, List.set_cons_zero, List.set_cons_succ]))
              (repeat (first | (refine walkR_still (v := ?_) rfl (by decide +kernel) rfl (fun _ _ _ h => h) hE1 ?_ ?_; rotate_left; (focus (intro w' hw'; obtain ⟨f0, f1, f2⟩ := HF.out w' (HXr.out.trans hw'); obtain ⟨q, q', _⟩ := HQ.out w' (HXr.out.trans hw'); simp only [Nat.zero_mul, Nat.add_zero] at q q'; go_simp; all_goals (with_reducible rfl))); simp only [Act.put, List.setIfInBounds_toArray, List.set_cons_zero, List.set_cons_succ]) | (refine walkR_skip rfl (by decide +kernel) rfl (fun _ _ _ h => h) hE1 ?_; simp only [Act.put, List.setIfInBounds_toArray, List.set_cons_zero, List.set_cons_succ])))
              (refine walkR_tail (by rfl) (by kernel_rfl) ?_; simp only [List.drop_succ_cons, List.drop_zero])
              go_wp2
              go_roundw
              case rel => exact ⟨0 + 1, by omega, hs, by go_num, HXr.out.trans hE1⟩
              case measure => simp [intOf]; omega
            · have hk1 : decide (0 < k) = true := by simp; omega
              have hk2 : k - 1 < n := by omega
              have ek : IntKind.i64.wrap ((k : Int) - 1) = ((k - 1 : Nat) : Int) := by rw [wrap_in (by omega) (by omega)]; omega
              cases CB
              · have HB' := hidP (HB.out (by rw [HK.out]; rw [hi]; simp; omega))
                go_wp2
                (refine walkR_start (fun w' => Ext wr w') 39 (by kernel_rfl) ?_; simp only [numbered, List.take_succ_cons, List.take_zero, Nat.zero_add, Nat.reduceAdd, List.length_cons, List.length_nil])
                (repeat (first | (refine walkR_still (v := ?_) rfl (by decide +kernel) rfl (fun _ _ _ h => h) hE ?_ ?_; rotate_left; (focus (intro w' hw'; obtain ⟨f0, f1, f2⟩ := HF.out w' (HXr.out.trans hw'); obtain ⟨q, q', _⟩ := HQ.out w' (HXr.out.trans hw'); go_simp; all_goals (with_reducible rfl))); simp only [Act.put, List.setIfInBounds_toArray, List.set_cons_zero, List.set_cons_succ]) | (refine walkR_skip rfl (by decide +kernel) rfl (fun _ _ _ h => h) hE ?_; simp only [Act.put, List.setIfInBounds_toArray, List.set_cons_zero, List.set_cons_succ])))
                (refine walkR_only (fun w' => Ext wr w') rfl (by decide +kernel) rfl (fun _ h => h) ?_; intro K hK; go_simp; refine (HWD.out _ (HXr.out.trans hE)).mono ?_; rintro e w1 ⟨rfl, hx1⟩; refine hK _ _ (hE.trans hx1) ?_; clear hK K; (try simp only [Act.put, List.setIfInBounds_toArray, List.set_cons_zero, List.set_cons_succ]))
                have hE1 := hE.trans hx1
                clear hx1
                (repeat (first | (refine walkR_still (v := ?_) rfl (by decide +kernel) rfl (fun _ _ _ h => h) hE1 ?_ ?_; rotate_left; (focus (intro w' hw'; obtain ⟨f0, f1, f2⟩ := HF.out w' (HXr.out.trans hw'); obtain ⟨q, q', _⟩ := HQ.out w' (HXr.out.trans hw'); go_simp; all_goals (with_reducible rfl))); simp only [Act.put, List.setIfInBounds_toArray, List.set_cons_zero, List.set_cons_succ]) | (refine walkR_skip rfl (by decide +kernel) rfl (fun _ _ _ h => h) hE1 ?_; simp only [Act.put, List.setIfInBounds_toArray, List.set_cons_zero, List.set_cons_succ])))
                (refine walkR_only (fun w' => Ext wr w') rfl (by decide +kernel) rfl (fun _ h => h) ?_; intro K hK; go_simp; refine (l1In_any _ _ _ _).mono ?_; rintro e w' ⟨rfl, rfl⟩; refine hK _ _ (hE1) ?_; clear hK K; (try simp only [Act.put, List.setIfInBounds_toArray, List.set_cons_zero, List.set_cons_succ]))
                (repeat (first | (refine walkR_still (v := ?_) rfl (by decide +kernel) rfl (fun _ _ _ h => h) hE1 ?_ ?_; rotate_left; (focus (intro w' hw'; obtain ⟨f0, f1, f2⟩ := HF.out w' (HXr.out.trans hw'); obtain ⟨q, q', _⟩ := HQ.out w' (HXr.out.trans hw'); obtain ⟨q1, _⟩ := HQ1.out w' (HXr.out.trans hw'); go_simp; all_goals (with_reducible rfl))); simp only [Act.put, List.setIfInBounds_toArray, List.set_cons_zero, List.set_cons_succ]) | (refine walkR_skip rfl (by decide +kernel) rfl (fun _ _ _ h => h) hE1 ?_; simp only [Act.put, List.setIfInBounds_toArray, List.set_cons_zero, List.set_cons_succ])))
                (refine walkR_only (fun w' => Ext wr w') rfl (by decide +kernel) rfl (fun _ h => h) ?_; intro K hK; go_simp; refine (HBF.out _ (HXr.out.trans hE1)).mono ?_; rintro e w2 ⟨rfl, hx2⟩; refine hK _ _ (hE1.trans hx2) ?_; clear hK K; (try simp only [Act.put, List.setIfInBounds_toArray, List.set_cons_zero, List.set_cons_succ]))
                have hE2 := hE1.trans hx2
                clear hx2
                (repeat (first | (refine walkR_still (v := ?_) rfl (by decide +kernel) rfl (fun _ _ _ h => h) hE2 ?_ ?_; rotate_left; (focus (intro w' hw'; skip; go_simp; all_goals (with_reducible rfl))); simp only [Act.put, List.setIfInBounds_toArray, List.set_cons_zero, List.set_cons_succ]) | (refine walkR_skip rfl (by decide +kernel) rfl (fun _ _ _ h => h) hE2 ?_; simp only [Act.put, List.setIfInBounds_toArray, List.set_cons_zero, List.set_cons_succ])))
                (refine walkR_tail (by rfl) (by kernel_rfl) ?_; simp only [List.drop_succ_cons, List.drop_zero])
                go_wp2
                go_ret
                exact ⟨ret_bool HB'.out.symm, (HX.out.trans HXr.out).trans hE2⟩
              · have hs := hidP (HS.out (by rw [HK.out]; rw [hi]; simp))
                go_wp2
                (refine walkR_start (fun w' => Ext wr w') 39 (by kernel_rfl) ?_; simp only [numbered, List.take_succ_cons, List.take_zero, Nat.zero_add, Nat.reduceAdd, List.length_cons, List.length_nil])
                (repeat (first | (refine walkR_still (v := ?_) rfl (by decide +kernel) rfl (fun _ _ _ h => h) hE ?_ ?_; rotate_left; (focus (intro w' hw'; obtain ⟨f0, f1, f2⟩ := HF.out w' (HXr.out.trans hw'); obtain ⟨q, q', _⟩ := HQ.out w' (HXr.out.trans hw'); go_simp; all_goals (with_reducible rfl))); simp only [Act.put, List.setIfInBounds_toArray, List.set_cons_zero, List.set_cons_succ]) | (refine walkR_skip rfl (by decide +kernel) rfl (fun _ _ _ h => h) hE ?_; simp only [Act.put, List.setIfInBounds_toArray, List.set_cons_zero, List.set_cons_succ])))
                (refine walkR_only (fun w' => Ext wr w') rfl (by decide +kernel) rfl (fun _ h => h) ?_; intro K hK; go_simp; refine (HWD.out _ (HXr.out.trans hE)).mono ?_; rintro e w1 ⟨rfl, hx1⟩; refine hK _ _ (hE.trans hx1) ?_; clear hK K; (try simp only [Act.put, List.setIfInBounds_toArray, List.set_cons_zero, List.set_cons_succ]))
                have hE1 := hE.trans hx1
                clear hx1
                (repeat (first | (refine walkR_still (v := ?_) rfl (by decide +kernel) rfl (fun _ _ _ h => h) hE1 ?_ ?_; rotate_left; (focus (intro w' hw'; obtain ⟨f0, f1, f2⟩ := HF.out w' (HXr.out.trans hw'); obtain ⟨q, q', _⟩ := HQ.out w' (HXr.out.trans hw'); go_simp; all_goals (with_reducible rfl))); simp only [Act.put, List.setIfInBounds_toArray, List.set_cons_zero, List.set_cons_succ]) | (refine walkR_skip rfl (by decide +kernel) rfl (fun _ _ _ h => h) hE1 ?_; simp only [Act.put, List.setIfInBounds_toArray, List.set_cons_zero, List.set_cons_succ])))
                (refine walkR_only (fun w' => Ext wr w') rfl (by decide +kernel) rfl (fun _ h => h) ?_; intro K hK; go_simp; refine (l1In_any _ _ _ _).mono ?_; rintro e w' ⟨rfl, rfl⟩; refine hK _ _ (hE1) ?_; clear hK K; (try simp only [Act.put, List.setIfInBounds_toArray, List.set_cons_zero, List.set_cons_succ]))
                (repeat (first | (refine walkR_still (v := ?_) rfl (by decide +kernel) rfl (fun _ _ _ h => h) hE1 ?_ ?_; rotate_left; (focus (intro w' hw'; obtain ⟨f0, f1, f2⟩ := HF.out w' (HXr.out.trans hw'); obtain ⟨q, q', _⟩ := HQ.out w' (HXr.out.trans hw'); obtain ⟨q1, _⟩ := HQ1.out w' (HXr.out.trans hw'); go_simp; all_goals (with_reducible rfl))); simp only [Act.put, List.setIfInBounds_toArray, List.set_cons_zero, List.set_cons_succ]) | (refine walkR_skip rfl (by decide +kernel) rfl (fun _ _ _ h => h) hE1 ?_; simp only [Act.put, List.setIfInBounds_toArray, List.set_cons_zero, List.set_cons_succ])))
                (refine walkR_only (fun w' => Ext wr w') rfl (by decide +kernel) rfl (fun _ h => h) ?_; intro K hK; go_simp; refine (HBF.out _ (HXr.out.trans hE1)).mono ?_; rintro e w2 ⟨rfl, hx2⟩; refine hK _ _ (hE1.trans hx2) ?_; clear hK K; (try simp only [Act.put, List.setIfInBounds_toArray, List.set_cons_zero, List.set_cons_succ]))
                have hE2 := hE1.trans hx2
                clear hx2
                (repeat (first | (refine walkR_still (v := ?_) rfl (by decide +kernel) rfl (fun _ _ _ h => h) hE2 ?_ ?_; rotate_left; (focus (intro w' hw'; skip; go_simp; all_goals (with_reducible rfl))); simp only [Act.put, List.setIfInBounds_toArray, List.set_cons_zero, List.set_cons_succ]) | (refine walkR_skip rfl (by decide +kernel) rfl (fun _ _ _ h => h) hE2 ?_; simp only [Act.put, List.setIfInBounds_toArray, List.set_cons_zero, List.set_cons_succ])))
                (refine walkR_tail (by rfl) (by kernel_rfl) ?_; simp only [List.drop_succ_cons, List.drop_zero])
                go_wp2
                go_roundw
                case rel => exact ⟨k + 1, by omega, hs, by go_num, HXr.out.trans hE2⟩
                case measure => simp [intOf]; omega
      · have HB : Hid (envB p d us = true) := by
          show _ = _
          rw [envB_true]
          exact ⟨by have := L.out; omega, fun j hj => HJ.out j (by have := L.out; omega)⟩
        go_wp2
        go_ret
        exact ⟨ret_bool HB.out.symm, HX.out.trans HXr.out⟩
  · have HB := hidP (envB_long (p := p) (d := d) (us := us) (by have := L.out; omega))
    go_wp2
    go_ret
    exact ⟨ret_bool HB.out.symm, HX.out⟩
set_option maxHeartbeats 2000000 in
theorem sEnvOk_any (p d : Int) (ta : Option Addr) (tn tc : Nat) (t : List Int) (a : Option Addr) (n c : Nat) (us : List (List Int × Int)) (w : World) (ht : IntsAt w ta tn t) (htc : tn ≤ tc) (htc2 : tc ≤ 1000000000000) (h : TermsAt w a n us) (hn : n ≤ 1000000000000) :
    Calls Tryz.prog 39 #[algV p d ta tn tc, .slice a n c] w fun e w' => e = .returned (.bool (algB p d t && envB p d us)) ∧ Ext w w' := by
  have hX := Ext.alloc w (.cells #[.int .i64 p, .int .i64 d, .slice ta tn tc] 28)
  have HA := hidP (sAlgebraOk_any p d ta tn tc t _ (ht.below hX) htc htc2)
  have HG := hidP (h.below hX)
  have HAL := hidP (AlgAt.new w _ rfl p d ta tn tc 28)
  have HX := hidP hX
  clear ht h hX
  cases hb : algB p d t
  · have HB := hidP hb
    rw [hb] at HA
    clear hb
    go_enter Tryz.func39, Tryz.ntmps39
    go_wp2_with (go_at_call 28; refine HA.out.mono ?_; rintro e w1 ⟨rfl, hx1⟩)
    go_ret
    exact ⟨rfl, HX.out.trans hx1⟩
  · obtain ⟨hh, _⟩ := algB_true.1 hb
    obtain ⟨hp, hd0, hd, _, _⟩ := headB_true hh
    obtain ⟨p2, p7⟩ := prime_bounds hp
    have HO := hidP (fun w' (hx : Ext _ w') => l11Ok_any p d ta tn tc a n c us w' (HG.out.below hx) hn (by omega) (by omega) (by omega) (by omega))
    rw [hb] at HA
    clear hb hh hp
    go_enter Tryz.func39, Tryz.ntmps39
    go_wp2_with fail
    refine HA.out.mono ?_
    rintro e w1 ⟨rfl, hx1⟩
    obtain ⟨f0, f1, f2⟩ := HAL.out.below hx1
    have HX1 := hidP hx1
    clear hx1
    go_wp2_with fail
    refine (HO.out _ HX1.out).mono ?_
    rintro e w2 ⟨rfl, hx2⟩
    have HX2 := hidP hx2
    clear hx2 f0 f1 f2
    go_wp2
    go_ret
    exact ⟨by simp, (HX.out.trans HX1.out).trans HX2.out⟩
end Go.Proofs.YtcfgcacmmmhjcaaGreatDoor
