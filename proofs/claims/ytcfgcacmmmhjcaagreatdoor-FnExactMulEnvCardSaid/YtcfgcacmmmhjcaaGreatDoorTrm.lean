/-
  Terms: slices of a word and a number each, in order; the reference's checks l11Word and l11Ok.
-/
import Derived.Test.YtcfgcacmmmhjcaaGreatDoorWrd
import Derived.Test.YtcfgcacmmmhjcaaGreatDoorTermD
import Derived.Test.YtcfgcacmmmhjcaaGreatDoorAlg
namespace Go.Proofs.YtcfgcacmmmhjcaaGreatDoor
open Go.RowKit

def wordK (d : Int) (xs : List Int) (i : Nat) : Bool := insB (xs.getD i 0) 0 (d - 1) && (decide (i = 0) || decide (xs.getD (i - 1) 0 ≤ xs.getD i 0))
def wordB (d : Int) (xs : List Int) : Bool := decide (xs.length ≤ 6) && (List.range xs.length).all (wordK d xs)
theorem wordB_true {d : Int} {xs : List Int} : wordB d xs = true ↔ xs.length ≤ 6 ∧ ∀ i, i < xs.length → wordK d xs i = true := by
  simp [wordB]
theorem wordB_long {d : Int} {xs : List Int} (h : 6 < xs.length) : wordB d xs = false := by
  rw [Bool.eq_false_iff, ne_eq, wordB_true]; omega
theorem wordB_bad {d : Int} {xs : List Int} (i : Nat) (hi : i < xs.length) (h : wordK d xs i = false) : wordB d xs = false := by
  rw [Bool.eq_false_iff, ne_eq, wordB_true]
  intro hw
  rw [hw.2 i hi] at h
  cases h

set_option maxRecDepth 100000 in
set_option maxHeartbeats 1000000 in
theorem l11Word_any (p d : Int) (ta : Option Addr) (tn tc : Nat) (a : Option Addr) (n c : Nat) (xs : List Int) (w : World) (h : IntsAt w a n xs) (hn : n ≤ 9223372036854775807) (hd0 : -1000 ≤ d) (hd1 : d ≤ 1000000) :
    Calls Tryz.prog 79 #[algV p d ta tn tc, .slice a n c] w fun e w' => e = .returned (.bool (wordB d xs)) ∧ Ext w w' := by
  have hX := Ext.alloc w (.cells #[.int .i64 p, .int .i64 d, .slice ta tn tc] 28)
  have G := hidP (h.below hX)
  have HX := hidP hX
  have L := hidP h.len
  clear hX h
  go_enter Tryz.func79, Tryz.ntmps79
  by_cases h6 : n ≤ 6
  · go_wp2
    obtain ⟨w0, hw0⟩ : ∃ w0, w0 = w.alloc (.cells #[.int .i64 p, .int .i64 d, .slice ta tn tc] 28) := ⟨_, rfl⟩
    have hc : w0.cell? ⟨w.heap.size, 1, none⟩ = some (.int .i64 d) := by rw [hw0]; exact (cell_top _ _ _ _ _ rfl).trans rfl
    rw [← hw0] at G HX ⊢
    clear hw0
    have HF := hidP (fun w' (hx : Ext w0 w') => (hx.cell (p := ⟨w.heap.size, 1, none⟩) (World.block_lt_of_cell? w0 _ hc)).trans hc)
    have ed : IntKind.i64.wrap (d - 1) = d - 1 := wrap_in (by omega) (by omega)
    clear hc
    go_loopw [5] (fun i wr => ∃ k : Nat, k ≤ n ∧ Hid (∀ j, j < k → wordK d xs j = true) ∧ i = .int .i64 k ∧ Hid (Ext w0 wr)) (fun i _ => n - (intOf i).toNat)
    case atStart => exact ⟨0, Nat.zero_le _, fun j h => by omega, rfl, Ext.refl _⟩
    case round =>
      obtain ⟨k, hk, HJ, rfl, HXr⟩ := hrel
      by_cases hlt : k < n
      · obtain ⟨b, o, rfl, _⟩ := G.out.get k hlt
        have HQ := hidP (fun w' (hx : Ext w0 w') => (G.out.below hx).atc k hlt)
        have HQ1 := hidP (fun w' (hx : Ext w0 w') => (G.out.below hx).atc (k - 1) (by omega))
        have HB := hidP (fun e => wordB_bad (d := d) (xs := xs) k (by have := L.out; omega) e)
        have HK : Hid (wordK d xs k = (insB (xs.getD k 0) 0 (d - 1) && (decide (k = 0) || decide (xs.getD (k - 1) 0 ≤ xs.getD k 0)))) := rfl
        have hE : Ext wr wr.drew := Ext.drew wr
        generalize hx : xs.getD k 0 = x at *
        generalize hy : xs.getD (k - 1) 0 = y at *
        have HS : ∀ wz, Ext wr wz → wordK d xs k = true → Hid (∀ j, j < k + 1 → wordK d xs j = true) := fun _ _ hs => by
          intro j hj
          rcases Nat.lt_succ_iff_lt_or_eq.1 hj with h3 | rfl
          · exact HJ.out j h3
          · exact hs
        have HS := hidP HS
        clear hx hy
        cases hi : insB x 0 (d - 1)
        · have HB' := hidP (HB.out (by rw [HK.out, hi]; rfl))
          go_wp2
          (refine walkR_start (fun w' => Ext wr w') 25 (by kernel_rfl) ?_; simp only [numbered, List.take_succ_cons, List.take_zero, Nat.zero_add, Nat.reduceAdd, List.length_cons, List.length_nil])
          (repeat (first | (refine walkR_still (v := ?_) rfl (by decide +kernel) rfl (fun _ _ _ h => h) hE ?_ ?_; rotate_left; (focus (intro w' hw'; have f1 := HF.out w' (HXr.out.trans hw'); have q := HQ.out w' (HXr.out.trans hw'); go_simp; all_goals (with_reducible rfl))); simp only [Act.put, List.setIfInBounds_toArray, List.set_cons_zero, List.set_cons_succ]) | (refine walkR_skip rfl (by decide +kernel) rfl (fun _ _ _ h => h) hE ?_; simp only [Act.put, List.setIfInBounds_toArray, List.set_cons_zero, List.set_cons_succ])))
          (refine walkR_only (fun w' => Ext wr w') rfl (by decide +kernel) rfl (fun _ h => h) ?_; intro K hK; go_simp; refine (l1In_any _ _ _ _).mono ?_; rintro e w' ⟨rfl, rfl⟩; refine hK _ _ (hE) ?_; clear hK K; (try simp only [Act.put, List.setIfInBounds_toArray, List.set_cons_zero, List.set_cons_succ]))
          (repeat (first | (refine walkR_still (v := ?_) rfl (by decide +kernel) rfl (fun _ _ _ h => h) hE ?_ ?_; rotate_left; (focus (intro w' hw'; skip; go_simp; all_goals (with_reducible rfl))); simp only [Act.put, List.setIfInBounds_toArray, List.set_cons_zero, List.set_cons_succ]) | (refine walkR_skip rfl (by decide +kernel) rfl (fun _ _ _ h => h) hE ?_; simp only [Act.put, List.setIfInBounds_toArray, List.set_cons_zero, List.set_cons_succ])))
          (refine walkR_tail (by rfl) (by kernel_rfl) ?_; simp only [List.drop_succ_cons, List.drop_zero])
          go_wp2
          go_ret
          exact ⟨ret_bool HB'.out.symm, (HX.out.trans HXr.out).trans hE⟩
        · by_cases hk0 : k = 0
          · subst hk0
            have hs := HS.out _ hE (by rw [HK.out, hi]; rfl)
            go_wp2
            (refine walkR_start (fun w' => Ext wr w') 25 (by kernel_rfl) ?_; simp only [numbered, List.take_succ_cons, List.take_zero, Nat.zero_add, Nat.reduceAdd, List.length_cons, List.length_nil])
            (repeat (first | (refine walkR_still (v := ?_) rfl (by decide +kernel) rfl (fun _ _ _ h => h) hE ?_ ?_; rotate_left; (focus (intro w' hw'; have f1 := HF.out w' (HXr.out.trans hw'); have q := HQ.out w' (HXr.out.trans hw'); rw [Nat.add_zero] at q; go_simp; all_goals (with_reducible rfl))); simp only [Act.put, List.setIfInBounds_toArray, List.set_cons_zero, List.set_cons_succ]) | (refine walkR_skip rfl (by decide +kernel) rfl (fun _ _ _ h => h) hE ?_; simp only [Act.put, List.setIfInBounds_toArray, List.set_cons_zero, List.set_cons_succ])))
            (refine walkR_only (fun w' => Ext wr w') rfl (by decide +kernel) rfl (fun _ h => h) ?_; intro K hK; go_simp; refine (l1In_any _ _ _ _).mono ?_; rintro e w' ⟨rfl, rfl⟩; refine hK _ _ (hE) ?_; clear hK K; (try simp only [Act.put, List.setIfInBounds_toArray, List.set_cons_zero, List.set_cons_succ]))
            (repeat (first | (refine walkR_still (v := ?_) rfl (by decide +kernel) rfl (fun _ _ _ h => h) hE ?_ ?_; rotate_left; (focus (intro w' hw'; skip; go_simp; all_goals (with_reducible rfl))); simp only [Act.put, List.setIfInBounds_toArray, List.set_cons_zero, List.set_cons_succ]) | (refine walkR_skip rfl (by decide +kernel) rfl (fun _ _ _ h => h) hE ?_; simp only [Act.put, List.setIfInBounds_toArray, List.set_cons_zero, List.set_cons_succ])))
            (refine walkR_tail (by rfl) (by kernel_rfl) ?_; simp only [List.drop_succ_cons, List.drop_zero])
            go_wp2
            go_roundw
            case rel => exact ⟨0 + 1, by omega, hs, by go_num, HXr.out.trans hE⟩
            case measure => simp [intOf]; omega
          · have hk1 : decide (0 < k) = true := by simp; omega
            have hk2 : k - 1 < n := by omega
            have ek : IntKind.i64.wrap ((k : Int) - 1) = ((k - 1 : Nat) : Int) := by rw [wrap_in (by omega) (by omega)]; omega
            by_cases hyx : x < y
            · have HB' := hidP (HB.out (by rw [HK.out, hi]; simp; omega))
              go_wp2
              (refine walkR_start (fun w' => Ext wr w') 25 (by kernel_rfl) ?_; simp only [numbered, List.take_succ_cons, List.take_zero, Nat.zero_add, Nat.reduceAdd, List.length_cons, List.length_nil])
              (repeat (first | (refine walkR_still (v := ?_) rfl (by decide +kernel) rfl (fun _ _ _ h => h) hE ?_ ?_; rotate_left; (focus (intro w' hw'; have f1 := HF.out w' (HXr.out.trans hw'); have q := HQ.out w' (HXr.out.trans hw'); go_simp; all_goals (with_reducible rfl))); simp only [Act.put, List.setIfInBounds_toArray, List.set_cons_zero, List.set_cons_succ]) | (refine walkR_skip rfl (by decide +kernel) rfl (fun _ _ _ h => h) hE ?_; simp only [Act.put, List.setIfInBounds_toArray, List.set_cons_zero, List.set_cons_succ])))
              (refine walkR_only (fun w' => Ext wr w') rfl (by decide +kernel) rfl (fun _ h => h) ?_; intro K hK; go_simp; refine (l1In_any _ _ _ _).mono ?_; rintro e w' ⟨rfl, rfl⟩; refine hK _ _ (hE) ?_; clear hK K; (try simp only [Act.put, List.setIfInBounds_toArray, List.set_cons_zero, List.set_cons_succ]))
              (repeat (first | (refine walkR_still (v := ?_) rfl (by decide +kernel) rfl (fun _ _ _ h => h) hE ?_ ?_; rotate_left; (focus (intro w' hw'; have q := HQ.out w' (HXr.out.trans hw'); have q1 := HQ1.out w' (HXr.out.trans hw'); go_simp; all_goals (with_reducible rfl))); simp only [Act.put, List.setIfInBounds_toArray, List.set_cons_zero, List.set_cons_succ]) | (refine walkR_skip rfl (by decide +kernel) rfl (fun _ _ _ h => h) hE ?_; simp only [Act.put, List.setIfInBounds_toArray, List.set_cons_zero, List.set_cons_succ])))
              (refine walkR_tail (by rfl) (by kernel_rfl) ?_; simp only [List.drop_succ_cons, List.drop_zero])
              go_wp2
              go_ret
              exact ⟨ret_bool HB'.out.symm, (HX.out.trans HXr.out).trans hE⟩
            · have hs := HS.out _ hE (by rw [HK.out, hi]; simp; omega)
              go_wp2
              (refine walkR_start (fun w' => Ext wr w') 25 (by kernel_rfl) ?_; simp only [numbered, List.take_succ_cons, List.take_zero, Nat.zero_add, Nat.reduceAdd, List.length_cons, List.length_nil])
              (repeat (first | (refine walkR_still (v := ?_) rfl (by decide +kernel) rfl (fun _ _ _ h => h) hE ?_ ?_; rotate_left; (focus (intro w' hw'; have f1 := HF.out w' (HXr.out.trans hw'); have q := HQ.out w' (HXr.out.trans hw'); go_simp; all_goals (with_reducible rfl))); simp only [Act.put, List.setIfInBounds_toArray, List.set_cons_zero, List.set_cons_succ]) | (refine walkR_skip rfl (by decide +kernel) rfl (fun _ _ _ h => h) hE ?_; simp only [Act.put, List.setIfInBounds_toArray, List.set_cons_zero, List.set_cons_succ])))
              (refine walkR_only (fun w' => Ext wr w') rfl (by decide +kernel) rfl (fun _ h => h) ?_; intro K hK; go_simp; refine (l1In_any _ _ _ _).mono ?_; rintro e w' ⟨rfl, rfl⟩; refine hK _ _ (hE) ?_; clear hK K; (try simp only [Act.put, List.setIfInBounds_toArray, List.set_cons_zero, List.set_cons_succ]))
              (repeat (first | (refine walkR_still (v := ?_) rfl (by decide +kernel) rfl (fun _ _ _ h => h) hE ?_ ?_; rotate_left; (focus (intro w' hw'; have q := HQ.out w' (HXr.out.trans hw'); have q1 := HQ1.out w' (HXr.out.trans hw'); go_simp; all_goals (with_reducible rfl))); simp only [Act.put, List.setIfInBounds_toArray, List.set_cons_zero, List.set_cons_succ]) | (refine walkR_skip rfl (by decide +kernel) rfl (fun _ _ _ h => h) hE ?_; simp only [Act.put, List.setIfInBounds_toArray, List.set_cons_zero, List.set_cons_succ])))
              (refine walkR_tail (by rfl) (by kernel_rfl) ?_; simp only [List.drop_succ_cons, List.drop_zero])
              go_wp2
              go_roundw
              case rel => exact ⟨k + 1, by omega, hs, by go_num, HXr.out.trans hE⟩
              case measure => simp [intOf]; omega
      · have HB : Hid (wordB d xs = true) := by
          show _ = _
          rw [wordB_true]
          exact ⟨by have := L.out; omega, fun j hj => HJ.out j (by have := L.out; omega)⟩
        go_wp2
        go_ret
        exact ⟨ret_bool HB.out.symm, HX.out.trans HXr.out⟩
  · have HB := hidP (wordB_long (d := d) (xs := xs) (by have := L.out; omega))
    go_wp2
    go_ret
    exact ⟨ret_bool HB.out.symm, HX.out⟩
end Go.Proofs.YtcfgcacmmmhjcaaGreatDoor
