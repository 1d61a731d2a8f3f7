/-
  Heights of the program's paths and of the reference's.
-/
import Derived.Test.YtfikkfbnlegflaaGreatDoorPth3
import Derived.Test.YtfikkfbnlegflaaGreatDoorPthE
import Derived.Test.YtfikkfbnlegflaaGreatDoorCarA
namespace Go.Proofs.YtfikkfbnlegflaaGreatDoor
open Go.RowKit

theorem own_one (w : World) (B : Nat) (z : Int) (hB : B ≤ w.heap.size) : OwnI (w.alloc (.cells #[.int .i64 z] 3)) B (some ⟨w.heap.size, 0, none⟩) 1 1 [z] :=
  ⟨World.ownsRow_lit (e := 3) (size := 1) (base := B) w #[.int .i64 z] 1 hB (by unfold maxLen; omega) (by simp)⟩
theorem ints_one (w : World) (z : Int) (E : TypeId) : IntsAt (w.alloc (.cells #[.int .i64 z] E)) (some ⟨w.heap.size, 0, none⟩) 1 [z] := ⟨rfl, fun q hq => ⟨_, 0, rfl, by
  obtain rfl : q = 0 := by omega
  exact (cell_top _ _ _ _ _ rfl).trans rfl⟩⟩
/-- one number of a slice of integers, in later worlds, too -/
theorem IntsAt.one {w : World} {a : Option Addr} {n : Nat} {xs : List Int} (h : IntsAt w a n xs) (i : Nat) (hi : i < n) : ∃ b o, a = some ⟨b, o, none⟩ ∧ ∀ w', Ext w w' → w'.cell? ⟨b, o + i, none⟩ = some (.int .i64 (xs.getD i 0)) := by
  obtain ⟨b, o, rfl, hc⟩ := h.get i hi
  exact ⟨b, o, rfl, fun w' hx => (hx.cell (p := ⟨b, o + i, none⟩) (World.block_lt_of_cell? w _ hc)).trans hc⟩
/-- what a round of 'heights' does with numbers -/
structure HtStep (p : List Stp) (i k : Nat) (H L Z : Int) : Prop where
  now : htAt i p k = H
  next : htAt i p (k + 1) = H + L * Z
  mul : IntKind.i64.wrap (L * Z) = L * Z
  add : IntKind.i64.wrap (H + L * Z) = H + L * Z
theorem ht_step {r : Nat} {p : List Stp} (hp : PathP r p) {i k : Nat} (hi : i < r) (hk : k < p.length) : HtStep p i k (htAt i p k) (lenAt p k) ((wayAt p k).getD i 0) := by
  obtain ⟨hd1, hd2⟩ := hp.dur k hk
  obtain ⟨hw1, hw2⟩ := (hp.way k hk).2 i hi
  have h1 : lenAt p k * (wayAt p k).getD i 0 ≤ lenAt p k * 1000 := Int.mul_le_mul_of_nonneg_left hw2 (by omega)
  have h2 : lenAt p k * (-1000) ≤ lenAt p k * (wayAt p k).getD i 0 := Int.mul_le_mul_of_nonneg_left hw1 (by omega)
  have h3 := ht_small hp hi k (by omega)
  exact ⟨rfl, rfl, wrap_in (by omega) (by omega), wrap_in (by omega) (by omega)⟩

set_option maxHeartbeats 2000000 in
theorem heights_any (i r : Nat) (a : Option Addr) (n c : Nat) (xs : List Stp) (w : World) (h : TermsAt w a n xs) (hp : PathP r xs) (hi : i < r) :
    Calls Tryz.prog 83 #[.int .i64 i, .slice a n c] w fun e w' => ∃ g c', e = .returned (.slice (some ⟨g, 0, none⟩) (n + 1) c') ∧ OwnI w' w.heap.size (some ⟨g, 0, none⟩) (n + 1) c' (hts i xs n) ∧ Ext w w' := by
  have G := hidP h
  have HP := hidP hp
  have hl := hidP h.len
  have hn60 : n ≤ 60 := by have := hp.len; have := h.len; omega
  have HO0 := hidP (own_one w w.heap.size 0 (Nat.le_refl _))
  have HX0 := hidP (Ext.alloc w (.cells #[.int .i64 0] 3))
  clear h hp
  go_enter Tryz.func83, Tryz.ntmps83
  go_wp2
  go_loopw [5, 11] (fun out ii wr => ∃ (k g co : Nat), k ≤ n ∧ out = .slice (some ⟨g, 0, none⟩) (k + 1) co ∧ ii = .int .i64 k ∧ Hid (OwnI wr w.heap.size (some ⟨g, 0, none⟩) (k + 1) co (hts i xs k)) ∧ Hid (Ext w wr)) (fun _ ii _ => n - (intOf ii).toNat)
  case atStart => exact ⟨0, _, _, Nat.zero_le _, rfl, rfl, HO0, HX0⟩
  case round =>
    obtain ⟨k, g, co, hk, rfl, rfl, HO, HX⟩ := hrel
    by_cases hlt : k < n
    · obtain ⟨b, o, aw, cw, W, L, rfl, HW, HL, hwl, hq⟩ := (G.out.below HX.out).way k hlt
      have HQ := hidP hq
      have hst := ht_step HP.out hi (show k < xs.length by have := hl.out; omega)
      have hwr := (HP.out.way k (by have := hl.out; omega)).1
      rw [HW.out] at hst hwr
      rw [HL.out] at hst
      obtain ⟨q1, q2, qi⟩ := hq wr (Ext.refl wr)
      obtain ⟨bw, ow, rfl, hwi⟩ := qi.one i (by omega)
      have hiw : (i : Int) < (W.length : Int) := by omega
      have hi0 : (0 : Int) ≤ (i : Int) := by omega
      obtain ⟨Z, hZ⟩ : ∃ Z, Z = W.getD i 0 := ⟨_, rfl⟩
      obtain ⟨H, hH⟩ : ∃ H, H = htAt i xs k := ⟨_, rfl⟩
      rw [← hZ, ← hH] at hst
      rw [← hZ] at hwi
      have HWi := hidP hwi
      have HG : Hid (∀ w', Ext wr w' → w'.cell? ⟨g, k, none⟩ = some (.int .i64 H)) := by
        show ∀ w', _
        intro w' hx
        obtain ⟨g', e', _, _, hc, _⟩ := (HO.out.below hx).cell k (by omega)
        simp only [Option.some.injEq, Addr.mk.injEq, and_true] at e'
        rw [← e', hts_get _ _ _ _ (Nat.le_refl _), ← hH] at hc
        exact hc
      have HNx : Hid (hts i xs (k + 1) = hts i xs k ++ [H + L * Z]) := by
        show _ = _
        rw [hts_succ, hst.next]
      have hmul := hst.mul
      have hadd := hst.add
      have hk1 : (k : Int) < (k : Int) + 1 := by omega
      have hk0 : (0 : Int) ≤ (k : Int) := by omega
      clear hst hZ hH qi hwi hq hwr
      have HA2 := hidP (Ext.alloc wr (.cells #[.slice (some ⟨bw, ow, none⟩) W.length cw, .int .i64 L] 69))
      have HS := hidP (fun w' (hx : Ext (wr.alloc (.cells #[.slice (some ⟨bw, ow, none⟩) W.length cw, .int .i64 L] 69)) w') => (StpAt.new wr _ rfl (some ⟨bw, ow, none⟩) W.length cw L 69).below hx)
      obtain ⟨w2, hw2⟩ : ∃ w2, w2 = wr.alloc (.cells #[.slice (some ⟨bw, ow, none⟩) W.length cw, .int .i64 L] 69) := ⟨_, rfl⟩
      rw [← hw2] at HA2 HS
      go_wp2
      rw [← hw2]
      clear hw2 q1 q2
      have hE : Ext w2 w2.drew := Ext.drew w2
      (refine walkR_start (fun w' => Ext w2 w') 15 (by kernel_rfl) ?_; simp only [numbered, List.take_succ_cons, List.take_zero, Nat.zero_add, Nat.reduceAdd, List.length_cons, List.length_nil])
      (repeat (first | (refine walkR_still (v := ?_) rfl (by decide +kernel) rfl (fun _ _ _ h => h) hE ?_ ?_; rotate_left; (focus (intro w' hw'; obtain ⟨q1, q2⟩ := HS.out w' hw'; obtain c1 := HG.out w' (HA2.out.trans hw'); obtain c2 := HWi.out w' (HA2.out.trans hw'); go_simp; all_goals (with_reducible rfl))); simp only [Act.put, List.setIfInBounds_toArray, List.set_cons_zero, List.set_cons_succ]) | (refine walkR_skip rfl (by decide +kernel) rfl (fun _ _ _ h => h) hE ?_; simp only [Act.put, List.setIfInBounds_toArray, List.set_cons_zero, List.set_cons_succ])))
      (refine walkR_only (fun w' => Ext w2 w') rfl (by decide +kernel) rfl ?_ ?_)
      · exact fun _ h => h
      intro K hK
      go_simp
      refine hK _ _ (hE.trans (Ext.alloc _ (.cells #[.int .i64 (H + L * Z)] 3))) ?_
      clear hK K
      have hE3 := hidP (HA2.out.trans (hE.trans (Ext.alloc _ (.cells #[.int .i64 (H + L * Z)] 3))))
      have HO3 := hidP (HO.out.below hE3.out)
      have HI3 := hidP (ints_one w2.drew (H + L * Z) 3)
      have HX3 := hidP (HX.out.trans hE3.out)
      clear hE
      (try simp only [Act.put, List.setIfInBounds_toArray, List.set_cons_zero, List.set_cons_succ])
      (refine walkR_tail (by rfl) (by kernel_rfl) ?_; simp only [List.drop_succ_cons, List.drop_zero])
      go_wp2_with (at_builtin; refine wpList_append_ints rfl (.tmp 16) (.tmp 30) rfl w.heap.size (some ⟨g, 0, none⟩) (k + 1) co _ rfl HO3.out (some ⟨w2.heap.size, 0, none⟩) 1 1 [H + L * Z] rfl HI3.out (fun e => by cases e) (by omega) HX3.out.size ?_; intro a5 c5 w5 ho5 hg5; have HX5 := hidP (grown_ext hg5 HX3.out HX3.out.size HO3.out.addr_base); rw [← HNx.out] at ho5; have HO5 := hidP ho5; clear ho5 hg5)
      obtain ⟨g5, e5, _⟩ := HO5.out.cell 0 (by omega)
      subst e5
      go_roundw
      case rel => exact ⟨k + 1, g5, c5, by omega, rfl, by go_num, HO5, HX5⟩
      case measure => simp [intOf]; omega
    · obtain rfl : n = k := by omega
      go_wp2
      go_ret
      exact ⟨g, co, rfl, HO.out, HX.out⟩
set_option maxHeartbeats 2000000 in
theorem l9Heights_any (i r : Nat) (a : Option Addr) (n c : Nat) (xs : List Stp) (w : World) (h : TermsAt w a n xs) (hp : PathP r xs) (hi : i < r) :
    Calls Tryz.prog 94 #[.int .i64 i, .slice a n c] w fun e w' => ∃ g c', e = .returned (.slice (some ⟨g, 0, none⟩) (n + 1) c') ∧ OwnI w' w.heap.size (some ⟨g, 0, none⟩) (n + 1) c' (hts i xs n) ∧ Ext w w' := by
  have G := hidP h
  have HP := hidP hp
  have hl := hidP h.len
  have hn60 : n ≤ 60 := by have := hp.len; have := h.len; omega
  have HO0 := hidP (own_one w w.heap.size 0 (Nat.le_refl _))
  have HX0 := hidP (Ext.alloc w (.cells #[.int .i64 0] 3))
  clear h hp
  go_enter Tryz.func94, Tryz.ntmps94
  go_wp2
  go_loopw [5, 6] (fun out ii wr => ∃ (k g co : Nat), k ≤ n ∧ out = .slice (some ⟨g, 0, none⟩) (k + 1) co ∧ ii = .int .i64 k ∧ Hid (OwnI wr w.heap.size (some ⟨g, 0, none⟩) (k + 1) co (hts i xs k)) ∧ Hid (Ext w wr)) (fun _ ii _ => n - (intOf ii).toNat)
  case atStart => exact ⟨0, _, _, Nat.zero_le _, rfl, rfl, HO0, HX0⟩
  case round =>
    obtain ⟨k, g, co, hk, rfl, rfl, HO, HX⟩ := hrel
    by_cases hlt : k < n
    · obtain ⟨b, o, aw, cw, W, L, rfl, HW, HL, hwl, hq⟩ := (G.out.below HX.out).way k hlt
      have HQ := hidP hq
      have hst := ht_step HP.out hi (show k < xs.length by have := hl.out; omega)
      have hwr := (HP.out.way k (by have := hl.out; omega)).1
      rw [HW.out] at hst hwr
      rw [HL.out] at hst
      obtain ⟨q1, q2, qi⟩ := hq wr (Ext.refl wr)
      obtain ⟨bw, ow, rfl, hwi⟩ := qi.one i (by omega)
      have hiw : (i : Int) < (W.length : Int) := by omega
      have hi0 : (0 : Int) ≤ (i : Int) := by omega
      obtain ⟨Z, hZ⟩ : ∃ Z, Z = W.getD i 0 := ⟨_, rfl⟩
      obtain ⟨H, hH⟩ : ∃ H, H = htAt i xs k := ⟨_, rfl⟩
      rw [← hZ, ← hH] at hst
      rw [← hZ] at hwi
      have HWi := hidP hwi
      have HG : Hid (∀ w', Ext wr w' → w'.cell? ⟨g, k, none⟩ = some (.int .i64 H)) := by
        show ∀ w', _
        intro w' hx
        obtain ⟨g', e', _, _, hc, _⟩ := (HO.out.below hx).cell k (by omega)
        simp only [Option.some.injEq, Addr.mk.injEq, and_true] at e'
        rw [← e', hts_get _ _ _ _ (Nat.le_refl _), ← hH] at hc
        exact hc
      have HNx : Hid (hts i xs (k + 1) = hts i xs k ++ [H + L * Z]) := by
        show _ = _
        rw [hts_succ, hst.next]
      have hmul := hst.mul
      have hadd := hst.add
      have hk1 : (k : Int) < (k : Int) + 1 := by omega
      have hk0 : (0 : Int) ≤ (k : Int) := by omega
      clear hst hZ hH qi hwi hq hwr
      clear q1 q2
      obtain ⟨w2, hw2⟩ : ∃ w2, w2 = wr := ⟨_, rfl⟩
      have HA2 : Hid (Ext wr w2) := by rw [hw2]; exact Ext.refl _
      go_wp2
      rw [← hw2]
      clear hw2
      have hE : Ext w2 w2.drew := Ext.drew w2
      (refine walkR_start (fun w' => Ext w2 w') 21 (by kernel_rfl) ?_; simp only [numbered, List.take_succ_cons, List.take_zero, Nat.zero_add, Nat.reduceAdd, List.length_cons, List.length_nil])
      (repeat (first | (refine walkR_still (v := ?_) rfl (by decide +kernel) rfl (fun _ _ _ h => h) hE ?_ ?_; rotate_left; (focus (intro w' hw'; obtain ⟨q1, q2, _⟩ := HQ.out w' (HA2.out.trans hw'); obtain c1 := HG.out w' (HA2.out.trans hw'); obtain c2 := HWi.out w' (HA2.out.trans hw'); go_simp; all_goals (with_reducible rfl))); simp only [Act.put, List.setIfInBounds_toArray, List.set_cons_zero, List.set_cons_succ]) | (refine walkR_skip rfl (by decide +kernel) rfl (fun _ _ _ h => h) hE ?_; simp only [Act.put, List.setIfInBounds_toArray, List.set_cons_zero, List.set_cons_succ])))
      (refine walkR_only (fun w' => Ext w2 w') rfl (by decide +kernel) rfl ?_ ?_)
      · exact fun _ h => h
      intro K hK
      go_simp
      refine hK _ _ (hE.trans (Ext.alloc _ (.cells #[.int .i64 (H + L * Z)] 3))) ?_
      clear hK K
      have hE3 := hidP (HA2.out.trans (hE.trans (Ext.alloc _ (.cells #[.int .i64 (H + L * Z)] 3))))
      have HO3 := hidP (HO.out.below hE3.out)
      have HI3 := hidP (ints_one w2.drew (H + L * Z) 3)
      have HX3 := hidP (HX.out.trans hE3.out)
      clear hE
      (try simp only [Act.put, List.setIfInBounds_toArray, List.set_cons_zero, List.set_cons_succ])
      (refine walkR_tail (by rfl) (by kernel_rfl) ?_; simp only [List.drop_succ_cons, List.drop_zero])
      go_wp2_with (at_builtin; refine wpList_append_ints rfl (.tmp 14) (.tmp 34) rfl w.heap.size (some ⟨g, 0, none⟩) (k + 1) co _ rfl HO3.out (some ⟨w2.heap.size, 0, none⟩) 1 1 [H + L * Z] rfl HI3.out (fun e => by cases e) (by omega) HX3.out.size ?_; intro a5 c5 w5 ho5 hg5; have HX5 := hidP (grown_ext hg5 HX3.out HX3.out.size HO3.out.addr_base); rw [← HNx.out] at ho5; have HO5 := hidP ho5; clear ho5 hg5)
      obtain ⟨g5, e5, _⟩ := HO5.out.cell 0 (by omega)
      subst e5
      go_roundw
      case rel => exact ⟨k + 1, g5, c5, by omega, rfl, by go_num, HO5, HX5⟩
      case measure => simp [intOf]; omega
    · obtain rfl : n = k := by omega
      go_wp2
      go_ret
      exact ⟨g, co, rfl, HO.out, HX.out⟩
end Go.Proofs.YtfikkfbnlegflaaGreatDoor
