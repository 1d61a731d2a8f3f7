/-
  The rows that are connected with a row, by the reference.
-/
import Derived.Test.YtnfbfdamlnjblaaGreatDoorCarS
namespace Go.Proofs.YtnfbfdamlnjblaaGreatDoor
open Go.RowKit

theorem nodup_le : ∀ (r : Nat) (l : List Nat), l.Nodup → (∀ a ∈ l, a < r) → l.length ≤ r
  | 0, l, _, h => by
    cases l with
    | nil => simp
    | cons a l => have := h a (by simp); omega
  | r + 1, l, hd, h => by
    have ih := nodup_le r (l.erase r) (hd.erase r) (fun a ha => by
      have h1 := List.mem_of_mem_erase ha
      have h2 := h a h1
      have h3 : a ≠ r := by
        intro e
        subst e
        exact (hd.not_mem_erase) ha
      omega)
    rw [List.length_erase] at ih
    split at ih <;> omega
theorem partGo_end (bits : List Bool) (r f k j : Nat) (out : List Nat) (h : ¬ k < out.length) : partGo bits r f k j out = out := by
  cases f with
  | zero => rfl
  | succ f => rw [partGo, if_neg h]
theorem partGo_next (bits : List Bool) (r f k : Nat) (out : List Nat) (h : k < out.length) : partGo bits r (f + 1) k r out = partGo bits r f (k + 1) 0 out := by
  rw [partGo, if_pos h, if_neg (Nat.lt_irrefl _)]
theorem partGo_step (bits : List Bool) (r f k j : Nat) (out : List Nat) (h : k < out.length) (hj : j < r) : partGo bits r (f + 1) k j out = partGo bits r f k (j + 1) (if bits.getD (out.getD k 0 * r + j) false && !out.contains j then out ++ [j] else out) := by
  rw [partGo, if_pos h, if_pos hj]
theorem bits_at (xs : List Int) (r a b : Nat) : (bitsOf xs).getD (a * r + b) false = decide (atM xs r a b ≠ 0) := bitAt_eq
set_option maxRecDepth 100000 in
set_option maxHeartbeats 4000000 in
theorem l5Part_any (r : Nat) (hr : r ≤ 4) (xs : List Int) (ac : Option Addr) (cc : Nat) (i : Nat) (hi : i < r) (w : World) (h : IntsAt w ac (r * r) xs) :
    Calls Tryz.prog 181 #[carV r ac (r * r) cc, .int .i64 i] w fun e w' => ∃ a n c, e = .returned (.slice a n c) ∧ OwnI w' w.heap.size a n c (natI (partL (bitsOf xs) r i)) ∧ Ext w w' ∧ (partL (bitsOf xs) r i).Nodup ∧ (∀ x ∈ partL (bitsOf xs) r i, x < r) := by
  have hx0 := Ext.alloc w (.cells #[.int .i64 r, .slice ac (r * r) cc] 55)
  have hca := CarAt.new w _ rfl r ac (r * r) cc 55
  have H := hidP (h.below hx0)
  obtain ⟨w0, hw0⟩ : ∃ w0, w0 = w.alloc (.cells #[.int .i64 r, .slice ac (r * r) cc] 55) := ⟨_, rfl⟩
  obtain ⟨b2, hb2⟩ : ∃ b, b = w.heap.size := ⟨_, rfl⟩
  have HC : Hid (CarAt w0 b2 r ac (r * r) cc) := by rw [hw0, hb2]; exact hca
  have HX0 : Hid (Ext w w0) := by rw [hw0]; exact hx0
  have H0 : Hid (IntsAt w0 ac (r * r) xs) := by rw [hw0]; exact H.out
  have hP : partL (bitsOf xs) r i = partGo (bitsOf xs) r 64 0 0 [i] := rfl
  generalize partL (bitsOf xs) r i = P at *
  have HP := hidP hP
  have hm25 : (r - 0) * (r + 1) + (r + 1) ≤ 64 := by
    have : (r - 0) * (r + 1) ≤ 4 * 5 := Nat.mul_le_mul (by omega) (by omega)
    omega
  clear h hx0 hca H hP
  go_enter Tryz.func181, Tryz.ntmps181
  go_wp2
  rw [← hw0, ← hb2]
  have hxl := Ext.alloc w0 (.cells #[.int .i64 i] 3)
  have hsz : w0.heap.size = b2 + 1 := by rw [hw0, hb2]; simp
  have HO0 : Hid (OwnI (w0.alloc (.cells #[.int .i64 i] 3)) w0.heap.size (some ⟨b2 + 1, 0, none⟩) 1 1 (natI [i])) := by
    rw [show b2 + 1 = w0.heap.size from hsz.symm]
    refine ⟨?_⟩
    have := World.ownsRow_lit (e := 3) (size := 1) (base := w0.heap.size) w0 #[.int .i64 i] 1 (Nat.le_refl _) (by unfold maxLen; omega) (by simp)
    simpa [ivs, natI] using this
  have HXl := hidP hxl
  clear hw0 hb2 hxl hsz
  go_loopw [5, 6] (fun u t wr => ∃ (k f : Nat) (out : List Nat) (av : Option Addr) (cv : Nat), k ≤ out.length ∧ t = .int .i64 k ∧ u = .slice av out.length cv ∧ Hid out.Nodup ∧ Hid (∀ x ∈ out, x < r) ∧ Hid (P = partGo (bitsOf xs) r f k 0 out) ∧ Hid ((r - k) * (r + 1) + (r + 1) ≤ f) ∧ Hid (OwnI wr w0.heap.size av out.length cv (natI out)) ∧ Hid (Ext w0 wr)) (fun _ t _ => r - (intOf t).toNat)
  case atStart => exact ⟨0, 64, [i], _, 1, by simp, rfl, rfl, by show List.Nodup _; simp, fun x hx => by simp at hx; omega, HP, hm25, HO0, HXl⟩
  case round =>
    clear HO0 HXl HP hm25
    obtain ⟨k, f, out, av, cv, hk, rfl, rfl, HN, HLt, HP, HF, HO, HX⟩ := hrel
    have hlr := nodup_le r out HN.out HLt.out
    by_cases hlt : k < out.length
    · have HF2 : Hid ((r - k) * (r + 1) + (r - 0) + 1 ≤ f) := HF.out
      go_wp2
      go_loopw [5, 7] (fun u t wr => ∃ (j f : Nat) (out : List Nat) (av : Option Addr) (cv : Nat), j ≤ r ∧ t = .int .i64 j ∧ u = .slice av out.length cv ∧ k < out.length ∧ Hid out.Nodup ∧ Hid (∀ x ∈ out, x < r) ∧ Hid (P = partGo (bitsOf xs) r f k j out) ∧ Hid ((r - k) * (r + 1) + (r - j) + 1 ≤ f) ∧ Hid (OwnI wr w0.heap.size av out.length cv (natI out)) ∧ Hid (Ext w0 wr)) (fun _ t _ => r - (intOf t).toNat)
      case atStart => exact ⟨0, f, out, av, cv, Nat.zero_le _, rfl, rfl, hlt, HN, HLt, HP, HF2, HO, HX⟩
      case round =>
        clear HO HX HP HF HF2 HN HLt hlt hk hlr
        obtain ⟨j, f, out, av, cv, hj, rfl, rfl, hlt, HN, HLt, HP, HF, HO, HX⟩ := hrel
        have hlr := nodup_le r out HN.out HLt.out
        obtain ⟨f, rfl⟩ : ∃ f', f = f' + 1 := ⟨f - 1, by have := HF.out; omega⟩
        by_cases hjr : j < r
        · have HS := hidP (partGo_step (bitsOf xs) r f k j out hlt hjr)
          rw [bits_at] at HS
          obtain ⟨g, rfl, _, _, hq, _⟩ := HO.out.cell k hlt
          rw [natI_getD] at hq
          have hkr : out.getD k 0 < r := HLt.out _ (getD_mem hlt)
          have HAt := hidP (fun w' (hx : Ext wr w') => l5At_any r ac (r * r) cc xs (out.getD k 0) j w' ((H0.out.below HX.out).below hx) (Int.natCast_mul r r) (by omega) (by omega) (by omega))
          rw [Int.toNat_natCast] at HAt
          have HFd := hidP (fun w' (hx : Ext wr w') => l1Find_any (some ⟨g, 0, none⟩) out.length cv (natI out) (j : Int) w' (HO.out.below hx).ints (by omega))
          have HQ := hidP (fun w' (hx : Ext wr w') => (hx.cell (p := ⟨g, k, none⟩) (World.block_lt_of_cell? wr _ hq)).trans hq)
          have HMem : Hid ((j : Int) ∈ natI out ↔ j ∈ out) := by
            show _ ↔ _
            unfold natI
            rw [List.mem_map]
            exact ⟨fun ⟨a, h, e⟩ => by obtain rfl : a = j := by omega
                                       exact h, fun h => ⟨j, h, rfl⟩⟩
          have hE : Ext wr wr.drew := Ext.drew wr
          generalize out.getD k 0 = ok at *
          generalize atM xs r ok j = x at *
          clear hq
          by_cases hz : x = 0
          · have hz' : (x != 0) = false := by simpa using hz
            rw [hz] at HS
            have HP2 : Hid (P = partGo (bitsOf xs) r f k (j + 1) out) := by
              show _ = _
              rw [HP.out, HS.out]
              simp
            clear hz HS
            obtain ⟨f0, f1⟩ := HC.out.below HX.out
            go_wp2
            clear f0 f1
            (refine walkR_start (fun w' => Ext wr w') 12 (by kernel_rfl) ?_; simp only [numbered, List.take_succ_cons, List.take_zero, Nat.zero_add, Nat.reduceAdd, List.length_cons, List.length_nil])
            (repeat (first | (refine walkR_still (v := ?_) rfl (by decide +kernel) rfl (fun _ _ _ h => h) hE ?_ ?_; rotate_left; (focus (intro w' hw'; obtain ⟨f0, f1⟩ := HC.out.below (HX.out.trans hw'); have q' := HQ.out w' hw'; go_simp; all_goals (with_reducible rfl))); simp only [Act.put, List.setIfInBounds_toArray, List.set_cons_zero, List.set_cons_succ]) | (refine walkR_skip rfl (by decide +kernel) rfl (fun _ _ _ h => h) hE ?_; simp only [Act.put, List.setIfInBounds_toArray, List.set_cons_zero, List.set_cons_succ])))
            (refine walkR_only (fun w' => Ext wr w') rfl (by decide +kernel) rfl (fun _ h => h) ?_; intro K hK; go_simp; refine (HAt.out _ hE).mono ?_; rintro e w2 ⟨rfl, hx2⟩; refine hK _ _ (hE.trans hx2) ?_; clear hK K; (try simp only [Act.put, List.setIfInBounds_toArray, List.set_cons_zero, List.set_cons_succ]))
            have hE2 := hE.trans hx2
            (repeat (first | (refine walkR_still (v := ?_) rfl (by decide +kernel) rfl (fun _ _ _ h => h) hE2 ?_ ?_; rotate_left; (focus (intro w' hw'; skip; go_simp; all_goals (with_reducible rfl))); simp only [Act.put, List.setIfInBounds_toArray, List.set_cons_zero, List.set_cons_succ]) | (refine walkR_skip rfl (by decide +kernel) rfl (fun _ _ _ h => h) hE2 ?_; simp only [Act.put, List.setIfInBounds_toArray, List.set_cons_zero, List.set_cons_succ])))
            (refine walkR_tail (by rfl) (by kernel_rfl) ?_; simp only [List.drop_succ_cons, List.drop_zero])
            go_wp2
            go_roundw
            case rel => exact ⟨j + 1, f, out, _, cv, by omega, by go_num, rfl, hlt, HN, HLt, HP2, by show _ ≤ _; have := HF.out; omega, HO.out.below hE2, HX.out.trans hE2⟩
            case measure => simp [intOf]; omega
          · have hz' : (x != 0) = true := by simpa using hz
            have HZ := hidP hz
            clear hz
            obtain ⟨f0, f1⟩ := HC.out.below HX.out
            go_wp2
            clear f0 f1
            (refine walkR_start (fun w' => Ext wr w') 12 (by kernel_rfl) ?_; simp only [numbered, List.take_succ_cons, List.take_zero, Nat.zero_add, Nat.reduceAdd, List.length_cons, List.length_nil])
            (repeat (first | (refine walkR_still (v := ?_) rfl (by decide +kernel) rfl (fun _ _ _ h => h) hE ?_ ?_; rotate_left; (focus (intro w' hw'; obtain ⟨f0, f1⟩ := HC.out.below (HX.out.trans hw'); have q' := HQ.out w' hw'; go_simp; all_goals (with_reducible rfl))); simp only [Act.put, List.setIfInBounds_toArray, List.set_cons_zero, List.set_cons_succ]) | (refine walkR_skip rfl (by decide +kernel) rfl (fun _ _ _ h => h) hE ?_; simp only [Act.put, List.setIfInBounds_toArray, List.set_cons_zero, List.set_cons_succ])))
            (refine walkR_only (fun w' => Ext wr w') rfl (by decide +kernel) rfl (fun _ h => h) ?_; intro K hK; go_simp; refine (HAt.out _ hE).mono ?_; rintro e w2 ⟨rfl, hx2⟩; refine hK _ _ (hE.trans hx2) ?_; clear hK K; (try simp only [Act.put, List.setIfInBounds_toArray, List.set_cons_zero, List.set_cons_succ]))
            have hE2 := hE.trans hx2
            (repeat (first | (refine walkR_still (v := ?_) rfl (by decide +kernel) rfl (fun _ _ _ h => h) hE2 ?_ ?_; rotate_left; (focus (intro w' hw'; skip; go_simp; all_goals (with_reducible rfl))); simp only [Act.put, List.setIfInBounds_toArray, List.set_cons_zero, List.set_cons_succ]) | (refine walkR_skip rfl (by decide +kernel) rfl (fun _ _ _ h => h) hE2 ?_; simp only [Act.put, List.setIfInBounds_toArray, List.set_cons_zero, List.set_cons_succ])))
            (refine walkR_only (fun w' => Ext wr w') rfl (by decide +kernel) rfl (fun _ h => h) ?_; intro K hK; go_simp; refine (HFd.out _ hE2).mono ?_; rintro e w3 ⟨v, rfl, hv, hv1, hv2, rfl⟩; refine hK _ _ (hE2) ?_; clear hK K; (try simp only [Act.put, List.setIfInBounds_toArray, List.set_cons_zero, List.set_cons_succ]))
            (refine walkR_tail (by rfl) (by kernel_rfl) ?_; simp only [List.drop_succ_cons, List.drop_zero])
            by_cases hm : j ∈ out
            · have hv0 : 0 ≤ v := hv.2 (HMem.out.2 hm)
              have HP2 : Hid (P = partGo (bitsOf xs) r f k (j + 1) out) := by
                show _ = _
                rw [HP.out, HS.out]
                simp [hm]
              have hvn : ¬ (v < 0) := by omega
              clear hv hm
              go_wp2
              go_roundw
              case rel => exact ⟨j + 1, f, out, _, cv, by omega, by go_num, rfl, hlt, HN, HLt, HP2, by show _ ≤ _; have := HF.out; omega, HO.out.below hE2, HX.out.trans hE2⟩
              case measure => simp [intOf]; omega
            · have hvn : v < 0 := by
                rcases Int.lt_or_le v 0 with h | h
                · exact h
                · exact absurd (HMem.out.1 (hv.1 h)) hm
              have HP2 : Hid (P = partGo (bitsOf xs) r f k (j + 1) (out ++ [j])) := by
                show _ = _
                rw [HP.out, HS.out]
                simp [hm, HZ.out]
              have HN2 : Hid ((out ++ [j]).Nodup) := by
                show List.Nodup _
                rw [List.nodup_append]
                exact ⟨HN.out, by simp, fun a ha b hb e => by simp at hb; subst hb; subst e; exact hm ha⟩
              have HLt2 : Hid (∀ x ∈ out ++ [j], x < r) := fun x hx => by
                simp only [List.mem_append, List.mem_singleton] at hx
                rcases hx with hx | rfl
                · exact HLt.out x hx
                · exact hjr
              have hxb := Ext.alloc w2 (.cells #[.int .i64 j] 3)
              have HO2 := hidP (HO.out.below (hE2.trans hxb))
              have HI2 : Hid (IntsAt (w2.alloc (.cells #[.int .i64 j] 3)) (some ⟨w2.heap.size, 0, none⟩) 1 [(j : Int)]) := ⟨rfl, fun q hq => ⟨_, 0, rfl, by
                obtain rfl : q = 0 := by omega
                exact (cell_top _ _ _ _ _ rfl).trans rfl⟩⟩
              have HX2 := hidP (HX.out.trans (hE2.trans hxb))
              clear hv hm hxb hv1 hv2
              go_wp2_with (at_builtin; refine wpList_append_ints rfl (.tmp 36) (.tmp 38) rfl w0.heap.size (some ⟨g, 0, none⟩) out.length cv (natI out) rfl HO2.out (some ⟨w2.heap.size, 0, none⟩) 1 1 [(j : Int)] rfl HI2.out (fun e => by cases e) (by omega) HX2.out.size ?_; intro a5 c5 w5 ho5 hg5)
              have HX5 := hidP (grown_ext hg5 HX2.out HX2.out.size HO2.out.addr_base)
              rw [show natI out ++ [(j : Int)] = natI (out ++ [j]) by rw [natI_append]; rfl] at ho5
              have HO5 := hidP ho5
              clear ho5 hg5
              go_roundw
              case rel => exact ⟨j + 1, f, out ++ [j], a5, c5, by omega, by go_num, by simp, by simp; omega, HN2, HLt2, HP2, by show _ ≤ _; have := HF.out; omega, by simpa using HO5, HX5⟩
              case measure => simp [intOf]; omega
        · obtain rfl : j = r := by omega
          have HP2 : Hid (P = partGo (bitsOf xs) j f (k + 1) 0 out) := by
            show _ = _
            rw [HP.out, partGo_next _ _ _ _ _ hlt]
          have HF3 : Hid ((j - (k + 1)) * (j + 1) + (j + 1) ≤ f) := by
            have := HF.out
            show _ ≤ _
            have e : j - k = (j - (k + 1)) + 1 := by omega
            rw [e, Nat.add_mul, Nat.one_mul] at this
            omega
          obtain ⟨f0, f1⟩ := HC.out.below HX.out
          go_wp2
          go_roundw
          case rel => exact ⟨k + 1, f, out, av, cv, by omega, by go_num, rfl, HN, HLt, HP2, HF3, HO, HX⟩
          case measure => simp [intOf]; omega
    · have HE : Hid (P = out) := by
        show _ = _
        rw [HP.out, partGo_end _ _ _ _ _ _ hlt]
      go_wp2
      go_ret
      refine ⟨_, _, _, rfl, ?_, HX0.out.trans HX.out, ?_, ?_⟩
      · rw [HE.out]
        exact HO.out.base HX0.out.size
      · rw [HE.out]
        exact HN.out
      · rw [HE.out]
        exact HLt.out
end Go.Proofs.YtnfbfdamlnjblaaGreatDoor
